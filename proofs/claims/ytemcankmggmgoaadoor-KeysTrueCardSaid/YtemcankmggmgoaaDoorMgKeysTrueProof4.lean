/- Hash, stream and Stream of the sponge; sponge.tag and sponge.Tag; mintvaultlaw1.SpongeTurns: the walk of the law; The reference's Hash and Stream; the law SpongeHashes; Arguments that were handed in, opened into the words of Mem; The reference's Tag; A log of the sponge, the reference's: NewLog, Say, Ask, Clone; The tree, plain: what a path leads to, from its end (the document) and from its beginning (the program); The tree: node, leafHash, bytes.Equal, sized, lists, small; the reference's leaf, node, half, sized; keys: child, key; keys.Derive; mintvaultlaw1.SpongeBegins: the walk of the law; zn.All; sigma.Extract; The law NumReduces; num.Add, Sub, Mul, Inv: what they answer; The law NumReckons; sigma.Extract; the reference's Scalar, Q, Extract; The reference's Q, Scalar, Extract; keys.Scalar; Plain: how many bits are set, in the ways of math/bits; the lowest bit; math/bits: OnesCount64, TrailingZeros64; math/bits.TrailingZeros64: the walk; ; keys.Place of a denomination, keys.Split, the reference's Split; group: none, nothing, opposite; Two blocks that were made in the other order; A region that draws its order, told as a chain of steps beside fresh blocks (allocs) that may be made at any time between their opening and their joint: each step is shown once; group: double; num.Sqrt: what it answers. -/
import Derived.Test.YtemcankmggmgoaaDoorMgKeysTrueProof3
import Derived.Test.YtemcankmggmgoaaDoorMgKeysTrueProof1
import Derived.SliceStrings
import Derived.SizedLaws
import Derived.OpenShut
import Derived.ProofKit
import Derived.IntWalk
import Derived.Deep.DeepCutAuto
import Derived.Test.YtemcankmggmgoaaDoorMgKeysTrueProof2
import Derived.Test.YtemcankmggmgoaaDoorProg
import Derived.WalkKit
import Derived.Shelf.Spec.TrailingZeros
namespace Go.Proofs.YtemcankmggmgoaaDoor
open Go.RowKit Go.Mv Mvp
attribute [local irreducible] permS permP toB turnsK squeeze permN
theorem built_abs : Tryd.prog.built 92 [] = some (abs (zeros25, 0)).toArray := by unfold abs; kernel_rfl

theorem feed_ok (l : List UInt8) : (feed (zeros25, 0) l).1.length = 25 ∧ (feed (zeros25, 0) l).2 < 136 := ⟨by rw [feed_len]; rfl, feed_lt _ _ (by decide)⟩
set_option maxHeartbeats 2000000 in
set_option maxRecDepth 1000000 in
theorem stream_any (b : Option Addr) (n c : Nat) (l : List UInt8) (m : Nat) (w : World) (hm : m ≤ 20000) (hn : n ≤ 1000000) (hnc : n ≤ c) (hb : RdB w b n l) (ho : Old w b) :
    Calls Tryd.prog 46 #[.slice b n c, .int .i64 (m : Int)] w fun r w' => ∃ v, r = .returned v ∧ Own w' w.heap.size 5 1 v m (bs (spongeB l 31 m)) ∧ Fr Nob w w' := by
  go_enter Tryd.func46, Tryd.ntmps46
  go_wp2_with (with_reducible refine wl_stop (o := ⟨some 6, _, _, _, _, _⟩) ?_)
  refine wl_build0 rfl rfl _ built_abs ?_
  refine wl_box rfl rfl rfl (abs (zeros25, 0)) rfl ?_
  intro w1 hg1 hf1 hz1
  have hb1 := hb.still hf1
  have hoff : Off (One w.heap.size) b := ho.off (Nat.le_refl _)
  generalize hgw : w.heap.size = g at *
  have HG := Lib.hid hgw; clear hgw
  clear hb ho
  go_wp2_with fail
  refine (write_any g (zeros25, 0) b n c l w1 rfl (by decide) hn hnc hg1 hb1 hoff).mono ?_
  rintro e w2 ⟨rfl, hg2, hf2⟩
  obtain ⟨h1, h2⟩ := feed_ok l
  have hfr2 : Fr Nob w w2 := hf1.new hf2 (by rw [HG.out]; exact Nat.le_refl _)
  generalize hst : feed (zeros25, 0) l = st at *
  have HST := Lib.hid hst; clear hst
  clear hg1 hf1 hz1 hb1 hf2
  go_wp2_with fail
  refine (out_any g st.1 st.2 31 m w2 h1 h2 hm hg2).mono ?_
  rintro e w3 ⟨v, rfl, hown, hf3⟩
  go_wp2_with fail
  go_ret
  refine ⟨v, rfl, ?_, hfr2.new hf3 (by rw [HG.out]; exact Nat.le_refl _)⟩
  have := hown.mono (base' := g) (by have := hg2.lt; omega)
  rw [← HST.out] at this
  rw [HG.out]
  exact this
set_option maxHeartbeats 2000000 in
set_option maxRecDepth 1000000 in
theorem Stream_any (b : Option Addr) (n c : Nat) (l : List UInt8) (m : Int) (w : World) (hn : n ≤ 1000000) (hnc : n ≤ c) (hb : RdB w b n l) (ho : Old w b) :
    Calls Tryd.prog 21 #[.slice b n c, .int .i64 m] w fun r w' => (0 ≤ m ∧ m ≤ 16384 ∧ ∃ v, r = .returned (.tuple #[v, .int .i64 0]) ∧ Own w' w.heap.size 5 1 v m.toNat (bs (spongeB l 31 m.toNat)) ∧ Fr Nob w w') ∨ (¬ (0 ≤ m ∧ m ≤ 16384) ∧ r = .returned (.tuple #[.slice none 0 0, .int .i64 1]) ∧ Fr Nob w w') := by
  go_enter Tryd.func21, Tryd.ntmps21
  by_cases h0 : m < 0
  · go_wp2_with fail
    go_ret2
    exact .inr ⟨by omega, rfl, Fr.refl _ _⟩
  · by_cases h1 : 16384 < m
    · go_wp2_with fail
      go_ret2
      first | exact .inr ⟨by omega, rfl, Fr.refl _ _⟩ | exact .inr ⟨rfl, Fr.refl _ _⟩ | exact .inr (Fr.refl _ _) | exact ⟨rfl, Fr.refl _ _⟩ | exact Fr.refl _ _
    · obtain ⟨k, rfl⟩ : ∃ k : Nat, m = k := ⟨m.toNat, by omega⟩
      go_wp2_with fail
      refine (stream_any b n c l k w (by omega) hn hnc hb ho).mono ?_
      rintro e w3 ⟨v, rfl, hown, hf3⟩
      go_wp2_with fail
      go_ret2
      exact .inl ⟨by omega, by omega, v, rfl, by simpa using hown, hf3⟩
end Go.Proofs.YtemcankmggmgoaaDoor

/- sponge.tag and sponge.Tag -/
namespace Go.Proofs.YtemcankmggmgoaaDoor
open Go.RowKit Go.Mv Mvp
attribute [local irreducible] permS permP toB turnsK squeeze permN spongeB
/-- the value reads as these bytes, from an old block -/
def PartIs (w : World) (v : Value) (l : List UInt8) : Prop := ∃ a n c, v = .slice a n c ∧ n ≤ c ∧ n ≤ 1000000 ∧ RdB w a n l ∧ Old w a
theorem PartIs.still {w w' : World} {v : Value} {l : List UInt8} (h : PartIs w v l) (hf : Fr Nob w w') : PartIs w' v l := by
  obtain ⟨a, n, c, h1, h2, h3, h4, h5⟩ := h
  exact ⟨a, n, c, h1, h2, h3, h4.still hf, h5.grow hf.size⟩
/-- a slice of slices of bytes -/
def PartsAt (w : World) (a : Option Addr) (ls : List (List UInt8)) : Prop := ∃ vs : List Value, Rd w a ls.length vs ∧ ∀ (i : Nat) (v : Value), vs[i]? = some v → ∃ l : List UInt8, ls[i]? = some l ∧ PartIs w v l
theorem PartsAt.get {w : World} {a : Option Addr} {ls : List (List UInt8)} (h : PartsAt w a ls) {j : Nat} (hj : j < ls.length) : ∃ b o v, a = some ⟨b, o, none⟩ ∧ w.cell? ⟨b, o + j, none⟩ = some v ∧ PartIs w v (ls.getD j []) := by
  obtain ⟨vs, hr, hv⟩ := h
  obtain ⟨b, o, rfl, hat⟩ := hr.at (by omega)
  have hl := hr.len
  obtain ⟨l, h1, h2⟩ := hv j (vs[j]'(by omega)) (List.getElem?_eq_getElem (by omega))
  refine ⟨b, o, vs[j]'(by omega), rfl, hat j _ (List.getElem?_eq_getElem (by omega)), ?_⟩
  rwa [List.getD_eq_getElem?_getD, h1]
theorem PartsAt.still {w w' : World} {a : Option Addr} {ls : List (List UInt8)} (h : PartsAt w a ls) (hf : Fr Nob w w') : PartsAt w' a ls := by
  obtain ⟨vs, hr, hv⟩ := h
  refine ⟨vs, hr.still hf, fun i v hi => ?_⟩
  obtain ⟨l, h1, h2⟩ := hv i v hi
  exact ⟨l, h1, h2.still hf⟩
/-- what a tag is made of -/
def tagText (s : List UInt8) (ls : List (List UInt8)) : List UInt8 := framesL (s :: ls)
def tagL (s : List UInt8) (ls : List (List UInt8)) : List UInt8 := spongeB (tagText s ls) 6 32

theorem z25 : ((zeros25, 0) : List UInt64 × Nat).1.length = 25 := rfl
attribute [local irreducible] feed frameL framesL abs zeros25
set_option maxHeartbeats 400000 in
set_option maxRecDepth 1000000 in
theorem tag_any (s : ByteArray) (a : Option Addr) (c : Nat) (ls : List (List UInt8)) (w : World) (hs : s.size ≤ 1000000) (hm : ls.length ≤ 1000000) (hb : PartsAt w a ls) :
    Calls Tryd.prog 17 #[.string s, .slice a ls.length c] w fun r w' => ∃ v, r = .returned v ∧ Own w' w.heap.size 5 1 v 32 (bs (tagL s.data.toList ls)) ∧ Fr Nob w w' := by
  go_enter Tryd.func17, Tryd.ntmps17
  go_wp2_with (with_reducible refine wl_stop (o := ⟨some 8, _, _, _, _, _⟩) ?_)
  refine wl_build0 rfl rfl _ built_abs ?_
  refine wl_box rfl rfl rfl (abs (zeros25, 0)) rfl ?_
  intro w1 hg1 hf1 hz1
  clear hz1
  have hst1 := z25
  have hst2 : ((zeros25, 0) : List UInt64 × Nat).2 < 136 := Nat.zero_lt_succ _
  obtain ⟨st0, hst0⟩ : ∃ st0 : List UInt64 × Nat, st0 = (zeros25, 0) := ⟨_, rfl⟩
  rw [← hst0] at hg1 hst1 hst2
  have HST0 := Lib.hid hst0; clear hst0
  generalize hgw : w.heap.size = g at *
  have HG := Lib.hid hgw; clear hgw
  go_wp2_with (with_reducible refine wl_stop (o := ⟨some 12, _, _, _, _, _⟩) ?_)
  refine wl_bytes rfl rfl Tryd.underlying9 Tryd.underlying23 Tryd.underlying5 rfl (by unfold maxLen; omega) w1.heap.size (Nat.le_refl _) ?_
  intro cap w2 hown2 hf2 hz2
  have hg2 := hg1.keep hf2 id
  have hfr2 := hf1.then hf2
  have hgl := hg1.lt
  obtain ⟨a2, c2, hv2, hc2, hrd2, -⟩ := hown2.form
  cases hv2
  rw [Nat.mul_one] at hrd2
  go_wp2_with fail
  have hoff0 : Off (One g) (some (⟨w1.heap.size, 0, none⟩ : Addr)) := fun x hx (e : x.block = g) => by
    cases hx
    exact absurd e (by show ¬ (w1.heap.size = g); omega)
  have hcall := frame_any g st0 (some ⟨w1.heap.size, 0, none⟩) s.size cap s.data.toList w2 hst1 hst2 hs hc2 hg2 hrd2 hoff0
  refine hcall.mono ?_
  rintro e w3 ⟨rfl, hg3, hf3⟩
  have hfr3 : Fr Nob w w3 := hfr2.new hf3 (by rw [HG.out]; exact Nat.le_refl _)
  clear hg1 hf1 hown2 hf2 hz2 hg2 hfr2 hrd2 hf3 hgl
  go_wp2_with fail
  go_loopw [16] (fun i wr => ∃ j : Nat, j ≤ ls.length ∧ i = .int .i64 (j : Int) ∧ Has wr g (abs (feed st0 (framesL (s.data.toList :: ls.take j)))) 92 ∧ Fr Nob w wr) (fun i _ => (ls.length - intOf i).toNat)
  case atStart => exact ⟨0, by omega, rfl, by rw [List.take_zero, framesL_one]; exact hg3, hfr3⟩
  case round =>
    obtain ⟨j, hj, rfl, hgj, hfj⟩ := hrel
    clear hg3 hfr3
    by_cases hlt : j < ls.length
    · have hltI : (j : Int) < (ls.length : Int) := by omega
      obtain ⟨b, o, v, rfl, hc, hp⟩ := (hb.still hfj).get hlt
      obtain ⟨b', o', v', hv', hc', hp'⟩ := hb.get hlt
      simp only [Option.some.injEq, Addr.mk.injEq] at hv'
      obtain ⟨rfl, rfl, -⟩ := hv'
      have hvv : v = v' := by
        have := hfj.cell id hc'
        rw [hc] at this; simpa using this
      subst hvv
      obtain ⟨ap, np, cp, rfl, hp1, hp2, hp3, hp4⟩ := hp'
      have hr3 := hp3.still hfj
      clear hp
      have hoff : Off (One g) ap := hp4.off (by rw [HG.out]; exact Nat.le_refl _)
      go_wp2_with fail
      have hSj : (feed st0 (framesL (s.data.toList :: ls.take j))).1.length = 25 := by rw [feed_len, hst1]
      have hkj := feed_lt (framesL (s.data.toList :: ls.take j)) st0 hst2
      refine (frame_any g (feed st0 (framesL (s.data.toList :: ls.take j))) ap np cp (ls.getD j []) wr hSj hkj hp2 hp1 hgj hr3 hoff).mono ?_
      rintro e w4 ⟨rfl, hg4, hf4⟩
      have hfr4 : Fr Nob w w4 := hfj.new hf4 (by rw [HG.out]; exact Nat.le_refl _)
      rw [← feed_append] at hg4
      have hfl : framesL (s.data.toList :: ls.take j) ++ frameL (ls.getD j []) = framesL (s.data.toList :: ls.take (j + 1)) := by
        rw [List.take_succ_eq_append_getElem hlt, ← List.cons_append, framesL_append, framesL_one, List.getD_eq_getElem?_getD, List.getElem?_eq_getElem hlt]; rfl
      rw [hfl] at hg4
      clear hSj hkj hr3 hgj hfj hf4 hfl
      go_wp2_with fail
      go_roundw
      case rel => exact ⟨j + 1, by omega, by go_num, hg4, hfr4⟩
      case measure => simp [intOf]; omega
    · have hge : ¬ ((j : Int) < (ls.length : Int)) := by omega
      have hjn : j = ls.length := by omega
      have hSj : (feed st0 (framesL (s.data.toList :: ls.take j))).1.length = 25 := by rw [feed_len, hst1]
      have hkj := feed_lt (framesL (s.data.toList :: ls.take j)) st0 hst2
      have hft : framesL (s.data.toList :: ls.take j) = tagText s.data.toList ls := by rw [hjn, List.take_length]; rfl
      rw [hft] at hgj hSj hkj
      generalize hst : feed st0 (tagText s.data.toList ls) = st at *
      have HST := Lib.hid hst; clear hst
      have HJN := Lib.hid hjn; clear hjn
      clear hft
      go_wp2_with fail
      refine (out_any g st.1 st.2 6 32 wr hSj hkj (by omega) hgj).mono ?_
      rintro e w4 ⟨v, rfl, hown, hf4⟩
      go_wp2_with fail
      go_ret
      refine ⟨v, rfl, ?_, hfj.new hf4 (by rw [HG.out]; exact Nat.le_refl _)⟩
      have := hown.mono (base' := g) (by have := hgj.lt; omega)
      rw [HG.out]
      unfold tagL spongeB
      rw [← HST0.out, HST.out]
      exact this

set_option maxHeartbeats 1000000 in
theorem Tag_any (s : ByteArray) (a : Option Addr) (c : Nat) (ls : List (List UInt8)) (w : World) (hs : s.size ≤ 1000000) (hm : ls.length ≤ 1000000) (hb : PartsAt w a ls) :
    Calls Tryd.prog 8 #[.string s, .slice a ls.length c] w fun r w' => ∃ v, r = .returned v ∧ Own w' w.heap.size 5 1 v 32 (bs (tagL s.data.toList ls)) ∧ Fr Nob w w' := by
  go_enter Tryd.func8, Tryd.ntmps8
  go_wp2_with fail
  refine (tag_any s a c ls w hs hm hb).mono ?_
  rintro e w4 ⟨v, rfl, hown, hf4⟩
  go_wp2_with fail
  go_ret
  exact ⟨v, rfl, hown, hf4⟩
end Go.Proofs.YtemcankmggmgoaaDoor

/- mintvaultlaw1.SpongeTurns: the walk of the law -/
namespace Go.Proofs.YtemcankmggmgoaaDoor
open Go.RowKit Go.Mv Mvp

end Go.Proofs.YtemcankmggmgoaaDoor

/- The reference's Hash and Stream; the law SpongeHashes -/
namespace Go.Proofs.YtemcankmggmgoaaDoor
open Go.RowKit Go.Mv Mvp
attribute [local irreducible] permS permP toB turnsK squeeze permN spongeB
theorem own_rd {w : World} {base : Nat} {T : TypeId} {v : Value} {n : Nat} {l : List UInt8} (h : Own w base T 1 v n (bs l)) : ∃ a c, v = .slice a n c ∧ RdB w a n l := by
  obtain ⟨a, c, hv, _, hr, _⟩ := h.form
  rw [Nat.mul_one] at hr
  exact ⟨a, c, hv, hr⟩
end Go.Proofs.YtemcankmggmgoaaDoor

/- Arguments that were handed in, opened into the words of Mem. -/
namespace Go.Mv
open Go.RowKit Go.ChangeShapes Go.WideShapes

section
variable {H : Type} {enc : TypeId × Value → H} {P : Program} {w : World} {base : Nat} {held : Bool} {spare : Nat → Bool}
theorem reach_string {ts : List TypeId} {ds : List (DataW H)} (h : (DataW.weightsEach P ts ds).all (· ≤ reachBytes) = true) {j : Nat} {t : TypeId} {s : ByteArray} (ht : ts[j]? = some t) (hd : ds[j]? = some (.lit (.string s.data.toList))) : s.size ≤ 140737488351232 := by
  have := sized_string h ht hd
  have e : s.data.toList.length = s.size := by simp
  have hr : reachBytes = 140737488351232 := rfl
  omega

theorem i64_wf {n : Int} (h : (Lit.int .i64 n).wf = true) : -9223372036854775808 ≤ n ∧ n ≤ 9223372036854775807 := by
  simpa [Lit.wf, IntKind.min, IntKind.max, IntKind.signed, IntKind.bits] using h
end
end Go.Mv

/- The reference's Tag -/
namespace Go.Proofs.YtemcankmggmgoaaDoor
open Go.RowKit Go.Mv Mvp
attribute [local irreducible] permS permP toB turnsK squeeze permN spongeB feed frameL framesL
end Go.Proofs.YtemcankmggmgoaaDoor

/- A log of the sponge, the reference's: NewLog, Say, Ask, Clone. -/
namespace Go.Proofs.YtemcankmggmgoaaDoor
open Go.RowKit Go.Mv Mvp
attribute [local irreducible] permS permP toB turnsK squeeze permN spongeB feed frameL framesL tagL
theorem info_sl : (Tryd.prog.info? 23).map (fun i => (i.zero, i.size, i.bytes)) = some (some (.slice none 0 0), 1, 24) := by kernel_rfl
/-- parts by their values -/
def Parts (w : World) : List Value → List (List UInt8) → Prop
  | [], [] => True
  | v :: vs, l :: ls => PartIs w v l ∧ Parts w vs ls
  | _, _ => False
theorem Parts.len {w : World} : ∀ {vs : List Value} {ls : List (List UInt8)}, Parts w vs ls → vs.length = ls.length
  | [], [], _ => rfl
  | _ :: _, _ :: _, h => by simp only [List.length_cons]; rw [Parts.len h.2]
  | [], _ :: _, h => h.elim
  | _ :: _, [], h => h.elim
theorem Parts.get {w : World} : ∀ {vs : List Value} {ls : List (List UInt8)}, Parts w vs ls → ∀ (i : Nat) (v : Value), vs[i]? = some v → ∃ l : List UInt8, ls[i]? = some l ∧ PartIs w v l
  | [], [], _, i, v, h => by simp at h
  | x :: vs, l :: ls, h, 0, v, hv => by simp only [List.getElem?_cons_zero, Option.some.injEq] at hv; subst hv; exact ⟨l, rfl, h.1⟩
  | x :: vs, l :: ls, h, i + 1, v, hv => by simp only [List.getElem?_cons_succ] at hv ⊢; exact Parts.get h.2 i v hv
  | [], _ :: _, h, _, _, _ => h.elim
  | _ :: _, [], h, _, _, _ => h.elim
theorem Parts.at {w : World} {g : Nat} {T : TypeId} {vs : List Value} {ls : List (List UInt8)} (h : Parts w vs ls) (hg : Has w g vs T) : PartsAt w (some ⟨g, 0, none⟩) ls :=
  ⟨vs, by have := Rd.whole hg; rwa [h.len] at this, h.get⟩
theorem Parts.cells {w : World} : ∀ {vs : List Value} {ls : List (List UInt8)}, Parts w vs ls → ∀ v ∈ vs, v.cells = #[v]
  | [], _, _, v, h => by simp at h
  | x :: vs, l :: ls, h, v, hv => by
    rcases List.mem_cons.1 hv with rfl | hv
    · obtain ⟨a, n, c, rfl, _⟩ := h.1; rfl
    · exact Parts.cells h.2 v hv
  | _ :: _, [], h, _, _ => h.elim
theorem own_part {w : World} {base n : Nat} {T : TypeId} {v : Value} {l : List UInt8} (h : Own w base T 1 v n (bs l)) (hn : n ≤ 1000000) : PartIs w v l := by
  have h0 := h
  obtain ⟨a, c, rfl, hc, hr, -⟩ := h.form
  rw [Nat.mul_one] at hr
  refine ⟨a, n, c, rfl, hc, hn, hr, ?_⟩
  intro x hx
  exact (h0.lt (by rw [hx]; rfl)).2

theorem tagL_len (k : List UInt8) (ls : List (List UInt8)) : (tagL k ls).length = 32 := by unfold tagL; exact spongeB_len _ _ _
/-! The reference's -/
end Go.Proofs.YtemcankmggmgoaaDoor

/- The tree, plain: what a path leads to, from its end (the document) and from its beginning (the program). -/
namespace Mvt
variable {α : Type} (nd : α → α → α)
/-- the greatest power of two below n -/
def half (n : Nat) : Nat := 2 ^ Nat.log2 (n - 1)
/-- up, as far as nothing stands beside -/
def skip (a e : Nat) : Nat × Nat := if a % 2 = 0 ∧ 0 < a then skip (a / 2) (e / 2) else (a, e)
termination_by a
decreasing_by omega
end Mvt

/- The tree: node, leafHash, bytes.Equal, sized, lists, small; the reference's leaf, node, half, sized. -/
namespace Go.Proofs.YtemcankmggmgoaaDoor
open Go.RowKit Go.Mv Mvp Mvt
attribute [local irreducible] permS permP toB turnsK squeeze permN spongeB feed frameL framesL tagL
theorem Tag_of (k : List UInt8) (hk : k.length ≤ 100) (g c : Nat) (vs : List Value) (ls : List (List UInt8)) (w : World) (hh : Has w g vs 23) (hp : Parts w vs ls) (hm : ls.length ≤ 1000000) :
    Calls Tryd.prog 8 #[.string (mkS k), .slice (some ⟨g, 0, none⟩) ls.length c] w fun r w' => ∃ v, r = .returned v ∧ Own w' w.heap.size 5 1 v 32 (bs (tagL k ls)) ∧ Fr Nob w w' := by
  have := Tag_any (mkS k) (some ⟨g, 0, none⟩) c ls w (by rw [mkS_size]; omega) hm (hp.at hh)
  rwa [mkS_toList] at this

end Go.Proofs.YtemcankmggmgoaaDoor

/- keys: child, key. -/
namespace Mvp
def kChild : List UInt8 := [99, 104, 105, 108, 100]
def kKey : List UInt8 := [107, 101, 121]
end Mvp
namespace Go.Mv
open Mvp
/-- numbers of 32 bits, as cells -/
def u32s (l : List Nat) : List Go.Value := l.map fun (x : Nat) => .int .u32 ((x : Nat) : Int)
theorem rd_at0 {w : World} {b o n : Nat} {vs : List Go.Value} (h : Rd w (some ⟨b, o, none⟩) n vs) (i : Nat) (v : Go.Value) (hv : vs[i]? = some v) : w.cell? ⟨b, o + i, none⟩ = some v := by
  rcases h.2 with h0 | ⟨b', o', he, hc⟩
  · have hl := h.len
    rw [h0] at hl
    rw [List.length_eq_zero_iff.1 hl] at hv; simp at hv
  · simp only [Option.some.injEq, Addr.mk.injEq] at he
    obtain ⟨rfl, rfl, -⟩ := he
    exact hc i v hv
end Go.Mv
namespace Go.Proofs.YtemcankmggmgoaaDoor
open Go.RowKit Go.Mv Mvp Mvt
attribute [local irreducible] permS permP toB turnsK squeeze permN spongeB feed frameL framesL tagL
theorem kChild_eq : (⟨#[99, 104, 105, 108, 100]⟩ : ByteArray) = mkS kChild := rfl
theorem kKey_eq : (⟨#[107, 101, 121]⟩ : ByteArray) = mkS kKey := rfl
theorem fourB_0 (n : Nat) (h : n < 4294967296) : Value.int .u8 ((n : Int) / 16777216) = .int .u8 ((UInt8.ofNat (n / 16777216)).toNat : Int) := by
  rw [ofNat_int]; congr 1; omega
theorem fourB_1 (n : Nat) : Value.int .u8 ((n : Int) / 65536 % 256) = .int .u8 ((UInt8.ofNat (n / 65536)).toNat : Int) := by
  rw [ofNat_int]; rfl
theorem part_slice {w : World} {v : Value} {l : List UInt8} (h : PartIs w v l) : v.cells = #[v] := by
  obtain ⟨a, n, c, rfl, -⟩ := h; rfl
set_option maxHeartbeats 4000000 in
set_option maxRecDepth 1000000 in
theorem child_any (n : Nat) (hn : n < 4294967296) (v : Value) (l : List UInt8) (w : World) (hp : PartIs w v l) :
    Calls Tryd.prog 44 #[v, .int .u32 (n : Int)] w fun e w' => ∃ v, e = .returned v ∧ Own w' w.heap.size 5 1 v 32 (bs (tagL kChild [l, lenB n])) ∧ Fr Nob w w' := by
  have HP := Lib.hid hp
  have HC := Lib.hid (part_slice hp)
  clear hp
  go_enter Tryd.func44, Tryd.ntmps44
  go_wp2_with (with_reducible refine wl_stop (o := ⟨some 17, _, _, _, _, _⟩) ?_)
  refine wl_four rfl rfl Tryd.underlying23 info_u8 _ _ _ _ (fourB_0 n hn) (fourB_1 n) (lenB_2 n) (lenB_3 n) ?_
  intro w1 hh1 hf1 hz1
  have hh1' : Has w1 w.heap.size (bs (lenB n)) 5 := hh1
  have hp1 : PartIs w1 (.slice (some ⟨w.heap.size, 0, none⟩) 4 4) (lenB n) := by
    refine ⟨_, 4, 4, rfl, by omega, by omega, ?_, fun a ha => ?_⟩
    · have := Rd.whole hh1'
      rwa [length_bs, lenB_len] at this
    · simp only [Option.some.injEq] at ha; subst ha; show w.heap.size < _; omega
  have HP1 := Lib.hid hp1
  have HF1 := Lib.hid hf1
  clear hh1 hh1' hz1 hp1 hf1
  generalize w.heap.size = g4 at *
  go_wp2_with (with_reducible refine wl_stop (o := ⟨some 18, _, _, _, _, _⟩) ?_)
  refine wl_slit (vs := [v, .slice (some ⟨g4, 0, none⟩) 4 4]) (hgd := rfl) (ho := rfl) (hu := Tryd.underlying24) (hi0 := info_sl) (hp := by rfl) (hv := fun u hu => by
    simp only [List.mem_cons, List.not_mem_nil, or_false] at hu
    rcases hu with rfl | rfl
    · exact HC.out
    · rfl) (hk := by rfl) (hz := by rfl) (h := ?_)
  intro w2 hh2 hf2 hz2
  clear hz2
  have HF2 := Lib.hid (HF1.out.then hf2)
  have hps : Parts w2 [v, .slice (some ⟨g4, 0, none⟩) 4 4] [l, lenB n] := ⟨HP.out.still HF2.out, HP1.out.still hf2, trivial⟩
  have HPS := Lib.hid hps
  have HH2 := Lib.hid hh2
  clear hf2 hps hh2 HP1 HF1
  generalize w1.heap.size = g5 at *
  rw [kChild_eq]
  go_wp2_with fail
  refine (Tag_of kChild (by decide) _ _ _ _ w2 HH2.out HPS.out (by simp)).mono ?_
  rintro e w3 ⟨v3, rfl, hown3, hf3⟩
  obtain ⟨a3, c3, rfl, -⟩ := own_rd hown3
  have HO := Lib.hid (hown3.mono HF2.out.size)
  have HF3 := Lib.hid (HF2.out.then hf3)
  clear hown3 hf3
  go_wp2_with fail
  go_ret
  exact ⟨_, rfl, HO.out, HF3.out⟩
set_option maxHeartbeats 4000000 in
set_option maxRecDepth 1000000 in
theorem key_any (s : ByteArray) (hs : s.size ≤ 1000000) (v : Value) (l : List UInt8) (w : World) (hp : PartIs w v l) :
    Calls Tryd.prog 45 #[v, .string s] w fun e w' => ∃ v, e = .returned v ∧ Own w' w.heap.size 5 1 v 32 (bs (tagL kKey [l, s.data.toList])) ∧ Fr Nob w w' := by
  have HP := Lib.hid hp
  have HC := Lib.hid (part_slice hp)
  have HS := Lib.hid hs
  clear hp hs
  go_enter Tryd.func45, Tryd.ntmps45
  go_wp2_with (with_reducible refine wl_stop (o := ⟨some 7, _, _, _, _, _⟩) ?_)
  refine wl_bytes (q := s) rfl rfl Tryd.underlying9 Tryd.underlying23 Tryd.underlying5 rfl (by have := HS.out; unfold maxLen; omega) w.heap.size (Nat.le_refl _) ?_
  intro cap w1 hown1 hf1 hz1
  have HP1 := Lib.hid (own_part hown1 (by have := HS.out; simpa using this))
  have HF1 := Lib.hid hf1
  clear hown1 hz1 hf1
  generalize w.heap.size = g4 at *
  go_wp2_with (with_reducible refine wl_stop (o := ⟨some 8, _, _, _, _, _⟩) ?_)
  refine wl_slit (vs := [v, .slice (some ⟨g4, 0, none⟩) s.size cap]) (hgd := rfl) (ho := rfl) (hu := Tryd.underlying24) (hi0 := info_sl) (hp := by rfl) (hv := fun u hu => by
    simp only [List.mem_cons, List.not_mem_nil, or_false] at hu
    rcases hu with rfl | rfl
    · exact HC.out
    · rfl) (hk := by rfl) (hz := by rfl) (h := ?_)
  intro w2 hh2 hf2 hz2
  clear hz2
  have HF2 := Lib.hid (HF1.out.then hf2)
  have hps : Parts w2 [v, .slice (some ⟨g4, 0, none⟩) s.size cap] [l, s.data.toList] := ⟨HP.out.still HF2.out, HP1.out.still hf2, trivial⟩
  have HPS := Lib.hid hps
  have HH2 := Lib.hid hh2
  clear hf2 hps hh2 HP1 HF1
  generalize w1.heap.size = g5 at *
  rw [kKey_eq]
  go_wp2_with fail
  refine (Tag_of kKey (by decide) _ _ _ _ w2 HH2.out HPS.out (by simp)).mono ?_
  rintro e w3 ⟨v3, rfl, hown3, hf3⟩
  obtain ⟨a3, c3, rfl, -⟩ := own_rd hown3
  have HO := Lib.hid (hown3.mono HF2.out.size)
  have HF3 := Lib.hid (HF2.out.then hf3)
  clear hown3 hf3
  go_wp2_with fail
  go_ret
  exact ⟨_, rfl, HO.out, HF3.out⟩
end Go.Proofs.YtemcankmggmgoaaDoor

/- keys.Derive. -/
namespace Go.Proofs.YtemcankmggmgoaaDoor
open Go.RowKit Go.Mv Mvp Mvt
/-- a branch's way down -/
def derK (k : List UInt8) (path : List Nat) : List UInt8 := path.foldl (fun k n => tagL kChild [k, lenB n]) k
theorem derK_nil (k : List UInt8) : derK k [] = k := rfl
theorem derK_succ (k : List UInt8) (path : List Nat) (i : Nat) (h : i < path.length) : derK k (path.take (i + 1)) = tagL kChild [derK k (path.take i), lenB (path.getD i 0)] := by
  rw [List.take_succ_eq_append_getElem h, derK, List.foldl_append]
  simp [derK, List.getD_eq_getElem?_getD, h]
attribute [local irreducible] permS permP toB turnsK squeeze permN spongeB feed frameL framesL tagL derK
theorem u32s_get (l : List Nat) (i : Nat) (h : i < l.length) : (u32s l)[i]? = some (.int .u32 ((l.getD i 0 : Nat) : Int)) := by
  unfold u32s
  rw [List.getElem?_map, List.getElem?_eq_getElem h]
  simp [List.getD_eq_getElem?_getD, h]
set_option maxHeartbeats 4000000 in
set_option maxRecDepth 1000000 in
theorem Derive_ok (a : Option Addr) (c : Nat) (l : List UInt8) (s : ByteArray) (p : Option Addr) (d : Nat) (path : List Nat) (w : World) (hp : PartIs w (.slice a 32 c) l) (hs : s.size ≤ 1000000) (hk : path.length ≤ 16) (hx : ∀ x ∈ path, x < 4294967296) (hr : Rd w p path.length (u32s path)) :
    Calls Tryd.prog 20 #[.slice a 32 c, .string s, .slice p path.length d] w fun e w' => ∃ v, e = .returned (.tuple #[v, .int .i64 0]) ∧ Own w' w.heap.size 5 1 v 32 (bs (tagL kKey [derK l path, s.data.toList])) ∧ Fr Nob w w' := by
  have hne : (((32 : Nat) : Int) != 32) = false := by rfl
  have hkI : ¬ ((16 : Int) < (path.length : Int)) := by omega
  have HP := Lib.hid hp
  have HS := Lib.hid hs
  have HR := Lib.hid hr
  have HX := Lib.hid hx
  clear hp hs hr hx
  go_enter Tryd.func20, Tryd.ntmps20
  go_wp2
  go_loopw [8, 22] (fun v i wr => ∃ j : Nat, j ≤ path.length ∧ i = .int .i64 (j : Int) ∧ PartIs wr v (derK l (path.take j)) ∧ Fr Nob w wr) (fun _ i _ => (path.length - intOf i).toNat)
  case atStart => exact ⟨0, by omega, rfl, by rw [List.take_zero, derK_nil]; exact HP.out, Fr.refl _ _⟩
  case round =>
    obtain ⟨j, hj, rfl, hpj, hfj⟩ := hrel
    have HPJ := Lib.hid hpj
    have HFJ := Lib.hid hfj
    obtain ⟨aj, nj, cj, hvj, -⟩ := id hpj
    subst hvj
    clear hpj hfj
    by_cases hlt : j < path.length
    · have hltI : (j : Int) < (path.length : Int) := by omega
      obtain ⟨b, o, hab, -⟩ := HR.out.at (by omega)
      subst hab
      have hcell := rd_at0 (HR.out.still HFJ.out) j _ (u32s_get path j hlt)
      have HD := Lib.hid (derK_succ l path j hlt)
      have hxb : path.getD j 0 < 4294967296 := by
        have : path.getD j 0 = path[j] := by simp [List.getD_eq_getElem?_getD, hlt]
        rw [this]; exact HX.out _ (List.getElem_mem _)
      generalize path.getD j 0 = x at *
      go_wp2_with fail
      refine (child_any x hxb _ _ _ HPJ.out).mono ?_
      rintro e w5 ⟨v5, rfl, ho5, hf5⟩
      obtain ⟨a5, c5, rfl, -⟩ := own_rd ho5
      have HP5 := Lib.hid (own_part ho5 (by omega))
      have HF5 := Lib.hid (HFJ.out.then hf5)
      clear ho5 hf5 hcell hxb
      go_wp2_with fail
      go_roundw
      case rel => exact ⟨j + 1, by omega, by go_num, by rw [HD.out]; exact HP5.out, HF5.out⟩
      case measure => simp [intOf]; omega
    · have hge : ¬ ((j : Int) < (path.length : Int)) := by omega
      have HJ := Lib.hid (show path.take j = path from List.take_of_length_le (by omega))
      go_wp2_with fail
      refine (key_any s HS.out _ _ _ HPJ.out).mono ?_
      rintro e w5 ⟨v5, rfl, ho5, hf5⟩
      obtain ⟨a5, c5, rfl, -⟩ := own_rd ho5
      rw [HJ.out] at ho5
      have HO := Lib.hid (ho5.mono HFJ.out.size)
      have HF5 := Lib.hid (HFJ.out.then hf5)
      clear ho5 hf5
      go_wp2_with fail
      go_ret2
      exact ⟨_, rfl, HO.out, HF5.out⟩
end Go.Proofs.YtemcankmggmgoaaDoor

/- mintvaultlaw1.SpongeBegins: the walk of the law -/
namespace Mvp
end Mvp
namespace Go.Proofs.YtemcankmggmgoaaDoor
open Go.RowKit Go.Mv Mvp
attribute [local irreducible] permS permP toB turnsK squeeze permN spongeB feed frameL framesL tagL
theorem Stream_ok (b : Option Addr) (n c : Nat) (l : List UInt8) (m : Nat) (w : World) (hn : n ≤ 1000000) (hnc : n ≤ c) (hm : m ≤ 16384) (hb : RdB w b n l) (ho : Old w b) :
    Calls Tryd.prog 21 #[.slice b n c, .int .i64 (m : Int)] w fun r w' => ∃ v, r = .returned (.tuple #[v, .int .i64 0]) ∧ Own w' w.heap.size 5 1 v m (bs (spongeB l 31 m)) ∧ Fr Nob w w' := by
  refine (Stream_any b n c l m w hn hnc hb ho).mono ?_
  rintro r w' (⟨_, _, v, h1, h2, h3⟩ | ⟨h, _⟩)
  · exact ⟨v, h1, by simpa using h2, h3⟩
  · omega
end Go.Proofs.YtemcankmggmgoaaDoor

/- zn.All; sigma.Extract. -/
namespace Go.Proofs.YtemcankmggmgoaaDoor
open Go.RowKit Go.Mv Mvp
attribute [local irreducible] limbs lw mix cw cSub cAdd cMul beN laid be32 montT mstep elN mdL numB
end Go.Proofs.YtemcankmggmgoaaDoor

/- The law NumReduces. -/
namespace Go.Proofs.YtemcankmggmgoaaDoor
open Go.RowKit Go.Mv Mvp
attribute [local irreducible] limbs lw mix cw cSub cAdd cMul beN laid be32 montT mstep elN mdL
end Go.Proofs.YtemcankmggmgoaaDoor

/- num.Add, Sub, Mul, Inv: what they answer. -/
namespace Go.Proofs.YtemcankmggmgoaaDoor
open Go.RowKit Go.Mv Mvp
attribute [local irreducible] limbs lw mix cw cSub cAdd cMul beN laid be32 montT mstep elN mdL numB
end Go.Proofs.YtemcankmggmgoaaDoor

/- The law NumReckons. -/
namespace Go.Proofs.YtemcankmggmgoaaDoor
open Go.RowKit Go.Mv Mvp
attribute [local irreducible] limbs lw mix cw cSub cAdd cMul beN laid be32 montT mstep elN mdL numB
end Go.Proofs.YtemcankmggmgoaaDoor

/- sigma.Extract; the reference's Scalar, Q, Extract. -/
namespace Mvp
end Mvp
namespace Go.Proofs.YtemcankmggmgoaaDoor
open Go.RowKit Go.Mv Mvp
attribute [local irreducible] limbs lw mix cw cSub cAdd cMul beN laid be32 montT mstep elN mdL numB
theorem BParts.four {w : World} {v1 v2 v3 v4 : Value} {l1 l2 l3 l4 : List UInt8} (h1 : BPart w v1 l1) (h2 : BPart w v2 l2) (h3 : BPart w v3 l3) (h4 : BPart w v4 l4) : BParts w [v1, v2, v3, v4] [l1, l2, l3, l4] := ⟨rfl, fun i x hx => by
  match i with
  | 0 => simp at hx; subst hx; exact h1
  | 1 => simp at hx; subst hx; exact h2
  | 2 => simp at hx; subst hx; exact h3
  | 3 => simp at hx; subst hx; exact h4
  | i + 4 => simp at hx⟩

end Go.Proofs.YtemcankmggmgoaaDoor

/- The reference's Q, Scalar, Extract. -/
namespace Go.Proofs.YtemcankmggmgoaaDoor
open Go.RowKit Go.Mv Mvp
attribute [local irreducible] limbs lw mix cw cSub cAdd cMul beN laid be32 montT mstep elN mdL numB
end Go.Proofs.YtemcankmggmgoaaDoor

/- keys.Scalar. -/
namespace Go.Proofs.YtemcankmggmgoaaDoor
open Go.RowKit Go.Mv Mvp Mvt
/-- the scalar that bytes give: never 0 -/
def scN (M : Nat) (d : List UInt8) : Nat := if beN (spongeB d 31 64) % M = 0 then 1 else beN (spongeB d 31 64) % M
theorem Stream_part (v : Value) (l : List UInt8) (m : Nat) (w : World) (hm : m ≤ 16384) (hp : PartIs w v l) :
    Calls Tryd.prog 21 #[v, .int .i64 (m : Int)] w fun r w' => ∃ v, r = .returned (.tuple #[v, .int .i64 0]) ∧ Own w' w.heap.size 5 1 v m (bs (spongeB l 31 m)) ∧ Fr Nob w w' := by
  obtain ⟨a, n, c, rfl, hc, hn, hr, ho⟩ := hp
  exact Stream_ok a n c l m w hn hc hm hr ho
theorem Zwide_part (m : Md) (hk : KindOf 1 m) (v : Value) (l : List UInt8) (w : World) (hp : PartIs w v l) :
    Calls Tryd.prog 22 #[v] w fun e w' => e = .returned (i4 (elN m (beN l))) ∧ Fr Nob w w' := by
  obtain ⟨a, n, c, rfl, hc, hn, hr, ho⟩ := hp
  exact Zwide_any m hk a n c l w hr hc hn
attribute [local irreducible] limbs lw mix cw cSub cAdd cMul beN laid be32 montT mstep elN mdL numB permS permP toB turnsK squeeze permN spongeB feed frameL framesL tagL derK scN
set_option maxHeartbeats 16000000 in
set_option maxRecDepth 1000000 in
theorem Scalar9_z (m : Md) (hk : KindOf 1 m) (a : Option Addr) (c : Nat) (l : List UInt8) (s : ByteArray) (p : Option Addr) (d : Nat) (path : List Nat) (w : World) (hp : PartIs w (.slice a 32 c) l) (hs : s.size ≤ 1000000) (hk16 : path.length ≤ 16) (hx : ∀ x ∈ path, x < 4294967296) (hr : Rd w p path.length (u32s path)) (D : List UInt8) (hD : tagL kKey [derK l path, s.data.toList] = D) (hz : (beN (spongeB D 31 64) % m.M == 0) = true) :
    Calls Tryd.prog 10 #[.slice a 32 c, .string s, .slice p path.length d] w fun e w' => ∃ v, e = .returned (.tuple #[v, .int .i64 0]) ∧ Own w' w.heap.size 5 1 v 32 (bs (be32 (scN m.M D))) ∧ Fr Nob w w' := by
  have HK := Lib.hid hk
  have HOK := Lib.hid hk.ok
  clear hk
  have HP := Lib.hid hp
  have HS := Lib.hid hs
  have HR := Lib.hid hr
  have HX := Lib.hid hx
  have HK16 := Lib.hid hk16
  have HD := Lib.hid hD
  have HZ := Lib.hid hz
  have HSC := Lib.hid (show 1 % m.M = scN m.M D by
    rw [beq_iff_eq] at hz
    unfold scN
    rw [if_pos hz]; exact Nat.mod_eq_of_lt HOK.out.one)
  clear hp hs hr hx hk16 hD hz
  go_enter Tryd.func10, Tryd.ntmps10
  go_wp2_with fail
  refine (Derive_ok a c l s p d path w HP.out HS.out HK16.out HX.out HR.out).mono ?_
  rintro e w1 ⟨v1, rfl, ho1, hf1⟩
  obtain ⟨a1, c1, rfl, -⟩ := own_rd ho1
  have HP1 := Lib.hid (own_part ho1 (by omega))
  have HF1 := Lib.hid hf1
  clear ho1 hf1
  have hD := HD.out
  rw [hD] at HP1
  clear hD
  have st0 := St.start Nob w1
  go_wp2_with fail
  refine (Stream_part _ D 64 _ (by decide) (HP1.out.still st0.fr)).mono ?_
  rintro e' w2 ⟨v2, rfl, ho2, hf2⟩
  have st2 := st0.keep hf2
  obtain ⟨a2, c2, hv2, -⟩ := own_rd ho2
  subst hv2
  have HP2 := Lib.hid (own_part ho2 (by omega))
  clear ho2
  clear st0 hf2
  have Fw2 := Lib.hid (Fr.refl Nob w2)
  go_wp2_with fail
  refine (Zwide_part m HK.out _ (spongeB D 31 64) _ (HP2.out.still Fw2.out)).mono ?_
  rintro e' w3 ⟨rfl, hf3⟩
  have st3 := st2.keep hf3
  clear st2 hf3
  go_wp2_with (with_reducible refine wl_stop (o := ⟨some 10, _, _, _, _, _⟩) ?_)
  refine wl_allocS st3 rfl rfl (z := .agg #[.int .u64 0, .int .u64 0, .int .u64 0, .int .u64 0]) (by kernel_rfl) (cw 4 0) (by rw [cw_zero]; rfl) ?_
  intro g10 w4 st4
  clear st3
  go_wp2_with (with_reducible refine wl_stop (o := ⟨none, _, _, _, _, _⟩) ?_)
  refine wl_storeS st4 0 rfl rfl rfl rfl rfl (by first | (simp only [cw_len]; done) | (simp only [List.length_append, cw_len]; done)) (by first | (rw [cw_len]; kernel_rfl) | (simp only [List.length_append, cw_len]; kernel_rfl)) (cw_one _ _) ?_
  intro w5 st5
  clear st4
  go_wp2_with (with_reducible refine wl_stop (o := ⟨some 28, _, _, _, _, _⟩) ?_)
  refine wl_loadSt st5 0 rfl rfl rfl Tryd.underlying62 rfl rfl (by first | (rw [cw_len]; kernel_rfl) | (simp only [List.length_append, cw_len]; kernel_rfl)) ?_
  go_wp2_with fail
  refine (ZZero_any m HOK.out (beN (spongeB D 31 64)) true HZ.out _).mono ?_
  rintro e' w6 ⟨rfl, hf6⟩
  have st6 := st5.keep hf6
  clear st5 hf6
  go_wp2_with fail
  refine (Zsmall_any m HK.out 1 (by decide) _).mono ?_
  rintro e' w7 ⟨rfl, hf7⟩
  have st7 := st6.keep hf7
  clear st6 hf7
  go_wp2_with (with_reducible refine wl_stop (o := ⟨none, _, _, _, _, _⟩) ?_)
  refine wl_storeS st7 0 rfl rfl rfl rfl rfl (by first | (simp only [cw_len]; done) | (simp only [List.length_append, cw_len]; done)) (by first | (rw [cw_len]; kernel_rfl) | (simp only [List.length_append, cw_len]; kernel_rfl)) (cw_one _ _) ?_
  intro w8 st8
  clear st7
  go_wp2_with (with_reducible refine wl_stop (o := ⟨some 31, _, _, _, _, _⟩) ?_)
  refine wl_loadSt st8 0 rfl rfl rfl Tryd.underlying62 rfl rfl (by first | (rw [cw_len]; kernel_rfl) | (simp only [List.length_append, cw_len]; kernel_rfl)) ?_
  go_wp2_with fail
  refine (ZBytes_any m HK.out 1 _).mono ?_
  rintro e' w9 ⟨v9, rfl, ho9, hf9⟩
  have st9 := st8.keep hf9
  have HSZ := Nat.le_trans HF1.out.size st8.fr.size
  obtain ⟨a9, c9, hv9, -⟩ := own_rd ho9
  subst hv9
  have HO9 := Lib.hid (ho9.mono HSZ)
  clear ho9
  clear st8 hf9
  have hfr := HF1.out.then st9.fr
  clear st9 HSZ
  go_wp2_with fail
  go_ret2
  refine ⟨_, rfl, ?_, hfr⟩
  have := HO9.out
  rwa [HSC.out] at this

set_option maxHeartbeats 16000000 in
set_option maxRecDepth 1000000 in
theorem Scalar9_n (m : Md) (hk : KindOf 1 m) (a : Option Addr) (c : Nat) (l : List UInt8) (s : ByteArray) (p : Option Addr) (d : Nat) (path : List Nat) (w : World) (hp : PartIs w (.slice a 32 c) l) (hs : s.size ≤ 1000000) (hk16 : path.length ≤ 16) (hx : ∀ x ∈ path, x < 4294967296) (hr : Rd w p path.length (u32s path)) (D : List UInt8) (hD : tagL kKey [derK l path, s.data.toList] = D) (hz : (beN (spongeB D 31 64) % m.M == 0) = false) :
    Calls Tryd.prog 10 #[.slice a 32 c, .string s, .slice p path.length d] w fun e w' => ∃ v, e = .returned (.tuple #[v, .int .i64 0]) ∧ Own w' w.heap.size 5 1 v 32 (bs (be32 (scN m.M D))) ∧ Fr Nob w w' := by
  have HK := Lib.hid hk
  have HOK := Lib.hid hk.ok
  clear hk
  have HP := Lib.hid hp
  have HS := Lib.hid hs
  have HR := Lib.hid hr
  have HX := Lib.hid hx
  have HK16 := Lib.hid hk16
  have HD := Lib.hid hD
  have HZ := Lib.hid hz
  have HSC := Lib.hid (show (beN (spongeB D 31 64)) % m.M = scN m.M D by
    rw [beq_eq_false_iff_ne] at hz
    unfold scN
    rw [if_neg hz])
  clear hp hs hr hx hk16 hD hz
  go_enter Tryd.func10, Tryd.ntmps10
  go_wp2_with fail
  refine (Derive_ok a c l s p d path w HP.out HS.out HK16.out HX.out HR.out).mono ?_
  rintro e w1 ⟨v1, rfl, ho1, hf1⟩
  obtain ⟨a1, c1, rfl, -⟩ := own_rd ho1
  have HP1 := Lib.hid (own_part ho1 (by omega))
  have HF1 := Lib.hid hf1
  clear ho1 hf1
  have hD := HD.out
  rw [hD] at HP1
  clear hD
  have st0 := St.start Nob w1
  go_wp2_with fail
  refine (Stream_part _ D 64 _ (by decide) (HP1.out.still st0.fr)).mono ?_
  rintro e' w2 ⟨v2, rfl, ho2, hf2⟩
  have st2 := st0.keep hf2
  obtain ⟨a2, c2, hv2, -⟩ := own_rd ho2
  subst hv2
  have HP2 := Lib.hid (own_part ho2 (by omega))
  clear ho2
  clear st0 hf2
  have Fw2 := Lib.hid (Fr.refl Nob w2)
  go_wp2_with fail
  refine (Zwide_part m HK.out _ (spongeB D 31 64) _ (HP2.out.still Fw2.out)).mono ?_
  rintro e' w3 ⟨rfl, hf3⟩
  have st3 := st2.keep hf3
  clear st2 hf3
  go_wp2_with (with_reducible refine wl_stop (o := ⟨some 10, _, _, _, _, _⟩) ?_)
  refine wl_allocS st3 rfl rfl (z := .agg #[.int .u64 0, .int .u64 0, .int .u64 0, .int .u64 0]) (by kernel_rfl) (cw 4 0) (by rw [cw_zero]; rfl) ?_
  intro g10 w4 st4
  clear st3
  go_wp2_with (with_reducible refine wl_stop (o := ⟨none, _, _, _, _, _⟩) ?_)
  refine wl_storeS st4 0 rfl rfl rfl rfl rfl (by first | (simp only [cw_len]; done) | (simp only [List.length_append, cw_len]; done)) (by first | (rw [cw_len]; kernel_rfl) | (simp only [List.length_append, cw_len]; kernel_rfl)) (cw_one _ _) ?_
  intro w5 st5
  clear st4
  go_wp2_with (with_reducible refine wl_stop (o := ⟨some 28, _, _, _, _, _⟩) ?_)
  refine wl_loadSt st5 0 rfl rfl rfl Tryd.underlying62 rfl rfl (by first | (rw [cw_len]; kernel_rfl) | (simp only [List.length_append, cw_len]; kernel_rfl)) ?_
  go_wp2_with fail
  refine (ZZero_any m HOK.out (beN (spongeB D 31 64)) false HZ.out _).mono ?_
  rintro e' w6 ⟨rfl, hf6⟩
  have st6 := st5.keep hf6
  clear st5 hf6
  go_wp2_with (with_reducible refine wl_stop (o := ⟨some 31, _, _, _, _, _⟩) ?_)
  refine wl_loadSt st6 0 rfl rfl rfl Tryd.underlying62 rfl rfl (by first | (rw [cw_len]; kernel_rfl) | (simp only [List.length_append, cw_len]; kernel_rfl)) ?_
  go_wp2_with fail
  refine (ZBytes_any m HK.out (beN (spongeB D 31 64)) _).mono ?_
  rintro e' w7 ⟨v9, rfl, ho9, hf7⟩
  have st7 := st6.keep hf7
  have HSZ := Nat.le_trans HF1.out.size st6.fr.size
  obtain ⟨a9, c9, hv9, -⟩ := own_rd ho9
  subst hv9
  have HO9 := Lib.hid (ho9.mono HSZ)
  clear ho9
  clear st6 hf7
  have hfr := HF1.out.then st7.fr
  clear st7 HSZ
  go_wp2_with fail
  go_ret2
  refine ⟨_, rfl, ?_, hfr⟩
  have := HO9.out
  rwa [HSC.out] at this

theorem Scalar9_ok (m : Md) (hk : KindOf 1 m) (a : Option Addr) (c : Nat) (l : List UInt8) (s : ByteArray) (p : Option Addr) (d : Nat) (path : List Nat) (w : World) (hp : PartIs w (.slice a 32 c) l) (hs : s.size ≤ 1000000) (hk16 : path.length ≤ 16) (hx : ∀ x ∈ path, x < 4294967296) (hr : Rd w p path.length (u32s path)) :
    Calls Tryd.prog 10 #[.slice a 32 c, .string s, .slice p path.length d] w fun e w' => ∃ v, e = .returned (.tuple #[v, .int .i64 0]) ∧ Own w' w.heap.size 5 1 v 32 (bs (be32 (scN m.M (tagL kKey [derK l path, s.data.toList])))) ∧ Fr Nob w w' := by
  cases hz : (beN (spongeB (tagL kKey [derK l path, s.data.toList]) 31 64) % m.M == 0)
  · exact Scalar9_n m hk a c l s p d path w hp hs hk16 hx hr _ rfl hz
  · exact Scalar9_z m hk a c l s p d path w hp hs hk16 hx hr _ rfl hz
end Go.Proofs.YtemcankmggmgoaaDoor

/- Plain: how many bits are set, in the ways of math/bits; the lowest bit. -/
namespace Mvk
/-- ones among the lowest n bits -/
def pcn : Nat → Nat → Nat
  | 0, _ => 0
  | n + 1, x => x % 2 + pcn n (x / 2)
theorem pcn_le : ∀ (n x : Nat), pcn n x ≤ n
  | 0, _ => Nat.le_refl _
  | n + 1, x => by have := pcn_le n (x / 2); simp only [pcn]; omega
theorem pcn_add : ∀ (a b x : Nat), pcn (a + b) x = pcn a x + pcn b (x / 2 ^ a)
  | 0, b, x => by simp [pcn]
  | a + 1, b, x => by
    rw [show a + 1 + b = (a + b) + 1 by omega]
    simp only [pcn]
    rw [pcn_add a b (x / 2), Nat.div_div_eq_div_mul, show 2 * 2 ^ a = 2 ^ (a + 1) by rw [Nat.pow_succ]; omega]
    omega
theorem pcn_zero : ∀ (n : Nat), pcn n 0 = 0
  | 0 => rfl
  | n + 1 => by simp [pcn, pcn_zero n]
theorem pcn_pow : ∀ (n k : Nat), k < n → pcn n (2 ^ k) = 1
  | 0, k, h => by omega
  | n + 1, 0, _ => by simp [pcn, pcn_zero]
  | n + 1, k + 1, h => by
    have e : 2 ^ (k + 1) = 2 * 2 ^ k := by rw [Nat.pow_succ]; omega
    simp only [pcn]
    rw [show 2 ^ (k + 1) / 2 = 2 ^ k by omega, pcn_pow n k (by omega)]; omega

theorem and_digits (k a r m s : Nat) (hr : r < 2 ^ k) (hs : s < 2 ^ k) : (2 ^ k * a + r) &&& (2 ^ k * m + s) = 2 ^ k * (a &&& m) + (r &&& s) := by
  apply Nat.eq_of_testBit_eq
  intro i
  rw [Nat.testBit_and, Nat.testBit_two_pow_mul_add a hr, Nat.testBit_two_pow_mul_add m hs, Nat.testBit_two_pow_mul_add (a &&& m) (Nat.and_lt_two_pow r hs)]
  split <;> rw [Nat.testBit_and]
def m1 : Nat → Nat
  | 0 => 0
  | n + 1 => 4 * m1 n + 1
def m2 : Nat → Nat
  | 0 => 0
  | n + 1 => 16 * m2 n + 3
def m3 : Nat → Nat
  | 0 => 0
  | n + 1 => 256 * m3 n + 15
def T1 : Nat → Nat → Nat
  | 0, _ => 0
  | n + 1, x => 4 * T1 n (x / 4) + pcn 2 x
def T2 : Nat → Nat → Nat
  | 0, _ => 0
  | n + 1, x => 16 * T2 n (x / 16) + pcn 4 x
def T3 : Nat → Nat → Nat
  | 0, _ => 0
  | n + 1, x => 256 * T3 n (x / 256) + pcn 8 x
theorem B1 : ∀ (n x : Nat), (x / 2 &&& m1 n) + (x &&& m1 n) = T1 n x
  | 0, x => by simp [m1, T1]
  | n + 1, x => by
    have ih := B1 n (x / 4)
    have h1 : x / 2 = 2 ^ 2 * (x / 4 / 2) + x / 2 % 4 := by omega
    have h2 : x = 2 ^ 2 * (x / 4) + x % 4 := by omega
    have a1 : (x / 2 &&& m1 (n + 1)) = 4 * (x / 4 / 2 &&& m1 n) + x / 2 % 2 := by
      rw [h1, show m1 (n + 1) = 2 ^ 2 * m1 n + 1 from rfl, and_digits 2 _ _ _ _ (by omega) (by omega), Nat.and_one_is_mod]; omega
    have a2 : (x &&& m1 (n + 1)) = 4 * (x / 4 &&& m1 n) + x % 2 := by
      rw [show (x &&& m1 (n + 1)) = (2 ^ 2 * (x / 4) + x % 4) &&& m1 (n + 1) by rw [← h2], show m1 (n + 1) = 2 ^ 2 * m1 n + 1 from rfl, and_digits 2 _ _ _ _ (by omega) (by omega), Nat.and_one_is_mod]; omega
    rw [a1, a2]
    simp only [T1, pcn, ← ih]; omega
theorem and3 (r : Nat) : r &&& 3 = r % 4 := Nat.and_two_pow_sub_one_eq_mod r 2
theorem and15 (r : Nat) : r &&& 15 = r % 16 := Nat.and_two_pow_sub_one_eq_mod r 4
theorem T1_two (n x : Nat) : T1 (2 * (n + 1)) x = 16 * T1 (2 * n) (x / 16) + 4 * pcn 2 (x / 4) + pcn 2 x := by
  rw [show 2 * (n + 1) = 2 * n + 1 + 1 by omega]
  simp only [T1]
  rw [show x / 4 / 4 = x / 16 by omega]; omega
theorem T2_two (n x : Nat) : T2 (2 * (n + 1)) x = 256 * T2 (2 * n) (x / 256) + 16 * pcn 4 (x / 16) + pcn 4 x := by
  rw [show 2 * (n + 1) = 2 * n + 1 + 1 by omega]
  simp only [T2]
  rw [show x / 16 / 16 = x / 256 by omega]; omega
theorem B2 : ∀ (n x : Nat), (T1 (2 * n) x / 4 &&& m2 n) + (T1 (2 * n) x &&& m2 n) = T2 n x
  | 0, x => by simp [m2, T2]
  | n + 1, x => by
    have ih := B2 n (x / 16)
    have ha := pcn_le 2 (x / 4)
    have hb := pcn_le 2 x
    have hp : pcn 4 x = pcn 2 x + pcn 2 (x / 4) := pcn_add 2 2 x
    rw [T1_two]
    generalize T1 (2 * n) (x / 16) = q at *
    generalize pcn 2 (x / 4) = a at *
    generalize pcn 2 x = b at *
    have h1 : (16 * q + 4 * a + b) / 4 = 2 ^ 4 * (q / 4) + (4 * (q % 4) + a) := by omega
    have h2 : 16 * q + 4 * a + b = 2 ^ 4 * q + (4 * a + b) := by omega
    rw [h1, h2, show m2 (n + 1) = 2 ^ 4 * m2 n + 3 from rfl, and_digits 4 _ _ _ _ (by omega) (by omega), and_digits 4 _ _ _ _ (by omega) (by omega), and3, and3]
    simp only [T2, hp, ← ih]; omega
theorem T2_mod : ∀ (n x : Nat), T2 n x % 16 ≤ 4
  | 0, x => by simp [T2]
  | n + 1, x => by have := pcn_le 4 x; simp only [T2]; omega
theorem B3 : ∀ (n x : Nat), (T2 (2 * n) x / 16 + T2 (2 * n) x) &&& m3 n = T3 n x
  | 0, x => by simp [m3, T3]
  | n + 1, x => by
    have ih := B3 n (x / 256)
    have ha := pcn_le 4 (x / 16)
    have hb := pcn_le 4 x
    have hq := T2_mod (2 * n) (x / 256)
    have hp : pcn 8 x = pcn 4 x + pcn 4 (x / 16) := pcn_add 4 4 x
    rw [T2_two]
    generalize T2 (2 * n) (x / 256) = q at *
    generalize pcn 4 (x / 16) = a at *
    generalize pcn 4 x = b at *
    have h1 : (256 * q + 16 * a + b) / 16 + (256 * q + 16 * a + b) = 2 ^ 8 * (q / 16 + q) + (16 * (q % 16) + 16 * a + a + b) := by omega
    rw [h1, show m3 (n + 1) = 2 ^ 8 * m3 n + 15 from rfl, and_digits 8 _ _ _ _ (by omega) (by omega), and15]
    simp only [T3, hp, ← ih]; omega
theorem T3_8 (x : Nat) : T3 8 x = pcn 8 x + 256 * (pcn 8 (x / 256) + 256 * (pcn 8 (x / 65536) + 256 * (pcn 8 (x / 16777216) + 256 * (pcn 8 (x / 4294967296) + 256 * (pcn 8 (x / 1099511627776) + 256 * (pcn 8 (x / 281474976710656) + 256 * pcn 8 (x / 72057594037927936))))))) := by
  simp only [T3, Nat.div_div_eq_div_mul, Nat.reduceMul, Nat.mul_zero, Nat.zero_add, Nat.add_comm]
theorem pcn_64 (x : Nat) : pcn 64 x = pcn 8 x + pcn 8 (x / 256) + pcn 8 (x / 65536) + pcn 8 (x / 16777216) + pcn 8 (x / 4294967296) + pcn 8 (x / 1099511627776) + pcn 8 (x / 281474976710656) + pcn 8 (x / 72057594037927936) := by
  rw [show 64 = 8 + (8 + (8 + (8 + (8 + (8 + (8 + 8)))))) from rfl]
  simp only [pcn_add 8, Nat.div_div_eq_div_mul]
  simp only [show (2 : Nat) ^ 8 = 256 from rfl, show 256 * 256 = 65536 from rfl, show 65536 * 256 = 16777216 from rfl, show 16777216 * 256 = 4294967296 from rfl, show 4294967296 * 256 = 1099511627776 from rfl, show 1099511627776 * 256 = 281474976710656 from rfl, show 281474976710656 * 256 = 72057594037927936 from rfl]
  omega
theorem fold_bytes (a b c d e f g h : Nat) (ha : a ≤ 8) (hb : b ≤ 8) (hc : c ≤ 8) (hd : d ≤ 8) (he : e ≤ 8) (hf : f ≤ 8) (hg : g ≤ 8) (hh : h ≤ 8) (w w1 w2 w3 : Nat)
    (hw : w = a + 256 * (b + 256 * (c + 256 * (d + 256 * (e + 256 * (f + 256 * (g + 256 * h))))))) (h1 : w1 = w + w / 256) (h2 : w2 = w1 + w1 / 65536) (h3 : w3 = w2 + w2 / 4294967296) :
    w3 % 128 = a + b + c + d + e + f + g + h ∧ w3 < 18446744073709551616 := by
  obtain ⟨r6, e6⟩ : ∃ r, r = g + 256 * h := ⟨_, rfl⟩
  rw [← e6] at hw
  obtain ⟨r5, e5⟩ : ∃ r, r = f + 256 * r6 := ⟨_, rfl⟩
  rw [← e5] at hw
  obtain ⟨r4, e4⟩ : ∃ r, r = e + 256 * r5 := ⟨_, rfl⟩
  rw [← e4] at hw
  obtain ⟨r3, e3⟩ : ∃ r, r = d + 256 * r4 := ⟨_, rfl⟩
  rw [← e3] at hw
  obtain ⟨r2, e2⟩ : ∃ r, r = c + 256 * r3 := ⟨_, rfl⟩
  rw [← e2] at hw
  obtain ⟨r1, e1⟩ : ∃ r, r = b + 256 * r2 := ⟨_, rfl⟩
  rw [← e1] at hw
  have b6 : r6 ≤ 2056 := by omega
  have b5 : r5 ≤ 526344 := by omega
  have b4 : r4 ≤ 134744072 := by omega
  have b3 : r3 ≤ 34494482440 := by omega
  have b2 : r2 ≤ 8830587504648 := by omega
  have b1 : r1 ≤ 2260630401189896 := by omega
  have b0 : w ≤ 578721382704613384 := by omega
  have k1 : w1 = w + r1 := by rw [h1]; clear h1 h2 h3 e1 e2 e3 e4 e5 e6; omega
  have k2 : w1 / 65536 = r2 + r3 := by
    rw [k1]
    have x0 : w = a + 256 * b + 65536 * r2 := by rw [hw, e1]; clear h1 h2 h3 k1 e1 e2 e3 e4 e5 e6; omega
    have x1 : r1 = b + 256 * c + 65536 * r3 := by rw [e1, e2]; clear h1 h2 h3 k1 e1 e2 e3 e4 e5 e6; omega
    rw [x0, x1]
    clear h1 h2 h3 k1 e1 e2 e3 e4 e5 e6 hw x0 x1 b0 b1
    omega
  have k3 : w2 = w + r1 + r2 + r3 := by rw [h2, k2, k1]; clear h1 h2 h3 k1 k2 e1 e2 e3 e4 e5 e6; omega
  have k4 : w2 / 4294967296 = r4 + r5 + r6 + h := by
    rw [k3]
    have x0 : w = a + 256 * b + 65536 * c + 16777216 * d + 4294967296 * r4 := by rw [hw, e1, e2, e3]; clear h1 h2 h3 k1 k2 k3 e1 e2 e3 e4 e5 e6 hw; omega
    have x1 : r1 = b + 256 * c + 65536 * d + 16777216 * e + 4294967296 * r5 := by rw [e1, e2, e3, e4]; clear h1 h2 h3 k1 k2 k3 e1 e2 e3 e4 e5 e6 hw; omega
    have x2 : r2 = c + 256 * d + 65536 * e + 16777216 * f + 4294967296 * r6 := by rw [e2, e3, e4, e5]; clear h1 h2 h3 k1 k2 k3 e1 e2 e3 e4 e5 e6 hw; omega
    have x3 : r3 = d + 256 * e + 65536 * f + 16777216 * g + 4294967296 * h := by rw [e3, e4, e5, e6]; clear h1 h2 h3 k1 k2 k3 e1 e2 e3 e4 e5 e6 hw; omega
    rw [x0, x1, x2, x3]
    clear h1 h2 h3 k1 k2 k3 e1 e2 e3 e4 e5 e6 hw x0 x1 x2 x3 b0 b1 b2 b3 b4 b5 b6
    omega
  have k5 : w3 = (a + b + c + d + e + f + g + h) + 256 * (r1 + r2 + r3 + r4 + r5 + r6 + h) := by
    rw [h3, k4, k3, hw]
    clear h1 h2 h3 k1 k2 k3 k4 hw b0 b1 b2 b3 b4 b5 b6
    omega
  refine ⟨?_, ?_⟩
  · rw [k5]
    clear h1 h2 h3 k1 k2 k3 k4 k5 hw e1 e2 e3 e4 e5 e6 b0 b1 b2 b3 b4 b5 b6
    omega
  · clear h1 h2 h3 k1 k2 k3 k4 hw e1 e2 e3 e4 e5 e6
    omega
/-- math/bits.OnesCount64, step by step -/
theorem ones64 (x : Nat) : let y := (x / 2 &&& 6148914691236517205) + (x &&& 6148914691236517205)
    let z := (y / 4 &&& 3689348814741910323) + (y &&& 3689348814741910323)
    let w := (z / 16 + z) &&& 1085102592571150095
    let w1 := w + w / 256
    let w2 := w1 + w1 / 65536
    let w3 := w2 + w2 / 4294967296
    w3 % 128 = pcn 64 x ∧ y < 18446744073709551616 ∧ z < 18446744073709551616 ∧ z / 16 + z < 18446744073709551616 ∧ w < 18446744073709551616 ∧ w1 < 18446744073709551616 ∧ w2 < 18446744073709551616 ∧ w3 < 18446744073709551616 := by
  intro y z w w1 w2 w3
  have hy : y = T1 (2 * 16) x := B1 32 x
  have hz : z = T2 (2 * 8) x := by
    show (y / 4 &&& m2 16) + (y &&& m2 16) = _
    rw [hy]; exact B2 16 x
  have hw : w = T3 8 x := by
    show (z / 16 + z) &&& m3 8 = _
    rw [hz]; exact B3 8 x
  have hp := pcn_le 8
  have k := fold_bytes _ _ _ _ _ _ _ _ (hp x) (hp (x / 256)) (hp (x / 65536)) (hp (x / 16777216)) (hp (x / 4294967296)) (hp (x / 1099511627776)) (hp (x / 281474976710656)) (hp (x / 72057594037927936)) w w1 w2 w3 (by rw [hw]; exact T3_8 x) rfl rfl rfl
  have l1 : ∀ a b : Nat, a &&& b ≤ b := fun a b => Nat.and_le_right
  have y1 := l1 (x / 2) 6148914691236517205
  have y2 := l1 x 6148914691236517205
  have z1 := l1 (y / 4) 3689348814741910323
  have z2 := l1 y 3689348814741910323
  have hyd : y = (x / 2 &&& 6148914691236517205) + (x &&& 6148914691236517205) := rfl
  have hzd : z = (y / 4 &&& 3689348814741910323) + (y &&& 3689348814741910323) := rfl
  have hw1 : w ≤ 1085102592571150095 := Nat.and_le_right
  have h1 : w1 = w + w / 256 := rfl
  have h2 : w2 = w1 + w1 / 65536 := rfl
  refine ⟨by rw [k.1, pcn_64], by omega, by omega, by omega, by omega, by omega, by omega, k.2⟩

end Mvk

/- math/bits: OnesCount64, TrailingZeros64. -/
namespace Go.Proofs.YtemcankmggmgoaaDoor
open Go.RowKit Go.Mv Mvk

theorem and_u64 (a b : Nat) (ha : a < 18446744073709551616) (hb : b < 18446744073709551616) : bits .and .u64 (a : Int) (b : Int) = ((a &&& b : Nat) : Int) := by
  have h1 : BitVec.ofInt 64 (a : Int) = BitVec.ofNat 64 a := by simp
  have h2 : BitVec.ofInt 64 (b : Int) = BitVec.ofNat 64 b := by simp
  have h3 : (BitVec.ofNat 64 a &&& BitVec.ofNat 64 b).toNat = a &&& b := by
    rw [BitVec.toNat_and, BitVec.toNat_ofNat, BitVec.toNat_ofNat, Nat.mod_eq_of_lt (by omega), Nat.mod_eq_of_lt (by omega)]
  show IntKind.u64.wrap (((BitVec.ofInt 64 (a : Int) &&& BitVec.ofInt 64 (b : Int)).toNat : Nat) : Int) = _
  rw [h1, h2, h3, IntKind.wrap_u64]
  have : a &&& b ≤ b := Nat.and_le_right
  omega

set_option maxHeartbeats 400000 in
set_option maxRecDepth 100000 in
theorem ones_any (x : Nat) (w : World) (hx : x < 18446744073709551616) :
    Calls Tryd.prog 18 #[.int .u64 (x : Int)] w fun e w' => e = .returned (.int .i64 ((pcn 64 x : Nat) : Int)) ∧ w = w' := by
  obtain ⟨k1, k2, k3, k4, k5, k6, k7, k8⟩ := ones64 x
  have e1 : bits .and .u64 ((x : Int) / 2) 6148914691236517205 = ((x / 2 &&& 6148914691236517205 : Nat) : Int) := by
    have := and_u64 (x / 2) 6148914691236517205 (by omega) (by omega)
    simpa using this
  have e2 : bits .and .u64 (x : Int) 6148914691236517205 = ((x &&& 6148914691236517205 : Nat) : Int) := and_u64 x 6148914691236517205 (by omega) (by omega)
  generalize (x / 2 &&& 6148914691236517205 : Nat) = p1 at *
  generalize (x &&& 6148914691236517205 : Nat) = p2 at *
  have e3 : bits .and .u64 (((p1 : Int) + (p2 : Int)) / 4) 3689348814741910323 = (((p1 + p2) / 4 &&& 3689348814741910323 : Nat) : Int) := by
    have := and_u64 ((p1 + p2) / 4) 3689348814741910323 (by omega) (by omega)
    simpa using this
  have e4 : bits .and .u64 ((p1 : Int) + (p2 : Int)) 3689348814741910323 = ((p1 + p2 &&& 3689348814741910323 : Nat) : Int) := by
    have := and_u64 (p1 + p2) 3689348814741910323 (by omega) (by omega)
    simpa using this
  generalize ((p1 + p2) / 4 &&& 3689348814741910323 : Nat) = p3 at *
  generalize (p1 + p2 &&& 3689348814741910323 : Nat) = p4 at *
  have e5 : bits .and .u64 (((p3 : Int) + (p4 : Int)) / 16 + ((p3 : Int) + (p4 : Int))) 1085102592571150095 = (((p3 + p4) / 16 + (p3 + p4) &&& 1085102592571150095 : Nat) : Int) := by
    have := and_u64 ((p3 + p4) / 16 + (p3 + p4)) 1085102592571150095 (by omega) (by omega)
    simpa using this
  have k9 : (p3 + p4) / 16 + (p3 + p4) &&& 1085102592571150095 ≤ 1085102592571150095 := Nat.and_le_right
  generalize ((p3 + p4) / 16 + (p3 + p4) &&& 1085102592571150095 : Nat) = p5 at *
  obtain ⟨v1, hv1⟩ : ∃ v, v = p5 + p5 / 256 := ⟨_, rfl⟩
  rw [← hv1] at k1 k6 k7 k8
  obtain ⟨v2, hv2⟩ : ∃ v, v = v1 + v1 / 65536 := ⟨_, rfl⟩
  rw [← hv2] at k1 k7 k8
  obtain ⟨v3, hv3⟩ : ∃ v, v = v2 + v2 / 4294967296 := ⟨_, rfl⟩
  rw [← hv3] at k1 k8
  have b1 : v1 ≤ 1200000000000000000 := by omega
  have b2 : v2 ≤ 1300000000000000000 := by omega
  have b3 : v3 ≤ 1400000000000000000 := by omega
  have i1 : (p5 : Int) + (p5 : Int) / 256 = (v1 : Int) := by omega
  have i2 : (v1 : Int) + (v1 : Int) / 65536 = (v2 : Int) := by omega
  have i3 : (v2 : Int) + (v2 : Int) / 4294967296 = (v3 : Int) := by omega
  have e6 : bits .and .i64 (v3 : Int) 127 = ((pcn 64 x : Nat) : Int) := by
    have h := and_i64 v3 127 (by omega) (by omega)
    rw [show v3 &&& 127 = v3 % 128 from Nat.and_two_pow_sub_one_eq_mod v3 7, k1] at h
    exact h
  have HX := Lib.hid k1
  clear hv1 hv2 hv3 k1 k6 k7 k8
  go_enter Tryd.func18, Tryd.ntmps18
  go_wp2_with fail
  go_ret
  exact ⟨rfl, rfl⟩
end Go.Proofs.YtemcankmggmgoaaDoor

/- math/bits.TrailingZeros64: the walk. -/
namespace Go.Proofs.YtemcankmggmgoaaDoor
open Go.RowKit

set_option maxHeartbeats 1000000 in
theorem tz64_core (x k idx : Nat) (w : World) (hx0 : ((x : Int) == 0) = false)
    (key : IntKind.u64.wrap (bits BinOp.and IntKind.u64 (x : Int) (IntKind.u64.wrap (-(x : Int))) * 285870213051353865) / 288230376151711744 = (idx : Int))
    (hi : idx < 64) (hk : k < 64) (hcell : w.cell? ⟨0, idx, none⟩ = some (.int .u8 k)) :
    Calls Tryd.prog 19 #[.int .u64 x] w fun e w' => e = .returned (.int .i64 k) ∧ w' = w := by
  go_enter Tryd.func19, Tryd.ntmps19
  go_wp2_with (simp only [key])
  go_ret
  exact ⟨rfl, rfl⟩
theorem tz64_zero (w : World) :
    Calls Tryd.prog 19 #[.int .u64 0] w fun e w' => e = .returned (.int .i64 64) ∧ w' = w := by
  go_enter Tryd.func19, Tryd.ntmps19
  go_wp2
  go_ret
  exact ⟨rfl, rfl⟩
/-- every x -/
theorem tz64_any (x : Nat) (hx : x < 18446744073709551616) (w : World) (hT : TabAt 0 Lib.deBruijn64tab w) :
    Calls Tryd.prog 19 #[.int .u64 (x : Int)] w fun e w' => e = .returned (.int .i64 (Lib.ctz 64 x)) ∧ w' = w := by
  by_cases hx0 : x = 0
  · subst hx0
    exact tz64_zero w
  · obtain ⟨hlow, hk⟩ := Lib.lowest_bit 64 x hx0 hx
    obtain ⟨hi, htab⟩ := Lib.deBruijn64_at _ hk
    have hcell := hT _ hi
    rw [htab] at hcell
    exact tz64_core x _ _ w (by simp; omega) (tz64_key x _ hx hx0 hlow) hi hk hcell
end Go.Proofs.YtemcankmggmgoaaDoor

/- Plain: an amount in its bits. -/
namespace Mvk
def up (x : Nat) : Nat → List Nat
  | 0 => []
  | n + 1 => up x n ++ (if x / 2 ^ n % 2 = 1 then [2 ^ n] else [])
end Mvk

/- keys.Place of a denomination, keys.Split, the reference's Split. -/
namespace Go.Proofs.YtemcankmggmgoaaDoor
open Go.RowKit Go.Mv Mvk

theorem TabAt.still {w w' : World} {g : Nat} {l : List Nat} (h : TabAt g l w) (hf : Fr Nob w w') : TabAt g l w' := fun j hj => hf.cell id (h j hj)
end Go.Proofs.YtemcankmggmgoaaDoor

/- group: none, nothing, opposite. -/
namespace Go.Mv
open Go.RowKit
end Go.Mv
namespace Go.Proofs.YtemcankmggmgoaaDoor
open Go.RowKit Go.Mv Mvp
/-- a point's cells -/
def ptL (m : Md) (x y z : Nat) : List Value := cw 4 (elN m x) ++ (cw 4 (elN m y) ++ cw 4 (elN m z))
def ptV (m : Md) (x y z : Nat) : Value := .agg (ptL m x y z).toArray
/-- the curve's cells -/
def crvL (m : Md) (gp bx by_ : Nat) : List Value := [.pointer (some ⟨gp, 0, none⟩)] ++ (cw 4 (elN m 7) ++ ptL m bx by_ 1)
theorem ptL_len (m : Md) (x y z : Nat) : (ptL m x y z).length = 12 := by simp [ptL, cw_len]
theorem crv_seven (m : Md) (gp bx by_ : Nat) : ((crvL m gp bx by_).drop 1).take (cw 4 (elN m 7)).length = cw 4 (elN m 7) := by
  unfold crvL
  rw [List.singleton_append, List.drop_succ_cons, List.drop_zero, List.take_left]
theorem crv_base (m : Md) (gp bx by_ : Nat) : ((crvL m gp bx by_).drop 5).take (ptL m bx by_ 1).length = ptL m bx by_ 1 := by
  have h : ([Value.pointer (some ⟨gp, 0, none⟩)] ++ cw 4 (elN m 7)).length = 5 := by rw [List.length_append, cw_len]; rfl
  unfold crvL
  rw [← List.append_assoc, List.drop_append_of_le_length (by omega), List.drop_of_length_le (by omega), List.nil_append, List.take_of_length_le (Nat.le_refl _)]
theorem pt_x (a b c : Nat) : ((cw 4 a ++ (cw 4 b ++ cw 4 c)).drop 0).take (cw 4 a).length = cw 4 a := by
  rw [List.drop_zero, List.take_left]
theorem pt_y (a b c : Nat) : ((cw 4 a ++ (cw 4 b ++ cw 4 c)).drop 4).take (cw 4 b).length = cw 4 b := by
  have h : (cw 4 a).length = 4 := cw_len _ _
  rw [List.drop_append_of_le_length (by omega), List.drop_of_length_le (by omega), List.nil_append, List.take_left]
theorem pt_z (a b c : Nat) : ((cw 4 a ++ (cw 4 b ++ cw 4 c)).drop 8).take (cw 4 c).length = cw 4 c := by
  have h : (cw 4 a ++ cw 4 b).length = 8 := by rw [List.length_append, cw_len, cw_len]
  rw [← List.append_assoc, List.drop_append_of_le_length (by omega), List.drop_of_length_le (by omega), List.nil_append, List.take_of_length_le (Nat.le_refl _)]
theorem pt_one (a b c : Nat) : ∀ v ∈ cw 4 a ++ (cw 4 b ++ cw 4 c), v.oneCell' = true := by
  intro v hv
  simp only [List.mem_append] at hv
  rcases hv with h | h | h <;> exact cw_one _ _ v h
theorem built_pt (a b c : Nat) : Tryd.prog.built 49 [(0, i4 a), (1, i4 b), (2, i4 c)] = some (cw 4 a ++ (cw 4 b ++ cw 4 c)).toArray := by kernel_rfl
theorem built_pt2 (a b : Nat) : Tryd.prog.built 49 [(0, i4 a), (1, i4 b)] = some (cw 4 a ++ (cw 4 b ++ cw 4 0)).toArray := by kernel_rfl
attribute [local irreducible] limbs lw mix cw cSub cAdd cMul beN laid be32 montT mstep elN mdL numB
set_option maxHeartbeats 16000000 in
set_option maxRecDepth 1000000 in
theorem none_any (m : Md) (hok : m.Ok) (x y z : Nat) (b : Bool) (hb : (z % m.M == 0) = b) (w : World) :
    Calls Tryd.prog 36 #[ptV m x y z] w fun e w' => e = .returned (.bool b) ∧ Fr Nob w w' := by
  have HOK := Lib.hid hok
  have HB := Lib.hid hb
  clear hok hb
  unfold ptV ptL
  have st0 := St.start Nob w
  go_enter Tryd.func36, Tryd.ntmps36
  go_wp2_with (with_reducible refine wl_stop (o := ⟨some 1, _, _, _, _, _⟩) ?_)
  refine wl_boxS st0 rfl rfl rfl (cw 4 (elN m x) ++ (cw 4 (elN m y) ++ cw 4 (elN m z))) rfl ?_
  intro g1 w1 st1
  clear st0
  go_wp2_with (with_reducible refine wl_stop (o := ⟨some 4, _, _, _, _, _⟩) ?_)
  refine wl_loadA rfl rfl Tryd.underlying47 rfl (st1.at 0 rfl) (cw 4 (elN m z)) (pt_z _ _ _) (by first | (rw [cw_len]; kernel_rfl) | (simp only [List.length_append, cw_len]; kernel_rfl)) ?_
  go_wp2_with fail
  refine (EZero_any m HOK.out z b HB.out _).mono ?_
  rintro e' w2 ⟨rfl, hf2⟩
  have st2 := st1.keep hf2
  clear st1 hf2
  have hfr := st2.fr
  clear st2
  go_wp2_with fail
  go_ret
  exact ⟨rfl, hfr⟩

set_option maxHeartbeats 16000000 in
set_option maxRecDepth 1000000 in
theorem opposite_any (m : Md) (gc gp bx by_ : Nat) (w : World) (hok : m.Ok) (hcv : Has w gc (crvL m gp bx by_) 57) (hpm : Has w gp (mdL m) 72) (x y z : Nat) :
    Calls Tryd.prog 54 #[.pointer (some ⟨gc, 0, none⟩), ptV m x y z] w fun e w' => e = .returned (ptV m x (m.M - y % m.M) z) ∧ Fr Nob w w' := by
  have HOK := Lib.hid hok
  have HCV := Lib.hid hcv
  have HPM := Lib.hid hpm
  clear hok hcv hpm
  unfold ptV ptL
  have st0 := St.start Nob w
  go_enter Tryd.func54, Tryd.ntmps54
  go_wp2_with (with_reducible refine wl_stop (o := ⟨some 3, _, _, _, _, _⟩) ?_)
  refine wl_boxS st0 rfl rfl rfl (cw 4 (elN m x) ++ (cw 4 (elN m y) ++ cw 4 (elN m z))) rfl ?_
  intro g3 w1 st1
  clear st0
  go_wp2_with (with_reducible refine wl_stop (o := ⟨some 4, _, _, _, _, _⟩) ?_)
  refine wl_allocS st1 rfl rfl (z := .agg #[.int .u64 0, .int .u64 0, .int .u64 0, .int .u64 0, .int .u64 0, .int .u64 0, .int .u64 0, .int .u64 0, .int .u64 0, .int .u64 0, .int .u64 0, .int .u64 0]) (by kernel_rfl) (cw 12 0) (by rw [cw_zero]; rfl) ?_
  intro g4 w2 st2
  clear st1
  go_wp2_with fail
  refine wp_region_noPanic ?_
  refine wp_region_plan (fun wx => St Nob w wx [(g3, cw 4 (elN m x) ++ (cw 4 (elN m y) ++ cw 4 (elN m z)), 49), (g4, cw 12 0, 49)]) 12 (.w 0 (.t 1 (.w 2 (.w 3 (.w 4 (.t 5 (.w 6 (.t 7 (.w 9 (.t 10 (.r 8 (.w 11 (.m 12 .nil))))))))))))) (by kernel_rfl) (by kernel_rfl) st2.drew (fun _ _ _ _ _ h => h) ?_
  have hd2 := st2.drew
  clear st2
  refine plan_w (v := ?_) rfl rfl (fun wx => ?_) ?_
  rotate_left 1
  · (go_simp; with_reducible rfl)
  try simp only [Go.Mv.clL]
  refine plan_arr rfl rfl rfl rfl (cw 4 (elN m x)) (fun wx hS => St.rangeL hS 0 rfl 0 _ (pt_x _ _ _)) Tryd.underlying47 rfl (by first | (rw [cw_len]; kernel_rfl) | (simp only [List.length_append, cw_len]; kernel_rfl)) ?_
  try simp only [Go.Mv.clL]
  refine plan_w (v := ?_) rfl rfl (fun wx => ?_) ?_
  rotate_left 1
  · (go_simp; with_reducible rfl)
  try simp only [Go.Mv.clL]
  refine plan_w (v := ?_) rfl rfl (fun wx => ?_) ?_
  rotate_left 1
  · (go_simp; with_reducible rfl)
  try simp only [Go.Mv.clL]
  refine plan_w (v := ?_) rfl rfl (fun wx => ?_) ?_
  rotate_left 1
  · (go_simp; with_reducible rfl)
  try simp only [Go.Mv.clL]
  refine plan_t (v := ?_) rfl rfl (fun wx hS => ?_) ?_
  rotate_left 1
  · (have hc := (HCV.out.keep (St.fr hS) id).cell (i := 0) rfl; clear hS; go_simp; with_reducible rfl)
  try simp only [Go.Mv.clL]
  refine plan_w (v := ?_) rfl rfl (fun wx => ?_) ?_
  rotate_left 1
  · (go_simp; with_reducible rfl)
  try simp only [Go.Mv.clL]
  refine plan_arr rfl rfl rfl rfl (cw 4 (elN m y)) (fun wx hS => St.rangeL hS 0 rfl 4 _ (pt_y _ _ _)) Tryd.underlying47 rfl (by first | (rw [cw_len]; kernel_rfl) | (simp only [List.length_append, cw_len]; kernel_rfl)) ?_
  try simp only [Go.Mv.clL]
  refine plan_w (v := ?_) rfl rfl (fun wx => ?_) ?_
  rotate_left 1
  · (go_simp; with_reducible rfl)
  try simp only [Go.Mv.clL]
  refine plan_arr rfl rfl rfl rfl (cw 4 (elN m z)) (fun wx hS => St.rangeL hS 0 rfl 8 _ (pt_z _ _ _)) Tryd.underlying47 rfl (by first | (rw [cw_len]; kernel_rfl) | (simp only [List.length_append, cw_len]; kernel_rfl)) ?_
  try simp only [Go.Mv.clL]
  refine plan_r rfl rfl ?_
  go_simp
  refine (MNeg_any m gp _ HOK.out (HPM.out.keep hd2.fr id) y).mono ?_
  rintro e' w3 ⟨rfl, hf3⟩
  have st3 := hd2.keep hf3
  clear hf3
  clear hd2
  refine ⟨st3, ?_⟩
  try simp only [Go.Mv.clL]
  refine plan_w rfl rfl (exec_build rfl _ (built_pt _ _ _)) ?_
  try simp only [Go.Mv.clL]
  refine plan_m rfl rfl ?_
  refine wp_storeS st3 1 rfl rfl rfl rfl (by first | (simp only [cw_len]; done) | (simp only [List.length_append, cw_len]; done)) (by first | (rw [cw_len]; kernel_rfl) | (simp only [List.length_append, cw_len]; kernel_rfl)) (pt_one _ _ _) ?_
  intro w4 st4
  clear st3
  try simp only [Act.put]
  refine plan_end ?_
  refine NoPanic.normal ?_
  have hr := st4.at 1 rfl
  have hfr := st4.fr
  clear st4
  go_wp2_with fail
  exact bodyPost_ret (results_st rfl rfl hr Tryd.underlying49 rfl (by first | (rw [cw_len]; kernel_rfl) | (simp only [List.length_append, cw_len]; kernel_rfl))) rfl ⟨rfl, hfr⟩
end Go.Proofs.YtemcankmggmgoaaDoor

/- Two blocks that were made in the other order. -/
namespace Go.Mv
open Go.RowKit
end Go.Mv

/- A region that draws its order, told as a chain of steps beside fresh blocks (allocs) that may be made at any time between their opening and their joint: each step is shown once. -/
namespace Go.Mv
open Go.RowKit
abbrev Blk := Nat × List Value × TypeId
/-- one place of a function turned -/
def upd (x : Nat → Value) (i : Nat) (v : Value) : Nat → Value := fun k => if k = i then v else x k
theorem upd_same (x : Nat → Value) (i : Nat) (v : Value) : upd x i v i = v := if_pos rfl
theorem upd_other (x : Nat → Value) (i k : Nat) (v : Value) (h : (k == i) = false) : upd x i v k = x k := if_neg (by simpa using h)
theorem St.perm {S : Nat → Prop} {w0 w : World} {bl bl' : List Blk} (h : St S w0 w bl) (p : bl'.Perm bl) : St S w0 w bl' :=
  ⟨h.fr, fun x hx => h.own x (p.subset hx), fun x hx => h.has x (p.subset hx), (List.Perm.pairwise_iff (fun {_ _} e => Ne.symm e) p).2 h.ne⟩
/-- w, t: taken ahead; c: carried out; o: from here on a block may be made; j: by here it is made -/
inductive LS where
  | w (i : Nat)
  | t (i : Nat)
  | c (i : Nat)
  | o (i : Nat)
  | j (i : Nat)
def lcnt : List LS → Nat
  | [] => 0
  | .j _ :: s => lcnt s
  | _ :: s => lcnt s + 1
section
variable {P : Program} {ops : Array Oper} {md : Region.Mode} {Q : Exit → Act → World → Prop} {Sx : World → Prop} {m : Nat} {S : Nat → Prop} {w0 : World} {tl : Pl}
/-- what makes one block of its own, in whatever world -/
def Mk (P : Program) (e : Sem Next) (v : Nat → Value) (L : List Value) (T : TypeId) : Prop :=
  ∀ w, ∃ g w', e.run P w = .ok (.value (v g)) w' ∧ Fr Nob w w' ∧ w.heap.size ≤ g ∧ Has w' g L T
/-- an open block: the operation, its value, its cells -/
abbrev Flt := Nat × (Nat → Value) × List Value × TypeId
def Lad (P : Program) (ops : Array Oper) (Q : Exit → Act → World → Prop) (Sx : World → Prop) (S : Nat → Prop) (w0 : World) (tl : Pl) : List LS → List Flt → List Blk → (World → Prop) → ((Nat → Value) → Act) → Prop
  | [], _, BL, R, A => ∀ x w, St S w0 w BL → R w → wpPlan P ops Q Sx tl (A x) w
  | .w i :: s, Γ, BL, R, A => ∃ o v, ops[i]? = some o ∧ (∀ x, YieldsIf P ops (fun _ => True) o v (A x)) ∧ Lad P ops Q Sx S w0 tl s Γ BL R (fun x => (A x).put o.dst v)
  | .t i :: s, Γ, BL, R, A => ∃ o v, ops[i]? = some o ∧ (∀ x, YieldsIf P ops Sx o v (A x)) ∧ Lad P ops Q Sx S w0 tl s Γ BL R (fun x => (A x).put o.dst v)
  | .c i :: s, Γ, BL, R, A => ∃ o, ops[i]? = some o ∧ o.guard = none ∧ ∃ (X : Type) (v : X → Value) (R' : X → World → Prop), (∀ y w w', R' y w → Fr Nob w w' → R' y w') ∧
      (∀ x w, St S w0 w BL → R w → o.wp P (A x) w (fun a' w' => ∃ y, a' = (A x).put o.dst (v y) ∧ Fr Nob w w' ∧ R' y w') Q) ∧ ∀ y, Lad P ops Q Sx S w0 tl s Γ BL (fun w => R w ∧ R' y w) (fun x => (A x).put o.dst (v y))
  | .o i :: s, Γ, BL, R, A => ∃ o e v L T, ops[i]? = some o ∧ o.guard = none ∧ (∀ x, execOp (A x).eval o = e) ∧ Mk P e v L T ∧ Lad P ops Q Sx S w0 tl s ((i, v, L, T) :: Γ) BL R (fun x => (A x).put o.dst (x i))
  | .j i :: s, Γ, BL, R, A => ∃ v L T, (i, v, L, T) ∈ Γ ∧ ∀ g, Lad P ops Q Sx S w0 tl s (Γ.filter (·.1 != i)) (BL ++ [(g, L, T)]) R (fun x => A (upd x i (v g)))

def subs : List Nat → List (List Nat)
  | [] => [[]]
  | a :: l => subs l ++ (subs l).map (a :: ·)
theorem filter_subs (p : Nat → Bool) : ∀ l : List Nat, l.filter p ∈ subs l
  | [] => by simp [subs]
  | a :: l => by
    rw [subs, List.filter_cons]
    split
    · exact List.mem_append_right _ (List.mem_map.2 ⟨_, filter_subs p l, rfl⟩)
    · exact List.mem_append_left _ (filter_subs p l)
/-- the open blocks of B are made -/
def mark (listed : Array Bool) (B : List Nat) : Array Bool := listed.mapIdx fun k b => b || B.contains k
theorem mark_size (listed : Array Bool) (B : List Nat) : (mark listed B).size = listed.size := by simp [mark]
theorem mark_get (listed : Array Bool) (B : List Nat) (k : Nat) (hk : k < listed.size) (d : Bool) : (mark listed B).getD k d = (listed.getD k d || B.contains k) := by
  simp [mark, hk]
theorem arr_ext {a b : Array Bool} (hs : a.size = b.size) (h : ∀ k, k < a.size → a.getD k true = b.getD k true) : a = b := by
  refine Array.ext hs fun k h1 h2 => ?_
  have := h k h1
  simpa [h1, h2] using this
theorem mark_set (listed : Array Bool) (B : List Nat) (i : Nat) : (mark listed B).setIfInBounds i true = mark (listed.setIfInBounds i true) B := by
  refine arr_ext (by simp [mark_size]) fun k hk => ?_
  have hk' : k < listed.size := by simpa [mark_size] using hk
  rw [mark_get _ _ _ (by simpa using hk')]
  by_cases e : i = k
  · subst e; rw [getD_set_self (by rw [mark_size]; exact hk'), getD_set_self hk']; rfl
  · rw [getD_set_ne true e, getD_set_ne true e, mark_get _ _ _ hk']
theorem mark_more (listed : Array Bool) (B : List Nat) (i : Nat) : (mark listed B).setIfInBounds i true = mark listed (B ++ [i]) := by
  refine arr_ext (by simp [mark_size]) fun k hk => ?_
  have hk' : k < listed.size := by simpa [mark_size] using hk
  rw [mark_get _ _ _ hk']
  by_cases e : i = k
  · subst e; rw [getD_set_self (by rw [mark_size]; exact hk')]; simp
  · rw [getD_set_ne true e, mark_get _ _ _ hk']
    have : (k == i) = false := by simpa using fun h => e h.symm
    rw [List.contains_append, List.contains_cons, this]
    simp
theorem mark_same (listed : Array Bool) (B C : List Nat) (h : ∀ k, B.contains k = C.contains k) : mark listed B = mark listed C := by
  unfold mark
  congr 1
  funext k b
  rw [h k]
/-- what can come is i, or an open block that is not made -/
def cOk (md : Region.Mode) (ops : Array Oper) (i : Nat) (opn : List Nat) (listed : Array Bool) (B : List Nat) : Bool :=
  (Region.ready md ops (mark listed B)).contains i && (Region.ready md ops (mark listed B)).all fun k => k == i || (opn.contains k && !B.contains k)
def dstNe (ops : Array Oper) (i : Nat) (opn : List Nat) : Bool := opn.all fun k => match ops[i]?, ops[k]? with | some a, some b => a.apart ops b | _, _ => false
def selfOk (ops : Array Oper) (i : Nat) : Bool := match ops[i]? with | some o => (match o.dst with | some d => !(o.looksAt ops).contains d | none => true) | none => false
def ladOk (md : Region.Mode) (ops : Array Oper) (m : Nat) (tl : Pl) : List LS → List Nat → Array Bool → Bool
  | [], opn, listed => opn.isEmpty && planOk md ops m tl listed
  | .w i :: s, opn, listed => decide (i ≠ m) && dstNe ops i opn && ((subs opn).all fun B => (Region.ready md ops (mark listed B)).contains i && Region.free md ops (mark listed B) i) && ladOk md ops m tl s opn (listed.setIfInBounds i true)
  | .t i :: s, opn, listed => decide (i ≠ m) && decide (listed.getD m true = false) && dstNe ops i opn && ancB md ops m ops.size i && ((subs opn).all fun B => (Region.ready md ops (mark listed B)).contains i && Region.free md ops (mark listed B) i) && ladOk md ops m tl s opn (listed.setIfInBounds i true)
  | .c i :: s, opn, listed => decide (i ≠ m) && decide (listed.getD m true = false) && !opn.contains i && dstNe ops i opn && ((subs opn).all fun B => cOk md ops i opn listed B) && ladOk md ops m tl s opn (listed.setIfInBounds i true)
  | .o i :: s, opn, listed => decide (i ≠ m) && decide (listed.getD m true = false) && !opn.contains i && dstNe ops i opn && selfOk ops i && ladOk md ops m tl s (i :: opn) listed
  | .j i :: s, opn, listed => opn.contains i && decide (listed.getD m true = false) && !opn.contains m && ((subs (opn.filter (· != i))).all fun B => cOk md ops i opn listed B) && ladOk md ops m tl s (opn.filter (· != i)) (listed.setIfInBounds i true)

theorem put_comm (a : Act) (d e : Option Tmp) (u v : Value) (h : e ≠ d ∨ e = none) : (a.put e u).put d v = (a.put d v).put e u := by
  cases d <;> cases e <;> simp only [Act.put]
  · rename_i x y
    have hn : y ≠ x := fun k => by subst k; rcases h with h | h; exact h rfl; cases h
    rw [Array.setIfInBounds_comm _ _ hn]
theorem put_twice (a : Act) (d : Option Tmp) (u v : Value) : (a.put d u).put d v = a.put d v := by
  cases d <;> simp [Act.put]
theorem put_back (a : Act) (d : Option Tmp) : ∃ u, a.put d u = a := by
  cases d with
  | none => exact ⟨undef, rfl⟩
  | some d =>
    refine ⟨a.tmps.getD d undef, ?_⟩
    simp only [Act.put]
    have : a.tmps.setIfInBounds d (a.tmps.getD d undef) = a.tmps := by
      refine Array.ext (by simp) fun k h1 h2 => ?_
      rw [Array.getElem_setIfInBounds (by simpa using h1)]
      split
      · rename_i e; subst e; simp [h2]
      · rfl
    rw [this]
theorem upd_self (x : Nat → Value) (i : Nat) : upd x i (x i) = x := by
  funext k
  unfold upd
  split
  · rename_i e; rw [e]
  · rfl
theorem dst_ap {i : Nat} {opn : List Nat} {o : Oper} (h : dstNe ops i opn = true) (ho : ops[i]? = some o) {k : Nat} {ok : Oper} (hk : k ∈ opn) (hok : ops[k]? = some ok) : o.apart ops ok = true := by
  have := List.all_eq_true.1 h k hk
  simp only [ho, hok] at this
  exact this
theorem ap_dst {o ok : Oper} (h : o.apart ops ok = true) : o.dst ≠ ok.dst ∨ o.dst = none := by
  obtain ⟨-, h2, -⟩ := Oper.apart_spec h
  cases hd : o.dst with
  | none => exact .inr rfl
  | some d => exact .inl fun e => h2 d hd e.symm
theorem wp_mk {o : Oper} {e : Sem Next} {v : Nat → Value} {L : List Value} {T : TypeId} (ha : Mk P e v L T) {BL : List Blk} {a : Act} {w : World} {K : Act → World → Prop} (he : execOp a.eval o = e) (hst : St S w0 w BL)
    (h : ∀ g w', St S w0 w' (BL ++ [(g, L, T)]) → Fr Nob w w' → K (a.put o.dst (v g)) w') : o.wp P a w K Q := by
  obtain ⟨g, w', hr, hf, hle, hg⟩ := ha w
  unfold Oper.wp
  rw [he, hr]
  exact h g w' (hst.new hf hg hle) hf
structure Fls (P : Program) (ops : Array Oper) (Γ : List Flt) (A : (Nat → Value) → Act) : Prop where
  nd : (Γ.map Prod.fst).Nodup
  ok : ∀ q ∈ Γ, ∃ o e, ops[q.1]? = some o ∧ o.guard = none ∧ (∀ x, execOp (A x).eval o = e) ∧ Mk P e q.2.1 q.2.2.1 q.2.2.2
  put : ∀ k ∈ Γ.map Prod.fst, ∀ o, ops[k]? = some o → ∀ x v, (A x).put o.dst v = A (upd x k v)
  not : ∀ k, k ∉ Γ.map Prod.fst → ∀ x v, A (upd x k v) = A x
theorem Fls.step {Γ : List Flt} {A : (Nat → Value) → Act} (h : Fls P ops Γ A) (hsel : Region.noSelect ops = true) {i : Nat} {o : Oper} (ho : ops[i]? = some o) (hd : dstNe ops i (Γ.map Prod.fst) = true) (v : Value) : Fls P ops Γ (fun x => (A x).put o.dst v) := by
  refine ⟨h.nd, fun q hq => ?_, fun k hk ok hok x u => ?_, fun k hk x u => by rw [h.not k hk]⟩
  · obtain ⟨o2, e, h1, h2, h3, h4⟩ := h.ok q hq
    have hap := dst_ap hd ho (List.mem_map_of_mem hq) h1
    refine ⟨o2, e, h1, h2, fun x => ?_, h4⟩
    rw [execOp_put (ops := ops) o2 (fun cs b => Region.noSelect_spec hsel q.1 o2 cs b h1) (A x) o.dst v (Oper.apart_spec hap).1]
    exact h3 x
  · rw [put_comm _ _ _ _ _ (ap_dst (dst_ap hd ho hk hok)), h.put k hk ok hok]
theorem flt_unique {Γ : List Flt} (h : (Γ.map Prod.fst).Nodup) {a b : Flt} (ha : a ∈ Γ) (hb : b ∈ Γ) (he : a.1 = b.1) : a = b := by
  induction Γ with
  | nil => cases ha
  | cons c l ih =>
    rw [List.map_cons, List.nodup_cons] at h
    rcases List.mem_cons.1 ha with ha1 | ha1
    · rcases List.mem_cons.1 hb with hb1 | hb1
      · rw [ha1, hb1]
      · exact absurd (by rw [← ha1, he]; exact List.mem_map_of_mem hb1) h.1
    · rcases List.mem_cons.1 hb with hb1 | hb1
      · exact absurd (by rw [← hb1, ← he]; exact List.mem_map_of_mem ha1) h.1
      · exact ih h.2 ha1 hb1
theorem flt_map (Γ : List Flt) (i : Nat) : (Γ.filter (·.1 != i)).map Prod.fst = (Γ.map Prod.fst).filter (· != i) := by
  induction Γ with
  | nil => rfl
  | cons a l ih =>
    simp only [List.filter_cons, List.map_cons]
    split <;> simp [ih]
theorem nd_filter {l : List Nat} (h : l.Nodup) (p : Nat → Bool) : (l.filter p).Nodup := List.Pairwise.filter p h
theorem len_filter {l : List Nat} (h : l.Nodup) {i : Nat} (hi : i ∈ l) : (l.filter (· != i)).length + 1 = l.length := by
  induction l with
  | nil => cases hi
  | cons a l ih =>
    rw [List.nodup_cons] at h
    rw [List.filter_cons]
    by_cases e : a = i
    · subst e
      rw [if_neg (by simp)]
      have : l.filter (· != a) = l := List.filter_eq_self.2 fun b hb => by
        simp only [bne_iff_ne, ne_eq]
        exact fun e => h.1 (e ▸ hb)
      rw [this]; rfl
    · rw [if_pos (by simpa using e)]
      rcases List.mem_cons.1 hi with rfl | hi
      · exact absurd rfl e
      · simp [← ih h.2 hi]
theorem wpP_of_lad (hsel : Region.noSelect ops = true) (hm : m < ops.size) (hQ : ∀ c (d : Option Tmp) v a w, Q (.panic c) (Act.put a d v) w → Q (.panic c) a w) :
    ∀ (N f : Nat) (s : List LS) (Γ : List Flt) (listed : Array Bool) (D : List (Nat × Value × Blk)) (x : Nat → Value) (w : World) (BL : List Blk) (R : World → Prop) (A : (Nat → Value) → Act),
      f + s.length ≤ N → f + D.length = lcnt s + Γ.length + tl.len → listed.size = ops.size → m ∉ Γ.map Prod.fst → (D.map Prod.fst).Nodup → Cl md ops (mark listed (D.map Prod.fst)) →
      ladOk md ops m tl s (Γ.map Prod.fst) listed = true → (∀ d ∈ D, x d.1 = d.2.1) → Fls P ops Γ A → (∀ d ∈ D, ∃ v, (d.1, v, d.2.2.2.1, d.2.2.2.2) ∈ Γ ∧ d.2.1 = v d.2.2.1) →
      St S w0 w (BL ++ D.map fun d => d.2.2) → R w → (∀ w w', R w → Fr Nob w w' → R w') → (∀ w', St S w0 w' BL → Sx w') →
      Lad P ops Q Sx S w0 tl s Γ BL R A → wpP P md ops Q Sx m f (mark listed (D.map Prod.fst)) (A x) w := by
  intro N
  induction N with
  | zero =>
    intro f s Γ listed D x w BL R A hN hf hsz hmo hDn inv hok hx hfl hDinf hst hR hRm hSx hlad
    obtain rfl : f = 0 := by omega
    obtain rfl : s = [] := by cases s with | nil => rfl | cons _ _ => simp at hN
    simp only [ladOk, Bool.and_eq_true, List.isEmpty_iff, List.map_eq_nil_iff] at hok
    obtain ⟨rfl, hpl⟩ := hok
    obtain rfl : D = [] := by cases D with | nil => rfl | cons d _ => obtain ⟨_, h, _⟩ := hDinf d (by simp); cases h
    have hmk : mark listed (List.map Prod.fst ([] : List (Nat × Value × Blk))) = listed := by
      refine arr_ext (mark_size _ _) fun k hk => ?_
      rw [mark_get _ _ _ (by simpa [mark_size] using hk)]; simp
    rw [hmk] at inv ⊢
    have hst' : St S w0 w BL := by simpa using hst
    have hc : (0 : Nat) = tl.len := by simpa [lcnt] using hf
    have := wpP_of_plan (md := md) hsel hm hQ tl listed (A x) w inv hpl (fun _ => hSx w hst') (hlad x w hst' hR)
    rwa [← hc] at this
  | succ N ih =>
    intro f s Γ listed D x w BL R A hN hf hsz hmo hDn inv hok hx hfl hDinf hst hR hRm hSx hlad
    have hstB : St S w0 w BL := hst.less (List.sublist_append_left _ _)
    have hDo : ∀ d ∈ D, d.1 ∈ Γ.map Prod.fst := fun d hd => by
      obtain ⟨v, h, _⟩ := hDinf d hd
      exact List.mem_map_of_mem (f := Prod.fst) h
    have hDsub : D.map Prod.fst ⊆ Γ.map Prod.fst := fun a ha => by obtain ⟨d, hd, e⟩ := List.mem_map.1 ha; exact e ▸ hDo d hd
    have hDle : D.length ≤ Γ.length := by
      have := List.Nodup.length_le_of_subset hDn hDsub
      simpa using this
    have hml (h : listed.getD m true = false) : (mark listed (D.map Prod.fst)).getD m true = false := by
      rw [mark_get _ _ _ (by rw [hsz]; exact hm), h]
      simp only [Bool.false_or]
      cases hb : (D.map Prod.fst).contains m with
      | false => rfl
      | true => exact absurd (hDsub (List.contains_iff_mem.1 hb)) hmo
    have hmB : ∀ opn' : List Nat, (∀ d ∈ D, d.1 ∈ opn') → (mark listed (D.map Prod.fst)) = mark listed (opn'.filter fun k => (D.map Prod.fst).contains k) := by
      intro opn' hD'
      refine mark_same _ _ _ fun k => ?_
      rw [Bool.eq_iff_iff]
      simp only [List.mem_filter, List.elem_eq_mem, decide_eq_true_eq]
      constructor
      · intro h
        obtain ⟨d, hd, e⟩ := List.mem_map.1 h
        exact ⟨e ▸ hD' d hd, by simpa using h⟩
      · intro h; simpa using h.2
    -- one more of the open blocks is made
    have float : ∀ k, f ≠ 0 → k ∈ Γ.map Prod.fst → k ∉ D.map Prod.fst → k ∈ Region.ready md ops (mark listed (D.map Prod.fst)) →
        wpOp P ops Q k (fun a' w' => ((mark listed (D.map Prod.fst)).getD m true = false → k ≠ m → Sx w') ∧ wpP P md ops Q Sx m (f - 1) ((mark listed (D.map Prod.fst)).setIfInBounds k true) a' w') (A x) w := by
      intro k hf0 hko hkD hkr
      obtain ⟨⟨k2, v, L, T⟩, hq, rfl⟩ := List.mem_map.1 hko
      obtain ⟨o, e, ho, hg, he, hmk⟩ := hfl.ok _ hq
      refine wpOp_one ho hg (wp_mk hmk (he x) hst fun g w' hst' hfr => ?_)
      have hstB' : St S w0 w' BL := hst'.less (by rw [List.append_assoc]; exact List.sublist_append_left _ _)
      refine ⟨fun _ _ => hSx w' hstB', ?_⟩
      rw [hfl.put k2 hko o ho]
      have e1 : (mark listed (D.map Prod.fst)).setIfInBounds k2 true = mark listed ((D ++ [(k2, v g, (g, L, T))]).map Prod.fst) := by
        rw [mark_more]; simp
      have inv' := inv.set hkr
      rw [e1] at inv' ⊢
      refine ih (f - 1) s Γ listed (D ++ [(k2, v g, (g, L, T))]) (upd x k2 (v g)) w' BL R A (by omega) (by simp; omega) hsz hmo ?_ inv' hok ?_ hfl ?_ ?_ (hRm w w' hR hfr) hRm hSx hlad
      · rw [List.map_append, List.nodup_append]
        refine ⟨hDn, by simp, fun a ha b hb => ?_⟩
        simp only [List.map_cons, List.map_nil, List.mem_singleton] at hb
        subst hb
        exact fun h => hkD (h ▸ ha)
      · intro d hd
        rcases List.mem_append.1 hd with h | h
        · have hne : d.1 ≠ k2 := fun h2 => hkD (h2 ▸ List.mem_map_of_mem h)
          rw [upd_other _ _ _ _ (by simpa using hne)]
          exact hx d h
        · simp only [List.mem_singleton] at h; subst h; exact upd_same _ _ _
      · intro d hd
        rcases List.mem_append.1 hd with h | h
        · exact hDinf d h
        · simp only [List.mem_singleton] at h; subst h; exact ⟨v, hq, rfl⟩
      · simpa using hst'
    cases s with
    | nil =>
      simp only [ladOk, Bool.and_eq_true, List.isEmpty_iff, List.map_eq_nil_iff] at hok
      obtain ⟨rfl, hpl⟩ := hok
      obtain rfl : D = [] := by cases D with | nil => rfl | cons d _ => simp at hDle
      have hmk : mark listed (List.map Prod.fst ([] : List (Nat × Value × Blk))) = listed := by
        refine arr_ext (mark_size _ _) fun k hk => ?_
        rw [mark_get _ _ _ (by simpa [mark_size] using hk)]; simp
      rw [hmk] at inv ⊢
      have hc : f = tl.len := by simpa [lcnt] using hf
      have := wpP_of_plan (md := md) hsel hm hQ tl listed (A x) w inv hpl (fun _ => hSx w hstB) (hlad x w hstB hR)
      rwa [← hc] at this
    | cons q s =>
      cases q with
      | w i =>
        obtain ⟨o, v, ho, hy, hK⟩ := hlad
        simp only [ladOk, Bool.and_eq_true, decide_eq_true_eq] at hok
        obtain ⟨⟨⟨him, hdn⟩, hall⟩, hok'⟩ := hok
        have hB := List.all_eq_true.1 hall _ (filter_subs (fun k => (D.map Prod.fst).contains k) (Γ.map Prod.fst))
        rw [← hmB _ hDo, Bool.and_eq_true] at hB
        have hr' : i ∈ Region.ready md ops (mark listed (D.map Prod.fst)) := by simpa using hB.1
        obtain ⟨f', rfl⟩ : ∃ f', f = f' + 1 := ⟨f - 1, by simp [lcnt] at hf; omega⟩
        refine wpP_takeW ho (Region.noSelect_spec hsel) (fun c a w => hQ c o.dst v a w) him hm f' _ (A x) w inv (Region.free_spec ho hB.2) hr' (hy x) (fun _ => hSx w hstB) ?_
        have inv' := inv.set hr'
        rw [mark_set] at inv' ⊢
        exact ih f' s Γ (listed.setIfInBounds i true) D x w BL R (fun x => (A x).put o.dst v) (by simp at hN; omega) (by simp [lcnt] at hf; omega) (by simpa using hsz) hmo hDn inv' hok' hx (hfl.step hsel ho hdn v) hDinf hst hR hRm hSx hK
      | t i =>
        obtain ⟨o, v, ho, hy, hK⟩ := hlad
        simp only [ladOk, Bool.and_eq_true, decide_eq_true_eq] at hok
        obtain ⟨⟨⟨⟨⟨him, hlm⟩, hdn⟩, han⟩, hall⟩, hok'⟩ := hok
        have hB := List.all_eq_true.1 hall _ (filter_subs (fun k => (D.map Prod.fst).contains k) (Γ.map Prod.fst))
        rw [← hmB _ hDo, Bool.and_eq_true] at hB
        have hr' : i ∈ Region.ready md ops (mark listed (D.map Prod.fst)) := by simpa using hB.1
        obtain ⟨f', rfl⟩ : ∃ f', f = f' + 1 := ⟨f - 1, by simp [lcnt] at hf; omega⟩
        refine wpP_takeS ho (Region.noSelect_spec hsel) (fun c a w => hQ c o.dst v a w) him han f' _ (A x) w inv (hml hlm) (Region.free_spec ho hB.2) hr' (hy x) (hSx w hstB) ?_
        have inv' := inv.set hr'
        rw [mark_set] at inv' ⊢
        exact ih f' s Γ (listed.setIfInBounds i true) D x w BL R (fun x => (A x).put o.dst v) (by simp at hN; omega) (by simp [lcnt] at hf; omega) (by simpa using hsz) hmo hDn inv' hok' hx (hfl.step hsel ho hdn v) hDinf hst hR hRm hSx hK
      | c i =>
        obtain ⟨o, ho, hg, X, v, R', hmono, hc, hK⟩ := hlad
        simp only [ladOk, Bool.and_eq_true, decide_eq_true_eq, Bool.not_eq_true'] at hok
        obtain ⟨⟨⟨⟨⟨him, hlm⟩, hio⟩, hdn⟩, hall⟩, hok'⟩ := hok
        have hB := List.all_eq_true.1 hall _ (filter_subs (fun k => (D.map Prod.fst).contains k) (Γ.map Prod.fst))
        unfold cOk at hB
        rw [← hmB _ hDo, Bool.and_eq_true] at hB
        have hr' : i ∈ Region.ready md ops (mark listed (D.map Prod.fst)) := by simpa using hB.1
        obtain ⟨f', rfl⟩ : ∃ f', f = f' + 1 := ⟨f - 1, by simp [lcnt] at hf; omega⟩
        refine ⟨fun h0 => (by rw [h0] at hr'; cases hr'), fun j hj => ?_⟩
        have hcase := List.all_eq_true.1 hB.2 j hj
        simp only [Bool.or_eq_true, beq_iff_eq, Bool.and_eq_true, Bool.not_eq_true'] at hcase
        rcases hcase with rfl | ⟨h1, h2⟩
        · refine wpOp_one ho hg (Oper.wp_mono (fun a' w' h' => ?_) (hc x w hstB hR))
          obtain ⟨y, rfl, hfr, hRy⟩ := h'
          refine ⟨fun _ _ => hSx w' (hstB.keep hfr), ?_⟩
          have inv' := inv.set hr'
          rw [mark_set] at inv' ⊢
          exact ih f' s Γ (listed.setIfInBounds j true) D x w' BL (fun w => R w ∧ R' y w) (fun x => (A x).put o.dst (v y)) (by simp at hN; omega) (by simp [lcnt] at hf; omega) (by simpa using hsz) hmo hDn inv' hok' hx (hfl.step hsel ho hdn (v y)) hDinf (hst.keep hfr) ⟨hRm w w' hR hfr, hRy⟩ (fun a b h k => ⟨hRm a b h.1 k, hmono y a b h.2 k⟩) hSx (hK y)
        · have h3 : j ∉ D.map Prod.fst := by
            intro h4
            have : ((Γ.map Prod.fst).filter fun k => (D.map Prod.fst).contains k).contains j = true := by
              simp only [List.contains_iff_mem, List.mem_filter]
              exact ⟨by simpa using h1, by simpa using h4⟩
            rw [this] at h2; cases h2
          exact float j (by omega) (by simpa using h1) h3 hj
      | o i =>
        obtain ⟨o, e, v, L, T, ho, hg, he, hmk, hK⟩ := hlad
        simp only [ladOk, Bool.and_eq_true, decide_eq_true_eq, Bool.not_eq_true'] at hok
        obtain ⟨⟨⟨⟨⟨him, hlm⟩, hio⟩, hdn⟩, hself⟩, hok'⟩ := hok
        have hio' : i ∉ Γ.map Prod.fst := by simpa using hio
        obtain ⟨u, hu⟩ := put_back (A x) o.dst
        have hAx : A x = (A (upd x i u)).put o.dst (upd x i u i) := by rw [upd_same, hfl.not i hio', hu]
        rw [hAx]
        have hs0 : ∀ d, o.dst = some d → d ∉ o.looksAt ops := by
          intro d hd
          unfold selfOk at hself
          simp only [ho, hd] at hself
          simpa using hself
        refine ih f s ((i, v, L, T) :: Γ) listed D (upd x i u) w BL R (fun x => (A x).put o.dst (x i)) (by simp at hN; omega) (by simp [lcnt] at hf ⊢; omega) hsz ?_ hDn inv hok' ?_ ⟨?_, ?_, ?_, ?_⟩ (fun d hd => by obtain ⟨v, h1, h2⟩ := hDinf d hd; exact ⟨v, List.mem_cons_of_mem _ h1, h2⟩) hst hR hRm hSx hK
        · simp only [List.map_cons, List.mem_cons, not_or]; exact ⟨fun h => him h.symm, hmo⟩
        · intro d hd
          have hne : d.1 ≠ i := fun h => hio' (h ▸ hDo d hd)
          rw [upd_other _ _ _ _ (by simpa using hne)]
          exact hx d hd
        · rw [List.map_cons, List.nodup_cons]; exact ⟨hio', hfl.nd⟩
        · intro q hq
          rcases List.mem_cons.1 hq with rfl | hq
          · refine ⟨o, e, ho, hg, fun x => ?_, hmk⟩
            show execOp ((A x).put o.dst (x i)).eval o = e
            rw [execOp_put (ops := ops) o (fun cs b => Region.noSelect_spec hsel i o cs b ho) _ _ _ hs0, he]
          · obtain ⟨o2, e2, h1, h2, h3, h4⟩ := hfl.ok q hq
            have hap := dst_ap hdn ho (List.mem_map_of_mem hq) h1
            refine ⟨o2, e2, h1, h2, fun x => ?_, h4⟩
            show execOp ((A x).put o.dst (x i)).eval o2 = e2
            rw [execOp_put (ops := ops) o2 (fun cs b => Region.noSelect_spec hsel q.1 o2 cs b h1) _ _ _ (Oper.apart_spec hap).1, h3]
        · intro k hk ok hok x v
          show ((A x).put o.dst (x i)).put ok.dst v = (A (upd x k v)).put o.dst (upd x k v i)
          rw [List.map_cons] at hk
          rcases List.mem_cons.1 hk with rfl | hk
          · have : ok = o := Option.some.inj (hok.symm.trans ho)
            subst this
            rw [put_twice, upd_same, hfl.not _ hio']
          · have hne : i ≠ k := fun h => hio' (h ▸ hk)
            rw [put_comm _ _ _ _ _ (ap_dst (dst_ap hdn ho hk hok)), hfl.put k hk ok hok, upd_other _ _ _ _ (by simpa using hne)]
        · intro k hk x v
          show (A (upd x k v)).put o.dst (upd x k v i) = (A x).put o.dst (x i)
          simp only [List.map_cons, List.mem_cons, not_or] at hk
          rw [hfl.not k hk.2, upd_other _ _ _ _ (by simpa using fun h => hk.1 h.symm)]
      | j i =>
        obtain ⟨v, L, T, hq, hK⟩ := hlad
        simp only [ladOk, Bool.and_eq_true, decide_eq_true_eq, Bool.not_eq_true'] at hok
        obtain ⟨⟨⟨⟨hio, hlm⟩, hmo2⟩, hall⟩, hok'⟩ := hok
        have hio' : i ∈ Γ.map Prod.fst := by simpa using hio
        by_cases hiD : i ∈ D.map Prod.fst
        · obtain ⟨d, hd, rfl⟩ := List.mem_map.1 hiD
          obtain ⟨v2, hq2, hv2⟩ := hDinf d hd
          obtain ⟨D1, D2, rfl⟩ := List.append_of_mem hd
          obtain ⟨k, u, g, L2, T2⟩ := d
          have hqe := flt_unique hfl.nd hq hq2 rfl
          simp only [Prod.mk.injEq, true_and] at hqe
          obtain ⟨rfl, rfl, rfl⟩ := hqe
          have hxd := hx _ hd
          have hDn' : k ∉ D1.map Prod.fst ∧ k ∉ D2.map Prod.fst ∧ ((D1 ++ D2).map Prod.fst).Nodup := by
            have hp : (List.map Prod.fst (D1 ++ (k, u, g, L, T) :: D2)).Perm (k :: List.map Prod.fst (D1 ++ D2)) := by
              rw [List.map_append, List.map_cons, List.map_append]
              exact List.perm_middle
            have := (hp.nodup_iff).1 hDn
            rw [List.nodup_cons] at this
            simp only [List.map_append, List.mem_append, not_or] at this ⊢
            exact ⟨this.1.1, this.1.2, this.2⟩
          have hAx : A x = A (upd x k (v g)) := by
            have h1 : x k = v g := hxd.trans hv2
            rw [← h1, upd_self]
          rw [hAx]
          have hmk : mark listed ((D1 ++ (k, u, g, L, T) :: D2).map Prod.fst) = mark (listed.setIfInBounds k true) ((D1 ++ D2).map Prod.fst) := by
            refine arr_ext (by simp [mark_size]) fun q hq => ?_
            have hq' : q < listed.size := by simpa [mark_size] using hq
            rw [mark_get _ _ _ hq', mark_get _ _ _ (by simpa using hq')]
            by_cases e : k = q
            · subst e; rw [getD_set_self hq']; simp
            · rw [getD_set_ne true e]
              have : (q == k) = false := by simpa using fun h => e h.symm
              simp only [List.map_append, List.map_cons, List.contains_append, List.contains_cons, this, Bool.false_or]
          rw [hmk] at inv ⊢
          have hDk : ∀ d ∈ D1 ++ D2, d ∈ D1 ++ (k, u, g, L, T) :: D2 ∧ d.1 ≠ k := by
            intro d hd'
            refine ⟨?_, fun h => ?_⟩
            · rcases List.mem_append.1 hd' with h | h
              · exact List.mem_append_left _ h
              · exact List.mem_append_right _ (List.mem_cons_of_mem _ h)
            · rcases List.mem_append.1 hd' with h2 | h2
              · exact hDn'.1 (h ▸ List.mem_map_of_mem h2)
              · exact hDn'.2.1 (h ▸ List.mem_map_of_mem h2)
          have hmem : ∀ q ∈ Γ, q.1 ≠ k → q ∈ Γ.filter (·.1 != k) := fun q hq hne => List.mem_filter.2 ⟨hq, by simpa using hne⟩
          refine ih f s (Γ.filter (·.1 != k)) (listed.setIfInBounds k true) (D1 ++ D2) x w (BL ++ [(g, L, T)]) R (fun x => A (upd x k (v g))) (by simp at hN; omega) ?_ (by simpa using hsz) ?_ hDn'.2.2 inv ?_ (fun d hd' => hx d (hDk d hd').1) ⟨?_, ?_, ?_, ?_⟩ ?_ ?_ hR hRm ?_ (hK g)
          · have h1 := len_filter hfl.nd hio'
            rw [← flt_map] at h1
            simp only [List.length_map] at h1
            simp [lcnt] at hf ⊢
            omega
          · rw [flt_map]; exact fun h => hmo (List.mem_filter.1 h).1
          · rw [flt_map]; exact hok'
          · rw [flt_map]; exact nd_filter hfl.nd _
          · intro q hq
            obtain ⟨o2, e2, h1, h2, h3, h4⟩ := hfl.ok q (List.mem_filter.1 hq).1
            exact ⟨o2, e2, h1, h2, fun x => h3 _, h4⟩
          · intro q hq oq hoq x y
            show (A (upd x k _)).put oq.dst y = A (upd (upd x q y) k _)
            rw [flt_map] at hq
            have hqk : q ≠ k := by simpa using (List.mem_filter.1 hq).2
            rw [hfl.put q (List.mem_filter.1 hq).1 oq hoq]
            congr 1
            funext z
            unfold upd
            by_cases h1 : z = q
            · subst h1; rw [if_pos rfl, if_neg hqk, if_pos rfl]
            · rw [if_neg h1]; by_cases h2 : z = k
              · rw [if_pos h2, if_pos h2]
              · rw [if_neg h2, if_neg h2, if_neg h1]
          · intro q hq x y
            show A (upd (upd x q y) k _) = A (upd x k _)
            by_cases hqk : q = k
            · subst hqk
              congr 1
              funext z
              unfold upd
              by_cases h1 : z = q
              · rw [if_pos h1, if_pos h1]
              · rw [if_neg h1, if_neg h1, if_neg h1]
            · have hq' : q ∉ Γ.map Prod.fst := fun h => hq (by rw [flt_map]; exact List.mem_filter.2 ⟨h, by simpa using hqk⟩)
              have : upd (upd x q y) k (v g) = upd (upd x k (v g)) q y := by
                funext z
                unfold upd
                by_cases h1 : z = k
                · subst h1; rw [if_pos rfl, if_neg (fun h => hqk h.symm), if_pos rfl]
                · rw [if_neg h1]; by_cases h2 : z = q
                  · rw [if_pos h2, if_pos h2]
                  · rw [if_neg h2, if_neg h2, if_neg h1]
              rw [this, hfl.not q hq']
          · intro d hd'
            obtain ⟨v', h1, h2⟩ := hDinf d (hDk d hd').1
            exact ⟨v', hmem _ h1 (hDk d hd').2, h2⟩
          · refine hst.perm ?_
            rw [List.append_assoc]
            refine List.Perm.append_left _ ?_
            rw [List.map_append, List.map_append, List.map_cons]
            exact (List.perm_middle (a := (g, L, T)) (l₁ := List.map (fun d => d.2.2) D1) (l₂ := List.map (fun d => d.2.2) D2)).symm
          · intro w' h; exact hSx w' (h.less (List.sublist_append_left _ _))
        · have hDe : ∀ d ∈ D, d.1 ∈ (Γ.map Prod.fst).filter (· != i) := fun d hd => List.mem_filter.2 ⟨hDo d hd, by
            simp only [bne_iff_ne, ne_eq]
            exact fun h => hiD (by rw [← h]; exact List.mem_map_of_mem hd)⟩
          have hB := List.all_eq_true.1 hall _ (filter_subs (fun k => (D.map Prod.fst).contains k) ((Γ.map Prod.fst).filter (· != i)))
          unfold cOk at hB
          rw [← hmB _ hDe, Bool.and_eq_true] at hB
          have hr' : i ∈ Region.ready md ops (mark listed (D.map Prod.fst)) := by simpa using hB.1
          obtain ⟨f', rfl⟩ : ∃ f', f = f' + 1 := ⟨f - 1, by
            have h1 := List.Nodup.length_le_of_subset hDn (l₂ := (Γ.map Prod.fst).filter (· != i)) (fun a ha => by obtain ⟨d, hd, e⟩ := List.mem_map.1 ha; exact e ▸ hDe d hd)
            have h2 := len_filter hfl.nd hio'
            simp [lcnt] at hf h1 h2; omega⟩
          refine ⟨fun h0 => (by rw [h0] at hr'; cases hr'), fun j hj => ?_⟩
          have hcase := List.all_eq_true.1 hB.2 j hj
          simp only [Bool.or_eq_true, beq_iff_eq, Bool.and_eq_true, Bool.not_eq_true'] at hcase
          have hfl2 := float j (by omega)
          simp only [Nat.add_sub_cancel] at hfl2
          rcases hcase with rfl | ⟨h1, h2⟩
          · exact hfl2 hio' hiD hj
          · have h1' : j ∈ Γ.map Prod.fst := by simpa using h1
            have h3 : j ∉ D.map Prod.fst := by
              intro h4
              have h5 : j ∈ (Γ.map Prod.fst).filter (· != i) := by
                obtain ⟨d, hd, e⟩ := List.mem_map.1 h4
                exact e ▸ hDe d hd
              have : (((Γ.map Prod.fst).filter (· != i)).filter fun k => (D.map Prod.fst).contains k).contains j = true := by
                simp only [List.contains_iff_mem, List.mem_filter]
                exact ⟨by simpa using h5, by simpa using h4⟩
              rw [this] at h2; cases h2
            exact hfl2 h1' h3 hj

def ladAll (ops : Array Oper) (m : Nat) (s : List LS) (tl : Pl) : Bool :=
  Region.noSelect ops && decide (m < ops.size) && decide (lcnt s + tl.len = ops.size) && ladOk .any ops m tl s [] (Array.replicate ops.size false)
/-- THE BEGINNING -/
theorem wp_region_lad {id : Nat} {a : Act} {w : World} {l : List Oper} {BL : List Blk} (hst : St S w0 w BL) (m : Nat) (s : List LS) (tl : Pl) (hm : P.follows .mixedOrders = true) (hB : ladAll l.toArray m s tl = true)
    (hQ : ∀ c (d : Option Tmp) v a w, Q (.panic c) (Act.put a d v) w → Q (.panic c) a w)
    (h : Lad P l.toArray Q (fun w => St S w0 w BL) S w0 tl s [] BL (fun _ => True) (fun _ => a)) : (Code.region id l.toArray true).wp P Q a w := by
  simp only [ladAll, Bool.and_eq_true, decide_eq_true_eq] at hB
  obtain ⟨⟨⟨hsel, hms⟩, hlen⟩, hok⟩ := hB
  have hmk : mark (Array.replicate l.toArray.size false) (List.map Prod.fst ([] : List (Nat × Value × Blk))) = Array.replicate l.toArray.size false := by
    refine arr_ext (mark_size _ _) fun k hk => ?_
    rw [mark_get _ _ _ (by simpa [mark_size] using hk)]; simp
  have inv0 : Cl .any l.toArray (Array.replicate l.toArray.size false) :=
    ⟨by simp, fun j oj _ hl => (by rw [getD_replicate_false] at hl; cases hl)⟩
  have H := wpP_of_lad (md := .any) (Sx := fun w => St S w0 w BL) hsel hms hQ (l.toArray.size + s.length) l.toArray.size s [] (Array.replicate l.toArray.size false) [] (fun _ => undef) w.drew BL (fun _ => True) (fun _ => a)
    (Nat.le_refl _) (by simp [hlen]) (by simp) (by simp) (by simp) (by rw [hmk]; exact inv0) hok (by simp) ⟨by simp, by simp, by simp, fun _ _ _ _ => rfl⟩ (by simp) (by simpa using hst.drew) trivial (fun _ _ _ _ => trivial) (fun _ h => h) h
  rw [hmk] at H
  exact wp_region_any hm (wpAny_of_P _ _ _ _ H)

theorem Lad.weaken : ∀ (s : List LS) {Γ : List Flt} {BL : List Blk} {R R2 : World → Prop} {A : (Nat → Value) → Act}, (∀ w, R2 w → R w) → Lad P ops Q Sx S w0 tl s Γ BL R A → Lad P ops Q Sx S w0 tl s Γ BL R2 A
  | [], _, _, _, _, _, h2, h => fun x w a b => h x w a (h2 w b)
  | .w _ :: s, _, _, _, _, _, h2, ⟨o, v, a, b, c⟩ => ⟨o, v, a, b, Lad.weaken s h2 c⟩
  | .t _ :: s, _, _, _, _, _, h2, ⟨o, v, a, b, c⟩ => ⟨o, v, a, b, Lad.weaken s h2 c⟩
  | .c _ :: s, _, _, _, _, _, h2, ⟨o, a, b, X, v, R', c, d, e⟩ => ⟨o, a, b, X, v, R', c, fun x w p q => d x w p (h2 w q), fun y => Lad.weaken s (fun w h => ⟨h2 w h.1, h.2⟩) (e y)⟩
  | .o _ :: s, _, _, _, _, _, h2, ⟨o, e, v, L, T, a, b, c, d, f⟩ => ⟨o, e, v, L, T, a, b, c, d, Lad.weaken s h2 f⟩
  | .j _ :: s, _, _, _, _, _, h2, ⟨v, L, T, a, b⟩ => ⟨v, L, T, a, fun g => Lad.weaken s h2 (b g)⟩

/- the steps -/
variable {l : List Oper} {i : Nat} {s : List LS} {Γ : List Flt} {BL : List Blk} {R : World → Prop} {A : (Nat → Value) → Act} {o : Oper}
theorem lad_end (h : ∀ x w, St S w0 w BL → R w → wpPlan P l.toArray Q Sx tl (A x) w) : Lad P l.toArray Q Sx S w0 tl [] Γ BL R A := h
theorem lad_w (ho : l[i]? = some o) (hg : o.guard = none) {v : Value} (hv : ∀ x wx, (execOp (A x).eval o).run P wx = .ok (.value v) wx) (h : Lad P l.toArray Q Sx S w0 tl s Γ BL R (fun x => (A x).put o.dst v)) : Lad P l.toArray Q Sx S w0 tl (.w i :: s) Γ BL R A :=
  ⟨o, v, by simpa using ho, fun x => .inl ⟨by simp [Region.wanted, hg], fun wx _ => hv x wx⟩, h⟩
theorem lad_t (ho : l[i]? = some o) (hg : o.guard = none) {v : Value} (hv : ∀ x wx, Sx wx → (execOp (A x).eval o).run P wx = .ok (.value v) wx) (h : Lad P l.toArray Q Sx S w0 tl s Γ BL R (fun x => (A x).put o.dst v)) : Lad P l.toArray Q Sx S w0 tl (.t i :: s) Γ BL R A :=
  ⟨o, v, by simpa using ho, fun x => .inl ⟨by simp [Region.wanted, hg], hv x⟩, h⟩
theorem lad_arr (ho : l[i]? = some o) (hg : o.guard = none) {ty : TypeId} {q : Operand} (hop : o.op = .load ty q) {g p : Nat} (hx : ∀ x, (A x).eval q = .pointer (some ⟨g, p, none⟩)) (cs : List Value) (hS : ∀ wx, Sx wx → wx.rangeAt g p cs)
    {d : TypeDesc} (hu : P.underlying ty = some d) (hd : d.isRow = true) (hi : (P.info? ty).map (·.size) = some cs.length) (h : Lad P l.toArray Q Sx S w0 tl s Γ BL R (fun x => (A x).put o.dst (.agg cs.toArray))) : Lad P l.toArray Q Sx S w0 tl (.t i :: s) Γ BL R A :=
  ⟨o, _, by simpa using ho, fun x => yieldsIf_load_mid (by simp [Region.wanted, hg]) ty q hop g p (hx x) cs d hS hu hd hi, h⟩
theorem mk_alloc {e : TypeId} {z : Value} (hi : (P.info? e).map (·.zero) = some (some z)) {a : Act} (hop : o.op = .alloc e) (L : List Value) (hL : z.cells.toList = L) : Mk P (execOp a.eval o) (fun g => .pointer (some ⟨g, 0, none⟩)) L e := by
  intro w
  obtain ⟨i, hi1, hz⟩ : ∃ i, P.info? e = some i ∧ i.zero = some z := by simpa using hi
  have hr : (Instr.alloc e true (.tuple #[])).run P w = .ok (.pointer (some ⟨w.heap.size, 0, none⟩)) (w.alloc (.cells z.cells e)) := by
    simp [Instr.alloc, zeroValue, typeInfo, hi1, hz, newVar, newRow]
  refine ⟨w.heap.size, w.alloc (.cells z.cells e), ?_, (Fr.refl _ w).alloc _, Nat.le_refl _, ?_⟩
  · unfold execOp
    simp only [hop, Sem.run_bind, Sem.run_pure, Result.andThen_ok, hr]
  · have hg := Has.new w z.cells e
    rwa [hL] at hg
theorem lad_o {e : TypeId} {z : Value} (ho : l[i]? = some o) (hg : o.guard = none) (hop : o.op = .alloc e) (hi : (P.info? e).map (·.zero) = some (some z)) (L : List Value) (hL : z.cells.toList = L) (h : Lad P l.toArray Q Sx S w0 tl s ((i, fun g => .pointer (some ⟨g, 0, none⟩), L, e) :: Γ) BL R (fun x => (A x).put o.dst (x i))) : Lad P l.toArray Q Sx S w0 tl (.o i :: s) Γ BL R A :=
  ⟨o, execOp (A fun _ => undef).eval o, _, L, e, by simpa using ho, hg, fun x => by unfold execOp; rw [hop], mk_alloc hi hop L hL, h⟩
theorem lad_j {v : Nat → Value} {L : List Value} {T : TypeId} (hq : (i, v, L, T) ∈ Γ) (h : ∀ g, Lad P l.toArray Q Sx S w0 tl s (Γ.filter (·.1 != i)) (BL ++ [(g, L, T)]) R (fun x => A (upd x i (v g)))) : Lad P l.toArray Q Sx S w0 tl (.j i :: s) Γ BL R A :=
  ⟨v, L, T, hq, h⟩
theorem wp_go {a : Act} {w : World} {K : Act → World → Prop} {f : FuncId} {xs : Array Operand} {ats : Array TypeId} (hop : o.op = .call { callee := .value (.func f), args := xs, argTypes := ats }) (hcl : ∀ us w, (callFunc f us).run P w = .ok (.enter f us) w)
    {vs : List Value} (hargs : xs.toList.map a.eval = vs) (h : Calls P f vs.toArray w fun e w' => ∃ v, e = .returned v ∧ K (a.put o.dst v) w') : o.wp P a w K Q := by
  have he : execOp a.eval o = callFunc f vs.toArray := by
    have h1 : execOp a.eval o = callFunc f (#[] ++ xs.map a.eval ++ #[]) := by
      unfold execOp
      rw [hop]
      rfl
    rw [h1]
    congr 1
    rw [← hargs]
    simp [← Array.toList_map]
  unfold Oper.wp
  rw [he, hcl]
  refine h.mono fun e w' h' => ?_
  obtain ⟨v, rfl, h2⟩ := h'
  exact h2
/-- a call that turns nothing, of one answer -/
theorem lad_call {f : FuncId} {xs : Array Operand} {ats : Array TypeId} (ho : l[i]? = some o) (hg : o.guard = none) (hop : o.op = .call { callee := .value (.func f), args := xs, argTypes := ats }) (hcl : ∀ us w, (callFunc f us).run P w = .ok (.enter f us) w)
    {vs : List Value} {v : Value} (hc : ∀ w, St S w0 w BL → R w → Calls P f vs.toArray w fun e w' => e = .returned v ∧ Fr Nob w w') (hargs : ∀ x, xs.toList.map (A x).eval = vs)
    (h : Lad P l.toArray Q Sx S w0 tl s Γ BL R (fun x => (A x).put o.dst v)) : Lad P l.toArray Q Sx S w0 tl (.c i :: s) Γ BL R A := by
  exact ⟨o, by simpa using ho, hg, Unit, fun _ => v, fun _ _ => True, fun _ _ _ _ _ => trivial, fun x w hst hR => wp_go hop hcl (hargs x) ((hc w hst hR).mono fun e w' h' => ⟨v, h'.1, (), rfl, h'.2, trivial⟩), fun _ => Lad.weaken s (fun w h => h.1) h⟩
variable {rest : List Oper} {a : Act} {w : World}
end
end Go.Mv

/- group: double. -/
namespace Go.Proofs.YtemcankmggmgoaaDoor
open Go.RowKit Go.Mv Mvp
theorem z_ge : (Tryd.prog.info? 47).map (·.zero) = some (some (.agg (cw 4 0).toArray)) := by kernel_rfl
theorem MSquare_v (m : Md) (gp : Nat) (w : World) (hok : m.Ok) (hpm : Has w gp (mdL m) 72) (x r : Nat) (hr : x * x = r) :
    Calls Tryd.prog 38 #[.pointer (some ⟨gp, 0, none⟩), i4 (elN m x)] w fun e w' => e = .returned (i4 (elN m r)) ∧ Fr Nob w w' := by
  subst hr; exact MSquare_any m gp w hok hpm x
theorem MMul_v (m : Md) (gp : Nat) (w : World) (hok : m.Ok) (hpm : Has w gp (mdL m) 72) (x y r : Nat) (hr : x * y = r) :
    Calls Tryd.prog 40 #[.pointer (some ⟨gp, 0, none⟩), i4 (elN m x), i4 (elN m y)] w fun e w' => e = .returned (i4 (elN m r)) ∧ Fr Nob w w' := by
  subst hr; exact MMulE m gp w hok hpm x y
theorem MAdd_v (m : Md) (gp : Nat) (w : World) (hok : m.Ok) (hpm : Has w gp (mdL m) 72) (x y r : Nat) (hr : x + y = r) :
    Calls Tryd.prog 67 #[.pointer (some ⟨gp, 0, none⟩), i4 (elN m x), i4 (elN m y)] w fun e w' => e = .returned (i4 (elN m r)) ∧ Fr Nob w w' := by
  subst hr; exact MAdd_any m gp w hok hpm x y
theorem MSub_v (m : Md) (gp : Nat) (w : World) (hok : m.Ok) (hpm : Has w gp (mdL m) 72) (x y r : Nat) (hr : x + (m.M - y % m.M) = r) :
    Calls Tryd.prog 71 #[.pointer (some ⟨gp, 0, none⟩), i4 (elN m x), i4 (elN m y)] w fun e w' => e = .returned (i4 (elN m r)) ∧ Fr Nob w w' := by
  subst hr; exact MSub_any m gp w hok hpm x y
attribute [local irreducible] limbs lw mix cw cSub cAdd cMul beN laid be32 montT mstep elN mdL numB
set_option maxHeartbeats 16000000 in
set_option maxRecDepth 1000000 in
theorem double_none (m : Md) (gc gp bx by_ : Nat) (w : World) (hok : m.Ok) (hcv : Has w gc (crvL m gp bx by_) 57) (hpm : Has w gp (mdL m) 72) (x y z : Nat) (hb : (z % m.M == 0) = true) :
    Calls Tryd.prog 55 #[.pointer (some ⟨gc, 0, none⟩), ptV m x y z] w fun e w' => e = .returned (ptV m x y z) ∧ Fr Nob w w' := by
  have HOK := Lib.hid hok
  have HCV := Lib.hid hcv
  have HPM := Lib.hid hpm
  clear hok hcv hpm
  have HB := Lib.hid hb
  clear hb
  unfold ptV ptL
  have st0 := St.start Nob w
  go_enter Tryd.func55, Tryd.ntmps55
  go_wp2_with (with_reducible refine wl_stop (o := ⟨some 3, _, _, _, _, _⟩) ?_)
  refine wl_boxS st0 rfl rfl rfl (cw 4 (elN m x) ++ (cw 4 (elN m y) ++ cw 4 (elN m z))) rfl ?_
  intro g3 w1 st1
  clear st0
  go_wp2_with (with_reducible refine wl_stop (o := ⟨some 4, _, _, _, _, _⟩) ?_)
  refine wl_allocS st1 rfl rfl (z := .agg #[.int .u64 0, .int .u64 0, .int .u64 0, .int .u64 0, .int .u64 0, .int .u64 0, .int .u64 0, .int .u64 0, .int .u64 0, .int .u64 0, .int .u64 0, .int .u64 0]) (by kernel_rfl) (cw 12 0) (by rw [cw_zero]; rfl) ?_
  intro g4 w2 st2
  clear st1
  go_wp2_with (with_reducible refine wl_stop (o := ⟨some 13, _, _, _, _, _⟩) ?_)
  refine wl_loadSt st2 0 rfl rfl rfl Tryd.underlying49 rfl rfl (by kernel_rfl) ?_
  go_wp2_with fail
  refine (none_any m HOK.out x y z true HB.out _).mono ?_
  rintro e' w3 ⟨rfl, hf3⟩
  have st3 := st2.keep hf3
  clear st2 hf3
  go_wp2_with (with_reducible refine wl_stop (o := ⟨some 15, _, _, _, _, _⟩) ?_)
  refine wl_loadSt st3 0 rfl rfl rfl Tryd.underlying49 rfl rfl (by kernel_rfl) ?_
  go_wp2_with (with_reducible refine wl_stop (o := ⟨none, _, _, _, _, _⟩) ?_)
  refine wl_storeS st3 1 rfl rfl rfl rfl rfl (by simp [cw_len]) (by kernel_rfl) (pt_one _ _ _) ?_
  intro w4 st4
  clear st3
  have hr := st4.at 1 rfl
  have hfr := st4.fr
  clear st4
  go_wp2_with fail
  exact bodyPost_ret (results_st rfl rfl hr Tryd.underlying49 rfl (by kernel_rfl)) rfl ⟨rfl, hfr⟩

set_option maxHeartbeats 16000000 in
set_option maxRecDepth 1000000 in
theorem double_v (m : Md) (gc gp bx by_ : Nat) (w : World) (hok : m.Ok) (hcv : Has w gc (crvL m gp bx by_) 57) (hpm : Has w gp (mdL m) 72) (x y z : Nat) (hb : (z % m.M == 0) = false) (a b bb s1 s2 s3 d1 d e1 ee f1 f2 X k1 k2 k3 z1 h1 h2 Y Z : Nat) (ea : x * x = a) (eb : y * y = b) (ebb : b * b = bb) (es1 : x + b = s1) (es2 : s1 * s1 = s2) (es3 : a + bb = s3) (ed1 : s2 + (m.M - s3 % m.M) = d1) (ed : d1 + d1 = d) (ee1 : a + a = e1) (eee : e1 + a = ee) (ef1 : ee * ee = f1) (ef2 : d + d = f2) (eX : f1 + (m.M - f2 % m.M) = X) (ek1 : bb + bb = k1) (ek2 : k1 + k1 = k2) (ek3 : k2 + k2 = k3) (ez1 : y * z = z1) (eh1 : d + (m.M - X % m.M) = h1) (eh2 : ee * h1 = h2) (eY : h2 + (m.M - k3 % m.M) = Y) (eZ : z1 + z1 = Z) :
    Calls Tryd.prog 55 #[.pointer (some ⟨gc, 0, none⟩), ptV m x y z] w fun e w' => e = .returned (ptV m X Y Z) ∧ Fr Nob w w' := by
  have HOK := Lib.hid hok
  have HCV := Lib.hid hcv
  have HPM := Lib.hid hpm
  clear hok hcv hpm
  have HB := Lib.hid hb
  have Ha := Lib.hid ea
  have Hb := Lib.hid eb
  have Hbb := Lib.hid ebb
  have Hs1 := Lib.hid es1
  have Hs2 := Lib.hid es2
  have Hs3 := Lib.hid es3
  have Hd1 := Lib.hid ed1
  have Hd := Lib.hid ed
  have He1 := Lib.hid ee1
  have Hee := Lib.hid eee
  have Hf1 := Lib.hid ef1
  have Hf2 := Lib.hid ef2
  have HX := Lib.hid eX
  have Hk1 := Lib.hid ek1
  have Hk2 := Lib.hid ek2
  have Hk3 := Lib.hid ek3
  have Hz1 := Lib.hid ez1
  have Hh1 := Lib.hid eh1
  have Hh2 := Lib.hid eh2
  have HY := Lib.hid eY
  have HZ := Lib.hid eZ
  clear hb ea eb ebb es1 es2 es3 ed1 ed ee1 eee ef1 ef2 eX ek1 ek2 ek3 ez1 eh1 eh2 eY eZ
  unfold ptV ptL
  have st0 := St.start Nob w
  go_enter Tryd.func55, Tryd.ntmps55
  go_wp2_with (with_reducible refine wl_stop (o := ⟨some 3, _, _, _, _, _⟩) ?_)
  refine wl_boxS st0 rfl rfl rfl (cw 4 (elN m x) ++ (cw 4 (elN m y) ++ cw 4 (elN m z))) rfl ?_
  intro g3 w1 st1
  clear st0
  go_wp2_with (with_reducible refine wl_stop (o := ⟨some 4, _, _, _, _, _⟩) ?_)
  refine wl_allocS st1 rfl rfl (z := .agg #[.int .u64 0, .int .u64 0, .int .u64 0, .int .u64 0, .int .u64 0, .int .u64 0, .int .u64 0, .int .u64 0, .int .u64 0, .int .u64 0, .int .u64 0, .int .u64 0]) (by kernel_rfl) (cw 12 0) (by rw [cw_zero]; rfl) ?_
  intro g4 w2 st2
  clear st1
  go_wp2_with (with_reducible refine wl_stop (o := ⟨some 13, _, _, _, _, _⟩) ?_)
  refine wl_loadSt st2 0 rfl rfl rfl Tryd.underlying49 rfl rfl (by kernel_rfl) ?_
  go_wp2_with fail
  refine (none_any m HOK.out x y z false HB.out _).mono ?_
  rintro e' w3 ⟨rfl, hf3⟩
  have st3 := st2.keep hf3
  clear st2 hf3
  go_wp2_with fail
  refine wp_region_noPanic ?_
  refine wp_region_lad st3 17 [.o 14, .o 15, .w 0, .w 1, .w 2, .t 3, .w 4, .t 5, .w 7, .w 8, .w 9, .t 10, .w 11, .t 12, .c 6, .c 13, .j 14, .j 15] (.r 16 (.m 17 .nil)) (by kernel_rfl) (by kernel_rfl) (fun _ _ _ _ _ h => h) ?_
  clear st3
  refine lad_o rfl rfl rfl z_ge (cw 4 0) rfl ?_
  try simp only [Go.Mv.clL]
  refine lad_o rfl rfl rfl z_ge (cw 4 0) rfl ?_
  try simp only [Go.Mv.clL]
  iterate 3 (refine lad_w (v := ?_) rfl rfl (fun xq wx => ?_) ?_; rotate_left 1; · (go_simp; with_reducible rfl); try simp only [Go.Mv.clL])
  refine lad_t (v := ?_) rfl rfl (fun xq wx hS => ?_) ?_
  rotate_left 1
  · (have hc := (HCV.out.keep (St.fr hS) id).cell (i := 0) rfl; clear hS; go_simp; with_reducible rfl)
  try simp only [Go.Mv.clL]
  refine lad_w (v := ?_) rfl rfl (fun xq wx => ?_) ?_; rotate_left 1; · (go_simp; with_reducible rfl)
  try simp only [Go.Mv.clL]
  refine lad_arr rfl rfl rfl (fun _ => rfl) (cw 4 (elN m x)) (fun wx hS => St.rangeL hS 0 rfl 0 _ (pt_x _ _ _)) Tryd.underlying47 rfl (by kernel_rfl) ?_
  try simp only [Go.Mv.clL]
  iterate 3 (refine lad_w (v := ?_) rfl rfl (fun xq wx => ?_) ?_; rotate_left 1; · (go_simp; with_reducible rfl); try simp only [Go.Mv.clL])
  refine lad_t (v := ?_) rfl rfl (fun xq wx hS => ?_) ?_
  rotate_left 1
  · (have hc := (HCV.out.keep (St.fr hS) id).cell (i := 0) rfl; clear hS; go_simp; with_reducible rfl)
  try simp only [Go.Mv.clL]
  refine lad_w (v := ?_) rfl rfl (fun xq wx => ?_) ?_; rotate_left 1; · (go_simp; with_reducible rfl)
  try simp only [Go.Mv.clL]
  refine lad_arr rfl rfl rfl (fun _ => rfl) (cw 4 (elN m y)) (fun wx hS => St.rangeL hS 0 rfl 4 _ (pt_y _ _ _)) Tryd.underlying47 rfl (by kernel_rfl) ?_
  try simp only [Go.Mv.clL]
  refine lad_call rfl rfl rfl Tryd.call38 (fun w hS hR => MSquare_v m gp _ HOK.out (HPM.out.keep hS.fr id) x a Ha.out) (fun _ => rfl) ?_
  try simp only [Go.Mv.clL]
  refine lad_call rfl rfl rfl Tryd.call38 (fun w hS hR => MSquare_v m gp _ HOK.out (HPM.out.keep hS.fr id) y b Hb.out) (fun _ => rfl) ?_
  try simp only [Go.Mv.clL]
  refine lad_j (List.mem_cons_of_mem _ List.mem_cons_self) fun g5 => ?_
  simp only [upd, reduceIte]
  try simp only [Nat.reduceEqDiff, reduceIte]
  refine lad_j List.mem_cons_self fun g6 => ?_
  simp only [upd, reduceIte]
  refine lad_end fun xq w4 st4 hR => ?_
  try dsimp only
  clear hR xq
  refine plan_r rfl rfl ?_
  refine wp_storeS st4 2 rfl rfl rfl rfl (by simp [cw_len]) (by kernel_rfl) (cw_one _ _) ?_
  intro w5 st5
  repeat (first | simp only [List.cons_append] at st5 | simp only [List.nil_append] at st5 | simp only [List.set_cons_succ] at st5 | simp only [List.set_cons_zero] at st5)
  clear st4
  refine ⟨by first | exact st5 | exact St.less st5 (by simp), ?_⟩
  try simp only [Act.put]
  refine plan_m rfl rfl ?_
  refine wp_storeS st5 3 rfl rfl rfl rfl (by simp [cw_len]) (by kernel_rfl) (cw_one _ _) ?_
  intro w6 st6
  try simp only [List.set_cons_zero, List.set_cons_succ] at st6
  clear st5
  try simp only [Act.put]
  refine plan_end ?_
  refine NoPanic.normal ?_
  go_wp2_with fail
  refine wp_region_noPanic ?_
  refine wp_region_lad st6 7 [.o 6, .w 0, .w 1, .w 2, .t 3, .t 4, .c 5, .j 6] (.m 7 .nil) (by kernel_rfl) (by kernel_rfl) (fun _ _ _ _ _ h => h) ?_
  clear st6
  refine lad_o rfl rfl rfl z_ge (cw 4 0) rfl ?_
  try simp only [Go.Mv.clL]
  iterate 3 (refine lad_w (v := ?_) rfl rfl (fun xq wx => ?_) ?_; rotate_left 1; · (go_simp; with_reducible rfl); try simp only [Go.Mv.clL])
  refine lad_t (v := ?_) rfl rfl (fun xq wx hS => ?_) ?_
  rotate_left 1
  · (have hc := (HCV.out.keep (St.fr hS) id).cell (i := 0) rfl; clear hS; go_simp; with_reducible rfl)
  try simp only [Go.Mv.clL]
  refine lad_arr rfl rfl rfl (fun _ => rfl) (cw 4 (elN m b)) (fun wx hS => St.rangeL hS 3 rfl 0 _ (by rw [List.drop_zero, List.take_of_length_le (Nat.le_refl _)])) Tryd.underlying47 rfl (by kernel_rfl) ?_
  try simp only [Go.Mv.clL]
  refine lad_call rfl rfl rfl Tryd.call38 (fun w hS hR => MSquare_v m gp _ HOK.out (HPM.out.keep hS.fr id) b bb Hbb.out) (fun _ => rfl) ?_
  try simp only [Go.Mv.clL]
  refine lad_j List.mem_cons_self fun g7 => ?_
  simp only [upd, reduceIte]
  refine lad_end fun xq w7 st7 hR => ?_
  try dsimp only
  clear hR xq
  refine plan_m rfl rfl ?_
  refine wp_storeS st7 4 rfl rfl rfl rfl (by simp [cw_len]) (by kernel_rfl) (cw_one _ _) ?_
  intro w8 st8
  repeat (first | simp only [List.cons_append] at st8 | simp only [List.nil_append] at st8 | simp only [List.set_cons_succ] at st8 | simp only [List.set_cons_zero] at st8)
  clear st7
  try simp only [Act.put]
  refine plan_end ?_
  refine NoPanic.normal ?_
  go_wp2_with fail
  refine wp_region_noPanic ?_
  refine wp_region_lad st8 26 [.o 25, .w 0, .w 1, .w 2, .t 3, .w 4, .w 5, .w 6, .t 7, .w 8, .w 9, .w 10, .t 11, .w 12, .t 13, .t 14, .w 17, .w 18, .w 19, .t 20, .t 21, .t 22, .c 15, .c 16, .c 23, .c 24, .j 25] (.m 26 .nil) (by kernel_rfl) (by kernel_rfl) (fun _ _ _ _ _ h => h) ?_
  clear st8
  refine lad_o rfl rfl rfl z_ge (cw 4 0) rfl ?_
  try simp only [Go.Mv.clL]
  iterate 3 (refine lad_w (v := ?_) rfl rfl (fun xq wx => ?_) ?_; rotate_left 1; · (go_simp; with_reducible rfl); try simp only [Go.Mv.clL])
  refine lad_t (v := ?_) rfl rfl (fun xq wx hS => ?_) ?_
  rotate_left 1
  · (have hc := (HCV.out.keep (St.fr hS) id).cell (i := 0) rfl; clear hS; go_simp; with_reducible rfl)
  try simp only [Go.Mv.clL]
  iterate 3 (refine lad_w (v := ?_) rfl rfl (fun xq wx => ?_) ?_; rotate_left 1; · (go_simp; with_reducible rfl); try simp only [Go.Mv.clL])
  refine lad_t (v := ?_) rfl rfl (fun xq wx hS => ?_) ?_
  rotate_left 1
  · (have hc := (HCV.out.keep (St.fr hS) id).cell (i := 0) rfl; clear hS; go_simp; with_reducible rfl)
  try simp only [Go.Mv.clL]
  iterate 3 (refine lad_w (v := ?_) rfl rfl (fun xq wx => ?_) ?_; rotate_left 1; · (go_simp; with_reducible rfl); try simp only [Go.Mv.clL])
  refine lad_t (v := ?_) rfl rfl (fun xq wx hS => ?_) ?_
  rotate_left 1
  · (have hc := (HCV.out.keep (St.fr hS) id).cell (i := 0) rfl; clear hS; go_simp; with_reducible rfl)
  try simp only [Go.Mv.clL]
  refine lad_w (v := ?_) rfl rfl (fun xq wx => ?_) ?_; rotate_left 1; · (go_simp; with_reducible rfl)
  try simp only [Go.Mv.clL]
  refine lad_arr rfl rfl rfl (fun _ => rfl) (cw 4 (elN m x)) (fun wx hS => St.rangeL hS 0 rfl 0 _ (pt_x _ _ _)) Tryd.underlying47 rfl (by kernel_rfl) ?_
  try simp only [Go.Mv.clL]
  refine lad_arr rfl rfl rfl (fun _ => rfl) (cw 4 (elN m b)) (fun wx hS => St.rangeL hS 3 rfl 0 _ (by rw [List.drop_zero, List.take_of_length_le (Nat.le_refl _)])) Tryd.underlying47 rfl (by kernel_rfl) ?_
  try simp only [Go.Mv.clL]
  iterate 3 (refine lad_w (v := ?_) rfl rfl (fun xq wx => ?_) ?_; rotate_left 1; · (go_simp; with_reducible rfl); try simp only [Go.Mv.clL])
  refine lad_t (v := ?_) rfl rfl (fun xq wx hS => ?_) ?_
  rotate_left 1
  · (have hc := (HCV.out.keep (St.fr hS) id).cell (i := 0) rfl; clear hS; go_simp; with_reducible rfl)
  try simp only [Go.Mv.clL]
  refine lad_arr rfl rfl rfl (fun _ => rfl) (cw 4 (elN m a)) (fun wx hS => St.rangeL hS 2 rfl 0 _ (by rw [List.drop_zero, List.take_of_length_le (Nat.le_refl _)])) Tryd.underlying47 rfl (by kernel_rfl) ?_
  try simp only [Go.Mv.clL]
  refine lad_arr rfl rfl rfl (fun _ => rfl) (cw 4 (elN m bb)) (fun wx hS => St.rangeL hS 4 rfl 0 _ (by rw [List.drop_zero, List.take_of_length_le (Nat.le_refl _)])) Tryd.underlying47 rfl (by kernel_rfl) ?_
  try simp only [Go.Mv.clL]
  refine lad_call rfl rfl rfl Tryd.call67 (fun w hS hR => MAdd_v m gp _ HOK.out (HPM.out.keep hS.fr id) x b s1 Hs1.out) (fun _ => rfl) ?_
  try simp only [Go.Mv.clL]
  refine lad_call rfl rfl rfl Tryd.call38 (fun w hS hR => MSquare_v m gp _ HOK.out (HPM.out.keep hS.fr id) s1 s2 Hs2.out) (fun _ => rfl) ?_
  try simp only [Go.Mv.clL]
  refine lad_call rfl rfl rfl Tryd.call67 (fun w hS hR => MAdd_v m gp _ HOK.out (HPM.out.keep hS.fr id) a bb s3 Hs3.out) (fun _ => rfl) ?_
  try simp only [Go.Mv.clL]
  refine lad_call rfl rfl rfl Tryd.call71 (fun w hS hR => MSub_v m gp _ HOK.out (HPM.out.keep hS.fr id) s2 s3 d1 Hd1.out) (fun _ => rfl) ?_
  try simp only [Go.Mv.clL]
  refine lad_j List.mem_cons_self fun g8 => ?_
  simp only [upd, reduceIte]
  refine lad_end fun xq w9 st9 hR => ?_
  try dsimp only
  clear hR xq
  refine plan_m rfl rfl ?_
  refine wp_storeS st9 5 rfl rfl rfl rfl (by simp [cw_len]) (by kernel_rfl) (cw_one _ _) ?_
  intro w10 st10
  repeat (first | simp only [List.cons_append] at st10 | simp only [List.nil_append] at st10 | simp only [List.set_cons_succ] at st10 | simp only [List.set_cons_zero] at st10)
  clear st9
  try simp only [Act.put]
  refine plan_end ?_
  refine NoPanic.normal ?_
  go_wp2_with fail
  refine wp_region_noPanic ?_
  refine wp_region_lad st10 7 [.w 0, .w 1, .w 2, .t 3, .t 4, .t 5, .c 6] (.m 7 .nil) (by kernel_rfl) (by kernel_rfl) (fun _ _ _ _ _ h => h) ?_
  clear st10
  iterate 3 (refine lad_w (v := ?_) rfl rfl (fun xq wx => ?_) ?_; rotate_left 1; · (go_simp; with_reducible rfl); try simp only [Go.Mv.clL])
  refine lad_t (v := ?_) rfl rfl (fun xq wx hS => ?_) ?_
  rotate_left 1
  · (have hc := (HCV.out.keep (St.fr hS) id).cell (i := 0) rfl; clear hS; go_simp; with_reducible rfl)
  try simp only [Go.Mv.clL]
  refine lad_arr rfl rfl rfl (fun _ => rfl) (cw 4 (elN m d1)) (fun wx hS => St.rangeL hS 5 rfl 0 _ (by rw [List.drop_zero, List.take_of_length_le (Nat.le_refl _)])) Tryd.underlying47 rfl (by kernel_rfl) ?_
  try simp only [Go.Mv.clL]
  refine lad_arr rfl rfl rfl (fun _ => rfl) (cw 4 (elN m d1)) (fun wx hS => St.rangeL hS 5 rfl 0 _ (by rw [List.drop_zero, List.take_of_length_le (Nat.le_refl _)])) Tryd.underlying47 rfl (by kernel_rfl) ?_
  try simp only [Go.Mv.clL]
  refine lad_call rfl rfl rfl Tryd.call67 (fun w hS hR => MAdd_v m gp _ HOK.out (HPM.out.keep hS.fr id) d1 d1 d Hd.out) (fun _ => rfl) ?_
  try simp only [Go.Mv.clL]
  refine lad_end fun xq w11 st11 hR => ?_
  try dsimp only
  clear hR xq
  refine plan_m rfl rfl ?_
  refine wp_storeS st11 5 rfl rfl rfl rfl (by simp [cw_len]) (by kernel_rfl) (cw_one _ _) ?_
  intro w12 st12
  try simp only [List.set_cons_zero, List.set_cons_succ] at st12
  clear st11
  try simp only [Act.put]
  refine plan_end ?_
  refine NoPanic.normal ?_
  go_wp2_with fail
  refine wp_region_noPanic ?_
  refine wp_region_lad st12 14 [.o 13, .w 0, .w 1, .w 2, .t 3, .w 4, .w 5, .w 6, .t 7, .t 8, .t 9, .t 11, .c 10, .c 12, .j 13] (.m 14 .nil) (by kernel_rfl) (by kernel_rfl) (fun _ _ _ _ _ h => h) ?_
  clear st12
  refine lad_o rfl rfl rfl z_ge (cw 4 0) rfl ?_
  try simp only [Go.Mv.clL]
  iterate 3 (refine lad_w (v := ?_) rfl rfl (fun xq wx => ?_) ?_; rotate_left 1; · (go_simp; with_reducible rfl); try simp only [Go.Mv.clL])
  refine lad_t (v := ?_) rfl rfl (fun xq wx hS => ?_) ?_
  rotate_left 1
  · (have hc := (HCV.out.keep (St.fr hS) id).cell (i := 0) rfl; clear hS; go_simp; with_reducible rfl)
  try simp only [Go.Mv.clL]
  iterate 3 (refine lad_w (v := ?_) rfl rfl (fun xq wx => ?_) ?_; rotate_left 1; · (go_simp; with_reducible rfl); try simp only [Go.Mv.clL])
  refine lad_t (v := ?_) rfl rfl (fun xq wx hS => ?_) ?_
  rotate_left 1
  · (have hc := (HCV.out.keep (St.fr hS) id).cell (i := 0) rfl; clear hS; go_simp; with_reducible rfl)
  try simp only [Go.Mv.clL]
  refine lad_arr rfl rfl rfl (fun _ => rfl) (cw 4 (elN m a)) (fun wx hS => St.rangeL hS 2 rfl 0 _ (by rw [List.drop_zero, List.take_of_length_le (Nat.le_refl _)])) Tryd.underlying47 rfl (by kernel_rfl) ?_
  try simp only [Go.Mv.clL]
  refine lad_arr rfl rfl rfl (fun _ => rfl) (cw 4 (elN m a)) (fun wx hS => St.rangeL hS 2 rfl 0 _ (by rw [List.drop_zero, List.take_of_length_le (Nat.le_refl _)])) Tryd.underlying47 rfl (by kernel_rfl) ?_
  try simp only [Go.Mv.clL]
  refine lad_arr rfl rfl rfl (fun _ => rfl) (cw 4 (elN m a)) (fun wx hS => St.rangeL hS 2 rfl 0 _ (by rw [List.drop_zero, List.take_of_length_le (Nat.le_refl _)])) Tryd.underlying47 rfl (by kernel_rfl) ?_
  try simp only [Go.Mv.clL]
  refine lad_call rfl rfl rfl Tryd.call67 (fun w hS hR => MAdd_v m gp _ HOK.out (HPM.out.keep hS.fr id) a a e1 He1.out) (fun _ => rfl) ?_
  try simp only [Go.Mv.clL]
  refine lad_call rfl rfl rfl Tryd.call67 (fun w hS hR => MAdd_v m gp _ HOK.out (HPM.out.keep hS.fr id) e1 a ee Hee.out) (fun _ => rfl) ?_
  try simp only [Go.Mv.clL]
  refine lad_j List.mem_cons_self fun g9 => ?_
  simp only [upd, reduceIte]
  refine lad_end fun xq w13 st13 hR => ?_
  try dsimp only
  clear hR xq
  refine plan_m rfl rfl ?_
  refine wp_storeS st13 6 rfl rfl rfl rfl (by simp [cw_len]) (by kernel_rfl) (cw_one _ _) ?_
  intro w14 st14
  repeat (first | simp only [List.cons_append] at st14 | simp only [List.nil_append] at st14 | simp only [List.set_cons_succ] at st14 | simp only [List.set_cons_zero] at st14)
  clear st13
  try simp only [Act.put]
  refine plan_end ?_
  refine NoPanic.normal ?_
  go_wp2_with fail
  refine wp_region_noPanic ?_
  refine wp_region_lad st14 19 [.o 18, .w 0, .w 1, .w 2, .t 3, .w 4, .w 5, .w 6, .t 7, .t 8, .w 10, .w 11, .w 12, .t 13, .t 14, .t 15, .c 9, .c 16, .c 17, .j 18] (.m 19 .nil) (by kernel_rfl) (by kernel_rfl) (fun _ _ _ _ _ h => h) ?_
  clear st14
  refine lad_o rfl rfl rfl z_ge (cw 4 0) rfl ?_
  try simp only [Go.Mv.clL]
  iterate 3 (refine lad_w (v := ?_) rfl rfl (fun xq wx => ?_) ?_; rotate_left 1; · (go_simp; with_reducible rfl); try simp only [Go.Mv.clL])
  refine lad_t (v := ?_) rfl rfl (fun xq wx hS => ?_) ?_
  rotate_left 1
  · (have hc := (HCV.out.keep (St.fr hS) id).cell (i := 0) rfl; clear hS; go_simp; with_reducible rfl)
  try simp only [Go.Mv.clL]
  iterate 3 (refine lad_w (v := ?_) rfl rfl (fun xq wx => ?_) ?_; rotate_left 1; · (go_simp; with_reducible rfl); try simp only [Go.Mv.clL])
  refine lad_t (v := ?_) rfl rfl (fun xq wx hS => ?_) ?_
  rotate_left 1
  · (have hc := (HCV.out.keep (St.fr hS) id).cell (i := 0) rfl; clear hS; go_simp; with_reducible rfl)
  try simp only [Go.Mv.clL]
  refine lad_arr rfl rfl rfl (fun _ => rfl) (cw 4 (elN m ee)) (fun wx hS => St.rangeL hS 6 rfl 0 _ (by rw [List.drop_zero, List.take_of_length_le (Nat.le_refl _)])) Tryd.underlying47 rfl (by kernel_rfl) ?_
  try simp only [Go.Mv.clL]
  iterate 3 (refine lad_w (v := ?_) rfl rfl (fun xq wx => ?_) ?_; rotate_left 1; · (go_simp; with_reducible rfl); try simp only [Go.Mv.clL])
  refine lad_t (v := ?_) rfl rfl (fun xq wx hS => ?_) ?_
  rotate_left 1
  · (have hc := (HCV.out.keep (St.fr hS) id).cell (i := 0) rfl; clear hS; go_simp; with_reducible rfl)
  try simp only [Go.Mv.clL]
  refine lad_arr rfl rfl rfl (fun _ => rfl) (cw 4 (elN m d)) (fun wx hS => St.rangeL hS 5 rfl 0 _ (by rw [List.drop_zero, List.take_of_length_le (Nat.le_refl _)])) Tryd.underlying47 rfl (by kernel_rfl) ?_
  try simp only [Go.Mv.clL]
  refine lad_arr rfl rfl rfl (fun _ => rfl) (cw 4 (elN m d)) (fun wx hS => St.rangeL hS 5 rfl 0 _ (by rw [List.drop_zero, List.take_of_length_le (Nat.le_refl _)])) Tryd.underlying47 rfl (by kernel_rfl) ?_
  try simp only [Go.Mv.clL]
  refine lad_call rfl rfl rfl Tryd.call38 (fun w hS hR => MSquare_v m gp _ HOK.out (HPM.out.keep hS.fr id) ee f1 Hf1.out) (fun _ => rfl) ?_
  try simp only [Go.Mv.clL]
  refine lad_call rfl rfl rfl Tryd.call67 (fun w hS hR => MAdd_v m gp _ HOK.out (HPM.out.keep hS.fr id) d d f2 Hf2.out) (fun _ => rfl) ?_
  try simp only [Go.Mv.clL]
  refine lad_call rfl rfl rfl Tryd.call71 (fun w hS hR => MSub_v m gp _ HOK.out (HPM.out.keep hS.fr id) f1 f2 X HX.out) (fun _ => rfl) ?_
  try simp only [Go.Mv.clL]
  refine lad_j List.mem_cons_self fun g10 => ?_
  simp only [upd, reduceIte]
  refine lad_end fun xq w15 st15 hR => ?_
  try dsimp only
  clear hR xq
  refine plan_m rfl rfl ?_
  refine wp_storeS st15 7 rfl rfl rfl rfl (by simp [cw_len]) (by kernel_rfl) (cw_one _ _) ?_
  intro w16 st16
  repeat (first | simp only [List.cons_append] at st16 | simp only [List.nil_append] at st16 | simp only [List.set_cons_succ] at st16 | simp only [List.set_cons_zero] at st16)
  clear st15
  try simp only [Act.put]
  refine plan_end ?_
  refine NoPanic.normal ?_
  go_wp2_with fail
  refine wp_region_noPanic ?_
  refine wp_region_lad st16 8 [.o 7, .w 0, .w 1, .w 2, .t 3, .t 4, .t 5, .c 6, .j 7] (.m 8 .nil) (by kernel_rfl) (by kernel_rfl) (fun _ _ _ _ _ h => h) ?_
  clear st16
  refine lad_o rfl rfl rfl z_ge (cw 4 0) rfl ?_
  try simp only [Go.Mv.clL]
  iterate 3 (refine lad_w (v := ?_) rfl rfl (fun xq wx => ?_) ?_; rotate_left 1; · (go_simp; with_reducible rfl); try simp only [Go.Mv.clL])
  refine lad_t (v := ?_) rfl rfl (fun xq wx hS => ?_) ?_
  rotate_left 1
  · (have hc := (HCV.out.keep (St.fr hS) id).cell (i := 0) rfl; clear hS; go_simp; with_reducible rfl)
  try simp only [Go.Mv.clL]
  refine lad_arr rfl rfl rfl (fun _ => rfl) (cw 4 (elN m bb)) (fun wx hS => St.rangeL hS 4 rfl 0 _ (by rw [List.drop_zero, List.take_of_length_le (Nat.le_refl _)])) Tryd.underlying47 rfl (by kernel_rfl) ?_
  try simp only [Go.Mv.clL]
  refine lad_arr rfl rfl rfl (fun _ => rfl) (cw 4 (elN m bb)) (fun wx hS => St.rangeL hS 4 rfl 0 _ (by rw [List.drop_zero, List.take_of_length_le (Nat.le_refl _)])) Tryd.underlying47 rfl (by kernel_rfl) ?_
  try simp only [Go.Mv.clL]
  refine lad_call rfl rfl rfl Tryd.call67 (fun w hS hR => MAdd_v m gp _ HOK.out (HPM.out.keep hS.fr id) bb bb k1 Hk1.out) (fun _ => rfl) ?_
  try simp only [Go.Mv.clL]
  refine lad_j List.mem_cons_self fun g11 => ?_
  simp only [upd, reduceIte]
  refine lad_end fun xq w17 st17 hR => ?_
  try dsimp only
  clear hR xq
  refine plan_m rfl rfl ?_
  refine wp_storeS st17 8 rfl rfl rfl rfl (by simp [cw_len]) (by kernel_rfl) (cw_one _ _) ?_
  intro w18 st18
  repeat (first | simp only [List.cons_append] at st18 | simp only [List.nil_append] at st18 | simp only [List.set_cons_succ] at st18 | simp only [List.set_cons_zero] at st18)
  clear st17
  try simp only [Act.put]
  refine plan_end ?_
  refine NoPanic.normal ?_
  go_wp2_with fail
  refine wp_region_noPanic ?_
  refine wp_region_lad st18 7 [.w 0, .w 1, .w 2, .t 3, .t 4, .t 5, .c 6] (.m 7 .nil) (by kernel_rfl) (by kernel_rfl) (fun _ _ _ _ _ h => h) ?_
  clear st18
  iterate 3 (refine lad_w (v := ?_) rfl rfl (fun xq wx => ?_) ?_; rotate_left 1; · (go_simp; with_reducible rfl); try simp only [Go.Mv.clL])
  refine lad_t (v := ?_) rfl rfl (fun xq wx hS => ?_) ?_
  rotate_left 1
  · (have hc := (HCV.out.keep (St.fr hS) id).cell (i := 0) rfl; clear hS; go_simp; with_reducible rfl)
  try simp only [Go.Mv.clL]
  refine lad_arr rfl rfl rfl (fun _ => rfl) (cw 4 (elN m k1)) (fun wx hS => St.rangeL hS 8 rfl 0 _ (by rw [List.drop_zero, List.take_of_length_le (Nat.le_refl _)])) Tryd.underlying47 rfl (by kernel_rfl) ?_
  try simp only [Go.Mv.clL]
  refine lad_arr rfl rfl rfl (fun _ => rfl) (cw 4 (elN m k1)) (fun wx hS => St.rangeL hS 8 rfl 0 _ (by rw [List.drop_zero, List.take_of_length_le (Nat.le_refl _)])) Tryd.underlying47 rfl (by kernel_rfl) ?_
  try simp only [Go.Mv.clL]
  refine lad_call rfl rfl rfl Tryd.call67 (fun w hS hR => MAdd_v m gp _ HOK.out (HPM.out.keep hS.fr id) k1 k1 k2 Hk2.out) (fun _ => rfl) ?_
  try simp only [Go.Mv.clL]
  refine lad_end fun xq w19 st19 hR => ?_
  try dsimp only
  clear hR xq
  refine plan_m rfl rfl ?_
  refine wp_storeS st19 8 rfl rfl rfl rfl (by simp [cw_len]) (by kernel_rfl) (cw_one _ _) ?_
  intro w20 st20
  try simp only [List.set_cons_zero, List.set_cons_succ] at st20
  clear st19
  try simp only [Act.put]
  refine plan_end ?_
  refine NoPanic.normal ?_
  go_wp2_with fail
  refine wp_region_noPanic ?_
  refine wp_region_lad st20 7 [.w 0, .w 1, .w 2, .t 3, .t 4, .t 5, .c 6] (.m 7 .nil) (by kernel_rfl) (by kernel_rfl) (fun _ _ _ _ _ h => h) ?_
  clear st20
  iterate 3 (refine lad_w (v := ?_) rfl rfl (fun xq wx => ?_) ?_; rotate_left 1; · (go_simp; with_reducible rfl); try simp only [Go.Mv.clL])
  refine lad_t (v := ?_) rfl rfl (fun xq wx hS => ?_) ?_
  rotate_left 1
  · (have hc := (HCV.out.keep (St.fr hS) id).cell (i := 0) rfl; clear hS; go_simp; with_reducible rfl)
  try simp only [Go.Mv.clL]
  refine lad_arr rfl rfl rfl (fun _ => rfl) (cw 4 (elN m k2)) (fun wx hS => St.rangeL hS 8 rfl 0 _ (by rw [List.drop_zero, List.take_of_length_le (Nat.le_refl _)])) Tryd.underlying47 rfl (by kernel_rfl) ?_
  try simp only [Go.Mv.clL]
  refine lad_arr rfl rfl rfl (fun _ => rfl) (cw 4 (elN m k2)) (fun wx hS => St.rangeL hS 8 rfl 0 _ (by rw [List.drop_zero, List.take_of_length_le (Nat.le_refl _)])) Tryd.underlying47 rfl (by kernel_rfl) ?_
  try simp only [Go.Mv.clL]
  refine lad_call rfl rfl rfl Tryd.call67 (fun w hS hR => MAdd_v m gp _ HOK.out (HPM.out.keep hS.fr id) k2 k2 k3 Hk3.out) (fun _ => rfl) ?_
  try simp only [Go.Mv.clL]
  refine lad_end fun xq w21 st21 hR => ?_
  try dsimp only
  clear hR xq
  refine plan_m rfl rfl ?_
  refine wp_storeS st21 8 rfl rfl rfl rfl (by simp [cw_len]) (by kernel_rfl) (cw_one _ _) ?_
  intro w22 st22
  try simp only [List.set_cons_zero, List.set_cons_succ] at st22
  clear st21
  try simp only [Act.put]
  refine plan_end ?_
  refine NoPanic.normal ?_
  go_wp2_with fail
  refine wp_region_noPanic ?_
  refine wp_region_lad st22 10 [.o 9, .w 0, .w 1, .w 2, .t 3, .w 4, .t 5, .w 6, .t 7, .c 8, .j 9] (.m 10 .nil) (by kernel_rfl) (by kernel_rfl) (fun _ _ _ _ _ h => h) ?_
  clear st22
  refine lad_o rfl rfl rfl z_ge (cw 4 0) rfl ?_
  try simp only [Go.Mv.clL]
  iterate 3 (refine lad_w (v := ?_) rfl rfl (fun xq wx => ?_) ?_; rotate_left 1; · (go_simp; with_reducible rfl); try simp only [Go.Mv.clL])
  refine lad_t (v := ?_) rfl rfl (fun xq wx hS => ?_) ?_
  rotate_left 1
  · (have hc := (HCV.out.keep (St.fr hS) id).cell (i := 0) rfl; clear hS; go_simp; with_reducible rfl)
  try simp only [Go.Mv.clL]
  refine lad_w (v := ?_) rfl rfl (fun xq wx => ?_) ?_; rotate_left 1; · (go_simp; with_reducible rfl)
  try simp only [Go.Mv.clL]
  refine lad_arr rfl rfl rfl (fun _ => rfl) (cw 4 (elN m y)) (fun wx hS => St.rangeL hS 0 rfl 4 _ (pt_y _ _ _)) Tryd.underlying47 rfl (by kernel_rfl) ?_
  try simp only [Go.Mv.clL]
  refine lad_w (v := ?_) rfl rfl (fun xq wx => ?_) ?_; rotate_left 1; · (go_simp; with_reducible rfl)
  try simp only [Go.Mv.clL]
  refine lad_arr rfl rfl rfl (fun _ => rfl) (cw 4 (elN m z)) (fun wx hS => St.rangeL hS 0 rfl 8 _ (pt_z _ _ _)) Tryd.underlying47 rfl (by kernel_rfl) ?_
  try simp only [Go.Mv.clL]
  refine lad_call rfl rfl rfl Tryd.call40 (fun w hS hR => MMul_v m gp _ HOK.out (HPM.out.keep hS.fr id) y z z1 Hz1.out) (fun _ => rfl) ?_
  try simp only [Go.Mv.clL]
  refine lad_j List.mem_cons_self fun g12 => ?_
  simp only [upd, reduceIte]
  refine lad_end fun xq w23 st23 hR => ?_
  try dsimp only
  clear hR xq
  refine plan_m rfl rfl ?_
  refine wp_storeS st23 9 rfl rfl rfl rfl (by simp [cw_len]) (by kernel_rfl) (cw_one _ _) ?_
  intro w24 st24
  repeat (first | simp only [List.cons_append] at st24 | simp only [List.nil_append] at st24 | simp only [List.set_cons_succ] at st24 | simp only [List.set_cons_zero] at st24)
  clear st23
  try simp only [Act.put]
  refine plan_end ?_
  refine NoPanic.normal ?_
  go_wp2_with fail
  refine wp_region_noPanic ?_
  refine wp_region_lad st24 28 [.t 0, .w 1, .w 2, .w 3, .t 4, .w 5, .w 6, .w 7, .t 8, .t 9, .w 10, .w 11, .w 12, .t 13, .t 14, .t 15, .t 18, .w 20, .w 21, .w 22, .t 23, .t 24, .t 25, .c 16, .c 17, .c 19, .c 26, .w 27] (.m 28 .nil) (by kernel_rfl) (by kernel_rfl) (fun _ _ _ _ _ h => h) ?_
  clear st24
  refine lad_arr rfl rfl rfl (fun _ => rfl) (cw 4 (elN m X)) (fun wx hS => St.rangeL hS 7 rfl 0 _ (by rw [List.drop_zero, List.take_of_length_le (Nat.le_refl _)])) Tryd.underlying47 rfl (by kernel_rfl) ?_
  try simp only [Go.Mv.clL]
  iterate 3 (refine lad_w (v := ?_) rfl rfl (fun xq wx => ?_) ?_; rotate_left 1; · (go_simp; with_reducible rfl); try simp only [Go.Mv.clL])
  refine lad_t (v := ?_) rfl rfl (fun xq wx hS => ?_) ?_
  rotate_left 1
  · (have hc := (HCV.out.keep (St.fr hS) id).cell (i := 0) rfl; clear hS; go_simp; with_reducible rfl)
  try simp only [Go.Mv.clL]
  iterate 3 (refine lad_w (v := ?_) rfl rfl (fun xq wx => ?_) ?_; rotate_left 1; · (go_simp; with_reducible rfl); try simp only [Go.Mv.clL])
  refine lad_t (v := ?_) rfl rfl (fun xq wx hS => ?_) ?_
  rotate_left 1
  · (have hc := (HCV.out.keep (St.fr hS) id).cell (i := 0) rfl; clear hS; go_simp; with_reducible rfl)
  try simp only [Go.Mv.clL]
  refine lad_arr rfl rfl rfl (fun _ => rfl) (cw 4 (elN m ee)) (fun wx hS => St.rangeL hS 6 rfl 0 _ (by rw [List.drop_zero, List.take_of_length_le (Nat.le_refl _)])) Tryd.underlying47 rfl (by kernel_rfl) ?_
  try simp only [Go.Mv.clL]
  iterate 3 (refine lad_w (v := ?_) rfl rfl (fun xq wx => ?_) ?_; rotate_left 1; · (go_simp; with_reducible rfl); try simp only [Go.Mv.clL])
  refine lad_t (v := ?_) rfl rfl (fun xq wx hS => ?_) ?_
  rotate_left 1
  · (have hc := (HCV.out.keep (St.fr hS) id).cell (i := 0) rfl; clear hS; go_simp; with_reducible rfl)
  try simp only [Go.Mv.clL]
  refine lad_arr rfl rfl rfl (fun _ => rfl) (cw 4 (elN m d)) (fun wx hS => St.rangeL hS 5 rfl 0 _ (by rw [List.drop_zero, List.take_of_length_le (Nat.le_refl _)])) Tryd.underlying47 rfl (by kernel_rfl) ?_
  try simp only [Go.Mv.clL]
  refine lad_arr rfl rfl rfl (fun _ => rfl) (cw 4 (elN m X)) (fun wx hS => St.rangeL hS 7 rfl 0 _ (by rw [List.drop_zero, List.take_of_length_le (Nat.le_refl _)])) Tryd.underlying47 rfl (by kernel_rfl) ?_
  try simp only [Go.Mv.clL]
  refine lad_arr rfl rfl rfl (fun _ => rfl) (cw 4 (elN m k3)) (fun wx hS => St.rangeL hS 8 rfl 0 _ (by rw [List.drop_zero, List.take_of_length_le (Nat.le_refl _)])) Tryd.underlying47 rfl (by kernel_rfl) ?_
  try simp only [Go.Mv.clL]
  iterate 3 (refine lad_w (v := ?_) rfl rfl (fun xq wx => ?_) ?_; rotate_left 1; · (go_simp; with_reducible rfl); try simp only [Go.Mv.clL])
  refine lad_t (v := ?_) rfl rfl (fun xq wx hS => ?_) ?_
  rotate_left 1
  · (have hc := (HCV.out.keep (St.fr hS) id).cell (i := 0) rfl; clear hS; go_simp; with_reducible rfl)
  try simp only [Go.Mv.clL]
  refine lad_arr rfl rfl rfl (fun _ => rfl) (cw 4 (elN m z1)) (fun wx hS => St.rangeL hS 9 rfl 0 _ (by rw [List.drop_zero, List.take_of_length_le (Nat.le_refl _)])) Tryd.underlying47 rfl (by kernel_rfl) ?_
  try simp only [Go.Mv.clL]
  refine lad_arr rfl rfl rfl (fun _ => rfl) (cw 4 (elN m z1)) (fun wx hS => St.rangeL hS 9 rfl 0 _ (by rw [List.drop_zero, List.take_of_length_le (Nat.le_refl _)])) Tryd.underlying47 rfl (by kernel_rfl) ?_
  try simp only [Go.Mv.clL]
  refine lad_call rfl rfl rfl Tryd.call71 (fun w hS hR => MSub_v m gp _ HOK.out (HPM.out.keep hS.fr id) d X h1 Hh1.out) (fun _ => rfl) ?_
  try simp only [Go.Mv.clL]
  refine lad_call rfl rfl rfl Tryd.call40 (fun w hS hR => MMul_v m gp _ HOK.out (HPM.out.keep hS.fr id) ee h1 h2 Hh2.out) (fun _ => rfl) ?_
  try simp only [Go.Mv.clL]
  refine lad_call rfl rfl rfl Tryd.call71 (fun w hS hR => MSub_v m gp _ HOK.out (HPM.out.keep hS.fr id) h2 k3 Y HY.out) (fun _ => rfl) ?_
  try simp only [Go.Mv.clL]
  refine lad_call rfl rfl rfl Tryd.call67 (fun w hS hR => MAdd_v m gp _ HOK.out (HPM.out.keep hS.fr id) z1 z1 Z HZ.out) (fun _ => rfl) ?_
  try simp only [Go.Mv.clL]
  refine lad_w rfl rfl (fun _ => exec_build rfl _ (built_pt _ _ _)) ?_
  try simp only [Go.Mv.clL]
  refine lad_end fun xq w25 st25 hR => ?_
  try dsimp only
  clear hR xq
  refine plan_m rfl rfl ?_
  refine wp_storeS st25 1 rfl rfl rfl rfl (by simp [cw_len]) (by kernel_rfl) (pt_one _ _ _) ?_
  intro w26 st26
  try simp only [List.set_cons_zero, List.set_cons_succ] at st26
  clear st25
  try simp only [Act.put]
  refine plan_end ?_
  refine NoPanic.normal ?_
  have hr := st26.at 1 rfl
  have hfr := st26.fr
  clear st26
  go_wp2_with fail
  exact bodyPost_ret (results_st rfl rfl hr Tryd.underlying49 rfl (by kernel_rfl)) rfl ⟨rfl, hfr⟩
end Go.Proofs.YtemcankmggmgoaaDoor

/- num.Sqrt: what it answers. -/
namespace Go.Proofs.YtemcankmggmgoaaDoor
open Go.RowKit Go.Mv Mvp
theorem MSqrt_ok (m : Md) (gp : Nat) (w : World) (hok : m.Ok) (hpm : Has w gp (mdL m) 72) (x : Nat) (hr : rtOk m.M x = true) :
    Calls Tryd.prog 69 #[.pointer (some ⟨gp, 0, none⟩), i4 (elN m x)] w fun e w' => e = .returned (.tuple #[i4 (elN m (rtV m.M x)), .bool true]) ∧ Fr Nob w w' := by
  unfold rtOk at hr
  unfold rtV
  unfold rtN at *
  generalize hn : m.M / 4 + 1 = n at *
  by_cases hb : x ^ n % m.M % 2 = 1
  · rw [if_pos hb]; exact MSqrt_odd m gp w hok hpm x n hn hr hb
  · rw [if_neg hb]; exact MSqrt_even m gp w hok hpm x n hn hr (by omega)
theorem MSqrt_no (m : Md) (gp : Nat) (w : World) (hok : m.Ok) (hpm : Has w gp (mdL m) 72) (x : Nat) (hr : rtOk m.M x = false) :
    Calls Tryd.prog 69 #[.pointer (some ⟨gp, 0, none⟩), i4 (elN m x)] w fun e w' => e = .returned (.tuple #[i4 0, .bool false]) ∧ Fr Nob w w' := by
  unfold rtOk at hr
  unfold rtN at *
  exact MSqrt_none m gp w hok hpm x _ rfl hr
attribute [local irreducible] limbs lw mix cw cSub cAdd cMul beN laid be32 montT mstep elN mdL numB rtN rtOk rtV
end Go.Proofs.YtemcankmggmgoaaDoor
