/- tree.Lies and the reference's; the law TreeLies. -/
import Derived.Test.YtgkakddldobpkaaTree3
import Derived.Test.YtgkakddldobpkaaTree4
namespace Go.Proofs.Ytgkakddldobpkaa
open Go.RowKit Go.Mv Mvp Mvt
attribute [local irreducible] permS permP toB turnsK squeeze permN permB spongeB feed frameL framesL tagL leafL nodeL

theorem built_clim (a e : Int) : Try.prog.built 103 [(0, .int .u64 a), (1, .int .u64 e)] = some #[.int .u64 a, .int .u64 e] := by kernel_rfl
theorem size_clim : (Try.prog.info? 103).map (·.size) = some 2 := by kernel_rfl
theorem zero_clim : (Try.prog.info? 103).map (·.zero) = some (some (.agg #[.int .u64 0, .int .u64 0])) := by kernel_rfl

theorem PartsAt.getF {w w' : World} {a : Option Addr} {ls : List (List UInt8)} (h : PartsAt w a ls) (hf : Fr Nob w w') {j : Nat} (hj : j < ls.length) : ∃ b o v, a = some ⟨b, o, none⟩ ∧ w'.cell? ⟨b, o + j, none⟩ = some v ∧ PartIs w v (ls.getD j []) := by
  obtain ⟨b, o, v, h1, h2, h3⟩ := h.get hj
  exact ⟨b, o, v, h1, hf.cell id h2, h3⟩
/-- what the program answers -/
def liesL (root : List UInt8) (n i : Nat) (leaf : List UInt8) (path : List (List UInt8)) : Bool :=
  match climb nodeL i (n - 1) (leafL leaf) path with
  | some h => decide (h = root)
  | none => false

theorem skip_le (a e : Nat) : (skip a e).1 ≤ a ∧ (skip a e).2 ≤ e := by
  induction a using Nat.strongRecOn generalizing e with
  | _ a ih =>
    rw [skip]
    split
    · obtain ⟨h1, h2⟩ := ih (a / 2) (by omega) (e / 2)
      omega
    · exact ⟨Nat.le_refl _, Nat.le_refl _⟩
set_option maxHeartbeats 1000000 in
set_option maxRecDepth 1000000 in
theorem lies_bad (r : Option Addr) (rn rc : Nat) (n i : Int) (a : Option Addr) (an ac : Nat) (p : Option Addr) (c : Nat) (ls : List (List UInt8)) (w : World) (hm : ls.length ≤ 1000000) (hb : PartsAt w p ls)
    (h : n < 1 ∨ 1048576 < n ∨ i < 0 ∨ n ≤ i ∨ sz32 ls = false) :
    Calls Try.prog 30 #[.slice r rn rc, .int .i64 n, .int .i64 i, .slice a an ac, .slice p ls.length c] w fun e w' => e = .returned (.bool false) ∧ w = w' := by
  have h' : n < 1 ∨ (¬ n < 1 ∧ 1048576 < n) ∨ (¬ n < 1 ∧ ¬ 1048576 < n ∧ i < 0) ∨ (¬ n < 1 ∧ ¬ 1048576 < n ∧ ¬ i < 0 ∧ n ≤ i) ∨ (¬ n < 1 ∧ ¬ 1048576 < n ∧ ¬ i < 0 ∧ ¬ n ≤ i ∧ sz32 ls = false) := by
    by_cases h1 : n < 1
    · exact .inl h1
    by_cases h2 : 1048576 < n
    · exact .inr (.inl ⟨h1, h2⟩)
    by_cases h3 : i < 0
    · exact .inr (.inr (.inl ⟨h1, h2, h3⟩))
    by_cases h4 : n ≤ i
    · exact .inr (.inr (.inr (.inl ⟨h1, h2, h3, h4⟩)))
    · exact .inr (.inr (.inr (.inr ⟨h1, h2, h3, h4, by simpa [h1, h2, h3, h4] using h⟩)))
  clear h
  go_enter Try.func30, Try.ntmps30
  rcases h' with h1 | ⟨h1, h2⟩ | ⟨h1, h2, h3⟩ | ⟨h1, h2, h3, h4⟩ | ⟨h1, h2, h3, h4, h5⟩
  case inr.inr.inr.inr =>
    have H5 := Lib.hid h5; clear h5
    go_wp2_with fail
    refine (sized_any p c ls w hm hb).mono ?_
    rintro e w' ⟨rfl, rfl⟩
    rw [H5.out]
    go_wp2_with fail
    go_ret
    exact ⟨rfl, rfl⟩
  all_goals
    go_wp2_with fail
    go_ret
    exact ⟨rfl, rfl⟩

set_option maxHeartbeats 4000000 in
set_option maxRecDepth 1000000 in
theorem lies_yes (r : Option Addr) (rn rc : Nat) (root : List UInt8) (n i : Nat) (a : Option Addr) (an ac : Nat) (leaf : List UInt8) (p : Option Addr) (c : Nat) (ls : List (List UInt8)) (w : World) (hm : ls.length ≤ 1000000) (hb : PartsAt w p ls)
    (hr : RdB w r rn root) (ha : PartIs w (.slice a an ac) leaf) (hn : 1 ≤ n) (hn2 : n ≤ 1048576) (hi : i < n) (hs : sz32 ls = true) :
    Calls Try.prog 30 #[.slice r rn rc, .int .i64 n, .int .i64 i, .slice a an ac, .slice p ls.length c] w fun e w' => e = .returned (.bool (liesL root n i leaf ls)) ∧ Fr Nob w w' := by
  have h1 : ¬ (n : Int) < 1 := by omega
  have h2 : ¬ (1048576 : Int) < (n : Int) := by omega
  have h3 : ¬ (i : Int) < 0 := by omega
  have h4 : ¬ (n : Int) ≤ (i : Int) := by omega
  have HS := Lib.hid hs; clear hs
  go_enter Try.func30, Try.ntmps30
  go_wp2_with fail
  refine (sized_any p c ls w hm hb).mono ?_
  rintro e w' ⟨rfl, rfl⟩
  rw [HS.out]
  obtain ⟨m, rfl⟩ : ∃ m, n = m + 1 := ⟨n - 1, by omega⟩
  go_wp2_with (with_reducible refine wl_stop (o := ⟨some 40, _, _, _, _, _⟩) ?_)
  refine wl_buildL rfl rfl _ (built_clim i m) ?_
  go_wp2_with (with_reducible refine wl_stop (o := ⟨some 11, _, _, _, _, _⟩) ?_)
  refine wl_alloc rfl rfl zero_clim [.int .u64 0, .int .u64 0] rfl ?_
  intro w1 hh1 hf1 hz1
  clear hz1
  go_wp2_with (with_reducible refine wl_stop (o := ⟨none, .store 103 _ _, _, _, _, _⟩) ?_)
  refine wl_storeA (cs := [.int .u64 (i : Int), .int .u64 (m : Int)]) rfl rfl rfl rfl hh1 (by simp) size_clim (by simp; exact ⟨rfl, rfl⟩) ?_
  intro w2 hh2 hf2 hz2
  have hf12 : Fr Nob w w2 := hf1.new hf2 (Nat.le_refl _)
  have hcl : Clim w2 w.heap.size i m := by simpa [splice, Clim] using hh2
  clear hh1 hh2 hf1 hf2 hz2
  have ha2 := ha.still hf12
  have hgs : w.heap.size < w2.heap.size := hcl.lt
  generalize hgw : w.heap.size = g at *
  have HG := Lib.hid hgw; clear hgw
  clear ha
  go_wp2_with fail
  refine (leafHash_any a an ac leaf w2 ha2).mono ?_
  rintro e w3 ⟨v3, rfl, hown3, hf3⟩
  have hf13 := hf12.then hf3
  have hcl3 : Clim w3 g i m := Has.keep hcl hf3 id
  have hown3' := hown3.mono (base' := g) (by omega)
  have hc0 : climb nodeL i m (leafL leaf) ls = climb nodeL i (m + 1 - 1) (leafL leaf) ls := rfl
  generalize hres : climb nodeL i (m + 1 - 1) (leafL leaf) ls = res at hc0
  have HRES := Lib.hid hres; clear hres
  generalize hlf : leafL leaf = lf at *
  have HLF := Lib.hid hlf
  clear hlf hf12 hcl hf3 hown3 ha2 hgs
  go_wp2_with fail
  go_loopw [45, 12] (fun ix vh wr => ∃ (j a' e' : Nat) (h : List UInt8), j ≤ ls.length ∧ ix = .int .i64 (j : Int) ∧ a' ≤ 1048576 ∧ e' ≤ 1048576 ∧ Clim wr g a' e' ∧ Own wr g 5 1 vh 32 (bs h) ∧ climb nodeL a' e' h (ls.drop j) = res ∧ Fr Nob w wr) (fun ix _ _ => (ls.length - intOf ix).toNat)
  case atStart => exact ⟨0, i, m, lf, by omega, rfl, by omega, by omega, hcl3, hown3', hc0, hf13⟩
  case round =>
    clear hc0 hcl3 hown3' 
    obtain ⟨j, a', e', h, hj, rfl, ha', he', hcl, hown, hcb, hfj⟩ := hrel
    have hgl := hcl.lt
    have hc1 := Has.cell hcl (i := 1) rfl
    have hgw : g ≤ wr.heap.size := by omega
    by_cases hlt : j < ls.length
    · have hltI : (j : Int) < (ls.length : Int) := by omega
      obtain ⟨b, o, v, rfl, hc, hp⟩ := hb.getF hfj hlt
      have hdr : ls.drop j = ls.getD j [] :: ls.drop (j + 1) := by
        rw [List.drop_eq_getElem_cons hlt]; simp [List.getD_eq_getElem?_getD, hlt]
      rw [hdr] at hcb
      have HCB := Lib.hid hcb; clear hcb hdr
      generalize ls.getD j [] = x at *
      obtain ⟨ax, nx, cx, rfl, -⟩ := id hp
      by_cases h0 : e' = 0
      · subst h0
        have hc1' : wr.cell? ⟨g, 1, none⟩ = some (.int .u64 0) := hc1
        clear hc1
        go_wp2_with fail
        go_ret
        refine ⟨ret_bool ?_, hfj⟩
        unfold liesL
        rw [HLF.out, HRES.out, ← HCB.out]
        simp [climb]
      · have h0I : ¬ (e' : Int) = 0 := by omega
        obtain ⟨ah, ch, rfl, -⟩ := own_rd hown
        have hq1 : ((e' : Int) == 0) = false := by simpa using h0
        have hq2 : (e' == 0) = false := by simpa using h0
        have hph0 := own_part hown (by decide)
        have HPH := Lib.hid hph0; clear hph0
        have HOWN := Lib.hid hown; clear hown
        by_cases hL : a' % 2 = 0 ∧ a' ≠ e'
        · have hcb2 : climb nodeL (a' / 2) (e' / 2) (nodeL h x) (ls.drop (j + 1)) = res := by
            have := HCB.out
            simpa only [climb, if_neg h0, if_pos hL] using this
          have HCB2 := Lib.hid hcb2; clear hcb2 HCB
          have HL := Lib.hid hL; clear hL
          go_wp2_with fail
          refine (right_left g a' e' wr ha' he' hcl HL.out).mono ?_
          rintro e4 w4 ⟨rfl, hf4⟩
          have hph := HPH.out
          clear HPH HOWN
          have hcl4 : Clim w4 g a' e' := Has.keep hcl hf4 id
          have hph4 := hph.still hf4
          have hf4' := hfj.then hf4
          have hp4 := hp.still hf4'
          have hgl4 := hcl4.lt
          clear HL hcl hp hph hf4 hfj hc hc1
          go_wp2_with fail
          refine (node_any _ _ _ h _ _ _ x w4 hph4 hp4).mono ?_
          rintro e5 w5 ⟨v5, rfl, hown5, hf5⟩
          have hcl5 : Clim w5 g a' e' := Has.keep hcl4 hf5 id
          have hown5' := hown5.mono (base' := g) (by omega)
          have hf5' := hf4'.then hf5
          clear hcl4 hp4 hph4 hf5 hf4' hown5 hgl4
          generalize nodeL h x = y at *
          go_wp2_with fail
          refine (up_any g a' e' w5 ha' he' hcl5).mono ?_
          rintro e6 w6 ⟨rfl, hcl6, hf6⟩
          have hown6 := hown5'.keep hf6 (fun k hk (e : k = g) => hown5'.ne hcl5 (by decide) (e ▸ hk))
          have hf6' : Fr Nob w w6 := hf5'.new hf6 (by rw [HG.out]; exact Nat.le_refl _)
          clear hcl5 hown5' hf5' hf6
          go_wp2_with fail
          go_roundw
          case rel => exact ⟨j + 1, a' / 2, e' / 2, y, by omega, by go_num, by omega, by omega, hcl6, hown6, HCB2.out, hf6'⟩
          case measure => simp [intOf]; omega
        · have hcb2 : climb nodeL ((skip a' e').1 / 2) ((skip a' e').2 / 2) (nodeL x h) (ls.drop (j + 1)) = res := by
            have := HCB.out
            simpa only [climb, if_neg h0, if_neg hL] using this
          have hsk := skip_le a' e'
          have HCB2 := Lib.hid hcb2; clear hcb2 HCB
          have HL := Lib.hid hL; clear hL
          have HSK := Lib.hid hsk; clear hsk
          go_wp2_with fail
          refine (right_right g a' e' wr ha' he' hcl HL.out).mono ?_
          rintro e4 w4 ⟨rfl, hcl4, hf4⟩
          have hph := HPH.out
          have hown := HOWN.out
          clear HPH HOWN
          have hown4 := hown.keep hf4 (fun k hk (e : k = g) => hown.ne hcl (by decide) (e ▸ hk))
          have hph4 := own_part hown4 (by decide)
          have hf4' : Fr Nob w w4 := hfj.new hf4 (by rw [HG.out]; exact Nat.le_refl _)
          have hp4 := hp.still hf4'
          have hgl4 := hcl4.lt
          have hsk := HSK.out
          clear HSK
          generalize (skip a' e').1 = a2 at *
          generalize (skip a' e').2 = e2 at *
          obtain ⟨hsk1, hsk2⟩ := hsk
          clear HL hcl hp hph hf4 hfj hown hc hc1 hown4
          go_wp2_with fail
          refine (node_any _ _ _ x _ _ _ h w4 hp4 hph4).mono ?_
          rintro e5 w5 ⟨v5, rfl, hown5, hf5⟩
          have hcl5 : Clim w5 g a2 e2 := Has.keep hcl4 hf5 id
          have hown5' := hown5.mono (base' := g) (by omega)
          have hf5' := hf4'.then hf5
          clear hcl4 hp4 hph4 hf5 hf4' hown5 hgl4
          generalize nodeL x h = y at *
          go_wp2_with fail
          refine (up_any g a2 e2 w5 (by omega) (by omega) hcl5).mono ?_
          rintro e6 w6 ⟨rfl, hcl6, hf6⟩
          have hown6 := hown5'.keep hf6 (fun k hk (e : k = g) => hown5'.ne hcl5 (by decide) (e ▸ hk))
          have hf6' : Fr Nob w w6 := hf5'.new hf6 (by rw [HG.out]; exact Nat.le_refl _)
          clear hcl5 hown5' hf5' hf6
          go_wp2_with fail
          go_roundw
          case rel => exact ⟨j + 1, a2 / 2, e2 / 2, y, by omega, by go_num, by omega, by omega, hcl6, hown6, HCB2.out, hf6'⟩
          case measure => simp [intOf]; omega
    · have hge : ¬ ((j : Int) < (ls.length : Int)) := by omega
      rw [List.drop_eq_nil_of_le (by omega)] at hcb
      have HCB := Lib.hid hcb; clear hcb
      by_cases h0 : e' = 0
      · subst h0
        have hc1' : wr.cell? ⟨g, 1, none⟩ = some (.int .u64 0) := hc1
        obtain ⟨ah, ch, rfl, hrh⟩ := own_rd hown
        have hr' := hr.still hfj
        clear hc1
        go_wp2_with fail
        refine (equal_any _ _ _ h _ _ _ root wr hrh hr').mono ?_
        rintro e2 w2 ⟨rfl, rfl⟩
        go_wp2_with fail
        go_ret
        refine ⟨ret_bool ?_, hfj⟩
        unfold liesL
        rw [HLF.out, HRES.out, ← HCB.out]
        simp [climb]
      · have h0I : ¬ (e' : Int) = 0 := by omega
        go_wp2_with fail
        go_ret
        refine ⟨ret_bool ?_, hfj⟩
        unfold liesL
        rw [HLF.out, HRES.out, ← HCB.out]
        simp [climb, h0]
end Go.Proofs.Ytgkakddldobpkaa
