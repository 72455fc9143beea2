/- tree.Grown, for m below n: the walk. -/
import Derived.Test.YtgkakddldobpkaaTree10
namespace Go.Proofs.Ytgkakddldobpkaa
open Go.RowKit Go.Mv Mvp Mvt
attribute [local irreducible] permS permP toB turnsK squeeze permN permB spongeB feed frameL framesL tagL leafL nodeL

/-- the growth, with what the old list has ahead of it where it is a whole part -/
def glist (old : List UInt8) (m : Nat) (ls : List (List UInt8)) : List (List UInt8) := if m &&& (m - 1) = 0 then old :: ls else ls
theorem size_sl : (Try.prog.info? 22).map (·.size) = some 1 := by kernel_rfl
theorem and_pred_i64 (m : Nat) (h1 : 1 ≤ m) (h2 : m ≤ 1048576) : bits BinOp.and IntKind.i64 (m : Int) ((m : Int) - 1) = ((m &&& (m - 1) : Nat) : Int) := by
  have := and_i64 m (m - 1) (by omega) (by omega)
  rw [← this]; congr 1; omega

set_option maxHeartbeats 8000000 in
set_option maxRecDepth 1000000 in
theorem grown_lt (r : Option Addr) (rn rc : Nat) (old : List UInt8) (m n : Nat) (a : Option Addr) (an ac : Nat) (root : List UInt8) (p : Option Addr) (c : Nat) (ls : List (List UInt8)) (w : World) (hm : ls.length ≤ 1000000) (hmc : ls.length ≤ c) (hb : PartsAt w p ls)
    (hr : PartIs w (.slice r rn rc) old) (ha : RdB w a an root) (hn : 1 ≤ m) (hmn : m < n) (hn2 : n ≤ 1048576) (hs : sz32 ls = true) :
    Calls Try.prog 33 #[.slice r rn rc, .int .i64 m, .slice a an ac, .int .i64 n, .slice p ls.length c] w fun e w' => e = .returned (.bool (grownL old root m n (glist old m ls))) ∧ Fr Nob w w' := by
  have h1 : ¬ (n : Int) < 1 := by omega
  have h2 : ¬ (1048576 : Int) < (n : Int) := by omega
  have h3 : ¬ (m : Int) < 1 := by omega
  have h4 : ¬ (n : Int) < (m : Int) := by omega
  have q1 : ((m : Int) == (n : Int)) = false := by simp; omega
  have q2 : (m == n) = false := by simp; omega
  have HS := Lib.hid hs
  have hand := and_pred_i64 m hn (by omega)
  clear hs
  go_enter Try.func33, Try.ntmps33
  go_wp2_with fail
  refine (sized_any p c ls w hm hb).mono ?_
  rintro e w' ⟨rfl, rfl⟩
  rw [HS.out]
  go_upto_if 53 with fail
  go_cut [4] (fun v wx => ∃ (a' : Option Addr) (c' : Nat) (gl : List (List UInt8)), v = .slice a' gl.length c' ∧ gl.length ≤ c' ∧ gl.length ≤ 1000001 ∧ PartsAt wx a' gl ∧ gl = glist old m ls ∧ Fr Nob w wx)
  case first =>
    by_cases hz : m &&& (m - 1) = 0
    · have hand0 : bits BinOp.and IntKind.i64 (m : Int) ((m : Int) - 1) = 0 := by rw [hand, hz]; rfl
      clear hand
      have HZ := Lib.hid hz
      go_wp2_with (with_reducible refine wl_stop (o := ⟨some 55, _, _, _, _, _⟩) ?_)
      refine wl_slit rfl rfl Try.underlying31 info_sl [.slice r rn rc] rfl (by simp; rfl) rfl rfl ?_
      intro w2 hh2 hf2 hz2
      clear hz2
      obtain ⟨vs, hrv0, hvv⟩ := hb
      have hrv := hrv0.still hf2
      have hgs : w.heap.size ≤ w2.heap.size := hf2.size
      have hown2 := Own.made hh2 w.heap.size (Nat.le_refl _) 1 1 1 (Nat.le_refl _) (by decide) (by simp)
      go_wp2_with (with_reducible refine wl_stop (o := ⟨some 57, _, _, _, _, _⟩) ?_)
      refine wl_append rfl rfl Try.underlying31 info_sl rfl (by decide) hown2 rfl rfl (by rw [Nat.mul_one]; exact hrv) (fun u hu => ?_) (by unfold maxLen; omega) (by omega) hgs ?_
      · obtain ⟨i, hi⟩ := List.getElem?_of_mem hu
        obtain ⟨l, _, ap, np, cp, rfl, _⟩ := hvv i u hi
        rfl
      intro v3 w3 hown3 hf3 hb3
      clear hb3
      have hfr3 : Fr Nob w w3 := hown2.fr hf2 (Nat.le_refl _) hf3
      go_wp2_with fail
      go_meet
      obtain ⟨a3, c3, rfl, hc3, hr3, -⟩ := hown3.form
      refine ⟨a3, c3, old :: ls, by rw [List.length_cons, Nat.add_comm], by rw [List.length_cons]; omega, by rw [List.length_cons]; omega, ⟨_, by rw [List.length_cons, Nat.add_comm]; rw [Nat.mul_one] at hr3; exact hr3, ?_⟩, by rw [glist, if_pos HZ.out], hfr3⟩
      intro i v hi
      cases i with
      | zero =>
        simp only [Nat.one_mul, List.take_succ_cons, List.take_zero, List.cons_append, List.nil_append, List.getElem?_cons_zero, Option.some.injEq] at hi
        subst hi
        exact ⟨old, rfl, hr.still hfr3⟩
      | succ i =>
        simp only [Nat.one_mul, List.take_succ_cons, List.take_zero, List.cons_append, List.nil_append, List.getElem?_cons_succ] at hi
        obtain ⟨l, hl, hp⟩ := hvv i v hi
        exact ⟨l, hl, hp.still hfr3⟩
    · have q3 : ((m &&& (m - 1) : Nat) == 0) = false := by simpa using hz
      have q4 : (((m &&& (m - 1) : Nat) : Int) == 0) = false := by simpa using hz
      have HZ := Lib.hid hz; clear hz
      go_wp2_with fail
      go_meet
      exact ⟨p, c, ls, rfl, hmc, by omega, hb, by rw [glist, if_neg HZ.out], Fr.refl _ _⟩
  case rest =>
  obtain ⟨a', c', gl, rfl, hc', hgl, hpa, hgle, hfx⟩ := hcut
  have HGLE := Lib.hid hgle
  have hr' := hr.still hfx
  have ha' := ha.still hfx
  clear hb hr ha hgle hand hm hmc HS q1 q2
  cases gl with
  | nil =>
    go_wp2_with fail
    go_ret
    exact ⟨ret_bool (by rw [← HGLE.out]; rfl), hfx⟩
  | cons g0 gt =>
    have q5 : (((gt.length : Nat) : Int) + 1 == 0) = false := by simp; omega
    have q3 : (((g0 :: gt).length : Nat) == 0) = false := rfl
    have q4 : ((((g0 :: gt).length : Nat) : Int) == 0) = false := by simp; omega
    have hlen : (g0 :: gt).length = gt.length + 1 := rfl
    rw [hlen] at hc' hgl q3 q4 ⊢
    clear hlen
    obtain ⟨m', rfl⟩ : ∃ m', m = m' + 1 := ⟨m - 1, by omega⟩
    obtain ⟨n', rfl⟩ : ∃ n', n = n' + 1 := ⟨n - 1, by omega⟩
    go_wp2_with (with_reducible refine wl_stop (o := ⟨some 67, _, _, _, _, _⟩) ?_)
    refine wl_buildL rfl rfl _ (built_clim m' n') ?_
    go_wp2_with (with_reducible refine wl_stop (o := ⟨some 11, _, _, _, _, _⟩) ?_)
    refine wl_alloc rfl rfl zero_clim [.int .u64 0, .int .u64 0] rfl ?_
    intro w1 hh1 hf1 hz1
    clear hz1
    go_wp2_with (with_reducible refine wl_stop (o := ⟨none, .store 103 _ _, _, _, _, _⟩) ?_)
    refine wl_storeA (cs := [.int .u64 (m' : Int), .int .u64 (n' : Int)]) rfl rfl rfl rfl hh1 (by simp) size_clim (by simp; exact ⟨rfl, rfl⟩) ?_
    intro w2 hh2 hf2 hz2
    have hf12 : Fr Nob wc w2 := hf1.new hf2 (Nat.le_refl _)
    have hcl : Clim w2 wc.heap.size m' n' := by simpa [splice, Clim] using hh2
    clear hh1 hh2 hf1 hf2 hz2
    generalize hgw : wc.heap.size = g at *
    have HG := Lib.hid hgw; clear hgw
    generalize hres : grow0 nodeL (m' + 1 - 1) (n' + 1 - 1) (g0 :: gt) = res
    have HRES := Lib.hid hres; clear hres
    have hm2 : m' ≤ 1048576 := by omega
    have hn3 : n' ≤ 1048576 := by omega
    clear h1 h2 h3 h4 hmn hn hn2
    go_wp2_with fail
    go_frame
    go_loopw [72] (fun _ wr => ∃ x y : Nat, x ≤ 1048576 ∧ y ≤ 1048576 ∧ Clim wr g x y ∧ strip x y = strip m' n' ∧ Fr Nob wc wr) (fun _ wr => (intOf ((wr.cell? ⟨g, 0, none⟩).getD undef)).toNat)
    case atStart => exact ⟨m', n', hm2, hn3, hcl, rfl, hf12⟩
    case round =>
      clear hcl hf12
      obtain ⟨x, y, hx, hy, hcx, hst, hfr⟩ := hrel
      have hc0 := Has.cell hcx (i := 0) rfl
      have HST := Lib.hid hst; clear hst
      by_cases hod : x % 2 = 1
      · have e1 : bits BinOp.and IntKind.u64 (x : Int) 1 = 1 := by rw [and1, hod]; rfl
        have hm1 : (intOf ((wr.cell? ⟨g, 0, none⟩).getD undef)).toNat = x := by rw [hc0]; simp [intOf]
        have HM := Lib.hid hm1; clear hm1
        have HOD := Lib.hid hod; clear hod
        go_wp2_with fail
        refine (up_any g x y wr hx hy hcx).mono ?_
        rintro e w4 ⟨rfl, hcl4, hf4⟩
        have hm2 : (intOf ((w4.cell? ⟨g, 0, none⟩).getD undef)).toNat = x / 2 := by
          have := Has.cell hcl4 (i := 0) rfl
          rw [this]; simp [intOf]; omega
        have HM2 := Lib.hid hm2; clear hm2 hc0 e1
        have hfr4 : Fr Nob wc w4 := hfr.new hf4 (by rw [HG.out]; exact Nat.le_refl _)
        clear hcx hfr hf4
        go_wp2_with fail
        go_roundw
        case rel => exact ⟨x / 2, y / 2, by omega, by omega, hcl4, by rw [← HST.out, strip_odd x y HOD.out], hfr4⟩
        case measure => rw [HM.out, HM2.out]; have := HOD.out; omega
      · have e1 : bits BinOp.and IntKind.u64 (x : Int) 1 = 0 := by rw [and1, show x % 2 = 0 by omega]; rfl
        have hst2 : strip m' n' = (x, y) := by rw [← HST.out, strip_even x y (by omega)]
        have HST2 := Lib.hid hst2; clear hst2 HST hod
        obtain ⟨b, o, v0, hv0, hcv, hp0⟩ := hpa.getF hfr (j := 0) (by simp)
        subst hv0
        have hcv0 : wr.cell? ⟨b, o, none⟩ = some v0 := hcv
        have hp0' : PartIs wc v0 g0 := hp0
        clear hcv hp0
        obtain ⟨a0, n0, c0, rfl, -⟩ := id hp0'
        have hpw0 := (POff.old hp0' (g := g) (by rw [HG.out]; exact Nat.le_refl _)).still hfr
        go_wp2_with fail
        go_quiet (fail)
        clear e1 hc0
        have hdq := (Fr.refl Nob wr).drewN nq
        have hcx4 : Clim (wr.drewN nq) g x y := Has.keep hcx hdq id
        have hfr4 := hfr.then hdq
        have hpw4 := hpw0.still hdq
        clear hcx hfr hp0' hpw0 hcv0 hdq
        generalize wr.drewN nq = w4 at *
        go_wp2_with (with_reducible refine wl_stop (o := ⟨some 80, _, _, _, _, _⟩) ?_)
        refine wl_cut rfl rfl Try.underlying31 size_sl rfl 1 (gt.length + 1) ⟨.i64, rfl⟩ rfl (by omega) hc' ?_
        have hpt : PartsAt wc (cutAt (some ⟨b, o, none⟩) 1 c') gt := hpa.tail c' hc'
        generalize cutAt (some (⟨b, o, none⟩ : Addr)) 1 c' = at1 at *
        rw [Nat.add_sub_cancel]
        have hl1 : gt.length ≤ c' - 1 := by omega
        have hgt : gt.length ≤ 1000000 := by omega
        have hcb : climbG (gL nodeL) (gR nodeL) x y (g0, g0) gt = res := by
          have h1 : (strip m' n').1 = x := by rw [HST2.out]
          have h2 : (strip m' n').2 = y := by rw [HST2.out]
          rw [← HRES.out, ← h1, ← h2]; rfl
        clear hpa q3 q4 q5 hc' hgl
        go_wp2_with fail
        go_loopw [82, 12, 13] (fun ix vw vi wr => ∃ (j x y : Nat) (hw hi : List UInt8), j ≤ gt.length ∧ ix = .int .i64 (j : Int) ∧ x ≤ 1048576 ∧ y ≤ 1048576 ∧ Clim wr g x y ∧ POff wr g vw hw ∧ POff wr g vi hi ∧ climbG (gL nodeL) (gR nodeL) x y (hw, hi) (gt.drop j) = res ∧ Fr Nob wc wr) (fun ix _ _ _ => (gt.length - intOf ix).toNat)
        case atStart => exact ⟨0, x, y, g0, g0, by omega, rfl, hx, hy, hcx4, hpw4, hpw4, hcb, hfr4⟩
        case round =>
          clear hcb hcx4 hpw4 hfr4 hx hy
          obtain ⟨j, x', y', hw, hi, hj, rfl, hx, hy, hcx, hpw, hpi, hcb, hfr⟩ := hrel
          have hgl := Has.lt hcx
          have hc1 := Has.cell hcx (i := 1) rfl
          obtain ⟨aw, nw, cw, rfl, -⟩ := id hpw
          obtain ⟨ai, ni, ci, rfl, -⟩ := id hpi
          have HPW := Lib.hid hpw; clear hpw
          have HPI := Lib.hid hpi; clear hpi
          by_cases hlt : j < gt.length
          · have hltI : (j : Int) < (gt.length : Int) := by omega
            obtain ⟨b1, o1, v, rfl, hc, hp⟩ := hpt.getF hfr hlt
            have hdr : gt.drop j = gt.getD j [] :: gt.drop (j + 1) := by
              rw [List.drop_eq_getElem_cons hlt]; simp [List.getD_eq_getElem?_getD, hlt]
            rw [hdr] at hcb
            have HCB := Lib.hid hcb; clear hcb hdr
            generalize gt.getD j [] = z at *
            obtain ⟨ax, nx, cx, rfl, -⟩ := id hp
            have hpz := (POff.old hp (g := g) (by rw [HG.out]; exact Nat.le_refl _)).still hfr
            have HPZ := Lib.hid hpz; clear hpz hp
            by_cases h0 : y' = 0
            · subst h0
              have hc1' : wr.cell? ⟨g, 1, none⟩ = some (.int .u64 0) := hc1
              clear hc1
              go_wp2_with fail
              go_ret
              refine ⟨ret_bool ?_, hfx.then hfr⟩
              unfold grownL
              rw [← HGLE.out, HRES.out, ← HCB.out]
              simp [climbG]
            · have hq1 : ((y' : Int) == 0) = false := by simpa using h0
              have hq2 : (y' == 0) = false := by simpa using h0
              by_cases hL : x' % 2 = 0 ∧ x' ≠ y'
              · have hcb2 : climbG (gL nodeL) (gR nodeL) (x' / 2) (y' / 2) (hw, nodeL hi z) (gt.drop (j + 1)) = res := by
                  have := HCB.out
                  simpa only [climbG, if_neg h0, if_pos hL, gL] using this
                have HCB2 := Lib.hid hcb2; clear hcb2 HCB
                have HL := Lib.hid hL; clear hL h0
                go_wp2_with fail
                refine (right_left g x' y' wr hx hy hcx HL.out).mono ?_
                rintro e4 w4 ⟨rfl, hf4⟩
                have hcl4 : Clim w4 g x' y' := Has.keep hcx hf4 id
                have hpw4 := HPW.out.still hf4
                have hpi4 := HPI.out.still hf4
                have hpz4 := HPZ.out.still hf4
                have hf4' := hfr.then hf4
                clear HL hcx HPW HPI HPZ hf4 hfr hc hc1
                go_wp2_with fail
                refine (node_any _ _ _ hi _ _ _ z w4 hpi4.part hpz4.part).mono ?_
                rintro e5 w5 ⟨v5, rfl, hown5, hf5⟩
                have hcl5 : Clim w5 g x' y' := Has.keep hcl4 hf5 id
                have hpi5 := POff.own hown5 (by decide) hcl5 (by decide)
                have hpw5 := hpw4.still hf5
                have hf5' := hf4'.then hf5
                clear hcl4 hpw4 hpi4 hpz4 hf5 hf4' hown5
                generalize nodeL hi z = yy at *
                go_wp2_with fail
                refine (up_any g x' y' w5 hx hy hcl5).mono ?_
                rintro e6 w6 ⟨rfl, hcl6, hf6⟩
                have hpi6 := hpi5.one hf6
                have hpw6 := hpw5.one hf6
                have hf6' : Fr Nob wc w6 := hf5'.new hf6 (by rw [HG.out]; exact Nat.le_refl _)
                clear hcl5 hpi5 hpw5 hf5' hf6
                go_wp2_with fail
                go_roundw
                case rel => exact ⟨j + 1, x' / 2, y' / 2, hw, yy, by omega, by go_num, by omega, by omega, hcl6, hpw6, hpi6, HCB2.out, hf6'⟩
                case measure => simp [intOf]; omega
              · have hcb2 : climbG (gL nodeL) (gR nodeL) ((skip x' y').1 / 2) ((skip x' y').2 / 2) (nodeL z hw, nodeL z hi) (gt.drop (j + 1)) = res := by
                  have := HCB.out
                  simpa only [climbG, if_neg h0, if_neg hL, gR] using this
                have hsk := skip_le x' y'
                have HCB2 := Lib.hid hcb2; clear hcb2 HCB
                have HL := Lib.hid hL; clear hL h0
                have HSK := Lib.hid hsk; clear hsk
                go_wp2_with fail
                refine (right_right g x' y' wr hx hy hcx HL.out).mono ?_
                rintro e4 w4 ⟨rfl, hcl4, hf4⟩
                have hpw4 := HPW.out.one hf4
                have hpi4 := HPI.out.one hf4
                have hpz4 := HPZ.out.one hf4
                have hf4' : Fr Nob wc w4 := hfr.new hf4 (by rw [HG.out]; exact Nat.le_refl _)
                have hsk := HSK.out
                clear HSK
                generalize (skip x' y').1 = a2 at *
                generalize (skip x' y').2 = e2 at *
                obtain ⟨hsk1, hsk2⟩ := hsk
                clear HL hcx HPW HPI HPZ hf4 hfr hc hc1
                go_wp2_with fail
                refine (node_any _ _ _ z _ _ _ hw w4 hpz4.part hpw4.part).mono ?_
                rintro e5 w5 ⟨v5, rfl, hown5, hf5⟩
                have hcl5 : Clim w5 g a2 e2 := Has.keep hcl4 hf5 id
                have hpw5 := POff.own hown5 (by decide) hcl5 (by decide)
                have hpi5 := hpi4.still hf5
                have hpz5 := hpz4.still hf5
                have hf5' := hf4'.then hf5
                obtain ⟨a5, c5, rfl, -⟩ := own_rd hown5
                clear hcl4 hpw4 hpi4 hpz4 hf5 hf4' hown5
                generalize nodeL z hw = y1 at *
                go_wp2_with fail
                refine (node_any _ _ _ z _ _ _ hi w5 hpz5.part hpi5.part).mono ?_
                rintro e6 w6 ⟨v6, rfl, hown6, hf6⟩
                have hcl6 : Clim w6 g a2 e2 := Has.keep hcl5 hf6 id
                have hpi6 := POff.own hown6 (by decide) hcl6 (by decide)
                have hpw6 := hpw5.still hf6
                have hf6' := hf5'.then hf6
                clear hcl5 hpw5 hpi5 hpz5 hf6 hf5' hown6
                generalize nodeL z hi = y2 at *
                go_wp2_with fail
                refine (up_any g a2 e2 w6 (by omega) (by omega) hcl6).mono ?_
                rintro e7 w7 ⟨rfl, hcl7, hf7⟩
                have hpi7 := hpi6.one hf7
                have hpw7 := hpw6.one hf7
                have hf7' : Fr Nob wc w7 := hf6'.new hf7 (by rw [HG.out]; exact Nat.le_refl _)
                clear hcl6 hpi6 hpw6 hf6' hf7
                go_wp2_with fail
                go_roundw
                case rel => exact ⟨j + 1, a2 / 2, e2 / 2, y1, y2, by omega, by go_num, by omega, by omega, hcl7, hpw7, hpi7, HCB2.out, hf7'⟩
                case measure => simp [intOf]; omega
          · have hge : ¬ ((j : Int) < (gt.length : Int)) := by omega
            rw [List.drop_eq_nil_of_le (by omega)] at hcb
            have HCB := Lib.hid hcb; clear hcb
            by_cases h0 : y' = 0
            · subst h0
              have hc1' : wr.cell? ⟨g, 1, none⟩ = some (.int .u64 0) := hc1
              obtain ⟨_, _, _, hv1, -, -, hrw, -⟩ := HPW.out
              cases hv1
              obtain ⟨_, _, _, hv1, -, -, hri, -⟩ := HPI.out
              cases hv1
              obtain ⟨_, _, _, hv1, -, -, hro, -⟩ := hr'.still hfr
              cases hv1
              have hra := ha'.still hfr
              have HRI := Lib.hid hri
              have HRA := Lib.hid hra
              clear hc1 hri hra
              go_wp2_with fail
              refine (equal_any _ _ _ hw _ _ _ old wr hrw hro).mono ?_
              rintro e2 w2 ⟨rfl, rfl⟩
              by_cases hwo : hw = old
              · rw [decide_eq_true hwo]
                go_wp2_with fail
                refine (equal_any _ _ _ hi _ _ _ root wr HRI.out HRA.out).mono ?_
                rintro e2 w2 ⟨rfl, rfl⟩
                go_wp2_with fail
                go_ret
                refine ⟨ret_bool ?_, hfx.then hfr⟩
                unfold grownL
                rw [← HGLE.out, HRES.out, ← HCB.out]
                simp [climbG, hwo]
              · rw [decide_eq_false hwo]
                have HWO := Lib.hid hwo; clear hwo
                go_wp2_with fail
                go_ret
                refine ⟨ret_bool ?_, hfx.then hfr⟩
                unfold grownL
                rw [← HGLE.out, HRES.out, ← HCB.out]
                simp [climbG, HWO.out]
            · have hq1 : ((y' : Int) == 0) = false := by simpa using h0
              have hq2 : (y' == 0) = false := by simpa using h0
              have H0 := Lib.hid h0; clear h0
              go_wp2_with fail
              go_ret
              refine ⟨ret_bool ?_, hfx.then hfr⟩
              unfold grownL
              rw [← HGLE.out, HRES.out, ← HCB.out]
              simp [climbG, H0.out]
end Go.Proofs.Ytgkakddldobpkaa
