/- The law's dot: all numbers good; The reference's Apart: of lists that lie apart it returns true. -/
import Derived.Test.YtmegaegedlbckaaMgNumListsProof15
import Derived.Test.YtmegaegedlbckaaMgNumListsProof12
import Derived.Test.YtmegaegedlbckaaMgNumListsProof1
import Derived.IntWalk
import Derived.Deep.DeepCutAuto
namespace Go.Proofs.Ytmegaegedlbckaa
open Go.RowKit Go.Mv Mvp
theorem nthN_eq (ls : List (List UInt8)) (i : Nat) : beN (mkS (ls.getD i [])).data.toList = nthN ls i := by
  have h : (mkS (ls.getD i [])).data.toList = ls.getD i [] := by simp [mkS]
  rw [h]; rfl
attribute [local irreducible] limbs lw mix cw cSub cAdd cMul foldC valFrom beN laid be32 powm montT mstep elN mdL lentL numB numsB elCells powsL dotN nthN

set_option maxHeartbeats 8000000 in
set_option maxRecDepth 1000000 in
theorem ldot_neq (m : Md) (hok : m.Ok) (aa : Option Addr) (ca : Nat) (la : List (List UInt8)) (bb : Option Addr) (cb : Nat) (lb : List (List UInt8)) (w : World) (hva : Rd w aa la.length (ss la)) (hvb : Rd w bb lb.length (ss lb)) (hn : la.length ≤ 256) (hm : lb.length ≤ 256) (hga : numsB m la = true) (hgb : numsB m lb = true) (hne : la.length ≠ lb.length) :
    Calls Try.prog 23 #[fv m.M, .slice aa la.length ca, .slice bb lb.length cb, .slice none 0 0, .int .i64 2] w fun e w' => e = .returned (.bool true) ∧ Fr Nob w w' := by
  have HOK := Lib.hid hok
  have HVA := Lib.hid hva
  have HVB := Lib.hid hvb
  have HGA := Lib.hid hga
  have HGB := Lib.hid hgb
  clear hok hva hvb hga hgb
  have hna : ¬ ((256 : Int) < (la.length : Int)) := by omega
  have hnb : ¬ ((256 : Int) < (lb.length : Int)) := by omega
  have hx : ((la.length : Int) == (lb.length : Int)) = false := by simp; omega
  have hx2 : ((la.length : Int) != (lb.length : Int)) = true := by simp; omega
  clear hne
  have st0 := St.start Nob w
  go_enter Try.func23, Try.ntmps23
  go_wp2_with (with_reducible refine wl_stop (o := ⟨some 5, _, _, _, _, _⟩) ?_)
  refine wl_boxS st0 rfl rfl rfl (cw 4 m.M ++ cw 4 (B64 ^ 4 - m.M)) rfl ?_
  intro g5 w1 st1
  clear st0
  go_wp2_with (with_reducible refine wl_stop (o := ⟨some 11, _, _, _, _, _⟩) ?_)
  refine wl_allocS st1 rfl rfl (z := .agg #[.int .u64 0, .int .u64 0, .int .u64 0, .int .u64 0]) (by kernel_rfl) (cw 4 0) (by rw [cw_zero]; rfl) ?_
  intro g11 w2 st2
  clear st1
  go_wp2
  go_loopw [12] (fun z wr => ∃ i : Nat, i ≤ la.length + lb.length ∧ z = .int .i64 (i : Int) ∧ St Nob w wr [(g5, cw 4 m.M ++ cw 4 (B64 ^ 4 - m.M), 40), (g11, cw 4 0, 38)]) (fun z _ => la.length + lb.length - (intOf z).toNat)
  case atStart => exact ⟨0, by omega, rfl, st2⟩
  case round =>
    obtain ⟨i, hi, rfl, st⟩ := hrel
    clear st2
    have e0 : IntKind.i64.wrap ((la.length : Int) + (lb.length : Int)) = (la.length : Int) + (lb.length : Int) := IntWalk.i64_in _ (by omega)
    by_cases hlt : i < la.length + lb.length
    · have hltI : (i : Int) < (la.length : Int) + (lb.length : Int) := by omega
      by_cases hl : i < la.length
      · skip
        have hlI : (i : Int) < (la.length : Int) := by omega
        obtain ⟨ba, oa, haa, -⟩ := HVA.out.at (by omega)
        subst haa
        have hc := rd_cell (HVA.out.still st.fr) i _ (ss_get la i hl)
        have hb := numsB_get m la HGA.out i hl
        generalize la.getD i [] = l at *
        have hml : (mkS l).data.toList = l := by simp [mkS]
        have HA := Lib.hid (show numB m (mkS l).data.toList = true by rw [hml]; exact hb)
        clear hb hml
        go_wp2_with (with_reducible refine wl_stop (o := ⟨some 61, _, _, _, _, _⟩) ?_)
        refine wl_loadSt st 0 rfl rfl rfl Try.underlying40 rfl rfl (by first | (rw [cw_len]; kernel_rfl) | (simp only [List.length_append, cw_len]; kernel_rfl)) ?_
        go_wp2_with fail
        refine (Number_t m HOK.out.lt (mkS l) _ HA.out).mono ?_
        rintro e' w3 ⟨rfl, hf3⟩
        have st3 := st.keep hf3
        clear st hf3
        go_wp2_with (with_reducible refine wl_stop (o := ⟨some 14, _, _, _, _, _⟩) ?_)
        refine wl_allocS st3 rfl rfl (z := .agg #[.int .u64 0, .int .u64 0, .int .u64 0, .int .u64 0]) (by kernel_rfl) (cw 4 0) (by rw [cw_zero]; rfl) ?_
        intro g14 w4 st4
        clear st3
        go_wp2_with (with_reducible refine wl_stop (o := ⟨none, _, _, _, _, _⟩) ?_)
        refine wl_storeS st4 2 rfl rfl rfl rfl rfl (by first | (simp only [cw_len]; done) | (simp only [List.length_append, cw_len]; done)) (by first | (rw [cw_len]; kernel_rfl) | (simp only [List.length_append, cw_len]; kernel_rfl)) (cw_one _ _) ?_
        intro w5 st5
        clear st4
        go_wp2
        go_roundw
        case rel => exact ⟨i + 1, by omega, by go_num, St.less st5 (by simp)⟩
        case measure => simp [intOf]; omega
      · skip
        have hlI : ¬ ((i : Int) < (la.length : Int)) := by omega
        obtain ⟨bb', ob, hbb, -⟩ := HVB.out.at (by omega)
        subst hbb
        have hc := rd_cell (HVB.out.still st.fr) (i - la.length) _ (ss_get lb (i - la.length) (by omega))
        have hb := numsB_get m lb HGB.out (i - la.length) (by omega)
        have e1 : IntKind.i64.wrap ((i : Int) - (la.length : Int)) = (i : Int) - (la.length : Int) := IntWalk.i64_in _ (by omega)
        have e2 : ((i : Int) - (la.length : Int)).toNat = i - la.length := by omega
        have hlo : (0 : Int) ≤ (i : Int) - (la.length : Int) ∧ (i : Int) - (la.length : Int) < (lb.length : Int) := by omega
        generalize lb.getD (i - la.length) [] = l at *
        have hml : (mkS l).data.toList = l := by simp [mkS]
        have HA := Lib.hid (show numB m (mkS l).data.toList = true by rw [hml]; exact hb)
        clear hb hml
        go_wp2_with (with_reducible refine wl_stop (o := ⟨some 61, _, _, _, _, _⟩) ?_)
        refine wl_loadSt st 0 rfl rfl rfl Try.underlying40 rfl rfl (by first | (rw [cw_len]; kernel_rfl) | (simp only [List.length_append, cw_len]; kernel_rfl)) ?_
        go_wp2_with fail
        refine (Number_t m HOK.out.lt (mkS l) _ HA.out).mono ?_
        rintro e' w3 ⟨rfl, hf3⟩
        have st3 := st.keep hf3
        clear st hf3
        go_wp2_with (with_reducible refine wl_stop (o := ⟨some 14, _, _, _, _, _⟩) ?_)
        refine wl_allocS st3 rfl rfl (z := .agg #[.int .u64 0, .int .u64 0, .int .u64 0, .int .u64 0]) (by kernel_rfl) (cw 4 0) (by rw [cw_zero]; rfl) ?_
        intro g14 w4 st4
        clear st3
        go_wp2_with (with_reducible refine wl_stop (o := ⟨none, _, _, _, _, _⟩) ?_)
        refine wl_storeS st4 2 rfl rfl rfl rfl rfl (by first | (simp only [cw_len]; done) | (simp only [List.length_append, cw_len]; done)) (by first | (rw [cw_len]; kernel_rfl) | (simp only [List.length_append, cw_len]; kernel_rfl)) (cw_one _ _) ?_
        intro w5 st5
        clear st4
        go_wp2
        go_roundw
        case rel => exact ⟨i + 1, by omega, by go_num, St.less st5 (by simp)⟩
        case measure => simp [intOf]; omega
    · have hge : ¬ ((i : Int) < (la.length : Int) + (lb.length : Int)) := by omega
      have hfr := st.fr
      clear st
      go_wp2_with fail
      go_ret
      exact ⟨rfl, hfr⟩

set_option maxHeartbeats 8000000 in
set_option maxRecDepth 1000000 in
theorem ldot_ok (m : Md) (hok : m.Ok) (aa : Option Addr) (ca : Nat) (la : List (List UInt8)) (bb : Option Addr) (cb : Nat) (lb : List (List UInt8)) (w : World) (hva : Rd w aa la.length (ss la)) (hvb : Rd w bb lb.length (ss lb)) (hn : la.length ≤ 256) (hab : lb.length = la.length) (hga : numsB m la = true) (hgb : numsB m lb = true) (av : Option Addr) (cv : Nat) (hrd : RdB w av 32 (be32 (dotN la lb la.length % m.M))) :
    Calls Try.prog 23 #[fv m.M, .slice aa la.length ca, .slice bb lb.length cb, .slice av 32 cv, .int .i64 0] w fun e w' => e = .returned (.bool true) ∧ Fr Nob w w' := by
  have hm : lb.length ≤ 256 := by omega
  have HM0 := Lib.hid (show 0 < m.M by have := hok.one; omega)
  have HRD := Lib.hid hrd
  have hx : ((la.length : Int) == (lb.length : Int)) = true := by simp; omega
  have hx2 : ((la.length : Int) != (lb.length : Int)) = false := by simp; omega
  have HOK := Lib.hid hok
  have HVA := Lib.hid hva
  have HVB := Lib.hid hvb
  have HGA := Lib.hid hga
  have HGB := Lib.hid hgb
  clear hok hva hvb hga hgb
  have hna : ¬ ((256 : Int) < (la.length : Int)) := by omega
  have hnb : ¬ ((256 : Int) < (lb.length : Int)) := by omega
  clear hrd
  have st0 := St.start Nob w
  go_enter Try.func23, Try.ntmps23
  go_wp2_with (with_reducible refine wl_stop (o := ⟨some 5, _, _, _, _, _⟩) ?_)
  refine wl_boxS st0 rfl rfl rfl (cw 4 m.M ++ cw 4 (B64 ^ 4 - m.M)) rfl ?_
  intro g5 w1 st1
  clear st0
  go_wp2_with (with_reducible refine wl_stop (o := ⟨some 11, _, _, _, _, _⟩) ?_)
  refine wl_allocS st1 rfl rfl (z := .agg #[.int .u64 0, .int .u64 0, .int .u64 0, .int .u64 0]) (by kernel_rfl) (cw 4 0) (by rw [cw_zero]; rfl) ?_
  intro g11 w2 st2
  clear st1
  go_wp2
  go_loopw [12] (fun z wr => ∃ i : Nat, i ≤ la.length + lb.length ∧ z = .int .i64 (i : Int) ∧ St Nob w wr [(g5, cw 4 m.M ++ cw 4 (B64 ^ 4 - m.M), 40), (g11, cw 4 0, 38)]) (fun z _ => la.length + lb.length - (intOf z).toNat)
  case atStart => exact ⟨0, by omega, rfl, st2⟩
  case round =>
    obtain ⟨i, hi, rfl, st⟩ := hrel
    clear st2
    have e0 : IntKind.i64.wrap ((la.length : Int) + (lb.length : Int)) = (la.length : Int) + (lb.length : Int) := IntWalk.i64_in _ (by omega)
    by_cases hlt : i < la.length + lb.length
    · have hltI : (i : Int) < (la.length : Int) + (lb.length : Int) := by omega
      by_cases hl : i < la.length
      · skip
        have hlI : (i : Int) < (la.length : Int) := by omega
        obtain ⟨ba, oa, haa, -⟩ := HVA.out.at (by omega)
        subst haa
        have hc := rd_cell (HVA.out.still st.fr) i _ (ss_get la i hl)
        have hb := numsB_get m la HGA.out i hl
        generalize la.getD i [] = l at *
        have hml : (mkS l).data.toList = l := by simp [mkS]
        have HA := Lib.hid (show numB m (mkS l).data.toList = true by rw [hml]; exact hb)
        clear hb hml
        go_wp2_with (with_reducible refine wl_stop (o := ⟨some 61, _, _, _, _, _⟩) ?_)
        refine wl_loadSt st 0 rfl rfl rfl Try.underlying40 rfl rfl (by first | (rw [cw_len]; kernel_rfl) | (simp only [List.length_append, cw_len]; kernel_rfl)) ?_
        go_wp2_with fail
        refine (Number_t m HOK.out.lt (mkS l) _ HA.out).mono ?_
        rintro e' w3 ⟨rfl, hf3⟩
        have st3 := st.keep hf3
        clear st hf3
        go_wp2_with (with_reducible refine wl_stop (o := ⟨some 14, _, _, _, _, _⟩) ?_)
        refine wl_allocS st3 rfl rfl (z := .agg #[.int .u64 0, .int .u64 0, .int .u64 0, .int .u64 0]) (by kernel_rfl) (cw 4 0) (by rw [cw_zero]; rfl) ?_
        intro g14 w4 st4
        clear st3
        go_wp2_with (with_reducible refine wl_stop (o := ⟨none, _, _, _, _, _⟩) ?_)
        refine wl_storeS st4 2 rfl rfl rfl rfl rfl (by first | (simp only [cw_len]; done) | (simp only [List.length_append, cw_len]; done)) (by first | (rw [cw_len]; kernel_rfl) | (simp only [List.length_append, cw_len]; kernel_rfl)) (cw_one _ _) ?_
        intro w5 st5
        clear st4
        go_wp2
        go_roundw
        case rel => exact ⟨i + 1, by omega, by go_num, St.less st5 (by simp)⟩
        case measure => simp [intOf]; omega
      · skip
        have hlI : ¬ ((i : Int) < (la.length : Int)) := by omega
        obtain ⟨bb', ob, hbb, -⟩ := HVB.out.at (by omega)
        subst hbb
        have hc := rd_cell (HVB.out.still st.fr) (i - la.length) _ (ss_get lb (i - la.length) (by omega))
        have hb := numsB_get m lb HGB.out (i - la.length) (by omega)
        have e1 : IntKind.i64.wrap ((i : Int) - (la.length : Int)) = (i : Int) - (la.length : Int) := IntWalk.i64_in _ (by omega)
        have e2 : ((i : Int) - (la.length : Int)).toNat = i - la.length := by omega
        have hlo : (0 : Int) ≤ (i : Int) - (la.length : Int) ∧ (i : Int) - (la.length : Int) < (lb.length : Int) := by omega
        generalize lb.getD (i - la.length) [] = l at *
        have hml : (mkS l).data.toList = l := by simp [mkS]
        have HA := Lib.hid (show numB m (mkS l).data.toList = true by rw [hml]; exact hb)
        clear hb hml
        go_wp2_with (with_reducible refine wl_stop (o := ⟨some 61, _, _, _, _, _⟩) ?_)
        refine wl_loadSt st 0 rfl rfl rfl Try.underlying40 rfl rfl (by first | (rw [cw_len]; kernel_rfl) | (simp only [List.length_append, cw_len]; kernel_rfl)) ?_
        go_wp2_with fail
        refine (Number_t m HOK.out.lt (mkS l) _ HA.out).mono ?_
        rintro e' w3 ⟨rfl, hf3⟩
        have st3 := st.keep hf3
        clear st hf3
        go_wp2_with (with_reducible refine wl_stop (o := ⟨some 14, _, _, _, _, _⟩) ?_)
        refine wl_allocS st3 rfl rfl (z := .agg #[.int .u64 0, .int .u64 0, .int .u64 0, .int .u64 0]) (by kernel_rfl) (cw 4 0) (by rw [cw_zero]; rfl) ?_
        intro g14 w4 st4
        clear st3
        go_wp2_with (with_reducible refine wl_stop (o := ⟨none, _, _, _, _, _⟩) ?_)
        refine wl_storeS st4 2 rfl rfl rfl rfl rfl (by first | (simp only [cw_len]; done) | (simp only [List.length_append, cw_len]; done)) (by first | (rw [cw_len]; kernel_rfl) | (simp only [List.length_append, cw_len]; kernel_rfl)) (cw_one _ _) ?_
        intro w5 st5
        clear st4
        go_wp2
        go_roundw
        case rel => exact ⟨i + 1, by omega, by go_num, St.less st5 (by simp)⟩
        case measure => simp [intOf]; omega
    · have hge : ¬ ((i : Int) < (la.length : Int) + (lb.length : Int)) := by omega
      go_wp2
      go_loopw [16] (fun t wr => ∃ j : Nat, j ≤ la.length ∧ t = .int .i64 (j : Int) ∧ St Nob w wr [(g5, cw 4 m.M ++ cw 4 (B64 ^ 4 - m.M), 40), (g11, cw 4 (dotN la lb j % m.M), 38)]) (fun t _ => la.length - (intOf t).toNat)
      case atStart => exact ⟨0, by omega, rfl, by rw [dotN_zero, Nat.zero_mod]; exact st⟩
      case round =>
        obtain ⟨j, hj, rfl, st2⟩ := hrel
        clear st
        by_cases hltj : j < la.length
        · have hltJ : (j : Int) < (la.length : Int) := by omega
          obtain ⟨ba, oa, haa, -⟩ := HVA.out.at (by omega)
          subst haa
          obtain ⟨bb', ob, hbb, -⟩ := HVB.out.at (by omega)
          subst hbb
          have HNA := Lib.hid (show numB m (mkS (la.getD j [])).data.toList = true by have := numsB_get m la HGA.out j hltj; simpa [mkS] using this)
          have HNB := Lib.hid (show numB m (mkS (lb.getD j [])).data.toList = true by have := numsB_get m lb HGB.out j (by omega); simpa [mkS] using this)
          have ea := nthN_eq la j
          have eb := nthN_eq lb j
          have HLA := Lib.hid (Nat.lt_trans (numB_lt m _ HNA.out) HOK.out.lt)
          have HLB := Lib.hid (Nat.lt_trans (numB_lt m _ HNB.out) HOK.out.lt)
          have HGA2 := Lib.hid (ss_get la j hltj)
          have HGB2 := Lib.hid (ss_get lb j (by omega))
          have hsum : (dotN la lb j % m.M + beN (mkS (la.getD j [])).data.toList * beN (mkS (lb.getD j [])).data.toList % m.M) % m.M = dotN la lb (j + 1) % m.M := by
            rw [ea, eb, ← Nat.add_mod, dotN_succ]
          have HSUM := Lib.hid hsum
          have hdl : dotN la lb j % m.M < B64 ^ 4 := Nat.lt_trans (Nat.mod_lt _ (by have := HOK.out.one; omega)) HOK.out.lt
          clear ea eb hsum
          generalize la.getD j [] = sa at *
          generalize lb.getD j [] = sb at *
          generalize dotN la lb j % m.M = dj at *
          have HDL := Lib.hid hdl
          have HPL := Lib.hid (show beN (mkS sa).data.toList * beN (mkS sb).data.toList % m.M < B64 ^ 4 from Nat.lt_trans (Nat.mod_lt _ HM0.out) HOK.out.lt)
          clear hdl
          go_wp2_with fail
          refine wp_region_noPanic ?_
          refine wp_region_plan (fun wx => St Nob w wx [(g5, cw 4 m.M ++ cw 4 (B64 ^ 4 - m.M), 40), (g11, cw 4 dj, 38)]) 11 (.t 0 (.w 1 (.w 2 (.w 3 (.t 4 (.b 5 9 (.w 6 (.w 7 (.w 8 (.r 9 (.r 10 (.m 11 .nil)))))) (.r 5 (.w 6 (.w 7 (.w 8 (.r 10 (.m 11 .nil)))))))))))) (by kernel_rfl) (by kernel_rfl) st2.drew (fun _ _ _ _ _ h => h) ?_
          have hd2 := st2.drew
          clear st2
          refine plan_arr rfl rfl rfl rfl (cw 4 m.M ++ cw 4 (B64 ^ 4 - m.M)) (fun wx hS => St.rangeL hS 0 rfl 0 _ (by rw [List.drop_zero, List.take_of_length_le (Nat.le_refl _)])) Try.underlying40 rfl (by first | (rw [cw_len]; kernel_rfl) | (simp only [List.length_append, cw_len]; kernel_rfl)) ?_
          try simp only [Act.put, List.setIfInBounds_toArray, List.set_cons_zero, List.set_cons_succ]
          refine plan_w (v := ?_) rfl rfl (fun wx => ?_) ?_
          rotate_left 1
          · (go_simp; with_reducible rfl)
          try simp only [Act.put, List.setIfInBounds_toArray, List.set_cons_zero, List.set_cons_succ]
          refine plan_w (v := ?_) rfl rfl (fun wx => ?_) ?_
          rotate_left 1
          · (go_simp; with_reducible rfl)
          try simp only [Act.put, List.setIfInBounds_toArray, List.set_cons_zero, List.set_cons_succ]
          refine plan_w (v := ?_) rfl rfl (fun wx => ?_) ?_
          rotate_left 1
          · (go_simp; with_reducible rfl)
          try simp only [Act.put, List.setIfInBounds_toArray, List.set_cons_zero, List.set_cons_succ]
          refine plan_t (v := ?_) rfl rfl (fun wx hS => ?_) ?_
          rotate_left 1
          · (have hcl := rd_cell (HVA.out.still (St.fr hS)) j _ HGA2.out; clear hS; go_simp; with_reducible rfl)
          try simp only [Act.put, List.setIfInBounds_toArray, List.set_cons_zero, List.set_cons_succ]
          refine plan_b (C := fun g17 wz => St Nob w wz [(g5, cw 4 m.M ++ cw 4 (B64 ^ 4 - m.M), 40), (g11, cw 4 dj, 38), (g17, cw 4 (beN (mkS sa).data.toList), 38)]) (F := ?_) rfl rfl rfl rfl (fun key => ?_) (fun key => ?_) ?_
          rotate_left 1
          · skip
            go_simp
            refine (Number_t m HOK.out.lt (mkS sa) _ HNA.out).mono ?_
            rintro e' w3 ⟨rfl, hf3⟩
            have st3 := hd2.keep hf3
            clear hf3
            refine ⟨st3, ?_⟩
            try simp only [Act.put, List.setIfInBounds_toArray, List.set_cons_zero, List.set_cons_succ]
            refine plan_w (v := ?_) rfl rfl (fun wx => ?_) ?_
            rotate_left 1
            · (go_simp; with_reducible rfl)
            try simp only [Act.put, List.setIfInBounds_toArray, List.set_cons_zero, List.set_cons_succ]
            refine plan_w (v := ?_) rfl rfl (fun wx => ?_) ?_
            rotate_left 1
            · (go_simp; with_reducible rfl)
            try simp only [Act.put, List.setIfInBounds_toArray, List.set_cons_zero, List.set_cons_succ]
            refine plan_w (v := ?_) rfl rfl (fun wx => ?_) ?_
            rotate_left 1
            · (go_simp; with_reducible rfl)
            try simp only [Act.put, List.setIfInBounds_toArray, List.set_cons_zero, List.set_cons_succ]
            refine plan_r rfl rfl ?_
            refine wp_allocS st3 rfl (z := .agg #[.int .u64 0, .int .u64 0, .int .u64 0, .int .u64 0]) (by kernel_rfl) (cw 4 0) (by rw [cw_zero]; rfl) ?_
            intro g17 w4 st4
            refine ⟨St.less st4 (by simp), ?_⟩
            try simp only [Act.put, List.setIfInBounds_toArray, List.set_cons_zero, List.set_cons_succ]
            refine plan_r rfl rfl ?_
            refine wp_storeS st4 2 rfl rfl rfl rfl (by first | (simp only [cw_len]; done) | (simp only [List.length_append, cw_len]; done)) (by first | (rw [cw_len]; kernel_rfl) | (simp only [List.length_append, cw_len]; kernel_rfl)) (cw_one _ _) ?_
            intro w5 st5
            refine ⟨St.less st5 (by simp), ?_⟩
            try simp only [Act.put]
            refine plan_m rfl rfl ?_
            go_simp
            try simp only [Act.put, List.setIfInBounds_toArray, List.set_cons_zero, List.set_cons_succ]
            refine plan_end ?_
            exact key g17 _ st5
          · skip
            refine wp_allocS hd2 rfl (z := .agg #[.int .u64 0, .int .u64 0, .int .u64 0, .int .u64 0]) (by kernel_rfl) (cw 4 0) (by rw [cw_zero]; rfl) ?_
            intro g17 w6 st6
            refine ⟨St.less st6 (by simp), ?_⟩
            try simp only [Act.put, List.setIfInBounds_toArray, List.set_cons_zero, List.set_cons_succ]
            refine plan_r rfl rfl ?_
            go_simp
            refine (Number_t m HOK.out.lt (mkS sa) _ HNA.out).mono ?_
            rintro e' w7 ⟨rfl, hf7⟩
            have st7 := st6.keep hf7
            clear hf7
            refine ⟨St.less st7 (by simp), ?_⟩
            try simp only [Act.put, List.setIfInBounds_toArray, List.set_cons_zero, List.set_cons_succ]
            refine plan_w (v := ?_) rfl rfl (fun wx => ?_) ?_
            rotate_left 1
            · (go_simp; with_reducible rfl)
            try simp only [Act.put, List.setIfInBounds_toArray, List.set_cons_zero, List.set_cons_succ]
            refine plan_w (v := ?_) rfl rfl (fun wx => ?_) ?_
            rotate_left 1
            · (go_simp; with_reducible rfl)
            try simp only [Act.put, List.setIfInBounds_toArray, List.set_cons_zero, List.set_cons_succ]
            refine plan_w (v := ?_) rfl rfl (fun wx => ?_) ?_
            rotate_left 1
            · (go_simp; with_reducible rfl)
            try simp only [Act.put, List.setIfInBounds_toArray, List.set_cons_zero, List.set_cons_succ]
            refine plan_r rfl rfl ?_
            refine wp_storeS st7 2 rfl rfl rfl rfl (by first | (simp only [cw_len]; done) | (simp only [List.length_append, cw_len]; done)) (by first | (rw [cw_len]; kernel_rfl) | (simp only [List.length_append, cw_len]; kernel_rfl)) (cw_one _ _) ?_
            intro w8 st8
            refine ⟨St.less st8 (by simp), ?_⟩
            try simp only [Act.put]
            refine plan_m rfl rfl ?_
            go_simp
            try simp only [Act.put, List.setIfInBounds_toArray, List.set_cons_zero, List.set_cons_succ]
            refine plan_end ?_
            exact key g17 _ st8
          intro g17 w9 st9
          have st9 : St Nob w w9 [(g5, cw 4 m.M ++ cw 4 (B64 ^ 4 - m.M), 40), (g11, cw 4 dj, 38), (g17, cw 4 (beN (mkS sa).data.toList), 38)] := st9
          clear hd2
          refine NoPanic.normal ?_
          go_wp2_with fail
          refine wp_region_noPanic ?_
          refine wp_region_plan (fun wx => St Nob w wx [(g5, cw 4 m.M ++ cw 4 (B64 ^ 4 - m.M), 40), (g11, cw 4 dj, 38), (g17, cw 4 (beN (mkS sa).data.toList), 38)]) 11 (.t 0 (.w 1 (.w 2 (.w 3 (.t 4 (.b 5 9 (.w 6 (.w 7 (.w 8 (.r 9 (.r 10 (.m 11 .nil)))))) (.r 5 (.w 6 (.w 7 (.w 8 (.r 10 (.m 11 .nil)))))))))))) (by kernel_rfl) (by kernel_rfl) st9.drew (fun _ _ _ _ _ h => h) ?_
          have hd9 := st9.drew
          clear st9
          refine plan_arr rfl rfl rfl rfl (cw 4 m.M ++ cw 4 (B64 ^ 4 - m.M)) (fun wx hS => St.rangeL hS 0 rfl 0 _ (by rw [List.drop_zero, List.take_of_length_le (Nat.le_refl _)])) Try.underlying40 rfl (by first | (rw [cw_len]; kernel_rfl) | (simp only [List.length_append, cw_len]; kernel_rfl)) ?_
          try simp only [Act.put, List.setIfInBounds_toArray, List.set_cons_zero, List.set_cons_succ]
          refine plan_w (v := ?_) rfl rfl (fun wx => ?_) ?_
          rotate_left 1
          · (go_simp; with_reducible rfl)
          try simp only [Act.put, List.setIfInBounds_toArray, List.set_cons_zero, List.set_cons_succ]
          refine plan_w (v := ?_) rfl rfl (fun wx => ?_) ?_
          rotate_left 1
          · (go_simp; with_reducible rfl)
          try simp only [Act.put, List.setIfInBounds_toArray, List.set_cons_zero, List.set_cons_succ]
          refine plan_w (v := ?_) rfl rfl (fun wx => ?_) ?_
          rotate_left 1
          · (go_simp; with_reducible rfl)
          try simp only [Act.put, List.setIfInBounds_toArray, List.set_cons_zero, List.set_cons_succ]
          refine plan_t (v := ?_) rfl rfl (fun wx hS => ?_) ?_
          rotate_left 1
          · (have hcl := rd_cell (HVB.out.still (St.fr hS)) j _ HGB2.out; clear hS; go_simp; with_reducible rfl)
          try simp only [Act.put, List.setIfInBounds_toArray, List.set_cons_zero, List.set_cons_succ]
          refine plan_b (C := fun g19 wz => St Nob w wz [(g5, cw 4 m.M ++ cw 4 (B64 ^ 4 - m.M), 40), (g11, cw 4 dj, 38), (g17, cw 4 (beN (mkS sa).data.toList), 38), (g19, cw 4 (beN (mkS sb).data.toList), 38)]) (F := ?_) rfl rfl rfl rfl (fun key => ?_) (fun key => ?_) ?_
          rotate_left 1
          · skip
            go_simp
            refine (Number_t m HOK.out.lt (mkS sb) _ HNB.out).mono ?_
            rintro e' w10 ⟨rfl, hf10⟩
            have st10 := hd9.keep hf10
            clear hf10
            refine ⟨st10, ?_⟩
            try simp only [Act.put, List.setIfInBounds_toArray, List.set_cons_zero, List.set_cons_succ]
            refine plan_w (v := ?_) rfl rfl (fun wx => ?_) ?_
            rotate_left 1
            · (go_simp; with_reducible rfl)
            try simp only [Act.put, List.setIfInBounds_toArray, List.set_cons_zero, List.set_cons_succ]
            refine plan_w (v := ?_) rfl rfl (fun wx => ?_) ?_
            rotate_left 1
            · (go_simp; with_reducible rfl)
            try simp only [Act.put, List.setIfInBounds_toArray, List.set_cons_zero, List.set_cons_succ]
            refine plan_w (v := ?_) rfl rfl (fun wx => ?_) ?_
            rotate_left 1
            · (go_simp; with_reducible rfl)
            try simp only [Act.put, List.setIfInBounds_toArray, List.set_cons_zero, List.set_cons_succ]
            refine plan_r rfl rfl ?_
            refine wp_allocS st10 rfl (z := .agg #[.int .u64 0, .int .u64 0, .int .u64 0, .int .u64 0]) (by kernel_rfl) (cw 4 0) (by rw [cw_zero]; rfl) ?_
            intro g19 w11 st11
            refine ⟨St.less st11 (by simp), ?_⟩
            try simp only [Act.put, List.setIfInBounds_toArray, List.set_cons_zero, List.set_cons_succ]
            refine plan_r rfl rfl ?_
            refine wp_storeS st11 3 rfl rfl rfl rfl (by first | (simp only [cw_len]; done) | (simp only [List.length_append, cw_len]; done)) (by first | (rw [cw_len]; kernel_rfl) | (simp only [List.length_append, cw_len]; kernel_rfl)) (cw_one _ _) ?_
            intro w12 st12
            refine ⟨St.less st12 (by simp), ?_⟩
            try simp only [Act.put]
            refine plan_m rfl rfl ?_
            go_simp
            try simp only [Act.put, List.setIfInBounds_toArray, List.set_cons_zero, List.set_cons_succ]
            refine plan_end ?_
            exact key g19 _ st12
          · skip
            refine wp_allocS hd9 rfl (z := .agg #[.int .u64 0, .int .u64 0, .int .u64 0, .int .u64 0]) (by kernel_rfl) (cw 4 0) (by rw [cw_zero]; rfl) ?_
            intro g19 w13 st13
            refine ⟨St.less st13 (by simp), ?_⟩
            try simp only [Act.put, List.setIfInBounds_toArray, List.set_cons_zero, List.set_cons_succ]
            refine plan_r rfl rfl ?_
            go_simp
            refine (Number_t m HOK.out.lt (mkS sb) _ HNB.out).mono ?_
            rintro e' w14 ⟨rfl, hf14⟩
            have st14 := st13.keep hf14
            clear hf14
            refine ⟨St.less st14 (by simp), ?_⟩
            try simp only [Act.put, List.setIfInBounds_toArray, List.set_cons_zero, List.set_cons_succ]
            refine plan_w (v := ?_) rfl rfl (fun wx => ?_) ?_
            rotate_left 1
            · (go_simp; with_reducible rfl)
            try simp only [Act.put, List.setIfInBounds_toArray, List.set_cons_zero, List.set_cons_succ]
            refine plan_w (v := ?_) rfl rfl (fun wx => ?_) ?_
            rotate_left 1
            · (go_simp; with_reducible rfl)
            try simp only [Act.put, List.setIfInBounds_toArray, List.set_cons_zero, List.set_cons_succ]
            refine plan_w (v := ?_) rfl rfl (fun wx => ?_) ?_
            rotate_left 1
            · (go_simp; with_reducible rfl)
            try simp only [Act.put, List.setIfInBounds_toArray, List.set_cons_zero, List.set_cons_succ]
            refine plan_r rfl rfl ?_
            refine wp_storeS st14 3 rfl rfl rfl rfl (by first | (simp only [cw_len]; done) | (simp only [List.length_append, cw_len]; done)) (by first | (rw [cw_len]; kernel_rfl) | (simp only [List.length_append, cw_len]; kernel_rfl)) (cw_one _ _) ?_
            intro w15 st15
            refine ⟨St.less st15 (by simp), ?_⟩
            try simp only [Act.put]
            refine plan_m rfl rfl ?_
            go_simp
            try simp only [Act.put, List.setIfInBounds_toArray, List.set_cons_zero, List.set_cons_succ]
            refine plan_end ?_
            exact key g19 _ st15
          intro g19 w16 st16
          have st16 : St Nob w w16 [(g5, cw 4 m.M ++ cw 4 (B64 ^ 4 - m.M), 40), (g11, cw 4 dj, 38), (g17, cw 4 (beN (mkS sa).data.toList), 38), (g19, cw 4 (beN (mkS sb).data.toList), 38)] := st16
          clear hd9
          refine NoPanic.normal ?_
          go_wp2_with fail
          refine wp_region_noPanic ?_
          refine wp_region_plan (fun wx => St Nob w wx [(g5, cw 4 m.M ++ cw 4 (B64 ^ 4 - m.M), 40), (g11, cw 4 dj, 38), (g17, cw 4 (beN (mkS sa).data.toList), 38), (g19, cw 4 (beN (mkS sb).data.toList), 38)]) 7 (.t 0 (.t 1 (.t 2 (.t 3 (.t 4 (.r 5 (.r 6 (.m 7 .nil)))))))) (by kernel_rfl) (by kernel_rfl) st16.drew (fun _ _ _ _ _ h => h) ?_
          have hd16 := st16.drew
          clear st16
          refine plan_arr rfl rfl rfl rfl (cw 4 m.M ++ cw 4 (B64 ^ 4 - m.M)) (fun wx hS => St.rangeL hS 0 rfl 0 _ (by rw [List.drop_zero, List.take_of_length_le (Nat.le_refl _)])) Try.underlying40 rfl (by first | (rw [cw_len]; kernel_rfl) | (simp only [List.length_append, cw_len]; kernel_rfl)) ?_
          try simp only [Act.put, List.setIfInBounds_toArray, List.set_cons_zero, List.set_cons_succ]
          refine plan_arr rfl rfl rfl rfl (cw 4 dj) (fun wx hS => St.rangeL hS 1 rfl 0 _ (by rw [List.drop_zero, List.take_of_length_le (Nat.le_refl _)])) Try.underlying38 rfl (by first | (rw [cw_len]; kernel_rfl) | (simp only [List.length_append, cw_len]; kernel_rfl)) ?_
          try simp only [Act.put, List.setIfInBounds_toArray, List.set_cons_zero, List.set_cons_succ]
          refine plan_arr rfl rfl rfl rfl (cw 4 m.M ++ cw 4 (B64 ^ 4 - m.M)) (fun wx hS => St.rangeL hS 0 rfl 0 _ (by rw [List.drop_zero, List.take_of_length_le (Nat.le_refl _)])) Try.underlying40 rfl (by first | (rw [cw_len]; kernel_rfl) | (simp only [List.length_append, cw_len]; kernel_rfl)) ?_
          try simp only [Act.put, List.setIfInBounds_toArray, List.set_cons_zero, List.set_cons_succ]
          refine plan_arr rfl rfl rfl rfl (cw 4 (beN (mkS sa).data.toList)) (fun wx hS => St.rangeL hS 2 rfl 0 _ (by rw [List.drop_zero, List.take_of_length_le (Nat.le_refl _)])) Try.underlying38 rfl (by first | (rw [cw_len]; kernel_rfl) | (simp only [List.length_append, cw_len]; kernel_rfl)) ?_
          try simp only [Act.put, List.setIfInBounds_toArray, List.set_cons_zero, List.set_cons_succ]
          refine plan_arr rfl rfl rfl rfl (cw 4 (beN (mkS sb).data.toList)) (fun wx hS => St.rangeL hS 3 rfl 0 _ (by rw [List.drop_zero, List.take_of_length_le (Nat.le_refl _)])) Try.underlying38 rfl (by first | (rw [cw_len]; kernel_rfl) | (simp only [List.length_append, cw_len]; kernel_rfl)) ?_
          try simp only [Act.put, List.setIfInBounds_toArray, List.set_cons_zero, List.set_cons_succ]
          refine plan_r rfl rfl ?_
          go_simp
          refine (Mul_any m.M (beN (mkS sa).data.toList) (beN (mkS sb).data.toList) _ HM0.out HOK.out.lt HLA.out HLB.out).mono ?_
          rintro e' w17 ⟨rfl, hf17⟩
          have st17 := hd16.keep hf17
          clear hf17
          clear hd16
          refine ⟨st17, ?_⟩
          try simp only [Act.put, List.setIfInBounds_toArray, List.set_cons_zero, List.set_cons_succ]
          refine plan_r rfl rfl ?_
          go_simp
          refine (Add_any m.M dj (beN (mkS sa).data.toList * beN (mkS sb).data.toList % m.M) _ HM0.out HOK.out.lt HDL.out HPL.out).mono ?_
          rintro e' w18 ⟨rfl, hf18⟩
          have st18 := st17.keep hf18
          clear hf18
          clear st17
          refine ⟨st18, ?_⟩
          try simp only [Act.put, List.setIfInBounds_toArray, List.set_cons_zero, List.set_cons_succ]
          refine plan_m rfl rfl ?_
          refine wp_storeS st18 1 rfl rfl rfl rfl (by first | (simp only [cw_len]; done) | (simp only [List.length_append, cw_len]; done)) (by first | (rw [cw_len]; kernel_rfl) | (simp only [List.length_append, cw_len]; kernel_rfl)) (cw_one _ _) ?_
          intro w19 st19
          clear st18
          try simp only [Act.put]
          refine plan_end ?_
          refine NoPanic.normal ?_
          go_wp2
          go_roundw
          case rel => exact ⟨j + 1, by omega, by go_num, by rw [← HSUM.out]; exact St.less st19 (by simp)⟩
          case measure => simp [intOf]; omega
        · have hgej : ¬ ((j : Int) < (la.length : Int)) := by omega
          have hj2 : j = la.length := by omega
          rw [hj2] at st2
          clear hj2
          go_wp2_with (with_reducible refine wl_stop (o := ⟨some 120, _, _, _, _, _⟩) ?_)
          refine wl_loadS st2 1 rfl rfl rfl Try.underlying38 rfl (by first | (rw [cw_len]; kernel_rfl) | (simp only [List.length_append, cw_len]; kernel_rfl)) ?_
          go_wp2_with fail
          refine (told_ok av 32 cv (dotN la lb la.length % m.M) _ (HRD.out.still st2.fr)).mono ?_
          rintro e' w90 ⟨rfl, hf90⟩
          have hfr := st2.fr.then hf90
          clear st2 hf90
          go_wp2_with fail
          go_ret
          exact ⟨rfl, hfr⟩
end Go.Proofs.Ytmegaegedlbckaa

/- The reference's Apart: of lists that lie apart it returns true. -/
namespace Go.Proofs.Ytmegaegedlbckaa
open Go.RowKit Go.Mv Mvp
attribute [local irreducible] permS permP toB turnsK squeeze permN permB spongeB feed frameL framesL tagL leafL nodeL

/-- each byte one more -/
def inc (l : List UInt8) : List UInt8 := l.map (· + 1)
theorem inc_len (l : List UInt8) : (inc l).length = l.length := by simp [inc]
/-- the first i lists are incremented, of the next one the first j bytes -/
def incd (ls : List (List UInt8)) (i j : Nat) : List (List UInt8) := (ls.take i).map inc ++ ((fill (inc (ls.getD i [])) (ls.getD i []) j) :: ls.drop (i + 1)).take (ls.length - i)
theorem incd_zero (ls : List (List UInt8)) : incd ls 0 0 = ls := by
  cases ls with
  | nil => rfl
  | cons a l => simp [incd, fill_zero]
theorem incd_next (ls : List (List UInt8)) (i : Nat) (hi : i < ls.length) : incd ls i (ls.getD i []).length = incd ls (i + 1) 0 := by
  unfold incd
  rw [fill_all _ _ _ (inc_len _) (by rw [inc_len]; exact Nat.le_refl _), fill_zero, List.take_succ_eq_append_getElem hi, List.map_append, List.append_assoc]
  congr 1
  have e : ls.getD i [] = ls[i] := by simp [List.getD_eq_getElem?_getD, hi]
  rw [e, show ls.length - i = (ls.length - i - 1) + 1 by omega, List.take_succ_cons]
  simp only [List.map_cons, List.map_nil, List.singleton_append]
  congr 1
  rw [List.take_of_length_le (by rw [List.length_drop]; omega)]
  rcases Nat.lt_or_ge (i + 1) ls.length with h | h
  · have e2 : ls.getD (i + 1) [] = ls[i + 1] := by simp [List.getD_eq_getElem?_getD, h]
    rw [e2, ← List.drop_eq_getElem_cons h, List.take_of_length_le (by rw [List.length_drop]; omega)]
  · rw [List.drop_eq_nil_of_le h, show ls.length - (i + 1) = 0 by omega]; rfl
theorem incd_all (ls : List (List UInt8)) : incd ls ls.length 0 = ls.map inc := by
  unfold incd
  rw [Nat.sub_self, List.take_zero, List.append_nil, List.take_length]
theorem incd_len (ls : List (List UInt8)) (i j : Nat) (hi : i ≤ ls.length) : (incd ls i j).length = ls.length := by
  unfold incd
  rw [List.length_append, List.length_map, List.length_take, List.length_take, List.length_cons, List.length_drop]
  omega
theorem incd_set (ls : List (List UInt8)) (i j : Nat) (hi : i < ls.length) (hj : j < (ls.getD i []).length) : (incd ls i j).set i ((fill (inc (ls.getD i [])) (ls.getD i []) j).set j ((inc (ls.getD i [])).getD j 0)) = incd ls i (j + 1) := by
  unfold incd
  rw [fill_set _ _ _ (inc_len _) (by rw [inc_len]; exact hj)]
  have e : ((ls.take i).map inc).length = i := by rw [List.length_map, List.length_take]; omega
  rw [List.set_append_right _ _ (by omega), e, Nat.sub_self, show ls.length - i = (ls.length - i - 1) + 1 by omega, List.take_succ_cons, List.take_succ_cons, List.set_cons_zero]
theorem incd_get (ls : List (List UInt8)) (i j : Nat) (hi : i < ls.length) : (incd ls i j)[i]? = some (fill (inc (ls.getD i [])) (ls.getD i []) j) := by
  unfold incd
  have e : ((ls.take i).map inc).length = i := by rw [List.length_map, List.length_take]; omega
  rw [List.getElem?_append_right (by omega), e, Nat.sub_self, show ls.length - i = (ls.length - i - 1) + 1 by omega, List.take_succ_cons]
  rfl

theorem Sep.ne {vs : List Value} (h : Sep vs) {i j : Nat} {a b : Value} (hi : vs[i]? = some a) (hj : vs[j]? = some b) (hij : i ≠ j) (k : Nat) (hk : OwnB a k) : ¬ OwnB b k := by
  unfold Sep at h
  rw [List.pairwise_iff_getElem] at h
  obtain ⟨h1, rfl⟩ := List.getElem?_eq_some_iff.1 hi
  obtain ⟨h2, rfl⟩ := List.getElem?_eq_some_iff.1 hj
  rcases Nat.lt_or_gt_of_ne hij with h3 | h3
  · exact h i j h1 h2 h3 k hk
  · exact fun hk' => h j i h2 h1 h3 k hk' hk
theorem POwn.keepAt {w w' : World} {base : Nat} {S : Nat → Prop} (hf : Fr S w w') : ∀ {vs : List Value} {ls : List (List UInt8)}, POwn w base vs ls → (∀ (j : Nat) (v : Value), vs[j]? = some v → ∀ k, OwnB v k → ¬ S k) → POwn w' base vs ls
  | [], [], _, _ => trivial
  | v :: vs, l :: ls, h, hs => ⟨h.1.keep hf (hs 0 v rfl), POwn.keepAt hf h.2 (fun j u hu => hs (j + 1) u (by simpa using hu))⟩
  | [], _ :: _, h, _ => h.elim
  | _ :: _, [], h, _ => h.elim
/-- one of the lists has turned -/
theorem POwn.upd {w w' : World} {base : Nat} {S : Nat → Prop} (hf : Fr S w w') : ∀ {vs : List Value} {ls : List (List UInt8)} (i : Nat) (l' : List UInt8), POwn w base vs ls → (∀ v, vs[i]? = some v → Own w' base 5 1 v l'.length (bs l')) → (∀ (j : Nat) (v : Value), j ≠ i → vs[j]? = some v → ∀ k, OwnB v k → ¬ S k) → POwn w' base vs (ls.set i l')
  | [], [], i, l', _, _, _ => trivial
  | v :: vs, l :: ls, 0, l', h, hv, hs => ⟨hv v rfl, POwn.keepAt hf h.2 (fun j u hu => hs (j + 1) u (by omega) (by simpa using hu))⟩
  | v :: vs, l :: ls, i + 1, l', h, hv, hs => ⟨h.1.keep hf (hs 0 v (by omega) rfl), POwn.upd hf i l' h.2 (fun u hu => hv u (by simpa using hu)) (fun j u hj hu => hs (j + 1) u (by omega) (by simpa using hu))⟩
  | [], _ :: _, _, _, h, _, _ => h.elim
  | _ :: _, [], _, _, h, _, _ => h.elim
end Go.Proofs.Ytmegaegedlbckaa
