/- (mintvaultref2.F).Less: a number of eight words modulo the prime. -/
import Derived.Test.YtmegaegedlbckaaNm5
import Derived.Test.YtmegaegedlbckaaTail
namespace Go.Proofs.Ytmegaegedlbckaa
open Go.RowKit Go.Mv Mvp
attribute [local irreducible] limbs lw mix cw cSub cAdd cMul foldC valFrom

/-- the prime and what it is less than 2^256, by value -/
def fv (p : Nat) : Value := .agg (cw 4 p ++ cw 4 (B64 ^ 4 - p)).toArray
theorem size_n : (Try.prog.info? 38).map (·.size) = some 4 := by kernel_rfl
theorem size_wide : (Try.prog.info? 74).map (·.size) = some 8 := by kernel_rfl

set_option maxHeartbeats 4000000 in
set_option maxRecDepth 100000 in
theorem Less_any (p V0 : Nat) (w : World) (hp0 : 0 < p) (hp : p < B64 ^ 4) (hV0 : V0 < B64 ^ 8) :
    Calls Try.prog 41 #[fv p, i8 V0] w fun e w' => e = .returned (i4 (V0 % p)) ∧ Fr Nob w w' := by
  have HP := Lib.hid hp; clear hp
  have HP0 := Lib.hid hp0; clear hp0
  have HV0 := Lib.hid hV0; clear hV0
  have st0 := St.start Nob w
  go_enter Try.func41, Try.ntmps41
  go_wp2_with (with_reducible refine wl_stop (o := ⟨some 2, _, _, _, _, _⟩) ?_)
  refine wl_boxS st0 rfl rfl rfl (cw 4 p ++ cw 4 (B64 ^ 4 - p)) rfl ?_
  intro g2 w1 st1
  clear st0
  go_wp2_with (with_reducible refine wl_stop (o := ⟨some 3, _, _, _, _, _⟩) ?_)
  refine wl_boxS st1 rfl rfl rfl (cw 8 V0) rfl ?_
  intro g3 w2 st2
  clear st1
  go_wp2_with (with_reducible refine wl_stop (o := ⟨some 4, _, _, _, _, _⟩) ?_)
  refine wl_allocS st2 rfl rfl (z := .agg #[.int .u64 0, .int .u64 0, .int .u64 0, .int .u64 0]) (by kernel_rfl) (cw 4 0) (by rw [cw_zero]; rfl) ?_
  intro g4 w3 st3
  clear st2
  go_wp2
  go_frame
  go_loopw [8] (fun _ wr => ∃ V : Nat, V < B64 ^ 8 ∧ V % p = V0 % p ∧ St Nob w wr [(g2, cw 4 p ++ cw 4 (B64 ^ 4 - p), 40), (g3, cw 8 V, 74), (g4, cw 4 0, 38)]) (fun _ wr => valFrom wr g3 0 8)
  case atStart => exact ⟨V0, HV0.out, rfl, st3⟩
  case round =>
    obtain ⟨V, hV, hVm, st⟩ := hrel
    clear st3
    have HV := Lib.hid hV; clear hV
    have HVM := Lib.hid hVm; clear hVm
    have c0 := (st.at 1 rfl).cell (cw_get 8 V 0 (by decide))
    have c1 := (st.at 1 rfl).cell (cw_get 8 V 1 (by decide))
    have c2 := (st.at 1 rfl).cell (cw_get 8 V 2 (by decide))
    have c3 := (st.at 1 rfl).cell (cw_get 8 V 3 (by decide))
    have c4 := (st.at 1 rfl).cell (cw_get 8 V 4 (by decide))
    have c5 := (st.at 1 rfl).cell (cw_get 8 V 5 (by decide))
    have c6 := (st.at 1 rfl).cell (cw_get 8 V 6 (by decide))
    have c7 := (st.at 1 rfl).cell (cw_get 8 V 7 (by decide))
    have l4 := lw_lt V 4
    have l5 := lw_lt V 5
    have l6 := lw_lt V 6
    have l7 := lw_lt V 7
    have o1 := bits_or_u64_nat _ _ l4 l5
    have o2 := bits_or_u64_nat _ _ (Nat.or_lt_two_pow (n := 64) l4 l5) l6
    have o3 := bits_or_u64_nat _ _ (Nat.or_lt_two_pow (n := 64) (Nat.or_lt_two_pow (n := 64) l4 l5) l6) l7
    have htz := top_zero V HV.out
    generalize hor : (lw V 4 ||| lw V 5 ||| lw V 6 ||| lw V 7) = o at *
    have HOR := Lib.hid hor; clear hor
    clear l4 l5 l6 l7
    by_cases hz : o = 0
    · have hb : ((o : Int) != 0) = false := by subst hz; rfl
      have hD := htz.1 hz
      clear htz hz
      have HD := Lib.hid hD; clear hD
      have hV4 : V < B64 ^ 4 := by
        have h1 := Nat.div_add_mod V (B64 ^ 4)
        rw [HD.out, Nat.mul_zero, Nat.zero_add] at h1
        rw [← h1]; exact Nat.mod_lt _ (b64_pos 4)
      have HV4 := Lib.hid hV4; clear hV4
      go_wp2_with fail
      clear c0 c1 c2 c3 c4 c5 c6 c7 o1 o2 o3 hb
      have st5 := st.new ((Fr.refl Nob wr).alloc (Obj.cells #[Value.int IntKind.u64 ↑(lw V 0), Value.int IntKind.u64 ↑(lw V 1), Value.int IntKind.u64 ↑(lw V 2), Value.int IntKind.u64 ↑(lw V 3)] 38)) (has_new4 wr V 38) (Nat.le_refl _)
      clear st
      generalize wr.alloc (Obj.cells #[Value.int IntKind.u64 ↑(lw V 0), Value.int IntKind.u64 ↑(lw V 1), Value.int IntKind.u64 ↑(lw V 2), Value.int IntKind.u64 ↑(lw V 3)] 38) = w5 at *
      generalize wr.heap.size = g5 at *
      go_loopw [52] (fun _ wx => ∃ U : Nat, U < B64 ^ 4 ∧ U % p = V0 % p ∧ St Nob w wx [(g2, cw 4 p ++ cw 4 (B64 ^ 4 - p), 40), (g4, cw 4 0, 38), (g5, cw 4 U, 38)]) (fun _ wx => valFrom wx g5 0 4)
      case atStart => exact ⟨V, HV4.out, HVM.out, st5.less (by simp)⟩
      case round =>
        obtain ⟨U, hU, hUm, st⟩ := hrel
        clear st5
        have HU := Lib.hid hU; clear hU
        have HUM := Lib.hid hUm; clear hUm
        have hvu := valFrom_all (st.at 2 rfl) HU.out
        have HVU := Lib.hid hvu; clear hvu
        go_wp2_with (with_reducible refine wl_stop (o := ⟨some 52, _, _, _, _, _⟩) ?_)
        refine wl_loadS st 2 rfl rfl rfl Try.underlying38 rfl (by rw [cw_len]; exact size_n) ?_
        go_wp2_with (with_reducible refine wl_stop (o := ⟨some 54, _, _, _, _, _⟩) ?_)
        refine wl_loadA rfl rfl Try.underlying38 rfl (st.at 0 rfl) (cw 4 p) (cw_left 4 4 _ _) (by rw [cw_len]; exact size_n) ?_
        go_wp2_with fail
        have hcs := cSub_all U p 4 HU.out HP.out
        refine (less_any U p _ HP.out).mono ?_
        rintro e' w6 ⟨rfl, hf6⟩
        have st6 := st.keep hf6
        clear st hf6
        by_cases hlt : U < p
        · rw [if_pos hlt] at hcs
          rw [hcs]
          have hm : U = V0 % p := by rw [← HUM.out, Nat.mod_eq_of_lt hlt]
          have HM := Lib.hid hm
          clear hm hcs hlt
          go_wp2_with (with_reducible refine wl_stop (o := ⟨some 6, _, _, _, _, _⟩) ?_)
          refine wl_allocS st6 rfl rfl (z := .agg #[.int .u64 0, .int .u64 0, .int .u64 0, .int .u64 0]) (by kernel_rfl) (cw 4 0) (by rw [cw_zero]; rfl) ?_
          intro g6 w7 st7
          clear st6
          go_wp2_with (with_reducible refine wl_stop (o := ⟨none, _, _, _, _, _⟩) ?_)
          refine wl_storeS st7 3 rfl rfl rfl rfl rfl (by rw [cw_len, cw_len]) (by rw [cw_len]; exact size_n) (cw_one _ _) ?_
          intro w8 st8
          clear st7
          go_wp2_with (with_reducible refine wl_stop (o := ⟨some 60, _, _, _, _, _⟩) ?_)
          refine wl_loadS st8 2 rfl rfl rfl Try.underlying38 rfl (by rw [cw_len]; exact size_n) ?_
          go_wp2_with (with_reducible refine wl_stop (o := ⟨none, _, _, _, _, _⟩) ?_)
          refine wl_storeS st8 1 rfl rfl rfl rfl rfl (by rw [cw_len, cw_len]) (by rw [cw_len]; exact size_n) (cw_one _ _) ?_
          intro w9 st9
          clear st8
          have hd9 := st9.at 1 rfl
          rw [HM.out] at hd9
          have hf9 := st9.fr
          clear st9
          go_wp2
          exact bodyPost_ret (results_arr rfl rfl hd9 Try.underlying38 (by rw [cw_len]; exact size_n)) rfl ⟨rfl, hf9⟩
        · rw [if_neg hlt] at hcs
          rw [hcs]
          have e1 : cw 4 (U + B64 ^ 4 - p) = cw 4 (U - p) := by
            rw [← cw_mod, show U + B64 ^ 4 - p = (U - p) + B64 ^ 4 by omega, Nat.add_mod_right, cw_mod]
          have hm : (U - p) % p = V0 % p := by rw [← HUM.out, ← Nat.mod_eq_sub_mod (by omega)]
          have HM := Lib.hid hm
          have HE := Lib.hid e1
          have hltU : U - p < U := by have := HP0.out; omega
          have hbU : U - p < B64 ^ 4 := by have := HU.out; omega
          have HLTU := Lib.hid hltU
          have HBU := Lib.hid hbU
          clear hm hcs hlt e1 hltU hbU
          go_wp2_with (with_reducible refine wl_stop (o := ⟨some 6, _, _, _, _, _⟩) ?_)
          refine wl_allocS st6 rfl rfl (z := .agg #[.int .u64 0, .int .u64 0, .int .u64 0, .int .u64 0]) (by kernel_rfl) (cw 4 0) (by rw [cw_zero]; rfl) ?_
          intro g6 w7 st7
          clear st6
          go_wp2_with (with_reducible refine wl_stop (o := ⟨none, _, _, _, _, _⟩) ?_)
          refine wl_storeS st7 3 rfl rfl rfl rfl rfl (by rw [cw_len, cw_len]) (by rw [cw_len]; exact size_n) (cw_one _ _) ?_
          intro w8 st8
          clear st7
          rw [HE.out] at st8
          go_wp2_with (with_reducible refine wl_stop (o := ⟨some 61, _, _, _, _, _⟩) ?_)
          refine wl_loadS st8 3 rfl rfl rfl Try.underlying38 rfl (by rw [cw_len]; exact size_n) ?_
          go_wp2_with (with_reducible refine wl_stop (o := ⟨none, _, _, _, _, _⟩) ?_)
          refine wl_storeS st8 2 rfl rfl rfl rfl rfl (by rw [cw_len, cw_len]) (by rw [cw_len]; exact size_n) (cw_one _ _) ?_
          intro w9 st9
          clear st8
          have hv9 := valFrom_all (st9.at 2 rfl) HBU.out
          have HV9 := Lib.hid hv9; clear hv9
          go_wp2
          refine ⟨?_, ?_⟩
          · ((repeat apply Exists.intro); exact ⟨⟨U - p, HBU.out, HM.out, st9.less (by simp)⟩, rfl⟩)
          · rw [HV9.out, HVU.out]; exact HLTU.out
    · have hb : ((o : Int) != 0) = true := by simp; omega
      have hD := fun h => hz (htz.2 h)
      clear htz hz
      have HD := Lib.hid hD; clear hD
      have hD' : V / B64 ^ 4 ≠ 0 := HD.out
      have hprod := fun wx => productR_any (V / B64 ^ 4) (B64 ^ 4 - p) wx (Nat.div_lt_of_lt_mul (by rw [← Nat.pow_add]; exact HV.out)) (by have := HP0.out; have := b64_pos 4; omega)
      rw [i4_high] at hprod
      have hplus := fun wx => plusR_any (V / B64 ^ 4 * (B64 ^ 4 - p)) (V % B64 ^ 4) wx
      rw [i8_low] at hplus
      have hlt := foldC_lt (B64 ^ 4 - p) V (by have := HP0.out; have := b64_pos 4; omega) hD'
      have hmod := foldC_mod p (B64 ^ 4 - p) V (by have := HP.out; omega)
      have e : V / B64 ^ 4 * (B64 ^ 4 - p) + V % B64 ^ 4 = foldC (B64 ^ 4 - p) V := by unfold foldC; rfl
      rw [e] at hplus
      generalize foldC (B64 ^ 4 - p) V = V' at *
      clear e hD'
      have mks : ∀ wx, St Nob w wx [(g2, cw 4 p ++ cw 4 (B64 ^ 4 - p), 40), (g3, cw 8 V, 74), (g4, cw 4 0, 38)] →
          wx.cell? ⟨g3, 0, none⟩ = some (.int .u64 (lw V 0 : Nat)) ∧ wx.cell? ⟨g3, 1, none⟩ = some (.int .u64 (lw V 1 : Nat)) ∧ wx.cell? ⟨g3, 2, none⟩ = some (.int .u64 (lw V 2 : Nat)) ∧ wx.cell? ⟨g3, 3, none⟩ = some (.int .u64 (lw V 3 : Nat)) ∧
          wx.cell? ⟨g3, 4, none⟩ = some (.int .u64 (lw V 4 : Nat)) ∧ wx.cell? ⟨g3, 5, none⟩ = some (.int .u64 (lw V 5 : Nat)) ∧ wx.cell? ⟨g3, 6, none⟩ = some (.int .u64 (lw V 6 : Nat)) ∧ wx.cell? ⟨g3, 7, none⟩ = some (.int .u64 (lw V 7 : Nat)) := fun wx h =>
        ⟨(h.at 1 rfl).cell (cw_get 8 V 0 (by decide)), (h.at 1 rfl).cell (cw_get 8 V 1 (by decide)), (h.at 1 rfl).cell (cw_get 8 V 2 (by decide)), (h.at 1 rfl).cell (cw_get 8 V 3 (by decide)),
          (h.at 1 rfl).cell (cw_get 8 V 4 (by decide)), (h.at 1 rfl).cell (cw_get 8 V 5 (by decide)), (h.at 1 rfl).cell (cw_get 8 V 6 (by decide)), (h.at 1 rfl).cell (cw_get 8 V 7 (by decide))⟩
      have hvv := valFrom_all (st.at 1 rfl) HV.out
      have HVV := Lib.hid hvv
      clear hvv
      have MKS := Lib.hid mks
      have HPROD := Lib.hid hprod
      have HPLUS := Lib.hid hplus
      have HLT := Lib.hid hlt
      have HMOD := Lib.hid hmod
      clear mks hprod hplus hlt hmod
      go_wp2_with fail
      clear c0 c1 c2 c3 c4 c5 c6 c7 o1 o2 o3 hb
      refine wp_region_noPanic ?_
      refine wp_region_seq (fun wx => St Nob w wx [(g2, cw 4 p ++ cw 4 (B64 ^ 4 - p), 40), (g3, cw 8 V, 74), (g4, cw 4 0, 38)]) 22 [(0, true), (1, true), (2, true), (3, true), (4, true), (5, true), (6, true), (7, true), (8, true), (9, true), (10, true), (12, true), (13, true), (14, true), (15, true), (16, true), (17, true), (18, true), (19, true), (20, true), (11, false), (21, false)] (by kernel_rfl) (by kernel_rfl) st.drew (fun _ _ _ _ _ h => h) ?_
      refine seq_pure (v := ?_) rfl rfl (fun wx hS => ?_) ?_
      rotate_left 1
      · (have hc := MKS.out wx hS; obtain ⟨d0, d1, d2, d3, d4, d5, d6, d7⟩ := hc; clear hS; go_simp; with_reducible rfl)
      try simp only [Act.put, List.setIfInBounds_toArray, List.set_cons_zero, List.set_cons_succ]
      refine seq_pure (v := ?_) rfl rfl (fun wx hS => ?_) ?_
      rotate_left 1
      · (have hc := MKS.out wx hS; obtain ⟨d0, d1, d2, d3, d4, d5, d6, d7⟩ := hc; clear hS; go_simp; with_reducible rfl)
      try simp only [Act.put, List.setIfInBounds_toArray, List.set_cons_zero, List.set_cons_succ]
      refine seq_pure (v := ?_) rfl rfl (fun wx hS => ?_) ?_
      rotate_left 1
      · (have hc := MKS.out wx hS; obtain ⟨d0, d1, d2, d3, d4, d5, d6, d7⟩ := hc; clear hS; go_simp; with_reducible rfl)
      try simp only [Act.put, List.setIfInBounds_toArray, List.set_cons_zero, List.set_cons_succ]
      refine seq_pure (v := ?_) rfl rfl (fun wx hS => ?_) ?_
      rotate_left 1
      · (have hc := MKS.out wx hS; obtain ⟨d0, d1, d2, d3, d4, d5, d6, d7⟩ := hc; clear hS; go_simp; with_reducible rfl)
      try simp only [Act.put, List.setIfInBounds_toArray, List.set_cons_zero, List.set_cons_succ]
      refine seq_pure (v := ?_) rfl rfl (fun wx hS => ?_) ?_
      rotate_left 1
      · (have hc := MKS.out wx hS; obtain ⟨d0, d1, d2, d3, d4, d5, d6, d7⟩ := hc; clear hS; go_simp; with_reducible rfl)
      try simp only [Act.put, List.setIfInBounds_toArray, List.set_cons_zero, List.set_cons_succ]
      refine seq_pure (v := ?_) rfl rfl (fun wx hS => ?_) ?_
      rotate_left 1
      · (have hc := MKS.out wx hS; obtain ⟨d0, d1, d2, d3, d4, d5, d6, d7⟩ := hc; clear hS; go_simp; with_reducible rfl)
      try simp only [Act.put, List.setIfInBounds_toArray, List.set_cons_zero, List.set_cons_succ]
      refine seq_pure (v := ?_) rfl rfl (fun wx hS => ?_) ?_
      rotate_left 1
      · (have hc := MKS.out wx hS; obtain ⟨d0, d1, d2, d3, d4, d5, d6, d7⟩ := hc; clear hS; go_simp; with_reducible rfl)
      try simp only [Act.put, List.setIfInBounds_toArray, List.set_cons_zero, List.set_cons_succ]
      refine seq_pure (v := ?_) rfl rfl (fun wx hS => ?_) ?_
      rotate_left 1
      · (have hc := MKS.out wx hS; obtain ⟨d0, d1, d2, d3, d4, d5, d6, d7⟩ := hc; clear hS; go_simp; with_reducible rfl)
      try simp only [Act.put, List.setIfInBounds_toArray, List.set_cons_zero, List.set_cons_succ]
      refine seq_pure (v := ?_) rfl rfl (fun wx hS => ?_) ?_
      rotate_left 1
      · (have hc := MKS.out wx hS; obtain ⟨d0, d1, d2, d3, d4, d5, d6, d7⟩ := hc; clear hS; go_simp; with_reducible rfl)
      try simp only [Act.put, List.setIfInBounds_toArray, List.set_cons_zero, List.set_cons_succ]
      refine seq_pure (v := ?_) rfl rfl (fun wx hS => ?_) ?_
      rotate_left 1
      · (have hc := MKS.out wx hS; obtain ⟨d0, d1, d2, d3, d4, d5, d6, d7⟩ := hc; clear hS; go_simp; with_reducible rfl)
      try simp only [Act.put, List.setIfInBounds_toArray, List.set_cons_zero, List.set_cons_succ]
      refine seq_arr rfl rfl rfl rfl (cw 4 (B64 ^ 4 - p)) (fun wx hS => St.rangeL hS 0 rfl 4 _ (cw_right 4 4 _ _)) Try.underlying38 rfl (by rw [cw_len]; exact size_n) ?_
      try simp only [Act.put, List.setIfInBounds_toArray, List.set_cons_zero, List.set_cons_succ]
      refine seq_pure (v := ?_) rfl rfl (fun wx hS => ?_) ?_
      rotate_left 1
      · (have hc := MKS.out wx hS; obtain ⟨d0, d1, d2, d3, d4, d5, d6, d7⟩ := hc; clear hS; go_simp; with_reducible rfl)
      try simp only [Act.put, List.setIfInBounds_toArray, List.set_cons_zero, List.set_cons_succ]
      refine seq_pure (v := ?_) rfl rfl (fun wx hS => ?_) ?_
      rotate_left 1
      · (have hc := MKS.out wx hS; obtain ⟨d0, d1, d2, d3, d4, d5, d6, d7⟩ := hc; clear hS; go_simp; with_reducible rfl)
      try simp only [Act.put, List.setIfInBounds_toArray, List.set_cons_zero, List.set_cons_succ]
      refine seq_pure (v := ?_) rfl rfl (fun wx hS => ?_) ?_
      rotate_left 1
      · (have hc := MKS.out wx hS; obtain ⟨d0, d1, d2, d3, d4, d5, d6, d7⟩ := hc; clear hS; go_simp; with_reducible rfl)
      try simp only [Act.put, List.setIfInBounds_toArray, List.set_cons_zero, List.set_cons_succ]
      refine seq_pure (v := ?_) rfl rfl (fun wx hS => ?_) ?_
      rotate_left 1
      · (have hc := MKS.out wx hS; obtain ⟨d0, d1, d2, d3, d4, d5, d6, d7⟩ := hc; clear hS; go_simp; with_reducible rfl)
      try simp only [Act.put, List.setIfInBounds_toArray, List.set_cons_zero, List.set_cons_succ]
      refine seq_pure (v := ?_) rfl rfl (fun wx hS => ?_) ?_
      rotate_left 1
      · (have hc := MKS.out wx hS; obtain ⟨d0, d1, d2, d3, d4, d5, d6, d7⟩ := hc; clear hS; go_simp; with_reducible rfl)
      try simp only [Act.put, List.setIfInBounds_toArray, List.set_cons_zero, List.set_cons_succ]
      refine seq_pure (v := ?_) rfl rfl (fun wx hS => ?_) ?_
      rotate_left 1
      · (have hc := MKS.out wx hS; obtain ⟨d0, d1, d2, d3, d4, d5, d6, d7⟩ := hc; clear hS; go_simp; with_reducible rfl)
      try simp only [Act.put, List.setIfInBounds_toArray, List.set_cons_zero, List.set_cons_succ]
      refine seq_pure (v := ?_) rfl rfl (fun wx hS => ?_) ?_
      rotate_left 1
      · (have hc := MKS.out wx hS; obtain ⟨d0, d1, d2, d3, d4, d5, d6, d7⟩ := hc; clear hS; go_simp; with_reducible rfl)
      try simp only [Act.put, List.setIfInBounds_toArray, List.set_cons_zero, List.set_cons_succ]
      refine seq_pure (v := ?_) rfl rfl (fun wx hS => ?_) ?_
      rotate_left 1
      · (have hc := MKS.out wx hS; obtain ⟨d0, d1, d2, d3, d4, d5, d6, d7⟩ := hc; clear hS; go_simp; with_reducible rfl)
      try simp only [Act.put, List.setIfInBounds_toArray, List.set_cons_zero, List.set_cons_succ]
      refine seq_pure (v := ?_) rfl rfl (fun wx hS => ?_) ?_
      rotate_left 1
      · (have hc := MKS.out wx hS; obtain ⟨d0, d1, d2, d3, d4, d5, d6, d7⟩ := hc; clear hS; go_simp; with_reducible rfl)
      try simp only [Act.put, List.setIfInBounds_toArray, List.set_cons_zero, List.set_cons_succ]
      refine seq_run rfl rfl ?_
      go_simp
      refine (HPROD.out _).mono ?_
      rintro e' w9 ⟨rfl, hf9⟩
      refine ⟨st.drew.keep hf9, ?_⟩
      try simp only [Act.put, List.setIfInBounds_toArray, List.set_cons_zero, List.set_cons_succ]
      refine seq_run rfl rfl ?_
      go_simp
      refine (HPLUS.out _).mono ?_
      rintro e' w10 ⟨rfl, hf10⟩
      refine ⟨(st.drew.keep hf9).keep hf10, ?_⟩
      try simp only [Act.put, List.setIfInBounds_toArray, List.set_cons_zero, List.set_cons_succ]
      refine seq_end ?_
      try simp only [List.drop_succ_cons, List.drop_zero]
      have st10 := (st.drew.keep hf9).keep hf10
      clear st hf9 hf10
      refine wl_storeS st10 1 rfl rfl rfl rfl rfl (by rw [cw_len, cw_len]) (by rw [cw_len]; exact size_wide) (cw_one _ _) ?_
      intro w11 st11
      have hv11 := valFrom_all (st11.at 1 rfl) (Nat.lt_trans HLT.out HV.out)
      clear st10
      go_wp2
      refine NoPanic.normal ?_
      refine ⟨?_, ?_⟩
      · ((repeat apply Exists.intro); exact ⟨⟨V', Nat.lt_trans HLT.out HV.out, HMOD.out.trans HVM.out, st11⟩, rfl⟩)
      · rw [hv11, HVV.out]; exact HLT.out
end Go.Proofs.Ytmegaegedlbckaa
