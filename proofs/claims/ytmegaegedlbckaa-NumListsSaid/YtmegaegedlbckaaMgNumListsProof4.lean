/- (mintvaultref2.F).Less: a number of eight words modulo the prime; The reference's F: Mul, Add, Neg, Sub; N: Zero, Below, Bit, Small; Plain numbers: bytes, the highest first; bits. -/
import Derived.Test.YtmegaegedlbckaaMgNumListsProof3
import Derived.Test.YtmegaegedlbckaaMgNumListsProof2
import Derived.Test.YtmegaegedlbckaaMgNumListsProof1
namespace Go.Proofs.Ytmegaegedlbckaa
open Go.RowKit Go.Mv Mvp
attribute [local irreducible] limbs lw mix cw cSub cAdd cMul foldC valFrom

/-- the prime and what it is less than 2^256, by value -/
def fv (p : Nat) : Value := .agg (cw 4 p ++ cw 4 (B64 ^ 4 - p)).toArray
theorem size_n : (Try.prog.info? 38).map (·.size) = some 4 := by kernel_rfl
theorem size_wide : (Try.prog.info? 74).map (·.size) = some 8 := by kernel_rfl

set_option maxHeartbeats 4000000 in
set_option maxRecDepth 100000 in
theorem Less_any (p V0 : Nat) (w : World) (hp0 : 0 < p) (hp : p < B64 ^ 4) (hV0 : V0 < B64 ^ 8) :
    Calls Try.prog 41 #[fv p, i8 V0] w fun e w' => e = .returned (i4 (V0 % p)) ∧ Fr Nob w w' := by
  have HP := Lib.hid hp; clear hp
  have HP0 := Lib.hid hp0; clear hp0
  have HV0 := Lib.hid hV0; clear hV0
  have st0 := St.start Nob w
  go_enter Try.func41, Try.ntmps41
  go_wp2_with (with_reducible refine wl_stop (o := ⟨some 2, _, _, _, _, _⟩) ?_)
  refine wl_boxS st0 rfl rfl rfl (cw 4 p ++ cw 4 (B64 ^ 4 - p)) rfl ?_
  intro g2 w1 st1
  clear st0
  go_wp2_with (with_reducible refine wl_stop (o := ⟨some 3, _, _, _, _, _⟩) ?_)
  refine wl_boxS st1 rfl rfl rfl (cw 8 V0) rfl ?_
  intro g3 w2 st2
  clear st1
  go_wp2_with (with_reducible refine wl_stop (o := ⟨some 4, _, _, _, _, _⟩) ?_)
  refine wl_allocS st2 rfl rfl (z := .agg #[.int .u64 0, .int .u64 0, .int .u64 0, .int .u64 0]) (by kernel_rfl) (cw 4 0) (by rw [cw_zero]; rfl) ?_
  intro g4 w3 st3
  clear st2
  go_wp2
  go_frame
  go_loopw [8] (fun _ wr => ∃ V : Nat, V < B64 ^ 8 ∧ V % p = V0 % p ∧ St Nob w wr [(g2, cw 4 p ++ cw 4 (B64 ^ 4 - p), 40), (g3, cw 8 V, 74), (g4, cw 4 0, 38)]) (fun _ wr => valFrom wr g3 0 8)
  case atStart => exact ⟨V0, HV0.out, rfl, st3⟩
  case round =>
    obtain ⟨V, hV, hVm, st⟩ := hrel
    clear st3
    have HV := Lib.hid hV; clear hV
    have HVM := Lib.hid hVm; clear hVm
    have c0 := (st.at 1 rfl).cell (cw_get 8 V 0 (by decide))
    have c1 := (st.at 1 rfl).cell (cw_get 8 V 1 (by decide))
    have c2 := (st.at 1 rfl).cell (cw_get 8 V 2 (by decide))
    have c3 := (st.at 1 rfl).cell (cw_get 8 V 3 (by decide))
    have c4 := (st.at 1 rfl).cell (cw_get 8 V 4 (by decide))
    have c5 := (st.at 1 rfl).cell (cw_get 8 V 5 (by decide))
    have c6 := (st.at 1 rfl).cell (cw_get 8 V 6 (by decide))
    have c7 := (st.at 1 rfl).cell (cw_get 8 V 7 (by decide))
    have l4 := lw_lt V 4
    have l5 := lw_lt V 5
    have l6 := lw_lt V 6
    have l7 := lw_lt V 7
    have o1 := bits_or_u64_nat _ _ l4 l5
    have o2 := bits_or_u64_nat _ _ (Nat.or_lt_two_pow (n := 64) l4 l5) l6
    have o3 := bits_or_u64_nat _ _ (Nat.or_lt_two_pow (n := 64) (Nat.or_lt_two_pow (n := 64) l4 l5) l6) l7
    have htz := top_zero V HV.out
    generalize hor : (lw V 4 ||| lw V 5 ||| lw V 6 ||| lw V 7) = o at *
    have HOR := Lib.hid hor; clear hor
    clear l4 l5 l6 l7
    by_cases hz : o = 0
    · have hb : ((o : Int) != 0) = false := by subst hz; rfl
      have hD := htz.1 hz
      clear htz hz
      have HD := Lib.hid hD; clear hD
      have hV4 : V < B64 ^ 4 := by
        have h1 := Nat.div_add_mod V (B64 ^ 4)
        rw [HD.out, Nat.mul_zero, Nat.zero_add] at h1
        rw [← h1]; exact Nat.mod_lt _ (b64_pos 4)
      have HV4 := Lib.hid hV4; clear hV4
      go_wp2_with fail
      clear c0 c1 c2 c3 c4 c5 c6 c7 o1 o2 o3 hb
      have st5 := st.new ((Fr.refl Nob wr).alloc (Obj.cells #[Value.int IntKind.u64 ↑(lw V 0), Value.int IntKind.u64 ↑(lw V 1), Value.int IntKind.u64 ↑(lw V 2), Value.int IntKind.u64 ↑(lw V 3)] 38)) (has_new4 wr V 38) (Nat.le_refl _)
      clear st
      generalize wr.alloc (Obj.cells #[Value.int IntKind.u64 ↑(lw V 0), Value.int IntKind.u64 ↑(lw V 1), Value.int IntKind.u64 ↑(lw V 2), Value.int IntKind.u64 ↑(lw V 3)] 38) = w5 at *
      generalize wr.heap.size = g5 at *
      go_loopw [52] (fun _ wx => ∃ U : Nat, U < B64 ^ 4 ∧ U % p = V0 % p ∧ St Nob w wx [(g2, cw 4 p ++ cw 4 (B64 ^ 4 - p), 40), (g4, cw 4 0, 38), (g5, cw 4 U, 38)]) (fun _ wx => valFrom wx g5 0 4)
      case atStart => exact ⟨V, HV4.out, HVM.out, st5.less (by simp)⟩
      case round =>
        obtain ⟨U, hU, hUm, st⟩ := hrel
        clear st5
        have HU := Lib.hid hU; clear hU
        have HUM := Lib.hid hUm; clear hUm
        have hvu := valFrom_all (st.at 2 rfl) HU.out
        have HVU := Lib.hid hvu; clear hvu
        go_wp2_with (with_reducible refine wl_stop (o := ⟨some 52, _, _, _, _, _⟩) ?_)
        refine wl_loadS st 2 rfl rfl rfl Try.underlying38 rfl (by rw [cw_len]; exact size_n) ?_
        go_wp2_with (with_reducible refine wl_stop (o := ⟨some 54, _, _, _, _, _⟩) ?_)
        refine wl_loadA rfl rfl Try.underlying38 rfl (st.at 0 rfl) (cw 4 p) (cw_left 4 4 _ _) (by rw [cw_len]; exact size_n) ?_
        go_wp2_with fail
        have hcs := cSub_all U p 4 HU.out HP.out
        refine (less_any U p _ HP.out).mono ?_
        rintro e' w6 ⟨rfl, hf6⟩
        have st6 := st.keep hf6
        clear st hf6
        by_cases hlt : U < p
        · rw [if_pos hlt] at hcs
          rw [hcs]
          have hm : U = V0 % p := by rw [← HUM.out, Nat.mod_eq_of_lt hlt]
          have HM := Lib.hid hm
          clear hm hcs hlt
          go_wp2_with (with_reducible refine wl_stop (o := ⟨some 6, _, _, _, _, _⟩) ?_)
          refine wl_allocS st6 rfl rfl (z := .agg #[.int .u64 0, .int .u64 0, .int .u64 0, .int .u64 0]) (by kernel_rfl) (cw 4 0) (by rw [cw_zero]; rfl) ?_
          intro g6 w7 st7
          clear st6
          go_wp2_with (with_reducible refine wl_stop (o := ⟨none, _, _, _, _, _⟩) ?_)
          refine wl_storeS st7 3 rfl rfl rfl rfl rfl (by rw [cw_len, cw_len]) (by rw [cw_len]; exact size_n) (cw_one _ _) ?_
          intro w8 st8
          clear st7
          go_wp2_with (with_reducible refine wl_stop (o := ⟨some 60, _, _, _, _, _⟩) ?_)
          refine wl_loadS st8 2 rfl rfl rfl Try.underlying38 rfl (by rw [cw_len]; exact size_n) ?_
          go_wp2_with (with_reducible refine wl_stop (o := ⟨none, _, _, _, _, _⟩) ?_)
          refine wl_storeS st8 1 rfl rfl rfl rfl rfl (by rw [cw_len, cw_len]) (by rw [cw_len]; exact size_n) (cw_one _ _) ?_
          intro w9 st9
          clear st8
          have hd9 := st9.at 1 rfl
          rw [HM.out] at hd9
          have hf9 := st9.fr
          clear st9
          go_wp2
          exact bodyPost_ret (results_arr rfl rfl hd9 Try.underlying38 (by rw [cw_len]; exact size_n)) rfl ⟨rfl, hf9⟩
        · rw [if_neg hlt] at hcs
          rw [hcs]
          have e1 : cw 4 (U + B64 ^ 4 - p) = cw 4 (U - p) := by
            rw [← cw_mod, show U + B64 ^ 4 - p = (U - p) + B64 ^ 4 by omega, Nat.add_mod_right, cw_mod]
          have hm : (U - p) % p = V0 % p := by rw [← HUM.out, ← Nat.mod_eq_sub_mod (by omega)]
          have HM := Lib.hid hm
          have HE := Lib.hid e1
          have hltU : U - p < U := by have := HP0.out; omega
          have hbU : U - p < B64 ^ 4 := by have := HU.out; omega
          have HLTU := Lib.hid hltU
          have HBU := Lib.hid hbU
          clear hm hcs hlt e1 hltU hbU
          go_wp2_with (with_reducible refine wl_stop (o := ⟨some 6, _, _, _, _, _⟩) ?_)
          refine wl_allocS st6 rfl rfl (z := .agg #[.int .u64 0, .int .u64 0, .int .u64 0, .int .u64 0]) (by kernel_rfl) (cw 4 0) (by rw [cw_zero]; rfl) ?_
          intro g6 w7 st7
          clear st6
          go_wp2_with (with_reducible refine wl_stop (o := ⟨none, _, _, _, _, _⟩) ?_)
          refine wl_storeS st7 3 rfl rfl rfl rfl rfl (by rw [cw_len, cw_len]) (by rw [cw_len]; exact size_n) (cw_one _ _) ?_
          intro w8 st8
          clear st7
          rw [HE.out] at st8
          go_wp2_with (with_reducible refine wl_stop (o := ⟨some 61, _, _, _, _, _⟩) ?_)
          refine wl_loadS st8 3 rfl rfl rfl Try.underlying38 rfl (by rw [cw_len]; exact size_n) ?_
          go_wp2_with (with_reducible refine wl_stop (o := ⟨none, _, _, _, _, _⟩) ?_)
          refine wl_storeS st8 2 rfl rfl rfl rfl rfl (by rw [cw_len, cw_len]) (by rw [cw_len]; exact size_n) (cw_one _ _) ?_
          intro w9 st9
          clear st8
          have hv9 := valFrom_all (st9.at 2 rfl) HBU.out
          have HV9 := Lib.hid hv9; clear hv9
          go_wp2
          refine ⟨?_, ?_⟩
          · ((repeat apply Exists.intro); exact ⟨⟨U - p, HBU.out, HM.out, st9.less (by simp)⟩, rfl⟩)
          · rw [HV9.out, HVU.out]; exact HLTU.out
    · have hb : ((o : Int) != 0) = true := by simp; omega
      have hD := fun h => hz (htz.2 h)
      clear htz hz
      have HD := Lib.hid hD; clear hD
      have hD' : V / B64 ^ 4 ≠ 0 := HD.out
      have hprod := fun wx => productR_any (V / B64 ^ 4) (B64 ^ 4 - p) wx (Nat.div_lt_of_lt_mul (by rw [← Nat.pow_add]; exact HV.out)) (by have := HP0.out; have := b64_pos 4; omega)
      rw [i4_high] at hprod
      have hplus := fun wx => plusR_any (V / B64 ^ 4 * (B64 ^ 4 - p)) (V % B64 ^ 4) wx
      rw [i8_low] at hplus
      have hlt := foldC_lt (B64 ^ 4 - p) V (by have := HP0.out; have := b64_pos 4; omega) hD'
      have hmod := foldC_mod p (B64 ^ 4 - p) V (by have := HP.out; omega)
      have e : V / B64 ^ 4 * (B64 ^ 4 - p) + V % B64 ^ 4 = foldC (B64 ^ 4 - p) V := by unfold foldC; rfl
      rw [e] at hplus
      generalize foldC (B64 ^ 4 - p) V = V' at *
      clear e hD'
      have mks : ∀ wx, St Nob w wx [(g2, cw 4 p ++ cw 4 (B64 ^ 4 - p), 40), (g3, cw 8 V, 74), (g4, cw 4 0, 38)] →
          wx.cell? ⟨g3, 0, none⟩ = some (.int .u64 (lw V 0 : Nat)) ∧ wx.cell? ⟨g3, 1, none⟩ = some (.int .u64 (lw V 1 : Nat)) ∧ wx.cell? ⟨g3, 2, none⟩ = some (.int .u64 (lw V 2 : Nat)) ∧ wx.cell? ⟨g3, 3, none⟩ = some (.int .u64 (lw V 3 : Nat)) ∧
          wx.cell? ⟨g3, 4, none⟩ = some (.int .u64 (lw V 4 : Nat)) ∧ wx.cell? ⟨g3, 5, none⟩ = some (.int .u64 (lw V 5 : Nat)) ∧ wx.cell? ⟨g3, 6, none⟩ = some (.int .u64 (lw V 6 : Nat)) ∧ wx.cell? ⟨g3, 7, none⟩ = some (.int .u64 (lw V 7 : Nat)) := fun wx h =>
        ⟨(h.at 1 rfl).cell (cw_get 8 V 0 (by decide)), (h.at 1 rfl).cell (cw_get 8 V 1 (by decide)), (h.at 1 rfl).cell (cw_get 8 V 2 (by decide)), (h.at 1 rfl).cell (cw_get 8 V 3 (by decide)),
          (h.at 1 rfl).cell (cw_get 8 V 4 (by decide)), (h.at 1 rfl).cell (cw_get 8 V 5 (by decide)), (h.at 1 rfl).cell (cw_get 8 V 6 (by decide)), (h.at 1 rfl).cell (cw_get 8 V 7 (by decide))⟩
      have hvv := valFrom_all (st.at 1 rfl) HV.out
      have HVV := Lib.hid hvv
      clear hvv
      have MKS := Lib.hid mks
      have HPROD := Lib.hid hprod
      have HPLUS := Lib.hid hplus
      have HLT := Lib.hid hlt
      have HMOD := Lib.hid hmod
      clear mks hprod hplus hlt hmod
      go_wp2_with fail
      clear c0 c1 c2 c3 c4 c5 c6 c7 o1 o2 o3 hb
      refine wp_region_noPanic ?_
      refine wp_region_seq (fun wx => St Nob w wx [(g2, cw 4 p ++ cw 4 (B64 ^ 4 - p), 40), (g3, cw 8 V, 74), (g4, cw 4 0, 38)]) 22 [(0, true), (1, true), (2, true), (3, true), (4, true), (5, true), (6, true), (7, true), (8, true), (9, true), (10, true), (12, true), (13, true), (14, true), (15, true), (16, true), (17, true), (18, true), (19, true), (20, true), (11, false), (21, false)] (by kernel_rfl) (by kernel_rfl) st.drew (fun _ _ _ _ _ h => h) ?_
      refine seq_pure (v := ?_) rfl rfl (fun wx hS => ?_) ?_
      rotate_left 1
      · (have hc := MKS.out wx hS; obtain ⟨d0, d1, d2, d3, d4, d5, d6, d7⟩ := hc; clear hS; go_simp; with_reducible rfl)
      try simp only [Act.put, List.setIfInBounds_toArray, List.set_cons_zero, List.set_cons_succ]
      refine seq_pure (v := ?_) rfl rfl (fun wx hS => ?_) ?_
      rotate_left 1
      · (have hc := MKS.out wx hS; obtain ⟨d0, d1, d2, d3, d4, d5, d6, d7⟩ := hc; clear hS; go_simp; with_reducible rfl)
      try simp only [Act.put, List.setIfInBounds_toArray, List.set_cons_zero, List.set_cons_succ]
      refine seq_pure (v := ?_) rfl rfl (fun wx hS => ?_) ?_
      rotate_left 1
      · (have hc := MKS.out wx hS; obtain ⟨d0, d1, d2, d3, d4, d5, d6, d7⟩ := hc; clear hS; go_simp; with_reducible rfl)
      try simp only [Act.put, List.setIfInBounds_toArray, List.set_cons_zero, List.set_cons_succ]
      refine seq_pure (v := ?_) rfl rfl (fun wx hS => ?_) ?_
      rotate_left 1
      · (have hc := MKS.out wx hS; obtain ⟨d0, d1, d2, d3, d4, d5, d6, d7⟩ := hc; clear hS; go_simp; with_reducible rfl)
      try simp only [Act.put, List.setIfInBounds_toArray, List.set_cons_zero, List.set_cons_succ]
      refine seq_pure (v := ?_) rfl rfl (fun wx hS => ?_) ?_
      rotate_left 1
      · (have hc := MKS.out wx hS; obtain ⟨d0, d1, d2, d3, d4, d5, d6, d7⟩ := hc; clear hS; go_simp; with_reducible rfl)
      try simp only [Act.put, List.setIfInBounds_toArray, List.set_cons_zero, List.set_cons_succ]
      refine seq_pure (v := ?_) rfl rfl (fun wx hS => ?_) ?_
      rotate_left 1
      · (have hc := MKS.out wx hS; obtain ⟨d0, d1, d2, d3, d4, d5, d6, d7⟩ := hc; clear hS; go_simp; with_reducible rfl)
      try simp only [Act.put, List.setIfInBounds_toArray, List.set_cons_zero, List.set_cons_succ]
      refine seq_pure (v := ?_) rfl rfl (fun wx hS => ?_) ?_
      rotate_left 1
      · (have hc := MKS.out wx hS; obtain ⟨d0, d1, d2, d3, d4, d5, d6, d7⟩ := hc; clear hS; go_simp; with_reducible rfl)
      try simp only [Act.put, List.setIfInBounds_toArray, List.set_cons_zero, List.set_cons_succ]
      refine seq_pure (v := ?_) rfl rfl (fun wx hS => ?_) ?_
      rotate_left 1
      · (have hc := MKS.out wx hS; obtain ⟨d0, d1, d2, d3, d4, d5, d6, d7⟩ := hc; clear hS; go_simp; with_reducible rfl)
      try simp only [Act.put, List.setIfInBounds_toArray, List.set_cons_zero, List.set_cons_succ]
      refine seq_pure (v := ?_) rfl rfl (fun wx hS => ?_) ?_
      rotate_left 1
      · (have hc := MKS.out wx hS; obtain ⟨d0, d1, d2, d3, d4, d5, d6, d7⟩ := hc; clear hS; go_simp; with_reducible rfl)
      try simp only [Act.put, List.setIfInBounds_toArray, List.set_cons_zero, List.set_cons_succ]
      refine seq_pure (v := ?_) rfl rfl (fun wx hS => ?_) ?_
      rotate_left 1
      · (have hc := MKS.out wx hS; obtain ⟨d0, d1, d2, d3, d4, d5, d6, d7⟩ := hc; clear hS; go_simp; with_reducible rfl)
      try simp only [Act.put, List.setIfInBounds_toArray, List.set_cons_zero, List.set_cons_succ]
      refine seq_arr rfl rfl rfl rfl (cw 4 (B64 ^ 4 - p)) (fun wx hS => St.rangeL hS 0 rfl 4 _ (cw_right 4 4 _ _)) Try.underlying38 rfl (by rw [cw_len]; exact size_n) ?_
      try simp only [Act.put, List.setIfInBounds_toArray, List.set_cons_zero, List.set_cons_succ]
      refine seq_pure (v := ?_) rfl rfl (fun wx hS => ?_) ?_
      rotate_left 1
      · (have hc := MKS.out wx hS; obtain ⟨d0, d1, d2, d3, d4, d5, d6, d7⟩ := hc; clear hS; go_simp; with_reducible rfl)
      try simp only [Act.put, List.setIfInBounds_toArray, List.set_cons_zero, List.set_cons_succ]
      refine seq_pure (v := ?_) rfl rfl (fun wx hS => ?_) ?_
      rotate_left 1
      · (have hc := MKS.out wx hS; obtain ⟨d0, d1, d2, d3, d4, d5, d6, d7⟩ := hc; clear hS; go_simp; with_reducible rfl)
      try simp only [Act.put, List.setIfInBounds_toArray, List.set_cons_zero, List.set_cons_succ]
      refine seq_pure (v := ?_) rfl rfl (fun wx hS => ?_) ?_
      rotate_left 1
      · (have hc := MKS.out wx hS; obtain ⟨d0, d1, d2, d3, d4, d5, d6, d7⟩ := hc; clear hS; go_simp; with_reducible rfl)
      try simp only [Act.put, List.setIfInBounds_toArray, List.set_cons_zero, List.set_cons_succ]
      refine seq_pure (v := ?_) rfl rfl (fun wx hS => ?_) ?_
      rotate_left 1
      · (have hc := MKS.out wx hS; obtain ⟨d0, d1, d2, d3, d4, d5, d6, d7⟩ := hc; clear hS; go_simp; with_reducible rfl)
      try simp only [Act.put, List.setIfInBounds_toArray, List.set_cons_zero, List.set_cons_succ]
      refine seq_pure (v := ?_) rfl rfl (fun wx hS => ?_) ?_
      rotate_left 1
      · (have hc := MKS.out wx hS; obtain ⟨d0, d1, d2, d3, d4, d5, d6, d7⟩ := hc; clear hS; go_simp; with_reducible rfl)
      try simp only [Act.put, List.setIfInBounds_toArray, List.set_cons_zero, List.set_cons_succ]
      refine seq_pure (v := ?_) rfl rfl (fun wx hS => ?_) ?_
      rotate_left 1
      · (have hc := MKS.out wx hS; obtain ⟨d0, d1, d2, d3, d4, d5, d6, d7⟩ := hc; clear hS; go_simp; with_reducible rfl)
      try simp only [Act.put, List.setIfInBounds_toArray, List.set_cons_zero, List.set_cons_succ]
      refine seq_pure (v := ?_) rfl rfl (fun wx hS => ?_) ?_
      rotate_left 1
      · (have hc := MKS.out wx hS; obtain ⟨d0, d1, d2, d3, d4, d5, d6, d7⟩ := hc; clear hS; go_simp; with_reducible rfl)
      try simp only [Act.put, List.setIfInBounds_toArray, List.set_cons_zero, List.set_cons_succ]
      refine seq_pure (v := ?_) rfl rfl (fun wx hS => ?_) ?_
      rotate_left 1
      · (have hc := MKS.out wx hS; obtain ⟨d0, d1, d2, d3, d4, d5, d6, d7⟩ := hc; clear hS; go_simp; with_reducible rfl)
      try simp only [Act.put, List.setIfInBounds_toArray, List.set_cons_zero, List.set_cons_succ]
      refine seq_pure (v := ?_) rfl rfl (fun wx hS => ?_) ?_
      rotate_left 1
      · (have hc := MKS.out wx hS; obtain ⟨d0, d1, d2, d3, d4, d5, d6, d7⟩ := hc; clear hS; go_simp; with_reducible rfl)
      try simp only [Act.put, List.setIfInBounds_toArray, List.set_cons_zero, List.set_cons_succ]
      refine seq_run rfl rfl ?_
      go_simp
      refine (HPROD.out _).mono ?_
      rintro e' w9 ⟨rfl, hf9⟩
      refine ⟨st.drew.keep hf9, ?_⟩
      try simp only [Act.put, List.setIfInBounds_toArray, List.set_cons_zero, List.set_cons_succ]
      refine seq_run rfl rfl ?_
      go_simp
      refine (HPLUS.out _).mono ?_
      rintro e' w10 ⟨rfl, hf10⟩
      refine ⟨(st.drew.keep hf9).keep hf10, ?_⟩
      try simp only [Act.put, List.setIfInBounds_toArray, List.set_cons_zero, List.set_cons_succ]
      refine seq_end ?_
      try simp only [List.drop_succ_cons, List.drop_zero]
      have st10 := (st.drew.keep hf9).keep hf10
      clear st hf9 hf10
      refine wl_storeS st10 1 rfl rfl rfl rfl rfl (by rw [cw_len, cw_len]) (by rw [cw_len]; exact size_wide) (cw_one _ _) ?_
      intro w11 st11
      have hv11 := valFrom_all (st11.at 1 rfl) (Nat.lt_trans HLT.out HV.out)
      clear st10
      go_wp2
      refine NoPanic.normal ?_
      refine ⟨?_, ?_⟩
      · ((repeat apply Exists.intro); exact ⟨⟨V', Nat.lt_trans HLT.out HV.out, HMOD.out.trans HVM.out, st11⟩, rfl⟩)
      · rw [hv11, HVV.out]; exact HLT.out
end Go.Proofs.Ytmegaegedlbckaa

/- The reference's F: Mul, Add, Neg, Sub; N: Zero, Below, Bit, Small. -/
namespace Go.Proofs.Ytmegaegedlbckaa
open Go.RowKit Go.Mv Mvp
attribute [local irreducible] limbs lw mix cw cSub cAdd cMul foldC valFrom

set_option maxHeartbeats 4000000 in
set_option maxRecDepth 100000 in
theorem Mul_any (p a b : Nat) (w : World) (hp0 : 0 < p) (hp : p < B64 ^ 4) (ha : a < B64 ^ 4) (hb : b < B64 ^ 4) :
    Calls Try.prog 32 #[fv p, i4 a, i4 b] w fun e w' => e = .returned (i4 (a * b % p)) ∧ Fr Nob w w' := by
  have HP0 := Lib.hid hp0
  have HP := Lib.hid hp
  have HA := Lib.hid ha
  have HB := Lib.hid hb
  have HAB := Lib.hid (show a * b < B64 ^ 8 from Nat.lt_of_lt_of_le (Nat.mul_lt_mul'' ha hb) (by decide))
  clear hp0 hp ha hb
  have st0 := St.start Nob w
  go_enter Try.func32, Try.ntmps32
  go_wp2_with (with_reducible refine wl_stop (o := ⟨some 3, _, _, _, _, _⟩) ?_)
  refine wl_boxS st0 rfl rfl rfl (cw 4 p ++ cw 4 (B64 ^ 4 - p)) rfl ?_
  intro g3 w1 st1
  clear st0
  go_wp2_with (with_reducible refine wl_stop (o := ⟨some 4, _, _, _, _, _⟩) ?_)
  refine wl_boxS st1 rfl rfl rfl (cw 4 a) rfl ?_
  intro g4 w2 st2
  clear st1
  go_wp2_with (with_reducible refine wl_stop (o := ⟨some 5, _, _, _, _, _⟩) ?_)
  refine wl_boxS st2 rfl rfl rfl (cw 4 b) rfl ?_
  intro g5 w3 st3
  clear st2
  go_wp2_with (with_reducible refine wl_stop (o := ⟨some 6, _, _, _, _, _⟩) ?_)
  refine wl_allocS st3 rfl rfl (z := .agg #[.int .u64 0, .int .u64 0, .int .u64 0, .int .u64 0]) (by kernel_rfl) (cw 4 0) (by rw [cw_zero]; rfl) ?_
  intro g6 w4 st4
  clear st3
  go_wp2_with fail
  refine wp_region_noPanic ?_
  refine wp_region_seq (fun wx => St Nob w wx [(g3, cw 4 p ++ cw 4 (B64 ^ 4 - p), 40), (g4, cw 4 a, 38), (g5, cw 4 b, 38), (g6, cw 4 0, 38)]) 5 [(0, true), (1, true), (2, true), (3, false), (4, false)] (by kernel_rfl) (by kernel_rfl) st4.drew (fun _ _ _ _ _ h => h) ?_
  have hd4 := st4.drew
  refine seq_arr rfl rfl rfl rfl (cw 4 p ++ cw 4 (B64 ^ 4 - p)) (fun wx hS => St.rangeL hS 0 rfl 0 _ (by rw [List.drop_zero, List.take_of_length_le (Nat.le_refl _)])) Try.underlying40 rfl (by first | (rw [cw_len]; kernel_rfl) | (simp only [List.length_append, cw_len]; kernel_rfl)) ?_
  try simp only [Act.put, List.setIfInBounds_toArray, List.set_cons_zero, List.set_cons_succ]
  refine seq_arr rfl rfl rfl rfl (cw 4 a) (fun wx hS => St.rangeL hS 1 rfl 0 _ (by rw [List.drop_zero, List.take_of_length_le (Nat.le_refl _)])) Try.underlying38 rfl (by first | (rw [cw_len]; kernel_rfl) | (simp only [List.length_append, cw_len]; kernel_rfl)) ?_
  try simp only [Act.put, List.setIfInBounds_toArray, List.set_cons_zero, List.set_cons_succ]
  refine seq_arr rfl rfl rfl rfl (cw 4 b) (fun wx hS => St.rangeL hS 2 rfl 0 _ (by rw [List.drop_zero, List.take_of_length_le (Nat.le_refl _)])) Try.underlying38 rfl (by first | (rw [cw_len]; kernel_rfl) | (simp only [List.length_append, cw_len]; kernel_rfl)) ?_
  try simp only [Act.put, List.setIfInBounds_toArray, List.set_cons_zero, List.set_cons_succ]
  refine seq_run rfl rfl ?_
  go_simp
  refine (productR_any a b _ HA.out HB.out).mono ?_
  rintro e' w5 ⟨rfl, hf5⟩
  have st5 := hd4.keep hf5
  clear hd4 hf5
  refine ⟨st5, ?_⟩
  try simp only [Act.put, List.setIfInBounds_toArray, List.set_cons_zero, List.set_cons_succ]
  refine seq_run rfl rfl ?_
  go_simp
  refine (Less_any p (a * b) _ HP0.out HP.out HAB.out).mono ?_
  rintro e' w6 ⟨rfl, hf6⟩
  have st6 := st5.keep hf6
  clear st5 hf6
  refine ⟨st6, ?_⟩
  try simp only [Act.put, List.setIfInBounds_toArray, List.set_cons_zero, List.set_cons_succ]
  refine seq_end ?_
  try simp only [List.drop_succ_cons, List.drop_zero]
  refine wl_storeS st6 3 rfl rfl rfl rfl rfl (by first | (simp only [cw_len]; done) | (simp only [List.length_append, cw_len]; done)) (by first | (rw [cw_len]; kernel_rfl) | (simp only [List.length_append, cw_len]; kernel_rfl)) (cw_one _ _) ?_
  intro w7 st7
  clear st6
  go_wp2_with fail
  refine NoPanic.normal ?_
  have hr := st7.at 3 rfl
  have hfr := st7.fr
  clear st7
  go_wp2_with fail
  exact bodyPost_ret (results_arr rfl rfl hr Try.underlying38 (by first | (rw [cw_len]; kernel_rfl) | (simp only [List.length_append, cw_len]; kernel_rfl))) rfl ⟨rfl, hfr⟩

set_option maxHeartbeats 4000000 in
set_option maxRecDepth 100000 in
theorem Add_any (p a b : Nat) (w : World) (hp0 : 0 < p) (hp : p < B64 ^ 4) (ha : a < B64 ^ 4) (hb : b < B64 ^ 4) :
    Calls Try.prog 30 #[fv p, i4 a, i4 b] w fun e w' => e = .returned (i4 ((a + b) % p)) ∧ Fr Nob w w' := by
  have HP0 := Lib.hid hp0
  have HP := Lib.hid hp
  have HA := Lib.hid ha
  have HB := Lib.hid hb
  have HAB := Lib.hid (show a + b < B64 ^ 8 from Nat.lt_of_lt_of_le (Nat.add_lt_add ha hb) (by decide))
  have hplus := fun wx => plusR_any (a % B64 ^ 4) (b % B64 ^ 4) wx
  rw [i8_low, i8_low, Nat.mod_eq_of_lt ha, Nat.mod_eq_of_lt hb] at hplus
  have HPLUS := Lib.hid hplus
  clear hplus
  clear hp0 hp ha hb
  have st0 := St.start Nob w
  go_enter Try.func30, Try.ntmps30
  go_wp2_with (with_reducible refine wl_stop (o := ⟨some 3, _, _, _, _, _⟩) ?_)
  refine wl_boxS st0 rfl rfl rfl (cw 4 p ++ cw 4 (B64 ^ 4 - p)) rfl ?_
  intro g3 w1 st1
  clear st0
  go_wp2_with (with_reducible refine wl_stop (o := ⟨some 4, _, _, _, _, _⟩) ?_)
  refine wl_boxS st1 rfl rfl rfl (cw 4 a) rfl ?_
  intro g4 w2 st2
  clear st1
  go_wp2_with (with_reducible refine wl_stop (o := ⟨some 5, _, _, _, _, _⟩) ?_)
  refine wl_boxS st2 rfl rfl rfl (cw 4 b) rfl ?_
  intro g5 w3 st3
  clear st2
  go_wp2_with (with_reducible refine wl_stop (o := ⟨some 6, _, _, _, _, _⟩) ?_)
  refine wl_allocS st3 rfl rfl (z := .agg #[.int .u64 0, .int .u64 0, .int .u64 0, .int .u64 0]) (by kernel_rfl) (cw 4 0) (by rw [cw_zero]; rfl) ?_
  intro g6 w4 st4
  clear st3
  go_wp2_with fail
  refine wp_region_noPanic ?_
  refine wp_region_seq (fun wx => St Nob w wx [(g3, cw 4 p ++ cw 4 (B64 ^ 4 - p), 40), (g4, cw 4 a, 38), (g5, cw 4 b, 38), (g6, cw 4 0, 38)]) 21 [(0, true), (1, true), (2, true), (3, true), (4, true), (5, true), (6, true), (7, true), (8, true), (9, true), (10, true), (11, true), (12, true), (13, true), (14, true), (15, true), (16, true), (17, true), (18, true), (19, false), (20, false)] (by kernel_rfl) (by kernel_rfl) st4.drew (fun _ _ _ _ _ h => h) ?_
  have hd4 := st4.drew
  refine seq_arr rfl rfl rfl rfl (cw 4 p ++ cw 4 (B64 ^ 4 - p)) (fun wx hS => St.rangeL hS 0 rfl 0 _ (by rw [List.drop_zero, List.take_of_length_le (Nat.le_refl _)])) Try.underlying40 rfl (by first | (rw [cw_len]; kernel_rfl) | (simp only [List.length_append, cw_len]; kernel_rfl)) ?_
  try simp only [Act.put, List.setIfInBounds_toArray, List.set_cons_zero, List.set_cons_succ]
  refine seq_pure (v := ?_) rfl rfl (fun wx hS => ?_) ?_
  rotate_left 1
  · (clear hS; go_simp; with_reducible rfl)
  try simp only [Act.put, List.setIfInBounds_toArray, List.set_cons_zero, List.set_cons_succ]
  refine seq_pure (v := ?_) rfl rfl (fun wx hS => ?_) ?_
  rotate_left 1
  · (have hc := (St.at hS 1 rfl).cell (cw_get 4 a 0 (by decide)); clear hS; go_simp; with_reducible rfl)
  try simp only [Act.put, List.setIfInBounds_toArray, List.set_cons_zero, List.set_cons_succ]
  refine seq_pure (v := ?_) rfl rfl (fun wx hS => ?_) ?_
  rotate_left 1
  · (clear hS; go_simp; with_reducible rfl)
  try simp only [Act.put, List.setIfInBounds_toArray, List.set_cons_zero, List.set_cons_succ]
  refine seq_pure (v := ?_) rfl rfl (fun wx hS => ?_) ?_
  rotate_left 1
  · (have hc := (St.at hS 1 rfl).cell (cw_get 4 a 1 (by decide)); clear hS; go_simp; with_reducible rfl)
  try simp only [Act.put, List.setIfInBounds_toArray, List.set_cons_zero, List.set_cons_succ]
  refine seq_pure (v := ?_) rfl rfl (fun wx hS => ?_) ?_
  rotate_left 1
  · (clear hS; go_simp; with_reducible rfl)
  try simp only [Act.put, List.setIfInBounds_toArray, List.set_cons_zero, List.set_cons_succ]
  refine seq_pure (v := ?_) rfl rfl (fun wx hS => ?_) ?_
  rotate_left 1
  · (have hc := (St.at hS 1 rfl).cell (cw_get 4 a 2 (by decide)); clear hS; go_simp; with_reducible rfl)
  try simp only [Act.put, List.setIfInBounds_toArray, List.set_cons_zero, List.set_cons_succ]
  refine seq_pure (v := ?_) rfl rfl (fun wx hS => ?_) ?_
  rotate_left 1
  · (clear hS; go_simp; with_reducible rfl)
  try simp only [Act.put, List.setIfInBounds_toArray, List.set_cons_zero, List.set_cons_succ]
  refine seq_pure (v := ?_) rfl rfl (fun wx hS => ?_) ?_
  rotate_left 1
  · (have hc := (St.at hS 1 rfl).cell (cw_get 4 a 3 (by decide)); clear hS; go_simp; with_reducible rfl)
  try simp only [Act.put, List.setIfInBounds_toArray, List.set_cons_zero, List.set_cons_succ]
  refine seq_pure (v := ?_) rfl rfl (fun wx hS => ?_) ?_
  rotate_left 1
  · (clear hS; go_simp; with_reducible rfl)
  try simp only [Act.put, List.setIfInBounds_toArray, List.set_cons_zero, List.set_cons_succ]
  refine seq_pure (v := ?_) rfl rfl (fun wx hS => ?_) ?_
  rotate_left 1
  · (clear hS; go_simp; with_reducible rfl)
  try simp only [Act.put, List.setIfInBounds_toArray, List.set_cons_zero, List.set_cons_succ]
  refine seq_pure (v := ?_) rfl rfl (fun wx hS => ?_) ?_
  rotate_left 1
  · (have hc := (St.at hS 2 rfl).cell (cw_get 4 b 0 (by decide)); clear hS; go_simp; with_reducible rfl)
  try simp only [Act.put, List.setIfInBounds_toArray, List.set_cons_zero, List.set_cons_succ]
  refine seq_pure (v := ?_) rfl rfl (fun wx hS => ?_) ?_
  rotate_left 1
  · (clear hS; go_simp; with_reducible rfl)
  try simp only [Act.put, List.setIfInBounds_toArray, List.set_cons_zero, List.set_cons_succ]
  refine seq_pure (v := ?_) rfl rfl (fun wx hS => ?_) ?_
  rotate_left 1
  · (have hc := (St.at hS 2 rfl).cell (cw_get 4 b 1 (by decide)); clear hS; go_simp; with_reducible rfl)
  try simp only [Act.put, List.setIfInBounds_toArray, List.set_cons_zero, List.set_cons_succ]
  refine seq_pure (v := ?_) rfl rfl (fun wx hS => ?_) ?_
  rotate_left 1
  · (clear hS; go_simp; with_reducible rfl)
  try simp only [Act.put, List.setIfInBounds_toArray, List.set_cons_zero, List.set_cons_succ]
  refine seq_pure (v := ?_) rfl rfl (fun wx hS => ?_) ?_
  rotate_left 1
  · (have hc := (St.at hS 2 rfl).cell (cw_get 4 b 2 (by decide)); clear hS; go_simp; with_reducible rfl)
  try simp only [Act.put, List.setIfInBounds_toArray, List.set_cons_zero, List.set_cons_succ]
  refine seq_pure (v := ?_) rfl rfl (fun wx hS => ?_) ?_
  rotate_left 1
  · (clear hS; go_simp; with_reducible rfl)
  try simp only [Act.put, List.setIfInBounds_toArray, List.set_cons_zero, List.set_cons_succ]
  refine seq_pure (v := ?_) rfl rfl (fun wx hS => ?_) ?_
  rotate_left 1
  · (have hc := (St.at hS 2 rfl).cell (cw_get 4 b 3 (by decide)); clear hS; go_simp; with_reducible rfl)
  try simp only [Act.put, List.setIfInBounds_toArray, List.set_cons_zero, List.set_cons_succ]
  refine seq_pure (v := ?_) rfl rfl (fun wx hS => ?_) ?_
  rotate_left 1
  · (clear hS; go_simp; with_reducible rfl)
  try simp only [Act.put, List.setIfInBounds_toArray, List.set_cons_zero, List.set_cons_succ]
  refine seq_run rfl rfl ?_
  go_simp
  refine (HPLUS.out _).mono ?_
  rintro e' w5 ⟨rfl, hf5⟩
  have st5 := hd4.keep hf5
  clear hd4 hf5
  refine ⟨st5, ?_⟩
  try simp only [Act.put, List.setIfInBounds_toArray, List.set_cons_zero, List.set_cons_succ]
  refine seq_run rfl rfl ?_
  go_simp
  refine (Less_any p (a + b) _ HP0.out HP.out HAB.out).mono ?_
  rintro e' w6 ⟨rfl, hf6⟩
  have st6 := st5.keep hf6
  clear st5 hf6
  refine ⟨st6, ?_⟩
  try simp only [Act.put, List.setIfInBounds_toArray, List.set_cons_zero, List.set_cons_succ]
  refine seq_end ?_
  try simp only [List.drop_succ_cons, List.drop_zero]
  refine wl_storeS st6 3 rfl rfl rfl rfl rfl (by first | (simp only [cw_len]; done) | (simp only [List.length_append, cw_len]; done)) (by first | (rw [cw_len]; kernel_rfl) | (simp only [List.length_append, cw_len]; kernel_rfl)) (cw_one _ _) ?_
  intro w7 st7
  clear st6
  go_wp2_with fail
  refine NoPanic.normal ?_
  have hr := st7.at 3 rfl
  have hfr := st7.fr
  clear st7
  go_wp2_with fail
  exact bodyPost_ret (results_arr rfl rfl hr Try.underlying38 (by first | (rw [cw_len]; kernel_rfl) | (simp only [List.length_append, cw_len]; kernel_rfl))) rfl ⟨rfl, hfr⟩

set_option maxHeartbeats 4000000 in
set_option maxRecDepth 100000 in
theorem Zero_any (a : Nat) (w : World) (ha : a < B64 ^ 4) :
    Calls Try.prog 75 #[i4 a] w fun e w' => e = .returned (.bool (decide (a = 0))) ∧ Fr Nob w w' := by
  have HA := Lib.hid ha
  clear ha
  have st0 := St.start Nob w
  go_enter Try.func75, Try.ntmps75
  go_wp2_with (with_reducible refine wl_stop (o := ⟨some 1, _, _, _, _, _⟩) ?_)
  refine wl_boxS st0 rfl rfl rfl (cw 4 a) rfl ?_
  intro g1 w1 st1
  clear st0
  have c0 := (st1.at 0 rfl).cell (cw_get 4 a 0 (by decide))
  have c1 := (st1.at 0 rfl).cell (cw_get 4 a 1 (by decide))
  have c2 := (st1.at 0 rfl).cell (cw_get 4 a 2 (by decide))
  have c3 := (st1.at 0 rfl).cell (cw_get 4 a 3 (by decide))
  have hfr := st1.fr
  clear st1
  have l4 := lw_lt a 0
  have l5 := lw_lt a 1
  have l6 := lw_lt a 2
  have l7 := lw_lt a 3
  have o1 := bits_or_u64_nat _ _ l4 l5
  have o2 := bits_or_u64_nat _ _ (Nat.or_lt_two_pow (n := 64) l4 l5) l6
  have o3 := bits_or_u64_nat _ _ (Nat.or_lt_two_pow (n := 64) (Nat.or_lt_two_pow (n := 64) l4 l5) l6) l7
  have htz := words_zero a HA.out
  generalize hor : (lw a 0 ||| lw a 1 ||| lw a 2 ||| lw a 3) = o at *
  have hoo : ((o : Int) == 0) = decide (a = 0) := by
    rw [show ((o : Int) == 0) = decide (o = 0) by rw [Bool.eq_iff_iff]; simp]
    exact decide_eq_decide.2 htz
  have HOR := Lib.hid hor
  clear hor l4 l5 l6 l7 htz
  go_wp2_with fail
  go_ret
  exact ⟨rfl, hfr⟩

set_option maxHeartbeats 4000000 in
set_option maxRecDepth 100000 in
theorem Neg_any (p a : Nat) (w : World) (hap : a ≤ p) (hp : p < B64 ^ 4) (ha : a < B64 ^ 4) :
    Calls Try.prog 56 #[fv p, i4 a] w fun e w' => e = .returned (i4 ((p - a) % p)) ∧ Fr Nob w w' := by
  have HAP := Lib.hid hap
  have HP := Lib.hid hp
  have HA := Lib.hid ha
  clear hap hp ha
  have st0 := St.start Nob w
  go_enter Try.func56, Try.ntmps56
  go_wp2_with (with_reducible refine wl_stop (o := ⟨some 2, _, _, _, _, _⟩) ?_)
  refine wl_boxS st0 rfl rfl rfl (cw 4 p ++ cw 4 (B64 ^ 4 - p)) rfl ?_
  intro g2 w1 st1
  clear st0
  go_wp2_with (with_reducible refine wl_stop (o := ⟨some 3, _, _, _, _, _⟩) ?_)
  refine wl_boxS st1 rfl rfl rfl (cw 4 a) rfl ?_
  intro g3 w2 st2
  clear st1
  go_wp2_with (with_reducible refine wl_stop (o := ⟨some 4, _, _, _, _, _⟩) ?_)
  refine wl_allocS st2 rfl rfl (z := .agg #[.int .u64 0, .int .u64 0, .int .u64 0, .int .u64 0]) (by kernel_rfl) (cw 4 0) (by rw [cw_zero]; rfl) ?_
  intro g4 w3 st3
  clear st2
  go_wp2_with (with_reducible refine wl_stop (o := ⟨some 8, _, _, _, _, _⟩) ?_)
  refine wl_loadS st3 1 rfl rfl rfl Try.underlying38 rfl (by first | (rw [cw_len]; kernel_rfl) | (simp only [List.length_append, cw_len]; kernel_rfl)) ?_
  go_wp2_with fail
  refine (Zero_any a _ HA.out).mono ?_
  rintro e' w4 ⟨rfl, hf4⟩
  have st4 := st3.keep hf4
  clear st3 hf4
  by_cases h0 : a = 0
  · rw [decide_eq_true h0]
    have H0 := Lib.hid h0
    clear h0
    go_wp2_with (with_reducible refine wl_stop (o := ⟨some 11, _, _, _, _, _⟩) ?_)
    refine wl_loadS st4 1 rfl rfl rfl Try.underlying38 rfl (by first | (rw [cw_len]; kernel_rfl) | (simp only [List.length_append, cw_len]; kernel_rfl)) ?_
    go_wp2_with (with_reducible refine wl_stop (o := ⟨none, _, _, _, _, _⟩) ?_)
    refine wl_storeS st4 2 rfl rfl rfl rfl rfl (by first | (simp only [cw_len]; done) | (simp only [List.length_append, cw_len]; done)) (by first | (rw [cw_len]; kernel_rfl) | (simp only [List.length_append, cw_len]; kernel_rfl)) (cw_one _ _) ?_
    intro w5 st5
    clear st4
    have hr := st5.at 2 rfl
    have hfr := st5.fr
    clear st5
    go_wp2_with fail
    exact bodyPost_ret (results_arr rfl rfl hr Try.underlying38 (by first | (rw [cw_len]; kernel_rfl) | (simp only [List.length_append, cw_len]; kernel_rfl))) rfl ⟨by rw [H0.out, Nat.sub_zero, Nat.mod_self]; rfl, hfr⟩
  · rw [decide_eq_false h0]
    have H0 := Lib.hid h0
    clear h0
    go_wp2_with (with_reducible refine wl_stop (o := ⟨some 14, _, _, _, _, _⟩) ?_)
    refine wl_loadA rfl rfl Try.underlying38 rfl (st4.at 0 rfl) (cw 4 p) (cw_left 4 4 _ _) (by first | (rw [cw_len]; kernel_rfl) | (simp only [List.length_append, cw_len]; kernel_rfl)) ?_
    go_wp2_with (with_reducible refine wl_stop (o := ⟨some 15, _, _, _, _, _⟩) ?_)
    refine wl_loadS st4 1 rfl rfl rfl Try.underlying38 rfl (by first | (rw [cw_len]; kernel_rfl) | (simp only [List.length_append, cw_len]; kernel_rfl)) ?_
    go_wp2_with fail
    refine (less_any p a _ HA.out).mono ?_
    rintro e' w5 ⟨rfl, hf5⟩
    have st5 := st4.keep hf5
    clear st4 hf5
    go_wp2_with (with_reducible refine wl_stop (o := ⟨some 6, _, _, _, _, _⟩) ?_)
    refine wl_allocS st5 rfl rfl (z := .agg #[.int .u64 0, .int .u64 0, .int .u64 0, .int .u64 0]) (by kernel_rfl) (cw 4 0) (by rw [cw_zero]; rfl) ?_
    intro g6 w6 st6
    clear st5
    go_wp2_with (with_reducible refine wl_stop (o := ⟨none, _, _, _, _, _⟩) ?_)
    refine wl_storeS st6 3 rfl rfl rfl rfl rfl (by first | (simp only [cw_len]; done) | (simp only [List.length_append, cw_len]; done)) (by first | (rw [cw_len]; kernel_rfl) | (simp only [List.length_append, cw_len]; kernel_rfl)) (cw_one _ _) ?_
    intro w7 st7
    clear st6
    go_wp2_with (with_reducible refine wl_stop (o := ⟨some 19, _, _, _, _, _⟩) ?_)
    refine wl_loadS st7 3 rfl rfl rfl Try.underlying38 rfl (by first | (rw [cw_len]; kernel_rfl) | (simp only [List.length_append, cw_len]; kernel_rfl)) ?_
    go_wp2_with (with_reducible refine wl_stop (o := ⟨none, _, _, _, _, _⟩) ?_)
    refine wl_storeS st7 2 rfl rfl rfl rfl rfl (by first | (simp only [cw_len]; done) | (simp only [List.length_append, cw_len]; done)) (by first | (rw [cw_len]; kernel_rfl) | (simp only [List.length_append, cw_len]; kernel_rfl)) (cw_one _ _) ?_
    intro w8 st8
    clear st7
    have hr := st8.at 2 rfl
    have hfr := st8.fr
    clear st8
    go_wp2_with fail
    exact bodyPost_ret (results_arr rfl rfl hr Try.underlying38 (by first | (rw [cw_len]; kernel_rfl) | (simp only [List.length_append, cw_len]; kernel_rfl))) rfl ⟨by rw [Nat.mod_eq_of_lt (by have := H0.out; have := HAP.out; omega), ← neg_words p a HAP.out]; rfl, hfr⟩

set_option maxHeartbeats 4000000 in
set_option maxRecDepth 100000 in
theorem Sub_any (p a b : Nat) (w : World) (hp0 : 0 < p) (hp : p < B64 ^ 4) (ha : a < B64 ^ 4) (hb : b < B64 ^ 4) (hbp : b ≤ p) :
    Calls Try.prog 31 #[fv p, i4 a, i4 b] w fun e w' => e = .returned (i4 ((a + (p - b) % p) % p)) ∧ Fr Nob w w' := by
  have HP0 := Lib.hid hp0
  have HP := Lib.hid hp
  have HA := Lib.hid ha
  have HB := Lib.hid hb
  have HBP := Lib.hid hbp
  have HN := Lib.hid (show (p - b) % p < B64 ^ 4 from Nat.lt_trans (Nat.mod_lt _ hp0) hp)
  clear hp0 hp ha hb hbp
  have st0 := St.start Nob w
  go_enter Try.func31, Try.ntmps31
  go_wp2_with (with_reducible refine wl_stop (o := ⟨some 3, _, _, _, _, _⟩) ?_)
  refine wl_boxS st0 rfl rfl rfl (cw 4 p ++ cw 4 (B64 ^ 4 - p)) rfl ?_
  intro g3 w1 st1
  clear st0
  go_wp2_with (with_reducible refine wl_stop (o := ⟨some 4, _, _, _, _, _⟩) ?_)
  refine wl_boxS st1 rfl rfl rfl (cw 4 a) rfl ?_
  intro g4 w2 st2
  clear st1
  go_wp2_with (with_reducible refine wl_stop (o := ⟨some 5, _, _, _, _, _⟩) ?_)
  refine wl_boxS st2 rfl rfl rfl (cw 4 b) rfl ?_
  intro g5 w3 st3
  clear st2
  go_wp2_with (with_reducible refine wl_stop (o := ⟨some 6, _, _, _, _, _⟩) ?_)
  refine wl_allocS st3 rfl rfl (z := .agg #[.int .u64 0, .int .u64 0, .int .u64 0, .int .u64 0]) (by kernel_rfl) (cw 4 0) (by rw [cw_zero]; rfl) ?_
  intro g6 w4 st4
  clear st3
  go_wp2_with fail
  refine wp_region_noPanic ?_
  refine wp_region_seq (fun wx => St Nob w wx [(g3, cw 4 p ++ cw 4 (B64 ^ 4 - p), 40), (g4, cw 4 a, 38), (g5, cw 4 b, 38), (g6, cw 4 0, 38)]) 6 [(0, true), (1, true), (2, true), (3, true), (4, false), (5, false)] (by kernel_rfl) (by kernel_rfl) st4.drew (fun _ _ _ _ _ h => h) ?_
  have hd4 := st4.drew
  refine seq_arr rfl rfl rfl rfl (cw 4 p ++ cw 4 (B64 ^ 4 - p)) (fun wx hS => St.rangeL hS 0 rfl 0 _ (by rw [List.drop_zero, List.take_of_length_le (Nat.le_refl _)])) Try.underlying40 rfl (by first | (rw [cw_len]; kernel_rfl) | (simp only [List.length_append, cw_len]; kernel_rfl)) ?_
  try simp only [Act.put, List.setIfInBounds_toArray, List.set_cons_zero, List.set_cons_succ]
  refine seq_arr rfl rfl rfl rfl (cw 4 a) (fun wx hS => St.rangeL hS 1 rfl 0 _ (by rw [List.drop_zero, List.take_of_length_le (Nat.le_refl _)])) Try.underlying38 rfl (by first | (rw [cw_len]; kernel_rfl) | (simp only [List.length_append, cw_len]; kernel_rfl)) ?_
  try simp only [Act.put, List.setIfInBounds_toArray, List.set_cons_zero, List.set_cons_succ]
  refine seq_arr rfl rfl rfl rfl (cw 4 p ++ cw 4 (B64 ^ 4 - p)) (fun wx hS => St.rangeL hS 0 rfl 0 _ (by rw [List.drop_zero, List.take_of_length_le (Nat.le_refl _)])) Try.underlying40 rfl (by first | (rw [cw_len]; kernel_rfl) | (simp only [List.length_append, cw_len]; kernel_rfl)) ?_
  try simp only [Act.put, List.setIfInBounds_toArray, List.set_cons_zero, List.set_cons_succ]
  refine seq_arr rfl rfl rfl rfl (cw 4 b) (fun wx hS => St.rangeL hS 2 rfl 0 _ (by rw [List.drop_zero, List.take_of_length_le (Nat.le_refl _)])) Try.underlying38 rfl (by first | (rw [cw_len]; kernel_rfl) | (simp only [List.length_append, cw_len]; kernel_rfl)) ?_
  try simp only [Act.put, List.setIfInBounds_toArray, List.set_cons_zero, List.set_cons_succ]
  refine seq_run rfl rfl ?_
  go_simp
  refine (Neg_any p b _ HBP.out HP.out HB.out).mono ?_
  rintro e' w5 ⟨rfl, hf5⟩
  have st5 := hd4.keep hf5
  clear hd4 hf5
  refine ⟨st5, ?_⟩
  try simp only [Act.put, List.setIfInBounds_toArray, List.set_cons_zero, List.set_cons_succ]
  refine seq_run rfl rfl ?_
  go_simp
  refine (Add_any p a ((p - b) % p) _ HP0.out HP.out HA.out HN.out).mono ?_
  rintro e' w6 ⟨rfl, hf6⟩
  have st6 := st5.keep hf6
  clear st5 hf6
  refine ⟨st6, ?_⟩
  try simp only [Act.put, List.setIfInBounds_toArray, List.set_cons_zero, List.set_cons_succ]
  refine seq_end ?_
  try simp only [List.drop_succ_cons, List.drop_zero]
  refine wl_storeS st6 3 rfl rfl rfl rfl rfl (by first | (simp only [cw_len]; done) | (simp only [List.length_append, cw_len]; done)) (by first | (rw [cw_len]; kernel_rfl) | (simp only [List.length_append, cw_len]; kernel_rfl)) (cw_one _ _) ?_
  intro w7 st7
  clear st6
  go_wp2_with fail
  refine NoPanic.normal ?_
  have hr := st7.at 3 rfl
  have hfr := st7.fr
  clear st7
  go_wp2_with fail
  exact bodyPost_ret (results_arr rfl rfl hr Try.underlying38 (by first | (rw [cw_len]; kernel_rfl) | (simp only [List.length_append, cw_len]; kernel_rfl))) rfl ⟨rfl, hfr⟩

set_option maxHeartbeats 4000000 in
set_option maxRecDepth 100000 in
theorem Small_any (n : Nat) (w : World) (hn : n < 18446744073709551616) :
    Calls Try.prog 48 #[.int .u64 (n : Int)] w fun e w' => e = .returned (i4 n) ∧ Fr Nob w w' := by
  have HN := Lib.hid hn
  have HW := Lib.hid (small_words n hn)
  clear hn
  have st0 := St.start Nob w
  go_enter Try.func48, Try.ntmps48
  go_wp2_with (with_reducible refine wl_stop (o := ⟨some 2, _, _, _, _, _⟩) ?_)
  refine wl_allocS st0 rfl rfl (z := .agg #[.int .u64 0, .int .u64 0, .int .u64 0, .int .u64 0]) (by kernel_rfl) (cw 4 0) (by rw [cw_zero]; rfl) ?_
  intro g2 w1 st1
  clear st0
  go_wp2_with (with_reducible refine wl_stop (o := ⟨none, _, _, _, _, _⟩) ?_)
  refine wl_storeS st1 0 rfl rfl rfl rfl (cs := cw 4 n) HW.out (by simp only [cw_len]) (by simp only [cw_len]; kernel_rfl) (cw_one _ _) ?_
  intro w2 st2
  clear st1
  have hr := st2.at 0 rfl
  have hfr := st2.fr
  clear st2
  go_wp2_with fail
  exact bodyPost_ret (results_arr rfl rfl hr Try.underlying38 (by first | (rw [cw_len]; kernel_rfl) | (simp only [List.length_append, cw_len]; kernel_rfl))) rfl ⟨rfl, hfr⟩

set_option maxHeartbeats 4000000 in
set_option maxRecDepth 100000 in
theorem Below_any (a b : Nat) (w : World) (ha : a < B64 ^ 4) (hb : b < B64 ^ 4) :
    Calls Try.prog 55 #[i4 a, i4 b] w fun e w' => e = .returned (.bool (decide (a < b))) ∧ Fr Nob w w' := by
  have HA := Lib.hid ha
  have HB := Lib.hid hb
  clear ha hb
  have st0 := St.start Nob w
  go_enter Try.func55, Try.ntmps55
  go_wp2_with (with_reducible refine wl_stop (o := ⟨some 2, _, _, _, _, _⟩) ?_)
  refine wl_boxS st0 rfl rfl rfl (cw 4 a) rfl ?_
  intro g2 w1 st1
  clear st0
  go_wp2_with (with_reducible refine wl_stop (o := ⟨some 3, _, _, _, _, _⟩) ?_)
  refine wl_boxS st1 rfl rfl rfl (cw 4 b) rfl ?_
  intro g3 w2 st2
  clear st1
  have HCS := Lib.hid (cSub_all a b 4 HA.out HB.out)
  go_wp2_with (with_reducible refine wl_stop (o := ⟨some 8, _, _, _, _, _⟩) ?_)
  refine wl_loadS st2 0 rfl rfl rfl Try.underlying38 rfl (by first | (rw [cw_len]; kernel_rfl) | (simp only [List.length_append, cw_len]; kernel_rfl)) ?_
  go_wp2_with (with_reducible refine wl_stop (o := ⟨some 9, _, _, _, _, _⟩) ?_)
  refine wl_loadS st2 1 rfl rfl rfl Try.underlying38 rfl (by first | (rw [cw_len]; kernel_rfl) | (simp only [List.length_append, cw_len]; kernel_rfl)) ?_
  go_wp2_with fail
  refine (less_any a b _ HB.out).mono ?_
  rintro e' w3 ⟨rfl, hf3⟩
  have st3 := st2.keep hf3
  clear st2 hf3
  go_wp2_with (with_reducible refine wl_stop (o := ⟨some 5, _, _, _, _, _⟩) ?_)
  refine wl_allocS st3 rfl rfl (z := .agg #[.int .u64 0, .int .u64 0, .int .u64 0, .int .u64 0]) (by kernel_rfl) (cw 4 0) (by rw [cw_zero]; rfl) ?_
  intro g5 w4 st4
  clear st3
  go_wp2_with (with_reducible refine wl_stop (o := ⟨none, _, _, _, _, _⟩) ?_)
  refine wl_storeS st4 2 rfl rfl rfl rfl rfl (by first | (simp only [cw_len]; done) | (simp only [List.length_append, cw_len]; done)) (by first | (rw [cw_len]; kernel_rfl) | (simp only [List.length_append, cw_len]; kernel_rfl)) (cw_one _ _) ?_
  intro w5 st5
  clear st4
  have hfr := st5.fr
  clear st5
  have hcs := HCS.out
  clear HCS
  by_cases hlt : a < b
  · rw [if_pos hlt] at hcs
    rw [hcs]
    have HLT := Lib.hid hlt
    clear hlt hcs
    go_wp2_with fail
    go_ret
    exact ⟨by rw [decide_eq_true HLT.out]; rfl, hfr⟩
  · rw [if_neg hlt] at hcs
    rw [hcs]
    have HLT := Lib.hid hlt
    clear hlt hcs
    go_wp2_with fail
    go_ret
    exact ⟨by rw [decide_eq_false HLT.out]; rfl, hfr⟩
end Go.Proofs.Ytmegaegedlbckaa

/- Plain numbers: bytes, the highest first; bits. -/
namespace Mvp

/-- bytes as a number, the highest first -/
def beN (l : List UInt8) : Nat := l.foldl (fun a x => a * 256 + x.toNat) 0
theorem beN_nil : beN [] = 0 := rfl
theorem beN_snoc (l : List UInt8) (x : UInt8) : beN (l ++ [x]) = beN l * 256 + x.toNat := by simp [beN]
theorem beN_lt (l : List UInt8) : beN l < 256 ^ l.length := by
  have h : ∀ (n : Nat) (l : List UInt8), l.length = n → beN l < 256 ^ n := by
    intro n
    induction n with
    | zero => intro l hl; rw [List.length_eq_zero_iff.1 hl]; decide
    | succ n ih =>
      intro l hl
      obtain ⟨m, x, rfl⟩ : ∃ m x, l = m ++ [x] := by
        rcases List.eq_nil_or_concat l with h | ⟨m, x, h⟩
        · subst h; simp at hl
        · exact ⟨m, x, by simpa using h⟩
      have := ih m (by simpa using hl)
      have hx := x.toNat_lt
      rw [beN_snoc, Nat.pow_succ]
      omega
  exact h _ l rfl
theorem beN_take (l : List UInt8) (i : Nat) (h : i < l.length) : beN (l.take (i + 1)) = beN (l.take i) * 256 + (l.getD i 0).toNat := by
  rw [List.take_succ_eq_append_getElem h, beN_snoc]
  simp [List.getD_eq_getElem?_getD, h]
/-- what has been laid when i bytes are read -/
def laid (l : List UInt8) (i : Nat) : Nat := beN (l.take i) * 256 ^ (l.length - i)
theorem laid_zero (l : List UInt8) : laid l 0 = 0 := by simp [laid, beN]
theorem laid_all (l : List UInt8) : laid l l.length = beN l := by simp [laid]
theorem laid_succ (l : List UInt8) (i : Nat) (h : i < l.length) : laid l (i + 1) = laid l i + (l.getD i 0).toNat * 256 ^ (l.length - 1 - i) := by
  unfold laid
  rw [beN_take l i h, Nat.add_mul, Nat.mul_assoc, show l.length - i = (l.length - 1 - i) + 1 by omega, Nat.pow_succ, Nat.mul_comm 256, show l.length - (i + 1) = l.length - 1 - i by omega]
theorem laid_mod (l : List UInt8) (i : Nat) (h : i < l.length) : laid l i % 256 ^ (l.length - 1 - i + 1) = 0 := by
  unfold laid
  rw [show l.length - 1 - i + 1 = l.length - i by omega, Nat.mul_mod_left]
theorem pow256 (k : Nat) : 256 ^ k = B64 ^ (k / 8) * 2 ^ (8 * (k % 8)) := by
  have e1 : (256 : Nat) = 2 ^ 8 := by decide
  have e2 : B64 = 2 ^ 64 := by decide
  rw [e1, e2, ← Nat.pow_mul, ← Nat.pow_mul, ← Nat.pow_add]
  congr 1
  omega
theorem byte_shift_lt (x r : Nat) (hx : x < 256) : x * 2 ^ r < 2 ^ (r + 8) := by
  rw [Nat.pow_add, Nat.mul_comm (2 ^ r)]
  exact Nat.mul_lt_mul_of_pos_right hx (Nat.two_pow_pos r)
theorem word_or (A y r : Nat) (hr : r + 8 ≤ 64) (hy : y < 2 ^ (r + 8)) (hA : A % 2 ^ (r + 8) = 0) : (A % B64) ||| y = (A + y) % B64 ∧ (A + y) / B64 = A / B64 := by
  obtain ⟨c, hc⟩ : ∃ c, B64 = 2 ^ (r + 8) * c := ⟨2 ^ (64 - (r + 8)), by rw [← Nat.pow_add, show r + 8 + (64 - (r + 8)) = 64 by omega]⟩
  obtain ⟨m, rfl⟩ : ∃ m, A = 2 ^ (r + 8) * m := ⟨A / 2 ^ (r + 8), by have := Nat.div_add_mod A (2 ^ (r + 8)); omega⟩
  have hc0 : 0 < c := by
    rcases Nat.eq_zero_or_pos c with h | h
    · rw [h, Nat.mul_zero] at hc; exact absurd hc (by decide)
    · exact h
  have hp := Nat.two_pow_pos (r + 8)
  rw [hc]
  have e1 : 2 ^ (r + 8) * m % (2 ^ (r + 8) * c) = 2 ^ (r + 8) * (m % c) := Nat.mul_mod_mul_left _ _ _
  have hmc := Nat.mod_lt m hc0
  have e3 : 2 ^ (r + 8) * m + y = (2 ^ (r + 8) * c) * (m / c) + (2 ^ (r + 8) * (m % c) + y) := by
    have := Nat.div_add_mod m c
    have h2 : 2 ^ (r + 8) * m = 2 ^ (r + 8) * (c * (m / c) + m % c) := by rw [this]
    rw [h2, Nat.mul_add, Nat.mul_assoc]; omega
  have hlt : 2 ^ (r + 8) * (m % c) + y < 2 ^ (r + 8) * c := by
    have h1 : 2 ^ (r + 8) * (m % c + 1) ≤ 2 ^ (r + 8) * c := Nat.mul_le_mul_left _ hmc
    rw [Nat.mul_add, Nat.mul_one] at h1
    omega
  constructor
  · rw [e1, ← Nat.two_pow_add_eq_or_of_lt hy, e3, Nat.mul_add_mod, Nat.mod_eq_of_lt hlt]
  · rw [e3, Nat.mul_add_div (Nat.mul_pos hp hc0), Nat.div_eq_of_lt hlt, Nat.add_zero, Nat.mul_div_mul_left _ _ hp]
/-- a byte is laid -/
theorem of_step (n N k x : Nat) (hx : x < 256) (hN : N % 256 ^ (k + 1) = 0) (hk : k / 8 < n) : (limbs n N).set (k / 8) (lw N (k / 8) ||| x * 2 ^ (8 * (k % 8))) = limbs n (N + x * 256 ^ k) := by
  have hA : N / B64 ^ (k / 8) % 2 ^ (8 * (k % 8) + 8) = 0 := by
    have e : 256 ^ (k + 1) = B64 ^ (k / 8) * 2 ^ (8 * (k % 8) + 8) := by rw [Nat.pow_succ, pow256, Nat.mul_assoc, Nat.pow_add]
    rw [e] at hN
    rw [← Nat.mod_mul_right_div_self, hN, Nat.zero_div]
  obtain ⟨h1, h2⟩ := word_or (N / B64 ^ (k / 8)) (x * 2 ^ (8 * (k % 8))) (8 * (k % 8)) (by omega) (byte_shift_lt x _ hx) hA
  have e : N + x * 256 ^ k = N + B64 ^ (k / 8) * (x * 2 ^ (8 * (k % 8))) := by rw [pow256, Nat.mul_left_comm]
  rw [e]
  apply List.ext_getElem?
  intro i
  rw [List.getElem?_set, limbs_length]
  rcases Nat.lt_or_ge i n with hi | hi
  · rw [limbs_get _ _ _ hi, limbs_get _ _ _ hi]
    rcases Nat.lt_trichotomy i (k / 8) with h | h | h
    · rw [if_neg (by omega), lw_shift_lo _ _ _ _ h]
    · subst h
      rw [if_pos rfl, if_pos hi]
      congr 1
      have := lw_shift_hi N (x * 2 ^ (8 * (k % 8))) (k / 8) 0
      rw [Nat.add_zero] at this
      rw [this]
      simp only [lw, Nat.pow_zero, Nat.div_one]
      exact h1
    · rw [if_neg (by omega)]
      congr 1
      obtain ⟨j, rfl⟩ : ∃ j, i = k / 8 + (1 + j) := ⟨i - k / 8 - 1, by omega⟩
      rw [lw_shift_hi, ← lw_div N, ← lw_div _ 1 j, ← lw_div _ 1 j, Nat.pow_one, h2]
  · rw [if_neg (by omega), List.getElem?_eq_none (by rw [limbs_length]; exact hi), List.getElem?_eq_none (by rw [limbs_length]; exact hi)]

/-- a number as 32 bytes, the highest first -/
def be32 (N : Nat) : List UInt8 := (List.range 32).map fun i => UInt8.ofNat (N / 256 ^ (31 - i))
theorem be32_len (N : Nat) : (be32 N).length = 32 := by simp [be32]
theorem be32_get (N i : Nat) (h : i < 32) : (be32 N).getD i 0 = UInt8.ofNat (N / 256 ^ (31 - i)) := by simp [be32, List.getD_eq_getElem?_getD, h]
theorem byte_of (N k : Nat) : lw N (k / 8) / 2 ^ (8 * (k % 8)) % 256 = N / 256 ^ k % 256 := by
  unfold lw
  rw [pow256, ← Nat.div_div_eq_div_mul]
  generalize N / B64 ^ (k / 8) = A
  have hr : 8 * (k % 8) + 8 ≤ 64 := by omega
  generalize 8 * (k % 8) = r at *
  have e : B64 = 2 ^ r * 2 ^ (64 - r) := by rw [← Nat.pow_add, show r + (64 - r) = 64 by omega]
  rw [e, Nat.mod_mul_right_div_self]
  exact Nat.mod_mod_of_dvd _ ⟨2 ^ (64 - r - 8), by rw [show (256 : Nat) = 2 ^ 8 from rfl, ← Nat.pow_add, show 8 + (64 - r - 8) = 64 - r by omega]⟩
theorem bit_of (N i : Nat) : lw N (i / 64) / 2 ^ (i % 64) % 2 = N / 2 ^ i % 2 := by
  unfold lw
  have e1 : 2 ^ i = B64 ^ (i / 64) * 2 ^ (i % 64) := by
    rw [show B64 = 2 ^ 64 from rfl, ← Nat.pow_mul, ← Nat.pow_add]
    congr 1; omega
  rw [e1, ← Nat.div_div_eq_div_mul]
  generalize N / B64 ^ (i / 64) = A
  have hr : i % 64 + 1 ≤ 64 := by omega
  generalize i % 64 = r at *
  have e : B64 = 2 ^ r * 2 ^ (64 - r) := by rw [← Nat.pow_add, show r + (64 - r) = 64 by omega]
  rw [e, Nat.mod_mul_right_div_self]
  exact Nat.mod_mod_of_dvd _ ⟨2 ^ (64 - r - 1), by rw [show (2 : Nat) ^ (64 - r) = 2 ^ (1 + (64 - r - 1)) by congr 1; omega, Nat.pow_add, Nat.pow_one]⟩
theorem beN_be32 (N : Nat) (h : N < 256 ^ 32) : beN (be32 N) = N := by
  have key : ∀ n, n ≤ 32 → beN ((be32 N).take n) = N / 256 ^ (32 - n) := by
    intro n
    induction n with
    | zero => intro _; simp only [List.take_zero, beN_nil, Nat.sub_zero]; exact (Nat.div_eq_of_lt h).symm
    | succ n ih =>
      intro hn
      rw [beN_take _ _ (by rw [be32_len]; omega), ih (by omega), be32_get _ _ (by omega), show 32 - (n + 1) = 31 - n by omega, show 32 - n = (31 - n) + 1 by omega, Nat.pow_succ, ← Nat.div_div_eq_div_mul]
      simp only [UInt8.toNat_ofNat']
      have := Nat.div_add_mod (N / 256 ^ (31 - n)) 256
      show _ * 256 + N / 256 ^ (31 - n) % 256 = _
      omega
  have := key 32 (Nat.le_refl _)
  rw [List.take_of_length_le (by rw [be32_len]; exact Nat.le_refl _)] at this
  simpa using this
theorem be32_inj {a b : Nat} (ha : a < 256 ^ 32) (hb : b < 256 ^ 32) (h : be32 a = be32 b) : a = b := by
  rw [← beN_be32 a ha, ← beN_be32 b hb, h]
/-- a power on its way: the exponent's highest bits -/
def powm (a n p i : Nat) : Nat := a ^ (n / 2 ^ i) % p
theorem powm_top (a n p : Nat) (hp : 1 < p) (hn : n < B64 ^ 4) : powm a n p 256 = 1 := by
  unfold powm
  rw [Nat.div_eq_of_lt (Nat.lt_of_lt_of_le hn (by decide)), Nat.pow_zero, Nat.mod_eq_of_lt hp]
theorem powm_all (a n p : Nat) : powm a n p 0 = a ^ n % p := by unfold powm; rw [Nat.pow_zero, Nat.div_one]
theorem powm_half (n i : Nat) : n / 2 ^ i = 2 * (n / 2 ^ (i + 1)) + n / 2 ^ i % 2 := by
  rw [Nat.pow_succ, ← Nat.div_div_eq_div_mul]
  have := Nat.div_add_mod (n / 2 ^ i) 2
  omega
theorem powm_step0 (a n p i : Nat) (h : n / 2 ^ i % 2 = 0) : powm a n p (i + 1) * powm a n p (i + 1) % p = powm a n p i := by
  unfold powm
  rw [← Nat.mul_mod, ← Nat.pow_add]
  have := powm_half n i
  rw [h, Nat.two_mul, Nat.add_zero] at this
  rw [this]
theorem powm_step1 (a n p i : Nat) (h : n / 2 ^ i % 2 = 1) : powm a n p (i + 1) * powm a n p (i + 1) * a % p = powm a n p i := by
  have := powm_half n i
  rw [h] at this
  unfold powm
  rw [← Nat.mod_mul_mod (_ * _), ← Nat.mul_mod, ← Nat.pow_add, Nat.mod_mul_mod, ← Nat.pow_succ, this, Nat.two_mul]
theorem beN_lt32 (s : ByteArray) (h : s.size = 32) : beN s.data.toList < B64 ^ 4 := by
  have := beN_lt s.data.toList
  rw [show s.data.toList.length = s.size by simp, h] at this
  exact Nat.lt_of_lt_of_le this (by decide)
theorem beN_le32 (l : List UInt8) (h : l.length ≤ 32) : beN l < B64 ^ 4 :=
  Nat.lt_of_lt_of_le (beN_lt l) (Nat.le_trans (Nat.pow_le_pow_right (by decide) h) (by decide))
theorem beN_append (a b : List UInt8) : beN (a ++ b) = beN a * 256 ^ b.length + beN b := by
  have key : ∀ (n : Nat) (b : List UInt8), b.length = n → beN (a ++ b) = beN a * 256 ^ n + beN b := by
    intro n
    induction n with
    | zero => intro b hb; rw [List.length_eq_zero_iff.1 hb]; simp [beN_nil]
    | succ n ih =>
      intro b hb
      obtain ⟨m, x, rfl⟩ : ∃ m x, b = m ++ [x] := by
        rcases List.eq_nil_or_concat b with h | ⟨m, x, h⟩
        · subst h; simp at hb
        · exact ⟨m, x, by simpa using h⟩
      rw [← List.append_assoc, beN_snoc, ih m (by simpa using hb), beN_snoc, Nat.pow_succ, Nat.add_mul, ← Nat.mul_assoc, Nat.add_assoc]
  exact key _ b rfl
theorem beN_take_add (l : List UInt8) (r k : Nat) (h : r + k ≤ l.length) : beN (l.take (r + k)) = beN (l.take r) * 256 ^ k + beN ((l.drop r).take k) := by
  rw [List.take_add, beN_append]
  congr 3
  simp; omega
end Mvp
