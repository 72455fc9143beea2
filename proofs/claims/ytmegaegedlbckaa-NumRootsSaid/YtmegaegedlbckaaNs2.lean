/- mont.Int.shift by two bits. -/
import Derived.Test.YtmegaegedlbckaaNs1
import Derived.StillTailTactics
namespace Go.Proofs.Ytmegaegedlbckaa
open Go.RowKit Go.Mv Mvp
attribute [local irreducible] limbs lw mix cw cSub cAdd cMul foldC valFrom beN laid be32 powm montT mstep elN

set_option maxHeartbeats 4000000 in
set_option maxRecDepth 100000 in
theorem Shift_any (N : Nat) (w : World) (hN : N < B64 ^ 4) :
    Calls Try.prog 76 #[i4 N, .int .i64 2] w fun e w' => e = .returned (i4 (N / 4)) ∧ Fr Nob w w' := by
  have HN := Lib.hid hN; clear hN
  have st0 := St.start Nob w
  go_enter Try.func76, Try.ntmps76
  go_wp2_with (with_reducible refine wl_stop (o := ⟨some 2, _, _, _, _, _⟩) ?_)
  refine wl_boxS st0 rfl rfl rfl (cw 4 N) rfl ?_
  intro g2 w1 st1
  clear st0
  go_wp2_with (with_reducible refine wl_stop (o := ⟨some 4, _, _, _, _, _⟩) ?_)
  refine wl_allocS st1 rfl rfl (z := .agg #[.int .u64 0, .int .u64 0, .int .u64 0, .int .u64 0]) (by kernel_rfl) (cw 4 0) (by rw [cw_zero]; rfl) ?_
  intro g4 w2 st2
  clear st1
  go_wp2
  go_loopw [7] (fun i wr => ∃ j : Nat, j ≤ 2 ∧ i = .int .i64 (j : Int) ∧ St Nob w wr [(g2, cw 4 (N / 2 ^ j), 66), (g4, cw 4 0, 66)]) (fun i _ => 2 - (intOf i).toNat)
  case atStart => exact ⟨0, by omega, rfl, by rw [Nat.pow_zero, Nat.div_one]; exact st2⟩
  case round =>
    obtain ⟨j, hj, rfl, st⟩ := hrel
    clear st2
    by_cases hlt : j < 2
    · have hltJ : (j : Int) < 2 := by omega
      have hV : N / 2 ^ j < B64 ^ 4 := Nat.lt_of_le_of_lt (Nat.div_le_self _ _) HN.out
      have hnext : N / 2 ^ (j + 1) = N / 2 ^ j / 2 := by rw [Nat.pow_succ, Nat.div_div_eq_div_mul]
      generalize hVe : N / 2 ^ j = V at *
      have HNEXT := Lib.hid hnext; have HV := Lib.hid hV; clear hnext hV hVe
      go_wp2
      go_loopw [9] (fun i wr => ∃ k : Nat, k ≤ 4 ∧ i = .int .i64 (k : Int) ∧ St Nob w wr [(g2, cw 4 (mix (V / 2) V k), 66), (g4, cw 4 0, 66)]) (fun i _ => 4 - (intOf i).toNat)
      case atStart => exact ⟨0, by omega, rfl, by rw [mix_zero]; exact st⟩
      case round =>
        obtain ⟨k, hk, rfl, stk⟩ := hrel
        clear st
        by_cases hltk : k < 4
        · have hltK : (k : Int) < 4 := by omega
          have c1 : wr.cell? ⟨g2, k, none⟩ = some (.int .u64 (lw V k : Nat)) := by have h := (stk.at 0 rfl).cell (cw_get 4 (mix (V / 2) V k) k hltk); rwa [lw_mix, if_neg (Nat.lt_irrefl k)] at h
          have f1 := (stk.at 0 rfl).free k (by rw [cw_len]; exact hltk)
          have stm := stk.set 0 rfl k (.int .u64 ((lw V k : Int) / 2))
          have hhw := half_word V k
          have hor : bits .or .u64 ((lw V k : Int) / 2) (IntKind.u64.wrap ((lw V (k + 1) : Int) * 9223372036854775808)) = ((lw (V / 2) k : Nat) : Int) := by
            have h := bits_or_u64_nat (lw V k / 2) (lw V (k + 1) * 9223372036854775808 % 18446744073709551616) (Nat.lt_of_le_of_lt (Nat.div_le_self _ _) (lw_lt _ _)) (Nat.mod_lt _ (by decide))
            rw [hhw, ← h, IntKind.wrap_u64]
            rfl
          have HOR := Lib.hid hor
          clear hor
          have STM := Lib.hid stm
          have HSET := Lib.hid (cw_set 4 (V / 2) V k hltk)
          by_cases h3 : k < 3
          · have h3I : (k : Int) < 3 := by omega
            have c2 := (stm.at 0 rfl).cell (i := k) (v := .int .u64 ((lw V k : Int) / 2)) (by rw [List.getElem?_set_self (by rw [cw_len]; exact hltk)])
            have c3 := (stm.at 0 rfl).cell (i := k + 1) (v := .int .u64 (lw V (k + 1) : Nat)) (by rw [List.getElem?_set_ne (by omega), cw_get 4 _ (k + 1) (by omega), lw_mix, if_neg (by omega)])
            have f2 := (stm.at 0 rfl).free k (by rw [List.length_set, cw_len]; exact hltk)
            have e1 : IntKind.i64.wrap ((k : Int) + 1) = (k : Int) + 1 := IntWalk.i64_in _ (by omega)
            have e4 : ((k : Int) + 1).toNat = k + 1 := by omega
            have hlo : (0 : Int) ≤ (k : Int) + 1 ∧ (k : Int) + 1 < 4 := by omega
            clear stm stk
            go_wp2_with fail
            generalize hwm : wr.setCell ⟨g2, k, none⟩ (.int .u64 ((lw V k : Int) / 2)) = wm at *
            clear hwm c1 f1
            refine wp_region_still_tail 10 (by kernel_rfl) (by kernel_rfl) ?_
            simp only [List.take_succ_cons, List.take_zero, List.drop_succ_cons, List.drop_zero]
            repeat still_step
            refine wpStill_nil ?_
            have hst := (STM.out.set 0 rfl k (.int .u64 (bits .or .u64 ((lw V k : Int) / 2) (IntKind.u64.wrap ((lw V (k + 1) : Int) * 9223372036854775808))))).drew
            rw [HOR.out] at hst
            simp only [List.set_cons_zero, List.set_set] at hst
            rw [HSET.out] at hst
            have HST := Lib.hid hst
            clear hst
            go_wp2
            go_roundw
            case rel => exact ⟨k + 1, by omega, by go_num, by rw [HOR.out]; exact HST.out⟩
            case measure => simp [intOf]; omega
          · have h3I : ¬ ((k : Int) < 3) := by omega
            have hk3 : k = 3 := by omega
            have hz : lw V (k + 1) = 0 := lw_top V 4 _ HV.out (by omega)
            have hst := STM.out
            rw [hz, Nat.zero_mul, Nat.zero_mod, Nat.or_zero] at hhw
            rw [show ((lw V k : Int) / 2) = ((lw (V / 2) k : Nat) : Int) by rw [hhw]; rfl] at hst
            simp only [List.set_cons_zero] at hst
            rw [HSET.out] at hst
            rw [show ((lw (V / 2) k : Nat) : Int) = ((lw V k : Int) / 2) by rw [hhw]; rfl] at hst
            have HST := Lib.hid hst
            clear hst stm hhw hz hk3 stk
            go_wp2
            go_roundw
            case rel => exact ⟨k + 1, by omega, by go_num, HST.out⟩
            case measure => simp [intOf]; omega
        · have hge : ¬ ((k : Int) < 4) := by omega
          have hk4 : k = 4 := by omega
          rw [hk4, mix_full, ← HNEXT.out] at stk
          clear hk4
          go_wp2
          go_roundw
          case rel => exact ⟨j + 1, by omega, by go_num, stk⟩
          case measure => simp [intOf]; omega
    · have hge : ¬ ((j : Int) < 2) := by omega
      have hj2 : j = 2 := by omega
      rw [hj2] at st
      clear hj2
      go_wp2_with (with_reducible refine wl_stop (o := ⟨some 31, _, _, _, _, _⟩) ?_)
      refine wl_loadS st 0 rfl rfl rfl Try.underlying66 rfl (by rw [cw_len]; kernel_rfl) ?_
      go_wp2_with (with_reducible refine wl_stop (o := ⟨none, _, _, _, _, _⟩) ?_)
      refine wl_storeS st 1 rfl rfl rfl rfl rfl (by rw [cw_len, cw_len]) (by rw [cw_len]; kernel_rfl) (cw_one _ _) ?_
      intro w9 st9
      clear st
      have hr := st9.at 1 rfl
      have hfr := st9.fr
      clear st9
      go_wp2
      exact bodyPost_ret (results_arr rfl rfl hr Try.underlying66 (by rw [cw_len]; kernel_rfl)) rfl ⟨rfl, hfr⟩
end Go.Proofs.Ytmegaegedlbckaa
