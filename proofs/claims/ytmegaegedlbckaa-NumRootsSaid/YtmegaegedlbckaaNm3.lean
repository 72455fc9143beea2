/- Sums and differences of words: mont.Int.minus, plus; the reference's less, plus. -/
import Derived.Test.YtmegaegedlbckaaNm2
import Derived.RegionTactic
namespace Go.Proofs.Ytmegaegedlbckaa
open Go.RowKit Go.Mv Mvp
attribute [local irreducible] limbs lw mix cw cSub cAdd cMul

set_option maxHeartbeats 2000000 in
set_option maxRecDepth 100000 in
theorem minus_any (a b : Nat) (w : World) (hb : b < B64 ^ 4) :
    Calls Try.prog 70 #[i4 a, i4 b] w fun e w' => e = .returned (.tuple #[i4 (a + B64 ^ 4 - b), .int .u64 (cSub a b 4 : Nat)]) ∧ Fr Nob w w' := by
  have HB := Lib.hid hb; clear hb
  have st0 := St.start Nob w
  go_enter Try.func70, Try.ntmps70
  go_wp2_with (with_reducible refine wl_stop (o := ⟨some 2, _, _, _, _, _⟩) ?_)
  refine wl_boxS st0 rfl rfl rfl (cw 4 a) rfl ?_
  intro g2 w1 st1
  clear st0
  go_wp2_with (with_reducible refine wl_stop (o := ⟨some 3, _, _, _, _, _⟩) ?_)
  refine wl_boxS st1 rfl rfl rfl (cw 4 b) rfl ?_
  intro g3 w2 st2
  clear st1
  go_wp2_with (with_reducible refine wl_stop (o := ⟨some 4, _, _, _, _, _⟩) ?_)
  refine wl_allocS st2 rfl rfl (z := .agg #[.int .u64 0, .int .u64 0, .int .u64 0, .int .u64 0]) (by kernel_rfl) (cw 4 0) (by rw [cw_zero]; rfl) ?_
  intro g4 w3 st3
  clear st2
  go_wp2
  go_loopw [5, 7] (fun c i wr => ∃ k : Nat, k ≤ 4 ∧ i = .int .i64 (k : Int) ∧ c = .int .u64 (cSub a b k : Nat) ∧ St Nob w wr [(g2, cw 4 a, 66), (g3, cw 4 b, 66), (g4, cw 4 (mix (a + B64 ^ 4 - b) 0 k), 66)]) (fun _ i _ => 4 - (intOf i).toNat)
  case atStart => exact ⟨0, by omega, rfl, by rw [cSub_zero]; rfl, by rw [mix_zero]; exact st3⟩
  case round =>
    obtain ⟨k, hk, rfl, rfl, st⟩ := hrel
    clear st3
    by_cases hlt : k < 4
    · have hltI : (k : Int) < 4 := by omega
      have c1 := (st.at 0 rfl).cell (cw_get 4 a k hlt)
      have c2 := (st.at 1 rfl).cell (cw_get 4 b k hlt)
      obtain ⟨v3, c3, f3⟩ := (st.at 2 rfl).ready (i := k) (by rw [cw_len]; exact hlt)
      have e1 := fun wx => sub64_run (lw a k) (lw b k) (cSub a b k) (cSub_le a b k) wx
      go_wp2
      go_region
      all_goals
        go_wp2
        go_roundw
        case rel =>
          have h1 := st.set 2 rfl k (.int .u64 (lw (a + B64 ^ 4 - b) k : Nat))
          rw [cw_set _ _ _ _ hlt, lw_sub 4 a b k HB.out hlt] at h1
          exact ⟨k + 1, by omega, by go_num, by rw [cSub_succ], h1.drew⟩
        case measure => simp [intOf]; omega
    · have hge : ¬ ((k : Int) < 4) := by omega
      have hk4 : k = 4 := by omega
      have HK := Lib.hid hk4; clear hk4
      go_wp2_with (with_reducible refine wl_stop (o := ⟨some 24, _, _, _, _, _⟩) ?_)
      refine wl_loadS st 2 rfl rfl rfl Try.underlying66 rfl (by rw [cw_len]; kernel_rfl) ?_
      go_wp2_with (with_reducible refine wl_stop (o := ⟨none, _, _, _, _, _⟩) ?_)
      refine wl_storeS st 2 rfl rfl rfl rfl rfl (by simp only [cw_len]) (by rw [cw_len]; kernel_rfl) (cw_one _ _) ?_
      intro w5 st5
      clear st
      have hd5 := st5.at 2 rfl
      rw [HK.out, mix_top _ _ _ (by first | decide | assumption | exact HA.out), cw_mod] at hd5
      have hf5 := st5.fr
      clear st5
      go_wp2
      exact bodyPost_ret (results_arr2 rfl rfl hd5 Try.underlying66 (by rw [cw_len]; kernel_rfl) rfl) rfl ⟨by rw [HK.out]; rfl, hf5⟩

set_option maxHeartbeats 2000000 in
set_option maxRecDepth 100000 in
theorem plus_any (a b : Nat) (w : World) :
    Calls Try.prog 72 #[i4 a, i4 b] w fun e w' => e = .returned (.tuple #[i4 (a + b), .int .u64 (cAdd a b 4 : Nat)]) ∧ Fr Nob w w' := by
  have st0 := St.start Nob w
  go_enter Try.func72, Try.ntmps72
  go_wp2_with (with_reducible refine wl_stop (o := ⟨some 2, _, _, _, _, _⟩) ?_)
  refine wl_boxS st0 rfl rfl rfl (cw 4 a) rfl ?_
  intro g2 w1 st1
  clear st0
  go_wp2_with (with_reducible refine wl_stop (o := ⟨some 3, _, _, _, _, _⟩) ?_)
  refine wl_boxS st1 rfl rfl rfl (cw 4 b) rfl ?_
  intro g3 w2 st2
  clear st1
  go_wp2_with (with_reducible refine wl_stop (o := ⟨some 4, _, _, _, _, _⟩) ?_)
  refine wl_allocS st2 rfl rfl (z := .agg #[.int .u64 0, .int .u64 0, .int .u64 0, .int .u64 0]) (by kernel_rfl) (cw 4 0) (by rw [cw_zero]; rfl) ?_
  intro g4 w3 st3
  clear st2
  go_wp2
  go_loopw [5, 7] (fun c i wr => ∃ k : Nat, k ≤ 4 ∧ i = .int .i64 (k : Int) ∧ c = .int .u64 (cAdd a b k : Nat) ∧ St Nob w wr [(g2, cw 4 a, 66), (g3, cw 4 b, 66), (g4, cw 4 (mix (a + b) 0 k), 66)]) (fun _ i _ => 4 - (intOf i).toNat)
  case atStart => exact ⟨0, by omega, rfl, by rw [cAdd_zero]; rfl, by rw [mix_zero]; exact st3⟩
  case round =>
    obtain ⟨k, hk, rfl, rfl, st⟩ := hrel
    clear st3
    by_cases hlt : k < 4
    · have hltI : (k : Int) < 4 := by omega
      have c1 := (st.at 0 rfl).cell (cw_get 4 a k hlt)
      have c2 := (st.at 1 rfl).cell (cw_get 4 b k hlt)
      obtain ⟨v3, c3, f3⟩ := (st.at 2 rfl).ready (i := k) (by rw [cw_len]; exact hlt)
      have e1 := fun wx => add64_run (lw a k) (lw b k) (cAdd a b k) (cAdd_le a b k) wx
      go_wp2
      go_region
      all_goals
        go_wp2
        go_roundw
        case rel =>
          have h1 := st.set 2 rfl k (.int .u64 (lw (a + b) k : Nat))
          rw [cw_set _ _ _ _ hlt, lw_add a b k] at h1
          exact ⟨k + 1, by omega, by go_num, by rw [cAdd_succ]; go_num, h1.drew⟩
        case measure => simp [intOf]; omega
    · have hge : ¬ ((k : Int) < 4) := by omega
      have hk4 : k = 4 := by omega
      have HK := Lib.hid hk4; clear hk4
      go_wp2_with (with_reducible refine wl_stop (o := ⟨some 24, _, _, _, _, _⟩) ?_)
      refine wl_loadS st 2 rfl rfl rfl Try.underlying66 rfl (by rw [cw_len]; kernel_rfl) ?_
      go_wp2_with (with_reducible refine wl_stop (o := ⟨none, _, _, _, _, _⟩) ?_)
      refine wl_storeS st 2 rfl rfl rfl rfl rfl (by simp only [cw_len]) (by rw [cw_len]; kernel_rfl) (cw_one _ _) ?_
      intro w5 st5
      clear st
      have hd5 := st5.at 2 rfl
      rw [HK.out, mix_top _ _ _ (by first | decide | assumption | exact HA.out), cw_mod] at hd5
      have hf5 := st5.fr
      clear st5
      go_wp2
      exact bodyPost_ret (results_arr2 rfl rfl hd5 Try.underlying66 (by rw [cw_len]; kernel_rfl) rfl) rfl ⟨by rw [HK.out]; rfl, hf5⟩

set_option maxHeartbeats 2000000 in
set_option maxRecDepth 100000 in
theorem less_any (a b : Nat) (w : World) (hb : b < B64 ^ 4) :
    Calls Try.prog 57 #[i4 a, i4 b] w fun e w' => e = .returned (.tuple #[i4 (a + B64 ^ 4 - b), .int .u64 (cSub a b 4 : Nat)]) ∧ Fr Nob w w' := by
  have HB := Lib.hid hb; clear hb
  have st0 := St.start Nob w
  go_enter Try.func57, Try.ntmps57
  go_wp2_with (with_reducible refine wl_stop (o := ⟨some 2, _, _, _, _, _⟩) ?_)
  refine wl_boxS st0 rfl rfl rfl (cw 4 a) rfl ?_
  intro g2 w1 st1
  clear st0
  go_wp2_with (with_reducible refine wl_stop (o := ⟨some 3, _, _, _, _, _⟩) ?_)
  refine wl_boxS st1 rfl rfl rfl (cw 4 b) rfl ?_
  intro g3 w2 st2
  clear st1
  go_wp2_with (with_reducible refine wl_stop (o := ⟨some 4, _, _, _, _, _⟩) ?_)
  refine wl_allocS st2 rfl rfl (z := .agg #[.int .u64 0, .int .u64 0, .int .u64 0, .int .u64 0]) (by kernel_rfl) (cw 4 0) (by rw [cw_zero]; rfl) ?_
  intro g4 w3 st3
  clear st2
  go_wp2_with (with_reducible refine wl_stop (o := ⟨some 6, _, _, _, _, _⟩) ?_)
  refine wl_allocS st3 rfl rfl (z := .agg #[.int .u64 0, .int .u64 0, .int .u64 0, .int .u64 0]) (by kernel_rfl) (cw 4 0) (by rw [cw_zero]; rfl) ?_
  intro g6 w4 st4
  clear st3
  go_wp2
  go_loopw [7, 8] (fun c i wr => ∃ k : Nat, k ≤ 4 ∧ i = .int .i64 (k : Int) ∧ c = .int .u64 (cSub a b k : Nat) ∧ St Nob w wr [(g2, cw 4 a, 38), (g3, cw 4 b, 38), (g4, cw 4 0, 38), (g6, cw 4 (mix (a + B64 ^ 4 - b) 0 k), 38)]) (fun _ i _ => 4 - (intOf i).toNat)
  case atStart => exact ⟨0, by omega, rfl, by rw [cSub_zero]; rfl, by rw [mix_zero]; exact st4⟩
  case round =>
    obtain ⟨k, hk, rfl, rfl, st⟩ := hrel
    clear st4
    by_cases hlt : k < 4
    · have hltI : (k : Int) < 4 := by omega
      have c1 := (st.at 0 rfl).cell (cw_get 4 a k hlt)
      have c2 := (st.at 1 rfl).cell (cw_get 4 b k hlt)
      obtain ⟨v3, c3, f3⟩ := (st.at 3 rfl).ready (i := k) (by rw [cw_len]; exact hlt)
      have e1 := fun wx => sub64_run (lw a k) (lw b k) (cSub a b k) (cSub_le a b k) wx
      go_wp2
      go_region
      all_goals
        go_wp2
        go_roundw
        case rel =>
          have h1 := st.set 3 rfl k (.int .u64 (lw (a + B64 ^ 4 - b) k : Nat))
          rw [cw_set _ _ _ _ hlt, lw_sub 4 a b k HB.out hlt] at h1
          exact ⟨k + 1, by omega, by go_num, by rw [cSub_succ], h1.drew⟩
        case measure => simp [intOf]; omega
    · have hge : ¬ ((k : Int) < 4) := by omega
      have hk4 : k = 4 := by omega
      have HK := Lib.hid hk4; clear hk4
      go_wp2_with (with_reducible refine wl_stop (o := ⟨some 26, _, _, _, _, _⟩) ?_)
      refine wl_loadS st 3 rfl rfl rfl Try.underlying38 rfl (by rw [cw_len]; kernel_rfl) ?_
      go_wp2_with (with_reducible refine wl_stop (o := ⟨none, _, _, _, _, _⟩) ?_)
      refine wl_storeS st 2 rfl rfl rfl rfl rfl (by simp only [cw_len]) (by rw [cw_len]; kernel_rfl) (cw_one _ _) ?_
      intro w5 st5
      clear st
      have hd5 := st5.at 2 rfl
      rw [HK.out, mix_top _ _ _ (by first | decide | assumption | exact HA.out), cw_mod] at hd5
      have hf5 := st5.fr
      clear st5
      go_wp2
      exact bodyPost_ret (results_arr2 rfl rfl hd5 Try.underlying38 (by rw [cw_len]; kernel_rfl) rfl) rfl ⟨by rw [HK.out]; rfl, hf5⟩

set_option maxHeartbeats 2000000 in
set_option maxRecDepth 100000 in
theorem plusR_any (a b : Nat) (w : World) :
    Calls Try.prog 42 #[i8 a, i8 b] w fun e w' => e = .returned (i8 (a + b)) ∧ Fr Nob w w' := by
  have st0 := St.start Nob w
  go_enter Try.func42, Try.ntmps42
  go_wp2_with (with_reducible refine wl_stop (o := ⟨some 2, _, _, _, _, _⟩) ?_)
  refine wl_boxS st0 rfl rfl rfl (cw 8 a) rfl ?_
  intro g2 w1 st1
  clear st0
  go_wp2_with (with_reducible refine wl_stop (o := ⟨some 3, _, _, _, _, _⟩) ?_)
  refine wl_boxS st1 rfl rfl rfl (cw 8 b) rfl ?_
  intro g3 w2 st2
  clear st1
  go_wp2_with (with_reducible refine wl_stop (o := ⟨some 4, _, _, _, _, _⟩) ?_)
  refine wl_allocS st2 rfl rfl (z := .agg #[.int .u64 0, .int .u64 0, .int .u64 0, .int .u64 0, .int .u64 0, .int .u64 0, .int .u64 0, .int .u64 0]) (by kernel_rfl) (cw 8 0) (by rw [cw_zero]; rfl) ?_
  intro g4 w3 st3
  clear st2
  go_wp2
  go_loopw [5, 6] (fun c i wr => ∃ k : Nat, k ≤ 8 ∧ i = .int .i64 (k : Int) ∧ c = .int .u64 (cAdd a b k : Nat) ∧ St Nob w wr [(g2, cw 8 (mix (a + b) a k), 74), (g3, cw 8 b, 74), (g4, cw 8 0, 74)]) (fun _ i _ => 8 - (intOf i).toNat)
  case atStart => exact ⟨0, by omega, rfl, by rw [cAdd_zero]; rfl, by rw [mix_zero]; exact st3⟩
  case round =>
    obtain ⟨k, hk, rfl, rfl, st⟩ := hrel
    clear st3
    by_cases hlt : k < 8
    · have hltI : (k : Int) < 8 := by omega
      have c1 : wr.cell? ⟨g2, k, none⟩ = some (.int .u64 (lw a k : Nat)) := by have h := (st.at 0 rfl).cell (cw_get 8 (mix (a + b) a k) k hlt); rwa [lw_mix, if_neg (Nat.lt_irrefl k)] at h
      have c2 := (st.at 1 rfl).cell (cw_get 8 b k hlt)
      have f3 := (st.at 0 rfl).free k (by rw [cw_len]; exact hlt)
      have e1 := fun wx => add64_run (lw a k) (lw b k) (cAdd a b k) (cAdd_le a b k) wx
      go_wp2
      go_region
      all_goals
        go_wp2
        go_roundw
        case rel =>
          have h1 := st.set 0 rfl k (.int .u64 (lw (a + b) k : Nat))
          rw [cw_set _ _ _ _ hlt, lw_add a b k] at h1
          exact ⟨k + 1, by omega, by go_num, by rw [cAdd_succ]; go_num, h1.drew⟩
        case measure => simp [intOf]; omega
    · have hge : ¬ ((k : Int) < 8) := by omega
      have hk4 : k = 8 := by omega
      have HK := Lib.hid hk4; clear hk4
      go_wp2_with (with_reducible refine wl_stop (o := ⟨some 24, _, _, _, _, _⟩) ?_)
      refine wl_loadS st 0 rfl rfl rfl Try.underlying74 rfl (by rw [cw_len]; kernel_rfl) ?_
      go_wp2_with (with_reducible refine wl_stop (o := ⟨none, _, _, _, _, _⟩) ?_)
      refine wl_storeS st 2 rfl rfl rfl rfl rfl (by simp only [cw_len]) (by rw [cw_len]; kernel_rfl) (cw_one _ _) ?_
      intro w5 st5
      clear st
      have hd5 := st5.at 2 rfl
      rw [HK.out, mix_full] at hd5
      have hf5 := st5.fr
      clear st5
      go_wp2
      exact bodyPost_ret (results_arr rfl rfl hd5 Try.underlying74 (by rw [cw_len]; kernel_rfl)) rfl ⟨rfl, hf5⟩

end Go.Proofs.Ytmegaegedlbckaa
