/- mintvaultref2.product: the product of two numbers of four words. -/
import Derived.Test.YtmegaegedlbckaaNm4
import Derived.Deep.QuietTactic
import Derived.BigQuiet
namespace Go.Proofs.Ytmegaegedlbckaa
open Go.RowKit Go.Mv Mvp
attribute [local irreducible] limbs lw mix cw cSub cAdd cMul

set_option maxHeartbeats 4000000 in
set_option maxRecDepth 100000 in
theorem productR_any (a b : Nat) (w : World) (ha : a < B64 ^ 4) (hb : b < B64 ^ 4) :
    Calls Try.prog 40 #[i4 a, i4 b] w fun e w' => e = .returned (i8 (a * b)) ∧ Fr Nob w w' := by
  have HA := Lib.hid ha; clear ha
  have HB := Lib.hid hb; clear hb
  have st0 := St.start Nob w
  go_enter Try.func40, Try.ntmps40
  go_wp2_with (with_reducible refine wl_stop (o := ⟨some 2, _, _, _, _, _⟩) ?_)
  refine wl_boxS st0 rfl rfl rfl (cw 4 a) rfl ?_
  intro g2 w1 st1
  clear st0
  go_wp2_with (with_reducible refine wl_stop (o := ⟨some 3, _, _, _, _, _⟩) ?_)
  refine wl_boxS st1 rfl rfl rfl (cw 4 b) rfl ?_
  intro g3 w2 st2
  clear st1
  go_wp2_with (with_reducible refine wl_stop (o := ⟨some 4, _, _, _, _, _⟩) ?_)
  refine wl_allocS st2 rfl rfl (z := .agg #[.int .u64 0, .int .u64 0, .int .u64 0, .int .u64 0, .int .u64 0, .int .u64 0, .int .u64 0, .int .u64 0]) (by kernel_rfl) (cw 8 0) (by rw [cw_zero]; rfl) ?_
  intro g4 w3 st3
  clear st2
  go_wp2_with (with_reducible refine wl_stop (o := ⟨some 5, _, _, _, _, _⟩) ?_)
  refine wl_allocS st3 rfl rfl (z := .agg #[.int .u64 0, .int .u64 0, .int .u64 0, .int .u64 0, .int .u64 0, .int .u64 0, .int .u64 0, .int .u64 0]) (by kernel_rfl) (cw 8 0) (by rw [cw_zero]; rfl) ?_
  intro g5 w4 st4
  clear st3
  go_wp2
  go_loopw [6] (fun i wr => ∃ I : Nat, I ≤ 4 ∧ i = .int .i64 (I : Int) ∧ St Nob w wr [(g2, cw 4 a, 38), (g3, cw 4 b, 38), (g4, cw 8 0, 74), (g5, cw 8 (a % B64 ^ I * b), 74)]) (fun i _ => 4 - (intOf i).toNat)
  case atStart => exact ⟨0, by omega, rfl, by rw [row_zero]; exact st4⟩
  case round =>
    obtain ⟨I, hI, rfl, st⟩ := hrel
    clear st4
    by_cases hlt : I < 4
    · have hltI : (I : Int) < 4 := by omega
      obtain ⟨wo, rfl⟩ : ∃ wo : World, wo = wr := ⟨_, rfl⟩
      have htop := row_top a b I HB.out
      have hall := row_all a b I HB.out
      have hnew := row_new a b I
      have hst := row_start a b I
      have hword := row_word a b I
      generalize hP : a % B64 ^ I * b = V at *
      have HP := Lib.hid hP; clear hP
      have HTOP := Lib.hid htop; clear htop
      have HALL := Lib.hid hall; clear hall
      have HST := Lib.hid hst; clear hst
      have HNEW := Lib.hid hnew; clear hnew
      have HWORD := Lib.hid hword; clear hword
      go_wp2
      go_loopw [7, 8] (fun c i wr => ∃ k : Nat, k ≤ 4 ∧ i = .int .i64 (k : Int) ∧ c = .int .u64 (cMul (V / B64 ^ I) (lw a I) b k : Nat) ∧ St Nob w wr [(g2, cw 4 a, 38), (g3, cw 4 b, 38), (g4, cw 8 0, 74), (g5, cw 8 (mix (a % B64 ^ (I + 1) * b) V (I + k)), 74)]) (fun _ i _ => 4 - (intOf i).toNat)
      case atStart =>
        exact ⟨0, by omega, rfl, by rw [cMul_zero]; rfl, by rw [HST.out]; exact st⟩
      case round =>
        obtain ⟨k, hk, rfl, rfl, stk⟩ := hrel
        clear st
        have hx := lw_lt a I
        have hcm := cMul_lt (V / B64 ^ I) (lw a I) b k hx
        by_cases hltk : k < 4
        · have hltK : (k : Int) < 4 := by omega
          have hp := word_mul_le hx (lw_lt b k)
          have hms := cMul_succ (V / B64 ^ I) (lw a I) b k
          have hlm := lw_madd (V / B64 ^ I) (lw a I) b k
          have hms2 := cMul_lt (V / B64 ^ I) (lw a I) b (k + 1) hx
          obtain ⟨hi, lo, lo2, c1, t2, c2, r1, r2, r3, r4, r5, r6, r7, r8, r9⟩ := line_names (lw a I * lw b k) (lw (V / B64 ^ I) k) (cMul (V / B64 ^ I) (lw a I) b k) hp hcm
          rw [← r8, ← HNEW.out] at hlm
          rw [← r9] at hms
          rw [hms] at hms2
          have hmul := fun wx => mul64_any (lw a I) (lw b k) hx (lw_lt b k) wx
          rw [r1, r2] at hmul
          have e2 := fun wx => add64_run0 lo (cMul (V / B64 ^ I) (lw a I) b k) lo2 c1 r3 r4 wx
          have e3 := fun wx => add64_run0 (lw (V / B64 ^ I) k) lo2 t2 c2 r6 r7 wx
          have ca := (stk.at 0 rfl).cell (cw_get 4 a I hlt)
          have cb := (stk.at 1 rfl).cell (cw_get 4 b k hltk)
          obtain ⟨v3, c3, f3⟩ := (stk.at 3 rfl).ready (i := I + k) (by rw [cw_len]; omega)
          have c1' : wr.cell? ⟨g5, I + k, none⟩ = some (.int .u64 (lw (V / B64 ^ I) k : Nat)) := by
            have h := (stk.at 3 rfl).cell (cw_get 8 (mix (a % B64 ^ (I + 1) * b) V (I + k)) (I + k) (by omega)); rwa [lw_mix, if_neg (Nat.lt_irrefl _), HWORD.out] at h
          clear c3 hp r1 r2 r3 r4 r6 r7 r8 r9
          have HMUL := Lib.hid hmul; clear hmul
          have HMS := Lib.hid hms; clear hms
          have HLM := Lib.hid hlm; clear hlm
          go_wp2_with fail
          go_quiet ((go_at_call 63; refine Calls.quiet_of_same ((HMUL.out _).mono fun _ _ h => ⟨h.1, h.2.symm⟩)))
          go_wp2_with fail
          go_roundw
          case rel =>
            have h1 := (stk.drewN nq).set 3 rfl (I + k) (.int .u64 (lw (a % B64 ^ (I + 1) * b) (I + k) : Nat))
            rw [cw_set _ _ _ _ (by omega), HLM.out] at h1
            exact ⟨k + 1, by omega, by go_num, by rw [HMS.out]; go_num, h1⟩
          case measure => simp [intOf]; omega
        · have hge : ¬ ((k : Int) < 4) := by omega
          have hk4 : k = 4 := by omega
          have HK := Lib.hid hk4; clear hk4
          obtain ⟨v3, c3, f3⟩ := (stk.at 3 rfl).ready (i := I + 4) (by rw [cw_len]; omega)
          go_wp2
          go_roundw
          case rel =>
            have h1 := stk.set 3 rfl (I + 4) (.int .u64 (cMul (V / B64 ^ I) (lw a I) b k : Nat))
            have h2 : (cw 8 (mix (a % B64 ^ (I + 1) * b) V (I + k))).set (I + 4) (.int .u64 (cMul (V / B64 ^ I) (lw a I) b k : Nat)) = cw 8 (a % B64 ^ (I + 1) * b) := by
              rw [HK.out, ← HTOP.out, cw_set _ _ _ _ (by omega), HALL.out]
            rw [h2] at h1
            exact ⟨I + 1, by omega, by go_num, h1⟩
          case measure => simp [intOf]; omega
    · have hge : ¬ ((I : Int) < 4) := by omega
      have hk4 : I = 4 := by omega
      have HK := Lib.hid hk4; clear hk4
      go_wp2_with (with_reducible refine wl_stop (o := ⟨some 60, _, _, _, _, _⟩) ?_)
      refine wl_loadS st 3 rfl rfl rfl Try.underlying74 rfl (by rw [cw_len]; kernel_rfl) ?_
      go_wp2_with (with_reducible refine wl_stop (o := ⟨none, _, _, _, _, _⟩) ?_)
      refine wl_storeS st 2 rfl rfl rfl rfl rfl (by simp only [cw_len]) (by rw [cw_len]; kernel_rfl) (cw_one _ _) ?_
      intro w5 st5
      clear st
      have hd5 := st5.at 2 rfl
      rw [HK.out, Nat.mod_eq_of_lt HA.out] at hd5
      have hf5 := st5.fr
      clear st5
      go_wp2
      exact bodyPost_ret (results_arr rfl rfl hd5 Try.underlying74 (by rw [cw_len]; kernel_rfl)) rfl ⟨rfl, hf5⟩
end Go.Proofs.Ytmegaegedlbckaa
