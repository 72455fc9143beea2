/- mont.line: a word times a number, added to the lowest words. -/
import Derived.Test.YtmegaegedlbckaaNm3
namespace Go.Proofs.Ytmegaegedlbckaa
open Go.RowKit Go.Mv Mvp
attribute [local irreducible] limbs lw mix cw cSub cAdd cMul

set_option maxHeartbeats 4000000 in
set_option maxRecDepth 100000 in
theorem line_any (gt V x n top : Nat) (T : TypeId) (w : World) (ht : Has w gt (cw 6 V) T) (hx : x < 18446744073709551616) (htop : top < 18446744073709551616) :
    Calls Try.prog 68 #[.pointer (some ⟨gt, 0, none⟩), .int .u64 (x : Int), i4 n, .int .u64 (top : Int)] w fun e w' =>
      e = .returned (.tuple #[.int .u64 (((top + cMul V x n 4) % 18446744073709551616 : Nat) : Int), .int .u64 (((top + cMul V x n 4) / 18446744073709551616 : Nat) : Int)]) ∧
      Has w' gt (cw 6 (mix (V + x * n) V 4)) T ∧ Fr (One gt) w w' := by
  have st0 := St.one ht
  clear ht
  have HX := Lib.hid hx
  go_enter Try.func68, Try.ntmps68
  go_wp2_with (with_reducible refine wl_stop (o := ⟨some 6, _, _, _, _, _⟩) ?_)
  refine wl_boxS st0 rfl rfl rfl (cw 4 n) rfl ?_
  intro gn w1 st1
  clear st0
  go_wp2_with (with_reducible refine wl_stop (o := ⟨some 16, _, _, _, _, _⟩) ?_)
  refine wl_loadS st1 1 rfl rfl rfl Try.underlying66 rfl (by rw [cw_len]; kernel_rfl) ?_
  go_wp2
  go_loopw [10, 17] (fun c i wr => ∃ k : Nat, k ≤ 4 ∧ i = .int .i64 (k : Int) ∧ c = .int .u64 (cMul V x n k : Nat) ∧ St (One gt) w wr [(gt, cw 6 (mix (V + x * n) V k), T)]) (fun _ i _ => 4 - (intOf i).toNat)
  case atStart => exact ⟨0, by omega, rfl, by rw [cMul_zero]; rfl, by rw [mix_zero]; exact st1.less (by simp)⟩
  case round =>
    obtain ⟨k, hk, rfl, rfl, st⟩ := hrel
    clear st1
    have hcm := cMul_lt V x n k HX.out
    by_cases hlt : k < 4
    · have hltI : (k : Int) < 4 := by omega
      have e0 := fun wx => run_index_cw (P := Try.prog) Try.underlying66 Try.underlying36 size_u64 n k hlt .i64 wx
      have hp := word_mul_le HX.out (lw_lt n k)
      have hms := cMul_succ V x n k
      have hlm := lw_madd V x n k
      have hms2 := cMul_lt V x n (k + 1) HX.out
      obtain ⟨hi, lo, lo2, c1, t2, c2, r1, r2, r3, r4, r5, r6, r7, r8, r9⟩ := line_names (x * lw n k) (lw V k) (cMul V x n k) hp hcm
      rw [← r8] at hlm
      rw [← r9] at hms
      rw [hms] at hms2
      have hmul := fun wx => mul64_any x (lw n k) HX.out (lw_lt n k) wx
      rw [r1, r2] at hmul
      have e2 := fun wx => add64_run0 lo (cMul V x n k) lo2 c1 r3 r4 wx
      have e3 := fun wx => add64_run0 (lw V k) lo2 t2 c2 r6 r7 wx
      obtain ⟨v3, c3, f3⟩ := (st.at 0 rfl).ready (i := k) (by rw [cw_len]; omega)
      have c1' : wr.cell? ⟨gt, k, none⟩ = some (.int .u64 (lw V k : Nat)) := by have h := (st.at 0 rfl).cell (cw_get 6 (mix (V + x * n) V k) k (by omega)); rwa [lw_mix, if_neg (Nat.lt_irrefl k)] at h
      clear c3 hp r1 r2 r3 r4 r6 r7 r8 r9
      have HMUL := Lib.hid hmul; clear hmul
      have HMS := Lib.hid hms; clear hms
      have HLM := Lib.hid hlm; clear hlm
      go_wp2_with fail
      refine (HMUL.out _).mono ?_
      rintro e' w' ⟨rfl, rfl⟩
      go_wp2_with fail
      go_region
      all_goals
        go_wp2
        go_roundw
        case rel =>
          have h1 := st.set 0 rfl k (.int .u64 (lw (V + x * n) k : Nat))
          rw [cw_set _ _ _ _ (by omega), HLM.out] at h1
          exact ⟨k + 1, by omega, by go_num, by rw [HMS.out]; go_num, h1.drew⟩
        case measure => simp [intOf]; omega
    · have hge : ¬ ((k : Int) < 4) := by omega
      have hk4 : k = 4 := by omega
      have HK := Lib.hid hk4; clear hk4
      have e2 := fun wx => add64_run0 top (cMul V x n k) _ _ rfl rfl wx
      go_wp2
      go_ret2
      rw [← HK.out]
      exact ⟨rfl, st.at 0 rfl, st.fr⟩
end Go.Proofs.Ytmegaegedlbckaa
