/- The reference's Make. -/
import Derived.Test.YtmegaegedlbckaaNm11
import Derived.Test.YtmegaegedlbckaaNc1
import Derived.Test.YtmegaegedlbckaaBox3
namespace Go.Proofs.Ytmegaegedlbckaa
open Go.RowKit Go.Mv Mvp
attribute [local irreducible] limbs lw mix cSub cAdd cMul foldC valFrom beN laid be32 powm

theorem words_c0 : (Value.agg #[.int .u64 4294968273, .int .u64 0, .int .u64 0, .int .u64 0]) = .agg (cw 4 cP).toArray := by kernel_rfl
theorem words_c1 : (Value.agg #[.int .u64 4624529908474429119, .int .u64 4994812053365940164, .int .u64 1, .int .u64 0]) = .agg (cw 4 cQ).toArray := by kernel_rfl
theorem built_fv (a b : Nat) : Try.prog.built 40 [(0, .agg (cw 4 a).toArray), (1, .agg (cw 4 b).toArray)] = some (cw 4 a ++ cw 4 b).toArray := by kernel_rfl
theorem results_st {P : Program} {fn : Func} {p : Tmp} {ty : TypeId} (h : fn.results = #[.cell p ty]) {tmps : Array Value} {w : World} {g : Nat} {L : List Value} {T : TypeId}
    (hp : tmps.getD p undef = .pointer (some ⟨g, 0, none⟩)) (hg : Has w g L T) {d : TypeDesc} (hu : P.underlying ty = some d) (hd : (match d with | .struct _ | .array _ _ => true | _ => false) = true) (hi : (P.info? ty).map (·.size) = some L.length) :
    (results fn tmps).run P w = .ok (.agg L.toArray) w := by
  obtain ⟨lo, hi', hh, -⟩ := hg
  exact results_cell_row h tmps w g T L.toArray _ _ hp hh hu hd (by simpa using hi)
theorem cw2_one (m n a b : Nat) : ∀ v ∈ cw m a ++ cw n b, v.oneCell' = true := by
  intro v hv
  simp only [List.mem_append] at hv
  rcases hv with hv | hv
  · exact cw_one _ _ v hv
  · exact cw_one _ _ v hv
theorem fv_pP : fv pP = .agg (cw 4 (B64 ^ 4 - cP) ++ cw 4 cP).toArray := by unfold fv; rw [pP_c]; rfl
theorem fv_pQ : fv pQ = .agg (cw 4 (B64 ^ 4 - cQ) ++ cw 4 cQ).toArray := by unfold fv; rw [pQ_c]; rfl
attribute [local irreducible] cw

set_option maxHeartbeats 4000000 in
set_option maxRecDepth 100000 in
theorem Make0 (w : World) :
    Calls Try.prog 16 #[.int .i64 0] w fun e w' => e = .returned (fv pP) ∧ Fr Nob w w' := by
  have st0 := St.start Nob w
  go_enter Try.func16, Try.ntmps16
  go_wp2_with (with_reducible refine wl_stop (o := ⟨some 2, _, _, _, _, _⟩) ?_)
  refine wl_allocS st0 rfl rfl (z := .agg #[.int .u64 0, .int .u64 0, .int .u64 0, .int .u64 0, .int .u64 0, .int .u64 0, .int .u64 0, .int .u64 0]) (by kernel_rfl) (cw 8 0) (by rw [cw_zero]; rfl) ?_
  intro g2 w1 st1
  clear st0
  go_wp2_with (with_reducible refine wl_stop (o := ⟨some 3, _, _, _, _, _⟩) ?_)
  refine wl_allocS st1 rfl rfl (z := .agg #[.int .u64 0, .int .u64 0, .int .u64 0, .int .u64 0]) (by kernel_rfl) (cw 4 0) (by rw [cw_zero]; rfl) ?_
  intro g3 w2 st2
  clear st1
  go_wp2_with (with_reducible refine wl_stop (o := ⟨none, _, _, _, _, _⟩) ?_)
  refine wl_storeS st2 1 rfl rfl rfl rfl (cs := cw 4 cP) words_c0 (by simp only [cw_len]) (by simp only [cw_len]; kernel_rfl) (cw_one _ _) ?_
  intro w3 st3
  clear st2
  go_wp2_with (with_reducible refine wl_stop (o := ⟨some 4, _, _, _, _, _⟩) ?_)
  refine wl_allocS st3 rfl rfl (z := .agg #[.int .u64 0, .int .u64 0, .int .u64 0, .int .u64 0]) (by kernel_rfl) (cw 4 0) (by rw [cw_zero]; rfl) ?_
  intro g4 w4 st4
  clear st3
  go_wp2
  go_loopw [5, 6] (fun c i wr => ∃ k : Nat, k ≤ 4 ∧ i = .int .i64 (k : Int) ∧ c = .int .u64 (cSub 0 cP k : Nat) ∧ St Nob w wr [(g2, cw 8 0, 40), (g3, cw 4 cP, 38), (g4, cw 4 (mix (0 + B64 ^ 4 - cP) 0 k), 38)]) (fun _ i _ => 4 - (intOf i).toNat)
  case atStart => exact ⟨0, by omega, rfl, by rw [cSub_zero]; rfl, by rw [mix_zero]; exact st4⟩
  case round =>
    obtain ⟨k, hk, rfl, rfl, st⟩ := hrel
    clear st4
    by_cases hlt : k < 4
    · have hltI : (k : Int) < 4 := by omega
      have c2 := (st.at 1 rfl).cell (cw_get 4 cP k hlt)
      obtain ⟨v3, c3, f3⟩ := (st.at 2 rfl).ready (i := k) (by rw [cw_len]; exact hlt)
      have e1 : ∀ wx, (callFunc 39 #[.int .u64 0, .int .u64 (lw cP k : Nat), .int .u64 (cSub 0 cP k : Nat)]).run Try.prog wx = .ok (.value (.tuple #[.int .u64 (lw (0 + B64 ^ 4 - cP) k : Nat), .int .u64 (cSub 0 cP (k + 1) : Nat)])) wx := fun wx => by
        have h := sub64_run 0 (lw cP k) (cSub 0 cP k) (cSub_le 0 cP k) wx
        rw [lw_sub 4 0 cP k cP_lt hlt, cSub_succ, lw_top 0 0 k (by decide) (Nat.zero_le _)]
        exact h
      go_wp2
      go_roundw
      case rel =>
        have h1 := st.set 2 rfl k (.int .u64 (lw (0 + B64 ^ 4 - cP) k : Nat))
        rw [cw_set _ _ _ _ hlt] at h1
        exact ⟨k + 1, by omega, by go_num, rfl, h1⟩
      case measure => simp [intOf]; omega
    · have hge : ¬ ((k : Int) < 4) := by omega
      have hk4 : k = 4 := by omega
      rw [hk4, mix_top _ _ _ (by decide), cw_mod, Nat.zero_add] at st
      clear hk4
      go_wp2_with (with_reducible refine wl_stop (o := ⟨some 25, _, _, _, _, _⟩) ?_)
      refine wl_loadS st 2 rfl rfl rfl Try.underlying38 rfl (by simp only [List.length_append, cw_len]; kernel_rfl) ?_
      go_wp2_with (with_reducible refine wl_stop (o := ⟨some 26, _, _, _, _, _⟩) ?_)
      refine wl_loadS st 1 rfl rfl rfl Try.underlying38 rfl (by simp only [List.length_append, cw_len]; kernel_rfl) ?_
      go_wp2_with (with_reducible refine wl_stop (o := ⟨some 27, _, _, _, _, _⟩) ?_)
      refine wl_buildL rfl rfl _ (built_fv (B64 ^ 4 - cP) cP) ?_
      go_wp2_with (with_reducible refine wl_stop (o := ⟨none, _, _, _, _, _⟩) ?_)
      refine wl_storeS st 0 rfl rfl rfl rfl (cs := cw 4 (B64 ^ 4 - cP) ++ cw 4 cP) rfl (by simp only [List.length_append, cw_len]) (by rw [List.length_append, cw_len, cw_len]; kernel_rfl) (cw2_one _ _ _ _) ?_
      intro w5 st5
      clear st
      have hr := st5.at 0 rfl
      have hfr := st5.fr
      clear st5
      go_wp2
      exact bodyPost_ret (results_st rfl rfl hr Try.underlying40 rfl (by simp only [List.length_append, cw_len]; kernel_rfl)) rfl ⟨by rw [fv_pP], hfr⟩

set_option maxHeartbeats 4000000 in
set_option maxRecDepth 100000 in
theorem Make1 (w : World) :
    Calls Try.prog 16 #[.int .i64 1] w fun e w' => e = .returned (fv pQ) ∧ Fr Nob w w' := by
  have st0 := St.start Nob w
  go_enter Try.func16, Try.ntmps16
  go_wp2_with (with_reducible refine wl_stop (o := ⟨some 2, _, _, _, _, _⟩) ?_)
  refine wl_allocS st0 rfl rfl (z := .agg #[.int .u64 0, .int .u64 0, .int .u64 0, .int .u64 0, .int .u64 0, .int .u64 0, .int .u64 0, .int .u64 0]) (by kernel_rfl) (cw 8 0) (by rw [cw_zero]; rfl) ?_
  intro g2 w1 st1
  clear st0
  go_wp2_with (with_reducible refine wl_stop (o := ⟨some 3, _, _, _, _, _⟩) ?_)
  refine wl_allocS st1 rfl rfl (z := .agg #[.int .u64 0, .int .u64 0, .int .u64 0, .int .u64 0]) (by kernel_rfl) (cw 4 0) (by rw [cw_zero]; rfl) ?_
  intro g3 w2 st2
  clear st1
  go_wp2_with (with_reducible refine wl_stop (o := ⟨none, _, _, _, _, _⟩) ?_)
  refine wl_storeS st2 1 rfl rfl rfl rfl (cs := cw 4 cP) words_c0 (by simp only [cw_len]) (by simp only [cw_len]; kernel_rfl) (cw_one _ _) ?_
  intro w3 st3
  clear st2
  go_wp2_with (with_reducible refine wl_stop (o := ⟨none, _, _, _, _, _⟩) ?_)
  refine wl_storeS st3 1 rfl rfl rfl rfl (cs := cw 4 cQ) words_c1 (by simp only [cw_len]) (by simp only [cw_len]; kernel_rfl) (cw_one _ _) ?_
  intro w4 st4
  clear st3
  go_wp2_with (with_reducible refine wl_stop (o := ⟨some 4, _, _, _, _, _⟩) ?_)
  refine wl_allocS st4 rfl rfl (z := .agg #[.int .u64 0, .int .u64 0, .int .u64 0, .int .u64 0]) (by kernel_rfl) (cw 4 0) (by rw [cw_zero]; rfl) ?_
  intro g4 w5 st5
  clear st4
  go_wp2
  go_loopw [5, 6] (fun c i wr => ∃ k : Nat, k ≤ 4 ∧ i = .int .i64 (k : Int) ∧ c = .int .u64 (cSub 0 cQ k : Nat) ∧ St Nob w wr [(g2, cw 8 0, 40), (g3, cw 4 cQ, 38), (g4, cw 4 (mix (0 + B64 ^ 4 - cQ) 0 k), 38)]) (fun _ i _ => 4 - (intOf i).toNat)
  case atStart => exact ⟨0, by omega, rfl, by rw [cSub_zero]; rfl, by rw [mix_zero]; exact st5⟩
  case round =>
    obtain ⟨k, hk, rfl, rfl, st⟩ := hrel
    clear st5
    by_cases hlt : k < 4
    · have hltI : (k : Int) < 4 := by omega
      have c2 := (st.at 1 rfl).cell (cw_get 4 cQ k hlt)
      obtain ⟨v3, c3, f3⟩ := (st.at 2 rfl).ready (i := k) (by rw [cw_len]; exact hlt)
      have e1 : ∀ wx, (callFunc 39 #[.int .u64 0, .int .u64 (lw cQ k : Nat), .int .u64 (cSub 0 cQ k : Nat)]).run Try.prog wx = .ok (.value (.tuple #[.int .u64 (lw (0 + B64 ^ 4 - cQ) k : Nat), .int .u64 (cSub 0 cQ (k + 1) : Nat)])) wx := fun wx => by
        have h := sub64_run 0 (lw cQ k) (cSub 0 cQ k) (cSub_le 0 cQ k) wx
        rw [lw_sub 4 0 cQ k cQ_lt hlt, cSub_succ, lw_top 0 0 k (by decide) (Nat.zero_le _)]
        exact h
      go_wp2
      go_roundw
      case rel =>
        have h1 := st.set 2 rfl k (.int .u64 (lw (0 + B64 ^ 4 - cQ) k : Nat))
        rw [cw_set _ _ _ _ hlt] at h1
        exact ⟨k + 1, by omega, by go_num, rfl, h1⟩
      case measure => simp [intOf]; omega
    · have hge : ¬ ((k : Int) < 4) := by omega
      have hk4 : k = 4 := by omega
      rw [hk4, mix_top _ _ _ (by decide), cw_mod, Nat.zero_add] at st
      clear hk4
      go_wp2_with (with_reducible refine wl_stop (o := ⟨some 25, _, _, _, _, _⟩) ?_)
      refine wl_loadS st 2 rfl rfl rfl Try.underlying38 rfl (by simp only [List.length_append, cw_len]; kernel_rfl) ?_
      go_wp2_with (with_reducible refine wl_stop (o := ⟨some 26, _, _, _, _, _⟩) ?_)
      refine wl_loadS st 1 rfl rfl rfl Try.underlying38 rfl (by simp only [List.length_append, cw_len]; kernel_rfl) ?_
      go_wp2_with (with_reducible refine wl_stop (o := ⟨some 27, _, _, _, _, _⟩) ?_)
      refine wl_buildL rfl rfl _ (built_fv (B64 ^ 4 - cQ) cQ) ?_
      go_wp2_with (with_reducible refine wl_stop (o := ⟨none, _, _, _, _, _⟩) ?_)
      refine wl_storeS st 0 rfl rfl rfl rfl (cs := cw 4 (B64 ^ 4 - cQ) ++ cw 4 cQ) rfl (by simp only [List.length_append, cw_len]) (by rw [List.length_append, cw_len, cw_len]; kernel_rfl) (cw2_one _ _ _ _) ?_
      intro w6 st6
      clear st
      have hr := st6.at 0 rfl
      have hfr := st6.fr
      clear st6
      go_wp2
      exact bodyPost_ret (results_st rfl rfl hr Try.underlying40 rfl (by simp only [List.length_append, cw_len]; kernel_rfl)) rfl ⟨by rw [fv_pQ], hfr⟩
end Go.Proofs.Ytmegaegedlbckaa
