/- The reference's Pow, Inv, Number, Mod. -/
import Derived.Test.YtmegaegedlbckaaNm9
namespace Go.Proofs.Ytmegaegedlbckaa
open Go.RowKit Go.Mv Mvp
attribute [local irreducible] limbs lw mix cw cSub cAdd cMul foldC valFrom beN laid be32 powm

theorem powm_lt (a n p i : Nat) (hp : 0 < p) : powm a n p i < p := by unfold powm; exact Nat.mod_lt _ hp

set_option maxHeartbeats 4000000 in
set_option maxRecDepth 100000 in
theorem Pow_any (p a n : Nat) (w : World) (hp1 : 1 < p) (hp : p < B64 ^ 4) (ha : a < B64 ^ 4) (hn : n < B64 ^ 4) :
    Calls Try.prog 58 #[fv p, i4 a, i4 n] w fun e w' => e = .returned (i4 (a ^ n % p)) ∧ Fr Nob w w' := by
  have HP1 := Lib.hid hp1
  have HP := Lib.hid hp
  have HA := Lib.hid ha
  have HN := Lib.hid hn
  have HP0 := Lib.hid (show 0 < p by omega)
  have H1 := Lib.hid (show (1 : Nat) = powm a n p 256 from (powm_top a n p hp1 hn).symm)
  clear hp1 hp ha hn
  have st0 := St.start Nob w
  go_enter Try.func58, Try.ntmps58
  go_wp2_with (with_reducible refine wl_stop (o := ⟨some 3, _, _, _, _, _⟩) ?_)
  refine wl_boxS st0 rfl rfl rfl (cw 4 p ++ cw 4 (B64 ^ 4 - p)) rfl ?_
  intro g3 w1 st1
  clear st0
  go_wp2_with (with_reducible refine wl_stop (o := ⟨some 4, _, _, _, _, _⟩) ?_)
  refine wl_boxS st1 rfl rfl rfl (cw 4 a) rfl ?_
  intro g4 w2 st2
  clear st1
  go_wp2_with (with_reducible refine wl_stop (o := ⟨some 5, _, _, _, _, _⟩) ?_)
  refine wl_boxS st2 rfl rfl rfl (cw 4 n) rfl ?_
  intro g5 w3 st3
  clear st2
  go_wp2_with (with_reducible refine wl_stop (o := ⟨some 6, _, _, _, _, _⟩) ?_)
  refine wl_allocS st3 rfl rfl (z := .agg #[.int .u64 0, .int .u64 0, .int .u64 0, .int .u64 0]) (by kernel_rfl) (cw 4 0) (by rw [cw_zero]; rfl) ?_
  intro g6 w4 st4
  clear st3
  go_wp2_with fail
  refine (Small_any 1 _ (by decide)).mono ?_
  rintro e' w5 ⟨rfl, hf5⟩
  have st5 := st4.keep hf5
  clear st4 hf5
  go_wp2_with (with_reducible refine wl_stop (o := ⟨some 7, _, _, _, _, _⟩) ?_)
  refine wl_allocS st5 rfl rfl (z := .agg #[.int .u64 0, .int .u64 0, .int .u64 0, .int .u64 0]) (by kernel_rfl) (cw 4 0) (by rw [cw_zero]; rfl) ?_
  intro g7 w6 st6
  clear st5
  go_wp2_with (with_reducible refine wl_stop (o := ⟨none, _, _, _, _, _⟩) ?_)
  refine wl_storeS st6 4 rfl rfl rfl rfl rfl (by simp only [List.length_append, cw_len]) (by simp only [List.length_append, cw_len]; kernel_rfl) (cw_one _ _) ?_
  intro w7 st7
  clear st6
  rw [show (1 : Nat) = powm a n p 256 from H1.out] at st7
  go_wp2
  go_loopw [8] (fun i wr => ∃ j : Nat, j ≤ 256 ∧ i = .int .i64 ((j : Int) - 1) ∧ St Nob w wr [(g3, cw 4 p ++ cw 4 (B64 ^ 4 - p), 40), (g4, cw 4 a, 38), (g5, cw 4 n, 38), (g6, cw 4 0, 38), (g7, cw 4 (powm a n p j), 38)]) (fun i _ => (intOf i + 1).toNat)
  case atStart => exact ⟨256, by omega, rfl, st7⟩
  case round =>
    obtain ⟨j, hj, rfl, st⟩ := hrel
    clear st7
    cases j with
    | succ i =>
      rw [show (((i + 1 : Nat) : Int)) - 1 = (i : Int) by omega]
      have hge : (0 : Int) ≤ (i : Int) := by omega
      have hlt := powm_lt a n p (i + 1) HP0.out
      have HLT := Lib.hid (Nat.lt_trans hlt HP.out)
      clear hlt
      go_wp2_with (with_reducible refine wl_stop (o := ⟨some 14, _, _, _, _, _⟩) ?_)
      refine wl_loadSt st 0 rfl rfl rfl Try.underlying40 rfl rfl (by simp only [List.length_append, cw_len]; kernel_rfl) ?_
      go_wp2_with (with_reducible refine wl_stop (o := ⟨some 15, _, _, _, _, _⟩) ?_)
      refine wl_loadS st 4 rfl rfl rfl Try.underlying38 rfl (by simp only [List.length_append, cw_len]; kernel_rfl) ?_
      go_wp2_with (with_reducible refine wl_stop (o := ⟨some 16, _, _, _, _, _⟩) ?_)
      refine wl_loadS st 4 rfl rfl rfl Try.underlying38 rfl (by simp only [List.length_append, cw_len]; kernel_rfl) ?_
      go_wp2_with fail
      refine (Mul_any p (powm a n p (i + 1)) (powm a n p (i + 1)) _ HP0.out HP.out HLT.out HLT.out).mono ?_
      rintro e' w8 ⟨rfl, hf8⟩
      have st8 := st.keep hf8
      clear st hf8
      go_wp2_with (with_reducible refine wl_stop (o := ⟨none, _, _, _, _, _⟩) ?_)
      refine wl_storeS st8 4 rfl rfl rfl rfl rfl (by simp only [List.length_append, cw_len]) (by simp only [List.length_append, cw_len]; kernel_rfl) (cw_one _ _) ?_
      intro w9 st9
      clear st8
      go_wp2_with (with_reducible refine wl_stop (o := ⟨some 18, _, _, _, _, _⟩) ?_)
      refine wl_loadS st9 2 rfl rfl rfl Try.underlying38 rfl (by simp only [List.length_append, cw_len]; kernel_rfl) ?_
      go_wp2_with fail
      refine (RBit_any n i _ (by omega)).mono ?_
      rintro e' w10 ⟨rfl, hf10⟩
      have st10 := st9.keep hf10
      clear st9 hf10
      have hbt : n / 2 ^ i % 2 = 0 ∨ n / 2 ^ i % 2 = 1 := by omega
      have HS0 := Lib.hid (powm_step0 a n p i)
      have HS1 := Lib.hid (powm_step1 a n p i)
      generalize hbb : n / 2 ^ i % 2 = bt at *
      have HBB := Lib.hid hbb
      clear hbb
      rcases hbt with rfl | rfl
      · have hst := st10
        rw [HS0.out (by first | rfl | trivial)] at hst
        clear st10
        go_wp2
        go_roundw
        case rel => exact ⟨i, by omega, rfl, hst⟩
        case measure => simp [intOf]
      · have HLQ := Lib.hid (show (powm a n p (i + 1) * powm a n p (i + 1) % p) < B64 ^ 4 from Nat.lt_trans (Nat.mod_lt _ HP0.out) HP.out)
        go_wp2_with (with_reducible refine wl_stop (o := ⟨some 22, _, _, _, _, _⟩) ?_)
        refine wl_loadSt st10 0 rfl rfl rfl Try.underlying40 rfl rfl (by simp only [List.length_append, cw_len]; kernel_rfl) ?_
        go_wp2_with (with_reducible refine wl_stop (o := ⟨some 23, _, _, _, _, _⟩) ?_)
        refine wl_loadS st10 4 rfl rfl rfl Try.underlying38 rfl (by simp only [List.length_append, cw_len]; kernel_rfl) ?_
        go_wp2_with (with_reducible refine wl_stop (o := ⟨some 24, _, _, _, _, _⟩) ?_)
        refine wl_loadS st10 1 rfl rfl rfl Try.underlying38 rfl (by simp only [List.length_append, cw_len]; kernel_rfl) ?_
        go_wp2_with fail
        refine (Mul_any p (powm a n p (i + 1) * powm a n p (i + 1) % p) a _ HP0.out HP.out HLQ.out HA.out).mono ?_
        rintro e' w11 ⟨rfl, hf11⟩
        have st11 := st10.keep hf11
        clear st10 hf11
        go_wp2_with (with_reducible refine wl_stop (o := ⟨none, _, _, _, _, _⟩) ?_)
        refine wl_storeS st11 4 rfl rfl rfl rfl rfl (by simp only [List.length_append, cw_len]) (by simp only [List.length_append, cw_len]; kernel_rfl) (cw_one _ _) ?_
        intro w12 st12
        clear st11
        have hst := st12
        rw [HS1.out (by first | rfl | trivial)] at hst
        clear st12
        go_wp2
        go_roundw
        case rel => exact ⟨i, by omega, rfl, hst⟩
        case measure => simp [intOf]
    | zero =>
      rw [show (((0 : Nat) : Int)) - 1 = -1 by omega]
      go_wp2_with (with_reducible refine wl_stop (o := ⟨some 26, _, _, _, _, _⟩) ?_)
      refine wl_loadS st 4 rfl rfl rfl Try.underlying38 rfl (by simp only [List.length_append, cw_len]; kernel_rfl) ?_
      go_wp2_with (with_reducible refine wl_stop (o := ⟨none, _, _, _, _, _⟩) ?_)
      refine wl_storeS st 3 rfl rfl rfl rfl rfl (by simp only [List.length_append, cw_len]) (by simp only [List.length_append, cw_len]; kernel_rfl) (cw_one _ _) ?_
      intro w8 st8
      clear st
      have hr := st8.at 3 rfl
      have hfr := st8.fr
      clear st8
      go_wp2_with fail
      exact bodyPost_ret (results_arr rfl rfl hr Try.underlying38 (by simp only [List.length_append, cw_len]; kernel_rfl)) rfl ⟨by rw [powm_all]; rfl, hfr⟩

set_option maxHeartbeats 4000000 in
set_option maxRecDepth 100000 in
theorem Inv_any (p a : Nat) (w : World) (hp1 : 1 < p) (hp : p < B64 ^ 4) (ha : a < B64 ^ 4) :
    Calls Try.prog 33 #[fv p, i4 a] w fun e w' => e = .returned (i4 (a ^ (p - 2) % p)) ∧ Fr Nob w w' := by
  have HP1 := Lib.hid hp1
  have HP := Lib.hid hp
  have HA := Lib.hid ha
  have HPP := Lib.hid (show p - 2 < B64 ^ 4 by omega)
  have h2l := fun wx => less_any p 2 wx (by decide)
  rw [neg_words p 2 (by omega), ← small_words 2 (by decide)] at h2l
  have H2L := Lib.hid h2l
  clear h2l
  clear hp1 hp ha
  have st0 := St.start Nob w
  go_enter Try.func33, Try.ntmps33
  go_wp2_with (with_reducible refine wl_stop (o := ⟨some 2, _, _, _, _, _⟩) ?_)
  refine wl_boxS st0 rfl rfl rfl (cw 4 p ++ cw 4 (B64 ^ 4 - p)) rfl ?_
  intro g2 w1 st1
  clear st0
  go_wp2_with (with_reducible refine wl_stop (o := ⟨some 3, _, _, _, _, _⟩) ?_)
  refine wl_boxS st1 rfl rfl rfl (cw 4 a) rfl ?_
  intro g3 w2 st2
  clear st1
  go_wp2_with (with_reducible refine wl_stop (o := ⟨some 4, _, _, _, _, _⟩) ?_)
  refine wl_allocS st2 rfl rfl (z := .agg #[.int .u64 0, .int .u64 0, .int .u64 0, .int .u64 0]) (by kernel_rfl) (cw 4 0) (by rw [cw_zero]; rfl) ?_
  intro g4 w3 st3
  clear st2
  go_wp2_with (with_reducible refine wl_stop (o := ⟨some 9, _, _, _, _, _⟩) ?_)
  refine wl_loadA rfl rfl Try.underlying38 rfl (st3.at 0 rfl) (cw 4 p) (cw_left 4 4 _ _) (by simp only [List.length_append, cw_len]; kernel_rfl) ?_
  go_wp2_with fail
  refine (H2L.out _).mono ?_
  rintro e' w4 ⟨rfl, hf4⟩
  have st4 := st3.keep hf4
  clear st3 hf4
  go_wp2_with (with_reducible refine wl_stop (o := ⟨some 5, _, _, _, _, _⟩) ?_)
  refine wl_allocS st4 rfl rfl (z := .agg #[.int .u64 0, .int .u64 0, .int .u64 0, .int .u64 0]) (by kernel_rfl) (cw 4 0) (by rw [cw_zero]; rfl) ?_
  intro g5 w5 st5
  clear st4
  go_wp2_with (with_reducible refine wl_stop (o := ⟨none, _, _, _, _, _⟩) ?_)
  refine wl_storeS st5 3 rfl rfl rfl rfl rfl (by simp only [List.length_append, cw_len]) (by simp only [List.length_append, cw_len]; kernel_rfl) (cw_one _ _) ?_
  intro w6 st6
  clear st5
  go_wp2_with (with_reducible refine wl_stop (o := ⟨some 14, _, _, _, _, _⟩) ?_)
  refine wl_loadSt st6 0 rfl rfl rfl Try.underlying40 rfl rfl (by simp only [List.length_append, cw_len]; kernel_rfl) ?_
  go_wp2_with (with_reducible refine wl_stop (o := ⟨some 15, _, _, _, _, _⟩) ?_)
  refine wl_loadS st6 1 rfl rfl rfl Try.underlying38 rfl (by simp only [List.length_append, cw_len]; kernel_rfl) ?_
  go_wp2_with (with_reducible refine wl_stop (o := ⟨some 16, _, _, _, _, _⟩) ?_)
  refine wl_loadS st6 3 rfl rfl rfl Try.underlying38 rfl (by simp only [List.length_append, cw_len]; kernel_rfl) ?_
  go_wp2_with fail
  refine (Pow_any p a (p - 2) _ HP1.out HP.out HA.out HPP.out).mono ?_
  rintro e' w7 ⟨rfl, hf7⟩
  have st7 := st6.keep hf7
  clear st6 hf7
  go_wp2_with (with_reducible refine wl_stop (o := ⟨none, _, _, _, _, _⟩) ?_)
  refine wl_storeS st7 2 rfl rfl rfl rfl rfl (by simp only [List.length_append, cw_len]) (by simp only [List.length_append, cw_len]; kernel_rfl) (cw_one _ _) ?_
  intro w8 st8
  clear st7
  have hr := st8.at 2 rfl
  have hfr := st8.fr
  clear st8
  go_wp2_with fail
  exact bodyPost_ret (results_arr rfl rfl hr Try.underlying38 (by simp only [List.length_append, cw_len]; kernel_rfl)) rfl ⟨rfl, hfr⟩
end Go.Proofs.Ytmegaegedlbckaa
