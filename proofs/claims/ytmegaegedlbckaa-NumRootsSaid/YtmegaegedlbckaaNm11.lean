/- The reference's Number, Mod, Make. -/
import Derived.Test.YtmegaegedlbckaaNm10
namespace Go.Proofs.Ytmegaegedlbckaa
open Go.RowKit Go.Mv Mvp
attribute [local irreducible] limbs lw mix cw cSub cAdd cMul foldC valFrom beN laid be32 powm

set_option maxHeartbeats 4000000 in
set_option maxRecDepth 100000 in
theorem Number_bad (p : Nat) (s : ByteArray) (w : World) (hs : s.size ≠ 32) :
    Calls Try.prog 29 #[fv p, .string s] w fun e w' => e = .returned (.tuple #[i4 0, .bool false]) ∧ Fr Nob w w' := by
  have HS := Lib.hid hs
  have HZ := Lib.hid (small_words 0 (by decide))
  clear hs
  have st0 := St.start Nob w
  go_enter Try.func29, Try.ntmps29
  go_wp2_with (with_reducible refine wl_stop (o := ⟨some 2, _, _, _, _, _⟩) ?_)
  refine wl_boxS st0 rfl rfl rfl (cw 4 p ++ cw 4 (B64 ^ 4 - p)) rfl ?_
  intro g2 w1 st1
  clear st0
  go_wp2_with (with_reducible refine wl_stop (o := ⟨some 4, _, _, _, _, _⟩) ?_)
  refine wl_allocS st1 rfl rfl (z := .agg #[.int .u64 0, .int .u64 0, .int .u64 0, .int .u64 0]) (by kernel_rfl) (cw 4 0) (by rw [cw_zero]; rfl) ?_
  intro g4 w2 st2
  clear st1
  have hne : ((s.size : Int) != 32) = true := by have := HS.out; simp; omega
  go_wp2_with (with_reducible refine wl_stop (o := ⟨none, _, _, _, _, _⟩) ?_)
  refine wl_storeS st2 1 rfl rfl rfl rfl (cs := cw 4 0) HZ.out (by simp only [cw_len]) (by simp only [cw_len]; kernel_rfl) (cw_one _ _) ?_
  intro w9 st9
  clear st2
  have hr := st9.at 1 rfl
  have hfr := st9.fr
  clear st9
  go_wp2_with fail
  exact bodyPost_ret (results_arr2 rfl rfl hr Try.underlying38 (by simp only [List.length_append, cw_len]; kernel_rfl) rfl) rfl ⟨rfl, hfr⟩

set_option maxHeartbeats 4000000 in
set_option maxRecDepth 100000 in
theorem Number_ok (p : Nat) (s : ByteArray) (w : World) (hs : s.size = 32) (hp : p < B64 ^ 4) :
    Calls Try.prog 29 #[fv p, .string s] w fun e w' => e = .returned (.tuple #[i4 (beN s.data.toList), .bool (decide (beN s.data.toList < p))]) ∧ Fr Nob w w' := by
  have HS := Lib.hid hs
  have HP := Lib.hid hp
  have HN := Lib.hid (beN_lt32 s hs)
  clear hs hp
  have st0 := St.start Nob w
  go_enter Try.func29, Try.ntmps29
  go_wp2_with (with_reducible refine wl_stop (o := ⟨some 2, _, _, _, _, _⟩) ?_)
  refine wl_boxS st0 rfl rfl rfl (cw 4 p ++ cw 4 (B64 ^ 4 - p)) rfl ?_
  intro g2 w1 st1
  clear st0
  go_wp2_with (with_reducible refine wl_stop (o := ⟨some 4, _, _, _, _, _⟩) ?_)
  refine wl_allocS st1 rfl rfl (z := .agg #[.int .u64 0, .int .u64 0, .int .u64 0, .int .u64 0]) (by kernel_rfl) (cw 4 0) (by rw [cw_zero]; rfl) ?_
  intro g4 w2 st2
  clear st1
  have hne : ((s.size : Int) != 32) = false := by have := HS.out; simp; omega
  go_wp2_with fail
  refine (Of_any s _ (by have := HS.out; omega)).mono ?_
  rintro e' w3 ⟨rfl, hf3⟩
  have st3 := st2.keep hf3
  clear st2 hf3
  go_wp2_with (with_reducible refine wl_stop (o := ⟨some 6, _, _, _, _, _⟩) ?_)
  refine wl_allocS st3 rfl rfl (z := .agg #[.int .u64 0, .int .u64 0, .int .u64 0, .int .u64 0]) (by kernel_rfl) (cw 4 0) (by rw [cw_zero]; rfl) ?_
  intro g6 w4 st4
  clear st3
  go_wp2_with (with_reducible refine wl_stop (o := ⟨none, _, _, _, _, _⟩) ?_)
  refine wl_storeS st4 2 rfl rfl rfl rfl rfl (by simp only [List.length_append, cw_len]) (by simp only [List.length_append, cw_len]; kernel_rfl) (cw_one _ _) ?_
  intro w5 st5
  clear st4
  go_wp2_with (with_reducible refine wl_stop (o := ⟨some 14, _, _, _, _, _⟩) ?_)
  refine wl_loadS st5 2 rfl rfl rfl Try.underlying38 rfl (by simp only [List.length_append, cw_len]; kernel_rfl) ?_
  go_wp2_with (with_reducible refine wl_stop (o := ⟨some 16, _, _, _, _, _⟩) ?_)
  refine wl_loadA rfl rfl Try.underlying38 rfl (st5.at 0 rfl) (cw 4 p) (cw_left 4 4 _ _) (by simp only [List.length_append, cw_len]; kernel_rfl) ?_
  go_wp2_with fail
  refine (Below_any (beN s.data.toList) p _ HN.out HP.out).mono ?_
  rintro e' w6 ⟨rfl, hf6⟩
  have st6 := st5.keep hf6
  clear st5 hf6
  go_wp2_with (with_reducible refine wl_stop (o := ⟨some 18, _, _, _, _, _⟩) ?_)
  refine wl_loadS st6 2 rfl rfl rfl Try.underlying38 rfl (by simp only [List.length_append, cw_len]; kernel_rfl) ?_
  go_wp2_with (with_reducible refine wl_stop (o := ⟨none, _, _, _, _, _⟩) ?_)
  refine wl_storeS st6 1 rfl rfl rfl rfl rfl (by simp only [List.length_append, cw_len]) (by simp only [List.length_append, cw_len]; kernel_rfl) (cw_one _ _) ?_
  intro w7 st7
  clear st6
  have hr := st7.at 1 rfl
  have hfr := st7.fr
  clear st7
  go_wp2_with fail
  exact bodyPost_ret (results_arr2 rfl rfl hr Try.underlying38 (by simp only [List.length_append, cw_len]; kernel_rfl) rfl) rfl ⟨rfl, hfr⟩

set_option maxHeartbeats 4000000 in
set_option maxRecDepth 100000 in
theorem Mod_any (p : Nat) (s : ByteArray) (w : World) (hp0 : 0 < p) (hp : p < B64 ^ 4) (hs : s.size ≤ 1000000) :
    Calls Try.prog 18 #[fv p, .string s] w fun e w' => e = .returned (i4 (beN s.data.toList % p)) ∧ Fr Nob w w' := by
  have HS := Lib.hid hs
  have HP0 := Lib.hid hp0
  have HP := Lib.hid hp
  have HZ := Lib.hid (small_words 0 (by decide))
  have HSZ := Lib.hid (show s.data.toList.length = s.size by simp)
  clear hs hp0 hp
  have st0 := St.start Nob w
  go_enter Try.func18, Try.ntmps18
  go_wp2_with (with_reducible refine wl_stop (o := ⟨some 2, _, _, _, _, _⟩) ?_)
  refine wl_boxS st0 rfl rfl rfl (cw 4 p ++ cw 4 (B64 ^ 4 - p)) rfl ?_
  intro g2 w1 st1
  clear st0
  go_wp2_with (with_reducible refine wl_stop (o := ⟨some 4, _, _, _, _, _⟩) ?_)
  refine wl_allocS st1 rfl rfl (z := .agg #[.int .u64 0, .int .u64 0, .int .u64 0, .int .u64 0]) (by kernel_rfl) (cw 4 0) (by rw [cw_zero]; rfl) ?_
  intro g4 w2 st2
  clear st1
  go_wp2_with (with_reducible refine wl_stop (o := ⟨some 5, _, _, _, _, _⟩) ?_)
  refine wl_allocS st2 rfl rfl (z := .agg #[.int .u64 0, .int .u64 0, .int .u64 0, .int .u64 0]) (by kernel_rfl) (cw 4 0) (by rw [cw_zero]; rfl) ?_
  intro g5 w3 st3
  clear st2
  go_wp2_with (with_reducible refine wl_stop (o := ⟨none, _, _, _, _, _⟩) ?_)
  refine wl_storeS st3 2 rfl rfl rfl rfl (cs := cw 4 0) HZ.out (by simp only [cw_len]) (by simp only [cw_len]; kernel_rfl) (cw_one _ _) ?_
  intro w9 st9
  clear st3
  have hmx : s.size ≤ 1000000 := HS.out
  go_wp2
  go_loopw [6] (fun i wr => ∃ k : Nat, k ≤ s.size ∧ i = .int .i64 (k : Int) ∧ St Nob w wr [(g2, cw 4 p ++ cw 4 (B64 ^ 4 - p), 40), (g4, cw 4 0, 38), (g5, cw 4 (beN (s.data.toList.take k) % p), 38)]) (fun i _ => s.size - (intOf i).toNat)
  case atStart => exact ⟨0, by omega, rfl, by rw [List.take_zero, beN_nil, Nat.zero_mod]; exact st9⟩
  case round =>
    obtain ⟨i, hi, rfl, st⟩ := hrel
    clear st9
    by_cases hlt : i < s.size
    · have hltI : (i : Int) < (s.size : Int) := by omega
      have hll : i < s.data.toList.length := by rw [HSZ.out]; exact hlt
      have hx : ∀ h1 : i < s.size, s[i]'h1 = s.data.toList.getD i 0 := by
        intro h1
        rw [List.getD_eq_getElem?_getD, List.getElem?_eq_getElem (by simpa using h1)]
        simp
        rfl
      have hsucc := beN_take s.data.toList i hll
      have hmlt := Nat.mod_lt (beN (s.data.toList.take i)) HP0.out
      generalize hM : beN (s.data.toList.take (i + 1)) = M' at *
      generalize hN : beN (s.data.toList.take i) = N at *
      generalize s.data.toList.getD i 0 = x at *
      have HN := Lib.hid hN; clear hN
      have HM := Lib.hid hM; clear hM
      have HLN := Lib.hid (Nat.lt_trans hmlt HP.out)
      have hfin : (N % p * 256 + x.toNat) % p = M' % p := by rw [hsucc, Nat.add_mod, Nat.mod_mul_mod, ← Nat.add_mod]
      have hbig : N % p * 256 + x.toNat < B64 ^ 8 := by
        have h1 := HP.out
        have h2 := x.toNat_lt
        exact Nat.lt_of_lt_of_le (show N % p * 256 + x.toNat < B64 ^ 4 * 256 by omega) (by decide)
      have HFIN := Lib.hid hfin
      have HBIG := Lib.hid hbig
      have hprod := fun wx => productR_any (N % p) 256 wx HLN.out (by decide)
      rw [← small_words 256 (by decide)] at hprod
      have HPROD := Lib.hid hprod
      have hplus := fun wx => plusR_any (N % p * 256) x.toNat wx
      rw [← small8_words x.toNat (Nat.lt_trans x.toNat_lt (by decide))] at hplus
      have HPLUS := Lib.hid hplus
      clear hll hsucc hmlt hfin hbig hprod hplus
      go_wp2_with (with_reducible refine wl_stop (o := ⟨some 15, _, _, _, _, _⟩) ?_)
      refine wl_loadS st 2 rfl rfl rfl Try.underlying38 rfl (by simp only [List.length_append, cw_len]; kernel_rfl) ?_
      go_wp2_with fail
      refine (HPROD.out _).mono ?_
      rintro e' w10 ⟨rfl, hf10⟩
      have st10 := st.keep hf10
      clear st hf10
      go_wp2_with (with_reducible refine wl_stop (o := ⟨some 7, _, _, _, _, _⟩) ?_)
      refine wl_allocS st10 rfl rfl (z := .agg #[.int .u64 0, .int .u64 0, .int .u64 0, .int .u64 0, .int .u64 0, .int .u64 0, .int .u64 0, .int .u64 0]) (by kernel_rfl) (cw 8 0) (by rw [cw_zero]; rfl) ?_
      intro g7 w11 st11
      clear st10
      go_wp2_with (with_reducible refine wl_stop (o := ⟨none, _, _, _, _, _⟩) ?_)
      refine wl_storeS st11 3 rfl rfl rfl rfl rfl (by simp only [List.length_append, cw_len]) (by simp only [List.length_append, cw_len]; kernel_rfl) (cw_one _ _) ?_
      intro w12 st12
      clear st11
      go_wp2_with fail
      refine wp_region_noPanic ?_
      refine wp_region_seq (fun wx => St Nob w wx [(g2, cw 4 p ++ cw 4 (B64 ^ 4 - p), 40), (g4, cw 4 0, 38), (g5, cw 4 (N % p), 38), (g7, cw 8 (N % p * 256), 74)]) 9 [(0, true), (1, true), (2, true), (3, true), (4, true), (5, true), (6, true), (7, false), (8, false)] (by kernel_rfl) (by kernel_rfl) st12.drew (fun _ _ _ _ _ h => h) ?_
      have hd12 := st12.drew
      refine seq_arr rfl rfl rfl rfl (cw 4 p ++ cw 4 (B64 ^ 4 - p)) (fun wx hS => St.rangeL hS 0 rfl 0 _ (by rw [List.drop_zero, List.take_of_length_le (Nat.le_refl _)])) Try.underlying40 rfl (by simp only [List.length_append, cw_len]; kernel_rfl) ?_
      try simp only [Act.put, List.setIfInBounds_toArray, List.set_cons_zero, List.set_cons_succ]
      refine seq_arr rfl rfl rfl rfl (cw 8 (N % p * 256)) (fun wx hS => St.rangeL hS 3 rfl 0 _ (by rw [List.drop_zero, List.take_of_length_le (Nat.le_refl _)])) Try.underlying74 rfl (by simp only [List.length_append, cw_len]; kernel_rfl) ?_
      try simp only [Act.put, List.setIfInBounds_toArray, List.set_cons_zero, List.set_cons_succ]
      refine seq_pure (v := ?_) rfl rfl (fun wx hS => ?_) ?_
      rotate_left 1
      · (clear hS; go_simp; with_reducible rfl)
      try simp only [Act.put, List.setIfInBounds_toArray, List.set_cons_zero, List.set_cons_succ]
      refine seq_pure (v := ?_) rfl rfl (fun wx hS => ?_) ?_
      rotate_left 1
      · (clear hS; go_simp; with_reducible rfl)
      try simp only [Act.put, List.setIfInBounds_toArray, List.set_cons_zero, List.set_cons_succ]
      refine seq_pure (v := ?_) rfl rfl (fun wx hS => ?_) ?_
      rotate_left 1
      · (clear hS; go_simp; with_reducible rfl)
      try simp only [Act.put, List.setIfInBounds_toArray, List.set_cons_zero, List.set_cons_succ]
      refine seq_pure (v := ?_) rfl rfl (fun wx hS => ?_) ?_
      rotate_left 1
      · (clear hS; go_simp; with_reducible rfl)
      try simp only [Act.put, List.setIfInBounds_toArray, List.set_cons_zero, List.set_cons_succ]
      refine seq_pure (v := ?_) rfl rfl (fun wx hS => ?_) ?_
      rotate_left 1
      · (clear hS; go_simp; with_reducible rfl)
      try simp only [Act.put, List.setIfInBounds_toArray, List.set_cons_zero, List.set_cons_succ]
      refine seq_run rfl rfl ?_
      go_simp
      refine (HPLUS.out _).mono ?_
      rintro e' w13 ⟨rfl, hf13⟩
      have st13 := hd12.keep hf13
      clear hd12 hf13
      refine ⟨st13, ?_⟩
      try simp only [Act.put, List.setIfInBounds_toArray, List.set_cons_zero, List.set_cons_succ]
      refine seq_run rfl rfl ?_
      go_simp
      refine (Less_any p (N % p * 256 + x.toNat) _ HP0.out HP.out HBIG.out).mono ?_
      rintro e' w14 ⟨rfl, hf14⟩
      have st14 := st13.keep hf14
      clear st13 hf14
      refine ⟨st14, ?_⟩
      try simp only [Act.put, List.setIfInBounds_toArray, List.set_cons_zero, List.set_cons_succ]
      refine seq_end ?_
      try simp only [List.drop_succ_cons, List.drop_zero]
      refine wl_storeS st14 2 rfl rfl rfl rfl rfl (by simp only [List.length_append, cw_len]) (by simp only [List.length_append, cw_len]; kernel_rfl) (cw_one _ _) ?_
      intro w15 st15
      clear st14
      go_wp2_with fail
      refine NoPanic.normal ?_
      have hst := st15
      rw [HFIN.out] at hst
      clear st15
      go_wp2
      go_roundw
      case rel => exact ⟨i + 1, by omega, by go_num, by rw [HM.out]; exact hst.less (by simp)⟩
      case measure => simp [intOf]; omega
    · have hge : ¬ ((i : Int) < (s.size : Int)) := by omega
      have hi2 : i = s.data.toList.length := by rw [HSZ.out]; omega
      rw [hi2, List.take_of_length_le (Nat.le_refl _)] at st
      clear hi2
      go_wp2_with (with_reducible refine wl_stop (o := ⟨some 27, _, _, _, _, _⟩) ?_)
      refine wl_loadS st 2 rfl rfl rfl Try.underlying38 rfl (by simp only [List.length_append, cw_len]; kernel_rfl) ?_
      go_wp2_with (with_reducible refine wl_stop (o := ⟨none, _, _, _, _, _⟩) ?_)
      refine wl_storeS st 1 rfl rfl rfl rfl rfl (by simp only [List.length_append, cw_len]) (by simp only [List.length_append, cw_len]; kernel_rfl) (cw_one _ _) ?_
      intro w10 st10
      clear st
      have hr := st10.at 1 rfl
      have hfr := st10.fr
      clear st10
      go_wp2_with fail
      exact bodyPost_ret (results_arr rfl rfl hr Try.underlying38 (by simp only [List.length_append, cw_len]; kernel_rfl)) rfl ⟨rfl, hfr⟩
end Go.Proofs.Ytmegaegedlbckaa
