/- The law NumRoots. -/
import Derived.Test.YtmegaegedlbckaaNr2
import Derived.Test.YtmegaegedlbckaaNs4
import Derived.Test.YtmegaegedlbckaaNs5
namespace Go.Proofs.Ytmegaegedlbckaa
open Go.RowKit Go.Mv Mvp
theorem low_k {k : Int} {m : Md} (h : KindOf k m) : lw (m.M / 4) 0 + 1 < 18446744073709551616 := by
  cases h
  · decide
  · decide
theorem FSqrt_ok (p a : Nat) (w : World) (hp1 : 1 < p) (hp : p < B64 ^ 4) (ha : a < p) (hlow : lw (p / 4) 0 + 1 < 18446744073709551616) (hr : rtOk p a = true) :
    Calls Try.prog 35 #[fv p, i4 a] w fun e w' => e = .returned (.tuple #[i4 (rtV p a % p), .bool true]) ∧ Fr Nob w w' := by
  unfold rtOk at hr
  unfold rtV
  unfold rtN at *
  have hn4 : p / 4 + 1 < B64 ^ 4 := by omega
  generalize hn : p / 4 + 1 = n at *
  have hpow := fun wx => Pow_any p a n wx hp1 hp (Nat.lt_trans ha hp) hn4
  have hR : a ^ n % p < p := Nat.mod_lt _ (by omega)
  rw [Nat.mul_mod, Nat.mod_eq_of_lt ha] at hr
  have hsame : a ^ n % p = a ^ n % p % p := (Nat.mod_mod _ _).symm
  generalize hRR : a ^ n % p = R at *
  have hb : decide (R * R % p = a) = true := by simpa using hr
  by_cases hpar : R % 2 = 1
  · rw [if_pos hpar]
    exact FSqrt_odd p a n R w (by omega) hp hn hn4 (Nat.lt_trans ha hp) hlow hR hpow hb hpar
  · rw [if_neg hpar, hRR]
    exact FSqrt_even p a n R w (by omega) hp hn hn4 (Nat.lt_trans ha hp) hlow hR hpow hb (by omega)
theorem FSqrt_bad (p a : Nat) (w : World) (hp1 : 1 < p) (hp : p < B64 ^ 4) (ha : a < p) (hlow : lw (p / 4) 0 + 1 < 18446744073709551616) (hr : rtOk p a = false) :
    Calls Try.prog 35 #[fv p, i4 a] w fun e w' => e = .returned (.tuple #[i4 0, .bool false]) ∧ Fr Nob w w' := by
  unfold rtOk at hr
  unfold rtN at *
  have hn4 : p / 4 + 1 < B64 ^ 4 := by omega
  generalize hn : p / 4 + 1 = n at *
  have hpow := fun wx => Pow_any p a n wx hp1 hp (Nat.lt_trans ha hp) hn4
  have hR : a ^ n % p < p := Nat.mod_lt _ (by omega)
  rw [Nat.mul_mod, Nat.mod_eq_of_lt ha] at hr
  generalize hRR : a ^ n % p = R at *
  have hb : decide (R * R % p = a) = false := by simpa using hr
  exact FSqrt_no p a n R w (by omega) hp hn hn4 (Nat.lt_trans ha hp) hlow hR hpow hb
attribute [local irreducible] limbs lw mix cw cSub cAdd cMul foldC valFrom beN laid be32 powm montT mstep elN mdL lentL numB numsB elCells rtN rtOk rtV

set_option maxHeartbeats 16000000 in
set_option maxRecDepth 1000000 in
theorem law_NumRoots_x (k : Int) (s : ByteArray) (w : World) (hs : s.size ≤ 16384) (h0 : (k == 0) = false) :
    Calls Try.prog 7 #[.int .i64 k, .string s] w fun e w' => e = .returned (.bool true) ∧ Fr Nob w w' := by
  have hgs : ¬ ((16384 : Int) < (s.size : Int)) := by omega
  have HS := Lib.hid hs
  clear hs
  have H0 := Lib.hid h0
  have h1 : (k != 0) = true := by simp only [bne, h0]; rfl
  have H1 := Lib.hid h1
  clear h0 h1
  go_enter Try.func7, Try.ntmps7
  go_wp2_with (with_reducible refine wl_stop (o := ⟨some 17, _, _, _, _, _⟩) ?_)
  refine wl_bytes (q := s) rfl rfl Try.underlying9 Try.underlying29 Try.underlying5 rfl (by have := HS.out; unfold maxLen; omega) w.heap.size (Nat.le_refl _) ?_
  intro cap w1 hown1 hf1 hz1
  clear hz1
  have HPA : Hid (BPart w1 (.slice (some ⟨w.heap.size, 0, none⟩) s.size cap) s.data.toList) := Lib.hid (by
    obtain ⟨a, c, e, hc, hr, -⟩ := hown1.form
    exact ⟨a, s.size, c, e, by omega, by rw [Nat.mul_one] at hr; exact hr⟩)
  have HF1 := Lib.hid hf1
  clear hown1 hf1
  generalize w.heap.size = gi at *
  go_wp2_with fail
  refine (NSqrt_x k _ _ H0.out).mono ?_
  rintro e w2 ⟨rfl, hf2⟩
  have hfr := HF1.out.then hf2
  have h1 := H1.out
  clear hf2
  go_wp2_with fail
  go_ret
  exact ⟨rfl, hfr⟩

set_option maxHeartbeats 16000000 in
set_option maxRecDepth 1000000 in
theorem law_NumRoots_bad (m : Md) (hk : KindOf 0 m) (s : ByteArray) (w : World) (hs : s.size ≤ 16384) (ha : numB m s.data.toList = false) :
    Calls Try.prog 7 #[.int .i64 0, .string s] w fun e w' => e = .returned (.bool true) ∧ Fr Nob w w' := by
  have hgs : ¬ ((16384 : Int) < (s.size : Int)) := by omega
  have HS := Lib.hid hs
  clear hs
  have HK := Lib.hid hk
  have HA := Lib.hid ha
  have HG := Lib.hid (show numsB m [s.data.toList] = false by unfold numsB; simp only [List.all_cons, List.all_nil, ha]; rfl)
  have HLOW := Lib.hid (low_k hk)
  clear hk ha
  go_enter Try.func7, Try.ntmps7
  go_wp2_with (with_reducible refine wl_stop (o := ⟨some 17, _, _, _, _, _⟩) ?_)
  refine wl_bytes (q := s) rfl rfl Try.underlying9 Try.underlying29 Try.underlying5 rfl (by have := HS.out; unfold maxLen; omega) w.heap.size (Nat.le_refl _) ?_
  intro cap w1 hown1 hf1 hz1
  clear hz1
  have HPA : Hid (BPart w1 (.slice (some ⟨w.heap.size, 0, none⟩) s.size cap) s.data.toList) := Lib.hid (by
    obtain ⟨a, c, e, hc, hr, -⟩ := hown1.form
    exact ⟨a, s.size, c, e, by omega, by rw [Nat.mul_one] at hr; exact hr⟩)
  have HF1 := Lib.hid hf1
  clear hown1 hf1
  generalize w.heap.size = gi at *
  go_wp2_with fail
  refine (NSqrt_bad m HK.out _ _ _ HPA.out HG.out).mono ?_
  rintro e w2 ⟨rfl, hf2⟩
  have HF2 := Lib.hid (HF1.out.then hf2)
  clear hf2
  have st0 := St.start Nob w2
  go_wp2_with fail
  refine (MakeK HK.out _).mono ?_
  rintro e' w3 ⟨rfl, hf3⟩
  have st3 := st0.keep hf3
  clear st0 hf3
  go_wp2_with (with_reducible refine wl_stop (o := ⟨some 7, _, _, _, _, _⟩) ?_)
  refine wl_allocS st3 rfl rfl (z := .agg #[.int .u64 0, .int .u64 0, .int .u64 0, .int .u64 0, .int .u64 0, .int .u64 0, .int .u64 0, .int .u64 0]) (by kernel_rfl) (cw 8 0) (by rw [cw_zero]; rfl) ?_
  intro g7 w4 st4
  clear st3
  go_wp2_with (with_reducible refine wl_stop (o := ⟨none, _, _, _, _, _⟩) ?_)
  refine wl_storeS st4 0 rfl rfl rfl rfl rfl (by first | (simp only [cw_len]; done) | (simp only [List.length_append, cw_len]; done)) (by first | (rw [cw_len]; kernel_rfl) | (simp only [List.length_append, cw_len]; kernel_rfl)) (cw2_one _ _ _ _) ?_
  intro w5 st5
  clear st4
  go_wp2_with (with_reducible refine wl_stop (o := ⟨some 32, _, _, _, _, _⟩) ?_)
  refine wl_loadSt st5 0 rfl rfl rfl Try.underlying40 rfl rfl (by first | (rw [cw_len]; kernel_rfl) | (simp only [List.length_append, cw_len]; kernel_rfl)) ?_
  go_wp2_with fail
  refine (Number_f m HK.out.ok.lt s _ HA.out).mono ?_
  rintro e' w6 ⟨NA, rfl, hf6⟩
  have st6 := st5.keep hf6
  clear st5 hf6
  go_wp2_with (with_reducible refine wl_stop (o := ⟨some 8, _, _, _, _, _⟩) ?_)
  refine wl_allocS st6 rfl rfl (z := .agg #[.int .u64 0, .int .u64 0, .int .u64 0, .int .u64 0]) (by kernel_rfl) (cw 4 0) (by rw [cw_zero]; rfl) ?_
  intro g8 w7 st7
  clear st6
  go_wp2_with (with_reducible refine wl_stop (o := ⟨none, _, _, _, _, _⟩) ?_)
  refine wl_storeS st7 1 rfl rfl rfl rfl rfl (by first | (simp only [cw_len]; done) | (simp only [List.length_append, cw_len]; done)) (by first | (rw [cw_len]; kernel_rfl) | (simp only [List.length_append, cw_len]; kernel_rfl)) (cw_one _ _) ?_
  intro w8 st8
  clear st7
  have hfr := HF2.out.then st8.fr
  clear st8
  go_wp2_with fail
  go_ret
  exact ⟨rfl, hfr⟩

set_option maxHeartbeats 16000000 in
set_option maxRecDepth 1000000 in
theorem law_NumRoots_none (m : Md) (hk : KindOf 0 m) (s : ByteArray) (w : World) (hs : s.size ≤ 16384) (ha : numB m s.data.toList = true) (hr : rtOk m.M (beN s.data.toList) = false) :
    Calls Try.prog 7 #[.int .i64 0, .string s] w fun e w' => e = .returned (.bool true) ∧ Fr Nob w w' := by
  have hgs : ¬ ((16384 : Int) < (s.size : Int)) := by omega
  have HS := Lib.hid hs
  clear hs
  have HK := Lib.hid hk
  have HA := Lib.hid ha
  have HG := Lib.hid (show numsB m [s.data.toList] = true by unfold numsB; simp only [List.all_cons, List.all_nil, ha]; rfl)
  have HLOW := Lib.hid (low_k hk)
  have HLT := Lib.hid (numB_lt m _ ha)
  have HR := Lib.hid hr
  clear hk ha hr
  go_enter Try.func7, Try.ntmps7
  go_wp2_with (with_reducible refine wl_stop (o := ⟨some 17, _, _, _, _, _⟩) ?_)
  refine wl_bytes (q := s) rfl rfl Try.underlying9 Try.underlying29 Try.underlying5 rfl (by have := HS.out; unfold maxLen; omega) w.heap.size (Nat.le_refl _) ?_
  intro cap w1 hown1 hf1 hz1
  clear hz1
  have HPA : Hid (BPart w1 (.slice (some ⟨w.heap.size, 0, none⟩) s.size cap) s.data.toList) := Lib.hid (by
    obtain ⟨a, c, e, hc, hr, -⟩ := hown1.form
    exact ⟨a, s.size, c, e, by omega, by rw [Nat.mul_one] at hr; exact hr⟩)
  have HF1 := Lib.hid hf1
  clear hown1 hf1
  generalize w.heap.size = gi at *
  go_wp2_with fail
  refine (NSqrt_none m HK.out _ _ _ HPA.out HG.out HR.out).mono ?_
  rintro e w2 ⟨rfl, hf2⟩
  have HF2 := Lib.hid (HF1.out.then hf2)
  clear hf2
  have st0 := St.start Nob w2
  go_wp2_with fail
  refine (MakeK HK.out _).mono ?_
  rintro e' w3 ⟨rfl, hf3⟩
  have st3 := st0.keep hf3
  clear st0 hf3
  go_wp2_with (with_reducible refine wl_stop (o := ⟨some 7, _, _, _, _, _⟩) ?_)
  refine wl_allocS st3 rfl rfl (z := .agg #[.int .u64 0, .int .u64 0, .int .u64 0, .int .u64 0, .int .u64 0, .int .u64 0, .int .u64 0, .int .u64 0]) (by kernel_rfl) (cw 8 0) (by rw [cw_zero]; rfl) ?_
  intro g7 w4 st4
  clear st3
  go_wp2_with (with_reducible refine wl_stop (o := ⟨none, _, _, _, _, _⟩) ?_)
  refine wl_storeS st4 0 rfl rfl rfl rfl rfl (by first | (simp only [cw_len]; done) | (simp only [List.length_append, cw_len]; done)) (by first | (rw [cw_len]; kernel_rfl) | (simp only [List.length_append, cw_len]; kernel_rfl)) (cw2_one _ _ _ _) ?_
  intro w5 st5
  clear st4
  go_wp2_with (with_reducible refine wl_stop (o := ⟨some 32, _, _, _, _, _⟩) ?_)
  refine wl_loadSt st5 0 rfl rfl rfl Try.underlying40 rfl rfl (by first | (rw [cw_len]; kernel_rfl) | (simp only [List.length_append, cw_len]; kernel_rfl)) ?_
  go_wp2_with fail
  refine (Number_t m HK.out.ok.lt s _ HA.out).mono ?_
  rintro e' w6 ⟨rfl, hf6⟩
  have st6 := st5.keep hf6
  clear st5 hf6
  go_wp2_with (with_reducible refine wl_stop (o := ⟨some 8, _, _, _, _, _⟩) ?_)
  refine wl_allocS st6 rfl rfl (z := .agg #[.int .u64 0, .int .u64 0, .int .u64 0, .int .u64 0]) (by kernel_rfl) (cw 4 0) (by rw [cw_zero]; rfl) ?_
  intro g8 w7 st7
  clear st6
  go_wp2_with (with_reducible refine wl_stop (o := ⟨none, _, _, _, _, _⟩) ?_)
  refine wl_storeS st7 1 rfl rfl rfl rfl rfl (by first | (simp only [cw_len]; done) | (simp only [List.length_append, cw_len]; done)) (by first | (rw [cw_len]; kernel_rfl) | (simp only [List.length_append, cw_len]; kernel_rfl)) (cw_one _ _) ?_
  intro w8 st8
  clear st7
  go_wp2_with (with_reducible refine wl_stop (o := ⟨some 47, _, _, _, _, _⟩) ?_)
  refine wl_loadSt st8 0 rfl rfl rfl Try.underlying40 rfl rfl (by first | (rw [cw_len]; kernel_rfl) | (simp only [List.length_append, cw_len]; kernel_rfl)) ?_
  go_wp2_with (with_reducible refine wl_stop (o := ⟨some 48, _, _, _, _, _⟩) ?_)
  refine wl_loadS st8 1 rfl rfl rfl Try.underlying38 rfl (by first | (rw [cw_len]; kernel_rfl) | (simp only [List.length_append, cw_len]; kernel_rfl)) ?_
  go_wp2_with fail
  refine (FSqrt_bad m.M (beN s.data.toList) _ HK.out.ok.one HK.out.ok.lt HLT.out HLOW.out HR.out).mono ?_
  rintro e' w9 ⟨rfl, hf9⟩
  have st9 := st8.keep hf9
  clear st8 hf9
  go_wp2_with (with_reducible refine wl_stop (o := ⟨some 10, _, _, _, _, _⟩) ?_)
  refine wl_allocS st9 rfl rfl (z := .agg #[.int .u64 0, .int .u64 0, .int .u64 0, .int .u64 0]) (by kernel_rfl) (cw 4 0) (by rw [cw_zero]; rfl) ?_
  intro g10 w10 st10
  clear st9
  go_wp2_with (with_reducible refine wl_stop (o := ⟨none, _, _, _, _, _⟩) ?_)
  refine wl_storeS st10 2 rfl rfl rfl rfl rfl (by first | (simp only [cw_len]; done) | (simp only [List.length_append, cw_len]; done)) (by first | (rw [cw_len]; kernel_rfl) | (simp only [List.length_append, cw_len]; kernel_rfl)) (cw_one _ _) ?_
  intro w11 st11
  clear st10
  have hfr := HF2.out.then st11.fr
  clear st11
  go_wp2_with fail
  go_ret
  exact ⟨rfl, hfr⟩

set_option maxHeartbeats 16000000 in
set_option maxRecDepth 1000000 in
theorem law_NumRoots_ok (m : Md) (hk : KindOf 0 m) (s : ByteArray) (w : World) (hs : s.size ≤ 16384) (ha : numB m s.data.toList = true) (hr : rtOk m.M (beN s.data.toList) = true) :
    Calls Try.prog 7 #[.int .i64 0, .string s] w fun e w' => e = .returned (.bool true) ∧ Fr Nob w w' := by
  have hgs : ¬ ((16384 : Int) < (s.size : Int)) := by omega
  have HS := Lib.hid hs
  clear hs
  have HK := Lib.hid hk
  have HA := Lib.hid ha
  have HG := Lib.hid (show numsB m [s.data.toList] = true by unfold numsB; simp only [List.all_cons, List.all_nil, ha]; rfl)
  have HLOW := Lib.hid (low_k hk)
  have HLT := Lib.hid (numB_lt m _ ha)
  have HR := Lib.hid hr
  clear hk ha hr
  go_enter Try.func7, Try.ntmps7
  go_wp2_with (with_reducible refine wl_stop (o := ⟨some 17, _, _, _, _, _⟩) ?_)
  refine wl_bytes (q := s) rfl rfl Try.underlying9 Try.underlying29 Try.underlying5 rfl (by have := HS.out; unfold maxLen; omega) w.heap.size (Nat.le_refl _) ?_
  intro cap w1 hown1 hf1 hz1
  clear hz1
  have HPA : Hid (BPart w1 (.slice (some ⟨w.heap.size, 0, none⟩) s.size cap) s.data.toList) := Lib.hid (by
    obtain ⟨a, c, e, hc, hr, -⟩ := hown1.form
    exact ⟨a, s.size, c, e, by omega, by rw [Nat.mul_one] at hr; exact hr⟩)
  have HF1 := Lib.hid hf1
  clear hown1 hf1
  generalize w.heap.size = gi at *
  go_wp2_with fail
  refine (NSqrt_ok m HK.out _ _ _ HPA.out HG.out HR.out).mono ?_
  rintro e w2 ⟨v, rfl, ho, hf2⟩
  obtain ⟨a, c, rfl, -, hr, -⟩ := ho.form
  have HRD := Lib.hid (show RdB w2 a 32 (be32 (rtV m.M (beN s.data.toList) % m.M)) by rw [Nat.mul_one] at hr; exact hr)
  clear ho hr
  have HF2 := Lib.hid (HF1.out.then hf2)
  clear hf2
  have st0 := St.start Nob w2
  go_wp2_with fail
  refine (MakeK HK.out _).mono ?_
  rintro e' w3 ⟨rfl, hf3⟩
  have st3 := st0.keep hf3
  clear st0 hf3
  go_wp2_with (with_reducible refine wl_stop (o := ⟨some 7, _, _, _, _, _⟩) ?_)
  refine wl_allocS st3 rfl rfl (z := .agg #[.int .u64 0, .int .u64 0, .int .u64 0, .int .u64 0, .int .u64 0, .int .u64 0, .int .u64 0, .int .u64 0]) (by kernel_rfl) (cw 8 0) (by rw [cw_zero]; rfl) ?_
  intro g7 w4 st4
  clear st3
  go_wp2_with (with_reducible refine wl_stop (o := ⟨none, _, _, _, _, _⟩) ?_)
  refine wl_storeS st4 0 rfl rfl rfl rfl rfl (by first | (simp only [cw_len]; done) | (simp only [List.length_append, cw_len]; done)) (by first | (rw [cw_len]; kernel_rfl) | (simp only [List.length_append, cw_len]; kernel_rfl)) (cw2_one _ _ _ _) ?_
  intro w5 st5
  clear st4
  go_wp2_with (with_reducible refine wl_stop (o := ⟨some 32, _, _, _, _, _⟩) ?_)
  refine wl_loadSt st5 0 rfl rfl rfl Try.underlying40 rfl rfl (by first | (rw [cw_len]; kernel_rfl) | (simp only [List.length_append, cw_len]; kernel_rfl)) ?_
  go_wp2_with fail
  refine (Number_t m HK.out.ok.lt s _ HA.out).mono ?_
  rintro e' w6 ⟨rfl, hf6⟩
  have st6 := st5.keep hf6
  clear st5 hf6
  go_wp2_with (with_reducible refine wl_stop (o := ⟨some 8, _, _, _, _, _⟩) ?_)
  refine wl_allocS st6 rfl rfl (z := .agg #[.int .u64 0, .int .u64 0, .int .u64 0, .int .u64 0]) (by kernel_rfl) (cw 4 0) (by rw [cw_zero]; rfl) ?_
  intro g8 w7 st7
  clear st6
  go_wp2_with (with_reducible refine wl_stop (o := ⟨none, _, _, _, _, _⟩) ?_)
  refine wl_storeS st7 1 rfl rfl rfl rfl rfl (by first | (simp only [cw_len]; done) | (simp only [List.length_append, cw_len]; done)) (by first | (rw [cw_len]; kernel_rfl) | (simp only [List.length_append, cw_len]; kernel_rfl)) (cw_one _ _) ?_
  intro w8 st8
  clear st7
  go_wp2_with (with_reducible refine wl_stop (o := ⟨some 47, _, _, _, _, _⟩) ?_)
  refine wl_loadSt st8 0 rfl rfl rfl Try.underlying40 rfl rfl (by first | (rw [cw_len]; kernel_rfl) | (simp only [List.length_append, cw_len]; kernel_rfl)) ?_
  go_wp2_with (with_reducible refine wl_stop (o := ⟨some 48, _, _, _, _, _⟩) ?_)
  refine wl_loadS st8 1 rfl rfl rfl Try.underlying38 rfl (by first | (rw [cw_len]; kernel_rfl) | (simp only [List.length_append, cw_len]; kernel_rfl)) ?_
  go_wp2_with fail
  refine (FSqrt_ok m.M (beN s.data.toList) _ HK.out.ok.one HK.out.ok.lt HLT.out HLOW.out HR.out).mono ?_
  rintro e' w9 ⟨rfl, hf9⟩
  have st9 := st8.keep hf9
  clear st8 hf9
  go_wp2_with (with_reducible refine wl_stop (o := ⟨some 10, _, _, _, _, _⟩) ?_)
  refine wl_allocS st9 rfl rfl (z := .agg #[.int .u64 0, .int .u64 0, .int .u64 0, .int .u64 0]) (by kernel_rfl) (cw 4 0) (by rw [cw_zero]; rfl) ?_
  intro g10 w10 st10
  clear st9
  go_wp2_with (with_reducible refine wl_stop (o := ⟨none, _, _, _, _, _⟩) ?_)
  refine wl_storeS st10 2 rfl rfl rfl rfl rfl (by first | (simp only [cw_len]; done) | (simp only [List.length_append, cw_len]; done)) (by first | (rw [cw_len]; kernel_rfl) | (simp only [List.length_append, cw_len]; kernel_rfl)) (cw_one _ _) ?_
  intro w11 st11
  clear st10
  go_wp2_with (with_reducible refine wl_stop (o := ⟨some 63, _, _, _, _, _⟩) ?_)
  refine wl_loadS st11 2 rfl rfl rfl Try.underlying38 rfl (by first | (rw [cw_len]; kernel_rfl) | (simp only [List.length_append, cw_len]; kernel_rfl)) ?_
  go_wp2_with fail
  refine (told_ok a 32 c (rtV m.M (beN s.data.toList) % m.M) _ (HRD.out.still st11.fr)).mono ?_
  rintro e' w12 ⟨rfl, hf12⟩
  have st12 := st11.keep hf12
  clear st11 hf12
  have hfr := HF2.out.then st12.fr
  clear st12
  go_wp2_with fail
  go_ret
  exact ⟨rfl, hfr⟩

set_option maxHeartbeats 16000000 in
set_option maxRecDepth 1000000 in
theorem law_NumRoots (k : Int) (s : ByteArray) (w : World) :
    Calls Try.prog 7 #[.int .i64 k, .string s] w fun e w' => e = .returned (.bool true) ∧ Fr Nob w w' := by
  by_cases hs : 16384 < s.size
  · have hI : (16384 : Int) < (s.size : Int) := by omega
    go_enter Try.func7, Try.ntmps7
    go_wp2
    go_ret
    exact ⟨rfl, Fr.refl _ _⟩
  by_cases h0 : k = 0
  · subst h0
    obtain ⟨m, hk⟩ : ∃ m, KindOf 0 m := ⟨_, .zero⟩
    cases ha : numB m s.data.toList
    · exact law_NumRoots_bad m hk s w (by omega) ha
    · cases hr : rtOk m.M (beN s.data.toList)
      · exact law_NumRoots_none m hk s w (by omega) ha hr
      · exact law_NumRoots_ok m hk s w (by omega) ha hr
  · exact law_NumRoots_x k s w (by omega) (by simpa using h0)
end Go.Proofs.Ytmegaegedlbckaa
