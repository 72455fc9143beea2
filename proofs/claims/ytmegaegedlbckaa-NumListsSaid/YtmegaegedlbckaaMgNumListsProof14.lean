/- The law NumReckons. -/
import Derived.Test.YtmegaegedlbckaaMgNumListsProof13
import Derived.Test.YtmegaegedlbckaaMgNumListsProof10
namespace Go.Proofs.Ytmegaegedlbckaa
open Go.RowKit Go.Mv Mvp
theorem Number_t (m : Md) (hM : m.M < B64 ^ 4) (s : ByteArray) (w : World) (h : numB m s.data.toList = true) :
    Calls Try.prog 29 #[fv m.M, .string s] w fun e w' => e = .returned (.tuple #[i4 (beN s.data.toList), .bool true]) ∧ Fr Nob w w' := by
  unfold numB at h
  simp only [Bool.and_eq_true, decide_eq_true_eq] at h
  refine (Number_ok m.M s w (by have := h.1; simpa using this) hM).mono fun e w' he => ?_
  rw [decide_eq_true h.2] at he
  exact he
theorem Number_f (m : Md) (hM : m.M < B64 ^ 4) (s : ByteArray) (w : World) (h : numB m s.data.toList = false) :
    Calls Try.prog 29 #[fv m.M, .string s] w fun e w' => ∃ N, e = .returned (.tuple #[i4 N, .bool false]) ∧ Fr Nob w w' := by
  by_cases hs : s.size = 32
  · refine (Number_ok m.M s w hs hM).mono fun e w' he => ?_
    have h2 : ¬ beN s.data.toList < m.M := by
      intro hb
      unfold numB at h
      rw [decide_eq_true hb, decide_eq_true (by simpa using hs)] at h
      cases h
    rw [decide_eq_false h2] at he
    exact ⟨_, he⟩
  · exact (Number_bad m.M s w hs).mono fun e w' he => ⟨_, he⟩
theorem sub_same (a b M : Nat) (h : b < M) : (a + (M - b % M)) % M = (a + (M - b)) % M := by
  rw [Nat.mod_eq_of_lt h]
theorem numB_lt (m : Md) (l : List UInt8) (h : numB m l = true) : beN l < m.M := by
  unfold numB at h
  simp only [Bool.and_eq_true, decide_eq_true_eq] at h
  exact h.2
attribute [local irreducible] limbs lw mix cw cSub cAdd cMul foldC valFrom beN laid be32 powm montT mstep elN mdL lentL numB numsB elCells

set_option maxHeartbeats 16000000 in
set_option maxRecDepth 1000000 in
theorem law_NumReckons_x (k : Int) (s t : ByteArray) (w : World) (hs : s.size ≤ 16384) (ht : t.size ≤ 16384) (h0 : (k == 0) = false) (h1 : (k == 1) = false) :
    Calls Try.prog 6 #[.int .i64 k, .string s, .string t] w fun e w' => e = .returned (.bool true) ∧ Fr Nob w w' := by
  have hgs : ¬ ((16384 : Int) < (s.size : Int)) := by omega
  have hgt : ¬ ((16384 : Int) < (t.size : Int)) := by omega
  have HS := Lib.hid hs
  have HT := Lib.hid ht
  clear hs ht
  have H0 := Lib.hid h0
  have H1 := Lib.hid h1
  clear h0 h1
  go_enter Try.func6, Try.ntmps6
  go_wp2_with fail
  refine (lent_any s _ (by have := HS.out; omega)).mono ?_
  rintro e w1 ⟨rfl, hg1, hf1, hz1⟩
  clear hz1
  generalize w.heap.size = gi at *
  have hrd1 : RdB w1 (some ⟨gi, 0, none⟩) (s.size + 160) (lentL s.data.toList) := by
    have := Rd.whole hg1
    rwa [length_bs, lentL_len, size_list] at this
  have HRD1 := Lib.hid hrd1
  have HF1 := Lib.hid hf1
  clear hg1 hrd1 hf1
  go_wp2_with fail
  refine (lent_any t _ (by have := HT.out; omega)).mono ?_
  rintro e w2 ⟨rfl, hg2, hf2, hz2⟩
  clear hz2
  generalize w1.heap.size = gj at *
  have hrd2 : RdB w2 (some ⟨gj, 0, none⟩) (t.size + 160) (lentL t.data.toList) := by
    have := Rd.whole hg2
    rwa [length_bs, lentL_len, size_list] at this
  have HRS := Lib.hid (HRD1.out.still hf2)
  have HRT := Lib.hid hrd2
  have HF2 := Lib.hid (HF1.out.then hf2)
  clear hg2 hrd2 hf2 HRD1 HF1
  have HPA : Hid (BPart w2 (.slice (some ⟨gi, 0, none⟩) s.size (s.size + 160)) s.data.toList) := Lib.hid ⟨_, _, _, rfl, by omega, by
    have h := RdB.front HRS.out s.size (by omega)
    rwa [lentL_take] at h⟩
  have HPB : Hid (BPart w2 (.slice (some ⟨gj, 0, none⟩) t.size (t.size + 160)) t.data.toList) := Lib.hid ⟨_, _, _, rfl, by omega, by
    have h := RdB.front HRT.out t.size (by omega)
    rwa [lentL_take] at h⟩
  have k1 := fun wx => run_slice_hi (P := Try.prog) wx Try.underlying29 size_u8 (some ⟨gi, 0, none⟩) (s.size + 160) (s.size + 160) .i64 s.size (by omega)
  have k2 := fun wx => run_slice_hi (P := Try.prog) wx Try.underlying29 size_u8 (some ⟨gj, 0, none⟩) (t.size + 160) (t.size + 160) .i64 t.size (by omega)
  have hci : (s.size : Int) ≤ (s.size : Int) + 160 := by omega
  have hcj : (t.size : Int) ≤ (t.size : Int) + 160 := by omega
  have F0 := Lib.hid (Fr.refl Nob w2)
  go_wp2_with fail
  refine (NAdd_x k _ _ _ _ _ (HPA.out.still F0.out) (HPB.out.still F0.out) H0.out H1.out).mono ?_
  rintro e w3 ⟨rfl, hf3⟩
  have F1 := Lib.hid (F0.out.then hf3)
  clear hf3 F0
  clear k1 k2 hci hcj
  go_wp2_with fail
  refine (NSub_x k _ _ _ _ _ (HPA.out.still F1.out) (HPB.out.still F1.out) H0.out H1.out).mono ?_
  rintro e w4 ⟨rfl, hf4⟩
  have F2 := Lib.hid (F1.out.then hf4)
  clear hf4 F1
  go_wp2_with fail
  refine (NMul_x k _ _ _ _ _ (HPA.out.still F2.out) (HPB.out.still F2.out) H0.out H1.out).mono ?_
  rintro e w5 ⟨rfl, hf5⟩
  have F3 := Lib.hid (F2.out.then hf5)
  clear hf5 F2
  go_wp2_with fail
  refine (NInv_x k _ _ _ (HPA.out.still F3.out) H0.out H1.out).mono ?_
  rintro e w6 ⟨rfl, hf6⟩
  have F4 := Lib.hid (F3.out.then hf6)
  clear hf6 F3
  go_wp2_with fail
  refine (still_any _ _ _ _ s _ (by have := HS.out; omega) (HRS.out.still F4.out)).mono ?_
  rintro e w7 ⟨rfl, hf7⟩
  rw [decide_eq_true rfl]
  have F5 := Lib.hid (F4.out.then hf7)
  clear hf7 F4
  go_wp2_with fail
  refine (still_any _ _ _ _ t _ (by have := HT.out; omega) (HRT.out.still F5.out)).mono ?_
  rintro e w8 ⟨rfl, hf8⟩
  rw [decide_eq_true rfl]
  have F6 := Lib.hid (F5.out.then hf8)
  clear hf8 F5
  go_wp2_with fail
  refine (Known_x k _ H0.out H1.out).mono ?_
  rintro e' wK ⟨rfl, rfl⟩
  have st0 := St.start Nob w8
  go_wp2_with (with_reducible refine wl_stop (o := ⟨some 25, _, _, _, _, _⟩) ?_)
  refine wl_allocS st0 rfl rfl (z := .agg #[.int .u64 0, .int .u64 0, .int .u64 0, .int .u64 0]) (by kernel_rfl) (cw 4 0) (by rw [cw_zero]; rfl) ?_
  intro g25 w9 st9
  clear st0
  go_wp2_with (with_reducible refine wl_stop (o := ⟨some 26, _, _, _, _, _⟩) ?_)
  refine wl_allocS st9 rfl rfl (z := .agg #[.int .u64 0, .int .u64 0, .int .u64 0, .int .u64 0]) (by kernel_rfl) (cw 4 0) (by rw [cw_zero]; rfl) ?_
  intro g26 w10 st10
  clear st9
  go_wp2_with (with_reducible refine wl_stop (o := ⟨some 27, _, _, _, _, _⟩) ?_)
  refine wl_allocS st10 rfl rfl (z := .agg #[.int .u64 0, .int .u64 0, .int .u64 0, .int .u64 0]) (by kernel_rfl) (cw 4 0) (by rw [cw_zero]; rfl) ?_
  intro g27 w11 st11
  clear st10
  go_wp2_with (with_reducible refine wl_stop (o := ⟨some 28, _, _, _, _, _⟩) ?_)
  refine wl_allocS st11 rfl rfl (z := .agg #[.int .u64 0, .int .u64 0, .int .u64 0, .int .u64 0]) (by kernel_rfl) (cw 4 0) (by rw [cw_zero]; rfl) ?_
  intro g28 w12 st12
  clear st11
  go_wp2_with (with_reducible refine wl_stop (o := ⟨some 147, _, _, _, _, _⟩) ?_)
  refine wl_loadS st12 0 rfl rfl rfl Try.underlying38 rfl (by first | (rw [cw_len]; kernel_rfl) | (simp only [List.length_append, cw_len]; kernel_rfl)) ?_
  go_wp2_with fail
  refine (told_bad 2 0 _ (by decide)).mono ?_
  rintro e' w13 ⟨rfl, hf13⟩
  have st13 := st12.keep hf13
  clear st12 hf13
  go_wp2_with (with_reducible refine wl_stop (o := ⟨some 152, _, _, _, _, _⟩) ?_)
  refine wl_loadS st13 1 rfl rfl rfl Try.underlying38 rfl (by first | (rw [cw_len]; kernel_rfl) | (simp only [List.length_append, cw_len]; kernel_rfl)) ?_
  go_wp2_with fail
  refine (told_bad 2 0 _ (by decide)).mono ?_
  rintro e' w14 ⟨rfl, hf14⟩
  have st14 := st13.keep hf14
  clear st13 hf14
  go_wp2_with (with_reducible refine wl_stop (o := ⟨some 157, _, _, _, _, _⟩) ?_)
  refine wl_loadS st14 2 rfl rfl rfl Try.underlying38 rfl (by first | (rw [cw_len]; kernel_rfl) | (simp only [List.length_append, cw_len]; kernel_rfl)) ?_
  go_wp2_with fail
  refine (told_bad 2 0 _ (by decide)).mono ?_
  rintro e' w15 ⟨rfl, hf15⟩
  have st15 := st14.keep hf15
  clear st14 hf15
  go_wp2_with (with_reducible refine wl_stop (o := ⟨some 162, _, _, _, _, _⟩) ?_)
  refine wl_loadS st15 3 rfl rfl rfl Try.underlying38 rfl (by first | (rw [cw_len]; kernel_rfl) | (simp only [List.length_append, cw_len]; kernel_rfl)) ?_
  go_wp2_with fail
  refine (told_bad 2 0 _ (by decide)).mono ?_
  rintro e' w16 ⟨rfl, hf16⟩
  have st16 := st15.keep hf16
  clear st15 hf16
  have hfr := HF2.out.then (F6.out.then st16.fr)
  clear st16
  go_wp2_with fail
  go_ret
  exact ⟨rfl, hfr⟩

set_option maxHeartbeats 16000000 in
set_option maxRecDepth 1000000 in
theorem law_NumReckons_ff (k : Int) (m : Md) (hk : KindOf k m) (s t : ByteArray) (w : World) (hs : s.size ≤ 16384) (ht : t.size ≤ 16384) (ha : numB m s.data.toList = false) (hb : numB m t.data.toList = false) :
    Calls Try.prog 6 #[.int .i64 k, .string s, .string t] w fun e w' => e = .returned (.bool true) ∧ Fr Nob w w' := by
  have hgs : ¬ ((16384 : Int) < (s.size : Int)) := by omega
  have hgt : ¬ ((16384 : Int) < (t.size : Int)) := by omega
  have HS := Lib.hid hs
  have HT := Lib.hid ht
  clear hs ht
  have HK := Lib.hid hk
  have HA := Lib.hid ha
  have HB := Lib.hid hb
  have HG2 := Lib.hid (show numsB m [s.data.toList, t.data.toList] = false by unfold numsB; simp only [List.all_cons, List.all_nil, ha, hb]; rfl)
  have HG1 := Lib.hid (show numsB m [s.data.toList] = false by unfold numsB; simp only [List.all_cons, List.all_nil, ha]; rfl)
  have HM0 := Lib.hid (show 0 < m.M by have := hk.ok.one; omega)
  have HM1 := Lib.hid hk.ok.one
  have HM4 := Lib.hid hk.ok.lt
  clear hk ha hb
  go_enter Try.func6, Try.ntmps6
  go_wp2_with fail
  refine (lent_any s _ (by have := HS.out; omega)).mono ?_
  rintro e w1 ⟨rfl, hg1, hf1, hz1⟩
  clear hz1
  generalize w.heap.size = gi at *
  have hrd1 : RdB w1 (some ⟨gi, 0, none⟩) (s.size + 160) (lentL s.data.toList) := by
    have := Rd.whole hg1
    rwa [length_bs, lentL_len, size_list] at this
  have HRD1 := Lib.hid hrd1
  have HF1 := Lib.hid hf1
  clear hg1 hrd1 hf1
  go_wp2_with fail
  refine (lent_any t _ (by have := HT.out; omega)).mono ?_
  rintro e w2 ⟨rfl, hg2, hf2, hz2⟩
  clear hz2
  generalize w1.heap.size = gj at *
  have hrd2 : RdB w2 (some ⟨gj, 0, none⟩) (t.size + 160) (lentL t.data.toList) := by
    have := Rd.whole hg2
    rwa [length_bs, lentL_len, size_list] at this
  have HRS := Lib.hid (HRD1.out.still hf2)
  have HRT := Lib.hid hrd2
  have HF2 := Lib.hid (HF1.out.then hf2)
  clear hg2 hrd2 hf2 HRD1 HF1
  have HPA : Hid (BPart w2 (.slice (some ⟨gi, 0, none⟩) s.size (s.size + 160)) s.data.toList) := Lib.hid ⟨_, _, _, rfl, by omega, by
    have h := RdB.front HRS.out s.size (by omega)
    rwa [lentL_take] at h⟩
  have HPB : Hid (BPart w2 (.slice (some ⟨gj, 0, none⟩) t.size (t.size + 160)) t.data.toList) := Lib.hid ⟨_, _, _, rfl, by omega, by
    have h := RdB.front HRT.out t.size (by omega)
    rwa [lentL_take] at h⟩
  have k1 := fun wx => run_slice_hi (P := Try.prog) wx Try.underlying29 size_u8 (some ⟨gi, 0, none⟩) (s.size + 160) (s.size + 160) .i64 s.size (by omega)
  have k2 := fun wx => run_slice_hi (P := Try.prog) wx Try.underlying29 size_u8 (some ⟨gj, 0, none⟩) (t.size + 160) (t.size + 160) .i64 t.size (by omega)
  have hci : (s.size : Int) ≤ (s.size : Int) + 160 := by omega
  have hcj : (t.size : Int) ≤ (t.size : Int) + 160 := by omega
  have F0 := Lib.hid (Fr.refl Nob w2)
  go_wp2_with fail
  refine (NAdd_bad k m HK.out _ _ _ _ _ (HPA.out.still F0.out) (HPB.out.still F0.out) HG2.out).mono ?_
  rintro e w3 ⟨rfl, hf3⟩
  have F1 := Lib.hid (F0.out.then hf3)
  clear hf3 F0
  clear k1 k2 hci hcj
  go_wp2_with fail
  refine (NSub_bad k m HK.out _ _ _ _ _ (HPA.out.still F1.out) (HPB.out.still F1.out) HG2.out).mono ?_
  rintro e w4 ⟨rfl, hf4⟩
  have F2 := Lib.hid (F1.out.then hf4)
  clear hf4 F1
  go_wp2_with fail
  refine (NMul_bad k m HK.out _ _ _ _ _ (HPA.out.still F2.out) (HPB.out.still F2.out) HG2.out).mono ?_
  rintro e w5 ⟨rfl, hf5⟩
  have F3 := Lib.hid (F2.out.then hf5)
  clear hf5 F2
  go_wp2_with fail
  refine (NInv_bad k m HK.out _ _ _ (HPA.out.still F3.out) HG1.out).mono ?_
  rintro e w6 ⟨rfl, hf6⟩
  have F4 := Lib.hid (F3.out.then hf6)
  clear hf6 F3
  go_wp2_with fail
  refine (still_any _ _ _ _ s _ (by have := HS.out; omega) (HRS.out.still F4.out)).mono ?_
  rintro e w7 ⟨rfl, hf7⟩
  rw [decide_eq_true rfl]
  have F5 := Lib.hid (F4.out.then hf7)
  clear hf7 F4
  go_wp2_with fail
  refine (still_any _ _ _ _ t _ (by have := HT.out; omega) (HRT.out.still F5.out)).mono ?_
  rintro e w8 ⟨rfl, hf8⟩
  rw [decide_eq_true rfl]
  have F6 := Lib.hid (F5.out.then hf8)
  clear hf8 F5
  go_wp2_with fail
  refine (Known_k HK.out _).mono ?_
  rintro e' wK ⟨rfl, rfl⟩
  have st0 := St.start Nob w8
  go_wp2_with (with_reducible refine wl_stop (o := ⟨some 25, _, _, _, _, _⟩) ?_)
  refine wl_allocS st0 rfl rfl (z := .agg #[.int .u64 0, .int .u64 0, .int .u64 0, .int .u64 0]) (by kernel_rfl) (cw 4 0) (by rw [cw_zero]; rfl) ?_
  intro g25 w9 st9
  clear st0
  go_wp2_with (with_reducible refine wl_stop (o := ⟨some 26, _, _, _, _, _⟩) ?_)
  refine wl_allocS st9 rfl rfl (z := .agg #[.int .u64 0, .int .u64 0, .int .u64 0, .int .u64 0]) (by kernel_rfl) (cw 4 0) (by rw [cw_zero]; rfl) ?_
  intro g26 w10 st10
  clear st9
  go_wp2_with (with_reducible refine wl_stop (o := ⟨some 27, _, _, _, _, _⟩) ?_)
  refine wl_allocS st10 rfl rfl (z := .agg #[.int .u64 0, .int .u64 0, .int .u64 0, .int .u64 0]) (by kernel_rfl) (cw 4 0) (by rw [cw_zero]; rfl) ?_
  intro g27 w11 st11
  clear st10
  go_wp2_with (with_reducible refine wl_stop (o := ⟨some 28, _, _, _, _, _⟩) ?_)
  refine wl_allocS st11 rfl rfl (z := .agg #[.int .u64 0, .int .u64 0, .int .u64 0, .int .u64 0]) (by kernel_rfl) (cw 4 0) (by rw [cw_zero]; rfl) ?_
  intro g28 w12 st12
  clear st11
  go_wp2_with fail
  refine (MakeK HK.out _).mono ?_
  rintro e' w13 ⟨rfl, hf13⟩
  have st13 := st12.keep hf13
  clear st12 hf13
  go_wp2_with (with_reducible refine wl_stop (o := ⟨some 29, _, _, _, _, _⟩) ?_)
  refine wl_allocS st13 rfl rfl (z := .agg #[.int .u64 0, .int .u64 0, .int .u64 0, .int .u64 0, .int .u64 0, .int .u64 0, .int .u64 0, .int .u64 0]) (by kernel_rfl) (cw 8 0) (by rw [cw_zero]; rfl) ?_
  intro g29 w14 st14
  clear st13
  go_wp2_with (with_reducible refine wl_stop (o := ⟨none, _, _, _, _, _⟩) ?_)
  refine wl_storeS st14 4 rfl rfl rfl rfl rfl (by first | (simp only [cw_len]; done) | (simp only [List.length_append, cw_len]; done)) (by first | (rw [cw_len]; kernel_rfl) | (simp only [List.length_append, cw_len]; kernel_rfl)) (cw2_one _ _ _ _) ?_
  intro w15 st15
  clear st14
  go_wp2_with (with_reducible refine wl_stop (o := ⟨some 105, _, _, _, _, _⟩) ?_)
  refine wl_loadSt st15 4 rfl rfl rfl Try.underlying40 rfl rfl (by first | (rw [cw_len]; kernel_rfl) | (simp only [List.length_append, cw_len]; kernel_rfl)) ?_
  go_wp2_with fail
  refine (Number_f m HK.out.ok.lt s _ HA.out).mono ?_
  rintro e' w16 ⟨NA, rfl, hf16⟩
  have st16 := st15.keep hf16
  clear st15 hf16
  go_wp2_with (with_reducible refine wl_stop (o := ⟨some 30, _, _, _, _, _⟩) ?_)
  refine wl_allocS st16 rfl rfl (z := .agg #[.int .u64 0, .int .u64 0, .int .u64 0, .int .u64 0]) (by kernel_rfl) (cw 4 0) (by rw [cw_zero]; rfl) ?_
  intro g30 w17 st17
  clear st16
  go_wp2_with (with_reducible refine wl_stop (o := ⟨none, _, _, _, _, _⟩) ?_)
  refine wl_storeS st17 5 rfl rfl rfl rfl rfl (by first | (simp only [cw_len]; done) | (simp only [List.length_append, cw_len]; done)) (by first | (rw [cw_len]; kernel_rfl) | (simp only [List.length_append, cw_len]; kernel_rfl)) (cw_one _ _) ?_
  intro w18 st18
  clear st17
  go_wp2_with (with_reducible refine wl_stop (o := ⟨some 111, _, _, _, _, _⟩) ?_)
  refine wl_loadSt st18 4 rfl rfl rfl Try.underlying40 rfl rfl (by first | (rw [cw_len]; kernel_rfl) | (simp only [List.length_append, cw_len]; kernel_rfl)) ?_
  go_wp2_with fail
  refine (Number_f m HK.out.ok.lt t _ HB.out).mono ?_
  rintro e' w19 ⟨NB, rfl, hf19⟩
  have st19 := st18.keep hf19
  clear st18 hf19
  go_wp2_with (with_reducible refine wl_stop (o := ⟨some 32, _, _, _, _, _⟩) ?_)
  refine wl_allocS st19 rfl rfl (z := .agg #[.int .u64 0, .int .u64 0, .int .u64 0, .int .u64 0]) (by kernel_rfl) (cw 4 0) (by rw [cw_zero]; rfl) ?_
  intro g32 w20 st20
  clear st19
  go_wp2_with (with_reducible refine wl_stop (o := ⟨none, _, _, _, _, _⟩) ?_)
  refine wl_storeS st20 6 rfl rfl rfl rfl rfl (by first | (simp only [cw_len]; done) | (simp only [List.length_append, cw_len]; done)) (by first | (rw [cw_len]; kernel_rfl) | (simp only [List.length_append, cw_len]; kernel_rfl)) (cw_one _ _) ?_
  intro w21 st21
  clear st20
  go_wp2_with (with_reducible refine wl_stop (o := ⟨some 147, _, _, _, _, _⟩) ?_)
  refine wl_loadS st21 0 rfl rfl rfl Try.underlying38 rfl (by first | (rw [cw_len]; kernel_rfl) | (simp only [List.length_append, cw_len]; kernel_rfl)) ?_
  go_wp2_with fail
  refine (told_bad 3 0 _ (by decide)).mono ?_
  rintro e' w22 ⟨rfl, hf22⟩
  have st22 := st21.keep hf22
  clear st21 hf22
  go_wp2_with (with_reducible refine wl_stop (o := ⟨some 152, _, _, _, _, _⟩) ?_)
  refine wl_loadS st22 1 rfl rfl rfl Try.underlying38 rfl (by first | (rw [cw_len]; kernel_rfl) | (simp only [List.length_append, cw_len]; kernel_rfl)) ?_
  go_wp2_with fail
  refine (told_bad 3 0 _ (by decide)).mono ?_
  rintro e' w23 ⟨rfl, hf23⟩
  have st23 := st22.keep hf23
  clear st22 hf23
  go_wp2_with (with_reducible refine wl_stop (o := ⟨some 157, _, _, _, _, _⟩) ?_)
  refine wl_loadS st23 2 rfl rfl rfl Try.underlying38 rfl (by first | (rw [cw_len]; kernel_rfl) | (simp only [List.length_append, cw_len]; kernel_rfl)) ?_
  go_wp2_with fail
  refine (told_bad 3 0 _ (by decide)).mono ?_
  rintro e' w24 ⟨rfl, hf24⟩
  have st24 := st23.keep hf24
  clear st23 hf24
  go_wp2_with (with_reducible refine wl_stop (o := ⟨some 162, _, _, _, _, _⟩) ?_)
  refine wl_loadS st24 3 rfl rfl rfl Try.underlying38 rfl (by first | (rw [cw_len]; kernel_rfl) | (simp only [List.length_append, cw_len]; kernel_rfl)) ?_
  go_wp2_with fail
  refine (told_bad 3 0 _ (by decide)).mono ?_
  rintro e' w25 ⟨rfl, hf25⟩
  have st25 := st24.keep hf25
  clear st24 hf25
  have hfr := HF2.out.then (F6.out.then st25.fr)
  clear st25
  go_wp2_with fail
  go_ret
  exact ⟨rfl, hfr⟩

set_option maxHeartbeats 16000000 in
set_option maxRecDepth 1000000 in
theorem law_NumReckons_ft (k : Int) (m : Md) (hk : KindOf k m) (s t : ByteArray) (w : World) (hs : s.size ≤ 16384) (ht : t.size ≤ 16384) (ha : numB m s.data.toList = false) (hb : numB m t.data.toList = true) :
    Calls Try.prog 6 #[.int .i64 k, .string s, .string t] w fun e w' => e = .returned (.bool true) ∧ Fr Nob w w' := by
  have hgs : ¬ ((16384 : Int) < (s.size : Int)) := by omega
  have hgt : ¬ ((16384 : Int) < (t.size : Int)) := by omega
  have HS := Lib.hid hs
  have HT := Lib.hid ht
  clear hs ht
  have HK := Lib.hid hk
  have HA := Lib.hid ha
  have HB := Lib.hid hb
  have HG2 := Lib.hid (show numsB m [s.data.toList, t.data.toList] = false by unfold numsB; simp only [List.all_cons, List.all_nil, ha, hb]; rfl)
  have HG1 := Lib.hid (show numsB m [s.data.toList] = false by unfold numsB; simp only [List.all_cons, List.all_nil, ha]; rfl)
  have HM0 := Lib.hid (show 0 < m.M by have := hk.ok.one; omega)
  have HM1 := Lib.hid hk.ok.one
  have HM4 := Lib.hid hk.ok.lt
  clear hk ha hb
  go_enter Try.func6, Try.ntmps6
  go_wp2_with fail
  refine (lent_any s _ (by have := HS.out; omega)).mono ?_
  rintro e w1 ⟨rfl, hg1, hf1, hz1⟩
  clear hz1
  generalize w.heap.size = gi at *
  have hrd1 : RdB w1 (some ⟨gi, 0, none⟩) (s.size + 160) (lentL s.data.toList) := by
    have := Rd.whole hg1
    rwa [length_bs, lentL_len, size_list] at this
  have HRD1 := Lib.hid hrd1
  have HF1 := Lib.hid hf1
  clear hg1 hrd1 hf1
  go_wp2_with fail
  refine (lent_any t _ (by have := HT.out; omega)).mono ?_
  rintro e w2 ⟨rfl, hg2, hf2, hz2⟩
  clear hz2
  generalize w1.heap.size = gj at *
  have hrd2 : RdB w2 (some ⟨gj, 0, none⟩) (t.size + 160) (lentL t.data.toList) := by
    have := Rd.whole hg2
    rwa [length_bs, lentL_len, size_list] at this
  have HRS := Lib.hid (HRD1.out.still hf2)
  have HRT := Lib.hid hrd2
  have HF2 := Lib.hid (HF1.out.then hf2)
  clear hg2 hrd2 hf2 HRD1 HF1
  have HPA : Hid (BPart w2 (.slice (some ⟨gi, 0, none⟩) s.size (s.size + 160)) s.data.toList) := Lib.hid ⟨_, _, _, rfl, by omega, by
    have h := RdB.front HRS.out s.size (by omega)
    rwa [lentL_take] at h⟩
  have HPB : Hid (BPart w2 (.slice (some ⟨gj, 0, none⟩) t.size (t.size + 160)) t.data.toList) := Lib.hid ⟨_, _, _, rfl, by omega, by
    have h := RdB.front HRT.out t.size (by omega)
    rwa [lentL_take] at h⟩
  have k1 := fun wx => run_slice_hi (P := Try.prog) wx Try.underlying29 size_u8 (some ⟨gi, 0, none⟩) (s.size + 160) (s.size + 160) .i64 s.size (by omega)
  have k2 := fun wx => run_slice_hi (P := Try.prog) wx Try.underlying29 size_u8 (some ⟨gj, 0, none⟩) (t.size + 160) (t.size + 160) .i64 t.size (by omega)
  have hci : (s.size : Int) ≤ (s.size : Int) + 160 := by omega
  have hcj : (t.size : Int) ≤ (t.size : Int) + 160 := by omega
  have F0 := Lib.hid (Fr.refl Nob w2)
  go_wp2_with fail
  refine (NAdd_bad k m HK.out _ _ _ _ _ (HPA.out.still F0.out) (HPB.out.still F0.out) HG2.out).mono ?_
  rintro e w3 ⟨rfl, hf3⟩
  have F1 := Lib.hid (F0.out.then hf3)
  clear hf3 F0
  clear k1 k2 hci hcj
  go_wp2_with fail
  refine (NSub_bad k m HK.out _ _ _ _ _ (HPA.out.still F1.out) (HPB.out.still F1.out) HG2.out).mono ?_
  rintro e w4 ⟨rfl, hf4⟩
  have F2 := Lib.hid (F1.out.then hf4)
  clear hf4 F1
  go_wp2_with fail
  refine (NMul_bad k m HK.out _ _ _ _ _ (HPA.out.still F2.out) (HPB.out.still F2.out) HG2.out).mono ?_
  rintro e w5 ⟨rfl, hf5⟩
  have F3 := Lib.hid (F2.out.then hf5)
  clear hf5 F2
  go_wp2_with fail
  refine (NInv_bad k m HK.out _ _ _ (HPA.out.still F3.out) HG1.out).mono ?_
  rintro e w6 ⟨rfl, hf6⟩
  have F4 := Lib.hid (F3.out.then hf6)
  clear hf6 F3
  go_wp2_with fail
  refine (still_any _ _ _ _ s _ (by have := HS.out; omega) (HRS.out.still F4.out)).mono ?_
  rintro e w7 ⟨rfl, hf7⟩
  rw [decide_eq_true rfl]
  have F5 := Lib.hid (F4.out.then hf7)
  clear hf7 F4
  go_wp2_with fail
  refine (still_any _ _ _ _ t _ (by have := HT.out; omega) (HRT.out.still F5.out)).mono ?_
  rintro e w8 ⟨rfl, hf8⟩
  rw [decide_eq_true rfl]
  have F6 := Lib.hid (F5.out.then hf8)
  clear hf8 F5
  go_wp2_with fail
  refine (Known_k HK.out _).mono ?_
  rintro e' wK ⟨rfl, rfl⟩
  have st0 := St.start Nob w8
  go_wp2_with (with_reducible refine wl_stop (o := ⟨some 25, _, _, _, _, _⟩) ?_)
  refine wl_allocS st0 rfl rfl (z := .agg #[.int .u64 0, .int .u64 0, .int .u64 0, .int .u64 0]) (by kernel_rfl) (cw 4 0) (by rw [cw_zero]; rfl) ?_
  intro g25 w9 st9
  clear st0
  go_wp2_with (with_reducible refine wl_stop (o := ⟨some 26, _, _, _, _, _⟩) ?_)
  refine wl_allocS st9 rfl rfl (z := .agg #[.int .u64 0, .int .u64 0, .int .u64 0, .int .u64 0]) (by kernel_rfl) (cw 4 0) (by rw [cw_zero]; rfl) ?_
  intro g26 w10 st10
  clear st9
  go_wp2_with (with_reducible refine wl_stop (o := ⟨some 27, _, _, _, _, _⟩) ?_)
  refine wl_allocS st10 rfl rfl (z := .agg #[.int .u64 0, .int .u64 0, .int .u64 0, .int .u64 0]) (by kernel_rfl) (cw 4 0) (by rw [cw_zero]; rfl) ?_
  intro g27 w11 st11
  clear st10
  go_wp2_with (with_reducible refine wl_stop (o := ⟨some 28, _, _, _, _, _⟩) ?_)
  refine wl_allocS st11 rfl rfl (z := .agg #[.int .u64 0, .int .u64 0, .int .u64 0, .int .u64 0]) (by kernel_rfl) (cw 4 0) (by rw [cw_zero]; rfl) ?_
  intro g28 w12 st12
  clear st11
  go_wp2_with fail
  refine (MakeK HK.out _).mono ?_
  rintro e' w13 ⟨rfl, hf13⟩
  have st13 := st12.keep hf13
  clear st12 hf13
  go_wp2_with (with_reducible refine wl_stop (o := ⟨some 29, _, _, _, _, _⟩) ?_)
  refine wl_allocS st13 rfl rfl (z := .agg #[.int .u64 0, .int .u64 0, .int .u64 0, .int .u64 0, .int .u64 0, .int .u64 0, .int .u64 0, .int .u64 0]) (by kernel_rfl) (cw 8 0) (by rw [cw_zero]; rfl) ?_
  intro g29 w14 st14
  clear st13
  go_wp2_with (with_reducible refine wl_stop (o := ⟨none, _, _, _, _, _⟩) ?_)
  refine wl_storeS st14 4 rfl rfl rfl rfl rfl (by first | (simp only [cw_len]; done) | (simp only [List.length_append, cw_len]; done)) (by first | (rw [cw_len]; kernel_rfl) | (simp only [List.length_append, cw_len]; kernel_rfl)) (cw2_one _ _ _ _) ?_
  intro w15 st15
  clear st14
  go_wp2_with (with_reducible refine wl_stop (o := ⟨some 105, _, _, _, _, _⟩) ?_)
  refine wl_loadSt st15 4 rfl rfl rfl Try.underlying40 rfl rfl (by first | (rw [cw_len]; kernel_rfl) | (simp only [List.length_append, cw_len]; kernel_rfl)) ?_
  go_wp2_with fail
  refine (Number_f m HK.out.ok.lt s _ HA.out).mono ?_
  rintro e' w16 ⟨NA, rfl, hf16⟩
  have st16 := st15.keep hf16
  clear st15 hf16
  go_wp2_with (with_reducible refine wl_stop (o := ⟨some 30, _, _, _, _, _⟩) ?_)
  refine wl_allocS st16 rfl rfl (z := .agg #[.int .u64 0, .int .u64 0, .int .u64 0, .int .u64 0]) (by kernel_rfl) (cw 4 0) (by rw [cw_zero]; rfl) ?_
  intro g30 w17 st17
  clear st16
  go_wp2_with (with_reducible refine wl_stop (o := ⟨none, _, _, _, _, _⟩) ?_)
  refine wl_storeS st17 5 rfl rfl rfl rfl rfl (by first | (simp only [cw_len]; done) | (simp only [List.length_append, cw_len]; done)) (by first | (rw [cw_len]; kernel_rfl) | (simp only [List.length_append, cw_len]; kernel_rfl)) (cw_one _ _) ?_
  intro w18 st18
  clear st17
  go_wp2_with (with_reducible refine wl_stop (o := ⟨some 111, _, _, _, _, _⟩) ?_)
  refine wl_loadSt st18 4 rfl rfl rfl Try.underlying40 rfl rfl (by first | (rw [cw_len]; kernel_rfl) | (simp only [List.length_append, cw_len]; kernel_rfl)) ?_
  go_wp2_with fail
  refine (Number_t m HK.out.ok.lt t _ HB.out).mono ?_
  rintro e' w19 ⟨rfl, hf19⟩
  have st19 := st18.keep hf19
  clear st18 hf19
  go_wp2_with (with_reducible refine wl_stop (o := ⟨some 32, _, _, _, _, _⟩) ?_)
  refine wl_allocS st19 rfl rfl (z := .agg #[.int .u64 0, .int .u64 0, .int .u64 0, .int .u64 0]) (by kernel_rfl) (cw 4 0) (by rw [cw_zero]; rfl) ?_
  intro g32 w20 st20
  clear st19
  go_wp2_with (with_reducible refine wl_stop (o := ⟨none, _, _, _, _, _⟩) ?_)
  refine wl_storeS st20 6 rfl rfl rfl rfl rfl (by first | (simp only [cw_len]; done) | (simp only [List.length_append, cw_len]; done)) (by first | (rw [cw_len]; kernel_rfl) | (simp only [List.length_append, cw_len]; kernel_rfl)) (cw_one _ _) ?_
  intro w21 st21
  clear st20
  go_wp2_with (with_reducible refine wl_stop (o := ⟨some 147, _, _, _, _, _⟩) ?_)
  refine wl_loadS st21 0 rfl rfl rfl Try.underlying38 rfl (by first | (rw [cw_len]; kernel_rfl) | (simp only [List.length_append, cw_len]; kernel_rfl)) ?_
  go_wp2_with fail
  refine (told_bad 3 0 _ (by decide)).mono ?_
  rintro e' w22 ⟨rfl, hf22⟩
  have st22 := st21.keep hf22
  clear st21 hf22
  go_wp2_with (with_reducible refine wl_stop (o := ⟨some 152, _, _, _, _, _⟩) ?_)
  refine wl_loadS st22 1 rfl rfl rfl Try.underlying38 rfl (by first | (rw [cw_len]; kernel_rfl) | (simp only [List.length_append, cw_len]; kernel_rfl)) ?_
  go_wp2_with fail
  refine (told_bad 3 0 _ (by decide)).mono ?_
  rintro e' w23 ⟨rfl, hf23⟩
  have st23 := st22.keep hf23
  clear st22 hf23
  go_wp2_with (with_reducible refine wl_stop (o := ⟨some 157, _, _, _, _, _⟩) ?_)
  refine wl_loadS st23 2 rfl rfl rfl Try.underlying38 rfl (by first | (rw [cw_len]; kernel_rfl) | (simp only [List.length_append, cw_len]; kernel_rfl)) ?_
  go_wp2_with fail
  refine (told_bad 3 0 _ (by decide)).mono ?_
  rintro e' w24 ⟨rfl, hf24⟩
  have st24 := st23.keep hf24
  clear st23 hf24
  go_wp2_with (with_reducible refine wl_stop (o := ⟨some 162, _, _, _, _, _⟩) ?_)
  refine wl_loadS st24 3 rfl rfl rfl Try.underlying38 rfl (by first | (rw [cw_len]; kernel_rfl) | (simp only [List.length_append, cw_len]; kernel_rfl)) ?_
  go_wp2_with fail
  refine (told_bad 3 0 _ (by decide)).mono ?_
  rintro e' w25 ⟨rfl, hf25⟩
  have st25 := st24.keep hf25
  clear st24 hf25
  have hfr := HF2.out.then (F6.out.then st25.fr)
  clear st25
  go_wp2_with fail
  go_ret
  exact ⟨rfl, hfr⟩

set_option maxHeartbeats 16000000 in
set_option maxRecDepth 1000000 in
theorem law_NumReckons_tf (k : Int) (m : Md) (hk : KindOf k m) (s t : ByteArray) (w : World) (hs : s.size ≤ 16384) (ht : t.size ≤ 16384) (ha : numB m s.data.toList = true) (hb : numB m t.data.toList = false) :
    Calls Try.prog 6 #[.int .i64 k, .string s, .string t] w fun e w' => e = .returned (.bool true) ∧ Fr Nob w w' := by
  have hgs : ¬ ((16384 : Int) < (s.size : Int)) := by omega
  have hgt : ¬ ((16384 : Int) < (t.size : Int)) := by omega
  have HS := Lib.hid hs
  have HT := Lib.hid ht
  clear hs ht
  have HK := Lib.hid hk
  have HA := Lib.hid ha
  have HB := Lib.hid hb
  have HG2 := Lib.hid (show numsB m [s.data.toList, t.data.toList] = false by unfold numsB; simp only [List.all_cons, List.all_nil, ha, hb]; rfl)
  have HG1 := Lib.hid (show numsB m [s.data.toList] = true by unfold numsB; simp only [List.all_cons, List.all_nil, ha]; rfl)
  have HM0 := Lib.hid (show 0 < m.M by have := hk.ok.one; omega)
  have HM1 := Lib.hid hk.ok.one
  have HM4 := Lib.hid hk.ok.lt
  have HLA := Lib.hid (Nat.lt_trans (numB_lt m _ ha) hk.ok.lt)
  clear hk ha hb
  go_enter Try.func6, Try.ntmps6
  go_wp2_with fail
  refine (lent_any s _ (by have := HS.out; omega)).mono ?_
  rintro e w1 ⟨rfl, hg1, hf1, hz1⟩
  clear hz1
  generalize w.heap.size = gi at *
  have hrd1 : RdB w1 (some ⟨gi, 0, none⟩) (s.size + 160) (lentL s.data.toList) := by
    have := Rd.whole hg1
    rwa [length_bs, lentL_len, size_list] at this
  have HRD1 := Lib.hid hrd1
  have HF1 := Lib.hid hf1
  clear hg1 hrd1 hf1
  go_wp2_with fail
  refine (lent_any t _ (by have := HT.out; omega)).mono ?_
  rintro e w2 ⟨rfl, hg2, hf2, hz2⟩
  clear hz2
  generalize w1.heap.size = gj at *
  have hrd2 : RdB w2 (some ⟨gj, 0, none⟩) (t.size + 160) (lentL t.data.toList) := by
    have := Rd.whole hg2
    rwa [length_bs, lentL_len, size_list] at this
  have HRS := Lib.hid (HRD1.out.still hf2)
  have HRT := Lib.hid hrd2
  have HF2 := Lib.hid (HF1.out.then hf2)
  clear hg2 hrd2 hf2 HRD1 HF1
  have HPA : Hid (BPart w2 (.slice (some ⟨gi, 0, none⟩) s.size (s.size + 160)) s.data.toList) := Lib.hid ⟨_, _, _, rfl, by omega, by
    have h := RdB.front HRS.out s.size (by omega)
    rwa [lentL_take] at h⟩
  have HPB : Hid (BPart w2 (.slice (some ⟨gj, 0, none⟩) t.size (t.size + 160)) t.data.toList) := Lib.hid ⟨_, _, _, rfl, by omega, by
    have h := RdB.front HRT.out t.size (by omega)
    rwa [lentL_take] at h⟩
  have k1 := fun wx => run_slice_hi (P := Try.prog) wx Try.underlying29 size_u8 (some ⟨gi, 0, none⟩) (s.size + 160) (s.size + 160) .i64 s.size (by omega)
  have k2 := fun wx => run_slice_hi (P := Try.prog) wx Try.underlying29 size_u8 (some ⟨gj, 0, none⟩) (t.size + 160) (t.size + 160) .i64 t.size (by omega)
  have hci : (s.size : Int) ≤ (s.size : Int) + 160 := by omega
  have hcj : (t.size : Int) ≤ (t.size : Int) + 160 := by omega
  have F0 := Lib.hid (Fr.refl Nob w2)
  go_wp2_with fail
  refine (NAdd_bad k m HK.out _ _ _ _ _ (HPA.out.still F0.out) (HPB.out.still F0.out) HG2.out).mono ?_
  rintro e w3 ⟨rfl, hf3⟩
  have F1 := Lib.hid (F0.out.then hf3)
  clear hf3 F0
  clear k1 k2 hci hcj
  go_wp2_with fail
  refine (NSub_bad k m HK.out _ _ _ _ _ (HPA.out.still F1.out) (HPB.out.still F1.out) HG2.out).mono ?_
  rintro e w4 ⟨rfl, hf4⟩
  have F2 := Lib.hid (F1.out.then hf4)
  clear hf4 F1
  go_wp2_with fail
  refine (NMul_bad k m HK.out _ _ _ _ _ (HPA.out.still F2.out) (HPB.out.still F2.out) HG2.out).mono ?_
  rintro e w5 ⟨rfl, hf5⟩
  have F3 := Lib.hid (F2.out.then hf5)
  clear hf5 F2
  go_wp2_with fail
  refine (NInv_ok k m HK.out _ _ _ (HPA.out.still F3.out) HG1.out).mono ?_
  rintro e w6 ⟨vInv, rfl, ho6, hf6⟩
  obtain ⟨aInv, cInv, rfl, -, hr6, -⟩ := ho6.form
  have HRInv := Lib.hid (show RdB w6 aInv 32 (be32 (beN s.data.toList ^ (m.M - 2) % m.M)) by rw [Nat.mul_one] at hr6; exact hr6)
  clear ho6 hr6
  have F4 := Lib.hid (F3.out.then hf6)
  clear hf6 F3
  go_wp2_with fail
  refine (still_any _ _ _ _ s _ (by have := HS.out; omega) (HRS.out.still F4.out)).mono ?_
  rintro e w7 ⟨rfl, hf7⟩
  rw [decide_eq_true rfl]
  have HRInv7 := Lib.hid (HRInv.out.still hf7)
  clear HRInv
  rename Hid (RdB w7 aInv 32 _) => HRInv
  have F5 := Lib.hid (F4.out.then hf7)
  clear hf7 F4
  go_wp2_with fail
  refine (still_any _ _ _ _ t _ (by have := HT.out; omega) (HRT.out.still F5.out)).mono ?_
  rintro e w8 ⟨rfl, hf8⟩
  rw [decide_eq_true rfl]
  have HRInv8 := Lib.hid (HRInv.out.still hf8)
  clear HRInv
  rename Hid (RdB w8 aInv 32 _) => HRInv
  have F6 := Lib.hid (F5.out.then hf8)
  clear hf8 F5
  go_wp2_with fail
  refine (Known_k HK.out _).mono ?_
  rintro e' wK ⟨rfl, rfl⟩
  have st0 := St.start Nob w8
  go_wp2_with (with_reducible refine wl_stop (o := ⟨some 25, _, _, _, _, _⟩) ?_)
  refine wl_allocS st0 rfl rfl (z := .agg #[.int .u64 0, .int .u64 0, .int .u64 0, .int .u64 0]) (by kernel_rfl) (cw 4 0) (by rw [cw_zero]; rfl) ?_
  intro g25 w9 st9
  clear st0
  go_wp2_with (with_reducible refine wl_stop (o := ⟨some 26, _, _, _, _, _⟩) ?_)
  refine wl_allocS st9 rfl rfl (z := .agg #[.int .u64 0, .int .u64 0, .int .u64 0, .int .u64 0]) (by kernel_rfl) (cw 4 0) (by rw [cw_zero]; rfl) ?_
  intro g26 w10 st10
  clear st9
  go_wp2_with (with_reducible refine wl_stop (o := ⟨some 27, _, _, _, _, _⟩) ?_)
  refine wl_allocS st10 rfl rfl (z := .agg #[.int .u64 0, .int .u64 0, .int .u64 0, .int .u64 0]) (by kernel_rfl) (cw 4 0) (by rw [cw_zero]; rfl) ?_
  intro g27 w11 st11
  clear st10
  go_wp2_with (with_reducible refine wl_stop (o := ⟨some 28, _, _, _, _, _⟩) ?_)
  refine wl_allocS st11 rfl rfl (z := .agg #[.int .u64 0, .int .u64 0, .int .u64 0, .int .u64 0]) (by kernel_rfl) (cw 4 0) (by rw [cw_zero]; rfl) ?_
  intro g28 w12 st12
  clear st11
  go_wp2_with fail
  refine (MakeK HK.out _).mono ?_
  rintro e' w13 ⟨rfl, hf13⟩
  have st13 := st12.keep hf13
  clear st12 hf13
  go_wp2_with (with_reducible refine wl_stop (o := ⟨some 29, _, _, _, _, _⟩) ?_)
  refine wl_allocS st13 rfl rfl (z := .agg #[.int .u64 0, .int .u64 0, .int .u64 0, .int .u64 0, .int .u64 0, .int .u64 0, .int .u64 0, .int .u64 0]) (by kernel_rfl) (cw 8 0) (by rw [cw_zero]; rfl) ?_
  intro g29 w14 st14
  clear st13
  go_wp2_with (with_reducible refine wl_stop (o := ⟨none, _, _, _, _, _⟩) ?_)
  refine wl_storeS st14 4 rfl rfl rfl rfl rfl (by first | (simp only [cw_len]; done) | (simp only [List.length_append, cw_len]; done)) (by first | (rw [cw_len]; kernel_rfl) | (simp only [List.length_append, cw_len]; kernel_rfl)) (cw2_one _ _ _ _) ?_
  intro w15 st15
  clear st14
  go_wp2_with (with_reducible refine wl_stop (o := ⟨some 105, _, _, _, _, _⟩) ?_)
  refine wl_loadSt st15 4 rfl rfl rfl Try.underlying40 rfl rfl (by first | (rw [cw_len]; kernel_rfl) | (simp only [List.length_append, cw_len]; kernel_rfl)) ?_
  go_wp2_with fail
  refine (Number_t m HK.out.ok.lt s _ HA.out).mono ?_
  rintro e' w16 ⟨rfl, hf16⟩
  have st16 := st15.keep hf16
  clear st15 hf16
  go_wp2_with (with_reducible refine wl_stop (o := ⟨some 30, _, _, _, _, _⟩) ?_)
  refine wl_allocS st16 rfl rfl (z := .agg #[.int .u64 0, .int .u64 0, .int .u64 0, .int .u64 0]) (by kernel_rfl) (cw 4 0) (by rw [cw_zero]; rfl) ?_
  intro g30 w17 st17
  clear st16
  go_wp2_with (with_reducible refine wl_stop (o := ⟨none, _, _, _, _, _⟩) ?_)
  refine wl_storeS st17 5 rfl rfl rfl rfl rfl (by first | (simp only [cw_len]; done) | (simp only [List.length_append, cw_len]; done)) (by first | (rw [cw_len]; kernel_rfl) | (simp only [List.length_append, cw_len]; kernel_rfl)) (cw_one _ _) ?_
  intro w18 st18
  clear st17
  go_wp2_with (with_reducible refine wl_stop (o := ⟨some 111, _, _, _, _, _⟩) ?_)
  refine wl_loadSt st18 4 rfl rfl rfl Try.underlying40 rfl rfl (by first | (rw [cw_len]; kernel_rfl) | (simp only [List.length_append, cw_len]; kernel_rfl)) ?_
  go_wp2_with fail
  refine (Number_f m HK.out.ok.lt t _ HB.out).mono ?_
  rintro e' w19 ⟨NB, rfl, hf19⟩
  have st19 := st18.keep hf19
  clear st18 hf19
  go_wp2_with (with_reducible refine wl_stop (o := ⟨some 32, _, _, _, _, _⟩) ?_)
  refine wl_allocS st19 rfl rfl (z := .agg #[.int .u64 0, .int .u64 0, .int .u64 0, .int .u64 0]) (by kernel_rfl) (cw 4 0) (by rw [cw_zero]; rfl) ?_
  intro g32 w20 st20
  clear st19
  go_wp2_with (with_reducible refine wl_stop (o := ⟨none, _, _, _, _, _⟩) ?_)
  refine wl_storeS st20 6 rfl rfl rfl rfl rfl (by first | (simp only [cw_len]; done) | (simp only [List.length_append, cw_len]; done)) (by first | (rw [cw_len]; kernel_rfl) | (simp only [List.length_append, cw_len]; kernel_rfl)) (cw_one _ _) ?_
  intro w21 st21
  clear st20
  go_wp2_with (with_reducible refine wl_stop (o := ⟨some 141, _, _, _, _, _⟩) ?_)
  refine wl_loadSt st21 4 rfl rfl rfl Try.underlying40 rfl rfl (by first | (rw [cw_len]; kernel_rfl) | (simp only [List.length_append, cw_len]; kernel_rfl)) ?_
  go_wp2_with (with_reducible refine wl_stop (o := ⟨some 142, _, _, _, _, _⟩) ?_)
  refine wl_loadS st21 5 rfl rfl rfl Try.underlying38 rfl (by first | (rw [cw_len]; kernel_rfl) | (simp only [List.length_append, cw_len]; kernel_rfl)) ?_
  go_wp2_with fail
  refine (Inv_any m.M _ _ HM1.out HM4.out HLA.out).mono ?_
  rintro e' w22 ⟨rfl, hf22⟩
  have st22 := st21.keep hf22
  clear st21 hf22
  go_wp2_with (with_reducible refine wl_stop (o := ⟨none, _, _, _, _, _⟩) ?_)
  refine wl_storeS st22 3 rfl rfl rfl rfl rfl (by first | (simp only [cw_len]; done) | (simp only [List.length_append, cw_len]; done)) (by first | (rw [cw_len]; kernel_rfl) | (simp only [List.length_append, cw_len]; kernel_rfl)) (cw_one _ _) ?_
  intro w23 st23
  clear st22
  go_wp2_with (with_reducible refine wl_stop (o := ⟨some 147, _, _, _, _, _⟩) ?_)
  refine wl_loadS st23 0 rfl rfl rfl Try.underlying38 rfl (by first | (rw [cw_len]; kernel_rfl) | (simp only [List.length_append, cw_len]; kernel_rfl)) ?_
  go_wp2_with fail
  refine (told_bad 3 0 _ (by decide)).mono ?_
  rintro e' w24 ⟨rfl, hf24⟩
  have st24 := st23.keep hf24
  clear st23 hf24
  go_wp2_with (with_reducible refine wl_stop (o := ⟨some 152, _, _, _, _, _⟩) ?_)
  refine wl_loadS st24 1 rfl rfl rfl Try.underlying38 rfl (by first | (rw [cw_len]; kernel_rfl) | (simp only [List.length_append, cw_len]; kernel_rfl)) ?_
  go_wp2_with fail
  refine (told_bad 3 0 _ (by decide)).mono ?_
  rintro e' w25 ⟨rfl, hf25⟩
  have st25 := st24.keep hf25
  clear st24 hf25
  go_wp2_with (with_reducible refine wl_stop (o := ⟨some 157, _, _, _, _, _⟩) ?_)
  refine wl_loadS st25 2 rfl rfl rfl Try.underlying38 rfl (by first | (rw [cw_len]; kernel_rfl) | (simp only [List.length_append, cw_len]; kernel_rfl)) ?_
  go_wp2_with fail
  refine (told_bad 3 0 _ (by decide)).mono ?_
  rintro e' w26 ⟨rfl, hf26⟩
  have st26 := st25.keep hf26
  clear st25 hf26
  go_wp2_with (with_reducible refine wl_stop (o := ⟨some 162, _, _, _, _, _⟩) ?_)
  refine wl_loadS st26 3 rfl rfl rfl Try.underlying38 rfl (by first | (rw [cw_len]; kernel_rfl) | (simp only [List.length_append, cw_len]; kernel_rfl)) ?_
  go_wp2_with fail
  refine (told_ok aInv 32 cInv (beN s.data.toList ^ (m.M - 2) % m.M) _ (HRInv.out.still st26.fr)).mono ?_
  rintro e' w27 ⟨rfl, hf27⟩
  have st27 := st26.keep hf27
  clear st26 hf27
  have hfr := HF2.out.then (F6.out.then st27.fr)
  clear st27
  go_wp2_with fail
  go_ret
  exact ⟨rfl, hfr⟩

set_option maxHeartbeats 16000000 in
set_option maxRecDepth 1000000 in
theorem law_NumReckons_tt (k : Int) (m : Md) (hk : KindOf k m) (s t : ByteArray) (w : World) (hs : s.size ≤ 16384) (ht : t.size ≤ 16384) (ha : numB m s.data.toList = true) (hb : numB m t.data.toList = true) :
    Calls Try.prog 6 #[.int .i64 k, .string s, .string t] w fun e w' => e = .returned (.bool true) ∧ Fr Nob w w' := by
  have hgs : ¬ ((16384 : Int) < (s.size : Int)) := by omega
  have hgt : ¬ ((16384 : Int) < (t.size : Int)) := by omega
  have HS := Lib.hid hs
  have HT := Lib.hid ht
  clear hs ht
  have HK := Lib.hid hk
  have HA := Lib.hid ha
  have HB := Lib.hid hb
  have HG2 := Lib.hid (show numsB m [s.data.toList, t.data.toList] = true by unfold numsB; simp only [List.all_cons, List.all_nil, ha, hb]; rfl)
  have HG1 := Lib.hid (show numsB m [s.data.toList] = true by unfold numsB; simp only [List.all_cons, List.all_nil, ha]; rfl)
  have HM0 := Lib.hid (show 0 < m.M by have := hk.ok.one; omega)
  have HM1 := Lib.hid hk.ok.one
  have HM4 := Lib.hid hk.ok.lt
  have HLA := Lib.hid (Nat.lt_trans (numB_lt m _ ha) hk.ok.lt)
  have HLB := Lib.hid (Nat.lt_trans (numB_lt m _ hb) hk.ok.lt)
  have HLBM := Lib.hid (Nat.le_of_lt (numB_lt m _ hb))
  have HSUB := Lib.hid (sub_same (beN s.data.toList) (beN t.data.toList) m.M (numB_lt m _ hb))
  clear hk ha hb
  go_enter Try.func6, Try.ntmps6
  go_wp2_with fail
  refine (lent_any s _ (by have := HS.out; omega)).mono ?_
  rintro e w1 ⟨rfl, hg1, hf1, hz1⟩
  clear hz1
  generalize w.heap.size = gi at *
  have hrd1 : RdB w1 (some ⟨gi, 0, none⟩) (s.size + 160) (lentL s.data.toList) := by
    have := Rd.whole hg1
    rwa [length_bs, lentL_len, size_list] at this
  have HRD1 := Lib.hid hrd1
  have HF1 := Lib.hid hf1
  clear hg1 hrd1 hf1
  go_wp2_with fail
  refine (lent_any t _ (by have := HT.out; omega)).mono ?_
  rintro e w2 ⟨rfl, hg2, hf2, hz2⟩
  clear hz2
  generalize w1.heap.size = gj at *
  have hrd2 : RdB w2 (some ⟨gj, 0, none⟩) (t.size + 160) (lentL t.data.toList) := by
    have := Rd.whole hg2
    rwa [length_bs, lentL_len, size_list] at this
  have HRS := Lib.hid (HRD1.out.still hf2)
  have HRT := Lib.hid hrd2
  have HF2 := Lib.hid (HF1.out.then hf2)
  clear hg2 hrd2 hf2 HRD1 HF1
  have HPA : Hid (BPart w2 (.slice (some ⟨gi, 0, none⟩) s.size (s.size + 160)) s.data.toList) := Lib.hid ⟨_, _, _, rfl, by omega, by
    have h := RdB.front HRS.out s.size (by omega)
    rwa [lentL_take] at h⟩
  have HPB : Hid (BPart w2 (.slice (some ⟨gj, 0, none⟩) t.size (t.size + 160)) t.data.toList) := Lib.hid ⟨_, _, _, rfl, by omega, by
    have h := RdB.front HRT.out t.size (by omega)
    rwa [lentL_take] at h⟩
  have k1 := fun wx => run_slice_hi (P := Try.prog) wx Try.underlying29 size_u8 (some ⟨gi, 0, none⟩) (s.size + 160) (s.size + 160) .i64 s.size (by omega)
  have k2 := fun wx => run_slice_hi (P := Try.prog) wx Try.underlying29 size_u8 (some ⟨gj, 0, none⟩) (t.size + 160) (t.size + 160) .i64 t.size (by omega)
  have hci : (s.size : Int) ≤ (s.size : Int) + 160 := by omega
  have hcj : (t.size : Int) ≤ (t.size : Int) + 160 := by omega
  have F0 := Lib.hid (Fr.refl Nob w2)
  go_wp2_with fail
  refine (NAdd_ok k m HK.out _ _ _ _ _ (HPA.out.still F0.out) (HPB.out.still F0.out) HG2.out).mono ?_
  rintro e w3 ⟨vAdd, rfl, ho3, hf3⟩
  obtain ⟨aAdd, cAdd, rfl, -, hr3, -⟩ := ho3.form
  have HRAdd := Lib.hid (show RdB w3 aAdd 32 (be32 ((beN s.data.toList + beN t.data.toList) % m.M)) by rw [Nat.mul_one] at hr3; exact hr3)
  clear ho3 hr3
  have F1 := Lib.hid (F0.out.then hf3)
  clear hf3 F0
  clear k1 k2 hci hcj
  go_wp2_with fail
  refine (NSub_ok k m HK.out _ _ _ _ _ (HPA.out.still F1.out) (HPB.out.still F1.out) HG2.out).mono ?_
  rintro e w4 ⟨vSub, rfl, ho4, hf4⟩
  obtain ⟨aSub, cSub, rfl, -, hr4, -⟩ := ho4.form
  have HRSub := Lib.hid (show RdB w4 aSub 32 (be32 ((beN s.data.toList + (m.M - beN t.data.toList % m.M)) % m.M)) by rw [Nat.mul_one] at hr4; exact hr4)
  clear ho4 hr4
  have HRAdd4 := Lib.hid (HRAdd.out.still hf4)
  clear HRAdd
  rename Hid (RdB w4 aAdd 32 _) => HRAdd
  have F2 := Lib.hid (F1.out.then hf4)
  clear hf4 F1
  go_wp2_with fail
  refine (NMul_ok k m HK.out _ _ _ _ _ (HPA.out.still F2.out) (HPB.out.still F2.out) HG2.out).mono ?_
  rintro e w5 ⟨vMul, rfl, ho5, hf5⟩
  obtain ⟨aMul, cMul, rfl, -, hr5, -⟩ := ho5.form
  have HRMul := Lib.hid (show RdB w5 aMul 32 (be32 (beN s.data.toList * beN t.data.toList % m.M)) by rw [Nat.mul_one] at hr5; exact hr5)
  clear ho5 hr5
  have HRAdd5 := Lib.hid (HRAdd.out.still hf5)
  clear HRAdd
  rename Hid (RdB w5 aAdd 32 _) => HRAdd
  have HRSub5 := Lib.hid (HRSub.out.still hf5)
  clear HRSub
  rename Hid (RdB w5 aSub 32 _) => HRSub
  have F3 := Lib.hid (F2.out.then hf5)
  clear hf5 F2
  go_wp2_with fail
  refine (NInv_ok k m HK.out _ _ _ (HPA.out.still F3.out) HG1.out).mono ?_
  rintro e w6 ⟨vInv, rfl, ho6, hf6⟩
  obtain ⟨aInv, cInv, rfl, -, hr6, -⟩ := ho6.form
  have HRInv := Lib.hid (show RdB w6 aInv 32 (be32 (beN s.data.toList ^ (m.M - 2) % m.M)) by rw [Nat.mul_one] at hr6; exact hr6)
  clear ho6 hr6
  have HRAdd6 := Lib.hid (HRAdd.out.still hf6)
  clear HRAdd
  rename Hid (RdB w6 aAdd 32 _) => HRAdd
  have HRSub6 := Lib.hid (HRSub.out.still hf6)
  clear HRSub
  rename Hid (RdB w6 aSub 32 _) => HRSub
  have HRMul6 := Lib.hid (HRMul.out.still hf6)
  clear HRMul
  rename Hid (RdB w6 aMul 32 _) => HRMul
  have F4 := Lib.hid (F3.out.then hf6)
  clear hf6 F3
  go_wp2_with fail
  refine (still_any _ _ _ _ s _ (by have := HS.out; omega) (HRS.out.still F4.out)).mono ?_
  rintro e w7 ⟨rfl, hf7⟩
  rw [decide_eq_true rfl]
  have HRAdd7 := Lib.hid (HRAdd.out.still hf7)
  clear HRAdd
  rename Hid (RdB w7 aAdd 32 _) => HRAdd
  have HRSub7 := Lib.hid (HRSub.out.still hf7)
  clear HRSub
  rename Hid (RdB w7 aSub 32 _) => HRSub
  have HRMul7 := Lib.hid (HRMul.out.still hf7)
  clear HRMul
  rename Hid (RdB w7 aMul 32 _) => HRMul
  have HRInv7 := Lib.hid (HRInv.out.still hf7)
  clear HRInv
  rename Hid (RdB w7 aInv 32 _) => HRInv
  have F5 := Lib.hid (F4.out.then hf7)
  clear hf7 F4
  go_wp2_with fail
  refine (still_any _ _ _ _ t _ (by have := HT.out; omega) (HRT.out.still F5.out)).mono ?_
  rintro e w8 ⟨rfl, hf8⟩
  rw [decide_eq_true rfl]
  have HRAdd8 := Lib.hid (HRAdd.out.still hf8)
  clear HRAdd
  rename Hid (RdB w8 aAdd 32 _) => HRAdd
  have HRSub8 := Lib.hid (HRSub.out.still hf8)
  clear HRSub
  rename Hid (RdB w8 aSub 32 _) => HRSub
  have HRMul8 := Lib.hid (HRMul.out.still hf8)
  clear HRMul
  rename Hid (RdB w8 aMul 32 _) => HRMul
  have HRInv8 := Lib.hid (HRInv.out.still hf8)
  clear HRInv
  rename Hid (RdB w8 aInv 32 _) => HRInv
  have F6 := Lib.hid (F5.out.then hf8)
  clear hf8 F5
  go_wp2_with fail
  refine (Known_k HK.out _).mono ?_
  rintro e' wK ⟨rfl, rfl⟩
  have st0 := St.start Nob w8
  go_wp2_with (with_reducible refine wl_stop (o := ⟨some 25, _, _, _, _, _⟩) ?_)
  refine wl_allocS st0 rfl rfl (z := .agg #[.int .u64 0, .int .u64 0, .int .u64 0, .int .u64 0]) (by kernel_rfl) (cw 4 0) (by rw [cw_zero]; rfl) ?_
  intro g25 w9 st9
  clear st0
  go_wp2_with (with_reducible refine wl_stop (o := ⟨some 26, _, _, _, _, _⟩) ?_)
  refine wl_allocS st9 rfl rfl (z := .agg #[.int .u64 0, .int .u64 0, .int .u64 0, .int .u64 0]) (by kernel_rfl) (cw 4 0) (by rw [cw_zero]; rfl) ?_
  intro g26 w10 st10
  clear st9
  go_wp2_with (with_reducible refine wl_stop (o := ⟨some 27, _, _, _, _, _⟩) ?_)
  refine wl_allocS st10 rfl rfl (z := .agg #[.int .u64 0, .int .u64 0, .int .u64 0, .int .u64 0]) (by kernel_rfl) (cw 4 0) (by rw [cw_zero]; rfl) ?_
  intro g27 w11 st11
  clear st10
  go_wp2_with (with_reducible refine wl_stop (o := ⟨some 28, _, _, _, _, _⟩) ?_)
  refine wl_allocS st11 rfl rfl (z := .agg #[.int .u64 0, .int .u64 0, .int .u64 0, .int .u64 0]) (by kernel_rfl) (cw 4 0) (by rw [cw_zero]; rfl) ?_
  intro g28 w12 st12
  clear st11
  go_wp2_with fail
  refine (MakeK HK.out _).mono ?_
  rintro e' w13 ⟨rfl, hf13⟩
  have st13 := st12.keep hf13
  clear st12 hf13
  go_wp2_with (with_reducible refine wl_stop (o := ⟨some 29, _, _, _, _, _⟩) ?_)
  refine wl_allocS st13 rfl rfl (z := .agg #[.int .u64 0, .int .u64 0, .int .u64 0, .int .u64 0, .int .u64 0, .int .u64 0, .int .u64 0, .int .u64 0]) (by kernel_rfl) (cw 8 0) (by rw [cw_zero]; rfl) ?_
  intro g29 w14 st14
  clear st13
  go_wp2_with (with_reducible refine wl_stop (o := ⟨none, _, _, _, _, _⟩) ?_)
  refine wl_storeS st14 4 rfl rfl rfl rfl rfl (by first | (simp only [cw_len]; done) | (simp only [List.length_append, cw_len]; done)) (by first | (rw [cw_len]; kernel_rfl) | (simp only [List.length_append, cw_len]; kernel_rfl)) (cw2_one _ _ _ _) ?_
  intro w15 st15
  clear st14
  go_wp2_with (with_reducible refine wl_stop (o := ⟨some 105, _, _, _, _, _⟩) ?_)
  refine wl_loadSt st15 4 rfl rfl rfl Try.underlying40 rfl rfl (by first | (rw [cw_len]; kernel_rfl) | (simp only [List.length_append, cw_len]; kernel_rfl)) ?_
  go_wp2_with fail
  refine (Number_t m HK.out.ok.lt s _ HA.out).mono ?_
  rintro e' w16 ⟨rfl, hf16⟩
  have st16 := st15.keep hf16
  clear st15 hf16
  go_wp2_with (with_reducible refine wl_stop (o := ⟨some 30, _, _, _, _, _⟩) ?_)
  refine wl_allocS st16 rfl rfl (z := .agg #[.int .u64 0, .int .u64 0, .int .u64 0, .int .u64 0]) (by kernel_rfl) (cw 4 0) (by rw [cw_zero]; rfl) ?_
  intro g30 w17 st17
  clear st16
  go_wp2_with (with_reducible refine wl_stop (o := ⟨none, _, _, _, _, _⟩) ?_)
  refine wl_storeS st17 5 rfl rfl rfl rfl rfl (by first | (simp only [cw_len]; done) | (simp only [List.length_append, cw_len]; done)) (by first | (rw [cw_len]; kernel_rfl) | (simp only [List.length_append, cw_len]; kernel_rfl)) (cw_one _ _) ?_
  intro w18 st18
  clear st17
  go_wp2_with (with_reducible refine wl_stop (o := ⟨some 111, _, _, _, _, _⟩) ?_)
  refine wl_loadSt st18 4 rfl rfl rfl Try.underlying40 rfl rfl (by first | (rw [cw_len]; kernel_rfl) | (simp only [List.length_append, cw_len]; kernel_rfl)) ?_
  go_wp2_with fail
  refine (Number_t m HK.out.ok.lt t _ HB.out).mono ?_
  rintro e' w19 ⟨rfl, hf19⟩
  have st19 := st18.keep hf19
  clear st18 hf19
  go_wp2_with (with_reducible refine wl_stop (o := ⟨some 32, _, _, _, _, _⟩) ?_)
  refine wl_allocS st19 rfl rfl (z := .agg #[.int .u64 0, .int .u64 0, .int .u64 0, .int .u64 0]) (by kernel_rfl) (cw 4 0) (by rw [cw_zero]; rfl) ?_
  intro g32 w20 st20
  clear st19
  go_wp2_with (with_reducible refine wl_stop (o := ⟨none, _, _, _, _, _⟩) ?_)
  refine wl_storeS st20 6 rfl rfl rfl rfl rfl (by first | (simp only [cw_len]; done) | (simp only [List.length_append, cw_len]; done)) (by first | (rw [cw_len]; kernel_rfl) | (simp only [List.length_append, cw_len]; kernel_rfl)) (cw_one _ _) ?_
  intro w21 st21
  clear st20
  go_wp2_with (with_reducible refine wl_stop (o := ⟨some 128, _, _, _, _, _⟩) ?_)
  refine wl_loadSt st21 4 rfl rfl rfl Try.underlying40 rfl rfl (by first | (rw [cw_len]; kernel_rfl) | (simp only [List.length_append, cw_len]; kernel_rfl)) ?_
  go_wp2_with (with_reducible refine wl_stop (o := ⟨some 129, _, _, _, _, _⟩) ?_)
  refine wl_loadS st21 5 rfl rfl rfl Try.underlying38 rfl (by first | (rw [cw_len]; kernel_rfl) | (simp only [List.length_append, cw_len]; kernel_rfl)) ?_
  go_wp2_with (with_reducible refine wl_stop (o := ⟨some 130, _, _, _, _, _⟩) ?_)
  refine wl_loadS st21 6 rfl rfl rfl Try.underlying38 rfl (by first | (rw [cw_len]; kernel_rfl) | (simp only [List.length_append, cw_len]; kernel_rfl)) ?_
  go_wp2_with fail
  refine (Add_any m.M _ _ _ HM0.out HM4.out HLA.out HLB.out).mono ?_
  rintro e' w22 ⟨rfl, hf22⟩
  have st22 := st21.keep hf22
  clear st21 hf22
  go_wp2_with (with_reducible refine wl_stop (o := ⟨none, _, _, _, _, _⟩) ?_)
  refine wl_storeS st22 0 rfl rfl rfl rfl rfl (by first | (simp only [cw_len]; done) | (simp only [List.length_append, cw_len]; done)) (by first | (rw [cw_len]; kernel_rfl) | (simp only [List.length_append, cw_len]; kernel_rfl)) (cw_one _ _) ?_
  intro w23 st23
  clear st22
  go_wp2_with (with_reducible refine wl_stop (o := ⟨some 132, _, _, _, _, _⟩) ?_)
  refine wl_loadSt st23 4 rfl rfl rfl Try.underlying40 rfl rfl (by first | (rw [cw_len]; kernel_rfl) | (simp only [List.length_append, cw_len]; kernel_rfl)) ?_
  go_wp2_with (with_reducible refine wl_stop (o := ⟨some 133, _, _, _, _, _⟩) ?_)
  refine wl_loadS st23 5 rfl rfl rfl Try.underlying38 rfl (by first | (rw [cw_len]; kernel_rfl) | (simp only [List.length_append, cw_len]; kernel_rfl)) ?_
  go_wp2_with (with_reducible refine wl_stop (o := ⟨some 134, _, _, _, _, _⟩) ?_)
  refine wl_loadS st23 6 rfl rfl rfl Try.underlying38 rfl (by first | (rw [cw_len]; kernel_rfl) | (simp only [List.length_append, cw_len]; kernel_rfl)) ?_
  go_wp2_with fail
  refine (Sub_any m.M _ _ _ HM0.out HM4.out HLA.out HLB.out HLBM.out).mono ?_
  rintro e' w24 ⟨rfl, hf24⟩
  have st24 := st23.keep hf24
  clear st23 hf24
  go_wp2_with (with_reducible refine wl_stop (o := ⟨none, _, _, _, _, _⟩) ?_)
  refine wl_storeS st24 1 rfl rfl rfl rfl rfl (by first | (simp only [cw_len]; done) | (simp only [List.length_append, cw_len]; done)) (by first | (rw [cw_len]; kernel_rfl) | (simp only [List.length_append, cw_len]; kernel_rfl)) (cw_one _ _) ?_
  intro w25 st25
  clear st24
  go_wp2_with (with_reducible refine wl_stop (o := ⟨some 136, _, _, _, _, _⟩) ?_)
  refine wl_loadSt st25 4 rfl rfl rfl Try.underlying40 rfl rfl (by first | (rw [cw_len]; kernel_rfl) | (simp only [List.length_append, cw_len]; kernel_rfl)) ?_
  go_wp2_with (with_reducible refine wl_stop (o := ⟨some 137, _, _, _, _, _⟩) ?_)
  refine wl_loadS st25 5 rfl rfl rfl Try.underlying38 rfl (by first | (rw [cw_len]; kernel_rfl) | (simp only [List.length_append, cw_len]; kernel_rfl)) ?_
  go_wp2_with (with_reducible refine wl_stop (o := ⟨some 138, _, _, _, _, _⟩) ?_)
  refine wl_loadS st25 6 rfl rfl rfl Try.underlying38 rfl (by first | (rw [cw_len]; kernel_rfl) | (simp only [List.length_append, cw_len]; kernel_rfl)) ?_
  go_wp2_with fail
  refine (Mul_any m.M _ _ _ HM0.out HM4.out HLA.out HLB.out).mono ?_
  rintro e' w26 ⟨rfl, hf26⟩
  have st26 := st25.keep hf26
  clear st25 hf26
  go_wp2_with (with_reducible refine wl_stop (o := ⟨none, _, _, _, _, _⟩) ?_)
  refine wl_storeS st26 2 rfl rfl rfl rfl rfl (by first | (simp only [cw_len]; done) | (simp only [List.length_append, cw_len]; done)) (by first | (rw [cw_len]; kernel_rfl) | (simp only [List.length_append, cw_len]; kernel_rfl)) (cw_one _ _) ?_
  intro w27 st27
  clear st26
  go_wp2_with (with_reducible refine wl_stop (o := ⟨some 141, _, _, _, _, _⟩) ?_)
  refine wl_loadSt st27 4 rfl rfl rfl Try.underlying40 rfl rfl (by first | (rw [cw_len]; kernel_rfl) | (simp only [List.length_append, cw_len]; kernel_rfl)) ?_
  go_wp2_with (with_reducible refine wl_stop (o := ⟨some 142, _, _, _, _, _⟩) ?_)
  refine wl_loadS st27 5 rfl rfl rfl Try.underlying38 rfl (by first | (rw [cw_len]; kernel_rfl) | (simp only [List.length_append, cw_len]; kernel_rfl)) ?_
  go_wp2_with fail
  refine (Inv_any m.M _ _ HM1.out HM4.out HLA.out).mono ?_
  rintro e' w28 ⟨rfl, hf28⟩
  have st28 := st27.keep hf28
  clear st27 hf28
  go_wp2_with (with_reducible refine wl_stop (o := ⟨none, _, _, _, _, _⟩) ?_)
  refine wl_storeS st28 3 rfl rfl rfl rfl rfl (by first | (simp only [cw_len]; done) | (simp only [List.length_append, cw_len]; done)) (by first | (rw [cw_len]; kernel_rfl) | (simp only [List.length_append, cw_len]; kernel_rfl)) (cw_one _ _) ?_
  intro w29 st29
  clear st28
  rw [HSUB.out] at HRSub
  go_wp2_with (with_reducible refine wl_stop (o := ⟨some 147, _, _, _, _, _⟩) ?_)
  refine wl_loadS st29 0 rfl rfl rfl Try.underlying38 rfl (by first | (rw [cw_len]; kernel_rfl) | (simp only [List.length_append, cw_len]; kernel_rfl)) ?_
  go_wp2_with fail
  refine (told_ok aAdd 32 cAdd ((beN s.data.toList + beN t.data.toList) % m.M) _ (HRAdd.out.still st29.fr)).mono ?_
  rintro e' w30 ⟨rfl, hf30⟩
  have st30 := st29.keep hf30
  clear st29 hf30
  go_wp2_with (with_reducible refine wl_stop (o := ⟨some 152, _, _, _, _, _⟩) ?_)
  refine wl_loadS st30 1 rfl rfl rfl Try.underlying38 rfl (by first | (rw [cw_len]; kernel_rfl) | (simp only [List.length_append, cw_len]; kernel_rfl)) ?_
  go_wp2_with fail
  refine (told_ok aSub 32 cSub ((beN s.data.toList + (m.M - beN t.data.toList)) % m.M) _ (HRSub.out.still st30.fr)).mono ?_
  rintro e' w31 ⟨rfl, hf31⟩
  have st31 := st30.keep hf31
  clear st30 hf31
  go_wp2_with (with_reducible refine wl_stop (o := ⟨some 157, _, _, _, _, _⟩) ?_)
  refine wl_loadS st31 2 rfl rfl rfl Try.underlying38 rfl (by first | (rw [cw_len]; kernel_rfl) | (simp only [List.length_append, cw_len]; kernel_rfl)) ?_
  go_wp2_with fail
  refine (told_ok aMul 32 cMul (beN s.data.toList * beN t.data.toList % m.M) _ (HRMul.out.still st31.fr)).mono ?_
  rintro e' w32 ⟨rfl, hf32⟩
  have st32 := st31.keep hf32
  clear st31 hf32
  go_wp2_with (with_reducible refine wl_stop (o := ⟨some 162, _, _, _, _, _⟩) ?_)
  refine wl_loadS st32 3 rfl rfl rfl Try.underlying38 rfl (by first | (rw [cw_len]; kernel_rfl) | (simp only [List.length_append, cw_len]; kernel_rfl)) ?_
  go_wp2_with fail
  refine (told_ok aInv 32 cInv (beN s.data.toList ^ (m.M - 2) % m.M) _ (HRInv.out.still st32.fr)).mono ?_
  rintro e' w33 ⟨rfl, hf33⟩
  have st33 := st32.keep hf33
  clear st32 hf33
  have hfr := HF2.out.then (F6.out.then st33.fr)
  clear st33
  go_wp2_with fail
  go_ret
  exact ⟨rfl, hfr⟩

set_option maxHeartbeats 16000000 in
set_option maxRecDepth 1000000 in
theorem law_NumReckons (k : Int) (s t : ByteArray) (w : World) :
    Calls Try.prog 6 #[.int .i64 k, .string s, .string t] w fun e w' => e = .returned (.bool true) ∧ Fr Nob w w' := by
  by_cases hs : 16384 < s.size
  · have hI : (16384 : Int) < (s.size : Int) := by omega
    go_enter Try.func6, Try.ntmps6
    go_wp2
    go_ret
    exact ⟨rfl, Fr.refl _ _⟩
  by_cases ht : 16384 < t.size
  · have hI : ¬ ((16384 : Int) < (s.size : Int)) := by omega
    have hJ : (16384 : Int) < (t.size : Int) := by omega
    go_enter Try.func6, Try.ntmps6
    go_wp2
    go_ret
    exact ⟨rfl, Fr.refl _ _⟩
  rcases kind_cases k with ⟨m, hk⟩ | ⟨h0, h1⟩
  · cases ha : numB m s.data.toList <;> cases hb : numB m t.data.toList
    · exact law_NumReckons_ff k m hk s t w (by omega) (by omega) ha hb
    · exact law_NumReckons_ft k m hk s t w (by omega) (by omega) ha hb
    · exact law_NumReckons_tf k m hk s t w (by omega) (by omega) ha hb
    · exact law_NumReckons_tt k m hk s t w (by omega) (by omega) ha hb
  · exact law_NumReckons_x k s t w (by omega) (by omega) h0 h1
end Go.Proofs.Ytmegaegedlbckaa
