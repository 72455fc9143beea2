/- The law NumReduces. -/
import Derived.Test.YtmegaegedlbckaaNm19
import Derived.Test.YtmegaegedlbckaaStill
import Derived.Test.YtmegaegedlbckaaCuts
namespace Go.Proofs.Ytmegaegedlbckaa
open Go.RowKit Go.Mv Mvp
theorem lentL_take (s : ByteArray) : (lentL s.data.toList).take s.size = s.data.toList := by
  unfold lentL
  rw [List.take_append_of_le_length (by simp), List.take_of_length_le (by simp)]
attribute [local irreducible] limbs lw mix cw cSub cAdd cMul foldC valFrom beN laid be32 powm montT mstep elN mdL lentL

theorem Known_k {k : Int} {m : Md} (hk : KindOf k m) (w : World) : Calls Try.prog 15 #[.int .i64 k] w fun e w' => e = .returned (.bool true) ∧ w = w' := by
  cases hk
  · go_enter Try.func15, Try.ntmps15
    go_wp2
    go_ret
    exact ⟨rfl, rfl⟩
  · go_enter Try.func15, Try.ntmps15
    go_wp2
    go_ret
    exact ⟨rfl, rfl⟩
theorem Known_x (k : Int) (w : World) (h0 : (k == 0) = false) (h1 : (k == 1) = false) : Calls Try.prog 15 #[.int .i64 k] w fun e w' => e = .returned (.bool false) ∧ w = w' := by
  go_enter Try.func15, Try.ntmps15
  go_wp2
  go_ret
  exact ⟨rfl, rfl⟩

set_option maxHeartbeats 8000000 in
set_option maxRecDepth 1000000 in
theorem law_NumReduces_x (k : Int) (s : ByteArray) (w : World) (h0 : (k == 0) = false) (h1 : (k == 1) = false) :
    Calls Try.prog 4 #[.int .i64 k, .string s] w fun e w' => e = .returned (.bool true) ∧ Fr Nob w w' := by
  have H0 := Lib.hid h0
  have H1 := Lib.hid h1
  clear h0 h1
  by_cases hbig : 16384 < s.size
  · have hI : (16384 : Int) < (s.size : Int) := by omega
    go_enter Try.func4, Try.ntmps4
    go_wp2
    go_ret
    exact ⟨rfl, Fr.refl _ _⟩
  have hI : ¬ ((16384 : Int) < (s.size : Int)) := by omega
  have HS := Lib.hid (show s.size ≤ 16384 by omega)
  clear hbig
  go_enter Try.func4, Try.ntmps4
  go_wp2_with fail
  refine (lent_any s _ (by have := HS.out; omega)).mono ?_
  rintro e w1 ⟨rfl, hg1, hf1, hz1⟩
  clear hz1
  generalize w.heap.size = gi at *
  have hrd1 : RdB w1 (some ⟨gi, 0, none⟩) (s.size + 160) (lentL s.data.toList) := by
    have := Rd.whole hg1
    rwa [length_bs, lentL_len, size_list] at this
  have HRD := Lib.hid hrd1
  have hrs1 : RdB w1 (some ⟨gi, 0, none⟩) s.size s.data.toList := by
    have h := RdB.front hrd1 s.size (by omega)
    rwa [lentL_take] at h
  have HRS := Lib.hid hrs1
  have HF1 := Lib.hid hf1
  clear hg1 hrd1 hrs1 hf1
  have k1 := fun wx => run_slice_hi (P := Try.prog) wx Try.underlying29 size_u8 (some ⟨gi, 0, none⟩) (s.size + 160) (s.size + 160) .i64 s.size (by omega)
  have hci : (s.size : Int) ≤ (s.size : Int) + 160 := by omega
  go_wp2_with fail
  refine (NModulus_x k _ H0.out H1.out).mono ?_
  rintro e w2 ⟨rfl, rfl⟩
  go_wp2_with fail
  refine (NReduce_x k _ _ H0.out H1.out).mono ?_
  rintro e w2 ⟨rfl, rfl⟩
  clear k1 hci
  go_wp2_with fail
  refine (still_any _ _ _ _ s _ (by have := HS.out; omega) HRD.out).mono ?_
  rintro e w3 ⟨rfl, hf3⟩
  have HF3 := Lib.hid (HF1.out.then hf3)
  clear hf3
  rw [decide_eq_true rfl]
  go_wp2_with fail
  refine (Known_x k _ H0.out H1.out).mono ?_
  rintro e w4 ⟨rfl, rfl⟩
  go_wp2_with fail
  go_ret
  exact ⟨rfl, HF3.out⟩

set_option maxHeartbeats 8000000 in
set_option maxRecDepth 1000000 in
theorem law_NumReduces_k (k : Int) (m : Md) (hk : KindOf k m) (s : ByteArray) (w : World) :
    Calls Try.prog 4 #[.int .i64 k, .string s] w fun e w' => e = .returned (.bool true) ∧ Fr Nob w w' := by
  have HK := Lib.hid hk
  clear hk
  by_cases hbig : 16384 < s.size
  · have hI : (16384 : Int) < (s.size : Int) := by omega
    go_enter Try.func4, Try.ntmps4
    go_wp2
    go_ret
    exact ⟨rfl, Fr.refl _ _⟩
  have hI : ¬ ((16384 : Int) < (s.size : Int)) := by omega
  have HS := Lib.hid (show s.size ≤ 16384 by omega)
  clear hbig
  go_enter Try.func4, Try.ntmps4
  go_wp2_with fail
  refine (lent_any s _ (by have := HS.out; omega)).mono ?_
  rintro e w1 ⟨rfl, hg1, hf1, hz1⟩
  clear hz1
  generalize w.heap.size = gi at *
  have hrd1 : RdB w1 (some ⟨gi, 0, none⟩) (s.size + 160) (lentL s.data.toList) := by
    have := Rd.whole hg1
    rwa [length_bs, lentL_len, size_list] at this
  have HRD := Lib.hid hrd1
  have hrs1 : RdB w1 (some ⟨gi, 0, none⟩) s.size s.data.toList := by
    have h := RdB.front hrd1 s.size (by omega)
    rwa [lentL_take] at h
  have HRS := Lib.hid hrs1
  have HF1 := Lib.hid hf1
  clear hg1 hrd1 hrs1 hf1
  have k1 := fun wx => run_slice_hi (P := Try.prog) wx Try.underlying29 size_u8 (some ⟨gi, 0, none⟩) (s.size + 160) (s.size + 160) .i64 s.size (by omega)
  have hci : (s.size : Int) ≤ (s.size : Int) + 160 := by omega
  go_wp2_with fail
  refine (NModulus_k k m HK.out _).mono ?_
  rintro e w2 ⟨vm, rfl, hom, hf2⟩
  obtain ⟨am, cm, rfl, -, hrm, -⟩ := hom.form
  have HRM := Lib.hid (show RdB w2 am 32 (be32 m.M) by rw [Nat.mul_one] at hrm; exact hrm)
  have HF2 := Lib.hid hf2
  clear hom hrm hf2
  by_cases hlen : s.size ≤ 1024
  · have HLEN := Lib.hid hlen
    have hlI : ¬ ((1024 : Int) < (s.size : Int)) := by omega
    clear hlen
    go_wp2_with fail
    refine (NReduce_k k m HK.out _ _ _ _ _ (HRS.out.still HF2.out) (by omega) HLEN.out).mono ?_
    rintro e w3 ⟨vb, rfl, hob, hf3⟩
    obtain ⟨ab, cb, rfl, -, hrb, -⟩ := hob.form
    have HRB := Lib.hid (show RdB w3 ab 32 (be32 (beN s.data.toList % m.M)) by rw [Nat.mul_one] at hrb; exact hrb)
    have HRM3 := Lib.hid (HRM.out.still hf3)
    have HF3 := Lib.hid (HF2.out.then hf3)
    clear hob hrb hf3 k1 hci HRM
    go_wp2_with fail
    refine (still_any _ _ _ _ s _ (by have := HS.out; omega) (HRD.out.still HF3.out)).mono ?_
    rintro e w4 ⟨rfl, hf4⟩
    have HF4 := Lib.hid (HF3.out.then hf4)
    have HRM4 := Lib.hid (HRM3.out.still hf4)
    have HRB4 := Lib.hid (HRB.out.still hf4)
    clear hf4 HRM3
    rw [decide_eq_true rfl]
    go_wp2_with fail
    refine (Known_k HK.out _).mono ?_
    rintro e w5 ⟨rfl, rfl⟩
    have st0 := St.start Nob w4
    go_wp2_with fail
    refine (MakeK HK.out _).mono ?_
    rintro e w5 ⟨rfl, hf5⟩
    have st1 := st0.keep hf5
    clear st0 hf5
    go_wp2_with (with_reducible refine wl_stop (o := ⟨some 13, _, _, _, _, _⟩) ?_)
    refine wl_allocS st1 rfl rfl (z := .agg #[.int .u64 0, .int .u64 0, .int .u64 0, .int .u64 0, .int .u64 0, .int .u64 0, .int .u64 0, .int .u64 0]) (by kernel_rfl) (cw 8 0) (by rw [cw_zero]; rfl) ?_
    intro g13 w6 st2
    clear st1
    go_wp2_with (with_reducible refine wl_stop (o := ⟨none, _, _, _, _, _⟩) ?_)
    refine wl_storeS st2 0 rfl rfl rfl rfl rfl (by simp only [List.length_append, cw_len]) (by simp only [List.length_append, cw_len]; kernel_rfl) (cw2_one _ _ _ _) ?_
    intro w7 st7
    clear st2
    go_wp2_with fail
    refine wp_region_noPanic ?_
    refine wp_region_plan (fun wx => St Nob w4 wx [(g13, cw 4 m.M ++ cw 4 (B64 ^ 4 - m.M), 40)]) 9 (.w 0 (.t 1 (.w 2 (.t 3 (.r 4 (.w 5 (.w 6 (.w 7 (.w 8 (.m 9 .nil)))))))))) (by kernel_rfl) (by kernel_rfl) st7.drew (fun _ _ _ _ _ h => h) ?_
    have hd7 := st7.drew
    clear st7
    refine plan_w (v := ?_) rfl rfl (fun wx => ?_) ?_
    rotate_left 1
    · (go_simp; with_reducible rfl)
    try simp only [Act.put, List.setIfInBounds_toArray, List.set_cons_zero, List.set_cons_succ]
    refine plan_t (v := ?_) rfl rfl (fun wx hS => ?_) ?_
    rotate_left 1
    · (have hc := run_string (P := Try.prog) (HRM4.out.still (St.fr hS)) cm Try.underlying29 Try.underlying5 Try.underlying9; clear hS; go_simp; with_reducible rfl)
    try simp only [Act.put, List.setIfInBounds_toArray, List.set_cons_zero, List.set_cons_succ]
    refine plan_w (v := ?_) rfl rfl (fun wx => ?_) ?_
    rotate_left 1
    · (go_simp; with_reducible rfl)
    try simp only [Act.put, List.setIfInBounds_toArray, List.set_cons_zero, List.set_cons_succ]
    refine plan_arr rfl rfl rfl rfl (cw 4 m.M) (fun wx hS => St.rangeL hS 0 rfl 0 _ (cw_left 4 4 _ _)) Try.underlying38 rfl (by simp only [List.length_append, cw_len]; kernel_rfl) ?_
    try simp only [Act.put, List.setIfInBounds_toArray, List.set_cons_zero, List.set_cons_succ]
    refine plan_r rfl rfl ?_
    go_simp
    refine (RBytes_any m.M _).mono ?_
    rintro e' w8 ⟨rfl, hf8⟩
    have st8 := hd7.keep hf8
    clear hf8
    clear hd7
    refine ⟨st8, ?_⟩
    try simp only [Act.put, List.setIfInBounds_toArray, List.set_cons_zero, List.set_cons_succ]
    refine plan_w (v := ?_) rfl rfl (fun wx => ?_) ?_
    rotate_left 1
    · (go_simp; with_reducible rfl)
    try simp only [Act.put, List.setIfInBounds_toArray, List.set_cons_zero, List.set_cons_succ]
    refine plan_w (v := ?_) rfl rfl (fun wx => ?_) ?_
    rotate_left 1
    · (go_simp; with_reducible rfl)
    try simp only [Act.put, List.setIfInBounds_toArray, List.set_cons_zero, List.set_cons_succ]
    refine plan_g (v := ?_) rfl (by rfl) (fun wx => ?_) ?_
    rotate_left 1
    · (go_simp; with_reducible rfl)
    try simp only [Act.put, List.setIfInBounds_toArray, List.set_cons_zero, List.set_cons_succ]
    refine plan_g (v := ?_) rfl (by rfl) (fun wx => ?_) ?_
    rotate_left 1
    · (go_simp; with_reducible rfl)
    try simp only [Act.put, List.setIfInBounds_toArray, List.set_cons_zero, List.set_cons_succ]
    refine plan_m rfl rfl ?_
    go_simp
    try simp only [Act.put, List.setIfInBounds_toArray, List.set_cons_zero, List.set_cons_succ]
    refine plan_end ?_
    refine NoPanic.normal ?_
    go_wp2_with (with_reducible refine wl_stop (o := ⟨some 82, _, _, _, _, _⟩) ?_)
    refine wl_loadSt st8 0 rfl rfl rfl Try.underlying40 rfl rfl (by simp only [List.length_append, cw_len]; kernel_rfl) ?_
    go_wp2_with fail
    refine (Mod_any m.M s _ (by have := HK.out.ok.one; omega) HK.out.ok.lt (by have := HLEN.out; omega)).mono ?_
    rintro e' w9 ⟨rfl, hf9⟩
    have st9 := st8.keep hf9
    clear st8 hf9
    go_wp2_with (with_reducible refine wl_stop (o := ⟨some 14, _, _, _, _, _⟩) ?_)
    refine wl_allocS st9 rfl rfl (z := .agg #[.int .u64 0, .int .u64 0, .int .u64 0, .int .u64 0]) (by kernel_rfl) (cw 4 0) (by rw [cw_zero]; rfl) ?_
    intro g14 w10 st10
    clear st9
    go_wp2_with (with_reducible refine wl_stop (o := ⟨none, _, _, _, _, _⟩) ?_)
    refine wl_storeS st10 1 rfl rfl rfl rfl rfl (by simp only [List.length_append, cw_len]) (by simp only [List.length_append, cw_len]; kernel_rfl) (cw_one _ _) ?_
    intro w11 st11
    clear st10
    go_wp2_with (with_reducible refine wl_stop (o := ⟨some 87, _, _, _, _, _⟩) ?_)
    refine wl_loadS st11 1 rfl rfl rfl Try.underlying38 rfl (by simp only [List.length_append, cw_len]; kernel_rfl) ?_
    have HST := Lib.hid (st11.fr)
    clear st11
    go_wp2_with fail
    refine (told_ok ab 32 cb (beN s.data.toList % m.M) _ (HRB4.out.still HST.out)).mono ?_
    rintro e wz ⟨rfl, hfz⟩
    have HFZ := Lib.hid ((HF4.out.then HST.out).then hfz)
    clear hfz
    go_wp2_with fail
    go_ret
    exact ⟨rfl, HF1.out.then HFZ.out⟩
  · have HLEN := Lib.hid hlen
    have hlI : (1024 : Int) < (s.size : Int) := by omega
    clear hlen
    go_wp2_with fail
    refine (NReduce_l k m HK.out _ _ _ _ (by have := HLEN.out; omega)).mono ?_
    rintro e w3 ⟨rfl, hf3⟩
    have HRM3 := Lib.hid (HRM.out.still hf3)
    have HF3 := Lib.hid (HF2.out.then hf3)
    clear hf3 k1 hci HRM
    go_wp2_with fail
    refine (still_any _ _ _ _ s _ (by have := HS.out; omega) (HRD.out.still HF3.out)).mono ?_
    rintro e w4 ⟨rfl, hf4⟩
    have HF4 := Lib.hid (HF3.out.then hf4)
    have HRM4 := Lib.hid (HRM3.out.still hf4)
    clear hf4 HRM3
    rw [decide_eq_true rfl]
    go_wp2_with fail
    refine (Known_k HK.out _).mono ?_
    rintro e w5 ⟨rfl, rfl⟩
    have st0 := St.start Nob w4
    go_wp2_with fail
    refine (MakeK HK.out _).mono ?_
    rintro e w5 ⟨rfl, hf5⟩
    have st1 := st0.keep hf5
    clear st0 hf5
    go_wp2_with (with_reducible refine wl_stop (o := ⟨some 13, _, _, _, _, _⟩) ?_)
    refine wl_allocS st1 rfl rfl (z := .agg #[.int .u64 0, .int .u64 0, .int .u64 0, .int .u64 0, .int .u64 0, .int .u64 0, .int .u64 0, .int .u64 0]) (by kernel_rfl) (cw 8 0) (by rw [cw_zero]; rfl) ?_
    intro g13 w6 st2
    clear st1
    go_wp2_with (with_reducible refine wl_stop (o := ⟨none, _, _, _, _, _⟩) ?_)
    refine wl_storeS st2 0 rfl rfl rfl rfl rfl (by simp only [List.length_append, cw_len]) (by simp only [List.length_append, cw_len]; kernel_rfl) (cw2_one _ _ _ _) ?_
    intro w7 st7
    clear st2
    go_wp2_with fail
    refine wp_region_noPanic ?_
    refine wp_region_plan (fun wx => St Nob w4 wx [(g13, cw 4 m.M ++ cw 4 (B64 ^ 4 - m.M), 40)]) 9 (.w 0 (.t 1 (.w 2 (.t 3 (.r 4 (.w 5 (.w 6 (.w 7 (.w 8 (.m 9 .nil)))))))))) (by kernel_rfl) (by kernel_rfl) st7.drew (fun _ _ _ _ _ h => h) ?_
    have hd7 := st7.drew
    clear st7
    refine plan_w (v := ?_) rfl rfl (fun wx => ?_) ?_
    rotate_left 1
    · (go_simp; with_reducible rfl)
    try simp only [Act.put, List.setIfInBounds_toArray, List.set_cons_zero, List.set_cons_succ]
    refine plan_t (v := ?_) rfl rfl (fun wx hS => ?_) ?_
    rotate_left 1
    · (have hc := run_string (P := Try.prog) (HRM4.out.still (St.fr hS)) cm Try.underlying29 Try.underlying5 Try.underlying9; clear hS; go_simp; with_reducible rfl)
    try simp only [Act.put, List.setIfInBounds_toArray, List.set_cons_zero, List.set_cons_succ]
    refine plan_w (v := ?_) rfl rfl (fun wx => ?_) ?_
    rotate_left 1
    · (go_simp; with_reducible rfl)
    try simp only [Act.put, List.setIfInBounds_toArray, List.set_cons_zero, List.set_cons_succ]
    refine plan_arr rfl rfl rfl rfl (cw 4 m.M) (fun wx hS => St.rangeL hS 0 rfl 0 _ (cw_left 4 4 _ _)) Try.underlying38 rfl (by simp only [List.length_append, cw_len]; kernel_rfl) ?_
    try simp only [Act.put, List.setIfInBounds_toArray, List.set_cons_zero, List.set_cons_succ]
    refine plan_r rfl rfl ?_
    go_simp
    refine (RBytes_any m.M _).mono ?_
    rintro e' w8 ⟨rfl, hf8⟩
    have st8 := hd7.keep hf8
    clear hf8
    clear hd7
    refine ⟨st8, ?_⟩
    try simp only [Act.put, List.setIfInBounds_toArray, List.set_cons_zero, List.set_cons_succ]
    refine plan_w (v := ?_) rfl rfl (fun wx => ?_) ?_
    rotate_left 1
    · (go_simp; with_reducible rfl)
    try simp only [Act.put, List.setIfInBounds_toArray, List.set_cons_zero, List.set_cons_succ]
    refine plan_w (v := ?_) rfl rfl (fun wx => ?_) ?_
    rotate_left 1
    · (go_simp; with_reducible rfl)
    try simp only [Act.put, List.setIfInBounds_toArray, List.set_cons_zero, List.set_cons_succ]
    refine plan_g (v := ?_) rfl (by rfl) (fun wx => ?_) ?_
    rotate_left 1
    · (go_simp; with_reducible rfl)
    try simp only [Act.put, List.setIfInBounds_toArray, List.set_cons_zero, List.set_cons_succ]
    refine plan_g (v := ?_) rfl (by rfl) (fun wx => ?_) ?_
    rotate_left 1
    · (go_simp; with_reducible rfl)
    try simp only [Act.put, List.setIfInBounds_toArray, List.set_cons_zero, List.set_cons_succ]
    refine plan_m rfl rfl ?_
    go_simp
    try simp only [Act.put, List.setIfInBounds_toArray, List.set_cons_zero, List.set_cons_succ]
    refine plan_end ?_
    refine NoPanic.normal ?_
    have HF5 := Lib.hid (HF4.out.then st8.fr)
    clear st8
    go_wp2_with fail
    go_ret
    exact ⟨rfl, HF1.out.then HF5.out⟩

theorem law_NumReduces (k : Int) (s : ByteArray) (w : World) :
    Calls Try.prog 4 #[.int .i64 k, .string s] w fun e w' => e = .returned (.bool true) ∧ Fr Nob w w' := by
  rcases kind_cases k with ⟨m, hk⟩ | ⟨h0, h1⟩
  · exact law_NumReduces_k k m hk s w
  · exact law_NumReduces_x k s w h0 h1
end Go.Proofs.Ytmegaegedlbckaa
