/- A field's laws, plainly: inverses, roots of squares; mintvaultref1.Still: is a list all as it was lent?; The law NumReduces; num.Add, Sub, Mul, Inv: what they answer; The law NumReckons; num.Sqrt: what it answers. -/
import Derived.Test.YtmegaegedlbckaaMgNumLawsProof1
import Derived.Test.YtmegaegedlbckaaMgNumLawsProof4
import Derived.Test.YtmegaegedlbckaaMgNumLawsProof2
import Derived.Test.YtmegaegedlbckaaMgNumLawsProof3
namespace Mvq
open Mvp
/-- the prime of the points, of the scalars -/
structure FP (M : Nat) : Prop where
  prime : IsP M
  odd : M % 2 = 1
  big : 3 < M
theorem FP.inv {M a : Nat} (h : FP M) (ha : a < M) (h0 : a ≠ 0) : a * (a ^ (M - 2) % M) % M = 1 := by
  have hd : ¬ M ∣ a := fun hx => by have := Nat.le_of_dvd (by omega) hx; omega
  have hb := h.big
  rw [Nat.mul_mod_mod, Nat.mul_comm, ← Nat.pow_succ, show (M - 2).succ = M - 1 by omega]
  exact fermat h.prime hd
theorem FP.inv0 {M : Nat} (h : FP M) : 0 ^ (M - 2) % M = 0 := by
  have hb := h.big
  rw [Nat.zero_pow (by omega), Nat.zero_mod]
theorem sq_two {M a w : Nat} (h : IsP M) (ha : a < M) (hw : w < M) (hs : w * w % M = a * a % M) : w = a ∨ w = (M - a) % M := by
  have key : ∀ a w, a < M → w < M → a ≤ w → w * w % M = a * a % M → w = a ∨ w = (M - a) % M := by
    intro a w ha hw hle hs
    have hd : M ∣ (w - a) * (w + a) := by
      have h1 : M ∣ w * w - a * a := Nat.dvd_of_mod_eq_zero (Nat.sub_mod_eq_zero_of_mod_eq hs)
      rwa [Nat.mul_self_sub_mul_self_eq, Nat.mul_comm] at h1
    rcases h.euclid hd with h1 | h1
    · left
      rcases Nat.eq_zero_or_pos (w - a) with h2 | h2
      · omega
      · have := Nat.le_of_dvd h2 h1; omega
    · obtain ⟨c, hc⟩ := h1
      have h1 := h.1
      have hc2 : c = 0 ∨ c = 1 := by
        rcases Nat.lt_or_ge c 2 with h2 | h2
        · omega
        · have : M * 2 ≤ M * c := Nat.mul_le_mul_left _ h2
          omega
      rcases hc2 with rfl | rfl
      · left; omega
      · rcases Nat.eq_zero_or_pos a with h3 | h3
        · subst h3; omega
        · right; rw [Nat.mod_eq_of_lt (by omega)]; omega
  rcases Nat.le_total a w with h1 | h1
  · exact key a w ha hw h1 hs
  · rcases key w a hw ha h1 hs.symm with h2 | h2
    · exact Or.inl h2.symm
    · rcases Nat.eq_zero_or_pos w with h3 | h3
      · subst h3; rw [Nat.sub_zero, Nat.mod_self] at h2; exact Or.inl h2.symm
      · rw [Nat.mod_eq_of_lt (by omega)] at h2
        right
        rw [Nat.mod_eq_of_lt (by omega)]; omega
/-- the square of the root of a square -/
theorem root_sq {M a : Nat} (h : FP M) (h4 : M % 4 = 3) (ha : a < M) : rtOk M (a * a % M) = true := by
  unfold rtOk rtN
  rw [beq_iff_eq]
  have hb := h.big
  generalize hk : M / 4 + 1 = k
  have h2 : 4 * k = M + 1 := by omega
  rw [Nat.mul_mod ((a * a % M) ^ k), ← Nat.pow_mod, ← Nat.mul_mod, ← Nat.pow_two a, ← Nat.pow_mul, ← Nat.pow_add, show 2 * k + 2 * k = M + 1 by omega, Nat.mod_mod]
  rw [Nat.pow_succ, Nat.mul_mod, fermat1 h.prime, ← Nat.mul_mod, Nat.pow_two]
theorem root_lt {M x : Nat} (h : FP M) : rtV M x % M < M := Nat.mod_lt _ (by have := h.big; omega)
theorem root_even {M x : Nat} (h : FP M) : rtV M x % M % 2 = 0 := by
  unfold rtV
  have hb := h.big
  have ho := h.odd
  have hl : rtN M x % M < M := Nat.mod_lt _ (by omega)
  generalize hr : rtN M x % M = r at *
  split
  · rename_i h1
    rw [Nat.mod_eq_of_lt (show M - r < M by omega)]; omega
  · rw [hr]; omega
theorem root_square {M x : Nat} (h : FP M) (hx : x < M) (hr : rtOk M x = true) : (rtV M x % M) * (rtV M x % M) % M = x := by
  unfold rtOk at hr
  rw [beq_iff_eq, Nat.mul_mod, Nat.mod_eq_of_lt hx] at hr
  unfold rtV
  have hb := h.big
  have hl : rtN M x % M < M := Nat.mod_lt _ (by omega)
  generalize hq : rtN M x % M = r at *
  split
  · rename_i h1
    rw [Nat.mod_eq_of_lt (show M - r < M by omega)]
    have e : (M - r) * (M - r) + M * (2 * r) = r * r + M * M := by
      obtain ⟨d, rfl⟩ : ∃ d, M = r + d := ⟨M - r, by omega⟩
      rw [Nat.add_sub_cancel_left]
      clear hb hl hq hr hx h
      grind
    have e2 : ((M - r) * (M - r) + M * (2 * r)) % M = (r * r + M * M) % M := by rw [e]
    rw [Nat.add_mul_mod_self_left, Nat.add_mul_mod_self_left, hr] at e2
    exact e2
  · rw [hq, hr]
theorem FP_P : FP pP := ⟨by rw [show pP = 115792089237316195423570985008687907853269984665640564039457584007908834671663 by decide]; exact isP_pP, by decide, by decide⟩
theorem FP_Q : FP pQ := ⟨by rw [show pQ = 115792089237316195423570985008687907852837564279074904382605163141518161494337 by decide]; exact isP_pQ, by decide, by decide⟩
theorem pP_4 : pP % 4 = 3 := by decide
end Mvq

/- mintvaultref1.Still: is a list all as it was lent? -/
namespace Go.Proofs.Ytmegaegedlbckaa
open Go.RowKit Go.Mv Mvp

theorem ret_bool {a b : Bool} (h : a = b) : Ending.returned (.bool a) = .returned (.bool b) := by rw [h]

set_option maxHeartbeats 400000 in
set_option maxRecDepth 100000 in
theorem still_any (b : Option Addr) (n c : Nat) (l : List UInt8) (s : ByteArray) (w : World) (hs : s.size ≤ 1000000) (hb : RdB w b n l) :
    Calls Try.prog 14 #[.slice b n c, .string s] w fun e w' => e = .returned (.bool (decide (l = lentL s.data.toList))) ∧ Fr Nob w w' := by
  go_enter Try.func14, Try.ntmps14
  go_wp2_with fail
  refine (lent_any s _ hs).mono ?_
  rintro e w1 ⟨rfl, hh, hf, hz⟩
  have hb1 := hb.still hf
  have hc1 : RdB w1 (some ⟨w.heap.size, 0, none⟩) (s.size + 160) (lentL s.data.toList) := by
    have := Rd.whole hh
    rwa [length_bs, lentL_len, size_list] at this
  go_wp2_with (first
    | (with_reducible refine wl_stop (o := ⟨some 9, _, _, _, _, _⟩) ?_))
  refine wl_string rfl rfl Try.underlying29 Try.underlying5 Try.underlying9 rfl hb1 ?_
  go_wp2_with (first
    | (with_reducible refine wl_stop (o := ⟨some 11, _, _, _, _, _⟩) ?_))
  refine wl_string rfl rfl Try.underlying29 Try.underlying5 Try.underlying9 rfl hc1 ?_
  go_wp2_with fail
  go_ret
  exact ⟨ret_bool (beq_mkS _ _), hf⟩
end Go.Proofs.Ytmegaegedlbckaa

/- The law NumReduces. -/
namespace Go.Proofs.Ytmegaegedlbckaa
open Go.RowKit Go.Mv Mvp
theorem lentL_take (s : ByteArray) : (lentL s.data.toList).take s.size = s.data.toList := by
  unfold lentL
  rw [List.take_append_of_le_length (by simp), List.take_of_length_le (by simp)]
attribute [local irreducible] limbs lw mix cw cSub cAdd cMul foldC valFrom beN laid be32 powm montT mstep elN mdL lentL

theorem Known_k {k : Int} {m : Md} (hk : KindOf k m) (w : World) : Calls Try.prog 15 #[.int .i64 k] w fun e w' => e = .returned (.bool true) ∧ w = w' := by
  cases hk
  · go_enter Try.func15, Try.ntmps15
    go_wp2
    go_ret
    exact ⟨rfl, rfl⟩
  · go_enter Try.func15, Try.ntmps15
    go_wp2
    go_ret
    exact ⟨rfl, rfl⟩
theorem Known_x (k : Int) (w : World) (h0 : (k == 0) = false) (h1 : (k == 1) = false) : Calls Try.prog 15 #[.int .i64 k] w fun e w' => e = .returned (.bool false) ∧ w = w' := by
  go_enter Try.func15, Try.ntmps15
  go_wp2
  go_ret
  exact ⟨rfl, rfl⟩

set_option maxHeartbeats 8000000 in
set_option maxRecDepth 1000000 in
theorem law_NumReduces_x (k : Int) (s : ByteArray) (w : World) (h0 : (k == 0) = false) (h1 : (k == 1) = false) :
    Calls Try.prog 4 #[.int .i64 k, .string s] w fun e w' => e = .returned (.bool true) ∧ Fr Nob w w' := by
  have H0 := Lib.hid h0
  have H1 := Lib.hid h1
  clear h0 h1
  by_cases hbig : 16384 < s.size
  · have hI : (16384 : Int) < (s.size : Int) := by omega
    go_enter Try.func4, Try.ntmps4
    go_wp2
    go_ret
    exact ⟨rfl, Fr.refl _ _⟩
  have hI : ¬ ((16384 : Int) < (s.size : Int)) := by omega
  have HS := Lib.hid (show s.size ≤ 16384 by omega)
  clear hbig
  go_enter Try.func4, Try.ntmps4
  go_wp2_with fail
  refine (lent_any s _ (by have := HS.out; omega)).mono ?_
  rintro e w1 ⟨rfl, hg1, hf1, hz1⟩
  clear hz1
  generalize w.heap.size = gi at *
  have hrd1 : RdB w1 (some ⟨gi, 0, none⟩) (s.size + 160) (lentL s.data.toList) := by
    have := Rd.whole hg1
    rwa [length_bs, lentL_len, size_list] at this
  have HRD := Lib.hid hrd1
  have hrs1 : RdB w1 (some ⟨gi, 0, none⟩) s.size s.data.toList := by
    have h := RdB.front hrd1 s.size (by omega)
    rwa [lentL_take] at h
  have HRS := Lib.hid hrs1
  have HF1 := Lib.hid hf1
  clear hg1 hrd1 hrs1 hf1
  have k1 := fun wx => run_slice_hi (P := Try.prog) wx Try.underlying29 size_u8 (some ⟨gi, 0, none⟩) (s.size + 160) (s.size + 160) .i64 s.size (by omega)
  have hci : (s.size : Int) ≤ (s.size : Int) + 160 := by omega
  go_wp2_with fail
  refine (NModulus_x k _ H0.out H1.out).mono ?_
  rintro e w2 ⟨rfl, rfl⟩
  go_wp2_with fail
  refine (NReduce_x k _ _ H0.out H1.out).mono ?_
  rintro e w2 ⟨rfl, rfl⟩
  clear k1 hci
  go_wp2_with fail
  refine (still_any _ _ _ _ s _ (by have := HS.out; omega) HRD.out).mono ?_
  rintro e w3 ⟨rfl, hf3⟩
  have HF3 := Lib.hid (HF1.out.then hf3)
  clear hf3
  rw [decide_eq_true rfl]
  go_wp2_with fail
  refine (Known_x k _ H0.out H1.out).mono ?_
  rintro e w4 ⟨rfl, rfl⟩
  go_wp2_with fail
  go_ret
  exact ⟨rfl, HF3.out⟩

set_option maxHeartbeats 8000000 in
set_option maxRecDepth 1000000 in
theorem law_NumReduces_k (k : Int) (m : Md) (hk : KindOf k m) (s : ByteArray) (w : World) :
    Calls Try.prog 4 #[.int .i64 k, .string s] w fun e w' => e = .returned (.bool true) ∧ Fr Nob w w' := by
  have HK := Lib.hid hk
  clear hk
  by_cases hbig : 16384 < s.size
  · have hI : (16384 : Int) < (s.size : Int) := by omega
    go_enter Try.func4, Try.ntmps4
    go_wp2
    go_ret
    exact ⟨rfl, Fr.refl _ _⟩
  have hI : ¬ ((16384 : Int) < (s.size : Int)) := by omega
  have HS := Lib.hid (show s.size ≤ 16384 by omega)
  clear hbig
  go_enter Try.func4, Try.ntmps4
  go_wp2_with fail
  refine (lent_any s _ (by have := HS.out; omega)).mono ?_
  rintro e w1 ⟨rfl, hg1, hf1, hz1⟩
  clear hz1
  generalize w.heap.size = gi at *
  have hrd1 : RdB w1 (some ⟨gi, 0, none⟩) (s.size + 160) (lentL s.data.toList) := by
    have := Rd.whole hg1
    rwa [length_bs, lentL_len, size_list] at this
  have HRD := Lib.hid hrd1
  have hrs1 : RdB w1 (some ⟨gi, 0, none⟩) s.size s.data.toList := by
    have h := RdB.front hrd1 s.size (by omega)
    rwa [lentL_take] at h
  have HRS := Lib.hid hrs1
  have HF1 := Lib.hid hf1
  clear hg1 hrd1 hrs1 hf1
  have k1 := fun wx => run_slice_hi (P := Try.prog) wx Try.underlying29 size_u8 (some ⟨gi, 0, none⟩) (s.size + 160) (s.size + 160) .i64 s.size (by omega)
  have hci : (s.size : Int) ≤ (s.size : Int) + 160 := by omega
  go_wp2_with fail
  refine (NModulus_k k m HK.out _).mono ?_
  rintro e w2 ⟨vm, rfl, hom, hf2⟩
  obtain ⟨am, cm, rfl, -, hrm, -⟩ := hom.form
  have HRM := Lib.hid (show RdB w2 am 32 (be32 m.M) by rw [Nat.mul_one] at hrm; exact hrm)
  have HF2 := Lib.hid hf2
  clear hom hrm hf2
  by_cases hlen : s.size ≤ 1024
  · have HLEN := Lib.hid hlen
    have hlI : ¬ ((1024 : Int) < (s.size : Int)) := by omega
    clear hlen
    go_wp2_with fail
    refine (NReduce_k k m HK.out _ _ _ _ _ (HRS.out.still HF2.out) (by omega) HLEN.out).mono ?_
    rintro e w3 ⟨vb, rfl, hob, hf3⟩
    obtain ⟨ab, cb, rfl, -, hrb, -⟩ := hob.form
    have HRB := Lib.hid (show RdB w3 ab 32 (be32 (beN s.data.toList % m.M)) by rw [Nat.mul_one] at hrb; exact hrb)
    have HRM3 := Lib.hid (HRM.out.still hf3)
    have HF3 := Lib.hid (HF2.out.then hf3)
    clear hob hrb hf3 k1 hci HRM
    go_wp2_with fail
    refine (still_any _ _ _ _ s _ (by have := HS.out; omega) (HRD.out.still HF3.out)).mono ?_
    rintro e w4 ⟨rfl, hf4⟩
    have HF4 := Lib.hid (HF3.out.then hf4)
    have HRM4 := Lib.hid (HRM3.out.still hf4)
    have HRB4 := Lib.hid (HRB.out.still hf4)
    clear hf4 HRM3
    rw [decide_eq_true rfl]
    go_wp2_with fail
    refine (Known_k HK.out _).mono ?_
    rintro e w5 ⟨rfl, rfl⟩
    have st0 := St.start Nob w4
    go_wp2_with fail
    refine (MakeK HK.out _).mono ?_
    rintro e w5 ⟨rfl, hf5⟩
    have st1 := st0.keep hf5
    clear st0 hf5
    go_wp2_with (with_reducible refine wl_stop (o := ⟨some 13, _, _, _, _, _⟩) ?_)
    refine wl_allocS st1 rfl rfl (z := .agg #[.int .u64 0, .int .u64 0, .int .u64 0, .int .u64 0, .int .u64 0, .int .u64 0, .int .u64 0, .int .u64 0]) (by kernel_rfl) (cw 8 0) (by rw [cw_zero]; rfl) ?_
    intro g13 w6 st2
    clear st1
    go_wp2_with (with_reducible refine wl_stop (o := ⟨none, _, _, _, _, _⟩) ?_)
    refine wl_storeS st2 0 rfl rfl rfl rfl rfl (by first | (simp only [cw_len]; done) | (simp only [List.length_append, cw_len]; done)) (by first | (rw [cw_len]; kernel_rfl) | (simp only [List.length_append, cw_len]; kernel_rfl)) (cw2_one _ _ _ _) ?_
    intro w7 st7
    clear st2
    go_wp2_with fail
    refine wp_region_noPanic ?_
    refine wp_region_plan (fun wx => St Nob w4 wx [(g13, cw 4 m.M ++ cw 4 (B64 ^ 4 - m.M), 40)]) 9 (.w 0 (.t 1 (.w 2 (.t 3 (.r 4 (.w 5 (.w 6 (.w 7 (.w 8 (.m 9 .nil)))))))))) (by kernel_rfl) (by kernel_rfl) st7.drew (fun _ _ _ _ _ h => h) ?_
    have hd7 := st7.drew
    clear st7
    refine plan_w (v := ?_) rfl rfl (fun wx => ?_) ?_
    rotate_left 1
    · (go_simp; with_reducible rfl)
    try simp only [Act.put, List.setIfInBounds_toArray, List.set_cons_zero, List.set_cons_succ]
    refine plan_t (v := ?_) rfl rfl (fun wx hS => ?_) ?_
    rotate_left 1
    · (have hc := run_string (P := Try.prog) (HRM4.out.still (St.fr hS)) cm Try.underlying29 Try.underlying5 Try.underlying9; clear hS; go_simp; with_reducible rfl)
    try simp only [Act.put, List.setIfInBounds_toArray, List.set_cons_zero, List.set_cons_succ]
    refine plan_w (v := ?_) rfl rfl (fun wx => ?_) ?_
    rotate_left 1
    · (go_simp; with_reducible rfl)
    try simp only [Act.put, List.setIfInBounds_toArray, List.set_cons_zero, List.set_cons_succ]
    refine plan_arr rfl rfl rfl rfl (cw 4 m.M) (fun wx hS => St.rangeL hS 0 rfl 0 _ (cw_left 4 4 _ _)) Try.underlying38 rfl (by first | (rw [cw_len]; kernel_rfl) | (simp only [List.length_append, cw_len]; kernel_rfl)) ?_
    try simp only [Act.put, List.setIfInBounds_toArray, List.set_cons_zero, List.set_cons_succ]
    refine plan_r rfl rfl ?_
    go_simp
    refine (RBytes_any m.M _).mono ?_
    rintro e' w8 ⟨rfl, hf8⟩
    have st8 := hd7.keep hf8
    clear hf8
    clear hd7
    refine ⟨st8, ?_⟩
    try simp only [Act.put, List.setIfInBounds_toArray, List.set_cons_zero, List.set_cons_succ]
    refine plan_w (v := ?_) rfl rfl (fun wx => ?_) ?_
    rotate_left 1
    · (go_simp; with_reducible rfl)
    try simp only [Act.put, List.setIfInBounds_toArray, List.set_cons_zero, List.set_cons_succ]
    refine plan_w (v := ?_) rfl rfl (fun wx => ?_) ?_
    rotate_left 1
    · (go_simp; with_reducible rfl)
    try simp only [Act.put, List.setIfInBounds_toArray, List.set_cons_zero, List.set_cons_succ]
    refine plan_g (v := ?_) rfl (by rfl) (fun wx => ?_) ?_
    rotate_left 1
    · (go_simp; with_reducible rfl)
    try simp only [Act.put, List.setIfInBounds_toArray, List.set_cons_zero, List.set_cons_succ]
    refine plan_g (v := ?_) rfl (by rfl) (fun wx => ?_) ?_
    rotate_left 1
    · (go_simp; with_reducible rfl)
    try simp only [Act.put, List.setIfInBounds_toArray, List.set_cons_zero, List.set_cons_succ]
    refine plan_m rfl rfl ?_
    go_simp
    try simp only [Act.put, List.setIfInBounds_toArray, List.set_cons_zero, List.set_cons_succ]
    refine plan_end ?_
    refine NoPanic.normal ?_
    go_wp2_with (with_reducible refine wl_stop (o := ⟨some 82, _, _, _, _, _⟩) ?_)
    refine wl_loadSt st8 0 rfl rfl rfl Try.underlying40 rfl rfl (by first | (rw [cw_len]; kernel_rfl) | (simp only [List.length_append, cw_len]; kernel_rfl)) ?_
    go_wp2_with fail
    refine (Mod_any m.M s _ (by have := HK.out.ok.one; omega) HK.out.ok.lt (by have := HLEN.out; omega)).mono ?_
    rintro e' w9 ⟨rfl, hf9⟩
    have st9 := st8.keep hf9
    clear st8 hf9
    go_wp2_with (with_reducible refine wl_stop (o := ⟨some 14, _, _, _, _, _⟩) ?_)
    refine wl_allocS st9 rfl rfl (z := .agg #[.int .u64 0, .int .u64 0, .int .u64 0, .int .u64 0]) (by kernel_rfl) (cw 4 0) (by rw [cw_zero]; rfl) ?_
    intro g14 w10 st10
    clear st9
    go_wp2_with (with_reducible refine wl_stop (o := ⟨none, _, _, _, _, _⟩) ?_)
    refine wl_storeS st10 1 rfl rfl rfl rfl rfl (by first | (simp only [cw_len]; done) | (simp only [List.length_append, cw_len]; done)) (by first | (rw [cw_len]; kernel_rfl) | (simp only [List.length_append, cw_len]; kernel_rfl)) (cw_one _ _) ?_
    intro w11 st11
    clear st10
    go_wp2_with (with_reducible refine wl_stop (o := ⟨some 87, _, _, _, _, _⟩) ?_)
    refine wl_loadS st11 1 rfl rfl rfl Try.underlying38 rfl (by first | (rw [cw_len]; kernel_rfl) | (simp only [List.length_append, cw_len]; kernel_rfl)) ?_
    have HST := Lib.hid (st11.fr)
    clear st11
    go_wp2_with fail
    refine (told_ok ab 32 cb (beN s.data.toList % m.M) _ (HRB4.out.still HST.out)).mono ?_
    rintro e wz ⟨rfl, hfz⟩
    have HFZ := Lib.hid ((HF4.out.then HST.out).then hfz)
    clear hfz
    go_wp2_with fail
    go_ret
    exact ⟨rfl, HF1.out.then HFZ.out⟩
  · have HLEN := Lib.hid hlen
    have hlI : (1024 : Int) < (s.size : Int) := by omega
    clear hlen
    go_wp2_with fail
    refine (NReduce_l k m HK.out _ _ _ _ (by have := HLEN.out; omega)).mono ?_
    rintro e w3 ⟨rfl, hf3⟩
    have HRM3 := Lib.hid (HRM.out.still hf3)
    have HF3 := Lib.hid (HF2.out.then hf3)
    clear hf3 k1 hci HRM
    go_wp2_with fail
    refine (still_any _ _ _ _ s _ (by have := HS.out; omega) (HRD.out.still HF3.out)).mono ?_
    rintro e w4 ⟨rfl, hf4⟩
    have HF4 := Lib.hid (HF3.out.then hf4)
    have HRM4 := Lib.hid (HRM3.out.still hf4)
    clear hf4 HRM3
    rw [decide_eq_true rfl]
    go_wp2_with fail
    refine (Known_k HK.out _).mono ?_
    rintro e w5 ⟨rfl, rfl⟩
    have st0 := St.start Nob w4
    go_wp2_with fail
    refine (MakeK HK.out _).mono ?_
    rintro e w5 ⟨rfl, hf5⟩
    have st1 := st0.keep hf5
    clear st0 hf5
    go_wp2_with (with_reducible refine wl_stop (o := ⟨some 13, _, _, _, _, _⟩) ?_)
    refine wl_allocS st1 rfl rfl (z := .agg #[.int .u64 0, .int .u64 0, .int .u64 0, .int .u64 0, .int .u64 0, .int .u64 0, .int .u64 0, .int .u64 0]) (by kernel_rfl) (cw 8 0) (by rw [cw_zero]; rfl) ?_
    intro g13 w6 st2
    clear st1
    go_wp2_with (with_reducible refine wl_stop (o := ⟨none, _, _, _, _, _⟩) ?_)
    refine wl_storeS st2 0 rfl rfl rfl rfl rfl (by first | (simp only [cw_len]; done) | (simp only [List.length_append, cw_len]; done)) (by first | (rw [cw_len]; kernel_rfl) | (simp only [List.length_append, cw_len]; kernel_rfl)) (cw2_one _ _ _ _) ?_
    intro w7 st7
    clear st2
    go_wp2_with fail
    refine wp_region_noPanic ?_
    refine wp_region_plan (fun wx => St Nob w4 wx [(g13, cw 4 m.M ++ cw 4 (B64 ^ 4 - m.M), 40)]) 9 (.w 0 (.t 1 (.w 2 (.t 3 (.r 4 (.w 5 (.w 6 (.w 7 (.w 8 (.m 9 .nil)))))))))) (by kernel_rfl) (by kernel_rfl) st7.drew (fun _ _ _ _ _ h => h) ?_
    have hd7 := st7.drew
    clear st7
    refine plan_w (v := ?_) rfl rfl (fun wx => ?_) ?_
    rotate_left 1
    · (go_simp; with_reducible rfl)
    try simp only [Act.put, List.setIfInBounds_toArray, List.set_cons_zero, List.set_cons_succ]
    refine plan_t (v := ?_) rfl rfl (fun wx hS => ?_) ?_
    rotate_left 1
    · (have hc := run_string (P := Try.prog) (HRM4.out.still (St.fr hS)) cm Try.underlying29 Try.underlying5 Try.underlying9; clear hS; go_simp; with_reducible rfl)
    try simp only [Act.put, List.setIfInBounds_toArray, List.set_cons_zero, List.set_cons_succ]
    refine plan_w (v := ?_) rfl rfl (fun wx => ?_) ?_
    rotate_left 1
    · (go_simp; with_reducible rfl)
    try simp only [Act.put, List.setIfInBounds_toArray, List.set_cons_zero, List.set_cons_succ]
    refine plan_arr rfl rfl rfl rfl (cw 4 m.M) (fun wx hS => St.rangeL hS 0 rfl 0 _ (cw_left 4 4 _ _)) Try.underlying38 rfl (by first | (rw [cw_len]; kernel_rfl) | (simp only [List.length_append, cw_len]; kernel_rfl)) ?_
    try simp only [Act.put, List.setIfInBounds_toArray, List.set_cons_zero, List.set_cons_succ]
    refine plan_r rfl rfl ?_
    go_simp
    refine (RBytes_any m.M _).mono ?_
    rintro e' w8 ⟨rfl, hf8⟩
    have st8 := hd7.keep hf8
    clear hf8
    clear hd7
    refine ⟨st8, ?_⟩
    try simp only [Act.put, List.setIfInBounds_toArray, List.set_cons_zero, List.set_cons_succ]
    refine plan_w (v := ?_) rfl rfl (fun wx => ?_) ?_
    rotate_left 1
    · (go_simp; with_reducible rfl)
    try simp only [Act.put, List.setIfInBounds_toArray, List.set_cons_zero, List.set_cons_succ]
    refine plan_w (v := ?_) rfl rfl (fun wx => ?_) ?_
    rotate_left 1
    · (go_simp; with_reducible rfl)
    try simp only [Act.put, List.setIfInBounds_toArray, List.set_cons_zero, List.set_cons_succ]
    refine plan_g (v := ?_) rfl (by rfl) (fun wx => ?_) ?_
    rotate_left 1
    · (go_simp; with_reducible rfl)
    try simp only [Act.put, List.setIfInBounds_toArray, List.set_cons_zero, List.set_cons_succ]
    refine plan_g (v := ?_) rfl (by rfl) (fun wx => ?_) ?_
    rotate_left 1
    · (go_simp; with_reducible rfl)
    try simp only [Act.put, List.setIfInBounds_toArray, List.set_cons_zero, List.set_cons_succ]
    refine plan_m rfl rfl ?_
    go_simp
    try simp only [Act.put, List.setIfInBounds_toArray, List.set_cons_zero, List.set_cons_succ]
    refine plan_end ?_
    refine NoPanic.normal ?_
    have HF5 := Lib.hid (HF4.out.then st8.fr)
    clear st8
    go_wp2_with fail
    go_ret
    exact ⟨rfl, HF1.out.then HF5.out⟩

theorem law_NumReduces (k : Int) (s : ByteArray) (w : World) :
    Calls Try.prog 4 #[.int .i64 k, .string s] w fun e w' => e = .returned (.bool true) ∧ Fr Nob w w' := by
  rcases kind_cases k with ⟨m, hk⟩ | ⟨h0, h1⟩
  · exact law_NumReduces_k k m hk s w
  · exact law_NumReduces_x k s w h0 h1
end Go.Proofs.Ytmegaegedlbckaa

/- num.Add, Sub, Mul, Inv: what they answer. -/
namespace Go.Proofs.Ytmegaegedlbckaa
open Go.RowKit Go.Mv Mvp
attribute [local irreducible] limbs lw mix cw cSub cAdd cMul foldC valFrom beN laid be32 powm montT mstep elN mdL elCells numsB numB
theorem info_bsl : (Try.prog.info? 29).map (fun i => (i.zero, i.size, i.bytes)) = some (some (.slice none 0 0), 1, 24) := by kernel_rfl

set_option maxHeartbeats 8000000 in
set_option maxRecDepth 1000000 in
theorem NAdd_ok (k : Int) (m : Md) (hk : KindOf k m) (va vb : Value) (la lb : List UInt8) (w : World) (hpa : BPart w va la) (hpb : BPart w vb lb) (hg : numsB m [la, lb] = true) :
    Calls Try.prog 25 #[.int .i64 k, va, vb] w fun e w' => ∃ v, e = .returned (.tuple #[v, .int .i64 0]) ∧ Own w' w.heap.size 5 1 v 32 (bs (be32 ((beN la + beN lb) % m.M))) ∧ Fr Nob w w' := by
  have HA1 := Lib.hid (BPart.one hpa)
  have HB1 := Lib.hid (BPart.one hpb)
  have HK := Lib.hid hk
  have HP := Lib.hid (BParts.two hpa hpb)
  have HG := Lib.hid hg
  clear hk hpa hpb hg
  go_enter Try.func25, Try.ntmps25
  go_wp2_with fail
  refine (two_any (.func (.func 47) #[] #[]) _).mono ?_
  rintro e w1 ⟨gc, rfl, hgc, hf1⟩
  have HGC := Lib.hid hgc
  have HF1 := Lib.hid hf1
  clear hgc hf1
  go_wp2_with (with_reducible refine wl_stop (o := ⟨some 12, _, _, _, _, _⟩) ?_)
  unfold Stop
  refine wl_slit (vs := [va, vb]) (hgd := rfl) (ho := rfl) (hu := Try.underlying47) (hi0 := info_bsl) (hp := by rfl) (hv := (fun v hv => by simp at hv; rcases hv with rfl | rfl; exact HA1.out; exact HB1.out)) (hk := by rfl) (hz := by rfl) (h := ?_)
  intro w2 hg2 hf2 hz2
  clear hz2
  generalize w1.heap.size = gl at *
  have HGC2 := Lib.hid (HGC.out.keep hf2 id)
  have HF2 := Lib.hid (HF1.out.then hf2)
  have HRD := Lib.hid (show Rd w2 (some ⟨gl, 0, none⟩) 2 [va, vb] from Rd.whole hg2)
  clear hg2 hf2 HGC
  go_wp2_with fail
  refine (reckon_two_ok k m HK.out gc _ 2 2 [va, vb] [la, lb] _ HRD.out (HP.out.still HF2.out) (by decide) HG.out (beN la + beN lb) (fun gp ae ce wx hfx hmx hrx => twoAdd_any m gp wx HK.out.ok hmx gc (HGC2.out.keep hfx id) ae ce la lb hrx)).mono ?_
  rintro e w3 ⟨v, rfl, hown, hf3⟩
  have h3 := HF2.out.then hf3
  have ho := hown.mono HF2.out.size
  clear hown hf3 HF2 HF1
  go_wp2_with fail
  go_ret2
  exact ⟨v, rfl, ho, h3⟩
set_option maxHeartbeats 8000000 in
set_option maxRecDepth 1000000 in
theorem NAdd_bad (k : Int) (m : Md) (hk : KindOf k m) (va vb : Value) (la lb : List UInt8) (w : World) (hpa : BPart w va la) (hpb : BPart w vb lb) (hg : numsB m [la, lb] = false) :
    Calls Try.prog 25 #[.int .i64 k, va, vb] w fun e w' => e = .returned (.tuple #[.slice none 0 0, .int .i64 3]) ∧ Fr Nob w w' := by
  have HA1 := Lib.hid (BPart.one hpa)
  have HB1 := Lib.hid (BPart.one hpb)
  have HK := Lib.hid hk
  have HP := Lib.hid (BParts.two hpa hpb)
  have HG := Lib.hid hg
  clear hk hpa hpb hg
  go_enter Try.func25, Try.ntmps25
  go_wp2_with fail
  refine (two_any (.func (.func 47) #[] #[]) _).mono ?_
  rintro e w1 ⟨gc, rfl, hgc, hf1⟩
  have HGC := Lib.hid hgc
  have HF1 := Lib.hid hf1
  clear hgc hf1
  go_wp2_with (with_reducible refine wl_stop (o := ⟨some 12, _, _, _, _, _⟩) ?_)
  unfold Stop
  refine wl_slit (vs := [va, vb]) (hgd := rfl) (ho := rfl) (hu := Try.underlying47) (hi0 := info_bsl) (hp := by rfl) (hv := (fun v hv => by simp at hv; rcases hv with rfl | rfl; exact HA1.out; exact HB1.out)) (hk := by rfl) (hz := by rfl) (h := ?_)
  intro w2 hg2 hf2 hz2
  clear hz2
  generalize w1.heap.size = gl at *
  have HGC2 := Lib.hid (HGC.out.keep hf2 id)
  have HF2 := Lib.hid (HF1.out.then hf2)
  have HRD := Lib.hid (show Rd w2 (some ⟨gl, 0, none⟩) 2 [va, vb] from Rd.whole hg2)
  clear hg2 hf2 HGC
  go_wp2_with fail
  refine (reckon_two_bad k m HK.out gc _ 2 2 [va, vb] [la, lb] _ HRD.out (HP.out.still HF2.out) (by decide) HG.out).mono ?_
  rintro e w3 ⟨rfl, hf3⟩
  have h3 := HF2.out.then hf3
  clear hf3 HF2 HF1
  go_wp2_with fail
  go_ret2
  exact ⟨rfl, h3⟩
set_option maxHeartbeats 8000000 in
set_option maxRecDepth 1000000 in
theorem NAdd_x (k : Int) (va vb : Value) (la lb : List UInt8) (w : World) (hpa : BPart w va la) (hpb : BPart w vb lb) (h0 : (k == 0) = false) (h1 : (k == 1) = false) :
    Calls Try.prog 25 #[.int .i64 k, va, vb] w fun e w' => e = .returned (.tuple #[.slice none 0 0, .int .i64 2]) ∧ Fr Nob w w' := by
  have HA1 := Lib.hid (BPart.one hpa)
  have HB1 := Lib.hid (BPart.one hpb)
  have H0 := Lib.hid h0
  have H1 := Lib.hid h1
  clear hpa hpb h0 h1
  go_enter Try.func25, Try.ntmps25
  go_wp2_with fail
  refine (two_any (.func (.func 47) #[] #[]) _).mono ?_
  rintro e w1 ⟨gc, rfl, hgc, hf1⟩
  have HGC := Lib.hid hgc
  have HF1 := Lib.hid hf1
  clear hgc hf1
  go_wp2_with (with_reducible refine wl_stop (o := ⟨some 12, _, _, _, _, _⟩) ?_)
  unfold Stop
  refine wl_slit (vs := [va, vb]) (hgd := rfl) (ho := rfl) (hu := Try.underlying47) (hi0 := info_bsl) (hp := by rfl) (hv := (fun v hv => by simp at hv; rcases hv with rfl | rfl; exact HA1.out; exact HB1.out)) (hk := by rfl) (hz := by rfl) (h := ?_)
  intro w2 hg2 hf2 hz2
  clear hz2
  generalize w1.heap.size = gl at *
  have HGC2 := Lib.hid (HGC.out.keep hf2 id)
  have HF2 := Lib.hid (HF1.out.then hf2)
  have HRD := Lib.hid (show Rd w2 (some ⟨gl, 0, none⟩) 2 [va, vb] from Rd.whole hg2)
  clear hg2 hf2 HGC
  go_wp2_with fail
  refine (reckon_two_x k gc _ _ H0.out H1.out).mono ?_
  rintro e w3 ⟨rfl, rfl⟩
  have h3 := HF2.out
  clear HF2 HF1
  go_wp2_with fail
  go_ret2
  exact ⟨rfl, h3⟩

set_option maxHeartbeats 8000000 in
set_option maxRecDepth 1000000 in
theorem NSub_ok (k : Int) (m : Md) (hk : KindOf k m) (va vb : Value) (la lb : List UInt8) (w : World) (hpa : BPart w va la) (hpb : BPart w vb lb) (hg : numsB m [la, lb] = true) :
    Calls Try.prog 26 #[.int .i64 k, va, vb] w fun e w' => ∃ v, e = .returned (.tuple #[v, .int .i64 0]) ∧ Own w' w.heap.size 5 1 v 32 (bs (be32 ((beN la + (m.M - beN lb % m.M)) % m.M))) ∧ Fr Nob w w' := by
  have HA1 := Lib.hid (BPart.one hpa)
  have HB1 := Lib.hid (BPart.one hpb)
  have HK := Lib.hid hk
  have HP := Lib.hid (BParts.two hpa hpb)
  have HG := Lib.hid hg
  clear hk hpa hpb hg
  go_enter Try.func26, Try.ntmps26
  go_wp2_with fail
  refine (two_any (.func (.func 51) #[] #[]) _).mono ?_
  rintro e w1 ⟨gc, rfl, hgc, hf1⟩
  have HGC := Lib.hid hgc
  have HF1 := Lib.hid hf1
  clear hgc hf1
  go_wp2_with (with_reducible refine wl_stop (o := ⟨some 12, _, _, _, _, _⟩) ?_)
  unfold Stop
  refine wl_slit (vs := [va, vb]) (hgd := rfl) (ho := rfl) (hu := Try.underlying47) (hi0 := info_bsl) (hp := by rfl) (hv := (fun v hv => by simp at hv; rcases hv with rfl | rfl; exact HA1.out; exact HB1.out)) (hk := by rfl) (hz := by rfl) (h := ?_)
  intro w2 hg2 hf2 hz2
  clear hz2
  generalize w1.heap.size = gl at *
  have HGC2 := Lib.hid (HGC.out.keep hf2 id)
  have HF2 := Lib.hid (HF1.out.then hf2)
  have HRD := Lib.hid (show Rd w2 (some ⟨gl, 0, none⟩) 2 [va, vb] from Rd.whole hg2)
  clear hg2 hf2 HGC
  go_wp2_with fail
  refine (reckon_two_ok k m HK.out gc _ 2 2 [va, vb] [la, lb] _ HRD.out (HP.out.still HF2.out) (by decide) HG.out (beN la + (m.M - beN lb % m.M)) (fun gp ae ce wx hfx hmx hrx => twoSub_any m gp wx HK.out.ok hmx gc (HGC2.out.keep hfx id) ae ce la lb hrx)).mono ?_
  rintro e w3 ⟨v, rfl, hown, hf3⟩
  have h3 := HF2.out.then hf3
  have ho := hown.mono HF2.out.size
  clear hown hf3 HF2 HF1
  go_wp2_with fail
  go_ret2
  exact ⟨v, rfl, ho, h3⟩
set_option maxHeartbeats 8000000 in
set_option maxRecDepth 1000000 in
theorem NSub_bad (k : Int) (m : Md) (hk : KindOf k m) (va vb : Value) (la lb : List UInt8) (w : World) (hpa : BPart w va la) (hpb : BPart w vb lb) (hg : numsB m [la, lb] = false) :
    Calls Try.prog 26 #[.int .i64 k, va, vb] w fun e w' => e = .returned (.tuple #[.slice none 0 0, .int .i64 3]) ∧ Fr Nob w w' := by
  have HA1 := Lib.hid (BPart.one hpa)
  have HB1 := Lib.hid (BPart.one hpb)
  have HK := Lib.hid hk
  have HP := Lib.hid (BParts.two hpa hpb)
  have HG := Lib.hid hg
  clear hk hpa hpb hg
  go_enter Try.func26, Try.ntmps26
  go_wp2_with fail
  refine (two_any (.func (.func 51) #[] #[]) _).mono ?_
  rintro e w1 ⟨gc, rfl, hgc, hf1⟩
  have HGC := Lib.hid hgc
  have HF1 := Lib.hid hf1
  clear hgc hf1
  go_wp2_with (with_reducible refine wl_stop (o := ⟨some 12, _, _, _, _, _⟩) ?_)
  unfold Stop
  refine wl_slit (vs := [va, vb]) (hgd := rfl) (ho := rfl) (hu := Try.underlying47) (hi0 := info_bsl) (hp := by rfl) (hv := (fun v hv => by simp at hv; rcases hv with rfl | rfl; exact HA1.out; exact HB1.out)) (hk := by rfl) (hz := by rfl) (h := ?_)
  intro w2 hg2 hf2 hz2
  clear hz2
  generalize w1.heap.size = gl at *
  have HGC2 := Lib.hid (HGC.out.keep hf2 id)
  have HF2 := Lib.hid (HF1.out.then hf2)
  have HRD := Lib.hid (show Rd w2 (some ⟨gl, 0, none⟩) 2 [va, vb] from Rd.whole hg2)
  clear hg2 hf2 HGC
  go_wp2_with fail
  refine (reckon_two_bad k m HK.out gc _ 2 2 [va, vb] [la, lb] _ HRD.out (HP.out.still HF2.out) (by decide) HG.out).mono ?_
  rintro e w3 ⟨rfl, hf3⟩
  have h3 := HF2.out.then hf3
  clear hf3 HF2 HF1
  go_wp2_with fail
  go_ret2
  exact ⟨rfl, h3⟩
set_option maxHeartbeats 8000000 in
set_option maxRecDepth 1000000 in
theorem NSub_x (k : Int) (va vb : Value) (la lb : List UInt8) (w : World) (hpa : BPart w va la) (hpb : BPart w vb lb) (h0 : (k == 0) = false) (h1 : (k == 1) = false) :
    Calls Try.prog 26 #[.int .i64 k, va, vb] w fun e w' => e = .returned (.tuple #[.slice none 0 0, .int .i64 2]) ∧ Fr Nob w w' := by
  have HA1 := Lib.hid (BPart.one hpa)
  have HB1 := Lib.hid (BPart.one hpb)
  have H0 := Lib.hid h0
  have H1 := Lib.hid h1
  clear hpa hpb h0 h1
  go_enter Try.func26, Try.ntmps26
  go_wp2_with fail
  refine (two_any (.func (.func 51) #[] #[]) _).mono ?_
  rintro e w1 ⟨gc, rfl, hgc, hf1⟩
  have HGC := Lib.hid hgc
  have HF1 := Lib.hid hf1
  clear hgc hf1
  go_wp2_with (with_reducible refine wl_stop (o := ⟨some 12, _, _, _, _, _⟩) ?_)
  unfold Stop
  refine wl_slit (vs := [va, vb]) (hgd := rfl) (ho := rfl) (hu := Try.underlying47) (hi0 := info_bsl) (hp := by rfl) (hv := (fun v hv => by simp at hv; rcases hv with rfl | rfl; exact HA1.out; exact HB1.out)) (hk := by rfl) (hz := by rfl) (h := ?_)
  intro w2 hg2 hf2 hz2
  clear hz2
  generalize w1.heap.size = gl at *
  have HGC2 := Lib.hid (HGC.out.keep hf2 id)
  have HF2 := Lib.hid (HF1.out.then hf2)
  have HRD := Lib.hid (show Rd w2 (some ⟨gl, 0, none⟩) 2 [va, vb] from Rd.whole hg2)
  clear hg2 hf2 HGC
  go_wp2_with fail
  refine (reckon_two_x k gc _ _ H0.out H1.out).mono ?_
  rintro e w3 ⟨rfl, rfl⟩
  have h3 := HF2.out
  clear HF2 HF1
  go_wp2_with fail
  go_ret2
  exact ⟨rfl, h3⟩

set_option maxHeartbeats 8000000 in
set_option maxRecDepth 1000000 in
theorem NMul_ok (k : Int) (m : Md) (hk : KindOf k m) (va vb : Value) (la lb : List UInt8) (w : World) (hpa : BPart w va la) (hpb : BPart w vb lb) (hg : numsB m [la, lb] = true) :
    Calls Try.prog 27 #[.int .i64 k, va, vb] w fun e w' => ∃ v, e = .returned (.tuple #[v, .int .i64 0]) ∧ Own w' w.heap.size 5 1 v 32 (bs (be32 ((beN la * beN lb) % m.M))) ∧ Fr Nob w w' := by
  have HA1 := Lib.hid (BPart.one hpa)
  have HB1 := Lib.hid (BPart.one hpb)
  have HK := Lib.hid hk
  have HP := Lib.hid (BParts.two hpa hpb)
  have HG := Lib.hid hg
  clear hk hpa hpb hg
  go_enter Try.func27, Try.ntmps27
  go_wp2_with fail
  refine (two_any (.func (.func 45) #[] #[]) _).mono ?_
  rintro e w1 ⟨gc, rfl, hgc, hf1⟩
  have HGC := Lib.hid hgc
  have HF1 := Lib.hid hf1
  clear hgc hf1
  go_wp2_with (with_reducible refine wl_stop (o := ⟨some 12, _, _, _, _, _⟩) ?_)
  unfold Stop
  refine wl_slit (vs := [va, vb]) (hgd := rfl) (ho := rfl) (hu := Try.underlying47) (hi0 := info_bsl) (hp := by rfl) (hv := (fun v hv => by simp at hv; rcases hv with rfl | rfl; exact HA1.out; exact HB1.out)) (hk := by rfl) (hz := by rfl) (h := ?_)
  intro w2 hg2 hf2 hz2
  clear hz2
  generalize w1.heap.size = gl at *
  have HGC2 := Lib.hid (HGC.out.keep hf2 id)
  have HF2 := Lib.hid (HF1.out.then hf2)
  have HRD := Lib.hid (show Rd w2 (some ⟨gl, 0, none⟩) 2 [va, vb] from Rd.whole hg2)
  clear hg2 hf2 HGC
  go_wp2_with fail
  refine (reckon_two_ok k m HK.out gc _ 2 2 [va, vb] [la, lb] _ HRD.out (HP.out.still HF2.out) (by decide) HG.out (beN la * beN lb) (fun gp ae ce wx hfx hmx hrx => twoMul_any m gp wx HK.out.ok hmx gc (HGC2.out.keep hfx id) ae ce la lb hrx)).mono ?_
  rintro e w3 ⟨v, rfl, hown, hf3⟩
  have h3 := HF2.out.then hf3
  have ho := hown.mono HF2.out.size
  clear hown hf3 HF2 HF1
  go_wp2_with fail
  go_ret2
  exact ⟨v, rfl, ho, h3⟩
set_option maxHeartbeats 8000000 in
set_option maxRecDepth 1000000 in
theorem NMul_bad (k : Int) (m : Md) (hk : KindOf k m) (va vb : Value) (la lb : List UInt8) (w : World) (hpa : BPart w va la) (hpb : BPart w vb lb) (hg : numsB m [la, lb] = false) :
    Calls Try.prog 27 #[.int .i64 k, va, vb] w fun e w' => e = .returned (.tuple #[.slice none 0 0, .int .i64 3]) ∧ Fr Nob w w' := by
  have HA1 := Lib.hid (BPart.one hpa)
  have HB1 := Lib.hid (BPart.one hpb)
  have HK := Lib.hid hk
  have HP := Lib.hid (BParts.two hpa hpb)
  have HG := Lib.hid hg
  clear hk hpa hpb hg
  go_enter Try.func27, Try.ntmps27
  go_wp2_with fail
  refine (two_any (.func (.func 45) #[] #[]) _).mono ?_
  rintro e w1 ⟨gc, rfl, hgc, hf1⟩
  have HGC := Lib.hid hgc
  have HF1 := Lib.hid hf1
  clear hgc hf1
  go_wp2_with (with_reducible refine wl_stop (o := ⟨some 12, _, _, _, _, _⟩) ?_)
  unfold Stop
  refine wl_slit (vs := [va, vb]) (hgd := rfl) (ho := rfl) (hu := Try.underlying47) (hi0 := info_bsl) (hp := by rfl) (hv := (fun v hv => by simp at hv; rcases hv with rfl | rfl; exact HA1.out; exact HB1.out)) (hk := by rfl) (hz := by rfl) (h := ?_)
  intro w2 hg2 hf2 hz2
  clear hz2
  generalize w1.heap.size = gl at *
  have HGC2 := Lib.hid (HGC.out.keep hf2 id)
  have HF2 := Lib.hid (HF1.out.then hf2)
  have HRD := Lib.hid (show Rd w2 (some ⟨gl, 0, none⟩) 2 [va, vb] from Rd.whole hg2)
  clear hg2 hf2 HGC
  go_wp2_with fail
  refine (reckon_two_bad k m HK.out gc _ 2 2 [va, vb] [la, lb] _ HRD.out (HP.out.still HF2.out) (by decide) HG.out).mono ?_
  rintro e w3 ⟨rfl, hf3⟩
  have h3 := HF2.out.then hf3
  clear hf3 HF2 HF1
  go_wp2_with fail
  go_ret2
  exact ⟨rfl, h3⟩
set_option maxHeartbeats 8000000 in
set_option maxRecDepth 1000000 in
theorem NMul_x (k : Int) (va vb : Value) (la lb : List UInt8) (w : World) (hpa : BPart w va la) (hpb : BPart w vb lb) (h0 : (k == 0) = false) (h1 : (k == 1) = false) :
    Calls Try.prog 27 #[.int .i64 k, va, vb] w fun e w' => e = .returned (.tuple #[.slice none 0 0, .int .i64 2]) ∧ Fr Nob w w' := by
  have HA1 := Lib.hid (BPart.one hpa)
  have HB1 := Lib.hid (BPart.one hpb)
  have H0 := Lib.hid h0
  have H1 := Lib.hid h1
  clear hpa hpb h0 h1
  go_enter Try.func27, Try.ntmps27
  go_wp2_with fail
  refine (two_any (.func (.func 45) #[] #[]) _).mono ?_
  rintro e w1 ⟨gc, rfl, hgc, hf1⟩
  have HGC := Lib.hid hgc
  have HF1 := Lib.hid hf1
  clear hgc hf1
  go_wp2_with (with_reducible refine wl_stop (o := ⟨some 12, _, _, _, _, _⟩) ?_)
  unfold Stop
  refine wl_slit (vs := [va, vb]) (hgd := rfl) (ho := rfl) (hu := Try.underlying47) (hi0 := info_bsl) (hp := by rfl) (hv := (fun v hv => by simp at hv; rcases hv with rfl | rfl; exact HA1.out; exact HB1.out)) (hk := by rfl) (hz := by rfl) (h := ?_)
  intro w2 hg2 hf2 hz2
  clear hz2
  generalize w1.heap.size = gl at *
  have HGC2 := Lib.hid (HGC.out.keep hf2 id)
  have HF2 := Lib.hid (HF1.out.then hf2)
  have HRD := Lib.hid (show Rd w2 (some ⟨gl, 0, none⟩) 2 [va, vb] from Rd.whole hg2)
  clear hg2 hf2 HGC
  go_wp2_with fail
  refine (reckon_two_x k gc _ _ H0.out H1.out).mono ?_
  rintro e w3 ⟨rfl, rfl⟩
  have h3 := HF2.out
  clear HF2 HF1
  go_wp2_with fail
  go_ret2
  exact ⟨rfl, h3⟩

set_option maxHeartbeats 8000000 in
set_option maxRecDepth 1000000 in
theorem NInv_ok (k : Int) (m : Md) (hk : KindOf k m) (va : Value) (la : List UInt8) (w : World) (hpa : BPart w va la) (hg : numsB m [la] = true) :
    Calls Try.prog 28 #[.int .i64 k, va] w fun e w' => ∃ v, e = .returned (.tuple #[v, .int .i64 0]) ∧ Own w' w.heap.size 5 1 v 32 (bs (be32 (beN la ^ (m.M - 2) % m.M))) ∧ Fr Nob w w' := by
  have HA1 := Lib.hid (BPart.one hpa)
  have HK := Lib.hid hk
  have HP := Lib.hid (BParts.one hpa)
  have HG := Lib.hid hg
  clear hk hpa hg
  go_enter Try.func28, Try.ntmps28
  go_wp2_with (with_reducible refine wl_stop (o := ⟨some 8, _, _, _, _, _⟩) ?_)
  unfold Stop
  refine wl_slit (vs := [va]) (hgd := rfl) (ho := rfl) (hu := Try.underlying47) (hi0 := info_bsl) (hp := by rfl) (hv := fun v hv => by simp at hv; subst hv; exact HA1.out) (hk := by rfl) (hz := by rfl) (h := ?_)
  intro w2 hg2 hf2 hz2
  clear hz2
  have hbz : w.heap.size ≤ w.heap.size := Nat.le_refl _
  generalize hgl : w.heap.size = gl at *
  have HGL := Lib.hid hgl
  have HF2 := Lib.hid hf2
  have HRD := Lib.hid (show Rd w2 (some ⟨gl, 0, none⟩) 1 [va] from Rd.whole hg2)
  clear hg2 hf2 hgl hbz
  go_wp2_with fail
  refine (reckon_inv_ok k m HK.out _ 1 1 [va] [la] _ HRD.out (HP.out.still HF2.out) (by decide) HG.out (beN la ^ (m.M - 2)) (fun gp ae ce wx hfx hmx hrx => inv1_any m gp wx HK.out.ok hmx ae ce la hrx)).mono ?_
  rintro e w3 ⟨v, rfl, hown, hf3⟩
  have h3 := HF2.out.then hf3
  have hsz := HF2.out.size
  rw [HGL.out] at hsz
  have ho := hown.mono hsz
  clear hown hf3 HF2 hsz
  go_wp2_with fail
  go_ret2
  exact ⟨v, rfl, by rw [HGL.out]; exact ho, h3⟩
set_option maxHeartbeats 8000000 in
set_option maxRecDepth 1000000 in
theorem NInv_bad (k : Int) (m : Md) (hk : KindOf k m) (va : Value) (la : List UInt8) (w : World) (hpa : BPart w va la) (hg : numsB m [la] = false) :
    Calls Try.prog 28 #[.int .i64 k, va] w fun e w' => e = .returned (.tuple #[.slice none 0 0, .int .i64 3]) ∧ Fr Nob w w' := by
  have HA1 := Lib.hid (BPart.one hpa)
  have HK := Lib.hid hk
  have HP := Lib.hid (BParts.one hpa)
  have HG := Lib.hid hg
  clear hk hpa hg
  go_enter Try.func28, Try.ntmps28
  go_wp2_with (with_reducible refine wl_stop (o := ⟨some 8, _, _, _, _, _⟩) ?_)
  unfold Stop
  refine wl_slit (vs := [va]) (hgd := rfl) (ho := rfl) (hu := Try.underlying47) (hi0 := info_bsl) (hp := by rfl) (hv := fun v hv => by simp at hv; subst hv; exact HA1.out) (hk := by rfl) (hz := by rfl) (h := ?_)
  intro w2 hg2 hf2 hz2
  clear hz2
  have hbz : w.heap.size ≤ w.heap.size := Nat.le_refl _
  generalize hgl : w.heap.size = gl at *
  have HGL := Lib.hid hgl
  have HF2 := Lib.hid hf2
  have HRD := Lib.hid (show Rd w2 (some ⟨gl, 0, none⟩) 1 [va] from Rd.whole hg2)
  clear hg2 hf2 hgl hbz
  go_wp2_with fail
  refine (reckon_inv_bad k m HK.out _ 1 1 [va] [la] _ HRD.out (HP.out.still HF2.out) (by decide) HG.out).mono ?_
  rintro e w3 ⟨rfl, hf3⟩
  have h3 := HF2.out.then hf3
  clear hf3 HF2
  go_wp2_with fail
  go_ret2
  exact ⟨rfl, h3⟩
set_option maxHeartbeats 8000000 in
set_option maxRecDepth 1000000 in
theorem NInv_x (k : Int) (va : Value) (la : List UInt8) (w : World) (hpa : BPart w va la) (h0 : (k == 0) = false) (h1 : (k == 1) = false) :
    Calls Try.prog 28 #[.int .i64 k, va] w fun e w' => e = .returned (.tuple #[.slice none 0 0, .int .i64 2]) ∧ Fr Nob w w' := by
  have HA1 := Lib.hid (BPart.one hpa)
  have H0 := Lib.hid h0
  have H1 := Lib.hid h1
  clear hpa h0 h1
  go_enter Try.func28, Try.ntmps28
  go_wp2_with (with_reducible refine wl_stop (o := ⟨some 8, _, _, _, _, _⟩) ?_)
  unfold Stop
  refine wl_slit (vs := [va]) (hgd := rfl) (ho := rfl) (hu := Try.underlying47) (hi0 := info_bsl) (hp := by rfl) (hv := fun v hv => by simp at hv; subst hv; exact HA1.out) (hk := by rfl) (hz := by rfl) (h := ?_)
  intro w2 hg2 hf2 hz2
  clear hz2
  have hbz : w.heap.size ≤ w.heap.size := Nat.le_refl _
  generalize hgl : w.heap.size = gl at *
  have HGL := Lib.hid hgl
  have HF2 := Lib.hid hf2
  have HRD := Lib.hid (show Rd w2 (some ⟨gl, 0, none⟩) 1 [va] from Rd.whole hg2)
  clear hg2 hf2 hgl hbz
  go_wp2_with fail
  refine (reckon_inv_x k _ _ H0.out H1.out).mono ?_
  rintro e w3 ⟨rfl, rfl⟩
  have h3 := HF2.out
  clear HF2
  go_wp2_with fail
  go_ret2
  exact ⟨rfl, h3⟩
end Go.Proofs.Ytmegaegedlbckaa

/- The law NumReckons. -/
namespace Go.Proofs.Ytmegaegedlbckaa
open Go.RowKit Go.Mv Mvp
theorem Number_t (m : Md) (hM : m.M < B64 ^ 4) (s : ByteArray) (w : World) (h : numB m s.data.toList = true) :
    Calls Try.prog 29 #[fv m.M, .string s] w fun e w' => e = .returned (.tuple #[i4 (beN s.data.toList), .bool true]) ∧ Fr Nob w w' := by
  unfold numB at h
  simp only [Bool.and_eq_true, decide_eq_true_eq] at h
  refine (Number_ok m.M s w (by have := h.1; simpa using this) hM).mono fun e w' he => ?_
  rw [decide_eq_true h.2] at he
  exact he
theorem Number_f (m : Md) (hM : m.M < B64 ^ 4) (s : ByteArray) (w : World) (h : numB m s.data.toList = false) :
    Calls Try.prog 29 #[fv m.M, .string s] w fun e w' => ∃ N, e = .returned (.tuple #[i4 N, .bool false]) ∧ Fr Nob w w' := by
  by_cases hs : s.size = 32
  · refine (Number_ok m.M s w hs hM).mono fun e w' he => ?_
    have h2 : ¬ beN s.data.toList < m.M := by
      intro hb
      unfold numB at h
      rw [decide_eq_true hb, decide_eq_true (by simpa using hs)] at h
      cases h
    rw [decide_eq_false h2] at he
    exact ⟨_, he⟩
  · exact (Number_bad m.M s w hs).mono fun e w' he => ⟨_, he⟩
theorem sub_same (a b M : Nat) (h : b < M) : (a + (M - b % M)) % M = (a + (M - b)) % M := by
  rw [Nat.mod_eq_of_lt h]
theorem numB_lt (m : Md) (l : List UInt8) (h : numB m l = true) : beN l < m.M := by
  unfold numB at h
  simp only [Bool.and_eq_true, decide_eq_true_eq] at h
  exact h.2
attribute [local irreducible] limbs lw mix cw cSub cAdd cMul foldC valFrom beN laid be32 powm montT mstep elN mdL lentL numB numsB elCells

set_option maxHeartbeats 16000000 in
set_option maxRecDepth 1000000 in
theorem law_NumReckons_x (k : Int) (s t : ByteArray) (w : World) (hs : s.size ≤ 16384) (ht : t.size ≤ 16384) (h0 : (k == 0) = false) (h1 : (k == 1) = false) :
    Calls Try.prog 6 #[.int .i64 k, .string s, .string t] w fun e w' => e = .returned (.bool true) ∧ Fr Nob w w' := by
  have hgs : ¬ ((16384 : Int) < (s.size : Int)) := by omega
  have hgt : ¬ ((16384 : Int) < (t.size : Int)) := by omega
  have HS := Lib.hid hs
  have HT := Lib.hid ht
  clear hs ht
  have H0 := Lib.hid h0
  have H1 := Lib.hid h1
  clear h0 h1
  go_enter Try.func6, Try.ntmps6
  go_wp2_with fail
  refine (lent_any s _ (by have := HS.out; omega)).mono ?_
  rintro e w1 ⟨rfl, hg1, hf1, hz1⟩
  clear hz1
  generalize w.heap.size = gi at *
  have hrd1 : RdB w1 (some ⟨gi, 0, none⟩) (s.size + 160) (lentL s.data.toList) := by
    have := Rd.whole hg1
    rwa [length_bs, lentL_len, size_list] at this
  have HRD1 := Lib.hid hrd1
  have HF1 := Lib.hid hf1
  clear hg1 hrd1 hf1
  go_wp2_with fail
  refine (lent_any t _ (by have := HT.out; omega)).mono ?_
  rintro e w2 ⟨rfl, hg2, hf2, hz2⟩
  clear hz2
  generalize w1.heap.size = gj at *
  have hrd2 : RdB w2 (some ⟨gj, 0, none⟩) (t.size + 160) (lentL t.data.toList) := by
    have := Rd.whole hg2
    rwa [length_bs, lentL_len, size_list] at this
  have HRS := Lib.hid (HRD1.out.still hf2)
  have HRT := Lib.hid hrd2
  have HF2 := Lib.hid (HF1.out.then hf2)
  clear hg2 hrd2 hf2 HRD1 HF1
  have HPA : Hid (BPart w2 (.slice (some ⟨gi, 0, none⟩) s.size (s.size + 160)) s.data.toList) := Lib.hid ⟨_, _, _, rfl, by omega, by
    have h := RdB.front HRS.out s.size (by omega)
    rwa [lentL_take] at h⟩
  have HPB : Hid (BPart w2 (.slice (some ⟨gj, 0, none⟩) t.size (t.size + 160)) t.data.toList) := Lib.hid ⟨_, _, _, rfl, by omega, by
    have h := RdB.front HRT.out t.size (by omega)
    rwa [lentL_take] at h⟩
  have k1 := fun wx => run_slice_hi (P := Try.prog) wx Try.underlying29 size_u8 (some ⟨gi, 0, none⟩) (s.size + 160) (s.size + 160) .i64 s.size (by omega)
  have k2 := fun wx => run_slice_hi (P := Try.prog) wx Try.underlying29 size_u8 (some ⟨gj, 0, none⟩) (t.size + 160) (t.size + 160) .i64 t.size (by omega)
  have hci : (s.size : Int) ≤ (s.size : Int) + 160 := by omega
  have hcj : (t.size : Int) ≤ (t.size : Int) + 160 := by omega
  have F0 := Lib.hid (Fr.refl Nob w2)
  go_wp2_with fail
  refine (NAdd_x k _ _ _ _ _ (HPA.out.still F0.out) (HPB.out.still F0.out) H0.out H1.out).mono ?_
  rintro e w3 ⟨rfl, hf3⟩
  have F1 := Lib.hid (F0.out.then hf3)
  clear hf3 F0
  clear k1 k2 hci hcj
  go_wp2_with fail
  refine (NSub_x k _ _ _ _ _ (HPA.out.still F1.out) (HPB.out.still F1.out) H0.out H1.out).mono ?_
  rintro e w4 ⟨rfl, hf4⟩
  have F2 := Lib.hid (F1.out.then hf4)
  clear hf4 F1
  go_wp2_with fail
  refine (NMul_x k _ _ _ _ _ (HPA.out.still F2.out) (HPB.out.still F2.out) H0.out H1.out).mono ?_
  rintro e w5 ⟨rfl, hf5⟩
  have F3 := Lib.hid (F2.out.then hf5)
  clear hf5 F2
  go_wp2_with fail
  refine (NInv_x k _ _ _ (HPA.out.still F3.out) H0.out H1.out).mono ?_
  rintro e w6 ⟨rfl, hf6⟩
  have F4 := Lib.hid (F3.out.then hf6)
  clear hf6 F3
  go_wp2_with fail
  refine (still_any _ _ _ _ s _ (by have := HS.out; omega) (HRS.out.still F4.out)).mono ?_
  rintro e w7 ⟨rfl, hf7⟩
  rw [decide_eq_true rfl]
  have F5 := Lib.hid (F4.out.then hf7)
  clear hf7 F4
  go_wp2_with fail
  refine (still_any _ _ _ _ t _ (by have := HT.out; omega) (HRT.out.still F5.out)).mono ?_
  rintro e w8 ⟨rfl, hf8⟩
  rw [decide_eq_true rfl]
  have F6 := Lib.hid (F5.out.then hf8)
  clear hf8 F5
  go_wp2_with fail
  refine (Known_x k _ H0.out H1.out).mono ?_
  rintro e' wK ⟨rfl, rfl⟩
  have st0 := St.start Nob w8
  go_wp2_with (with_reducible refine wl_stop (o := ⟨some 25, _, _, _, _, _⟩) ?_)
  refine wl_allocS st0 rfl rfl (z := .agg #[.int .u64 0, .int .u64 0, .int .u64 0, .int .u64 0]) (by kernel_rfl) (cw 4 0) (by rw [cw_zero]; rfl) ?_
  intro g25 w9 st9
  clear st0
  go_wp2_with (with_reducible refine wl_stop (o := ⟨some 26, _, _, _, _, _⟩) ?_)
  refine wl_allocS st9 rfl rfl (z := .agg #[.int .u64 0, .int .u64 0, .int .u64 0, .int .u64 0]) (by kernel_rfl) (cw 4 0) (by rw [cw_zero]; rfl) ?_
  intro g26 w10 st10
  clear st9
  go_wp2_with (with_reducible refine wl_stop (o := ⟨some 27, _, _, _, _, _⟩) ?_)
  refine wl_allocS st10 rfl rfl (z := .agg #[.int .u64 0, .int .u64 0, .int .u64 0, .int .u64 0]) (by kernel_rfl) (cw 4 0) (by rw [cw_zero]; rfl) ?_
  intro g27 w11 st11
  clear st10
  go_wp2_with (with_reducible refine wl_stop (o := ⟨some 28, _, _, _, _, _⟩) ?_)
  refine wl_allocS st11 rfl rfl (z := .agg #[.int .u64 0, .int .u64 0, .int .u64 0, .int .u64 0]) (by kernel_rfl) (cw 4 0) (by rw [cw_zero]; rfl) ?_
  intro g28 w12 st12
  clear st11
  go_wp2_with (with_reducible refine wl_stop (o := ⟨some 147, _, _, _, _, _⟩) ?_)
  refine wl_loadS st12 0 rfl rfl rfl Try.underlying38 rfl (by first | (rw [cw_len]; kernel_rfl) | (simp only [List.length_append, cw_len]; kernel_rfl)) ?_
  go_wp2_with fail
  refine (told_bad 2 0 _ (by decide)).mono ?_
  rintro e' w13 ⟨rfl, hf13⟩
  have st13 := st12.keep hf13
  clear st12 hf13
  go_wp2_with (with_reducible refine wl_stop (o := ⟨some 152, _, _, _, _, _⟩) ?_)
  refine wl_loadS st13 1 rfl rfl rfl Try.underlying38 rfl (by first | (rw [cw_len]; kernel_rfl) | (simp only [List.length_append, cw_len]; kernel_rfl)) ?_
  go_wp2_with fail
  refine (told_bad 2 0 _ (by decide)).mono ?_
  rintro e' w14 ⟨rfl, hf14⟩
  have st14 := st13.keep hf14
  clear st13 hf14
  go_wp2_with (with_reducible refine wl_stop (o := ⟨some 157, _, _, _, _, _⟩) ?_)
  refine wl_loadS st14 2 rfl rfl rfl Try.underlying38 rfl (by first | (rw [cw_len]; kernel_rfl) | (simp only [List.length_append, cw_len]; kernel_rfl)) ?_
  go_wp2_with fail
  refine (told_bad 2 0 _ (by decide)).mono ?_
  rintro e' w15 ⟨rfl, hf15⟩
  have st15 := st14.keep hf15
  clear st14 hf15
  go_wp2_with (with_reducible refine wl_stop (o := ⟨some 162, _, _, _, _, _⟩) ?_)
  refine wl_loadS st15 3 rfl rfl rfl Try.underlying38 rfl (by first | (rw [cw_len]; kernel_rfl) | (simp only [List.length_append, cw_len]; kernel_rfl)) ?_
  go_wp2_with fail
  refine (told_bad 2 0 _ (by decide)).mono ?_
  rintro e' w16 ⟨rfl, hf16⟩
  have st16 := st15.keep hf16
  clear st15 hf16
  have hfr := HF2.out.then (F6.out.then st16.fr)
  clear st16
  go_wp2_with fail
  go_ret
  exact ⟨rfl, hfr⟩

set_option maxHeartbeats 16000000 in
set_option maxRecDepth 1000000 in
theorem law_NumReckons_ff (k : Int) (m : Md) (hk : KindOf k m) (s t : ByteArray) (w : World) (hs : s.size ≤ 16384) (ht : t.size ≤ 16384) (ha : numB m s.data.toList = false) (hb : numB m t.data.toList = false) :
    Calls Try.prog 6 #[.int .i64 k, .string s, .string t] w fun e w' => e = .returned (.bool true) ∧ Fr Nob w w' := by
  have hgs : ¬ ((16384 : Int) < (s.size : Int)) := by omega
  have hgt : ¬ ((16384 : Int) < (t.size : Int)) := by omega
  have HS := Lib.hid hs
  have HT := Lib.hid ht
  clear hs ht
  have HK := Lib.hid hk
  have HA := Lib.hid ha
  have HB := Lib.hid hb
  have HG2 := Lib.hid (show numsB m [s.data.toList, t.data.toList] = false by unfold numsB; simp only [List.all_cons, List.all_nil, ha, hb]; rfl)
  have HG1 := Lib.hid (show numsB m [s.data.toList] = false by unfold numsB; simp only [List.all_cons, List.all_nil, ha]; rfl)
  have HM0 := Lib.hid (show 0 < m.M by have := hk.ok.one; omega)
  have HM1 := Lib.hid hk.ok.one
  have HM4 := Lib.hid hk.ok.lt
  clear hk ha hb
  go_enter Try.func6, Try.ntmps6
  go_wp2_with fail
  refine (lent_any s _ (by have := HS.out; omega)).mono ?_
  rintro e w1 ⟨rfl, hg1, hf1, hz1⟩
  clear hz1
  generalize w.heap.size = gi at *
  have hrd1 : RdB w1 (some ⟨gi, 0, none⟩) (s.size + 160) (lentL s.data.toList) := by
    have := Rd.whole hg1
    rwa [length_bs, lentL_len, size_list] at this
  have HRD1 := Lib.hid hrd1
  have HF1 := Lib.hid hf1
  clear hg1 hrd1 hf1
  go_wp2_with fail
  refine (lent_any t _ (by have := HT.out; omega)).mono ?_
  rintro e w2 ⟨rfl, hg2, hf2, hz2⟩
  clear hz2
  generalize w1.heap.size = gj at *
  have hrd2 : RdB w2 (some ⟨gj, 0, none⟩) (t.size + 160) (lentL t.data.toList) := by
    have := Rd.whole hg2
    rwa [length_bs, lentL_len, size_list] at this
  have HRS := Lib.hid (HRD1.out.still hf2)
  have HRT := Lib.hid hrd2
  have HF2 := Lib.hid (HF1.out.then hf2)
  clear hg2 hrd2 hf2 HRD1 HF1
  have HPA : Hid (BPart w2 (.slice (some ⟨gi, 0, none⟩) s.size (s.size + 160)) s.data.toList) := Lib.hid ⟨_, _, _, rfl, by omega, by
    have h := RdB.front HRS.out s.size (by omega)
    rwa [lentL_take] at h⟩
  have HPB : Hid (BPart w2 (.slice (some ⟨gj, 0, none⟩) t.size (t.size + 160)) t.data.toList) := Lib.hid ⟨_, _, _, rfl, by omega, by
    have h := RdB.front HRT.out t.size (by omega)
    rwa [lentL_take] at h⟩
  have k1 := fun wx => run_slice_hi (P := Try.prog) wx Try.underlying29 size_u8 (some ⟨gi, 0, none⟩) (s.size + 160) (s.size + 160) .i64 s.size (by omega)
  have k2 := fun wx => run_slice_hi (P := Try.prog) wx Try.underlying29 size_u8 (some ⟨gj, 0, none⟩) (t.size + 160) (t.size + 160) .i64 t.size (by omega)
  have hci : (s.size : Int) ≤ (s.size : Int) + 160 := by omega
  have hcj : (t.size : Int) ≤ (t.size : Int) + 160 := by omega
  have F0 := Lib.hid (Fr.refl Nob w2)
  go_wp2_with fail
  refine (NAdd_bad k m HK.out _ _ _ _ _ (HPA.out.still F0.out) (HPB.out.still F0.out) HG2.out).mono ?_
  rintro e w3 ⟨rfl, hf3⟩
  have F1 := Lib.hid (F0.out.then hf3)
  clear hf3 F0
  clear k1 k2 hci hcj
  go_wp2_with fail
  refine (NSub_bad k m HK.out _ _ _ _ _ (HPA.out.still F1.out) (HPB.out.still F1.out) HG2.out).mono ?_
  rintro e w4 ⟨rfl, hf4⟩
  have F2 := Lib.hid (F1.out.then hf4)
  clear hf4 F1
  go_wp2_with fail
  refine (NMul_bad k m HK.out _ _ _ _ _ (HPA.out.still F2.out) (HPB.out.still F2.out) HG2.out).mono ?_
  rintro e w5 ⟨rfl, hf5⟩
  have F3 := Lib.hid (F2.out.then hf5)
  clear hf5 F2
  go_wp2_with fail
  refine (NInv_bad k m HK.out _ _ _ (HPA.out.still F3.out) HG1.out).mono ?_
  rintro e w6 ⟨rfl, hf6⟩
  have F4 := Lib.hid (F3.out.then hf6)
  clear hf6 F3
  go_wp2_with fail
  refine (still_any _ _ _ _ s _ (by have := HS.out; omega) (HRS.out.still F4.out)).mono ?_
  rintro e w7 ⟨rfl, hf7⟩
  rw [decide_eq_true rfl]
  have F5 := Lib.hid (F4.out.then hf7)
  clear hf7 F4
  go_wp2_with fail
  refine (still_any _ _ _ _ t _ (by have := HT.out; omega) (HRT.out.still F5.out)).mono ?_
  rintro e w8 ⟨rfl, hf8⟩
  rw [decide_eq_true rfl]
  have F6 := Lib.hid (F5.out.then hf8)
  clear hf8 F5
  go_wp2_with fail
  refine (Known_k HK.out _).mono ?_
  rintro e' wK ⟨rfl, rfl⟩
  have st0 := St.start Nob w8
  go_wp2_with (with_reducible refine wl_stop (o := ⟨some 25, _, _, _, _, _⟩) ?_)
  refine wl_allocS st0 rfl rfl (z := .agg #[.int .u64 0, .int .u64 0, .int .u64 0, .int .u64 0]) (by kernel_rfl) (cw 4 0) (by rw [cw_zero]; rfl) ?_
  intro g25 w9 st9
  clear st0
  go_wp2_with (with_reducible refine wl_stop (o := ⟨some 26, _, _, _, _, _⟩) ?_)
  refine wl_allocS st9 rfl rfl (z := .agg #[.int .u64 0, .int .u64 0, .int .u64 0, .int .u64 0]) (by kernel_rfl) (cw 4 0) (by rw [cw_zero]; rfl) ?_
  intro g26 w10 st10
  clear st9
  go_wp2_with (with_reducible refine wl_stop (o := ⟨some 27, _, _, _, _, _⟩) ?_)
  refine wl_allocS st10 rfl rfl (z := .agg #[.int .u64 0, .int .u64 0, .int .u64 0, .int .u64 0]) (by kernel_rfl) (cw 4 0) (by rw [cw_zero]; rfl) ?_
  intro g27 w11 st11
  clear st10
  go_wp2_with (with_reducible refine wl_stop (o := ⟨some 28, _, _, _, _, _⟩) ?_)
  refine wl_allocS st11 rfl rfl (z := .agg #[.int .u64 0, .int .u64 0, .int .u64 0, .int .u64 0]) (by kernel_rfl) (cw 4 0) (by rw [cw_zero]; rfl) ?_
  intro g28 w12 st12
  clear st11
  go_wp2_with fail
  refine (MakeK HK.out _).mono ?_
  rintro e' w13 ⟨rfl, hf13⟩
  have st13 := st12.keep hf13
  clear st12 hf13
  go_wp2_with (with_reducible refine wl_stop (o := ⟨some 29, _, _, _, _, _⟩) ?_)
  refine wl_allocS st13 rfl rfl (z := .agg #[.int .u64 0, .int .u64 0, .int .u64 0, .int .u64 0, .int .u64 0, .int .u64 0, .int .u64 0, .int .u64 0]) (by kernel_rfl) (cw 8 0) (by rw [cw_zero]; rfl) ?_
  intro g29 w14 st14
  clear st13
  go_wp2_with (with_reducible refine wl_stop (o := ⟨none, _, _, _, _, _⟩) ?_)
  refine wl_storeS st14 4 rfl rfl rfl rfl rfl (by first | (simp only [cw_len]; done) | (simp only [List.length_append, cw_len]; done)) (by first | (rw [cw_len]; kernel_rfl) | (simp only [List.length_append, cw_len]; kernel_rfl)) (cw2_one _ _ _ _) ?_
  intro w15 st15
  clear st14
  go_wp2_with (with_reducible refine wl_stop (o := ⟨some 105, _, _, _, _, _⟩) ?_)
  refine wl_loadSt st15 4 rfl rfl rfl Try.underlying40 rfl rfl (by first | (rw [cw_len]; kernel_rfl) | (simp only [List.length_append, cw_len]; kernel_rfl)) ?_
  go_wp2_with fail
  refine (Number_f m HK.out.ok.lt s _ HA.out).mono ?_
  rintro e' w16 ⟨NA, rfl, hf16⟩
  have st16 := st15.keep hf16
  clear st15 hf16
  go_wp2_with (with_reducible refine wl_stop (o := ⟨some 30, _, _, _, _, _⟩) ?_)
  refine wl_allocS st16 rfl rfl (z := .agg #[.int .u64 0, .int .u64 0, .int .u64 0, .int .u64 0]) (by kernel_rfl) (cw 4 0) (by rw [cw_zero]; rfl) ?_
  intro g30 w17 st17
  clear st16
  go_wp2_with (with_reducible refine wl_stop (o := ⟨none, _, _, _, _, _⟩) ?_)
  refine wl_storeS st17 5 rfl rfl rfl rfl rfl (by first | (simp only [cw_len]; done) | (simp only [List.length_append, cw_len]; done)) (by first | (rw [cw_len]; kernel_rfl) | (simp only [List.length_append, cw_len]; kernel_rfl)) (cw_one _ _) ?_
  intro w18 st18
  clear st17
  go_wp2_with (with_reducible refine wl_stop (o := ⟨some 111, _, _, _, _, _⟩) ?_)
  refine wl_loadSt st18 4 rfl rfl rfl Try.underlying40 rfl rfl (by first | (rw [cw_len]; kernel_rfl) | (simp only [List.length_append, cw_len]; kernel_rfl)) ?_
  go_wp2_with fail
  refine (Number_f m HK.out.ok.lt t _ HB.out).mono ?_
  rintro e' w19 ⟨NB, rfl, hf19⟩
  have st19 := st18.keep hf19
  clear st18 hf19
  go_wp2_with (with_reducible refine wl_stop (o := ⟨some 32, _, _, _, _, _⟩) ?_)
  refine wl_allocS st19 rfl rfl (z := .agg #[.int .u64 0, .int .u64 0, .int .u64 0, .int .u64 0]) (by kernel_rfl) (cw 4 0) (by rw [cw_zero]; rfl) ?_
  intro g32 w20 st20
  clear st19
  go_wp2_with (with_reducible refine wl_stop (o := ⟨none, _, _, _, _, _⟩) ?_)
  refine wl_storeS st20 6 rfl rfl rfl rfl rfl (by first | (simp only [cw_len]; done) | (simp only [List.length_append, cw_len]; done)) (by first | (rw [cw_len]; kernel_rfl) | (simp only [List.length_append, cw_len]; kernel_rfl)) (cw_one _ _) ?_
  intro w21 st21
  clear st20
  go_wp2_with (with_reducible refine wl_stop (o := ⟨some 147, _, _, _, _, _⟩) ?_)
  refine wl_loadS st21 0 rfl rfl rfl Try.underlying38 rfl (by first | (rw [cw_len]; kernel_rfl) | (simp only [List.length_append, cw_len]; kernel_rfl)) ?_
  go_wp2_with fail
  refine (told_bad 3 0 _ (by decide)).mono ?_
  rintro e' w22 ⟨rfl, hf22⟩
  have st22 := st21.keep hf22
  clear st21 hf22
  go_wp2_with (with_reducible refine wl_stop (o := ⟨some 152, _, _, _, _, _⟩) ?_)
  refine wl_loadS st22 1 rfl rfl rfl Try.underlying38 rfl (by first | (rw [cw_len]; kernel_rfl) | (simp only [List.length_append, cw_len]; kernel_rfl)) ?_
  go_wp2_with fail
  refine (told_bad 3 0 _ (by decide)).mono ?_
  rintro e' w23 ⟨rfl, hf23⟩
  have st23 := st22.keep hf23
  clear st22 hf23
  go_wp2_with (with_reducible refine wl_stop (o := ⟨some 157, _, _, _, _, _⟩) ?_)
  refine wl_loadS st23 2 rfl rfl rfl Try.underlying38 rfl (by first | (rw [cw_len]; kernel_rfl) | (simp only [List.length_append, cw_len]; kernel_rfl)) ?_
  go_wp2_with fail
  refine (told_bad 3 0 _ (by decide)).mono ?_
  rintro e' w24 ⟨rfl, hf24⟩
  have st24 := st23.keep hf24
  clear st23 hf24
  go_wp2_with (with_reducible refine wl_stop (o := ⟨some 162, _, _, _, _, _⟩) ?_)
  refine wl_loadS st24 3 rfl rfl rfl Try.underlying38 rfl (by first | (rw [cw_len]; kernel_rfl) | (simp only [List.length_append, cw_len]; kernel_rfl)) ?_
  go_wp2_with fail
  refine (told_bad 3 0 _ (by decide)).mono ?_
  rintro e' w25 ⟨rfl, hf25⟩
  have st25 := st24.keep hf25
  clear st24 hf25
  have hfr := HF2.out.then (F6.out.then st25.fr)
  clear st25
  go_wp2_with fail
  go_ret
  exact ⟨rfl, hfr⟩

set_option maxHeartbeats 16000000 in
set_option maxRecDepth 1000000 in
theorem law_NumReckons_ft (k : Int) (m : Md) (hk : KindOf k m) (s t : ByteArray) (w : World) (hs : s.size ≤ 16384) (ht : t.size ≤ 16384) (ha : numB m s.data.toList = false) (hb : numB m t.data.toList = true) :
    Calls Try.prog 6 #[.int .i64 k, .string s, .string t] w fun e w' => e = .returned (.bool true) ∧ Fr Nob w w' := by
  have hgs : ¬ ((16384 : Int) < (s.size : Int)) := by omega
  have hgt : ¬ ((16384 : Int) < (t.size : Int)) := by omega
  have HS := Lib.hid hs
  have HT := Lib.hid ht
  clear hs ht
  have HK := Lib.hid hk
  have HA := Lib.hid ha
  have HB := Lib.hid hb
  have HG2 := Lib.hid (show numsB m [s.data.toList, t.data.toList] = false by unfold numsB; simp only [List.all_cons, List.all_nil, ha, hb]; rfl)
  have HG1 := Lib.hid (show numsB m [s.data.toList] = false by unfold numsB; simp only [List.all_cons, List.all_nil, ha]; rfl)
  have HM0 := Lib.hid (show 0 < m.M by have := hk.ok.one; omega)
  have HM1 := Lib.hid hk.ok.one
  have HM4 := Lib.hid hk.ok.lt
  clear hk ha hb
  go_enter Try.func6, Try.ntmps6
  go_wp2_with fail
  refine (lent_any s _ (by have := HS.out; omega)).mono ?_
  rintro e w1 ⟨rfl, hg1, hf1, hz1⟩
  clear hz1
  generalize w.heap.size = gi at *
  have hrd1 : RdB w1 (some ⟨gi, 0, none⟩) (s.size + 160) (lentL s.data.toList) := by
    have := Rd.whole hg1
    rwa [length_bs, lentL_len, size_list] at this
  have HRD1 := Lib.hid hrd1
  have HF1 := Lib.hid hf1
  clear hg1 hrd1 hf1
  go_wp2_with fail
  refine (lent_any t _ (by have := HT.out; omega)).mono ?_
  rintro e w2 ⟨rfl, hg2, hf2, hz2⟩
  clear hz2
  generalize w1.heap.size = gj at *
  have hrd2 : RdB w2 (some ⟨gj, 0, none⟩) (t.size + 160) (lentL t.data.toList) := by
    have := Rd.whole hg2
    rwa [length_bs, lentL_len, size_list] at this
  have HRS := Lib.hid (HRD1.out.still hf2)
  have HRT := Lib.hid hrd2
  have HF2 := Lib.hid (HF1.out.then hf2)
  clear hg2 hrd2 hf2 HRD1 HF1
  have HPA : Hid (BPart w2 (.slice (some ⟨gi, 0, none⟩) s.size (s.size + 160)) s.data.toList) := Lib.hid ⟨_, _, _, rfl, by omega, by
    have h := RdB.front HRS.out s.size (by omega)
    rwa [lentL_take] at h⟩
  have HPB : Hid (BPart w2 (.slice (some ⟨gj, 0, none⟩) t.size (t.size + 160)) t.data.toList) := Lib.hid ⟨_, _, _, rfl, by omega, by
    have h := RdB.front HRT.out t.size (by omega)
    rwa [lentL_take] at h⟩
  have k1 := fun wx => run_slice_hi (P := Try.prog) wx Try.underlying29 size_u8 (some ⟨gi, 0, none⟩) (s.size + 160) (s.size + 160) .i64 s.size (by omega)
  have k2 := fun wx => run_slice_hi (P := Try.prog) wx Try.underlying29 size_u8 (some ⟨gj, 0, none⟩) (t.size + 160) (t.size + 160) .i64 t.size (by omega)
  have hci : (s.size : Int) ≤ (s.size : Int) + 160 := by omega
  have hcj : (t.size : Int) ≤ (t.size : Int) + 160 := by omega
  have F0 := Lib.hid (Fr.refl Nob w2)
  go_wp2_with fail
  refine (NAdd_bad k m HK.out _ _ _ _ _ (HPA.out.still F0.out) (HPB.out.still F0.out) HG2.out).mono ?_
  rintro e w3 ⟨rfl, hf3⟩
  have F1 := Lib.hid (F0.out.then hf3)
  clear hf3 F0
  clear k1 k2 hci hcj
  go_wp2_with fail
  refine (NSub_bad k m HK.out _ _ _ _ _ (HPA.out.still F1.out) (HPB.out.still F1.out) HG2.out).mono ?_
  rintro e w4 ⟨rfl, hf4⟩
  have F2 := Lib.hid (F1.out.then hf4)
  clear hf4 F1
  go_wp2_with fail
  refine (NMul_bad k m HK.out _ _ _ _ _ (HPA.out.still F2.out) (HPB.out.still F2.out) HG2.out).mono ?_
  rintro e w5 ⟨rfl, hf5⟩
  have F3 := Lib.hid (F2.out.then hf5)
  clear hf5 F2
  go_wp2_with fail
  refine (NInv_bad k m HK.out _ _ _ (HPA.out.still F3.out) HG1.out).mono ?_
  rintro e w6 ⟨rfl, hf6⟩
  have F4 := Lib.hid (F3.out.then hf6)
  clear hf6 F3
  go_wp2_with fail
  refine (still_any _ _ _ _ s _ (by have := HS.out; omega) (HRS.out.still F4.out)).mono ?_
  rintro e w7 ⟨rfl, hf7⟩
  rw [decide_eq_true rfl]
  have F5 := Lib.hid (F4.out.then hf7)
  clear hf7 F4
  go_wp2_with fail
  refine (still_any _ _ _ _ t _ (by have := HT.out; omega) (HRT.out.still F5.out)).mono ?_
  rintro e w8 ⟨rfl, hf8⟩
  rw [decide_eq_true rfl]
  have F6 := Lib.hid (F5.out.then hf8)
  clear hf8 F5
  go_wp2_with fail
  refine (Known_k HK.out _).mono ?_
  rintro e' wK ⟨rfl, rfl⟩
  have st0 := St.start Nob w8
  go_wp2_with (with_reducible refine wl_stop (o := ⟨some 25, _, _, _, _, _⟩) ?_)
  refine wl_allocS st0 rfl rfl (z := .agg #[.int .u64 0, .int .u64 0, .int .u64 0, .int .u64 0]) (by kernel_rfl) (cw 4 0) (by rw [cw_zero]; rfl) ?_
  intro g25 w9 st9
  clear st0
  go_wp2_with (with_reducible refine wl_stop (o := ⟨some 26, _, _, _, _, _⟩) ?_)
  refine wl_allocS st9 rfl rfl (z := .agg #[.int .u64 0, .int .u64 0, .int .u64 0, .int .u64 0]) (by kernel_rfl) (cw 4 0) (by rw [cw_zero]; rfl) ?_
  intro g26 w10 st10
  clear st9
  go_wp2_with (with_reducible refine wl_stop (o := ⟨some 27, _, _, _, _, _⟩) ?_)
  refine wl_allocS st10 rfl rfl (z := .agg #[.int .u64 0, .int .u64 0, .int .u64 0, .int .u64 0]) (by kernel_rfl) (cw 4 0) (by rw [cw_zero]; rfl) ?_
  intro g27 w11 st11
  clear st10
  go_wp2_with (with_reducible refine wl_stop (o := ⟨some 28, _, _, _, _, _⟩) ?_)
  refine wl_allocS st11 rfl rfl (z := .agg #[.int .u64 0, .int .u64 0, .int .u64 0, .int .u64 0]) (by kernel_rfl) (cw 4 0) (by rw [cw_zero]; rfl) ?_
  intro g28 w12 st12
  clear st11
  go_wp2_with fail
  refine (MakeK HK.out _).mono ?_
  rintro e' w13 ⟨rfl, hf13⟩
  have st13 := st12.keep hf13
  clear st12 hf13
  go_wp2_with (with_reducible refine wl_stop (o := ⟨some 29, _, _, _, _, _⟩) ?_)
  refine wl_allocS st13 rfl rfl (z := .agg #[.int .u64 0, .int .u64 0, .int .u64 0, .int .u64 0, .int .u64 0, .int .u64 0, .int .u64 0, .int .u64 0]) (by kernel_rfl) (cw 8 0) (by rw [cw_zero]; rfl) ?_
  intro g29 w14 st14
  clear st13
  go_wp2_with (with_reducible refine wl_stop (o := ⟨none, _, _, _, _, _⟩) ?_)
  refine wl_storeS st14 4 rfl rfl rfl rfl rfl (by first | (simp only [cw_len]; done) | (simp only [List.length_append, cw_len]; done)) (by first | (rw [cw_len]; kernel_rfl) | (simp only [List.length_append, cw_len]; kernel_rfl)) (cw2_one _ _ _ _) ?_
  intro w15 st15
  clear st14
  go_wp2_with (with_reducible refine wl_stop (o := ⟨some 105, _, _, _, _, _⟩) ?_)
  refine wl_loadSt st15 4 rfl rfl rfl Try.underlying40 rfl rfl (by first | (rw [cw_len]; kernel_rfl) | (simp only [List.length_append, cw_len]; kernel_rfl)) ?_
  go_wp2_with fail
  refine (Number_f m HK.out.ok.lt s _ HA.out).mono ?_
  rintro e' w16 ⟨NA, rfl, hf16⟩
  have st16 := st15.keep hf16
  clear st15 hf16
  go_wp2_with (with_reducible refine wl_stop (o := ⟨some 30, _, _, _, _, _⟩) ?_)
  refine wl_allocS st16 rfl rfl (z := .agg #[.int .u64 0, .int .u64 0, .int .u64 0, .int .u64 0]) (by kernel_rfl) (cw 4 0) (by rw [cw_zero]; rfl) ?_
  intro g30 w17 st17
  clear st16
  go_wp2_with (with_reducible refine wl_stop (o := ⟨none, _, _, _, _, _⟩) ?_)
  refine wl_storeS st17 5 rfl rfl rfl rfl rfl (by first | (simp only [cw_len]; done) | (simp only [List.length_append, cw_len]; done)) (by first | (rw [cw_len]; kernel_rfl) | (simp only [List.length_append, cw_len]; kernel_rfl)) (cw_one _ _) ?_
  intro w18 st18
  clear st17
  go_wp2_with (with_reducible refine wl_stop (o := ⟨some 111, _, _, _, _, _⟩) ?_)
  refine wl_loadSt st18 4 rfl rfl rfl Try.underlying40 rfl rfl (by first | (rw [cw_len]; kernel_rfl) | (simp only [List.length_append, cw_len]; kernel_rfl)) ?_
  go_wp2_with fail
  refine (Number_t m HK.out.ok.lt t _ HB.out).mono ?_
  rintro e' w19 ⟨rfl, hf19⟩
  have st19 := st18.keep hf19
  clear st18 hf19
  go_wp2_with (with_reducible refine wl_stop (o := ⟨some 32, _, _, _, _, _⟩) ?_)
  refine wl_allocS st19 rfl rfl (z := .agg #[.int .u64 0, .int .u64 0, .int .u64 0, .int .u64 0]) (by kernel_rfl) (cw 4 0) (by rw [cw_zero]; rfl) ?_
  intro g32 w20 st20
  clear st19
  go_wp2_with (with_reducible refine wl_stop (o := ⟨none, _, _, _, _, _⟩) ?_)
  refine wl_storeS st20 6 rfl rfl rfl rfl rfl (by first | (simp only [cw_len]; done) | (simp only [List.length_append, cw_len]; done)) (by first | (rw [cw_len]; kernel_rfl) | (simp only [List.length_append, cw_len]; kernel_rfl)) (cw_one _ _) ?_
  intro w21 st21
  clear st20
  go_wp2_with (with_reducible refine wl_stop (o := ⟨some 147, _, _, _, _, _⟩) ?_)
  refine wl_loadS st21 0 rfl rfl rfl Try.underlying38 rfl (by first | (rw [cw_len]; kernel_rfl) | (simp only [List.length_append, cw_len]; kernel_rfl)) ?_
  go_wp2_with fail
  refine (told_bad 3 0 _ (by decide)).mono ?_
  rintro e' w22 ⟨rfl, hf22⟩
  have st22 := st21.keep hf22
  clear st21 hf22
  go_wp2_with (with_reducible refine wl_stop (o := ⟨some 152, _, _, _, _, _⟩) ?_)
  refine wl_loadS st22 1 rfl rfl rfl Try.underlying38 rfl (by first | (rw [cw_len]; kernel_rfl) | (simp only [List.length_append, cw_len]; kernel_rfl)) ?_
  go_wp2_with fail
  refine (told_bad 3 0 _ (by decide)).mono ?_
  rintro e' w23 ⟨rfl, hf23⟩
  have st23 := st22.keep hf23
  clear st22 hf23
  go_wp2_with (with_reducible refine wl_stop (o := ⟨some 157, _, _, _, _, _⟩) ?_)
  refine wl_loadS st23 2 rfl rfl rfl Try.underlying38 rfl (by first | (rw [cw_len]; kernel_rfl) | (simp only [List.length_append, cw_len]; kernel_rfl)) ?_
  go_wp2_with fail
  refine (told_bad 3 0 _ (by decide)).mono ?_
  rintro e' w24 ⟨rfl, hf24⟩
  have st24 := st23.keep hf24
  clear st23 hf24
  go_wp2_with (with_reducible refine wl_stop (o := ⟨some 162, _, _, _, _, _⟩) ?_)
  refine wl_loadS st24 3 rfl rfl rfl Try.underlying38 rfl (by first | (rw [cw_len]; kernel_rfl) | (simp only [List.length_append, cw_len]; kernel_rfl)) ?_
  go_wp2_with fail
  refine (told_bad 3 0 _ (by decide)).mono ?_
  rintro e' w25 ⟨rfl, hf25⟩
  have st25 := st24.keep hf25
  clear st24 hf25
  have hfr := HF2.out.then (F6.out.then st25.fr)
  clear st25
  go_wp2_with fail
  go_ret
  exact ⟨rfl, hfr⟩

set_option maxHeartbeats 16000000 in
set_option maxRecDepth 1000000 in
theorem law_NumReckons_tf (k : Int) (m : Md) (hk : KindOf k m) (s t : ByteArray) (w : World) (hs : s.size ≤ 16384) (ht : t.size ≤ 16384) (ha : numB m s.data.toList = true) (hb : numB m t.data.toList = false) :
    Calls Try.prog 6 #[.int .i64 k, .string s, .string t] w fun e w' => e = .returned (.bool true) ∧ Fr Nob w w' := by
  have hgs : ¬ ((16384 : Int) < (s.size : Int)) := by omega
  have hgt : ¬ ((16384 : Int) < (t.size : Int)) := by omega
  have HS := Lib.hid hs
  have HT := Lib.hid ht
  clear hs ht
  have HK := Lib.hid hk
  have HA := Lib.hid ha
  have HB := Lib.hid hb
  have HG2 := Lib.hid (show numsB m [s.data.toList, t.data.toList] = false by unfold numsB; simp only [List.all_cons, List.all_nil, ha, hb]; rfl)
  have HG1 := Lib.hid (show numsB m [s.data.toList] = true by unfold numsB; simp only [List.all_cons, List.all_nil, ha]; rfl)
  have HM0 := Lib.hid (show 0 < m.M by have := hk.ok.one; omega)
  have HM1 := Lib.hid hk.ok.one
  have HM4 := Lib.hid hk.ok.lt
  have HLA := Lib.hid (Nat.lt_trans (numB_lt m _ ha) hk.ok.lt)
  clear hk ha hb
  go_enter Try.func6, Try.ntmps6
  go_wp2_with fail
  refine (lent_any s _ (by have := HS.out; omega)).mono ?_
  rintro e w1 ⟨rfl, hg1, hf1, hz1⟩
  clear hz1
  generalize w.heap.size = gi at *
  have hrd1 : RdB w1 (some ⟨gi, 0, none⟩) (s.size + 160) (lentL s.data.toList) := by
    have := Rd.whole hg1
    rwa [length_bs, lentL_len, size_list] at this
  have HRD1 := Lib.hid hrd1
  have HF1 := Lib.hid hf1
  clear hg1 hrd1 hf1
  go_wp2_with fail
  refine (lent_any t _ (by have := HT.out; omega)).mono ?_
  rintro e w2 ⟨rfl, hg2, hf2, hz2⟩
  clear hz2
  generalize w1.heap.size = gj at *
  have hrd2 : RdB w2 (some ⟨gj, 0, none⟩) (t.size + 160) (lentL t.data.toList) := by
    have := Rd.whole hg2
    rwa [length_bs, lentL_len, size_list] at this
  have HRS := Lib.hid (HRD1.out.still hf2)
  have HRT := Lib.hid hrd2
  have HF2 := Lib.hid (HF1.out.then hf2)
  clear hg2 hrd2 hf2 HRD1 HF1
  have HPA : Hid (BPart w2 (.slice (some ⟨gi, 0, none⟩) s.size (s.size + 160)) s.data.toList) := Lib.hid ⟨_, _, _, rfl, by omega, by
    have h := RdB.front HRS.out s.size (by omega)
    rwa [lentL_take] at h⟩
  have HPB : Hid (BPart w2 (.slice (some ⟨gj, 0, none⟩) t.size (t.size + 160)) t.data.toList) := Lib.hid ⟨_, _, _, rfl, by omega, by
    have h := RdB.front HRT.out t.size (by omega)
    rwa [lentL_take] at h⟩
  have k1 := fun wx => run_slice_hi (P := Try.prog) wx Try.underlying29 size_u8 (some ⟨gi, 0, none⟩) (s.size + 160) (s.size + 160) .i64 s.size (by omega)
  have k2 := fun wx => run_slice_hi (P := Try.prog) wx Try.underlying29 size_u8 (some ⟨gj, 0, none⟩) (t.size + 160) (t.size + 160) .i64 t.size (by omega)
  have hci : (s.size : Int) ≤ (s.size : Int) + 160 := by omega
  have hcj : (t.size : Int) ≤ (t.size : Int) + 160 := by omega
  have F0 := Lib.hid (Fr.refl Nob w2)
  go_wp2_with fail
  refine (NAdd_bad k m HK.out _ _ _ _ _ (HPA.out.still F0.out) (HPB.out.still F0.out) HG2.out).mono ?_
  rintro e w3 ⟨rfl, hf3⟩
  have F1 := Lib.hid (F0.out.then hf3)
  clear hf3 F0
  clear k1 k2 hci hcj
  go_wp2_with fail
  refine (NSub_bad k m HK.out _ _ _ _ _ (HPA.out.still F1.out) (HPB.out.still F1.out) HG2.out).mono ?_
  rintro e w4 ⟨rfl, hf4⟩
  have F2 := Lib.hid (F1.out.then hf4)
  clear hf4 F1
  go_wp2_with fail
  refine (NMul_bad k m HK.out _ _ _ _ _ (HPA.out.still F2.out) (HPB.out.still F2.out) HG2.out).mono ?_
  rintro e w5 ⟨rfl, hf5⟩
  have F3 := Lib.hid (F2.out.then hf5)
  clear hf5 F2
  go_wp2_with fail
  refine (NInv_ok k m HK.out _ _ _ (HPA.out.still F3.out) HG1.out).mono ?_
  rintro e w6 ⟨vInv, rfl, ho6, hf6⟩
  obtain ⟨aInv, cInv, rfl, -, hr6, -⟩ := ho6.form
  have HRInv := Lib.hid (show RdB w6 aInv 32 (be32 (beN s.data.toList ^ (m.M - 2) % m.M)) by rw [Nat.mul_one] at hr6; exact hr6)
  clear ho6 hr6
  have F4 := Lib.hid (F3.out.then hf6)
  clear hf6 F3
  go_wp2_with fail
  refine (still_any _ _ _ _ s _ (by have := HS.out; omega) (HRS.out.still F4.out)).mono ?_
  rintro e w7 ⟨rfl, hf7⟩
  rw [decide_eq_true rfl]
  have HRInv7 := Lib.hid (HRInv.out.still hf7)
  clear HRInv
  rename Hid (RdB w7 aInv 32 _) => HRInv
  have F5 := Lib.hid (F4.out.then hf7)
  clear hf7 F4
  go_wp2_with fail
  refine (still_any _ _ _ _ t _ (by have := HT.out; omega) (HRT.out.still F5.out)).mono ?_
  rintro e w8 ⟨rfl, hf8⟩
  rw [decide_eq_true rfl]
  have HRInv8 := Lib.hid (HRInv.out.still hf8)
  clear HRInv
  rename Hid (RdB w8 aInv 32 _) => HRInv
  have F6 := Lib.hid (F5.out.then hf8)
  clear hf8 F5
  go_wp2_with fail
  refine (Known_k HK.out _).mono ?_
  rintro e' wK ⟨rfl, rfl⟩
  have st0 := St.start Nob w8
  go_wp2_with (with_reducible refine wl_stop (o := ⟨some 25, _, _, _, _, _⟩) ?_)
  refine wl_allocS st0 rfl rfl (z := .agg #[.int .u64 0, .int .u64 0, .int .u64 0, .int .u64 0]) (by kernel_rfl) (cw 4 0) (by rw [cw_zero]; rfl) ?_
  intro g25 w9 st9
  clear st0
  go_wp2_with (with_reducible refine wl_stop (o := ⟨some 26, _, _, _, _, _⟩) ?_)
  refine wl_allocS st9 rfl rfl (z := .agg #[.int .u64 0, .int .u64 0, .int .u64 0, .int .u64 0]) (by kernel_rfl) (cw 4 0) (by rw [cw_zero]; rfl) ?_
  intro g26 w10 st10
  clear st9
  go_wp2_with (with_reducible refine wl_stop (o := ⟨some 27, _, _, _, _, _⟩) ?_)
  refine wl_allocS st10 rfl rfl (z := .agg #[.int .u64 0, .int .u64 0, .int .u64 0, .int .u64 0]) (by kernel_rfl) (cw 4 0) (by rw [cw_zero]; rfl) ?_
  intro g27 w11 st11
  clear st10
  go_wp2_with (with_reducible refine wl_stop (o := ⟨some 28, _, _, _, _, _⟩) ?_)
  refine wl_allocS st11 rfl rfl (z := .agg #[.int .u64 0, .int .u64 0, .int .u64 0, .int .u64 0]) (by kernel_rfl) (cw 4 0) (by rw [cw_zero]; rfl) ?_
  intro g28 w12 st12
  clear st11
  go_wp2_with fail
  refine (MakeK HK.out _).mono ?_
  rintro e' w13 ⟨rfl, hf13⟩
  have st13 := st12.keep hf13
  clear st12 hf13
  go_wp2_with (with_reducible refine wl_stop (o := ⟨some 29, _, _, _, _, _⟩) ?_)
  refine wl_allocS st13 rfl rfl (z := .agg #[.int .u64 0, .int .u64 0, .int .u64 0, .int .u64 0, .int .u64 0, .int .u64 0, .int .u64 0, .int .u64 0]) (by kernel_rfl) (cw 8 0) (by rw [cw_zero]; rfl) ?_
  intro g29 w14 st14
  clear st13
  go_wp2_with (with_reducible refine wl_stop (o := ⟨none, _, _, _, _, _⟩) ?_)
  refine wl_storeS st14 4 rfl rfl rfl rfl rfl (by first | (simp only [cw_len]; done) | (simp only [List.length_append, cw_len]; done)) (by first | (rw [cw_len]; kernel_rfl) | (simp only [List.length_append, cw_len]; kernel_rfl)) (cw2_one _ _ _ _) ?_
  intro w15 st15
  clear st14
  go_wp2_with (with_reducible refine wl_stop (o := ⟨some 105, _, _, _, _, _⟩) ?_)
  refine wl_loadSt st15 4 rfl rfl rfl Try.underlying40 rfl rfl (by first | (rw [cw_len]; kernel_rfl) | (simp only [List.length_append, cw_len]; kernel_rfl)) ?_
  go_wp2_with fail
  refine (Number_t m HK.out.ok.lt s _ HA.out).mono ?_
  rintro e' w16 ⟨rfl, hf16⟩
  have st16 := st15.keep hf16
  clear st15 hf16
  go_wp2_with (with_reducible refine wl_stop (o := ⟨some 30, _, _, _, _, _⟩) ?_)
  refine wl_allocS st16 rfl rfl (z := .agg #[.int .u64 0, .int .u64 0, .int .u64 0, .int .u64 0]) (by kernel_rfl) (cw 4 0) (by rw [cw_zero]; rfl) ?_
  intro g30 w17 st17
  clear st16
  go_wp2_with (with_reducible refine wl_stop (o := ⟨none, _, _, _, _, _⟩) ?_)
  refine wl_storeS st17 5 rfl rfl rfl rfl rfl (by first | (simp only [cw_len]; done) | (simp only [List.length_append, cw_len]; done)) (by first | (rw [cw_len]; kernel_rfl) | (simp only [List.length_append, cw_len]; kernel_rfl)) (cw_one _ _) ?_
  intro w18 st18
  clear st17
  go_wp2_with (with_reducible refine wl_stop (o := ⟨some 111, _, _, _, _, _⟩) ?_)
  refine wl_loadSt st18 4 rfl rfl rfl Try.underlying40 rfl rfl (by first | (rw [cw_len]; kernel_rfl) | (simp only [List.length_append, cw_len]; kernel_rfl)) ?_
  go_wp2_with fail
  refine (Number_f m HK.out.ok.lt t _ HB.out).mono ?_
  rintro e' w19 ⟨NB, rfl, hf19⟩
  have st19 := st18.keep hf19
  clear st18 hf19
  go_wp2_with (with_reducible refine wl_stop (o := ⟨some 32, _, _, _, _, _⟩) ?_)
  refine wl_allocS st19 rfl rfl (z := .agg #[.int .u64 0, .int .u64 0, .int .u64 0, .int .u64 0]) (by kernel_rfl) (cw 4 0) (by rw [cw_zero]; rfl) ?_
  intro g32 w20 st20
  clear st19
  go_wp2_with (with_reducible refine wl_stop (o := ⟨none, _, _, _, _, _⟩) ?_)
  refine wl_storeS st20 6 rfl rfl rfl rfl rfl (by first | (simp only [cw_len]; done) | (simp only [List.length_append, cw_len]; done)) (by first | (rw [cw_len]; kernel_rfl) | (simp only [List.length_append, cw_len]; kernel_rfl)) (cw_one _ _) ?_
  intro w21 st21
  clear st20
  go_wp2_with (with_reducible refine wl_stop (o := ⟨some 141, _, _, _, _, _⟩) ?_)
  refine wl_loadSt st21 4 rfl rfl rfl Try.underlying40 rfl rfl (by first | (rw [cw_len]; kernel_rfl) | (simp only [List.length_append, cw_len]; kernel_rfl)) ?_
  go_wp2_with (with_reducible refine wl_stop (o := ⟨some 142, _, _, _, _, _⟩) ?_)
  refine wl_loadS st21 5 rfl rfl rfl Try.underlying38 rfl (by first | (rw [cw_len]; kernel_rfl) | (simp only [List.length_append, cw_len]; kernel_rfl)) ?_
  go_wp2_with fail
  refine (Inv_any m.M _ _ HM1.out HM4.out HLA.out).mono ?_
  rintro e' w22 ⟨rfl, hf22⟩
  have st22 := st21.keep hf22
  clear st21 hf22
  go_wp2_with (with_reducible refine wl_stop (o := ⟨none, _, _, _, _, _⟩) ?_)
  refine wl_storeS st22 3 rfl rfl rfl rfl rfl (by first | (simp only [cw_len]; done) | (simp only [List.length_append, cw_len]; done)) (by first | (rw [cw_len]; kernel_rfl) | (simp only [List.length_append, cw_len]; kernel_rfl)) (cw_one _ _) ?_
  intro w23 st23
  clear st22
  go_wp2_with (with_reducible refine wl_stop (o := ⟨some 147, _, _, _, _, _⟩) ?_)
  refine wl_loadS st23 0 rfl rfl rfl Try.underlying38 rfl (by first | (rw [cw_len]; kernel_rfl) | (simp only [List.length_append, cw_len]; kernel_rfl)) ?_
  go_wp2_with fail
  refine (told_bad 3 0 _ (by decide)).mono ?_
  rintro e' w24 ⟨rfl, hf24⟩
  have st24 := st23.keep hf24
  clear st23 hf24
  go_wp2_with (with_reducible refine wl_stop (o := ⟨some 152, _, _, _, _, _⟩) ?_)
  refine wl_loadS st24 1 rfl rfl rfl Try.underlying38 rfl (by first | (rw [cw_len]; kernel_rfl) | (simp only [List.length_append, cw_len]; kernel_rfl)) ?_
  go_wp2_with fail
  refine (told_bad 3 0 _ (by decide)).mono ?_
  rintro e' w25 ⟨rfl, hf25⟩
  have st25 := st24.keep hf25
  clear st24 hf25
  go_wp2_with (with_reducible refine wl_stop (o := ⟨some 157, _, _, _, _, _⟩) ?_)
  refine wl_loadS st25 2 rfl rfl rfl Try.underlying38 rfl (by first | (rw [cw_len]; kernel_rfl) | (simp only [List.length_append, cw_len]; kernel_rfl)) ?_
  go_wp2_with fail
  refine (told_bad 3 0 _ (by decide)).mono ?_
  rintro e' w26 ⟨rfl, hf26⟩
  have st26 := st25.keep hf26
  clear st25 hf26
  go_wp2_with (with_reducible refine wl_stop (o := ⟨some 162, _, _, _, _, _⟩) ?_)
  refine wl_loadS st26 3 rfl rfl rfl Try.underlying38 rfl (by first | (rw [cw_len]; kernel_rfl) | (simp only [List.length_append, cw_len]; kernel_rfl)) ?_
  go_wp2_with fail
  refine (told_ok aInv 32 cInv (beN s.data.toList ^ (m.M - 2) % m.M) _ (HRInv.out.still st26.fr)).mono ?_
  rintro e' w27 ⟨rfl, hf27⟩
  have st27 := st26.keep hf27
  clear st26 hf27
  have hfr := HF2.out.then (F6.out.then st27.fr)
  clear st27
  go_wp2_with fail
  go_ret
  exact ⟨rfl, hfr⟩

set_option maxHeartbeats 16000000 in
set_option maxRecDepth 1000000 in
theorem law_NumReckons_tt (k : Int) (m : Md) (hk : KindOf k m) (s t : ByteArray) (w : World) (hs : s.size ≤ 16384) (ht : t.size ≤ 16384) (ha : numB m s.data.toList = true) (hb : numB m t.data.toList = true) :
    Calls Try.prog 6 #[.int .i64 k, .string s, .string t] w fun e w' => e = .returned (.bool true) ∧ Fr Nob w w' := by
  have hgs : ¬ ((16384 : Int) < (s.size : Int)) := by omega
  have hgt : ¬ ((16384 : Int) < (t.size : Int)) := by omega
  have HS := Lib.hid hs
  have HT := Lib.hid ht
  clear hs ht
  have HK := Lib.hid hk
  have HA := Lib.hid ha
  have HB := Lib.hid hb
  have HG2 := Lib.hid (show numsB m [s.data.toList, t.data.toList] = true by unfold numsB; simp only [List.all_cons, List.all_nil, ha, hb]; rfl)
  have HG1 := Lib.hid (show numsB m [s.data.toList] = true by unfold numsB; simp only [List.all_cons, List.all_nil, ha]; rfl)
  have HM0 := Lib.hid (show 0 < m.M by have := hk.ok.one; omega)
  have HM1 := Lib.hid hk.ok.one
  have HM4 := Lib.hid hk.ok.lt
  have HLA := Lib.hid (Nat.lt_trans (numB_lt m _ ha) hk.ok.lt)
  have HLB := Lib.hid (Nat.lt_trans (numB_lt m _ hb) hk.ok.lt)
  have HLBM := Lib.hid (Nat.le_of_lt (numB_lt m _ hb))
  have HSUB := Lib.hid (sub_same (beN s.data.toList) (beN t.data.toList) m.M (numB_lt m _ hb))
  clear hk ha hb
  go_enter Try.func6, Try.ntmps6
  go_wp2_with fail
  refine (lent_any s _ (by have := HS.out; omega)).mono ?_
  rintro e w1 ⟨rfl, hg1, hf1, hz1⟩
  clear hz1
  generalize w.heap.size = gi at *
  have hrd1 : RdB w1 (some ⟨gi, 0, none⟩) (s.size + 160) (lentL s.data.toList) := by
    have := Rd.whole hg1
    rwa [length_bs, lentL_len, size_list] at this
  have HRD1 := Lib.hid hrd1
  have HF1 := Lib.hid hf1
  clear hg1 hrd1 hf1
  go_wp2_with fail
  refine (lent_any t _ (by have := HT.out; omega)).mono ?_
  rintro e w2 ⟨rfl, hg2, hf2, hz2⟩
  clear hz2
  generalize w1.heap.size = gj at *
  have hrd2 : RdB w2 (some ⟨gj, 0, none⟩) (t.size + 160) (lentL t.data.toList) := by
    have := Rd.whole hg2
    rwa [length_bs, lentL_len, size_list] at this
  have HRS := Lib.hid (HRD1.out.still hf2)
  have HRT := Lib.hid hrd2
  have HF2 := Lib.hid (HF1.out.then hf2)
  clear hg2 hrd2 hf2 HRD1 HF1
  have HPA : Hid (BPart w2 (.slice (some ⟨gi, 0, none⟩) s.size (s.size + 160)) s.data.toList) := Lib.hid ⟨_, _, _, rfl, by omega, by
    have h := RdB.front HRS.out s.size (by omega)
    rwa [lentL_take] at h⟩
  have HPB : Hid (BPart w2 (.slice (some ⟨gj, 0, none⟩) t.size (t.size + 160)) t.data.toList) := Lib.hid ⟨_, _, _, rfl, by omega, by
    have h := RdB.front HRT.out t.size (by omega)
    rwa [lentL_take] at h⟩
  have k1 := fun wx => run_slice_hi (P := Try.prog) wx Try.underlying29 size_u8 (some ⟨gi, 0, none⟩) (s.size + 160) (s.size + 160) .i64 s.size (by omega)
  have k2 := fun wx => run_slice_hi (P := Try.prog) wx Try.underlying29 size_u8 (some ⟨gj, 0, none⟩) (t.size + 160) (t.size + 160) .i64 t.size (by omega)
  have hci : (s.size : Int) ≤ (s.size : Int) + 160 := by omega
  have hcj : (t.size : Int) ≤ (t.size : Int) + 160 := by omega
  have F0 := Lib.hid (Fr.refl Nob w2)
  go_wp2_with fail
  refine (NAdd_ok k m HK.out _ _ _ _ _ (HPA.out.still F0.out) (HPB.out.still F0.out) HG2.out).mono ?_
  rintro e w3 ⟨vAdd, rfl, ho3, hf3⟩
  obtain ⟨aAdd, cAdd, rfl, -, hr3, -⟩ := ho3.form
  have HRAdd := Lib.hid (show RdB w3 aAdd 32 (be32 ((beN s.data.toList + beN t.data.toList) % m.M)) by rw [Nat.mul_one] at hr3; exact hr3)
  clear ho3 hr3
  have F1 := Lib.hid (F0.out.then hf3)
  clear hf3 F0
  clear k1 k2 hci hcj
  go_wp2_with fail
  refine (NSub_ok k m HK.out _ _ _ _ _ (HPA.out.still F1.out) (HPB.out.still F1.out) HG2.out).mono ?_
  rintro e w4 ⟨vSub, rfl, ho4, hf4⟩
  obtain ⟨aSub, cSub, rfl, -, hr4, -⟩ := ho4.form
  have HRSub := Lib.hid (show RdB w4 aSub 32 (be32 ((beN s.data.toList + (m.M - beN t.data.toList % m.M)) % m.M)) by rw [Nat.mul_one] at hr4; exact hr4)
  clear ho4 hr4
  have HRAdd4 := Lib.hid (HRAdd.out.still hf4)
  clear HRAdd
  rename Hid (RdB w4 aAdd 32 _) => HRAdd
  have F2 := Lib.hid (F1.out.then hf4)
  clear hf4 F1
  go_wp2_with fail
  refine (NMul_ok k m HK.out _ _ _ _ _ (HPA.out.still F2.out) (HPB.out.still F2.out) HG2.out).mono ?_
  rintro e w5 ⟨vMul, rfl, ho5, hf5⟩
  obtain ⟨aMul, cMul, rfl, -, hr5, -⟩ := ho5.form
  have HRMul := Lib.hid (show RdB w5 aMul 32 (be32 (beN s.data.toList * beN t.data.toList % m.M)) by rw [Nat.mul_one] at hr5; exact hr5)
  clear ho5 hr5
  have HRAdd5 := Lib.hid (HRAdd.out.still hf5)
  clear HRAdd
  rename Hid (RdB w5 aAdd 32 _) => HRAdd
  have HRSub5 := Lib.hid (HRSub.out.still hf5)
  clear HRSub
  rename Hid (RdB w5 aSub 32 _) => HRSub
  have F3 := Lib.hid (F2.out.then hf5)
  clear hf5 F2
  go_wp2_with fail
  refine (NInv_ok k m HK.out _ _ _ (HPA.out.still F3.out) HG1.out).mono ?_
  rintro e w6 ⟨vInv, rfl, ho6, hf6⟩
  obtain ⟨aInv, cInv, rfl, -, hr6, -⟩ := ho6.form
  have HRInv := Lib.hid (show RdB w6 aInv 32 (be32 (beN s.data.toList ^ (m.M - 2) % m.M)) by rw [Nat.mul_one] at hr6; exact hr6)
  clear ho6 hr6
  have HRAdd6 := Lib.hid (HRAdd.out.still hf6)
  clear HRAdd
  rename Hid (RdB w6 aAdd 32 _) => HRAdd
  have HRSub6 := Lib.hid (HRSub.out.still hf6)
  clear HRSub
  rename Hid (RdB w6 aSub 32 _) => HRSub
  have HRMul6 := Lib.hid (HRMul.out.still hf6)
  clear HRMul
  rename Hid (RdB w6 aMul 32 _) => HRMul
  have F4 := Lib.hid (F3.out.then hf6)
  clear hf6 F3
  go_wp2_with fail
  refine (still_any _ _ _ _ s _ (by have := HS.out; omega) (HRS.out.still F4.out)).mono ?_
  rintro e w7 ⟨rfl, hf7⟩
  rw [decide_eq_true rfl]
  have HRAdd7 := Lib.hid (HRAdd.out.still hf7)
  clear HRAdd
  rename Hid (RdB w7 aAdd 32 _) => HRAdd
  have HRSub7 := Lib.hid (HRSub.out.still hf7)
  clear HRSub
  rename Hid (RdB w7 aSub 32 _) => HRSub
  have HRMul7 := Lib.hid (HRMul.out.still hf7)
  clear HRMul
  rename Hid (RdB w7 aMul 32 _) => HRMul
  have HRInv7 := Lib.hid (HRInv.out.still hf7)
  clear HRInv
  rename Hid (RdB w7 aInv 32 _) => HRInv
  have F5 := Lib.hid (F4.out.then hf7)
  clear hf7 F4
  go_wp2_with fail
  refine (still_any _ _ _ _ t _ (by have := HT.out; omega) (HRT.out.still F5.out)).mono ?_
  rintro e w8 ⟨rfl, hf8⟩
  rw [decide_eq_true rfl]
  have HRAdd8 := Lib.hid (HRAdd.out.still hf8)
  clear HRAdd
  rename Hid (RdB w8 aAdd 32 _) => HRAdd
  have HRSub8 := Lib.hid (HRSub.out.still hf8)
  clear HRSub
  rename Hid (RdB w8 aSub 32 _) => HRSub
  have HRMul8 := Lib.hid (HRMul.out.still hf8)
  clear HRMul
  rename Hid (RdB w8 aMul 32 _) => HRMul
  have HRInv8 := Lib.hid (HRInv.out.still hf8)
  clear HRInv
  rename Hid (RdB w8 aInv 32 _) => HRInv
  have F6 := Lib.hid (F5.out.then hf8)
  clear hf8 F5
  go_wp2_with fail
  refine (Known_k HK.out _).mono ?_
  rintro e' wK ⟨rfl, rfl⟩
  have st0 := St.start Nob w8
  go_wp2_with (with_reducible refine wl_stop (o := ⟨some 25, _, _, _, _, _⟩) ?_)
  refine wl_allocS st0 rfl rfl (z := .agg #[.int .u64 0, .int .u64 0, .int .u64 0, .int .u64 0]) (by kernel_rfl) (cw 4 0) (by rw [cw_zero]; rfl) ?_
  intro g25 w9 st9
  clear st0
  go_wp2_with (with_reducible refine wl_stop (o := ⟨some 26, _, _, _, _, _⟩) ?_)
  refine wl_allocS st9 rfl rfl (z := .agg #[.int .u64 0, .int .u64 0, .int .u64 0, .int .u64 0]) (by kernel_rfl) (cw 4 0) (by rw [cw_zero]; rfl) ?_
  intro g26 w10 st10
  clear st9
  go_wp2_with (with_reducible refine wl_stop (o := ⟨some 27, _, _, _, _, _⟩) ?_)
  refine wl_allocS st10 rfl rfl (z := .agg #[.int .u64 0, .int .u64 0, .int .u64 0, .int .u64 0]) (by kernel_rfl) (cw 4 0) (by rw [cw_zero]; rfl) ?_
  intro g27 w11 st11
  clear st10
  go_wp2_with (with_reducible refine wl_stop (o := ⟨some 28, _, _, _, _, _⟩) ?_)
  refine wl_allocS st11 rfl rfl (z := .agg #[.int .u64 0, .int .u64 0, .int .u64 0, .int .u64 0]) (by kernel_rfl) (cw 4 0) (by rw [cw_zero]; rfl) ?_
  intro g28 w12 st12
  clear st11
  go_wp2_with fail
  refine (MakeK HK.out _).mono ?_
  rintro e' w13 ⟨rfl, hf13⟩
  have st13 := st12.keep hf13
  clear st12 hf13
  go_wp2_with (with_reducible refine wl_stop (o := ⟨some 29, _, _, _, _, _⟩) ?_)
  refine wl_allocS st13 rfl rfl (z := .agg #[.int .u64 0, .int .u64 0, .int .u64 0, .int .u64 0, .int .u64 0, .int .u64 0, .int .u64 0, .int .u64 0]) (by kernel_rfl) (cw 8 0) (by rw [cw_zero]; rfl) ?_
  intro g29 w14 st14
  clear st13
  go_wp2_with (with_reducible refine wl_stop (o := ⟨none, _, _, _, _, _⟩) ?_)
  refine wl_storeS st14 4 rfl rfl rfl rfl rfl (by first | (simp only [cw_len]; done) | (simp only [List.length_append, cw_len]; done)) (by first | (rw [cw_len]; kernel_rfl) | (simp only [List.length_append, cw_len]; kernel_rfl)) (cw2_one _ _ _ _) ?_
  intro w15 st15
  clear st14
  go_wp2_with (with_reducible refine wl_stop (o := ⟨some 105, _, _, _, _, _⟩) ?_)
  refine wl_loadSt st15 4 rfl rfl rfl Try.underlying40 rfl rfl (by first | (rw [cw_len]; kernel_rfl) | (simp only [List.length_append, cw_len]; kernel_rfl)) ?_
  go_wp2_with fail
  refine (Number_t m HK.out.ok.lt s _ HA.out).mono ?_
  rintro e' w16 ⟨rfl, hf16⟩
  have st16 := st15.keep hf16
  clear st15 hf16
  go_wp2_with (with_reducible refine wl_stop (o := ⟨some 30, _, _, _, _, _⟩) ?_)
  refine wl_allocS st16 rfl rfl (z := .agg #[.int .u64 0, .int .u64 0, .int .u64 0, .int .u64 0]) (by kernel_rfl) (cw 4 0) (by rw [cw_zero]; rfl) ?_
  intro g30 w17 st17
  clear st16
  go_wp2_with (with_reducible refine wl_stop (o := ⟨none, _, _, _, _, _⟩) ?_)
  refine wl_storeS st17 5 rfl rfl rfl rfl rfl (by first | (simp only [cw_len]; done) | (simp only [List.length_append, cw_len]; done)) (by first | (rw [cw_len]; kernel_rfl) | (simp only [List.length_append, cw_len]; kernel_rfl)) (cw_one _ _) ?_
  intro w18 st18
  clear st17
  go_wp2_with (with_reducible refine wl_stop (o := ⟨some 111, _, _, _, _, _⟩) ?_)
  refine wl_loadSt st18 4 rfl rfl rfl Try.underlying40 rfl rfl (by first | (rw [cw_len]; kernel_rfl) | (simp only [List.length_append, cw_len]; kernel_rfl)) ?_
  go_wp2_with fail
  refine (Number_t m HK.out.ok.lt t _ HB.out).mono ?_
  rintro e' w19 ⟨rfl, hf19⟩
  have st19 := st18.keep hf19
  clear st18 hf19
  go_wp2_with (with_reducible refine wl_stop (o := ⟨some 32, _, _, _, _, _⟩) ?_)
  refine wl_allocS st19 rfl rfl (z := .agg #[.int .u64 0, .int .u64 0, .int .u64 0, .int .u64 0]) (by kernel_rfl) (cw 4 0) (by rw [cw_zero]; rfl) ?_
  intro g32 w20 st20
  clear st19
  go_wp2_with (with_reducible refine wl_stop (o := ⟨none, _, _, _, _, _⟩) ?_)
  refine wl_storeS st20 6 rfl rfl rfl rfl rfl (by first | (simp only [cw_len]; done) | (simp only [List.length_append, cw_len]; done)) (by first | (rw [cw_len]; kernel_rfl) | (simp only [List.length_append, cw_len]; kernel_rfl)) (cw_one _ _) ?_
  intro w21 st21
  clear st20
  go_wp2_with (with_reducible refine wl_stop (o := ⟨some 128, _, _, _, _, _⟩) ?_)
  refine wl_loadSt st21 4 rfl rfl rfl Try.underlying40 rfl rfl (by first | (rw [cw_len]; kernel_rfl) | (simp only [List.length_append, cw_len]; kernel_rfl)) ?_
  go_wp2_with (with_reducible refine wl_stop (o := ⟨some 129, _, _, _, _, _⟩) ?_)
  refine wl_loadS st21 5 rfl rfl rfl Try.underlying38 rfl (by first | (rw [cw_len]; kernel_rfl) | (simp only [List.length_append, cw_len]; kernel_rfl)) ?_
  go_wp2_with (with_reducible refine wl_stop (o := ⟨some 130, _, _, _, _, _⟩) ?_)
  refine wl_loadS st21 6 rfl rfl rfl Try.underlying38 rfl (by first | (rw [cw_len]; kernel_rfl) | (simp only [List.length_append, cw_len]; kernel_rfl)) ?_
  go_wp2_with fail
  refine (Add_any m.M _ _ _ HM0.out HM4.out HLA.out HLB.out).mono ?_
  rintro e' w22 ⟨rfl, hf22⟩
  have st22 := st21.keep hf22
  clear st21 hf22
  go_wp2_with (with_reducible refine wl_stop (o := ⟨none, _, _, _, _, _⟩) ?_)
  refine wl_storeS st22 0 rfl rfl rfl rfl rfl (by first | (simp only [cw_len]; done) | (simp only [List.length_append, cw_len]; done)) (by first | (rw [cw_len]; kernel_rfl) | (simp only [List.length_append, cw_len]; kernel_rfl)) (cw_one _ _) ?_
  intro w23 st23
  clear st22
  go_wp2_with (with_reducible refine wl_stop (o := ⟨some 132, _, _, _, _, _⟩) ?_)
  refine wl_loadSt st23 4 rfl rfl rfl Try.underlying40 rfl rfl (by first | (rw [cw_len]; kernel_rfl) | (simp only [List.length_append, cw_len]; kernel_rfl)) ?_
  go_wp2_with (with_reducible refine wl_stop (o := ⟨some 133, _, _, _, _, _⟩) ?_)
  refine wl_loadS st23 5 rfl rfl rfl Try.underlying38 rfl (by first | (rw [cw_len]; kernel_rfl) | (simp only [List.length_append, cw_len]; kernel_rfl)) ?_
  go_wp2_with (with_reducible refine wl_stop (o := ⟨some 134, _, _, _, _, _⟩) ?_)
  refine wl_loadS st23 6 rfl rfl rfl Try.underlying38 rfl (by first | (rw [cw_len]; kernel_rfl) | (simp only [List.length_append, cw_len]; kernel_rfl)) ?_
  go_wp2_with fail
  refine (Sub_any m.M _ _ _ HM0.out HM4.out HLA.out HLB.out HLBM.out).mono ?_
  rintro e' w24 ⟨rfl, hf24⟩
  have st24 := st23.keep hf24
  clear st23 hf24
  go_wp2_with (with_reducible refine wl_stop (o := ⟨none, _, _, _, _, _⟩) ?_)
  refine wl_storeS st24 1 rfl rfl rfl rfl rfl (by first | (simp only [cw_len]; done) | (simp only [List.length_append, cw_len]; done)) (by first | (rw [cw_len]; kernel_rfl) | (simp only [List.length_append, cw_len]; kernel_rfl)) (cw_one _ _) ?_
  intro w25 st25
  clear st24
  go_wp2_with (with_reducible refine wl_stop (o := ⟨some 136, _, _, _, _, _⟩) ?_)
  refine wl_loadSt st25 4 rfl rfl rfl Try.underlying40 rfl rfl (by first | (rw [cw_len]; kernel_rfl) | (simp only [List.length_append, cw_len]; kernel_rfl)) ?_
  go_wp2_with (with_reducible refine wl_stop (o := ⟨some 137, _, _, _, _, _⟩) ?_)
  refine wl_loadS st25 5 rfl rfl rfl Try.underlying38 rfl (by first | (rw [cw_len]; kernel_rfl) | (simp only [List.length_append, cw_len]; kernel_rfl)) ?_
  go_wp2_with (with_reducible refine wl_stop (o := ⟨some 138, _, _, _, _, _⟩) ?_)
  refine wl_loadS st25 6 rfl rfl rfl Try.underlying38 rfl (by first | (rw [cw_len]; kernel_rfl) | (simp only [List.length_append, cw_len]; kernel_rfl)) ?_
  go_wp2_with fail
  refine (Mul_any m.M _ _ _ HM0.out HM4.out HLA.out HLB.out).mono ?_
  rintro e' w26 ⟨rfl, hf26⟩
  have st26 := st25.keep hf26
  clear st25 hf26
  go_wp2_with (with_reducible refine wl_stop (o := ⟨none, _, _, _, _, _⟩) ?_)
  refine wl_storeS st26 2 rfl rfl rfl rfl rfl (by first | (simp only [cw_len]; done) | (simp only [List.length_append, cw_len]; done)) (by first | (rw [cw_len]; kernel_rfl) | (simp only [List.length_append, cw_len]; kernel_rfl)) (cw_one _ _) ?_
  intro w27 st27
  clear st26
  go_wp2_with (with_reducible refine wl_stop (o := ⟨some 141, _, _, _, _, _⟩) ?_)
  refine wl_loadSt st27 4 rfl rfl rfl Try.underlying40 rfl rfl (by first | (rw [cw_len]; kernel_rfl) | (simp only [List.length_append, cw_len]; kernel_rfl)) ?_
  go_wp2_with (with_reducible refine wl_stop (o := ⟨some 142, _, _, _, _, _⟩) ?_)
  refine wl_loadS st27 5 rfl rfl rfl Try.underlying38 rfl (by first | (rw [cw_len]; kernel_rfl) | (simp only [List.length_append, cw_len]; kernel_rfl)) ?_
  go_wp2_with fail
  refine (Inv_any m.M _ _ HM1.out HM4.out HLA.out).mono ?_
  rintro e' w28 ⟨rfl, hf28⟩
  have st28 := st27.keep hf28
  clear st27 hf28
  go_wp2_with (with_reducible refine wl_stop (o := ⟨none, _, _, _, _, _⟩) ?_)
  refine wl_storeS st28 3 rfl rfl rfl rfl rfl (by first | (simp only [cw_len]; done) | (simp only [List.length_append, cw_len]; done)) (by first | (rw [cw_len]; kernel_rfl) | (simp only [List.length_append, cw_len]; kernel_rfl)) (cw_one _ _) ?_
  intro w29 st29
  clear st28
  rw [HSUB.out] at HRSub
  go_wp2_with (with_reducible refine wl_stop (o := ⟨some 147, _, _, _, _, _⟩) ?_)
  refine wl_loadS st29 0 rfl rfl rfl Try.underlying38 rfl (by first | (rw [cw_len]; kernel_rfl) | (simp only [List.length_append, cw_len]; kernel_rfl)) ?_
  go_wp2_with fail
  refine (told_ok aAdd 32 cAdd ((beN s.data.toList + beN t.data.toList) % m.M) _ (HRAdd.out.still st29.fr)).mono ?_
  rintro e' w30 ⟨rfl, hf30⟩
  have st30 := st29.keep hf30
  clear st29 hf30
  go_wp2_with (with_reducible refine wl_stop (o := ⟨some 152, _, _, _, _, _⟩) ?_)
  refine wl_loadS st30 1 rfl rfl rfl Try.underlying38 rfl (by first | (rw [cw_len]; kernel_rfl) | (simp only [List.length_append, cw_len]; kernel_rfl)) ?_
  go_wp2_with fail
  refine (told_ok aSub 32 cSub ((beN s.data.toList + (m.M - beN t.data.toList)) % m.M) _ (HRSub.out.still st30.fr)).mono ?_
  rintro e' w31 ⟨rfl, hf31⟩
  have st31 := st30.keep hf31
  clear st30 hf31
  go_wp2_with (with_reducible refine wl_stop (o := ⟨some 157, _, _, _, _, _⟩) ?_)
  refine wl_loadS st31 2 rfl rfl rfl Try.underlying38 rfl (by first | (rw [cw_len]; kernel_rfl) | (simp only [List.length_append, cw_len]; kernel_rfl)) ?_
  go_wp2_with fail
  refine (told_ok aMul 32 cMul (beN s.data.toList * beN t.data.toList % m.M) _ (HRMul.out.still st31.fr)).mono ?_
  rintro e' w32 ⟨rfl, hf32⟩
  have st32 := st31.keep hf32
  clear st31 hf32
  go_wp2_with (with_reducible refine wl_stop (o := ⟨some 162, _, _, _, _, _⟩) ?_)
  refine wl_loadS st32 3 rfl rfl rfl Try.underlying38 rfl (by first | (rw [cw_len]; kernel_rfl) | (simp only [List.length_append, cw_len]; kernel_rfl)) ?_
  go_wp2_with fail
  refine (told_ok aInv 32 cInv (beN s.data.toList ^ (m.M - 2) % m.M) _ (HRInv.out.still st32.fr)).mono ?_
  rintro e' w33 ⟨rfl, hf33⟩
  have st33 := st32.keep hf33
  clear st32 hf33
  have hfr := HF2.out.then (F6.out.then st33.fr)
  clear st33
  go_wp2_with fail
  go_ret
  exact ⟨rfl, hfr⟩

set_option maxHeartbeats 16000000 in
set_option maxRecDepth 1000000 in
theorem law_NumReckons (k : Int) (s t : ByteArray) (w : World) :
    Calls Try.prog 6 #[.int .i64 k, .string s, .string t] w fun e w' => e = .returned (.bool true) ∧ Fr Nob w w' := by
  by_cases hs : 16384 < s.size
  · have hI : (16384 : Int) < (s.size : Int) := by omega
    go_enter Try.func6, Try.ntmps6
    go_wp2
    go_ret
    exact ⟨rfl, Fr.refl _ _⟩
  by_cases ht : 16384 < t.size
  · have hI : ¬ ((16384 : Int) < (s.size : Int)) := by omega
    have hJ : (16384 : Int) < (t.size : Int) := by omega
    go_enter Try.func6, Try.ntmps6
    go_wp2
    go_ret
    exact ⟨rfl, Fr.refl _ _⟩
  rcases kind_cases k with ⟨m, hk⟩ | ⟨h0, h1⟩
  · cases ha : numB m s.data.toList <;> cases hb : numB m t.data.toList
    · exact law_NumReckons_ff k m hk s t w (by omega) (by omega) ha hb
    · exact law_NumReckons_ft k m hk s t w (by omega) (by omega) ha hb
    · exact law_NumReckons_tf k m hk s t w (by omega) (by omega) ha hb
    · exact law_NumReckons_tt k m hk s t w (by omega) (by omega) ha hb
  · exact law_NumReckons_x k s t w (by omega) (by omega) h0 h1
end Go.Proofs.Ytmegaegedlbckaa

/- num.Sqrt: what it answers. -/
namespace Go.Proofs.Ytmegaegedlbckaa
open Go.RowKit Go.Mv Mvp
theorem MSqrt_ok (m : Md) (gp : Nat) (w : World) (hok : m.Ok) (hpm : Has w gp (mdL m) 68) (x : Nat) (hr : rtOk m.M x = true) :
    Calls Try.prog 60 #[.pointer (some ⟨gp, 0, none⟩), i4 (elN m x)] w fun e w' => e = .returned (.tuple #[i4 (elN m (rtV m.M x)), .bool true]) ∧ Fr Nob w w' := by
  unfold rtOk at hr
  unfold rtV
  unfold rtN at *
  generalize hn : m.M / 4 + 1 = n at *
  by_cases hb : x ^ n % m.M % 2 = 1
  · rw [if_pos hb]; exact MSqrt_odd m gp w hok hpm x n hn hr hb
  · rw [if_neg hb]; exact MSqrt_even m gp w hok hpm x n hn hr (by omega)
theorem MSqrt_no (m : Md) (gp : Nat) (w : World) (hok : m.Ok) (hpm : Has w gp (mdL m) 68) (x : Nat) (hr : rtOk m.M x = false) :
    Calls Try.prog 60 #[.pointer (some ⟨gp, 0, none⟩), i4 (elN m x)] w fun e w' => e = .returned (.tuple #[i4 0, .bool false]) ∧ Fr Nob w w' := by
  unfold rtOk at hr
  unfold rtN at *
  exact MSqrt_none m gp w hok hpm x _ rfl hr
attribute [local irreducible] limbs lw mix cw cSub cAdd cMul foldC valFrom beN laid be32 powm montT mstep elN mdL elCells numsB numB rtN rtOk rtV

set_option maxHeartbeats 8000000 in
set_option maxRecDepth 1000000 in
theorem sqrt1_ok (m : Md) (gp : Nat) (w : World) (hok : m.Ok) (hpm : Has w gp (mdL m) 68) (ae : Option Addr) (ce : Nat) (la : List UInt8) (hre : Rd w ae (1 * 4) (elCells m [la])) (hr : rtOk m.M (beN la) = true) :
    Calls Try.prog 59 #[.pointer (some ⟨gp, 0, none⟩), .slice ae 1 ce] w fun e w' => e = .returned (.tuple #[i4 (elN m (rtV m.M (beN la))), .bool true]) ∧ Fr Nob w w' := by
  obtain ⟨b, o, rfl, -⟩ := hre.at (by omega)
  have HOK := Lib.hid hok
  have HPM := Lib.hid hpm
  have HRE := Lib.hid hre
  have HR := Lib.hid hr
  clear hok hpm hre hr
  have st0 := St.start Nob w
  go_enter Try.func59, Try.ntmps59
  go_wp2_with (with_reducible refine wl_stop (o := ⟨some 4, _, _, _, _, _⟩) ?_)
  refine wl_allocS st0 rfl rfl (z := .agg #[.int .u64 0, .int .u64 0, .int .u64 0, .int .u64 0]) (by kernel_rfl) (cw 4 0) (by rw [cw_zero]; rfl) ?_
  intro g4 w1 st1
  clear st0
  go_wp2_with (with_reducible refine wl_stop (o := ⟨some 9, _, _, _, _, _⟩) ?_)
  refine wl_loadR rfl rfl Try.underlying81 rfl rfl (rd_at (HRE.out.still st1.fr) 0 (cw 4 (elN m (beN la))) (el_first m la [])) (by first | (rw [cw_len]; kernel_rfl) | (simp only [List.length_append, cw_len]; kernel_rfl)) ?_
  go_wp2_with fail
  refine (MSqrt_ok m gp _ HOK.out (HPM.out.keep st1.fr id) (beN la) HR.out).mono ?_
  rintro e' w2 ⟨rfl, hf2⟩
  have st2 := st1.keep hf2
  clear st1 hf2
  go_wp2_with (with_reducible refine wl_stop (o := ⟨none, _, _, _, _, _⟩) ?_)
  refine wl_storeS st2 0 rfl rfl rfl rfl rfl (by first | (simp only [cw_len]; done) | (simp only [List.length_append, cw_len]; done)) (by first | (rw [cw_len]; kernel_rfl) | (simp only [List.length_append, cw_len]; kernel_rfl)) (cw_one _ _) ?_
  intro w3 st3
  clear st2
  have hr := st3.at 0 rfl
  have hfr := st3.fr
  clear st3
  go_wp2_with fail
  exact bodyPost_ret (results_arr2 rfl rfl hr Try.underlying81 (by first | (rw [cw_len]; kernel_rfl) | (simp only [List.length_append, cw_len]; kernel_rfl)) rfl) rfl ⟨rfl, hfr⟩

set_option maxHeartbeats 8000000 in
set_option maxRecDepth 1000000 in
theorem sqrt1_no (m : Md) (gp : Nat) (w : World) (hok : m.Ok) (hpm : Has w gp (mdL m) 68) (ae : Option Addr) (ce : Nat) (la : List UInt8) (hre : Rd w ae (1 * 4) (elCells m [la])) (hr : rtOk m.M (beN la) = false) :
    Calls Try.prog 59 #[.pointer (some ⟨gp, 0, none⟩), .slice ae 1 ce] w fun e w' => e = .returned (.tuple #[i4 (0), .bool false]) ∧ Fr Nob w w' := by
  obtain ⟨b, o, rfl, -⟩ := hre.at (by omega)
  have HOK := Lib.hid hok
  have HPM := Lib.hid hpm
  have HRE := Lib.hid hre
  have HR := Lib.hid hr
  clear hok hpm hre hr
  have st0 := St.start Nob w
  go_enter Try.func59, Try.ntmps59
  go_wp2_with (with_reducible refine wl_stop (o := ⟨some 4, _, _, _, _, _⟩) ?_)
  refine wl_allocS st0 rfl rfl (z := .agg #[.int .u64 0, .int .u64 0, .int .u64 0, .int .u64 0]) (by kernel_rfl) (cw 4 0) (by rw [cw_zero]; rfl) ?_
  intro g4 w1 st1
  clear st0
  go_wp2_with (with_reducible refine wl_stop (o := ⟨some 9, _, _, _, _, _⟩) ?_)
  refine wl_loadR rfl rfl Try.underlying81 rfl rfl (rd_at (HRE.out.still st1.fr) 0 (cw 4 (elN m (beN la))) (el_first m la [])) (by first | (rw [cw_len]; kernel_rfl) | (simp only [List.length_append, cw_len]; kernel_rfl)) ?_
  go_wp2_with fail
  refine (MSqrt_no m gp _ HOK.out (HPM.out.keep st1.fr id) (beN la) HR.out).mono ?_
  rintro e' w2 ⟨rfl, hf2⟩
  have st2 := st1.keep hf2
  clear st1 hf2
  go_wp2_with (with_reducible refine wl_stop (o := ⟨none, _, _, _, _, _⟩) ?_)
  refine wl_storeS st2 0 rfl rfl rfl rfl rfl (by first | (simp only [cw_len]; done) | (simp only [List.length_append, cw_len]; done)) (by first | (rw [cw_len]; kernel_rfl) | (simp only [List.length_append, cw_len]; kernel_rfl)) (cw_one _ _) ?_
  intro w3 st3
  clear st2
  have hr := st3.at 0 rfl
  have hfr := st3.fr
  clear st3
  go_wp2_with fail
  exact bodyPost_ret (results_arr2 rfl rfl hr Try.underlying81 (by first | (rw [cw_len]; kernel_rfl) | (simp only [List.length_append, cw_len]; kernel_rfl)) rfl) rfl ⟨rfl, hfr⟩

set_option maxHeartbeats 8000000 in
set_option maxRecDepth 1000000 in
theorem NSqrt_ok (m : Md) (hk : KindOf 0 m) (va : Value) (la : List UInt8) (w : World) (hpa : BPart w va la) (hg : numsB m [la] = true) (hr : rtOk m.M (beN la) = true) :
    Calls Try.prog 34 #[.int .i64 0, va] w fun e w' => ∃ v, e = .returned (.tuple #[v, .int .i64 0]) ∧ Own w' w.heap.size 5 1 v 32 (bs (be32 (rtV m.M (beN la) % m.M))) ∧ Fr Nob w w' := by
  have HA1 := Lib.hid (BPart.one hpa)
  have HK := Lib.hid hk
  have HP := Lib.hid (BParts.one hpa)
  have HG := Lib.hid hg
  have HR := Lib.hid hr
  clear hk hpa hg hr
  go_enter Try.func34, Try.ntmps34
  go_wp2_with (with_reducible refine wl_stop (o := ⟨some 10, _, _, _, _, _⟩) ?_)
  unfold Stop
  refine wl_slit (vs := [va]) (hgd := rfl) (ho := rfl) (hu := Try.underlying47) (hi0 := info_bsl) (hp := by rfl) (hv := fun v hv => by simp at hv; subst hv; exact HA1.out) (hk := by rfl) (hz := by rfl) (h := ?_)
  intro w2 hg2 hf2 hz2
  clear hz2
  have hbz : w.heap.size ≤ w.heap.size := Nat.le_refl _
  generalize hgl : w.heap.size = gl at *
  have HGL := Lib.hid hgl
  have HF2 := Lib.hid hf2
  have HRD := Lib.hid (show Rd w2 (some ⟨gl, 0, none⟩) 1 [va] from Rd.whole hg2)
  clear hg2 hf2 hgl hbz
  go_wp2_with fail
  refine (reckon_sqrt_ok 0 m HK.out _ 1 1 [va] [la] _ HRD.out (HP.out.still HF2.out) (by decide) HG.out (rtV m.M (beN la)) (fun gp ae ce wx hfx hmx hrx => sqrt1_ok m gp wx HK.out.ok hmx ae ce la hrx HR.out)).mono ?_
  rintro e w3 ⟨v, rfl, hown, hf3⟩
  have h3 := HF2.out.then hf3
  have hsz := HF2.out.size
  rw [HGL.out] at hsz
  have ho := hown.mono hsz
  clear hown hf3 HF2 hsz
  go_wp2_with fail
  go_ret2
  exact ⟨v, rfl, by rw [HGL.out]; exact ho, h3⟩
set_option maxHeartbeats 8000000 in
set_option maxRecDepth 1000000 in
theorem NSqrt_none (m : Md) (hk : KindOf 0 m) (va : Value) (la : List UInt8) (w : World) (hpa : BPart w va la) (hg : numsB m [la] = true) (hr : rtOk m.M (beN la) = false) :
    Calls Try.prog 34 #[.int .i64 0, va] w fun e w' => e = .returned (.tuple #[.slice none 0 0, .int .i64 6]) ∧ Fr Nob w w' := by
  have HA1 := Lib.hid (BPart.one hpa)
  have HK := Lib.hid hk
  have HP := Lib.hid (BParts.one hpa)
  have HG := Lib.hid hg
  have HR := Lib.hid hr
  clear hk hpa hg hr
  go_enter Try.func34, Try.ntmps34
  go_wp2_with (with_reducible refine wl_stop (o := ⟨some 10, _, _, _, _, _⟩) ?_)
  unfold Stop
  refine wl_slit (vs := [va]) (hgd := rfl) (ho := rfl) (hu := Try.underlying47) (hi0 := info_bsl) (hp := by rfl) (hv := fun v hv => by simp at hv; subst hv; exact HA1.out) (hk := by rfl) (hz := by rfl) (h := ?_)
  intro w2 hg2 hf2 hz2
  clear hz2
  have hbz : w.heap.size ≤ w.heap.size := Nat.le_refl _
  generalize hgl : w.heap.size = gl at *
  have HGL := Lib.hid hgl
  have HF2 := Lib.hid hf2
  have HRD := Lib.hid (show Rd w2 (some ⟨gl, 0, none⟩) 1 [va] from Rd.whole hg2)
  clear hg2 hf2 hgl hbz
  go_wp2_with fail
  refine (reckon_sqrt_none 0 m HK.out _ 1 1 [va] [la] _ HRD.out (HP.out.still HF2.out) (by decide) HG.out (fun gp ae ce wx hfx hmx hrx => sqrt1_no m gp wx HK.out.ok hmx ae ce la hrx HR.out)).mono ?_
  rintro e w3 ⟨rfl, hf3⟩
  have h3 := HF2.out.then hf3
  clear hf3 HF2
  go_wp2_with fail
  go_ret2
  exact ⟨rfl, h3⟩
set_option maxHeartbeats 8000000 in
set_option maxRecDepth 1000000 in
theorem NSqrt_bad (m : Md) (hk : KindOf 0 m) (va : Value) (la : List UInt8) (w : World) (hpa : BPart w va la) (hg : numsB m [la] = false) :
    Calls Try.prog 34 #[.int .i64 0, va] w fun e w' => e = .returned (.tuple #[.slice none 0 0, .int .i64 3]) ∧ Fr Nob w w' := by
  have HA1 := Lib.hid (BPart.one hpa)
  have HK := Lib.hid hk
  have HP := Lib.hid (BParts.one hpa)
  have HG := Lib.hid hg
  clear hk hpa hg
  go_enter Try.func34, Try.ntmps34
  go_wp2_with (with_reducible refine wl_stop (o := ⟨some 10, _, _, _, _, _⟩) ?_)
  unfold Stop
  refine wl_slit (vs := [va]) (hgd := rfl) (ho := rfl) (hu := Try.underlying47) (hi0 := info_bsl) (hp := by rfl) (hv := fun v hv => by simp at hv; subst hv; exact HA1.out) (hk := by rfl) (hz := by rfl) (h := ?_)
  intro w2 hg2 hf2 hz2
  clear hz2
  have hbz : w.heap.size ≤ w.heap.size := Nat.le_refl _
  generalize hgl : w.heap.size = gl at *
  have HGL := Lib.hid hgl
  have HF2 := Lib.hid hf2
  have HRD := Lib.hid (show Rd w2 (some ⟨gl, 0, none⟩) 1 [va] from Rd.whole hg2)
  clear hg2 hf2 hgl hbz
  go_wp2_with fail
  refine (reckon_sqrt_bad 0 m HK.out _ 1 1 [va] [la] _ HRD.out (HP.out.still HF2.out) (by decide) HG.out).mono ?_
  rintro e w3 ⟨rfl, hf3⟩
  have h3 := HF2.out.then hf3
  clear hf3 HF2
  go_wp2_with fail
  go_ret2
  exact ⟨rfl, h3⟩
set_option maxHeartbeats 8000000 in
set_option maxRecDepth 1000000 in
theorem NSqrt_x (k : Int) (va : Value) (w : World) (h0 : (k == 0) = false) :
    Calls Try.prog 34 #[.int .i64 k, va] w fun e w' => e = .returned (.tuple #[.slice none 0 0, .int .i64 2]) ∧ Fr Nob w w' := by
  have h1 : (k != 0) = true := by simp only [bne, h0]; rfl
  have hfr := Fr.refl Nob w
  go_enter Try.func34, Try.ntmps34
  go_wp2_with fail
  go_ret2
  exact ⟨rfl, hfr⟩
end Go.Proofs.Ytmegaegedlbckaa
