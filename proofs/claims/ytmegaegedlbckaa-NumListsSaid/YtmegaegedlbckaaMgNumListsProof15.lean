/- The law's powers; The law's dot: the first loop. -/
import Derived.Test.YtmegaegedlbckaaMgNumListsProof13
import Derived.Test.YtmegaegedlbckaaMgNumListsProof14
import Derived.Test.YtmegaegedlbckaaMgNumListsProof12
namespace Mvp
theorem powsL_get (M x n i : Nat) (h : i < n) : (powsL M x n).getD i [] = be32 (x ^ i % M) := by
  induction n with
  | zero => omega
  | succ n ih =>
    rw [← powsL_succ]
    have hl := powsL_len M x n
    by_cases hi : i < n
    · rw [List.getD_eq_getElem?_getD, List.getElem?_append_left (by omega), ← List.getD_eq_getElem?_getD]; exact ih hi
    · have : i = n := by omega
      subst this
      rw [List.getD_eq_getElem?_getD, List.getElem?_append_right (by omega), hl, Nat.sub_self]; rfl
end Mvp
namespace Go.Proofs.Ytmegaegedlbckaa
open Go.RowKit Go.Mv Mvp
theorem rd_cell {w : World} {b o n : Nat} {vs : List Value} (h : Rd w (some ⟨b, o, none⟩) n vs) (i : Nat) (v : Value) (hv : vs[i]? = some v) : w.cell? ⟨b, o + i, none⟩ = some v := by
  have h1 := rd_at h 0 vs (by simp)
  have h2 := h1 i v hv
  simpa using h2
attribute [local irreducible] limbs lw mix cw cSub cAdd cMul foldC valFrom beN laid be32 powm montT mstep elN mdL lentL numB numsB elCells powsL

set_option maxHeartbeats 8000000 in
set_option maxRecDepth 1000000 in
theorem lpow_neg_t (m : Md) (hok : m.Ok) (s : ByteArray) (n : Int) (w : World) (ha : numB m s.data.toList = true) (hn : n < 0) :
    Calls Try.prog 22 #[fv m.M, .string s, .int .i64 n, .slice none 0 0, .int .i64 1] w fun e w' => e = .returned (.bool true) ∧ Fr Nob w w' := by
  have HOK := Lib.hid hok
  have HA := Lib.hid ha
  clear hok ha
  have hn0 : n < 0 := hn
  have st0 := St.start Nob w
  go_enter Try.func22, Try.ntmps22
  go_wp2_with (with_reducible refine wl_stop (o := ⟨some 5, _, _, _, _, _⟩) ?_)
  refine wl_boxS st0 rfl rfl rfl (cw 4 m.M ++ cw 4 (B64 ^ 4 - m.M)) rfl ?_
  intro g5 w1 st1
  clear st0
  go_wp2_with (with_reducible refine wl_stop (o := ⟨some 16, _, _, _, _, _⟩) ?_)
  refine wl_loadSt st1 0 rfl rfl rfl Try.underlying40 rfl rfl (by first | (rw [cw_len]; kernel_rfl) | (simp only [List.length_append, cw_len]; kernel_rfl)) ?_
  go_wp2_with fail
  refine (Number_t m HOK.out.lt s _ HA.out).mono ?_
  rintro e' w2 ⟨rfl, hf2⟩
  have st2 := st1.keep hf2
  clear st1 hf2
  go_wp2_with (with_reducible refine wl_stop (o := ⟨some 11, _, _, _, _, _⟩) ?_)
  refine wl_allocS st2 rfl rfl (z := .agg #[.int .u64 0, .int .u64 0, .int .u64 0, .int .u64 0]) (by kernel_rfl) (cw 4 0) (by rw [cw_zero]; rfl) ?_
  intro g11 w3 st3
  clear st2
  go_wp2_with (with_reducible refine wl_stop (o := ⟨none, _, _, _, _, _⟩) ?_)
  refine wl_storeS st3 1 rfl rfl rfl rfl rfl (by first | (simp only [cw_len]; done) | (simp only [List.length_append, cw_len]; done)) (by first | (rw [cw_len]; kernel_rfl) | (simp only [List.length_append, cw_len]; kernel_rfl)) (cw_one _ _) ?_
  intro w4 st4
  clear st3
  have hfr := st4.fr
  clear st4
  go_wp2_with fail
  go_ret
  exact ⟨rfl, hfr⟩

set_option maxHeartbeats 8000000 in
set_option maxRecDepth 1000000 in
theorem lpow_long_t (m : Md) (hok : m.Ok) (s : ByteArray) (n : Int) (w : World) (ha : numB m s.data.toList = true) (hn : 256 < n) :
    Calls Try.prog 22 #[fv m.M, .string s, .int .i64 n, .slice none 0 0, .int .i64 1] w fun e w' => e = .returned (.bool true) ∧ Fr Nob w w' := by
  have HOK := Lib.hid hok
  have HA := Lib.hid ha
  clear hok ha
  have hn0 : ¬ (n < 0) := by omega
  have hn1 : 256 < n := hn
  have st0 := St.start Nob w
  go_enter Try.func22, Try.ntmps22
  go_wp2_with (with_reducible refine wl_stop (o := ⟨some 5, _, _, _, _, _⟩) ?_)
  refine wl_boxS st0 rfl rfl rfl (cw 4 m.M ++ cw 4 (B64 ^ 4 - m.M)) rfl ?_
  intro g5 w1 st1
  clear st0
  go_wp2_with (with_reducible refine wl_stop (o := ⟨some 16, _, _, _, _, _⟩) ?_)
  refine wl_loadSt st1 0 rfl rfl rfl Try.underlying40 rfl rfl (by first | (rw [cw_len]; kernel_rfl) | (simp only [List.length_append, cw_len]; kernel_rfl)) ?_
  go_wp2_with fail
  refine (Number_t m HOK.out.lt s _ HA.out).mono ?_
  rintro e' w2 ⟨rfl, hf2⟩
  have st2 := st1.keep hf2
  clear st1 hf2
  go_wp2_with (with_reducible refine wl_stop (o := ⟨some 11, _, _, _, _, _⟩) ?_)
  refine wl_allocS st2 rfl rfl (z := .agg #[.int .u64 0, .int .u64 0, .int .u64 0, .int .u64 0]) (by kernel_rfl) (cw 4 0) (by rw [cw_zero]; rfl) ?_
  intro g11 w3 st3
  clear st2
  go_wp2_with (with_reducible refine wl_stop (o := ⟨none, _, _, _, _, _⟩) ?_)
  refine wl_storeS st3 1 rfl rfl rfl rfl rfl (by first | (simp only [cw_len]; done) | (simp only [List.length_append, cw_len]; done)) (by first | (rw [cw_len]; kernel_rfl) | (simp only [List.length_append, cw_len]; kernel_rfl)) (cw_one _ _) ?_
  intro w4 st4
  clear st3
  have hfr := st4.fr
  clear st4
  go_wp2_with fail
  go_ret
  exact ⟨rfl, hfr⟩

set_option maxHeartbeats 8000000 in
set_option maxRecDepth 1000000 in
theorem lpow_neg_f (m : Md) (hok : m.Ok) (s : ByteArray) (n : Int) (w : World) (ha : numB m s.data.toList = false) (hn : n < 0) :
    Calls Try.prog 22 #[fv m.M, .string s, .int .i64 n, .slice none 0 0, .int .i64 1] w fun e w' => e = .returned (.bool true) ∧ Fr Nob w w' := by
  have HOK := Lib.hid hok
  have HA := Lib.hid ha
  clear hok ha
  have hn0 : n < 0 := hn
  have st0 := St.start Nob w
  go_enter Try.func22, Try.ntmps22
  go_wp2_with (with_reducible refine wl_stop (o := ⟨some 5, _, _, _, _, _⟩) ?_)
  refine wl_boxS st0 rfl rfl rfl (cw 4 m.M ++ cw 4 (B64 ^ 4 - m.M)) rfl ?_
  intro g5 w1 st1
  clear st0
  go_wp2_with (with_reducible refine wl_stop (o := ⟨some 16, _, _, _, _, _⟩) ?_)
  refine wl_loadSt st1 0 rfl rfl rfl Try.underlying40 rfl rfl (by first | (rw [cw_len]; kernel_rfl) | (simp only [List.length_append, cw_len]; kernel_rfl)) ?_
  go_wp2_with fail
  refine (Number_f m HOK.out.lt s _ HA.out).mono ?_
  rintro e' w2 ⟨NA, rfl, hf2⟩
  have st2 := st1.keep hf2
  clear st1 hf2
  go_wp2_with (with_reducible refine wl_stop (o := ⟨some 11, _, _, _, _, _⟩) ?_)
  refine wl_allocS st2 rfl rfl (z := .agg #[.int .u64 0, .int .u64 0, .int .u64 0, .int .u64 0]) (by kernel_rfl) (cw 4 0) (by rw [cw_zero]; rfl) ?_
  intro g11 w3 st3
  clear st2
  go_wp2_with (with_reducible refine wl_stop (o := ⟨none, _, _, _, _, _⟩) ?_)
  refine wl_storeS st3 1 rfl rfl rfl rfl rfl (by first | (simp only [cw_len]; done) | (simp only [List.length_append, cw_len]; done)) (by first | (rw [cw_len]; kernel_rfl) | (simp only [List.length_append, cw_len]; kernel_rfl)) (cw_one _ _) ?_
  intro w4 st4
  clear st3
  have hfr := st4.fr
  clear st4
  go_wp2_with fail
  go_ret
  exact ⟨rfl, hfr⟩

set_option maxHeartbeats 8000000 in
set_option maxRecDepth 1000000 in
theorem lpow_long_f (m : Md) (hok : m.Ok) (s : ByteArray) (n : Int) (w : World) (ha : numB m s.data.toList = false) (hn : 256 < n) :
    Calls Try.prog 22 #[fv m.M, .string s, .int .i64 n, .slice none 0 0, .int .i64 1] w fun e w' => e = .returned (.bool true) ∧ Fr Nob w w' := by
  have HOK := Lib.hid hok
  have HA := Lib.hid ha
  clear hok ha
  have hn0 : ¬ (n < 0) := by omega
  have hn1 : 256 < n := hn
  have st0 := St.start Nob w
  go_enter Try.func22, Try.ntmps22
  go_wp2_with (with_reducible refine wl_stop (o := ⟨some 5, _, _, _, _, _⟩) ?_)
  refine wl_boxS st0 rfl rfl rfl (cw 4 m.M ++ cw 4 (B64 ^ 4 - m.M)) rfl ?_
  intro g5 w1 st1
  clear st0
  go_wp2_with (with_reducible refine wl_stop (o := ⟨some 16, _, _, _, _, _⟩) ?_)
  refine wl_loadSt st1 0 rfl rfl rfl Try.underlying40 rfl rfl (by first | (rw [cw_len]; kernel_rfl) | (simp only [List.length_append, cw_len]; kernel_rfl)) ?_
  go_wp2_with fail
  refine (Number_f m HOK.out.lt s _ HA.out).mono ?_
  rintro e' w2 ⟨NA, rfl, hf2⟩
  have st2 := st1.keep hf2
  clear st1 hf2
  go_wp2_with (with_reducible refine wl_stop (o := ⟨some 11, _, _, _, _, _⟩) ?_)
  refine wl_allocS st2 rfl rfl (z := .agg #[.int .u64 0, .int .u64 0, .int .u64 0, .int .u64 0]) (by kernel_rfl) (cw 4 0) (by rw [cw_zero]; rfl) ?_
  intro g11 w3 st3
  clear st2
  go_wp2_with (with_reducible refine wl_stop (o := ⟨none, _, _, _, _, _⟩) ?_)
  refine wl_storeS st3 1 rfl rfl rfl rfl rfl (by first | (simp only [cw_len]; done) | (simp only [List.length_append, cw_len]; done)) (by first | (rw [cw_len]; kernel_rfl) | (simp only [List.length_append, cw_len]; kernel_rfl)) (cw_one _ _) ?_
  intro w4 st4
  clear st3
  have hfr := st4.fr
  clear st4
  go_wp2_with fail
  go_ret
  exact ⟨rfl, hfr⟩

set_option maxHeartbeats 8000000 in
set_option maxRecDepth 1000000 in
theorem lpow_bad (m : Md) (hok : m.Ok) (s : ByteArray) (n : Nat) (w : World) (ha : numB m s.data.toList = false) (hn : n ≤ 256) :
    Calls Try.prog 22 #[fv m.M, .string s, .int .i64 (n : Int), .slice none 0 0, .int .i64 3] w fun e w' => e = .returned (.bool true) ∧ Fr Nob w w' := by
  have HOK := Lib.hid hok
  have HA := Lib.hid ha
  clear hok ha
  have hn0 : ¬ ((n : Int) < 0) := by omega
  have hn1 : ¬ ((256 : Int) < (n : Int)) := by omega
  have st0 := St.start Nob w
  go_enter Try.func22, Try.ntmps22
  go_wp2_with (with_reducible refine wl_stop (o := ⟨some 5, _, _, _, _, _⟩) ?_)
  refine wl_boxS st0 rfl rfl rfl (cw 4 m.M ++ cw 4 (B64 ^ 4 - m.M)) rfl ?_
  intro g5 w1 st1
  clear st0
  go_wp2_with (with_reducible refine wl_stop (o := ⟨some 16, _, _, _, _, _⟩) ?_)
  refine wl_loadSt st1 0 rfl rfl rfl Try.underlying40 rfl rfl (by first | (rw [cw_len]; kernel_rfl) | (simp only [List.length_append, cw_len]; kernel_rfl)) ?_
  go_wp2_with fail
  refine (Number_f m HOK.out.lt s _ HA.out).mono ?_
  rintro e' w2 ⟨NA, rfl, hf2⟩
  have st2 := st1.keep hf2
  clear st1 hf2
  go_wp2_with (with_reducible refine wl_stop (o := ⟨some 11, _, _, _, _, _⟩) ?_)
  refine wl_allocS st2 rfl rfl (z := .agg #[.int .u64 0, .int .u64 0, .int .u64 0, .int .u64 0]) (by kernel_rfl) (cw 4 0) (by rw [cw_zero]; rfl) ?_
  intro g11 w3 st3
  clear st2
  go_wp2_with (with_reducible refine wl_stop (o := ⟨none, _, _, _, _, _⟩) ?_)
  refine wl_storeS st3 1 rfl rfl rfl rfl rfl (by first | (simp only [cw_len]; done) | (simp only [List.length_append, cw_len]; done)) (by first | (rw [cw_len]; kernel_rfl) | (simp only [List.length_append, cw_len]; kernel_rfl)) (cw_one _ _) ?_
  intro w4 st4
  clear st3
  have hfr := st4.fr
  clear st4
  go_wp2_with fail
  go_ret
  exact ⟨rfl, hfr⟩

set_option maxHeartbeats 8000000 in
set_option maxRecDepth 1000000 in
theorem lpow_ok (m : Md) (hok : m.Ok) (s : ByteArray) (n : Nat) (w : World) (ha : numB m s.data.toList = true) (hn : n ≤ 256) (av : Option Addr) (cv : Nat) (vs : List Value) (hv : Rd w av n vs) (hps : BParts w vs (powsL m.M (beN s.data.toList) n)) :
    Calls Try.prog 22 #[fv m.M, .string s, .int .i64 (n : Int), .slice av n cv, .int .i64 0] w fun e w' => e = .returned (.bool true) ∧ Fr Nob w w' := by
  have HOK := Lib.hid hok
  have HV := Lib.hid hv
  have HPS := Lib.hid hps
  have HX := Lib.hid (Nat.lt_trans (numB_lt m _ ha) hok.lt)
  have HM0 := Lib.hid (show 0 < m.M by have := hok.one; omega)
  have H1 := Lib.hid (show (1 : Nat) = beN s.data.toList ^ 0 % m.M by rw [Nat.pow_zero, Nat.mod_eq_of_lt hok.one])
  clear hv hps
  have HA := Lib.hid ha
  clear hok ha
  have hn0 : ¬ ((n : Int) < 0) := by omega
  have hn1 : ¬ ((256 : Int) < (n : Int)) := by omega
  have st0 := St.start Nob w
  go_enter Try.func22, Try.ntmps22
  go_wp2_with (with_reducible refine wl_stop (o := ⟨some 5, _, _, _, _, _⟩) ?_)
  refine wl_boxS st0 rfl rfl rfl (cw 4 m.M ++ cw 4 (B64 ^ 4 - m.M)) rfl ?_
  intro g5 w1 st1
  clear st0
  go_wp2_with (with_reducible refine wl_stop (o := ⟨some 16, _, _, _, _, _⟩) ?_)
  refine wl_loadSt st1 0 rfl rfl rfl Try.underlying40 rfl rfl (by first | (rw [cw_len]; kernel_rfl) | (simp only [List.length_append, cw_len]; kernel_rfl)) ?_
  go_wp2_with fail
  refine (Number_t m HOK.out.lt s _ HA.out).mono ?_
  rintro e' w2 ⟨rfl, hf2⟩
  have st2 := st1.keep hf2
  clear st1 hf2
  go_wp2_with (with_reducible refine wl_stop (o := ⟨some 11, _, _, _, _, _⟩) ?_)
  refine wl_allocS st2 rfl rfl (z := .agg #[.int .u64 0, .int .u64 0, .int .u64 0, .int .u64 0]) (by kernel_rfl) (cw 4 0) (by rw [cw_zero]; rfl) ?_
  intro g11 w3 st3
  clear st2
  go_wp2_with (with_reducible refine wl_stop (o := ⟨none, _, _, _, _, _⟩) ?_)
  refine wl_storeS st3 1 rfl rfl rfl rfl rfl (by first | (simp only [cw_len]; done) | (simp only [List.length_append, cw_len]; done)) (by first | (rw [cw_len]; kernel_rfl) | (simp only [List.length_append, cw_len]; kernel_rfl)) (cw_one _ _) ?_
  intro w4 st4
  clear st3
  go_wp2_with fail
  refine (Small_any 1 _ (by decide)).mono ?_
  rintro e' w5 ⟨rfl, hf5⟩
  have st5 := st4.keep hf5
  clear st4 hf5
  go_wp2_with (with_reducible refine wl_stop (o := ⟨some 13, _, _, _, _, _⟩) ?_)
  refine wl_allocS st5 rfl rfl (z := .agg #[.int .u64 0, .int .u64 0, .int .u64 0, .int .u64 0]) (by kernel_rfl) (cw 4 0) (by rw [cw_zero]; rfl) ?_
  intro g13 w6 st6
  clear st5
  go_wp2_with (with_reducible refine wl_stop (o := ⟨none, _, _, _, _, _⟩) ?_)
  refine wl_storeS st6 2 rfl rfl rfl rfl rfl (by first | (simp only [cw_len]; done) | (simp only [List.length_append, cw_len]; done)) (by first | (rw [cw_len]; kernel_rfl) | (simp only [List.length_append, cw_len]; kernel_rfl)) (cw_one _ _) ?_
  intro w7 st7
  clear st6
  have st7 : St Nob w w7 [(g5, cw 4 m.M ++ cw 4 (B64 ^ 4 - m.M), 40), (g11, cw 4 (beN s.data.toList), 38), (g13, cw 4 1, 38)] := st7
  rw [show (1 : Nat) = beN s.data.toList ^ 0 % m.M from H1.out] at st7
  go_wp2
  go_loopw [14] (fun z wr => ∃ i : Nat, i ≤ n ∧ z = .int .i64 (i : Int) ∧ St Nob w wr [(g5, cw 4 m.M ++ cw 4 (B64 ^ 4 - m.M), 40), (g11, cw 4 (beN s.data.toList), 38), (g13, cw 4 (beN s.data.toList ^ i % m.M), 38)]) (fun z _ => n - (intOf z).toNat)
  case atStart => exact ⟨0, by omega, rfl, st7⟩
  case round =>
    obtain ⟨i, hi, rfl, st⟩ := hrel
    clear st7
    by_cases hlt : i < n
    · have hltI : (i : Int) < (n : Int) := by omega
      obtain ⟨b, o, hab, -⟩ := HV.out.at (by omega)
      subst hab
      obtain ⟨v, hv⟩ : ∃ v, vs[i]? = some v := ⟨_, List.getElem?_eq_getElem (by have := HV.out.len; omega)⟩
      obtain ⟨a', n', c', rfl, hc', hr'⟩ := HPS.out.2 i v hv
      rw [powsL_get _ _ _ _ hlt] at hr'
      have hl' := hr'.len
      rw [be32_len] at hl'
      subst hl'
      have hnx : beN s.data.toList ^ i % m.M * beN s.data.toList % m.M = beN s.data.toList ^ (i + 1) % m.M := by rw [Nat.mod_mul_mod, ← Nat.pow_succ]
      have hplt : beN s.data.toList ^ i % m.M < B64 ^ 4 := Nat.lt_trans (Nat.mod_lt _ (by have := HOK.out.one; omega)) HOK.out.lt
      generalize beN s.data.toList ^ i % m.M = pw at *
      have HR := Lib.hid hr'
      have HVI := Lib.hid hv
      have HNX := Lib.hid hnx
      have HPW := Lib.hid hplt
      clear hr' hv hc' hnx hplt
      go_wp2_with fail
      refine wp_region_noPanic ?_
      refine wp_region_plan (fun wx => St Nob w wx [(g5, cw 4 m.M ++ cw 4 (B64 ^ 4 - m.M), 40), (g11, cw 4 (beN s.data.toList), 38), (g13, cw 4 pw, 38)]) 7 (.w 0 (.w 1 (.w 2 (.t 3 (.t 4 (.t 5 (.r 6 (.m 7 .nil)))))))) (by kernel_rfl) (by kernel_rfl) st.drew (fun _ _ _ _ _ h => h) ?_
      have hd7 := st.drew
      clear st
      refine plan_w (v := ?_) rfl rfl (fun wx => ?_) ?_
      rotate_left 1
      · (go_simp; with_reducible rfl)
      try simp only [Act.put, List.setIfInBounds_toArray, List.set_cons_zero, List.set_cons_succ]
      refine plan_w (v := ?_) rfl rfl (fun wx => ?_) ?_
      rotate_left 1
      · (go_simp; with_reducible rfl)
      try simp only [Act.put, List.setIfInBounds_toArray, List.set_cons_zero, List.set_cons_succ]
      refine plan_w (v := ?_) rfl rfl (fun wx => ?_) ?_
      rotate_left 1
      · (go_simp; with_reducible rfl)
      try simp only [Act.put, List.setIfInBounds_toArray, List.set_cons_zero, List.set_cons_succ]
      refine plan_t (v := ?_) rfl rfl (fun wx hS => ?_) ?_
      rotate_left 1
      · (have hcl := rd_cell (HV.out.still (St.fr hS)) i _ HVI.out; clear hS; go_simp; with_reducible rfl)
      try simp only [Act.put, List.setIfInBounds_toArray, List.set_cons_zero, List.set_cons_succ]
      refine plan_t (v := ?_) rfl rfl (fun wx hS => ?_) ?_
      rotate_left 1
      · (have hc := run_string (P := Try.prog) (HR.out.still (St.fr hS)) c' Try.underlying29 Try.underlying5 Try.underlying9; clear hS; go_simp; with_reducible rfl)
      try simp only [Act.put, List.setIfInBounds_toArray, List.set_cons_zero, List.set_cons_succ]
      refine plan_arr rfl rfl rfl rfl (cw 4 pw) (fun wx hS => St.rangeL hS 2 rfl 0 _ (by rw [List.drop_zero, List.take_of_length_le (Nat.le_refl _)])) Try.underlying38 rfl (by first | (rw [cw_len]; kernel_rfl) | (simp only [List.length_append, cw_len]; kernel_rfl)) ?_
      try simp only [Act.put, List.setIfInBounds_toArray, List.set_cons_zero, List.set_cons_succ]
      refine plan_r rfl rfl ?_
      go_simp
      refine (RBytes_any pw _).mono ?_
      rintro e' w8 ⟨rfl, hf8⟩
      have st8 := hd7.keep hf8
      clear hf8
      clear hd7
      refine ⟨st8, ?_⟩
      try simp only [Act.put, List.setIfInBounds_toArray, List.set_cons_zero, List.set_cons_succ]
      refine plan_m rfl rfl ?_
      go_simp
      try simp only [Act.put, List.setIfInBounds_toArray, List.set_cons_zero, List.set_cons_succ]
      refine plan_end ?_
      refine NoPanic.normal ?_
      go_wp2_with (with_reducible refine wl_stop (o := ⟨some 67, _, _, _, _, _⟩) ?_)
      refine wl_loadSt st8 0 rfl rfl rfl Try.underlying40 rfl rfl (by first | (rw [cw_len]; kernel_rfl) | (simp only [List.length_append, cw_len]; kernel_rfl)) ?_
      go_wp2_with (with_reducible refine wl_stop (o := ⟨some 68, _, _, _, _, _⟩) ?_)
      refine wl_loadS st8 2 rfl rfl rfl Try.underlying38 rfl (by first | (rw [cw_len]; kernel_rfl) | (simp only [List.length_append, cw_len]; kernel_rfl)) ?_
      go_wp2_with (with_reducible refine wl_stop (o := ⟨some 69, _, _, _, _, _⟩) ?_)
      refine wl_loadS st8 1 rfl rfl rfl Try.underlying38 rfl (by first | (rw [cw_len]; kernel_rfl) | (simp only [List.length_append, cw_len]; kernel_rfl)) ?_
      go_wp2_with fail
      refine (Mul_any m.M pw (beN s.data.toList) _ HM0.out HOK.out.lt HPW.out HX.out).mono ?_
      rintro e' w9 ⟨rfl, hf9⟩
      have st9 := st8.keep hf9
      clear st8 hf9
      go_wp2_with (with_reducible refine wl_stop (o := ⟨none, _, _, _, _, _⟩) ?_)
      refine wl_storeS st9 2 rfl rfl rfl rfl rfl (by first | (simp only [cw_len]; done) | (simp only [List.length_append, cw_len]; done)) (by first | (rw [cw_len]; kernel_rfl) | (simp only [List.length_append, cw_len]; kernel_rfl)) (cw_one _ _) ?_
      intro w10 st10
      clear st9
      go_wp2
      go_roundw
      case rel => exact ⟨i + 1, by omega, by go_num, by rw [← HNX.out]; exact st10⟩
      case measure => simp [intOf]; omega
    · have hge : ¬ ((i : Int) < (n : Int)) := by omega
      have hfr := st.fr
      clear st
      go_wp2_with fail
      go_ret
      exact ⟨rfl, hfr⟩
end Go.Proofs.Ytmegaegedlbckaa

/- The law's dot: the first loop. -/
namespace Mvp
theorem numsB_get (m : Md) (ls : List (List UInt8)) (h : numsB m ls = true) (i : Nat) (hi : i < ls.length) : numB m (ls.getD i []) = true := by
  unfold numsB at h
  rw [List.all_eq_true] at h
  have e : ls.getD i [] = ls[i] := by rw [List.getD_eq_getElem?_getD, List.getElem?_eq_getElem hi]; rfl
  rw [e]
  exact h _ (List.getElem_mem hi)
theorem numsB_all (m : Md) (ls : List (List UInt8)) (h : ∀ i, i < ls.length → numB m (ls.getD i []) = true) : numsB m ls = true := by
  unfold numsB
  rw [List.all_eq_true]
  intro l hl
  obtain ⟨i, hi, rfl⟩ := List.getElem_of_mem hl
  have := h i hi
  rwa [List.getD_eq_getElem?_getD, List.getElem?_eq_getElem hi] at this
theorem numsB_append (m : Md) (la lb : List (List UInt8)) : numsB m (la ++ lb) = (numsB m la && numsB m lb) := by
  unfold numsB
  rw [List.all_append]
theorem getD_left (la lb : List (List UInt8)) (i : Nat) (h : i < la.length) : (la ++ lb).getD i [] = la.getD i [] := by
  rw [List.getD_eq_getElem?_getD, List.getElem?_append_left h, ← List.getD_eq_getElem?_getD]
theorem getD_right (la lb : List (List UInt8)) (i : Nat) (h : la.length ≤ i) : (la ++ lb).getD i [] = lb.getD (i - la.length) [] := by
  rw [List.getD_eq_getElem?_getD, List.getElem?_append_right h, ← List.getD_eq_getElem?_getD]
end Mvp
namespace Go.Proofs.Ytmegaegedlbckaa
open Go.RowKit Go.Mv Mvp
attribute [local irreducible] limbs lw mix cw cSub cAdd cMul foldC valFrom beN laid be32 powm montT mstep elN mdL lentL numB numsB elCells powsL dotN nthN

set_option maxHeartbeats 8000000 in
set_option maxRecDepth 1000000 in
theorem ldot_longA (m : Md) (hok : m.Ok) (aa : Option Addr) (ca : Nat) (la : List (List UInt8)) (bb : Option Addr) (cb : Nat) (lb : List (List UInt8)) (w : World) (hn : 256 < la.length) :
    Calls Try.prog 23 #[fv m.M, .slice aa la.length ca, .slice bb lb.length cb, .slice none 0 0, .int .i64 1] w fun e w' => e = .returned (.bool true) ∧ Fr Nob w w' := by
  have hna : (256 : Int) < (la.length : Int) := by omega
  have st0 := St.start Nob w
  go_enter Try.func23, Try.ntmps23
  go_wp2_with (with_reducible refine wl_stop (o := ⟨some 5, _, _, _, _, _⟩) ?_)
  refine wl_boxS st0 rfl rfl rfl (cw 4 m.M ++ cw 4 (B64 ^ 4 - m.M)) rfl ?_
  intro g5 w1 st1
  clear st0
  have hfr := st1.fr
  clear st1
  go_wp2_with fail
  go_ret
  exact ⟨rfl, hfr⟩

set_option maxHeartbeats 8000000 in
set_option maxRecDepth 1000000 in
theorem ldot_longB (m : Md) (hok : m.Ok) (aa : Option Addr) (ca : Nat) (la : List (List UInt8)) (bb : Option Addr) (cb : Nat) (lb : List (List UInt8)) (w : World) (hn : la.length ≤ 256) (hm : 256 < lb.length) :
    Calls Try.prog 23 #[fv m.M, .slice aa la.length ca, .slice bb lb.length cb, .slice none 0 0, .int .i64 1] w fun e w' => e = .returned (.bool true) ∧ Fr Nob w w' := by
  have hna : ¬ ((256 : Int) < (la.length : Int)) := by omega
  have hnb : (256 : Int) < (lb.length : Int) := by omega
  have st0 := St.start Nob w
  go_enter Try.func23, Try.ntmps23
  go_wp2_with (with_reducible refine wl_stop (o := ⟨some 5, _, _, _, _, _⟩) ?_)
  refine wl_boxS st0 rfl rfl rfl (cw 4 m.M ++ cw 4 (B64 ^ 4 - m.M)) rfl ?_
  intro g5 w1 st1
  clear st0
  have hfr := st1.fr
  clear st1
  go_wp2_with fail
  go_ret
  exact ⟨rfl, hfr⟩

set_option maxHeartbeats 8000000 in
set_option maxRecDepth 1000000 in
theorem ldot_bad (m : Md) (hok : m.Ok) (aa : Option Addr) (ca : Nat) (la : List (List UInt8)) (bb : Option Addr) (cb : Nat) (lb : List (List UInt8)) (w : World) (hva : Rd w aa la.length (ss la)) (hvb : Rd w bb lb.length (ss lb)) (hn : la.length ≤ 256) (hm : lb.length ≤ 256) (hbad : (numsB m la && numsB m lb) = false) :
    Calls Try.prog 23 #[fv m.M, .slice aa la.length ca, .slice bb lb.length cb, .slice none 0 0, .int .i64 3] w fun e w' => e = .returned (.bool true) ∧ Fr Nob w w' := by
  have HOK := Lib.hid hok
  have HVA := Lib.hid hva
  have HVB := Lib.hid hvb
  have HBAD := Lib.hid hbad
  clear hok hva hvb hbad
  have hna : ¬ ((256 : Int) < (la.length : Int)) := by omega
  have hnb : ¬ ((256 : Int) < (lb.length : Int)) := by omega
  have st0 := St.start Nob w
  go_enter Try.func23, Try.ntmps23
  go_wp2_with (with_reducible refine wl_stop (o := ⟨some 5, _, _, _, _, _⟩) ?_)
  refine wl_boxS st0 rfl rfl rfl (cw 4 m.M ++ cw 4 (B64 ^ 4 - m.M)) rfl ?_
  intro g5 w1 st1
  clear st0
  go_wp2_with (with_reducible refine wl_stop (o := ⟨some 11, _, _, _, _, _⟩) ?_)
  refine wl_allocS st1 rfl rfl (z := .agg #[.int .u64 0, .int .u64 0, .int .u64 0, .int .u64 0]) (by kernel_rfl) (cw 4 0) (by rw [cw_zero]; rfl) ?_
  intro g11 w2 st2
  clear st1
  go_wp2
  go_loopw [12] (fun z wr => ∃ i : Nat, i ≤ la.length + lb.length ∧ z = .int .i64 (i : Int) ∧ (∀ j, j < i → numB m ((la ++ lb).getD j []) = true) ∧ St Nob w wr [(g5, cw 4 m.M ++ cw 4 (B64 ^ 4 - m.M), 40), (g11, cw 4 0, 38)]) (fun z _ => la.length + lb.length - (intOf z).toNat)
  case atStart => exact ⟨0, by omega, rfl, fun j hj => by omega, st2⟩
  case round =>
    obtain ⟨i, hi, rfl, hgood, st⟩ := hrel
    clear st2
    have HGOOD := Lib.hid hgood
    clear hgood
    have e0 : IntKind.i64.wrap ((la.length : Int) + (lb.length : Int)) = (la.length : Int) + (lb.length : Int) := IntWalk.i64_in _ (by omega)
    by_cases hlt : i < la.length + lb.length
    · have hltI : (i : Int) < (la.length : Int) + (lb.length : Int) := by omega
      by_cases hl : i < la.length
      · skip
        have hlI : (i : Int) < (la.length : Int) := by omega
        obtain ⟨ba, oa, haa, -⟩ := HVA.out.at (by omega)
        subst haa
        have hc := rd_cell (HVA.out.still st.fr) i _ (ss_get la i hl)
        have hel : (la ++ lb).getD i [] = la.getD i [] := getD_left la lb i hl
        generalize la.getD i [] = l at *
        have HEL := Lib.hid hel
        clear hel
        have hml : (mkS l).data.toList = l := by simp [mkS]
        cases hb : numB m l
        · have HA := Lib.hid (show numB m (mkS l).data.toList = false by rw [hml]; exact hb)
          have HB := Lib.hid hb
          clear hb hml
          go_wp2_with (with_reducible refine wl_stop (o := ⟨some 61, _, _, _, _, _⟩) ?_)
          refine wl_loadSt st 0 rfl rfl rfl Try.underlying40 rfl rfl (by first | (rw [cw_len]; kernel_rfl) | (simp only [List.length_append, cw_len]; kernel_rfl)) ?_
          go_wp2_with fail
          refine (Number_f m HOK.out.lt (mkS l) _ HA.out).mono ?_
          rintro e' w3 ⟨NA, rfl, hf3⟩
          have st3 := st.keep hf3
          clear st hf3
          go_wp2_with (with_reducible refine wl_stop (o := ⟨some 14, _, _, _, _, _⟩) ?_)
          refine wl_allocS st3 rfl rfl (z := .agg #[.int .u64 0, .int .u64 0, .int .u64 0, .int .u64 0]) (by kernel_rfl) (cw 4 0) (by rw [cw_zero]; rfl) ?_
          intro g14 w4 st4
          clear st3
          go_wp2_with (with_reducible refine wl_stop (o := ⟨none, _, _, _, _, _⟩) ?_)
          refine wl_storeS st4 2 rfl rfl rfl rfl rfl (by first | (simp only [cw_len]; done) | (simp only [List.length_append, cw_len]; done)) (by first | (rw [cw_len]; kernel_rfl) | (simp only [List.length_append, cw_len]; kernel_rfl)) (cw_one _ _) ?_
          intro w5 st5
          clear st4
          have hfr := st5.fr
          clear st5
          go_wp2_with fail
          go_ret
          exact ⟨rfl, hfr⟩
        · have HA := Lib.hid (show numB m (mkS l).data.toList = true by rw [hml]; exact hb)
          have HB := Lib.hid hb
          clear hb hml
          go_wp2_with (with_reducible refine wl_stop (o := ⟨some 61, _, _, _, _, _⟩) ?_)
          refine wl_loadSt st 0 rfl rfl rfl Try.underlying40 rfl rfl (by first | (rw [cw_len]; kernel_rfl) | (simp only [List.length_append, cw_len]; kernel_rfl)) ?_
          go_wp2_with fail
          refine (Number_t m HOK.out.lt (mkS l) _ HA.out).mono ?_
          rintro e' w3 ⟨rfl, hf3⟩
          have st3 := st.keep hf3
          clear st hf3
          go_wp2_with (with_reducible refine wl_stop (o := ⟨some 14, _, _, _, _, _⟩) ?_)
          refine wl_allocS st3 rfl rfl (z := .agg #[.int .u64 0, .int .u64 0, .int .u64 0, .int .u64 0]) (by kernel_rfl) (cw 4 0) (by rw [cw_zero]; rfl) ?_
          intro g14 w4 st4
          clear st3
          go_wp2_with (with_reducible refine wl_stop (o := ⟨none, _, _, _, _, _⟩) ?_)
          refine wl_storeS st4 2 rfl rfl rfl rfl rfl (by first | (simp only [cw_len]; done) | (simp only [List.length_append, cw_len]; done)) (by first | (rw [cw_len]; kernel_rfl) | (simp only [List.length_append, cw_len]; kernel_rfl)) (cw_one _ _) ?_
          intro w5 st5
          clear st4
          go_wp2
          go_roundw
          case rel => exact ⟨i + 1, by omega, by go_num, fun j hj => (by rcases Nat.lt_or_ge j i with h | h; exact HGOOD.out j h; have : j = i := (by omega); subst this; rw [HEL.out]; exact HB.out), St.less st5 (by simp)⟩
          case measure => simp [intOf]; omega
      · skip
        have hlI : ¬ ((i : Int) < (la.length : Int)) := by omega
        obtain ⟨bb', ob, hbb, -⟩ := HVB.out.at (by omega)
        subst hbb
        have hc := rd_cell (HVB.out.still st.fr) (i - la.length) _ (ss_get lb (i - la.length) (by omega))
        have hel : (la ++ lb).getD i [] = lb.getD (i - la.length) [] := getD_right la lb i (by omega)
        have e1 : IntKind.i64.wrap ((i : Int) - (la.length : Int)) = (i : Int) - (la.length : Int) := IntWalk.i64_in _ (by omega)
        have e2 : ((i : Int) - (la.length : Int)).toNat = i - la.length := by omega
        have hlo : (0 : Int) ≤ (i : Int) - (la.length : Int) ∧ (i : Int) - (la.length : Int) < (lb.length : Int) := by omega
        generalize lb.getD (i - la.length) [] = l at *
        have HEL := Lib.hid hel
        clear hel
        have hml : (mkS l).data.toList = l := by simp [mkS]
        cases hb : numB m l
        · have HA := Lib.hid (show numB m (mkS l).data.toList = false by rw [hml]; exact hb)
          have HB := Lib.hid hb
          clear hb hml
          go_wp2_with (with_reducible refine wl_stop (o := ⟨some 61, _, _, _, _, _⟩) ?_)
          refine wl_loadSt st 0 rfl rfl rfl Try.underlying40 rfl rfl (by first | (rw [cw_len]; kernel_rfl) | (simp only [List.length_append, cw_len]; kernel_rfl)) ?_
          go_wp2_with fail
          refine (Number_f m HOK.out.lt (mkS l) _ HA.out).mono ?_
          rintro e' w3 ⟨NA, rfl, hf3⟩
          have st3 := st.keep hf3
          clear st hf3
          go_wp2_with (with_reducible refine wl_stop (o := ⟨some 14, _, _, _, _, _⟩) ?_)
          refine wl_allocS st3 rfl rfl (z := .agg #[.int .u64 0, .int .u64 0, .int .u64 0, .int .u64 0]) (by kernel_rfl) (cw 4 0) (by rw [cw_zero]; rfl) ?_
          intro g14 w4 st4
          clear st3
          go_wp2_with (with_reducible refine wl_stop (o := ⟨none, _, _, _, _, _⟩) ?_)
          refine wl_storeS st4 2 rfl rfl rfl rfl rfl (by first | (simp only [cw_len]; done) | (simp only [List.length_append, cw_len]; done)) (by first | (rw [cw_len]; kernel_rfl) | (simp only [List.length_append, cw_len]; kernel_rfl)) (cw_one _ _) ?_
          intro w5 st5
          clear st4
          have hfr := st5.fr
          clear st5
          go_wp2_with fail
          go_ret
          exact ⟨rfl, hfr⟩
        · have HA := Lib.hid (show numB m (mkS l).data.toList = true by rw [hml]; exact hb)
          have HB := Lib.hid hb
          clear hb hml
          go_wp2_with (with_reducible refine wl_stop (o := ⟨some 61, _, _, _, _, _⟩) ?_)
          refine wl_loadSt st 0 rfl rfl rfl Try.underlying40 rfl rfl (by first | (rw [cw_len]; kernel_rfl) | (simp only [List.length_append, cw_len]; kernel_rfl)) ?_
          go_wp2_with fail
          refine (Number_t m HOK.out.lt (mkS l) _ HA.out).mono ?_
          rintro e' w3 ⟨rfl, hf3⟩
          have st3 := st.keep hf3
          clear st hf3
          go_wp2_with (with_reducible refine wl_stop (o := ⟨some 14, _, _, _, _, _⟩) ?_)
          refine wl_allocS st3 rfl rfl (z := .agg #[.int .u64 0, .int .u64 0, .int .u64 0, .int .u64 0]) (by kernel_rfl) (cw 4 0) (by rw [cw_zero]; rfl) ?_
          intro g14 w4 st4
          clear st3
          go_wp2_with (with_reducible refine wl_stop (o := ⟨none, _, _, _, _, _⟩) ?_)
          refine wl_storeS st4 2 rfl rfl rfl rfl rfl (by first | (simp only [cw_len]; done) | (simp only [List.length_append, cw_len]; done)) (by first | (rw [cw_len]; kernel_rfl) | (simp only [List.length_append, cw_len]; kernel_rfl)) (cw_one _ _) ?_
          intro w5 st5
          clear st4
          go_wp2
          go_roundw
          case rel => exact ⟨i + 1, by omega, by go_num, fun j hj => (by rcases Nat.lt_or_ge j i with h | h; exact HGOOD.out j h; have : j = i := (by omega); subst this; rw [HEL.out]; exact HB.out), St.less st5 (by simp)⟩
          case measure => simp [intOf]; omega
    · exfalso
      have hall := numsB_all m (la ++ lb) (fun j hj => HGOOD.out j (by rw [List.length_append] at hj; omega))
      rw [numsB_append, HBAD.out] at hall
      cases hall
end Go.Proofs.Ytmegaegedlbckaa
