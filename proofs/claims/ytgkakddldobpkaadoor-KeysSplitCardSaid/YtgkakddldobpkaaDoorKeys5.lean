/- The law KeysSplit. -/
import Derived.Test.YtgkakddldobpkaaDoorKeys4
namespace Go.Proofs.YtgkakddldobpkaaDoor
open Go.RowKit Go.Mv Mvk

set_option maxHeartbeats 1000000 in
set_option maxRecDepth 100000 in
theorem keysSplit_err (x : Nat) (w : World) (hx : x < 18446744073709551616) (h : 64 < (splitL x).length) :
    Calls Tryd.prog 5 #[.int .u64 (x : Int)] w fun e w' => e = .returned (.bool true) ∧ Fr Nob w w' := by
  have h19 : pcn 64 (x % 524288) = pcn 19 (x % 524288) := pcn_small 19 45 _ (by omega)
  have hl := splitL_len x
  have h1 := split_err x w hx (by rw [h19]; omega)
  have h2 : Calls Tryd.prog 19 #[.int .u64 (x : Int)] w fun e w' => e = .returned (.tuple #[.slice none 0 0, .int .i64 1]) ∧ Fr Nob w w' := by
    by_cases hq : 64 < x / 524288
    · refine (splitR_big x w hx hq).mono ?_
      rintro e w' ⟨rfl, rfl⟩
      exact ⟨rfl, Fr.refl _ _⟩
    · refine (splitR_any x w hx (by omega)).mono ?_
      rintro e w' (⟨h3, _⟩ | ⟨_, h4, h5⟩)
      · omega
      · exact ⟨h4, h5⟩
  have H1 := Lib.hid h1
  have H2 := Lib.hid h2
  clear h1 h2 h19 hl h hx
  go_enter Tryd.func5, Tryd.ntmps5
  go_wp2_with fail
  refine H1.out.mono ?_
  rintro e w' ⟨rfl, rfl⟩
  go_wp2_with fail
  refine H2.out.mono ?_
  rintro e w1 ⟨rfl, hf1⟩
  go_wp2_with fail
  go_loop [8] (fun i => i = .int .i64 0) (fun _ => 0)
  case atStart => rfl
  case round =>
    subst hrel
    go_wp2_with fail
    go_ret
    exact ⟨rfl, hf1⟩

theorem sum_take_le (l : List Nat) (j : Nat) : (l.take j).sum ≤ l.sum := by
  have := congrArg List.sum (List.take_append_drop j l)
  rw [List.sum_append] at this; omega

set_option maxHeartbeats 2000000 in
set_option maxRecDepth 100000 in
theorem keysSplit_ok (x : Nat) (w : World) (hx : x < 18446744073709551616) (h : (splitL x).length ≤ 64) (hT : TabAt 0 Lib.deBruijn64tab w) :
    Calls Tryd.prog 5 #[.int .u64 (x : Int)] w fun e w' => e = .returned (.bool true) ∧ Fr Nob w w' := by
  have h19 : pcn 64 (x % 524288) = pcn 19 (x % 524288) := pcn_small 19 45 _ (by omega)
  have hl := splitL_len x
  have h1 := split_ok x w hx (by rw [h19]; omega)
  have hq : x / 524288 ≤ 64 := by omega
  have hsum := splitL_sum x
  have hmem := splitL_mem x
  have h2 := fun w1 => splitR_any x w1 hx hq
  unfold SplitR at h2
  generalize splitL x = L at *
  have H1 := Lib.hid h1
  have H2 := Lib.hid h2
  have HSUM := Lib.hid hsum
  have HMEM := Lib.hid hmem
  have HL := Lib.hid h
  have HX := Lib.hid hx
  clear h1 h2 h19 hl h hx hsum hmem hq
  go_enter Tryd.func5, Tryd.ntmps5
  go_wp2_with fail
  refine H1.out.mono ?_
  rintro e w1 ⟨v1, rfl, hown1, hf1⟩
  go_wp2_with fail
  refine (H2.out w1).mono ?_
  rintro e w2 hres
  have hex : ∃ v, e = .returned (.tuple #[v, .int .i64 0]) ∧ Own w2 w1.heap.size 40 1 v L.length (nu L) ∧ Fr Nob w1 w2 := by
    rcases hres with ⟨_, h3⟩ | ⟨h3, _⟩
    · exact h3
    · have := HL.out; omega
  clear hres
  obtain ⟨v2, rfl, hown2, hf2⟩ := hex
  have hown12 := hown1.still hf2
  have hfr2 := hf1.then hf2
  obtain ⟨a1, c1, rfl, -, hr1, -⟩ := hown12.form
  obtain ⟨a2, c2, rfl, -, hr2, -⟩ := hown2.form
  rw [Nat.mul_one] at hr1 hr2
  have hT2 := TabAt.still hT hfr2
  clear hown1 hown2 hown12 hf1 hf2 hT
  have HT2 := Lib.hid hT2; clear hT2
  go_wp2_with fail
  go_loopw [8, 7] (fun i s wr => ∃ j : Nat, j ≤ L.length ∧ i = .int .i64 (j : Int) ∧ s = .int .u64 (((L.take j).sum : Nat) : Int) ∧ Fr Nob w2 wr) (fun i _ _ => (L.length - intOf i).toNat)
  case atStart => exact ⟨0, by omega, rfl, by simp, Fr.refl _ _⟩
  case round =>
    obtain ⟨j, hj, rfl, rfl, hfr⟩ := hrel
    by_cases hlt : j < L.length
    · have hltI : (j : Int) < (L.length : Int) := by omega
      have hL64 := HL.out
      obtain ⟨b1, o1, rfl, hat1⟩ := (hr1.still hfr).at (by omega)
      obtain ⟨b2, o2, rfl, hat2⟩ := (hr2.still hfr).at (by omega)
      have hcc1 := hat1 j _ (nu_get L j hlt)
      have hcc2 := hat2 j _ (nu_get L j hlt)
      obtain ⟨k, hk, hpk⟩ := HMEM.out (L.getD j 0) (by rw [List.getD_eq_getElem?_getD, List.getElem?_eq_getElem hlt]; exact List.getElem_mem _)
      have hst : (L.take (j + 1)).sum = (L.take j).sum + L.getD j 0 := by
        rw [List.take_succ_eq_append_getElem hlt, List.sum_append]; simp [List.getD_eq_getElem?_getD, hlt]
      have hle := sum_take_le L (j + 1)
      have hb : (L.take j).sum + L.getD j 0 < 18446744073709551616 := by have := HSUM.out; have := HX.out; omega
      have hpl := place_ok k wr hk (TabAt.still HT2.out hfr)
      rw [← hpk] at hpl
      have HPL := Lib.hid hpl
      have HST := Lib.hid hst
      clear hat1 hat2 hpk hst hle hpl hk
      generalize L.getD j 0 = z at *
      generalize (L.take j).sum = s at *
      go_wp2_with fail
      refine HPL.out.mono ?_
      rintro e w3 ⟨n, rfl, rfl⟩
      go_wp2_with fail
      go_quiet (fail)
      have hfq := hfr.then ((Fr.refl Nob w3).drewN nq)
      go_wp2_with fail
      go_roundw
      case rel => exact ⟨j + 1, by omega, by go_num, by rw [HST.out]; go_num, hfq⟩
      case measure => simp [intOf]; omega
    · have hge : ¬ ((j : Int) < (L.length : Int)) := by omega
      rw [List.take_of_length_le (by omega), HSUM.out]
      go_wp2_with fail
      go_ret
      exact ⟨rfl, hfr2.then hfr⟩
end Go.Proofs.YtgkakddldobpkaaDoor
