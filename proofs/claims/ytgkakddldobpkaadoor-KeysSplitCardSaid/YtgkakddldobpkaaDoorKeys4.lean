/- The reference's Split; the law KeysSplit. -/
import Derived.Test.YtgkakddldobpkaaDoorKeys3
namespace Go.Proofs.YtgkakddldobpkaaDoor
open Go.RowKit Go.Mv Mvk

set_option maxRecDepth 100000 in
theorem splitR_big (x : Nat) (w : World) (hx : x < 18446744073709551616) (h : 64 < x / 524288) :
    Calls Tryd.prog 19 #[.int .u64 (x : Int)] w fun e w' => e = .returned (.tuple #[.slice none 0 0, .int .i64 1]) ∧ w = w' := by
  have e2 : (x : Int) / 524288 = ((x / 524288 : Nat) : Int) := by omega
  have hqn : x / 524288 ≤ 35184372088832 := by omega
  generalize x / 524288 = q at *
  have hb0 : decide ((64 : Int) < (q : Int)) = true := by simp; omega
  have hb1 : decide (64 < q) = true := by simp; omega
  clear h
  go_enter Tryd.func19, Tryd.ntmps19
  go_wp2_with fail
  go_ret2
  exact ⟨rfl, rfl⟩

/-- what the reference answers, for amounts of at most 64 highest ones -/
def SplitR (x base : Nat) (w : World) (e : Ending) (w' : World) : Prop :=
  ((splitL x).length ≤ 64 ∧ ∃ v, e = .returned (.tuple #[v, .int .i64 0]) ∧ Own w' base 40 1 v (splitL x).length (nu (splitL x)) ∧ Fr Nob w w') ∨ (64 < (splitL x).length ∧ e = .returned (.tuple #[.slice none 0 0, .int .i64 1]) ∧ Fr Nob w w')

set_option maxHeartbeats 2000000 in
set_option maxRecDepth 100000 in
theorem splitR_any (x : Nat) (w : World) (hx : x < 18446744073709551616) (h : x / 524288 ≤ 64) :
    Calls Tryd.prog 19 #[.int .u64 (x : Int)] w (SplitR x w.heap.size w) := by
  have e2 : (x : Int) / 524288 = ((x / 524288 : Nat) : Int) := by omega
  have HS : Hid (splitL x = up (x % 524288) 19 ++ List.replicate (x / 524288) 524288) := Lib.hid rfl
  have HUL := Lib.hid (up_len (x % 524288))
  have HBM := Lib.hid (bit_mod x)
  generalize x % 524288 = low at *
  generalize x / 524288 = q at *
  have hb0 : decide ((64 : Int) < (q : Int)) = false := by simp; omega
  have hb1 : decide (64 < q) = false := by simp; omega
  have HQN := Lib.hid h
  go_enter Tryd.func19, Tryd.ntmps19
  go_wp2_with fail
  clear h
  go_loopw [6, 5] (fun n v wr => ∃ i : Nat, i ≤ 19 ∧ n = .int .i64 (i : Int) ∧ Own wr w.heap.size 40 1 v (up low i).length (nu (up low i)) ∧ Fr Nob w wr) (fun n _ _ => (19 - intOf n).toNat)
  case atStart => exact ⟨0, by omega, rfl, Own.nil _ _ _ _, Fr.refl _ _⟩
  case round =>
    clear hb0 hb1
    obtain ⟨i, hi, rfl, hown, hfr⟩ := hrel
    by_cases hlt : i < 19
    · have hltI : (i : Int) < 19 := by omega
      have hbm := HBM.out i hlt
      have hp : 0 < 2 ^ i := Nat.two_pow_pos i
      have hp19 : 2 ^ i < 524288 := by
        have : 2 ^ i < 2 ^ 19 := Nat.pow_lt_pow_right (by decide) hlt
        exact this
      have hul : (up low i).length ≤ 19 := by rw [HUL.out]; exact Nat.le_trans (pcn_le i low) hi
      have HBI := Lib.hid hbm
      have HULB := Lib.hid hul
      have HLT := Lib.hid hlt
      clear hbm hul hi e2 hlt
      go_wp2_with (with_reducible refine wl_stop (o := ⟨some 19, _, _, _, _, _⟩) ?_)
      have ec : (x : Int) / 2 ^ i = ((x / 2 ^ i : Nat) : Int) := by simp
      have hyx : x / 2 ^ i ≤ x := Nat.div_le_self _ _
      rw [ec]
      clear ec
      have hbi := HBI.out
      have hup : up low (i + 1) = up low i ++ (if low / 2 ^ i % 2 = 1 then [2 ^ i] else []) := rfl
      rw [hbi] at hup
      generalize x / 2 ^ i = y at *
      have ea : bits .and .u64 (y : Int) 1 = ((y % 2 : Nat) : Int) := by
        have := and_u64 y 1 (by omega) (by decide)
        rwa [Nat.and_one_is_mod] at this
      have ep : (2 : Int) ^ i = ((2 ^ i : Nat) : Int) := by simp
      unfold Stop
      rcases Nat.mod_two_eq_zero_or_one y with h0 | h1
      · rw [h0] at ea hup
        have HUP := Lib.hid hup
        clear hup h0 hbi HBI hp hp19 hyx hx ep
        go_wp2_with fail
        go_roundw
        case rel => exact ⟨i + 1, by have := HLT.out; omega, by go_num, by rw [HUP.out]; simpa using hown, hfr⟩
        case measure => have := HLT.out; simp [intOf]; omega
      · rw [h1] at ea hup
        have HUP := Lib.hid hup
        clear hup h1 hbi HBI hyx hx ep
        have ew : IntKind.u64.wrap ((2 : Int) ^ i) = ((2 ^ i : Nat) : Int) := by
          rw [IntKind.wrap_u64, show (2 : Int) ^ i = ((2 ^ i : Nat) : Int) by simp]; omega
        have EW := Lib.hid ew
        clear ew
        clear hp hp19
        go_wp2_with (with_reducible refine wl_stop (o := ⟨some 24, _, _, _, _, _⟩) ?_)
        rw [EW.out]
        generalize hpp : (2 ^ i : Nat) = pp at *
        have HPP := Lib.hid hpp; clear hpp EW
        refine wl_slit rfl rfl Tryd.underlying41 info_u64 (nu [pp]) rfl (by simp [nu]; rfl) rfl rfl ?_
        intro w2 hh2 hf2 hz2
        clear hz2 ea
        have hown2 := hown.still hf2
        have hfr2 := hfr.then hf2
        clear hown hfr hf2
        generalize wr.heap.size = g2 at *
        go_wp2_with (with_reducible refine wl_stop (o := ⟨some 25, _, _, _, _, _⟩) ?_)
        refine wl_append rfl rfl Tryd.underlying41 info_u64 rfl (by decide) hown2 rfl rfl (Rd.whole hh2) (fun u hu => by simp [nu] at hu; subst hu; rfl) (by have := HULB.out; unfold maxLen; omega) (by have := HULB.out; omega) hfr2.size ?_
        intro v3 w3 hown3 hf3 hb3
        clear hb3
        have hfr3 := hown2.fr hfr2 (Nat.le_refl _) hf3
        clear hown2 hfr2 hf3 hh2
        go_wp2_with fail
        go_roundw
        case rel => exact ⟨i + 1, by have := HLT.out; omega, by go_num, by rw [HUP.out]; simp only [if_true, nu_append, List.length_append]; exact hown3, hfr3⟩
        case measure => have := HLT.out; simp [intOf]; omega
    · have hge : ¬ (i : Int) < 19 := by omega
      obtain rfl : i = 19 := by omega
      have hqn := HQN.out
      go_wp2_with fail
      clear e2 hlt hge
      go_loopw [7, 5] (fun n v wr => ∃ k : Nat, k ≤ q ∧ n = .int .u64 ((q - k : Nat) : Int) ∧ Own wr w.heap.size 40 1 v (up low 19 ++ List.replicate k 524288).length (nu (up low 19 ++ List.replicate k 524288)) ∧ Fr Nob w wr) (fun n _ _ => (intOf n).toNat)
      case atStart => exact ⟨0, by omega, rfl, by simpa using hown, hfr⟩
      case round =>
        clear hown hfr
        obtain ⟨k, hk, rfl, hown, hfr⟩ := hrel
        have hll : (up low 19 ++ List.replicate k 524288).length ≤ 200 := by
          rw [List.length_append, List.length_replicate, HUL.out]
          have := pcn_le 19 low
          have := HQN.out
          omega
        by_cases hlt : k < q
        · obtain ⟨d, hd⟩ : ∃ d, q - k = d + 1 := ⟨q - k - 1, by omega⟩
          have hd2 : q - (k + 1) = d := by omega
          rw [hd]
          have hrep : up low 19 ++ List.replicate (k + 1) 524288 = (up low 19 ++ List.replicate k 524288) ++ [524288] := by
            rw [List.replicate_succ', List.append_assoc]
          have hdq : d ≤ 64 := by omega
          have HREP := Lib.hid hrep
          have HLL := Lib.hid hll
          have HD2 := Lib.hid hd2
          have HLT := Lib.hid hlt
          clear hrep hll hd hd2 hlt hk hqn
          generalize up low 19 ++ List.replicate k 524288 = L at *
          have hb2 : decide ((0 : Int) < ((d + 1 : Nat) : Int)) = true := decide_eq_true (by omega)
          have hb3 : (0 : Int) < (d : Int) + 1 := by omega
          go_wp2_with (with_reducible refine wl_stop (o := ⟨some 35, _, _, _, _, _⟩) ?_)
          refine wl_slit rfl rfl Tryd.underlying41 info_u64 (nu [524288]) rfl (by simp [nu]; rfl) rfl rfl ?_
          intro w2 hh2 hf2 hz2
          clear hz2
          have hown2 := hown.still hf2
          have hfr2 := hfr.then hf2
          clear hown hfr hf2
          generalize wr.heap.size = g2 at *
          go_wp2_with (with_reducible refine wl_stop (o := ⟨some 36, _, _, _, _, _⟩) ?_)
          refine wl_append rfl rfl Tryd.underlying41 info_u64 rfl (by decide) hown2 rfl rfl (Rd.whole hh2) (fun u hu => by simp [nu] at hu; subst hu; rfl) (by have := HLL.out; unfold maxLen; omega) (by have := HLL.out; omega) hfr2.size ?_
          intro v3 w3 hown3 hf3 hb3
          clear hb3
          have hfr3 := hown2.fr hfr2 (Nat.le_refl _) hf3
          clear hown2 hfr2 hf3 hh2
          go_wp2_with fail
          go_roundw
          case rel => exact ⟨k + 1, by have := HLT.out; omega, by rw [HD2.out], by rw [HREP.out, nu_append, List.length_append]; exact hown3, hfr3⟩
          case measure => simp [intOf]
        · obtain rfl : k = q := by omega
          rw [Nat.sub_self]
          have hs : splitL x = up low 19 ++ List.replicate k 524288 := HS.out
          rw [← hs] at hown hll
          clear hlt hk hs
          obtain ⟨av, cv, rfl, hcv, hrv, -⟩ := id hown.form
          by_cases h64 : (splitL x).length ≤ 64
          · have hb2 : decide ((64 : Int) < ((splitL x).length : Int)) = false := decide_eq_false (by omega)
            have hb3 : ¬ (64 : Int) < ((splitL x).length : Int) := by omega
            have H64 := Lib.hid h64
            have HO := Lib.hid hown
            clear h64 hown hrv hll hcv
            generalize hn : (splitL x).length = n at *
            have HNN := Lib.hid hn
            clear hn
            go_wp2_with fail
            go_ret2
            exact .inl ⟨by rw [HNN.out]; exact H64.out, _, rfl, by rw [HNN.out]; exact HO.out, hfr⟩
          · have hb2 : decide ((64 : Int) < ((splitL x).length : Int)) = true := decide_eq_true (by omega)
            have hb3 : (64 : Int) < ((splitL x).length : Int) := by omega
            have H64 := Lib.hid h64
            clear h64 hown hrv hll hcv
            generalize hn : (splitL x).length = n at *
            have HNN := Lib.hid hn
            clear hn
            go_wp2_with fail
            go_ret2
            exact .inr ⟨by rw [HNN.out]; have := H64.out; omega, rfl, hfr⟩
end Go.Proofs.YtgkakddldobpkaaDoor
