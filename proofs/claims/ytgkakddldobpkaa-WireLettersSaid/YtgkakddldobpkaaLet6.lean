/- The reference's place, Letters. -/
import Derived.Test.YtgkakddldobpkaaLet5
namespace Mvl
theorem pos_of (c : UInt8) (j : Nat) (hj : j < 64) (h : letter j = c) : posI c = (j : Int) := by
  rcases pos_cases c with ⟨_, h2⟩ | ⟨h1, h2, h3⟩
  · exact absurd h (h2 j hj)
  · rw [h2, table_inj _ _ h1 hj (h3.trans h.symm)]
theorem pos_none (c : UInt8) (h : ∀ i, i < 64 → letter i ≠ c) : posI c = -1 := by
  rcases pos_cases c with ⟨h1, _⟩ | ⟨h1, _, h3⟩
  · exact h1
  · exact absurd h3 (h _ h1)
/-- the highest t bits of the letter at place j -/
def pbits (s : List UInt8) (j t : Nat) : Nat := bigN s * 2 ^ (6 * lets s.length - 8 * s.length) / 2 ^ (6 * lets s.length - 6 * j - t) % 2 ^ t
theorem pbits_zero (s : List UInt8) (j : Nat) : pbits s j 0 = 0 := by simp [pbits, Nat.mod_one]
theorem pbits_lt (s : List UInt8) (j t : Nat) : pbits s j t < 2 ^ t := Nat.mod_lt _ (Nat.two_pow_pos _)
theorem div_step (Y e t : Nat) : Y / 2 ^ e % 2 ^ (t + 1) = 2 * (Y / 2 ^ (e + 1) % 2 ^ t) + Y / 2 ^ e % 2 := by
  rw [Nat.pow_succ 2 e, ← Nat.div_div_eq_div_mul, Nat.pow_succ', Nat.mod_mul]; omega
theorem pbits_step (s : List UInt8) (j t : Nat) (hj : j < lets s.length) (ht : t < 6) :
    pbits s j (t + 1) = 2 * pbits s j t + (if (6 * j + t) / 8 < s.length then (s.getD ((6 * j + t) / 8) 0).toNat / 2 ^ (7 - (6 * j + t) % 8) % 2 else 0) := by
  unfold pbits
  have e1 : 6 * lets s.length - 6 * j - t = (6 * lets s.length - 6 * j - (t + 1)) + 1 := by omega
  rw [div_step, ← e1]
  congr 1
  have hl : 8 * s.length ≤ 6 * lets s.length := by unfold lets; omega
  by_cases h : (6 * j + t) / 8 < s.length
  · rw [if_pos h, bigN_bit s (6 * j + t) (by omega)]
    have e2 : 6 * lets s.length - 6 * j - (t + 1) = (6 * lets s.length - 8 * s.length) + (8 * s.length - 1 - (6 * j + t)) := by omega
    rw [e2, Nat.pow_add, ← Nat.div_div_eq_div_mul, Nat.mul_div_cancel _ (Nat.two_pow_pos _)]
  · rw [if_neg h]
    obtain ⟨d, hd⟩ : ∃ d, 6 * lets s.length - 8 * s.length = (6 * lets s.length - 6 * j - (t + 1)) + (d + 1) := ⟨6 * lets s.length - 8 * s.length - (6 * lets s.length - 6 * j - (t + 1)) - 1, by omega⟩
    rw [hd, Nat.pow_add, show bigN s * (2 ^ (6 * lets s.length - 6 * j - (t + 1)) * 2 ^ (d + 1)) = bigN s * 2 ^ (d + 1) * 2 ^ (6 * lets s.length - 6 * j - (t + 1)) by rw [Nat.mul_comm (2 ^ (6 * lets s.length - 6 * j - (t + 1))), Nat.mul_assoc], Nat.mul_div_cancel _ (Nat.two_pow_pos _), Nat.pow_succ, ← Nat.mul_assoc, Nat.mul_mod_left]
theorem pbits_all (s : List UInt8) (j : Nat) (hj : j < lets s.length) : (nums s)[j]? = some (pbits s j 6) := by
  unfold nums pbits
  rw [digs_get _ _ _ _ hj]
  congr 3
  rw [pow64]; congr 1; omega
theorem nums_take (s : List UInt8) (j : Nat) (hj : j < lets s.length) : (nums s).take (j + 1) = (nums s).take j ++ [pbits s j 6] := by
  have h := pbits_all s j hj
  rw [List.getElem?_eq_some_iff] at h
  obtain ⟨h1, h2⟩ := h
  rw [List.take_succ_eq_append_getElem h1, h2]
end Mvl
namespace Go.Mv
open Go.RowKit
theorem and1_i64 (n : Nat) (h : n < 9223372036854775808) : bits .and .i64 (n : Int) 1 = ((n % 2 : Nat) : Int) := by
  have := and_i64 n 1 h (by decide)
  rw [show ((1 : Nat) : Int) = 1 from rfl, Nat.and_one_is_mod] at this
  exact this
theorem bit_back (y : UInt8) (m z : Nat) (hz : z < 64) : wrap64 (2 * (z : Int) + bits .and .i64 (wrap64 ((y.toNat : Int) / 2 ^ m)) 1) = ((2 * z + y.toNat / 2 ^ m % 2 : Nat) : Int) := by
  have hy := y.toNat_lt
  have e : ((y.toNat : Int) / 2 ^ m) = ((y.toNat / 2 ^ m : Nat) : Int) := by simp
  have hb : y.toNat / 2 ^ m ≤ y.toNat := Nat.div_le_self _ _
  generalize y.toNat / 2 ^ m = u at *
  have h1 : wrap64 (u : Int) = (u : Int) := IntWalk.wrap64_in _ (by omega)
  rw [e, h1, and1_i64 _ (by omega), IntWalk.wrap64_in _ (by omega)]
  omega
end Go.Mv
namespace Go.Proofs.Ytgkakddldobpkaa
open Go.RowKit Go.Mv Mvp Mvl

set_option maxHeartbeats 1000000 in
set_option maxRecDepth 1000000 in
theorem placeR_any (c : UInt8) (w : World) :
    Calls Try.prog 71 #[.int .u8 (c.toNat : Int)] w fun e w' => e = .returned (.int .i64 (posI c)) ∧ w = w' := by
  have hp := pos_of c
  have hn := pos_none c
  have HP := Lib.hid hp; clear hp
  have HN := Lib.hid hn; clear hn
  go_enter Try.func71, Try.ntmps71
  rw [letters_eq]
  go_wp2_with fail
  go_loop [3] (fun i => ∃ j : Nat, j ≤ 64 ∧ i = .int .i64 (j : Int) ∧ ∀ i, i < j → letter i ≠ c) (fun i => (64 - intOf i).toNat)
  case atStart => exact ⟨0, by omega, rfl, fun i hi => by omega⟩
  case round =>
    obtain ⟨j, hj, rfl, hall⟩ := hrel
    have HA := Lib.hid hall; clear hall
    by_cases hlt : j < 64
    · have hltI : (j : Int) < 64 := by omega
      go_wp2_with (with_reducible refine wl_stop (o := ⟨some 9, _, _, _, _, _⟩) ?_)
      unfold Stop
      refine wl_index_str (y := letter j) rfl rfl Try.underlying9 rfl rfl j rfl (by rw [mkS_size]; exact hlt) (by rw [mkS_toList]; rfl) ?_
      by_cases he : letter j = c
      · subst he
        have hr := HP.out j hlt rfl
        have HR := Lib.hid hr; clear hr
        go_wp2_with fail
        go_ret
        exact ⟨by rw [HR.out]; rfl, rfl⟩
      · have hne : (((letter j).toNat : Int) == (c.toNat : Int)) = false := by
          simp only [beq_eq_false_iff_ne, ne_eq]
          intro h
          exact he (UInt8.toNat_inj.1 (by omega))
        have hne2 : ((letter j).toNat == c.toNat) = false := by
          simp only [beq_eq_false_iff_ne, ne_eq]
          intro h
          exact he (UInt8.toNat_inj.1 h)
        have HE := Lib.hid he; clear he
        go_wp2_with fail
        go_round
        case rel => exact ⟨j + 1, by omega, by go_num, fun i hi => by
          by_cases h : i = j
          · subst h; exact HE.out
          · exact HA.out i (by omega)⟩
        case measure => simp [intOf]; omega
    · have hge : ¬ ((j : Int) < 64) := by omega
      obtain rfl : j = 64 := by omega
      have hr := HN.out HA.out
      have HR := Lib.hid hr; clear hr
      go_wp2_with fail
      go_ret
      exact ⟨by rw [HR.out]; rfl, rfl⟩

set_option maxHeartbeats 1000000 in
set_option maxRecDepth 1000000 in
theorem LettersR_any (s : List UInt8) (w : World) (hs : s.length ≤ 1000000) :
    Calls Try.prog 37 #[.string (mkS s)] w fun e w' => e = .returned (.string (mkS (lettersL s))) ∧ Fr Nob w w' := by
  have hsz : (mkS s).size = s.length := mkS_size s
  generalize hq : mkS s = q at *
  have HQ := Lib.hid hq; clear hq
  have HSZ := Lib.hid hsz; clear hsz
  have hqm : q.size ≤ 1000000 := by rw [HSZ.out]; exact hs
  go_enter Try.func37, Try.ntmps37
  have hB0 : w.heap.size ≤ w.heap.size := Nat.le_refl _
  have hll : lets s.length = (8 * q.size + 5) / 6 := by rw [HSZ.out]; rfl
  generalize hL : lets s.length = L at *
  have HL := Lib.hid hL; clear hL
  go_wp2_with fail
  go_loopw [4, 3] (fun i v wr => ∃ j : Nat, j ≤ L ∧ i = .int .i64 (j : Int) ∧ Own wr w.heap.size 5 1 v j (bs (((nums s).take j).map letter)) ∧ Fr Nob w wr) (fun i _ _ => (L - intOf i).toNat)
  case atStart => exact ⟨0, by omega, rfl, Own.nil w _ _ _, Fr.refl _ _⟩
  case round =>
    obtain ⟨j, hj, rfl, hown, hfr⟩ := hrel
    by_cases hlt : j < L
    · have hltI : 6 * (j : Int) < 8 * (q.size : Int) := by omega
      obtain ⟨w1, hw1⟩ : ∃ w1, w1 = wr := ⟨_, rfl⟩
      subst hw1
      go_wp2_with fail
      go_loopw [6, 5] (fun k n wq => ∃ kk t : Nat, kk = 6 * j + t ∧ t ≤ 6 ∧ k = .int .i64 (kk : Int) ∧ n = .int .i64 ((pbits s j t : Nat) : Int) ∧ wq = w1) (fun k _ _ => (6 * (j : Int) + 6 - intOf k).toNat)
      case atStart => exact ⟨6 * j, 0, rfl, by omega, by go_num, by rw [pbits_zero]; rfl, rfl⟩
      case round =>
        obtain ⟨kk, t, hkk, ht, rfl, rfl, hwq⟩ := hrel
        obtain rfl := hwq.symm
        have hp64 : pbits s j t < 64 := Nat.lt_of_lt_of_le (pbits_lt s j t) (Nat.pow_le_pow_right (n := 2) (by decide) ht)
        by_cases ht6 : t < 6
        · have hst := pbits_step s j t (by rw [HL.out]; exact hlt) ht6
          rw [← hkk] at hst
          have htI : (kk : Int) < 6 * (j : Int) + 6 := by omega
          have hkb : kk ≤ 9000000 := by omega
          generalize pbits s j t = z at *
          by_cases hin : kk / 8 < s.length
          · rw [if_pos hin] at hst
            have hinI : (kk : Int) / 8 < (q.size : Int) := by rw [HSZ.out]; omega
            have hqk : q.data.toList.getD (kk / 8) 0 = s.getD (kk / 8) 0 := by rw [← HQ.out, mkS_toList]
            have hrem : (7 : Int) - (kk : Int) % 8 = ((7 - kk % 8 : Nat) : Int) := by omega
            generalize s.getD (kk / 8) 0 = y at *
            have HST := Lib.hid hst; clear hst
            have HKK := Lib.hid hkk; clear hkk
            go_wp2_with (with_reducible refine wl_stop (o := ⟨some 35, _, _, _, _, _⟩) ?_)
            unfold Stop
            refine wl_index_str (y := y) rfl rfl Try.underlying9 rfl rfl (kk / 8) (by omega) (by rw [HSZ.out]; exact hin) hqk ?_
            go_wp2_with fail
            go_roundw
            case rel => exact ⟨kk + 1, t + 1, by have := HKK.out; omega, by omega, by go_num, by rw [bit_back y _ z hp64, ← HST.out], trivial⟩
            case measure => simp [intOf]; omega
          · rw [if_neg hin] at hst
            have hinI : ¬ (kk : Int) / 8 < (q.size : Int) := by rw [HSZ.out]; omega
            have HST := Lib.hid hst; clear hst
            have HKK := Lib.hid hkk; clear hkk
            go_wp2_with fail
            go_roundw
            case rel => exact ⟨kk + 1, t + 1, by have := HKK.out; omega, by omega, by go_num, by rw [HST.out]; go_num, trivial⟩
            case measure => simp [intOf]; omega
        · have htI : ¬ (kk : Int) < 6 * (j : Int) + 6 := by omega
          obtain rfl : t = 6 := by omega
          have htk := nums_take s j (by rw [HL.out]; exact hlt)
          generalize pbits s j 6 = z at *
          have HTK := Lib.hid htk; clear htk
          clear hkk
          go_wp2_with (with_reducible refine wl_stop (o := ⟨some 45, _, _, _, _, _⟩) ?_)
          unfold Stop
          rw [letters_eq]
          refine wl_index_str (y := letter z) rfl rfl Try.underlying9 rfl rfl z rfl (by rw [mkS_size]; exact hp64) (by rw [mkS_toList]; rfl) ?_
          go_wp2_with (with_reducible refine wl_stop (o := ⟨some 46, _, _, _, _, _⟩) ?_)
          unfold Stop
          refine wl_one rfl rfl Try.underlying22 info_b8 (letter z) rfl ?_
          intro w2 hh2 hf2 hz2
          clear hz2
          have hown2 := hown.still hf2
          have hfr2 := hfr.then hf2
          clear hown hfr hf2
          go_wp2_with (with_reducible refine wl_stop (o := ⟨some 47, _, _, _, _, _⟩) ?_)
          unfold Stop
          refine wl_append rfl rfl Try.underlying22 info_b8 rfl (by decide) hown2 rfl rfl (Rd.whole hh2) (bs_one _) (by unfold maxLen; omega) (by omega) hfr2.size ?_
          intro v3 w3 hown3 hf3 hb3
          clear hb3
          have hfr3 := hown2.fr hfr2 (Nat.le_refl _) hf3
          have hown4 : Own w3 w.heap.size 5 1 v3 (j + 1) (bs (((nums s).take (j + 1)).map letter)) := by
            rw [HTK.out, List.map_append, bs_append]; exact hown3
          clear hown3 hown2 hfr2 hf3 hh2
          go_wp2_with fail
          go_roundw
          case rel => exact ⟨j + 1, by omega, by go_num, hown4, hfr3⟩
          case measure => simp [intOf]; omega
    · have hge : ¬ 6 * (j : Int) < 8 * (q.size : Int) := by omega
      rw [List.take_of_length_le (by rw [nums_len, HL.out]; omega)] at hown
      obtain ⟨a, c, rfl, _, hr, _⟩ := hown.form
      rw [Nat.mul_one] at hr
      have hrb : RdB wr a j (lettersL s) := hr
      have e1 := fun nq => run_string (P := Try.prog) (RdB.still hrb ((Fr.refl Nob wr).drewN nq)) c Try.underlying22 Try.underlying5 Try.underlying9
      have e2 := run_string (P := Try.prog) hrb c Try.underlying22 Try.underlying5 Try.underlying9
      go_wp2_with fail
      go_ret
      exact ⟨rfl, hfr⟩
end Go.Proofs.Ytgkakddldobpkaa
