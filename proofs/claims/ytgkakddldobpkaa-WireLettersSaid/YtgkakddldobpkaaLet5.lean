/- wire.FromLetters: the walk. -/
import Derived.Test.YtgkakddldobpkaaLet4
namespace Go.Mv
open Go.RowKit Mvp Mvl
theorem posI_eq (c : UInt8) : Go.Lib.indexByte (mkS table).data.toList (Int.toNat (c.toNat : Int)).toUInt8 = posI c := by
  rw [mkS_toList]; simp [posI]
theorem fine_low (vs : List Nat) (hv : UInt64) (r : Nat) (h : hv.toNat = val 64 vs % 18446744073709551616) (hr : 6 * vs.length % 8 = r) (h6 : r ≠ 6) (hr8 : r < 8) : fine vs = (hv.toNat % 2 ^ r == 0) := by
  have e : hv.toNat % 2 ^ r = val 64 vs % 2 ^ r := by
    rw [h]
    have : 18446744073709551616 = 2 ^ r * 2 ^ (64 - r) := by rw [← Nat.pow_add, show r + (64 - r) = 64 by omega]
    rw [this, Nat.mod_mul_right_mod]
  simp [fine, hr, h6, e]
theorem and_low (k : Nat) (r : Nat) (hr : r ≤ 8) : bits .and .u64 (k : Int) (((2 ^ r - 1 : Nat) : Nat) : Int) = ((k % 2 ^ r : Nat) : Int) := by
  have h1 : BitVec.ofInt 64 (k : Int) = BitVec.ofNat 64 k := by simp
  have hp : 2 ^ r ≤ 2 ^ 8 := Nat.pow_le_pow_right (by decide) hr
  have h2 : (BitVec.ofNat 64 k &&& BitVec.ofInt 64 ((2 ^ r - 1 : Nat) : Int)).toNat = k % 2 ^ r := by
    have e : (BitVec.ofInt 64 ((2 ^ r - 1 : Nat) : Int)).toNat = 2 ^ r - 1 := by rw [ofInt_nat, BitVec.toNat_ofNat]; omega
    rw [BitVec.toNat_and, e, Nat.and_two_pow_sub_one_eq_mod, BitVec.toNat_ofNat]
    have : 2 ^ 64 = 2 ^ r * 2 ^ (64 - r) := by rw [← Nat.pow_add, show r + (64 - r) = 64 by omega]
    rw [this, Nat.mod_mul_right_mod]
  show IntKind.u64.wrap (((BitVec.ofInt 64 (k : Int) &&& BitVec.ofInt 64 ((2 ^ r - 1 : Nat) : Int)).toNat : Nat) : Int) = _
  rw [h1, h2, IntKind.wrap_u64]
  have : k % 2 ^ r < 2 ^ r := Nat.mod_lt _ (Nat.two_pow_pos r)
  omega
end Go.Mv
namespace Go.Proofs.Ytgkakddldobpkaa
open Go.RowKit Go.Mv Mvp Mvl
theorem info_b8 : (Try.prog.info? 5).map (fun i => (i.zero, i.size, i.bytes)) = some (some (.int .u8 0), 1, 1) := by kernel_rfl

theorem own0 (w : World) (s : List UInt8) : Own w w.heap.size 5 1 (.slice none 0 0) (6 * 0 / 8) (bs (decL (vals (s.take 0)))) := by
  have e : decL (vals (s.take 0)) = [] := List.eq_nil_of_length_eq_zero (by rw [decL_len, vals_len]; simp)
  rw [e]; exact Own.nil w w.heap.size _ 1
/-- what the walk shows -/
def Fl (p : List UInt8 × Nat) (w : World) (e : Ending) (w' : World) : Prop := ∃ v, e = .returned (.tuple #[v, .int .i64 (p.2 : Int)]) ∧ Own w' w.heap.size 5 1 v p.1.length (bs p.1) ∧ Fr Nob w w'

set_option maxHeartbeats 2000000 in
set_option maxRecDepth 1000000 in
theorem FromLetters_any (s : List UInt8) (w : World) (hs : s.length ≤ 140737488351232) :
    Calls Try.prog 36 #[.string (mkS s)] w (Fl (fromL s) w) := by
  have hsz : (mkS s).size = s.length := mkS_size s
  by_cases hlong : 131072 < s.length
  · have e : fromL s = ([], 1) := by unfold fromL; rw [if_pos hlong]
    rw [e]
    have hlI : (131072 : Int) < ((mkS s).size : Int) := by omega
    generalize mkS s = q at *
    go_enter Try.func36, Try.ntmps36
    go_wp2_with fail
    go_ret2
    exact ⟨_, rfl, Own.nil _ _ _ _, Fr.refl _ _⟩
  have hlI : ¬ (131072 : Int) < ((mkS s).size : Int) := by omega
  generalize hq : mkS s = q at *
  have HQ := Lib.hid hq; clear hq
  have HSZ := Lib.hid hsz; clear hsz
  have hfl : fromL s = if good s = false then ([], 2) else if fine (vals s) then (decL (vals s), 0) else ([], 2) := by unfold fromL; rw [if_neg hlong]
  have HFL := Lib.hid hfl; clear hfl
  go_enter Try.func36, Try.ntmps36
  have hB0 : w.heap.size ≤ w.heap.size := Nat.le_refl _
  go_wp2_with fail
  go_loopw [14, 4, 5, 6] (fun i v h b wr => ∃ (k : Nat) (hv : UInt64), k ≤ s.length ∧ i = .int .i64 (k : Int) ∧ h = .int .u64 (hv.toNat : Int) ∧ b = .int .i64 ((6 * k % 8 : Nat) : Int) ∧ good (s.take k) = true ∧ hv.toNat = val 64 (vals (s.take k)) % 18446744073709551616 ∧ Own wr w.heap.size 5 1 v (6 * k / 8) (bs (decL (vals (s.take k)))) ∧ Fr Nob w wr) (fun i _ _ _ _ => (s.length - intOf i).toNat)
  case atStart => exact ⟨0, 0, by omega, rfl, rfl, rfl, by simp [good], by simp [vals, val], own0 w s, Fr.refl _ _⟩
  case round =>
    obtain ⟨k, hv, hk, rfl, rfl, rfl, hgd, hhv, hown, hfr⟩ := hrel
    have HHV := Lib.hid hhv; clear hhv
    have HGD := Lib.hid hgd; clear hgd
    have hr6 : 6 * k % 8 < 8 := Nat.mod_lt _ (by decide)
    generalize hr : 6 * k % 8 = r at *
    have HR := Lib.hid hr; clear hr
    have hqs : (q.size : Int) = (s.length : Int) := by rw [HSZ.out]
    by_cases hlt : k < s.length
    · have hltI : (k : Int) < (q.size : Int) := by omega
      have hqk : q.data.toList.getD k 0 = s.getD k 0 := by rw [← HQ.out, mkS_toList]
      have hpc := pos_cases (s.getD k 0)
      have hgn := good_not s k hlt
      have hgt := good_take s k hlt HGD.out
      have hvs := vals_succ s k hlt
      generalize s.getD k 0 = c at *
      have HGN := Lib.hid hgn; clear hgn
      have HGT := Lib.hid hgt; clear hgt
      have HVS := Lib.hid hvs; clear hvs
      have HPC := Lib.hid hpc; clear hpc
      have HQS := Lib.hid hqs; clear hqs
      go_wp2_with (with_reducible refine wl_stop (o := ⟨some 19, _, _, _, _, _⟩) ?_)
      unfold Stop
      refine wl_index_str (y := c) rfl rfl Try.underlying9 rfl rfl k rfl (by omega) hqk ?_
      rw [letters_eq]
      go_wp2_with fail
      refine (Try.IndexByte (mkS table) _ wr).mono ?_
      rintro e w1 ⟨rfl, rfl⟩
      rw [posI_eq]
      rcases HPC.out with ⟨h1, _⟩ | ⟨h64, h1, _⟩
      · rw [h1]
        have e : fromL s = ([], 2) := by rw [HFL.out, if_pos (HGN.out (by rw [h1]; decide))]
        have E := Lib.hid e; clear e
        go_wp2_with fail
        go_ret2
        rw [E.out]
        exact ⟨_, rfl, Own.nil _ _ _ _, hfr⟩
      · rw [h1]
        have hgt2 := HGT.out (by rw [h1]; omega)
        have hsx := shl_or6 hv (posB c) _ HHV.out h64
        rw [← HVS.out] at hsx
        have hin := fun h => stream_in 8 (6 * k) (val 64 (vals (s.take k))) 6 (posB c).toNat (by decide) h64 (by decide) h
        have hno := fun h => stream_no 8 (6 * k) (val 64 (vals (s.take k))) 6 (posB c).toNat (by decide) h64 h
        rw [← HVS.out, HR.out] at hin
        rw [← HVS.out, HR.out] at hno
        have hd1 := decL_stream (vals (s.take k))
        have hd2 := decL_stream (vals (s.take (k + 1)))
        rw [vals_len, List.length_take, Nat.min_eq_left hk] at hd1
        rw [vals_len, List.length_take, Nat.min_eq_left hlt] at hd2
        have hlo := fun b hb => lo_eight (wo (shl hv 6) (wid (posB c))) _ b hsx hb
        generalize posB c = y at *
        have hy0 : ¬ (y.toNat : Int) < 0 := by omega
        have HGT2 := Lib.hid hgt2; clear hgt2
        have HSX := Lib.hid hsx; clear hsx
        have HIN := Lib.hid hin; clear hin
        have HNO := Lib.hid hno; clear hno
        have HD1 := Lib.hid hd1; clear hd1
        have HD2 := Lib.hid hd2; clear hd2
        have HLO := Lib.hid hlo; clear hlo
        clear h1
        by_cases hr2 : 2 ≤ r
        · obtain ⟨b, rfl⟩ : ∃ b, r = b + 2 := ⟨r - 2, by omega⟩
          have h8 : (8 : Int) ≤ ((b + 2 : Nat) : Int) + 6 := by omega
          have e8 : ((b + 2 : Nat) : Int) + 6 - 8 = (b : Int) := by omega
          go_wp2_with (with_reducible refine wl_stop (o := ⟨some 39, _, _, _, _, _⟩) ?_)
          unfold Stop
          refine wl_one rfl rfl Try.underlying22 info_b8 (lo8 (shr (wo (shl hv 6) (wid y)) b)) rfl ?_
          intro w2 hh2 hf2 hz2
          clear hz2
          have hown2 := hown.still hf2
          have hfr2 := hfr.then hf2
          clear hown hfr hf2
          go_wp2_with (with_reducible refine wl_stop (o := ⟨some 40, _, _, _, _, _⟩) ?_)
          unfold Stop
          refine wl_append rfl rfl Try.underlying22 info_b8 rfl (by decide) hown2 rfl rfl (Rd.whole hh2) (bs_one _) (by unfold maxLen; omega) (by omega) hfr2.size ?_
          intro v3 w3 hown3 hf3 hb3
          clear hb3
          have hfr3 := hown2.fr hfr2 (Nat.le_refl _) hf3
          have hown4 : Own w3 w.heap.size 5 1 v3 (6 * (k + 1) / 8) (bs (decL (vals (s.take (k + 1))))) := by
            have h1 := HIN.out (by omega)
            have h2 := HD2.out
            rw [show 6 * k.succ = 6 * k + 6 by omega, h1, List.map_append, ← HD1.out, show b + 2 + 6 - 8 = b by omega] at h2
            rw [h2, bs_append]
            have h3 := HLO.out b (by omega)
            rw [h3] at hown3
            rw [show 6 * (k + 1) / 8 = 6 * k / 8 + 1 by have := HR.out; omega]
            exact hown3
          clear hown3 hown2 hfr2 hf3 hh2
          have hsx2 := HSX
          generalize wo (shl hv 6) (wid y) = h2 at *
          go_wp2_with fail
          go_roundw
          case rel => exact ⟨k + 1, h2, by omega, by go_num, rfl, by have := HR.out; go_num, HGT2.out, hsx2.out, hown4, hfr3⟩
          case measure => simp [intOf]; omega
        · have h8 : ¬ (8 : Int) ≤ (r : Int) + 6 := by omega
          have hown4 : Own w1 w.heap.size 5 1 u4 (6 * (k + 1) / 8) (bs (decL (vals (s.take (k + 1))))) := by
            have h1 := HNO.out (by omega)
            have h2 := HD2.out
            rw [show 6 * k.succ = 6 * k + 6 by omega, h1, ← HD1.out] at h2
            rw [h2, show 6 * (k + 1) / 8 = 6 * k / 8 by have := HR.out; omega]
            exact hown
          clear hown
          go_wp2_with fail
          go_roundw
          case rel => exact ⟨k + 1, wo (shl hv 6) (wid y), by omega, by go_num, rfl, by have := HR.out; go_num, HGT2.out, HSX.out, hown4, hfr⟩
          case measure => simp [intOf]; omega
    · have hge : ¬ ((k : Int) < (q.size : Int)) := by omega
      obtain rfl : k = s.length := by omega
      rw [List.take_of_length_le (Nat.le_refl _)] at hown HHV HGD
      have hfl := HFL.out
      rw [HGD.out, if_neg (by decide)] at hfl
      have hrr : r = 0 ∨ r = 2 ∨ r = 4 ∨ r = 6 := by have := HR.out; omega
      have hfin := fun h6 => fine_low (vals s) hv r HHV.out (by rw [vals_len]; exact HR.out) h6 hr6
      have HQS := Lib.hid hqs; clear hqs
      have hl := decL_len (vals s)
      rw [vals_len] at hl
      by_cases h6 : r = 6
      · subst h6
        have hnf : fine (vals s) = false := by
          unfold fine
          rw [vals_len, HR.out]; rfl
        rw [hnf] at hfl
        have HE := Lib.hid hfl; clear hfl hfin hrr
        go_wp2_with fail
        go_ret2
        rw [HE.out]
        exact ⟨_, rfl, Own.nil _ _ _ _, hfr⟩
      have hfin := hfin h6
      rw [hfin] at hfl
      have HFN := Lib.hid hfl; clear hfl hfin
      have HL := Lib.hid hl; clear hl
      have hrr2 : r = 0 ∨ r = 2 ∨ r = 4 := by omega
      have hand := and_low hv.toNat r (by omega)
      have h6I : ¬ (6 : Int) ≤ (r : Int) := by omega
      clear hrr
      clear hfin
      generalize hz : hv.toNat % 2 ^ r = z at *
      clear hz
      by_cases h0 : z = 0
      · subst h0
        have hfl := HFN.out
        rw [if_pos (by rfl)] at hfl
        have HE := Lib.hid hfl; clear hfl
        rcases hrr2 with rfl | rfl | rfl
        all_goals
          simp at hand
          go_wp2_with fail
          go_ret2
          rw [HE.out]
          refine ⟨_, rfl, ?_, hfr⟩
          simp only [HL.out]
          exact hown
      · have hzI : ((z : Int) == 0) = false := by simpa using h0
        have hzN : (z == 0) = false := by simpa using h0
        have hfl := HFN.out
        rw [if_neg (by simpa using h0)] at hfl
        have HE := Lib.hid hfl; clear hfl h0
        rcases hrr2 with rfl | rfl | rfl
        all_goals
          simp at hand
          go_wp2_with fail
          go_ret2
          rw [HE.out]
          exact ⟨_, rfl, Own.nil _ _ _ _, hfr⟩
end Go.Proofs.Ytgkakddldobpkaa
