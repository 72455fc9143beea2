/- The reference's FromLetters. -/
import Derived.Test.YtgkakddldobpkaaLet6
namespace Mvl
/-- the bits that came in: i letters, and t bits of the next -/
def cum (s : List UInt8) (i t : Nat) : Nat := val 64 (vals (s.take i)) * 2 ^ t + (posB (s.getD i 0)).toNat / 2 ^ (6 - t)
theorem cum_zero (s : List UInt8) (i : Nat) (h : (posB (s.getD i 0)).toNat < 64) : cum s i 0 = val 64 (vals (s.take i)) := by
  unfold cum
  rw [Nat.div_eq_of_lt (by simpa using h)]; simp
theorem cum_all (s : List UInt8) (i : Nat) (hi : i < s.length) : cum s i 6 = val 64 (vals (s.take (i + 1))) := by
  rw [vals_succ s i hi]; simp [cum]
theorem cum_succ (s : List UInt8) (i t : Nat) (ht : t < 6) : cum s i (t + 1) = cum s i t * 2 ^ 1 + (posB (s.getD i 0)).toNat / 2 ^ (5 - t) % 2 := by
  unfold cum
  rw [show 6 - (t + 1) = 5 - t by omega, show 6 - t = 5 - t + 1 by omega, Nat.pow_succ 2 (5 - t), ← Nat.div_div_eq_div_mul, Nat.pow_succ 2 t, Nat.pow_one, Nat.add_mul, ← Nat.mul_assoc]
  omega
theorem low_succ (N u b : Nat) (hb : b < 2) : (u * 2 ^ 1 + b) % 2 ^ (N + 1) = 2 * (u % 2 ^ N) + b := by
  rw [Nat.pow_succ' (n := N), Nat.mod_mul, Nat.pow_one, show (u * 2 + b) / 2 = u by omega]; omega
end Mvl
namespace Go.Mv
open Go.RowKit
theorem and1_u8 (n : Nat) (h : n < 256) : bits .and .u8 (n : Int) 1 = ((n % 2 : Nat) : Int) := by
  have := u8_and_nat n 1 h (by decide)
  rw [Nat.and_one_is_mod] at this
  exact this
theorem byte_back (y : UInt8) (m z : Nat) (hz : z < 128) : (2 * (z : Int) + bits .and .u8 ((y.toNat : Int) / 2 ^ m % 256) 1) % 256 = ((2 * z + y.toNat / 2 ^ m % 2 : Nat) : Int) := by
  have hy := y.toNat_lt
  have e : ((y.toNat : Int) / 2 ^ m) = ((y.toNat / 2 ^ m : Nat) : Int) := by simp
  have hb : y.toNat / 2 ^ m ≤ y.toNat := Nat.div_le_self _ _
  generalize y.toNat / 2 ^ m = u at *
  have h1 : (u : Int) % 256 = (u : Int) := by omega
  rw [e, h1, and1_u8 _ (by omega)]
  omega
theorem nat_byte (z : Nat) (h : z < 256) : (UInt8.ofNat z).toNat = z := by simp; omega
end Go.Mv
namespace Go.Proofs.Ytgkakddldobpkaa
open Go.RowKit Go.Mv Mvp Mvl
/-- what the reference answers -/
def FlR (p : List UInt8 × Nat) (w : World) (e : Ending) (w' : World) : Prop := e = .returned (.tuple #[.string (mkS p.1), .int .i64 (p.2 : Int)]) ∧ Fr Nob w w'

set_option maxHeartbeats 2000000 in
set_option maxRecDepth 1000000 in
theorem FromLettersR_any (s : List UInt8) (w : World) (hs : s.length ≤ 140737488351232) :
    Calls Try.prog 38 #[.string (mkS s)] w (FlR (fromL s) w) := by
  have hsz : (mkS s).size = s.length := mkS_size s
  by_cases hlong : 131072 < s.length
  · have e : fromL s = ([], 1) := by unfold fromL; rw [if_pos hlong]
    rw [e]
    have hlI : (131072 : Int) < ((mkS s).size : Int) := by omega
    generalize mkS s = q at *
    go_enter Try.func38, Try.ntmps38
    go_wp2_with fail
    go_ret2
    exact ⟨rfl, Fr.refl _ _⟩
  have hlI : ¬ (131072 : Int) < ((mkS s).size : Int) := by omega
  have hfl : fromL s = if good s = false then ([], 2) else if fine (vals s) then (decL (vals s), 0) else ([], 2) := by unfold fromL; rw [if_neg hlong]
  have hback := back_there (vals s)
  generalize hq : mkS s = q at *
  have HQ := Lib.hid hq; clear hq
  have HSZ := Lib.hid hsz; clear hsz
  have HFL := Lib.hid hfl; clear hfl
  have HBT := Lib.hid hback; clear hback
  go_enter Try.func38, Try.ntmps38
  have hB0 : w.heap.size ≤ w.heap.size := Nat.le_refl _
  go_wp2_with fail
  go_loopw [7, 4, 5, 6] (fun i v n b wr => ∃ (k z : Nat), k ≤ s.length ∧ i = .int .i64 (k : Int) ∧ n = .int .i64 ((6 * k : Nat) : Int) ∧ b = .int .u8 (z : Int) ∧ z = val 64 (vals (s.take k)) % 2 ^ (6 * k % 8) ∧ good (s.take k) = true ∧ Own wr w.heap.size 5 1 v (6 * k / 8) (bs (decL (vals (s.take k)))) ∧ Fr Nob w wr) (fun i _ _ _ _ => (s.length - intOf i).toNat)
  case atStart => exact ⟨0, 0, by omega, rfl, rfl, rfl, by simp [vals, val], by simp [good], own0 w s, Fr.refl _ _⟩
  case round =>
    obtain ⟨k, z, hk, rfl, rfl, rfl, hz, hgd, hown, hfr⟩ := hrel
    have HGD := Lib.hid hgd; clear hgd
    have hqs : (q.size : Int) = (s.length : Int) := by rw [HSZ.out]
    by_cases hlt : k < s.length
    · have hltI : (k : Int) < (q.size : Int) := by omega
      have hqk : q.data.toList.getD k 0 = s.getD k 0 := by rw [← HQ.out, mkS_toList]
      have hpc := pos_cases (s.getD k 0)
      have hgn := good_not s k hlt
      have hgt := good_take s k hlt HGD.out
      have hc0 := cum_zero s k
      have hc6 := cum_all s k hlt
      have hcs := cum_succ s k
      have hd1 := decL_stream (vals (s.take k))
      have hd2 := decL_stream (vals (s.take (k + 1)))
      rw [vals_len, List.length_take, Nat.min_eq_left hk] at hd1
      rw [vals_len, List.length_take, Nat.min_eq_left hlt] at hd2
      generalize hc : s.getD k 0 = c at *
      clear hc
      have HGN := Lib.hid hgn; clear hgn
      have HGT := Lib.hid hgt; clear hgt
      have HPC := Lib.hid hpc; clear hpc
      have HC0 := Lib.hid hc0; clear hc0
      have HC6 := Lib.hid hc6; clear hc6
      have HCS := Lib.hid hcs; clear hcs
      have HD1 := Lib.hid hd1; clear hd1
      have HD2 := Lib.hid hd2; clear hd2
      have HQS := Lib.hid hqs; clear hqs
      have HZ := Lib.hid hz; clear hz
      obtain ⟨w1, hw1⟩ : ∃ w1, w1 = wr := ⟨_, rfl⟩
      subst hw1
      go_wp2_with (with_reducible refine wl_stop (o := ⟨some 21, _, _, _, _, _⟩) ?_)
      unfold Stop
      refine wl_index_str (y := c) rfl rfl Try.underlying9 rfl rfl k rfl (by omega) hqk ?_
      go_wp2_with fail
      refine (placeR_any c w1).mono ?_
      rintro e w1 ⟨rfl, rfl⟩
      rcases HPC.out with ⟨h1, _⟩ | ⟨h64, h1, _⟩
      · rw [h1]
        have e : fromL s = ([], 2) := by rw [HFL.out, if_pos (HGN.out (by rw [h1]; decide))]
        have E := Lib.hid e; clear e
        go_wp2_with fail
        go_ret2
        rw [E.out]
        exact ⟨rfl, hfr⟩
      · rw [h1]
        have hgt2 := HGT.out (by rw [h1]; omega)
        have HGT2 := Lib.hid hgt2; clear hgt2
        have hc0 := HC0.out h64
        have HC0' := Lib.hid hc0; clear hc0
        have hy0 : ¬ ((posB c).toNat : Int) < 0 := by omega
        generalize posB c = y at *
        clear h1
        go_wp2_with fail
        go_loopw [9, 4, 5, 6] (fun kk v n b wq => ∃ (t N z : Nat), t ≤ 6 ∧ kk = .int .i64 (5 - (t : Int)) ∧ N = 6 * k + t ∧ n = .int .i64 (N : Int) ∧ b = .int .u8 (z : Int) ∧ z = cum s k t % 2 ^ (N % 8) ∧ Own wq w.heap.size 5 1 v (N / 8) (bs ((stream 8 N (cum s k t)).map UInt8.ofNat)) ∧ Fr Nob w wq) (fun kk _ _ _ _ => (intOf kk + 1).toNat)
        case atStart => exact ⟨0, 6 * k, z, by omega, by go_num, by omega, rfl, rfl, by rw [HC0'.out]; exact HZ.out, by rw [HC0'.out, ← HD1.out]; exact hown, hfr⟩
        case round =>
          clear hown hfr HZ w1
          obtain ⟨t, N, z, ht, rfl, hN, rfl, rfl, hz, hown, hfr⟩ := hrel
          by_cases ht6 : t < 6
          · have htI : (0 : Int) ≤ 5 - (t : Int) := by omega
            have e5 : (5 : Int) - (t : Int) = ((5 - t : Nat) : Int) := by omega
            have hcs := HCS.out t ht6
            have hbl : y.toNat / 2 ^ (5 - t) % 2 < 2 := Nat.mod_lt _ (by decide)
            have hzl : z < 128 ∨ N % 8 = 8 := by
              left
              rw [hz]
              have : N % 8 ≤ 7 := by omega
              exact Nat.lt_of_lt_of_le (Nat.mod_lt _ (Nat.two_pow_pos _)) (Nat.pow_le_pow_right (by decide) this)
            have hzl : z < 128 := by omega
            have hlow := low_succ (N % 8) (cum s k t) _ hbl
            rw [← hcs, ← hz] at hlow
            have HLOW := Lib.hid hlow
            have HHZ := Lib.hid hz
            have HN := Lib.hid hN
            have hNb : N ≤ 1000000 := by omega
            clear hlow hz hcs hN
            have hz2 : 2 * z + y.toNat / 2 ^ (5 - t) % 2 < 256 := by omega
            have hback := byte_back y (5 - t) z hzl
            have HBK := Lib.hid hback; clear hback
            have hcs := HCS.out t ht6
            by_cases h8 : N % 8 = 7
            · have h8I : (((N : Int) + 1) % 8 == 0) = true := by simp; omega
              have hin := stream_in 8 N (cum s k t) 1 (y.toNat / 2 ^ (5 - t) % 2) (by decide) (by simpa using hbl) (by decide) (by omega)
              rw [← hcs, h8, show 7 + 1 - 8 = 0 from rfl, Nat.pow_zero, Nat.div_one] at hin
              have hlow := HLOW.out
              rw [h8] at hlow
              have hin2 : stream 8 (N + 1) (cum s k (t + 1)) = stream 8 N (cum s k t) ++ [2 * z + y.toNat / 2 ^ (5 - t) % 2] := by rw [hin]; congr 2
              have HIN := Lib.hid hin2; clear hin hin2 hlow hcs HLOW
              go_wp2_with (with_reducible refine wl_stop (o := ⟨some 44, _, _, _, _, _⟩) ?_)
              unfold Stop
              rw [HBK.out]
              clear HBK
              generalize 2 * z + y.toNat / 2 ^ (5 - t) % 2 = z2 at *
              have hzb := nat_byte z2 hz2
              refine wl_one rfl rfl Try.underlying22 info_b8 (UInt8.ofNat z2) (by rw [hzb]; rfl) ?_
              have HZB := Lib.hid hzb; clear hzb
              intro w2 hh2 hf2 hz2
              clear hz2
              have hown2 := hown.still hf2
              have hfr2 := hfr.then hf2
              clear hown hfr hf2
              go_wp2_with (with_reducible refine wl_stop (o := ⟨some 45, _, _, _, _, _⟩) ?_)
              unfold Stop
              refine wl_append rfl rfl Try.underlying22 info_b8 rfl (by decide) hown2 rfl rfl (Rd.whole hh2) (bs_one _) (by unfold maxLen; omega) (by omega) hfr2.size ?_
              intro v3 w3 hown3 hf3 hb3
              clear hb3
              have hfr3 := hown2.fr hfr2 (Nat.le_refl _) hf3
              have hown4 : Own w3 w.heap.size 5 1 v3 ((N + 1) / 8) (bs ((stream 8 (N + 1) (cum s k (t + 1))).map UInt8.ofNat)) := by
                rw [HIN.out, List.map_append, bs_append, show (N + 1) / 8 = N / 8 + 1 by omega]; exact hown3
              clear hown3 hown2 hfr2 hf3 hh2
              go_wp2_with fail
              go_roundw
              case rel => exact ⟨t + 1, N + 1, 0, by omega, by go_num, by have := HN.out; omega, by go_num, rfl, by rw [show (N + 1) % 8 = 0 by omega, Nat.pow_zero, Nat.mod_one], hown4, hfr3⟩
              case measure => simp [intOf]; omega
            · have h8I : (((N : Int) + 1) % 8 == 0) = false := by simp; omega
              have hno := stream_no 8 N (cum s k t) 1 (y.toNat / 2 ^ (5 - t) % 2) (by decide) (by simpa using hbl) (by omega)
              rw [← hcs] at hno
              have HNO := Lib.hid hno; clear hno hcs
              go_wp2_with fail
              rw [HBK.out]
              go_roundw
              case rel => exact ⟨t + 1, N + 1, 2 * z + y.toNat / 2 ^ (5 - t) % 2, by omega, by go_num, by have := HN.out; omega, by go_num, rfl, by rw [← HLOW.out, show (N + 1) % 8 = N % 8 + 1 by omega], by rw [HNO.out, show (N + 1) / 8 = N / 8 by omega]; exact hown, hfr⟩
              case measure => simp [intOf]; omega
          · have htI : ¬ (0 : Int) ≤ 5 - (t : Int) := by omega
            obtain rfl : t = 6 := by omega
            have HN := Lib.hid hN
            have hNb : N ≤ 1000000 := by omega
            have HHZ := Lib.hid hz
            clear hN hz
            go_wp2_with fail
            go_roundw
            case rel => exact ⟨k + 1, z, by omega, by go_num, by have := HN.out; go_num, rfl, by rw [HHZ.out, HC6.out, HN.out]; rfl, HGT2.out, by
              have h1 := HN.out
              rw [HD2.out, show 6 * k.succ = N by omega, ← HC6.out]; exact hown, hfr⟩
            case measure => simp [intOf]; omega
    · have hge : ¬ ((k : Int) < (q.size : Int)) := by omega
      obtain rfl : k = s.length := by omega
      rw [List.take_of_length_le (Nat.le_refl _)] at hown HGD
      have hl := decL_len (vals s)
      rw [vals_len] at hl
      have HL := Lib.hid hl
      have hbt := HBT.out (good_lt s HGD.out)
      rw [good_letters s HGD.out] at hbt
      have hfl := HFL.out
      rw [HGD.out, if_neg (by decide)] at hfl
      have HBT2 := Lib.hid hbt; clear hbt
      have HF := Lib.hid hfl; clear hfl
      clear hz
      obtain ⟨a, c, rfl, _, hr, _⟩ := hown.form
      rw [Nat.mul_one] at hr
      have hrb : RdB wr a (6 * s.length / 8) (decL (vals s)) := hr
      have e1 := fun nq => run_string (P := Try.prog) (RdB.still hrb ((Fr.refl Nob wr).drewN nq)) c Try.underlying22 Try.underlying5 Try.underlying9
      have e2 := run_string (P := Try.prog) hrb c Try.underlying22 Try.underlying5 Try.underlying9
      have hlm : (decL (vals s)).length ≤ 1000000 := by rw [hl]; omega
      clear hl
      generalize decL (vals s) = d at *
      obtain ⟨w1, hw1⟩ : ∃ w1, w1 = wr := ⟨_, rfl⟩
      subst hw1
      go_wp2_with fail
      refine (LettersR_any d w1 hlm).mono ?_
      rintro e w2 ⟨rfl, hf2⟩
      have hqe := HQ.out
      by_cases hf : lettersL d = s
      · have hb1 : ((mkS (lettersL d)).toList == q.toList) = true := by rw [← hqe, beq_mkS]; exact decide_eq_true hf
        have hfe : fromL s = (d, 0) := by rw [HF.out, if_pos (HBT2.out.1 hf)]
        have HFE := Lib.hid hfe
        clear hqe hf hfe
        have e3 := run_string (P := Try.prog) (RdB.still hrb hf2) c Try.underlying22 Try.underlying5 Try.underlying9
        go_wp2_with fail
        go_ret2
        rw [HFE.out]
        exact ⟨rfl, hfr.then hf2⟩
      · have hb1 : ((mkS (lettersL d)).toList == q.toList) = false := by rw [← hqe, beq_mkS]; exact decide_eq_false hf
        have hfe : fromL s = ([], 2) := by rw [HF.out, if_neg (fun h => hf (HBT2.out.2 h))]
        have HFE := Lib.hid hfe
        clear hqe hf hfe
        go_wp2_with fail
        go_ret2
        rw [HFE.out]
        exact ⟨rfl, hfr.then hf2⟩
end Go.Proofs.Ytgkakddldobpkaa
