/- mont's and the reference's Bytes; Bit. -/
import Derived.Test.YtmegaegedlbckaaNm8
import Derived.Test.YtmegaegedlbckaaLent
namespace Go.Proofs.Ytmegaegedlbckaa
open Go.RowKit Go.Mv Mvp
theorem ret_intN {k : IntKind} {a b : Int} (h : a = b) : Ending.returned (.int k a) = .returned (.int k b) := by rw [h]
attribute [local irreducible] limbs lw mix cw cSub cAdd cMul foldC valFrom beN laid be32

set_option maxHeartbeats 2000000 in
set_option maxRecDepth 100000 in
theorem MBytes_any (N : Nat) (w : World) :
    Calls Try.prog 37 #[i4 N] w fun e w' => ∃ v, e = .returned v ∧ Own w' w.heap.size 5 1 v 32 (bs (be32 N)) ∧ Fr Nob w w' := by
  have st0 := St.start Nob w
  go_enter Try.func37, Try.ntmps37
  go_wp2_with (with_reducible refine wl_stop (o := ⟨some 1, _, _, _, _, _⟩) ?_)
  refine wl_boxS st0 rfl rfl rfl (cw 4 N) rfl ?_
  intro g1 w1 st1
  clear st0
  go_wp2_with (with_reducible refine wl_stop (o := ⟨some 6, _, _, _, _, _⟩) ?_)
  refine wl_make rfl rfl Try.underlying29 info_u8 rfl rfl rfl 32 32 (by simp) (by simp) (by omega) (by omega) (by unfold maxLen; omega) ?_
  intro w2 hg2 hf2 hz2
  clear hz2
  have hb2 : w.heap.size ≤ w1.heap.size := st1.fr.size
  have st2 := st1.new hf2 hg2 (Nat.le_refl _)
  clear st1 hg2 hf2
  generalize w1.heap.size = gb at *
  have HBB := Lib.hid hb2; clear hb2
  go_wp2
  go_loopw [9] (fun i wr => ∃ k : Nat, k ≤ 32 ∧ i = .int .i64 (k : Int) ∧ St Nob w wr [(g1, cw 4 N, 66), (gb, bs (fill (be32 N) (List.replicate 32 0) k), 5)]) (fun i _ => 32 - (intOf i).toNat)
  case atStart => exact ⟨0, by omega, rfl, st2⟩
  case round =>
    obtain ⟨i, hi, rfl, st⟩ := hrel
    clear st2
    by_cases hlt : i < 32
    · have hltI : (i : Int) < 32 := by omega
      have hd1 : (31 : Int) - (i : Int) = ((31 - i : Nat) : Int) := by omega
      have hgl := be32_get N i hlt
      have hgb := byte_of N (31 - i)
      have hk32 : 31 - i < 32 := by omega
      generalize hk : 31 - i = k at *
      have HK := Lib.hid hk; clear hk
      have HGL := Lib.hid hgl; clear hgl
      have HGB := Lib.hid hgb; clear hgb
      have c1 := (st.at 0 rfl).cell (cw_get 4 N (k / 8) (by omega))
      obtain ⟨v3, c3, f3⟩ := (st.at 1 rfl).ready (i := i) (by rw [length_bs, fill_length _ _ _ (by rw [be32_len]; simp)]; simpa using hlt)
      have hlo : (0 : Int) ≤ (k : Int) / 8 ∧ (k : Int) / 8 < 4 := by omega
      have e4 : ((k : Int) / 8).toNat = k / 8 := by omega
      go_wp2
      go_roundw
      case rel =>
        have h1 := st.set 1 rfl i (.int .u8 (((be32 N).getD i 0).toNat : Int))
        rw [bs_set, fill_set _ _ _ (by rw [be32_len]; simp) (by rw [be32_len]; omega)] at h1
        have e : (((be32 N).getD i 0).toNat : Int) = (lw N (k / 8) : Int) / 2 ^ (8 * (k % 8)) % 256 := by
          rw [HGL.out, UInt8.toNat_ofNat']
          have := HGB.out
          rw [show (2 : Nat) ^ 8 = 256 from rfl, ← this]
          simp
        rw [e] at h1
        exact ⟨i + 1, by omega, by go_num, h1⟩
      case measure => simp [intOf]; omega
    · have hge : ¬ ((i : Int) < 32) := by omega
      have hi32 : i = 32 := by omega
      have hown : Own wr w.heap.size 5 1 (.slice (some ⟨gb, 0, none⟩) 32 32) 32 (bs (be32 N)) := by
        have h := st.at 1 rfl
        rw [hi32, fill_all _ _ _ (by rw [be32_len]; simp) (by rw [be32_len]; exact Nat.le_refl _)] at h
        have := Own.made h w.heap.size HBB.out 1 32 32 (Nat.le_refl _) (by unfold maxLen; omega) (by rw [length_bs, be32_len]; omega)
        rwa [List.take_of_length_le (by rw [length_bs, be32_len]; exact Nat.le_refl _)] at this
      have hfr := st.fr
      clear st hi32
      go_wp2
      go_ret
      exact ⟨_, rfl, hown, hfr⟩
set_option maxHeartbeats 2000000 in
set_option maxRecDepth 100000 in
theorem RBytes_any (N : Nat) (w : World) :
    Calls Try.prog 17 #[i4 N] w fun e w' => e = .returned (.string (mkS (be32 N))) ∧ Fr Nob w w' := by
  have st0 := St.start Nob w
  go_enter Try.func17, Try.ntmps17
  go_wp2_with (with_reducible refine wl_stop (o := ⟨some 1, _, _, _, _, _⟩) ?_)
  refine wl_boxS st0 rfl rfl rfl (cw 4 N) rfl ?_
  intro g1 w1 st1
  clear st0
  go_wp2_with (with_reducible refine wl_stop (o := ⟨some 6, _, _, _, _, _⟩) ?_)
  refine wl_make rfl rfl Try.underlying29 info_u8 rfl rfl rfl 32 32 (by simp) (by simp) (by omega) (by omega) (by unfold maxLen; omega) ?_
  intro w2 hg2 hf2 hz2
  clear hz2
  have hb2 : w.heap.size ≤ w1.heap.size := st1.fr.size
  have st2 := st1.new hf2 hg2 (Nat.le_refl _)
  clear st1 hg2 hf2
  generalize w1.heap.size = gb at *
  have HBB := Lib.hid hb2; clear hb2
  go_wp2
  go_loopw [4] (fun i wr => ∃ k : Nat, k ≤ 32 ∧ i = .int .i64 (k : Int) ∧ St Nob w wr [(g1, cw 4 N, 38), (gb, bs (fill (be32 N) (List.replicate 32 0) k), 5)]) (fun i _ => 32 - (intOf i).toNat)
  case atStart => exact ⟨0, by omega, rfl, st2⟩
  case round =>
    obtain ⟨i, hi, rfl, st⟩ := hrel
    clear st2
    by_cases hlt : i < 32
    · have hltI : (i : Int) < 32 := by omega
      have hd1 : (31 : Int) - (i : Int) = ((31 - i : Nat) : Int) := by omega
      have hgl := be32_get N i hlt
      have hgb := byte_of N (31 - i)
      have hk32 : 31 - i < 32 := by omega
      generalize hk : 31 - i = k at *
      have HK := Lib.hid hk; clear hk
      have HGL := Lib.hid hgl; clear hgl
      have HGB := Lib.hid hgb; clear hgb
      have c1 := (st.at 0 rfl).cell (cw_get 4 N (k / 8) (by omega))
      obtain ⟨v3, c3, f3⟩ := (st.at 1 rfl).ready (i := i) (by rw [length_bs, fill_length _ _ _ (by rw [be32_len]; simp)]; simpa using hlt)
      have hlo : (0 : Int) ≤ (k : Int) / 8 ∧ (k : Int) / 8 < 4 := by omega
      have e4 : ((k : Int) / 8).toNat = k / 8 := by omega
      go_wp2
      go_roundw
      case rel =>
        have h1 := st.set 1 rfl i (.int .u8 (((be32 N).getD i 0).toNat : Int))
        rw [bs_set, fill_set _ _ _ (by rw [be32_len]; simp) (by rw [be32_len]; omega)] at h1
        have e : (((be32 N).getD i 0).toNat : Int) = (lw N (k / 8) : Int) / 2 ^ (8 * (k % 8)) % 256 := by
          rw [HGL.out, UInt8.toNat_ofNat']
          have := HGB.out
          rw [show (2 : Nat) ^ 8 = 256 from rfl, ← this]
          simp
        rw [e] at h1
        exact ⟨i + 1, by omega, by go_num, h1⟩
      case measure => simp [intOf]; omega
    · have hge : ¬ ((i : Int) < 32) := by omega
      have hi32 : i = 32 := by omega
      have hrd : RdB wr (some ⟨gb, 0, none⟩) 32 (be32 N) := by
        have h := st.at 1 rfl
        rw [hi32, fill_all _ _ _ (by rw [be32_len]; simp) (by rw [be32_len]; exact Nat.le_refl _)] at h
        have := Rd.whole h
        rwa [length_bs, be32_len] at this
      have hfr := st.fr
      clear st hi32
      go_wp2_with (with_reducible refine wl_stop (o := ⟨some 26, _, _, _, _, _⟩) ?_)
      refine wl_string rfl rfl Try.underlying29 Try.underlying5 Try.underlying9 rfl hrd ?_
      go_wp2
      go_ret
      exact ⟨rfl, hfr⟩

set_option maxHeartbeats 2000000 in
set_option maxRecDepth 100000 in
theorem RBit_any (N i : Nat) (w : World) (hi : i < 256) :
    Calls Try.prog 61 #[i4 N, .int .i64 (i : Int)] w fun e w' => e = .returned (.int .u64 ((N / 2 ^ i % 2 : Nat) : Int)) ∧ Fr Nob w w' := by
  have hb := bit_of N i
  have HB := Lib.hid hb; clear hb
  have st0 := St.start Nob w
  go_enter Try.func61, Try.ntmps61
  go_wp2_with (with_reducible refine wl_stop (o := ⟨some 2, _, _, _, _, _⟩) ?_)
  refine wl_boxS st0 rfl rfl rfl (cw 4 N) rfl ?_
  intro g1 w1 st1
  clear st0
  have c1 := (st1.at 0 rfl).cell (cw_get 4 N (i / 64) (by omega))
  have hlo : (0 : Int) ≤ (i : Int) / 64 ∧ (i : Int) / 64 < 4 := by omega
  have hlo2 : (0 : Int) ≤ (i : Int) % 64 ∧ (i : Int) % 64 < 64 := by omega
  have e4 : ((i : Int) / 64).toNat = i / 64 := by omega
  have e5 : ((i : Int) % 64).toNat = i % 64 := by omega
  have hfr := st1.fr
  clear st1
  have hw : lw N (i / 64) / 2 ^ (i % 64) < 18446744073709551616 := Nat.lt_of_le_of_lt (Nat.div_le_self _ _) (lw_lt _ _)
  have ha := bits_and_u64_nat (lw N (i / 64) / 2 ^ (i % 64)) 1 hw (by omega)
  rw [Nat.and_one_is_mod] at ha
  simp only [Int.natCast_ediv, Int.natCast_pow, Int.cast_ofNat_Int, Int.natCast_one] at ha
  go_wp2
  go_ret
  refine ⟨ret_intN ?_, hfr⟩
  rw [← HB.out]
  simp

set_option maxHeartbeats 2000000 in
set_option maxRecDepth 100000 in
theorem MBit_any (N i : Nat) (w : World) (hi : i < 256) :
    Calls Try.prog 79 #[i4 N, .int .i64 (i : Int)] w fun e w' => e = .returned (.int .u64 ((N / 2 ^ i % 2 : Nat) : Int)) ∧ Fr Nob w w' := by
  have hb := bit_of N i
  have HB := Lib.hid hb; clear hb
  have st0 := St.start Nob w
  go_enter Try.func79, Try.ntmps79
  go_wp2_with (with_reducible refine wl_stop (o := ⟨some 2, _, _, _, _, _⟩) ?_)
  refine wl_boxS st0 rfl rfl rfl (cw 4 N) rfl ?_
  intro g1 w1 st1
  clear st0
  have c1 := (st1.at 0 rfl).cell (cw_get 4 N (i / 64) (by omega))
  have hlo : (0 : Int) ≤ (i : Int) / 64 ∧ (i : Int) / 64 < 4 := by omega
  have hlo2 : (0 : Int) ≤ (i : Int) % 64 ∧ (i : Int) % 64 < 64 := by omega
  have e4 : ((i : Int) / 64).toNat = i / 64 := by omega
  have e5 : ((i : Int) % 64).toNat = i % 64 := by omega
  have hfr := st1.fr
  clear st1
  have hw : lw N (i / 64) / 2 ^ (i % 64) < 18446744073709551616 := Nat.lt_of_le_of_lt (Nat.div_le_self _ _) (lw_lt _ _)
  have ha := bits_and_u64_nat (lw N (i / 64) / 2 ^ (i % 64)) 1 hw (by omega)
  rw [Nat.and_one_is_mod] at ha
  simp only [Int.natCast_ediv, Int.natCast_pow, Int.cast_ofNat_Int, Int.natCast_one] at ha
  go_wp2
  go_ret
  refine ⟨ret_intN ?_, hfr⟩
  rw [← HB.out]
  simp
end Go.Proofs.Ytmegaegedlbckaa
