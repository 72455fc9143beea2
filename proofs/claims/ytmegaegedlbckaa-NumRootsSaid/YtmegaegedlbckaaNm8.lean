/- Bytes and bits of numbers: the reference's Of, Bytes, Bit; mont's FromBytes, Bytes, Bit. -/
import Derived.Test.YtmegaegedlbckaaNm7
import Derived.Test.YtmegaegedlbckaaNb1
import Derived.StillTailTactics
namespace Go.Proofs.Ytmegaegedlbckaa
open Go.RowKit Go.Mv Mvp
attribute [local irreducible] limbs lw mix cw cSub cAdd cMul foldC valFrom beN laid be32

theorem wid_shl (x : UInt8) (r : Nat) (hr : r + 8 ≤ 64) : (shl (wid x) r).toNat = x.toNat * 2 ^ r := by
  have hx := x.toNat_lt
  have h1 : x.toNat * 2 ^ r < 2 ^ (r + 8) := byte_shift_lt x.toNat r hx
  have h2 : 2 ^ (r + 8) ≤ 2 ^ 64 := Nat.pow_le_pow_right (by omega) hr
  simp only [shl, wid, UInt64.toNat_ofNat', UInt8.toNat_toUInt64]
  exact Nat.mod_eq_of_lt (Nat.lt_of_lt_of_le h1 h2)

set_option maxHeartbeats 2000000 in
set_option maxRecDepth 100000 in
theorem Of_any (s : ByteArray) (w : World) (hs : s.size ≤ 32) :
    Calls Try.prog 54 #[.string s] w fun e w' => e = .returned (i4 (beN s.data.toList)) ∧ Fr Nob w w' := by
  have HS := Lib.hid hs
  have hsz : s.data.toList.length = s.size := by simp
  have HSZ := Lib.hid hsz
  clear hs hsz
  have st0 := St.start Nob w
  go_enter Try.func54, Try.ntmps54
  go_wp2_with (with_reducible refine wl_stop (o := ⟨some 2, _, _, _, _, _⟩) ?_)
  refine wl_allocS st0 rfl rfl (z := .agg #[.int .u64 0, .int .u64 0, .int .u64 0, .int .u64 0]) (by kernel_rfl) (cw 4 0) (by rw [cw_zero]; rfl) ?_
  intro g2 w1 st1
  clear st0
  go_wp2_with (with_reducible refine wl_stop (o := ⟨some 3, _, _, _, _, _⟩) ?_)
  refine wl_allocS st1 rfl rfl (z := .agg #[.int .u64 0, .int .u64 0, .int .u64 0, .int .u64 0]) (by kernel_rfl) (cw 4 0) (by rw [cw_zero]; rfl) ?_
  intro g3 w2 st2
  clear st1
  have hmx : s.size ≤ 32 := HS.out
  go_wp2
  go_loopw [4] (fun i wr => ∃ k : Nat, k ≤ s.size ∧ i = .int .i64 (k : Int) ∧ St Nob w wr [(g2, cw 4 0, 38), (g3, cw 4 (laid s.data.toList k), 38)]) (fun i _ => s.size - (intOf i).toNat)
  case atStart => exact ⟨0, by omega, rfl, by rw [laid_zero]; exact st2⟩
  case round =>
    obtain ⟨i, hi, rfl, st⟩ := hrel
    clear st2
    by_cases hlt : i < s.size
    · have hltI : (i : Int) < (s.size : Int) := by omega
      have hll : i < s.data.toList.length := by rw [HSZ.out]; exact hlt
      have hstep := of_step 4 (laid s.data.toList i) (s.size - 1 - i) (s.data.toList.getD i 0).toNat (UInt8.toNat_lt _) (by have := laid_mod s.data.toList i hll; rwa [HSZ.out] at this) (by omega)
      have hsucc := laid_succ s.data.toList i hll
      rw [HSZ.out] at hsucc
      rw [← hsucc] at hstep
      have hx : ∀ h1 : i < s.size, s[i]'h1 = s.data.toList.getD i 0 := by
        intro h1
        rw [List.getD_eq_getElem?_getD, List.getElem?_eq_getElem (by simpa using h1)]
        simp
        rfl
      have hd1 : (s.size : Int) - 1 - (i : Int) = ((s.size - 1 - i : Nat) : Int) := by omega
      generalize hN' : laid s.data.toList (i + 1) = N' at *
      have HN' := Lib.hid hN'; clear hN'
      generalize hN : laid s.data.toList i = N at *
      generalize s.data.toList.getD i 0 = x at *
      have hk32 : s.size - 1 - i < 32 := by omega
      generalize hk : s.size - 1 - i = k at *
      have HN := Lib.hid hN; clear hN
      have HK := Lib.hid hk; clear hk
      have HSTEP := Lib.hid hstep; clear hstep
      have HD := Lib.hid hd1; clear hd1 hsucc hll
      have c1 := (st.at 1 rfl).cell (cw_get 4 N (k / 8) (by omega))
      have f1 := (st.at 1 rfl).free (k / 8) (by rw [cw_len]; omega)
      have hlo : (0 : Int) ≤ (k : Int) / 8 ∧ (k : Int) / 8 < 4 := by omega
      have hor := bits_or_u64_nat (lw N (k / 8)) ((shl (wid x) (8 * (k % 8))).toNat) (lw_lt _ _) (u64_lt _)
      rw [wid_shl x (8 * (k % 8)) (by omega)] at hor
      simp only [Int.natCast_mul, Int.natCast_pow, Int.cast_ofNat_Int] at hor
      have HSH := Lib.hid (wid_shl x (8 * (k % 8)) (by omega))
      go_wp2_with fail
      rw [HD.out]
      have e1 : IntKind.i64.wrap ((k : Int) / 8) = (k : Int) / 8 := IntWalk.i64_in _ (by omega)
      have e2 : (k : Int).tmod 8 = (k : Int) % 8 := Int.tmod_eq_emod_of_nonneg (by omega)
      have e3 : IntKind.i64.wrap (8 * ((k : Int) % 8)) = 8 * ((k : Int) % 8) := IntWalk.i64_in _ (by omega)
      have e4 : ((k : Int) / 8).toNat = k / 8 := by omega
      refine wp_region_still_tail 16 (by kernel_rfl) (by kernel_rfl) ?_
      simp only [List.take_succ_cons, List.take_zero, List.drop_succ_cons, List.drop_zero]
      repeat still_step
      refine wpStill_nil ?_
      have hsh := HSH.out
      have hst := (st.set 1 rfl (k / 8) (.int .u64 ((lw N (k / 8) ||| x.toNat * 2 ^ (8 * (k % 8)) : Nat) : Int))).drew
      have hS : (cw 4 N).set (k / 8) (.int .u64 ((lw N (k / 8) ||| x.toNat * 2 ^ (8 * (k % 8)) : Nat) : Int)) = cw 4 N' := by
        rw [cw, us_set, HSTEP.out, cw]
      rw [hS] at hst
      have HST := Lib.hid hst
      clear hst hS
      go_wp2
      go_roundw
      case rel => exact ⟨i + 1, by omega, by go_num, by rw [HN'.out]; exact HST.out⟩
      case measure => simp [intOf]; omega
    · have hge : ¬ ((i : Int) < (s.size : Int)) := by omega
      have hi2 : i = s.data.toList.length := by rw [HSZ.out]; omega
      rw [hi2, laid_all] at st
      clear hi2
      go_wp2_with (with_reducible refine wl_stop (o := ⟨some 33, _, _, _, _, _⟩) ?_)
      refine wl_loadS st 1 rfl rfl rfl Try.underlying38 rfl (by rw [cw_len]; exact size_n) ?_
      go_wp2_with (with_reducible refine wl_stop (o := ⟨none, _, _, _, _, _⟩) ?_)
      refine wl_storeS st 0 rfl rfl rfl rfl rfl (by rw [cw_len, cw_len]) (by rw [cw_len]; exact size_n) (cw_one _ _) ?_
      intro w9 st9
      clear st
      have hr := st9.at 0 rfl
      have hfr := st9.fr
      clear st9
      go_wp2
      exact bodyPost_ret (results_arr rfl rfl hr Try.underlying38 (by rw [cw_len]; exact size_n)) rfl ⟨rfl, hfr⟩
theorem size_mi : (Try.prog.info? 66).map (·.size) = some 4 := by kernel_rfl
set_option maxHeartbeats 2000000 in
set_option maxRecDepth 100000 in
theorem FromBytes_any (a : Option Addr) (n c : Nat) (l : List UInt8) (w : World) (hb : RdB w a n l) (hs : n ≤ 32) :
    Calls Try.prog 65 #[.slice a n c] w fun e w' => e = .returned (i4 (beN l)) ∧ Fr Nob w w' := by
  have HS := Lib.hid hs
  have hsz : l.length = n := hb.len
  have HBB := Lib.hid hb; clear hb
  have HSZ := Lib.hid hsz
  clear hs hsz
  have st0 := St.start Nob w
  go_enter Try.func65, Try.ntmps65
  go_wp2_with (with_reducible refine wl_stop (o := ⟨some 2, _, _, _, _, _⟩) ?_)
  refine wl_allocS st0 rfl rfl (z := .agg #[.int .u64 0, .int .u64 0, .int .u64 0, .int .u64 0]) (by kernel_rfl) (cw 4 0) (by rw [cw_zero]; rfl) ?_
  intro g2 w1 st1
  clear st0
  have hmx : n ≤ 32 := HS.out
  go_wp2
  go_loopw [8] (fun i wr => ∃ k : Nat, k ≤ n ∧ i = .int .i64 (k : Int) ∧ St Nob w wr [(g2, cw 4 (laid l k), 66)]) (fun i _ => n - (intOf i).toNat)
  case atStart => exact ⟨0, by omega, rfl, by rw [laid_zero]; exact st1⟩
  case round =>
    obtain ⟨i, hi, rfl, st⟩ := hrel
    clear st1
    by_cases hlt : i < n
    · have hltI : (i : Int) < (n : Int) := by omega
      have hll : i < l.length := by rw [HSZ.out]; exact hlt
      have hstep := of_step 4 (laid l i) (n - 1 - i) (l.getD i 0).toNat (UInt8.toNat_lt _) (by have := laid_mod l i hll; rwa [HSZ.out] at this) (by omega)
      have hsucc := laid_succ l i hll
      rw [HSZ.out] at hsucc
      rw [← hsucc] at hstep
      obtain ⟨gb, ob, rfl, hcx⟩ := (HBB.out.still st.fr).at (by omega)
      have hx := hcx i hlt
      clear hcx
      have hd1 : (n : Int) - 1 - (i : Int) = ((n - 1 - i : Nat) : Int) := by omega
      generalize hN' : laid l (i + 1) = N' at *
      have HN' := Lib.hid hN'; clear hN'
      generalize hN : laid l i = N at *
      generalize l.getD i 0 = x at *
      have hk32 : n - 1 - i < 32 := by omega
      generalize hk : n - 1 - i = k at *
      have HN := Lib.hid hN; clear hN
      have HK := Lib.hid hk; clear hk
      have HSTEP := Lib.hid hstep; clear hstep
      have HD := Lib.hid hd1; clear hd1 hsucc hll
      have c1 := (st.at 0 rfl).cell (cw_get 4 N (k / 8) (by omega))
      have f1 := (st.at 0 rfl).free (k / 8) (by rw [cw_len]; omega)
      have hlo : (0 : Int) ≤ (k : Int) / 8 ∧ (k : Int) / 8 < 4 := by omega
      have hor := bits_or_u64_nat (lw N (k / 8)) ((shl (wid x) (8 * (k % 8))).toNat) (lw_lt _ _) (u64_lt _)
      rw [wid_shl x (8 * (k % 8)) (by omega)] at hor
      simp only [Int.natCast_mul, Int.natCast_pow, Int.cast_ofNat_Int] at hor
      have HSH := Lib.hid (wid_shl x (8 * (k % 8)) (by omega))
      go_wp2_with fail
      rw [HD.out]
      have e1 : IntKind.i64.wrap ((k : Int) / 8) = (k : Int) / 8 := IntWalk.i64_in _ (by omega)
      have e2 : (k : Int).tmod 8 = (k : Int) % 8 := Int.tmod_eq_emod_of_nonneg (by omega)
      have e3 : IntKind.i64.wrap (8 * ((k : Int) % 8)) = 8 * ((k : Int) % 8) := IntWalk.i64_in _ (by omega)
      have e4 : ((k : Int) / 8).toNat = k / 8 := by omega
      refine wp_region_still_tail 12 (by kernel_rfl) (by kernel_rfl) ?_
      simp only [List.take_succ_cons, List.take_zero, List.drop_succ_cons, List.drop_zero]
      repeat still_step
      refine wpStill_nil ?_
      have hsh := HSH.out
      have hst := (st.set 0 rfl (k / 8) (.int .u64 ((lw N (k / 8) ||| x.toNat * 2 ^ (8 * (k % 8)) : Nat) : Int))).drew
      have hS : (cw 4 N).set (k / 8) (.int .u64 ((lw N (k / 8) ||| x.toNat * 2 ^ (8 * (k % 8)) : Nat) : Int)) = cw 4 N' := by
        rw [cw, us_set, HSTEP.out, cw]
      rw [hS] at hst
      have HST := Lib.hid hst
      clear hst hS
      go_wp2
      go_roundw
      case rel => exact ⟨i + 1, by omega, by go_num, by rw [HN'.out]; exact HST.out⟩
      case measure => simp [intOf]; omega
    · have hge : ¬ ((i : Int) < (n : Int)) := by omega
      have hi2 : i = l.length := by rw [HSZ.out]; omega
      rw [hi2, laid_all] at st
      clear hi2
      go_wp2_with (with_reducible refine wl_stop (o := ⟨some 31, _, _, _, _, _⟩) ?_)
      refine wl_loadS st 0 rfl rfl rfl Try.underlying66 rfl (by rw [cw_len]; exact size_mi) ?_
      go_wp2_with (with_reducible refine wl_stop (o := ⟨none, _, _, _, _, _⟩) ?_)
      refine wl_storeS st 0 rfl rfl rfl rfl rfl (by rw [cw_len]) (by rw [cw_len]; exact size_mi) (cw_one _ _) ?_
      intro w9 st9
      clear st
      have hr := st9.at 0 rfl
      have hfr := st9.fr
      clear st9
      go_wp2
      exact bodyPost_ret (results_arr rfl rfl hr Try.underlying66 (by rw [cw_len]; exact size_mi)) rfl ⟨rfl, hfr⟩
end Go.Proofs.Ytmegaegedlbckaa
