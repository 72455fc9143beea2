/- Bytes and bits of numbers: the reference's Of, Bytes, Bit; mont's FromBytes, Bytes, Bit; mintvaultref1.Lent: the bytes of a text, at the front of a longer list; mont's and the reference's Bytes; Bit; The reference's Pow, Inv, Number, Mod; The reference's Number, Mod, Make; Plain: the two primes; Literals of n one-cell elements; loads and stores of structs by value. -/
import Derived.Test.YtnooojkhnpcolaaMgSigmaExtractsProof4
import Derived.StillTailTactics
import Derived.Test.YtnooojkhnpcolaaMgSigmaExtractsProof1
import Derived.Test.YtnooojkhnpcolaaProg
import Derived.Test.YtnooojkhnpcolaaMgSigmaExtractsProof2
import Derived.KernelRfl
namespace Go.Proofs.Ytnooojkhnpcolaa
open Go.RowKit Go.Mv Mvp
attribute [local irreducible] limbs lw mix cw cSub cAdd cMul foldC valFrom beN laid be32

theorem wid_shl (x : UInt8) (r : Nat) (hr : r + 8 ≤ 64) : (shl (wid x) r).toNat = x.toNat * 2 ^ r := by
  have hx := x.toNat_lt
  have h1 : x.toNat * 2 ^ r < 2 ^ (r + 8) := byte_shift_lt x.toNat r hx
  have h2 : 2 ^ (r + 8) ≤ 2 ^ 64 := Nat.pow_le_pow_right (by omega) hr
  simp only [shl, wid, UInt64.toNat_ofNat', UInt8.toNat_toUInt64]
  exact Nat.mod_eq_of_lt (Nat.lt_of_lt_of_le h1 h2)

set_option maxHeartbeats 2000000 in
set_option maxRecDepth 100000 in
theorem Of_any (s : ByteArray) (w : World) (hs : s.size ≤ 32) :
    Calls Try.prog 108 #[.string s] w fun e w' => e = .returned (i4 (beN s.data.toList)) ∧ Fr Nob w w' := by
  have HS := Lib.hid hs
  have hsz : s.data.toList.length = s.size := by simp
  have HSZ := Lib.hid hsz
  clear hs hsz
  have st0 := St.start Nob w
  go_enter Try.func108, Try.ntmps108
  go_wp2_with (with_reducible refine wl_stop (o := ⟨some 2, _, _, _, _, _⟩) ?_)
  refine wl_allocS st0 rfl rfl (z := .agg #[.int .u64 0, .int .u64 0, .int .u64 0, .int .u64 0]) (by kernel_rfl) (cw 4 0) (by rw [cw_zero]; rfl) ?_
  intro g2 w1 st1
  clear st0
  go_wp2_with (with_reducible refine wl_stop (o := ⟨some 3, _, _, _, _, _⟩) ?_)
  refine wl_allocS st1 rfl rfl (z := .agg #[.int .u64 0, .int .u64 0, .int .u64 0, .int .u64 0]) (by kernel_rfl) (cw 4 0) (by rw [cw_zero]; rfl) ?_
  intro g3 w2 st2
  clear st1
  have hmx : s.size ≤ 32 := HS.out
  go_wp2
  go_loopw [4] (fun i wr => ∃ k : Nat, k ≤ s.size ∧ i = .int .i64 (k : Int) ∧ St Nob w wr [(g2, cw 4 0, 97), (g3, cw 4 (laid s.data.toList k), 97)]) (fun i _ => s.size - (intOf i).toNat)
  case atStart => exact ⟨0, by omega, rfl, by rw [laid_zero]; exact st2⟩
  case round =>
    obtain ⟨i, hi, rfl, st⟩ := hrel
    clear st2
    by_cases hlt : i < s.size
    · have hltI : (i : Int) < (s.size : Int) := by omega
      have hll : i < s.data.toList.length := by rw [HSZ.out]; exact hlt
      have hstep := of_step 4 (laid s.data.toList i) (s.size - 1 - i) (s.data.toList.getD i 0).toNat (UInt8.toNat_lt _) (by have := laid_mod s.data.toList i hll; rwa [HSZ.out] at this) (by omega)
      have hsucc := laid_succ s.data.toList i hll
      rw [HSZ.out] at hsucc
      rw [← hsucc] at hstep
      have hx : ∀ h1 : i < s.size, s[i]'h1 = s.data.toList.getD i 0 := by
        intro h1
        rw [List.getD_eq_getElem?_getD, List.getElem?_eq_getElem (by simpa using h1)]
        simp
        rfl
      have hd1 : (s.size : Int) - 1 - (i : Int) = ((s.size - 1 - i : Nat) : Int) := by omega
      generalize hN' : laid s.data.toList (i + 1) = N' at *
      have HN' := Lib.hid hN'; clear hN'
      generalize hN : laid s.data.toList i = N at *
      generalize s.data.toList.getD i 0 = x at *
      have hk32 : s.size - 1 - i < 32 := by omega
      generalize hk : s.size - 1 - i = k at *
      have HN := Lib.hid hN; clear hN
      have HK := Lib.hid hk; clear hk
      have HSTEP := Lib.hid hstep; clear hstep
      have HD := Lib.hid hd1; clear hd1 hsucc hll
      have c1 := (st.at 1 rfl).cell (cw_get 4 N (k / 8) (by omega))
      have f1 := (st.at 1 rfl).free (k / 8) (by rw [cw_len]; omega)
      have hlo : (0 : Int) ≤ (k : Int) / 8 ∧ (k : Int) / 8 < 4 := by omega
      have hor := bits_or_u64_nat (lw N (k / 8)) ((shl (wid x) (8 * (k % 8))).toNat) (lw_lt _ _) (u64_lt _)
      rw [wid_shl x (8 * (k % 8)) (by omega)] at hor
      simp only [Int.natCast_mul, Int.natCast_pow, Int.cast_ofNat_Int] at hor
      have HSH := Lib.hid (wid_shl x (8 * (k % 8)) (by omega))
      go_wp2_with fail
      rw [HD.out]
      have e1 : IntKind.i64.wrap ((k : Int) / 8) = (k : Int) / 8 := IntWalk.i64_in _ (by omega)
      have e2 : (k : Int).tmod 8 = (k : Int) % 8 := Int.tmod_eq_emod_of_nonneg (by omega)
      have e3 : IntKind.i64.wrap (8 * ((k : Int) % 8)) = 8 * ((k : Int) % 8) := IntWalk.i64_in _ (by omega)
      have e4 : ((k : Int) / 8).toNat = k / 8 := by omega
      refine wp_region_still_tail 16 (by kernel_rfl) (by kernel_rfl) ?_
      simp only [List.take_succ_cons, List.take_zero, List.drop_succ_cons, List.drop_zero]
      repeat still_step
      refine wpStill_nil ?_
      have hsh := HSH.out
      have hst := (st.set 1 rfl (k / 8) (.int .u64 ((lw N (k / 8) ||| x.toNat * 2 ^ (8 * (k % 8)) : Nat) : Int))).drew
      have hS : (cw 4 N).set (k / 8) (.int .u64 ((lw N (k / 8) ||| x.toNat * 2 ^ (8 * (k % 8)) : Nat) : Int)) = cw 4 N' := by
        rw [cw, us_set, HSTEP.out, cw]
      rw [hS] at hst
      have HST := Lib.hid hst
      clear hst hS
      go_wp2
      go_roundw
      case rel => exact ⟨i + 1, by omega, by go_num, by rw [HN'.out]; exact HST.out⟩
      case measure => simp [intOf]; omega
    · have hge : ¬ ((i : Int) < (s.size : Int)) := by omega
      have hi2 : i = s.data.toList.length := by rw [HSZ.out]; omega
      rw [hi2, laid_all] at st
      clear hi2
      go_wp2_with (with_reducible refine wl_stop (o := ⟨some 33, _, _, _, _, _⟩) ?_)
      refine wl_loadS st 1 rfl rfl rfl Try.underlying97 rfl (by rw [cw_len]; exact size_n) ?_
      go_wp2_with (with_reducible refine wl_stop (o := ⟨none, _, _, _, _, _⟩) ?_)
      refine wl_storeS st 0 rfl rfl rfl rfl rfl (by rw [cw_len, cw_len]) (by rw [cw_len]; exact size_n) (cw_one _ _) ?_
      intro w9 st9
      clear st
      have hr := st9.at 0 rfl
      have hfr := st9.fr
      clear st9
      go_wp2
      exact bodyPost_ret (results_arr rfl rfl hr Try.underlying97 (by rw [cw_len]; exact size_n)) rfl ⟨rfl, hfr⟩
theorem size_mi : (Try.prog.info? 135).map (·.size) = some 4 := by kernel_rfl
set_option maxHeartbeats 2000000 in
set_option maxRecDepth 100000 in
theorem FromBytes_any (a : Option Addr) (n c : Nat) (l : List UInt8) (w : World) (hb : RdB w a n l) (hs : n ≤ 32) :
    Calls Try.prog 99 #[.slice a n c] w fun e w' => e = .returned (i4 (beN l)) ∧ Fr Nob w w' := by
  have HS := Lib.hid hs
  have hsz : l.length = n := hb.len
  have HBB := Lib.hid hb; clear hb
  have HSZ := Lib.hid hsz
  clear hs hsz
  have st0 := St.start Nob w
  go_enter Try.func99, Try.ntmps99
  go_wp2_with (with_reducible refine wl_stop (o := ⟨some 2, _, _, _, _, _⟩) ?_)
  refine wl_allocS st0 rfl rfl (z := .agg #[.int .u64 0, .int .u64 0, .int .u64 0, .int .u64 0]) (by kernel_rfl) (cw 4 0) (by rw [cw_zero]; rfl) ?_
  intro g2 w1 st1
  clear st0
  have hmx : n ≤ 32 := HS.out
  go_wp2
  go_loopw [8] (fun i wr => ∃ k : Nat, k ≤ n ∧ i = .int .i64 (k : Int) ∧ St Nob w wr [(g2, cw 4 (laid l k), 135)]) (fun i _ => n - (intOf i).toNat)
  case atStart => exact ⟨0, by omega, rfl, by rw [laid_zero]; exact st1⟩
  case round =>
    obtain ⟨i, hi, rfl, st⟩ := hrel
    clear st1
    by_cases hlt : i < n
    · have hltI : (i : Int) < (n : Int) := by omega
      have hll : i < l.length := by rw [HSZ.out]; exact hlt
      have hstep := of_step 4 (laid l i) (n - 1 - i) (l.getD i 0).toNat (UInt8.toNat_lt _) (by have := laid_mod l i hll; rwa [HSZ.out] at this) (by omega)
      have hsucc := laid_succ l i hll
      rw [HSZ.out] at hsucc
      rw [← hsucc] at hstep
      obtain ⟨gb, ob, rfl, hcx⟩ := (HBB.out.still st.fr).at (by omega)
      have hx := hcx i hlt
      clear hcx
      have hd1 : (n : Int) - 1 - (i : Int) = ((n - 1 - i : Nat) : Int) := by omega
      generalize hN' : laid l (i + 1) = N' at *
      have HN' := Lib.hid hN'; clear hN'
      generalize hN : laid l i = N at *
      generalize l.getD i 0 = x at *
      have hk32 : n - 1 - i < 32 := by omega
      generalize hk : n - 1 - i = k at *
      have HN := Lib.hid hN; clear hN
      have HK := Lib.hid hk; clear hk
      have HSTEP := Lib.hid hstep; clear hstep
      have HD := Lib.hid hd1; clear hd1 hsucc hll
      have c1 := (st.at 0 rfl).cell (cw_get 4 N (k / 8) (by omega))
      have f1 := (st.at 0 rfl).free (k / 8) (by rw [cw_len]; omega)
      have hlo : (0 : Int) ≤ (k : Int) / 8 ∧ (k : Int) / 8 < 4 := by omega
      have hor := bits_or_u64_nat (lw N (k / 8)) ((shl (wid x) (8 * (k % 8))).toNat) (lw_lt _ _) (u64_lt _)
      rw [wid_shl x (8 * (k % 8)) (by omega)] at hor
      simp only [Int.natCast_mul, Int.natCast_pow, Int.cast_ofNat_Int] at hor
      have HSH := Lib.hid (wid_shl x (8 * (k % 8)) (by omega))
      go_wp2_with fail
      rw [HD.out]
      have e1 : IntKind.i64.wrap ((k : Int) / 8) = (k : Int) / 8 := IntWalk.i64_in _ (by omega)
      have e2 : (k : Int).tmod 8 = (k : Int) % 8 := Int.tmod_eq_emod_of_nonneg (by omega)
      have e3 : IntKind.i64.wrap (8 * ((k : Int) % 8)) = 8 * ((k : Int) % 8) := IntWalk.i64_in _ (by omega)
      have e4 : ((k : Int) / 8).toNat = k / 8 := by omega
      refine wp_region_still_tail 12 (by kernel_rfl) (by kernel_rfl) ?_
      simp only [List.take_succ_cons, List.take_zero, List.drop_succ_cons, List.drop_zero]
      repeat still_step
      refine wpStill_nil ?_
      have hsh := HSH.out
      have hst := (st.set 0 rfl (k / 8) (.int .u64 ((lw N (k / 8) ||| x.toNat * 2 ^ (8 * (k % 8)) : Nat) : Int))).drew
      have hS : (cw 4 N).set (k / 8) (.int .u64 ((lw N (k / 8) ||| x.toNat * 2 ^ (8 * (k % 8)) : Nat) : Int)) = cw 4 N' := by
        rw [cw, us_set, HSTEP.out, cw]
      rw [hS] at hst
      have HST := Lib.hid hst
      clear hst hS
      go_wp2
      go_roundw
      case rel => exact ⟨i + 1, by omega, by go_num, by rw [HN'.out]; exact HST.out⟩
      case measure => simp [intOf]; omega
    · have hge : ¬ ((i : Int) < (n : Int)) := by omega
      have hi2 : i = l.length := by rw [HSZ.out]; omega
      rw [hi2, laid_all] at st
      clear hi2
      go_wp2_with (with_reducible refine wl_stop (o := ⟨some 31, _, _, _, _, _⟩) ?_)
      refine wl_loadS st 0 rfl rfl rfl Try.underlying135 rfl (by rw [cw_len]; exact size_mi) ?_
      go_wp2_with (with_reducible refine wl_stop (o := ⟨none, _, _, _, _, _⟩) ?_)
      refine wl_storeS st 0 rfl rfl rfl rfl rfl (by rw [cw_len]) (by rw [cw_len]; exact size_mi) (cw_one _ _) ?_
      intro w9 st9
      clear st
      have hr := st9.at 0 rfl
      have hfr := st9.fr
      clear st9
      go_wp2
      exact bodyPost_ret (results_arr rfl rfl hr Try.underlying135 (by rw [cw_len]; exact size_mi)) rfl ⟨rfl, hfr⟩
end Go.Proofs.Ytnooojkhnpcolaa

/- mintvaultref1.Lent: the bytes of a text, at the front of a longer list. -/
namespace Go.Proofs.Ytnooojkhnpcolaa
open Go.RowKit Go.Mv Mvp

theorem info_u8 : (Try.prog.info? 5).map (fun i => (i.zero, i.size, i.bytes)) = some (some (.int .u8 0), 1, 1) := by kernel_rfl
theorem size_u8 : (Try.prog.info? 5).map (·.size) = some 1 := by kernel_rfl

/-- what lies behind the text -/
def lentTail (n : Nat) : List UInt8 := (List.range 160).map fun j => UInt8.ofNat ((n + j) % 251) ^^^ 0xA5
def lentL (l : List UInt8) : List UInt8 := l ++ lentTail l.length
theorem lentL_len (l : List UInt8) : (lentL l).length = l.length + 160 := by simp [lentL, lentTail]
theorem lentL_at (l : List UInt8) (i : Nat) (h1 : l.length ≤ i) (h2 : i < l.length + 160) : (lentL l).getD i 0 = UInt8.ofNat (i % 251) ^^^ 0xA5 := by
  rw [List.getD_eq_getElem?_getD, lentL, List.getElem?_append_right h1]
  simp only [lentTail, List.getElem?_map, List.getElem?_range (show i - l.length < 160 by omega), Option.map_some, Option.getD_some]
  rw [show l.length + (i - l.length) = i by omega]

theorem size_list (s : ByteArray) : s.data.toList.length = s.size := by simp
theorem lent_fill_len (s : ByteArray) (k : Nat) : (fill (lentL s.data.toList) (s.data.toList ++ List.replicate 160 0) k).length = s.size + 160 := by
  rw [fill_length]
  · simp
  · simp [lentL_len]
theorem lent_start (s : ByteArray) : splice (List.replicate (s.size + 160) (Value.int .u8 0)) 0 (bs s.data.toList) = bs (fill (lentL s.data.toList) (s.data.toList ++ List.replicate 160 0) s.size) := by
  have h1 : fill (lentL s.data.toList) (s.data.toList ++ List.replicate 160 0) s.size = s.data.toList ++ List.replicate 160 0 := by
    unfold fill lentL
    rw [List.take_left' (by simp), List.drop_left' (by simp)]
  rw [h1]
  unfold splice
  rw [bs_append, bs_len]
  simp [bs]

set_option maxHeartbeats 400000 in
set_option maxRecDepth 100000 in
theorem lent_any (s : ByteArray) (w : World) (hs : s.size ≤ 1000000) :
    Calls Try.prog 11 #[.string s] w fun e w' => e = .returned (.slice (some ⟨w.heap.size, 0, none⟩) (s.size + 160) (s.size + 160)) ∧ Has w' w.heap.size (bs (lentL s.data.toList)) 5 ∧ Fr Nob w w' ∧ w'.heap.size = w.heap.size + 1 := by
  go_enter Try.func11, Try.ntmps11
  go_wp2_with (first
    | (at_make; refine wl_make rfl rfl Try.underlying22 info_u8 rfl rfl rfl (s.size + 160) (s.size + 160) (by simp) (by simp) (by omega) (by omega) (by unfold maxLen; omega) ?_; intro w1 hw1 hf1 hz1)
    | (with_reducible refine wl_stop (o := ⟨some 11, _, _, _, _, _⟩) ?_))
  refine wl_copy_str rfl rfl Try.underlying22 size_u8 rfl rfl hw1 (by omega) (by simp) ?_
  intro w2 hw2 hf2 hz2
  go_wp2_with fail
  go_loopw [4] (fun i wr => ∃ k : Nat, s.size ≤ k ∧ k ≤ s.size + 160 ∧ i = .int .i64 k ∧ Has wr w.heap.size (bs (fill (lentL s.data.toList) (s.data.toList ++ List.replicate 160 0) k)) 5 ∧ Fr Nob w wr ∧ wr.heap.size = w.heap.size + 1)
    (fun i _ => s.size + 160 - (intOf i).toNat)
  case atStart =>
    refine ⟨s.size, Nat.le_refl _, by omega, rfl, ?_, (hf1.new hf2 (Nat.le_refl _)), by omega⟩
    have e := lent_start s
    rw [← e]; exact hw2
  case round =>
    obtain ⟨k, hk1, hk2, rfl, hh, hf, hz⟩ := hrel
    have hlen : (bs (fill (lentL s.data.toList) (s.data.toList ++ List.replicate 160 0) k)).length = s.size + 160 := by rw [length_bs]; exact lent_fill_len s k
    by_cases hlt : k < s.size + 160
    · obtain ⟨v0, hc, hfr⟩ := hh.ready (i := k) (by rw [hlen]; exact hlt)
      clear hlen hz1 hz2 hw1 hw2 hf1 hf2
      go_wp2
      go_roundw
      case rel =>
        refine ⟨k + 1, by omega, by omega, by go_num, ?_, hf.setCell _ _ _ _ (fun h => absurd h (Nat.lt_irrefl _)), by simpa [World.setCell] using hz⟩
        have e : Value.int .u8 (bits BinOp.xor IntKind.u8 ((k : Int) % 251) 165) = .int .u8 (((lentL s.data.toList).getD k 0).toNat : Int) := by
          rw [lentL_at _ _ (by rw [size_list]; exact hk1) (by rw [size_list]; exact hlt)]
          have e1 : ((k : Int) % 251) = ((k % 251 : Nat) : Int) := by omega
          have e2 := u8_xor_nat (k % 251) 165 (by omega) (by omega)
          rw [e1]
          rw [show (165 : Int) = ((165 : Nat) : Int) from rfl, e2]
          have e3 : k % 251 % 256 = k % 251 := by omega
          simp [UInt8.toNat_xor, e3]
        rw [e]
        have := hh.set k (.int .u8 (((lentL s.data.toList).getD k 0).toNat : Int))
        rw [bs_set, fill_set _ _ _ (by simp [lentL_len]) (by rw [lentL_len, size_list]; exact hlt)] at this
        exact this
      case measure => simp [intOf]; omega
    · go_wp2
      go_ret
      have e : fill (lentL s.data.toList) (s.data.toList ++ List.replicate 160 0) k = lentL s.data.toList := fill_all _ _ _ (by simp [lentL_len]) (by rw [lentL_len, size_list]; omega)
      rw [e] at hh
      exact ⟨rfl, hh, hf, hz⟩
end Go.Proofs.Ytnooojkhnpcolaa

/- mont's and the reference's Bytes; Bit. -/
namespace Go.Proofs.Ytnooojkhnpcolaa
open Go.RowKit Go.Mv Mvp
theorem ret_intN {k : IntKind} {a b : Int} (h : a = b) : Ending.returned (.int k a) = .returned (.int k b) := by rw [h]
attribute [local irreducible] limbs lw mix cw cSub cAdd cMul foldC valFrom beN laid be32

set_option maxHeartbeats 2000000 in
set_option maxRecDepth 100000 in
theorem MBytes_any (N : Nat) (w : World) :
    Calls Try.prog 75 #[i4 N] w fun e w' => ∃ v, e = .returned v ∧ Own w' w.heap.size 5 1 v 32 (bs (be32 N)) ∧ Fr Nob w w' := by
  have st0 := St.start Nob w
  go_enter Try.func75, Try.ntmps75
  go_wp2_with (with_reducible refine wl_stop (o := ⟨some 1, _, _, _, _, _⟩) ?_)
  refine wl_boxS st0 rfl rfl rfl (cw 4 N) rfl ?_
  intro g1 w1 st1
  clear st0
  go_wp2_with (with_reducible refine wl_stop (o := ⟨some 6, _, _, _, _, _⟩) ?_)
  refine wl_make rfl rfl Try.underlying22 info_u8 rfl rfl rfl 32 32 (by simp) (by simp) (by omega) (by omega) (by unfold maxLen; omega) ?_
  intro w2 hg2 hf2 hz2
  clear hz2
  have hb2 : w.heap.size ≤ w1.heap.size := st1.fr.size
  have st2 := st1.new hf2 hg2 (Nat.le_refl _)
  clear st1 hg2 hf2
  generalize w1.heap.size = gb at *
  have HBB := Lib.hid hb2; clear hb2
  go_wp2
  go_loopw [9] (fun i wr => ∃ k : Nat, k ≤ 32 ∧ i = .int .i64 (k : Int) ∧ St Nob w wr [(g1, cw 4 N, 135), (gb, bs (fill (be32 N) (List.replicate 32 0) k), 5)]) (fun i _ => 32 - (intOf i).toNat)
  case atStart => exact ⟨0, by omega, rfl, st2⟩
  case round =>
    obtain ⟨i, hi, rfl, st⟩ := hrel
    clear st2
    by_cases hlt : i < 32
    · have hltI : (i : Int) < 32 := by omega
      have hd1 : (31 : Int) - (i : Int) = ((31 - i : Nat) : Int) := by omega
      have hgl := be32_get N i hlt
      have hgb := byte_of N (31 - i)
      have hk32 : 31 - i < 32 := by omega
      generalize hk : 31 - i = k at *
      have HK := Lib.hid hk; clear hk
      have HGL := Lib.hid hgl; clear hgl
      have HGB := Lib.hid hgb; clear hgb
      have c1 := (st.at 0 rfl).cell (cw_get 4 N (k / 8) (by omega))
      obtain ⟨v3, c3, f3⟩ := (st.at 1 rfl).ready (i := i) (by rw [length_bs, fill_length _ _ _ (by rw [be32_len]; simp)]; simpa using hlt)
      have hlo : (0 : Int) ≤ (k : Int) / 8 ∧ (k : Int) / 8 < 4 := by omega
      have e4 : ((k : Int) / 8).toNat = k / 8 := by omega
      go_wp2
      go_roundw
      case rel =>
        have h1 := st.set 1 rfl i (.int .u8 (((be32 N).getD i 0).toNat : Int))
        rw [bs_set, fill_set _ _ _ (by rw [be32_len]; simp) (by rw [be32_len]; omega)] at h1
        have e : (((be32 N).getD i 0).toNat : Int) = (lw N (k / 8) : Int) / 2 ^ (8 * (k % 8)) % 256 := by
          rw [HGL.out, UInt8.toNat_ofNat']
          have := HGB.out
          rw [show (2 : Nat) ^ 8 = 256 from rfl, ← this]
          simp
        rw [e] at h1
        exact ⟨i + 1, by omega, by go_num, h1⟩
      case measure => simp [intOf]; omega
    · have hge : ¬ ((i : Int) < 32) := by omega
      have hi32 : i = 32 := by omega
      have hown : Own wr w.heap.size 5 1 (.slice (some ⟨gb, 0, none⟩) 32 32) 32 (bs (be32 N)) := by
        have h := st.at 1 rfl
        rw [hi32, fill_all _ _ _ (by rw [be32_len]; simp) (by rw [be32_len]; exact Nat.le_refl _)] at h
        have := Own.made h w.heap.size HBB.out 1 32 32 (Nat.le_refl _) (by unfold maxLen; omega) (by rw [length_bs, be32_len]; omega)
        rwa [List.take_of_length_le (by rw [length_bs, be32_len]; exact Nat.le_refl _)] at this
      have hfr := st.fr
      clear st hi32
      go_wp2
      go_ret
      exact ⟨_, rfl, hown, hfr⟩
set_option maxHeartbeats 2000000 in
set_option maxRecDepth 100000 in
theorem RBytes_any (N : Nat) (w : World) :
    Calls Try.prog 53 #[i4 N] w fun e w' => e = .returned (.string (mkS (be32 N))) ∧ Fr Nob w w' := by
  have st0 := St.start Nob w
  go_enter Try.func53, Try.ntmps53
  go_wp2_with (with_reducible refine wl_stop (o := ⟨some 1, _, _, _, _, _⟩) ?_)
  refine wl_boxS st0 rfl rfl rfl (cw 4 N) rfl ?_
  intro g1 w1 st1
  clear st0
  go_wp2_with (with_reducible refine wl_stop (o := ⟨some 6, _, _, _, _, _⟩) ?_)
  refine wl_make rfl rfl Try.underlying22 info_u8 rfl rfl rfl 32 32 (by simp) (by simp) (by omega) (by omega) (by unfold maxLen; omega) ?_
  intro w2 hg2 hf2 hz2
  clear hz2
  have hb2 : w.heap.size ≤ w1.heap.size := st1.fr.size
  have st2 := st1.new hf2 hg2 (Nat.le_refl _)
  clear st1 hg2 hf2
  generalize w1.heap.size = gb at *
  have HBB := Lib.hid hb2; clear hb2
  go_wp2
  go_loopw [4] (fun i wr => ∃ k : Nat, k ≤ 32 ∧ i = .int .i64 (k : Int) ∧ St Nob w wr [(g1, cw 4 N, 97), (gb, bs (fill (be32 N) (List.replicate 32 0) k), 5)]) (fun i _ => 32 - (intOf i).toNat)
  case atStart => exact ⟨0, by omega, rfl, st2⟩
  case round =>
    obtain ⟨i, hi, rfl, st⟩ := hrel
    clear st2
    by_cases hlt : i < 32
    · have hltI : (i : Int) < 32 := by omega
      have hd1 : (31 : Int) - (i : Int) = ((31 - i : Nat) : Int) := by omega
      have hgl := be32_get N i hlt
      have hgb := byte_of N (31 - i)
      have hk32 : 31 - i < 32 := by omega
      generalize hk : 31 - i = k at *
      have HK := Lib.hid hk; clear hk
      have HGL := Lib.hid hgl; clear hgl
      have HGB := Lib.hid hgb; clear hgb
      have c1 := (st.at 0 rfl).cell (cw_get 4 N (k / 8) (by omega))
      obtain ⟨v3, c3, f3⟩ := (st.at 1 rfl).ready (i := i) (by rw [length_bs, fill_length _ _ _ (by rw [be32_len]; simp)]; simpa using hlt)
      have hlo : (0 : Int) ≤ (k : Int) / 8 ∧ (k : Int) / 8 < 4 := by omega
      have e4 : ((k : Int) / 8).toNat = k / 8 := by omega
      go_wp2
      go_roundw
      case rel =>
        have h1 := st.set 1 rfl i (.int .u8 (((be32 N).getD i 0).toNat : Int))
        rw [bs_set, fill_set _ _ _ (by rw [be32_len]; simp) (by rw [be32_len]; omega)] at h1
        have e : (((be32 N).getD i 0).toNat : Int) = (lw N (k / 8) : Int) / 2 ^ (8 * (k % 8)) % 256 := by
          rw [HGL.out, UInt8.toNat_ofNat']
          have := HGB.out
          rw [show (2 : Nat) ^ 8 = 256 from rfl, ← this]
          simp
        rw [e] at h1
        exact ⟨i + 1, by omega, by go_num, h1⟩
      case measure => simp [intOf]; omega
    · have hge : ¬ ((i : Int) < 32) := by omega
      have hi32 : i = 32 := by omega
      have hrd : RdB wr (some ⟨gb, 0, none⟩) 32 (be32 N) := by
        have h := st.at 1 rfl
        rw [hi32, fill_all _ _ _ (by rw [be32_len]; simp) (by rw [be32_len]; exact Nat.le_refl _)] at h
        have := Rd.whole h
        rwa [length_bs, be32_len] at this
      have hfr := st.fr
      clear st hi32
      go_wp2_with (with_reducible refine wl_stop (o := ⟨some 26, _, _, _, _, _⟩) ?_)
      refine wl_string rfl rfl Try.underlying22 Try.underlying5 Try.underlying9 rfl hrd ?_
      go_wp2
      go_ret
      exact ⟨rfl, hfr⟩

set_option maxHeartbeats 2000000 in
set_option maxRecDepth 100000 in
theorem RBit_any (N i : Nat) (w : World) (hi : i < 256) :
    Calls Try.prog 114 #[i4 N, .int .i64 (i : Int)] w fun e w' => e = .returned (.int .u64 ((N / 2 ^ i % 2 : Nat) : Int)) ∧ Fr Nob w w' := by
  have hb := bit_of N i
  have HB := Lib.hid hb; clear hb
  have st0 := St.start Nob w
  go_enter Try.func114, Try.ntmps114
  go_wp2_with (with_reducible refine wl_stop (o := ⟨some 2, _, _, _, _, _⟩) ?_)
  refine wl_boxS st0 rfl rfl rfl (cw 4 N) rfl ?_
  intro g1 w1 st1
  clear st0
  have c1 := (st1.at 0 rfl).cell (cw_get 4 N (i / 64) (by omega))
  have hlo : (0 : Int) ≤ (i : Int) / 64 ∧ (i : Int) / 64 < 4 := by omega
  have hlo2 : (0 : Int) ≤ (i : Int) % 64 ∧ (i : Int) % 64 < 64 := by omega
  have e4 : ((i : Int) / 64).toNat = i / 64 := by omega
  have e5 : ((i : Int) % 64).toNat = i % 64 := by omega
  have hfr := st1.fr
  clear st1
  have hw : lw N (i / 64) / 2 ^ (i % 64) < 18446744073709551616 := Nat.lt_of_le_of_lt (Nat.div_le_self _ _) (lw_lt _ _)
  have ha := bits_and_u64_nat (lw N (i / 64) / 2 ^ (i % 64)) 1 hw (by omega)
  rw [Nat.and_one_is_mod] at ha
  simp only [Int.natCast_ediv, Int.natCast_pow, Int.cast_ofNat_Int, Int.natCast_one] at ha
  go_wp2
  go_ret
  refine ⟨ret_intN ?_, hfr⟩
  rw [← HB.out]
  simp

set_option maxHeartbeats 2000000 in
set_option maxRecDepth 100000 in
theorem MBit_any (N i : Nat) (w : World) (hi : i < 256) :
    Calls Try.prog 125 #[i4 N, .int .i64 (i : Int)] w fun e w' => e = .returned (.int .u64 ((N / 2 ^ i % 2 : Nat) : Int)) ∧ Fr Nob w w' := by
  have hb := bit_of N i
  have HB := Lib.hid hb; clear hb
  have st0 := St.start Nob w
  go_enter Try.func125, Try.ntmps125
  go_wp2_with (with_reducible refine wl_stop (o := ⟨some 2, _, _, _, _, _⟩) ?_)
  refine wl_boxS st0 rfl rfl rfl (cw 4 N) rfl ?_
  intro g1 w1 st1
  clear st0
  have c1 := (st1.at 0 rfl).cell (cw_get 4 N (i / 64) (by omega))
  have hlo : (0 : Int) ≤ (i : Int) / 64 ∧ (i : Int) / 64 < 4 := by omega
  have hlo2 : (0 : Int) ≤ (i : Int) % 64 ∧ (i : Int) % 64 < 64 := by omega
  have e4 : ((i : Int) / 64).toNat = i / 64 := by omega
  have e5 : ((i : Int) % 64).toNat = i % 64 := by omega
  have hfr := st1.fr
  clear st1
  have hw : lw N (i / 64) / 2 ^ (i % 64) < 18446744073709551616 := Nat.lt_of_le_of_lt (Nat.div_le_self _ _) (lw_lt _ _)
  have ha := bits_and_u64_nat (lw N (i / 64) / 2 ^ (i % 64)) 1 hw (by omega)
  rw [Nat.and_one_is_mod] at ha
  simp only [Int.natCast_ediv, Int.natCast_pow, Int.cast_ofNat_Int, Int.natCast_one] at ha
  go_wp2
  go_ret
  refine ⟨ret_intN ?_, hfr⟩
  rw [← HB.out]
  simp
end Go.Proofs.Ytnooojkhnpcolaa

/- The reference's Pow, Inv, Number, Mod. -/
namespace Go.Proofs.Ytnooojkhnpcolaa
open Go.RowKit Go.Mv Mvp
attribute [local irreducible] limbs lw mix cw cSub cAdd cMul foldC valFrom beN laid be32 powm

theorem powm_lt (a n p i : Nat) (hp : 0 < p) : powm a n p i < p := by unfold powm; exact Nat.mod_lt _ hp

set_option maxHeartbeats 4000000 in
set_option maxRecDepth 100000 in
theorem Pow_any (p a n : Nat) (w : World) (hp1 : 1 < p) (hp : p < B64 ^ 4) (ha : a < B64 ^ 4) (hn : n < B64 ^ 4) :
    Calls Try.prog 83 #[fv p, i4 a, i4 n] w fun e w' => e = .returned (i4 (a ^ n % p)) ∧ Fr Nob w w' := by
  have HP1 := Lib.hid hp1
  have HP := Lib.hid hp
  have HA := Lib.hid ha
  have HN := Lib.hid hn
  have HP0 := Lib.hid (show 0 < p by omega)
  have H1 := Lib.hid (show (1 : Nat) = powm a n p 256 from (powm_top a n p hp1 hn).symm)
  clear hp1 hp ha hn
  have st0 := St.start Nob w
  go_enter Try.func83, Try.ntmps83
  go_wp2_with (with_reducible refine wl_stop (o := ⟨some 3, _, _, _, _, _⟩) ?_)
  refine wl_boxS st0 rfl rfl rfl (cw 4 p ++ cw 4 (B64 ^ 4 - p)) rfl ?_
  intro g3 w1 st1
  clear st0
  go_wp2_with (with_reducible refine wl_stop (o := ⟨some 4, _, _, _, _, _⟩) ?_)
  refine wl_boxS st1 rfl rfl rfl (cw 4 a) rfl ?_
  intro g4 w2 st2
  clear st1
  go_wp2_with (with_reducible refine wl_stop (o := ⟨some 5, _, _, _, _, _⟩) ?_)
  refine wl_boxS st2 rfl rfl rfl (cw 4 n) rfl ?_
  intro g5 w3 st3
  clear st2
  go_wp2_with (with_reducible refine wl_stop (o := ⟨some 6, _, _, _, _, _⟩) ?_)
  refine wl_allocS st3 rfl rfl (z := .agg #[.int .u64 0, .int .u64 0, .int .u64 0, .int .u64 0]) (by kernel_rfl) (cw 4 0) (by rw [cw_zero]; rfl) ?_
  intro g6 w4 st4
  clear st3
  go_wp2_with fail
  refine (Small_any 1 _ (by decide)).mono ?_
  rintro e' w5 ⟨rfl, hf5⟩
  have st5 := st4.keep hf5
  clear st4 hf5
  go_wp2_with (with_reducible refine wl_stop (o := ⟨some 7, _, _, _, _, _⟩) ?_)
  refine wl_allocS st5 rfl rfl (z := .agg #[.int .u64 0, .int .u64 0, .int .u64 0, .int .u64 0]) (by kernel_rfl) (cw 4 0) (by rw [cw_zero]; rfl) ?_
  intro g7 w6 st6
  clear st5
  go_wp2_with (with_reducible refine wl_stop (o := ⟨none, _, _, _, _, _⟩) ?_)
  refine wl_storeS st6 4 rfl rfl rfl rfl rfl (by first | (simp only [cw_len]; done) | (simp only [List.length_append, cw_len]; done)) (by first | (rw [cw_len]; kernel_rfl) | (simp only [List.length_append, cw_len]; kernel_rfl)) (cw_one _ _) ?_
  intro w7 st7
  clear st6
  rw [show (1 : Nat) = powm a n p 256 from H1.out] at st7
  go_wp2
  go_loopw [8] (fun i wr => ∃ j : Nat, j ≤ 256 ∧ i = .int .i64 ((j : Int) - 1) ∧ St Nob w wr [(g3, cw 4 p ++ cw 4 (B64 ^ 4 - p), 101), (g4, cw 4 a, 97), (g5, cw 4 n, 97), (g6, cw 4 0, 97), (g7, cw 4 (powm a n p j), 97)]) (fun i _ => (intOf i + 1).toNat)
  case atStart => exact ⟨256, by omega, rfl, st7⟩
  case round =>
    obtain ⟨j, hj, rfl, st⟩ := hrel
    clear st7
    cases j with
    | succ i =>
      rw [show (((i + 1 : Nat) : Int)) - 1 = (i : Int) by omega]
      have hge : (0 : Int) ≤ (i : Int) := by omega
      have hlt := powm_lt a n p (i + 1) HP0.out
      have HLT := Lib.hid (Nat.lt_trans hlt HP.out)
      clear hlt
      go_wp2_with (with_reducible refine wl_stop (o := ⟨some 14, _, _, _, _, _⟩) ?_)
      refine wl_loadSt st 0 rfl rfl rfl Try.underlying101 rfl rfl (by first | (rw [cw_len]; kernel_rfl) | (simp only [List.length_append, cw_len]; kernel_rfl)) ?_
      go_wp2_with (with_reducible refine wl_stop (o := ⟨some 15, _, _, _, _, _⟩) ?_)
      refine wl_loadS st 4 rfl rfl rfl Try.underlying97 rfl (by first | (rw [cw_len]; kernel_rfl) | (simp only [List.length_append, cw_len]; kernel_rfl)) ?_
      go_wp2_with (with_reducible refine wl_stop (o := ⟨some 16, _, _, _, _, _⟩) ?_)
      refine wl_loadS st 4 rfl rfl rfl Try.underlying97 rfl (by first | (rw [cw_len]; kernel_rfl) | (simp only [List.length_append, cw_len]; kernel_rfl)) ?_
      go_wp2_with fail
      refine (Mul_any p (powm a n p (i + 1)) (powm a n p (i + 1)) _ HP0.out HP.out HLT.out HLT.out).mono ?_
      rintro e' w8 ⟨rfl, hf8⟩
      have st8 := st.keep hf8
      clear st hf8
      go_wp2_with (with_reducible refine wl_stop (o := ⟨none, _, _, _, _, _⟩) ?_)
      refine wl_storeS st8 4 rfl rfl rfl rfl rfl (by first | (simp only [cw_len]; done) | (simp only [List.length_append, cw_len]; done)) (by first | (rw [cw_len]; kernel_rfl) | (simp only [List.length_append, cw_len]; kernel_rfl)) (cw_one _ _) ?_
      intro w9 st9
      clear st8
      go_wp2_with (with_reducible refine wl_stop (o := ⟨some 18, _, _, _, _, _⟩) ?_)
      refine wl_loadS st9 2 rfl rfl rfl Try.underlying97 rfl (by first | (rw [cw_len]; kernel_rfl) | (simp only [List.length_append, cw_len]; kernel_rfl)) ?_
      go_wp2_with fail
      refine (RBit_any n i _ (by omega)).mono ?_
      rintro e' w10 ⟨rfl, hf10⟩
      have st10 := st9.keep hf10
      clear st9 hf10
      have hbt : n / 2 ^ i % 2 = 0 ∨ n / 2 ^ i % 2 = 1 := by omega
      have HS0 := Lib.hid (powm_step0 a n p i)
      have HS1 := Lib.hid (powm_step1 a n p i)
      generalize hbb : n / 2 ^ i % 2 = bt at *
      have HBB := Lib.hid hbb
      clear hbb
      rcases hbt with rfl | rfl
      · have hst := st10
        rw [HS0.out (by first | rfl | trivial)] at hst
        clear st10
        go_wp2
        go_roundw
        case rel => exact ⟨i, by omega, rfl, hst⟩
        case measure => simp [intOf]
      · have HLQ := Lib.hid (show (powm a n p (i + 1) * powm a n p (i + 1) % p) < B64 ^ 4 from Nat.lt_trans (Nat.mod_lt _ HP0.out) HP.out)
        go_wp2_with (with_reducible refine wl_stop (o := ⟨some 22, _, _, _, _, _⟩) ?_)
        refine wl_loadSt st10 0 rfl rfl rfl Try.underlying101 rfl rfl (by first | (rw [cw_len]; kernel_rfl) | (simp only [List.length_append, cw_len]; kernel_rfl)) ?_
        go_wp2_with (with_reducible refine wl_stop (o := ⟨some 23, _, _, _, _, _⟩) ?_)
        refine wl_loadS st10 4 rfl rfl rfl Try.underlying97 rfl (by first | (rw [cw_len]; kernel_rfl) | (simp only [List.length_append, cw_len]; kernel_rfl)) ?_
        go_wp2_with (with_reducible refine wl_stop (o := ⟨some 24, _, _, _, _, _⟩) ?_)
        refine wl_loadS st10 1 rfl rfl rfl Try.underlying97 rfl (by first | (rw [cw_len]; kernel_rfl) | (simp only [List.length_append, cw_len]; kernel_rfl)) ?_
        go_wp2_with fail
        refine (Mul_any p (powm a n p (i + 1) * powm a n p (i + 1) % p) a _ HP0.out HP.out HLQ.out HA.out).mono ?_
        rintro e' w11 ⟨rfl, hf11⟩
        have st11 := st10.keep hf11
        clear st10 hf11
        go_wp2_with (with_reducible refine wl_stop (o := ⟨none, _, _, _, _, _⟩) ?_)
        refine wl_storeS st11 4 rfl rfl rfl rfl rfl (by first | (simp only [cw_len]; done) | (simp only [List.length_append, cw_len]; done)) (by first | (rw [cw_len]; kernel_rfl) | (simp only [List.length_append, cw_len]; kernel_rfl)) (cw_one _ _) ?_
        intro w12 st12
        clear st11
        have hst := st12
        rw [HS1.out (by first | rfl | trivial)] at hst
        clear st12
        go_wp2
        go_roundw
        case rel => exact ⟨i, by omega, rfl, hst⟩
        case measure => simp [intOf]
    | zero =>
      rw [show (((0 : Nat) : Int)) - 1 = -1 by omega]
      go_wp2_with (with_reducible refine wl_stop (o := ⟨some 26, _, _, _, _, _⟩) ?_)
      refine wl_loadS st 4 rfl rfl rfl Try.underlying97 rfl (by first | (rw [cw_len]; kernel_rfl) | (simp only [List.length_append, cw_len]; kernel_rfl)) ?_
      go_wp2_with (with_reducible refine wl_stop (o := ⟨none, _, _, _, _, _⟩) ?_)
      refine wl_storeS st 3 rfl rfl rfl rfl rfl (by first | (simp only [cw_len]; done) | (simp only [List.length_append, cw_len]; done)) (by first | (rw [cw_len]; kernel_rfl) | (simp only [List.length_append, cw_len]; kernel_rfl)) (cw_one _ _) ?_
      intro w8 st8
      clear st
      have hr := st8.at 3 rfl
      have hfr := st8.fr
      clear st8
      go_wp2_with fail
      exact bodyPost_ret (results_arr rfl rfl hr Try.underlying97 (by first | (rw [cw_len]; kernel_rfl) | (simp only [List.length_append, cw_len]; kernel_rfl))) rfl ⟨by rw [powm_all]; rfl, hfr⟩

set_option maxHeartbeats 4000000 in
set_option maxRecDepth 100000 in
theorem Inv_any (p a : Nat) (w : World) (hp1 : 1 < p) (hp : p < B64 ^ 4) (ha : a < B64 ^ 4) :
    Calls Try.prog 52 #[fv p, i4 a] w fun e w' => e = .returned (i4 (a ^ (p - 2) % p)) ∧ Fr Nob w w' := by
  have HP1 := Lib.hid hp1
  have HP := Lib.hid hp
  have HA := Lib.hid ha
  have HPP := Lib.hid (show p - 2 < B64 ^ 4 by omega)
  have h2l := fun wx => less_any p 2 wx (by decide)
  rw [neg_words p 2 (by omega), ← small_words 2 (by decide)] at h2l
  have H2L := Lib.hid h2l
  clear h2l
  clear hp1 hp ha
  have st0 := St.start Nob w
  go_enter Try.func52, Try.ntmps52
  go_wp2_with (with_reducible refine wl_stop (o := ⟨some 2, _, _, _, _, _⟩) ?_)
  refine wl_boxS st0 rfl rfl rfl (cw 4 p ++ cw 4 (B64 ^ 4 - p)) rfl ?_
  intro g2 w1 st1
  clear st0
  go_wp2_with (with_reducible refine wl_stop (o := ⟨some 3, _, _, _, _, _⟩) ?_)
  refine wl_boxS st1 rfl rfl rfl (cw 4 a) rfl ?_
  intro g3 w2 st2
  clear st1
  go_wp2_with (with_reducible refine wl_stop (o := ⟨some 4, _, _, _, _, _⟩) ?_)
  refine wl_allocS st2 rfl rfl (z := .agg #[.int .u64 0, .int .u64 0, .int .u64 0, .int .u64 0]) (by kernel_rfl) (cw 4 0) (by rw [cw_zero]; rfl) ?_
  intro g4 w3 st3
  clear st2
  go_wp2_with (with_reducible refine wl_stop (o := ⟨some 9, _, _, _, _, _⟩) ?_)
  refine wl_loadA rfl rfl Try.underlying97 rfl (st3.at 0 rfl) (cw 4 p) (cw_left 4 4 _ _) (by first | (rw [cw_len]; kernel_rfl) | (simp only [List.length_append, cw_len]; kernel_rfl)) ?_
  go_wp2_with fail
  refine (H2L.out _).mono ?_
  rintro e' w4 ⟨rfl, hf4⟩
  have st4 := st3.keep hf4
  clear st3 hf4
  go_wp2_with (with_reducible refine wl_stop (o := ⟨some 5, _, _, _, _, _⟩) ?_)
  refine wl_allocS st4 rfl rfl (z := .agg #[.int .u64 0, .int .u64 0, .int .u64 0, .int .u64 0]) (by kernel_rfl) (cw 4 0) (by rw [cw_zero]; rfl) ?_
  intro g5 w5 st5
  clear st4
  go_wp2_with (with_reducible refine wl_stop (o := ⟨none, _, _, _, _, _⟩) ?_)
  refine wl_storeS st5 3 rfl rfl rfl rfl rfl (by first | (simp only [cw_len]; done) | (simp only [List.length_append, cw_len]; done)) (by first | (rw [cw_len]; kernel_rfl) | (simp only [List.length_append, cw_len]; kernel_rfl)) (cw_one _ _) ?_
  intro w6 st6
  clear st5
  go_wp2_with (with_reducible refine wl_stop (o := ⟨some 14, _, _, _, _, _⟩) ?_)
  refine wl_loadSt st6 0 rfl rfl rfl Try.underlying101 rfl rfl (by first | (rw [cw_len]; kernel_rfl) | (simp only [List.length_append, cw_len]; kernel_rfl)) ?_
  go_wp2_with (with_reducible refine wl_stop (o := ⟨some 15, _, _, _, _, _⟩) ?_)
  refine wl_loadS st6 1 rfl rfl rfl Try.underlying97 rfl (by first | (rw [cw_len]; kernel_rfl) | (simp only [List.length_append, cw_len]; kernel_rfl)) ?_
  go_wp2_with (with_reducible refine wl_stop (o := ⟨some 16, _, _, _, _, _⟩) ?_)
  refine wl_loadS st6 3 rfl rfl rfl Try.underlying97 rfl (by first | (rw [cw_len]; kernel_rfl) | (simp only [List.length_append, cw_len]; kernel_rfl)) ?_
  go_wp2_with fail
  refine (Pow_any p a (p - 2) _ HP1.out HP.out HA.out HPP.out).mono ?_
  rintro e' w7 ⟨rfl, hf7⟩
  have st7 := st6.keep hf7
  clear st6 hf7
  go_wp2_with (with_reducible refine wl_stop (o := ⟨none, _, _, _, _, _⟩) ?_)
  refine wl_storeS st7 2 rfl rfl rfl rfl rfl (by first | (simp only [cw_len]; done) | (simp only [List.length_append, cw_len]; done)) (by first | (rw [cw_len]; kernel_rfl) | (simp only [List.length_append, cw_len]; kernel_rfl)) (cw_one _ _) ?_
  intro w8 st8
  clear st7
  have hr := st8.at 2 rfl
  have hfr := st8.fr
  clear st8
  go_wp2_with fail
  exact bodyPost_ret (results_arr rfl rfl hr Try.underlying97 (by first | (rw [cw_len]; kernel_rfl) | (simp only [List.length_append, cw_len]; kernel_rfl))) rfl ⟨rfl, hfr⟩
end Go.Proofs.Ytnooojkhnpcolaa

/- The reference's Number, Mod, Make. -/
namespace Go.Proofs.Ytnooojkhnpcolaa
open Go.RowKit Go.Mv Mvp
attribute [local irreducible] limbs lw mix cw cSub cAdd cMul foldC valFrom beN laid be32 powm

set_option maxHeartbeats 4000000 in
set_option maxRecDepth 100000 in
theorem Number_bad (p : Nat) (s : ByteArray) (w : World) (hs : s.size ≠ 32) :
    Calls Try.prog 76 #[fv p, .string s] w fun e w' => e = .returned (.tuple #[i4 0, .bool false]) ∧ Fr Nob w w' := by
  have HS := Lib.hid hs
  have HZ := Lib.hid (small_words 0 (by decide))
  clear hs
  have st0 := St.start Nob w
  go_enter Try.func76, Try.ntmps76
  go_wp2_with (with_reducible refine wl_stop (o := ⟨some 2, _, _, _, _, _⟩) ?_)
  refine wl_boxS st0 rfl rfl rfl (cw 4 p ++ cw 4 (B64 ^ 4 - p)) rfl ?_
  intro g2 w1 st1
  clear st0
  go_wp2_with (with_reducible refine wl_stop (o := ⟨some 4, _, _, _, _, _⟩) ?_)
  refine wl_allocS st1 rfl rfl (z := .agg #[.int .u64 0, .int .u64 0, .int .u64 0, .int .u64 0]) (by kernel_rfl) (cw 4 0) (by rw [cw_zero]; rfl) ?_
  intro g4 w2 st2
  clear st1
  have hne : ((s.size : Int) != 32) = true := by have := HS.out; simp; omega
  go_wp2_with (with_reducible refine wl_stop (o := ⟨none, _, _, _, _, _⟩) ?_)
  refine wl_storeS st2 1 rfl rfl rfl rfl (cs := cw 4 0) HZ.out (by simp only [cw_len]) (by simp only [cw_len]; kernel_rfl) (cw_one _ _) ?_
  intro w9 st9
  clear st2
  have hr := st9.at 1 rfl
  have hfr := st9.fr
  clear st9
  go_wp2_with fail
  exact bodyPost_ret (results_arr2 rfl rfl hr Try.underlying97 (by first | (rw [cw_len]; kernel_rfl) | (simp only [List.length_append, cw_len]; kernel_rfl)) rfl) rfl ⟨rfl, hfr⟩

set_option maxHeartbeats 4000000 in
set_option maxRecDepth 100000 in
theorem Number_ok (p : Nat) (s : ByteArray) (w : World) (hs : s.size = 32) (hp : p < B64 ^ 4) :
    Calls Try.prog 76 #[fv p, .string s] w fun e w' => e = .returned (.tuple #[i4 (beN s.data.toList), .bool (decide (beN s.data.toList < p))]) ∧ Fr Nob w w' := by
  have HS := Lib.hid hs
  have HP := Lib.hid hp
  have HN := Lib.hid (beN_lt32 s hs)
  clear hs hp
  have st0 := St.start Nob w
  go_enter Try.func76, Try.ntmps76
  go_wp2_with (with_reducible refine wl_stop (o := ⟨some 2, _, _, _, _, _⟩) ?_)
  refine wl_boxS st0 rfl rfl rfl (cw 4 p ++ cw 4 (B64 ^ 4 - p)) rfl ?_
  intro g2 w1 st1
  clear st0
  go_wp2_with (with_reducible refine wl_stop (o := ⟨some 4, _, _, _, _, _⟩) ?_)
  refine wl_allocS st1 rfl rfl (z := .agg #[.int .u64 0, .int .u64 0, .int .u64 0, .int .u64 0]) (by kernel_rfl) (cw 4 0) (by rw [cw_zero]; rfl) ?_
  intro g4 w2 st2
  clear st1
  have hne : ((s.size : Int) != 32) = false := by have := HS.out; simp; omega
  go_wp2_with fail
  refine (Of_any s _ (by have := HS.out; omega)).mono ?_
  rintro e' w3 ⟨rfl, hf3⟩
  have st3 := st2.keep hf3
  clear st2 hf3
  go_wp2_with (with_reducible refine wl_stop (o := ⟨some 6, _, _, _, _, _⟩) ?_)
  refine wl_allocS st3 rfl rfl (z := .agg #[.int .u64 0, .int .u64 0, .int .u64 0, .int .u64 0]) (by kernel_rfl) (cw 4 0) (by rw [cw_zero]; rfl) ?_
  intro g6 w4 st4
  clear st3
  go_wp2_with (with_reducible refine wl_stop (o := ⟨none, _, _, _, _, _⟩) ?_)
  refine wl_storeS st4 2 rfl rfl rfl rfl rfl (by first | (simp only [cw_len]; done) | (simp only [List.length_append, cw_len]; done)) (by first | (rw [cw_len]; kernel_rfl) | (simp only [List.length_append, cw_len]; kernel_rfl)) (cw_one _ _) ?_
  intro w5 st5
  clear st4
  go_wp2_with (with_reducible refine wl_stop (o := ⟨some 14, _, _, _, _, _⟩) ?_)
  refine wl_loadS st5 2 rfl rfl rfl Try.underlying97 rfl (by first | (rw [cw_len]; kernel_rfl) | (simp only [List.length_append, cw_len]; kernel_rfl)) ?_
  go_wp2_with (with_reducible refine wl_stop (o := ⟨some 16, _, _, _, _, _⟩) ?_)
  refine wl_loadA rfl rfl Try.underlying97 rfl (st5.at 0 rfl) (cw 4 p) (cw_left 4 4 _ _) (by first | (rw [cw_len]; kernel_rfl) | (simp only [List.length_append, cw_len]; kernel_rfl)) ?_
  go_wp2_with fail
  refine (Below_any (beN s.data.toList) p _ HN.out HP.out).mono ?_
  rintro e' w6 ⟨rfl, hf6⟩
  have st6 := st5.keep hf6
  clear st5 hf6
  go_wp2_with (with_reducible refine wl_stop (o := ⟨some 18, _, _, _, _, _⟩) ?_)
  refine wl_loadS st6 2 rfl rfl rfl Try.underlying97 rfl (by first | (rw [cw_len]; kernel_rfl) | (simp only [List.length_append, cw_len]; kernel_rfl)) ?_
  go_wp2_with (with_reducible refine wl_stop (o := ⟨none, _, _, _, _, _⟩) ?_)
  refine wl_storeS st6 1 rfl rfl rfl rfl rfl (by first | (simp only [cw_len]; done) | (simp only [List.length_append, cw_len]; done)) (by first | (rw [cw_len]; kernel_rfl) | (simp only [List.length_append, cw_len]; kernel_rfl)) (cw_one _ _) ?_
  intro w7 st7
  clear st6
  have hr := st7.at 1 rfl
  have hfr := st7.fr
  clear st7
  go_wp2_with fail
  exact bodyPost_ret (results_arr2 rfl rfl hr Try.underlying97 (by first | (rw [cw_len]; kernel_rfl) | (simp only [List.length_append, cw_len]; kernel_rfl)) rfl) rfl ⟨rfl, hfr⟩

set_option maxHeartbeats 4000000 in
set_option maxRecDepth 100000 in
theorem Mod_any (p : Nat) (s : ByteArray) (w : World) (hp0 : 0 < p) (hp : p < B64 ^ 4) (hs : s.size ≤ 1000000) :
    Calls Try.prog 62 #[fv p, .string s] w fun e w' => e = .returned (i4 (beN s.data.toList % p)) ∧ Fr Nob w w' := by
  have HS := Lib.hid hs
  have HP0 := Lib.hid hp0
  have HP := Lib.hid hp
  have HZ := Lib.hid (small_words 0 (by decide))
  have HSZ := Lib.hid (show s.data.toList.length = s.size by simp)
  clear hs hp0 hp
  have st0 := St.start Nob w
  go_enter Try.func62, Try.ntmps62
  go_wp2_with (with_reducible refine wl_stop (o := ⟨some 2, _, _, _, _, _⟩) ?_)
  refine wl_boxS st0 rfl rfl rfl (cw 4 p ++ cw 4 (B64 ^ 4 - p)) rfl ?_
  intro g2 w1 st1
  clear st0
  go_wp2_with (with_reducible refine wl_stop (o := ⟨some 4, _, _, _, _, _⟩) ?_)
  refine wl_allocS st1 rfl rfl (z := .agg #[.int .u64 0, .int .u64 0, .int .u64 0, .int .u64 0]) (by kernel_rfl) (cw 4 0) (by rw [cw_zero]; rfl) ?_
  intro g4 w2 st2
  clear st1
  go_wp2_with (with_reducible refine wl_stop (o := ⟨some 5, _, _, _, _, _⟩) ?_)
  refine wl_allocS st2 rfl rfl (z := .agg #[.int .u64 0, .int .u64 0, .int .u64 0, .int .u64 0]) (by kernel_rfl) (cw 4 0) (by rw [cw_zero]; rfl) ?_
  intro g5 w3 st3
  clear st2
  go_wp2_with (with_reducible refine wl_stop (o := ⟨none, _, _, _, _, _⟩) ?_)
  refine wl_storeS st3 2 rfl rfl rfl rfl (cs := cw 4 0) HZ.out (by simp only [cw_len]) (by simp only [cw_len]; kernel_rfl) (cw_one _ _) ?_
  intro w9 st9
  clear st3
  have hmx : s.size ≤ 1000000 := HS.out
  go_wp2
  go_loopw [6] (fun i wr => ∃ k : Nat, k ≤ s.size ∧ i = .int .i64 (k : Int) ∧ St Nob w wr [(g2, cw 4 p ++ cw 4 (B64 ^ 4 - p), 101), (g4, cw 4 0, 97), (g5, cw 4 (beN (s.data.toList.take k) % p), 97)]) (fun i _ => s.size - (intOf i).toNat)
  case atStart => exact ⟨0, by omega, rfl, by rw [List.take_zero, beN_nil, Nat.zero_mod]; exact st9⟩
  case round =>
    obtain ⟨i, hi, rfl, st⟩ := hrel
    clear st9
    by_cases hlt : i < s.size
    · have hltI : (i : Int) < (s.size : Int) := by omega
      have hll : i < s.data.toList.length := by rw [HSZ.out]; exact hlt
      have hx : ∀ h1 : i < s.size, s[i]'h1 = s.data.toList.getD i 0 := by
        intro h1
        rw [List.getD_eq_getElem?_getD, List.getElem?_eq_getElem (by simpa using h1)]
        simp
        rfl
      have hsucc := beN_take s.data.toList i hll
      have hmlt := Nat.mod_lt (beN (s.data.toList.take i)) HP0.out
      generalize hM : beN (s.data.toList.take (i + 1)) = M' at *
      generalize hN : beN (s.data.toList.take i) = N at *
      generalize s.data.toList.getD i 0 = x at *
      have HN := Lib.hid hN; clear hN
      have HM := Lib.hid hM; clear hM
      have HLN := Lib.hid (Nat.lt_trans hmlt HP.out)
      have hfin : (N % p * 256 + x.toNat) % p = M' % p := by rw [hsucc, Nat.add_mod, Nat.mod_mul_mod, ← Nat.add_mod]
      have hbig : N % p * 256 + x.toNat < B64 ^ 8 := by
        have h1 := HP.out
        have h2 := x.toNat_lt
        exact Nat.lt_of_lt_of_le (show N % p * 256 + x.toNat < B64 ^ 4 * 256 by omega) (by decide)
      have HFIN := Lib.hid hfin
      have HBIG := Lib.hid hbig
      have hprod := fun wx => productR_any (N % p) 256 wx HLN.out (by decide)
      rw [← small_words 256 (by decide)] at hprod
      have HPROD := Lib.hid hprod
      have hplus := fun wx => plusR_any (N % p * 256) x.toNat wx
      rw [← small8_words x.toNat (Nat.lt_trans x.toNat_lt (by decide))] at hplus
      have HPLUS := Lib.hid hplus
      clear hll hsucc hmlt hfin hbig hprod hplus
      go_wp2_with (with_reducible refine wl_stop (o := ⟨some 15, _, _, _, _, _⟩) ?_)
      refine wl_loadS st 2 rfl rfl rfl Try.underlying97 rfl (by first | (rw [cw_len]; kernel_rfl) | (simp only [List.length_append, cw_len]; kernel_rfl)) ?_
      go_wp2_with fail
      refine (HPROD.out _).mono ?_
      rintro e' w10 ⟨rfl, hf10⟩
      have st10 := st.keep hf10
      clear st hf10
      go_wp2_with (with_reducible refine wl_stop (o := ⟨some 7, _, _, _, _, _⟩) ?_)
      refine wl_allocS st10 rfl rfl (z := .agg #[.int .u64 0, .int .u64 0, .int .u64 0, .int .u64 0, .int .u64 0, .int .u64 0, .int .u64 0, .int .u64 0]) (by kernel_rfl) (cw 8 0) (by rw [cw_zero]; rfl) ?_
      intro g7 w11 st11
      clear st10
      go_wp2_with (with_reducible refine wl_stop (o := ⟨none, _, _, _, _, _⟩) ?_)
      refine wl_storeS st11 3 rfl rfl rfl rfl rfl (by first | (simp only [cw_len]; done) | (simp only [List.length_append, cw_len]; done)) (by first | (rw [cw_len]; kernel_rfl) | (simp only [List.length_append, cw_len]; kernel_rfl)) (cw_one _ _) ?_
      intro w12 st12
      clear st11
      go_wp2_with fail
      refine wp_region_noPanic ?_
      refine wp_region_seq (fun wx => St Nob w wx [(g2, cw 4 p ++ cw 4 (B64 ^ 4 - p), 101), (g4, cw 4 0, 97), (g5, cw 4 (N % p), 97), (g7, cw 8 (N % p * 256), 141)]) 9 [(0, true), (1, true), (2, true), (3, true), (4, true), (5, true), (6, true), (7, false), (8, false)] (by kernel_rfl) (by kernel_rfl) st12.drew (fun _ _ _ _ _ h => h) ?_
      have hd12 := st12.drew
      refine seq_arr rfl rfl rfl rfl (cw 4 p ++ cw 4 (B64 ^ 4 - p)) (fun wx hS => St.rangeL hS 0 rfl 0 _ (by rw [List.drop_zero, List.take_of_length_le (Nat.le_refl _)])) Try.underlying101 rfl (by first | (rw [cw_len]; kernel_rfl) | (simp only [List.length_append, cw_len]; kernel_rfl)) ?_
      try simp only [Act.put, List.setIfInBounds_toArray, List.set_cons_zero, List.set_cons_succ]
      refine seq_arr rfl rfl rfl rfl (cw 8 (N % p * 256)) (fun wx hS => St.rangeL hS 3 rfl 0 _ (by rw [List.drop_zero, List.take_of_length_le (Nat.le_refl _)])) Try.underlying141 rfl (by first | (rw [cw_len]; kernel_rfl) | (simp only [List.length_append, cw_len]; kernel_rfl)) ?_
      try simp only [Act.put, List.setIfInBounds_toArray, List.set_cons_zero, List.set_cons_succ]
      refine seq_pure (v := ?_) rfl rfl (fun wx hS => ?_) ?_
      rotate_left 1
      · (clear hS; go_simp; with_reducible rfl)
      try simp only [Act.put, List.setIfInBounds_toArray, List.set_cons_zero, List.set_cons_succ]
      refine seq_pure (v := ?_) rfl rfl (fun wx hS => ?_) ?_
      rotate_left 1
      · (clear hS; go_simp; with_reducible rfl)
      try simp only [Act.put, List.setIfInBounds_toArray, List.set_cons_zero, List.set_cons_succ]
      refine seq_pure (v := ?_) rfl rfl (fun wx hS => ?_) ?_
      rotate_left 1
      · (clear hS; go_simp; with_reducible rfl)
      try simp only [Act.put, List.setIfInBounds_toArray, List.set_cons_zero, List.set_cons_succ]
      refine seq_pure (v := ?_) rfl rfl (fun wx hS => ?_) ?_
      rotate_left 1
      · (clear hS; go_simp; with_reducible rfl)
      try simp only [Act.put, List.setIfInBounds_toArray, List.set_cons_zero, List.set_cons_succ]
      refine seq_pure (v := ?_) rfl rfl (fun wx hS => ?_) ?_
      rotate_left 1
      · (clear hS; go_simp; with_reducible rfl)
      try simp only [Act.put, List.setIfInBounds_toArray, List.set_cons_zero, List.set_cons_succ]
      refine seq_run rfl rfl ?_
      go_simp
      refine (HPLUS.out _).mono ?_
      rintro e' w13 ⟨rfl, hf13⟩
      have st13 := hd12.keep hf13
      clear hd12 hf13
      refine ⟨st13, ?_⟩
      try simp only [Act.put, List.setIfInBounds_toArray, List.set_cons_zero, List.set_cons_succ]
      refine seq_run rfl rfl ?_
      go_simp
      refine (Less_any p (N % p * 256 + x.toNat) _ HP0.out HP.out HBIG.out).mono ?_
      rintro e' w14 ⟨rfl, hf14⟩
      have st14 := st13.keep hf14
      clear st13 hf14
      refine ⟨st14, ?_⟩
      try simp only [Act.put, List.setIfInBounds_toArray, List.set_cons_zero, List.set_cons_succ]
      refine seq_end ?_
      try simp only [List.drop_succ_cons, List.drop_zero]
      refine wl_storeS st14 2 rfl rfl rfl rfl rfl (by first | (simp only [cw_len]; done) | (simp only [List.length_append, cw_len]; done)) (by first | (rw [cw_len]; kernel_rfl) | (simp only [List.length_append, cw_len]; kernel_rfl)) (cw_one _ _) ?_
      intro w15 st15
      clear st14
      go_wp2_with fail
      refine NoPanic.normal ?_
      have hst := st15
      rw [HFIN.out] at hst
      clear st15
      go_wp2
      go_roundw
      case rel => exact ⟨i + 1, by omega, by go_num, by rw [HM.out]; exact hst.less (by simp)⟩
      case measure => simp [intOf]; omega
    · have hge : ¬ ((i : Int) < (s.size : Int)) := by omega
      have hi2 : i = s.data.toList.length := by rw [HSZ.out]; omega
      rw [hi2, List.take_of_length_le (Nat.le_refl _)] at st
      clear hi2
      go_wp2_with (with_reducible refine wl_stop (o := ⟨some 27, _, _, _, _, _⟩) ?_)
      refine wl_loadS st 2 rfl rfl rfl Try.underlying97 rfl (by first | (rw [cw_len]; kernel_rfl) | (simp only [List.length_append, cw_len]; kernel_rfl)) ?_
      go_wp2_with (with_reducible refine wl_stop (o := ⟨none, _, _, _, _, _⟩) ?_)
      refine wl_storeS st 1 rfl rfl rfl rfl rfl (by first | (simp only [cw_len]; done) | (simp only [List.length_append, cw_len]; done)) (by first | (rw [cw_len]; kernel_rfl) | (simp only [List.length_append, cw_len]; kernel_rfl)) (cw_one _ _) ?_
      intro w10 st10
      clear st
      have hr := st10.at 1 rfl
      have hfr := st10.fr
      clear st10
      go_wp2_with fail
      exact bodyPost_ret (results_arr rfl rfl hr Try.underlying97 (by first | (rw [cw_len]; kernel_rfl) | (simp only [List.length_append, cw_len]; kernel_rfl))) rfl ⟨rfl, hfr⟩
end Go.Proofs.Ytnooojkhnpcolaa

/- Plain: the two primes. -/
namespace Mvp
/-- 2^256 less the primes -/
def cP : Nat := 4294968273
def cQ : Nat := 4624529908474429119 + 4994812053365940164 * B64 + B64 ^ 2
def pP : Nat := B64 ^ 4 - cP
def pQ : Nat := B64 ^ 4 - cQ
theorem cP_lt : cP < B64 ^ 4 := by decide
theorem cQ_lt : cQ < B64 ^ 4 := by decide
theorem pP_lt : pP < B64 ^ 4 := by decide
theorem pQ_lt : pQ < B64 ^ 4 := by decide
theorem pP_pos : 0 < pP := by decide
theorem pQ_pos : 0 < pQ := by decide
theorem pP_c : B64 ^ 4 - pP = cP := by decide
theorem pQ_c : B64 ^ 4 - pQ = cQ := by decide
end Mvp

/- Literals of n one-cell elements; loads and stores of structs by value. -/
namespace Go.Mv
open Go.RowKit
variable {P : Program}
/-- n cells in a row -/
theorem wl_slit {w : World} {ops : Array Oper} {rest : List Oper} {o : Oper} {a : Act} {Q : Exit → Act → World → Prop} {t e : TypeId} {k : Nat} {parts : Array (Nat × Operand)} (hgd : o.guard = none) (ho : o.op = .buildSlice t k parts)
    (hu : P.underlying t = some (.slice e)) {z : Value} {by_ : Nat} (hi0 : (P.info? e).map (fun i => (i.zero, i.size, i.bytes)) = some (some z, 1, by_)) (vs : List Value) (hp : (parts.toList.map fun p => (p.1, a.eval p.2)) = (vs.zipIdx 0).map fun x => (x.2, x.1))
    (hv : ∀ v ∈ vs, v.cells = #[v]) (hk : vs.length = k) (hz : z.cells.size = 1)
    (h : ∀ w', Has w' w.heap.size vs e → Fr Nob w w' → w'.heap.size = w.heap.size + 1 → wpList P ops Q rest (a.put o.dst (.slice (some ⟨w.heap.size, 0, none⟩) k k)) w') (hk0 : 0 < k := by decide) (hk24 : k ≤ 16777216 := by decide) : wpList P ops Q (o :: rest) a w := by
  obtain ⟨i, hi, hz0⟩ : ∃ i, P.info? e = some i ∧ (i.zero, i.size, i.bytes) = (some z, 1, by_) := by simpa using hi0
  simp only [Prod.mk.injEq] at hz0
  obtain ⟨hz1, hsz, hby⟩ := hz0
  have hf : Instr.fill (fun j => some (j * i.size, i.size)) ((Array.range (k * i.size)).map (z.cells[· % z.cells.size]!)) (parts.map fun (i, x) => (i, a.eval x)).toList = some vs.toArray := by
    rw [show (parts.map fun (i, x) => (i, a.eval x)).toList = (parts.toList.map fun p => (p.1, a.eval p.2)) by simp, hp, hsz]
    exact Great.fill_flat vs _ hv (by simp [hk])
  exact wpList_buildSlice hgd t e k _ ho _ i _ hu hi hz1 (by rw [hsz]; omega) (by rw [hsz]; omega) hf (h _ (Has.new w vs.toArray e) ((Fr.refl _ w).alloc _) (by simp))

theorem wl_buildL {w : World} {ops : Array Oper} {rest : List Oper} {o : Oper} {a : Act} {Q : Exit → Act → World → Prop} {t : TypeId} {parts : Array (Nat × Operand)} (hgd : o.guard = none) (ho : o.op = .build t parts) (cells : Array Value)
    (hb : P.built t (parts.toList.map fun p => (p.1, a.eval p.2)) = some cells) (h : wpList P ops Q rest (a.put o.dst (.agg cells)) w) : wpList P ops Q (o :: rest) a w :=
  wl_build hgd ho cells (by rw [show (parts.map fun (i, x) => (i, a.eval x)).toList = (parts.toList.map fun p => (p.1, a.eval p.2)) by simp]; exact hb) h
/-- a whole row (array or struct) is read, out of cells -/
theorem wl_loadR {w : World} {ops : Array Oper} {rest : List Oper} {o : Oper} {a : Act} {Q : Exit → Act → World → Prop} {ty : TypeId} {x : Operand} (hgd : o.guard = none) (ho : o.op = .load ty x) {d : TypeDesc} (hu : P.underlying ty = some d) (hd : d.isRow = true) {g p : Nat} (hx : a.eval x = .pointer (some ⟨g, p, none⟩))
    {cs : List Value} (hg : At w g p cs) (hi : (P.info? ty).map (·.size) = some cs.length)
    (h : wpList P ops Q rest (a.put o.dst (.agg cs.toArray)) w) : wpList P ops Q (o :: rest) a w :=
  wpList_load_mid hgd ty x ho g p hx cs d (fun j v hv => hg j v hv) hu hd hi h
end Go.Mv
