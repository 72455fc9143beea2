/- Permute of the reference -/
import Derived.Test.YtgkakddldobpkaaW8
namespace Go.Proofs.Ytgkakddldobpkaa
open Go.RowKit Go.Mv Mvp

theorem roundR_len (t : List Nat) (s : List UInt64) (c : UInt64) : (roundR t s c).length = 25 := by simp [roundR, chiR_len]
theorem permR_len (t : List Nat) (rc : Nat → UInt64) (s : List UInt64) (k : Nat) (h : s.length = 25) : (permR t rc s k).length = 25 := by
  cases k with
  | zero => simpa [permR] using h
  | succ k => rw [permR_succ, roundR_len]

set_option maxHeartbeats 2000000 in
set_option maxRecDepth 1000000 in
theorem permuteR_any (s : ByteArray) (w : World) (hs : s.size = 200) :
    Calls Try.prog 15 #[.string s] w fun e w' => e = .returned (.string (mkS (permB s.data.toList))) ∧ Fr Nob w w' := by
  have hsb : s.size ≤ 200 := by omega
  have HSZ := Lib.hid hs; clear hs
  go_enter Try.func15, Try.ntmps15
  go_wp2_with (at_make; refine wl_make rfl rfl Try.underlying87 info_u64 rfl rfl rfl 25 25 (by simp) (by simp) (by omega) (by omega) (by unfold maxLen; omega) ?_; intro w1 hw1 hf1 hz1)
  have ha1 : Has w1 w.heap.size (ws (orB zeros25 s.data.toList 0)) 82 := by simpa [orB, zeros25, ws] using hw1
  generalize hga : w.heap.size = ga at *
  clear hw1
  have HGA := Lib.hid hga; clear hga
  go_loopw [4] (fun i wr => ∃ k : Nat, k ≤ 200 ∧ i = .int .i64 k ∧ Has wr ga (ws (orB zeros25 s.data.toList k)) 82 ∧ Fr Nob w wr) (fun i _ => (200 - intOf i).toNat)
  case atStart => exact ⟨0, by omega, rfl, ha1, hf1⟩
  case round =>
    obtain ⟨k, hk, rfl, hak, hf⟩ := hrel
    clear ha1 hf1 hz1
    by_cases hlt : k < 200
    · have hltI : (k : Int) < 200 := by omega
      have hol : (orB zeros25 s.data.toList k).length = 25 := by rw [orB_len]; simp [zeros25]
      have hx : ∀ h1 : k < s.size, s[k]'h1 = s.data.toList.getD k 0 := by
        intro h1
        rw [List.getD_eq_getElem?_getD, List.getElem?_eq_getElem (by simpa using h1)]
        simp
        rfl
      have hc : wr.cell? ⟨ga, k / 8, none⟩ = some (.int .u64 (((orB zeros25 s.data.toList k).getD (k / 8) 0).toNat : Int)) := hak.cell (ws_get _ _ (by omega))
      have hfz : wr.frozen? ⟨ga, k / 8, none⟩ = false := hak.free _ (by rw [length_ws]; omega)
      have hlo : (0 : Int) ≤ (k : Int) / 8 ∧ (k : Int) / 8 < 25 := by omega
      generalize hy : (orB zeros25 s.data.toList k).getD (k / 8) 0 = y at hc
      generalize hxx : s.data.toList.getD k 0 = x at hx
      have HY := Lib.hid hy; clear hy
      have HX := Lib.hid hxx; clear hxx
      have HOL := Lib.hid hol; clear hol
      go_wp2_with fail
      have e1 : IntKind.i64.wrap ((k : Int) / 8) = (k : Int) / 8 := IntWalk.i64_in _ (by omega)
      have hks : (k : Int) < (s.size : Int) := by have := HSZ.out; omega
      have e2 : (k : Int).tmod 8 = (k : Int) % 8 := Int.tmod_eq_emod_of_nonneg (by omega)
      have e3 : IntKind.i64.wrap (8 * ((k : Int) % 8)) = 8 * ((k : Int) % 8) := IntWalk.i64_in _ (by omega)
      have e4 : ((k : Int) / 8).toNat = k / 8 := by omega
      refine wp_region_still_tail 18 (by kernel_rfl) (by kernel_rfl) ?_
      simp only [List.take_succ_cons, List.take_zero, List.drop_succ_cons, List.drop_zero]
      repeat still_step
      refine wpStill_nil ?_
      go_wp2
      go_roundw
      case rel =>
        have e : orB zeros25 s.data.toList (k + 1) = (orB zeros25 s.data.toList k).set (k / 8) (wo y (shl (wid x) (8 * (k % 8)))) := by
          rw [orB_succ, orStep, HX.out, HY.out]
        refine ⟨k + 1, by omega, by go_num, ?_, (hf.setCell _ _ _ _ (fun h => by have := HGA.out; omega)).drew⟩
        rw [e, ← ws_set]
        exact (hak.set _ _).drew
      case measure => simp [intOf]; omega
    · have hge : ¬ ((k : Int) < 200) := by omega
      have hk200 : k = 200 := by omega
      have hor : orB zeros25 s.data.toList k = xorB zeros25 s.data.toList 200 := by rw [hk200]; exact (or_same s.data.toList 200 (by omega)).1
      rw [hor] at hak
      have hsl : (xorB zeros25 s.data.toList 200).length = 25 := by rw [xorB_len]; simp [zeros25]
      have hpb : permB s.data.toList = toB (permR (turnsK 24) (fun r => rcR r 7) (xorB zeros25 s.data.toList 200) 24) 200 := by rw [permR_eq _ hsl]; rfl
      generalize xorB zeros25 s.data.toList 200 = S at *
      clear hor hk200
      have HPB := Lib.hid hpb; clear hpb
      have HSL := Lib.hid hsl; clear hsl
      go_wp2_with fail
      refine (offsets_any _).mono ?_
      rintro e w2 ⟨rfl, ht2, hf2⟩
      have ha2 := hak.keep hf2 id
      have hfr2 := hf.then hf2
      generalize wr.heap.size = gt at *
      clear hak hf hf2
      go_wp2_with fail
      go_loopw [3, 6] (fun v i wr => ∃ (r g : Nat), r ≤ 24 ∧ i = .int .i64 r ∧ v = .slice (some ⟨g, 0, none⟩) 25 25 ∧ Has wr g (ws (permR (turnsK 24) (fun r => rcR r 7) S r)) 82 ∧ Has wr gt (is (turnsK 24)) 3 ∧ Fr Nob w wr) (fun _ i _ => (24 - intOf i).toNat)
      case atStart => exact ⟨0, ga, by omega, rfl, rfl, by simpa [permR] using ha2, ht2, hfr2⟩
      case round =>
        obtain ⟨r, g, hr, rfl, rfl, hgr, htr, hfr⟩ := hrel
        clear ha2 ht2 hfr2
        by_cases hlt2 : r < 24
        · have hlt2I : (r : Int) < 24 := by omega
          have hpl : (permR (turnsK 24) (fun r => rcR r 7) S r).length = 25 := permR_len _ _ _ _ HSL.out
          go_wp2_with fail
          refine (constR_any r hlt2 _).mono ?_
          rintro e w' ⟨rfl, rfl⟩
          go_wp2_with fail
          refine (round_any _ _ 25 _ _ (permR (turnsK 24) (fun r => rcR r 7) S r) (rcR r 7) _ rfl (by have := Rd.whole hgr; rwa [length_ws, hpl] at this) (by have := Rd.whole htr; rwa [length_is, turnsK_len] at this)).mono ?_
          rintro e w3 ⟨g3, rfl, hg3, hh3, hf3⟩
          go_wp2_with fail
          go_roundw
          case rel => exact ⟨r + 1, g3, by omega, by go_num, rfl, by rw [permR_succ]; exact hh3, htr.keep hf3 id, hfr.then hf3⟩
          case measure => simp [intOf]; omega
        · have hge2 : ¬ ((r : Int) < 24) := by omega
          have hr24 : r = 24 := by omega
          have hpl : (permR (turnsK 24) (fun r => rcR r 7) S r).length = 25 := permR_len _ _ _ _ HSL.out
          have hpb2 : permB s.data.toList = toB (permR (turnsK 24) (fun r => rcR r 7) S r) 200 := by rw [HPB.out, hr24]
          generalize permR (turnsK 24) (fun r => rcR r 7) S r = R at *
          have HPB2 := Lib.hid hpb2; clear hpb2
          clear hr24 htr
          go_wp2_with (at_make; refine wl_make rfl rfl Try.underlying22 info_u8 rfl rfl rfl 200 200 (by simp) (by simp) (by omega) (by omega) (by unfold maxLen; omega) ?_; intro w4 hw4 hf4 hz4)
          have hgo : g < wr.heap.size := hgr.lt
          have hgb : w.heap.size ≤ wr.heap.size := hfr.size
          have ho4 : Has w4 wr.heap.size (bs (fill (toB R 200) (List.replicate 200 0) 0)) 5 := by rw [fill_zero]; simpa [bs] using hw4
          have hg4 := hgr.keep hf4 id
          have hfr4 := hfr.then hf4
          generalize wr.heap.size = go at *
          clear hw4 hf4 hz4 hgr hfr
          go_wp2_with fail
          go_loopw [8] (fun i wr => ∃ k : Nat, k ≤ 200 ∧ i = .int .i64 k ∧ Has wr go (bs (fill (toB R 200) (List.replicate 200 0) k)) 5 ∧ Has wr g (ws R) 82 ∧ Fr Nob w wr) (fun i _ => (200 - intOf i).toNat)
          case atStart => exact ⟨0, by omega, rfl, ho4, hg4, hfr4⟩
          case round =>
            obtain ⟨k, hk, rfl, hh, hg2, hf⟩ := hrel
            clear ho4 hg4 hfr4
            by_cases hlt3 : k < 200
            · have hlt3I : (k : Int) < 200 := by omega
              obtain ⟨v0, hc0, hfr0⟩ := hh.ready (i := k) (by rw [length_bs, fill_length _ _ _ (by simp [toB_len])]; simpa using hlt3)
              have hc : wr.cell? ⟨g, k / 8, none⟩ = some (.int .u64 ((R.getD (k / 8) 0).toNat : Int)) := hg2.cell (ws_get _ _ (by omega))
              have hlo : (0 : Int) ≤ (k : Int) / 8 ∧ (k : Int) / 8 < 25 := by omega
              generalize hy : R.getD (k / 8) 0 = y at hc
              have HY := Lib.hid hy; clear hy
              have HPL := Lib.hid hpl; clear hpl
              go_wp2
              go_roundw
              case rel =>
                have e : (toB R 200).getD k 0 = lo8 (shr y (8 * (k % 8))) := by rw [toB_at R 200 k hlt3, sByte, HY.out]
                refine ⟨k + 1, by omega, by go_num, ?_, hg2.other _ _ _ (by omega), hf.setCell _ _ _ _ (fun h => absurd h (by omega))⟩
                rw [← e]
                exact hh.fillB (by simp [toB_len]) (by simpa [toB_len] using hlt3)
              case measure => simp [intOf]; omega
            · have hge3 : ¬ ((k : Int) < 200) := by omega
              rw [fill_all _ _ _ (by simp [toB_len]) (by simp [toB_len]; omega)] at hh
              go_wp2_with (with_reducible refine wl_stop (o := ⟨some 61, _, _, _, _, _⟩) ?_)
              refine wl_string rfl rfl Try.underlying22 Try.underlying5 Try.underlying9 rfl (l := toB R 200) (by have := Rd.whole hh; rwa [length_bs, toB_len] at this) ?_
              go_wp2
              go_ret
              exact ⟨by rw [HPB2.out]; rfl, hf⟩
end Go.Proofs.Ytgkakddldobpkaa
