/- The reference's sponge -/
import Derived.Test.YtgkakddldobpkaaW9
import Derived.Test.YtgkakddldobpkaaW10
import Derived.Test.YtgkakddldobpkaaBox
import Derived.Test.YtgkakddldobpkaaSpg5
namespace Go.Proofs.Ytgkakddldobpkaa
open Go.RowKit Go.Mv Mvp
attribute [local irreducible] permS permP toB turnsK squeeze permN permB

theorem pad_append (l : List UInt8) (e : UInt8) (m : Nat) : bs (l ++ e :: List.replicate m 0) ++ bs [0] = bs (l ++ e :: List.replicate (m + 1) 0) := by
  rw [← bs_append, List.replicate_succ']; simp

theorem Rd.take {w : World} {a : Option Addr} {n : Nat} {vs : List Value} (h : Rd w a n vs) (p : Nat) (hp : p ≤ n) : Rd w a p (vs.take p) := by
  refine ⟨by rw [List.length_take, h.len]; omega, h.2.imp (fun h0 => by omega) ?_⟩
  rintro ⟨b, o, rfl, hc⟩
  refine ⟨b, o, rfl, fun i v hv => ?_⟩
  rw [List.getElem?_take] at hv
  split at hv
  · exact hc i v hv
  · cases hv
theorem mkS_append (l m : List UInt8) : mkS l ++ mkS m = mkS (l ++ m) := by
  apply ByteArray.ext
  simp [mkS]
theorem mkS_extract (l : List UInt8) (n : Nat) : (mkS l).extract 0 n = mkS (l.take n) := by
  apply ByteArray.ext
  simp [mkS]
theorem squeeze_zero' (S : List UInt64) : squeeze S 0 = [] := by unfold squeeze; rfl
theorem permN_zero' (S : List UInt64) : permN S 0 = S := by unfold permN; rfl
def strLen : Value → Nat
  | .string s => s.size
  | _ => 0
theorem pieces_lt' (n j : Nat) : 136 * j < n ↔ j < pieces n := by unfold pieces; omega

set_option maxHeartbeats 2000000 in
set_option maxRecDepth 1000000 in
theorem spongeR_any (s : ByteArray) (e : UInt8) (n : Nat) (w : World) (hs : s.size ≤ 1000000) (hn : n ≤ 20000) :
    Calls Try.prog 58 #[.string s, .int .u8 (e.toNat : Int), .int .i64 (n : Int)] w fun r w' => r = .returned (.string (mkS (spongeB s.data.toList e n))) ∧ Fr Nob w w' := by
  obtain ⟨l, rfl⟩ : ∃ l, s = mkS l := ⟨_, (mkS_data s).symm⟩
  rw [mkS_size] at hs
  rw [mkS_toList]
  go_enter Try.func58, Try.ntmps58
  go_wp2_with (with_reducible refine wl_stop (o := ⟨some 13, _, _, _, _, _⟩) ?_)
  refine wl_bytes rfl rfl Try.underlying9 Try.underlying22 Try.underlying5 rfl (by rw [mkS_size]; unfold maxLen; omega) w.heap.size (Nat.le_refl _) ?_
  intro cap w1 hown1 hf1 hz1
  rw [mkS_toList, mkS_size] at hown1
  rw [mkS_size]
  go_wp2_with (with_reducible refine wl_stop (o := ⟨some 15, _, _, _, _, _⟩) ?_)
  refine wl_one rfl rfl Try.underlying22 info_u8 e rfl ?_
  intro w2 hg2 hf2 hz2
  have hown2 := hown1.still hf2
  have hfr2 := hf1.then hf2
  generalize w1.heap.size = g1 at *
  clear hown1 hf1 hf2 hz2 hz1
  go_wp2_with (with_reducible refine wl_stop (o := ⟨some 16, _, _, _, _, _⟩) ?_)
  refine wl_append rfl rfl Try.underlying22 info_u8 rfl (by decide) hown2 rfl rfl (Rd.whole hg2) (bs_one _) (by simp [maxLen]; omega) (by simp; omega) hfr2.size ?_
  intro v3 w3 hown3 hf3 hb3
  have hfr3 : Fr Nob w w3 := hown2.fr hfr2 (Nat.le_refl _) hf3
  clear hown2 hfr2 hg2 hf3 hb3
  go_wp2_with fail
  go_loopw [7] (fun v wr => ∃ m, m ≤ 135 - l.length % 136 ∧ Own wr w.heap.size 5 1 v (l.length + 1 + m) (bs (l ++ e :: List.replicate m 0)) ∧ Fr Nob w wr) (fun v _ => l.length + 136 - lenV v)
  case atStart => exact ⟨0, Nat.zero_le _, by simpa [bs] using hown3, hfr3⟩
  case round =>
    obtain ⟨m, hm, hown, hf⟩ := hrel
    clear hown3 hfr3
    obtain ⟨a, c, rfl, hc, hrd, hna⟩ := hown.form
    have hmod := Nat.mod_lt l.length (show 0 < 136 by decide)
    by_cases hlt : (l.length + 1 + m) % 136 = 0
    · have hb : (((l.length : Int) + 1 + (m : Int)) % 136 != 0) = false := by simp; omega
      have hmk : m = 135 - l.length % 136 := by omega
      have HMK := Lib.hid hmk; clear hmk
      have HMOD := Lib.hid hmod; clear hmod
      have HLT := Lib.hid hlt; clear hlt
      obtain ⟨gp, op, cp, hv, hgp, hgp2, hcp, hcm, hget, hfree, hput⟩ := hown.cells (by omega)
      simp only [Value.slice.injEq] at hv
      obtain ⟨rfl, -, rfl⟩ := hv
      have hlen : (l ++ e :: List.replicate m 0).length = l.length + 1 + m := by simp; omega
      have hcl : wr.cell? ⟨gp, op + (l.length + m), none⟩ = some (.int .u8 (((l ++ e :: List.replicate m 0).getD (l.length + m) 0).toNat : Int)) := hget _ _ (bs_get _ _ (by omega))
      have hfl := hfree (l.length + m) (by omega)
      have hput2 := hput (l.length + m)
      clear hget hfree hput hrd hna
      generalize hy : (l ++ e :: List.replicate m 0).getD (l.length + m) 0 = y at hcl
      have HY := Lib.hid hy; clear hy
      have hbx : bits BinOp.xor IntKind.u8 (y.toNat : Int) 128 = ((bx y 128).toNat : Int) := xor8_run y 128
      go_wp2_with (with_reducible refine wl_stop (o := ⟨some 36, _, _, _, _, _⟩) ?_)
      have hown4 := hput2 (.int .u8 ((bx y 0x80).toNat : Int)) (by omega)
      rw [bs_set, ← HY.out, padded_eq l e m HMK.out] at hown4
      rw [HY.out] at hown4
      have hfr4 : Fr Nob w (wr.setCell ⟨gp, op + (l.length + m), none⟩ (.int .u8 ((bx y 128).toNat : Int))) := hf.setCell gp _ none _ (fun h => by omega)
      have hgp4 : gp < (wr.setCell ⟨gp, op + (l.length + m), none⟩ (.int .u8 ((bx y 128).toNat : Int))).heap.size := by simpa using hgp2
      generalize wr.setCell ⟨gp, op + (l.length + m), none⟩ (.int .u8 ((bx y 128).toNat : Int)) = w4 at *
      have hpl := padded_len l e
      have hpm := padded_mod l e
      have hpe := afterB_all l e
      have hN : l.length + 1 + m = (padded l e).length := by rw [hpl, HMK.out]; have := HMOD.out; omega
      have hpb : (padded l e).length ≤ 1000136 := by rw [hpl]; omega
      rw [hN] at hown4 ⊢
      have hrd4 : RdB w4 (some ⟨gp, op, none⟩) (padded l e).length (padded l e) := by
        obtain ⟨a, cc, hv, _, hr, _⟩ := hown4.form
        cases hv
        rw [Nat.mul_one] at hr; exact hr
      clear hown hown4 hf hgp2 hput2 hcl hfl hbx HY hlen hpl hb HLT hc hcm hcp HMK
      generalize hP : padded l e = P at *
      have HP := Lib.hid hP; clear hP
      refine wl_make rfl rfl Try.underlying22 info_u8 rfl rfl rfl 200 200 (by simp) (by simp) (by omega) (by omega) (by unfold maxLen; omega) ?_
      intro w5 hg5 hf5 hz5
      have hs5 : Own w5 w4.heap.size 5 1 (.slice (some ⟨w4.heap.size, 0, none⟩) 200 200) 200 (bs (toB zeros25 200)) := by
        rw [toB_zeros]
        have := Own.made hg5 w4.heap.size (Nat.le_refl _) 1 200 200 (Nat.le_refl _) (by unfold maxLen; omega) (by simp)
        rw [List.take_of_length_le (by simp)] at this
        exact this
      have hrd5 := hrd4.still hf5
      have hfr5 := hfr4.then hf5
      have hb5 : w4.heap.size ≤ w5.heap.size := hf5.size
      have hwb : w.heap.size ≤ w4.heap.size := hfr4.size
      generalize w4.heap.size = b5 at *
      clear hg5 hf5 hz5 hrd4 hfr4
      go_wp2_with fail
      go_loopw [9, 8] (fun i v wr => ∃ I : Nat, I ≤ P.length ∧ I % 136 = 0 ∧ i = .int .i64 (I : Int) ∧ Own wr b5 5 1 v 200 (bs (toB (afterB P I) 200)) ∧ RdB wr (some ⟨gp, op, none⟩) P.length P ∧ b5 ≤ wr.heap.size ∧ Fr Nob w wr) (fun i _ _ => (P.length - intOf i).toNat)
      case atStart => exact ⟨0, by omega, rfl, rfl, by rw [afterB_zero]; exact hs5, hrd5, hb5, hfr5⟩
      case round =>
        obtain ⟨I, hk, hI, rfl, hst, hrdk, hbk, hfk⟩ := hrel
        clear hs5 hrd5 hb5 hfr5
        have hSl := afterB_len P I
        by_cases hlt : I < P.length
        · have hltI : (I : Int) < (P.length : Int) := by omega
          have hk2 : I + 136 ≤ P.length := by omega
          have hsucc := afterB_succ P I hI hk2
          generalize hS0 : afterB P I = S at *
          have HS0 := Lib.hid hS0; clear hS0
          have HI := Lib.hid hI; clear hI
          have HSU := Lib.hid hsucc; clear hsucc
          have HSL := Lib.hid hSl; clear hSl
          have HPE := Lib.hid hpe; clear hpe
          have HPM := Lib.hid hpm; clear hpm
          obtain ⟨gs, os, cs, rfl, hgs, hgs2, hcs, hcm, -, -, -⟩ := hst.cells (by omega)
          obtain ⟨wo, rfl⟩ : ∃ wo : World, wo = wr := ⟨_, rfl⟩
          go_wp2_with fail
          go_loopw [10] (fun j wr => ∃ jn : Nat, jn ≤ 136 ∧ j = .int .i64 (jn : Int) ∧ Own wr b5 5 1 (.slice (some ⟨gs, os, none⟩) 200 cs) 200 (bs (addB (toB S 200) (P.drop I) jn)) ∧ RdB wr (some ⟨gp, op, none⟩) P.length P ∧ b5 ≤ wr.heap.size ∧ Fr Nob w wr) (fun j _ => (136 - intOf j).toNat)
          case atStart => exact ⟨0, by omega, rfl, by rw [addB_zero]; exact hst, hrdk, hbk, hfk⟩
          case round =>
            obtain ⟨j, hj, rfl, hsj, hrdj, hbj, hfj⟩ := hrel
            clear hst hrdk hbk hfk
            by_cases hjlt : j < 136
            · have hjI : (j : Int) < 136 := by omega
              obtain ⟨gs', os', cs', hv, -, hgs3, -, -, hget, hfree, hput⟩ := hsj.cells (by omega)
              simp only [Value.slice.injEq, Option.some.injEq, Addr.mk.injEq] at hv
              obtain ⟨⟨rfl, rfl, -⟩, -, rfl⟩ := hv
              have hc1 : wr.cell? ⟨gs, os + j, none⟩ = some (.int .u8 (((addB (toB S 200) (P.drop I) j).getD j 0).toNat : Int)) := hget _ _ (bs_get _ _ (by rw [addB_len, toB_len]; omega))
              have hf1 := hfree j (by omega)
              have hput1 := hput j
              have hc2 : wr.cell? ⟨gp, op + (I + j), none⟩ = some (.int .u8 ((P.getD (I + j) 0).toNat : Int)) := by
                obtain ⟨b, o, he, hh⟩ := hrdj.at (by omega)
                simp only [Option.some.injEq, Addr.mk.injEq] at he
                obtain ⟨rfl, rfl, -⟩ := he
                exact hh _ (by omega)
              clear hget hfree hput
              generalize hx : (addB (toB S 200) (P.drop I) j).getD j 0 = x at hc1
              generalize hy : P.getD (I + j) 0 = y at hc2
              have HX := Lib.hid hx; clear hx
              have HY := Lib.hid hy; clear hy
              go_wp2_with fail
              try go_region
              all_goals go_wp2
              go_roundw
              case rel =>
                have e : (P.drop I).getD j 0 = y := by
                  rw [← HY.out]; simp [List.getD_eq_getElem?_getD, List.getElem?_drop]
                have h1 := hput1 (.int .u8 ((bx x y).toNat : Int)) (by omega)
                rw [bs_set, ← HX.out, ← e, ← addB_succ] at h1
                rw [HX.out, e] at h1
                refine ⟨j + 1, by omega, by go_num, h1, ?_, ?_, ?_⟩
                · exact hrdj.keep ((Fr.refl (One gs) wr).setCell gs _ none _ (fun _ => rfl)).drew (fun a ha (hh : a.block = gs) => by simp only [Option.some.injEq] at ha; subst ha; simp at hh; omega)
                · simpa using hbj
                · exact (hfj.setCell gs _ none _ (fun h => by omega)).drew
              case measure => simp [intOf]; omega
            · have hge : ¬ ((j : Int) < 136) := by omega
              have hj136 : j = 136 := by omega
              have HJ := Lib.hid hj136; clear hj136
              go_wp2_with (with_reducible refine wl_stop (o := ⟨some 62, _, _, _, _, _⟩) ?_)
              have hrs : RdB wr (some ⟨gs, os, none⟩) 200 (addB (toB S 200) (P.drop I) 136) := by
                obtain ⟨a, cc, hv, _, hr, _⟩ := hsj.form
                cases hv
                rw [HJ.out, Nat.mul_one] at hr; exact hr
              refine wl_string rfl rfl Try.underlying22 Try.underlying5 Try.underlying9 rfl hrs ?_
              go_wp2_with fail
              refine (permuteR_any (mkS (addB (toB S 200) (P.drop I) 136)) _ (by rw [mkS_size, addB_len, toB_len])).mono ?_
              rintro e' w6 ⟨rfl, hf6⟩
              rw [mkS_toList, perm_add S HSL.out _ (by rw [List.length_drop]; omega), ← HSU.out]
              have hb6 : b5 ≤ w6.heap.size := Nat.le_trans hbj hf6.size
              go_wp2_with (with_reducible refine wl_stop (o := ⟨some 64, _, _, _, _, _⟩) ?_)
              refine wl_bytes rfl rfl Try.underlying9 Try.underlying22 Try.underlying5 rfl (by rw [mkS_size, toB_len]; unfold maxLen; omega) b5 hb6 ?_
              intro c7 w7 hs7 hf7 hz7
              rw [mkS_toList, mkS_size, toB_len] at hs7
              rw [mkS_size, toB_len]
              have hf67 := hf6.then hf7
              have hrd7 := hrdj.still hf67
              have hfr7 := hfj.then hf67
              have hb7 : b5 ≤ w7.heap.size := Nat.le_trans hb6 hf7.size
              generalize w6.heap.size = g6 at *
              clear hsj hrdj hfj hrs hf6 hf7 hz7 hf67
              go_wp2_with fail
              go_roundw
              case rel => exact ⟨I + 136, by omega, by have := HI.out; omega, by go_num, hs7, hrd7, hb7, hfr7⟩
              case measure => simp [intOf]; omega
        · have hge : ¬ ((I : Int) < (P.length : Int)) := by omega
          have hend : afterB P I = ended (feed (zeros25, 0) l) e := hpe I (by omega)
          rw [hend] at hst hSl
          clear hpe hend
          generalize hE : ended (feed (zeros25, 0) l) e = S0 at *
          have HE := Lib.hid hE; clear hE
          have HPM := Lib.hid hpm; clear hpm
          clear hrdk
          go_wp2_with fail
          go_loopw [11, 8] (fun o v wr => ∃ j : Nat, j ≤ pieces n ∧ o = .string (mkS (squeeze S0 j)) ∧ Own wr b5 5 1 v 200 (bs (toB (permN S0 j) 200)) ∧ b5 ≤ wr.heap.size ∧ Fr Nob w wr) (fun o _ _ => n - strLen o)
          case atStart => exact ⟨0, Nat.zero_le _, by rw [squeeze_zero']; rfl, by rw [permN_zero']; exact hst, hbk, hfk⟩
          case round =>
            obtain ⟨j, hj, rfl, hsj, hbj, hfj⟩ := hrel
            clear hst hbk hfk
            have hpi := pieces_lt' n j
            have hql : (mkS (squeeze S0 j)).size = 136 * j := by rw [mkS_size, squeeze_len]
            generalize hq : mkS (squeeze S0 j) = q at *
            have HQ := Lib.hid hq; clear hq
            by_cases hlt : 136 * j < n
            · have hltI : (q.size : Int) < (n : Int) := by omega
              have hj1 := hpi.1 hlt
              have HPI := Lib.hid hpi; clear hpi
              have HQL := Lib.hid hql; clear hql
              have HLT := Lib.hid hlt; clear hlt
              have HSL := Lib.hid hSl; clear hSl
              obtain ⟨a, cc, rfl, hcc, hrs, hna⟩ := hsj.form
              have e1 : ∀ wx, (Instr.sliceAt 22 (.slice a 200 cc) none (some (.int .i64 136)) none).run Try.prog wx = .ok (.slice a 136 cc) wx := fun wx => run_slice_hi wx Try.underlying22 size_u8 a 200 cc .i64 136 (by omega)
              go_wp2_with (with_reducible refine wl_stop (o := ⟨some 72, _, _, _, _, _⟩) ?_)
              have hrs2 : RdB wr a 136 (toB (permN S0 j) 136) := by
                have h2 := hrs
                rw [Nat.mul_one] at h2
                have h3 := Rd.take h2 136 (by omega)
                rwa [bs_take, toB_take] at h3
              have hrs3 : RdB wr a 200 (toB (permN S0 j) 200) := by
                rw [Nat.mul_one] at hrs; exact hrs
              clear hrs hna
              have hcat : ¬ 9223372036854775807 < q.size + (mkS (toB (permN S0 j) 136)).size := by have := HLT.out; rw [mkS_size, toB_len, HQL.out]; omega
              refine wl_string rfl rfl Try.underlying22 Try.underlying5 Try.underlying9 rfl hrs2 ?_
              go_wp2_with (with_reducible refine wl_stop (o := ⟨some 75, _, _, _, _, _⟩) ?_)
              have hqq : q ++ mkS (toB (permN S0 j) 136) = mkS (squeeze S0 (j + 1)) := by rw [← HQ.out, mkS_append, ← squeeze_succ]
              rw [hqq]
              refine wl_string rfl rfl Try.underlying22 Try.underlying5 Try.underlying9 rfl hrs3 ?_
              clear hcat
              go_wp2_with fail
              refine (permuteR_any (mkS (toB (permN S0 j) 200)) _ (by rw [mkS_size, toB_len])).mono ?_
              rintro e' w6 ⟨rfl, hf6⟩
              rw [mkS_toList, perm_toB _ (by rw [permN_len, HSL.out]), ← permN_succ]
              have hb6 : b5 ≤ w6.heap.size := Nat.le_trans hbj hf6.size
              go_wp2_with (with_reducible refine wl_stop (o := ⟨some 77, _, _, _, _, _⟩) ?_)
              refine wl_bytes rfl rfl Try.underlying9 Try.underlying22 Try.underlying5 rfl (by rw [mkS_size, toB_len]; unfold maxLen; omega) b5 hb6 ?_
              intro c7 w7 hs7 hf7 hz7
              rw [mkS_toList, mkS_size, toB_len] at hs7
              rw [mkS_size, toB_len]
              have hf67 := hf6.then hf7
              have hfr7 := hfj.then hf67
              have hb7 : b5 ≤ w7.heap.size := Nat.le_trans hb6 hf7.size
              generalize w6.heap.size = g6 at *
              clear hsj hfj hrs2 hrs3 hf6 hf7 hz7 hf67
              go_wp2_with fail
              go_roundw
              case rel => exact ⟨j + 1, hj1, rfl, hs7, hb7, hfr7⟩
              case measure =>
                have h1 := HLT.out; have h2 := HQL.out
                have h3 : (mkS (squeeze S0 (j + 1))).size = 136 * (j + 1) := by rw [mkS_size, squeeze_len]
                simp [strLen, h3]; omega
            · have hge : ¬ ((q.size : Int) < (n : Int)) := by omega
              have hjp : j = pieces n := by have := hpi.2; omega
              have HJP := Lib.hid hjp; clear hjp
              go_wp2_with fail
              go_ret
              refine ⟨?_, hfj⟩
              rw [← HQ.out, HJP.out, mkS_extract]
              unfold spongeB outB
              rw [HE.out]
              rfl
    · have hb : (((l.length : Int) + 1 + (m : Int)) % 136 != 0) = true := by simp; omega
      go_wp2_with (with_reducible refine wl_stop (o := ⟨some 22, _, _, _, _, _⟩) ?_)
      refine wl_one rfl rfl Try.underlying22 info_u8 0 rfl ?_
      intro w2 hg2 hf2 hz2
      have hown2 := hown.still hf2
      have hfr2 := hf.then hf2
      generalize wr.heap.size = g2 at *
      clear hown hf hf2 hz2 hrd hna
      have HMOD := Lib.hid hmod; clear hmod
      have HLT := Lib.hid hlt; clear hlt
      go_wp2_with (with_reducible refine wl_stop (o := ⟨some 23, _, _, _, _, _⟩) ?_)
      refine wl_append rfl rfl Try.underlying22 info_u8 rfl (by decide) hown2 rfl rfl (Rd.whole hg2) (bs_one _) (by simp [maxLen]; omega) (by simp; omega) hfr2.size ?_
      intro v3 w3 hown3 hf3 hb3
      have hfr3 : Fr Nob w w3 := hown2.fr hfr2 (Nat.le_refl _) hf3
      rw [pad_append] at hown3
      clear hown2 hfr2 hg2 hf3 hb3
      go_wp2_with fail
      go_roundw
      case rel => exact ⟨m + 1, by have := HMOD.out; have := HLT.out; omega, hown3, hfr3⟩
      case measure =>
        obtain ⟨a8, c8, rfl, _⟩ := hown3.form
        have := HLT.out; have := HMOD.out
        simp [lenV]; omega
end Go.Proofs.Ytgkakddldobpkaa
