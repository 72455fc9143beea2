/- group: with, over Sum's closure; group: Sum; The law NumReduces; The law NumReckons; The reference's Sqrt; The law NumRoots; zn.All; sigma.Extract; sigma.Extract; the reference's Scalar, Q, Extract; The reference's Q, Scalar, Extract; The reference's numbers modulo Prime, told by their classes; The reference's points: None, Is, Neg, double, Plus; The reference's points as values: what its Plus, Neg, None answer; The reference's points: Times, at, G; The reference's points: G, Written; The reference's points: Read; The reference's Read, for all bytes; its Base, its Same; The reference's Read and Number, each as one contract; the law's told; num.Dot: what it answers; SpongeLogs: what stays of many logs, step by step; mintvaultlaw8.lists, small: lists of strings as lists of bytes; bytes.Clone; lists of owned slices of bytes that lie apart; num.Powers: what it answers; The law's powers; Sum: what it answers, for all lists; the law's own sum; blind: plus, chains of steps, Unblind; blind: chains, Unblind; The curve has as many points as the second prime tells: each point, so many times, is nothing. (What lies beside the base's multiples would make three times as many points, and there are at most two for each first coordinate.); SigmaSound, plain: bytes that are a point are written so; two answers to two challenges give the secret; The reference's Same, and its Base of layer 5; The law SigmaExtracts; The law SigmaSound; blind: Unblind; the reference's; the law BlindUndoes; From a walk that turns nothing (Fr Nob) to what a law's row asks behind the call. -/
import Derived.Test.YtdbgddngapminaaMgGroupHomesProof6
import Derived.Test.YtdbgddngapminaaMgGroupHomesProof7
import Derived.Test.YtdbgddngapminaaMgGroupHomesProof3
import Derived.Test.YtdbgddngapminaaMgGroupHomesProof2
import Derived.Test.YtdbgddngapminaaMgGroupHomesProof4
import Derived.Test.YtdbgddngapminaaMgGroupHomesProof5
import Derived.Test.YtdbgddngapminaaMgGroupHomesProof1
import Derived.ProofKit
import Derived.OpenShut
import Derived.Carry
namespace Go.Mv
open Go.RowKit
theorem Has.neT {w : World} {g g' : Nat} {L L' : List Value} {T T' : TypeId} (h : Has w g L T) (k : Has w g' L' T') (hT : T ≠ T') : g ≠ g' := by
  rintro rfl
  obtain ⟨_, _, h1, _⟩ := h
  obtain ⟨_, _, h2, _⟩ := k
  rw [h1] at h2
  simp only [Option.some.injEq, Obj.cells.injEq] at h2
  exact hT h2.2.1
end Go.Mv
namespace Go.Proofs.Ytdbgddngapminaa
open Go.RowKit Go.Mv Mvp Mvq
theorem Cv.keepT {w w' : World} {gc gT : Nat} {L : List Value} (h : Cv w gc) (hT : Has w gT L 98) (hf : Fr (One gT) w w') : Cv w' gc := by
  obtain ⟨gp, h1, h2⟩ := h
  exact ⟨gp, h1.keep hf (fun e => h1.neT hT (by decide) e), h2.keep hf (fun e => h2.neT hT (by decide) e)⟩
attribute [local irreducible] limbs lw mix cw cSub cAdd cMul beN laid be32 montT mstep elN mdL numB rtN rtV rtOk gXn gYn PT.L addT dblT mulT tbL tmR tmL dbN innT outT sumT dig rdT rdOk rdPt ptL ptsL rdsB wrPt
set_option maxHeartbeats 8000000 in
set_option maxRecDepth 1000000 in
theorem with_sum_ok (gk : Nat) (al : Option Addr) (n cl : Nat) (vs : List Value) (ls : List (List UInt8)) (w : World) (hv : Rd w al n vs) (hp : BParts w vs ls) (hn : n ≤ 100000) (hg : rdsB ls = true) (gT : Nat) (LT : List Value) (hgt : Has w gT LT 98) (t : PT) (hop : ∀ ap cp wx, Fr Nob w wx → Off (One gT) ap → Rd wx ap (ls.length * 12) (ptsL ls) → Calls Try.prog 62 #[.slice ap ls.length cp, .pointer (some ⟨gk, 0, none⟩)] wx fun e w' => e = .returned (.agg t.L.toArray) ∧ Fr (One gT) wx w') :
    Calls Try.prog 43 #[.func (.func 62) #[] #[.pointer (some ⟨gk, 0, none⟩)], .slice al n cl] w fun e w' => ∃ sv, e = .returned (.tuple #[sv, .int .i64 0]) ∧ Own w' w.heap.size 5 1 sv 33 (bs (wrPt t.pt)) ∧ Fr (One gT) w w' := by
  have HV := Lib.hid hv
  have HP := Lib.hid hp
  have HL := Lib.hid (show ls.length = n by rw [← hp.1, hv.len])
  have HN := Lib.hid hn
  have hnI : (n : Int) ≤ 100000 := by omega
  clear hv hp
  have HOP := Lib.hid hop
  have HGA := Lib.hid hg
  have HGT := Lib.hid hgt
  clear hop hg hgt
  go_enter Try.func43, Try.ntmps43
  go_wp2
  go_loopw [6, 13] (fun v i wr => ∃ k : Nat, k ≤ n ∧ i = .int .i64 (k : Int) ∧ rdsB (ls.take k) = true ∧ Own wr w.heap.size 72 12 v k (ptsL (ls.take k)) ∧ Fr Nob w wr) (fun _ i _ => n - (intOf i).toNat)
  case atStart => exact ⟨0, Nat.zero_le _, rfl, by rw [List.take_zero]; unfold rdsB; rfl, by rw [List.take_zero]; unfold ptsL; exact Own.nil _ _ _ _, Fr.refl _ _⟩
  case round =>
    obtain ⟨k, hk, rfl, hgood, hown, hf⟩ := hrel
    by_cases hlt : k < n
    · have hltI : (k : Int) < (n : Int) := by omega
      obtain ⟨b, o, rfl, hat⟩ := (HV.out.still hf).at (by omega)
      have hvl : k < vs.length := by rw [HV.out.len]; exact hlt
      obtain ⟨a, nn, c, hve, hcc, hrd⟩ := HP.out.2 k (vs[k]'hvl) (List.getElem?_eq_getElem hvl)
      have hc1 := hat k _ (List.getElem?_eq_getElem hvl)
      rw [hve] at hc1
      have hlk : k < ls.length := by rw [HL.out]; exact hlt
      have hts := rdsB_take ls k hlk
      have hcs : ptsL (ls.take (k + 1)) = ptsL (ls.take k) ++ (rdT (ls.getD k [])).L := by
        rw [List.take_succ_eq_append_getElem hlk, ptsL_snoc]
        simp [List.getD_eq_getElem?_getD, hlk]
      have hbad := rdsB_bad ls k hlk
      generalize hL : ls.getD k [] = l at *
      have HLL := Lib.hid hL
      have HRD := Lib.hid (hrd.still hf)
      have HTS := Lib.hid hts
      have HCS := Lib.hid hcs
      have HBAD := Lib.hid hbad
      have HG := Lib.hid hgood
      have HOWN := Lib.hid hown
      have HF := Lib.hid hf
      have HCC := Lib.hid hcc
      clear hL hrd hts hcs hbad hgood hown hf hat hve hcc
      have st0 := St.start Nob wr
      have HK := Lib.hid (show rdOk l = true by
        cases hh : rdOk l
        · have := HBAD.out hh
          rw [HGA.out] at this
          cases this
        · rfl)
      skip
      go_wp2_with fail
      refine (k256_c _).mono ?_
      rintro e' w1 ⟨gc, rfl, hle, hcv, hf1⟩
      have st1 := st0.keep hf1
      have HCV := Lib.hid hcv
      clear hcv hle
      clear st0 hf1
      go_wp2_with fail
      refine (read_t l HK.out gc a nn c _ HCV.out (HRD.out.still st1.fr) HCC.out).mono ?_
      rintro e' w2 ⟨rfl, hf2⟩
      have st2 := st1.keep hf2
      clear st1 hf2
      go_wp2_with (with_reducible refine wl_stop (o := ⟨some 9, _, _, _, _, _⟩) ?_)
      refine wl_allocS st2 rfl rfl (z := .agg (List.replicate 12 (.int .u64 0)).toArray) (by kernel_rfl) (cw 12 0) (by rw [cw_zero]; rfl) ?_
      intro g9 w3 st3
      clear st2
      go_wp2_with (with_reducible refine wl_stop (o := ⟨none, _, _, _, _, _⟩) ?_)
      refine wl_storeS st3 0 rfl rfl rfl rfl rfl (by first | (simp only [cw_len]; done) | (simp only [List.length_append, cw_len, PT.len, ptL_len]; done)) (by first | (rw [cw_len]; kernel_rfl) | (simp only [PT.len]; kernel_rfl)) (PT.one _) ?_
      intro w4 st4
      clear st3
      have HFS := Lib.hid st4.fr
      go_wp2_with (with_reducible refine wl_stop (o := ⟨some 26, _, _, _, _, _⟩) ?_)
      refine wl_loadSt st4 0 rfl rfl rfl Try.underlying72 rfl rfl (by first | (rw [cw_len]; kernel_rfl) | (simp only [PT.len]; kernel_rfl)) ?_
      clear st4
      go_wp2_with (with_reducible refine wl_stop (o := ⟨some 27, _, _, _, _, _⟩) ?_)
      refine wl_slitR rfl rfl Try.underlying78 info_pt [.agg (rdT l).L.toArray] rfl (by simp [Value.cells, PT.len]) rfl ((rdT l).L) (by simp [Value.cells]) ?_
      intro wA hgA hfA hzA
      clear hzA
      have hfrA := HFS.out.then hfA
      have hsz := HF.out.size
      have hsz2 := hfrA.size
      have hownA := HOWN.out.still hfrA
      have hrdA : Rd wA (some ⟨w4.heap.size, 0, none⟩) (1 * 12) ((rdT l).L) := by
        have := Rd.whole hgA
        rwa [PT.len] at this
      have HRDA := Lib.hid hrdA
      have HOWNA := Lib.hid hownA
      have HFRA := Lib.hid hfrA
      clear hgA hfA hrdA hownA hfrA
      generalize w4.heap.size = gA at *
      go_wp2_with (with_reducible refine wl_stop (o := ⟨some 28, _, _, _, _, _⟩) ?_)
      refine wl_append rfl rfl Try.underlying78 info_pt rfl (by decide) HOWNA.out rfl rfl HRDA.out (PT.one _) (by unfold maxLen; omega) (by omega) (by omega) ?_
      intro vB wB hownB hfB hbB
      clear hbB
      have hfrB := HOWNA.out.fr (HF.out.then HFRA.out) (Nat.le_refl _) hfB
      have HFRB := Lib.hid hfrB
      rw [← HCS.out] at hownB
      have HOWNB := Lib.hid hownB
      clear hfrB hownB hfB
      go_wp2_with fail
      go_roundw
      case rel => exact ⟨k + 1, by omega, by go_num, by rw [HTS.out, HG.out, HK.out]; rfl, HOWNB.out, HFRB.out⟩
      case measure => simp [intOf]; omega

    · have hge : ¬ ((k : Int) < (n : Int)) := by omega
      have hkn : k = ls.length := by rw [HL.out]; omega
      rw [hkn, List.take_of_length_le (Nat.le_refl _)] at hgood hown
      obtain ⟨ap, cp, rfl, -, hre, hbase⟩ := hown.form
      have HOFF := Lib.hid (show Off (One gT) ap from fun x hx he => by have h1 := hbase x hx; have h2 := HGT.out.lt; have h3 : x.block = gT := he; omega)
      clear hbase
      have HRE := Lib.hid hre
      have HF := Lib.hid hf
      clear hkn hgood hown hf hre
      go_wp2_with fail
      refine (k256_c _).mono ?_
      rintro e w1 ⟨gc, rfl, hle, hcv, hf1⟩
      have HCV := Lib.hid hcv
      have HF1 := Lib.hid (HF.out.then hf1)
      have HRE1 := Lib.hid (HRE.out.still hf1)
      clear hle hcv hf1 HF HRE
      go_wp2_with fail
      refine (HOP.out ap cp _ HF1.out HOFF.out HRE1.out).mono ?_
      rintro e w2 ⟨rfl, hf2⟩
      have HCV2 := Lib.hid (HCV.out.keepT (HGT.out.keep HF1.out id) hf2)
      have HF2 := Lib.hid ((HF1.out.mono (fun _ _ t => t.elim)).trans hf2 (fun _ _ t => t))
      clear hf2 HF1 HRE1 HCV
      go_wp2_with fail
      refine (bytes_c t gc _ HCV2.out).mono ?_
      rintro e w3 ⟨sv, rfl, hown3, hf3⟩
      have h2 := HF2.out.same hf3
      have ho := hown3.mono HF2.out.size
      clear hown3 hf3 HF2 HCV2
      go_wp2_with fail
      go_ret2
      exact ⟨sv, rfl, ho, h2⟩

set_option maxHeartbeats 8000000 in
set_option maxRecDepth 1000000 in
theorem with_sum_bad (gk : Nat) (al : Option Addr) (n cl : Nat) (vs : List Value) (ls : List (List UInt8)) (w : World) (hv : Rd w al n vs) (hp : BParts w vs ls) (hn : n ≤ 100000) (hg : rdsB ls = false) :
    Calls Try.prog 43 #[.func (.func 62) #[] #[.pointer (some ⟨gk, 0, none⟩)], .slice al n cl] w fun e w' => e = .returned (.tuple #[.slice none 0 0, .int .i64 4]) ∧ Fr Nob w w' := by
  have HV := Lib.hid hv
  have HP := Lib.hid hp
  have HL := Lib.hid (show ls.length = n by rw [← hp.1, hv.len])
  have HN := Lib.hid hn
  have hnI : (n : Int) ≤ 100000 := by omega
  clear hv hp
  have HGA := Lib.hid hg
  clear hg
  go_enter Try.func43, Try.ntmps43
  go_wp2
  go_loopw [6, 13] (fun v i wr => ∃ k : Nat, k ≤ n ∧ i = .int .i64 (k : Int) ∧ rdsB (ls.take k) = true ∧ Own wr w.heap.size 72 12 v k (ptsL (ls.take k)) ∧ Fr Nob w wr) (fun _ i _ => n - (intOf i).toNat)
  case atStart => exact ⟨0, Nat.zero_le _, rfl, by rw [List.take_zero]; unfold rdsB; rfl, by rw [List.take_zero]; unfold ptsL; exact Own.nil _ _ _ _, Fr.refl _ _⟩
  case round =>
    obtain ⟨k, hk, rfl, hgood, hown, hf⟩ := hrel
    by_cases hlt : k < n
    · have hltI : (k : Int) < (n : Int) := by omega
      obtain ⟨b, o, rfl, hat⟩ := (HV.out.still hf).at (by omega)
      have hvl : k < vs.length := by rw [HV.out.len]; exact hlt
      obtain ⟨a, nn, c, hve, hcc, hrd⟩ := HP.out.2 k (vs[k]'hvl) (List.getElem?_eq_getElem hvl)
      have hc1 := hat k _ (List.getElem?_eq_getElem hvl)
      rw [hve] at hc1
      have hlk : k < ls.length := by rw [HL.out]; exact hlt
      have hts := rdsB_take ls k hlk
      have hcs : ptsL (ls.take (k + 1)) = ptsL (ls.take k) ++ (rdT (ls.getD k [])).L := by
        rw [List.take_succ_eq_append_getElem hlk, ptsL_snoc]
        simp [List.getD_eq_getElem?_getD, hlk]
      have hbad := rdsB_bad ls k hlk
      generalize hL : ls.getD k [] = l at *
      have HLL := Lib.hid hL
      have HRD := Lib.hid (hrd.still hf)
      have HTS := Lib.hid hts
      have HCS := Lib.hid hcs
      have HBAD := Lib.hid hbad
      have HG := Lib.hid hgood
      have HOWN := Lib.hid hown
      have HF := Lib.hid hf
      have HCC := Lib.hid hcc
      clear hL hrd hts hcs hbad hgood hown hf hat hve hcc
      have st0 := St.start Nob wr
      rcases Bool.eq_false_or_eq_true (rdOk l) with hh | hh
      · have HK := Lib.hid hh
        clear hh
        skip
        go_wp2_with fail
        refine (k256_c _).mono ?_
        rintro e' w1 ⟨gc, rfl, hle, hcv, hf1⟩
        have st1 := st0.keep hf1
        have HCV := Lib.hid hcv
        clear hcv hle
        clear st0 hf1
        go_wp2_with fail
        refine (read_t l HK.out gc a nn c _ HCV.out (HRD.out.still st1.fr) HCC.out).mono ?_
        rintro e' w2 ⟨rfl, hf2⟩
        have st2 := st1.keep hf2
        clear st1 hf2
        go_wp2_with (with_reducible refine wl_stop (o := ⟨some 9, _, _, _, _, _⟩) ?_)
        refine wl_allocS st2 rfl rfl (z := .agg (List.replicate 12 (.int .u64 0)).toArray) (by kernel_rfl) (cw 12 0) (by rw [cw_zero]; rfl) ?_
        intro g9 w3 st3
        clear st2
        go_wp2_with (with_reducible refine wl_stop (o := ⟨none, _, _, _, _, _⟩) ?_)
        refine wl_storeS st3 0 rfl rfl rfl rfl rfl (by first | (simp only [cw_len]; done) | (simp only [List.length_append, cw_len, PT.len, ptL_len]; done)) (by first | (rw [cw_len]; kernel_rfl) | (simp only [PT.len]; kernel_rfl)) (PT.one _) ?_
        intro w4 st4
        clear st3
        have HFS := Lib.hid st4.fr
        go_wp2_with (with_reducible refine wl_stop (o := ⟨some 26, _, _, _, _, _⟩) ?_)
        refine wl_loadSt st4 0 rfl rfl rfl Try.underlying72 rfl rfl (by first | (rw [cw_len]; kernel_rfl) | (simp only [PT.len]; kernel_rfl)) ?_
        clear st4
        go_wp2_with (with_reducible refine wl_stop (o := ⟨some 27, _, _, _, _, _⟩) ?_)
        refine wl_slitR rfl rfl Try.underlying78 info_pt [.agg (rdT l).L.toArray] rfl (by simp [Value.cells, PT.len]) rfl ((rdT l).L) (by simp [Value.cells]) ?_
        intro wA hgA hfA hzA
        clear hzA
        have hfrA := HFS.out.then hfA
        have hsz := HF.out.size
        have hsz2 := hfrA.size
        have hownA := HOWN.out.still hfrA
        have hrdA : Rd wA (some ⟨w4.heap.size, 0, none⟩) (1 * 12) ((rdT l).L) := by
          have := Rd.whole hgA
          rwa [PT.len] at this
        have HRDA := Lib.hid hrdA
        have HOWNA := Lib.hid hownA
        have HFRA := Lib.hid hfrA
        clear hgA hfA hrdA hownA hfrA
        generalize w4.heap.size = gA at *
        go_wp2_with (with_reducible refine wl_stop (o := ⟨some 28, _, _, _, _, _⟩) ?_)
        refine wl_append rfl rfl Try.underlying78 info_pt rfl (by decide) HOWNA.out rfl rfl HRDA.out (PT.one _) (by unfold maxLen; omega) (by omega) (by omega) ?_
        intro vB wB hownB hfB hbB
        clear hbB
        have hfrB := HOWNA.out.fr (HF.out.then HFRA.out) (Nat.le_refl _) hfB
        have HFRB := Lib.hid hfrB
        rw [← HCS.out] at hownB
        have HOWNB := Lib.hid hownB
        clear hfrB hownB hfB
        go_wp2_with fail
        go_roundw
        case rel => exact ⟨k + 1, by omega, by go_num, by rw [HTS.out, HG.out, HK.out]; rfl, HOWNB.out, HFRB.out⟩
        case measure => simp [intOf]; omega
      · have HK := Lib.hid hh
        clear hh
        skip
        go_wp2_with fail
        refine (k256_c _).mono ?_
        rintro e' w1 ⟨gc, rfl, hle, hcv, hf1⟩
        have st1 := st0.keep hf1
        have HCV := Lib.hid hcv
        clear hcv hle
        clear st0 hf1
        go_wp2_with fail
        refine (read_f l HK.out gc a nn c _ HCV.out (HRD.out.still st1.fr) HCC.out).mono ?_
        rintro e' w2 ⟨⟨X, Y, Z, rfl⟩, hf2⟩
        have st2 := st1.keep hf2
        clear st1 hf2
        go_wp2_with (with_reducible refine wl_stop (o := ⟨some 9, _, _, _, _, _⟩) ?_)
        refine wl_allocS st2 rfl rfl (z := .agg (List.replicate 12 (.int .u64 0)).toArray) (by kernel_rfl) (cw 12 0) (by rw [cw_zero]; rfl) ?_
        intro g9 w3 st3
        clear st2
        go_wp2_with (with_reducible refine wl_stop (o := ⟨none, _, _, _, _, _⟩) ?_)
        refine wl_storeS st3 0 rfl rfl rfl rfl rfl (by first | (simp only [cw_len]; done) | (simp only [List.length_append, cw_len, PT.len, ptL_len]; done)) (by first | (rw [cw_len]; kernel_rfl) | (simp only [ptL_len]; kernel_rfl)) (ptL_one _ _ _ _) ?_
        intro w4 st4
        clear st3
        have HFS := Lib.hid (HF.out.then st4.fr)
        clear st4
        go_wp2_with fail
        go_ret2
        exact ⟨rfl, HFS.out⟩
    · exfalso
      have hkn : k = ls.length := by rw [HL.out]; omega
      rw [hkn, List.take_of_length_le (Nat.le_refl _), HGA.out] at hgood
      cases hgood
end Go.Proofs.Ytdbgddngapminaa

/- group: Sum. -/
namespace Go.Mv
open Go.RowKit
variable {P : Program} {ops : Array Oper} {a : Act} {w : World} {rest : List Oper} {Q : Exit → Act → World → Prop} {o : Oper}
theorem madeCells_row (v : Value) (sz m : Nat) (h : 0 < sz) : (madeCells (List.replicate sz v).toArray m).toList = List.replicate m v := by
  apply List.ext_getElem?
  intro j
  by_cases hj : j < m
  · have : j % sz < sz := Nat.mod_lt _ h
    simp [madeCells, hj, this]
  · simp [madeCells, hj]
/-- make([]T, n), T a row of like cells -/
theorem wl_makeR {l c : Operand} {t : TypeId} (hgd : o.guard = none) (ho : o.op = .makeSlice t l c) {e : TypeId} {z v : Value} {sz by_ : Nat} (ht : P.underlying t = some (.slice e))
    (hi0 : (P.info? e).map (fun i => (i.zero, i.size, i.bytes)) = some (some z, sz, by_)) (hzc : z.cells = (List.replicate sz v).toArray) (hsz : 0 < sz) {kl kc : IntKind} {x y : Int} (hl : a.eval l = .int kl x) (hc : a.eval c = .int kc y) (n m : Nat) (hx : x = n) (hy : y = m) (hnm : n ≤ m)
    (hb : by_ * m ≤ 281474976710656) (h63 : m ≤ maxLen)
    (h : ∀ w', Has w' w.heap.size (List.replicate (m * sz) v) e → Fr Nob w w' → wpList P ops Q rest (a.put o.dst (.slice (some ⟨w.heap.size, 0, none⟩) n m)) w') : wpList P ops Q (o :: rest) a w := by
  refine wpList_plain hgd fun K hK => ?_
  obtain ⟨i, hi, hz0⟩ : ∃ i, P.info? e = some i ∧ (i.zero, i.size, i.bytes) = (some z, sz, by_) := by simpa using hi0
  simp only [Prod.mk.injEq] at hz0
  obtain ⟨hz, hsize, hby⟩ := hz0
  subst hx
  subst hy
  have hmx : (m : Int) ≤ 9223372036854775807 := by simp only [maxLen] at h63; omega
  have hbb : (i.bytes : Int) * (m : Int) ≤ 281474976710656 := by
    have k : ((i.bytes * m : Nat) : Int) ≤ 281474976710656 := by rw [hby]; omega
    rwa [Int.natCast_mul] at k
  have hr := run_make (P := P) w t e i z ht hi hz kl kc n m (by omega) (by omega) hbb hmx
  simp only [Int.toNat_natCast, hsize] at hr
  unfold Oper.wp execOp
  simp only [ho, hl, hc, Sem.run_bind, Sem.run_pure, Result.andThen_ok, hr]
  refine hK _ _ (h _ ?_ ((Fr.refl _ w).alloc _))
  have := Has.new w (madeCells z.cells (m * sz)) e
  rw [hzc] at this ⊢
  rwa [madeCells_row v sz _ hsz] at this
end Go.Mv
namespace Go.Proofs.Ytdbgddngapminaa
open Go.RowKit Go.Mv Mvp Mvq
theorem info_term : (Try.prog.info? 98).map (fun i => (i.zero, i.size, i.bytes)) = some (some (.agg (List.replicate 196 (.int .u64 0)).toArray), 196, 1568) := by kernel_rfl
/-- the numbers read so far -/
def aK (ls : List (List UInt8)) (k : Nat) : Nat → Nat := fun i => if i < k then beN (ls.getD i []) else 0
theorem aK_zero (n : Nat) (ls : List (List UInt8)) : List.replicate (n * 196) (Value.int .u64 0) = tmF n (aK ls 0) (fun _ => cw 192 0) := by
  rw [tmF_zero]
  exact tmF_congr _ _ _ _ _ fun i _ => ⟨by unfold aK; rw [if_neg (Nat.not_lt_zero _)], rfl⟩
theorem aK_set (n : Nat) (ls : List (List UInt8)) (k : Nat) (l : List UInt8) (hl : ls.getD k [] = l) (h : k < n) : splice (tmF n (aK ls k) (fun _ => cw 192 0)) (k * 196) (cw 4 (beN l)) = tmF n (aK ls (k + 1)) (fun _ => cw 192 0) := by
  subst hl
  rw [tmF_setN n _ _ (fun _ => cw_len _ _) k _ h]
  refine tmF_congr _ _ _ _ _ fun i _ => ⟨?_, rfl⟩
  unfold upN aK
  by_cases e : i = k
  · rw [if_pos e, if_pos (by omega), e]
  · rw [if_neg e]
    by_cases e2 : i < k
    · rw [if_pos e2, if_pos (by omega)]
    · rw [if_neg e2, if_neg (by omega)]
theorem tmF_lenC (n : Nat) (a : Nat → Nat) : (tmF n a (fun _ => cw 192 0)).length = n * 196 := tmF_len n a _ (fun _ => cw_len _ _)
attribute [local irreducible] limbs lw mix cw cSub cAdd cMul beN laid be32 montT mstep elN mdL numB rtN rtV rtOk gXn gYn PT.L addT dblT mulT tbL tmR tmL dbN innT outT sumT dig rdT rdOk rdPt ptL ptsL rdsB wrPt tmF tkT tmsT aK
set_option maxHeartbeats 8000000 in
set_option maxRecDepth 1000000 in
theorem Sum_ok (al : Option Addr) (n cl : Nat) (vs : List Value) (ln : List (List UInt8)) (bl : Option Addr) (dl : Nat) (us : List Value) (lp : List (List UInt8)) (w : World) (hv : Rd w al n vs) (hp : BParts w vs ln) (hu : Rd w bl n us) (hq : BParts w us lp) (hn : n ≤ 512) (hg : numsB mQ ln = true) (hr : rdsB lp = true) :
    Calls Try.prog 25 #[.slice al n cl, .slice bl n dl] w fun e w' => ∃ sv, e = .returned (.tuple #[sv, .int .i64 0]) ∧ Own w' w.heap.size 5 1 sv 33 (bs (wrPt (sumT (tmsT (aK ln n) lp)).pt)) ∧ Fr Nob w w' := by
  have HV := Lib.hid hv
  have HP := Lib.hid hp
  have HU := Lib.hid hu
  have HQ := Lib.hid hq
  have HL := Lib.hid (show ln.length = n by rw [← hp.1, hv.len])
  have HL2 := Lib.hid (show lp.length = n by rw [← hq.1, hu.len])
  have HN := Lib.hid hn
  have hnI : ¬ ((512 : Int) < (n : Int)) := by omega
  clear hv hp hu hq
  have HGA := Lib.hid hg
  have HRA := Lib.hid hr
  clear hg hr hn
  have st0 := St.start Nob w
  go_enter Try.func25, Try.ntmps25
  go_wp2_with (with_reducible refine wl_stop (o := ⟨some 23, _, _, _, _, _⟩) ?_)
  refine wl_makeR rfl rfl Try.underlying94 info_term rfl (by decide) rfl rfl n n rfl rfl (Nat.le_refl _) (by have := HN.out; omega) (by have := HN.out; unfold maxLen; omega) ?_
  intro w1 hm hf
  rw [aK_zero n ln] at hm
  have st1 := st0.new hf hm (Nat.le_refl _)
  have hle : w.heap.size ≤ w.heap.size := Nat.le_refl _
  generalize hgT : w.heap.size = gT at st1 hle hm ⊢
  have HGS := Lib.hid hgT
  clear hgT hle hm hf st0
  go_wp2_with (with_reducible refine wl_stop (o := ⟨some 6, _, _, _, _, _⟩) ?_)
  refine wl_allocS st1 rfl rfl (z := .slice none 0 0) (by kernel_rfl) [.slice none 0 0] rfl ?_
  intro gb w2 st2
  clear st1
  obtain ⟨v6, c6, f6⟩ := (st2.at 1 rfl).ready (i := 0) (by decide)
  have st3 := st2.set 1 rfl 0 (.slice (some ⟨gT, 0, none⟩) n n)
  have st3 : St Nob w (w2.setCell ⟨gb, 0, none⟩ (.slice (some ⟨gT, 0, none⟩) n n)) [(gT, tmF n (aK ln (0)) (fun _ => cw 192 0), 98), (gb, [Value.slice (some ⟨gT, 0, none⟩) n n], 94)] := st3
  have ST3 := Lib.hid st3
  clear st2 st3
  go_wp2
  try clear c6 f6
  go_loopw [26] (fun i wr => ∃ k : Nat, k ≤ n ∧ i = .int .i64 (k : Int) ∧ numsB mQ (ln.take k) = true ∧ St Nob w wr [(gT, tmF n (aK ln (k)) (fun _ => cw 192 0), 98), (gb, [Value.slice (some ⟨gT, 0, none⟩) n n], 94)]) (fun i _ => n - (intOf i).toNat)
  case atStart => exact ⟨0, Nat.zero_le _, rfl, by rw [List.take_zero]; unfold numsB; rfl, ST3.out⟩
  case round =>
    obtain ⟨k, hk, rfl, hgood, st⟩ := hrel
    clear ST3
    by_cases hlt : k < n
    · have hltI : (k : Int) < (n : Int) := by omega
      have hk0 : (0 : Int) ≤ (k : Int) := by omega
      have hf := st.fr
      obtain ⟨b, o, rfl, hat⟩ := (HV.out.still hf).at (by omega)
      have hvl : k < vs.length := by rw [HV.out.len]; exact hlt
      obtain ⟨a, nn, c, hve, hcc, hrd⟩ := HP.out.2 k (vs[k]'hvl) (List.getElem?_eq_getElem hvl)
      have hc1 := hat k _ (List.getElem?_eq_getElem hvl)
      rw [hve] at hc1
      have hlk : k < ln.length := by rw [HL.out]; exact hlt
      have hts := numsB_take mQ ln k hlk
      have hbad := numsB_bad mQ ln k hlk
      generalize hLk : ln.getD k [] = l at *
      have HLL := Lib.hid hLk
      have HRD := Lib.hid (hrd.still hf)
      have HTS := Lib.hid hts
      have HBAD := Lib.hid hbad
      have HG := Lib.hid hgood
      have HLT := Lib.hid hlt
      clear hLk hrd hts hbad hgood hf hat hve hcc hlt hk
      have HK := Lib.hid (show numB mQ l = true by
        cases hh : numB mQ l
        · have := HBAD.out hh
          rw [HGA.out] at this
          cases this
        · rfl)
      go_wp2_with fail
      refine (scalar_t HK.out a nn c _ (HRD.out)).mono ?_
      rintro e' w3 ⟨rfl, hf3⟩
      have st3 := st.keep hf3
      clear st hf3
      go_wp2_with (with_reducible refine wl_stop (o := ⟨some 9, _, _, _, _, _⟩) ?_)
      refine wl_allocS st3 rfl rfl (z := .agg #[.int .u64 0, .int .u64 0, .int .u64 0, .int .u64 0]) (by kernel_rfl) (cw 4 0) (by rw [cw_zero]; rfl) ?_
      intro g9 w4 st4
      clear st3
      go_wp2_with (with_reducible refine wl_stop (o := ⟨none, _, _, _, _, _⟩) ?_)
      refine wl_storeS st4 2 rfl rfl rfl rfl rfl (by first | (simp only [cw_len]; done) | (simp only [List.length_append, cw_len, PT.len, ptL_len]; done)) (by first | (rw [cw_len]; kernel_rfl) | (rw [PT.len]; kernel_rfl) | (rw [ptL_len]; kernel_rfl) | (simp only [List.length_append, cw_len]; kernel_rfl) | (simp only [List.length_append, cw_len, PT.len, ptL_len]; kernel_rfl)) (cw_one _ _) ?_
      intro w5 st5
      clear st4
      have hc6 := (st5.at 1 rfl).cell (show [Value.slice (some ⟨gT, 0, none⟩) n n][0]? = _ from rfl)
      go_wp2_with (with_reducible refine wl_stop (o := ⟨some 40, _, _, _, _, _⟩) ?_)
      refine wl_loadS st5 2 rfl rfl rfl Try.underlying82 rfl (by first | (rw [cw_len]; kernel_rfl) | (rw [PT.len]; kernel_rfl) | (rw [ptL_len]; kernel_rfl) | (simp only [List.length_append, cw_len]; kernel_rfl) | (simp only [List.length_append, cw_len, PT.len, ptL_len]; kernel_rfl)) ?_
      go_wp2_with (with_reducible refine wl_stop (o := ⟨none, _, _, _, _, _⟩) ?_)
      refine wl_storeP st5 0 rfl rfl rfl rfl rfl (tmF n (aK ln (k + 1)) (fun _ => cw 192 0)) (aK_set n ln k l HLL.out HLT.out) (by rw [tmF_lenC, cw_len]; have := HLT.out; omega) (by first | (rw [cw_len]; kernel_rfl) | (rw [PT.len]; kernel_rfl) | (rw [ptL_len]; kernel_rfl) | (simp only [List.length_append, cw_len]; kernel_rfl) | (simp only [List.length_append, cw_len, PT.len, ptL_len]; kernel_rfl)) (cw_one _ _) ?_
      intro w6 st6
      clear st5 hc6
      go_wp2_with fail
      go_roundw
      case rel => exact ⟨k + 1, by have := HLT.out; omega, by go_num, by rw [HTS.out, HG.out, HK.out]; rfl, St.less st6 (by simp)⟩
      case measure => have := HLT.out; simp [intOf]; omega
    · have hge : ¬ ((k : Int) < (n : Int)) := by omega
      have hkn : k = n := by omega
      rw [hkn] at hgood st
      rw [List.take_of_length_le (by rw [HL.out]; exact Nat.le_refl _)] at hgood
      have hgl := (st.at 0 rfl).lt
      have HHT := Lib.hid (st.at 0 rfl)
      have HHB := Lib.hid (st.at 1 rfl)
      have HNE := Lib.hid (show gb ≠ gT from st.neAt (i := 1) (j := 0) rfl rfl (by decide))
      have HF := Lib.hid st.fr
      clear hkn hgood st hgl
      go_wp2_with fail
      refine (with_sum_ok gb bl n dl us lp _ (HU.out.still HF.out) (HQ.out.still HF.out) (by have := HN.out; omega) HRA.out gT _ HHT.out (sumT (tmsT (aK ln n) lp)) (fun ap cp wx hfx hoff hrd => by rw [HL2.out]; exact sum1_c n (aK ln n) lp HL2.out (by have := HN.out; omega) gb gT wx HNE.out (HHB.out.keep hfx id) (HHT.out.keep hfx id) ap cp hoff hrd)).mono ?_
      rintro e wE ⟨sv, rfl, hown, hfE⟩
      have ho := hown.mono HF.out.size
      have hfr := HF.out.new hfE (by rw [HGS.out]; exact Nat.le_refl _)
      clear hown hfE HF HHT HHB
      go_wp2_with fail
      go_ret2
      exact ⟨sv, rfl, ho, hfr⟩

set_option maxHeartbeats 8000000 in
set_option maxRecDepth 1000000 in
theorem Sum_badp (al : Option Addr) (n cl : Nat) (vs : List Value) (ln : List (List UInt8)) (bl : Option Addr) (dl : Nat) (us : List Value) (lp : List (List UInt8)) (w : World) (hv : Rd w al n vs) (hp : BParts w vs ln) (hu : Rd w bl n us) (hq : BParts w us lp) (hn : n ≤ 512) (hg : numsB mQ ln = true) (hr : rdsB lp = false) :
    Calls Try.prog 25 #[.slice al n cl, .slice bl n dl] w fun e w' => e = .returned (.tuple #[.slice none 0 0, .int .i64 4]) ∧ Fr Nob w w' := by
  have HV := Lib.hid hv
  have HP := Lib.hid hp
  have HU := Lib.hid hu
  have HQ := Lib.hid hq
  have HL := Lib.hid (show ln.length = n by rw [← hp.1, hv.len])
  have HL2 := Lib.hid (show lp.length = n by rw [← hq.1, hu.len])
  have HN := Lib.hid hn
  have hnI : ¬ ((512 : Int) < (n : Int)) := by omega
  clear hv hp hu hq
  have HGA := Lib.hid hg
  have HRA := Lib.hid hr
  clear hg hr hn
  have st0 := St.start Nob w
  go_enter Try.func25, Try.ntmps25
  go_wp2_with (with_reducible refine wl_stop (o := ⟨some 23, _, _, _, _, _⟩) ?_)
  refine wl_makeR rfl rfl Try.underlying94 info_term rfl (by decide) rfl rfl n n rfl rfl (Nat.le_refl _) (by have := HN.out; omega) (by have := HN.out; unfold maxLen; omega) ?_
  intro w1 hm hf
  rw [aK_zero n ln] at hm
  have st1 := st0.new hf hm (Nat.le_refl _)
  have hle : w.heap.size ≤ w.heap.size := Nat.le_refl _
  generalize hgT : w.heap.size = gT at st1 hle hm ⊢
  have HGS := Lib.hid hgT
  clear hgT hle hm hf st0
  go_wp2_with (with_reducible refine wl_stop (o := ⟨some 6, _, _, _, _, _⟩) ?_)
  refine wl_allocS st1 rfl rfl (z := .slice none 0 0) (by kernel_rfl) [.slice none 0 0] rfl ?_
  intro gb w2 st2
  clear st1
  obtain ⟨v6, c6, f6⟩ := (st2.at 1 rfl).ready (i := 0) (by decide)
  have st3 := st2.set 1 rfl 0 (.slice (some ⟨gT, 0, none⟩) n n)
  have st3 : St Nob w (w2.setCell ⟨gb, 0, none⟩ (.slice (some ⟨gT, 0, none⟩) n n)) [(gT, tmF n (aK ln (0)) (fun _ => cw 192 0), 98), (gb, [Value.slice (some ⟨gT, 0, none⟩) n n], 94)] := st3
  have ST3 := Lib.hid st3
  clear st2 st3
  go_wp2
  try clear c6 f6
  go_loopw [26] (fun i wr => ∃ k : Nat, k ≤ n ∧ i = .int .i64 (k : Int) ∧ numsB mQ (ln.take k) = true ∧ St Nob w wr [(gT, tmF n (aK ln (k)) (fun _ => cw 192 0), 98), (gb, [Value.slice (some ⟨gT, 0, none⟩) n n], 94)]) (fun i _ => n - (intOf i).toNat)
  case atStart => exact ⟨0, Nat.zero_le _, rfl, by rw [List.take_zero]; unfold numsB; rfl, ST3.out⟩
  case round =>
    obtain ⟨k, hk, rfl, hgood, st⟩ := hrel
    clear ST3
    by_cases hlt : k < n
    · have hltI : (k : Int) < (n : Int) := by omega
      have hk0 : (0 : Int) ≤ (k : Int) := by omega
      have hf := st.fr
      obtain ⟨b, o, rfl, hat⟩ := (HV.out.still hf).at (by omega)
      have hvl : k < vs.length := by rw [HV.out.len]; exact hlt
      obtain ⟨a, nn, c, hve, hcc, hrd⟩ := HP.out.2 k (vs[k]'hvl) (List.getElem?_eq_getElem hvl)
      have hc1 := hat k _ (List.getElem?_eq_getElem hvl)
      rw [hve] at hc1
      have hlk : k < ln.length := by rw [HL.out]; exact hlt
      have hts := numsB_take mQ ln k hlk
      have hbad := numsB_bad mQ ln k hlk
      generalize hLk : ln.getD k [] = l at *
      have HLL := Lib.hid hLk
      have HRD := Lib.hid (hrd.still hf)
      have HTS := Lib.hid hts
      have HBAD := Lib.hid hbad
      have HG := Lib.hid hgood
      have HLT := Lib.hid hlt
      clear hLk hrd hts hbad hgood hf hat hve hcc hlt hk
      have HK := Lib.hid (show numB mQ l = true by
        cases hh : numB mQ l
        · have := HBAD.out hh
          rw [HGA.out] at this
          cases this
        · rfl)
      go_wp2_with fail
      refine (scalar_t HK.out a nn c _ (HRD.out)).mono ?_
      rintro e' w3 ⟨rfl, hf3⟩
      have st3 := st.keep hf3
      clear st hf3
      go_wp2_with (with_reducible refine wl_stop (o := ⟨some 9, _, _, _, _, _⟩) ?_)
      refine wl_allocS st3 rfl rfl (z := .agg #[.int .u64 0, .int .u64 0, .int .u64 0, .int .u64 0]) (by kernel_rfl) (cw 4 0) (by rw [cw_zero]; rfl) ?_
      intro g9 w4 st4
      clear st3
      go_wp2_with (with_reducible refine wl_stop (o := ⟨none, _, _, _, _, _⟩) ?_)
      refine wl_storeS st4 2 rfl rfl rfl rfl rfl (by first | (simp only [cw_len]; done) | (simp only [List.length_append, cw_len, PT.len, ptL_len]; done)) (by first | (rw [cw_len]; kernel_rfl) | (rw [PT.len]; kernel_rfl) | (rw [ptL_len]; kernel_rfl) | (simp only [List.length_append, cw_len]; kernel_rfl) | (simp only [List.length_append, cw_len, PT.len, ptL_len]; kernel_rfl)) (cw_one _ _) ?_
      intro w5 st5
      clear st4
      have hc6 := (st5.at 1 rfl).cell (show [Value.slice (some ⟨gT, 0, none⟩) n n][0]? = _ from rfl)
      go_wp2_with (with_reducible refine wl_stop (o := ⟨some 40, _, _, _, _, _⟩) ?_)
      refine wl_loadS st5 2 rfl rfl rfl Try.underlying82 rfl (by first | (rw [cw_len]; kernel_rfl) | (rw [PT.len]; kernel_rfl) | (rw [ptL_len]; kernel_rfl) | (simp only [List.length_append, cw_len]; kernel_rfl) | (simp only [List.length_append, cw_len, PT.len, ptL_len]; kernel_rfl)) ?_
      go_wp2_with (with_reducible refine wl_stop (o := ⟨none, _, _, _, _, _⟩) ?_)
      refine wl_storeP st5 0 rfl rfl rfl rfl rfl (tmF n (aK ln (k + 1)) (fun _ => cw 192 0)) (aK_set n ln k l HLL.out HLT.out) (by rw [tmF_lenC, cw_len]; have := HLT.out; omega) (by first | (rw [cw_len]; kernel_rfl) | (rw [PT.len]; kernel_rfl) | (rw [ptL_len]; kernel_rfl) | (simp only [List.length_append, cw_len]; kernel_rfl) | (simp only [List.length_append, cw_len, PT.len, ptL_len]; kernel_rfl)) (cw_one _ _) ?_
      intro w6 st6
      clear st5 hc6
      go_wp2_with fail
      go_roundw
      case rel => exact ⟨k + 1, by have := HLT.out; omega, by go_num, by rw [HTS.out, HG.out, HK.out]; rfl, St.less st6 (by simp)⟩
      case measure => have := HLT.out; simp [intOf]; omega
    · have hge : ¬ ((k : Int) < (n : Int)) := by omega
      have hkn : k = n := by omega
      rw [hkn] at hgood st
      rw [List.take_of_length_le (by rw [HL.out]; exact Nat.le_refl _)] at hgood
      have hgl := (st.at 0 rfl).lt
      have HHT := Lib.hid (st.at 0 rfl)
      have HHB := Lib.hid (st.at 1 rfl)
      have HNE := Lib.hid (show gb ≠ gT from st.neAt (i := 1) (j := 0) rfl rfl (by decide))
      have HF := Lib.hid st.fr
      clear hkn hgood st hgl
      go_wp2_with fail
      refine (with_sum_bad gb bl n dl us lp _ (HU.out.still HF.out) (HQ.out.still HF.out) (by have := HN.out; omega) HRA.out).mono ?_
      rintro e wE ⟨rfl, hfE⟩
      have hfr := HF.out.then hfE
      clear hfE HF HHT HHB
      go_wp2_with fail
      go_ret2
      exact ⟨rfl, hfr⟩

set_option maxHeartbeats 8000000 in
set_option maxRecDepth 1000000 in
theorem Sum_badk (al : Option Addr) (n cl : Nat) (vs : List Value) (ln : List (List UInt8)) (bl : Option Addr) (dl : Nat) (us : List Value) (lp : List (List UInt8)) (w : World) (hv : Rd w al n vs) (hp : BParts w vs ln) (hu : Rd w bl n us) (hq : BParts w us lp) (hn : n ≤ 512) (hg : numsB mQ ln = false) :
    Calls Try.prog 25 #[.slice al n cl, .slice bl n dl] w fun e w' => e = .returned (.tuple #[.slice none 0 0, .int .i64 3]) ∧ Fr Nob w w' := by
  have HV := Lib.hid hv
  have HP := Lib.hid hp
  have HU := Lib.hid hu
  have HQ := Lib.hid hq
  have HL := Lib.hid (show ln.length = n by rw [← hp.1, hv.len])
  have HL2 := Lib.hid (show lp.length = n by rw [← hq.1, hu.len])
  have HN := Lib.hid hn
  have hnI : ¬ ((512 : Int) < (n : Int)) := by omega
  clear hv hp hu hq
  have HGA := Lib.hid hg
  clear hg hn
  have st0 := St.start Nob w
  go_enter Try.func25, Try.ntmps25
  go_wp2_with (with_reducible refine wl_stop (o := ⟨some 23, _, _, _, _, _⟩) ?_)
  refine wl_makeR rfl rfl Try.underlying94 info_term rfl (by decide) rfl rfl n n rfl rfl (Nat.le_refl _) (by have := HN.out; omega) (by have := HN.out; unfold maxLen; omega) ?_
  intro w1 hm hf
  rw [aK_zero n ln] at hm
  have st1 := st0.new hf hm (Nat.le_refl _)
  have hle : w.heap.size ≤ w.heap.size := Nat.le_refl _
  generalize hgT : w.heap.size = gT at st1 hle hm ⊢
  have HGS := Lib.hid hgT
  clear hgT hle hm hf st0
  go_wp2_with (with_reducible refine wl_stop (o := ⟨some 6, _, _, _, _, _⟩) ?_)
  refine wl_allocS st1 rfl rfl (z := .slice none 0 0) (by kernel_rfl) [.slice none 0 0] rfl ?_
  intro gb w2 st2
  clear st1
  obtain ⟨v6, c6, f6⟩ := (st2.at 1 rfl).ready (i := 0) (by decide)
  have st3 := st2.set 1 rfl 0 (.slice (some ⟨gT, 0, none⟩) n n)
  have st3 : St Nob w (w2.setCell ⟨gb, 0, none⟩ (.slice (some ⟨gT, 0, none⟩) n n)) [(gT, tmF n (aK ln (0)) (fun _ => cw 192 0), 98), (gb, [Value.slice (some ⟨gT, 0, none⟩) n n], 94)] := st3
  have ST3 := Lib.hid st3
  clear st2 st3
  go_wp2
  try clear c6 f6
  go_loopw [26] (fun i wr => ∃ k : Nat, k ≤ n ∧ i = .int .i64 (k : Int) ∧ numsB mQ (ln.take k) = true ∧ St Nob w wr [(gT, tmF n (aK ln (k)) (fun _ => cw 192 0), 98), (gb, [Value.slice (some ⟨gT, 0, none⟩) n n], 94)]) (fun i _ => n - (intOf i).toNat)
  case atStart => exact ⟨0, Nat.zero_le _, rfl, by rw [List.take_zero]; unfold numsB; rfl, ST3.out⟩
  case round =>
    obtain ⟨k, hk, rfl, hgood, st⟩ := hrel
    clear ST3
    by_cases hlt : k < n
    · have hltI : (k : Int) < (n : Int) := by omega
      have hk0 : (0 : Int) ≤ (k : Int) := by omega
      have hf := st.fr
      obtain ⟨b, o, rfl, hat⟩ := (HV.out.still hf).at (by omega)
      have hvl : k < vs.length := by rw [HV.out.len]; exact hlt
      obtain ⟨a, nn, c, hve, hcc, hrd⟩ := HP.out.2 k (vs[k]'hvl) (List.getElem?_eq_getElem hvl)
      have hc1 := hat k _ (List.getElem?_eq_getElem hvl)
      rw [hve] at hc1
      have hlk : k < ln.length := by rw [HL.out]; exact hlt
      have hts := numsB_take mQ ln k hlk
      have hbad := numsB_bad mQ ln k hlk
      generalize hLk : ln.getD k [] = l at *
      have HLL := Lib.hid hLk
      have HRD := Lib.hid (hrd.still hf)
      have HTS := Lib.hid hts
      have HBAD := Lib.hid hbad
      have HG := Lib.hid hgood
      have HLT := Lib.hid hlt
      clear hLk hrd hts hbad hgood hf hat hve hcc hlt hk
      rcases Bool.eq_false_or_eq_true (numB mQ l) with hh | hh
      · have HK := Lib.hid hh
        clear hh
        go_wp2_with fail
        refine (scalar_t HK.out a nn c _ (HRD.out)).mono ?_
        rintro e' w3 ⟨rfl, hf3⟩
        have st3 := st.keep hf3
        clear st hf3
        go_wp2_with (with_reducible refine wl_stop (o := ⟨some 9, _, _, _, _, _⟩) ?_)
        refine wl_allocS st3 rfl rfl (z := .agg #[.int .u64 0, .int .u64 0, .int .u64 0, .int .u64 0]) (by kernel_rfl) (cw 4 0) (by rw [cw_zero]; rfl) ?_
        intro g9 w4 st4
        clear st3
        go_wp2_with (with_reducible refine wl_stop (o := ⟨none, _, _, _, _, _⟩) ?_)
        refine wl_storeS st4 2 rfl rfl rfl rfl rfl (by first | (simp only [cw_len]; done) | (simp only [List.length_append, cw_len, PT.len, ptL_len]; done)) (by first | (rw [cw_len]; kernel_rfl) | (rw [PT.len]; kernel_rfl) | (rw [ptL_len]; kernel_rfl) | (simp only [List.length_append, cw_len]; kernel_rfl) | (simp only [List.length_append, cw_len, PT.len, ptL_len]; kernel_rfl)) (cw_one _ _) ?_
        intro w5 st5
        clear st4
        have hc6 := (st5.at 1 rfl).cell (show [Value.slice (some ⟨gT, 0, none⟩) n n][0]? = _ from rfl)
        go_wp2_with (with_reducible refine wl_stop (o := ⟨some 40, _, _, _, _, _⟩) ?_)
        refine wl_loadS st5 2 rfl rfl rfl Try.underlying82 rfl (by first | (rw [cw_len]; kernel_rfl) | (rw [PT.len]; kernel_rfl) | (rw [ptL_len]; kernel_rfl) | (simp only [List.length_append, cw_len]; kernel_rfl) | (simp only [List.length_append, cw_len, PT.len, ptL_len]; kernel_rfl)) ?_
        go_wp2_with (with_reducible refine wl_stop (o := ⟨none, _, _, _, _, _⟩) ?_)
        refine wl_storeP st5 0 rfl rfl rfl rfl rfl (tmF n (aK ln (k + 1)) (fun _ => cw 192 0)) (aK_set n ln k l HLL.out HLT.out) (by rw [tmF_lenC, cw_len]; have := HLT.out; omega) (by first | (rw [cw_len]; kernel_rfl) | (rw [PT.len]; kernel_rfl) | (rw [ptL_len]; kernel_rfl) | (simp only [List.length_append, cw_len]; kernel_rfl) | (simp only [List.length_append, cw_len, PT.len, ptL_len]; kernel_rfl)) (cw_one _ _) ?_
        intro w6 st6
        clear st5 hc6
        go_wp2_with fail
        go_roundw
        case rel => exact ⟨k + 1, by have := HLT.out; omega, by go_num, by rw [HTS.out, HG.out, HK.out]; rfl, St.less st6 (by simp)⟩
        case measure => have := HLT.out; simp [intOf]; omega
      · have HK := Lib.hid hh
        clear hh
        go_wp2_with fail
        refine (scalar_f HK.out a nn c _ (HRD.out)).mono ?_
        rintro e' w3 ⟨⟨N, rfl⟩, hf3⟩
        have st3 := st.keep hf3
        clear st hf3
        go_wp2_with (with_reducible refine wl_stop (o := ⟨some 9, _, _, _, _, _⟩) ?_)
        refine wl_allocS st3 rfl rfl (z := .agg #[.int .u64 0, .int .u64 0, .int .u64 0, .int .u64 0]) (by kernel_rfl) (cw 4 0) (by rw [cw_zero]; rfl) ?_
        intro g9 w4 st4
        clear st3
        go_wp2_with (with_reducible refine wl_stop (o := ⟨none, _, _, _, _, _⟩) ?_)
        refine wl_storeS st4 2 rfl rfl rfl rfl rfl (by first | (simp only [cw_len]; done) | (simp only [List.length_append, cw_len, PT.len, ptL_len]; done)) (by first | (rw [cw_len]; kernel_rfl) | (rw [PT.len]; kernel_rfl) | (rw [ptL_len]; kernel_rfl) | (simp only [List.length_append, cw_len]; kernel_rfl) | (simp only [List.length_append, cw_len, PT.len, ptL_len]; kernel_rfl)) (cw_one _ _) ?_
        intro w5 st5
        clear st4
        have hfr := st5.fr
        clear st5
        go_wp2_with fail
        go_ret2
        exact ⟨rfl, hfr⟩
    · exfalso
      have hkn : k = n := by omega
      rw [hkn] at hgood
      rw [List.take_of_length_le (by rw [HL.out]; exact Nat.le_refl _), HGA.out] at hgood
      cases hgood

set_option maxHeartbeats 8000000 in
set_option maxRecDepth 1000000 in
theorem Sum_form (al : Option Addr) (n cl : Nat) (bl : Option Addr) (m dl : Nat) (w : World) (h : n ≠ m) :
    Calls Try.prog 25 #[.slice al n cl, .slice bl m dl] w fun e w' => e = .returned (.tuple #[.slice none 0 0, .int .i64 2]) ∧ Fr Nob w w' := by
  have h1 : ((n : Int) != (m : Int)) = true := by simp; omega
  have h2 : (n != m) = true := by simpa using h
  go_enter Try.func25, Try.ntmps25
  go_wp2
  go_ret2
  exact ⟨rfl, Fr.refl _ _⟩
set_option maxHeartbeats 8000000 in
set_option maxRecDepth 1000000 in
theorem Sum_long (al : Option Addr) (n cl : Nat) (bl : Option Addr) (dl : Nat) (w : World) (h : 512 < n) :
    Calls Try.prog 25 #[.slice al n cl, .slice bl n dl] w fun e w' => e = .returned (.tuple #[.slice none 0 0, .int .i64 1]) ∧ Fr Nob w w' := by
  have h1 : (512 : Int) < (n : Int) := by omega
  go_enter Try.func25, Try.ntmps25
  go_wp2
  go_ret2
  exact ⟨rfl, Fr.refl _ _⟩
end Go.Proofs.Ytdbgddngapminaa

/- The law NumReduces. -/
namespace Go.Proofs.Ytdbgddngapminaa
open Go.RowKit Go.Mv Mvp
attribute [local irreducible] limbs lw mix cw cSub cAdd cMul beN laid be32 montT mstep elN mdL
end Go.Proofs.Ytdbgddngapminaa

/- The law NumReckons. -/
namespace Go.Proofs.Ytdbgddngapminaa
open Go.RowKit Go.Mv Mvp
attribute [local irreducible] limbs lw mix cw cSub cAdd cMul beN laid be32 montT mstep elN mdL numB numsB
end Go.Proofs.Ytdbgddngapminaa

/- The reference's Sqrt. -/
namespace Mvp
end Mvp
namespace Go.Proofs.Ytdbgddngapminaa
open Go.RowKit Go.Mv Mvp
attribute [local irreducible] limbs lw mix cw cSub cAdd cMul beN laid be32
end Go.Proofs.Ytdbgddngapminaa

/- The law NumRoots. -/
namespace Go.Proofs.Ytdbgddngapminaa
open Go.RowKit Go.Mv Mvp
attribute [local irreducible] limbs lw mix cw cSub cAdd cMul beN laid be32 montT mstep elN mdL numB numsB rtN rtOk rtV
end Go.Proofs.Ytdbgddngapminaa

/- zn.All; sigma.Extract. -/
namespace Go.Proofs.Ytdbgddngapminaa
open Go.RowKit Go.Mv Mvp
attribute [local irreducible] limbs lw mix cw cSub cAdd cMul beN laid be32 montT mstep elN mdL numsB numB
end Go.Proofs.Ytdbgddngapminaa

/- sigma.Extract; the reference's Scalar, Q, Extract. -/
namespace Mvp
end Mvp
namespace Go.Proofs.Ytdbgddngapminaa
open Go.RowKit Go.Mv Mvp
attribute [local irreducible] limbs lw mix cw cSub cAdd cMul beN laid be32 montT mstep elN mdL numsB numB
theorem BParts.four {w : World} {v1 v2 v3 v4 : Value} {l1 l2 l3 l4 : List UInt8} (h1 : BPart w v1 l1) (h2 : BPart w v2 l2) (h3 : BPart w v3 l3) (h4 : BPart w v4 l4) : BParts w [v1, v2, v3, v4] [l1, l2, l3, l4] := ⟨rfl, fun i x hx => by
  match i with
  | 0 => simp at hx; subst hx; exact h1
  | 1 => simp at hx; subst hx; exact h2
  | 2 => simp at hx; subst hx; exact h3
  | 3 => simp at hx; subst hx; exact h4
  | i + 4 => simp at hx⟩

end Go.Proofs.Ytdbgddngapminaa

/- The reference's Q, Scalar, Extract. -/
namespace Go.Proofs.Ytdbgddngapminaa
open Go.RowKit Go.Mv Mvp
attribute [local irreducible] limbs lw mix cw cSub cAdd cMul beN laid be32 montT mstep elN mdL numsB numB
end Go.Proofs.Ytdbgddngapminaa

/- The reference's numbers modulo Prime, told by their classes. -/
namespace Go.Proofs.Ytdbgddngapminaa
open Go.RowKit Go.Mv Mvp Mvq
/-- the least number of a class -/
def kN (a : K) : Nat := a.val
end Go.Proofs.Ytdbgddngapminaa

/- The reference's points: None, Is, Neg, double, Plus. -/
namespace Go.Proofs.Ytdbgddngapminaa
open Go.RowKit Go.Mv Mvp Mvq
/-- a point's cells, as the reference has it -/
def rpL (x y z : K) : List Value := cw 4 (kN x) ++ (cw 4 (kN y) ++ cw 4 (kN z))
attribute [local irreducible] limbs lw mix cw cSub cAdd cMul beN laid be32 montT mstep elN mdL numB rtV rtOk kN kc kinv wrPt
end Go.Proofs.Ytdbgddngapminaa

/- The reference's points as values: what its Plus, Neg, None answer. -/
namespace Go.Proofs.Ytdbgddngapminaa
open Go.RowKit Go.Mv Mvp Mvq
/-- a point of the reference's -/
structure RT where
  x : K
  y : K
  z : K
  on : onC (nm x y z)
def RT.pt (s : RT) : Pt := nm s.x s.y s.z
def RT.L (s : RT) : List Value := rpL s.x s.y s.z
theorem rpL_len (x y z : K) : (rpL x y z).length = 12 := by simp [rpL, cw_len]
theorem RT.len (s : RT) : s.L.length = 12 := rpL_len _ _ _
theorem RT.one (s : RT) : ∀ v ∈ s.L, v.oneCell' = true := pt_one _ _ _
theorem RT.onP (s : RT) : onC s.pt := s.on
def RT.isO (s : RT) : Bool := decide (s.z = 0)
theorem RT.isO_t {s : RT} (h : s.isO = true) : s.pt = .O := nm_z (by simpa [RT.isO] using h)
end Go.Proofs.Ytdbgddngapminaa

/- The reference's points: Times, at, G. -/
namespace Go.Proofs.Ytdbgddngapminaa
open Go.RowKit Go.Mv Mvp Mvq
attribute [local irreducible] limbs lw mix cw cSub cAdd cMul beN laid be32 montT mstep elN mdL numB rtV rtOk kN kc kinv wrPt RT.L
end Go.Proofs.Ytdbgddngapminaa

/- The reference's points: G, Written. -/
namespace Go.Proofs.Ytdbgddngapminaa
open Go.RowKit Go.Mv Mvp Mvq
attribute [local irreducible] limbs lw mix cw cSub cAdd cMul beN laid be32 montT mstep elN mdL numB rtV rtOk kN kc kinv wrPt RT.L gXn gYn
end Go.Proofs.Ytdbgddngapminaa
namespace Go.Proofs.Ytdbgddngapminaa
open Go.RowKit Go.Mv Mvp Mvq
end Go.Proofs.Ytdbgddngapminaa

/- The reference's points: Read. -/
namespace Go.Proofs.Ytdbgddngapminaa
open Go.RowKit Go.Mv Mvp Mvq
attribute [local irreducible] limbs lw mix cw cSub cAdd cMul beN laid be32 montT mstep elN mdL numB rtV rtOk kN kc kinv wrPt RT.L gXn gYn
end Go.Proofs.Ytdbgddngapminaa

/- The reference's Read, for all bytes; its Base, its Same. -/
namespace Go.Proofs.Ytdbgddngapminaa
open Go.RowKit Go.Mv Mvp Mvq
theorem beN_foldl (l : List UInt8) (a : Nat) : l.foldl (fun a x => a * 256 + x.toNat) a = a * 256 ^ l.length + beN l := by
  unfold beN
  induction l generalizing a with
  | nil => simp
  | cons x l ih =>
    rw [List.foldl_cons, List.foldl_cons, ih, ih (0 * 256 + x.toNat), List.length_cons, Nat.pow_succ]
    rw [Nat.zero_mul, Nat.zero_add, Nat.add_mul, Nat.mul_assoc, Nat.mul_comm 256]
    omega
theorem beN_cons (x : UInt8) (l : List UInt8) : beN (x :: l) = x.toNat * 256 ^ l.length + beN l := by
  have h := beN_foldl l (0 * 256 + x.toNat)
  rw [Nat.zero_mul, Nat.zero_add] at h
  show List.foldl _ 0 (x :: l) = _
  rw [List.foldl_cons, Nat.zero_mul, Nat.zero_add]
  exact h
attribute [local irreducible] rtV rtOk rpL crvN beN be32
end Go.Proofs.Ytdbgddngapminaa

/- The reference's Read and Number, each as one contract; the law's told. -/
namespace Go.Proofs.Ytdbgddngapminaa
open Go.RowKit Go.Mv Mvp Mvq
theorem t_ok {lk la : List UInt8} (hk : numB mQ lk = true) (ha : rdOk la = true) : tC lk la = 0 ∧ tS lk la = wrPt (pmul (beN lk) (rdPt la)) := by unfold tC tS; rw [hk, ha]; exact ⟨rfl, rfl⟩
end Go.Proofs.Ytdbgddngapminaa

/- num.Dot: what it answers. -/
namespace Mvp
end Mvp
namespace Go.Proofs.Ytdbgddngapminaa
open Go.RowKit Go.Mv Mvp
attribute [local irreducible] limbs lw mix cw cSub cAdd cMul beN laid be32 montT mstep elN mdL numsB numB
end Go.Proofs.Ytdbgddngapminaa

/- SpongeLogs: what stays of many logs, step by step. -/
namespace Go.Mv
open Go.RowKit
theorem Has.ne {w : World} {g g' : Nat} {L L' : List Value} {T T' : TypeId} (h : Has w g L T) (h' : Has w g' L' T') (hT : T ≠ T') : g ≠ g' := by
  rintro rfl
  obtain ⟨_, _, h1, _⟩ := h
  obtain ⟨_, _, h2, _⟩ := h'
  rw [h1] at h2
  simp at h2
  exact hT h2.2.1
end Go.Mv
namespace Go.Proofs.Ytdbgddngapminaa
open Go.RowKit Go.Mv Mvp
attribute [local irreducible] permS permP toB turnsK squeeze permN spongeB feed frameL framesL tagL
abbrev Tri : Type := Nat × Nat × List UInt8
variable {w w' : World} {base ga gb : Nat} {sa sb : List UInt8} {T : List Tri} {vk vw : Value} {Lk Lw : List Value}
end Go.Proofs.Ytdbgddngapminaa

/- mintvaultlaw8.lists, small: lists of strings as lists of bytes. -/
namespace Go.Proofs.Ytdbgddngapminaa
open Go.RowKit Go.Mv Mvp Mvt
attribute [local irreducible] permS permP toB turnsK squeeze permN spongeB feed frameL framesL tagL
/-- slices of bytes of the call's own -/
def POwn (w : World) (base : Nat) : List Value → List (List UInt8) → Prop
  | [], [] => True
  | v :: vs, l :: ls => Own w base 5 1 v l.length (bs l) ∧ POwn w base vs ls
  | _, _ => False
theorem POwn.len {w : World} {base : Nat} : ∀ {vs : List Value} {ls : List (List UInt8)}, POwn w base vs ls → vs.length = ls.length
  | [], [], _ => rfl
  | _ :: _, _ :: _, h => by simp only [List.length_cons]; rw [POwn.len h.2]
  | [], _ :: _, h => h.elim
  | _ :: _, [], h => h.elim
theorem POwn.keep {w w' : World} {base : Nat} {S : Nat → Prop} (hf : Fr S w w') : ∀ {vs : List Value} {ls : List (List UInt8)}, POwn w base vs ls → (∀ v n l, Own w base 5 1 v n (bs l) → ∀ k, OwnB v k → ¬ S k) → POwn w' base vs ls
  | [], [], _, _ => trivial
  | _ :: _, _ :: _, h, hs => ⟨h.1.keep hf (hs _ _ _ h.1), POwn.keep hf h.2 hs⟩
  | [], _ :: _, h, _ => h.elim
  | _ :: _, [], h, _ => h.elim
theorem POwn.still {w w' : World} {base : Nat} {vs : List Value} {ls : List (List UInt8)} (h : POwn w base vs ls) (hf : Fr Nob w w') : POwn w' base vs ls := POwn.keep hf h (fun _ _ _ _ _ _ t => t)
theorem POwn.parts {w : World} {base : Nat} : ∀ {vs : List Value} {ls : List (List UInt8)}, POwn w base vs ls → (∀ x ∈ ls, x.length ≤ 1000000) → Parts w vs ls
  | [], [], _, _ => trivial
  | _ :: _, _ :: _, h, hx => ⟨own_part h.1 (hx _ (by simp)), POwn.parts h.2 (fun x hxm => hx x (by simp [hxm]))⟩
  | [], _ :: _, h, _ => h.elim
  | _ :: _, [], h, _ => h.elim
/-- a list of lists of bytes, all of the call's own -/
def LOwn (w : World) (base : Nat) (v : Value) (ls : List (List UInt8)) : Prop := ∃ vs, Own w base 34 1 v ls.length vs ∧ POwn w base vs ls
theorem LOwn.still {w w' : World} {base : Nat} {v : Value} {ls : List (List UInt8)} (h : LOwn w base v ls) (hf : Fr Nob w w') : LOwn w' base v ls := by
  obtain ⟨vs, h1, h2⟩ := h; exact ⟨vs, h1.still hf, h2.still hf⟩
theorem LOwn.parts {w : World} {base : Nat} {v : Value} {ls : List (List UInt8)} (h : LOwn w base v ls) (hx : ∀ x ∈ ls, x.length ≤ 1000000) : ∃ a c, v = .slice a ls.length c ∧ ls.length ≤ c ∧ PartsAt w a ls := by
  obtain ⟨vs, h1, h2⟩ := h
  obtain ⟨a, c, rfl, hc, hr, -⟩ := h1.form
  rw [Nat.mul_one] at hr
  exact ⟨a, c, rfl, hc, vs, hr, (h2.parts hx).get⟩

end Go.Proofs.Ytdbgddngapminaa

/- bytes.Clone; lists of owned slices of bytes that lie apart. -/
namespace Go.Proofs.Ytdbgddngapminaa
open Go.RowKit Go.Mv Mvp Mvt
attribute [local irreducible] permS permP toB turnsK squeeze permN spongeB feed frameL framesL tagL
/-- no two of them share a block -/
def Sep (vs : List Value) : Prop := vs.Pairwise fun a b => ∀ k, OwnB a k → ¬ OwnB b k
theorem Sep.nil : Sep [] := List.Pairwise.nil
theorem POwn.get {w : World} {base : Nat} : ∀ {vs : List Value} {ls : List (List UInt8)}, POwn w base vs ls → ∀ (i : Nat) (v : Value), vs[i]? = some v → ∃ l, ls[i]? = some l ∧ Own w base 5 1 v l.length (bs l)
  | [], [], _, i, v, hv => by simp at hv
  | a :: vs, l :: ls, h, 0, v, hv => by simp at hv; subst hv; exact ⟨l, rfl, h.1⟩
  | a :: vs, l :: ls, h, i + 1, v, hv => by simp at hv; obtain ⟨l', h1, h2⟩ := POwn.get h.2 i v hv; exact ⟨l', by simpa using h1, h2⟩
  | [], _ :: _, h, _, _, _ => h.elim
  | _ :: _, [], h, _, _, _ => h.elim
theorem POwn.mono {w : World} {base base' : Nat} (hb : base' ≤ base) : ∀ {vs : List Value} {ls : List (List UInt8)}, POwn w base vs ls → POwn w base' vs ls
  | [], [], _ => trivial
  | _ :: _, _ :: _, h => ⟨h.1.mono hb, POwn.mono hb h.2⟩
  | [], _ :: _, h => h.elim
  | _ :: _, [], h => h.elim
/-- a slice of slices of bytes, all of the call's own, apart -/
def SOwn (w : World) (base : Nat) (v : Value) (ls : List (List UInt8)) : Prop := ∃ vs, Own w base 34 1 v ls.length vs ∧ POwn w base vs ls ∧ Sep vs
theorem SOwn.nil (w : World) (base : Nat) : SOwn w base (.slice none 0 0) [] := ⟨[], Own.nil _ _ _ _, trivial, Sep.nil⟩
theorem SOwn.still {w w' : World} {base : Nat} {v : Value} {ls : List (List UInt8)} (h : SOwn w base v ls) (hf : Fr Nob w w') : SOwn w' base v ls := by
  obtain ⟨vs, h1, h2, h3⟩ := h; exact ⟨vs, h1.still hf, h2.still hf, h3⟩
end Go.Proofs.Ytdbgddngapminaa

/- num.Powers: what it answers. -/
namespace Mvp
def lenV : Go.Value → Nat
  | .slice _ n _ => n
  | _ => 0
end Mvp
namespace Go.Proofs.Ytdbgddngapminaa
open Go.RowKit Go.Mv Mvp
theorem SOwn.mono {w : World} {base base' : Nat} {v : Value} {ls : List (List UInt8)} (h : SOwn w base v ls) (hb : base' ≤ base) : SOwn w base' v ls := by
  obtain ⟨vs, h1, h2, h3⟩ := h; exact ⟨vs, h1.mono hb, h2.mono hb, h3⟩
attribute [local irreducible] limbs lw mix cw cSub cAdd cMul beN laid be32 montT mstep elN mdL numsB numB
end Go.Proofs.Ytdbgddngapminaa

/- The law's powers. -/
namespace Mvp
end Mvp
namespace Go.Proofs.Ytdbgddngapminaa
open Go.RowKit Go.Mv Mvp
attribute [local irreducible] limbs lw mix cw cSub cAdd cMul beN laid be32 montT mstep elN mdL numB numsB
end Go.Proofs.Ytdbgddngapminaa

/- Sum: what it answers, for all lists; the law's own sum. -/
namespace Go.Proofs.Ytdbgddngapminaa
open Go.RowKit Go.Mv Mvp Mvq
/-- the terms as points -/
noncomputable def smL (ln lp : List (List UInt8)) (k : Nat) : List (Nat × Pt) := (List.range k).map fun i => (beN (ln.getD i []), rdPt (lp.getD i []))
def sumE (ln lp : List (List UInt8)) : Nat := if ln.length = lp.length then (if ln.length ≤ 512 then (if numsB mQ ln then (if rdsB lp then 0 else 4) else 3) else 1) else 2
noncomputable def sumS (ln lp : List (List UInt8)) : List UInt8 := if ln.length = lp.length then (if ln.length ≤ 512 then (if numsB mQ ln then (if rdsB lp then wrPt (psum (smL ln lp lp.length)) else []) else []) else []) else []
theorem rdsB_get {ls : List (List UInt8)} (h : rdsB ls = true) (i : Nat) (hi : i < ls.length) : rdOk (ls.getD i []) = true := by
  unfold rdsB at h
  rw [List.all_eq_true] at h
  refine h _ ?_
  rw [List.getD_eq_getElem?_getD, List.getElem?_eq_getElem hi]
  exact List.getElem_mem hi
theorem numsB_getG {ls : List (List UInt8)} (h : numsB mQ ls = true) (i : Nat) (hi : i < ls.length) : numB mQ (ls.getD i []) = true := by
  unfold numsB at h
  rw [List.all_eq_true] at h
  refine h _ ?_
  rw [List.getD_eq_getElem?_getD, List.getElem?_eq_getElem hi]
  exact List.getElem_mem hi
theorem sum_is {ln lp : List (List UInt8)} (hl : ln.length = lp.length) (hn : numsB mQ ln = true) (hp : rdsB lp = true) : (sumT (tmsT (aK ln ln.length) lp)).pt = psum (smL ln lp lp.length) := by
  have e : tpts (tmsT (aK ln ln.length) lp) = smL ln lp lp.length := by
    unfold tpts tmsT smL
    rw [List.map_map]
    refine List.map_congr_left fun i hi => ?_
    have hi := List.mem_range.1 hi
    show (aK ln ln.length i, (rdT (lp.getD i [])).pt) = _
    rw [rdT_pt (rdsB_get hp i hi)]
    unfold aK
    rw [if_pos (by omega)]
  rw [sumT_pt _ ?_, e]
  intro t ht
  unfold tmsT at ht
  obtain ⟨i, hi, rfl⟩ := List.mem_map.1 ht
  have hi := List.mem_range.1 hi
  show aK ln ln.length i < _
  unfold aK
  rw [if_pos (by omega)]
  exact Nat.lt_trans (numB_lt2 (numsB_getG hn i (by omega))) q16
theorem Sum_all (al : Option Addr) (cl : Nat) (vs : List Value) (ln : List (List UInt8)) (bl : Option Addr) (dl : Nat) (us : List Value) (lp : List (List UInt8)) (w : World) (hv : Rd w al ln.length vs) (hp : BParts w vs ln) (hu : Rd w bl lp.length us) (hq : BParts w us lp) :
    Calls Try.prog 25 #[.slice al ln.length cl, .slice bl lp.length dl] w fun e w' => ∃ v, e = .returned (.tuple #[v, .int .i64 (sumE ln lp : Nat)]) ∧ OwnB1 w w' v (sumS ln lp) ∧ Fr Nob w w' := by
  by_cases h1 : ln.length = lp.length
  · rw [← h1] at hu ⊢
    by_cases h2 : ln.length ≤ 512
    · cases hn : numsB mQ ln
      · refine (Sum_badk al _ cl vs ln bl dl us lp w hv hp hu hq h2 hn).mono fun e w' k => ⟨.slice none 0 0, ?_, ?_, k.2⟩
        · rw [k.1]; unfold sumE; rw [if_pos h1, if_pos h2, hn]; rfl
        · unfold sumS; rw [if_pos h1, if_pos h2, hn]; exact OwnB1.nil _ _
      · cases hr : rdsB lp
        · refine (Sum_badp al _ cl vs ln bl dl us lp w hv hp hu hq h2 hn hr).mono fun e w' k => ⟨.slice none 0 0, ?_, ?_, k.2⟩
          · rw [k.1]; unfold sumE; rw [if_pos h1, if_pos h2, hn, hr]; rfl
          · unfold sumS; rw [if_pos h1, if_pos h2, hn, hr]; exact OwnB1.nil _ _
        · refine (Sum_ok al _ cl vs ln bl dl us lp w hv hp hu hq h2 hn hr).mono fun e w' k => ?_
          obtain ⟨v, k1, k2, k3⟩ := k
          rw [sum_is h1 hn hr] at k2
          refine ⟨v, ?_, ?_, k3⟩
          · rw [k1]; unfold sumE; rw [if_pos h1, if_pos h2, hn, hr]; rfl
          · unfold sumS; rw [if_pos h1, if_pos h2, hn, hr]; exact OwnB1.of k2 (wrPt_len _)
    · refine (Sum_long al _ cl bl dl w (by omega)).mono fun e w' k => ⟨.slice none 0 0, ?_, ?_, k.2⟩
      · rw [k.1]; unfold sumE; rw [if_pos h1, if_neg h2]; rfl
      · unfold sumS; rw [if_pos h1, if_neg h2]; exact OwnB1.nil _ _
  · refine (Sum_form al _ cl bl _ dl w h1).mono fun e w' k => ⟨.slice none 0 0, ?_, ?_, k.2⟩
    · rw [k.1]; unfold sumE; rw [if_neg h1]; rfl
    · unfold sumS; rw [if_neg h1]; exact OwnB1.nil _ _
attribute [local irreducible] limbs lw mix cw cSub cAdd cMul beN laid be32 montT mstep elN mdL numB rtV rtOk kN kc kinv wrPt RT.L gXn gYn rpL rdOk rdPt numsB rdsB
end Go.Proofs.Ytdbgddngapminaa

/- blind: plus, chains of steps, Unblind. -/
namespace Go.Proofs.Ytdbgddngapminaa
open Go.RowKit Go.Mv Mvp Mvq
attribute [local irreducible] limbs lw mix cw cSub cAdd cMul beN laid be32 montT mstep elN mdL numB rtV rtOk wrPt rdOk rdPt numsB rdsB sumE sumS pmul
end Go.Proofs.Ytdbgddngapminaa

/- blind: chains, Unblind. -/
namespace Go.Proofs.Ytdbgddngapminaa
open Go.RowKit Go.Mv Mvp Mvq
/-- bytes of a call's own, from any place on -/
def OwnU (w : World) (v : Value) (l : List UInt8) : Prop := Own w 0 5 1 v l.length (bs l)
theorem OwnU.part {w : World} {v : Value} {l : List UInt8} (h : OwnU w v l) : BPart w v l := Own.part h
theorem OwnU.still {w w' : World} {v : Value} {l : List UInt8} (h : OwnU w v l) (hf : Fr Nob w w') : OwnU w' v l := Own.still h hf
theorem OwnU.nil (w : World) : OwnU w (.slice none 0 0) [] := Own.nil _ _ _ _
attribute [local irreducible] limbs lw mix cw cSub cAdd cMul beN laid be32 montT mstep elN mdL numB rtV rtOk wrPt rdOk rdPt numsB rdsB sumE sumS pmul
end Go.Proofs.Ytdbgddngapminaa

/- The curve has as many points as the second prime tells: each point, so many times, is nothing. (What lies beside the base's multiples would make three times as many points, and there are at most two for each first coordinate.) -/
namespace Mvq
open Mvp
/-- forces a number -/
def frc {α : Type} (n : Nat) (f : Nat → α) : α := Nat.rec (f 0) (fun k _ => f (k + 1)) n
theorem frc_eq {α : Type} (n : Nat) (f : Nat → α) : frc n f = f n := by cases n <;> rfl
def hX : Nat := 0x79BE667EF9DCBBAC55A06295CE870B07029BFCDB2DCE28D959F2815B16F81798
def hY : Nat := 0x483ADA7726A3C4655DA4FBFC0E1108A8FD17B448A68554199C47D08FFB10D4B8
def hP : Pt := .A (kc hX) (kc hY)
theorem hP_on : onC hP := by
  show kc hY * kc hY = kc hX * kc hX * kc hX + 7
  decide
abbrev qN : Nat := 115792089237316195423570985008687907852837564279074904382605163141518161494337
/-- up the exponent's bits, in fractions -/
def climbB (e : Nat) : Nat → Nat → Nat → Nat → Bool
  | 0, X, Y, Z => !(Z % fP == 0) && X % fP == hX * Z % fP && (Y + hY * Z) % fP == 0
  | k + 1, X, Y, Z =>
    !(Z % fP == 0) &&
    frc (3 * (X * X) % fP) fun d => frc (2 * Y * Z % fP) fun u => frc (u * u % fP) fun uu => frc (uu * u % fP) fun uuu => frc ((d * d * Z + (fP - 2 * X * uu % fP)) % fP) fun t =>
    frc (u * t % fP) fun X' => frc ((d * (X * uu + (fP - t % fP)) + (fP - Y * uuu % fP)) % fP) fun Y' => frc (uuu * Z % fP) fun Z' =>
    if e / 2 ^ k % 2 = 1 then
      !(Z' % fP == 0) && 
      frc ((hY * Z' + (fP - Y' % fP)) % fP) fun d => frc ((hX * Z' + (fP - X' % fP)) % fP) fun u => !(u % fP == 0) && frc (u * u % fP) fun uu => frc (uu * u % fP) fun uuu => frc ((d * d * Z' + (fP - uuu % fP) + (fP - 2 * X' * uu % fP)) % fP) fun t =>
      frc (u * t % fP) fun X2 => frc ((d * (X' * uu + (fP - t % fP)) + (fP - Y' * uuu % fP)) % fP) fun Y2 => frc (uuu * Z' % fP) fun Z2 => climbB e k X2 Y2 Z2
    else climbB e k X' Y' Z'
theorem climbed : climbB (qN - 1) 255 hX hY 1 = true := by decide +kernel
theorem kc_eqb (a b : Nat) (h : a % fP = b % fP) : kc a = kc b := by rw [← kc_mod a, h, kc_mod]
theorem kc_ne (a : Nat) (h : a % fP ≠ 0) : kc a ≠ 0 := by
  intro e
  have := kc_eqz a
  rw [e, decide_eq_true rfl] at this
  exact h (by simpa using this)
theorem kc_m (a : Nat) : kc (a % fP) = kc a := kc_mod a
theorem climb_ok (e : Nat) : ∀ (k X Y Z : Nat), climbB e k X Y Z = true → nm (kc X) (kc Y) (kc Z) = pmul (e / 2 ^ k) hP → pmul e hP = pneg hP
  | 0, X, Y, Z, h, hp => by
    simp only [climbB, Bool.and_eq_true, Bool.not_eq_true', beq_iff_eq, beq_eq_false_iff_ne, ne_eq] at h
    obtain ⟨⟨hz, hx⟩, hy⟩ := h
    rw [Nat.pow_zero, Nat.div_one] at hp
    rw [← hp]
    have hx' := kc_eqb _ _ hx
    rw [kc_mul'] at hx'
    have hy' : kc (Y + hY * Z) = 0 := by
      have := kc_eqz (Y + hY * Z)
      rw [hy] at this
      simpa using this
    rw [kc_addn, kc_mul'] at hy'
    exact nm_is (kc_ne _ hz) hx' (by grind -lia -linarith)
  | k + 1, X, Y, Z, h, hp => by
    have hon : onC (nm (kc X) (kc Y) (kc Z)) := by rw [hp]; exact pmul_on hP_on _
    simp only [climbB, frc_eq, Bool.and_eq_true, Bool.not_eq_true', beq_eq_false_iff_ne, ne_eq] at h
    obtain ⟨hz, h⟩ := h
    have hd := rk_double hon (kc_ne _ hz) _ _ _ _ _ _ rfl rfl rfl rfl rfl rfl
    rw [hp] at hd
    have hbit := pmul_bit hP_on e k
    generalize hd0 : 3 * (X * X) % fP = d at h
    generalize hu0 : 2 * Y * Z % fP = u at h
    generalize huu : u * u % fP = uu at h
    generalize huuu : uu * u % fP = uuu at h
    generalize ht : (d * d * Z + (fP - 2 * X * uu % fP)) % fP = t at h
    generalize hX' : u * t % fP = X' at h
    generalize hY' : (d * (X * uu + (fP - t % fP)) + (fP - Y * uuu % fP)) % fP = Y' at h
    generalize hZ' : uuu * Z % fP = Z' at h
    have k2 : kc 2 = 2 := by decide
    have k3' : kc 3 = 3 := by decide
    have d1 : kc d = 3 * (kc X * kc X) := by rw [← hd0, kc_m, kc_mul', kc_mul', k3']
    have u1 : kc u = 2 * kc Y * kc Z := by rw [← hu0, kc_m, kc_mul', kc_mul', k2]
    have uu1 : kc uu = kc u * kc u := by rw [← huu, kc_m, kc_mul']
    have uuu1 : kc uuu = kc uu * kc u := by rw [← huuu, kc_m, kc_mul']
    have t1 : kc t = kc d * kc d * kc Z - 2 * kc X * kc uu := by rw [← ht, kc_m, kc_subn, kc_mul', kc_mul', kc_mul', kc_mul', k2]
    have X1 : kc X' = kc u * kc t := by rw [← hX', kc_m, kc_mul']
    have Y1 : kc Y' = kc d * (kc X * kc uu - kc t) - kc Y * kc uuu := by rw [← hY', kc_m, kc_subn, kc_mul', kc_subn, kc_mul', kc_mul']
    have Z1 : kc Z' = kc uuu * kc Z := by rw [← hZ', kc_m, kc_mul']
    rw [← d1, ← u1, ← uu1, ← uuu1, ← t1, ← X1, ← Y1, ← Z1] at hd
    rw [← hd] at hbit
    clear d1 u1 uu1 uuu1 t1 X1 Y1 Z1 hd0 hu0 huu huuu ht hX' hY' hZ'
    have hon' : onC (nm (kc X') (kc Y') (kc Z')) := by rw [hd]; exact padd_on (pmul_on hP_on _) (pmul_on hP_on _)
    by_cases hb : e / 2 ^ k % 2 = 1
    · rw [if_pos hb] at h hbit
      simp only [Bool.and_eq_true, Bool.not_eq_true', beq_eq_false_iff_ne, ne_eq] at h
      obtain ⟨hz', hu', h⟩ := h
      have one : kc 1 = 1 := by decide
      have hnP : nm (kc hX) (kc hY) (kc 1) = hP := nm_is (by decide) (by rw [one]; grind -lia -linarith) (by rw [one]; grind -lia -linarith)
      have hs := rk_plus (X2 := kc hX) (Y2 := kc hY) (Z2 := kc 1) hon' (by rw [hnP]; exact hP_on) (kc_ne _ hz') (by decide) (kc (hY * Z')) (kc (hX * Z')) (kc Y') (kc X') (kc (hY * Z') - kc Y') (kc (hX * Z') - kc X') (kc Z') _ _ _ (kc_mul' _ _) (kc_mul' _ _) (by rw [one]; grind -lia -linarith) (by rw [one]; grind -lia -linarith) rfl rfl
        (by rw [← kc_subn]; exact kc_ne _ (by rw [Nat.mod_mod] at hu'; exact hu')) (by rw [one]; grind -lia -linarith) rfl rfl rfl
      rw [hnP] at hs
      generalize hd0 : (hY * Z' + (fP - Y' % fP)) % fP = d at h
      generalize hu0 : (hX * Z' + (fP - X' % fP)) % fP = u at h
      generalize huu : u * u % fP = uu at h
      generalize huuu : uu * u % fP = uuu at h
      generalize ht : (d * d * Z' + (fP - uuu % fP) + (fP - 2 * X' * uu % fP)) % fP = t at h
      have d1 : kc d = kc (hY * Z') - kc Y' := by rw [← hd0, kc_m, kc_subn]
      have u1 : kc u = kc (hX * Z') - kc X' := by rw [← hu0, kc_m, kc_subn]
      have uu1 : kc uu = kc u * kc u := by rw [← huu, kc_m, kc_mul']
      have uuu1 : kc uuu = kc uu * kc u := by rw [← huuu, kc_m, kc_mul']
      have t1 : kc t = kc d * kc d * kc Z' - kc uuu - 2 * kc X' * kc uu := by rw [← ht, kc_m, kc_subn, kc_subn, kc_mul', kc_mul', kc_mul', kc_mul', k2]
      rw [← d1, ← u1, ← uu1, ← uuu1, ← t1] at hs
      refine climb_ok e k _ _ _ h ?_
      rw [hbit, ← hs, kc_m, kc_m, kc_m, kc_mul', kc_subn, kc_mul', kc_subn, kc_mul', kc_mul', kc_mul']
    · rw [if_neg hb] at h hbit
      rw [padd_zero] at hbit
      exact climb_ok e k _ _ _ h hbit.symm
theorem q_base : pmul qN hP = .O := by
  have one : kc 1 = 1 := by decide
  have hnP : nm (kc hX) (kc hY) (kc 1) = hP := nm_is (by decide) (by rw [one]; grind -lia -linarith) (by rw [one]; grind -lia -linarith)
  have h := climb_ok (qN - 1) 255 hX hY 1 climbed (by rw [hnP, show (qN - 1) / 2 ^ 255 = 1 by decide]; rfl)
  have e : qN = (qN - 1) + 1 := by decide
  rw [e]
  show padd (pmul (qN - 1) hP) hP = .O
  rw [h, padd_comm]
  exact padd_neg
/- the group's plain laws -/
theorem padd_cancel {a b c : Pt} (ha : onC a) (hb : onC b) (hc : onC c) (h : padd a b = padd a c) : b = c := by
  have h1 : padd (pneg a) (padd a b) = padd (pneg a) (padd a c) := by rw [h]
  rw [← padd_assoc (pneg_on ha) ha hb, ← padd_assoc (pneg_on ha) ha hc, padd_comm (pneg a) a, padd_neg] at h1
  exact h1
theorem pneg_uniq {a b : Pt} (ha : onC a) (hb : onC b) (h : padd a b = .O) : b = pneg a := padd_cancel ha hb (pneg_on ha) (by rw [h, padd_neg])
theorem no_two {p : Pt} (hp : onC p) (h : padd p p = .O) : p = .O := by
  have e := pneg_uniq hp hp h
  cases p with
  | O => rfl
  | A x y =>
    exfalso
    have hy : y = -y := by
      have : Pt.A x y = Pt.A x (-y) := e
      injection this
    have h2 : (2 : K) * y = 0 := by grind -lia -linarith
    exact (mul_zero' h2).elim two_ne (y_ne hp)
theorem padd_swap {a b c d : Pt} (ha : onC a) (hb : onC b) (hc : onC c) (hd : onC d) : padd (padd a b) (padd c d) = padd (padd a c) (padd b d) := by
  rw [padd_assoc ha hb (padd_on hc hd), ← padd_assoc hb hc hd, padd_comm b c, padd_assoc hc hb hd, ← padd_assoc ha hc (padd_on hb hd)]
/-- a multiple of the base -/
def InH (p : Pt) : Prop := ∃ n, p = pmul n hP
theorem InH.on {p : Pt} (h : InH p) : onC p := by obtain ⟨n, rfl⟩ := h; exact pmul_on hP_on n
theorem InH.add {p q : Pt} (h : InH p) (k : InH q) : InH (padd p q) := by
  obtain ⟨m, rfl⟩ := h
  obtain ⟨n, rfl⟩ := k
  exact ⟨m + n, (pmul_add hP_on m n).symm⟩
theorem q_mul (n : Nat) : pmul (qN * n) hP = .O := by rw [pmul_mul hP_on, q_base, pmul_O]
theorem InH.neg {p : Pt} (h : InH p) : InH (pneg p) := by
  obtain ⟨n, rfl⟩ := h
  refine ⟨(qN - 1) * n, (pneg_uniq (pmul_on hP_on n) (pmul_on hP_on _) ?_).symm⟩
  rw [← pmul_add hP_on, show n + (qN - 1) * n = qN * n by have h := Nat.add_mul 1 (qN - 1) n; rw [Nat.one_mul, show 1 + (qN - 1) = qN by decide] at h; exact h.symm, q_mul]
theorem InH.half {p : Pt} (hp : onC p) (h : InH (padd p p)) : InH p := by
  obtain ⟨n, hn⟩ := h
  have hm : onC (pmul (n * ((qN + 1) / 2)) hP) := pmul_on hP_on _
  have e : padd (pmul (n * ((qN + 1) / 2)) hP) (pmul (n * ((qN + 1) / 2)) hP) = pmul n hP := by
    rw [← pmul_add hP_on, ← Nat.mul_add, show (qN + 1) / 2 + (qN + 1) / 2 = qN + 1 by decide, Nat.mul_add, Nat.mul_one, pmul_add hP_on, Nat.mul_comm n, q_mul]
    rfl
  refine ⟨n * ((qN + 1) / 2), ?_⟩
  have h2 : padd (padd p (pneg (pmul (n * ((qN + 1) / 2)) hP))) (padd p (pneg (pmul (n * ((qN + 1) / 2)) hP))) = .O := by
    rw [padd_swap hp (pneg_on hm) hp (pneg_on hm), hn, ← e, padd_swap hm hm (pneg_on hm) (pneg_on hm), padd_neg]
    rfl
  have h3 := no_two (padd_on hp (pneg_on hm)) h2
  have h4 : padd (pneg (pmul (n * ((qN + 1) / 2)) hP)) p = padd (pneg (pmul (n * ((qN + 1) / 2)) hP)) (pmul (n * ((qN + 1) / 2)) hP) := by
    rw [padd_comm, h3, padd_comm, padd_neg]
  exact padd_cancel (pneg_on hm) hp hm h4
/-- a point's number -/
def enc : Pt → Nat
  | .O => 0
  | .A x y => 1 + 2 * x.val + y.val % 2
end Mvq

/- SigmaSound, plain: bytes that are a point are written so; two answers to two challenges give the secret. -/
namespace Mvp
end Mvp
namespace Mvq
open Mvp
end Mvq

/- The reference's Same, and its Base of layer 5. -/
namespace Go.Proofs.Ytdbgddngapminaa
open Go.RowKit Go.Mv Mvp Mvq
attribute [local irreducible] limbs lw mix cw cSub cAdd cMul beN laid be32 montT mstep elN mdL numB rtV rtOk kN kc kinv wrPt RT.L
end Go.Proofs.Ytdbgddngapminaa

/- The law SigmaExtracts. -/
namespace Mvp
end Mvp
namespace Go.Proofs.Ytdbgddngapminaa
open Go.RowKit Go.Mv Mvp
attribute [local irreducible] limbs lw mix cw cSub cAdd cMul beN laid be32 montT mstep elN mdL numsB numB
end Go.Proofs.Ytdbgddngapminaa

/- The law SigmaSound. -/
namespace Go.Proofs.Ytdbgddngapminaa
open Go.RowKit Go.Mv Mvp Mvq
attribute [local irreducible] limbs lw mix cw cSub cAdd cMul beN laid be32 montT mstep elN mdL numB rtV rtOk kN kc kinv wrPt RT.L gXn gYn rpL rdOk rdPt
end Go.Proofs.Ytdbgddngapminaa

/- blind: Unblind; the reference's; the law BlindUndoes. -/
namespace Go.Proofs.Ytdbgddngapminaa
open Go.RowKit Go.Mv Mvp Mvq
attribute [local irreducible] limbs lw mix cw cSub cAdd cMul beN laid be32 montT mstep elN mdL numB rtV rtOk kN kc kinv wrPt RT.L gXn gYn rpL rdOk rdPt pmul sumE sumS
end Go.Proofs.Ytdbgddngapminaa

/- From a walk that turns nothing (Fr Nob) to what a law's row asks behind the call. -/
namespace Go.Mv
open Go.RowKit Go.ChangeShapes Go.WideShapes

/-- the arguments read behind the call as they read before -/
theorem Below.trodAll {H : Type} {enc : TypeId × Value → H} {P : Program} (hl : laidOutB P = true) {W W' : World} (hb : Below W.heap.size W W') :
    ∀ (ts : List TypeId) (vs : List Value) (ds : List (DataW H)) (ps : List MemPlace), (∀ t ∈ ts, P.readableRec t = true ∧ t < P.types.size) → DataW.TrodAll enc P W 0 (fun _ => true) true ts vs ds ps → (∀ x ∈ ps, x.block < W.heap.size) →
      DataW.TrodAll enc P W' 0 (fun b => decide (b < W.heap.size)) true ts vs ds ps
  | [], vs, ds, ps, _, h, _ => by
    obtain ⟨rfl, rfl, rfl⟩ := trodAll_nil h
    exact trodAll_mk0
  | t :: ts, vs, ds, ps, hr, h, hlt => by
    obtain ⟨v, vs', d, ds', p, q, rfl, rfl, rfl, h0, hs⟩ := trodAll_cons h
    have h1 := hr t (by simp)
    exact trodAll_cons_mk (Below.trod hl h1.1 h1.2 h0 hb (fun x hx => hlt x (by simp [hx]))) (Below.trodAll hl hb ts vs' ds' q (fun t ht => hr t (by simp [ht])) hs (fun x hx => hlt x (by simp [hx])))

/-- what a law's row asks behind the call -/
theorem law_post {H : Type} {enc : TypeId × Value → H} {P : Program} {f : Func} {s : ChangeSpec} {W W' : World} {args : Array Value} {ds gs : List (DataW H)} {before : List MemPlace}
    (hl : laidOutB P = true) (hr : ∀ t ∈ f.params.toList, P.readableRec t = true ∧ t < P.types.size) (hW : DataW.Whole enc P f.params.toList s.vars false W args.toList ds gs before)
    (hv : s.vars = []) (hres : (s.fn H (ds ++ gs)).results = [.lit (.bool true)]) (harg : (s.fn H (ds ++ gs)).args = ds) (hvar : (s.fn H (ds ++ gs)).vars = [])
    {tb : TypeId} (hrt : f.resultTypes = #[tb]) (hu : P.underlying tb = some .bool) (hf : Fr Nob W W') :
    s.post enc P f false true false false W args (.bool true) W' := by
  have hW' := hW
  obtain ⟨p, q, hA, hV, rfl, hfz, hnd⟩ := hW
  rw [hv] at hV
  obtain ⟨rfl, rfl⟩ := trodVars_none hV
  have hlt : ∀ x ∈ p ++ [], x.block < W.heap.size := fun x hx => hW'.lt x hx
  refine ⟨ds, [], p ++ [], [], p, [], hW', ?_, ?_, ?_, World.keptBut_mono (fun x hx => ⟨hx, ?_⟩) (hf.below.frame (· ∈ p ++ [])), fun h => by cases h⟩
  · rw [hres, hrt]
    exact trodAll_mk1 (shut_bool hu true)
  · rw [harg]
    exact Below.trodAll hl hf.below _ _ _ _ hr hA (fun x hx => hlt x (by simp [hx]))
  · rw [hvar, hv]; exact rfl
  · simp only [List.append_nil] at hx
    exact .inr (.inl hx)
end Go.Mv
