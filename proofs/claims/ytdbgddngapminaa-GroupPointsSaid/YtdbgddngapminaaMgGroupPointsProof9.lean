/- zn.All; sigma.Extract; sigma.Extract; the reference's Scalar, Q, Extract; The reference's Q, Scalar, Extract; The reference's numbers modulo Prime, told by their classes; The reference's points: None, Is, Neg, double, Plus; The reference's points as values: what its Plus, Neg, None answer. -/
import Derived.Test.YtdbgddngapminaaMgGroupPointsProof4
import Derived.Test.YtdbgddngapminaaMgGroupPointsProof8
import Derived.Test.YtdbgddngapminaaMgGroupPointsProof6
namespace Go.Proofs.Ytdbgddngapminaa
open Go.RowKit Go.Mv Mvp
/-- how zn.All answers -/
def AllPost (m : Md) (ls : List (List UInt8)) (w : World) (e : Ending) (w' : World) : Prop :=
  (numsB m ls = true → ∃ v, e = .returned (.tuple #[v, .bool true]) ∧ Own w' w.heap.size 107 4 v ls.length (elCells m ls)) ∧
  (numsB m ls = false → e = .returned (.tuple #[.slice none 0 0, .bool false])) ∧ Fr Nob w w'
theorem AllPost.bad {m : Md} {ls : List (List UInt8)} {w w' : World} {e : Ending} (h : numsB m ls = false) (he : e = .returned (.tuple #[.slice none 0 0, .bool false])) (hf : Fr Nob w w') : AllPost m ls w e w' :=
  ⟨fun h1 => (by rw [h] at h1; cases h1), fun _ => he, hf⟩
theorem AllPost.good {m : Md} {ls : List (List UInt8)} {w w' : World} {e : Ending} {v : Value} (h : numsB m ls = true) (he : e = .returned (.tuple #[v, .bool true])) (ho : Own w' w.heap.size 107 4 v ls.length (elCells m ls)) (hf : Fr Nob w w') : AllPost m ls w e w' :=
  ⟨fun _ => ⟨v, he, ho⟩, fun h1 => (by rw [h] at h1; cases h1), hf⟩
theorem info_bs : (Try.prog.info? 34).map (fun i => (i.zero, i.size, i.bytes)) = some (some (.slice none 0 0), 1, 24) := by kernel_rfl
attribute [local irreducible] limbs lw mix cw cSub cAdd cMul foldC valFrom beN laid be32 powm montT mstep elN mdL elCells numsB numB

set_option maxHeartbeats 16000000 in
set_option maxRecDepth 1000000 in
theorem All_any (m : Md) (hk : KindOf 1 m) (al : Option Addr) (n cl : Nat) (vs : List Value) (ls : List (List UInt8)) (w : World) (hv : Rd w al n vs) (hp : BParts w vs ls) (hn : n ≤ 100000) :
    Calls Try.prog 66 #[.slice al n cl] w (AllPost m ls w) := by
  have HK := Lib.hid hk
  have HOK := Lib.hid hk.ok
  have HV := Lib.hid hv
  have HP := Lib.hid hp
  have HL := Lib.hid (show ls.length = n by rw [← hp.1, hv.len])
  clear hk hv hp
  go_enter Try.func66, Try.ntmps66
  go_wp2
  go_loopw [4, 11] (fun v i wr => ∃ k : Nat, k ≤ n ∧ i = .int .i64 (k : Int) ∧ numsB m (ls.take k) = true ∧ Own wr w.heap.size 107 4 v k (elCells m (ls.take k)) ∧ Fr Nob w wr) (fun _ i _ => n - (intOf i).toNat)
  case atStart => exact ⟨0, Nat.zero_le _, rfl, by rw [List.take_zero]; unfold numsB; rfl, by rw [List.take_zero]; unfold elCells; exact Own.nil _ _ _ _, Fr.refl _ _⟩
  case round =>
    obtain ⟨k, hk, rfl, hgood, hown, hf⟩ := hrel
    by_cases hlt : k < n
    · have hltI : (k : Int) < (n : Int) := by omega
      obtain ⟨b, o, rfl, hat⟩ := (HV.out.still hf).at (by omega)
      have hvl : k < vs.length := by rw [HV.out.len]; exact hlt
      obtain ⟨a, nn, c, hve, hcc, hrd⟩ := HP.out.2 k (vs[k]'hvl) (List.getElem?_eq_getElem hvl)
      have hc1 := hat k _ (List.getElem?_eq_getElem hvl)
      rw [hve] at hc1
      have hlk : k < ls.length := by rw [HL.out]; exact hlt
      have hts := numsB_take m ls k hlk
      have hcs : elCells m (ls.take (k + 1)) = elCells m (ls.take k) ++ cw 4 (elN m (beN (ls.getD k []))) := by
        rw [List.take_succ_eq_append_getElem hlk, elCells_snoc]
        simp [List.getD_eq_getElem?_getD, hlk]
      have hbad := numsB_bad m ls k hlk
      generalize hL : ls.getD k [] = l at *
      have HLL := Lib.hid hL
      have HRD := Lib.hid (hrd.still hf)
      have HTS := Lib.hid hts
      have HCS := Lib.hid hcs
      have HBAD := Lib.hid hbad
      have HG := Lib.hid hgood
      have HOWN := Lib.hid hown
      have HF := Lib.hid hf
      have hnI : (n : Int) ≤ 100000 := by omega
      clear hL hrd hts hcs hbad hgood hown hf hat hve hcc
      cases hnb : numB m l
      · have HNB := Lib.hid hnb
        have HNL := Lib.hid (HBAD.out hnb)
        clear hnb
        have st0 := St.start Nob wr
        go_wp2_with fail
        refine (Zof_f m HK.out a nn c l _ (HRD.out.still st0.fr) HNB.out).mono ?_
        rintro e' w1 ⟨rfl, hf1⟩
        have st1 := st0.keep hf1
        clear st0 hf1
        go_wp2_with (with_reducible refine wl_stop (o := ⟨some 7, _, _, _, _, _⟩) ?_)
        refine wl_allocS st1 rfl rfl (z := .agg #[.int .u64 0, .int .u64 0, .int .u64 0, .int .u64 0]) (by kernel_rfl) (cw 4 0) (by rw [cw_zero]; rfl) ?_
        intro g7 w2 st2
        clear st1
        go_wp2_with (with_reducible refine wl_stop (o := ⟨none, _, _, _, _, _⟩) ?_)
        refine wl_storeS st2 0 rfl rfl rfl rfl rfl (by first | (simp only [cw_len]; done) | (simp only [List.length_append, cw_len]; done)) (by first | (rw [cw_len]; kernel_rfl) | (simp only [List.length_append, cw_len]; kernel_rfl)) (cw_one _ _) ?_
        intro w3 st3
        clear st2
        have HFR := Lib.hid (HF.out.then st3.fr)
        clear st3
        go_wp2_with fail
        go_ret2
        exact AllPost.bad HNL.out rfl HFR.out
      · have HNB := Lib.hid hnb
        clear hnb
        have st0 := St.start Nob wr
        go_wp2_with fail
        refine (Zof_t m HK.out a nn c l _ (HRD.out.still st0.fr) HNB.out).mono ?_
        rintro e' w1 ⟨rfl, hf1⟩
        have st1 := st0.keep hf1
        clear st0 hf1
        go_wp2_with (with_reducible refine wl_stop (o := ⟨some 7, _, _, _, _, _⟩) ?_)
        refine wl_allocS st1 rfl rfl (z := .agg #[.int .u64 0, .int .u64 0, .int .u64 0, .int .u64 0]) (by kernel_rfl) (cw 4 0) (by rw [cw_zero]; rfl) ?_
        intro g7 w2 st2
        clear st1
        go_wp2_with (with_reducible refine wl_stop (o := ⟨none, _, _, _, _, _⟩) ?_)
        refine wl_storeS st2 0 rfl rfl rfl rfl rfl (by first | (simp only [cw_len]; done) | (simp only [List.length_append, cw_len]; done)) (by first | (rw [cw_len]; kernel_rfl) | (simp only [List.length_append, cw_len]; kernel_rfl)) (cw_one _ _) ?_
        intro w3 st3
        clear st2
        go_wp2_with (with_reducible refine wl_stop (o := ⟨some 23, _, _, _, _, _⟩) ?_)
        refine wl_loadSt st3 0 rfl rfl rfl Try.underlying107 rfl rfl (by first | (rw [cw_len]; kernel_rfl) | (simp only [List.length_append, cw_len]; kernel_rfl)) ?_
        go_wp2_with (with_reducible refine wl_stop (o := ⟨some 24, _, _, _, _, _⟩) ?_)
        refine wl_slitR rfl rfl Try.underlying103 info_Z [i4 (elN m (beN l))] rfl (by simp [i4, Value.cells, cw_len]) rfl (cw 4 (elN m (beN l))) (by simp [i4_cells]) ?_
        intro wA hgA hfA hzA
        clear hzA
        have hfrA := st3.fr.then hfA
        have hsz := HF.out.size
        have hsz2 := hfrA.size
        have hownA := HOWN.out.still hfrA
        have hrdA : Rd wA (some ⟨w3.heap.size, 0, none⟩) (1 * 4) (cw 4 (elN m (beN l))) := by
          have := Rd.whole hgA
          rwa [cw_len] at this
        have HRDA := Lib.hid hrdA
        have HOWNA := Lib.hid hownA
        have HFRA := Lib.hid hfrA
        clear hgA hfA hrdA hownA hfrA st3
        generalize w3.heap.size = gA at *
        go_wp2_with (with_reducible refine wl_stop (o := ⟨some 25, _, _, _, _, _⟩) ?_)
        refine wl_append rfl rfl Try.underlying103 info_Z rfl (by decide) HOWNA.out rfl rfl HRDA.out (cw_one _ _) (by unfold maxLen; omega) (by omega) (by omega) ?_
        intro vB wB hownB hfB hbB
        clear hbB
        have hfrB := HOWNA.out.fr (HF.out.then HFRA.out) (Nat.le_refl _) hfB
        have HFRB := Lib.hid hfrB
        rw [← HCS.out] at hownB
        have HOWNB := Lib.hid hownB
        clear hfrB hownB hfB
        go_wp2_with fail
        go_roundw
        case rel => exact ⟨k + 1, by omega, by go_num, by rw [HTS.out, HG.out, HNB.out]; rfl, HOWNB.out, HFRB.out⟩
        case measure => simp [intOf]; omega
    · have hge : ¬ ((k : Int) < (n : Int)) := by omega
      have hkn : k = ls.length := by rw [HL.out]; omega
      rw [hkn, List.take_of_length_le (Nat.le_refl _)] at hgood hown
      have HG := Lib.hid hgood
      have HO := Lib.hid hown
      have HF := Lib.hid hf
      clear hkn hgood hown hf
      go_wp2_with fail
      go_ret2
      exact AllPost.good HG.out rfl HO.out HF.out
end Go.Proofs.Ytdbgddngapminaa

/- sigma.Extract; the reference's Scalar, Q, Extract. -/
namespace Mvp
/-- the secret, out of two answers to two challenges -/
def secN (M c1 z1 c2 z2 : Nat) : Nat := (z1 + (M - z2 % M)) * (c1 + (M - c2 % M)) ^ (M - 2) % M
end Mvp
namespace Go.Proofs.Ytdbgddngapminaa
open Go.RowKit Go.Mv Mvp
attribute [local irreducible] limbs lw mix cw cSub cAdd cMul foldC valFrom beN laid be32 powm montT mstep elN mdL elCells numsB numB

theorem BParts.four {w : World} {v1 v2 v3 v4 : Value} {l1 l2 l3 l4 : List UInt8} (h1 : BPart w v1 l1) (h2 : BPart w v2 l2) (h3 : BPart w v3 l3) (h4 : BPart w v4 l4) : BParts w [v1, v2, v3, v4] [l1, l2, l3, l4] := ⟨rfl, fun i x hx => by
  match i with
  | 0 => simp at hx; subst hx; exact h1
  | 1 => simp at hx; subst hx; exact h2
  | 2 => simp at hx; subst hx; exact h3
  | 3 => simp at hx; subst hx; exact h4
  | i + 4 => simp at hx⟩

set_option maxHeartbeats 16000000 in
set_option maxRecDepth 1000000 in
theorem Extract_bad (m : Md) (hk : KindOf 1 m) (v1 : Value) (l1 : List UInt8) (v2 : Value) (l2 : List UInt8) (v3 : Value) (l3 : List UInt8) (v4 : Value) (l4 : List UInt8) (w : World) (h1 : BPart w v1 l1) (h2 : BPart w v2 l2) (h3 : BPart w v3 l3) (h4 : BPart w v4 l4) (hg : numsB m [l1, l2, l3, l4] = false) :
    Calls Try.prog 31 #[v1, v2, v3, v4] w fun e w' => e = .returned (.tuple #[.slice none 0 0, .int .i64 3]) ∧ Fr Nob w w' := by
  have HK := Lib.hid hk
  have HOK := Lib.hid hk.ok
  clear hk
  have HG := Lib.hid hg
  clear hg
  have HP1 := Lib.hid h1
  have HP2 := Lib.hid h2
  have HP3 := Lib.hid h3
  have HP4 := Lib.hid h4
  have HC1 := Lib.hid (BPart.one h1)
  have HC2 := Lib.hid (BPart.one h2)
  have HC3 := Lib.hid (BPart.one h3)
  have HC4 := Lib.hid (BPart.one h4)
  clear h1 h2 h3 h4
  go_enter Try.func31, Try.ntmps31
  go_wp2_with (with_reducible refine wl_stop (o := ⟨some 17, _, _, _, _, _⟩) ?_)
  unfold Stop
  refine wl_slit (vs := [v1, v2, v3, v4]) (hgd := rfl) (ho := rfl) (hu := Try.underlying50) (hi0 := info_bs) (hp := by rfl) (hv := fun v hv => by
    simp only [List.mem_cons, List.not_mem_nil, or_false] at hv
    rcases hv with rfl | rfl | rfl | rfl
    · exact HC1.out
    · exact HC2.out
    · exact HC3.out
    · exact HC4.out) (hk := by rfl) (hz := by rfl) (h := ?_)
  intro w2 hg2 hf2 hz2
  clear hz2
  generalize w.heap.size = gl at *
  have HF2 := Lib.hid hf2
  have HRD := Lib.hid (show Rd w2 (some ⟨gl, 0, none⟩) 4 [v1, v2, v3, v4] from Rd.whole hg2)
  clear hg2 hf2
  have HPS := Lib.hid (BParts.four (HP1.out.still HF2.out) (HP2.out.still HF2.out) (HP3.out.still HF2.out) (HP4.out.still HF2.out))
  go_wp2_with fail
  refine (All_any m HK.out _ 4 4 [v1, v2, v3, v4] [l1, l2, l3, l4] _ HRD.out HPS.out (by decide)).mono ?_
  rintro e w3 ⟨-, hbad, hf3⟩
  obtain rfl := hbad HG.out
  have HF3 := Lib.hid (HF2.out.then hf3)
  clear hbad hf3
  go_wp2_with fail
  go_ret2
  exact ⟨rfl, HF3.out⟩

set_option maxHeartbeats 16000000 in
set_option maxRecDepth 1000000 in
theorem Extract_none (m : Md) (hk : KindOf 1 m) (v1 : Value) (l1 : List UInt8) (v2 : Value) (l2 : List UInt8) (v3 : Value) (l3 : List UInt8) (v4 : Value) (l4 : List UInt8) (w : World) (h1 : BPart w v1 l1) (h2 : BPart w v2 l2) (h3 : BPart w v3 l3) (h4 : BPart w v4 l4) (hg : numsB m [l1, l2, l3, l4] = true) (heq : ((beN l1) % m.M == (beN l3) % m.M) = true) :
    Calls Try.prog 31 #[v1, v2, v3, v4] w fun e w' => e = .returned (.tuple #[.slice none 0 0, .int .i64 6]) ∧ Fr Nob w w' := by
  have HK := Lib.hid hk
  have HOK := Lib.hid hk.ok
  clear hk
  have HG := Lib.hid hg
  have HEQ := Lib.hid heq
  clear hg heq
  have HP1 := Lib.hid h1
  have HP2 := Lib.hid h2
  have HP3 := Lib.hid h3
  have HP4 := Lib.hid h4
  have HC1 := Lib.hid (BPart.one h1)
  have HC2 := Lib.hid (BPart.one h2)
  have HC3 := Lib.hid (BPart.one h3)
  have HC4 := Lib.hid (BPart.one h4)
  clear h1 h2 h3 h4
  go_enter Try.func31, Try.ntmps31
  go_wp2_with (with_reducible refine wl_stop (o := ⟨some 17, _, _, _, _, _⟩) ?_)
  unfold Stop
  refine wl_slit (vs := [v1, v2, v3, v4]) (hgd := rfl) (ho := rfl) (hu := Try.underlying50) (hi0 := info_bs) (hp := by rfl) (hv := fun v hv => by
    simp only [List.mem_cons, List.not_mem_nil, or_false] at hv
    rcases hv with rfl | rfl | rfl | rfl
    · exact HC1.out
    · exact HC2.out
    · exact HC3.out
    · exact HC4.out) (hk := by rfl) (hz := by rfl) (h := ?_)
  intro w2 hg2 hf2 hz2
  clear hz2
  generalize w.heap.size = gl at *
  have HF2 := Lib.hid hf2
  have HRD := Lib.hid (show Rd w2 (some ⟨gl, 0, none⟩) 4 [v1, v2, v3, v4] from Rd.whole hg2)
  clear hg2 hf2
  have HPS := Lib.hid (BParts.four (HP1.out.still HF2.out) (HP2.out.still HF2.out) (HP3.out.still HF2.out) (HP4.out.still HF2.out))
  go_wp2_with fail
  refine (All_any m HK.out _ 4 4 [v1, v2, v3, v4] [l1, l2, l3, l4] _ HRD.out HPS.out (by decide)).mono ?_
  rintro e w3 ⟨hgood, -, hf3⟩
  obtain ⟨v, rfl, hown⟩ := hgood HG.out
  obtain ⟨ae, ce, rfl, -, hre, -⟩ := hown.form
  obtain ⟨be, oe, hee, -⟩ := hre.at (by simp)
  subst hee
  have HRE := Lib.hid hre
  have HF3 := Lib.hid (HF2.out.then hf3)
  clear hgood hown hre hf3
  have st0 := St.start Nob w3
  go_wp2_with fail
  refine wp_region_noPanic ?_
  refine wp_region_plan (fun wx => St Nob w3 wx []) 7 (.w 0 (.w 1 (.t 2 (.w 3 (.w 4 (.t 5 (.w 6 (.m 7 .nil)))))))) (by kernel_rfl) (by kernel_rfl) st0.drew (fun _ _ _ _ _ h => h) ?_
  have hd3 := st0.drew
  clear st0
  refine plan_w (v := ?_) rfl rfl (fun wx => ?_) ?_
  rotate_left 1
  · (go_simp; with_reducible rfl)
  try simp only [Act.put, List.setIfInBounds_toArray, List.set_cons_zero, List.set_cons_succ]
  refine plan_w (v := ?_) rfl rfl (fun wx => ?_) ?_
  rotate_left 1
  · (go_simp; with_reducible rfl)
  try simp only [Act.put, List.setIfInBounds_toArray, List.set_cons_zero, List.set_cons_succ]
  refine plan_arr rfl rfl rfl rfl (cw 4 (elN m (beN l1))) (fun wx hS => (rd_range (HRE.out.still (St.fr hS)) 0 _ (by rw [cw_len]; exact elCells_at m [l1, l2, l3, l4] 0 (by simp)))) Try.underlying107 rfl (by first | (rw [cw_len]; kernel_rfl) | (simp only [List.length_append, cw_len]; kernel_rfl)) ?_
  try simp only [Act.put, List.setIfInBounds_toArray, List.set_cons_zero, List.set_cons_succ]
  refine plan_w (v := ?_) rfl rfl (fun wx => ?_) ?_
  rotate_left 1
  · (go_simp; with_reducible rfl)
  try simp only [Act.put, List.setIfInBounds_toArray, List.set_cons_zero, List.set_cons_succ]
  refine plan_w (v := ?_) rfl rfl (fun wx => ?_) ?_
  rotate_left 1
  · (go_simp; with_reducible rfl)
  try simp only [Act.put, List.setIfInBounds_toArray, List.set_cons_zero, List.set_cons_succ]
  refine plan_arr rfl rfl rfl rfl (cw 4 (elN m (beN l3))) (fun wx hS => (rd_range (HRE.out.still (St.fr hS)) 8 _ (by rw [cw_len]; exact elCells_at m [l1, l2, l3, l4] 2 (by simp)))) Try.underlying107 rfl (by first | (rw [cw_len]; kernel_rfl) | (simp only [List.length_append, cw_len]; kernel_rfl)) ?_
  try simp only [Act.put, List.setIfInBounds_toArray, List.set_cons_zero, List.set_cons_succ]
  refine plan_w rfl rfl (exec_eqlZ m HOK.out (beN l1) (beN l3) rfl rfl rfl HEQ.out) ?_
  try simp only [Act.put, List.setIfInBounds_toArray, List.set_cons_zero, List.set_cons_succ]
  refine plan_m rfl rfl ?_
  go_simp
  try simp only [Act.put, List.setIfInBounds_toArray, List.set_cons_zero, List.set_cons_succ]
  refine plan_end ?_
  have st4 := hd3
  clear hd3
  refine NoPanic.normal ?_
  have hfr := HF3.out.then st4.fr
  clear st4
  go_wp2_with fail
  go_ret2
  exact ⟨rfl, hfr⟩

set_option maxHeartbeats 16000000 in
set_option maxRecDepth 1000000 in
theorem Extract_ok (m : Md) (hk : KindOf 1 m) (v1 : Value) (l1 : List UInt8) (v2 : Value) (l2 : List UInt8) (v3 : Value) (l3 : List UInt8) (v4 : Value) (l4 : List UInt8) (w : World) (h1 : BPart w v1 l1) (h2 : BPart w v2 l2) (h3 : BPart w v3 l3) (h4 : BPart w v4 l4) (hg : numsB m [l1, l2, l3, l4] = true) (heq : ((beN l1) % m.M == (beN l3) % m.M) = false) :
    Calls Try.prog 31 #[v1, v2, v3, v4] w fun e w' => ∃ a c, e = .returned (.tuple #[.slice a 32 c, .int .i64 0]) ∧ RdB w' a 32 (be32 (secN m.M (beN l1) (beN l2) (beN l3) (beN l4))) ∧ Fr Nob w w' := by
  have HK := Lib.hid hk
  have HOK := Lib.hid hk.ok
  clear hk
  have HG := Lib.hid hg
  have HEQ := Lib.hid heq
  clear hg heq
  have HP1 := Lib.hid h1
  have HP2 := Lib.hid h2
  have HP3 := Lib.hid h3
  have HP4 := Lib.hid h4
  have HC1 := Lib.hid (BPart.one h1)
  have HC2 := Lib.hid (BPart.one h2)
  have HC3 := Lib.hid (BPart.one h3)
  have HC4 := Lib.hid (BPart.one h4)
  clear h1 h2 h3 h4
  go_enter Try.func31, Try.ntmps31
  go_wp2_with (with_reducible refine wl_stop (o := ⟨some 17, _, _, _, _, _⟩) ?_)
  unfold Stop
  refine wl_slit (vs := [v1, v2, v3, v4]) (hgd := rfl) (ho := rfl) (hu := Try.underlying50) (hi0 := info_bs) (hp := by rfl) (hv := fun v hv => by
    simp only [List.mem_cons, List.not_mem_nil, or_false] at hv
    rcases hv with rfl | rfl | rfl | rfl
    · exact HC1.out
    · exact HC2.out
    · exact HC3.out
    · exact HC4.out) (hk := by rfl) (hz := by rfl) (h := ?_)
  intro w2 hg2 hf2 hz2
  clear hz2
  generalize w.heap.size = gl at *
  have HF2 := Lib.hid hf2
  have HRD := Lib.hid (show Rd w2 (some ⟨gl, 0, none⟩) 4 [v1, v2, v3, v4] from Rd.whole hg2)
  clear hg2 hf2
  have HPS := Lib.hid (BParts.four (HP1.out.still HF2.out) (HP2.out.still HF2.out) (HP3.out.still HF2.out) (HP4.out.still HF2.out))
  go_wp2_with fail
  refine (All_any m HK.out _ 4 4 [v1, v2, v3, v4] [l1, l2, l3, l4] _ HRD.out HPS.out (by decide)).mono ?_
  rintro e w3 ⟨hgood, -, hf3⟩
  obtain ⟨v, rfl, hown⟩ := hgood HG.out
  obtain ⟨ae, ce, rfl, -, hre, -⟩ := hown.form
  obtain ⟨be, oe, hee, -⟩ := hre.at (by simp)
  subst hee
  have HRE := Lib.hid hre
  have HF3 := Lib.hid (HF2.out.then hf3)
  clear hgood hown hre hf3
  have st0 := St.start Nob w3
  go_wp2_with fail
  refine wp_region_noPanic ?_
  refine wp_region_plan (fun wx => St Nob w3 wx []) 7 (.w 0 (.w 1 (.t 2 (.w 3 (.w 4 (.t 5 (.w 6 (.m 7 .nil)))))))) (by kernel_rfl) (by kernel_rfl) st0.drew (fun _ _ _ _ _ h => h) ?_
  have hd3 := st0.drew
  clear st0
  refine plan_w (v := ?_) rfl rfl (fun wx => ?_) ?_
  rotate_left 1
  · (go_simp; with_reducible rfl)
  try simp only [Act.put, List.setIfInBounds_toArray, List.set_cons_zero, List.set_cons_succ]
  refine plan_w (v := ?_) rfl rfl (fun wx => ?_) ?_
  rotate_left 1
  · (go_simp; with_reducible rfl)
  try simp only [Act.put, List.setIfInBounds_toArray, List.set_cons_zero, List.set_cons_succ]
  refine plan_arr rfl rfl rfl rfl (cw 4 (elN m (beN l1))) (fun wx hS => (rd_range (HRE.out.still (St.fr hS)) 0 _ (by rw [cw_len]; exact elCells_at m [l1, l2, l3, l4] 0 (by simp)))) Try.underlying107 rfl (by first | (rw [cw_len]; kernel_rfl) | (simp only [List.length_append, cw_len]; kernel_rfl)) ?_
  try simp only [Act.put, List.setIfInBounds_toArray, List.set_cons_zero, List.set_cons_succ]
  refine plan_w (v := ?_) rfl rfl (fun wx => ?_) ?_
  rotate_left 1
  · (go_simp; with_reducible rfl)
  try simp only [Act.put, List.setIfInBounds_toArray, List.set_cons_zero, List.set_cons_succ]
  refine plan_w (v := ?_) rfl rfl (fun wx => ?_) ?_
  rotate_left 1
  · (go_simp; with_reducible rfl)
  try simp only [Act.put, List.setIfInBounds_toArray, List.set_cons_zero, List.set_cons_succ]
  refine plan_arr rfl rfl rfl rfl (cw 4 (elN m (beN l3))) (fun wx hS => (rd_range (HRE.out.still (St.fr hS)) 8 _ (by rw [cw_len]; exact elCells_at m [l1, l2, l3, l4] 2 (by simp)))) Try.underlying107 rfl (by first | (rw [cw_len]; kernel_rfl) | (simp only [List.length_append, cw_len]; kernel_rfl)) ?_
  try simp only [Act.put, List.setIfInBounds_toArray, List.set_cons_zero, List.set_cons_succ]
  refine plan_w rfl rfl (exec_eqlZ m HOK.out (beN l1) (beN l3) rfl rfl rfl HEQ.out) ?_
  try simp only [Act.put, List.setIfInBounds_toArray, List.set_cons_zero, List.set_cons_succ]
  refine plan_m rfl rfl ?_
  go_simp
  try simp only [Act.put, List.setIfInBounds_toArray, List.set_cons_zero, List.set_cons_succ]
  refine plan_end ?_
  have st4 := hd3
  clear hd3
  refine NoPanic.normal ?_
  go_wp2_with fail
  refine wp_region_noPanic ?_
  refine wp_region_plan (fun wx => St Nob w3 wx []) 18 (.w 0 (.w 1 (.t 2 (.w 3 (.w 4 (.t 5 (.w 7 (.w 8 (.t 9 (.w 10 (.w 11 (.t 12 (.r 6 (.r 13 (.r 14 (.r 15 (.r 16 (.w 17 (.m 18 .nil))))))))))))))))))) (by kernel_rfl) (by kernel_rfl) st4.drew (fun _ _ _ _ _ h => h) ?_
  have hd4 := st4.drew
  clear st4
  refine plan_w (v := ?_) rfl rfl (fun wx => ?_) ?_
  rotate_left 1
  · (go_simp; with_reducible rfl)
  try simp only [Act.put, List.setIfInBounds_toArray, List.set_cons_zero, List.set_cons_succ]
  refine plan_w (v := ?_) rfl rfl (fun wx => ?_) ?_
  rotate_left 1
  · (go_simp; with_reducible rfl)
  try simp only [Act.put, List.setIfInBounds_toArray, List.set_cons_zero, List.set_cons_succ]
  refine plan_arr rfl rfl rfl rfl (cw 4 (elN m (beN l2))) (fun wx hS => (rd_range (HRE.out.still (St.fr hS)) 4 _ (by rw [cw_len]; exact elCells_at m [l1, l2, l3, l4] 1 (by simp)))) Try.underlying107 rfl (by first | (rw [cw_len]; kernel_rfl) | (simp only [List.length_append, cw_len]; kernel_rfl)) ?_
  try simp only [Act.put, List.setIfInBounds_toArray, List.set_cons_zero, List.set_cons_succ]
  refine plan_w (v := ?_) rfl rfl (fun wx => ?_) ?_
  rotate_left 1
  · (go_simp; with_reducible rfl)
  try simp only [Act.put, List.setIfInBounds_toArray, List.set_cons_zero, List.set_cons_succ]
  refine plan_w (v := ?_) rfl rfl (fun wx => ?_) ?_
  rotate_left 1
  · (go_simp; with_reducible rfl)
  try simp only [Act.put, List.setIfInBounds_toArray, List.set_cons_zero, List.set_cons_succ]
  refine plan_arr rfl rfl rfl rfl (cw 4 (elN m (beN l4))) (fun wx hS => (rd_range (HRE.out.still (St.fr hS)) 12 _ (by rw [cw_len]; exact elCells_at m [l1, l2, l3, l4] 3 (by simp)))) Try.underlying107 rfl (by first | (rw [cw_len]; kernel_rfl) | (simp only [List.length_append, cw_len]; kernel_rfl)) ?_
  try simp only [Act.put, List.setIfInBounds_toArray, List.set_cons_zero, List.set_cons_succ]
  refine plan_w (v := ?_) rfl rfl (fun wx => ?_) ?_
  rotate_left 1
  · (go_simp; with_reducible rfl)
  try simp only [Act.put, List.setIfInBounds_toArray, List.set_cons_zero, List.set_cons_succ]
  refine plan_w (v := ?_) rfl rfl (fun wx => ?_) ?_
  rotate_left 1
  · (go_simp; with_reducible rfl)
  try simp only [Act.put, List.setIfInBounds_toArray, List.set_cons_zero, List.set_cons_succ]
  refine plan_arr rfl rfl rfl rfl (cw 4 (elN m (beN l1))) (fun wx hS => (rd_range (HRE.out.still (St.fr hS)) 0 _ (by rw [cw_len]; exact elCells_at m [l1, l2, l3, l4] 0 (by simp)))) Try.underlying107 rfl (by first | (rw [cw_len]; kernel_rfl) | (simp only [List.length_append, cw_len]; kernel_rfl)) ?_
  try simp only [Act.put, List.setIfInBounds_toArray, List.set_cons_zero, List.set_cons_succ]
  refine plan_w (v := ?_) rfl rfl (fun wx => ?_) ?_
  rotate_left 1
  · (go_simp; with_reducible rfl)
  try simp only [Act.put, List.setIfInBounds_toArray, List.set_cons_zero, List.set_cons_succ]
  refine plan_w (v := ?_) rfl rfl (fun wx => ?_) ?_
  rotate_left 1
  · (go_simp; with_reducible rfl)
  try simp only [Act.put, List.setIfInBounds_toArray, List.set_cons_zero, List.set_cons_succ]
  refine plan_arr rfl rfl rfl rfl (cw 4 (elN m (beN l3))) (fun wx hS => (rd_range (HRE.out.still (St.fr hS)) 8 _ (by rw [cw_len]; exact elCells_at m [l1, l2, l3, l4] 2 (by simp)))) Try.underlying107 rfl (by first | (rw [cw_len]; kernel_rfl) | (simp only [List.length_append, cw_len]; kernel_rfl)) ?_
  try simp only [Act.put, List.setIfInBounds_toArray, List.set_cons_zero, List.set_cons_succ]
  refine plan_r rfl rfl ?_
  go_simp
  refine (ZSub_any m HK.out (beN l2) (beN l4) _).mono ?_
  rintro e' w5 ⟨rfl, hf5⟩
  have st5 := hd4.keep hf5
  clear hf5
  clear hd4
  refine ⟨st5, ?_⟩
  try simp only [Act.put, List.setIfInBounds_toArray, List.set_cons_zero, List.set_cons_succ]
  refine plan_r rfl rfl ?_
  go_simp
  refine (ZSub_any m HK.out (beN l1) (beN l3) _).mono ?_
  rintro e' w6 ⟨rfl, hf6⟩
  have st6 := st5.keep hf6
  clear hf6
  clear st5
  refine ⟨st6, ?_⟩
  try simp only [Act.put, List.setIfInBounds_toArray, List.set_cons_zero, List.set_cons_succ]
  refine plan_r rfl rfl ?_
  go_simp
  refine (ZInv_any m HK.out ((beN l1) + (m.M - (beN l3) % m.M)) _).mono ?_
  rintro e' w7 ⟨rfl, hf7⟩
  have st7 := st6.keep hf7
  clear hf7
  clear st6
  refine ⟨st7, ?_⟩
  try simp only [Act.put, List.setIfInBounds_toArray, List.set_cons_zero, List.set_cons_succ]
  refine plan_r rfl rfl ?_
  go_simp
  refine (ZMul_any m HK.out ((beN l2) + (m.M - (beN l4) % m.M)) (((beN l1) + (m.M - (beN l3) % m.M)) ^ (m.M - 2)) _).mono ?_
  rintro e' w8 ⟨rfl, hf8⟩
  have st8 := st7.keep hf8
  clear hf8
  clear st7
  refine ⟨st8, ?_⟩
  try simp only [Act.put, List.setIfInBounds_toArray, List.set_cons_zero, List.set_cons_succ]
  refine plan_r rfl rfl ?_
  go_simp
  refine (ZBytes_any m HK.out (((beN l2) + (m.M - (beN l4) % m.M)) * ((beN l1) + (m.M - (beN l3) % m.M)) ^ (m.M - 2)) _).mono ?_
  rintro e' w9 ⟨v, rfl, hown, hf9⟩
  have st9 := st8.keep hf9
  obtain ⟨av, cv, hve, hcv, hrv, -⟩ := hown.form
  subst hve
  have HRV := Lib.hid (show RdB w9 av 32 (be32 (secN m.M (beN l1) (beN l2) (beN l3) (beN l4))) by rw [Nat.mul_one] at hrv; exact hrv)
  clear hown hrv
  clear hf9
  clear st8
  refine ⟨st9, ?_⟩
  try simp only [Act.put, List.setIfInBounds_toArray, List.set_cons_zero, List.set_cons_succ]
  refine plan_w (v := ?_) rfl rfl (fun wx => ?_) ?_
  rotate_left 1
  · (go_simp; with_reducible rfl)
  try simp only [Act.put, List.setIfInBounds_toArray, List.set_cons_zero, List.set_cons_succ]
  refine plan_m rfl rfl ?_
  go_simp
  try simp only [Act.put, List.setIfInBounds_toArray, List.set_cons_zero, List.set_cons_succ]
  refine plan_end ?_
  refine NoPanic.normal ?_
  have hfr := HF3.out.then st9.fr
  clear st9
  go_wp2_with fail
  go_ret2
  exact ⟨_, _, rfl, HRV.out, hfr⟩
end Go.Proofs.Ytdbgddngapminaa

/- The reference's Q, Scalar, Extract. -/
namespace Go.Proofs.Ytdbgddngapminaa
open Go.RowKit Go.Mv Mvp
theorem sec_same (M c1 z1 c2 z2 : Nat) (h2 : c2 < M) (h4 : z2 < M) : (z1 + (M - z2)) % M * ((c1 + (M - c2)) % M) ^ (M - 2) % M = secN M c1 z1 c2 z2 := by
  unfold secN
  rw [Nat.mod_eq_of_lt h2, Nat.mod_eq_of_lt h4, Nat.mod_mul_mod, Nat.mul_mod, ← Nat.pow_mod, ← Nat.mul_mod]
theorem run_eqN (x y : Nat) (hx : x < B64 ^ 4) (hy : y < B64 ^ 4) (w : World) : (Op.equal 24 (.agg (cw 4 x).toArray) (.agg (cw 4 y).toArray)).run Try.prog w = .ok (x == y) w := by
  have h := run_eq4 (P := Try.prog) Try.underlying24 Try.underlying22 size_u64 x y w
  rw [Nat.mod_eq_of_lt hx, Nat.mod_eq_of_lt hy] at h
  rw [h]
  congr 1
theorem exec_eqlN {x y : Nat} (hx : x < B64 ^ 4) (hy : y < B64 ^ 4) {o : Oper} {a : Act} {p q : Operand} {T : TypeId} (ho : o.op = .binOp .eql 24 p q T) (hp : a.eval p = i4 x) (hq : a.eval q = i4 y) {b : Bool} (hb : (x == y) = b) (w : World) :
    (execOp a.eval o).run Try.prog w = .ok (.value (.bool b)) w := by
  subst hb
  exact exec_binop ho hp hq w (run_eqGuard_agg w .eql 24 p q _ _ Try.eqGuardType24) (eql_of_equal w (run_eqN x y hx hy w))
attribute [local irreducible] limbs lw mix cw cSub cAdd cMul foldC valFrom beN laid be32 powm montT mstep elN mdL elCells numsB numB secN

set_option maxHeartbeats 16000000 in
set_option maxRecDepth 1000000 in
theorem Q_any (m : Md) (hk : KindOf 1 m) (w : World) :
    Calls Try.prog 10 #[] w fun e w' => e = .returned (fv m.M) ∧ Fr Nob w w' := by
  have HK := Lib.hid hk
  have HOK := Lib.hid hk.ok
  clear hk
  have st0 := St.start Nob w
  go_enter Try.func10, Try.ntmps10
  go_wp2_with (with_reducible refine wl_stop (o := ⟨some 0, _, _, _, _, _⟩) ?_)
  refine wl_allocS st0 rfl rfl (z := .agg #[.int .u64 0, .int .u64 0, .int .u64 0, .int .u64 0, .int .u64 0, .int .u64 0, .int .u64 0, .int .u64 0]) (by kernel_rfl) (cw 8 0) (by rw [cw_zero]; rfl) ?_
  intro g0 w1 st1
  clear st0
  go_wp2_with fail
  refine (MakeK HK.out _).mono ?_
  rintro e' w2 ⟨rfl, hf2⟩
  have st2 := st1.keep hf2
  clear st1 hf2
  go_wp2_with (with_reducible refine wl_stop (o := ⟨none, _, _, _, _, _⟩) ?_)
  refine wl_storeS st2 0 rfl rfl rfl rfl rfl (by first | (simp only [cw_len]; done) | (simp only [List.length_append, cw_len]; done)) (by first | (rw [cw_len]; kernel_rfl) | (simp only [List.length_append, cw_len]; kernel_rfl)) (cw2_one _ _ _ _) ?_
  intro w3 st3
  clear st2
  have hr := st3.at 0 rfl
  have hfr := st3.fr
  clear st3
  go_wp2_with fail
  exact bodyPost_ret (results_st rfl rfl hr Try.underlying31 rfl (by first | (rw [cw_len]; kernel_rfl) | (simp only [List.length_append, cw_len]; kernel_rfl))) rfl ⟨rfl, hfr⟩

set_option maxHeartbeats 16000000 in
set_option maxRecDepth 1000000 in
theorem Scalar_t (m : Md) (hk : KindOf 1 m) (s : ByteArray) (w : World) (ha : numB m s.data.toList = true) :
    Calls Try.prog 71 #[.string s] w fun e w' => e = .returned (.tuple #[i4 (beN s.data.toList), .bool true]) ∧ Fr Nob w w' := by
  have HK := Lib.hid hk
  have HOK := Lib.hid hk.ok
  clear hk
  have HA := Lib.hid ha
  clear ha
  have st0 := St.start Nob w
  go_enter Try.func71, Try.ntmps71
  go_wp2_with (with_reducible refine wl_stop (o := ⟨some 2, _, _, _, _, _⟩) ?_)
  refine wl_allocS st0 rfl rfl (z := .agg #[.int .u64 0, .int .u64 0, .int .u64 0, .int .u64 0]) (by kernel_rfl) (cw 4 0) (by rw [cw_zero]; rfl) ?_
  intro g2 w1 st1
  clear st0
  go_wp2_with fail
  refine (Q_any m HK.out _).mono ?_
  rintro e' w2 ⟨rfl, hf2⟩
  have st2 := st1.keep hf2
  clear st1 hf2
  go_wp2_with fail
  refine (Number_t m HOK.out.lt s _ HA.out).mono ?_
  rintro e' w3 ⟨rfl, hf3⟩
  have st3 := st2.keep hf3
  clear st2 hf3
  go_wp2_with (with_reducible refine wl_stop (o := ⟨none, _, _, _, _, _⟩) ?_)
  refine wl_storeS st3 0 rfl rfl rfl rfl rfl (by first | (simp only [cw_len]; done) | (simp only [List.length_append, cw_len]; done)) (by first | (rw [cw_len]; kernel_rfl) | (simp only [List.length_append, cw_len]; kernel_rfl)) (cw_one _ _) ?_
  intro w4 st4
  clear st3
  have hr := st4.at 0 rfl
  have hfr := st4.fr
  clear st4
  go_wp2_with fail
  exact bodyPost_ret (results_arr2 rfl rfl hr Try.underlying24 (by first | (rw [cw_len]; kernel_rfl) | (simp only [List.length_append, cw_len]; kernel_rfl)) rfl) rfl ⟨rfl, hfr⟩

set_option maxHeartbeats 16000000 in
set_option maxRecDepth 1000000 in
theorem Scalar_f (m : Md) (hk : KindOf 1 m) (s : ByteArray) (w : World) (ha : numB m s.data.toList = false) :
    Calls Try.prog 71 #[.string s] w fun e w' => ∃ N, e = .returned (.tuple #[i4 N, .bool false]) ∧ Fr Nob w w' := by
  have HK := Lib.hid hk
  have HOK := Lib.hid hk.ok
  clear hk
  have HA := Lib.hid ha
  clear ha
  have st0 := St.start Nob w
  go_enter Try.func71, Try.ntmps71
  go_wp2_with (with_reducible refine wl_stop (o := ⟨some 2, _, _, _, _, _⟩) ?_)
  refine wl_allocS st0 rfl rfl (z := .agg #[.int .u64 0, .int .u64 0, .int .u64 0, .int .u64 0]) (by kernel_rfl) (cw 4 0) (by rw [cw_zero]; rfl) ?_
  intro g2 w1 st1
  clear st0
  go_wp2_with fail
  refine (Q_any m HK.out _).mono ?_
  rintro e' w2 ⟨rfl, hf2⟩
  have st2 := st1.keep hf2
  clear st1 hf2
  go_wp2_with fail
  refine (Number_f m HOK.out.lt s _ HA.out).mono ?_
  rintro e' w3 ⟨NA, rfl, hf3⟩
  have st3 := st2.keep hf3
  clear st2 hf3
  go_wp2_with (with_reducible refine wl_stop (o := ⟨none, _, _, _, _, _⟩) ?_)
  refine wl_storeS st3 0 rfl rfl rfl rfl rfl (by first | (simp only [cw_len]; done) | (simp only [List.length_append, cw_len]; done)) (by first | (rw [cw_len]; kernel_rfl) | (simp only [List.length_append, cw_len]; kernel_rfl)) (cw_one _ _) ?_
  intro w4 st4
  clear st3
  have hr := st4.at 0 rfl
  have hfr := st4.fr
  clear st4
  go_wp2_with fail
  exact bodyPost_ret (results_arr2 rfl rfl hr Try.underlying24 (by first | (rw [cw_len]; kernel_rfl) | (simp only [List.length_append, cw_len]; kernel_rfl)) rfl) rfl ⟨_, rfl, hfr⟩

theorem Scalar_u (m : Md) (hk : KindOf 1 m) (s : ByteArray) (w : World) : Calls Try.prog 71 #[.string s] w fun e w' => ∃ N b, e = .returned (.tuple #[i4 N, .bool b]) ∧ Fr Nob w w' := by
  cases h : numB m s.data.toList
  · exact (Scalar_f m hk s w h).mono fun e w' ⟨N, h1, h2⟩ => ⟨N, false, h1, h2⟩
  · exact (Scalar_t m hk s w h).mono fun e w' h1 => ⟨_, true, h1.1, h1.2⟩

theorem Sub_v (p a b r : Nat) (w : World) (hp0 : 0 < p) (hp : p < B64 ^ 4) (ha : a < B64 ^ 4) (hb : b < B64 ^ 4) (hbp : b ≤ p) (hr : (a + (p - b)) % p = r) :
    Calls Try.prog 58 #[fv p, i4 a, i4 b] w fun e w' => e = .returned (i4 r) ∧ Fr Nob w w' := by
  refine (Sub_any p a b w hp0 hp ha hb hbp).mono fun e w' h => ?_
  rw [Nat.add_mod_mod, hr] at h
  exact h
theorem Inv_v (p a r : Nat) (w : World) (hp1 : 1 < p) (hp : p < B64 ^ 4) (ha : a < B64 ^ 4) (hr : a ^ (p - 2) % p = r) :
    Calls Try.prog 53 #[fv p, i4 a] w fun e w' => e = .returned (i4 r) ∧ Fr Nob w w' := by
  subst hr; exact Inv_any p a w hp1 hp ha
theorem Mul_v (p a b r : Nat) (w : World) (hp0 : 0 < p) (hp : p < B64 ^ 4) (ha : a < B64 ^ 4) (hb : b < B64 ^ 4) (hr : a * b % p = r) :
    Calls Try.prog 54 #[fv p, i4 a, i4 b] w fun e w' => e = .returned (i4 r) ∧ Fr Nob w w' := by
  subst hr; exact Mul_any p a b w hp0 hp ha hb

end Go.Proofs.Ytdbgddngapminaa

/- The reference's numbers modulo Prime, told by their classes. -/
namespace Go.Proofs.Ytdbgddngapminaa
open Go.RowKit Go.Mv Mvp Mvq
/-- the least number of a class -/
def kN (a : K) : Nat := a.val
theorem mPM : mP.M = fP := pP_fP
theorem kN_lt (a : K) : kN a < mP.M := by rw [mPM]; exact a.isLt
theorem kN_lt4 (a : K) : kN a < B64 ^ 4 := Nat.lt_trans (kN_lt a) mP_ok.lt
theorem kN_kc (n : Nat) : kN (kc n) = n % fP := rfl
theorem kc_kN (a : K) : kc (kN a) = a := by
  apply Fin.ext
  show a.val % fP = a.val
  exact Nat.mod_eq_of_lt a.isLt
theorem kN_inj {a b : K} (h : kN a = kN b) : a = b := Fin.ext h
theorem hK0 : KindOf 0 mP := .zero
theorem RF_any (w : World) : Calls Try.prog 36 #[] w fun e w' => e = .returned (fv mP.M) ∧ Fr Nob w w' := by
  go_enter Try.func36, Try.ntmps36
  have st0 := St.start Nob w
  go_wp2_with (with_reducible refine wl_stop (o := ⟨some 0, _, _, _, _, _⟩) ?_)
  refine wl_allocS st0 rfl rfl (z := .agg #[.int .u64 0, .int .u64 0, .int .u64 0, .int .u64 0, .int .u64 0, .int .u64 0, .int .u64 0, .int .u64 0]) (by kernel_rfl) (cw 8 0) (by rw [cw_zero]; rfl) ?_
  intro g0 w1 st1
  clear st0
  go_wp2_with fail
  refine (MakeK hK0 _).mono ?_
  rintro e' w2 ⟨rfl, hf2⟩
  have st2 := st1.keep hf2
  clear st1 hf2
  go_wp2_with (with_reducible refine wl_stop (o := ⟨none, _, _, _, _, _⟩) ?_)
  refine wl_storeS st2 0 rfl rfl rfl rfl (cs := cw 4 mP.M ++ cw 4 (B64 ^ 4 - mP.M)) rfl (by first | (simp only [cw_len]; done) | (simp only [List.length_append, cw_len]; done)) (by first | (rw [cw_len]; kernel_rfl) | (simp only [List.length_append, cw_len]; kernel_rfl)) (cw2_one _ _ _ _) ?_
  intro w3 st3
  clear st2
  have hr := st3.at 0 rfl
  have hfr := st3.fr
  clear st3
  go_wp2_with fail
  exact bodyPost_ret (results_st rfl rfl hr Try.underlying31 rfl (by first | (rw [cw_len]; kernel_rfl) | (simp only [List.length_append, cw_len]; kernel_rfl))) rfl ⟨rfl, hfr⟩
theorem KMul (a b r : K) (hr : a * b = r) (w : World) : Calls Try.prog 54 #[fv mP.M, i4 (kN a), i4 (kN b)] w fun e w' => e = .returned (i4 (kN r)) ∧ Fr Nob w w' := by
  have h := Mul_any mP.M (kN a) (kN b) w (by have := mP_ok.one; omega) mP_ok.lt (kN_lt4 a) (kN_lt4 b)
  have e : kN a * kN b % mP.M = kN r := by rw [mPM, ← kN_kc, kc_mul', kc_kN, kc_kN, hr]
  rwa [e] at h
theorem KAdd (a b r : K) (hr : a + b = r) (w : World) : Calls Try.prog 59 #[fv mP.M, i4 (kN a), i4 (kN b)] w fun e w' => e = .returned (i4 (kN r)) ∧ Fr Nob w w' := by
  have h := Add_any mP.M (kN a) (kN b) w (by have := mP_ok.one; omega) mP_ok.lt (kN_lt4 a) (kN_lt4 b)
  have e : (kN a + kN b) % mP.M = kN r := by rw [mPM, ← kN_kc, kc_addn, kc_kN, kc_kN, hr]
  rwa [e] at h
theorem KSub (a b r : K) (hr : a - b = r) (w : World) : Calls Try.prog 58 #[fv mP.M, i4 (kN a), i4 (kN b)] w fun e w' => e = .returned (i4 (kN r)) ∧ Fr Nob w w' := by
  have hb := Nat.mod_eq_of_lt (kN_lt b)
  refine Sub_v mP.M (kN a) (kN b) (kN r) w (by have := mP_ok.one; omega) mP_ok.lt (kN_lt4 a) (kN_lt4 b) (Nat.le_of_lt (kN_lt b)) ?_
  rw [← hb, mPM, ← kN_kc, kc_subn, kc_kN, kc_kN, hr]
theorem KNeg (a r : K) (hr : -a = r) (w : World) : Calls Try.prog 51 #[fv mP.M, i4 (kN a)] w fun e w' => e = .returned (i4 (kN r)) ∧ Fr Nob w w' := by
  have h := Neg_any mP.M (kN a) w (Nat.le_of_lt (kN_lt a)) mP_ok.lt (kN_lt4 a)
  have hb := Nat.mod_eq_of_lt (kN_lt a)
  have e : (mP.M - kN a) % mP.M = kN r := by
    rw [← hb, mPM, ← kN_kc, kc_negn, kc_kN, hr]
  rwa [e] at h
theorem KInv (a r : K) (hr : kinv a = r) (w : World) : Calls Try.prog 53 #[fv mP.M, i4 (kN a)] w fun e w' => e = .returned (i4 (kN r)) ∧ Fr Nob w w' := by
  refine Inv_v mP.M (kN a) (kN r) w mP_ok.one mP_ok.lt (kN_lt4 a) ?_
  rw [← hr, mPM]
  unfold kinv
  rw [kN_kc]
  unfold kN
  generalize fP - 2 = z
  rfl
theorem KZero (a : K) (b : Bool) (hb : decide (a = 0) = b) (w : World) : Calls Try.prog 56 #[i4 (kN a)] w fun e w' => e = .returned (.bool b) ∧ Fr Nob w w' := by
  have h := Zero_any (kN a) w (kN_lt4 a)
  have e : decide (kN a = 0) = b := by
    rw [← hb, Bool.eq_iff_iff, decide_eq_true_eq, decide_eq_true_eq]
    exact ⟨fun h => kN_inj (h.trans rfl), fun h => by rw [h]; rfl⟩
  rwa [e] at h
theorem KSmall1 (w : World) : Calls Try.prog 79 #[.int .u64 1] w fun e w' => e = .returned (i4 (kN 1)) ∧ Fr Nob w w' := Small_any 1 w (by decide)
theorem KSmall7 (w : World) : Calls Try.prog 79 #[.int .u64 7] w fun e w' => e = .returned (i4 (kN 7)) ∧ Fr Nob w w' := Small_any 7 w (by decide)
theorem run_eqK (x y : K) {b : Bool} (hb : decide (x = y) = b) (w : World) : (Op.equal 24 (.agg (cw 4 (kN x)).toArray) (.agg (cw 4 (kN y)).toArray)).run Try.prog w = .ok b w := by
  rw [run_eqN (kN x) (kN y) (kN_lt4 x) (kN_lt4 y) w]
  congr 1
  rw [← hb, Bool.eq_iff_iff, beq_iff_eq, decide_eq_true_eq]
  exact ⟨kN_inj, fun h => by rw [h]⟩
theorem exec_eqlK (x y : K) {o : Oper} {a : Act} {p q : Operand} {T : TypeId} (ho : o.op = .binOp .eql 24 p q T) (hp : a.eval p = i4 (kN x)) (hq : a.eval q = i4 (kN y)) {b : Bool} (hb : decide (x = y) = b) (w : World) :
    (execOp a.eval o).run Try.prog w = .ok (.value (.bool b)) w :=
  exec_binop ho hp hq w (run_eqGuard_agg w .eql 24 p q _ _ Try.eqGuardType24) (eql_of_equal w (run_eqK x y hb w))
theorem KSqrt_t (n : Nat) (hn : n < mP.M) (hr : rtOk fP n = true) (w : World) : Calls Try.prog 80 #[fv mP.M, i4 n] w fun e w' => e = .returned (.tuple #[i4 (kN (kc (rtV fP n))), .bool true]) ∧ Fr Nob w w' := by
  have h := FSqrt_ok mP.M n w mP_ok.one mP_ok.lt hn (low_k hK0) (by rw [mPM]; exact hr)
  rw [mPM, ← kN_kc, ← mPM] at h
  exact h
theorem KSqrt_f (n : Nat) (hn : n < mP.M) (hr : rtOk fP n = false) (w : World) : Calls Try.prog 80 #[fv mP.M, i4 n] w fun e w' => e = .returned (.tuple #[i4 (kN 0), .bool false]) ∧ Fr Nob w w' :=
  FSqrt_bad mP.M n w mP_ok.one mP_ok.lt hn (low_k hK0) (by rw [mPM]; exact hr)
end Go.Proofs.Ytdbgddngapminaa

/- The reference's points: None, Is, Neg, double, Plus. -/
namespace Go.Proofs.Ytdbgddngapminaa
open Go.RowKit Go.Mv Mvp Mvq
/-- a point's cells, as the reference has it -/
def rpL (x y z : K) : List Value := cw 4 (kN x) ++ (cw 4 (kN y) ++ cw 4 (kN z))
def rpV (x y z : K) : Value := .agg (rpL x y z).toArray
theorem kN_zero : kN 0 = 0 := rfl
theorem built_rp (a b c : Nat) : Try.prog.built 26 [(0, i4 a), (1, i4 b), (2, i4 c)] = some (cw 4 a ++ (cw 4 b ++ cw 4 c)).toArray := by kernel_rfl
theorem built_rp1 (b : Nat) : Try.prog.built 26 [(1, i4 b)] = some (cw 4 0 ++ (cw 4 b ++ cw 4 0)).toArray := by kernel_rfl
theorem built_rp0 : Try.prog.built 26 [] = some (cw 4 0 ++ (cw 4 0 ++ cw 4 0)).toArray := by kernel_rfl
theorem z_rp : (Try.prog.info? 26).map (·.zero) = some (some (.agg (cw 12 0).toArray)) := by kernel_rfl
theorem z_rn : (Try.prog.info? 24).map (·.zero) = some (some (.agg (cw 4 0).toArray)) := by kernel_rfl
attribute [local irreducible] limbs lw mix cw cSub cAdd cMul foldC valFrom beN laid be32 powm montT mstep elN mdL numB rtV rtOk kN kc kinv wrPt

set_option maxHeartbeats 16000000 in
set_option maxRecDepth 1000000 in
theorem RNone_any (w : World) : Calls Try.prog 35 #[] w fun e w' => e = .returned (rpV 0 1 0) ∧ Fr Nob w w' := by
  have st0 := St.start Nob w
  go_enter Try.func35, Try.ntmps35
  go_wp2_with (with_reducible refine wl_stop (o := ⟨some 0, _, _, _, _, _⟩) ?_)
  refine wl_allocS st0 rfl rfl (z := .agg #[.int .u64 0, .int .u64 0, .int .u64 0, .int .u64 0, .int .u64 0, .int .u64 0, .int .u64 0, .int .u64 0, .int .u64 0, .int .u64 0, .int .u64 0, .int .u64 0]) (by kernel_rfl) (cw 12 0) (by rw [cw_zero]; rfl) ?_
  intro g0 w1 st1
  clear st0
  go_wp2_with fail
  refine (KSmall1 _).mono ?_
  rintro e' w2 ⟨rfl, hf2⟩
  have st2 := st1.keep hf2
  clear st1 hf2
  go_wp2_with (with_reducible refine wl_stop (o := ⟨some 2, _, _, _, _, _⟩) ?_)
  refine wl_buildL rfl rfl _ (built_rp1 _) ?_
  go_wp2_with (with_reducible refine wl_stop (o := ⟨none, _, _, _, _, _⟩) ?_)
  refine wl_storeS st2 0 rfl rfl rfl rfl rfl (by simp [cw_len]) (by kernel_rfl) (pt_one _ _ _) ?_
  intro w3 st3
  clear st2
  have hr := st3.at 0 rfl
  have hfr := st3.fr
  clear st3
  go_wp2_with fail
  exact bodyPost_ret (results_st rfl rfl hr Try.underlying26 rfl (by kernel_rfl)) rfl ⟨by unfold rpV rpL; rw [kN_zero], hfr⟩

set_option maxHeartbeats 16000000 in
set_option maxRecDepth 1000000 in
theorem RIs_any (x y z : K) (b : Bool) (hb : decide (z = 0) = b) (w : World) : Calls Try.prog 52 #[rpV x y z] w fun e w' => e = .returned (.bool b) ∧ Fr Nob w w' := by
  have HB := Lib.hid hb
  clear hb
  unfold rpV rpL
  have st0 := St.start Nob w
  go_enter Try.func52, Try.ntmps52
  go_wp2_with (with_reducible refine wl_stop (o := ⟨some 1, _, _, _, _, _⟩) ?_)
  refine wl_boxS st0 rfl rfl rfl (cw 4 (kN x) ++ (cw 4 (kN y) ++ cw 4 (kN z))) rfl ?_
  intro g1 w1 st1
  clear st0
  go_wp2_with (with_reducible refine wl_stop (o := ⟨some 4, _, _, _, _, _⟩) ?_)
  refine wl_loadA rfl rfl Try.underlying24 rfl (st1.at 0 rfl) (cw 4 (kN z)) (pt_z _ _ _) (by kernel_rfl) ?_
  go_wp2_with fail
  refine (KZero z b HB.out _).mono ?_
  rintro e' w2 ⟨rfl, hf2⟩
  have st2 := st1.keep hf2
  clear st1 hf2
  have hfr := st2.fr
  clear st2
  go_wp2_with fail
  go_ret
  exact ⟨rfl, hfr⟩

set_option maxHeartbeats 16000000 in
set_option maxRecDepth 1000000 in
theorem RNeg_any (x y z r : K) (er : -y = r) (w : World) : Calls Try.prog 18 #[rpV x y z] w fun e w' => e = .returned (rpV x r z) ∧ Fr Nob w w' := by
  have Hr := Lib.hid er
  clear er
  unfold rpV rpL
  have st0 := St.start Nob w
  go_enter Try.func18, Try.ntmps18
  go_wp2_with (with_reducible refine wl_stop (o := ⟨some 1, _, _, _, _, _⟩) ?_)
  refine wl_boxS st0 rfl rfl rfl (cw 4 (kN x) ++ (cw 4 (kN y) ++ cw 4 (kN z))) rfl ?_
  intro g1 w1 st1
  clear st0
  go_wp2_with (with_reducible refine wl_stop (o := ⟨some 2, _, _, _, _, _⟩) ?_)
  refine wl_allocS st1 rfl rfl (z := .agg #[.int .u64 0, .int .u64 0, .int .u64 0, .int .u64 0, .int .u64 0, .int .u64 0, .int .u64 0, .int .u64 0, .int .u64 0, .int .u64 0, .int .u64 0, .int .u64 0]) (by kernel_rfl) (cw 12 0) (by rw [cw_zero]; rfl) ?_
  intro g2 w2 st2
  clear st1
  go_wp2_with fail
  refine wp_region_noPanic ?_
  refine wp_region_lad st2 9 [.w 0, .t 1, .w 3, .t 4, .w 6, .t 7, .c 2, .c 5, .w 8] (.m 9 .nil) (by kernel_rfl) (by kernel_rfl) (fun _ _ _ _ _ h => h) ?_
  clear st2
  refine lad_w (v := ?_) rfl rfl (fun xq wx => ?_) ?_; rotate_left 1; · (go_simp; with_reducible rfl)
  try simp only [Act.put, List.setIfInBounds_toArray, List.set_cons_zero, List.set_cons_succ]
  refine lad_arr rfl rfl rfl (fun _ => rfl) (cw 4 (kN x)) (fun wx hS => St.rangeL hS 0 rfl 0 _ (pt_x _ _ _)) Try.underlying24 rfl (by kernel_rfl) ?_
  try simp only [Act.put, List.setIfInBounds_toArray, List.set_cons_zero, List.set_cons_succ]
  refine lad_w (v := ?_) rfl rfl (fun xq wx => ?_) ?_; rotate_left 1; · (go_simp; with_reducible rfl)
  try simp only [Act.put, List.setIfInBounds_toArray, List.set_cons_zero, List.set_cons_succ]
  refine lad_arr rfl rfl rfl (fun _ => rfl) (cw 4 (kN y)) (fun wx hS => St.rangeL hS 0 rfl 4 _ (pt_y _ _ _)) Try.underlying24 rfl (by kernel_rfl) ?_
  try simp only [Act.put, List.setIfInBounds_toArray, List.set_cons_zero, List.set_cons_succ]
  refine lad_w (v := ?_) rfl rfl (fun xq wx => ?_) ?_; rotate_left 1; · (go_simp; with_reducible rfl)
  try simp only [Act.put, List.setIfInBounds_toArray, List.set_cons_zero, List.set_cons_succ]
  refine lad_arr rfl rfl rfl (fun _ => rfl) (cw 4 (kN z)) (fun wx hS => St.rangeL hS 0 rfl 8 _ (pt_z _ _ _)) Try.underlying24 rfl (by kernel_rfl) ?_
  try simp only [Act.put, List.setIfInBounds_toArray, List.set_cons_zero, List.set_cons_succ]
  refine lad_call rfl rfl rfl Try.call36 (fun w hS hR => RF_any _) (fun _ => rfl) ?_
  try simp only [Act.put, List.setIfInBounds_toArray, List.set_cons_zero, List.set_cons_succ]
  refine lad_call rfl rfl rfl Try.call51 (fun w hS hR => KNeg y r Hr.out _) (fun _ => rfl) ?_
  try simp only [Act.put, List.setIfInBounds_toArray, List.set_cons_zero, List.set_cons_succ]
  refine lad_w rfl rfl (fun _ => exec_build rfl _ (built_rp _ _ _)) ?_
  try simp only [Act.put, List.setIfInBounds_toArray, List.set_cons_zero, List.set_cons_succ]
  refine lad_end fun xq w3 st3 hR => ?_
  try dsimp only
  clear hR xq
  refine plan_m rfl rfl ?_
  refine wp_storeS st3 1 rfl rfl rfl rfl (by simp [cw_len]) (by kernel_rfl) (pt_one _ _ _) ?_
  intro w4 st4
  repeat (first | simp only [List.cons_append] at st4 | simp only [List.nil_append] at st4 | simp only [List.set_cons_succ] at st4 | simp only [List.set_cons_zero] at st4)
  clear st3
  try simp only [Act.put]
  refine plan_end ?_
  refine NoPanic.normal ?_
  have hr := st4.at 1 rfl
  have hfr := st4.fr
  clear st4
  go_wp2_with fail
  exact bodyPost_ret (results_st rfl rfl hr Try.underlying26 rfl (by kernel_rfl)) rfl ⟨rfl, hfr⟩

set_option maxHeartbeats 16000000 in
set_option maxRecDepth 1000000 in
theorem Rdouble_v (x y z : K) (xx d1 d y2 ee e2 e3 t1 t2 x2 t3 t X s1 s2 s3 s4 Y Z : K) (exx : x * x = xx) (ed1 : xx + xx = d1) (ed : d1 + xx = d) (ey2 : y + y = y2) (eee : y2 * z = ee) (ee2 : ee * ee = e2) (ee3 : e2 * ee = e3) (et1 : d * d = t1) (et2 : t1 * z = t2) (ex2 : x + x = x2) (et3 : x2 * e2 = t3) (et : t2 - t3 = t) (eX : ee * t = X) (es1 : x * e2 = s1) (es2 : s1 - t = s2) (es3 : d * s2 = s3) (es4 : y * e3 = s4) (eY : s3 - s4 = Y) (eZ : e3 * z = Z) (w : World) : Calls Try.prog 57 #[rpV x y z] w fun e w' => e = .returned (rpV X Y Z) ∧ Fr Nob w w' := by
  have Hxx := Lib.hid exx
  have Hd1 := Lib.hid ed1
  have Hd := Lib.hid ed
  have Hy2 := Lib.hid ey2
  have Hee := Lib.hid eee
  have He2 := Lib.hid ee2
  have He3 := Lib.hid ee3
  have Ht1 := Lib.hid et1
  have Ht2 := Lib.hid et2
  have Hx2 := Lib.hid ex2
  have Ht3 := Lib.hid et3
  have Ht := Lib.hid et
  have HX := Lib.hid eX
  have Hs1 := Lib.hid es1
  have Hs2 := Lib.hid es2
  have Hs3 := Lib.hid es3
  have Hs4 := Lib.hid es4
  have HY := Lib.hid eY
  have HZ := Lib.hid eZ
  clear exx ed1 ed ey2 eee ee2 ee3 et1 et2 ex2 et3 et eX es1 es2 es3 es4 eY eZ
  unfold rpV rpL
  have st0 := St.start Nob w
  go_enter Try.func57, Try.ntmps57
  go_wp2_with (with_reducible refine wl_stop (o := ⟨some 1, _, _, _, _, _⟩) ?_)
  refine wl_boxS st0 rfl rfl rfl (cw 4 (kN x) ++ (cw 4 (kN y) ++ cw 4 (kN z))) rfl ?_
  intro g1 w1 st1
  clear st0
  go_wp2_with (with_reducible refine wl_stop (o := ⟨some 2, _, _, _, _, _⟩) ?_)
  refine wl_allocS st1 rfl rfl (z := .agg #[.int .u64 0, .int .u64 0, .int .u64 0, .int .u64 0, .int .u64 0, .int .u64 0, .int .u64 0, .int .u64 0, .int .u64 0, .int .u64 0, .int .u64 0, .int .u64 0]) (by kernel_rfl) (cw 12 0) (by rw [cw_zero]; rfl) ?_
  intro g2 w2 st2
  clear st1
  go_wp2_with fail
  refine wp_region_noPanic ?_
  refine wp_region_lad st2 7 [.o 6, .w 1, .t 2, .w 3, .t 4, .c 0, .c 5, .j 6] (.m 7 .nil) (by kernel_rfl) (by kernel_rfl) (fun _ _ _ _ _ h => h) ?_
  clear st2
  refine lad_o rfl rfl rfl z_rn (cw 4 0) rfl ?_
  try simp only [Act.put, List.setIfInBounds_toArray, List.set_cons_zero, List.set_cons_succ]
  refine lad_w (v := ?_) rfl rfl (fun xq wx => ?_) ?_; rotate_left 1; · (go_simp; with_reducible rfl)
  try simp only [Act.put, List.setIfInBounds_toArray, List.set_cons_zero, List.set_cons_succ]
  refine lad_arr rfl rfl rfl (fun _ => rfl) (cw 4 (kN x)) (fun wx hS => St.rangeL hS 0 rfl 0 _ (pt_x _ _ _)) Try.underlying24 rfl (by kernel_rfl) ?_
  try simp only [Act.put, List.setIfInBounds_toArray, List.set_cons_zero, List.set_cons_succ]
  refine lad_w (v := ?_) rfl rfl (fun xq wx => ?_) ?_; rotate_left 1; · (go_simp; with_reducible rfl)
  try simp only [Act.put, List.setIfInBounds_toArray, List.set_cons_zero, List.set_cons_succ]
  refine lad_arr rfl rfl rfl (fun _ => rfl) (cw 4 (kN x)) (fun wx hS => St.rangeL hS 0 rfl 0 _ (pt_x _ _ _)) Try.underlying24 rfl (by kernel_rfl) ?_
  try simp only [Act.put, List.setIfInBounds_toArray, List.set_cons_zero, List.set_cons_succ]
  refine lad_call rfl rfl rfl Try.call36 (fun w hS hR => RF_any _) (fun _ => rfl) ?_
  try simp only [Act.put, List.setIfInBounds_toArray, List.set_cons_zero, List.set_cons_succ]
  refine lad_call rfl rfl rfl Try.call54 (fun w hS hR => KMul x x xx Hxx.out _) (fun _ => rfl) ?_
  try simp only [Act.put, List.setIfInBounds_toArray, List.set_cons_zero, List.set_cons_succ]
  refine lad_j List.mem_cons_self fun g3 => ?_
  simp only [upd, reduceIte]
  try simp only [Nat.reduceEqDiff, reduceIte]
  refine lad_end fun xq w3 st3 hR => ?_
  try dsimp only
  clear hR xq
  refine plan_m rfl rfl ?_
  refine wp_storeS st3 2 rfl rfl rfl rfl (by simp [cw_len]) (by kernel_rfl) (cw_one _ _) ?_
  intro w4 st4
  repeat (first | simp only [List.cons_append] at st4 | simp only [List.nil_append] at st4 | simp only [List.set_cons_succ] at st4 | simp only [List.set_cons_zero] at st4)
  clear st3
  try simp only [Act.put]
  refine plan_end ?_
  refine NoPanic.normal ?_
  go_wp2_with fail
  refine wp_region_noPanic ?_
  refine wp_region_lad st4 8 [.o 7, .t 2, .t 3, .t 5, .c 0, .c 1, .c 4, .c 6, .j 7] (.m 8 .nil) (by kernel_rfl) (by kernel_rfl) (fun _ _ _ _ _ h => h) ?_
  clear st4
  refine lad_o rfl rfl rfl z_rn (cw 4 0) rfl ?_
  try simp only [Act.put, List.setIfInBounds_toArray, List.set_cons_zero, List.set_cons_succ]
  refine lad_arr rfl rfl rfl (fun _ => rfl) (cw 4 (kN xx)) (fun wx hS => St.rangeL hS 2 rfl 0 _ (by rw [List.drop_zero, List.take_of_length_le (Nat.le_refl _)])) Try.underlying24 rfl (by kernel_rfl) ?_
  try simp only [Act.put, List.setIfInBounds_toArray, List.set_cons_zero, List.set_cons_succ]
  refine lad_arr rfl rfl rfl (fun _ => rfl) (cw 4 (kN xx)) (fun wx hS => St.rangeL hS 2 rfl 0 _ (by rw [List.drop_zero, List.take_of_length_le (Nat.le_refl _)])) Try.underlying24 rfl (by kernel_rfl) ?_
  try simp only [Act.put, List.setIfInBounds_toArray, List.set_cons_zero, List.set_cons_succ]
  refine lad_arr rfl rfl rfl (fun _ => rfl) (cw 4 (kN xx)) (fun wx hS => St.rangeL hS 2 rfl 0 _ (by rw [List.drop_zero, List.take_of_length_le (Nat.le_refl _)])) Try.underlying24 rfl (by kernel_rfl) ?_
  try simp only [Act.put, List.setIfInBounds_toArray, List.set_cons_zero, List.set_cons_succ]
  refine lad_call rfl rfl rfl Try.call36 (fun w hS hR => RF_any _) (fun _ => rfl) ?_
  try simp only [Act.put, List.setIfInBounds_toArray, List.set_cons_zero, List.set_cons_succ]
  refine lad_call rfl rfl rfl Try.call36 (fun w hS hR => RF_any _) (fun _ => rfl) ?_
  try simp only [Act.put, List.setIfInBounds_toArray, List.set_cons_zero, List.set_cons_succ]
  refine lad_call rfl rfl rfl Try.call59 (fun w hS hR => KAdd xx xx d1 Hd1.out _) (fun _ => rfl) ?_
  try simp only [Act.put, List.setIfInBounds_toArray, List.set_cons_zero, List.set_cons_succ]
  refine lad_call rfl rfl rfl Try.call59 (fun w hS hR => KAdd d1 xx d Hd.out _) (fun _ => rfl) ?_
  try simp only [Act.put, List.setIfInBounds_toArray, List.set_cons_zero, List.set_cons_succ]
  refine lad_j List.mem_cons_self fun g4 => ?_
  simp only [upd, reduceIte]
  try simp only [Nat.reduceEqDiff, reduceIte]
  refine lad_end fun xq w5 st5 hR => ?_
  try dsimp only
  clear hR xq
  refine plan_m rfl rfl ?_
  refine wp_storeS st5 3 rfl rfl rfl rfl (by simp [cw_len]) (by kernel_rfl) (cw_one _ _) ?_
  intro w6 st6
  repeat (first | simp only [List.cons_append] at st6 | simp only [List.nil_append] at st6 | simp only [List.set_cons_succ] at st6 | simp only [List.set_cons_zero] at st6)
  clear st5
  try simp only [Act.put]
  refine plan_end ?_
  refine NoPanic.normal ?_
  go_wp2_with fail
  refine wp_region_noPanic ?_
  refine wp_region_lad st6 11 [.o 10, .w 2, .t 3, .w 4, .t 5, .w 7, .t 8, .c 0, .c 1, .c 6, .c 9, .j 10] (.m 11 .nil) (by kernel_rfl) (by kernel_rfl) (fun _ _ _ _ _ h => h) ?_
  clear st6
  refine lad_o rfl rfl rfl z_rn (cw 4 0) rfl ?_
  try simp only [Act.put, List.setIfInBounds_toArray, List.set_cons_zero, List.set_cons_succ]
  refine lad_w (v := ?_) rfl rfl (fun xq wx => ?_) ?_; rotate_left 1; · (go_simp; with_reducible rfl)
  try simp only [Act.put, List.setIfInBounds_toArray, List.set_cons_zero, List.set_cons_succ]
  refine lad_arr rfl rfl rfl (fun _ => rfl) (cw 4 (kN y)) (fun wx hS => St.rangeL hS 0 rfl 4 _ (pt_y _ _ _)) Try.underlying24 rfl (by kernel_rfl) ?_
  try simp only [Act.put, List.setIfInBounds_toArray, List.set_cons_zero, List.set_cons_succ]
  refine lad_w (v := ?_) rfl rfl (fun xq wx => ?_) ?_; rotate_left 1; · (go_simp; with_reducible rfl)
  try simp only [Act.put, List.setIfInBounds_toArray, List.set_cons_zero, List.set_cons_succ]
  refine lad_arr rfl rfl rfl (fun _ => rfl) (cw 4 (kN y)) (fun wx hS => St.rangeL hS 0 rfl 4 _ (pt_y _ _ _)) Try.underlying24 rfl (by kernel_rfl) ?_
  try simp only [Act.put, List.setIfInBounds_toArray, List.set_cons_zero, List.set_cons_succ]
  refine lad_w (v := ?_) rfl rfl (fun xq wx => ?_) ?_; rotate_left 1; · (go_simp; with_reducible rfl)
  try simp only [Act.put, List.setIfInBounds_toArray, List.set_cons_zero, List.set_cons_succ]
  refine lad_arr rfl rfl rfl (fun _ => rfl) (cw 4 (kN z)) (fun wx hS => St.rangeL hS 0 rfl 8 _ (pt_z _ _ _)) Try.underlying24 rfl (by kernel_rfl) ?_
  try simp only [Act.put, List.setIfInBounds_toArray, List.set_cons_zero, List.set_cons_succ]
  refine lad_call rfl rfl rfl Try.call36 (fun w hS hR => RF_any _) (fun _ => rfl) ?_
  try simp only [Act.put, List.setIfInBounds_toArray, List.set_cons_zero, List.set_cons_succ]
  refine lad_call rfl rfl rfl Try.call36 (fun w hS hR => RF_any _) (fun _ => rfl) ?_
  try simp only [Act.put, List.setIfInBounds_toArray, List.set_cons_zero, List.set_cons_succ]
  refine lad_call rfl rfl rfl Try.call59 (fun w hS hR => KAdd y y y2 Hy2.out _) (fun _ => rfl) ?_
  try simp only [Act.put, List.setIfInBounds_toArray, List.set_cons_zero, List.set_cons_succ]
  refine lad_call rfl rfl rfl Try.call54 (fun w hS hR => KMul y2 z ee Hee.out _) (fun _ => rfl) ?_
  try simp only [Act.put, List.setIfInBounds_toArray, List.set_cons_zero, List.set_cons_succ]
  refine lad_j List.mem_cons_self fun g5 => ?_
  simp only [upd, reduceIte]
  try simp only [Nat.reduceEqDiff, reduceIte]
  refine lad_end fun xq w7 st7 hR => ?_
  try dsimp only
  clear hR xq
  refine plan_m rfl rfl ?_
  refine wp_storeS st7 4 rfl rfl rfl rfl (by simp [cw_len]) (by kernel_rfl) (cw_one _ _) ?_
  intro w8 st8
  repeat (first | simp only [List.cons_append] at st8 | simp only [List.nil_append] at st8 | simp only [List.set_cons_succ] at st8 | simp only [List.set_cons_zero] at st8)
  clear st7
  try simp only [Act.put]
  refine plan_end ?_
  refine NoPanic.normal ?_
  go_wp2_with fail
  refine wp_region_noPanic ?_
  refine wp_region_lad st8 5 [.o 4, .t 1, .t 2, .c 0, .c 3, .j 4] (.m 5 .nil) (by kernel_rfl) (by kernel_rfl) (fun _ _ _ _ _ h => h) ?_
  clear st8
  refine lad_o rfl rfl rfl z_rn (cw 4 0) rfl ?_
  try simp only [Act.put, List.setIfInBounds_toArray, List.set_cons_zero, List.set_cons_succ]
  refine lad_arr rfl rfl rfl (fun _ => rfl) (cw 4 (kN ee)) (fun wx hS => St.rangeL hS 4 rfl 0 _ (by rw [List.drop_zero, List.take_of_length_le (Nat.le_refl _)])) Try.underlying24 rfl (by kernel_rfl) ?_
  try simp only [Act.put, List.setIfInBounds_toArray, List.set_cons_zero, List.set_cons_succ]
  refine lad_arr rfl rfl rfl (fun _ => rfl) (cw 4 (kN ee)) (fun wx hS => St.rangeL hS 4 rfl 0 _ (by rw [List.drop_zero, List.take_of_length_le (Nat.le_refl _)])) Try.underlying24 rfl (by kernel_rfl) ?_
  try simp only [Act.put, List.setIfInBounds_toArray, List.set_cons_zero, List.set_cons_succ]
  refine lad_call rfl rfl rfl Try.call36 (fun w hS hR => RF_any _) (fun _ => rfl) ?_
  try simp only [Act.put, List.setIfInBounds_toArray, List.set_cons_zero, List.set_cons_succ]
  refine lad_call rfl rfl rfl Try.call54 (fun w hS hR => KMul ee ee e2 He2.out _) (fun _ => rfl) ?_
  try simp only [Act.put, List.setIfInBounds_toArray, List.set_cons_zero, List.set_cons_succ]
  refine lad_j List.mem_cons_self fun g6 => ?_
  simp only [upd, reduceIte]
  try simp only [Nat.reduceEqDiff, reduceIte]
  refine lad_end fun xq w9 st9 hR => ?_
  try dsimp only
  clear hR xq
  refine plan_m rfl rfl ?_
  refine wp_storeS st9 5 rfl rfl rfl rfl (by simp [cw_len]) (by kernel_rfl) (cw_one _ _) ?_
  intro w10 st10
  repeat (first | simp only [List.cons_append] at st10 | simp only [List.nil_append] at st10 | simp only [List.set_cons_succ] at st10 | simp only [List.set_cons_zero] at st10)
  clear st9
  try simp only [Act.put]
  refine plan_end ?_
  refine NoPanic.normal ?_
  go_wp2_with fail
  refine wp_region_noPanic ?_
  refine wp_region_lad st10 5 [.o 4, .t 1, .t 2, .c 0, .c 3, .j 4] (.m 5 .nil) (by kernel_rfl) (by kernel_rfl) (fun _ _ _ _ _ h => h) ?_
  clear st10
  refine lad_o rfl rfl rfl z_rn (cw 4 0) rfl ?_
  try simp only [Act.put, List.setIfInBounds_toArray, List.set_cons_zero, List.set_cons_succ]
  refine lad_arr rfl rfl rfl (fun _ => rfl) (cw 4 (kN e2)) (fun wx hS => St.rangeL hS 5 rfl 0 _ (by rw [List.drop_zero, List.take_of_length_le (Nat.le_refl _)])) Try.underlying24 rfl (by kernel_rfl) ?_
  try simp only [Act.put, List.setIfInBounds_toArray, List.set_cons_zero, List.set_cons_succ]
  refine lad_arr rfl rfl rfl (fun _ => rfl) (cw 4 (kN ee)) (fun wx hS => St.rangeL hS 4 rfl 0 _ (by rw [List.drop_zero, List.take_of_length_le (Nat.le_refl _)])) Try.underlying24 rfl (by kernel_rfl) ?_
  try simp only [Act.put, List.setIfInBounds_toArray, List.set_cons_zero, List.set_cons_succ]
  refine lad_call rfl rfl rfl Try.call36 (fun w hS hR => RF_any _) (fun _ => rfl) ?_
  try simp only [Act.put, List.setIfInBounds_toArray, List.set_cons_zero, List.set_cons_succ]
  refine lad_call rfl rfl rfl Try.call54 (fun w hS hR => KMul e2 ee e3 He3.out _) (fun _ => rfl) ?_
  try simp only [Act.put, List.setIfInBounds_toArray, List.set_cons_zero, List.set_cons_succ]
  refine lad_j List.mem_cons_self fun g7 => ?_
  simp only [upd, reduceIte]
  try simp only [Nat.reduceEqDiff, reduceIte]
  refine lad_end fun xq w11 st11 hR => ?_
  try dsimp only
  clear hR xq
  refine plan_m rfl rfl ?_
  refine wp_storeS st11 6 rfl rfl rfl rfl (by simp [cw_len]) (by kernel_rfl) (cw_one _ _) ?_
  intro w12 st12
  repeat (first | simp only [List.cons_append] at st12 | simp only [List.nil_append] at st12 | simp only [List.set_cons_succ] at st12 | simp only [List.set_cons_zero] at st12)
  clear st11
  try simp only [Act.put]
  refine plan_end ?_
  refine NoPanic.normal ?_
  go_wp2_with fail
  refine wp_region_noPanic ?_
  refine wp_region_lad st12 20 [.o 19, .t 3, .t 4, .w 6, .t 7, .w 11, .t 12, .w 13, .t 14, .t 16, .c 0, .c 1, .c 2, .c 5, .c 8, .c 9, .c 10, .c 15, .c 17, .c 18, .j 19] (.m 20 .nil) (by kernel_rfl) (by kernel_rfl) (fun _ _ _ _ _ h => h) ?_
  clear st12
  refine lad_o rfl rfl rfl z_rn (cw 4 0) rfl ?_
  try simp only [Act.put, List.setIfInBounds_toArray, List.set_cons_zero, List.set_cons_succ]
  refine lad_arr rfl rfl rfl (fun _ => rfl) (cw 4 (kN d)) (fun wx hS => St.rangeL hS 3 rfl 0 _ (by rw [List.drop_zero, List.take_of_length_le (Nat.le_refl _)])) Try.underlying24 rfl (by kernel_rfl) ?_
  try simp only [Act.put, List.setIfInBounds_toArray, List.set_cons_zero, List.set_cons_succ]
  refine lad_arr rfl rfl rfl (fun _ => rfl) (cw 4 (kN d)) (fun wx hS => St.rangeL hS 3 rfl 0 _ (by rw [List.drop_zero, List.take_of_length_le (Nat.le_refl _)])) Try.underlying24 rfl (by kernel_rfl) ?_
  try simp only [Act.put, List.setIfInBounds_toArray, List.set_cons_zero, List.set_cons_succ]
  refine lad_w (v := ?_) rfl rfl (fun xq wx => ?_) ?_; rotate_left 1; · (go_simp; with_reducible rfl)
  try simp only [Act.put, List.setIfInBounds_toArray, List.set_cons_zero, List.set_cons_succ]
  refine lad_arr rfl rfl rfl (fun _ => rfl) (cw 4 (kN z)) (fun wx hS => St.rangeL hS 0 rfl 8 _ (pt_z _ _ _)) Try.underlying24 rfl (by kernel_rfl) ?_
  try simp only [Act.put, List.setIfInBounds_toArray, List.set_cons_zero, List.set_cons_succ]
  refine lad_w (v := ?_) rfl rfl (fun xq wx => ?_) ?_; rotate_left 1; · (go_simp; with_reducible rfl)
  try simp only [Act.put, List.setIfInBounds_toArray, List.set_cons_zero, List.set_cons_succ]
  refine lad_arr rfl rfl rfl (fun _ => rfl) (cw 4 (kN x)) (fun wx hS => St.rangeL hS 0 rfl 0 _ (pt_x _ _ _)) Try.underlying24 rfl (by kernel_rfl) ?_
  try simp only [Act.put, List.setIfInBounds_toArray, List.set_cons_zero, List.set_cons_succ]
  refine lad_w (v := ?_) rfl rfl (fun xq wx => ?_) ?_; rotate_left 1; · (go_simp; with_reducible rfl)
  try simp only [Act.put, List.setIfInBounds_toArray, List.set_cons_zero, List.set_cons_succ]
  refine lad_arr rfl rfl rfl (fun _ => rfl) (cw 4 (kN x)) (fun wx hS => St.rangeL hS 0 rfl 0 _ (pt_x _ _ _)) Try.underlying24 rfl (by kernel_rfl) ?_
  try simp only [Act.put, List.setIfInBounds_toArray, List.set_cons_zero, List.set_cons_succ]
  refine lad_arr rfl rfl rfl (fun _ => rfl) (cw 4 (kN e2)) (fun wx hS => St.rangeL hS 5 rfl 0 _ (by rw [List.drop_zero, List.take_of_length_le (Nat.le_refl _)])) Try.underlying24 rfl (by kernel_rfl) ?_
  try simp only [Act.put, List.setIfInBounds_toArray, List.set_cons_zero, List.set_cons_succ]
  refine lad_call rfl rfl rfl Try.call36 (fun w hS hR => RF_any _) (fun _ => rfl) ?_
  try simp only [Act.put, List.setIfInBounds_toArray, List.set_cons_zero, List.set_cons_succ]
  refine lad_call rfl rfl rfl Try.call36 (fun w hS hR => RF_any _) (fun _ => rfl) ?_
  try simp only [Act.put, List.setIfInBounds_toArray, List.set_cons_zero, List.set_cons_succ]
  refine lad_call rfl rfl rfl Try.call36 (fun w hS hR => RF_any _) (fun _ => rfl) ?_
  try simp only [Act.put, List.setIfInBounds_toArray, List.set_cons_zero, List.set_cons_succ]
  refine lad_call rfl rfl rfl Try.call54 (fun w hS hR => KMul d d t1 Ht1.out _) (fun _ => rfl) ?_
  try simp only [Act.put, List.setIfInBounds_toArray, List.set_cons_zero, List.set_cons_succ]
  refine lad_call rfl rfl rfl Try.call54 (fun w hS hR => KMul t1 z t2 Ht2.out _) (fun _ => rfl) ?_
  try simp only [Act.put, List.setIfInBounds_toArray, List.set_cons_zero, List.set_cons_succ]
  refine lad_call rfl rfl rfl Try.call36 (fun w hS hR => RF_any _) (fun _ => rfl) ?_
  try simp only [Act.put, List.setIfInBounds_toArray, List.set_cons_zero, List.set_cons_succ]
  refine lad_call rfl rfl rfl Try.call36 (fun w hS hR => RF_any _) (fun _ => rfl) ?_
  try simp only [Act.put, List.setIfInBounds_toArray, List.set_cons_zero, List.set_cons_succ]
  refine lad_call rfl rfl rfl Try.call59 (fun w hS hR => KAdd x x x2 Hx2.out _) (fun _ => rfl) ?_
  try simp only [Act.put, List.setIfInBounds_toArray, List.set_cons_zero, List.set_cons_succ]
  refine lad_call rfl rfl rfl Try.call54 (fun w hS hR => KMul x2 e2 t3 Ht3.out _) (fun _ => rfl) ?_
  try simp only [Act.put, List.setIfInBounds_toArray, List.set_cons_zero, List.set_cons_succ]
  refine lad_call rfl rfl rfl Try.call58 (fun w hS hR => KSub t2 t3 t Ht.out _) (fun _ => rfl) ?_
  try simp only [Act.put, List.setIfInBounds_toArray, List.set_cons_zero, List.set_cons_succ]
  refine lad_j List.mem_cons_self fun g8 => ?_
  simp only [upd, reduceIte]
  try simp only [Nat.reduceEqDiff, reduceIte]
  refine lad_end fun xq w13 st13 hR => ?_
  try dsimp only
  clear hR xq
  refine plan_m rfl rfl ?_
  refine wp_storeS st13 7 rfl rfl rfl rfl (by simp [cw_len]) (by kernel_rfl) (cw_one _ _) ?_
  intro w14 st14
  repeat (first | simp only [List.cons_append] at st14 | simp only [List.nil_append] at st14 | simp only [List.set_cons_succ] at st14 | simp only [List.set_cons_zero] at st14)
  clear st13
  try simp only [Act.put]
  refine plan_end ?_
  refine NoPanic.normal ?_
  go_wp2_with fail
  refine wp_region_noPanic ?_
  refine wp_region_lad st14 5 [.o 4, .t 1, .t 2, .c 0, .c 3, .j 4] (.m 5 .nil) (by kernel_rfl) (by kernel_rfl) (fun _ _ _ _ _ h => h) ?_
  clear st14
  refine lad_o rfl rfl rfl z_rn (cw 4 0) rfl ?_
  try simp only [Act.put, List.setIfInBounds_toArray, List.set_cons_zero, List.set_cons_succ]
  refine lad_arr rfl rfl rfl (fun _ => rfl) (cw 4 (kN ee)) (fun wx hS => St.rangeL hS 4 rfl 0 _ (by rw [List.drop_zero, List.take_of_length_le (Nat.le_refl _)])) Try.underlying24 rfl (by kernel_rfl) ?_
  try simp only [Act.put, List.setIfInBounds_toArray, List.set_cons_zero, List.set_cons_succ]
  refine lad_arr rfl rfl rfl (fun _ => rfl) (cw 4 (kN t)) (fun wx hS => St.rangeL hS 7 rfl 0 _ (by rw [List.drop_zero, List.take_of_length_le (Nat.le_refl _)])) Try.underlying24 rfl (by kernel_rfl) ?_
  try simp only [Act.put, List.setIfInBounds_toArray, List.set_cons_zero, List.set_cons_succ]
  refine lad_call rfl rfl rfl Try.call36 (fun w hS hR => RF_any _) (fun _ => rfl) ?_
  try simp only [Act.put, List.setIfInBounds_toArray, List.set_cons_zero, List.set_cons_succ]
  refine lad_call rfl rfl rfl Try.call54 (fun w hS hR => KMul ee t X HX.out _) (fun _ => rfl) ?_
  try simp only [Act.put, List.setIfInBounds_toArray, List.set_cons_zero, List.set_cons_succ]
  refine lad_j List.mem_cons_self fun g9 => ?_
  simp only [upd, reduceIte]
  try simp only [Nat.reduceEqDiff, reduceIte]
  refine lad_end fun xq w15 st15 hR => ?_
  try dsimp only
  clear hR xq
  refine plan_m rfl rfl ?_
  refine wp_storeS st15 8 rfl rfl rfl rfl (by simp [cw_len]) (by kernel_rfl) (cw_one _ _) ?_
  intro w16 st16
  repeat (first | simp only [List.cons_append] at st16 | simp only [List.nil_append] at st16 | simp only [List.set_cons_succ] at st16 | simp only [List.set_cons_zero] at st16)
  clear st15
  try simp only [Act.put]
  refine plan_end ?_
  refine NoPanic.normal ?_
  go_wp2_with fail
  refine wp_region_noPanic ?_
  refine wp_region_lad st16 19 [.o 18, .t 2, .w 5, .t 6, .t 7, .t 9, .w 13, .t 14, .t 15, .c 0, .c 1, .c 3, .c 4, .c 8, .c 10, .c 11, .c 12, .c 16, .c 17, .j 18] (.m 19 .nil) (by kernel_rfl) (by kernel_rfl) (fun _ _ _ _ _ h => h) ?_
  clear st16
  refine lad_o rfl rfl rfl z_rn (cw 4 0) rfl ?_
  try simp only [Act.put, List.setIfInBounds_toArray, List.set_cons_zero, List.set_cons_succ]
  refine lad_arr rfl rfl rfl (fun _ => rfl) (cw 4 (kN d)) (fun wx hS => St.rangeL hS 3 rfl 0 _ (by rw [List.drop_zero, List.take_of_length_le (Nat.le_refl _)])) Try.underlying24 rfl (by kernel_rfl) ?_
  try simp only [Act.put, List.setIfInBounds_toArray, List.set_cons_zero, List.set_cons_succ]
  refine lad_w (v := ?_) rfl rfl (fun xq wx => ?_) ?_; rotate_left 1; · (go_simp; with_reducible rfl)
  try simp only [Act.put, List.setIfInBounds_toArray, List.set_cons_zero, List.set_cons_succ]
  refine lad_arr rfl rfl rfl (fun _ => rfl) (cw 4 (kN x)) (fun wx hS => St.rangeL hS 0 rfl 0 _ (pt_x _ _ _)) Try.underlying24 rfl (by kernel_rfl) ?_
  try simp only [Act.put, List.setIfInBounds_toArray, List.set_cons_zero, List.set_cons_succ]
  refine lad_arr rfl rfl rfl (fun _ => rfl) (cw 4 (kN e2)) (fun wx hS => St.rangeL hS 5 rfl 0 _ (by rw [List.drop_zero, List.take_of_length_le (Nat.le_refl _)])) Try.underlying24 rfl (by kernel_rfl) ?_
  try simp only [Act.put, List.setIfInBounds_toArray, List.set_cons_zero, List.set_cons_succ]
  refine lad_arr rfl rfl rfl (fun _ => rfl) (cw 4 (kN t)) (fun wx hS => St.rangeL hS 7 rfl 0 _ (by rw [List.drop_zero, List.take_of_length_le (Nat.le_refl _)])) Try.underlying24 rfl (by kernel_rfl) ?_
  try simp only [Act.put, List.setIfInBounds_toArray, List.set_cons_zero, List.set_cons_succ]
  refine lad_w (v := ?_) rfl rfl (fun xq wx => ?_) ?_; rotate_left 1; · (go_simp; with_reducible rfl)
  try simp only [Act.put, List.setIfInBounds_toArray, List.set_cons_zero, List.set_cons_succ]
  refine lad_arr rfl rfl rfl (fun _ => rfl) (cw 4 (kN y)) (fun wx hS => St.rangeL hS 0 rfl 4 _ (pt_y _ _ _)) Try.underlying24 rfl (by kernel_rfl) ?_
  try simp only [Act.put, List.setIfInBounds_toArray, List.set_cons_zero, List.set_cons_succ]
  refine lad_arr rfl rfl rfl (fun _ => rfl) (cw 4 (kN e3)) (fun wx hS => St.rangeL hS 6 rfl 0 _ (by rw [List.drop_zero, List.take_of_length_le (Nat.le_refl _)])) Try.underlying24 rfl (by kernel_rfl) ?_
  try simp only [Act.put, List.setIfInBounds_toArray, List.set_cons_zero, List.set_cons_succ]
  refine lad_call rfl rfl rfl Try.call36 (fun w hS hR => RF_any _) (fun _ => rfl) ?_
  try simp only [Act.put, List.setIfInBounds_toArray, List.set_cons_zero, List.set_cons_succ]
  refine lad_call rfl rfl rfl Try.call36 (fun w hS hR => RF_any _) (fun _ => rfl) ?_
  try simp only [Act.put, List.setIfInBounds_toArray, List.set_cons_zero, List.set_cons_succ]
  refine lad_call rfl rfl rfl Try.call36 (fun w hS hR => RF_any _) (fun _ => rfl) ?_
  try simp only [Act.put, List.setIfInBounds_toArray, List.set_cons_zero, List.set_cons_succ]
  refine lad_call rfl rfl rfl Try.call36 (fun w hS hR => RF_any _) (fun _ => rfl) ?_
  try simp only [Act.put, List.setIfInBounds_toArray, List.set_cons_zero, List.set_cons_succ]
  refine lad_call rfl rfl rfl Try.call54 (fun w hS hR => KMul x e2 s1 Hs1.out _) (fun _ => rfl) ?_
  try simp only [Act.put, List.setIfInBounds_toArray, List.set_cons_zero, List.set_cons_succ]
  refine lad_call rfl rfl rfl Try.call58 (fun w hS hR => KSub s1 t s2 Hs2.out _) (fun _ => rfl) ?_
  try simp only [Act.put, List.setIfInBounds_toArray, List.set_cons_zero, List.set_cons_succ]
  refine lad_call rfl rfl rfl Try.call54 (fun w hS hR => KMul d s2 s3 Hs3.out _) (fun _ => rfl) ?_
  try simp only [Act.put, List.setIfInBounds_toArray, List.set_cons_zero, List.set_cons_succ]
  refine lad_call rfl rfl rfl Try.call36 (fun w hS hR => RF_any _) (fun _ => rfl) ?_
  try simp only [Act.put, List.setIfInBounds_toArray, List.set_cons_zero, List.set_cons_succ]
  refine lad_call rfl rfl rfl Try.call54 (fun w hS hR => KMul y e3 s4 Hs4.out _) (fun _ => rfl) ?_
  try simp only [Act.put, List.setIfInBounds_toArray, List.set_cons_zero, List.set_cons_succ]
  refine lad_call rfl rfl rfl Try.call58 (fun w hS hR => KSub s3 s4 Y HY.out _) (fun _ => rfl) ?_
  try simp only [Act.put, List.setIfInBounds_toArray, List.set_cons_zero, List.set_cons_succ]
  refine lad_j List.mem_cons_self fun g10 => ?_
  simp only [upd, reduceIte]
  try simp only [Nat.reduceEqDiff, reduceIte]
  refine lad_end fun xq w17 st17 hR => ?_
  try dsimp only
  clear hR xq
  refine plan_m rfl rfl ?_
  refine wp_storeS st17 9 rfl rfl rfl rfl (by simp [cw_len]) (by kernel_rfl) (cw_one _ _) ?_
  intro w18 st18
  repeat (first | simp only [List.cons_append] at st18 | simp only [List.nil_append] at st18 | simp only [List.set_cons_succ] at st18 | simp only [List.set_cons_zero] at st18)
  clear st17
  try simp only [Act.put]
  refine plan_end ?_
  refine NoPanic.normal ?_
  go_wp2_with fail
  refine wp_region_noPanic ?_
  refine wp_region_lad st18 8 [.t 0, .t 1, .t 3, .w 4, .t 5, .c 2, .c 6, .w 7] (.m 8 .nil) (by kernel_rfl) (by kernel_rfl) (fun _ _ _ _ _ h => h) ?_
  clear st18
  refine lad_arr rfl rfl rfl (fun _ => rfl) (cw 4 (kN X)) (fun wx hS => St.rangeL hS 8 rfl 0 _ (by rw [List.drop_zero, List.take_of_length_le (Nat.le_refl _)])) Try.underlying24 rfl (by kernel_rfl) ?_
  try simp only [Act.put, List.setIfInBounds_toArray, List.set_cons_zero, List.set_cons_succ]
  refine lad_arr rfl rfl rfl (fun _ => rfl) (cw 4 (kN Y)) (fun wx hS => St.rangeL hS 9 rfl 0 _ (by rw [List.drop_zero, List.take_of_length_le (Nat.le_refl _)])) Try.underlying24 rfl (by kernel_rfl) ?_
  try simp only [Act.put, List.setIfInBounds_toArray, List.set_cons_zero, List.set_cons_succ]
  refine lad_arr rfl rfl rfl (fun _ => rfl) (cw 4 (kN e3)) (fun wx hS => St.rangeL hS 6 rfl 0 _ (by rw [List.drop_zero, List.take_of_length_le (Nat.le_refl _)])) Try.underlying24 rfl (by kernel_rfl) ?_
  try simp only [Act.put, List.setIfInBounds_toArray, List.set_cons_zero, List.set_cons_succ]
  refine lad_w (v := ?_) rfl rfl (fun xq wx => ?_) ?_; rotate_left 1; · (go_simp; with_reducible rfl)
  try simp only [Act.put, List.setIfInBounds_toArray, List.set_cons_zero, List.set_cons_succ]
  refine lad_arr rfl rfl rfl (fun _ => rfl) (cw 4 (kN z)) (fun wx hS => St.rangeL hS 0 rfl 8 _ (pt_z _ _ _)) Try.underlying24 rfl (by kernel_rfl) ?_
  try simp only [Act.put, List.setIfInBounds_toArray, List.set_cons_zero, List.set_cons_succ]
  refine lad_call rfl rfl rfl Try.call36 (fun w hS hR => RF_any _) (fun _ => rfl) ?_
  try simp only [Act.put, List.setIfInBounds_toArray, List.set_cons_zero, List.set_cons_succ]
  refine lad_call rfl rfl rfl Try.call54 (fun w hS hR => KMul e3 z Z HZ.out _) (fun _ => rfl) ?_
  try simp only [Act.put, List.setIfInBounds_toArray, List.set_cons_zero, List.set_cons_succ]
  refine lad_w rfl rfl (fun _ => exec_build rfl _ (built_rp _ _ _)) ?_
  try simp only [Act.put, List.setIfInBounds_toArray, List.set_cons_zero, List.set_cons_succ]
  refine lad_end fun xq w19 st19 hR => ?_
  try dsimp only
  clear hR xq
  refine plan_m rfl rfl ?_
  refine wp_storeS st19 1 rfl rfl rfl rfl (by simp [cw_len]) (by kernel_rfl) (pt_one _ _ _) ?_
  intro w20 st20
  repeat (first | simp only [List.cons_append] at st20 | simp only [List.nil_append] at st20 | simp only [List.set_cons_succ] at st20 | simp only [List.set_cons_zero] at st20)
  clear st19
  try simp only [Act.put]
  refine plan_end ?_
  refine NoPanic.normal ?_
  have hr := st20.at 1 rfl
  have hfr := st20.fr
  clear st20
  go_wp2_with fail
  exact bodyPost_ret (results_st rfl rfl hr Try.underlying26 rfl (by kernel_rfl)) rfl ⟨rfl, hfr⟩

set_option maxHeartbeats 16000000 in
set_option maxRecDepth 1000000 in
theorem RPlus_none1 (x1 y1 z1 x2 y2 z2 : K) (hb1 : decide (z1 = 0) = true) (w : World) : Calls Try.prog 20 #[rpV x1 y1 z1, rpV x2 y2 z2] w fun e w' => e = .returned (rpV x2 y2 z2) ∧ Fr Nob w w' := by
  have HB1 := Lib.hid hb1
  clear hb1
  unfold rpV rpL
  have st0 := St.start Nob w
  go_enter Try.func20, Try.ntmps20
  go_wp2_with (with_reducible refine wl_stop (o := ⟨some 2, _, _, _, _, _⟩) ?_)
  refine wl_boxS st0 rfl rfl rfl (cw 4 (kN x1) ++ (cw 4 (kN y1) ++ cw 4 (kN z1))) rfl ?_
  intro g2 w1 st1
  clear st0
  go_wp2_with (with_reducible refine wl_stop (o := ⟨some 3, _, _, _, _, _⟩) ?_)
  refine wl_boxS st1 rfl rfl rfl (cw 4 (kN x2) ++ (cw 4 (kN y2) ++ cw 4 (kN z2))) rfl ?_
  intro g3 w2 st2
  clear st1
  go_wp2_with (with_reducible refine wl_stop (o := ⟨some 4, _, _, _, _, _⟩) ?_)
  refine wl_allocS st2 rfl rfl (z := .agg #[.int .u64 0, .int .u64 0, .int .u64 0, .int .u64 0, .int .u64 0, .int .u64 0, .int .u64 0, .int .u64 0, .int .u64 0, .int .u64 0, .int .u64 0, .int .u64 0]) (by kernel_rfl) (cw 12 0) (by rw [cw_zero]; rfl) ?_
  intro g4 w3 st3
  clear st2
  go_wp2_with (with_reducible refine wl_stop (o := ⟨some 16, _, _, _, _, _⟩) ?_)
  refine wl_loadSt st3 0 rfl rfl rfl Try.underlying26 rfl rfl (by kernel_rfl) ?_
  go_wp2_with fail
  refine (RIs_any x1 y1 z1 true HB1.out _).mono ?_
  rintro e' w4 ⟨rfl, hf4⟩
  have st4 := st3.keep hf4
  clear st3 hf4
  go_wp2_with (with_reducible refine wl_stop (o := ⟨some 19, _, _, _, _, _⟩) ?_)
  refine wl_loadSt st4 1 rfl rfl rfl Try.underlying26 rfl rfl (by kernel_rfl) ?_
  go_wp2_with (with_reducible refine wl_stop (o := ⟨none, _, _, _, _, _⟩) ?_)
  refine wl_storeS st4 2 rfl rfl rfl rfl rfl (by simp [cw_len]) (by kernel_rfl) (pt_one _ _ _) ?_
  intro w5 st5
  clear st4
  have hr := st5.at 2 rfl
  have hfr := st5.fr
  clear st5
  go_wp2_with fail
  exact bodyPost_ret (results_st rfl rfl hr Try.underlying26 rfl (by kernel_rfl)) rfl ⟨rfl, hfr⟩

set_option maxHeartbeats 16000000 in
set_option maxRecDepth 1000000 in
theorem RPlus_none2 (x1 y1 z1 x2 y2 z2 : K) (hb1 : decide (z1 = 0) = false) (hb2 : decide (z2 = 0) = true) (w : World) : Calls Try.prog 20 #[rpV x1 y1 z1, rpV x2 y2 z2] w fun e w' => e = .returned (rpV x1 y1 z1) ∧ Fr Nob w w' := by
  have HB1 := Lib.hid hb1
  have HB2 := Lib.hid hb2
  clear hb1 hb2
  unfold rpV rpL
  have st0 := St.start Nob w
  go_enter Try.func20, Try.ntmps20
  go_wp2_with (with_reducible refine wl_stop (o := ⟨some 2, _, _, _, _, _⟩) ?_)
  refine wl_boxS st0 rfl rfl rfl (cw 4 (kN x1) ++ (cw 4 (kN y1) ++ cw 4 (kN z1))) rfl ?_
  intro g2 w1 st1
  clear st0
  go_wp2_with (with_reducible refine wl_stop (o := ⟨some 3, _, _, _, _, _⟩) ?_)
  refine wl_boxS st1 rfl rfl rfl (cw 4 (kN x2) ++ (cw 4 (kN y2) ++ cw 4 (kN z2))) rfl ?_
  intro g3 w2 st2
  clear st1
  go_wp2_with (with_reducible refine wl_stop (o := ⟨some 4, _, _, _, _, _⟩) ?_)
  refine wl_allocS st2 rfl rfl (z := .agg #[.int .u64 0, .int .u64 0, .int .u64 0, .int .u64 0, .int .u64 0, .int .u64 0, .int .u64 0, .int .u64 0, .int .u64 0, .int .u64 0, .int .u64 0, .int .u64 0]) (by kernel_rfl) (cw 12 0) (by rw [cw_zero]; rfl) ?_
  intro g4 w3 st3
  clear st2
  go_wp2_with (with_reducible refine wl_stop (o := ⟨some 16, _, _, _, _, _⟩) ?_)
  refine wl_loadSt st3 0 rfl rfl rfl Try.underlying26 rfl rfl (by kernel_rfl) ?_
  go_wp2_with fail
  refine (RIs_any x1 y1 z1 false HB1.out _).mono ?_
  rintro e' w4 ⟨rfl, hf4⟩
  have st4 := st3.keep hf4
  clear st3 hf4
  go_wp2_with (with_reducible refine wl_stop (o := ⟨some 20, _, _, _, _, _⟩) ?_)
  refine wl_loadSt st4 1 rfl rfl rfl Try.underlying26 rfl rfl (by kernel_rfl) ?_
  go_wp2_with fail
  refine (RIs_any x2 y2 z2 true HB2.out _).mono ?_
  rintro e' w5 ⟨rfl, hf5⟩
  have st5 := st4.keep hf5
  clear st4 hf5
  go_wp2_with (with_reducible refine wl_stop (o := ⟨some 23, _, _, _, _, _⟩) ?_)
  refine wl_loadSt st5 0 rfl rfl rfl Try.underlying26 rfl rfl (by kernel_rfl) ?_
  go_wp2_with (with_reducible refine wl_stop (o := ⟨none, _, _, _, _, _⟩) ?_)
  refine wl_storeS st5 2 rfl rfl rfl rfl rfl (by simp [cw_len]) (by kernel_rfl) (pt_one _ _ _) ?_
  intro w6 st6
  clear st5
  have hr := st6.at 2 rfl
  have hfr := st6.fr
  clear st6
  go_wp2_with fail
  exact bodyPost_ret (results_st rfl rfl hr Try.underlying26 rfl (by kernel_rfl)) rfl ⟨rfl, hfr⟩

theorem wl_met {P : Program} {ops : Array Oper} {Q : Exit → Act → World → Prop} {a : Act} {w : World} {rest : List Oper} {o : Oper} (hw : Region.wanted o (yielded ops a.tmps) = true) (h : wpList P ops Q ({o with guard := none} :: rest) a w) : wpList P ops Q (o :: rest) a w := by
  unfold wpList at h ⊢
  rw [if_pos hw]
  rw [if_pos (by simp [Region.wanted])] at h
  exact h
theorem exec_neqK (x y : K) {o : Oper} {a : Act} {p q : Operand} {T : TypeId} (ho : o.op = .binOp .neq 24 p q T) (hp : a.eval p = i4 (kN x)) (hq : a.eval q = i4 (kN y)) {b : Bool} (hb : decide (x = y) = b) (w : World) :
    (execOp a.eval o).run Try.prog w = .ok (.value (.bool !b)) w :=
  exec_binop ho hp hq w (run_eqGuard_agg w .neq 24 p q _ _ Try.eqGuardType24) (by
    show (do pure (Value.bool (!(← Op.equal 24 (.agg (cw 4 (kN x)).toArray) (.agg (cw 4 (kN y)).toArray))))).run Try.prog w = _
    simp only [Sem.run_bind, run_eqK x y hb w, Result.andThen_ok]
    rfl)
theorem RNone_u (w : World) : Calls Try.prog 35 #[] w fun e w' => e = .returned (.agg (cw 4 (kN 0) ++ (cw 4 (kN 1) ++ cw 4 (kN 0))).toArray) ∧ Fr Nob w w' := RNone_any w

set_option maxHeartbeats 16000000 in
set_option maxRecDepth 1000000 in
theorem RPlus_opp (x1 y1 z1 x2 y2 z2 : K) (hb1 : decide (z1 = 0) = false) (hb2 : decide (z2 = 0) = false) (u v u2 v2 : K) (eu : y2 * z1 = u) (ev : x2 * z1 = v) (eu2 : y1 * z2 = u2) (ev2 : x1 * z2 = v2) (hv : decide (v = v2) = true) (hu : decide (u = u2) = false) (w : World) : Calls Try.prog 20 #[rpV x1 y1 z1, rpV x2 y2 z2] w fun e w' => e = .returned (rpV 0 1 0) ∧ Fr Nob w w' := by
  have HB1 := Lib.hid hb1
  have HB2 := Lib.hid hb2
  clear hb1 hb2
  have Hu := Lib.hid eu
  have Hv := Lib.hid ev
  have Hu2 := Lib.hid eu2
  have Hv2 := Lib.hid ev2
  clear eu ev eu2 ev2
  have HV := Lib.hid hv
  clear hv
  have HU := Lib.hid hu
  clear hu
  unfold rpV rpL
  have st0 := St.start Nob w
  go_enter Try.func20, Try.ntmps20
  go_wp2_with (with_reducible refine wl_stop (o := ⟨some 2, _, _, _, _, _⟩) ?_)
  refine wl_boxS st0 rfl rfl rfl (cw 4 (kN x1) ++ (cw 4 (kN y1) ++ cw 4 (kN z1))) rfl ?_
  intro g2 w1 st1
  clear st0
  go_wp2_with (with_reducible refine wl_stop (o := ⟨some 3, _, _, _, _, _⟩) ?_)
  refine wl_boxS st1 rfl rfl rfl (cw 4 (kN x2) ++ (cw 4 (kN y2) ++ cw 4 (kN z2))) rfl ?_
  intro g3 w2 st2
  clear st1
  go_wp2_with (with_reducible refine wl_stop (o := ⟨some 4, _, _, _, _, _⟩) ?_)
  refine wl_allocS st2 rfl rfl (z := .agg #[.int .u64 0, .int .u64 0, .int .u64 0, .int .u64 0, .int .u64 0, .int .u64 0, .int .u64 0, .int .u64 0, .int .u64 0, .int .u64 0, .int .u64 0, .int .u64 0]) (by kernel_rfl) (cw 12 0) (by rw [cw_zero]; rfl) ?_
  intro g4 w3 st3
  clear st2
  go_wp2_with (with_reducible refine wl_stop (o := ⟨some 16, _, _, _, _, _⟩) ?_)
  refine wl_loadSt st3 0 rfl rfl rfl Try.underlying26 rfl rfl (by kernel_rfl) ?_
  go_wp2_with fail
  refine (RIs_any x1 y1 z1 false HB1.out _).mono ?_
  rintro e' w4 ⟨rfl, hf4⟩
  have st4 := st3.keep hf4
  clear st3 hf4
  go_wp2_with (with_reducible refine wl_stop (o := ⟨some 20, _, _, _, _, _⟩) ?_)
  refine wl_loadSt st4 1 rfl rfl rfl Try.underlying26 rfl rfl (by kernel_rfl) ?_
  go_wp2_with fail
  refine (RIs_any x2 y2 z2 false HB2.out _).mono ?_
  rintro e' w5 ⟨rfl, hf5⟩
  have st5 := st4.keep hf5
  clear st4 hf5
  go_wp2_with fail
  refine wp_region_noPanic ?_
  refine wp_region_lad st5 7 [.o 6, .w 1, .t 2, .w 3, .t 4, .c 0, .c 5, .j 6] (.m 7 .nil) (by kernel_rfl) (by kernel_rfl) (fun _ _ _ _ _ h => h) ?_
  clear st5
  refine lad_o rfl rfl rfl z_rn (cw 4 0) rfl ?_
  try simp only [Act.put, List.setIfInBounds_toArray, List.set_cons_zero, List.set_cons_succ]
  refine lad_w (v := ?_) rfl rfl (fun xq wx => ?_) ?_; rotate_left 1; · (go_simp; with_reducible rfl)
  try simp only [Act.put, List.setIfInBounds_toArray, List.set_cons_zero, List.set_cons_succ]
  refine lad_arr rfl rfl rfl (fun _ => rfl) (cw 4 (kN y2)) (fun wx hS => St.rangeL hS 1 rfl 4 _ (pt_y _ _ _)) Try.underlying24 rfl (by kernel_rfl) ?_
  try simp only [Act.put, List.setIfInBounds_toArray, List.set_cons_zero, List.set_cons_succ]
  refine lad_w (v := ?_) rfl rfl (fun xq wx => ?_) ?_; rotate_left 1; · (go_simp; with_reducible rfl)
  try simp only [Act.put, List.setIfInBounds_toArray, List.set_cons_zero, List.set_cons_succ]
  refine lad_arr rfl rfl rfl (fun _ => rfl) (cw 4 (kN z1)) (fun wx hS => St.rangeL hS 0 rfl 8 _ (pt_z _ _ _)) Try.underlying24 rfl (by kernel_rfl) ?_
  try simp only [Act.put, List.setIfInBounds_toArray, List.set_cons_zero, List.set_cons_succ]
  refine lad_call rfl rfl rfl Try.call36 (fun w hS hR => RF_any _) (fun _ => rfl) ?_
  try simp only [Act.put, List.setIfInBounds_toArray, List.set_cons_zero, List.set_cons_succ]
  refine lad_call rfl rfl rfl Try.call54 (fun w hS hR => KMul y2 z1 u Hu.out _) (fun _ => rfl) ?_
  try simp only [Act.put, List.setIfInBounds_toArray, List.set_cons_zero, List.set_cons_succ]
  refine lad_j List.mem_cons_self fun g6 => ?_
  simp only [upd, reduceIte]
  try simp only [Nat.reduceEqDiff, reduceIte]
  refine lad_end fun xq w6 st6 hR => ?_
  try dsimp only
  clear hR xq
  refine plan_m rfl rfl ?_
  refine wp_storeS st6 3 rfl rfl rfl rfl (by simp [cw_len]) (by kernel_rfl) (cw_one _ _) ?_
  intro w7 st7
  repeat (first | simp only [List.cons_append] at st7 | simp only [List.nil_append] at st7 | simp only [List.set_cons_succ] at st7 | simp only [List.set_cons_zero] at st7)
  clear st6
  try simp only [Act.put]
  refine plan_end ?_
  refine NoPanic.normal ?_
  go_wp2_with fail
  refine wp_region_noPanic ?_
  refine wp_region_lad st7 7 [.o 6, .w 1, .t 2, .w 3, .t 4, .c 0, .c 5, .j 6] (.m 7 .nil) (by kernel_rfl) (by kernel_rfl) (fun _ _ _ _ _ h => h) ?_
  clear st7
  refine lad_o rfl rfl rfl z_rn (cw 4 0) rfl ?_
  try simp only [Act.put, List.setIfInBounds_toArray, List.set_cons_zero, List.set_cons_succ]
  refine lad_w (v := ?_) rfl rfl (fun xq wx => ?_) ?_; rotate_left 1; · (go_simp; with_reducible rfl)
  try simp only [Act.put, List.setIfInBounds_toArray, List.set_cons_zero, List.set_cons_succ]
  refine lad_arr rfl rfl rfl (fun _ => rfl) (cw 4 (kN x2)) (fun wx hS => St.rangeL hS 1 rfl 0 _ (pt_x _ _ _)) Try.underlying24 rfl (by kernel_rfl) ?_
  try simp only [Act.put, List.setIfInBounds_toArray, List.set_cons_zero, List.set_cons_succ]
  refine lad_w (v := ?_) rfl rfl (fun xq wx => ?_) ?_; rotate_left 1; · (go_simp; with_reducible rfl)
  try simp only [Act.put, List.setIfInBounds_toArray, List.set_cons_zero, List.set_cons_succ]
  refine lad_arr rfl rfl rfl (fun _ => rfl) (cw 4 (kN z1)) (fun wx hS => St.rangeL hS 0 rfl 8 _ (pt_z _ _ _)) Try.underlying24 rfl (by kernel_rfl) ?_
  try simp only [Act.put, List.setIfInBounds_toArray, List.set_cons_zero, List.set_cons_succ]
  refine lad_call rfl rfl rfl Try.call36 (fun w hS hR => RF_any _) (fun _ => rfl) ?_
  try simp only [Act.put, List.setIfInBounds_toArray, List.set_cons_zero, List.set_cons_succ]
  refine lad_call rfl rfl rfl Try.call54 (fun w hS hR => KMul x2 z1 v Hv.out _) (fun _ => rfl) ?_
  try simp only [Act.put, List.setIfInBounds_toArray, List.set_cons_zero, List.set_cons_succ]
  refine lad_j List.mem_cons_self fun g7 => ?_
  simp only [upd, reduceIte]
  try simp only [Nat.reduceEqDiff, reduceIte]
  refine lad_end fun xq w8 st8 hR => ?_
  try dsimp only
  clear hR xq
  refine plan_m rfl rfl ?_
  refine wp_storeS st8 4 rfl rfl rfl rfl (by simp [cw_len]) (by kernel_rfl) (cw_one _ _) ?_
  intro w9 st9
  repeat (first | simp only [List.cons_append] at st9 | simp only [List.nil_append] at st9 | simp only [List.set_cons_succ] at st9 | simp only [List.set_cons_zero] at st9)
  clear st8
  try simp only [Act.put]
  refine plan_end ?_
  refine NoPanic.normal ?_
  go_wp2_with fail
  refine wp_region_noPanic ?_
  refine wp_region_lad st9 7 [.o 6, .w 1, .t 2, .w 3, .t 4, .c 0, .c 5, .j 6] (.m 7 .nil) (by kernel_rfl) (by kernel_rfl) (fun _ _ _ _ _ h => h) ?_
  clear st9
  refine lad_o rfl rfl rfl z_rn (cw 4 0) rfl ?_
  try simp only [Act.put, List.setIfInBounds_toArray, List.set_cons_zero, List.set_cons_succ]
  refine lad_w (v := ?_) rfl rfl (fun xq wx => ?_) ?_; rotate_left 1; · (go_simp; with_reducible rfl)
  try simp only [Act.put, List.setIfInBounds_toArray, List.set_cons_zero, List.set_cons_succ]
  refine lad_arr rfl rfl rfl (fun _ => rfl) (cw 4 (kN y1)) (fun wx hS => St.rangeL hS 0 rfl 4 _ (pt_y _ _ _)) Try.underlying24 rfl (by kernel_rfl) ?_
  try simp only [Act.put, List.setIfInBounds_toArray, List.set_cons_zero, List.set_cons_succ]
  refine lad_w (v := ?_) rfl rfl (fun xq wx => ?_) ?_; rotate_left 1; · (go_simp; with_reducible rfl)
  try simp only [Act.put, List.setIfInBounds_toArray, List.set_cons_zero, List.set_cons_succ]
  refine lad_arr rfl rfl rfl (fun _ => rfl) (cw 4 (kN z2)) (fun wx hS => St.rangeL hS 1 rfl 8 _ (pt_z _ _ _)) Try.underlying24 rfl (by kernel_rfl) ?_
  try simp only [Act.put, List.setIfInBounds_toArray, List.set_cons_zero, List.set_cons_succ]
  refine lad_call rfl rfl rfl Try.call36 (fun w hS hR => RF_any _) (fun _ => rfl) ?_
  try simp only [Act.put, List.setIfInBounds_toArray, List.set_cons_zero, List.set_cons_succ]
  refine lad_call rfl rfl rfl Try.call54 (fun w hS hR => KMul y1 z2 u2 Hu2.out _) (fun _ => rfl) ?_
  try simp only [Act.put, List.setIfInBounds_toArray, List.set_cons_zero, List.set_cons_succ]
  refine lad_j List.mem_cons_self fun g8 => ?_
  simp only [upd, reduceIte]
  try simp only [Nat.reduceEqDiff, reduceIte]
  refine lad_end fun xq w10 st10 hR => ?_
  try dsimp only
  clear hR xq
  refine plan_m rfl rfl ?_
  refine wp_storeS st10 5 rfl rfl rfl rfl (by simp [cw_len]) (by kernel_rfl) (cw_one _ _) ?_
  intro w11 st11
  repeat (first | simp only [List.cons_append] at st11 | simp only [List.nil_append] at st11 | simp only [List.set_cons_succ] at st11 | simp only [List.set_cons_zero] at st11)
  clear st10
  try simp only [Act.put]
  refine plan_end ?_
  refine NoPanic.normal ?_
  go_wp2_with fail
  refine wp_region_noPanic ?_
  refine wp_region_lad st11 7 [.o 6, .w 1, .t 2, .w 3, .t 4, .c 0, .c 5, .j 6] (.m 7 .nil) (by kernel_rfl) (by kernel_rfl) (fun _ _ _ _ _ h => h) ?_
  clear st11
  refine lad_o rfl rfl rfl z_rn (cw 4 0) rfl ?_
  try simp only [Act.put, List.setIfInBounds_toArray, List.set_cons_zero, List.set_cons_succ]
  refine lad_w (v := ?_) rfl rfl (fun xq wx => ?_) ?_; rotate_left 1; · (go_simp; with_reducible rfl)
  try simp only [Act.put, List.setIfInBounds_toArray, List.set_cons_zero, List.set_cons_succ]
  refine lad_arr rfl rfl rfl (fun _ => rfl) (cw 4 (kN x1)) (fun wx hS => St.rangeL hS 0 rfl 0 _ (pt_x _ _ _)) Try.underlying24 rfl (by kernel_rfl) ?_
  try simp only [Act.put, List.setIfInBounds_toArray, List.set_cons_zero, List.set_cons_succ]
  refine lad_w (v := ?_) rfl rfl (fun xq wx => ?_) ?_; rotate_left 1; · (go_simp; with_reducible rfl)
  try simp only [Act.put, List.setIfInBounds_toArray, List.set_cons_zero, List.set_cons_succ]
  refine lad_arr rfl rfl rfl (fun _ => rfl) (cw 4 (kN z2)) (fun wx hS => St.rangeL hS 1 rfl 8 _ (pt_z _ _ _)) Try.underlying24 rfl (by kernel_rfl) ?_
  try simp only [Act.put, List.setIfInBounds_toArray, List.set_cons_zero, List.set_cons_succ]
  refine lad_call rfl rfl rfl Try.call36 (fun w hS hR => RF_any _) (fun _ => rfl) ?_
  try simp only [Act.put, List.setIfInBounds_toArray, List.set_cons_zero, List.set_cons_succ]
  refine lad_call rfl rfl rfl Try.call54 (fun w hS hR => KMul x1 z2 v2 Hv2.out _) (fun _ => rfl) ?_
  try simp only [Act.put, List.setIfInBounds_toArray, List.set_cons_zero, List.set_cons_succ]
  refine lad_j List.mem_cons_self fun g9 => ?_
  simp only [upd, reduceIte]
  try simp only [Nat.reduceEqDiff, reduceIte]
  refine lad_end fun xq w12 st12 hR => ?_
  try dsimp only
  clear hR xq
  refine plan_m rfl rfl ?_
  refine wp_storeS st12 6 rfl rfl rfl rfl (by simp [cw_len]) (by kernel_rfl) (cw_one _ _) ?_
  intro w13 st13
  repeat (first | simp only [List.cons_append] at st13 | simp only [List.nil_append] at st13 | simp only [List.set_cons_succ] at st13 | simp only [List.set_cons_zero] at st13)
  clear st12
  try simp only [Act.put]
  refine plan_end ?_
  refine NoPanic.normal ?_
  go_wp2_with (with_reducible refine wl_stop (o := ⟨some 48, _, _, _, _, _⟩) ?_)
  refine wl_loadS st13 4 rfl rfl rfl Try.underlying24 rfl (by kernel_rfl) ?_
  go_wp2_with (with_reducible refine wl_stop (o := ⟨some 49, _, _, _, _, _⟩) ?_)
  refine wl_loadS st13 6 rfl rfl rfl Try.underlying24 rfl (by kernel_rfl) ?_
  go_wp2_with (with_reducible refine wl_stop (o := ⟨some 50, _, _, _, _, _⟩) ?_)
  refine wl_exec rfl (exec_eqlK v v2 rfl rfl rfl HV.out _) ?_
  go_wp2_with (with_reducible refine wl_stop (o := ⟨some 51, _, _, _, _, _⟩) ?_)
  refine wl_loadS st13 3 rfl rfl rfl Try.underlying24 rfl (by kernel_rfl) ?_
  go_wp2_with (with_reducible refine wl_stop (o := ⟨some 52, _, _, _, _, _⟩) ?_)
  refine wl_loadS st13 5 rfl rfl rfl Try.underlying24 rfl (by kernel_rfl) ?_
  go_wp2_with (with_reducible refine wl_stop (o := ⟨some 53, _, _, _, _, _⟩) ?_)
  refine wl_exec rfl (exec_neqK u u2 rfl rfl rfl HU.out _) ?_
  go_wp2_with fail
  refine (RNone_u _).mono ?_
  rintro e' w14 ⟨rfl, hf14⟩
  have st14 := st13.keep hf14
  clear st13 hf14
  go_wp2_with (with_reducible refine wl_stop (o := ⟨none, _, _, _, _, _⟩) ?_)
  refine wl_storeS st14 2 rfl rfl rfl rfl rfl (by simp [cw_len]) (by kernel_rfl) (pt_one _ _ _) ?_
  intro w15 st15
  clear st14
  have hr := st15.at 2 rfl
  have hfr := st15.fr
  clear st15
  go_wp2_with fail
  exact bodyPost_ret (results_st rfl rfl hr Try.underlying26 rfl (by kernel_rfl)) rfl ⟨rfl, hfr⟩

set_option maxHeartbeats 16000000 in
set_option maxRecDepth 1000000 in
theorem Rdouble_u (x y z X Y Z : K) (w : World) (h : Calls Try.prog 57 #[rpV x y z] w fun e w' => e = .returned (rpV X Y Z) ∧ Fr Nob w w') : Calls Try.prog 57 #[.agg (cw 4 (kN x) ++ (cw 4 (kN y) ++ cw 4 (kN z))).toArray] w fun e w' => e = .returned (.agg (cw 4 (kN X) ++ (cw 4 (kN Y) ++ cw 4 (kN Z))).toArray) ∧ Fr Nob w w' := h

set_option maxHeartbeats 16000000 in
set_option maxRecDepth 1000000 in
theorem RPlus_dbl (x1 y1 z1 x2 y2 z2 : K) (hb1 : decide (z1 = 0) = false) (hb2 : decide (z2 = 0) = false) (u v u2 v2 : K) (eu : y2 * z1 = u) (ev : x2 * z1 = v) (eu2 : y1 * z2 = u2) (ev2 : x1 * z2 = v2) (hv : decide (v = v2) = true) (hu : decide (u = u2) = true) (hz : decide (u = 0) = false) (X Y Z : K) (hdb : ∀ wx, Calls Try.prog 57 #[rpV x1 y1 z1] wx fun e w' => e = .returned (rpV X Y Z) ∧ Fr Nob wx w') (w : World) : Calls Try.prog 20 #[rpV x1 y1 z1, rpV x2 y2 z2] w fun e w' => e = .returned (rpV X Y Z) ∧ Fr Nob w w' := by
  have HB1 := Lib.hid hb1
  have HB2 := Lib.hid hb2
  clear hb1 hb2
  have Hu := Lib.hid eu
  have Hv := Lib.hid ev
  have Hu2 := Lib.hid eu2
  have Hv2 := Lib.hid ev2
  clear eu ev eu2 ev2
  have HV := Lib.hid hv
  clear hv
  have HU := Lib.hid hu
  clear hu
  have HZ := Lib.hid hz
  have HDB := Lib.hid hdb
  clear hz hdb
  unfold rpV rpL
  have st0 := St.start Nob w
  go_enter Try.func20, Try.ntmps20
  go_wp2_with (with_reducible refine wl_stop (o := ⟨some 2, _, _, _, _, _⟩) ?_)
  refine wl_boxS st0 rfl rfl rfl (cw 4 (kN x1) ++ (cw 4 (kN y1) ++ cw 4 (kN z1))) rfl ?_
  intro g2 w1 st1
  clear st0
  go_wp2_with (with_reducible refine wl_stop (o := ⟨some 3, _, _, _, _, _⟩) ?_)
  refine wl_boxS st1 rfl rfl rfl (cw 4 (kN x2) ++ (cw 4 (kN y2) ++ cw 4 (kN z2))) rfl ?_
  intro g3 w2 st2
  clear st1
  go_wp2_with (with_reducible refine wl_stop (o := ⟨some 4, _, _, _, _, _⟩) ?_)
  refine wl_allocS st2 rfl rfl (z := .agg #[.int .u64 0, .int .u64 0, .int .u64 0, .int .u64 0, .int .u64 0, .int .u64 0, .int .u64 0, .int .u64 0, .int .u64 0, .int .u64 0, .int .u64 0, .int .u64 0]) (by kernel_rfl) (cw 12 0) (by rw [cw_zero]; rfl) ?_
  intro g4 w3 st3
  clear st2
  go_wp2_with (with_reducible refine wl_stop (o := ⟨some 16, _, _, _, _, _⟩) ?_)
  refine wl_loadSt st3 0 rfl rfl rfl Try.underlying26 rfl rfl (by kernel_rfl) ?_
  go_wp2_with fail
  refine (RIs_any x1 y1 z1 false HB1.out _).mono ?_
  rintro e' w4 ⟨rfl, hf4⟩
  have st4 := st3.keep hf4
  clear st3 hf4
  go_wp2_with (with_reducible refine wl_stop (o := ⟨some 20, _, _, _, _, _⟩) ?_)
  refine wl_loadSt st4 1 rfl rfl rfl Try.underlying26 rfl rfl (by kernel_rfl) ?_
  go_wp2_with fail
  refine (RIs_any x2 y2 z2 false HB2.out _).mono ?_
  rintro e' w5 ⟨rfl, hf5⟩
  have st5 := st4.keep hf5
  clear st4 hf5
  go_wp2_with fail
  refine wp_region_noPanic ?_
  refine wp_region_lad st5 7 [.o 6, .w 1, .t 2, .w 3, .t 4, .c 0, .c 5, .j 6] (.m 7 .nil) (by kernel_rfl) (by kernel_rfl) (fun _ _ _ _ _ h => h) ?_
  clear st5
  refine lad_o rfl rfl rfl z_rn (cw 4 0) rfl ?_
  try simp only [Act.put, List.setIfInBounds_toArray, List.set_cons_zero, List.set_cons_succ]
  refine lad_w (v := ?_) rfl rfl (fun xq wx => ?_) ?_; rotate_left 1; · (go_simp; with_reducible rfl)
  try simp only [Act.put, List.setIfInBounds_toArray, List.set_cons_zero, List.set_cons_succ]
  refine lad_arr rfl rfl rfl (fun _ => rfl) (cw 4 (kN y2)) (fun wx hS => St.rangeL hS 1 rfl 4 _ (pt_y _ _ _)) Try.underlying24 rfl (by kernel_rfl) ?_
  try simp only [Act.put, List.setIfInBounds_toArray, List.set_cons_zero, List.set_cons_succ]
  refine lad_w (v := ?_) rfl rfl (fun xq wx => ?_) ?_; rotate_left 1; · (go_simp; with_reducible rfl)
  try simp only [Act.put, List.setIfInBounds_toArray, List.set_cons_zero, List.set_cons_succ]
  refine lad_arr rfl rfl rfl (fun _ => rfl) (cw 4 (kN z1)) (fun wx hS => St.rangeL hS 0 rfl 8 _ (pt_z _ _ _)) Try.underlying24 rfl (by kernel_rfl) ?_
  try simp only [Act.put, List.setIfInBounds_toArray, List.set_cons_zero, List.set_cons_succ]
  refine lad_call rfl rfl rfl Try.call36 (fun w hS hR => RF_any _) (fun _ => rfl) ?_
  try simp only [Act.put, List.setIfInBounds_toArray, List.set_cons_zero, List.set_cons_succ]
  refine lad_call rfl rfl rfl Try.call54 (fun w hS hR => KMul y2 z1 u Hu.out _) (fun _ => rfl) ?_
  try simp only [Act.put, List.setIfInBounds_toArray, List.set_cons_zero, List.set_cons_succ]
  refine lad_j List.mem_cons_self fun g6 => ?_
  simp only [upd, reduceIte]
  try simp only [Nat.reduceEqDiff, reduceIte]
  refine lad_end fun xq w6 st6 hR => ?_
  try dsimp only
  clear hR xq
  refine plan_m rfl rfl ?_
  refine wp_storeS st6 3 rfl rfl rfl rfl (by simp [cw_len]) (by kernel_rfl) (cw_one _ _) ?_
  intro w7 st7
  repeat (first | simp only [List.cons_append] at st7 | simp only [List.nil_append] at st7 | simp only [List.set_cons_succ] at st7 | simp only [List.set_cons_zero] at st7)
  clear st6
  try simp only [Act.put]
  refine plan_end ?_
  refine NoPanic.normal ?_
  go_wp2_with fail
  refine wp_region_noPanic ?_
  refine wp_region_lad st7 7 [.o 6, .w 1, .t 2, .w 3, .t 4, .c 0, .c 5, .j 6] (.m 7 .nil) (by kernel_rfl) (by kernel_rfl) (fun _ _ _ _ _ h => h) ?_
  clear st7
  refine lad_o rfl rfl rfl z_rn (cw 4 0) rfl ?_
  try simp only [Act.put, List.setIfInBounds_toArray, List.set_cons_zero, List.set_cons_succ]
  refine lad_w (v := ?_) rfl rfl (fun xq wx => ?_) ?_; rotate_left 1; · (go_simp; with_reducible rfl)
  try simp only [Act.put, List.setIfInBounds_toArray, List.set_cons_zero, List.set_cons_succ]
  refine lad_arr rfl rfl rfl (fun _ => rfl) (cw 4 (kN x2)) (fun wx hS => St.rangeL hS 1 rfl 0 _ (pt_x _ _ _)) Try.underlying24 rfl (by kernel_rfl) ?_
  try simp only [Act.put, List.setIfInBounds_toArray, List.set_cons_zero, List.set_cons_succ]
  refine lad_w (v := ?_) rfl rfl (fun xq wx => ?_) ?_; rotate_left 1; · (go_simp; with_reducible rfl)
  try simp only [Act.put, List.setIfInBounds_toArray, List.set_cons_zero, List.set_cons_succ]
  refine lad_arr rfl rfl rfl (fun _ => rfl) (cw 4 (kN z1)) (fun wx hS => St.rangeL hS 0 rfl 8 _ (pt_z _ _ _)) Try.underlying24 rfl (by kernel_rfl) ?_
  try simp only [Act.put, List.setIfInBounds_toArray, List.set_cons_zero, List.set_cons_succ]
  refine lad_call rfl rfl rfl Try.call36 (fun w hS hR => RF_any _) (fun _ => rfl) ?_
  try simp only [Act.put, List.setIfInBounds_toArray, List.set_cons_zero, List.set_cons_succ]
  refine lad_call rfl rfl rfl Try.call54 (fun w hS hR => KMul x2 z1 v Hv.out _) (fun _ => rfl) ?_
  try simp only [Act.put, List.setIfInBounds_toArray, List.set_cons_zero, List.set_cons_succ]
  refine lad_j List.mem_cons_self fun g7 => ?_
  simp only [upd, reduceIte]
  try simp only [Nat.reduceEqDiff, reduceIte]
  refine lad_end fun xq w8 st8 hR => ?_
  try dsimp only
  clear hR xq
  refine plan_m rfl rfl ?_
  refine wp_storeS st8 4 rfl rfl rfl rfl (by simp [cw_len]) (by kernel_rfl) (cw_one _ _) ?_
  intro w9 st9
  repeat (first | simp only [List.cons_append] at st9 | simp only [List.nil_append] at st9 | simp only [List.set_cons_succ] at st9 | simp only [List.set_cons_zero] at st9)
  clear st8
  try simp only [Act.put]
  refine plan_end ?_
  refine NoPanic.normal ?_
  go_wp2_with fail
  refine wp_region_noPanic ?_
  refine wp_region_lad st9 7 [.o 6, .w 1, .t 2, .w 3, .t 4, .c 0, .c 5, .j 6] (.m 7 .nil) (by kernel_rfl) (by kernel_rfl) (fun _ _ _ _ _ h => h) ?_
  clear st9
  refine lad_o rfl rfl rfl z_rn (cw 4 0) rfl ?_
  try simp only [Act.put, List.setIfInBounds_toArray, List.set_cons_zero, List.set_cons_succ]
  refine lad_w (v := ?_) rfl rfl (fun xq wx => ?_) ?_; rotate_left 1; · (go_simp; with_reducible rfl)
  try simp only [Act.put, List.setIfInBounds_toArray, List.set_cons_zero, List.set_cons_succ]
  refine lad_arr rfl rfl rfl (fun _ => rfl) (cw 4 (kN y1)) (fun wx hS => St.rangeL hS 0 rfl 4 _ (pt_y _ _ _)) Try.underlying24 rfl (by kernel_rfl) ?_
  try simp only [Act.put, List.setIfInBounds_toArray, List.set_cons_zero, List.set_cons_succ]
  refine lad_w (v := ?_) rfl rfl (fun xq wx => ?_) ?_; rotate_left 1; · (go_simp; with_reducible rfl)
  try simp only [Act.put, List.setIfInBounds_toArray, List.set_cons_zero, List.set_cons_succ]
  refine lad_arr rfl rfl rfl (fun _ => rfl) (cw 4 (kN z2)) (fun wx hS => St.rangeL hS 1 rfl 8 _ (pt_z _ _ _)) Try.underlying24 rfl (by kernel_rfl) ?_
  try simp only [Act.put, List.setIfInBounds_toArray, List.set_cons_zero, List.set_cons_succ]
  refine lad_call rfl rfl rfl Try.call36 (fun w hS hR => RF_any _) (fun _ => rfl) ?_
  try simp only [Act.put, List.setIfInBounds_toArray, List.set_cons_zero, List.set_cons_succ]
  refine lad_call rfl rfl rfl Try.call54 (fun w hS hR => KMul y1 z2 u2 Hu2.out _) (fun _ => rfl) ?_
  try simp only [Act.put, List.setIfInBounds_toArray, List.set_cons_zero, List.set_cons_succ]
  refine lad_j List.mem_cons_self fun g8 => ?_
  simp only [upd, reduceIte]
  try simp only [Nat.reduceEqDiff, reduceIte]
  refine lad_end fun xq w10 st10 hR => ?_
  try dsimp only
  clear hR xq
  refine plan_m rfl rfl ?_
  refine wp_storeS st10 5 rfl rfl rfl rfl (by simp [cw_len]) (by kernel_rfl) (cw_one _ _) ?_
  intro w11 st11
  repeat (first | simp only [List.cons_append] at st11 | simp only [List.nil_append] at st11 | simp only [List.set_cons_succ] at st11 | simp only [List.set_cons_zero] at st11)
  clear st10
  try simp only [Act.put]
  refine plan_end ?_
  refine NoPanic.normal ?_
  go_wp2_with fail
  refine wp_region_noPanic ?_
  refine wp_region_lad st11 7 [.o 6, .w 1, .t 2, .w 3, .t 4, .c 0, .c 5, .j 6] (.m 7 .nil) (by kernel_rfl) (by kernel_rfl) (fun _ _ _ _ _ h => h) ?_
  clear st11
  refine lad_o rfl rfl rfl z_rn (cw 4 0) rfl ?_
  try simp only [Act.put, List.setIfInBounds_toArray, List.set_cons_zero, List.set_cons_succ]
  refine lad_w (v := ?_) rfl rfl (fun xq wx => ?_) ?_; rotate_left 1; · (go_simp; with_reducible rfl)
  try simp only [Act.put, List.setIfInBounds_toArray, List.set_cons_zero, List.set_cons_succ]
  refine lad_arr rfl rfl rfl (fun _ => rfl) (cw 4 (kN x1)) (fun wx hS => St.rangeL hS 0 rfl 0 _ (pt_x _ _ _)) Try.underlying24 rfl (by kernel_rfl) ?_
  try simp only [Act.put, List.setIfInBounds_toArray, List.set_cons_zero, List.set_cons_succ]
  refine lad_w (v := ?_) rfl rfl (fun xq wx => ?_) ?_; rotate_left 1; · (go_simp; with_reducible rfl)
  try simp only [Act.put, List.setIfInBounds_toArray, List.set_cons_zero, List.set_cons_succ]
  refine lad_arr rfl rfl rfl (fun _ => rfl) (cw 4 (kN z2)) (fun wx hS => St.rangeL hS 1 rfl 8 _ (pt_z _ _ _)) Try.underlying24 rfl (by kernel_rfl) ?_
  try simp only [Act.put, List.setIfInBounds_toArray, List.set_cons_zero, List.set_cons_succ]
  refine lad_call rfl rfl rfl Try.call36 (fun w hS hR => RF_any _) (fun _ => rfl) ?_
  try simp only [Act.put, List.setIfInBounds_toArray, List.set_cons_zero, List.set_cons_succ]
  refine lad_call rfl rfl rfl Try.call54 (fun w hS hR => KMul x1 z2 v2 Hv2.out _) (fun _ => rfl) ?_
  try simp only [Act.put, List.setIfInBounds_toArray, List.set_cons_zero, List.set_cons_succ]
  refine lad_j List.mem_cons_self fun g9 => ?_
  simp only [upd, reduceIte]
  try simp only [Nat.reduceEqDiff, reduceIte]
  refine lad_end fun xq w12 st12 hR => ?_
  try dsimp only
  clear hR xq
  refine plan_m rfl rfl ?_
  refine wp_storeS st12 6 rfl rfl rfl rfl (by simp [cw_len]) (by kernel_rfl) (cw_one _ _) ?_
  intro w13 st13
  repeat (first | simp only [List.cons_append] at st13 | simp only [List.nil_append] at st13 | simp only [List.set_cons_succ] at st13 | simp only [List.set_cons_zero] at st13)
  clear st12
  try simp only [Act.put]
  refine plan_end ?_
  refine NoPanic.normal ?_
  go_wp2_with (with_reducible refine wl_stop (o := ⟨some 48, _, _, _, _, _⟩) ?_)
  refine wl_loadS st13 4 rfl rfl rfl Try.underlying24 rfl (by kernel_rfl) ?_
  go_wp2_with (with_reducible refine wl_stop (o := ⟨some 49, _, _, _, _, _⟩) ?_)
  refine wl_loadS st13 6 rfl rfl rfl Try.underlying24 rfl (by kernel_rfl) ?_
  go_wp2_with (with_reducible refine wl_stop (o := ⟨some 50, _, _, _, _, _⟩) ?_)
  refine wl_exec rfl (exec_eqlK v v2 rfl rfl rfl HV.out _) ?_
  go_wp2_with (with_reducible refine wl_stop (o := ⟨some 51, _, _, _, _, _⟩) ?_)
  refine wl_loadS st13 3 rfl rfl rfl Try.underlying24 rfl (by kernel_rfl) ?_
  go_wp2_with (with_reducible refine wl_stop (o := ⟨some 52, _, _, _, _, _⟩) ?_)
  refine wl_loadS st13 5 rfl rfl rfl Try.underlying24 rfl (by kernel_rfl) ?_
  go_wp2_with (with_reducible refine wl_stop (o := ⟨some 53, _, _, _, _, _⟩) ?_)
  refine wl_exec rfl (exec_neqK u u2 rfl rfl rfl HU.out _) ?_
  go_wp2_with (with_reducible refine wl_stop (o := ⟨some 55, _, _, _, _, _⟩) ?_)
  refine wl_met rfl ?_
  refine wl_loadS st13 3 rfl rfl rfl Try.underlying24 rfl (by kernel_rfl) ?_
  go_wp2_with fail
  refine (KZero u false HZ.out _).mono ?_
  rintro e' w14 ⟨rfl, hf14⟩
  have st14 := st13.keep hf14
  clear st13 hf14
  go_wp2_with (with_reducible refine wl_stop (o := ⟨some 59, _, _, _, _, _⟩) ?_)
  refine wl_loadSt st14 0 rfl rfl rfl Try.underlying26 rfl rfl (by kernel_rfl) ?_
  go_wp2_with fail
  refine (Rdouble_u x1 y1 z1 X Y Z _ (HDB.out _)).mono ?_
  rintro e' w15 ⟨rfl, hf15⟩
  have st15 := st14.keep hf15
  clear st14 hf15
  go_wp2_with (with_reducible refine wl_stop (o := ⟨none, _, _, _, _, _⟩) ?_)
  refine wl_storeS st15 2 rfl rfl rfl rfl rfl (by simp [cw_len]) (by kernel_rfl) (pt_one _ _ _) ?_
  intro w16 st16
  clear st15
  have hr := st16.at 2 rfl
  have hfr := st16.fr
  clear st16
  go_wp2_with fail
  exact bodyPost_ret (results_st rfl rfl hr Try.underlying26 rfl (by kernel_rfl)) rfl ⟨rfl, hfr⟩

set_option maxHeartbeats 16000000 in
set_option maxRecDepth 1000000 in
theorem RPlus_v (x1 y1 z1 x2 y2 z2 : K) (hb1 : decide (z1 = 0) = false) (hb2 : decide (z2 = 0) = false) (u v u2 v2 d ee ww e2 e3 t1 t2 t3 t4 t5 t X s1 s2 s3 s4 Y Z : K) (eu : y2 * z1 = u) (ev : x2 * z1 = v) (eu2 : y1 * z2 = u2) (ev2 : x1 * z2 = v2) (ed : u - u2 = d) (eee : v - v2 = ee) (eww : z1 * z2 = ww) (ee2 : ee * ee = e2) (ee3 : e2 * ee = e3) (et1 : d * d = t1) (et2 : t1 * ww = t2) (et3 : t2 - e3 = t3) (et4 : v2 + v2 = t4) (et5 : t4 * e2 = t5) (et : t3 - t5 = t) (eX : ee * t = X) (es1 : v2 * e2 = s1) (es2 : s1 - t = s2) (es3 : d * s2 = s3) (es4 : u2 * e3 = s4) (eY : s3 - s4 = Y) (eZ : e3 * ww = Z) (hv : decide (v = v2) = false) (w : World) : Calls Try.prog 20 #[rpV x1 y1 z1, rpV x2 y2 z2] w fun e w' => e = .returned (rpV X Y Z) ∧ Fr Nob w w' := by
  have HB1 := Lib.hid hb1
  have HB2 := Lib.hid hb2
  clear hb1 hb2
  have Hu := Lib.hid eu
  have Hv := Lib.hid ev
  have Hu2 := Lib.hid eu2
  have Hv2 := Lib.hid ev2
  have Hd := Lib.hid ed
  have Hee := Lib.hid eee
  have Hww := Lib.hid eww
  have He2 := Lib.hid ee2
  have He3 := Lib.hid ee3
  have Ht1 := Lib.hid et1
  have Ht2 := Lib.hid et2
  have Ht3 := Lib.hid et3
  have Ht4 := Lib.hid et4
  have Ht5 := Lib.hid et5
  have Ht := Lib.hid et
  have HX := Lib.hid eX
  have Hs1 := Lib.hid es1
  have Hs2 := Lib.hid es2
  have Hs3 := Lib.hid es3
  have Hs4 := Lib.hid es4
  have HY := Lib.hid eY
  have HZ := Lib.hid eZ
  clear eu ev eu2 ev2 ed eee eww ee2 ee3 et1 et2 et3 et4 et5 et eX es1 es2 es3 es4 eY eZ
  have HV := Lib.hid hv
  clear hv
  unfold rpV rpL
  have st0 := St.start Nob w
  go_enter Try.func20, Try.ntmps20
  go_wp2_with (with_reducible refine wl_stop (o := ⟨some 2, _, _, _, _, _⟩) ?_)
  refine wl_boxS st0 rfl rfl rfl (cw 4 (kN x1) ++ (cw 4 (kN y1) ++ cw 4 (kN z1))) rfl ?_
  intro g2 w1 st1
  clear st0
  go_wp2_with (with_reducible refine wl_stop (o := ⟨some 3, _, _, _, _, _⟩) ?_)
  refine wl_boxS st1 rfl rfl rfl (cw 4 (kN x2) ++ (cw 4 (kN y2) ++ cw 4 (kN z2))) rfl ?_
  intro g3 w2 st2
  clear st1
  go_wp2_with (with_reducible refine wl_stop (o := ⟨some 4, _, _, _, _, _⟩) ?_)
  refine wl_allocS st2 rfl rfl (z := .agg #[.int .u64 0, .int .u64 0, .int .u64 0, .int .u64 0, .int .u64 0, .int .u64 0, .int .u64 0, .int .u64 0, .int .u64 0, .int .u64 0, .int .u64 0, .int .u64 0]) (by kernel_rfl) (cw 12 0) (by rw [cw_zero]; rfl) ?_
  intro g4 w3 st3
  clear st2
  go_wp2_with (with_reducible refine wl_stop (o := ⟨some 16, _, _, _, _, _⟩) ?_)
  refine wl_loadSt st3 0 rfl rfl rfl Try.underlying26 rfl rfl (by kernel_rfl) ?_
  go_wp2_with fail
  refine (RIs_any x1 y1 z1 false HB1.out _).mono ?_
  rintro e' w4 ⟨rfl, hf4⟩
  have st4 := st3.keep hf4
  clear st3 hf4
  go_wp2_with (with_reducible refine wl_stop (o := ⟨some 20, _, _, _, _, _⟩) ?_)
  refine wl_loadSt st4 1 rfl rfl rfl Try.underlying26 rfl rfl (by kernel_rfl) ?_
  go_wp2_with fail
  refine (RIs_any x2 y2 z2 false HB2.out _).mono ?_
  rintro e' w5 ⟨rfl, hf5⟩
  have st5 := st4.keep hf5
  clear st4 hf5
  go_wp2_with fail
  refine wp_region_noPanic ?_
  refine wp_region_lad st5 7 [.o 6, .w 1, .t 2, .w 3, .t 4, .c 0, .c 5, .j 6] (.m 7 .nil) (by kernel_rfl) (by kernel_rfl) (fun _ _ _ _ _ h => h) ?_
  clear st5
  refine lad_o rfl rfl rfl z_rn (cw 4 0) rfl ?_
  try simp only [Act.put, List.setIfInBounds_toArray, List.set_cons_zero, List.set_cons_succ]
  refine lad_w (v := ?_) rfl rfl (fun xq wx => ?_) ?_; rotate_left 1; · (go_simp; with_reducible rfl)
  try simp only [Act.put, List.setIfInBounds_toArray, List.set_cons_zero, List.set_cons_succ]
  refine lad_arr rfl rfl rfl (fun _ => rfl) (cw 4 (kN y2)) (fun wx hS => St.rangeL hS 1 rfl 4 _ (pt_y _ _ _)) Try.underlying24 rfl (by kernel_rfl) ?_
  try simp only [Act.put, List.setIfInBounds_toArray, List.set_cons_zero, List.set_cons_succ]
  refine lad_w (v := ?_) rfl rfl (fun xq wx => ?_) ?_; rotate_left 1; · (go_simp; with_reducible rfl)
  try simp only [Act.put, List.setIfInBounds_toArray, List.set_cons_zero, List.set_cons_succ]
  refine lad_arr rfl rfl rfl (fun _ => rfl) (cw 4 (kN z1)) (fun wx hS => St.rangeL hS 0 rfl 8 _ (pt_z _ _ _)) Try.underlying24 rfl (by kernel_rfl) ?_
  try simp only [Act.put, List.setIfInBounds_toArray, List.set_cons_zero, List.set_cons_succ]
  refine lad_call rfl rfl rfl Try.call36 (fun w hS hR => RF_any _) (fun _ => rfl) ?_
  try simp only [Act.put, List.setIfInBounds_toArray, List.set_cons_zero, List.set_cons_succ]
  refine lad_call rfl rfl rfl Try.call54 (fun w hS hR => KMul y2 z1 u Hu.out _) (fun _ => rfl) ?_
  try simp only [Act.put, List.setIfInBounds_toArray, List.set_cons_zero, List.set_cons_succ]
  refine lad_j List.mem_cons_self fun g6 => ?_
  simp only [upd, reduceIte]
  try simp only [Nat.reduceEqDiff, reduceIte]
  refine lad_end fun xq w6 st6 hR => ?_
  try dsimp only
  clear hR xq
  refine plan_m rfl rfl ?_
  refine wp_storeS st6 3 rfl rfl rfl rfl (by simp [cw_len]) (by kernel_rfl) (cw_one _ _) ?_
  intro w7 st7
  repeat (first | simp only [List.cons_append] at st7 | simp only [List.nil_append] at st7 | simp only [List.set_cons_succ] at st7 | simp only [List.set_cons_zero] at st7)
  clear st6
  try simp only [Act.put]
  refine plan_end ?_
  refine NoPanic.normal ?_
  go_wp2_with fail
  refine wp_region_noPanic ?_
  refine wp_region_lad st7 7 [.o 6, .w 1, .t 2, .w 3, .t 4, .c 0, .c 5, .j 6] (.m 7 .nil) (by kernel_rfl) (by kernel_rfl) (fun _ _ _ _ _ h => h) ?_
  clear st7
  refine lad_o rfl rfl rfl z_rn (cw 4 0) rfl ?_
  try simp only [Act.put, List.setIfInBounds_toArray, List.set_cons_zero, List.set_cons_succ]
  refine lad_w (v := ?_) rfl rfl (fun xq wx => ?_) ?_; rotate_left 1; · (go_simp; with_reducible rfl)
  try simp only [Act.put, List.setIfInBounds_toArray, List.set_cons_zero, List.set_cons_succ]
  refine lad_arr rfl rfl rfl (fun _ => rfl) (cw 4 (kN x2)) (fun wx hS => St.rangeL hS 1 rfl 0 _ (pt_x _ _ _)) Try.underlying24 rfl (by kernel_rfl) ?_
  try simp only [Act.put, List.setIfInBounds_toArray, List.set_cons_zero, List.set_cons_succ]
  refine lad_w (v := ?_) rfl rfl (fun xq wx => ?_) ?_; rotate_left 1; · (go_simp; with_reducible rfl)
  try simp only [Act.put, List.setIfInBounds_toArray, List.set_cons_zero, List.set_cons_succ]
  refine lad_arr rfl rfl rfl (fun _ => rfl) (cw 4 (kN z1)) (fun wx hS => St.rangeL hS 0 rfl 8 _ (pt_z _ _ _)) Try.underlying24 rfl (by kernel_rfl) ?_
  try simp only [Act.put, List.setIfInBounds_toArray, List.set_cons_zero, List.set_cons_succ]
  refine lad_call rfl rfl rfl Try.call36 (fun w hS hR => RF_any _) (fun _ => rfl) ?_
  try simp only [Act.put, List.setIfInBounds_toArray, List.set_cons_zero, List.set_cons_succ]
  refine lad_call rfl rfl rfl Try.call54 (fun w hS hR => KMul x2 z1 v Hv.out _) (fun _ => rfl) ?_
  try simp only [Act.put, List.setIfInBounds_toArray, List.set_cons_zero, List.set_cons_succ]
  refine lad_j List.mem_cons_self fun g7 => ?_
  simp only [upd, reduceIte]
  try simp only [Nat.reduceEqDiff, reduceIte]
  refine lad_end fun xq w8 st8 hR => ?_
  try dsimp only
  clear hR xq
  refine plan_m rfl rfl ?_
  refine wp_storeS st8 4 rfl rfl rfl rfl (by simp [cw_len]) (by kernel_rfl) (cw_one _ _) ?_
  intro w9 st9
  repeat (first | simp only [List.cons_append] at st9 | simp only [List.nil_append] at st9 | simp only [List.set_cons_succ] at st9 | simp only [List.set_cons_zero] at st9)
  clear st8
  try simp only [Act.put]
  refine plan_end ?_
  refine NoPanic.normal ?_
  go_wp2_with fail
  refine wp_region_noPanic ?_
  refine wp_region_lad st9 7 [.o 6, .w 1, .t 2, .w 3, .t 4, .c 0, .c 5, .j 6] (.m 7 .nil) (by kernel_rfl) (by kernel_rfl) (fun _ _ _ _ _ h => h) ?_
  clear st9
  refine lad_o rfl rfl rfl z_rn (cw 4 0) rfl ?_
  try simp only [Act.put, List.setIfInBounds_toArray, List.set_cons_zero, List.set_cons_succ]
  refine lad_w (v := ?_) rfl rfl (fun xq wx => ?_) ?_; rotate_left 1; · (go_simp; with_reducible rfl)
  try simp only [Act.put, List.setIfInBounds_toArray, List.set_cons_zero, List.set_cons_succ]
  refine lad_arr rfl rfl rfl (fun _ => rfl) (cw 4 (kN y1)) (fun wx hS => St.rangeL hS 0 rfl 4 _ (pt_y _ _ _)) Try.underlying24 rfl (by kernel_rfl) ?_
  try simp only [Act.put, List.setIfInBounds_toArray, List.set_cons_zero, List.set_cons_succ]
  refine lad_w (v := ?_) rfl rfl (fun xq wx => ?_) ?_; rotate_left 1; · (go_simp; with_reducible rfl)
  try simp only [Act.put, List.setIfInBounds_toArray, List.set_cons_zero, List.set_cons_succ]
  refine lad_arr rfl rfl rfl (fun _ => rfl) (cw 4 (kN z2)) (fun wx hS => St.rangeL hS 1 rfl 8 _ (pt_z _ _ _)) Try.underlying24 rfl (by kernel_rfl) ?_
  try simp only [Act.put, List.setIfInBounds_toArray, List.set_cons_zero, List.set_cons_succ]
  refine lad_call rfl rfl rfl Try.call36 (fun w hS hR => RF_any _) (fun _ => rfl) ?_
  try simp only [Act.put, List.setIfInBounds_toArray, List.set_cons_zero, List.set_cons_succ]
  refine lad_call rfl rfl rfl Try.call54 (fun w hS hR => KMul y1 z2 u2 Hu2.out _) (fun _ => rfl) ?_
  try simp only [Act.put, List.setIfInBounds_toArray, List.set_cons_zero, List.set_cons_succ]
  refine lad_j List.mem_cons_self fun g8 => ?_
  simp only [upd, reduceIte]
  try simp only [Nat.reduceEqDiff, reduceIte]
  refine lad_end fun xq w10 st10 hR => ?_
  try dsimp only
  clear hR xq
  refine plan_m rfl rfl ?_
  refine wp_storeS st10 5 rfl rfl rfl rfl (by simp [cw_len]) (by kernel_rfl) (cw_one _ _) ?_
  intro w11 st11
  repeat (first | simp only [List.cons_append] at st11 | simp only [List.nil_append] at st11 | simp only [List.set_cons_succ] at st11 | simp only [List.set_cons_zero] at st11)
  clear st10
  try simp only [Act.put]
  refine plan_end ?_
  refine NoPanic.normal ?_
  go_wp2_with fail
  refine wp_region_noPanic ?_
  refine wp_region_lad st11 7 [.o 6, .w 1, .t 2, .w 3, .t 4, .c 0, .c 5, .j 6] (.m 7 .nil) (by kernel_rfl) (by kernel_rfl) (fun _ _ _ _ _ h => h) ?_
  clear st11
  refine lad_o rfl rfl rfl z_rn (cw 4 0) rfl ?_
  try simp only [Act.put, List.setIfInBounds_toArray, List.set_cons_zero, List.set_cons_succ]
  refine lad_w (v := ?_) rfl rfl (fun xq wx => ?_) ?_; rotate_left 1; · (go_simp; with_reducible rfl)
  try simp only [Act.put, List.setIfInBounds_toArray, List.set_cons_zero, List.set_cons_succ]
  refine lad_arr rfl rfl rfl (fun _ => rfl) (cw 4 (kN x1)) (fun wx hS => St.rangeL hS 0 rfl 0 _ (pt_x _ _ _)) Try.underlying24 rfl (by kernel_rfl) ?_
  try simp only [Act.put, List.setIfInBounds_toArray, List.set_cons_zero, List.set_cons_succ]
  refine lad_w (v := ?_) rfl rfl (fun xq wx => ?_) ?_; rotate_left 1; · (go_simp; with_reducible rfl)
  try simp only [Act.put, List.setIfInBounds_toArray, List.set_cons_zero, List.set_cons_succ]
  refine lad_arr rfl rfl rfl (fun _ => rfl) (cw 4 (kN z2)) (fun wx hS => St.rangeL hS 1 rfl 8 _ (pt_z _ _ _)) Try.underlying24 rfl (by kernel_rfl) ?_
  try simp only [Act.put, List.setIfInBounds_toArray, List.set_cons_zero, List.set_cons_succ]
  refine lad_call rfl rfl rfl Try.call36 (fun w hS hR => RF_any _) (fun _ => rfl) ?_
  try simp only [Act.put, List.setIfInBounds_toArray, List.set_cons_zero, List.set_cons_succ]
  refine lad_call rfl rfl rfl Try.call54 (fun w hS hR => KMul x1 z2 v2 Hv2.out _) (fun _ => rfl) ?_
  try simp only [Act.put, List.setIfInBounds_toArray, List.set_cons_zero, List.set_cons_succ]
  refine lad_j List.mem_cons_self fun g9 => ?_
  simp only [upd, reduceIte]
  try simp only [Nat.reduceEqDiff, reduceIte]
  refine lad_end fun xq w12 st12 hR => ?_
  try dsimp only
  clear hR xq
  refine plan_m rfl rfl ?_
  refine wp_storeS st12 6 rfl rfl rfl rfl (by simp [cw_len]) (by kernel_rfl) (cw_one _ _) ?_
  intro w13 st13
  repeat (first | simp only [List.cons_append] at st13 | simp only [List.nil_append] at st13 | simp only [List.set_cons_succ] at st13 | simp only [List.set_cons_zero] at st13)
  clear st12
  try simp only [Act.put]
  refine plan_end ?_
  refine NoPanic.normal ?_
  go_wp2_with (with_reducible refine wl_stop (o := ⟨some 48, _, _, _, _, _⟩) ?_)
  refine wl_loadS st13 4 rfl rfl rfl Try.underlying24 rfl (by kernel_rfl) ?_
  go_wp2_with (with_reducible refine wl_stop (o := ⟨some 49, _, _, _, _, _⟩) ?_)
  refine wl_loadS st13 6 rfl rfl rfl Try.underlying24 rfl (by kernel_rfl) ?_
  go_wp2_with (with_reducible refine wl_stop (o := ⟨some 50, _, _, _, _, _⟩) ?_)
  refine wl_exec rfl (exec_eqlK v v2 rfl rfl rfl HV.out _) ?_
  go_wp2_with fail
  refine wp_region_noPanic ?_
  refine wp_region_lad st13 5 [.o 4, .t 1, .t 2, .c 0, .c 3, .j 4] (.m 5 .nil) (by kernel_rfl) (by kernel_rfl) (fun _ _ _ _ _ h => h) ?_
  clear st13
  refine lad_o rfl rfl rfl z_rn (cw 4 0) rfl ?_
  try simp only [Act.put, List.setIfInBounds_toArray, List.set_cons_zero, List.set_cons_succ]
  refine lad_arr rfl rfl rfl (fun _ => rfl) (cw 4 (kN u)) (fun wx hS => St.rangeL hS 3 rfl 0 _ (by rw [List.drop_zero, List.take_of_length_le (Nat.le_refl _)])) Try.underlying24 rfl (by kernel_rfl) ?_
  try simp only [Act.put, List.setIfInBounds_toArray, List.set_cons_zero, List.set_cons_succ]
  refine lad_arr rfl rfl rfl (fun _ => rfl) (cw 4 (kN u2)) (fun wx hS => St.rangeL hS 5 rfl 0 _ (by rw [List.drop_zero, List.take_of_length_le (Nat.le_refl _)])) Try.underlying24 rfl (by kernel_rfl) ?_
  try simp only [Act.put, List.setIfInBounds_toArray, List.set_cons_zero, List.set_cons_succ]
  refine lad_call rfl rfl rfl Try.call36 (fun w hS hR => RF_any _) (fun _ => rfl) ?_
  try simp only [Act.put, List.setIfInBounds_toArray, List.set_cons_zero, List.set_cons_succ]
  refine lad_call rfl rfl rfl Try.call58 (fun w hS hR => KSub u u2 d Hd.out _) (fun _ => rfl) ?_
  try simp only [Act.put, List.setIfInBounds_toArray, List.set_cons_zero, List.set_cons_succ]
  refine lad_j List.mem_cons_self fun g10 => ?_
  simp only [upd, reduceIte]
  try simp only [Nat.reduceEqDiff, reduceIte]
  refine lad_end fun xq w14 st14 hR => ?_
  try dsimp only
  clear hR xq
  refine plan_m rfl rfl ?_
  refine wp_storeS st14 7 rfl rfl rfl rfl (by simp [cw_len]) (by kernel_rfl) (cw_one _ _) ?_
  intro w15 st15
  repeat (first | simp only [List.cons_append] at st15 | simp only [List.nil_append] at st15 | simp only [List.set_cons_succ] at st15 | simp only [List.set_cons_zero] at st15)
  clear st14
  try simp only [Act.put]
  refine plan_end ?_
  refine NoPanic.normal ?_
  go_wp2_with fail
  refine wp_region_noPanic ?_
  refine wp_region_lad st15 5 [.o 4, .t 1, .t 2, .c 0, .c 3, .j 4] (.m 5 .nil) (by kernel_rfl) (by kernel_rfl) (fun _ _ _ _ _ h => h) ?_
  clear st15
  refine lad_o rfl rfl rfl z_rn (cw 4 0) rfl ?_
  try simp only [Act.put, List.setIfInBounds_toArray, List.set_cons_zero, List.set_cons_succ]
  refine lad_arr rfl rfl rfl (fun _ => rfl) (cw 4 (kN v)) (fun wx hS => St.rangeL hS 4 rfl 0 _ (by rw [List.drop_zero, List.take_of_length_le (Nat.le_refl _)])) Try.underlying24 rfl (by kernel_rfl) ?_
  try simp only [Act.put, List.setIfInBounds_toArray, List.set_cons_zero, List.set_cons_succ]
  refine lad_arr rfl rfl rfl (fun _ => rfl) (cw 4 (kN v2)) (fun wx hS => St.rangeL hS 6 rfl 0 _ (by rw [List.drop_zero, List.take_of_length_le (Nat.le_refl _)])) Try.underlying24 rfl (by kernel_rfl) ?_
  try simp only [Act.put, List.setIfInBounds_toArray, List.set_cons_zero, List.set_cons_succ]
  refine lad_call rfl rfl rfl Try.call36 (fun w hS hR => RF_any _) (fun _ => rfl) ?_
  try simp only [Act.put, List.setIfInBounds_toArray, List.set_cons_zero, List.set_cons_succ]
  refine lad_call rfl rfl rfl Try.call58 (fun w hS hR => KSub v v2 ee Hee.out _) (fun _ => rfl) ?_
  try simp only [Act.put, List.setIfInBounds_toArray, List.set_cons_zero, List.set_cons_succ]
  refine lad_j List.mem_cons_self fun g11 => ?_
  simp only [upd, reduceIte]
  try simp only [Nat.reduceEqDiff, reduceIte]
  refine lad_end fun xq w16 st16 hR => ?_
  try dsimp only
  clear hR xq
  refine plan_m rfl rfl ?_
  refine wp_storeS st16 8 rfl rfl rfl rfl (by simp [cw_len]) (by kernel_rfl) (cw_one _ _) ?_
  intro w17 st17
  repeat (first | simp only [List.cons_append] at st17 | simp only [List.nil_append] at st17 | simp only [List.set_cons_succ] at st17 | simp only [List.set_cons_zero] at st17)
  clear st16
  try simp only [Act.put]
  refine plan_end ?_
  refine NoPanic.normal ?_
  go_wp2_with fail
  refine wp_region_noPanic ?_
  refine wp_region_lad st17 7 [.o 6, .w 1, .t 2, .w 3, .t 4, .c 0, .c 5, .j 6] (.m 7 .nil) (by kernel_rfl) (by kernel_rfl) (fun _ _ _ _ _ h => h) ?_
  clear st17
  refine lad_o rfl rfl rfl z_rn (cw 4 0) rfl ?_
  try simp only [Act.put, List.setIfInBounds_toArray, List.set_cons_zero, List.set_cons_succ]
  refine lad_w (v := ?_) rfl rfl (fun xq wx => ?_) ?_; rotate_left 1; · (go_simp; with_reducible rfl)
  try simp only [Act.put, List.setIfInBounds_toArray, List.set_cons_zero, List.set_cons_succ]
  refine lad_arr rfl rfl rfl (fun _ => rfl) (cw 4 (kN z1)) (fun wx hS => St.rangeL hS 0 rfl 8 _ (pt_z _ _ _)) Try.underlying24 rfl (by kernel_rfl) ?_
  try simp only [Act.put, List.setIfInBounds_toArray, List.set_cons_zero, List.set_cons_succ]
  refine lad_w (v := ?_) rfl rfl (fun xq wx => ?_) ?_; rotate_left 1; · (go_simp; with_reducible rfl)
  try simp only [Act.put, List.setIfInBounds_toArray, List.set_cons_zero, List.set_cons_succ]
  refine lad_arr rfl rfl rfl (fun _ => rfl) (cw 4 (kN z2)) (fun wx hS => St.rangeL hS 1 rfl 8 _ (pt_z _ _ _)) Try.underlying24 rfl (by kernel_rfl) ?_
  try simp only [Act.put, List.setIfInBounds_toArray, List.set_cons_zero, List.set_cons_succ]
  refine lad_call rfl rfl rfl Try.call36 (fun w hS hR => RF_any _) (fun _ => rfl) ?_
  try simp only [Act.put, List.setIfInBounds_toArray, List.set_cons_zero, List.set_cons_succ]
  refine lad_call rfl rfl rfl Try.call54 (fun w hS hR => KMul z1 z2 ww Hww.out _) (fun _ => rfl) ?_
  try simp only [Act.put, List.setIfInBounds_toArray, List.set_cons_zero, List.set_cons_succ]
  refine lad_j List.mem_cons_self fun g12 => ?_
  simp only [upd, reduceIte]
  try simp only [Nat.reduceEqDiff, reduceIte]
  refine lad_end fun xq w18 st18 hR => ?_
  try dsimp only
  clear hR xq
  refine plan_m rfl rfl ?_
  refine wp_storeS st18 9 rfl rfl rfl rfl (by simp [cw_len]) (by kernel_rfl) (cw_one _ _) ?_
  intro w19 st19
  repeat (first | simp only [List.cons_append] at st19 | simp only [List.nil_append] at st19 | simp only [List.set_cons_succ] at st19 | simp only [List.set_cons_zero] at st19)
  clear st18
  try simp only [Act.put]
  refine plan_end ?_
  refine NoPanic.normal ?_
  go_wp2_with fail
  refine wp_region_noPanic ?_
  refine wp_region_lad st19 5 [.o 4, .t 1, .t 2, .c 0, .c 3, .j 4] (.m 5 .nil) (by kernel_rfl) (by kernel_rfl) (fun _ _ _ _ _ h => h) ?_
  clear st19
  refine lad_o rfl rfl rfl z_rn (cw 4 0) rfl ?_
  try simp only [Act.put, List.setIfInBounds_toArray, List.set_cons_zero, List.set_cons_succ]
  refine lad_arr rfl rfl rfl (fun _ => rfl) (cw 4 (kN ee)) (fun wx hS => St.rangeL hS 8 rfl 0 _ (by rw [List.drop_zero, List.take_of_length_le (Nat.le_refl _)])) Try.underlying24 rfl (by kernel_rfl) ?_
  try simp only [Act.put, List.setIfInBounds_toArray, List.set_cons_zero, List.set_cons_succ]
  refine lad_arr rfl rfl rfl (fun _ => rfl) (cw 4 (kN ee)) (fun wx hS => St.rangeL hS 8 rfl 0 _ (by rw [List.drop_zero, List.take_of_length_le (Nat.le_refl _)])) Try.underlying24 rfl (by kernel_rfl) ?_
  try simp only [Act.put, List.setIfInBounds_toArray, List.set_cons_zero, List.set_cons_succ]
  refine lad_call rfl rfl rfl Try.call36 (fun w hS hR => RF_any _) (fun _ => rfl) ?_
  try simp only [Act.put, List.setIfInBounds_toArray, List.set_cons_zero, List.set_cons_succ]
  refine lad_call rfl rfl rfl Try.call54 (fun w hS hR => KMul ee ee e2 He2.out _) (fun _ => rfl) ?_
  try simp only [Act.put, List.setIfInBounds_toArray, List.set_cons_zero, List.set_cons_succ]
  refine lad_j List.mem_cons_self fun g13 => ?_
  simp only [upd, reduceIte]
  try simp only [Nat.reduceEqDiff, reduceIte]
  refine lad_end fun xq w20 st20 hR => ?_
  try dsimp only
  clear hR xq
  refine plan_m rfl rfl ?_
  refine wp_storeS st20 10 rfl rfl rfl rfl (by simp [cw_len]) (by kernel_rfl) (cw_one _ _) ?_
  intro w21 st21
  repeat (first | simp only [List.cons_append] at st21 | simp only [List.nil_append] at st21 | simp only [List.set_cons_succ] at st21 | simp only [List.set_cons_zero] at st21)
  clear st20
  try simp only [Act.put]
  refine plan_end ?_
  refine NoPanic.normal ?_
  go_wp2_with fail
  refine wp_region_noPanic ?_
  refine wp_region_lad st21 5 [.o 4, .t 1, .t 2, .c 0, .c 3, .j 4] (.m 5 .nil) (by kernel_rfl) (by kernel_rfl) (fun _ _ _ _ _ h => h) ?_
  clear st21
  refine lad_o rfl rfl rfl z_rn (cw 4 0) rfl ?_
  try simp only [Act.put, List.setIfInBounds_toArray, List.set_cons_zero, List.set_cons_succ]
  refine lad_arr rfl rfl rfl (fun _ => rfl) (cw 4 (kN e2)) (fun wx hS => St.rangeL hS 10 rfl 0 _ (by rw [List.drop_zero, List.take_of_length_le (Nat.le_refl _)])) Try.underlying24 rfl (by kernel_rfl) ?_
  try simp only [Act.put, List.setIfInBounds_toArray, List.set_cons_zero, List.set_cons_succ]
  refine lad_arr rfl rfl rfl (fun _ => rfl) (cw 4 (kN ee)) (fun wx hS => St.rangeL hS 8 rfl 0 _ (by rw [List.drop_zero, List.take_of_length_le (Nat.le_refl _)])) Try.underlying24 rfl (by kernel_rfl) ?_
  try simp only [Act.put, List.setIfInBounds_toArray, List.set_cons_zero, List.set_cons_succ]
  refine lad_call rfl rfl rfl Try.call36 (fun w hS hR => RF_any _) (fun _ => rfl) ?_
  try simp only [Act.put, List.setIfInBounds_toArray, List.set_cons_zero, List.set_cons_succ]
  refine lad_call rfl rfl rfl Try.call54 (fun w hS hR => KMul e2 ee e3 He3.out _) (fun _ => rfl) ?_
  try simp only [Act.put, List.setIfInBounds_toArray, List.set_cons_zero, List.set_cons_succ]
  refine lad_j List.mem_cons_self fun g14 => ?_
  simp only [upd, reduceIte]
  try simp only [Nat.reduceEqDiff, reduceIte]
  refine lad_end fun xq w22 st22 hR => ?_
  try dsimp only
  clear hR xq
  refine plan_m rfl rfl ?_
  refine wp_storeS st22 11 rfl rfl rfl rfl (by simp [cw_len]) (by kernel_rfl) (cw_one _ _) ?_
  intro w23 st23
  repeat (first | simp only [List.cons_append] at st23 | simp only [List.nil_append] at st23 | simp only [List.set_cons_succ] at st23 | simp only [List.set_cons_zero] at st23)
  clear st22
  try simp only [Act.put]
  refine plan_end ?_
  refine NoPanic.normal ?_
  go_wp2_with fail
  refine wp_region_noPanic ?_
  refine wp_region_lad st23 20 [.o 19, .t 4, .t 5, .t 7, .t 9, .t 13, .t 14, .t 16, .c 0, .c 1, .c 2, .c 3, .c 6, .c 8, .c 10, .c 11, .c 12, .c 15, .c 17, .c 18, .j 19] (.m 20 .nil) (by kernel_rfl) (by kernel_rfl) (fun _ _ _ _ _ h => h) ?_
  clear st23
  refine lad_o rfl rfl rfl z_rn (cw 4 0) rfl ?_
  try simp only [Act.put, List.setIfInBounds_toArray, List.set_cons_zero, List.set_cons_succ]
  refine lad_arr rfl rfl rfl (fun _ => rfl) (cw 4 (kN d)) (fun wx hS => St.rangeL hS 7 rfl 0 _ (by rw [List.drop_zero, List.take_of_length_le (Nat.le_refl _)])) Try.underlying24 rfl (by kernel_rfl) ?_
  try simp only [Act.put, List.setIfInBounds_toArray, List.set_cons_zero, List.set_cons_succ]
  refine lad_arr rfl rfl rfl (fun _ => rfl) (cw 4 (kN d)) (fun wx hS => St.rangeL hS 7 rfl 0 _ (by rw [List.drop_zero, List.take_of_length_le (Nat.le_refl _)])) Try.underlying24 rfl (by kernel_rfl) ?_
  try simp only [Act.put, List.setIfInBounds_toArray, List.set_cons_zero, List.set_cons_succ]
  refine lad_arr rfl rfl rfl (fun _ => rfl) (cw 4 (kN ww)) (fun wx hS => St.rangeL hS 9 rfl 0 _ (by rw [List.drop_zero, List.take_of_length_le (Nat.le_refl _)])) Try.underlying24 rfl (by kernel_rfl) ?_
  try simp only [Act.put, List.setIfInBounds_toArray, List.set_cons_zero, List.set_cons_succ]
  refine lad_arr rfl rfl rfl (fun _ => rfl) (cw 4 (kN e3)) (fun wx hS => St.rangeL hS 11 rfl 0 _ (by rw [List.drop_zero, List.take_of_length_le (Nat.le_refl _)])) Try.underlying24 rfl (by kernel_rfl) ?_
  try simp only [Act.put, List.setIfInBounds_toArray, List.set_cons_zero, List.set_cons_succ]
  refine lad_arr rfl rfl rfl (fun _ => rfl) (cw 4 (kN v2)) (fun wx hS => St.rangeL hS 6 rfl 0 _ (by rw [List.drop_zero, List.take_of_length_le (Nat.le_refl _)])) Try.underlying24 rfl (by kernel_rfl) ?_
  try simp only [Act.put, List.setIfInBounds_toArray, List.set_cons_zero, List.set_cons_succ]
  refine lad_arr rfl rfl rfl (fun _ => rfl) (cw 4 (kN v2)) (fun wx hS => St.rangeL hS 6 rfl 0 _ (by rw [List.drop_zero, List.take_of_length_le (Nat.le_refl _)])) Try.underlying24 rfl (by kernel_rfl) ?_
  try simp only [Act.put, List.setIfInBounds_toArray, List.set_cons_zero, List.set_cons_succ]
  refine lad_arr rfl rfl rfl (fun _ => rfl) (cw 4 (kN e2)) (fun wx hS => St.rangeL hS 10 rfl 0 _ (by rw [List.drop_zero, List.take_of_length_le (Nat.le_refl _)])) Try.underlying24 rfl (by kernel_rfl) ?_
  try simp only [Act.put, List.setIfInBounds_toArray, List.set_cons_zero, List.set_cons_succ]
  refine lad_call rfl rfl rfl Try.call36 (fun w hS hR => RF_any _) (fun _ => rfl) ?_
  try simp only [Act.put, List.setIfInBounds_toArray, List.set_cons_zero, List.set_cons_succ]
  refine lad_call rfl rfl rfl Try.call36 (fun w hS hR => RF_any _) (fun _ => rfl) ?_
  try simp only [Act.put, List.setIfInBounds_toArray, List.set_cons_zero, List.set_cons_succ]
  refine lad_call rfl rfl rfl Try.call36 (fun w hS hR => RF_any _) (fun _ => rfl) ?_
  try simp only [Act.put, List.setIfInBounds_toArray, List.set_cons_zero, List.set_cons_succ]
  refine lad_call rfl rfl rfl Try.call36 (fun w hS hR => RF_any _) (fun _ => rfl) ?_
  try simp only [Act.put, List.setIfInBounds_toArray, List.set_cons_zero, List.set_cons_succ]
  refine lad_call rfl rfl rfl Try.call54 (fun w hS hR => KMul d d t1 Ht1.out _) (fun _ => rfl) ?_
  try simp only [Act.put, List.setIfInBounds_toArray, List.set_cons_zero, List.set_cons_succ]
  refine lad_call rfl rfl rfl Try.call54 (fun w hS hR => KMul t1 ww t2 Ht2.out _) (fun _ => rfl) ?_
  try simp only [Act.put, List.setIfInBounds_toArray, List.set_cons_zero, List.set_cons_succ]
  refine lad_call rfl rfl rfl Try.call58 (fun w hS hR => KSub t2 e3 t3 Ht3.out _) (fun _ => rfl) ?_
  try simp only [Act.put, List.setIfInBounds_toArray, List.set_cons_zero, List.set_cons_succ]
  refine lad_call rfl rfl rfl Try.call36 (fun w hS hR => RF_any _) (fun _ => rfl) ?_
  try simp only [Act.put, List.setIfInBounds_toArray, List.set_cons_zero, List.set_cons_succ]
  refine lad_call rfl rfl rfl Try.call36 (fun w hS hR => RF_any _) (fun _ => rfl) ?_
  try simp only [Act.put, List.setIfInBounds_toArray, List.set_cons_zero, List.set_cons_succ]
  refine lad_call rfl rfl rfl Try.call59 (fun w hS hR => KAdd v2 v2 t4 Ht4.out _) (fun _ => rfl) ?_
  try simp only [Act.put, List.setIfInBounds_toArray, List.set_cons_zero, List.set_cons_succ]
  refine lad_call rfl rfl rfl Try.call54 (fun w hS hR => KMul t4 e2 t5 Ht5.out _) (fun _ => rfl) ?_
  try simp only [Act.put, List.setIfInBounds_toArray, List.set_cons_zero, List.set_cons_succ]
  refine lad_call rfl rfl rfl Try.call58 (fun w hS hR => KSub t3 t5 t Ht.out _) (fun _ => rfl) ?_
  try simp only [Act.put, List.setIfInBounds_toArray, List.set_cons_zero, List.set_cons_succ]
  refine lad_j List.mem_cons_self fun g15 => ?_
  simp only [upd, reduceIte]
  try simp only [Nat.reduceEqDiff, reduceIte]
  refine lad_end fun xq w24 st24 hR => ?_
  try dsimp only
  clear hR xq
  refine plan_m rfl rfl ?_
  refine wp_storeS st24 12 rfl rfl rfl rfl (by simp [cw_len]) (by kernel_rfl) (cw_one _ _) ?_
  intro w25 st25
  repeat (first | simp only [List.cons_append] at st25 | simp only [List.nil_append] at st25 | simp only [List.set_cons_succ] at st25 | simp only [List.set_cons_zero] at st25)
  clear st24
  try simp only [Act.put]
  refine plan_end ?_
  refine NoPanic.normal ?_
  go_wp2_with fail
  refine wp_region_noPanic ?_
  refine wp_region_lad st25 25 [.t 1, .t 2, .t 6, .t 9, .t 10, .t 12, .t 16, .t 17, .t 21, .t 22, .c 0, .c 3, .c 4, .c 5, .c 7, .c 8, .c 11, .c 13, .c 14, .c 15, .c 18, .c 19, .c 20, .c 23, .w 24] (.m 25 .nil) (by kernel_rfl) (by kernel_rfl) (fun _ _ _ _ _ h => h) ?_
  clear st25
  refine lad_arr rfl rfl rfl (fun _ => rfl) (cw 4 (kN ee)) (fun wx hS => St.rangeL hS 8 rfl 0 _ (by rw [List.drop_zero, List.take_of_length_le (Nat.le_refl _)])) Try.underlying24 rfl (by kernel_rfl) ?_
  try simp only [Act.put, List.setIfInBounds_toArray, List.set_cons_zero, List.set_cons_succ]
  refine lad_arr rfl rfl rfl (fun _ => rfl) (cw 4 (kN t)) (fun wx hS => St.rangeL hS 12 rfl 0 _ (by rw [List.drop_zero, List.take_of_length_le (Nat.le_refl _)])) Try.underlying24 rfl (by kernel_rfl) ?_
  try simp only [Act.put, List.setIfInBounds_toArray, List.set_cons_zero, List.set_cons_succ]
  refine lad_arr rfl rfl rfl (fun _ => rfl) (cw 4 (kN d)) (fun wx hS => St.rangeL hS 7 rfl 0 _ (by rw [List.drop_zero, List.take_of_length_le (Nat.le_refl _)])) Try.underlying24 rfl (by kernel_rfl) ?_
  try simp only [Act.put, List.setIfInBounds_toArray, List.set_cons_zero, List.set_cons_succ]
  refine lad_arr rfl rfl rfl (fun _ => rfl) (cw 4 (kN v2)) (fun wx hS => St.rangeL hS 6 rfl 0 _ (by rw [List.drop_zero, List.take_of_length_le (Nat.le_refl _)])) Try.underlying24 rfl (by kernel_rfl) ?_
  try simp only [Act.put, List.setIfInBounds_toArray, List.set_cons_zero, List.set_cons_succ]
  refine lad_arr rfl rfl rfl (fun _ => rfl) (cw 4 (kN e2)) (fun wx hS => St.rangeL hS 10 rfl 0 _ (by rw [List.drop_zero, List.take_of_length_le (Nat.le_refl _)])) Try.underlying24 rfl (by kernel_rfl) ?_
  try simp only [Act.put, List.setIfInBounds_toArray, List.set_cons_zero, List.set_cons_succ]
  refine lad_arr rfl rfl rfl (fun _ => rfl) (cw 4 (kN t)) (fun wx hS => St.rangeL hS 12 rfl 0 _ (by rw [List.drop_zero, List.take_of_length_le (Nat.le_refl _)])) Try.underlying24 rfl (by kernel_rfl) ?_
  try simp only [Act.put, List.setIfInBounds_toArray, List.set_cons_zero, List.set_cons_succ]
  refine lad_arr rfl rfl rfl (fun _ => rfl) (cw 4 (kN u2)) (fun wx hS => St.rangeL hS 5 rfl 0 _ (by rw [List.drop_zero, List.take_of_length_le (Nat.le_refl _)])) Try.underlying24 rfl (by kernel_rfl) ?_
  try simp only [Act.put, List.setIfInBounds_toArray, List.set_cons_zero, List.set_cons_succ]
  refine lad_arr rfl rfl rfl (fun _ => rfl) (cw 4 (kN e3)) (fun wx hS => St.rangeL hS 11 rfl 0 _ (by rw [List.drop_zero, List.take_of_length_le (Nat.le_refl _)])) Try.underlying24 rfl (by kernel_rfl) ?_
  try simp only [Act.put, List.setIfInBounds_toArray, List.set_cons_zero, List.set_cons_succ]
  refine lad_arr rfl rfl rfl (fun _ => rfl) (cw 4 (kN e3)) (fun wx hS => St.rangeL hS 11 rfl 0 _ (by rw [List.drop_zero, List.take_of_length_le (Nat.le_refl _)])) Try.underlying24 rfl (by kernel_rfl) ?_
  try simp only [Act.put, List.setIfInBounds_toArray, List.set_cons_zero, List.set_cons_succ]
  refine lad_arr rfl rfl rfl (fun _ => rfl) (cw 4 (kN ww)) (fun wx hS => St.rangeL hS 9 rfl 0 _ (by rw [List.drop_zero, List.take_of_length_le (Nat.le_refl _)])) Try.underlying24 rfl (by kernel_rfl) ?_
  try simp only [Act.put, List.setIfInBounds_toArray, List.set_cons_zero, List.set_cons_succ]
  refine lad_call rfl rfl rfl Try.call36 (fun w hS hR => RF_any _) (fun _ => rfl) ?_
  try simp only [Act.put, List.setIfInBounds_toArray, List.set_cons_zero, List.set_cons_succ]
  refine lad_call rfl rfl rfl Try.call54 (fun w hS hR => KMul ee t X HX.out _) (fun _ => rfl) ?_
  try simp only [Act.put, List.setIfInBounds_toArray, List.set_cons_zero, List.set_cons_succ]
  refine lad_call rfl rfl rfl Try.call36 (fun w hS hR => RF_any _) (fun _ => rfl) ?_
  try simp only [Act.put, List.setIfInBounds_toArray, List.set_cons_zero, List.set_cons_succ]
  refine lad_call rfl rfl rfl Try.call36 (fun w hS hR => RF_any _) (fun _ => rfl) ?_
  try simp only [Act.put, List.setIfInBounds_toArray, List.set_cons_zero, List.set_cons_succ]
  refine lad_call rfl rfl rfl Try.call36 (fun w hS hR => RF_any _) (fun _ => rfl) ?_
  try simp only [Act.put, List.setIfInBounds_toArray, List.set_cons_zero, List.set_cons_succ]
  refine lad_call rfl rfl rfl Try.call36 (fun w hS hR => RF_any _) (fun _ => rfl) ?_
  try simp only [Act.put, List.setIfInBounds_toArray, List.set_cons_zero, List.set_cons_succ]
  refine lad_call rfl rfl rfl Try.call54 (fun w hS hR => KMul v2 e2 s1 Hs1.out _) (fun _ => rfl) ?_
  try simp only [Act.put, List.setIfInBounds_toArray, List.set_cons_zero, List.set_cons_succ]
  refine lad_call rfl rfl rfl Try.call58 (fun w hS hR => KSub s1 t s2 Hs2.out _) (fun _ => rfl) ?_
  try simp only [Act.put, List.setIfInBounds_toArray, List.set_cons_zero, List.set_cons_succ]
  refine lad_call rfl rfl rfl Try.call54 (fun w hS hR => KMul d s2 s3 Hs3.out _) (fun _ => rfl) ?_
  try simp only [Act.put, List.setIfInBounds_toArray, List.set_cons_zero, List.set_cons_succ]
  refine lad_call rfl rfl rfl Try.call36 (fun w hS hR => RF_any _) (fun _ => rfl) ?_
  try simp only [Act.put, List.setIfInBounds_toArray, List.set_cons_zero, List.set_cons_succ]
  refine lad_call rfl rfl rfl Try.call54 (fun w hS hR => KMul u2 e3 s4 Hs4.out _) (fun _ => rfl) ?_
  try simp only [Act.put, List.setIfInBounds_toArray, List.set_cons_zero, List.set_cons_succ]
  refine lad_call rfl rfl rfl Try.call58 (fun w hS hR => KSub s3 s4 Y HY.out _) (fun _ => rfl) ?_
  try simp only [Act.put, List.setIfInBounds_toArray, List.set_cons_zero, List.set_cons_succ]
  refine lad_call rfl rfl rfl Try.call36 (fun w hS hR => RF_any _) (fun _ => rfl) ?_
  try simp only [Act.put, List.setIfInBounds_toArray, List.set_cons_zero, List.set_cons_succ]
  refine lad_call rfl rfl rfl Try.call54 (fun w hS hR => KMul e3 ww Z HZ.out _) (fun _ => rfl) ?_
  try simp only [Act.put, List.setIfInBounds_toArray, List.set_cons_zero, List.set_cons_succ]
  refine lad_w rfl rfl (fun _ => exec_build rfl _ (built_rp _ _ _)) ?_
  try simp only [Act.put, List.setIfInBounds_toArray, List.set_cons_zero, List.set_cons_succ]
  refine lad_end fun xq w26 st26 hR => ?_
  try dsimp only
  clear hR xq
  refine plan_m rfl rfl ?_
  refine wp_storeS st26 2 rfl rfl rfl rfl (by simp [cw_len]) (by kernel_rfl) (pt_one _ _ _) ?_
  intro w27 st27
  repeat (first | simp only [List.cons_append] at st27 | simp only [List.nil_append] at st27 | simp only [List.set_cons_succ] at st27 | simp only [List.set_cons_zero] at st27)
  clear st26
  try simp only [Act.put]
  refine plan_end ?_
  refine NoPanic.normal ?_
  have hr := st27.at 2 rfl
  have hfr := st27.fr
  clear st27
  go_wp2_with fail
  exact bodyPost_ret (results_st rfl rfl hr Try.underlying26 rfl (by kernel_rfl)) rfl ⟨rfl, hfr⟩
end Go.Proofs.Ytdbgddngapminaa

/- The reference's points as values: what its Plus, Neg, None answer. -/
namespace Go.Proofs.Ytdbgddngapminaa
open Go.RowKit Go.Mv Mvp Mvq
/-- a point of the reference's -/
structure RT where
  x : K
  y : K
  z : K
  on : onC (nm x y z)
def RT.pt (s : RT) : Pt := nm s.x s.y s.z
def RT.L (s : RT) : List Value := rpL s.x s.y s.z
theorem rpL_len (x y z : K) : (rpL x y z).length = 12 := by simp [rpL, cw_len]
theorem RT.len (s : RT) : s.L.length = 12 := rpL_len _ _ _
theorem RT.one (s : RT) : ∀ v ∈ s.L, v.oneCell' = true := pt_one _ _ _
theorem RT.onP (s : RT) : onC s.pt := s.on
theorem rdouble_is (x y z : K) (ho : onC (nm x y z)) (hz : z ≠ 0) : ∃ X Y Z, nm X Y Z = padd (nm x y z) (nm x y z) ∧ ∀ wx, Calls Try.prog 57 #[rpV x y z] wx fun e w' => e = .returned (rpV X Y Z) ∧ Fr Nob wx w' := by
  refine ⟨_, _, _, ?_, fun wx => Rdouble_v x y z _ _ _ _ _ _ _ _ _ _ _ _ _ _ _ _ _ _ _ rfl rfl rfl rfl rfl rfl rfl rfl rfl rfl rfl rfl rfl rfl rfl rfl rfl rfl rfl wx⟩
  exact rk_double ho hz (x * x) _ _ _ _ _ rfl (by grind -lia -linarith) (by grind -lia -linarith) rfl rfl (by grind -lia -linarith)
theorem rplus_is (x1 y1 z1 x2 y2 z2 : K) (ho1 : onC (nm x1 y1 z1)) (ho2 : onC (nm x2 y2 z2)) : ∃ X Y Z, nm X Y Z = padd (nm x1 y1 z1) (nm x2 y2 z2) ∧ ∀ wx, Calls Try.prog 20 #[rpV x1 y1 z1, rpV x2 y2 z2] wx fun e w' => e = .returned (rpV X Y Z) ∧ Fr Nob wx w' := by
  by_cases hz1 : z1 = 0
  · exact ⟨x2, y2, z2, by rw [nm_z hz1]; rfl, fun wx => RPlus_none1 x1 y1 z1 x2 y2 z2 (by simpa using hz1) wx⟩
  · by_cases hz2 : z2 = 0
    · exact ⟨x1, y1, z1, by rw [nm_z hz2, padd_zero], fun wx => RPlus_none2 x1 y1 z1 x2 y2 z2 (by simpa using hz1) (by simpa using hz2) wx⟩
    · by_cases hv : x2 * z1 = x1 * z2
      · have hs := rk_same ho1 ho2 hz1 hz2 hv
        by_cases hu : y2 * z1 = y1 * z2
        · obtain ⟨X, Y, Z, h1, h2⟩ := rdouble_is x1 y1 z1 ho1 hz1
          refine ⟨X, Y, Z, by rw [h1, hs.1 hu], fun wx => RPlus_dbl x1 y1 z1 x2 y2 z2 (by simpa using hz1) (by simpa using hz2) _ _ _ _ rfl rfl rfl rfl (by simpa using hv) (by simpa using hu) (by simpa using hs.2.2) X Y Z h2 wx⟩
        · exact ⟨0, 1, 0, by rw [nm_z rfl, hs.2.1 hu], fun wx => RPlus_opp x1 y1 z1 x2 y2 z2 (by simpa using hz1) (by simpa using hz2) _ _ _ _ rfl rfl rfl rfl (by simpa using hv) (by simpa using hu) wx⟩
      · refine ⟨_, _, _, ?_, fun wx => RPlus_v x1 y1 z1 x2 y2 z2 (by simpa using hz1) (by simpa using hz2) _ _ _ _ _ _ _ _ _ _ _ _ _ _ _ _ _ _ _ _ _ _ rfl rfl rfl rfl rfl rfl rfl rfl rfl rfl rfl rfl rfl rfl rfl rfl rfl rfl rfl rfl rfl rfl (by simpa using hv) wx⟩
        exact rk_plus ho1 ho2 hz1 hz2 (y2 * z1) (x2 * z1) (y1 * z2) (x1 * z2) _ _ _ _ _ _ rfl rfl rfl rfl rfl rfl (fun h => hv (by
          have h2 : x2 * z1 - x1 * z2 + x1 * z2 = 0 + x1 * z2 := by rw [h]
          grind -lia -linarith)) rfl rfl rfl (by grind -lia -linarith)
theorem RAdd_ex (s t : RT) : ∃ r : RT, r.pt = padd s.pt t.pt ∧ ∀ wx, Calls Try.prog 20 #[.agg s.L.toArray, .agg t.L.toArray] wx fun e w' => e = .returned (.agg r.L.toArray) ∧ Fr Nob wx w' := by
  obtain ⟨X, Y, Z, h1, h2⟩ := rplus_is s.x s.y s.z t.x t.y t.z s.on t.on
  exact ⟨⟨X, Y, Z, by rw [h1]; exact padd_on s.on t.on⟩, h1, h2⟩
noncomputable def addR (s t : RT) : RT := Classical.choose (RAdd_ex s t)
theorem addR_pt (s t : RT) : (addR s t).pt = padd s.pt t.pt := (Classical.choose_spec (RAdd_ex s t)).1
theorem RPlus_c (s t : RT) (w : World) : Calls Try.prog 20 #[.agg s.L.toArray, .agg t.L.toArray] w fun e w' => e = .returned (.agg (addR s t).L.toArray) ∧ Fr Nob w w' := (Classical.choose_spec (RAdd_ex s t)).2 w
def noR : RT := ⟨0, 1, 0, by rw [nm_z rfl]; trivial⟩
theorem noR_pt : noR.pt = .O := nm_z rfl
theorem RNone_c (w : World) : Calls Try.prog 35 #[] w fun e w' => e = .returned (.agg noR.L.toArray) ∧ Fr Nob w w' := RNone_any w
theorem nm_neg (x y z : K) : nm x (-y) z = pneg (nm x y z) := by
  unfold nm
  split
  · rfl
  · show Pt.A _ _ = Pt.A _ _
    congr 1
    grind -lia -linarith
def negR (s : RT) : RT := ⟨s.x, -s.y, s.z, by rw [nm_neg]; exact pneg_on s.on⟩
theorem negR_pt (s : RT) : (negR s).pt = pneg s.pt := nm_neg _ _ _
theorem RNeg_c (s : RT) (w : World) : Calls Try.prog 18 #[.agg s.L.toArray] w fun e w' => e = .returned (.agg (negR s).L.toArray) ∧ Fr Nob w w' := RNeg_any s.x s.y s.z _ rfl w
def RT.isO (s : RT) : Bool := decide (s.z = 0)
theorem RT.isO_t {s : RT} (h : s.isO = true) : s.pt = .O := nm_z (by simpa [RT.isO] using h)
theorem RIs_c (s : RT) (w : World) : Calls Try.prog 52 #[.agg s.L.toArray] w fun e w' => e = .returned (.bool s.isO) ∧ Fr Nob w w' := RIs_any s.x s.y s.z _ rfl w
theorem nm_one (x y : K) : nm x y 1 = .A x y := nm_is (by decide) (by grind -lia -linarith) (by grind -lia -linarith)
def affR (x y : K) (h : onC (.A x y)) : RT := ⟨x, y, 1, by rw [nm_one]; exact h⟩
theorem affR_pt (x y : K) (h : onC (.A x y)) : (affR x y h).pt = .A x y := nm_one x y
theorem rtOk_mod (p x : Nat) : rtOk p (x % p) = rtOk p x := by
  unfold rtOk rtN
  rw [Nat.mul_mod, Nat.pow_mod, Nat.mod_mod, ← Nat.pow_mod, ← Nat.mul_mod]
theorem rtV_mod (x : Nat) : kc (rtV fP (x % fP)) = kc (rtV fP x) := by
  have h : rtN fP (x % fP) % fP = rtN fP x % fP := by unfold rtN; rw [← Nat.pow_mod]
  have hk : kc (rtN fP (x % fP)) = kc (rtN fP x) := by rw [← kc_mod, h, kc_mod]
  unfold rtV
  rw [h]
  split
  · rfl
  · exact hk
/-- rounds of Times: what out is behind k of them -/
noncomputable def tmsR (n : Nat) (s : RT) : Nat → RT
  | 0 => noR
  | k + 1 => if n / 2 ^ (255 - k) % 2 = 1 then addR (addR (tmsR n s k) (tmsR n s k)) s else addR (tmsR n s k) (tmsR n s k)
theorem tmsR_succ (n : Nat) (s : RT) (k : Nat) : tmsR n s (k + 1) = if n / 2 ^ (255 - k) % 2 = 1 then addR (addR (tmsR n s k) (tmsR n s k)) s else addR (tmsR n s k) (tmsR n s k) := rfl
theorem tmsR_zero (n : Nat) (s : RT) : tmsR n s 0 = noR := rfl
theorem tmsR_pt (n : Nat) (hn : n < 2 ^ 256) (s : RT) : ∀ k, k ≤ 256 → (tmsR n s k).pt = pmul (n / 2 ^ (256 - k)) s.pt
  | 0, _ => by
    show noR.pt = _
    rw [noR_pt, Nat.sub_zero, Nat.div_eq_of_lt hn]
    rfl
  | k + 1, h => by
    have ih := tmsR_pt n hn s k (by omega)
    have hb := pmul_bit s.on n (255 - k)
    rw [show 256 - (k + 1) = 255 - k by omega]
    rw [show 256 - k = 255 - k + 1 by omega] at ih
    show _ = pmul (n / 2 ^ (255 - k)) (nm s.x s.y s.z)
    rw [hb]
    show (if n / 2 ^ (255 - k) % 2 = 1 then addR (addR (tmsR n s k) (tmsR n s k)) s else addR (tmsR n s k) (tmsR n s k)).pt = _
    by_cases h1 : n / 2 ^ (255 - k) % 2 = 1
    · rw [if_pos h1, if_pos h1, addR_pt, addR_pt, ih]; rfl
    · rw [if_neg h1, if_neg h1, addR_pt, ih, padd_zero]; rfl
noncomputable def timesR (n : Nat) (s : RT) : RT := tmsR n s 256
theorem timesR_pt (n : Nat) (hn : n < 2 ^ 256) (s : RT) : (timesR n s).pt = pmul n s.pt := by
  have := tmsR_pt n hn s 256 (Nat.le_refl _)
  rwa [Nat.sub_self, Nat.pow_zero, Nat.div_one] at this
end Go.Proofs.Ytdbgddngapminaa
