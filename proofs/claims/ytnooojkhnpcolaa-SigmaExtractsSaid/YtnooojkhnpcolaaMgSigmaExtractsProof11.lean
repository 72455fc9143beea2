/- zn.All; sigma.Extract; mintvaultref1.Still: is a list all as it was lent?; The law NumReduces; num.Add, Sub, Mul, Inv: what they answer; The law NumReckons; sigma.Extract; the reference's Scalar, Q, Extract. -/
import Derived.Test.YtnooojkhnpcolaaMgSigmaExtractsProof10
import Derived.Test.YtnooojkhnpcolaaMgSigmaExtractsProof5
import Derived.Test.YtnooojkhnpcolaaMgSigmaExtractsProof9
import Derived.Test.YtnooojkhnpcolaaMgSigmaExtractsProof6
namespace Go.Proofs.Ytnooojkhnpcolaa
open Go.RowKit Go.Mv Mvp
/-- how zn.All answers -/
def AllPost (m : Md) (ls : List (List UInt8)) (w : World) (e : Ending) (w' : World) : Prop :=
  (numsB m ls = true → ∃ v, e = .returned (.tuple #[v, .bool true]) ∧ Own w' w.heap.size 94 4 v ls.length (elCells m ls)) ∧
  (numsB m ls = false → e = .returned (.tuple #[.slice none 0 0, .bool false])) ∧ Fr Nob w w'
theorem AllPost.bad {m : Md} {ls : List (List UInt8)} {w w' : World} {e : Ending} (h : numsB m ls = false) (he : e = .returned (.tuple #[.slice none 0 0, .bool false])) (hf : Fr Nob w w') : AllPost m ls w e w' :=
  ⟨fun h1 => (by rw [h] at h1; cases h1), fun _ => he, hf⟩
theorem AllPost.good {m : Md} {ls : List (List UInt8)} {w w' : World} {e : Ending} {v : Value} (h : numsB m ls = true) (he : e = .returned (.tuple #[v, .bool true])) (ho : Own w' w.heap.size 94 4 v ls.length (elCells m ls)) (hf : Fr Nob w w') : AllPost m ls w e w' :=
  ⟨fun _ => ⟨v, he, ho⟩, fun h1 => (by rw [h] at h1; cases h1), hf⟩
theorem info_bs : (Try.prog.info? 22).map (fun i => (i.zero, i.size, i.bytes)) = some (some (.slice none 0 0), 1, 24) := by kernel_rfl
attribute [local irreducible] limbs lw mix cw cSub cAdd cMul foldC valFrom beN laid be32 powm montT mstep elN mdL elCells numsB numB

set_option maxHeartbeats 16000000 in
set_option maxRecDepth 1000000 in
theorem All_any (m : Md) (hk : KindOf 1 m) (al : Option Addr) (n cl : Nat) (vs : List Value) (ls : List (List UInt8)) (w : World) (hv : Rd w al n vs) (hp : BParts w vs ls) (hn : n ≤ 100000) :
    Calls Try.prog 43 #[.slice al n cl] w (AllPost m ls w) := by
  have HK := Lib.hid hk
  have HOK := Lib.hid hk.ok
  have HV := Lib.hid hv
  have HP := Lib.hid hp
  have HL := Lib.hid (show ls.length = n by rw [← hp.1, hv.len])
  clear hk hv hp
  go_enter Try.func43, Try.ntmps43
  go_wp2
  go_loopw [4, 11] (fun v i wr => ∃ k : Nat, k ≤ n ∧ i = .int .i64 (k : Int) ∧ numsB m (ls.take k) = true ∧ Own wr w.heap.size 94 4 v k (elCells m (ls.take k)) ∧ Fr Nob w wr) (fun _ i _ => n - (intOf i).toNat)
  case atStart => exact ⟨0, Nat.zero_le _, rfl, by rw [List.take_zero]; unfold numsB; rfl, by rw [List.take_zero]; unfold elCells; exact Own.nil _ _ _ _, Fr.refl _ _⟩
  case round =>
    obtain ⟨k, hk, rfl, hgood, hown, hf⟩ := hrel
    by_cases hlt : k < n
    · have hltI : (k : Int) < (n : Int) := by omega
      obtain ⟨b, o, rfl, hat⟩ := (HV.out.still hf).at (by omega)
      have hvl : k < vs.length := by rw [HV.out.len]; exact hlt
      obtain ⟨a, nn, c, hve, hcc, hrd⟩ := HP.out.2 k (vs[k]'hvl) (List.getElem?_eq_getElem hvl)
      have hc1 := hat k _ (List.getElem?_eq_getElem hvl)
      rw [hve] at hc1
      have hlk : k < ls.length := by rw [HL.out]; exact hlt
      have hts := numsB_take m ls k hlk
      have hcs : elCells m (ls.take (k + 1)) = elCells m (ls.take k) ++ cw 4 (elN m (beN (ls.getD k []))) := by
        rw [List.take_succ_eq_append_getElem hlk, elCells_snoc]
        simp [List.getD_eq_getElem?_getD, hlk]
      have hbad := numsB_bad m ls k hlk
      generalize hL : ls.getD k [] = l at *
      have HLL := Lib.hid hL
      have HRD := Lib.hid (hrd.still hf)
      have HTS := Lib.hid hts
      have HCS := Lib.hid hcs
      have HBAD := Lib.hid hbad
      have HG := Lib.hid hgood
      have HOWN := Lib.hid hown
      have HF := Lib.hid hf
      have hnI : (n : Int) ≤ 100000 := by omega
      clear hL hrd hts hcs hbad hgood hown hf hat hve hcc
      cases hnb : numB m l
      · have HNB := Lib.hid hnb
        have HNL := Lib.hid (HBAD.out hnb)
        clear hnb
        have st0 := St.start Nob wr
        go_wp2_with fail
        refine (Zof_f m HK.out a nn c l _ (HRD.out.still st0.fr) HNB.out).mono ?_
        rintro e' w1 ⟨rfl, hf1⟩
        have st1 := st0.keep hf1
        clear st0 hf1
        go_wp2_with (with_reducible refine wl_stop (o := ⟨some 7, _, _, _, _, _⟩) ?_)
        refine wl_allocS st1 rfl rfl (z := .agg #[.int .u64 0, .int .u64 0, .int .u64 0, .int .u64 0]) (by kernel_rfl) (cw 4 0) (by rw [cw_zero]; rfl) ?_
        intro g7 w2 st2
        clear st1
        go_wp2_with (with_reducible refine wl_stop (o := ⟨none, _, _, _, _, _⟩) ?_)
        refine wl_storeS st2 0 rfl rfl rfl rfl rfl (by first | (simp only [cw_len]; done) | (simp only [List.length_append, cw_len]; done)) (by first | (rw [cw_len]; kernel_rfl) | (simp only [List.length_append, cw_len]; kernel_rfl)) (cw_one _ _) ?_
        intro w3 st3
        clear st2
        have HFR := Lib.hid (HF.out.then st3.fr)
        clear st3
        go_wp2_with fail
        go_ret2
        exact AllPost.bad HNL.out rfl HFR.out
      · have HNB := Lib.hid hnb
        clear hnb
        have st0 := St.start Nob wr
        go_wp2_with fail
        refine (Zof_t m HK.out a nn c l _ (HRD.out.still st0.fr) HNB.out).mono ?_
        rintro e' w1 ⟨rfl, hf1⟩
        have st1 := st0.keep hf1
        clear st0 hf1
        go_wp2_with (with_reducible refine wl_stop (o := ⟨some 7, _, _, _, _, _⟩) ?_)
        refine wl_allocS st1 rfl rfl (z := .agg #[.int .u64 0, .int .u64 0, .int .u64 0, .int .u64 0]) (by kernel_rfl) (cw 4 0) (by rw [cw_zero]; rfl) ?_
        intro g7 w2 st2
        clear st1
        go_wp2_with (with_reducible refine wl_stop (o := ⟨none, _, _, _, _, _⟩) ?_)
        refine wl_storeS st2 0 rfl rfl rfl rfl rfl (by first | (simp only [cw_len]; done) | (simp only [List.length_append, cw_len]; done)) (by first | (rw [cw_len]; kernel_rfl) | (simp only [List.length_append, cw_len]; kernel_rfl)) (cw_one _ _) ?_
        intro w3 st3
        clear st2
        go_wp2_with (with_reducible refine wl_stop (o := ⟨some 23, _, _, _, _, _⟩) ?_)
        refine wl_loadSt st3 0 rfl rfl rfl Try.underlying94 rfl rfl (by first | (rw [cw_len]; kernel_rfl) | (simp only [List.length_append, cw_len]; kernel_rfl)) ?_
        go_wp2_with (with_reducible refine wl_stop (o := ⟨some 24, _, _, _, _, _⟩) ?_)
        refine wl_slitR rfl rfl Try.underlying87 info_Z [i4 (elN m (beN l))] rfl (by simp [i4, Value.cells, cw_len]) rfl (cw 4 (elN m (beN l))) (by simp [i4_cells]) ?_
        intro wA hgA hfA hzA
        clear hzA
        have hfrA := st3.fr.then hfA
        have hsz := HF.out.size
        have hsz2 := hfrA.size
        have hownA := HOWN.out.still hfrA
        have hrdA : Rd wA (some ⟨w3.heap.size, 0, none⟩) (1 * 4) (cw 4 (elN m (beN l))) := by
          have := Rd.whole hgA
          rwa [cw_len] at this
        have HRDA := Lib.hid hrdA
        have HOWNA := Lib.hid hownA
        have HFRA := Lib.hid hfrA
        clear hgA hfA hrdA hownA hfrA st3
        generalize w3.heap.size = gA at *
        go_wp2_with (with_reducible refine wl_stop (o := ⟨some 25, _, _, _, _, _⟩) ?_)
        refine wl_append rfl rfl Try.underlying87 info_Z rfl (by decide) HOWNA.out rfl rfl HRDA.out (cw_one _ _) (by unfold maxLen; omega) (by omega) (by omega) ?_
        intro vB wB hownB hfB hbB
        clear hbB
        have hfrB := HOWNA.out.fr (HF.out.then HFRA.out) (Nat.le_refl _) hfB
        have HFRB := Lib.hid hfrB
        rw [← HCS.out] at hownB
        have HOWNB := Lib.hid hownB
        clear hfrB hownB hfB
        go_wp2_with fail
        go_roundw
        case rel => exact ⟨k + 1, by omega, by go_num, by rw [HTS.out, HG.out, HNB.out]; rfl, HOWNB.out, HFRB.out⟩
        case measure => simp [intOf]; omega
    · have hge : ¬ ((k : Int) < (n : Int)) := by omega
      have hkn : k = ls.length := by rw [HL.out]; omega
      rw [hkn, List.take_of_length_le (Nat.le_refl _)] at hgood hown
      have HG := Lib.hid hgood
      have HO := Lib.hid hown
      have HF := Lib.hid hf
      clear hkn hgood hown hf
      go_wp2_with fail
      go_ret2
      exact AllPost.good HG.out rfl HO.out HF.out
end Go.Proofs.Ytnooojkhnpcolaa

/- mintvaultref1.Still: is a list all as it was lent? -/
namespace Go.Proofs.Ytnooojkhnpcolaa
open Go.RowKit Go.Mv Mvp

theorem ret_bool {a b : Bool} (h : a = b) : Ending.returned (.bool a) = .returned (.bool b) := by rw [h]

set_option maxHeartbeats 400000 in
set_option maxRecDepth 100000 in
theorem still_any (b : Option Addr) (n c : Nat) (l : List UInt8) (s : ByteArray) (w : World) (hs : s.size ≤ 1000000) (hb : RdB w b n l) :
    Calls Try.prog 13 #[.slice b n c, .string s] w fun e w' => e = .returned (.bool (decide (l = lentL s.data.toList))) ∧ Fr Nob w w' := by
  go_enter Try.func13, Try.ntmps13
  go_wp2_with fail
  refine (lent_any s _ hs).mono ?_
  rintro e w1 ⟨rfl, hh, hf, hz⟩
  have hb1 := hb.still hf
  have hc1 : RdB w1 (some ⟨w.heap.size, 0, none⟩) (s.size + 160) (lentL s.data.toList) := by
    have := Rd.whole hh
    rwa [length_bs, lentL_len, size_list] at this
  go_wp2_with (first
    | (with_reducible refine wl_stop (o := ⟨some 9, _, _, _, _, _⟩) ?_))
  refine wl_string rfl rfl Try.underlying22 Try.underlying5 Try.underlying9 rfl hb1 ?_
  go_wp2_with (first
    | (with_reducible refine wl_stop (o := ⟨some 11, _, _, _, _, _⟩) ?_))
  refine wl_string rfl rfl Try.underlying22 Try.underlying5 Try.underlying9 rfl hc1 ?_
  go_wp2_with fail
  go_ret
  exact ⟨ret_bool (beq_mkS _ _), hf⟩
end Go.Proofs.Ytnooojkhnpcolaa

/- The law NumReduces. -/
namespace Go.Proofs.Ytnooojkhnpcolaa
open Go.RowKit Go.Mv Mvp
theorem lentL_take (s : ByteArray) : (lentL s.data.toList).take s.size = s.data.toList := by
  unfold lentL
  rw [List.take_append_of_le_length (by simp), List.take_of_length_le (by simp)]
attribute [local irreducible] limbs lw mix cw cSub cAdd cMul foldC valFrom beN laid be32 powm montT mstep elN mdL lentL

end Go.Proofs.Ytnooojkhnpcolaa

/- num.Add, Sub, Mul, Inv: what they answer. -/
namespace Go.Proofs.Ytnooojkhnpcolaa
open Go.RowKit Go.Mv Mvp
attribute [local irreducible] limbs lw mix cw cSub cAdd cMul foldC valFrom beN laid be32 powm montT mstep elN mdL elCells numsB numB
theorem info_bsl : (Try.prog.info? 22).map (fun i => (i.zero, i.size, i.bytes)) = some (some (.slice none 0 0), 1, 24) := by kernel_rfl

end Go.Proofs.Ytnooojkhnpcolaa

/- The law NumReckons. -/
namespace Go.Proofs.Ytnooojkhnpcolaa
open Go.RowKit Go.Mv Mvp
theorem Number_t (m : Md) (hM : m.M < B64 ^ 4) (s : ByteArray) (w : World) (h : numB m s.data.toList = true) :
    Calls Try.prog 76 #[fv m.M, .string s] w fun e w' => e = .returned (.tuple #[i4 (beN s.data.toList), .bool true]) ∧ Fr Nob w w' := by
  unfold numB at h
  simp only [Bool.and_eq_true, decide_eq_true_eq] at h
  refine (Number_ok m.M s w (by have := h.1; simpa using this) hM).mono fun e w' he => ?_
  rw [decide_eq_true h.2] at he
  exact he
theorem Number_f (m : Md) (hM : m.M < B64 ^ 4) (s : ByteArray) (w : World) (h : numB m s.data.toList = false) :
    Calls Try.prog 76 #[fv m.M, .string s] w fun e w' => ∃ N, e = .returned (.tuple #[i4 N, .bool false]) ∧ Fr Nob w w' := by
  by_cases hs : s.size = 32
  · refine (Number_ok m.M s w hs hM).mono fun e w' he => ?_
    have h2 : ¬ beN s.data.toList < m.M := by
      intro hb
      unfold numB at h
      rw [decide_eq_true hb, decide_eq_true (by simpa using hs)] at h
      cases h
    rw [decide_eq_false h2] at he
    exact ⟨_, he⟩
  · exact (Number_bad m.M s w hs).mono fun e w' he => ⟨_, he⟩
theorem sub_same (a b M : Nat) (h : b < M) : (a + (M - b % M)) % M = (a + (M - b)) % M := by
  rw [Nat.mod_eq_of_lt h]
theorem numB_lt (m : Md) (l : List UInt8) (h : numB m l = true) : beN l < m.M := by
  unfold numB at h
  simp only [Bool.and_eq_true, decide_eq_true_eq] at h
  exact h.2
attribute [local irreducible] limbs lw mix cw cSub cAdd cMul foldC valFrom beN laid be32 powm montT mstep elN mdL lentL numB numsB elCells

end Go.Proofs.Ytnooojkhnpcolaa

/- sigma.Extract; the reference's Scalar, Q, Extract. -/
namespace Mvp
/-- the secret, out of two answers to two challenges -/
def secN (M c1 z1 c2 z2 : Nat) : Nat := (z1 + (M - z2 % M)) * (c1 + (M - c2 % M)) ^ (M - 2) % M
end Mvp
namespace Go.Proofs.Ytnooojkhnpcolaa
open Go.RowKit Go.Mv Mvp
attribute [local irreducible] limbs lw mix cw cSub cAdd cMul foldC valFrom beN laid be32 powm montT mstep elN mdL elCells numsB numB

theorem BParts.four {w : World} {v1 v2 v3 v4 : Value} {l1 l2 l3 l4 : List UInt8} (h1 : BPart w v1 l1) (h2 : BPart w v2 l2) (h3 : BPart w v3 l3) (h4 : BPart w v4 l4) : BParts w [v1, v2, v3, v4] [l1, l2, l3, l4] := ⟨rfl, fun i x hx => by
  match i with
  | 0 => simp at hx; subst hx; exact h1
  | 1 => simp at hx; subst hx; exact h2
  | 2 => simp at hx; subst hx; exact h3
  | 3 => simp at hx; subst hx; exact h4
  | i + 4 => simp at hx⟩

set_option maxHeartbeats 16000000 in
set_option maxRecDepth 1000000 in
theorem Extract_bad (m : Md) (hk : KindOf 1 m) (v1 : Value) (l1 : List UInt8) (v2 : Value) (l2 : List UInt8) (v3 : Value) (l3 : List UInt8) (v4 : Value) (l4 : List UInt8) (w : World) (h1 : BPart w v1 l1) (h2 : BPart w v2 l2) (h3 : BPart w v3 l3) (h4 : BPart w v4 l4) (hg : numsB m [l1, l2, l3, l4] = false) :
    Calls Try.prog 18 #[v1, v2, v3, v4] w fun e w' => e = .returned (.tuple #[.slice none 0 0, .int .i64 3]) ∧ Fr Nob w w' := by
  have HK := Lib.hid hk
  have HOK := Lib.hid hk.ok
  clear hk
  have HG := Lib.hid hg
  clear hg
  have HP1 := Lib.hid h1
  have HP2 := Lib.hid h2
  have HP3 := Lib.hid h3
  have HP4 := Lib.hid h4
  have HC1 := Lib.hid (BPart.one h1)
  have HC2 := Lib.hid (BPart.one h2)
  have HC3 := Lib.hid (BPart.one h3)
  have HC4 := Lib.hid (BPart.one h4)
  clear h1 h2 h3 h4
  go_enter Try.func18, Try.ntmps18
  go_wp2_with (with_reducible refine wl_stop (o := ⟨some 17, _, _, _, _, _⟩) ?_)
  unfold Stop
  refine wl_slit (vs := [v1, v2, v3, v4]) (hgd := rfl) (ho := rfl) (hu := Try.underlying23) (hi0 := info_bs) (hp := by rfl) (hv := fun v hv => by
    simp only [List.mem_cons, List.not_mem_nil, or_false] at hv
    rcases hv with rfl | rfl | rfl | rfl
    · exact HC1.out
    · exact HC2.out
    · exact HC3.out
    · exact HC4.out) (hk := by rfl) (hz := by rfl) (h := ?_)
  intro w2 hg2 hf2 hz2
  clear hz2
  generalize w.heap.size = gl at *
  have HF2 := Lib.hid hf2
  have HRD := Lib.hid (show Rd w2 (some ⟨gl, 0, none⟩) 4 [v1, v2, v3, v4] from Rd.whole hg2)
  clear hg2 hf2
  have HPS := Lib.hid (BParts.four (HP1.out.still HF2.out) (HP2.out.still HF2.out) (HP3.out.still HF2.out) (HP4.out.still HF2.out))
  go_wp2_with fail
  refine (All_any m HK.out _ 4 4 [v1, v2, v3, v4] [l1, l2, l3, l4] _ HRD.out HPS.out (by decide)).mono ?_
  rintro e w3 ⟨-, hbad, hf3⟩
  obtain rfl := hbad HG.out
  have HF3 := Lib.hid (HF2.out.then hf3)
  clear hbad hf3
  go_wp2_with fail
  go_ret2
  exact ⟨rfl, HF3.out⟩

set_option maxHeartbeats 16000000 in
set_option maxRecDepth 1000000 in
theorem Extract_none (m : Md) (hk : KindOf 1 m) (v1 : Value) (l1 : List UInt8) (v2 : Value) (l2 : List UInt8) (v3 : Value) (l3 : List UInt8) (v4 : Value) (l4 : List UInt8) (w : World) (h1 : BPart w v1 l1) (h2 : BPart w v2 l2) (h3 : BPart w v3 l3) (h4 : BPart w v4 l4) (hg : numsB m [l1, l2, l3, l4] = true) (heq : ((beN l1) % m.M == (beN l3) % m.M) = true) :
    Calls Try.prog 18 #[v1, v2, v3, v4] w fun e w' => e = .returned (.tuple #[.slice none 0 0, .int .i64 6]) ∧ Fr Nob w w' := by
  have HK := Lib.hid hk
  have HOK := Lib.hid hk.ok
  clear hk
  have HG := Lib.hid hg
  have HEQ := Lib.hid heq
  clear hg heq
  have HP1 := Lib.hid h1
  have HP2 := Lib.hid h2
  have HP3 := Lib.hid h3
  have HP4 := Lib.hid h4
  have HC1 := Lib.hid (BPart.one h1)
  have HC2 := Lib.hid (BPart.one h2)
  have HC3 := Lib.hid (BPart.one h3)
  have HC4 := Lib.hid (BPart.one h4)
  clear h1 h2 h3 h4
  go_enter Try.func18, Try.ntmps18
  go_wp2_with (with_reducible refine wl_stop (o := ⟨some 17, _, _, _, _, _⟩) ?_)
  unfold Stop
  refine wl_slit (vs := [v1, v2, v3, v4]) (hgd := rfl) (ho := rfl) (hu := Try.underlying23) (hi0 := info_bs) (hp := by rfl) (hv := fun v hv => by
    simp only [List.mem_cons, List.not_mem_nil, or_false] at hv
    rcases hv with rfl | rfl | rfl | rfl
    · exact HC1.out
    · exact HC2.out
    · exact HC3.out
    · exact HC4.out) (hk := by rfl) (hz := by rfl) (h := ?_)
  intro w2 hg2 hf2 hz2
  clear hz2
  generalize w.heap.size = gl at *
  have HF2 := Lib.hid hf2
  have HRD := Lib.hid (show Rd w2 (some ⟨gl, 0, none⟩) 4 [v1, v2, v3, v4] from Rd.whole hg2)
  clear hg2 hf2
  have HPS := Lib.hid (BParts.four (HP1.out.still HF2.out) (HP2.out.still HF2.out) (HP3.out.still HF2.out) (HP4.out.still HF2.out))
  go_wp2_with fail
  refine (All_any m HK.out _ 4 4 [v1, v2, v3, v4] [l1, l2, l3, l4] _ HRD.out HPS.out (by decide)).mono ?_
  rintro e w3 ⟨hgood, -, hf3⟩
  obtain ⟨v, rfl, hown⟩ := hgood HG.out
  obtain ⟨ae, ce, rfl, -, hre, -⟩ := hown.form
  obtain ⟨be, oe, hee, -⟩ := hre.at (by simp)
  subst hee
  have HRE := Lib.hid hre
  have HF3 := Lib.hid (HF2.out.then hf3)
  clear hgood hown hre hf3
  have st0 := St.start Nob w3
  go_wp2_with fail
  refine wp_region_noPanic ?_
  refine wp_region_plan (fun wx => St Nob w3 wx []) 7 (.w 0 (.w 1 (.t 2 (.w 3 (.w 4 (.t 5 (.w 6 (.m 7 .nil)))))))) (by kernel_rfl) (by kernel_rfl) st0.drew (fun _ _ _ _ _ h => h) ?_
  have hd3 := st0.drew
  clear st0
  refine plan_w (v := ?_) rfl rfl (fun wx => ?_) ?_
  rotate_left 1
  · (go_simp; with_reducible rfl)
  try simp only [Act.put, List.setIfInBounds_toArray, List.set_cons_zero, List.set_cons_succ]
  refine plan_w (v := ?_) rfl rfl (fun wx => ?_) ?_
  rotate_left 1
  · (go_simp; with_reducible rfl)
  try simp only [Act.put, List.setIfInBounds_toArray, List.set_cons_zero, List.set_cons_succ]
  refine plan_arr rfl rfl rfl rfl (cw 4 (elN m (beN l1))) (fun wx hS => (rd_range (HRE.out.still (St.fr hS)) 0 _ (by rw [cw_len]; exact elCells_at m [l1, l2, l3, l4] 0 (by simp)))) Try.underlying94 rfl (by first | (rw [cw_len]; kernel_rfl) | (simp only [List.length_append, cw_len]; kernel_rfl)) ?_
  try simp only [Act.put, List.setIfInBounds_toArray, List.set_cons_zero, List.set_cons_succ]
  refine plan_w (v := ?_) rfl rfl (fun wx => ?_) ?_
  rotate_left 1
  · (go_simp; with_reducible rfl)
  try simp only [Act.put, List.setIfInBounds_toArray, List.set_cons_zero, List.set_cons_succ]
  refine plan_w (v := ?_) rfl rfl (fun wx => ?_) ?_
  rotate_left 1
  · (go_simp; with_reducible rfl)
  try simp only [Act.put, List.setIfInBounds_toArray, List.set_cons_zero, List.set_cons_succ]
  refine plan_arr rfl rfl rfl rfl (cw 4 (elN m (beN l3))) (fun wx hS => (rd_range (HRE.out.still (St.fr hS)) 8 _ (by rw [cw_len]; exact elCells_at m [l1, l2, l3, l4] 2 (by simp)))) Try.underlying94 rfl (by first | (rw [cw_len]; kernel_rfl) | (simp only [List.length_append, cw_len]; kernel_rfl)) ?_
  try simp only [Act.put, List.setIfInBounds_toArray, List.set_cons_zero, List.set_cons_succ]
  refine plan_w rfl rfl (exec_eqlZ m HOK.out (beN l1) (beN l3) rfl rfl rfl HEQ.out) ?_
  try simp only [Act.put, List.setIfInBounds_toArray, List.set_cons_zero, List.set_cons_succ]
  refine plan_m rfl rfl ?_
  go_simp
  try simp only [Act.put, List.setIfInBounds_toArray, List.set_cons_zero, List.set_cons_succ]
  refine plan_end ?_
  have st4 := hd3
  clear hd3
  refine NoPanic.normal ?_
  have hfr := HF3.out.then st4.fr
  clear st4
  go_wp2_with fail
  go_ret2
  exact ⟨rfl, hfr⟩

set_option maxHeartbeats 16000000 in
set_option maxRecDepth 1000000 in
theorem Extract_ok (m : Md) (hk : KindOf 1 m) (v1 : Value) (l1 : List UInt8) (v2 : Value) (l2 : List UInt8) (v3 : Value) (l3 : List UInt8) (v4 : Value) (l4 : List UInt8) (w : World) (h1 : BPart w v1 l1) (h2 : BPart w v2 l2) (h3 : BPart w v3 l3) (h4 : BPart w v4 l4) (hg : numsB m [l1, l2, l3, l4] = true) (heq : ((beN l1) % m.M == (beN l3) % m.M) = false) :
    Calls Try.prog 18 #[v1, v2, v3, v4] w fun e w' => ∃ a c, e = .returned (.tuple #[.slice a 32 c, .int .i64 0]) ∧ RdB w' a 32 (be32 (secN m.M (beN l1) (beN l2) (beN l3) (beN l4))) ∧ Fr Nob w w' := by
  have HK := Lib.hid hk
  have HOK := Lib.hid hk.ok
  clear hk
  have HG := Lib.hid hg
  have HEQ := Lib.hid heq
  clear hg heq
  have HP1 := Lib.hid h1
  have HP2 := Lib.hid h2
  have HP3 := Lib.hid h3
  have HP4 := Lib.hid h4
  have HC1 := Lib.hid (BPart.one h1)
  have HC2 := Lib.hid (BPart.one h2)
  have HC3 := Lib.hid (BPart.one h3)
  have HC4 := Lib.hid (BPart.one h4)
  clear h1 h2 h3 h4
  go_enter Try.func18, Try.ntmps18
  go_wp2_with (with_reducible refine wl_stop (o := ⟨some 17, _, _, _, _, _⟩) ?_)
  unfold Stop
  refine wl_slit (vs := [v1, v2, v3, v4]) (hgd := rfl) (ho := rfl) (hu := Try.underlying23) (hi0 := info_bs) (hp := by rfl) (hv := fun v hv => by
    simp only [List.mem_cons, List.not_mem_nil, or_false] at hv
    rcases hv with rfl | rfl | rfl | rfl
    · exact HC1.out
    · exact HC2.out
    · exact HC3.out
    · exact HC4.out) (hk := by rfl) (hz := by rfl) (h := ?_)
  intro w2 hg2 hf2 hz2
  clear hz2
  generalize w.heap.size = gl at *
  have HF2 := Lib.hid hf2
  have HRD := Lib.hid (show Rd w2 (some ⟨gl, 0, none⟩) 4 [v1, v2, v3, v4] from Rd.whole hg2)
  clear hg2 hf2
  have HPS := Lib.hid (BParts.four (HP1.out.still HF2.out) (HP2.out.still HF2.out) (HP3.out.still HF2.out) (HP4.out.still HF2.out))
  go_wp2_with fail
  refine (All_any m HK.out _ 4 4 [v1, v2, v3, v4] [l1, l2, l3, l4] _ HRD.out HPS.out (by decide)).mono ?_
  rintro e w3 ⟨hgood, -, hf3⟩
  obtain ⟨v, rfl, hown⟩ := hgood HG.out
  obtain ⟨ae, ce, rfl, -, hre, -⟩ := hown.form
  obtain ⟨be, oe, hee, -⟩ := hre.at (by simp)
  subst hee
  have HRE := Lib.hid hre
  have HF3 := Lib.hid (HF2.out.then hf3)
  clear hgood hown hre hf3
  have st0 := St.start Nob w3
  go_wp2_with fail
  refine wp_region_noPanic ?_
  refine wp_region_plan (fun wx => St Nob w3 wx []) 7 (.w 0 (.w 1 (.t 2 (.w 3 (.w 4 (.t 5 (.w 6 (.m 7 .nil)))))))) (by kernel_rfl) (by kernel_rfl) st0.drew (fun _ _ _ _ _ h => h) ?_
  have hd3 := st0.drew
  clear st0
  refine plan_w (v := ?_) rfl rfl (fun wx => ?_) ?_
  rotate_left 1
  · (go_simp; with_reducible rfl)
  try simp only [Act.put, List.setIfInBounds_toArray, List.set_cons_zero, List.set_cons_succ]
  refine plan_w (v := ?_) rfl rfl (fun wx => ?_) ?_
  rotate_left 1
  · (go_simp; with_reducible rfl)
  try simp only [Act.put, List.setIfInBounds_toArray, List.set_cons_zero, List.set_cons_succ]
  refine plan_arr rfl rfl rfl rfl (cw 4 (elN m (beN l1))) (fun wx hS => (rd_range (HRE.out.still (St.fr hS)) 0 _ (by rw [cw_len]; exact elCells_at m [l1, l2, l3, l4] 0 (by simp)))) Try.underlying94 rfl (by first | (rw [cw_len]; kernel_rfl) | (simp only [List.length_append, cw_len]; kernel_rfl)) ?_
  try simp only [Act.put, List.setIfInBounds_toArray, List.set_cons_zero, List.set_cons_succ]
  refine plan_w (v := ?_) rfl rfl (fun wx => ?_) ?_
  rotate_left 1
  · (go_simp; with_reducible rfl)
  try simp only [Act.put, List.setIfInBounds_toArray, List.set_cons_zero, List.set_cons_succ]
  refine plan_w (v := ?_) rfl rfl (fun wx => ?_) ?_
  rotate_left 1
  · (go_simp; with_reducible rfl)
  try simp only [Act.put, List.setIfInBounds_toArray, List.set_cons_zero, List.set_cons_succ]
  refine plan_arr rfl rfl rfl rfl (cw 4 (elN m (beN l3))) (fun wx hS => (rd_range (HRE.out.still (St.fr hS)) 8 _ (by rw [cw_len]; exact elCells_at m [l1, l2, l3, l4] 2 (by simp)))) Try.underlying94 rfl (by first | (rw [cw_len]; kernel_rfl) | (simp only [List.length_append, cw_len]; kernel_rfl)) ?_
  try simp only [Act.put, List.setIfInBounds_toArray, List.set_cons_zero, List.set_cons_succ]
  refine plan_w rfl rfl (exec_eqlZ m HOK.out (beN l1) (beN l3) rfl rfl rfl HEQ.out) ?_
  try simp only [Act.put, List.setIfInBounds_toArray, List.set_cons_zero, List.set_cons_succ]
  refine plan_m rfl rfl ?_
  go_simp
  try simp only [Act.put, List.setIfInBounds_toArray, List.set_cons_zero, List.set_cons_succ]
  refine plan_end ?_
  have st4 := hd3
  clear hd3
  refine NoPanic.normal ?_
  go_wp2_with fail
  refine wp_region_noPanic ?_
  refine wp_region_plan (fun wx => St Nob w3 wx []) 18 (.w 0 (.w 1 (.t 2 (.w 3 (.w 4 (.t 5 (.w 7 (.w 8 (.t 9 (.w 10 (.w 11 (.t 12 (.r 6 (.r 13 (.r 14 (.r 15 (.r 16 (.w 17 (.m 18 .nil))))))))))))))))))) (by kernel_rfl) (by kernel_rfl) st4.drew (fun _ _ _ _ _ h => h) ?_
  have hd4 := st4.drew
  clear st4
  refine plan_w (v := ?_) rfl rfl (fun wx => ?_) ?_
  rotate_left 1
  · (go_simp; with_reducible rfl)
  try simp only [Act.put, List.setIfInBounds_toArray, List.set_cons_zero, List.set_cons_succ]
  refine plan_w (v := ?_) rfl rfl (fun wx => ?_) ?_
  rotate_left 1
  · (go_simp; with_reducible rfl)
  try simp only [Act.put, List.setIfInBounds_toArray, List.set_cons_zero, List.set_cons_succ]
  refine plan_arr rfl rfl rfl rfl (cw 4 (elN m (beN l2))) (fun wx hS => (rd_range (HRE.out.still (St.fr hS)) 4 _ (by rw [cw_len]; exact elCells_at m [l1, l2, l3, l4] 1 (by simp)))) Try.underlying94 rfl (by first | (rw [cw_len]; kernel_rfl) | (simp only [List.length_append, cw_len]; kernel_rfl)) ?_
  try simp only [Act.put, List.setIfInBounds_toArray, List.set_cons_zero, List.set_cons_succ]
  refine plan_w (v := ?_) rfl rfl (fun wx => ?_) ?_
  rotate_left 1
  · (go_simp; with_reducible rfl)
  try simp only [Act.put, List.setIfInBounds_toArray, List.set_cons_zero, List.set_cons_succ]
  refine plan_w (v := ?_) rfl rfl (fun wx => ?_) ?_
  rotate_left 1
  · (go_simp; with_reducible rfl)
  try simp only [Act.put, List.setIfInBounds_toArray, List.set_cons_zero, List.set_cons_succ]
  refine plan_arr rfl rfl rfl rfl (cw 4 (elN m (beN l4))) (fun wx hS => (rd_range (HRE.out.still (St.fr hS)) 12 _ (by rw [cw_len]; exact elCells_at m [l1, l2, l3, l4] 3 (by simp)))) Try.underlying94 rfl (by first | (rw [cw_len]; kernel_rfl) | (simp only [List.length_append, cw_len]; kernel_rfl)) ?_
  try simp only [Act.put, List.setIfInBounds_toArray, List.set_cons_zero, List.set_cons_succ]
  refine plan_w (v := ?_) rfl rfl (fun wx => ?_) ?_
  rotate_left 1
  · (go_simp; with_reducible rfl)
  try simp only [Act.put, List.setIfInBounds_toArray, List.set_cons_zero, List.set_cons_succ]
  refine plan_w (v := ?_) rfl rfl (fun wx => ?_) ?_
  rotate_left 1
  · (go_simp; with_reducible rfl)
  try simp only [Act.put, List.setIfInBounds_toArray, List.set_cons_zero, List.set_cons_succ]
  refine plan_arr rfl rfl rfl rfl (cw 4 (elN m (beN l1))) (fun wx hS => (rd_range (HRE.out.still (St.fr hS)) 0 _ (by rw [cw_len]; exact elCells_at m [l1, l2, l3, l4] 0 (by simp)))) Try.underlying94 rfl (by first | (rw [cw_len]; kernel_rfl) | (simp only [List.length_append, cw_len]; kernel_rfl)) ?_
  try simp only [Act.put, List.setIfInBounds_toArray, List.set_cons_zero, List.set_cons_succ]
  refine plan_w (v := ?_) rfl rfl (fun wx => ?_) ?_
  rotate_left 1
  · (go_simp; with_reducible rfl)
  try simp only [Act.put, List.setIfInBounds_toArray, List.set_cons_zero, List.set_cons_succ]
  refine plan_w (v := ?_) rfl rfl (fun wx => ?_) ?_
  rotate_left 1
  · (go_simp; with_reducible rfl)
  try simp only [Act.put, List.setIfInBounds_toArray, List.set_cons_zero, List.set_cons_succ]
  refine plan_arr rfl rfl rfl rfl (cw 4 (elN m (beN l3))) (fun wx hS => (rd_range (HRE.out.still (St.fr hS)) 8 _ (by rw [cw_len]; exact elCells_at m [l1, l2, l3, l4] 2 (by simp)))) Try.underlying94 rfl (by first | (rw [cw_len]; kernel_rfl) | (simp only [List.length_append, cw_len]; kernel_rfl)) ?_
  try simp only [Act.put, List.setIfInBounds_toArray, List.set_cons_zero, List.set_cons_succ]
  refine plan_r rfl rfl ?_
  go_simp
  refine (ZSub_any m HK.out (beN l2) (beN l4) _).mono ?_
  rintro e' w5 ⟨rfl, hf5⟩
  have st5 := hd4.keep hf5
  clear hf5
  clear hd4
  refine ⟨st5, ?_⟩
  try simp only [Act.put, List.setIfInBounds_toArray, List.set_cons_zero, List.set_cons_succ]
  refine plan_r rfl rfl ?_
  go_simp
  refine (ZSub_any m HK.out (beN l1) (beN l3) _).mono ?_
  rintro e' w6 ⟨rfl, hf6⟩
  have st6 := st5.keep hf6
  clear hf6
  clear st5
  refine ⟨st6, ?_⟩
  try simp only [Act.put, List.setIfInBounds_toArray, List.set_cons_zero, List.set_cons_succ]
  refine plan_r rfl rfl ?_
  go_simp
  refine (ZInv_any m HK.out ((beN l1) + (m.M - (beN l3) % m.M)) _).mono ?_
  rintro e' w7 ⟨rfl, hf7⟩
  have st7 := st6.keep hf7
  clear hf7
  clear st6
  refine ⟨st7, ?_⟩
  try simp only [Act.put, List.setIfInBounds_toArray, List.set_cons_zero, List.set_cons_succ]
  refine plan_r rfl rfl ?_
  go_simp
  refine (ZMul_any m HK.out ((beN l2) + (m.M - (beN l4) % m.M)) (((beN l1) + (m.M - (beN l3) % m.M)) ^ (m.M - 2)) _).mono ?_
  rintro e' w8 ⟨rfl, hf8⟩
  have st8 := st7.keep hf8
  clear hf8
  clear st7
  refine ⟨st8, ?_⟩
  try simp only [Act.put, List.setIfInBounds_toArray, List.set_cons_zero, List.set_cons_succ]
  refine plan_r rfl rfl ?_
  go_simp
  refine (ZBytes_any m HK.out (((beN l2) + (m.M - (beN l4) % m.M)) * ((beN l1) + (m.M - (beN l3) % m.M)) ^ (m.M - 2)) _).mono ?_
  rintro e' w9 ⟨v, rfl, hown, hf9⟩
  have st9 := st8.keep hf9
  obtain ⟨av, cv, hve, hcv, hrv, -⟩ := hown.form
  subst hve
  have HRV := Lib.hid (show RdB w9 av 32 (be32 (secN m.M (beN l1) (beN l2) (beN l3) (beN l4))) by rw [Nat.mul_one] at hrv; exact hrv)
  clear hown hrv
  clear hf9
  clear st8
  refine ⟨st9, ?_⟩
  try simp only [Act.put, List.setIfInBounds_toArray, List.set_cons_zero, List.set_cons_succ]
  refine plan_w (v := ?_) rfl rfl (fun wx => ?_) ?_
  rotate_left 1
  · (go_simp; with_reducible rfl)
  try simp only [Act.put, List.setIfInBounds_toArray, List.set_cons_zero, List.set_cons_succ]
  refine plan_m rfl rfl ?_
  go_simp
  try simp only [Act.put, List.setIfInBounds_toArray, List.set_cons_zero, List.set_cons_succ]
  refine plan_end ?_
  refine NoPanic.normal ?_
  have hfr := HF3.out.then st9.fr
  clear st9
  go_wp2_with fail
  go_ret2
  exact ⟨_, _, rfl, HRV.out, hfr⟩
end Go.Proofs.Ytnooojkhnpcolaa
