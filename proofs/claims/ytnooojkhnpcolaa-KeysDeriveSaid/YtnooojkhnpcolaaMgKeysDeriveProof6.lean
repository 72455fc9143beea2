/- keys.Derive; mintvaultlaw1.SpongeBegins: the walk of the law; zn.All; sigma.Extract; The law NumReduces; num.Add, Sub, Mul, Inv: what they answer; The law NumReckons; sigma.Extract; the reference's Scalar, Q, Extract; The reference's Q, Scalar, Extract; keys.Scalar; The reference's four, Derive, Scalar; Slices and structs that were handed in, of any element type, opened; The law KeysDerive; From a walk that turns nothing (Fr Nob) to what a law's row asks behind the call. -/
import Derived.Test.YtnooojkhnpcolaaMgKeysDeriveProof5
import Derived.IntWalk
import Derived.Deep.DeepCutAuto
import Derived.Test.YtnooojkhnpcolaaMgKeysDeriveProof4
import Derived.Test.YtnooojkhnpcolaaMgKeysDeriveProof2
import Derived.Test.YtnooojkhnpcolaaMgKeysDeriveProof1
import Derived.ProofKit
import Derived.OpenShut
import Derived.Carry
namespace Go.Proofs.Ytnooojkhnpcolaa
open Go.RowKit Go.Mv Mvp Mvt
/-- a branch's way down -/
def derK (k : List UInt8) (path : List Nat) : List UInt8 := path.foldl (fun k n => tagL kChild [k, lenB n]) k
theorem derK_nil (k : List UInt8) : derK k [] = k := rfl
theorem derK_succ (k : List UInt8) (path : List Nat) (i : Nat) (h : i < path.length) : derK k (path.take (i + 1)) = tagL kChild [derK k (path.take i), lenB (path.getD i 0)] := by
  rw [List.take_succ_eq_append_getElem h, derK, List.foldl_append]
  simp [derK, List.getD_eq_getElem?_getD, h]
attribute [local irreducible] permS permP toB turnsK squeeze permN permB spongeB feed frameL framesL tagL derK
theorem u32s_get (l : List Nat) (i : Nat) (h : i < l.length) : (u32s l)[i]? = some (.int .u32 ((l.getD i 0 : Nat) : Int)) := by
  unfold u32s
  rw [List.getElem?_map, List.getElem?_eq_getElem h]
  simp [List.getD_eq_getElem?_getD, h]
set_option maxHeartbeats 4000000 in
set_option maxRecDepth 1000000 in
theorem Derive_len (a : Option Addr) (n c : Nat) (s vp : Value) (w : World) (hn : n ≠ 32) :
    Calls Try.prog 20 #[.slice a n c, s, vp] w fun e w' => e = .returned (.tuple #[.slice none 0 0, .int .i64 2]) ∧ w = w' := by
  have hne : ((n : Int) != 32) = true := by simp; omega
  clear hn
  go_enter Try.func20, Try.ntmps20
  go_wp2
  go_ret2
  exact ⟨rfl, rfl⟩
set_option maxHeartbeats 4000000 in
set_option maxRecDepth 1000000 in
theorem Derive_long (a : Option Addr) (c : Nat) (s : Value) (p : Option Addr) (k d : Nat) (w : World) (hk : 16 < k) :
    Calls Try.prog 20 #[.slice a 32 c, s, .slice p k d] w fun e w' => e = .returned (.tuple #[.slice none 0 0, .int .i64 1]) ∧ w = w' := by
  have hne : (((32 : Nat) : Int) != 32) = false := by rfl
  have hkI : (16 : Int) < (k : Int) := by omega
  go_enter Try.func20, Try.ntmps20
  go_wp2
  go_ret2
  exact ⟨rfl, rfl⟩
set_option maxHeartbeats 4000000 in
set_option maxRecDepth 1000000 in
theorem Derive_ok (a : Option Addr) (c : Nat) (l : List UInt8) (s : ByteArray) (p : Option Addr) (d : Nat) (path : List Nat) (w : World) (hp : PartIs w (.slice a 32 c) l) (hs : s.size ≤ 1000000) (hk : path.length ≤ 16) (hx : ∀ x ∈ path, x < 4294967296) (hr : Rd w p path.length (u32s path)) :
    Calls Try.prog 20 #[.slice a 32 c, .string s, .slice p path.length d] w fun e w' => ∃ v, e = .returned (.tuple #[v, .int .i64 0]) ∧ Own w' w.heap.size 5 1 v 32 (bs (tagL kKey [derK l path, s.data.toList])) ∧ Fr Nob w w' := by
  have hne : (((32 : Nat) : Int) != 32) = false := by rfl
  have hkI : ¬ ((16 : Int) < (path.length : Int)) := by omega
  have HP := Lib.hid hp
  have HS := Lib.hid hs
  have HR := Lib.hid hr
  have HX := Lib.hid hx
  clear hp hs hr hx
  go_enter Try.func20, Try.ntmps20
  go_wp2
  go_loopw [8, 22] (fun v i wr => ∃ j : Nat, j ≤ path.length ∧ i = .int .i64 (j : Int) ∧ PartIs wr v (derK l (path.take j)) ∧ Fr Nob w wr) (fun _ i _ => (path.length - intOf i).toNat)
  case atStart => exact ⟨0, by omega, rfl, by rw [List.take_zero, derK_nil]; exact HP.out, Fr.refl _ _⟩
  case round =>
    obtain ⟨j, hj, rfl, hpj, hfj⟩ := hrel
    have HPJ := Lib.hid hpj
    have HFJ := Lib.hid hfj
    obtain ⟨aj, nj, cj, hvj, -⟩ := id hpj
    subst hvj
    clear hpj hfj
    by_cases hlt : j < path.length
    · have hltI : (j : Int) < (path.length : Int) := by omega
      obtain ⟨b, o, hab, -⟩ := HR.out.at (by omega)
      subst hab
      have hcell := rd_at0 (HR.out.still HFJ.out) j _ (u32s_get path j hlt)
      have HD := Lib.hid (derK_succ l path j hlt)
      have hxb : path.getD j 0 < 4294967296 := by
        have : path.getD j 0 = path[j] := by simp [List.getD_eq_getElem?_getD, hlt]
        rw [this]; exact HX.out _ (List.getElem_mem _)
      generalize path.getD j 0 = x at *
      go_wp2_with fail
      refine (child_any x hxb _ _ _ HPJ.out).mono ?_
      rintro e w5 ⟨v5, rfl, ho5, hf5⟩
      obtain ⟨a5, c5, rfl, -⟩ := own_rd ho5
      have HP5 := Lib.hid (own_part ho5 (by omega))
      have HF5 := Lib.hid (HFJ.out.then hf5)
      clear ho5 hf5 hcell hxb
      go_wp2_with fail
      go_roundw
      case rel => exact ⟨j + 1, by omega, by go_num, by rw [HD.out]; exact HP5.out, HF5.out⟩
      case measure => simp [intOf]; omega
    · have hge : ¬ ((j : Int) < (path.length : Int)) := by omega
      have HJ := Lib.hid (show path.take j = path from List.take_of_length_le (by omega))
      go_wp2_with fail
      refine (key_any s HS.out _ _ _ HPJ.out).mono ?_
      rintro e w5 ⟨v5, rfl, ho5, hf5⟩
      obtain ⟨a5, c5, rfl, -⟩ := own_rd ho5
      rw [HJ.out] at ho5
      have HO := Lib.hid (ho5.mono HFJ.out.size)
      have HF5 := Lib.hid (HFJ.out.then hf5)
      clear ho5 hf5
      go_wp2_with fail
      go_ret2
      exact ⟨_, rfl, HO.out, HF5.out⟩
end Go.Proofs.Ytnooojkhnpcolaa

/- mintvaultlaw1.SpongeBegins: the walk of the law -/
namespace Mvp
theorem squeeze_take (k : Nat) : ∀ (j : Nat) (S : List UInt64), j ≤ k → (squeeze S k).take (136 * j) = squeeze S j := by
  induction k with
  | zero => intro j S h; have : j = 0 := by omega
            subst this; simp [squeeze]
  | succ k ih =>
    intro j S h
    cases j with
    | zero => simp [squeeze]
    | succ j =>
      rw [squeeze, squeeze, List.take_append, toB_len, List.take_of_length_le (by rw [toB_len]; omega), show 136 * (j + 1) - 136 = 136 * j by omega, ih j (permS S) (by omega)]
theorem outB_take (S : List UInt64) (n m : Nat) (h : n ≤ m) : (outB S m).take n = outB S n := by
  unfold outB
  rw [List.take_take, Nat.min_eq_left h, ← squeeze_take (pieces m) (pieces n) S (by unfold pieces; omega), List.take_take, Nat.min_eq_left (by unfold pieces; omega)]
theorem spongeB_take (l : List UInt8) (e : UInt8) (n m : Nat) (h : n ≤ m) : (spongeB l e m).take n = spongeB l e n := outB_take _ _ _ h
theorem hash_none : (spongeB [] 6 32)[0]? = some 0xA7 ∧ (spongeB [] 6 32)[1]? = some 0xFF := by decide +kernel
end Mvp
namespace Go.Proofs.Ytnooojkhnpcolaa
open Go.RowKit Go.Mv Mvp
attribute [local irreducible] permS permP toB turnsK squeeze permN permB spongeB feed frameL framesL tagL

theorem Stream_ok (b : Option Addr) (n c : Nat) (l : List UInt8) (m : Nat) (w : World) (hn : n ≤ 1000000) (hnc : n ≤ c) (hm : m ≤ 16384) (hb : RdB w b n l) (ho : Old w b) :
    Calls Try.prog 56 #[.slice b n c, .int .i64 (m : Int)] w fun r w' => ∃ v, r = .returned (.tuple #[v, .int .i64 0]) ∧ Own w' w.heap.size 5 1 v m (bs (spongeB l 31 m)) ∧ Fr Nob w w' := by
  refine (Stream_any b n c l m w hn hnc hb ho).mono ?_
  rintro r w' (⟨_, _, v, h1, h2, h3⟩ | ⟨h, _⟩)
  · exact ⟨v, h1, by simpa using h2, h3⟩
  · omega
end Go.Proofs.Ytnooojkhnpcolaa

/- zn.All; sigma.Extract. -/
namespace Go.Proofs.Ytnooojkhnpcolaa
open Go.RowKit Go.Mv Mvp
/-- how zn.All answers -/
def AllPost (m : Md) (ls : List (List UInt8)) (w : World) (e : Ending) (w' : World) : Prop :=
  (numsB m ls = true → ∃ v, e = .returned (.tuple #[v, .bool true]) ∧ Own w' w.heap.size 94 4 v ls.length (elCells m ls)) ∧
  (numsB m ls = false → e = .returned (.tuple #[.slice none 0 0, .bool false])) ∧ Fr Nob w w'
theorem AllPost.bad {m : Md} {ls : List (List UInt8)} {w w' : World} {e : Ending} (h : numsB m ls = false) (he : e = .returned (.tuple #[.slice none 0 0, .bool false])) (hf : Fr Nob w w') : AllPost m ls w e w' :=
  ⟨fun h1 => (by rw [h] at h1; cases h1), fun _ => he, hf⟩
theorem AllPost.good {m : Md} {ls : List (List UInt8)} {w w' : World} {e : Ending} {v : Value} (h : numsB m ls = true) (he : e = .returned (.tuple #[v, .bool true])) (ho : Own w' w.heap.size 94 4 v ls.length (elCells m ls)) (hf : Fr Nob w w') : AllPost m ls w e w' :=
  ⟨fun _ => ⟨v, he, ho⟩, fun h1 => (by rw [h] at h1; cases h1), hf⟩
theorem info_bs : (Try.prog.info? 22).map (fun i => (i.zero, i.size, i.bytes)) = some (some (.slice none 0 0), 1, 24) := by kernel_rfl
attribute [local irreducible] limbs lw mix cw cSub cAdd cMul foldC valFrom beN laid be32 powm montT mstep elN mdL elCells numsB numB

set_option maxHeartbeats 16000000 in
set_option maxRecDepth 1000000 in
theorem All_any (m : Md) (hk : KindOf 1 m) (al : Option Addr) (n cl : Nat) (vs : List Value) (ls : List (List UInt8)) (w : World) (hv : Rd w al n vs) (hp : BParts w vs ls) (hn : n ≤ 100000) :
    Calls Try.prog 43 #[.slice al n cl] w (AllPost m ls w) := by
  have HK := Lib.hid hk
  have HOK := Lib.hid hk.ok
  have HV := Lib.hid hv
  have HP := Lib.hid hp
  have HL := Lib.hid (show ls.length = n by rw [← hp.1, hv.len])
  clear hk hv hp
  go_enter Try.func43, Try.ntmps43
  go_wp2
  go_loopw [4, 11] (fun v i wr => ∃ k : Nat, k ≤ n ∧ i = .int .i64 (k : Int) ∧ numsB m (ls.take k) = true ∧ Own wr w.heap.size 94 4 v k (elCells m (ls.take k)) ∧ Fr Nob w wr) (fun _ i _ => n - (intOf i).toNat)
  case atStart => exact ⟨0, Nat.zero_le _, rfl, by rw [List.take_zero]; unfold numsB; rfl, by rw [List.take_zero]; unfold elCells; exact Own.nil _ _ _ _, Fr.refl _ _⟩
  case round =>
    obtain ⟨k, hk, rfl, hgood, hown, hf⟩ := hrel
    by_cases hlt : k < n
    · have hltI : (k : Int) < (n : Int) := by omega
      obtain ⟨b, o, rfl, hat⟩ := (HV.out.still hf).at (by omega)
      have hvl : k < vs.length := by rw [HV.out.len]; exact hlt
      obtain ⟨a, nn, c, hve, hcc, hrd⟩ := HP.out.2 k (vs[k]'hvl) (List.getElem?_eq_getElem hvl)
      have hc1 := hat k _ (List.getElem?_eq_getElem hvl)
      rw [hve] at hc1
      have hlk : k < ls.length := by rw [HL.out]; exact hlt
      have hts := numsB_take m ls k hlk
      have hcs : elCells m (ls.take (k + 1)) = elCells m (ls.take k) ++ cw 4 (elN m (beN (ls.getD k []))) := by
        rw [List.take_succ_eq_append_getElem hlk, elCells_snoc]
        simp [List.getD_eq_getElem?_getD, hlk]
      have hbad := numsB_bad m ls k hlk
      generalize hL : ls.getD k [] = l at *
      have HLL := Lib.hid hL
      have HRD := Lib.hid (hrd.still hf)
      have HTS := Lib.hid hts
      have HCS := Lib.hid hcs
      have HBAD := Lib.hid hbad
      have HG := Lib.hid hgood
      have HOWN := Lib.hid hown
      have HF := Lib.hid hf
      have hnI : (n : Int) ≤ 100000 := by omega
      clear hL hrd hts hcs hbad hgood hown hf hat hve hcc
      cases hnb : numB m l
      · have HNB := Lib.hid hnb
        have HNL := Lib.hid (HBAD.out hnb)
        clear hnb
        have st0 := St.start Nob wr
        go_wp2_with fail
        refine (Zof_f m HK.out a nn c l _ (HRD.out.still st0.fr) HNB.out).mono ?_
        rintro e' w1 ⟨rfl, hf1⟩
        have st1 := st0.keep hf1
        clear st0 hf1
        go_wp2_with (with_reducible refine wl_stop (o := ⟨some 7, _, _, _, _, _⟩) ?_)
        refine wl_allocS st1 rfl rfl (z := .agg #[.int .u64 0, .int .u64 0, .int .u64 0, .int .u64 0]) (by kernel_rfl) (cw 4 0) (by rw [cw_zero]; rfl) ?_
        intro g7 w2 st2
        clear st1
        go_wp2_with (with_reducible refine wl_stop (o := ⟨none, _, _, _, _, _⟩) ?_)
        refine wl_storeS st2 0 rfl rfl rfl rfl rfl (by first | (simp only [cw_len]; done) | (simp only [List.length_append, cw_len]; done)) (by first | (rw [cw_len]; kernel_rfl) | (simp only [List.length_append, cw_len]; kernel_rfl)) (cw_one _ _) ?_
        intro w3 st3
        clear st2
        have HFR := Lib.hid (HF.out.then st3.fr)
        clear st3
        go_wp2_with fail
        go_ret2
        exact AllPost.bad HNL.out rfl HFR.out
      · have HNB := Lib.hid hnb
        clear hnb
        have st0 := St.start Nob wr
        go_wp2_with fail
        refine (Zof_t m HK.out a nn c l _ (HRD.out.still st0.fr) HNB.out).mono ?_
        rintro e' w1 ⟨rfl, hf1⟩
        have st1 := st0.keep hf1
        clear st0 hf1
        go_wp2_with (with_reducible refine wl_stop (o := ⟨some 7, _, _, _, _, _⟩) ?_)
        refine wl_allocS st1 rfl rfl (z := .agg #[.int .u64 0, .int .u64 0, .int .u64 0, .int .u64 0]) (by kernel_rfl) (cw 4 0) (by rw [cw_zero]; rfl) ?_
        intro g7 w2 st2
        clear st1
        go_wp2_with (with_reducible refine wl_stop (o := ⟨none, _, _, _, _, _⟩) ?_)
        refine wl_storeS st2 0 rfl rfl rfl rfl rfl (by first | (simp only [cw_len]; done) | (simp only [List.length_append, cw_len]; done)) (by first | (rw [cw_len]; kernel_rfl) | (simp only [List.length_append, cw_len]; kernel_rfl)) (cw_one _ _) ?_
        intro w3 st3
        clear st2
        go_wp2_with (with_reducible refine wl_stop (o := ⟨some 23, _, _, _, _, _⟩) ?_)
        refine wl_loadSt st3 0 rfl rfl rfl Try.underlying94 rfl rfl (by first | (rw [cw_len]; kernel_rfl) | (simp only [List.length_append, cw_len]; kernel_rfl)) ?_
        go_wp2_with (with_reducible refine wl_stop (o := ⟨some 24, _, _, _, _, _⟩) ?_)
        refine wl_slitR rfl rfl Try.underlying87 info_Z [i4 (elN m (beN l))] rfl (by simp [i4, Value.cells, cw_len]) rfl (cw 4 (elN m (beN l))) (by simp [i4_cells]) ?_
        intro wA hgA hfA hzA
        clear hzA
        have hfrA := st3.fr.then hfA
        have hsz := HF.out.size
        have hsz2 := hfrA.size
        have hownA := HOWN.out.still hfrA
        have hrdA : Rd wA (some ⟨w3.heap.size, 0, none⟩) (1 * 4) (cw 4 (elN m (beN l))) := by
          have := Rd.whole hgA
          rwa [cw_len] at this
        have HRDA := Lib.hid hrdA
        have HOWNA := Lib.hid hownA
        have HFRA := Lib.hid hfrA
        clear hgA hfA hrdA hownA hfrA st3
        generalize w3.heap.size = gA at *
        go_wp2_with (with_reducible refine wl_stop (o := ⟨some 25, _, _, _, _, _⟩) ?_)
        refine wl_append rfl rfl Try.underlying87 info_Z rfl (by decide) HOWNA.out rfl rfl HRDA.out (cw_one _ _) (by unfold maxLen; omega) (by omega) (by omega) ?_
        intro vB wB hownB hfB hbB
        clear hbB
        have hfrB := HOWNA.out.fr (HF.out.then HFRA.out) (Nat.le_refl _) hfB
        have HFRB := Lib.hid hfrB
        rw [← HCS.out] at hownB
        have HOWNB := Lib.hid hownB
        clear hfrB hownB hfB
        go_wp2_with fail
        go_roundw
        case rel => exact ⟨k + 1, by omega, by go_num, by rw [HTS.out, HG.out, HNB.out]; rfl, HOWNB.out, HFRB.out⟩
        case measure => simp [intOf]; omega
    · have hge : ¬ ((k : Int) < (n : Int)) := by omega
      have hkn : k = ls.length := by rw [HL.out]; omega
      rw [hkn, List.take_of_length_le (Nat.le_refl _)] at hgood hown
      have HG := Lib.hid hgood
      have HO := Lib.hid hown
      have HF := Lib.hid hf
      clear hkn hgood hown hf
      go_wp2_with fail
      go_ret2
      exact AllPost.good HG.out rfl HO.out HF.out
end Go.Proofs.Ytnooojkhnpcolaa

/- The law NumReduces. -/
namespace Go.Proofs.Ytnooojkhnpcolaa
open Go.RowKit Go.Mv Mvp
theorem lentL_take (s : ByteArray) : (lentL s.data.toList).take s.size = s.data.toList := by
  unfold lentL
  rw [List.take_append_of_le_length (by simp), List.take_of_length_le (by simp)]
attribute [local irreducible] limbs lw mix cw cSub cAdd cMul foldC valFrom beN laid be32 powm montT mstep elN mdL lentL

end Go.Proofs.Ytnooojkhnpcolaa

/- num.Add, Sub, Mul, Inv: what they answer. -/
namespace Go.Proofs.Ytnooojkhnpcolaa
open Go.RowKit Go.Mv Mvp
attribute [local irreducible] limbs lw mix cw cSub cAdd cMul foldC valFrom beN laid be32 powm montT mstep elN mdL elCells numsB numB
theorem info_bsl : (Try.prog.info? 22).map (fun i => (i.zero, i.size, i.bytes)) = some (some (.slice none 0 0), 1, 24) := by kernel_rfl

end Go.Proofs.Ytnooojkhnpcolaa

/- The law NumReckons. -/
namespace Go.Proofs.Ytnooojkhnpcolaa
open Go.RowKit Go.Mv Mvp
theorem Number_t (m : Md) (hM : m.M < B64 ^ 4) (s : ByteArray) (w : World) (h : numB m s.data.toList = true) :
    Calls Try.prog 76 #[fv m.M, .string s] w fun e w' => e = .returned (.tuple #[i4 (beN s.data.toList), .bool true]) ∧ Fr Nob w w' := by
  unfold numB at h
  simp only [Bool.and_eq_true, decide_eq_true_eq] at h
  refine (Number_ok m.M s w (by have := h.1; simpa using this) hM).mono fun e w' he => ?_
  rw [decide_eq_true h.2] at he
  exact he
theorem Number_f (m : Md) (hM : m.M < B64 ^ 4) (s : ByteArray) (w : World) (h : numB m s.data.toList = false) :
    Calls Try.prog 76 #[fv m.M, .string s] w fun e w' => ∃ N, e = .returned (.tuple #[i4 N, .bool false]) ∧ Fr Nob w w' := by
  by_cases hs : s.size = 32
  · refine (Number_ok m.M s w hs hM).mono fun e w' he => ?_
    have h2 : ¬ beN s.data.toList < m.M := by
      intro hb
      unfold numB at h
      rw [decide_eq_true hb, decide_eq_true (by simpa using hs)] at h
      cases h
    rw [decide_eq_false h2] at he
    exact ⟨_, he⟩
  · exact (Number_bad m.M s w hs).mono fun e w' he => ⟨_, he⟩
theorem sub_same (a b M : Nat) (h : b < M) : (a + (M - b % M)) % M = (a + (M - b)) % M := by
  rw [Nat.mod_eq_of_lt h]
theorem numB_lt (m : Md) (l : List UInt8) (h : numB m l = true) : beN l < m.M := by
  unfold numB at h
  simp only [Bool.and_eq_true, decide_eq_true_eq] at h
  exact h.2
attribute [local irreducible] limbs lw mix cw cSub cAdd cMul foldC valFrom beN laid be32 powm montT mstep elN mdL lentL numB numsB elCells

end Go.Proofs.Ytnooojkhnpcolaa

/- sigma.Extract; the reference's Scalar, Q, Extract. -/
namespace Mvp
/-- the secret, out of two answers to two challenges -/
def secN (M c1 z1 c2 z2 : Nat) : Nat := (z1 + (M - z2 % M)) * (c1 + (M - c2 % M)) ^ (M - 2) % M
end Mvp
namespace Go.Proofs.Ytnooojkhnpcolaa
open Go.RowKit Go.Mv Mvp
attribute [local irreducible] limbs lw mix cw cSub cAdd cMul foldC valFrom beN laid be32 powm montT mstep elN mdL elCells numsB numB

theorem BParts.four {w : World} {v1 v2 v3 v4 : Value} {l1 l2 l3 l4 : List UInt8} (h1 : BPart w v1 l1) (h2 : BPart w v2 l2) (h3 : BPart w v3 l3) (h4 : BPart w v4 l4) : BParts w [v1, v2, v3, v4] [l1, l2, l3, l4] := ⟨rfl, fun i x hx => by
  match i with
  | 0 => simp at hx; subst hx; exact h1
  | 1 => simp at hx; subst hx; exact h2
  | 2 => simp at hx; subst hx; exact h3
  | 3 => simp at hx; subst hx; exact h4
  | i + 4 => simp at hx⟩

set_option maxHeartbeats 16000000 in
set_option maxRecDepth 1000000 in
theorem Extract_bad (m : Md) (hk : KindOf 1 m) (v1 : Value) (l1 : List UInt8) (v2 : Value) (l2 : List UInt8) (v3 : Value) (l3 : List UInt8) (v4 : Value) (l4 : List UInt8) (w : World) (h1 : BPart w v1 l1) (h2 : BPart w v2 l2) (h3 : BPart w v3 l3) (h4 : BPart w v4 l4) (hg : numsB m [l1, l2, l3, l4] = false) :
    Calls Try.prog 18 #[v1, v2, v3, v4] w fun e w' => e = .returned (.tuple #[.slice none 0 0, .int .i64 3]) ∧ Fr Nob w w' := by
  have HK := Lib.hid hk
  have HOK := Lib.hid hk.ok
  clear hk
  have HG := Lib.hid hg
  clear hg
  have HP1 := Lib.hid h1
  have HP2 := Lib.hid h2
  have HP3 := Lib.hid h3
  have HP4 := Lib.hid h4
  have HC1 := Lib.hid (BPart.one h1)
  have HC2 := Lib.hid (BPart.one h2)
  have HC3 := Lib.hid (BPart.one h3)
  have HC4 := Lib.hid (BPart.one h4)
  clear h1 h2 h3 h4
  go_enter Try.func18, Try.ntmps18
  go_wp2_with (with_reducible refine wl_stop (o := ⟨some 17, _, _, _, _, _⟩) ?_)
  unfold Stop
  refine wl_slit (vs := [v1, v2, v3, v4]) (hgd := rfl) (ho := rfl) (hu := Try.underlying23) (hi0 := info_bs) (hp := by rfl) (hv := fun v hv => by
    simp only [List.mem_cons, List.not_mem_nil, or_false] at hv
    rcases hv with rfl | rfl | rfl | rfl
    · exact HC1.out
    · exact HC2.out
    · exact HC3.out
    · exact HC4.out) (hk := by rfl) (hz := by rfl) (h := ?_)
  intro w2 hg2 hf2 hz2
  clear hz2
  generalize w.heap.size = gl at *
  have HF2 := Lib.hid hf2
  have HRD := Lib.hid (show Rd w2 (some ⟨gl, 0, none⟩) 4 [v1, v2, v3, v4] from Rd.whole hg2)
  clear hg2 hf2
  have HPS := Lib.hid (BParts.four (HP1.out.still HF2.out) (HP2.out.still HF2.out) (HP3.out.still HF2.out) (HP4.out.still HF2.out))
  go_wp2_with fail
  refine (All_any m HK.out _ 4 4 [v1, v2, v3, v4] [l1, l2, l3, l4] _ HRD.out HPS.out (by decide)).mono ?_
  rintro e w3 ⟨-, hbad, hf3⟩
  obtain rfl := hbad HG.out
  have HF3 := Lib.hid (HF2.out.then hf3)
  clear hbad hf3
  go_wp2_with fail
  go_ret2
  exact ⟨rfl, HF3.out⟩

set_option maxHeartbeats 16000000 in
set_option maxRecDepth 1000000 in
theorem Extract_none (m : Md) (hk : KindOf 1 m) (v1 : Value) (l1 : List UInt8) (v2 : Value) (l2 : List UInt8) (v3 : Value) (l3 : List UInt8) (v4 : Value) (l4 : List UInt8) (w : World) (h1 : BPart w v1 l1) (h2 : BPart w v2 l2) (h3 : BPart w v3 l3) (h4 : BPart w v4 l4) (hg : numsB m [l1, l2, l3, l4] = true) (heq : ((beN l1) % m.M == (beN l3) % m.M) = true) :
    Calls Try.prog 18 #[v1, v2, v3, v4] w fun e w' => e = .returned (.tuple #[.slice none 0 0, .int .i64 6]) ∧ Fr Nob w w' := by
  have HK := Lib.hid hk
  have HOK := Lib.hid hk.ok
  clear hk
  have HG := Lib.hid hg
  have HEQ := Lib.hid heq
  clear hg heq
  have HP1 := Lib.hid h1
  have HP2 := Lib.hid h2
  have HP3 := Lib.hid h3
  have HP4 := Lib.hid h4
  have HC1 := Lib.hid (BPart.one h1)
  have HC2 := Lib.hid (BPart.one h2)
  have HC3 := Lib.hid (BPart.one h3)
  have HC4 := Lib.hid (BPart.one h4)
  clear h1 h2 h3 h4
  go_enter Try.func18, Try.ntmps18
  go_wp2_with (with_reducible refine wl_stop (o := ⟨some 17, _, _, _, _, _⟩) ?_)
  unfold Stop
  refine wl_slit (vs := [v1, v2, v3, v4]) (hgd := rfl) (ho := rfl) (hu := Try.underlying23) (hi0 := info_bs) (hp := by rfl) (hv := fun v hv => by
    simp only [List.mem_cons, List.not_mem_nil, or_false] at hv
    rcases hv with rfl | rfl | rfl | rfl
    · exact HC1.out
    · exact HC2.out
    · exact HC3.out
    · exact HC4.out) (hk := by rfl) (hz := by rfl) (h := ?_)
  intro w2 hg2 hf2 hz2
  clear hz2
  generalize w.heap.size = gl at *
  have HF2 := Lib.hid hf2
  have HRD := Lib.hid (show Rd w2 (some ⟨gl, 0, none⟩) 4 [v1, v2, v3, v4] from Rd.whole hg2)
  clear hg2 hf2
  have HPS := Lib.hid (BParts.four (HP1.out.still HF2.out) (HP2.out.still HF2.out) (HP3.out.still HF2.out) (HP4.out.still HF2.out))
  go_wp2_with fail
  refine (All_any m HK.out _ 4 4 [v1, v2, v3, v4] [l1, l2, l3, l4] _ HRD.out HPS.out (by decide)).mono ?_
  rintro e w3 ⟨hgood, -, hf3⟩
  obtain ⟨v, rfl, hown⟩ := hgood HG.out
  obtain ⟨ae, ce, rfl, -, hre, -⟩ := hown.form
  obtain ⟨be, oe, hee, -⟩ := hre.at (by simp)
  subst hee
  have HRE := Lib.hid hre
  have HF3 := Lib.hid (HF2.out.then hf3)
  clear hgood hown hre hf3
  have st0 := St.start Nob w3
  go_wp2_with fail
  refine wp_region_noPanic ?_
  refine wp_region_plan (fun wx => St Nob w3 wx []) 7 (.w 0 (.w 1 (.t 2 (.w 3 (.w 4 (.t 5 (.w 6 (.m 7 .nil)))))))) (by kernel_rfl) (by kernel_rfl) st0.drew (fun _ _ _ _ _ h => h) ?_
  have hd3 := st0.drew
  clear st0
  refine plan_w (v := ?_) rfl rfl (fun wx => ?_) ?_
  rotate_left 1
  · (go_simp; with_reducible rfl)
  try simp only [Act.put, List.setIfInBounds_toArray, List.set_cons_zero, List.set_cons_succ]
  refine plan_w (v := ?_) rfl rfl (fun wx => ?_) ?_
  rotate_left 1
  · (go_simp; with_reducible rfl)
  try simp only [Act.put, List.setIfInBounds_toArray, List.set_cons_zero, List.set_cons_succ]
  refine plan_arr rfl rfl rfl rfl (cw 4 (elN m (beN l1))) (fun wx hS => (rd_range (HRE.out.still (St.fr hS)) 0 _ (by rw [cw_len]; exact elCells_at m [l1, l2, l3, l4] 0 (by simp)))) Try.underlying94 rfl (by first | (rw [cw_len]; kernel_rfl) | (simp only [List.length_append, cw_len]; kernel_rfl)) ?_
  try simp only [Act.put, List.setIfInBounds_toArray, List.set_cons_zero, List.set_cons_succ]
  refine plan_w (v := ?_) rfl rfl (fun wx => ?_) ?_
  rotate_left 1
  · (go_simp; with_reducible rfl)
  try simp only [Act.put, List.setIfInBounds_toArray, List.set_cons_zero, List.set_cons_succ]
  refine plan_w (v := ?_) rfl rfl (fun wx => ?_) ?_
  rotate_left 1
  · (go_simp; with_reducible rfl)
  try simp only [Act.put, List.setIfInBounds_toArray, List.set_cons_zero, List.set_cons_succ]
  refine plan_arr rfl rfl rfl rfl (cw 4 (elN m (beN l3))) (fun wx hS => (rd_range (HRE.out.still (St.fr hS)) 8 _ (by rw [cw_len]; exact elCells_at m [l1, l2, l3, l4] 2 (by simp)))) Try.underlying94 rfl (by first | (rw [cw_len]; kernel_rfl) | (simp only [List.length_append, cw_len]; kernel_rfl)) ?_
  try simp only [Act.put, List.setIfInBounds_toArray, List.set_cons_zero, List.set_cons_succ]
  refine plan_w rfl rfl (exec_eqlZ m HOK.out (beN l1) (beN l3) rfl rfl rfl HEQ.out) ?_
  try simp only [Act.put, List.setIfInBounds_toArray, List.set_cons_zero, List.set_cons_succ]
  refine plan_m rfl rfl ?_
  go_simp
  try simp only [Act.put, List.setIfInBounds_toArray, List.set_cons_zero, List.set_cons_succ]
  refine plan_end ?_
  have st4 := hd3
  clear hd3
  refine NoPanic.normal ?_
  have hfr := HF3.out.then st4.fr
  clear st4
  go_wp2_with fail
  go_ret2
  exact ⟨rfl, hfr⟩

set_option maxHeartbeats 16000000 in
set_option maxRecDepth 1000000 in
theorem Extract_ok (m : Md) (hk : KindOf 1 m) (v1 : Value) (l1 : List UInt8) (v2 : Value) (l2 : List UInt8) (v3 : Value) (l3 : List UInt8) (v4 : Value) (l4 : List UInt8) (w : World) (h1 : BPart w v1 l1) (h2 : BPart w v2 l2) (h3 : BPart w v3 l3) (h4 : BPart w v4 l4) (hg : numsB m [l1, l2, l3, l4] = true) (heq : ((beN l1) % m.M == (beN l3) % m.M) = false) :
    Calls Try.prog 18 #[v1, v2, v3, v4] w fun e w' => ∃ a c, e = .returned (.tuple #[.slice a 32 c, .int .i64 0]) ∧ RdB w' a 32 (be32 (secN m.M (beN l1) (beN l2) (beN l3) (beN l4))) ∧ Fr Nob w w' := by
  have HK := Lib.hid hk
  have HOK := Lib.hid hk.ok
  clear hk
  have HG := Lib.hid hg
  have HEQ := Lib.hid heq
  clear hg heq
  have HP1 := Lib.hid h1
  have HP2 := Lib.hid h2
  have HP3 := Lib.hid h3
  have HP4 := Lib.hid h4
  have HC1 := Lib.hid (BPart.one h1)
  have HC2 := Lib.hid (BPart.one h2)
  have HC3 := Lib.hid (BPart.one h3)
  have HC4 := Lib.hid (BPart.one h4)
  clear h1 h2 h3 h4
  go_enter Try.func18, Try.ntmps18
  go_wp2_with (with_reducible refine wl_stop (o := ⟨some 17, _, _, _, _, _⟩) ?_)
  unfold Stop
  refine wl_slit (vs := [v1, v2, v3, v4]) (hgd := rfl) (ho := rfl) (hu := Try.underlying23) (hi0 := info_bs) (hp := by rfl) (hv := fun v hv => by
    simp only [List.mem_cons, List.not_mem_nil, or_false] at hv
    rcases hv with rfl | rfl | rfl | rfl
    · exact HC1.out
    · exact HC2.out
    · exact HC3.out
    · exact HC4.out) (hk := by rfl) (hz := by rfl) (h := ?_)
  intro w2 hg2 hf2 hz2
  clear hz2
  generalize w.heap.size = gl at *
  have HF2 := Lib.hid hf2
  have HRD := Lib.hid (show Rd w2 (some ⟨gl, 0, none⟩) 4 [v1, v2, v3, v4] from Rd.whole hg2)
  clear hg2 hf2
  have HPS := Lib.hid (BParts.four (HP1.out.still HF2.out) (HP2.out.still HF2.out) (HP3.out.still HF2.out) (HP4.out.still HF2.out))
  go_wp2_with fail
  refine (All_any m HK.out _ 4 4 [v1, v2, v3, v4] [l1, l2, l3, l4] _ HRD.out HPS.out (by decide)).mono ?_
  rintro e w3 ⟨hgood, -, hf3⟩
  obtain ⟨v, rfl, hown⟩ := hgood HG.out
  obtain ⟨ae, ce, rfl, -, hre, -⟩ := hown.form
  obtain ⟨be, oe, hee, -⟩ := hre.at (by simp)
  subst hee
  have HRE := Lib.hid hre
  have HF3 := Lib.hid (HF2.out.then hf3)
  clear hgood hown hre hf3
  have st0 := St.start Nob w3
  go_wp2_with fail
  refine wp_region_noPanic ?_
  refine wp_region_plan (fun wx => St Nob w3 wx []) 7 (.w 0 (.w 1 (.t 2 (.w 3 (.w 4 (.t 5 (.w 6 (.m 7 .nil)))))))) (by kernel_rfl) (by kernel_rfl) st0.drew (fun _ _ _ _ _ h => h) ?_
  have hd3 := st0.drew
  clear st0
  refine plan_w (v := ?_) rfl rfl (fun wx => ?_) ?_
  rotate_left 1
  · (go_simp; with_reducible rfl)
  try simp only [Act.put, List.setIfInBounds_toArray, List.set_cons_zero, List.set_cons_succ]
  refine plan_w (v := ?_) rfl rfl (fun wx => ?_) ?_
  rotate_left 1
  · (go_simp; with_reducible rfl)
  try simp only [Act.put, List.setIfInBounds_toArray, List.set_cons_zero, List.set_cons_succ]
  refine plan_arr rfl rfl rfl rfl (cw 4 (elN m (beN l1))) (fun wx hS => (rd_range (HRE.out.still (St.fr hS)) 0 _ (by rw [cw_len]; exact elCells_at m [l1, l2, l3, l4] 0 (by simp)))) Try.underlying94 rfl (by first | (rw [cw_len]; kernel_rfl) | (simp only [List.length_append, cw_len]; kernel_rfl)) ?_
  try simp only [Act.put, List.setIfInBounds_toArray, List.set_cons_zero, List.set_cons_succ]
  refine plan_w (v := ?_) rfl rfl (fun wx => ?_) ?_
  rotate_left 1
  · (go_simp; with_reducible rfl)
  try simp only [Act.put, List.setIfInBounds_toArray, List.set_cons_zero, List.set_cons_succ]
  refine plan_w (v := ?_) rfl rfl (fun wx => ?_) ?_
  rotate_left 1
  · (go_simp; with_reducible rfl)
  try simp only [Act.put, List.setIfInBounds_toArray, List.set_cons_zero, List.set_cons_succ]
  refine plan_arr rfl rfl rfl rfl (cw 4 (elN m (beN l3))) (fun wx hS => (rd_range (HRE.out.still (St.fr hS)) 8 _ (by rw [cw_len]; exact elCells_at m [l1, l2, l3, l4] 2 (by simp)))) Try.underlying94 rfl (by first | (rw [cw_len]; kernel_rfl) | (simp only [List.length_append, cw_len]; kernel_rfl)) ?_
  try simp only [Act.put, List.setIfInBounds_toArray, List.set_cons_zero, List.set_cons_succ]
  refine plan_w rfl rfl (exec_eqlZ m HOK.out (beN l1) (beN l3) rfl rfl rfl HEQ.out) ?_
  try simp only [Act.put, List.setIfInBounds_toArray, List.set_cons_zero, List.set_cons_succ]
  refine plan_m rfl rfl ?_
  go_simp
  try simp only [Act.put, List.setIfInBounds_toArray, List.set_cons_zero, List.set_cons_succ]
  refine plan_end ?_
  have st4 := hd3
  clear hd3
  refine NoPanic.normal ?_
  go_wp2_with fail
  refine wp_region_noPanic ?_
  refine wp_region_plan (fun wx => St Nob w3 wx []) 18 (.w 0 (.w 1 (.t 2 (.w 3 (.w 4 (.t 5 (.w 7 (.w 8 (.t 9 (.w 10 (.w 11 (.t 12 (.r 6 (.r 13 (.r 14 (.r 15 (.r 16 (.w 17 (.m 18 .nil))))))))))))))))))) (by kernel_rfl) (by kernel_rfl) st4.drew (fun _ _ _ _ _ h => h) ?_
  have hd4 := st4.drew
  clear st4
  refine plan_w (v := ?_) rfl rfl (fun wx => ?_) ?_
  rotate_left 1
  · (go_simp; with_reducible rfl)
  try simp only [Act.put, List.setIfInBounds_toArray, List.set_cons_zero, List.set_cons_succ]
  refine plan_w (v := ?_) rfl rfl (fun wx => ?_) ?_
  rotate_left 1
  · (go_simp; with_reducible rfl)
  try simp only [Act.put, List.setIfInBounds_toArray, List.set_cons_zero, List.set_cons_succ]
  refine plan_arr rfl rfl rfl rfl (cw 4 (elN m (beN l2))) (fun wx hS => (rd_range (HRE.out.still (St.fr hS)) 4 _ (by rw [cw_len]; exact elCells_at m [l1, l2, l3, l4] 1 (by simp)))) Try.underlying94 rfl (by first | (rw [cw_len]; kernel_rfl) | (simp only [List.length_append, cw_len]; kernel_rfl)) ?_
  try simp only [Act.put, List.setIfInBounds_toArray, List.set_cons_zero, List.set_cons_succ]
  refine plan_w (v := ?_) rfl rfl (fun wx => ?_) ?_
  rotate_left 1
  · (go_simp; with_reducible rfl)
  try simp only [Act.put, List.setIfInBounds_toArray, List.set_cons_zero, List.set_cons_succ]
  refine plan_w (v := ?_) rfl rfl (fun wx => ?_) ?_
  rotate_left 1
  · (go_simp; with_reducible rfl)
  try simp only [Act.put, List.setIfInBounds_toArray, List.set_cons_zero, List.set_cons_succ]
  refine plan_arr rfl rfl rfl rfl (cw 4 (elN m (beN l4))) (fun wx hS => (rd_range (HRE.out.still (St.fr hS)) 12 _ (by rw [cw_len]; exact elCells_at m [l1, l2, l3, l4] 3 (by simp)))) Try.underlying94 rfl (by first | (rw [cw_len]; kernel_rfl) | (simp only [List.length_append, cw_len]; kernel_rfl)) ?_
  try simp only [Act.put, List.setIfInBounds_toArray, List.set_cons_zero, List.set_cons_succ]
  refine plan_w (v := ?_) rfl rfl (fun wx => ?_) ?_
  rotate_left 1
  · (go_simp; with_reducible rfl)
  try simp only [Act.put, List.setIfInBounds_toArray, List.set_cons_zero, List.set_cons_succ]
  refine plan_w (v := ?_) rfl rfl (fun wx => ?_) ?_
  rotate_left 1
  · (go_simp; with_reducible rfl)
  try simp only [Act.put, List.setIfInBounds_toArray, List.set_cons_zero, List.set_cons_succ]
  refine plan_arr rfl rfl rfl rfl (cw 4 (elN m (beN l1))) (fun wx hS => (rd_range (HRE.out.still (St.fr hS)) 0 _ (by rw [cw_len]; exact elCells_at m [l1, l2, l3, l4] 0 (by simp)))) Try.underlying94 rfl (by first | (rw [cw_len]; kernel_rfl) | (simp only [List.length_append, cw_len]; kernel_rfl)) ?_
  try simp only [Act.put, List.setIfInBounds_toArray, List.set_cons_zero, List.set_cons_succ]
  refine plan_w (v := ?_) rfl rfl (fun wx => ?_) ?_
  rotate_left 1
  · (go_simp; with_reducible rfl)
  try simp only [Act.put, List.setIfInBounds_toArray, List.set_cons_zero, List.set_cons_succ]
  refine plan_w (v := ?_) rfl rfl (fun wx => ?_) ?_
  rotate_left 1
  · (go_simp; with_reducible rfl)
  try simp only [Act.put, List.setIfInBounds_toArray, List.set_cons_zero, List.set_cons_succ]
  refine plan_arr rfl rfl rfl rfl (cw 4 (elN m (beN l3))) (fun wx hS => (rd_range (HRE.out.still (St.fr hS)) 8 _ (by rw [cw_len]; exact elCells_at m [l1, l2, l3, l4] 2 (by simp)))) Try.underlying94 rfl (by first | (rw [cw_len]; kernel_rfl) | (simp only [List.length_append, cw_len]; kernel_rfl)) ?_
  try simp only [Act.put, List.setIfInBounds_toArray, List.set_cons_zero, List.set_cons_succ]
  refine plan_r rfl rfl ?_
  go_simp
  refine (ZSub_any m HK.out (beN l2) (beN l4) _).mono ?_
  rintro e' w5 ⟨rfl, hf5⟩
  have st5 := hd4.keep hf5
  clear hf5
  clear hd4
  refine ⟨st5, ?_⟩
  try simp only [Act.put, List.setIfInBounds_toArray, List.set_cons_zero, List.set_cons_succ]
  refine plan_r rfl rfl ?_
  go_simp
  refine (ZSub_any m HK.out (beN l1) (beN l3) _).mono ?_
  rintro e' w6 ⟨rfl, hf6⟩
  have st6 := st5.keep hf6
  clear hf6
  clear st5
  refine ⟨st6, ?_⟩
  try simp only [Act.put, List.setIfInBounds_toArray, List.set_cons_zero, List.set_cons_succ]
  refine plan_r rfl rfl ?_
  go_simp
  refine (ZInv_any m HK.out ((beN l1) + (m.M - (beN l3) % m.M)) _).mono ?_
  rintro e' w7 ⟨rfl, hf7⟩
  have st7 := st6.keep hf7
  clear hf7
  clear st6
  refine ⟨st7, ?_⟩
  try simp only [Act.put, List.setIfInBounds_toArray, List.set_cons_zero, List.set_cons_succ]
  refine plan_r rfl rfl ?_
  go_simp
  refine (ZMul_any m HK.out ((beN l2) + (m.M - (beN l4) % m.M)) (((beN l1) + (m.M - (beN l3) % m.M)) ^ (m.M - 2)) _).mono ?_
  rintro e' w8 ⟨rfl, hf8⟩
  have st8 := st7.keep hf8
  clear hf8
  clear st7
  refine ⟨st8, ?_⟩
  try simp only [Act.put, List.setIfInBounds_toArray, List.set_cons_zero, List.set_cons_succ]
  refine plan_r rfl rfl ?_
  go_simp
  refine (ZBytes_any m HK.out (((beN l2) + (m.M - (beN l4) % m.M)) * ((beN l1) + (m.M - (beN l3) % m.M)) ^ (m.M - 2)) _).mono ?_
  rintro e' w9 ⟨v, rfl, hown, hf9⟩
  have st9 := st8.keep hf9
  obtain ⟨av, cv, hve, hcv, hrv, -⟩ := hown.form
  subst hve
  have HRV := Lib.hid (show RdB w9 av 32 (be32 (secN m.M (beN l1) (beN l2) (beN l3) (beN l4))) by rw [Nat.mul_one] at hrv; exact hrv)
  clear hown hrv
  clear hf9
  clear st8
  refine ⟨st9, ?_⟩
  try simp only [Act.put, List.setIfInBounds_toArray, List.set_cons_zero, List.set_cons_succ]
  refine plan_w (v := ?_) rfl rfl (fun wx => ?_) ?_
  rotate_left 1
  · (go_simp; with_reducible rfl)
  try simp only [Act.put, List.setIfInBounds_toArray, List.set_cons_zero, List.set_cons_succ]
  refine plan_m rfl rfl ?_
  go_simp
  try simp only [Act.put, List.setIfInBounds_toArray, List.set_cons_zero, List.set_cons_succ]
  refine plan_end ?_
  refine NoPanic.normal ?_
  have hfr := HF3.out.then st9.fr
  clear st9
  go_wp2_with fail
  go_ret2
  exact ⟨_, _, rfl, HRV.out, hfr⟩
end Go.Proofs.Ytnooojkhnpcolaa

/- The reference's Q, Scalar, Extract. -/
namespace Go.Proofs.Ytnooojkhnpcolaa
open Go.RowKit Go.Mv Mvp
theorem sec_same (M c1 z1 c2 z2 : Nat) (h2 : c2 < M) (h4 : z2 < M) : (z1 + (M - z2)) % M * ((c1 + (M - c2)) % M) ^ (M - 2) % M = secN M c1 z1 c2 z2 := by
  unfold secN
  rw [Nat.mod_eq_of_lt h2, Nat.mod_eq_of_lt h4, Nat.mod_mul_mod, Nat.mul_mod, ← Nat.pow_mod, ← Nat.mul_mod]
theorem run_eqN (x y : Nat) (hx : x < B64 ^ 4) (hy : y < B64 ^ 4) (w : World) : (Op.equal 97 (.agg (cw 4 x).toArray) (.agg (cw 4 y).toArray)).run Try.prog w = .ok (x == y) w := by
  have h := run_eq4 (P := Try.prog) Try.underlying97 Try.underlying90 size_u64 x y w
  rw [Nat.mod_eq_of_lt hx, Nat.mod_eq_of_lt hy] at h
  rw [h]
  congr 1
theorem exec_eqlN {x y : Nat} (hx : x < B64 ^ 4) (hy : y < B64 ^ 4) {o : Oper} {a : Act} {p q : Operand} {T : TypeId} (ho : o.op = .binOp .eql 97 p q T) (hp : a.eval p = i4 x) (hq : a.eval q = i4 y) {b : Bool} (hb : (x == y) = b) (w : World) :
    (execOp a.eval o).run Try.prog w = .ok (.value (.bool b)) w := by
  subst hb
  exact exec_binop ho hp hq w (run_eqGuard_agg w .eql 97 p q _ _ Try.eqGuardType97) (eql_of_equal w (run_eqN x y hx hy w))
attribute [local irreducible] limbs lw mix cw cSub cAdd cMul foldC valFrom beN laid be32 powm montT mstep elN mdL elCells numsB numB secN

set_option maxHeartbeats 16000000 in
set_option maxRecDepth 1000000 in
theorem Q_any (m : Md) (hk : KindOf 1 m) (w : World) :
    Calls Try.prog 49 #[] w fun e w' => e = .returned (fv m.M) ∧ Fr Nob w w' := by
  have HK := Lib.hid hk
  have HOK := Lib.hid hk.ok
  clear hk
  have st0 := St.start Nob w
  go_enter Try.func49, Try.ntmps49
  go_wp2_with (with_reducible refine wl_stop (o := ⟨some 0, _, _, _, _, _⟩) ?_)
  refine wl_allocS st0 rfl rfl (z := .agg #[.int .u64 0, .int .u64 0, .int .u64 0, .int .u64 0, .int .u64 0, .int .u64 0, .int .u64 0, .int .u64 0]) (by kernel_rfl) (cw 8 0) (by rw [cw_zero]; rfl) ?_
  intro g0 w1 st1
  clear st0
  go_wp2_with fail
  refine (MakeK HK.out _).mono ?_
  rintro e' w2 ⟨rfl, hf2⟩
  have st2 := st1.keep hf2
  clear st1 hf2
  go_wp2_with (with_reducible refine wl_stop (o := ⟨none, _, _, _, _, _⟩) ?_)
  refine wl_storeS st2 0 rfl rfl rfl rfl rfl (by first | (simp only [cw_len]; done) | (simp only [List.length_append, cw_len]; done)) (by first | (rw [cw_len]; kernel_rfl) | (simp only [List.length_append, cw_len]; kernel_rfl)) (cw2_one _ _ _ _) ?_
  intro w3 st3
  clear st2
  have hr := st3.at 0 rfl
  have hfr := st3.fr
  clear st3
  go_wp2_with fail
  exact bodyPost_ret (results_st rfl rfl hr Try.underlying101 rfl (by first | (rw [cw_len]; kernel_rfl) | (simp only [List.length_append, cw_len]; kernel_rfl))) rfl ⟨rfl, hfr⟩

set_option maxHeartbeats 16000000 in
set_option maxRecDepth 1000000 in
theorem Scalar_t (m : Md) (hk : KindOf 1 m) (s : ByteArray) (w : World) (ha : numB m s.data.toList = true) :
    Calls Try.prog 48 #[.string s] w fun e w' => e = .returned (.tuple #[i4 (beN s.data.toList), .bool true]) ∧ Fr Nob w w' := by
  have HK := Lib.hid hk
  have HOK := Lib.hid hk.ok
  clear hk
  have HA := Lib.hid ha
  clear ha
  have st0 := St.start Nob w
  go_enter Try.func48, Try.ntmps48
  go_wp2_with (with_reducible refine wl_stop (o := ⟨some 2, _, _, _, _, _⟩) ?_)
  refine wl_allocS st0 rfl rfl (z := .agg #[.int .u64 0, .int .u64 0, .int .u64 0, .int .u64 0]) (by kernel_rfl) (cw 4 0) (by rw [cw_zero]; rfl) ?_
  intro g2 w1 st1
  clear st0
  go_wp2_with fail
  refine (Q_any m HK.out _).mono ?_
  rintro e' w2 ⟨rfl, hf2⟩
  have st2 := st1.keep hf2
  clear st1 hf2
  go_wp2_with fail
  refine (Number_t m HOK.out.lt s _ HA.out).mono ?_
  rintro e' w3 ⟨rfl, hf3⟩
  have st3 := st2.keep hf3
  clear st2 hf3
  go_wp2_with (with_reducible refine wl_stop (o := ⟨none, _, _, _, _, _⟩) ?_)
  refine wl_storeS st3 0 rfl rfl rfl rfl rfl (by first | (simp only [cw_len]; done) | (simp only [List.length_append, cw_len]; done)) (by first | (rw [cw_len]; kernel_rfl) | (simp only [List.length_append, cw_len]; kernel_rfl)) (cw_one _ _) ?_
  intro w4 st4
  clear st3
  have hr := st4.at 0 rfl
  have hfr := st4.fr
  clear st4
  go_wp2_with fail
  exact bodyPost_ret (results_arr2 rfl rfl hr Try.underlying97 (by first | (rw [cw_len]; kernel_rfl) | (simp only [List.length_append, cw_len]; kernel_rfl)) rfl) rfl ⟨rfl, hfr⟩

set_option maxHeartbeats 16000000 in
set_option maxRecDepth 1000000 in
theorem Scalar_f (m : Md) (hk : KindOf 1 m) (s : ByteArray) (w : World) (ha : numB m s.data.toList = false) :
    Calls Try.prog 48 #[.string s] w fun e w' => ∃ N, e = .returned (.tuple #[i4 N, .bool false]) ∧ Fr Nob w w' := by
  have HK := Lib.hid hk
  have HOK := Lib.hid hk.ok
  clear hk
  have HA := Lib.hid ha
  clear ha
  have st0 := St.start Nob w
  go_enter Try.func48, Try.ntmps48
  go_wp2_with (with_reducible refine wl_stop (o := ⟨some 2, _, _, _, _, _⟩) ?_)
  refine wl_allocS st0 rfl rfl (z := .agg #[.int .u64 0, .int .u64 0, .int .u64 0, .int .u64 0]) (by kernel_rfl) (cw 4 0) (by rw [cw_zero]; rfl) ?_
  intro g2 w1 st1
  clear st0
  go_wp2_with fail
  refine (Q_any m HK.out _).mono ?_
  rintro e' w2 ⟨rfl, hf2⟩
  have st2 := st1.keep hf2
  clear st1 hf2
  go_wp2_with fail
  refine (Number_f m HOK.out.lt s _ HA.out).mono ?_
  rintro e' w3 ⟨NA, rfl, hf3⟩
  have st3 := st2.keep hf3
  clear st2 hf3
  go_wp2_with (with_reducible refine wl_stop (o := ⟨none, _, _, _, _, _⟩) ?_)
  refine wl_storeS st3 0 rfl rfl rfl rfl rfl (by first | (simp only [cw_len]; done) | (simp only [List.length_append, cw_len]; done)) (by first | (rw [cw_len]; kernel_rfl) | (simp only [List.length_append, cw_len]; kernel_rfl)) (cw_one _ _) ?_
  intro w4 st4
  clear st3
  have hr := st4.at 0 rfl
  have hfr := st4.fr
  clear st4
  go_wp2_with fail
  exact bodyPost_ret (results_arr2 rfl rfl hr Try.underlying97 (by first | (rw [cw_len]; kernel_rfl) | (simp only [List.length_append, cw_len]; kernel_rfl)) rfl) rfl ⟨_, rfl, hfr⟩

theorem Scalar_u (m : Md) (hk : KindOf 1 m) (s : ByteArray) (w : World) : Calls Try.prog 48 #[.string s] w fun e w' => ∃ N b, e = .returned (.tuple #[i4 N, .bool b]) ∧ Fr Nob w w' := by
  cases h : numB m s.data.toList
  · exact (Scalar_f m hk s w h).mono fun e w' ⟨N, h1, h2⟩ => ⟨N, false, h1, h2⟩
  · exact (Scalar_t m hk s w h).mono fun e w' h1 => ⟨_, true, h1.1, h1.2⟩

theorem Sub_v (p a b r : Nat) (w : World) (hp0 : 0 < p) (hp : p < B64 ^ 4) (ha : a < B64 ^ 4) (hb : b < B64 ^ 4) (hbp : b ≤ p) (hr : (a + (p - b)) % p = r) :
    Calls Try.prog 51 #[fv p, i4 a, i4 b] w fun e w' => e = .returned (i4 r) ∧ Fr Nob w w' := by
  refine (Sub_any p a b w hp0 hp ha hb hbp).mono fun e w' h => ?_
  rw [Nat.add_mod_mod, hr] at h
  exact h
theorem Inv_v (p a r : Nat) (w : World) (hp1 : 1 < p) (hp : p < B64 ^ 4) (ha : a < B64 ^ 4) (hr : a ^ (p - 2) % p = r) :
    Calls Try.prog 52 #[fv p, i4 a] w fun e w' => e = .returned (i4 r) ∧ Fr Nob w w' := by
  subst hr; exact Inv_any p a w hp1 hp ha
theorem Mul_v (p a b r : Nat) (w : World) (hp0 : 0 < p) (hp : p < B64 ^ 4) (ha : a < B64 ^ 4) (hb : b < B64 ^ 4) (hr : a * b % p = r) :
    Calls Try.prog 50 #[fv p, i4 a, i4 b] w fun e w' => e = .returned (i4 r) ∧ Fr Nob w w' := by
  subst hr; exact Mul_any p a b w hp0 hp ha hb

set_option maxHeartbeats 16000000 in
set_option maxRecDepth 1000000 in
theorem RExtract_bad1 (m : Md) (hk : KindOf 1 m) (s1 : ByteArray) (s2 : ByteArray) (s3 : ByteArray) (s4 : ByteArray) (w : World) (ha1 : numB m s1.data.toList = false) :
    Calls Try.prog 19 #[.string s1, .string s2, .string s3, .string s4] w fun e w' => e = .returned (.tuple #[.string ⟨#[]⟩, .int .i64 3]) ∧ Fr Nob w w' := by
  have HK := Lib.hid hk
  have HOK := Lib.hid hk.ok
  clear hk
  have HA1 := Lib.hid ha1
  clear ha1
  have st0 := St.start Nob w
  go_enter Try.func19, Try.ntmps19
  go_wp2_with fail
  refine (Scalar_f m HK.out s1 _ HA1.out).mono ?_
  rintro e' w1 ⟨N1, rfl, hf1⟩
  have st1 := st0.keep hf1
  clear st0 hf1
  go_wp2_with (with_reducible refine wl_stop (o := ⟨some 10, _, _, _, _, _⟩) ?_)
  refine wl_allocS st1 rfl rfl (z := .agg #[.int .u64 0, .int .u64 0, .int .u64 0, .int .u64 0]) (by kernel_rfl) (cw 4 0) (by rw [cw_zero]; rfl) ?_
  intro g10 w2 st2
  clear st1
  go_wp2_with (with_reducible refine wl_stop (o := ⟨none, _, _, _, _, _⟩) ?_)
  refine wl_storeS st2 0 rfl rfl rfl rfl rfl (by first | (simp only [cw_len]; done) | (simp only [List.length_append, cw_len]; done)) (by first | (rw [cw_len]; kernel_rfl) | (simp only [List.length_append, cw_len]; kernel_rfl)) (cw_one _ _) ?_
  intro w3 st3
  clear st2
  go_wp2_with fail
  refine (Scalar_u m HK.out s2 _).mono ?_
  rintro e' w4 ⟨N2, b2, rfl, hf4⟩
  have st4 := st3.keep hf4
  clear st3 hf4
  go_wp2_with (with_reducible refine wl_stop (o := ⟨some 12, _, _, _, _, _⟩) ?_)
  refine wl_allocS st4 rfl rfl (z := .agg #[.int .u64 0, .int .u64 0, .int .u64 0, .int .u64 0]) (by kernel_rfl) (cw 4 0) (by rw [cw_zero]; rfl) ?_
  intro g12 w5 st5
  clear st4
  go_wp2_with (with_reducible refine wl_stop (o := ⟨none, _, _, _, _, _⟩) ?_)
  refine wl_storeS st5 1 rfl rfl rfl rfl rfl (by first | (simp only [cw_len]; done) | (simp only [List.length_append, cw_len]; done)) (by first | (rw [cw_len]; kernel_rfl) | (simp only [List.length_append, cw_len]; kernel_rfl)) (cw_one _ _) ?_
  intro w6 st6
  clear st5
  go_wp2_with fail
  refine (Scalar_u m HK.out s3 _).mono ?_
  rintro e' w7 ⟨N3, b3, rfl, hf7⟩
  have st7 := st6.keep hf7
  clear st6 hf7
  go_wp2_with (with_reducible refine wl_stop (o := ⟨some 14, _, _, _, _, _⟩) ?_)
  refine wl_allocS st7 rfl rfl (z := .agg #[.int .u64 0, .int .u64 0, .int .u64 0, .int .u64 0]) (by kernel_rfl) (cw 4 0) (by rw [cw_zero]; rfl) ?_
  intro g14 w8 st8
  clear st7
  go_wp2_with (with_reducible refine wl_stop (o := ⟨none, _, _, _, _, _⟩) ?_)
  refine wl_storeS st8 2 rfl rfl rfl rfl rfl (by first | (simp only [cw_len]; done) | (simp only [List.length_append, cw_len]; done)) (by first | (rw [cw_len]; kernel_rfl) | (simp only [List.length_append, cw_len]; kernel_rfl)) (cw_one _ _) ?_
  intro w9 st9
  clear st8
  go_wp2_with fail
  refine (Scalar_u m HK.out s4 _).mono ?_
  rintro e' w10 ⟨N4, b4, rfl, hf10⟩
  have st10 := st9.keep hf10
  clear st9 hf10
  go_wp2_with (with_reducible refine wl_stop (o := ⟨some 16, _, _, _, _, _⟩) ?_)
  refine wl_allocS st10 rfl rfl (z := .agg #[.int .u64 0, .int .u64 0, .int .u64 0, .int .u64 0]) (by kernel_rfl) (cw 4 0) (by rw [cw_zero]; rfl) ?_
  intro g16 w11 st11
  clear st10
  go_wp2_with (with_reducible refine wl_stop (o := ⟨none, _, _, _, _, _⟩) ?_)
  refine wl_storeS st11 3 rfl rfl rfl rfl rfl (by first | (simp only [cw_len]; done) | (simp only [List.length_append, cw_len]; done)) (by first | (rw [cw_len]; kernel_rfl) | (simp only [List.length_append, cw_len]; kernel_rfl)) (cw_one _ _) ?_
  intro w12 st12
  clear st11
  have hfr := st12.fr
  clear st12
  go_wp2_with fail
  go_ret2
  exact ⟨rfl, hfr⟩

set_option maxHeartbeats 16000000 in
set_option maxRecDepth 1000000 in
theorem RExtract_bad2 (m : Md) (hk : KindOf 1 m) (s1 : ByteArray) (s2 : ByteArray) (s3 : ByteArray) (s4 : ByteArray) (w : World) (ha1 : numB m s1.data.toList = true) (ha2 : numB m s2.data.toList = false) :
    Calls Try.prog 19 #[.string s1, .string s2, .string s3, .string s4] w fun e w' => e = .returned (.tuple #[.string ⟨#[]⟩, .int .i64 3]) ∧ Fr Nob w w' := by
  have HK := Lib.hid hk
  have HOK := Lib.hid hk.ok
  clear hk
  have HA1 := Lib.hid ha1
  have HA2 := Lib.hid ha2
  clear ha1 ha2
  have st0 := St.start Nob w
  go_enter Try.func19, Try.ntmps19
  go_wp2_with fail
  refine (Scalar_t m HK.out s1 _ HA1.out).mono ?_
  rintro e' w1 ⟨rfl, hf1⟩
  have st1 := st0.keep hf1
  clear st0 hf1
  go_wp2_with (with_reducible refine wl_stop (o := ⟨some 10, _, _, _, _, _⟩) ?_)
  refine wl_allocS st1 rfl rfl (z := .agg #[.int .u64 0, .int .u64 0, .int .u64 0, .int .u64 0]) (by kernel_rfl) (cw 4 0) (by rw [cw_zero]; rfl) ?_
  intro g10 w2 st2
  clear st1
  go_wp2_with (with_reducible refine wl_stop (o := ⟨none, _, _, _, _, _⟩) ?_)
  refine wl_storeS st2 0 rfl rfl rfl rfl rfl (by first | (simp only [cw_len]; done) | (simp only [List.length_append, cw_len]; done)) (by first | (rw [cw_len]; kernel_rfl) | (simp only [List.length_append, cw_len]; kernel_rfl)) (cw_one _ _) ?_
  intro w3 st3
  clear st2
  go_wp2_with fail
  refine (Scalar_f m HK.out s2 _ HA2.out).mono ?_
  rintro e' w4 ⟨N2, rfl, hf4⟩
  have st4 := st3.keep hf4
  clear st3 hf4
  go_wp2_with (with_reducible refine wl_stop (o := ⟨some 12, _, _, _, _, _⟩) ?_)
  refine wl_allocS st4 rfl rfl (z := .agg #[.int .u64 0, .int .u64 0, .int .u64 0, .int .u64 0]) (by kernel_rfl) (cw 4 0) (by rw [cw_zero]; rfl) ?_
  intro g12 w5 st5
  clear st4
  go_wp2_with (with_reducible refine wl_stop (o := ⟨none, _, _, _, _, _⟩) ?_)
  refine wl_storeS st5 1 rfl rfl rfl rfl rfl (by first | (simp only [cw_len]; done) | (simp only [List.length_append, cw_len]; done)) (by first | (rw [cw_len]; kernel_rfl) | (simp only [List.length_append, cw_len]; kernel_rfl)) (cw_one _ _) ?_
  intro w6 st6
  clear st5
  go_wp2_with fail
  refine (Scalar_u m HK.out s3 _).mono ?_
  rintro e' w7 ⟨N3, b3, rfl, hf7⟩
  have st7 := st6.keep hf7
  clear st6 hf7
  go_wp2_with (with_reducible refine wl_stop (o := ⟨some 14, _, _, _, _, _⟩) ?_)
  refine wl_allocS st7 rfl rfl (z := .agg #[.int .u64 0, .int .u64 0, .int .u64 0, .int .u64 0]) (by kernel_rfl) (cw 4 0) (by rw [cw_zero]; rfl) ?_
  intro g14 w8 st8
  clear st7
  go_wp2_with (with_reducible refine wl_stop (o := ⟨none, _, _, _, _, _⟩) ?_)
  refine wl_storeS st8 2 rfl rfl rfl rfl rfl (by first | (simp only [cw_len]; done) | (simp only [List.length_append, cw_len]; done)) (by first | (rw [cw_len]; kernel_rfl) | (simp only [List.length_append, cw_len]; kernel_rfl)) (cw_one _ _) ?_
  intro w9 st9
  clear st8
  go_wp2_with fail
  refine (Scalar_u m HK.out s4 _).mono ?_
  rintro e' w10 ⟨N4, b4, rfl, hf10⟩
  have st10 := st9.keep hf10
  clear st9 hf10
  go_wp2_with (with_reducible refine wl_stop (o := ⟨some 16, _, _, _, _, _⟩) ?_)
  refine wl_allocS st10 rfl rfl (z := .agg #[.int .u64 0, .int .u64 0, .int .u64 0, .int .u64 0]) (by kernel_rfl) (cw 4 0) (by rw [cw_zero]; rfl) ?_
  intro g16 w11 st11
  clear st10
  go_wp2_with (with_reducible refine wl_stop (o := ⟨none, _, _, _, _, _⟩) ?_)
  refine wl_storeS st11 3 rfl rfl rfl rfl rfl (by first | (simp only [cw_len]; done) | (simp only [List.length_append, cw_len]; done)) (by first | (rw [cw_len]; kernel_rfl) | (simp only [List.length_append, cw_len]; kernel_rfl)) (cw_one _ _) ?_
  intro w12 st12
  clear st11
  have hfr := st12.fr
  clear st12
  go_wp2_with fail
  go_ret2
  exact ⟨rfl, hfr⟩

set_option maxHeartbeats 16000000 in
set_option maxRecDepth 1000000 in
theorem RExtract_bad3 (m : Md) (hk : KindOf 1 m) (s1 : ByteArray) (s2 : ByteArray) (s3 : ByteArray) (s4 : ByteArray) (w : World) (ha1 : numB m s1.data.toList = true) (ha2 : numB m s2.data.toList = true) (ha3 : numB m s3.data.toList = false) :
    Calls Try.prog 19 #[.string s1, .string s2, .string s3, .string s4] w fun e w' => e = .returned (.tuple #[.string ⟨#[]⟩, .int .i64 3]) ∧ Fr Nob w w' := by
  have HK := Lib.hid hk
  have HOK := Lib.hid hk.ok
  clear hk
  have HA1 := Lib.hid ha1
  have HA2 := Lib.hid ha2
  have HA3 := Lib.hid ha3
  clear ha1 ha2 ha3
  have st0 := St.start Nob w
  go_enter Try.func19, Try.ntmps19
  go_wp2_with fail
  refine (Scalar_t m HK.out s1 _ HA1.out).mono ?_
  rintro e' w1 ⟨rfl, hf1⟩
  have st1 := st0.keep hf1
  clear st0 hf1
  go_wp2_with (with_reducible refine wl_stop (o := ⟨some 10, _, _, _, _, _⟩) ?_)
  refine wl_allocS st1 rfl rfl (z := .agg #[.int .u64 0, .int .u64 0, .int .u64 0, .int .u64 0]) (by kernel_rfl) (cw 4 0) (by rw [cw_zero]; rfl) ?_
  intro g10 w2 st2
  clear st1
  go_wp2_with (with_reducible refine wl_stop (o := ⟨none, _, _, _, _, _⟩) ?_)
  refine wl_storeS st2 0 rfl rfl rfl rfl rfl (by first | (simp only [cw_len]; done) | (simp only [List.length_append, cw_len]; done)) (by first | (rw [cw_len]; kernel_rfl) | (simp only [List.length_append, cw_len]; kernel_rfl)) (cw_one _ _) ?_
  intro w3 st3
  clear st2
  go_wp2_with fail
  refine (Scalar_t m HK.out s2 _ HA2.out).mono ?_
  rintro e' w4 ⟨rfl, hf4⟩
  have st4 := st3.keep hf4
  clear st3 hf4
  go_wp2_with (with_reducible refine wl_stop (o := ⟨some 12, _, _, _, _, _⟩) ?_)
  refine wl_allocS st4 rfl rfl (z := .agg #[.int .u64 0, .int .u64 0, .int .u64 0, .int .u64 0]) (by kernel_rfl) (cw 4 0) (by rw [cw_zero]; rfl) ?_
  intro g12 w5 st5
  clear st4
  go_wp2_with (with_reducible refine wl_stop (o := ⟨none, _, _, _, _, _⟩) ?_)
  refine wl_storeS st5 1 rfl rfl rfl rfl rfl (by first | (simp only [cw_len]; done) | (simp only [List.length_append, cw_len]; done)) (by first | (rw [cw_len]; kernel_rfl) | (simp only [List.length_append, cw_len]; kernel_rfl)) (cw_one _ _) ?_
  intro w6 st6
  clear st5
  go_wp2_with fail
  refine (Scalar_f m HK.out s3 _ HA3.out).mono ?_
  rintro e' w7 ⟨N3, rfl, hf7⟩
  have st7 := st6.keep hf7
  clear st6 hf7
  go_wp2_with (with_reducible refine wl_stop (o := ⟨some 14, _, _, _, _, _⟩) ?_)
  refine wl_allocS st7 rfl rfl (z := .agg #[.int .u64 0, .int .u64 0, .int .u64 0, .int .u64 0]) (by kernel_rfl) (cw 4 0) (by rw [cw_zero]; rfl) ?_
  intro g14 w8 st8
  clear st7
  go_wp2_with (with_reducible refine wl_stop (o := ⟨none, _, _, _, _, _⟩) ?_)
  refine wl_storeS st8 2 rfl rfl rfl rfl rfl (by first | (simp only [cw_len]; done) | (simp only [List.length_append, cw_len]; done)) (by first | (rw [cw_len]; kernel_rfl) | (simp only [List.length_append, cw_len]; kernel_rfl)) (cw_one _ _) ?_
  intro w9 st9
  clear st8
  go_wp2_with fail
  refine (Scalar_u m HK.out s4 _).mono ?_
  rintro e' w10 ⟨N4, b4, rfl, hf10⟩
  have st10 := st9.keep hf10
  clear st9 hf10
  go_wp2_with (with_reducible refine wl_stop (o := ⟨some 16, _, _, _, _, _⟩) ?_)
  refine wl_allocS st10 rfl rfl (z := .agg #[.int .u64 0, .int .u64 0, .int .u64 0, .int .u64 0]) (by kernel_rfl) (cw 4 0) (by rw [cw_zero]; rfl) ?_
  intro g16 w11 st11
  clear st10
  go_wp2_with (with_reducible refine wl_stop (o := ⟨none, _, _, _, _, _⟩) ?_)
  refine wl_storeS st11 3 rfl rfl rfl rfl rfl (by first | (simp only [cw_len]; done) | (simp only [List.length_append, cw_len]; done)) (by first | (rw [cw_len]; kernel_rfl) | (simp only [List.length_append, cw_len]; kernel_rfl)) (cw_one _ _) ?_
  intro w12 st12
  clear st11
  have hfr := st12.fr
  clear st12
  go_wp2_with fail
  go_ret2
  exact ⟨rfl, hfr⟩

set_option maxHeartbeats 16000000 in
set_option maxRecDepth 1000000 in
theorem RExtract_bad4 (m : Md) (hk : KindOf 1 m) (s1 : ByteArray) (s2 : ByteArray) (s3 : ByteArray) (s4 : ByteArray) (w : World) (ha1 : numB m s1.data.toList = true) (ha2 : numB m s2.data.toList = true) (ha3 : numB m s3.data.toList = true) (ha4 : numB m s4.data.toList = false) :
    Calls Try.prog 19 #[.string s1, .string s2, .string s3, .string s4] w fun e w' => e = .returned (.tuple #[.string ⟨#[]⟩, .int .i64 3]) ∧ Fr Nob w w' := by
  have HK := Lib.hid hk
  have HOK := Lib.hid hk.ok
  clear hk
  have HA1 := Lib.hid ha1
  have HA2 := Lib.hid ha2
  have HA3 := Lib.hid ha3
  have HA4 := Lib.hid ha4
  clear ha1 ha2 ha3 ha4
  have st0 := St.start Nob w
  go_enter Try.func19, Try.ntmps19
  go_wp2_with fail
  refine (Scalar_t m HK.out s1 _ HA1.out).mono ?_
  rintro e' w1 ⟨rfl, hf1⟩
  have st1 := st0.keep hf1
  clear st0 hf1
  go_wp2_with (with_reducible refine wl_stop (o := ⟨some 10, _, _, _, _, _⟩) ?_)
  refine wl_allocS st1 rfl rfl (z := .agg #[.int .u64 0, .int .u64 0, .int .u64 0, .int .u64 0]) (by kernel_rfl) (cw 4 0) (by rw [cw_zero]; rfl) ?_
  intro g10 w2 st2
  clear st1
  go_wp2_with (with_reducible refine wl_stop (o := ⟨none, _, _, _, _, _⟩) ?_)
  refine wl_storeS st2 0 rfl rfl rfl rfl rfl (by first | (simp only [cw_len]; done) | (simp only [List.length_append, cw_len]; done)) (by first | (rw [cw_len]; kernel_rfl) | (simp only [List.length_append, cw_len]; kernel_rfl)) (cw_one _ _) ?_
  intro w3 st3
  clear st2
  go_wp2_with fail
  refine (Scalar_t m HK.out s2 _ HA2.out).mono ?_
  rintro e' w4 ⟨rfl, hf4⟩
  have st4 := st3.keep hf4
  clear st3 hf4
  go_wp2_with (with_reducible refine wl_stop (o := ⟨some 12, _, _, _, _, _⟩) ?_)
  refine wl_allocS st4 rfl rfl (z := .agg #[.int .u64 0, .int .u64 0, .int .u64 0, .int .u64 0]) (by kernel_rfl) (cw 4 0) (by rw [cw_zero]; rfl) ?_
  intro g12 w5 st5
  clear st4
  go_wp2_with (with_reducible refine wl_stop (o := ⟨none, _, _, _, _, _⟩) ?_)
  refine wl_storeS st5 1 rfl rfl rfl rfl rfl (by first | (simp only [cw_len]; done) | (simp only [List.length_append, cw_len]; done)) (by first | (rw [cw_len]; kernel_rfl) | (simp only [List.length_append, cw_len]; kernel_rfl)) (cw_one _ _) ?_
  intro w6 st6
  clear st5
  go_wp2_with fail
  refine (Scalar_t m HK.out s3 _ HA3.out).mono ?_
  rintro e' w7 ⟨rfl, hf7⟩
  have st7 := st6.keep hf7
  clear st6 hf7
  go_wp2_with (with_reducible refine wl_stop (o := ⟨some 14, _, _, _, _, _⟩) ?_)
  refine wl_allocS st7 rfl rfl (z := .agg #[.int .u64 0, .int .u64 0, .int .u64 0, .int .u64 0]) (by kernel_rfl) (cw 4 0) (by rw [cw_zero]; rfl) ?_
  intro g14 w8 st8
  clear st7
  go_wp2_with (with_reducible refine wl_stop (o := ⟨none, _, _, _, _, _⟩) ?_)
  refine wl_storeS st8 2 rfl rfl rfl rfl rfl (by first | (simp only [cw_len]; done) | (simp only [List.length_append, cw_len]; done)) (by first | (rw [cw_len]; kernel_rfl) | (simp only [List.length_append, cw_len]; kernel_rfl)) (cw_one _ _) ?_
  intro w9 st9
  clear st8
  go_wp2_with fail
  refine (Scalar_f m HK.out s4 _ HA4.out).mono ?_
  rintro e' w10 ⟨N4, rfl, hf10⟩
  have st10 := st9.keep hf10
  clear st9 hf10
  go_wp2_with (with_reducible refine wl_stop (o := ⟨some 16, _, _, _, _, _⟩) ?_)
  refine wl_allocS st10 rfl rfl (z := .agg #[.int .u64 0, .int .u64 0, .int .u64 0, .int .u64 0]) (by kernel_rfl) (cw 4 0) (by rw [cw_zero]; rfl) ?_
  intro g16 w11 st11
  clear st10
  go_wp2_with (with_reducible refine wl_stop (o := ⟨none, _, _, _, _, _⟩) ?_)
  refine wl_storeS st11 3 rfl rfl rfl rfl rfl (by first | (simp only [cw_len]; done) | (simp only [List.length_append, cw_len]; done)) (by first | (rw [cw_len]; kernel_rfl) | (simp only [List.length_append, cw_len]; kernel_rfl)) (cw_one _ _) ?_
  intro w12 st12
  clear st11
  have hfr := st12.fr
  clear st12
  go_wp2_with fail
  go_ret2
  exact ⟨rfl, hfr⟩

set_option maxHeartbeats 16000000 in
set_option maxRecDepth 1000000 in
theorem RExtract_none (m : Md) (hk : KindOf 1 m) (s1 : ByteArray) (s2 : ByteArray) (s3 : ByteArray) (s4 : ByteArray) (w : World) (ha1 : numB m s1.data.toList = true) (ha2 : numB m s2.data.toList = true) (ha3 : numB m s3.data.toList = true) (ha4 : numB m s4.data.toList = true) (heq : ((beN s1.data.toList) == (beN s3.data.toList)) = true) :
    Calls Try.prog 19 #[.string s1, .string s2, .string s3, .string s4] w fun e w' => e = .returned (.tuple #[.string ⟨#[]⟩, .int .i64 6]) ∧ Fr Nob w w' := by
  have HK := Lib.hid hk
  have HOK := Lib.hid hk.ok
  clear hk
  have HA1 := Lib.hid ha1
  have HM1 := Lib.hid (numB_lt m _ ha1)
  have HL1 := Lib.hid (Nat.lt_trans (numB_lt m _ ha1) HOK.out.lt)
  have HA2 := Lib.hid ha2
  have HM2 := Lib.hid (numB_lt m _ ha2)
  have HL2 := Lib.hid (Nat.lt_trans (numB_lt m _ ha2) HOK.out.lt)
  have HA3 := Lib.hid ha3
  have HM3 := Lib.hid (numB_lt m _ ha3)
  have HL3 := Lib.hid (Nat.lt_trans (numB_lt m _ ha3) HOK.out.lt)
  have HA4 := Lib.hid ha4
  have HM4 := Lib.hid (numB_lt m _ ha4)
  have HL4 := Lib.hid (Nat.lt_trans (numB_lt m _ ha4) HOK.out.lt)
  have HM0 := Lib.hid (show 0 < m.M by have := HOK.out.one; omega)
  have HEQ := Lib.hid heq
  clear heq ha1 ha2 ha3 ha4
  have st0 := St.start Nob w
  go_enter Try.func19, Try.ntmps19
  go_wp2_with fail
  refine (Scalar_t m HK.out s1 _ HA1.out).mono ?_
  rintro e' w1 ⟨rfl, hf1⟩
  have st1 := st0.keep hf1
  clear st0 hf1
  go_wp2_with (with_reducible refine wl_stop (o := ⟨some 10, _, _, _, _, _⟩) ?_)
  refine wl_allocS st1 rfl rfl (z := .agg #[.int .u64 0, .int .u64 0, .int .u64 0, .int .u64 0]) (by kernel_rfl) (cw 4 0) (by rw [cw_zero]; rfl) ?_
  intro g10 w2 st2
  clear st1
  go_wp2_with (with_reducible refine wl_stop (o := ⟨none, _, _, _, _, _⟩) ?_)
  refine wl_storeS st2 0 rfl rfl rfl rfl rfl (by first | (simp only [cw_len]; done) | (simp only [List.length_append, cw_len]; done)) (by first | (rw [cw_len]; kernel_rfl) | (simp only [List.length_append, cw_len]; kernel_rfl)) (cw_one _ _) ?_
  intro w3 st3
  clear st2
  go_wp2_with fail
  refine (Scalar_t m HK.out s2 _ HA2.out).mono ?_
  rintro e' w4 ⟨rfl, hf4⟩
  have st4 := st3.keep hf4
  clear st3 hf4
  go_wp2_with (with_reducible refine wl_stop (o := ⟨some 12, _, _, _, _, _⟩) ?_)
  refine wl_allocS st4 rfl rfl (z := .agg #[.int .u64 0, .int .u64 0, .int .u64 0, .int .u64 0]) (by kernel_rfl) (cw 4 0) (by rw [cw_zero]; rfl) ?_
  intro g12 w5 st5
  clear st4
  go_wp2_with (with_reducible refine wl_stop (o := ⟨none, _, _, _, _, _⟩) ?_)
  refine wl_storeS st5 1 rfl rfl rfl rfl rfl (by first | (simp only [cw_len]; done) | (simp only [List.length_append, cw_len]; done)) (by first | (rw [cw_len]; kernel_rfl) | (simp only [List.length_append, cw_len]; kernel_rfl)) (cw_one _ _) ?_
  intro w6 st6
  clear st5
  go_wp2_with fail
  refine (Scalar_t m HK.out s3 _ HA3.out).mono ?_
  rintro e' w7 ⟨rfl, hf7⟩
  have st7 := st6.keep hf7
  clear st6 hf7
  go_wp2_with (with_reducible refine wl_stop (o := ⟨some 14, _, _, _, _, _⟩) ?_)
  refine wl_allocS st7 rfl rfl (z := .agg #[.int .u64 0, .int .u64 0, .int .u64 0, .int .u64 0]) (by kernel_rfl) (cw 4 0) (by rw [cw_zero]; rfl) ?_
  intro g14 w8 st8
  clear st7
  go_wp2_with (with_reducible refine wl_stop (o := ⟨none, _, _, _, _, _⟩) ?_)
  refine wl_storeS st8 2 rfl rfl rfl rfl rfl (by first | (simp only [cw_len]; done) | (simp only [List.length_append, cw_len]; done)) (by first | (rw [cw_len]; kernel_rfl) | (simp only [List.length_append, cw_len]; kernel_rfl)) (cw_one _ _) ?_
  intro w9 st9
  clear st8
  go_wp2_with fail
  refine (Scalar_t m HK.out s4 _ HA4.out).mono ?_
  rintro e' w10 ⟨rfl, hf10⟩
  have st10 := st9.keep hf10
  clear st9 hf10
  go_wp2_with (with_reducible refine wl_stop (o := ⟨some 16, _, _, _, _, _⟩) ?_)
  refine wl_allocS st10 rfl rfl (z := .agg #[.int .u64 0, .int .u64 0, .int .u64 0, .int .u64 0]) (by kernel_rfl) (cw 4 0) (by rw [cw_zero]; rfl) ?_
  intro g16 w11 st11
  clear st10
  go_wp2_with (with_reducible refine wl_stop (o := ⟨none, _, _, _, _, _⟩) ?_)
  refine wl_storeS st11 3 rfl rfl rfl rfl rfl (by first | (simp only [cw_len]; done) | (simp only [List.length_append, cw_len]; done)) (by first | (rw [cw_len]; kernel_rfl) | (simp only [List.length_append, cw_len]; kernel_rfl)) (cw_one _ _) ?_
  intro w12 st12
  clear st11
  go_wp2_with (with_reducible refine wl_stop (o := ⟨some 53, _, _, _, _, _⟩) ?_)
  refine wl_loadS st12 0 rfl rfl rfl Try.underlying97 rfl (by first | (rw [cw_len]; kernel_rfl) | (simp only [List.length_append, cw_len]; kernel_rfl)) ?_
  go_wp2_with (with_reducible refine wl_stop (o := ⟨some 54, _, _, _, _, _⟩) ?_)
  refine wl_loadS st12 2 rfl rfl rfl Try.underlying97 rfl (by first | (rw [cw_len]; kernel_rfl) | (simp only [List.length_append, cw_len]; kernel_rfl)) ?_
  go_wp2_with (with_reducible refine wl_stop (o := ⟨some 55, _, _, _, _, _⟩) ?_)
  refine wl_exec rfl (exec_eqlN HL1.out HL3.out rfl rfl rfl HEQ.out _) ?_
  have hfr := st12.fr
  clear st12
  go_wp2_with fail
  go_ret2
  exact ⟨rfl, hfr⟩

set_option maxHeartbeats 16000000 in
set_option maxRecDepth 1000000 in
theorem RExtract_v (m : Md) (hk : KindOf 1 m) (s1 : ByteArray) (s2 : ByteArray) (s3 : ByteArray) (s4 : ByteArray) (w : World) (rA rB rC rD : Nat) (ha1 : numB m s1.data.toList = true) (ha2 : numB m s2.data.toList = true) (ha3 : numB m s3.data.toList = true) (ha4 : numB m s4.data.toList = true) (heq : ((beN s1.data.toList) == (beN s3.data.toList)) = false) (hA : ((beN s2.data.toList) + (m.M - (beN s4.data.toList))) % m.M = rA) (hB : ((beN s1.data.toList) + (m.M - (beN s3.data.toList))) % m.M = rB) (hC : rB ^ (m.M - 2) % m.M = rC) (hD : rA * rC % m.M = rD) :
    Calls Try.prog 19 #[.string s1, .string s2, .string s3, .string s4] w fun e w' => e = .returned (.tuple #[.string (mkS (be32 rD)), .int .i64 0]) ∧ Fr Nob w w' := by
  have HK := Lib.hid hk
  have HOK := Lib.hid hk.ok
  clear hk
  have HA1 := Lib.hid ha1
  have HM1 := Lib.hid (numB_lt m _ ha1)
  have HL1 := Lib.hid (Nat.lt_trans (numB_lt m _ ha1) HOK.out.lt)
  have HA2 := Lib.hid ha2
  have HM2 := Lib.hid (numB_lt m _ ha2)
  have HL2 := Lib.hid (Nat.lt_trans (numB_lt m _ ha2) HOK.out.lt)
  have HA3 := Lib.hid ha3
  have HM3 := Lib.hid (numB_lt m _ ha3)
  have HL3 := Lib.hid (Nat.lt_trans (numB_lt m _ ha3) HOK.out.lt)
  have HA4 := Lib.hid ha4
  have HM4 := Lib.hid (numB_lt m _ ha4)
  have HL4 := Lib.hid (Nat.lt_trans (numB_lt m _ ha4) HOK.out.lt)
  have HM0 := Lib.hid (show 0 < m.M by have := HOK.out.one; omega)
  have HEQ := Lib.hid heq
  clear heq ha1 ha2 ha3 ha4
  have HRA := Lib.hid hA
  have HRB := Lib.hid hB
  have HRC := Lib.hid hC
  have HRD := Lib.hid hD
  have HLTA := Lib.hid (show rA < B64 ^ 4 by rw [← hA]; exact Nat.lt_trans (Nat.mod_lt _ HM0.out) HOK.out.lt)
  have HLTB := Lib.hid (show rB < B64 ^ 4 by rw [← hB]; exact Nat.lt_trans (Nat.mod_lt _ HM0.out) HOK.out.lt)
  have HLTC := Lib.hid (show rC < B64 ^ 4 by rw [← hC]; exact Nat.lt_trans (Nat.mod_lt _ HM0.out) HOK.out.lt)
  clear hA hB hC hD
  have st0 := St.start Nob w
  go_enter Try.func19, Try.ntmps19
  go_wp2_with fail
  refine (Scalar_t m HK.out s1 _ HA1.out).mono ?_
  rintro e' w1 ⟨rfl, hf1⟩
  have st1 := st0.keep hf1
  clear st0 hf1
  go_wp2_with (with_reducible refine wl_stop (o := ⟨some 10, _, _, _, _, _⟩) ?_)
  refine wl_allocS st1 rfl rfl (z := .agg #[.int .u64 0, .int .u64 0, .int .u64 0, .int .u64 0]) (by kernel_rfl) (cw 4 0) (by rw [cw_zero]; rfl) ?_
  intro g10 w2 st2
  clear st1
  go_wp2_with (with_reducible refine wl_stop (o := ⟨none, _, _, _, _, _⟩) ?_)
  refine wl_storeS st2 0 rfl rfl rfl rfl rfl (by first | (simp only [cw_len]; done) | (simp only [List.length_append, cw_len]; done)) (by first | (rw [cw_len]; kernel_rfl) | (simp only [List.length_append, cw_len]; kernel_rfl)) (cw_one _ _) ?_
  intro w3 st3
  clear st2
  go_wp2_with fail
  refine (Scalar_t m HK.out s2 _ HA2.out).mono ?_
  rintro e' w4 ⟨rfl, hf4⟩
  have st4 := st3.keep hf4
  clear st3 hf4
  go_wp2_with (with_reducible refine wl_stop (o := ⟨some 12, _, _, _, _, _⟩) ?_)
  refine wl_allocS st4 rfl rfl (z := .agg #[.int .u64 0, .int .u64 0, .int .u64 0, .int .u64 0]) (by kernel_rfl) (cw 4 0) (by rw [cw_zero]; rfl) ?_
  intro g12 w5 st5
  clear st4
  go_wp2_with (with_reducible refine wl_stop (o := ⟨none, _, _, _, _, _⟩) ?_)
  refine wl_storeS st5 1 rfl rfl rfl rfl rfl (by first | (simp only [cw_len]; done) | (simp only [List.length_append, cw_len]; done)) (by first | (rw [cw_len]; kernel_rfl) | (simp only [List.length_append, cw_len]; kernel_rfl)) (cw_one _ _) ?_
  intro w6 st6
  clear st5
  go_wp2_with fail
  refine (Scalar_t m HK.out s3 _ HA3.out).mono ?_
  rintro e' w7 ⟨rfl, hf7⟩
  have st7 := st6.keep hf7
  clear st6 hf7
  go_wp2_with (with_reducible refine wl_stop (o := ⟨some 14, _, _, _, _, _⟩) ?_)
  refine wl_allocS st7 rfl rfl (z := .agg #[.int .u64 0, .int .u64 0, .int .u64 0, .int .u64 0]) (by kernel_rfl) (cw 4 0) (by rw [cw_zero]; rfl) ?_
  intro g14 w8 st8
  clear st7
  go_wp2_with (with_reducible refine wl_stop (o := ⟨none, _, _, _, _, _⟩) ?_)
  refine wl_storeS st8 2 rfl rfl rfl rfl rfl (by first | (simp only [cw_len]; done) | (simp only [List.length_append, cw_len]; done)) (by first | (rw [cw_len]; kernel_rfl) | (simp only [List.length_append, cw_len]; kernel_rfl)) (cw_one _ _) ?_
  intro w9 st9
  clear st8
  go_wp2_with fail
  refine (Scalar_t m HK.out s4 _ HA4.out).mono ?_
  rintro e' w10 ⟨rfl, hf10⟩
  have st10 := st9.keep hf10
  clear st9 hf10
  go_wp2_with (with_reducible refine wl_stop (o := ⟨some 16, _, _, _, _, _⟩) ?_)
  refine wl_allocS st10 rfl rfl (z := .agg #[.int .u64 0, .int .u64 0, .int .u64 0, .int .u64 0]) (by kernel_rfl) (cw 4 0) (by rw [cw_zero]; rfl) ?_
  intro g16 w11 st11
  clear st10
  go_wp2_with (with_reducible refine wl_stop (o := ⟨none, _, _, _, _, _⟩) ?_)
  refine wl_storeS st11 3 rfl rfl rfl rfl rfl (by first | (simp only [cw_len]; done) | (simp only [List.length_append, cw_len]; done)) (by first | (rw [cw_len]; kernel_rfl) | (simp only [List.length_append, cw_len]; kernel_rfl)) (cw_one _ _) ?_
  intro w12 st12
  clear st11
  go_wp2_with (with_reducible refine wl_stop (o := ⟨some 53, _, _, _, _, _⟩) ?_)
  refine wl_loadS st12 0 rfl rfl rfl Try.underlying97 rfl (by first | (rw [cw_len]; kernel_rfl) | (simp only [List.length_append, cw_len]; kernel_rfl)) ?_
  go_wp2_with (with_reducible refine wl_stop (o := ⟨some 54, _, _, _, _, _⟩) ?_)
  refine wl_loadS st12 2 rfl rfl rfl Try.underlying97 rfl (by first | (rw [cw_len]; kernel_rfl) | (simp only [List.length_append, cw_len]; kernel_rfl)) ?_
  go_wp2_with (with_reducible refine wl_stop (o := ⟨some 55, _, _, _, _, _⟩) ?_)
  refine wl_exec rfl (exec_eqlN HL1.out HL3.out rfl rfl rfl HEQ.out _) ?_
  go_wp2_with fail
  refine (Q_any m HK.out _).mono ?_
  rintro e' w13 ⟨rfl, hf13⟩
  have st13 := st12.keep hf13
  clear st12 hf13
  go_wp2_with (with_reducible refine wl_stop (o := ⟨some 18, _, _, _, _, _⟩) ?_)
  refine wl_allocS st13 rfl rfl (z := .agg #[.int .u64 0, .int .u64 0, .int .u64 0, .int .u64 0, .int .u64 0, .int .u64 0, .int .u64 0, .int .u64 0]) (by kernel_rfl) (cw 8 0) (by rw [cw_zero]; rfl) ?_
  intro g18 w14 st14
  clear st13
  go_wp2_with (with_reducible refine wl_stop (o := ⟨none, _, _, _, _, _⟩) ?_)
  refine wl_storeS st14 4 rfl rfl rfl rfl rfl (by first | (simp only [cw_len]; done) | (simp only [List.length_append, cw_len]; done)) (by first | (rw [cw_len]; kernel_rfl) | (simp only [List.length_append, cw_len]; kernel_rfl)) (cw2_one _ _ _ _) ?_
  intro w15 st15
  clear st14
  go_wp2_with fail
  refine wp_region_noPanic ?_
  refine wp_region_plan (fun wx => St Nob w wx [(g10, cw 4 (beN s1.data.toList), 97), (g12, cw 4 (beN s2.data.toList), 97), (g14, cw 4 (beN s3.data.toList), 97), (g16, cw 4 (beN s4.data.toList), 97), (g18, cw 4 m.M ++ cw 4 (B64 ^ 4 - m.M), 101)]) 14 (.t 0 (.t 1 (.t 2 (.t 3 (.t 5 (.t 6 (.t 7 (.t 8 (.r 4 (.r 9 (.r 10 (.r 11 (.r 12 (.w 13 (.m 14 .nil))))))))))))))) (by kernel_rfl) (by kernel_rfl) st15.drew (fun _ _ _ _ _ h => h) ?_
  have hd15 := st15.drew
  clear st15
  refine plan_arr rfl rfl rfl rfl (cw 4 m.M ++ cw 4 (B64 ^ 4 - m.M)) (fun wx hS => St.rangeL hS 4 rfl 0 _ (by rw [List.drop_zero, List.take_of_length_le (Nat.le_refl _)])) Try.underlying101 rfl (by first | (rw [cw_len]; kernel_rfl) | (simp only [List.length_append, cw_len]; kernel_rfl)) ?_
  try simp only [Act.put, List.setIfInBounds_toArray, List.set_cons_zero, List.set_cons_succ]
  refine plan_arr rfl rfl rfl rfl (cw 4 m.M ++ cw 4 (B64 ^ 4 - m.M)) (fun wx hS => St.rangeL hS 4 rfl 0 _ (by rw [List.drop_zero, List.take_of_length_le (Nat.le_refl _)])) Try.underlying101 rfl (by first | (rw [cw_len]; kernel_rfl) | (simp only [List.length_append, cw_len]; kernel_rfl)) ?_
  try simp only [Act.put, List.setIfInBounds_toArray, List.set_cons_zero, List.set_cons_succ]
  refine plan_arr rfl rfl rfl rfl (cw 4 (beN s2.data.toList)) (fun wx hS => St.rangeL hS 1 rfl 0 _ (by rw [List.drop_zero, List.take_of_length_le (Nat.le_refl _)])) Try.underlying97 rfl (by first | (rw [cw_len]; kernel_rfl) | (simp only [List.length_append, cw_len]; kernel_rfl)) ?_
  try simp only [Act.put, List.setIfInBounds_toArray, List.set_cons_zero, List.set_cons_succ]
  refine plan_arr rfl rfl rfl rfl (cw 4 (beN s4.data.toList)) (fun wx hS => St.rangeL hS 3 rfl 0 _ (by rw [List.drop_zero, List.take_of_length_le (Nat.le_refl _)])) Try.underlying97 rfl (by first | (rw [cw_len]; kernel_rfl) | (simp only [List.length_append, cw_len]; kernel_rfl)) ?_
  try simp only [Act.put, List.setIfInBounds_toArray, List.set_cons_zero, List.set_cons_succ]
  refine plan_arr rfl rfl rfl rfl (cw 4 m.M ++ cw 4 (B64 ^ 4 - m.M)) (fun wx hS => St.rangeL hS 4 rfl 0 _ (by rw [List.drop_zero, List.take_of_length_le (Nat.le_refl _)])) Try.underlying101 rfl (by first | (rw [cw_len]; kernel_rfl) | (simp only [List.length_append, cw_len]; kernel_rfl)) ?_
  try simp only [Act.put, List.setIfInBounds_toArray, List.set_cons_zero, List.set_cons_succ]
  refine plan_arr rfl rfl rfl rfl (cw 4 m.M ++ cw 4 (B64 ^ 4 - m.M)) (fun wx hS => St.rangeL hS 4 rfl 0 _ (by rw [List.drop_zero, List.take_of_length_le (Nat.le_refl _)])) Try.underlying101 rfl (by first | (rw [cw_len]; kernel_rfl) | (simp only [List.length_append, cw_len]; kernel_rfl)) ?_
  try simp only [Act.put, List.setIfInBounds_toArray, List.set_cons_zero, List.set_cons_succ]
  refine plan_arr rfl rfl rfl rfl (cw 4 (beN s1.data.toList)) (fun wx hS => St.rangeL hS 0 rfl 0 _ (by rw [List.drop_zero, List.take_of_length_le (Nat.le_refl _)])) Try.underlying97 rfl (by first | (rw [cw_len]; kernel_rfl) | (simp only [List.length_append, cw_len]; kernel_rfl)) ?_
  try simp only [Act.put, List.setIfInBounds_toArray, List.set_cons_zero, List.set_cons_succ]
  refine plan_arr rfl rfl rfl rfl (cw 4 (beN s3.data.toList)) (fun wx hS => St.rangeL hS 2 rfl 0 _ (by rw [List.drop_zero, List.take_of_length_le (Nat.le_refl _)])) Try.underlying97 rfl (by first | (rw [cw_len]; kernel_rfl) | (simp only [List.length_append, cw_len]; kernel_rfl)) ?_
  try simp only [Act.put, List.setIfInBounds_toArray, List.set_cons_zero, List.set_cons_succ]
  refine plan_r rfl rfl ?_
  go_simp
  refine (Sub_v m.M _ _ rA _ HM0.out HOK.out.lt HL2.out HL4.out (Nat.le_of_lt HM4.out) HRA.out).mono ?_
  rintro e' w16 ⟨rfl, hf16⟩
  have st16 := hd15.keep hf16
  clear hf16
  clear hd15
  refine ⟨st16, ?_⟩
  try simp only [Act.put, List.setIfInBounds_toArray, List.set_cons_zero, List.set_cons_succ]
  refine plan_r rfl rfl ?_
  go_simp
  refine (Sub_v m.M _ _ rB _ HM0.out HOK.out.lt HL1.out HL3.out (Nat.le_of_lt HM3.out) HRB.out).mono ?_
  rintro e' w17 ⟨rfl, hf17⟩
  have st17 := st16.keep hf17
  clear hf17
  clear st16
  refine ⟨st17, ?_⟩
  try simp only [Act.put, List.setIfInBounds_toArray, List.set_cons_zero, List.set_cons_succ]
  refine plan_r rfl rfl ?_
  go_simp
  refine (Inv_v m.M rB rC _ HOK.out.one HOK.out.lt HLTB.out HRC.out).mono ?_
  rintro e' w18 ⟨rfl, hf18⟩
  have st18 := st17.keep hf18
  clear hf18
  clear st17
  refine ⟨st18, ?_⟩
  try simp only [Act.put, List.setIfInBounds_toArray, List.set_cons_zero, List.set_cons_succ]
  refine plan_r rfl rfl ?_
  go_simp
  refine (Mul_v m.M rA rC rD _ HM0.out HOK.out.lt HLTA.out HLTC.out HRD.out).mono ?_
  rintro e' w19 ⟨rfl, hf19⟩
  have st19 := st18.keep hf19
  clear hf19
  clear st18
  refine ⟨st19, ?_⟩
  try simp only [Act.put, List.setIfInBounds_toArray, List.set_cons_zero, List.set_cons_succ]
  refine plan_r rfl rfl ?_
  go_simp
  refine (RBytes_any rD _).mono ?_
  rintro e' w20 ⟨rfl, hf20⟩
  have st20 := st19.keep hf20
  clear hf20
  clear st19
  refine ⟨st20, ?_⟩
  try simp only [Act.put, List.setIfInBounds_toArray, List.set_cons_zero, List.set_cons_succ]
  refine plan_w (v := ?_) rfl rfl (fun wx => ?_) ?_
  rotate_left 1
  · (go_simp; with_reducible rfl)
  try simp only [Act.put, List.setIfInBounds_toArray, List.set_cons_zero, List.set_cons_succ]
  refine plan_m rfl rfl ?_
  go_simp
  try simp only [Act.put, List.setIfInBounds_toArray, List.set_cons_zero, List.set_cons_succ]
  refine plan_end ?_
  refine NoPanic.normal ?_
  have hfr := st20.fr
  clear st20
  go_wp2_with fail
  go_ret2
  exact ⟨rfl, hfr⟩

set_option maxHeartbeats 16000000 in
set_option maxRecDepth 1000000 in
theorem RExtract_ok (m : Md) (hk : KindOf 1 m) (s1 : ByteArray) (s2 : ByteArray) (s3 : ByteArray) (s4 : ByteArray) (w : World) (ha1 : numB m s1.data.toList = true) (ha2 : numB m s2.data.toList = true) (ha3 : numB m s3.data.toList = true) (ha4 : numB m s4.data.toList = true) (heq : ((beN s1.data.toList) == (beN s3.data.toList)) = false) :
    Calls Try.prog 19 #[.string s1, .string s2, .string s3, .string s4] w fun e w' => e = .returned (.tuple #[.string (mkS (be32 (secN m.M (beN s1.data.toList) (beN s2.data.toList) (beN s3.data.toList) (beN s4.data.toList)))), .int .i64 0]) ∧ Fr Nob w w' := by
  have h := RExtract_v m hk s1 s2 s3 s4 w _ _ _ _ ha1 ha2 ha3 ha4 heq rfl rfl rfl rfl
  rw [Nat.mul_mod_mod, sec_same _ _ _ _ _ (numB_lt m _ ha3) (numB_lt m _ ha4)] at h
  exact h
end Go.Proofs.Ytnooojkhnpcolaa

/- keys.Scalar. -/
namespace Go.Proofs.Ytnooojkhnpcolaa
open Go.RowKit Go.Mv Mvp Mvt
/-- the scalar that bytes give: never 0 -/
def scN (M : Nat) (d : List UInt8) : Nat := if beN (spongeB d 31 64) % M = 0 then 1 else beN (spongeB d 31 64) % M
theorem PartIs.bpart {w : World} {v : Value} {l : List UInt8} (h : PartIs w v l) : BPart w v l := by
  obtain ⟨a, n, c, rfl, hc, -, hr, -⟩ := h; exact ⟨a, n, c, rfl, hc, hr⟩
theorem Stream_part (v : Value) (l : List UInt8) (m : Nat) (w : World) (hm : m ≤ 16384) (hp : PartIs w v l) :
    Calls Try.prog 56 #[v, .int .i64 (m : Int)] w fun r w' => ∃ v, r = .returned (.tuple #[v, .int .i64 0]) ∧ Own w' w.heap.size 5 1 v m (bs (spongeB l 31 m)) ∧ Fr Nob w w' := by
  obtain ⟨a, n, c, rfl, hc, hn, hr, ho⟩ := hp
  exact Stream_ok a n c l m w hn hc hm hr ho
theorem Zwide_part (m : Md) (hk : KindOf 1 m) (v : Value) (l : List UInt8) (w : World) (hp : PartIs w v l) :
    Calls Try.prog 57 #[v] w fun e w' => e = .returned (i4 (elN m (beN l))) ∧ Fr Nob w w' := by
  obtain ⟨a, n, c, rfl, hc, hn, hr, ho⟩ := hp
  exact Zwide_any m hk a n c l w hr hc hn
attribute [local irreducible] limbs lw mix cw cSub cAdd cMul foldC valFrom beN laid be32 powm montT mstep elN mdL elCells numsB numB secN permS permP toB turnsK squeeze permN permB spongeB feed frameL framesL tagL derK scN

set_option maxHeartbeats 16000000 in
set_option maxRecDepth 1000000 in
theorem Scalar9_z (m : Md) (hk : KindOf 1 m) (a : Option Addr) (c : Nat) (l : List UInt8) (s : ByteArray) (p : Option Addr) (d : Nat) (path : List Nat) (w : World) (hp : PartIs w (.slice a 32 c) l) (hs : s.size ≤ 1000000) (hk16 : path.length ≤ 16) (hx : ∀ x ∈ path, x < 4294967296) (hr : Rd w p path.length (u32s path)) (D : List UInt8) (hD : tagL kKey [derK l path, s.data.toList] = D) (hz : (beN (spongeB D 31 64) % m.M == 0) = true) :
    Calls Try.prog 21 #[.slice a 32 c, .string s, .slice p path.length d] w fun e w' => ∃ v, e = .returned (.tuple #[v, .int .i64 0]) ∧ Own w' w.heap.size 5 1 v 32 (bs (be32 (scN m.M D))) ∧ Fr Nob w w' := by
  have HK := Lib.hid hk
  have HOK := Lib.hid hk.ok
  clear hk
  have HP := Lib.hid hp
  have HS := Lib.hid hs
  have HR := Lib.hid hr
  have HX := Lib.hid hx
  have HK16 := Lib.hid hk16
  have HD := Lib.hid hD
  have HZ := Lib.hid hz
  have HSC := Lib.hid (show 1 % m.M = scN m.M D by
    rw [beq_iff_eq] at hz
    unfold scN
    rw [if_pos hz]; exact Nat.mod_eq_of_lt HOK.out.one)
  clear hp hs hr hx hk16 hD hz
  go_enter Try.func21, Try.ntmps21
  go_wp2_with fail
  refine (Derive_ok a c l s p d path w HP.out HS.out HK16.out HX.out HR.out).mono ?_
  rintro e w1 ⟨v1, rfl, ho1, hf1⟩
  obtain ⟨a1, c1, rfl, -⟩ := own_rd ho1
  have HP1 := Lib.hid (own_part ho1 (by omega))
  have HF1 := Lib.hid hf1
  clear ho1 hf1
  have hD := HD.out
  rw [hD] at HP1
  clear hD
  have st0 := St.start Nob w1
  go_wp2_with fail
  refine (Stream_part _ D 64 _ (by decide) (HP1.out.still st0.fr)).mono ?_
  rintro e' w2 ⟨v2, rfl, ho2, hf2⟩
  have st2 := st0.keep hf2
  obtain ⟨a2, c2, hv2, -⟩ := own_rd ho2
  subst hv2
  have HP2 := Lib.hid (own_part ho2 (by omega))
  clear ho2
  clear st0 hf2
  have Fw2 := Lib.hid (Fr.refl Nob w2)
  go_wp2_with fail
  refine (Zwide_part m HK.out _ (spongeB D 31 64) _ (HP2.out.still Fw2.out)).mono ?_
  rintro e' w3 ⟨rfl, hf3⟩
  have st3 := st2.keep hf3
  clear st2 hf3
  go_wp2_with (with_reducible refine wl_stop (o := ⟨some 10, _, _, _, _, _⟩) ?_)
  refine wl_allocS st3 rfl rfl (z := .agg #[.int .u64 0, .int .u64 0, .int .u64 0, .int .u64 0]) (by kernel_rfl) (cw 4 0) (by rw [cw_zero]; rfl) ?_
  intro g10 w4 st4
  clear st3
  go_wp2_with (with_reducible refine wl_stop (o := ⟨none, _, _, _, _, _⟩) ?_)
  refine wl_storeS st4 0 rfl rfl rfl rfl rfl (by first | (simp only [cw_len]; done) | (simp only [List.length_append, cw_len]; done)) (by first | (rw [cw_len]; kernel_rfl) | (simp only [List.length_append, cw_len]; kernel_rfl)) (cw_one _ _) ?_
  intro w5 st5
  clear st4
  go_wp2_with (with_reducible refine wl_stop (o := ⟨some 28, _, _, _, _, _⟩) ?_)
  refine wl_loadSt st5 0 rfl rfl rfl Try.underlying94 rfl rfl (by first | (rw [cw_len]; kernel_rfl) | (simp only [List.length_append, cw_len]; kernel_rfl)) ?_
  go_wp2_with fail
  refine (ZZero_any m HOK.out (beN (spongeB D 31 64)) true HZ.out _).mono ?_
  rintro e' w6 ⟨rfl, hf6⟩
  have st6 := st5.keep hf6
  clear st5 hf6
  go_wp2_with fail
  refine (Zsmall_any m HK.out 1 (by decide) _).mono ?_
  rintro e' w7 ⟨rfl, hf7⟩
  have st7 := st6.keep hf7
  clear st6 hf7
  go_wp2_with (with_reducible refine wl_stop (o := ⟨none, _, _, _, _, _⟩) ?_)
  refine wl_storeS st7 0 rfl rfl rfl rfl rfl (by first | (simp only [cw_len]; done) | (simp only [List.length_append, cw_len]; done)) (by first | (rw [cw_len]; kernel_rfl) | (simp only [List.length_append, cw_len]; kernel_rfl)) (cw_one _ _) ?_
  intro w8 st8
  clear st7
  go_wp2_with (with_reducible refine wl_stop (o := ⟨some 31, _, _, _, _, _⟩) ?_)
  refine wl_loadSt st8 0 rfl rfl rfl Try.underlying94 rfl rfl (by first | (rw [cw_len]; kernel_rfl) | (simp only [List.length_append, cw_len]; kernel_rfl)) ?_
  go_wp2_with fail
  refine (ZBytes_any m HK.out 1 _).mono ?_
  rintro e' w9 ⟨v9, rfl, ho9, hf9⟩
  have st9 := st8.keep hf9
  have HSZ := Nat.le_trans HF1.out.size st8.fr.size
  obtain ⟨a9, c9, hv9, -⟩ := own_rd ho9
  subst hv9
  have HO9 := Lib.hid (ho9.mono HSZ)
  clear ho9
  clear st8 hf9
  have hfr := HF1.out.then st9.fr
  clear st9 HSZ
  go_wp2_with fail
  go_ret2
  refine ⟨_, rfl, ?_, hfr⟩
  have := HO9.out
  rwa [HSC.out] at this

set_option maxHeartbeats 16000000 in
set_option maxRecDepth 1000000 in
theorem Scalar9_n (m : Md) (hk : KindOf 1 m) (a : Option Addr) (c : Nat) (l : List UInt8) (s : ByteArray) (p : Option Addr) (d : Nat) (path : List Nat) (w : World) (hp : PartIs w (.slice a 32 c) l) (hs : s.size ≤ 1000000) (hk16 : path.length ≤ 16) (hx : ∀ x ∈ path, x < 4294967296) (hr : Rd w p path.length (u32s path)) (D : List UInt8) (hD : tagL kKey [derK l path, s.data.toList] = D) (hz : (beN (spongeB D 31 64) % m.M == 0) = false) :
    Calls Try.prog 21 #[.slice a 32 c, .string s, .slice p path.length d] w fun e w' => ∃ v, e = .returned (.tuple #[v, .int .i64 0]) ∧ Own w' w.heap.size 5 1 v 32 (bs (be32 (scN m.M D))) ∧ Fr Nob w w' := by
  have HK := Lib.hid hk
  have HOK := Lib.hid hk.ok
  clear hk
  have HP := Lib.hid hp
  have HS := Lib.hid hs
  have HR := Lib.hid hr
  have HX := Lib.hid hx
  have HK16 := Lib.hid hk16
  have HD := Lib.hid hD
  have HZ := Lib.hid hz
  have HSC := Lib.hid (show (beN (spongeB D 31 64)) % m.M = scN m.M D by
    rw [beq_eq_false_iff_ne] at hz
    unfold scN
    rw [if_neg hz])
  clear hp hs hr hx hk16 hD hz
  go_enter Try.func21, Try.ntmps21
  go_wp2_with fail
  refine (Derive_ok a c l s p d path w HP.out HS.out HK16.out HX.out HR.out).mono ?_
  rintro e w1 ⟨v1, rfl, ho1, hf1⟩
  obtain ⟨a1, c1, rfl, -⟩ := own_rd ho1
  have HP1 := Lib.hid (own_part ho1 (by omega))
  have HF1 := Lib.hid hf1
  clear ho1 hf1
  have hD := HD.out
  rw [hD] at HP1
  clear hD
  have st0 := St.start Nob w1
  go_wp2_with fail
  refine (Stream_part _ D 64 _ (by decide) (HP1.out.still st0.fr)).mono ?_
  rintro e' w2 ⟨v2, rfl, ho2, hf2⟩
  have st2 := st0.keep hf2
  obtain ⟨a2, c2, hv2, -⟩ := own_rd ho2
  subst hv2
  have HP2 := Lib.hid (own_part ho2 (by omega))
  clear ho2
  clear st0 hf2
  have Fw2 := Lib.hid (Fr.refl Nob w2)
  go_wp2_with fail
  refine (Zwide_part m HK.out _ (spongeB D 31 64) _ (HP2.out.still Fw2.out)).mono ?_
  rintro e' w3 ⟨rfl, hf3⟩
  have st3 := st2.keep hf3
  clear st2 hf3
  go_wp2_with (with_reducible refine wl_stop (o := ⟨some 10, _, _, _, _, _⟩) ?_)
  refine wl_allocS st3 rfl rfl (z := .agg #[.int .u64 0, .int .u64 0, .int .u64 0, .int .u64 0]) (by kernel_rfl) (cw 4 0) (by rw [cw_zero]; rfl) ?_
  intro g10 w4 st4
  clear st3
  go_wp2_with (with_reducible refine wl_stop (o := ⟨none, _, _, _, _, _⟩) ?_)
  refine wl_storeS st4 0 rfl rfl rfl rfl rfl (by first | (simp only [cw_len]; done) | (simp only [List.length_append, cw_len]; done)) (by first | (rw [cw_len]; kernel_rfl) | (simp only [List.length_append, cw_len]; kernel_rfl)) (cw_one _ _) ?_
  intro w5 st5
  clear st4
  go_wp2_with (with_reducible refine wl_stop (o := ⟨some 28, _, _, _, _, _⟩) ?_)
  refine wl_loadSt st5 0 rfl rfl rfl Try.underlying94 rfl rfl (by first | (rw [cw_len]; kernel_rfl) | (simp only [List.length_append, cw_len]; kernel_rfl)) ?_
  go_wp2_with fail
  refine (ZZero_any m HOK.out (beN (spongeB D 31 64)) false HZ.out _).mono ?_
  rintro e' w6 ⟨rfl, hf6⟩
  have st6 := st5.keep hf6
  clear st5 hf6
  go_wp2_with (with_reducible refine wl_stop (o := ⟨some 31, _, _, _, _, _⟩) ?_)
  refine wl_loadSt st6 0 rfl rfl rfl Try.underlying94 rfl rfl (by first | (rw [cw_len]; kernel_rfl) | (simp only [List.length_append, cw_len]; kernel_rfl)) ?_
  go_wp2_with fail
  refine (ZBytes_any m HK.out (beN (spongeB D 31 64)) _).mono ?_
  rintro e' w7 ⟨v9, rfl, ho9, hf7⟩
  have st7 := st6.keep hf7
  have HSZ := Nat.le_trans HF1.out.size st6.fr.size
  obtain ⟨a9, c9, hv9, -⟩ := own_rd ho9
  subst hv9
  have HO9 := Lib.hid (ho9.mono HSZ)
  clear ho9
  clear st6 hf7
  have hfr := HF1.out.then st7.fr
  clear st7 HSZ
  go_wp2_with fail
  go_ret2
  refine ⟨_, rfl, ?_, hfr⟩
  have := HO9.out
  rwa [HSC.out] at this

set_option maxHeartbeats 16000000 in
set_option maxRecDepth 1000000 in
theorem Scalar9_bad (a : Option Addr) (n c : Nat) (s : Value) (p : Option Addr) (k d : Nat) (w : World) (hbad : n ≠ 32 ∨ 16 < k) :
    Calls Try.prog 21 #[.slice a n c, s, .slice p k d] w fun e w' => e = .returned (.tuple #[.slice none 0 0, .int .i64 (if n ≠ 32 then 2 else 1)]) ∧ w = w' := by
  by_cases hn : n = 32
  · subst hn
    have hk : 16 < k := by omega
    simp only [ne_eq, not_true_eq_false, if_false]
    go_enter Try.func21, Try.ntmps21
    go_wp2_with fail
    refine (Derive_long a c s p k d w hk).mono ?_
    rintro e w1 ⟨rfl, rfl⟩
    go_wp2_with fail
    go_ret2
    exact ⟨rfl, rfl⟩
  · rw [if_pos hn]
    have HN := Lib.hid hn
    clear hn hbad
    go_enter Try.func21, Try.ntmps21
    go_wp2_with fail
    refine (Derive_len a n c s _ w HN.out).mono ?_
    rintro e w1 ⟨rfl, rfl⟩
    go_wp2_with fail
    go_ret2
    exact ⟨rfl, rfl⟩
theorem Scalar9_ok (m : Md) (hk : KindOf 1 m) (a : Option Addr) (c : Nat) (l : List UInt8) (s : ByteArray) (p : Option Addr) (d : Nat) (path : List Nat) (w : World) (hp : PartIs w (.slice a 32 c) l) (hs : s.size ≤ 1000000) (hk16 : path.length ≤ 16) (hx : ∀ x ∈ path, x < 4294967296) (hr : Rd w p path.length (u32s path)) :
    Calls Try.prog 21 #[.slice a 32 c, .string s, .slice p path.length d] w fun e w' => ∃ v, e = .returned (.tuple #[v, .int .i64 0]) ∧ Own w' w.heap.size 5 1 v 32 (bs (be32 (scN m.M (tagL kKey [derK l path, s.data.toList])))) ∧ Fr Nob w w' := by
  cases hz : (beN (spongeB (tagL kKey [derK l path, s.data.toList]) 31 64) % m.M == 0)
  · exact Scalar9_n m hk a c l s p d path w hp hs hk16 hx hr _ rfl hz
  · exact Scalar9_z m hk a c l s p d path w hp hs hk16 hx hr _ rfl hz
end Go.Proofs.Ytnooojkhnpcolaa

/- The reference's four, Derive, Scalar. -/
namespace Go.Proofs.Ytnooojkhnpcolaa
open Go.RowKit Go.Mv Mvp Mvt
theorem derK_len (l : List UInt8) (h : l.length = 32) (path : List Nat) : (derK l path).length = 32 := by
  induction path generalizing l with
  | nil => exact h
  | cons n path ih => exact ih _ (tagL_len _ _)
theorem info_strK : (Try.prog.info? 9).map (fun i => (i.zero, i.size, i.bytes)) = some (some (.string ⟨#[]⟩), 1, 16) := by kernel_rfl
theorem cw4_one : (cw 4 0).set 0 (.int .u64 1) = cw 4 1 := by kernel_rfl
attribute [local irreducible] limbs lw mix cw cSub cAdd cMul foldC valFrom beN laid be32 powm montT mstep elN mdL elCells numsB numB secN permS permP toB turnsK squeeze permN permB spongeB feed frameL framesL tagL derK scN lenB

set_option maxHeartbeats 4000000 in
set_option maxRecDepth 1000000 in
theorem four_any (n : Nat) (hn : n < 4294967296) (w : World) :
    Calls Try.prog 61 #[.int .u32 (n : Int)] w fun e w' => e = .returned (.string (mkS (lenB n))) ∧ Fr Nob w w' := by
  go_enter Try.func61, Try.ntmps61
  go_wp2_with (with_reducible refine wl_stop (o := ⟨some 14, _, _, _, _, _⟩) ?_)
  refine wl_four rfl rfl Try.underlying22 info_u8 _ _ _ _ (fourB_0 n hn) (fourB_1 n) (lenB_2 n) (lenB_3 n) ?_
  intro w1 hh1 hf1 hz1
  have hh1' : Has w1 w.heap.size (bs (lenB n)) 5 := by unfold lenB; exact hh1
  have hrd : RdB w1 (some ⟨w.heap.size, 0, none⟩) 4 (lenB n) := by
    have := Rd.whole hh1'
    rwa [length_bs, lenB_len] at this
  have hc := run_string (P := Try.prog) hrd 4 Try.underlying22 Try.underlying5 Try.underlying9
  have HF := Lib.hid hf1
  clear hh1 hh1' hz1 hrd hf1
  generalize w.heap.size = g4 at *
  go_wp2_with fail
  go_ret
  exact ⟨rfl, HF.out⟩
set_option maxHeartbeats 4000000 in
set_option maxRecDepth 1000000 in
theorem RDerive_len (q : ByteArray) (s vp : Value) (w : World) (hn : q.size ≠ 32) :
    Calls Try.prog 22 #[.string q, s, vp] w fun e w' => e = .returned (.tuple #[.string ⟨#[]⟩, .int .i64 2]) ∧ w = w' := by
  have hne : ((q.size : Int) != 32) = true := by simp; omega
  clear hn
  go_enter Try.func22, Try.ntmps22
  go_wp2
  go_ret2
  exact ⟨rfl, rfl⟩
set_option maxHeartbeats 4000000 in
set_option maxRecDepth 1000000 in
theorem RDerive_long (q : ByteArray) (s : Value) (p : Option Addr) (k d : Nat) (w : World) (hq : q.size = 32) (hk : 16 < k) :
    Calls Try.prog 22 #[.string q, s, .slice p k d] w fun e w' => e = .returned (.tuple #[.string ⟨#[]⟩, .int .i64 1]) ∧ w = w' := by
  have hne : ((q.size : Int) != 32) = false := by rw [hq]; rfl
  have hkI : (16 : Int) < (k : Int) := by omega
  clear hq
  go_enter Try.func22, Try.ntmps22
  go_wp2
  go_ret2
  exact ⟨rfl, rfl⟩
set_option maxHeartbeats 4000000 in
set_option maxRecDepth 1000000 in
theorem RDerive_ok (l : List UInt8) (s : ByteArray) (p : Option Addr) (d : Nat) (path : List Nat) (w : World) (hl : l.length = 32) (hs : s.size ≤ 50000) (hk : path.length ≤ 16) (hx : ∀ x ∈ path, x < 4294967296) (hr : Rd w p path.length (u32s path)) :
    Calls Try.prog 22 #[.string (mkS l), .string s, .slice p path.length d] w fun e w' => e = .returned (.tuple #[.string (mkS (tagL kKey [derK l path, s.data.toList])), .int .i64 0]) ∧ Fr Nob w w' := by
  have hne : (((mkS l).size : Int) != 32) = false := by rw [mkS_size, hl]; rfl
  have hkI : ¬ ((16 : Int) < (path.length : Int)) := by omega
  have HL := Lib.hid hl
  have HS := Lib.hid hs
  have HR := Lib.hid hr
  have HX := Lib.hid hx
  clear hl hs hr hx
  go_enter Try.func22, Try.ntmps22
  go_wp2
  go_loopw [8, 9] (fun v i wr => ∃ j : Nat, j ≤ path.length ∧ i = .int .i64 (j : Int) ∧ v = .string (mkS (derK l (path.take j))) ∧ Fr Nob w wr) (fun _ i _ => (path.length - intOf i).toNat)
  case atStart => exact ⟨0, by omega, rfl, by rw [List.take_zero, derK_nil], Fr.refl _ _⟩
  case round =>
    obtain ⟨j, hj, rfl, rfl, hfj⟩ := hrel
    have HFJ := Lib.hid hfj
    clear hfj
    by_cases hlt : j < path.length
    · have hltI : (j : Int) < (path.length : Int) := by omega
      obtain ⟨b, o, hab, -⟩ := HR.out.at (by omega)
      subst hab
      have hcell := rd_at0 (HR.out.still HFJ.out) j _ (u32s_get path j hlt)
      have HD := Lib.hid (derK_succ l path j hlt)
      have HDL := Lib.hid (derK_len l HL.out (path.take j))
      have hxb : path.getD j 0 < 4294967296 := by
        have : path.getD j 0 = path[j] := by simp [List.getD_eq_getElem?_getD, hlt]
        rw [this]; exact HX.out _ (List.getElem_mem _)
      generalize path.getD j 0 = x at *
      generalize derK l (path.take j) = kj at *
      go_wp2_with fail
      refine (four_any x hxb _).mono ?_
      rintro e w5 ⟨rfl, hf5⟩
      have HF5 := Lib.hid (HFJ.out.then hf5)
      clear hf5 hcell hxb
      go_wp2_with (with_reducible refine wl_stop (o := ⟨some 29, _, _, _, _, _⟩) ?_)
      refine wl_slit (vs := ss [kj, lenB x]) (hgd := rfl) (ho := rfl) (hu := Try.underlying64) (hi0 := info_strK) (hp := by rfl) (hv := fun u hu => by
        simp only [ss, List.map_cons, List.map_nil, List.mem_cons, List.not_mem_nil, or_false] at hu
        rcases hu with rfl | rfl <;> rfl) (hk := by rfl) (hz := by rfl) (h := ?_)
      intro w6 hh6 hf6 hz6
      clear hz6
      have HH6 := Lib.hid hh6
      have HF6 := Lib.hid (HF5.out.then hf6)
      clear hh6 hf6 HF5
      generalize w5.heap.size = g5 at *
      rw [kChild_eq]
      go_wp2_with fail
      refine (tagR_of kChild _ _ [kj, lenB x] _ HH6.out (by have h1 := HDL.out; have h2 := lenB_len x; have h3 : kChild.length = 5 := rfl; simp [sumL, h1, h2, h3]) (by simp)).mono ?_
      rintro e w7 ⟨rfl, hf7⟩
      have HF7 := Lib.hid (HF6.out.then hf7)
      clear hf7
      go_wp2_with fail
      go_roundw
      case rel => exact ⟨j + 1, by omega, by go_num, by rw [HD.out], HF7.out⟩
      case measure => simp [intOf]; omega
    · have hge : ¬ ((j : Int) < (path.length : Int)) := by omega
      have HJ := Lib.hid (show path.take j = path from List.take_of_length_le (by omega))
      have HDL := Lib.hid (derK_len l HL.out (path.take j))
      rw [HJ.out] at HDL ⊢
      generalize hkj : derK l path = kj at *
      have HKJ := Lib.hid hkj
      clear hkj
      go_wp2_with (with_reducible refine wl_stop (o := ⟨some 33, _, _, _, _, _⟩) ?_)
      refine wl_slit (vs := [.string (mkS kj), .string s]) (hgd := rfl) (ho := rfl) (hu := Try.underlying64) (hi0 := info_strK) (hp := by rfl) (hv := fun u hu => by
        simp only [List.mem_cons, List.not_mem_nil, or_false] at hu
        rcases hu with rfl | rfl <;> rfl) (hk := by rfl) (hz := by rfl) (h := ?_)
      intro w6 hh6 hf6 hz6
      clear hz6
      have HH6 := Lib.hid (show Has w6 wr.heap.size (ss [kj, s.data.toList]) 9 from hh6)
      have HF6 := Lib.hid (HFJ.out.then hf6)
      clear hh6 hf6
      generalize wr.heap.size = g5 at *
      rw [kKey_eq]
      go_wp2_with fail
      refine (tagR_of kKey _ _ [kj, s.data.toList] _ HH6.out (by have h1 := HDL.out; have h2 := HS.out; have h3 : kKey.length = 3 := rfl; simp [sumL, h1, h3]; omega) (by simp)).mono ?_
      rintro e w7 ⟨rfl, hf7⟩
      have HF7 := Lib.hid (HF6.out.then hf7)
      clear hf7
      go_wp2_with fail
      go_ret2
      exact ⟨by rw [HKJ.out]; rfl, HF7.out⟩

theorem NZero_b (a : Nat) (b : Bool) (hb : decide (a = 0) = b) (ha : a < B64 ^ 4) (w : World) :
    Calls Try.prog 64 #[i4 a] w fun e w' => e = .returned (.bool b) ∧ Fr Nob w w' := by
  subst hb; exact Zero_any a w ha
theorem ModD (p : Nat) (D : List UInt8) (w : World) (hp0 : 0 < p) (hp : p < B64 ^ 4) :
    Calls Try.prog 62 #[fv p, .string (mkS (spongeB D 31 64))] w fun e w' => e = .returned (i4 (beN (spongeB D 31 64) % p)) ∧ Fr Nob w w' := by
  have h := Mod_any p (mkS (spongeB D 31 64)) w hp0 hp (by rw [mkS_size, spongeB_len]; decide)
  simpa [mkS] using h

set_option maxHeartbeats 16000000 in
set_option maxRecDepth 1000000 in
theorem RScalar9_z (m : Md) (hk : KindOf 1 m) (l : List UInt8) (s : ByteArray) (p : Option Addr) (d : Nat) (path : List Nat) (w : World) (hl : l.length = 32) (hs : s.size ≤ 50000) (hk16 : path.length ≤ 16) (hx : ∀ x ∈ path, x < 4294967296) (hr : Rd w p path.length (u32s path)) (D : List UInt8) (hD : tagL kKey [derK l path, s.data.toList] = D) (hz : decide (beN (spongeB D 31 64) % m.M = 0) = true) :
    Calls Try.prog 23 #[.string (mkS l), .string s, .slice p path.length d] w fun e w' => e = .returned (.tuple #[.string (mkS (be32 (scN m.M D))), .int .i64 0]) ∧ Fr Nob w w' := by
  have HK := Lib.hid hk
  have HOK := Lib.hid hk.ok
  clear hk
  have HDL := Lib.hid (show (mkS D).size ≤ 1000000 by rw [mkS_size, ← hD, tagL_len]; decide)
  have HM0 := Lib.hid (show 0 < m.M by have := HOK.out.one; omega)
  have HL := Lib.hid hl
  have HS := Lib.hid hs
  have HR := Lib.hid hr
  have HX := Lib.hid hx
  have HK16 := Lib.hid hk16
  have HD := Lib.hid hD
  have HZ := Lib.hid hz
  have HZ0 := Lib.hid (of_decide_eq_true hz)
  have HXL := Lib.hid (Nat.lt_trans (Nat.mod_lt (beN (spongeB D 31 64)) HM0.out) HOK.out.lt)
  have HSC := Lib.hid (show 1 = scN m.M D by
    unfold scN
    rw [if_pos (of_decide_eq_true hz)])
  clear hl hs hr hx hk16 hD hz
  go_enter Try.func23, Try.ntmps23
  go_wp2_with fail
  refine (RDerive_ok l s p d path w HL.out HS.out HK16.out HX.out HR.out).mono ?_
  rintro e w1 ⟨rfl, hf1⟩
  have HF1 := Lib.hid hf1
  clear hf1
  have hD := HD.out
  rw [hD]
  clear hD
  have st0 := St.start Nob w1
  go_wp2_with fail
  refine (Q_any m HK.out _).mono ?_
  rintro e' w2 ⟨rfl, hf2⟩
  have st2 := st0.keep hf2
  clear st0 hf2
  go_wp2_with fail
  refine (streamR_any (mkS D) 64 _ HDL.out (by decide)).mono ?_
  rintro e' w3 ⟨rfl, hf3⟩
  have st3 := st2.keep hf3
  clear st2 hf3
  go_wp2_with fail
  refine (ModD m.M D _ HM0.out HOK.out.lt).mono ?_
  rintro e' w4 ⟨rfl, hf4⟩
  have st4 := st3.keep hf4
  clear st3 hf4
  go_wp2_with (with_reducible refine wl_stop (o := ⟨some 10, _, _, _, _, _⟩) ?_)
  refine wl_allocS st4 rfl rfl (z := .agg #[.int .u64 0, .int .u64 0, .int .u64 0, .int .u64 0]) (by kernel_rfl) (cw 4 0) (by rw [cw_zero]; rfl) ?_
  intro g10 w5 st5
  clear st4
  go_wp2_with (with_reducible refine wl_stop (o := ⟨none, _, _, _, _, _⟩) ?_)
  refine wl_storeS st5 0 rfl rfl rfl rfl rfl (by first | (simp only [cw_len]; done) | (simp only [List.length_append, cw_len]; done)) (by first | (rw [cw_len]; kernel_rfl) | (simp only [List.length_append, cw_len]; kernel_rfl)) (cw_one _ _) ?_
  intro w6 st6
  clear st5
  go_wp2_with (with_reducible refine wl_stop (o := ⟨some 26, _, _, _, _, _⟩) ?_)
  refine wl_loadS st6 0 rfl rfl rfl Try.underlying97 rfl (by first | (rw [cw_len]; kernel_rfl) | (simp only [List.length_append, cw_len]; kernel_rfl)) ?_
  go_wp2_with fail
  refine (NZero_b (beN (spongeB D 31 64) % m.M) true HZ.out HXL.out _).mono ?_
  rintro e' w7 ⟨rfl, hf7⟩
  have st7 := st6.keep hf7
  clear st6 hf7
  rw [HZ0.out] at st7
  obtain ⟨z0, hz0, hz1⟩ := (st7.at 0 rfl).ready (i := 0) (by rw [cw_len]; decide)
  go_wp2_with (with_reducible refine wl_stop (o := ⟨some 30, _, _, _, _, _⟩) ?_)
  have st8 := st7.set 0 rfl 0 (.int .u64 1)
  try simp only [List.set_cons_zero] at st8
  rw [cw4_one] at st8
  clear st7 hz0 hz1
  unfold Stop
  refine wl_loadS st8 0 rfl rfl rfl Try.underlying97 rfl (by first | (rw [cw_len]; kernel_rfl) | (simp only [List.length_append, cw_len]; kernel_rfl)) ?_
  go_wp2_with fail
  refine (RBytes_any 1 _).mono ?_
  rintro e' w9 ⟨rfl, hf9⟩
  have st9 := st8.keep hf9
  clear st8 hf9
  have hfr := HF1.out.then st9.fr
  clear st9
  go_wp2_with fail
  go_ret2
  exact ⟨by rw [← HSC.out]; rfl, hfr⟩

set_option maxHeartbeats 16000000 in
set_option maxRecDepth 1000000 in
theorem RScalar9_n (m : Md) (hk : KindOf 1 m) (l : List UInt8) (s : ByteArray) (p : Option Addr) (d : Nat) (path : List Nat) (w : World) (hl : l.length = 32) (hs : s.size ≤ 50000) (hk16 : path.length ≤ 16) (hx : ∀ x ∈ path, x < 4294967296) (hr : Rd w p path.length (u32s path)) (D : List UInt8) (hD : tagL kKey [derK l path, s.data.toList] = D) (hz : decide (beN (spongeB D 31 64) % m.M = 0) = false) :
    Calls Try.prog 23 #[.string (mkS l), .string s, .slice p path.length d] w fun e w' => e = .returned (.tuple #[.string (mkS (be32 (scN m.M D))), .int .i64 0]) ∧ Fr Nob w w' := by
  have HK := Lib.hid hk
  have HOK := Lib.hid hk.ok
  clear hk
  have HDL := Lib.hid (show (mkS D).size ≤ 1000000 by rw [mkS_size, ← hD, tagL_len]; decide)
  have HM0 := Lib.hid (show 0 < m.M by have := HOK.out.one; omega)
  have HL := Lib.hid hl
  have HS := Lib.hid hs
  have HR := Lib.hid hr
  have HX := Lib.hid hx
  have HK16 := Lib.hid hk16
  have HD := Lib.hid hD
  have HZ := Lib.hid hz

  have HXL := Lib.hid (Nat.lt_trans (Nat.mod_lt (beN (spongeB D 31 64)) HM0.out) HOK.out.lt)
  have HSC := Lib.hid (show (beN (spongeB D 31 64) % m.M) = scN m.M D by
    unfold scN
    rw [if_neg (of_decide_eq_false hz)])
  clear hl hs hr hx hk16 hD hz
  go_enter Try.func23, Try.ntmps23
  go_wp2_with fail
  refine (RDerive_ok l s p d path w HL.out HS.out HK16.out HX.out HR.out).mono ?_
  rintro e w1 ⟨rfl, hf1⟩
  have HF1 := Lib.hid hf1
  clear hf1
  have hD := HD.out
  rw [hD]
  clear hD
  have st0 := St.start Nob w1
  go_wp2_with fail
  refine (Q_any m HK.out _).mono ?_
  rintro e' w2 ⟨rfl, hf2⟩
  have st2 := st0.keep hf2
  clear st0 hf2
  go_wp2_with fail
  refine (streamR_any (mkS D) 64 _ HDL.out (by decide)).mono ?_
  rintro e' w3 ⟨rfl, hf3⟩
  have st3 := st2.keep hf3
  clear st2 hf3
  go_wp2_with fail
  refine (ModD m.M D _ HM0.out HOK.out.lt).mono ?_
  rintro e' w4 ⟨rfl, hf4⟩
  have st4 := st3.keep hf4
  clear st3 hf4
  go_wp2_with (with_reducible refine wl_stop (o := ⟨some 10, _, _, _, _, _⟩) ?_)
  refine wl_allocS st4 rfl rfl (z := .agg #[.int .u64 0, .int .u64 0, .int .u64 0, .int .u64 0]) (by kernel_rfl) (cw 4 0) (by rw [cw_zero]; rfl) ?_
  intro g10 w5 st5
  clear st4
  go_wp2_with (with_reducible refine wl_stop (o := ⟨none, _, _, _, _, _⟩) ?_)
  refine wl_storeS st5 0 rfl rfl rfl rfl rfl (by first | (simp only [cw_len]; done) | (simp only [List.length_append, cw_len]; done)) (by first | (rw [cw_len]; kernel_rfl) | (simp only [List.length_append, cw_len]; kernel_rfl)) (cw_one _ _) ?_
  intro w6 st6
  clear st5
  go_wp2_with (with_reducible refine wl_stop (o := ⟨some 26, _, _, _, _, _⟩) ?_)
  refine wl_loadS st6 0 rfl rfl rfl Try.underlying97 rfl (by first | (rw [cw_len]; kernel_rfl) | (simp only [List.length_append, cw_len]; kernel_rfl)) ?_
  go_wp2_with fail
  refine (NZero_b (beN (spongeB D 31 64) % m.M) false HZ.out HXL.out _).mono ?_
  rintro e' w7 ⟨rfl, hf7⟩
  have st7 := st6.keep hf7
  clear st6 hf7
  go_wp2_with (with_reducible refine wl_stop (o := ⟨some 30, _, _, _, _, _⟩) ?_)
  refine wl_loadS st7 0 rfl rfl rfl Try.underlying97 rfl (by first | (rw [cw_len]; kernel_rfl) | (simp only [List.length_append, cw_len]; kernel_rfl)) ?_
  go_wp2_with fail
  refine (RBytes_any (beN (spongeB D 31 64) % m.M) _).mono ?_
  rintro e' w8 ⟨rfl, hf8⟩
  have st8 := st7.keep hf8
  clear st7 hf8
  have hfr := HF1.out.then st8.fr
  clear st8
  go_wp2_with fail
  go_ret2
  exact ⟨by rw [← HSC.out]; rfl, hfr⟩

set_option maxHeartbeats 16000000 in
set_option maxRecDepth 1000000 in
theorem RScalar9_bad (q : ByteArray) (s : Value) (p : Option Addr) (k d : Nat) (w : World) (hbad : q.size ≠ 32 ∨ 16 < k) :
    Calls Try.prog 23 #[.string q, s, .slice p k d] w fun e w' => e = .returned (.tuple #[.string ⟨#[]⟩, .int .i64 (if q.size ≠ 32 then 2 else 1)]) ∧ w = w' := by
  by_cases hn : q.size = 32
  · have hk : 16 < k := by omega
    rw [if_neg (by simpa using hn)]
    have HN := Lib.hid hn
    clear hn hbad
    go_enter Try.func23, Try.ntmps23
    go_wp2_with fail
    refine (RDerive_long q s p k d w HN.out hk).mono ?_
    rintro e w1 ⟨rfl, rfl⟩
    go_wp2_with fail
    go_ret2
    exact ⟨rfl, rfl⟩
  · rw [if_pos hn]
    have HN := Lib.hid hn
    clear hn hbad
    go_enter Try.func23, Try.ntmps23
    go_wp2_with fail
    refine (RDerive_len q s _ w HN.out).mono ?_
    rintro e w1 ⟨rfl, rfl⟩
    go_wp2_with fail
    go_ret2
    exact ⟨rfl, rfl⟩
theorem RScalar9_ok (m : Md) (hk : KindOf 1 m) (l : List UInt8) (s : ByteArray) (p : Option Addr) (d : Nat) (path : List Nat) (w : World) (hl : l.length = 32) (hs : s.size ≤ 50000) (hk16 : path.length ≤ 16) (hx : ∀ x ∈ path, x < 4294967296) (hr : Rd w p path.length (u32s path)) :
    Calls Try.prog 23 #[.string (mkS l), .string s, .slice p path.length d] w fun e w' => e = .returned (.tuple #[.string (mkS (be32 (scN m.M (tagL kKey [derK l path, s.data.toList])))), .int .i64 0]) ∧ Fr Nob w w' := by
  cases hz : decide (beN (spongeB (tagL kKey [derK l path, s.data.toList]) 31 64) % m.M = 0)
  · exact RScalar9_n m hk l s p d path w hl hs hk16 hx hr _ rfl hz
  · exact RScalar9_z m hk l s p d path w hl hs hk16 hx hr _ rfl hz
end Go.Proofs.Ytnooojkhnpcolaa

/- Slices and structs that were handed in, of any element type, opened. -/
namespace Go.Mv
open Go.RowKit Go.ChangeShapes Go.WideShapes
section
variable {H : Type} {enc : TypeId × Value → H} {P : Program} {w : World} {base : Nat} {held : Bool} {spare : Nat → Bool}
/-- what was read takes no more room than a machine has -/
def Fits (P : Program) (t : TypeId) (d : DataW H) : Prop := ∀ k ∈ d.weights P t, k ≤ 140737488351232
theorem fits_of {ts : List TypeId} {ds : List (DataW H)} (hz : (DataW.weightsEach P ts ds).all (· ≤ reachBytes) = true) {j : Nat} {t : TypeId} {d : DataW H} (ht : ts[j]? = some t) (hd : ds[j]? = some d) : Fits P t d := by
  intro k hk
  have := List.all_eq_true.1 hz k (DataW.weights_mem_each ht hd k hk)
  have hr : reachBytes = 140737488351232 := rfl
  rw [hr] at this
  simpa using this
/-- cells that read as a value of type t -/
def Reads (enc : TypeId × Value → H) (P : Program) (w : World) (spare : Nat → Bool) (held : Bool) (t : TypeId) (cs : List Value) : Prop := ∃ n y, DataW.trod enc P w 0 spare held n t cs = some y ∧ Fits P t y.1

theorem open_cells {t e : TypeId} {sz : Nat} {cs : List Value} (ht : P.underlying t = some (.slice e)) (hsz : P.cellsOf e = sz) (hpos : 0 < sz) (h : Reads enc P w spare held t cs) :
    ∃ a c css, cs = [.slice a (List.length css) c] ∧ Rd w a (css.length * sz) css.flatten ∧ (∀ x ∈ css, x.length = sz ∧ Reads enc P w spare held e x) ∧ css.length ≤ c ∧ c ≤ 9223372036854775807 ∧ css.length * P.bytesOf e ≤ 140737488351232 := by
  obtain ⟨fuel, y, hf, hfit⟩ := h
  rcases DataW.trod_slice ht hf with ⟨hcs, hx⟩ | ⟨a, len, cap, elems, rest, n, _, rfl, rfl, hb, hl, hm, hlen, hel, hsp, hns⟩
  · exact ⟨none, 0, [], hcs, by simpa using Rd.nil w none, by simp, by simp, by simp, by simp⟩
  · have hget : ∀ i, (hi : i < len) → ∃ x : List Value, w.cells? 0 (a.add (i * P.cellsOf e)) (P.cellsOf e) = some x ∧ DataW.trod enc P w 0 spare held n e x = some (elems[i]'(by omega)) := fun i hi => by
      have := hel i hi
      rw [List.getElem?_eq_getElem (by omega), Option.bind_eq_some_iff] at this
      exact this
    have hall : ∀ d ∈ elems.map (·.1), ∀ k ∈ d.weights P e, k ≤ 140737488351232 := fun d hd k hk => by
      refine hfit k ?_
      simp only [DataW.weights, ht, List.mem_cons, List.mem_append]
      exact .inr (.inl (weightsAll_mem hd k hk))
    have hone : (elems.map (·.1)).length * P.bytesOf e ≤ 140737488351232 := by
      have h1 := hfit (((elems.map (·.1)).length + (rest.map (·.1)).length) * P.bytesOf e) (by simp [DataW.weights, ht])
      have h2 : (elems.map (·.1)).length * P.bytesOf e ≤ ((elems.map (·.1)).length + (rest.map (·.1)).length) * P.bytesOf e := Nat.mul_le_mul_right _ (by omega)
      omega
    -- the cells of each
    let f : Nat → List Value := fun i => if hi : i < len then (hget i hi).choose else []
    have hf' : ∀ i, (hi : i < len) → w.cells? 0 (a.add (i * P.cellsOf e)) (P.cellsOf e) = some (f i) ∧ DataW.trod enc P w 0 spare held n e (f i) = some (elems[i]'(by omega)) := fun i hi => by
      have := (hget i hi).choose_spec
      simp only [f, dif_pos hi]
      exact this
    have hfl : ∀ i, (hi : i < len) → (f i).length = sz := fun i hi => by
      have := (World.cells?_some (hf' i hi).1).2.1
      rw [hsz] at this; exact this
    refine ⟨some a, cap, (List.range len).map f, by simp, ?_, ?_, by simpa using hl, by simpa [maxLen] using hm, by simpa [hlen] using hone⟩
    · have hflat : ((List.range len).map f).flatten.length = len * sz := by
        have : ∀ m, m ≤ len → ((List.range m).map f).flatten.length = m * sz := by
          intro m
          induction m with
          | zero => intro _; simp
          | succ m ih =>
            intro hm
            rw [List.range_succ, List.map_append, List.flatten_append, List.length_append, ih (by omega)]
            simp only [List.map_cons, List.map_nil, List.flatten_cons, List.flatten_nil, List.append_nil]
            rw [hfl m (by omega), Nat.succ_mul]
        exact this len (Nat.le_refl _)
      refine ⟨by rw [hflat]; simp, ?_⟩
      rcases Nat.eq_zero_or_pos len with h0 | h0
      · left; simp [h0]
      · right
        obtain ⟨b, o, spot⟩ := a
        have hspot : spot = none := by
          have h1 := (World.cells?_some (hf' 0 h0).1).2.2 0 (by omega)
          have h2 : (f 0)[0]? = some ((f 0)[0]'(by rw [hfl 0 h0]; exact hpos)) := List.getElem?_eq_getElem _
          rw [h2] at h1
          simpa [Addr.add] using World.cell?_spot h1
        subst hspot
        refine ⟨b, o, rfl, ?_⟩
        intro i v hv
        -- the element that place i lies in
        have hi : i < len * sz := by
          rcases Nat.lt_or_ge i (len * sz) with k | k
          · exact k
          · rw [List.getElem?_eq_none (by rw [hflat]; exact k)] at hv; cases hv
        have key : ∀ m, m ≤ len → ∀ i v, i < m * sz → ((List.range m).map f).flatten[i]? = some v → w.cell? ⟨b, o + i, none⟩ = some v := by
          intro m
          induction m with
          | zero => intro _ i v hi; omega
          | succ m ih =>
            intro hm i v hi hv
            rw [List.range_succ, List.map_append, List.flatten_append] at hv
            have hml : ((List.range m).map f).flatten.length = m * sz := by
              have : ∀ m, m ≤ len → ((List.range m).map f).flatten.length = m * sz := by
                intro m
                induction m with
                | zero => intro _; simp
                | succ m ih =>
                  intro hm
                  rw [List.range_succ, List.map_append, List.flatten_append, List.length_append, ih (by omega)]
                  simp only [List.map_cons, List.map_nil, List.flatten_cons, List.flatten_nil, List.append_nil]
                  rw [hfl m (by omega), Nat.succ_mul]
              exact this m (by omega)
            by_cases hlt : i < m * sz
            · rw [List.getElem?_append_left (by omega)] at hv
              exact ih (by omega) i v hlt hv
            · rw [List.getElem?_append_right (by omega), hml] at hv
              simp only [List.map_cons, List.map_nil, List.flatten_cons, List.flatten_nil, List.append_nil] at hv
              rw [Nat.succ_mul] at hi
              have h1 := (World.cells?_some (hf' m (by omega)).1).2.2 (i - m * sz) (by omega)
              rw [hv, hsz, addr_add, addr_add] at h1
              rwa [show o + m * sz + (i - m * sz) = o + i by omega] at h1
        exact key len (Nat.le_refl _) i v hi hv
    · intro x hx
      simp only [List.mem_map, List.mem_range] at hx
      obtain ⟨i, hi, rfl⟩ := hx
      refine ⟨hfl i hi, n, _, (hf' i hi).2, ?_⟩
      exact hall _ (List.mem_map.2 ⟨elems[i]'(by omega), List.getElem_mem _, rfl⟩)
theorem reads_of {t : TypeId} {v : Value} {d : DataW H} {ps : List MemPlace} (h : DataW.Trod enc P w 0 spare held t v d ps) (hf : Fits P t d) : Reads enc P w spare held t v.cells.toList := by
  obtain ⟨n, h⟩ := h
  exact ⟨n, _, h, hf⟩
/-- a slice that came in -/
theorem open_list {t e : TypeId} {sz : Nat} {v : Value} {d : DataW H} {ps : List MemPlace} (ht : P.underlying t = some (.slice e)) (hsz : P.cellsOf e = sz) (hpos : 0 < sz) (hv : Value.okWide P w .any base t v) (h : DataW.Trod enc P w 0 spare held t v d ps) (hfit : Fits P t d) :
    ∃ a c css, v = .slice a (List.length css) c ∧ Rd w a (css.length * sz) css.flatten ∧ (∀ x ∈ css, x.length = sz ∧ Reads enc P w spare held e x) ∧ css.length ≤ c ∧ c ≤ 9223372036854775807 ∧ css.length * P.bytesOf e ≤ 140737488351232 := by
  obtain ⟨a0, len, cap, rfl⟩ := okWide_slice ht hv
  obtain ⟨a, c, css, h1, h2⟩ := open_cells ht hsz hpos (reads_of h hfit)
  simp only [Value.cells, List.cons.injEq, and_true] at h1
  exact ⟨a, c, css, h1, h2⟩
/-- a string in cells -/
theorem Reads.string {t : TypeId} {cs : List Value} (ht : P.underlying t = some .string) (h : Reads enc P w spare held t cs) : ∃ l : List UInt8, cs = [.string (mkS l)] ∧ l.length ≤ 140737488351232 := by
  obtain ⟨n, y, h, hf⟩ := h
  obtain ⟨s, h1, h2, h3⟩ := DataW.trod_string ht h
  refine ⟨s.data.toList, by rw [h1, mkS_data], ?_⟩
  rw [h2] at hf
  have := hf s.data.toList.length (by simp [DataW.weights])
  simpa using this
theorem Reads.int {t : TypeId} {k : IntKind} {cs : List Value} (ht : P.underlying t = some (.int k)) (h : Reads enc P w spare held t cs) : ∃ n : Int, cs = [.int k n] ∧ (Lit.int k n).wf = true := by
  obtain ⟨n, y, h, hf⟩ := h
  obtain ⟨s, h1, h2, h3⟩ := DataW.trod_int ht h
  exact ⟨s, h1, h3⟩
theorem weightsEach_get {ts : List TypeId} {ds : List (DataW H)} {j : Nat} {t : TypeId} {d : DataW H} (ht : ts[j]? = some t) (hd : ds[j]? = some d) : ∀ n ∈ d.weights P t, n ∈ DataW.weightsEach P ts ds := DataW.weights_mem_each ht hd
/-- a struct in cells: its fields -/
theorem Reads.struct {t : TypeId} {fs : Array Field} {cs : List Value} (ht : P.underlying t = some (.struct fs)) (h : Reads enc P w spare held t cs) : cs.length = P.cellsOf t ∧ ∀ (i : Nat) (f : Field), fs[i]? = some f → ∀ (u : TypeId) (o k : Nat), f.type = u → f.offset = o → P.cellsOf u = k → Reads enc P w spare held u ((cs.drop o).take k) := by
  obtain ⟨n, y, h, hf⟩ := h
  obtain ⟨xs, m, -, hx, hl, hxl, hi⟩ := DataW.trod_struct ht h
  refine ⟨hl, fun i f hfi u o k hu ho hk => ?_⟩
  subst hu ho hk
  have h1 := hi i f hfi
  have hlt : i < xs.length := by
    rw [hxl]; exact (Array.getElem?_eq_some_iff.1 hfi).1
  rw [List.getElem?_eq_getElem hlt] at h1
  refine ⟨m, _, h1, ?_⟩
  intro k hk
  refine hf k ?_
  rw [hx]
  simp only [DataW.weights, ht]
  exact weightsEach_get (j := i) (by simp [hfi]) (by simp [List.getElem?_eq_getElem hlt]) k hk
theorem map_of_each {α : Type} {f : α → List Value} : ∀ {css : List (List Value)}, (∀ x ∈ css, ∃ s, x = f s) → ∃ l : List α, css = l.map f
  | [], _ => ⟨[], rfl⟩
  | x :: css, h => by
    obtain ⟨s, hs⟩ := h x (by simp)
    obtain ⟨l, hl⟩ := map_of_each (css := css) (fun y hy => h y (by simp [hy]))
    exact ⟨s :: l, by rw [hs, hl]; rfl⟩
end
end Go.Mv

/- The law KeysDerive. -/
namespace Go.Proofs.Ytnooojkhnpcolaa
open Go.RowKit Go.Mv Mvp Mvt
/-- what Derive answers: the number, the bytes -/
def drE (l : List UInt8) (path : List Nat) : Nat := if l.length ≠ 32 then 2 else if 16 < path.length then 1 else 0
def drS (l lb : List UInt8) (path : List Nat) : List UInt8 := if l.length ≠ 32 then [] else if 16 < path.length then [] else tagL kKey [derK l path, lb]
def srS (m : Md) (l lb : List UInt8) (path : List Nat) : List UInt8 := if l.length ≠ 32 then [] else if 16 < path.length then [] else be32 (scN m.M (tagL kKey [derK l path, lb]))
theorem dr_bad (l : List UInt8) (path : List Nat) (h : l.length ≠ 32 ∨ 16 < path.length) : drE l path = (if l.length ≠ 32 then 2 else 1) := by
  unfold drE
  by_cases h1 : l.length = 32
  · rw [if_neg (by simpa using h1), if_pos (by omega), if_neg (by simpa using h1)]
  · rw [if_pos h1, if_pos h1]
theorem dr_badS (m : Md) (l lb : List UInt8) (path : List Nat) (h : l.length ≠ 32 ∨ 16 < path.length) : drS l lb path = [] ∧ srS m l lb path = [] := by
  unfold drS srS
  by_cases h1 : l.length = 32
  · rw [if_neg (by simpa using h1), if_pos (by omega), if_neg (by simpa using h1), if_pos (by omega)]; exact ⟨rfl, rfl⟩
  · rw [if_pos h1, if_pos h1]; exact ⟨rfl, rfl⟩
theorem dr_ok (m : Md) (l lb : List UInt8) (path : List Nat) (h1 : l.length = 32) (h2 : ¬ 16 < path.length) : drE l path = 0 ∧ drS l lb path = tagL kKey [derK l path, lb] ∧ srS m l lb path = be32 (scN m.M (tagL kKey [derK l path, lb])) := by
  unfold drE drS srS
  refine ⟨?_, ?_, ?_⟩ <;> rw [if_neg (by simpa using h1), if_neg h2]
theorem RdB.nil0 (w : World) (a : Option Addr) : RdB w a 0 [] := ⟨rfl, .inl rfl⟩
theorem own_rdb {w : World} {base : Nat} {v : Value} {n : Nat} {l : List UInt8} (h : Own w base 5 1 v n (bs l)) : ∃ a c, v = .slice a n c ∧ RdB w a n l := by
  obtain ⟨a, c, rfl, hc, hr, -⟩ := h.form
  exact ⟨a, c, rfl, by rw [Nat.mul_one] at hr; exact hr⟩
theorem Derive_all (a : Option Addr) (n c : Nat) (l : List UInt8) (s : ByteArray) (p : Option Addr) (d : Nat) (path : List Nat) (w : World) (hp : PartIs w (.slice a n c) l) (hs : s.size ≤ 1000000) (hx : ∀ x ∈ path, x < 4294967296) (hr : Rd w p path.length (u32s path)) :
    Calls Try.prog 20 #[.slice a n c, .string s, .slice p path.length d] w fun e w' => ∃ a n c, e = .returned (.tuple #[.slice a n c, .int .i64 (drE l path : Nat)]) ∧ RdB w' a n (drS l s.data.toList path) ∧ Fr Nob w w' := by
  have hln : l.length = n := by
    obtain ⟨a', n', c', e, -, -, hr', -⟩ := hp
    simp only [Value.slice.injEq] at e
    obtain ⟨-, rfl, -⟩ := e
    exact hr'.len
  by_cases h1 : n = 32
  · subst h1
    by_cases h2 : 16 < path.length
    · refine (Derive_long a c _ p path.length d w h2).mono fun e w' h => ?_
      obtain ⟨h3, rfl⟩ := h
      refine ⟨none, 0, 0, by rw [h3, dr_bad _ _ (.inr h2), if_neg (by simpa using hln)]; rfl, ?_, Fr.refl _ _⟩
      rw [(dr_badS mQ _ _ _ (.inr h2)).1]; exact RdB.nil0 _ _
    · refine (Derive_ok a c l s p d path w hp hs (by omega) hx hr).mono fun e w' h => ?_
      obtain ⟨v, h3, h4, h5⟩ := h
      obtain ⟨a5, c5, rfl, h6⟩ := own_rdb h4
      exact ⟨a5, 32, c5, by rw [h3, (dr_ok mQ l s.data.toList path hln h2).1]; rfl, by rw [(dr_ok mQ l s.data.toList path hln h2).2.1]; exact h6, h5⟩
  · refine (Derive_len a n c _ _ w h1).mono fun e w' h => ?_
    obtain ⟨h3, rfl⟩ := h
    have hbad : l.length ≠ 32 ∨ 16 < path.length := .inl (by omega)
    refine ⟨none, 0, 0, by rw [h3, dr_bad _ _ hbad, if_pos (by omega)]; rfl, ?_, Fr.refl _ _⟩
    rw [(dr_badS mQ _ _ _ hbad).1]; exact RdB.nil0 _ _
theorem Scalar9_all (m : Md) (hk : KindOf 1 m) (a : Option Addr) (n c : Nat) (l : List UInt8) (s : ByteArray) (p : Option Addr) (d : Nat) (path : List Nat) (w : World) (hp : PartIs w (.slice a n c) l) (hs : s.size ≤ 1000000) (hx : ∀ x ∈ path, x < 4294967296) (hr : Rd w p path.length (u32s path)) :
    Calls Try.prog 21 #[.slice a n c, .string s, .slice p path.length d] w fun e w' => ∃ a n c, e = .returned (.tuple #[.slice a n c, .int .i64 (drE l path : Nat)]) ∧ RdB w' a n (srS m l s.data.toList path) ∧ Fr Nob w w' := by
  have hln : l.length = n := by
    obtain ⟨a', n', c', e, -, -, hr', -⟩ := hp
    simp only [Value.slice.injEq] at e
    obtain ⟨-, rfl, -⟩ := e
    exact hr'.len
  by_cases hb : n ≠ 32 ∨ 16 < path.length
  · refine (Scalar9_bad a n c _ p path.length d w hb).mono fun e w' h => ?_
    obtain ⟨h3, rfl⟩ := h
    have hbad : l.length ≠ 32 ∨ 16 < path.length := by omega
    refine ⟨none, 0, 0, ?_, by rw [(dr_badS m _ _ _ hbad).2]; exact RdB.nil0 _ _, Fr.refl _ _⟩
    rw [h3, dr_bad _ _ hbad, hln]
    by_cases h1 : n = 32
    · rw [if_neg (by simpa using h1), if_neg (by simpa using h1)]; rfl
    · rw [if_pos h1, if_pos h1]; rfl
  · obtain rfl : n = 32 := by omega
    refine (Scalar9_ok m hk a c l s p d path w hp hs (by omega) hx hr).mono fun e w' h => ?_
    obtain ⟨v, h3, h4, h5⟩ := h
    obtain ⟨a5, c5, rfl, h6⟩ := own_rdb h4
    exact ⟨a5, 32, c5, by rw [h3, (dr_ok m l s.data.toList path hln (by omega)).1]; rfl, by rw [(dr_ok m l s.data.toList path hln (by omega)).2.2]; exact h6, h5⟩
theorem RDerive_all (l : List UInt8) (s : ByteArray) (p : Option Addr) (d : Nat) (path : List Nat) (w : World) (hs : s.size ≤ 50000) (hx : ∀ x ∈ path, x < 4294967296) (hr : Rd w p path.length (u32s path)) :
    Calls Try.prog 22 #[.string (mkS l), .string s, .slice p path.length d] w fun e w' => e = .returned (.tuple #[.string (mkS (drS l s.data.toList path)), .int .i64 (drE l path : Nat)]) ∧ Fr Nob w w' := by
  by_cases h1 : l.length = 32
  · by_cases h2 : 16 < path.length
    · refine (RDerive_long (mkS l) _ p path.length d w (by rw [mkS_size, h1]) h2).mono fun e w' h => ?_
      obtain ⟨h3, rfl⟩ := h
      refine ⟨?_, Fr.refl _ _⟩
      rw [h3, dr_bad _ _ (.inr h2), if_neg (by simpa using h1), (dr_badS mQ _ _ _ (.inr h2)).1]; rfl
    · refine (RDerive_ok l s p d path w h1 hs (by omega) hx hr).mono fun e w' h => ?_
      refine ⟨?_, h.2⟩
      rw [h.1, (dr_ok mQ l s.data.toList path h1 h2).1, (dr_ok mQ l s.data.toList path h1 h2).2.1]; rfl
  · refine (RDerive_len (mkS l) _ _ w (by rw [mkS_size]; exact h1)).mono fun e w' h => ?_
    obtain ⟨h3, rfl⟩ := h
    refine ⟨?_, Fr.refl _ _⟩
    rw [h3, dr_bad _ _ (.inl h1), if_pos h1, (dr_badS mQ _ _ _ (.inl h1)).1]; rfl
theorem RScalar9_all (m : Md) (hk : KindOf 1 m) (l : List UInt8) (s : ByteArray) (p : Option Addr) (d : Nat) (path : List Nat) (w : World) (hs : s.size ≤ 50000) (hx : ∀ x ∈ path, x < 4294967296) (hr : Rd w p path.length (u32s path)) :
    Calls Try.prog 23 #[.string (mkS l), .string s, .slice p path.length d] w fun e w' => e = .returned (.tuple #[.string (mkS (srS m l s.data.toList path)), .int .i64 (drE l path : Nat)]) ∧ Fr Nob w w' := by
  by_cases hb : l.length ≠ 32 ∨ 16 < path.length
  · refine (RScalar9_bad (mkS l) _ p path.length d w (by rw [mkS_size]; exact hb)).mono fun e w' h => ?_
    obtain ⟨h3, rfl⟩ := h
    refine ⟨?_, Fr.refl _ _⟩
    rw [h3, dr_bad _ _ hb, (dr_badS m _ _ _ hb).2, mkS_size]
    by_cases h1 : l.length = 32
    · rw [if_neg (by simpa using h1), if_neg (by simpa using h1)]; rfl
    · rw [if_pos h1, if_pos h1]; rfl
  · refine (RScalar9_ok m hk l s p d path w (by omega) hs (by omega) hx hr).mono fun e w' h => ?_
    refine ⟨?_, h.2⟩
    rw [h.1, (dr_ok m l s.data.toList path (by omega) (by omega)).1, (dr_ok m l s.data.toList path (by omega) (by omega)).2.2]; rfl
theorem info_u32 : (Try.prog.info? 49).map (fun i => (i.zero, i.size, i.bytes)) = some (some (.int .u32 0), 1, 4) := by kernel_rfl
theorem u32_flat : ∀ (l : List { n : Nat // n < 4294967296 }), (l.map fun s => [Value.int .u32 (s.1 : Int)]).flatten = u32s (l.map (·.1))
  | [] => rfl
  | x :: l => by rw [List.map_cons, List.flatten_cons, u32_flat l]; rfl
theorem cells_u32 : Try.prog.cellsOf 49 = 1 := by kernel_rfl
set_option maxRecDepth 100000 in
open Go.ChangeShapes Go.WideShapes in
theorem open_u32s {H : Type} {enc : TypeId × Value → H} {w : World} {base : Nat} {held : Bool} {spare : Nat → Bool} {v : Value} {d : DataW H} {ps : List MemPlace} (hv : Value.okWide Try.prog w .any base 47 v) (h : DataW.Trod enc Try.prog w 0 spare held 47 v d ps) (hfit : Fits Try.prog 47 d) :
    ∃ (a : Option Addr) (c : Nat) (l : List Nat), v = .slice a l.length c ∧ Rd w a l.length (u32s l) ∧ ∀ x ∈ l, x < 4294967296 := by
  obtain ⟨a, c, css, rfl, hr, hx, -, -, -⟩ := open_list Try.underlying47 cells_u32 (by decide) hv h hfit
  have hs : ∀ x ∈ css, ∃ s : { n : Nat // n < 4294967296 }, x = [Value.int .u32 (s.1 : Int)] := by
    intro x hxm
    obtain ⟨hl, hrd⟩ := hx x hxm
    obtain ⟨n, rfl, hwf⟩ := Reads.int Try.underlying49 hrd
    have hb : 0 ≤ n ∧ n ≤ 4294967295 := by
      simpa [Lit.wf, IntKind.min, IntKind.max, IntKind.signed, IntKind.bits] using hwf
    exact ⟨⟨n.toNat, by omega⟩, by simp; omega⟩
  obtain ⟨l, rfl⟩ := map_of_each hs
  refine ⟨a, c, l.map (·.1), by simp, ?_, ?_⟩
  · have e : (l.map fun s => [Value.int .u32 (s.1 : Int)]).flatten = u32s (l.map (·.1)) := by
      exact u32_flat l
    rw [e] at hr
    simpa using hr
  · intro x hx
    obtain ⟨y, -, rfl⟩ := List.mem_map.1 hx
    exact y.2
theorem u32s_one (l : List Nat) : ∀ v ∈ u32s l, v.oneCell' = true := by intro v hv; simp [u32s] at hv; obtain ⟨x, _, rfl⟩ := hv; rfl
theorem u32s_len (l : List Nat) : (u32s l).length = l.length := by simp [u32s]
attribute [local irreducible] limbs lw mix cw cSub cAdd cMul foldC valFrom beN laid be32 powm montT mstep elN mdL elCells numsB numB secN permS permP toB turnsK squeeze permN permB spongeB feed frameL framesL tagL derK scN lenB drE drS srS

set_option maxHeartbeats 16000000 in
set_option maxRecDepth 1000000 in
theorem law_KeysDerive_k (m : Md) (hk : KindOf 1 m) (s t : ByteArray) (p : Option Addr) (d : Nat) (path : List Nat) (w : World) (hs : s.size ≤ 4096) (ht : t.size ≤ 4096) (hl : path.length ≤ 64) (hx : ∀ x ∈ path, x < 4294967296) (hr : Rd w p path.length (u32s path)) :
    Calls Try.prog 5 #[.string s, .string t, .slice p path.length d] w fun e w' => e = .returned (.bool true) ∧ Fr Nob w w' := by
  have hgs : ¬ ((4096 : Int) < (s.size : Int)) := by omega
  have hgt : ¬ ((4096 : Int) < (t.size : Int)) := by omega
  have hgp : ¬ ((64 : Int) < (path.length : Int)) := by omega
  have HK := Lib.hid hk
  have HS := Lib.hid hs
  have HT := Lib.hid ht
  have HX := Lib.hid hx
  have HR := Lib.hid hr
  clear hk hs ht hx hr
  go_enter Try.func5, Try.ntmps5
  go_wp2_with fail
  refine (lent_any s _ (by have := HS.out; omega)).mono ?_
  rintro e w1 ⟨rfl, hg1, hf1, hz1⟩
  have hold : w.heap.size < w1.heap.size := by omega
  clear hz1
  have hrd1 : RdB w1 (some ⟨w.heap.size, 0, none⟩) (s.size + 160) (lentL s.data.toList) := by
    have := Rd.whole hg1
    rwa [length_bs, lentL_len, size_list] at this
  have hpart : PartIs w1 (.slice (some ⟨w.heap.size, 0, none⟩) s.size (s.size + 160)) s.data.toList := ⟨_, _, _, rfl, by omega, by have := HS.out; omega, by
    have h := RdB.front hrd1 s.size (by omega)
    rwa [lentL_take] at h, fun a ha => by simp only [Option.some.injEq] at ha; subst ha; exact hold⟩
  have HRD1 := Lib.hid hrd1
  have HP1 := Lib.hid hpart
  have HF1 := Lib.hid hf1
  clear hg1 hrd1 hf1 hpart hold
  generalize w.heap.size = gi at *
  go_wp2_with (with_reducible refine wl_stop (o := ⟨some 34, _, _, _, _, _⟩) ?_)
  refine wl_slit0 rfl rfl Try.underlying47 info_u32 ?_
  intro w2 hown2 hf2 hz2
  clear hz2
  have hfr2 := HF1.out.then hf2
  have hsz2 := hfr2.size
  have HR2 := Lib.hid (HR.out.still hfr2)
  go_wp2_with (with_reducible refine wl_stop (o := ⟨some 36, _, _, _, _, _⟩) ?_)
  refine wl_append rfl rfl Try.underlying47 info_u32 rfl (by decide) hown2 rfl rfl (by rw [Nat.mul_one]; exact HR2.out) (u32s_one path) (by unfold maxLen; omega) (by omega) hf2.size ?_
  intro v3 w3 hown3 hf3 hb3
  clear hb3
  have hfr13 : Fr Nob w1 w3 := hown2.fr hf2 (Nat.le_refl _) hf3
  rw [Nat.zero_add, List.nil_append] at hown3
  obtain ⟨q, cq, rfl, -, hrq, -⟩ := id hown3.form
  rw [Nat.mul_one] at hrq
  have HRQ := Lib.hid hrq
  have HP3 := Lib.hid (HP1.out.still hfr13)
  have HRD3 := Lib.hid (HRD1.out.still hfr13)
  have HF3 := Lib.hid (HF1.out.then hfr13)
  clear hown2 hown3 hf2 hf3 hfr13 hrq hfr2 hsz2 HR2 HP1 HRD1 HF1
  have k1 := fun wx => run_slice_hi (P := Try.prog) wx Try.underlying22 size_u8 (some ⟨gi, 0, none⟩) (s.size + 160) (s.size + 160) .i64 s.size (by omega)
  have hci : (s.size : Int) ≤ (s.size : Int) + 160 := by omega
  go_wp2_with fail
  refine (Derive_all _ _ _ s.data.toList t q cq path _ HP3.out (by have := HT.out; omega) HX.out HRQ.out).mono ?_
  rintro e w4 ⟨a4, n4, c4, rfl, hr4, hf4⟩
  have HR4 := Lib.hid hr4
  have HP4 := Lib.hid (HP3.out.still hf4)
  have HRQ4 := Lib.hid (HRQ.out.still hf4)
  have HRD4 := Lib.hid (HRD3.out.still hf4)
  have HF4 := Lib.hid (HF3.out.then hf4)
  clear hr4 hf4 HP3 HRQ HRD3 HF3
  go_wp2_with fail
  refine (Scalar9_all m HK.out _ _ _ s.data.toList t q cq path _ HP4.out (by have := HT.out; omega) HX.out HRQ4.out).mono ?_
  rintro e w5 ⟨a5, n5, c5, rfl, hr5, hf5⟩
  have HR5 := Lib.hid hr5
  have HR45 := Lib.hid (HR4.out.still hf5)
  have HRQ5 := Lib.hid (HRQ4.out.still hf5)
  have HRD5 := Lib.hid (HRD4.out.still hf5)
  have HF5 := Lib.hid (HF4.out.then hf5)
  clear hr5 hf5 HP4 HRQ4 HRD4 HF4 HR4 k1 hci
  go_wp2_with fail
  refine (still_any _ _ _ _ s _ (by have := HS.out; omega) HRD5.out).mono ?_
  rintro e w6 ⟨rfl, hf6⟩
  rw [decide_eq_true rfl]
  have HR6 := Lib.hid (HR5.out.still hf6)
  have HR46 := Lib.hid (HR45.out.still hf6)
  have HRQ6 := Lib.hid (HRQ5.out.still hf6)
  have HF6 := Lib.hid (HF5.out.then hf6)
  clear hf6 HR5 HR45 HRQ5 HRD5 HF5
  go_wp2_with fail
  go_loopw [14, 13] (fun i b wr => ∃ j : Nat, j ≤ path.length ∧ i = .int .i64 (j : Int) ∧ b = .bool true ∧ Fr Nob w6 wr) (fun i _ _ => (path.length - intOf i).toNat)
  case atStart => exact ⟨0, by omega, rfl, rfl, Fr.refl _ _⟩
  case round =>
    obtain ⟨j, hj, rfl, rfl, hfj⟩ := hrel
    have HFJ := Lib.hid hfj
    clear hfj
    by_cases hlt : j < path.length
    · have hltI : (j : Int) < (path.length : Int) := by omega
      obtain ⟨b1, o1, hab1, -⟩ := HR.out.at (by omega)
      subst hab1
      obtain ⟨b2, o2, hab2, -⟩ := HRQ6.out.at (by omega)
      subst hab2
      have hc1 := rd_at0 (HR.out.still (HF6.out.then HFJ.out)) j _ (u32s_get path j hlt)
      have hc2 := rd_at0 (HRQ6.out.still HFJ.out) j _ (u32s_get path j hlt)
      generalize path.getD j 0 = x at *
      go_wp2_with fail
      go_quiet (fail)
      have HFQ := Lib.hid (HFJ.out.then ((Fr.refl Nob wr).drewN nq))
      clear hc1 hc2
      go_wp2_with fail
      go_roundw
      case rel => exact ⟨j + 1, by omega, by go_num, rfl, HFQ.out⟩
      case measure => simp [intOf]; omega
    · have hge : ¬ ((j : Int) < (path.length : Int)) := by omega
      have HRZ := Lib.hid (HR.out.still (HF6.out.then HFJ.out))
      have HR7 := Lib.hid (HR6.out.still HFJ.out)
      have HR47 := Lib.hid (HR46.out.still HFJ.out)
      have HF7 := Lib.hid (HF6.out.then HFJ.out)
      have hse : s = mkS s.data.toList := by simp [mkS]
      have hrd0 := fun wx h => RDerive_all s.data.toList t p d path wx (by have := HT.out; omega) HX.out h
      have hrs0 := fun wx h => RScalar9_all m HK.out s.data.toList t p d path wx (by have := HT.out; omega) HX.out h
      rw [← hse] at hrd0 hrs0
      have HRD0 := Lib.hid hrd0
      have HRS0 := Lib.hid hrs0
      clear hrd0 hrs0 hse
      generalize drE s.data.toList path = xe at *
      generalize drS s.data.toList t.data.toList path = xs at *
      generalize srS m s.data.toList t.data.toList path = ys at *
      go_wp2_with fail
      refine (HRD0.out _ HRZ.out).mono ?_
      rintro e w8 ⟨rfl, hf8⟩
      have HRZ8 := Lib.hid (HRZ.out.still hf8)
      have HR8 := Lib.hid (HR7.out.still hf8)
      have HR48 := Lib.hid (HR47.out.still hf8)
      have HF8 := Lib.hid (HF7.out.then hf8)
      clear hf8 HRZ HR7 HR47 HF7
      go_wp2_with fail
      refine (HRS0.out _ HRZ8.out).mono ?_
      rintro e w9 ⟨rfl, hf9⟩
      have hc4 := run_string (P := Try.prog) (HR48.out.still hf9) c4 Try.underlying22 Try.underlying5 Try.underlying9
      have hc5 := run_string (P := Try.prog) (HR8.out.still hf9) c5 Try.underlying22 Try.underlying5 Try.underlying9
      have HF9 := Lib.hid (HF8.out.then hf9)
      clear hf9 HRZ8 HR8 HR48 HF8
      go_wp2_with fail
      go_ret
      exact ⟨rfl, HF9.out⟩
set_option maxHeartbeats 4000000 in
set_option maxRecDepth 1000000 in
theorem law_KeysDerive (s t : ByteArray) (p : Option Addr) (d : Nat) (path : List Nat) (w : World) (hx : ∀ x ∈ path, x < 4294967296) (hr : Rd w p path.length (u32s path)) :
    Calls Try.prog 5 #[.string s, .string t, .slice p path.length d] w fun e w' => e = .returned (.bool true) ∧ Fr Nob w w' := by
  by_cases hs : 4096 < s.size
  · have hI : (4096 : Int) < (s.size : Int) := by omega
    clear hr
    go_enter Try.func5, Try.ntmps5
    go_wp2
    go_ret
    exact ⟨rfl, Fr.refl _ _⟩
  by_cases ht : 4096 < t.size
  · have hI : ¬ ((4096 : Int) < (s.size : Int)) := by omega
    have hJ : (4096 : Int) < (t.size : Int) := by omega
    clear hr
    go_enter Try.func5, Try.ntmps5
    go_wp2
    go_ret
    exact ⟨rfl, Fr.refl _ _⟩
  by_cases hl : 64 < path.length
  · have hI : ¬ ((4096 : Int) < (s.size : Int)) := by omega
    have hJ : ¬ ((4096 : Int) < (t.size : Int)) := by omega
    have hK : (64 : Int) < (path.length : Int) := by omega
    clear hr
    go_enter Try.func5, Try.ntmps5
    go_wp2
    go_ret
    exact ⟨rfl, Fr.refl _ _⟩
  exact law_KeysDerive_k mQ .one s t p d path w (by omega) (by omega) (by omega) hx hr
end Go.Proofs.Ytnooojkhnpcolaa

/- From a walk that turns nothing (Fr Nob) to what a law's row asks behind the call. -/
namespace Go.Mv
open Go.RowKit Go.ChangeShapes Go.WideShapes

/-- the arguments read behind the call as they read before -/
theorem Below.trodAll {H : Type} {enc : TypeId × Value → H} {P : Program} (hl : laidOutB P = true) {W W' : World} (hb : Below W.heap.size W W') :
    ∀ (ts : List TypeId) (vs : List Value) (ds : List (DataW H)) (ps : List MemPlace), (∀ t ∈ ts, P.readableRec t = true ∧ t < P.types.size) → DataW.TrodAll enc P W 0 (fun _ => true) true ts vs ds ps → (∀ x ∈ ps, x.block < W.heap.size) →
      DataW.TrodAll enc P W' 0 (fun b => decide (b < W.heap.size)) true ts vs ds ps
  | [], vs, ds, ps, _, h, _ => by
    obtain ⟨rfl, rfl, rfl⟩ := trodAll_nil h
    exact trodAll_mk0
  | t :: ts, vs, ds, ps, hr, h, hlt => by
    obtain ⟨v, vs', d, ds', p, q, rfl, rfl, rfl, h0, hs⟩ := trodAll_cons h
    have h1 := hr t (by simp)
    exact trodAll_cons_mk (Below.trod hl h1.1 h1.2 h0 hb (fun x hx => hlt x (by simp [hx]))) (Below.trodAll hl hb ts vs' ds' q (fun t ht => hr t (by simp [ht])) hs (fun x hx => hlt x (by simp [hx])))

/-- what a law's row asks behind the call -/
theorem law_post {H : Type} {enc : TypeId × Value → H} {P : Program} {f : Func} {s : ChangeSpec} {W W' : World} {args : Array Value} {ds gs : List (DataW H)} {before : List MemPlace}
    (hl : laidOutB P = true) (hr : ∀ t ∈ f.params.toList, P.readableRec t = true ∧ t < P.types.size) (hW : DataW.Whole enc P f.params.toList s.vars false W args.toList ds gs before)
    (hv : s.vars = []) (hres : (s.fn H (ds ++ gs)).results = [.lit (.bool true)]) (harg : (s.fn H (ds ++ gs)).args = ds) (hvar : (s.fn H (ds ++ gs)).vars = [])
    {tb : TypeId} (hrt : f.resultTypes = #[tb]) (hu : P.underlying tb = some .bool) (hf : Fr Nob W W') :
    s.post enc P f false true false false W args (.bool true) W' := by
  have hW' := hW
  obtain ⟨p, q, hA, hV, rfl, hfz, hnd⟩ := hW
  rw [hv] at hV
  obtain ⟨rfl, rfl⟩ := trodVars_none hV
  have hlt : ∀ x ∈ p ++ [], x.block < W.heap.size := fun x hx => hW'.lt x hx
  refine ⟨ds, [], p ++ [], [], p, [], hW', ?_, ?_, ?_, World.keptBut_mono (fun x hx => ⟨hx, ?_⟩) (hf.below.frame (· ∈ p ++ [])), fun h => by cases h⟩
  · rw [hres, hrt]
    exact trodAll_mk1 (shut_bool hu true)
  · rw [harg]
    exact Below.trodAll hl hf.below _ _ _ _ hr hA (fun x hx => hlt x (by simp [hx]))
  · rw [hvar, hv]; exact rfl
  · simp only [List.append_nil] at hx
    exact .inr (.inl hx)
end Go.Mv
