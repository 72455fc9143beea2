/- num.read: lists of numbers. -/
import Derived.Test.YtmegaegedlbckaaNm19
import Derived.Test.YtmegaegedlbckaaSp0
namespace Go.Mv
open Go.RowKit Mvp
/-- a slice of bytes, and what it reads as -/
def BPart (w : World) (v : Value) (l : List UInt8) : Prop := ∃ a n c, v = .slice a n c ∧ n ≤ c ∧ RdB w a n l
def BParts (w : World) (vs : List Value) (ls : List (List UInt8)) : Prop := vs.length = ls.length ∧ ∀ i v, vs[i]? = some v → BPart w v (ls.getD i [])
theorem BPart.still {w w' : World} {v : Value} {l : List UInt8} (h : BPart w v l) (hf : Fr Nob w w') : BPart w' v l := by
  obtain ⟨a, n, c, e, hc, hr⟩ := h
  exact ⟨a, n, c, e, hc, hr.still hf⟩
theorem BPart.one {w : World} {v : Value} {l : List UInt8} (h : BPart w v l) : v.cells = #[v] := by
  obtain ⟨a, n, c, rfl, -, -⟩ := h
  rfl
theorem BParts.still {w w' : World} {vs : List Value} {ls : List (List UInt8)} (h : BParts w vs ls) (hf : Fr Nob w w') : BParts w' vs ls := ⟨h.1, fun i v hv => (h.2 i v hv).still hf⟩
theorem BParts.one {w : World} {v : Value} {l : List UInt8} (h : BPart w v l) : BParts w [v] [l] := ⟨rfl, fun i u hu => by
  cases i with
  | zero => simp at hu; subst hu; exact h
  | succ i => simp at hu⟩
theorem BParts.two {w : World} {v u : Value} {l k : List UInt8} (h : BPart w v l) (h2 : BPart w u k) : BParts w [v, u] [l, k] := ⟨rfl, fun i x hx => by
  match i with
  | 0 => simp at hx; subst hx; exact h
  | 1 => simp at hx; subst hx; exact h2
  | i + 2 => simp at hx⟩
end Go.Mv
namespace Mvp
/-- is it a number of the modulus? -/
def numB (m : Md) (l : List UInt8) : Bool := decide (l.length = 32) && decide (beN l < m.M)
def numsB (m : Md) (ls : List (List UInt8)) : Bool := ls.all (numB m)
/-- the elements of a list of numbers, as cells -/
def elCells (m : Md) (ls : List (List UInt8)) : List Go.Value := ls.flatMap fun l => Go.Mv.cw 4 (elN m (beN l))
theorem elCells_len (m : Md) (ls : List (List UInt8)) : (elCells m ls).length = ls.length * 4 := by
  induction ls with
  | nil => rfl
  | cons l ls ih => rw [elCells, List.flatMap_cons, List.length_append, Go.Mv.cw_len, ← elCells, ih, List.length_cons]; omega
theorem elCells_snoc (m : Md) (ls : List (List UInt8)) (l : List UInt8) : elCells m (ls ++ [l]) = elCells m ls ++ Go.Mv.cw 4 (elN m (beN l)) := by
  simp [elCells]
theorem elCells_at (m : Md) (ls : List (List UInt8)) (i : Nat) (h : i < ls.length) : ((elCells m ls).drop (i * 4)).take 4 = Go.Mv.cw 4 (elN m (beN (ls.getD i []))) := by
  induction ls generalizing i with
  | nil => simp at h
  | cons l ls ih =>
    rw [elCells, List.flatMap_cons, ← elCells]
    cases i with
    | zero =>
      rw [Nat.zero_mul, List.drop_zero, List.take_append_of_le_length (by rw [Go.Mv.cw_len]; exact Nat.le_refl _), List.take_of_length_le (by rw [Go.Mv.cw_len]; exact Nat.le_refl _)]
      rfl
    | succ i =>
      rw [List.drop_append, Go.Mv.cw_len, List.drop_of_length_le (by rw [Go.Mv.cw_len]; omega), List.nil_append, show (i + 1) * 4 - 4 = i * 4 by omega, ih i (by simpa using h)]
      rfl
theorem numsB_take (m : Md) (ls : List (List UInt8)) (k : Nat) (h : k < ls.length) : numsB m (ls.take (k + 1)) = (numsB m (ls.take k) && numB m (ls.getD k [])) := by
  rw [List.take_succ_eq_append_getElem h, numsB, List.all_append, ← numsB]
  simp [List.getD_eq_getElem?_getD, h]
theorem numsB_bad (m : Md) (ls : List (List UInt8)) (k : Nat) (h : k < ls.length) (hb : numB m (ls.getD k []) = false) : numsB m ls = false := by
  rw [numsB, List.all_eq_false]
  refine ⟨ls.getD k [], ?_, by simpa using hb⟩
  rw [List.getD_eq_getElem?_getD, List.getElem?_eq_getElem h]
  exact List.getElem_mem h
end Mvp
namespace Go.Proofs.Ytmegaegedlbckaa
open Go.RowKit Go.Mv Mvp
theorem info_el : (Try.prog.info? 81).map (fun i => (i.zero, i.size, i.bytes)) = some (some (.agg #[.int .u64 0, .int .u64 0, .int .u64 0, .int .u64 0]), 4, 32) := by kernel_rfl
/-- how num.read answers -/
def ReadPost (m : Md) (ls : List (List UInt8)) (w : World) (e : Ending) (w' : World) : Prop :=
  (numsB m ls = true → ∃ v, e = .returned (.tuple #[v, .bool true]) ∧ Own w' w.heap.size 81 4 v ls.length (elCells m ls)) ∧
  (numsB m ls = false → e = .returned (.tuple #[.slice none 0 0, .bool false])) ∧ Fr Nob w w'
theorem ReadPost.bad {m : Md} {ls : List (List UInt8)} {w w' : World} {e : Ending} (h : numsB m ls = false) (he : e = .returned (.tuple #[.slice none 0 0, .bool false])) (hf : Fr Nob w w') : ReadPost m ls w e w' :=
  ⟨fun h1 => (by rw [h] at h1; cases h1), fun _ => he, hf⟩
theorem ReadPost.good {m : Md} {ls : List (List UInt8)} {w w' : World} {e : Ending} {v : Value} (h : numsB m ls = true) (he : e = .returned (.tuple #[v, .bool true])) (ho : Own w' w.heap.size 81 4 v ls.length (elCells m ls)) (hf : Fr Nob w w') : ReadPost m ls w e w' :=
  ⟨fun _ => ⟨v, he, ho⟩, fun h1 => (by rw [h] at h1; cases h1), hf⟩
attribute [local irreducible] limbs lw mix cw cSub cAdd cMul foldC valFrom beN laid be32 powm montT mstep elN mdL elCells numsB numB

set_option maxHeartbeats 8000000 in
set_option maxRecDepth 1000000 in
theorem read_any (m : Md) (gp : Nat) (al : Option Addr) (n cl : Nat) (vs : List Value) (ls : List (List UInt8)) (w : World) (hok : m.Ok) (hpm : Has w gp (mdL m) 68)
    (hv : Rd w al n vs) (hp : BParts w vs ls) (hn : n ≤ 100000) :
    Calls Try.prog 43 #[.pointer (some ⟨gp, 0, none⟩), .slice al n cl] w (ReadPost m ls w) := by
  have HOK := Lib.hid hok
  have HPM := Lib.hid hpm
  have HV := Lib.hid hv
  have HP := Lib.hid hp
  have HL := Lib.hid (show ls.length = n by rw [← hp.1, hv.len])
  clear hok hpm hv hp
  go_enter Try.func43, Try.ntmps43
  go_wp2
  go_loopw [6, 12] (fun v i wr => ∃ k : Nat, k ≤ n ∧ i = .int .i64 (k : Int) ∧ numsB m (ls.take k) = true ∧ Own wr w.heap.size 81 4 v k (elCells m (ls.take k)) ∧ Fr Nob w wr) (fun _ i _ => n - (intOf i).toNat)
  case atStart => exact ⟨0, Nat.zero_le _, rfl, by rw [List.take_zero]; unfold numsB; rfl, by rw [List.take_zero]; unfold elCells; exact Own.nil _ _ _ _, Fr.refl _ _⟩
  case round =>
    obtain ⟨k, hk, rfl, hgood, hown, hf⟩ := hrel
    by_cases hlt : k < n
    · have hltI : (k : Int) < (n : Int) := by omega
      obtain ⟨b, o, rfl, hat⟩ := (HV.out.still hf).at (by omega)
      have hvl : k < vs.length := by rw [HV.out.len]; exact hlt
      obtain ⟨a, nn, c, hve, hcc, hrd⟩ := HP.out.2 k (vs[k]'hvl) (List.getElem?_eq_getElem hvl)
      have hc1 := hat k _ (List.getElem?_eq_getElem hvl)
      rw [hve] at hc1
      have hlk : k < ls.length := by rw [HL.out]; exact hlt
      have hlen := hrd.len
      have hts := numsB_take m ls k hlk
      have hcs : elCells m (ls.take (k + 1)) = elCells m (ls.take k) ++ cw 4 (elN m (beN (ls.getD k []))) := by
        rw [List.take_succ_eq_append_getElem hlk, elCells_snoc]
        simp [List.getD_eq_getElem?_getD, hlk]
      have hbad := numsB_bad m ls k hlk
      generalize hL : ls.getD k [] = l at *
      have HLL := Lib.hid hL
      have HRD := Lib.hid (hrd.still hf)
      have HTS := Lib.hid hts
      have HCS := Lib.hid hcs
      have HBAD := Lib.hid hbad
      have HLEN := Lib.hid hlen
      have HG := Lib.hid hgood
      have HOWN := Lib.hid hown
      have HF := Lib.hid hf
      have hnI : (n : Int) ≤ 100000 := by omega
      clear hL hrd hts hcs hbad hlen hgood hown hf hat hve hcc
      by_cases h32 : nn = 32
      · subst h32
        have hne : (((32 : Nat) : Int) != 32) = false := by rfl
        have hbl := beN_le32 l (by rw [HLEN.out]; exact Nat.le_refl _)
        have HBL := Lib.hid hbl
        have HPMr := Lib.hid (HPM.out.keep HF.out id)
        have st0 := St.start Nob wr
        clear hbl
        go_wp2_with fail
        refine (FromBytes_any a 32 c l _ (HRD.out.still st0.fr) (by decide)).mono ?_
        rintro e' w1 ⟨rfl, hf1⟩
        have st1 := st0.keep hf1
        clear st0 hf1
        go_wp2_with (with_reducible refine wl_stop (o := ⟨some 9, _, _, _, _, _⟩) ?_)
        refine wl_allocS st1 rfl rfl (z := .agg #[.int .u64 0, .int .u64 0, .int .u64 0, .int .u64 0]) (by kernel_rfl) (cw 4 0) (by rw [cw_zero]; rfl) ?_
        intro g9 w2 st2
        clear st1
        go_wp2_with (with_reducible refine wl_stop (o := ⟨none, _, _, _, _, _⟩) ?_)
        refine wl_storeS st2 0 rfl rfl rfl rfl rfl (by first | (simp only [cw_len]; done) | (simp only [List.length_append, cw_len]; done)) (by first | (rw [cw_len]; kernel_rfl) | (simp only [List.length_append, cw_len]; kernel_rfl)) (cw_one _ _) ?_
        intro w3 st3
        clear st2
        go_wp2_with fail
        refine wp_region_noPanic ?_
        refine wp_region_plan (fun wx => St Nob wr wx [(g9, cw 4 (beN l), 66)]) 6 (.t 0 (.w 1 (.w 2 (.w 3 (.t 4 (.r 5 (.m 6 .nil))))))) (by kernel_rfl) (by kernel_rfl) st3.drew (fun _ _ _ _ _ h => h) ?_
        have hd3 := st3.drew
        clear st3
        refine plan_arr rfl rfl rfl rfl (cw 4 (beN l)) (fun wx hS => St.rangeL hS 0 rfl 0 _ (by rw [List.drop_zero, List.take_of_length_le (Nat.le_refl _)])) Try.underlying66 rfl (by first | (rw [cw_len]; kernel_rfl) | (simp only [List.length_append, cw_len]; kernel_rfl)) ?_
        try simp only [Act.put, List.setIfInBounds_toArray, List.set_cons_zero, List.set_cons_succ]
        refine plan_w (v := ?_) rfl rfl (fun wx => ?_) ?_
        rotate_left 1
        · (go_simp; with_reducible rfl)
        try simp only [Act.put, List.setIfInBounds_toArray, List.set_cons_zero, List.set_cons_succ]
        refine plan_w (v := ?_) rfl rfl (fun wx => ?_) ?_
        rotate_left 1
        · (go_simp; with_reducible rfl)
        try simp only [Act.put, List.setIfInBounds_toArray, List.set_cons_zero, List.set_cons_succ]
        refine plan_w (v := ?_) rfl rfl (fun wx => ?_) ?_
        rotate_left 1
        · (go_simp; with_reducible rfl)
        try simp only [Act.put, List.setIfInBounds_toArray, List.set_cons_zero, List.set_cons_succ]
        refine plan_arr rfl rfl rfl rfl (cw 4 m.M) (fun wx hS => (HPMr.out.keep (St.fr hS) id).range 0 _ (md_M m)) Try.underlying66 rfl (by first | (rw [cw_len]; kernel_rfl) | (simp only [List.length_append, cw_len]; kernel_rfl)) ?_
        try simp only [Act.put, List.setIfInBounds_toArray, List.set_cons_zero, List.set_cons_succ]
        refine plan_r rfl rfl ?_
        go_simp
        refine (MLess_any (beN l) m.M _ HBL.out HOK.out.lt).mono ?_
        rintro e' w4 ⟨rfl, hf4⟩
        have st4 := hd3.keep hf4
        clear hf4
        clear hd3
        refine ⟨st4, ?_⟩
        try simp only [Act.put, List.setIfInBounds_toArray, List.set_cons_zero, List.set_cons_succ]
        refine plan_m rfl rfl ?_
        go_simp
        try simp only [Act.put, List.setIfInBounds_toArray, List.set_cons_zero, List.set_cons_succ]
        refine plan_end ?_
        refine NoPanic.normal ?_
        by_cases hlt2 : beN l < m.M
        · have hd := decide_eq_true hlt2
          have hnb : numB m l = true := by unfold numB; rw [decide_eq_true HLEN.out, hd]; rfl
          have HNB := Lib.hid hnb
          rw [hd]
          clear hd hlt2 hnb hne hc1
          go_wp2_with (with_reducible refine wl_stop (o := ⟨some 30, _, _, _, _, _⟩) ?_)
          refine wl_loadS st4 0 rfl rfl rfl Try.underlying66 rfl (by first | (rw [cw_len]; kernel_rfl) | (simp only [List.length_append, cw_len]; kernel_rfl)) ?_
          go_wp2_with fail
          refine (MTo_any m gp _ HOK.out (HPMr.out.keep st4.fr id) (beN l) HBL.out).mono ?_
          rintro e' w5 ⟨rfl, hf5⟩
          have st5 := st4.keep hf5
          clear st4 hf5
          go_wp2_with (with_reducible refine wl_stop (o := ⟨some 32, _, _, _, _, _⟩) ?_)
          refine wl_slitR rfl rfl Try.underlying78 info_el [i4 (elN m (beN l))] rfl (by simp [i4, Value.cells, cw_len]) rfl (cw 4 (elN m (beN l))) (by simp [i4_cells]) ?_
          intro wA hgA hfA hzA
          clear hzA
          have hfrA := st5.fr.then hfA
          have hsz := HF.out.size
          have hsz2 := hfrA.size
          have hownA := HOWN.out.still hfrA
          have hrdA : Rd wA (some ⟨w5.heap.size, 0, none⟩) (1 * 4) (cw 4 (elN m (beN l))) := by
            have := Rd.whole hgA
            rwa [cw_len] at this
          have HRDA := Lib.hid hrdA
          have HOWNA := Lib.hid hownA
          have HFRA := Lib.hid hfrA
          clear hgA hfA hrdA hownA hfrA st5
          generalize w5.heap.size = gA at *
          go_wp2_with (with_reducible refine wl_stop (o := ⟨some 33, _, _, _, _, _⟩) ?_)
          refine wl_append rfl rfl Try.underlying78 info_el rfl (by decide) HOWNA.out rfl rfl HRDA.out (cw_one _ _) (by unfold maxLen; omega) (by omega) (by omega) ?_
          intro vB wB hownB hfB hbB
          clear hbB
          have hfrB := HOWNA.out.fr (HF.out.then HFRA.out) (Nat.le_refl _) hfB
          have HFRB := Lib.hid hfrB
          rw [← HCS.out] at hownB
          have HOWNB := Lib.hid hownB
          clear hfrB hownB hfB
          go_wp2_with fail
          go_roundw
          case rel => exact ⟨k + 1, by omega, by go_num, by rw [HTS.out, HG.out, HNB.out]; rfl, HOWNB.out, HFRB.out⟩
          case measure => simp [intOf]; omega
        · have hd := decide_eq_false hlt2
          have hnb : numsB m ls = false := HBAD.out (by unfold numB; rw [hd]; simp)
          have HNB := Lib.hid hnb
          rw [hd]
          have HFR := Lib.hid (HF.out.then st4.fr)
          clear hd hlt2 hnb hne hc1 st4
          go_wp2_with fail
          go_ret2
          exact ReadPost.bad HNB.out rfl HFR.out
      · have hne : ((nn : Int) != 32) = true := by simp; omega
        have hnb : numsB m ls = false := HBAD.out (by unfold numB; rw [HLEN.out, decide_eq_false h32]; rfl)
        have HNB := Lib.hid hnb
        clear hnb h32
        go_wp2_with fail
        go_ret2
        exact ReadPost.bad HNB.out rfl HF.out
    · have hge : ¬ ((k : Int) < (n : Int)) := by omega
      have hkn : k = ls.length := by rw [HL.out]; omega
      rw [hkn, List.take_of_length_le (Nat.le_refl _)] at hgood hown
      have HG := Lib.hid hgood
      have HO := Lib.hid hown
      have HF := Lib.hid hf
      clear hkn hgood hown hf
      go_wp2_with fail
      go_ret2
      exact ReadPost.good HG.out rfl HO.out HF.out
end Go.Proofs.Ytmegaegedlbckaa
