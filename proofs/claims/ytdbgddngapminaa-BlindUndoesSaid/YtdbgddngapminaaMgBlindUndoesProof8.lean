/- group: Sum; mintvaultref1.Still: is a list all as it was lent?; The law NumReduces; The law NumReckons; The reference's Sqrt; The law NumRoots; zn.All; sigma.Extract; sigma.Extract; the reference's Scalar, Q, Extract; The reference's Q, Scalar, Extract; The reference's numbers modulo Prime, told by their classes. -/
import Derived.Test.YtdbgddngapminaaMgBlindUndoesProof7
import Derived.Test.YtdbgddngapminaaMgBlindUndoesProof2
import Derived.Test.YtdbgddngapminaaMgBlindUndoesProof3
import Derived.Test.YtdbgddngapminaaMgBlindUndoesProof4
import Derived.Test.YtdbgddngapminaaMgBlindUndoesProof6
namespace Go.Mv
open Go.RowKit
variable {P : Program} {ops : Array Oper} {a : Act} {w : World} {rest : List Oper} {Q : Exit → Act → World → Prop} {o : Oper}
theorem madeCells_row (v : Value) (sz m : Nat) (h : 0 < sz) : (madeCells (List.replicate sz v).toArray m).toList = List.replicate m v := by
  apply List.ext_getElem?
  intro j
  by_cases hj : j < m
  · have : j % sz < sz := Nat.mod_lt _ h
    simp [madeCells, hj, this]
  · simp [madeCells, hj]
/-- make([]T, n), T a row of like cells -/
theorem wl_makeR {l c : Operand} {t : TypeId} (hgd : o.guard = none) (ho : o.op = .makeSlice t l c) {e : TypeId} {z v : Value} {sz by_ : Nat} (ht : P.underlying t = some (.slice e))
    (hi0 : (P.info? e).map (fun i => (i.zero, i.size, i.bytes)) = some (some z, sz, by_)) (hzc : z.cells = (List.replicate sz v).toArray) (hsz : 0 < sz) {kl kc : IntKind} {x y : Int} (hl : a.eval l = .int kl x) (hc : a.eval c = .int kc y) (n m : Nat) (hx : x = n) (hy : y = m) (hnm : n ≤ m)
    (hb : by_ * m ≤ 281474976710656) (h63 : m ≤ maxLen)
    (h : ∀ w', Has w' w.heap.size (List.replicate (m * sz) v) e → Fr Nob w w' → wpList P ops Q rest (a.put o.dst (.slice (some ⟨w.heap.size, 0, none⟩) n m)) w') : wpList P ops Q (o :: rest) a w := by
  refine wpList_plain hgd fun K hK => ?_
  obtain ⟨i, hi, hz0⟩ : ∃ i, P.info? e = some i ∧ (i.zero, i.size, i.bytes) = (some z, sz, by_) := by simpa using hi0
  simp only [Prod.mk.injEq] at hz0
  obtain ⟨hz, hsize, hby⟩ := hz0
  subst hx
  subst hy
  have hmx : (m : Int) ≤ 9223372036854775807 := by simp only [maxLen] at h63; omega
  have hbb : (i.bytes : Int) * (m : Int) ≤ 281474976710656 := by
    have k : ((i.bytes * m : Nat) : Int) ≤ 281474976710656 := by rw [hby]; omega
    rwa [Int.natCast_mul] at k
  have hr := run_make (P := P) w t e i z ht hi hz kl kc n m (by omega) (by omega) hbb hmx
  simp only [Int.toNat_natCast, hsize] at hr
  unfold Oper.wp execOp
  simp only [ho, hl, hc, Sem.run_bind, Sem.run_pure, Result.andThen_ok, hr]
  refine hK _ _ (h _ ?_ ((Fr.refl _ w).alloc _))
  have := Has.new w (madeCells z.cells (m * sz)) e
  rw [hzc] at this ⊢
  rwa [madeCells_row v sz _ hsz] at this
end Go.Mv
namespace Go.Proofs.Ytdbgddngapminaa
open Go.RowKit Go.Mv Mvp Mvq
theorem info_term : (Try.prog.info? 98).map (fun i => (i.zero, i.size, i.bytes)) = some (some (.agg (List.replicate 196 (.int .u64 0)).toArray), 196, 1568) := by kernel_rfl
/-- the numbers read so far -/
def aK (ls : List (List UInt8)) (k : Nat) : Nat → Nat := fun i => if i < k then beN (ls.getD i []) else 0
theorem aK_zero (n : Nat) (ls : List (List UInt8)) : List.replicate (n * 196) (Value.int .u64 0) = tmF n (aK ls 0) (fun _ => cw 192 0) := by
  rw [tmF_zero]
  exact tmF_congr _ _ _ _ _ fun i _ => ⟨by unfold aK; rw [if_neg (Nat.not_lt_zero _)], rfl⟩
theorem aK_set (n : Nat) (ls : List (List UInt8)) (k : Nat) (l : List UInt8) (hl : ls.getD k [] = l) (h : k < n) : splice (tmF n (aK ls k) (fun _ => cw 192 0)) (k * 196) (cw 4 (beN l)) = tmF n (aK ls (k + 1)) (fun _ => cw 192 0) := by
  subst hl
  rw [tmF_setN n _ _ (fun _ => cw_len _ _) k _ h]
  refine tmF_congr _ _ _ _ _ fun i _ => ⟨?_, rfl⟩
  unfold upN aK
  by_cases e : i = k
  · rw [if_pos e, if_pos (by omega), e]
  · rw [if_neg e]
    by_cases e2 : i < k
    · rw [if_pos e2, if_pos (by omega)]
    · rw [if_neg e2, if_neg (by omega)]
theorem tmF_lenC (n : Nat) (a : Nat → Nat) : (tmF n a (fun _ => cw 192 0)).length = n * 196 := tmF_len n a _ (fun _ => cw_len _ _)
attribute [local irreducible] limbs lw mix cw cSub cAdd cMul foldC valFrom beN laid be32 powm montT mstep elN mdL numB rtN rtV rtOk gXn gYn PT.L addT dblT mulT tbL tmR tmL dbN innT outT sumT dig rdT rdOk rdPt ptL ptsL rdsB wrPt tmF tkT tmsT aK
set_option maxHeartbeats 8000000 in
set_option maxRecDepth 1000000 in
theorem Sum_ok (al : Option Addr) (n cl : Nat) (vs : List Value) (ln : List (List UInt8)) (bl : Option Addr) (dl : Nat) (us : List Value) (lp : List (List UInt8)) (w : World) (hv : Rd w al n vs) (hp : BParts w vs ln) (hu : Rd w bl n us) (hq : BParts w us lp) (hn : n ≤ 512) (hg : numsB mQ ln = true) (hr : rdsB lp = true) :
    Calls Try.prog 25 #[.slice al n cl, .slice bl n dl] w fun e w' => ∃ sv, e = .returned (.tuple #[sv, .int .i64 0]) ∧ Own w' w.heap.size 5 1 sv 33 (bs (wrPt (sumT (tmsT (aK ln n) lp)).pt)) ∧ Fr Nob w w' := by
  have HV := Lib.hid hv
  have HP := Lib.hid hp
  have HU := Lib.hid hu
  have HQ := Lib.hid hq
  have HL := Lib.hid (show ln.length = n by rw [← hp.1, hv.len])
  have HL2 := Lib.hid (show lp.length = n by rw [← hq.1, hu.len])
  have HN := Lib.hid hn
  have hnI : ¬ ((512 : Int) < (n : Int)) := by omega
  clear hv hp hu hq
  have HGA := Lib.hid hg
  have HRA := Lib.hid hr
  clear hg hr hn
  have st0 := St.start Nob w
  go_enter Try.func25, Try.ntmps25
  go_wp2_with (with_reducible refine wl_stop (o := ⟨some 23, _, _, _, _, _⟩) ?_)
  refine wl_makeR rfl rfl Try.underlying94 info_term rfl (by decide) rfl rfl n n rfl rfl (Nat.le_refl _) (by have := HN.out; omega) (by have := HN.out; unfold maxLen; omega) ?_
  intro w1 hm hf
  rw [aK_zero n ln] at hm
  have st1 := st0.new hf hm (Nat.le_refl _)
  have hle : w.heap.size ≤ w.heap.size := Nat.le_refl _
  generalize hgT : w.heap.size = gT at st1 hle hm ⊢
  have HGS := Lib.hid hgT
  clear hgT hle hm hf st0
  go_wp2_with (with_reducible refine wl_stop (o := ⟨some 6, _, _, _, _, _⟩) ?_)
  refine wl_allocS st1 rfl rfl (z := .slice none 0 0) (by kernel_rfl) [.slice none 0 0] rfl ?_
  intro gb w2 st2
  clear st1
  obtain ⟨v6, c6, f6⟩ := (st2.at 1 rfl).ready (i := 0) (by decide)
  have st3 := st2.set 1 rfl 0 (.slice (some ⟨gT, 0, none⟩) n n)
  have st3 : St Nob w (w2.setCell ⟨gb, 0, none⟩ (.slice (some ⟨gT, 0, none⟩) n n)) [(gT, tmF n (aK ln (0)) (fun _ => cw 192 0), 98), (gb, [Value.slice (some ⟨gT, 0, none⟩) n n], 94)] := st3
  have ST3 := Lib.hid st3
  clear st2 st3
  go_wp2
  try clear c6 f6
  go_loopw [26] (fun i wr => ∃ k : Nat, k ≤ n ∧ i = .int .i64 (k : Int) ∧ numsB mQ (ln.take k) = true ∧ St Nob w wr [(gT, tmF n (aK ln (k)) (fun _ => cw 192 0), 98), (gb, [Value.slice (some ⟨gT, 0, none⟩) n n], 94)]) (fun i _ => n - (intOf i).toNat)
  case atStart => exact ⟨0, Nat.zero_le _, rfl, by rw [List.take_zero]; unfold numsB; rfl, ST3.out⟩
  case round =>
    obtain ⟨k, hk, rfl, hgood, st⟩ := hrel
    clear ST3
    by_cases hlt : k < n
    · have hltI : (k : Int) < (n : Int) := by omega
      have hk0 : (0 : Int) ≤ (k : Int) := by omega
      have hf := st.fr
      obtain ⟨b, o, rfl, hat⟩ := (HV.out.still hf).at (by omega)
      have hvl : k < vs.length := by rw [HV.out.len]; exact hlt
      obtain ⟨a, nn, c, hve, hcc, hrd⟩ := HP.out.2 k (vs[k]'hvl) (List.getElem?_eq_getElem hvl)
      have hc1 := hat k _ (List.getElem?_eq_getElem hvl)
      rw [hve] at hc1
      have hlk : k < ln.length := by rw [HL.out]; exact hlt
      have hts := numsB_take mQ ln k hlk
      have hbad := numsB_bad mQ ln k hlk
      generalize hLk : ln.getD k [] = l at *
      have HLL := Lib.hid hLk
      have HRD := Lib.hid (hrd.still hf)
      have HTS := Lib.hid hts
      have HBAD := Lib.hid hbad
      have HG := Lib.hid hgood
      have HLT := Lib.hid hlt
      clear hLk hrd hts hbad hgood hf hat hve hcc hlt hk
      have HK := Lib.hid (show numB mQ l = true by
        cases hh : numB mQ l
        · have := HBAD.out hh
          rw [HGA.out] at this
          cases this
        · rfl)
      go_wp2_with fail
      refine (scalar_t HK.out a nn c _ (HRD.out)).mono ?_
      rintro e' w3 ⟨rfl, hf3⟩
      have st3 := st.keep hf3
      clear st hf3
      go_wp2_with (with_reducible refine wl_stop (o := ⟨some 9, _, _, _, _, _⟩) ?_)
      refine wl_allocS st3 rfl rfl (z := .agg #[.int .u64 0, .int .u64 0, .int .u64 0, .int .u64 0]) (by kernel_rfl) (cw 4 0) (by rw [cw_zero]; rfl) ?_
      intro g9 w4 st4
      clear st3
      go_wp2_with (with_reducible refine wl_stop (o := ⟨none, _, _, _, _, _⟩) ?_)
      refine wl_storeS st4 2 rfl rfl rfl rfl rfl (by first | (simp only [cw_len]; done) | (simp only [List.length_append, cw_len, PT.len, ptL_len]; done)) (by first | (rw [cw_len]; kernel_rfl) | (rw [PT.len]; kernel_rfl) | (rw [ptL_len]; kernel_rfl) | (simp only [List.length_append, cw_len]; kernel_rfl) | (simp only [List.length_append, cw_len, PT.len, ptL_len]; kernel_rfl)) (cw_one _ _) ?_
      intro w5 st5
      clear st4
      have hc6 := (st5.at 1 rfl).cell (show [Value.slice (some ⟨gT, 0, none⟩) n n][0]? = _ from rfl)
      go_wp2_with (with_reducible refine wl_stop (o := ⟨some 40, _, _, _, _, _⟩) ?_)
      refine wl_loadS st5 2 rfl rfl rfl Try.underlying82 rfl (by first | (rw [cw_len]; kernel_rfl) | (rw [PT.len]; kernel_rfl) | (rw [ptL_len]; kernel_rfl) | (simp only [List.length_append, cw_len]; kernel_rfl) | (simp only [List.length_append, cw_len, PT.len, ptL_len]; kernel_rfl)) ?_
      go_wp2_with (with_reducible refine wl_stop (o := ⟨none, _, _, _, _, _⟩) ?_)
      refine wl_storeP st5 0 rfl rfl rfl rfl rfl (tmF n (aK ln (k + 1)) (fun _ => cw 192 0)) (aK_set n ln k l HLL.out HLT.out) (by rw [tmF_lenC, cw_len]; have := HLT.out; omega) (by first | (rw [cw_len]; kernel_rfl) | (rw [PT.len]; kernel_rfl) | (rw [ptL_len]; kernel_rfl) | (simp only [List.length_append, cw_len]; kernel_rfl) | (simp only [List.length_append, cw_len, PT.len, ptL_len]; kernel_rfl)) (cw_one _ _) ?_
      intro w6 st6
      clear st5 hc6
      go_wp2_with fail
      go_roundw
      case rel => exact ⟨k + 1, by have := HLT.out; omega, by go_num, by rw [HTS.out, HG.out, HK.out]; rfl, St.less st6 (by simp)⟩
      case measure => have := HLT.out; simp [intOf]; omega
    · have hge : ¬ ((k : Int) < (n : Int)) := by omega
      have hkn : k = n := by omega
      rw [hkn] at hgood st
      rw [List.take_of_length_le (by rw [HL.out]; exact Nat.le_refl _)] at hgood
      have hgl := (st.at 0 rfl).lt
      have HHT := Lib.hid (st.at 0 rfl)
      have HHB := Lib.hid (st.at 1 rfl)
      have HNE := Lib.hid (show gb ≠ gT from st.neAt (i := 1) (j := 0) rfl rfl (by decide))
      have HF := Lib.hid st.fr
      clear hkn hgood st hgl
      go_wp2_with fail
      refine (with_sum_ok gb bl n dl us lp _ (HU.out.still HF.out) (HQ.out.still HF.out) (by have := HN.out; omega) HRA.out gT _ HHT.out (sumT (tmsT (aK ln n) lp)) (fun ap cp wx hfx hoff hrd => by rw [HL2.out]; exact sum1_c n (aK ln n) lp HL2.out (by have := HN.out; omega) gb gT wx HNE.out (HHB.out.keep hfx id) (HHT.out.keep hfx id) ap cp hoff hrd)).mono ?_
      rintro e wE ⟨sv, rfl, hown, hfE⟩
      have ho := hown.mono HF.out.size
      have hfr := HF.out.new hfE (by rw [HGS.out]; exact Nat.le_refl _)
      clear hown hfE HF HHT HHB
      go_wp2_with fail
      go_ret2
      exact ⟨sv, rfl, ho, hfr⟩

set_option maxHeartbeats 8000000 in
set_option maxRecDepth 1000000 in
theorem Sum_badp (al : Option Addr) (n cl : Nat) (vs : List Value) (ln : List (List UInt8)) (bl : Option Addr) (dl : Nat) (us : List Value) (lp : List (List UInt8)) (w : World) (hv : Rd w al n vs) (hp : BParts w vs ln) (hu : Rd w bl n us) (hq : BParts w us lp) (hn : n ≤ 512) (hg : numsB mQ ln = true) (hr : rdsB lp = false) :
    Calls Try.prog 25 #[.slice al n cl, .slice bl n dl] w fun e w' => e = .returned (.tuple #[.slice none 0 0, .int .i64 4]) ∧ Fr Nob w w' := by
  have HV := Lib.hid hv
  have HP := Lib.hid hp
  have HU := Lib.hid hu
  have HQ := Lib.hid hq
  have HL := Lib.hid (show ln.length = n by rw [← hp.1, hv.len])
  have HL2 := Lib.hid (show lp.length = n by rw [← hq.1, hu.len])
  have HN := Lib.hid hn
  have hnI : ¬ ((512 : Int) < (n : Int)) := by omega
  clear hv hp hu hq
  have HGA := Lib.hid hg
  have HRA := Lib.hid hr
  clear hg hr hn
  have st0 := St.start Nob w
  go_enter Try.func25, Try.ntmps25
  go_wp2_with (with_reducible refine wl_stop (o := ⟨some 23, _, _, _, _, _⟩) ?_)
  refine wl_makeR rfl rfl Try.underlying94 info_term rfl (by decide) rfl rfl n n rfl rfl (Nat.le_refl _) (by have := HN.out; omega) (by have := HN.out; unfold maxLen; omega) ?_
  intro w1 hm hf
  rw [aK_zero n ln] at hm
  have st1 := st0.new hf hm (Nat.le_refl _)
  have hle : w.heap.size ≤ w.heap.size := Nat.le_refl _
  generalize hgT : w.heap.size = gT at st1 hle hm ⊢
  have HGS := Lib.hid hgT
  clear hgT hle hm hf st0
  go_wp2_with (with_reducible refine wl_stop (o := ⟨some 6, _, _, _, _, _⟩) ?_)
  refine wl_allocS st1 rfl rfl (z := .slice none 0 0) (by kernel_rfl) [.slice none 0 0] rfl ?_
  intro gb w2 st2
  clear st1
  obtain ⟨v6, c6, f6⟩ := (st2.at 1 rfl).ready (i := 0) (by decide)
  have st3 := st2.set 1 rfl 0 (.slice (some ⟨gT, 0, none⟩) n n)
  have st3 : St Nob w (w2.setCell ⟨gb, 0, none⟩ (.slice (some ⟨gT, 0, none⟩) n n)) [(gT, tmF n (aK ln (0)) (fun _ => cw 192 0), 98), (gb, [Value.slice (some ⟨gT, 0, none⟩) n n], 94)] := st3
  have ST3 := Lib.hid st3
  clear st2 st3
  go_wp2
  try clear c6 f6
  go_loopw [26] (fun i wr => ∃ k : Nat, k ≤ n ∧ i = .int .i64 (k : Int) ∧ numsB mQ (ln.take k) = true ∧ St Nob w wr [(gT, tmF n (aK ln (k)) (fun _ => cw 192 0), 98), (gb, [Value.slice (some ⟨gT, 0, none⟩) n n], 94)]) (fun i _ => n - (intOf i).toNat)
  case atStart => exact ⟨0, Nat.zero_le _, rfl, by rw [List.take_zero]; unfold numsB; rfl, ST3.out⟩
  case round =>
    obtain ⟨k, hk, rfl, hgood, st⟩ := hrel
    clear ST3
    by_cases hlt : k < n
    · have hltI : (k : Int) < (n : Int) := by omega
      have hk0 : (0 : Int) ≤ (k : Int) := by omega
      have hf := st.fr
      obtain ⟨b, o, rfl, hat⟩ := (HV.out.still hf).at (by omega)
      have hvl : k < vs.length := by rw [HV.out.len]; exact hlt
      obtain ⟨a, nn, c, hve, hcc, hrd⟩ := HP.out.2 k (vs[k]'hvl) (List.getElem?_eq_getElem hvl)
      have hc1 := hat k _ (List.getElem?_eq_getElem hvl)
      rw [hve] at hc1
      have hlk : k < ln.length := by rw [HL.out]; exact hlt
      have hts := numsB_take mQ ln k hlk
      have hbad := numsB_bad mQ ln k hlk
      generalize hLk : ln.getD k [] = l at *
      have HLL := Lib.hid hLk
      have HRD := Lib.hid (hrd.still hf)
      have HTS := Lib.hid hts
      have HBAD := Lib.hid hbad
      have HG := Lib.hid hgood
      have HLT := Lib.hid hlt
      clear hLk hrd hts hbad hgood hf hat hve hcc hlt hk
      have HK := Lib.hid (show numB mQ l = true by
        cases hh : numB mQ l
        · have := HBAD.out hh
          rw [HGA.out] at this
          cases this
        · rfl)
      go_wp2_with fail
      refine (scalar_t HK.out a nn c _ (HRD.out)).mono ?_
      rintro e' w3 ⟨rfl, hf3⟩
      have st3 := st.keep hf3
      clear st hf3
      go_wp2_with (with_reducible refine wl_stop (o := ⟨some 9, _, _, _, _, _⟩) ?_)
      refine wl_allocS st3 rfl rfl (z := .agg #[.int .u64 0, .int .u64 0, .int .u64 0, .int .u64 0]) (by kernel_rfl) (cw 4 0) (by rw [cw_zero]; rfl) ?_
      intro g9 w4 st4
      clear st3
      go_wp2_with (with_reducible refine wl_stop (o := ⟨none, _, _, _, _, _⟩) ?_)
      refine wl_storeS st4 2 rfl rfl rfl rfl rfl (by first | (simp only [cw_len]; done) | (simp only [List.length_append, cw_len, PT.len, ptL_len]; done)) (by first | (rw [cw_len]; kernel_rfl) | (rw [PT.len]; kernel_rfl) | (rw [ptL_len]; kernel_rfl) | (simp only [List.length_append, cw_len]; kernel_rfl) | (simp only [List.length_append, cw_len, PT.len, ptL_len]; kernel_rfl)) (cw_one _ _) ?_
      intro w5 st5
      clear st4
      have hc6 := (st5.at 1 rfl).cell (show [Value.slice (some ⟨gT, 0, none⟩) n n][0]? = _ from rfl)
      go_wp2_with (with_reducible refine wl_stop (o := ⟨some 40, _, _, _, _, _⟩) ?_)
      refine wl_loadS st5 2 rfl rfl rfl Try.underlying82 rfl (by first | (rw [cw_len]; kernel_rfl) | (rw [PT.len]; kernel_rfl) | (rw [ptL_len]; kernel_rfl) | (simp only [List.length_append, cw_len]; kernel_rfl) | (simp only [List.length_append, cw_len, PT.len, ptL_len]; kernel_rfl)) ?_
      go_wp2_with (with_reducible refine wl_stop (o := ⟨none, _, _, _, _, _⟩) ?_)
      refine wl_storeP st5 0 rfl rfl rfl rfl rfl (tmF n (aK ln (k + 1)) (fun _ => cw 192 0)) (aK_set n ln k l HLL.out HLT.out) (by rw [tmF_lenC, cw_len]; have := HLT.out; omega) (by first | (rw [cw_len]; kernel_rfl) | (rw [PT.len]; kernel_rfl) | (rw [ptL_len]; kernel_rfl) | (simp only [List.length_append, cw_len]; kernel_rfl) | (simp only [List.length_append, cw_len, PT.len, ptL_len]; kernel_rfl)) (cw_one _ _) ?_
      intro w6 st6
      clear st5 hc6
      go_wp2_with fail
      go_roundw
      case rel => exact ⟨k + 1, by have := HLT.out; omega, by go_num, by rw [HTS.out, HG.out, HK.out]; rfl, St.less st6 (by simp)⟩
      case measure => have := HLT.out; simp [intOf]; omega
    · have hge : ¬ ((k : Int) < (n : Int)) := by omega
      have hkn : k = n := by omega
      rw [hkn] at hgood st
      rw [List.take_of_length_le (by rw [HL.out]; exact Nat.le_refl _)] at hgood
      have hgl := (st.at 0 rfl).lt
      have HHT := Lib.hid (st.at 0 rfl)
      have HHB := Lib.hid (st.at 1 rfl)
      have HNE := Lib.hid (show gb ≠ gT from st.neAt (i := 1) (j := 0) rfl rfl (by decide))
      have HF := Lib.hid st.fr
      clear hkn hgood st hgl
      go_wp2_with fail
      refine (with_sum_bad gb bl n dl us lp _ (HU.out.still HF.out) (HQ.out.still HF.out) (by have := HN.out; omega) HRA.out).mono ?_
      rintro e wE ⟨rfl, hfE⟩
      have hfr := HF.out.then hfE
      clear hfE HF HHT HHB
      go_wp2_with fail
      go_ret2
      exact ⟨rfl, hfr⟩

set_option maxHeartbeats 8000000 in
set_option maxRecDepth 1000000 in
theorem Sum_badk (al : Option Addr) (n cl : Nat) (vs : List Value) (ln : List (List UInt8)) (bl : Option Addr) (dl : Nat) (us : List Value) (lp : List (List UInt8)) (w : World) (hv : Rd w al n vs) (hp : BParts w vs ln) (hu : Rd w bl n us) (hq : BParts w us lp) (hn : n ≤ 512) (hg : numsB mQ ln = false) :
    Calls Try.prog 25 #[.slice al n cl, .slice bl n dl] w fun e w' => e = .returned (.tuple #[.slice none 0 0, .int .i64 3]) ∧ Fr Nob w w' := by
  have HV := Lib.hid hv
  have HP := Lib.hid hp
  have HU := Lib.hid hu
  have HQ := Lib.hid hq
  have HL := Lib.hid (show ln.length = n by rw [← hp.1, hv.len])
  have HL2 := Lib.hid (show lp.length = n by rw [← hq.1, hu.len])
  have HN := Lib.hid hn
  have hnI : ¬ ((512 : Int) < (n : Int)) := by omega
  clear hv hp hu hq
  have HGA := Lib.hid hg
  clear hg hn
  have st0 := St.start Nob w
  go_enter Try.func25, Try.ntmps25
  go_wp2_with (with_reducible refine wl_stop (o := ⟨some 23, _, _, _, _, _⟩) ?_)
  refine wl_makeR rfl rfl Try.underlying94 info_term rfl (by decide) rfl rfl n n rfl rfl (Nat.le_refl _) (by have := HN.out; omega) (by have := HN.out; unfold maxLen; omega) ?_
  intro w1 hm hf
  rw [aK_zero n ln] at hm
  have st1 := st0.new hf hm (Nat.le_refl _)
  have hle : w.heap.size ≤ w.heap.size := Nat.le_refl _
  generalize hgT : w.heap.size = gT at st1 hle hm ⊢
  have HGS := Lib.hid hgT
  clear hgT hle hm hf st0
  go_wp2_with (with_reducible refine wl_stop (o := ⟨some 6, _, _, _, _, _⟩) ?_)
  refine wl_allocS st1 rfl rfl (z := .slice none 0 0) (by kernel_rfl) [.slice none 0 0] rfl ?_
  intro gb w2 st2
  clear st1
  obtain ⟨v6, c6, f6⟩ := (st2.at 1 rfl).ready (i := 0) (by decide)
  have st3 := st2.set 1 rfl 0 (.slice (some ⟨gT, 0, none⟩) n n)
  have st3 : St Nob w (w2.setCell ⟨gb, 0, none⟩ (.slice (some ⟨gT, 0, none⟩) n n)) [(gT, tmF n (aK ln (0)) (fun _ => cw 192 0), 98), (gb, [Value.slice (some ⟨gT, 0, none⟩) n n], 94)] := st3
  have ST3 := Lib.hid st3
  clear st2 st3
  go_wp2
  try clear c6 f6
  go_loopw [26] (fun i wr => ∃ k : Nat, k ≤ n ∧ i = .int .i64 (k : Int) ∧ numsB mQ (ln.take k) = true ∧ St Nob w wr [(gT, tmF n (aK ln (k)) (fun _ => cw 192 0), 98), (gb, [Value.slice (some ⟨gT, 0, none⟩) n n], 94)]) (fun i _ => n - (intOf i).toNat)
  case atStart => exact ⟨0, Nat.zero_le _, rfl, by rw [List.take_zero]; unfold numsB; rfl, ST3.out⟩
  case round =>
    obtain ⟨k, hk, rfl, hgood, st⟩ := hrel
    clear ST3
    by_cases hlt : k < n
    · have hltI : (k : Int) < (n : Int) := by omega
      have hk0 : (0 : Int) ≤ (k : Int) := by omega
      have hf := st.fr
      obtain ⟨b, o, rfl, hat⟩ := (HV.out.still hf).at (by omega)
      have hvl : k < vs.length := by rw [HV.out.len]; exact hlt
      obtain ⟨a, nn, c, hve, hcc, hrd⟩ := HP.out.2 k (vs[k]'hvl) (List.getElem?_eq_getElem hvl)
      have hc1 := hat k _ (List.getElem?_eq_getElem hvl)
      rw [hve] at hc1
      have hlk : k < ln.length := by rw [HL.out]; exact hlt
      have hts := numsB_take mQ ln k hlk
      have hbad := numsB_bad mQ ln k hlk
      generalize hLk : ln.getD k [] = l at *
      have HLL := Lib.hid hLk
      have HRD := Lib.hid (hrd.still hf)
      have HTS := Lib.hid hts
      have HBAD := Lib.hid hbad
      have HG := Lib.hid hgood
      have HLT := Lib.hid hlt
      clear hLk hrd hts hbad hgood hf hat hve hcc hlt hk
      rcases Bool.eq_false_or_eq_true (numB mQ l) with hh | hh
      · have HK := Lib.hid hh
        clear hh
        go_wp2_with fail
        refine (scalar_t HK.out a nn c _ (HRD.out)).mono ?_
        rintro e' w3 ⟨rfl, hf3⟩
        have st3 := st.keep hf3
        clear st hf3
        go_wp2_with (with_reducible refine wl_stop (o := ⟨some 9, _, _, _, _, _⟩) ?_)
        refine wl_allocS st3 rfl rfl (z := .agg #[.int .u64 0, .int .u64 0, .int .u64 0, .int .u64 0]) (by kernel_rfl) (cw 4 0) (by rw [cw_zero]; rfl) ?_
        intro g9 w4 st4
        clear st3
        go_wp2_with (with_reducible refine wl_stop (o := ⟨none, _, _, _, _, _⟩) ?_)
        refine wl_storeS st4 2 rfl rfl rfl rfl rfl (by first | (simp only [cw_len]; done) | (simp only [List.length_append, cw_len, PT.len, ptL_len]; done)) (by first | (rw [cw_len]; kernel_rfl) | (rw [PT.len]; kernel_rfl) | (rw [ptL_len]; kernel_rfl) | (simp only [List.length_append, cw_len]; kernel_rfl) | (simp only [List.length_append, cw_len, PT.len, ptL_len]; kernel_rfl)) (cw_one _ _) ?_
        intro w5 st5
        clear st4
        have hc6 := (st5.at 1 rfl).cell (show [Value.slice (some ⟨gT, 0, none⟩) n n][0]? = _ from rfl)
        go_wp2_with (with_reducible refine wl_stop (o := ⟨some 40, _, _, _, _, _⟩) ?_)
        refine wl_loadS st5 2 rfl rfl rfl Try.underlying82 rfl (by first | (rw [cw_len]; kernel_rfl) | (rw [PT.len]; kernel_rfl) | (rw [ptL_len]; kernel_rfl) | (simp only [List.length_append, cw_len]; kernel_rfl) | (simp only [List.length_append, cw_len, PT.len, ptL_len]; kernel_rfl)) ?_
        go_wp2_with (with_reducible refine wl_stop (o := ⟨none, _, _, _, _, _⟩) ?_)
        refine wl_storeP st5 0 rfl rfl rfl rfl rfl (tmF n (aK ln (k + 1)) (fun _ => cw 192 0)) (aK_set n ln k l HLL.out HLT.out) (by rw [tmF_lenC, cw_len]; have := HLT.out; omega) (by first | (rw [cw_len]; kernel_rfl) | (rw [PT.len]; kernel_rfl) | (rw [ptL_len]; kernel_rfl) | (simp only [List.length_append, cw_len]; kernel_rfl) | (simp only [List.length_append, cw_len, PT.len, ptL_len]; kernel_rfl)) (cw_one _ _) ?_
        intro w6 st6
        clear st5 hc6
        go_wp2_with fail
        go_roundw
        case rel => exact ⟨k + 1, by have := HLT.out; omega, by go_num, by rw [HTS.out, HG.out, HK.out]; rfl, St.less st6 (by simp)⟩
        case measure => have := HLT.out; simp [intOf]; omega
      · have HK := Lib.hid hh
        clear hh
        go_wp2_with fail
        refine (scalar_f HK.out a nn c _ (HRD.out)).mono ?_
        rintro e' w3 ⟨⟨N, rfl⟩, hf3⟩
        have st3 := st.keep hf3
        clear st hf3
        go_wp2_with (with_reducible refine wl_stop (o := ⟨some 9, _, _, _, _, _⟩) ?_)
        refine wl_allocS st3 rfl rfl (z := .agg #[.int .u64 0, .int .u64 0, .int .u64 0, .int .u64 0]) (by kernel_rfl) (cw 4 0) (by rw [cw_zero]; rfl) ?_
        intro g9 w4 st4
        clear st3
        go_wp2_with (with_reducible refine wl_stop (o := ⟨none, _, _, _, _, _⟩) ?_)
        refine wl_storeS st4 2 rfl rfl rfl rfl rfl (by first | (simp only [cw_len]; done) | (simp only [List.length_append, cw_len, PT.len, ptL_len]; done)) (by first | (rw [cw_len]; kernel_rfl) | (rw [PT.len]; kernel_rfl) | (rw [ptL_len]; kernel_rfl) | (simp only [List.length_append, cw_len]; kernel_rfl) | (simp only [List.length_append, cw_len, PT.len, ptL_len]; kernel_rfl)) (cw_one _ _) ?_
        intro w5 st5
        clear st4
        have hfr := st5.fr
        clear st5
        go_wp2_with fail
        go_ret2
        exact ⟨rfl, hfr⟩
    · exfalso
      have hkn : k = n := by omega
      rw [hkn] at hgood
      rw [List.take_of_length_le (by rw [HL.out]; exact Nat.le_refl _), HGA.out] at hgood
      cases hgood

set_option maxHeartbeats 8000000 in
set_option maxRecDepth 1000000 in
theorem Sum_form (al : Option Addr) (n cl : Nat) (bl : Option Addr) (m dl : Nat) (w : World) (h : n ≠ m) :
    Calls Try.prog 25 #[.slice al n cl, .slice bl m dl] w fun e w' => e = .returned (.tuple #[.slice none 0 0, .int .i64 2]) ∧ Fr Nob w w' := by
  have h1 : ((n : Int) != (m : Int)) = true := by simp; omega
  have h2 : (n != m) = true := by simpa using h
  go_enter Try.func25, Try.ntmps25
  go_wp2
  go_ret2
  exact ⟨rfl, Fr.refl _ _⟩
set_option maxHeartbeats 8000000 in
set_option maxRecDepth 1000000 in
theorem Sum_long (al : Option Addr) (n cl : Nat) (bl : Option Addr) (dl : Nat) (w : World) (h : 512 < n) :
    Calls Try.prog 25 #[.slice al n cl, .slice bl n dl] w fun e w' => e = .returned (.tuple #[.slice none 0 0, .int .i64 1]) ∧ Fr Nob w w' := by
  have h1 : (512 : Int) < (n : Int) := by omega
  go_enter Try.func25, Try.ntmps25
  go_wp2
  go_ret2
  exact ⟨rfl, Fr.refl _ _⟩
end Go.Proofs.Ytdbgddngapminaa

/- mintvaultref1.Still: is a list all as it was lent? -/
namespace Go.Proofs.Ytdbgddngapminaa
open Go.RowKit Go.Mv Mvp

end Go.Proofs.Ytdbgddngapminaa

/- The law NumReduces. -/
namespace Go.Proofs.Ytdbgddngapminaa
open Go.RowKit Go.Mv Mvp
attribute [local irreducible] limbs lw mix cw cSub cAdd cMul foldC valFrom beN laid be32 powm montT mstep elN mdL
end Go.Proofs.Ytdbgddngapminaa

/- The law NumReckons. -/
namespace Go.Proofs.Ytdbgddngapminaa
open Go.RowKit Go.Mv Mvp
theorem Number_t (m : Md) (hM : m.M < B64 ^ 4) (s : ByteArray) (w : World) (h : numB m s.data.toList = true) :
    Calls Try.prog 11 #[fv m.M, .string s] w fun e w' => e = .returned (.tuple #[i4 (beN s.data.toList), .bool true]) ∧ Fr Nob w w' := by
  unfold numB at h
  simp only [Bool.and_eq_true, decide_eq_true_eq] at h
  refine (Number_ok m.M s w (by have := h.1; simpa using this) hM).mono fun e w' he => ?_
  rw [decide_eq_true h.2] at he
  exact he
theorem Number_f (m : Md) (hM : m.M < B64 ^ 4) (s : ByteArray) (w : World) (h : numB m s.data.toList = false) :
    Calls Try.prog 11 #[fv m.M, .string s] w fun e w' => ∃ N, e = .returned (.tuple #[i4 N, .bool false]) ∧ Fr Nob w w' := by
  by_cases hs : s.size = 32
  · refine (Number_ok m.M s w hs hM).mono fun e w' he => ?_
    have h2 : ¬ beN s.data.toList < m.M := by
      intro hb
      unfold numB at h
      rw [decide_eq_true hb, decide_eq_true (by simpa using hs)] at h
      cases h
    rw [decide_eq_false h2] at he
    exact ⟨_, he⟩
  · exact (Number_bad m.M s w hs).mono fun e w' he => ⟨_, he⟩
attribute [local irreducible] limbs lw mix cw cSub cAdd cMul foldC valFrom beN laid be32 powm montT mstep elN mdL numB numsB
end Go.Proofs.Ytdbgddngapminaa

/- The reference's Sqrt. -/
namespace Mvp
theorem low_one (Q : Nat) (h : lw Q 0 + 1 < 18446744073709551616) : (limbs 4 Q).set 0 (lw Q 0 + 1) = limbs 4 (Q + 1) := by
  rw [limbs4, limbs4]
  have e0 : lw (Q + 1) 0 = lw Q 0 + 1 := by rw [word0] at h ⊢; rw [word0]; omega
  have e : (Q + 1) / 18446744073709551616 = Q / 18446744073709551616 := by rw [word0] at h; omega
  have ed : ∀ i, lw (Q + 1) (1 + i) = lw Q (1 + i) := by
    intro i
    rw [← lw_div, ← lw_div, Nat.pow_one, show B64 = 18446744073709551616 from rfl, e]
  have e1 := ed 0
  have e2 := ed 1
  have e3 := ed 2
  simp only [Nat.add_zero] at e1
  rw [e0, e1, show (2 : Nat) = 1 + 1 from rfl, show (3 : Nat) = 1 + 2 from rfl, e2, e3]
  rfl
theorem quarter_all (p : Nat) (h : p < B64 ^ 4) : p / 4 % 2 ^ 254 = p / 4 := Nat.mod_eq_of_lt (by
  rw [show B64 ^ 4 = 2 ^ 254 * 4 from rfl] at h
  generalize 2 ^ 254 = z at *
  omega)
end Mvp
namespace Go.Proofs.Ytdbgddngapminaa
open Go.RowKit Go.Mv Mvp
theorem bit_cell (q b k q' : Nat) (hb : b < 2) (hs : (limbs 4 q).set (k / 64) (lw q (k / 64) ||| b * 2 ^ (k % 64)) = limbs 4 q') :
    (cw 4 q).set (k / 64) (.int .u64 (bits .or .u64 (lw q (k / 64) : Nat) (IntKind.u64.wrap ((b : Int) * 2 ^ (k % 64))))) = cw 4 q' := by
  have h1 : b * 2 ^ (k % 64) < 18446744073709551616 := by
    have h2 : 2 ^ (k % 64) ≤ 2 ^ 63 := Nat.pow_le_pow_right (by decide) (by omega)
    have h3 := Nat.mul_le_mul_right (2 ^ (k % 64)) (show b ≤ 1 by omega)
    rw [Nat.one_mul] at h3
    have h4 : (2 : Nat) ^ 63 = 9223372036854775808 := by decide
    rw [h4] at h2
    generalize 2 ^ (k % 64) = z at *
    generalize b * z = y at *
    omega
  have h := bits_or_u64_nat (lw q (k / 64)) (b * 2 ^ (k % 64)) (lw_lt _ _) h1
  have hw : IntKind.u64.wrap ((b : Int) * 2 ^ (k % 64)) = ((b * 2 ^ (k % 64) : Nat) : Int) := by
    rw [show ((b : Int) * 2 ^ (k % 64)) = ((b * 2 ^ (k % 64) : Nat) : Int) by rw [Int.natCast_mul, Int.natCast_pow]; rfl, IntKind.wrap_u64]
    exact congrArg Int.ofNat (Nat.mod_eq_of_lt h1)
  rw [hw, h, cw, us_set, hs, cw]
theorem low_cells (Q : Nat) (h : lw Q 0 + 1 < 18446744073709551616) : (cw 4 Q).set 0 (.int .u64 ((lw Q 0 : Int) + 1)) = cw 4 (Q + 1) := by
  show (us (limbs 4 Q)).set 0 (.int .u64 ((lw Q 0 + 1 : Nat) : Int)) = us (limbs 4 (Q + 1))
  rw [us_set, low_one Q h]
theorem wp_neq4 (x y : Nat) (hx : x < B64 ^ 4) (hy : y < B64 ^ 4) (ty : TypeId) (hu : Try.prog.underlying ty = some (.array 4 22)) (hg : Try.prog.eqGuardType Try.prog.depth ty = false) {o : Oper} {a : Act} {w : World} {K : Act → World → Prop} {Q : Exit → Act → World → Prop} {p q : Operand} {T : TypeId}
    (ho : o.op = .binOp .neq ty p q T) (hp : a.eval p = i4 x) (hq : a.eval q = .agg (cw 4 y).toArray) {b : Bool} (hb : decide (x = y) = b) (hk : K (a.put o.dst (.bool !b)) w) : o.wp Try.prog a w K Q := by
  have h1 := eq_guard x y ty hg p q w
  have h2 : (binOp .neq ty (i4 x) (.agg (cw 4 y).toArray)).run Try.prog w = .ok (.bool !b) w := by
    show (do pure (Value.bool (!(← Op.equal ty (.agg (cw 4 x).toArray) (.agg (cw 4 y).toArray))))).run Try.prog w = _
    simp only [Sem.run_bind, run_eq4 hu Try.underlying22 size_u64 x y w, Result.andThen_ok]
    rw [Nat.mod_eq_of_lt hx, Nat.mod_eq_of_lt hy, hb]
    rfl
  unfold Oper.wp execOp
  simp only [ho, hp, hq, Sem.run_bind, h1, h2, Result.andThen_ok, Sem.run_pure]
  exact hk
attribute [local irreducible] limbs lw mix cw cSub cAdd cMul foldC valFrom beN laid be32 powm
set_option maxHeartbeats 4000000 in
set_option maxRecDepth 100000 in
theorem FSqrt_no (p a n R : Nat) (w : World) (hp0 : 0 < p) (hp : p < B64 ^ 4) (hn : p / 4 + 1 = n) (hn4 : n < B64 ^ 4) (ha : a < B64 ^ 4) (hlow : lw (p / 4) 0 + 1 < 18446744073709551616) (hR : R < p) (hpow : ∀ wx, Calls Try.prog 101 #[fv p, i4 a, i4 n] wx fun e w' => e = .returned (i4 R) ∧ Fr Nob wx w') (hb : decide (R * R % p = a) = false) :
    Calls Try.prog 80 #[fv p, i4 a] w fun e w' => e = .returned (.tuple #[i4 0, .bool false]) ∧ Fr Nob w w' := by
  have HP0 := Lib.hid hp0
  have HP := Lib.hid hp
  have HN4 := Lib.hid hn4
  have HA := Lib.hid ha
  have HLOW := Lib.hid hlow
  have HPOW := Lib.hid hpow
  have HB := Lib.hid hb
  have HR4 := Lib.hid (Nat.lt_trans hR hp)
  have HRP := Lib.hid (Nat.le_of_lt hR)
  have HRR := Lib.hid (show R * R % p < B64 ^ 4 from Nat.lt_trans (Nat.mod_lt _ hp0) hp)
  have hlc := low_cells (p / 4) hlow
  rw [hn] at hlc
  have HLC := Lib.hid hlc
  have HNE := Lib.hid hn
  
  clear hp0 hp hn4 ha hlow hpow hb hR hlc hn 
  have st0 := St.start Nob w
  go_enter Try.func80, Try.ntmps80
  go_wp2_with (with_reducible refine wl_stop (o := ⟨some 2, _, _, _, _, _⟩) ?_)
  refine wl_boxS st0 rfl rfl rfl (cw 4 p ++ cw 4 (B64 ^ 4 - p)) rfl ?_
  intro g2 w1 st1
  clear st0
  go_wp2_with (with_reducible refine wl_stop (o := ⟨some 3, _, _, _, _, _⟩) ?_)
  refine wl_boxS st1 rfl rfl rfl (cw 4 a) rfl ?_
  intro g3 w2 st2
  clear st1
  go_wp2_with (with_reducible refine wl_stop (o := ⟨some 4, _, _, _, _, _⟩) ?_)
  refine wl_allocS st2 rfl rfl (z := .agg #[.int .u64 0, .int .u64 0, .int .u64 0, .int .u64 0]) (by kernel_rfl) (cw 4 0) (by rw [cw_zero]; rfl) ?_
  intro g4 w3 st3
  clear st2
  go_wp2_with (with_reducible refine wl_stop (o := ⟨some 6, _, _, _, _, _⟩) ?_)
  refine wl_allocS st3 rfl rfl (z := .agg #[.int .u64 0, .int .u64 0, .int .u64 0, .int .u64 0]) (by kernel_rfl) (cw 4 0) (by rw [cw_zero]; rfl) ?_
  intro g6 w4 st4
  clear st3
  go_wp2
  go_loopw [7] (fun i wr => ∃ k : Nat, k ≤ 254 ∧ i = .int .i64 (k : Int) ∧ St Nob w wr [(g2, cw 4 p ++ cw 4 (B64 ^ 4 - p), 31), (g3, cw 4 a, 24), (g4, cw 4 0, 24), (g6, cw 4 (p / 4 % 2 ^ k), 24)]) (fun i _ => 254 - (intOf i).toNat)
  case atStart => exact ⟨0, by omega, rfl, by rw [Nat.pow_zero, Nat.mod_one]; exact st4⟩
  case round =>
    obtain ⟨k, hk, rfl, st⟩ := hrel
    clear st4
    by_cases hlt : k < 254
    · have hltI : (k : Int) < 254 := by omega
      have hstep := bit_step 4 (p / 4 % 2 ^ k) k (p / 2 ^ (k + 2) % 2) (Nat.mod_lt _ (Nat.pow_pos (by decide))) (Nat.mod_lt _ (by decide)) (by omega)
      rw [← quarter_step] at hstep
      have hbit := fun wx => RBit_any p (k + 2) wx (by omega)
      have hb2 : p / 2 ^ (k + 2) % 2 < 2 := Nat.mod_lt _ (by decide)
      generalize p / 2 ^ (k + 2) % 2 = b at *
      generalize hq' : p / 4 % 2 ^ (k + 1) = q' at *
      have HQ := Lib.hid hq'
      clear hq'
      generalize p / 4 % 2 ^ k = q at *
      have HCELL := Lib.hid (bit_cell q b k q' hb2 hstep)
      have HBIT := Lib.hid hbit
      clear hstep hbit hb2
      have hlo : (0 : Int) ≤ (k : Int) / 64 ∧ (k : Int) / 64 < 4 := by omega
      have hlo2 : (0 : Int) ≤ (k : Int) % 64 ∧ (k : Int) % 64 < 64 := by omega
      have e1 : IntKind.i64.wrap ((k : Int) / 64) = (k : Int) / 64 := IntWalk.i64_in _ (by omega)
      have e2 : (k : Int).tmod 64 = (k : Int) % 64 := Int.tmod_eq_emod_of_nonneg (by omega)
      have e3 : IntKind.i64.wrap ((k : Int) + 2) = (k : Int) + 2 := IntWalk.i64_in _ (by omega)
      have e4 : ((k : Int) / 64).toNat = k / 64 := by omega
      have e5 : ((k : Int) % 64).toNat = k % 64 := by omega
      go_wp2_with fail
      refine wp_region_noPanic ?_
      refine wp_region_plan (fun wx => St Nob w wx [(g2, cw 4 p ++ cw 4 (B64 ^ 4 - p), 31), (g3, cw 4 a, 24), (g4, cw 4 0, 24), (g6, cw 4 q, 24)]) 16 (.w 0 (.w 1 (.w 2 (.w 3 (.w 4 (.t 5 (.w 6 (.t 7 (.w 8 (.w 9 (.w 11 (.w 12 (.r 10 (.w 13 (.w 14 (.w 15 (.m 16 .nil))))))))))))))))) (by kernel_rfl) (by kernel_rfl) st.drew (fun _ _ _ _ _ h => h) ?_
      have hd4 := st.drew
      clear st
      refine plan_w (v := ?_) rfl rfl (fun wx => ?_) ?_
      rotate_left 1
      · (go_simp; with_reducible rfl)
      try simp only [Act.put, List.setIfInBounds_toArray, List.set_cons_zero, List.set_cons_succ]
      refine plan_w (v := ?_) rfl rfl (fun wx => ?_) ?_
      rotate_left 1
      · (go_simp; with_reducible rfl)
      try simp only [Act.put, List.setIfInBounds_toArray, List.set_cons_zero, List.set_cons_succ]
      refine plan_w (v := ?_) rfl rfl (fun wx => ?_) ?_
      rotate_left 1
      · (go_simp; with_reducible rfl)
      try simp only [Act.put, List.setIfInBounds_toArray, List.set_cons_zero, List.set_cons_succ]
      refine plan_w (v := ?_) rfl rfl (fun wx => ?_) ?_
      rotate_left 1
      · (go_simp; with_reducible rfl)
      try simp only [Act.put, List.setIfInBounds_toArray, List.set_cons_zero, List.set_cons_succ]
      refine plan_w (v := ?_) rfl rfl (fun wx => ?_) ?_
      rotate_left 1
      · (go_simp; with_reducible rfl)
      try simp only [Act.put, List.setIfInBounds_toArray, List.set_cons_zero, List.set_cons_succ]
      refine plan_t (v := ?_) rfl rfl (fun wx hS => ?_) ?_
      rotate_left 1
      · (have hc := (St.at hS 3 rfl).cell (cw_get 4 q (k / 64) (by omega)); clear hS; go_simp; with_reducible rfl)
      try simp only [Act.put, List.setIfInBounds_toArray, List.set_cons_zero, List.set_cons_succ]
      refine plan_w (v := ?_) rfl rfl (fun wx => ?_) ?_
      rotate_left 1
      · (go_simp; with_reducible rfl)
      try simp only [Act.put, List.setIfInBounds_toArray, List.set_cons_zero, List.set_cons_succ]
      refine plan_arr rfl rfl rfl rfl (cw 4 p) (fun wx hS => St.rangeL hS 0 rfl 0 _ (cw_left 4 4 _ _)) Try.underlying24 rfl (by first | (rw [cw_len]; kernel_rfl) | (simp only [List.length_append, cw_len]; kernel_rfl)) ?_
      try simp only [Act.put, List.setIfInBounds_toArray, List.set_cons_zero, List.set_cons_succ]
      refine plan_w (v := ?_) rfl rfl (fun wx => ?_) ?_
      rotate_left 1
      · (go_simp; with_reducible rfl)
      try simp only [Act.put, List.setIfInBounds_toArray, List.set_cons_zero, List.set_cons_succ]
      refine plan_w (v := ?_) rfl rfl (fun wx => ?_) ?_
      rotate_left 1
      · (go_simp; with_reducible rfl)
      try simp only [Act.put, List.setIfInBounds_toArray, List.set_cons_zero, List.set_cons_succ]
      refine plan_w (v := ?_) rfl rfl (fun wx => ?_) ?_
      rotate_left 1
      · (go_simp; with_reducible rfl)
      try simp only [Act.put, List.setIfInBounds_toArray, List.set_cons_zero, List.set_cons_succ]
      refine plan_w (v := ?_) rfl rfl (fun wx => ?_) ?_
      rotate_left 1
      · (go_simp; with_reducible rfl)
      try simp only [Act.put, List.setIfInBounds_toArray, List.set_cons_zero, List.set_cons_succ]
      refine plan_r rfl rfl ?_
      go_simp
      refine (HBIT.out _).mono ?_
      rintro e' w5 ⟨rfl, hf5⟩
      have st5 := hd4.keep hf5
      clear hf5
      clear hd4
      refine ⟨st5, ?_⟩
      try simp only [Act.put, List.setIfInBounds_toArray, List.set_cons_zero, List.set_cons_succ]
      refine plan_w (v := ?_) rfl rfl (fun wx => ?_) ?_
      rotate_left 1
      · (go_simp; with_reducible rfl)
      try simp only [Act.put, List.setIfInBounds_toArray, List.set_cons_zero, List.set_cons_succ]
      refine plan_w (v := ?_) rfl rfl (fun wx => ?_) ?_
      rotate_left 1
      · (go_simp; with_reducible rfl)
      try simp only [Act.put, List.setIfInBounds_toArray, List.set_cons_zero, List.set_cons_succ]
      refine plan_w (v := ?_) rfl rfl (fun wx => ?_) ?_
      rotate_left 1
      · (go_simp; with_reducible rfl)
      try simp only [Act.put, List.setIfInBounds_toArray, List.set_cons_zero, List.set_cons_succ]
      refine plan_m rfl rfl ?_
      have f1 := (st5.at 3 rfl).free (k / 64) (by rw [cw_len]; omega)
      have c1 := (st5.at 3 rfl).cell (cw_get 4 q (k / 64) (by omega))
      go_simp
      have st6 := st5.set 3 rfl (k / 64) (.int .u64 (bits .or .u64 (lw q (k / 64) : Nat) (IntKind.u64.wrap ((b : Int) * 2 ^ (k % 64)))))
      simp only [List.set_cons_zero, List.set_cons_succ] at st6
      rw [HCELL.out] at st6
      clear f1 c1 st5
      try simp only [Act.put, List.setIfInBounds_toArray, List.set_cons_zero, List.set_cons_succ]
      refine plan_end ?_
      refine NoPanic.normal ?_
      go_wp2
      go_roundw
      case rel => exact ⟨k + 1, by omega, by go_num, by rw [HQ.out]; exact st6⟩
      case measure => simp [intOf]; omega
    · have hge : ¬ ((k : Int) < 254) := by omega
      have hk2 : k = 254 := by omega
      rw [hk2, quarter_all p HP.out] at st
      clear hk2
      generalize p / 4 = Q at *
      have c1 := (st.at 3 rfl).cell (cw_get 4 Q 0 (by decide))
      have f1 := (st.at 3 rfl).free 0 (by rw [cw_len]; decide)
      have st9 := st.set 3 rfl 0 (.int .u64 ((lw Q 0 : Int) + 1))
      have hlow := HLOW.out
      have e1 : IntKind.u64.wrap ((lw Q 0 : Int) + 1) = (lw Q 0 : Int) + 1 := IntWalk.u64_in _ (by omega)
      clear st
      go_wp2_with (with_reducible refine wl_stop (o := ⟨some 33, _, _, _, _, _⟩) ?_)
      simp only [List.set_cons_zero, List.set_cons_succ] at st9
      rw [HLC.out] at st9
      clear c1 f1 hlow e1
      refine wl_loadSt st9 0 rfl rfl rfl Try.underlying31 rfl rfl (by first | (rw [cw_len]; kernel_rfl) | (simp only [List.length_append, cw_len]; kernel_rfl)) ?_
      go_wp2_with (with_reducible refine wl_stop (o := ⟨some 34, _, _, _, _, _⟩) ?_)
      refine wl_loadS st9 1 rfl rfl rfl Try.underlying24 rfl (by first | (rw [cw_len]; kernel_rfl) | (simp only [List.length_append, cw_len]; kernel_rfl)) ?_
      go_wp2_with (with_reducible refine wl_stop (o := ⟨some 35, _, _, _, _, _⟩) ?_)
      refine wl_loadS st9 3 rfl rfl rfl Try.underlying24 rfl (by first | (rw [cw_len]; kernel_rfl) | (simp only [List.length_append, cw_len]; kernel_rfl)) ?_
      go_wp2_with fail
      refine (HPOW.out _).mono ?_
      rintro e' w10 ⟨rfl, hf10⟩
      have st10 := st9.keep hf10
      clear st9 hf10
      go_wp2_with (with_reducible refine wl_stop (o := ⟨some 8, _, _, _, _, _⟩) ?_)
      refine wl_allocS st10 rfl rfl (z := .agg #[.int .u64 0, .int .u64 0, .int .u64 0, .int .u64 0]) (by kernel_rfl) (cw 4 0) (by rw [cw_zero]; rfl) ?_
      intro g8 w11 st11
      clear st10
      go_wp2_with (with_reducible refine wl_stop (o := ⟨none, _, _, _, _, _⟩) ?_)
      refine wl_storeS st11 4 rfl rfl rfl rfl rfl (by first | (simp only [cw_len]; done) | (simp only [List.length_append, cw_len]; done)) (by first | (rw [cw_len]; kernel_rfl) | (simp only [List.length_append, cw_len]; kernel_rfl)) (cw_one _ _) ?_
      intro w12 st12
      clear st11
      go_wp2_with fail
      refine wp_region_noPanic ?_
      refine wp_region_plan (fun wx => St Nob w wx [(g2, cw 4 p ++ cw 4 (B64 ^ 4 - p), 31), (g3, cw 4 a, 24), (g4, cw 4 0, 24), (g6, cw 4 n, 24), (g8, cw 4 R, 24)]) 5 (.t 0 (.t 1 (.t 2 (.t 4 (.r 3 (.m 5 .nil)))))) (by kernel_rfl) (by kernel_rfl) st12.drew (fun _ _ _ _ _ h => h) ?_
      have hd12 := st12.drew
      clear st12
      refine plan_arr rfl rfl rfl rfl (cw 4 p ++ cw 4 (B64 ^ 4 - p)) (fun wx hS => St.rangeL hS 0 rfl 0 _ (by rw [List.drop_zero, List.take_of_length_le (Nat.le_refl _)])) Try.underlying31 rfl (by first | (rw [cw_len]; kernel_rfl) | (simp only [List.length_append, cw_len]; kernel_rfl)) ?_
      try simp only [Act.put, List.setIfInBounds_toArray, List.set_cons_zero, List.set_cons_succ]
      refine plan_arr rfl rfl rfl rfl (cw 4 R) (fun wx hS => St.rangeL hS 4 rfl 0 _ (by rw [List.drop_zero, List.take_of_length_le (Nat.le_refl _)])) Try.underlying24 rfl (by first | (rw [cw_len]; kernel_rfl) | (simp only [List.length_append, cw_len]; kernel_rfl)) ?_
      try simp only [Act.put, List.setIfInBounds_toArray, List.set_cons_zero, List.set_cons_succ]
      refine plan_arr rfl rfl rfl rfl (cw 4 R) (fun wx hS => St.rangeL hS 4 rfl 0 _ (by rw [List.drop_zero, List.take_of_length_le (Nat.le_refl _)])) Try.underlying24 rfl (by first | (rw [cw_len]; kernel_rfl) | (simp only [List.length_append, cw_len]; kernel_rfl)) ?_
      try simp only [Act.put, List.setIfInBounds_toArray, List.set_cons_zero, List.set_cons_succ]
      refine plan_arr rfl rfl rfl rfl (cw 4 a) (fun wx hS => St.rangeL hS 1 rfl 0 _ (by rw [List.drop_zero, List.take_of_length_le (Nat.le_refl _)])) Try.underlying24 rfl (by first | (rw [cw_len]; kernel_rfl) | (simp only [List.length_append, cw_len]; kernel_rfl)) ?_
      try simp only [Act.put, List.setIfInBounds_toArray, List.set_cons_zero, List.set_cons_succ]
      refine plan_r rfl rfl ?_
      go_simp
      refine (Mul_any p R R _ HP0.out HP.out HR4.out HR4.out).mono ?_
      rintro e' w13 ⟨rfl, hf13⟩
      have st13 := hd12.keep hf13
      clear hf13
      clear hd12
      refine ⟨st13, ?_⟩
      try simp only [Act.put, List.setIfInBounds_toArray, List.set_cons_zero, List.set_cons_succ]
      refine plan_m rfl rfl ?_
      refine wp_neq4 (R * R % p) a HRR.out HA.out 24 Try.underlying24 Try.eqGuardType24 rfl rfl rfl HB.out ?_
      try simp only [Act.put, List.setIfInBounds_toArray, List.set_cons_zero, List.set_cons_succ]
      refine plan_end ?_
      refine NoPanic.normal ?_
      go_wp2_with (with_reducible refine wl_stop (o := ⟨none, _, _, _, _, _⟩) ?_)
      refine wl_storeS st13 2 rfl rfl rfl rfl (cs := cw 4 0) (by rw [cw_zero]; rfl) (by first | (simp only [cw_len]; done) | (simp only [List.length_append, cw_len]; done)) (by first | (rw [cw_len]; kernel_rfl) | (simp only [List.length_append, cw_len]; kernel_rfl)) (cw_one _ _) ?_
      intro w14 st14
      clear st13
      have hr := st14.at 2 rfl
      have hfr := st14.fr
      clear st14
      go_wp2_with fail
      exact bodyPost_ret (results_arr2 rfl rfl hr Try.underlying24 (by first | (rw [cw_len]; kernel_rfl) | (simp only [List.length_append, cw_len]; kernel_rfl)) rfl) rfl ⟨rfl, hfr⟩

set_option maxHeartbeats 4000000 in
set_option maxRecDepth 100000 in
theorem FSqrt_even (p a n R : Nat) (w : World) (hp0 : 0 < p) (hp : p < B64 ^ 4) (hn : p / 4 + 1 = n) (hn4 : n < B64 ^ 4) (ha : a < B64 ^ 4) (hlow : lw (p / 4) 0 + 1 < 18446744073709551616) (hR : R < p) (hpow : ∀ wx, Calls Try.prog 101 #[fv p, i4 a, i4 n] wx fun e w' => e = .returned (i4 R) ∧ Fr Nob wx w') (hb : decide (R * R % p = a) = true) (hpar : R % 2 = 0) :
    Calls Try.prog 80 #[fv p, i4 a] w fun e w' => e = .returned (.tuple #[i4 R, .bool true]) ∧ Fr Nob w w' := by
  have HP0 := Lib.hid hp0
  have HP := Lib.hid hp
  have HN4 := Lib.hid hn4
  have HA := Lib.hid ha
  have HLOW := Lib.hid hlow
  have HPOW := Lib.hid hpow
  have HB := Lib.hid hb
  have HR4 := Lib.hid (Nat.lt_trans hR hp)
  have HRP := Lib.hid (Nat.le_of_lt hR)
  have HRR := Lib.hid (show R * R % p < B64 ^ 4 from Nat.lt_trans (Nat.mod_lt _ hp0) hp)
  have hlc := low_cells (p / 4) hlow
  rw [hn] at hlc
  have HLC := Lib.hid hlc
  have HNE := Lib.hid hn
  have HPAR := Lib.hid hpar
  clear hp0 hp hn4 ha hlow hpow hb hR hlc hn hpar
  have st0 := St.start Nob w
  go_enter Try.func80, Try.ntmps80
  go_wp2_with (with_reducible refine wl_stop (o := ⟨some 2, _, _, _, _, _⟩) ?_)
  refine wl_boxS st0 rfl rfl rfl (cw 4 p ++ cw 4 (B64 ^ 4 - p)) rfl ?_
  intro g2 w1 st1
  clear st0
  go_wp2_with (with_reducible refine wl_stop (o := ⟨some 3, _, _, _, _, _⟩) ?_)
  refine wl_boxS st1 rfl rfl rfl (cw 4 a) rfl ?_
  intro g3 w2 st2
  clear st1
  go_wp2_with (with_reducible refine wl_stop (o := ⟨some 4, _, _, _, _, _⟩) ?_)
  refine wl_allocS st2 rfl rfl (z := .agg #[.int .u64 0, .int .u64 0, .int .u64 0, .int .u64 0]) (by kernel_rfl) (cw 4 0) (by rw [cw_zero]; rfl) ?_
  intro g4 w3 st3
  clear st2
  go_wp2_with (with_reducible refine wl_stop (o := ⟨some 6, _, _, _, _, _⟩) ?_)
  refine wl_allocS st3 rfl rfl (z := .agg #[.int .u64 0, .int .u64 0, .int .u64 0, .int .u64 0]) (by kernel_rfl) (cw 4 0) (by rw [cw_zero]; rfl) ?_
  intro g6 w4 st4
  clear st3
  go_wp2
  go_loopw [7] (fun i wr => ∃ k : Nat, k ≤ 254 ∧ i = .int .i64 (k : Int) ∧ St Nob w wr [(g2, cw 4 p ++ cw 4 (B64 ^ 4 - p), 31), (g3, cw 4 a, 24), (g4, cw 4 0, 24), (g6, cw 4 (p / 4 % 2 ^ k), 24)]) (fun i _ => 254 - (intOf i).toNat)
  case atStart => exact ⟨0, by omega, rfl, by rw [Nat.pow_zero, Nat.mod_one]; exact st4⟩
  case round =>
    obtain ⟨k, hk, rfl, st⟩ := hrel
    clear st4
    by_cases hlt : k < 254
    · have hltI : (k : Int) < 254 := by omega
      have hstep := bit_step 4 (p / 4 % 2 ^ k) k (p / 2 ^ (k + 2) % 2) (Nat.mod_lt _ (Nat.pow_pos (by decide))) (Nat.mod_lt _ (by decide)) (by omega)
      rw [← quarter_step] at hstep
      have hbit := fun wx => RBit_any p (k + 2) wx (by omega)
      have hb2 : p / 2 ^ (k + 2) % 2 < 2 := Nat.mod_lt _ (by decide)
      generalize p / 2 ^ (k + 2) % 2 = b at *
      generalize hq' : p / 4 % 2 ^ (k + 1) = q' at *
      have HQ := Lib.hid hq'
      clear hq'
      generalize p / 4 % 2 ^ k = q at *
      have HCELL := Lib.hid (bit_cell q b k q' hb2 hstep)
      have HBIT := Lib.hid hbit
      clear hstep hbit hb2
      have hlo : (0 : Int) ≤ (k : Int) / 64 ∧ (k : Int) / 64 < 4 := by omega
      have hlo2 : (0 : Int) ≤ (k : Int) % 64 ∧ (k : Int) % 64 < 64 := by omega
      have e1 : IntKind.i64.wrap ((k : Int) / 64) = (k : Int) / 64 := IntWalk.i64_in _ (by omega)
      have e2 : (k : Int).tmod 64 = (k : Int) % 64 := Int.tmod_eq_emod_of_nonneg (by omega)
      have e3 : IntKind.i64.wrap ((k : Int) + 2) = (k : Int) + 2 := IntWalk.i64_in _ (by omega)
      have e4 : ((k : Int) / 64).toNat = k / 64 := by omega
      have e5 : ((k : Int) % 64).toNat = k % 64 := by omega
      go_wp2_with fail
      refine wp_region_noPanic ?_
      refine wp_region_plan (fun wx => St Nob w wx [(g2, cw 4 p ++ cw 4 (B64 ^ 4 - p), 31), (g3, cw 4 a, 24), (g4, cw 4 0, 24), (g6, cw 4 q, 24)]) 16 (.w 0 (.w 1 (.w 2 (.w 3 (.w 4 (.t 5 (.w 6 (.t 7 (.w 8 (.w 9 (.w 11 (.w 12 (.r 10 (.w 13 (.w 14 (.w 15 (.m 16 .nil))))))))))))))))) (by kernel_rfl) (by kernel_rfl) st.drew (fun _ _ _ _ _ h => h) ?_
      have hd4 := st.drew
      clear st
      refine plan_w (v := ?_) rfl rfl (fun wx => ?_) ?_
      rotate_left 1
      · (go_simp; with_reducible rfl)
      try simp only [Act.put, List.setIfInBounds_toArray, List.set_cons_zero, List.set_cons_succ]
      refine plan_w (v := ?_) rfl rfl (fun wx => ?_) ?_
      rotate_left 1
      · (go_simp; with_reducible rfl)
      try simp only [Act.put, List.setIfInBounds_toArray, List.set_cons_zero, List.set_cons_succ]
      refine plan_w (v := ?_) rfl rfl (fun wx => ?_) ?_
      rotate_left 1
      · (go_simp; with_reducible rfl)
      try simp only [Act.put, List.setIfInBounds_toArray, List.set_cons_zero, List.set_cons_succ]
      refine plan_w (v := ?_) rfl rfl (fun wx => ?_) ?_
      rotate_left 1
      · (go_simp; with_reducible rfl)
      try simp only [Act.put, List.setIfInBounds_toArray, List.set_cons_zero, List.set_cons_succ]
      refine plan_w (v := ?_) rfl rfl (fun wx => ?_) ?_
      rotate_left 1
      · (go_simp; with_reducible rfl)
      try simp only [Act.put, List.setIfInBounds_toArray, List.set_cons_zero, List.set_cons_succ]
      refine plan_t (v := ?_) rfl rfl (fun wx hS => ?_) ?_
      rotate_left 1
      · (have hc := (St.at hS 3 rfl).cell (cw_get 4 q (k / 64) (by omega)); clear hS; go_simp; with_reducible rfl)
      try simp only [Act.put, List.setIfInBounds_toArray, List.set_cons_zero, List.set_cons_succ]
      refine plan_w (v := ?_) rfl rfl (fun wx => ?_) ?_
      rotate_left 1
      · (go_simp; with_reducible rfl)
      try simp only [Act.put, List.setIfInBounds_toArray, List.set_cons_zero, List.set_cons_succ]
      refine plan_arr rfl rfl rfl rfl (cw 4 p) (fun wx hS => St.rangeL hS 0 rfl 0 _ (cw_left 4 4 _ _)) Try.underlying24 rfl (by first | (rw [cw_len]; kernel_rfl) | (simp only [List.length_append, cw_len]; kernel_rfl)) ?_
      try simp only [Act.put, List.setIfInBounds_toArray, List.set_cons_zero, List.set_cons_succ]
      refine plan_w (v := ?_) rfl rfl (fun wx => ?_) ?_
      rotate_left 1
      · (go_simp; with_reducible rfl)
      try simp only [Act.put, List.setIfInBounds_toArray, List.set_cons_zero, List.set_cons_succ]
      refine plan_w (v := ?_) rfl rfl (fun wx => ?_) ?_
      rotate_left 1
      · (go_simp; with_reducible rfl)
      try simp only [Act.put, List.setIfInBounds_toArray, List.set_cons_zero, List.set_cons_succ]
      refine plan_w (v := ?_) rfl rfl (fun wx => ?_) ?_
      rotate_left 1
      · (go_simp; with_reducible rfl)
      try simp only [Act.put, List.setIfInBounds_toArray, List.set_cons_zero, List.set_cons_succ]
      refine plan_w (v := ?_) rfl rfl (fun wx => ?_) ?_
      rotate_left 1
      · (go_simp; with_reducible rfl)
      try simp only [Act.put, List.setIfInBounds_toArray, List.set_cons_zero, List.set_cons_succ]
      refine plan_r rfl rfl ?_
      go_simp
      refine (HBIT.out _).mono ?_
      rintro e' w5 ⟨rfl, hf5⟩
      have st5 := hd4.keep hf5
      clear hf5
      clear hd4
      refine ⟨st5, ?_⟩
      try simp only [Act.put, List.setIfInBounds_toArray, List.set_cons_zero, List.set_cons_succ]
      refine plan_w (v := ?_) rfl rfl (fun wx => ?_) ?_
      rotate_left 1
      · (go_simp; with_reducible rfl)
      try simp only [Act.put, List.setIfInBounds_toArray, List.set_cons_zero, List.set_cons_succ]
      refine plan_w (v := ?_) rfl rfl (fun wx => ?_) ?_
      rotate_left 1
      · (go_simp; with_reducible rfl)
      try simp only [Act.put, List.setIfInBounds_toArray, List.set_cons_zero, List.set_cons_succ]
      refine plan_w (v := ?_) rfl rfl (fun wx => ?_) ?_
      rotate_left 1
      · (go_simp; with_reducible rfl)
      try simp only [Act.put, List.setIfInBounds_toArray, List.set_cons_zero, List.set_cons_succ]
      refine plan_m rfl rfl ?_
      have f1 := (st5.at 3 rfl).free (k / 64) (by rw [cw_len]; omega)
      have c1 := (st5.at 3 rfl).cell (cw_get 4 q (k / 64) (by omega))
      go_simp
      have st6 := st5.set 3 rfl (k / 64) (.int .u64 (bits .or .u64 (lw q (k / 64) : Nat) (IntKind.u64.wrap ((b : Int) * 2 ^ (k % 64)))))
      simp only [List.set_cons_zero, List.set_cons_succ] at st6
      rw [HCELL.out] at st6
      clear f1 c1 st5
      try simp only [Act.put, List.setIfInBounds_toArray, List.set_cons_zero, List.set_cons_succ]
      refine plan_end ?_
      refine NoPanic.normal ?_
      go_wp2
      go_roundw
      case rel => exact ⟨k + 1, by omega, by go_num, by rw [HQ.out]; exact st6⟩
      case measure => simp [intOf]; omega
    · have hge : ¬ ((k : Int) < 254) := by omega
      have hk2 : k = 254 := by omega
      rw [hk2, quarter_all p HP.out] at st
      clear hk2
      generalize p / 4 = Q at *
      have c1 := (st.at 3 rfl).cell (cw_get 4 Q 0 (by decide))
      have f1 := (st.at 3 rfl).free 0 (by rw [cw_len]; decide)
      have st9 := st.set 3 rfl 0 (.int .u64 ((lw Q 0 : Int) + 1))
      have hlow := HLOW.out
      have e1 : IntKind.u64.wrap ((lw Q 0 : Int) + 1) = (lw Q 0 : Int) + 1 := IntWalk.u64_in _ (by omega)
      clear st
      go_wp2_with (with_reducible refine wl_stop (o := ⟨some 33, _, _, _, _, _⟩) ?_)
      simp only [List.set_cons_zero, List.set_cons_succ] at st9
      rw [HLC.out] at st9
      clear c1 f1 hlow e1
      refine wl_loadSt st9 0 rfl rfl rfl Try.underlying31 rfl rfl (by first | (rw [cw_len]; kernel_rfl) | (simp only [List.length_append, cw_len]; kernel_rfl)) ?_
      go_wp2_with (with_reducible refine wl_stop (o := ⟨some 34, _, _, _, _, _⟩) ?_)
      refine wl_loadS st9 1 rfl rfl rfl Try.underlying24 rfl (by first | (rw [cw_len]; kernel_rfl) | (simp only [List.length_append, cw_len]; kernel_rfl)) ?_
      go_wp2_with (with_reducible refine wl_stop (o := ⟨some 35, _, _, _, _, _⟩) ?_)
      refine wl_loadS st9 3 rfl rfl rfl Try.underlying24 rfl (by first | (rw [cw_len]; kernel_rfl) | (simp only [List.length_append, cw_len]; kernel_rfl)) ?_
      go_wp2_with fail
      refine (HPOW.out _).mono ?_
      rintro e' w10 ⟨rfl, hf10⟩
      have st10 := st9.keep hf10
      clear st9 hf10
      go_wp2_with (with_reducible refine wl_stop (o := ⟨some 8, _, _, _, _, _⟩) ?_)
      refine wl_allocS st10 rfl rfl (z := .agg #[.int .u64 0, .int .u64 0, .int .u64 0, .int .u64 0]) (by kernel_rfl) (cw 4 0) (by rw [cw_zero]; rfl) ?_
      intro g8 w11 st11
      clear st10
      go_wp2_with (with_reducible refine wl_stop (o := ⟨none, _, _, _, _, _⟩) ?_)
      refine wl_storeS st11 4 rfl rfl rfl rfl rfl (by first | (simp only [cw_len]; done) | (simp only [List.length_append, cw_len]; done)) (by first | (rw [cw_len]; kernel_rfl) | (simp only [List.length_append, cw_len]; kernel_rfl)) (cw_one _ _) ?_
      intro w12 st12
      clear st11
      go_wp2_with fail
      refine wp_region_noPanic ?_
      refine wp_region_plan (fun wx => St Nob w wx [(g2, cw 4 p ++ cw 4 (B64 ^ 4 - p), 31), (g3, cw 4 a, 24), (g4, cw 4 0, 24), (g6, cw 4 n, 24), (g8, cw 4 R, 24)]) 5 (.t 0 (.t 1 (.t 2 (.t 4 (.r 3 (.m 5 .nil)))))) (by kernel_rfl) (by kernel_rfl) st12.drew (fun _ _ _ _ _ h => h) ?_
      have hd12 := st12.drew
      clear st12
      refine plan_arr rfl rfl rfl rfl (cw 4 p ++ cw 4 (B64 ^ 4 - p)) (fun wx hS => St.rangeL hS 0 rfl 0 _ (by rw [List.drop_zero, List.take_of_length_le (Nat.le_refl _)])) Try.underlying31 rfl (by first | (rw [cw_len]; kernel_rfl) | (simp only [List.length_append, cw_len]; kernel_rfl)) ?_
      try simp only [Act.put, List.setIfInBounds_toArray, List.set_cons_zero, List.set_cons_succ]
      refine plan_arr rfl rfl rfl rfl (cw 4 R) (fun wx hS => St.rangeL hS 4 rfl 0 _ (by rw [List.drop_zero, List.take_of_length_le (Nat.le_refl _)])) Try.underlying24 rfl (by first | (rw [cw_len]; kernel_rfl) | (simp only [List.length_append, cw_len]; kernel_rfl)) ?_
      try simp only [Act.put, List.setIfInBounds_toArray, List.set_cons_zero, List.set_cons_succ]
      refine plan_arr rfl rfl rfl rfl (cw 4 R) (fun wx hS => St.rangeL hS 4 rfl 0 _ (by rw [List.drop_zero, List.take_of_length_le (Nat.le_refl _)])) Try.underlying24 rfl (by first | (rw [cw_len]; kernel_rfl) | (simp only [List.length_append, cw_len]; kernel_rfl)) ?_
      try simp only [Act.put, List.setIfInBounds_toArray, List.set_cons_zero, List.set_cons_succ]
      refine plan_arr rfl rfl rfl rfl (cw 4 a) (fun wx hS => St.rangeL hS 1 rfl 0 _ (by rw [List.drop_zero, List.take_of_length_le (Nat.le_refl _)])) Try.underlying24 rfl (by first | (rw [cw_len]; kernel_rfl) | (simp only [List.length_append, cw_len]; kernel_rfl)) ?_
      try simp only [Act.put, List.setIfInBounds_toArray, List.set_cons_zero, List.set_cons_succ]
      refine plan_r rfl rfl ?_
      go_simp
      refine (Mul_any p R R _ HP0.out HP.out HR4.out HR4.out).mono ?_
      rintro e' w13 ⟨rfl, hf13⟩
      have st13 := hd12.keep hf13
      clear hf13
      clear hd12
      refine ⟨st13, ?_⟩
      try simp only [Act.put, List.setIfInBounds_toArray, List.set_cons_zero, List.set_cons_succ]
      refine plan_m rfl rfl ?_
      refine wp_neq4 (R * R % p) a HRR.out HA.out 24 Try.underlying24 Try.eqGuardType24 rfl rfl rfl HB.out ?_
      try simp only [Act.put, List.setIfInBounds_toArray, List.set_cons_zero, List.set_cons_succ]
      refine plan_end ?_
      refine NoPanic.normal ?_
      have c1 := (st13.at 4 rfl).cell (cw_get 4 R 0 (by decide))
      have hla := low_and R
      rw [HPAR.out] at hla
      go_wp2_with (with_reducible refine wl_stop (o := ⟨some 51, _, _, _, _, _⟩) ?_)
      refine wl_loadS st13 4 rfl rfl rfl Try.underlying24 rfl (by first | (rw [cw_len]; kernel_rfl) | (simp only [List.length_append, cw_len]; kernel_rfl)) ?_
      go_wp2_with (with_reducible refine wl_stop (o := ⟨none, _, _, _, _, _⟩) ?_)
      refine wl_storeS st13 2 rfl rfl rfl rfl rfl (by first | (simp only [cw_len]; done) | (simp only [List.length_append, cw_len]; done)) (by first | (rw [cw_len]; kernel_rfl) | (simp only [List.length_append, cw_len]; kernel_rfl)) (cw_one _ _) ?_
      intro w14 st14
      clear st13
      have hr := st14.at 2 rfl
      have hfr := st14.fr
      clear st14
      go_wp2_with fail
      exact bodyPost_ret (results_arr2 rfl rfl hr Try.underlying24 (by first | (rw [cw_len]; kernel_rfl) | (simp only [List.length_append, cw_len]; kernel_rfl)) rfl) rfl ⟨rfl, hfr⟩

set_option maxHeartbeats 4000000 in
set_option maxRecDepth 100000 in
theorem FSqrt_odd (p a n R : Nat) (w : World) (hp0 : 0 < p) (hp : p < B64 ^ 4) (hn : p / 4 + 1 = n) (hn4 : n < B64 ^ 4) (ha : a < B64 ^ 4) (hlow : lw (p / 4) 0 + 1 < 18446744073709551616) (hR : R < p) (hpow : ∀ wx, Calls Try.prog 101 #[fv p, i4 a, i4 n] wx fun e w' => e = .returned (i4 R) ∧ Fr Nob wx w') (hb : decide (R * R % p = a) = true) (hpar : R % 2 = 1) :
    Calls Try.prog 80 #[fv p, i4 a] w fun e w' => e = .returned (.tuple #[i4 ((p - R) % p), .bool true]) ∧ Fr Nob w w' := by
  have HP0 := Lib.hid hp0
  have HP := Lib.hid hp
  have HN4 := Lib.hid hn4
  have HA := Lib.hid ha
  have HLOW := Lib.hid hlow
  have HPOW := Lib.hid hpow
  have HB := Lib.hid hb
  have HR4 := Lib.hid (Nat.lt_trans hR hp)
  have HRP := Lib.hid (Nat.le_of_lt hR)
  have HRR := Lib.hid (show R * R % p < B64 ^ 4 from Nat.lt_trans (Nat.mod_lt _ hp0) hp)
  have hlc := low_cells (p / 4) hlow
  rw [hn] at hlc
  have HLC := Lib.hid hlc
  have HNE := Lib.hid hn
  have HPAR := Lib.hid hpar
  clear hp0 hp hn4 ha hlow hpow hb hR hlc hn hpar
  have st0 := St.start Nob w
  go_enter Try.func80, Try.ntmps80
  go_wp2_with (with_reducible refine wl_stop (o := ⟨some 2, _, _, _, _, _⟩) ?_)
  refine wl_boxS st0 rfl rfl rfl (cw 4 p ++ cw 4 (B64 ^ 4 - p)) rfl ?_
  intro g2 w1 st1
  clear st0
  go_wp2_with (with_reducible refine wl_stop (o := ⟨some 3, _, _, _, _, _⟩) ?_)
  refine wl_boxS st1 rfl rfl rfl (cw 4 a) rfl ?_
  intro g3 w2 st2
  clear st1
  go_wp2_with (with_reducible refine wl_stop (o := ⟨some 4, _, _, _, _, _⟩) ?_)
  refine wl_allocS st2 rfl rfl (z := .agg #[.int .u64 0, .int .u64 0, .int .u64 0, .int .u64 0]) (by kernel_rfl) (cw 4 0) (by rw [cw_zero]; rfl) ?_
  intro g4 w3 st3
  clear st2
  go_wp2_with (with_reducible refine wl_stop (o := ⟨some 6, _, _, _, _, _⟩) ?_)
  refine wl_allocS st3 rfl rfl (z := .agg #[.int .u64 0, .int .u64 0, .int .u64 0, .int .u64 0]) (by kernel_rfl) (cw 4 0) (by rw [cw_zero]; rfl) ?_
  intro g6 w4 st4
  clear st3
  go_wp2
  go_loopw [7] (fun i wr => ∃ k : Nat, k ≤ 254 ∧ i = .int .i64 (k : Int) ∧ St Nob w wr [(g2, cw 4 p ++ cw 4 (B64 ^ 4 - p), 31), (g3, cw 4 a, 24), (g4, cw 4 0, 24), (g6, cw 4 (p / 4 % 2 ^ k), 24)]) (fun i _ => 254 - (intOf i).toNat)
  case atStart => exact ⟨0, by omega, rfl, by rw [Nat.pow_zero, Nat.mod_one]; exact st4⟩
  case round =>
    obtain ⟨k, hk, rfl, st⟩ := hrel
    clear st4
    by_cases hlt : k < 254
    · have hltI : (k : Int) < 254 := by omega
      have hstep := bit_step 4 (p / 4 % 2 ^ k) k (p / 2 ^ (k + 2) % 2) (Nat.mod_lt _ (Nat.pow_pos (by decide))) (Nat.mod_lt _ (by decide)) (by omega)
      rw [← quarter_step] at hstep
      have hbit := fun wx => RBit_any p (k + 2) wx (by omega)
      have hb2 : p / 2 ^ (k + 2) % 2 < 2 := Nat.mod_lt _ (by decide)
      generalize p / 2 ^ (k + 2) % 2 = b at *
      generalize hq' : p / 4 % 2 ^ (k + 1) = q' at *
      have HQ := Lib.hid hq'
      clear hq'
      generalize p / 4 % 2 ^ k = q at *
      have HCELL := Lib.hid (bit_cell q b k q' hb2 hstep)
      have HBIT := Lib.hid hbit
      clear hstep hbit hb2
      have hlo : (0 : Int) ≤ (k : Int) / 64 ∧ (k : Int) / 64 < 4 := by omega
      have hlo2 : (0 : Int) ≤ (k : Int) % 64 ∧ (k : Int) % 64 < 64 := by omega
      have e1 : IntKind.i64.wrap ((k : Int) / 64) = (k : Int) / 64 := IntWalk.i64_in _ (by omega)
      have e2 : (k : Int).tmod 64 = (k : Int) % 64 := Int.tmod_eq_emod_of_nonneg (by omega)
      have e3 : IntKind.i64.wrap ((k : Int) + 2) = (k : Int) + 2 := IntWalk.i64_in _ (by omega)
      have e4 : ((k : Int) / 64).toNat = k / 64 := by omega
      have e5 : ((k : Int) % 64).toNat = k % 64 := by omega
      go_wp2_with fail
      refine wp_region_noPanic ?_
      refine wp_region_plan (fun wx => St Nob w wx [(g2, cw 4 p ++ cw 4 (B64 ^ 4 - p), 31), (g3, cw 4 a, 24), (g4, cw 4 0, 24), (g6, cw 4 q, 24)]) 16 (.w 0 (.w 1 (.w 2 (.w 3 (.w 4 (.t 5 (.w 6 (.t 7 (.w 8 (.w 9 (.w 11 (.w 12 (.r 10 (.w 13 (.w 14 (.w 15 (.m 16 .nil))))))))))))))))) (by kernel_rfl) (by kernel_rfl) st.drew (fun _ _ _ _ _ h => h) ?_
      have hd4 := st.drew
      clear st
      refine plan_w (v := ?_) rfl rfl (fun wx => ?_) ?_
      rotate_left 1
      · (go_simp; with_reducible rfl)
      try simp only [Act.put, List.setIfInBounds_toArray, List.set_cons_zero, List.set_cons_succ]
      refine plan_w (v := ?_) rfl rfl (fun wx => ?_) ?_
      rotate_left 1
      · (go_simp; with_reducible rfl)
      try simp only [Act.put, List.setIfInBounds_toArray, List.set_cons_zero, List.set_cons_succ]
      refine plan_w (v := ?_) rfl rfl (fun wx => ?_) ?_
      rotate_left 1
      · (go_simp; with_reducible rfl)
      try simp only [Act.put, List.setIfInBounds_toArray, List.set_cons_zero, List.set_cons_succ]
      refine plan_w (v := ?_) rfl rfl (fun wx => ?_) ?_
      rotate_left 1
      · (go_simp; with_reducible rfl)
      try simp only [Act.put, List.setIfInBounds_toArray, List.set_cons_zero, List.set_cons_succ]
      refine plan_w (v := ?_) rfl rfl (fun wx => ?_) ?_
      rotate_left 1
      · (go_simp; with_reducible rfl)
      try simp only [Act.put, List.setIfInBounds_toArray, List.set_cons_zero, List.set_cons_succ]
      refine plan_t (v := ?_) rfl rfl (fun wx hS => ?_) ?_
      rotate_left 1
      · (have hc := (St.at hS 3 rfl).cell (cw_get 4 q (k / 64) (by omega)); clear hS; go_simp; with_reducible rfl)
      try simp only [Act.put, List.setIfInBounds_toArray, List.set_cons_zero, List.set_cons_succ]
      refine plan_w (v := ?_) rfl rfl (fun wx => ?_) ?_
      rotate_left 1
      · (go_simp; with_reducible rfl)
      try simp only [Act.put, List.setIfInBounds_toArray, List.set_cons_zero, List.set_cons_succ]
      refine plan_arr rfl rfl rfl rfl (cw 4 p) (fun wx hS => St.rangeL hS 0 rfl 0 _ (cw_left 4 4 _ _)) Try.underlying24 rfl (by first | (rw [cw_len]; kernel_rfl) | (simp only [List.length_append, cw_len]; kernel_rfl)) ?_
      try simp only [Act.put, List.setIfInBounds_toArray, List.set_cons_zero, List.set_cons_succ]
      refine plan_w (v := ?_) rfl rfl (fun wx => ?_) ?_
      rotate_left 1
      · (go_simp; with_reducible rfl)
      try simp only [Act.put, List.setIfInBounds_toArray, List.set_cons_zero, List.set_cons_succ]
      refine plan_w (v := ?_) rfl rfl (fun wx => ?_) ?_
      rotate_left 1
      · (go_simp; with_reducible rfl)
      try simp only [Act.put, List.setIfInBounds_toArray, List.set_cons_zero, List.set_cons_succ]
      refine plan_w (v := ?_) rfl rfl (fun wx => ?_) ?_
      rotate_left 1
      · (go_simp; with_reducible rfl)
      try simp only [Act.put, List.setIfInBounds_toArray, List.set_cons_zero, List.set_cons_succ]
      refine plan_w (v := ?_) rfl rfl (fun wx => ?_) ?_
      rotate_left 1
      · (go_simp; with_reducible rfl)
      try simp only [Act.put, List.setIfInBounds_toArray, List.set_cons_zero, List.set_cons_succ]
      refine plan_r rfl rfl ?_
      go_simp
      refine (HBIT.out _).mono ?_
      rintro e' w5 ⟨rfl, hf5⟩
      have st5 := hd4.keep hf5
      clear hf5
      clear hd4
      refine ⟨st5, ?_⟩
      try simp only [Act.put, List.setIfInBounds_toArray, List.set_cons_zero, List.set_cons_succ]
      refine plan_w (v := ?_) rfl rfl (fun wx => ?_) ?_
      rotate_left 1
      · (go_simp; with_reducible rfl)
      try simp only [Act.put, List.setIfInBounds_toArray, List.set_cons_zero, List.set_cons_succ]
      refine plan_w (v := ?_) rfl rfl (fun wx => ?_) ?_
      rotate_left 1
      · (go_simp; with_reducible rfl)
      try simp only [Act.put, List.setIfInBounds_toArray, List.set_cons_zero, List.set_cons_succ]
      refine plan_w (v := ?_) rfl rfl (fun wx => ?_) ?_
      rotate_left 1
      · (go_simp; with_reducible rfl)
      try simp only [Act.put, List.setIfInBounds_toArray, List.set_cons_zero, List.set_cons_succ]
      refine plan_m rfl rfl ?_
      have f1 := (st5.at 3 rfl).free (k / 64) (by rw [cw_len]; omega)
      have c1 := (st5.at 3 rfl).cell (cw_get 4 q (k / 64) (by omega))
      go_simp
      have st6 := st5.set 3 rfl (k / 64) (.int .u64 (bits .or .u64 (lw q (k / 64) : Nat) (IntKind.u64.wrap ((b : Int) * 2 ^ (k % 64)))))
      simp only [List.set_cons_zero, List.set_cons_succ] at st6
      rw [HCELL.out] at st6
      clear f1 c1 st5
      try simp only [Act.put, List.setIfInBounds_toArray, List.set_cons_zero, List.set_cons_succ]
      refine plan_end ?_
      refine NoPanic.normal ?_
      go_wp2
      go_roundw
      case rel => exact ⟨k + 1, by omega, by go_num, by rw [HQ.out]; exact st6⟩
      case measure => simp [intOf]; omega
    · have hge : ¬ ((k : Int) < 254) := by omega
      have hk2 : k = 254 := by omega
      rw [hk2, quarter_all p HP.out] at st
      clear hk2
      generalize p / 4 = Q at *
      have c1 := (st.at 3 rfl).cell (cw_get 4 Q 0 (by decide))
      have f1 := (st.at 3 rfl).free 0 (by rw [cw_len]; decide)
      have st9 := st.set 3 rfl 0 (.int .u64 ((lw Q 0 : Int) + 1))
      have hlow := HLOW.out
      have e1 : IntKind.u64.wrap ((lw Q 0 : Int) + 1) = (lw Q 0 : Int) + 1 := IntWalk.u64_in _ (by omega)
      clear st
      go_wp2_with (with_reducible refine wl_stop (o := ⟨some 33, _, _, _, _, _⟩) ?_)
      simp only [List.set_cons_zero, List.set_cons_succ] at st9
      rw [HLC.out] at st9
      clear c1 f1 hlow e1
      refine wl_loadSt st9 0 rfl rfl rfl Try.underlying31 rfl rfl (by first | (rw [cw_len]; kernel_rfl) | (simp only [List.length_append, cw_len]; kernel_rfl)) ?_
      go_wp2_with (with_reducible refine wl_stop (o := ⟨some 34, _, _, _, _, _⟩) ?_)
      refine wl_loadS st9 1 rfl rfl rfl Try.underlying24 rfl (by first | (rw [cw_len]; kernel_rfl) | (simp only [List.length_append, cw_len]; kernel_rfl)) ?_
      go_wp2_with (with_reducible refine wl_stop (o := ⟨some 35, _, _, _, _, _⟩) ?_)
      refine wl_loadS st9 3 rfl rfl rfl Try.underlying24 rfl (by first | (rw [cw_len]; kernel_rfl) | (simp only [List.length_append, cw_len]; kernel_rfl)) ?_
      go_wp2_with fail
      refine (HPOW.out _).mono ?_
      rintro e' w10 ⟨rfl, hf10⟩
      have st10 := st9.keep hf10
      clear st9 hf10
      go_wp2_with (with_reducible refine wl_stop (o := ⟨some 8, _, _, _, _, _⟩) ?_)
      refine wl_allocS st10 rfl rfl (z := .agg #[.int .u64 0, .int .u64 0, .int .u64 0, .int .u64 0]) (by kernel_rfl) (cw 4 0) (by rw [cw_zero]; rfl) ?_
      intro g8 w11 st11
      clear st10
      go_wp2_with (with_reducible refine wl_stop (o := ⟨none, _, _, _, _, _⟩) ?_)
      refine wl_storeS st11 4 rfl rfl rfl rfl rfl (by first | (simp only [cw_len]; done) | (simp only [List.length_append, cw_len]; done)) (by first | (rw [cw_len]; kernel_rfl) | (simp only [List.length_append, cw_len]; kernel_rfl)) (cw_one _ _) ?_
      intro w12 st12
      clear st11
      go_wp2_with fail
      refine wp_region_noPanic ?_
      refine wp_region_plan (fun wx => St Nob w wx [(g2, cw 4 p ++ cw 4 (B64 ^ 4 - p), 31), (g3, cw 4 a, 24), (g4, cw 4 0, 24), (g6, cw 4 n, 24), (g8, cw 4 R, 24)]) 5 (.t 0 (.t 1 (.t 2 (.t 4 (.r 3 (.m 5 .nil)))))) (by kernel_rfl) (by kernel_rfl) st12.drew (fun _ _ _ _ _ h => h) ?_
      have hd12 := st12.drew
      clear st12
      refine plan_arr rfl rfl rfl rfl (cw 4 p ++ cw 4 (B64 ^ 4 - p)) (fun wx hS => St.rangeL hS 0 rfl 0 _ (by rw [List.drop_zero, List.take_of_length_le (Nat.le_refl _)])) Try.underlying31 rfl (by first | (rw [cw_len]; kernel_rfl) | (simp only [List.length_append, cw_len]; kernel_rfl)) ?_
      try simp only [Act.put, List.setIfInBounds_toArray, List.set_cons_zero, List.set_cons_succ]
      refine plan_arr rfl rfl rfl rfl (cw 4 R) (fun wx hS => St.rangeL hS 4 rfl 0 _ (by rw [List.drop_zero, List.take_of_length_le (Nat.le_refl _)])) Try.underlying24 rfl (by first | (rw [cw_len]; kernel_rfl) | (simp only [List.length_append, cw_len]; kernel_rfl)) ?_
      try simp only [Act.put, List.setIfInBounds_toArray, List.set_cons_zero, List.set_cons_succ]
      refine plan_arr rfl rfl rfl rfl (cw 4 R) (fun wx hS => St.rangeL hS 4 rfl 0 _ (by rw [List.drop_zero, List.take_of_length_le (Nat.le_refl _)])) Try.underlying24 rfl (by first | (rw [cw_len]; kernel_rfl) | (simp only [List.length_append, cw_len]; kernel_rfl)) ?_
      try simp only [Act.put, List.setIfInBounds_toArray, List.set_cons_zero, List.set_cons_succ]
      refine plan_arr rfl rfl rfl rfl (cw 4 a) (fun wx hS => St.rangeL hS 1 rfl 0 _ (by rw [List.drop_zero, List.take_of_length_le (Nat.le_refl _)])) Try.underlying24 rfl (by first | (rw [cw_len]; kernel_rfl) | (simp only [List.length_append, cw_len]; kernel_rfl)) ?_
      try simp only [Act.put, List.setIfInBounds_toArray, List.set_cons_zero, List.set_cons_succ]
      refine plan_r rfl rfl ?_
      go_simp
      refine (Mul_any p R R _ HP0.out HP.out HR4.out HR4.out).mono ?_
      rintro e' w13 ⟨rfl, hf13⟩
      have st13 := hd12.keep hf13
      clear hf13
      clear hd12
      refine ⟨st13, ?_⟩
      try simp only [Act.put, List.setIfInBounds_toArray, List.set_cons_zero, List.set_cons_succ]
      refine plan_m rfl rfl ?_
      refine wp_neq4 (R * R % p) a HRR.out HA.out 24 Try.underlying24 Try.eqGuardType24 rfl rfl rfl HB.out ?_
      try simp only [Act.put, List.setIfInBounds_toArray, List.set_cons_zero, List.set_cons_succ]
      refine plan_end ?_
      refine NoPanic.normal ?_
      have c1 := (st13.at 4 rfl).cell (cw_get 4 R 0 (by decide))
      have hla := low_and R
      rw [HPAR.out] at hla
      go_wp2_with (with_reducible refine wl_stop (o := ⟨some 48, _, _, _, _, _⟩) ?_)
      refine wl_loadSt st13 0 rfl rfl rfl Try.underlying31 rfl rfl (by first | (rw [cw_len]; kernel_rfl) | (simp only [List.length_append, cw_len]; kernel_rfl)) ?_
      go_wp2_with (with_reducible refine wl_stop (o := ⟨some 49, _, _, _, _, _⟩) ?_)
      refine wl_loadS st13 4 rfl rfl rfl Try.underlying24 rfl (by first | (rw [cw_len]; kernel_rfl) | (simp only [List.length_append, cw_len]; kernel_rfl)) ?_
      go_wp2_with fail
      refine (Neg_any p R _ HRP.out HP.out HR4.out).mono ?_
      rintro e' w14 ⟨rfl, hf14⟩
      have st14 := st13.keep hf14
      clear st13 hf14
      go_wp2_with (with_reducible refine wl_stop (o := ⟨none, _, _, _, _, _⟩) ?_)
      refine wl_storeS st14 4 rfl rfl rfl rfl rfl (by first | (simp only [cw_len]; done) | (simp only [List.length_append, cw_len]; done)) (by first | (rw [cw_len]; kernel_rfl) | (simp only [List.length_append, cw_len]; kernel_rfl)) (cw_one _ _) ?_
      intro w15 st15
      clear st14
      go_wp2_with (with_reducible refine wl_stop (o := ⟨some 51, _, _, _, _, _⟩) ?_)
      refine wl_loadS st15 4 rfl rfl rfl Try.underlying24 rfl (by first | (rw [cw_len]; kernel_rfl) | (simp only [List.length_append, cw_len]; kernel_rfl)) ?_
      go_wp2_with (with_reducible refine wl_stop (o := ⟨none, _, _, _, _, _⟩) ?_)
      refine wl_storeS st15 2 rfl rfl rfl rfl rfl (by first | (simp only [cw_len]; done) | (simp only [List.length_append, cw_len]; done)) (by first | (rw [cw_len]; kernel_rfl) | (simp only [List.length_append, cw_len]; kernel_rfl)) (cw_one _ _) ?_
      intro w16 st16
      clear st15
      have hr := st16.at 2 rfl
      have hfr := st16.fr
      clear st16
      go_wp2_with fail
      exact bodyPost_ret (results_arr2 rfl rfl hr Try.underlying24 (by first | (rw [cw_len]; kernel_rfl) | (simp only [List.length_append, cw_len]; kernel_rfl)) rfl) rfl ⟨rfl, hfr⟩
end Go.Proofs.Ytdbgddngapminaa

/- The law NumRoots. -/
namespace Go.Proofs.Ytdbgddngapminaa
open Go.RowKit Go.Mv Mvp
theorem low_k {k : Int} {m : Md} (h : KindOf k m) : lw (m.M / 4) 0 + 1 < 18446744073709551616 := by
  cases h
  · decide
  · decide
theorem FSqrt_ok (p a : Nat) (w : World) (hp1 : 1 < p) (hp : p < B64 ^ 4) (ha : a < p) (hlow : lw (p / 4) 0 + 1 < 18446744073709551616) (hr : rtOk p a = true) :
    Calls Try.prog 80 #[fv p, i4 a] w fun e w' => e = .returned (.tuple #[i4 (rtV p a % p), .bool true]) ∧ Fr Nob w w' := by
  unfold rtOk at hr
  unfold rtV
  unfold rtN at *
  have hn4 : p / 4 + 1 < B64 ^ 4 := by omega
  generalize hn : p / 4 + 1 = n at *
  have hpow := fun wx => Pow_any p a n wx hp1 hp (Nat.lt_trans ha hp) hn4
  have hR : a ^ n % p < p := Nat.mod_lt _ (by omega)
  rw [Nat.mul_mod, Nat.mod_eq_of_lt ha] at hr
  have hsame : a ^ n % p = a ^ n % p % p := (Nat.mod_mod _ _).symm
  generalize hRR : a ^ n % p = R at *
  have hb : decide (R * R % p = a) = true := by simpa using hr
  by_cases hpar : R % 2 = 1
  · rw [if_pos hpar]
    exact FSqrt_odd p a n R w (by omega) hp hn hn4 (Nat.lt_trans ha hp) hlow hR hpow hb hpar
  · rw [if_neg hpar, hRR]
    exact FSqrt_even p a n R w (by omega) hp hn hn4 (Nat.lt_trans ha hp) hlow hR hpow hb (by omega)
theorem FSqrt_bad (p a : Nat) (w : World) (hp1 : 1 < p) (hp : p < B64 ^ 4) (ha : a < p) (hlow : lw (p / 4) 0 + 1 < 18446744073709551616) (hr : rtOk p a = false) :
    Calls Try.prog 80 #[fv p, i4 a] w fun e w' => e = .returned (.tuple #[i4 0, .bool false]) ∧ Fr Nob w w' := by
  unfold rtOk at hr
  unfold rtN at *
  have hn4 : p / 4 + 1 < B64 ^ 4 := by omega
  generalize hn : p / 4 + 1 = n at *
  have hpow := fun wx => Pow_any p a n wx hp1 hp (Nat.lt_trans ha hp) hn4
  have hR : a ^ n % p < p := Nat.mod_lt _ (by omega)
  rw [Nat.mul_mod, Nat.mod_eq_of_lt ha] at hr
  generalize hRR : a ^ n % p = R at *
  have hb : decide (R * R % p = a) = false := by simpa using hr
  exact FSqrt_no p a n R w (by omega) hp hn hn4 (Nat.lt_trans ha hp) hlow hR hpow hb
attribute [local irreducible] limbs lw mix cw cSub cAdd cMul foldC valFrom beN laid be32 powm montT mstep elN mdL numB numsB rtN rtOk rtV
end Go.Proofs.Ytdbgddngapminaa

/- zn.All; sigma.Extract. -/
namespace Go.Proofs.Ytdbgddngapminaa
open Go.RowKit Go.Mv Mvp
attribute [local irreducible] limbs lw mix cw cSub cAdd cMul foldC valFrom beN laid be32 powm montT mstep elN mdL numsB numB
end Go.Proofs.Ytdbgddngapminaa

/- sigma.Extract; the reference's Scalar, Q, Extract. -/
namespace Mvp
end Mvp
namespace Go.Proofs.Ytdbgddngapminaa
open Go.RowKit Go.Mv Mvp
attribute [local irreducible] limbs lw mix cw cSub cAdd cMul foldC valFrom beN laid be32 powm montT mstep elN mdL numsB numB
theorem BParts.four {w : World} {v1 v2 v3 v4 : Value} {l1 l2 l3 l4 : List UInt8} (h1 : BPart w v1 l1) (h2 : BPart w v2 l2) (h3 : BPart w v3 l3) (h4 : BPart w v4 l4) : BParts w [v1, v2, v3, v4] [l1, l2, l3, l4] := ⟨rfl, fun i x hx => by
  match i with
  | 0 => simp at hx; subst hx; exact h1
  | 1 => simp at hx; subst hx; exact h2
  | 2 => simp at hx; subst hx; exact h3
  | 3 => simp at hx; subst hx; exact h4
  | i + 4 => simp at hx⟩

end Go.Proofs.Ytdbgddngapminaa

/- The reference's Q, Scalar, Extract. -/
namespace Go.Proofs.Ytdbgddngapminaa
open Go.RowKit Go.Mv Mvp
theorem run_eqN (x y : Nat) (hx : x < B64 ^ 4) (hy : y < B64 ^ 4) (w : World) : (Op.equal 24 (.agg (cw 4 x).toArray) (.agg (cw 4 y).toArray)).run Try.prog w = .ok (x == y) w := by
  have h := run_eq4 (P := Try.prog) Try.underlying24 Try.underlying22 size_u64 x y w
  rw [Nat.mod_eq_of_lt hx, Nat.mod_eq_of_lt hy] at h
  rw [h]
  congr 1
attribute [local irreducible] limbs lw mix cw cSub cAdd cMul foldC valFrom beN laid be32 powm montT mstep elN mdL numsB numB
set_option maxHeartbeats 16000000 in
set_option maxRecDepth 1000000 in
theorem Q_any (m : Md) (hk : KindOf 1 m) (w : World) :
    Calls Try.prog 10 #[] w fun e w' => e = .returned (fv m.M) ∧ Fr Nob w w' := by
  have HK := Lib.hid hk
  have HOK := Lib.hid hk.ok
  clear hk
  have st0 := St.start Nob w
  go_enter Try.func10, Try.ntmps10
  go_wp2_with (with_reducible refine wl_stop (o := ⟨some 0, _, _, _, _, _⟩) ?_)
  refine wl_allocS st0 rfl rfl (z := .agg #[.int .u64 0, .int .u64 0, .int .u64 0, .int .u64 0, .int .u64 0, .int .u64 0, .int .u64 0, .int .u64 0]) (by kernel_rfl) (cw 8 0) (by rw [cw_zero]; rfl) ?_
  intro g0 w1 st1
  clear st0
  go_wp2_with fail
  refine (MakeK HK.out _).mono ?_
  rintro e' w2 ⟨rfl, hf2⟩
  have st2 := st1.keep hf2
  clear st1 hf2
  go_wp2_with (with_reducible refine wl_stop (o := ⟨none, _, _, _, _, _⟩) ?_)
  refine wl_storeS st2 0 rfl rfl rfl rfl rfl (by first | (simp only [cw_len]; done) | (simp only [List.length_append, cw_len]; done)) (by first | (rw [cw_len]; kernel_rfl) | (simp only [List.length_append, cw_len]; kernel_rfl)) (cw2_one _ _ _ _) ?_
  intro w3 st3
  clear st2
  have hr := st3.at 0 rfl
  have hfr := st3.fr
  clear st3
  go_wp2_with fail
  exact bodyPost_ret (results_st rfl rfl hr Try.underlying31 rfl (by first | (rw [cw_len]; kernel_rfl) | (simp only [List.length_append, cw_len]; kernel_rfl))) rfl ⟨rfl, hfr⟩

set_option maxHeartbeats 16000000 in
set_option maxRecDepth 1000000 in
theorem Scalar_t (m : Md) (hk : KindOf 1 m) (s : ByteArray) (w : World) (ha : numB m s.data.toList = true) :
    Calls Try.prog 71 #[.string s] w fun e w' => e = .returned (.tuple #[i4 (beN s.data.toList), .bool true]) ∧ Fr Nob w w' := by
  have HK := Lib.hid hk
  have HOK := Lib.hid hk.ok
  clear hk
  have HA := Lib.hid ha
  clear ha
  have st0 := St.start Nob w
  go_enter Try.func71, Try.ntmps71
  go_wp2_with (with_reducible refine wl_stop (o := ⟨some 2, _, _, _, _, _⟩) ?_)
  refine wl_allocS st0 rfl rfl (z := .agg #[.int .u64 0, .int .u64 0, .int .u64 0, .int .u64 0]) (by kernel_rfl) (cw 4 0) (by rw [cw_zero]; rfl) ?_
  intro g2 w1 st1
  clear st0
  go_wp2_with fail
  refine (Q_any m HK.out _).mono ?_
  rintro e' w2 ⟨rfl, hf2⟩
  have st2 := st1.keep hf2
  clear st1 hf2
  go_wp2_with fail
  refine (Number_t m HOK.out.lt s _ HA.out).mono ?_
  rintro e' w3 ⟨rfl, hf3⟩
  have st3 := st2.keep hf3
  clear st2 hf3
  go_wp2_with (with_reducible refine wl_stop (o := ⟨none, _, _, _, _, _⟩) ?_)
  refine wl_storeS st3 0 rfl rfl rfl rfl rfl (by first | (simp only [cw_len]; done) | (simp only [List.length_append, cw_len]; done)) (by first | (rw [cw_len]; kernel_rfl) | (simp only [List.length_append, cw_len]; kernel_rfl)) (cw_one _ _) ?_
  intro w4 st4
  clear st3
  have hr := st4.at 0 rfl
  have hfr := st4.fr
  clear st4
  go_wp2_with fail
  exact bodyPost_ret (results_arr2 rfl rfl hr Try.underlying24 (by first | (rw [cw_len]; kernel_rfl) | (simp only [List.length_append, cw_len]; kernel_rfl)) rfl) rfl ⟨rfl, hfr⟩

set_option maxHeartbeats 16000000 in
set_option maxRecDepth 1000000 in
theorem Scalar_f (m : Md) (hk : KindOf 1 m) (s : ByteArray) (w : World) (ha : numB m s.data.toList = false) :
    Calls Try.prog 71 #[.string s] w fun e w' => ∃ N, e = .returned (.tuple #[i4 N, .bool false]) ∧ Fr Nob w w' := by
  have HK := Lib.hid hk
  have HOK := Lib.hid hk.ok
  clear hk
  have HA := Lib.hid ha
  clear ha
  have st0 := St.start Nob w
  go_enter Try.func71, Try.ntmps71
  go_wp2_with (with_reducible refine wl_stop (o := ⟨some 2, _, _, _, _, _⟩) ?_)
  refine wl_allocS st0 rfl rfl (z := .agg #[.int .u64 0, .int .u64 0, .int .u64 0, .int .u64 0]) (by kernel_rfl) (cw 4 0) (by rw [cw_zero]; rfl) ?_
  intro g2 w1 st1
  clear st0
  go_wp2_with fail
  refine (Q_any m HK.out _).mono ?_
  rintro e' w2 ⟨rfl, hf2⟩
  have st2 := st1.keep hf2
  clear st1 hf2
  go_wp2_with fail
  refine (Number_f m HOK.out.lt s _ HA.out).mono ?_
  rintro e' w3 ⟨NA, rfl, hf3⟩
  have st3 := st2.keep hf3
  clear st2 hf3
  go_wp2_with (with_reducible refine wl_stop (o := ⟨none, _, _, _, _, _⟩) ?_)
  refine wl_storeS st3 0 rfl rfl rfl rfl rfl (by first | (simp only [cw_len]; done) | (simp only [List.length_append, cw_len]; done)) (by first | (rw [cw_len]; kernel_rfl) | (simp only [List.length_append, cw_len]; kernel_rfl)) (cw_one _ _) ?_
  intro w4 st4
  clear st3
  have hr := st4.at 0 rfl
  have hfr := st4.fr
  clear st4
  go_wp2_with fail
  exact bodyPost_ret (results_arr2 rfl rfl hr Try.underlying24 (by first | (rw [cw_len]; kernel_rfl) | (simp only [List.length_append, cw_len]; kernel_rfl)) rfl) rfl ⟨_, rfl, hfr⟩

theorem Sub_v (p a b r : Nat) (w : World) (hp0 : 0 < p) (hp : p < B64 ^ 4) (ha : a < B64 ^ 4) (hb : b < B64 ^ 4) (hbp : b ≤ p) (hr : (a + (p - b)) % p = r) :
    Calls Try.prog 58 #[fv p, i4 a, i4 b] w fun e w' => e = .returned (i4 r) ∧ Fr Nob w w' := by
  refine (Sub_any p a b w hp0 hp ha hb hbp).mono fun e w' h => ?_
  rw [Nat.add_mod_mod, hr] at h
  exact h
theorem Inv_v (p a r : Nat) (w : World) (hp1 : 1 < p) (hp : p < B64 ^ 4) (ha : a < B64 ^ 4) (hr : a ^ (p - 2) % p = r) :
    Calls Try.prog 53 #[fv p, i4 a] w fun e w' => e = .returned (i4 r) ∧ Fr Nob w w' := by
  subst hr; exact Inv_any p a w hp1 hp ha
end Go.Proofs.Ytdbgddngapminaa

/- The reference's numbers modulo Prime, told by their classes. -/
namespace Go.Proofs.Ytdbgddngapminaa
open Go.RowKit Go.Mv Mvp Mvq
/-- the least number of a class -/
def kN (a : K) : Nat := a.val
theorem mPM : mP.M = fP := pP_fP
theorem kN_lt (a : K) : kN a < mP.M := by rw [mPM]; exact a.isLt
theorem kN_lt4 (a : K) : kN a < B64 ^ 4 := Nat.lt_trans (kN_lt a) mP_ok.lt
theorem kN_kc (n : Nat) : kN (kc n) = n % fP := rfl
theorem kc_kN (a : K) : kc (kN a) = a := by
  apply Fin.ext
  show a.val % fP = a.val
  exact Nat.mod_eq_of_lt a.isLt
theorem kN_inj {a b : K} (h : kN a = kN b) : a = b := Fin.ext h
theorem hK0 : KindOf 0 mP := .zero
theorem RF_any (w : World) : Calls Try.prog 36 #[] w fun e w' => e = .returned (fv mP.M) ∧ Fr Nob w w' := by
  go_enter Try.func36, Try.ntmps36
  have st0 := St.start Nob w
  go_wp2_with (with_reducible refine wl_stop (o := ⟨some 0, _, _, _, _, _⟩) ?_)
  refine wl_allocS st0 rfl rfl (z := .agg #[.int .u64 0, .int .u64 0, .int .u64 0, .int .u64 0, .int .u64 0, .int .u64 0, .int .u64 0, .int .u64 0]) (by kernel_rfl) (cw 8 0) (by rw [cw_zero]; rfl) ?_
  intro g0 w1 st1
  clear st0
  go_wp2_with fail
  refine (MakeK hK0 _).mono ?_
  rintro e' w2 ⟨rfl, hf2⟩
  have st2 := st1.keep hf2
  clear st1 hf2
  go_wp2_with (with_reducible refine wl_stop (o := ⟨none, _, _, _, _, _⟩) ?_)
  refine wl_storeS st2 0 rfl rfl rfl rfl (cs := cw 4 mP.M ++ cw 4 (B64 ^ 4 - mP.M)) rfl (by first | (simp only [cw_len]; done) | (simp only [List.length_append, cw_len]; done)) (by first | (rw [cw_len]; kernel_rfl) | (simp only [List.length_append, cw_len]; kernel_rfl)) (cw2_one _ _ _ _) ?_
  intro w3 st3
  clear st2
  have hr := st3.at 0 rfl
  have hfr := st3.fr
  clear st3
  go_wp2_with fail
  exact bodyPost_ret (results_st rfl rfl hr Try.underlying31 rfl (by first | (rw [cw_len]; kernel_rfl) | (simp only [List.length_append, cw_len]; kernel_rfl))) rfl ⟨rfl, hfr⟩
theorem KMul (a b r : K) (hr : a * b = r) (w : World) : Calls Try.prog 54 #[fv mP.M, i4 (kN a), i4 (kN b)] w fun e w' => e = .returned (i4 (kN r)) ∧ Fr Nob w w' := by
  have h := Mul_any mP.M (kN a) (kN b) w (by have := mP_ok.one; omega) mP_ok.lt (kN_lt4 a) (kN_lt4 b)
  have e : kN a * kN b % mP.M = kN r := by rw [mPM, ← kN_kc, kc_mul', kc_kN, kc_kN, hr]
  rwa [e] at h
theorem KAdd (a b r : K) (hr : a + b = r) (w : World) : Calls Try.prog 59 #[fv mP.M, i4 (kN a), i4 (kN b)] w fun e w' => e = .returned (i4 (kN r)) ∧ Fr Nob w w' := by
  have h := Add_any mP.M (kN a) (kN b) w (by have := mP_ok.one; omega) mP_ok.lt (kN_lt4 a) (kN_lt4 b)
  have e : (kN a + kN b) % mP.M = kN r := by rw [mPM, ← kN_kc, kc_addn, kc_kN, kc_kN, hr]
  rwa [e] at h
theorem KSub (a b r : K) (hr : a - b = r) (w : World) : Calls Try.prog 58 #[fv mP.M, i4 (kN a), i4 (kN b)] w fun e w' => e = .returned (i4 (kN r)) ∧ Fr Nob w w' := by
  have hb := Nat.mod_eq_of_lt (kN_lt b)
  refine Sub_v mP.M (kN a) (kN b) (kN r) w (by have := mP_ok.one; omega) mP_ok.lt (kN_lt4 a) (kN_lt4 b) (Nat.le_of_lt (kN_lt b)) ?_
  rw [← hb, mPM, ← kN_kc, kc_subn, kc_kN, kc_kN, hr]
theorem KNeg (a r : K) (hr : -a = r) (w : World) : Calls Try.prog 51 #[fv mP.M, i4 (kN a)] w fun e w' => e = .returned (i4 (kN r)) ∧ Fr Nob w w' := by
  have h := Neg_any mP.M (kN a) w (Nat.le_of_lt (kN_lt a)) mP_ok.lt (kN_lt4 a)
  have hb := Nat.mod_eq_of_lt (kN_lt a)
  have e : (mP.M - kN a) % mP.M = kN r := by
    rw [← hb, mPM, ← kN_kc, kc_negn, kc_kN, hr]
  rwa [e] at h
theorem KInv (a r : K) (hr : kinv a = r) (w : World) : Calls Try.prog 53 #[fv mP.M, i4 (kN a)] w fun e w' => e = .returned (i4 (kN r)) ∧ Fr Nob w w' := by
  refine Inv_v mP.M (kN a) (kN r) w mP_ok.one mP_ok.lt (kN_lt4 a) ?_
  rw [← hr, mPM]
  unfold kinv
  rw [kN_kc]
  unfold kN
  generalize fP - 2 = z
  rfl
theorem KZero (a : K) (b : Bool) (hb : decide (a = 0) = b) (w : World) : Calls Try.prog 56 #[i4 (kN a)] w fun e w' => e = .returned (.bool b) ∧ Fr Nob w w' := by
  have h := Zero_any (kN a) w (kN_lt4 a)
  have e : decide (kN a = 0) = b := by
    rw [← hb, Bool.eq_iff_iff, decide_eq_true_eq, decide_eq_true_eq]
    exact ⟨fun h => kN_inj (h.trans rfl), fun h => by rw [h]; rfl⟩
  rwa [e] at h
theorem KSmall1 (w : World) : Calls Try.prog 79 #[.int .u64 1] w fun e w' => e = .returned (i4 (kN 1)) ∧ Fr Nob w w' := Small_any 1 w (by decide)
theorem KSmall7 (w : World) : Calls Try.prog 79 #[.int .u64 7] w fun e w' => e = .returned (i4 (kN 7)) ∧ Fr Nob w w' := Small_any 7 w (by decide)
theorem run_eqK (x y : K) {b : Bool} (hb : decide (x = y) = b) (w : World) : (Op.equal 24 (.agg (cw 4 (kN x)).toArray) (.agg (cw 4 (kN y)).toArray)).run Try.prog w = .ok b w := by
  rw [run_eqN (kN x) (kN y) (kN_lt4 x) (kN_lt4 y) w]
  congr 1
  rw [← hb, Bool.eq_iff_iff, beq_iff_eq, decide_eq_true_eq]
  exact ⟨kN_inj, fun h => by rw [h]⟩
theorem exec_eqlK (x y : K) {o : Oper} {a : Act} {p q : Operand} {T : TypeId} (ho : o.op = .binOp .eql 24 p q T) (hp : a.eval p = i4 (kN x)) (hq : a.eval q = i4 (kN y)) {b : Bool} (hb : decide (x = y) = b) (w : World) :
    (execOp a.eval o).run Try.prog w = .ok (.value (.bool b)) w :=
  exec_binop ho hp hq w (run_eqGuard_agg w .eql 24 p q _ _ Try.eqGuardType24) (eql_of_equal w (run_eqK x y hb w))
theorem KSqrt_t (n : Nat) (hn : n < mP.M) (hr : rtOk fP n = true) (w : World) : Calls Try.prog 80 #[fv mP.M, i4 n] w fun e w' => e = .returned (.tuple #[i4 (kN (kc (rtV fP n))), .bool true]) ∧ Fr Nob w w' := by
  have h := FSqrt_ok mP.M n w mP_ok.one mP_ok.lt hn (low_k hK0) (by rw [mPM]; exact hr)
  rw [mPM, ← kN_kc, ← mPM] at h
  exact h
theorem KSqrt_f (n : Nat) (hn : n < mP.M) (hr : rtOk fP n = false) (w : World) : Calls Try.prog 80 #[fv mP.M, i4 n] w fun e w' => e = .returned (.tuple #[i4 (kN 0), .bool false]) ∧ Fr Nob w w' :=
  FSqrt_bad mP.M n w mP_ok.one mP_ok.lt hn (low_k hK0) (by rw [mPM]; exact hr)
end Go.Proofs.Ytdbgddngapminaa
