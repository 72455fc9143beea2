/- ; ; ; ; ; ; ; ; . -/
import Derived.Test.YtemcankmggmgoaaGreatMgSigmaBatchesProof7
import Derived.Test.YtemcankmggmgoaaGreatMgSigmaBatchesProof4
import Derived.Test.YtemcankmggmgoaaGreatMgSigmaBatchesProof3
import Derived.Test.YtemcankmggmgoaaGreatMgSigmaBatchesProof5
import Derived.Test.YtemcankmggmgoaaGreatMgSigmaBatchesProof6
import Derived.Test.YtemcankmggmgoaaGreatMgSigmaBatchesProof1
set_option maxHeartbeats 16000000
set_option maxRecDepth 1000000
open Go.Proofs.Tryz

namespace Go.Mv
open Go.RowKit
variable {P : Program} {ops : Array Oper} {a : Act} {w : World} {rest : List Oper} {Q : Exit → Act → World → Prop} {o : Oper}
theorem a0f (v : Value) (sz m : Nat) (h : 0 < sz) : (madeCells (List.replicate sz v).toArray m).toList = List.replicate m v := by
 apply List.ext_getElem?
 intro j
 by_cases hj : j < m
 ·have : j % sz < sz := Nat.mod_lt _ h
  simp [madeCells, hj, this]
 ·simp [madeCells, hj]
theorem a0g {l c : Operand} {t : TypeId} (hgd : o.guard = none) (ho : o.op = .makeSlice t l c) {e : TypeId} {z v : Value} {sz by_ : Nat} (ht : P.underlying t = some (.slice e))
  (hi0 : (P.info? e).map (fun i => (i.zero, i.size, i.bytes)) = some (some z, sz, by_)) (hzc : z.cells = (List.replicate sz v).toArray) (hsz : 0 < sz) {kl kc : IntKind} {x y : Int} (hl : a.eval l = .int kl x) (hc : a.eval c = .int kc y) (n m : Nat) (hx : x = n) (hy : y = m) (hnm : n ≤ m)
  (hb : by_ * m ≤ 281474976710656) (h63 : m ≤ maxLen)
  (h : ∀ w', Has w' w.heap.size (List.replicate (m * sz) v) e → Fr Nob w w' → wpList P ops Q rest (a.put o.dst (.slice (some ⟨w.heap.size, 0, none⟩) n m)) w') : wpList P ops Q (o :: rest) a w := by
 refine wpList_plain hgd fun K hK => ?_
 obtain ⟨i, hi, hz0⟩ : ∃ i, P.info? e = some i ∧ (i.zero, i.size, i.bytes) = (some z, sz, by_) := by simpa using hi0
 simp only [Prod.mk.injEq] at hz0
 obtain ⟨hz, hsize, hby⟩ := hz0
 subst hx
 subst hy
 have hmx : (m : Int) ≤ 9223372036854775807 := by simp only [maxLen] at h63; omega
 have hbb : (i.bytes : Int) * (m : Int) ≤ 281474976710656 := by
  have k : ((i.bytes * m : Nat) : Int) ≤ 281474976710656 := by rw [hby]; omega
  rwa [Int.natCast_mul] at k
 have hr := run_make (P := P) w t e i z ht hi hz kl kc n m Ab Ab hbb hmx
 simp only [Int.toNat_natCast, hsize] at hr
 unfold Oper.wp execOp
 simp only [ho, hl, hc, Sem.run_bind, Sem.run_pure, Result.andThen_ok, hr]
 refine hK _ _ (h _ ?_ ((Fr.refl _ w).alloc _))
 have := Has.new w (madeCells z.cells (m * sz)) e
 rw [hzc] at this ⊢
 rwa [a0f v sz _ hsz] at this
end Go.Mv
namespace Go.Proofs.YtemcankmggmgoaaGreat
open Go.RowKit Go.Mv Mvp Mvq
theorem vG : (prog.info? 147).map (fun i => (i.zero, i.size, i.bytes)) = some (some (.agg (List.replicate 196 (.int .u64 0)).toArray), 196, 1568) := by kernel_rfl
def aK (ls : List (List UInt8)) (k : Nat) : Nat → Nat := fun i => if i < k then beN (ls.getD i []) else 0
theorem d0s (n : Nat) (ls : List (List UInt8)) : List.replicate (n * 196) (Value.int .u64 0) = tmF n (aK ls 0) (fun _ => cw 192 0) := by
 rw [l0V]
 exact mW _ _ _ _ _ fun i _ => ⟨by unfold aK; rw [if_neg (Nat.not_lt_zero _)], rfl⟩
theorem j0m (n : Nat) (ls : List (List UInt8)) (k : Nat) (l : List UInt8) (hl : ls.getD k [] = l) (h : k < n) : splice (tmF n (aK ls k) (fun _ => cw 192 0)) (k * 196) (cw 4 (beN l)) = tmF n (aK ls (k + 1)) (fun _ => cw 192 0) := by
 subst hl
 rw [l0T n _ _ (fun _ => aT _ _) k _ h]
 refine mW _ _ _ _ _ fun i _ => ⟨?_, rfl⟩
 unfold upN aK
 by_cases e : i = k
 ·rw [if_pos e, if_pos Ab, e]
 ·rw [if_neg e]
  by_cases e2 : i < k
  ·rw [if_pos e2, if_pos Ab]
  ·rw [if_neg e2, if_neg Ab]
theorem a0h (n : Nat) (a : Nat → Nat) : (tmF n a (fun _ => cw 192 0)).length = n * 196 := j0k n a _ (fun _ => aT _ _)
attribute [local irreducible] bI lw mix cw cT dG cS bQ aO beN dO cI dI bM bT elN mdL cL rtN rtV dW gXn gYn PT.L a0A zU nK tbL tmR tmL dbN sK rL uY dig rdT dM fD ptL mA gY cK tmF tkT c0r aK
theorem _root_.Bq {p : Prop} (h : p := by have := HN.out; omega) : p := h
theorem r0t (al : Option Addr) (n cl : Nat) (vs : List Value) (ln : List (List UInt8)) (bl : Option Addr) (dl : Nat) (us : List Value) (lp : List (List UInt8)) (w : World) (hv : Rd w al n vs) (hp : BParts w vs ln) (hu : Rd w bl n us) (hq : BParts w us lp) (hn : n ≤ 512) (hg : dE mQ ln = true) (hr : gY lp = true) :
  Calls prog 132 #[.slice al n cl, .slice bl n dl] w fun e w' => ∃ sv, e = .returned (.tuple #[sv, .int .i64 0]) ∧ Own w' w.heap.size 5 1 sv 33 (bs (cK (uY (c0r (aK ln n) lp)).pt)) ∧ Fr Nob w w' := by
 have HV := qH hv
 have HP := qH hp
 have HU := qH hu
 have HQ := qH hq
 have HL := qH (show ln.length = n by rw [← hp.1, hv.len])
 have HL2 := qH (show lp.length = n by rw [← hq.1, hu.len])
 have HN := qH hn
 have hnI : ¬ ((512 : Int) < (n : Int)) := by omega
 clear hv hp hu hq
 have HGA := qH hg
 have HRA := qH hr
 clear hg hr hn
 have st0 := St.start Nob w
 go_enter func132, ntmps132
 go_wp2_with (with_reducible refine AA 23 ?_)
 refine a0g rfl rfl underlying199 vG rfl Ac rfl rfl n n rfl rfl (Nat.le_refl _) Bq (by have := HN.out; unfold maxLen; omega) ?_
 intro w1 hm hf
 rw [d0s n ln] at hm
 have st1 := st0.new hf hm (Nat.le_refl _)
 have hle : w.heap.size ≤ w.heap.size := Nat.le_refl _
 generalize hgT : w.heap.size = gT at st1 hle hm ⊢
 have HGS := qH hgT
 clear hgT hle hm hf st0
 go_wp2_with (with_reducible refine AA 6 ?_)
 refine aA st1 rfl rfl (z := .slice none 0 0) Aa [.slice none 0 0] rfl ?_
 intro gb w2 st2
 clear st1
 obtain ⟨v6, c6, f6⟩ := (st2.at 1 rfl).ready (i := 0) Ac
 have st3 := st2.set 1 rfl 0 (.slice (some ⟨gT, 0, none⟩) n n)
 have st3 : St Nob w (w2.setCell ⟨gb, 0, none⟩ (.slice (some ⟨gT, 0, none⟩) n n)) [(gT, tmF n (aK ln (0)) (fun _ => cw 192 0), 147), (gb, [Value.slice (some ⟨gT, 0, none⟩) n n], 199)] := st3
 have ST3 := qH st3
 clear st2 st3
 go_wp2
 try clear c6 f6
 go_loopw [26] (fun i wr => ∃ k : Nat, k ≤ n ∧ i = .int .i64 (k : Int) ∧ dE mQ (ln.take k) = true ∧ St Nob w wr [(gT, tmF n (aK ln (k)) (fun _ => cw 192 0), 147), (gb, [Value.slice (some ⟨gT, 0, none⟩) n n], 199)]) (fun i _ => n - (intOf i).toNat)
 case atStart => exact ⟨0, Nat.zero_le _, rfl, by rw [List.take_zero]; unfold dE; rfl, ST3.out⟩
 case round =>
  obtain ⟨k, hk, rfl, hgood, st⟩ := hrel
  clear ST3
  by_cases hlt : k < n
  ·have hltI : (k : Int) < (n : Int) := by omega
   have hk0 : (0 : Int) ≤ (k : Int) := by omega
   have hf := st.fr
   obtain ⟨b, o, rfl, hat⟩ := (HV.out.still hf).at Ab
   have hvl : k < vs.length := by rw [HV.out.len]; exact hlt
   obtain ⟨a, nn, c, hve, hcc, hrd⟩ := HP.out.2 k (vs[k]'hvl) (List.getElem?_eq_getElem hvl)
   have hc1 := hat k _ (List.getElem?_eq_getElem hvl)
   rw [hve] at hc1
   have hlk : k < ln.length := by rw [HL.out]; exact hlt
   have hts := qP mQ ln k hlk
   have hbad := uH mQ ln k hlk
   generalize hLk : ln.getD k [] = l at *
   have HLL := qH hLk
   have HRD := qH (hrd.still hf)
   have HTS := qH hts
   have HBAD := qH hbad
   have HG := qH hgood
   have HLT := qH hlt
   clear hLk hrd hts hbad hgood hf hat hve hcc hlt hk
   have HK := qH (show cL mQ l = true by
    cases hh : cL mQ l
    ·have := HBAD.out hh
     rw [HGA.out] at this
     cases this
    ·rfl)
   go_wp2_with fail
   refine (pW HK.out a nn c _ (HRD.out)).mono ?_
   rintro e' w3 ⟨rfl, hf3⟩
   have st3 := st.keep hf3
   clear st hf3
   go_wp2_with (with_reducible refine AA 9 ?_)
   refine aA st3 rfl rfl (z := zAd) Aa (cw 4 0) Af ?_
   intro g9 w4 st4
   clear st3
   go_wp2_with (with_reducible refine AB ?_)
   refine aB st4 2 rfl rfl rfl rfl rfl Ar Ap (aF _ _) ?_
   intro w5 st5
   clear st4
   have hc6 := (st5.at 1 rfl).cell (show [Value.slice (some ⟨gT, 0, none⟩) n n][0]? = _ from rfl)
   go_wp2_with (with_reducible refine AA 40 ?_)
   refine aI st5 2 rfl rfl rfl underlying111 rfl Ap ?_
   go_wp2_with (with_reducible refine AB ?_)
   refine pT st5 0 rfl rfl rfl rfl rfl (tmF n (aK ln (k + 1)) (fun _ => cw 192 0)) (j0m n ln k l HLL.out HLT.out) (by rw [a0h, aT]; have := HLT.out; omega) Ap (aF _ _) ?_
   intro w6 st6
   clear st5 hc6
   go_wp2_with fail
   go_roundw
   case rel => exact ⟨k + 1, by have := HLT.out; omega, by go_num, by rw [HTS.out, HG.out, HK.out]; rfl, St.less st6 Ae⟩
   case measure => have := HLT.out; simp [intOf]; omega
  ·have hge : ¬ ((k : Int) < (n : Int)) := by omega
   have hkn : k = n := by omega
   rw [hkn] at hgood st
   rw [List.take_of_length_le Bz] at hgood
   have hgl := (st.at 0 rfl).lt
   have HHT := qH (st.at 0 rfl)
   have HHB := qH (st.at 1 rfl)
   have HNE := qH (show gb ≠ gT from st.neAt (i := 1) (j := 0) rfl rfl Ac)
   have HF := qH st.fr
   clear hkn hgood st hgl
   go_wp2_with fail
   refine (d0r gb bl n dl us lp _ (HU.out.still HF.out) (HQ.out.still HF.out) Bq HRA.out gT _ HHT.out (uY (c0r (aK ln n) lp)) (fun ap cp wx hfx hoff hrd => by rw [HL2.out]; exact r0s n (aK ln n) lp HL2.out Bq gb gT wx HNE.out (HHB.out.keep hfx id) (HHT.out.keep hfx id) ap cp hoff hrd)).mono ?_
   rintro e wE ⟨sv, rfl, hown, hfE⟩
   have ho := hown.mono HF.out.size
   have hfr := HF.out.new hfE (by rw [HGS.out]; exact Nat.le_refl _)
   clear hown hfE HF HHT HHB
   go_wp2_with fail
   go_ret2
   exact ⟨sv, rfl, ho, hfr⟩
theorem l0Y (al : Option Addr) (n cl : Nat) (vs : List Value) (ln : List (List UInt8)) (bl : Option Addr) (dl : Nat) (us : List Value) (lp : List (List UInt8)) (w : World) (hv : Rd w al n vs) (hp : BParts w vs ln) (hu : Rd w bl n us) (hq : BParts w us lp) (hn : n ≤ 512) (hg : dE mQ ln = true) (hr : gY lp = false) :
  Calls prog 132 #[.slice al n cl, .slice bl n dl] w fun e w' => e = .returned (.tuple #[.slice none 0 0, .int .i64 4]) ∧ Fr Nob w w' := by
 have HV := qH hv
 have HP := qH hp
 have HU := qH hu
 have HQ := qH hq
 have HL := qH (show ln.length = n by rw [← hp.1, hv.len])
 have HL2 := qH (show lp.length = n by rw [← hq.1, hu.len])
 have HN := qH hn
 have hnI : ¬ ((512 : Int) < (n : Int)) := by omega
 clear hv hp hu hq
 have HGA := qH hg
 have HRA := qH hr
 clear hg hr hn
 have st0 := St.start Nob w
 go_enter func132, ntmps132
 go_wp2_with (with_reducible refine AA 23 ?_)
 refine a0g rfl rfl underlying199 vG rfl Ac rfl rfl n n rfl rfl (Nat.le_refl _) Bq (by have := HN.out; unfold maxLen; omega) ?_
 intro w1 hm hf
 rw [d0s n ln] at hm
 have st1 := st0.new hf hm (Nat.le_refl _)
 have hle : w.heap.size ≤ w.heap.size := Nat.le_refl _
 generalize hgT : w.heap.size = gT at st1 hle hm ⊢
 have HGS := qH hgT
 clear hgT hle hm hf st0
 go_wp2_with (with_reducible refine AA 6 ?_)
 refine aA st1 rfl rfl (z := .slice none 0 0) Aa [.slice none 0 0] rfl ?_
 intro gb w2 st2
 clear st1
 obtain ⟨v6, c6, f6⟩ := (st2.at 1 rfl).ready (i := 0) Ac
 have st3 := st2.set 1 rfl 0 (.slice (some ⟨gT, 0, none⟩) n n)
 have st3 : St Nob w (w2.setCell ⟨gb, 0, none⟩ (.slice (some ⟨gT, 0, none⟩) n n)) [(gT, tmF n (aK ln (0)) (fun _ => cw 192 0), 147), (gb, [Value.slice (some ⟨gT, 0, none⟩) n n], 199)] := st3
 have ST3 := qH st3
 clear st2 st3
 go_wp2
 try clear c6 f6
 go_loopw [26] (fun i wr => ∃ k : Nat, k ≤ n ∧ i = .int .i64 (k : Int) ∧ dE mQ (ln.take k) = true ∧ St Nob w wr [(gT, tmF n (aK ln (k)) (fun _ => cw 192 0), 147), (gb, [Value.slice (some ⟨gT, 0, none⟩) n n], 199)]) (fun i _ => n - (intOf i).toNat)
 case atStart => exact ⟨0, Nat.zero_le _, rfl, by rw [List.take_zero]; unfold dE; rfl, ST3.out⟩
 case round =>
  obtain ⟨k, hk, rfl, hgood, st⟩ := hrel
  clear ST3
  by_cases hlt : k < n
  ·have hltI : (k : Int) < (n : Int) := by omega
   have hk0 : (0 : Int) ≤ (k : Int) := by omega
   have hf := st.fr
   obtain ⟨b, o, rfl, hat⟩ := (HV.out.still hf).at Ab
   have hvl : k < vs.length := by rw [HV.out.len]; exact hlt
   obtain ⟨a, nn, c, hve, hcc, hrd⟩ := HP.out.2 k (vs[k]'hvl) (List.getElem?_eq_getElem hvl)
   have hc1 := hat k _ (List.getElem?_eq_getElem hvl)
   rw [hve] at hc1
   have hlk : k < ln.length := by rw [HL.out]; exact hlt
   have hts := qP mQ ln k hlk
   have hbad := uH mQ ln k hlk
   generalize hLk : ln.getD k [] = l at *
   have HLL := qH hLk
   have HRD := qH (hrd.still hf)
   have HTS := qH hts
   have HBAD := qH hbad
   have HG := qH hgood
   have HLT := qH hlt
   clear hLk hrd hts hbad hgood hf hat hve hcc hlt hk
   have HK := qH (show cL mQ l = true by
    cases hh : cL mQ l
    ·have := HBAD.out hh
     rw [HGA.out] at this
     cases this
    ·rfl)
   go_wp2_with fail
   refine (pW HK.out a nn c _ (HRD.out)).mono ?_
   rintro e' w3 ⟨rfl, hf3⟩
   have st3 := st.keep hf3
   clear st hf3
   go_wp2_with (with_reducible refine AA 9 ?_)
   refine aA st3 rfl rfl (z := zAd) Aa (cw 4 0) Af ?_
   intro g9 w4 st4
   clear st3
   go_wp2_with (with_reducible refine AB ?_)
   refine aB st4 2 rfl rfl rfl rfl rfl Ar Ap (aF _ _) ?_
   intro w5 st5
   clear st4
   have hc6 := (st5.at 1 rfl).cell (show [Value.slice (some ⟨gT, 0, none⟩) n n][0]? = _ from rfl)
   go_wp2_with (with_reducible refine AA 40 ?_)
   refine aI st5 2 rfl rfl rfl underlying111 rfl Ap ?_
   go_wp2_with (with_reducible refine AB ?_)
   refine pT st5 0 rfl rfl rfl rfl rfl (tmF n (aK ln (k + 1)) (fun _ => cw 192 0)) (j0m n ln k l HLL.out HLT.out) (by rw [a0h, aT]; have := HLT.out; omega) Ap (aF _ _) ?_
   intro w6 st6
   clear st5 hc6
   go_wp2_with fail
   go_roundw
   case rel => exact ⟨k + 1, by have := HLT.out; omega, by go_num, by rw [HTS.out, HG.out, HK.out]; rfl, St.less st6 Ae⟩
   case measure => have := HLT.out; simp [intOf]; omega
  ·have hge : ¬ ((k : Int) < (n : Int)) := by omega
   have hkn : k = n := by omega
   rw [hkn] at hgood st
   rw [List.take_of_length_le Bz] at hgood
   have hgl := (st.at 0 rfl).lt
   have HHT := qH (st.at 0 rfl)
   have HHB := qH (st.at 1 rfl)
   have HNE := qH (show gb ≠ gT from st.neAt (i := 1) (j := 0) rfl rfl Ac)
   have HF := qH st.fr
   clear hkn hgood st hgl
   go_wp2_with fail
   refine (b0Y gb bl n dl us lp _ (HU.out.still HF.out) (HQ.out.still HF.out) Bq HRA.out).mono ?_
   rintro e wE ⟨rfl, hfE⟩
   have hfr := HF.out.then hfE
   clear hfE HF HHT HHB
   go_wp2_with fail
   go_ret2
   exact ⟨rfl, hfr⟩
theorem l0Z (al : Option Addr) (n cl : Nat) (vs : List Value) (ln : List (List UInt8)) (bl : Option Addr) (dl : Nat) (us : List Value) (lp : List (List UInt8)) (w : World) (hv : Rd w al n vs) (hp : BParts w vs ln) (hu : Rd w bl n us) (hq : BParts w us lp) (hn : n ≤ 512) (hg : dE mQ ln = false) :
  Calls prog 132 #[.slice al n cl, .slice bl n dl] w fun e w' => e = .returned (.tuple #[.slice none 0 0, .int .i64 3]) ∧ Fr Nob w w' := by
 have HV := qH hv
 have HP := qH hp
 have HU := qH hu
 have HQ := qH hq
 have HL := qH (show ln.length = n by rw [← hp.1, hv.len])
 have HL2 := qH (show lp.length = n by rw [← hq.1, hu.len])
 have HN := qH hn
 have hnI : ¬ ((512 : Int) < (n : Int)) := by omega
 clear hv hp hu hq
 have HGA := qH hg
 clear hg hn
 have st0 := St.start Nob w
 go_enter func132, ntmps132
 go_wp2_with (with_reducible refine AA 23 ?_)
 refine a0g rfl rfl underlying199 vG rfl Ac rfl rfl n n rfl rfl (Nat.le_refl _) Bq (by have := HN.out; unfold maxLen; omega) ?_
 intro w1 hm hf
 rw [d0s n ln] at hm
 have st1 := st0.new hf hm (Nat.le_refl _)
 have hle : w.heap.size ≤ w.heap.size := Nat.le_refl _
 generalize hgT : w.heap.size = gT at st1 hle hm ⊢
 have HGS := qH hgT
 clear hgT hle hm hf st0
 go_wp2_with (with_reducible refine AA 6 ?_)
 refine aA st1 rfl rfl (z := .slice none 0 0) Aa [.slice none 0 0] rfl ?_
 intro gb w2 st2
 clear st1
 obtain ⟨v6, c6, f6⟩ := (st2.at 1 rfl).ready (i := 0) Ac
 have st3 := st2.set 1 rfl 0 (.slice (some ⟨gT, 0, none⟩) n n)
 have st3 : St Nob w (w2.setCell ⟨gb, 0, none⟩ (.slice (some ⟨gT, 0, none⟩) n n)) [(gT, tmF n (aK ln (0)) (fun _ => cw 192 0), 147), (gb, [Value.slice (some ⟨gT, 0, none⟩) n n], 199)] := st3
 have ST3 := qH st3
 clear st2 st3
 go_wp2
 try clear c6 f6
 go_loopw [26] (fun i wr => ∃ k : Nat, k ≤ n ∧ i = .int .i64 (k : Int) ∧ dE mQ (ln.take k) = true ∧ St Nob w wr [(gT, tmF n (aK ln (k)) (fun _ => cw 192 0), 147), (gb, [Value.slice (some ⟨gT, 0, none⟩) n n], 199)]) (fun i _ => n - (intOf i).toNat)
 case atStart => exact ⟨0, Nat.zero_le _, rfl, by rw [List.take_zero]; unfold dE; rfl, ST3.out⟩
 case round =>
  obtain ⟨k, hk, rfl, hgood, st⟩ := hrel
  clear ST3
  by_cases hlt : k < n
  ·have hltI : (k : Int) < (n : Int) := by omega
   have hk0 : (0 : Int) ≤ (k : Int) := by omega
   have hf := st.fr
   obtain ⟨b, o, rfl, hat⟩ := (HV.out.still hf).at Ab
   have hvl : k < vs.length := by rw [HV.out.len]; exact hlt
   obtain ⟨a, nn, c, hve, hcc, hrd⟩ := HP.out.2 k (vs[k]'hvl) (List.getElem?_eq_getElem hvl)
   have hc1 := hat k _ (List.getElem?_eq_getElem hvl)
   rw [hve] at hc1
   have hlk : k < ln.length := by rw [HL.out]; exact hlt
   have hts := qP mQ ln k hlk
   have hbad := uH mQ ln k hlk
   generalize hLk : ln.getD k [] = l at *
   have HLL := qH hLk
   have HRD := qH (hrd.still hf)
   have HTS := qH hts
   have HBAD := qH hbad
   have HG := qH hgood
   have HLT := qH hlt
   clear hLk hrd hts hbad hgood hf hat hve hcc hlt hk
   rcases Bool.eq_false_or_eq_true (cL mQ l) with hh | hh
   ·have HK := qH hh
    clear hh
    go_wp2_with fail
    refine (pW HK.out a nn c _ (HRD.out)).mono ?_
    rintro e' w3 ⟨rfl, hf3⟩
    have st3 := st.keep hf3
    clear st hf3
    go_wp2_with (with_reducible refine AA 9 ?_)
    refine aA st3 rfl rfl (z := zAd) Aa (cw 4 0) Af ?_
    intro g9 w4 st4
    clear st3
    go_wp2_with (with_reducible refine AB ?_)
    refine aB st4 2 rfl rfl rfl rfl rfl Ar Ap (aF _ _) ?_
    intro w5 st5
    clear st4
    have hc6 := (st5.at 1 rfl).cell (show [Value.slice (some ⟨gT, 0, none⟩) n n][0]? = _ from rfl)
    go_wp2_with (with_reducible refine AA 40 ?_)
    refine aI st5 2 rfl rfl rfl underlying111 rfl Ap ?_
    go_wp2_with (with_reducible refine AB ?_)
    refine pT st5 0 rfl rfl rfl rfl rfl (tmF n (aK ln (k + 1)) (fun _ => cw 192 0)) (j0m n ln k l HLL.out HLT.out) (by rw [a0h, aT]; have := HLT.out; omega) Ap (aF _ _) ?_
    intro w6 st6
    clear st5 hc6
    go_wp2_with fail
    go_roundw
    case rel => exact ⟨k + 1, by have := HLT.out; omega, by go_num, by rw [HTS.out, HG.out, HK.out]; rfl, St.less st6 Ae⟩
    case measure => have := HLT.out; simp [intOf]; omega
   ·have HK := qH hh
    clear hh
    go_wp2_with fail
    refine (e0Q HK.out a nn c _ (HRD.out)).mono ?_
    rintro e' w3 ⟨⟨N, rfl⟩, hf3⟩
    have st3 := st.keep hf3
    clear st hf3
    go_wp2_with (with_reducible refine AA 9 ?_)
    refine aA st3 rfl rfl (z := zAd) Aa (cw 4 0) Af ?_
    intro g9 w4 st4
    clear st3
    go_wp2_with (with_reducible refine AB ?_)
    refine aB st4 2 rfl rfl rfl rfl rfl Ar Ap (aF _ _) ?_
    intro w5 st5
    clear st4
    have hfr := st5.fr
    clear st5
    go_wp2_with fail
    go_ret2
    exact ⟨rfl, hfr⟩
  ·exfalso
   have hkn : k = n := by omega
   rw [hkn] at hgood
   rw [List.take_of_length_le Bz, HGA.out] at hgood
   cases hgood
theorem m0a (al : Option Addr) (n cl : Nat) (bl : Option Addr) (m dl : Nat) (w : World) (h : n ≠ m) :
  Calls prog 132 #[.slice al n cl, .slice bl m dl] w fun e w' => e = .returned (.tuple #[.slice none 0 0, .int .i64 2]) ∧ Fr Nob w w' := by
 have h1 : ((n : Int) != (m : Int)) = true := by simp; omega
 have h2 : (n != m) = true := by simpa using h
 go_enter func132, ntmps132
 go_wp2
 go_ret2
 exact ⟨rfl, Fr.refl _ _⟩
theorem m0b (al : Option Addr) (n cl : Nat) (bl : Option Addr) (dl : Nat) (w : World) (h : 512 < n) :
  Calls prog 132 #[.slice al n cl, .slice bl n dl] w fun e w' => e = .returned (.tuple #[.slice none 0 0, .int .i64 1]) ∧ Fr Nob w w' := by
 have h1 : (512 : Int) < (n : Int) := by omega
 go_enter func132, ntmps132
 go_wp2
 go_ret2
 exact ⟨rfl, Fr.refl _ _⟩
end Go.Proofs.YtemcankmggmgoaaGreat
namespace Mvp
theorem p0k (Q : Nat) (h : lw Q 0 + 1 < 18446744073709551616) : (bI 4 Q).set 0 (lw Q 0 + 1) = bI 4 (Q + 1) := by
 rw [m0P, m0P]
 have e0 : lw (Q + 1) 0 = lw Q 0 + 1 := by rw [f0Q] at h ⊢; rw [f0Q]; omega
 have e : (Q + 1) / 18446744073709551616 = Q / 18446744073709551616 := by rw [f0Q] at h; omega
 have ed : ∀ i, lw (Q + 1) (1 + i) = lw Q (1 + i) := by
  intro i
  rw [← gD, ← gD, Nat.pow_one, show B64 = 18446744073709551616 from rfl, e]
 have e1 := ed 0
 have e2 := ed 1
 have e3 := ed 2
 simp only [Nat.add_zero] at e1
 rw [e0, e1, show (2 : Nat) = 1 + 1 from rfl, show (3 : Nat) = 1 + 2 from rfl, e2, e3]
 rfl
theorem oE (p : Nat) (h : p < B64 ^ 4) : p / 4 % 2 ^ 254 = p / 4 := Nat.mod_eq_of_lt (by
 rw [show B64 ^ 4 = 2 ^ 254 * 4 from rfl] at h
 generalize 2 ^ 254 = z at *
 omega)
end Mvp
namespace Go.Proofs.YtemcankmggmgoaaGreat
section
open Go.RowKit Go.Mv Mvp
theorem a0i (q b k q' : Nat) (hb : b < 2) (hs : (bI 4 q).set (k / 64) (lw q (k / 64) ||| b * 2 ^ (k % 64)) = bI 4 q') :
  (cw 4 q).set (k / 64) (.int .u64 (bits .or .u64 (lw q (k / 64) : Nat) (IntKind.u64.wrap ((b : Int) * 2 ^ (k % 64))))) = cw 4 q' := by
 have h1 : b * 2 ^ (k % 64) < 18446744073709551616 := by
  have h2 : 2 ^ (k % 64) ≤ 2 ^ 63 := Nat.pow_le_pow_right Ac Ab
  have h3 := Nat.mul_le_mul_right (2 ^ (k % 64)) (show b ≤ 1 by omega)
  rw [Nat.one_mul] at h3
  have h4 : (2 : Nat) ^ 63 = 9223372036854775808 := by decide
  rw [h4] at h2
  generalize 2 ^ (k % 64) = z at *
  generalize b * z = y at *
  omega
 have h := bits_or_u64_nat (lw q (k / 64)) (b * 2 ^ (k % 64)) (gO _ _) h1
 have hw : IntKind.u64.wrap ((b : Int) * 2 ^ (k % 64)) = ((b * 2 ^ (k % 64) : Nat) : Int) := by
  rw [show ((b : Int) * 2 ^ (k % 64)) = ((b * 2 ^ (k % 64) : Nat) : Int) by rw [Int.natCast_mul, Int.natCast_pow]; rfl, IntKind.wrap_u64]
  exact congrArg Int.ofNat (Nat.mod_eq_of_lt h1)
 rw [hw, h, cw, b0h, hs, cw]
theorem vH (Q : Nat) (h : lw Q 0 + 1 < 18446744073709551616) : (cw 4 Q).set 0 (.int .u64 ((lw Q 0 : Int) + 1)) = cw 4 (Q + 1) := by
 show (us (bI 4 Q)).set 0 (.int .u64 ((lw Q 0 + 1 : Nat) : Int)) = us (bI 4 (Q + 1))
 rw [b0h, p0k Q h]
theorem d0t (x y : Nat) (hx : x < B64 ^ 4) (hy : y < B64 ^ 4) (ty : TypeId) (hu : prog.underlying ty = some (.array 4 58)) (hg : prog.eqGuardType prog.depth ty = false) {o : Oper} {a : Act} {w : World} {K : Act → World → Prop} {Q : Exit → Act → World → Prop} {p q : Operand} {T : TypeId}
  (ho : o.op = .binOp .neq ty p q T) (hp : a.eval p = i4 x) (hq : a.eval q = .agg (cw 4 y).toArray) {b : Bool} (hb : decide (x = y) = b) (hk : K (a.put o.dst (.bool !b)) w) : o.wp prog a w K Q := by
 have h1 := e0y x y ty hg p q w
 have h2 : (binOp .neq ty (i4 x) (.agg (cw 4 y).toArray)).run prog w = .ok (.bool !b) w := by
  show (do pure (Value.bool (!(← Op.equal ty (.agg (cw 4 x).toArray) (.agg (cw 4 y).toArray))))).run prog w = _
  simp only [Sem.run_bind, zM hu underlying58 iA x y w, Result.andThen_ok]
  rw [Nat.mod_eq_of_lt hx, Nat.mod_eq_of_lt hy, hb]
  rfl
 unfold Oper.wp execOp
 simp only [ho, hp, hq, Sem.run_bind, h1, h2, Result.andThen_ok, Sem.run_pure]
 exact hk
attribute [local irreducible] bI lw mix cw cT dG cS bQ aO beN dO cI dI
theorem m0c (p a n R : Nat) (w : World) (hp0 : 0 < p) (hp : p < B64 ^ 4) (hn : p / 4 + 1 = n) (hn4 : n < B64 ^ 4) (ha : a < B64 ^ 4) (hlow : lw (p / 4) 0 + 1 < 18446744073709551616) (hR : R < p) (hpow : ∀ wx, Calls prog 167 #[fv p, i4 a, i4 n] wx fun e w' => e = .returned (i4 R) ∧ Fr Nob wx w') (hb : decide (R * R % p = a) = false) :
  Calls prog 186 #[fv p, i4 a] w fun e w' => e = .returned (.tuple #[i4 0, .bool false]) ∧ Fr Nob w w' := by
 have HP0 := qH hp0
 have HP := qH hp
 have HN4 := qH hn4
 have HA := qH ha
 have HLOW := qH hlow
 have HPOW := qH hpow
 have HB := qH hb
 have HR4 := qH (Nat.lt_trans hR hp)
 have HRP := qH (Nat.le_of_lt hR)
 have HRR := qH (show R * R % p < B64 ^ 4 from Nat.lt_trans (Nat.mod_lt _ hp0) hp)
 have hlc := vH (p / 4) hlow
 rw [hn] at hlc
 have HLC := qH hlc
 have HNE := qH hn
 clear hp0 hp hn4 ha hlow hpow hb hR hlc hn 
 have st0 := St.start Nob w
 go_enter func186, ntmps186
 go_wp2_with (with_reducible refine AA 2 ?_)
 refine aL st0 rfl rfl rfl (cw 4 p ++ cw 4 (B64 ^ 4 - p)) rfl ?_
 intro g2 w1 st1
 clear st0
 go_wp2_with (with_reducible refine AA 3 ?_)
 refine aL st1 rfl rfl rfl (cw 4 a) rfl ?_
 intro g3 w2 st2
 clear st1
 go_wp2_with (with_reducible refine AA 4 ?_)
 refine aA st2 rfl rfl (z := zAd) Aa (cw 4 0) Af ?_
 intro g4 w3 st3
 clear st2
 go_wp2_with (with_reducible refine AA 6 ?_)
 refine aA st3 rfl rfl (z := zAd) Aa (cw 4 0) Af ?_
 intro g6 w4 st4
 clear st3
 go_wp2
 go_loopw [7] (fun i wr => ∃ k : Nat, k ≤ 254 ∧ i = .int .i64 (k : Int) ∧ St Nob w wr [(g2, cw 4 p ++ cw 4 (B64 ^ 4 - p), 78), (g3, cw 4 a, 60), (g4, cw 4 0, 60), (g6, cw 4 (p / 4 % 2 ^ k), 60)]) (fun i _ => 254 - (intOf i).toNat)
 case atStart => exact ⟨0, by omega, rfl, by rw [Nat.pow_zero, Nat.mod_one]; exact st4⟩
 case round =>
  obtain ⟨k, hk, rfl, st⟩ := hrel
  clear st4
  by_cases hlt : k < 254
  ·have hltI : (k : Int) < 254 := by omega
   have hstep := zL 4 (p / 4 % 2 ^ k) k (p / 2 ^ (k + 2) % 2) (Nat.mod_lt _ (Nat.pow_pos Ac)) (Nat.mod_lt _ Ac) Ab
   rw [← mN] at hstep
   have hbit := fun wx => pE p (k + 2) wx Ab
   have hb2 : p / 2 ^ (k + 2) % 2 < 2 := Nat.mod_lt _ Ac
   generalize p / 2 ^ (k + 2) % 2 = b at *
   generalize hq' : p / 4 % 2 ^ (k + 1) = q' at *
   have HQ := qH hq'
   clear hq'
   generalize p / 4 % 2 ^ k = q at *
   have HCELL := qH (a0i q b k q' hb2 hstep)
   have HBIT := qH hbit
   clear hstep hbit hb2
   have hlo : (0 : Int) ≤ (k : Int) / 64 ∧ (k : Int) / 64 < 4 := by omega
   have hlo2 : (0 : Int) ≤ (k : Int) % 64 ∧ (k : Int) % 64 < 64 := by omega
   have e1 : IntKind.i64.wrap ((k : Int) / 64) = (k : Int) / 64 := IntWalk.i64_in _ Ab
   have e2 : (k : Int).tmod 64 = (k : Int) % 64 := Int.tmod_eq_emod_of_nonneg Ab
   have e3 : IntKind.i64.wrap ((k : Int) + 2) = (k : Int) + 2 := IntWalk.i64_in _ Ab
   have e4 : ((k : Int) / 64).toNat = k / 64 := by omega
   have e5 : ((k : Int) % 64).toNat = k % 64 := by omega
   go_wp2_with fail
   refine wp_region_noPanic ?_
   refine aP (fun wx => St Nob w wx [(g2, cw 4 p ++ cw 4 (B64 ^ 4 - p), 78), (g3, cw 4 a, 60), (g4, cw 4 0, 60), (g6, cw 4 q, 60)]) 16 (.w 0 (.w 1 (.w 2 (.w 3 (.w 4 (.t 5 (.w 6 (.t 7 (.w 8 (.w 9 (.w 11 (.w 12 (.r 10 (.w 13 (.w 14 (.w 15 (.m 16 .nil))))))))))))))))) Aa Aa st.drew (fun _ _ _ _ _ h => h) ?_
   have hd4 := st.drew
   clear st
   refine aJ rfl rfl apW ?_
   try simp only [J]
   refine aJ rfl rfl apW ?_
   try simp only [J]
   refine aJ rfl rfl apW ?_
   try simp only [J]
   refine aJ rfl rfl apW ?_
   try simp only [J]
   refine aJ rfl rfl apW ?_
   try simp only [J]
   refine jY (v := ?_) rfl rfl (fun wx hS => ?_) ?_
   rotate_left 1
   ·(have hc := (St.at hS 3 rfl).cell (bL 4 q (k / 64) Ab); clear hS; go_simp; with_reducible rfl)
   try simp only [J]
   refine aJ rfl rfl apW ?_
   try simp only [J]
   refine aV rfl rfl rfl rfl (cw 4 p) (fun wx hS => St.rangeL hS 0 rfl 0 _ (qL 4 4 _ _)) underlying60 rfl Ad ?_
   try simp only [J]
   refine aJ rfl rfl apW ?_
   try simp only [J]
   refine aJ rfl rfl apW ?_
   try simp only [J]
   refine aJ rfl rfl apW ?_
   try simp only [J]
   refine aJ rfl rfl apW ?_
   try simp only [J]
   refine bC rfl rfl ?_
   go_simp
   refine (HBIT.out _).mono ?_
   rintro e' w5 ⟨rfl, hf5⟩
   have st5 := hd4.keep hf5
   clear hf5
   clear hd4
   refine ⟨st5, ?_⟩
   try simp only [J]
   refine aJ rfl rfl apW ?_
   try simp only [J]
   refine aJ rfl rfl apW ?_
   try simp only [J]
   refine aJ rfl rfl apW ?_
   try simp only [J]
   refine aU rfl rfl ?_
   have f1 := (st5.at 3 rfl).free (k / 64) Av
   have c1 := (st5.at 3 rfl).cell (bL 4 q (k / 64) Ab)
   go_simp
   have st6 := st5.set 3 rfl (k / 64) (.int .u64 (bits .or .u64 (lw q (k / 64) : Nat) (IntKind.u64.wrap ((b : Int) * 2 ^ (k % 64)))))
   simp only [List.set_cons_zero, List.set_cons_succ] at st6
   rw [HCELL.out] at st6
   clear f1 c1 st5
   try simp only [J]
   refine aH ?_
   refine NoPanic.normal ?_
   go_wp2
   go_roundw
   case rel => exact ⟨k + 1, by omega, by go_num, by rw [HQ.out]; exact st6⟩
   case measure => simp [intOf]; omega
  ·have hge : ¬ ((k : Int) < 254) := by omega
   have hk2 : k = 254 := by omega
   rw [hk2, oE p HP.out] at st
   clear hk2
   generalize p / 4 = Q at *
   have c1 := (st.at 3 rfl).cell (bL 4 Q 0 Ac)
   have f1 := (st.at 3 rfl).free 0 Bc
   have st9 := st.set 3 rfl 0 (.int .u64 ((lw Q 0 : Int) + 1))
   have hlow := HLOW.out
   have e1 : IntKind.u64.wrap ((lw Q 0 : Int) + 1) = (lw Q 0 : Int) + 1 := IntWalk.u64_in _ Ab
   clear st
   go_wp2_with (with_reducible refine AA 33 ?_)
   simp only [List.set_cons_zero, List.set_cons_succ] at st9
   rw [HLC.out] at st9
   clear c1 f1 hlow e1
   refine aM st9 0 rfl rfl rfl underlying78 rfl rfl Ad ?_
   go_wp2_with (with_reducible refine AA 34 ?_)
   refine aI st9 1 rfl rfl rfl underlying60 rfl Ad ?_
   go_wp2_with (with_reducible refine AA 35 ?_)
   refine aI st9 3 rfl rfl rfl underlying60 rfl Ad ?_
   go_wp2_with fail
   refine (HPOW.out _).mono ?_
   rintro e' w10 ⟨rfl, hf10⟩
   have st10 := st9.keep hf10
   clear st9 hf10
   go_wp2_with (with_reducible refine AA 8 ?_)
   refine aA st10 rfl rfl (z := zAd) Aa (cw 4 0) Af ?_
   intro g8 w11 st11
   clear st10
   go_wp2_with (with_reducible refine AB ?_)
   refine aB st11 4 rfl rfl rfl rfl rfl Ah Ad (aF _ _) ?_
   intro w12 st12
   clear st11
   go_wp2_with fail
   refine wp_region_noPanic ?_
   refine aP (fun wx => St Nob w wx [(g2, cw 4 p ++ cw 4 (B64 ^ 4 - p), 78), (g3, cw 4 a, 60), (g4, cw 4 0, 60), (g6, cw 4 n, 60), (g8, cw 4 R, 60)]) 5 (.t 0 (.t 1 (.t 2 (.t 4 (.r 3 (.m 5 .nil)))))) Aa Aa st12.drew (fun _ _ _ _ _ h => h) ?_
   have hd12 := st12.drew
   clear st12
   refine aV rfl rfl rfl rfl (cw 4 p ++ cw 4 (B64 ^ 4 - p)) (fun wx hS => St.rangeL hS 0 rfl 0 _ dZl) underlying78 rfl Ad ?_
   try simp only [J]
   refine aV rfl rfl rfl rfl (cw 4 R) (fun wx hS => St.rangeL hS 4 rfl 0 _ dZl) underlying60 rfl Ad ?_
   try simp only [J]
   refine aV rfl rfl rfl rfl (cw 4 R) (fun wx hS => St.rangeL hS 4 rfl 0 _ dZl) underlying60 rfl Ad ?_
   try simp only [J]
   refine aV rfl rfl rfl rfl (cw 4 a) (fun wx hS => St.rangeL hS 1 rfl 0 _ dZl) underlying60 rfl Ad ?_
   try simp only [J]
   refine bC rfl rfl ?_
   go_simp
   refine (oB p R R _ HP0.out HP.out HR4.out HR4.out).mono ?_
   rintro e' w13 ⟨rfl, hf13⟩
   have st13 := hd12.keep hf13
   clear hf13
   clear hd12
   refine ⟨st13, ?_⟩
   try simp only [J]
   refine aU rfl rfl ?_
   refine d0t (R * R % p) a HRR.out HA.out 60 underlying60 Tryz.eqGuardType60 rfl rfl rfl HB.out ?_
   try simp only [J]
   refine aH ?_
   refine NoPanic.normal ?_
   go_wp2_with (with_reducible refine AB ?_)
   refine aB st13 2 rfl rfl rfl rfl (cs := cw 4 0) Af Ah Ad (aF _ _) ?_
   intro w14 st14
   clear st13
   have hr := st14.at 2 rfl
   have hfr := st14.fr
   clear st14
   go_wp2_with fail
   exact bodyPost_ret (cB rfl rfl hr underlying60 Ad rfl) rfl ⟨rfl, hfr⟩
theorem g0t (p a n R : Nat) (w : World) (hp0 : 0 < p) (hp : p < B64 ^ 4) (hn : p / 4 + 1 = n) (hn4 : n < B64 ^ 4) (ha : a < B64 ^ 4) (hlow : lw (p / 4) 0 + 1 < 18446744073709551616) (hR : R < p) (hpow : ∀ wx, Calls prog 167 #[fv p, i4 a, i4 n] wx fun e w' => e = .returned (i4 R) ∧ Fr Nob wx w') (hb : decide (R * R % p = a) = true) (hpar : R % 2 = 0) :
  Calls prog 186 #[fv p, i4 a] w fun e w' => e = .returned (.tuple #[i4 R, .bool true]) ∧ Fr Nob w w' := by
 have HP0 := qH hp0
 have HP := qH hp
 have HN4 := qH hn4
 have HA := qH ha
 have HLOW := qH hlow
 have HPOW := qH hpow
 have HB := qH hb
 have HR4 := qH (Nat.lt_trans hR hp)
 have HRP := qH (Nat.le_of_lt hR)
 have HRR := qH (show R * R % p < B64 ^ 4 from Nat.lt_trans (Nat.mod_lt _ hp0) hp)
 have hlc := vH (p / 4) hlow
 rw [hn] at hlc
 have HLC := qH hlc
 have HNE := qH hn
 have HPAR := qH hpar
 clear hp0 hp hn4 ha hlow hpow hb hR hlc hn hpar
 have st0 := St.start Nob w
 go_enter func186, ntmps186
 go_wp2_with (with_reducible refine AA 2 ?_)
 refine aL st0 rfl rfl rfl (cw 4 p ++ cw 4 (B64 ^ 4 - p)) rfl ?_
 intro g2 w1 st1
 clear st0
 go_wp2_with (with_reducible refine AA 3 ?_)
 refine aL st1 rfl rfl rfl (cw 4 a) rfl ?_
 intro g3 w2 st2
 clear st1
 go_wp2_with (with_reducible refine AA 4 ?_)
 refine aA st2 rfl rfl (z := zAd) Aa (cw 4 0) Af ?_
 intro g4 w3 st3
 clear st2
 go_wp2_with (with_reducible refine AA 6 ?_)
 refine aA st3 rfl rfl (z := zAd) Aa (cw 4 0) Af ?_
 intro g6 w4 st4
 clear st3
 go_wp2
 go_loopw [7] (fun i wr => ∃ k : Nat, k ≤ 254 ∧ i = .int .i64 (k : Int) ∧ St Nob w wr [(g2, cw 4 p ++ cw 4 (B64 ^ 4 - p), 78), (g3, cw 4 a, 60), (g4, cw 4 0, 60), (g6, cw 4 (p / 4 % 2 ^ k), 60)]) (fun i _ => 254 - (intOf i).toNat)
 case atStart => exact ⟨0, by omega, rfl, by rw [Nat.pow_zero, Nat.mod_one]; exact st4⟩
 case round =>
  obtain ⟨k, hk, rfl, st⟩ := hrel
  clear st4
  by_cases hlt : k < 254
  ·have hltI : (k : Int) < 254 := by omega
   have hstep := zL 4 (p / 4 % 2 ^ k) k (p / 2 ^ (k + 2) % 2) (Nat.mod_lt _ (Nat.pow_pos Ac)) (Nat.mod_lt _ Ac) Ab
   rw [← mN] at hstep
   have hbit := fun wx => pE p (k + 2) wx Ab
   have hb2 : p / 2 ^ (k + 2) % 2 < 2 := Nat.mod_lt _ Ac
   generalize p / 2 ^ (k + 2) % 2 = b at *
   generalize hq' : p / 4 % 2 ^ (k + 1) = q' at *
   have HQ := qH hq'
   clear hq'
   generalize p / 4 % 2 ^ k = q at *
   have HCELL := qH (a0i q b k q' hb2 hstep)
   have HBIT := qH hbit
   clear hstep hbit hb2
   have hlo : (0 : Int) ≤ (k : Int) / 64 ∧ (k : Int) / 64 < 4 := by omega
   have hlo2 : (0 : Int) ≤ (k : Int) % 64 ∧ (k : Int) % 64 < 64 := by omega
   have e1 : IntKind.i64.wrap ((k : Int) / 64) = (k : Int) / 64 := IntWalk.i64_in _ Ab
   have e2 : (k : Int).tmod 64 = (k : Int) % 64 := Int.tmod_eq_emod_of_nonneg Ab
   have e3 : IntKind.i64.wrap ((k : Int) + 2) = (k : Int) + 2 := IntWalk.i64_in _ Ab
   have e4 : ((k : Int) / 64).toNat = k / 64 := by omega
   have e5 : ((k : Int) % 64).toNat = k % 64 := by omega
   go_wp2_with fail
   refine wp_region_noPanic ?_
   refine aP (fun wx => St Nob w wx [(g2, cw 4 p ++ cw 4 (B64 ^ 4 - p), 78), (g3, cw 4 a, 60), (g4, cw 4 0, 60), (g6, cw 4 q, 60)]) 16 (.w 0 (.w 1 (.w 2 (.w 3 (.w 4 (.t 5 (.w 6 (.t 7 (.w 8 (.w 9 (.w 11 (.w 12 (.r 10 (.w 13 (.w 14 (.w 15 (.m 16 .nil))))))))))))))))) Aa Aa st.drew (fun _ _ _ _ _ h => h) ?_
   have hd4 := st.drew
   clear st
   refine aJ rfl rfl apW ?_
   try simp only [J]
   refine aJ rfl rfl apW ?_
   try simp only [J]
   refine aJ rfl rfl apW ?_
   try simp only [J]
   refine aJ rfl rfl apW ?_
   try simp only [J]
   refine aJ rfl rfl apW ?_
   try simp only [J]
   refine jY (v := ?_) rfl rfl (fun wx hS => ?_) ?_
   rotate_left 1
   ·(have hc := (St.at hS 3 rfl).cell (bL 4 q (k / 64) Ab); clear hS; go_simp; with_reducible rfl)
   try simp only [J]
   refine aJ rfl rfl apW ?_
   try simp only [J]
   refine aV rfl rfl rfl rfl (cw 4 p) (fun wx hS => St.rangeL hS 0 rfl 0 _ (qL 4 4 _ _)) underlying60 rfl Ad ?_
   try simp only [J]
   refine aJ rfl rfl apW ?_
   try simp only [J]
   refine aJ rfl rfl apW ?_
   try simp only [J]
   refine aJ rfl rfl apW ?_
   try simp only [J]
   refine aJ rfl rfl apW ?_
   try simp only [J]
   refine bC rfl rfl ?_
   go_simp
   refine (HBIT.out _).mono ?_
   rintro e' w5 ⟨rfl, hf5⟩
   have st5 := hd4.keep hf5
   clear hf5
   clear hd4
   refine ⟨st5, ?_⟩
   try simp only [J]
   refine aJ rfl rfl apW ?_
   try simp only [J]
   refine aJ rfl rfl apW ?_
   try simp only [J]
   refine aJ rfl rfl apW ?_
   try simp only [J]
   refine aU rfl rfl ?_
   have f1 := (st5.at 3 rfl).free (k / 64) Av
   have c1 := (st5.at 3 rfl).cell (bL 4 q (k / 64) Ab)
   go_simp
   have st6 := st5.set 3 rfl (k / 64) (.int .u64 (bits .or .u64 (lw q (k / 64) : Nat) (IntKind.u64.wrap ((b : Int) * 2 ^ (k % 64)))))
   simp only [List.set_cons_zero, List.set_cons_succ] at st6
   rw [HCELL.out] at st6
   clear f1 c1 st5
   try simp only [J]
   refine aH ?_
   refine NoPanic.normal ?_
   go_wp2
   go_roundw
   case rel => exact ⟨k + 1, by omega, by go_num, by rw [HQ.out]; exact st6⟩
   case measure => simp [intOf]; omega
  ·have hge : ¬ ((k : Int) < 254) := by omega
   have hk2 : k = 254 := by omega
   rw [hk2, oE p HP.out] at st
   clear hk2
   generalize p / 4 = Q at *
   have c1 := (st.at 3 rfl).cell (bL 4 Q 0 Ac)
   have f1 := (st.at 3 rfl).free 0 Bc
   have st9 := st.set 3 rfl 0 (.int .u64 ((lw Q 0 : Int) + 1))
   have hlow := HLOW.out
   have e1 : IntKind.u64.wrap ((lw Q 0 : Int) + 1) = (lw Q 0 : Int) + 1 := IntWalk.u64_in _ Ab
   clear st
   go_wp2_with (with_reducible refine AA 33 ?_)
   simp only [List.set_cons_zero, List.set_cons_succ] at st9
   rw [HLC.out] at st9
   clear c1 f1 hlow e1
   refine aM st9 0 rfl rfl rfl underlying78 rfl rfl Ad ?_
   go_wp2_with (with_reducible refine AA 34 ?_)
   refine aI st9 1 rfl rfl rfl underlying60 rfl Ad ?_
   go_wp2_with (with_reducible refine AA 35 ?_)
   refine aI st9 3 rfl rfl rfl underlying60 rfl Ad ?_
   go_wp2_with fail
   refine (HPOW.out _).mono ?_
   rintro e' w10 ⟨rfl, hf10⟩
   have st10 := st9.keep hf10
   clear st9 hf10
   go_wp2_with (with_reducible refine AA 8 ?_)
   refine aA st10 rfl rfl (z := zAd) Aa (cw 4 0) Af ?_
   intro g8 w11 st11
   clear st10
   go_wp2_with (with_reducible refine AB ?_)
   refine aB st11 4 rfl rfl rfl rfl rfl Ah Ad (aF _ _) ?_
   intro w12 st12
   clear st11
   go_wp2_with fail
   refine wp_region_noPanic ?_
   refine aP (fun wx => St Nob w wx [(g2, cw 4 p ++ cw 4 (B64 ^ 4 - p), 78), (g3, cw 4 a, 60), (g4, cw 4 0, 60), (g6, cw 4 n, 60), (g8, cw 4 R, 60)]) 5 (.t 0 (.t 1 (.t 2 (.t 4 (.r 3 (.m 5 .nil)))))) Aa Aa st12.drew (fun _ _ _ _ _ h => h) ?_
   have hd12 := st12.drew
   clear st12
   refine aV rfl rfl rfl rfl (cw 4 p ++ cw 4 (B64 ^ 4 - p)) (fun wx hS => St.rangeL hS 0 rfl 0 _ dZl) underlying78 rfl Ad ?_
   try simp only [J]
   refine aV rfl rfl rfl rfl (cw 4 R) (fun wx hS => St.rangeL hS 4 rfl 0 _ dZl) underlying60 rfl Ad ?_
   try simp only [J]
   refine aV rfl rfl rfl rfl (cw 4 R) (fun wx hS => St.rangeL hS 4 rfl 0 _ dZl) underlying60 rfl Ad ?_
   try simp only [J]
   refine aV rfl rfl rfl rfl (cw 4 a) (fun wx hS => St.rangeL hS 1 rfl 0 _ dZl) underlying60 rfl Ad ?_
   try simp only [J]
   refine bC rfl rfl ?_
   go_simp
   refine (oB p R R _ HP0.out HP.out HR4.out HR4.out).mono ?_
   rintro e' w13 ⟨rfl, hf13⟩
   have st13 := hd12.keep hf13
   clear hf13
   clear hd12
   refine ⟨st13, ?_⟩
   try simp only [J]
   refine aU rfl rfl ?_
   refine d0t (R * R % p) a HRR.out HA.out 60 underlying60 Tryz.eqGuardType60 rfl rfl rfl HB.out ?_
   try simp only [J]
   refine aH ?_
   refine NoPanic.normal ?_
   have c1 := (st13.at 4 rfl).cell (bL 4 R 0 Ac)
   have hla := uK R
   rw [HPAR.out] at hla
   go_wp2_with (with_reducible refine AA 51 ?_)
   refine aI st13 4 rfl rfl rfl underlying60 rfl Ad ?_
   go_wp2_with (with_reducible refine AB ?_)
   refine aB st13 2 rfl rfl rfl rfl rfl Ah Ad (aF _ _) ?_
   intro w14 st14
   clear st13
   have hr := st14.at 2 rfl
   have hfr := st14.fr
   clear st14
   go_wp2_with fail
   exact bodyPost_ret (cB rfl rfl hr underlying60 Ad rfl) rfl ⟨rfl, hfr⟩
theorem j0n (p a n R : Nat) (w : World) (hp0 : 0 < p) (hp : p < B64 ^ 4) (hn : p / 4 + 1 = n) (hn4 : n < B64 ^ 4) (ha : a < B64 ^ 4) (hlow : lw (p / 4) 0 + 1 < 18446744073709551616) (hR : R < p) (hpow : ∀ wx, Calls prog 167 #[fv p, i4 a, i4 n] wx fun e w' => e = .returned (i4 R) ∧ Fr Nob wx w') (hb : decide (R * R % p = a) = true) (hpar : R % 2 = 1) :
  Calls prog 186 #[fv p, i4 a] w fun e w' => e = .returned (.tuple #[i4 ((p - R) % p), .bool true]) ∧ Fr Nob w w' := by
 have HP0 := qH hp0
 have HP := qH hp
 have HN4 := qH hn4
 have HA := qH ha
 have HLOW := qH hlow
 have HPOW := qH hpow
 have HB := qH hb
 have HR4 := qH (Nat.lt_trans hR hp)
 have HRP := qH (Nat.le_of_lt hR)
 have HRR := qH (show R * R % p < B64 ^ 4 from Nat.lt_trans (Nat.mod_lt _ hp0) hp)
 have hlc := vH (p / 4) hlow
 rw [hn] at hlc
 have HLC := qH hlc
 have HNE := qH hn
 have HPAR := qH hpar
 clear hp0 hp hn4 ha hlow hpow hb hR hlc hn hpar
 have st0 := St.start Nob w
 go_enter func186, ntmps186
 go_wp2_with (with_reducible refine AA 2 ?_)
 refine aL st0 rfl rfl rfl (cw 4 p ++ cw 4 (B64 ^ 4 - p)) rfl ?_
 intro g2 w1 st1
 clear st0
 go_wp2_with (with_reducible refine AA 3 ?_)
 refine aL st1 rfl rfl rfl (cw 4 a) rfl ?_
 intro g3 w2 st2
 clear st1
 go_wp2_with (with_reducible refine AA 4 ?_)
 refine aA st2 rfl rfl (z := zAd) Aa (cw 4 0) Af ?_
 intro g4 w3 st3
 clear st2
 go_wp2_with (with_reducible refine AA 6 ?_)
 refine aA st3 rfl rfl (z := zAd) Aa (cw 4 0) Af ?_
 intro g6 w4 st4
 clear st3
 go_wp2
 go_loopw [7] (fun i wr => ∃ k : Nat, k ≤ 254 ∧ i = .int .i64 (k : Int) ∧ St Nob w wr [(g2, cw 4 p ++ cw 4 (B64 ^ 4 - p), 78), (g3, cw 4 a, 60), (g4, cw 4 0, 60), (g6, cw 4 (p / 4 % 2 ^ k), 60)]) (fun i _ => 254 - (intOf i).toNat)
 case atStart => exact ⟨0, by omega, rfl, by rw [Nat.pow_zero, Nat.mod_one]; exact st4⟩
 case round =>
  obtain ⟨k, hk, rfl, st⟩ := hrel
  clear st4
  by_cases hlt : k < 254
  ·have hltI : (k : Int) < 254 := by omega
   have hstep := zL 4 (p / 4 % 2 ^ k) k (p / 2 ^ (k + 2) % 2) (Nat.mod_lt _ (Nat.pow_pos Ac)) (Nat.mod_lt _ Ac) Ab
   rw [← mN] at hstep
   have hbit := fun wx => pE p (k + 2) wx Ab
   have hb2 : p / 2 ^ (k + 2) % 2 < 2 := Nat.mod_lt _ Ac
   generalize p / 2 ^ (k + 2) % 2 = b at *
   generalize hq' : p / 4 % 2 ^ (k + 1) = q' at *
   have HQ := qH hq'
   clear hq'
   generalize p / 4 % 2 ^ k = q at *
   have HCELL := qH (a0i q b k q' hb2 hstep)
   have HBIT := qH hbit
   clear hstep hbit hb2
   have hlo : (0 : Int) ≤ (k : Int) / 64 ∧ (k : Int) / 64 < 4 := by omega
   have hlo2 : (0 : Int) ≤ (k : Int) % 64 ∧ (k : Int) % 64 < 64 := by omega
   have e1 : IntKind.i64.wrap ((k : Int) / 64) = (k : Int) / 64 := IntWalk.i64_in _ Ab
   have e2 : (k : Int).tmod 64 = (k : Int) % 64 := Int.tmod_eq_emod_of_nonneg Ab
   have e3 : IntKind.i64.wrap ((k : Int) + 2) = (k : Int) + 2 := IntWalk.i64_in _ Ab
   have e4 : ((k : Int) / 64).toNat = k / 64 := by omega
   have e5 : ((k : Int) % 64).toNat = k % 64 := by omega
   go_wp2_with fail
   refine wp_region_noPanic ?_
   refine aP (fun wx => St Nob w wx [(g2, cw 4 p ++ cw 4 (B64 ^ 4 - p), 78), (g3, cw 4 a, 60), (g4, cw 4 0, 60), (g6, cw 4 q, 60)]) 16 (.w 0 (.w 1 (.w 2 (.w 3 (.w 4 (.t 5 (.w 6 (.t 7 (.w 8 (.w 9 (.w 11 (.w 12 (.r 10 (.w 13 (.w 14 (.w 15 (.m 16 .nil))))))))))))))))) Aa Aa st.drew (fun _ _ _ _ _ h => h) ?_
   have hd4 := st.drew
   clear st
   refine aJ rfl rfl apW ?_
   try simp only [J]
   refine aJ rfl rfl apW ?_
   try simp only [J]
   refine aJ rfl rfl apW ?_
   try simp only [J]
   refine aJ rfl rfl apW ?_
   try simp only [J]
   refine aJ rfl rfl apW ?_
   try simp only [J]
   refine jY (v := ?_) rfl rfl (fun wx hS => ?_) ?_
   rotate_left 1
   ·(have hc := (St.at hS 3 rfl).cell (bL 4 q (k / 64) Ab); clear hS; go_simp; with_reducible rfl)
   try simp only [J]
   refine aJ rfl rfl apW ?_
   try simp only [J]
   refine aV rfl rfl rfl rfl (cw 4 p) (fun wx hS => St.rangeL hS 0 rfl 0 _ (qL 4 4 _ _)) underlying60 rfl Ad ?_
   try simp only [J]
   refine aJ rfl rfl apW ?_
   try simp only [J]
   refine aJ rfl rfl apW ?_
   try simp only [J]
   refine aJ rfl rfl apW ?_
   try simp only [J]
   refine aJ rfl rfl apW ?_
   try simp only [J]
   refine bC rfl rfl ?_
   go_simp
   refine (HBIT.out _).mono ?_
   rintro e' w5 ⟨rfl, hf5⟩
   have st5 := hd4.keep hf5
   clear hf5
   clear hd4
   refine ⟨st5, ?_⟩
   try simp only [J]
   refine aJ rfl rfl apW ?_
   try simp only [J]
   refine aJ rfl rfl apW ?_
   try simp only [J]
   refine aJ rfl rfl apW ?_
   try simp only [J]
   refine aU rfl rfl ?_
   have f1 := (st5.at 3 rfl).free (k / 64) Av
   have c1 := (st5.at 3 rfl).cell (bL 4 q (k / 64) Ab)
   go_simp
   have st6 := st5.set 3 rfl (k / 64) (.int .u64 (bits .or .u64 (lw q (k / 64) : Nat) (IntKind.u64.wrap ((b : Int) * 2 ^ (k % 64)))))
   simp only [List.set_cons_zero, List.set_cons_succ] at st6
   rw [HCELL.out] at st6
   clear f1 c1 st5
   try simp only [J]
   refine aH ?_
   refine NoPanic.normal ?_
   go_wp2
   go_roundw
   case rel => exact ⟨k + 1, by omega, by go_num, by rw [HQ.out]; exact st6⟩
   case measure => simp [intOf]; omega
  ·have hge : ¬ ((k : Int) < 254) := by omega
   have hk2 : k = 254 := by omega
   rw [hk2, oE p HP.out] at st
   clear hk2
   generalize p / 4 = Q at *
   have c1 := (st.at 3 rfl).cell (bL 4 Q 0 Ac)
   have f1 := (st.at 3 rfl).free 0 Bc
   have st9 := st.set 3 rfl 0 (.int .u64 ((lw Q 0 : Int) + 1))
   have hlow := HLOW.out
   have e1 : IntKind.u64.wrap ((lw Q 0 : Int) + 1) = (lw Q 0 : Int) + 1 := IntWalk.u64_in _ Ab
   clear st
   go_wp2_with (with_reducible refine AA 33 ?_)
   simp only [List.set_cons_zero, List.set_cons_succ] at st9
   rw [HLC.out] at st9
   clear c1 f1 hlow e1
   refine aM st9 0 rfl rfl rfl underlying78 rfl rfl Ad ?_
   go_wp2_with (with_reducible refine AA 34 ?_)
   refine aI st9 1 rfl rfl rfl underlying60 rfl Ad ?_
   go_wp2_with (with_reducible refine AA 35 ?_)
   refine aI st9 3 rfl rfl rfl underlying60 rfl Ad ?_
   go_wp2_with fail
   refine (HPOW.out _).mono ?_
   rintro e' w10 ⟨rfl, hf10⟩
   have st10 := st9.keep hf10
   clear st9 hf10
   go_wp2_with (with_reducible refine AA 8 ?_)
   refine aA st10 rfl rfl (z := zAd) Aa (cw 4 0) Af ?_
   intro g8 w11 st11
   clear st10
   go_wp2_with (with_reducible refine AB ?_)
   refine aB st11 4 rfl rfl rfl rfl rfl Ah Ad (aF _ _) ?_
   intro w12 st12
   clear st11
   go_wp2_with fail
   refine wp_region_noPanic ?_
   refine aP (fun wx => St Nob w wx [(g2, cw 4 p ++ cw 4 (B64 ^ 4 - p), 78), (g3, cw 4 a, 60), (g4, cw 4 0, 60), (g6, cw 4 n, 60), (g8, cw 4 R, 60)]) 5 (.t 0 (.t 1 (.t 2 (.t 4 (.r 3 (.m 5 .nil)))))) Aa Aa st12.drew (fun _ _ _ _ _ h => h) ?_
   have hd12 := st12.drew
   clear st12
   refine aV rfl rfl rfl rfl (cw 4 p ++ cw 4 (B64 ^ 4 - p)) (fun wx hS => St.rangeL hS 0 rfl 0 _ dZl) underlying78 rfl Ad ?_
   try simp only [J]
   refine aV rfl rfl rfl rfl (cw 4 R) (fun wx hS => St.rangeL hS 4 rfl 0 _ dZl) underlying60 rfl Ad ?_
   try simp only [J]
   refine aV rfl rfl rfl rfl (cw 4 R) (fun wx hS => St.rangeL hS 4 rfl 0 _ dZl) underlying60 rfl Ad ?_
   try simp only [J]
   refine aV rfl rfl rfl rfl (cw 4 a) (fun wx hS => St.rangeL hS 1 rfl 0 _ dZl) underlying60 rfl Ad ?_
   try simp only [J]
   refine bC rfl rfl ?_
   go_simp
   refine (oB p R R _ HP0.out HP.out HR4.out HR4.out).mono ?_
   rintro e' w13 ⟨rfl, hf13⟩
   have st13 := hd12.keep hf13
   clear hf13
   clear hd12
   refine ⟨st13, ?_⟩
   try simp only [J]
   refine aU rfl rfl ?_
   refine d0t (R * R % p) a HRR.out HA.out 60 underlying60 Tryz.eqGuardType60 rfl rfl rfl HB.out ?_
   try simp only [J]
   refine aH ?_
   refine NoPanic.normal ?_
   have c1 := (st13.at 4 rfl).cell (bL 4 R 0 Ac)
   have hla := uK R
   rw [HPAR.out] at hla
   go_wp2_with (with_reducible refine AA 48 ?_)
   refine aM st13 0 rfl rfl rfl underlying78 rfl rfl Ad ?_
   go_wp2_with (with_reducible refine AA 49 ?_)
   refine aI st13 4 rfl rfl rfl underlying60 rfl Ad ?_
   go_wp2_with fail
   refine (c0S p R _ HRP.out HP.out HR4.out).mono ?_
   rintro e' w14 ⟨rfl, hf14⟩
   have st14 := st13.keep hf14
   clear st13 hf14
   go_wp2_with (with_reducible refine AB ?_)
   refine aB st14 4 rfl rfl rfl rfl rfl Ah Ad (aF _ _) ?_
   intro w15 st15
   clear st14
   go_wp2_with (with_reducible refine AA 51 ?_)
   refine aI st15 4 rfl rfl rfl underlying60 rfl Ad ?_
   go_wp2_with (with_reducible refine AB ?_)
   refine aB st15 2 rfl rfl rfl rfl rfl Ah Ad (aF _ _) ?_
   intro w16 st16
   clear st15
   have hr := st16.at 2 rfl
   have hfr := st16.fr
   clear st16
   go_wp2_with fail
   exact bodyPost_ret (cB rfl rfl hr underlying60 Ad rfl) rfl ⟨rfl, hfr⟩
end
section
open Go.RowKit Go.Mv Mvp
theorem r0u {k : Int} {m : Md} (h : KindOf k m) : lw (m.M / 4) 0 + 1 < 18446744073709551616 := by
 cases h
 ·decide
 ·decide
theorem m0d (p a : Nat) (w : World) (hp1 : 1 < p) (hp : p < B64 ^ 4) (ha : a < p) (hlow : lw (p / 4) 0 + 1 < 18446744073709551616) (hr : dW p a = true) :
  Calls prog 186 #[fv p, i4 a] w fun e w' => e = .returned (.tuple #[i4 (rtV p a % p), .bool true]) ∧ Fr Nob w w' := by
 unfold dW at hr
 unfold rtV
 unfold rtN at *
 have hn4 : p / 4 + 1 < B64 ^ 4 := by omega
 generalize hn : p / 4 + 1 = n at *
 have hpow := fun wx => i0b p a n wx hp1 hp (Nat.lt_trans ha hp) hn4
 have hR : a ^ n % p < p := Nat.mod_lt _ Ab
 rw [Nat.mul_mod, Nat.mod_eq_of_lt ha] at hr
 have hsame : a ^ n % p = a ^ n % p % p := (Nat.mod_mod _ _).symm
 generalize hRR : a ^ n % p = R at *
 have hb : decide (R * R % p = a) = true := by simpa using hr
 by_cases hpar : R % 2 = 1
 ·rw [if_pos hpar]
  exact j0n p a n R w Ab hp hn hn4 (Nat.lt_trans ha hp) hlow hR hpow hb hpar
 ·rw [if_neg hpar, hRR]
  exact g0t p a n R w Ab hp hn hn4 (Nat.lt_trans ha hp) hlow hR hpow hb Ab
theorem j0o (p a : Nat) (w : World) (hp1 : 1 < p) (hp : p < B64 ^ 4) (ha : a < p) (hlow : lw (p / 4) 0 + 1 < 18446744073709551616) (hr : dW p a = false) :
  Calls prog 186 #[fv p, i4 a] w fun e w' => e = .returned (.tuple #[i4 0, .bool false]) ∧ Fr Nob w w' := by
 unfold dW at hr
 unfold rtN at *
 have hn4 : p / 4 + 1 < B64 ^ 4 := by omega
 generalize hn : p / 4 + 1 = n at *
 have hpow := fun wx => i0b p a n wx hp1 hp (Nat.lt_trans ha hp) hn4
 have hR : a ^ n % p < p := Nat.mod_lt _ Ab
 rw [Nat.mul_mod, Nat.mod_eq_of_lt ha] at hr
 generalize hRR : a ^ n % p = R at *
 have hb : decide (R * R % p = a) = false := by simpa using hr
 exact m0c p a n R w Ab hp hn hn4 (Nat.lt_trans ha hp) hlow hR hpow hb
attribute [local irreducible] bI lw mix cw cT dG cS bQ aO beN dO cI dI bM bT elN mdL cL dE rtN dW rtV
end
section
open Go.RowKit Go.Mv Mvp Mvq
def kN (a : K) : Nat := a.val
theorem mPM : mP.M = fP := i0z
theorem d0u (a : K) : kN a < mP.M := by rw [mPM]; exact a.isLt
theorem nU (a : K) : kN a < B64 ^ 4 := Nat.lt_trans (d0u a) fR.lt
theorem b0Z (n : Nat) : kN (kc n) = n % fP := rfl
theorem d0v (a : K) : kc (kN a) = a := by
 apply Fin.ext
 show a.val % fP = a.val
 exact Nat.mod_eq_of_lt a.isLt
theorem n0l {a b : K} (h : kN a = kN b) : a = b := Fin.ext h
theorem hK0 : KindOf 0 mP := .zero
theorem bO (w : World) : Calls prog 112 #[] w fun e w' => e = .returned (fv mP.M) ∧ Fr Nob w w' := by
 go_enter func112, ntmps112
 have st0 := St.start Nob w
 go_wp2_with (with_reducible refine AA 0 ?_)
 refine aA st0 rfl rfl (z := .agg #[.int .u64 0, .int .u64 0, .int .u64 0, .int .u64 0, .int .u64 0, .int .u64 0, .int .u64 0, .int .u64 0]) Aa (cw 8 0) Af ?_
 intro g0 w1 st1
 clear st0
 go_wp2_with fail
 refine (q0G hK0 _).mono ?_
 rintro e' w2 ⟨rfl, hf2⟩
 have st2 := st1.keep hf2
 clear st1 hf2
 go_wp2_with (with_reducible refine AB ?_)
 refine aB st2 0 rfl rfl rfl rfl (cs := cw 4 mP.M ++ cw 4 (B64 ^ 4 - mP.M)) rfl Ah Ad (uE _ _ _ _) ?_
 intro w3 st3
 clear st2
 have hr := st3.at 0 rfl
 have hfr := st3.fr
 clear st3
 go_wp2_with fail
 exact bodyPost_ret (aY rfl rfl hr underlying78 rfl Ad) rfl ⟨rfl, hfr⟩
theorem jV (a b r : K) (hr : a * b = r) (w : World) : Calls prog 58 #[fv mP.M, i4 (kN a), i4 (kN b)] w fun e w' => e = .returned (i4 (kN r)) ∧ Fr Nob w w' := by
 have h := oB mP.M (kN a) (kN b) w (by have := fR.one; omega) fR.lt (nU a) (nU b)
 have e : kN a * kN b % mP.M = kN r := by rw [mPM, ← b0Z, bN, d0v, d0v, hr]
 rwa [e] at h
theorem p0l (a b r : K) (hr : a + b = r) (w : World) : Calls prog 57 #[fv mP.M, i4 (kN a), i4 (kN b)] w fun e w' => e = .returned (i4 (kN r)) ∧ Fr Nob w w' := by
 have h := c0R mP.M (kN a) (kN b) w (by have := fR.one; omega) fR.lt (nU a) (nU b)
 have e : (kN a + kN b) % mP.M = kN r := by rw [mPM, ← b0Z, qT, d0v, d0v, hr]
 rwa [e] at h
theorem m0e (a b r : K) (hr : a - b = r) (w : World) : Calls prog 137 #[fv mP.M, i4 (kN a), i4 (kN b)] w fun e w' => e = .returned (i4 (kN r)) ∧ Fr Nob w w' := by
 have hb := Nat.mod_eq_of_lt (d0u b)
 refine s0Q mP.M (kN a) (kN b) (kN r) w (by have := fR.one; omega) fR.lt (nU a) (nU b) (Nat.le_of_lt (d0u b)) ?_
 rw [← hb, mPM, ← b0Z, gW, d0v, d0v, hr]
theorem t0A (a r : K) (hr : -a = r) (w : World) : Calls prog 142 #[fv mP.M, i4 (kN a)] w fun e w' => e = .returned (i4 (kN r)) ∧ Fr Nob w w' := by
 have h := c0S mP.M (kN a) w (Nat.le_of_lt (d0u a)) fR.lt (nU a)
 have hb := Nat.mod_eq_of_lt (d0u a)
 have e : (mP.M - kN a) % mP.M = kN r := by
  rw [← hb, mPM, ← b0Z, d0f, d0v, hr]
 rwa [e] at h
theorem r0v (a : K) (b : Bool) (hb : decide (a = 0) = b) (w : World) : Calls prog 123 #[i4 (kN a)] w fun e w' => e = .returned (.bool b) ∧ Fr Nob w w' := by
 have h := e0i (kN a) w (nU a)
 have e : decide (kN a = 0) = b := by
  rw [← hb, Bool.eq_iff_iff, decide_eq_true_eq, decide_eq_true_eq]
  exact ⟨fun h => n0l (h.trans rfl), fun h => by rw [h]; rfl⟩
 rwa [e] at h
theorem d0w (w : World) : Calls prog 156 #[.int .u64 1] w fun e w' => e = .returned (i4 (kN 1)) ∧ Fr Nob w w' := uD 1 w Ac
theorem j0p (w : World) : Calls prog 156 #[.int .u64 7] w fun e w' => e = .returned (i4 (kN 7)) ∧ Fr Nob w w' := uD 7 w Ac
theorem j0q (x y : K) {b : Bool} (hb : decide (x = y) = b) (w : World) : (Op.equal 60 (.agg (cw 4 (kN x)).toArray) (.agg (cw 4 (kN y)).toArray)).run prog w = .ok b w := by
 rw [p0e (kN x) (kN y) (nU x) (nU y) w]
 congr 1
 rw [← hb, Bool.eq_iff_iff, beq_iff_eq, decide_eq_true_eq]
 exact ⟨n0l, fun h => by rw [h]⟩
theorem kW (x y : K) {o : Oper} {a : Act} {p q : Operand} {T : TypeId} (ho : o.op = .binOp .eql 60 p q T) (hp : a.eval p = i4 (kN x)) (hq : a.eval q = i4 (kN y)) {b : Bool} (hb : decide (x = y) = b) (w : World) :
  (execOp a.eval o).run prog w = .ok (.value (.bool b)) w :=
 kU ho hp hq w (run_eqGuard_agg w .eql 60 p q _ _ Tryz.eqGuardType60) (mO w (j0q x y hb w))
theorem p0m (n : Nat) (hn : n < mP.M) (hr : dW fP n = true) (w : World) : Calls prog 186 #[fv mP.M, i4 n] w fun e w' => e = .returned (.tuple #[i4 (kN (kc (rtV fP n))), .bool true]) ∧ Fr Nob w w' := by
 have h := m0d mP.M n w fR.one fR.lt hn (r0u hK0) (by rw [mPM]; exact hr)
 rw [mPM, ← b0Z, ← mPM] at h
 exact h
theorem p0n (n : Nat) (hn : n < mP.M) (hr : dW fP n = false) (w : World) : Calls prog 186 #[fv mP.M, i4 n] w fun e w' => e = .returned (.tuple #[i4 (kN 0), .bool false]) ∧ Fr Nob w w' :=
 j0o mP.M n w fR.one fR.lt hn (r0u hK0) (by rw [mPM]; exact hr)
end
section
open Go.RowKit Go.Mv Mvp Mvq
def rpL (x y z : K) : List Value := cw 4 (kN x) ++ (cw 4 (kN y) ++ cw 4 (kN z))
def rpV (x y z : K) : Value := .agg (rpL x y z).toArray
theorem vI : kN 0 = 0 := rfl
theorem qA (a b c : Nat) : prog.built 62 [(0, i4 a), (1, i4 b), (2, i4 c)] = some (cw 4 a ++ (cw 4 b ++ cw 4 c)).toArray := by kernel_rfl
theorem j0r (b : Nat) : prog.built 62 [(1, i4 b)] = some (cw 4 0 ++ (cw 4 b ++ cw 4 0)).toArray := by kernel_rfl
theorem mX : prog.built 62 [] = some (cw 4 0 ++ (cw 4 0 ++ cw 4 0)).toArray := by kernel_rfl
theorem nL : (prog.info? 60).map (·.zero) = some (some (.agg (cw 4 0).toArray)) := by kernel_rfl
attribute [local irreducible] bI lw mix cw cT dG cS bQ aO beN dO cI dI bM bT elN mdL cL rtV dW kN kc gE cK
theorem c0a (w : World) : Calls prog 95 #[] w fun e w' => e = .returned (rpV 0 1 0) ∧ Fr Nob w w' := by
 have st0 := St.start Nob w
 go_enter func95, ntmps95
 go_wp2_with (with_reducible refine AA 0 ?_)
 refine aA st0 rfl rfl (z := zAc) Aa (cw 12 0) Af ?_
 intro g0 w1 st1
 clear st0
 go_wp2_with fail
 refine (d0w _).mono ?_
 rintro e' w2 ⟨rfl, hf2⟩
 have st2 := st1.keep hf2
 clear st1 hf2
 go_wp2_with (with_reducible refine AA 2 ?_)
 refine cD rfl rfl _ (j0r _) ?_
 go_wp2_with (with_reducible refine AB ?_)
 refine aB st2 0 rfl rfl rfl rfl rfl Ai Aa (bX _ _ _) ?_
 intro w3 st3
 clear st2
 have hr := st3.at 0 rfl
 have hfr := st3.fr
 clear st3
 go_wp2_with fail
 exact bodyPost_ret (aY rfl rfl hr underlying62 rfl Aa) rfl ⟨by unfold rpV rpL; rw [vI], hfr⟩
theorem eG (x y z : K) (b : Bool) (hb : decide (z = 0) = b) (w : World) : Calls prog 111 #[rpV x y z] w fun e w' => e = .returned (.bool b) ∧ Fr Nob w w' := by
 have HB := qH hb
 clear hb
 unfold rpV rpL
 have st0 := St.start Nob w
 go_enter func111, ntmps111
 go_wp2_with (with_reducible refine AA 1 ?_)
 refine aL st0 rfl rfl rfl (cw 4 (kN x) ++ (cw 4 (kN y) ++ cw 4 (kN z))) rfl ?_
 intro g1 w1 st1
 clear st0
 go_wp2_with (with_reducible refine AA 4 ?_)
 refine fA rfl rfl underlying60 rfl (st1.at 0 rfl) (cw 4 (kN z)) (mR _ _ _) Aa ?_
 go_wp2_with fail
 refine (r0v z b HB.out _).mono ?_
 rintro e' w2 ⟨rfl, hf2⟩
 have st2 := st1.keep hf2
 clear st1 hf2
 have hfr := st2.fr
 clear st2
 go_wp2_with fail
 go_ret
 exact ⟨rfl, hfr⟩
theorem m0f (x y z r : K) (er : -y = r) (w : World) : Calls prog 82 #[rpV x y z] w fun e w' => e = .returned (rpV x r z) ∧ Fr Nob w w' := by
 have Hr := qH er
 clear er
 unfold rpV rpL
 have st0 := St.start Nob w
 go_enter func82, ntmps82
 go_wp2_with (with_reducible refine AA 1 ?_)
 refine aL st0 rfl rfl rfl (cw 4 (kN x) ++ (cw 4 (kN y) ++ cw 4 (kN z))) rfl ?_
 intro g1 w1 st1
 clear st0
 go_wp2_with (with_reducible refine AA 2 ?_)
 refine aA st1 rfl rfl (z := zAc) Aa (cw 12 0) Af ?_
 intro g2 w2 st2
 clear st1
 go_wp2_with fail
 refine wp_region_noPanic ?_
 refine aE st2 9 [.w 0, .t 1, .w 3, .t 4, .w 6, .t 7, .c 2, .c 5, .w 8] (.m 9 .nil) Aa Aa (fun _ _ _ _ _ h => h) ?_
 clear st2
 refine aS rfl rfl apX ?_
 try simp only [J]
 refine aD rfl rfl rfl (fun _ => rfl) (cw 4 (kN x)) (fun wx hS => St.rangeL hS 0 rfl 0 _ (vS _ _ _)) underlying60 rfl Aa ?_
 try simp only [J]
 refine aS rfl rfl apX ?_
 try simp only [J]
 refine aD rfl rfl rfl (fun _ => rfl) (cw 4 (kN y)) (fun wx hS => St.rangeL hS 0 rfl 4 _ (a0z _ _ _)) underlying60 rfl Aa ?_
 try simp only [J]
 refine aS rfl rfl apX ?_
 try simp only [J]
 refine aD rfl rfl rfl (fun _ => rfl) (cw 4 (kN z)) (fun wx hS => St.rangeL hS 0 rfl 8 _ (mR _ _ _)) underlying60 rfl Aa ?_
 try simp only [J]
 refine aC rfl rfl rfl call112 (fun w hS hR => bO _) (fun _ => rfl) ?_
 try simp only [J]
 refine aC rfl rfl rfl call142 (fun w hS hR => t0A y r Hr.out _) (fun _ => rfl) ?_
 try simp only [J]
 refine aS rfl rfl (fun _ => cC rfl _ (qA _ _ _)) ?_
 try simp only [J]
 refine bB fun xq w3 st3 hR => ?_
 try dsimp only
 clear hR xq
 refine aU rfl rfl ?_
 refine aG st3 1 rfl rfl rfl rfl Ai Aa (bX _ _ _) ?_
 intro w4 st4
 repeat (first | simp only [List.cons_append] at st4 | simp only [List.nil_append] at st4 | simp only [List.set_cons_succ] at st4 | simp only [List.set_cons_zero] at st4)
 clear st3
 try simp only [Act.put]
 refine aH ?_
 refine NoPanic.normal ?_
 have hr := st4.at 1 rfl
 have hfr := st4.fr
 clear st4
 go_wp2_with fail
 exact bodyPost_ret (aY rfl rfl hr underlying62 rfl Aa) rfl ⟨rfl, hfr⟩
theorem j0s (x y z : K) (xx d1 d y2 ee e2 e3 t1 t2 x2 t3 t X s1 s2 s3 s4 Y Z : K) (exx : x * x = xx) (ed1 : xx + xx = d1) (ed : d1 + xx = d) (ey2 : y + y = y2) (eee : y2 * z = ee) (ee2 : ee * ee = e2) (ee3 : e2 * ee = e3) (et1 : d * d = t1) (et2 : t1 * z = t2) (ex2 : x + x = x2) (et3 : x2 * e2 = t3) (et : t2 - t3 = t) (eX : ee * t = X) (es1 : x * e2 = s1) (es2 : s1 - t = s2) (es3 : d * s2 = s3) (es4 : y * e3 = s4) (eY : s3 - s4 = Y) (eZ : e3 * z = Z) (w : World) : Calls prog 136 #[rpV x y z] w fun e w' => e = .returned (rpV X Y Z) ∧ Fr Nob w w' := by
 have Hxx := qH exx
 have Hd1 := qH ed1
 have Hd := qH ed
 have Hy2 := qH ey2
 have Hee := qH eee
 have He2 := qH ee2
 have He3 := qH ee3
 have Ht1 := qH et1
 have Ht2 := qH et2
 have Hx2 := qH ex2
 have Ht3 := qH et3
 have Ht := qH et
 have HX := qH eX
 have Hs1 := qH es1
 have Hs2 := qH es2
 have Hs3 := qH es3
 have Hs4 := qH es4
 have HY := qH eY
 have HZ := qH eZ
 clear exx ed1 ed ey2 eee ee2 ee3 et1 et2 ex2 et3 et eX es1 es2 es3 es4 eY eZ
 unfold rpV rpL
 have st0 := St.start Nob w
 go_enter func136, ntmps136
 go_wp2_with (with_reducible refine AA 1 ?_)
 refine aL st0 rfl rfl rfl (cw 4 (kN x) ++ (cw 4 (kN y) ++ cw 4 (kN z))) rfl ?_
 intro g1 w1 st1
 clear st0
 go_wp2_with (with_reducible refine AA 2 ?_)
 refine aA st1 rfl rfl (z := zAc) Aa (cw 12 0) Af ?_
 intro g2 w2 st2
 clear st1
 go_wp2_with fail
 refine wp_region_noPanic ?_
 refine aE st2 7 [.o 6, .w 1, .t 2, .w 3, .t 4, .c 0, .c 5, .j 6] (.m 7 .nil) Aa Aa (fun _ _ _ _ _ h => h) ?_
 clear st2
 refine dK rfl rfl rfl nL (cw 4 0) rfl ?_
 try simp only [J]
 refine aS rfl rfl apX ?_
 try simp only [J]
 refine aD rfl rfl rfl (fun _ => rfl) (cw 4 (kN x)) (fun wx hS => St.rangeL hS 0 rfl 0 _ (vS _ _ _)) underlying60 rfl Aa ?_
 try simp only [J]
 refine aS rfl rfl apX ?_
 try simp only [J]
 refine aD rfl rfl rfl (fun _ => rfl) (cw 4 (kN x)) (fun wx hS => St.rangeL hS 0 rfl 0 _ (vS _ _ _)) underlying60 rfl Aa ?_
 try simp only [J]
 refine aC rfl rfl rfl call112 (fun w hS hR => bO _) (fun _ => rfl) ?_
 try simp only [J]
 refine aC rfl rfl rfl call58 (fun w hS hR => jV x x xx Hxx.out _) (fun _ => rfl) ?_
 try simp only [J]
 refine dL List.mem_cons_self fun g3 => ?_
 simp only [upd, reduceIte]
 refine bB fun xq w3 st3 hR => ?_
 try dsimp only
 clear hR xq
 refine aU rfl rfl ?_
 refine aG st3 2 rfl rfl rfl rfl Ai Aa (aF _ _) ?_
 intro w4 st4
 repeat (first | simp only [List.cons_append] at st4 | simp only [List.nil_append] at st4 | simp only [List.set_cons_succ] at st4 | simp only [List.set_cons_zero] at st4)
 clear st3
 try simp only [Act.put]
 refine aH ?_
 refine NoPanic.normal ?_
 go_wp2_with fail
 refine wp_region_noPanic ?_
 refine aE st4 8 [.o 7, .t 2, .t 3, .t 5, .c 0, .c 1, .c 4, .c 6, .j 7] (.m 8 .nil) Aa Aa (fun _ _ _ _ _ h => h) ?_
 clear st4
 refine dK rfl rfl rfl nL (cw 4 0) rfl ?_
 try simp only [J]
 refine aD rfl rfl rfl (fun _ => rfl) (cw 4 (kN xx)) (fun wx hS => St.rangeL hS 2 rfl 0 _ dZl) underlying60 rfl Aa ?_
 try simp only [J]
 refine aD rfl rfl rfl (fun _ => rfl) (cw 4 (kN xx)) (fun wx hS => St.rangeL hS 2 rfl 0 _ dZl) underlying60 rfl Aa ?_
 try simp only [J]
 refine aD rfl rfl rfl (fun _ => rfl) (cw 4 (kN xx)) (fun wx hS => St.rangeL hS 2 rfl 0 _ dZl) underlying60 rfl Aa ?_
 try simp only [J]
 refine aC rfl rfl rfl call112 (fun w hS hR => bO _) (fun _ => rfl) ?_
 try simp only [J]
 refine aC rfl rfl rfl call112 (fun w hS hR => bO _) (fun _ => rfl) ?_
 try simp only [J]
 refine aC rfl rfl rfl call57 (fun w hS hR => p0l xx xx d1 Hd1.out _) (fun _ => rfl) ?_
 try simp only [J]
 refine aC rfl rfl rfl call57 (fun w hS hR => p0l d1 xx d Hd.out _) (fun _ => rfl) ?_
 try simp only [J]
 refine dL List.mem_cons_self fun g4 => ?_
 simp only [upd, reduceIte]
 refine bB fun xq w5 st5 hR => ?_
 try dsimp only
 clear hR xq
 refine aU rfl rfl ?_
 refine aG st5 3 rfl rfl rfl rfl Ai Aa (aF _ _) ?_
 intro w6 st6
 repeat (first | simp only [List.cons_append] at st6 | simp only [List.nil_append] at st6 | simp only [List.set_cons_succ] at st6 | simp only [List.set_cons_zero] at st6)
 clear st5
 try simp only [Act.put]
 refine aH ?_
 refine NoPanic.normal ?_
 go_wp2_with fail
 refine wp_region_noPanic ?_
 refine aE st6 11 [.o 10, .w 2, .t 3, .w 4, .t 5, .w 7, .t 8, .c 0, .c 1, .c 6, .c 9, .j 10] (.m 11 .nil) Aa Aa (fun _ _ _ _ _ h => h) ?_
 clear st6
 refine dK rfl rfl rfl nL (cw 4 0) rfl ?_
 try simp only [J]
 refine aS rfl rfl apX ?_
 try simp only [J]
 refine aD rfl rfl rfl (fun _ => rfl) (cw 4 (kN y)) (fun wx hS => St.rangeL hS 0 rfl 4 _ (a0z _ _ _)) underlying60 rfl Aa ?_
 try simp only [J]
 refine aS rfl rfl apX ?_
 try simp only [J]
 refine aD rfl rfl rfl (fun _ => rfl) (cw 4 (kN y)) (fun wx hS => St.rangeL hS 0 rfl 4 _ (a0z _ _ _)) underlying60 rfl Aa ?_
 try simp only [J]
 refine aS rfl rfl apX ?_
 try simp only [J]
 refine aD rfl rfl rfl (fun _ => rfl) (cw 4 (kN z)) (fun wx hS => St.rangeL hS 0 rfl 8 _ (mR _ _ _)) underlying60 rfl Aa ?_
 try simp only [J]
 refine aC rfl rfl rfl call112 (fun w hS hR => bO _) (fun _ => rfl) ?_
 try simp only [J]
 refine aC rfl rfl rfl call112 (fun w hS hR => bO _) (fun _ => rfl) ?_
 try simp only [J]
 refine aC rfl rfl rfl call57 (fun w hS hR => p0l y y y2 Hy2.out _) (fun _ => rfl) ?_
 try simp only [J]
 refine aC rfl rfl rfl call58 (fun w hS hR => jV y2 z ee Hee.out _) (fun _ => rfl) ?_
 try simp only [J]
 refine dL List.mem_cons_self fun g5 => ?_
 simp only [upd, reduceIte]
 refine bB fun xq w7 st7 hR => ?_
 try dsimp only
 clear hR xq
 refine aU rfl rfl ?_
 refine aG st7 4 rfl rfl rfl rfl Ai Aa (aF _ _) ?_
 intro w8 st8
 repeat (first | simp only [List.cons_append] at st8 | simp only [List.nil_append] at st8 | simp only [List.set_cons_succ] at st8 | simp only [List.set_cons_zero] at st8)
 clear st7
 try simp only [Act.put]
 refine aH ?_
 refine NoPanic.normal ?_
 go_wp2_with fail
 refine wp_region_noPanic ?_
 refine aE st8 5 [.o 4, .t 1, .t 2, .c 0, .c 3, .j 4] (.m 5 .nil) Aa Aa (fun _ _ _ _ _ h => h) ?_
 clear st8
 refine dK rfl rfl rfl nL (cw 4 0) rfl ?_
 try simp only [J]
 refine aD rfl rfl rfl (fun _ => rfl) (cw 4 (kN ee)) (fun wx hS => St.rangeL hS 4 rfl 0 _ dZl) underlying60 rfl Aa ?_
 try simp only [J]
 refine aD rfl rfl rfl (fun _ => rfl) (cw 4 (kN ee)) (fun wx hS => St.rangeL hS 4 rfl 0 _ dZl) underlying60 rfl Aa ?_
 try simp only [J]
 refine aC rfl rfl rfl call112 (fun w hS hR => bO _) (fun _ => rfl) ?_
 try simp only [J]
 refine aC rfl rfl rfl call58 (fun w hS hR => jV ee ee e2 He2.out _) (fun _ => rfl) ?_
 try simp only [J]
 refine dL List.mem_cons_self fun g6 => ?_
 simp only [upd, reduceIte]
 refine bB fun xq w9 st9 hR => ?_
 try dsimp only
 clear hR xq
 refine aU rfl rfl ?_
 refine aG st9 5 rfl rfl rfl rfl Ai Aa (aF _ _) ?_
 intro w10 st10
 repeat (first | simp only [List.cons_append] at st10 | simp only [List.nil_append] at st10 | simp only [List.set_cons_succ] at st10 | simp only [List.set_cons_zero] at st10)
 clear st9
 try simp only [Act.put]
 refine aH ?_
 refine NoPanic.normal ?_
 go_wp2_with fail
 refine wp_region_noPanic ?_
 refine aE st10 5 [.o 4, .t 1, .t 2, .c 0, .c 3, .j 4] (.m 5 .nil) Aa Aa (fun _ _ _ _ _ h => h) ?_
 clear st10
 refine dK rfl rfl rfl nL (cw 4 0) rfl ?_
 try simp only [J]
 refine aD rfl rfl rfl (fun _ => rfl) (cw 4 (kN e2)) (fun wx hS => St.rangeL hS 5 rfl 0 _ dZl) underlying60 rfl Aa ?_
 try simp only [J]
 refine aD rfl rfl rfl (fun _ => rfl) (cw 4 (kN ee)) (fun wx hS => St.rangeL hS 4 rfl 0 _ dZl) underlying60 rfl Aa ?_
 try simp only [J]
 refine aC rfl rfl rfl call112 (fun w hS hR => bO _) (fun _ => rfl) ?_
 try simp only [J]
 refine aC rfl rfl rfl call58 (fun w hS hR => jV e2 ee e3 He3.out _) (fun _ => rfl) ?_
 try simp only [J]
 refine dL List.mem_cons_self fun g7 => ?_
 simp only [upd, reduceIte]
 refine bB fun xq w11 st11 hR => ?_
 try dsimp only
 clear hR xq
 refine aU rfl rfl ?_
 refine aG st11 6 rfl rfl rfl rfl Ai Aa (aF _ _) ?_
 intro w12 st12
 repeat (first | simp only [List.cons_append] at st12 | simp only [List.nil_append] at st12 | simp only [List.set_cons_succ] at st12 | simp only [List.set_cons_zero] at st12)
 clear st11
 try simp only [Act.put]
 refine aH ?_
 refine NoPanic.normal ?_
 go_wp2_with fail
 refine wp_region_noPanic ?_
 refine aE st12 20 [.o 19, .t 3, .t 4, .w 6, .t 7, .w 11, .t 12, .w 13, .t 14, .t 16, .c 0, .c 1, .c 2, .c 5, .c 8, .c 9, .c 10, .c 15, .c 17, .c 18, .j 19] (.m 20 .nil) Aa Aa (fun _ _ _ _ _ h => h) ?_
 clear st12
 refine dK rfl rfl rfl nL (cw 4 0) rfl ?_
 try simp only [J]
 refine aD rfl rfl rfl (fun _ => rfl) (cw 4 (kN d)) (fun wx hS => St.rangeL hS 3 rfl 0 _ dZl) underlying60 rfl Aa ?_
 try simp only [J]
 refine aD rfl rfl rfl (fun _ => rfl) (cw 4 (kN d)) (fun wx hS => St.rangeL hS 3 rfl 0 _ dZl) underlying60 rfl Aa ?_
 try simp only [J]
 refine aS rfl rfl apX ?_
 try simp only [J]
 refine aD rfl rfl rfl (fun _ => rfl) (cw 4 (kN z)) (fun wx hS => St.rangeL hS 0 rfl 8 _ (mR _ _ _)) underlying60 rfl Aa ?_
 try simp only [J]
 refine aS rfl rfl apX ?_
 try simp only [J]
 refine aD rfl rfl rfl (fun _ => rfl) (cw 4 (kN x)) (fun wx hS => St.rangeL hS 0 rfl 0 _ (vS _ _ _)) underlying60 rfl Aa ?_
 try simp only [J]
 refine aS rfl rfl apX ?_
 try simp only [J]
 refine aD rfl rfl rfl (fun _ => rfl) (cw 4 (kN x)) (fun wx hS => St.rangeL hS 0 rfl 0 _ (vS _ _ _)) underlying60 rfl Aa ?_
 try simp only [J]
 refine aD rfl rfl rfl (fun _ => rfl) (cw 4 (kN e2)) (fun wx hS => St.rangeL hS 5 rfl 0 _ dZl) underlying60 rfl Aa ?_
 try simp only [J]
 refine aC rfl rfl rfl call112 (fun w hS hR => bO _) (fun _ => rfl) ?_
 try simp only [J]
 refine aC rfl rfl rfl call112 (fun w hS hR => bO _) (fun _ => rfl) ?_
 try simp only [J]
 refine aC rfl rfl rfl call112 (fun w hS hR => bO _) (fun _ => rfl) ?_
 try simp only [J]
 refine aC rfl rfl rfl call58 (fun w hS hR => jV d d t1 Ht1.out _) (fun _ => rfl) ?_
 try simp only [J]
 refine aC rfl rfl rfl call58 (fun w hS hR => jV t1 z t2 Ht2.out _) (fun _ => rfl) ?_
 try simp only [J]
 refine aC rfl rfl rfl call112 (fun w hS hR => bO _) (fun _ => rfl) ?_
 try simp only [J]
 refine aC rfl rfl rfl call112 (fun w hS hR => bO _) (fun _ => rfl) ?_
 try simp only [J]
 refine aC rfl rfl rfl call57 (fun w hS hR => p0l x x x2 Hx2.out _) (fun _ => rfl) ?_
 try simp only [J]
 refine aC rfl rfl rfl call58 (fun w hS hR => jV x2 e2 t3 Ht3.out _) (fun _ => rfl) ?_
 try simp only [J]
 refine aC rfl rfl rfl call137 (fun w hS hR => m0e t2 t3 t Ht.out _) (fun _ => rfl) ?_
 try simp only [J]
 refine dL List.mem_cons_self fun g8 => ?_
 simp only [upd, reduceIte]
 refine bB fun xq w13 st13 hR => ?_
 try dsimp only
 clear hR xq
 refine aU rfl rfl ?_
 refine aG st13 7 rfl rfl rfl rfl Ai Aa (aF _ _) ?_
 intro w14 st14
 repeat (first | simp only [List.cons_append] at st14 | simp only [List.nil_append] at st14 | simp only [List.set_cons_succ] at st14 | simp only [List.set_cons_zero] at st14)
 clear st13
 try simp only [Act.put]
 refine aH ?_
 refine NoPanic.normal ?_
 go_wp2_with fail
 refine wp_region_noPanic ?_
 refine aE st14 5 [.o 4, .t 1, .t 2, .c 0, .c 3, .j 4] (.m 5 .nil) Aa Aa (fun _ _ _ _ _ h => h) ?_
 clear st14
 refine dK rfl rfl rfl nL (cw 4 0) rfl ?_
 try simp only [J]
 refine aD rfl rfl rfl (fun _ => rfl) (cw 4 (kN ee)) (fun wx hS => St.rangeL hS 4 rfl 0 _ dZl) underlying60 rfl Aa ?_
 try simp only [J]
 refine aD rfl rfl rfl (fun _ => rfl) (cw 4 (kN t)) (fun wx hS => St.rangeL hS 7 rfl 0 _ dZl) underlying60 rfl Aa ?_
 try simp only [J]
 refine aC rfl rfl rfl call112 (fun w hS hR => bO _) (fun _ => rfl) ?_
 try simp only [J]
 refine aC rfl rfl rfl call58 (fun w hS hR => jV ee t X HX.out _) (fun _ => rfl) ?_
 try simp only [J]
 refine dL List.mem_cons_self fun g9 => ?_
 simp only [upd, reduceIte]
 refine bB fun xq w15 st15 hR => ?_
 try dsimp only
 clear hR xq
 refine aU rfl rfl ?_
 refine aG st15 8 rfl rfl rfl rfl Ai Aa (aF _ _) ?_
 intro w16 st16
 repeat (first | simp only [List.cons_append] at st16 | simp only [List.nil_append] at st16 | simp only [List.set_cons_succ] at st16 | simp only [List.set_cons_zero] at st16)
 clear st15
 try simp only [Act.put]
 refine aH ?_
 refine NoPanic.normal ?_
 go_wp2_with fail
 refine wp_region_noPanic ?_
 refine aE st16 19 [.o 18, .t 2, .w 5, .t 6, .t 7, .t 9, .w 13, .t 14, .t 15, .c 0, .c 1, .c 3, .c 4, .c 8, .c 10, .c 11, .c 12, .c 16, .c 17, .j 18] (.m 19 .nil) Aa Aa (fun _ _ _ _ _ h => h) ?_
 clear st16
 refine dK rfl rfl rfl nL (cw 4 0) rfl ?_
 try simp only [J]
 refine aD rfl rfl rfl (fun _ => rfl) (cw 4 (kN d)) (fun wx hS => St.rangeL hS 3 rfl 0 _ dZl) underlying60 rfl Aa ?_
 try simp only [J]
 refine aS rfl rfl apX ?_
 try simp only [J]
 refine aD rfl rfl rfl (fun _ => rfl) (cw 4 (kN x)) (fun wx hS => St.rangeL hS 0 rfl 0 _ (vS _ _ _)) underlying60 rfl Aa ?_
 try simp only [J]
 refine aD rfl rfl rfl (fun _ => rfl) (cw 4 (kN e2)) (fun wx hS => St.rangeL hS 5 rfl 0 _ dZl) underlying60 rfl Aa ?_
 try simp only [J]
 refine aD rfl rfl rfl (fun _ => rfl) (cw 4 (kN t)) (fun wx hS => St.rangeL hS 7 rfl 0 _ dZl) underlying60 rfl Aa ?_
 try simp only [J]
 refine aS rfl rfl apX ?_
 try simp only [J]
 refine aD rfl rfl rfl (fun _ => rfl) (cw 4 (kN y)) (fun wx hS => St.rangeL hS 0 rfl 4 _ (a0z _ _ _)) underlying60 rfl Aa ?_
 try simp only [J]
 refine aD rfl rfl rfl (fun _ => rfl) (cw 4 (kN e3)) (fun wx hS => St.rangeL hS 6 rfl 0 _ dZl) underlying60 rfl Aa ?_
 try simp only [J]
 refine aC rfl rfl rfl call112 (fun w hS hR => bO _) (fun _ => rfl) ?_
 try simp only [J]
 refine aC rfl rfl rfl call112 (fun w hS hR => bO _) (fun _ => rfl) ?_
 try simp only [J]
 refine aC rfl rfl rfl call112 (fun w hS hR => bO _) (fun _ => rfl) ?_
 try simp only [J]
 refine aC rfl rfl rfl call112 (fun w hS hR => bO _) (fun _ => rfl) ?_
 try simp only [J]
 refine aC rfl rfl rfl call58 (fun w hS hR => jV x e2 s1 Hs1.out _) (fun _ => rfl) ?_
 try simp only [J]
 refine aC rfl rfl rfl call137 (fun w hS hR => m0e s1 t s2 Hs2.out _) (fun _ => rfl) ?_
 try simp only [J]
 refine aC rfl rfl rfl call58 (fun w hS hR => jV d s2 s3 Hs3.out _) (fun _ => rfl) ?_
 try simp only [J]
 refine aC rfl rfl rfl call112 (fun w hS hR => bO _) (fun _ => rfl) ?_
 try simp only [J]
 refine aC rfl rfl rfl call58 (fun w hS hR => jV y e3 s4 Hs4.out _) (fun _ => rfl) ?_
 try simp only [J]
 refine aC rfl rfl rfl call137 (fun w hS hR => m0e s3 s4 Y HY.out _) (fun _ => rfl) ?_
 try simp only [J]
 refine dL List.mem_cons_self fun g10 => ?_
 simp only [upd, reduceIte]
 refine bB fun xq w17 st17 hR => ?_
 try dsimp only
 clear hR xq
 refine aU rfl rfl ?_
 refine aG st17 9 rfl rfl rfl rfl Ai Aa (aF _ _) ?_
 intro w18 st18
 repeat (first | simp only [List.cons_append] at st18 | simp only [List.nil_append] at st18 | simp only [List.set_cons_succ] at st18 | simp only [List.set_cons_zero] at st18)
 clear st17
 try simp only [Act.put]
 refine aH ?_
 refine NoPanic.normal ?_
 go_wp2_with fail
 refine wp_region_noPanic ?_
 refine aE st18 8 [.t 0, .t 1, .t 3, .w 4, .t 5, .c 2, .c 6, .w 7] (.m 8 .nil) Aa Aa (fun _ _ _ _ _ h => h) ?_
 clear st18
 refine aD rfl rfl rfl (fun _ => rfl) (cw 4 (kN X)) (fun wx hS => St.rangeL hS 8 rfl 0 _ dZl) underlying60 rfl Aa ?_
 try simp only [J]
 refine aD rfl rfl rfl (fun _ => rfl) (cw 4 (kN Y)) (fun wx hS => St.rangeL hS 9 rfl 0 _ dZl) underlying60 rfl Aa ?_
 try simp only [J]
 refine aD rfl rfl rfl (fun _ => rfl) (cw 4 (kN e3)) (fun wx hS => St.rangeL hS 6 rfl 0 _ dZl) underlying60 rfl Aa ?_
 try simp only [J]
 refine aS rfl rfl apX ?_
 try simp only [J]
 refine aD rfl rfl rfl (fun _ => rfl) (cw 4 (kN z)) (fun wx hS => St.rangeL hS 0 rfl 8 _ (mR _ _ _)) underlying60 rfl Aa ?_
 try simp only [J]
 refine aC rfl rfl rfl call112 (fun w hS hR => bO _) (fun _ => rfl) ?_
 try simp only [J]
 refine aC rfl rfl rfl call58 (fun w hS hR => jV e3 z Z HZ.out _) (fun _ => rfl) ?_
 try simp only [J]
 refine aS rfl rfl (fun _ => cC rfl _ (qA _ _ _)) ?_
 try simp only [J]
 refine bB fun xq w19 st19 hR => ?_
 try dsimp only
 clear hR xq
 refine aU rfl rfl ?_
 refine aG st19 1 rfl rfl rfl rfl Ai Aa (bX _ _ _) ?_
 intro w20 st20
 try simp only [List.set_cons_zero, List.set_cons_succ] at st20
 clear st19
 try simp only [Act.put]
 refine aH ?_
 refine NoPanic.normal ?_
 have hr := st20.at 1 rfl
 have hfr := st20.fr
 clear st20
 go_wp2_with fail
 exact bodyPost_ret (aY rfl rfl hr underlying62 rfl Aa) rfl ⟨rfl, hfr⟩
theorem d0x (x1 y1 z1 x2 y2 z2 : K) (hb1 : decide (z1 = 0) = true) (w : World) : Calls prog 68 #[rpV x1 y1 z1, rpV x2 y2 z2] w fun e w' => e = .returned (rpV x2 y2 z2) ∧ Fr Nob w w' := by
 have HB1 := qH hb1
 clear hb1
 unfold rpV rpL
 have st0 := St.start Nob w
 go_enter func68, ntmps68
 go_wp2_with (with_reducible refine AA 2 ?_)
 refine aL st0 rfl rfl rfl (cw 4 (kN x1) ++ (cw 4 (kN y1) ++ cw 4 (kN z1))) rfl ?_
 intro g2 w1 st1
 clear st0
 go_wp2_with (with_reducible refine AA 3 ?_)
 refine aL st1 rfl rfl rfl (cw 4 (kN x2) ++ (cw 4 (kN y2) ++ cw 4 (kN z2))) rfl ?_
 intro g3 w2 st2
 clear st1
 go_wp2_with (with_reducible refine AA 4 ?_)
 refine aA st2 rfl rfl (z := zAc) Aa (cw 12 0) Af ?_
 intro g4 w3 st3
 clear st2
 go_wp2_with (with_reducible refine AA 16 ?_)
 refine aM st3 0 rfl rfl rfl underlying62 rfl rfl Aa ?_
 go_wp2_with fail
 refine (eG x1 y1 z1 true HB1.out _).mono ?_
 rintro e' w4 ⟨rfl, hf4⟩
 have st4 := st3.keep hf4
 clear st3 hf4
 go_wp2_with (with_reducible refine AA 19 ?_)
 refine aM st4 1 rfl rfl rfl underlying62 rfl rfl Aa ?_
 go_wp2_with (with_reducible refine AB ?_)
 refine aB st4 2 rfl rfl rfl rfl rfl Ai Aa (bX _ _ _) ?_
 intro w5 st5
 clear st4
 have hr := st5.at 2 rfl
 have hfr := st5.fr
 clear st5
 go_wp2_with fail
 exact bodyPost_ret (aY rfl rfl hr underlying62 rfl Aa) rfl ⟨rfl, hfr⟩
theorem d0y (x1 y1 z1 x2 y2 z2 : K) (hb1 : decide (z1 = 0) = false) (hb2 : decide (z2 = 0) = true) (w : World) : Calls prog 68 #[rpV x1 y1 z1, rpV x2 y2 z2] w fun e w' => e = .returned (rpV x1 y1 z1) ∧ Fr Nob w w' := by
 have HB1 := qH hb1
 have HB2 := qH hb2
 clear hb1 hb2
 unfold rpV rpL
 have st0 := St.start Nob w
 go_enter func68, ntmps68
 go_wp2_with (with_reducible refine AA 2 ?_)
 refine aL st0 rfl rfl rfl (cw 4 (kN x1) ++ (cw 4 (kN y1) ++ cw 4 (kN z1))) rfl ?_
 intro g2 w1 st1
 clear st0
 go_wp2_with (with_reducible refine AA 3 ?_)
 refine aL st1 rfl rfl rfl (cw 4 (kN x2) ++ (cw 4 (kN y2) ++ cw 4 (kN z2))) rfl ?_
 intro g3 w2 st2
 clear st1
 go_wp2_with (with_reducible refine AA 4 ?_)
 refine aA st2 rfl rfl (z := zAc) Aa (cw 12 0) Af ?_
 intro g4 w3 st3
 clear st2
 go_wp2_with (with_reducible refine AA 16 ?_)
 refine aM st3 0 rfl rfl rfl underlying62 rfl rfl Aa ?_
 go_wp2_with fail
 refine (eG x1 y1 z1 false HB1.out _).mono ?_
 rintro e' w4 ⟨rfl, hf4⟩
 have st4 := st3.keep hf4
 clear st3 hf4
 go_wp2_with (with_reducible refine AA 20 ?_)
 refine aM st4 1 rfl rfl rfl underlying62 rfl rfl Aa ?_
 go_wp2_with fail
 refine (eG x2 y2 z2 true HB2.out _).mono ?_
 rintro e' w5 ⟨rfl, hf5⟩
 have st5 := st4.keep hf5
 clear st4 hf5
 go_wp2_with (with_reducible refine AA 23 ?_)
 refine aM st5 0 rfl rfl rfl underlying62 rfl rfl Aa ?_
 go_wp2_with (with_reducible refine AB ?_)
 refine aB st5 2 rfl rfl rfl rfl rfl Ai Aa (bX _ _ _) ?_
 intro w6 st6
 clear st5
 have hr := st6.at 2 rfl
 have hfr := st6.fr
 clear st6
 go_wp2_with fail
 exact bodyPost_ret (aY rfl rfl hr underlying62 rfl Aa) rfl ⟨rfl, hfr⟩
theorem r0w {P : Program} {ops : Array Oper} {Q : Exit → Act → World → Prop} {a : Act} {w : World} {rest : List Oper} {o : Oper} (hw : Region.wanted o (yielded ops a.tmps) = true) (h : wpList P ops Q ({o with guard := none} :: rest) a w) : wpList P ops Q (o :: rest) a w := by
 unfold wpList at h ⊢
 rw [if_pos hw]
 rw [if_pos (by simp [Region.wanted])] at h
 exact h
theorem c0b (x y : K) {o : Oper} {a : Act} {p q : Operand} {T : TypeId} (ho : o.op = .binOp .neq 60 p q T) (hp : a.eval p = i4 (kN x)) (hq : a.eval q = i4 (kN y)) {b : Bool} (hb : decide (x = y) = b) (w : World) :
  (execOp a.eval o).run prog w = .ok (.value (.bool !b)) w :=
 kU ho hp hq w (run_eqGuard_agg w .neq 60 p q _ _ Tryz.eqGuardType60) (by
  show (do pure (Value.bool (!(← Op.equal 60 (.agg (cw 4 (kN x)).toArray) (.agg (cw 4 (kN y)).toArray))))).run prog w = _
  simp only [Sem.run_bind, j0q x y hb w, Result.andThen_ok]
  rfl)
theorem p0o (w : World) : Calls prog 95 #[] w fun e w' => e = .returned (.agg (cw 4 (kN 0) ++ (cw 4 (kN 1) ++ cw 4 (kN 0))).toArray) ∧ Fr Nob w w' := c0a w
theorem j0t (x1 y1 z1 x2 y2 z2 : K) (hb1 : decide (z1 = 0) = false) (hb2 : decide (z2 = 0) = false) (u v u2 v2 : K) (eu : y2 * z1 = u) (ev : x2 * z1 = v) (eu2 : y1 * z2 = u2) (ev2 : x1 * z2 = v2) (hv : decide (v = v2) = true) (hu : decide (u = u2) = false) (w : World) : Calls prog 68 #[rpV x1 y1 z1, rpV x2 y2 z2] w fun e w' => e = .returned (rpV 0 1 0) ∧ Fr Nob w w' := by
 have HB1 := qH hb1
 have HB2 := qH hb2
 clear hb1 hb2
 have Hu := qH eu
 have Hv := qH ev
 have Hu2 := qH eu2
 have Hv2 := qH ev2
 clear eu ev eu2 ev2
 have HV := qH hv
 clear hv
 have HU := qH hu
 clear hu
 unfold rpV rpL
 have st0 := St.start Nob w
 go_enter func68, ntmps68
 go_wp2_with (with_reducible refine AA 2 ?_)
 refine aL st0 rfl rfl rfl (cw 4 (kN x1) ++ (cw 4 (kN y1) ++ cw 4 (kN z1))) rfl ?_
 intro g2 w1 st1
 clear st0
 go_wp2_with (with_reducible refine AA 3 ?_)
 refine aL st1 rfl rfl rfl (cw 4 (kN x2) ++ (cw 4 (kN y2) ++ cw 4 (kN z2))) rfl ?_
 intro g3 w2 st2
 clear st1
 go_wp2_with (with_reducible refine AA 4 ?_)
 refine aA st2 rfl rfl (z := zAc) Aa (cw 12 0) Af ?_
 intro g4 w3 st3
 clear st2
 go_wp2_with (with_reducible refine AA 16 ?_)
 refine aM st3 0 rfl rfl rfl underlying62 rfl rfl Aa ?_
 go_wp2_with fail
 refine (eG x1 y1 z1 false HB1.out _).mono ?_
 rintro e' w4 ⟨rfl, hf4⟩
 have st4 := st3.keep hf4
 clear st3 hf4
 go_wp2_with (with_reducible refine AA 20 ?_)
 refine aM st4 1 rfl rfl rfl underlying62 rfl rfl Aa ?_
 go_wp2_with fail
 refine (eG x2 y2 z2 false HB2.out _).mono ?_
 rintro e' w5 ⟨rfl, hf5⟩
 have st5 := st4.keep hf5
 clear st4 hf5
 go_wp2_with fail
 refine wp_region_noPanic ?_
 refine aE st5 7 [.o 6, .w 1, .t 2, .w 3, .t 4, .c 0, .c 5, .j 6] (.m 7 .nil) Aa Aa (fun _ _ _ _ _ h => h) ?_
 clear st5
 refine dK rfl rfl rfl nL (cw 4 0) rfl ?_
 try simp only [J]
 refine aS rfl rfl apX ?_
 try simp only [J]
 refine aD rfl rfl rfl (fun _ => rfl) (cw 4 (kN y2)) (fun wx hS => St.rangeL hS 1 rfl 4 _ (a0z _ _ _)) underlying60 rfl Aa ?_
 try simp only [J]
 refine aS rfl rfl apX ?_
 try simp only [J]
 refine aD rfl rfl rfl (fun _ => rfl) (cw 4 (kN z1)) (fun wx hS => St.rangeL hS 0 rfl 8 _ (mR _ _ _)) underlying60 rfl Aa ?_
 try simp only [J]
 refine aC rfl rfl rfl call112 (fun w hS hR => bO _) (fun _ => rfl) ?_
 try simp only [J]
 refine aC rfl rfl rfl call58 (fun w hS hR => jV y2 z1 u Hu.out _) (fun _ => rfl) ?_
 try simp only [J]
 refine dL List.mem_cons_self fun g6 => ?_
 simp only [upd, reduceIte]
 refine bB fun xq w6 st6 hR => ?_
 try dsimp only
 clear hR xq
 refine aU rfl rfl ?_
 refine aG st6 3 rfl rfl rfl rfl Ai Aa (aF _ _) ?_
 intro w7 st7
 repeat (first | simp only [List.cons_append] at st7 | simp only [List.nil_append] at st7 | simp only [List.set_cons_succ] at st7 | simp only [List.set_cons_zero] at st7)
 clear st6
 try simp only [Act.put]
 refine aH ?_
 refine NoPanic.normal ?_
 go_wp2_with fail
 refine wp_region_noPanic ?_
 refine aE st7 7 [.o 6, .w 1, .t 2, .w 3, .t 4, .c 0, .c 5, .j 6] (.m 7 .nil) Aa Aa (fun _ _ _ _ _ h => h) ?_
 clear st7
 refine dK rfl rfl rfl nL (cw 4 0) rfl ?_
 try simp only [J]
 refine aS rfl rfl apX ?_
 try simp only [J]
 refine aD rfl rfl rfl (fun _ => rfl) (cw 4 (kN x2)) (fun wx hS => St.rangeL hS 1 rfl 0 _ (vS _ _ _)) underlying60 rfl Aa ?_
 try simp only [J]
 refine aS rfl rfl apX ?_
 try simp only [J]
 refine aD rfl rfl rfl (fun _ => rfl) (cw 4 (kN z1)) (fun wx hS => St.rangeL hS 0 rfl 8 _ (mR _ _ _)) underlying60 rfl Aa ?_
 try simp only [J]
 refine aC rfl rfl rfl call112 (fun w hS hR => bO _) (fun _ => rfl) ?_
 try simp only [J]
 refine aC rfl rfl rfl call58 (fun w hS hR => jV x2 z1 v Hv.out _) (fun _ => rfl) ?_
 try simp only [J]
 refine dL List.mem_cons_self fun g7 => ?_
 simp only [upd, reduceIte]
 refine bB fun xq w8 st8 hR => ?_
 try dsimp only
 clear hR xq
 refine aU rfl rfl ?_
 refine aG st8 4 rfl rfl rfl rfl Ai Aa (aF _ _) ?_
 intro w9 st9
 repeat (first | simp only [List.cons_append] at st9 | simp only [List.nil_append] at st9 | simp only [List.set_cons_succ] at st9 | simp only [List.set_cons_zero] at st9)
 clear st8
 try simp only [Act.put]
 refine aH ?_
 refine NoPanic.normal ?_
 go_wp2_with fail
 refine wp_region_noPanic ?_
 refine aE st9 7 [.o 6, .w 1, .t 2, .w 3, .t 4, .c 0, .c 5, .j 6] (.m 7 .nil) Aa Aa (fun _ _ _ _ _ h => h) ?_
 clear st9
 refine dK rfl rfl rfl nL (cw 4 0) rfl ?_
 try simp only [J]
 refine aS rfl rfl apX ?_
 try simp only [J]
 refine aD rfl rfl rfl (fun _ => rfl) (cw 4 (kN y1)) (fun wx hS => St.rangeL hS 0 rfl 4 _ (a0z _ _ _)) underlying60 rfl Aa ?_
 try simp only [J]
 refine aS rfl rfl apX ?_
 try simp only [J]
 refine aD rfl rfl rfl (fun _ => rfl) (cw 4 (kN z2)) (fun wx hS => St.rangeL hS 1 rfl 8 _ (mR _ _ _)) underlying60 rfl Aa ?_
 try simp only [J]
 refine aC rfl rfl rfl call112 (fun w hS hR => bO _) (fun _ => rfl) ?_
 try simp only [J]
 refine aC rfl rfl rfl call58 (fun w hS hR => jV y1 z2 u2 Hu2.out _) (fun _ => rfl) ?_
 try simp only [J]
 refine dL List.mem_cons_self fun g8 => ?_
 simp only [upd, reduceIte]
 refine bB fun xq w10 st10 hR => ?_
 try dsimp only
 clear hR xq
 refine aU rfl rfl ?_
 refine aG st10 5 rfl rfl rfl rfl Ai Aa (aF _ _) ?_
 intro w11 st11
 repeat (first | simp only [List.cons_append] at st11 | simp only [List.nil_append] at st11 | simp only [List.set_cons_succ] at st11 | simp only [List.set_cons_zero] at st11)
 clear st10
 try simp only [Act.put]
 refine aH ?_
 refine NoPanic.normal ?_
 go_wp2_with fail
 refine wp_region_noPanic ?_
 refine aE st11 7 [.o 6, .w 1, .t 2, .w 3, .t 4, .c 0, .c 5, .j 6] (.m 7 .nil) Aa Aa (fun _ _ _ _ _ h => h) ?_
 clear st11
 refine dK rfl rfl rfl nL (cw 4 0) rfl ?_
 try simp only [J]
 refine aS rfl rfl apX ?_
 try simp only [J]
 refine aD rfl rfl rfl (fun _ => rfl) (cw 4 (kN x1)) (fun wx hS => St.rangeL hS 0 rfl 0 _ (vS _ _ _)) underlying60 rfl Aa ?_
 try simp only [J]
 refine aS rfl rfl apX ?_
 try simp only [J]
 refine aD rfl rfl rfl (fun _ => rfl) (cw 4 (kN z2)) (fun wx hS => St.rangeL hS 1 rfl 8 _ (mR _ _ _)) underlying60 rfl Aa ?_
 try simp only [J]
 refine aC rfl rfl rfl call112 (fun w hS hR => bO _) (fun _ => rfl) ?_
 try simp only [J]
 refine aC rfl rfl rfl call58 (fun w hS hR => jV x1 z2 v2 Hv2.out _) (fun _ => rfl) ?_
 try simp only [J]
 refine dL List.mem_cons_self fun g9 => ?_
 simp only [upd, reduceIte]
 refine bB fun xq w12 st12 hR => ?_
 try dsimp only
 clear hR xq
 refine aU rfl rfl ?_
 refine aG st12 6 rfl rfl rfl rfl Ai Aa (aF _ _) ?_
 intro w13 st13
 repeat (first | simp only [List.cons_append] at st13 | simp only [List.nil_append] at st13 | simp only [List.set_cons_succ] at st13 | simp only [List.set_cons_zero] at st13)
 clear st12
 try simp only [Act.put]
 refine aH ?_
 refine NoPanic.normal ?_
 go_wp2_with (with_reducible refine AA 48 ?_)
 refine aI st13 4 rfl rfl rfl underlying60 rfl Aa ?_
 go_wp2_with (with_reducible refine AA 49 ?_)
 refine aI st13 6 rfl rfl rfl underlying60 rfl Aa ?_
 go_wp2_with (with_reducible refine AA 50 ?_)
 refine gM rfl (kW v v2 rfl rfl rfl HV.out _) ?_
 go_wp2_with (with_reducible refine AA 51 ?_)
 refine aI st13 3 rfl rfl rfl underlying60 rfl Aa ?_
 go_wp2_with (with_reducible refine AA 52 ?_)
 refine aI st13 5 rfl rfl rfl underlying60 rfl Aa ?_
 go_wp2_with (with_reducible refine AA 53 ?_)
 refine gM rfl (c0b u u2 rfl rfl rfl HU.out _) ?_
 go_wp2_with fail
 refine (p0o _).mono ?_
 rintro e' w14 ⟨rfl, hf14⟩
 have st14 := st13.keep hf14
 clear st13 hf14
 go_wp2_with (with_reducible refine AB ?_)
 refine aB st14 2 rfl rfl rfl rfl rfl Ai Aa (bX _ _ _) ?_
 intro w15 st15
 clear st14
 have hr := st15.at 2 rfl
 have hfr := st15.fr
 clear st15
 go_wp2_with fail
 exact bodyPost_ret (aY rfl rfl hr underlying62 rfl Aa) rfl ⟨rfl, hfr⟩
theorem j0u (x y z X Y Z : K) (w : World) (h : Calls prog 136 #[rpV x y z] w fun e w' => e = .returned (rpV X Y Z) ∧ Fr Nob w w') : Calls prog 136 #[.agg (cw 4 (kN x) ++ (cw 4 (kN y) ++ cw 4 (kN z))).toArray] w fun e w' => e = .returned (.agg (cw 4 (kN X) ++ (cw 4 (kN Y) ++ cw 4 (kN Z))).toArray) ∧ Fr Nob w w' := h
theorem j0v (x1 y1 z1 x2 y2 z2 : K) (hb1 : decide (z1 = 0) = false) (hb2 : decide (z2 = 0) = false) (u v u2 v2 : K) (eu : y2 * z1 = u) (ev : x2 * z1 = v) (eu2 : y1 * z2 = u2) (ev2 : x1 * z2 = v2) (hv : decide (v = v2) = true) (hu : decide (u = u2) = true) (hz : decide (u = 0) = false) (X Y Z : K) (hdb : ∀ wx, Calls prog 136 #[rpV x1 y1 z1] wx fun e w' => e = .returned (rpV X Y Z) ∧ Fr Nob wx w') (w : World) : Calls prog 68 #[rpV x1 y1 z1, rpV x2 y2 z2] w fun e w' => e = .returned (rpV X Y Z) ∧ Fr Nob w w' := by
 have HB1 := qH hb1
 have HB2 := qH hb2
 clear hb1 hb2
 have Hu := qH eu
 have Hv := qH ev
 have Hu2 := qH eu2
 have Hv2 := qH ev2
 clear eu ev eu2 ev2
 have HV := qH hv
 clear hv
 have HU := qH hu
 clear hu
 have HZ := qH hz
 have HDB := qH hdb
 clear hz hdb
 unfold rpV rpL
 have st0 := St.start Nob w
 go_enter func68, ntmps68
 go_wp2_with (with_reducible refine AA 2 ?_)
 refine aL st0 rfl rfl rfl (cw 4 (kN x1) ++ (cw 4 (kN y1) ++ cw 4 (kN z1))) rfl ?_
 intro g2 w1 st1
 clear st0
 go_wp2_with (with_reducible refine AA 3 ?_)
 refine aL st1 rfl rfl rfl (cw 4 (kN x2) ++ (cw 4 (kN y2) ++ cw 4 (kN z2))) rfl ?_
 intro g3 w2 st2
 clear st1
 go_wp2_with (with_reducible refine AA 4 ?_)
 refine aA st2 rfl rfl (z := zAc) Aa (cw 12 0) Af ?_
 intro g4 w3 st3
 clear st2
 go_wp2_with (with_reducible refine AA 16 ?_)
 refine aM st3 0 rfl rfl rfl underlying62 rfl rfl Aa ?_
 go_wp2_with fail
 refine (eG x1 y1 z1 false HB1.out _).mono ?_
 rintro e' w4 ⟨rfl, hf4⟩
 have st4 := st3.keep hf4
 clear st3 hf4
 go_wp2_with (with_reducible refine AA 20 ?_)
 refine aM st4 1 rfl rfl rfl underlying62 rfl rfl Aa ?_
 go_wp2_with fail
 refine (eG x2 y2 z2 false HB2.out _).mono ?_
 rintro e' w5 ⟨rfl, hf5⟩
 have st5 := st4.keep hf5
 clear st4 hf5
 go_wp2_with fail
 refine wp_region_noPanic ?_
 refine aE st5 7 [.o 6, .w 1, .t 2, .w 3, .t 4, .c 0, .c 5, .j 6] (.m 7 .nil) Aa Aa (fun _ _ _ _ _ h => h) ?_
 clear st5
 refine dK rfl rfl rfl nL (cw 4 0) rfl ?_
 try simp only [J]
 refine aS rfl rfl apX ?_
 try simp only [J]
 refine aD rfl rfl rfl (fun _ => rfl) (cw 4 (kN y2)) (fun wx hS => St.rangeL hS 1 rfl 4 _ (a0z _ _ _)) underlying60 rfl Aa ?_
 try simp only [J]
 refine aS rfl rfl apX ?_
 try simp only [J]
 refine aD rfl rfl rfl (fun _ => rfl) (cw 4 (kN z1)) (fun wx hS => St.rangeL hS 0 rfl 8 _ (mR _ _ _)) underlying60 rfl Aa ?_
 try simp only [J]
 refine aC rfl rfl rfl call112 (fun w hS hR => bO _) (fun _ => rfl) ?_
 try simp only [J]
 refine aC rfl rfl rfl call58 (fun w hS hR => jV y2 z1 u Hu.out _) (fun _ => rfl) ?_
 try simp only [J]
 refine dL List.mem_cons_self fun g6 => ?_
 simp only [upd, reduceIte]
 refine bB fun xq w6 st6 hR => ?_
 try dsimp only
 clear hR xq
 refine aU rfl rfl ?_
 refine aG st6 3 rfl rfl rfl rfl Ai Aa (aF _ _) ?_
 intro w7 st7
 repeat (first | simp only [List.cons_append] at st7 | simp only [List.nil_append] at st7 | simp only [List.set_cons_succ] at st7 | simp only [List.set_cons_zero] at st7)
 clear st6
 try simp only [Act.put]
 refine aH ?_
 refine NoPanic.normal ?_
 go_wp2_with fail
 refine wp_region_noPanic ?_
 refine aE st7 7 [.o 6, .w 1, .t 2, .w 3, .t 4, .c 0, .c 5, .j 6] (.m 7 .nil) Aa Aa (fun _ _ _ _ _ h => h) ?_
 clear st7
 refine dK rfl rfl rfl nL (cw 4 0) rfl ?_
 try simp only [J]
 refine aS rfl rfl apX ?_
 try simp only [J]
 refine aD rfl rfl rfl (fun _ => rfl) (cw 4 (kN x2)) (fun wx hS => St.rangeL hS 1 rfl 0 _ (vS _ _ _)) underlying60 rfl Aa ?_
 try simp only [J]
 refine aS rfl rfl apX ?_
 try simp only [J]
 refine aD rfl rfl rfl (fun _ => rfl) (cw 4 (kN z1)) (fun wx hS => St.rangeL hS 0 rfl 8 _ (mR _ _ _)) underlying60 rfl Aa ?_
 try simp only [J]
 refine aC rfl rfl rfl call112 (fun w hS hR => bO _) (fun _ => rfl) ?_
 try simp only [J]
 refine aC rfl rfl rfl call58 (fun w hS hR => jV x2 z1 v Hv.out _) (fun _ => rfl) ?_
 try simp only [J]
 refine dL List.mem_cons_self fun g7 => ?_
 simp only [upd, reduceIte]
 refine bB fun xq w8 st8 hR => ?_
 try dsimp only
 clear hR xq
 refine aU rfl rfl ?_
 refine aG st8 4 rfl rfl rfl rfl Ai Aa (aF _ _) ?_
 intro w9 st9
 repeat (first | simp only [List.cons_append] at st9 | simp only [List.nil_append] at st9 | simp only [List.set_cons_succ] at st9 | simp only [List.set_cons_zero] at st9)
 clear st8
 try simp only [Act.put]
 refine aH ?_
 refine NoPanic.normal ?_
 go_wp2_with fail
 refine wp_region_noPanic ?_
 refine aE st9 7 [.o 6, .w 1, .t 2, .w 3, .t 4, .c 0, .c 5, .j 6] (.m 7 .nil) Aa Aa (fun _ _ _ _ _ h => h) ?_
 clear st9
 refine dK rfl rfl rfl nL (cw 4 0) rfl ?_
 try simp only [J]
 refine aS rfl rfl apX ?_
 try simp only [J]
 refine aD rfl rfl rfl (fun _ => rfl) (cw 4 (kN y1)) (fun wx hS => St.rangeL hS 0 rfl 4 _ (a0z _ _ _)) underlying60 rfl Aa ?_
 try simp only [J]
 refine aS rfl rfl apX ?_
 try simp only [J]
 refine aD rfl rfl rfl (fun _ => rfl) (cw 4 (kN z2)) (fun wx hS => St.rangeL hS 1 rfl 8 _ (mR _ _ _)) underlying60 rfl Aa ?_
 try simp only [J]
 refine aC rfl rfl rfl call112 (fun w hS hR => bO _) (fun _ => rfl) ?_
 try simp only [J]
 refine aC rfl rfl rfl call58 (fun w hS hR => jV y1 z2 u2 Hu2.out _) (fun _ => rfl) ?_
 try simp only [J]
 refine dL List.mem_cons_self fun g8 => ?_
 simp only [upd, reduceIte]
 refine bB fun xq w10 st10 hR => ?_
 try dsimp only
 clear hR xq
 refine aU rfl rfl ?_
 refine aG st10 5 rfl rfl rfl rfl Ai Aa (aF _ _) ?_
 intro w11 st11
 repeat (first | simp only [List.cons_append] at st11 | simp only [List.nil_append] at st11 | simp only [List.set_cons_succ] at st11 | simp only [List.set_cons_zero] at st11)
 clear st10
 try simp only [Act.put]
 refine aH ?_
 refine NoPanic.normal ?_
 go_wp2_with fail
 refine wp_region_noPanic ?_
 refine aE st11 7 [.o 6, .w 1, .t 2, .w 3, .t 4, .c 0, .c 5, .j 6] (.m 7 .nil) Aa Aa (fun _ _ _ _ _ h => h) ?_
 clear st11
 refine dK rfl rfl rfl nL (cw 4 0) rfl ?_
 try simp only [J]
 refine aS rfl rfl apX ?_
 try simp only [J]
 refine aD rfl rfl rfl (fun _ => rfl) (cw 4 (kN x1)) (fun wx hS => St.rangeL hS 0 rfl 0 _ (vS _ _ _)) underlying60 rfl Aa ?_
 try simp only [J]
 refine aS rfl rfl apX ?_
 try simp only [J]
 refine aD rfl rfl rfl (fun _ => rfl) (cw 4 (kN z2)) (fun wx hS => St.rangeL hS 1 rfl 8 _ (mR _ _ _)) underlying60 rfl Aa ?_
 try simp only [J]
 refine aC rfl rfl rfl call112 (fun w hS hR => bO _) (fun _ => rfl) ?_
 try simp only [J]
 refine aC rfl rfl rfl call58 (fun w hS hR => jV x1 z2 v2 Hv2.out _) (fun _ => rfl) ?_
 try simp only [J]
 refine dL List.mem_cons_self fun g9 => ?_
 simp only [upd, reduceIte]
 refine bB fun xq w12 st12 hR => ?_
 try dsimp only
 clear hR xq
 refine aU rfl rfl ?_
 refine aG st12 6 rfl rfl rfl rfl Ai Aa (aF _ _) ?_
 intro w13 st13
 repeat (first | simp only [List.cons_append] at st13 | simp only [List.nil_append] at st13 | simp only [List.set_cons_succ] at st13 | simp only [List.set_cons_zero] at st13)
 clear st12
 try simp only [Act.put]
 refine aH ?_
 refine NoPanic.normal ?_
 go_wp2_with (with_reducible refine AA 48 ?_)
 refine aI st13 4 rfl rfl rfl underlying60 rfl Aa ?_
 go_wp2_with (with_reducible refine AA 49 ?_)
 refine aI st13 6 rfl rfl rfl underlying60 rfl Aa ?_
 go_wp2_with (with_reducible refine AA 50 ?_)
 refine gM rfl (kW v v2 rfl rfl rfl HV.out _) ?_
 go_wp2_with (with_reducible refine AA 51 ?_)
 refine aI st13 3 rfl rfl rfl underlying60 rfl Aa ?_
 go_wp2_with (with_reducible refine AA 52 ?_)
 refine aI st13 5 rfl rfl rfl underlying60 rfl Aa ?_
 go_wp2_with (with_reducible refine AA 53 ?_)
 refine gM rfl (c0b u u2 rfl rfl rfl HU.out _) ?_
 go_wp2_with (with_reducible refine AA 55 ?_)
 refine r0w rfl ?_
 refine aI st13 3 rfl rfl rfl underlying60 rfl Aa ?_
 go_wp2_with fail
 refine (r0v u false HZ.out _).mono ?_
 rintro e' w14 ⟨rfl, hf14⟩
 have st14 := st13.keep hf14
 clear st13 hf14
 go_wp2_with (with_reducible refine AA 59 ?_)
 refine aM st14 0 rfl rfl rfl underlying62 rfl rfl Aa ?_
 go_wp2_with fail
 refine (j0u x1 y1 z1 X Y Z _ (HDB.out _)).mono ?_
 rintro e' w15 ⟨rfl, hf15⟩
 have st15 := st14.keep hf15
 clear st14 hf15
 go_wp2_with (with_reducible refine AB ?_)
 refine aB st15 2 rfl rfl rfl rfl rfl Ai Aa (bX _ _ _) ?_
 intro w16 st16
 clear st15
 have hr := st16.at 2 rfl
 have hfr := st16.fr
 clear st16
 go_wp2_with fail
 exact bodyPost_ret (aY rfl rfl hr underlying62 rfl Aa) rfl ⟨rfl, hfr⟩
theorem p0p (x1 y1 z1 x2 y2 z2 : K) (hb1 : decide (z1 = 0) = false) (hb2 : decide (z2 = 0) = false) (u v u2 v2 d ee ww e2 e3 t1 t2 t3 t4 t5 t X s1 s2 s3 s4 Y Z : K) (eu : y2 * z1 = u) (ev : x2 * z1 = v) (eu2 : y1 * z2 = u2) (ev2 : x1 * z2 = v2) (ed : u - u2 = d) (eee : v - v2 = ee) (eww : z1 * z2 = ww) (ee2 : ee * ee = e2) (ee3 : e2 * ee = e3) (et1 : d * d = t1) (et2 : t1 * ww = t2) (et3 : t2 - e3 = t3) (et4 : v2 + v2 = t4) (et5 : t4 * e2 = t5) (et : t3 - t5 = t) (eX : ee * t = X) (es1 : v2 * e2 = s1) (es2 : s1 - t = s2) (es3 : d * s2 = s3) (es4 : u2 * e3 = s4) (eY : s3 - s4 = Y) (eZ : e3 * ww = Z) (hv : decide (v = v2) = false) (w : World) : Calls prog 68 #[rpV x1 y1 z1, rpV x2 y2 z2] w fun e w' => e = .returned (rpV X Y Z) ∧ Fr Nob w w' := by
 have HB1 := qH hb1
 have HB2 := qH hb2
 clear hb1 hb2
 have Hu := qH eu
 have Hv := qH ev
 have Hu2 := qH eu2
 have Hv2 := qH ev2
 have Hd := qH ed
 have Hee := qH eee
 have Hww := qH eww
 have He2 := qH ee2
 have He3 := qH ee3
 have Ht1 := qH et1
 have Ht2 := qH et2
 have Ht3 := qH et3
 have Ht4 := qH et4
 have Ht5 := qH et5
 have Ht := qH et
 have HX := qH eX
 have Hs1 := qH es1
 have Hs2 := qH es2
 have Hs3 := qH es3
 have Hs4 := qH es4
 have HY := qH eY
 have HZ := qH eZ
 clear eu ev eu2 ev2 ed eee eww ee2 ee3 et1 et2 et3 et4 et5 et eX es1 es2 es3 es4 eY eZ
 have HV := qH hv
 clear hv
 unfold rpV rpL
 have st0 := St.start Nob w
 go_enter func68, ntmps68
 go_wp2_with (with_reducible refine AA 2 ?_)
 refine aL st0 rfl rfl rfl (cw 4 (kN x1) ++ (cw 4 (kN y1) ++ cw 4 (kN z1))) rfl ?_
 intro g2 w1 st1
 clear st0
 go_wp2_with (with_reducible refine AA 3 ?_)
 refine aL st1 rfl rfl rfl (cw 4 (kN x2) ++ (cw 4 (kN y2) ++ cw 4 (kN z2))) rfl ?_
 intro g3 w2 st2
 clear st1
 go_wp2_with (with_reducible refine AA 4 ?_)
 refine aA st2 rfl rfl (z := zAc) Aa (cw 12 0) Af ?_
 intro g4 w3 st3
 clear st2
 go_wp2_with (with_reducible refine AA 16 ?_)
 refine aM st3 0 rfl rfl rfl underlying62 rfl rfl Aa ?_
 go_wp2_with fail
 refine (eG x1 y1 z1 false HB1.out _).mono ?_
 rintro e' w4 ⟨rfl, hf4⟩
 have st4 := st3.keep hf4
 clear st3 hf4
 go_wp2_with (with_reducible refine AA 20 ?_)
 refine aM st4 1 rfl rfl rfl underlying62 rfl rfl Aa ?_
 go_wp2_with fail
 refine (eG x2 y2 z2 false HB2.out _).mono ?_
 rintro e' w5 ⟨rfl, hf5⟩
 have st5 := st4.keep hf5
 clear st4 hf5
 go_wp2_with fail
 refine wp_region_noPanic ?_
 refine aE st5 7 [.o 6, .w 1, .t 2, .w 3, .t 4, .c 0, .c 5, .j 6] (.m 7 .nil) Aa Aa (fun _ _ _ _ _ h => h) ?_
 clear st5
 refine dK rfl rfl rfl nL (cw 4 0) rfl ?_
 try simp only [J]
 refine aS rfl rfl apX ?_
 try simp only [J]
 refine aD rfl rfl rfl (fun _ => rfl) (cw 4 (kN y2)) (fun wx hS => St.rangeL hS 1 rfl 4 _ (a0z _ _ _)) underlying60 rfl Aa ?_
 try simp only [J]
 refine aS rfl rfl apX ?_
 try simp only [J]
 refine aD rfl rfl rfl (fun _ => rfl) (cw 4 (kN z1)) (fun wx hS => St.rangeL hS 0 rfl 8 _ (mR _ _ _)) underlying60 rfl Aa ?_
 try simp only [J]
 refine aC rfl rfl rfl call112 (fun w hS hR => bO _) (fun _ => rfl) ?_
 try simp only [J]
 refine aC rfl rfl rfl call58 (fun w hS hR => jV y2 z1 u Hu.out _) (fun _ => rfl) ?_
 try simp only [J]
 refine dL List.mem_cons_self fun g6 => ?_
 simp only [upd, reduceIte]
 refine bB fun xq w6 st6 hR => ?_
 try dsimp only
 clear hR xq
 refine aU rfl rfl ?_
 refine aG st6 3 rfl rfl rfl rfl Ai Aa (aF _ _) ?_
 intro w7 st7
 repeat (first | simp only [List.cons_append] at st7 | simp only [List.nil_append] at st7 | simp only [List.set_cons_succ] at st7 | simp only [List.set_cons_zero] at st7)
 clear st6
 try simp only [Act.put]
 refine aH ?_
 refine NoPanic.normal ?_
 go_wp2_with fail
 refine wp_region_noPanic ?_
 refine aE st7 7 [.o 6, .w 1, .t 2, .w 3, .t 4, .c 0, .c 5, .j 6] (.m 7 .nil) Aa Aa (fun _ _ _ _ _ h => h) ?_
 clear st7
 refine dK rfl rfl rfl nL (cw 4 0) rfl ?_
 try simp only [J]
 refine aS rfl rfl apX ?_
 try simp only [J]
 refine aD rfl rfl rfl (fun _ => rfl) (cw 4 (kN x2)) (fun wx hS => St.rangeL hS 1 rfl 0 _ (vS _ _ _)) underlying60 rfl Aa ?_
 try simp only [J]
 refine aS rfl rfl apX ?_
 try simp only [J]
 refine aD rfl rfl rfl (fun _ => rfl) (cw 4 (kN z1)) (fun wx hS => St.rangeL hS 0 rfl 8 _ (mR _ _ _)) underlying60 rfl Aa ?_
 try simp only [J]
 refine aC rfl rfl rfl call112 (fun w hS hR => bO _) (fun _ => rfl) ?_
 try simp only [J]
 refine aC rfl rfl rfl call58 (fun w hS hR => jV x2 z1 v Hv.out _) (fun _ => rfl) ?_
 try simp only [J]
 refine dL List.mem_cons_self fun g7 => ?_
 simp only [upd, reduceIte]
 refine bB fun xq w8 st8 hR => ?_
 try dsimp only
 clear hR xq
 refine aU rfl rfl ?_
 refine aG st8 4 rfl rfl rfl rfl Ai Aa (aF _ _) ?_
 intro w9 st9
 repeat (first | simp only [List.cons_append] at st9 | simp only [List.nil_append] at st9 | simp only [List.set_cons_succ] at st9 | simp only [List.set_cons_zero] at st9)
 clear st8
 try simp only [Act.put]
 refine aH ?_
 refine NoPanic.normal ?_
 go_wp2_with fail
 refine wp_region_noPanic ?_
 refine aE st9 7 [.o 6, .w 1, .t 2, .w 3, .t 4, .c 0, .c 5, .j 6] (.m 7 .nil) Aa Aa (fun _ _ _ _ _ h => h) ?_
 clear st9
 refine dK rfl rfl rfl nL (cw 4 0) rfl ?_
 try simp only [J]
 refine aS rfl rfl apX ?_
 try simp only [J]
 refine aD rfl rfl rfl (fun _ => rfl) (cw 4 (kN y1)) (fun wx hS => St.rangeL hS 0 rfl 4 _ (a0z _ _ _)) underlying60 rfl Aa ?_
 try simp only [J]
 refine aS rfl rfl apX ?_
 try simp only [J]
 refine aD rfl rfl rfl (fun _ => rfl) (cw 4 (kN z2)) (fun wx hS => St.rangeL hS 1 rfl 8 _ (mR _ _ _)) underlying60 rfl Aa ?_
 try simp only [J]
 refine aC rfl rfl rfl call112 (fun w hS hR => bO _) (fun _ => rfl) ?_
 try simp only [J]
 refine aC rfl rfl rfl call58 (fun w hS hR => jV y1 z2 u2 Hu2.out _) (fun _ => rfl) ?_
 try simp only [J]
 refine dL List.mem_cons_self fun g8 => ?_
 simp only [upd, reduceIte]
 refine bB fun xq w10 st10 hR => ?_
 try dsimp only
 clear hR xq
 refine aU rfl rfl ?_
 refine aG st10 5 rfl rfl rfl rfl Ai Aa (aF _ _) ?_
 intro w11 st11
 repeat (first | simp only [List.cons_append] at st11 | simp only [List.nil_append] at st11 | simp only [List.set_cons_succ] at st11 | simp only [List.set_cons_zero] at st11)
 clear st10
 try simp only [Act.put]
 refine aH ?_
 refine NoPanic.normal ?_
 go_wp2_with fail
 refine wp_region_noPanic ?_
 refine aE st11 7 [.o 6, .w 1, .t 2, .w 3, .t 4, .c 0, .c 5, .j 6] (.m 7 .nil) Aa Aa (fun _ _ _ _ _ h => h) ?_
 clear st11
 refine dK rfl rfl rfl nL (cw 4 0) rfl ?_
 try simp only [J]
 refine aS rfl rfl apX ?_
 try simp only [J]
 refine aD rfl rfl rfl (fun _ => rfl) (cw 4 (kN x1)) (fun wx hS => St.rangeL hS 0 rfl 0 _ (vS _ _ _)) underlying60 rfl Aa ?_
 try simp only [J]
 refine aS rfl rfl apX ?_
 try simp only [J]
 refine aD rfl rfl rfl (fun _ => rfl) (cw 4 (kN z2)) (fun wx hS => St.rangeL hS 1 rfl 8 _ (mR _ _ _)) underlying60 rfl Aa ?_
 try simp only [J]
 refine aC rfl rfl rfl call112 (fun w hS hR => bO _) (fun _ => rfl) ?_
 try simp only [J]
 refine aC rfl rfl rfl call58 (fun w hS hR => jV x1 z2 v2 Hv2.out _) (fun _ => rfl) ?_
 try simp only [J]
 refine dL List.mem_cons_self fun g9 => ?_
 simp only [upd, reduceIte]
 refine bB fun xq w12 st12 hR => ?_
 try dsimp only
 clear hR xq
 refine aU rfl rfl ?_
 refine aG st12 6 rfl rfl rfl rfl Ai Aa (aF _ _) ?_
 intro w13 st13
 repeat (first | simp only [List.cons_append] at st13 | simp only [List.nil_append] at st13 | simp only [List.set_cons_succ] at st13 | simp only [List.set_cons_zero] at st13)
 clear st12
 try simp only [Act.put]
 refine aH ?_
 refine NoPanic.normal ?_
 go_wp2_with (with_reducible refine AA 48 ?_)
 refine aI st13 4 rfl rfl rfl underlying60 rfl Aa ?_
 go_wp2_with (with_reducible refine AA 49 ?_)
 refine aI st13 6 rfl rfl rfl underlying60 rfl Aa ?_
 go_wp2_with (with_reducible refine AA 50 ?_)
 refine gM rfl (kW v v2 rfl rfl rfl HV.out _) ?_
 go_wp2_with fail
 refine wp_region_noPanic ?_
 refine aE st13 5 [.o 4, .t 1, .t 2, .c 0, .c 3, .j 4] (.m 5 .nil) Aa Aa (fun _ _ _ _ _ h => h) ?_
 clear st13
 refine dK rfl rfl rfl nL (cw 4 0) rfl ?_
 try simp only [J]
 refine aD rfl rfl rfl (fun _ => rfl) (cw 4 (kN u)) (fun wx hS => St.rangeL hS 3 rfl 0 _ dZl) underlying60 rfl Aa ?_
 try simp only [J]
 refine aD rfl rfl rfl (fun _ => rfl) (cw 4 (kN u2)) (fun wx hS => St.rangeL hS 5 rfl 0 _ dZl) underlying60 rfl Aa ?_
 try simp only [J]
 refine aC rfl rfl rfl call112 (fun w hS hR => bO _) (fun _ => rfl) ?_
 try simp only [J]
 refine aC rfl rfl rfl call137 (fun w hS hR => m0e u u2 d Hd.out _) (fun _ => rfl) ?_
 try simp only [J]
 refine dL List.mem_cons_self fun g10 => ?_
 simp only [upd, reduceIte]
 refine bB fun xq w14 st14 hR => ?_
 try dsimp only
 clear hR xq
 refine aU rfl rfl ?_
 refine aG st14 7 rfl rfl rfl rfl Ai Aa (aF _ _) ?_
 intro w15 st15
 repeat (first | simp only [List.cons_append] at st15 | simp only [List.nil_append] at st15 | simp only [List.set_cons_succ] at st15 | simp only [List.set_cons_zero] at st15)
 clear st14
 try simp only [Act.put]
 refine aH ?_
 refine NoPanic.normal ?_
 go_wp2_with fail
 refine wp_region_noPanic ?_
 refine aE st15 5 [.o 4, .t 1, .t 2, .c 0, .c 3, .j 4] (.m 5 .nil) Aa Aa (fun _ _ _ _ _ h => h) ?_
 clear st15
 refine dK rfl rfl rfl nL (cw 4 0) rfl ?_
 try simp only [J]
 refine aD rfl rfl rfl (fun _ => rfl) (cw 4 (kN v)) (fun wx hS => St.rangeL hS 4 rfl 0 _ dZl) underlying60 rfl Aa ?_
 try simp only [J]
 refine aD rfl rfl rfl (fun _ => rfl) (cw 4 (kN v2)) (fun wx hS => St.rangeL hS 6 rfl 0 _ dZl) underlying60 rfl Aa ?_
 try simp only [J]
 refine aC rfl rfl rfl call112 (fun w hS hR => bO _) (fun _ => rfl) ?_
 try simp only [J]
 refine aC rfl rfl rfl call137 (fun w hS hR => m0e v v2 ee Hee.out _) (fun _ => rfl) ?_
 try simp only [J]
 refine dL List.mem_cons_self fun g11 => ?_
 simp only [upd, reduceIte]
 refine bB fun xq w16 st16 hR => ?_
 try dsimp only
 clear hR xq
 refine aU rfl rfl ?_
 refine aG st16 8 rfl rfl rfl rfl Ai Aa (aF _ _) ?_
 intro w17 st17
 repeat (first | simp only [List.cons_append] at st17 | simp only [List.nil_append] at st17 | simp only [List.set_cons_succ] at st17 | simp only [List.set_cons_zero] at st17)
 clear st16
 try simp only [Act.put]
 refine aH ?_
 refine NoPanic.normal ?_
 go_wp2_with fail
 refine wp_region_noPanic ?_
 refine aE st17 7 [.o 6, .w 1, .t 2, .w 3, .t 4, .c 0, .c 5, .j 6] (.m 7 .nil) Aa Aa (fun _ _ _ _ _ h => h) ?_
 clear st17
 refine dK rfl rfl rfl nL (cw 4 0) rfl ?_
 try simp only [J]
 refine aS rfl rfl apX ?_
 try simp only [J]
 refine aD rfl rfl rfl (fun _ => rfl) (cw 4 (kN z1)) (fun wx hS => St.rangeL hS 0 rfl 8 _ (mR _ _ _)) underlying60 rfl Aa ?_
 try simp only [J]
 refine aS rfl rfl apX ?_
 try simp only [J]
 refine aD rfl rfl rfl (fun _ => rfl) (cw 4 (kN z2)) (fun wx hS => St.rangeL hS 1 rfl 8 _ (mR _ _ _)) underlying60 rfl Aa ?_
 try simp only [J]
 refine aC rfl rfl rfl call112 (fun w hS hR => bO _) (fun _ => rfl) ?_
 try simp only [J]
 refine aC rfl rfl rfl call58 (fun w hS hR => jV z1 z2 ww Hww.out _) (fun _ => rfl) ?_
 try simp only [J]
 refine dL List.mem_cons_self fun g12 => ?_
 simp only [upd, reduceIte]
 refine bB fun xq w18 st18 hR => ?_
 try dsimp only
 clear hR xq
 refine aU rfl rfl ?_
 refine aG st18 9 rfl rfl rfl rfl Ai Aa (aF _ _) ?_
 intro w19 st19
 repeat (first | simp only [List.cons_append] at st19 | simp only [List.nil_append] at st19 | simp only [List.set_cons_succ] at st19 | simp only [List.set_cons_zero] at st19)
 clear st18
 try simp only [Act.put]
 refine aH ?_
 refine NoPanic.normal ?_
 go_wp2_with fail
 refine wp_region_noPanic ?_
 refine aE st19 5 [.o 4, .t 1, .t 2, .c 0, .c 3, .j 4] (.m 5 .nil) Aa Aa (fun _ _ _ _ _ h => h) ?_
 clear st19
 refine dK rfl rfl rfl nL (cw 4 0) rfl ?_
 try simp only [J]
 refine aD rfl rfl rfl (fun _ => rfl) (cw 4 (kN ee)) (fun wx hS => St.rangeL hS 8 rfl 0 _ dZl) underlying60 rfl Aa ?_
 try simp only [J]
 refine aD rfl rfl rfl (fun _ => rfl) (cw 4 (kN ee)) (fun wx hS => St.rangeL hS 8 rfl 0 _ dZl) underlying60 rfl Aa ?_
 try simp only [J]
 refine aC rfl rfl rfl call112 (fun w hS hR => bO _) (fun _ => rfl) ?_
 try simp only [J]
 refine aC rfl rfl rfl call58 (fun w hS hR => jV ee ee e2 He2.out _) (fun _ => rfl) ?_
 try simp only [J]
 refine dL List.mem_cons_self fun g13 => ?_
 simp only [upd, reduceIte]
 refine bB fun xq w20 st20 hR => ?_
 try dsimp only
 clear hR xq
 refine aU rfl rfl ?_
 refine aG st20 10 rfl rfl rfl rfl Ai Aa (aF _ _) ?_
 intro w21 st21
 repeat (first | simp only [List.cons_append] at st21 | simp only [List.nil_append] at st21 | simp only [List.set_cons_succ] at st21 | simp only [List.set_cons_zero] at st21)
 clear st20
 try simp only [Act.put]
 refine aH ?_
 refine NoPanic.normal ?_
 go_wp2_with fail
 refine wp_region_noPanic ?_
 refine aE st21 5 [.o 4, .t 1, .t 2, .c 0, .c 3, .j 4] (.m 5 .nil) Aa Aa (fun _ _ _ _ _ h => h) ?_
 clear st21
 refine dK rfl rfl rfl nL (cw 4 0) rfl ?_
 try simp only [J]
 refine aD rfl rfl rfl (fun _ => rfl) (cw 4 (kN e2)) (fun wx hS => St.rangeL hS 10 rfl 0 _ dZl) underlying60 rfl Aa ?_
 try simp only [J]
 refine aD rfl rfl rfl (fun _ => rfl) (cw 4 (kN ee)) (fun wx hS => St.rangeL hS 8 rfl 0 _ dZl) underlying60 rfl Aa ?_
 try simp only [J]
 refine aC rfl rfl rfl call112 (fun w hS hR => bO _) (fun _ => rfl) ?_
 try simp only [J]
 refine aC rfl rfl rfl call58 (fun w hS hR => jV e2 ee e3 He3.out _) (fun _ => rfl) ?_
 try simp only [J]
 refine dL List.mem_cons_self fun g14 => ?_
 simp only [upd, reduceIte]
 refine bB fun xq w22 st22 hR => ?_
 try dsimp only
 clear hR xq
 refine aU rfl rfl ?_
 refine aG st22 11 rfl rfl rfl rfl Ai Aa (aF _ _) ?_
 intro w23 st23
 repeat (first | simp only [List.cons_append] at st23 | simp only [List.nil_append] at st23 | simp only [List.set_cons_succ] at st23 | simp only [List.set_cons_zero] at st23)
 clear st22
 try simp only [Act.put]
 refine aH ?_
 refine NoPanic.normal ?_
 go_wp2_with fail
 refine wp_region_noPanic ?_
 refine aE st23 20 [.o 19, .t 4, .t 5, .t 7, .t 9, .t 13, .t 14, .t 16, .c 0, .c 1, .c 2, .c 3, .c 6, .c 8, .c 10, .c 11, .c 12, .c 15, .c 17, .c 18, .j 19] (.m 20 .nil) Aa Aa (fun _ _ _ _ _ h => h) ?_
 clear st23
 refine dK rfl rfl rfl nL (cw 4 0) rfl ?_
 try simp only [J]
 refine aD rfl rfl rfl (fun _ => rfl) (cw 4 (kN d)) (fun wx hS => St.rangeL hS 7 rfl 0 _ dZl) underlying60 rfl Aa ?_
 try simp only [J]
 refine aD rfl rfl rfl (fun _ => rfl) (cw 4 (kN d)) (fun wx hS => St.rangeL hS 7 rfl 0 _ dZl) underlying60 rfl Aa ?_
 try simp only [J]
 refine aD rfl rfl rfl (fun _ => rfl) (cw 4 (kN ww)) (fun wx hS => St.rangeL hS 9 rfl 0 _ dZl) underlying60 rfl Aa ?_
 try simp only [J]
 refine aD rfl rfl rfl (fun _ => rfl) (cw 4 (kN e3)) (fun wx hS => St.rangeL hS 11 rfl 0 _ dZl) underlying60 rfl Aa ?_
 try simp only [J]
 refine aD rfl rfl rfl (fun _ => rfl) (cw 4 (kN v2)) (fun wx hS => St.rangeL hS 6 rfl 0 _ dZl) underlying60 rfl Aa ?_
 try simp only [J]
 refine aD rfl rfl rfl (fun _ => rfl) (cw 4 (kN v2)) (fun wx hS => St.rangeL hS 6 rfl 0 _ dZl) underlying60 rfl Aa ?_
 try simp only [J]
 refine aD rfl rfl rfl (fun _ => rfl) (cw 4 (kN e2)) (fun wx hS => St.rangeL hS 10 rfl 0 _ dZl) underlying60 rfl Aa ?_
 try simp only [J]
 refine aC rfl rfl rfl call112 (fun w hS hR => bO _) (fun _ => rfl) ?_
 try simp only [J]
 refine aC rfl rfl rfl call112 (fun w hS hR => bO _) (fun _ => rfl) ?_
 try simp only [J]
 refine aC rfl rfl rfl call112 (fun w hS hR => bO _) (fun _ => rfl) ?_
 try simp only [J]
 refine aC rfl rfl rfl call112 (fun w hS hR => bO _) (fun _ => rfl) ?_
 try simp only [J]
 refine aC rfl rfl rfl call58 (fun w hS hR => jV d d t1 Ht1.out _) (fun _ => rfl) ?_
 try simp only [J]
 refine aC rfl rfl rfl call58 (fun w hS hR => jV t1 ww t2 Ht2.out _) (fun _ => rfl) ?_
 try simp only [J]
 refine aC rfl rfl rfl call137 (fun w hS hR => m0e t2 e3 t3 Ht3.out _) (fun _ => rfl) ?_
 try simp only [J]
 refine aC rfl rfl rfl call112 (fun w hS hR => bO _) (fun _ => rfl) ?_
 try simp only [J]
 refine aC rfl rfl rfl call112 (fun w hS hR => bO _) (fun _ => rfl) ?_
 try simp only [J]
 refine aC rfl rfl rfl call57 (fun w hS hR => p0l v2 v2 t4 Ht4.out _) (fun _ => rfl) ?_
 try simp only [J]
 refine aC rfl rfl rfl call58 (fun w hS hR => jV t4 e2 t5 Ht5.out _) (fun _ => rfl) ?_
 try simp only [J]
 refine aC rfl rfl rfl call137 (fun w hS hR => m0e t3 t5 t Ht.out _) (fun _ => rfl) ?_
 try simp only [J]
 refine dL List.mem_cons_self fun g15 => ?_
 simp only [upd, reduceIte]
 refine bB fun xq w24 st24 hR => ?_
 try dsimp only
 clear hR xq
 refine aU rfl rfl ?_
 refine aG st24 12 rfl rfl rfl rfl Ai Aa (aF _ _) ?_
 intro w25 st25
 repeat (first | simp only [List.cons_append] at st25 | simp only [List.nil_append] at st25 | simp only [List.set_cons_succ] at st25 | simp only [List.set_cons_zero] at st25)
 clear st24
 try simp only [Act.put]
 refine aH ?_
 refine NoPanic.normal ?_
 go_wp2_with fail
 refine wp_region_noPanic ?_
 refine aE st25 25 [.t 1, .t 2, .t 6, .t 9, .t 10, .t 12, .t 16, .t 17, .t 21, .t 22, .c 0, .c 3, .c 4, .c 5, .c 7, .c 8, .c 11, .c 13, .c 14, .c 15, .c 18, .c 19, .c 20, .c 23, .w 24] (.m 25 .nil) Aa Aa (fun _ _ _ _ _ h => h) ?_
 clear st25
 refine aD rfl rfl rfl (fun _ => rfl) (cw 4 (kN ee)) (fun wx hS => St.rangeL hS 8 rfl 0 _ dZl) underlying60 rfl Aa ?_
 try simp only [J]
 refine aD rfl rfl rfl (fun _ => rfl) (cw 4 (kN t)) (fun wx hS => St.rangeL hS 12 rfl 0 _ dZl) underlying60 rfl Aa ?_
 try simp only [J]
 refine aD rfl rfl rfl (fun _ => rfl) (cw 4 (kN d)) (fun wx hS => St.rangeL hS 7 rfl 0 _ dZl) underlying60 rfl Aa ?_
 try simp only [J]
 refine aD rfl rfl rfl (fun _ => rfl) (cw 4 (kN v2)) (fun wx hS => St.rangeL hS 6 rfl 0 _ dZl) underlying60 rfl Aa ?_
 try simp only [J]
 refine aD rfl rfl rfl (fun _ => rfl) (cw 4 (kN e2)) (fun wx hS => St.rangeL hS 10 rfl 0 _ dZl) underlying60 rfl Aa ?_
 try simp only [J]
 refine aD rfl rfl rfl (fun _ => rfl) (cw 4 (kN t)) (fun wx hS => St.rangeL hS 12 rfl 0 _ dZl) underlying60 rfl Aa ?_
 try simp only [J]
 refine aD rfl rfl rfl (fun _ => rfl) (cw 4 (kN u2)) (fun wx hS => St.rangeL hS 5 rfl 0 _ dZl) underlying60 rfl Aa ?_
 try simp only [J]
 refine aD rfl rfl rfl (fun _ => rfl) (cw 4 (kN e3)) (fun wx hS => St.rangeL hS 11 rfl 0 _ dZl) underlying60 rfl Aa ?_
 try simp only [J]
 refine aD rfl rfl rfl (fun _ => rfl) (cw 4 (kN e3)) (fun wx hS => St.rangeL hS 11 rfl 0 _ dZl) underlying60 rfl Aa ?_
 try simp only [J]
 refine aD rfl rfl rfl (fun _ => rfl) (cw 4 (kN ww)) (fun wx hS => St.rangeL hS 9 rfl 0 _ dZl) underlying60 rfl Aa ?_
 try simp only [J]
 refine aC rfl rfl rfl call112 (fun w hS hR => bO _) (fun _ => rfl) ?_
 try simp only [J]
 refine aC rfl rfl rfl call58 (fun w hS hR => jV ee t X HX.out _) (fun _ => rfl) ?_
 try simp only [J]
 refine aC rfl rfl rfl call112 (fun w hS hR => bO _) (fun _ => rfl) ?_
 try simp only [J]
 refine aC rfl rfl rfl call112 (fun w hS hR => bO _) (fun _ => rfl) ?_
 try simp only [J]
 refine aC rfl rfl rfl call112 (fun w hS hR => bO _) (fun _ => rfl) ?_
 try simp only [J]
 refine aC rfl rfl rfl call112 (fun w hS hR => bO _) (fun _ => rfl) ?_
 try simp only [J]
 refine aC rfl rfl rfl call58 (fun w hS hR => jV v2 e2 s1 Hs1.out _) (fun _ => rfl) ?_
 try simp only [J]
 refine aC rfl rfl rfl call137 (fun w hS hR => m0e s1 t s2 Hs2.out _) (fun _ => rfl) ?_
 try simp only [J]
 refine aC rfl rfl rfl call58 (fun w hS hR => jV d s2 s3 Hs3.out _) (fun _ => rfl) ?_
 try simp only [J]
 refine aC rfl rfl rfl call112 (fun w hS hR => bO _) (fun _ => rfl) ?_
 try simp only [J]
 refine aC rfl rfl rfl call58 (fun w hS hR => jV u2 e3 s4 Hs4.out _) (fun _ => rfl) ?_
 try simp only [J]
 refine aC rfl rfl rfl call137 (fun w hS hR => m0e s3 s4 Y HY.out _) (fun _ => rfl) ?_
 try simp only [J]
 refine aC rfl rfl rfl call112 (fun w hS hR => bO _) (fun _ => rfl) ?_
 try simp only [J]
 refine aC rfl rfl rfl call58 (fun w hS hR => jV e3 ww Z HZ.out _) (fun _ => rfl) ?_
 try simp only [J]
 refine aS rfl rfl (fun _ => cC rfl _ (qA _ _ _)) ?_
 try simp only [J]
 refine bB fun xq w26 st26 hR => ?_
 try dsimp only
 clear hR xq
 refine aU rfl rfl ?_
 refine aG st26 2 rfl rfl rfl rfl Ai Aa (bX _ _ _) ?_
 intro w27 st27
 try simp only [List.set_cons_zero, List.set_cons_succ] at st27
 clear st26
 try simp only [Act.put]
 refine aH ?_
 refine NoPanic.normal ?_
 have hr := st27.at 2 rfl
 have hfr := st27.fr
 clear st27
 go_wp2_with fail
 exact bodyPost_ret (aY rfl rfl hr underlying62 rfl Aa) rfl ⟨rfl, hfr⟩
end
section
open Go.RowKit Go.Mv Mvp Mvq
structure RT where
 x : K
 y : K
 z : K
 on : onC (nm x y z)
def RT.pt (s : RT) : Pt := nm s.x s.y s.z
def RT.L (s : RT) : List Value := rpL s.x s.y s.z
theorem a0j (x y z : K) : (rpL x y z).length = 12 := by simp [rpL, aT]
theorem RT.len (s : RT) : s.L.length = 12 := a0j _ _ _
theorem RT.one (s : RT) : ∀ v ∈ s.L, v.oneCell' = true := bX _ _ _
theorem g0u (x y z : K) (ho : onC (nm x y z)) (hz : z ≠ 0) : ∃ X Y Z, nm X Y Z = cE (nm x y z) (nm x y z) ∧ ∀ wx, Calls prog 136 #[rpV x y z] wx fun e w' => e = .returned (rpV X Y Z) ∧ Fr Nob wx w' := by
 refine ⟨_, _, _, ?_, fun wx => j0s x y z _ _ _ _ _ _ _ _ _ _ _ _ _ _ _ _ _ _ _ rfl rfl rfl rfl rfl rfl rfl rfl rfl rfl rfl rfl rfl rfl rfl rfl rfl rfl rfl wx⟩
 exact b0L ho hz (x * x) _ _ _ _ _ rfl Bb Bb rfl rfl Bb
theorem m0g (x1 y1 z1 x2 y2 z2 : K) (ho1 : onC (nm x1 y1 z1)) (ho2 : onC (nm x2 y2 z2)) : ∃ X Y Z, nm X Y Z = cE (nm x1 y1 z1) (nm x2 y2 z2) ∧ ∀ wx, Calls prog 68 #[rpV x1 y1 z1, rpV x2 y2 z2] wx fun e w' => e = .returned (rpV X Y Z) ∧ Fr Nob wx w' := by
 by_cases hz1 : z1 = 0
 ·exact ⟨x2, y2, z2, by rw [k0g hz1]; rfl, fun wx => d0x x1 y1 z1 x2 y2 z2 (by simpa using hz1) wx⟩
 ·by_cases hz2 : z2 = 0
  ·exact ⟨x1, y1, z1, by rw [k0g hz2, eF], fun wx => d0y x1 y1 z1 x2 y2 z2 (by simpa using hz1) (by simpa using hz2) wx⟩
  ·by_cases hv : x2 * z1 = x1 * z2
   ·have hs := o0J ho1 ho2 hz1 hz2 hv
    by_cases hu : y2 * z1 = y1 * z2
    ·obtain ⟨X, Y, Z, h1, h2⟩ := g0u x1 y1 z1 ho1 hz1
     refine ⟨X, Y, Z, by rw [h1, hs.1 hu], fun wx => j0v x1 y1 z1 x2 y2 z2 (by simpa using hz1) (by simpa using hz2) _ _ _ _ rfl rfl rfl rfl (by simpa using hv) (by simpa using hu) (by simpa using hs.2.2) X Y Z h2 wx⟩
    ·exact ⟨0, 1, 0, by rw [k0g rfl, hs.2.1 hu], fun wx => j0t x1 y1 z1 x2 y2 z2 (by simpa using hz1) (by simpa using hz2) _ _ _ _ rfl rfl rfl rfl (by simpa using hv) (by simpa using hu) wx⟩
   ·refine ⟨_, _, _, ?_, fun wx => p0p x1 y1 z1 x2 y2 z2 (by simpa using hz1) (by simpa using hz2) _ _ _ _ _ _ _ _ _ _ _ _ _ _ _ _ _ _ _ _ _ _ rfl rfl rfl rfl rfl rfl rfl rfl rfl rfl rfl rfl rfl rfl rfl rfl rfl rfl rfl rfl rfl rfl (by simpa using hv) wx⟩
    exact i0B ho1 ho2 hz1 hz2 (y2 * z1) (x2 * z1) (y1 * z2) (x1 * z2) _ _ _ _ _ _ rfl rfl rfl rfl rfl rfl (fun h => hv (by
     have h2 : x2 * z1 - x1 * z2 + x1 * z2 = 0 + x1 * z2 := by rw [h]
     grind -lia -linarith)) rfl rfl rfl Bb
theorem d0z (s t : RT) : ∃ r : RT, r.pt = cE s.pt t.pt ∧ ∀ wx, Calls prog 68 #[.agg s.L.toArray, .agg t.L.toArray] wx fun e w' => e = .returned (.agg r.L.toArray) ∧ Fr Nob wx w' := by
 obtain ⟨X, Y, Z, h1, h2⟩ := m0g s.x s.y s.z t.x t.y t.z s.on t.on
 exact ⟨⟨X, Y, Z, by rw [h1]; exact eL s.on t.on⟩, h1, h2⟩
noncomputable def kC (s t : RT) : RT := Classical.choose (d0z s t)
theorem vJ (s t : RT) : (kC s t).pt = cE s.pt t.pt := (Classical.choose_spec (d0z s t)).1
theorem a0k (s t : RT) (w : World) : Calls prog 68 #[.agg s.L.toArray, .agg t.L.toArray] w fun e w' => e = .returned (.agg (kC s t).L.toArray) ∧ Fr Nob w w' := (Classical.choose_spec (d0z s t)).2 w
def noR : RT := ⟨0, 1, 0, by rw [k0g rfl]; trivial⟩
theorem j0w : noR.pt = .O := k0g rfl
theorem d0A (w : World) : Calls prog 95 #[] w fun e w' => e = .returned (.agg noR.L.toArray) ∧ Fr Nob w w' := c0a w
theorem n0m (x y : K) : nm x y 1 = .A x y := g0k Ac Bb Bb
def r0x (x y : K) (h : onC (.A x y)) : RT := ⟨x, y, 1, by rw [n0m]; exact h⟩
theorem d0B (x y : K) (h : onC (.A x y)) : (r0x x y h).pt = .A x y := n0m x y
theorem e0Y (p x : Nat) : dW p (x % p) = dW p x := by
 unfold dW rtN
 rw [Nat.mul_mod, Nat.pow_mod, Nat.mod_mod, ← Nat.pow_mod, ← Nat.mul_mod]
theorem p0q (x : Nat) : kc (rtV fP (x % fP)) = kc (rtV fP x) := by
 have h : rtN fP (x % fP) % fP = rtN fP x % fP := by unfold rtN; rw [← Nat.pow_mod]
 have hk : kc (rtN fP (x % fP)) = kc (rtN fP x) := by rw [← kV, h, kV]
 unfold rtV
 rw [h]
 split
 ·rfl
 ·exact hk
noncomputable def oH (n : Nat) (s : RT) : Nat → RT
 | 0 => noR
 | k + 1 => if n / 2 ^ (255 - k) % 2 = 1 then kC (kC (oH n s k) (oH n s k)) s else kC (oH n s k) (oH n s k)
theorem j0x (n : Nat) (s : RT) (k : Nat) : oH n s (k + 1) = if n / 2 ^ (255 - k) % 2 = 1 then kC (kC (oH n s k) (oH n s k)) s else kC (oH n s k) (oH n s k) := rfl
theorem j0y (n : Nat) (s : RT) : oH n s 0 = noR := rfl
theorem j0z (n : Nat) (hn : n < 2 ^ 256) (s : RT) : ∀ k, k ≤ 256 → (oH n s k).pt = bV (n / 2 ^ (256 - k)) s.pt
 | 0, _ => by
  show noR.pt = _
  rw [j0w, Nat.sub_zero, Nat.div_eq_of_lt hn]
  rfl
 | k + 1, h => by
  have ih := j0z n hn s k Ab
  have hb := e0H s.on n (255 - k)
  rw [show 256 - (k + 1) = 255 - k by omega]
  rw [show 256 - k = 255 - k + 1 by omega] at ih
  show _ = bV (n / 2 ^ (255 - k)) (nm s.x s.y s.z)
  rw [hb]
  show (if n / 2 ^ (255 - k) % 2 = 1 then kC (kC (oH n s k) (oH n s k)) s else kC (oH n s k) (oH n s k)).pt = _
  by_cases h1 : n / 2 ^ (255 - k) % 2 = 1
  ·rw [if_pos h1, if_pos h1, vJ, vJ, ih]; rfl
  ·rw [if_neg h1, if_neg h1, vJ, ih, eF]; rfl
noncomputable def dB (n : Nat) (s : RT) : RT := oH n s 256
theorem vK (n : Nat) (hn : n < 2 ^ 256) (s : RT) : (dB n s).pt = bV n s.pt := by
 have := j0z n hn s 256 (Nat.le_refl _)
 rwa [Nat.sub_self, Nat.pow_zero, Nat.div_one] at this
end
section
open Go.RowKit Go.Mv Mvp Mvq
attribute [local irreducible] bI lw mix cw cT dG cS bQ aO beN dO cI dI bM bT elN mdL cL rtV dW kN kc gE cK kC noR dB oH RT.L
theorem _root_.Bs {p : Prop} (h : p := by first | (simp [aT]; done) | (simp [RT.len]; done) | (simp [aT, RT.len]; done) | simp [aT, RT.len]) : p := h
theorem a0l (n : Nat) (s : RT) (w : World) : Calls prog 69 #[i4 n, .agg s.L.toArray] w fun e w' => e = .returned (.agg (dB n s).L.toArray) ∧ Fr Nob w w' := by
 unfold dB
 have st0 := St.start Nob w
 go_enter func69, ntmps69
 go_wp2_with (with_reducible refine AA 2 ?_)
 refine aL st0 rfl rfl rfl (cw 4 n) rfl ?_
 intro g2 w1 st1
 clear st0
 go_wp2_with (with_reducible refine AA 3 ?_)
 refine aL st1 rfl rfl rfl (s.L) rfl ?_
 intro g3 w2 st2
 clear st1
 go_wp2_with (with_reducible refine AA 4 ?_)
 refine aA st2 rfl rfl (z := zAc) Aa (cw 12 0) Af ?_
 intro g4 w3 st3
 clear st2
 go_wp2_with fail
 refine (d0A _).mono ?_
 rintro e' w4 ⟨rfl, hf4⟩
 have st4 := st3.keep hf4
 clear st3 hf4
 go_wp2_with (with_reducible refine AA 5 ?_)
 refine aA st4 rfl rfl (z := zAc) Aa (cw 12 0) Af ?_
 intro g5 w5 st5
 clear st4
 go_wp2_with (with_reducible refine AB ?_)
 refine aB st5 3 rfl rfl rfl rfl rfl Bs Aa (RT.one _) ?_
 intro w6 st6
 clear st5
 go_wp2
 go_loopw [6] (fun i wr => ∃ k : Nat, k ≤ 256 ∧ i = .int .i64 (255 - (k : Int)) ∧ St Nob w wr [(g2, cw 4 n, 60), (g3, s.L, 62), (g4, cw 12 0, 62), (g5, (oH n s k).L, 62)]) (fun i _ => (intOf i + 1).toNat)
 case atStart => exact ⟨0, by omega, rfl, by rw [j0y]; exact st6⟩
 case round =>
  obtain ⟨k, hk, rfl, st⟩ := hrel
  clear st6
  rcases Nat.lt_or_ge k 256 with hk2 | hk2
  ·have hge : (0 : Int) ≤ 255 - (k : Int) := by omega
   have hrec := j0x n s k
   generalize hT' : oH n s (k + 1) = T' at *
   have HT' := qH hT'
   clear hT'
   generalize oH n s k = T at *
   have hbit := fun wx => pE n (255 - k) wx Ab
   rw [show (((255 - k : Nat)) : Int) = 255 - (k : Int) by omega] at hbit
   have hb2 : n / 2 ^ (255 - k) % 2 < 2 := Nat.mod_lt _ Ac
   generalize n / 2 ^ (255 - k) % 2 = b at *
   have HREC := qH hrec
   have HBIT := qH hbit
   clear hrec hbit
   go_wp2_with (with_reducible refine AA 12 ?_)
   refine aM st 3 rfl rfl rfl underlying62 rfl rfl Aa ?_
   go_wp2_with (with_reducible refine AA 13 ?_)
   refine aM st 3 rfl rfl rfl underlying62 rfl rfl Aa ?_
   go_wp2_with fail
   refine (a0k T T _).mono ?_
   rintro e' w7 ⟨rfl, hf7⟩
   have st7 := st.keep hf7
   clear st hf7
   go_wp2_with (with_reducible refine AB ?_)
   refine aB st7 3 rfl rfl rfl rfl rfl (by simp [RT.len]) Aa (RT.one _) ?_
   intro w8 st8
   clear st7
   go_wp2_with (with_reducible refine AA 15 ?_)
   refine aI st8 0 rfl rfl rfl underlying60 rfl Aa ?_
   go_wp2_with fail
   refine (HBIT.out _).mono ?_
   rintro e' w9 ⟨rfl, hf9⟩
   have st9 := st8.keep hf9
   clear st8 hf9
   obtain rfl | rfl : b = 0 ∨ b = 1 := by omega
   ·have HE := qH (show T' = kC T T by rw [HREC.out]; rfl)
    clear hb2
    go_wp2
    go_roundw
    case rel => exact ⟨k + 1, by omega, by go_num, by rw [HT'.out, HE.out]; exact st9⟩
    case measure => simp [intOf]; omega
   ·have HE := qH (show T' = kC (kC T T) s by rw [HREC.out]; rfl)
    clear hb2
    go_wp2_with (with_reducible refine AA 19 ?_)
    refine aM st9 3 rfl rfl rfl underlying62 rfl rfl Aa ?_
    go_wp2_with (with_reducible refine AA 20 ?_)
    refine aM st9 1 rfl rfl rfl underlying62 rfl rfl Aa ?_
    go_wp2_with fail
    refine (a0k (kC T T) s _).mono ?_
    rintro e' w10 ⟨rfl, hf10⟩
    have st10 := st9.keep hf10
    clear st9 hf10
    go_wp2_with (with_reducible refine AB ?_)
    refine aB st10 3 rfl rfl rfl rfl rfl (by simp [RT.len]) Aa (RT.one _) ?_
    intro w11 st11
    clear st10
    go_wp2
    go_roundw
    case rel => exact ⟨k + 1, by omega, by go_num, by rw [HT'.out, HE.out]; exact st11⟩
    case measure => simp [intOf]; omega
  ·have hk3 : k = 256 := by omega
   subst hk3
   have hge : ¬ ((0 : Int) ≤ 255 - ((256 : Nat) : Int)) := by omega
   go_wp2_with (with_reducible refine AA 22 ?_)
   refine aM st 3 rfl rfl rfl underlying62 rfl rfl Aa ?_
   go_wp2_with (with_reducible refine AB ?_)
   refine aB st 2 rfl rfl rfl rfl rfl Bs Aa (RT.one _) ?_
   intro w7 st7
   clear st
   have hr := st7.at 2 rfl
   have hfr := st7.fr
   clear st7
   go_wp2_with fail
   exact bodyPost_ret (aY rfl rfl hr underlying62 rfl Aa) rfl ⟨rfl, hfr⟩
theorem r0y (x : K) (xx x3 cv : K) (exx : x * x = xx) (ex3 : xx * x = x3) (ecv : x3 + 7 = cv) (hr : dW fP (kN cv) = true) (w : World) : Calls prog 141 #[i4 (kN x)] w fun e w' => e = .returned (.tuple #[rpV x (kc (rtV fP (kN cv))) 1, .bool true]) ∧ Fr Nob w w' := by
 have HR := qH hr
 clear hr
 have Hxx := qH exx
 have Hx3 := qH ex3
 have Hcv := qH ecv
 clear exx ex3 ecv
 unfold rpV rpL
 have st0 := St.start Nob w
 go_enter func141, ntmps141
 go_wp2_with (with_reducible refine AA 1 ?_)
 refine aL st0 rfl rfl rfl (cw 4 (kN x)) rfl ?_
 intro g1 w1 st1
 clear st0
 go_wp2_with (with_reducible refine AA 2 ?_)
 refine aA st1 rfl rfl (z := zAc) Aa (cw 12 0) Af ?_
 intro g2 w2 st2
 clear st1
 go_wp2_with fail
 refine wp_region_noPanic ?_
 refine aE st2 17 [.o 15, .t 4, .t 5, .t 7, .c 0, .c 1, .c 2, .c 3, .c 6, .c 8, .c 9, .c 10, .c 11, .w 12, .w 13, .w 14, .j 15] (.r 16 (.m 17 .nil)) Aa Aa (fun _ _ _ _ _ h => h) ?_
 clear st2
 refine dK rfl rfl rfl nL (cw 4 0) rfl ?_
 try simp only [J]
 refine aD rfl rfl rfl (fun _ => rfl) (cw 4 (kN x)) (fun wx hS => St.rangeL hS 0 rfl 0 _ dZl) underlying60 rfl Aa ?_
 try simp only [J]
 refine aD rfl rfl rfl (fun _ => rfl) (cw 4 (kN x)) (fun wx hS => St.rangeL hS 0 rfl 0 _ dZl) underlying60 rfl Aa ?_
 try simp only [J]
 refine aD rfl rfl rfl (fun _ => rfl) (cw 4 (kN x)) (fun wx hS => St.rangeL hS 0 rfl 0 _ dZl) underlying60 rfl Aa ?_
 try simp only [J]
 refine aC rfl rfl rfl call112 (fun w hS hR => bO _) (fun _ => rfl) ?_
 try simp only [J]
 refine aC rfl rfl rfl call112 (fun w hS hR => bO _) (fun _ => rfl) ?_
 try simp only [J]
 refine aC rfl rfl rfl call112 (fun w hS hR => bO _) (fun _ => rfl) ?_
 try simp only [J]
 refine aC rfl rfl rfl call112 (fun w hS hR => bO _) (fun _ => rfl) ?_
 try simp only [J]
 refine aC rfl rfl rfl call58 (fun w hS hR => jV x x xx Hxx.out _) (fun _ => rfl) ?_
 try simp only [J]
 refine aC rfl rfl rfl call58 (fun w hS hR => jV xx x x3 Hx3.out _) (fun _ => rfl) ?_
 try simp only [J]
 refine aC rfl rfl rfl call156 (fun w hS hR => j0p _) (fun _ => rfl) ?_
 try simp only [J]
 refine aC rfl rfl rfl call57 (fun w hS hR => p0l x3 7 cv Hcv.out _) (fun _ => rfl) ?_
 try simp only [J]
 refine aC rfl rfl rfl call186 (fun w hS hR => p0m (kN cv) (d0u _) HR.out _) (fun _ => rfl) ?_
 try simp only [J]
 iterate 3 (refine aS rfl rfl apX ?_; try simp only [J])
 refine dL List.mem_cons_self fun g4 => ?_
 simp only [upd, reduceIte]
 refine bB fun xq w3 st3 hR => ?_
 try dsimp only
 clear hR xq
 refine bC rfl rfl ?_
 refine aG st3 2 rfl rfl rfl rfl Ai Aa (aF _ _) ?_
 intro w4 st4
 repeat (first | simp only [List.cons_append] at st4 | simp only [List.nil_append] at st4 | simp only [List.set_cons_succ] at st4 | simp only [List.set_cons_zero] at st4)
 clear st3
 refine ⟨by first | exact st4 | exact St.less st4 Ae, ?_⟩
 try simp only [Act.put]
 refine aU rfl rfl ?_
 go_simp
 try simp only [J]
 refine aH ?_
 refine NoPanic.normal ?_
 go_wp2_with fail
 refine wp_region_noPanic ?_
 refine aE st4 5 [.t 0, .t 1, .w 4, .c 2, .w 3] (.m 5 (.w 6 .nil)) Aa Aa (fun _ _ _ _ _ h => h) ?_
 clear st4
 refine aD rfl rfl rfl (fun _ => rfl) (cw 4 (kN x)) (fun wx hS => St.rangeL hS 0 rfl 0 _ dZl) underlying60 rfl Aa ?_
 try simp only [J]
 refine aD rfl rfl rfl (fun _ => rfl) (cw 4 (kN (kc (rtV fP (kN cv))))) (fun wx hS => St.rangeL hS 2 rfl 0 _ dZl) underlying60 rfl Aa ?_
 try simp only [J]
 refine aS rfl rfl apX ?_
 try simp only [J]
 refine aC rfl rfl rfl call156 (fun w hS hR => d0w _) (fun _ => rfl) ?_
 try simp only [J]
 refine aS rfl rfl (fun _ => cC rfl _ (qA _ _ _)) ?_
 try simp only [J]
 refine bB fun xq w5 st5 hR => ?_
 try dsimp only
 clear hR xq
 refine aU rfl rfl ?_
 refine aG st5 1 rfl rfl rfl rfl Ai Aa (bX _ _ _) ?_
 intro w6 st6
 try simp only [List.set_cons_zero, List.set_cons_succ] at st6
 clear st5
 try simp only [Act.put]
 refine aJ rfl rfl apW ?_
 try simp only [J]
 refine aH ?_
 refine NoPanic.normal ?_
 have hr := st6.at 1 rfl
 have hfr := st6.fr
 clear st6
 go_wp2_with fail
 exact bodyPost_ret (bF rfl rfl hr underlying62 rfl Aa rfl) rfl ⟨rfl, hfr⟩
theorem s0R (x : K) (xx x3 cv : K) (exx : x * x = xx) (ex3 : xx * x = x3) (ecv : x3 + 7 = cv) (hr : dW fP (kN cv) = false) (w : World) : Calls prog 141 #[i4 (kN x)] w fun e w' => e = .returned (.tuple #[rpV x (0) 1, .bool false]) ∧ Fr Nob w w' := by
 have HR := qH hr
 clear hr
 have Hxx := qH exx
 have Hx3 := qH ex3
 have Hcv := qH ecv
 clear exx ex3 ecv
 unfold rpV rpL
 have st0 := St.start Nob w
 go_enter func141, ntmps141
 go_wp2_with (with_reducible refine AA 1 ?_)
 refine aL st0 rfl rfl rfl (cw 4 (kN x)) rfl ?_
 intro g1 w1 st1
 clear st0
 go_wp2_with (with_reducible refine AA 2 ?_)
 refine aA st1 rfl rfl (z := zAc) Aa (cw 12 0) Af ?_
 intro g2 w2 st2
 clear st1
 go_wp2_with fail
 refine wp_region_noPanic ?_
 refine aE st2 17 [.o 15, .t 4, .t 5, .t 7, .c 0, .c 1, .c 2, .c 3, .c 6, .c 8, .c 9, .c 10, .c 11, .w 12, .w 13, .w 14, .j 15] (.r 16 (.m 17 .nil)) Aa Aa (fun _ _ _ _ _ h => h) ?_
 clear st2
 refine dK rfl rfl rfl nL (cw 4 0) rfl ?_
 try simp only [J]
 refine aD rfl rfl rfl (fun _ => rfl) (cw 4 (kN x)) (fun wx hS => St.rangeL hS 0 rfl 0 _ dZl) underlying60 rfl Aa ?_
 try simp only [J]
 refine aD rfl rfl rfl (fun _ => rfl) (cw 4 (kN x)) (fun wx hS => St.rangeL hS 0 rfl 0 _ dZl) underlying60 rfl Aa ?_
 try simp only [J]
 refine aD rfl rfl rfl (fun _ => rfl) (cw 4 (kN x)) (fun wx hS => St.rangeL hS 0 rfl 0 _ dZl) underlying60 rfl Aa ?_
 try simp only [J]
 refine aC rfl rfl rfl call112 (fun w hS hR => bO _) (fun _ => rfl) ?_
 try simp only [J]
 refine aC rfl rfl rfl call112 (fun w hS hR => bO _) (fun _ => rfl) ?_
 try simp only [J]
 refine aC rfl rfl rfl call112 (fun w hS hR => bO _) (fun _ => rfl) ?_
 try simp only [J]
 refine aC rfl rfl rfl call112 (fun w hS hR => bO _) (fun _ => rfl) ?_
 try simp only [J]
 refine aC rfl rfl rfl call58 (fun w hS hR => jV x x xx Hxx.out _) (fun _ => rfl) ?_
 try simp only [J]
 refine aC rfl rfl rfl call58 (fun w hS hR => jV xx x x3 Hx3.out _) (fun _ => rfl) ?_
 try simp only [J]
 refine aC rfl rfl rfl call156 (fun w hS hR => j0p _) (fun _ => rfl) ?_
 try simp only [J]
 refine aC rfl rfl rfl call57 (fun w hS hR => p0l x3 7 cv Hcv.out _) (fun _ => rfl) ?_
 try simp only [J]
 refine aC rfl rfl rfl call186 (fun w hS hR => p0n (kN cv) (d0u _) HR.out _) (fun _ => rfl) ?_
 try simp only [J]
 iterate 3 (refine aS rfl rfl apX ?_; try simp only [J])
 refine dL List.mem_cons_self fun g4 => ?_
 simp only [upd, reduceIte]
 refine bB fun xq w3 st3 hR => ?_
 try dsimp only
 clear hR xq
 refine bC rfl rfl ?_
 refine aG st3 2 rfl rfl rfl rfl Ai Aa (aF _ _) ?_
 intro w4 st4
 repeat (first | simp only [List.cons_append] at st4 | simp only [List.nil_append] at st4 | simp only [List.set_cons_succ] at st4 | simp only [List.set_cons_zero] at st4)
 clear st3
 refine ⟨by first | exact st4 | exact St.less st4 Ae, ?_⟩
 try simp only [Act.put]
 refine aU rfl rfl ?_
 go_simp
 try simp only [J]
 refine aH ?_
 refine NoPanic.normal ?_
 go_wp2_with fail
 refine wp_region_noPanic ?_
 refine aE st4 5 [.t 0, .t 1, .w 4, .c 2, .w 3] (.m 5 (.w 6 .nil)) Aa Aa (fun _ _ _ _ _ h => h) ?_
 clear st4
 refine aD rfl rfl rfl (fun _ => rfl) (cw 4 (kN x)) (fun wx hS => St.rangeL hS 0 rfl 0 _ dZl) underlying60 rfl Aa ?_
 try simp only [J]
 refine aD rfl rfl rfl (fun _ => rfl) (cw 4 (kN 0)) (fun wx hS => St.rangeL hS 2 rfl 0 _ dZl) underlying60 rfl Aa ?_
 try simp only [J]
 refine aS rfl rfl apX ?_
 try simp only [J]
 refine aC rfl rfl rfl call156 (fun w hS hR => d0w _) (fun _ => rfl) ?_
 try simp only [J]
 refine aS rfl rfl (fun _ => cC rfl _ (qA _ _ _)) ?_
 try simp only [J]
 refine bB fun xq w5 st5 hR => ?_
 try dsimp only
 clear hR xq
 refine aU rfl rfl ?_
 refine aG st5 1 rfl rfl rfl rfl Ai Aa (bX _ _ _) ?_
 intro w6 st6
 try simp only [List.set_cons_zero, List.set_cons_succ] at st6
 clear st5
 try simp only [Act.put]
 refine aJ rfl rfl apW ?_
 try simp only [J]
 refine aH ?_
 refine NoPanic.normal ?_
 have hr := st6.at 1 rfl
 have hfr := st6.fr
 clear st6
 go_wp2_with fail
 exact bodyPost_ret (bF rfl rfl hr underlying62 rfl Aa rfl) rfl ⟨rfl, hfr⟩
end
end Go.Proofs.YtemcankmggmgoaaGreat
namespace Go.Mv
open Go.RowKit
section
variable {P : Program} {Q : Exit → Act → World → Prop} {Sx : World → Prop} {S : Nat → Prop} {w0 : World} {tl : Pl} {l : List Oper} {i : Nat} {s : List LS} {Γ : List Flt} {BL : List Blk} {R : World → Prop} {A : (Nat → Value) → Act} {o : Oper}
theorem j0A {parts : Array (Nat × Operand)} {ρ : Operand → Value} {M : List (Nat × Value)} (h : (parts.toList.map fun p => (p.1, ρ p.2)) = M) : (parts.map fun (i, x) => (i, ρ x)) = M.toArray := by
 apply Array.toList_inj.1
 rw [Array.toList_map, ← h]
theorem p0r {t e : TypeId} {k : Nat} {M : List (Nat × Value)} (hu : P.underlying t = some (.slice e)) {z : Value} {sz by_ : Nat} (hi0 : (P.info? e).map (fun i => (i.zero, i.size, i.bytes)) = some (some z, sz, by_)) (vs : List Value) (hp : M = (vs.zipIdx 0).map fun x => (x.2, x.1))
  (hv : ∀ v ∈ vs, v.cells.size = sz) (hk : vs.length = k) (L : List Value) (hL : (vs.flatMap fun v => v.cells.toList) = L) (hk0 : 0 < k * sz := by decide) (hk24 : k * sz ≤ 16777216 := by decide) :
  Mk P (do pure (.value (← Instr.buildSlice t k M.toArray))) (fun g => .slice (some ⟨g, 0, none⟩) k k) L e := by
 intro w
 obtain ⟨i, hi, hz0⟩ : ∃ i, P.info? e = some i ∧ (i.zero, i.size, i.bytes) = (some z, sz, by_) := by simpa using hi0
 simp only [Prod.mk.injEq] at hz0
 obtain ⟨hz1, hsz, hby⟩ := hz0
 have hs0 : 0 < sz := Nat.pos_of_mul_pos_left hk0
 have hf : Instr.fill (fun j => some (j * i.size, i.size)) ((Array.range (k * i.size)).map (z.cells[· % z.cells.size]!)) M = some L.toArray := by
  rw [hp, hsz, ← hL]
  exact Great.fill_whole hs0 vs _ hv (by simp [hk])
 refine ⟨w.heap.size, w.alloc (.cells L.toArray e), ?_, (Fr.refl _ w).alloc _, Nat.le_refl _, Has.new w L.toArray e⟩
 simp only [Sem.run_bind, run_buildSlice w t e k M.toArray L.toArray i z hu hi hz1 Bh Bh (by simpa using hf), Result.andThen_ok, Sem.run_pure]
theorem wG {id : Nat} {a : Act} {w : World} (hst : St S w0 w BL) (R : World → Prop) (hR : R w.drew) (hRm : ∀ w w', R w → Fr Nob w w' → R w') (m : Nat) (s : List LS) (tl : Pl) (hm : P.follows .mixedOrders = true) (hB : e0C l.toArray m s tl = true)
  (hQ : ∀ c (d : Option Tmp) v a w, Q (.panic c) (Act.put a d v) w → Q (.panic c) a w)
  (h : Lad P l.toArray Q (fun w => St S w0 w BL) S w0 tl s [] BL R (fun _ => a)) : (Code.region id l.toArray true).wp P Q a w := by
 simp only [e0C, Bool.and_eq_true, decide_eq_true_eq] at hB
 obtain ⟨⟨⟨hsel, hms⟩, hlen⟩, hok⟩ := hB
 have hmk : lK (Array.replicate l.toArray.size false) (List.map Prod.fst ([] : List (Nat × Value × Blk))) = Array.replicate l.toArray.size false := by
  refine mS (dP _ _) fun k hk => ?_
  rw [fW _ _ _ (by simpa [dP] using hk)]; simp
 have inv0 : Cl .any l.toArray (Array.replicate l.toArray.size false) :=
  ⟨by simp, fun j oj _ hl => (by rw [getD_replicate_false] at hl; cases hl)⟩
 have H := xH (md := .any) (Sx := fun w => St S w0 w BL) hsel hms hQ (l.toArray.size + s.length) l.toArray.size s [] (Array.replicate l.toArray.size false) [] (fun _ => undef) w.drew BL R (fun _ => a)
  (Nat.le_refl _) (by simp [hlen]) Ae Ae Ae (by rw [hmk]; exact inv0) hok Ae ⟨by simp, by simp, by simp, fun _ _ _ _ => rfl⟩ Ae (by simpa using hst.drew) hR hRm (fun _ h => h) h
 rw [hmk] at H
 exact wp_region_any hm (jC _ _ _ _ H)
end
end Go.Mv
namespace Go.Proofs.YtemcankmggmgoaaGreat
section
open Go.RowKit Go.Mv Mvp Mvq
theorem m0h : beN [121, 190, 102, 126, 249, 220, 187, 172, 85, 160, 98, 149, 206, 135, 11, 7, 2, 155, 252, 219, 45, 206, 40, 217, 89, 242, 129, 91, 22, 248, 23, 152] = gXn := by decide
theorem t0B (w : World) : Calls prog 173 #[.string ⟨#[121, 190, 102, 126, 249, 220, 187, 172, 85, 160, 98, 149, 206, 135, 11, 7, 2, 155, 252, 219, 45, 206, 40, 217, 89, 242, 129, 91, 22, 248, 23, 152]⟩] w fun e w' => e = .returned (i4 (kN (kc gXn))) ∧ Fr Nob w w' := by
 have h := m0U ⟨#[121, 190, 102, 126, 249, 220, 187, 172, 85, 160, 98, 149, 206, 135, 11, 7, 2, 155, 252, 219, 45, 206, 40, 217, 89, 242, 129, 91, 22, 248, 23, 152]⟩ w Ac
 have e : beN [121, 190, 102, 126, 249, 220, 187, 172, 85, 160, 98, 149, 206, 135, 11, 7, 2, 155, 252, 219, 45, 206, 40, 217, 89, 242, 129, 91, 22, 248, 23, 152] = kN (kc gXn) := by rw [m0h]; decide
 rw [← e]
 exact h
theorem d0C : gYn % fP = gYn ∧ gYn % 2 = 0 ∧ gYn < fP := by decide
theorem t0o : dW fP (kN (kc gXn * kc gXn * kc gXn + 7)) = true ∧ kc (rtV fP (kN (kc gXn * kc gXn * kc gXn + 7))) = kc gYn := by
 have hb : kc gYn * kc gYn = kc gXn * kc gXn * kc gXn + 7 := zW
 rw [← hb]
 have e : kN (kc gYn * kc gYn) = gYn * gYn % fP := by rw [← bN, b0Z]
 have fp : FP fP := by rw [← i0z]; exact s0K
 have h4 : fP % 4 = 3 := by decide
 have ho := i0D fp h4 d0C.2.2
 rw [e]
 refine ⟨ho, ?_⟩
 have hlt : gYn * gYn % fP < fP := Nat.mod_lt _ Ac
 have hsq := d0g fp hlt ho
 have hev := b0P fp (x := gYn * gYn % fP)
 have h2 := r0b fp.prime d0C.2.2 (Nat.mod_lt (rtV fP (gYn * gYn % fP)) (by decide : 0 < fP)) (by rw [hsq])
 have hy := d0C.2.1
 rcases h2 with h2 | h2
 ·rw [← kV, h2]
 ·exfalso
  have h3 : (fP - gYn) % fP = fP - gYn := by decide
  rw [h2, h3] at hev
  have h5 : (fP - gYn) % 2 = 1 := by decide
  omega
noncomputable def d0D : RT := r0x (kc gXn) (kc gYn) zW
theorem m0i : d0D.pt = .A (kc gXn) (kc gYn) := d0B _ _ _
theorem t0C (w : World) : Calls prog 141 #[i4 (kN (kc gXn))] w fun e w' => e = .returned (.tuple #[.agg d0D.L.toArray, .bool true]) ∧ Fr Nob w w' := by
 have h := r0y (kc gXn) _ _ _ rfl rfl rfl t0o.1 w
 rw [t0o.2] at h
 exact h
theorem p0s : (List.replicate 33 (Value.int .u8 0)) = bs (List.replicate 33 0) := by rfl
attribute [local irreducible] bI lw mix cw cT dG cS bQ aO beN dO cI dI bM bT elN mdL cL rtV dW kN kc gE cK kC noR dB oH RT.L gXn gYn
theorem t0D (w : World) : Calls prog 127 #[] w fun e w' => e = .returned (.agg d0D.L.toArray) ∧ Fr Nob w w' := by
 have st0 := St.start Nob w
 go_enter func127, ntmps127
 go_wp2_with (with_reducible refine AA 0 ?_)
 refine aA st0 rfl rfl (z := zAc) Aa (cw 12 0) Af ?_
 intro g0 w1 st1
 clear st0
 go_wp2_with fail
 refine (t0B _).mono ?_
 rintro e' w2 ⟨rfl, hf2⟩
 have st2 := st1.keep hf2
 clear st1 hf2
 go_wp2_with (with_reducible refine AA 1 ?_)
 refine aA st2 rfl rfl (z := zAd) Aa (cw 4 0) Af ?_
 intro g1 w3 st3
 clear st2
 go_wp2_with (with_reducible refine AB ?_)
 refine aB st3 1 rfl rfl rfl rfl rfl Ai Aa (aF _ _) ?_
 intro w4 st4
 clear st3
 go_wp2_with (with_reducible refine AA 6 ?_)
 refine aI st4 1 rfl rfl rfl underlying60 rfl Aa ?_
 go_wp2_with fail
 refine (t0C _).mono ?_
 rintro e' w5 ⟨rfl, hf5⟩
 have st5 := st4.keep hf5
 clear st4 hf5
 go_wp2_with (with_reducible refine AA 2 ?_)
 refine aA st5 rfl rfl (z := zAc) Aa (cw 12 0) Af ?_
 intro g2 w6 st6
 clear st5
 go_wp2_with (with_reducible refine AB ?_)
 refine aB st6 2 rfl rfl rfl rfl rfl Bs Aa (RT.one _) ?_
 intro w7 st7
 clear st6
 go_wp2_with (with_reducible refine AA 10 ?_)
 refine aM st7 2 rfl rfl rfl underlying62 rfl rfl Aa ?_
 go_wp2_with (with_reducible refine AB ?_)
 refine aB st7 0 rfl rfl rfl rfl rfl Bs Aa (RT.one _) ?_
 intro w8 st8
 clear st7
 have hr := st8.at 0 rfl
 have hfr := st8.fr
 clear st8
 go_wp2_with fail
 exact bodyPost_ret (aY rfl rfl hr underlying62 rfl Aa) rfl ⟨rfl, hfr⟩
end
section
open Go.RowKit Go.Mv Mvp Mvq
end
end Go.Proofs.YtemcankmggmgoaaGreat
