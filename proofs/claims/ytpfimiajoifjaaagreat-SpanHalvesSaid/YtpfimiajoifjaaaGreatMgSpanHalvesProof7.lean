/- ; ; ; ; ; ; ; ; ; ; ; ; ; ; ; ; ; ; ; ; ; ; ; ; ; ; ; ; ; ; ; ; ; ; ; ; ; ; ; ; ; ; ; ; ; ; ; . -/
import Derived.Test.YtpfimiajoifjaaaGreatMgSpanHalvesProof6
import Derived.Test.YtpfimiajoifjaaaGreatMgSpanHalvesProof4
import Derived.Test.YtpfimiajoifjaaaGreatMgSpanHalvesProof3
import Derived.Test.YtpfimiajoifjaaaGreatMgSpanHalvesProof5
import Derived.Test.YtpfimiajoifjaaaGreatMgSpanHalvesProof2
import Derived.Test.YtpfimiajoifjaaaGreatMgSpanHalvesProof1
import Derived.ProofKit
import Derived.OpenShut
import Derived.Carry
set_option maxHeartbeats 16000000
set_option maxRecDepth 1000000

namespace Go.Mv
open Go.RowKit
variable {P : Program} {ops : Array Oper} {a : Act} {w : World} {rest : List Oper} {Q : Exit → Act → World → Prop} {o : Oper}
theorem j0G (v : Value) (sz m : Nat) (h : 0 < sz) : (madeCells (List.replicate sz v).toArray m).toList = List.replicate m v := by
 apply List.ext_getElem?
 intro j
 by_cases hj : j < m
 ·have : j % sz < sz := Nat.mod_lt _ h
  simp [madeCells, hj, this]
 ·simp [madeCells, hj]
theorem g0K {l c : Operand} {t : TypeId} (hgd : o.guard = none) (ho : o.op = .makeSlice t l c) {e : TypeId} {z v : Value} {sz by_ : Nat} (ht : P.underlying t = some (.slice e))
  (hi0 : (P.info? e).map (fun i => (i.zero, i.size, i.bytes)) = some (some z, sz, by_)) (hzc : z.cells = (List.replicate sz v).toArray) (hsz : 0 < sz) {kl kc : IntKind} {x y : Int} (hl : a.eval l = .int kl x) (hc : a.eval c = .int kc y) (n m : Nat) (hx : x = n) (hy : y = m) (hnm : n ≤ m)
  (hb : by_ * m ≤ 281474976710656) (h63 : m ≤ maxLen)
  (h : ∀ w', Has w' w.heap.size (List.replicate (m * sz) v) e → Fr Nob w w' → wpList P ops Q rest (a.put o.dst (.slice (some ⟨w.heap.size, 0, none⟩) n m)) w') : wpList P ops Q (o :: rest) a w := by
 refine wpList_plain hgd fun K hK => ?_
 obtain ⟨i, hi, hz0⟩ : ∃ i, P.info? e = some i ∧ (i.zero, i.size, i.bytes) = (some z, sz, by_) := by simpa using hi0
 simp only [Prod.mk.injEq] at hz0
 obtain ⟨hz, hsize, hby⟩ := hz0
 subst hx
 subst hy
 have hmx : (m : Int) ≤ 9223372036854775807 := by simp only [maxLen] at h63; omega
 have hbb : (i.bytes : Int) * (m : Int) ≤ 281474976710656 := by
  have k : ((i.bytes * m : Nat) : Int) ≤ 281474976710656 := by rw [hby]; omega
  rwa [Int.natCast_mul] at k
 have hr := run_make (P := P) w t e i z ht hi hz kl kc n m ap1 ap1 hbb hmx
 simp only [Int.toNat_natCast, hsize] at hr
 unfold Oper.wp execOp
 simp only [ho, hl, hc, Sem.run_bind, Sem.run_pure, Result.andThen_ok, hr]
 refine hK _ _ (h _ ?_ ((Fr.refl _ w).alloc _))
 have := Has.new w (madeCells z.cells (m * sz)) e
 rw [hzc] at this ⊢
 rwa [j0G v sz _ hsz] at this
end Go.Mv
namespace Go.Proofs.YtpfimiajoifjaaaGreat
open Go.RowKit Go.Mv Mvp Mvq
theorem h0F : (Tryz.prog.info? 181).map (fun i => (i.zero, i.size, i.bytes)) = some (some (.agg (List.replicate 196 (.int .u64 0)).toArray), 196, 1568) := by kernel_rfl
def aK (ls : List (List UInt8)) (k : Nat) : Nat → Nat := fun i => if i < k then beN (ls.getD i []) else 0
theorem m0z (n : Nat) (ls : List (List UInt8)) : List.replicate (n * 196) (Value.int .u64 0) = tmF n (aK ls 0) (fun _ => cw 192 0) := by
 rw [t0C]
 exact e0t _ _ _ _ _ fun i _ => ⟨by unfold aK; rw [if_neg (Nat.not_lt_zero _)], rfl⟩
theorem r0A (n : Nat) (ls : List (List UInt8)) (k : Nat) (l : List UInt8) (hl : ls.getD k [] = l) (h : k < n) : splice (tmF n (aK ls k) (fun _ => cw 192 0)) (k * 196) (cw 4 (beN l)) = tmF n (aK ls (k + 1)) (fun _ => cw 192 0) := by
 subst hl
 rw [t0A n _ _ (fun _ => a0g _ _) k _ h]
 refine e0t _ _ _ _ _ fun i _ => ⟨?_, rfl⟩
 unfold upN aK
 by_cases e : i = k
 ·rw [if_pos e, if_pos ap1, e]
 ·rw [if_neg e]
  by_cases e2 : i < k
  ·rw [if_pos e2, if_pos ap1]
  ·rw [if_neg e2, if_neg ap1]
theorem j0H (n : Nat) (a : Nat → Nat) : (tmF n a (fun _ => cw 192 0)).length = n * 196 := r0y n a _ (fun _ => a0g _ _)
attribute [local irreducible] a0v lw mix cw b0e b0f b0a beN b0l b0b a0z a0F elN mdL b0m rtN rtV b0J gXn gYn PT.L j0V j0x e0G tbL tmR tmL dbN g0G g0q j0W dig rdT b0s c0Q ptL g0u c0z c0m tmF tkT l0C aK
theorem y0Y (al : Option Addr) (n cl : Nat) (vs : List Value) (ln : List (List UInt8)) (bl : Option Addr) (dl : Nat) (us : List Value) (lp : List (List UInt8)) (w : World) (hv : Rd w al n vs) (hp : BParts w vs ln) (hu : Rd w bl n us) (hq : BParts w us lp) (hn : n ≤ 512) (hg : a0D mQ ln = true) (hr : c0z lp = true) :
  Calls Tryz.prog 121 #[.slice al n cl, .slice bl n dl] w fun e w' => ∃ sv, e = .returned (.tuple #[sv, .int .i64 0]) ∧ Own w' w.heap.size 5 1 sv 33 (bs (c0m (j0W (l0C (aK ln n) lp)).pt)) ∧ Fr Nob w w' := by
 have HV := qH hv
 have HP := qH hp
 have HU := qH hu
 have HQ := qH hq
 have HL := qH (show ln.length = n by rw [← hp.1, hv.len])
 have HL2 := qH (show lp.length = n by rw [← hq.1, hu.len])
 have HN := qH hn
 have hnI : ¬ ((512 : Int) < (n : Int)) := by omega
 clear hv hp hu hq
 have HGA := qH hg
 have HRA := qH hr
 clear hg hr hn
 have st0 := St.start Nob w
 go_enter Tryz.func121, Tryz.ntmps121
 go_wp2_with (with_reducible refine wSk 23 ?_)
 refine g0K rfl rfl Tryz.underlying267 h0F rfl ap2 rfl rfl n n rfl rfl (Nat.le_refl _) (by have := HN.out; omega) (by have := HN.out; unfold maxLen; omega) ?_
 intro w1 hm hf
 rw [m0z n ln] at hm
 have st1 := st0.new hf hm (Nat.le_refl _)
 have hle : w.heap.size ≤ w.heap.size := Nat.le_refl _
 generalize hgT : w.heap.size = gT at st1 hle hm ⊢
 have HGS := qH hgT
 clear hgT hle hm hf st0
 go_wp2_with (with_reducible refine wSk 6 ?_)
 refine a0b st1 rfl rfl (z := .slice none 0 0) ap0 [.slice none 0 0] rfl ?_
 intro gb w2 st2
 clear st1
 obtain ⟨v6, c6, f6⟩ := (st2.at 1 rfl).ready (i := 0) ap2
 have st3 := st2.set 1 rfl 0 (.slice (some ⟨gT, 0, none⟩) n n)
 have st3 : St Nob w (w2.setCell ⟨gb, 0, none⟩ (.slice (some ⟨gT, 0, none⟩) n n)) [(gT, tmF n (aK ln (0)) (fun _ => cw 192 0), 181), (gb, [Value.slice (some ⟨gT, 0, none⟩) n n], 267)] := st3
 have ST3 := qH st3
 clear st2 st3
 go_wp2
 try clear c6 f6
 go_loopw [26] (fun i wr => ∃ k : Nat, k ≤ n ∧ i = .int .i64 (k : Int) ∧ a0D mQ (ln.take k) = true ∧ St Nob w wr [(gT, tmF n (aK ln (k)) (fun _ => cw 192 0), 181), (gb, [Value.slice (some ⟨gT, 0, none⟩) n n], 267)]) (fun i _ => n - (intOf i).toNat)
 case atStart => exact ⟨0, Nat.zero_le _, rfl, by rw [List.take_zero]; unfold a0D; rfl, ST3.out⟩
 case round =>
  obtain ⟨k, hk, rfl, hgood, st⟩ := hrel
  clear ST3
  by_cases hlt : k < n
  ·have hltI : (k : Int) < (n : Int) := by omega
   have hk0 : (0 : Int) ≤ (k : Int) := by omega
   have hf := st.fr
   obtain ⟨b, o, rfl, hat⟩ := (HV.out.still hf).at ap1
   have hvl : k < vs.length := by rw [HV.out.len]; exact hlt
   obtain ⟨a, nn, c, hve, hcc, hrd⟩ := HP.out.2 k (vs[k]'hvl) (List.getElem?_eq_getElem hvl)
   have hc1 := hat k _ (List.getElem?_eq_getElem hvl)
   rw [hve] at hc1
   have hlk : k < ln.length := by rw [HL.out]; exact hlt
   have hts := e0x mQ ln k hlk
   have hbad := f0t mQ ln k hlk
   generalize hLk : ln.getD k [] = l at *
   have HLL := qH hLk
   have HRD := qH (hrd.still hf)
   have HTS := qH hts
   have HBAD := qH hbad
   have HG := qH hgood
   have HLT := qH hlt
   clear hLk hrd hts hbad hgood hf hat hve hcc hlt hk
   have HK := qH (show b0m mQ l = true by
    cases hh : b0m mQ l
    ·have := HBAD.out hh
     rw [HGA.out] at this
     cases this
    ·rfl)
   go_wp2_with fail
   refine (j0E HK.out a nn c _ (HRD.out)).mono ?_
   rintro e' w3 ⟨rfl, hf3⟩
   have st3 := st.keep hf3
   clear st hf3
   go_wp2_with (with_reducible refine wSk 9 ?_)
   refine a0b st3 rfl rfl (z := zAd) ap0 (cw 4 0) ap5 ?_
   intro g9 w4 st4
   clear st3
   go_wp2_with (with_reducible refine wSn ?_)
   refine a0c st4 2 rfl rfl rfl rfl rfl ap12 ap10 (a0f _ _) ?_
   intro w5 st5
   clear st4
   have hc6 := (st5.at 1 rfl).cell (show [Value.slice (some ⟨gT, 0, none⟩) n n][0]? = _ from rfl)
   go_wp2_with (with_reducible refine wSk 40 ?_)
   refine a0m st5 2 rfl rfl rfl Tryz.underlying167 rfl ap10 ?_
   go_wp2_with (with_reducible refine wSn ?_)
   refine f0A st5 0 rfl rfl rfl rfl rfl (tmF n (aK ln (k + 1)) (fun _ => cw 192 0)) (r0A n ln k l HLL.out HLT.out) (by rw [j0H, a0g]; have := HLT.out; omega) ap10 (a0f _ _) ?_
   intro w6 st6
   clear st5 hc6
   go_wp2_with fail
   go_roundw
   case rel => exact ⟨k + 1, by have := HLT.out; omega, by go_num, by rw [HTS.out, HG.out, HK.out]; rfl, St.less st6 ap4⟩
   case measure => have := HLT.out; simp [intOf]; omega
  ·have hge : ¬ ((k : Int) < (n : Int)) := by omega
   have hkn : k = n := by omega
   rw [hkn] at hgood st
   rw [List.take_of_length_le (by rw [HL.out]; exact Nat.le_refl _)] at hgood
   have hgl := (st.at 0 rfl).lt
   have HHT := qH (st.at 0 rfl)
   have HHB := qH (st.at 1 rfl)
   have HNE := qH (show gb ≠ gT from st.neAt (i := 1) (j := 0) rfl rfl ap2)
   have HF := qH st.fr
   clear hkn hgood st hgl
   go_wp2_with fail
   refine (m0y gb bl n dl us lp _ (HU.out.still HF.out) (HQ.out.still HF.out) (by have := HN.out; omega) HRA.out gT _ HHT.out (j0W (l0C (aK ln n) lp)) (fun ap cp wx hfx hoff hrd => by rw [HL2.out]; exact y0X n (aK ln n) lp HL2.out (by have := HN.out; omega) gb gT wx HNE.out (HHB.out.keep hfx id) (HHT.out.keep hfx id) ap cp hoff hrd)).mono ?_
   rintro e wE ⟨sv, rfl, hown, hfE⟩
   have ho := hown.mono HF.out.size
   have hfr := HF.out.new hfE (by rw [HGS.out]; exact Nat.le_refl _)
   clear hown hfE HF HHT HHB
   go_wp2_with fail
   go_ret2
   exact ⟨sv, rfl, ho, hfr⟩
theorem t0F (al : Option Addr) (n cl : Nat) (vs : List Value) (ln : List (List UInt8)) (bl : Option Addr) (dl : Nat) (us : List Value) (lp : List (List UInt8)) (w : World) (hv : Rd w al n vs) (hp : BParts w vs ln) (hu : Rd w bl n us) (hq : BParts w us lp) (hn : n ≤ 512) (hg : a0D mQ ln = true) (hr : c0z lp = false) :
  Calls Tryz.prog 121 #[.slice al n cl, .slice bl n dl] w fun e w' => e = .returned (.tuple #[.slice none 0 0, .int .i64 4]) ∧ Fr Nob w w' := by
 have HV := qH hv
 have HP := qH hp
 have HU := qH hu
 have HQ := qH hq
 have HL := qH (show ln.length = n by rw [← hp.1, hv.len])
 have HL2 := qH (show lp.length = n by rw [← hq.1, hu.len])
 have HN := qH hn
 have hnI : ¬ ((512 : Int) < (n : Int)) := by omega
 clear hv hp hu hq
 have HGA := qH hg
 have HRA := qH hr
 clear hg hr hn
 have st0 := St.start Nob w
 go_enter Tryz.func121, Tryz.ntmps121
 go_wp2_with (with_reducible refine wSk 23 ?_)
 refine g0K rfl rfl Tryz.underlying267 h0F rfl ap2 rfl rfl n n rfl rfl (Nat.le_refl _) (by have := HN.out; omega) (by have := HN.out; unfold maxLen; omega) ?_
 intro w1 hm hf
 rw [m0z n ln] at hm
 have st1 := st0.new hf hm (Nat.le_refl _)
 have hle : w.heap.size ≤ w.heap.size := Nat.le_refl _
 generalize hgT : w.heap.size = gT at st1 hle hm ⊢
 have HGS := qH hgT
 clear hgT hle hm hf st0
 go_wp2_with (with_reducible refine wSk 6 ?_)
 refine a0b st1 rfl rfl (z := .slice none 0 0) ap0 [.slice none 0 0] rfl ?_
 intro gb w2 st2
 clear st1
 obtain ⟨v6, c6, f6⟩ := (st2.at 1 rfl).ready (i := 0) ap2
 have st3 := st2.set 1 rfl 0 (.slice (some ⟨gT, 0, none⟩) n n)
 have st3 : St Nob w (w2.setCell ⟨gb, 0, none⟩ (.slice (some ⟨gT, 0, none⟩) n n)) [(gT, tmF n (aK ln (0)) (fun _ => cw 192 0), 181), (gb, [Value.slice (some ⟨gT, 0, none⟩) n n], 267)] := st3
 have ST3 := qH st3
 clear st2 st3
 go_wp2
 try clear c6 f6
 go_loopw [26] (fun i wr => ∃ k : Nat, k ≤ n ∧ i = .int .i64 (k : Int) ∧ a0D mQ (ln.take k) = true ∧ St Nob w wr [(gT, tmF n (aK ln (k)) (fun _ => cw 192 0), 181), (gb, [Value.slice (some ⟨gT, 0, none⟩) n n], 267)]) (fun i _ => n - (intOf i).toNat)
 case atStart => exact ⟨0, Nat.zero_le _, rfl, by rw [List.take_zero]; unfold a0D; rfl, ST3.out⟩
 case round =>
  obtain ⟨k, hk, rfl, hgood, st⟩ := hrel
  clear ST3
  by_cases hlt : k < n
  ·have hltI : (k : Int) < (n : Int) := by omega
   have hk0 : (0 : Int) ≤ (k : Int) := by omega
   have hf := st.fr
   obtain ⟨b, o, rfl, hat⟩ := (HV.out.still hf).at ap1
   have hvl : k < vs.length := by rw [HV.out.len]; exact hlt
   obtain ⟨a, nn, c, hve, hcc, hrd⟩ := HP.out.2 k (vs[k]'hvl) (List.getElem?_eq_getElem hvl)
   have hc1 := hat k _ (List.getElem?_eq_getElem hvl)
   rw [hve] at hc1
   have hlk : k < ln.length := by rw [HL.out]; exact hlt
   have hts := e0x mQ ln k hlk
   have hbad := f0t mQ ln k hlk
   generalize hLk : ln.getD k [] = l at *
   have HLL := qH hLk
   have HRD := qH (hrd.still hf)
   have HTS := qH hts
   have HBAD := qH hbad
   have HG := qH hgood
   have HLT := qH hlt
   clear hLk hrd hts hbad hgood hf hat hve hcc hlt hk
   have HK := qH (show b0m mQ l = true by
    cases hh : b0m mQ l
    ·have := HBAD.out hh
     rw [HGA.out] at this
     cases this
    ·rfl)
   go_wp2_with fail
   refine (j0E HK.out a nn c _ (HRD.out)).mono ?_
   rintro e' w3 ⟨rfl, hf3⟩
   have st3 := st.keep hf3
   clear st hf3
   go_wp2_with (with_reducible refine wSk 9 ?_)
   refine a0b st3 rfl rfl (z := zAd) ap0 (cw 4 0) ap5 ?_
   intro g9 w4 st4
   clear st3
   go_wp2_with (with_reducible refine wSn ?_)
   refine a0c st4 2 rfl rfl rfl rfl rfl ap12 ap10 (a0f _ _) ?_
   intro w5 st5
   clear st4
   have hc6 := (st5.at 1 rfl).cell (show [Value.slice (some ⟨gT, 0, none⟩) n n][0]? = _ from rfl)
   go_wp2_with (with_reducible refine wSk 40 ?_)
   refine a0m st5 2 rfl rfl rfl Tryz.underlying167 rfl ap10 ?_
   go_wp2_with (with_reducible refine wSn ?_)
   refine f0A st5 0 rfl rfl rfl rfl rfl (tmF n (aK ln (k + 1)) (fun _ => cw 192 0)) (r0A n ln k l HLL.out HLT.out) (by rw [j0H, a0g]; have := HLT.out; omega) ap10 (a0f _ _) ?_
   intro w6 st6
   clear st5 hc6
   go_wp2_with fail
   go_roundw
   case rel => exact ⟨k + 1, by have := HLT.out; omega, by go_num, by rw [HTS.out, HG.out, HK.out]; rfl, St.less st6 ap4⟩
   case measure => have := HLT.out; simp [intOf]; omega
  ·have hge : ¬ ((k : Int) < (n : Int)) := by omega
   have hkn : k = n := by omega
   rw [hkn] at hgood st
   rw [List.take_of_length_le (by rw [HL.out]; exact Nat.le_refl _)] at hgood
   have hgl := (st.at 0 rfl).lt
   have HHT := qH (st.at 0 rfl)
   have HHB := qH (st.at 1 rfl)
   have HNE := qH (show gb ≠ gT from st.neAt (i := 1) (j := 0) rfl rfl ap2)
   have HF := qH st.fr
   clear hkn hgood st hgl
   go_wp2_with fail
   refine (l0a gb bl n dl us lp _ (HU.out.still HF.out) (HQ.out.still HF.out) (by have := HN.out; omega) HRA.out).mono ?_
   rintro e wE ⟨rfl, hfE⟩
   have hfr := HF.out.then hfE
   clear hfE HF HHT HHB
   go_wp2_with fail
   go_ret2
   exact ⟨rfl, hfr⟩
theorem t0G (al : Option Addr) (n cl : Nat) (vs : List Value) (ln : List (List UInt8)) (bl : Option Addr) (dl : Nat) (us : List Value) (lp : List (List UInt8)) (w : World) (hv : Rd w al n vs) (hp : BParts w vs ln) (hu : Rd w bl n us) (hq : BParts w us lp) (hn : n ≤ 512) (hg : a0D mQ ln = false) :
  Calls Tryz.prog 121 #[.slice al n cl, .slice bl n dl] w fun e w' => e = .returned (.tuple #[.slice none 0 0, .int .i64 3]) ∧ Fr Nob w w' := by
 have HV := qH hv
 have HP := qH hp
 have HU := qH hu
 have HQ := qH hq
 have HL := qH (show ln.length = n by rw [← hp.1, hv.len])
 have HL2 := qH (show lp.length = n by rw [← hq.1, hu.len])
 have HN := qH hn
 have hnI : ¬ ((512 : Int) < (n : Int)) := by omega
 clear hv hp hu hq
 have HGA := qH hg
 clear hg hn
 have st0 := St.start Nob w
 go_enter Tryz.func121, Tryz.ntmps121
 go_wp2_with (with_reducible refine wSk 23 ?_)
 refine g0K rfl rfl Tryz.underlying267 h0F rfl ap2 rfl rfl n n rfl rfl (Nat.le_refl _) (by have := HN.out; omega) (by have := HN.out; unfold maxLen; omega) ?_
 intro w1 hm hf
 rw [m0z n ln] at hm
 have st1 := st0.new hf hm (Nat.le_refl _)
 have hle : w.heap.size ≤ w.heap.size := Nat.le_refl _
 generalize hgT : w.heap.size = gT at st1 hle hm ⊢
 have HGS := qH hgT
 clear hgT hle hm hf st0
 go_wp2_with (with_reducible refine wSk 6 ?_)
 refine a0b st1 rfl rfl (z := .slice none 0 0) ap0 [.slice none 0 0] rfl ?_
 intro gb w2 st2
 clear st1
 obtain ⟨v6, c6, f6⟩ := (st2.at 1 rfl).ready (i := 0) ap2
 have st3 := st2.set 1 rfl 0 (.slice (some ⟨gT, 0, none⟩) n n)
 have st3 : St Nob w (w2.setCell ⟨gb, 0, none⟩ (.slice (some ⟨gT, 0, none⟩) n n)) [(gT, tmF n (aK ln (0)) (fun _ => cw 192 0), 181), (gb, [Value.slice (some ⟨gT, 0, none⟩) n n], 267)] := st3
 have ST3 := qH st3
 clear st2 st3
 go_wp2
 try clear c6 f6
 go_loopw [26] (fun i wr => ∃ k : Nat, k ≤ n ∧ i = .int .i64 (k : Int) ∧ a0D mQ (ln.take k) = true ∧ St Nob w wr [(gT, tmF n (aK ln (k)) (fun _ => cw 192 0), 181), (gb, [Value.slice (some ⟨gT, 0, none⟩) n n], 267)]) (fun i _ => n - (intOf i).toNat)
 case atStart => exact ⟨0, Nat.zero_le _, rfl, by rw [List.take_zero]; unfold a0D; rfl, ST3.out⟩
 case round =>
  obtain ⟨k, hk, rfl, hgood, st⟩ := hrel
  clear ST3
  by_cases hlt : k < n
  ·have hltI : (k : Int) < (n : Int) := by omega
   have hk0 : (0 : Int) ≤ (k : Int) := by omega
   have hf := st.fr
   obtain ⟨b, o, rfl, hat⟩ := (HV.out.still hf).at ap1
   have hvl : k < vs.length := by rw [HV.out.len]; exact hlt
   obtain ⟨a, nn, c, hve, hcc, hrd⟩ := HP.out.2 k (vs[k]'hvl) (List.getElem?_eq_getElem hvl)
   have hc1 := hat k _ (List.getElem?_eq_getElem hvl)
   rw [hve] at hc1
   have hlk : k < ln.length := by rw [HL.out]; exact hlt
   have hts := e0x mQ ln k hlk
   have hbad := f0t mQ ln k hlk
   generalize hLk : ln.getD k [] = l at *
   have HLL := qH hLk
   have HRD := qH (hrd.still hf)
   have HTS := qH hts
   have HBAD := qH hbad
   have HG := qH hgood
   have HLT := qH hlt
   clear hLk hrd hts hbad hgood hf hat hve hcc hlt hk
   rcases Bool.eq_false_or_eq_true (b0m mQ l) with hh | hh
   ·have HK := qH hh
    clear hh
    go_wp2_with fail
    refine (j0E HK.out a nn c _ (HRD.out)).mono ?_
    rintro e' w3 ⟨rfl, hf3⟩
    have st3 := st.keep hf3
    clear st hf3
    go_wp2_with (with_reducible refine wSk 9 ?_)
    refine a0b st3 rfl rfl (z := zAd) ap0 (cw 4 0) ap5 ?_
    intro g9 w4 st4
    clear st3
    go_wp2_with (with_reducible refine wSn ?_)
    refine a0c st4 2 rfl rfl rfl rfl rfl ap12 ap10 (a0f _ _) ?_
    intro w5 st5
    clear st4
    have hc6 := (st5.at 1 rfl).cell (show [Value.slice (some ⟨gT, 0, none⟩) n n][0]? = _ from rfl)
    go_wp2_with (with_reducible refine wSk 40 ?_)
    refine a0m st5 2 rfl rfl rfl Tryz.underlying167 rfl ap10 ?_
    go_wp2_with (with_reducible refine wSn ?_)
    refine f0A st5 0 rfl rfl rfl rfl rfl (tmF n (aK ln (k + 1)) (fun _ => cw 192 0)) (r0A n ln k l HLL.out HLT.out) (by rw [j0H, a0g]; have := HLT.out; omega) ap10 (a0f _ _) ?_
    intro w6 st6
    clear st5 hc6
    go_wp2_with fail
    go_roundw
    case rel => exact ⟨k + 1, by have := HLT.out; omega, by go_num, by rw [HTS.out, HG.out, HK.out]; rfl, St.less st6 ap4⟩
    case measure => have := HLT.out; simp [intOf]; omega
   ·have HK := qH hh
    clear hh
    go_wp2_with fail
    refine (t0w HK.out a nn c _ (HRD.out)).mono ?_
    rintro e' w3 ⟨⟨N, rfl⟩, hf3⟩
    have st3 := st.keep hf3
    clear st hf3
    go_wp2_with (with_reducible refine wSk 9 ?_)
    refine a0b st3 rfl rfl (z := zAd) ap0 (cw 4 0) ap5 ?_
    intro g9 w4 st4
    clear st3
    go_wp2_with (with_reducible refine wSn ?_)
    refine a0c st4 2 rfl rfl rfl rfl rfl ap12 ap10 (a0f _ _) ?_
    intro w5 st5
    clear st4
    have hfr := st5.fr
    clear st5
    go_wp2_with fail
    go_ret2
    exact ⟨rfl, hfr⟩
  ·exfalso
   have hkn : k = n := by omega
   rw [hkn] at hgood
   rw [List.take_of_length_le (by rw [HL.out]; exact Nat.le_refl _), HGA.out] at hgood
   cases hgood
theorem t0H (al : Option Addr) (n cl : Nat) (bl : Option Addr) (m dl : Nat) (w : World) (h : n ≠ m) :
  Calls Tryz.prog 121 #[.slice al n cl, .slice bl m dl] w fun e w' => e = .returned (.tuple #[.slice none 0 0, .int .i64 2]) ∧ Fr Nob w w' := by
 have h1 : ((n : Int) != (m : Int)) = true := by simp; omega
 have h2 : (n != m) = true := by simpa using h
 go_enter Tryz.func121, Tryz.ntmps121
 go_wp2
 go_ret2
 exact ⟨rfl, Fr.refl _ _⟩
theorem t0I (al : Option Addr) (n cl : Nat) (bl : Option Addr) (dl : Nat) (w : World) (h : 512 < n) :
  Calls Tryz.prog 121 #[.slice al n cl, .slice bl n dl] w fun e w' => e = .returned (.tuple #[.slice none 0 0, .int .i64 1]) ∧ Fr Nob w w' := by
 have h1 : (512 : Int) < (n : Int) := by omega
 go_enter Tryz.func121, Tryz.ntmps121
 go_wp2
 go_ret2
 exact ⟨rfl, Fr.refl _ _⟩
end Go.Proofs.YtpfimiajoifjaaaGreat
namespace Mvp
end Mvp
namespace Go.Proofs.YtpfimiajoifjaaaGreat
section
open Go.RowKit Go.Mv Mvp
attribute [local irreducible] a0v lw mix cw b0e b0f b0a beN b0l b0b
end
section
open Go.RowKit Go.Mv Mvp
attribute [local irreducible] a0v lw mix cw b0e b0f b0a beN b0l b0b a0z a0F elN mdL b0m a0D a0I rtN b0J rtV
end
section
open Go.RowKit Go.Mv Mvp Mvq
def kN (a : K) : Nat := a.val
end
section
open Go.RowKit Go.Mv Mvp Mvq
def rpL (x y z : K) : List Value := cw 4 (kN x) ++ (cw 4 (kN y) ++ cw 4 (kN z))
attribute [local irreducible] a0v lw mix cw b0e b0f b0a beN b0l b0b a0z a0F elN mdL b0m rtV b0J kN kc c0B c0m
end
section
open Go.RowKit Go.Mv Mvp Mvq
structure RT where
 x : K
 y : K
 z : K
 on : onC (nm x y z)
def RT.pt (s : RT) : Pt := nm s.x s.y s.z
def RT.L (s : RT) : List Value := rpL s.x s.y s.z
theorem w0R (x y z : K) : (rpL x y z).length = 12 := by simp [rpL, a0g]
theorem RT.len (s : RT) : s.L.length = 12 := w0R _ _ _
theorem RT.one (s : RT) : ∀ v ∈ s.L, v.oneCell' = true := b0p _ _ _
theorem RT.onP (s : RT) : onC s.pt := s.on
def RT.isO (s : RT) : Bool := decide (s.z = 0)
theorem RT.isO_t {s : RT} (h : s.isO = true) : s.pt = .O := A0V (by simpa [RT.isO] using h)
end
section
open Go.RowKit Go.Mv Mvp Mvq
attribute [local irreducible] a0v lw mix cw b0e b0f b0a beN b0l b0b a0z a0F elN mdL b0m rtV b0J kN kc c0B c0m RT.L
end
section
open Go.RowKit Go.Mv Mvp Mvq
attribute [local irreducible] a0v lw mix cw b0e b0f b0a beN b0l b0b a0z a0F elN mdL b0m rtV b0J kN kc c0B c0m RT.L gXn gYn
end
section
open Go.RowKit Go.Mv Mvp Mvq
end
section
open Go.RowKit Go.Mv Mvp Mvq
attribute [local irreducible] a0v lw mix cw b0e b0f b0a beN b0l b0b a0z a0F elN mdL b0m rtV b0J kN kc c0B c0m RT.L gXn gYn
end
section
open Go.RowKit Go.Mv Mvp Mvq
theorem r0B (l : List UInt8) (a : Nat) : l.foldl (fun a x => a * 256 + x.toNat) a = a * 256 ^ l.length + beN l := by
 unfold beN
 induction l generalizing a with
 | nil => simp
 | cons x l ih =>
  rw [List.foldl_cons, List.foldl_cons, ih, ih (0 * 256 + x.toNat), List.length_cons, Nat.pow_succ]
  rw [Nat.zero_mul, Nat.zero_add, Nat.add_mul, Nat.mul_assoc, Nat.mul_comm 256]
  omega
theorem beN_cons (x : UInt8) (l : List UInt8) : beN (x :: l) = x.toNat * 256 ^ l.length + beN l := by
 have h := r0B l (0 * 256 + x.toNat)
 rw [Nat.zero_mul, Nat.zero_add] at h
 show List.foldl _ 0 (x :: l) = _
 rw [List.foldl_cons, Nat.zero_mul, Nat.zero_add]
 exact h
attribute [local irreducible] rtV b0J rpL e0f beN b0b
end
section
open Go.RowKit Go.Mv Mvp Mvq
theorem t_ok {lk la : List UInt8} (hk : b0m mQ lk = true) (ha : b0s la = true) : tC lk la = 0 ∧ tS lk la = c0m (a0R (beN lk) (c0Q la)) := by unfold tC tS; rw [hk, ha]; exact ⟨rfl, rfl⟩
end
end Go.Proofs.YtpfimiajoifjaaaGreat
namespace Mvp
end Mvp
namespace Go.Proofs.YtpfimiajoifjaaaGreat
open Go.RowKit Go.Mv Mvp
attribute [local irreducible] a0v lw mix cw b0e b0f b0a beN b0l b0b a0z a0F elN mdL a0I a0D b0m
end Go.Proofs.YtpfimiajoifjaaaGreat
namespace Go.Mv
open Go.RowKit
theorem Has.ne {w : World} {g g' : Nat} {L L' : List Value} {T T' : TypeId} (h : Has w g L T) (h' : Has w g' L' T') (hT : T ≠ T') : g ≠ g' := by
 rintro rfl
 obtain ⟨_, _, h1, _⟩ := h
 obtain ⟨_, _, h2, _⟩ := h'
 rw [h1] at h2
 simp at h2
 exact hT h2.2.1
theorem Own.ne2 {w : World} {base base' sz sz' n n' : Nat} {T T' : TypeId} {v v' : Value} {L L' : List Value} (h : Own w base T sz v n L) (h' : Own w base' T' sz' v' n' L') (hT : T ≠ T') (k : Nat) (hk : b0g v k) : ¬ b0g v' k := by
 obtain ⟨_, ⟨rfl, _⟩ | ⟨g, o, cap, B, rfl, _, hg, _⟩⟩ := h'
 ·intro t; cases t
 ·intro t
  have e : g = k := by simpa [b0g, Value.ownBlock] using t
  subst e
  exact h.ne hg hT hk
end Go.Mv
namespace Go.Proofs.YtpfimiajoifjaaaGreat
section
open Go.RowKit Go.Mv Mvp
attribute [local irreducible] a0T b0c toB a0u a0w a0Y a0E b0Z a0S a0x c0n
theorem LogAt.at' {w : World} {base g : Nat} {l : List UInt8} (h : LogAt w base g l) : ∃ v, Has w g [v] 293 := ⟨h.choose, h.choose_spec.1⟩
theorem LogAt.own {w w' : World} {base g : Nat} {l : List UInt8} {S : Nat → Prop} (h : LogAt w base g l) (hf : Fr S w w') (hg : ¬ S g) (hs : ∀ v, Own w base 5 1 v 32 (bs l) → ∀ k, b0g v k → ¬ S k) : LogAt w' base g l := by
 obtain ⟨v, h1, h2⟩ := h
 exact ⟨v, h1.keep hf hg, h2.keep hf (hs v h2)⟩
abbrev Tri : Type := Nat × Nat × List UInt8
def z0U (T : List Tri) : List Value := T.map fun t => .pointer (some ⟨t.1, 0, none⟩)
def z0V (T : List Tri) : List Value := T.map fun t => .pointer (some ⟨t.2.1, 0, none⟩)
structure LI (w : World) (base ga gb : Nat) (sa sb : List UInt8) (T : List Tri) (vk : Value) (Lk : List Value) (vw : Value) (Lw : List Value) : Prop where
 la : sa.length = 32
 lb : sb.length = 32
 a : LogAt w base ga sa
 b : RLogAt w gb sb
 each : ∀ t ∈ T, LogAt w base t.1 t.2.2 ∧ RLogAt w t.2.1 t.2.2 ∧ t.2.2.length = 32
 na : (ga :: T.map (·.1)).Nodup
 nb : (gb :: T.map (·.2.1)).Nodup
 k : Own w base 94 1 vk Lk.length Lk
 w : Own w base 117 1 vw Lw.length Lw
 bs : base ≤ ga ∧ base ≤ gb ∧ ∀ t ∈ T, base ≤ t.1 ∧ base ≤ t.2.1
variable {w w' : World} {base ga gb : Nat} {sa sb : List UInt8} {T : List Tri} {vk vw : Value} {Lk Lw : List Value}
theorem LI.still (h : LI w base ga gb sa sb T vk Lk vw Lw) (hf : Fr Nob w w') : LI w' base ga gb sa sb T vk Lk vw Lw :=
 ⟨h.la, h.lb, h.a.still hf, Has.keep h.b hf id, fun t ht => ⟨(h.each t ht).1.still hf, Has.keep (h.each t ht).2.1 hf id, (h.each t ht).2.2⟩, h.na, h.nb, h.k.still hf, h.w.still hf, h.bs⟩
theorem LI.stepB (h : LI w base ga gb sa sb T vk Lk vw Lw) (hf : Fr (One gb) w w') {sb' : List UInt8} (hb : RLogAt w' gb sb') (hl : sb'.length = 32) : LI w' base ga gb sa sb' T vk Lk vw Lw := by
 have hv := h.b
 obtain ⟨v, hav⟩ := h.a.at'
 refine ⟨h.la, hl, h.a.other hf (Has.ne hav hv ap2) hv ap2, hb, fun t ht => ⟨(h.each t ht).1.other hf (Has.ne (h.each t ht).1.at'.choose_spec hv ap2) hv ap2, Has.keep (h.each t ht).2.1 hf ?_, (h.each t ht).2.2⟩, h.na, h.nb,
  h.k.keep hf (fun k hk (e : k = gb) => h.k.ne hv ap2 (e ▸ hk)), h.w.keep hf (fun k hk (e : k = gb) => h.w.ne hv ap2 (e ▸ hk)), h.bs⟩
 have hn := (List.nodup_cons.1 h.nb).1
 intro (e : t.2.1 = gb)
 exact hn (e ▸ List.mem_map.2 ⟨t, ht, rfl⟩)
structure LJ (w : World) (base : Nat) (T : List Tri) (j : Nat) (vk vw : Value) : Prop where
 each : ∀ i t, j ≤ i → T[i]? = some t → LogAt w base t.1 t.2.2 ∧ RLogAt w t.2.1 t.2.2 ∧ t.2.2.length = 32
 na : (T.map (·.1)).Nodup
 nb : (T.map (·.2.1)).Nodup
 k : Own w base 94 1 vk T.length (z0U T)
 w : Own w base 117 1 vw T.length (z0V T)
 bs : ∀ t ∈ T, base ≤ t.1 ∧ base ≤ t.2.1
theorem LI.last (h : LI w base ga gb sa sa T vk (z0U (T ++ [(ga, gb, sa)])) vw (z0V (T ++ [(ga, gb, sa)]))) : LJ w base (T ++ [(ga, gb, sa)]) 0 vk vw := by
 have h1 := List.nodup_cons.1 h.na
 have h2 := List.nodup_cons.1 h.nb
 have hlk : (z0U (T ++ [(ga, gb, sa)])).length = (T ++ [(ga, gb, sa)]).length := by simp [z0U]
 have hlw : (z0V (T ++ [(ga, gb, sa)])).length = (T ++ [(ga, gb, sa)]).length := by simp [z0V]
 refine ⟨?_, ?_, ?_, hlk ▸ h.k, hlw ▸ h.w, ?_⟩
 ·intro i t _ ht
  rcases List.mem_append.1 (List.mem_of_getElem? ht) with ht | ht
  ·exact h.each t ht
  ·simp only [List.mem_singleton] at ht
   subst ht
   exact ⟨h.a, h.b, h.la⟩
 ·rw [List.map_append, List.nodup_append]
  refine ⟨h1.2, by simp, ?_⟩
  intro x hx y hy e
  simp only [List.map_cons, List.map_nil, List.mem_singleton] at hy
  subst hy; subst e
  exact h1.1 hx
 ·rw [List.map_append, List.nodup_append]
  refine ⟨h2.2, by simp, ?_⟩
  intro x hx y hy e
  simp only [List.map_cons, List.map_nil, List.mem_singleton] at hy
  subst hy; subst e
  exact h2.1 hx
 ·intro t ht
  rcases List.mem_append.1 ht with ht | ht
  ·exact h.bs.2.2 t ht
  ·simp only [List.mem_singleton] at ht
   subst ht
   exact ⟨h.bs.1, h.bs.2.1⟩
theorem n0F {α : Type} {l : List α} (h : l.Nodup) {i j : Nat} {x y : α} (hi : l[i]? = some x) (hj : l[j]? = some y) (hne : i ≠ j) : x ≠ y := by
 intro e
 subst e
 have hi' := (List.getElem?_eq_some_iff.1 hi)
 have hj' := (List.getElem?_eq_some_iff.1 hj)
 obtain ⟨a, ha⟩ := hi'
 obtain ⟨b, hb⟩ := hj'
 rcases Nat.lt_or_gt_of_ne hne with k | k
 ·exact (List.pairwise_iff_getElem.1 h) i j a b k (ha.trans hb.symm)
 ·exact (List.pairwise_iff_getElem.1 h) j i b a k (hb.trans ha.symm)
theorem LJ.step {j : Nat} (h : LJ w base T j vk vw) {t : Tri} (ht : T[j]? = some t) {w1 w2 : World} (h1 : Fr (One t.1) w w1) (h2 : Fr (One t.2.1) w1 w2) : LJ w2 base T (j + 1) vk vw := by
 obtain ⟨ha, hb, -⟩ := h.each j t (Nat.le_refl _) ht
 obtain ⟨v, hv⟩ := ha.at'
 have hb1 : RLogAt w1 t.2.1 t.2.2 := Has.keep hb h1 (Has.ne hb hv ap2)
 have k1 := h.k.keep h1 (fun k hk (e : k = t.1) => h.k.ne hv ap2 (e ▸ hk))
 have l1 := h.w.keep h1 (fun k hk (e : k = t.1) => h.w.ne hv ap2 (e ▸ hk))
 refine ⟨?_, h.na, h.nb, k1.keep h2 (fun k hk (e : k = t.2.1) => k1.ne hb1 ap2 (e ▸ hk)), l1.keep h2 (fun k hk (e : k = t.2.1) => l1.ne hb1 ap2 (e ▸ hk)), h.bs⟩
 intro i u hi hu
 obtain ⟨c, d, e⟩ := h.each i u ap1 hu
 have n1 : u.1 ≠ t.1 := n0F h.na (i := i) (j := j) (by simp [List.getElem?_map, hu]) (by simp [List.getElem?_map, ht]) ap1
 have n2 : u.2.1 ≠ t.2.1 := n0F h.nb (i := i) (j := j) (by simp [List.getElem?_map, hu]) (by simp [List.getElem?_map, ht]) ap1
 have c1 := c.other h1 n1 hv ap2
 have d1 : RLogAt w1 u.2.1 u.2.2 := Has.keep d h1 (Has.ne d hv ap2)
 exact ⟨c1.other h2 (Has.ne c1.at'.choose_spec hb1 ap2) hb1 ap2, Has.keep d1 h2 n2, e⟩
end
section
open Go.RowKit Go.Mv Mvp Mvt
attribute [local irreducible] a0T b0c toB a0u a0w a0Y a0E b0Z a0S a0x c0n
def POwn (w : World) (base : Nat) : List Value → List (List UInt8) → Prop
 | [], [] => True
 | v :: vs, l :: ls => Own w base 5 1 v l.length (bs l) ∧ POwn w base vs ls
 | _, _ => False
theorem POwn.len {w : World} {base : Nat} : ∀ {vs : List Value} {ls : List (List UInt8)}, POwn w base vs ls → vs.length = ls.length
 | [], [], _ => rfl
 | _ :: _, _ :: _, h => by simp only [List.length_cons]; rw [POwn.len h.2]
 | [], _ :: _, h => h.elim
 | _ :: _, [], h => h.elim
theorem POwn.keep {w w' : World} {base : Nat} {S : Nat → Prop} (hf : Fr S w w') : ∀ {vs : List Value} {ls : List (List UInt8)}, POwn w base vs ls → (∀ v n l, Own w base 5 1 v n (bs l) → ∀ k, b0g v k → ¬ S k) → POwn w' base vs ls
 | [], [], _, _ => trivial
 | _ :: _, _ :: _, h, hs => ⟨h.1.keep hf (hs _ _ _ h.1), POwn.keep hf h.2 hs⟩
 | [], _ :: _, h, _ => h.elim
 | _ :: _, [], h, _ => h.elim
theorem POwn.still {w w' : World} {base : Nat} {vs : List Value} {ls : List (List UInt8)} (h : POwn w base vs ls) (hf : Fr Nob w w') : POwn w' base vs ls := POwn.keep hf h (fun _ _ _ _ _ _ t => t)
theorem POwn.app {w w' : World} {base base' sz n : Nat} {vs : List Value} {ls : List (List UInt8)} (h : POwn w base vs ls) {q : Value} {T : TypeId} {L : List Value} (hq : Own w base' T sz q n L) (hT : 5 ≠ T) (hf : Fr (b0g q) w w') : POwn w' base vs ls :=
 POwn.keep hf h (fun _ _ _ ho k hk hk' => ho.ne2 hq hT k hk hk')
theorem POwn.snoc {w : World} {base : Nat} {v : Value} {l : List UInt8} (hv : Own w base 5 1 v l.length (bs l)) : ∀ {vs : List Value} {ls : List (List UInt8)}, POwn w base vs ls → POwn w base (vs ++ [v]) (ls ++ [l])
 | [], [], _ => ⟨hv, trivial⟩
 | _ :: _, _ :: _, h => ⟨h.1, POwn.snoc hv h.2⟩
 | [], _ :: _, h => h.elim
 | _ :: _, [], h => h.elim
theorem POwn.parts {w : World} {base : Nat} : ∀ {vs : List Value} {ls : List (List UInt8)}, POwn w base vs ls → (∀ x ∈ ls, x.length ≤ 1000000) → Parts w vs ls
 | [], [], _, _ => trivial
 | _ :: _, _ :: _, h, hx => ⟨b0G h.1 (hx _ ap4), POwn.parts h.2 (fun x hxm => hx x (by simp [hxm]))⟩
 | [], _ :: _, h, _ => h.elim
 | _ :: _, [], h, _ => h.elim
def LOwn (w : World) (base : Nat) (v : Value) (ls : List (List UInt8)) : Prop := ∃ vs, Own w base 23 1 v ls.length vs ∧ POwn w base vs ls
theorem LOwn.still {w w' : World} {base : Nat} {v : Value} {ls : List (List UInt8)} (h : LOwn w base v ls) (hf : Fr Nob w w') : LOwn w' base v ls := by
 obtain ⟨vs, h1, h2⟩ := h; exact ⟨vs, h1.still hf, h2.still hf⟩
theorem LOwn.parts {w : World} {base : Nat} {v : Value} {ls : List (List UInt8)} (h : LOwn w base v ls) (hx : ∀ x ∈ ls, x.length ≤ 1000000) : ∃ a c, v = .slice a ls.length c ∧ ls.length ≤ c ∧ PartsAt w a ls := by
 obtain ⟨vs, h1, h2⟩ := h
 obtain ⟨a, c, rfl, hc, hr, -⟩ := h1.form
 rw [Nat.mul_one] at hr
 exact ⟨a, c, rfl, hc, vs, hr, (h2.parts hx).get⟩
end
section
open Go.RowKit Go.Mv Mvp Mvt
attribute [local irreducible] a0T b0c toB a0u a0w a0Y a0E b0Z a0S a0x c0n
def Sep (vs : List Value) : Prop := vs.Pairwise fun a b => ∀ k, b0g a k → ¬ b0g b k
theorem Sep.nil : Sep [] := List.Pairwise.nil
theorem POwn.get {w : World} {base : Nat} : ∀ {vs : List Value} {ls : List (List UInt8)}, POwn w base vs ls → ∀ (i : Nat) (v : Value), vs[i]? = some v → ∃ l, ls[i]? = some l ∧ Own w base 5 1 v l.length (bs l)
 | [], [], _, i, v, hv => by simp at hv
 | a :: vs, l :: ls, h, 0, v, hv => by simp at hv; subst hv; exact ⟨l, rfl, h.1⟩
 | a :: vs, l :: ls, h, i + 1, v, hv => by simp at hv; obtain ⟨l', h1, h2⟩ := POwn.get h.2 i v hv; exact ⟨l', by simpa using h1, h2⟩
 | [], _ :: _, h, _, _, _ => h.elim
 | _ :: _, [], h, _, _, _ => h.elim
theorem POwn.mem {w : World} {base : Nat} {vs : List Value} {ls : List (List UInt8)} (h : POwn w base vs ls) {v : Value} (hv : v ∈ vs) : ∃ l, l ∈ ls ∧ Own w base 5 1 v l.length (bs l) := by
 obtain ⟨i, hi⟩ := List.getElem?_of_mem hv
 obtain ⟨l, h1, h2⟩ := h.get i v hi
 exact ⟨l, List.mem_of_getElem? h1, h2⟩
theorem Sep.snoc {w w' : World} {base : Nat} {vs : List Value} {ls : List (List UInt8)} (h : Sep vs) (hp : POwn w base vs ls) {v : Value} {n : Nat} {L : List Value} {T : TypeId} (hv : Own w' w.heap.size T 1 v n L) : Sep (vs ++ [v]) := by
 unfold Sep at *
 rw [List.pairwise_append]
 refine ⟨h, by simp, fun a ha b hb k hk hk' => ?_⟩
 simp only [List.mem_singleton] at hb
 subst hb
 obtain ⟨l, _, ho⟩ := hp.mem ha
 have h1 := (ho.lt hk).2
 have h2 := (hv.lt hk').1
 omega
theorem POwn.mono {w : World} {base base' : Nat} (hb : base' ≤ base) : ∀ {vs : List Value} {ls : List (List UInt8)}, POwn w base vs ls → POwn w base' vs ls
 | [], [], _ => trivial
 | _ :: _, _ :: _, h => ⟨h.1.mono hb, POwn.mono hb h.2⟩
 | [], _ :: _, h => h.elim
 | _ :: _, [], h => h.elim
def SOwn (w : World) (base : Nat) (v : Value) (ls : List (List UInt8)) : Prop := ∃ vs, Own w base 23 1 v ls.length vs ∧ POwn w base vs ls ∧ Sep vs
theorem SOwn.nil (w : World) (base : Nat) : SOwn w base (.slice none 0 0) [] := ⟨[], Own.nil _ _ _ _, trivial, Sep.nil⟩
theorem SOwn.still {w w' : World} {base : Nat} {v : Value} {ls : List (List UInt8)} (h : SOwn w base v ls) (hf : Fr Nob w w') : SOwn w' base v ls := by
 obtain ⟨vs, h1, h2, h3⟩ := h; exact ⟨vs, h1.still hf, h2.still hf, h3⟩
end
end Go.Proofs.YtpfimiajoifjaaaGreat
namespace Mvp
def lenV : Go.Value → Nat
 | .slice _ n _ => n
 | _ => 0
end Mvp
namespace Go.Proofs.YtpfimiajoifjaaaGreat
open Go.RowKit Go.Mv Mvp
theorem SOwn.mono {w : World} {base base' : Nat} {v : Value} {ls : List (List UInt8)} (h : SOwn w base v ls) (hb : base' ≤ base) : SOwn w base' v ls := by
 obtain ⟨vs, h1, h2, h3⟩ := h; exact ⟨vs, h1.mono hb, h2.mono hb, h3⟩
theorem SOwn.snocF {w w1 w2 w3 : World} {base : Nat} {vs : List Value} {ls : List (List UInt8)} {o v o' : Value} {l : List UInt8}
  (hown : Own w base 23 1 o ls.length vs) (hpo : POwn w base vs ls) (hsep : Sep vs) (hb : base ≤ w.heap.size)
  (hv : Own w1 w.heap.size 5 1 v l.length (bs l)) (hf1 : Fr Nob w w1) (hf2 : Fr Nob w1 w2)
  (ho' : Own w3 base 23 1 o' (ls.length + 1) (vs ++ [v])) (hf3 : Fr (b0g o) w2 w3) : SOwn w3 base o' (ls ++ [l]) := by
 have h12 := hf1.then hf2
 have hv2 := (hv.still hf2).mono hb
 have ho2 := hown.still h12
 refine ⟨vs ++ [v], by simpa using ho', POwn.snoc (hv2.keep hf3 (fun k hk hk' => hv2.ne2 ho2 ap2 k hk hk')) ((hpo.still h12).app ho2 ap2 hf3), hsep.snoc hpo hv⟩
attribute [local irreducible] a0v lw mix cw b0e b0f b0a beN b0l b0b a0z a0F elN mdL a0I a0D b0m
end Go.Proofs.YtpfimiajoifjaaaGreat
namespace Mvp
end Mvp
namespace Go.Proofs.YtpfimiajoifjaaaGreat
section
open Go.RowKit Go.Mv Mvp
theorem c0S {w : World} {b o n : Nat} {vs : List Value} (h : Rd w (some ⟨b, o, none⟩) n vs) (i : Nat) (v : Value) (hv : vs[i]? = some v) : w.cell? ⟨b, o + i, none⟩ = some v := by
 have h1 := o0D h 0 vs ap4
 have h2 := h1 i v hv
 simpa using h2
attribute [local irreducible] a0v lw mix cw b0e b0f b0a beN b0l b0b a0z a0F elN mdL b0m a0D a0I
end
section
open Go.RowKit Go.Mv Mvp Mvq
noncomputable def smL (ln lp : List (List UInt8)) (k : Nat) : List (Nat × Pt) := (List.range k).map fun i => (beN (ln.getD i []), c0Q (lp.getD i []))
def e0H (ln lp : List (List UInt8)) : Nat := if ln.length = lp.length then (if ln.length ≤ 512 then (if a0D mQ ln then (if c0z lp then 0 else 4) else 3) else 1) else 2
noncomputable def e0I (ln lp : List (List UInt8)) : List UInt8 := if ln.length = lp.length then (if ln.length ≤ 512 then (if a0D mQ ln then (if c0z lp then c0m (e0F (smL ln lp lp.length)) else []) else []) else []) else []
theorem t0J {ls : List (List UInt8)} (h : c0z ls = true) (i : Nat) (hi : i < ls.length) : b0s (ls.getD i []) = true := by
 unfold c0z at h
 rw [List.all_eq_true] at h
 refine h _ ?_
 rw [List.getD_eq_getElem?_getD, List.getElem?_eq_getElem hi]
 exact List.getElem_mem hi
theorem o0U {ls : List (List UInt8)} (h : a0D mQ ls = true) (i : Nat) (hi : i < ls.length) : b0m mQ (ls.getD i []) = true := by
 unfold a0D at h
 rw [List.all_eq_true] at h
 refine h _ ?_
 rw [List.getD_eq_getElem?_getD, List.getElem?_eq_getElem hi]
 exact List.getElem_mem hi
theorem y0Z {ln lp : List (List UInt8)} (hl : ln.length = lp.length) (hn : a0D mQ ln = true) (hp : c0z lp = true) : (j0W (l0C (aK ln ln.length) lp)).pt = e0F (smL ln lp lp.length) := by
 have e : l0A (l0C (aK ln ln.length) lp) = smL ln lp lp.length := by
  unfold l0A l0C smL
  rw [List.map_map]
  refine List.map_congr_left fun i hi => ?_
  have hi := List.mem_range.1 hi
  show (aK ln ln.length i, (rdT (lp.getD i [])).pt) = _
  rw [y0M (t0J hp i hi)]
  unfold aK
  rw [if_pos ap1]
 rw [w0I _ ?_, e]
 intro t ht
 unfold l0C at ht
 obtain ⟨i, hi, rfl⟩ := List.mem_map.1 ht
 have hi := List.mem_range.1 hi
 show aK ln ln.length i < _
 unfold aK
 rw [if_pos ap1]
 exact Nat.lt_trans (t0x (o0U hn i ap1)) q16
theorem w0S (al : Option Addr) (cl : Nat) (vs : List Value) (ln : List (List UInt8)) (bl : Option Addr) (dl : Nat) (us : List Value) (lp : List (List UInt8)) (w : World) (hv : Rd w al ln.length vs) (hp : BParts w vs ln) (hu : Rd w bl lp.length us) (hq : BParts w us lp) :
  Calls Tryz.prog 121 #[.slice al ln.length cl, .slice bl lp.length dl] w fun e w' => ∃ v, e = .returned (.tuple #[v, .int .i64 (e0H ln lp : Nat)]) ∧ OwnB1 w w' v (e0I ln lp) ∧ Fr Nob w w' := by
 by_cases h1 : ln.length = lp.length
 ·rw [← h1] at hu ⊢
  by_cases h2 : ln.length ≤ 512
  ·cases hn : a0D mQ ln
   ·refine (t0G al _ cl vs ln bl dl us lp w hv hp hu hq h2 hn).mono fun e w' k => ⟨.slice none 0 0, ?_, ?_, k.2⟩
    ·rw [k.1]; unfold e0H; rw [if_pos h1, if_pos h2, hn]; rfl
    ·unfold e0I; rw [if_pos h1, if_pos h2, hn]; exact OwnB1.nil _ _
   ·cases hr : c0z lp
    ·refine (t0F al _ cl vs ln bl dl us lp w hv hp hu hq h2 hn hr).mono fun e w' k => ⟨.slice none 0 0, ?_, ?_, k.2⟩
     ·rw [k.1]; unfold e0H; rw [if_pos h1, if_pos h2, hn, hr]; rfl
     ·unfold e0I; rw [if_pos h1, if_pos h2, hn, hr]; exact OwnB1.nil _ _
    ·refine (y0Y al _ cl vs ln bl dl us lp w hv hp hu hq h2 hn hr).mono fun e w' k => ?_
     obtain ⟨v, k1, k2, k3⟩ := k
     rw [y0Z h1 hn hr] at k2
     refine ⟨v, ?_, ?_, k3⟩
     ·rw [k1]; unfold e0H; rw [if_pos h1, if_pos h2, hn, hr]; rfl
     ·unfold e0I; rw [if_pos h1, if_pos h2, hn, hr]; exact OwnB1.of k2 (f0z _)
  ·refine (t0I al _ cl bl dl w ap1).mono fun e w' k => ⟨.slice none 0 0, ?_, ?_, k.2⟩
   ·rw [k.1]; unfold e0H; rw [if_pos h1, if_neg h2]; rfl
   ·unfold e0I; rw [if_pos h1, if_neg h2]; exact OwnB1.nil _ _
 ·refine (t0H al _ cl bl _ dl w h1).mono fun e w' k => ⟨.slice none 0 0, ?_, ?_, k.2⟩
  ·rw [k.1]; unfold e0H; rw [if_neg h1]; rfl
  ·unfold e0I; rw [if_neg h1]; exact OwnB1.nil _ _
attribute [local irreducible] a0v lw mix cw b0e b0f b0a beN b0l b0b a0z a0F elN mdL b0m rtV b0J kN kc c0B c0m RT.L gXn gYn rpL b0s c0Q a0D c0z
end
section
open Go.RowKit Go.Mv Mvp Mvq
attribute [local irreducible] a0v lw mix cw b0e b0f b0a beN b0l b0b a0z a0F elN mdL b0m rtV b0J c0m b0s c0Q a0D c0z e0H e0I a0R
theorem t0K (m : Md) (hk : KindOf 1 m) (x : Nat) (w : World) :
  Calls Tryz.prog 99 #[i4 (elN m x)] w fun e w' => e = .returned (i4 (elN m (m.M - x % m.M))) ∧ Fr Nob w w' := by
 have HK := qH hk
 have HOK := qH hk.ok
 clear hk
 have st0 := St.start Nob w
 go_enter Tryz.func99, Tryz.ntmps99
 go_wp2_with (with_reducible refine wSk 1 ?_)
 refine a0r st0 rfl rfl rfl (cw 4 (elN m x)) rfl ?_
 intro g1 w1 st1
 clear st0
 go_wp2_with (with_reducible refine wSk 2 ?_)
 refine a0b st1 rfl rfl (z := zAd) ap0 (cw 4 0) ap5 ?_
 intro g2 w2 st2
 clear st1
 go_wp2_with fail
 refine wp_region_noPanic ?_
 refine a0d (fun wx => St Nob w wx [(g1, cw 4 (elN m x), 125), (g2, cw 4 0, 125)]) 5 (.w 1 (.t 2 (.r 0 (.r 3 (.w 4 (.m 5 .nil)))))) ap0 ap0 st2.drew (fun _ _ _ _ _ h => h) ?_
 have hd2 := st2.drew
 clear st2
 refine a0a rfl rfl apW ?_
 try simp only [clL]
 refine a0h rfl rfl rfl rfl (cw 4 (elN m x)) (fun wx hS => St.rangeL hS 0 rfl 0 _ dZl) Tryz.underlying123 rfl ap3 ?_
 try simp only [clL]
 refine a0q rfl rfl ?_
 go_simp
 refine (c0v m HK.out _).mono ?_
 rintro e' w3 ⟨gp, rfl, hle, hm, hf3⟩
 have st3 : St Nob w w3 [(g1, cw 4 (elN m x), 125), (g2, cw 4 0, 125), (gp, mdL m, 234)] := hd2.new hf3 hm hle
 clear hf3 hm hle
 clear hd2
 refine ⟨St.less st3 ap4, ?_⟩
 try simp only [clL]
 refine a0q rfl rfl ?_
 go_simp
 refine (j0s m gp _ HOK.out (st3.at 2 rfl) x).mono ?_
 rintro e' w4 ⟨rfl, hf4⟩
 have st4 := st3.keep hf4
 clear hf4
 clear st3
 refine ⟨St.less st4 ap4, ?_⟩
 try simp only [clL]
 refine a0a rfl rfl (b0v rfl _ (e0W _)) ?_
 try simp only [clL]
 refine a0o rfl rfl ?_
 refine a0i st4 1 rfl rfl rfl rfl ap6 ap3 (a0f _ _) ?_
 intro w5 st5
 clear st4
 try simp only [Act.put]
 refine a0e ?_
 refine NoPanic.normal ?_
 have hr := st5.at 1 rfl
 have hfr := st5.fr
 clear st5
 go_wp2_with fail
 exact bodyPost_ret (a0y rfl rfl hr Tryz.underlying125 rfl ap3) rfl ⟨rfl, hfr⟩
end
section
open Go.RowKit Go.Mv Mvp Mvq
def OwnU (w : World) (v : Value) (l : List UInt8) : Prop := Own w 0 5 1 v l.length (bs l)
theorem OwnU.part {w : World} {v : Value} {l : List UInt8} (h : OwnU w v l) : BPart w v l := Own.part h
theorem OwnU.still {w w' : World} {v : Value} {l : List UInt8} (h : OwnU w v l) (hf : Fr Nob w w') : OwnU w' v l := Own.still h hf
theorem OwnU.nil (w : World) : OwnU w (.slice none 0 0) [] := Own.nil _ _ _ _
attribute [local irreducible] a0v lw mix cw b0e b0f b0a beN b0l b0b a0z a0F elN mdL b0m rtV b0J c0m b0s c0Q a0D c0z e0H e0I a0R
end
end Go.Proofs.YtpfimiajoifjaaaGreat
namespace Mvp
end Mvp
namespace Mvq
open Mvp
end Mvq
namespace Go.Proofs.YtpfimiajoifjaaaGreat
open Go.RowKit Go.Mv Mvp Mvq
attribute [local irreducible] a0v lw mix cw b0e b0f b0a beN b0l b0b a0z a0F elN mdL b0m rtV b0J kN kc c0B c0m RT.L
end Go.Proofs.YtpfimiajoifjaaaGreat
namespace Mvp
end Mvp
namespace Go.Proofs.YtpfimiajoifjaaaGreat
section
open Go.RowKit Go.Mv Mvp
theorem BPart.ofOwn {w : World} {base : Nat} {v : Value} {n : Nat} {l : List UInt8} (h : Own w base 5 1 v n (bs l)) : BPart w v l := by
 obtain ⟨a, c, rfl, hc, hr, -⟩ := h.form
 exact ⟨a, n, c, rfl, hc, by rw [Nat.mul_one] at hr; exact hr⟩
attribute [local irreducible] a0v lw mix cw b0e b0f b0a beN b0l b0b a0z a0F elN mdL a0I a0D b0m
end
section
open Go.RowKit Go.Mv Mvp Mvq
attribute [local irreducible] a0v lw mix cw b0e b0f b0a beN b0l b0b a0z a0F elN mdL b0m rtV b0J kN kc c0B c0m RT.L gXn gYn rpL b0s c0Q
end
section
open Go.RowKit Go.Mv Mvp Mvq
theorem u0W (x : Nat) : beN (b0b (x % mQ.M)) = x % mQ.M := j0l _ (Nat.lt_trans (Nat.mod_lt x ap2) ap2)
theorem j0I (x : Nat) : b0m mQ (b0b (x % mQ.M)) = true := by
 unfold b0m
 rw [b0H, u0W, decide_eq_true rfl, decide_eq_true (Nat.mod_lt x ap2)]
 rfl
attribute [local irreducible] a0v lw mix cw b0e b0f b0a beN b0l b0b a0z a0F elN mdL b0m rtV b0J kN kc c0B c0m RT.L gXn gYn rpL b0s c0Q a0R e0H e0I
end
section
open Go.RowKit Go.Mv Mvp Mvq
noncomputable def b0t (xs : List Nat) : List Value := xs.flatMap fun x => cw 4 (elN mQ x)
theorem f0Y : ∀ (xs : List Nat) (j : Nat) (hj : j < xs.length), ((b0t xs).drop (j * 4)).take 4 = cw 4 (elN mQ (xs[j]'hj))
 | x :: xs, 0, _ => by
  simp only [b0t, List.flatMap_cons, Nat.zero_mul, List.drop_zero, List.getElem_cons_zero]
  exact List.take_left' (a0g _ _)
 | x :: xs, j + 1, hj => by
  have h := f0Y xs j (by simpa using hj)
  simp only [List.getElem_cons_succ]
  rw [← h]
  simp only [b0t, List.flatMap_cons]
  rw [show (j + 1) * 4 = (cw 4 (elN mQ x)).length + j * 4 by rw [a0g]; omega, List.drop_append, List.drop_of_length_le (Nat.le_add_right _ _), List.nil_append, Nat.add_sub_cancel_left]
theorem o0V (xs : List Nat) : (b0t xs).length = xs.length * 4 := by
 induction xs with
 | nil => rfl
 | cons x xs ih => simp only [b0t, List.flatMap_cons, List.length_append, a0g] at *; rw [ih, List.length_cons]; omega
noncomputable def zB (xs : List Nat) : List (List UInt8) := xs.map fun x => b0b (x % mQ.M)
theorem w0T (xs : List Nat) (j : Nat) (hj : j < xs.length) : (zB xs).take (j + 1) = (zB xs).take j ++ [b0b (xs[j]'hj % mQ.M)] := by
 rw [List.take_succ_eq_append_getElem (by simpa [zB] using hj)]
 simp [zB]
theorem u0X (xs : List Nat) : (zB xs).length = xs.length := by simp [zB]
theorem a0M : (Tryz.prog.info? 23).map (fun i => (i.zero, i.size, i.bytes)) = some (some (.slice none 0 0), 1, 24) := by kernel_rfl
attribute [local irreducible] a0v lw mix cw b0e b0f b0a beN b0l b0b a0z a0F elN mdL b0m rtV b0J c0m b0s c0Q a0D c0z e0H e0I a0R a0T b0c toB a0u a0w a0Y a0E b0Z a0S a0x c0n b0t
theorem A0Y (x y : Nat) (w : World) :
  Calls Tryz.prog 126 #[i4 (elN mQ x), i4 (elN mQ y)] w fun e w' => e = .returned (i4 (elN mQ (x + y))) ∧ Fr Nob w w' := by
 have st0 := St.start Nob w
 go_enter Tryz.func126, Tryz.ntmps126
 go_wp2_with (with_reducible refine wSk 2 ?_)
 refine a0r st0 rfl rfl rfl (cw 4 (elN mQ x)) rfl ?_
 intro g2 w1 st1
 clear st0
 go_wp2_with (with_reducible refine wSk 3 ?_)
 refine a0r st1 rfl rfl rfl (cw 4 (elN mQ y)) rfl ?_
 intro g3 w2 st2
 clear st1
 go_wp2_with (with_reducible refine wSk 4 ?_)
 refine a0b st2 rfl rfl (z := zAd) ap0 (cw 4 0) ap5 ?_
 intro g4 w3 st3
 clear st2
 go_wp2_with fail
 refine wp_region_noPanic ?_
 refine a0d (fun wx => St Nob w wx [(g2, cw 4 (elN mQ x), 125), (g3, cw 4 (elN mQ y), 125), (g4, cw 4 0, 125)]) 7 (.w 1 (.t 2 (.w 3 (.t 4 (.r 0 (.r 5 (.w 6 (.m 7 .nil)))))))) ap0 ap0 st3.drew (fun _ _ _ _ _ h => h) ?_
 have hd3 := st3.drew
 clear st3
 refine a0a rfl rfl apW ?_
 try simp only [clL]
 refine a0h rfl rfl rfl rfl (cw 4 (elN mQ x)) (fun wx hS => St.rangeL hS 0 rfl 0 _ dZl) Tryz.underlying123 rfl ap3 ?_
 try simp only [clL]
 refine a0a rfl rfl apW ?_
 try simp only [clL]
 refine a0h rfl rfl rfl rfl (cw 4 (elN mQ y)) (fun wx hS => St.rangeL hS 1 rfl 0 _ dZl) Tryz.underlying123 rfl ap3 ?_
 try simp only [clL]
 refine a0q rfl rfl ?_
 go_simp
 refine (c0v mQ .one _).mono ?_
 rintro e' w4 ⟨gp, rfl, hle, hm, hf4⟩
 have st4 : St Nob w w4 [(g2, cw 4 (elN mQ x), 125), (g3, cw 4 (elN mQ y), 125), (g4, cw 4 0, 125), (gp, mdL mQ, 234)] := hd3.new hf4 hm hle
 clear hf4 hm hle
 clear hd3
 refine ⟨St.less st4 ap4, ?_⟩
 try simp only [clL]
 refine a0q rfl rfl ?_
 go_simp
 refine (f0s mQ gp _ v0W (st4.at 3 rfl) x y).mono ?_
 rintro e' w5 ⟨rfl, hf5⟩
 have st5 := st4.keep hf5
 clear hf5
 clear st4
 refine ⟨St.less st5 ap4, ?_⟩
 try simp only [clL]
 refine a0a rfl rfl (b0v rfl _ (e0W _)) ?_
 try simp only [clL]
 refine a0o rfl rfl ?_
 refine a0i st5 2 rfl rfl rfl rfl ap6 ap3 (a0f _ _) ?_
 intro w6 st6
 clear st5
 try simp only [Act.put]
 refine a0e ?_
 refine NoPanic.normal ?_
 have hr := st6.at 2 rfl
 have hfr := st6.fr
 clear st6
 go_wp2_with fail
 exact bodyPost_ret (a0y rfl rfl hr Tryz.underlying125 rfl ap3) rfl ⟨rfl, hfr⟩
theorem A0p (z x y : Nat) (w : World) :
  Calls Tryz.prog 101 #[i4 (elN mQ z), i4 (elN mQ x), i4 (elN mQ y)] w fun e w' => e = .returned (i4 (elN mQ (z + x * y))) ∧ Fr Nob w w' := by
 have st0 := St.start Nob w
 go_enter Tryz.func101, Tryz.ntmps101
 go_wp2_with (with_reducible refine wSk 3 ?_)
 refine a0r st0 rfl rfl rfl (cw 4 (elN mQ z)) rfl ?_
 intro g3 w1 st1
 clear st0
 go_wp2_with (with_reducible refine wSk 4 ?_)
 refine a0r st1 rfl rfl rfl (cw 4 (elN mQ x)) rfl ?_
 intro g4 w2 st2
 clear st1
 go_wp2_with (with_reducible refine wSk 5 ?_)
 refine a0r st2 rfl rfl rfl (cw 4 (elN mQ y)) rfl ?_
 intro g5 w3 st3
 clear st2
 go_wp2_with (with_reducible refine wSk 6 ?_)
 refine a0b st3 rfl rfl (z := zAd) ap0 (cw 4 0) ap5 ?_
 intro g6 w4 st4
 clear st3
 go_wp2_with fail
 refine wp_region_noPanic ?_
 refine a0k st4 5 [.t 0, .t 1, .t 2, .c 3, .c 4] (.m 5 .nil) ap0 ap0 (fun _ _ _ _ _ h => h) ?_
 clear st4
 refine a0j rfl rfl rfl (fun _ => rfl) (cw 4 (elN mQ z)) (fun wx hS => St.rangeL hS 0 rfl 0 _ dZl) Tryz.underlying125 rfl ap3 ?_
 try simp only [clL]
 refine a0j rfl rfl rfl (fun _ => rfl) (cw 4 (elN mQ x)) (fun wx hS => St.rangeL hS 1 rfl 0 _ dZl) Tryz.underlying125 rfl ap3 ?_
 try simp only [clL]
 refine a0j rfl rfl rfl (fun _ => rfl) (cw 4 (elN mQ y)) (fun wx hS => St.rangeL hS 2 rfl 0 _ dZl) Tryz.underlying125 rfl ap3 ?_
 try simp only [clL]
 refine a0l rfl rfl rfl Tryz.call95 (fun w hS hR => n0o mQ .one x y _) (fun _ => rfl) ?_
 try simp only [clL]
 refine a0l rfl rfl rfl Tryz.call126 (fun w hS hR => A0Y z (x * y) _) (fun _ => rfl) ?_
 try simp only [clL]
 refine a0J fun xq w5 st5 hR => ?_
 try dsimp only
 clear hR xq
 refine a0o rfl rfl ?_
 refine a0i st5 3 rfl rfl rfl rfl ap6 ap3 (a0f _ _) ?_
 intro w6 st6
 repeat (first | simp only [List.cons_append] at st6 | simp only [List.nil_append] at st6 | simp only [List.set_cons_succ] at st6 | simp only [List.set_cons_zero] at st6)
 clear st5
 try simp only [Act.put]
 refine a0e ?_
 refine NoPanic.normal ?_
 have hr := st6.at 3 rfl
 have hfr := st6.fr
 clear st6
 go_wp2_with fail
 exact bodyPost_ret (a0y rfl rfl hr Tryz.underlying125 rfl ap3) rfl ⟨rfl, hfr⟩
theorem t0L (al : Option Addr) (c : Nat) (xs : List Nat) (w : World) (hv : Rd w al (xs.length * 4) (b0t xs)) (hn : xs.length ≤ 100000) :
  Calls Tryz.prog 122 #[.slice al xs.length c] w fun e w' => ∃ v, e = .returned v ∧ SOwn w' w.heap.size v (zB xs) ∧ Fr Nob w w' := by
 have HV := qH hv
 clear hv
 go_enter Tryz.func122, Tryz.ntmps122
 go_wp2_with fail
 go_loopw [3, 8] (fun q i wr => ∃ j : Nat, j ≤ xs.length ∧ i = .int .i64 (j : Int) ∧ SOwn wr w.heap.size q ((zB xs).take j) ∧ Fr Nob w wr) (fun _ i _ => (xs.length - intOf i).toNat)
 case atStart => exact ⟨0, by omega, rfl, by rw [List.take_zero]; exact SOwn.nil _ _, Fr.refl _ _⟩
 case round =>
  obtain ⟨j, hj, rfl, hS, hfj⟩ := hrel
  by_cases hlt : j < xs.length
  ·have hltI : (j : Int) < (xs.length : Int) := by omega
   have hnI : (xs.length : Int) ≤ 100000 := by omega
   have hV := HV.out.still hfj
   obtain ⟨b, o, rfl, hat⟩ := hV.at ap1
   have hat4 : At wr b (o + j * 4) (cw 4 (elN mQ xs[j])) := by
    have := hat.sub (j * 4) 4
    rwa [f0Y xs j hlt] at this
   have HTK := qH (w0T xs j hlt)
   generalize xs[j] = x at *
   have HAT := qH hat4
   obtain ⟨vs, hown, hpo, hsep⟩ := hS
   have hll : ((zB xs).take j).length = j := by rw [List.length_take, u0X]; omega
   have hown0 := hown
   rw [hll] at hown
   have HLL := qH hll
   have HO0 := qH hown0
   have HO := qH hown
   have HPO := qH hpo
   have HSEP := qH hsep
   have HFJ := qH hfj
   have st0 := St.start Nob wr
   clear hV hat hat4 hll hown0 hown hpo hsep hfj
   go_wp2_with (with_reducible refine wSk 11 ?_)
   refine d0L rfl rfl Tryz.underlying125 rfl rfl HAT.out (a0G _) ?_
   clear HAT
   go_wp2_with (with_reducible refine wSk 5 ?_)
   refine a0b st0 rfl rfl m0x (cw 4 0) ap5 ?_
   intro g5 w1 st1
   clear st0
   go_wp2_with (with_reducible refine wSn ?_)
   refine a0c st1 0 rfl rfl rfl rfl rfl (e0c _ _) (a0G _) (a0f _ _) ?_
   intro w2 st2
   clear st1
   go_wp2_with (with_reducible refine wSk 13 ?_)
   refine a0s st2 0 rfl rfl rfl Tryz.underlying125 rfl rfl (a0G _) ?_
   go_wp2_with fail
   refine (i0D mQ .one x _).mono ?_
   rintro e' w3 ⟨v, rfl, hown1, hf3⟩
   have hf23 := st2.fr.then hf3
   have HSZ := qH (HFJ.out.size)
   have hown1' := hown1.mono st2.fr.size
   obtain ⟨av, cv, rfl, -⟩ := d0Z hown1
   have HO1 := qH hown1'
   have HF3 := qH hf23
   clear st2 hown1 hown1' hf3 hf23
   go_wp2_with (with_reducible refine wSk 15 ?_)
   refine d0K rfl rfl Tryz.underlying24 a0M [.slice av 32 cv] rfl (by simp; rfl) rfl rfl ?_
   intro w4 hh4 hf4 hz4
   clear hz4
   have hownq := (HO.out.still HF3.out).still hf4
   have hfr4 := (HFJ.out.then HF3.out).then hf4
   have HF4 := qH hf4
   clear hf4
   generalize w3.heap.size = g1 at *
   have hsz4 := hfr4.size
   have hrd4 := Rd.whole hh4
   clear hh4
   have HRD4 := qH hrd4
   have HQ4 := qH hownq
   have HFR4 := qH hfr4
   have HZ4 := qH hsz4
   clear hrd4 hownq hfr4 hsz4
   go_wp2_with (with_reducible refine wSk 16 ?_)
   refine c0p rfl rfl Tryz.underlying24 a0M rfl ap2 HQ4.out rfl rfl HRD4.out (fun u hu => by simp only [List.mem_singleton] at hu; subst hu; rfl) ap9 ap1 HZ4.out ?_
   intro v5 w5 hown5 hf5 hb5
   clear hb5
   have hfr5 := HQ4.out.fr HFR4.out (Nat.le_refl _) hf5
   have hfin : SOwn w5 w.heap.size v5 ((zB xs).take (j + 1)) := by
    rw [HTK.out]
    refine SOwn.snocF (w := wr) HO0.out HPO.out HSEP.out HSZ.out (by rw [b0H]; exact HO1.out) HF3.out HF4.out (by rw [HLL.out]; exact hown5) hf5
   have HFIN := qH hfin
   have HFR5 := qH hfr5
   clear hown5 hf5 hfr5 hfin HQ4 HRD4 HFR4 HZ4 HO HO0 HPO HSEP HO1
   go_wp2_with fail
   go_roundw
   case rel => exact ⟨j + 1, by omega, by go_num, HFIN.out, HFR5.out⟩
   case measure => simp [intOf]; omega
  ·have hge : ¬ ((j : Int) < (xs.length : Int)) := by omega
   rw [List.take_of_length_le (by rw [u0X]; omega)] at hS
   have HS := qH hS
   have HF := qH hfj
   clear hS hfj hlt
   go_wp2_with fail
   go_ret
   exact ⟨_, rfl, HS.out, HF.out⟩
theorem OwnB1.back {w0 w w' : World} {v : Value} {l : List UInt8} (h : OwnB1 w w' v l) (hs : w0.heap.size ≤ w.heap.size) : OwnB1 w0 w' v l := Own.mono h hs
theorem OwnU.b1 {w w' : World} {v : Value} {l : List UInt8} (h : OwnB1 w w' v l) : OwnU w' v l := Own.mono h (Nat.zero_le _)
theorem POwn.bpartsT {w : World} {base : Nat} : ∀ {vs : List Value} {ls : List (List UInt8)}, POwn w base vs ls → BParts w vs ls := by
 intro vs ls h
 refine ⟨h.len, fun i v hv => ?_⟩
 obtain ⟨l, hl, ho⟩ := h.get i v hv
 obtain ⟨a, c, rfl, hc, hr, -⟩ := ho.form
 rw [Nat.mul_one] at hr
 rw [List.getD_eq_getElem?_getD, hl]
 exact ⟨a, _, c, rfl, hc, hr⟩
theorem SOwn.bpartsT {w : World} {base : Nat} {v : Value} {ls : List (List UInt8)} (h : SOwn w base v ls) : ∃ a c vs, v = .slice a ls.length c ∧ Rd w a ls.length vs ∧ BParts w vs ls := by
 obtain ⟨vs, h1, h2, h3⟩ := h
 obtain ⟨a, c, rfl, hc, hr, -⟩ := h1.form
 rw [Nat.mul_one] at hr
 exact ⟨a, c, vs, rfl, hr, h2.bpartsT⟩
theorem g0L {l : List UInt8} (h : b0s l = true) : l.length = 33 := by
 unfold b0s at h
 simp only [Bool.and_eq_true, decide_eq_true_eq] at h
 exact h.1
end
end Go.Proofs.YtpfimiajoifjaaaGreat
namespace Mvq
instance : NeZero qN := ⟨by decide⟩
abbrev Zq := Fin qN
def zq (n : Nat) : Zq := Fin.ofNat qN n
theorem u0Y (n : Nat) : (zq n).val = n % qN := rfl
theorem e0Z (x : Zq) : zq x.val = x := by
 apply Fin.ext
 rw [u0Y, Nat.mod_eq_of_lt x.isLt]
theorem r0C (a b : Nat) : zq (a + b) = zq a + zq b := by
 apply Fin.ext; simp [zq, Fin.ofNat, Fin.val_add]
theorem n0G (a b : Nat) : zq (a * b) = zq a * zq b := by
 apply Fin.ext; simp [zq, Fin.ofNat, Fin.val_mul]
theorem u0Z (a : Nat) : zq (a % qN) = zq a := by
 apply Fin.ext; simp [zq, Fin.ofNat]
theorem A0Z : zq 0 = 0 := by decide
theorem A0J : zq 1 = 1 := by decide
theorem B0a : zq qN = 0 := by decide
theorem z0a {a b : Nat} : zq a = zq b ↔ a % qN = b % qN := by
 constructor
 ·intro h
  have := congrArg Fin.val h
  exact this
 ·intro h
  exact Fin.ext h
theorem z0b (b : Nat) : zq (qN - b % qN) = - zq b := by
 have h : zq (qN - b % qN) + zq b = 0 := by
  rw [← u0Z b, ← r0C, Nat.sub_add_cancel (Nat.le_of_lt (Nat.mod_lt b ap2)), B0a]
 grind -lia -linarith
noncomputable def dl (p : Pt) : Zq := open Classical in if h : ∃ n, p = a0R n hP then zq (Classical.choose h) else 0
theorem w0U {m n : Nat} (h : zq m = zq n) : a0R m hP = a0R n hP := by
 rw [← g0J b0W m, ← g0J b0W n, z0a.1 h]
theorem h0G {p : Pt} (hp : onC p) : p = a0R (dl p).val hP := by
 have h : ∃ n, p = a0R n hP := y0U hp
 unfold dl
 rw [dif_pos h]
 refine (Classical.choose_spec h).trans (w0U ?_)
 rw [e0Z]
theorem j0J (n : Nat) : dl (a0R n hP) = zq n := by
 have h := h0G (a0N b0W n)
 rw [← g0J b0W n] at h
 have := n0C (Nat.mod_lt n ap2) (dl (a0R (n % qN) hP)).isLt h
 rw [g0J b0W n] at this
 rw [← u0Z, this, e0Z]
theorem z0c {p q : Pt} (hp : onC p) (hq : onC q) : dl (a0V p q) = dl p + dl q := by
 conv => lhs; rw [h0G hp, h0G hq, ← b0z b0W, j0J, r0C, e0Z, e0Z]
theorem z0d {p : Pt} (hp : onC p) (n : Nat) : dl (a0R n p) = zq n * dl p := by
 conv => lhs; rw [h0G hp, ← d0R b0W, j0J, n0G, e0Z]
 grind -lia -linarith
theorem A0K : dl .O = 0 := by
 have := j0J 0
 rw [A0Z] at this
 exact this
end Mvq
namespace Mvq
def b0n : List Zq → List Zq → Zq
 | a :: l, b :: m => a * b + b0n l m
 | _, _ => 0
def b0I (x : Zq) (l : List Zq) (y : Zq) (m : List Zq) : List Zq := List.zipWith (fun a b => x * a + y * b) l m
theorem d0T (x : Zq) (l : List Zq) (y : Zq) (m : List Zq) (h : l.length = m.length) : (b0I x l y m).length = l.length := by
 unfold b0I; rw [List.length_zipWith, h, Nat.min_self]
theorem t0M (l : List Zq) : b0n l [] = 0 := by cases l <;> rfl
theorem f0D : ∀ (l m : List Zq), b0n l m = b0n m l
 | [], m => by rw [t0M]; rfl
 | a :: l, [] => rfl
 | a :: l, b :: m => by
  show a * b + b0n l m = b * a + b0n m l
  rw [f0D l m]
  grind -lia -linarith
theorem c0i : ∀ (l1 l2 m1 m2 : List Zq), l1.length = m1.length → b0n (l1 ++ l2) (m1 ++ m2) = b0n l1 m1 + b0n l2 m2
 | [], l2, [], m2, _ => by show b0n l2 m2 = 0 + b0n l2 m2; grind -lia -linarith
 | a :: l, l2, b :: m, m2, h => by
  have := c0i l l2 m m2 (by simpa using h)
  show a * b + b0n (l ++ l2) (m ++ m2) = a * b + b0n l m + b0n l2 m2
  rw [this]
  grind -lia -linarith
theorem f0E (x y : Zq) : ∀ (l m1 m2 : List Zq), l.length = m1.length → l.length = m2.length → b0n l (b0I x m1 y m2) = x * b0n l m1 + y * b0n l m2
 | [], [], [], _, _ => by show (0 : Zq) = x * 0 + y * 0; grind -lia -linarith
 | a :: l, b :: m, c :: k, h1, h2 => by
  have := f0E x y l m k (by simpa using h1) (by simpa using h2)
  show a * (x * b + y * c) + b0n l (b0I x m y k) = x * (a * b + b0n l m) + y * (a * c + b0n l k)
  rw [this]
  grind -lia -linarith
theorem l0b (x y : Zq) (l1 l2 m : List Zq) (h1 : m.length = l1.length) (h2 : m.length = l2.length) : b0n (b0I x l1 y l2) m = x * b0n l1 m + y * b0n l2 m := by
 rw [f0D, f0E x y m l1 l2 h1 h2, f0D m, f0D m]
theorem h0H (x y z w : Zq) (l1 l2 m1 m2 : List Zq) (n : Nat) (h1 : l1.length = n) (h2 : l2.length = n) (h3 : m1.length = n) (h4 : m2.length = n) :
  b0n (b0I x l1 y l2) (b0I z m1 w m2) = x * z * b0n l1 m1 + x * w * b0n l1 m2 + y * z * b0n l2 m1 + y * w * b0n l2 m2 := by
 rw [f0E z w _ m1 m2 (by rw [d0T _ _ _ _ ap1]; omega) (by rw [d0T _ _ _ _ ap1]; omega), l0b x y l1 l2 m1 ap1 ap1, l0b x y l1 l2 m2 ap1 ap1]
 grind -lia -linarith
def j0K (a b g h : List Zq) (u : Zq) : Zq := b0n a g + b0n b h + b0n a b * u
theorem o0W (x y u : Zq) (hxy : x * y = 1) (a1 a2 b1 b2 g1 g2 h1 h2 : List Zq) (n : Nat) (ha1 : a1.length = n) (ha2 : a2.length = n) (hb1 : b1.length = n) (hb2 : b2.length = n) (hg1 : g1.length = n) (hg2 : g2.length = n) (hh1 : h1.length = n) (hh2 : h2.length = n) :
  j0K (b0I x a1 y a2) (b0I y b1 x b2) (b0I y g1 x g2) (b0I x h1 y h2) u =
   j0K (a1 ++ a2) (b1 ++ b2) (g1 ++ g2) (h1 ++ h2) u + x * x * (b0n a1 g2 + b0n b2 h1 + b0n a1 b2 * u) + y * y * (b0n a2 g1 + b0n b1 h2 + b0n a2 b1 * u) := by
 unfold j0K
 rw [h0H x y y x a1 a2 g1 g2 n ha1 ha2 hg1 hg2, h0H y x x y b1 b2 h1 h2 n hb1 hb2 hh1 hh2, h0H x y y x a1 a2 b1 b2 n ha1 ha2 hb1 hb2, c0i _ _ _ _ ap1, c0i _ _ _ _ ap1, c0i _ _ _ _ ap1]
 generalize b0n a1 g1 = p1; generalize b0n a1 g2 = p2; generalize b0n a2 g1 = p3; generalize b0n a2 g2 = p4
 generalize b0n b1 h1 = q1; generalize b0n b1 h2 = q2; generalize b0n b2 h1 = q3; generalize b0n b2 h2 = q4
 generalize b0n a1 b1 = r1; generalize b0n a1 b2 = r2; generalize b0n a2 b1 = r3; generalize b0n a2 b2 = r4
 have h2 : y * x = 1 := by grind -lia -linarith
 rw [hxy, h2]
 grind -lia -linarith
def j0L : List (Zq × Zq) → List Zq
 | [] => [1]
 | (x, y) :: r => (j0L r).map (fun f => y * f) ++ (j0L r).map (fun f => x * f)
theorem g0M : ∀ (r : List (Zq × Zq)), (j0L r).length = 2 ^ r.length
 | [] => rfl
 | (x, y) :: r => by
  show ((j0L r).map _ ++ (j0L r).map _).length = 2 ^ (r.length + 1)
  rw [List.length_append, List.length_map, List.length_map, g0M r]
  omega
theorem f0Z (x : Zq) : ∀ (l m : List Zq), b0n (l.map fun f => x * f) m = x * b0n l m
 | [], m => by show (0 : Zq) = x * 0; grind -lia -linarith
 | a :: l, [] => by show (0 : Zq) = x * 0; grind -lia -linarith
 | a :: l, b :: m => by
  have := f0Z x l m
  show x * a * b + b0n (l.map fun f => x * f) m = x * (a * b + b0n l m)
  rw [this]
  grind -lia -linarith
end Mvq
namespace Mvq
section
variable {σ : Type} (ch : σ → Zq → Zq → Zq × σ) (iv : Zq → Zq)
def i0N (st : σ) : List (Zq × Zq) → List (Zq × Zq)
 | [] => []
 | (l, r) :: t => ((ch st l r).1, iv (ch st l r).1) :: i0N (ch st l r).2 t
theorem g0N (st : σ) : ∀ l, (i0N ch iv st l).length = l.length
 | [] => rfl
 | (l, r) :: t => by show (i0N ch iv _ t).length + 1 = t.length + 1; rw [g0N]
def d0w (a b g h : List Zq) (u : Zq) : Zq := b0n a g + b0n b h + b0n a b * u
def b0d : Nat → σ → List Zq → List Zq → List Zq → List Zq → Zq → List (Zq × Zq) × Zq × Zq
 | 0, _, a, b, _, _, _ => ([], a.headD 0, b.headD 0)
 | k + 1, st, a, b, g, h, u =>
  let n := 2 ^ k
  let l := d0w (a.take n) (b.drop n) (g.drop n) (h.take n) u
  let r := d0w (a.drop n) (b.take n) (g.take n) (h.drop n) u
  let x := (ch st l r).1
  let y := iv x
  let p := b0d k (ch st l r).2 (b0I x (a.take n) y (a.drop n)) (b0I y (b.take n) x (b.drop n)) (b0I y (g.take n) x (g.drop n)) (b0I x (h.take n) y (h.drop n)) u
  ((l, r) :: p.1, p.2)
theorem e0C : ∀ (k : Nat) (st : σ) (a b g h : List Zq) (u : Zq), (b0d ch iv k st a b g h u).1.length = k
 | 0, _, _, _, _, _, _ => rfl
 | k + 1, st, a, b, g, h, u => by
  show List.length (_ :: _) = k + 1
  rw [List.length_cons, e0C k]
def lrZ : List (Zq × Zq) → List (Zq × Zq) → Zq
 | (x, y) :: xs, (l, r) :: t => x * x * l + y * y * r + lrZ xs t
 | _, _ => 0
def b0X (l : List (Zq × Zq)) : List (Zq × Zq) := l.map fun p => (p.2, p.1)
theorem n0H (x y : Zq) (r : List (Zq × Zq)) (g : List Zq) (h : g.length = 2 ^ (r.length + 1)) : b0n (j0L ((x, y) :: r)) g = b0n (j0L r) (b0I y (g.take (2 ^ r.length)) x (g.drop (2 ^ r.length))) := by
 rw [Nat.pow_succ] at h
 have l1 : (g.take (2 ^ r.length)).length = 2 ^ r.length := by rw [List.length_take]; omega
 have l2 : (g.drop (2 ^ r.length)).length = 2 ^ r.length := by rw [List.length_drop]; omega
 rw [f0E y x (j0L r) _ _ (by rw [g0M, l1]) (by rw [g0M, l2])]
 conv => lhs; rw [← List.take_append_drop (2 ^ r.length) g]
 show b0n ((j0L r).map (fun f => y * f) ++ (j0L r).map (fun f => x * f)) _ = _
 rw [c0i _ _ _ _ (by rw [List.length_map, g0M, l1]), f0Z, f0Z]
theorem h0I (hiv : ∀ st l r, (ch st l r).1 * iv (ch st l r).1 = 1) : ∀ (k : Nat) (st : σ) (a b g h : List Zq) (u : Zq), a.length = 2 ^ k → b.length = 2 ^ k → g.length = 2 ^ k → h.length = 2 ^ k →
  j0K a b g h u + lrZ (i0N ch iv st (b0d ch iv k st a b g h u).1) (b0d ch iv k st a b g h u).1 =
   (b0d ch iv k st a b g h u).2.1 * b0n (j0L (i0N ch iv st (b0d ch iv k st a b g h u).1)) g + (b0d ch iv k st a b g h u).2.2 * b0n (j0L (b0X (i0N ch iv st (b0d ch iv k st a b g h u).1))) h +
    (b0d ch iv k st a b g h u).2.1 * (b0d ch iv k st a b g h u).2.2 * u
 | 0, st, a, b, g, h, u, ha, hb, hg, hh => by
  match a, b, g, h, ha, hb, hg, hh with
  | [a], [b], [g], [h], _, _, _, _ =>
   show (a * g + 0) + (b * h + 0) + (a * b + 0) * u + 0 = a * (1 * g + 0) + b * (1 * h + 0) + a * b * u
   grind -lia -linarith
 | k + 1, st, a, b, g, h, u, ha, hb, hg, hh => by
  obtain ⟨l, hl⟩ : ∃ l, d0w (a.take (2 ^ k)) (b.drop (2 ^ k)) (g.drop (2 ^ k)) (h.take (2 ^ k)) u = l := ⟨_, rfl⟩
  obtain ⟨r, hr⟩ : ∃ r, d0w (a.drop (2 ^ k)) (b.take (2 ^ k)) (g.take (2 ^ k)) (h.drop (2 ^ k)) u = r := ⟨_, rfl⟩
  obtain ⟨x, hx⟩ : ∃ x, (ch st l r).1 = x := ⟨_, rfl⟩
  obtain ⟨st', hst⟩ : ∃ s, (ch st l r).2 = s := ⟨_, rfl⟩
  have hxy := hiv st l r
  rw [hx] at hxy
  obtain ⟨y, hy⟩ : ∃ y, iv x = y := ⟨_, rfl⟩
  rw [hy] at hxy
  have hp : b0d ch iv (k + 1) st a b g h u = ((l, r) :: (b0d ch iv k st' (b0I x (a.take (2 ^ k)) y (a.drop (2 ^ k))) (b0I y (b.take (2 ^ k)) x (b.drop (2 ^ k))) (b0I y (g.take (2 ^ k)) x (g.drop (2 ^ k))) (b0I x (h.take (2 ^ k)) y (h.drop (2 ^ k))) u).1,
    (b0d ch iv k st' (b0I x (a.take (2 ^ k)) y (a.drop (2 ^ k))) (b0I y (b.take (2 ^ k)) x (b.drop (2 ^ k))) (b0I y (g.take (2 ^ k)) x (g.drop (2 ^ k))) (b0I x (h.take (2 ^ k)) y (h.drop (2 ^ k))) u).2) := by
   show ((_, _) :: _, _) = _
   rw [hl, hr, hx, hst, hy]
  have len : ∀ z : List Zq, z.length = 2 ^ (k + 1) → (z.take (2 ^ k)).length = 2 ^ k ∧ (z.drop (2 ^ k)).length = 2 ^ k := fun z hz => by
   rw [Nat.pow_succ] at hz
   exact ⟨by rw [List.length_take]; omega, by rw [List.length_drop]; omega⟩
  have ih := h0I hiv k st' (b0I x (a.take (2 ^ k)) y (a.drop (2 ^ k))) (b0I y (b.take (2 ^ k)) x (b.drop (2 ^ k))) (b0I y (g.take (2 ^ k)) x (g.drop (2 ^ k))) (b0I x (h.take (2 ^ k)) y (h.drop (2 ^ k))) u
   (by rw [d0T _ _ _ _ (by rw [(len a ha).1, (len a ha).2])]; exact (len a ha).1) (by rw [d0T _ _ _ _ (by rw [(len b hb).1, (len b hb).2])]; exact (len b hb).1)
   (by rw [d0T _ _ _ _ (by rw [(len g hg).1, (len g hg).2])]; exact (len g hg).1) (by rw [d0T _ _ _ _ (by rw [(len h hh).1, (len h hh).2])]; exact (len h hh).1)
  have hstep := o0W x y u hxy (a.take (2 ^ k)) (a.drop (2 ^ k)) (b.take (2 ^ k)) (b.drop (2 ^ k)) (g.take (2 ^ k)) (g.drop (2 ^ k)) (h.take (2 ^ k)) (h.drop (2 ^ k)) (2 ^ k)
   (len a ha).1 (len a ha).2 (len b hb).1 (len b hb).2 (len g hg).1 (len g hg).2 (len h hh).1 (len h hh).2
  rw [List.take_append_drop, List.take_append_drop, List.take_append_drop, List.take_append_drop] at hstep
  have hpl := e0C ch iv k st' (b0I x (a.take (2 ^ k)) y (a.drop (2 ^ k))) (b0I y (b.take (2 ^ k)) x (b.drop (2 ^ k))) (b0I y (g.take (2 ^ k)) x (g.drop (2 ^ k))) (b0I x (h.take (2 ^ k)) y (h.drop (2 ^ k))) u
  rw [hp]
  generalize b0d ch iv k st' (b0I x (a.take (2 ^ k)) y (a.drop (2 ^ k))) (b0I y (b.take (2 ^ k)) x (b.drop (2 ^ k))) (b0I y (g.take (2 ^ k)) x (g.drop (2 ^ k))) (b0I x (h.take (2 ^ k)) y (h.drop (2 ^ k))) u = p at ih hpl ⊢
  obtain ⟨lr, A, B⟩ := p
  dsimp only at ih hpl ⊢
  have hcs : i0N ch iv st ((l, r) :: lr) = (x, y) :: i0N ch iv st' lr := by
   show ((ch st l r).1, iv (ch st l r).1) :: i0N ch iv (ch st l r).2 lr = _
   rw [hx, hy, hst]
  have hcl : (i0N ch iv st' lr).length = k := by rw [g0N, hpl]
  have hsl : (b0X (i0N ch iv st' lr)).length = k := by unfold b0X; rw [List.length_map, hcl]
  rw [hcs]
  have e1 := n0H x y (i0N ch iv st' lr) g (by rw [hcl, hg])
  have e2 := n0H y x (b0X (i0N ch iv st' lr)) h (by rw [hsl, hh])
  rw [hcl] at e1
  rw [hsl] at e2
  rw [e1]
  show j0K a b g h u + (x * x * l + y * y * r + lrZ (i0N ch iv st' lr) lr) = _ + B * b0n (j0L ((y, x) :: b0X (i0N ch iv st' lr))) h + _
  rw [e2, ← ih, hstep]
  have hl2 : l = b0n (a.take (2 ^ k)) (g.drop (2 ^ k)) + b0n (b.drop (2 ^ k)) (h.take (2 ^ k)) + b0n (a.take (2 ^ k)) (b.drop (2 ^ k)) * u := hl.symm
  have hr2 : r = b0n (a.drop (2 ^ k)) (g.take (2 ^ k)) + b0n (b.take (2 ^ k)) (h.drop (2 ^ k)) + b0n (a.drop (2 ^ k)) (b.take (2 ^ k)) * u := hr.symm
  rw [hl2, hr2]
  generalize j0K a b g h u = K0; generalize lrZ (i0N ch iv st' lr) lr = M0
  grind -lia -linarith
end
end Mvq
namespace Mvq
def i0O : Nat → (Nat → Zq) → Zq
 | 0, _ => 0
 | n + 1, f => i0O n f + f n
def lsZ (n : Nat) (f : Nat → Zq) : List Zq := (List.range n).map f
theorem a0O (n : Nat) (f : Nat → Zq) : (lsZ n f).length = n := by simp [lsZ]
theorem e0D (n : Nat) (f : Nat → Zq) : lsZ (n + 1) f = lsZ n f ++ [f n] := by simp [lsZ, List.range_succ]
theorem g0a (n : Nat) (f : Nat → Zq) (i : Nat) (h : i < n) : (lsZ n f)[i]? = some (f i) := by simp [lsZ, h]
theorem h0J {n : Nat} {f g : Nat → Zq} (h : ∀ i, i < n → f i = g i) : lsZ n f = lsZ n g := by
 unfold lsZ
 exact List.map_congr_left fun i hi => h i (List.mem_range.1 hi)
theorem i0P : ∀ (n : Nat) {f g : Nat → Zq}, (∀ i, i < n → f i = g i) → i0O n f = i0O n g
 | 0, _, _, _ => rfl
 | n + 1, f, g, h => by
  show i0O n f + f n = i0O n g + g n
  rw [i0P n (fun i hi => h i ap1), h n ap1]
theorem j0M (f g : Nat → Zq) : ∀ n, b0n (lsZ n f) (lsZ n g) = i0O n fun i => f i * g i
 | 0 => rfl
 | n + 1 => by
  rw [e0D, e0D, c0i _ _ _ _ (by rw [a0O, a0O]), j0M f g n]
  show _ + (f n * g n + 0) = i0O n _ + f n * g n
  grind -lia -linarith
def pwZ (y : Zq) : Nat → Zq
 | 0 => 1
 | n + 1 => pwZ y n * y
end Mvq
namespace Mvq
def c0a : List (Zq × Zq) → Nat → Zq
 | [], _ => 1
 | (x, y) :: r, i => (if i / 2 ^ r.length % 2 = 0 then y else x) * c0a r i
def z0e : List (Zq × Zq) → Nat → Zq → Zq
 | [], _, acc => acc
 | (x, y) :: r, i, acc => z0e r i (acc * (if i / 2 ^ r.length % 2 = 0 then y else x))
theorem r0D : ∀ (r : List (Zq × Zq)) (i : Nat) (acc : Zq), z0e r i acc = acc * c0a r i
 | [], _, acc => by show acc = acc * 1; grind -lia -linarith
 | (x, y) :: r, i, acc => by
  show z0e r i _ = acc * (_ * c0a r i)
  rw [r0D r i]
  generalize (if i / 2 ^ r.length % 2 = 0 then y else x) = f
  grind -lia -linarith
theorem l0c : ∀ (r : List (Zq × Zq)) (i k : Nat), r.length ≤ k → c0a r (2 ^ k + i) = c0a r i
 | [], _, _, _ => rfl
 | (x, y) :: r, i, k, h => by
  have hk : r.length + 1 ≤ k := h
  show (if (2 ^ k + i) / 2 ^ r.length % 2 = 0 then y else x) * c0a r (2 ^ k + i) = (if i / 2 ^ r.length % 2 = 0 then y else x) * c0a r i
  rw [l0c r i k ap1]
  have e : 2 ^ k = 2 ^ r.length * (2 * 2 ^ (k - r.length - 1)) := by
   rw [← Nat.pow_succ', ← Nat.pow_add]
   congr 1
   omega
  have : (2 ^ k + i) / 2 ^ r.length % 2 = i / 2 ^ r.length % 2 := by
   rw [e, Nat.mul_add_div (Nat.two_pow_pos _)]
   omega
  rw [this]
theorem z0f (m n : Nat) (f : Nat → Zq) : lsZ (m + n) f = lsZ m f ++ lsZ n (fun i => f (m + i)) := by
 unfold lsZ
 rw [List.range_add, List.map_append, List.map_map]
 rfl
theorem r0E : ∀ (r : List (Zq × Zq)), j0L r = lsZ (2 ^ r.length) (c0a r)
 | [] => rfl
 | (x, y) :: r => by
  show (j0L r).map _ ++ (j0L r).map _ = lsZ (2 ^ (r.length + 1)) _
  rw [r0E r, show 2 ^ (r.length + 1) = 2 ^ r.length + 2 ^ r.length by rw [Nat.pow_succ]; omega, z0f]
  have e1 : (lsZ (2 ^ r.length) (c0a r)).map (fun f => y * f) = lsZ (2 ^ r.length) (c0a ((x, y) :: r)) := by
   unfold lsZ
   rw [List.map_map]
   refine List.map_congr_left fun i hi => ?_
   have hi' := List.mem_range.1 hi
   show y * c0a r i = (if i / 2 ^ r.length % 2 = 0 then y else x) * c0a r i
   rw [Nat.div_eq_of_lt hi', if_pos (by rfl)]
  have e2 : (lsZ (2 ^ r.length) (c0a r)).map (fun f => x * f) = lsZ (2 ^ r.length) (fun i => c0a ((x, y) :: r) (2 ^ r.length + i)) := by
   unfold lsZ
   rw [List.map_map]
   refine List.map_congr_left fun i hi => ?_
   have hi' := List.mem_range.1 hi
   show x * c0a r i = (if (2 ^ r.length + i) / 2 ^ r.length % 2 = 0 then y else x) * c0a r (2 ^ r.length + i)
   rw [l0c r i r.length (Nat.le_refl _), show (2 ^ r.length + i) / 2 ^ r.length = 1 by
    conv => lhs; rw [show 2 ^ r.length + i = 2 ^ r.length * 1 + i by omega]
    rw [Nat.mul_add_div (Nat.two_pow_pos _), Nat.div_eq_of_lt hi'], if_neg ap2]
  rw [e1, e2]
theorem h0K (l : List (Zq × Zq)) : (b0X l).length = l.length := by simp [b0X]
theorem n0I (r : List (Zq × Zq)) (g : Nat → Zq) : b0n (j0L r) (lsZ (2 ^ r.length) g) = i0O (2 ^ r.length) fun i => c0a r i * g i := by
 rw [r0E, j0M]
end Mvq
namespace Mvq
def ivZ (x : Zq) : Zq := zq (x.val ^ (qN - 2))
theorem w0V {x : Zq} (h : x ≠ 0) : x * ivZ x = 1 := by
 have hd : ¬ qN ∣ x.val := fun hx => by
  have h1 := x.isLt
  rcases Nat.eq_zero_or_pos x.val with h0 | h0
  ·exact h (Fin.ext h0)
  ·have := Nat.le_of_dvd h0 hx
   omega
 have hf : x.val ^ (qN - 1) % qN = 1 := k0I (p := qN) u0J hd
 have e : x.val * x.val ^ (qN - 2) = x.val ^ (qN - 1) := by
  rw [Nat.mul_comm, ← Nat.pow_succ, show (qN - 2).succ = qN - 1 by decide]
 have e2 : zq x.val * ivZ x = 1 := by
  unfold ivZ
  rw [← n0G, e, ← A0J, z0a, hf]
  decide
 rwa [e0Z] at e2
def nzZ (c : Zq) : Zq := if c = 0 then 1 else c
theorem z0g (c : Zq) : nzZ c ≠ 0 := by
 unfold nzZ
 split
 ·decide
 ·assumption
theorem w0W (c : Zq) : nzZ c * ivZ (nzZ c) = 1 := w0V (z0g c)
end Mvq
namespace Go.Proofs.YtpfimiajoifjaaaGreat
open Go.RowKit Go.Mv Mvp Mvq
theorem g0v : (Value.agg #[.int .u64 0, .int .u64 0, .int .u64 0, .int .u64 0]).cells.toList = cw 4 0 := by rw [e0l]; rfl
noncomputable def eQ (x : Zq) : Nat := elN mQ x.val
theorem t0N : mQ.M = qN := by decide
theorem m0A (n : Nat) : elN mQ n = eQ (zq n) := by
 unfold eQ elN
 rw [u0Y, ← t0N, Nat.mod_mul_mod]
theorem z0h (x y : Zq) : elN mQ (x.val * y.val) = eQ (x * y) := by rw [m0A, n0G, e0Z, e0Z]
theorem z0i (x : Zq) : elN mQ (mQ.M - x.val % mQ.M) = eQ (- x) := by rw [m0A, t0N, z0b, e0Z]
theorem w0X (z x y : Zq) : elN mQ (z.val + x.val * y.val) = eQ (z + x * y) := by rw [m0A, r0C, n0G, e0Z, e0Z, e0Z]
theorem z0j (x : Zq) : elN mQ (x.val ^ (mQ.M - 2)) = eQ (ivZ x) := by rw [m0A, t0N]; rfl
theorem r0F : eQ 0 = 0 := by decide
theorem g0b (x y : Zq) (w : World) : Calls Tryz.prog 95 #[i4 (eQ x), i4 (eQ y)] w fun e w' => e = .returned (i4 (eQ (x * y))) ∧ Fr Nob w w' :=
 (n0o mQ .one x.val y.val w).mono fun _ _ ⟨h, hf⟩ => ⟨h.trans (by rw [z0h]), hf⟩
theorem w0Y (x : Zq) (w : World) : Calls Tryz.prog 99 #[i4 (eQ x)] w fun e w' => e = .returned (i4 (eQ (- x))) ∧ Fr Nob w w' :=
 (t0K mQ .one x.val w).mono fun _ _ ⟨h, hf⟩ => ⟨h.trans (by rw [z0i]), hf⟩
theorem v0a (z x y : Zq) (w : World) : Calls Tryz.prog 101 #[i4 (eQ z), i4 (eQ x), i4 (eQ y)] w fun e w' => e = .returned (i4 (eQ (z + x * y))) ∧ Fr Nob w w' :=
 (A0p z.val x.val y.val w).mono fun _ _ ⟨h, hf⟩ => ⟨h.trans (by rw [w0X]), hf⟩
theorem z0k (x : Zq) (w : World) : Calls Tryz.prog 94 #[i4 (eQ x)] w fun e w' => e = .returned (i4 (eQ (ivZ x))) ∧ Fr Nob w w' :=
 (s0P mQ .one x.val w).mono fun _ _ ⟨h, hf⟩ => ⟨h.trans (by rw [z0j]), hf⟩
theorem w0Z (k : Nat) (hk : k < 18446744073709551616) (w : World) : Calls Tryz.prog 64 #[.int .u64 (k : Int)] w fun e w' => e = .returned (i4 (eQ (zq k))) ∧ Fr Nob w w' :=
 (o0H mQ .one k hk w).mono fun _ _ ⟨h, hf⟩ => ⟨h.trans (by rw [m0A]), hf⟩
theorem z0l (x : Zq) (w : World) : Calls Tryz.prog 220 #[i4 (eQ x)] w fun e w' => e = .returned (.bool (decide (x = 0))) ∧ Fr Nob w w' :=
 q0D mQ v0W x.val _ (by
  rw [t0N, Nat.mod_eq_of_lt x.isLt]
  by_cases h : x = 0
  ·subst h; rfl
  ·have h0 : ¬ x.val = 0 := fun h1 => h (Fin.ext h1)
   rw [decide_eq_false h]
   simpa using h0) w
noncomputable def bZ (x : Zq) : List UInt8 := b0b x.val
theorem i0Q (x : Zq) : (bZ x).length = 32 := by unfold bZ; exact b0H _
theorem x0a (x : Zq) (w : World) : Calls Tryz.prog 119 #[i4 (eQ x)] w fun e w' => ∃ v, e = .returned v ∧ OwnB1 w w' v (bZ x) ∧ Fr Nob w w' :=
 (i0D mQ .one x.val w).mono fun _ _ ⟨v, h, ho, hf⟩ => ⟨v, h, OwnB1.of (by rw [t0N, Nat.mod_eq_of_lt x.isLt] at ho; exact ho) (i0Q x), hf⟩
noncomputable def qC (xs : List Zq) : List Value := xs.flatMap fun x => cw 4 (eQ x)
theorem A0q (xs : List Zq) : qC xs = b0t (xs.map (·.val)) := by
 unfold qC b0t
 rw [List.flatMap_map]
 rfl
theorem l0d (xs : List Zq) : (qC xs).length = xs.length * 4 := by rw [A0q, o0V, List.length_map]
theorem m0B (xs : List Zq) (x : Zq) : qC (xs ++ [x]) = qC xs ++ cw 4 (eQ x) := by
 unfold qC
 rw [List.flatMap_append]
 simp
theorem z0m (xs : List Zq) (j : Nat) (hj : j < xs.length) : ((qC xs).drop (j * 4)).take 4 = cw 4 (eQ (xs[j]'hj)) := by
 rw [A0q, f0Y _ j (by rw [List.length_map]; exact hj), List.getElem_map]
 rfl
theorem B0b (xs : List Zq) : zB (xs.map (·.val)) = xs.map bZ := by
 unfold zB
 rw [List.map_map]
 refine List.map_congr_left fun x _ => ?_
 show b0b (x.val % mQ.M) = b0b x.val
 rw [t0N, Nat.mod_eq_of_lt x.isLt]
theorem t0O (al : Option Addr) (c : Nat) (xs : List Zq) (w : World) (hv : Rd w al (xs.length * 4) (qC xs)) (hn : xs.length ≤ 100000) :
  Calls Tryz.prog 122 #[.slice al xs.length c] w fun e w' => ∃ v, e = .returned v ∧ SOwn w' w.heap.size v (xs.map bZ) ∧ Fr Nob w w' := by
 have h := t0L al c (xs.map (·.val)) w (by rw [List.length_map, ← A0q]; exact hv) (by rw [List.length_map]; exact hn)
 rw [List.length_map, B0b] at h
 exact h
end Go.Proofs.YtpfimiajoifjaaaGreat
namespace Go.Mv
open Go.RowKit
def PartO (w : World) (X : Nat → Prop) (v : Value) (l : List UInt8) : Prop := ∃ a n c, v = .slice a n c ∧ n ≤ c ∧ RdB w a n l ∧ (n = 0 ∨ ∀ x, a = some x → ¬ X x.block)
theorem PartO.keep {w w' : World} {X S : Nat → Prop} {v : Value} {l : List UInt8} (h : PartO w X v l) (hf : Fr S w w') (hs : ∀ k, S k → X k) : PartO w' X v l := by
 obtain ⟨a, n, c, rfl, hc, hr, ho⟩ := h
 refine ⟨a, n, c, rfl, hc, ?_, ho⟩
 refine ⟨hr.1, ?_⟩
 rcases hr.2 with h0 | ⟨b, o, rfl, hat⟩
 ·exact .inl h0
 ·rcases ho with h0 | ho
  ·exact .inl h0
  ·exact .inr ⟨b, o, rfl, fun i v hv => hf.cell (fun hb => ho _ rfl (hs _ hb)) (hat i v hv)⟩
theorem PartO.still {w w' : World} {X : Nat → Prop} {v : Value} {l : List UInt8} (h : PartO w X v l) (hf : Fr Nob w w') : PartO w' X v l := h.keep hf fun _ t => t.elim
theorem PartO.less {w : World} {X Y : Nat → Prop} {v : Value} {l : List UInt8} (h : PartO w X v l) (hs : ∀ k, k < w.heap.size → Y k → X k) : PartO w Y v l := by
 obtain ⟨a, n, c, rfl, hc, hr, ho⟩ := h
 refine ⟨a, n, c, rfl, hc, hr, ?_⟩
 rcases Nat.eq_zero_or_pos n with h0 | h0
 ·exact .inl h0
 ·rcases ho with h1 | ho
  ·exact .inl h1
  ·rcases hr.2 with h1 | ⟨b, o, rfl, hat⟩
   ·exact .inl h1
   ·refine .inr fun x hx hy => ho x hx (hs _ ?_ hy)
    have hl := hr.1
    obtain ⟨v0, hv0⟩ : ∃ v0, (bs l)[0]? = some v0 := ⟨_, List.getElem?_eq_getElem ap1⟩
    have := hat 0 v0 hv0
    cases hx
    unfold World.cell? at this
    by_cases hb : b < w.heap.size
    ·exact hb
    ·have hge : w.heap.size ≤ b := by omega
     simp [Array.getElem?_eq_none hge] at this
def PartsO (w : World) (X : Nat → Prop) : List Value → List (List UInt8) → Prop
 | [], [] => True
 | v :: vs, l :: ls => PartO w X v l ∧ PartsO w X vs ls
 | _, _ => False
theorem PartsO.keep {w w' : World} {X S : Nat → Prop} (hf : Fr S w w') (hs : ∀ k, S k → X k) : ∀ {vs : List Value} {ls : List (List UInt8)}, PartsO w X vs ls → PartsO w' X vs ls
 | [], [], _ => trivial
 | _ :: _, _ :: _, h => ⟨h.1.keep hf hs, PartsO.keep hf hs h.2⟩
 | [], _ :: _, h => h
 | _ :: _, [], h => h
theorem PartsO.less {w : World} {X Y : Nat → Prop} (hs : ∀ k, k < w.heap.size → Y k → X k) : ∀ {vs : List Value} {ls : List (List UInt8)}, PartsO w X vs ls → PartsO w Y vs ls
 | [], [], _ => trivial
 | _ :: _, _ :: _, h => ⟨h.1.less hs, PartsO.less hs h.2⟩
 | [], _ :: _, h => h
 | _ :: _, [], h => h
theorem PartsO.len {w : World} {X : Nat → Prop} : ∀ {vs : List Value} {ls : List (List UInt8)}, PartsO w X vs ls → vs.length = ls.length
 | [], [], _ => rfl
 | _ :: _, _ :: _, h => by rw [List.length_cons, List.length_cons, PartsO.len h.2]
 | [], _ :: _, h => h.elim
 | _ :: _, [], h => h.elim
theorem PartsO.snoc {w : World} {X : Nat → Prop} {v : Value} {l : List UInt8} (hv : PartO w X v l) : ∀ {vs : List Value} {ls : List (List UInt8)}, PartsO w X vs ls → PartsO w X (vs ++ [v]) (ls ++ [l])
 | [], [], _ => ⟨hv, trivial⟩
 | _ :: _, _ :: _, h => ⟨h.1, PartsO.snoc hv h.2⟩
 | [], _ :: _, h => h.elim
 | _ :: _, [], h => h.elim
structure OwX (w : World) (X Y : Nat → Prop) (l : List Ox) : Prop where
 os : OwS w 0 Y l
 inX : ∀ x ∈ l, ∀ k, b0g x.v k → X k
 up : ∀ j, w.heap.size ≤ j → X j
theorem OwX.still {w w' : World} {X Y : Nat → Prop} {l : List Ox} (h : OwX w X Y l) (hf : Fr Nob w w') : OwX w' X Y l := ⟨h.os.still hf, h.inX, fun j hj => h.up j (Nat.le_trans hf.size hj)⟩
section
variable {P : Program} {w : World} {ops : Array Oper} {rest : List Oper} {o : Oper} {a : Act} {Q : Exit → Act → World → Prop} {X Y : Nat → Prop} {l : List Ox}
end
structure SumW (T Tz Tb : TypeId) (k : Nat) (w : World) (X : Nat → Prop) (g n1 : Nat) (L1 : List Value) (lp : List (List UInt8)) : Prop where
 ex : ∃ v1 v2 vs, Has w g [v1, v2] T ∧ OwX w X (One g) [⟨v1, Tz, k, n1, L1⟩, ⟨v2, Tb, 1, lp.length, vs⟩] ∧ X g ∧ PartsO w X vs lp
variable {T Tz Tb : TypeId} {k : Nat} {w w' : World} {X : Nat → Prop} {g n1 : Nat} {L1 : List Value} {lp : List (List UInt8)}
theorem SumW.up (h : SumW T Tz Tb k w X g n1 L1 lp) : ∀ j, w.heap.size ≤ j → X j := by obtain ⟨v1, v2, vs, h1, h2, h3, h4⟩ := h; exact h2.up
theorem SumW.still (h : SumW T Tz Tb k w X g n1 L1 lp) (hf : Fr Nob w w') : SumW T Tz Tb k w' X g n1 L1 lp := by
 obtain ⟨v1, v2, vs, h1, h2, h3, h4⟩ := h
 exact ⟨v1, v2, vs, h1.keep hf (fun t => t.elim), h2.still hf, h3, h4.keep hf fun _ t => t.elim⟩
theorem SumW.rebase (h : SumW T Tz Tb k w X g n1 L1 lp) (hf : Fr Nob w w') : SumW T Tz Tb k w' (fun j => (X j ∧ j < w.heap.size) ∨ w'.heap.size ≤ j) g n1 L1 lp := by
 obtain ⟨v1, v2, vs, h1, h2, h3, h4⟩ := h
 refine ⟨v1, v2, vs, h1.keep hf (fun t => t.elim), ⟨h2.os.still hf, fun x hx j hj => .inl ⟨h2.inX x hx j hj, ((h2.os.own x hx).lt hj).2⟩, fun j hj => .inr hj⟩, .inl ⟨h3, h1.lt⟩, ?_⟩
 have h8 : PartsO w (fun j => (X j ∧ j < w.heap.size) ∨ w'.heap.size ≤ j) vs lp := h4.less fun j hj hx => by
  rcases hx with hx | hx
  ·exact hx.1
  ·have := hf.size
   omega
 exact h8.keep hf fun _ t => t.elim
theorem SumW.zero (hg : Has w g [.slice none 0 0, .slice none 0 0] T) {b : Nat} (hb : b ≤ g) (hw : b ≤ w.heap.size) : SumW T Tz Tb k w (fun j => b ≤ j) g 0 [] [] := by
 refine ⟨.slice none 0 0, .slice none 0 0, [], hg, ⟨⟨fun x hx => ?_, fun x hx j hj => ?_, ?_, fun j hj => ?_⟩, fun x hx j hj => ?_, fun j hj => Nat.le_trans hw hj⟩, hb, trivial⟩
 ·rcases List.mem_cons.1 hx with rfl | hx
  ·exact Own.nil _ _ _ _
  ·rw [List.mem_singleton.1 hx]; exact Own.nil _ _ _ _
 ·rcases List.mem_cons.1 hx with rfl | hx
  ·simp [b0g, Value.ownBlock] at hj
  ·rw [List.mem_singleton.1 hx] at hj; simp [b0g, Value.ownBlock] at hj
 ·refine List.Pairwise.cons (fun b hb j hj => ?_) (List.pairwise_singleton _ _)
  simp [b0g, Value.ownBlock] at hj
 ·have e : j = g := hj
  subst e; exact hg.lt
 ·rcases List.mem_cons.1 hx with rfl | hx
  ·simp [b0g, Value.ownBlock] at hj
  ·rw [List.mem_singleton.1 hx] at hj; simp [b0g, Value.ownBlock] at hj
theorem SumW.back {w2 w3 : World} {q1 q2 v : Value} {vs cs : List Value} {l : List UInt8} (hx : OwX w2 X (One g) [⟨q1, Tz, k, n1 + 1, L1 ++ cs⟩, ⟨q2, Tb, 1, lp.length + 1, vs ++ [v]⟩]) (hg : Has w3 g [q1, q2] T) (hf : Fr (One g) w2 w3) (hX : X g) (hp : PartsO w3 X vs lp) (hv : PartO w3 X v l) :
  SumW T Tz Tb k w3 X g (n1 + 1) (L1 ++ cs) (lp ++ [l]) := by
 have e : (lp ++ [l]).length = lp.length + 1 := by rw [List.length_append, List.length_singleton]
 refine ⟨q1, q2, vs ++ [v], hg, ?_, hX, PartsO.snoc hv hp⟩
 rw [e]
 exact ⟨hx.os.keep hf fun j hj => hj, hx.inX, fun j hj => hx.up j (Nat.le_trans hf.size hj)⟩
end Go.Mv
namespace Mvq
def gp (x : Zq) : Pt := a0R x.val hP
theorem z0n (x : Zq) : onC (gp x) := a0N b0W _
theorem A0r {p : Pt} (hp : onC p) : gp (dl p) = p := (h0G hp).symm
theorem z0o (x : Zq) : dl (gp x) = x := by unfold gp; rw [j0J, e0Z]
def wrQ (x : Zq) : List UInt8 := c0m (gp x)
theorem d0U (x : Zq) : (wrQ x).length = 33 := f0z _
theorem f0F (x : Zq) : b0s (wrQ x) = true := (y0H (z0n x)).1
theorem z0p (x : Zq) : c0Q (wrQ x) = gp x := (y0H (z0n x)).2
noncomputable def ptQ (l : List UInt8) : Zq := dl (c0Q l)
theorem i0R (x : Zq) : ptQ (wrQ x) = x := by unfold ptQ; rw [z0p, z0o]
theorem v0b {p : Pt} (hp : onC p) : c0m p = wrQ (dl p) := by unfold wrQ; rw [A0r hp]
theorem n0J (x : Zq) : ((wrQ x).getD 0 0 = 0) ↔ x = 0 := by
 have hO : gp 0 = .O := rfl
 constructor
 ·intro h
  have : gp x = .O := by
   unfold wrQ at h
   generalize gp x = p at h
   cases p with
   | O => rfl
   | A a b =>
    exfalso
    simp only [c0m, List.getD_cons_zero] at h
    have h2 : b.val % 2 < 2 := Nat.mod_lt _ ap2
    have := congrArg UInt8.toNat h
    simp at this
    omega
  rw [← z0o x, this, A0K]
 ·rintro rfl
  unfold wrQ
  rw [hO]
  rfl
theorem r0G : ∀ (xs : List Nat) (ps : List Pt), xs.length = ps.length → (∀ p ∈ ps, onC p) → dl (e0F (List.zipWith (fun x p => (x, p)) xs ps)) = b0n (xs.map zq) (ps.map dl)
 | [], [], _, _ => A0K
 | x :: xs, p :: ps, h, hp => by
  have h1 := hp p ap4
  have ih := r0G xs ps (by simpa using h) (fun q hq => hp q (by simp [hq]))
  have hon : onC (e0F (List.zipWith (fun x p => (x, p)) xs ps)) := e0X _ (fun t ht => by
   obtain ⟨a, b, -, hb⟩ : ∃ a b, a ∈ xs ∧ b ∈ ps ∧ t = (a, b) := by
    rw [List.mem_iff_getElem?] at ht
    obtain ⟨i, hi⟩ := ht
    rw [List.getElem?_zipWith] at hi
    cases h1 : xs[i]? with
    | none => rw [h1] at hi; simp at hi
    | some a =>
     cases h2 : ps[i]? with
     | none => rw [h1, h2] at hi; simp at hi
     | some b =>
      rw [h1, h2] at hi
      simp only [Option.some.injEq] at hi
      exact ⟨a, b, List.mem_of_getElem? h1, List.mem_of_getElem? h2, hi.symm⟩
   exact hb.2 ▸ hp b (by simp [hb.1]))
  show dl (a0V (a0R x p) (e0F (List.zipWith (fun x p => (x, p)) xs ps))) = zq x * dl p + b0n (xs.map zq) (ps.map dl)
  rw [z0c (a0N h1 x) hon, z0d h1, ih]
end Mvq
namespace Mvq
def z0q (n : Nat) (a b u : Zq) (xs lr : List (Zq × Zq)) (g h own : Nat → Zq) (mid : Zq) : Zq :=
 lrZ xs lr + i0O n (fun i => - (a * c0a xs i) * g i) + i0O n (fun i => - (b * c0a (b0X xs) i * own i) * h i) + - (a * b * u) * mid
theorem j0N (a : Zq) (f g : Nat → Zq) : ∀ n, (i0O n fun i => - (a * f i) * g i) = - (a * i0O n fun i => f i * g i)
 | 0 => by show (0 : Zq) = - (a * 0); grind -lia -linarith
 | n + 1 => by
  show i0O n _ + _ = - (a * (i0O n _ + _))
  rw [j0N a f g n]
  grind -lia -linarith
theorem x0b (a b u : Zq) (xs lr : List (Zq × Zq)) (g h own : Nat → Zq) (mid : Zq) (n : Nat) (hn : n = 2 ^ xs.length) :
  z0q n a b u xs lr g h own mid = lrZ xs lr - (a * b0n (j0L xs) (lsZ n g) + b * b0n (j0L (b0X xs)) (lsZ n fun i => own i * h i) + a * b * (u * mid)) := by
 subst hn
 unfold z0q
 have e1 := n0I xs g
 have e2 := n0I (b0X xs) (fun i => own i * h i)
 rw [h0K] at e2
 rw [e1, e2, j0N]
 have e3 : (i0O (2 ^ xs.length) fun i => - (b * c0a (b0X xs) i * own i) * h i) = - (b * i0O (2 ^ xs.length) fun i => c0a (b0X xs) i * (own i * h i)) := by
  rw [← j0N]
  refine i0P _ fun i _ => ?_
  grind -lia -linarith
 rw [e3]
 generalize i0O _ _ = p; generalize i0O _ _ = q; generalize lrZ xs lr = r
 grind -lia -linarith
section
variable {σ : Type} (ch : σ → Zq → Zq → Zq × σ) (iv : Zq → Zq)
theorem l0e (hiv : ∀ st l r, (ch st l r).1 * iv (ch st l r).1 = 1) (k : Nat) (st : σ) (a b : List Zq) (g h own : Nat → Zq) (u mid : Zq) (ha : a.length = 2 ^ k) (hb : b.length = 2 ^ k) (p : List (Zq × Zq) × Zq × Zq)
  (hp : b0d ch iv k st a b (lsZ (2 ^ k) g) (lsZ (2 ^ k) fun i => own i * h i) (u * mid) = p) :
  j0K a b (lsZ (2 ^ k) g) (lsZ (2 ^ k) fun i => own i * h i) (u * mid) + z0q (2 ^ k) p.2.1 p.2.2 u (i0N ch iv st p.1) p.1 g h own mid = 0 := by
 subst hp
 have h1 := h0I ch iv hiv k st a b (lsZ (2 ^ k) g) (lsZ (2 ^ k) fun i => own i * h i) (u * mid) ha hb (a0O _ _) (a0O _ _)
 have hl := e0C ch iv k st a b (lsZ (2 ^ k) g) (lsZ (2 ^ k) fun i => own i * h i) (u * mid)
 generalize b0d ch iv k st a b (lsZ (2 ^ k) g) (lsZ (2 ^ k) fun i => own i * h i) (u * mid) = p at *
 rw [x0b _ _ _ _ _ _ _ _ _ _ (by rw [g0N, hl])]
 generalize j0K a b _ _ _ = K0 at *
 generalize lrZ _ _ = M0 at *
 grind -lia -linarith
end
end Mvq
namespace Mvq
end Mvq
namespace Mvq
def rdN (xs : List (Zq × Zq)) : List Zq := xs.flatMap fun p => [p.1 * p.1, p.2 * p.2]
def rdP (lr : List (Zq × Zq)) : List Zq := lr.flatMap fun p => [p.1, p.2]
theorem h0L (xs : List (Zq × Zq)) : (rdN xs).length = 2 * xs.length := by
 induction xs with
 | nil => rfl
 | cons x xs ih =>
  unfold rdN at *
  rw [List.flatMap_cons, List.length_append, ih]
  simp only [List.length_cons, List.length_nil]
  omega
theorem x0c (lr : List (Zq × Zq)) : (rdP lr).length = 2 * lr.length := by
 induction lr with
 | nil => rfl
 | cons x xs ih =>
  unfold rdP at *
  rw [List.flatMap_cons, List.length_append, ih]
  simp only [List.length_cons, List.length_nil]
  omega
theorem v0c : ∀ (xs lr : List (Zq × Zq)), xs.length = lr.length → b0n (rdN xs) (rdP lr) = lrZ xs lr
 | [], [], _ => rfl
 | (x, y) :: xs, (l, r) :: lr, h => by
  have := v0c xs lr (by simpa using h)
  show x * x * l + (y * y * r + b0n (rdN xs) (rdP lr)) = x * x * l + y * y * r + lrZ xs lr
  rw [this]
  grind -lia -linarith
def ckN (n : Nat) (a b u : Zq) (xs : List (Zq × Zq)) (own : Nat → Zq) : List Zq :=
 rdN xs ++ (lsZ n (fun i => - (a * c0a xs i)) ++ (lsZ n (fun i => - (b * c0a (b0X xs) i * own i)) ++ [- (a * b * u)]))
def ckP (n : Nat) (lr : List (Zq × Zq)) (g h : Nat → Zq) (mid : Zq) : List Zq := rdP lr ++ (lsZ n g ++ (lsZ n h ++ [mid]))
theorem z0r (n : Nat) (a b u : Zq) (xs lr : List (Zq × Zq)) (g h own : Nat → Zq) (mid : Zq) (hl : xs.length = lr.length) : b0n (ckN n a b u xs own) (ckP n lr g h mid) = z0q n a b u xs lr g h own mid := by
 unfold ckN ckP z0q
 rw [c0i _ _ _ _ (by rw [h0L, x0c, hl]), c0i _ _ _ _ (by rw [a0O, a0O]), c0i _ _ _ _ (by rw [a0O, a0O]), v0c xs lr hl, j0M, j0M]
 show _ + (_ + (_ + (_ * mid + 0))) = _
 generalize lrZ xs lr = p; generalize i0O _ _ = q; generalize i0O _ _ = r
 grind -lia -linarith
end Mvq
namespace Go.Proofs.YtpfimiajoifjaaaGreat
open Go.RowKit Go.Mv Mvp Mvq
def h0M : List UInt8 := [112, 111, 105, 110, 116, 32]
def hB (label b : List UInt8) (i : Nat) : List UInt8 := c0n (h0M ++ label) [b, [UInt8.ofNat i]]
def hN (label b : List UInt8) (i : Nat) : Nat := beN (hB label b i)
theorem A0s {n : Nat} (h : b0J mP.M (e0f n) = true) : onC (.A (kc n) (kc (atY mP.M n))) := by
 rw [A0I n h]
 rw [d0b] at h
 exact y0F h
open Classical in
noncomputable def f0G (label b : List UInt8) (i : Nat) : Option PT := if h : hN label b i < mP.M ∧ b0J mP.M (e0f (hN label b i)) = true then some (n0s (hN label b i) (atY mP.M (hN label b i)) (A0s h.2)) else none
theorem n0K {label b : List UInt8} {i n : Nat} (hn : hN label b i = n) (h : ¬ (n < mP.M ∧ b0J mP.M (e0f n) = true)) : f0G label b i = none := by
 subst hn; unfold f0G; rw [dif_neg h]
theorem r0H {label b : List UInt8} {i n : Nat} (hn : hN label b i = n) (h1 : n < mP.M) (h2 : b0J mP.M (e0f n) = true) : f0G label b i = some (n0s n (atY mP.M n) (A0s h2)) := by
 subst hn; unfold f0G; rw [dif_pos ⟨h1, h2⟩]
noncomputable def d0n (label b : List UInt8) (k : Nat) : List PT := (List.range k).filterMap (f0G label b)
theorem o0X (label b : List UInt8) : d0n label b 0 = [] := rfl
theorem j0O {label b : List UInt8} {k : Nat} (h : f0G label b k = none) : d0n label b (k + 1) = d0n label b k := by
 unfold d0n; rw [List.range_succ, List.filterMap_append]; simp [h]
theorem h0N {label b : List UInt8} {k : Nat} {x : PT} (h : f0G label b k = some x) : d0n label b (k + 1) = d0n label b k ++ [x] := by
 unfold d0n; rw [List.range_succ, List.filterMap_append]; simp [h]
theorem r0I (label b : List UInt8) (k : Nat) : (d0n label b k).length ≤ k := by
 unfold d0n
 exact Nat.le_trans (List.length_filterMap_le _ _) ap4
theorem o0Y (label b : List UInt8) (k j : Nat) : ∃ l, d0n label b (k + j) = d0n label b k ++ l := by
 induction j with
 | zero => exact ⟨[], by simp⟩
 | succ j ih =>
  obtain ⟨l, hl⟩ := ih
  cases h : f0G label b (k + j) with
  | none => exact ⟨l, by rw [← Nat.add_assoc, j0O h, hl]⟩
  | some x => exact ⟨l ++ [x], by rw [← Nat.add_assoc, h0N h, hl, List.append_assoc]⟩
noncomputable def c0G (label b : List UInt8) : PT := ((d0n label b 256).head?).getD q0X
theorem o0Z {label b : List UInt8} (h : d0n label b 256 = []) : c0G label b = q0X := by unfold c0G; rw [h]; rfl
theorem p0a {label b : List UInt8} {k : Nat} {x : PT} (hk : k < 256) (h : f0G label b k = some x) (h0 : d0n label b k = []) : c0G label b = x := by
 obtain ⟨l, hl⟩ := o0Y label b (k + 1) (256 - (k + 1))
 rw [show k + 1 + (256 - (k + 1)) = 256 by omega, h0N h, h0] at hl
 unfold c0G
 rw [hl]
 rfl
theorem h0O (w : World) : Calls Tryz.prog 108 #[] w fun e w' => ∃ y : Nat × Nat, e = .returned (.pointer (some ⟨y.1, 0, none⟩)) ∧ (Has w' y.1 (d0v mP y.2 gXn gYn) 184 ∧ Has w' y.2 (mdL mP) 234) ∧ Fr Nob w w' := by
 refine (f0B w).mono ?_
 rintro e w' ⟨gc, k1, _, ⟨gp, h1, h2⟩, k3⟩
 exact ⟨(gc, gp), k1, ⟨h1, h2⟩, k3⟩
theorem g0c {w : World} {g : Nat} {L : List Value} {T : TypeId} (hg : Has w g L T) {o : Oper} {a : Act} {ty : TypeId} {x : Operand} (ho : o.op = .load ty x) {p : Nat} (hx : a.eval x = .pointer (some ⟨g, p, none⟩)) (cs : List Value) (hc : (L.drop p).take cs.length = cs)
  {d : TypeDesc} (hu : Tryz.prog.underlying ty = some d) (hd : d.isRow = true) (hi : (Tryz.prog.info? ty).map (·.size) = some cs.length) : (execOp a.eval o).run Tryz.prog w = .ok (.value (.agg cs.toArray)) w := by
 unfold execOp
 simp only [ho, hx, Instr.loadAt, Instr.sureAddr, Sem.run_bind, Sem.run_pure, Result.andThen_ok, run_loadVar_mid w g p ty cs d (hg.range p cs hc) hu hd hi]
theorem x0d (label : ByteArray) : (⟨#[112, 111, 105, 110, 116, 32]⟩ : ByteArray) ++ label = mkS (h0M ++ label.data.toList) := by
 have : (⟨#[112, 111, 105, 110, 116, 32]⟩ : ByteArray) = mkS h0M := rfl
 rw [this]
 conv => lhs; rw [← m0N label]
 exact o0s _ _
end Go.Proofs.YtpfimiajoifjaaaGreat
namespace Go.Mv
open Go.RowKit
section
variable {P : Program} {w w0 : World} {o : Oper} {a : Act} {S : Nat → Prop} {bl : List (Nat × List Value × TypeId)} {K : Act → World → Prop} {Q : Exit → Act → World → Prop}
end
end Go.Mv
namespace Go.Proofs.YtpfimiajoifjaaaGreat
open Go.RowKit Go.Mv Mvp Mvq
attribute [local irreducible] a0v lw mix cw b0e b0f b0a beN b0l b0b a0z a0F elN mdL b0m rtV b0J c0m b0s c0Q a0D c0z e0H e0I a0R a0T b0c toB a0u a0w a0Y a0E b0Z a0S a0x c0n b0t tS
end Go.Proofs.YtpfimiajoifjaaaGreat
namespace Go.Mv
open Go.RowKit
section
variable {P : Program} {ops : Array Oper} {md : Region.Mode} {Q : Exit → Act → World → Prop} {m : Nat} {S : Nat → Prop} {w0 : World} {tl : Pl}
def j0P (l : List Nat) (x : Nat → Value) : Nat → Value := fun k => if l.contains k then x k else undef
def Apd (ops : Array Oper) (s : List Nat) : Prop := ∀ j ∈ s, ∀ k ∈ s, j ≠ k → ∀ oj ok, ops[j]? = some oj → ops[k]? = some ok → ok.dst ≠ oj.dst ∨ ok.dst = none
theorem Apd.tail {i : Nat} {s : List Nat} (h : Apd ops (i :: s)) : Apd ops s := fun j hj k hk => h j (List.mem_cons_of_mem _ hj) k (List.mem_cons_of_mem _ hk)
def Obl (P : Program) (ops : Array Oper) (Q : Exit → Act → World → Prop) (G : World → Prop) (A : (Nat → Value) → Act) (pre : Nat → List Nat) (Φ : Nat → (Nat → Value) → World → Prop) (i : Nat) (o : Oper) : Bool → Prop
 | false => ∀ x w, G w → (∀ j ∈ pre i, Φ j (j0P (j :: pre j) x) w) → (Region.wanted o (yielded ops (A x).tmps) = true ∧ o.wp P (A x) w (fun a' w' => ∃ v, a' = (A x).put o.dst v ∧ Fr Nob w w' ∧ Φ i (j0P (i :: pre i) (upd x i v)) w') Q) ∨ (Region.wanted o (yielded ops (A x).tmps) = false ∧ Φ i (j0P (i :: pre i) (upd x i undef)) w)
 | true => ∀ x w, G w → (∀ j ∈ pre i, Φ j (j0P (j :: pre j) x) w) → Region.wanted o (yielded ops (A x).tmps) = true ∧ ∃ v, (∀ wx, (execOp (A x).eval o).run P wx = .ok (.value v) wx) ∧ Φ i (j0P (i :: pre i) (upd x i v)) w
def Obls (P : Program) (ops : Array Oper) (Q : Exit → Act → World → Prop) (G : World → Prop) (A : (Nat → Value) → Act) (pre : Nat → List Nat) (Φ : Nat → (Nat → Value) → World → Prop) (Lz : List Nat) : List Nat → Prop
 | [] => True
 | i :: s => ((∀ o, ops[i]? = some o → Obl P ops Q G A pre Φ i o (Lz.contains i)) ∧
   ∀ y w w', Φ i (j0P (i :: pre i) y) w → Fr Nob w w' → Φ i (j0P (i :: pre i) y) w') ∧ Obls P ops Q G A pre Φ Lz s
theorem Obls.at {G : World → Prop} {A : (Nat → Value) → Act} {pre : Nat → List Nat} {Φ : Nat → (Nat → Value) → World → Prop} {Lz : List Nat} : ∀ {s : List Nat}, Obls P ops Q G A pre Φ Lz s → ∀ i ∈ s, (∀ o, ops[i]? = some o → Obl P ops Q G A pre Φ i o (Lz.contains i)) ∧
      ∀ y w w', Φ i (j0P (i :: pre i) y) w → Fr Nob w w' → Φ i (j0P (i :: pre i) y) w'
  | [], _, _, h => by cases h
  | _ :: _, h, i, hi => by
    rcases List.mem_cons.1 hi with rfl | hi
    · exact h.1
    · exact Obls.at h.2 i hi
variable {o : Oper} {a : Act} {w : World} {Ψ : Value → World → Prop}
end
end Go.Mv
namespace Go.Mv
open Go.RowKit Go.ChangeShapes Go.WideShapes
theorem Below.trodAll {H : Type} {enc : TypeId × Value → H} {P : Program} (hl : laidOutB P = true) {W W' : World} (hb : Below W.heap.size W W') :
  ∀ (ts : List TypeId) (vs : List Value) (ds : List (DataW H)) (ps : List MemPlace), (∀ t ∈ ts, P.readableRec t = true ∧ t < P.types.size) → DataW.TrodAll enc P W 0 (fun _ => true) true ts vs ds ps → (∀ x ∈ ps, x.block < W.heap.size) →
   DataW.TrodAll enc P W' 0 (fun b => decide (b < W.heap.size)) true ts vs ds ps
 | [], vs, ds, ps, _, h, _ => by
  obtain ⟨rfl, rfl, rfl⟩ := trodAll_nil h
  exact trodAll_mk0
 | t :: ts, vs, ds, ps, hr, h, hlt => by
  obtain ⟨v, vs', d, ds', p, q, rfl, rfl, rfl, h0, hs⟩ := trodAll_cons h
  have h1 := hr t ap4
  exact trodAll_cons_mk (Below.trod hl h1.1 h1.2 h0 hb (fun x hx => hlt x (by simp [hx]))) (Below.trodAll hl hb ts vs' ds' q (fun t ht => hr t (by simp [ht])) hs (fun x hx => hlt x (by simp [hx])))
theorem t0P {H : Type} {enc : TypeId × Value → H} {P : Program} {f : Func} {s : ChangeSpec} {W W' : World} {args : Array Value} {ds gs : List (DataW H)} {before : List MemPlace}
  (hl : laidOutB P = true) (hr : ∀ t ∈ f.params.toList, P.readableRec t = true ∧ t < P.types.size) (hW : DataW.Whole enc P f.params.toList s.vars false W args.toList ds gs before)
  (hv : s.vars = []) (hres : (s.fn H (ds ++ gs)).results = [.lit (.bool true)]) (harg : (s.fn H (ds ++ gs)).args = ds) (hvar : (s.fn H (ds ++ gs)).vars = [])
  {tb : TypeId} (hrt : f.resultTypes = #[tb]) (hu : P.underlying tb = some .bool) (hf : Fr Nob W W') :
  s.post enc P f false true false false W args (.bool true) W' := by
 have hW' := hW
 obtain ⟨p, q, hA, hV, rfl, hfz, hnd⟩ := hW
 rw [hv] at hV
 obtain ⟨rfl, rfl⟩ := trodVars_none hV
 have hlt : ∀ x ∈ p ++ [], x.block < W.heap.size := fun x hx => hW'.lt x hx
 refine ⟨ds, [], p ++ [], [], p, [], hW', ?_, ?_, ?_, World.keptBut_mono (fun x hx => ⟨hx, ?_⟩) (hf.below.frame (· ∈ p ++ [])), fun h => by cases h⟩
 ·rw [hres, hrt]
  exact trodAll_mk1 (shut_bool hu true)
 ·rw [harg]
  exact Below.trodAll hl hf.below _ _ _ _ hr hA (fun x hx => hlt x (by simp [hx]))
 ·rw [hvar, hv]; exact rfl
 ·simp only [List.append_nil] at hx
  exact .inr (.inl hx)
end Go.Mv
namespace Go.Proofs.YtpfimiajoifjaaaGreat
section
open Go.RowKit Go.Mv Mvp Mvq
attribute [local irreducible] a0v lw mix cw b0e b0f b0a beN b0l b0b a0z a0F elN mdL b0m rtV b0J c0m b0s c0Q a0D c0z e0H e0I a0R a0T b0c toB a0u a0w a0Y a0E b0Z a0S a0x c0n b0t tS
end
section
open Go.RowKit Go.Mv Mvp Mvq
attribute [local irreducible] a0v lw mix cw b0e b0f b0a beN b0l b0b a0z a0F elN mdL b0m rtV b0J c0m b0s c0Q a0D c0z e0H e0I a0R a0T b0c toB a0u a0w a0Y a0E b0Z a0S a0x c0n b0t tS e0F
theorem BParts.three {w : World} {v1 v2 v3 : Value} {l1 l2 l3 : List UInt8} (h1 : BPart w v1 l1) (h2 : BPart w v2 l2) (h3 : BPart w v3 l3) : BParts w [v1, v2, v3] [l1, l2, l3] := ⟨rfl, fun i x hx => by
 match i with
 | 0 => simp at hx; subst hx; exact h1
 | 1 => simp at hx; subst hx; exact h2
 | 2 => simp at hx; subst hx; exact h3
 | i + 3 => simp at hx⟩
end
section
open Go.RowKit Go.Mv Mvp Mvq
attribute [local irreducible] a0v lw mix cw b0e b0f b0a beN b0l b0b a0z a0F elN mdL b0m rtV b0J c0m b0s c0Q a0D c0z e0H e0I a0R a0T b0c toB a0u a0w a0Y a0E b0Z a0S a0x c0n b0t tS e0F
end
section
open Go.RowKit Go.Mv Mvp Mvq
theorem A0t (al : Option Addr) (n cl : Nat) (vs : List Value) (ls : List (List UInt8)) (w : World) (hv : Rd w al n vs) (hp : BParts w vs ls) (hn : n ≤ 100000) (h : a0D mQ ls = true) :
  Calls Tryz.prog 44 #[.slice al n cl] w fun e w' => ∃ v, e = .returned (.tuple #[v, .bool true]) ∧ Own w' w.heap.size 125 4 v ls.length (a0I mQ ls) ∧ Fr Nob w w' :=
 (r0u mQ .one al n cl vs ls w hv hp hn).mono fun e w' k => by obtain ⟨v, h1, h2⟩ := k.1 h; exact ⟨v, h1, h2, k.2.2⟩
theorem A0u (al : Option Addr) (n cl : Nat) (vs : List Value) (ls : List (List UInt8)) (w : World) (hv : Rd w al n vs) (hp : BParts w vs ls) (hn : n ≤ 100000) (h : a0D mQ ls = false) :
  Calls Tryz.prog 44 #[.slice al n cl] w fun e w' => e = .returned (.tuple #[.slice none 0 0, .bool false]) ∧ Fr Nob w w' :=
 (r0u mQ .one al n cl vs ls w hv hp hn).mono fun _ _ k => ⟨k.2.1 h, k.2.2⟩
attribute [local irreducible] a0v lw mix cw b0e b0f b0a beN b0l b0b a0z a0F elN mdL b0m rtV b0J c0m b0s c0Q a0D c0z e0H e0I a0R a0T b0c toB a0u a0w a0Y a0E b0Z a0S a0x c0n b0t tS e0F a0I
end
end Go.Proofs.YtpfimiajoifjaaaGreat
namespace Go.Mv
open Go.RowKit
variable {P : Program} {ops : Array Oper} {a : Act} {w : World} {rest : List Oper} {Q : Exit → Act → World → Prop} {o : Oper}
theorem l0f {d s : Operand} {t u : TypeId} (hgd : o.guard = none) (ho : o.op = .call { callee := .builtin .copy, args := #[d, s], argTypes := #[t, u] }) {e : TypeId} (ht : P.underlying t = some (.slice e)) (hsz : (P.info? e).map (·.size) = some 1)
  {g off dn dc : Nat} (hd : a.eval d = .slice (some ⟨g, off, none⟩) dn dc) {q : ByteArray} (hs : a.eval s = .string q) {B : List Value} {T : TypeId} (hg : Has w g B T)
  (hfit : off + min q.size dn ≤ B.length)
  (h : ∀ w', Has w' g (splice B off (bs (q.data.toList.take (min q.size dn)))) T → Fr (One g) w w' → w'.heap.size = w.heap.size → wpList P ops Q rest (a.put o.dst (.int .i64 (min q.size dn : Nat))) w') : wpList P ops Q (o :: rest) a w := by
 refine wpList_plain hgd fun K hK => ?_
 obtain ⟨i, hi, hi1⟩ : ∃ i, P.info? e = some i ∧ i.size = 1 := by simpa using hsz
 have hlen : (bs (q.data.toList.take (min q.size dn))).length = min q.size dn := by rw [a0C, List.length_take]; simp
 obtain ⟨w', hst, hh, hf, hz⟩ := b0w (P := P) g off T (bs (q.data.toList.take (min q.size dn))) 0 B w hg (by rw [hlen]; omega) (m0M _)
 simp only [Nat.add_zero] at hh
 have hr : (Builtin.copy_ #[t, u] o.type #[.slice (some ⟨g, off, none⟩) dn dc, .string q]).run P w = .ok (.int .i64 (min q.size dn : Nat)) w' := by
  simp [Builtin.copy_, run_underlying ht, sizeOf, typeInfo, hi, Builtin.lenOf, Builtin.firstCells, x0L, goInt]
  rw [show q.size.min dn = min q.size dn from rfl, e0O, hst]
  rfl
 unfold Oper.wp execOp
 simp only [ho, resolve, invoke, builtin, Sem.run_bind, Sem.run_pure, Result.andThen_ok, List.map_toArray, List.map_cons, List.map_nil, hd, hs, hr]
 exact hK _ _ (h w' hh hf hz)
end Go.Mv
namespace Go.Proofs.YtpfimiajoifjaaaGreat
open Go.RowKit Go.Mv Mvp Mvq
end Go.Proofs.YtpfimiajoifjaaaGreat
namespace Go.Mv
open Go.RowKit Go.ChangeShapes Go.WideShapes
section
variable {H : Type} {enc : TypeId × Value → H} {P : Program} {w : World} {base : Nat} {held : Bool} {spare : Nat → Bool}
def B0c (P : Program) (t : TypeId) (d : DataW H) : Prop := ∀ k ∈ d.weights P t, k ≤ 140737488351232
def Reads (enc : TypeId × Value → H) (P : Program) (w : World) (spare : Nat → Bool) (held : Bool) (t : TypeId) (cs : List Value) : Prop := ∃ n y, DataW.trod enc P w 0 spare held n t cs = some y ∧ B0c P t y.1
theorem Reads.string {t : TypeId} {cs : List Value} (ht : P.underlying t = some .string) (h : Reads enc P w spare held t cs) : ∃ l : List UInt8, cs = [.string (mkS l)] ∧ l.length ≤ 140737488351232 := by
 obtain ⟨n, y, h, hf⟩ := h
 obtain ⟨s, h1, h2, h3⟩ := DataW.trod_string ht h
 refine ⟨s.data.toList, by rw [h1, m0N], ?_⟩
 rw [h2] at hf
 have := hf s.data.toList.length (by simp [DataW.weights])
 simpa using this
theorem Reads.int {t : TypeId} {k : IntKind} {cs : List Value} (ht : P.underlying t = some (.int k)) (h : Reads enc P w spare held t cs) : ∃ n : Int, cs = [.int k n] ∧ (Lit.int k n).wf = true := by
 obtain ⟨n, y, h, hf⟩ := h
 obtain ⟨s, h1, h2, h3⟩ := DataW.trod_int ht h
 exact ⟨s, h1, h3⟩
theorem h0P {ts : List TypeId} {ds : List (DataW H)} {j : Nat} {t : TypeId} {d : DataW H} (ht : ts[j]? = some t) (hd : ds[j]? = some d) : ∀ n ∈ d.weights P t, n ∈ DataW.weightsEach P ts ds := DataW.weights_mem_each ht hd
theorem Reads.struct {t : TypeId} {fs : Array Field} {cs : List Value} (ht : P.underlying t = some (.struct fs)) (h : Reads enc P w spare held t cs) : cs.length = P.cellsOf t ∧ ∀ (i : Nat) (f : Field), fs[i]? = some f → ∀ (u : TypeId) (o k : Nat), f.type = u → f.offset = o → P.cellsOf u = k → Reads enc P w spare held u ((cs.drop o).take k) := by
 obtain ⟨n, y, h, hf⟩ := h
 obtain ⟨xs, m, -, hx, hl, hxl, hi⟩ := DataW.trod_struct ht h
 refine ⟨hl, fun i f hfi u o k hu ho hk => ?_⟩
 subst hu ho hk
 have h1 := hi i f hfi
 have hlt : i < xs.length := by
  rw [hxl]; exact (Array.getElem?_eq_some_iff.1 hfi).1
 rw [List.getElem?_eq_getElem hlt] at h1
 refine ⟨m, _, h1, ?_⟩
 intro k hk
 refine hf k ?_
 rw [hx]
 simp only [DataW.weights, ht]
 exact h0P (j := i) (by simp [hfi]) (by simp [List.getElem?_eq_getElem hlt]) k hk
end
end Go.Mv
