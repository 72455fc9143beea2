/- ; ; ; ; ; ; ; ; ; ; ; ; ; ; ; ; ; ; ; ; ; ; ; ; ; ; ; ; ; ; ; ; ; . -/
import Derived.Test.YtemcankmggmgoaaGreatMgSigmaCompleteProof6
import Derived.Test.YtemcankmggmgoaaGreatMgSigmaCompleteProof3
import Derived.Test.YtemcankmggmgoaaGreatMgSigmaCompleteProof2
import Derived.Test.YtemcankmggmgoaaGreatMgSigmaCompleteProof4
import Derived.Test.YtemcankmggmgoaaGreatMgSigmaCompleteProof5
import Derived.Test.YtemcankmggmgoaaGreatMgSigmaCompleteProof1
import Derived.Lib.SlBytesConst
import Derived.ProofKit
import Derived.OpenShut
import Derived.Carry
set_option maxHeartbeats 16000000
set_option maxRecDepth 1000000

namespace Go.Mv
open Go.RowKit
theorem Has.neT {w : World} {g g' : Nat} {L L' : List Value} {T T' : TypeId} (h : Has w g L T) (k : Has w g' L' T') (hT : T ≠ T') : g ≠ g' := by
 rintro rfl
 obtain ⟨_, _, h1, _⟩ := h
 obtain ⟨_, _, h2, _⟩ := k
 rw [h1] at h2
 simp only [Option.some.injEq, Obj.cells.injEq] at h2
 exact hT h2.2.1
end Go.Mv
namespace Go.Proofs.YtemcankmggmgoaaGreat
open Go.RowKit Go.Mv Mvp Mvq
theorem Cv.keepT {w w' : World} {gc gT : Nat} {L : List Value} (h : Cv w gc) (hT : Has w gT L 147) (hf : Fr (One gT) w w') : Cv w' gc := by
 obtain ⟨gp, h1, h2⟩ := h
 exact ⟨gp, h1.keep hf (fun e => h1.neT hT ap12 e), h2.keep hf (fun e => h2.neT hT ap12 e)⟩
attribute [local irreducible] a0y lw mix cw b0q b0r b0i beN b0x a0Q a0A a0J elN mdL a0N rtN rtV b0S gXn gYn PT.L j0F j0e e0Z tbL tmR tmL dbN g0I g0t g0c dig rdT b0w a0W ptL e0v c0P a0O
theorem m0b (gk : Nat) (al : Option Addr) (n cl : Nat) (vs : List Value) (ls : List (List UInt8)) (w : World) (hv : Rd w al n vs) (hp : BParts w vs ls) (hn : n ≤ 100000) (hg : c0P ls = true) (gT : Nat) (LT : List Value) (hgt : Has w gT LT 147) (t : PT) (hop : ∀ ap cp wx, Fr Nob w wx → Off (One gT) ap → Rd wx ap (ls.length * 12) (e0v ls) → Calls Tryz.prog 181 #[.slice ap ls.length cp, .pointer (some ⟨gk, 0, none⟩)] wx fun e w' => e = .returned (.agg t.L.toArray) ∧ Fr (One gT) wx w') :
  Calls Tryz.prog 84 #[.func (.func 181) #[] #[.pointer (some ⟨gk, 0, none⟩)], .slice al n cl] w fun e w' => ∃ sv, e = .returned (.tuple #[sv, .int .i64 0]) ∧ Own w' w.heap.size 5 1 sv 33 (bs (a0O t.pt)) ∧ Fr (One gT) w w' := by
 have HV := qH hv
 have HP := qH hp
 have HL := qH (show ls.length = n by rw [← hp.1, hv.len])
 have HN := qH hn
 have hnI : (n : Int) ≤ 100000 := by omega
 clear hv hp
 have HOP := qH hop
 have HGA := qH hg
 have HGT := qH hgt
 clear hop hg hgt
 go_enter Tryz.func84, Tryz.ntmps84
 go_wp2
 go_loopw [6, 13] (fun v i wr => ∃ k : Nat, k ≤ n ∧ i = .int .i64 (k : Int) ∧ c0P (ls.take k) = true ∧ Own wr w.heap.size 117 12 v k (e0v (ls.take k)) ∧ Fr Nob w wr) (fun _ i _ => n - (intOf i).toNat)
 case atStart => exact ⟨0, Nat.zero_le _, rfl, by rw [List.take_zero]; unfold c0P; rfl, by rw [List.take_zero]; unfold e0v; exact Own.nil _ _ _ _, Fr.refl _ _⟩
 case round =>
  obtain ⟨k, hk, rfl, hgood, hown, hf⟩ := hrel
  by_cases hlt : k < n
  ·have hltI : (k : Int) < (n : Int) := by omega
   obtain ⟨b, o, rfl, hat⟩ := (HV.out.still hf).at ap13
   have hvl : k < vs.length := by rw [HV.out.len]; exact hlt
   obtain ⟨a, nn, c, hve, hcc, hrd⟩ := HP.out.2 k (vs[k]'hvl) (List.getElem?_eq_getElem hvl)
   have hc1 := hat k _ (List.getElem?_eq_getElem hvl)
   rw [hve] at hc1
   have hlk : k < ls.length := by rw [HL.out]; exact hlt
   have hts := f0P ls k hlk
   have hcs : e0v (ls.take (k + 1)) = e0v (ls.take k) ++ (rdT (ls.getD k [])).L := by
    rw [List.take_succ_eq_append_getElem hlk, f0O]
    simp [List.getD_eq_getElem?_getD, hlk]
   have hbad := g0K ls k hlk
   generalize hL : ls.getD k [] = l at *
   have HLL := qH hL
   have HRD := qH (hrd.still hf)
   have HTS := qH hts
   have HCS := qH hcs
   have HBAD := qH hbad
   have HG := qH hgood
   have HOWN := qH hown
   have HF := qH hf
   have HCC := qH hcc
   clear hL hrd hts hcs hbad hgood hown hf hat hve hcc
   have st0 := St.start Nob wr
   have HK := qH (show b0w l = true by
    cases hh : b0w l
    ·have := HBAD.out hh
     rw [HGA.out] at this
     cases this
    ·rfl)
   skip
   go_wp2_with fail
   refine (d0j _).mono ?_
   rintro e' w1 ⟨gc, rfl, hle, hcv, hf1⟩
   have st1 := st0.keep hf1
   have HCV := qH hcv
   clear hcv hle
   clear st0 hf1
   go_wp2_with fail
   refine (k0F l HK.out gc a nn c _ HCV.out (HRD.out.still st1.fr) HCC.out).mono ?_
   rintro e' w2 ⟨rfl, hf2⟩
   have st2 := st1.keep hf2
   clear st1 hf2
   go_wp2_with (with_reducible refine wSk 9 ?_)
   refine a0a st2 rfl rfl (z := .agg (List.replicate 12 (.int .u64 0)).toArray) ap11 (cw 12 0) ap9 ?_
   intro g9 w3 st3
   clear st2
   go_wp2_with (with_reducible refine wSn ?_)
   refine a0b st3 0 rfl rfl rfl rfl rfl ap3 ap6 (PT.one _) ?_
   intro w4 st4
   clear st3
   have HFS := qH st4.fr
   go_wp2_with (with_reducible refine wSk 26 ?_)
   refine a0u st4 0 rfl rfl rfl Tryz.underlying117 rfl rfl ap6 ?_
   clear st4
   go_wp2_with (with_reducible refine wSk 27 ?_)
   refine d0p rfl rfl Tryz.underlying115 e0J [.agg (rdT l).L.toArray] rfl (by simp [Value.cells, PT.len]) rfl ((rdT l).L) (by simp [Value.cells]) ?_
   intro wA hgA hfA hzA
   clear hzA
   have hfrA := HFS.out.then hfA
   have hsz := HF.out.size
   have hsz2 := hfrA.size
   have hownA := HOWN.out.still hfrA
   have hrdA : Rd wA (some ⟨w4.heap.size, 0, none⟩) (1 * 12) ((rdT l).L) := by
    have := Rd.whole hgA
    rwa [PT.len] at this
   have HRDA := qH hrdA
   have HOWNA := qH hownA
   have HFRA := qH hfrA
   clear hgA hfA hrdA hownA hfrA
   generalize w4.heap.size = gA at *
   go_wp2_with (with_reducible refine wSk 28 ?_)
   refine d0y rfl rfl Tryz.underlying115 e0J rfl ap12 HOWNA.out rfl rfl HRDA.out (PT.one _) (by unfold maxLen; omega) ap13 ap13 ?_
   intro vB wB hownB hfB hbB
   clear hbB
   have hfrB := HOWNA.out.fr (HF.out.then HFRA.out) (Nat.le_refl _) hfB
   have HFRB := qH hfrB
   rw [← HCS.out] at hownB
   have HOWNB := qH hownB
   clear hfrB hownB hfB
   go_wp2_with fail
   go_roundw
   case rel => exact ⟨k + 1, by omega, by go_num, by rw [HTS.out, HG.out, HK.out]; rfl, HOWNB.out, HFRB.out⟩
   case measure => simp [intOf]; omega
  ·have hge : ¬ ((k : Int) < (n : Int)) := by omega
   have hkn : k = ls.length := by rw [HL.out]; omega
   rw [hkn, List.take_of_length_le (Nat.le_refl _)] at hgood hown
   obtain ⟨ap, cp, rfl, -, hre, hbase⟩ := hown.form
   have HOFF := qH (show Off (One gT) ap from fun x hx he => by have h1 := hbase x hx; have h2 := HGT.out.lt; have h3 : x.block = gT := he; omega)
   clear hbase
   have HRE := qH hre
   have HF := qH hf
   clear hkn hgood hown hf hre
   go_wp2_with fail
   refine (d0j _).mono ?_
   rintro e w1 ⟨gc, rfl, hle, hcv, hf1⟩
   have HCV := qH hcv
   have HF1 := qH (HF.out.then hf1)
   have HRE1 := qH (HRE.out.still hf1)
   clear hle hcv hf1 HF HRE
   go_wp2_with fail
   refine (HOP.out ap cp _ HF1.out HOFF.out HRE1.out).mono ?_
   rintro e w2 ⟨rfl, hf2⟩
   have HCV2 := qH (HCV.out.keepT (HGT.out.keep HF1.out id) hf2)
   have HF2 := qH ((HF1.out.mono (fun _ _ t => t.elim)).trans hf2 (fun _ _ t => t))
   clear hf2 HF1 HRE1 HCV
   go_wp2_with fail
   refine (j0n t gc _ HCV2.out).mono ?_
   rintro e w3 ⟨sv, rfl, hown3, hf3⟩
   have h2 := HF2.out.same hf3
   have ho := hown3.mono HF2.out.size
   clear hown3 hf3 HF2 HCV2
   go_wp2_with fail
   go_ret2
   exact ⟨sv, rfl, ho, h2⟩
theorem k0J (gk : Nat) (al : Option Addr) (n cl : Nat) (vs : List Value) (ls : List (List UInt8)) (w : World) (hv : Rd w al n vs) (hp : BParts w vs ls) (hn : n ≤ 100000) (hg : c0P ls = false) :
  Calls Tryz.prog 84 #[.func (.func 181) #[] #[.pointer (some ⟨gk, 0, none⟩)], .slice al n cl] w fun e w' => e = .returned (.tuple #[.slice none 0 0, .int .i64 4]) ∧ Fr Nob w w' := by
 have HV := qH hv
 have HP := qH hp
 have HL := qH (show ls.length = n by rw [← hp.1, hv.len])
 have HN := qH hn
 have hnI : (n : Int) ≤ 100000 := by omega
 clear hv hp
 have HGA := qH hg
 clear hg
 go_enter Tryz.func84, Tryz.ntmps84
 go_wp2
 go_loopw [6, 13] (fun v i wr => ∃ k : Nat, k ≤ n ∧ i = .int .i64 (k : Int) ∧ c0P (ls.take k) = true ∧ Own wr w.heap.size 117 12 v k (e0v (ls.take k)) ∧ Fr Nob w wr) (fun _ i _ => n - (intOf i).toNat)
 case atStart => exact ⟨0, Nat.zero_le _, rfl, by rw [List.take_zero]; unfold c0P; rfl, by rw [List.take_zero]; unfold e0v; exact Own.nil _ _ _ _, Fr.refl _ _⟩
 case round =>
  obtain ⟨k, hk, rfl, hgood, hown, hf⟩ := hrel
  by_cases hlt : k < n
  ·have hltI : (k : Int) < (n : Int) := by omega
   obtain ⟨b, o, rfl, hat⟩ := (HV.out.still hf).at ap13
   have hvl : k < vs.length := by rw [HV.out.len]; exact hlt
   obtain ⟨a, nn, c, hve, hcc, hrd⟩ := HP.out.2 k (vs[k]'hvl) (List.getElem?_eq_getElem hvl)
   have hc1 := hat k _ (List.getElem?_eq_getElem hvl)
   rw [hve] at hc1
   have hlk : k < ls.length := by rw [HL.out]; exact hlt
   have hts := f0P ls k hlk
   have hcs : e0v (ls.take (k + 1)) = e0v (ls.take k) ++ (rdT (ls.getD k [])).L := by
    rw [List.take_succ_eq_append_getElem hlk, f0O]
    simp [List.getD_eq_getElem?_getD, hlk]
   have hbad := g0K ls k hlk
   generalize hL : ls.getD k [] = l at *
   have HLL := qH hL
   have HRD := qH (hrd.still hf)
   have HTS := qH hts
   have HCS := qH hcs
   have HBAD := qH hbad
   have HG := qH hgood
   have HOWN := qH hown
   have HF := qH hf
   have HCC := qH hcc
   clear hL hrd hts hcs hbad hgood hown hf hat hve hcc
   have st0 := St.start Nob wr
   rcases Bool.eq_false_or_eq_true (b0w l) with hh | hh
   ·have HK := qH hh
    clear hh
    skip
    go_wp2_with fail
    refine (d0j _).mono ?_
    rintro e' w1 ⟨gc, rfl, hle, hcv, hf1⟩
    have st1 := st0.keep hf1
    have HCV := qH hcv
    clear hcv hle
    clear st0 hf1
    go_wp2_with fail
    refine (k0F l HK.out gc a nn c _ HCV.out (HRD.out.still st1.fr) HCC.out).mono ?_
    rintro e' w2 ⟨rfl, hf2⟩
    have st2 := st1.keep hf2
    clear st1 hf2
    go_wp2_with (with_reducible refine wSk 9 ?_)
    refine a0a st2 rfl rfl (z := .agg (List.replicate 12 (.int .u64 0)).toArray) ap11 (cw 12 0) ap9 ?_
    intro g9 w3 st3
    clear st2
    go_wp2_with (with_reducible refine wSn ?_)
    refine a0b st3 0 rfl rfl rfl rfl rfl ap3 ap6 (PT.one _) ?_
    intro w4 st4
    clear st3
    have HFS := qH st4.fr
    go_wp2_with (with_reducible refine wSk 26 ?_)
    refine a0u st4 0 rfl rfl rfl Tryz.underlying117 rfl rfl ap6 ?_
    clear st4
    go_wp2_with (with_reducible refine wSk 27 ?_)
    refine d0p rfl rfl Tryz.underlying115 e0J [.agg (rdT l).L.toArray] rfl (by simp [Value.cells, PT.len]) rfl ((rdT l).L) (by simp [Value.cells]) ?_
    intro wA hgA hfA hzA
    clear hzA
    have hfrA := HFS.out.then hfA
    have hsz := HF.out.size
    have hsz2 := hfrA.size
    have hownA := HOWN.out.still hfrA
    have hrdA : Rd wA (some ⟨w4.heap.size, 0, none⟩) (1 * 12) ((rdT l).L) := by
     have := Rd.whole hgA
     rwa [PT.len] at this
    have HRDA := qH hrdA
    have HOWNA := qH hownA
    have HFRA := qH hfrA
    clear hgA hfA hrdA hownA hfrA
    generalize w4.heap.size = gA at *
    go_wp2_with (with_reducible refine wSk 28 ?_)
    refine d0y rfl rfl Tryz.underlying115 e0J rfl ap12 HOWNA.out rfl rfl HRDA.out (PT.one _) (by unfold maxLen; omega) ap13 ap13 ?_
    intro vB wB hownB hfB hbB
    clear hbB
    have hfrB := HOWNA.out.fr (HF.out.then HFRA.out) (Nat.le_refl _) hfB
    have HFRB := qH hfrB
    rw [← HCS.out] at hownB
    have HOWNB := qH hownB
    clear hfrB hownB hfB
    go_wp2_with fail
    go_roundw
    case rel => exact ⟨k + 1, by omega, by go_num, by rw [HTS.out, HG.out, HK.out]; rfl, HOWNB.out, HFRB.out⟩
    case measure => simp [intOf]; omega
   ·have HK := qH hh
    clear hh
    skip
    go_wp2_with fail
    refine (d0j _).mono ?_
    rintro e' w1 ⟨gc, rfl, hle, hcv, hf1⟩
    have st1 := st0.keep hf1
    have HCV := qH hcv
    clear hcv hle
    clear st0 hf1
    go_wp2_with fail
    refine (q0A l HK.out gc a nn c _ HCV.out (HRD.out.still st1.fr) HCC.out).mono ?_
    rintro e' w2 ⟨⟨X, Y, Z, rfl⟩, hf2⟩
    have st2 := st1.keep hf2
    clear st1 hf2
    go_wp2_with (with_reducible refine wSk 9 ?_)
    refine a0a st2 rfl rfl (z := .agg (List.replicate 12 (.int .u64 0)).toArray) ap11 (cw 12 0) ap9 ?_
    intro g9 w3 st3
    clear st2
    go_wp2_with (with_reducible refine wSn ?_)
    refine a0b st3 0 rfl rfl rfl rfl rfl ap3 (by first | (rw [a0e]; kernel_rfl) | (simp only [d0d]; kernel_rfl)) (l0W _ _ _ _) ?_
    intro w4 st4
    clear st3
    have HFS := qH (HF.out.then st4.fr)
    clear st4
    go_wp2_with fail
    go_ret2
    exact ⟨rfl, HFS.out⟩
  ·exfalso
   have hkn : k = ls.length := by rw [HL.out]; omega
   rw [hkn, List.take_of_length_le (Nat.le_refl _), HGA.out] at hgood
   cases hgood
end Go.Proofs.YtemcankmggmgoaaGreat
namespace Go.Mv
open Go.RowKit
variable {P : Program} {ops : Array Oper} {a : Act} {w : World} {rest : List Oper} {Q : Exit → Act → World → Prop} {o : Oper}
theorem j0t (v : Value) (sz m : Nat) (h : 0 < sz) : (madeCells (List.replicate sz v).toArray m).toList = List.replicate m v := by
 apply List.ext_getElem?
 intro j
 by_cases hj : j < m
 ·have : j % sz < sz := Nat.mod_lt _ h
  simp [madeCells, hj, this]
 ·simp [madeCells, hj]
theorem j0u {l c : Operand} {t : TypeId} (hgd : o.guard = none) (ho : o.op = .makeSlice t l c) {e : TypeId} {z v : Value} {sz by_ : Nat} (ht : P.underlying t = some (.slice e))
  (hi0 : (P.info? e).map (fun i => (i.zero, i.size, i.bytes)) = some (some z, sz, by_)) (hzc : z.cells = (List.replicate sz v).toArray) (hsz : 0 < sz) {kl kc : IntKind} {x y : Int} (hl : a.eval l = .int kl x) (hc : a.eval c = .int kc y) (n m : Nat) (hx : x = n) (hy : y = m) (hnm : n ≤ m)
  (hb : by_ * m ≤ 281474976710656) (h63 : m ≤ maxLen)
  (h : ∀ w', Has w' w.heap.size (List.replicate (m * sz) v) e → Fr Nob w w' → wpList P ops Q rest (a.put o.dst (.slice (some ⟨w.heap.size, 0, none⟩) n m)) w') : wpList P ops Q (o :: rest) a w := by
 refine wpList_plain hgd fun K hK => ?_
 obtain ⟨i, hi, hz0⟩ : ∃ i, P.info? e = some i ∧ (i.zero, i.size, i.bytes) = (some z, sz, by_) := by simpa using hi0
 simp only [Prod.mk.injEq] at hz0
 obtain ⟨hz, hsize, hby⟩ := hz0
 subst hx
 subst hy
 have hmx : (m : Int) ≤ 9223372036854775807 := by simp only [maxLen] at h63; omega
 have hbb : (i.bytes : Int) * (m : Int) ≤ 281474976710656 := by
  have k : ((i.bytes * m : Nat) : Int) ≤ 281474976710656 := by rw [hby]; omega
  rwa [Int.natCast_mul] at k
 have hr := run_make (P := P) w t e i z ht hi hz kl kc n m ap13 ap13 hbb hmx
 simp only [Int.toNat_natCast, hsize] at hr
 unfold Oper.wp execOp
 simp only [ho, hl, hc, Sem.run_bind, Sem.run_pure, Result.andThen_ok, hr]
 refine hK _ _ (h _ ?_ ((Fr.refl _ w).alloc _))
 have := Has.new w (madeCells z.cells (m * sz)) e
 rw [hzc] at this ⊢
 rwa [j0t v sz _ hsz] at this
end Go.Mv
namespace Go.Proofs.YtemcankmggmgoaaGreat
open Go.RowKit Go.Mv Mvp Mvq
theorem h0E : (Tryz.prog.info? 147).map (fun i => (i.zero, i.size, i.bytes)) = some (some (.agg (List.replicate 196 (.int .u64 0)).toArray), 196, 1568) := by kernel_rfl
def aK (ls : List (List UInt8)) (k : Nat) : Nat → Nat := fun i => if i < k then beN (ls.getD i []) else 0
theorem m0c (n : Nat) (ls : List (List UInt8)) : List.replicate (n * 196) (Value.int .u64 0) = tmF n (aK ls 0) (fun _ => cw 192 0) := by
 rw [t0a]
 exact e0L _ _ _ _ _ fun i _ => ⟨by unfold aK; rw [if_neg (Nat.not_lt_zero _)], rfl⟩
theorem q0Q (n : Nat) (ls : List (List UInt8)) (k : Nat) (l : List UInt8) (hl : ls.getD k [] = l) (h : k < n) : splice (tmF n (aK ls k) (fun _ => cw 192 0)) (k * 196) (cw 4 (beN l)) = tmF n (aK ls (k + 1)) (fun _ => cw 192 0) := by
 subst hl
 rw [s0Y n _ _ (fun _ => a0e _ _) k _ h]
 refine e0L _ _ _ _ _ fun i _ => ⟨?_, rfl⟩
 unfold upN aK
 by_cases e : i = k
 ·rw [if_pos e, if_pos ap13, e]
 ·rw [if_neg e]
  by_cases e2 : i < k
  ·rw [if_pos e2, if_pos ap13]
  ·rw [if_neg e2, if_neg ap13]
theorem j0v (n : Nat) (a : Nat → Nat) : (tmF n a (fun _ => cw 192 0)).length = n * 196 := q0O n a _ (fun _ => a0e _ _)
attribute [local irreducible] a0y lw mix cw b0q b0r b0i beN b0x a0Q a0A a0J elN mdL a0N rtN rtV b0S gXn gYn PT.L j0F j0e e0Z tbL tmR tmL dbN g0I g0t g0c dig rdT b0w a0W ptL e0v c0P a0O tmF tkT l0c aK
theorem x0K (al : Option Addr) (n cl : Nat) (vs : List Value) (ln : List (List UInt8)) (bl : Option Addr) (dl : Nat) (us : List Value) (lp : List (List UInt8)) (w : World) (hv : Rd w al n vs) (hp : BParts w vs ln) (hu : Rd w bl n us) (hq : BParts w us lp) (hn : n ≤ 512) (hg : a0L mQ ln = true) (hr : c0P lp = true) :
  Calls Tryz.prog 132 #[.slice al n cl, .slice bl n dl] w fun e w' => ∃ sv, e = .returned (.tuple #[sv, .int .i64 0]) ∧ Own w' w.heap.size 5 1 sv 33 (bs (a0O (g0c (l0c (aK ln n) lp)).pt)) ∧ Fr Nob w w' := by
 have HV := qH hv
 have HP := qH hp
 have HU := qH hu
 have HQ := qH hq
 have HL := qH (show ln.length = n by rw [← hp.1, hv.len])
 have HL2 := qH (show lp.length = n by rw [← hq.1, hu.len])
 have HN := qH hn
 have hnI : ¬ ((512 : Int) < (n : Int)) := by omega
 clear hv hp hu hq
 have HGA := qH hg
 have HRA := qH hr
 clear hg hr hn
 have st0 := St.start Nob w
 go_enter Tryz.func132, Tryz.ntmps132
 go_wp2_with (with_reducible refine wSk 23 ?_)
 refine j0u rfl rfl Tryz.underlying199 h0E rfl ap12 rfl rfl n n rfl rfl (Nat.le_refl _) (by have := HN.out; omega) (by have := HN.out; unfold maxLen; omega) ?_
 intro w1 hm hf
 rw [m0c n ln] at hm
 have st1 := st0.new hf hm (Nat.le_refl _)
 have hle : w.heap.size ≤ w.heap.size := Nat.le_refl _
 generalize hgT : w.heap.size = gT at st1 hle hm ⊢
 have HGS := qH hgT
 clear hgT hle hm hf st0
 go_wp2_with (with_reducible refine wSk 6 ?_)
 refine a0a st1 rfl rfl (z := .slice none 0 0) ap11 [.slice none 0 0] rfl ?_
 intro gb w2 st2
 clear st1
 obtain ⟨v6, c6, f6⟩ := (st2.at 1 rfl).ready (i := 0) ap12
 have st3 := st2.set 1 rfl 0 (.slice (some ⟨gT, 0, none⟩) n n)
 have st3 : St Nob w (w2.setCell ⟨gb, 0, none⟩ (.slice (some ⟨gT, 0, none⟩) n n)) [(gT, tmF n (aK ln (0)) (fun _ => cw 192 0), 147), (gb, [Value.slice (some ⟨gT, 0, none⟩) n n], 199)] := st3
 have ST3 := qH st3
 clear st2 st3
 go_wp2
 try clear c6 f6
 go_loopw [26] (fun i wr => ∃ k : Nat, k ≤ n ∧ i = .int .i64 (k : Int) ∧ a0L mQ (ln.take k) = true ∧ St Nob w wr [(gT, tmF n (aK ln (k)) (fun _ => cw 192 0), 147), (gb, [Value.slice (some ⟨gT, 0, none⟩) n n], 199)]) (fun i _ => n - (intOf i).toNat)
 case atStart => exact ⟨0, Nat.zero_le _, rfl, by rw [List.take_zero]; unfold a0L; rfl, ST3.out⟩
 case round =>
  obtain ⟨k, hk, rfl, hgood, st⟩ := hrel
  clear ST3
  by_cases hlt : k < n
  ·have hltI : (k : Int) < (n : Int) := by omega
   have hk0 : (0 : Int) ≤ (k : Int) := by omega
   have hf := st.fr
   obtain ⟨b, o, rfl, hat⟩ := (HV.out.still hf).at ap13
   have hvl : k < vs.length := by rw [HV.out.len]; exact hlt
   obtain ⟨a, nn, c, hve, hcc, hrd⟩ := HP.out.2 k (vs[k]'hvl) (List.getElem?_eq_getElem hvl)
   have hc1 := hat k _ (List.getElem?_eq_getElem hvl)
   rw [hve] at hc1
   have hlk : k < ln.length := by rw [HL.out]; exact hlt
   have hts := e0P mQ ln k hlk
   have hbad := f0F mQ ln k hlk
   generalize hLk : ln.getD k [] = l at *
   have HLL := qH hLk
   have HRD := qH (hrd.still hf)
   have HTS := qH hts
   have HBAD := qH hbad
   have HG := qH hgood
   have HLT := qH hlt
   clear hLk hrd hts hbad hgood hf hat hve hcc hlt hk
   have HK := qH (show a0N mQ l = true by
    cases hh : a0N mQ l
    ·have := HBAD.out hh
     rw [HGA.out] at this
     cases this
    ·rfl)
   go_wp2_with fail
   refine (d0u HK.out a nn c _ (HRD.out)).mono ?_
   rintro e' w3 ⟨rfl, hf3⟩
   have st3 := st.keep hf3
   clear st hf3
   go_wp2_with (with_reducible refine wSk 9 ?_)
   refine a0a st3 rfl rfl (z := zAd) ap11 (cw 4 0) ap9 ?_
   intro g9 w4 st4
   clear st3
   go_wp2_with (with_reducible refine wSn ?_)
   refine a0b st4 2 rfl rfl rfl rfl rfl ap3 ap1 (a0d _ _) ?_
   intro w5 st5
   clear st4
   have hc6 := (st5.at 1 rfl).cell (show [Value.slice (some ⟨gT, 0, none⟩) n n][0]? = _ from rfl)
   go_wp2_with (with_reducible refine wSk 40 ?_)
   refine a0m st5 2 rfl rfl rfl Tryz.underlying111 rfl ap1 ?_
   go_wp2_with (with_reducible refine wSn ?_)
   refine f0N st5 0 rfl rfl rfl rfl rfl (tmF n (aK ln (k + 1)) (fun _ => cw 192 0)) (q0Q n ln k l HLL.out HLT.out) (by rw [j0v, a0e]; have := HLT.out; omega) ap1 (a0d _ _) ?_
   intro w6 st6
   clear st5 hc6
   go_wp2_with fail
   go_roundw
   case rel => exact ⟨k + 1, by have := HLT.out; omega, by go_num, by rw [HTS.out, HG.out, HK.out]; rfl, St.less st6 ap14⟩
   case measure => have := HLT.out; simp [intOf]; omega
  ·have hge : ¬ ((k : Int) < (n : Int)) := by omega
   have hkn : k = n := by omega
   rw [hkn] at hgood st
   rw [List.take_of_length_le (by rw [HL.out]; exact Nat.le_refl _)] at hgood
   have hgl := (st.at 0 rfl).lt
   have HHT := qH (st.at 0 rfl)
   have HHB := qH (st.at 1 rfl)
   have HNE := qH (show gb ≠ gT from st.neAt (i := 1) (j := 0) rfl rfl ap12)
   have HF := qH st.fr
   clear hkn hgood st hgl
   go_wp2_with fail
   refine (m0b gb bl n dl us lp _ (HU.out.still HF.out) (HQ.out.still HF.out) (by have := HN.out; omega) HRA.out gT _ HHT.out (g0c (l0c (aK ln n) lp)) (fun ap cp wx hfx hoff hrd => by rw [HL2.out]; exact x0J n (aK ln n) lp HL2.out (by have := HN.out; omega) gb gT wx HNE.out (HHB.out.keep hfx id) (HHT.out.keep hfx id) ap cp hoff hrd)).mono ?_
   rintro e wE ⟨sv, rfl, hown, hfE⟩
   have ho := hown.mono HF.out.size
   have hfr := HF.out.new hfE (by rw [HGS.out]; exact Nat.le_refl _)
   clear hown hfE HF HHT HHB
   go_wp2_with fail
   go_ret2
   exact ⟨sv, rfl, ho, hfr⟩
theorem t0d (al : Option Addr) (n cl : Nat) (vs : List Value) (ln : List (List UInt8)) (bl : Option Addr) (dl : Nat) (us : List Value) (lp : List (List UInt8)) (w : World) (hv : Rd w al n vs) (hp : BParts w vs ln) (hu : Rd w bl n us) (hq : BParts w us lp) (hn : n ≤ 512) (hg : a0L mQ ln = true) (hr : c0P lp = false) :
  Calls Tryz.prog 132 #[.slice al n cl, .slice bl n dl] w fun e w' => e = .returned (.tuple #[.slice none 0 0, .int .i64 4]) ∧ Fr Nob w w' := by
 have HV := qH hv
 have HP := qH hp
 have HU := qH hu
 have HQ := qH hq
 have HL := qH (show ln.length = n by rw [← hp.1, hv.len])
 have HL2 := qH (show lp.length = n by rw [← hq.1, hu.len])
 have HN := qH hn
 have hnI : ¬ ((512 : Int) < (n : Int)) := by omega
 clear hv hp hu hq
 have HGA := qH hg
 have HRA := qH hr
 clear hg hr hn
 have st0 := St.start Nob w
 go_enter Tryz.func132, Tryz.ntmps132
 go_wp2_with (with_reducible refine wSk 23 ?_)
 refine j0u rfl rfl Tryz.underlying199 h0E rfl ap12 rfl rfl n n rfl rfl (Nat.le_refl _) (by have := HN.out; omega) (by have := HN.out; unfold maxLen; omega) ?_
 intro w1 hm hf
 rw [m0c n ln] at hm
 have st1 := st0.new hf hm (Nat.le_refl _)
 have hle : w.heap.size ≤ w.heap.size := Nat.le_refl _
 generalize hgT : w.heap.size = gT at st1 hle hm ⊢
 have HGS := qH hgT
 clear hgT hle hm hf st0
 go_wp2_with (with_reducible refine wSk 6 ?_)
 refine a0a st1 rfl rfl (z := .slice none 0 0) ap11 [.slice none 0 0] rfl ?_
 intro gb w2 st2
 clear st1
 obtain ⟨v6, c6, f6⟩ := (st2.at 1 rfl).ready (i := 0) ap12
 have st3 := st2.set 1 rfl 0 (.slice (some ⟨gT, 0, none⟩) n n)
 have st3 : St Nob w (w2.setCell ⟨gb, 0, none⟩ (.slice (some ⟨gT, 0, none⟩) n n)) [(gT, tmF n (aK ln (0)) (fun _ => cw 192 0), 147), (gb, [Value.slice (some ⟨gT, 0, none⟩) n n], 199)] := st3
 have ST3 := qH st3
 clear st2 st3
 go_wp2
 try clear c6 f6
 go_loopw [26] (fun i wr => ∃ k : Nat, k ≤ n ∧ i = .int .i64 (k : Int) ∧ a0L mQ (ln.take k) = true ∧ St Nob w wr [(gT, tmF n (aK ln (k)) (fun _ => cw 192 0), 147), (gb, [Value.slice (some ⟨gT, 0, none⟩) n n], 199)]) (fun i _ => n - (intOf i).toNat)
 case atStart => exact ⟨0, Nat.zero_le _, rfl, by rw [List.take_zero]; unfold a0L; rfl, ST3.out⟩
 case round =>
  obtain ⟨k, hk, rfl, hgood, st⟩ := hrel
  clear ST3
  by_cases hlt : k < n
  ·have hltI : (k : Int) < (n : Int) := by omega
   have hk0 : (0 : Int) ≤ (k : Int) := by omega
   have hf := st.fr
   obtain ⟨b, o, rfl, hat⟩ := (HV.out.still hf).at ap13
   have hvl : k < vs.length := by rw [HV.out.len]; exact hlt
   obtain ⟨a, nn, c, hve, hcc, hrd⟩ := HP.out.2 k (vs[k]'hvl) (List.getElem?_eq_getElem hvl)
   have hc1 := hat k _ (List.getElem?_eq_getElem hvl)
   rw [hve] at hc1
   have hlk : k < ln.length := by rw [HL.out]; exact hlt
   have hts := e0P mQ ln k hlk
   have hbad := f0F mQ ln k hlk
   generalize hLk : ln.getD k [] = l at *
   have HLL := qH hLk
   have HRD := qH (hrd.still hf)
   have HTS := qH hts
   have HBAD := qH hbad
   have HG := qH hgood
   have HLT := qH hlt
   clear hLk hrd hts hbad hgood hf hat hve hcc hlt hk
   have HK := qH (show a0N mQ l = true by
    cases hh : a0N mQ l
    ·have := HBAD.out hh
     rw [HGA.out] at this
     cases this
    ·rfl)
   go_wp2_with fail
   refine (d0u HK.out a nn c _ (HRD.out)).mono ?_
   rintro e' w3 ⟨rfl, hf3⟩
   have st3 := st.keep hf3
   clear st hf3
   go_wp2_with (with_reducible refine wSk 9 ?_)
   refine a0a st3 rfl rfl (z := zAd) ap11 (cw 4 0) ap9 ?_
   intro g9 w4 st4
   clear st3
   go_wp2_with (with_reducible refine wSn ?_)
   refine a0b st4 2 rfl rfl rfl rfl rfl ap3 ap1 (a0d _ _) ?_
   intro w5 st5
   clear st4
   have hc6 := (st5.at 1 rfl).cell (show [Value.slice (some ⟨gT, 0, none⟩) n n][0]? = _ from rfl)
   go_wp2_with (with_reducible refine wSk 40 ?_)
   refine a0m st5 2 rfl rfl rfl Tryz.underlying111 rfl ap1 ?_
   go_wp2_with (with_reducible refine wSn ?_)
   refine f0N st5 0 rfl rfl rfl rfl rfl (tmF n (aK ln (k + 1)) (fun _ => cw 192 0)) (q0Q n ln k l HLL.out HLT.out) (by rw [j0v, a0e]; have := HLT.out; omega) ap1 (a0d _ _) ?_
   intro w6 st6
   clear st5 hc6
   go_wp2_with fail
   go_roundw
   case rel => exact ⟨k + 1, by have := HLT.out; omega, by go_num, by rw [HTS.out, HG.out, HK.out]; rfl, St.less st6 ap14⟩
   case measure => have := HLT.out; simp [intOf]; omega
  ·have hge : ¬ ((k : Int) < (n : Int)) := by omega
   have hkn : k = n := by omega
   rw [hkn] at hgood st
   rw [List.take_of_length_le (by rw [HL.out]; exact Nat.le_refl _)] at hgood
   have hgl := (st.at 0 rfl).lt
   have HHT := qH (st.at 0 rfl)
   have HHB := qH (st.at 1 rfl)
   have HNE := qH (show gb ≠ gT from st.neAt (i := 1) (j := 0) rfl rfl ap12)
   have HF := qH st.fr
   clear hkn hgood st hgl
   go_wp2_with fail
   refine (k0J gb bl n dl us lp _ (HU.out.still HF.out) (HQ.out.still HF.out) (by have := HN.out; omega) HRA.out).mono ?_
   rintro e wE ⟨rfl, hfE⟩
   have hfr := HF.out.then hfE
   clear hfE HF HHT HHB
   go_wp2_with fail
   go_ret2
   exact ⟨rfl, hfr⟩
theorem t0e (al : Option Addr) (n cl : Nat) (vs : List Value) (ln : List (List UInt8)) (bl : Option Addr) (dl : Nat) (us : List Value) (lp : List (List UInt8)) (w : World) (hv : Rd w al n vs) (hp : BParts w vs ln) (hu : Rd w bl n us) (hq : BParts w us lp) (hn : n ≤ 512) (hg : a0L mQ ln = false) :
  Calls Tryz.prog 132 #[.slice al n cl, .slice bl n dl] w fun e w' => e = .returned (.tuple #[.slice none 0 0, .int .i64 3]) ∧ Fr Nob w w' := by
 have HV := qH hv
 have HP := qH hp
 have HU := qH hu
 have HQ := qH hq
 have HL := qH (show ln.length = n by rw [← hp.1, hv.len])
 have HL2 := qH (show lp.length = n by rw [← hq.1, hu.len])
 have HN := qH hn
 have hnI : ¬ ((512 : Int) < (n : Int)) := by omega
 clear hv hp hu hq
 have HGA := qH hg
 clear hg hn
 have st0 := St.start Nob w
 go_enter Tryz.func132, Tryz.ntmps132
 go_wp2_with (with_reducible refine wSk 23 ?_)
 refine j0u rfl rfl Tryz.underlying199 h0E rfl ap12 rfl rfl n n rfl rfl (Nat.le_refl _) (by have := HN.out; omega) (by have := HN.out; unfold maxLen; omega) ?_
 intro w1 hm hf
 rw [m0c n ln] at hm
 have st1 := st0.new hf hm (Nat.le_refl _)
 have hle : w.heap.size ≤ w.heap.size := Nat.le_refl _
 generalize hgT : w.heap.size = gT at st1 hle hm ⊢
 have HGS := qH hgT
 clear hgT hle hm hf st0
 go_wp2_with (with_reducible refine wSk 6 ?_)
 refine a0a st1 rfl rfl (z := .slice none 0 0) ap11 [.slice none 0 0] rfl ?_
 intro gb w2 st2
 clear st1
 obtain ⟨v6, c6, f6⟩ := (st2.at 1 rfl).ready (i := 0) ap12
 have st3 := st2.set 1 rfl 0 (.slice (some ⟨gT, 0, none⟩) n n)
 have st3 : St Nob w (w2.setCell ⟨gb, 0, none⟩ (.slice (some ⟨gT, 0, none⟩) n n)) [(gT, tmF n (aK ln (0)) (fun _ => cw 192 0), 147), (gb, [Value.slice (some ⟨gT, 0, none⟩) n n], 199)] := st3
 have ST3 := qH st3
 clear st2 st3
 go_wp2
 try clear c6 f6
 go_loopw [26] (fun i wr => ∃ k : Nat, k ≤ n ∧ i = .int .i64 (k : Int) ∧ a0L mQ (ln.take k) = true ∧ St Nob w wr [(gT, tmF n (aK ln (k)) (fun _ => cw 192 0), 147), (gb, [Value.slice (some ⟨gT, 0, none⟩) n n], 199)]) (fun i _ => n - (intOf i).toNat)
 case atStart => exact ⟨0, Nat.zero_le _, rfl, by rw [List.take_zero]; unfold a0L; rfl, ST3.out⟩
 case round =>
  obtain ⟨k, hk, rfl, hgood, st⟩ := hrel
  clear ST3
  by_cases hlt : k < n
  ·have hltI : (k : Int) < (n : Int) := by omega
   have hk0 : (0 : Int) ≤ (k : Int) := by omega
   have hf := st.fr
   obtain ⟨b, o, rfl, hat⟩ := (HV.out.still hf).at ap13
   have hvl : k < vs.length := by rw [HV.out.len]; exact hlt
   obtain ⟨a, nn, c, hve, hcc, hrd⟩ := HP.out.2 k (vs[k]'hvl) (List.getElem?_eq_getElem hvl)
   have hc1 := hat k _ (List.getElem?_eq_getElem hvl)
   rw [hve] at hc1
   have hlk : k < ln.length := by rw [HL.out]; exact hlt
   have hts := e0P mQ ln k hlk
   have hbad := f0F mQ ln k hlk
   generalize hLk : ln.getD k [] = l at *
   have HLL := qH hLk
   have HRD := qH (hrd.still hf)
   have HTS := qH hts
   have HBAD := qH hbad
   have HG := qH hgood
   have HLT := qH hlt
   clear hLk hrd hts hbad hgood hf hat hve hcc hlt hk
   rcases Bool.eq_false_or_eq_true (a0N mQ l) with hh | hh
   ·have HK := qH hh
    clear hh
    go_wp2_with fail
    refine (d0u HK.out a nn c _ (HRD.out)).mono ?_
    rintro e' w3 ⟨rfl, hf3⟩
    have st3 := st.keep hf3
    clear st hf3
    go_wp2_with (with_reducible refine wSk 9 ?_)
    refine a0a st3 rfl rfl (z := zAd) ap11 (cw 4 0) ap9 ?_
    intro g9 w4 st4
    clear st3
    go_wp2_with (with_reducible refine wSn ?_)
    refine a0b st4 2 rfl rfl rfl rfl rfl ap3 ap1 (a0d _ _) ?_
    intro w5 st5
    clear st4
    have hc6 := (st5.at 1 rfl).cell (show [Value.slice (some ⟨gT, 0, none⟩) n n][0]? = _ from rfl)
    go_wp2_with (with_reducible refine wSk 40 ?_)
    refine a0m st5 2 rfl rfl rfl Tryz.underlying111 rfl ap1 ?_
    go_wp2_with (with_reducible refine wSn ?_)
    refine f0N st5 0 rfl rfl rfl rfl rfl (tmF n (aK ln (k + 1)) (fun _ => cw 192 0)) (q0Q n ln k l HLL.out HLT.out) (by rw [j0v, a0e]; have := HLT.out; omega) ap1 (a0d _ _) ?_
    intro w6 st6
    clear st5 hc6
    go_wp2_with fail
    go_roundw
    case rel => exact ⟨k + 1, by have := HLT.out; omega, by go_num, by rw [HTS.out, HG.out, HK.out]; rfl, St.less st6 ap14⟩
    case measure => have := HLT.out; simp [intOf]; omega
   ·have HK := qH hh
    clear hh
    go_wp2_with fail
    refine (e0V HK.out a nn c _ (HRD.out)).mono ?_
    rintro e' w3 ⟨⟨N, rfl⟩, hf3⟩
    have st3 := st.keep hf3
    clear st hf3
    go_wp2_with (with_reducible refine wSk 9 ?_)
    refine a0a st3 rfl rfl (z := zAd) ap11 (cw 4 0) ap9 ?_
    intro g9 w4 st4
    clear st3
    go_wp2_with (with_reducible refine wSn ?_)
    refine a0b st4 2 rfl rfl rfl rfl rfl ap3 ap1 (a0d _ _) ?_
    intro w5 st5
    clear st4
    have hfr := st5.fr
    clear st5
    go_wp2_with fail
    go_ret2
    exact ⟨rfl, hfr⟩
  ·exfalso
   have hkn : k = n := by omega
   rw [hkn] at hgood
   rw [List.take_of_length_le (by rw [HL.out]; exact Nat.le_refl _), HGA.out] at hgood
   cases hgood
theorem t0f (al : Option Addr) (n cl : Nat) (bl : Option Addr) (m dl : Nat) (w : World) (h : n ≠ m) :
  Calls Tryz.prog 132 #[.slice al n cl, .slice bl m dl] w fun e w' => e = .returned (.tuple #[.slice none 0 0, .int .i64 2]) ∧ Fr Nob w w' := by
 have h1 : ((n : Int) != (m : Int)) = true := by simp; omega
 have h2 : (n != m) = true := by simpa using h
 go_enter Tryz.func132, Tryz.ntmps132
 go_wp2
 go_ret2
 exact ⟨rfl, Fr.refl _ _⟩
theorem t0g (al : Option Addr) (n cl : Nat) (bl : Option Addr) (dl : Nat) (w : World) (h : 512 < n) :
  Calls Tryz.prog 132 #[.slice al n cl, .slice bl n dl] w fun e w' => e = .returned (.tuple #[.slice none 0 0, .int .i64 1]) ∧ Fr Nob w w' := by
 have h1 : (512 : Int) < (n : Int) := by omega
 go_enter Tryz.func132, Tryz.ntmps132
 go_wp2
 go_ret2
 exact ⟨rfl, Fr.refl _ _⟩
end Go.Proofs.YtemcankmggmgoaaGreat
namespace Mvp
end Mvp
namespace Go.Proofs.YtemcankmggmgoaaGreat
section
open Go.RowKit Go.Mv Mvp
attribute [local irreducible] a0y lw mix cw b0q b0r b0i beN b0x a0Q
end
section
open Go.RowKit Go.Mv Mvp
attribute [local irreducible] a0y lw mix cw b0q b0r b0i beN b0x a0Q a0A a0J elN mdL a0N a0L a0V rtN b0S rtV
end
section
open Go.RowKit Go.Mv Mvp Mvq
def kN (a : K) : Nat := a.val
end
section
open Go.RowKit Go.Mv Mvp Mvq
def rpL (x y z : K) : List Value := cw 4 (kN x) ++ (cw 4 (kN y) ++ cw 4 (kN z))
attribute [local irreducible] a0y lw mix cw b0q b0r b0i beN b0x a0Q a0A a0J elN mdL a0N rtV b0S kN kc c0u a0O
end
section
open Go.RowKit Go.Mv Mvp Mvq
structure RT where
 x : K
 y : K
 z : K
 on : onC (nm x y z)
def RT.pt (s : RT) : Pt := nm s.x s.y s.z
def RT.L (s : RT) : List Value := rpL s.x s.y s.z
theorem v0N (x y z : K) : (rpL x y z).length = 12 := by simp [rpL, a0e]
theorem RT.len (s : RT) : s.L.length = 12 := v0N _ _ _
theorem RT.one (s : RT) : ∀ v ∈ s.L, v.oneCell' = true := b0B _ _ _
theorem RT.onP (s : RT) : onC s.pt := s.on
def RT.isO (s : RT) : Bool := decide (s.z = 0)
theorem RT.isO_t {s : RT} (h : s.isO = true) : s.pt = .O := z0f (by simpa [RT.isO] using h)
end
section
open Go.RowKit Go.Mv Mvp Mvq
attribute [local irreducible] a0y lw mix cw b0q b0r b0i beN b0x a0Q a0A a0J elN mdL a0N rtV b0S kN kc c0u a0O RT.L
end
end Go.Proofs.YtemcankmggmgoaaGreat
namespace Go.Mv
open Go.RowKit
section
variable {P : Program} {Q : Exit → Act → World → Prop} {Sx : World → Prop} {S : Nat → Prop} {w0 : World} {tl : Pl} {l : List Oper} {i : Nat} {s : List LS} {Γ : List Flt} {BL : List Blk} {R : World → Prop} {A : (Nat → Value) → Act} {o : Oper}
theorem k0K {parts : Array (Nat × Operand)} {ρ : Operand → Value} {M : List (Nat × Value)} (h : (parts.toList.map fun p => (p.1, ρ p.2)) = M) : (parts.map fun (i, x) => (i, ρ x)) = M.toArray := by
 apply Array.toList_inj.1
 rw [Array.toList_map, ← h]
theorem q0R {t e : TypeId} {k : Nat} {M : List (Nat × Value)} (hu : P.underlying t = some (.slice e)) {z : Value} {sz by_ : Nat} (hi0 : (P.info? e).map (fun i => (i.zero, i.size, i.bytes)) = some (some z, sz, by_)) (vs : List Value) (hp : M = (vs.zipIdx 0).map fun x => (x.2, x.1))
  (hv : ∀ v ∈ vs, v.cells.size = sz) (hk : vs.length = k) (L : List Value) (hL : (vs.flatMap fun v => v.cells.toList) = L) (hk0 : 0 < k * sz := by decide) (hk24 : k * sz ≤ 16777216 := by decide) :
  Mk P (do pure (.value (← Instr.buildSlice t k M.toArray))) (fun g => .slice (some ⟨g, 0, none⟩) k k) L e := by
 intro w
 obtain ⟨i, hi, hz0⟩ : ∃ i, P.info? e = some i ∧ (i.zero, i.size, i.bytes) = (some z, sz, by_) := by simpa using hi0
 simp only [Prod.mk.injEq] at hz0
 obtain ⟨hz1, hsz, hby⟩ := hz0
 have hs0 : 0 < sz := Nat.pos_of_mul_pos_left hk0
 have hf : Instr.fill (fun j => some (j * i.size, i.size)) ((Array.range (k * i.size)).map (z.cells[· % z.cells.size]!)) M = some L.toArray := by
  rw [hp, hsz, ← hL]
  exact Great.fill_whole hs0 vs _ hv (by simp [hk])
 refine ⟨w.heap.size, w.alloc (.cells L.toArray e), ?_, (Fr.refl _ w).alloc _, Nat.le_refl _, Has.new w L.toArray e⟩
 simp only [Sem.run_bind, run_buildSlice w t e k M.toArray L.toArray i z hu hi hz1 (by rw [hsz]; omega) (by rw [hsz]; omega) (by simpa using hf), Result.andThen_ok, Sem.run_pure]
theorem g0N {t e : TypeId} {k : Nat} {parts : Array (Nat × Operand)} (ho : l[i]? = some o) (hg : o.guard = none) (hop : o.op = .buildSlice t k parts) (hu : P.underlying t = some (.slice e)) {z : Value} {sz by_ : Nat} (hi0 : (P.info? e).map (fun i => (i.zero, i.size, i.bytes)) = some (some z, sz, by_))
  (vs : List Value) (hp : ∀ x, (parts.toList.map fun p => (p.1, (A x).eval p.2)) = (vs.zipIdx 0).map fun x => (x.2, x.1)) (hv : ∀ v ∈ vs, v.cells.size = sz) (hk : vs.length = k) (L : List Value) (hL : (vs.flatMap fun v => v.cells.toList) = L)
  (h : Lad P l.toArray Q Sx S w0 tl s ((i, fun g => .slice (some ⟨g, 0, none⟩) k k, L, e) :: Γ) BL R (fun x => (A x).put o.dst (x i))) (hk0 : 0 < k * sz := by decide) (hk24 : k * sz ≤ 16777216 := by decide) : Lad P l.toArray Q Sx S w0 tl (.o i :: s) Γ BL R A :=
 x0e ho hg (fun x => by unfold execOp; simp only [hop]; rw [k0K (hp x)]) (q0R hu hi0 vs rfl hv hk L hL hk0 hk24) h
theorem m0d (ho : l[i]? = some o) (hg : o.guard = none) {v : Value} (hv : ∀ x w, St S w0 w BL → R w → (execOp (A x).eval o).run P w = .ok (.value v) w) (h : Lad P l.toArray Q Sx S w0 tl s Γ BL R (fun x => (A x).put o.dst v)) : Lad P l.toArray Q Sx S w0 tl (.c i :: s) Γ BL R A :=
 ⟨o, by simpa using ho, hg, Unit, fun _ => v, fun _ _ => True, fun _ _ _ _ _ => trivial, fun x w hst hR => by unfold Oper.wp; rw [hv x w hst hR]; exact ⟨(), rfl, Fr.refl _ _, trivial⟩, fun _ => Lad.weaken s (fun w h => h.1) h⟩
theorem d0S {id : Nat} {a : Act} {w : World} (hst : St S w0 w BL) (R : World → Prop) (hR : R w.drew) (hRm : ∀ w w', R w → Fr Nob w w' → R w') (m : Nat) (s : List LS) (tl : Pl) (hm : P.follows .mixedOrders = true) (hB : m0V l.toArray m s tl = true)
  (hQ : ∀ c (d : Option Tmp) v a w, Q (.panic c) (Act.put a d v) w → Q (.panic c) a w)
  (h : Lad P l.toArray Q (fun w => St S w0 w BL) S w0 tl s [] BL R (fun _ => a)) : (Code.region id l.toArray true).wp P Q a w := by
 simp only [m0V, Bool.and_eq_true, decide_eq_true_eq] at hB
 obtain ⟨⟨⟨hsel, hms⟩, hlen⟩, hok⟩ := hB
 have hmk : e0m (Array.replicate l.toArray.size false) (List.map Prod.fst ([] : List (Nat × Value × Blk))) = Array.replicate l.toArray.size false := by
  refine e0G (b0t _ _) fun k hk => ?_
  rw [c0o _ _ _ (by simpa [b0t] using hk)]; simp
 have inv0 : Cl .any l.toArray (Array.replicate l.toArray.size false) :=
  ⟨by simp, fun j oj _ hl => (by rw [getD_replicate_false] at hl; cases hl)⟩
 have H := i0p (md := .any) (Sx := fun w => St S w0 w BL) hsel hms hQ (l.toArray.size + s.length) l.toArray.size s [] (Array.replicate l.toArray.size false) [] (fun _ => undef) w.drew BL R (fun _ => a)
  (Nat.le_refl _) (by simp [hlen]) ap14 ap14 ap14 (by rw [hmk]; exact inv0) hok ap14 ⟨by simp, by simp, by simp, fun _ _ _ _ => rfl⟩ ap14 (by simpa using hst.drew) hR hRm (fun _ h => h) h
 rw [hmk] at H
 exact wp_region_any hm (d0w _ _ _ _ H)
end
end Go.Mv
namespace Go.Proofs.YtemcankmggmgoaaGreat
section
open Go.RowKit Go.Mv Mvp Mvq
attribute [local irreducible] a0y lw mix cw b0q b0r b0i beN b0x a0Q a0A a0J elN mdL a0N rtV b0S kN kc c0u a0O RT.L gXn gYn
end
section
open Go.RowKit Go.Mv Mvp Mvq
end
section
open Go.RowKit Go.Mv Mvp Mvq
attribute [local irreducible] a0y lw mix cw b0q b0r b0i beN b0x a0Q a0A a0J elN mdL a0N rtV b0S kN kc c0u a0O RT.L gXn gYn
end
section
open Go.RowKit Go.Mv Mvp Mvq
theorem q0S (l : List UInt8) (a : Nat) : l.foldl (fun a x => a * 256 + x.toNat) a = a * 256 ^ l.length + beN l := by
 unfold beN
 induction l generalizing a with
 | nil => simp
 | cons x l ih =>
  rw [List.foldl_cons, List.foldl_cons, ih, ih (0 * 256 + x.toNat), List.length_cons, Nat.pow_succ]
  rw [Nat.zero_mul, Nat.zero_add, Nat.add_mul, Nat.mul_assoc, Nat.mul_comm 256]
  omega
theorem beN_cons (x : UInt8) (l : List UInt8) : beN (x :: l) = x.toNat * 256 ^ l.length + beN l := by
 have h := q0S l (0 * 256 + x.toNat)
 rw [Nat.zero_mul, Nat.zero_add] at h
 show List.foldl _ 0 (x :: l) = _
 rw [List.foldl_cons, Nat.zero_mul, Nat.zero_add]
 exact h
theorem beN_zero : ∀ l : List UInt8, beN l = 0 → l = List.replicate l.length 0
 | [], _ => rfl
 | x :: l, h => by
  rw [beN_cons] at h
  have h1 : x.toNat * 256 ^ l.length = 0 := by omega
  have h2 : beN l = 0 := by omega
  have hx : x = 0 := by
   rcases Nat.mul_eq_zero.1 h1 with h | h
   ·exact UInt8.toNat_inj.1 (by rw [h]; rfl)
   ·exact absurd h (Nat.pos_iff_ne_zero.1 (Nat.pow_pos ap12))
  have ih := beN_zero l h2
  rw [List.length_cons, List.replicate_succ, ← ih, hx]
attribute [local irreducible] rtV b0S rpL e0u beN a0Q
end
section
open Go.RowKit Go.Mv Mvp Mvq
theorem t_ok {lk la : List UInt8} (hk : a0N mQ lk = true) (ha : b0w la = true) : tC lk la = 0 ∧ tS lk la = a0O (a0v (beN lk) (a0W la)) := by unfold tC tS; rw [hk, ha]; exact ⟨rfl, rfl⟩
end
end Go.Proofs.YtemcankmggmgoaaGreat
namespace Mvp
end Mvp
namespace Go.Proofs.YtemcankmggmgoaaGreat
open Go.RowKit Go.Mv Mvp
attribute [local irreducible] a0y lw mix cw b0q b0r b0i beN b0x a0Q a0A a0J elN mdL a0V a0L a0N
end Go.Proofs.YtemcankmggmgoaaGreat
namespace Go.Mv
open Go.RowKit
theorem Has.ne {w : World} {g g' : Nat} {L L' : List Value} {T T' : TypeId} (h : Has w g L T) (h' : Has w g' L' T') (hT : T ≠ T') : g ≠ g' := by
 rintro rfl
 obtain ⟨_, _, h1, _⟩ := h
 obtain ⟨_, _, h2, _⟩ := h'
 rw [h1] at h2
 simp at h2
 exact hT h2.2.1
theorem Own.ne2 {w : World} {base base' sz sz' n n' : Nat} {T T' : TypeId} {v v' : Value} {L L' : List Value} (h : Own w base T sz v n L) (h' : Own w base' T' sz' v' n' L') (hT : T ≠ T') (k : Nat) (hk : h0Y v k) : ¬ h0Y v' k := by
 obtain ⟨_, ⟨rfl, _⟩ | ⟨g, o, cap, B, rfl, _, hg, _⟩⟩ := h'
 ·intro t; cases t
 ·intro t
  have e : g = k := by simpa [h0Y, Value.ownBlock] using t
  subst e
  exact h.ne hg hT hk
end Go.Mv
namespace Go.Proofs.YtemcankmggmgoaaGreat
section
open Go.RowKit Go.Mv Mvp
attribute [local irreducible] b0k b0u toB a0z a0E b0s a0H c0n b0l a0F c0z
theorem LogAt.at' {w : World} {base g : Nat} {l : List UInt8} (h : LogAt w base g l) : ∃ v, Has w g [v] 228 := ⟨h.choose, h.choose_spec.1⟩
theorem LogAt.own {w w' : World} {base g : Nat} {l : List UInt8} {S : Nat → Prop} (h : LogAt w base g l) (hf : Fr S w w') (hg : ¬ S g) (hs : ∀ v, Own w base 5 1 v 32 (bs l) → ∀ k, h0Y v k → ¬ S k) : LogAt w' base g l := by
 obtain ⟨v, h1, h2⟩ := h
 exact ⟨v, h1.keep hf hg, h2.keep hf (hs v h2)⟩
abbrev Tri : Type := Nat × Nat × List UInt8
def y0l (T : List Tri) : List Value := T.map fun t => .pointer (some ⟨t.1, 0, none⟩)
def y0m (T : List Tri) : List Value := T.map fun t => .pointer (some ⟨t.2.1, 0, none⟩)
structure LI (w : World) (base ga gb : Nat) (sa sb : List UInt8) (T : List Tri) (vk : Value) (Lk : List Value) (vw : Value) (Lw : List Value) : Prop where
 la : sa.length = 32
 lb : sb.length = 32
 a : LogAt w base ga sa
 b : RLogAt w gb sb
 each : ∀ t ∈ T, LogAt w base t.1 t.2.2 ∧ RLogAt w t.2.1 t.2.2 ∧ t.2.2.length = 32
 na : (ga :: T.map (·.1)).Nodup
 nb : (gb :: T.map (·.2.1)).Nodup
 k : Own w base 126 1 vk Lk.length Lk
 w : Own w base 135 1 vw Lw.length Lw
 bs : base ≤ ga ∧ base ≤ gb ∧ ∀ t ∈ T, base ≤ t.1 ∧ base ≤ t.2.1
variable {w w' : World} {base ga gb : Nat} {sa sb : List UInt8} {T : List Tri} {vk vw : Value} {Lk Lw : List Value}
theorem LI.still (h : LI w base ga gb sa sb T vk Lk vw Lw) (hf : Fr Nob w w') : LI w' base ga gb sa sb T vk Lk vw Lw :=
 ⟨h.la, h.lb, h.a.still hf, Has.keep h.b hf id, fun t ht => ⟨(h.each t ht).1.still hf, Has.keep (h.each t ht).2.1 hf id, (h.each t ht).2.2⟩, h.na, h.nb, h.k.still hf, h.w.still hf, h.bs⟩
theorem LI.stepB (h : LI w base ga gb sa sb T vk Lk vw Lw) (hf : Fr (One gb) w w') {sb' : List UInt8} (hb : RLogAt w' gb sb') (hl : sb'.length = 32) : LI w' base ga gb sa sb' T vk Lk vw Lw := by
 have hv := h.b
 obtain ⟨v, hav⟩ := h.a.at'
 refine ⟨h.la, hl, h.a.other hf (Has.ne hav hv ap12) hv ap12, hb, fun t ht => ⟨(h.each t ht).1.other hf (Has.ne (h.each t ht).1.at'.choose_spec hv ap12) hv ap12, Has.keep (h.each t ht).2.1 hf ?_, (h.each t ht).2.2⟩, h.na, h.nb,
  h.k.keep hf (fun k hk (e : k = gb) => h.k.ne hv ap12 (e ▸ hk)), h.w.keep hf (fun k hk (e : k = gb) => h.w.ne hv ap12 (e ▸ hk)), h.bs⟩
 have hn := (List.nodup_cons.1 h.nb).1
 intro (e : t.2.1 = gb)
 exact hn (e ▸ List.mem_map.2 ⟨t, ht, rfl⟩)
structure LJ (w : World) (base : Nat) (T : List Tri) (j : Nat) (vk vw : Value) : Prop where
 each : ∀ i t, j ≤ i → T[i]? = some t → LogAt w base t.1 t.2.2 ∧ RLogAt w t.2.1 t.2.2 ∧ t.2.2.length = 32
 na : (T.map (·.1)).Nodup
 nb : (T.map (·.2.1)).Nodup
 k : Own w base 126 1 vk T.length (y0l T)
 w : Own w base 135 1 vw T.length (y0m T)
 bs : ∀ t ∈ T, base ≤ t.1 ∧ base ≤ t.2.1
theorem LI.last (h : LI w base ga gb sa sa T vk (y0l (T ++ [(ga, gb, sa)])) vw (y0m (T ++ [(ga, gb, sa)]))) : LJ w base (T ++ [(ga, gb, sa)]) 0 vk vw := by
 have h1 := List.nodup_cons.1 h.na
 have h2 := List.nodup_cons.1 h.nb
 have hlk : (y0l (T ++ [(ga, gb, sa)])).length = (T ++ [(ga, gb, sa)]).length := by simp [y0l]
 have hlw : (y0m (T ++ [(ga, gb, sa)])).length = (T ++ [(ga, gb, sa)]).length := by simp [y0m]
 refine ⟨?_, ?_, ?_, hlk ▸ h.k, hlw ▸ h.w, ?_⟩
 ·intro i t _ ht
  rcases List.mem_append.1 (List.mem_of_getElem? ht) with ht | ht
  ·exact h.each t ht
  ·simp only [List.mem_singleton] at ht
   subst ht
   exact ⟨h.a, h.b, h.la⟩
 ·rw [List.map_append, List.nodup_append]
  refine ⟨h1.2, by simp, ?_⟩
  intro x hx y hy e
  simp only [List.map_cons, List.map_nil, List.mem_singleton] at hy
  subst hy; subst e
  exact h1.1 hx
 ·rw [List.map_append, List.nodup_append]
  refine ⟨h2.2, by simp, ?_⟩
  intro x hx y hy e
  simp only [List.map_cons, List.map_nil, List.mem_singleton] at hy
  subst hy; subst e
  exact h2.1 hx
 ·intro t ht
  rcases List.mem_append.1 ht with ht | ht
  ·exact h.bs.2.2 t ht
  ·simp only [List.mem_singleton] at ht
   subst ht
   exact ⟨h.bs.1, h.bs.2.1⟩
theorem n0k {α : Type} {l : List α} (h : l.Nodup) {i j : Nat} {x y : α} (hi : l[i]? = some x) (hj : l[j]? = some y) (hne : i ≠ j) : x ≠ y := by
 intro e
 subst e
 have hi' := (List.getElem?_eq_some_iff.1 hi)
 have hj' := (List.getElem?_eq_some_iff.1 hj)
 obtain ⟨a, ha⟩ := hi'
 obtain ⟨b, hb⟩ := hj'
 rcases Nat.lt_or_gt_of_ne hne with k | k
 ·exact (List.pairwise_iff_getElem.1 h) i j a b k (ha.trans hb.symm)
 ·exact (List.pairwise_iff_getElem.1 h) j i b a k (hb.trans ha.symm)
theorem LJ.step {j : Nat} (h : LJ w base T j vk vw) {t : Tri} (ht : T[j]? = some t) {w1 w2 : World} (h1 : Fr (One t.1) w w1) (h2 : Fr (One t.2.1) w1 w2) : LJ w2 base T (j + 1) vk vw := by
 obtain ⟨ha, hb, -⟩ := h.each j t (Nat.le_refl _) ht
 obtain ⟨v, hv⟩ := ha.at'
 have hb1 : RLogAt w1 t.2.1 t.2.2 := Has.keep hb h1 (Has.ne hb hv ap12)
 have k1 := h.k.keep h1 (fun k hk (e : k = t.1) => h.k.ne hv ap12 (e ▸ hk))
 have l1 := h.w.keep h1 (fun k hk (e : k = t.1) => h.w.ne hv ap12 (e ▸ hk))
 refine ⟨?_, h.na, h.nb, k1.keep h2 (fun k hk (e : k = t.2.1) => k1.ne hb1 ap12 (e ▸ hk)), l1.keep h2 (fun k hk (e : k = t.2.1) => l1.ne hb1 ap12 (e ▸ hk)), h.bs⟩
 intro i u hi hu
 obtain ⟨c, d, e⟩ := h.each i u ap13 hu
 have n1 : u.1 ≠ t.1 := n0k h.na (i := i) (j := j) (by simp [List.getElem?_map, hu]) (by simp [List.getElem?_map, ht]) ap13
 have n2 : u.2.1 ≠ t.2.1 := n0k h.nb (i := i) (j := j) (by simp [List.getElem?_map, hu]) (by simp [List.getElem?_map, ht]) ap13
 have c1 := c.other h1 n1 hv ap12
 have d1 : RLogAt w1 u.2.1 u.2.2 := Has.keep d h1 (Has.ne d hv ap12)
 exact ⟨c1.other h2 (Has.ne c1.at'.choose_spec hb1 ap12) hb1 ap12, Has.keep d1 h2 n2, e⟩
end
section
open Go.RowKit Go.Mv Mvp Mvt
attribute [local irreducible] b0k b0u toB a0z a0E b0s a0H c0n b0l a0F c0z
def POwn (w : World) (base : Nat) : List Value → List (List UInt8) → Prop
 | [], [] => True
 | v :: vs, l :: ls => Own w base 5 1 v l.length (bs l) ∧ POwn w base vs ls
 | _, _ => False
theorem POwn.len {w : World} {base : Nat} : ∀ {vs : List Value} {ls : List (List UInt8)}, POwn w base vs ls → vs.length = ls.length
 | [], [], _ => rfl
 | _ :: _, _ :: _, h => by simp only [List.length_cons]; rw [POwn.len h.2]
 | [], _ :: _, h => h.elim
 | _ :: _, [], h => h.elim
theorem POwn.keep {w w' : World} {base : Nat} {S : Nat → Prop} (hf : Fr S w w') : ∀ {vs : List Value} {ls : List (List UInt8)}, POwn w base vs ls → (∀ v n l, Own w base 5 1 v n (bs l) → ∀ k, h0Y v k → ¬ S k) → POwn w' base vs ls
 | [], [], _, _ => trivial
 | _ :: _, _ :: _, h, hs => ⟨h.1.keep hf (hs _ _ _ h.1), POwn.keep hf h.2 hs⟩
 | [], _ :: _, h, _ => h.elim
 | _ :: _, [], h, _ => h.elim
theorem POwn.still {w w' : World} {base : Nat} {vs : List Value} {ls : List (List UInt8)} (h : POwn w base vs ls) (hf : Fr Nob w w') : POwn w' base vs ls := POwn.keep hf h (fun _ _ _ _ _ _ t => t)
theorem POwn.app {w w' : World} {base base' sz n : Nat} {vs : List Value} {ls : List (List UInt8)} (h : POwn w base vs ls) {q : Value} {T : TypeId} {L : List Value} (hq : Own w base' T sz q n L) (hT : 5 ≠ T) (hf : Fr (h0Y q) w w') : POwn w' base vs ls :=
 POwn.keep hf h (fun _ _ _ ho k hk hk' => ho.ne2 hq hT k hk hk')
theorem POwn.snoc {w : World} {base : Nat} {v : Value} {l : List UInt8} (hv : Own w base 5 1 v l.length (bs l)) : ∀ {vs : List Value} {ls : List (List UInt8)}, POwn w base vs ls → POwn w base (vs ++ [v]) (ls ++ [l])
 | [], [], _ => ⟨hv, trivial⟩
 | _ :: _, _ :: _, h => ⟨h.1, POwn.snoc hv h.2⟩
 | [], _ :: _, h => h.elim
 | _ :: _, [], h => h.elim
theorem POwn.parts {w : World} {base : Nat} : ∀ {vs : List Value} {ls : List (List UInt8)}, POwn w base vs ls → (∀ x ∈ ls, x.length ≤ 1000000) → Parts w vs ls
 | [], [], _, _ => trivial
 | _ :: _, _ :: _, h, hx => ⟨b0Z h.1 (hx _ ap14), POwn.parts h.2 (fun x hxm => hx x (by simp [hxm]))⟩
 | [], _ :: _, h, _ => h.elim
 | _ :: _, [], h, _ => h.elim
def LOwn (w : World) (base : Nat) (v : Value) (ls : List (List UInt8)) : Prop := ∃ vs, Own w base 22 1 v ls.length vs ∧ POwn w base vs ls
theorem LOwn.still {w w' : World} {base : Nat} {v : Value} {ls : List (List UInt8)} (h : LOwn w base v ls) (hf : Fr Nob w w') : LOwn w' base v ls := by
 obtain ⟨vs, h1, h2⟩ := h; exact ⟨vs, h1.still hf, h2.still hf⟩
theorem LOwn.parts {w : World} {base : Nat} {v : Value} {ls : List (List UInt8)} (h : LOwn w base v ls) (hx : ∀ x ∈ ls, x.length ≤ 1000000) : ∃ a c, v = .slice a ls.length c ∧ ls.length ≤ c ∧ PartsAt w a ls := by
 obtain ⟨vs, h1, h2⟩ := h
 obtain ⟨a, c, rfl, hc, hr, -⟩ := h1.form
 rw [Nat.mul_one] at hr
 exact ⟨a, c, rfl, hc, vs, hr, (h2.parts hx).get⟩
end
section
open Go.RowKit Go.Mv Mvp Mvt
attribute [local irreducible] b0k b0u toB a0z a0E b0s a0H c0n b0l a0F c0z
def Sep (vs : List Value) : Prop := vs.Pairwise fun a b => ∀ k, h0Y a k → ¬ h0Y b k
theorem Sep.nil : Sep [] := List.Pairwise.nil
theorem POwn.get {w : World} {base : Nat} : ∀ {vs : List Value} {ls : List (List UInt8)}, POwn w base vs ls → ∀ (i : Nat) (v : Value), vs[i]? = some v → ∃ l, ls[i]? = some l ∧ Own w base 5 1 v l.length (bs l)
 | [], [], _, i, v, hv => by simp at hv
 | a :: vs, l :: ls, h, 0, v, hv => by simp at hv; subst hv; exact ⟨l, rfl, h.1⟩
 | a :: vs, l :: ls, h, i + 1, v, hv => by simp at hv; obtain ⟨l', h1, h2⟩ := POwn.get h.2 i v hv; exact ⟨l', by simpa using h1, h2⟩
 | [], _ :: _, h, _, _, _ => h.elim
 | _ :: _, [], h, _, _, _ => h.elim
theorem POwn.mem {w : World} {base : Nat} {vs : List Value} {ls : List (List UInt8)} (h : POwn w base vs ls) {v : Value} (hv : v ∈ vs) : ∃ l, l ∈ ls ∧ Own w base 5 1 v l.length (bs l) := by
 obtain ⟨i, hi⟩ := List.getElem?_of_mem hv
 obtain ⟨l, h1, h2⟩ := h.get i v hi
 exact ⟨l, List.mem_of_getElem? h1, h2⟩
theorem Sep.snoc {w w' : World} {base : Nat} {vs : List Value} {ls : List (List UInt8)} (h : Sep vs) (hp : POwn w base vs ls) {v : Value} {n : Nat} {L : List Value} {T : TypeId} (hv : Own w' w.heap.size T 1 v n L) : Sep (vs ++ [v]) := by
 unfold Sep at *
 rw [List.pairwise_append]
 refine ⟨h, by simp, fun a ha b hb k hk hk' => ?_⟩
 simp only [List.mem_singleton] at hb
 subst hb
 obtain ⟨l, _, ho⟩ := hp.mem ha
 have h1 := (ho.lt hk).2
 have h2 := (hv.lt hk').1
 omega
theorem POwn.mono {w : World} {base base' : Nat} (hb : base' ≤ base) : ∀ {vs : List Value} {ls : List (List UInt8)}, POwn w base vs ls → POwn w base' vs ls
 | [], [], _ => trivial
 | _ :: _, _ :: _, h => ⟨h.1.mono hb, POwn.mono hb h.2⟩
 | [], _ :: _, h => h.elim
 | _ :: _, [], h => h.elim
def SOwn (w : World) (base : Nat) (v : Value) (ls : List (List UInt8)) : Prop := ∃ vs, Own w base 22 1 v ls.length vs ∧ POwn w base vs ls ∧ Sep vs
theorem SOwn.nil (w : World) (base : Nat) : SOwn w base (.slice none 0 0) [] := ⟨[], Own.nil _ _ _ _, trivial, Sep.nil⟩
theorem SOwn.still {w w' : World} {base : Nat} {v : Value} {ls : List (List UInt8)} (h : SOwn w base v ls) (hf : Fr Nob w w') : SOwn w' base v ls := by
 obtain ⟨vs, h1, h2, h3⟩ := h; exact ⟨vs, h1.still hf, h2.still hf, h3⟩
end
end Go.Proofs.YtemcankmggmgoaaGreat
namespace Mvp
def lenV : Go.Value → Nat
 | .slice _ n _ => n
 | _ => 0
end Mvp
namespace Go.Proofs.YtemcankmggmgoaaGreat
open Go.RowKit Go.Mv Mvp
theorem SOwn.mono {w : World} {base base' : Nat} {v : Value} {ls : List (List UInt8)} (h : SOwn w base v ls) (hb : base' ≤ base) : SOwn w base' v ls := by
 obtain ⟨vs, h1, h2, h3⟩ := h; exact ⟨vs, h1.mono hb, h2.mono hb, h3⟩
theorem SOwn.snocF {w w1 w2 w3 : World} {base : Nat} {vs : List Value} {ls : List (List UInt8)} {o v o' : Value} {l : List UInt8}
  (hown : Own w base 22 1 o ls.length vs) (hpo : POwn w base vs ls) (hsep : Sep vs) (hb : base ≤ w.heap.size)
  (hv : Own w1 w.heap.size 5 1 v l.length (bs l)) (hf1 : Fr Nob w w1) (hf2 : Fr Nob w1 w2)
  (ho' : Own w3 base 22 1 o' (ls.length + 1) (vs ++ [v])) (hf3 : Fr (h0Y o) w2 w3) : SOwn w3 base o' (ls ++ [l]) := by
 have h12 := hf1.then hf2
 have hv2 := (hv.still hf2).mono hb
 have ho2 := hown.still h12
 refine ⟨vs ++ [v], by simpa using ho', POwn.snoc (hv2.keep hf3 (fun k hk hk' => hv2.ne2 ho2 ap12 k hk hk')) ((hpo.still h12).app ho2 ap12 hf3), hsep.snoc hpo hv⟩
attribute [local irreducible] a0y lw mix cw b0q b0r b0i beN b0x a0Q a0A a0J elN mdL a0V a0L a0N
end Go.Proofs.YtemcankmggmgoaaGreat
namespace Mvp
end Mvp
namespace Go.Proofs.YtemcankmggmgoaaGreat
section
open Go.RowKit Go.Mv Mvp
theorem q0T {w : World} {b o n : Nat} {vs : List Value} (h : Rd w (some ⟨b, o, none⟩) n vs) (i : Nat) (v : Value) (hv : vs[i]? = some v) : w.cell? ⟨b, o + i, none⟩ = some v := by
 have h1 := u0V h 0 vs ap14
 have h2 := h1 i v hv
 simpa using h2
attribute [local irreducible] a0y lw mix cw b0q b0r b0i beN b0x a0Q a0A a0J elN mdL a0N a0L a0V
end
section
open Go.RowKit Go.Mv Mvp Mvq
noncomputable def smL (ln lp : List (List UInt8)) (k : Nat) : List (Nat × Pt) := (List.range k).map fun i => (beN (ln.getD i []), a0W (lp.getD i []))
def j0w (ln lp : List (List UInt8)) : Nat := if ln.length = lp.length then (if ln.length ≤ 512 then (if a0L mQ ln then (if c0P lp then 0 else 4) else 3) else 1) else 2
noncomputable def g0u (ln lp : List (List UInt8)) : List UInt8 := if ln.length = lp.length then (if ln.length ≤ 512 then (if a0L mQ ln then (if c0P lp then a0O (d0V (smL ln lp lp.length)) else []) else []) else []) else []
theorem t0h {ls : List (List UInt8)} (h : c0P ls = true) (i : Nat) (hi : i < ls.length) : b0w (ls.getD i []) = true := by
 unfold c0P at h
 rw [List.all_eq_true] at h
 refine h _ ?_
 rw [List.getD_eq_getElem?_getD, List.getElem?_eq_getElem hi]
 exact List.getElem_mem hi
theorem o0k {ls : List (List UInt8)} (h : a0L mQ ls = true) (i : Nat) (hi : i < ls.length) : a0N mQ (ls.getD i []) = true := by
 unfold a0L at h
 rw [List.all_eq_true] at h
 refine h _ ?_
 rw [List.getD_eq_getElem?_getD, List.getElem?_eq_getElem hi]
 exact List.getElem_mem hi
theorem x0L {ln lp : List (List UInt8)} (hl : ln.length = lp.length) (hn : a0L mQ ln = true) (hp : c0P lp = true) : (g0c (l0c (aK ln ln.length) lp)).pt = d0V (smL ln lp lp.length) := by
 have e : l0a (l0c (aK ln ln.length) lp) = smL ln lp lp.length := by
  unfold l0a l0c smL
  rw [List.map_map]
  refine List.map_congr_left fun i hi => ?_
  have hi := List.mem_range.1 hi
  show (aK ln ln.length i, (rdT (lp.getD i [])).pt) = _
  rw [t0V (t0h hp i hi)]
  unfold aK
  rw [if_pos ap13]
 rw [j0p _ ?_, e]
 intro t ht
 unfold l0c at ht
 obtain ⟨i, hi, rfl⟩ := List.mem_map.1 ht
 have hi := List.mem_range.1 hi
 show aK ln ln.length i < _
 unfold aK
 rw [if_pos ap13]
 exact Nat.lt_trans (c0D (o0k hn i ap13)) q16
theorem v0O (al : Option Addr) (cl : Nat) (vs : List Value) (ln : List (List UInt8)) (bl : Option Addr) (dl : Nat) (us : List Value) (lp : List (List UInt8)) (w : World) (hv : Rd w al ln.length vs) (hp : BParts w vs ln) (hu : Rd w bl lp.length us) (hq : BParts w us lp) :
  Calls Tryz.prog 132 #[.slice al ln.length cl, .slice bl lp.length dl] w fun e w' => ∃ v, e = .returned (.tuple #[v, .int .i64 (j0w ln lp : Nat)]) ∧ OwnB1 w w' v (g0u ln lp) ∧ Fr Nob w w' := by
 by_cases h1 : ln.length = lp.length
 ·rw [← h1] at hu ⊢
  by_cases h2 : ln.length ≤ 512
  ·cases hn : a0L mQ ln
   ·refine (t0e al _ cl vs ln bl dl us lp w hv hp hu hq h2 hn).mono fun e w' k => ⟨.slice none 0 0, ?_, ?_, k.2⟩
    ·rw [k.1]; unfold j0w; rw [if_pos h1, if_pos h2, hn]; rfl
    ·unfold g0u; rw [if_pos h1, if_pos h2, hn]; exact OwnB1.nil _ _
   ·cases hr : c0P lp
    ·refine (t0d al _ cl vs ln bl dl us lp w hv hp hu hq h2 hn hr).mono fun e w' k => ⟨.slice none 0 0, ?_, ?_, k.2⟩
     ·rw [k.1]; unfold j0w; rw [if_pos h1, if_pos h2, hn, hr]; rfl
     ·unfold g0u; rw [if_pos h1, if_pos h2, hn, hr]; exact OwnB1.nil _ _
    ·refine (x0K al _ cl vs ln bl dl us lp w hv hp hu hq h2 hn hr).mono fun e w' k => ?_
     obtain ⟨v, k1, k2, k3⟩ := k
     rw [x0L h1 hn hr] at k2
     refine ⟨v, ?_, ?_, k3⟩
     ·rw [k1]; unfold j0w; rw [if_pos h1, if_pos h2, hn, hr]; rfl
     ·unfold g0u; rw [if_pos h1, if_pos h2, hn, hr]; exact OwnB1.of k2 (b0b _)
  ·refine (t0g al _ cl bl dl w ap13).mono fun e w' k => ⟨.slice none 0 0, ?_, ?_, k.2⟩
   ·rw [k.1]; unfold j0w; rw [if_pos h1, if_neg h2]; rfl
   ·unfold g0u; rw [if_pos h1, if_neg h2]; exact OwnB1.nil _ _
 ·refine (t0f al _ cl bl _ dl w h1).mono fun e w' k => ⟨.slice none 0 0, ?_, ?_, k.2⟩
  ·rw [k.1]; unfold j0w; rw [if_neg h1]; rfl
  ·unfold g0u; rw [if_neg h1]; exact OwnB1.nil _ _
attribute [local irreducible] a0y lw mix cw b0q b0r b0i beN b0x a0Q a0A a0J elN mdL a0N rtV b0S kN kc c0u a0O RT.L gXn gYn rpL b0w a0W a0L c0P
end
section
open Go.RowKit Go.Mv Mvp Mvq
attribute [local irreducible] a0y lw mix cw b0q b0r b0i beN b0x a0Q a0A a0J elN mdL a0N rtV b0S a0O b0w a0W a0L c0P j0w g0u a0v
theorem j0x (m : Md) (hk : KindOf 1 m) (x : Nat) (w : World) :
  Calls Tryz.prog 64 #[i4 (elN m x)] w fun e w' => e = .returned (i4 (elN m (m.M - x % m.M))) ∧ Fr Nob w w' := by
 have HK := qH hk
 have HOK := qH hk.ok
 clear hk
 have st0 := St.start Nob w
 go_enter Tryz.func64, Tryz.ntmps64
 go_wp2_with (with_reducible refine wSk 1 ?_)
 refine a0q st0 rfl rfl rfl (cw 4 (elN m x)) rfl ?_
 intro g1 w1 st1
 clear st0
 go_wp2_with (with_reducible refine wSk 2 ?_)
 refine a0a st1 rfl rfl (z := zAd) ap11 (cw 4 0) ap9 ?_
 intro g2 w2 st2
 clear st1
 go_wp2_with fail
 refine wp_region_noPanic ?_
 refine a0l (fun wx => St Nob w wx [(g1, cw 4 (elN m x), 68), (g2, cw 4 0, 68)]) 5 (.w 1 (.t 2 (.r 0 (.r 3 (.w 4 (.m 5 .nil)))))) ap11 ap11 st2.drew (fun _ _ _ _ _ h => h) ?_
 have hd2 := st2.drew
 clear st2
 refine a0c rfl rfl apW ?_
 try simp only [clL]
 refine a0n rfl rfl rfl rfl (cw 4 (elN m x)) (fun wx hS => St.rangeL hS 0 rfl 0 _ dZl) Tryz.underlying66 rfl ap4 ?_
 try simp only [clL]
 refine a0r rfl rfl ?_
 go_simp
 refine (c0S m HK.out _).mono ?_
 rintro e' w3 ⟨gp, rfl, hle, hm, hf3⟩
 have st3 : St Nob w w3 [(g1, cw 4 (elN m x), 68), (g2, cw 4 0, 68), (gp, mdL m, 187)] := hd2.new hf3 hm hle
 clear hf3 hm hle
 clear hd2
 refine ⟨St.less st3 ap14, ?_⟩
 try simp only [clL]
 refine a0r rfl rfl ?_
 go_simp
 refine (i0X m gp _ HOK.out (st3.at 2 rfl) x).mono ?_
 rintro e' w4 ⟨rfl, hf4⟩
 have st4 := st3.keep hf4
 clear hf4
 clear st3
 refine ⟨St.less st4 ap14, ?_⟩
 try simp only [clL]
 refine a0c rfl rfl (b0A rfl _ (f0X _)) ?_
 try simp only [clL]
 refine a0p rfl rfl ?_
 refine a0i st4 1 rfl rfl rfl rfl ap5 ap4 (a0d _ _) ?_
 intro w5 st5
 clear st4
 try simp only [Act.put]
 refine a0f ?_
 refine NoPanic.normal ?_
 have hr := st5.at 1 rfl
 have hfr := st5.fr
 clear st5
 go_wp2_with fail
 exact bodyPost_ret (a0B rfl rfl hr Tryz.underlying68 rfl ap4) rfl ⟨rfl, hfr⟩
theorem e0q (x : Nat) (w : World) : Calls Tryz.prog 51 #[i4 (elN mQ x)] w fun e w' => ∃ y : Option Addr × Nat, e = .returned (.slice y.1 32 y.2) ∧ BPart w' (.slice y.1 32 y.2) (a0Q (x % mQ.M)) ∧ Fr Nob w w' := by
 refine (f0Y mQ .one x w).mono ?_
 rintro e w' ⟨v, rfl, ho, hf⟩
 obtain ⟨a, c, rfl, hc, hr, -⟩ := ho.form
 rw [Nat.mul_one] at hr
 exact ⟨(a, c), rfl, ⟨a, 32, c, rfl, hc, hr⟩, hf⟩
end
section
open Go.RowKit Go.Mv Mvp Mvq
def OwnU (w : World) (v : Value) (l : List UInt8) : Prop := Own w 0 5 1 v l.length (bs l)
theorem OwnU.part {w : World} {v : Value} {l : List UInt8} (h : OwnU w v l) : BPart w v l := Own.part h
theorem OwnU.still {w w' : World} {v : Value} {l : List UInt8} (h : OwnU w v l) (hf : Fr Nob w w') : OwnU w' v l := Own.still h hf
theorem OwnU.nil (w : World) : OwnU w (.slice none 0 0) [] := Own.nil _ _ _ _
attribute [local irreducible] a0y lw mix cw b0q b0r b0i beN b0x a0Q a0A a0J elN mdL a0N rtV b0S a0O b0w a0W a0L c0P j0w g0u a0v
end
end Go.Proofs.YtemcankmggmgoaaGreat
namespace Mvp
theorem v0P : ∀ (n : Nat) (l m : List UInt8), l.length = n → m.length = n → beN l = beN m → l = m := by
 intro n
 induction n with
 | zero => intro l m hl hm _; rw [List.length_eq_zero_iff.1 hl, List.length_eq_zero_iff.1 hm]
 | succ n ih =>
  intro l m hl hm h
  obtain ⟨a, x, rfl⟩ : ∃ a x, l = a ++ [x] := by
   rcases List.eq_nil_or_concat l with h | ⟨a, x, h⟩
   ·subst h; simp at hl
   ·exact ⟨a, x, by simpa using h⟩
  obtain ⟨b, y, rfl⟩ : ∃ b y, m = b ++ [y] := by
   rcases List.eq_nil_or_concat m with h | ⟨a, x, h⟩
   ·subst h; simp at hm
   ·exact ⟨a, x, by simpa using h⟩
  rw [e0h, e0h] at h
  have hx := x.toNat_lt
  have hy := y.toNat_lt
  have e : beN a = beN b := by omega
  have e2 : x.toNat = y.toNat := by omega
  rw [ih a b (by simpa using hl) (by simpa using hm) e, UInt8.toNat_inj.1 e2]
theorem beN_zero {l : List UInt8} (h : beN l = 0) : l = List.replicate l.length 0 := by
 refine v0P l.length _ _ rfl ap14 ?_
 rw [h]
 generalize l.length = n
 induction n with
 | zero => rfl
 | succ n ih => rw [List.replicate_succ', e0h, ← ih]; rfl
end Mvp
namespace Mvq
open Mvp
end Mvq
namespace Go.Proofs.YtemcankmggmgoaaGreat
open Go.RowKit Go.Mv Mvp Mvq
attribute [local irreducible] a0y lw mix cw b0q b0r b0i beN b0x a0Q a0A a0J elN mdL a0N rtV b0S kN kc c0u a0O RT.L
end Go.Proofs.YtemcankmggmgoaaGreat
namespace Mvp
end Mvp
namespace Go.Proofs.YtemcankmggmgoaaGreat
section
open Go.RowKit Go.Mv Mvp
theorem BPart.ofOwn {w : World} {base : Nat} {v : Value} {n : Nat} {l : List UInt8} (h : Own w base 5 1 v n (bs l)) : BPart w v l := by
 obtain ⟨a, c, rfl, hc, hr, -⟩ := h.form
 exact ⟨a, n, c, rfl, hc, by rw [Nat.mul_one] at hr; exact hr⟩
attribute [local irreducible] a0y lw mix cw b0q b0r b0i beN b0x a0Q a0A a0J elN mdL a0V a0L a0N
end
section
open Go.RowKit Go.Mv Mvp Mvq
theorem m0e : mQ.M = qN := by decide
attribute [local irreducible] a0y lw mix cw b0q b0r b0i beN b0x a0Q a0A a0J elN mdL a0N rtV b0S kN kc c0u a0O RT.L gXn gYn rpL b0w a0W
end
section
open Go.RowKit Go.Mv Mvp Mvq
theorem g0v (x : Nat) : beN (a0Q (x % mQ.M)) = x % mQ.M := m0I _ (Nat.lt_trans (Nat.mod_lt x ap12) ap12)
theorem c0F (x : Nat) : a0N mQ (a0Q (x % mQ.M)) = true := by
 unfold a0N
 rw [a0U, g0v, decide_eq_true rfl, decide_eq_true (Nat.mod_lt x ap12)]
 rfl
theorem u0a (p : Pt) : a0v 1 p = p := rfl
attribute [local irreducible] a0y lw mix cw b0q b0r b0i beN b0x a0Q a0A a0J elN mdL a0N rtV b0S kN kc c0u a0O RT.L gXn gYn rpL b0w a0W a0v j0w g0u
end
section
open Go.RowKit Go.Mv Mvp Mvq
noncomputable def c0b (xs : List Nat) : List Value := xs.flatMap fun x => cw 4 (elN mQ x)
theorem i0B : ∀ (xs : List Nat) (j : Nat) (hj : j < xs.length), ((c0b xs).drop (j * 4)).take 4 = cw 4 (elN mQ (xs[j]'hj))
 | x :: xs, 0, _ => by
  simp only [c0b, List.flatMap_cons, Nat.zero_mul, List.drop_zero, List.getElem_cons_zero]
  exact List.take_left' (a0e _ _)
 | x :: xs, j + 1, hj => by
  have h := i0B xs j (by simpa using hj)
  simp only [List.getElem_cons_succ]
  rw [← h]
  simp only [c0b, List.flatMap_cons]
  rw [show (j + 1) * 4 = (cw 4 (elN mQ x)).length + j * 4 by rw [a0e]; omega, List.drop_append, List.drop_of_length_le (Nat.le_add_right _ _), List.nil_append, Nat.add_sub_cancel_left]
theorem e0W (xs : List Nat) : (c0b xs).length = xs.length * 4 := by
 induction xs with
 | nil => rfl
 | cons x xs ih => simp only [c0b, List.flatMap_cons, List.length_append, a0e] at *; rw [ih, List.length_cons]; omega
noncomputable def zB (xs : List Nat) : List (List UInt8) := xs.map fun x => a0Q (x % mQ.M)
theorem v0Q (xs : List Nat) (j : Nat) (hj : j < xs.length) : (zB xs).take (j + 1) = (zB xs).take j ++ [a0Q (xs[j]'hj % mQ.M)] := by
 rw [List.take_succ_eq_append_getElem (by simpa [zB] using hj)]
 simp [zB]
theorem n0l (xs : List Nat) : (zB xs).length = xs.length := by simp [zB]
theorem a0Z : (Tryz.prog.info? 22).map (fun i => (i.zero, i.size, i.bytes)) = some (some (.slice none 0 0), 1, 24) := by kernel_rfl
attribute [local irreducible] a0y lw mix cw b0q b0r b0i beN b0x a0Q a0A a0J elN mdL a0N rtV b0S a0O b0w a0W a0L c0P j0w g0u a0v b0k b0u toB a0z a0E b0s a0H c0n b0l a0F c0z c0B c0b
theorem z0i (x y : Nat) (w : World) :
  Calls Tryz.prog 117 #[i4 (elN mQ x), i4 (elN mQ y)] w fun e w' => e = .returned (i4 (elN mQ (x + y))) ∧ Fr Nob w w' := by
 have st0 := St.start Nob w
 go_enter Tryz.func117, Tryz.ntmps117
 go_wp2_with (with_reducible refine wSk 2 ?_)
 refine a0q st0 rfl rfl rfl (cw 4 (elN mQ x)) rfl ?_
 intro g2 w1 st1
 clear st0
 go_wp2_with (with_reducible refine wSk 3 ?_)
 refine a0q st1 rfl rfl rfl (cw 4 (elN mQ y)) rfl ?_
 intro g3 w2 st2
 clear st1
 go_wp2_with (with_reducible refine wSk 4 ?_)
 refine a0a st2 rfl rfl (z := zAd) ap11 (cw 4 0) ap9 ?_
 intro g4 w3 st3
 clear st2
 go_wp2_with fail
 refine wp_region_noPanic ?_
 refine a0l (fun wx => St Nob w wx [(g2, cw 4 (elN mQ x), 68), (g3, cw 4 (elN mQ y), 68), (g4, cw 4 0, 68)]) 7 (.w 1 (.t 2 (.w 3 (.t 4 (.r 0 (.r 5 (.w 6 (.m 7 .nil)))))))) ap11 ap11 st3.drew (fun _ _ _ _ _ h => h) ?_
 have hd3 := st3.drew
 clear st3
 refine a0c rfl rfl apW ?_
 try simp only [clL]
 refine a0n rfl rfl rfl rfl (cw 4 (elN mQ x)) (fun wx hS => St.rangeL hS 0 rfl 0 _ dZl) Tryz.underlying66 rfl ap4 ?_
 try simp only [clL]
 refine a0c rfl rfl apW ?_
 try simp only [clL]
 refine a0n rfl rfl rfl rfl (cw 4 (elN mQ y)) (fun wx hS => St.rangeL hS 1 rfl 0 _ dZl) Tryz.underlying66 rfl ap4 ?_
 try simp only [clL]
 refine a0r rfl rfl ?_
 go_simp
 refine (c0S mQ .one _).mono ?_
 rintro e' w4 ⟨gp, rfl, hle, hm, hf4⟩
 have st4 : St Nob w w4 [(g2, cw 4 (elN mQ x), 68), (g3, cw 4 (elN mQ y), 68), (g4, cw 4 0, 68), (gp, mdL mQ, 187)] := hd3.new hf4 hm hle
 clear hf4 hm hle
 clear hd3
 refine ⟨St.less st4 ap14, ?_⟩
 try simp only [clL]
 refine a0r rfl rfl ?_
 go_simp
 refine (f0E mQ gp _ p0t (st4.at 3 rfl) x y).mono ?_
 rintro e' w5 ⟨rfl, hf5⟩
 have st5 := st4.keep hf5
 clear hf5
 clear st4
 refine ⟨St.less st5 ap14, ?_⟩
 try simp only [clL]
 refine a0c rfl rfl (b0A rfl _ (f0X _)) ?_
 try simp only [clL]
 refine a0p rfl rfl ?_
 refine a0i st5 2 rfl rfl rfl rfl ap5 ap4 (a0d _ _) ?_
 intro w6 st6
 clear st5
 try simp only [Act.put]
 refine a0f ?_
 refine NoPanic.normal ?_
 have hr := st6.at 2 rfl
 have hfr := st6.fr
 clear st6
 go_wp2_with fail
 exact bodyPost_ret (a0B rfl rfl hr Tryz.underlying68 rfl ap4) rfl ⟨rfl, hfr⟩
theorem t0i (z x y : Nat) (w : World) :
  Calls Tryz.prog 49 #[i4 (elN mQ z), i4 (elN mQ x), i4 (elN mQ y)] w fun e w' => e = .returned (i4 (elN mQ (z + x * y))) ∧ Fr Nob w w' := by
 have st0 := St.start Nob w
 go_enter Tryz.func49, Tryz.ntmps49
 go_wp2_with (with_reducible refine wSk 3 ?_)
 refine a0q st0 rfl rfl rfl (cw 4 (elN mQ z)) rfl ?_
 intro g3 w1 st1
 clear st0
 go_wp2_with (with_reducible refine wSk 4 ?_)
 refine a0q st1 rfl rfl rfl (cw 4 (elN mQ x)) rfl ?_
 intro g4 w2 st2
 clear st1
 go_wp2_with (with_reducible refine wSk 5 ?_)
 refine a0q st2 rfl rfl rfl (cw 4 (elN mQ y)) rfl ?_
 intro g5 w3 st3
 clear st2
 go_wp2_with (with_reducible refine wSk 6 ?_)
 refine a0a st3 rfl rfl (z := zAd) ap11 (cw 4 0) ap9 ?_
 intro g6 w4 st4
 clear st3
 go_wp2_with fail
 refine wp_region_noPanic ?_
 refine a0g st4 5 [.t 0, .t 1, .t 2, .c 3, .c 4] (.m 5 .nil) ap11 ap11 (fun _ _ _ _ _ h => h) ?_
 clear st4
 refine a0h rfl rfl rfl (fun _ => rfl) (cw 4 (elN mQ z)) (fun wx hS => St.rangeL hS 0 rfl 0 _ dZl) Tryz.underlying68 rfl ap4 ?_
 try simp only [clL]
 refine a0h rfl rfl rfl (fun _ => rfl) (cw 4 (elN mQ x)) (fun wx hS => St.rangeL hS 1 rfl 0 _ dZl) Tryz.underlying68 rfl ap4 ?_
 try simp only [clL]
 refine a0h rfl rfl rfl (fun _ => rfl) (cw 4 (elN mQ y)) (fun wx hS => St.rangeL hS 2 rfl 0 _ dZl) Tryz.underlying68 rfl ap4 ?_
 try simp only [clL]
 refine a0k rfl rfl rfl Tryz.call92 (fun w hS hR => s0g mQ .one x y _) (fun _ => rfl) ?_
 try simp only [clL]
 refine a0k rfl rfl rfl Tryz.call117 (fun w hS hR => z0i z (x * y) _) (fun _ => rfl) ?_
 try simp only [clL]
 refine a0I fun xq w5 st5 hR => ?_
 try dsimp only
 clear hR xq
 refine a0p rfl rfl ?_
 refine a0i st5 3 rfl rfl rfl rfl ap5 ap4 (a0d _ _) ?_
 intro w6 st6
 repeat (first | simp only [List.cons_append] at st6 | simp only [List.nil_append] at st6 | simp only [List.set_cons_succ] at st6 | simp only [List.set_cons_zero] at st6)
 clear st5
 try simp only [Act.put]
 refine a0f ?_
 refine NoPanic.normal ?_
 have hr := st6.at 3 rfl
 have hfr := st6.fr
 clear st6
 go_wp2_with fail
 exact bodyPost_ret (a0B rfl rfl hr Tryz.underlying68 rfl ap4) rfl ⟨rfl, hfr⟩
theorem t0j (al : Option Addr) (c : Nat) (xs : List Nat) (w : World) (hv : Rd w al (xs.length * 4) (c0b xs)) (hn : xs.length ≤ 100000) :
  Calls Tryz.prog 133 #[.slice al xs.length c] w fun e w' => ∃ v, e = .returned v ∧ SOwn w' w.heap.size v (zB xs) ∧ Fr Nob w w' := by
 have HV := qH hv
 clear hv
 go_enter Tryz.func133, Tryz.ntmps133
 go_wp2_with fail
 go_loopw [3, 8] (fun q i wr => ∃ j : Nat, j ≤ xs.length ∧ i = .int .i64 (j : Int) ∧ SOwn wr w.heap.size q ((zB xs).take j) ∧ Fr Nob w wr) (fun _ i _ => (xs.length - intOf i).toNat)
 case atStart => exact ⟨0, by omega, rfl, by rw [List.take_zero]; exact SOwn.nil _ _, Fr.refl _ _⟩
 case round =>
  obtain ⟨j, hj, rfl, hS, hfj⟩ := hrel
  by_cases hlt : j < xs.length
  ·have hltI : (j : Int) < (xs.length : Int) := by omega
   have hnI : (xs.length : Int) ≤ 100000 := by omega
   have hV := HV.out.still hfj
   obtain ⟨b, o, rfl, hat⟩ := hV.at ap13
   have hat4 : At wr b (o + j * 4) (cw 4 (elN mQ xs[j])) := by
    have := hat.sub (j * 4) 4
    rwa [i0B xs j hlt] at this
   have HTK := qH (v0Q xs j hlt)
   generalize xs[j] = x at *
   have HAT := qH hat4
   obtain ⟨vs, hown, hpo, hsep⟩ := hS
   have hll : ((zB xs).take j).length = j := by rw [List.length_take, n0l]; omega
   have hown0 := hown
   rw [hll] at hown
   have HLL := qH hll
   have HO0 := qH hown0
   have HO := qH hown
   have HPO := qH hpo
   have HSEP := qH hsep
   have HFJ := qH hfj
   have st0 := St.start Nob wr
   clear hV hat hat4 hll hown0 hown hpo hsep hfj
   go_wp2_with (with_reducible refine wSk 11 ?_)
   refine f0t rfl rfl Tryz.underlying68 rfl rfl HAT.out (d0I _) ?_
   clear HAT
   go_wp2_with (with_reducible refine wSk 5 ?_)
   refine a0a st0 rfl rfl t0Y (cw 4 0) ap9 ?_
   intro g5 w1 st1
   clear st0
   go_wp2_with (with_reducible refine wSn ?_)
   refine a0b st1 0 rfl rfl rfl rfl rfl (k0I _ _) (d0I _) (a0d _ _) ?_
   intro w2 st2
   clear st1
   go_wp2_with (with_reducible refine wSk 13 ?_)
   refine a0u st2 0 rfl rfl rfl Tryz.underlying68 rfl rfl (d0I _) ?_
   go_wp2_with fail
   refine (f0Y mQ .one x _).mono ?_
   rintro e' w3 ⟨v, rfl, hown1, hf3⟩
   have hf23 := st2.fr.then hf3
   have HSZ := qH (HFJ.out.size)
   have hown1' := hown1.mono st2.fr.size
   obtain ⟨av, cv, rfl, -⟩ := f0s hown1
   have HO1 := qH hown1'
   have HF3 := qH hf23
   clear st2 hown1 hown1' hf3 hf23
   go_wp2_with (with_reducible refine wSk 15 ?_)
   refine b0o rfl rfl Tryz.underlying39 a0Z [.slice av 32 cv] rfl (by simp; rfl) rfl rfl ?_
   intro w4 hh4 hf4 hz4
   clear hz4
   have hownq := (HO.out.still HF3.out).still hf4
   have hfr4 := (HFJ.out.then HF3.out).then hf4
   have HF4 := qH hf4
   clear hf4
   generalize w3.heap.size = g1 at *
   have hsz4 := hfr4.size
   have hrd4 := Rd.whole hh4
   clear hh4
   have HRD4 := qH hrd4
   have HQ4 := qH hownq
   have HFR4 := qH hfr4
   have HZ4 := qH hsz4
   clear hrd4 hownq hfr4 hsz4
   go_wp2_with (with_reducible refine wSk 16 ?_)
   refine d0y rfl rfl Tryz.underlying39 a0Z rfl ap12 HQ4.out rfl rfl HRD4.out (fun u hu => by simp only [List.mem_singleton] at hu; subst hu; rfl) (by unfold maxLen; omega) ap13 HZ4.out ?_
   intro v5 w5 hown5 hf5 hb5
   clear hb5
   have hfr5 := HQ4.out.fr HFR4.out (Nat.le_refl _) hf5
   have hfin : SOwn w5 w.heap.size v5 ((zB xs).take (j + 1)) := by
    rw [HTK.out]
    refine SOwn.snocF (w := wr) HO0.out HPO.out HSEP.out HSZ.out (by rw [a0U]; exact HO1.out) HF3.out HF4.out (by rw [HLL.out]; exact hown5) hf5
   have HFIN := qH hfin
   have HFR5 := qH hfr5
   clear hown5 hf5 hfr5 hfin HQ4 HRD4 HFR4 HZ4 HO HO0 HPO HSEP HO1
   go_wp2_with fail
   go_roundw
   case rel => exact ⟨j + 1, by omega, by go_num, HFIN.out, HFR5.out⟩
   case measure => simp [intOf]; omega
  ·have hge : ¬ ((j : Int) < (xs.length : Int)) := by omega
   rw [List.take_of_length_le (by rw [n0l]; omega)] at hS
   have HS := qH hS
   have HF := qH hfj
   clear hS hfj hlt
   go_wp2_with fail
   go_ret
   exact ⟨_, rfl, HS.out, HF.out⟩
theorem y0R (x : Nat) {l : List UInt8} (h : b0w l = true) : tS (a0Q (x % mQ.M)) l = a0O (a0v x (a0W l)) := by
 rw [(t_ok (c0F x) h).2, g0v, m0e, f0Q (h0U h)]
theorem OwnB1.back {w0 w w' : World} {v : Value} {l : List UInt8} (h : OwnB1 w w' v l) (hs : w0.heap.size ≤ w.heap.size) : OwnB1 w0 w' v l := Own.mono h hs
theorem OwnU.b1 {w w' : World} {v : Value} {l : List UInt8} (h : OwnB1 w w' v l) : OwnU w' v l := Own.mono h (Nat.zero_le _)
theorem OwnU.ptb {w : World} {v : Value} {l : List UInt8} (h : OwnU w v l) (hn : l.length ≤ 1000000) : PartIs w v l := b0Z h hn
theorem q0U (x : Nat) (va : Value) (l : List UInt8) (w : World) (hp : BPart w va l) :
  Calls Tryz.prog 80 #[i4 (elN mQ x), va] w fun e w' => ∃ v, e = .returned v ∧ OwnB1 w w' v (tS (a0Q (x % mQ.M)) l) ∧ Fr Nob w w' := by
 have HP := qH hp
 clear hp
 have st0 := St.start Nob w
 go_enter Tryz.func80, Tryz.ntmps80
 go_wp2_with (with_reducible refine wSk 2 ?_)
 refine a0q st0 rfl rfl rfl (cw 4 (elN mQ x)) rfl ?_
 intro g2 w1 st1
 clear st0
 go_wp2_with (with_reducible refine wSk 8 ?_)
 refine a0u st1 0 rfl rfl rfl Tryz.underlying68 rfl rfl (d0I _) ?_
 go_wp2_with fail
 refine (e0q x _).mono ?_
 rintro e' w2 ⟨y, rfl, hb, hf2⟩
 have hfr2 := st1.fr.then hf2
 have HB := qH hb
 have HF := qH hfr2
 clear st1 hb hf2 hfr2
 go_wp2_with fail
 refine (g0L _ va _ l _ HB.out (HP.out.still HF.out)).mono ?_
 rintro e' w3 ⟨v, rfl, ho, hf3⟩
 have HO := qH (OwnB1.back ho HF.out.size)
 have hfr := HF.out.then hf3
 clear ho hf3 HF HB HP
 go_wp2_with fail
 go_ret
 exact ⟨v, rfl, HO.out, hfr⟩
theorem h0F (w : World) : Calls Tryz.prog 29 #[] w fun e w' => ∃ y : Option Addr × Nat, e = .returned (.slice y.1 33 y.2) ∧ BPart w' (.slice y.1 33 y.2) (a0O gP) ∧ Fr Nob w w' := by
 refine (v0E w).mono ?_
 rintro e w' ⟨v, rfl, ho, hf⟩
 have h := ho.part
 obtain ⟨a, n, c, rfl, hc, hr⟩ := h
 have hn : n = 33 := by rw [← hr.len, b0b]
 subst hn
 exact ⟨(a, c), rfl, ⟨a, 33, c, rfl, hc, hr⟩, hf⟩
theorem q0V (x : Nat) (w : World) :
  Calls Tryz.prog 48 #[i4 (elN mQ x)] w fun e w' => ∃ v, e = .returned v ∧ OwnB1 w w' v (a0O (a0v x gP)) ∧ Fr Nob w w' := by
 have st0 := St.start Nob w
 go_enter Tryz.func48, Tryz.ntmps48
 go_wp2_with (with_reducible refine wSk 1 ?_)
 refine a0q st0 rfl rfl rfl (cw 4 (elN mQ x)) rfl ?_
 intro g1 w1 st1
 clear st0
 go_wp2_with fail
 refine wp_region_noPanic ?_
 refine a0g st1 3 [.t 0, .c 1, .c 2] (.m 3 .nil) ap11 ap11 (fun _ _ _ _ _ h => h) ?_
 clear st1
 refine a0h rfl rfl rfl (fun _ => rfl) (cw 4 (elN mQ x)) (fun wx hS => St.rangeL hS 0 rfl 0 _ dZl) Tryz.underlying68 rfl ap4 ?_
 try simp only [clL]
 refine a0K (X := Option Addr × Nat) (fun y => .slice y.1 33 y.2) (fun y w => BPart w (.slice y.1 33 y.2) (a0O gP)) (fun _ _ _ h k => h.still k) rfl rfl rfl Tryz.call29 (fun w hS hR => h0F _) (fun _ => rfl) fun y4 => ?_
 try simp only [clL]
 refine a0K (X := Value) (fun v => v) (fun v wx => OwnB1 w wx v (tS (a0Q (x % mQ.M)) (a0O gP))) (fun _ _ _ h k => h.still k) rfl rfl rfl Tryz.call80 (fun w hS hR => (q0U x _ _ _ hR.2).mono fun e w' ⟨v, h1, h2, h3⟩ => ⟨v, h1, h2.back hS.fr.size, h3⟩) (fun _ => rfl) fun v => ?_
 try simp only [clL]
 refine a0I fun xq w2 st2 hR => ?_
 try dsimp only
 have HV := qH hR.2
 clear hR xq
 refine a0p rfl rfl ?_
 go_simp
 try simp only [clL]
 refine a0f ?_
 refine NoPanic.normal ?_
 have hfr := st2.fr
 clear st2
 go_wp2_with fail
 go_ret
 refine ⟨v, rfl, ?_, hfr⟩
 have h := HV.out
 rwa [y0R x (e0H d0F).1, (e0H d0F).2] at h
theorem POwn.bpartsT {w : World} {base : Nat} : ∀ {vs : List Value} {ls : List (List UInt8)}, POwn w base vs ls → BParts w vs ls := by
 intro vs ls h
 refine ⟨h.len, fun i v hv => ?_⟩
 obtain ⟨l, hl, ho⟩ := h.get i v hv
 obtain ⟨a, c, rfl, hc, hr, -⟩ := ho.form
 rw [Nat.mul_one] at hr
 rw [List.getD_eq_getElem?_getD, hl]
 exact ⟨a, _, c, rfl, hc, hr⟩
theorem SOwn.bpartsT {w : World} {base : Nat} {v : Value} {ls : List (List UInt8)} (h : SOwn w base v ls) : ∃ a c vs, v = .slice a ls.length c ∧ Rd w a ls.length vs ∧ BParts w vs ls := by
 obtain ⟨vs, h1, h2, h3⟩ := h
 obtain ⟨a, c, rfl, hc, hr, -⟩ := h1.form
 rw [Nat.mul_one] at hr
 exact ⟨a, c, vs, rfl, hr, h2.bpartsT⟩
theorem t0k (al : Option Addr) (c : Nat) (xs : List Nat) (bl : Option Addr) (d : Nat) (us : List Value) (lp : List (List UInt8)) (w : World) (hv : Rd w al (xs.length * 4) (c0b xs)) (hn : xs.length ≤ 100000) (hu : Rd w bl lp.length us) (hq : BParts w us lp) :
  Calls Tryz.prog 62 #[.slice al xs.length c, .slice bl lp.length d] w fun e w' => ∃ v, e = .returned v ∧ OwnB1 w w' v (g0u (zB xs) lp) ∧ Fr Nob w w' := by
 have HV := qH hv
 have HU := qH hu
 have HQ := qH hq
 clear hv hu hq
 go_enter Tryz.func62, Tryz.ntmps62
 go_wp2_with fail
 refine (t0j al c xs _ HV.out hn).mono ?_
 rintro e' w2 ⟨v, rfl, hs, hf2⟩
 obtain ⟨a, c2, vs, rfl, hr, hb⟩ := hs.bpartsT
 have HR := qH hr
 have HB := qH hb
 have HF := qH hf2
 clear hs hr hb hf2 HV
 go_wp2_with fail
 refine (v0O a c2 vs (zB xs) bl d us lp _ HR.out HB.out (HU.out.still HF.out) (HQ.out.still HF.out)).mono ?_
 rintro e' w3 ⟨v, rfl, ho, hf3⟩
 have HO := qH (OwnB1.back ho HF.out.size)
 have hfr := HF.out.then hf3
 clear ho hf3 HF HR HB HU HQ
 go_wp2_with fail
 go_ret
 exact ⟨v, rfl, HO.out, hfr⟩
theorem m0f (a : Option Addr) (c : Nat) (l : List UInt8) (hl : l.length = 33) (w : World) (hp : RdB w a 33 l) (b : Bool) (hb : (((l.getD 0 0).toNat : Int) == 0) = b) :
  Calls Tryz.prog 61 #[.slice a 33 c] w fun e w' => e = .returned (.bool b) ∧ w = w' := by
 obtain ⟨g, o, rfl, -⟩ := hp.at ap12
 have hc := q0T (show Rd w (some ⟨g, o, none⟩) 33 (bs l) from hp) 0 _ (m0r l 0 ap13)
 rw [Nat.add_zero] at hc
 clear hp hl
 generalize l.getD 0 0 = x at *
 go_enter Tryz.func61, Tryz.ntmps61
 go_wp2_with fail
 go_ret
 exact ⟨rfl, rfl⟩
theorem t0l {l : List UInt8} (h : b0w l = true) : l.length = 33 := by
 unfold b0w at h
 simp only [Bool.and_eq_true, decide_eq_true_eq] at h
 exact h.1
def b0h (ls : List (List UInt8)) : Bool := ls.all b0g
theorem m0g (ls : List (List UInt8)) (k : Nat) (h : k < ls.length) : b0h (ls.take (k + 1)) = (b0h (ls.take k) && b0g (ls.getD k [])) := by
 unfold b0h
 rw [List.take_succ_eq_append_getElem h, List.all_append, List.getD_eq_getElem?_getD, List.getElem?_eq_getElem h]
 simp
theorem o0l (ls : List (List UInt8)) (k : Nat) (h : k < ls.length) (hb : b0g (ls.getD k []) = false) : b0h ls = false := by
 unfold b0h
 rw [List.all_eq_false]
 refine ⟨ls.getD k [], ?_, by rw [hb]; decide⟩
 rw [List.getD_eq_getElem?_getD, List.getElem?_eq_getElem h]
 exact List.getElem_mem h
theorem v0R {l : List UInt8} (h : b0w l = false) : b0g l = false := by unfold b0g; rw [h]; rfl
theorem v0S {l : List UInt8} (h : (((l.getD 0 0).toNat : Int) == 0) = true) : b0g l = false := by
 have h2 : l.getD 0 0 = 0 := by
  have h3 : ((l.getD 0 0).toNat : Int) = 0 := eq_of_beq h
  exact UInt8.toNat_inj.1 (by simpa using h3)
 unfold b0g; rw [decide_eq_true h2]; simp
theorem v0T {l : List UInt8} (h1 : b0w l = true) (h : (((l.getD 0 0).toNat : Int) == 0) = false) : b0g l = true := by
 have h2 : l.getD 0 0 ≠ 0 := by
  intro h3
  rw [h3] at h
  exact absurd h ap12
 unfold b0g; rw [h1, decide_eq_false h2]; rfl
attribute [local irreducible] b0g b0h
theorem c0G (al : Option Addr) (n c : Nat) (vs : List Value) (ls : List (List UInt8)) (w : World) (hv : Rd w al n vs) (hp : BParts w vs ls) (hn : n ≤ 100000) :
  Calls Tryz.prog 78 #[.slice al n c] w fun e w' => e = .returned (.bool (b0h ls)) ∧ Fr Nob w w' := by
 have HV := qH hv
 have HP := qH hp
 have HL := qH (show ls.length = n by rw [← hp.1, hv.len])
 clear hv hp
 go_enter Tryz.func78, Tryz.ntmps78
 go_wp2
 go_loopw [7] (fun i wr => ∃ k : Nat, k ≤ n ∧ i = .int .i64 (k : Int) ∧ b0h (ls.take k) = true ∧ Fr Nob w wr) (fun i _ => n - (intOf i).toNat)
 case atStart => exact ⟨0, Nat.zero_le _, rfl, by rw [List.take_zero]; unfold b0h; rfl, Fr.refl _ _⟩
 case round =>
  obtain ⟨k, hk, rfl, hgood, hf⟩ := hrel
  by_cases hlt : k < n
  ·have hltI : (k : Int) < (n : Int) := by omega
   obtain ⟨b, o, rfl, hat⟩ := (HV.out.still hf).at ap13
   have hvl : k < vs.length := by rw [HV.out.len]; exact hlt
   obtain ⟨a, nn, cc, hve, hcc, hrd⟩ := HP.out.2 k (vs[k]'hvl) (List.getElem?_eq_getElem hvl)
   have hc1 := hat k _ (List.getElem?_eq_getElem hvl)
   rw [hve] at hc1
   have hlk : k < ls.length := by rw [HL.out]; exact hlt
   have hts := m0g ls k hlk
   have hbad := o0l ls k hlk
   generalize hL : ls.getD k [] = l at *
   have HRD := qH (hrd.still hf)
   have HCC := qH hcc
   have HTS := qH hts
   have HBAD := qH hbad
   have HG := qH hgood
   have HF := qH hf
   have hnI : (n : Int) ≤ 100000 := by omega
   clear hL hrd hcc hts hbad hgood hf hat hve
   cases hq : b0w l
   ·have HQ := qH hq
    clear hq
    go_wp2_with fail
    refine (d0Q _ l _ ⟨a, nn, cc, rfl, HCC.out, HRD.out⟩ HQ.out).mono ?_
    rintro e' w2 ⟨rfl, hf2⟩
    have hfr := HF.out.then hf2
    have HB := qH (HBAD.out (v0R HQ.out))
    clear hf2 HF HBAD HQ HRD HG HTS
    go_wp2_with fail
    go_ret
    exact ⟨by rw [HB.out]; rfl, hfr⟩
   ·have h33 := t0l hq
    have hnn : nn = 33 := by rw [← HRD.out.len, h33]
    subst hnn
    obtain ⟨b2, o2, rfl, -⟩ := HRD.out.at ap12
    have HQ := qH hq
    have H33 := qH h33
    clear hq h33
    go_wp2_with fail
    refine (b0W _ l _ ⟨_, 33, cc, rfl, HCC.out, HRD.out⟩ HQ.out).mono ?_
    rintro e' w2 ⟨rfl, hf2⟩
    have hfr := HF.out.then hf2
    have hc2 := q0T (show Rd w2 (some ⟨b2, o2, none⟩) 33 (bs l) from HRD.out.still hf2) 0 _ (m0r l 0 (by rw [H33.out]; decide))
    rw [Nat.add_zero] at hc2
    have HFR := qH hfr
    have HZT := qH (show (((l.getD 0 0).toNat : Int) == 0) = false → b0h (ls.take (k + 1)) = true from fun hz => by rw [HTS.out, HG.out, v0T HQ.out hz]; rfl)
    have HBT := qH (show (((l.getD 0 0).toNat : Int) == 0) = true → b0h ls = false from fun hz => HBAD.out (v0S hz))
    generalize l.getD 0 0 = x at hc2 HZT HBT
    clear hf2 hfr HF HRD hc1 HTS HG HBAD
    cases hz : ((x.toNat : Int) == 0)
    ·have HZ := qH (HZT.out hz)
     clear HZT HBT
     go_wp2_with fail
     go_roundw
     case rel => exact ⟨k + 1, by omega, by go_num, HZ.out, HFR.out⟩
     case measure => simp [intOf]; omega
    ·have HB := qH (HBT.out hz)
     clear HZT HBT
     go_wp2_with fail
     go_ret
     exact ⟨by rw [HB.out]; rfl, HFR.out⟩
  ·have hge : ¬ ((k : Int) < (n : Int)) := by omega
   have hkn : k = ls.length := by rw [HL.out]; omega
   rw [hkn, List.take_of_length_le (Nat.le_refl _)] at hgood
   have HG := qH hgood
   have HF := qH hf
   clear hkn hgood hf
   go_wp2_with fail
   go_ret
   exact ⟨by rw [HG.out]; rfl, HF.out⟩
theorem t0m (ak : Option Addr) (nk ck : Nat) (key : List UInt8) (w : World) (hkey : RdB w ak nk key) (hq : a0N mQ key = false) : Calls Tryz.prog 46 #[.slice ak nk ck] w fun e w' => e = .returned (.tuple #[i4 0, .int .i64 3]) ∧ Fr Nob w w' := by
 have HKY := qH hkey
 have HN := qH hq
 clear hkey hq
 have st0 := St.start Nob w
 go_enter Tryz.func46, Tryz.ntmps46
 go_wp2_with (with_reducible refine wSk 2 ?_)
 refine a0a st0 rfl rfl (z := zAd) ap11 (cw 4 0) ap9 ?_
 intro g2 w1 st1
 clear st0
 go_wp2_with fail
 refine (s0h mQ .one ak nk ck key _ (HKY.out.still st1.fr) HN.out).mono ?_
 rintro e' w2 ⟨rfl, hf2⟩
 have st2 := st1.keep hf2
 clear st1 hf2
 go_wp2_with (with_reducible refine wSk 4 ?_)
 refine a0a st2 rfl rfl (z := zAd) ap11 (cw 4 0) ap9 ?_
 intro g4 w3 st3
 clear st2
 go_wp2_with (with_reducible refine wSn ?_)
 refine a0b st3 1 rfl rfl rfl rfl rfl ap5 ap4 (a0d _ _) ?_
 intro w4 st4
 clear st3
 go_wp2_with (with_reducible refine wSk 17 ?_)
 refine a0u st4 1 rfl rfl rfl Tryz.underlying68 rfl rfl ap4 ?_
 go_wp2_with (with_reducible refine wSn ?_)
 refine a0b st4 0 rfl rfl rfl rfl rfl ap5 ap4 (a0d _ _) ?_
 intro w5 st5
 clear st4
 have hr := st5.at 0 rfl
 have hfr := st5.fr
 clear st5
 go_wp2_with fail
 exact bodyPost_ret (a0M rfl rfl hr Tryz.underlying68 rfl ap4 rfl) rfl ⟨rfl, hfr⟩
theorem t0n (ak : Option Addr) (nk ck : Nat) (key : List UInt8) (w : World) (hkey : RdB w ak nk key) (hq : a0N mQ key = true) (hz : (beN key % mQ.M == 0) = true) : Calls Tryz.prog 46 #[.slice ak nk ck] w fun e w' => e = .returned (.tuple #[i4 (elN mQ (beN key)), .int .i64 3]) ∧ Fr Nob w w' := by
 have HZ := qH hz
 clear hz
 have HKY := qH hkey
 have HN := qH hq
 clear hkey hq
 have st0 := St.start Nob w
 go_enter Tryz.func46, Tryz.ntmps46
 go_wp2_with (with_reducible refine wSk 2 ?_)
 refine a0a st0 rfl rfl (z := zAd) ap11 (cw 4 0) ap9 ?_
 intro g2 w1 st1
 clear st0
 go_wp2_with fail
 refine (p0G mQ .one ak nk ck key _ (HKY.out.still st1.fr) HN.out).mono ?_
 rintro e' w2 ⟨rfl, hf2⟩
 have st2 := st1.keep hf2
 clear st1 hf2
 go_wp2_with (with_reducible refine wSk 4 ?_)
 refine a0a st2 rfl rfl (z := zAd) ap11 (cw 4 0) ap9 ?_
 intro g4 w3 st3
 clear st2
 go_wp2_with (with_reducible refine wSn ?_)
 refine a0b st3 1 rfl rfl rfl rfl rfl ap5 ap4 (a0d _ _) ?_
 intro w4 st4
 clear st3
 go_wp2_with (with_reducible refine wSk 14 ?_)
 refine m0L st4 1 rfl rfl rfl Tryz.underlying68 rfl rfl ap4 ?_
 go_wp2_with fail
 refine (k0m mQ p0t (beN key) true HZ.out _).mono ?_
 rintro e' w5 ⟨rfl, hf5⟩
 have st5 := st4.keep hf5
 clear st4 hf5
 go_wp2_with (with_reducible refine wSk 17 ?_)
 refine a0u st5 1 rfl rfl rfl Tryz.underlying68 rfl rfl ap4 ?_
 go_wp2_with (with_reducible refine wSn ?_)
 refine a0b st5 0 rfl rfl rfl rfl rfl ap5 ap4 (a0d _ _) ?_
 intro w6 st6
 clear st5
 have hr := st6.at 0 rfl
 have hfr := st6.fr
 clear st6
 go_wp2_with fail
 exact bodyPost_ret (a0M rfl rfl hr Tryz.underlying68 rfl ap4 rfl) rfl ⟨rfl, hfr⟩
theorem t0o (ak : Option Addr) (nk ck : Nat) (key : List UInt8) (w : World) (hkey : RdB w ak nk key) (hq : a0N mQ key = true) (hz : (beN key % mQ.M == 0) = false) : Calls Tryz.prog 46 #[.slice ak nk ck] w fun e w' => e = .returned (.tuple #[i4 (elN mQ (beN key)), .int .i64 0]) ∧ Fr Nob w w' := by
 have HZ := qH hz
 clear hz
 have HKY := qH hkey
 have HN := qH hq
 clear hkey hq
 have st0 := St.start Nob w
 go_enter Tryz.func46, Tryz.ntmps46
 go_wp2_with (with_reducible refine wSk 2 ?_)
 refine a0a st0 rfl rfl (z := zAd) ap11 (cw 4 0) ap9 ?_
 intro g2 w1 st1
 clear st0
 go_wp2_with fail
 refine (p0G mQ .one ak nk ck key _ (HKY.out.still st1.fr) HN.out).mono ?_
 rintro e' w2 ⟨rfl, hf2⟩
 have st2 := st1.keep hf2
 clear st1 hf2
 go_wp2_with (with_reducible refine wSk 4 ?_)
 refine a0a st2 rfl rfl (z := zAd) ap11 (cw 4 0) ap9 ?_
 intro g4 w3 st3
 clear st2
 go_wp2_with (with_reducible refine wSn ?_)
 refine a0b st3 1 rfl rfl rfl rfl rfl ap5 ap4 (a0d _ _) ?_
 intro w4 st4
 clear st3
 go_wp2_with (with_reducible refine wSk 14 ?_)
 refine m0L st4 1 rfl rfl rfl Tryz.underlying68 rfl rfl ap4 ?_
 go_wp2_with fail
 refine (k0m mQ p0t (beN key) false HZ.out _).mono ?_
 rintro e' w5 ⟨rfl, hf5⟩
 have st5 := st4.keep hf5
 clear st4 hf5
 go_wp2_with (with_reducible refine wSk 18 ?_)
 refine a0u st5 1 rfl rfl rfl Tryz.underlying68 rfl rfl ap4 ?_
 go_wp2_with (with_reducible refine wSn ?_)
 refine a0b st5 0 rfl rfl rfl rfl rfl ap5 ap4 (a0d _ _) ?_
 intro w6 st6
 clear st5
 have hr := st6.at 0 rfl
 have hfr := st6.fr
 clear st6
 go_wp2_with fail
 exact bodyPost_ret (a0M rfl rfl hr Tryz.underlying68 rfl ap4 rfl) rfl ⟨rfl, hfr⟩
theorem h0G (ak : Option Addr) (nk ck : Nat) (key : List UInt8) (w : World) (hkey : RdB w ak nk key) (h : d0H key = true) : Calls Tryz.prog 46 #[.slice ak nk ck] w fun e w' => e = .returned (.tuple #[i4 (elN mQ (beN key)), .int .i64 0]) ∧ Fr Nob w w' := by
 unfold d0H at h
 rw [Bool.and_eq_true] at h
 have hlt := c0D h.1
 refine t0o ak nk ck key w hkey h.1 ?_
 rw [Nat.mod_eq_of_lt hlt]
 simpa using h.2
theorem k0L (ak : Option Addr) (nk ck : Nat) (key : List UInt8) (w : World) (hkey : RdB w ak nk key) (h : d0H key = false) : Calls Tryz.prog 46 #[.slice ak nk ck] w fun e w' => (∃ N : Nat, e = .returned (.tuple #[i4 N, .int .i64 3])) ∧ Fr Nob w w' := by
 unfold d0H at h
 cases hq : a0N mQ key with
 | false => exact (t0m ak nk ck key w hkey hq).mono fun e w' k => ⟨⟨_, k.1⟩, k.2⟩
 | true =>
  have hlt := c0D hq
  rw [hq, Bool.true_and] at h
  refine (t0n ak nk ck key w hkey hq ?_).mono fun e w' k => ⟨⟨_, k.1⟩, k.2⟩
  rw [Nat.mod_eq_of_lt hlt]
  simpa using h
end
end Go.Proofs.YtemcankmggmgoaaGreat
namespace Go.Mv
open Go.RowKit
section
variable {P : Program} {w w0 : World} {o : Oper} {a : Act} {S : Nat → Prop} {bl : List (Nat × List Value × TypeId)} {K : Act → World → Prop} {Q : Exit → Act → World → Prop}
theorem e0X {s x : Operand} {t : TypeId} (ho : o.op = .call { callee := .builtin .append, args := #[s, x], argTypes := #[t, t] })
  {e : TypeId} {z : Value} {sz by_ : Nat} (ht : P.underlying t = some (.slice e)) (hi0 : (P.info? e).map (fun i => (i.zero, i.size, i.bytes)) = some (some z, sz, by_))
  (hzs : z.cells.size = sz) (hsz : 0 < sz)
  {v : Value} {n base : Nat} {L : List Value} (hown : Own w base e sz v n L) (hs : a.eval s = v)
  {xa : Option Addr} {m c : Nat} {news : List Value} (hx : a.eval x = .slice xa m c) (hnews : Rd w xa (m * sz) news) (h1 : ∀ u ∈ news, u.oneCell' = true)
  (h63 : n + m ≤ maxLen) (hbytes : (n + m) * by_ ≤ 140737488355328) (hbase : base ≤ w.heap.size)
  (h : ∀ v' w', Own w' base e sz v' (n + m) (L ++ news) → Fr (h0Y v) w w' → K (a.put o.dst v') w') : o.wp P a w K Q := by
 obtain ⟨v', w', hr, h2, h3, -⟩ := g0R (P := P) base t o.type e z sz by_ ht hi0 hzs hsz v n L hown xa m c news hnews h1 h63 hbytes hbase
 unfold Oper.wp execOp
 simp only [ho, resolve, invoke, builtin, Sem.run_bind, Sem.run_pure, Result.andThen_ok, List.map_toArray, List.map_cons, List.map_nil, hs, hx, hr]
 exact h v' w' h2 h3
theorem St.ofFr (h : Fr S w0 w) : St S w0 w [] := ⟨h, by simp, by simp, List.Pairwise.nil⟩
end
end Go.Mv
namespace Go.Proofs.YtemcankmggmgoaaGreat
section
open Go.RowKit Go.Mv Mvp Mvq
theorem y0D (x : Nat) : (a0O (a0v x gP)).length = 33 := b0b _
theorem OwnB1.ptb {w w' : World} {v : Value} {l : List UInt8} (h : OwnB1 w w' v l) (hn : l.length ≤ 1000000) : PartIs w' v l := b0Z h hn
attribute [local irreducible] a0y lw mix cw b0q b0r b0i beN b0x a0Q a0A a0J elN mdL a0N rtV b0S a0O b0w a0W a0L c0P j0w g0u a0v b0k b0u toB a0z a0E b0s a0H c0n b0l a0F c0z c0B c0b d0H sgF sgZ b0E c0Y c0E chN b0g tS
theorem c0r {w : World} {a : Option Addr} {n c : Nat} {l : List UInt8} (h : PartIs w (.slice a n c) l) : RdB w a n l := by
 obtain ⟨a', n', c', he, -, -, hr, -⟩ := h
 cases he
 exact hr
theorem v0U (ak : Option Addr) (nk ck : Nat) (key : List UInt8) (at_ : Option Addr) (nt ct : Nat) (text : List UInt8) (w : World) (hkey : PartIs w (.slice ak nk ck) key) (htext : PartIs w (.slice at_ nt ct) text) (hq : d0H key = false) : Calls Tryz.prog 13 #[.slice ak nk ck, .slice at_ nt ct] w fun e w' => e = .returned (.tuple #[.slice none 0 0, .int .i64 3]) ∧ Fr Nob w w' := by
 have HPK := qH hkey
 have HPT := qH htext
 have HKY := qH (c0r hkey)
 have HQ := qH hq
 clear hkey htext hq
 clear HPK HPT
 have st0 := St.start Nob w
 go_enter Tryz.func13, Tryz.ntmps13
 go_wp2_with fail
 refine (k0L ak nk ck key _ (HKY.out.still st0.fr) HQ.out).mono ?_
 rintro e' w1 ⟨⟨N, rfl⟩, hf1⟩
 have st1 := st0.keep hf1
 clear st0 hf1
 go_wp2_with (with_reducible refine wSk 6 ?_)
 refine a0a st1 rfl rfl (z := zAd) ap11 (cw 4 0) ap9 ?_
 intro g6 w2 st2
 clear st1
 go_wp2_with (with_reducible refine wSn ?_)
 refine a0b st2 0 rfl rfl rfl rfl rfl ap5 ap4 (a0d _ _) ?_
 intro w3 st3
 clear st2
 have hfr := st3.fr
 clear st3
 go_wp2_with fail
 go_ret2
 exact ⟨rfl, hfr⟩
theorem v0V (ak : Option Addr) (nk ck : Nat) (key : List UInt8) (at_ : Option Addr) (nt ct : Nat) (text : List UInt8) (w : World) (hkey : PartIs w (.slice ak nk ck) key) (htext : PartIs w (.slice at_ nt ct) text) (hq : d0H key = true) : Calls Tryz.prog 13 #[.slice ak nk ck, .slice at_ nt ct] w fun e w' => ∃ v, e = .returned (.tuple #[v, .int .i64 0]) ∧ OwnB1 w w' v (sgF key text ++ a0Q (sgZ key text)) ∧ Fr Nob w w' := by
 have HPK := qH hkey
 have HPT := qH htext
 have HKY := qH (c0r hkey)
 have HQ := qH hq
 clear hkey htext hq
 have st0 := St.start Nob w
 go_enter Tryz.func13, Tryz.ntmps13
 go_wp2_with fail
 refine (h0G ak nk ck key _ (HKY.out.still st0.fr) HQ.out).mono ?_
 rintro e' w1 ⟨rfl, hf1⟩
 have st1 := st0.keep hf1
 clear st0 hf1
 go_wp2_with (with_reducible refine wSk 6 ?_)
 refine a0a st1 rfl rfl (z := zAd) ap11 (cw 4 0) ap9 ?_
 intro g6 w2 st2
 clear st1
 go_wp2_with (with_reducible refine wSn ?_)
 refine a0b st2 0 rfl rfl rfl rfl rfl ap5 ap4 (a0d _ _) ?_
 intro w3 st3
 clear st2
 go_wp2_with (with_reducible refine wSk 20 ?_)
 refine b0o rfl rfl Tryz.underlying39 a0Z [.slice ak nk ck, .slice at_ nt ct] rfl (by simp; exact ⟨rfl, rfl⟩) rfl rfl ?_
 intro w4 hh4 hf4 hz4
 have st4 := st3.keep hf4
 have HSL := qH hh4
 clear hh4 hf4 hz4 st3
 generalize w3.heap.size = gl20 at *
 go_wp2_with fail
 refine (g0M ⟨#[110, 111, 110, 99, 101, 32, 115, 105, 103, 110]⟩ b0T rfl _ 2 [.slice ak nk ck, .slice at_ nt ct] [key, text] _ ap12 HSL.out ⟨HPK.out.still st4.fr, HPT.out.still st4.fr, trivial⟩ ap14).mono ?_
 rintro e' w5 ⟨rfl, hf5⟩
 have st5 := st4.keep hf5
 clear st4 hf5
 clear HSL
 go_wp2_with (with_reducible refine wSk 8 ?_)
 refine a0a st5 rfl rfl (z := zAd) ap11 (cw 4 0) ap9 ?_
 intro g8 w6 st6
 clear st5
 go_wp2_with (with_reducible refine wSn ?_)
 refine a0b st6 1 rfl rfl rfl rfl rfl ap5 ap4 (a0d _ _) ?_
 intro w7 st7
 clear st6
 go_wp2_with (with_reducible refine wSk 22 ?_)
 refine a0u st7 1 rfl rfl rfl Tryz.underlying68 rfl rfl ap4 ?_
 go_wp2_with fail
 have HSZ0 := qH st7.fr.size
 refine (q0V (chN b0T [key, text]) _).mono ?_
 rintro e' w8 ⟨vf, rfl, ho, hf8⟩
 have st8 := st7.keep hf8
 have HFI0 := qH ho
 clear ho
 clear st7 hf8
 have HFI := qH (show OwnB1 w w8 vf (sgF key text) from by have h := HFI0.out; unfold sgF; exact Own.mono h (HSZ0.out))
 clear HFI0 HSZ0
 have HLF := qH (show (sgF key text).length = 33 by unfold sgF; exact b0b _)
 have HPK2 := qH (HPT.out.still st8.fr)
 go_wp2_with fail
 refine wp_region_noPanic ?_
 refine d0S st8 (fun wz => Fr Nob w8 wz) (Fr.refl Nob _).drew (fun _ _ h k => h.then k) 10 [.w 0, .t 1, .t 2, .w 4, .w 5, .t 7, .c 3, .c 6, .c 8, .c 9] (.m 10 (.w 11 (.w 12 .nil))) ap11 ap11 (fun _ _ _ _ _ h => h) ?_
 clear st8
 refine a0j rfl rfl apX ?_
 try simp only [clL]
 refine a0h rfl rfl rfl (fun _ => rfl) (cw 4 (elN mQ (chN b0T [key, text]))) (fun wx hS => St.rangeL hS 1 rfl 0 _ dZl) Tryz.underlying68 rfl ap4 ?_
 try simp only [clL]
 refine a0h rfl rfl rfl (fun _ => rfl) (cw 4 (elN mQ (beN key))) (fun wx hS => St.rangeL hS 0 rfl 0 _ dZl) Tryz.underlying68 rfl ap4 ?_
 try simp only [clL]
 refine a0j rfl rfl apX ?_
 try simp only [clL]
 refine a0j rfl rfl apX ?_
 try simp only [clL]
 refine a0h rfl rfl rfl (fun _ => rfl) (cw 4 (elN mQ (beN key))) (fun wx hS => St.rangeL hS 0 rfl 0 _ dZl) Tryz.underlying68 rfl ap4 ?_
 try simp only [clL]
 refine a0K (X := Value) (fun v => v) (fun v wx => PartIs wx v (a0O (a0v (beN key) gP))) (fun _ _ _ h k => h.still k) rfl rfl rfl Tryz.call48 (fun w hS hR => (q0V (beN key) _).mono fun e w' ⟨v, h1, h2, h3⟩ => ⟨v, h1, OwnB1.ptb h2 (by rw [y0D]; decide), h3⟩) (fun _ => rfl) fun vb => ?_
 try simp only [clL]
 refine a0k rfl rfl rfl Tryz.call50 (fun w hS hR => q0M vb (a0O (a0v (beN key) gP)) vf (sgF key text) (.slice at_ nt ct) text _ hR.2 ((OwnB1.ptb HFI.out (by rw [HLF.out]; decide)).still hR.1) (HPK2.out.still hR.1)) (fun _ => rfl) ?_
 try simp only [clL]
 refine a0k rfl rfl rfl Tryz.call49 (fun w hS hR => t0i (chN b0T [key, text]) (b0E (a0O (a0v (beN key) gP)) (sgF key text) text) (beN key) _) (fun _ => rfl) ?_
 try simp only [clL]
 refine a0K (X := Option Addr × Nat) (fun y => .slice y.1 32 y.2) (fun y wx => BPart wx (.slice y.1 32 y.2) (a0Q (((chN b0T [key, text]) + (b0E (a0O (a0v (beN key) gP)) (sgF key text) text) * beN key) % mQ.M))) (fun _ _ _ h k => h.still k) rfl rfl rfl Tryz.call51 (fun w hS hR => e0q ((chN b0T [key, text]) + (b0E (a0O (a0v (beN key) gP)) (sgF key text) text) * beN key) _) (fun _ => rfl) fun yb => ?_
 try simp only [clL]
 refine a0I fun xq w9 st9 hR => ?_
 try dsimp only
 have HFRX := qH hR.1.1
 obtain ⟨ay, ny, cy, hey, -, hry⟩ := hR.2
 cases hey
 have HRB := qH (show RdB _ yb.1 32 _ from hry)
 clear hry
 clear hR xq
 refine a0p rfl rfl ?_
 refine e0X rfl Tryz.underlying22 c0w rfl ap12 (Own.still HFI.out HFRX.out) rfl rfl HRB.out (g0k _) (by rw [HLF.out]; decide) (by rw [HLF.out]; decide) st9.fr.size ?_
 intro va wa hown hfa
 have st10 := St.ofFr (((Own.still HFI.out HFRX.out)).fr st9.fr (Nat.le_refl _) hfa)
 have HOWN := qH hown
 clear hown hfa
 clear st9
 try simp only [clL]
 refine a0c rfl rfl apW ?_
 try simp only [clL]
 refine a0c rfl rfl apW ?_
 try simp only [clL]
 refine a0f ?_
 refine NoPanic.normal ?_
 clear HFI HFRX HRB
 have hfr := st10.fr
 clear st10
 go_wp2_with fail
 go_ret2
 refine ⟨va, rfl, ?_, hfr⟩
 have h := HOWN.out
 rw [← c0v] at h
 unfold sgZ
 exact OwnB1.of h (by rw [List.length_append, a0U])
end
section
open Go.RowKit Go.Mv Mvp Mvq
def h0H : List UInt8 := [112, 111, 105, 110, 116, 32]
def hB (label b : List UInt8) (i : Nat) : List UInt8 := c0z (h0H ++ label) [b, [UInt8.ofNat i]]
def hN (label b : List UInt8) (i : Nat) : Nat := beN (hB label b i)
theorem y0E {n : Nat} (h : b0S mP.M (e0u n) = true) : onC (.A (kc n) (kc (atY mP.M n))) := by
 rw [y0Q n h]
 rw [d0r] at h
 exact x0v h
open Classical in
noncomputable def e0b (label b : List UInt8) (i : Nat) : Option PT := if h : hN label b i < mP.M ∧ b0S mP.M (e0u (hN label b i)) = true then some (l0S (hN label b i) (atY mP.M (hN label b i)) (y0E h.2)) else none
theorem n0m {label b : List UInt8} {i n : Nat} (hn : hN label b i = n) (h : ¬ (n < mP.M ∧ b0S mP.M (e0u n) = true)) : e0b label b i = none := by
 subst hn; unfold e0b; rw [dif_neg h]
theorem q0W {label b : List UInt8} {i n : Nat} (hn : hN label b i = n) (h1 : n < mP.M) (h2 : b0S mP.M (e0u n) = true) : e0b label b i = some (l0S n (atY mP.M n) (y0E h2)) := by
 subst hn; unfold e0b; rw [dif_pos ⟨h1, h2⟩]
noncomputable def c0H (label b : List UInt8) (k : Nat) : List PT := (List.range k).filterMap (e0b label b)
theorem o0m (label b : List UInt8) : c0H label b 0 = [] := rfl
theorem j0y {label b : List UInt8} {k : Nat} (h : e0b label b k = none) : c0H label b (k + 1) = c0H label b k := by
 unfold c0H; rw [List.range_succ, List.filterMap_append]; simp [h]
theorem h0I {label b : List UInt8} {k : Nat} {x : PT} (h : e0b label b k = some x) : c0H label b (k + 1) = c0H label b k ++ [x] := by
 unfold c0H; rw [List.range_succ, List.filterMap_append]; simp [h]
theorem q0X (label b : List UInt8) (k : Nat) : (c0H label b k).length ≤ k := by
 unfold c0H
 exact Nat.le_trans (List.length_filterMap_le _ _) ap14
theorem o0n (label b : List UInt8) (k j : Nat) : ∃ l, c0H label b (k + j) = c0H label b k ++ l := by
 induction j with
 | zero => exact ⟨[], by simp⟩
 | succ j ih =>
  obtain ⟨l, hl⟩ := ih
  cases h : e0b label b (k + j) with
  | none => exact ⟨l, by rw [← Nat.add_assoc, j0y h, hl]⟩
  | some x => exact ⟨l ++ [x], by rw [← Nat.add_assoc, h0I h, hl, List.append_assoc]⟩
noncomputable def g0y (label b : List UInt8) : PT := ((c0H label b 256).head?).getD d0s
theorem o0o {label b : List UInt8} (h : c0H label b 256 = []) : g0y label b = d0s := by unfold g0y; rw [h]; rfl
theorem o0p {label b : List UInt8} {k : Nat} {x : PT} (hk : k < 256) (h : e0b label b k = some x) (h0 : c0H label b k = []) : g0y label b = x := by
 obtain ⟨l, hl⟩ := o0n label b (k + 1) (256 - (k + 1))
 rw [show k + 1 + (256 - (k + 1)) = 256 by omega, h0I h, h0] at hl
 unfold g0y
 rw [hl]
 rfl
theorem g0w (w : World) : Calls Tryz.prog 86 #[] w fun e w' => ∃ y : Nat × Nat, e = .returned (.pointer (some ⟨y.1, 0, none⟩)) ∧ (Has w' y.1 (d0N mP y.2 gXn gYn) 125 ∧ Has w' y.2 (mdL mP) 187) ∧ Fr Nob w w' := by
 refine (d0j w).mono ?_
 rintro e w' ⟨gc, k1, _, ⟨gp, h1, h2⟩, k3⟩
 exact ⟨(gc, gp), k1, ⟨h1, h2⟩, k3⟩
theorem c0L {w : World} {g : Nat} {L : List Value} {T : TypeId} (hg : Has w g L T) {o : Oper} {a : Act} {ty : TypeId} {x : Operand} (ho : o.op = .load ty x) {p : Nat} (hx : a.eval x = .pointer (some ⟨g, p, none⟩)) (cs : List Value) (hc : (L.drop p).take cs.length = cs)
  {d : TypeDesc} (hu : Tryz.prog.underlying ty = some d) (hd : d.isRow = true) (hi : (Tryz.prog.info? ty).map (·.size) = some cs.length) : (execOp a.eval o).run Tryz.prog w = .ok (.value (.agg cs.toArray)) w := by
 unfold execOp
 simp only [ho, hx, Instr.loadAt, Instr.sureAddr, Sem.run_bind, Sem.run_pure, Result.andThen_ok, run_loadVar_mid w g p ty cs d (hg.range p cs hc) hu hd hi]
theorem v0W (label : ByteArray) : (⟨#[112, 111, 105, 110, 116, 32]⟩ : ByteArray) ++ label = mkS (h0H ++ label.data.toList) := by
 have : (⟨#[112, 111, 105, 110, 116, 32]⟩ : ByteArray) = mkS h0H := rfl
 rw [this]
 conv => lhs; rw [← r0w label]
 exact n0J _ _
end
end Go.Proofs.YtemcankmggmgoaaGreat
namespace Go.Mv
open Go.RowKit
section
variable {P : Program} {ops : Array Oper} {md : Region.Mode} {Q : Exit → Act → World → Prop} {m : Nat} {S : Nat → Prop} {w0 : World} {tl : Pl}
def c0M (l : List Nat) (x : Nat → Value) : Nat → Value := fun k => if l.contains k then x k else undef
theorem q0Y {l : List Nat} {x : Nat → Value} {k : Nat} {v : Value} (h : l.contains k = false) : c0M l (upd x k v) = c0M l x := by
 funext j
 unfold c0M
 by_cases e : l.contains j = true
 ·rw [if_pos e, if_pos e, d0D]
  cases h2 : (j == k) with
  | false => rfl
  | true => rw [eq_of_beq h2, h] at e; cases e
 ·rw [if_neg e, if_neg e]
def u0b (ops : Array Oper) (i : Nat) (a : Act) (v : Value) : Act := match ops[i]? with | some o => a.put o.dst v | none => a
theorem e0M {i : Nat} {o : Oper} (ho : ops[i]? = some o) (a : Act) (v : Value) : u0b ops i a v = a.put o.dst v := by unfold u0b; rw [ho]
def g0g (ops : Array Oper) : List Nat → Act → (Nat → Value) → Act
 | [], a, _ => a
 | i :: s, a, x => g0g ops s (u0b ops i a (x i)) x
theorem k0M {d : Option Tmp} {v : Value} (x : Nat → Value) : ∀ (s : List Nat) (a : Act), (∀ k ∈ s, ∀ ok, ops[k]? = some ok → ok.dst ≠ d ∨ ok.dst = none) → (g0g ops s a x).put d v = g0g ops s (a.put d v) x
 | [], _, _ => rfl
 | i :: s, a, h => by
  unfold g0g
  rw [k0M x s _ fun k hk => h k (List.mem_cons_of_mem _ hk)]
  congr 1
  cases ho : ops[i]? with
  | none => unfold u0b; simp only [ho]
  | some o => rw [e0M ho, e0M ho, j0a _ _ _ _ _ (h i List.mem_cons_self o ho)]
theorem j0z {i : Nat} {v : Value} (x : Nat → Value) : ∀ (s : List Nat) (a : Act), i ∉ s → g0g ops s a (upd x i v) = g0g ops s a x
 | [], _, _ => rfl
 | j :: s, a, h => by
  simp only [List.mem_cons, not_or] at h
  unfold g0g
  rw [j0z x s _ h.2, d0D _ _ _ _ (by simpa using fun e => h.1 e.symm)]
def Apd (ops : Array Oper) (s : List Nat) : Prop := ∀ j ∈ s, ∀ k ∈ s, j ≠ k → ∀ oj ok, ops[j]? = some oj → ops[k]? = some ok → ok.dst ≠ oj.dst ∨ ok.dst = none
theorem Apd.tail {i : Nat} {s : List Nat} (h : Apd ops (i :: s)) : Apd ops s := fun j hj k hk => h j (List.mem_cons_of_mem _ hj) k (List.mem_cons_of_mem _ hk)
theorem n0n {i : Nat} {v : Value} {o : Oper} (ho : ops[i]? = some o) (x : Nat → Value) : ∀ (s : List Nat) (a : Act), i ∈ s → s.Nodup → Apd ops s → (g0g ops s a x).put o.dst v = g0g ops s a (upd x i v)
 | [], _, h, _, _ => by cases h
 | j :: s, a, h, hn, hd => by
  rw [List.nodup_cons] at hn
  by_cases e : i = j
  ·subst e
   unfold g0g
   rw [k0M x s _ fun k hk ok hok => hd i List.mem_cons_self k (List.mem_cons_of_mem _ hk) (fun e => hn.1 (e ▸ hk)) o ok ho hok]
   rw [e0M ho, e0M ho, k0p, j0z x s _ hn.1, f0G]
  ·have hi : i ∈ s := by
    rcases List.mem_cons.1 h with h | h
    ·exact absurd h e
    ·exact h
   unfold g0g
   rw [n0n ho x s _ hi hn.2 hd.tail, d0D _ _ _ _ (by simpa using fun h => e h.symm)]
theorem k0N : ∀ (s : List Nat) (a : Act), s.Nodup → ∃ x, g0g ops s a x = a
 | [], _, _ => ⟨fun _ => undef, rfl⟩
 | i :: s, a, hn => by
  rw [List.nodup_cons] at hn
  obtain ⟨x, hx⟩ := k0N s a hn.2
  cases ho : ops[i]? with
  | none => exact ⟨x, by unfold g0g u0b; simp only [ho]; exact hx⟩
  | some o =>
   obtain ⟨u, hu⟩ := m0T a o.dst
   refine ⟨upd x i u, ?_⟩
   unfold g0g
   rw [e0M ho, f0G, hu, j0z x s _ hn.1, hx]
def y0S (ops : Array Oper) (s : List Nat) : Bool := s.all fun j => s.all fun k => j == k || match ops[j]?, ops[k]? with | some a, some b => decide (b.dst ≠ a.dst) || decide (b.dst = none) | _, _ => false
theorem q0Z {s : List Nat} (h : y0S ops s = true) : Apd ops s := by
 intro j hj k hk hne oj ok hoj hok
 have := List.all_eq_true.1 (List.all_eq_true.1 h j hj) k hk
 simp only [hoj, hok, Bool.or_eq_true, beq_iff_eq, decide_eq_true_eq] at this
 rcases this with h | h
 ·exact absurd h hne
 ·exact h
def n0o : List Nat → Bool
 | [] => true
 | i :: s => !s.contains i && n0o s
theorem f0k : ∀ {s : List Nat}, n0o s = true → s.Nodup
 | [], _ => List.nodup_nil
 | i :: s, h => by
  simp only [n0o, Bool.and_eq_true, Bool.not_eq_true'] at h
  exact List.nodup_cons.2 ⟨by simpa using h.1, f0k h.2⟩
def r0a (md : Region.Mode) (ops : Array Oper) (m : Nat) (F Lz : List Nat) (pre : Nat → List Nat) (tl : Pl) : Bool :=
 (Lz.all fun i => match ops[i]? with | some o => decide (i ≠ m) && (List.range ops.size).all fun j => j == i || s0a md ops i ops.size j || (match ops[j]? with | some oj => (oj.after.any fun e => Region.binds md e && e.on == i) || o.apart ops oj | none => true) | none => false) && n0o F && y0S ops F &&
 (F.all fun i => match ops[i]? with | some o => o.after.all fun e => !Region.binds md e || (F.contains e.on && decide (e.on < i)) | none => false) &&
 (F.all fun i => (pre i).all fun j => F.contains j && s0a md ops i ops.size j) &&
 ((List.range ops.size).all fun t => F.contains t || F.all fun i => Lz.contains i || s0a md ops t ops.size i) &&
 b0R md ops m tl (e0m (Array.replicate ops.size false) F)
def Obl (P : Program) (ops : Array Oper) (Q : Exit → Act → World → Prop) (G : World → Prop) (A : (Nat → Value) → Act) (pre : Nat → List Nat) (Φ : Nat → (Nat → Value) → World → Prop) (i : Nat) (o : Oper) : Bool → Prop
 | false => ∀ x w, G w → (∀ j ∈ pre i, Φ j (c0M (j :: pre j) x) w) → (Region.wanted o (yielded ops (A x).tmps) = true ∧ o.wp P (A x) w (fun a' w' => ∃ v, a' = (A x).put o.dst v ∧ Fr Nob w w' ∧ Φ i (c0M (i :: pre i) (upd x i v)) w') Q) ∨ (Region.wanted o (yielded ops (A x).tmps) = false ∧ Φ i (c0M (i :: pre i) (upd x i undef)) w)
 | true => ∀ x w, G w → (∀ j ∈ pre i, Φ j (c0M (j :: pre j) x) w) → Region.wanted o (yielded ops (A x).tmps) = true ∧ ∃ v, (∀ wx, (execOp (A x).eval o).run P wx = .ok (.value v) wx) ∧ Φ i (c0M (i :: pre i) (upd x i v)) w
def Obls (P : Program) (ops : Array Oper) (Q : Exit → Act → World → Prop) (G : World → Prop) (A : (Nat → Value) → Act) (pre : Nat → List Nat) (Φ : Nat → (Nat → Value) → World → Prop) (Lz : List Nat) : List Nat → Prop
 | [] => True
 | i :: s => ((∀ o, ops[i]? = some o → Obl P ops Q G A pre Φ i o (Lz.contains i)) ∧
   ∀ y w w', Φ i (c0M (i :: pre i) y) w → Fr Nob w w' → Φ i (c0M (i :: pre i) y) w') ∧ Obls P ops Q G A pre Φ Lz s
theorem Obls.at {G : World → Prop} {A : (Nat → Value) → Act} {pre : Nat → List Nat} {Φ : Nat → (Nat → Value) → World → Prop} {Lz : List Nat} : ∀ {s : List Nat}, Obls P ops Q G A pre Φ Lz s → ∀ i ∈ s, (∀ o, ops[i]? = some o → Obl P ops Q G A pre Φ i o (Lz.contains i)) ∧
      ∀ y w w', Φ i (c0M (i :: pre i) y) w → Fr Nob w w' → Φ i (c0M (i :: pre i) y) w'
  | [], _, _, h => by cases h
  | _ :: _, h, i, hi => by
    rcases List.mem_cons.1 hi with rfl | hi
    · exact h.1
    · exact Obls.at h.2 i hi
theorem i0C {listed : Array Bool} (inv : Cl md ops listed) {k : Nat} : ∀ (f i : Nat), s0a md ops k f i = true → listed.getD k false = true → listed.getD i true = false → False
 | 0, i, h, _, _ => by cases h
 | f + 1, i, h, hk, hun => by
  obtain ⟨j, hj, hj2⟩ := List.any_eq_true.1 h
  simp only [Bool.and_eq_true, Bool.or_eq_true, decide_eq_true_eq] at hj2
  obtain ⟨oj, hoj, e, he, hb, hon⟩ := Region.waitsFor_spec hj2.1
  have hjl : listed.getD j false = true := by
   rcases hj2.2 with rfl | hja
   ·exact hk
   ·cases hl : listed.getD j false with
    | true => rfl
    | false =>
     have hjs : j < listed.size := by rw [inv.size]; exact (Array.getElem?_eq_some_iff.1 hoj).1
     exact (i0C inv f j hja hk (getD_in hjs hl)).elim
  have h2 := inv.closed j oj hoj hjl e he hb
  rw [hon, getD_both hun] at h2
  cases h2
def unl (F : List Nat) (listed : Array Bool) : List Nat := F.filter fun k => !listed.getD k false
theorem v0X {F : List Nat} {listed : Array Bool} {i : Nat} (hi : i < listed.size) : unl F (listed.setIfInBounds i true) = (unl F listed).filter (· != i) := by
 unfold unl
 rw [List.filter_filter]
 refine List.filter_congr fun k _ => ?_
 by_cases e : i = k
 ·subst e; simp [hi]
 ·rw [getD_set_ne false e]
  have h2 : (k != i) = true := by simpa using fun h => e h.symm
  rw [h2, Bool.true_and]
theorem r0b {i : Nat} {o : Oper} {a : Act} {w : World} {K : Act → World → Prop} (ho : ops[i]? = some o) (hg : Region.wanted o (yielded ops a.tmps) = true) (h : o.wp P a w K Q) : wpOp P ops Q i K a w := by
 unfold wpOp
 simp only [ho]
 rw [if_pos hg]
 exact .inl h
theorem o0q {G : World → Prop} {F Lz : List Nat} {a : Act} {pre : Nat → List Nat} {Φ : Nat → (Nat → Value) → World → Prop} (hsel : Region.noSelect ops = true) (hm : m < ops.size) (hQ : ∀ c (d : Option Tmp) v a w, Q (.panic c) (Act.put a d v) w → Q (.panic c) a w)
  (hok : r0a md ops m F Lz pre tl = true) (hG : ∀ w w', G w → Fr Nob w w' → G w') (hob : Obls P ops Q G (g0g ops F a) pre Φ Lz F)
  (hend : ∀ x w, G w → (∀ i ∈ F, Φ i (c0M (i :: pre i) x) w) → b0y P ops Q (fun _ => True) tl (g0g ops F a x) w) :
  ∀ (N : Nat) (listed : Array Bool) (x : Nat → Value) (w : World), (unl F listed).length = N → listed.size = ops.size → Cl md ops listed → (∀ k, listed.getD k false = true → k ∈ F) → G w → (∀ i ∈ F, listed.getD i false = true → Φ i (c0M (i :: pre i) x) w) →
   wpP P md ops Q (fun _ => True) m (N + tl.len) listed (g0g ops F a x) w := by
 simp only [r0a, Bool.and_eq_true] at hok
 obtain ⟨⟨⟨⟨⟨⟨hlz, hnd⟩, hap⟩, haf⟩, hpre⟩, htl⟩, hpl⟩ := hok
 have hnd := f0k hnd
 have hap := q0Z hap
 have hF : ∀ i ∈ F, ∃ o, ops[i]? = some o ∧ True ∧ ∀ e ∈ o.after, Region.binds md e = true → e.on ∈ F ∧ e.on < i := by
  intro i hi
  have := List.all_eq_true.1 haf i hi
  cases ho : ops[i]? with
  | none => simp only [ho] at this; cases this
  | some o =>
   simp only [ho] at this
   refine ⟨o, rfl, trivial, fun e he hb => ?_⟩
   have h2 := Array.all_eq_true'.1 this e he
   simpa [hb] using h2
 have hlt : ∀ i ∈ F, i < ops.size := fun i hi => by obtain ⟨o, ho, _⟩ := hF i hi; exact (Array.getElem?_eq_some_iff.1 ho).1
 intro N
 induction N with
 | zero =>
  intro listed x w hu hsz inv hLF hGw hfacts
  have hall : ∀ i ∈ F, listed.getD i false = true := by
   intro i hi
   cases h : listed.getD i false with
   | true => rfl
   | false =>
    have : i ∈ unl F listed := List.mem_filter.2 ⟨hi, by simp [h]⟩
    rw [List.eq_nil_of_length_eq_zero hu] at this
    cases this
  have he : listed = e0m (Array.replicate ops.size false) F := by
   refine e0G (by simp [b0t, hsz]) fun k hk => ?_
   rw [c0o _ _ _ (by simpa [hsz] using hk)]
   have hk' : k < listed.size := hk
   by_cases hkF : k ∈ F
   ·have h3 : listed.getD k true = true := by
     cases h : listed.getD k true with
     | true => rfl
     | false => have := hall k hkF; rw [getD_both h] at this; cases this
    rw [h3]; simp [hkF]
   ·cases h : listed.getD k true with
    | true =>
     have h2 : listed.getD k false = true := by simpa [hk'] using h
     exact absurd (hLF k h2) hkF
    | false => simp [hkF, hsz ▸ hk']
  have := b0p (md := md) (S := fun _ => True) hsel hm hQ tl listed (g0g ops F a x) w inv (by rw [he]; exact hpl) (fun _ => trivial) (hend x w hGw fun i hi => hfacts i hi (hall i hi))
  simpa using this
 | succ N ih =>
  intro listed x w hu hsz inv hLF hGw hfacts
  have hsome : ∀ (b i : Nat), i < b → i ∈ F → listed.getD i false = false → ∃ k ∈ F, listed.getD k false = false ∧ k ∈ Region.ready md ops listed := by
   intro b
   induction b with
   | zero => intro i h; omega
   | succ b ihb =>
    intro i hib hi hun
    obtain ⟨o, ho, hg, hafter⟩ := hF i hi
    by_cases hall : ∀ e ∈ o.after, Region.binds md e = true → listed.getD e.on false = true
    ·exact ⟨i, hi, hun, mem_ready.2 ⟨getD_in (by rw [hsz]; exact hlt i hi) hun, o, ho, hall⟩⟩
    ·simp only [Classical.not_forall] at hall
     obtain ⟨e, he, hb, hl⟩ := hall
     obtain ⟨h1, h2⟩ := hafter e he hb
     exact ihb e.on ap13 h1 (by simpa using hl)
  have hex : ∃ i, i ∈ F ∧ listed.getD i false = false := by
   cases h : unl F listed with
   | nil => rw [h] at hu; cases hu
   | cons i s =>
    have : i ∈ unl F listed := by rw [h]; exact List.mem_cons_self
    obtain ⟨h1, h2⟩ := List.mem_filter.1 this
    exact ⟨i, h1, by simpa using h2⟩
  obtain ⟨i00, hi00, hun00⟩ := hex
  obtain ⟨i0, hi0, hun0, hr0⟩ := hsome (i00 + 1) i00 (Nat.lt_succ_self _) hi00 hun00
  have e1 : N + 1 + tl.len = (N + tl.len) + 1 := by omega
  rw [e1]
  have hprel : ∀ i ∈ F, i ∈ Region.ready md ops listed → ∀ j ∈ pre i, j ∈ F ∧ listed.getD j false = true := by
   intro i hiF hi j hj
   have h := List.all_eq_true.1 (List.all_eq_true.1 hpre i hiF) j hj
   simp only [Bool.and_eq_true] at h
   have hjF : j ∈ F := by simpa using h.1
   refine ⟨hjF, ?_⟩
   cases hl : listed.getD j false with
   | true => rfl
   | false => exact absurd hi (e0B inv _ _ h.2 (getD_in (by rw [hsz]; exact hlt j hjF) hl))
  have next : ∀ i ∈ F, i ∈ Region.ready md ops listed → ∀ o, ops[i]? = some o → ∀ v w', Fr Nob w w' → Φ i (c0M (i :: pre i) (upd x i v)) w' →
    wpP P md ops Q (fun _ => True) m (N + tl.len) (listed.setIfInBounds i true) ((g0g ops F a x).put o.dst v) w' := by
   intro i hiF hi o ho v w' hfr hΦ
   obtain ⟨hiun, _⟩ := mem_ready.1 hi
   rw [n0n ho x F a hiF hnd hap]
   have hil : i < listed.size := by rw [hsz]; exact hlt i hiF
   refine ih (listed.setIfInBounds i true) (upd x i v) w' ?_ (by simpa using hsz) (inv.set hi) ?_ (hG w w' hGw hfr) ?_
   ·rw [v0X hil]
    have hmem : i ∈ unl F listed := List.mem_filter.2 ⟨hiF, by
     cases h : listed.getD i false with
     | false => rfl
     | true => rw [getD_both hiun] at h; cases h⟩
    have := g0a (l := unl F listed) (k0q hnd _) hmem
    omega
   ·intro k hk
    by_cases e : i = k
    ·subst e; exact hiF
    ·rw [getD_set_ne false e] at hk; exact hLF k hk
   ·intro k hkF hk
    by_cases e : i = k
    ·subst e; exact hΦ
    ·rw [getD_set_ne false e] at hk
     have h1 := (hob.at k hkF).2 _ _ _ (hfacts k hkF hk) hfr
     rwa [q0Y]
     cases h : (k :: pre k).contains i with
     | false => rfl
     | true =>
      exfalso
      have hm : i ∈ k :: pre k := by simpa using h
      rcases List.mem_cons.1 hm with h2 | h2
      ·exact e h2
      ·have h3 := List.all_eq_true.1 (List.all_eq_true.1 hpre k hkF) i h2
       simp only [Bool.and_eq_true] at h3
       exact i0C inv _ _ h3.2 hk hiun
  by_cases hlo : ∃ i ∈ F, i ∈ Region.ready md ops listed ∧ i ∈ Lz
  ·
   obtain ⟨i, hiF, hir, hiL⟩ := hlo
   obtain ⟨o, ho, hg, -⟩ := hF i hiF
   have hO := (hob.at i hiF).1 o ho
   rw [show Lz.contains i = true by simpa using hiL] at hO
   obtain ⟨hg, v, hv, hΦ⟩ := hO x w hGw fun j hj => hfacts j (hprel i hiF hir j hj).1 (hprel i hiF hir j hj).2
   have hl := List.all_eq_true.1 hlz i hiL
   simp only [ho, Bool.and_eq_true, decide_eq_true_eq] at hl
   refine f0C ho (Region.noSelect_spec hsel) (fun c a w => hQ c o.dst v a w) hl.1 hm (N + tl.len) listed (g0g ops F a x) w inv ?_ hir (.inl ⟨hg, fun wx _ => hv wx⟩) (fun _ => trivial) (next i hiF hir o ho v w (Fr.refl _ _) hΦ)
   intro j oj hoj hji hjun hno
   have h := List.all_eq_true.1 hl.2 j (List.mem_range.2 (Array.getElem?_eq_some_iff.1 hoj).1)
   simp only [hoj, Bool.or_eq_true, beq_iff_eq] at h
   rcases h with (h | h) | h | h
   ·exact absurd h hji
   ·exact absurd hir (e0B inv _ _ h hjun)
   ·obtain ⟨k, hk, h2⟩ := Array.any_eq_true.1 h
    simp only [Bool.and_eq_true, beq_iff_eq] at h2
    exact absurd h2.2 (hno _ (Array.getElem_mem hk) h2.1)
   ·exact h
  refine ⟨fun h => (by rw [h] at hr0; cases hr0), fun i hi => ?_⟩
  obtain ⟨hiun, oi, hoi, hiall⟩ := mem_ready.1 hi
  have hisz : i < ops.size := (Array.getElem?_eq_some_iff.1 hoi).1
  have hiF : i ∈ F := by
   have h := List.all_eq_true.1 htl i (List.mem_range.2 hisz)
   simp only [Bool.or_eq_true] at h
   rcases h with h | h
   ·simpa using h
   ·have h2 := List.all_eq_true.1 h i0 hi0
    simp only [Bool.or_eq_true] at h2
    rcases h2 with h2 | h2
    ·exact absurd ⟨i0, hi0, hr0, by simpa using h2⟩ hlo
    ·exact absurd hi (e0B inv _ _ h2 (getD_in (by rw [hsz]; exact hlt i0 hi0) hun0))
  obtain ⟨o, ho, hg, -⟩ := hF i hiF
  have hO := (hob.at i hiF).1 o ho
  have hnl : Lz.contains i = false := by
   cases h : Lz.contains i with
   | false => rfl
   | true => exact absurd ⟨i, hiF, hi, by simpa using h⟩ hlo
  rw [hnl] at hO
  rcases hO x w hGw fun j hj => hfacts j (hprel i hiF hi j hj).1 (hprel i hiF hi j hj).2 with ⟨hgd, hO⟩ | ⟨hgd, hO⟩
  rotate_left 1
  ·unfold wpOp
   simp only [ho]
   rw [if_neg (by rw [hgd]; decide)]
   exact ⟨fun _ _ => trivial, next i hiF hi o ho undef w (Fr.refl _ _) hO⟩
  refine r0b ho hgd (Oper.wp_mono (fun a' w' h' => ?_) hO)
  obtain ⟨v, rfl, hfr, hΦ⟩ := h'
  exact ⟨fun _ _ => trivial, next i hiF hi o ho v w' hfr hΦ⟩
theorem j0A {id : Nat} {a : Act} {w : World} {l : List Oper} (G : World → Prop) (F Lz : List Nat) (pre : Nat → List Nat) (Φ : Nat → (Nat → Value) → World → Prop) (m : Nat) (tl : Pl) (hm : P.follows .mixedOrders = true)
  (hB : (Region.noSelect l.toArray && decide (m < l.toArray.size) && decide (F.length + tl.len = l.toArray.size) && r0a .any l.toArray m F Lz pre tl) = true)
  (hQ : ∀ c (d : Option Tmp) v a w, Q (.panic c) (Act.put a d v) w → Q (.panic c) a w) (hG0 : G w.drew) (hG : ∀ w w', G w → Fr Nob w w' → G w') (hob : Obls P l.toArray Q G (g0g l.toArray F a) pre Φ Lz F)
  (hend : ∀ x w, G w → (∀ i ∈ F, Φ i (c0M (i :: pre i) x) w) → b0y P l.toArray Q (fun _ => True) tl (g0g l.toArray F a x) w) : (Code.region id l.toArray true).wp P Q a w := by
 simp only [Bool.and_eq_true, decide_eq_true_eq] at hB
 obtain ⟨⟨⟨hsel, hms⟩, hlen⟩, hok⟩ := hB
 have inv0 : Cl .any l.toArray (Array.replicate l.toArray.size false) :=
  ⟨by simp, fun j oj _ hl => (by rw [getD_replicate_false] at hl; cases hl)⟩
 have hnd : F.Nodup := by
  have h := hok
  simp only [r0a, Bool.and_eq_true] at h
  exact f0k h.1.1.1.1.1.2
 obtain ⟨x0, hx0⟩ := k0N (ops := l.toArray) F a hnd
 have hul : unl F (Array.replicate l.toArray.size false) = F := by
  unfold unl
  exact List.filter_eq_self.2 fun k _ => by rw [getD_replicate_false]; rfl
 have H := o0q (md := .any) hsel hms hQ hok hG hob hend F.length (Array.replicate l.toArray.size false) x0 w.drew (by rw [hul]) ap14 inv0 (fun k hk => by rw [getD_replicate_false] at hk; cases hk) hG0 (fun i _ hk => by rw [getD_replicate_false] at hk; cases hk)
 rw [hx0, hlen] at H
 exact wp_region_any hm (d0w _ _ _ _ H)
theorem d0T {id : Nat} {a : Act} {w : World} {l : List Oper} (G : World → Prop) (F Lz : List Nat) (pre : Nat → List Nat) (Φ : Nat → (Nat → Value) → World → Prop) (m : Nat) (tl : Pl) (A : (Nat → Value) → Act) (hA : ∀ x, g0g l.toArray F a x = A x) (hm : P.follows .mixedOrders = true)
  (hB : (Region.noSelect l.toArray && decide (m < l.toArray.size) && decide (F.length + tl.len = l.toArray.size) && r0a .any l.toArray m F Lz pre tl) = true)
  (hQ : ∀ c (d : Option Tmp) v a w, Q (.panic c) (Act.put a d v) w → Q (.panic c) a w) (hG0 : G w.drew) (hG : ∀ w w', G w → Fr Nob w w' → G w') (hob : Obls P l.toArray Q G A pre Φ Lz F)
  (hend : ∀ x w, G w → (∀ i ∈ F, Φ i (c0M (i :: pre i) x) w) → b0y P l.toArray Q (fun _ => True) tl (A x) w) : (Code.region id l.toArray true).wp P Q a w := by
 obtain rfl : (g0g l.toArray F a) = A := funext hA
 exact j0A G F Lz pre Φ m tl hm hB hQ hG0 hG hob hend
theorem b0a {G : World → Prop} {A : (Nat → Value) → Act} {pre : Nat → List Nat} {Φ : Nat → (Nat → Value) → World → Prop} {Lz : List Nat} {i : Nat} {s : List Nat} {o : Oper} (ho : ops[i]? = some o) (hl : Lz.contains i = false)
  (h : ∀ x w, G w → (∀ j ∈ pre i, Φ j (c0M (j :: pre j) x) w) → o.wp P (A x) w (fun a' w' => ∃ v, a' = (A x).put o.dst v ∧ Fr Nob w w' ∧ Φ i (c0M (i :: pre i) (upd x i v)) w') Q)
  (hm : ∀ y w w', Φ i (c0M (i :: pre i) y) w → Fr Nob w w' → Φ i (c0M (i :: pre i) y) w') (hs : Obls P ops Q G A pre Φ Lz s) (hg : o.guard = none := by rfl) : Obls P ops Q G A pre Φ Lz (i :: s) :=
 ⟨⟨fun o' ho' => by
  obtain rfl : o = o' := Option.some.inj (ho.symm.trans ho')
  rw [hl]
  exact fun x w h1 h2 => .inl ⟨by simp [Region.wanted, hg], h x w h1 h2⟩, hm⟩, hs⟩
theorem b0e {G : World → Prop} {A : (Nat → Value) → Act} {pre : Nat → List Nat} {Φ : Nat → (Nat → Value) → World → Prop} {Lz : List Nat} {i : Nat} {s : List Nat} {o : Oper} (ho : ops[i]? = some o) (hl : Lz.contains i = false)
  (hw : ∀ x w, G w → (∀ j ∈ pre i, Φ j (c0M (j :: pre j) x) w) → Region.wanted o (yielded ops (A x).tmps) = true) (h : ∀ x w, G w → (∀ j ∈ pre i, Φ j (c0M (j :: pre j) x) w) → o.wp P (A x) w (fun a' w' => ∃ v, a' = (A x).put o.dst v ∧ Fr Nob w w' ∧ Φ i (c0M (i :: pre i) (upd x i v)) w') Q)
  (hm : ∀ y w w', Φ i (c0M (i :: pre i) y) w → Fr Nob w w' → Φ i (c0M (i :: pre i) y) w') (hs : Obls P ops Q G A pre Φ Lz s) : Obls P ops Q G A pre Φ Lz (i :: s) :=
 ⟨⟨fun o' ho' => by
  obtain rfl : o = o' := Option.some.inj (ho.symm.trans ho')
  rw [hl]
  exact fun x w h1 h2 => .inl ⟨hw x w h1 h2, h x w h1 h2⟩, hm⟩, hs⟩
theorem b0z {G : World → Prop} {A : (Nat → Value) → Act} {pre : Nat → List Nat} {Φ : Nat → (Nat → Value) → World → Prop} {Lz : List Nat} {i : Nat} {s : List Nat} {o : Oper} (ho : ops[i]? = some o) (hl : Lz.contains i = false)
  (hw : ∀ x w, G w → (∀ j ∈ pre i, Φ j (c0M (j :: pre j) x) w) → Region.wanted o (yielded ops (A x).tmps) = false) (h : ∀ x w, Φ i x w)
  (hs : Obls P ops Q G A pre Φ Lz s) : Obls P ops Q G A pre Φ Lz (i :: s) :=
 ⟨⟨fun o' ho' => by
  obtain rfl : o = o' := Option.some.inj (ho.symm.trans ho')
  rw [hl]
  exact fun x w h1 h2 => .inr ⟨hw x w h1 h2, h _ _⟩, fun _ _ _ _ _ => h _ _⟩, hs⟩
variable {o : Oper} {a : Act} {w : World} {Ψ : Value → World → Prop}
theorem d0L {v : Value} (h : (execOp a.eval o).run P w = .ok (.value v) w) (hΨ : Ψ v w) : o.wp P a w (fun a' w' => ∃ v, a' = a.put o.dst v ∧ Fr Nob w w' ∧ Ψ v w') Q := by
 unfold Oper.wp
 rw [h]
 exact ⟨v, rfl, Fr.refl _ _, hΨ⟩
theorem x0M {v : Nat → Value} {L : List Value} {T : TypeId} (hk : Mk P (execOp a.eval o) v L T) (h : ∀ g w', Fr Nob w w' → w.heap.size ≤ g → Has w' g L T → Ψ (v g) w') : o.wp P a w (fun a' w' => ∃ v, a' = a.put o.dst v ∧ Fr Nob w w' ∧ Ψ v w') Q := by
 obtain ⟨g, w', hr, hf, hle, hg⟩ := hk w
 unfold Oper.wp
 rw [hr]
 exact ⟨v g, rfl, hf, h g w' hf hle hg⟩
theorem g0O {t e : TypeId} {k : Nat} {parts : Array (Nat × Operand)} (hop : o.op = .buildSlice t k parts) (hu : P.underlying t = some (.slice e)) {z : Value} {sz by_ : Nat} (hi0 : (P.info? e).map (fun i => (i.zero, i.size, i.bytes)) = some (some z, sz, by_))
  (vs : List Value) (hp : (parts.toList.map fun p => (p.1, a.eval p.2)) = (vs.zipIdx 0).map fun x => (x.2, x.1)) (hv : ∀ v ∈ vs, v.cells.size = sz) (hk : vs.length = k) (L : List Value) (hL : (vs.flatMap fun v => v.cells.toList) = L)
  (h : ∀ g w', Fr Nob w w' → w.heap.size ≤ g → Has w' g L e → Ψ (.slice (some ⟨g, 0, none⟩) k k) w') (hk0 : 0 < k * sz := by decide) (hk24 : k * sz ≤ 16777216 := by decide) : o.wp P a w (fun a' w' => ∃ v, a' = a.put o.dst v ∧ Fr Nob w w' ∧ Ψ v w') Q :=
 x0M (v := fun g => .slice (some ⟨g, 0, none⟩) k k) (by unfold execOp; simp only [hop]; rw [k0K hp]; exact q0R hu hi0 vs rfl hv hk L hL hk0 hk24) h
theorem f0c {f : FuncId} {xs : Array Operand} {ats : Array TypeId} (hop : o.op = .call { callee := .value (.func f), args := xs, argTypes := ats }) (hcl : ∀ us w, (callFunc f us).run P w = .ok (.enter f us) w)
  {vs : List Value} (hargs : xs.toList.map a.eval = vs) (h : Calls P f vs.toArray w fun e w' => ∃ v, e = .returned v ∧ Fr Nob w w' ∧ Ψ v w') : o.wp P a w (fun a' w' => ∃ v, a' = a.put o.dst v ∧ Fr Nob w w' ∧ Ψ v w') Q :=
 u0X hop hcl hargs (h.mono fun _ _ ⟨v, h1, h2, h3⟩ => ⟨v, h1, v, rfl, h2, h3⟩)
end
end Go.Mv
namespace Go.Proofs.YtemcankmggmgoaaGreat
open Go.RowKit Go.Mv Mvp Mvt
attribute [local irreducible] a0y lw mix cw b0q b0r b0i beN b0x a0Q a0A a0J elN mdL a0V a0L a0N b0k b0u toB a0z a0E b0s a0H c0n b0l a0F c0z u0B
end Go.Proofs.YtemcankmggmgoaaGreat
namespace Go.Mv
open Go.RowKit
variable {P : Program}
end Go.Mv
namespace Go.Mv
open Go.RowKit Go.ChangeShapes Go.WideShapes
theorem Below.trodAll {H : Type} {enc : TypeId × Value → H} {P : Program} (hl : laidOutB P = true) {W W' : World} (hb : Below W.heap.size W W') :
  ∀ (ts : List TypeId) (vs : List Value) (ds : List (DataW H)) (ps : List MemPlace), (∀ t ∈ ts, P.readableRec t = true ∧ t < P.types.size) → DataW.TrodAll enc P W 0 (fun _ => true) true ts vs ds ps → (∀ x ∈ ps, x.block < W.heap.size) →
   DataW.TrodAll enc P W' 0 (fun b => decide (b < W.heap.size)) true ts vs ds ps
 | [], vs, ds, ps, _, h, _ => by
  obtain ⟨rfl, rfl, rfl⟩ := trodAll_nil h
  exact trodAll_mk0
 | t :: ts, vs, ds, ps, hr, h, hlt => by
  obtain ⟨v, vs', d, ds', p, q, rfl, rfl, rfl, h0, hs⟩ := trodAll_cons h
  have h1 := hr t ap14
  exact trodAll_cons_mk (Below.trod hl h1.1 h1.2 h0 hb (fun x hx => hlt x (by simp [hx]))) (Below.trodAll hl hb ts vs' ds' q (fun t ht => hr t (by simp [ht])) hs (fun x hx => hlt x (by simp [hx])))
theorem t0p {H : Type} {enc : TypeId × Value → H} {P : Program} {f : Func} {s : ChangeSpec} {W W' : World} {args : Array Value} {ds gs : List (DataW H)} {before : List MemPlace}
  (hl : laidOutB P = true) (hr : ∀ t ∈ f.params.toList, P.readableRec t = true ∧ t < P.types.size) (hW : DataW.Whole enc P f.params.toList s.vars false W args.toList ds gs before)
  (hv : s.vars = []) (hres : (s.fn H (ds ++ gs)).results = [.lit (.bool true)]) (harg : (s.fn H (ds ++ gs)).args = ds) (hvar : (s.fn H (ds ++ gs)).vars = [])
  {tb : TypeId} (hrt : f.resultTypes = #[tb]) (hu : P.underlying tb = some .bool) (hf : Fr Nob W W') :
  s.post enc P f false true false false W args (.bool true) W' := by
 have hW' := hW
 obtain ⟨p, q, hA, hV, rfl, hfz, hnd⟩ := hW
 rw [hv] at hV
 obtain ⟨rfl, rfl⟩ := trodVars_none hV
 have hlt : ∀ x ∈ p ++ [], x.block < W.heap.size := fun x hx => hW'.lt x hx
 refine ⟨ds, [], p ++ [], [], p, [], hW', ?_, ?_, ?_, World.keptBut_mono (fun x hx => ⟨hx, ?_⟩) (hf.below.frame (· ∈ p ++ [])), fun h => by cases h⟩
 ·rw [hres, hrt]
  exact trodAll_mk1 (shut_bool hu true)
 ·rw [harg]
  exact Below.trodAll hl hf.below _ _ _ _ hr hA (fun x hx => hlt x (by simp [hx]))
 ·rw [hvar, hv]; exact rfl
 ·simp only [List.append_nil] at hx
  exact .inr (.inl hx)
end Go.Mv
