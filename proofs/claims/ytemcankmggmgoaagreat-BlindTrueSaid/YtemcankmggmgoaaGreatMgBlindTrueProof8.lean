/- ; ; ; ; ; ; ; . -/
import Derived.Test.YtemcankmggmgoaaGreatMgBlindTrueProof7
import Derived.Test.YtemcankmggmgoaaGreatMgBlindTrueProof4
import Derived.Test.YtemcankmggmgoaaGreatMgBlindTrueProof3
import Derived.Test.YtemcankmggmgoaaGreatMgBlindTrueProof5
import Derived.Test.YtemcankmggmgoaaGreatMgBlindTrueProof6
set_option maxHeartbeats 16000000
set_option maxRecDepth 1000000

namespace Go.Mv
open Go.RowKit
theorem Has.neT {w : World} {g g' : Nat} {L L' : List Value} {T T' : TypeId} (h : Has w g L T) (k : Has w g' L' T') (hT : T ≠ T') : g ≠ g' := by
 rintro rfl
 obtain ⟨_, _, h1, _⟩ := h
 obtain ⟨_, _, h2, _⟩ := k
 rw [h1] at h2
 simp only [Option.some.injEq, Obj.cells.injEq] at h2
 exact hT h2.2.1
end Go.Mv
namespace Go.Proofs.YtemcankmggmgoaaGreat
open Go.RowKit Go.Mv Mvp Mvq
theorem Cv.keepT {w w' : World} {gc gT : Nat} {L : List Value} (h : Cv w gc) (hT : Has w gT L 147) (hf : Fr (One gT) w w') : Cv w' gc := by
 obtain ⟨gp, h1, h2⟩ := h
 exact ⟨gp, h1.keep hf (fun e => h1.neT hT ap15 e), h2.keep hf (fun e => h2.neT hT ap15 e)⟩
attribute [local irreducible] a0C lw mix cw b0k b0y b0j a0M a0n beN b0F a0P b0C a0J a0R elN mdL a0S rtN rtV b0G gXn gYn PT.L l0V l0r f0D tbL tmR tmL dbN h0T h0B j0e dig rdT b0J b0q ptL e0W c0P a0H
theorem o0S (gk : Nat) (al : Option Addr) (n cl : Nat) (vs : List Value) (ls : List (List UInt8)) (w : World) (hv : Rd w al n vs) (hp : BParts w vs ls) (hn : n ≤ 100000) (hg : c0P ls = true) (gT : Nat) (LT : List Value) (hgt : Has w gT LT 147) (t : PT) (hop : ∀ ap cp wx, Fr Nob w wx → Off (One gT) ap → Rd wx ap (ls.length * 12) (e0W ls) → Calls Tryz.prog 181 #[.slice ap ls.length cp, .pointer (some ⟨gk, 0, none⟩)] wx fun e w' => e = .returned (.agg t.L.toArray) ∧ Fr (One gT) wx w') :
  Calls Tryz.prog 84 #[.func (.func 181) #[] #[.pointer (some ⟨gk, 0, none⟩)], .slice al n cl] w fun e w' => ∃ sv, e = .returned (.tuple #[sv, .int .i64 0]) ∧ Own w' w.heap.size 5 1 sv 33 (bs (a0H t.pt)) ∧ Fr (One gT) w w' := by
 have HV := qH hv
 have HP := qH hp
 have HL := qH (show ls.length = n by rw [← hp.1, hv.len])
 have HN := qH hn
 have hnI : (n : Int) ≤ 100000 := by omega
 clear hv hp
 have HOP := qH hop
 have HGA := qH hg
 have HGT := qH hgt
 clear hop hg hgt
 go_enter Tryz.func84, Tryz.ntmps84
 go_wp2
 go_loopw [6, 13] (fun v i wr => ∃ k : Nat, k ≤ n ∧ i = .int .i64 (k : Int) ∧ c0P (ls.take k) = true ∧ Own wr w.heap.size 117 12 v k (e0W (ls.take k)) ∧ Fr Nob w wr) (fun _ i _ => n - (intOf i).toNat)
 case atStart => exact ⟨0, Nat.zero_le _, rfl, by rw [List.take_zero]; unfold c0P; rfl, by rw [List.take_zero]; unfold e0W; exact Own.nil _ _ _ _, Fr.refl _ _⟩
 case round =>
  obtain ⟨k, hk, rfl, hgood, hown, hf⟩ := hrel
  by_cases hlt : k < n
  ·have hltI : (k : Int) < (n : Int) := by omega
   obtain ⟨b, o, rfl, hat⟩ := (HV.out.still hf).at ap16
   have hvl : k < vs.length := by rw [HV.out.len]; exact hlt
   obtain ⟨a, nn, c, hve, hcc, hrd⟩ := HP.out.2 k (vs[k]'hvl) (List.getElem?_eq_getElem hvl)
   have hc1 := hat k _ (List.getElem?_eq_getElem hvl)
   rw [hve] at hc1
   have hlk : k < ls.length := by rw [HL.out]; exact hlt
   have hts := g0I ls k hlk
   have hcs : e0W (ls.take (k + 1)) = e0W (ls.take k) ++ (rdT (ls.getD k [])).L := by
    rw [List.take_succ_eq_append_getElem hlk, g0H]
    simp [List.getD_eq_getElem?_getD, hlk]
   have hbad := h0V ls k hlk
   generalize hL : ls.getD k [] = l at *
   have HLL := qH hL
   have HRD := qH (hrd.still hf)
   have HTS := qH hts
   have HCS := qH hcs
   have HBAD := qH hbad
   have HG := qH hgood
   have HOWN := qH hown
   have HF := qH hf
   have HCC := qH hcc
   clear hL hrd hts hcs hbad hgood hown hf hat hve hcc
   have st0 := St.start Nob wr
   have HK := qH (show b0J l = true by
    cases hh : b0J l
    ·have := HBAD.out hh
     rw [HGA.out] at this
     cases this
    ·rfl)
   skip
   go_wp2_with fail
   refine (d0q _).mono ?_
   rintro e' w1 ⟨gc, rfl, hle, hcv, hf1⟩
   have st1 := st0.keep hf1
   have HCV := qH hcv
   clear hcv hle
   clear st0 hf1
   go_wp2_with fail
   refine (n0q l HK.out gc a nn c _ HCV.out (HRD.out.still st1.fr) HCC.out).mono ?_
   rintro e' w2 ⟨rfl, hf2⟩
   have st2 := st1.keep hf2
   clear st1 hf2
   go_wp2_with (with_reducible refine wSk 9 ?_)
   refine a0a st2 rfl rfl (z := .agg (List.replicate 12 (.int .u64 0)).toArray) ap14 (cw 12 0) ap12 ?_
   intro g9 w3 st3
   clear st2
   go_wp2_with (with_reducible refine wSn ?_)
   refine a0b st3 0 rfl rfl rfl rfl rfl ap2 ap6 (PT.one _) ?_
   intro w4 st4
   clear st3
   have HFS := qH st4.fr
   go_wp2_with (with_reducible refine wSk 26 ?_)
   refine a0p st4 0 rfl rfl rfl Tryz.underlying117 rfl rfl ap6 ?_
   clear st4
   go_wp2_with (with_reducible refine wSk 27 ?_)
   refine f0u rfl rfl Tryz.underlying115 f0m [.agg (rdT l).L.toArray] rfl (by simp [Value.cells, PT.len]) rfl ((rdT l).L) (by simp [Value.cells]) ?_
   intro wA hgA hfA hzA
   clear hzA
   have hfrA := HFS.out.then hfA
   have hsz := HF.out.size
   have hsz2 := hfrA.size
   have hownA := HOWN.out.still hfrA
   have hrdA : Rd wA (some ⟨w4.heap.size, 0, none⟩) (1 * 12) ((rdT l).L) := by
    have := Rd.whole hgA
    rwa [PT.len] at this
   have HRDA := qH hrdA
   have HOWNA := qH hownA
   have HFRA := qH hfrA
   clear hgA hfA hrdA hownA hfrA
   generalize w4.heap.size = gA at *
   go_wp2_with (with_reducible refine wSk 28 ?_)
   refine c0E rfl rfl Tryz.underlying115 f0m rfl ap15 HOWNA.out rfl rfl HRDA.out (PT.one _) ap11 ap16 ap16 ?_
   intro vB wB hownB hfB hbB
   clear hbB
   have hfrB := HOWNA.out.fr (HF.out.then HFRA.out) (Nat.le_refl _) hfB
   have HFRB := qH hfrB
   rw [← HCS.out] at hownB
   have HOWNB := qH hownB
   clear hfrB hownB hfB
   go_wp2_with fail
   go_roundw
   case rel => exact ⟨k + 1, by omega, by go_num, by rw [HTS.out, HG.out, HK.out]; rfl, HOWNB.out, HFRB.out⟩
   case measure => simp [intOf]; omega
  ·have hge : ¬ ((k : Int) < (n : Int)) := by omega
   have hkn : k = ls.length := by rw [HL.out]; omega
   rw [hkn, List.take_of_length_le (Nat.le_refl _)] at hgood hown
   obtain ⟨ap, cp, rfl, -, hre, hbase⟩ := hown.form
   have HOFF := qH (show Off (One gT) ap from fun x hx he => by have h1 := hbase x hx; have h2 := HGT.out.lt; have h3 : x.block = gT := he; omega)
   clear hbase
   have HRE := qH hre
   have HF := qH hf
   clear hkn hgood hown hf hre
   go_wp2_with fail
   refine (d0q _).mono ?_
   rintro e w1 ⟨gc, rfl, hle, hcv, hf1⟩
   have HCV := qH hcv
   have HF1 := qH (HF.out.then hf1)
   have HRE1 := qH (HRE.out.still hf1)
   clear hle hcv hf1 HF HRE
   go_wp2_with fail
   refine (HOP.out ap cp _ HF1.out HOFF.out HRE1.out).mono ?_
   rintro e w2 ⟨rfl, hf2⟩
   have HCV2 := qH (HCV.out.keepT (HGT.out.keep HF1.out id) hf2)
   have HF2 := qH ((HF1.out.mono (fun _ _ t => t.elim)).trans hf2 (fun _ _ t => t))
   clear hf2 HF1 HRE1 HCV
   go_wp2_with fail
   refine (l0A t gc _ HCV2.out).mono ?_
   rintro e w3 ⟨sv, rfl, hown3, hf3⟩
   have h2 := HF2.out.same hf3
   have ho := hown3.mono HF2.out.size
   clear hown3 hf3 HF2 HCV2
   go_wp2_with fail
   go_ret2
   exact ⟨sv, rfl, ho, h2⟩
theorem n0t (gk : Nat) (al : Option Addr) (n cl : Nat) (vs : List Value) (ls : List (List UInt8)) (w : World) (hv : Rd w al n vs) (hp : BParts w vs ls) (hn : n ≤ 100000) (hg : c0P ls = false) :
  Calls Tryz.prog 84 #[.func (.func 181) #[] #[.pointer (some ⟨gk, 0, none⟩)], .slice al n cl] w fun e w' => e = .returned (.tuple #[.slice none 0 0, .int .i64 4]) ∧ Fr Nob w w' := by
 have HV := qH hv
 have HP := qH hp
 have HL := qH (show ls.length = n by rw [← hp.1, hv.len])
 have HN := qH hn
 have hnI : (n : Int) ≤ 100000 := by omega
 clear hv hp
 have HGA := qH hg
 clear hg
 go_enter Tryz.func84, Tryz.ntmps84
 go_wp2
 go_loopw [6, 13] (fun v i wr => ∃ k : Nat, k ≤ n ∧ i = .int .i64 (k : Int) ∧ c0P (ls.take k) = true ∧ Own wr w.heap.size 117 12 v k (e0W (ls.take k)) ∧ Fr Nob w wr) (fun _ i _ => n - (intOf i).toNat)
 case atStart => exact ⟨0, Nat.zero_le _, rfl, by rw [List.take_zero]; unfold c0P; rfl, by rw [List.take_zero]; unfold e0W; exact Own.nil _ _ _ _, Fr.refl _ _⟩
 case round =>
  obtain ⟨k, hk, rfl, hgood, hown, hf⟩ := hrel
  by_cases hlt : k < n
  ·have hltI : (k : Int) < (n : Int) := by omega
   obtain ⟨b, o, rfl, hat⟩ := (HV.out.still hf).at ap16
   have hvl : k < vs.length := by rw [HV.out.len]; exact hlt
   obtain ⟨a, nn, c, hve, hcc, hrd⟩ := HP.out.2 k (vs[k]'hvl) (List.getElem?_eq_getElem hvl)
   have hc1 := hat k _ (List.getElem?_eq_getElem hvl)
   rw [hve] at hc1
   have hlk : k < ls.length := by rw [HL.out]; exact hlt
   have hts := g0I ls k hlk
   have hcs : e0W (ls.take (k + 1)) = e0W (ls.take k) ++ (rdT (ls.getD k [])).L := by
    rw [List.take_succ_eq_append_getElem hlk, g0H]
    simp [List.getD_eq_getElem?_getD, hlk]
   have hbad := h0V ls k hlk
   generalize hL : ls.getD k [] = l at *
   have HLL := qH hL
   have HRD := qH (hrd.still hf)
   have HTS := qH hts
   have HCS := qH hcs
   have HBAD := qH hbad
   have HG := qH hgood
   have HOWN := qH hown
   have HF := qH hf
   have HCC := qH hcc
   clear hL hrd hts hcs hbad hgood hown hf hat hve hcc
   have st0 := St.start Nob wr
   rcases Bool.eq_false_or_eq_true (b0J l) with hh | hh
   ·have HK := qH hh
    clear hh
    skip
    go_wp2_with fail
    refine (d0q _).mono ?_
    rintro e' w1 ⟨gc, rfl, hle, hcv, hf1⟩
    have st1 := st0.keep hf1
    have HCV := qH hcv
    clear hcv hle
    clear st0 hf1
    go_wp2_with fail
    refine (n0q l HK.out gc a nn c _ HCV.out (HRD.out.still st1.fr) HCC.out).mono ?_
    rintro e' w2 ⟨rfl, hf2⟩
    have st2 := st1.keep hf2
    clear st1 hf2
    go_wp2_with (with_reducible refine wSk 9 ?_)
    refine a0a st2 rfl rfl (z := .agg (List.replicate 12 (.int .u64 0)).toArray) ap14 (cw 12 0) ap12 ?_
    intro g9 w3 st3
    clear st2
    go_wp2_with (with_reducible refine wSn ?_)
    refine a0b st3 0 rfl rfl rfl rfl rfl ap2 ap6 (PT.one _) ?_
    intro w4 st4
    clear st3
    have HFS := qH st4.fr
    go_wp2_with (with_reducible refine wSk 26 ?_)
    refine a0p st4 0 rfl rfl rfl Tryz.underlying117 rfl rfl ap6 ?_
    clear st4
    go_wp2_with (with_reducible refine wSk 27 ?_)
    refine f0u rfl rfl Tryz.underlying115 f0m [.agg (rdT l).L.toArray] rfl (by simp [Value.cells, PT.len]) rfl ((rdT l).L) (by simp [Value.cells]) ?_
    intro wA hgA hfA hzA
    clear hzA
    have hfrA := HFS.out.then hfA
    have hsz := HF.out.size
    have hsz2 := hfrA.size
    have hownA := HOWN.out.still hfrA
    have hrdA : Rd wA (some ⟨w4.heap.size, 0, none⟩) (1 * 12) ((rdT l).L) := by
     have := Rd.whole hgA
     rwa [PT.len] at this
    have HRDA := qH hrdA
    have HOWNA := qH hownA
    have HFRA := qH hfrA
    clear hgA hfA hrdA hownA hfrA
    generalize w4.heap.size = gA at *
    go_wp2_with (with_reducible refine wSk 28 ?_)
    refine c0E rfl rfl Tryz.underlying115 f0m rfl ap15 HOWNA.out rfl rfl HRDA.out (PT.one _) ap11 ap16 ap16 ?_
    intro vB wB hownB hfB hbB
    clear hbB
    have hfrB := HOWNA.out.fr (HF.out.then HFRA.out) (Nat.le_refl _) hfB
    have HFRB := qH hfrB
    rw [← HCS.out] at hownB
    have HOWNB := qH hownB
    clear hfrB hownB hfB
    go_wp2_with fail
    go_roundw
    case rel => exact ⟨k + 1, by omega, by go_num, by rw [HTS.out, HG.out, HK.out]; rfl, HOWNB.out, HFRB.out⟩
    case measure => simp [intOf]; omega
   ·have HK := qH hh
    clear hh
    skip
    go_wp2_with fail
    refine (d0q _).mono ?_
    rintro e' w1 ⟨gc, rfl, hle, hcv, hf1⟩
    have st1 := st0.keep hf1
    have HCV := qH hcv
    clear hcv hle
    clear st0 hf1
    go_wp2_with fail
    refine (u0m l HK.out gc a nn c _ HCV.out (HRD.out.still st1.fr) HCC.out).mono ?_
    rintro e' w2 ⟨⟨X, Y, Z, rfl⟩, hf2⟩
    have st2 := st1.keep hf2
    clear st1 hf2
    go_wp2_with (with_reducible refine wSk 9 ?_)
    refine a0a st2 rfl rfl (z := .agg (List.replicate 12 (.int .u64 0)).toArray) ap14 (cw 12 0) ap12 ?_
    intro g9 w3 st3
    clear st2
    go_wp2_with (with_reducible refine wSn ?_)
    refine a0b st3 0 rfl rfl rfl rfl rfl ap2 (by first | (rw [a0i]; kernel_rfl) | (simp only [e0L]; kernel_rfl)) (o0M _ _ _ _) ?_
    intro w4 st4
    clear st3
    have HFS := qH (HF.out.then st4.fr)
    clear st4
    go_wp2_with fail
    go_ret2
    exact ⟨rfl, HFS.out⟩
  ·exfalso
   have hkn : k = ls.length := by rw [HL.out]; omega
   rw [hkn, List.take_of_length_le (Nat.le_refl _), HGA.out] at hgood
   cases hgood
end Go.Proofs.YtemcankmggmgoaaGreat
namespace Go.Mv
open Go.RowKit
variable {P : Program} {ops : Array Oper} {a : Act} {w : World} {rest : List Oper} {Q : Exit → Act → World → Prop} {o : Oper}
theorem l0D (v : Value) (sz m : Nat) (h : 0 < sz) : (madeCells (List.replicate sz v).toArray m).toList = List.replicate m v := by
 apply List.ext_getElem?
 intro j
 by_cases hj : j < m
 ·have : j % sz < sz := Nat.mod_lt _ h
  simp [madeCells, hj, this]
 ·simp [madeCells, hj]
theorem l0E {l c : Operand} {t : TypeId} (hgd : o.guard = none) (ho : o.op = .makeSlice t l c) {e : TypeId} {z v : Value} {sz by_ : Nat} (ht : P.underlying t = some (.slice e))
  (hi0 : (P.info? e).map (fun i => (i.zero, i.size, i.bytes)) = some (some z, sz, by_)) (hzc : z.cells = (List.replicate sz v).toArray) (hsz : 0 < sz) {kl kc : IntKind} {x y : Int} (hl : a.eval l = .int kl x) (hc : a.eval c = .int kc y) (n m : Nat) (hx : x = n) (hy : y = m) (hnm : n ≤ m)
  (hb : by_ * m ≤ 281474976710656) (h63 : m ≤ maxLen)
  (h : ∀ w', Has w' w.heap.size (List.replicate (m * sz) v) e → Fr Nob w w' → wpList P ops Q rest (a.put o.dst (.slice (some ⟨w.heap.size, 0, none⟩) n m)) w') : wpList P ops Q (o :: rest) a w := by
 refine wpList_plain hgd fun K hK => ?_
 obtain ⟨i, hi, hz0⟩ : ∃ i, P.info? e = some i ∧ (i.zero, i.size, i.bytes) = (some z, sz, by_) := by simpa using hi0
 simp only [Prod.mk.injEq] at hz0
 obtain ⟨hz, hsize, hby⟩ := hz0
 subst hx
 subst hy
 have hmx : (m : Int) ≤ 9223372036854775807 := by simp only [maxLen] at h63; omega
 have hbb : (i.bytes : Int) * (m : Int) ≤ 281474976710656 := by
  have k : ((i.bytes * m : Nat) : Int) ≤ 281474976710656 := by rw [hby]; omega
  rwa [Int.natCast_mul] at k
 have hr := run_make (P := P) w t e i z ht hi hz kl kc n m ap16 ap16 hbb hmx
 simp only [Int.toNat_natCast, hsize] at hr
 unfold Oper.wp execOp
 simp only [ho, hl, hc, Sem.run_bind, Sem.run_pure, Result.andThen_ok, hr]
 refine hK _ _ (h _ ?_ ((Fr.refl _ w).alloc _))
 have := Has.new w (madeCells z.cells (m * sz)) e
 rw [hzc] at this ⊢
 rwa [l0D v sz _ hsz] at this
end Go.Mv
namespace Go.Proofs.YtemcankmggmgoaaGreat
open Go.RowKit Go.Mv Mvp Mvq
theorem j0k : (Tryz.prog.info? 147).map (fun i => (i.zero, i.size, i.bytes)) = some (some (.agg (List.replicate 196 (.int .u64 0)).toArray), 196, 1568) := by kernel_rfl
def aK (ls : List (List UInt8)) (k : Nat) : Nat → Nat := fun i => if i < k then beN (ls.getD i []) else 0
theorem o0T (n : Nat) (ls : List (List UInt8)) : List.replicate (n * 196) (Value.int .u64 0) = tmF n (aK ls 0) (fun _ => cw 192 0) := by
 rw [x0C]
 exact f0o _ _ _ _ _ fun i _ => ⟨by unfold aK; rw [if_neg (Nat.not_lt_zero _)], rfl⟩
theorem u0D (n : Nat) (ls : List (List UInt8)) (k : Nat) (l : List UInt8) (hl : ls.getD k [] = l) (h : k < n) : splice (tmF n (aK ls k) (fun _ => cw 192 0)) (k * 196) (cw 4 (beN l)) = tmF n (aK ls (k + 1)) (fun _ => cw 192 0) := by
 subst hl
 rw [x0A n _ _ (fun _ => a0i _ _) k _ h]
 refine f0o _ _ _ _ _ fun i _ => ⟨?_, rfl⟩
 unfold upN aK
 by_cases e : i = k
 ·rw [if_pos e, if_pos ap16, e]
 ·rw [if_neg e]
  by_cases e2 : i < k
  ·rw [if_pos e2, if_pos ap16]
  ·rw [if_neg e2, if_neg ap16]
theorem l0F (n : Nat) (a : Nat → Nat) : (tmF n a (fun _ => cw 192 0)).length = n * 196 := u0B n a _ (fun _ => a0i _ _)
attribute [local irreducible] a0C lw mix cw b0k b0y b0j a0M a0n beN b0F a0P b0C a0J a0R elN mdL a0S rtN rtV b0G gXn gYn PT.L l0V l0r f0D tbL tmR tmL dbN h0T h0B j0e dig rdT b0J b0q ptL e0W c0P a0H tmF tkT n0P aK
theorem D0g (al : Option Addr) (n cl : Nat) (vs : List Value) (ln : List (List UInt8)) (bl : Option Addr) (dl : Nat) (us : List Value) (lp : List (List UInt8)) (w : World) (hv : Rd w al n vs) (hp : BParts w vs ln) (hu : Rd w bl n us) (hq : BParts w us lp) (hn : n ≤ 512) (hg : a0V mQ ln = true) (hr : c0P lp = true) :
  Calls Tryz.prog 132 #[.slice al n cl, .slice bl n dl] w fun e w' => ∃ sv, e = .returned (.tuple #[sv, .int .i64 0]) ∧ Own w' w.heap.size 5 1 sv 33 (bs (a0H (j0e (n0P (aK ln n) lp)).pt)) ∧ Fr Nob w w' := by
 have HV := qH hv
 have HP := qH hp
 have HU := qH hu
 have HQ := qH hq
 have HL := qH (show ln.length = n by rw [← hp.1, hv.len])
 have HL2 := qH (show lp.length = n by rw [← hq.1, hu.len])
 have HN := qH hn
 have hnI : ¬ ((512 : Int) < (n : Int)) := by omega
 clear hv hp hu hq
 have HGA := qH hg
 have HRA := qH hr
 clear hg hr hn
 have st0 := St.start Nob w
 go_enter Tryz.func132, Tryz.ntmps132
 go_wp2_with (with_reducible refine wSk 23 ?_)
 refine l0E rfl rfl Tryz.underlying199 j0k rfl ap15 rfl rfl n n rfl rfl (Nat.le_refl _) (by have := HN.out; omega) (by have := HN.out; unfold maxLen; omega) ?_
 intro w1 hm hf
 rw [o0T n ln] at hm
 have st1 := st0.new hf hm (Nat.le_refl _)
 have hle : w.heap.size ≤ w.heap.size := Nat.le_refl _
 generalize hgT : w.heap.size = gT at st1 hle hm ⊢
 have HGS := qH hgT
 clear hgT hle hm hf st0
 go_wp2_with (with_reducible refine wSk 6 ?_)
 refine a0a st1 rfl rfl (z := .slice none 0 0) ap14 [.slice none 0 0] rfl ?_
 intro gb w2 st2
 clear st1
 obtain ⟨v6, c6, f6⟩ := (st2.at 1 rfl).ready (i := 0) ap15
 have st3 := st2.set 1 rfl 0 (.slice (some ⟨gT, 0, none⟩) n n)
 have st3 : St Nob w (w2.setCell ⟨gb, 0, none⟩ (.slice (some ⟨gT, 0, none⟩) n n)) [(gT, tmF n (aK ln (0)) (fun _ => cw 192 0), 147), (gb, [Value.slice (some ⟨gT, 0, none⟩) n n], 199)] := st3
 have ST3 := qH st3
 clear st2 st3
 go_wp2
 try clear c6 f6
 go_loopw [26] (fun i wr => ∃ k : Nat, k ≤ n ∧ i = .int .i64 (k : Int) ∧ a0V mQ (ln.take k) = true ∧ St Nob w wr [(gT, tmF n (aK ln (k)) (fun _ => cw 192 0), 147), (gb, [Value.slice (some ⟨gT, 0, none⟩) n n], 199)]) (fun i _ => n - (intOf i).toNat)
 case atStart => exact ⟨0, Nat.zero_le _, rfl, by rw [List.take_zero]; unfold a0V; rfl, ST3.out⟩
 case round =>
  obtain ⟨k, hk, rfl, hgood, st⟩ := hrel
  clear ST3
  by_cases hlt : k < n
  ·have hltI : (k : Int) < (n : Int) := by omega
   have hk0 : (0 : Int) ≤ (k : Int) := by omega
   have hf := st.fr
   obtain ⟨b, o, rfl, hat⟩ := (HV.out.still hf).at ap16
   have hvl : k < vs.length := by rw [HV.out.len]; exact hlt
   obtain ⟨a, nn, c, hve, hcc, hrd⟩ := HP.out.2 k (vs[k]'hvl) (List.getElem?_eq_getElem hvl)
   have hc1 := hat k _ (List.getElem?_eq_getElem hvl)
   rw [hve] at hc1
   have hlk : k < ln.length := by rw [HL.out]; exact hlt
   have hts := f0v mQ ln k hlk
   have hbad := g0w mQ ln k hlk
   generalize hLk : ln.getD k [] = l at *
   have HLL := qH hLk
   have HRD := qH (hrd.still hf)
   have HTS := qH hts
   have HBAD := qH hbad
   have HG := qH hgood
   have HLT := qH hlt
   clear hLk hrd hts hbad hgood hf hat hve hcc hlt hk
   have HK := qH (show a0S mQ l = true by
    cases hh : a0S mQ l
    ·have := HBAD.out hh
     rw [HGA.out] at this
     cases this
    ·rfl)
   go_wp2_with fail
   refine (g0J HK.out a nn c _ (HRD.out)).mono ?_
   rintro e' w3 ⟨rfl, hf3⟩
   have st3 := st.keep hf3
   clear st hf3
   go_wp2_with (with_reducible refine wSk 9 ?_)
   refine a0a st3 rfl rfl (z := zAd) ap14 (cw 4 0) ap12 ?_
   intro g9 w4 st4
   clear st3
   go_wp2_with (with_reducible refine wSn ?_)
   refine a0b st4 2 rfl rfl rfl rfl rfl ap2 ap0 (a0f _ _) ?_
   intro w5 st5
   clear st4
   have hc6 := (st5.at 1 rfl).cell (show [Value.slice (some ⟨gT, 0, none⟩) n n][0]? = _ from rfl)
   go_wp2_with (with_reducible refine wSk 40 ?_)
   refine a0k st5 2 rfl rfl rfl Tryz.underlying111 rfl ap0 ?_
   go_wp2_with (with_reducible refine wSn ?_)
   refine g0G st5 0 rfl rfl rfl rfl rfl (tmF n (aK ln (k + 1)) (fun _ => cw 192 0)) (u0D n ln k l HLL.out HLT.out) (by rw [l0F, a0i]; have := HLT.out; omega) ap0 (a0f _ _) ?_
   intro w6 st6
   clear st5 hc6
   go_wp2_with fail
   go_roundw
   case rel => exact ⟨k + 1, by have := HLT.out; omega, by go_num, by rw [HTS.out, HG.out, HK.out]; rfl, St.less st6 ap17⟩
   case measure => have := HLT.out; simp [intOf]; omega
  ·have hge : ¬ ((k : Int) < (n : Int)) := by omega
   have hkn : k = n := by omega
   rw [hkn] at hgood st
   rw [List.take_of_length_le (by rw [HL.out]; exact Nat.le_refl _)] at hgood
   have hgl := (st.at 0 rfl).lt
   have HHT := qH (st.at 0 rfl)
   have HHB := qH (st.at 1 rfl)
   have HNE := qH (show gb ≠ gT from st.neAt (i := 1) (j := 0) rfl rfl ap15)
   have HF := qH st.fr
   clear hkn hgood st hgl
   go_wp2_with fail
   refine (o0S gb bl n dl us lp _ (HU.out.still HF.out) (HQ.out.still HF.out) (by have := HN.out; omega) HRA.out gT _ HHT.out (j0e (n0P (aK ln n) lp)) (fun ap cp wx hfx hoff hrd => by rw [HL2.out]; exact D0f n (aK ln n) lp HL2.out (by have := HN.out; omega) gb gT wx HNE.out (HHB.out.keep hfx id) (HHT.out.keep hfx id) ap cp hoff hrd)).mono ?_
   rintro e wE ⟨sv, rfl, hown, hfE⟩
   have ho := hown.mono HF.out.size
   have hfr := HF.out.new hfE (by rw [HGS.out]; exact Nat.le_refl _)
   clear hown hfE HF HHT HHB
   go_wp2_with fail
   go_ret2
   exact ⟨sv, rfl, ho, hfr⟩
theorem x0F (al : Option Addr) (n cl : Nat) (vs : List Value) (ln : List (List UInt8)) (bl : Option Addr) (dl : Nat) (us : List Value) (lp : List (List UInt8)) (w : World) (hv : Rd w al n vs) (hp : BParts w vs ln) (hu : Rd w bl n us) (hq : BParts w us lp) (hn : n ≤ 512) (hg : a0V mQ ln = true) (hr : c0P lp = false) :
  Calls Tryz.prog 132 #[.slice al n cl, .slice bl n dl] w fun e w' => e = .returned (.tuple #[.slice none 0 0, .int .i64 4]) ∧ Fr Nob w w' := by
 have HV := qH hv
 have HP := qH hp
 have HU := qH hu
 have HQ := qH hq
 have HL := qH (show ln.length = n by rw [← hp.1, hv.len])
 have HL2 := qH (show lp.length = n by rw [← hq.1, hu.len])
 have HN := qH hn
 have hnI : ¬ ((512 : Int) < (n : Int)) := by omega
 clear hv hp hu hq
 have HGA := qH hg
 have HRA := qH hr
 clear hg hr hn
 have st0 := St.start Nob w
 go_enter Tryz.func132, Tryz.ntmps132
 go_wp2_with (with_reducible refine wSk 23 ?_)
 refine l0E rfl rfl Tryz.underlying199 j0k rfl ap15 rfl rfl n n rfl rfl (Nat.le_refl _) (by have := HN.out; omega) (by have := HN.out; unfold maxLen; omega) ?_
 intro w1 hm hf
 rw [o0T n ln] at hm
 have st1 := st0.new hf hm (Nat.le_refl _)
 have hle : w.heap.size ≤ w.heap.size := Nat.le_refl _
 generalize hgT : w.heap.size = gT at st1 hle hm ⊢
 have HGS := qH hgT
 clear hgT hle hm hf st0
 go_wp2_with (with_reducible refine wSk 6 ?_)
 refine a0a st1 rfl rfl (z := .slice none 0 0) ap14 [.slice none 0 0] rfl ?_
 intro gb w2 st2
 clear st1
 obtain ⟨v6, c6, f6⟩ := (st2.at 1 rfl).ready (i := 0) ap15
 have st3 := st2.set 1 rfl 0 (.slice (some ⟨gT, 0, none⟩) n n)
 have st3 : St Nob w (w2.setCell ⟨gb, 0, none⟩ (.slice (some ⟨gT, 0, none⟩) n n)) [(gT, tmF n (aK ln (0)) (fun _ => cw 192 0), 147), (gb, [Value.slice (some ⟨gT, 0, none⟩) n n], 199)] := st3
 have ST3 := qH st3
 clear st2 st3
 go_wp2
 try clear c6 f6
 go_loopw [26] (fun i wr => ∃ k : Nat, k ≤ n ∧ i = .int .i64 (k : Int) ∧ a0V mQ (ln.take k) = true ∧ St Nob w wr [(gT, tmF n (aK ln (k)) (fun _ => cw 192 0), 147), (gb, [Value.slice (some ⟨gT, 0, none⟩) n n], 199)]) (fun i _ => n - (intOf i).toNat)
 case atStart => exact ⟨0, Nat.zero_le _, rfl, by rw [List.take_zero]; unfold a0V; rfl, ST3.out⟩
 case round =>
  obtain ⟨k, hk, rfl, hgood, st⟩ := hrel
  clear ST3
  by_cases hlt : k < n
  ·have hltI : (k : Int) < (n : Int) := by omega
   have hk0 : (0 : Int) ≤ (k : Int) := by omega
   have hf := st.fr
   obtain ⟨b, o, rfl, hat⟩ := (HV.out.still hf).at ap16
   have hvl : k < vs.length := by rw [HV.out.len]; exact hlt
   obtain ⟨a, nn, c, hve, hcc, hrd⟩ := HP.out.2 k (vs[k]'hvl) (List.getElem?_eq_getElem hvl)
   have hc1 := hat k _ (List.getElem?_eq_getElem hvl)
   rw [hve] at hc1
   have hlk : k < ln.length := by rw [HL.out]; exact hlt
   have hts := f0v mQ ln k hlk
   have hbad := g0w mQ ln k hlk
   generalize hLk : ln.getD k [] = l at *
   have HLL := qH hLk
   have HRD := qH (hrd.still hf)
   have HTS := qH hts
   have HBAD := qH hbad
   have HG := qH hgood
   have HLT := qH hlt
   clear hLk hrd hts hbad hgood hf hat hve hcc hlt hk
   have HK := qH (show a0S mQ l = true by
    cases hh : a0S mQ l
    ·have := HBAD.out hh
     rw [HGA.out] at this
     cases this
    ·rfl)
   go_wp2_with fail
   refine (g0J HK.out a nn c _ (HRD.out)).mono ?_
   rintro e' w3 ⟨rfl, hf3⟩
   have st3 := st.keep hf3
   clear st hf3
   go_wp2_with (with_reducible refine wSk 9 ?_)
   refine a0a st3 rfl rfl (z := zAd) ap14 (cw 4 0) ap12 ?_
   intro g9 w4 st4
   clear st3
   go_wp2_with (with_reducible refine wSn ?_)
   refine a0b st4 2 rfl rfl rfl rfl rfl ap2 ap0 (a0f _ _) ?_
   intro w5 st5
   clear st4
   have hc6 := (st5.at 1 rfl).cell (show [Value.slice (some ⟨gT, 0, none⟩) n n][0]? = _ from rfl)
   go_wp2_with (with_reducible refine wSk 40 ?_)
   refine a0k st5 2 rfl rfl rfl Tryz.underlying111 rfl ap0 ?_
   go_wp2_with (with_reducible refine wSn ?_)
   refine g0G st5 0 rfl rfl rfl rfl rfl (tmF n (aK ln (k + 1)) (fun _ => cw 192 0)) (u0D n ln k l HLL.out HLT.out) (by rw [l0F, a0i]; have := HLT.out; omega) ap0 (a0f _ _) ?_
   intro w6 st6
   clear st5 hc6
   go_wp2_with fail
   go_roundw
   case rel => exact ⟨k + 1, by have := HLT.out; omega, by go_num, by rw [HTS.out, HG.out, HK.out]; rfl, St.less st6 ap17⟩
   case measure => have := HLT.out; simp [intOf]; omega
  ·have hge : ¬ ((k : Int) < (n : Int)) := by omega
   have hkn : k = n := by omega
   rw [hkn] at hgood st
   rw [List.take_of_length_le (by rw [HL.out]; exact Nat.le_refl _)] at hgood
   have hgl := (st.at 0 rfl).lt
   have HHT := qH (st.at 0 rfl)
   have HHB := qH (st.at 1 rfl)
   have HNE := qH (show gb ≠ gT from st.neAt (i := 1) (j := 0) rfl rfl ap15)
   have HF := qH st.fr
   clear hkn hgood st hgl
   go_wp2_with fail
   refine (n0t gb bl n dl us lp _ (HU.out.still HF.out) (HQ.out.still HF.out) (by have := HN.out; omega) HRA.out).mono ?_
   rintro e wE ⟨rfl, hfE⟩
   have hfr := HF.out.then hfE
   clear hfE HF HHT HHB
   go_wp2_with fail
   go_ret2
   exact ⟨rfl, hfr⟩
theorem x0G (al : Option Addr) (n cl : Nat) (vs : List Value) (ln : List (List UInt8)) (bl : Option Addr) (dl : Nat) (us : List Value) (lp : List (List UInt8)) (w : World) (hv : Rd w al n vs) (hp : BParts w vs ln) (hu : Rd w bl n us) (hq : BParts w us lp) (hn : n ≤ 512) (hg : a0V mQ ln = false) :
  Calls Tryz.prog 132 #[.slice al n cl, .slice bl n dl] w fun e w' => e = .returned (.tuple #[.slice none 0 0, .int .i64 3]) ∧ Fr Nob w w' := by
 have HV := qH hv
 have HP := qH hp
 have HU := qH hu
 have HQ := qH hq
 have HL := qH (show ln.length = n by rw [← hp.1, hv.len])
 have HL2 := qH (show lp.length = n by rw [← hq.1, hu.len])
 have HN := qH hn
 have hnI : ¬ ((512 : Int) < (n : Int)) := by omega
 clear hv hp hu hq
 have HGA := qH hg
 clear hg hn
 have st0 := St.start Nob w
 go_enter Tryz.func132, Tryz.ntmps132
 go_wp2_with (with_reducible refine wSk 23 ?_)
 refine l0E rfl rfl Tryz.underlying199 j0k rfl ap15 rfl rfl n n rfl rfl (Nat.le_refl _) (by have := HN.out; omega) (by have := HN.out; unfold maxLen; omega) ?_
 intro w1 hm hf
 rw [o0T n ln] at hm
 have st1 := st0.new hf hm (Nat.le_refl _)
 have hle : w.heap.size ≤ w.heap.size := Nat.le_refl _
 generalize hgT : w.heap.size = gT at st1 hle hm ⊢
 have HGS := qH hgT
 clear hgT hle hm hf st0
 go_wp2_with (with_reducible refine wSk 6 ?_)
 refine a0a st1 rfl rfl (z := .slice none 0 0) ap14 [.slice none 0 0] rfl ?_
 intro gb w2 st2
 clear st1
 obtain ⟨v6, c6, f6⟩ := (st2.at 1 rfl).ready (i := 0) ap15
 have st3 := st2.set 1 rfl 0 (.slice (some ⟨gT, 0, none⟩) n n)
 have st3 : St Nob w (w2.setCell ⟨gb, 0, none⟩ (.slice (some ⟨gT, 0, none⟩) n n)) [(gT, tmF n (aK ln (0)) (fun _ => cw 192 0), 147), (gb, [Value.slice (some ⟨gT, 0, none⟩) n n], 199)] := st3
 have ST3 := qH st3
 clear st2 st3
 go_wp2
 try clear c6 f6
 go_loopw [26] (fun i wr => ∃ k : Nat, k ≤ n ∧ i = .int .i64 (k : Int) ∧ a0V mQ (ln.take k) = true ∧ St Nob w wr [(gT, tmF n (aK ln (k)) (fun _ => cw 192 0), 147), (gb, [Value.slice (some ⟨gT, 0, none⟩) n n], 199)]) (fun i _ => n - (intOf i).toNat)
 case atStart => exact ⟨0, Nat.zero_le _, rfl, by rw [List.take_zero]; unfold a0V; rfl, ST3.out⟩
 case round =>
  obtain ⟨k, hk, rfl, hgood, st⟩ := hrel
  clear ST3
  by_cases hlt : k < n
  ·have hltI : (k : Int) < (n : Int) := by omega
   have hk0 : (0 : Int) ≤ (k : Int) := by omega
   have hf := st.fr
   obtain ⟨b, o, rfl, hat⟩ := (HV.out.still hf).at ap16
   have hvl : k < vs.length := by rw [HV.out.len]; exact hlt
   obtain ⟨a, nn, c, hve, hcc, hrd⟩ := HP.out.2 k (vs[k]'hvl) (List.getElem?_eq_getElem hvl)
   have hc1 := hat k _ (List.getElem?_eq_getElem hvl)
   rw [hve] at hc1
   have hlk : k < ln.length := by rw [HL.out]; exact hlt
   have hts := f0v mQ ln k hlk
   have hbad := g0w mQ ln k hlk
   generalize hLk : ln.getD k [] = l at *
   have HLL := qH hLk
   have HRD := qH (hrd.still hf)
   have HTS := qH hts
   have HBAD := qH hbad
   have HG := qH hgood
   have HLT := qH hlt
   clear hLk hrd hts hbad hgood hf hat hve hcc hlt hk
   rcases Bool.eq_false_or_eq_true (a0S mQ l) with hh | hh
   ·have HK := qH hh
    clear hh
    go_wp2_with fail
    refine (g0J HK.out a nn c _ (HRD.out)).mono ?_
    rintro e' w3 ⟨rfl, hf3⟩
    have st3 := st.keep hf3
    clear st hf3
    go_wp2_with (with_reducible refine wSk 9 ?_)
    refine a0a st3 rfl rfl (z := zAd) ap14 (cw 4 0) ap12 ?_
    intro g9 w4 st4
    clear st3
    go_wp2_with (with_reducible refine wSn ?_)
    refine a0b st4 2 rfl rfl rfl rfl rfl ap2 ap0 (a0f _ _) ?_
    intro w5 st5
    clear st4
    have hc6 := (st5.at 1 rfl).cell (show [Value.slice (some ⟨gT, 0, none⟩) n n][0]? = _ from rfl)
    go_wp2_with (with_reducible refine wSk 40 ?_)
    refine a0k st5 2 rfl rfl rfl Tryz.underlying111 rfl ap0 ?_
    go_wp2_with (with_reducible refine wSn ?_)
    refine g0G st5 0 rfl rfl rfl rfl rfl (tmF n (aK ln (k + 1)) (fun _ => cw 192 0)) (u0D n ln k l HLL.out HLT.out) (by rw [l0F, a0i]; have := HLT.out; omega) ap0 (a0f _ _) ?_
    intro w6 st6
    clear st5 hc6
    go_wp2_with fail
    go_roundw
    case rel => exact ⟨k + 1, by have := HLT.out; omega, by go_num, by rw [HTS.out, HG.out, HK.out]; rfl, St.less st6 ap17⟩
    case measure => have := HLT.out; simp [intOf]; omega
   ·have HK := qH hh
    clear hh
    go_wp2_with fail
    refine (q0r HK.out a nn c _ (HRD.out)).mono ?_
    rintro e' w3 ⟨⟨N, rfl⟩, hf3⟩
    have st3 := st.keep hf3
    clear st hf3
    go_wp2_with (with_reducible refine wSk 9 ?_)
    refine a0a st3 rfl rfl (z := zAd) ap14 (cw 4 0) ap12 ?_
    intro g9 w4 st4
    clear st3
    go_wp2_with (with_reducible refine wSn ?_)
    refine a0b st4 2 rfl rfl rfl rfl rfl ap2 ap0 (a0f _ _) ?_
    intro w5 st5
    clear st4
    have hfr := st5.fr
    clear st5
    go_wp2_with fail
    go_ret2
    exact ⟨rfl, hfr⟩
  ·exfalso
   have hkn : k = n := by omega
   rw [hkn] at hgood
   rw [List.take_of_length_le (by rw [HL.out]; exact Nat.le_refl _), HGA.out] at hgood
   cases hgood
theorem x0H (al : Option Addr) (n cl : Nat) (bl : Option Addr) (m dl : Nat) (w : World) (h : n ≠ m) :
  Calls Tryz.prog 132 #[.slice al n cl, .slice bl m dl] w fun e w' => e = .returned (.tuple #[.slice none 0 0, .int .i64 2]) ∧ Fr Nob w w' := by
 have h1 : ((n : Int) != (m : Int)) = true := by simp; omega
 have h2 : (n != m) = true := by simpa using h
 go_enter Tryz.func132, Tryz.ntmps132
 go_wp2
 go_ret2
 exact ⟨rfl, Fr.refl _ _⟩
theorem x0I (al : Option Addr) (n cl : Nat) (bl : Option Addr) (dl : Nat) (w : World) (h : 512 < n) :
  Calls Tryz.prog 132 #[.slice al n cl, .slice bl n dl] w fun e w' => e = .returned (.tuple #[.slice none 0 0, .int .i64 1]) ∧ Fr Nob w w' := by
 have h1 : (512 : Int) < (n : Int) := by omega
 go_enter Tryz.func132, Tryz.ntmps132
 go_wp2
 go_ret2
 exact ⟨rfl, Fr.refl _ _⟩
end Go.Proofs.YtemcankmggmgoaaGreat
namespace Mvp
theorem A0Y (Q : Nat) (h : lw Q 0 + 1 < 18446744073709551616) : (a0C 4 Q).set 0 (lw Q 0 + 1) = a0C 4 (Q + 1) := by
 rw [y0E, y0E]
 have e0 : lw (Q + 1) 0 = lw Q 0 + 1 := by rw [r0l] at h ⊢; rw [r0l]; omega
 have e : (Q + 1) / 18446744073709551616 = Q / 18446744073709551616 := by rw [r0l] at h; omega
 have ed : ∀ i, lw (Q + 1) (1 + i) = lw Q (1 + i) := by
  intro i
  rw [← c0B, ← c0B, Nat.pow_one, show B64 = 18446744073709551616 from rfl, e]
 have e1 := ed 0
 have e2 := ed 1
 have e3 := ed 2
 simp only [Nat.add_zero] at e1
 rw [e0, e1, show (2 : Nat) = 1 + 1 from rfl, show (3 : Nat) = 1 + 2 from rfl, e2, e3]
 rfl
theorem f0Q (p : Nat) (h : p < B64 ^ 4) : p / 4 % 2 ^ 254 = p / 4 := Nat.mod_eq_of_lt (by
 rw [show B64 ^ 4 = 2 ^ 254 * 4 from rfl] at h
 generalize 2 ^ 254 = z at *
 omega)
end Mvp
namespace Go.Proofs.YtemcankmggmgoaaGreat
section
open Go.RowKit Go.Mv Mvp
theorem l0G (q b k q' : Nat) (hb : b < 2) (hs : (a0C 4 q).set (k / 64) (lw q (k / 64) ||| b * 2 ^ (k % 64)) = a0C 4 q') :
  (cw 4 q).set (k / 64) (.int .u64 (bits .or .u64 (lw q (k / 64) : Nat) (IntKind.u64.wrap ((b : Int) * 2 ^ (k % 64))))) = cw 4 q' := by
 have h1 : b * 2 ^ (k % 64) < 18446744073709551616 := by
  have h2 : 2 ^ (k % 64) ≤ 2 ^ 63 := Nat.pow_le_pow_right ap15 ap16
  have h3 := Nat.mul_le_mul_right (2 ^ (k % 64)) (show b ≤ 1 by omega)
  rw [Nat.one_mul] at h3
  have h4 : (2 : Nat) ^ 63 = 9223372036854775808 := by decide
  rw [h4] at h2
  generalize 2 ^ (k % 64) = z at *
  generalize b * z = y at *
  omega
 have h := bits_or_u64_nat (lw q (k / 64)) (b * 2 ^ (k % 64)) (c0Q _ _) h1
 have hw : IntKind.u64.wrap ((b : Int) * 2 ^ (k % 64)) = ((b * 2 ^ (k % 64) : Nat) : Int) := by
  rw [show ((b : Int) * 2 ^ (k % 64)) = ((b * 2 ^ (k % 64) : Nat) : Int) by rw [Int.natCast_mul, Int.natCast_pow]; rfl, IntKind.wrap_u64]
  exact congrArg Int.ofNat (Nat.mod_eq_of_lt h1)
 rw [hw, h, cw, m0F, hs, cw]
theorem j0l (Q : Nat) (h : lw Q 0 + 1 < 18446744073709551616) : (cw 4 Q).set 0 (.int .u64 ((lw Q 0 : Int) + 1)) = cw 4 (Q + 1) := by
 show (us (a0C 4 Q)).set 0 (.int .u64 ((lw Q 0 + 1 : Nat) : Int)) = us (a0C 4 (Q + 1))
 rw [m0F, A0Y Q h]
theorem o0U (x y : Nat) (hx : x < B64 ^ 4) (hy : y < B64 ^ 4) (ty : TypeId) (hu : Tryz.prog.underlying ty = some (.array 4 58)) (hg : Tryz.prog.eqGuardType Tryz.prog.depth ty = false) {o : Oper} {a : Act} {w : World} {K : Act → World → Prop} {Q : Exit → Act → World → Prop} {p q : Operand} {T : TypeId}
  (ho : o.op = .binOp .neq ty p q T) (hp : a.eval p = i4 x) (hq : a.eval q = .agg (cw 4 y).toArray) {b : Bool} (hb : decide (x = y) = b) (hk : K (a.put o.dst (.bool !b)) w) : o.wp Tryz.prog a w K Q := by
 have h1 := p0X x y ty hg p q w
 have h2 : (binOp .neq ty (i4 x) (.agg (cw 4 y).toArray)).run Tryz.prog w = .ok (.bool !b) w := by
  show (do pure (Value.bool (!(← Op.equal ty (.agg (cw 4 x).toArray) (.agg (cw 4 y).toArray))))).run Tryz.prog w = _
  simp only [Sem.run_bind, l0j hu Tryz.underlying58 c0L x y w, Result.andThen_ok]
  rw [Nat.mod_eq_of_lt hx, Nat.mod_eq_of_lt hy, hb]
  rfl
 unfold Oper.wp execOp
 simp only [ho, hp, hq, Sem.run_bind, h1, h2, Result.andThen_ok, Sem.run_pure]
 exact hk
attribute [local irreducible] a0C lw mix cw b0k b0y b0j a0M a0n beN b0F a0P b0C
theorem x0J (p a n R : Nat) (w : World) (hp0 : 0 < p) (hp : p < B64 ^ 4) (hn : p / 4 + 1 = n) (hn4 : n < B64 ^ 4) (ha : a < B64 ^ 4) (hlow : lw (p / 4) 0 + 1 < 18446744073709551616) (hR : R < p) (hpow : ∀ wx, Calls Tryz.prog 167 #[fv p, i4 a, i4 n] wx fun e w' => e = .returned (i4 R) ∧ Fr Nob wx w') (hb : decide (R * R % p = a) = false) :
  Calls Tryz.prog 186 #[fv p, i4 a] w fun e w' => e = .returned (.tuple #[i4 0, .bool false]) ∧ Fr Nob w w' := by
 have HP0 := qH hp0
 have HP := qH hp
 have HN4 := qH hn4
 have HA := qH ha
 have HLOW := qH hlow
 have HPOW := qH hpow
 have HB := qH hb
 have HR4 := qH (Nat.lt_trans hR hp)
 have HRP := qH (Nat.le_of_lt hR)
 have HRR := qH (show R * R % p < B64 ^ 4 from Nat.lt_trans (Nat.mod_lt _ hp0) hp)
 have hlc := j0l (p / 4) hlow
 rw [hn] at hlc
 have HLC := qH hlc
 have HNE := qH hn
 clear hp0 hp hn4 ha hlow hpow hb hR hlc hn 
 have st0 := St.start Nob w
 go_enter Tryz.func186, Tryz.ntmps186
 go_wp2_with (with_reducible refine wSk 2 ?_)
 refine a0l st0 rfl rfl rfl (cw 4 p ++ cw 4 (B64 ^ 4 - p)) rfl ?_
 intro g2 w1 st1
 clear st0
 go_wp2_with (with_reducible refine wSk 3 ?_)
 refine a0l st1 rfl rfl rfl (cw 4 a) rfl ?_
 intro g3 w2 st2
 clear st1
 go_wp2_with (with_reducible refine wSk 4 ?_)
 refine a0a st2 rfl rfl (z := zAd) ap14 (cw 4 0) ap12 ?_
 intro g4 w3 st3
 clear st2
 go_wp2_with (with_reducible refine wSk 6 ?_)
 refine a0a st3 rfl rfl (z := zAd) ap14 (cw 4 0) ap12 ?_
 intro g6 w4 st4
 clear st3
 go_wp2
 go_loopw [7] (fun i wr => ∃ k : Nat, k ≤ 254 ∧ i = .int .i64 (k : Int) ∧ St Nob w wr [(g2, cw 4 p ++ cw 4 (B64 ^ 4 - p), 78), (g3, cw 4 a, 60), (g4, cw 4 0, 60), (g6, cw 4 (p / 4 % 2 ^ k), 60)]) (fun i _ => 254 - (intOf i).toNat)
 case atStart => exact ⟨0, by omega, rfl, by rw [Nat.pow_zero, Nat.mod_one]; exact st4⟩
 case round =>
  obtain ⟨k, hk, rfl, st⟩ := hrel
  clear st4
  by_cases hlt : k < 254
  ·have hltI : (k : Int) < 254 := by omega
   have hstep := l0i 4 (p / 4 % 2 ^ k) k (p / 2 ^ (k + 2) % 2) (Nat.mod_lt _ (Nat.pow_pos ap15)) (Nat.mod_lt _ ap15) ap16
   rw [← f0f] at hstep
   have hbit := fun wx => g0q p (k + 2) wx ap16
   have hb2 : p / 2 ^ (k + 2) % 2 < 2 := Nat.mod_lt _ ap15
   generalize p / 2 ^ (k + 2) % 2 = b at *
   generalize hq' : p / 4 % 2 ^ (k + 1) = q' at *
   have HQ := qH hq'
   clear hq'
   generalize p / 4 % 2 ^ k = q at *
   have HCELL := qH (l0G q b k q' hb2 hstep)
   have HBIT := qH hbit
   clear hstep hbit hb2
   have hlo : (0 : Int) ≤ (k : Int) / 64 ∧ (k : Int) / 64 < 4 := by omega
   have hlo2 : (0 : Int) ≤ (k : Int) % 64 ∧ (k : Int) % 64 < 64 := by omega
   have e1 : IntKind.i64.wrap ((k : Int) / 64) = (k : Int) / 64 := IntWalk.i64_in _ ap16
   have e2 : (k : Int).tmod 64 = (k : Int) % 64 := Int.tmod_eq_emod_of_nonneg ap16
   have e3 : IntKind.i64.wrap ((k : Int) + 2) = (k : Int) + 2 := IntWalk.i64_in _ ap16
   have e4 : ((k : Int) / 64).toNat = k / 64 := by omega
   have e5 : ((k : Int) % 64).toNat = k % 64 := by omega
   go_wp2_with fail
   refine wp_region_noPanic ?_
   refine a0o (fun wx => St Nob w wx [(g2, cw 4 p ++ cw 4 (B64 ^ 4 - p), 78), (g3, cw 4 a, 60), (g4, cw 4 0, 60), (g6, cw 4 q, 60)]) 16 (.w 0 (.w 1 (.w 2 (.w 3 (.w 4 (.t 5 (.w 6 (.t 7 (.w 8 (.w 9 (.w 11 (.w 12 (.r 10 (.w 13 (.w 14 (.w 15 (.m 16 .nil))))))))))))))))) ap14 ap14 st.drew (fun _ _ _ _ _ h => h) ?_
   have hd4 := st.drew
   clear st
   refine a0j rfl rfl apW ?_
   try simp only [clL]
   refine a0j rfl rfl apW ?_
   try simp only [clL]
   refine a0j rfl rfl apW ?_
   try simp only [clL]
   refine a0j rfl rfl apW ?_
   try simp only [clL]
   refine a0j rfl rfl apW ?_
   try simp only [clL]
   refine d0G (v := ?_) rfl rfl (fun wx hS => ?_) ?_
   rotate_left 1
   ·(have hc := (St.at hS 3 rfl).cell (a0G 4 q (k / 64) ap16); clear hS; go_simp; with_reducible rfl)
   try simp only [clL]
   refine a0j rfl rfl apW ?_
   try simp only [clL]
   refine a0s rfl rfl rfl rfl (cw 4 p) (fun wx hS => St.rangeL hS 0 rfl 0 _ (f0a 4 4 _ _)) Tryz.underlying60 rfl ap4 ?_
   try simp only [clL]
   refine a0j rfl rfl apW ?_
   try simp only [clL]
   refine a0j rfl rfl apW ?_
   try simp only [clL]
   refine a0j rfl rfl apW ?_
   try simp only [clL]
   refine a0j rfl rfl apW ?_
   try simp only [clL]
   refine a0w rfl rfl ?_
   go_simp
   refine (HBIT.out _).mono ?_
   rintro e' w5 ⟨rfl, hf5⟩
   have st5 := hd4.keep hf5
   clear hf5
   clear hd4
   refine ⟨st5, ?_⟩
   try simp only [clL]
   refine a0j rfl rfl apW ?_
   try simp only [clL]
   refine a0j rfl rfl apW ?_
   try simp only [clL]
   refine a0j rfl rfl apW ?_
   try simp only [clL]
   refine a0q rfl rfl ?_
   have f1 := (st5.at 3 rfl).free (k / 64) (by rw [a0i]; omega)
   have c1 := (st5.at 3 rfl).cell (a0G 4 q (k / 64) ap16)
   go_simp
   have st6 := st5.set 3 rfl (k / 64) (.int .u64 (bits .or .u64 (lw q (k / 64) : Nat) (IntKind.u64.wrap ((b : Int) * 2 ^ (k % 64)))))
   simp only [List.set_cons_zero, List.set_cons_succ] at st6
   rw [HCELL.out] at st6
   clear f1 c1 st5
   try simp only [clL]
   refine a0g ?_
   refine NoPanic.normal ?_
   go_wp2
   go_roundw
   case rel => exact ⟨k + 1, by omega, by go_num, by rw [HQ.out]; exact st6⟩
   case measure => simp [intOf]; omega
  ·have hge : ¬ ((k : Int) < 254) := by omega
   have hk2 : k = 254 := by omega
   rw [hk2, f0Q p HP.out] at st
   clear hk2
   generalize p / 4 = Q at *
   have c1 := (st.at 3 rfl).cell (a0G 4 Q 0 ap15)
   have f1 := (st.at 3 rfl).free 0 (by rw [a0i]; decide)
   have st9 := st.set 3 rfl 0 (.int .u64 ((lw Q 0 : Int) + 1))
   have hlow := HLOW.out
   have e1 : IntKind.u64.wrap ((lw Q 0 : Int) + 1) = (lw Q 0 : Int) + 1 := IntWalk.u64_in _ ap16
   clear st
   go_wp2_with (with_reducible refine wSk 33 ?_)
   simp only [List.set_cons_zero, List.set_cons_succ] at st9
   rw [HLC.out] at st9
   clear c1 f1 hlow e1
   refine a0p st9 0 rfl rfl rfl Tryz.underlying78 rfl rfl ap4 ?_
   go_wp2_with (with_reducible refine wSk 34 ?_)
   refine a0k st9 1 rfl rfl rfl Tryz.underlying60 rfl ap4 ?_
   go_wp2_with (with_reducible refine wSk 35 ?_)
   refine a0k st9 3 rfl rfl rfl Tryz.underlying60 rfl ap4 ?_
   go_wp2_with fail
   refine (HPOW.out _).mono ?_
   rintro e' w10 ⟨rfl, hf10⟩
   have st10 := st9.keep hf10
   clear st9 hf10
   go_wp2_with (with_reducible refine wSk 8 ?_)
   refine a0a st10 rfl rfl (z := zAd) ap14 (cw 4 0) ap12 ?_
   intro g8 w11 st11
   clear st10
   go_wp2_with (with_reducible refine wSn ?_)
   refine a0b st11 4 rfl rfl rfl rfl rfl ap5 ap4 (a0f _ _) ?_
   intro w12 st12
   clear st11
   go_wp2_with fail
   refine wp_region_noPanic ?_
   refine a0o (fun wx => St Nob w wx [(g2, cw 4 p ++ cw 4 (B64 ^ 4 - p), 78), (g3, cw 4 a, 60), (g4, cw 4 0, 60), (g6, cw 4 n, 60), (g8, cw 4 R, 60)]) 5 (.t 0 (.t 1 (.t 2 (.t 4 (.r 3 (.m 5 .nil)))))) ap14 ap14 st12.drew (fun _ _ _ _ _ h => h) ?_
   have hd12 := st12.drew
   clear st12
   refine a0s rfl rfl rfl rfl (cw 4 p ++ cw 4 (B64 ^ 4 - p)) (fun wx hS => St.rangeL hS 0 rfl 0 _ dZl) Tryz.underlying78 rfl ap4 ?_
   try simp only [clL]
   refine a0s rfl rfl rfl rfl (cw 4 R) (fun wx hS => St.rangeL hS 4 rfl 0 _ dZl) Tryz.underlying60 rfl ap4 ?_
   try simp only [clL]
   refine a0s rfl rfl rfl rfl (cw 4 R) (fun wx hS => St.rangeL hS 4 rfl 0 _ dZl) Tryz.underlying60 rfl ap4 ?_
   try simp only [clL]
   refine a0s rfl rfl rfl rfl (cw 4 a) (fun wx hS => St.rangeL hS 1 rfl 0 _ dZl) Tryz.underlying60 rfl ap4 ?_
   try simp only [clL]
   refine a0w rfl rfl ?_
   go_simp
   refine (h0a p R R _ HP0.out HP.out HR4.out HR4.out).mono ?_
   rintro e' w13 ⟨rfl, hf13⟩
   have st13 := hd12.keep hf13
   clear hf13
   clear hd12
   refine ⟨st13, ?_⟩
   try simp only [clL]
   refine a0q rfl rfl ?_
   refine o0U (R * R % p) a HRR.out HA.out 60 Tryz.underlying60 Tryz.eqGuardType60 rfl rfl rfl HB.out ?_
   try simp only [clL]
   refine a0g ?_
   refine NoPanic.normal ?_
   go_wp2_with (with_reducible refine wSn ?_)
   refine a0b st13 2 rfl rfl rfl rfl (cs := cw 4 0) ap12 ap5 ap4 (a0f _ _) ?_
   intro w14 st14
   clear st13
   have hr := st14.at 2 rfl
   have hfr := st14.fr
   clear st14
   go_wp2_with fail
   exact bodyPost_ret (b0c rfl rfl hr Tryz.underlying60 ap4 rfl) rfl ⟨rfl, hfr⟩
theorem r0N (p a n R : Nat) (w : World) (hp0 : 0 < p) (hp : p < B64 ^ 4) (hn : p / 4 + 1 = n) (hn4 : n < B64 ^ 4) (ha : a < B64 ^ 4) (hlow : lw (p / 4) 0 + 1 < 18446744073709551616) (hR : R < p) (hpow : ∀ wx, Calls Tryz.prog 167 #[fv p, i4 a, i4 n] wx fun e w' => e = .returned (i4 R) ∧ Fr Nob wx w') (hb : decide (R * R % p = a) = true) (hpar : R % 2 = 0) :
  Calls Tryz.prog 186 #[fv p, i4 a] w fun e w' => e = .returned (.tuple #[i4 R, .bool true]) ∧ Fr Nob w w' := by
 have HP0 := qH hp0
 have HP := qH hp
 have HN4 := qH hn4
 have HA := qH ha
 have HLOW := qH hlow
 have HPOW := qH hpow
 have HB := qH hb
 have HR4 := qH (Nat.lt_trans hR hp)
 have HRP := qH (Nat.le_of_lt hR)
 have HRR := qH (show R * R % p < B64 ^ 4 from Nat.lt_trans (Nat.mod_lt _ hp0) hp)
 have hlc := j0l (p / 4) hlow
 rw [hn] at hlc
 have HLC := qH hlc
 have HNE := qH hn
 have HPAR := qH hpar
 clear hp0 hp hn4 ha hlow hpow hb hR hlc hn hpar
 have st0 := St.start Nob w
 go_enter Tryz.func186, Tryz.ntmps186
 go_wp2_with (with_reducible refine wSk 2 ?_)
 refine a0l st0 rfl rfl rfl (cw 4 p ++ cw 4 (B64 ^ 4 - p)) rfl ?_
 intro g2 w1 st1
 clear st0
 go_wp2_with (with_reducible refine wSk 3 ?_)
 refine a0l st1 rfl rfl rfl (cw 4 a) rfl ?_
 intro g3 w2 st2
 clear st1
 go_wp2_with (with_reducible refine wSk 4 ?_)
 refine a0a st2 rfl rfl (z := zAd) ap14 (cw 4 0) ap12 ?_
 intro g4 w3 st3
 clear st2
 go_wp2_with (with_reducible refine wSk 6 ?_)
 refine a0a st3 rfl rfl (z := zAd) ap14 (cw 4 0) ap12 ?_
 intro g6 w4 st4
 clear st3
 go_wp2
 go_loopw [7] (fun i wr => ∃ k : Nat, k ≤ 254 ∧ i = .int .i64 (k : Int) ∧ St Nob w wr [(g2, cw 4 p ++ cw 4 (B64 ^ 4 - p), 78), (g3, cw 4 a, 60), (g4, cw 4 0, 60), (g6, cw 4 (p / 4 % 2 ^ k), 60)]) (fun i _ => 254 - (intOf i).toNat)
 case atStart => exact ⟨0, by omega, rfl, by rw [Nat.pow_zero, Nat.mod_one]; exact st4⟩
 case round =>
  obtain ⟨k, hk, rfl, st⟩ := hrel
  clear st4
  by_cases hlt : k < 254
  ·have hltI : (k : Int) < 254 := by omega
   have hstep := l0i 4 (p / 4 % 2 ^ k) k (p / 2 ^ (k + 2) % 2) (Nat.mod_lt _ (Nat.pow_pos ap15)) (Nat.mod_lt _ ap15) ap16
   rw [← f0f] at hstep
   have hbit := fun wx => g0q p (k + 2) wx ap16
   have hb2 : p / 2 ^ (k + 2) % 2 < 2 := Nat.mod_lt _ ap15
   generalize p / 2 ^ (k + 2) % 2 = b at *
   generalize hq' : p / 4 % 2 ^ (k + 1) = q' at *
   have HQ := qH hq'
   clear hq'
   generalize p / 4 % 2 ^ k = q at *
   have HCELL := qH (l0G q b k q' hb2 hstep)
   have HBIT := qH hbit
   clear hstep hbit hb2
   have hlo : (0 : Int) ≤ (k : Int) / 64 ∧ (k : Int) / 64 < 4 := by omega
   have hlo2 : (0 : Int) ≤ (k : Int) % 64 ∧ (k : Int) % 64 < 64 := by omega
   have e1 : IntKind.i64.wrap ((k : Int) / 64) = (k : Int) / 64 := IntWalk.i64_in _ ap16
   have e2 : (k : Int).tmod 64 = (k : Int) % 64 := Int.tmod_eq_emod_of_nonneg ap16
   have e3 : IntKind.i64.wrap ((k : Int) + 2) = (k : Int) + 2 := IntWalk.i64_in _ ap16
   have e4 : ((k : Int) / 64).toNat = k / 64 := by omega
   have e5 : ((k : Int) % 64).toNat = k % 64 := by omega
   go_wp2_with fail
   refine wp_region_noPanic ?_
   refine a0o (fun wx => St Nob w wx [(g2, cw 4 p ++ cw 4 (B64 ^ 4 - p), 78), (g3, cw 4 a, 60), (g4, cw 4 0, 60), (g6, cw 4 q, 60)]) 16 (.w 0 (.w 1 (.w 2 (.w 3 (.w 4 (.t 5 (.w 6 (.t 7 (.w 8 (.w 9 (.w 11 (.w 12 (.r 10 (.w 13 (.w 14 (.w 15 (.m 16 .nil))))))))))))))))) ap14 ap14 st.drew (fun _ _ _ _ _ h => h) ?_
   have hd4 := st.drew
   clear st
   refine a0j rfl rfl apW ?_
   try simp only [clL]
   refine a0j rfl rfl apW ?_
   try simp only [clL]
   refine a0j rfl rfl apW ?_
   try simp only [clL]
   refine a0j rfl rfl apW ?_
   try simp only [clL]
   refine a0j rfl rfl apW ?_
   try simp only [clL]
   refine d0G (v := ?_) rfl rfl (fun wx hS => ?_) ?_
   rotate_left 1
   ·(have hc := (St.at hS 3 rfl).cell (a0G 4 q (k / 64) ap16); clear hS; go_simp; with_reducible rfl)
   try simp only [clL]
   refine a0j rfl rfl apW ?_
   try simp only [clL]
   refine a0s rfl rfl rfl rfl (cw 4 p) (fun wx hS => St.rangeL hS 0 rfl 0 _ (f0a 4 4 _ _)) Tryz.underlying60 rfl ap4 ?_
   try simp only [clL]
   refine a0j rfl rfl apW ?_
   try simp only [clL]
   refine a0j rfl rfl apW ?_
   try simp only [clL]
   refine a0j rfl rfl apW ?_
   try simp only [clL]
   refine a0j rfl rfl apW ?_
   try simp only [clL]
   refine a0w rfl rfl ?_
   go_simp
   refine (HBIT.out _).mono ?_
   rintro e' w5 ⟨rfl, hf5⟩
   have st5 := hd4.keep hf5
   clear hf5
   clear hd4
   refine ⟨st5, ?_⟩
   try simp only [clL]
   refine a0j rfl rfl apW ?_
   try simp only [clL]
   refine a0j rfl rfl apW ?_
   try simp only [clL]
   refine a0j rfl rfl apW ?_
   try simp only [clL]
   refine a0q rfl rfl ?_
   have f1 := (st5.at 3 rfl).free (k / 64) (by rw [a0i]; omega)
   have c1 := (st5.at 3 rfl).cell (a0G 4 q (k / 64) ap16)
   go_simp
   have st6 := st5.set 3 rfl (k / 64) (.int .u64 (bits .or .u64 (lw q (k / 64) : Nat) (IntKind.u64.wrap ((b : Int) * 2 ^ (k % 64)))))
   simp only [List.set_cons_zero, List.set_cons_succ] at st6
   rw [HCELL.out] at st6
   clear f1 c1 st5
   try simp only [clL]
   refine a0g ?_
   refine NoPanic.normal ?_
   go_wp2
   go_roundw
   case rel => exact ⟨k + 1, by omega, by go_num, by rw [HQ.out]; exact st6⟩
   case measure => simp [intOf]; omega
  ·have hge : ¬ ((k : Int) < 254) := by omega
   have hk2 : k = 254 := by omega
   rw [hk2, f0Q p HP.out] at st
   clear hk2
   generalize p / 4 = Q at *
   have c1 := (st.at 3 rfl).cell (a0G 4 Q 0 ap15)
   have f1 := (st.at 3 rfl).free 0 (by rw [a0i]; decide)
   have st9 := st.set 3 rfl 0 (.int .u64 ((lw Q 0 : Int) + 1))
   have hlow := HLOW.out
   have e1 : IntKind.u64.wrap ((lw Q 0 : Int) + 1) = (lw Q 0 : Int) + 1 := IntWalk.u64_in _ ap16
   clear st
   go_wp2_with (with_reducible refine wSk 33 ?_)
   simp only [List.set_cons_zero, List.set_cons_succ] at st9
   rw [HLC.out] at st9
   clear c1 f1 hlow e1
   refine a0p st9 0 rfl rfl rfl Tryz.underlying78 rfl rfl ap4 ?_
   go_wp2_with (with_reducible refine wSk 34 ?_)
   refine a0k st9 1 rfl rfl rfl Tryz.underlying60 rfl ap4 ?_
   go_wp2_with (with_reducible refine wSk 35 ?_)
   refine a0k st9 3 rfl rfl rfl Tryz.underlying60 rfl ap4 ?_
   go_wp2_with fail
   refine (HPOW.out _).mono ?_
   rintro e' w10 ⟨rfl, hf10⟩
   have st10 := st9.keep hf10
   clear st9 hf10
   go_wp2_with (with_reducible refine wSk 8 ?_)
   refine a0a st10 rfl rfl (z := zAd) ap14 (cw 4 0) ap12 ?_
   intro g8 w11 st11
   clear st10
   go_wp2_with (with_reducible refine wSn ?_)
   refine a0b st11 4 rfl rfl rfl rfl rfl ap5 ap4 (a0f _ _) ?_
   intro w12 st12
   clear st11
   go_wp2_with fail
   refine wp_region_noPanic ?_
   refine a0o (fun wx => St Nob w wx [(g2, cw 4 p ++ cw 4 (B64 ^ 4 - p), 78), (g3, cw 4 a, 60), (g4, cw 4 0, 60), (g6, cw 4 n, 60), (g8, cw 4 R, 60)]) 5 (.t 0 (.t 1 (.t 2 (.t 4 (.r 3 (.m 5 .nil)))))) ap14 ap14 st12.drew (fun _ _ _ _ _ h => h) ?_
   have hd12 := st12.drew
   clear st12
   refine a0s rfl rfl rfl rfl (cw 4 p ++ cw 4 (B64 ^ 4 - p)) (fun wx hS => St.rangeL hS 0 rfl 0 _ dZl) Tryz.underlying78 rfl ap4 ?_
   try simp only [clL]
   refine a0s rfl rfl rfl rfl (cw 4 R) (fun wx hS => St.rangeL hS 4 rfl 0 _ dZl) Tryz.underlying60 rfl ap4 ?_
   try simp only [clL]
   refine a0s rfl rfl rfl rfl (cw 4 R) (fun wx hS => St.rangeL hS 4 rfl 0 _ dZl) Tryz.underlying60 rfl ap4 ?_
   try simp only [clL]
   refine a0s rfl rfl rfl rfl (cw 4 a) (fun wx hS => St.rangeL hS 1 rfl 0 _ dZl) Tryz.underlying60 rfl ap4 ?_
   try simp only [clL]
   refine a0w rfl rfl ?_
   go_simp
   refine (h0a p R R _ HP0.out HP.out HR4.out HR4.out).mono ?_
   rintro e' w13 ⟨rfl, hf13⟩
   have st13 := hd12.keep hf13
   clear hf13
   clear hd12
   refine ⟨st13, ?_⟩
   try simp only [clL]
   refine a0q rfl rfl ?_
   refine o0U (R * R % p) a HRR.out HA.out 60 Tryz.underlying60 Tryz.eqGuardType60 rfl rfl rfl HB.out ?_
   try simp only [clL]
   refine a0g ?_
   refine NoPanic.normal ?_
   have c1 := (st13.at 4 rfl).cell (a0G 4 R 0 ap15)
   have hla := h0d R
   rw [HPAR.out] at hla
   go_wp2_with (with_reducible refine wSk 51 ?_)
   refine a0k st13 4 rfl rfl rfl Tryz.underlying60 rfl ap4 ?_
   go_wp2_with (with_reducible refine wSn ?_)
   refine a0b st13 2 rfl rfl rfl rfl rfl ap5 ap4 (a0f _ _) ?_
   intro w14 st14
   clear st13
   have hr := st14.at 2 rfl
   have hfr := st14.fr
   clear st14
   go_wp2_with fail
   exact bodyPost_ret (b0c rfl rfl hr Tryz.underlying60 ap4 rfl) rfl ⟨rfl, hfr⟩
theorem u0E (p a n R : Nat) (w : World) (hp0 : 0 < p) (hp : p < B64 ^ 4) (hn : p / 4 + 1 = n) (hn4 : n < B64 ^ 4) (ha : a < B64 ^ 4) (hlow : lw (p / 4) 0 + 1 < 18446744073709551616) (hR : R < p) (hpow : ∀ wx, Calls Tryz.prog 167 #[fv p, i4 a, i4 n] wx fun e w' => e = .returned (i4 R) ∧ Fr Nob wx w') (hb : decide (R * R % p = a) = true) (hpar : R % 2 = 1) :
  Calls Tryz.prog 186 #[fv p, i4 a] w fun e w' => e = .returned (.tuple #[i4 ((p - R) % p), .bool true]) ∧ Fr Nob w w' := by
 have HP0 := qH hp0
 have HP := qH hp
 have HN4 := qH hn4
 have HA := qH ha
 have HLOW := qH hlow
 have HPOW := qH hpow
 have HB := qH hb
 have HR4 := qH (Nat.lt_trans hR hp)
 have HRP := qH (Nat.le_of_lt hR)
 have HRR := qH (show R * R % p < B64 ^ 4 from Nat.lt_trans (Nat.mod_lt _ hp0) hp)
 have hlc := j0l (p / 4) hlow
 rw [hn] at hlc
 have HLC := qH hlc
 have HNE := qH hn
 have HPAR := qH hpar
 clear hp0 hp hn4 ha hlow hpow hb hR hlc hn hpar
 have st0 := St.start Nob w
 go_enter Tryz.func186, Tryz.ntmps186
 go_wp2_with (with_reducible refine wSk 2 ?_)
 refine a0l st0 rfl rfl rfl (cw 4 p ++ cw 4 (B64 ^ 4 - p)) rfl ?_
 intro g2 w1 st1
 clear st0
 go_wp2_with (with_reducible refine wSk 3 ?_)
 refine a0l st1 rfl rfl rfl (cw 4 a) rfl ?_
 intro g3 w2 st2
 clear st1
 go_wp2_with (with_reducible refine wSk 4 ?_)
 refine a0a st2 rfl rfl (z := zAd) ap14 (cw 4 0) ap12 ?_
 intro g4 w3 st3
 clear st2
 go_wp2_with (with_reducible refine wSk 6 ?_)
 refine a0a st3 rfl rfl (z := zAd) ap14 (cw 4 0) ap12 ?_
 intro g6 w4 st4
 clear st3
 go_wp2
 go_loopw [7] (fun i wr => ∃ k : Nat, k ≤ 254 ∧ i = .int .i64 (k : Int) ∧ St Nob w wr [(g2, cw 4 p ++ cw 4 (B64 ^ 4 - p), 78), (g3, cw 4 a, 60), (g4, cw 4 0, 60), (g6, cw 4 (p / 4 % 2 ^ k), 60)]) (fun i _ => 254 - (intOf i).toNat)
 case atStart => exact ⟨0, by omega, rfl, by rw [Nat.pow_zero, Nat.mod_one]; exact st4⟩
 case round =>
  obtain ⟨k, hk, rfl, st⟩ := hrel
  clear st4
  by_cases hlt : k < 254
  ·have hltI : (k : Int) < 254 := by omega
   have hstep := l0i 4 (p / 4 % 2 ^ k) k (p / 2 ^ (k + 2) % 2) (Nat.mod_lt _ (Nat.pow_pos ap15)) (Nat.mod_lt _ ap15) ap16
   rw [← f0f] at hstep
   have hbit := fun wx => g0q p (k + 2) wx ap16
   have hb2 : p / 2 ^ (k + 2) % 2 < 2 := Nat.mod_lt _ ap15
   generalize p / 2 ^ (k + 2) % 2 = b at *
   generalize hq' : p / 4 % 2 ^ (k + 1) = q' at *
   have HQ := qH hq'
   clear hq'
   generalize p / 4 % 2 ^ k = q at *
   have HCELL := qH (l0G q b k q' hb2 hstep)
   have HBIT := qH hbit
   clear hstep hbit hb2
   have hlo : (0 : Int) ≤ (k : Int) / 64 ∧ (k : Int) / 64 < 4 := by omega
   have hlo2 : (0 : Int) ≤ (k : Int) % 64 ∧ (k : Int) % 64 < 64 := by omega
   have e1 : IntKind.i64.wrap ((k : Int) / 64) = (k : Int) / 64 := IntWalk.i64_in _ ap16
   have e2 : (k : Int).tmod 64 = (k : Int) % 64 := Int.tmod_eq_emod_of_nonneg ap16
   have e3 : IntKind.i64.wrap ((k : Int) + 2) = (k : Int) + 2 := IntWalk.i64_in _ ap16
   have e4 : ((k : Int) / 64).toNat = k / 64 := by omega
   have e5 : ((k : Int) % 64).toNat = k % 64 := by omega
   go_wp2_with fail
   refine wp_region_noPanic ?_
   refine a0o (fun wx => St Nob w wx [(g2, cw 4 p ++ cw 4 (B64 ^ 4 - p), 78), (g3, cw 4 a, 60), (g4, cw 4 0, 60), (g6, cw 4 q, 60)]) 16 (.w 0 (.w 1 (.w 2 (.w 3 (.w 4 (.t 5 (.w 6 (.t 7 (.w 8 (.w 9 (.w 11 (.w 12 (.r 10 (.w 13 (.w 14 (.w 15 (.m 16 .nil))))))))))))))))) ap14 ap14 st.drew (fun _ _ _ _ _ h => h) ?_
   have hd4 := st.drew
   clear st
   refine a0j rfl rfl apW ?_
   try simp only [clL]
   refine a0j rfl rfl apW ?_
   try simp only [clL]
   refine a0j rfl rfl apW ?_
   try simp only [clL]
   refine a0j rfl rfl apW ?_
   try simp only [clL]
   refine a0j rfl rfl apW ?_
   try simp only [clL]
   refine d0G (v := ?_) rfl rfl (fun wx hS => ?_) ?_
   rotate_left 1
   ·(have hc := (St.at hS 3 rfl).cell (a0G 4 q (k / 64) ap16); clear hS; go_simp; with_reducible rfl)
   try simp only [clL]
   refine a0j rfl rfl apW ?_
   try simp only [clL]
   refine a0s rfl rfl rfl rfl (cw 4 p) (fun wx hS => St.rangeL hS 0 rfl 0 _ (f0a 4 4 _ _)) Tryz.underlying60 rfl ap4 ?_
   try simp only [clL]
   refine a0j rfl rfl apW ?_
   try simp only [clL]
   refine a0j rfl rfl apW ?_
   try simp only [clL]
   refine a0j rfl rfl apW ?_
   try simp only [clL]
   refine a0j rfl rfl apW ?_
   try simp only [clL]
   refine a0w rfl rfl ?_
   go_simp
   refine (HBIT.out _).mono ?_
   rintro e' w5 ⟨rfl, hf5⟩
   have st5 := hd4.keep hf5
   clear hf5
   clear hd4
   refine ⟨st5, ?_⟩
   try simp only [clL]
   refine a0j rfl rfl apW ?_
   try simp only [clL]
   refine a0j rfl rfl apW ?_
   try simp only [clL]
   refine a0j rfl rfl apW ?_
   try simp only [clL]
   refine a0q rfl rfl ?_
   have f1 := (st5.at 3 rfl).free (k / 64) (by rw [a0i]; omega)
   have c1 := (st5.at 3 rfl).cell (a0G 4 q (k / 64) ap16)
   go_simp
   have st6 := st5.set 3 rfl (k / 64) (.int .u64 (bits .or .u64 (lw q (k / 64) : Nat) (IntKind.u64.wrap ((b : Int) * 2 ^ (k % 64)))))
   simp only [List.set_cons_zero, List.set_cons_succ] at st6
   rw [HCELL.out] at st6
   clear f1 c1 st5
   try simp only [clL]
   refine a0g ?_
   refine NoPanic.normal ?_
   go_wp2
   go_roundw
   case rel => exact ⟨k + 1, by omega, by go_num, by rw [HQ.out]; exact st6⟩
   case measure => simp [intOf]; omega
  ·have hge : ¬ ((k : Int) < 254) := by omega
   have hk2 : k = 254 := by omega
   rw [hk2, f0Q p HP.out] at st
   clear hk2
   generalize p / 4 = Q at *
   have c1 := (st.at 3 rfl).cell (a0G 4 Q 0 ap15)
   have f1 := (st.at 3 rfl).free 0 (by rw [a0i]; decide)
   have st9 := st.set 3 rfl 0 (.int .u64 ((lw Q 0 : Int) + 1))
   have hlow := HLOW.out
   have e1 : IntKind.u64.wrap ((lw Q 0 : Int) + 1) = (lw Q 0 : Int) + 1 := IntWalk.u64_in _ ap16
   clear st
   go_wp2_with (with_reducible refine wSk 33 ?_)
   simp only [List.set_cons_zero, List.set_cons_succ] at st9
   rw [HLC.out] at st9
   clear c1 f1 hlow e1
   refine a0p st9 0 rfl rfl rfl Tryz.underlying78 rfl rfl ap4 ?_
   go_wp2_with (with_reducible refine wSk 34 ?_)
   refine a0k st9 1 rfl rfl rfl Tryz.underlying60 rfl ap4 ?_
   go_wp2_with (with_reducible refine wSk 35 ?_)
   refine a0k st9 3 rfl rfl rfl Tryz.underlying60 rfl ap4 ?_
   go_wp2_with fail
   refine (HPOW.out _).mono ?_
   rintro e' w10 ⟨rfl, hf10⟩
   have st10 := st9.keep hf10
   clear st9 hf10
   go_wp2_with (with_reducible refine wSk 8 ?_)
   refine a0a st10 rfl rfl (z := zAd) ap14 (cw 4 0) ap12 ?_
   intro g8 w11 st11
   clear st10
   go_wp2_with (with_reducible refine wSn ?_)
   refine a0b st11 4 rfl rfl rfl rfl rfl ap5 ap4 (a0f _ _) ?_
   intro w12 st12
   clear st11
   go_wp2_with fail
   refine wp_region_noPanic ?_
   refine a0o (fun wx => St Nob w wx [(g2, cw 4 p ++ cw 4 (B64 ^ 4 - p), 78), (g3, cw 4 a, 60), (g4, cw 4 0, 60), (g6, cw 4 n, 60), (g8, cw 4 R, 60)]) 5 (.t 0 (.t 1 (.t 2 (.t 4 (.r 3 (.m 5 .nil)))))) ap14 ap14 st12.drew (fun _ _ _ _ _ h => h) ?_
   have hd12 := st12.drew
   clear st12
   refine a0s rfl rfl rfl rfl (cw 4 p ++ cw 4 (B64 ^ 4 - p)) (fun wx hS => St.rangeL hS 0 rfl 0 _ dZl) Tryz.underlying78 rfl ap4 ?_
   try simp only [clL]
   refine a0s rfl rfl rfl rfl (cw 4 R) (fun wx hS => St.rangeL hS 4 rfl 0 _ dZl) Tryz.underlying60 rfl ap4 ?_
   try simp only [clL]
   refine a0s rfl rfl rfl rfl (cw 4 R) (fun wx hS => St.rangeL hS 4 rfl 0 _ dZl) Tryz.underlying60 rfl ap4 ?_
   try simp only [clL]
   refine a0s rfl rfl rfl rfl (cw 4 a) (fun wx hS => St.rangeL hS 1 rfl 0 _ dZl) Tryz.underlying60 rfl ap4 ?_
   try simp only [clL]
   refine a0w rfl rfl ?_
   go_simp
   refine (h0a p R R _ HP0.out HP.out HR4.out HR4.out).mono ?_
   rintro e' w13 ⟨rfl, hf13⟩
   have st13 := hd12.keep hf13
   clear hf13
   clear hd12
   refine ⟨st13, ?_⟩
   try simp only [clL]
   refine a0q rfl rfl ?_
   refine o0U (R * R % p) a HRR.out HA.out 60 Tryz.underlying60 Tryz.eqGuardType60 rfl rfl rfl HB.out ?_
   try simp only [clL]
   refine a0g ?_
   refine NoPanic.normal ?_
   have c1 := (st13.at 4 rfl).cell (a0G 4 R 0 ap15)
   have hla := h0d R
   rw [HPAR.out] at hla
   go_wp2_with (with_reducible refine wSk 48 ?_)
   refine a0p st13 0 rfl rfl rfl Tryz.underlying78 rfl rfl ap4 ?_
   go_wp2_with (with_reducible refine wSk 49 ?_)
   refine a0k st13 4 rfl rfl rfl Tryz.underlying60 rfl ap4 ?_
   go_wp2_with fail
   refine (t0h p R _ HRP.out HP.out HR4.out).mono ?_
   rintro e' w14 ⟨rfl, hf14⟩
   have st14 := st13.keep hf14
   clear st13 hf14
   go_wp2_with (with_reducible refine wSn ?_)
   refine a0b st14 4 rfl rfl rfl rfl rfl ap5 ap4 (a0f _ _) ?_
   intro w15 st15
   clear st14
   go_wp2_with (with_reducible refine wSk 51 ?_)
   refine a0k st15 4 rfl rfl rfl Tryz.underlying60 rfl ap4 ?_
   go_wp2_with (with_reducible refine wSn ?_)
   refine a0b st15 2 rfl rfl rfl rfl rfl ap5 ap4 (a0f _ _) ?_
   intro w16 st16
   clear st15
   have hr := st16.at 2 rfl
   have hfr := st16.fr
   clear st16
   go_wp2_with fail
   exact bodyPost_ret (b0c rfl rfl hr Tryz.underlying60 ap4 rfl) rfl ⟨rfl, hfr⟩
end
section
open Go.RowKit Go.Mv Mvp
theorem D0h {k : Int} {m : Md} (h : KindOf k m) : lw (m.M / 4) 0 + 1 < 18446744073709551616 := by
 cases h
 ·decide
 ·decide
theorem x0K (p a : Nat) (w : World) (hp1 : 1 < p) (hp : p < B64 ^ 4) (ha : a < p) (hlow : lw (p / 4) 0 + 1 < 18446744073709551616) (hr : b0G p a = true) :
  Calls Tryz.prog 186 #[fv p, i4 a] w fun e w' => e = .returned (.tuple #[i4 (rtV p a % p), .bool true]) ∧ Fr Nob w w' := by
 unfold b0G at hr
 unfold rtV
 unfold rtN at *
 have hn4 : p / 4 + 1 < B64 ^ 4 := by omega
 generalize hn : p / 4 + 1 = n at *
 have hpow := fun wx => o0s p a n wx hp1 hp (Nat.lt_trans ha hp) hn4
 have hR : a ^ n % p < p := Nat.mod_lt _ ap16
 rw [Nat.mul_mod, Nat.mod_eq_of_lt ha] at hr
 have hsame : a ^ n % p = a ^ n % p % p := (Nat.mod_mod _ _).symm
 generalize hRR : a ^ n % p = R at *
 have hb : decide (R * R % p = a) = true := by simpa using hr
 by_cases hpar : R % 2 = 1
 ·rw [if_pos hpar]
  exact u0E p a n R w ap16 hp hn hn4 (Nat.lt_trans ha hp) hlow hR hpow hb hpar
 ·rw [if_neg hpar, hRR]
  exact r0N p a n R w ap16 hp hn hn4 (Nat.lt_trans ha hp) hlow hR hpow hb ap16
theorem u0F (p a : Nat) (w : World) (hp1 : 1 < p) (hp : p < B64 ^ 4) (ha : a < p) (hlow : lw (p / 4) 0 + 1 < 18446744073709551616) (hr : b0G p a = false) :
  Calls Tryz.prog 186 #[fv p, i4 a] w fun e w' => e = .returned (.tuple #[i4 0, .bool false]) ∧ Fr Nob w w' := by
 unfold b0G at hr
 unfold rtN at *
 have hn4 : p / 4 + 1 < B64 ^ 4 := by omega
 generalize hn : p / 4 + 1 = n at *
 have hpow := fun wx => o0s p a n wx hp1 hp (Nat.lt_trans ha hp) hn4
 have hR : a ^ n % p < p := Nat.mod_lt _ ap16
 rw [Nat.mul_mod, Nat.mod_eq_of_lt ha] at hr
 generalize hRR : a ^ n % p = R at *
 have hb : decide (R * R % p = a) = false := by simpa using hr
 exact x0J p a n R w ap16 hp hn hn4 (Nat.lt_trans ha hp) hlow hR hpow hb
attribute [local irreducible] a0C lw mix cw b0k b0y b0j a0M a0n beN b0F a0P b0C a0J a0R elN mdL a0S a0V b0e rtN b0G rtV
end
section
open Go.RowKit Go.Mv Mvp Mvq
def kN (a : K) : Nat := a.val
theorem mPM : mP.M = fP := t0M
theorem u0G (a : K) : kN a < mP.M := by rw [mPM]; exact a.isLt
theorem f0J (a : K) : kN a < B64 ^ 4 := Nat.lt_trans (u0G a) b0Z.lt
theorem l0H (n : Nat) : kN (kc n) = n % fP := rfl
theorem r0O (a : K) : kc (kN a) = a := by
 apply Fin.ext
 show a.val % fP = a.val
 exact Nat.mod_eq_of_lt a.isLt
theorem z0c {a b : K} (h : kN a = kN b) : a = b := Fin.ext h
theorem hK0 : KindOf 0 mP := .zero
theorem a0Q (w : World) : Calls Tryz.prog 112 #[] w fun e w' => e = .returned (fv mP.M) ∧ Fr Nob w w' := by
 go_enter Tryz.func112, Tryz.ntmps112
 have st0 := St.start Nob w
 go_wp2_with (with_reducible refine wSk 0 ?_)
 refine a0a st0 rfl rfl (z := .agg #[.int .u64 0, .int .u64 0, .int .u64 0, .int .u64 0, .int .u64 0, .int .u64 0, .int .u64 0, .int .u64 0]) ap14 (cw 8 0) ap12 ?_
 intro g0 w1 st1
 clear st0
 go_wp2_with fail
 refine (C0r hK0 _).mono ?_
 rintro e' w2 ⟨rfl, hf2⟩
 have st2 := st1.keep hf2
 clear st1 hf2
 go_wp2_with (with_reducible refine wSn ?_)
 refine a0b st2 0 rfl rfl rfl rfl (cs := cw 4 mP.M ++ cw 4 (B64 ^ 4 - mP.M)) rfl ap5 ap4 (l0c _ _ _ _) ?_
 intro w3 st3
 clear st2
 have hr := st3.at 0 rfl
 have hfr := st3.fr
 clear st3
 go_wp2_with fail
 exact bodyPost_ret (a0r rfl rfl hr Tryz.underlying78 rfl ap4) rfl ⟨rfl, hfr⟩
theorem e0w (a b r : K) (hr : a * b = r) (w : World) : Calls Tryz.prog 58 #[fv mP.M, i4 (kN a), i4 (kN b)] w fun e w' => e = .returned (i4 (kN r)) ∧ Fr Nob w w' := by
 have h := h0a mP.M (kN a) (kN b) w (by have := b0Z.one; omega) b0Z.lt (f0J a) (f0J b)
 have e : kN a * kN b % mP.M = kN r := by rw [mPM, ← l0H, a0K, r0O, r0O, hr]
 rwa [e] at h
theorem A0Z (a b r : K) (hr : a + b = r) (w : World) : Calls Tryz.prog 57 #[fv mP.M, i4 (kN a), i4 (kN b)] w fun e w' => e = .returned (i4 (kN r)) ∧ Fr Nob w w' := by
 have h := t0g mP.M (kN a) (kN b) w (by have := b0Z.one; omega) b0Z.lt (f0J a) (f0J b)
 have e : (kN a + kN b) % mP.M = kN r := by rw [mPM, ← l0H, h0i, r0O, r0O, hr]
 rwa [e] at h
theorem x0L (a b r : K) (hr : a - b = r) (w : World) : Calls Tryz.prog 137 #[fv mP.M, i4 (kN a), i4 (kN b)] w fun e w' => e = .returned (i4 (kN r)) ∧ Fr Nob w w' := by
 have hb := Nat.mod_eq_of_lt (u0G b)
 refine E0i mP.M (kN a) (kN b) (kN r) w (by have := b0Z.one; omega) b0Z.lt (f0J a) (f0J b) (Nat.le_of_lt (u0G b)) ?_
 rw [← hb, mPM, ← l0H, c0Y, r0O, r0O, hr]
theorem E0Y (a r : K) (hr : c0u a = r) (w : World) : Calls Tryz.prog 113 #[fv mP.M, i4 (kN a)] w fun e w' => e = .returned (i4 (kN r)) ∧ Fr Nob w w' := by
 refine E0j mP.M (kN a) (kN r) w b0Z.one b0Z.lt (f0J a) ?_
 rw [← hr, mPM]
 unfold c0u
 rw [l0H]
 unfold kN
 generalize fP - 2 = z
 rfl
theorem D0i (a : K) (b : Bool) (hb : decide (a = 0) = b) (w : World) : Calls Tryz.prog 123 #[i4 (kN a)] w fun e w' => e = .returned (.bool b) ∧ Fr Nob w w' := by
 have h := p0J (kN a) w (f0J a)
 have e : decide (kN a = 0) = b := by
  rw [← hb, Bool.eq_iff_iff, decide_eq_true_eq, decide_eq_true_eq]
  exact ⟨fun h => z0c (h.trans rfl), fun h => by rw [h]; rfl⟩
 rwa [e] at h
theorem o0V (w : World) : Calls Tryz.prog 156 #[.int .u64 1] w fun e w' => e = .returned (i4 (kN 1)) ∧ Fr Nob w w' := i0L 1 w ap15
theorem u0H (w : World) : Calls Tryz.prog 156 #[.int .u64 7] w fun e w' => e = .returned (i4 (kN 7)) ∧ Fr Nob w w' := i0L 7 w ap15
theorem u0I (x y : K) {b : Bool} (hb : decide (x = y) = b) (w : World) : (Op.equal 60 (.agg (cw 4 (kN x)).toArray) (.agg (cw 4 (kN y)).toArray)).run Tryz.prog w = .ok b w := by
 rw [A0T (kN x) (kN y) (f0J x) (f0J y) w]
 congr 1
 rw [← hb, Bool.eq_iff_iff, beq_iff_eq, decide_eq_true_eq]
 exact ⟨z0c, fun h => by rw [h]⟩
theorem j0m (x y : K) {o : Oper} {a : Act} {p q : Operand} {T : TypeId} (ho : o.op = .binOp .eql 60 p q T) (hp : a.eval p = i4 (kN x)) (hq : a.eval q = i4 (kN y)) {b : Bool} (hb : decide (x = y) = b) (w : World) :
  (execOp a.eval o).run Tryz.prog w = .ok (.value (.bool b)) w :=
 c0V ho hp hq w (run_eqGuard_agg w .eql 60 p q _ _ Tryz.eqGuardType60) (d0W w (u0I x y hb w))
theorem B0a (n : Nat) (hn : n < mP.M) (hr : b0G fP n = true) (w : World) : Calls Tryz.prog 186 #[fv mP.M, i4 n] w fun e w' => e = .returned (.tuple #[i4 (kN (kc (rtV fP n))), .bool true]) ∧ Fr Nob w w' := by
 have h := x0K mP.M n w b0Z.one b0Z.lt hn (D0h hK0) (by rw [mPM]; exact hr)
 rw [mPM, ← l0H, ← mPM] at h
 exact h
theorem B0b (n : Nat) (hn : n < mP.M) (hr : b0G fP n = false) (w : World) : Calls Tryz.prog 186 #[fv mP.M, i4 n] w fun e w' => e = .returned (.tuple #[i4 (kN 0), .bool false]) ∧ Fr Nob w w' :=
 u0F mP.M n w b0Z.one b0Z.lt hn (D0h hK0) (by rw [mPM]; exact hr)
end
section
open Go.RowKit Go.Mv Mvp Mvq
def rpL (x y z : K) : List Value := cw 4 (kN x) ++ (cw 4 (kN y) ++ cw 4 (kN z))
def rpV (x y z : K) : Value := .agg (rpL x y z).toArray
theorem B0c : kN 0 = 0 := rfl
theorem h0X (a b c : Nat) : Tryz.prog.built 62 [(0, i4 a), (1, i4 b), (2, i4 c)] = some (cw 4 a ++ (cw 4 b ++ cw 4 c)).toArray := by kernel_rfl
theorem u0J (b : Nat) : Tryz.prog.built 62 [(1, i4 b)] = some (cw 4 0 ++ (cw 4 b ++ cw 4 0)).toArray := by kernel_rfl
theorem f0K : (Tryz.prog.info? 60).map (·.zero) = some (some (.agg (cw 4 0).toArray)) := by kernel_rfl
attribute [local irreducible] a0C lw mix cw b0k b0y b0j a0M a0n beN b0F a0P b0C a0J a0R elN mdL a0S rtV b0G kN kc c0u a0H
theorem n0u (w : World) : Calls Tryz.prog 95 #[] w fun e w' => e = .returned (rpV 0 1 0) ∧ Fr Nob w w' := by
 have st0 := St.start Nob w
 go_enter Tryz.func95, Tryz.ntmps95
 go_wp2_with (with_reducible refine wSk 0 ?_)
 refine a0a st0 rfl rfl (z := zAc) ap14 (cw 12 0) ap12 ?_
 intro g0 w1 st1
 clear st0
 go_wp2_with fail
 refine (o0V _).mono ?_
 rintro e' w2 ⟨rfl, hf2⟩
 have st2 := st1.keep hf2
 clear st1 hf2
 go_wp2_with (with_reducible refine wSk 2 ?_)
 refine a0Y rfl rfl _ (u0J _) ?_
 go_wp2_with (with_reducible refine wSn ?_)
 refine a0b st2 0 rfl rfl rfl rfl rfl ap13 ap14 (b0i _ _ _) ?_
 intro w3 st3
 clear st2
 have hr := st3.at 0 rfl
 have hfr := st3.fr
 clear st3
 go_wp2_with fail
 exact bodyPost_ret (a0r rfl rfl hr Tryz.underlying62 rfl ap14) rfl ⟨by unfold rpV rpL; rw [B0c], hfr⟩
theorem d0M (x y z : K) (b : Bool) (hb : decide (z = 0) = b) (w : World) : Calls Tryz.prog 111 #[rpV x y z] w fun e w' => e = .returned (.bool b) ∧ Fr Nob w w' := by
 have HB := qH hb
 clear hb
 unfold rpV rpL
 have st0 := St.start Nob w
 go_enter Tryz.func111, Tryz.ntmps111
 go_wp2_with (with_reducible refine wSk 1 ?_)
 refine a0l st0 rfl rfl rfl (cw 4 (kN x) ++ (cw 4 (kN y) ++ cw 4 (kN z))) rfl ?_
 intro g1 w1 st1
 clear st0
 go_wp2_with (with_reducible refine wSk 4 ?_)
 refine c0c rfl rfl Tryz.underlying60 rfl (st1.at 0 rfl) (cw 4 (kN z)) (g0y _ _ _) ap14 ?_
 go_wp2_with fail
 refine (D0i z b HB.out _).mono ?_
 rintro e' w2 ⟨rfl, hf2⟩
 have st2 := st1.keep hf2
 clear st1 hf2
 have hfr := st2.fr
 clear st2
 go_wp2_with fail
 go_ret
 exact ⟨rfl, hfr⟩
theorem u0K (x y z : K) (xx d1 d y2 ee e2 e3 t1 t2 x2 t3 t X s1 s2 s3 s4 Y Z : K) (exx : x * x = xx) (ed1 : xx + xx = d1) (ed : d1 + xx = d) (ey2 : y + y = y2) (eee : y2 * z = ee) (ee2 : ee * ee = e2) (ee3 : e2 * ee = e3) (et1 : d * d = t1) (et2 : t1 * z = t2) (ex2 : x + x = x2) (et3 : x2 * e2 = t3) (et : t2 - t3 = t) (eX : ee * t = X) (es1 : x * e2 = s1) (es2 : s1 - t = s2) (es3 : d * s2 = s3) (es4 : y * e3 = s4) (eY : s3 - s4 = Y) (eZ : e3 * z = Z) (w : World) : Calls Tryz.prog 136 #[rpV x y z] w fun e w' => e = .returned (rpV X Y Z) ∧ Fr Nob w w' := by
 have Hxx := qH exx
 have Hd1 := qH ed1
 have Hd := qH ed
 have Hy2 := qH ey2
 have Hee := qH eee
 have He2 := qH ee2
 have He3 := qH ee3
 have Ht1 := qH et1
 have Ht2 := qH et2
 have Hx2 := qH ex2
 have Ht3 := qH et3
 have Ht := qH et
 have HX := qH eX
 have Hs1 := qH es1
 have Hs2 := qH es2
 have Hs3 := qH es3
 have Hs4 := qH es4
 have HY := qH eY
 have HZ := qH eZ
 clear exx ed1 ed ey2 eee ee2 ee3 et1 et2 ex2 et3 et eX es1 es2 es3 es4 eY eZ
 unfold rpV rpL
 have st0 := St.start Nob w
 go_enter Tryz.func136, Tryz.ntmps136
 go_wp2_with (with_reducible refine wSk 1 ?_)
 refine a0l st0 rfl rfl rfl (cw 4 (kN x) ++ (cw 4 (kN y) ++ cw 4 (kN z))) rfl ?_
 intro g1 w1 st1
 clear st0
 go_wp2_with (with_reducible refine wSk 2 ?_)
 refine a0a st1 rfl rfl (z := zAc) ap14 (cw 12 0) ap12 ?_
 intro g2 w2 st2
 clear st1
 go_wp2_with fail
 refine wp_region_noPanic ?_
 refine a0e st2 7 [.o 6, .w 1, .t 2, .w 3, .t 4, .c 0, .c 5, .j 6] (.m 7 .nil) ap14 ap14 (fun _ _ _ _ _ h => h) ?_
 clear st2
 refine b0p rfl rfl rfl f0K (cw 4 0) rfl ?_
 try simp only [clL]
 refine a0m rfl rfl apX ?_
 try simp only [clL]
 refine a0d rfl rfl rfl (fun _ => rfl) (cw 4 (kN x)) (fun wx hS => St.rangeL hS 0 rfl 0 _ (l0U _ _ _)) Tryz.underlying60 rfl ap14 ?_
 try simp only [clL]
 refine a0m rfl rfl apX ?_
 try simp only [clL]
 refine a0d rfl rfl rfl (fun _ => rfl) (cw 4 (kN x)) (fun wx hS => St.rangeL hS 0 rfl 0 _ (l0U _ _ _)) Tryz.underlying60 rfl ap14 ?_
 try simp only [clL]
 refine a0c rfl rfl rfl Tryz.call112 (fun w hS hR => a0Q _) (fun _ => rfl) ?_
 try simp only [clL]
 refine a0c rfl rfl rfl Tryz.call58 (fun w hS hR => e0w x x xx Hxx.out _) (fun _ => rfl) ?_
 try simp only [clL]
 refine b0f List.mem_cons_self fun g3 => ?_
 simp only [upd, reduceIte]
 refine a0t fun xq w3 st3 hR => ?_
 try dsimp only
 clear hR xq
 refine a0q rfl rfl ?_
 refine a0h st3 2 rfl rfl rfl rfl ap13 ap14 (a0f _ _) ?_
 intro w4 st4
 repeat (first | simp only [List.cons_append] at st4 | simp only [List.nil_append] at st4 | simp only [List.set_cons_succ] at st4 | simp only [List.set_cons_zero] at st4)
 clear st3
 try simp only [Act.put]
 refine a0g ?_
 refine NoPanic.normal ?_
 go_wp2_with fail
 refine wp_region_noPanic ?_
 refine a0e st4 8 [.o 7, .t 2, .t 3, .t 5, .c 0, .c 1, .c 4, .c 6, .j 7] (.m 8 .nil) ap14 ap14 (fun _ _ _ _ _ h => h) ?_
 clear st4
 refine b0p rfl rfl rfl f0K (cw 4 0) rfl ?_
 try simp only [clL]
 refine a0d rfl rfl rfl (fun _ => rfl) (cw 4 (kN xx)) (fun wx hS => St.rangeL hS 2 rfl 0 _ dZl) Tryz.underlying60 rfl ap14 ?_
 try simp only [clL]
 refine a0d rfl rfl rfl (fun _ => rfl) (cw 4 (kN xx)) (fun wx hS => St.rangeL hS 2 rfl 0 _ dZl) Tryz.underlying60 rfl ap14 ?_
 try simp only [clL]
 refine a0d rfl rfl rfl (fun _ => rfl) (cw 4 (kN xx)) (fun wx hS => St.rangeL hS 2 rfl 0 _ dZl) Tryz.underlying60 rfl ap14 ?_
 try simp only [clL]
 refine a0c rfl rfl rfl Tryz.call112 (fun w hS hR => a0Q _) (fun _ => rfl) ?_
 try simp only [clL]
 refine a0c rfl rfl rfl Tryz.call112 (fun w hS hR => a0Q _) (fun _ => rfl) ?_
 try simp only [clL]
 refine a0c rfl rfl rfl Tryz.call57 (fun w hS hR => A0Z xx xx d1 Hd1.out _) (fun _ => rfl) ?_
 try simp only [clL]
 refine a0c rfl rfl rfl Tryz.call57 (fun w hS hR => A0Z d1 xx d Hd.out _) (fun _ => rfl) ?_
 try simp only [clL]
 refine b0f List.mem_cons_self fun g4 => ?_
 simp only [upd, reduceIte]
 refine a0t fun xq w5 st5 hR => ?_
 try dsimp only
 clear hR xq
 refine a0q rfl rfl ?_
 refine a0h st5 3 rfl rfl rfl rfl ap13 ap14 (a0f _ _) ?_
 intro w6 st6
 repeat (first | simp only [List.cons_append] at st6 | simp only [List.nil_append] at st6 | simp only [List.set_cons_succ] at st6 | simp only [List.set_cons_zero] at st6)
 clear st5
 try simp only [Act.put]
 refine a0g ?_
 refine NoPanic.normal ?_
 go_wp2_with fail
 refine wp_region_noPanic ?_
 refine a0e st6 11 [.o 10, .w 2, .t 3, .w 4, .t 5, .w 7, .t 8, .c 0, .c 1, .c 6, .c 9, .j 10] (.m 11 .nil) ap14 ap14 (fun _ _ _ _ _ h => h) ?_
 clear st6
 refine b0p rfl rfl rfl f0K (cw 4 0) rfl ?_
 try simp only [clL]
 refine a0m rfl rfl apX ?_
 try simp only [clL]
 refine a0d rfl rfl rfl (fun _ => rfl) (cw 4 (kN y)) (fun wx hS => St.rangeL hS 0 rfl 4 _ (n0M _ _ _)) Tryz.underlying60 rfl ap14 ?_
 try simp only [clL]
 refine a0m rfl rfl apX ?_
 try simp only [clL]
 refine a0d rfl rfl rfl (fun _ => rfl) (cw 4 (kN y)) (fun wx hS => St.rangeL hS 0 rfl 4 _ (n0M _ _ _)) Tryz.underlying60 rfl ap14 ?_
 try simp only [clL]
 refine a0m rfl rfl apX ?_
 try simp only [clL]
 refine a0d rfl rfl rfl (fun _ => rfl) (cw 4 (kN z)) (fun wx hS => St.rangeL hS 0 rfl 8 _ (g0y _ _ _)) Tryz.underlying60 rfl ap14 ?_
 try simp only [clL]
 refine a0c rfl rfl rfl Tryz.call112 (fun w hS hR => a0Q _) (fun _ => rfl) ?_
 try simp only [clL]
 refine a0c rfl rfl rfl Tryz.call112 (fun w hS hR => a0Q _) (fun _ => rfl) ?_
 try simp only [clL]
 refine a0c rfl rfl rfl Tryz.call57 (fun w hS hR => A0Z y y y2 Hy2.out _) (fun _ => rfl) ?_
 try simp only [clL]
 refine a0c rfl rfl rfl Tryz.call58 (fun w hS hR => e0w y2 z ee Hee.out _) (fun _ => rfl) ?_
 try simp only [clL]
 refine b0f List.mem_cons_self fun g5 => ?_
 simp only [upd, reduceIte]
 refine a0t fun xq w7 st7 hR => ?_
 try dsimp only
 clear hR xq
 refine a0q rfl rfl ?_
 refine a0h st7 4 rfl rfl rfl rfl ap13 ap14 (a0f _ _) ?_
 intro w8 st8
 repeat (first | simp only [List.cons_append] at st8 | simp only [List.nil_append] at st8 | simp only [List.set_cons_succ] at st8 | simp only [List.set_cons_zero] at st8)
 clear st7
 try simp only [Act.put]
 refine a0g ?_
 refine NoPanic.normal ?_
 go_wp2_with fail
 refine wp_region_noPanic ?_
 refine a0e st8 5 [.o 4, .t 1, .t 2, .c 0, .c 3, .j 4] (.m 5 .nil) ap14 ap14 (fun _ _ _ _ _ h => h) ?_
 clear st8
 refine b0p rfl rfl rfl f0K (cw 4 0) rfl ?_
 try simp only [clL]
 refine a0d rfl rfl rfl (fun _ => rfl) (cw 4 (kN ee)) (fun wx hS => St.rangeL hS 4 rfl 0 _ dZl) Tryz.underlying60 rfl ap14 ?_
 try simp only [clL]
 refine a0d rfl rfl rfl (fun _ => rfl) (cw 4 (kN ee)) (fun wx hS => St.rangeL hS 4 rfl 0 _ dZl) Tryz.underlying60 rfl ap14 ?_
 try simp only [clL]
 refine a0c rfl rfl rfl Tryz.call112 (fun w hS hR => a0Q _) (fun _ => rfl) ?_
 try simp only [clL]
 refine a0c rfl rfl rfl Tryz.call58 (fun w hS hR => e0w ee ee e2 He2.out _) (fun _ => rfl) ?_
 try simp only [clL]
 refine b0f List.mem_cons_self fun g6 => ?_
 simp only [upd, reduceIte]
 refine a0t fun xq w9 st9 hR => ?_
 try dsimp only
 clear hR xq
 refine a0q rfl rfl ?_
 refine a0h st9 5 rfl rfl rfl rfl ap13 ap14 (a0f _ _) ?_
 intro w10 st10
 repeat (first | simp only [List.cons_append] at st10 | simp only [List.nil_append] at st10 | simp only [List.set_cons_succ] at st10 | simp only [List.set_cons_zero] at st10)
 clear st9
 try simp only [Act.put]
 refine a0g ?_
 refine NoPanic.normal ?_
 go_wp2_with fail
 refine wp_region_noPanic ?_
 refine a0e st10 5 [.o 4, .t 1, .t 2, .c 0, .c 3, .j 4] (.m 5 .nil) ap14 ap14 (fun _ _ _ _ _ h => h) ?_
 clear st10
 refine b0p rfl rfl rfl f0K (cw 4 0) rfl ?_
 try simp only [clL]
 refine a0d rfl rfl rfl (fun _ => rfl) (cw 4 (kN e2)) (fun wx hS => St.rangeL hS 5 rfl 0 _ dZl) Tryz.underlying60 rfl ap14 ?_
 try simp only [clL]
 refine a0d rfl rfl rfl (fun _ => rfl) (cw 4 (kN ee)) (fun wx hS => St.rangeL hS 4 rfl 0 _ dZl) Tryz.underlying60 rfl ap14 ?_
 try simp only [clL]
 refine a0c rfl rfl rfl Tryz.call112 (fun w hS hR => a0Q _) (fun _ => rfl) ?_
 try simp only [clL]
 refine a0c rfl rfl rfl Tryz.call58 (fun w hS hR => e0w e2 ee e3 He3.out _) (fun _ => rfl) ?_
 try simp only [clL]
 refine b0f List.mem_cons_self fun g7 => ?_
 simp only [upd, reduceIte]
 refine a0t fun xq w11 st11 hR => ?_
 try dsimp only
 clear hR xq
 refine a0q rfl rfl ?_
 refine a0h st11 6 rfl rfl rfl rfl ap13 ap14 (a0f _ _) ?_
 intro w12 st12
 repeat (first | simp only [List.cons_append] at st12 | simp only [List.nil_append] at st12 | simp only [List.set_cons_succ] at st12 | simp only [List.set_cons_zero] at st12)
 clear st11
 try simp only [Act.put]
 refine a0g ?_
 refine NoPanic.normal ?_
 go_wp2_with fail
 refine wp_region_noPanic ?_
 refine a0e st12 20 [.o 19, .t 3, .t 4, .w 6, .t 7, .w 11, .t 12, .w 13, .t 14, .t 16, .c 0, .c 1, .c 2, .c 5, .c 8, .c 9, .c 10, .c 15, .c 17, .c 18, .j 19] (.m 20 .nil) ap14 ap14 (fun _ _ _ _ _ h => h) ?_
 clear st12
 refine b0p rfl rfl rfl f0K (cw 4 0) rfl ?_
 try simp only [clL]
 refine a0d rfl rfl rfl (fun _ => rfl) (cw 4 (kN d)) (fun wx hS => St.rangeL hS 3 rfl 0 _ dZl) Tryz.underlying60 rfl ap14 ?_
 try simp only [clL]
 refine a0d rfl rfl rfl (fun _ => rfl) (cw 4 (kN d)) (fun wx hS => St.rangeL hS 3 rfl 0 _ dZl) Tryz.underlying60 rfl ap14 ?_
 try simp only [clL]
 refine a0m rfl rfl apX ?_
 try simp only [clL]
 refine a0d rfl rfl rfl (fun _ => rfl) (cw 4 (kN z)) (fun wx hS => St.rangeL hS 0 rfl 8 _ (g0y _ _ _)) Tryz.underlying60 rfl ap14 ?_
 try simp only [clL]
 refine a0m rfl rfl apX ?_
 try simp only [clL]
 refine a0d rfl rfl rfl (fun _ => rfl) (cw 4 (kN x)) (fun wx hS => St.rangeL hS 0 rfl 0 _ (l0U _ _ _)) Tryz.underlying60 rfl ap14 ?_
 try simp only [clL]
 refine a0m rfl rfl apX ?_
 try simp only [clL]
 refine a0d rfl rfl rfl (fun _ => rfl) (cw 4 (kN x)) (fun wx hS => St.rangeL hS 0 rfl 0 _ (l0U _ _ _)) Tryz.underlying60 rfl ap14 ?_
 try simp only [clL]
 refine a0d rfl rfl rfl (fun _ => rfl) (cw 4 (kN e2)) (fun wx hS => St.rangeL hS 5 rfl 0 _ dZl) Tryz.underlying60 rfl ap14 ?_
 try simp only [clL]
 refine a0c rfl rfl rfl Tryz.call112 (fun w hS hR => a0Q _) (fun _ => rfl) ?_
 try simp only [clL]
 refine a0c rfl rfl rfl Tryz.call112 (fun w hS hR => a0Q _) (fun _ => rfl) ?_
 try simp only [clL]
 refine a0c rfl rfl rfl Tryz.call112 (fun w hS hR => a0Q _) (fun _ => rfl) ?_
 try simp only [clL]
 refine a0c rfl rfl rfl Tryz.call58 (fun w hS hR => e0w d d t1 Ht1.out _) (fun _ => rfl) ?_
 try simp only [clL]
 refine a0c rfl rfl rfl Tryz.call58 (fun w hS hR => e0w t1 z t2 Ht2.out _) (fun _ => rfl) ?_
 try simp only [clL]
 refine a0c rfl rfl rfl Tryz.call112 (fun w hS hR => a0Q _) (fun _ => rfl) ?_
 try simp only [clL]
 refine a0c rfl rfl rfl Tryz.call112 (fun w hS hR => a0Q _) (fun _ => rfl) ?_
 try simp only [clL]
 refine a0c rfl rfl rfl Tryz.call57 (fun w hS hR => A0Z x x x2 Hx2.out _) (fun _ => rfl) ?_
 try simp only [clL]
 refine a0c rfl rfl rfl Tryz.call58 (fun w hS hR => e0w x2 e2 t3 Ht3.out _) (fun _ => rfl) ?_
 try simp only [clL]
 refine a0c rfl rfl rfl Tryz.call137 (fun w hS hR => x0L t2 t3 t Ht.out _) (fun _ => rfl) ?_
 try simp only [clL]
 refine b0f List.mem_cons_self fun g8 => ?_
 simp only [upd, reduceIte]
 refine a0t fun xq w13 st13 hR => ?_
 try dsimp only
 clear hR xq
 refine a0q rfl rfl ?_
 refine a0h st13 7 rfl rfl rfl rfl ap13 ap14 (a0f _ _) ?_
 intro w14 st14
 repeat (first | simp only [List.cons_append] at st14 | simp only [List.nil_append] at st14 | simp only [List.set_cons_succ] at st14 | simp only [List.set_cons_zero] at st14)
 clear st13
 try simp only [Act.put]
 refine a0g ?_
 refine NoPanic.normal ?_
 go_wp2_with fail
 refine wp_region_noPanic ?_
 refine a0e st14 5 [.o 4, .t 1, .t 2, .c 0, .c 3, .j 4] (.m 5 .nil) ap14 ap14 (fun _ _ _ _ _ h => h) ?_
 clear st14
 refine b0p rfl rfl rfl f0K (cw 4 0) rfl ?_
 try simp only [clL]
 refine a0d rfl rfl rfl (fun _ => rfl) (cw 4 (kN ee)) (fun wx hS => St.rangeL hS 4 rfl 0 _ dZl) Tryz.underlying60 rfl ap14 ?_
 try simp only [clL]
 refine a0d rfl rfl rfl (fun _ => rfl) (cw 4 (kN t)) (fun wx hS => St.rangeL hS 7 rfl 0 _ dZl) Tryz.underlying60 rfl ap14 ?_
 try simp only [clL]
 refine a0c rfl rfl rfl Tryz.call112 (fun w hS hR => a0Q _) (fun _ => rfl) ?_
 try simp only [clL]
 refine a0c rfl rfl rfl Tryz.call58 (fun w hS hR => e0w ee t X HX.out _) (fun _ => rfl) ?_
 try simp only [clL]
 refine b0f List.mem_cons_self fun g9 => ?_
 simp only [upd, reduceIte]
 refine a0t fun xq w15 st15 hR => ?_
 try dsimp only
 clear hR xq
 refine a0q rfl rfl ?_
 refine a0h st15 8 rfl rfl rfl rfl ap13 ap14 (a0f _ _) ?_
 intro w16 st16
 repeat (first | simp only [List.cons_append] at st16 | simp only [List.nil_append] at st16 | simp only [List.set_cons_succ] at st16 | simp only [List.set_cons_zero] at st16)
 clear st15
 try simp only [Act.put]
 refine a0g ?_
 refine NoPanic.normal ?_
 go_wp2_with fail
 refine wp_region_noPanic ?_
 refine a0e st16 19 [.o 18, .t 2, .w 5, .t 6, .t 7, .t 9, .w 13, .t 14, .t 15, .c 0, .c 1, .c 3, .c 4, .c 8, .c 10, .c 11, .c 12, .c 16, .c 17, .j 18] (.m 19 .nil) ap14 ap14 (fun _ _ _ _ _ h => h) ?_
 clear st16
 refine b0p rfl rfl rfl f0K (cw 4 0) rfl ?_
 try simp only [clL]
 refine a0d rfl rfl rfl (fun _ => rfl) (cw 4 (kN d)) (fun wx hS => St.rangeL hS 3 rfl 0 _ dZl) Tryz.underlying60 rfl ap14 ?_
 try simp only [clL]
 refine a0m rfl rfl apX ?_
 try simp only [clL]
 refine a0d rfl rfl rfl (fun _ => rfl) (cw 4 (kN x)) (fun wx hS => St.rangeL hS 0 rfl 0 _ (l0U _ _ _)) Tryz.underlying60 rfl ap14 ?_
 try simp only [clL]
 refine a0d rfl rfl rfl (fun _ => rfl) (cw 4 (kN e2)) (fun wx hS => St.rangeL hS 5 rfl 0 _ dZl) Tryz.underlying60 rfl ap14 ?_
 try simp only [clL]
 refine a0d rfl rfl rfl (fun _ => rfl) (cw 4 (kN t)) (fun wx hS => St.rangeL hS 7 rfl 0 _ dZl) Tryz.underlying60 rfl ap14 ?_
 try simp only [clL]
 refine a0m rfl rfl apX ?_
 try simp only [clL]
 refine a0d rfl rfl rfl (fun _ => rfl) (cw 4 (kN y)) (fun wx hS => St.rangeL hS 0 rfl 4 _ (n0M _ _ _)) Tryz.underlying60 rfl ap14 ?_
 try simp only [clL]
 refine a0d rfl rfl rfl (fun _ => rfl) (cw 4 (kN e3)) (fun wx hS => St.rangeL hS 6 rfl 0 _ dZl) Tryz.underlying60 rfl ap14 ?_
 try simp only [clL]
 refine a0c rfl rfl rfl Tryz.call112 (fun w hS hR => a0Q _) (fun _ => rfl) ?_
 try simp only [clL]
 refine a0c rfl rfl rfl Tryz.call112 (fun w hS hR => a0Q _) (fun _ => rfl) ?_
 try simp only [clL]
 refine a0c rfl rfl rfl Tryz.call112 (fun w hS hR => a0Q _) (fun _ => rfl) ?_
 try simp only [clL]
 refine a0c rfl rfl rfl Tryz.call112 (fun w hS hR => a0Q _) (fun _ => rfl) ?_
 try simp only [clL]
 refine a0c rfl rfl rfl Tryz.call58 (fun w hS hR => e0w x e2 s1 Hs1.out _) (fun _ => rfl) ?_
 try simp only [clL]
 refine a0c rfl rfl rfl Tryz.call137 (fun w hS hR => x0L s1 t s2 Hs2.out _) (fun _ => rfl) ?_
 try simp only [clL]
 refine a0c rfl rfl rfl Tryz.call58 (fun w hS hR => e0w d s2 s3 Hs3.out _) (fun _ => rfl) ?_
 try simp only [clL]
 refine a0c rfl rfl rfl Tryz.call112 (fun w hS hR => a0Q _) (fun _ => rfl) ?_
 try simp only [clL]
 refine a0c rfl rfl rfl Tryz.call58 (fun w hS hR => e0w y e3 s4 Hs4.out _) (fun _ => rfl) ?_
 try simp only [clL]
 refine a0c rfl rfl rfl Tryz.call137 (fun w hS hR => x0L s3 s4 Y HY.out _) (fun _ => rfl) ?_
 try simp only [clL]
 refine b0f List.mem_cons_self fun g10 => ?_
 simp only [upd, reduceIte]
 refine a0t fun xq w17 st17 hR => ?_
 try dsimp only
 clear hR xq
 refine a0q rfl rfl ?_
 refine a0h st17 9 rfl rfl rfl rfl ap13 ap14 (a0f _ _) ?_
 intro w18 st18
 repeat (first | simp only [List.cons_append] at st18 | simp only [List.nil_append] at st18 | simp only [List.set_cons_succ] at st18 | simp only [List.set_cons_zero] at st18)
 clear st17
 try simp only [Act.put]
 refine a0g ?_
 refine NoPanic.normal ?_
 go_wp2_with fail
 refine wp_region_noPanic ?_
 refine a0e st18 8 [.t 0, .t 1, .t 3, .w 4, .t 5, .c 2, .c 6, .w 7] (.m 8 .nil) ap14 ap14 (fun _ _ _ _ _ h => h) ?_
 clear st18
 refine a0d rfl rfl rfl (fun _ => rfl) (cw 4 (kN X)) (fun wx hS => St.rangeL hS 8 rfl 0 _ dZl) Tryz.underlying60 rfl ap14 ?_
 try simp only [clL]
 refine a0d rfl rfl rfl (fun _ => rfl) (cw 4 (kN Y)) (fun wx hS => St.rangeL hS 9 rfl 0 _ dZl) Tryz.underlying60 rfl ap14 ?_
 try simp only [clL]
 refine a0d rfl rfl rfl (fun _ => rfl) (cw 4 (kN e3)) (fun wx hS => St.rangeL hS 6 rfl 0 _ dZl) Tryz.underlying60 rfl ap14 ?_
 try simp only [clL]
 refine a0m rfl rfl apX ?_
 try simp only [clL]
 refine a0d rfl rfl rfl (fun _ => rfl) (cw 4 (kN z)) (fun wx hS => St.rangeL hS 0 rfl 8 _ (g0y _ _ _)) Tryz.underlying60 rfl ap14 ?_
 try simp only [clL]
 refine a0c rfl rfl rfl Tryz.call112 (fun w hS hR => a0Q _) (fun _ => rfl) ?_
 try simp only [clL]
 refine a0c rfl rfl rfl Tryz.call58 (fun w hS hR => e0w e3 z Z HZ.out _) (fun _ => rfl) ?_
 try simp only [clL]
 refine a0m rfl rfl (fun _ => b0A rfl _ (h0X _ _ _)) ?_
 try simp only [clL]
 refine a0t fun xq w19 st19 hR => ?_
 try dsimp only
 clear hR xq
 refine a0q rfl rfl ?_
 refine a0h st19 1 rfl rfl rfl rfl ap13 ap14 (b0i _ _ _) ?_
 intro w20 st20
 try simp only [List.set_cons_zero, List.set_cons_succ] at st20
 clear st19
 try simp only [Act.put]
 refine a0g ?_
 refine NoPanic.normal ?_
 have hr := st20.at 1 rfl
 have hfr := st20.fr
 clear st20
 go_wp2_with fail
 exact bodyPost_ret (a0r rfl rfl hr Tryz.underlying62 rfl ap14) rfl ⟨rfl, hfr⟩
theorem o0W (x1 y1 z1 x2 y2 z2 : K) (hb1 : decide (z1 = 0) = true) (w : World) : Calls Tryz.prog 68 #[rpV x1 y1 z1, rpV x2 y2 z2] w fun e w' => e = .returned (rpV x2 y2 z2) ∧ Fr Nob w w' := by
 have HB1 := qH hb1
 clear hb1
 unfold rpV rpL
 have st0 := St.start Nob w
 go_enter Tryz.func68, Tryz.ntmps68
 go_wp2_with (with_reducible refine wSk 2 ?_)
 refine a0l st0 rfl rfl rfl (cw 4 (kN x1) ++ (cw 4 (kN y1) ++ cw 4 (kN z1))) rfl ?_
 intro g2 w1 st1
 clear st0
 go_wp2_with (with_reducible refine wSk 3 ?_)
 refine a0l st1 rfl rfl rfl (cw 4 (kN x2) ++ (cw 4 (kN y2) ++ cw 4 (kN z2))) rfl ?_
 intro g3 w2 st2
 clear st1
 go_wp2_with (with_reducible refine wSk 4 ?_)
 refine a0a st2 rfl rfl (z := zAc) ap14 (cw 12 0) ap12 ?_
 intro g4 w3 st3
 clear st2
 go_wp2_with (with_reducible refine wSk 16 ?_)
 refine a0p st3 0 rfl rfl rfl Tryz.underlying62 rfl rfl ap14 ?_
 go_wp2_with fail
 refine (d0M x1 y1 z1 true HB1.out _).mono ?_
 rintro e' w4 ⟨rfl, hf4⟩
 have st4 := st3.keep hf4
 clear st3 hf4
 go_wp2_with (with_reducible refine wSk 19 ?_)
 refine a0p st4 1 rfl rfl rfl Tryz.underlying62 rfl rfl ap14 ?_
 go_wp2_with (with_reducible refine wSn ?_)
 refine a0b st4 2 rfl rfl rfl rfl rfl ap13 ap14 (b0i _ _ _) ?_
 intro w5 st5
 clear st4
 have hr := st5.at 2 rfl
 have hfr := st5.fr
 clear st5
 go_wp2_with fail
 exact bodyPost_ret (a0r rfl rfl hr Tryz.underlying62 rfl ap14) rfl ⟨rfl, hfr⟩
theorem o0X (x1 y1 z1 x2 y2 z2 : K) (hb1 : decide (z1 = 0) = false) (hb2 : decide (z2 = 0) = true) (w : World) : Calls Tryz.prog 68 #[rpV x1 y1 z1, rpV x2 y2 z2] w fun e w' => e = .returned (rpV x1 y1 z1) ∧ Fr Nob w w' := by
 have HB1 := qH hb1
 have HB2 := qH hb2
 clear hb1 hb2
 unfold rpV rpL
 have st0 := St.start Nob w
 go_enter Tryz.func68, Tryz.ntmps68
 go_wp2_with (with_reducible refine wSk 2 ?_)
 refine a0l st0 rfl rfl rfl (cw 4 (kN x1) ++ (cw 4 (kN y1) ++ cw 4 (kN z1))) rfl ?_
 intro g2 w1 st1
 clear st0
 go_wp2_with (with_reducible refine wSk 3 ?_)
 refine a0l st1 rfl rfl rfl (cw 4 (kN x2) ++ (cw 4 (kN y2) ++ cw 4 (kN z2))) rfl ?_
 intro g3 w2 st2
 clear st1
 go_wp2_with (with_reducible refine wSk 4 ?_)
 refine a0a st2 rfl rfl (z := zAc) ap14 (cw 12 0) ap12 ?_
 intro g4 w3 st3
 clear st2
 go_wp2_with (with_reducible refine wSk 16 ?_)
 refine a0p st3 0 rfl rfl rfl Tryz.underlying62 rfl rfl ap14 ?_
 go_wp2_with fail
 refine (d0M x1 y1 z1 false HB1.out _).mono ?_
 rintro e' w4 ⟨rfl, hf4⟩
 have st4 := st3.keep hf4
 clear st3 hf4
 go_wp2_with (with_reducible refine wSk 20 ?_)
 refine a0p st4 1 rfl rfl rfl Tryz.underlying62 rfl rfl ap14 ?_
 go_wp2_with fail
 refine (d0M x2 y2 z2 true HB2.out _).mono ?_
 rintro e' w5 ⟨rfl, hf5⟩
 have st5 := st4.keep hf5
 clear st4 hf5
 go_wp2_with (with_reducible refine wSk 23 ?_)
 refine a0p st5 0 rfl rfl rfl Tryz.underlying62 rfl rfl ap14 ?_
 go_wp2_with (with_reducible refine wSn ?_)
 refine a0b st5 2 rfl rfl rfl rfl rfl ap13 ap14 (b0i _ _ _) ?_
 intro w6 st6
 clear st5
 have hr := st6.at 2 rfl
 have hfr := st6.fr
 clear st6
 go_wp2_with fail
 exact bodyPost_ret (a0r rfl rfl hr Tryz.underlying62 rfl ap14) rfl ⟨rfl, hfr⟩
theorem D0j {P : Program} {ops : Array Oper} {Q : Exit → Act → World → Prop} {a : Act} {w : World} {rest : List Oper} {o : Oper} (hw : Region.wanted o (yielded ops a.tmps) = true) (h : wpList P ops Q ({o with guard := none} :: rest) a w) : wpList P ops Q (o :: rest) a w := by
 unfold wpList at h ⊢
 rw [if_pos hw]
 rw [if_pos (by simp [Region.wanted])] at h
 exact h
theorem n0v (x y : K) {o : Oper} {a : Act} {p q : Operand} {T : TypeId} (ho : o.op = .binOp .neq 60 p q T) (hp : a.eval p = i4 (kN x)) (hq : a.eval q = i4 (kN y)) {b : Bool} (hb : decide (x = y) = b) (w : World) :
  (execOp a.eval o).run Tryz.prog w = .ok (.value (.bool !b)) w :=
 c0V ho hp hq w (run_eqGuard_agg w .neq 60 p q _ _ Tryz.eqGuardType60) (by
  show (do pure (Value.bool (!(← Op.equal 60 (.agg (cw 4 (kN x)).toArray) (.agg (cw 4 (kN y)).toArray))))).run Tryz.prog w = _
  simp only [Sem.run_bind, u0I x y hb w, Result.andThen_ok]
  rfl)
theorem B0d (w : World) : Calls Tryz.prog 95 #[] w fun e w' => e = .returned (.agg (cw 4 (kN 0) ++ (cw 4 (kN 1) ++ cw 4 (kN 0))).toArray) ∧ Fr Nob w w' := n0u w
theorem u0L (x1 y1 z1 x2 y2 z2 : K) (hb1 : decide (z1 = 0) = false) (hb2 : decide (z2 = 0) = false) (u v u2 v2 : K) (eu : y2 * z1 = u) (ev : x2 * z1 = v) (eu2 : y1 * z2 = u2) (ev2 : x1 * z2 = v2) (hv : decide (v = v2) = true) (hu : decide (u = u2) = false) (w : World) : Calls Tryz.prog 68 #[rpV x1 y1 z1, rpV x2 y2 z2] w fun e w' => e = .returned (rpV 0 1 0) ∧ Fr Nob w w' := by
 have HB1 := qH hb1
 have HB2 := qH hb2
 clear hb1 hb2
 have Hu := qH eu
 have Hv := qH ev
 have Hu2 := qH eu2
 have Hv2 := qH ev2
 clear eu ev eu2 ev2
 have HV := qH hv
 clear hv
 have HU := qH hu
 clear hu
 unfold rpV rpL
 have st0 := St.start Nob w
 go_enter Tryz.func68, Tryz.ntmps68
 go_wp2_with (with_reducible refine wSk 2 ?_)
 refine a0l st0 rfl rfl rfl (cw 4 (kN x1) ++ (cw 4 (kN y1) ++ cw 4 (kN z1))) rfl ?_
 intro g2 w1 st1
 clear st0
 go_wp2_with (with_reducible refine wSk 3 ?_)
 refine a0l st1 rfl rfl rfl (cw 4 (kN x2) ++ (cw 4 (kN y2) ++ cw 4 (kN z2))) rfl ?_
 intro g3 w2 st2
 clear st1
 go_wp2_with (with_reducible refine wSk 4 ?_)
 refine a0a st2 rfl rfl (z := zAc) ap14 (cw 12 0) ap12 ?_
 intro g4 w3 st3
 clear st2
 go_wp2_with (with_reducible refine wSk 16 ?_)
 refine a0p st3 0 rfl rfl rfl Tryz.underlying62 rfl rfl ap14 ?_
 go_wp2_with fail
 refine (d0M x1 y1 z1 false HB1.out _).mono ?_
 rintro e' w4 ⟨rfl, hf4⟩
 have st4 := st3.keep hf4
 clear st3 hf4
 go_wp2_with (with_reducible refine wSk 20 ?_)
 refine a0p st4 1 rfl rfl rfl Tryz.underlying62 rfl rfl ap14 ?_
 go_wp2_with fail
 refine (d0M x2 y2 z2 false HB2.out _).mono ?_
 rintro e' w5 ⟨rfl, hf5⟩
 have st5 := st4.keep hf5
 clear st4 hf5
 go_wp2_with fail
 refine wp_region_noPanic ?_
 refine a0e st5 7 [.o 6, .w 1, .t 2, .w 3, .t 4, .c 0, .c 5, .j 6] (.m 7 .nil) ap14 ap14 (fun _ _ _ _ _ h => h) ?_
 clear st5
 refine b0p rfl rfl rfl f0K (cw 4 0) rfl ?_
 try simp only [clL]
 refine a0m rfl rfl apX ?_
 try simp only [clL]
 refine a0d rfl rfl rfl (fun _ => rfl) (cw 4 (kN y2)) (fun wx hS => St.rangeL hS 1 rfl 4 _ (n0M _ _ _)) Tryz.underlying60 rfl ap14 ?_
 try simp only [clL]
 refine a0m rfl rfl apX ?_
 try simp only [clL]
 refine a0d rfl rfl rfl (fun _ => rfl) (cw 4 (kN z1)) (fun wx hS => St.rangeL hS 0 rfl 8 _ (g0y _ _ _)) Tryz.underlying60 rfl ap14 ?_
 try simp only [clL]
 refine a0c rfl rfl rfl Tryz.call112 (fun w hS hR => a0Q _) (fun _ => rfl) ?_
 try simp only [clL]
 refine a0c rfl rfl rfl Tryz.call58 (fun w hS hR => e0w y2 z1 u Hu.out _) (fun _ => rfl) ?_
 try simp only [clL]
 refine b0f List.mem_cons_self fun g6 => ?_
 simp only [upd, reduceIte]
 refine a0t fun xq w6 st6 hR => ?_
 try dsimp only
 clear hR xq
 refine a0q rfl rfl ?_
 refine a0h st6 3 rfl rfl rfl rfl ap13 ap14 (a0f _ _) ?_
 intro w7 st7
 repeat (first | simp only [List.cons_append] at st7 | simp only [List.nil_append] at st7 | simp only [List.set_cons_succ] at st7 | simp only [List.set_cons_zero] at st7)
 clear st6
 try simp only [Act.put]
 refine a0g ?_
 refine NoPanic.normal ?_
 go_wp2_with fail
 refine wp_region_noPanic ?_
 refine a0e st7 7 [.o 6, .w 1, .t 2, .w 3, .t 4, .c 0, .c 5, .j 6] (.m 7 .nil) ap14 ap14 (fun _ _ _ _ _ h => h) ?_
 clear st7
 refine b0p rfl rfl rfl f0K (cw 4 0) rfl ?_
 try simp only [clL]
 refine a0m rfl rfl apX ?_
 try simp only [clL]
 refine a0d rfl rfl rfl (fun _ => rfl) (cw 4 (kN x2)) (fun wx hS => St.rangeL hS 1 rfl 0 _ (l0U _ _ _)) Tryz.underlying60 rfl ap14 ?_
 try simp only [clL]
 refine a0m rfl rfl apX ?_
 try simp only [clL]
 refine a0d rfl rfl rfl (fun _ => rfl) (cw 4 (kN z1)) (fun wx hS => St.rangeL hS 0 rfl 8 _ (g0y _ _ _)) Tryz.underlying60 rfl ap14 ?_
 try simp only [clL]
 refine a0c rfl rfl rfl Tryz.call112 (fun w hS hR => a0Q _) (fun _ => rfl) ?_
 try simp only [clL]
 refine a0c rfl rfl rfl Tryz.call58 (fun w hS hR => e0w x2 z1 v Hv.out _) (fun _ => rfl) ?_
 try simp only [clL]
 refine b0f List.mem_cons_self fun g7 => ?_
 simp only [upd, reduceIte]
 refine a0t fun xq w8 st8 hR => ?_
 try dsimp only
 clear hR xq
 refine a0q rfl rfl ?_
 refine a0h st8 4 rfl rfl rfl rfl ap13 ap14 (a0f _ _) ?_
 intro w9 st9
 repeat (first | simp only [List.cons_append] at st9 | simp only [List.nil_append] at st9 | simp only [List.set_cons_succ] at st9 | simp only [List.set_cons_zero] at st9)
 clear st8
 try simp only [Act.put]
 refine a0g ?_
 refine NoPanic.normal ?_
 go_wp2_with fail
 refine wp_region_noPanic ?_
 refine a0e st9 7 [.o 6, .w 1, .t 2, .w 3, .t 4, .c 0, .c 5, .j 6] (.m 7 .nil) ap14 ap14 (fun _ _ _ _ _ h => h) ?_
 clear st9
 refine b0p rfl rfl rfl f0K (cw 4 0) rfl ?_
 try simp only [clL]
 refine a0m rfl rfl apX ?_
 try simp only [clL]
 refine a0d rfl rfl rfl (fun _ => rfl) (cw 4 (kN y1)) (fun wx hS => St.rangeL hS 0 rfl 4 _ (n0M _ _ _)) Tryz.underlying60 rfl ap14 ?_
 try simp only [clL]
 refine a0m rfl rfl apX ?_
 try simp only [clL]
 refine a0d rfl rfl rfl (fun _ => rfl) (cw 4 (kN z2)) (fun wx hS => St.rangeL hS 1 rfl 8 _ (g0y _ _ _)) Tryz.underlying60 rfl ap14 ?_
 try simp only [clL]
 refine a0c rfl rfl rfl Tryz.call112 (fun w hS hR => a0Q _) (fun _ => rfl) ?_
 try simp only [clL]
 refine a0c rfl rfl rfl Tryz.call58 (fun w hS hR => e0w y1 z2 u2 Hu2.out _) (fun _ => rfl) ?_
 try simp only [clL]
 refine b0f List.mem_cons_self fun g8 => ?_
 simp only [upd, reduceIte]
 refine a0t fun xq w10 st10 hR => ?_
 try dsimp only
 clear hR xq
 refine a0q rfl rfl ?_
 refine a0h st10 5 rfl rfl rfl rfl ap13 ap14 (a0f _ _) ?_
 intro w11 st11
 repeat (first | simp only [List.cons_append] at st11 | simp only [List.nil_append] at st11 | simp only [List.set_cons_succ] at st11 | simp only [List.set_cons_zero] at st11)
 clear st10
 try simp only [Act.put]
 refine a0g ?_
 refine NoPanic.normal ?_
 go_wp2_with fail
 refine wp_region_noPanic ?_
 refine a0e st11 7 [.o 6, .w 1, .t 2, .w 3, .t 4, .c 0, .c 5, .j 6] (.m 7 .nil) ap14 ap14 (fun _ _ _ _ _ h => h) ?_
 clear st11
 refine b0p rfl rfl rfl f0K (cw 4 0) rfl ?_
 try simp only [clL]
 refine a0m rfl rfl apX ?_
 try simp only [clL]
 refine a0d rfl rfl rfl (fun _ => rfl) (cw 4 (kN x1)) (fun wx hS => St.rangeL hS 0 rfl 0 _ (l0U _ _ _)) Tryz.underlying60 rfl ap14 ?_
 try simp only [clL]
 refine a0m rfl rfl apX ?_
 try simp only [clL]
 refine a0d rfl rfl rfl (fun _ => rfl) (cw 4 (kN z2)) (fun wx hS => St.rangeL hS 1 rfl 8 _ (g0y _ _ _)) Tryz.underlying60 rfl ap14 ?_
 try simp only [clL]
 refine a0c rfl rfl rfl Tryz.call112 (fun w hS hR => a0Q _) (fun _ => rfl) ?_
 try simp only [clL]
 refine a0c rfl rfl rfl Tryz.call58 (fun w hS hR => e0w x1 z2 v2 Hv2.out _) (fun _ => rfl) ?_
 try simp only [clL]
 refine b0f List.mem_cons_self fun g9 => ?_
 simp only [upd, reduceIte]
 refine a0t fun xq w12 st12 hR => ?_
 try dsimp only
 clear hR xq
 refine a0q rfl rfl ?_
 refine a0h st12 6 rfl rfl rfl rfl ap13 ap14 (a0f _ _) ?_
 intro w13 st13
 repeat (first | simp only [List.cons_append] at st13 | simp only [List.nil_append] at st13 | simp only [List.set_cons_succ] at st13 | simp only [List.set_cons_zero] at st13)
 clear st12
 try simp only [Act.put]
 refine a0g ?_
 refine NoPanic.normal ?_
 go_wp2_with (with_reducible refine wSk 48 ?_)
 refine a0k st13 4 rfl rfl rfl Tryz.underlying60 rfl ap14 ?_
 go_wp2_with (with_reducible refine wSk 49 ?_)
 refine a0k st13 6 rfl rfl rfl Tryz.underlying60 rfl ap14 ?_
 go_wp2_with (with_reducible refine wSk 50 ?_)
 refine f0g rfl (j0m v v2 rfl rfl rfl HV.out _) ?_
 go_wp2_with (with_reducible refine wSk 51 ?_)
 refine a0k st13 3 rfl rfl rfl Tryz.underlying60 rfl ap14 ?_
 go_wp2_with (with_reducible refine wSk 52 ?_)
 refine a0k st13 5 rfl rfl rfl Tryz.underlying60 rfl ap14 ?_
 go_wp2_with (with_reducible refine wSk 53 ?_)
 refine f0g rfl (n0v u u2 rfl rfl rfl HU.out _) ?_
 go_wp2_with fail
 refine (B0d _).mono ?_
 rintro e' w14 ⟨rfl, hf14⟩
 have st14 := st13.keep hf14
 clear st13 hf14
 go_wp2_with (with_reducible refine wSn ?_)
 refine a0b st14 2 rfl rfl rfl rfl rfl ap13 ap14 (b0i _ _ _) ?_
 intro w15 st15
 clear st14
 have hr := st15.at 2 rfl
 have hfr := st15.fr
 clear st15
 go_wp2_with fail
 exact bodyPost_ret (a0r rfl rfl hr Tryz.underlying62 rfl ap14) rfl ⟨rfl, hfr⟩
theorem u0M (x y z X Y Z : K) (w : World) (h : Calls Tryz.prog 136 #[rpV x y z] w fun e w' => e = .returned (rpV X Y Z) ∧ Fr Nob w w') : Calls Tryz.prog 136 #[.agg (cw 4 (kN x) ++ (cw 4 (kN y) ++ cw 4 (kN z))).toArray] w fun e w' => e = .returned (.agg (cw 4 (kN X) ++ (cw 4 (kN Y) ++ cw 4 (kN Z))).toArray) ∧ Fr Nob w w' := h
theorem u0N (x1 y1 z1 x2 y2 z2 : K) (hb1 : decide (z1 = 0) = false) (hb2 : decide (z2 = 0) = false) (u v u2 v2 : K) (eu : y2 * z1 = u) (ev : x2 * z1 = v) (eu2 : y1 * z2 = u2) (ev2 : x1 * z2 = v2) (hv : decide (v = v2) = true) (hu : decide (u = u2) = true) (hz : decide (u = 0) = false) (X Y Z : K) (hdb : ∀ wx, Calls Tryz.prog 136 #[rpV x1 y1 z1] wx fun e w' => e = .returned (rpV X Y Z) ∧ Fr Nob wx w') (w : World) : Calls Tryz.prog 68 #[rpV x1 y1 z1, rpV x2 y2 z2] w fun e w' => e = .returned (rpV X Y Z) ∧ Fr Nob w w' := by
 have HB1 := qH hb1
 have HB2 := qH hb2
 clear hb1 hb2
 have Hu := qH eu
 have Hv := qH ev
 have Hu2 := qH eu2
 have Hv2 := qH ev2
 clear eu ev eu2 ev2
 have HV := qH hv
 clear hv
 have HU := qH hu
 clear hu
 have HZ := qH hz
 have HDB := qH hdb
 clear hz hdb
 unfold rpV rpL
 have st0 := St.start Nob w
 go_enter Tryz.func68, Tryz.ntmps68
 go_wp2_with (with_reducible refine wSk 2 ?_)
 refine a0l st0 rfl rfl rfl (cw 4 (kN x1) ++ (cw 4 (kN y1) ++ cw 4 (kN z1))) rfl ?_
 intro g2 w1 st1
 clear st0
 go_wp2_with (with_reducible refine wSk 3 ?_)
 refine a0l st1 rfl rfl rfl (cw 4 (kN x2) ++ (cw 4 (kN y2) ++ cw 4 (kN z2))) rfl ?_
 intro g3 w2 st2
 clear st1
 go_wp2_with (with_reducible refine wSk 4 ?_)
 refine a0a st2 rfl rfl (z := zAc) ap14 (cw 12 0) ap12 ?_
 intro g4 w3 st3
 clear st2
 go_wp2_with (with_reducible refine wSk 16 ?_)
 refine a0p st3 0 rfl rfl rfl Tryz.underlying62 rfl rfl ap14 ?_
 go_wp2_with fail
 refine (d0M x1 y1 z1 false HB1.out _).mono ?_
 rintro e' w4 ⟨rfl, hf4⟩
 have st4 := st3.keep hf4
 clear st3 hf4
 go_wp2_with (with_reducible refine wSk 20 ?_)
 refine a0p st4 1 rfl rfl rfl Tryz.underlying62 rfl rfl ap14 ?_
 go_wp2_with fail
 refine (d0M x2 y2 z2 false HB2.out _).mono ?_
 rintro e' w5 ⟨rfl, hf5⟩
 have st5 := st4.keep hf5
 clear st4 hf5
 go_wp2_with fail
 refine wp_region_noPanic ?_
 refine a0e st5 7 [.o 6, .w 1, .t 2, .w 3, .t 4, .c 0, .c 5, .j 6] (.m 7 .nil) ap14 ap14 (fun _ _ _ _ _ h => h) ?_
 clear st5
 refine b0p rfl rfl rfl f0K (cw 4 0) rfl ?_
 try simp only [clL]
 refine a0m rfl rfl apX ?_
 try simp only [clL]
 refine a0d rfl rfl rfl (fun _ => rfl) (cw 4 (kN y2)) (fun wx hS => St.rangeL hS 1 rfl 4 _ (n0M _ _ _)) Tryz.underlying60 rfl ap14 ?_
 try simp only [clL]
 refine a0m rfl rfl apX ?_
 try simp only [clL]
 refine a0d rfl rfl rfl (fun _ => rfl) (cw 4 (kN z1)) (fun wx hS => St.rangeL hS 0 rfl 8 _ (g0y _ _ _)) Tryz.underlying60 rfl ap14 ?_
 try simp only [clL]
 refine a0c rfl rfl rfl Tryz.call112 (fun w hS hR => a0Q _) (fun _ => rfl) ?_
 try simp only [clL]
 refine a0c rfl rfl rfl Tryz.call58 (fun w hS hR => e0w y2 z1 u Hu.out _) (fun _ => rfl) ?_
 try simp only [clL]
 refine b0f List.mem_cons_self fun g6 => ?_
 simp only [upd, reduceIte]
 refine a0t fun xq w6 st6 hR => ?_
 try dsimp only
 clear hR xq
 refine a0q rfl rfl ?_
 refine a0h st6 3 rfl rfl rfl rfl ap13 ap14 (a0f _ _) ?_
 intro w7 st7
 repeat (first | simp only [List.cons_append] at st7 | simp only [List.nil_append] at st7 | simp only [List.set_cons_succ] at st7 | simp only [List.set_cons_zero] at st7)
 clear st6
 try simp only [Act.put]
 refine a0g ?_
 refine NoPanic.normal ?_
 go_wp2_with fail
 refine wp_region_noPanic ?_
 refine a0e st7 7 [.o 6, .w 1, .t 2, .w 3, .t 4, .c 0, .c 5, .j 6] (.m 7 .nil) ap14 ap14 (fun _ _ _ _ _ h => h) ?_
 clear st7
 refine b0p rfl rfl rfl f0K (cw 4 0) rfl ?_
 try simp only [clL]
 refine a0m rfl rfl apX ?_
 try simp only [clL]
 refine a0d rfl rfl rfl (fun _ => rfl) (cw 4 (kN x2)) (fun wx hS => St.rangeL hS 1 rfl 0 _ (l0U _ _ _)) Tryz.underlying60 rfl ap14 ?_
 try simp only [clL]
 refine a0m rfl rfl apX ?_
 try simp only [clL]
 refine a0d rfl rfl rfl (fun _ => rfl) (cw 4 (kN z1)) (fun wx hS => St.rangeL hS 0 rfl 8 _ (g0y _ _ _)) Tryz.underlying60 rfl ap14 ?_
 try simp only [clL]
 refine a0c rfl rfl rfl Tryz.call112 (fun w hS hR => a0Q _) (fun _ => rfl) ?_
 try simp only [clL]
 refine a0c rfl rfl rfl Tryz.call58 (fun w hS hR => e0w x2 z1 v Hv.out _) (fun _ => rfl) ?_
 try simp only [clL]
 refine b0f List.mem_cons_self fun g7 => ?_
 simp only [upd, reduceIte]
 refine a0t fun xq w8 st8 hR => ?_
 try dsimp only
 clear hR xq
 refine a0q rfl rfl ?_
 refine a0h st8 4 rfl rfl rfl rfl ap13 ap14 (a0f _ _) ?_
 intro w9 st9
 repeat (first | simp only [List.cons_append] at st9 | simp only [List.nil_append] at st9 | simp only [List.set_cons_succ] at st9 | simp only [List.set_cons_zero] at st9)
 clear st8
 try simp only [Act.put]
 refine a0g ?_
 refine NoPanic.normal ?_
 go_wp2_with fail
 refine wp_region_noPanic ?_
 refine a0e st9 7 [.o 6, .w 1, .t 2, .w 3, .t 4, .c 0, .c 5, .j 6] (.m 7 .nil) ap14 ap14 (fun _ _ _ _ _ h => h) ?_
 clear st9
 refine b0p rfl rfl rfl f0K (cw 4 0) rfl ?_
 try simp only [clL]
 refine a0m rfl rfl apX ?_
 try simp only [clL]
 refine a0d rfl rfl rfl (fun _ => rfl) (cw 4 (kN y1)) (fun wx hS => St.rangeL hS 0 rfl 4 _ (n0M _ _ _)) Tryz.underlying60 rfl ap14 ?_
 try simp only [clL]
 refine a0m rfl rfl apX ?_
 try simp only [clL]
 refine a0d rfl rfl rfl (fun _ => rfl) (cw 4 (kN z2)) (fun wx hS => St.rangeL hS 1 rfl 8 _ (g0y _ _ _)) Tryz.underlying60 rfl ap14 ?_
 try simp only [clL]
 refine a0c rfl rfl rfl Tryz.call112 (fun w hS hR => a0Q _) (fun _ => rfl) ?_
 try simp only [clL]
 refine a0c rfl rfl rfl Tryz.call58 (fun w hS hR => e0w y1 z2 u2 Hu2.out _) (fun _ => rfl) ?_
 try simp only [clL]
 refine b0f List.mem_cons_self fun g8 => ?_
 simp only [upd, reduceIte]
 refine a0t fun xq w10 st10 hR => ?_
 try dsimp only
 clear hR xq
 refine a0q rfl rfl ?_
 refine a0h st10 5 rfl rfl rfl rfl ap13 ap14 (a0f _ _) ?_
 intro w11 st11
 repeat (first | simp only [List.cons_append] at st11 | simp only [List.nil_append] at st11 | simp only [List.set_cons_succ] at st11 | simp only [List.set_cons_zero] at st11)
 clear st10
 try simp only [Act.put]
 refine a0g ?_
 refine NoPanic.normal ?_
 go_wp2_with fail
 refine wp_region_noPanic ?_
 refine a0e st11 7 [.o 6, .w 1, .t 2, .w 3, .t 4, .c 0, .c 5, .j 6] (.m 7 .nil) ap14 ap14 (fun _ _ _ _ _ h => h) ?_
 clear st11
 refine b0p rfl rfl rfl f0K (cw 4 0) rfl ?_
 try simp only [clL]
 refine a0m rfl rfl apX ?_
 try simp only [clL]
 refine a0d rfl rfl rfl (fun _ => rfl) (cw 4 (kN x1)) (fun wx hS => St.rangeL hS 0 rfl 0 _ (l0U _ _ _)) Tryz.underlying60 rfl ap14 ?_
 try simp only [clL]
 refine a0m rfl rfl apX ?_
 try simp only [clL]
 refine a0d rfl rfl rfl (fun _ => rfl) (cw 4 (kN z2)) (fun wx hS => St.rangeL hS 1 rfl 8 _ (g0y _ _ _)) Tryz.underlying60 rfl ap14 ?_
 try simp only [clL]
 refine a0c rfl rfl rfl Tryz.call112 (fun w hS hR => a0Q _) (fun _ => rfl) ?_
 try simp only [clL]
 refine a0c rfl rfl rfl Tryz.call58 (fun w hS hR => e0w x1 z2 v2 Hv2.out _) (fun _ => rfl) ?_
 try simp only [clL]
 refine b0f List.mem_cons_self fun g9 => ?_
 simp only [upd, reduceIte]
 refine a0t fun xq w12 st12 hR => ?_
 try dsimp only
 clear hR xq
 refine a0q rfl rfl ?_
 refine a0h st12 6 rfl rfl rfl rfl ap13 ap14 (a0f _ _) ?_
 intro w13 st13
 repeat (first | simp only [List.cons_append] at st13 | simp only [List.nil_append] at st13 | simp only [List.set_cons_succ] at st13 | simp only [List.set_cons_zero] at st13)
 clear st12
 try simp only [Act.put]
 refine a0g ?_
 refine NoPanic.normal ?_
 go_wp2_with (with_reducible refine wSk 48 ?_)
 refine a0k st13 4 rfl rfl rfl Tryz.underlying60 rfl ap14 ?_
 go_wp2_with (with_reducible refine wSk 49 ?_)
 refine a0k st13 6 rfl rfl rfl Tryz.underlying60 rfl ap14 ?_
 go_wp2_with (with_reducible refine wSk 50 ?_)
 refine f0g rfl (j0m v v2 rfl rfl rfl HV.out _) ?_
 go_wp2_with (with_reducible refine wSk 51 ?_)
 refine a0k st13 3 rfl rfl rfl Tryz.underlying60 rfl ap14 ?_
 go_wp2_with (with_reducible refine wSk 52 ?_)
 refine a0k st13 5 rfl rfl rfl Tryz.underlying60 rfl ap14 ?_
 go_wp2_with (with_reducible refine wSk 53 ?_)
 refine f0g rfl (n0v u u2 rfl rfl rfl HU.out _) ?_
 go_wp2_with (with_reducible refine wSk 55 ?_)
 refine D0j rfl ?_
 refine a0k st13 3 rfl rfl rfl Tryz.underlying60 rfl ap14 ?_
 go_wp2_with fail
 refine (D0i u false HZ.out _).mono ?_
 rintro e' w14 ⟨rfl, hf14⟩
 have st14 := st13.keep hf14
 clear st13 hf14
 go_wp2_with (with_reducible refine wSk 59 ?_)
 refine a0p st14 0 rfl rfl rfl Tryz.underlying62 rfl rfl ap14 ?_
 go_wp2_with fail
 refine (u0M x1 y1 z1 X Y Z _ (HDB.out _)).mono ?_
 rintro e' w15 ⟨rfl, hf15⟩
 have st15 := st14.keep hf15
 clear st14 hf15
 go_wp2_with (with_reducible refine wSn ?_)
 refine a0b st15 2 rfl rfl rfl rfl rfl ap13 ap14 (b0i _ _ _) ?_
 intro w16 st16
 clear st15
 have hr := st16.at 2 rfl
 have hfr := st16.fr
 clear st16
 go_wp2_with fail
 exact bodyPost_ret (a0r rfl rfl hr Tryz.underlying62 rfl ap14) rfl ⟨rfl, hfr⟩
theorem B0e (x1 y1 z1 x2 y2 z2 : K) (hb1 : decide (z1 = 0) = false) (hb2 : decide (z2 = 0) = false) (u v u2 v2 d ee ww e2 e3 t1 t2 t3 t4 t5 t X s1 s2 s3 s4 Y Z : K) (eu : y2 * z1 = u) (ev : x2 * z1 = v) (eu2 : y1 * z2 = u2) (ev2 : x1 * z2 = v2) (ed : u - u2 = d) (eee : v - v2 = ee) (eww : z1 * z2 = ww) (ee2 : ee * ee = e2) (ee3 : e2 * ee = e3) (et1 : d * d = t1) (et2 : t1 * ww = t2) (et3 : t2 - e3 = t3) (et4 : v2 + v2 = t4) (et5 : t4 * e2 = t5) (et : t3 - t5 = t) (eX : ee * t = X) (es1 : v2 * e2 = s1) (es2 : s1 - t = s2) (es3 : d * s2 = s3) (es4 : u2 * e3 = s4) (eY : s3 - s4 = Y) (eZ : e3 * ww = Z) (hv : decide (v = v2) = false) (w : World) : Calls Tryz.prog 68 #[rpV x1 y1 z1, rpV x2 y2 z2] w fun e w' => e = .returned (rpV X Y Z) ∧ Fr Nob w w' := by
 have HB1 := qH hb1
 have HB2 := qH hb2
 clear hb1 hb2
 have Hu := qH eu
 have Hv := qH ev
 have Hu2 := qH eu2
 have Hv2 := qH ev2
 have Hd := qH ed
 have Hee := qH eee
 have Hww := qH eww
 have He2 := qH ee2
 have He3 := qH ee3
 have Ht1 := qH et1
 have Ht2 := qH et2
 have Ht3 := qH et3
 have Ht4 := qH et4
 have Ht5 := qH et5
 have Ht := qH et
 have HX := qH eX
 have Hs1 := qH es1
 have Hs2 := qH es2
 have Hs3 := qH es3
 have Hs4 := qH es4
 have HY := qH eY
 have HZ := qH eZ
 clear eu ev eu2 ev2 ed eee eww ee2 ee3 et1 et2 et3 et4 et5 et eX es1 es2 es3 es4 eY eZ
 have HV := qH hv
 clear hv
 unfold rpV rpL
 have st0 := St.start Nob w
 go_enter Tryz.func68, Tryz.ntmps68
 go_wp2_with (with_reducible refine wSk 2 ?_)
 refine a0l st0 rfl rfl rfl (cw 4 (kN x1) ++ (cw 4 (kN y1) ++ cw 4 (kN z1))) rfl ?_
 intro g2 w1 st1
 clear st0
 go_wp2_with (with_reducible refine wSk 3 ?_)
 refine a0l st1 rfl rfl rfl (cw 4 (kN x2) ++ (cw 4 (kN y2) ++ cw 4 (kN z2))) rfl ?_
 intro g3 w2 st2
 clear st1
 go_wp2_with (with_reducible refine wSk 4 ?_)
 refine a0a st2 rfl rfl (z := zAc) ap14 (cw 12 0) ap12 ?_
 intro g4 w3 st3
 clear st2
 go_wp2_with (with_reducible refine wSk 16 ?_)
 refine a0p st3 0 rfl rfl rfl Tryz.underlying62 rfl rfl ap14 ?_
 go_wp2_with fail
 refine (d0M x1 y1 z1 false HB1.out _).mono ?_
 rintro e' w4 ⟨rfl, hf4⟩
 have st4 := st3.keep hf4
 clear st3 hf4
 go_wp2_with (with_reducible refine wSk 20 ?_)
 refine a0p st4 1 rfl rfl rfl Tryz.underlying62 rfl rfl ap14 ?_
 go_wp2_with fail
 refine (d0M x2 y2 z2 false HB2.out _).mono ?_
 rintro e' w5 ⟨rfl, hf5⟩
 have st5 := st4.keep hf5
 clear st4 hf5
 go_wp2_with fail
 refine wp_region_noPanic ?_
 refine a0e st5 7 [.o 6, .w 1, .t 2, .w 3, .t 4, .c 0, .c 5, .j 6] (.m 7 .nil) ap14 ap14 (fun _ _ _ _ _ h => h) ?_
 clear st5
 refine b0p rfl rfl rfl f0K (cw 4 0) rfl ?_
 try simp only [clL]
 refine a0m rfl rfl apX ?_
 try simp only [clL]
 refine a0d rfl rfl rfl (fun _ => rfl) (cw 4 (kN y2)) (fun wx hS => St.rangeL hS 1 rfl 4 _ (n0M _ _ _)) Tryz.underlying60 rfl ap14 ?_
 try simp only [clL]
 refine a0m rfl rfl apX ?_
 try simp only [clL]
 refine a0d rfl rfl rfl (fun _ => rfl) (cw 4 (kN z1)) (fun wx hS => St.rangeL hS 0 rfl 8 _ (g0y _ _ _)) Tryz.underlying60 rfl ap14 ?_
 try simp only [clL]
 refine a0c rfl rfl rfl Tryz.call112 (fun w hS hR => a0Q _) (fun _ => rfl) ?_
 try simp only [clL]
 refine a0c rfl rfl rfl Tryz.call58 (fun w hS hR => e0w y2 z1 u Hu.out _) (fun _ => rfl) ?_
 try simp only [clL]
 refine b0f List.mem_cons_self fun g6 => ?_
 simp only [upd, reduceIte]
 refine a0t fun xq w6 st6 hR => ?_
 try dsimp only
 clear hR xq
 refine a0q rfl rfl ?_
 refine a0h st6 3 rfl rfl rfl rfl ap13 ap14 (a0f _ _) ?_
 intro w7 st7
 repeat (first | simp only [List.cons_append] at st7 | simp only [List.nil_append] at st7 | simp only [List.set_cons_succ] at st7 | simp only [List.set_cons_zero] at st7)
 clear st6
 try simp only [Act.put]
 refine a0g ?_
 refine NoPanic.normal ?_
 go_wp2_with fail
 refine wp_region_noPanic ?_
 refine a0e st7 7 [.o 6, .w 1, .t 2, .w 3, .t 4, .c 0, .c 5, .j 6] (.m 7 .nil) ap14 ap14 (fun _ _ _ _ _ h => h) ?_
 clear st7
 refine b0p rfl rfl rfl f0K (cw 4 0) rfl ?_
 try simp only [clL]
 refine a0m rfl rfl apX ?_
 try simp only [clL]
 refine a0d rfl rfl rfl (fun _ => rfl) (cw 4 (kN x2)) (fun wx hS => St.rangeL hS 1 rfl 0 _ (l0U _ _ _)) Tryz.underlying60 rfl ap14 ?_
 try simp only [clL]
 refine a0m rfl rfl apX ?_
 try simp only [clL]
 refine a0d rfl rfl rfl (fun _ => rfl) (cw 4 (kN z1)) (fun wx hS => St.rangeL hS 0 rfl 8 _ (g0y _ _ _)) Tryz.underlying60 rfl ap14 ?_
 try simp only [clL]
 refine a0c rfl rfl rfl Tryz.call112 (fun w hS hR => a0Q _) (fun _ => rfl) ?_
 try simp only [clL]
 refine a0c rfl rfl rfl Tryz.call58 (fun w hS hR => e0w x2 z1 v Hv.out _) (fun _ => rfl) ?_
 try simp only [clL]
 refine b0f List.mem_cons_self fun g7 => ?_
 simp only [upd, reduceIte]
 refine a0t fun xq w8 st8 hR => ?_
 try dsimp only
 clear hR xq
 refine a0q rfl rfl ?_
 refine a0h st8 4 rfl rfl rfl rfl ap13 ap14 (a0f _ _) ?_
 intro w9 st9
 repeat (first | simp only [List.cons_append] at st9 | simp only [List.nil_append] at st9 | simp only [List.set_cons_succ] at st9 | simp only [List.set_cons_zero] at st9)
 clear st8
 try simp only [Act.put]
 refine a0g ?_
 refine NoPanic.normal ?_
 go_wp2_with fail
 refine wp_region_noPanic ?_
 refine a0e st9 7 [.o 6, .w 1, .t 2, .w 3, .t 4, .c 0, .c 5, .j 6] (.m 7 .nil) ap14 ap14 (fun _ _ _ _ _ h => h) ?_
 clear st9
 refine b0p rfl rfl rfl f0K (cw 4 0) rfl ?_
 try simp only [clL]
 refine a0m rfl rfl apX ?_
 try simp only [clL]
 refine a0d rfl rfl rfl (fun _ => rfl) (cw 4 (kN y1)) (fun wx hS => St.rangeL hS 0 rfl 4 _ (n0M _ _ _)) Tryz.underlying60 rfl ap14 ?_
 try simp only [clL]
 refine a0m rfl rfl apX ?_
 try simp only [clL]
 refine a0d rfl rfl rfl (fun _ => rfl) (cw 4 (kN z2)) (fun wx hS => St.rangeL hS 1 rfl 8 _ (g0y _ _ _)) Tryz.underlying60 rfl ap14 ?_
 try simp only [clL]
 refine a0c rfl rfl rfl Tryz.call112 (fun w hS hR => a0Q _) (fun _ => rfl) ?_
 try simp only [clL]
 refine a0c rfl rfl rfl Tryz.call58 (fun w hS hR => e0w y1 z2 u2 Hu2.out _) (fun _ => rfl) ?_
 try simp only [clL]
 refine b0f List.mem_cons_self fun g8 => ?_
 simp only [upd, reduceIte]
 refine a0t fun xq w10 st10 hR => ?_
 try dsimp only
 clear hR xq
 refine a0q rfl rfl ?_
 refine a0h st10 5 rfl rfl rfl rfl ap13 ap14 (a0f _ _) ?_
 intro w11 st11
 repeat (first | simp only [List.cons_append] at st11 | simp only [List.nil_append] at st11 | simp only [List.set_cons_succ] at st11 | simp only [List.set_cons_zero] at st11)
 clear st10
 try simp only [Act.put]
 refine a0g ?_
 refine NoPanic.normal ?_
 go_wp2_with fail
 refine wp_region_noPanic ?_
 refine a0e st11 7 [.o 6, .w 1, .t 2, .w 3, .t 4, .c 0, .c 5, .j 6] (.m 7 .nil) ap14 ap14 (fun _ _ _ _ _ h => h) ?_
 clear st11
 refine b0p rfl rfl rfl f0K (cw 4 0) rfl ?_
 try simp only [clL]
 refine a0m rfl rfl apX ?_
 try simp only [clL]
 refine a0d rfl rfl rfl (fun _ => rfl) (cw 4 (kN x1)) (fun wx hS => St.rangeL hS 0 rfl 0 _ (l0U _ _ _)) Tryz.underlying60 rfl ap14 ?_
 try simp only [clL]
 refine a0m rfl rfl apX ?_
 try simp only [clL]
 refine a0d rfl rfl rfl (fun _ => rfl) (cw 4 (kN z2)) (fun wx hS => St.rangeL hS 1 rfl 8 _ (g0y _ _ _)) Tryz.underlying60 rfl ap14 ?_
 try simp only [clL]
 refine a0c rfl rfl rfl Tryz.call112 (fun w hS hR => a0Q _) (fun _ => rfl) ?_
 try simp only [clL]
 refine a0c rfl rfl rfl Tryz.call58 (fun w hS hR => e0w x1 z2 v2 Hv2.out _) (fun _ => rfl) ?_
 try simp only [clL]
 refine b0f List.mem_cons_self fun g9 => ?_
 simp only [upd, reduceIte]
 refine a0t fun xq w12 st12 hR => ?_
 try dsimp only
 clear hR xq
 refine a0q rfl rfl ?_
 refine a0h st12 6 rfl rfl rfl rfl ap13 ap14 (a0f _ _) ?_
 intro w13 st13
 repeat (first | simp only [List.cons_append] at st13 | simp only [List.nil_append] at st13 | simp only [List.set_cons_succ] at st13 | simp only [List.set_cons_zero] at st13)
 clear st12
 try simp only [Act.put]
 refine a0g ?_
 refine NoPanic.normal ?_
 go_wp2_with (with_reducible refine wSk 48 ?_)
 refine a0k st13 4 rfl rfl rfl Tryz.underlying60 rfl ap14 ?_
 go_wp2_with (with_reducible refine wSk 49 ?_)
 refine a0k st13 6 rfl rfl rfl Tryz.underlying60 rfl ap14 ?_
 go_wp2_with (with_reducible refine wSk 50 ?_)
 refine f0g rfl (j0m v v2 rfl rfl rfl HV.out _) ?_
 go_wp2_with fail
 refine wp_region_noPanic ?_
 refine a0e st13 5 [.o 4, .t 1, .t 2, .c 0, .c 3, .j 4] (.m 5 .nil) ap14 ap14 (fun _ _ _ _ _ h => h) ?_
 clear st13
 refine b0p rfl rfl rfl f0K (cw 4 0) rfl ?_
 try simp only [clL]
 refine a0d rfl rfl rfl (fun _ => rfl) (cw 4 (kN u)) (fun wx hS => St.rangeL hS 3 rfl 0 _ dZl) Tryz.underlying60 rfl ap14 ?_
 try simp only [clL]
 refine a0d rfl rfl rfl (fun _ => rfl) (cw 4 (kN u2)) (fun wx hS => St.rangeL hS 5 rfl 0 _ dZl) Tryz.underlying60 rfl ap14 ?_
 try simp only [clL]
 refine a0c rfl rfl rfl Tryz.call112 (fun w hS hR => a0Q _) (fun _ => rfl) ?_
 try simp only [clL]
 refine a0c rfl rfl rfl Tryz.call137 (fun w hS hR => x0L u u2 d Hd.out _) (fun _ => rfl) ?_
 try simp only [clL]
 refine b0f List.mem_cons_self fun g10 => ?_
 simp only [upd, reduceIte]
 refine a0t fun xq w14 st14 hR => ?_
 try dsimp only
 clear hR xq
 refine a0q rfl rfl ?_
 refine a0h st14 7 rfl rfl rfl rfl ap13 ap14 (a0f _ _) ?_
 intro w15 st15
 repeat (first | simp only [List.cons_append] at st15 | simp only [List.nil_append] at st15 | simp only [List.set_cons_succ] at st15 | simp only [List.set_cons_zero] at st15)
 clear st14
 try simp only [Act.put]
 refine a0g ?_
 refine NoPanic.normal ?_
 go_wp2_with fail
 refine wp_region_noPanic ?_
 refine a0e st15 5 [.o 4, .t 1, .t 2, .c 0, .c 3, .j 4] (.m 5 .nil) ap14 ap14 (fun _ _ _ _ _ h => h) ?_
 clear st15
 refine b0p rfl rfl rfl f0K (cw 4 0) rfl ?_
 try simp only [clL]
 refine a0d rfl rfl rfl (fun _ => rfl) (cw 4 (kN v)) (fun wx hS => St.rangeL hS 4 rfl 0 _ dZl) Tryz.underlying60 rfl ap14 ?_
 try simp only [clL]
 refine a0d rfl rfl rfl (fun _ => rfl) (cw 4 (kN v2)) (fun wx hS => St.rangeL hS 6 rfl 0 _ dZl) Tryz.underlying60 rfl ap14 ?_
 try simp only [clL]
 refine a0c rfl rfl rfl Tryz.call112 (fun w hS hR => a0Q _) (fun _ => rfl) ?_
 try simp only [clL]
 refine a0c rfl rfl rfl Tryz.call137 (fun w hS hR => x0L v v2 ee Hee.out _) (fun _ => rfl) ?_
 try simp only [clL]
 refine b0f List.mem_cons_self fun g11 => ?_
 simp only [upd, reduceIte]
 refine a0t fun xq w16 st16 hR => ?_
 try dsimp only
 clear hR xq
 refine a0q rfl rfl ?_
 refine a0h st16 8 rfl rfl rfl rfl ap13 ap14 (a0f _ _) ?_
 intro w17 st17
 repeat (first | simp only [List.cons_append] at st17 | simp only [List.nil_append] at st17 | simp only [List.set_cons_succ] at st17 | simp only [List.set_cons_zero] at st17)
 clear st16
 try simp only [Act.put]
 refine a0g ?_
 refine NoPanic.normal ?_
 go_wp2_with fail
 refine wp_region_noPanic ?_
 refine a0e st17 7 [.o 6, .w 1, .t 2, .w 3, .t 4, .c 0, .c 5, .j 6] (.m 7 .nil) ap14 ap14 (fun _ _ _ _ _ h => h) ?_
 clear st17
 refine b0p rfl rfl rfl f0K (cw 4 0) rfl ?_
 try simp only [clL]
 refine a0m rfl rfl apX ?_
 try simp only [clL]
 refine a0d rfl rfl rfl (fun _ => rfl) (cw 4 (kN z1)) (fun wx hS => St.rangeL hS 0 rfl 8 _ (g0y _ _ _)) Tryz.underlying60 rfl ap14 ?_
 try simp only [clL]
 refine a0m rfl rfl apX ?_
 try simp only [clL]
 refine a0d rfl rfl rfl (fun _ => rfl) (cw 4 (kN z2)) (fun wx hS => St.rangeL hS 1 rfl 8 _ (g0y _ _ _)) Tryz.underlying60 rfl ap14 ?_
 try simp only [clL]
 refine a0c rfl rfl rfl Tryz.call112 (fun w hS hR => a0Q _) (fun _ => rfl) ?_
 try simp only [clL]
 refine a0c rfl rfl rfl Tryz.call58 (fun w hS hR => e0w z1 z2 ww Hww.out _) (fun _ => rfl) ?_
 try simp only [clL]
 refine b0f List.mem_cons_self fun g12 => ?_
 simp only [upd, reduceIte]
 refine a0t fun xq w18 st18 hR => ?_
 try dsimp only
 clear hR xq
 refine a0q rfl rfl ?_
 refine a0h st18 9 rfl rfl rfl rfl ap13 ap14 (a0f _ _) ?_
 intro w19 st19
 repeat (first | simp only [List.cons_append] at st19 | simp only [List.nil_append] at st19 | simp only [List.set_cons_succ] at st19 | simp only [List.set_cons_zero] at st19)
 clear st18
 try simp only [Act.put]
 refine a0g ?_
 refine NoPanic.normal ?_
 go_wp2_with fail
 refine wp_region_noPanic ?_
 refine a0e st19 5 [.o 4, .t 1, .t 2, .c 0, .c 3, .j 4] (.m 5 .nil) ap14 ap14 (fun _ _ _ _ _ h => h) ?_
 clear st19
 refine b0p rfl rfl rfl f0K (cw 4 0) rfl ?_
 try simp only [clL]
 refine a0d rfl rfl rfl (fun _ => rfl) (cw 4 (kN ee)) (fun wx hS => St.rangeL hS 8 rfl 0 _ dZl) Tryz.underlying60 rfl ap14 ?_
 try simp only [clL]
 refine a0d rfl rfl rfl (fun _ => rfl) (cw 4 (kN ee)) (fun wx hS => St.rangeL hS 8 rfl 0 _ dZl) Tryz.underlying60 rfl ap14 ?_
 try simp only [clL]
 refine a0c rfl rfl rfl Tryz.call112 (fun w hS hR => a0Q _) (fun _ => rfl) ?_
 try simp only [clL]
 refine a0c rfl rfl rfl Tryz.call58 (fun w hS hR => e0w ee ee e2 He2.out _) (fun _ => rfl) ?_
 try simp only [clL]
 refine b0f List.mem_cons_self fun g13 => ?_
 simp only [upd, reduceIte]
 refine a0t fun xq w20 st20 hR => ?_
 try dsimp only
 clear hR xq
 refine a0q rfl rfl ?_
 refine a0h st20 10 rfl rfl rfl rfl ap13 ap14 (a0f _ _) ?_
 intro w21 st21
 repeat (first | simp only [List.cons_append] at st21 | simp only [List.nil_append] at st21 | simp only [List.set_cons_succ] at st21 | simp only [List.set_cons_zero] at st21)
 clear st20
 try simp only [Act.put]
 refine a0g ?_
 refine NoPanic.normal ?_
 go_wp2_with fail
 refine wp_region_noPanic ?_
 refine a0e st21 5 [.o 4, .t 1, .t 2, .c 0, .c 3, .j 4] (.m 5 .nil) ap14 ap14 (fun _ _ _ _ _ h => h) ?_
 clear st21
 refine b0p rfl rfl rfl f0K (cw 4 0) rfl ?_
 try simp only [clL]
 refine a0d rfl rfl rfl (fun _ => rfl) (cw 4 (kN e2)) (fun wx hS => St.rangeL hS 10 rfl 0 _ dZl) Tryz.underlying60 rfl ap14 ?_
 try simp only [clL]
 refine a0d rfl rfl rfl (fun _ => rfl) (cw 4 (kN ee)) (fun wx hS => St.rangeL hS 8 rfl 0 _ dZl) Tryz.underlying60 rfl ap14 ?_
 try simp only [clL]
 refine a0c rfl rfl rfl Tryz.call112 (fun w hS hR => a0Q _) (fun _ => rfl) ?_
 try simp only [clL]
 refine a0c rfl rfl rfl Tryz.call58 (fun w hS hR => e0w e2 ee e3 He3.out _) (fun _ => rfl) ?_
 try simp only [clL]
 refine b0f List.mem_cons_self fun g14 => ?_
 simp only [upd, reduceIte]
 refine a0t fun xq w22 st22 hR => ?_
 try dsimp only
 clear hR xq
 refine a0q rfl rfl ?_
 refine a0h st22 11 rfl rfl rfl rfl ap13 ap14 (a0f _ _) ?_
 intro w23 st23
 repeat (first | simp only [List.cons_append] at st23 | simp only [List.nil_append] at st23 | simp only [List.set_cons_succ] at st23 | simp only [List.set_cons_zero] at st23)
 clear st22
 try simp only [Act.put]
 refine a0g ?_
 refine NoPanic.normal ?_
 go_wp2_with fail
 refine wp_region_noPanic ?_
 refine a0e st23 20 [.o 19, .t 4, .t 5, .t 7, .t 9, .t 13, .t 14, .t 16, .c 0, .c 1, .c 2, .c 3, .c 6, .c 8, .c 10, .c 11, .c 12, .c 15, .c 17, .c 18, .j 19] (.m 20 .nil) ap14 ap14 (fun _ _ _ _ _ h => h) ?_
 clear st23
 refine b0p rfl rfl rfl f0K (cw 4 0) rfl ?_
 try simp only [clL]
 refine a0d rfl rfl rfl (fun _ => rfl) (cw 4 (kN d)) (fun wx hS => St.rangeL hS 7 rfl 0 _ dZl) Tryz.underlying60 rfl ap14 ?_
 try simp only [clL]
 refine a0d rfl rfl rfl (fun _ => rfl) (cw 4 (kN d)) (fun wx hS => St.rangeL hS 7 rfl 0 _ dZl) Tryz.underlying60 rfl ap14 ?_
 try simp only [clL]
 refine a0d rfl rfl rfl (fun _ => rfl) (cw 4 (kN ww)) (fun wx hS => St.rangeL hS 9 rfl 0 _ dZl) Tryz.underlying60 rfl ap14 ?_
 try simp only [clL]
 refine a0d rfl rfl rfl (fun _ => rfl) (cw 4 (kN e3)) (fun wx hS => St.rangeL hS 11 rfl 0 _ dZl) Tryz.underlying60 rfl ap14 ?_
 try simp only [clL]
 refine a0d rfl rfl rfl (fun _ => rfl) (cw 4 (kN v2)) (fun wx hS => St.rangeL hS 6 rfl 0 _ dZl) Tryz.underlying60 rfl ap14 ?_
 try simp only [clL]
 refine a0d rfl rfl rfl (fun _ => rfl) (cw 4 (kN v2)) (fun wx hS => St.rangeL hS 6 rfl 0 _ dZl) Tryz.underlying60 rfl ap14 ?_
 try simp only [clL]
 refine a0d rfl rfl rfl (fun _ => rfl) (cw 4 (kN e2)) (fun wx hS => St.rangeL hS 10 rfl 0 _ dZl) Tryz.underlying60 rfl ap14 ?_
 try simp only [clL]
 refine a0c rfl rfl rfl Tryz.call112 (fun w hS hR => a0Q _) (fun _ => rfl) ?_
 try simp only [clL]
 refine a0c rfl rfl rfl Tryz.call112 (fun w hS hR => a0Q _) (fun _ => rfl) ?_
 try simp only [clL]
 refine a0c rfl rfl rfl Tryz.call112 (fun w hS hR => a0Q _) (fun _ => rfl) ?_
 try simp only [clL]
 refine a0c rfl rfl rfl Tryz.call112 (fun w hS hR => a0Q _) (fun _ => rfl) ?_
 try simp only [clL]
 refine a0c rfl rfl rfl Tryz.call58 (fun w hS hR => e0w d d t1 Ht1.out _) (fun _ => rfl) ?_
 try simp only [clL]
 refine a0c rfl rfl rfl Tryz.call58 (fun w hS hR => e0w t1 ww t2 Ht2.out _) (fun _ => rfl) ?_
 try simp only [clL]
 refine a0c rfl rfl rfl Tryz.call137 (fun w hS hR => x0L t2 e3 t3 Ht3.out _) (fun _ => rfl) ?_
 try simp only [clL]
 refine a0c rfl rfl rfl Tryz.call112 (fun w hS hR => a0Q _) (fun _ => rfl) ?_
 try simp only [clL]
 refine a0c rfl rfl rfl Tryz.call112 (fun w hS hR => a0Q _) (fun _ => rfl) ?_
 try simp only [clL]
 refine a0c rfl rfl rfl Tryz.call57 (fun w hS hR => A0Z v2 v2 t4 Ht4.out _) (fun _ => rfl) ?_
 try simp only [clL]
 refine a0c rfl rfl rfl Tryz.call58 (fun w hS hR => e0w t4 e2 t5 Ht5.out _) (fun _ => rfl) ?_
 try simp only [clL]
 refine a0c rfl rfl rfl Tryz.call137 (fun w hS hR => x0L t3 t5 t Ht.out _) (fun _ => rfl) ?_
 try simp only [clL]
 refine b0f List.mem_cons_self fun g15 => ?_
 simp only [upd, reduceIte]
 refine a0t fun xq w24 st24 hR => ?_
 try dsimp only
 clear hR xq
 refine a0q rfl rfl ?_
 refine a0h st24 12 rfl rfl rfl rfl ap13 ap14 (a0f _ _) ?_
 intro w25 st25
 repeat (first | simp only [List.cons_append] at st25 | simp only [List.nil_append] at st25 | simp only [List.set_cons_succ] at st25 | simp only [List.set_cons_zero] at st25)
 clear st24
 try simp only [Act.put]
 refine a0g ?_
 refine NoPanic.normal ?_
 go_wp2_with fail
 refine wp_region_noPanic ?_
 refine a0e st25 25 [.t 1, .t 2, .t 6, .t 9, .t 10, .t 12, .t 16, .t 17, .t 21, .t 22, .c 0, .c 3, .c 4, .c 5, .c 7, .c 8, .c 11, .c 13, .c 14, .c 15, .c 18, .c 19, .c 20, .c 23, .w 24] (.m 25 .nil) ap14 ap14 (fun _ _ _ _ _ h => h) ?_
 clear st25
 refine a0d rfl rfl rfl (fun _ => rfl) (cw 4 (kN ee)) (fun wx hS => St.rangeL hS 8 rfl 0 _ dZl) Tryz.underlying60 rfl ap14 ?_
 try simp only [clL]
 refine a0d rfl rfl rfl (fun _ => rfl) (cw 4 (kN t)) (fun wx hS => St.rangeL hS 12 rfl 0 _ dZl) Tryz.underlying60 rfl ap14 ?_
 try simp only [clL]
 refine a0d rfl rfl rfl (fun _ => rfl) (cw 4 (kN d)) (fun wx hS => St.rangeL hS 7 rfl 0 _ dZl) Tryz.underlying60 rfl ap14 ?_
 try simp only [clL]
 refine a0d rfl rfl rfl (fun _ => rfl) (cw 4 (kN v2)) (fun wx hS => St.rangeL hS 6 rfl 0 _ dZl) Tryz.underlying60 rfl ap14 ?_
 try simp only [clL]
 refine a0d rfl rfl rfl (fun _ => rfl) (cw 4 (kN e2)) (fun wx hS => St.rangeL hS 10 rfl 0 _ dZl) Tryz.underlying60 rfl ap14 ?_
 try simp only [clL]
 refine a0d rfl rfl rfl (fun _ => rfl) (cw 4 (kN t)) (fun wx hS => St.rangeL hS 12 rfl 0 _ dZl) Tryz.underlying60 rfl ap14 ?_
 try simp only [clL]
 refine a0d rfl rfl rfl (fun _ => rfl) (cw 4 (kN u2)) (fun wx hS => St.rangeL hS 5 rfl 0 _ dZl) Tryz.underlying60 rfl ap14 ?_
 try simp only [clL]
 refine a0d rfl rfl rfl (fun _ => rfl) (cw 4 (kN e3)) (fun wx hS => St.rangeL hS 11 rfl 0 _ dZl) Tryz.underlying60 rfl ap14 ?_
 try simp only [clL]
 refine a0d rfl rfl rfl (fun _ => rfl) (cw 4 (kN e3)) (fun wx hS => St.rangeL hS 11 rfl 0 _ dZl) Tryz.underlying60 rfl ap14 ?_
 try simp only [clL]
 refine a0d rfl rfl rfl (fun _ => rfl) (cw 4 (kN ww)) (fun wx hS => St.rangeL hS 9 rfl 0 _ dZl) Tryz.underlying60 rfl ap14 ?_
 try simp only [clL]
 refine a0c rfl rfl rfl Tryz.call112 (fun w hS hR => a0Q _) (fun _ => rfl) ?_
 try simp only [clL]
 refine a0c rfl rfl rfl Tryz.call58 (fun w hS hR => e0w ee t X HX.out _) (fun _ => rfl) ?_
 try simp only [clL]
 refine a0c rfl rfl rfl Tryz.call112 (fun w hS hR => a0Q _) (fun _ => rfl) ?_
 try simp only [clL]
 refine a0c rfl rfl rfl Tryz.call112 (fun w hS hR => a0Q _) (fun _ => rfl) ?_
 try simp only [clL]
 refine a0c rfl rfl rfl Tryz.call112 (fun w hS hR => a0Q _) (fun _ => rfl) ?_
 try simp only [clL]
 refine a0c rfl rfl rfl Tryz.call112 (fun w hS hR => a0Q _) (fun _ => rfl) ?_
 try simp only [clL]
 refine a0c rfl rfl rfl Tryz.call58 (fun w hS hR => e0w v2 e2 s1 Hs1.out _) (fun _ => rfl) ?_
 try simp only [clL]
 refine a0c rfl rfl rfl Tryz.call137 (fun w hS hR => x0L s1 t s2 Hs2.out _) (fun _ => rfl) ?_
 try simp only [clL]
 refine a0c rfl rfl rfl Tryz.call58 (fun w hS hR => e0w d s2 s3 Hs3.out _) (fun _ => rfl) ?_
 try simp only [clL]
 refine a0c rfl rfl rfl Tryz.call112 (fun w hS hR => a0Q _) (fun _ => rfl) ?_
 try simp only [clL]
 refine a0c rfl rfl rfl Tryz.call58 (fun w hS hR => e0w u2 e3 s4 Hs4.out _) (fun _ => rfl) ?_
 try simp only [clL]
 refine a0c rfl rfl rfl Tryz.call137 (fun w hS hR => x0L s3 s4 Y HY.out _) (fun _ => rfl) ?_
 try simp only [clL]
 refine a0c rfl rfl rfl Tryz.call112 (fun w hS hR => a0Q _) (fun _ => rfl) ?_
 try simp only [clL]
 refine a0c rfl rfl rfl Tryz.call58 (fun w hS hR => e0w e3 ww Z HZ.out _) (fun _ => rfl) ?_
 try simp only [clL]
 refine a0m rfl rfl (fun _ => b0A rfl _ (h0X _ _ _)) ?_
 try simp only [clL]
 refine a0t fun xq w26 st26 hR => ?_
 try dsimp only
 clear hR xq
 refine a0q rfl rfl ?_
 refine a0h st26 2 rfl rfl rfl rfl ap13 ap14 (b0i _ _ _) ?_
 intro w27 st27
 try simp only [List.set_cons_zero, List.set_cons_succ] at st27
 clear st26
 try simp only [Act.put]
 refine a0g ?_
 refine NoPanic.normal ?_
 have hr := st27.at 2 rfl
 have hfr := st27.fr
 clear st27
 go_wp2_with fail
 exact bodyPost_ret (a0r rfl rfl hr Tryz.underlying62 rfl ap14) rfl ⟨rfl, hfr⟩
end
section
open Go.RowKit Go.Mv Mvp Mvq
structure RT where
 x : K
 y : K
 z : K
 on : onC (nm x y z)
def RT.pt (s : RT) : Pt := nm s.x s.y s.z
def RT.L (s : RT) : List Value := rpL s.x s.y s.z
theorem e0R (x y z : K) : (rpL x y z).length = 12 := by simp [rpL, a0i]
theorem RT.len (s : RT) : s.L.length = 12 := e0R _ _ _
theorem RT.one (s : RT) : ∀ v ∈ s.L, v.oneCell' = true := b0i _ _ _
theorem RT.onP (s : RT) : onC s.pt := s.on
theorem r0P (x y z : K) (ho : onC (nm x y z)) (hz : z ≠ 0) : ∃ X Y Z, nm X Y Z = a0T (nm x y z) (nm x y z) ∧ ∀ wx, Calls Tryz.prog 136 #[rpV x y z] wx fun e w' => e = .returned (rpV X Y Z) ∧ Fr Nob wx w' := by
 refine ⟨_, _, _, ?_, fun wx => u0K x y z _ _ _ _ _ _ _ _ _ _ _ _ _ _ _ _ _ _ _ rfl rfl rfl rfl rfl rfl rfl rfl rfl rfl rfl rfl rfl rfl rfl rfl rfl rfl rfl wx⟩
 exact n0h ho hz (x * x) _ _ _ _ _ rfl (by grind -lia -linarith) (by grind -lia -linarith) rfl rfl (by grind -lia -linarith)
theorem x0M (x1 y1 z1 x2 y2 z2 : K) (ho1 : onC (nm x1 y1 z1)) (ho2 : onC (nm x2 y2 z2)) : ∃ X Y Z, nm X Y Z = a0T (nm x1 y1 z1) (nm x2 y2 z2) ∧ ∀ wx, Calls Tryz.prog 68 #[rpV x1 y1 z1, rpV x2 y2 z2] wx fun e w' => e = .returned (rpV X Y Z) ∧ Fr Nob wx w' := by
 by_cases hz1 : z1 = 0
 ·exact ⟨x2, y2, z2, by rw [B0M hz1]; rfl, fun wx => o0W x1 y1 z1 x2 y2 z2 (by simpa using hz1) wx⟩
 ·by_cases hz2 : z2 = 0
  ·exact ⟨x1, y1, z1, by rw [B0M hz2, b0w], fun wx => o0X x1 y1 z1 x2 y2 z2 (by simpa using hz1) (by simpa using hz2) wx⟩
  ·by_cases hv : x2 * z1 = x1 * z2
   ·have hs := A0w ho1 ho2 hz1 hz2 hv
    by_cases hu : y2 * z1 = y1 * z2
    ·obtain ⟨X, Y, Z, h1, h2⟩ := r0P x1 y1 z1 ho1 hz1
     refine ⟨X, Y, Z, by rw [h1, hs.1 hu], fun wx => u0N x1 y1 z1 x2 y2 z2 (by simpa using hz1) (by simpa using hz2) _ _ _ _ rfl rfl rfl rfl (by simpa using hv) (by simpa using hu) (by simpa using hs.2.2) X Y Z h2 wx⟩
    ·exact ⟨0, 1, 0, by rw [B0M rfl, hs.2.1 hu], fun wx => u0L x1 y1 z1 x2 y2 z2 (by simpa using hz1) (by simpa using hz2) _ _ _ _ rfl rfl rfl rfl (by simpa using hv) (by simpa using hu) wx⟩
   ·refine ⟨_, _, _, ?_, fun wx => B0e x1 y1 z1 x2 y2 z2 (by simpa using hz1) (by simpa using hz2) _ _ _ _ _ _ _ _ _ _ _ _ _ _ _ _ _ _ _ _ _ _ rfl rfl rfl rfl rfl rfl rfl rfl rfl rfl rfl rfl rfl rfl rfl rfl rfl rfl rfl rfl rfl rfl (by simpa using hv) wx⟩
    exact t0P ho1 ho2 hz1 hz2 (y2 * z1) (x2 * z1) (y1 * z2) (x1 * z2) _ _ _ _ _ _ rfl rfl rfl rfl rfl rfl (fun h => hv (by
     have h2 : x2 * z1 - x1 * z2 + x1 * z2 = 0 + x1 * z2 := by rw [h]
     grind -lia -linarith)) rfl rfl rfl (by grind -lia -linarith)
theorem o0Y (s t : RT) : ∃ r : RT, r.pt = a0T s.pt t.pt ∧ ∀ wx, Calls Tryz.prog 68 #[.agg s.L.toArray, .agg t.L.toArray] wx fun e w' => e = .returned (.agg r.L.toArray) ∧ Fr Nob wx w' := by
 obtain ⟨X, Y, Z, h1, h2⟩ := x0M s.x s.y s.z t.x t.y t.z s.on t.on
 exact ⟨⟨X, Y, Z, by rw [h1]; exact c0r s.on t.on⟩, h1, h2⟩
noncomputable def e0S (s t : RT) : RT := Classical.choose (o0Y s t)
theorem l0I (s t : RT) : (e0S s t).pt = a0T s.pt t.pt := (Classical.choose_spec (o0Y s t)).1
theorem o0Z (s t : RT) (w : World) : Calls Tryz.prog 68 #[.agg s.L.toArray, .agg t.L.toArray] w fun e w' => e = .returned (.agg (e0S s t).L.toArray) ∧ Fr Nob w w' := (Classical.choose_spec (o0Y s t)).2 w
def noR : RT := ⟨0, 1, 0, by rw [B0M rfl]; trivial⟩
theorem z0d : noR.pt = .O := B0M rfl
theorem u0O (w : World) : Calls Tryz.prog 95 #[] w fun e w' => e = .returned (.agg noR.L.toArray) ∧ Fr Nob w w' := n0u w
def RT.isO (s : RT) : Bool := decide (s.z = 0)
theorem RT.isO_t {s : RT} (h : s.isO = true) : s.pt = .O := B0M (by simpa [RT.isO] using h)
theorem z0e (x y : K) : nm x y 1 = .A x y := r0E ap15 (by grind -lia -linarith) (by grind -lia -linarith)
def E0k (x y : K) (h : onC (.A x y)) : RT := ⟨x, y, 1, by rw [z0e]; exact h⟩
theorem u0P (x y : K) (h : onC (.A x y)) : (E0k x y h).pt = .A x y := z0e x y
theorem q0x (p x : Nat) : b0G p (x % p) = b0G p x := by
 unfold b0G rtN
 rw [Nat.mul_mod, Nat.pow_mod, Nat.mod_mod, ← Nat.pow_mod, ← Nat.mul_mod]
theorem B0f (x : Nat) : kc (rtV fP (x % fP)) = kc (rtV fP x) := by
 have h : rtN fP (x % fP) % fP = rtN fP x % fP := by unfold rtN; rw [← Nat.pow_mod]
 have hk : kc (rtN fP (x % fP)) = kc (rtN fP x) := by rw [← e0t, h, e0t]
 unfold rtV
 rw [h]
 split
 ·rfl
 ·exact hk
noncomputable def f0T (n : Nat) (s : RT) : Nat → RT
 | 0 => noR
 | k + 1 => if n / 2 ^ (255 - k) % 2 = 1 then e0S (e0S (f0T n s k) (f0T n s k)) s else e0S (f0T n s k) (f0T n s k)
theorem u0Q (n : Nat) (s : RT) (k : Nat) : f0T n s (k + 1) = if n / 2 ^ (255 - k) % 2 = 1 then e0S (e0S (f0T n s k) (f0T n s k)) s else e0S (f0T n s k) (f0T n s k) := rfl
theorem u0R (n : Nat) (s : RT) : f0T n s 0 = noR := rfl
theorem u0S (n : Nat) (hn : n < 2 ^ 256) (s : RT) : ∀ k, k ≤ 256 → (f0T n s k).pt = a0E (n / 2 ^ (256 - k)) s.pt
 | 0, _ => by
  show noR.pt = _
  rw [z0d, Nat.sub_zero, Nat.div_eq_of_lt hn]
  rfl
 | k + 1, h => by
  have ih := u0S n hn s k ap16
  have hb := q0h s.on n (255 - k)
  rw [show 256 - (k + 1) = 255 - k by omega]
  rw [show 256 - k = 255 - k + 1 by omega] at ih
  show _ = a0E (n / 2 ^ (255 - k)) (nm s.x s.y s.z)
  rw [hb]
  show (if n / 2 ^ (255 - k) % 2 = 1 then e0S (e0S (f0T n s k) (f0T n s k)) s else e0S (f0T n s k) (f0T n s k)).pt = _
  by_cases h1 : n / 2 ^ (255 - k) % 2 = 1
  ·rw [if_pos h1, if_pos h1, l0I, l0I, ih]; rfl
  ·rw [if_neg h1, if_neg h1, l0I, ih, b0w]; rfl
noncomputable def b0U (n : Nat) (s : RT) : RT := f0T n s 256
theorem u0T (n : Nat) (hn : n < 2 ^ 256) (s : RT) : (b0U n s).pt = a0E n s.pt := by
 have := u0S n hn s 256 (Nat.le_refl _)
 rwa [Nat.sub_self, Nat.pow_zero, Nat.div_one] at this
end
section
open Go.RowKit Go.Mv Mvp Mvq
attribute [local irreducible] a0C lw mix cw b0k b0y b0j a0M a0n beN b0F a0P b0C a0J a0R elN mdL a0S rtV b0G kN kc c0u a0H e0S noR b0U f0T RT.L
theorem x0N (n : Nat) (s : RT) (w : World) : Calls Tryz.prog 69 #[i4 n, .agg s.L.toArray] w fun e w' => e = .returned (.agg (b0U n s).L.toArray) ∧ Fr Nob w w' := by
 unfold b0U
 have st0 := St.start Nob w
 go_enter Tryz.func69, Tryz.ntmps69
 go_wp2_with (with_reducible refine wSk 2 ?_)
 refine a0l st0 rfl rfl rfl (cw 4 n) rfl ?_
 intro g2 w1 st1
 clear st0
 go_wp2_with (with_reducible refine wSk 3 ?_)
 refine a0l st1 rfl rfl rfl (s.L) rfl ?_
 intro g3 w2 st2
 clear st1
 go_wp2_with (with_reducible refine wSk 4 ?_)
 refine a0a st2 rfl rfl (z := zAc) ap14 (cw 12 0) ap12 ?_
 intro g4 w3 st3
 clear st2
 go_wp2_with fail
 refine (u0O _).mono ?_
 rintro e' w4 ⟨rfl, hf4⟩
 have st4 := st3.keep hf4
 clear st3 hf4
 go_wp2_with (with_reducible refine wSk 5 ?_)
 refine a0a st4 rfl rfl (z := zAc) ap14 (cw 12 0) ap12 ?_
 intro g5 w5 st5
 clear st4
 go_wp2_with (with_reducible refine wSn ?_)
 refine a0b st5 3 rfl rfl rfl rfl rfl (by first | (simp [a0i]; done) | (simp [RT.len]; done) | (simp [a0i, RT.len]; done) | simp [a0i, RT.len]) ap14 (RT.one _) ?_
 intro w6 st6
 clear st5
 go_wp2
 go_loopw [6] (fun i wr => ∃ k : Nat, k ≤ 256 ∧ i = .int .i64 (255 - (k : Int)) ∧ St Nob w wr [(g2, cw 4 n, 60), (g3, s.L, 62), (g4, cw 12 0, 62), (g5, (f0T n s k).L, 62)]) (fun i _ => (intOf i + 1).toNat)
 case atStart => exact ⟨0, by omega, rfl, by rw [u0R]; exact st6⟩
 case round =>
  obtain ⟨k, hk, rfl, st⟩ := hrel
  clear st6
  rcases Nat.lt_or_ge k 256 with hk2 | hk2
  ·have hge : (0 : Int) ≤ 255 - (k : Int) := by omega
   have hrec := u0Q n s k
   generalize hT' : f0T n s (k + 1) = T' at *
   have HT' := qH hT'
   clear hT'
   generalize f0T n s k = T at *
   have hbit := fun wx => g0q n (255 - k) wx ap16
   rw [show (((255 - k : Nat)) : Int) = 255 - (k : Int) by omega] at hbit
   have hb2 : n / 2 ^ (255 - k) % 2 < 2 := Nat.mod_lt _ ap15
   generalize n / 2 ^ (255 - k) % 2 = b at *
   have HREC := qH hrec
   have HBIT := qH hbit
   clear hrec hbit
   go_wp2_with (with_reducible refine wSk 12 ?_)
   refine a0p st 3 rfl rfl rfl Tryz.underlying62 rfl rfl ap14 ?_
   go_wp2_with (with_reducible refine wSk 13 ?_)
   refine a0p st 3 rfl rfl rfl Tryz.underlying62 rfl rfl ap14 ?_
   go_wp2_with fail
   refine (o0Z T T _).mono ?_
   rintro e' w7 ⟨rfl, hf7⟩
   have st7 := st.keep hf7
   clear st hf7
   go_wp2_with (with_reducible refine wSn ?_)
   refine a0b st7 3 rfl rfl rfl rfl rfl (by simp [RT.len]) ap14 (RT.one _) ?_
   intro w8 st8
   clear st7
   go_wp2_with (with_reducible refine wSk 15 ?_)
   refine a0k st8 0 rfl rfl rfl Tryz.underlying60 rfl ap14 ?_
   go_wp2_with fail
   refine (HBIT.out _).mono ?_
   rintro e' w9 ⟨rfl, hf9⟩
   have st9 := st8.keep hf9
   clear st8 hf9
   obtain rfl | rfl : b = 0 ∨ b = 1 := by omega
   ·have HE := qH (show T' = e0S T T by rw [HREC.out]; rfl)
    clear hb2
    go_wp2
    go_roundw
    case rel => exact ⟨k + 1, by omega, by go_num, by rw [HT'.out, HE.out]; exact st9⟩
    case measure => simp [intOf]; omega
   ·have HE := qH (show T' = e0S (e0S T T) s by rw [HREC.out]; rfl)
    clear hb2
    go_wp2_with (with_reducible refine wSk 19 ?_)
    refine a0p st9 3 rfl rfl rfl Tryz.underlying62 rfl rfl ap14 ?_
    go_wp2_with (with_reducible refine wSk 20 ?_)
    refine a0p st9 1 rfl rfl rfl Tryz.underlying62 rfl rfl ap14 ?_
    go_wp2_with fail
    refine (o0Z (e0S T T) s _).mono ?_
    rintro e' w10 ⟨rfl, hf10⟩
    have st10 := st9.keep hf10
    clear st9 hf10
    go_wp2_with (with_reducible refine wSn ?_)
    refine a0b st10 3 rfl rfl rfl rfl rfl (by simp [RT.len]) ap14 (RT.one _) ?_
    intro w11 st11
    clear st10
    go_wp2
    go_roundw
    case rel => exact ⟨k + 1, by omega, by go_num, by rw [HT'.out, HE.out]; exact st11⟩
    case measure => simp [intOf]; omega
  ·have hk3 : k = 256 := by omega
   subst hk3
   have hge : ¬ ((0 : Int) ≤ 255 - ((256 : Nat) : Int)) := by omega
   go_wp2_with (with_reducible refine wSk 22 ?_)
   refine a0p st 3 rfl rfl rfl Tryz.underlying62 rfl rfl ap14 ?_
   go_wp2_with (with_reducible refine wSn ?_)
   refine a0b st 2 rfl rfl rfl rfl rfl (by first | (simp [a0i]; done) | (simp [RT.len]; done) | (simp [a0i, RT.len]; done) | simp [a0i, RT.len]) ap14 (RT.one _) ?_
   intro w7 st7
   clear st
   have hr := st7.at 2 rfl
   have hfr := st7.fr
   clear st7
   go_wp2_with fail
   exact bodyPost_ret (a0r rfl rfl hr Tryz.underlying62 rfl ap14) rfl ⟨rfl, hfr⟩
theorem D0k (x : K) (xx x3 cv : K) (exx : x * x = xx) (ex3 : xx * x = x3) (ecv : x3 + 7 = cv) (hr : b0G fP (kN cv) = true) (w : World) : Calls Tryz.prog 141 #[i4 (kN x)] w fun e w' => e = .returned (.tuple #[rpV x (kc (rtV fP (kN cv))) 1, .bool true]) ∧ Fr Nob w w' := by
 have HR := qH hr
 clear hr
 have Hxx := qH exx
 have Hx3 := qH ex3
 have Hcv := qH ecv
 clear exx ex3 ecv
 unfold rpV rpL
 have st0 := St.start Nob w
 go_enter Tryz.func141, Tryz.ntmps141
 go_wp2_with (with_reducible refine wSk 1 ?_)
 refine a0l st0 rfl rfl rfl (cw 4 (kN x)) rfl ?_
 intro g1 w1 st1
 clear st0
 go_wp2_with (with_reducible refine wSk 2 ?_)
 refine a0a st1 rfl rfl (z := zAc) ap14 (cw 12 0) ap12 ?_
 intro g2 w2 st2
 clear st1
 go_wp2_with fail
 refine wp_region_noPanic ?_
 refine a0e st2 17 [.o 15, .t 4, .t 5, .t 7, .c 0, .c 1, .c 2, .c 3, .c 6, .c 8, .c 9, .c 10, .c 11, .w 12, .w 13, .w 14, .j 15] (.r 16 (.m 17 .nil)) ap14 ap14 (fun _ _ _ _ _ h => h) ?_
 clear st2
 refine b0p rfl rfl rfl f0K (cw 4 0) rfl ?_
 try simp only [clL]
 refine a0d rfl rfl rfl (fun _ => rfl) (cw 4 (kN x)) (fun wx hS => St.rangeL hS 0 rfl 0 _ dZl) Tryz.underlying60 rfl ap14 ?_
 try simp only [clL]
 refine a0d rfl rfl rfl (fun _ => rfl) (cw 4 (kN x)) (fun wx hS => St.rangeL hS 0 rfl 0 _ dZl) Tryz.underlying60 rfl ap14 ?_
 try simp only [clL]
 refine a0d rfl rfl rfl (fun _ => rfl) (cw 4 (kN x)) (fun wx hS => St.rangeL hS 0 rfl 0 _ dZl) Tryz.underlying60 rfl ap14 ?_
 try simp only [clL]
 refine a0c rfl rfl rfl Tryz.call112 (fun w hS hR => a0Q _) (fun _ => rfl) ?_
 try simp only [clL]
 refine a0c rfl rfl rfl Tryz.call112 (fun w hS hR => a0Q _) (fun _ => rfl) ?_
 try simp only [clL]
 refine a0c rfl rfl rfl Tryz.call112 (fun w hS hR => a0Q _) (fun _ => rfl) ?_
 try simp only [clL]
 refine a0c rfl rfl rfl Tryz.call112 (fun w hS hR => a0Q _) (fun _ => rfl) ?_
 try simp only [clL]
 refine a0c rfl rfl rfl Tryz.call58 (fun w hS hR => e0w x x xx Hxx.out _) (fun _ => rfl) ?_
 try simp only [clL]
 refine a0c rfl rfl rfl Tryz.call58 (fun w hS hR => e0w xx x x3 Hx3.out _) (fun _ => rfl) ?_
 try simp only [clL]
 refine a0c rfl rfl rfl Tryz.call156 (fun w hS hR => u0H _) (fun _ => rfl) ?_
 try simp only [clL]
 refine a0c rfl rfl rfl Tryz.call57 (fun w hS hR => A0Z x3 7 cv Hcv.out _) (fun _ => rfl) ?_
 try simp only [clL]
 refine a0c rfl rfl rfl Tryz.call186 (fun w hS hR => B0a (kN cv) (u0G _) HR.out _) (fun _ => rfl) ?_
 try simp only [clL]
 iterate 3 (refine a0m rfl rfl apX ?_; try simp only [clL])
 refine b0f List.mem_cons_self fun g4 => ?_
 simp only [upd, reduceIte]
 refine a0t fun xq w3 st3 hR => ?_
 try dsimp only
 clear hR xq
 refine a0w rfl rfl ?_
 refine a0h st3 2 rfl rfl rfl rfl ap13 ap14 (a0f _ _) ?_
 intro w4 st4
 repeat (first | simp only [List.cons_append] at st4 | simp only [List.nil_append] at st4 | simp only [List.set_cons_succ] at st4 | simp only [List.set_cons_zero] at st4)
 clear st3
 refine ⟨by first | exact st4 | exact St.less st4 ap17, ?_⟩
 try simp only [Act.put]
 refine a0q rfl rfl ?_
 go_simp
 try simp only [clL]
 refine a0g ?_
 refine NoPanic.normal ?_
 go_wp2_with fail
 refine wp_region_noPanic ?_
 refine a0e st4 5 [.t 0, .t 1, .w 4, .c 2, .w 3] (.m 5 (.w 6 .nil)) ap14 ap14 (fun _ _ _ _ _ h => h) ?_
 clear st4
 refine a0d rfl rfl rfl (fun _ => rfl) (cw 4 (kN x)) (fun wx hS => St.rangeL hS 0 rfl 0 _ dZl) Tryz.underlying60 rfl ap14 ?_
 try simp only [clL]
 refine a0d rfl rfl rfl (fun _ => rfl) (cw 4 (kN (kc (rtV fP (kN cv))))) (fun wx hS => St.rangeL hS 2 rfl 0 _ dZl) Tryz.underlying60 rfl ap14 ?_
 try simp only [clL]
 refine a0m rfl rfl apX ?_
 try simp only [clL]
 refine a0c rfl rfl rfl Tryz.call156 (fun w hS hR => o0V _) (fun _ => rfl) ?_
 try simp only [clL]
 refine a0m rfl rfl (fun _ => b0A rfl _ (h0X _ _ _)) ?_
 try simp only [clL]
 refine a0t fun xq w5 st5 hR => ?_
 try dsimp only
 clear hR xq
 refine a0q rfl rfl ?_
 refine a0h st5 1 rfl rfl rfl rfl ap13 ap14 (b0i _ _ _) ?_
 intro w6 st6
 try simp only [List.set_cons_zero, List.set_cons_succ] at st6
 clear st5
 try simp only [Act.put]
 refine a0j rfl rfl apW ?_
 try simp only [clL]
 refine a0g ?_
 refine NoPanic.normal ?_
 have hr := st6.at 1 rfl
 have hfr := st6.fr
 clear st6
 go_wp2_with fail
 exact bodyPost_ret (a0U rfl rfl hr Tryz.underlying62 rfl ap14 rfl) rfl ⟨rfl, hfr⟩
theorem E0l (x : K) (xx x3 cv : K) (exx : x * x = xx) (ex3 : xx * x = x3) (ecv : x3 + 7 = cv) (hr : b0G fP (kN cv) = false) (w : World) : Calls Tryz.prog 141 #[i4 (kN x)] w fun e w' => e = .returned (.tuple #[rpV x (0) 1, .bool false]) ∧ Fr Nob w w' := by
 have HR := qH hr
 clear hr
 have Hxx := qH exx
 have Hx3 := qH ex3
 have Hcv := qH ecv
 clear exx ex3 ecv
 unfold rpV rpL
 have st0 := St.start Nob w
 go_enter Tryz.func141, Tryz.ntmps141
 go_wp2_with (with_reducible refine wSk 1 ?_)
 refine a0l st0 rfl rfl rfl (cw 4 (kN x)) rfl ?_
 intro g1 w1 st1
 clear st0
 go_wp2_with (with_reducible refine wSk 2 ?_)
 refine a0a st1 rfl rfl (z := zAc) ap14 (cw 12 0) ap12 ?_
 intro g2 w2 st2
 clear st1
 go_wp2_with fail
 refine wp_region_noPanic ?_
 refine a0e st2 17 [.o 15, .t 4, .t 5, .t 7, .c 0, .c 1, .c 2, .c 3, .c 6, .c 8, .c 9, .c 10, .c 11, .w 12, .w 13, .w 14, .j 15] (.r 16 (.m 17 .nil)) ap14 ap14 (fun _ _ _ _ _ h => h) ?_
 clear st2
 refine b0p rfl rfl rfl f0K (cw 4 0) rfl ?_
 try simp only [clL]
 refine a0d rfl rfl rfl (fun _ => rfl) (cw 4 (kN x)) (fun wx hS => St.rangeL hS 0 rfl 0 _ dZl) Tryz.underlying60 rfl ap14 ?_
 try simp only [clL]
 refine a0d rfl rfl rfl (fun _ => rfl) (cw 4 (kN x)) (fun wx hS => St.rangeL hS 0 rfl 0 _ dZl) Tryz.underlying60 rfl ap14 ?_
 try simp only [clL]
 refine a0d rfl rfl rfl (fun _ => rfl) (cw 4 (kN x)) (fun wx hS => St.rangeL hS 0 rfl 0 _ dZl) Tryz.underlying60 rfl ap14 ?_
 try simp only [clL]
 refine a0c rfl rfl rfl Tryz.call112 (fun w hS hR => a0Q _) (fun _ => rfl) ?_
 try simp only [clL]
 refine a0c rfl rfl rfl Tryz.call112 (fun w hS hR => a0Q _) (fun _ => rfl) ?_
 try simp only [clL]
 refine a0c rfl rfl rfl Tryz.call112 (fun w hS hR => a0Q _) (fun _ => rfl) ?_
 try simp only [clL]
 refine a0c rfl rfl rfl Tryz.call112 (fun w hS hR => a0Q _) (fun _ => rfl) ?_
 try simp only [clL]
 refine a0c rfl rfl rfl Tryz.call58 (fun w hS hR => e0w x x xx Hxx.out _) (fun _ => rfl) ?_
 try simp only [clL]
 refine a0c rfl rfl rfl Tryz.call58 (fun w hS hR => e0w xx x x3 Hx3.out _) (fun _ => rfl) ?_
 try simp only [clL]
 refine a0c rfl rfl rfl Tryz.call156 (fun w hS hR => u0H _) (fun _ => rfl) ?_
 try simp only [clL]
 refine a0c rfl rfl rfl Tryz.call57 (fun w hS hR => A0Z x3 7 cv Hcv.out _) (fun _ => rfl) ?_
 try simp only [clL]
 refine a0c rfl rfl rfl Tryz.call186 (fun w hS hR => B0b (kN cv) (u0G _) HR.out _) (fun _ => rfl) ?_
 try simp only [clL]
 iterate 3 (refine a0m rfl rfl apX ?_; try simp only [clL])
 refine b0f List.mem_cons_self fun g4 => ?_
 simp only [upd, reduceIte]
 refine a0t fun xq w3 st3 hR => ?_
 try dsimp only
 clear hR xq
 refine a0w rfl rfl ?_
 refine a0h st3 2 rfl rfl rfl rfl ap13 ap14 (a0f _ _) ?_
 intro w4 st4
 repeat (first | simp only [List.cons_append] at st4 | simp only [List.nil_append] at st4 | simp only [List.set_cons_succ] at st4 | simp only [List.set_cons_zero] at st4)
 clear st3
 refine ⟨by first | exact st4 | exact St.less st4 ap17, ?_⟩
 try simp only [Act.put]
 refine a0q rfl rfl ?_
 go_simp
 try simp only [clL]
 refine a0g ?_
 refine NoPanic.normal ?_
 go_wp2_with fail
 refine wp_region_noPanic ?_
 refine a0e st4 5 [.t 0, .t 1, .w 4, .c 2, .w 3] (.m 5 (.w 6 .nil)) ap14 ap14 (fun _ _ _ _ _ h => h) ?_
 clear st4
 refine a0d rfl rfl rfl (fun _ => rfl) (cw 4 (kN x)) (fun wx hS => St.rangeL hS 0 rfl 0 _ dZl) Tryz.underlying60 rfl ap14 ?_
 try simp only [clL]
 refine a0d rfl rfl rfl (fun _ => rfl) (cw 4 (kN 0)) (fun wx hS => St.rangeL hS 2 rfl 0 _ dZl) Tryz.underlying60 rfl ap14 ?_
 try simp only [clL]
 refine a0m rfl rfl apX ?_
 try simp only [clL]
 refine a0c rfl rfl rfl Tryz.call156 (fun w hS hR => o0V _) (fun _ => rfl) ?_
 try simp only [clL]
 refine a0m rfl rfl (fun _ => b0A rfl _ (h0X _ _ _)) ?_
 try simp only [clL]
 refine a0t fun xq w5 st5 hR => ?_
 try dsimp only
 clear hR xq
 refine a0q rfl rfl ?_
 refine a0h st5 1 rfl rfl rfl rfl ap13 ap14 (b0i _ _ _) ?_
 intro w6 st6
 try simp only [List.set_cons_zero, List.set_cons_succ] at st6
 clear st5
 try simp only [Act.put]
 refine a0j rfl rfl apW ?_
 try simp only [clL]
 refine a0g ?_
 refine NoPanic.normal ?_
 have hr := st6.at 1 rfl
 have hfr := st6.fr
 clear st6
 go_wp2_with fail
 exact bodyPost_ret (a0U rfl rfl hr Tryz.underlying62 rfl ap14 rfl) rfl ⟨rfl, hfr⟩
end
end Go.Proofs.YtemcankmggmgoaaGreat
