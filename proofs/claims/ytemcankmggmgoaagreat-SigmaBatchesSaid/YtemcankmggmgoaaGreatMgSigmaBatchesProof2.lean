/- ; ; ; ; ; ; ; ; ; ; ; ; ; ; ; ; ; ; ; ; ; ; . -/
import Derived.Test.YtemcankmggmgoaaGreatMgSigmaBatchesProof1
import Derived.Laws.Tables
import Derived.Great.BuildSlice
import Derived.SliceStrings
import Derived.SizedLaws
import Derived.OpenShut
import Derived.ProofKit
import Derived.Shelf.Spec.BitsCarry
import Derived.Shelf.Bits.Mul64
import Derived.Test.YtemcankmggmgoaaGreatProg
import Derived.KernelRfl
import Derived.RegionTactic
set_option maxHeartbeats 16000000
set_option maxRecDepth 1000000
open Go.Proofs.Tryz

namespace Go.Proofs.YtemcankmggmgoaaGreat
open Go.RowKit Go.Mv Mvp
theorem a0W : (prog.info? 241).map (·.zero) = some (some (.agg (bs (List.replicate 136 0)).toArray)) := by kernel_rfl
def abs (st : List UInt64 × Nat) : List Value := ws st.1 ++ [.int .i64 (st.2 : Int)]
theorem h0w (st : List UInt64 × Nat) : (abs st).length = st.1.length + 1 := by simp [abs, bW]
theorem tI (st : List UInt64 × Nat) (h : st.1.length = 25) : (abs st)[25]? = some (.int .i64 (st.2 : Int)) := by
 rw [abs, List.getElem?_append_right (by rw [bW, h]; omega), bW, h]; rfl
theorem h0x (S : List UInt64) (k n : Nat) (h : S.length = 25) : (abs (S, k)).set 25 (.int .i64 (n : Int)) = abs (S, n) := by
 rw [abs, List.set_append_right _ _ (by rw [bW, h]; omega), bW, h]; rfl
theorem h0y (S : List UInt64) : dD (aW 24) (fun r => rcP r 8) S 24 = cO S := by unfold cO; rfl
theorem tJ (S : List UInt64) (k : Nat) : ws S ++ [Value.int .i64 (k : Int)] = abs (S, k) := by unfold abs; rfl
attribute [local irreducible] cO dD toB aW
theorem oA (g : Nat) (S : List UInt64) (k : Nat) (w : World) (hS : S.length = 25) (hg : Has w g (abs (S, k)) 234) :
  Calls prog 201 #[.pointer (some ⟨g, 0, none⟩)] w fun e w' => e = .returned (.tuple #[]) ∧ Has w' g (abs (cO S, k)) 234 ∧ Fr (One g) w w' := by
 rw [← tJ] at hg
 refine (c0F g S [.int .i64 (k : Int)] 234 w hS hg).mono ?_
 rintro e w' ⟨h1, h2, h3⟩
 rw [h0y, tJ] at h2
 exact ⟨h1, h2, h3⟩
theorem k0x (k p : Nat) (l : List UInt8) (hl : l.length = p) (h : k + p ≤ 136) : splice (bs (List.replicate 136 0)) k (bs l) = bs (List.replicate k 0 ++ l ++ List.replicate (136 - k - p) 0) := by
 unfold splice
 rw [bP, hl, mB, c0s, ← jF, ← jF, List.append_assoc]
 rw [List.take_replicate, Nat.min_eq_left Ab, List.drop_replicate, Nat.sub_sub]
def n0U : Value → Nat
 | .slice _ n _ => n
 | _ => 0
theorem tK (g : Nat) (st : List UInt64 × Nat) (b : Option Addr) (n c : Nat) (l : List UInt8) (w : World) (hS : st.1.length = 25) (hat : st.2 < 136) (hn : n ≤ 1000000) (hnc : n ≤ c) (hg : Has w g (abs st) 234) (hb : RdB w b n l) (hbg : Off (One g) b) :
  Calls prog 192 #[.pointer (some ⟨g, 0, none⟩), .slice b n c] w fun e w' => e = .returned (.tuple #[]) ∧ Has w' g (abs (eU st l)) 234 ∧ Fr (One g) w w' := by
 go_enter func192, ntmps192
 go_wp2_with fail
 have hll := hb.len
 go_loopw [1] (fun v wr => ∃ (sj : List UInt64 × Nat) (r : List UInt8) (m : Nat) (a : Option Addr) (cc : Nat), v = .slice a m cc ∧ m ≤ cc ∧ m ≤ 1000000 ∧ RdB wr a m r ∧ Off (One g) a ∧ Has wr g (abs sj) 234 ∧ sj.2 < 136 ∧ sj.1.length = 25 ∧ eU sj r = eU st l ∧ Fr (One g) w wr) (fun v _ => n0U v)
 case atStart => exact ⟨st, l, n, b, c, rfl, hnc, hn, hb, hbg, hg, hat, hS, rfl, Fr.refl _ _⟩
 case round =>
  obtain ⟨⟨S, k⟩, r, m, a, cc, rfl, hcc, hmb, hra, hoa, hgj, hkj, hSj, hfe, hf⟩ := hrel
  clear hg hb hbg hat hS hll hn hnc
  simp only at hkj hSj
  have HF := qH hfe; clear hfe
  by_cases hlt : 0 < m
  ·have hc25 : wr.cell? ⟨g, 25, none⟩ = some (.int .i64 (k : Int)) := hgj.cell (tI (S, k) hSj)
   have hf25 : wr.frozen? ⟨g, 25, none⟩ = false := hgj.free _ (by rw [h0w]; simp only; omega)
   have HS := qH hSj; clear hSj
   go_wp2_with (with_reducible refine AA 16 ?_)
   obtain ⟨p, hp, hp1, hp2, hp3⟩ : ∃ p : Nat, (if 136 - (k : Int) < (m : Int) then 136 - (k : Int) else (m : Int)) = (p : Int) ∧ p ≤ m ∧ k + p ≤ 136 ∧ (p = m ∨ k + p = 136) := by
    refine ⟨min m (136 - k), ?_, by omega, by omega, by omega⟩
    split <;> omega
   refine q0j rfl rfl rfl rfl p hp ?_
   clear hp
   have HP := qH hp3; clear hp3
   go_wp2_with (with_reducible refine nW (o := ⟨_, .alloc 241, _, _, _, _⟩) ?_)
   refine kZ rfl rfl a0W (bs (List.replicate 136 0)) Ay ?_
   intro w1 hp1' hf1 hz1
   have hg1 := hgj.keep hf1 id
   have hr1 := hra.still hf1
   have hc1 : w1.cell? ⟨g, 25, none⟩ = some (.int .i64 (k : Int)) := hf1.cell id hc25
   have hgp : g < wr.heap.size := hgj.lt
   have hfr1 := hf.same hf1
   have hpw : w.heap.size ≤ wr.heap.size := hf.size
   have hra0 : Off (One wr.heap.size) a := fun x hx (e : x.block = wr.heap.size) => by
    obtain ⟨bb, o, rfl, hat⟩ := Rd.at hra hlt
    have := Rd.lt hra hlt
    simp only [Option.some.injEq] at hx
    subst hx
    simp at e
    omega
   generalize wr.heap.size = gp at *
   clear hgj hra hc25 hf25 hf1 hz1
   have hk136 : k < 136 := hkj
   go_wp2_with fail
   have e1 : ∀ wx, (Instr.sliceAt 241 (.pointer (some ⟨gp, 0, none⟩)) (some (.int .i64 (k : Int))) none none).run prog wx = .ok (.slice (some ⟨gp, k, none⟩) (136 - k) (136 - k)) wx := fun wx => by
    have := oS wx underlying241 eQ gp 0 .i64 k hk136
    rwa [Nat.zero_add] at this
   have e2 : ∀ wx, (Instr.sliceAt 22 (.slice a m cc) none (some (.int .i64 (p : Int))) none).run prog wx = .ok (.slice a p cc) wx := fun wx => fF wx underlying22 eQ a m cc .i64 p Ab
   refine wp_region_still_tail 8 Aa Aa ?_
   simp only [List.take_succ_cons, List.take_zero, List.drop_succ_cons, List.drop_zero]
   repeat still_step
   refine wpStill_nil ?_
   show wpList _ _ _ _ _ w1.drew
   have hrp : Rd w1.drew a p (bs (r.take p)) := by
    have hlen := hr1.len
    refine ⟨by rw [bP, List.length_take]; omega, hr1.2.imp (fun h0 => by omega) ?_⟩
    rintro ⟨b, o, rfl, hc⟩
    refine ⟨b, o, rfl, fun i v hv => ?_⟩
    have := hc i v
    rw [← mB, List.getElem?_take] at hv
    split at hv
    ·exact hc i v hv
    ·cases hv
   refine g0X rfl rfl underlying22 eQ rfl rfl (hp1'.drew) hrp (wM _) (by rw [bP, List.length_replicate]; omega) ?_
   intro w2 hp2' hf2 hz2
   have hmin : min p (136 - k) = p := by omega
   have hrl : (r.take p).length = p := by rw [List.length_take, hr1.len]; omega
   rw [hmin, List.take_of_length_le (by rw [bP, hrl]; exact Nat.le_refl _), k0x k p _ hrl hp2] at hp2'
   have hg2 := hg1.drew.keep hf2 (fun (h : g = gp) => by omega)
   have hr2 : RdB w2 a m r := hr1.keep ((Fr.refl (One gp) w1).drew.trans hf2 (fun _ _ t => t)) hra0
   have hfr2 : Fr (One g) w w2 := (hfr1.drew).new hf2 hpw
   have hgp2 := hp2'.lt
   clear hp1' hg1 hr1 hc1 hfr1 hf2 hz2 hrp e1 e2 hmin
   go_wp2_with fail
   have hc2 : w2.cell? ⟨g, 25, none⟩ = some (.int .i64 (k : Int)) := hg2.cell (tI (S, k) HS.out)
   have e3 : ∀ wx, (Instr.sliceAt 241 (.pointer (some ⟨gp, 0, none⟩)) none (some (.int .i64 ((k : Int) + (p : Int)))) none).run prog wx = .ok (.slice (some ⟨gp, 0, none⟩) (k + p) 136) wx := fun wx =>
    lB wx underlying241 eQ gp 0 .i64 (k + p) hp2
   have e4 : IntKind.i64.wrap ((k : Int) + (p : Int)) = (k : Int) + (p : Int) := IntWalk.i64_in _ Ab
   refine wp_region_still_tail 10 Aa Aa ?_
   simp only [List.take_succ_cons, List.take_zero, List.drop_succ_cons, List.drop_zero]
   repeat still_step
   refine wpStill_nil ?_
   show wpList _ _ _ _ _ w2.drew
   go_wp2_with fail
   have hrd : RdB w2.drew (some ⟨gp, 0, none⟩) (k + p) (List.replicate k 0 ++ r.take p) := by
    have := Rd.ofHas hp2'.drew 0 (n := k + p) (by rw [bP, List.length_append, List.length_append, List.length_replicate, List.length_replicate, hrl]; omega)
    rw [List.drop_zero, mB, List.take_left' (by simp [hrl])] at this
    exact this
   refine (h0i g S [.int .i64 (k : Int)] 234 _ (k + p) _ _ _ HS.out Ab hg2.drew hrd (fun x hx (e : x.block = g) => by simp only [Option.some.injEq] at hx; subst hx; simp at e; omega)).mono ?_
   rintro e w3 ⟨rfl, hg3, hf3, hz3⟩
   have hxb : oN S (List.replicate k 0 ++ r.take p) (k + p) = gH S k (r.take p) := by
    have := wP S k (r.take p) []
    rwa [List.append_nil, hrl] at this
   rw [hxb] at hg3
   have hr3 : RdB w3 a m r := hr2.keep ((Fr.refl (One g) w2).drew.trans hf3 (fun _ _ t => t)) hoa
   have hfr3 : Fr (One g) w w3 := hfr2.drew.trans hf3 (fun _ _ t => t)
   have hSl : (gH S k (r.take p)).length = 25 := by rw [tD, HS.out]
   have hfeed : eU (eU (S, k) (r.take p)) (r.drop p) = eU st l := by rw [← jG, List.take_append_drop]; exact HF.out
   clear hg2 hr2 hfr2 hp2' hgp2 hc2 e3 e4 hrd hf3 hz3 hxb
   have hc3 : w3.cell? ⟨g, 25, none⟩ = some (.int .i64 (k : Int)) := hg3.cell (tI (_, k) hSl)
   have hf3 : w3.frozen? ⟨g, 25, none⟩ = false := hg3.free _ (by rw [List.length_append, bW, hSl]; simp)
   generalize hxs : gH S k (r.take p) = S3 at *
   have HXS := qH hxs; clear hxs
   have HFE := qH hfeed; clear hfeed
   have HSL := qH hSl; clear hSl
   have HRL := qH hrl; clear hrl
   go_wp2_with (with_reducible refine AA 47 ?_)
   refine qZ rfl rfl underlying22 eQ rfl p m ⟨_, rfl⟩ rfl hp1 hcc ?_
   have hg4 : Has (w3.setCell ⟨g, 25, none⟩ (.int .i64 ((k + p : Nat) : Int))) g (abs (S3, k + p)) 234 := by
    have := hg3.set 25 (.int .i64 ((k + p : Nat) : Int))
    rw [show ws S3 ++ [Value.int .i64 (k : Int)] = abs (S3, k) from rfl, h0x _ _ _ HSL.out] at this
    exact this
   have hr4 : RdB (w3.setCell ⟨g, 25, none⟩ (.int .i64 ((k + p : Nat) : Int))) (fY a p cc) (m - p) (r.drop p) := by
    have h1 := hr3.keep ((Fr.refl (One g) w3).setCell g 25 none (.int .i64 ((k + p : Nat) : Int)) (fun _ => rfl)) hoa
    have h2 := yK h1 p m cc hp1 hcc (Nat.le_refl _)
    rw [c0s, mB] at h2
    rwa [List.take_of_length_le (by rw [List.length_drop, h1.len]; exact Nat.le_refl _)] at h2
   have hfr4 : Fr (One g) w (w3.setCell ⟨g, 25, none⟩ (.int .i64 ((k + p : Nat) : Int))) := hfr3.setCell g 25 none _ (fun _ => rfl)
   have hoff4 := h0f hoa p cc
   have hsp : Value.int .i64 ((k : Int) + (p : Int)) = .int .i64 ((k + p : Nat) : Int) := by simp
   simp only [Int.natCast_add] at hg4 hr4 hfr4
   generalize w3.setCell ⟨g, 25, none⟩ (.int .i64 ((k : Int) + (p : Int))) = w4 at *
   clear hsp hg3 hr3 hfr3 hc3 hf3
   by_cases hfull : k + p = 136
   ·have hfb : ((k : Int) + (p : Int) == 136) = true := by rw [beq_iff_eq]; omega
    have HFULL := qH hfull; clear hfull
    have hc4 : w4.cell? ⟨g, 25, none⟩ = some (.int .i64 ((k : Int) + (p : Int))) := hg4.cell (tI (S3, k + p) HSL.out)
    go_wp2_with fail
    refine (oA g S3 (k + p) _ HSL.out hg4).mono ?_
    rintro e w5 ⟨rfl, hg5', hf5⟩
    have hr5 := hr4.keep hf5 hoff4
    have hfr5 : Fr (One g) w w5 := hfr4.trans hf5 (fun _ _ t => t)
    have hpl : (cO S3).length = 25 := by rw [oO, HSL.out]
    have hc5 : w5.cell? ⟨g, 25, none⟩ = some (.int .i64 ((k + p : Nat) : Int)) := hg5'.cell (tI (_, k + p) hpl)
    have hf5f : w5.frozen? ⟨g, 25, none⟩ = false := hg5'.free _ (by rw [h0w]; simp only; omega)
    clear hg4 hr4 hfr4 hc4 hf5
    have HPL := qH hpl; clear hpl
    go_wp2_with fail
    go_roundw
    case rel =>
     have e : eU (S, k) (r.take p) = (cO S3, 0) := by rw [tE _ _ _ (by rw [HRL.out]; exact HFULL.out) hkj, HXS.out]
     have h2 := HFE.out
     rw [e] at h2
     have hg6 := hg5'.set 25 (.int .i64 ((0 : Nat) : Int))
     rw [h0x _ _ _ HPL.out] at hg6
     exact ⟨(cO S3, 0), r.drop p, m - p, fY a p cc, cc - p, rfl, by omega, by omega, hr5.keep ((Fr.refl (One g) w5).setCell g 25 none _ (fun _ => rfl)) hoff4, hoff4, hg6, by simp, HPL.out, h2, hfr5.setCell g 25 none _ (fun _ => rfl)⟩
    case measure => have := HP.out; simp [n0U]; omega
   ·have hfb : ((k : Int) + (p : Int) == 136) = false := by rw [beq_eq_false_iff_ne]; omega
    have hc4 : w4.cell? ⟨g, 25, none⟩ = some (.int .i64 ((k : Int) + (p : Int))) := hg4.cell (tI (S3, k + p) HSL.out)
    have hlt136 : k + p < 136 := by omega
    go_wp2_with fail
    go_roundw
    case rel =>
     have e : eU (S, k) (r.take p) = (S3, k + p) := by rw [f0D _ _ _ (by rw [HRL.out]; exact hlt136), HXS.out, HRL.out]
     have h2 := HFE.out
     rw [e] at h2
     exact ⟨(S3, k + p), r.drop p, m - p, fY a p cc, cc - p, rfl, by omega, by omega, hr4, hoff4, hg4, hlt136, HSL.out, h2, hfr4⟩
    case measure => have := HP.out; simp [n0U]; omega
  ·have hge : ¬ 0 < m := hlt
   have hm0 : m = 0 := by omega
   have hr0 : r = [] := List.eq_nil_of_length_eq_zero (by rw [hra.len, hm0])
   have HR := qH hr0; clear hr0 hm0
   go_wp2_with fail
   go_end0
   have h2 := HF.out
   rw [HR.out, rW] at h2
   exact ⟨rfl, by rw [← h2]; exact hgj, hf⟩
end Go.Proofs.YtemcankmggmgoaaGreat
namespace Go.Mv
open Go.RowKit
variable {P : Program}
theorem d0W {w : World} {ops : Array Oper} {rest : List Oper} {o : Oper} {a : Act} {Q : Exit → Act → World → Prop} {t : TypeId} {parts : Array (Nat × Operand)} (hgd : o.guard = none) (ho : o.op = .build t parts) (cells : Array Value)
  (hb : P.built t (parts.map fun (i, x) => (i, a.eval x)).toList = some cells) (h : wpList P ops Q rest (a.put o.dst (.agg cells)) w) : wpList P ops Q (o :: rest) a w := by
 refine wpList_plain hgd fun K hK => ?_
 have hr := run_build (P := P) w t (parts.map fun (i, x) => (i, a.eval x)) cells hb
 unfold Oper.wp execOp
 simp only [ho, Sem.run_bind, Sem.run_pure, Result.andThen_ok, hr]
 exact hK _ _ h
theorem gI {w : World} {ops : Array Oper} {rest : List Oper} {o : Oper} {a : Act} {Q : Exit → Act → World → Prop} {t : TypeId} (hgd : o.guard = none) (ho : o.op = .build t #[]) (cells : Array Value)
  (hb : P.built t [] = some cells) (h : wpList P ops Q rest (a.put o.dst (.agg cells)) w) : wpList P ops Q (o :: rest) a w :=
 d0W hgd ho cells (by simpa using hb) h
def Old (w : World) (a : Option Addr) : Prop := ∀ x, a = some x → x.block < w.heap.size
theorem Old.grow {w w' : World} {a : Option Addr} (h : Old w a) (hs : w.heap.size ≤ w'.heap.size) : Old w' a := fun x hx => Nat.lt_of_lt_of_le (h x hx) hs
theorem Old.off {w : World} {a : Option Addr} (h : Old w a) {g : Nat} (hg : w.heap.size ≤ g) : Off (One g) a := fun x hx (e : x.block = g) => by have := h x hx; omega
theorem Old.none (w : World) : Old w .none := fun _ h => by cases h
theorem Old.has {w : World} {g : Nat} {L : List Value} {T : TypeId} (h : Has w g L T) (o : Nat) : Old w (some ⟨g, o, .none⟩) := fun x hx => by cases hx; exact h.lt
theorem wR {w : World} {ops : Array Oper} {rest : List Oper} {o : Oper} {a : Act} {Q : Exit → Act → World → Prop} {e : TypeId} {x : Operand} (hgd : o.guard = none) (ho : o.op = .box e x) {v : Value} (hx : a.eval x = v) (L : List Value) (hL : v.cells.toList = L)
  (h : ∀ w', Has w' w.heap.size L e → Fr Nob w w' → w'.heap.size = w.heap.size + 1 → wpList P ops Q rest (a.put o.dst (.pointer (some ⟨w.heap.size, 0, none⟩))) w') : wpList P ops Q (o :: rest) a w := by
 refine wpList_plain hgd fun K hK => ?_
 have hr : (Instr.box e v).run P w = .ok (.pointer (some ⟨w.heap.size, 0, none⟩)) (w.alloc (.cells v.cells e)) := by
  simp [Instr.box, newVar, newRow]
 unfold Oper.wp execOp
 simp only [ho, hx, Sem.run_bind, Sem.run_pure, Result.andThen_ok, hr]
 refine hK _ _ (h _ ?_ ((Fr.refl _ w).alloc _) Ae)
 have := Has.new w v.cells e
 rwa [hL] at this
theorem h0z {w : World} {ops : Array Oper} {rest : List Oper} {o : Oper} {a : Act} {Q : Exit → Act → World → Prop} {t e : TypeId} {y0 y1 y2 y3 : Operand} (hgd : o.guard = none) (ho : o.op = .buildSlice t 4 #[(0, y0), (1, y1), (2, y2), (3, y3)])
  (hu : P.underlying t = some (.slice e)) (hi0 : (P.info? e).map (fun i => (i.zero, i.size, i.bytes)) = some (some (.int .u8 0), 1, 1)) (x0 x1 x2 x3 : UInt8)
  (h0 : a.eval y0 = .int .u8 (x0.toNat : Int)) (h1 : a.eval y1 = .int .u8 (x1.toNat : Int)) (h2 : a.eval y2 = .int .u8 (x2.toNat : Int)) (h3 : a.eval y3 = .int .u8 (x3.toNat : Int))
  (h : ∀ w', Has w' w.heap.size (bs [x0, x1, x2, x3]) e → Fr Nob w w' → w'.heap.size = w.heap.size + 1 → wpList P ops Q rest (a.put o.dst (.slice (some ⟨w.heap.size, 0, none⟩) 4 4)) w') : wpList P ops Q (o :: rest) a w := by
 obtain ⟨i, hi, hz⟩ : ∃ i, P.info? e = some i ∧ (i.zero, i.size, i.bytes) = (some (.int .u8 0), 1, 1) := by simpa using hi0
 simp only [Prod.mk.injEq] at hz
 obtain ⟨hz, hsz, hby⟩ := hz
 have hp : ((#[(0, y0), (1, y1), (2, y2), (3, y3)] : Array (Nat × Operand)).map fun (i, x) => (i, a.eval x)).toList = [(0, .int .u8 (x0.toNat : Int)), (1, .int .u8 (x1.toNat : Int)), (2, .int .u8 (x2.toNat : Int)), (3, .int .u8 (x3.toNat : Int))] := by simp [h0, h1, h2, h3]
 have hf : Instr.fill (fun j => some (j * i.size, i.size)) ((Array.range (4 * i.size)).map ((Value.int .u8 0).cells[· % (Value.int .u8 0).cells.size]!)) ((#[(0, y0), (1, y1), (2, y2), (3, y3)] : Array (Nat × Operand)).map fun (i, x) => (i, a.eval x)).toList = some (bs [x0, x1, x2, x3]).toArray := by
  rw [hp, hsz]
  exact Great.fill_flat (bs [x0, x1, x2, x3]) _ (fun v hv => by simp [bs] at hv; rcases hv with rfl | rfl | rfl | rfl <;> rfl) (by simp [bs])
 exact wpList_buildSlice hgd t e 4 _ ho _ i _ hu hi hz (by rw [hsz]; decide) (by rw [hsz]; decide) hf (h _ (Has.new w (bs [x0, x1, x2, x3]).toArray e) ((Fr.refl _ w).alloc _) Ae)
theorem m0J {w : World} {ops : Array Oper} {rest : List Oper} {o : Oper} {a : Act} {Q : Exit → Act → World → Prop} {t e : TypeId} {y : Operand} (hgd : o.guard = none) (ho : o.op = .buildSlice t 1 #[(0, y)])
  (hu : P.underlying t = some (.slice e)) (hi0 : (P.info? e).map (fun i => (i.zero, i.size, i.bytes)) = some (some (.int .u8 0), 1, 1)) (x0 : UInt8)
  (hy : a.eval y = .int .u8 (x0.toNat : Int))
  (h : ∀ w', Has w' w.heap.size (bs [x0]) e → Fr Nob w w' → w'.heap.size = w.heap.size + 1 → wpList P ops Q rest (a.put o.dst (.slice (some ⟨w.heap.size, 0, none⟩) 1 1)) w') : wpList P ops Q (o :: rest) a w := by
 obtain ⟨i, hi, hz⟩ : ∃ i, P.info? e = some i ∧ (i.zero, i.size, i.bytes) = (some (.int .u8 0), 1, 1) := by simpa using hi0
 simp only [Prod.mk.injEq] at hz
 obtain ⟨hz, hsz, hby⟩ := hz
 have hp : ((#[(0, y)] : Array (Nat × Operand)).map fun (i, x) => (i, a.eval x)).toList = [(0, .int .u8 (x0.toNat : Int))] := by simp [hy]
 have hf : Instr.fill (fun j => some (j * i.size, i.size)) ((Array.range (1 * i.size)).map ((Value.int .u8 0).cells[· % (Value.int .u8 0).cells.size]!)) ((#[(0, y)] : Array (Nat × Operand)).map fun (i, x) => (i, a.eval x)).toList = some (bs [x0]).toArray := by
  rw [hp, hsz]
  exact Great.fill_flat (bs [x0]) _ (fun v hv => by simp [bs] at hv; subst hv; rfl) (by simp [bs])
 exact wpList_buildSlice hgd t e 1 _ ho _ i _ hu hi hz (by rw [hsz]; decide) (by rw [hsz]; decide) hf (h _ (Has.new w (bs [x0]).toArray e) ((Fr.refl _ w).alloc _) Ae)
theorem Own.cells {w : World} {base : Nat} {T : TypeId} {v : Value} {n : Nat} {L : List Value} (h : Own w base T 1 v n L) (hn : 0 < n) :
  ∃ g o cap, v = .slice (some ⟨g, o, none⟩) n cap ∧ base ≤ g ∧ g < w.heap.size ∧ n ≤ cap ∧ cap ≤ maxLen ∧ (∀ i x, L[i]? = some x → w.cell? ⟨g, o + i, none⟩ = some x) ∧ (∀ i, i < n → w.frozen? ⟨g, o + i, none⟩ = false) ∧
   (∀ i x, i < n → Own (w.setCell ⟨g, o + i, none⟩ x) base T 1 v n (L.set i x)) := by
 obtain ⟨hl, h | ⟨g, o, cap, B, rfl, hb, hg, h1, h2, h3, h4⟩⟩ := h
 ·obtain ⟨_, h0⟩ := h; omega
 ·rw [Nat.mul_one] at h3 h4 hl
  refine ⟨g, o, cap, rfl, hb, hg.lt, h1, h2, ?_, ?_, ?_⟩
  ·intro i x hx
   rw [← h4, List.getElem?_take] at hx
   split at hx
   ·rw [List.getElem?_drop] at hx; exact hg.cell hx
   ·cases hx
  ·intro i hi; exact hg.free _ Ab
  ·intro i x hi
   refine ⟨by rw [List.length_set, hl, Nat.mul_one], .inr ⟨g, o, cap, B.set (o + i) x, rfl, hb, hg.set (o + i) x, h1, h2, by rw [List.length_set]; omega, ?_⟩⟩
   rw [Nat.mul_one, ← h4]
   apply List.ext_getElem?
   intro j
   simp only [List.getElem?_take, List.getElem?_drop, List.getElem?_set]
   by_cases hj : j < n
   ·rw [if_pos hj]
    by_cases e : i = j
    ·subst e
     rw [if_pos rfl, if_pos rfl, if_pos Ab, if_pos (by rw [List.length_take, List.length_drop]; omega)]
    ·rw [if_neg Ab, if_neg e, if_pos hj]
   ·rw [if_neg hj]
    by_cases e : i = j
    ·omega
    ·rw [if_neg e, if_neg hj]
end Go.Mv
namespace Mvp
theorem h0A (l : List UInt8) : ∀ (S : List UInt64) (k : Nat), k < 136 → (eU (S, k) l).2 = (k + l.length) % 136 := by
 induction l with
 | nil => intro S k h; simp [rW]; omega
 | cons x l ih =>
  intro S k h
  rw [kO, a0T]
  split
  ·rename_i h1
   simp only at h1
   rw [ih _ _ Ab, List.length_cons]; omega
  ·rename_i h1
   simp only at h1
   rw [ih _ _ Ab, List.length_cons]
   congr 1; omega
def kP (l : List UInt8) (e : UInt8) : List UInt8 := l ++ d0T (l.length % 136) e
theorem wT (l : List UInt8) (e : UInt8) : (kP l e).length = l.length + (136 - l.length % 136) := by
 rw [kP, List.length_append, d0U _ _ (Nat.mod_lt _ Ac)]
theorem f0F (l : List UInt8) (e : UInt8) : (kP l e).length % 136 = 0 := by
 rw [wT]; omega
theorem h0B (l : List UInt8) (e : UInt8) (m : Nat) (hm : m = 135 - l.length % 136) : (l ++ e :: List.replicate m 0).set (l.length + m) (bx ((l ++ e :: List.replicate m 0).getD (l.length + m) 0) 0x80) = kP l e := by
 subst hm
 have h2 : (l ++ e :: List.replicate (135 - l.length % 136) 0).getD (l.length + (135 - l.length % 136)) 0 = (e :: List.replicate (135 - l.length % 136) 0).getD (135 - l.length % 136) 0 := by
  rw [List.getD_eq_getElem?_getD, List.getD_eq_getElem?_getD, List.getElem?_append_right Ab, Nat.add_sub_cancel_left]
 rw [h2, List.set_append_right _ _ Ab, Nat.add_sub_cancel_left]
 rfl
theorem a0X (l : List UInt8) (e : UInt8) : vU (eU (bJ, 0) l) e = (eU (bJ, 0) (kP l e)).1 := by
 rw [vU, kP, jG, h0A _ _ _ Ac, Nat.zero_add]
def kQ (p : List UInt8) (i : Nat) : List UInt64 := (eU (bJ, 0) (p.take i)).1
theorem f0G (p : List UInt8) (i : Nat) : (kQ p i).length = 25 := by rw [kQ, oP]; rfl
theorem c0I (p : List UInt8) : kQ p 0 = bJ := by rw [kQ, List.take_zero, rW]
theorem f0H (l : List UInt8) (e : UInt8) (i : Nat) (h : (kP l e).length ≤ i) : kQ (kP l e) i = vU (eU (bJ, 0) l) e := by
 rw [kQ, List.take_of_length_le h, a0X]
theorem c0J (p : List UInt8) (i : Nat) (hi : i % 136 = 0) (h : i + 136 ≤ p.length) : kQ p (i + 136) = cO (gH (kQ p i) 0 ((p.drop i).take 136)) := by
 have hl : (p.take i).length = i := by rw [List.length_take]; omega
 have h2 : (eU (bJ, 0) (p.take i)).2 = 0 := by rw [h0A _ _ _ Ac, hl]; omega
 have hm : ((p.drop i).take 136).length = 136 := by rw [List.length_take, List.length_drop]; omega
 have h3 : eU (bJ, 0) (p.take i) = (kQ p i, 0) := Prod.ext rfl h2
 rw [kQ, List.take_add, jG, h3, tE _ _ _ (by rw [hm]) Ac]
def addB (b p : List UInt8) : Nat → List UInt8
 | 0 => b
 | j + 1 => (addB b p j).set j (bx ((addB b p j).getD j 0) (p.getD j 0))
theorem a0Y (b p : List UInt8) : addB b p 0 = b := rfl
theorem tL (b p : List UInt8) (j : Nat) : addB b p (j + 1) = (addB b p j).set j (bx ((addB b p j).getD j 0) (p.getD j 0)) := rfl
theorem sA (b p : List UInt8) (j : Nat) : (addB b p j).length = b.length := by
 induction j with
 | zero => rfl
 | succ j ih => rw [tL, List.length_set, ih]
theorem k0y (b p : List UInt8) (j : Nat) (hj : j ≤ b.length) (i : Nat) (hi : i < b.length) : (addB b p j).getD i 0 = if i < j then bx (b.getD i 0) (p.getD i 0) else b.getD i 0 := by
 induction j generalizing i with
 | zero => simp [a0Y]
 | succ j ih =>
  rw [tL, List.getD_eq_getElem?_getD, List.getElem?_set]
  by_cases e : j = i
  ·subst e
   rw [if_pos rfl, if_pos (by rw [sA]; omega), if_pos Ab, ih Ab j Ab, if_neg Ab]
   rfl
  ·rw [if_neg e, ← List.getD_eq_getElem?_getD, ih Ab i hi]
   by_cases h1 : i < j
   ·rw [if_pos h1, if_pos Ab]
   ·rw [if_neg h1, if_neg Ab]
theorem k0z (S : List UInt64) (hS : S.length = 25) (p : List UInt8) (hp : 136 ≤ p.length) : eD (addB (toB S 200) p 136) = toB (cO (gH S 0 (p.take 136))) 200 := by
 have hl : (p.take 136).length = 136 := by rw [List.length_take]; omega
 unfold eD
 rw [d0V S hS (p.take 136) _ Ab (by rw [sA, eC]) (fun i hi => ?_)]
 rw [k0y _ _ _ (by rw [eC]; omega) i (by rw [eC]; omega), h0u _ _ _ hi, hl]
 by_cases h : i < 136
 ·rw [if_pos h, if_pos h]
  congr 1
  simp only [List.getD_eq_getElem?_getD, List.getElem?_take, if_pos h]
 ·rw [if_neg h, if_neg h]
theorem k0A (S : List UInt64) (hS : S.length = 25) : eD (toB S 200) = toB (cO S) 200 := by
 unfold eD
 rw [d0V S hS [] _ Ae (by rw [eC]) (fun i hi => by rw [h0u _ _ _ hi]; simp)]
 rfl
theorem k0B (S : List UInt64) : (toB S 200).take 136 = toB S 136 := by
 unfold toB
 rw [← List.map_take, List.take_range, Nat.min_eq_left Ab]
theorem h0C : toB bJ 200 = List.replicate 200 0 := by
 have key : ∀ n, toB bJ n = List.replicate n 0 := by
  intro n
  refine List.eq_replicate_iff.2 ⟨eC _ _, fun x hx => ?_⟩
  unfold toB at hx
  obtain ⟨i, _, rfl⟩ := List.mem_map.1 hx
  exact tH i
 exact key 200
end Mvp
namespace Go.Proofs.YtemcankmggmgoaaGreat
section
open Go.RowKit Go.Mv Mvp
attribute [local irreducible] cO dD toB aW bG cR eD
theorem f0I (l : List UInt8) (e : UInt8) (m : Nat) : bs (l ++ e :: List.replicate m 0) ++ bs [0] = bs (l ++ e :: List.replicate (m + 1) 0) := by
 rw [← jF, List.replicate_succ']; simp
theorem Rd.take {w : World} {a : Option Addr} {n : Nat} {vs : List Value} (h : Rd w a n vs) (p : Nat) (hp : p ≤ n) : Rd w a p (vs.take p) := by
 refine ⟨by rw [List.length_take, h.len]; omega, h.2.imp (fun h0 => by omega) ?_⟩
 rintro ⟨b, o, rfl, hc⟩
 refine ⟨b, o, rfl, fun i v hv => ?_⟩
 rw [List.getElem?_take] at hv
 split at hv
 ·exact hc i v hv
 ·cases hv
theorem qK (l m : List UInt8) : mkS l ++ mkS m = mkS (l ++ m) := by
 apply ByteArray.ext
 simp [mkS]
theorem c0K (l : List UInt8) (n : Nat) : (mkS l).extract 0 n = mkS (l.take n) := by
 apply ByteArray.ext
 simp [mkS]
theorem yR (S : List UInt64) : bG S 0 = [] := by unfold bG; rfl
theorem c0L (S : List UInt64) : cR S 0 = S := by unfold cR; rfl
def m0K : Value → Nat
 | .string s => s.size
 | _ => 0
theorem f0J (n j : Nat) : 136 * j < n ↔ j < mD n := by unfold mD; omega
theorem tM (s : ByteArray) (e : UInt8) (n : Nat) (w : World) (hs : s.size ≤ 1000000) (hn : n ≤ 20000) :
  Calls prog 176 #[.string s, .int .u8 (e.toNat : Int), .int .i64 (n : Int)] w fun r w' => r = .returned (.string (mkS (bH s.data.toList e n))) ∧ Fr Nob w w' := by
 obtain ⟨l, rfl⟩ : ∃ l, s = mkS l := ⟨_, (iS s).symm⟩
 rw [aZ] at hs
 rw [bS]
 go_enter func176, ntmps176
 go_wp2_with (with_reducible refine AA 13 ?_)
 refine fV rfl rfl underlying9 underlying22 underlying5 rfl (by rw [aZ]; unfold maxLen; omega) w.heap.size (Nat.le_refl _) ?_
 intro cap w1 hown1 hf1 hz1
 rw [bS, aZ] at hown1
 rw [aZ]
 go_wp2_with (with_reducible refine AA 15 ?_)
 refine m0J rfl rfl underlying22 dT e rfl ?_
 intro w2 hg2 hf2 hz2
 have hown2 := hown1.still hf2
 have hfr2 := hf1.then hf2
 generalize w1.heap.size = g1 at *
 clear hown1 hf1 hf2 hz2 hz1
 go_wp2_with (with_reducible refine AA 16 ?_)
 refine gG rfl rfl underlying22 dT rfl Ac hown2 rfl rfl (Rd.whole hg2) (wM _) (by simp [maxLen]; omega) Ao hfr2.size ?_
 intro v3 w3 hown3 hf3 hb3
 have hfr3 : Fr Nob w w3 := hown2.fr hfr2 (Nat.le_refl _) hf3
 clear hown2 hfr2 hg2 hf3 hb3
 go_wp2_with fail
 go_loopw [7] (fun v wr => ∃ m, m ≤ 135 - l.length % 136 ∧ Own wr w.heap.size 5 1 v (l.length + 1 + m) (bs (l ++ e :: List.replicate m 0)) ∧ Fr Nob w wr) (fun v _ => l.length + 136 - n0U v)
 case atStart => exact ⟨0, Nat.zero_le _, by simpa [bs] using hown3, hfr3⟩
 case round =>
  obtain ⟨m, hm, hown, hf⟩ := hrel
  clear hown3 hfr3
  obtain ⟨a, c, rfl, hc, hrd, hna⟩ := hown.form
  have hmod := Nat.mod_lt l.length (show 0 < 136 by decide)
  by_cases hlt : (l.length + 1 + m) % 136 = 0
  ·have hb : (((l.length : Int) + 1 + (m : Int)) % 136 != 0) = false := by simp; omega
   have hmk : m = 135 - l.length % 136 := by omega
   have HMK := qH hmk; clear hmk
   have HMOD := qH hmod; clear hmod
   have HLT := qH hlt; clear hlt
   obtain ⟨gp, op, cp, hv, hgp, hgp2, hcp, hcm, hget, hfree, hput⟩ := hown.cells Ab
   simp only [Value.slice.injEq] at hv
   obtain ⟨rfl, -, rfl⟩ := hv
   have hlen : (l ++ e :: List.replicate m 0).length = l.length + 1 + m := by simp; omega
   have hcl : wr.cell? ⟨gp, op + (l.length + m), none⟩ = some (.int .u8 (((l ++ e :: List.replicate m 0).getD (l.length + m) 0).toNat : Int)) := hget _ _ (wL _ _ Ab)
   have hfl := hfree (l.length + m) Ab
   have hput2 := hput (l.length + m)
   clear hget hfree hput hrd hna
   generalize hy : (l ++ e :: List.replicate m 0).getD (l.length + m) 0 = y at hcl
   have HY := qH hy; clear hy
   have hbx : bits BinOp.xor IntKind.u8 (y.toNat : Int) 128 = ((bx y 128).toNat : Int) := rQ y 128
   go_wp2_with (with_reducible refine AA 36 ?_)
   have hown4 := hput2 (.int .u8 ((bx y 0x80).toNat : Int)) Ab
   rw [bs_set, ← HY.out, h0B l e m HMK.out] at hown4
   rw [HY.out] at hown4
   have hfr4 : Fr Nob w (wr.setCell ⟨gp, op + (l.length + m), none⟩ (.int .u8 ((bx y 128).toNat : Int))) := hf.setCell gp _ none _ (fun h => by omega)
   have hgp4 : gp < (wr.setCell ⟨gp, op + (l.length + m), none⟩ (.int .u8 ((bx y 128).toNat : Int))).heap.size := by simpa using hgp2
   generalize wr.setCell ⟨gp, op + (l.length + m), none⟩ (.int .u8 ((bx y 128).toNat : Int)) = w4 at *
   have hpl := wT l e
   have hpm := f0F l e
   have hpe := f0H l e
   have hN : l.length + 1 + m = (kP l e).length := by rw [hpl, HMK.out]; have := HMOD.out; omega
   have hpb : (kP l e).length ≤ 1000136 := by rw [hpl]; omega
   rw [hN] at hown4 ⊢
   have hrd4 : RdB w4 (some ⟨gp, op, none⟩) (kP l e).length (kP l e) := by
    obtain ⟨a, cc, hv, _, hr, _⟩ := hown4.form
    cases hv
    rw [Nat.mul_one] at hr; exact hr
   clear hown hown4 hf hgp2 hput2 hcl hfl hbx HY hlen hpl hb HLT hc hcm hcp HMK
   generalize hP : kP l e = P at *
   have HP := qH hP; clear hP
   refine eP rfl rfl underlying22 dT rfl rfl rfl 200 200 Ae Ae Ab Ab Al ?_
   intro w5 hg5 hf5 hz5
   have hs5 : Own w5 w4.heap.size 5 1 (.slice (some ⟨w4.heap.size, 0, none⟩) 200 200) 200 (bs (toB bJ 200)) := by
    rw [h0C]
    have := Own.made hg5 w4.heap.size (Nat.le_refl _) 1 200 200 (Nat.le_refl _) Al Ae
    rw [List.take_of_length_le Ae] at this
    exact this
   have hrd5 := hrd4.still hf5
   have hfr5 := hfr4.then hf5
   have hb5 : w4.heap.size ≤ w5.heap.size := hf5.size
   have hwb : w.heap.size ≤ w4.heap.size := hfr4.size
   generalize w4.heap.size = b5 at *
   clear hg5 hf5 hz5 hrd4 hfr4
   go_wp2_with fail
   go_loopw [9, 8] (fun i v wr => ∃ I : Nat, I ≤ P.length ∧ I % 136 = 0 ∧ i = .int .i64 (I : Int) ∧ Own wr b5 5 1 v 200 (bs (toB (kQ P I) 200)) ∧ RdB wr (some ⟨gp, op, none⟩) P.length P ∧ b5 ≤ wr.heap.size ∧ Fr Nob w wr) (fun i _ _ => (P.length - intOf i).toNat)
   case atStart => exact ⟨0, by omega, rfl, rfl, by rw [c0I]; exact hs5, hrd5, hb5, hfr5⟩
   case round =>
    obtain ⟨I, hk, hI, rfl, hst, hrdk, hbk, hfk⟩ := hrel
    clear hs5 hrd5 hb5 hfr5
    have hSl := f0G P I
    by_cases hlt : I < P.length
    ·have hltI : (I : Int) < (P.length : Int) := by omega
     have hk2 : I + 136 ≤ P.length := by omega
     have hsucc := c0J P I hI hk2
     generalize hS0 : kQ P I = S at *
     have HS0 := qH hS0; clear hS0
     have HI := qH hI; clear hI
     have HSU := qH hsucc; clear hsucc
     have HSL := qH hSl; clear hSl
     have HPE := qH hpe; clear hpe
     have HPM := qH hpm; clear hpm
     obtain ⟨gs, os, cs, rfl, hgs, hgs2, hcs, hcm, -, -, -⟩ := hst.cells Ab
     obtain ⟨wo, rfl⟩ : ∃ wo : World, wo = wr := ⟨_, rfl⟩
     go_wp2_with fail
     go_loopw [10] (fun j wr => ∃ jn : Nat, jn ≤ 136 ∧ j = .int .i64 (jn : Int) ∧ Own wr b5 5 1 (.slice (some ⟨gs, os, none⟩) 200 cs) 200 (bs (addB (toB S 200) (P.drop I) jn)) ∧ RdB wr (some ⟨gp, op, none⟩) P.length P ∧ b5 ≤ wr.heap.size ∧ Fr Nob w wr) (fun j _ => (136 - intOf j).toNat)
     case atStart => exact ⟨0, by omega, rfl, by rw [a0Y]; exact hst, hrdk, hbk, hfk⟩
     case round =>
      obtain ⟨j, hj, rfl, hsj, hrdj, hbj, hfj⟩ := hrel
      clear hst hrdk hbk hfk
      by_cases hjlt : j < 136
      ·have hjI : (j : Int) < 136 := by omega
       obtain ⟨gs', os', cs', hv, -, hgs3, -, -, hget, hfree, hput⟩ := hsj.cells Ab
       simp only [Value.slice.injEq, Option.some.injEq, Addr.mk.injEq] at hv
       obtain ⟨⟨rfl, rfl, -⟩, -, rfl⟩ := hv
       have hc1 : wr.cell? ⟨gs, os + j, none⟩ = some (.int .u8 (((addB (toB S 200) (P.drop I) j).getD j 0).toNat : Int)) := hget _ _ (wL _ _ (by rw [sA, eC]; omega))
       have hf1 := hfree j Ab
       have hput1 := hput j
       have hc2 : wr.cell? ⟨gp, op + (I + j), none⟩ = some (.int .u8 ((P.getD (I + j) 0).toNat : Int)) := by
        obtain ⟨b, o, he, hh⟩ := hrdj.at Ab
        simp only [Option.some.injEq, Addr.mk.injEq] at he
        obtain ⟨rfl, rfl, -⟩ := he
        exact hh _ Ab
       clear hget hfree hput
       generalize hx : (addB (toB S 200) (P.drop I) j).getD j 0 = x at hc1
       generalize hy : P.getD (I + j) 0 = y at hc2
       have HX := qH hx; clear hx
       have HY := qH hy; clear hy
       go_wp2_with fail
       try go_region
       all_goals go_wp2
       go_roundw
       case rel =>
        have e : (P.drop I).getD j 0 = y := by
         rw [← HY.out]; simp [List.getD_eq_getElem?_getD, List.getElem?_drop]
        have h1 := hput1 (.int .u8 ((bx x y).toNat : Int)) Ab
        rw [bs_set, ← HX.out, ← e, ← tL] at h1
        rw [HX.out, e] at h1
        refine ⟨j + 1, by omega, by go_num, h1, ?_, ?_, ?_⟩
        ·exact hrdj.keep ((Fr.refl (One gs) wr).setCell gs _ none _ (fun _ => rfl)).drew (fun a ha (hh : a.block = gs) => by simp only [Option.some.injEq] at ha; subst ha; simp at hh; omega)
        ·simpa using hbj
        ·exact (hfj.setCell gs _ none _ (fun h => by omega)).drew
       case measure => simp [intOf]; omega
      ·have hge : ¬ ((j : Int) < 136) := by omega
       have hj136 : j = 136 := by omega
       have HJ := qH hj136; clear hj136
       go_wp2_with (with_reducible refine AA 62 ?_)
       have hrs : RdB wr (some ⟨gs, os, none⟩) 200 (addB (toB S 200) (P.drop I) 136) := by
        obtain ⟨a, cc, hv, _, hr, _⟩ := hsj.form
        cases hv
        rw [HJ.out, Nat.mul_one] at hr; exact hr
       refine fE rfl rfl underlying22 underlying5 underlying9 rfl hrs ?_
       go_wp2_with fail
       refine (rD (mkS (addB (toB S 200) (P.drop I) 136)) _ (by rw [aZ, sA, eC])).mono ?_
       rintro e' w6 ⟨rfl, hf6⟩
       rw [bS, k0z S HSL.out _ (by rw [List.length_drop]; omega), ← HSU.out]
       have hb6 : b5 ≤ w6.heap.size := Nat.le_trans hbj hf6.size
       go_wp2_with (with_reducible refine AA 64 ?_)
       refine fV rfl rfl underlying9 underlying22 underlying5 rfl (by rw [aZ, eC]; unfold maxLen; omega) b5 hb6 ?_
       intro c7 w7 hs7 hf7 hz7
       rw [bS, aZ, eC] at hs7
       rw [aZ, eC]
       have hf67 := hf6.then hf7
       have hrd7 := hrdj.still hf67
       have hfr7 := hfj.then hf67
       have hb7 : b5 ≤ w7.heap.size := Nat.le_trans hb6 hf7.size
       generalize w6.heap.size = g6 at *
       clear hsj hrdj hfj hrs hf6 hf7 hz7 hf67
       go_wp2_with fail
       go_roundw
       case rel => exact ⟨I + 136, by omega, by have := HI.out; omega, by go_num, hs7, hrd7, hb7, hfr7⟩
       case measure => simp [intOf]; omega
    ·have hge : ¬ ((I : Int) < (P.length : Int)) := by omega
     have hend : kQ P I = vU (eU (bJ, 0) l) e := hpe I Ab
     rw [hend] at hst hSl
     clear hpe hend
     generalize hE : vU (eU (bJ, 0) l) e = S0 at *
     have HE := qH hE; clear hE
     have HPM := qH hpm; clear hpm
     clear hrdk
     go_wp2_with fail
     go_loopw [11, 8] (fun o v wr => ∃ j : Nat, j ≤ mD n ∧ o = .string (mkS (bG S0 j)) ∧ Own wr b5 5 1 v 200 (bs (toB (cR S0 j) 200)) ∧ b5 ≤ wr.heap.size ∧ Fr Nob w wr) (fun o _ _ => n - m0K o)
     case atStart => exact ⟨0, Nat.zero_le _, by rw [yR]; rfl, by rw [c0L]; exact hst, hbk, hfk⟩
     case round =>
      obtain ⟨j, hj, rfl, hsj, hbj, hfj⟩ := hrel
      clear hst hbk hfk
      have hpi := f0J n j
      have hql : (mkS (bG S0 j)).size = 136 * j := by rw [aZ, nZ]
      generalize hq : mkS (bG S0 j) = q at *
      have HQ := qH hq; clear hq
      by_cases hlt : 136 * j < n
      ·have hltI : (q.size : Int) < (n : Int) := by omega
       have hj1 := hpi.1 hlt
       have HPI := qH hpi; clear hpi
       have HQL := qH hql; clear hql
       have HLT := qH hlt; clear hlt
       have HSL := qH hSl; clear hSl
       obtain ⟨a, cc, rfl, hcc, hrs, hna⟩ := hsj.form
       have e1 : ∀ wx, (Instr.sliceAt 22 (.slice a 200 cc) none (some (.int .i64 136)) none).run prog wx = .ok (.slice a 136 cc) wx := fun wx => fF wx underlying22 eQ a 200 cc .i64 136 Ab
       go_wp2_with (with_reducible refine AA 72 ?_)
       have hrs2 : RdB wr a 136 (toB (cR S0 j) 136) := by
        have h2 := hrs
        rw [Nat.mul_one] at h2
        have h3 := Rd.take h2 136 Ab
        rwa [mB, k0B] at h3
       have hrs3 : RdB wr a 200 (toB (cR S0 j) 200) := by
        rw [Nat.mul_one] at hrs; exact hrs
       clear hrs hna
       have hcat : ¬ 9223372036854775807 < q.size + (mkS (toB (cR S0 j) 136)).size := by have := HLT.out; rw [aZ, eC, HQL.out]; omega
       refine fE rfl rfl underlying22 underlying5 underlying9 rfl hrs2 ?_
       go_wp2_with (with_reducible refine AA 75 ?_)
       have hqq : q ++ mkS (toB (cR S0 j) 136) = mkS (bG S0 (j + 1)) := by rw [← HQ.out, qK, ← rE]
       rw [hqq]
       refine fE rfl rfl underlying22 underlying5 underlying9 rfl hrs3 ?_
       clear hcat
       go_wp2_with fail
       refine (rD (mkS (toB (cR S0 j) 200)) _ (by rw [aZ, eC])).mono ?_
       rintro e' w6 ⟨rfl, hf6⟩
       rw [bS, k0A _ (by rw [a0V, HSL.out]), ← wQ]
       have hb6 : b5 ≤ w6.heap.size := Nat.le_trans hbj hf6.size
       go_wp2_with (with_reducible refine AA 77 ?_)
       refine fV rfl rfl underlying9 underlying22 underlying5 rfl (by rw [aZ, eC]; unfold maxLen; omega) b5 hb6 ?_
       intro c7 w7 hs7 hf7 hz7
       rw [bS, aZ, eC] at hs7
       rw [aZ, eC]
       have hf67 := hf6.then hf7
       have hfr7 := hfj.then hf67
       have hb7 : b5 ≤ w7.heap.size := Nat.le_trans hb6 hf7.size
       generalize w6.heap.size = g6 at *
       clear hsj hfj hrs2 hrs3 hf6 hf7 hz7 hf67
       go_wp2_with fail
       go_roundw
       case rel => exact ⟨j + 1, hj1, rfl, hs7, hb7, hfr7⟩
       case measure =>
        have h1 := HLT.out; have h2 := HQL.out
        have h3 : (mkS (bG S0 (j + 1))).size = 136 * (j + 1) := by rw [aZ, nZ]
        simp [m0K, h3]; omega
      ·have hge : ¬ ((q.size : Int) < (n : Int)) := by omega
       have hjp : j = mD n := by have := hpi.2; omega
       have HJP := qH hjp; clear hjp
       go_wp2_with fail
       go_ret
       refine ⟨?_, hfj⟩
       rw [← HQ.out, HJP.out, c0K]
       unfold bH n0S
       rw [HE.out]
       rfl
  ·have hb : (((l.length : Int) + 1 + (m : Int)) % 136 != 0) = true := by simp; omega
   go_wp2_with (with_reducible refine AA 22 ?_)
   refine m0J rfl rfl underlying22 dT 0 rfl ?_
   intro w2 hg2 hf2 hz2
   have hown2 := hown.still hf2
   have hfr2 := hf.then hf2
   generalize wr.heap.size = g2 at *
   clear hown hf hf2 hz2 hrd hna
   have HMOD := qH hmod; clear hmod
   have HLT := qH hlt; clear hlt
   go_wp2_with (with_reducible refine AA 23 ?_)
   refine gG rfl rfl underlying22 dT rfl Ac hown2 rfl rfl (Rd.whole hg2) (wM _) (by simp [maxLen]; omega) Ao hfr2.size ?_
   intro v3 w3 hown3 hf3 hb3
   have hfr3 : Fr Nob w w3 := hown2.fr hfr2 (Nat.le_refl _) hf3
   rw [f0I] at hown3
   clear hown2 hfr2 hg2 hf3 hb3
   go_wp2_with fail
   go_roundw
   case rel => exact ⟨m + 1, by have := HMOD.out; have := HLT.out; omega, hown3, hfr3⟩
   case measure =>
    obtain ⟨a8, c8, rfl, _⟩ := hown3.form
    have := HLT.out; have := HMOD.out
    simp [n0U]; omega
end
section
open Go.RowKit Go.Mv Mvp
theorem a0Z (S : List UInt64) : bG S 0 = [] := by unfold bG; rfl
theorem f0K (S : List UInt64) : cR S 0 = S := by unfold cR; rfl
theorem n0V {w : World} {base : Nat} {T : TypeId} {a : Option Addr} {m c : Nat} {L : List Value} (h : Own w base T 1 (.slice a m c) m L) (n : Nat) (hn : n ≤ m) : Own w base T 1 (.slice a n n) n (L.take n) := by
 obtain ⟨hl, h | ⟨g, o, cap, B, hv, hb, hg, h1, h2, h3, h4⟩⟩ := h
 ·obtain ⟨hv, hm⟩ := h
  cases hv
  have : n = 0 := by omega
  subst this
  exact ⟨by simp, .inl ⟨rfl, rfl⟩⟩
 ·cases hv
  refine ⟨by rw [List.length_take]; omega, .inr ⟨g, o, n, B, rfl, hb, hg, Nat.le_refl _, by omega, by omega, ?_⟩⟩
  rw [← h4, List.take_take]
  congr 1
  omega
attribute [local irreducible] cO dD toB aW bG cR
theorem n0W (k : Nat) (e : UInt8) (h : k < 136) : ((List.replicate 136 (0 : UInt8)).set k e).set 135 (bx (((List.replicate 136 (0 : UInt8)).set k e).getD 135 0) 0x80) = List.replicate k 0 ++ d0T k e := by
 have h1 : (List.replicate 136 (0 : UInt8)).set k e = List.replicate k 0 ++ (e :: List.replicate (135 - k) 0) := by
  have : (List.replicate 136 (0 : UInt8)) = List.replicate k 0 ++ (0 :: List.replicate (135 - k) 0) := by
   rw [← List.replicate_succ, List.replicate_append_replicate]; congr 1; omega
  rw [this, List.set_append_right _ _ Ae]
  simp
 have h2 : (List.replicate k 0 ++ (e :: List.replicate (135 - k) 0)).getD 135 0 = (e :: List.replicate (135 - k) 0).getD (135 - k) 0 := by
  rw [List.getD_eq_getElem?_getD, List.getD_eq_getElem?_getD, List.getElem?_append_right Ao, List.length_replicate]
 rw [h1, h2, List.set_append_right _ _ Ao]
 simp only [List.length_replicate, d0T]
theorem h0D (n j : Nat) : 136 * j < n ↔ j < mD n := by unfold mD; omega
theorem h0E (g : Nat) (S : List UInt64) (k : Nat) (e : UInt8) (n : Nat) (w : World) (hS : S.length = 25) (hk : k < 136) (hn : n ≤ 20000) (hg : Has w g (abs (S, k)) 234) :
  Calls prog 193 #[.pointer (some ⟨g, 0, none⟩), .int .u8 (e.toNat : Int), .int .i64 (n : Int)] w fun r w' => ∃ v, r = .returned v ∧ Own w' w.heap.size 5 1 v n (bs (n0S (vU (S, k) e) n)) ∧ Fr (One g) w w' := by
 go_enter func193, ntmps193
 go_wp2_with (with_reducible refine nW (o := ⟨_, .alloc 241, _, _, _, _⟩) ?_)
 refine kZ rfl rfl a0W (bs (List.replicate 136 0)) Ay ?_
 intro w1 hl1 hf1 hz1
 have hg1 := hg.keep hf1 id
 have hgl := hg.lt
 have hfr1 : Fr (One g) w w1 := (Fr.refl (One g) w).same hf1
 have hb0 : w.heap.size ≤ w1.heap.size := hf1.size
 generalize hgl0 : w.heap.size = gl at *
 have HGL := qH hgl0; clear hgl0
 clear hf1 hz1 hg
 have hc25 : w1.cell? ⟨g, 25, none⟩ = some (.int .i64 (k : Int)) := hg1.cell (tI (S, k) hS)
 obtain ⟨vk, hck, hfk⟩ := hl1.ready (i := k) (by rw [bP]; simpa using hk)
 have hkI : (k : Int) < 136 := by omega
 go_wp2_with (with_reducible refine AA 15 ?_)
 have hl2 := hl1.set k (.int .u8 (e.toNat : Int))
 rw [bs_set] at hl2
 have hg2 := hg1.other (g' := gl) k none (.int .u8 (e.toNat : Int)) Ab
 have hfr2 : Fr (One g) w (w1.setCell ⟨gl, k, none⟩ (.int .u8 (e.toNat : Int))) := hfr1.setCell gl k none _ (fun h => by have := HGL.out; omega)
 have hsz2 : gl < (w1.setCell ⟨gl, k, none⟩ (.int .u8 (e.toNat : Int))).heap.size := hl2.lt
 generalize w1.setCell ⟨gl, k, none⟩ (.int .u8 (e.toNat : Int)) = w2 at *
 clear hl1 hg1 hfr1 hc25 hck hfk hb0
 have hc135 : w2.cell? ⟨gl, 135, none⟩ = some (.int .u8 ((((List.replicate 136 (0 : UInt8)).set k e).getD 135 0).toNat : Int)) := hl2.cell (wL _ _ Ae)
 have hf135 : w2.frozen? ⟨gl, 135, none⟩ = false := hl2.free _ (by rw [bP]; simp)
 generalize hy : ((List.replicate 136 (0 : UInt8)).set k e).getD 135 0 = y at hc135
 have HY := qH hy; clear hy
 show wpList _ _ _ _ _ _
 go_wp2_with fail
 have hbx : bits BinOp.xor IntKind.u8 (y.toNat : Int) 128 = ((bx y 128).toNat : Int) := rQ y 128
 rw [hbx]
 have hl3 := hl2.set 135 (.int .u8 ((bx y 0x80).toNat : Int))
 rw [bs_set, ← HY.out, n0W k e hk] at hl3
 rw [HY.out] at hl3
 have hg3 := hg2.other (g' := gl) 135 none (.int .u8 ((bx y 128).toNat : Int)) Ab
 have hfr3 : Fr (One g) w (w2.setCell ⟨gl, 135, none⟩ (.int .u8 ((bx y 128).toNat : Int))) := hfr2.setCell gl 135 none _ (fun h => by have := HGL.out; omega)
 generalize w2.setCell ⟨gl, 135, none⟩ (.int .u8 ((bx y 128).toNat : Int)) = w3 at *
 have hpl : (d0T k e).length = 136 - k := d0U k e hk
 have hne : g ≠ gl := by omega
 clear hl2 hg2 hfr2 hc135 hf135 hbx hsz2 HY
 have e1 : ∀ wx, (Instr.sliceAt 241 (.pointer (some ⟨gl, 0, none⟩)) none none none).run prog wx = .ok (.slice (some ⟨gl, 0, none⟩) 136 136) wx := fun wx => vV wx underlying241 eQ gl 0
 refine wp_region_still_tail 4 Aa Aa ?_
 simp only [List.take_succ_cons, List.take_zero, List.drop_succ_cons, List.drop_zero]
 repeat still_step
 refine wpStill_nil ?_
 show wpList _ _ _ _ _ w3.drew
 go_wp2_with fail
 have hrd : RdB w3.drew (some ⟨gl, 0, none⟩) 136 (List.replicate k 0 ++ d0T k e) := by
  have := Rd.whole hl3.drew
  rwa [bP, List.length_append, List.length_replicate, hpl, show k + (136 - k) = 136 by omega] at this
 refine (h0i g S [.int .i64 (k : Int)] 234 _ 136 _ _ _ hS Ab hg3.drew hrd (fun x hx (e : x.block = g) => by simp only [Option.some.injEq] at hx; subst hx; simp at e; omega)).mono ?_
 rintro e w4 ⟨rfl, hg4, hf4, hz4⟩
 have hxb : oN S (List.replicate k 0 ++ d0T k e) 136 = gH S k (d0T k e) := by
  have := wP S k (d0T k e) []
  rwa [List.append_nil, hpl, show k + (136 - k) = 136 by omega] at this
 rw [hxb, tJ] at hg4
 have hfr4 : Fr (One g) w w4 := hfr3.drew.trans hf4 (fun _ _ t => t)
 have hend : vU (S, k) e = cO (gH S k (d0T k e)) := by
  unfold vU
  rw [tE _ _ _ (by simp only [hpl]; omega) hk]
 have hxl : (gH S k (d0T k e)).length = 25 := by rw [tD, hS]
 clear hl3 hg3 hfr3 e1 hrd hf4 hz4 hxb hpl
 generalize gH S k (d0T k e) = X at *
 have HEND := qH hend; clear hend
 go_wp2_with fail
 refine (oA g X k _ hxl hg4).mono ?_
 rintro e w5 ⟨rfl, hg5, hf5⟩
 have hfr5 : Fr (One g) w w5 := hfr4.trans hf5 (fun _ _ t => t)
 have hS5 : (cO X).length = 25 := by rw [oO, hxl]
 generalize cO X = S0 at *
 clear hg4 hfr4 hf5 hxl hS
 go_wp2_with fail
 go_loopw [8] (fun v wr => ∃ j, j ≤ mD n ∧ Own wr w.heap.size 5 1 v (136 * j) (bs (bG S0 j)) ∧ Has wr g (abs (cR S0 j, k)) 234 ∧ Fr (One g) w wr) (fun v _ => n - n0U v)
 case atStart => exact ⟨0, Nat.zero_le _, by rw [a0Z]; exact Own.nil _ _ _ _, by rw [f0K]; exact hg5, hfr5⟩
 case round =>
  obtain ⟨j, hj, hown, hgj, hfj⟩ := hrel
  clear hg5 hfr5
  have hjn := h0D n j
  obtain ⟨a, cap, rfl, hcap, hrdj, hna⟩ := hown.form
  by_cases hlt : 136 * j < n
  ·have hltI : 136 * (j : Int) < (n : Int) := by omega
   have hpj : (cR S0 j).length = 25 := by rw [a0V, hS5]
   have hjp : j + 1 ≤ mD n := hjn.1 hlt
   have HJN := qH hjn; clear hjn
   have HLT := qH hlt; clear hlt
   clear hrdj hna
   go_wp2_with fail
   rw [← tJ] at hgj
   refine (h0j g (cR S0 j) [.int .i64 (k : Int)] 234 136 _ hpj Ab hgj).mono ?_
   rintro e w6 ⟨rfl, ht6, hf6, hz6⟩
   have hg6 := hgj.keep hf6 id
   rw [tJ] at hg6
   have hown6 := hown.still hf6
   have hfr6 : Fr (One g) w w6 := hfj.same hf6
   have hwb : w.heap.size ≤ wr.heap.size := hfj.size
   have hgb : g < w.heap.size := by have := HGL.out; omega
   generalize wr.heap.size = gt at *
   clear hgj hown hfj hf6
   go_wp2_with (with_reducible refine AA 37 ?_)
   have hrd6 : Rd w6 (some ⟨gt, 0, none⟩) (136 * 1) (bs (toB (cR S0 j) 136)) := by
    have := Rd.whole ht6
    rwa [bP, eC] at this
   refine gG rfl rfl underlying22 dT rfl Ac hown6 rfl rfl hrd6 (wM _) Al Ab hfr6.size ?_
   intro v7 w7 hown7 hf7 hb7
   have hg7 := hg6.keep hf7 (fun hh => by have := hown6.lt hh; omega)
   have hfr7 : Fr (One g) w w7 := hown6.fr hfr6 (Nat.le_refl _) hf7
   rw [← jF, ← rE] at hown7
   clear ht6 hg6 hown6 hfr6 hrd6 hf7 hb7
   go_wp2_with fail
   refine (oA g _ k _ hpj hg7).mono ?_
   rintro e w8 ⟨rfl, hg8, hf8⟩
   rw [← wQ] at hg8
   have hown8 := hown7.keep hf8 (fun k' hk' (h : k' = g) => by have := hown7.lt hk'; omega)
   have hfr8 : Fr (One g) w w8 := hfr7.trans hf8 (fun _ _ t => t)
   clear hg7 hown7 hfr7 hf8
   go_wp2_with fail
   go_roundw
   case rel => exact ⟨j + 1, hjp, hown8, hg8, hfr8⟩
   case measure =>
    obtain ⟨a8, c8, rfl, _⟩ := hown8.form
    have := HLT.out
    simp [n0U]; omega
  ·have hge : ¬ (136 * (j : Int) < (n : Int)) := by omega
   have hjp : j = mD n := by have := hjn.2; omega
   have HJP := qH hjp; clear hjp
   have HJN := qH hjn; clear hjn
   have hnc : n ≤ cap := by omega
   have hnI : ¬ (n : Int) < 0 := by omega
   clear hgj
   go_wp2_with (with_reducible refine AA 45 ?_)
   refine n0M rfl rfl underlying22 eQ rfl 0 n n rfl rfl rfl rfl rfl (Nat.zero_le _) (Nat.le_refl _) hnc ?_
   go_wp2_with fail
   go_ret
   rw [h0v]
   refine ⟨_, rfl, ?_, hfj⟩
   have hsq : bs (n0S (vU (S, k) e) n) = (bs (bG S0 j)).take n := by
    rw [HEND.out, HJP.out, n0S, mB]
   rw [hsq]
   exact n0V hown n Ab
end
end Go.Proofs.YtemcankmggmgoaaGreat
namespace Mvp
def k0d (n : Nat) : List UInt8 := [UInt8.ofNat (n / 16777216), UInt8.ofNat (n / 65536), UInt8.ofNat (n / 256), UInt8.ofNat n]
def cA (l : List UInt8) : List UInt8 := k0d l.length ++ l
def bD (ls : List (List UInt8)) : List UInt8 := (ls.map cA).flatten
theorem c0M : bD [] = [] := rfl
theorem nP (a b : List (List UInt8)) : bD (a ++ b) = bD a ++ bD b := by simp [bD]
theorem lC (a : List UInt8) : bD [a] = cA a := by simp [bD]
theorem b0a (a : List UInt8) (b : List (List UInt8)) : bD (a :: b) = cA a ++ bD b := by simp [bD]
end Mvp
namespace Go.Proofs.YtemcankmggmgoaaGreat
section
open Go.RowKit Go.Mv Mvp
attribute [local irreducible] cO dD toB aW bG cR eD bH
theorem oT (k : Nat) : ((UInt8.ofNat k).toNat : Int) = ((k % 256 : Nat) : Int) := by simp
theorem m0L (n : Nat) (h : n ≤ 1000000) : Value.int .u8 ((n : Int) / 16777216) = .int .u8 ((UInt8.ofNat (n / 16777216)).toNat : Int) := by
 rw [oT]; congr 1; omega
theorem m0M (n : Nat) (h : n ≤ 1000000) : Value.int .u8 ((n : Int) / 65536) = .int .u8 ((UInt8.ofNat (n / 65536)).toNat : Int) := by
 rw [oT]; congr 1; omega
theorem m0N (n : Nat) : Value.int .u8 ((n : Int) / 256 % 256) = .int .u8 ((UInt8.ofNat (n / 256)).toNat : Int) := by
 rw [oT]; rfl
theorem m0O (n : Nat) : Value.int .u8 ((n : Int) % 256) = .int .u8 ((UInt8.ofNat n).toNat : Int) := by
 rw [oT]; rfl
theorem yS (n : Nat) : (k0d n).length = 4 := rfl
theorem b0b (g : Nat) (st : List UInt64 × Nat) (b : Option Addr) (n c : Nat) (l : List UInt8) (w : World) (hS : st.1.length = 25) (hat : st.2 < 136) (hn : n ≤ 1000000) (hnc : n ≤ c) (hg : Has w g (abs st) 234) (hb : RdB w b n l) (hbg : Off (One g) b) :
  Calls prog 194 #[.pointer (some ⟨g, 0, none⟩), .slice b n c] w fun e w' => e = .returned (.tuple #[]) ∧ Has w' g (abs (eU st (cA l))) 234 ∧ Fr (One g) w w' := by
 go_enter func194, ntmps194
 go_wp2_with (with_reducible refine AA 19 ?_)
 refine h0z rfl rfl underlying22 dT _ _ _ _ (m0L n hn) (m0M n hn) (m0N n) (m0O n) ?_
 intro w1 hh1 hf1 hz1
 have hh1' : Has w1 w.heap.size (bs (k0d n)) 5 := hh1
 have hg1 := hg.keep hf1 id
 have hb1 := hb.still hf1
 have hgl := hg.lt
 generalize w.heap.size = g4 at *
 clear hg hb hh1
 have hrd : RdB w1 (some ⟨g4, 0, none⟩) 4 (k0d n) := by
  have := Rd.whole hh1'
  rwa [bP, yS] at this
 go_wp2_with fail
 refine (tK g st _ 4 4 (k0d n) w1 hS hat Ab Ab hg1 hrd (fun x hx (e : x.block = g) => by simp only [Option.some.injEq] at hx; subst hx; simp at e; omega)).mono ?_
 rintro e w2 ⟨rfl, hg2, hf2⟩
 have hb2 := hb1.keep hf2 hbg
 have hfr2 : Fr (One g) w w2 := ((Fr.refl (One g) w).same hf1).trans hf2 (fun _ _ t => t)
 clear hf1 hz1 hh1' hg1 hb1 hrd hf2
 go_wp2_with fail
 refine (tK g (eU st (k0d n)) b n c l w2 (by rw [oP, hS]) (yO _ _ hat) hn hnc hg2 hb2 hbg).mono ?_
 rintro e w3 ⟨rfl, hg3, hf3⟩
 go_wp2_with fail
 go_end0
 rw [← jG, ← hb2.len] at hg3
 exact ⟨rfl, hg3, hfr2.trans hf3 (fun _ _ t => t)⟩
theorem wU (s : ByteArray) (w : World) (hs : s.size ≤ 1000000) :
  Calls prog 177 #[.string s] w fun r w' => r = .returned (.string (mkS (cA s.data.toList))) ∧ Fr Nob w w' := by
 go_enter func177, ntmps177
 go_wp2_with (with_reducible refine AA 17 ?_)
 refine h0z rfl rfl underlying22 dT _ _ _ _ (m0L s.size hs) (m0M s.size hs) (m0N s.size) (m0O s.size) ?_
 intro w1 hh1 hf1 hz1
 have hrd : RdB w1 (some ⟨w.heap.size, 0, none⟩) 4 (k0d s.size) := Rd.whole hh1
 have e1 := jA hrd 4 underlying22 underlying5 underlying9
 have hcat : ¬ 9223372036854775807 < (mkS (k0d s.size)).size + s.size := by rw [aZ, yS]; omega
 go_wp2_with fail
 go_ret
 refine ⟨?_, hf1⟩
 have : mkS (k0d s.size) ++ s = mkS (cA s.data.toList) := by
  rw [cA, ← qK, iS]; rfl
 exact congrArg (fun q => Ending.returned (.string q)) this
end
section
open Go.RowKit Go.Mv Mvp
attribute [local irreducible] cO dD toB aW bG cR
theorem b0c : prog.built 234 [] = some (abs (bJ, 0)).toArray := by unfold abs; kernel_rfl
theorem n0X (l : List UInt8) : (eU (bJ, 0) l).1.length = 25 ∧ (eU (bJ, 0) l).2 < 136 := ⟨by rw [oP]; rfl, yO _ _ Ac⟩
theorem _root_.Bm {p : Prop} (h : p := by rw [HG.out]; exact Nat.le_refl _) : p := h
theorem wV (b : Option Addr) (n c : Nat) (l : List UInt8) (m : Nat) (w : World) (hm : m ≤ 20000) (hn : n ≤ 1000000) (hnc : n ≤ c) (hb : RdB w b n l) (ho : Old w b) :
  Calls prog 168 #[.slice b n c, .int .i64 (m : Int)] w fun r w' => ∃ v, r = .returned v ∧ Own w' w.heap.size 5 1 v m (bs (bH l 31 m)) ∧ Fr Nob w w' := by
 go_enter func168, ntmps168
 go_wp2_with (with_reducible refine AA 6 ?_)
 refine gI rfl rfl _ b0c ?_
 refine wR rfl rfl rfl (abs (bJ, 0)) rfl ?_
 intro w1 hg1 hf1 hz1
 have hb1 := hb.still hf1
 have hoff : Off (One w.heap.size) b := ho.off (Nat.le_refl _)
 generalize hgw : w.heap.size = g at *
 have HG := qH hgw; clear hgw
 clear hb ho
 go_wp2_with fail
 refine (tK g (bJ, 0) b n c l w1 rfl Ac hn hnc hg1 hb1 hoff).mono ?_
 rintro e w2 ⟨rfl, hg2, hf2⟩
 obtain ⟨h1, h2⟩ := n0X l
 have hfr2 : Fr Nob w w2 := hf1.new hf2 Bm
 generalize hst : eU (bJ, 0) l = st at *
 have HST := qH hst; clear hst
 clear hg1 hf1 hz1 hb1 hf2
 go_wp2_with fail
 refine (h0E g st.1 st.2 31 m w2 h1 h2 hm hg2).mono ?_
 rintro e w3 ⟨v, rfl, hown, hf3⟩
 go_wp2_with fail
 go_ret
 refine ⟨v, rfl, ?_, hfr2.new hf3 Bm⟩
 have := hown.mono (base' := g) (by have := hg2.lt; omega)
 rw [← HST.out] at this
 rw [HG.out]
 exact this
theorem f0L (b : Option Addr) (n c : Nat) (l : List UInt8) (m : Int) (w : World) (hn : n ≤ 1000000) (hnc : n ≤ c) (hb : RdB w b n l) (ho : Old w b) :
  Calls prog 114 #[.slice b n c, .int .i64 m] w fun r w' => (0 ≤ m ∧ m ≤ 16384 ∧ ∃ v, r = .returned (.tuple #[v, .int .i64 0]) ∧ Own w' w.heap.size 5 1 v m.toNat (bs (bH l 31 m.toNat)) ∧ Fr Nob w w') ∨ (¬ (0 ≤ m ∧ m ≤ 16384) ∧ r = .returned (.tuple #[.slice none 0 0, .int .i64 1]) ∧ Fr Nob w w') := by
 go_enter func114, ntmps114
 by_cases h0 : m < 0
 ·go_wp2_with fail
  go_ret2
  exact .inr ⟨by omega, rfl, Fr.refl _ _⟩
 ·by_cases h1 : 16384 < m
  ·go_wp2_with fail
   go_ret2
   first | exact .inr ⟨by omega, rfl, Fr.refl _ _⟩ | exact .inr ⟨rfl, Fr.refl _ _⟩ | exact .inr (Fr.refl _ _) | exact ⟨rfl, Fr.refl _ _⟩ | exact Fr.refl _ _
  ·obtain ⟨k, rfl⟩ : ∃ k : Nat, m = k := ⟨m.toNat, by omega⟩
   go_wp2_with fail
   refine (wV b n c l k w Ab hn hnc hb ho).mono ?_
   rintro e w3 ⟨v, rfl, hown, hf3⟩
   go_wp2_with fail
   go_ret2
   exact .inl ⟨by omega, by omega, v, rfl, by simpa using hown, hf3⟩
end
section
open Go.RowKit Go.Mv Mvp
attribute [local irreducible] cO dD toB aW bG cR eD bH
def PartIs (w : World) (v : Value) (l : List UInt8) : Prop := ∃ a n c, v = .slice a n c ∧ n ≤ c ∧ n ≤ 1000000 ∧ RdB w a n l ∧ Old w a
theorem PartIs.still {w w' : World} {v : Value} {l : List UInt8} (h : PartIs w v l) (hf : Fr Nob w w') : PartIs w' v l := by
 obtain ⟨a, n, c, h1, h2, h3, h4, h5⟩ := h
 exact ⟨a, n, c, h1, h2, h3, h4.still hf, h5.grow hf.size⟩
def PartsAt (w : World) (a : Option Addr) (ls : List (List UInt8)) : Prop := ∃ vs : List Value, Rd w a ls.length vs ∧ ∀ (i : Nat) (v : Value), vs[i]? = some v → ∃ l : List UInt8, ls[i]? = some l ∧ PartIs w v l
theorem PartsAt.get {w : World} {a : Option Addr} {ls : List (List UInt8)} (h : PartsAt w a ls) {j : Nat} (hj : j < ls.length) : ∃ b o v, a = some ⟨b, o, none⟩ ∧ w.cell? ⟨b, o + j, none⟩ = some v ∧ PartIs w v (ls.getD j []) := by
 obtain ⟨vs, hr, hv⟩ := h
 obtain ⟨b, o, rfl, hat⟩ := hr.at Ab
 have hl := hr.len
 obtain ⟨l, h1, h2⟩ := hv j (vs[j]'Ab) (List.getElem?_eq_getElem Ab)
 refine ⟨b, o, vs[j]'Ab, rfl, hat j _ (List.getElem?_eq_getElem Ab), ?_⟩
 rwa [List.getD_eq_getElem?_getD, h1]
theorem PartsAt.still {w w' : World} {a : Option Addr} {ls : List (List UInt8)} (h : PartsAt w a ls) (hf : Fr Nob w w') : PartsAt w' a ls := by
 obtain ⟨vs, hr, hv⟩ := h
 refine ⟨vs, hr.still hf, fun i v hi => ?_⟩
 obtain ⟨l, h1, h2⟩ := hv i v hi
 exact ⟨l, h1, h2.still hf⟩
def tN (s : List UInt8) (ls : List (List UInt8)) : List UInt8 := bD (s :: ls)
def dX (s : List UInt8) (ls : List (List UInt8)) : List UInt8 := bH (tN s ls) 6 32
theorem z25 : ((bJ, 0) : List UInt64 × Nat).1.length = 25 := rfl
attribute [local irreducible] eU cA bD abs bJ
theorem h0F (s : ByteArray) (a : Option Addr) (c : Nat) (ls : List (List UInt8)) (w : World) (hs : s.size ≤ 1000000) (hm : ls.length ≤ 1000000) (hb : PartsAt w a ls) :
  Calls prog 169 #[.string s, .slice a ls.length c] w fun r w' => ∃ v, r = .returned v ∧ Own w' w.heap.size 5 1 v 32 (bs (dX s.data.toList ls)) ∧ Fr Nob w w' := by
 go_enter func169, ntmps169
 go_wp2_with (with_reducible refine AA 8 ?_)
 refine gI rfl rfl _ b0c ?_
 refine wR rfl rfl rfl (abs (bJ, 0)) rfl ?_
 intro w1 hg1 hf1 hz1
 clear hz1
 have hst1 := z25
 have hst2 : ((bJ, 0) : List UInt64 × Nat).2 < 136 := Nat.zero_lt_succ _
 obtain ⟨st0, hst0⟩ : ∃ st0 : List UInt64 × Nat, st0 = (bJ, 0) := ⟨_, rfl⟩
 rw [← hst0] at hg1 hst1 hst2
 have HST0 := qH hst0; clear hst0
 generalize hgw : w.heap.size = g at *
 have HG := qH hgw; clear hgw
 go_wp2_with (with_reducible refine AA 12 ?_)
 refine fV rfl rfl underlying9 underlying22 underlying5 rfl Al w1.heap.size (Nat.le_refl _) ?_
 intro cap w2 hown2 hf2 hz2
 have hg2 := hg1.keep hf2 id
 have hfr2 := hf1.then hf2
 have hgl := hg1.lt
 obtain ⟨a2, c2, hv2, hc2, hrd2, -⟩ := hown2.form
 cases hv2
 rw [Nat.mul_one] at hrd2
 go_wp2_with fail
 have hoff0 : Off (One g) (some (⟨w1.heap.size, 0, none⟩ : Addr)) := fun x hx (e : x.block = g) => by
  cases hx
  exact absurd e (by show ¬ (w1.heap.size = g); omega)
 have hcall := b0b g st0 (some ⟨w1.heap.size, 0, none⟩) s.size cap s.data.toList w2 hst1 hst2 hs hc2 hg2 hrd2 hoff0
 refine hcall.mono ?_
 rintro e w3 ⟨rfl, hg3, hf3⟩
 have hfr3 : Fr Nob w w3 := hfr2.new hf3 Bm
 clear hg1 hf1 hown2 hf2 hz2 hg2 hfr2 hrd2 hf3 hgl
 go_wp2_with fail
 go_loopw [16] (fun i wr => ∃ j : Nat, j ≤ ls.length ∧ i = .int .i64 (j : Int) ∧ Has wr g (abs (eU st0 (bD (s.data.toList :: ls.take j)))) 234 ∧ Fr Nob w wr) (fun i _ => (ls.length - intOf i).toNat)
 case atStart => exact ⟨0, by omega, rfl, by rw [List.take_zero, lC]; exact hg3, hfr3⟩
 case round =>
  obtain ⟨j, hj, rfl, hgj, hfj⟩ := hrel
  clear hg3 hfr3
  by_cases hlt : j < ls.length
  ·have hltI : (j : Int) < (ls.length : Int) := by omega
   obtain ⟨b, o, v, rfl, hc, hp⟩ := (hb.still hfj).get hlt
   obtain ⟨b', o', v', hv', hc', hp'⟩ := hb.get hlt
   simp only [Option.some.injEq, Addr.mk.injEq] at hv'
   obtain ⟨rfl, rfl, -⟩ := hv'
   have hvv : v = v' := by
    have := hfj.cell id hc'
    rw [hc] at this; simpa using this
   subst hvv
   obtain ⟨ap, np, cp, rfl, hp1, hp2, hp3, hp4⟩ := hp'
   have hr3 := hp3.still hfj
   clear hp
   have hoff : Off (One g) ap := hp4.off Bm
   go_wp2_with fail
   have hSj : (eU st0 (bD (s.data.toList :: ls.take j))).1.length = 25 := by rw [oP, hst1]
   have hkj := yO (bD (s.data.toList :: ls.take j)) st0 hst2
   refine (b0b g (eU st0 (bD (s.data.toList :: ls.take j))) ap np cp (ls.getD j []) wr hSj hkj hp2 hp1 hgj hr3 hoff).mono ?_
   rintro e w4 ⟨rfl, hg4, hf4⟩
   have hfr4 : Fr Nob w w4 := hfj.new hf4 Bm
   rw [← jG] at hg4
   have hfl : bD (s.data.toList :: ls.take j) ++ cA (ls.getD j []) = bD (s.data.toList :: ls.take (j + 1)) := by
    rw [List.take_succ_eq_append_getElem hlt, ← List.cons_append, nP, lC, List.getD_eq_getElem?_getD, List.getElem?_eq_getElem hlt]; rfl
   rw [hfl] at hg4
   clear hSj hkj hr3 hgj hfj hf4 hfl
   go_wp2_with fail
   go_roundw
   case rel => exact ⟨j + 1, by omega, by go_num, hg4, hfr4⟩
   case measure => simp [intOf]; omega
  ·have hge : ¬ ((j : Int) < (ls.length : Int)) := by omega
   have hjn : j = ls.length := by omega
   have hSj : (eU st0 (bD (s.data.toList :: ls.take j))).1.length = 25 := by rw [oP, hst1]
   have hkj := yO (bD (s.data.toList :: ls.take j)) st0 hst2
   have hft : bD (s.data.toList :: ls.take j) = tN s.data.toList ls := by rw [hjn, List.take_length]; rfl
   rw [hft] at hgj hSj hkj
   generalize hst : eU st0 (tN s.data.toList ls) = st at *
   have HST := qH hst; clear hst
   have HJN := qH hjn; clear hjn
   clear hft
   go_wp2_with fail
   refine (h0E g st.1 st.2 6 32 wr hSj hkj Ab hgj).mono ?_
   rintro e w4 ⟨v, rfl, hown, hf4⟩
   go_wp2_with fail
   go_ret
   refine ⟨v, rfl, ?_, hfj.new hf4 Bm⟩
   have := hown.mono (base' := g) (by have := hgj.lt; omega)
   rw [HG.out]
   unfold dX bH
   rw [← HST0.out, HST.out]
   exact this
theorem n0Y (s : ByteArray) (a : Option Addr) (c : Nat) (ls : List (List UInt8)) (w : World) (hs : s.size ≤ 1000000) (hm : ls.length ≤ 1000000) (hb : PartsAt w a ls) :
  Calls prog 115 #[.string s, .slice a ls.length c] w fun r w' => ∃ v, r = .returned v ∧ Own w' w.heap.size 5 1 v 32 (bs (dX s.data.toList ls)) ∧ Fr Nob w w' := by
 go_enter func115, ntmps115
 go_wp2_with fail
 refine (h0F s a c ls w hs hm hb).mono ?_
 rintro e w4 ⟨v, rfl, hown, hf4⟩
 go_wp2_with fail
 go_ret
 exact ⟨v, rfl, hown, hf4⟩
end
section
open Go.RowKit Go.Mv Mvp
end
section
open Go.RowKit Go.Mv Mvp
attribute [local irreducible] cO dD toB aW bG cR eD bH
theorem h0G (s : ByteArray) (w : World) (hs : s.size ≤ 1000000) :
  Calls prog 178 #[.string s] w fun r w' => r = .returned (.string (mkS (bH s.data.toList 6 32))) ∧ Fr Nob w w' := by
 go_enter func178, ntmps178
 go_wp2_with fail
 refine (tM s 6 32 w hs Ab).mono ?_
 rintro e w3 ⟨rfl, hf3⟩
 go_wp2_with fail
 go_ret
 exact ⟨rfl, hf3⟩
theorem c0N (s : ByteArray) (n : Nat) (w : World) (hs : s.size ≤ 1000000) (hn : n ≤ 20000) :
  Calls prog 125 #[.string s, .int .i64 (n : Int)] w fun r w' => r = .returned (.string (mkS (bH s.data.toList 31 n))) ∧ Fr Nob w w' := by
 go_enter func125, ntmps125
 go_wp2_with fail
 refine (tM s 31 n w hs hn).mono ?_
 rintro e w3 ⟨rfl, hf3⟩
 go_wp2_with fail
 go_ret
 exact ⟨rfl, hf3⟩
theorem oU {w : World} {base : Nat} {T : TypeId} {v : Value} {n : Nat} {l : List UInt8} (h : Own w base T 1 v n (bs l)) : ∃ a c, v = .slice a n c ∧ RdB w a n l := by
 obtain ⟨a, c, hv, _, hr, _⟩ := h.form
 rw [Nat.mul_one] at hr
 exact ⟨a, c, hv, hr⟩
end
end Go.Proofs.YtemcankmggmgoaaGreat
namespace Go.Mv
open Go.RowKit Go.ChangeShapes Go.WideShapes
def ss (l : List (List UInt8)) : List Value := l.map fun x => .string (mkS x)
theorem d0X (l : List (List UInt8)) : (ss l).length = l.length := by simp [ss]
theorem q0k (l : List (List UInt8)) (i : Nat) (hi : i < l.length) : (ss l)[i]? = some (.string (mkS (l.getD i []))) := by
 simp [ss, List.getD_eq_getElem?_getD, hi]
section
variable {H : Type} {enc : TypeId × Value → H} {P : Program} {w : World} {base : Nat} {held : Bool} {spare : Nat → Bool}
theorem nQ {e : TypeId} : ∀ {ds : List (DataW H)} {d : DataW H}, d ∈ ds → ∀ n ∈ d.weights P e, n ∈ DataW.weightsAll P e ds
 | [], _, h, _, _ => by simp at h
 | d0 :: ds, d, h, n, hn => by
  simp only [DataW.weightsAll, List.mem_append]
  rcases List.mem_cons.1 h with rfl | h
  ·exact .inl hn
  ·exact .inr (nQ h n hn)
end
end Go.Mv
namespace Go.Proofs.YtemcankmggmgoaaGreat
open Go.RowKit Go.Mv Mvp
attribute [local irreducible] cO dD toB aW bG cR eD bH eU cA bD
theorem wW (l : List UInt8) : (cA l).length = 4 + l.length := by unfold cA; simp [yS]
def vR (ls : List (List UInt8)) : Nat := (ls.map List.length).foldr (· + ·) 0
theorem tO (a b : List (List UInt8)) : vR (a ++ b) = vR a + vR b := by
 induction a with
 | nil => simp [vR]
 | cons x a ih => simp only [vR, List.cons_append, List.map_cons, List.foldr_cons] at *; omega
theorem c0O (ls : List (List UInt8)) : (bD ls).length = 4 * ls.length + vR ls := by
 induction ls with
 | nil => rw [c0M]; rfl
 | cons a b ih => rw [b0a, List.length_append, wW, ih, List.length_cons]; simp only [vR, List.map_cons, List.foldr_cons]; omega
theorem h0H (ls : List (List UInt8)) (j : Nat) : vR (ls.take j) ≤ vR ls := by
 have := tO (ls.take j) (ls.drop j)
 rw [List.take_append_drop] at this; omega
theorem k0C (ls : List (List UInt8)) (j : Nat) (hj : j < ls.length) : (ls.getD j []).length ≤ vR ls := by
 have h1 := tO (ls.take j) (ls.drop j)
 rw [List.take_append_drop, List.drop_eq_getElem_cons hj] at h1
 have h2 : vR (ls[j] :: ls.drop (j + 1)) = ls[j].length + vR (ls.drop (j + 1)) := by simp only [vR, List.map_cons, List.foldr_cons]
 have h3 : ls.getD j [] = ls[j] := by simp [List.getD_eq_getElem?_getD, hj]
 rw [h3]; omega
theorem k0D (s : ByteArray) (a : Option Addr) (c : Nat) (ls : List (List UInt8)) (w : World) (hs : s.size + vR ls ≤ 100000) (hm : ls.length ≤ 1000) (hb : Rd w a ls.length (ss ls)) :
  Calls prog 126 #[.string s, .slice a ls.length c] w fun r w' => r = .returned (.string (mkS (dX s.data.toList ls))) ∧ Fr Nob w w' := by
 go_enter func126, ntmps126
 go_wp2_with fail
 refine (wU s w Ab).mono ?_
 rintro e w1 ⟨rfl, hf1⟩
 have hsl : s.data.toList.length = s.size := g0Y s
 go_wp2_with fail
 go_loopw [6, 5] (fun i q wr => ∃ j : Nat, j ≤ ls.length ∧ i = .int .i64 (j : Int) ∧ q = .string (mkS (bD (s.data.toList :: ls.take j))) ∧ Fr Nob w wr) (fun i _ _ => (ls.length - intOf i).toNat)
 case atStart => exact ⟨0, by omega, rfl, by rw [List.take_zero, lC], hf1⟩
 case round =>
  obtain ⟨j, hj, rfl, rfl, hfj⟩ := hrel
  clear hf1
  have hql : (mkS (bD (s.data.toList :: ls.take j))).size ≤ 200000 := by
   rw [aZ, c0O]
   have h1 := h0H ls j
   have h2 : vR (s.data.toList :: ls.take j) = s.data.toList.length + vR (ls.take j) := by simp [vR]
   rw [h2, List.length_cons, List.length_take]; omega
  by_cases hlt : j < ls.length
  ·have hltI : (j : Int) < (ls.length : Int) := by omega
   obtain ⟨b, o, rfl, hat⟩ := (hb.still hfj).at Ab
   have hc : wr.cell? ⟨b, o + j, none⟩ = some (.string (mkS (ls.getD j []))) := hat j _ (q0k ls j hlt)
   have hxl := k0C ls j hlt
   have hfl : bD (s.data.toList :: ls.take j) ++ cA (ls.getD j []) = bD (s.data.toList :: ls.take (j + 1)) := by
    rw [List.take_succ_eq_append_getElem hlt, ← List.cons_append, nP, lC, List.getD_eq_getElem?_getD, List.getElem?_eq_getElem hlt]; rfl
   have hcat : ¬ 9223372036854775807 < (mkS (bD (s.data.toList :: ls.take j))).size + (mkS (cA (ls.getD j []))).size := by
    rw [aZ (cA _), wW]; omega
   generalize hx : ls.getD j [] = x at *
   have HX := qH hx; clear hx
   have hfl2 := hfl
   have HFL := qH hfl2; clear hfl hfl2
   generalize hq : mkS (bD (s.data.toList :: ls.take j)) = q at *
   have HQ := qH hq; clear hq
   have HQL := qH hql; clear hql
   have HSL := qH hsl; clear hsl
   clear hat
   go_wp2_with fail
   refine (wU (mkS x) wr (by rw [aZ]; omega)).mono ?_
   rintro e w4 ⟨rfl, hf4⟩
   rw [bS]
   have hfr4 := hfj.then hf4
   clear hfj hf4
   go_wp2_with fail
   go_roundw
   case rel => exact ⟨j + 1, by omega, by go_num, by rw [← HQ.out, qK, HFL.out], hfr4⟩
   case measure => simp [intOf]; omega
  ·have hge : ¬ ((j : Int) < (ls.length : Int)) := by omega
   have hjn : j = ls.length := by omega
   have hft : bD (s.data.toList :: ls.take j) = tN s.data.toList ls := by rw [hjn, List.take_length]; rfl
   rw [hft] at hql ⊢
   have HJN := qH hjn; clear hjn
   clear hft
   go_wp2_with fail
   refine (h0G (mkS (tN s.data.toList ls)) wr Ab).mono ?_
   rintro e w4 ⟨rfl, hf4⟩
   rw [bS]
   go_wp2_with fail
   go_ret
   exact ⟨rfl, hfj.then hf4⟩
end Go.Proofs.YtemcankmggmgoaaGreat
namespace Go.Mv
open Go.RowKit
variable {P : Program}
theorem Own.ne {w : World} {base sz n g : Nat} {T T' : TypeId} {v : Value} {L L' : List Value} (h : Own w base T sz v n L) (hg : Has w g L' T') (hT : T ≠ T') : ¬ kH v g := by
 intro hv
 obtain ⟨_, ⟨rfl, _⟩ | ⟨g', o, cap, B, rfl, _, hg', _⟩⟩ := h
 ·cases hv
 ·have : g' = g := by simpa [kH, Value.ownBlock] using hv
  subst this
  obtain ⟨_, _, h1, _⟩ := hg
  obtain ⟨_, _, h2, _⟩ := hg'
  rw [h1] at h2
  simp at h2
  exact hT h2.2.1.symm
end Go.Mv
namespace Go.Mv
open Go.RowKit
variable {P : Program}
theorem _root_.Bh {p : Prop} (h : p := by rw [hsz]; omega) : p := h
theorem dH {w : World} {ops : Array Oper} {rest : List Oper} {o : Oper} {a : Act} {Q : Exit → Act → World → Prop} {t e : TypeId} {k : Nat} {parts : Array (Nat × Operand)} (hgd : o.guard = none) (ho : o.op = .buildSlice t k parts)
  (hu : P.underlying t = some (.slice e)) {z : Value} {by_ : Nat} (hi0 : (P.info? e).map (fun i => (i.zero, i.size, i.bytes)) = some (some z, 1, by_)) (vs : List Value) (hp : (parts.toList.map fun p => (p.1, a.eval p.2)) = (vs.zipIdx 0).map fun x => (x.2, x.1))
  (hv : ∀ v ∈ vs, v.cells = #[v]) (hk : vs.length = k) (hz : z.cells.size = 1)
  (h : ∀ w', Has w' w.heap.size vs e → Fr Nob w w' → w'.heap.size = w.heap.size + 1 → wpList P ops Q rest (a.put o.dst (.slice (some ⟨w.heap.size, 0, none⟩) k k)) w') (hk0 : 0 < k := by decide) (hk24 : k ≤ 16777216 := by decide) : wpList P ops Q (o :: rest) a w := by
 have _hz := hz
 obtain ⟨i, hi, hz0⟩ : ∃ i, P.info? e = some i ∧ (i.zero, i.size, i.bytes) = (some z, 1, by_) := by simpa using hi0
 simp only [Prod.mk.injEq] at hz0
 obtain ⟨hz1, hsz, hby⟩ := hz0
 have hf : Instr.fill (fun j => some (j * i.size, i.size)) ((Array.range (k * i.size)).map (z.cells[· % z.cells.size]!)) (parts.map fun (i, x) => (i, a.eval x)).toList = some vs.toArray := by
  rw [show (parts.map fun (i, x) => (i, a.eval x)).toList = (parts.toList.map fun p => (p.1, a.eval p.2)) by simp, hp, hsz]
  exact Great.fill_flat vs _ hv (by simp [hk])
 exact wpList_buildSlice hgd t e k _ ho _ i _ hu hi hz1 Bh Bh hf (h _ (Has.new w vs.toArray e) ((Fr.refl _ w).alloc _) Ae)
theorem cD {w : World} {ops : Array Oper} {rest : List Oper} {o : Oper} {a : Act} {Q : Exit → Act → World → Prop} {t : TypeId} {parts : Array (Nat × Operand)} (hgd : o.guard = none) (ho : o.op = .build t parts) (cells : Array Value)
  (hb : P.built t (parts.toList.map fun p => (p.1, a.eval p.2)) = some cells) (h : wpList P ops Q rest (a.put o.dst (.agg cells)) w) : wpList P ops Q (o :: rest) a w :=
 d0W hgd ho cells (by rw [show (parts.map fun (i, x) => (i, a.eval x)).toList = (parts.toList.map fun p => (p.1, a.eval p.2)) by simp]; exact hb) h
theorem yT {w : World} {ops : Array Oper} {rest : List Oper} {o : Oper} {a : Act} {Q : Exit → Act → World → Prop} {ty : TypeId} {x : Operand} (hgd : o.guard = none) (ho : o.op = .load ty x) {d : TypeDesc} (hu : P.underlying ty = some d) (hd : d.isRow = true) {g p : Nat} (hx : a.eval x = .pointer (some ⟨g, p, none⟩))
  {cs : List Value} (hg : At w g p cs) (hi : (P.info? ty).map (·.size) = some cs.length)
  (h : wpList P ops Q rest (a.put o.dst (.agg cs.toArray)) w) : wpList P ops Q (o :: rest) a w :=
 wpList_load_mid hgd ty x ho g p hx cs d (fun j v hv => hg j v hv) hu hd hi h
end Go.Mv
namespace Go.Proofs.YtemcankmggmgoaaGreat
open Go.RowKit Go.Mv Mvp
attribute [local irreducible] cO dD toB aW bG cR eD bH eU cA bD dX
theorem yU : (prog.info? 22).map (fun i => (i.zero, i.size, i.bytes)) = some (some (.slice none 0 0), 1, 24) := by kernel_rfl
theorem sB : (prog.info? 9).map (fun i => (i.zero, i.size, i.bytes)) = some (some (.string ByteArray.empty), 1, 16) := by kernel_rfl
def Parts (w : World) : List Value → List (List UInt8) → Prop
 | [], [] => True
 | v :: vs, l :: ls => PartIs w v l ∧ Parts w vs ls
 | _, _ => False
theorem Parts.len {w : World} : ∀ {vs : List Value} {ls : List (List UInt8)}, Parts w vs ls → vs.length = ls.length
 | [], [], _ => rfl
 | _ :: _, _ :: _, h => by simp only [List.length_cons]; rw [Parts.len h.2]
 | [], _ :: _, h => h.elim
 | _ :: _, [], h => h.elim
theorem Parts.get {w : World} : ∀ {vs : List Value} {ls : List (List UInt8)}, Parts w vs ls → ∀ (i : Nat) (v : Value), vs[i]? = some v → ∃ l : List UInt8, ls[i]? = some l ∧ PartIs w v l
 | [], [], _, i, v, h => by simp at h
 | x :: vs, l :: ls, h, 0, v, hv => by simp only [List.getElem?_cons_zero, Option.some.injEq] at hv; subst hv; exact ⟨l, rfl, h.1⟩
 | x :: vs, l :: ls, h, i + 1, v, hv => by simp only [List.getElem?_cons_succ] at hv ⊢; exact Parts.get h.2 i v hv
 | [], _ :: _, h, _, _, _ => h.elim
 | _ :: _, [], h, _, _, _ => h.elim
theorem Parts.at {w : World} {g : Nat} {T : TypeId} {vs : List Value} {ls : List (List UInt8)} (h : Parts w vs ls) (hg : Has w g vs T) : PartsAt w (some ⟨g, 0, none⟩) ls :=
 ⟨vs, by have := Rd.whole hg; rwa [h.len] at this, h.get⟩
theorem fB {w : World} {base n : Nat} {T : TypeId} {v : Value} {l : List UInt8} (h : Own w base T 1 v n (bs l)) (hn : n ≤ 1000000) : PartIs w v l := by
 have h0 := h
 obtain ⟨a, c, rfl, hc, hr, -⟩ := h.form
 rw [Nat.mul_one] at hr
 refine ⟨a, n, c, rfl, hc, hn, hr, ?_⟩
 intro x hx
 exact (h0.lt (by rw [hx]; rfl)).2
def LogAt (w : World) (base g : Nat) (l : List UInt8) : Prop := ∃ v, Has w g [v] 228 ∧ Own w base 5 1 v 32 (bs l)
theorem LogAt.still {w w' : World} {base g : Nat} {l : List UInt8} (h : LogAt w base g l) (hf : Fr Nob w w') : LogAt w' base g l := by
 obtain ⟨v, h1, h2⟩ := h; exact ⟨v, h1.keep hf id, h2.still hf⟩
theorem LogAt.other {w w' : World} {base g g' : Nat} {l : List UInt8} (h : LogAt w base g l) (hf : Fr (One g') w w') (hne : g ≠ g') {L : List Value} {T : TypeId} (hg : Has w g' L T) (hT : 5 ≠ T) : LogAt w' base g l := by
 obtain ⟨v, h1, h2⟩ := h
 exact ⟨v, h1.keep hf hne, h2.keep hf (fun k hk (e : k = g') => h2.ne hg hT (e ▸ hk))⟩
theorem LogAt.lt {w : World} {base g : Nat} {l : List UInt8} (h : LogAt w base g l) : g < w.heap.size := by obtain ⟨v, h1, _⟩ := h; exact h1.lt
def RLogAt (w : World) (g : Nat) (l : List UInt8) : Prop := Has w g [.string (mkS l)] 197
theorem h0I (a : Option Addr) (n c : Nat) : prog.built 228 [(0, .slice a n c)] = some #[.slice a n c] := by kernel_rfl
theorem f0M (s : ByteArray) : prog.built 197 [(0, .string s)] = some #[.string s] := by kernel_rfl
def k0e : List UInt8 := [108, 111, 103]
def tP : List UInt8 := [115, 97, 121]
def a0y : List UInt8 := [97, 115, 107]
def nR : List UInt8 := [97, 115, 107, 101, 100]
theorem h0J : (⟨#[108, 111, 103]⟩ : ByteArray) = mkS k0e := rfl
theorem h0K : (⟨#[115, 97, 121]⟩ : ByteArray) = mkS tP := rfl
theorem h0L : (⟨#[97, 115, 107]⟩ : ByteArray) = mkS a0y := rfl
theorem b0d : (⟨#[97, 115, 107, 101, 100]⟩ : ByteArray) = mkS nR := rfl
theorem hZ (k : List UInt8) (ls : List (List UInt8)) : (dX k ls).length = 32 := by unfold dX; exact tF _ _ _
theorem d0Y (k : List UInt8) (hk : k.length ≤ 100) (g c : Nat) (vs : List Value) (ls : List (List UInt8)) (w : World) (hh : Has w g vs 22) (hp : Parts w vs ls) (hm : ls.length ≤ 1000000) :
  Calls prog 169 #[.string (mkS k), .slice (some ⟨g, 0, none⟩) ls.length c] w fun r w' => ∃ v, r = .returned v ∧ Own w' w.heap.size 5 1 v 32 (bs (dX k ls)) ∧ Fr Nob w w' := by
 have := h0F (mkS k) (some ⟨g, 0, none⟩) c ls w (by rw [aZ]; omega) hm (hp.at hh)
 rwa [bS] at this
theorem yV (k : List UInt8) (g c : Nat) (ls : List (List UInt8)) (w : World) (hh : Has w g (ss ls) 9) (hs : k.length + vR ls ≤ 100000) (hm : ls.length ≤ 1000) :
  Calls prog 126 #[.string (mkS k), .slice (some ⟨g, 0, none⟩) ls.length c] w fun r w' => r = .returned (.string (mkS (dX k ls))) ∧ Fr Nob w w' := by
 have hr := Rd.whole hh
 rw [d0X] at hr
 have := k0D (mkS k) (some ⟨g, 0, none⟩) c ls w (by rw [aZ]; exact hs) hm hr
 rwa [bS] at this
theorem _root_.Au {p : Prop} (h : p := by simp; rfl) : p := h
theorem f0N (s : ByteArray) (w : World) (hs : s.size ≤ 1000000) :
  Calls prog 153 #[.string s] w fun r w' => ∃ g, r = .returned (.pointer (some ⟨g, 0, none⟩)) ∧ w.heap.size ≤ g ∧ LogAt w' w.heap.size g (dX k0e [s.data.toList]) ∧ Fr Nob w w' := by
 go_enter func153, ntmps153
 go_wp2_with (with_reducible refine AA 4 ?_)
 refine fV rfl rfl underlying9 underlying22 underlying5 rfl Al w.heap.size (Nat.le_refl _) ?_
 intro cap w1 hown1 hf1 hz1
 clear hz1
 go_wp2_with (with_reducible refine AA 5 ?_)
 refine dH rfl rfl underlying39 yU [.slice (some ⟨w.heap.size, 0, none⟩) s.size cap] rfl Au rfl rfl ?_
 intro w2 hh2 hf2 hz2
 clear hz2
 have hfr2 := hf1.then hf2
 have hp2 : Parts w2 [.slice (some ⟨w.heap.size, 0, none⟩) s.size cap] [s.data.toList] := ⟨fB (hown1.still hf2) hs, trivial⟩
 clear hown1 hf1 hf2
 have hb2 : w.heap.size ≤ w2.heap.size := hfr2.size
 generalize hgw : w.heap.size = g0 at *
 have HG := qH hgw; clear hgw
 generalize w1.heap.size = g1 at *
 rw [h0J]
 go_wp2_with fail
 refine (d0Y k0e Ac _ _ _ _ w2 hh2 hp2 Ae).mono ?_
 rintro e w3 ⟨v3, rfl, hown3, hf3⟩
 have hfr3 := hfr2.then hf3
 have hf3s := hf3.size
 have hown3' := hown3.mono (base' := g0) hb2
 clear hown3 hf3 hfr2 hh2 hp2
 obtain ⟨a3, c3, rfl, -⟩ := oU hown3'
 go_wp2_with (with_reducible refine AA 7 ?_)
 refine cD rfl rfl _ (h0I a3 32 c3) ?_
 refine wR rfl rfl rfl [.slice a3 32 c3] rfl ?_
 intro w4 hh4 hf4 hz4
 clear hz4
 go_wp2_with fail
 go_ret
 rw [HG.out]
 exact ⟨_, rfl, Nat.le_trans hb2 hf3s, ⟨_, hh4, hown3'.still hf4⟩, hfr3.then hf4⟩
theorem LogAt.store {w : World} {base g : Nat} {v0 v : Value} {l : List UInt8} (h0 : Has w g [v0] 228) (h : Own w base 5 1 v 32 (bs l)) : LogAt (w.setCell ⟨g, 0, none⟩ v) base g l := by
 refine ⟨v, by simpa using h0.set 0 v, h.keep ((Fr.refl (One g) w).setCell g 0 none v (fun _ => rfl)) (fun k hk (e : k = g) => h.ne h0 Ac (e ▸ hk))⟩
theorem RLogAt.store {w : World} {g : Nat} {v0 : Value} {l : List UInt8} (h0 : Has w g [v0] 197) : RLogAt (w.setCell ⟨g, 0, none⟩ (.string (mkS l))) g l := by
 simpa [RLogAt] using h0.set 0 (.string (mkS l))
theorem oV {w w' : World} (h : Fr Nob w w') (g : Nat) (v : Value) : Fr (One g) w (w'.setCell ⟨g, 0, none⟩ v) := (h.mono (fun _ _ t => t.elim)).setCell g 0 none v (fun _ => rfl)
theorem n0Z (base g : Nat) (st : List UInt8) (s : ByteArray) (b : Option Addr) (n c : Nat) (l : List UInt8) (w : World) (hs : s.size ≤ 1000000) (hl : LogAt w base g st) (hb : PartIs w (.slice b n c) l) (hbase : base ≤ w.heap.size) :
  Calls prog 154 #[.pointer (some ⟨g, 0, none⟩), .string s, .slice b n c] w fun r w' => r = .returned (.tuple #[]) ∧ LogAt w' base g (dX tP [st, s.data.toList, l]) ∧ Fr (One g) w w' := by
 obtain ⟨v, hg, hown⟩ := hl
 obtain ⟨a0, c0, rfl, -⟩ := oU hown
 have hc := hg.cell (i := 0) rfl
 go_enter func154, ntmps154
 go_wp2_with (with_reducible refine AA 12 ?_)
 refine fV rfl rfl underlying9 underlying22 underlying5 rfl Al w.heap.size (Nat.le_refl _) ?_
 intro cap w1 hown1 hf1 hz1
 clear hz1
 go_wp2_with (with_reducible refine AA 14 ?_)
 refine dH rfl rfl underlying39 yU [.slice a0 32 c0, .slice (some ⟨w.heap.size, 0, none⟩) s.size cap, .slice b n c] rfl (by simp; exact ⟨rfl, rfl, rfl⟩) rfl rfl ?_
 intro w2 hh2 hf2 hz2
 clear hz2
 have hfr2 := hf1.then hf2
 have hp2 : Parts w2 [.slice a0 32 c0, .slice (some ⟨w.heap.size, 0, none⟩) s.size cap, .slice b n c] [st, s.data.toList, l] := ⟨fB (hown.still hfr2) Ac, fB (hown1.still hf2) hs, hb.still hfr2, trivial⟩
 clear hown1 hf1 hf2
 have hb2 : base ≤ w2.heap.size := Nat.le_trans hbase hfr2.size
 generalize w.heap.size = g0 at *
 generalize w1.heap.size = g1 at *
 rw [h0K]
 go_wp2_with fail
 refine (d0Y tP Ac _ _ _ _ w2 hh2 hp2 Ae).mono ?_
 rintro e w3 ⟨v3, rfl, hown3, hf3⟩
 have hfr3 := hfr2.then hf3
 have hg3 := hg.keep hfr3 id
 have hown3' := hown3.mono (base' := base) hb2
 obtain ⟨a3, c3, rfl, -⟩ := oU hown3'
 clear hown3 hf3 hfr2 hh2 hp2 hown hc hg
 have hc3 := hg3.cell (i := 0) rfl
 have hz3 := hg3.free 0 Ae
 go_wp2_with fail
 go_end0
 exact ⟨rfl, LogAt.store hg3 hown3', oV hfr3 g _⟩
theorem o0a (base g : Nat) (st : List UInt8) (s : ByteArray) (m : Nat) (w : World) (hs : s.size ≤ 1000000) (hm : m ≤ 1024) (hl : LogAt w base g st) (hbase : base ≤ w.heap.size) :
  Calls prog 155 #[.pointer (some ⟨g, 0, none⟩), .string s, .int .i64 (m : Int)] w fun r w' => ∃ v, r = .returned (.tuple #[v, .int .i64 0]) ∧ Own w' base 5 1 v m (bs (bH (dX a0y [st, s.data.toList]) 31 m)) ∧ LogAt w' base g (dX nR [st, s.data.toList]) ∧ Fr (One g) w w' := by
 obtain ⟨v, hg, hown⟩ := hl
 obtain ⟨a0, c0, rfl, -⟩ := oU hown
 have hc := hg.cell (i := 0) rfl
 go_enter func155, ntmps155
 go_wp2_with (with_reducible refine AA 20 ?_)
 refine fV rfl rfl underlying9 underlying22 underlying5 rfl Al w.heap.size (Nat.le_refl _) ?_
 intro cap w1 hown1 hf1 hz1
 clear hz1
 go_wp2_with (with_reducible refine AA 21 ?_)
 refine dH rfl rfl underlying39 yU [.slice a0 32 c0, .slice (some ⟨w.heap.size, 0, none⟩) s.size cap] rfl (by simp; exact ⟨rfl, rfl⟩) rfl rfl ?_
 intro w2 hh2 hf2 hz2
 clear hz2
 have hfr2 := hf1.then hf2
 have hp2 : Parts w2 [.slice a0 32 c0, .slice (some ⟨w.heap.size, 0, none⟩) s.size cap] [st, s.data.toList] := ⟨fB (hown.still hfr2) Ac, fB (hown1.still hf2) hs, trivial⟩
 clear hown1 hf1 hf2
 have hb2 : base ≤ w2.heap.size := Nat.le_trans hbase hfr2.size
 generalize w.heap.size = g0 at *
 generalize w1.heap.size = g1 at *
 rw [h0L]
 go_wp2_with fail
 refine (d0Y a0y Ac _ _ _ _ w2 hh2 hp2 Ae).mono ?_
 rintro e w3 ⟨v3, rfl, hown3, hf3⟩
 have hfr3 := hfr2.then hf3
 have hb3 : base ≤ w3.heap.size := Nat.le_trans hb2 hf3.size
 have hg3 := hg.keep hfr3 id
 have hown3' := hown.still hfr3
 have hq3 := fB hown3 Ac
 obtain ⟨a3, n3, c3, rfl, hn3, hm3, hr3, ho3⟩ := hq3
 have e3 : n3 = 32 := by
  obtain ⟨_, _, hv, -⟩ := oU hown3
  cases hv; rfl
 subst e3
 clear hown3 hf3 hfr2 hh2 hp2 hown hc hg hm3
 have hc3 := hg3.cell (i := 0) rfl
 go_wp2_with fail
 refine (wV a3 32 c3 _ m w3 Ab Ac hn3 hr3 ho3).mono ?_
 rintro e w4 ⟨v4, rfl, hown4, hf4⟩
 have hout := hown4.mono (base' := base) hb3
 have hfr4 := hfr3.then hf4
 have hg4 := hg3.keep hf4 id
 have hown4' := hown3'.still hf4
 have hb4 : base ≤ w4.heap.size := Nat.le_trans hb3 hf4.size
 have hc4 := hg4.cell (i := 0) rfl
 clear hown4 hf4 hfr3 hg3 hown3' hr3 ho3 hn3 hc3
 go_wp2_with (with_reducible refine AA 31 ?_)
 refine fV rfl rfl underlying9 underlying22 underlying5 rfl Al w4.heap.size (Nat.le_refl _) ?_
 intro cap5 w5 hown5 hf5 hz5
 clear hz5
 go_wp2_with (with_reducible refine AA 32 ?_)
 refine dH rfl rfl underlying39 yU [.slice a0 32 c0, .slice (some ⟨w4.heap.size, 0, none⟩) s.size cap5] rfl (by simp; exact ⟨rfl, rfl⟩) rfl rfl ?_
 intro w6 hh6 hf6 hz6
 clear hz6
 have hf56 := hf5.then hf6
 have hfr6 := hfr4.then hf56
 have hp6 : Parts w6 [.slice a0 32 c0, .slice (some ⟨w4.heap.size, 0, none⟩) s.size cap5] [st, s.data.toList] := ⟨fB (hown4'.still hf56) Ac, fB (hown5.still hf6) hs, trivial⟩
 have hb6 : base ≤ w6.heap.size := Nat.le_trans hb4 hf56.size
 have hg6 := hg4.keep hf56 id
 have hout6 := hout.still hf56
 clear hown5 hf5 hf6 hf56 hfr4 hg4 hown4' hout hc4
 generalize w4.heap.size = g4 at *
 generalize w5.heap.size = g5 at *
 rw [b0d]
 go_wp2_with fail
 refine (d0Y nR Ac _ _ _ _ w6 hh6 hp6 Ae).mono ?_
 rintro e w7 ⟨v7, rfl, hown7, hf7⟩
 have hfr7 := hfr6.then hf7
 have hg7 := hg6.keep hf7 id
 have hout7 := hout6.still hf7
 have hown7' := hown7.mono (base' := base) hb6
 obtain ⟨a7, c7, rfl, -⟩ := oU hown7'
 obtain ⟨a8, c8, rfl, -⟩ := oU hout7
 have hc7 := hg7.cell (i := 0) rfl
 have hz7 := hg7.free 0 Ae
 clear hown7 hf7 hfr6 hg6 hout6 hh6 hp6
 go_wp2_with fail
 go_ret2
 exact ⟨_, rfl, hout7.keep ((Fr.refl (One g) w7).setCell g 0 none _ (fun _ => rfl)) (fun k hk (e : k = g) => hout7.ne hg7 Ac (e ▸ hk)), LogAt.store hg7 hown7', oV hfr7 g _⟩
theorem d0Z (s : ByteArray) (w : World) (hs : s.size ≤ 50000) :
  Calls prog 93 #[.string s] w fun r w' => ∃ g, r = .returned (.pointer (some ⟨g, 0, none⟩)) ∧ w.heap.size ≤ g ∧ RLogAt w' g (dX k0e [s.data.toList]) ∧ Fr Nob w w' := by
 obtain ⟨l, rfl⟩ : ∃ l, s = mkS l := ⟨s.data.toList, (iS s).symm⟩
 rw [aZ] at hs
 rw [bS]
 go_enter func93, ntmps93
 go_wp2_with (with_reducible refine AA 4 ?_)
 refine dH rfl rfl underlying40 sB (ss [l]) rfl (by simp [ss]; rfl) rfl rfl ?_
 intro w2 hh2 hf2 hz2
 clear hz2
 generalize w.heap.size = g0 at *
 rw [h0J]
 go_wp2_with fail
 refine (yV k0e _ _ _ w2 hh2 (by simp [vR, k0e]; omega) Ae).mono ?_
 rintro e w3 ⟨rfl, hf3⟩
 have hfr3 := hf2.then hf3
 clear hf2 hf3 hh2
 go_wp2_with (with_reducible refine AA 6 ?_)
 refine cD rfl rfl _ (f0M _) ?_
 refine wR rfl rfl rfl [.string (mkS (dX k0e [l]))] rfl ?_
 intro w4 hh4 hf4 hz4
 clear hz4
 go_wp2_with fail
 go_ret
 exact ⟨_, rfl, hfr3.size, hh4, hfr3.then hf4⟩
theorem nB (g : Nat) (st : List UInt8) (s t : ByteArray) (w : World) (hst : st.length = 32) (hs : s.size ≤ 40000) (ht : t.size ≤ 40000) (hl : RLogAt w g st) :
  Calls prog 94 #[.pointer (some ⟨g, 0, none⟩), .string s, .string t] w fun r w' => r = .returned (.tuple #[]) ∧ RLogAt w' g (dX tP [st, s.data.toList, t.data.toList]) ∧ Fr (One g) w w' := by
 obtain ⟨l, rfl⟩ : ∃ l, s = mkS l := ⟨s.data.toList, (iS s).symm⟩
 obtain ⟨k, rfl⟩ : ∃ l, t = mkS l := ⟨t.data.toList, (iS t).symm⟩
 rw [aZ] at hs ht
 rw [bS, bS]
 have hc := Has.cell hl (i := 0) rfl
 go_enter func94, ntmps94
 go_wp2_with (with_reducible refine AA 13 ?_)
 refine dH rfl rfl underlying40 sB (ss [st, l, k]) rfl (by simp [ss]; exact ⟨rfl, rfl, rfl⟩) rfl rfl ?_
 intro w2 hh2 hf2 hz2
 clear hz2
 generalize w.heap.size = g0 at *
 rw [h0K]
 go_wp2_with fail
 refine (yV tP _ _ _ w2 hh2 (by simp [vR, tP]; omega) Ae).mono ?_
 rintro e w3 ⟨rfl, hf3⟩
 have hfr3 := hf2.then hf3
 have hg3 : Has w3 g _ _ := Has.keep hl hfr3 id
 have hc3 := hg3.cell (i := 0) rfl
 have hz3 := hg3.free 0 Ae
 clear hf2 hf3 hh2 hc
 go_wp2_with fail
 go_end0
 exact ⟨rfl, RLogAt.store hg3, oV hfr3 g _⟩
theorem yW (g : Nat) (st : List UInt8) (s : ByteArray) (m : Nat) (w : World) (hst : st.length = 32) (hs : s.size ≤ 40000) (hm : m ≤ 1024) (hl : RLogAt w g st) :
  Calls prog 97 #[.pointer (some ⟨g, 0, none⟩), .string s, .int .i64 (m : Int)] w fun r w' => r = .returned (.string (mkS (bH (dX a0y [st, s.data.toList]) 31 m))) ∧ RLogAt w' g (dX nR [st, s.data.toList]) ∧ Fr (One g) w w' := by
 obtain ⟨l, rfl⟩ : ∃ l, s = mkS l := ⟨s.data.toList, (iS s).symm⟩
 rw [aZ] at hs
 rw [bS]
 have hc := Has.cell hl (i := 0) rfl
 go_enter func97, ntmps97
 go_wp2_with (with_reducible refine AA 13 ?_)
 refine dH rfl rfl underlying40 sB (ss [st, l]) rfl (by simp [ss]; exact ⟨rfl, rfl⟩) rfl rfl ?_
 intro w2 hh2 hf2 hz2
 clear hz2
 generalize w.heap.size = g0 at *
 rw [h0L]
 go_wp2_with fail
 refine (yV a0y _ _ _ w2 hh2 (by simp [vR, a0y]; omega) Ae).mono ?_
 rintro e w3 ⟨rfl, hf3⟩
 have hfr3 := hf2.then hf3
 have hg3 : Has w3 g _ _ := Has.keep hl hfr3 id
 clear hf2 hf3 hh2 hc
 have hl2 := hZ a0y [st, l]
 generalize htl : dX a0y [st, l] = tl at *
 have HTL := qH htl; clear htl
 have HL2 := qH hl2; clear hl2
 go_wp2_with fail
 refine (c0N (mkS tl) m w3 (by rw [aZ, HL2.out]; omega) Ab).mono ?_
 rintro e w4 ⟨rfl, hf4⟩
 rw [bS]
 have hfr4 := hfr3.then hf4
 have hg4 : Has w4 g _ _ := hg3.keep hf4 id
 have hc4 := hg4.cell (i := 0) rfl
 clear hfr3 hf4 hg3
 go_wp2_with (with_reducible refine AA 23 ?_)
 refine dH rfl rfl underlying40 sB (ss [st, l]) rfl (by simp [ss]; exact ⟨rfl, rfl⟩) rfl rfl ?_
 intro w5 hh5 hf5 hz5
 clear hz5
 generalize w4.heap.size = g4 at *
 rw [b0d]
 go_wp2_with fail
 refine (yV nR _ _ _ w5 hh5 (by simp [vR, nR]; omega) Ae).mono ?_
 rintro e w6 ⟨rfl, hf6⟩
 have hf56 := hf5.then hf6
 have hfr6 := hfr4.then hf56
 have hg6 : Has w6 g _ _ := hg4.keep hf56 id
 have hc6 := hg6.cell (i := 0) rfl
 have hz6 := hg6.free 0 Ae
 clear hf5 hf6 hf56 hh5 hc4 hfr4 hg4
 go_wp2_with fail
 go_ret
 rw [HTL.out]
 exact ⟨rfl, RLogAt.store hg6, oV hfr6 g _⟩
end Go.Proofs.YtemcankmggmgoaaGreat
namespace Go.Mv
open Go.RowKit
variable {P : Program}
structure St (S : Nat → Prop) (w0 w : World) (bl : List (Nat × List Value × TypeId)) : Prop where
 fr : Fr S w0 w
 own : ∀ x ∈ bl, w0.heap.size ≤ x.1 ∨ S x.1
 has : ∀ x ∈ bl, Has w x.1 x.2.1 x.2.2
 ne : bl.Pairwise fun x y => x.1 ≠ y.1
theorem St.start (S : Nat → Prop) (w : World) : St S w w [] := ⟨Fr.refl _ _, by simp, by simp, List.Pairwise.nil⟩
theorem St.at {S : Nat → Prop} {w0 w : World} {bl : List (Nat × List Value × TypeId)} (h : St S w0 w bl) (i : Nat) {g : Nat} {L : List Value} {T : TypeId} (hi : bl[i]? = some (g, L, T)) : Has w g L T :=
 h.has _ (List.mem_of_getElem? hi)
theorem St.neAt {S : Nat → Prop} {w0 w : World} {bl : List (Nat × List Value × TypeId)} (h : St S w0 w bl) {i j : Nat} {x y : Nat × List Value × TypeId} (hi : bl[i]? = some x) (hj : bl[j]? = some y) (hij : i ≠ j) : x.1 ≠ y.1 := by
 obtain ⟨hi1, rfl⟩ := List.getElem?_eq_some_iff.1 hi
 obtain ⟨hj1, rfl⟩ := List.getElem?_eq_some_iff.1 hj
 rcases Nat.lt_or_ge i j with k | k
 ·exact List.pairwise_iff_getElem.1 h.ne i j hi1 hj1 k
 ·exact (List.pairwise_iff_getElem.1 h.ne j i hj1 hi1 Ab).symm
theorem St.keep {S : Nat → Prop} {w0 w w' : World} {bl : List (Nat × List Value × TypeId)} (h : St S w0 w bl) (hf : Fr Nob w w') : St S w0 w' bl :=
 ⟨h.fr.same hf, h.own, fun x hx => (h.has x hx).keep hf id, h.ne⟩
theorem St.drew {S : Nat → Prop} {w0 w : World} {bl : List (Nat × List Value × TypeId)} (h : St S w0 w bl) : St S w0 w.drew bl := ⟨h.fr.drew, h.own, h.has, h.ne⟩
theorem St.drewN {S : Nat → Prop} {w0 w : World} {bl : List (Nat × List Value × TypeId)} (h : St S w0 w bl) (n : Nat) : St S w0 (w.drewN n) bl := ⟨h.fr.drewN n, h.own, h.has, h.ne⟩
theorem St.less {S : Nat → Prop} {w0 w : World} {bl bl' : List (Nat × List Value × TypeId)} (h : St S w0 w bl) (hs : bl'.Sublist bl) : St S w0 w bl' :=
 ⟨h.fr, fun x hx => h.own x (hs.subset hx), fun x hx => h.has x (hs.subset hx), h.ne.sublist hs⟩
theorem St.new {S : Nat → Prop} {w0 w w' : World} {bl : List (Nat × List Value × TypeId)} (h : St S w0 w bl) (hf : Fr Nob w w') {g : Nat} {L : List Value} {T : TypeId} (hg : Has w' g L T) (hn : w.heap.size ≤ g) : St S w0 w' (bl ++ [(g, L, T)]) := by
 refine ⟨h.fr.same hf, ?_, ?_, ?_⟩
 ·intro x hx
  rcases List.mem_append.1 hx with hx | hx
  ·exact h.own x hx
  ·simp only [List.mem_singleton] at hx
   subst hx
   exact .inl (Nat.le_trans h.fr.size hn)
 ·intro x hx
  rcases List.mem_append.1 hx with hx | hx
  ·exact (h.has x hx).keep hf id
  ·simp only [List.mem_singleton] at hx
   subst hx
   exact hg
 ·rw [List.pairwise_append]
  refine ⟨h.ne, List.pairwise_singleton _ _, ?_⟩
  intro x hx y hy
  simp only [List.mem_singleton] at hy
  subst hy
  have := (h.has x hx).lt
  show x.1 ≠ g
  omega
theorem St.put {S : Nat → Prop} {w0 w w' : World} {bl : List (Nat × List Value × TypeId)} (h : St S w0 w bl) (i : Nat) {g : Nat} {L L' : List Value} {T : TypeId} (hi : bl[i]? = some (g, L, T)) (hf : Fr (One g) w w') (hg : Has w' g L' T) : St S w0 w' (bl.set i (g, L', T)) := by
 obtain ⟨hi1, hi2⟩ := List.getElem?_eq_some_iff.1 hi
 refine ⟨?_, ?_, ?_, ?_⟩
 ·refine h.fr.trans hf fun j hj hjg => ?_
  have hjg' : j = g := hjg
  subst hjg'
  rcases h.own _ (List.mem_of_getElem? hi) with k | k
  ·have k' : w0.heap.size ≤ j := k
   omega
  ·exact k
 ·intro x hx
  rcases List.mem_or_eq_of_mem_set hx with hx | rfl
  ·exact h.own x hx
  ·exact h.own (g, L, T) (List.mem_of_getElem? hi)
 ·intro x hx
  obtain ⟨j, hj1, hj2⟩ := List.mem_iff_getElem.1 hx
  rw [List.length_set] at hj1
  rw [List.getElem_set] at hj2
  by_cases e : i = j
  ·rw [if_pos e] at hj2; subst hj2; exact hg
  ·rw [if_neg e] at hj2
   subst hj2
   refine (h.has _ (List.getElem_mem hj1)).keep hf fun t => ?_
   exact h.neAt hi (List.getElem?_eq_getElem hj1) e (Eq.symm t)
 ·rw [List.pairwise_iff_getElem]
  intro j k hj hk hjk
  have e := List.pairwise_iff_getElem.1 h.ne j k (by simpa using hj) (by simpa using hk) hjk
  rw [List.getElem_set, List.getElem_set]
  split
  ·rename_i e1; subst e1
   rw [hi2] at e
   split
   ·omega
   ·exact e
  ·split
   ·rename_i e2; subst e2; rw [hi2] at e; exact e
   ·exact e
theorem St.set {S : Nat → Prop} {w0 w : World} {bl : List (Nat × List Value × TypeId)} (h : St S w0 w bl) (i : Nat) {g : Nat} {L : List Value} {T : TypeId} (hi : bl[i]? = some (g, L, T)) (k : Nat) (v : Value) : St S w0 (w.setCell ⟨g, k, none⟩ v) (bl.set i (g, L.set k v, T)) :=
 h.put i hi ((Fr.refl (One g) w).setCell g k none v (fun _ => rfl)) ((h.at i hi).set k v)
theorem St.take {S : Nat → Prop} {w0 w : World} {bl : List (Nat × List Value × TypeId)} (h : St S w0 w bl) {g : Nat} {L : List Value} {T : TypeId} (hg : Has w g L T) (hS : S g) (hn : ∀ x ∈ bl, x.1 ≠ g) : St S w0 w (bl ++ [(g, L, T)]) := by
 refine ⟨h.fr, ?_, ?_, ?_⟩
 ·intro x hx
  rcases List.mem_append.1 hx with hx | hx
  ·exact h.own x hx
  ·simp only [List.mem_singleton] at hx; subst hx; exact .inr hS
 ·intro x hx
  rcases List.mem_append.1 hx with hx | hx
  ·exact h.has x hx
  ·simp only [List.mem_singleton] at hx; subst hx; exact hg
 ·rw [List.pairwise_append]
  refine ⟨h.ne, List.pairwise_singleton _ _, ?_⟩
  intro x hx y hy
  simp only [List.mem_singleton] at hy
  subst hy
  exact hn x hx
theorem St.one {w : World} {g : Nat} {L : List Value} {T : TypeId} (hg : Has w g L T) : St (One g) w w [(g, L, T)] := (St.start (One g) w).take hg rfl Ae
section
variable {w w0 : World} {ops : Array Oper} {rest : List Oper} {o : Oper} {a : Act} {Q : Exit → Act → World → Prop} {S : Nat → Prop} {bl : List (Nat × List Value × TypeId)}
theorem aL (hst : St S w0 w bl) {e : TypeId} {x : Operand} (hgd : o.guard = none) (ho : o.op = .box e x) {v : Value} (hx : a.eval x = v) (L : List Value) (hL : v.cells.toList = L)
  (h : ∀ g w', St S w0 w' (bl ++ [(g, L, e)]) → wpList P ops Q rest (a.put o.dst (.pointer (some ⟨g, 0, none⟩))) w') : wpList P ops Q (o :: rest) a w :=
 wR hgd ho hx L hL fun w' hg hf _ => h _ w' (hst.new hf hg (Nat.le_refl _))
theorem aA (hst : St S w0 w bl) {e : TypeId} (hgd : o.guard = none) (ho : o.op = .alloc e) {z : Value} (hi : (P.info? e).map (·.zero) = some (some z)) (L : List Value) (hL : z.cells.toList = L)
  (h : ∀ g w', St S w0 w' (bl ++ [(g, L, e)]) → wpList P ops Q rest (a.put o.dst (.pointer (some ⟨g, 0, none⟩))) w') : wpList P ops Q (o :: rest) a w :=
 kZ hgd ho hi L hL fun w' hg hf _ => h _ w' (hst.new hf hg (Nat.le_refl _))
theorem aI (hst : St S w0 w bl) (i : Nat) {g : Nat} {L : List Value} {T : TypeId} (hb : bl[i]? = some (g, L, T)) {ty : TypeId} {x : Operand} (hgd : o.guard = none) (ho : o.op = .load ty x) {n : Nat} {e : TypeId} (hu : P.underlying ty = some (.array n e)) (hx : a.eval x = .pointer (some ⟨g, 0, none⟩))
  (hi : (P.info? ty).map (·.size) = some L.length) (h : wpList P ops Q rest (a.put o.dst (.agg L.toArray)) w) : wpList P ops Q (o :: rest) a w :=
 fA hgd ho hu hx (hst.at i hb) L dZl hi h
theorem aM (hst : St S w0 w bl) (i : Nat) {g : Nat} {L : List Value} {T : TypeId} (hb : bl[i]? = some (g, L, T)) {ty : TypeId} {x : Operand} (hgd : o.guard = none) (ho : o.op = .load ty x) {d : TypeDesc} (hu : P.underlying ty = some d) (hd : d.isRow = true) (hx : a.eval x = .pointer (some ⟨g, 0, none⟩))
  (hi : (P.info? ty).map (·.size) = some L.length) (h : wpList P ops Q rest (a.put o.dst (.agg L.toArray)) w) : wpList P ops Q (o :: rest) a w :=
 wpList_load_mid hgd ty x ho g 0 hx L _ ((hst.at i hb).range 0 L dZl) hu hd hi h
theorem aB (hst : St S w0 w bl) (i : Nat) {g : Nat} {L : List Value} {T : TypeId} (hb : bl[i]? = some (g, L, T)) {ty : TypeId} {x y : Operand} (hgd : o.guard = none) (ho : o.op = .store ty x y) (hx : a.eval x = .pointer (some ⟨g, 0, none⟩)) {cs : List Value} (hy : a.eval y = .agg cs.toArray)
  (hn : cs.length = L.length) (hi : (P.info? ty).map (·.size) = some cs.length) (h1 : ∀ v ∈ cs, v.oneCell' = true)
  (h : ∀ w', St S w0 w' (bl.set i (g, cs, T)) → wpList P ops Q rest (a.put o.dst undef) w') : wpList P ops Q (o :: rest) a w :=
 iE hgd ho hx hy (hst.at i hb) Ab hi h1 fun w' hg hf _ => h w' (hst.put i hb hf (by rwa [gC _ _ hn] at hg))
end
end Go.Mv
namespace Mvp
abbrev B64 : Nat := 18446744073709551616
def lw (a i : Nat) : Nat := a / B64 ^ i % B64
def bI (n a : Nat) : List Nat := (List.range n).map (lw a)
def mix (A B k : Nat) : Nat := A % B64 ^ k + B / B64 ^ k * B64 ^ k
theorem eR (k : Nat) : 0 < B64 ^ k := Nat.pow_pos Ac
theorem gO (a i : Nat) : lw a i < 18446744073709551616 := Nat.mod_lt _ Ac
theorem dN (n a : Nat) : (bI n a).length = n := by simp [bI]
theorem gJ (n a i : Nat) (h : i < n) : (bI n a)[i]? = some (lw a i) := by simp [bI, h]
theorem m0P (a : Nat) : bI 4 a = [lw a 0, lw a 1, lw a 2, lw a 3] := rfl
theorem mE (a i k : Nat) (h : i < k) : lw (a % B64 ^ k) i = lw a i := by
 unfold lw
 obtain ⟨j, rfl⟩ : ∃ j, k = i + (1 + j) := ⟨k - i - 1, by omega⟩
 rw [Nat.pow_add, Nat.mod_mul_right_div_self, Nat.pow_add, Nat.pow_one, Nat.mod_mul_right_mod]
theorem gD (a k i : Nat) : lw (a / B64 ^ k) i = lw a (k + i) := by
 unfold lw
 rw [Nat.div_div_eq_div_mul, ← Nat.pow_add]
theorem o0b (A B k : Nat) : mix A B k % B64 ^ k = A % B64 ^ k := by
 unfold mix
 rw [Nat.add_mul_mod_self_right, Nat.mod_mod]
theorem o0c (A B k : Nat) : mix A B k / B64 ^ k = B / B64 ^ k := by
 unfold mix
 rw [Nat.add_mul_div_right _ _ (eR k), Nat.div_eq_of_lt (Nat.mod_lt _ (eR k)), Nat.zero_add]
theorem rF (A B k i : Nat) : lw (mix A B k) i = if i < k then lw A i else lw B i := by
 split
 ·rename_i h
  rw [← mE _ i k h, o0b, mE _ i k h]
 ·rename_i h
  obtain ⟨j, rfl⟩ : ∃ j, i = k + j := ⟨i - k, by omega⟩
  rw [← gD, ← gD, o0c]
theorem mF {n a b : Nat} (h : ∀ i, i < n → lw a i = lw b i) : bI n a = bI n b := by
 unfold bI
 apply List.map_congr_left
 intro i hi
 exact h i (List.mem_range.1 hi)
theorem h0M (n A B k : Nat) (h : k < n) : (bI n (mix A B k)).set k (lw A k) = bI n (mix A B (k + 1)) := by
 have _h := h
 apply List.ext_getElem?
 intro i
 rw [List.getElem?_set]
 rcases Nat.lt_or_ge i n with hi | hi
 ·rw [gJ _ _ _ hi, gJ _ _ _ hi, rF, rF, dN]
  by_cases e : k = i
  ·subst e; simp [h]
  ·rw [if_neg e]
   congr 1
   by_cases h2 : i < k
   ·rw [if_pos h2, if_pos Ab]
   ·rw [if_neg h2, if_neg Ab]
 ·rw [List.getElem?_eq_none (by rw [dN]; exact hi), List.getElem?_eq_none (by rw [dN]; exact hi)]
  split
  ·rw [dN, if_neg Ab]
  ·rfl
theorem jW (A B : Nat) : mix A B 0 = B := by simp [mix, Nat.mod_one]
theorem o0d (A B k : Nat) (ha : A < B64 ^ k) (hb : B < B64 ^ k) : mix A B k = A := by
 unfold mix
 rw [Nat.mod_eq_of_lt ha, Nat.div_eq_of_lt hb, Nat.zero_mul, Nat.add_zero]
theorem tQ (A B k : Nat) (h : B < B64 ^ k) : mix A B k = A % B64 ^ k := by
 unfold mix
 rw [Nat.div_eq_of_lt h, Nat.zero_mul, Nat.add_zero]
theorem h0N (n a : Nat) : bI n (a % B64 ^ n) = bI n a := mF fun i hi => mE a i n hi
theorem iU (a k : Nat) : a % B64 ^ (k + 1) = a % B64 ^ k + B64 ^ k * lw a k := by
 unfold lw
 rw [Nat.pow_succ, Nat.mod_mul]
theorem lD {n a b : Nat} (h : bI n a = bI n b) : a % B64 ^ n = b % B64 ^ n := by
 have hw : ∀ i, i < n → lw a i = lw b i := fun i hi => by
  have h1 := gJ n a i hi
  rw [h, gJ n b i hi] at h1
  exact (Option.some.inj h1).symm
 clear h
 induction n with
 | zero => simp [Nat.mod_one]
 | succ k ih => rw [iU, iU, ih (fun i hi => hw i Ab), hw k Ab]
def dG (a b k : Nat) : Nat := (a % B64 ^ k + b % B64 ^ k) / B64 ^ k
theorem b0e (a b : Nat) : dG a b 0 = 0 := by simp [dG, Nat.mod_one]
theorem h0O (a b k : Nat) : dG a b k ≤ 1 := by
 unfold dG
 have h := eR k
 have h1 := Nat.mod_lt a h
 have h2 := Nat.mod_lt b h
 generalize B64 ^ k = W at *
 exact Nat.le_of_lt_succ (Nat.div_lt_of_lt_mul Ab)
theorem b0f (a b k : Nat) : dG a b (k + 1) = (lw a k + lw b k + dG a b k) / 18446744073709551616 := by
 unfold dG
 rw [iU, iU, Nat.pow_succ, ← Nat.div_div_eq_div_mul]
 congr 1
 have e : a % B64 ^ k + B64 ^ k * lw a k + (b % B64 ^ k + B64 ^ k * lw b k) = (a % B64 ^ k + b % B64 ^ k) + B64 ^ k * (lw a k + lw b k) := by rw [Nat.mul_add]; omega
 rw [e, Nat.add_mul_div_left _ _ (eR k)]
 omega
theorem m0Q (a b k : Nat) : lw (a + b) k = (lw a k + lw b k + dG a b k) % 18446744073709551616 := by
 unfold lw dG
 have h := eR k
 have e : a + b = (a % B64 ^ k + b % B64 ^ k) + B64 ^ k * (a / B64 ^ k + b / B64 ^ k) := by
  have h1 := Nat.div_add_mod a (B64 ^ k)
  have h2 := Nat.div_add_mod b (B64 ^ k)
  rw [Nat.mul_add]; omega
 have e2 : (a + b) / B64 ^ k = (a % B64 ^ k + b % B64 ^ k) / B64 ^ k + (a / B64 ^ k + b / B64 ^ k) := by
  conv => lhs; rw [e]
  rw [Nat.add_mul_div_left _ _ h]
 rw [e2]
 generalize (a % B64 ^ k + b % B64 ^ k) / B64 ^ k = x
 generalize a / B64 ^ k = y
 generalize b / B64 ^ k = z
 show (x + (y + z)) % 18446744073709551616 = (y % 18446744073709551616 + z % 18446744073709551616 + x) % 18446744073709551616
 omega
theorem k0E (a b k : Nat) (ha : a < B64 ^ k) (hb : b < B64 ^ k) : dG a b k = (a + b) / B64 ^ k := by
 unfold dG; rw [Nat.mod_eq_of_lt ha, Nat.mod_eq_of_lt hb]
def cT (a b k : Nat) : Nat := if a % B64 ^ k < b % B64 ^ k then 1 else 0
theorem oW (a b : Nat) : cT a b 0 = 0 := by simp [cT, Nat.mod_one]
theorem yX (a b k : Nat) : cT a b k ≤ 1 := by unfold cT; split <;> omega
theorem oX (a b k : Nat) : cT a b (k + 1) = if lw a k < lw b k + cT a b k then 1 else 0 := by
 unfold cT
 rw [iU, iU]
 have h := eR k
 have h1 := Nat.mod_lt a h
 have h2 := Nat.mod_lt b h
 generalize lw a k = x
 generalize lw b k = y
 generalize a % B64 ^ k = p at *
 generalize b % B64 ^ k = q at *
 generalize B64 ^ k = W at *
 rcases Nat.lt_trichotomy x y with hxy | hxy | hxy
 ·obtain ⟨d, rfl⟩ : ∃ d, y = x + 1 + d := ⟨y - x - 1, by omega⟩
  have e : W * (x + 1 + d) = W * x + W + W * d := by rw [Nat.mul_add, Nat.mul_add, Nat.mul_one]
  rw [e]
  rw [if_pos Ab, if_pos Ab]
 ·subst hxy
  by_cases hpq : p < q
  ·rw [if_pos hpq, if_pos Ab, if_pos Ab]
  ·rw [if_neg hpq, if_neg Ab, if_neg Ab]
 ·obtain ⟨d, rfl⟩ : ∃ d, x = y + 1 + d := ⟨x - y - 1, by omega⟩
  have e : W * (y + 1 + d) = W * y + W + W * d := by rw [Nat.mul_add, Nat.mul_add, Nat.mul_one]
  rw [e]
  rw [if_neg Ab, if_neg (by split <;> omega)]
theorem e0a (n a b k : Nat) (hb : b < B64 ^ n) (hk : k < n) : lw (a + B64 ^ n - b) k = (lw a k + 18446744073709551616 - lw b k - cT a b k) % 18446744073709551616 := by
 obtain ⟨j, rfl⟩ : ∃ j, n = k + (1 + j) := ⟨n - k - 1, by omega⟩
 have hW := eR k
 have hT := eR j
 have hN : B64 ^ (k + (1 + j)) = B64 ^ k * (B64 * B64 ^ j) := by rw [Nat.pow_add, Nat.pow_add, Nat.pow_one]
 rw [hN] at hb ⊢
 have ha1 := Nat.div_add_mod a (B64 ^ k)
 have hb1 := Nat.div_add_mod b (B64 ^ k)
 have ha2 := Nat.mod_lt a hW
 have hb2 := Nat.mod_lt b hW
 have hbh : b / B64 ^ k < B64 * B64 ^ j := Nat.div_lt_of_lt_mul hb
 unfold lw cT
 generalize a / B64 ^ k = x at *
 generalize b / B64 ^ k = y at *
 generalize a % B64 ^ k = p at *
 generalize b % B64 ^ k = q at *
 generalize B64 ^ j = T at *
 generalize B64 ^ k = W at *
 have hq : ∃ c, c ≤ 1 ∧ (c = if p < q then 1 else 0) ∧ p + c * W < q + W ∧ q ≤ p + c * W := by
  by_cases h : p < q
  ·exact ⟨1, by omega, by rw [if_pos h], by omega, by omega⟩
  ·exact ⟨0, by omega, by rw [if_neg h], by omega, by omega⟩
 obtain ⟨c, hc1, hc2, hc3, hc4⟩ := hq
 rw [← hc2]
 have hyc : y + c ≤ x + B64 * T := by omega
 have e : (a + W * (B64 * T) - b) / W = x + B64 * T - y - c := by
  have h1 : a + W * (B64 * T) - b = W * (x + B64 * T - y - c) + (p + c * W - q) := by
   have h2 : W * (x + B64 * T - y - c) + W * (y + c) = W * x + W * (B64 * T) := by
    rw [← Nat.mul_add, ← Nat.mul_add]; congr 1; omega
   have h3 : W * (y + c) = W * y + c * W := by rw [Nat.mul_add, Nat.mul_comm W c]
   generalize W * (x + B64 * T - y - c) = u at *
   generalize W * (B64 * T) = v at *
   generalize W * (y + c) = z at *
   omega
  rw [h1, Nat.mul_add_div hW, Nat.div_eq_of_lt Ab, Nat.add_zero]
 rw [e]
 show (x + 18446744073709551616 * T - y - c) % 18446744073709551616 = (x % 18446744073709551616 + 18446744073709551616 - y % 18446744073709551616 - c) % 18446744073709551616
 have hyc' : y + c ≤ x + 18446744073709551616 * T := hyc
 omega
theorem nC (a b k : Nat) (ha : a < B64 ^ k) (hb : b < B64 ^ k) : cT a b k = if a < b then 1 else 0 := by
 unfold cT; rw [Nat.mod_eq_of_lt ha, Nat.mod_eq_of_lt hb]
def cS (L x n k : Nat) : Nat := (L % B64 ^ k + x * (n % B64 ^ k)) / B64 ^ k
theorem b0g (L x n : Nat) : cS L x n 0 = 0 := by simp [cS, Nat.mod_one]
theorem tR (L x n k : Nat) (hx : x < 18446744073709551616) : cS L x n k < 18446744073709551616 := by
 unfold cS
 have h := eR k
 have h1 := Nat.mod_lt L h
 have h2 := Nat.mod_lt n h
 have h3 : x * (n % B64 ^ k) ≤ 18446744073709551615 * (n % B64 ^ k) := Nat.mul_le_mul_right _ Ab
 generalize B64 ^ k = W at *
 refine Nat.div_lt_of_lt_mul ?_
 omega
theorem oY (L x n k : Nat) : cS L x n (k + 1) = (lw L k + x * lw n k + cS L x n k) / 18446744073709551616 := by
 unfold cS
 rw [iU, iU, Nat.pow_succ, ← Nat.div_div_eq_div_mul]
 congr 1
 have e : L % B64 ^ k + B64 ^ k * lw L k + x * (n % B64 ^ k + B64 ^ k * lw n k) = (L % B64 ^ k + x * (n % B64 ^ k)) + B64 ^ k * (lw L k + x * lw n k) := by
  rw [Nat.mul_add, Nat.mul_add, Nat.mul_left_comm x]; omega
 rw [e, Nat.add_mul_div_left _ _ (eR k)]
 omega
theorem tT (L x n k : Nat) : lw (L + x * n) k = (lw L k + x * lw n k + cS L x n k) % 18446744073709551616 := by
 unfold lw cS
 have h := eR k
 have e : L + x * n = (L % B64 ^ k + x * (n % B64 ^ k)) + B64 ^ k * (L / B64 ^ k + x * (n / B64 ^ k)) := by
  have h1 := Nat.div_add_mod L (B64 ^ k)
  have h2 := Nat.div_add_mod n (B64 ^ k)
  have h3 : x * n = x * (B64 ^ k * (n / B64 ^ k)) + x * (n % B64 ^ k) := by rw [← Nat.mul_add, h2]
  have h4 : x * (B64 ^ k * (n / B64 ^ k)) = B64 ^ k * (x * (n / B64 ^ k)) := Nat.mul_left_comm _ _ _
  rw [Nat.mul_add]; omega
 have e2 : (L + x * n) / B64 ^ k = (L % B64 ^ k + x * (n % B64 ^ k)) / B64 ^ k + (L / B64 ^ k + x * (n / B64 ^ k)) := by
  conv => lhs; rw [e]
  rw [Nat.add_mul_div_left _ _ h]
 rw [e2]
 generalize (L % B64 ^ k + x * (n % B64 ^ k)) / B64 ^ k = u
 generalize L / B64 ^ k = y
 generalize n / B64 ^ k = z
 show (u + (y + x * z)) % 18446744073709551616 = (y % 18446744073709551616 + x * (z % 18446744073709551616) + u) % 18446744073709551616
 have e3 : x * (z % 18446744073709551616) % 18446744073709551616 = x * z % 18446744073709551616 := Nat.mul_mod_mod _ _ _
 generalize x * (z % 18446744073709551616) = s at *
 generalize x * z = t at *
 omega
theorem k0F (L x n k : Nat) (hL : L < B64 ^ k) (hn : n < B64 ^ k) : cS L x n k = (L + x * n) / B64 ^ k := by
 unfold cS; rw [Nat.mod_eq_of_lt hL, Nat.mod_eq_of_lt hn]
theorem f0O (p t c : Nat) (hp : p ≤ 18446744073709551615 * 18446744073709551615) (hc : c < 18446744073709551616) :
  (t + (p % 18446744073709551616 + c) % 18446744073709551616) % 18446744073709551616 = (t + p + c) % 18446744073709551616 ∧
  p / 18446744073709551616 + (p % 18446744073709551616 + c) / 18446744073709551616 < 18446744073709551616 ∧
  p / 18446744073709551616 + (p % 18446744073709551616 + c) / 18446744073709551616 + (t + (p % 18446744073709551616 + c) % 18446744073709551616) / 18446744073709551616 = (t + p + c) / 18446744073709551616 := by
 omega
theorem wX (p t c : Nat) (hp : p ≤ 18446744073709551615 * 18446744073709551615) (hc : c < 18446744073709551616) :
  ∃ hi lo lo2 c1 t2 c2 : Nat, p / 18446744073709551616 = hi ∧ p % 18446744073709551616 = lo ∧ (lo + c) % 18446744073709551616 = lo2 ∧ (lo + c) / 18446744073709551616 = c1 ∧ hi + c1 < 18446744073709551616 ∧
   (t + lo2) % 18446744073709551616 = t2 ∧ (t + lo2) / 18446744073709551616 = c2 ∧ t2 = (t + p + c) % 18446744073709551616 ∧ hi + c1 + c2 = (t + p + c) / 18446744073709551616 := by
 obtain ⟨h1, h2, h3⟩ := f0O p t c hp hc
 exact ⟨_, _, _, _, _, _, rfl, rfl, rfl, rfl, h2, rfl, rfl, h1, h3⟩
theorem tU {x y : Nat} (hx : x < 18446744073709551616) (hy : y < 18446744073709551616) : x * y ≤ 18446744073709551615 * 18446744073709551615 :=
 Nat.mul_le_mul Ab Ab
theorem tV (P Q i j : Nat) (h : j < i) : lw (P + B64 ^ i * Q) j = lw P j := by
 rw [← mE _ j i h, Nat.add_mul_mod_self_left, mE _ j i h]
theorem gQ (P Q i k : Nat) : lw (P + B64 ^ i * Q) (i + k) = lw (P / B64 ^ i + Q) k := by
 rw [← gD, Nat.add_mul_div_left _ _ (eR i)]
theorem iP (a n i : Nat) (h : a < B64 ^ n) (hi : n ≤ i) : lw a i = 0 := by
 unfold lw
 rw [Nat.div_eq_of_lt (Nat.lt_of_lt_of_le h (Nat.pow_le_pow_right Ac hi)), Nat.zero_mod]
theorem sC (a b i : Nat) : a % B64 ^ i * b + B64 ^ i * (lw a i * b) = a % B64 ^ (i + 1) * b := by
 rw [iU, Nat.add_mul, Nat.mul_assoc]
theorem h0P (a b i : Nat) (hb : b < B64 ^ 4) : a % B64 ^ i * b < B64 ^ (i + 4) := by
 have h := Nat.mod_lt a (eR i)
 rw [Nat.pow_add]
 exact Nat.mul_lt_mul'' h hb
theorem o0e (a b i : Nat) (hb : b < B64 ^ 4) : lw (a % B64 ^ (i + 1) * b) (i + 4) = cS (a % B64 ^ i * b / B64 ^ i) (lw a i) b 4 := by
 rw [← sC, gQ, tT, iP b 4 4 hb (Nat.le_refl _), gD, iP _ _ _ (h0P a b i hb) (Nat.le_refl _), Nat.mul_zero, Nat.zero_add]
 exact Nat.mod_eq_of_lt (tR _ _ _ _ (gO a i))
theorem o0f (a b i : Nat) (hb : b < B64 ^ 4) : mix (a % B64 ^ (i + 1) * b) (a % B64 ^ i * b) (i + 4 + 1) = a % B64 ^ (i + 1) * b := by
 refine o0d _ _ _ ?_ ?_
 ·have := h0P a b (i + 1) hb
  rwa [show i + 1 + 4 = i + 4 + 1 by omega] at this
 ·refine Nat.lt_trans (h0P a b i hb) (Nat.pow_lt_pow_right Ac Ab)
theorem k0G (a b i k : Nat) : lw (a % B64 ^ i * b) (i + k) = lw (a % B64 ^ i * b / B64 ^ i) k := by rw [gD]
theorem o0g (a b i k : Nat) : lw (a % B64 ^ (i + 1) * b) (i + k) = lw (a % B64 ^ i * b / B64 ^ i + lw a i * b) k := by
 rw [← sC, gQ]
theorem h0Q (a b i : Nat) : mix (a % B64 ^ (i + 1) * b) (a % B64 ^ i * b) (i + 0) = a % B64 ^ i * b := by
 rw [← sC, Nat.add_zero]
 generalize a % B64 ^ i * b = V
 unfold mix
 rw [Nat.add_mul_mod_self_left, Nat.mul_comm, Nat.mod_add_div]
theorem k0H (b : Nat) (a : Nat) : a % B64 ^ 0 * b = 0 := by simp [Nat.mod_one]
def bQ (C V : Nat) : Nat := V / B64 ^ 4 * C + V % B64 ^ 4
theorem h0R (P C V : Nat) (h : P + C = B64 ^ 4) : bQ C V % P = V % P := by
 have e : V = bQ C V + P * (V / B64 ^ 4) := by
  have h1 := Nat.div_add_mod V (B64 ^ 4)
  unfold bQ
  rw [← h] at h1 ⊢
  generalize V / (P + C) = q at *
  rw [Nat.add_mul] at h1
  rw [Nat.mul_comm q C]
  omega
 conv => rhs; rw [e]
 rw [Nat.add_mul_mod_self_left]
theorem k0I (C V : Nat) (hC : C < B64 ^ 4) (h : V / B64 ^ 4 ≠ 0) : bQ C V < V := by
 have h1 := Nat.div_add_mod V (B64 ^ 4)
 unfold bQ
 generalize V / B64 ^ 4 = q at *
 have h2 : q * C < B64 ^ 4 * q := by
  rw [Nat.mul_comm]
  exact Nat.mul_lt_mul_of_pos_right hC Ab
 omega
theorem q0l (a b c d : Nat) : (a ||| b ||| c ||| d = 0) ↔ (a = 0 ∧ b = 0 ∧ c = 0 ∧ d = 0) := by
 simp [Nat.or_eq_zero_iff, and_assoc]
theorem k0J (V : Nat) (h : V < B64 ^ 8) : (lw V 4 ||| lw V 5 ||| lw V 6 ||| lw V 7 = 0) ↔ V / B64 ^ 4 = 0 := by
 rw [q0l]
 have e : V / B64 ^ 4 < B64 ^ 4 := Nat.div_lt_of_lt_mul (by rw [← Nat.pow_add]; exact h)
 have k0 := gD V 4 0
 have k1 := gD V 4 1
 have k2 := gD V 4 2
 have k3 := gD V 4 3
 rw [show 4 + 0 = 4 from rfl] at k0
 rw [show 4 + 1 = 5 from rfl] at k1
 rw [show 4 + 2 = 6 from rfl] at k2
 rw [show 4 + 3 = 7 from rfl] at k3
 rw [← k0, ← k1, ← k2, ← k3]
 generalize V / B64 ^ 4 = D at *
 constructor
 ·rintro ⟨h0, h1, h2, h3⟩
  have hm : D % B64 ^ 4 = 0 % B64 ^ 4 := lD (mF fun i hi => by
   have : i = 0 ∨ i = 1 ∨ i = 2 ∨ i = 3 := by omega
   rcases this with rfl | rfl | rfl | rfl
   ·rw [h0]; decide
   ·rw [h1]; decide
   ·rw [h2]; decide
   ·rw [h3]; decide)
  rw [Nat.mod_eq_of_lt e] at hm
  simpa using hm
 ·rintro rfl; decide
theorem f0P (D : Nat) (e : D < B64 ^ 4) : (lw D 0 ||| lw D 1 ||| lw D 2 ||| lw D 3 = 0) ↔ D = 0 := by
 rw [q0l]
 constructor
 ·rintro ⟨h0, h1, h2, h3⟩
  have hm : D % B64 ^ 4 = 0 % B64 ^ 4 := lD (mF fun i hi => by
   have : i = 0 ∨ i = 1 ∨ i = 2 ∨ i = 3 := by omega
   rcases this with rfl | rfl | rfl | rfl
   ·rw [h0]; decide
   ·rw [h1]; decide
   ·rw [h2]; decide
   ·rw [h3]; decide)
  rw [Nat.mod_eq_of_lt e] at hm
  simpa using hm
 ·rintro rfl; decide
theorem e0b (V x n : Nat) (hn : n < B64 ^ 4) (hV : V + x * n < B64 ^ 6) (hVV : V < B64 ^ 6) :
  (lw V 4 + cS V x n 4) % 18446744073709551616 = lw (V + x * n) 4 ∧ lw V 5 + (lw V 4 + cS V x n 4) / 18446744073709551616 = lw (V + x * n) 5 ∧ lw V 5 + (lw V 4 + cS V x n 4) / 18446744073709551616 < 18446744073709551616 := by
 have z4 : lw n 4 = 0 := iP n 4 4 hn Ac
 have z5 : lw n 5 = 0 := iP n 4 5 hn Ac
 have h4 := tT V x n 4
 have h5 := tT V x n 5
 have c5 := oY V x n 4
 have c6 := oY V x n 5
 rw [z4, Nat.mul_zero, Nat.add_zero] at h4 c5
 rw [z5, Nat.mul_zero, Nat.add_zero] at h5 c6
 have hc6 : cS V x n 6 = 0 := by
  rw [k0F V x n 6 hVV (Nat.lt_trans hn Ac)]
  exact Nat.div_eq_of_lt hV
 rw [hc6] at c6
 rw [c5] at h5 c6
 try rw [Nat.add_zero] at h5
 try rw [Nat.add_zero] at c6
 have : lw V 5 + (lw V 4 + cS V x n 4) / 18446744073709551616 < 18446744073709551616 := by omega
 exact ⟨h4.symm, by rw [h5, Nat.mod_eq_of_lt this], this⟩
theorem f0Q (V : Nat) : lw V 0 = V % 18446744073709551616 := by simp [lw]
def bT (M neg b T x : Nat) : Nat := (T + x * b + ((T + x * b) % 18446744073709551616 * neg % 18446744073709551616) * M) / 18446744073709551616
def bM (M neg b a : Nat) : Nat → Nat
 | 0 => 0
 | k + 1 => bT M neg b (bM M neg b a k) (lw a k)
theorem c0P (M neg b T x : Nat) (hneg : (M * neg + 1) % 18446744073709551616 = 0) :
  bT M neg b T x * 18446744073709551616 = T + x * b + ((T + x * b) % 18446744073709551616 * neg % 18446744073709551616) * M := by
 unfold bT
 generalize hV : T + x * b = V
 generalize hm : V % 18446744073709551616 * neg % 18446744073709551616 = m
 have key : (V + m * M) % 18446744073709551616 = 0 := by
  have h1 : (m * M) % 18446744073709551616 = (V * neg * M) % 18446744073709551616 := by
   rw [← hm, Nat.mod_mul_mod, Nat.mul_assoc, Nat.mod_mul_mod, ← Nat.mul_assoc]
  have h2 : V + V * neg * M = V * (M * neg + 1) := by rw [Nat.mul_add, Nat.mul_one, Nat.mul_assoc, Nat.mul_comm neg, Nat.add_comm]
  rw [Nat.add_mod, h1, ← Nat.add_mod, h2, Nat.mul_mod, hneg, Nat.mul_zero, Nat.zero_mod]
 have := Nat.div_add_mod (V + m * M) 18446744073709551616
 rw [key, Nat.add_zero, Nat.mul_comm] at this
 exact this
theorem k0K (M neg b T x : Nat) (_ : 0 < M) (hT : T < b + M) (hx : x < 18446744073709551616) : bT M neg b T x < b + M := by
 unfold bT
 refine Nat.div_lt_of_lt_mul ?_
 generalize hm : (T + x * b) % 18446744073709551616 * neg % 18446744073709551616 = m
 have hm' : m < 18446744073709551616 := by rw [← hm]; exact Nat.mod_lt _ Ac
 have h1 : x * b ≤ 18446744073709551615 * b := Nat.mul_le_mul_right _ Ab
 have h2 : m * M ≤ 18446744073709551615 * M := Nat.mul_le_mul_right _ Ab
 omega
theorem e0c (M neg b a k : Nat) (hM : 0 < M) : bM M neg b a k < b + M := by
 induction k with
 | zero => show 0 < _; omega
 | succ k ih => exact k0K _ _ _ _ _ hM ih (gO a k)
theorem h0S (M neg b a k : Nat) (hneg : (M * neg + 1) % 18446744073709551616 = 0) : bM M neg b a k * B64 ^ k % M = a % B64 ^ k * b % M := by
 induction k with
 | zero => simp [bM, Nat.mod_one]
 | succ k ih =>
  show bT _ _ _ _ _ * B64 ^ (k + 1) % M = _
  rw [← sC, Nat.pow_succ, Nat.mul_comm (B64 ^ k), ← Nat.mul_assoc, c0P M neg b _ _ hneg]
  generalize (bM M neg b a k + lw a k * b) % 18446744073709551616 * neg % 18446744073709551616 = m
  have e : (bM M neg b a k + lw a k * b + m * M) * B64 ^ k = bM M neg b a k * B64 ^ k + B64 ^ k * (lw a k * b) + M * (m * B64 ^ k) := by
   rw [Nat.add_mul, Nat.add_mul, Nat.mul_comm (lw a k * b), Nat.mul_right_comm m, Nat.mul_comm (m * B64 ^ k)]
  rw [e, Nat.add_mul_mod_self_left, Nat.add_mod, ih, ← Nat.add_mod]
theorem f0R (M neg Ri a b : Nat) (_ : 0 < M) (ha : a < B64 ^ 4) (hneg : (M * neg + 1) % 18446744073709551616 = 0) (hRi : B64 ^ 4 * Ri % M = 1 % M) :
  bM M neg b a 4 % M = a * b * Ri % M := by
 have h := h0S M neg b a 4 hneg
 rw [Nat.mod_eq_of_lt ha] at h
 generalize bM M neg b a 4 = T at *
 have h1 : T * B64 ^ 4 * Ri % M = a * b * Ri % M := by rw [Nat.mul_mod, h, ← Nat.mul_mod]
 rw [← h1, Nat.mul_assoc, Nat.mul_mod, hRi, ← Nat.mul_mod, Nat.mul_one]
theorem f0S (T M : Nat) (h : T < 2 * M) : T % M = if T < M then T else T - M := by
 split
 ·rename_i h'; exact Nat.mod_eq_of_lt h'
 ·rename_i h'; rw [Nat.mod_eq_sub_mod Ab, Nat.mod_eq_of_lt Ab]
end Mvp
namespace Go.Mv
open Go.RowKit Mvp
variable {P : Program}
def us (l : List Nat) : List Value := l.map fun (x : Nat) => .int .u64 (x : Int)
theorem h0T (l : List Nat) : (us l).length = l.length := by simp [us]
theorem q0m (l : List Nat) (i x : Nat) (h : l[i]? = some x) : (us l)[i]? = some (.int .u64 (x : Int)) := by simp [us, h]
theorem b0h (l : List Nat) (i : Nat) (x : Nat) : (us l).set i (.int .u64 (x : Int)) = us (l.set i x) := by simp [us]
theorem q0n (l : List Nat) : ∀ v ∈ us l, v.oneCell' = true := by intro v hv; simp [us] at hv; obtain ⟨x, _, rfl⟩ := hv; rfl
def cw (n a : Nat) : List Value := us (bI n a)
theorem aT (n a : Nat) : (cw n a).length = n := by rw [cw, h0T, dN]
theorem bL (n a i : Nat) (h : i < n) : (cw n a)[i]? = some (.int .u64 (lw a i : Nat)) := q0m _ _ _ (gJ n a i h)
theorem jX (n A B k : Nat) (h : k < n) : (cw n (mix A B k)).set k (.int .u64 (lw A k : Nat)) = cw n (mix A B (k + 1)) := by
 rw [cw, b0h, h0M n A B k h, cw]
theorem aF (n a : Nat) : ∀ v ∈ cw n a, v.oneCell' = true := q0n _
theorem cw_mod (n a : Nat) : cw n (a % B64 ^ n) = cw n a := by rw [cw, h0N, cw]
def i4 (a : Nat) : Value := .agg (cw 4 a).toArray
def i8 (a : Nat) : Value := .agg (cw 8 a).toArray
theorem q0o {n a b : Nat} (h : ∀ i, i < n → lw a i = lw b i) : cw n a = cw n b := by rw [cw, mF h, cw]
theorem sD (A B n : Nat) : cw n (mix A B n) = cw n A := q0o fun i hi => by rw [rF, if_pos hi]
theorem k0L (a : Nat) : (i4 a).cells.toList = cw 4 a := rfl
theorem mG (n : Nat) : cw n 0 = List.replicate n (.int .u64 0) := by
 apply List.ext_getElem?
 intro i
 rcases Nat.lt_or_ge i n with h | h
 ·rw [bL _ _ _ h, List.getElem?_replicate, if_pos h]; simp [lw]
 ·rw [List.getElem?_eq_none (by rw [aT]; exact h), List.getElem?_replicate, if_neg Ab]
theorem mH {t e : TypeId} {m : Nat} (ht : P.underlying t = some (.array m e)) (he : P.underlying e = some (.int .u64)) (hi0 : (P.info? e).map (·.size) = some 1) (a k : Nat) (hk : k < m) (ki : IntKind) (w : World) :
  (Instr.index t (.agg (cw m a).toArray) (.int ki (k : Int))).run P w = .ok (.int .u64 (lw a k : Nat)) w := by
 obtain ⟨j, hj, hsz⟩ : ∃ j, P.info? e = some j ∧ j.size = 1 := by simpa using hi0
 have h1 : (0 : Int) ≤ (k : Int) ∧ (k : Int) < (m : Int) := by omega
 have hv := bL m a k hk
 simp [Instr.index, asIntOf, run_underlying ht, sizeOf, typeInfo, hj, hsz, part, isAgg, run_underlying he, h1, hv]
 intro h; omega
theorem cB {fn : Func} {p : Tmp} {ty : TypeId} {s : Tmp} (h : fn.results = #[.cell p ty, .tmp s]) {tmps : Array Value} {w : World} {g : Nat} {L : List Value} {T : TypeId}
  (hp : tmps.getD p undef = .pointer (some ⟨g, 0, none⟩)) (hg : Has w g L T) {n : Nat} {e : TypeId} (hu : P.underlying ty = some (.array n e)) (hi : (P.info? ty).map (·.size) = some L.length) {v : Value} (hv : tmps.getD s undef = v) :
  (results fn tmps).run P w = .ok (.tuple #[.agg L.toArray, v]) w := by
 obtain ⟨lo, hi', hh, -⟩ := hg
 have hp' : tmps[p]?.getD undef = .pointer (some ⟨g, 0, none⟩) := by simpa using hp
 have hv' : tmps[s]?.getD undef = v := by simpa using hv
 simp [results, h, hp', hv', asAddr, run_loadVar_row w g T ty L.toArray _ _ hh hu rfl (by simpa using hi)]
theorem e0d (a : Nat) : i4 a = .agg #[.int .u64 (lw a 0 : Nat), .int .u64 (lw a 1 : Nat), .int .u64 (lw a 2 : Nat), .int .u64 (lw a 3 : Nat)] := rfl
theorem o0h (V : Nat) : i4 (V / B64 ^ 4) = .agg #[.int .u64 (lw V 4 : Nat), .int .u64 (lw V 5 : Nat), .int .u64 (lw V 6 : Nat), .int .u64 (lw V 7 : Nat)] := by
 rw [e0d, gD, gD, gD, gD]
theorem m0R (V : Nat) : i4 (V % B64 ^ 4) = i4 V := by rw [i4, cw_mod, ← i4]
theorem e0e (a : Nat) : i8 a = .agg #[.int .u64 (lw a 0 : Nat), .int .u64 (lw a 1 : Nat), .int .u64 (lw a 2 : Nat), .int .u64 (lw a 3 : Nat), .int .u64 (lw a 4 : Nat), .int .u64 (lw a 5 : Nat), .int .u64 (lw a 6 : Nat), .int .u64 (lw a 7 : Nat)] := rfl
theorem h0U (V : Nat) : i8 (V % B64 ^ 4) = .agg #[.int .u64 (lw V 0 : Nat), .int .u64 (lw V 1 : Nat), .int .u64 (lw V 2 : Nat), .int .u64 (lw V 3 : Nat), .int .u64 0, .int .u64 0, .int .u64 0, .int .u64 0] := by
 have ht := fun i (hi : 4 ≤ i) => iP (V % B64 ^ 4) 4 i (Nat.mod_lt _ (eR 4)) hi
 rw [e0e, mE _ _ _ Ac, mE _ _ _ Ac, mE _ _ _ Ac, mE _ _ _ Ac, ht 4 Ac, ht 5 Ac, ht 6 Ac, ht 7 Ac]
 rfl
def aO (w : World) (g : Nat) : Nat → Nat → Nat
 | _, 0 => 0
 | i, n + 1 => (intOf ((w.cell? ⟨g, i, none⟩).getD undef)).toNat + B64 * aO w g (i + 1) n
theorem wY {w : World} {g V m : Nat} {T : TypeId} (h : Has w g (cw m V) T) : ∀ (n i : Nat), i + n ≤ m → aO w g i n = V / B64 ^ i % B64 ^ n
 | 0, i, _ => by simp [aO, Nat.mod_one]
 | n + 1, i, hi => by
  rw [aO, wY h n (i + 1) Ab, h.cell (bL m V i Ab)]
  show lw V i + B64 * _ = _
  have e1 : B64 ^ (n + 1) = B64 * B64 ^ n := by rw [Nat.pow_succ, Nat.mul_comm]
  rw [e1, Nat.mod_mul, Nat.pow_succ, ← Nat.div_div_eq_div_mul]
  rfl
theorem lE {w : World} {g V m : Nat} {T : TypeId} (h : Has w g (cw m V) T) (hV : V < B64 ^ m) : aO w g 0 m = V := by
 rw [wY h m 0 Ab, Nat.pow_zero, Nat.div_one, Nat.mod_eq_of_lt hV]
theorem k0M (w : World) (a : Nat) (T : TypeId) : Has (w.alloc (.cells #[.int .u64 (lw a 0 : Nat), .int .u64 (lw a 1 : Nat), .int .u64 (lw a 2 : Nat), .int .u64 (lw a 3 : Nat)] T)) w.heap.size (cw 4 a) T := Has.new w _ T
theorem b0i (p a : Nat) (h : a ≤ p) : i4 (p + B64 ^ 4 - a) = i4 (p - a) := by
 rw [← m0R, show p + B64 ^ 4 - a = (p - a) + B64 ^ 4 by omega, Nat.add_mod_right, m0R]
theorem dY (n : Nat) (h : n < 18446744073709551616) : .agg #[.int .u64 (n : Int), .int .u64 0, .int .u64 0, .int .u64 0] = i4 n := by
 have h0 : lw n 0 = n := by simp only [lw, Nat.pow_zero, Nat.div_one]; exact Nat.mod_eq_of_lt h
 have ht := fun i (hi : 1 ≤ i) => iP n 1 i (by rw [Nat.pow_one]; exact h) hi
 rw [e0d, h0, ht 1 Ac, ht 2 Ac, ht 3 Ac]
 rfl
theorem b0j (n : Nat) (h : n < 18446744073709551616) : .agg #[.int .u64 (n : Int), .int .u64 0, .int .u64 0, .int .u64 0, .int .u64 0, .int .u64 0, .int .u64 0, .int .u64 0] = i8 n := by
 have h0 : lw n 0 = n := by simp only [lw, Nat.pow_zero, Nat.div_one]; exact Nat.mod_eq_of_lt h
 have ht := fun i (hi : 1 ≤ i) => iP n 1 i (by rw [Nat.pow_one]; exact h) hi
 rw [e0e, h0, ht 1 Ac, ht 2 Ac, ht 3 Ac, ht 4 Ac, ht 5 Ac, ht 6 Ac, ht 7 Ac]
 rfl
theorem qL (m n a b : Nat) : ((cw m a ++ cw n b).drop 0).take (cw m a).length = cw m a := by simp
theorem _root_.By {p : Prop} (h : p := by rw [aT]; exact Nat.le_refl _) : p := h
theorem k0N (m n a b : Nat) : ((cw m a ++ cw n b).drop m).take (cw n b).length = cw n b := by
 rw [List.drop_append, aT, aT, Nat.sub_self, List.drop_of_length_le By, List.nil_append, List.drop_zero, List.take_of_length_le By]
end Go.Mv
namespace Go.Proofs.YtemcankmggmgoaaGreat
open Go.RowKit Go.Mv Mvp
def Tryz.lays264_ren : Go.Shelf.Ren := ⟨fun | 264 => 180 | n => n, fun | 46 => 238 | 53 => 58 | n => n, fun | n => n⟩
theorem Tryz.lays264 : Go.Proofs.Lays.n264 prog Tryz.lays264_ren := {
 mixed := by kernel_rfl
 f264 := func180.trans (congrArg some Aa)
 t46 := underlying238
 a46 := Tryz.isAgg238
 z46 := Tryz.sizeOf238
 v46 := Tryz.zeroValue238
 t53 := underlying58
 a53 := Tryz.isAgg58
 z53 := Tryz.sizeOf58
 v53 := Tryz.zeroValue58 }
theorem tW (x y c : Nat) (hc : c ≤ 1) (w : World) : (callFunc 179 #[.int .u64 x, .int .u64 y, .int .u64 c]).run prog w =
      .ok (.value (.tuple #[.int .u64 (((x + y + c) % 18446744073709551616 : Nat) : Int), .int .u64 (((x + y + c) / 18446744073709551616 : Nat) : Int)])) w := by
  rw [run_callFunc_extern func179 Aa Aa Aa (e := add64Entry) Aa, run_add64 x y c Ab Ab Ab Ab]
  simp only [Result.andThen]
  congr 5 <;> omega
theorem kR (x y s c : Nat) (h1 : (x + y) % 18446744073709551616 = s) (h2 : (x + y) / 18446744073709551616 = c) (w : World) : (callFunc 179 #[.int .u64 x, .int .u64 y, .int .u64 0]).run prog w =
      .ok (.value (.tuple #[.int .u64 (s : Int), .int .u64 (c : Int)])) w := by
  have h := tW x y 0 Ab w
  rw [Nat.add_zero, h1, h2] at h
  exact h
theorem oZ (x y b : Nat) (hb : b ≤ 1) (w : World) : (callFunc 175 #[.int .u64 x, .int .u64 y, .int .u64 b]).run prog w =
      .ok (.value (.tuple #[.int .u64 (((x + 18446744073709551616 - y - b) % 18446744073709551616 : Nat) : Int), .int .u64 ((if x < y + b then 1 else 0 : Nat) : Int)])) w := by
  rw [run_callFunc_extern func175 Aa Aa Aa (e := sub64Entry) Aa, run_sub64 x y b hb]
  rfl
theorem b0k (x y : Nat) (hx : x < 18446744073709551616) (hy : y < 18446744073709551616) (w : World) :
  Calls prog 180 #[.int .u64 x, .int .u64 y] w fun e w' => e = .returned (.tuple #[.int .u64 ((x * y / 18446744073709551616 : Nat) : Int), .int .u64 ((x * y % 18446744073709551616 : Nat) : Int)]) ∧ w = w' :=
 (Any.bits_Mul64 Tryz.lays264 x y hx hy w).mono fun _ _ h => ⟨h.1, h.2.symm⟩
theorem iA : (prog.info? 58).map (·.size) = some 1 := by kernel_rfl
end Go.Proofs.YtemcankmggmgoaaGreat
namespace Mvp
def cP : Nat := 4294968273
def cQ : Nat := 4624529908474429119 + 4994812053365940164 * B64 + B64 ^ 2
def pP : Nat := B64 ^ 4 - cP
def pQ : Nat := B64 ^ 4 - cQ
theorem s0v : cP < B64 ^ 4 := by decide
theorem s0w : cQ < B64 ^ 4 := by decide
theorem t0s : B64 ^ 4 - pP = cP := by decide
theorem t0t : B64 ^ 4 - pQ = cQ := by decide
end Mvp
namespace Mvp
structure Md where
 M : Nat
 neg : Nat
 Ri : Nat
structure Md.Ok (m : Md) : Prop where
 one : 1 < m.M
 lt : m.M < B64 ^ 4
 negLt : m.neg < 18446744073709551616
 neg : (m.M * m.neg + 1) % 18446744073709551616 = 0
 inv : B64 ^ 4 * m.Ri % m.M = 1
def mP : Md := ⟨pP, 15580212934572586289, 91248989341183975618893650062416139444822672217621753343178995607984094583082⟩
def mQ : Md := ⟨pQ, 5408259542528602431, 98562742561918706241446412617699626731164144128788972284189895985653995782166⟩
theorem fR : mP.Ok := ⟨by decide, by decide, by decide, by decide, by decide⟩
theorem lT : mQ.Ok := ⟨by decide, by decide, by decide, by decide, by decide⟩
theorem c0Q (T b M x V mm : Nat) (hb : b < M) (hM : M < B64 ^ 4) (hT : T < b + M) (hx : x < 18446744073709551616) (hV : T + x * b = V) (hm : mm < 18446744073709551616) :
  T < B64 ^ 5 ∧ T + x * b < B64 ^ 6 ∧ V < B64 ^ 6 ∧ V + mm * M < B64 ^ 6 := by
 have h1 : x * b ≤ 18446744073709551615 * b := Nat.mul_le_mul_right _ Ab
 have h2 : mm * M ≤ 18446744073709551615 * M := Nat.mul_le_mul_right _ Ab
 have e4 : B64 ^ 5 = 18446744073709551616 * B64 ^ 4 := by rw [Nat.pow_succ, Nat.mul_comm]
 have e5 : B64 ^ 6 = 18446744073709551616 * B64 ^ 5 := by rw [Nat.pow_succ, Nat.mul_comm]
 generalize B64 ^ 6 = R6 at *
 generalize B64 ^ 5 = R5 at *
 generalize B64 ^ 4 = R4 at *
 omega
theorem h0V (T : Nat) (h2 : T < 2 * B64 ^ 4) (h : ¬ T < B64 ^ 4) : lw T 4 = 1 := by
 have h0 := eR 4
 have hd : T / B64 ^ 4 = 1 := by
  generalize B64 ^ 4 = R at *
  have h1 : T - R < R := by omega
  rw [show T = (T - R) + R by omega, Nat.add_div_right _ h0, Nat.div_eq_of_lt h1]
 unfold lw
 rw [hd]; rfl
theorem wZ (T M : Nat) (hM : M < B64 ^ 4) (hT : T < 2 * M) :
  (T < M → lw T 4 = 0 ∧ cT T M 4 = 1 ∧ Go.Mv.cw 4 (T % M) = Go.Mv.cw 4 T) ∧
  (¬ T < M → Go.Mv.cw 4 (T % M) = Go.Mv.cw 4 (T + B64 ^ 4 - M) ∧ (T < B64 ^ 4 → lw T 4 = 0 ∧ cT T M 4 = 0)) := by
 constructor
 ·intro h
  exact ⟨iP T 4 4 (Nat.lt_trans h hM) (Nat.le_refl _), by rw [nC _ _ _ (Nat.lt_trans h hM) hM, if_pos h], by rw [Nat.mod_eq_of_lt h]⟩
 ·intro h
  refine ⟨?_, fun h4 => ⟨iP T 4 4 h4 (Nat.le_refl _), by rw [nC _ _ _ h4 hM, if_neg h]⟩⟩
  rw [f0S T M hT, if_neg h, ← Go.Mv.cw_mod 4 (T + B64 ^ 4 - M), show T + B64 ^ 4 - M = (T - M) + B64 ^ 4 by omega, Nat.add_mod_right, Go.Mv.cw_mod]
theorem f0T (M neg b a : Nat) : bM M neg b a 0 = 0 := rfl
theorem f0U (M neg b a k : Nat) : bM M neg b a (k + 1) = (bM M neg b a k + lw a k * b + ((bM M neg b a k + lw a k * b) % 18446744073709551616 * neg % 18446744073709551616) * M) / 18446744073709551616 := rfl
end Mvp
namespace Go.Mv
open Go.RowKit Mvp
def mdL (m : Md) : List Value := cw 4 m.M ++ ([.int .u64 (m.neg : Int)] ++ (cw 4 (B64 ^ 4 % m.M) ++ cw 4 (B64 ^ 4 * B64 ^ 4 % m.M)))
theorem c0o (m : Md) : ((mdL m).drop 0).take (cw 4 m.M).length = cw 4 m.M := by simp [mdL]
theorem q0p (m : Md) : ((mdL m).drop 5).take (cw 4 (B64 ^ 4 % m.M)).length = cw 4 (B64 ^ 4 % m.M) := by
 have h : (cw 4 m.M ++ [Value.int .u64 (m.neg : Int)]).length = 5 := by rw [List.length_append, aT]; rfl
 rw [mdL, ← List.append_assoc, List.drop_append_of_le_length Ab, List.drop_of_length_le Ab, List.nil_append]
 simp
theorem q0q (m : Md) : ((mdL m).drop 9).take (cw 4 (B64 ^ 4 * B64 ^ 4 % m.M)).length = cw 4 (B64 ^ 4 * B64 ^ 4 % m.M) := by
 have h : (cw 4 m.M ++ ([Value.int .u64 (m.neg : Int)] ++ cw 4 (B64 ^ 4 % m.M))).length = 9 := by rw [List.length_append, List.length_append, aT, aT]; rfl
 have e : mdL m = (cw 4 m.M ++ ([Value.int .u64 (m.neg : Int)] ++ cw 4 (B64 ^ 4 % m.M))) ++ cw 4 (B64 ^ 4 * B64 ^ 4 % m.M) := by simp [mdL]
 rw [e, List.drop_append_of_le_length Ab, List.drop_of_length_le Ab, List.nil_append, List.take_of_length_le (Nat.le_refl _)]
theorem q0r (m : Md) : (mdL m)[4]? = some (.int .u64 (m.neg : Int)) := by
 rw [mdL, List.getElem?_append_right By, aT]; rfl
theorem q0s (V : Nat) (h : V < B64 ^ 6) : (splice (cw 6 V) 0 (((cw 6 V).drop 1).take 5)).set 5 (.int .u64 0) = cw 6 (V / 18446744073709551616) := by
 have e : V / 18446744073709551616 = V / B64 ^ 1 := by rw [Nat.pow_one]
 have h6 : lw V 6 = 0 := iP V 6 6 h (Nat.le_refl _)
 have hw := fun i => gD V 1 i
 rw [e]
 show _ = [Value.int .u64 (lw (V / B64 ^ 1) 0 : Nat), Value.int .u64 (lw (V / B64 ^ 1) 1 : Nat), Value.int .u64 (lw (V / B64 ^ 1) 2 : Nat), Value.int .u64 (lw (V / B64 ^ 1) 3 : Nat), Value.int .u64 (lw (V / B64 ^ 1) 4 : Nat), Value.int .u64 (lw (V / B64 ^ 1) 5 : Nat)]
 rw [hw 0, hw 1, hw 2, hw 3, hw 4, hw 5, show 1 + 5 = 6 from rfl, h6]
 rfl
theorem o0i (V : Nat) : ((cw 6 V).drop 0).take (cw 4 V).length = cw 4 V := rfl
end Go.Mv
namespace Go.Proofs.YtemcankmggmgoaaGreat
section
open Go.RowKit Go.Mv Mvp
def e0f : List UInt8 := [115, 105, 103, 110]
def sE : List UInt8 := [112, 117, 98, 108, 105, 99]
def o0j : List UInt8 := [102, 105, 114, 115, 116]
def e0g : List UInt8 := [116, 101, 120, 116]
def uA : List UInt8 := [99, 104, 97, 108, 108, 101, 110, 103, 101]
def gR : List UInt8 := [98, 97, 116, 99, 104]
def pA : List UInt8 := [119, 101, 105, 103, 104, 116]
def eS : List UInt8 := [110, 111, 110, 99, 101, 32, 115, 105, 103, 110]
def fZ (st : List UInt8) : List (List UInt8 × List UInt8) → List UInt8
 | [] => st
 | x :: r => fZ (dX tP [st, x.1, x.2]) r
def b0l (label : List UInt8) : List UInt8 := dX k0e [label]
end
section
open Go.RowKit Go.Mv Mvp
attribute [local irreducible] bI lw mix cw cT dG cS
theorem _root_.As {p : Prop} (h : p := by rw [aT]; kernel_rfl) : p := h
theorem _root_.Bo {p : Prop} (h : p := by rw [aT]; exact hlt) : p := h
theorem _root_.Az {p : Prop} (h : p := by simp only [aT]) : p := h
theorem _root_.Af {p : Prop} (h : p := by rw [mG]; rfl) : p := h
theorem jH (a b : Nat) (w : World) (hb : b < B64 ^ 4) :
  Calls prog 187 #[i4 a, i4 b] w fun e w' => e = .returned (.tuple #[i4 (a + B64 ^ 4 - b), .int .u64 (cT a b 4 : Nat)]) ∧ Fr Nob w w' := by
 have HB := qH hb; clear hb
 have st0 := St.start Nob w
 go_enter func187, ntmps187
 go_wp2_with (with_reducible refine AA 2 ?_)
 refine aL st0 rfl rfl rfl (cw 4 a) rfl ?_
 intro g2 w1 st1
 clear st0
 go_wp2_with (with_reducible refine AA 3 ?_)
 refine aL st1 rfl rfl rfl (cw 4 b) rfl ?_
 intro g3 w2 st2
 clear st1
 go_wp2_with (with_reducible refine AA 4 ?_)
 refine aA st2 rfl rfl (z := zAd) Aa (cw 4 0) Af ?_
 intro g4 w3 st3
 clear st2
 go_wp2
 go_loopw [5, 7] (fun c i wr => ∃ k : Nat, k ≤ 4 ∧ i = .int .i64 (k : Int) ∧ c = .int .u64 (cT a b k : Nat) ∧ St Nob w wr [(g2, cw 4 a, 111), (g3, cw 4 b, 111), (g4, cw 4 (mix (a + B64 ^ 4 - b) 0 k), 111)]) (fun _ i _ => 4 - (intOf i).toNat)
 case atStart => exact ⟨0, by omega, rfl, by rw [oW]; rfl, by rw [jW]; exact st3⟩
 case round =>
  obtain ⟨k, hk, rfl, rfl, st⟩ := hrel
  clear st3
  by_cases hlt : k < 4
  ·have hltI : (k : Int) < 4 := by omega
   have c1 := (st.at 0 rfl).cell (bL 4 a k hlt)
   have c2 := (st.at 1 rfl).cell (bL 4 b k hlt)
   obtain ⟨v3, c3, f3⟩ := (st.at 2 rfl).ready (i := k) Bo
   have e1 := fun wx => oZ (lw a k) (lw b k) (cT a b k) (yX a b k) wx
   go_wp2
   go_region
   all_goals
    go_wp2
    go_roundw
    case rel =>
     have h1 := st.set 2 rfl k (.int .u64 (lw (a + B64 ^ 4 - b) k : Nat))
     rw [jX _ _ _ _ hlt, e0a 4 a b k HB.out hlt] at h1
     exact ⟨k + 1, by omega, by go_num, by rw [oX], h1.drew⟩
    case measure => simp [intOf]; omega
  ·have hge : ¬ ((k : Int) < 4) := by omega
   have hk4 : k = 4 := by omega
   have HK := qH hk4; clear hk4
   go_wp2_with (with_reducible refine AA 24 ?_)
   refine aI st 2 rfl rfl rfl underlying111 rfl As ?_
   go_wp2_with (with_reducible refine AB ?_)
   refine aB st 2 rfl rfl rfl rfl rfl Az As (aF _ _) ?_
   intro w5 st5
   clear st
   have hd5 := st5.at 2 rfl
   rw [HK.out, tQ _ _ _ (by first | decide | assumption | exact HA.out), cw_mod] at hd5
   have hf5 := st5.fr
   clear st5
   go_wp2
   exact bodyPost_ret (cB rfl rfl hd5 underlying111 As rfl) rfl ⟨by rw [HK.out]; rfl, hf5⟩
theorem pB (a b : Nat) (w : World) :
  Calls prog 196 #[i4 a, i4 b] w fun e w' => e = .returned (.tuple #[i4 (a + b), .int .u64 (dG a b 4 : Nat)]) ∧ Fr Nob w w' := by
 have st0 := St.start Nob w
 go_enter func196, ntmps196
 go_wp2_with (with_reducible refine AA 2 ?_)
 refine aL st0 rfl rfl rfl (cw 4 a) rfl ?_
 intro g2 w1 st1
 clear st0
 go_wp2_with (with_reducible refine AA 3 ?_)
 refine aL st1 rfl rfl rfl (cw 4 b) rfl ?_
 intro g3 w2 st2
 clear st1
 go_wp2_with (with_reducible refine AA 4 ?_)
 refine aA st2 rfl rfl (z := zAd) Aa (cw 4 0) Af ?_
 intro g4 w3 st3
 clear st2
 go_wp2
 go_loopw [5, 7] (fun c i wr => ∃ k : Nat, k ≤ 4 ∧ i = .int .i64 (k : Int) ∧ c = .int .u64 (dG a b k : Nat) ∧ St Nob w wr [(g2, cw 4 a, 111), (g3, cw 4 b, 111), (g4, cw 4 (mix (a + b) 0 k), 111)]) (fun _ i _ => 4 - (intOf i).toNat)
 case atStart => exact ⟨0, by omega, rfl, by rw [b0e]; rfl, by rw [jW]; exact st3⟩
 case round =>
  obtain ⟨k, hk, rfl, rfl, st⟩ := hrel
  clear st3
  by_cases hlt : k < 4
  ·have hltI : (k : Int) < 4 := by omega
   have c1 := (st.at 0 rfl).cell (bL 4 a k hlt)
   have c2 := (st.at 1 rfl).cell (bL 4 b k hlt)
   obtain ⟨v3, c3, f3⟩ := (st.at 2 rfl).ready (i := k) Bo
   have e1 := fun wx => tW (lw a k) (lw b k) (dG a b k) (h0O a b k) wx
   go_wp2
   go_region
   all_goals
    go_wp2
    go_roundw
    case rel =>
     have h1 := st.set 2 rfl k (.int .u64 (lw (a + b) k : Nat))
     rw [jX _ _ _ _ hlt, m0Q a b k] at h1
     exact ⟨k + 1, by omega, by go_num, by rw [b0f]; go_num, h1.drew⟩
    case measure => simp [intOf]; omega
  ·have hge : ¬ ((k : Int) < 4) := by omega
   have hk4 : k = 4 := by omega
   have HK := qH hk4; clear hk4
   go_wp2_with (with_reducible refine AA 24 ?_)
   refine aI st 2 rfl rfl rfl underlying111 rfl As ?_
   go_wp2_with (with_reducible refine AB ?_)
   refine aB st 2 rfl rfl rfl rfl rfl Az As (aF _ _) ?_
   intro w5 st5
   clear st
   have hd5 := st5.at 2 rfl
   rw [HK.out, tQ _ _ _ (by first | decide | assumption | exact HA.out), cw_mod] at hd5
   have hf5 := st5.fr
   clear st5
   go_wp2
   exact bodyPost_ret (cB rfl rfl hd5 underlying111 As rfl) rfl ⟨by rw [HK.out]; rfl, hf5⟩
theorem yY (a b : Nat) (w : World) (hb : b < B64 ^ 4) :
  Calls prog 166 #[i4 a, i4 b] w fun e w' => e = .returned (.tuple #[i4 (a + B64 ^ 4 - b), .int .u64 (cT a b 4 : Nat)]) ∧ Fr Nob w w' := by
 have HB := qH hb; clear hb
 have st0 := St.start Nob w
 go_enter func166, ntmps166
 go_wp2_with (with_reducible refine AA 2 ?_)
 refine aL st0 rfl rfl rfl (cw 4 a) rfl ?_
 intro g2 w1 st1
 clear st0
 go_wp2_with (with_reducible refine AA 3 ?_)
 refine aL st1 rfl rfl rfl (cw 4 b) rfl ?_
 intro g3 w2 st2
 clear st1
 go_wp2_with (with_reducible refine AA 4 ?_)
 refine aA st2 rfl rfl (z := zAd) Aa (cw 4 0) Af ?_
 intro g4 w3 st3
 clear st2
 go_wp2_with (with_reducible refine AA 6 ?_)
 refine aA st3 rfl rfl (z := zAd) Aa (cw 4 0) Af ?_
 intro g6 w4 st4
 clear st3
 go_wp2
 go_loopw [7, 8] (fun c i wr => ∃ k : Nat, k ≤ 4 ∧ i = .int .i64 (k : Int) ∧ c = .int .u64 (cT a b k : Nat) ∧ St Nob w wr [(g2, cw 4 a, 60), (g3, cw 4 b, 60), (g4, cw 4 0, 60), (g6, cw 4 (mix (a + B64 ^ 4 - b) 0 k), 60)]) (fun _ i _ => 4 - (intOf i).toNat)
 case atStart => exact ⟨0, by omega, rfl, by rw [oW]; rfl, by rw [jW]; exact st4⟩
 case round =>
  obtain ⟨k, hk, rfl, rfl, st⟩ := hrel
  clear st4
  by_cases hlt : k < 4
  ·have hltI : (k : Int) < 4 := by omega
   have c1 := (st.at 0 rfl).cell (bL 4 a k hlt)
   have c2 := (st.at 1 rfl).cell (bL 4 b k hlt)
   obtain ⟨v3, c3, f3⟩ := (st.at 3 rfl).ready (i := k) Bo
   have e1 := fun wx => oZ (lw a k) (lw b k) (cT a b k) (yX a b k) wx
   go_wp2
   go_region
   all_goals
    go_wp2
    go_roundw
    case rel =>
     have h1 := st.set 3 rfl k (.int .u64 (lw (a + B64 ^ 4 - b) k : Nat))
     rw [jX _ _ _ _ hlt, e0a 4 a b k HB.out hlt] at h1
     exact ⟨k + 1, by omega, by go_num, by rw [oX], h1.drew⟩
    case measure => simp [intOf]; omega
  ·have hge : ¬ ((k : Int) < 4) := by omega
   have hk4 : k = 4 := by omega
   have HK := qH hk4; clear hk4
   go_wp2_with (with_reducible refine AA 26 ?_)
   refine aI st 3 rfl rfl rfl underlying60 rfl As ?_
   go_wp2_with (with_reducible refine AB ?_)
   refine aB st 2 rfl rfl rfl rfl rfl Az As (aF _ _) ?_
   intro w5 st5
   clear st
   have hd5 := st5.at 2 rfl
   rw [HK.out, tQ _ _ _ (by first | decide | assumption | exact HA.out), cw_mod] at hd5
   have hf5 := st5.fr
   clear st5
   go_wp2
   exact bodyPost_ret (cB rfl rfl hd5 underlying60 As rfl) rfl ⟨by rw [HK.out]; rfl, hf5⟩
theorem uB (a b : Nat) (w : World) :
  Calls prog 130 #[i8 a, i8 b] w fun e w' => e = .returned (i8 (a + b)) ∧ Fr Nob w w' := by
 have st0 := St.start Nob w
 go_enter func130, ntmps130
 go_wp2_with (with_reducible refine AA 2 ?_)
 refine aL st0 rfl rfl rfl (cw 8 a) rfl ?_
 intro g2 w1 st1
 clear st0
 go_wp2_with (with_reducible refine AA 3 ?_)
 refine aL st1 rfl rfl rfl (cw 8 b) rfl ?_
 intro g3 w2 st2
 clear st1
 go_wp2_with (with_reducible refine AA 4 ?_)
 refine aA st2 rfl rfl (z := .agg #[.int .u64 0, .int .u64 0, .int .u64 0, .int .u64 0, .int .u64 0, .int .u64 0, .int .u64 0, .int .u64 0]) Aa (cw 8 0) Af ?_
 intro g4 w3 st3
 clear st2
 go_wp2
 go_loopw [5, 6] (fun c i wr => ∃ k : Nat, k ≤ 8 ∧ i = .int .i64 (k : Int) ∧ c = .int .u64 (dG a b k : Nat) ∧ St Nob w wr [(g2, cw 8 (mix (a + b) a k), 171), (g3, cw 8 b, 171), (g4, cw 8 0, 171)]) (fun _ i _ => 8 - (intOf i).toNat)
 case atStart => exact ⟨0, by omega, rfl, by rw [b0e]; rfl, by rw [jW]; exact st3⟩
 case round =>
  obtain ⟨k, hk, rfl, rfl, st⟩ := hrel
  clear st3
  by_cases hlt : k < 8
  ·have hltI : (k : Int) < 8 := by omega
   have c1 : wr.cell? ⟨g2, k, none⟩ = some (.int .u64 (lw a k : Nat)) := by have h := (st.at 0 rfl).cell (bL 8 (mix (a + b) a k) k hlt); rwa [rF, if_neg (Nat.lt_irrefl k)] at h
   have c2 := (st.at 1 rfl).cell (bL 8 b k hlt)
   have f3 := (st.at 0 rfl).free k Bo
   have e1 := fun wx => tW (lw a k) (lw b k) (dG a b k) (h0O a b k) wx
   go_wp2
   go_region
   all_goals
    go_wp2
    go_roundw
    case rel =>
     have h1 := st.set 0 rfl k (.int .u64 (lw (a + b) k : Nat))
     rw [jX _ _ _ _ hlt, m0Q a b k] at h1
     exact ⟨k + 1, by omega, by go_num, by rw [b0f]; go_num, h1.drew⟩
    case measure => simp [intOf]; omega
  ·have hge : ¬ ((k : Int) < 8) := by omega
   have hk4 : k = 8 := by omega
   have HK := qH hk4; clear hk4
   go_wp2_with (with_reducible refine AA 24 ?_)
   refine aI st 0 rfl rfl rfl underlying171 rfl As ?_
   go_wp2_with (with_reducible refine AB ?_)
   refine aB st 2 rfl rfl rfl rfl rfl Az As (aF _ _) ?_
   intro w5 st5
   clear st
   have hd5 := st5.at 2 rfl
   rw [HK.out, sD] at hd5
   have hf5 := st5.fr
   clear st5
   go_wp2
   exact bodyPost_ret (aX rfl rfl hd5 underlying171 As) rfl ⟨rfl, hf5⟩
end
section
open Go.RowKit Go.Mv Mvp
attribute [local irreducible] bI lw mix cw cT dG cS
theorem _root_.Av {p : Prop} (h : p := by rw [aT]; omega) : p := h
theorem e0h (gt V x n top : Nat) (T : TypeId) (w : World) (ht : Has w gt (cw 6 V) T) (hx : x < 18446744073709551616) (_ : top < 18446744073709551616) :
  Calls prog 189 #[.pointer (some ⟨gt, 0, none⟩), .int .u64 (x : Int), i4 n, .int .u64 (top : Int)] w fun e w' =>
   e = .returned (.tuple #[.int .u64 (((top + cS V x n 4) % 18446744073709551616 : Nat) : Int), .int .u64 (((top + cS V x n 4) / 18446744073709551616 : Nat) : Int)]) ∧
   Has w' gt (cw 6 (mix (V + x * n) V 4)) T ∧ Fr (One gt) w w' := by
 have st0 := St.one ht
 clear ht
 have HX := qH hx
 go_enter func189, ntmps189
 go_wp2_with (with_reducible refine AA 6 ?_)
 refine aL st0 rfl rfl rfl (cw 4 n) rfl ?_
 intro gn w1 st1
 clear st0
 go_wp2_with (with_reducible refine AA 16 ?_)
 refine aI st1 1 rfl rfl rfl underlying111 rfl As ?_
 go_wp2
 go_loopw [10, 17] (fun c i wr => ∃ k : Nat, k ≤ 4 ∧ i = .int .i64 (k : Int) ∧ c = .int .u64 (cS V x n k : Nat) ∧ St (One gt) w wr [(gt, cw 6 (mix (V + x * n) V k), T)]) (fun _ i _ => 4 - (intOf i).toNat)
 case atStart => exact ⟨0, by omega, rfl, by rw [b0g]; rfl, by rw [jW]; exact st1.less Ae⟩
 case round =>
  obtain ⟨k, hk, rfl, rfl, st⟩ := hrel
  clear st1
  have hcm := tR V x n k HX.out
  by_cases hlt : k < 4
  ·have hltI : (k : Int) < 4 := by omega
   have e0 := fun wx => mH (P := prog) underlying111 underlying58 iA n k hlt .i64 wx
   have hp := tU HX.out (gO n k)
   have hms := oY V x n k
   have hlm := tT V x n k
   have hms2 := tR V x n (k + 1) HX.out
   obtain ⟨hi, lo, lo2, c1, t2, c2, r1, r2, r3, r4, r5, r6, r7, r8, r9⟩ := wX (x * lw n k) (lw V k) (cS V x n k) hp hcm
   rw [← r8] at hlm
   rw [← r9] at hms
   rw [hms] at hms2
   have hmul := fun wx => b0k x (lw n k) HX.out (gO n k) wx
   rw [r1, r2] at hmul
   have e2 := fun wx => kR lo (cS V x n k) lo2 c1 r3 r4 wx
   have e3 := fun wx => kR (lw V k) lo2 t2 c2 r6 r7 wx
   obtain ⟨v3, c3, f3⟩ := (st.at 0 rfl).ready (i := k) Av
   have c1' : wr.cell? ⟨gt, k, none⟩ = some (.int .u64 (lw V k : Nat)) := by have h := (st.at 0 rfl).cell (bL 6 (mix (V + x * n) V k) k Ab); rwa [rF, if_neg (Nat.lt_irrefl k)] at h
   clear c3 hp r1 r2 r3 r4 r6 r7 r8 r9
   have HMUL := qH hmul; clear hmul
   have HMS := qH hms; clear hms
   have HLM := qH hlm; clear hlm
   go_wp2_with fail
   refine (HMUL.out _).mono ?_
   rintro e' w' ⟨rfl, rfl⟩
   go_wp2_with fail
   go_region
   all_goals
    go_wp2
    go_roundw
    case rel =>
     have h1 := st.set 0 rfl k (.int .u64 (lw (V + x * n) k : Nat))
     rw [jX _ _ _ _ Ab, HLM.out] at h1
     exact ⟨k + 1, by omega, by go_num, by rw [HMS.out]; go_num, h1.drew⟩
    case measure => simp [intOf]; omega
  ·have hge : ¬ ((k : Int) < 4) := by omega
   have hk4 : k = 4 := by omega
   have HK := qH hk4; clear hk4
   have e2 := fun wx => kR top (cS V x n k) _ _ rfl rfl wx
   go_wp2
   go_ret2
   rw [← HK.out]
   exact ⟨rfl, st.at 0 rfl, st.fr⟩
end
end Go.Proofs.YtemcankmggmgoaaGreat
