/- ; ; ; ; ; ; ; ; ; ; ; ; ; ; ; ; ; ; ; ; ; ; ; . -/
import Derived.Test.YtemcankmggmgoaaGreatMgBlindTrueProof1
import Derived.Laws.Tables
import Derived.Great.BuildSlice
import Derived.SliceStrings
import Derived.SizedLaws
import Derived.OpenShut
import Derived.ProofKit
import Derived.Shelf.Spec.BitsCarry
import Derived.Shelf.Bits.Mul64
import Derived.Test.YtemcankmggmgoaaGreatProg
import Derived.KernelRfl
import Derived.RegionTactic
import Derived.Deep.QuietTactic
import Derived.BigQuiet
set_option maxHeartbeats 16000000
set_option maxRecDepth 1000000

namespace Go.Proofs.YtemcankmggmgoaaGreat
open Go.RowKit Go.Mv Mvp
theorem m0s : (Tryz.prog.info? 241).map (·.zero) = some (some (.agg (bs (List.replicate 136 0)).toArray)) := by kernel_rfl
def abs (st : List UInt64 × Nat) : List Value := ws st.1 ++ [.int .i64 (st.2 : Int)]
theorem s0G (st : List UInt64 × Nat) : (abs st).length = st.1.length + 1 := by simp [abs, a0W]
theorem i0v (st : List UInt64 × Nat) (h : st.1.length = 25) : (abs st)[25]? = some (.int .i64 (st.2 : Int)) := by
 rw [abs, List.getElem?_append_right (by rw [a0W, h]; omega), a0W, h]; rfl
theorem s0H (S : List UInt64) (k n : Nat) (h : S.length = 25) : (abs (S, k)).set 25 (.int .i64 (n : Int)) = abs (S, n) := by
 rw [abs, List.set_append_right _ _ (by rw [a0W, h]; omega), a0W, h]; rfl
theorem s0I (S : List UInt64) : b0x (a0u 24) (fun r => rcP r 8) S 24 = b0g S := by unfold b0g; rfl
theorem i0w (S : List UInt64) (k : Nat) : ws S ++ [Value.int .i64 (k : Int)] = abs (S, k) := by unfold abs; rfl
attribute [local irreducible] b0g b0x toB a0u
theorem f0O (g : Nat) (S : List UInt64) (k : Nat) (w : World) (hS : S.length = 25) (hg : Has w g (abs (S, k)) 234) :
  Calls Tryz.prog 201 #[.pointer (some ⟨g, 0, none⟩)] w fun e w' => e = .returned (.tuple #[]) ∧ Has w' g (abs (b0g S, k)) 234 ∧ Fr (One g) w w' := by
 rw [← i0w] at hg
 refine (o0e g S [.int .i64 (k : Int)] 234 w hS hg).mono ?_
 rintro e w' ⟨h1, h2, h3⟩
 rw [s0I, i0w] at h2
 exact ⟨h1, h2, h3⟩
theorem w0a (k p : Nat) (l : List UInt8) (hl : l.length = p) (h : k + p ≤ 136) : splice (bs (List.replicate 136 0)) k (bs l) = bs (List.replicate k 0 ++ l ++ List.replicate (136 - k - p) 0) := by
 unfold splice
 rw [a0I, hl, e0y, n0Q, ← d0C, ← d0C, List.append_assoc]
 rw [List.take_replicate, Nat.min_eq_left ap16, List.drop_replicate, Nat.sub_sub]
def lenV : Value → Nat
 | .slice _ n _ => n
 | _ => 0
theorem i0x (g : Nat) (st : List UInt64 × Nat) (b : Option Addr) (n c : Nat) (l : List UInt8) (w : World) (hS : st.1.length = 25) (hat : st.2 < 136) (hn : n ≤ 1000000) (hnc : n ≤ c) (hg : Has w g (abs st) 234) (hb : RdB w b n l) (hbg : Off (One g) b) :
  Calls Tryz.prog 192 #[.pointer (some ⟨g, 0, none⟩), .slice b n c] w fun e w' => e = .returned (.tuple #[]) ∧ Has w' g (abs (c0g st l)) 234 ∧ Fr (One g) w w' := by
 go_enter Tryz.func192, Tryz.ntmps192
 go_wp2_with fail
 have hll := hb.len
 go_loopw [1] (fun v wr => ∃ (sj : List UInt64 × Nat) (r : List UInt8) (m : Nat) (a : Option Addr) (cc : Nat), v = .slice a m cc ∧ m ≤ cc ∧ m ≤ 1000000 ∧ RdB wr a m r ∧ Off (One g) a ∧ Has wr g (abs sj) 234 ∧ sj.2 < 136 ∧ sj.1.length = 25 ∧ c0g sj r = c0g st l ∧ Fr (One g) w wr) (fun v _ => lenV v)
 case atStart => exact ⟨st, l, n, b, c, rfl, hnc, hn, hb, hbg, hg, hat, hS, rfl, Fr.refl _ _⟩
 case round =>
  obtain ⟨⟨S, k⟩, r, m, a, cc, rfl, hcc, hmb, hra, hoa, hgj, hkj, hSj, hfe, hf⟩ := hrel
  clear hg hb hbg hat hS hll hn hnc
  simp only at hkj hSj
  have HF := qH hfe; clear hfe
  by_cases hlt : 0 < m
  ·have hc25 : wr.cell? ⟨g, 25, none⟩ = some (.int .i64 (k : Int)) := hgj.cell (i0v (S, k) hSj)
   have hf25 : wr.frozen? ⟨g, 25, none⟩ = false := hgj.free _ (by rw [s0G]; simp only; omega)
   have HS := qH hSj; clear hSj
   go_wp2_with (with_reducible refine wSk 16 ?_)
   obtain ⟨p, hp, hp1, hp2, hp3⟩ : ∃ p : Nat, (if 136 - (k : Int) < (m : Int) then 136 - (k : Int) else (m : Int)) = (p : Int) ∧ p ≤ m ∧ k + p ≤ 136 ∧ (p = m ∨ k + p = 136) := by
    refine ⟨min m (136 - k), ?_, by omega, by omega, by omega⟩
    split <;> omega
   refine B0S rfl rfl rfl rfl p hp ?_
   clear hp
   have HP := qH hp3; clear hp3
   go_wp2_with (with_reducible refine f0L (o := ⟨_, .alloc 241, _, _, _, _⟩) ?_)
   refine e0B rfl rfl m0s (bs (List.replicate 136 0)) (by simp [Value.cells]) ?_
   intro w1 hp1' hf1 hz1
   have hg1 := hgj.keep hf1 id
   have hr1 := hra.still hf1
   have hc1 : w1.cell? ⟨g, 25, none⟩ = some (.int .i64 (k : Int)) := hf1.cell id hc25
   have hgp : g < wr.heap.size := hgj.lt
   have hfr1 := hf.same hf1
   have hpw : w.heap.size ≤ wr.heap.size := hf.size
   have hra0 : Off (One wr.heap.size) a := fun x hx (e : x.block = wr.heap.size) => by
    obtain ⟨bb, o, rfl, hat⟩ := Rd.at hra hlt
    have := Rd.lt hra hlt
    simp only [Option.some.injEq] at hx
    subst hx
    simp at e
    omega
   generalize wr.heap.size = gp at *
   clear hgj hra hc25 hf25 hf1 hz1
   have hk136 : k < 136 := hkj
   go_wp2_with fail
   have e1 : ∀ wx, (Instr.sliceAt 241 (.pointer (some ⟨gp, 0, none⟩)) (some (.int .i64 (k : Int))) none none).run Tryz.prog wx = .ok (.slice (some ⟨gp, k, none⟩) (136 - k) (136 - k)) wx := fun wx => by
    have := g0g wx Tryz.underlying241 c0F gp 0 .i64 k hk136
    rwa [Nat.zero_add] at this
   have e2 : ∀ wx, (Instr.sliceAt 22 (.slice a m cc) none (some (.int .i64 (p : Int))) none).run Tryz.prog wx = .ok (.slice a p cc) wx := fun wx => d0T wx Tryz.underlying22 c0F a m cc .i64 p ap16
   refine wp_region_still_tail 8 ap14 ap14 ?_
   simp only [List.take_succ_cons, List.take_zero, List.drop_succ_cons, List.drop_zero]
   repeat still_step
   refine wpStill_nil ?_
   show wpList _ _ _ _ _ w1.drew
   have hrp : Rd w1.drew a p (bs (r.take p)) := by
    have hlen := hr1.len
    refine ⟨by rw [a0I, List.length_take]; omega, hr1.2.imp (fun h0 => by omega) ?_⟩
    rintro ⟨b, o, rfl, hc⟩
    refine ⟨b, o, rfl, fun i v hv => ?_⟩
    have := hc i v
    rw [← e0y, List.getElem?_take] at hv
    split at hv
    ·exact hc i v hv
    ·cases hv
   refine s0j rfl rfl Tryz.underlying22 c0F rfl rfl (hp1'.drew) hrp (i0d _) (by rw [a0I, List.length_replicate]; omega) ?_
   intro w2 hp2' hf2 hz2
   have hmin : min p (136 - k) = p := by omega
   have hrl : (r.take p).length = p := by rw [List.length_take, hr1.len]; omega
   rw [hmin, List.take_of_length_le (by rw [a0I, hrl]; exact Nat.le_refl _), w0a k p _ hrl hp2] at hp2'
   have hg2 := hg1.drew.keep hf2 (fun (h : g = gp) => by omega)
   have hr2 : RdB w2 a m r := hr1.keep ((Fr.refl (One gp) w1).drew.trans hf2 (fun _ _ t => t)) hra0
   have hfr2 : Fr (One g) w w2 := (hfr1.drew).new hf2 hpw
   have hgp2 := hp2'.lt
   clear hp1' hg1 hr1 hc1 hfr1 hf2 hz2 hrp e1 e2 hmin
   go_wp2_with fail
   have hc2 : w2.cell? ⟨g, 25, none⟩ = some (.int .i64 (k : Int)) := hg2.cell (i0v (S, k) HS.out)
   have e3 : ∀ wx, (Instr.sliceAt 241 (.pointer (some ⟨gp, 0, none⟩)) none (some (.int .i64 ((k : Int) + (p : Int)))) none).run Tryz.prog wx = .ok (.slice (some ⟨gp, 0, none⟩) (k + p) 136) wx := fun wx =>
    e0D wx Tryz.underlying241 c0F gp 0 .i64 (k + p) hp2
   have e4 : IntKind.i64.wrap ((k : Int) + (p : Int)) = (k : Int) + (p : Int) := IntWalk.i64_in _ ap16
   refine wp_region_still_tail 10 ap14 ap14 ?_
   simp only [List.take_succ_cons, List.take_zero, List.drop_succ_cons, List.drop_zero]
   repeat still_step
   refine wpStill_nil ?_
   show wpList _ _ _ _ _ w2.drew
   go_wp2_with fail
   have hrd : RdB w2.drew (some ⟨gp, 0, none⟩) (k + p) (List.replicate k 0 ++ r.take p) := by
    have := Rd.ofHas hp2'.drew 0 (n := k + p) (by rw [a0I, List.length_append, List.length_append, List.length_replicate, List.length_replicate, hrl]; omega)
    rw [List.drop_zero, e0y, List.take_left' (by simp [hrl])] at this
    exact this
   refine (s0s g S [.int .i64 (k : Int)] 234 _ (k + p) _ _ _ HS.out ap16 hg2.drew hrd (fun x hx (e : x.block = g) => by simp only [Option.some.injEq] at hx; subst hx; simp at e; omega)).mono ?_
   rintro e w3 ⟨rfl, hg3, hf3, hz3⟩
   have hxb : g0a S (List.replicate k 0 ++ r.take p) (k + p) = c0I S k (r.take p) := by
    have := j0M S k (r.take p) []
    rwa [List.append_nil, hrl] at this
   rw [hxb] at hg3
   have hr3 : RdB w3 a m r := hr2.keep ((Fr.refl (One g) w2).drew.trans hf3 (fun _ _ t => t)) hoa
   have hfr3 : Fr (One g) w w3 := hfr2.drew.trans hf3 (fun _ _ t => t)
   have hSl : (c0I S k (r.take p)).length = 25 := by rw [i0r, HS.out]
   have hfeed : c0g (c0g (S, k) (r.take p)) (r.drop p) = c0g st l := by rw [← d0D, List.take_append_drop]; exact HF.out
   clear hg2 hr2 hfr2 hp2' hgp2 hc2 e3 e4 hrd hf3 hz3 hxb
   have hc3 : w3.cell? ⟨g, 25, none⟩ = some (.int .i64 (k : Int)) := hg3.cell (i0v (_, k) hSl)
   have hf3 : w3.frozen? ⟨g, 25, none⟩ = false := hg3.free _ (by rw [List.length_append, a0W, hSl]; simp)
   generalize hxs : c0I S k (r.take p) = S3 at *
   have HXS := qH hxs; clear hxs
   have HFE := qH hfeed; clear hfeed
   have HSL := qH hSl; clear hSl
   have HRL := qH hrl; clear hrl
   go_wp2_with (with_reducible refine wSk 47 ?_)
   refine h0n rfl rfl Tryz.underlying22 c0F rfl p m ⟨_, rfl⟩ rfl hp1 hcc ?_
   have hg4 : Has (w3.setCell ⟨g, 25, none⟩ (.int .i64 ((k + p : Nat) : Int))) g (abs (S3, k + p)) 234 := by
    have := hg3.set 25 (.int .i64 ((k + p : Nat) : Int))
    rw [show ws S3 ++ [Value.int .i64 (k : Int)] = abs (S3, k) from rfl, s0H _ _ _ HSL.out] at this
    exact this
   have hr4 : RdB (w3.setCell ⟨g, 25, none⟩ (.int .i64 ((k + p : Nat) : Int))) (c0H a p cc) (m - p) (r.drop p) := by
    have h1 := hr3.keep ((Fr.refl (One g) w3).setCell g 25 none (.int .i64 ((k + p : Nat) : Int)) (fun _ => rfl)) hoa
    have h2 := k0N h1 p m cc hp1 hcc (Nat.le_refl _)
    rw [n0Q, e0y] at h2
    rwa [List.take_of_length_le (by rw [List.length_drop, h1.len]; exact Nat.le_refl _)] at h2
   have hfr4 : Fr (One g) w (w3.setCell ⟨g, 25, none⟩ (.int .i64 ((k + p : Nat) : Int))) := hfr3.setCell g 25 none _ (fun _ => rfl)
   have hoff4 := s0q hoa p cc
   have hsp : Value.int .i64 ((k : Int) + (p : Int)) = .int .i64 ((k + p : Nat) : Int) := by simp
   simp only [Int.natCast_add] at hg4 hr4 hfr4
   generalize w3.setCell ⟨g, 25, none⟩ (.int .i64 ((k : Int) + (p : Int))) = w4 at *
   clear hsp hg3 hr3 hfr3 hc3 hf3
   by_cases hfull : k + p = 136
   ·have hfb : ((k : Int) + (p : Int) == 136) = true := by rw [beq_iff_eq]; omega
    have HFULL := qH hfull; clear hfull
    have hc4 : w4.cell? ⟨g, 25, none⟩ = some (.int .i64 ((k : Int) + (p : Int))) := hg4.cell (i0v (S3, k + p) HSL.out)
    go_wp2_with fail
    refine (f0O g S3 (k + p) _ HSL.out hg4).mono ?_
    rintro e w5 ⟨rfl, hg5', hf5⟩
    have hr5 := hr4.keep hf5 hoff4
    have hfr5 : Fr (One g) w w5 := hfr4.trans hf5 (fun _ _ t => t)
    have hpl : (b0g S3).length = 25 := by rw [g0c, HSL.out]
    have hc5 : w5.cell? ⟨g, 25, none⟩ = some (.int .i64 ((k + p : Nat) : Int)) := hg5'.cell (i0v (_, k + p) hpl)
    have hf5f : w5.frozen? ⟨g, 25, none⟩ = false := hg5'.free _ (by rw [s0G]; simp only; omega)
    clear hg4 hr4 hfr4 hc4 hf5
    have HPL := qH hpl; clear hpl
    go_wp2_with fail
    go_roundw
    case rel =>
     have e : c0g (S, k) (r.take p) = (b0g S3, 0) := by rw [i0s _ _ _ (by rw [HRL.out]; exact HFULL.out) hkj, HXS.out]
     have h2 := HFE.out
     rw [e] at h2
     have hg6 := hg5'.set 25 (.int .i64 ((0 : Nat) : Int))
     rw [s0H _ _ _ HPL.out] at hg6
     exact ⟨(b0g S3, 0), r.drop p, m - p, c0H a p cc, cc - p, rfl, by omega, by omega, hr5.keep ((Fr.refl (One g) w5).setCell g 25 none _ (fun _ => rfl)) hoff4, hoff4, hg6, by simp, HPL.out, h2, hfr5.setCell g 25 none _ (fun _ => rfl)⟩
    case measure => have := HP.out; simp [lenV]; omega
   ·have hfb : ((k : Int) + (p : Int) == 136) = false := by rw [beq_eq_false_iff_ne]; omega
    have hc4 : w4.cell? ⟨g, 25, none⟩ = some (.int .i64 ((k : Int) + (p : Int))) := hg4.cell (i0v (S3, k + p) HSL.out)
    have hlt136 : k + p < 136 := by omega
    go_wp2_with fail
    go_roundw
    case rel =>
     have e : c0g (S, k) (r.take p) = (S3, k + p) := by rw [q0Z _ _ _ (by rw [HRL.out]; exact hlt136), HXS.out, HRL.out]
     have h2 := HFE.out
     rw [e] at h2
     exact ⟨(S3, k + p), r.drop p, m - p, c0H a p cc, cc - p, rfl, by omega, by omega, hr4, hoff4, hg4, hlt136, HSL.out, h2, hfr4⟩
    case measure => have := HP.out; simp [lenV]; omega
  ·have hge : ¬ 0 < m := hlt
   have hm0 : m = 0 := by omega
   have hr0 : r = [] := List.eq_nil_of_length_eq_zero (by rw [hra.len, hm0])
   have HR := qH hr0; clear hr0 hm0
   go_wp2_with fail
   go_end0
   have h2 := HF.out
   rw [HR.out, h0K] at h2
   exact ⟨rfl, by rw [← h2]; exact hgj, hf⟩
end Go.Proofs.YtemcankmggmgoaaGreat
namespace Go.Mv
open Go.RowKit
variable {P : Program}
theorem p0z {w : World} {ops : Array Oper} {rest : List Oper} {o : Oper} {a : Act} {Q : Exit → Act → World → Prop} {t : TypeId} {parts : Array (Nat × Operand)} (hgd : o.guard = none) (ho : o.op = .build t parts) (cells : Array Value)
  (hb : P.built t (parts.map fun (i, x) => (i, a.eval x)).toList = some cells) (h : wpList P ops Q rest (a.put o.dst (.agg cells)) w) : wpList P ops Q (o :: rest) a w := by
 refine wpList_plain hgd fun K hK => ?_
 have hr := run_build (P := P) w t (parts.map fun (i, x) => (i, a.eval x)) cells hb
 unfold Oper.wp execOp
 simp only [ho, Sem.run_bind, Sem.run_pure, Result.andThen_ok, hr]
 exact hK _ _ h
theorem c0J {w : World} {ops : Array Oper} {rest : List Oper} {o : Oper} {a : Act} {Q : Exit → Act → World → Prop} {t : TypeId} (hgd : o.guard = none) (ho : o.op = .build t #[]) (cells : Array Value)
  (hb : P.built t [] = some cells) (h : wpList P ops Q rest (a.put o.dst (.agg cells)) w) : wpList P ops Q (o :: rest) a w :=
 p0z hgd ho cells (by simpa using hb) h
def Old (w : World) (a : Option Addr) : Prop := ∀ x, a = some x → x.block < w.heap.size
theorem Old.grow {w w' : World} {a : Option Addr} (h : Old w a) (hs : w.heap.size ≤ w'.heap.size) : Old w' a := fun x hx => Nat.lt_of_lt_of_le (h x hx) hs
theorem Old.off {w : World} {a : Option Addr} (h : Old w a) {g : Nat} (hg : w.heap.size ≤ g) : Off (One g) a := fun x hx (e : x.block = g) => by have := h x hx; omega
theorem Old.none (w : World) : Old w .none := fun _ h => by cases h
theorem Old.has {w : World} {g : Nat} {L : List Value} {T : TypeId} (h : Has w g L T) (o : Nat) : Old w (some ⟨g, o, .none⟩) := fun x hx => by cases hx; exact h.lt
theorem m0t {w : World} {ops : Array Oper} {rest : List Oper} {o : Oper} {a : Act} {Q : Exit → Act → World → Prop} {e : TypeId} {x : Operand} (hgd : o.guard = none) (ho : o.op = .box e x) {v : Value} (hx : a.eval x = v) (L : List Value) (hL : v.cells.toList = L)
  (h : ∀ w', Has w' w.heap.size L e → Fr Nob w w' → w'.heap.size = w.heap.size + 1 → wpList P ops Q rest (a.put o.dst (.pointer (some ⟨w.heap.size, 0, none⟩))) w') : wpList P ops Q (o :: rest) a w := by
 refine wpList_plain hgd fun K hK => ?_
 have hr : (Instr.box e v).run P w = .ok (.pointer (some ⟨w.heap.size, 0, none⟩)) (w.alloc (.cells v.cells e)) := by
  simp [Instr.box, newVar, newRow]
 unfold Oper.wp execOp
 simp only [ho, hx, Sem.run_bind, Sem.run_pure, Result.andThen_ok, hr]
 refine hK _ _ (h _ ?_ ((Fr.refl _ w).alloc _) ap17)
 have := Has.new w v.cells e
 rwa [hL] at this
theorem s0J {w : World} {ops : Array Oper} {rest : List Oper} {o : Oper} {a : Act} {Q : Exit → Act → World → Prop} {t e : TypeId} {y0 y1 y2 y3 : Operand} (hgd : o.guard = none) (ho : o.op = .buildSlice t 4 #[(0, y0), (1, y1), (2, y2), (3, y3)])
  (hu : P.underlying t = some (.slice e)) (hi0 : (P.info? e).map (fun i => (i.zero, i.size, i.bytes)) = some (some (.int .u8 0), 1, 1)) (x0 x1 x2 x3 : UInt8)
  (h0 : a.eval y0 = .int .u8 (x0.toNat : Int)) (h1 : a.eval y1 = .int .u8 (x1.toNat : Int)) (h2 : a.eval y2 = .int .u8 (x2.toNat : Int)) (h3 : a.eval y3 = .int .u8 (x3.toNat : Int))
  (h : ∀ w', Has w' w.heap.size (bs [x0, x1, x2, x3]) e → Fr Nob w w' → w'.heap.size = w.heap.size + 1 → wpList P ops Q rest (a.put o.dst (.slice (some ⟨w.heap.size, 0, none⟩) 4 4)) w') : wpList P ops Q (o :: rest) a w := by
 obtain ⟨i, hi, hz⟩ : ∃ i, P.info? e = some i ∧ (i.zero, i.size, i.bytes) = (some (.int .u8 0), 1, 1) := by simpa using hi0
 simp only [Prod.mk.injEq] at hz
 obtain ⟨hz, hsz, hby⟩ := hz
 have hp : ((#[(0, y0), (1, y1), (2, y2), (3, y3)] : Array (Nat × Operand)).map fun (i, x) => (i, a.eval x)).toList = [(0, .int .u8 (x0.toNat : Int)), (1, .int .u8 (x1.toNat : Int)), (2, .int .u8 (x2.toNat : Int)), (3, .int .u8 (x3.toNat : Int))] := by simp [h0, h1, h2, h3]
 have hf : Instr.fill (fun j => some (j * i.size, i.size)) ((Array.range (4 * i.size)).map ((Value.int .u8 0).cells[· % (Value.int .u8 0).cells.size]!)) ((#[(0, y0), (1, y1), (2, y2), (3, y3)] : Array (Nat × Operand)).map fun (i, x) => (i, a.eval x)).toList = some (bs [x0, x1, x2, x3]).toArray := by
  rw [hp, hsz]
  exact Great.fill_flat (bs [x0, x1, x2, x3]) _ (fun v hv => by simp [bs] at hv; rcases hv with rfl | rfl | rfl | rfl <;> rfl) (by simp [bs])
 exact wpList_buildSlice hgd t e 4 _ ho _ i _ hu hi hz (by rw [hsz]; decide) (by rw [hsz]; decide) hf (h _ (Has.new w (bs [x0, x1, x2, x3]).toArray e) ((Fr.refl _ w).alloc _) ap17)
theorem y0y {w : World} {ops : Array Oper} {rest : List Oper} {o : Oper} {a : Act} {Q : Exit → Act → World → Prop} {t e : TypeId} {y : Operand} (hgd : o.guard = none) (ho : o.op = .buildSlice t 1 #[(0, y)])
  (hu : P.underlying t = some (.slice e)) (hi0 : (P.info? e).map (fun i => (i.zero, i.size, i.bytes)) = some (some (.int .u8 0), 1, 1)) (x0 : UInt8)
  (hy : a.eval y = .int .u8 (x0.toNat : Int))
  (h : ∀ w', Has w' w.heap.size (bs [x0]) e → Fr Nob w w' → w'.heap.size = w.heap.size + 1 → wpList P ops Q rest (a.put o.dst (.slice (some ⟨w.heap.size, 0, none⟩) 1 1)) w') : wpList P ops Q (o :: rest) a w := by
 obtain ⟨i, hi, hz⟩ : ∃ i, P.info? e = some i ∧ (i.zero, i.size, i.bytes) = (some (.int .u8 0), 1, 1) := by simpa using hi0
 simp only [Prod.mk.injEq] at hz
 obtain ⟨hz, hsz, hby⟩ := hz
 have hp : ((#[(0, y)] : Array (Nat × Operand)).map fun (i, x) => (i, a.eval x)).toList = [(0, .int .u8 (x0.toNat : Int))] := by simp [hy]
 have hf : Instr.fill (fun j => some (j * i.size, i.size)) ((Array.range (1 * i.size)).map ((Value.int .u8 0).cells[· % (Value.int .u8 0).cells.size]!)) ((#[(0, y)] : Array (Nat × Operand)).map fun (i, x) => (i, a.eval x)).toList = some (bs [x0]).toArray := by
  rw [hp, hsz]
  exact Great.fill_flat (bs [x0]) _ (fun v hv => by simp [bs] at hv; subst hv; rfl) (by simp [bs])
 exact wpList_buildSlice hgd t e 1 _ ho _ i _ hu hi hz (by rw [hsz]; decide) (by rw [hsz]; decide) hf (h _ (Has.new w (bs [x0]).toArray e) ((Fr.refl _ w).alloc _) ap17)
theorem Own.cells {w : World} {base : Nat} {T : TypeId} {v : Value} {n : Nat} {L : List Value} (h : Own w base T 1 v n L) (hn : 0 < n) :
  ∃ g o cap, v = .slice (some ⟨g, o, none⟩) n cap ∧ base ≤ g ∧ g < w.heap.size ∧ n ≤ cap ∧ cap ≤ maxLen ∧ (∀ i x, L[i]? = some x → w.cell? ⟨g, o + i, none⟩ = some x) ∧ (∀ i, i < n → w.frozen? ⟨g, o + i, none⟩ = false) ∧
   (∀ i x, i < n → Own (w.setCell ⟨g, o + i, none⟩ x) base T 1 v n (L.set i x)) := by
 obtain ⟨hl, h | ⟨g, o, cap, B, rfl, hb, hg, h1, h2, h3, h4⟩⟩ := h
 ·obtain ⟨_, h0⟩ := h; omega
 ·rw [Nat.mul_one] at h3 h4 hl
  refine ⟨g, o, cap, rfl, hb, hg.lt, h1, h2, ?_, ?_, ?_⟩
  ·intro i x hx
   rw [← h4, List.getElem?_take] at hx
   split at hx
   ·rw [List.getElem?_drop] at hx; exact hg.cell hx
   ·cases hx
  ·intro i hi; exact hg.free _ ap16
  ·intro i x hi
   refine ⟨by rw [List.length_set, hl, Nat.mul_one], .inr ⟨g, o, cap, B.set (o + i) x, rfl, hb, hg.set (o + i) x, h1, h2, by rw [List.length_set]; omega, ?_⟩⟩
   rw [Nat.mul_one, ← h4]
   apply List.ext_getElem?
   intro j
   simp only [List.getElem?_take, List.getElem?_drop, List.getElem?_set]
   by_cases hj : j < n
   ·rw [if_pos hj]
    by_cases e : i = j
    ·subst e
     rw [if_pos rfl, if_pos rfl, if_pos ap16, if_pos (by rw [List.length_take, List.length_drop]; omega)]
    ·rw [if_neg ap16, if_neg e, if_pos hj]
   ·rw [if_neg hj]
    by_cases e : i = j
    ·omega
    ·rw [if_neg e, if_neg hj]
end Go.Mv
namespace Mvp
theorem s0K (l : List UInt8) : ∀ (S : List UInt64) (k : Nat), k < 136 → (c0g (S, k) l).2 = (k + l.length) % 136 := by
 induction l with
 | nil => intro S k h; simp [h0K]; omega
 | cons x l ih =>
  intro S k h
  rw [e0i, m0p]
  split
  ·rename_i h1
   simp only at h1
   rw [ih _ _ ap16, List.length_cons]; omega
  ·rename_i h1
   simp only at h1
   rw [ih _ _ ap16, List.length_cons]
   congr 1; omega
def e0j (l : List UInt8) (e : UInt8) : List UInt8 := l ++ p0w (l.length % 136) e
theorem j0O (l : List UInt8) (e : UInt8) : (e0j l e).length = l.length + (136 - l.length % 136) := by
 rw [e0j, List.length_append, p0x _ _ (Nat.mod_lt _ ap15)]
theorem r0b (l : List UInt8) (e : UInt8) : (e0j l e).length % 136 = 0 := by
 rw [j0O]; omega
theorem s0L (l : List UInt8) (e : UInt8) (m : Nat) (hm : m = 135 - l.length % 136) : (l ++ e :: List.replicate m 0).set (l.length + m) (bx ((l ++ e :: List.replicate m 0).getD (l.length + m) 0) 0x80) = e0j l e := by
 subst hm
 have h2 : (l ++ e :: List.replicate (135 - l.length % 136) 0).getD (l.length + (135 - l.length % 136)) 0 = (e :: List.replicate (135 - l.length % 136) 0).getD (135 - l.length % 136) 0 := by
  rw [List.getD_eq_getElem?_getD, List.getD_eq_getElem?_getD, List.getElem?_append_right ap16, Nat.add_sub_cancel_left]
 rw [h2, List.set_append_right _ _ ap16, Nat.add_sub_cancel_left]
 rfl
theorem m0u (l : List UInt8) (e : UInt8) : j0A (c0g (a0F, 0) l) e = (c0g (a0F, 0) (e0j l e)).1 := by
 rw [j0A, e0j, d0D, s0K _ _ _ ap15, Nat.zero_add]
def e0k (p : List UInt8) (i : Nat) : List UInt64 := (c0g (a0F, 0) (p.take i)).1
theorem r0c (p : List UInt8) (i : Nat) : (e0k p i).length = 25 := by rw [e0k, g0d]; rfl
theorem o0i (p : List UInt8) : e0k p 0 = a0F := by rw [e0k, List.take_zero, h0K]
theorem r0d (l : List UInt8) (e : UInt8) (i : Nat) (h : (e0j l e).length ≤ i) : e0k (e0j l e) i = j0A (c0g (a0F, 0) l) e := by
 rw [e0k, List.take_of_length_le h, m0u]
theorem o0j (p : List UInt8) (i : Nat) (hi : i % 136 = 0) (h : i + 136 ≤ p.length) : e0k p (i + 136) = b0g (c0I (e0k p i) 0 ((p.drop i).take 136)) := by
 have hl : (p.take i).length = i := by rw [List.length_take]; omega
 have h2 : (c0g (a0F, 0) (p.take i)).2 = 0 := by rw [s0K _ _ _ ap15, hl]; omega
 have hm : ((p.drop i).take 136).length = 136 := by rw [List.length_take, List.length_drop]; omega
 have h3 : c0g (a0F, 0) (p.take i) = (e0k p i, 0) := Prod.ext rfl h2
 rw [e0k, List.take_add, d0D, h3, i0s _ _ _ (by rw [hm]) ap15]
def addB (b p : List UInt8) : Nat → List UInt8
 | 0 => b
 | j + 1 => (addB b p j).set j (bx ((addB b p j).getD j 0) (p.getD j 0))
theorem m0v (b p : List UInt8) : addB b p 0 = b := rfl
theorem i0y (b p : List UInt8) (j : Nat) : addB b p (j + 1) = (addB b p j).set j (bx ((addB b p j).getD j 0) (p.getD j 0)) := rfl
theorem h0L (b p : List UInt8) (j : Nat) : (addB b p j).length = b.length := by
 induction j with
 | zero => rfl
 | succ j ih => rw [i0y, List.length_set, ih]
theorem w0b (b p : List UInt8) (j : Nat) (hj : j ≤ b.length) (i : Nat) (hi : i < b.length) : (addB b p j).getD i 0 = if i < j then bx (b.getD i 0) (p.getD i 0) else b.getD i 0 := by
 induction j generalizing i with
 | zero => simp [m0v]
 | succ j ih =>
  rw [i0y, List.getD_eq_getElem?_getD, List.getElem?_set]
  by_cases e : j = i
  ·subst e
   rw [if_pos rfl, if_pos (by rw [h0L]; omega), if_pos ap16, ih ap16 j ap16, if_neg ap16]
   rfl
  ·rw [if_neg e, ← List.getD_eq_getElem?_getD, ih ap16 i hi]
   by_cases h1 : i < j
   ·rw [if_pos h1, if_pos ap16]
   ·rw [if_neg h1, if_neg ap16]
theorem w0c (S : List UInt64) (hS : S.length = 25) (p : List UInt8) (hp : 136 ≤ p.length) : b0R (addB (toB S 200) p 136) = toB (b0g (c0I S 0 (p.take 136))) 200 := by
 have hl : (p.take 136).length = 136 := by rw [List.length_take]; omega
 unfold b0R
 rw [p0y S hS (p.take 136) _ ap16 (by rw [h0L, b0s]) (fun i hi => ?_)]
 rw [w0b _ _ _ (by rw [b0s]; omega) i (by rw [b0s]; omega), s0E _ _ _ hi, hl]
 by_cases h : i < 136
 ·rw [if_pos h, if_pos h]
  congr 1
  simp only [List.getD_eq_getElem?_getD, List.getElem?_take, if_pos h]
 ·rw [if_neg h, if_neg h]
theorem w0d (S : List UInt64) (hS : S.length = 25) : b0R (toB S 200) = toB (b0g S) 200 := by
 unfold b0R
 rw [p0y S hS [] _ ap17 (by rw [b0s]) (fun i hi => by rw [s0E _ _ _ hi]; simp)]
 rfl
theorem w0e (S : List UInt64) : (toB S 200).take 136 = toB S 136 := by
 unfold toB
 rw [← List.map_take, List.take_range, Nat.min_eq_left ap16]
theorem s0M : toB a0F 200 = List.replicate 200 0 := by
 have key : ∀ n, toB a0F n = List.replicate n 0 := by
  intro n
  refine List.eq_replicate_iff.2 ⟨b0s _ _, fun x hx => ?_⟩
  unfold toB at hx
  obtain ⟨i, _, rfl⟩ := List.mem_map.1 hx
  exact i0u i
 exact key 200
end Mvp
namespace Go.Proofs.YtemcankmggmgoaaGreat
section
open Go.RowKit Go.Mv Mvp
attribute [local irreducible] b0g b0x toB a0u a0B b0h b0R
theorem r0e (l : List UInt8) (e : UInt8) (m : Nat) : bs (l ++ e :: List.replicate m 0) ++ bs [0] = bs (l ++ e :: List.replicate (m + 1) 0) := by
 rw [← d0C, List.replicate_succ']; simp
theorem Rd.take {w : World} {a : Option Addr} {n : Nat} {vs : List Value} (h : Rd w a n vs) (p : Nat) (hp : p ≤ n) : Rd w a p (vs.take p) := by
 refine ⟨by rw [List.length_take, h.len]; omega, h.2.imp (fun h0 => by omega) ?_⟩
 rintro ⟨b, o, rfl, hc⟩
 refine ⟨b, o, rfl, fun i v hv => ?_⟩
 rw [List.getElem?_take] at hv
 split at hv
 ·exact hc i v hv
 ·cases hv
theorem f0r (l m : List UInt8) : mkS l ++ mkS m = mkS (l ++ m) := by
 apply ByteArray.ext
 simp [mkS]
theorem o0k (l : List UInt8) (n : Nat) : (mkS l).extract 0 n = mkS (l.take n) := by
 apply ByteArray.ext
 simp [mkS]
theorem k0U (S : List UInt64) : a0B S 0 = [] := by unfold a0B; rfl
theorem o0l (S : List UInt64) : b0h S 0 = S := by unfold b0h; rfl
def y0z : Value → Nat
 | .string s => s.size
 | _ => 0
theorem r0f (n j : Nat) : 136 * j < n ↔ j < e0Y n := by unfold e0Y; omega
theorem o0m (s : ByteArray) (e : UInt8) (n : Nat) (w : World) (hs : s.size ≤ 1000000) (hn : n ≤ 20000) :
  Calls Tryz.prog 176 #[.string s, .int .u8 (e.toNat : Int), .int .i64 (n : Int)] w fun r w' => r = .returned (.string (mkS (a0L s.data.toList e n))) ∧ Fr Nob w w' := by
 obtain ⟨l, rfl⟩ : ∃ l, s = mkS l := ⟨_, (h0D s).symm⟩
 rw [b0a] at hs
 rw [b0o]
 go_enter Tryz.func176, Tryz.ntmps176
 go_wp2_with (with_reducible refine wSk 13 ?_)
 refine d0b rfl rfl Tryz.underlying9 Tryz.underlying22 Tryz.underlying5 rfl (by rw [b0a]; unfold maxLen; omega) w.heap.size (Nat.le_refl _) ?_
 intro cap w1 hown1 hf1 hz1
 rw [b0o, b0a] at hown1
 rw [b0a]
 go_wp2_with (with_reducible refine wSk 15 ?_)
 refine y0y rfl rfl Tryz.underlying22 b0K e rfl ?_
 intro w2 hg2 hf2 hz2
 have hown2 := hown1.still hf2
 have hfr2 := hf1.then hf2
 generalize w1.heap.size = g1 at *
 clear hown1 hf1 hf2 hz2 hz1
 go_wp2_with (with_reducible refine wSk 16 ?_)
 refine c0E rfl rfl Tryz.underlying22 b0K rfl ap15 hown2 rfl rfl (Rd.whole hg2) (i0d _) (by simp [maxLen]; omega) (by simp; omega) hfr2.size ?_
 intro v3 w3 hown3 hf3 hb3
 have hfr3 : Fr Nob w w3 := hown2.fr hfr2 (Nat.le_refl _) hf3
 clear hown2 hfr2 hg2 hf3 hb3
 go_wp2_with fail
 go_loopw [7] (fun v wr => ∃ m, m ≤ 135 - l.length % 136 ∧ Own wr w.heap.size 5 1 v (l.length + 1 + m) (bs (l ++ e :: List.replicate m 0)) ∧ Fr Nob w wr) (fun v _ => l.length + 136 - lenV v)
 case atStart => exact ⟨0, Nat.zero_le _, by simpa [bs] using hown3, hfr3⟩
 case round =>
  obtain ⟨m, hm, hown, hf⟩ := hrel
  clear hown3 hfr3
  obtain ⟨a, c, rfl, hc, hrd, hna⟩ := hown.form
  have hmod := Nat.mod_lt l.length (show 0 < 136 by decide)
  by_cases hlt : (l.length + 1 + m) % 136 = 0
  ·have hb : (((l.length : Int) + 1 + (m : Int)) % 136 != 0) = false := by simp; omega
   have hmk : m = 135 - l.length % 136 := by omega
   have HMK := qH hmk; clear hmk
   have HMOD := qH hmod; clear hmod
   have HLT := qH hlt; clear hlt
   obtain ⟨gp, op, cp, hv, hgp, hgp2, hcp, hcm, hget, hfree, hput⟩ := hown.cells ap16
   simp only [Value.slice.injEq] at hv
   obtain ⟨rfl, -, rfl⟩ := hv
   have hlen : (l ++ e :: List.replicate m 0).length = l.length + 1 + m := by simp; omega
   have hcl : wr.cell? ⟨gp, op + (l.length + m), none⟩ = some (.int .u8 (((l ++ e :: List.replicate m 0).getD (l.length + m) 0).toNat : Int)) := hget _ _ (l0W _ _ ap16)
   have hfl := hfree (l.length + m) ap16
   have hput2 := hput (l.length + m)
   clear hget hfree hput hrd hna
   generalize hy : (l ++ e :: List.replicate m 0).getD (l.length + m) 0 = y at hcl
   have HY := qH hy; clear hy
   have hbx : bits BinOp.xor IntKind.u8 (y.toNat : Int) 128 = ((bx y 128).toNat : Int) := k0I y 128
   go_wp2_with (with_reducible refine wSk 36 ?_)
   have hown4 := hput2 (.int .u8 ((bx y 0x80).toNat : Int)) ap16
   rw [h0m, ← HY.out, s0L l e m HMK.out] at hown4
   rw [HY.out] at hown4
   have hfr4 : Fr Nob w (wr.setCell ⟨gp, op + (l.length + m), none⟩ (.int .u8 ((bx y 128).toNat : Int))) := hf.setCell gp _ none _ (fun h => by omega)
   have hgp4 : gp < (wr.setCell ⟨gp, op + (l.length + m), none⟩ (.int .u8 ((bx y 128).toNat : Int))).heap.size := by simpa using hgp2
   generalize wr.setCell ⟨gp, op + (l.length + m), none⟩ (.int .u8 ((bx y 128).toNat : Int)) = w4 at *
   have hpl := j0O l e
   have hpm := r0b l e
   have hpe := r0d l e
   have hN : l.length + 1 + m = (e0j l e).length := by rw [hpl, HMK.out]; have := HMOD.out; omega
   have hpb : (e0j l e).length ≤ 1000136 := by rw [hpl]; omega
   rw [hN] at hown4 ⊢
   have hrd4 : RdB w4 (some ⟨gp, op, none⟩) (e0j l e).length (e0j l e) := by
    obtain ⟨a, cc, hv, _, hr, _⟩ := hown4.form
    cases hv
    rw [Nat.mul_one] at hr; exact hr
   clear hown hown4 hf hgp2 hput2 hcl hfl hbx HY hlen hpl hb HLT hc hcm hcp HMK
   generalize hP : e0j l e = P at *
   have HP := qH hP; clear hP
   refine c0y rfl rfl Tryz.underlying22 b0K rfl rfl rfl 200 200 ap17 ap17 ap16 ap16 ap11 ?_
   intro w5 hg5 hf5 hz5
   have hs5 : Own w5 w4.heap.size 5 1 (.slice (some ⟨w4.heap.size, 0, none⟩) 200 200) 200 (bs (toB a0F 200)) := by
    rw [s0M]
    have := Own.made hg5 w4.heap.size (Nat.le_refl _) 1 200 200 (Nat.le_refl _) ap11 ap17
    rw [List.take_of_length_le ap17] at this
    exact this
   have hrd5 := hrd4.still hf5
   have hfr5 := hfr4.then hf5
   have hb5 : w4.heap.size ≤ w5.heap.size := hf5.size
   have hwb : w.heap.size ≤ w4.heap.size := hfr4.size
   generalize w4.heap.size = b5 at *
   clear hg5 hf5 hz5 hrd4 hfr4
   go_wp2_with fail
   go_loopw [9, 8] (fun i v wr => ∃ I : Nat, I ≤ P.length ∧ I % 136 = 0 ∧ i = .int .i64 (I : Int) ∧ Own wr b5 5 1 v 200 (bs (toB (e0k P I) 200)) ∧ RdB wr (some ⟨gp, op, none⟩) P.length P ∧ b5 ≤ wr.heap.size ∧ Fr Nob w wr) (fun i _ _ => (P.length - intOf i).toNat)
   case atStart => exact ⟨0, by omega, rfl, rfl, by rw [o0i]; exact hs5, hrd5, hb5, hfr5⟩
   case round =>
    obtain ⟨I, hk, hI, rfl, hst, hrdk, hbk, hfk⟩ := hrel
    clear hs5 hrd5 hb5 hfr5
    have hSl := r0c P I
    by_cases hlt : I < P.length
    ·have hltI : (I : Int) < (P.length : Int) := by omega
     have hk2 : I + 136 ≤ P.length := by omega
     have hsucc := o0j P I hI hk2
     generalize hS0 : e0k P I = S at *
     have HS0 := qH hS0; clear hS0
     have HI := qH hI; clear hI
     have HSU := qH hsucc; clear hsucc
     have HSL := qH hSl; clear hSl
     have HPE := qH hpe; clear hpe
     have HPM := qH hpm; clear hpm
     obtain ⟨gs, os, cs, rfl, hgs, hgs2, hcs, hcm, -, -, -⟩ := hst.cells ap16
     obtain ⟨wo, rfl⟩ : ∃ wo : World, wo = wr := ⟨_, rfl⟩
     go_wp2_with fail
     go_loopw [10] (fun j wr => ∃ jn : Nat, jn ≤ 136 ∧ j = .int .i64 (jn : Int) ∧ Own wr b5 5 1 (.slice (some ⟨gs, os, none⟩) 200 cs) 200 (bs (addB (toB S 200) (P.drop I) jn)) ∧ RdB wr (some ⟨gp, op, none⟩) P.length P ∧ b5 ≤ wr.heap.size ∧ Fr Nob w wr) (fun j _ => (136 - intOf j).toNat)
     case atStart => exact ⟨0, by omega, rfl, by rw [m0v]; exact hst, hrdk, hbk, hfk⟩
     case round =>
      obtain ⟨j, hj, rfl, hsj, hrdj, hbj, hfj⟩ := hrel
      clear hst hrdk hbk hfk
      by_cases hjlt : j < 136
      ·have hjI : (j : Int) < 136 := by omega
       obtain ⟨gs', os', cs', hv, -, hgs3, -, -, hget, hfree, hput⟩ := hsj.cells ap16
       simp only [Value.slice.injEq, Option.some.injEq, Addr.mk.injEq] at hv
       obtain ⟨⟨rfl, rfl, -⟩, -, rfl⟩ := hv
       have hc1 : wr.cell? ⟨gs, os + j, none⟩ = some (.int .u8 (((addB (toB S 200) (P.drop I) j).getD j 0).toNat : Int)) := hget _ _ (l0W _ _ (by rw [h0L, b0s]; omega))
       have hf1 := hfree j ap16
       have hput1 := hput j
       have hc2 : wr.cell? ⟨gp, op + (I + j), none⟩ = some (.int .u8 ((P.getD (I + j) 0).toNat : Int)) := by
        obtain ⟨b, o, he, hh⟩ := hrdj.at ap16
        simp only [Option.some.injEq, Addr.mk.injEq] at he
        obtain ⟨rfl, rfl, -⟩ := he
        exact hh _ ap16
       clear hget hfree hput
       generalize hx : (addB (toB S 200) (P.drop I) j).getD j 0 = x at hc1
       generalize hy : P.getD (I + j) 0 = y at hc2
       have HX := qH hx; clear hx
       have HY := qH hy; clear hy
       go_wp2_with fail
       try go_region
       all_goals go_wp2
       go_roundw
       case rel =>
        have e : (P.drop I).getD j 0 = y := by
         rw [← HY.out]; simp [List.getD_eq_getElem?_getD, List.getElem?_drop]
        have h1 := hput1 (.int .u8 ((bx x y).toNat : Int)) ap16
        rw [h0m, ← HX.out, ← e, ← i0y] at h1
        rw [HX.out, e] at h1
        refine ⟨j + 1, by omega, by go_num, h1, ?_, ?_, ?_⟩
        ·exact hrdj.keep ((Fr.refl (One gs) wr).setCell gs _ none _ (fun _ => rfl)).drew (fun a ha (hh : a.block = gs) => by simp only [Option.some.injEq] at ha; subst ha; simp at hh; omega)
        ·simpa using hbj
        ·exact (hfj.setCell gs _ none _ (fun h => by omega)).drew
       case measure => simp [intOf]; omega
      ·have hge : ¬ ((j : Int) < 136) := by omega
       have hj136 : j = 136 := by omega
       have HJ := qH hj136; clear hj136
       go_wp2_with (with_reducible refine wSk 62 ?_)
       have hrs : RdB wr (some ⟨gs, os, none⟩) 200 (addB (toB S 200) (P.drop I) 136) := by
        obtain ⟨a, cc, hv, _, hr, _⟩ := hsj.form
        cases hv
        rw [HJ.out, Nat.mul_one] at hr; exact hr
       refine e0e rfl rfl Tryz.underlying22 Tryz.underlying5 Tryz.underlying9 rfl hrs ?_
       go_wp2_with fail
       refine (h0r (mkS (addB (toB S 200) (P.drop I) 136)) _ (by rw [b0a, h0L, b0s])).mono ?_
       rintro e' w6 ⟨rfl, hf6⟩
       rw [b0o, w0c S HSL.out _ (by rw [List.length_drop]; omega), ← HSU.out]
       have hb6 : b5 ≤ w6.heap.size := Nat.le_trans hbj hf6.size
       go_wp2_with (with_reducible refine wSk 64 ?_)
       refine d0b rfl rfl Tryz.underlying9 Tryz.underlying22 Tryz.underlying5 rfl (by rw [b0a, b0s]; unfold maxLen; omega) b5 hb6 ?_
       intro c7 w7 hs7 hf7 hz7
       rw [b0o, b0a, b0s] at hs7
       rw [b0a, b0s]
       have hf67 := hf6.then hf7
       have hrd7 := hrdj.still hf67
       have hfr7 := hfj.then hf67
       have hb7 : b5 ≤ w7.heap.size := Nat.le_trans hb6 hf7.size
       generalize w6.heap.size = g6 at *
       clear hsj hrdj hfj hrs hf6 hf7 hz7 hf67
       go_wp2_with fail
       go_roundw
       case rel => exact ⟨I + 136, by omega, by have := HI.out; omega, by go_num, hs7, hrd7, hb7, hfr7⟩
       case measure => simp [intOf]; omega
    ·have hge : ¬ ((I : Int) < (P.length : Int)) := by omega
     have hend : e0k P I = j0A (c0g (a0F, 0) l) e := hpe I ap16
     rw [hend] at hst hSl
     clear hpe hend
     generalize hE : j0A (c0g (a0F, 0) l) e = S0 at *
     have HE := qH hE; clear hE
     have HPM := qH hpm; clear hpm
     clear hrdk
     go_wp2_with fail
     go_loopw [11, 8] (fun o v wr => ∃ j : Nat, j ≤ e0Y n ∧ o = .string (mkS (a0B S0 j)) ∧ Own wr b5 5 1 v 200 (bs (toB (b0h S0 j) 200)) ∧ b5 ≤ wr.heap.size ∧ Fr Nob w wr) (fun o _ _ => n - y0z o)
     case atStart => exact ⟨0, Nat.zero_le _, by rw [k0U]; rfl, by rw [o0l]; exact hst, hbk, hfk⟩
     case round =>
      obtain ⟨j, hj, rfl, hsj, hbj, hfj⟩ := hrel
      clear hst hbk hfk
      have hpi := r0f n j
      have hql : (mkS (a0B S0 j)).size = 136 * j := by rw [b0a, f0N]
      generalize hq : mkS (a0B S0 j) = q at *
      have HQ := qH hq; clear hq
      by_cases hlt : 136 * j < n
      ·have hltI : (q.size : Int) < (n : Int) := by omega
       have hj1 := hpi.1 hlt
       have HPI := qH hpi; clear hpi
       have HQL := qH hql; clear hql
       have HLT := qH hlt; clear hlt
       have HSL := qH hSl; clear hSl
       obtain ⟨a, cc, rfl, hcc, hrs, hna⟩ := hsj.form
       have e1 : ∀ wx, (Instr.sliceAt 22 (.slice a 200 cc) none (some (.int .i64 136)) none).run Tryz.prog wx = .ok (.slice a 136 cc) wx := fun wx => d0T wx Tryz.underlying22 c0F a 200 cc .i64 136 ap16
       go_wp2_with (with_reducible refine wSk 72 ?_)
       have hrs2 : RdB wr a 136 (toB (b0h S0 j) 136) := by
        have h2 := hrs
        rw [Nat.mul_one] at h2
        have h3 := Rd.take h2 136 ap16
        rwa [e0y, w0e] at h3
       have hrs3 : RdB wr a 200 (toB (b0h S0 j) 200) := by
        rw [Nat.mul_one] at hrs; exact hrs
       clear hrs hna
       have hcat : ¬ 9223372036854775807 < q.size + (mkS (toB (b0h S0 j) 136)).size := by have := HLT.out; rw [b0a, b0s, HQL.out]; omega
       refine e0e rfl rfl Tryz.underlying22 Tryz.underlying5 Tryz.underlying9 rfl hrs2 ?_
       go_wp2_with (with_reducible refine wSk 75 ?_)
       have hqq : q ++ mkS (toB (b0h S0 j) 136) = mkS (a0B S0 (j + 1)) := by rw [← HQ.out, f0r, ← h0s]
       rw [hqq]
       refine e0e rfl rfl Tryz.underlying22 Tryz.underlying5 Tryz.underlying9 rfl hrs3 ?_
       clear hcat
       go_wp2_with fail
       refine (h0r (mkS (toB (b0h S0 j) 200)) _ (by rw [b0a, b0s])).mono ?_
       rintro e' w6 ⟨rfl, hf6⟩
       rw [b0o, w0d _ (by rw [m0r, HSL.out]), ← j0N]
       have hb6 : b5 ≤ w6.heap.size := Nat.le_trans hbj hf6.size
       go_wp2_with (with_reducible refine wSk 77 ?_)
       refine d0b rfl rfl Tryz.underlying9 Tryz.underlying22 Tryz.underlying5 rfl (by rw [b0a, b0s]; unfold maxLen; omega) b5 hb6 ?_
       intro c7 w7 hs7 hf7 hz7
       rw [b0o, b0a, b0s] at hs7
       rw [b0a, b0s]
       have hf67 := hf6.then hf7
       have hfr7 := hfj.then hf67
       have hb7 : b5 ≤ w7.heap.size := Nat.le_trans hb6 hf7.size
       generalize w6.heap.size = g6 at *
       clear hsj hfj hrs2 hrs3 hf6 hf7 hz7 hf67
       go_wp2_with fail
       go_roundw
       case rel => exact ⟨j + 1, hj1, rfl, hs7, hb7, hfr7⟩
       case measure =>
        have h1 := HLT.out; have h2 := HQL.out
        have h3 : (mkS (a0B S0 (j + 1))).size = 136 * (j + 1) := by rw [b0a, f0N]
        simp [y0z, h3]; omega
      ·have hge : ¬ ((q.size : Int) < (n : Int)) := by omega
       have hjp : j = e0Y n := by have := hpi.2; omega
       have HJP := qH hjp; clear hjp
       go_wp2_with fail
       go_ret
       refine ⟨?_, hfj⟩
       rw [← HQ.out, HJP.out, o0k]
       unfold a0L z0H
       rw [HE.out]
       rfl
  ·have hb : (((l.length : Int) + 1 + (m : Int)) % 136 != 0) = true := by simp; omega
   go_wp2_with (with_reducible refine wSk 22 ?_)
   refine y0y rfl rfl Tryz.underlying22 b0K 0 rfl ?_
   intro w2 hg2 hf2 hz2
   have hown2 := hown.still hf2
   have hfr2 := hf.then hf2
   generalize wr.heap.size = g2 at *
   clear hown hf hf2 hz2 hrd hna
   have HMOD := qH hmod; clear hmod
   have HLT := qH hlt; clear hlt
   go_wp2_with (with_reducible refine wSk 23 ?_)
   refine c0E rfl rfl Tryz.underlying22 b0K rfl ap15 hown2 rfl rfl (Rd.whole hg2) (i0d _) (by simp [maxLen]; omega) (by simp; omega) hfr2.size ?_
   intro v3 w3 hown3 hf3 hb3
   have hfr3 : Fr Nob w w3 := hown2.fr hfr2 (Nat.le_refl _) hf3
   rw [r0e] at hown3
   clear hown2 hfr2 hg2 hf3 hb3
   go_wp2_with fail
   go_roundw
   case rel => exact ⟨m + 1, by have := HMOD.out; have := HLT.out; omega, hown3, hfr3⟩
   case measure =>
    obtain ⟨a8, c8, rfl, _⟩ := hown3.form
    have := HLT.out; have := HMOD.out
    simp [lenV]; omega
end
section
open Go.RowKit Go.Mv Mvp
theorem m0w (S : List UInt64) : a0B S 0 = [] := by unfold a0B; rfl
theorem r0g (S : List UInt64) : b0h S 0 = S := by unfold b0h; rfl
theorem z0J {w : World} {base : Nat} {T : TypeId} {a : Option Addr} {m c : Nat} {L : List Value} (h : Own w base T 1 (.slice a m c) m L) (n : Nat) (hn : n ≤ m) : Own w base T 1 (.slice a n n) n (L.take n) := by
 obtain ⟨hl, h | ⟨g, o, cap, B, hv, hb, hg, h1, h2, h3, h4⟩⟩ := h
 ·obtain ⟨hv, hm⟩ := h
  cases hv
  have : n = 0 := by omega
  subst this
  exact ⟨by simp, .inl ⟨rfl, rfl⟩⟩
 ·cases hv
  refine ⟨by rw [List.length_take]; omega, .inr ⟨g, o, n, B, rfl, hb, hg, Nat.le_refl _, by omega, by omega, ?_⟩⟩
  rw [← h4, List.take_take]
  congr 1
  omega
attribute [local irreducible] b0g b0x toB a0u a0B b0h
theorem z0K (k : Nat) (e : UInt8) (h : k < 136) : ((List.replicate 136 (0 : UInt8)).set k e).set 135 (bx (((List.replicate 136 (0 : UInt8)).set k e).getD 135 0) 0x80) = List.replicate k 0 ++ p0w k e := by
 have h1 : (List.replicate 136 (0 : UInt8)).set k e = List.replicate k 0 ++ (e :: List.replicate (135 - k) 0) := by
  have : (List.replicate 136 (0 : UInt8)) = List.replicate k 0 ++ (0 :: List.replicate (135 - k) 0) := by
   rw [← List.replicate_succ, List.replicate_append_replicate]; congr 1; omega
  rw [this, List.set_append_right _ _ ap17]
  simp
 have h2 : (List.replicate k 0 ++ (e :: List.replicate (135 - k) 0)).getD 135 0 = (e :: List.replicate (135 - k) 0).getD (135 - k) 0 := by
  rw [List.getD_eq_getElem?_getD, List.getD_eq_getElem?_getD, List.getElem?_append_right (by simp; omega), List.length_replicate]
 rw [h1, h2, List.set_append_right _ _ (by simp; omega)]
 simp only [List.length_replicate, p0w]
theorem s0N (n j : Nat) : 136 * j < n ↔ j < e0Y n := by unfold e0Y; omega
theorem s0O (g : Nat) (S : List UInt64) (k : Nat) (e : UInt8) (n : Nat) (w : World) (hS : S.length = 25) (hk : k < 136) (hn : n ≤ 20000) (hg : Has w g (abs (S, k)) 234) :
  Calls Tryz.prog 193 #[.pointer (some ⟨g, 0, none⟩), .int .u8 (e.toNat : Int), .int .i64 (n : Int)] w fun r w' => ∃ v, r = .returned v ∧ Own w' w.heap.size 5 1 v n (bs (z0H (j0A (S, k) e) n)) ∧ Fr (One g) w w' := by
 go_enter Tryz.func193, Tryz.ntmps193
 go_wp2_with (with_reducible refine f0L (o := ⟨_, .alloc 241, _, _, _, _⟩) ?_)
 refine e0B rfl rfl m0s (bs (List.replicate 136 0)) (by simp [Value.cells]) ?_
 intro w1 hl1 hf1 hz1
 have hg1 := hg.keep hf1 id
 have hgl := hg.lt
 have hfr1 : Fr (One g) w w1 := (Fr.refl (One g) w).same hf1
 have hb0 : w.heap.size ≤ w1.heap.size := hf1.size
 generalize hgl0 : w.heap.size = gl at *
 have HGL := qH hgl0; clear hgl0
 clear hf1 hz1 hg
 have hc25 : w1.cell? ⟨g, 25, none⟩ = some (.int .i64 (k : Int)) := hg1.cell (i0v (S, k) hS)
 obtain ⟨vk, hck, hfk⟩ := hl1.ready (i := k) (by rw [a0I]; simpa using hk)
 have hkI : (k : Int) < 136 := by omega
 go_wp2_with (with_reducible refine wSk 15 ?_)
 have hl2 := hl1.set k (.int .u8 (e.toNat : Int))
 rw [h0m] at hl2
 have hg2 := hg1.other (g' := gl) k none (.int .u8 (e.toNat : Int)) ap16
 have hfr2 : Fr (One g) w (w1.setCell ⟨gl, k, none⟩ (.int .u8 (e.toNat : Int))) := hfr1.setCell gl k none _ (fun h => by have := HGL.out; omega)
 have hsz2 : gl < (w1.setCell ⟨gl, k, none⟩ (.int .u8 (e.toNat : Int))).heap.size := hl2.lt
 generalize w1.setCell ⟨gl, k, none⟩ (.int .u8 (e.toNat : Int)) = w2 at *
 clear hl1 hg1 hfr1 hc25 hck hfk hb0
 have hc135 : w2.cell? ⟨gl, 135, none⟩ = some (.int .u8 ((((List.replicate 136 (0 : UInt8)).set k e).getD 135 0).toNat : Int)) := hl2.cell (l0W _ _ ap17)
 have hf135 : w2.frozen? ⟨gl, 135, none⟩ = false := hl2.free _ (by rw [a0I]; simp)
 generalize hy : ((List.replicate 136 (0 : UInt8)).set k e).getD 135 0 = y at hc135
 have HY := qH hy; clear hy
 show wpList _ _ _ _ _ _
 go_wp2_with fail
 have hbx : bits BinOp.xor IntKind.u8 (y.toNat : Int) 128 = ((bx y 128).toNat : Int) := k0I y 128
 rw [hbx]
 have hl3 := hl2.set 135 (.int .u8 ((bx y 0x80).toNat : Int))
 rw [h0m, ← HY.out, z0K k e hk] at hl3
 rw [HY.out] at hl3
 have hg3 := hg2.other (g' := gl) 135 none (.int .u8 ((bx y 128).toNat : Int)) ap16
 have hfr3 : Fr (One g) w (w2.setCell ⟨gl, 135, none⟩ (.int .u8 ((bx y 128).toNat : Int))) := hfr2.setCell gl 135 none _ (fun h => by have := HGL.out; omega)
 generalize w2.setCell ⟨gl, 135, none⟩ (.int .u8 ((bx y 128).toNat : Int)) = w3 at *
 have hpl : (p0w k e).length = 136 - k := p0x k e hk
 have hne : g ≠ gl := by omega
 clear hl2 hg2 hfr2 hc135 hf135 hbx hsz2 HY
 have e1 : ∀ wx, (Instr.sliceAt 241 (.pointer (some ⟨gl, 0, none⟩)) none none none).run Tryz.prog wx = .ok (.slice (some ⟨gl, 0, none⟩) 136 136) wx := fun wx => j0B wx Tryz.underlying241 c0F gl 0
 refine wp_region_still_tail 4 ap14 ap14 ?_
 simp only [List.take_succ_cons, List.take_zero, List.drop_succ_cons, List.drop_zero]
 repeat still_step
 refine wpStill_nil ?_
 show wpList _ _ _ _ _ w3.drew
 go_wp2_with fail
 have hrd : RdB w3.drew (some ⟨gl, 0, none⟩) 136 (List.replicate k 0 ++ p0w k e) := by
  have := Rd.whole hl3.drew
  rwa [a0I, List.length_append, List.length_replicate, hpl, show k + (136 - k) = 136 by omega] at this
 refine (s0s g S [.int .i64 (k : Int)] 234 _ 136 _ _ _ hS ap16 hg3.drew hrd (fun x hx (e : x.block = g) => by simp only [Option.some.injEq] at hx; subst hx; simp at e; omega)).mono ?_
 rintro e w4 ⟨rfl, hg4, hf4, hz4⟩
 have hxb : g0a S (List.replicate k 0 ++ p0w k e) 136 = c0I S k (p0w k e) := by
  have := j0M S k (p0w k e) []
  rwa [List.append_nil, hpl, show k + (136 - k) = 136 by omega] at this
 rw [hxb, i0w] at hg4
 have hfr4 : Fr (One g) w w4 := hfr3.drew.trans hf4 (fun _ _ t => t)
 have hend : j0A (S, k) e = b0g (c0I S k (p0w k e)) := by
  unfold j0A
  rw [i0s _ _ _ (by simp only [hpl]; omega) hk]
 have hxl : (c0I S k (p0w k e)).length = 25 := by rw [i0r, hS]
 clear hl3 hg3 hfr3 e1 hrd hf4 hz4 hxb hpl
 generalize c0I S k (p0w k e) = X at *
 have HEND := qH hend; clear hend
 go_wp2_with fail
 refine (f0O g X k _ hxl hg4).mono ?_
 rintro e w5 ⟨rfl, hg5, hf5⟩
 have hfr5 : Fr (One g) w w5 := hfr4.trans hf5 (fun _ _ t => t)
 have hS5 : (b0g X).length = 25 := by rw [g0c, hxl]
 generalize b0g X = S0 at *
 clear hg4 hfr4 hf5 hxl hS
 go_wp2_with fail
 go_loopw [8] (fun v wr => ∃ j, j ≤ e0Y n ∧ Own wr w.heap.size 5 1 v (136 * j) (bs (a0B S0 j)) ∧ Has wr g (abs (b0h S0 j, k)) 234 ∧ Fr (One g) w wr) (fun v _ => n - lenV v)
 case atStart => exact ⟨0, Nat.zero_le _, by rw [m0w]; exact Own.nil _ _ _ _, by rw [r0g]; exact hg5, hfr5⟩
 case round =>
  obtain ⟨j, hj, hown, hgj, hfj⟩ := hrel
  clear hg5 hfr5
  have hjn := s0N n j
  obtain ⟨a, cap, rfl, hcap, hrdj, hna⟩ := hown.form
  by_cases hlt : 136 * j < n
  ·have hltI : 136 * (j : Int) < (n : Int) := by omega
   have hpj : (b0h S0 j).length = 25 := by rw [m0r, hS5]
   have hjp : j + 1 ≤ e0Y n := hjn.1 hlt
   have HJN := qH hjn; clear hjn
   have HLT := qH hlt; clear hlt
   clear hrdj hna
   go_wp2_with fail
   rw [← i0w] at hgj
   refine (s0t g (b0h S0 j) [.int .i64 (k : Int)] 234 136 _ hpj ap16 hgj).mono ?_
   rintro e w6 ⟨rfl, ht6, hf6, hz6⟩
   have hg6 := hgj.keep hf6 id
   rw [i0w] at hg6
   have hown6 := hown.still hf6
   have hfr6 : Fr (One g) w w6 := hfj.same hf6
   have hwb : w.heap.size ≤ wr.heap.size := hfj.size
   have hgb : g < w.heap.size := by have := HGL.out; omega
   generalize wr.heap.size = gt at *
   clear hgj hown hfj hf6
   go_wp2_with (with_reducible refine wSk 37 ?_)
   have hrd6 : Rd w6 (some ⟨gt, 0, none⟩) (136 * 1) (bs (toB (b0h S0 j) 136)) := by
    have := Rd.whole ht6
    rwa [a0I, b0s] at this
   refine c0E rfl rfl Tryz.underlying22 b0K rfl ap15 hown6 rfl rfl hrd6 (i0d _) ap11 ap16 hfr6.size ?_
   intro v7 w7 hown7 hf7 hb7
   have hg7 := hg6.keep hf7 (fun hh => by have := hown6.lt hh; omega)
   have hfr7 : Fr (One g) w w7 := hown6.fr hfr6 (Nat.le_refl _) hf7
   rw [← d0C, ← h0s] at hown7
   clear ht6 hg6 hown6 hfr6 hrd6 hf7 hb7
   go_wp2_with fail
   refine (f0O g _ k _ hpj hg7).mono ?_
   rintro e w8 ⟨rfl, hg8, hf8⟩
   rw [← j0N] at hg8
   have hown8 := hown7.keep hf8 (fun k' hk' (h : k' = g) => by have := hown7.lt hk'; omega)
   have hfr8 : Fr (One g) w w8 := hfr7.trans hf8 (fun _ _ t => t)
   clear hg7 hown7 hfr7 hf8
   go_wp2_with fail
   go_roundw
   case rel => exact ⟨j + 1, hjp, hown8, hg8, hfr8⟩
   case measure =>
    obtain ⟨a8, c8, rfl, _⟩ := hown8.form
    have := HLT.out
    simp [lenV]; omega
  ·have hge : ¬ (136 * (j : Int) < (n : Int)) := by omega
   have hjp : j = e0Y n := by have := hjn.2; omega
   have HJP := qH hjp; clear hjp
   have HJN := qH hjn; clear hjn
   have hnc : n ≤ cap := by omega
   have hnI : ¬ (n : Int) < 0 := by omega
   clear hgj
   go_wp2_with (with_reducible refine wSk 45 ?_)
   refine z0B rfl rfl Tryz.underlying22 c0F rfl 0 n n rfl rfl rfl rfl rfl (Nat.zero_le _) (Nat.le_refl _) hnc ?_
   go_wp2_with fail
   go_ret
   rw [s0F]
   refine ⟨_, rfl, ?_, hfj⟩
   have hsq : bs (z0H (j0A (S, k) e) n) = (bs (a0B S0 j)).take n := by
    rw [HEND.out, HJP.out, z0H, e0y]
   rw [hsq]
   exact z0J hown n ap16
end
end Go.Proofs.YtemcankmggmgoaaGreat
namespace Mvp
def v0I (n : Nat) : List UInt8 := [UInt8.ofNat (n / 16777216), UInt8.ofNat (n / 65536), UInt8.ofNat (n / 256), UInt8.ofNat n]
def b0b (l : List UInt8) : List UInt8 := v0I l.length ++ l
def a0y (ls : List (List UInt8)) : List UInt8 := (ls.map b0b).flatten
theorem o0n : a0y [] = [] := rfl
theorem f0H (a b : List (List UInt8)) : a0y (a ++ b) = a0y a ++ a0y b := by simp [a0y]
theorem e0E (a : List UInt8) : a0y [a] = b0b a := by simp [a0y]
theorem m0x (a : List UInt8) (b : List (List UInt8)) : a0y (a :: b) = b0b a ++ a0y b := by simp [a0y]
end Mvp
namespace Go.Proofs.YtemcankmggmgoaaGreat
section
open Go.RowKit Go.Mv Mvp
attribute [local irreducible] b0g b0x toB a0u a0B b0h b0R a0L
theorem g0h (k : Nat) : ((UInt8.ofNat k).toNat : Int) = ((k % 256 : Nat) : Int) := by simp
theorem y0A (n : Nat) (h : n ≤ 1000000) : Value.int .u8 ((n : Int) / 16777216) = .int .u8 ((UInt8.ofNat (n / 16777216)).toNat : Int) := by
 rw [g0h]; congr 1; omega
theorem y0B (n : Nat) (h : n ≤ 1000000) : Value.int .u8 ((n : Int) / 65536) = .int .u8 ((UInt8.ofNat (n / 65536)).toNat : Int) := by
 rw [g0h]; congr 1; omega
theorem y0C (n : Nat) : Value.int .u8 ((n : Int) / 256 % 256) = .int .u8 ((UInt8.ofNat (n / 256)).toNat : Int) := by
 rw [g0h]; rfl
theorem y0D (n : Nat) : Value.int .u8 ((n : Int) % 256) = .int .u8 ((UInt8.ofNat n).toNat : Int) := by
 rw [g0h]; rfl
theorem k0V (n : Nat) : (v0I n).length = 4 := rfl
theorem m0y (g : Nat) (st : List UInt64 × Nat) (b : Option Addr) (n c : Nat) (l : List UInt8) (w : World) (hS : st.1.length = 25) (hat : st.2 < 136) (hn : n ≤ 1000000) (hnc : n ≤ c) (hg : Has w g (abs st) 234) (hb : RdB w b n l) (hbg : Off (One g) b) :
  Calls Tryz.prog 194 #[.pointer (some ⟨g, 0, none⟩), .slice b n c] w fun e w' => e = .returned (.tuple #[]) ∧ Has w' g (abs (c0g st (b0b l))) 234 ∧ Fr (One g) w w' := by
 go_enter Tryz.func194, Tryz.ntmps194
 go_wp2_with (with_reducible refine wSk 19 ?_)
 refine s0J rfl rfl Tryz.underlying22 b0K _ _ _ _ (y0A n hn) (y0B n hn) (y0C n) (y0D n) ?_
 intro w1 hh1 hf1 hz1
 have hh1' : Has w1 w.heap.size (bs (v0I n)) 5 := hh1
 have hg1 := hg.keep hf1 id
 have hb1 := hb.still hf1
 have hgl := hg.lt
 generalize w.heap.size = g4 at *
 clear hg hb hh1
 have hrd : RdB w1 (some ⟨g4, 0, none⟩) 4 (v0I n) := by
  have := Rd.whole hh1'
  rwa [a0I, k0V] at this
 go_wp2_with fail
 refine (i0x g st _ 4 4 (v0I n) w1 hS hat ap16 ap16 hg1 hrd (fun x hx (e : x.block = g) => by simp only [Option.some.injEq] at hx; subst hx; simp at e; omega)).mono ?_
 rintro e w2 ⟨rfl, hg2, hf2⟩
 have hb2 := hb1.keep hf2 hbg
 have hfr2 : Fr (One g) w w2 := ((Fr.refl (One g) w).same hf1).trans hf2 (fun _ _ t => t)
 clear hf1 hz1 hh1' hg1 hb1 hrd hf2
 go_wp2_with fail
 refine (i0x g (c0g st (v0I n)) b n c l w2 (by rw [g0d, hS]) (k0R _ _ hat) hn hnc hg2 hb2 hbg).mono ?_
 rintro e w3 ⟨rfl, hg3, hf3⟩
 go_wp2_with fail
 go_end0
 rw [← d0D, ← hb2.len] at hg3
 exact ⟨rfl, hg3, hfr2.trans hf3 (fun _ _ t => t)⟩
theorem j0P (s : ByteArray) (w : World) (hs : s.size ≤ 1000000) :
  Calls Tryz.prog 177 #[.string s] w fun r w' => r = .returned (.string (mkS (b0b s.data.toList))) ∧ Fr Nob w w' := by
 go_enter Tryz.func177, Tryz.ntmps177
 go_wp2_with (with_reducible refine wSk 17 ?_)
 refine s0J rfl rfl Tryz.underlying22 b0K _ _ _ _ (y0A s.size hs) (y0B s.size hs) (y0C s.size) (y0D s.size) ?_
 intro w1 hh1 hf1 hz1
 have hrd : RdB w1 (some ⟨w.heap.size, 0, none⟩) 4 (v0I s.size) := Rd.whole hh1
 have e1 := c0f hrd 4 Tryz.underlying22 Tryz.underlying5 Tryz.underlying9
 have hcat : ¬ 9223372036854775807 < (mkS (v0I s.size)).size + s.size := by rw [b0a, k0V]; omega
 go_wp2_with fail
 go_ret
 refine ⟨?_, hf1⟩
 have : mkS (v0I s.size) ++ s = mkS (b0b s.data.toList) := by
  rw [b0b, ← f0r, h0D]; rfl
 exact congrArg (fun q => Ending.returned (.string q)) this
end
section
open Go.RowKit Go.Mv Mvp
attribute [local irreducible] b0g b0x toB a0u a0B b0h
theorem m0z : Tryz.prog.built 234 [] = some (abs (a0F, 0)).toArray := by unfold abs; kernel_rfl
theorem z0L (l : List UInt8) : (c0g (a0F, 0) l).1.length = 25 ∧ (c0g (a0F, 0) l).2 < 136 := ⟨by rw [g0d]; rfl, k0R _ _ ap15⟩
theorem j0Q (b : Option Addr) (n c : Nat) (l : List UInt8) (m : Nat) (w : World) (hm : m ≤ 20000) (hn : n ≤ 1000000) (hnc : n ≤ c) (hb : RdB w b n l) (ho : Old w b) :
  Calls Tryz.prog 168 #[.slice b n c, .int .i64 (m : Int)] w fun r w' => ∃ v, r = .returned v ∧ Own w' w.heap.size 5 1 v m (bs (a0L l 31 m)) ∧ Fr Nob w w' := by
 go_enter Tryz.func168, Tryz.ntmps168
 go_wp2_with (with_reducible refine wSk 6 ?_)
 refine c0J rfl rfl _ m0z ?_
 refine m0t rfl rfl rfl (abs (a0F, 0)) rfl ?_
 intro w1 hg1 hf1 hz1
 have hb1 := hb.still hf1
 have hoff : Off (One w.heap.size) b := ho.off (Nat.le_refl _)
 generalize hgw : w.heap.size = g at *
 have HG := qH hgw; clear hgw
 clear hb ho
 go_wp2_with fail
 refine (i0x g (a0F, 0) b n c l w1 rfl ap15 hn hnc hg1 hb1 hoff).mono ?_
 rintro e w2 ⟨rfl, hg2, hf2⟩
 obtain ⟨h1, h2⟩ := z0L l
 have hfr2 : Fr Nob w w2 := hf1.new hf2 (by rw [HG.out]; exact Nat.le_refl _)
 generalize hst : c0g (a0F, 0) l = st at *
 have HST := qH hst; clear hst
 clear hg1 hf1 hz1 hb1 hf2
 go_wp2_with fail
 refine (s0O g st.1 st.2 31 m w2 h1 h2 hm hg2).mono ?_
 rintro e w3 ⟨v, rfl, hown, hf3⟩
 go_wp2_with fail
 go_ret
 refine ⟨v, rfl, ?_, hfr2.new hf3 (by rw [HG.out]; exact Nat.le_refl _)⟩
 have := hown.mono (base' := g) (by have := hg2.lt; omega)
 rw [← HST.out] at this
 rw [HG.out]
 exact this
theorem r0h (b : Option Addr) (n c : Nat) (l : List UInt8) (m : Int) (w : World) (hn : n ≤ 1000000) (hnc : n ≤ c) (hb : RdB w b n l) (ho : Old w b) :
  Calls Tryz.prog 114 #[.slice b n c, .int .i64 m] w fun r w' => (0 ≤ m ∧ m ≤ 16384 ∧ ∃ v, r = .returned (.tuple #[v, .int .i64 0]) ∧ Own w' w.heap.size 5 1 v m.toNat (bs (a0L l 31 m.toNat)) ∧ Fr Nob w w') ∨ (¬ (0 ≤ m ∧ m ≤ 16384) ∧ r = .returned (.tuple #[.slice none 0 0, .int .i64 1]) ∧ Fr Nob w w') := by
 go_enter Tryz.func114, Tryz.ntmps114
 by_cases h0 : m < 0
 ·go_wp2_with fail
  go_ret2
  exact .inr ⟨by omega, rfl, Fr.refl _ _⟩
 ·by_cases h1 : 16384 < m
  ·go_wp2_with fail
   go_ret2
   first | exact .inr ⟨by omega, rfl, Fr.refl _ _⟩ | exact .inr ⟨rfl, Fr.refl _ _⟩ | exact .inr (Fr.refl _ _) | exact ⟨rfl, Fr.refl _ _⟩ | exact Fr.refl _ _
  ·obtain ⟨k, rfl⟩ : ∃ k : Nat, m = k := ⟨m.toNat, by omega⟩
   go_wp2_with fail
   refine (j0Q b n c l k w ap16 hn hnc hb ho).mono ?_
   rintro e w3 ⟨v, rfl, hown, hf3⟩
   go_wp2_with fail
   go_ret2
   exact .inl ⟨by omega, by omega, v, rfl, by simpa using hown, hf3⟩
end
section
open Go.RowKit Go.Mv Mvp
attribute [local irreducible] b0g b0x toB a0u a0B b0h b0R a0L
def PartIs (w : World) (v : Value) (l : List UInt8) : Prop := ∃ a n c, v = .slice a n c ∧ n ≤ c ∧ n ≤ 1000000 ∧ RdB w a n l ∧ Old w a
theorem PartIs.still {w w' : World} {v : Value} {l : List UInt8} (h : PartIs w v l) (hf : Fr Nob w w') : PartIs w' v l := by
 obtain ⟨a, n, c, h1, h2, h3, h4, h5⟩ := h
 exact ⟨a, n, c, h1, h2, h3, h4.still hf, h5.grow hf.size⟩
def PartsAt (w : World) (a : Option Addr) (ls : List (List UInt8)) : Prop := ∃ vs : List Value, Rd w a ls.length vs ∧ ∀ (i : Nat) (v : Value), vs[i]? = some v → ∃ l : List UInt8, ls[i]? = some l ∧ PartIs w v l
theorem PartsAt.get {w : World} {a : Option Addr} {ls : List (List UInt8)} (h : PartsAt w a ls) {j : Nat} (hj : j < ls.length) : ∃ b o v, a = some ⟨b, o, none⟩ ∧ w.cell? ⟨b, o + j, none⟩ = some v ∧ PartIs w v (ls.getD j []) := by
 obtain ⟨vs, hr, hv⟩ := h
 obtain ⟨b, o, rfl, hat⟩ := hr.at ap16
 have hl := hr.len
 obtain ⟨l, h1, h2⟩ := hv j (vs[j]'ap16) (List.getElem?_eq_getElem ap16)
 refine ⟨b, o, vs[j]'ap16, rfl, hat j _ (List.getElem?_eq_getElem ap16), ?_⟩
 rwa [List.getD_eq_getElem?_getD, h1]
theorem PartsAt.still {w w' : World} {a : Option Addr} {ls : List (List UInt8)} (h : PartsAt w a ls) (hf : Fr Nob w w') : PartsAt w' a ls := by
 obtain ⟨vs, hr, hv⟩ := h
 refine ⟨vs, hr.still hf, fun i v hi => ?_⟩
 obtain ⟨l, h1, h2⟩ := hv i v hi
 exact ⟨l, h1, h2.still hf⟩
def i0z (s : List UInt8) (ls : List (List UInt8)) : List UInt8 := a0y (s :: ls)
def c0s (s : List UInt8) (ls : List (List UInt8)) : List UInt8 := a0L (i0z s ls) 6 32
theorem z25 : ((a0F, 0) : List UInt64 × Nat).1.length = 25 := rfl
attribute [local irreducible] c0g b0b a0y abs a0F
theorem s0P (s : ByteArray) (a : Option Addr) (c : Nat) (ls : List (List UInt8)) (w : World) (hs : s.size ≤ 1000000) (hm : ls.length ≤ 1000000) (hb : PartsAt w a ls) :
  Calls Tryz.prog 169 #[.string s, .slice a ls.length c] w fun r w' => ∃ v, r = .returned v ∧ Own w' w.heap.size 5 1 v 32 (bs (c0s s.data.toList ls)) ∧ Fr Nob w w' := by
 go_enter Tryz.func169, Tryz.ntmps169
 go_wp2_with (with_reducible refine wSk 8 ?_)
 refine c0J rfl rfl _ m0z ?_
 refine m0t rfl rfl rfl (abs (a0F, 0)) rfl ?_
 intro w1 hg1 hf1 hz1
 clear hz1
 have hst1 := z25
 have hst2 : ((a0F, 0) : List UInt64 × Nat).2 < 136 := Nat.zero_lt_succ _
 obtain ⟨st0, hst0⟩ : ∃ st0 : List UInt64 × Nat, st0 = (a0F, 0) := ⟨_, rfl⟩
 rw [← hst0] at hg1 hst1 hst2
 have HST0 := qH hst0; clear hst0
 generalize hgw : w.heap.size = g at *
 have HG := qH hgw; clear hgw
 go_wp2_with (with_reducible refine wSk 12 ?_)
 refine d0b rfl rfl Tryz.underlying9 Tryz.underlying22 Tryz.underlying5 rfl ap11 w1.heap.size (Nat.le_refl _) ?_
 intro cap w2 hown2 hf2 hz2
 have hg2 := hg1.keep hf2 id
 have hfr2 := hf1.then hf2
 have hgl := hg1.lt
 obtain ⟨a2, c2, hv2, hc2, hrd2, -⟩ := hown2.form
 cases hv2
 rw [Nat.mul_one] at hrd2
 go_wp2_with fail
 have hoff0 : Off (One g) (some (⟨w1.heap.size, 0, none⟩ : Addr)) := fun x hx (e : x.block = g) => by
  cases hx
  exact absurd e (by show ¬ (w1.heap.size = g); omega)
 have hcall := m0y g st0 (some ⟨w1.heap.size, 0, none⟩) s.size cap s.data.toList w2 hst1 hst2 hs hc2 hg2 hrd2 hoff0
 refine hcall.mono ?_
 rintro e w3 ⟨rfl, hg3, hf3⟩
 have hfr3 : Fr Nob w w3 := hfr2.new hf3 (by rw [HG.out]; exact Nat.le_refl _)
 clear hg1 hf1 hown2 hf2 hz2 hg2 hfr2 hrd2 hf3 hgl
 go_wp2_with fail
 go_loopw [16] (fun i wr => ∃ j : Nat, j ≤ ls.length ∧ i = .int .i64 (j : Int) ∧ Has wr g (abs (c0g st0 (a0y (s.data.toList :: ls.take j)))) 234 ∧ Fr Nob w wr) (fun i _ => (ls.length - intOf i).toNat)
 case atStart => exact ⟨0, by omega, rfl, by rw [List.take_zero, e0E]; exact hg3, hfr3⟩
 case round =>
  obtain ⟨j, hj, rfl, hgj, hfj⟩ := hrel
  clear hg3 hfr3
  by_cases hlt : j < ls.length
  ·have hltI : (j : Int) < (ls.length : Int) := by omega
   obtain ⟨b, o, v, rfl, hc, hp⟩ := (hb.still hfj).get hlt
   obtain ⟨b', o', v', hv', hc', hp'⟩ := hb.get hlt
   simp only [Option.some.injEq, Addr.mk.injEq] at hv'
   obtain ⟨rfl, rfl, -⟩ := hv'
   have hvv : v = v' := by
    have := hfj.cell id hc'
    rw [hc] at this; simpa using this
   subst hvv
   obtain ⟨ap, np, cp, rfl, hp1, hp2, hp3, hp4⟩ := hp'
   have hr3 := hp3.still hfj
   clear hp
   have hoff : Off (One g) ap := hp4.off (by rw [HG.out]; exact Nat.le_refl _)
   go_wp2_with fail
   have hSj : (c0g st0 (a0y (s.data.toList :: ls.take j))).1.length = 25 := by rw [g0d, hst1]
   have hkj := k0R (a0y (s.data.toList :: ls.take j)) st0 hst2
   refine (m0y g (c0g st0 (a0y (s.data.toList :: ls.take j))) ap np cp (ls.getD j []) wr hSj hkj hp2 hp1 hgj hr3 hoff).mono ?_
   rintro e w4 ⟨rfl, hg4, hf4⟩
   have hfr4 : Fr Nob w w4 := hfj.new hf4 (by rw [HG.out]; exact Nat.le_refl _)
   rw [← d0D] at hg4
   have hfl : a0y (s.data.toList :: ls.take j) ++ b0b (ls.getD j []) = a0y (s.data.toList :: ls.take (j + 1)) := by
    rw [List.take_succ_eq_append_getElem hlt, ← List.cons_append, f0H, e0E, List.getD_eq_getElem?_getD, List.getElem?_eq_getElem hlt]; rfl
   rw [hfl] at hg4
   clear hSj hkj hr3 hgj hfj hf4 hfl
   go_wp2_with fail
   go_roundw
   case rel => exact ⟨j + 1, by omega, by go_num, hg4, hfr4⟩
   case measure => simp [intOf]; omega
  ·have hge : ¬ ((j : Int) < (ls.length : Int)) := by omega
   have hjn : j = ls.length := by omega
   have hSj : (c0g st0 (a0y (s.data.toList :: ls.take j))).1.length = 25 := by rw [g0d, hst1]
   have hkj := k0R (a0y (s.data.toList :: ls.take j)) st0 hst2
   have hft : a0y (s.data.toList :: ls.take j) = i0z s.data.toList ls := by rw [hjn, List.take_length]; rfl
   rw [hft] at hgj hSj hkj
   generalize hst : c0g st0 (i0z s.data.toList ls) = st at *
   have HST := qH hst; clear hst
   have HJN := qH hjn; clear hjn
   clear hft
   go_wp2_with fail
   refine (s0O g st.1 st.2 6 32 wr hSj hkj ap16 hgj).mono ?_
   rintro e w4 ⟨v, rfl, hown, hf4⟩
   go_wp2_with fail
   go_ret
   refine ⟨v, rfl, ?_, hfj.new hf4 (by rw [HG.out]; exact Nat.le_refl _)⟩
   have := hown.mono (base' := g) (by have := hgj.lt; omega)
   rw [HG.out]
   unfold c0s a0L
   rw [← HST0.out, HST.out]
   exact this
theorem s0Q (s : ByteArray) (a : Option Addr) (c : Nat) (ls : List (List UInt8)) (w : World) (hs : s.size ≤ 1000000) (hm : ls.length ≤ 1000000) (hb : PartsAt w a ls) :
  Calls Tryz.prog 115 #[.string s, .slice a ls.length c] w fun r w' => ∃ v, r = .returned v ∧ Own w' w.heap.size 5 1 v 32 (bs (c0s s.data.toList ls)) ∧ Fr Nob w w' := by
 go_enter Tryz.func115, Tryz.ntmps115
 go_wp2_with fail
 refine (s0P s a c ls w hs hm hb).mono ?_
 rintro e w4 ⟨v, rfl, hown, hf4⟩
 go_wp2_with fail
 go_ret
 exact ⟨v, rfl, hown, hf4⟩
end
section
open Go.RowKit Go.Mv Mvp
end
section
open Go.RowKit Go.Mv Mvp
attribute [local irreducible] b0g b0x toB a0u a0B b0h b0R a0L
theorem s0R (s : ByteArray) (w : World) (hs : s.size ≤ 1000000) :
  Calls Tryz.prog 178 #[.string s] w fun r w' => r = .returned (.string (mkS (a0L s.data.toList 6 32))) ∧ Fr Nob w w' := by
 go_enter Tryz.func178, Tryz.ntmps178
 go_wp2_with fail
 refine (o0m s 6 32 w hs ap16).mono ?_
 rintro e w3 ⟨rfl, hf3⟩
 go_wp2_with fail
 go_ret
 exact ⟨rfl, hf3⟩
theorem g0i {w : World} {base : Nat} {T : TypeId} {v : Value} {n : Nat} {l : List UInt8} (h : Own w base T 1 v n (bs l)) : ∃ a c, v = .slice a n c ∧ RdB w a n l := by
 obtain ⟨a, c, hv, _, hr, _⟩ := h.form
 rw [Nat.mul_one] at hr
 exact ⟨a, c, hv, hr⟩
end
end Go.Proofs.YtemcankmggmgoaaGreat
namespace Go.Mv
open Go.RowKit Go.ChangeShapes Go.WideShapes
def ss (l : List (List UInt8)) : List Value := l.map fun x => .string (mkS x)
theorem B0T (l : List (List UInt8)) (i : Nat) (hi : i < l.length) : (ss l)[i]? = some (.string (mkS (l.getD i []))) := by
 simp [ss, List.getD_eq_getElem?_getD, hi]
section
variable {H : Type} {enc : TypeId × Value → H} {P : Program} {w : World} {base : Nat} {held : Bool} {spare : Nat → Bool}
end
end Go.Mv
namespace Go.Proofs.YtemcankmggmgoaaGreat
open Go.RowKit Go.Mv Mvp
attribute [local irreducible] b0g b0x toB a0u a0B b0h b0R a0L c0g b0b a0y
theorem j0R (l : List UInt8) : (b0b l).length = 4 + l.length := by unfold b0b; simp [k0V]
def l0S (ls : List (List UInt8)) : Nat := (ls.map List.length).foldr (· + ·) 0
theorem i0A (a b : List (List UInt8)) : l0S (a ++ b) = l0S a + l0S b := by
 induction a with
 | nil => simp [l0S]
 | cons x a ih => simp only [l0S, List.cons_append, List.map_cons, List.foldr_cons] at *; omega
theorem o0o (ls : List (List UInt8)) : (a0y ls).length = 4 * ls.length + l0S ls := by
 induction ls with
 | nil => rw [o0n]; rfl
 | cons a b ih => rw [m0x, List.length_append, j0R, ih, List.length_cons]; simp only [l0S, List.map_cons, List.foldr_cons]; omega
theorem s0S (ls : List (List UInt8)) (j : Nat) : l0S (ls.take j) ≤ l0S ls := by
 have := i0A (ls.take j) (ls.drop j)
 rw [List.take_append_drop] at this; omega
theorem w0f (ls : List (List UInt8)) (j : Nat) (hj : j < ls.length) : (ls.getD j []).length ≤ l0S ls := by
 have h1 := i0A (ls.take j) (ls.drop j)
 rw [List.take_append_drop, List.drop_eq_getElem_cons hj] at h1
 have h2 : l0S (ls[j] :: ls.drop (j + 1)) = ls[j].length + l0S (ls.drop (j + 1)) := by simp only [l0S, List.map_cons, List.foldr_cons]
 have h3 : ls.getD j [] = ls[j] := by simp [List.getD_eq_getElem?_getD, hj]
 rw [h3]; omega
theorem w0g (s : ByteArray) (a : Option Addr) (c : Nat) (ls : List (List UInt8)) (w : World) (hs : s.size + l0S ls ≤ 100000) (hm : ls.length ≤ 1000) (hb : Rd w a ls.length (ss ls)) :
  Calls Tryz.prog 126 #[.string s, .slice a ls.length c] w fun r w' => r = .returned (.string (mkS (c0s s.data.toList ls))) ∧ Fr Nob w w' := by
 go_enter Tryz.func126, Tryz.ntmps126
 go_wp2_with fail
 refine (j0P s w ap16).mono ?_
 rintro e w1 ⟨rfl, hf1⟩
 have hsl : s.data.toList.length = s.size := f0V s
 go_wp2_with fail
 go_loopw [6, 5] (fun i q wr => ∃ j : Nat, j ≤ ls.length ∧ i = .int .i64 (j : Int) ∧ q = .string (mkS (a0y (s.data.toList :: ls.take j))) ∧ Fr Nob w wr) (fun i _ _ => (ls.length - intOf i).toNat)
 case atStart => exact ⟨0, by omega, rfl, by rw [List.take_zero, e0E], hf1⟩
 case round =>
  obtain ⟨j, hj, rfl, rfl, hfj⟩ := hrel
  clear hf1
  have hql : (mkS (a0y (s.data.toList :: ls.take j))).size ≤ 200000 := by
   rw [b0a, o0o]
   have h1 := s0S ls j
   have h2 : l0S (s.data.toList :: ls.take j) = s.data.toList.length + l0S (ls.take j) := by simp [l0S]
   rw [h2, List.length_cons, List.length_take]; omega
  by_cases hlt : j < ls.length
  ·have hltI : (j : Int) < (ls.length : Int) := by omega
   obtain ⟨b, o, rfl, hat⟩ := (hb.still hfj).at ap16
   have hc : wr.cell? ⟨b, o + j, none⟩ = some (.string (mkS (ls.getD j []))) := hat j _ (B0T ls j hlt)
   have hxl := w0f ls j hlt
   have hfl : a0y (s.data.toList :: ls.take j) ++ b0b (ls.getD j []) = a0y (s.data.toList :: ls.take (j + 1)) := by
    rw [List.take_succ_eq_append_getElem hlt, ← List.cons_append, f0H, e0E, List.getD_eq_getElem?_getD, List.getElem?_eq_getElem hlt]; rfl
   have hcat : ¬ 9223372036854775807 < (mkS (a0y (s.data.toList :: ls.take j))).size + (mkS (b0b (ls.getD j []))).size := by
    rw [b0a (b0b _), j0R]; omega
   generalize hx : ls.getD j [] = x at *
   have HX := qH hx; clear hx
   have hfl2 := hfl
   have HFL := qH hfl2; clear hfl hfl2
   generalize hq : mkS (a0y (s.data.toList :: ls.take j)) = q at *
   have HQ := qH hq; clear hq
   have HQL := qH hql; clear hql
   have HSL := qH hsl; clear hsl
   clear hat
   go_wp2_with fail
   refine (j0P (mkS x) wr (by rw [b0a]; omega)).mono ?_
   rintro e w4 ⟨rfl, hf4⟩
   rw [b0o]
   have hfr4 := hfj.then hf4
   clear hfj hf4
   go_wp2_with fail
   go_roundw
   case rel => exact ⟨j + 1, by omega, by go_num, by rw [← HQ.out, f0r, HFL.out], hfr4⟩
   case measure => simp [intOf]; omega
  ·have hge : ¬ ((j : Int) < (ls.length : Int)) := by omega
   have hjn : j = ls.length := by omega
   have hft : a0y (s.data.toList :: ls.take j) = i0z s.data.toList ls := by rw [hjn, List.take_length]; rfl
   rw [hft] at hql ⊢
   have HJN := qH hjn; clear hjn
   clear hft
   go_wp2_with fail
   refine (s0R (mkS (i0z s.data.toList ls)) wr ap16).mono ?_
   rintro e w4 ⟨rfl, hf4⟩
   rw [b0o]
   go_wp2_with fail
   go_ret
   exact ⟨rfl, hfj.then hf4⟩
end Go.Proofs.YtemcankmggmgoaaGreat
namespace Go.Mv
open Go.RowKit
variable {P : Program}
theorem Own.ne {w : World} {base sz n g : Nat} {T T' : TypeId} {v : Value} {L L' : List Value} (h : Own w base T sz v n L) (hg : Has w g L' T') (hT : T ≠ T') : ¬ k0F v g := by
 intro hv
 obtain ⟨_, ⟨rfl, _⟩ | ⟨g', o, cap, B, rfl, _, hg', _⟩⟩ := h
 ·cases hv
 ·have : g' = g := by simpa [k0F, Value.ownBlock] using hv
  subst this
  obtain ⟨_, _, h1, _⟩ := hg
  obtain ⟨_, _, h2, _⟩ := hg'
  rw [h1] at h2
  simp at h2
  exact hT h2.2.1.symm
end Go.Mv
namespace Go.Mv
open Go.RowKit
variable {P : Program}
theorem c0q {w : World} {ops : Array Oper} {rest : List Oper} {o : Oper} {a : Act} {Q : Exit → Act → World → Prop} {t e : TypeId} {k : Nat} {parts : Array (Nat × Operand)} (hgd : o.guard = none) (ho : o.op = .buildSlice t k parts)
  (hu : P.underlying t = some (.slice e)) {z : Value} {by_ : Nat} (hi0 : (P.info? e).map (fun i => (i.zero, i.size, i.bytes)) = some (some z, 1, by_)) (vs : List Value) (hp : (parts.toList.map fun p => (p.1, a.eval p.2)) = (vs.zipIdx 0).map fun x => (x.2, x.1))
  (hv : ∀ v ∈ vs, v.cells = #[v]) (hk : vs.length = k) (hz : z.cells.size = 1)
  (h : ∀ w', Has w' w.heap.size vs e → Fr Nob w w' → w'.heap.size = w.heap.size + 1 → wpList P ops Q rest (a.put o.dst (.slice (some ⟨w.heap.size, 0, none⟩) k k)) w') (hk0 : 0 < k := by decide) (hk24 : k ≤ 16777216 := by decide) : wpList P ops Q (o :: rest) a w := by
 have _hz := hz
 obtain ⟨i, hi, hz0⟩ : ∃ i, P.info? e = some i ∧ (i.zero, i.size, i.bytes) = (some z, 1, by_) := by simpa using hi0
 simp only [Prod.mk.injEq] at hz0
 obtain ⟨hz1, hsz, hby⟩ := hz0
 have hf : Instr.fill (fun j => some (j * i.size, i.size)) ((Array.range (k * i.size)).map (z.cells[· % z.cells.size]!)) (parts.map fun (i, x) => (i, a.eval x)).toList = some vs.toArray := by
  rw [show (parts.map fun (i, x) => (i, a.eval x)).toList = (parts.toList.map fun p => (p.1, a.eval p.2)) by simp, hp, hsz]
  exact Great.fill_flat vs _ hv (by simp [hk])
 exact wpList_buildSlice hgd t e k _ ho _ i _ hu hi hz1 (by rw [hsz]; omega) (by rw [hsz]; omega) hf (h _ (Has.new w vs.toArray e) ((Fr.refl _ w).alloc _) ap17)
theorem a0Y {w : World} {ops : Array Oper} {rest : List Oper} {o : Oper} {a : Act} {Q : Exit → Act → World → Prop} {t : TypeId} {parts : Array (Nat × Operand)} (hgd : o.guard = none) (ho : o.op = .build t parts) (cells : Array Value)
  (hb : P.built t (parts.toList.map fun p => (p.1, a.eval p.2)) = some cells) (h : wpList P ops Q rest (a.put o.dst (.agg cells)) w) : wpList P ops Q (o :: rest) a w :=
 p0z hgd ho cells (by rw [show (parts.map fun (i, x) => (i, a.eval x)).toList = (parts.toList.map fun p => (p.1, a.eval p.2)) by simp]; exact hb) h
theorem g0j {w : World} {ops : Array Oper} {rest : List Oper} {o : Oper} {a : Act} {Q : Exit → Act → World → Prop} {ty : TypeId} {x : Operand} (hgd : o.guard = none) (ho : o.op = .load ty x) {d : TypeDesc} (hu : P.underlying ty = some d) (hd : d.isRow = true) {g p : Nat} (hx : a.eval x = .pointer (some ⟨g, p, none⟩))
  {cs : List Value} (hg : At w g p cs) (hi : (P.info? ty).map (·.size) = some cs.length)
  (h : wpList P ops Q rest (a.put o.dst (.agg cs.toArray)) w) : wpList P ops Q (o :: rest) a w :=
 wpList_load_mid hgd ty x ho g p hx cs d (fun j v hv => hg j v hv) hu hd hi h
end Go.Mv
namespace Go.Proofs.YtemcankmggmgoaaGreat
open Go.RowKit Go.Mv Mvp
attribute [local irreducible] b0g b0x toB a0u a0B b0h b0R a0L c0g b0b a0y c0s
theorem k0W : (Tryz.prog.info? 22).map (fun i => (i.zero, i.size, i.bytes)) = some (some (.slice none 0 0), 1, 24) := by kernel_rfl
def Parts (w : World) : List Value → List (List UInt8) → Prop
 | [], [] => True
 | v :: vs, l :: ls => PartIs w v l ∧ Parts w vs ls
 | _, _ => False
theorem Parts.len {w : World} : ∀ {vs : List Value} {ls : List (List UInt8)}, Parts w vs ls → vs.length = ls.length
 | [], [], _ => rfl
 | _ :: _, _ :: _, h => by simp only [List.length_cons]; rw [Parts.len h.2]
 | [], _ :: _, h => h.elim
 | _ :: _, [], h => h.elim
theorem Parts.get {w : World} : ∀ {vs : List Value} {ls : List (List UInt8)}, Parts w vs ls → ∀ (i : Nat) (v : Value), vs[i]? = some v → ∃ l : List UInt8, ls[i]? = some l ∧ PartIs w v l
 | [], [], _, i, v, h => by simp at h
 | x :: vs, l :: ls, h, 0, v, hv => by simp only [List.getElem?_cons_zero, Option.some.injEq] at hv; subst hv; exact ⟨l, rfl, h.1⟩
 | x :: vs, l :: ls, h, i + 1, v, hv => by simp only [List.getElem?_cons_succ] at hv ⊢; exact Parts.get h.2 i v hv
 | [], _ :: _, h, _, _, _ => h.elim
 | _ :: _, [], h, _, _, _ => h.elim
theorem Parts.at {w : World} {g : Nat} {T : TypeId} {vs : List Value} {ls : List (List UInt8)} (h : Parts w vs ls) (hg : Has w g vs T) : PartsAt w (some ⟨g, 0, none⟩) ls :=
 ⟨vs, by have := Rd.whole hg; rwa [h.len] at this, h.get⟩
theorem Parts.cells {w : World} : ∀ {vs : List Value} {ls : List (List UInt8)}, Parts w vs ls → ∀ v ∈ vs, v.cells = #[v]
 | [], _, _, v, h => by simp at h
 | x :: vs, l :: ls, h, v, hv => by
  rcases List.mem_cons.1 hv with rfl | hv
  ·obtain ⟨a, n, c, rfl, _⟩ := h.1; rfl
  ·exact Parts.cells h.2 v hv
 | _ :: _, [], h, _, _ => h.elim
theorem c0d {w : World} {base n : Nat} {T : TypeId} {v : Value} {l : List UInt8} (h : Own w base T 1 v n (bs l)) (hn : n ≤ 1000000) : PartIs w v l := by
 have h0 := h
 obtain ⟨a, c, rfl, hc, hr, -⟩ := h.form
 rw [Nat.mul_one] at hr
 refine ⟨a, n, c, rfl, hc, hn, hr, ?_⟩
 intro x hx
 exact (h0.lt (by rw [hx]; rfl)).2
def LogAt (w : World) (base g : Nat) (l : List UInt8) : Prop := ∃ v, Has w g [v] 228 ∧ Own w base 5 1 v 32 (bs l)
theorem LogAt.still {w w' : World} {base g : Nat} {l : List UInt8} (h : LogAt w base g l) (hf : Fr Nob w w') : LogAt w' base g l := by
 obtain ⟨v, h1, h2⟩ := h; exact ⟨v, h1.keep hf id, h2.still hf⟩
theorem LogAt.other {w w' : World} {base g g' : Nat} {l : List UInt8} (h : LogAt w base g l) (hf : Fr (One g') w w') (hne : g ≠ g') {L : List Value} {T : TypeId} (hg : Has w g' L T) (hT : 5 ≠ T) : LogAt w' base g l := by
 obtain ⟨v, h1, h2⟩ := h
 exact ⟨v, h1.keep hf hne, h2.keep hf (fun k hk (e : k = g') => h2.ne hg hT (e ▸ hk))⟩
theorem LogAt.lt {w : World} {base g : Nat} {l : List UInt8} (h : LogAt w base g l) : g < w.heap.size := by obtain ⟨v, h1, _⟩ := h; exact h1.lt
def RLogAt (w : World) (g : Nat) (l : List UInt8) : Prop := Has w g [.string (mkS l)] 197
theorem s0T (a : Option Addr) (n c : Nat) : Tryz.prog.built 228 [(0, .slice a n c)] = some #[.slice a n c] := by kernel_rfl
def D0D : List UInt8 := [108, 111, 103]
def B0U : List UInt8 := [115, 97, 121]
def D0E : List UInt8 := [97, 115, 107]
def m0A : List UInt8 := [97, 115, 107, 101, 100]
theorem z0M : (⟨#[108, 111, 103]⟩ : ByteArray) = mkS D0D := rfl
theorem z0N : (⟨#[115, 97, 121]⟩ : ByteArray) = mkS B0U := rfl
theorem z0O : (⟨#[97, 115, 107]⟩ : ByteArray) = mkS D0E := rfl
theorem s0U : (⟨#[97, 115, 107, 101, 100]⟩ : ByteArray) = mkS m0A := rfl
theorem w0h (k : List UInt8) (ls : List (List UInt8)) : (c0s k ls).length = 32 := by unfold c0s; exact o0h _ _ _
theorem p0A (k : List UInt8) (hk : k.length ≤ 100) (g c : Nat) (vs : List Value) (ls : List (List UInt8)) (w : World) (hh : Has w g vs 22) (hp : Parts w vs ls) (hm : ls.length ≤ 1000000) :
  Calls Tryz.prog 169 #[.string (mkS k), .slice (some ⟨g, 0, none⟩) ls.length c] w fun r w' => ∃ v, r = .returned v ∧ Own w' w.heap.size 5 1 v 32 (bs (c0s k ls)) ∧ Fr Nob w w' := by
 have := s0P (mkS k) (some ⟨g, 0, none⟩) c ls w (by rw [b0a]; omega) hm (hp.at hh)
 rwa [b0o] at this
theorem r0i (s : ByteArray) (w : World) (hs : s.size ≤ 1000000) :
  Calls Tryz.prog 153 #[.string s] w fun r w' => ∃ g, r = .returned (.pointer (some ⟨g, 0, none⟩)) ∧ w.heap.size ≤ g ∧ LogAt w' w.heap.size g (c0s D0D [s.data.toList]) ∧ Fr Nob w w' := by
 go_enter Tryz.func153, Tryz.ntmps153
 go_wp2_with (with_reducible refine wSk 4 ?_)
 refine d0b rfl rfl Tryz.underlying9 Tryz.underlying22 Tryz.underlying5 rfl ap11 w.heap.size (Nat.le_refl _) ?_
 intro cap w1 hown1 hf1 hz1
 clear hz1
 go_wp2_with (with_reducible refine wSk 5 ?_)
 refine c0q rfl rfl Tryz.underlying39 k0W [.slice (some ⟨w.heap.size, 0, none⟩) s.size cap] rfl (by simp; rfl) rfl rfl ?_
 intro w2 hh2 hf2 hz2
 clear hz2
 have hfr2 := hf1.then hf2
 have hp2 : Parts w2 [.slice (some ⟨w.heap.size, 0, none⟩) s.size cap] [s.data.toList] := ⟨c0d (hown1.still hf2) hs, trivial⟩
 clear hown1 hf1 hf2
 have hb2 : w.heap.size ≤ w2.heap.size := hfr2.size
 generalize hgw : w.heap.size = g0 at *
 have HG := qH hgw; clear hgw
 generalize w1.heap.size = g1 at *
 rw [z0M]
 go_wp2_with fail
 refine (p0A D0D ap15 _ _ _ _ w2 hh2 hp2 ap17).mono ?_
 rintro e w3 ⟨v3, rfl, hown3, hf3⟩
 have hfr3 := hfr2.then hf3
 have hf3s := hf3.size
 have hown3' := hown3.mono (base' := g0) hb2
 clear hown3 hf3 hfr2 hh2 hp2
 obtain ⟨a3, c3, rfl, -⟩ := g0i hown3'
 go_wp2_with (with_reducible refine wSk 7 ?_)
 refine a0Y rfl rfl _ (s0T a3 32 c3) ?_
 refine m0t rfl rfl rfl [.slice a3 32 c3] rfl ?_
 intro w4 hh4 hf4 hz4
 clear hz4
 go_wp2_with fail
 go_ret
 rw [HG.out]
 exact ⟨_, rfl, Nat.le_trans hb2 hf3s, ⟨_, hh4, hown3'.still hf4⟩, hfr3.then hf4⟩
theorem LogAt.store {w : World} {base g : Nat} {v0 v : Value} {l : List UInt8} (h0 : Has w g [v0] 228) (h : Own w base 5 1 v 32 (bs l)) : LogAt (w.setCell ⟨g, 0, none⟩ v) base g l := by
 refine ⟨v, by simpa using h0.set 0 v, h.keep ((Fr.refl (One g) w).setCell g 0 none v (fun _ => rfl)) (fun k hk (e : k = g) => h.ne h0 ap15 (e ▸ hk))⟩
theorem RLogAt.store {w : World} {g : Nat} {v0 : Value} {l : List UInt8} (h0 : Has w g [v0] 197) : RLogAt (w.setCell ⟨g, 0, none⟩ (.string (mkS l))) g l := by
 simpa [RLogAt] using h0.set 0 (.string (mkS l))
theorem m0B {w w' : World} (h : Fr Nob w w') (g : Nat) (v : Value) : Fr (One g) w (w'.setCell ⟨g, 0, none⟩ v) := (h.mono (fun _ _ t => t.elim)).setCell g 0 none v (fun _ => rfl)
theorem z0P (base g : Nat) (st : List UInt8) (s : ByteArray) (b : Option Addr) (n c : Nat) (l : List UInt8) (w : World) (hs : s.size ≤ 1000000) (hl : LogAt w base g st) (hb : PartIs w (.slice b n c) l) (hbase : base ≤ w.heap.size) :
  Calls Tryz.prog 154 #[.pointer (some ⟨g, 0, none⟩), .string s, .slice b n c] w fun r w' => r = .returned (.tuple #[]) ∧ LogAt w' base g (c0s B0U [st, s.data.toList, l]) ∧ Fr (One g) w w' := by
 obtain ⟨v, hg, hown⟩ := hl
 obtain ⟨a0, c0, rfl, -⟩ := g0i hown
 have hc := hg.cell (i := 0) rfl
 go_enter Tryz.func154, Tryz.ntmps154
 go_wp2_with (with_reducible refine wSk 12 ?_)
 refine d0b rfl rfl Tryz.underlying9 Tryz.underlying22 Tryz.underlying5 rfl ap11 w.heap.size (Nat.le_refl _) ?_
 intro cap w1 hown1 hf1 hz1
 clear hz1
 go_wp2_with (with_reducible refine wSk 14 ?_)
 refine c0q rfl rfl Tryz.underlying39 k0W [.slice a0 32 c0, .slice (some ⟨w.heap.size, 0, none⟩) s.size cap, .slice b n c] rfl (by simp; exact ⟨rfl, rfl, rfl⟩) rfl rfl ?_
 intro w2 hh2 hf2 hz2
 clear hz2
 have hfr2 := hf1.then hf2
 have hp2 : Parts w2 [.slice a0 32 c0, .slice (some ⟨w.heap.size, 0, none⟩) s.size cap, .slice b n c] [st, s.data.toList, l] := ⟨c0d (hown.still hfr2) ap15, c0d (hown1.still hf2) hs, hb.still hfr2, trivial⟩
 clear hown1 hf1 hf2
 have hb2 : base ≤ w2.heap.size := Nat.le_trans hbase hfr2.size
 generalize w.heap.size = g0 at *
 generalize w1.heap.size = g1 at *
 rw [z0N]
 go_wp2_with fail
 refine (p0A B0U ap15 _ _ _ _ w2 hh2 hp2 ap17).mono ?_
 rintro e w3 ⟨v3, rfl, hown3, hf3⟩
 have hfr3 := hfr2.then hf3
 have hg3 := hg.keep hfr3 id
 have hown3' := hown3.mono (base' := base) hb2
 obtain ⟨a3, c3, rfl, -⟩ := g0i hown3'
 clear hown3 hf3 hfr2 hh2 hp2 hown hc hg
 have hc3 := hg3.cell (i := 0) rfl
 have hz3 := hg3.free 0 ap17
 go_wp2_with fail
 go_end0
 exact ⟨rfl, LogAt.store hg3 hown3', m0B hfr3 g _⟩
theorem z0Q (base g : Nat) (st : List UInt8) (s : ByteArray) (m : Nat) (w : World) (hs : s.size ≤ 1000000) (hm : m ≤ 1024) (hl : LogAt w base g st) (hbase : base ≤ w.heap.size) :
  Calls Tryz.prog 155 #[.pointer (some ⟨g, 0, none⟩), .string s, .int .i64 (m : Int)] w fun r w' => ∃ v, r = .returned (.tuple #[v, .int .i64 0]) ∧ Own w' base 5 1 v m (bs (a0L (c0s D0E [st, s.data.toList]) 31 m)) ∧ LogAt w' base g (c0s m0A [st, s.data.toList]) ∧ Fr (One g) w w' := by
 obtain ⟨v, hg, hown⟩ := hl
 obtain ⟨a0, c0, rfl, -⟩ := g0i hown
 have hc := hg.cell (i := 0) rfl
 go_enter Tryz.func155, Tryz.ntmps155
 go_wp2_with (with_reducible refine wSk 20 ?_)
 refine d0b rfl rfl Tryz.underlying9 Tryz.underlying22 Tryz.underlying5 rfl ap11 w.heap.size (Nat.le_refl _) ?_
 intro cap w1 hown1 hf1 hz1
 clear hz1
 go_wp2_with (with_reducible refine wSk 21 ?_)
 refine c0q rfl rfl Tryz.underlying39 k0W [.slice a0 32 c0, .slice (some ⟨w.heap.size, 0, none⟩) s.size cap] rfl (by simp; exact ⟨rfl, rfl⟩) rfl rfl ?_
 intro w2 hh2 hf2 hz2
 clear hz2
 have hfr2 := hf1.then hf2
 have hp2 : Parts w2 [.slice a0 32 c0, .slice (some ⟨w.heap.size, 0, none⟩) s.size cap] [st, s.data.toList] := ⟨c0d (hown.still hfr2) ap15, c0d (hown1.still hf2) hs, trivial⟩
 clear hown1 hf1 hf2
 have hb2 : base ≤ w2.heap.size := Nat.le_trans hbase hfr2.size
 generalize w.heap.size = g0 at *
 generalize w1.heap.size = g1 at *
 rw [z0O]
 go_wp2_with fail
 refine (p0A D0E ap15 _ _ _ _ w2 hh2 hp2 ap17).mono ?_
 rintro e w3 ⟨v3, rfl, hown3, hf3⟩
 have hfr3 := hfr2.then hf3
 have hb3 : base ≤ w3.heap.size := Nat.le_trans hb2 hf3.size
 have hg3 := hg.keep hfr3 id
 have hown3' := hown.still hfr3
 have hq3 := c0d hown3 ap15
 obtain ⟨a3, n3, c3, rfl, hn3, hm3, hr3, ho3⟩ := hq3
 have e3 : n3 = 32 := by
  obtain ⟨_, _, hv, -⟩ := g0i hown3
  cases hv; rfl
 subst e3
 clear hown3 hf3 hfr2 hh2 hp2 hown hc hg hm3
 have hc3 := hg3.cell (i := 0) rfl
 go_wp2_with fail
 refine (j0Q a3 32 c3 _ m w3 ap16 ap15 hn3 hr3 ho3).mono ?_
 rintro e w4 ⟨v4, rfl, hown4, hf4⟩
 have hout := hown4.mono (base' := base) hb3
 have hfr4 := hfr3.then hf4
 have hg4 := hg3.keep hf4 id
 have hown4' := hown3'.still hf4
 have hb4 : base ≤ w4.heap.size := Nat.le_trans hb3 hf4.size
 have hc4 := hg4.cell (i := 0) rfl
 clear hown4 hf4 hfr3 hg3 hown3' hr3 ho3 hn3 hc3
 go_wp2_with (with_reducible refine wSk 31 ?_)
 refine d0b rfl rfl Tryz.underlying9 Tryz.underlying22 Tryz.underlying5 rfl ap11 w4.heap.size (Nat.le_refl _) ?_
 intro cap5 w5 hown5 hf5 hz5
 clear hz5
 go_wp2_with (with_reducible refine wSk 32 ?_)
 refine c0q rfl rfl Tryz.underlying39 k0W [.slice a0 32 c0, .slice (some ⟨w4.heap.size, 0, none⟩) s.size cap5] rfl (by simp; exact ⟨rfl, rfl⟩) rfl rfl ?_
 intro w6 hh6 hf6 hz6
 clear hz6
 have hf56 := hf5.then hf6
 have hfr6 := hfr4.then hf56
 have hp6 : Parts w6 [.slice a0 32 c0, .slice (some ⟨w4.heap.size, 0, none⟩) s.size cap5] [st, s.data.toList] := ⟨c0d (hown4'.still hf56) ap15, c0d (hown5.still hf6) hs, trivial⟩
 have hb6 : base ≤ w6.heap.size := Nat.le_trans hb4 hf56.size
 have hg6 := hg4.keep hf56 id
 have hout6 := hout.still hf56
 clear hown5 hf5 hf6 hf56 hfr4 hg4 hown4' hout hc4
 generalize w4.heap.size = g4 at *
 generalize w5.heap.size = g5 at *
 rw [s0U]
 go_wp2_with fail
 refine (p0A m0A ap15 _ _ _ _ w6 hh6 hp6 ap17).mono ?_
 rintro e w7 ⟨v7, rfl, hown7, hf7⟩
 have hfr7 := hfr6.then hf7
 have hg7 := hg6.keep hf7 id
 have hout7 := hout6.still hf7
 have hown7' := hown7.mono (base' := base) hb6
 obtain ⟨a7, c7, rfl, -⟩ := g0i hown7'
 obtain ⟨a8, c8, rfl, -⟩ := g0i hout7
 have hc7 := hg7.cell (i := 0) rfl
 have hz7 := hg7.free 0 ap17
 clear hown7 hf7 hfr6 hg6 hout6 hh6 hp6
 go_wp2_with fail
 go_ret2
 exact ⟨_, rfl, hout7.keep ((Fr.refl (One g) w7).setCell g 0 none _ (fun _ => rfl)) (fun k hk (e : k = g) => hout7.ne hg7 ap15 (e ▸ hk)), LogAt.store hg7 hown7', m0B hfr7 g _⟩
end Go.Proofs.YtemcankmggmgoaaGreat
namespace Go.Mv
open Go.RowKit
variable {P : Program}
structure St (S : Nat → Prop) (w0 w : World) (bl : List (Nat × List Value × TypeId)) : Prop where
 fr : Fr S w0 w
 own : ∀ x ∈ bl, w0.heap.size ≤ x.1 ∨ S x.1
 has : ∀ x ∈ bl, Has w x.1 x.2.1 x.2.2
 ne : bl.Pairwise fun x y => x.1 ≠ y.1
theorem St.start (S : Nat → Prop) (w : World) : St S w w [] := ⟨Fr.refl _ _, by simp, by simp, List.Pairwise.nil⟩
theorem St.at {S : Nat → Prop} {w0 w : World} {bl : List (Nat × List Value × TypeId)} (h : St S w0 w bl) (i : Nat) {g : Nat} {L : List Value} {T : TypeId} (hi : bl[i]? = some (g, L, T)) : Has w g L T :=
 h.has _ (List.mem_of_getElem? hi)
theorem St.neAt {S : Nat → Prop} {w0 w : World} {bl : List (Nat × List Value × TypeId)} (h : St S w0 w bl) {i j : Nat} {x y : Nat × List Value × TypeId} (hi : bl[i]? = some x) (hj : bl[j]? = some y) (hij : i ≠ j) : x.1 ≠ y.1 := by
 obtain ⟨hi1, rfl⟩ := List.getElem?_eq_some_iff.1 hi
 obtain ⟨hj1, rfl⟩ := List.getElem?_eq_some_iff.1 hj
 rcases Nat.lt_or_ge i j with k | k
 ·exact List.pairwise_iff_getElem.1 h.ne i j hi1 hj1 k
 ·exact (List.pairwise_iff_getElem.1 h.ne j i hj1 hi1 ap16).symm
theorem St.keep {S : Nat → Prop} {w0 w w' : World} {bl : List (Nat × List Value × TypeId)} (h : St S w0 w bl) (hf : Fr Nob w w') : St S w0 w' bl :=
 ⟨h.fr.same hf, h.own, fun x hx => (h.has x hx).keep hf id, h.ne⟩
theorem St.drew {S : Nat → Prop} {w0 w : World} {bl : List (Nat × List Value × TypeId)} (h : St S w0 w bl) : St S w0 w.drew bl := ⟨h.fr.drew, h.own, h.has, h.ne⟩
theorem St.drewN {S : Nat → Prop} {w0 w : World} {bl : List (Nat × List Value × TypeId)} (h : St S w0 w bl) (n : Nat) : St S w0 (w.drewN n) bl := ⟨h.fr.drewN n, h.own, h.has, h.ne⟩
theorem St.less {S : Nat → Prop} {w0 w : World} {bl bl' : List (Nat × List Value × TypeId)} (h : St S w0 w bl) (hs : bl'.Sublist bl) : St S w0 w bl' :=
 ⟨h.fr, fun x hx => h.own x (hs.subset hx), fun x hx => h.has x (hs.subset hx), h.ne.sublist hs⟩
theorem St.new {S : Nat → Prop} {w0 w w' : World} {bl : List (Nat × List Value × TypeId)} (h : St S w0 w bl) (hf : Fr Nob w w') {g : Nat} {L : List Value} {T : TypeId} (hg : Has w' g L T) (hn : w.heap.size ≤ g) : St S w0 w' (bl ++ [(g, L, T)]) := by
 refine ⟨h.fr.same hf, ?_, ?_, ?_⟩
 ·intro x hx
  rcases List.mem_append.1 hx with hx | hx
  ·exact h.own x hx
  ·simp only [List.mem_singleton] at hx
   subst hx
   exact .inl (Nat.le_trans h.fr.size hn)
 ·intro x hx
  rcases List.mem_append.1 hx with hx | hx
  ·exact (h.has x hx).keep hf id
  ·simp only [List.mem_singleton] at hx
   subst hx
   exact hg
 ·rw [List.pairwise_append]
  refine ⟨h.ne, List.pairwise_singleton _ _, ?_⟩
  intro x hx y hy
  simp only [List.mem_singleton] at hy
  subst hy
  have := (h.has x hx).lt
  show x.1 ≠ g
  omega
theorem St.put {S : Nat → Prop} {w0 w w' : World} {bl : List (Nat × List Value × TypeId)} (h : St S w0 w bl) (i : Nat) {g : Nat} {L L' : List Value} {T : TypeId} (hi : bl[i]? = some (g, L, T)) (hf : Fr (One g) w w') (hg : Has w' g L' T) : St S w0 w' (bl.set i (g, L', T)) := by
 obtain ⟨hi1, hi2⟩ := List.getElem?_eq_some_iff.1 hi
 refine ⟨?_, ?_, ?_, ?_⟩
 ·refine h.fr.trans hf fun j hj hjg => ?_
  have hjg' : j = g := hjg
  subst hjg'
  rcases h.own _ (List.mem_of_getElem? hi) with k | k
  ·have k' : w0.heap.size ≤ j := k
   omega
  ·exact k
 ·intro x hx
  rcases List.mem_or_eq_of_mem_set hx with hx | rfl
  ·exact h.own x hx
  ·exact h.own (g, L, T) (List.mem_of_getElem? hi)
 ·intro x hx
  obtain ⟨j, hj1, hj2⟩ := List.mem_iff_getElem.1 hx
  rw [List.length_set] at hj1
  rw [List.getElem_set] at hj2
  by_cases e : i = j
  ·rw [if_pos e] at hj2; subst hj2; exact hg
  ·rw [if_neg e] at hj2
   subst hj2
   refine (h.has _ (List.getElem_mem hj1)).keep hf fun t => ?_
   exact h.neAt hi (List.getElem?_eq_getElem hj1) e (Eq.symm t)
 ·rw [List.pairwise_iff_getElem]
  intro j k hj hk hjk
  have e := List.pairwise_iff_getElem.1 h.ne j k (by simpa using hj) (by simpa using hk) hjk
  rw [List.getElem_set, List.getElem_set]
  split
  ·rename_i e1; subst e1
   rw [hi2] at e
   split
   ·omega
   ·exact e
  ·split
   ·rename_i e2; subst e2; rw [hi2] at e; exact e
   ·exact e
theorem St.set {S : Nat → Prop} {w0 w : World} {bl : List (Nat × List Value × TypeId)} (h : St S w0 w bl) (i : Nat) {g : Nat} {L : List Value} {T : TypeId} (hi : bl[i]? = some (g, L, T)) (k : Nat) (v : Value) : St S w0 (w.setCell ⟨g, k, none⟩ v) (bl.set i (g, L.set k v, T)) :=
 h.put i hi ((Fr.refl (One g) w).setCell g k none v (fun _ => rfl)) ((h.at i hi).set k v)
theorem St.take {S : Nat → Prop} {w0 w : World} {bl : List (Nat × List Value × TypeId)} (h : St S w0 w bl) {g : Nat} {L : List Value} {T : TypeId} (hg : Has w g L T) (hS : S g) (hn : ∀ x ∈ bl, x.1 ≠ g) : St S w0 w (bl ++ [(g, L, T)]) := by
 refine ⟨h.fr, ?_, ?_, ?_⟩
 ·intro x hx
  rcases List.mem_append.1 hx with hx | hx
  ·exact h.own x hx
  ·simp only [List.mem_singleton] at hx; subst hx; exact .inr hS
 ·intro x hx
  rcases List.mem_append.1 hx with hx | hx
  ·exact h.has x hx
  ·simp only [List.mem_singleton] at hx; subst hx; exact hg
 ·rw [List.pairwise_append]
  refine ⟨h.ne, List.pairwise_singleton _ _, ?_⟩
  intro x hx y hy
  simp only [List.mem_singleton] at hy
  subst hy
  exact hn x hx
theorem St.one {w : World} {g : Nat} {L : List Value} {T : TypeId} (hg : Has w g L T) : St (One g) w w [(g, L, T)] := (St.start (One g) w).take hg rfl ap17
section
variable {w w0 : World} {ops : Array Oper} {rest : List Oper} {o : Oper} {a : Act} {Q : Exit → Act → World → Prop} {S : Nat → Prop} {bl : List (Nat × List Value × TypeId)}
theorem a0l (hst : St S w0 w bl) {e : TypeId} {x : Operand} (hgd : o.guard = none) (ho : o.op = .box e x) {v : Value} (hx : a.eval x = v) (L : List Value) (hL : v.cells.toList = L)
  (h : ∀ g w', St S w0 w' (bl ++ [(g, L, e)]) → wpList P ops Q rest (a.put o.dst (.pointer (some ⟨g, 0, none⟩))) w') : wpList P ops Q (o :: rest) a w :=
 m0t hgd ho hx L hL fun w' hg hf _ => h _ w' (hst.new hf hg (Nat.le_refl _))
theorem a0a (hst : St S w0 w bl) {e : TypeId} (hgd : o.guard = none) (ho : o.op = .alloc e) {z : Value} (hi : (P.info? e).map (·.zero) = some (some z)) (L : List Value) (hL : z.cells.toList = L)
  (h : ∀ g w', St S w0 w' (bl ++ [(g, L, e)]) → wpList P ops Q rest (a.put o.dst (.pointer (some ⟨g, 0, none⟩))) w') : wpList P ops Q (o :: rest) a w :=
 e0B hgd ho hi L hL fun w' hg hf _ => h _ w' (hst.new hf hg (Nat.le_refl _))
theorem a0k (hst : St S w0 w bl) (i : Nat) {g : Nat} {L : List Value} {T : TypeId} (hb : bl[i]? = some (g, L, T)) {ty : TypeId} {x : Operand} (hgd : o.guard = none) (ho : o.op = .load ty x) {n : Nat} {e : TypeId} (hu : P.underlying ty = some (.array n e)) (hx : a.eval x = .pointer (some ⟨g, 0, none⟩))
  (hi : (P.info? ty).map (·.size) = some L.length) (h : wpList P ops Q rest (a.put o.dst (.agg L.toArray)) w) : wpList P ops Q (o :: rest) a w :=
 c0c hgd ho hu hx (hst.at i hb) L dZl hi h
theorem a0p (hst : St S w0 w bl) (i : Nat) {g : Nat} {L : List Value} {T : TypeId} (hb : bl[i]? = some (g, L, T)) {ty : TypeId} {x : Operand} (hgd : o.guard = none) (ho : o.op = .load ty x) {d : TypeDesc} (hu : P.underlying ty = some d) (hd : d.isRow = true) (hx : a.eval x = .pointer (some ⟨g, 0, none⟩))
  (hi : (P.info? ty).map (·.size) = some L.length) (h : wpList P ops Q rest (a.put o.dst (.agg L.toArray)) w) : wpList P ops Q (o :: rest) a w :=
 wpList_load_mid hgd ty x ho g 0 hx L _ ((hst.at i hb).range 0 L dZl) hu hd hi h
theorem a0b (hst : St S w0 w bl) (i : Nat) {g : Nat} {L : List Value} {T : TypeId} (hb : bl[i]? = some (g, L, T)) {ty : TypeId} {x y : Operand} (hgd : o.guard = none) (ho : o.op = .store ty x y) (hx : a.eval x = .pointer (some ⟨g, 0, none⟩)) {cs : List Value} (hy : a.eval y = .agg cs.toArray)
  (hn : cs.length = L.length) (hi : (P.info? ty).map (·.size) = some cs.length) (h1 : ∀ v ∈ cs, v.oneCell' = true)
  (h : ∀ w', St S w0 w' (bl.set i (g, cs, T)) → wpList P ops Q rest (a.put o.dst undef) w') : wpList P ops Q (o :: rest) a w :=
 c0G hgd ho hx hy (hst.at i hb) ap16 hi h1 fun w' hg hf _ => h w' (hst.put i hb hf (by rwa [c0A _ _ hn] at hg))
end
end Go.Mv
namespace Mvp
abbrev B64 : Nat := 18446744073709551616
def lw (a i : Nat) : Nat := a / B64 ^ i % B64
def a0C (n a : Nat) : List Nat := (List.range n).map (lw a)
def mix (A B k : Nat) : Nat := A % B64 ^ k + B / B64 ^ k * B64 ^ k
theorem c0e (k : Nat) : 0 < B64 ^ k := Nat.pow_pos ap15
theorem c0Q (a i : Nat) : lw a i < 18446744073709551616 := Nat.mod_lt _ ap15
theorem b0D (n a : Nat) : (a0C n a).length = n := by simp [a0C]
theorem c0K (n a i : Nat) (h : i < n) : (a0C n a)[i]? = some (lw a i) := by simp [a0C, h]
theorem y0E (a : Nat) : a0C 4 a = [lw a 0, lw a 1, lw a 2, lw a 3] := rfl
theorem e0l (a i k : Nat) (h : i < k) : lw (a % B64 ^ k) i = lw a i := by
 unfold lw
 obtain ⟨j, rfl⟩ : ∃ j, k = i + (1 + j) := ⟨k - i - 1, by omega⟩
 rw [Nat.pow_add, Nat.mod_mul_right_div_self, Nat.pow_add, Nat.pow_one, Nat.mod_mul_right_mod]
theorem c0B (a k i : Nat) : lw (a / B64 ^ k) i = lw a (k + i) := by
 unfold lw
 rw [Nat.div_div_eq_div_mul, ← Nat.pow_add]
theorem z0R (A B k : Nat) : mix A B k % B64 ^ k = A % B64 ^ k := by
 unfold mix
 rw [Nat.add_mul_mod_self_right, Nat.mod_mod]
theorem z0S (A B k : Nat) : mix A B k / B64 ^ k = B / B64 ^ k := by
 unfold mix
 rw [Nat.add_mul_div_right _ _ (c0e k), Nat.div_eq_of_lt (Nat.mod_lt _ (c0e k)), Nat.zero_add]
theorem h0u (A B k i : Nat) : lw (mix A B k) i = if i < k then lw A i else lw B i := by
 split
 ·rename_i h
  rw [← e0l _ i k h, z0R, e0l _ i k h]
 ·rename_i h
  obtain ⟨j, rfl⟩ : ∃ j, i = k + j := ⟨i - k, by omega⟩
  rw [← c0B, ← c0B, z0S]
theorem e0m {n a b : Nat} (h : ∀ i, i < n → lw a i = lw b i) : a0C n a = a0C n b := by
 unfold a0C
 apply List.map_congr_left
 intro i hi
 exact h i (List.mem_range.1 hi)
theorem s0V (n A B k : Nat) (h : k < n) : (a0C n (mix A B k)).set k (lw A k) = a0C n (mix A B (k + 1)) := by
 have _h := h
 apply List.ext_getElem?
 intro i
 rw [List.getElem?_set]
 rcases Nat.lt_or_ge i n with hi | hi
 ·rw [c0K _ _ _ hi, c0K _ _ _ hi, h0u, h0u, b0D]
  by_cases e : k = i
  ·subst e; simp [h]
  ·rw [if_neg e]
   congr 1
   by_cases h2 : i < k
   ·rw [if_pos h2, if_pos ap16]
   ·rw [if_neg h2, if_neg ap16]
 ·rw [List.getElem?_eq_none (by rw [b0D]; exact hi), List.getElem?_eq_none (by rw [b0D]; exact hi)]
  split
  ·rw [b0D, if_neg ap16]
  ·rfl
theorem d0U (A B : Nat) : mix A B 0 = B := by simp [mix, Nat.mod_one]
theorem z0T (A B k : Nat) (ha : A < B64 ^ k) (hb : B < B64 ^ k) : mix A B k = A := by
 unfold mix
 rw [Nat.mod_eq_of_lt ha, Nat.div_eq_of_lt hb, Nat.zero_mul, Nat.add_zero]
theorem i0B (A B k : Nat) (h : B < B64 ^ k) : mix A B k = A % B64 ^ k := by
 unfold mix
 rw [Nat.div_eq_of_lt h, Nat.zero_mul, Nat.add_zero]
theorem s0W (n a : Nat) : a0C n (a % B64 ^ n) = a0C n a := e0m fun i hi => e0l a i n hi
theorem d0s (a k : Nat) : a % B64 ^ (k + 1) = a % B64 ^ k + B64 ^ k * lw a k := by
 unfold lw
 rw [Nat.pow_succ, Nat.mod_mul]
theorem d0t {n a b : Nat} (h : a0C n a = a0C n b) : a % B64 ^ n = b % B64 ^ n := by
 have hw : ∀ i, i < n → lw a i = lw b i := fun i hi => by
  have h1 := c0K n a i hi
  rw [h, c0K n b i hi] at h1
  exact (Option.some.inj h1).symm
 clear h
 induction n with
 | zero => simp [Nat.mod_one]
 | succ k ih => rw [d0s, d0s, ih (fun i hi => hw i ap16), hw k ap16]
def b0y (a b k : Nat) : Nat := (a % B64 ^ k + b % B64 ^ k) / B64 ^ k
theorem m0C (a b : Nat) : b0y a b 0 = 0 := by simp [b0y, Nat.mod_one]
theorem s0X (a b k : Nat) : b0y a b k ≤ 1 := by
 unfold b0y
 have h := c0e k
 have h1 := Nat.mod_lt a h
 have h2 := Nat.mod_lt b h
 generalize B64 ^ k = W at *
 exact Nat.le_of_lt_succ (Nat.div_lt_of_lt_mul ap16)
theorem m0D (a b k : Nat) : b0y a b (k + 1) = (lw a k + lw b k + b0y a b k) / 18446744073709551616 := by
 unfold b0y
 rw [d0s, d0s, Nat.pow_succ, ← Nat.div_div_eq_div_mul]
 congr 1
 have e : a % B64 ^ k + B64 ^ k * lw a k + (b % B64 ^ k + B64 ^ k * lw b k) = (a % B64 ^ k + b % B64 ^ k) + B64 ^ k * (lw a k + lw b k) := by rw [Nat.mul_add]; omega
 rw [e, Nat.add_mul_div_left _ _ (c0e k)]
 omega
theorem y0F (a b k : Nat) : lw (a + b) k = (lw a k + lw b k + b0y a b k) % 18446744073709551616 := by
 unfold lw b0y
 have h := c0e k
 have e : a + b = (a % B64 ^ k + b % B64 ^ k) + B64 ^ k * (a / B64 ^ k + b / B64 ^ k) := by
  have h1 := Nat.div_add_mod a (B64 ^ k)
  have h2 := Nat.div_add_mod b (B64 ^ k)
  rw [Nat.mul_add]; omega
 have e2 : (a + b) / B64 ^ k = (a % B64 ^ k + b % B64 ^ k) / B64 ^ k + (a / B64 ^ k + b / B64 ^ k) := by
  conv => lhs; rw [e]
  rw [Nat.add_mul_div_left _ _ h]
 rw [e2]
 generalize (a % B64 ^ k + b % B64 ^ k) / B64 ^ k = x
 generalize a / B64 ^ k = y
 generalize b / B64 ^ k = z
 show (x + (y + z)) % 18446744073709551616 = (y % 18446744073709551616 + z % 18446744073709551616 + x) % 18446744073709551616
 omega
theorem w0i (a b k : Nat) (ha : a < B64 ^ k) (hb : b < B64 ^ k) : b0y a b k = (a + b) / B64 ^ k := by
 unfold b0y; rw [Nat.mod_eq_of_lt ha, Nat.mod_eq_of_lt hb]
def b0k (a b k : Nat) : Nat := if a % B64 ^ k < b % B64 ^ k then 1 else 0
theorem g0k (a b : Nat) : b0k a b 0 = 0 := by simp [b0k, Nat.mod_one]
theorem k0X (a b k : Nat) : b0k a b k ≤ 1 := by unfold b0k; split <;> omega
theorem g0l (a b k : Nat) : b0k a b (k + 1) = if lw a k < lw b k + b0k a b k then 1 else 0 := by
 unfold b0k
 rw [d0s, d0s]
 have h := c0e k
 have h1 := Nat.mod_lt a h
 have h2 := Nat.mod_lt b h
 generalize lw a k = x
 generalize lw b k = y
 generalize a % B64 ^ k = p at *
 generalize b % B64 ^ k = q at *
 generalize B64 ^ k = W at *
 rcases Nat.lt_trichotomy x y with hxy | hxy | hxy
 ·obtain ⟨d, rfl⟩ : ∃ d, y = x + 1 + d := ⟨y - x - 1, by omega⟩
  have e : W * (x + 1 + d) = W * x + W + W * d := by rw [Nat.mul_add, Nat.mul_add, Nat.mul_one]
  rw [e]
  rw [if_pos ap16, if_pos ap16]
 ·subst hxy
  by_cases hpq : p < q
  ·rw [if_pos hpq, if_pos ap16, if_pos ap16]
  ·rw [if_neg hpq, if_neg ap16, if_neg ap16]
 ·obtain ⟨d, rfl⟩ : ∃ d, x = y + 1 + d := ⟨x - y - 1, by omega⟩
  have e : W * (y + 1 + d) = W * y + W + W * d := by rw [Nat.mul_add, Nat.mul_add, Nat.mul_one]
  rw [e]
  rw [if_neg ap16, if_neg (by split <;> omega)]
theorem p0B (n a b k : Nat) (hb : b < B64 ^ n) (hk : k < n) : lw (a + B64 ^ n - b) k = (lw a k + 18446744073709551616 - lw b k - b0k a b k) % 18446744073709551616 := by
 obtain ⟨j, rfl⟩ : ∃ j, n = k + (1 + j) := ⟨n - k - 1, by omega⟩
 have hW := c0e k
 have hT := c0e j
 have hN : B64 ^ (k + (1 + j)) = B64 ^ k * (B64 * B64 ^ j) := by rw [Nat.pow_add, Nat.pow_add, Nat.pow_one]
 rw [hN] at hb ⊢
 have ha1 := Nat.div_add_mod a (B64 ^ k)
 have hb1 := Nat.div_add_mod b (B64 ^ k)
 have ha2 := Nat.mod_lt a hW
 have hb2 := Nat.mod_lt b hW
 have hbh : b / B64 ^ k < B64 * B64 ^ j := Nat.div_lt_of_lt_mul hb
 unfold lw b0k
 generalize a / B64 ^ k = x at *
 generalize b / B64 ^ k = y at *
 generalize a % B64 ^ k = p at *
 generalize b % B64 ^ k = q at *
 generalize B64 ^ j = T at *
 generalize B64 ^ k = W at *
 have hq : ∃ c, c ≤ 1 ∧ (c = if p < q then 1 else 0) ∧ p + c * W < q + W ∧ q ≤ p + c * W := by
  by_cases h : p < q
  ·exact ⟨1, by omega, by rw [if_pos h], by omega, by omega⟩
  ·exact ⟨0, by omega, by rw [if_neg h], by omega, by omega⟩
 obtain ⟨c, hc1, hc2, hc3, hc4⟩ := hq
 rw [← hc2]
 have hyc : y + c ≤ x + B64 * T := by omega
 have e : (a + W * (B64 * T) - b) / W = x + B64 * T - y - c := by
  have h1 : a + W * (B64 * T) - b = W * (x + B64 * T - y - c) + (p + c * W - q) := by
   have h2 : W * (x + B64 * T - y - c) + W * (y + c) = W * x + W * (B64 * T) := by
    rw [← Nat.mul_add, ← Nat.mul_add]; congr 1; omega
   have h3 : W * (y + c) = W * y + c * W := by rw [Nat.mul_add, Nat.mul_comm W c]
   generalize W * (x + B64 * T - y - c) = u at *
   generalize W * (B64 * T) = v at *
   generalize W * (y + c) = z at *
   omega
  rw [h1, Nat.mul_add_div hW, Nat.div_eq_of_lt ap16, Nat.add_zero]
 rw [e]
 show (x + 18446744073709551616 * T - y - c) % 18446744073709551616 = (x % 18446744073709551616 + 18446744073709551616 - y % 18446744073709551616 - c) % 18446744073709551616
 have hyc' : y + c ≤ x + 18446744073709551616 * T := hyc
 omega
theorem f0s (a b k : Nat) (ha : a < B64 ^ k) (hb : b < B64 ^ k) : b0k a b k = if a < b then 1 else 0 := by
 unfold b0k; rw [Nat.mod_eq_of_lt ha, Nat.mod_eq_of_lt hb]
def b0j (L x n k : Nat) : Nat := (L % B64 ^ k + x * (n % B64 ^ k)) / B64 ^ k
theorem m0E (L x n : Nat) : b0j L x n 0 = 0 := by simp [b0j, Nat.mod_one]
theorem i0C (L x n k : Nat) (hx : x < 18446744073709551616) : b0j L x n k < 18446744073709551616 := by
 unfold b0j
 have h := c0e k
 have h1 := Nat.mod_lt L h
 have h2 := Nat.mod_lt n h
 have h3 : x * (n % B64 ^ k) ≤ 18446744073709551615 * (n % B64 ^ k) := Nat.mul_le_mul_right _ ap16
 generalize B64 ^ k = W at *
 refine Nat.div_lt_of_lt_mul ?_
 omega
theorem g0m (L x n k : Nat) : b0j L x n (k + 1) = (lw L k + x * lw n k + b0j L x n k) / 18446744073709551616 := by
 unfold b0j
 rw [d0s, d0s, Nat.pow_succ, ← Nat.div_div_eq_div_mul]
 congr 1
 have e : L % B64 ^ k + B64 ^ k * lw L k + x * (n % B64 ^ k + B64 ^ k * lw n k) = (L % B64 ^ k + x * (n % B64 ^ k)) + B64 ^ k * (lw L k + x * lw n k) := by
  rw [Nat.mul_add, Nat.mul_add, Nat.mul_left_comm x]; omega
 rw [e, Nat.add_mul_div_left _ _ (c0e k)]
 omega
theorem i0D (L x n k : Nat) : lw (L + x * n) k = (lw L k + x * lw n k + b0j L x n k) % 18446744073709551616 := by
 unfold lw b0j
 have h := c0e k
 have e : L + x * n = (L % B64 ^ k + x * (n % B64 ^ k)) + B64 ^ k * (L / B64 ^ k + x * (n / B64 ^ k)) := by
  have h1 := Nat.div_add_mod L (B64 ^ k)
  have h2 := Nat.div_add_mod n (B64 ^ k)
  have h3 : x * n = x * (B64 ^ k * (n / B64 ^ k)) + x * (n % B64 ^ k) := by rw [← Nat.mul_add, h2]
  have h4 : x * (B64 ^ k * (n / B64 ^ k)) = B64 ^ k * (x * (n / B64 ^ k)) := Nat.mul_left_comm _ _ _
  rw [Nat.mul_add]; omega
 have e2 : (L + x * n) / B64 ^ k = (L % B64 ^ k + x * (n % B64 ^ k)) / B64 ^ k + (L / B64 ^ k + x * (n / B64 ^ k)) := by
  conv => lhs; rw [e]
  rw [Nat.add_mul_div_left _ _ h]
 rw [e2]
 generalize (L % B64 ^ k + x * (n % B64 ^ k)) / B64 ^ k = u
 generalize L / B64 ^ k = y
 generalize n / B64 ^ k = z
 show (u + (y + x * z)) % 18446744073709551616 = (y % 18446744073709551616 + x * (z % 18446744073709551616) + u) % 18446744073709551616
 have e3 : x * (z % 18446744073709551616) % 18446744073709551616 = x * z % 18446744073709551616 := Nat.mul_mod_mod _ _ _
 generalize x * (z % 18446744073709551616) = s at *
 generalize x * z = t at *
 omega
theorem w0j (L x n k : Nat) (hL : L < B64 ^ k) (hn : n < B64 ^ k) : b0j L x n k = (L + x * n) / B64 ^ k := by
 unfold b0j; rw [Nat.mod_eq_of_lt hL, Nat.mod_eq_of_lt hn]
theorem r0j (p t c : Nat) (hp : p ≤ 18446744073709551615 * 18446744073709551615) (hc : c < 18446744073709551616) :
  (t + (p % 18446744073709551616 + c) % 18446744073709551616) % 18446744073709551616 = (t + p + c) % 18446744073709551616 ∧
  p / 18446744073709551616 + (p % 18446744073709551616 + c) / 18446744073709551616 < 18446744073709551616 ∧
  p / 18446744073709551616 + (p % 18446744073709551616 + c) / 18446744073709551616 + (t + (p % 18446744073709551616 + c) % 18446744073709551616) / 18446744073709551616 = (t + p + c) / 18446744073709551616 := by
 omega
theorem j0S (p t c : Nat) (hp : p ≤ 18446744073709551615 * 18446744073709551615) (hc : c < 18446744073709551616) :
  ∃ hi lo lo2 c1 t2 c2 : Nat, p / 18446744073709551616 = hi ∧ p % 18446744073709551616 = lo ∧ (lo + c) % 18446744073709551616 = lo2 ∧ (lo + c) / 18446744073709551616 = c1 ∧ hi + c1 < 18446744073709551616 ∧
   (t + lo2) % 18446744073709551616 = t2 ∧ (t + lo2) / 18446744073709551616 = c2 ∧ t2 = (t + p + c) % 18446744073709551616 ∧ hi + c1 + c2 = (t + p + c) / 18446744073709551616 := by
 obtain ⟨h1, h2, h3⟩ := r0j p t c hp hc
 exact ⟨_, _, _, _, _, _, rfl, rfl, rfl, rfl, h2, rfl, rfl, h1, h3⟩
theorem i0E {x y : Nat} (hx : x < 18446744073709551616) (hy : y < 18446744073709551616) : x * y ≤ 18446744073709551615 * 18446744073709551615 :=
 Nat.mul_le_mul ap16 ap16
theorem i0F (P Q i j : Nat) (h : j < i) : lw (P + B64 ^ i * Q) j = lw P j := by
 rw [← e0l _ j i h, Nat.add_mul_mod_self_left, e0l _ j i h]
theorem c0U (P Q i k : Nat) : lw (P + B64 ^ i * Q) (i + k) = lw (P / B64 ^ i + Q) k := by
 rw [← c0B, Nat.add_mul_div_left _ _ (c0e i)]
theorem d0E (a n i : Nat) (h : a < B64 ^ n) (hi : n ≤ i) : lw a i = 0 := by
 unfold lw
 rw [Nat.div_eq_of_lt (Nat.lt_of_lt_of_le h (Nat.pow_le_pow_right ap15 hi)), Nat.zero_mod]
theorem h0M (a b i : Nat) : a % B64 ^ i * b + B64 ^ i * (lw a i * b) = a % B64 ^ (i + 1) * b := by
 rw [d0s, Nat.add_mul, Nat.mul_assoc]
theorem s0Y (a b i : Nat) (hb : b < B64 ^ 4) : a % B64 ^ i * b < B64 ^ (i + 4) := by
 have h := Nat.mod_lt a (c0e i)
 rw [Nat.pow_add]
 exact Nat.mul_lt_mul'' h hb
theorem z0U (a b i : Nat) (hb : b < B64 ^ 4) : lw (a % B64 ^ (i + 1) * b) (i + 4) = b0j (a % B64 ^ i * b / B64 ^ i) (lw a i) b 4 := by
 rw [← h0M, c0U, i0D, d0E b 4 4 hb (Nat.le_refl _), c0B, d0E _ _ _ (s0Y a b i hb) (Nat.le_refl _), Nat.mul_zero, Nat.zero_add]
 exact Nat.mod_eq_of_lt (i0C _ _ _ _ (c0Q a i))
theorem z0V (a b i : Nat) (hb : b < B64 ^ 4) : mix (a % B64 ^ (i + 1) * b) (a % B64 ^ i * b) (i + 4 + 1) = a % B64 ^ (i + 1) * b := by
 refine z0T _ _ _ ?_ ?_
 ·have := s0Y a b (i + 1) hb
  rwa [show i + 1 + 4 = i + 4 + 1 by omega] at this
 ·refine Nat.lt_trans (s0Y a b i hb) (Nat.pow_lt_pow_right ap15 ap16)
theorem w0k (a b i k : Nat) : lw (a % B64 ^ i * b) (i + k) = lw (a % B64 ^ i * b / B64 ^ i) k := by rw [c0B]
theorem z0W (a b i k : Nat) : lw (a % B64 ^ (i + 1) * b) (i + k) = lw (a % B64 ^ i * b / B64 ^ i + lw a i * b) k := by
 rw [← h0M, c0U]
theorem s0Z (a b i : Nat) : mix (a % B64 ^ (i + 1) * b) (a % B64 ^ i * b) (i + 0) = a % B64 ^ i * b := by
 rw [← h0M, Nat.add_zero]
 generalize a % B64 ^ i * b = V
 unfold mix
 rw [Nat.add_mul_mod_self_left, Nat.mul_comm, Nat.mod_add_div]
theorem w0l (b : Nat) (a : Nat) : a % B64 ^ 0 * b = 0 := by simp [Nat.mod_one]
def a0M (C V : Nat) : Nat := V / B64 ^ 4 * C + V % B64 ^ 4
theorem t0a (P C V : Nat) (h : P + C = B64 ^ 4) : a0M C V % P = V % P := by
 have e : V = a0M C V + P * (V / B64 ^ 4) := by
  have h1 := Nat.div_add_mod V (B64 ^ 4)
  unfold a0M
  rw [← h] at h1 ⊢
  generalize V / (P + C) = q at *
  rw [Nat.add_mul] at h1
  rw [Nat.mul_comm q C]
  omega
 conv => rhs; rw [e]
 rw [Nat.add_mul_mod_self_left]
theorem w0m (C V : Nat) (hC : C < B64 ^ 4) (h : V / B64 ^ 4 ≠ 0) : a0M C V < V := by
 have h1 := Nat.div_add_mod V (B64 ^ 4)
 unfold a0M
 generalize V / B64 ^ 4 = q at *
 have h2 : q * C < B64 ^ 4 * q := by
  rw [Nat.mul_comm]
  exact Nat.mul_lt_mul_of_pos_right hC ap16
 omega
theorem B0V (a b c d : Nat) : (a ||| b ||| c ||| d = 0) ↔ (a = 0 ∧ b = 0 ∧ c = 0 ∧ d = 0) := by
 simp [Nat.or_eq_zero_iff, and_assoc]
theorem w0n (V : Nat) (h : V < B64 ^ 8) : (lw V 4 ||| lw V 5 ||| lw V 6 ||| lw V 7 = 0) ↔ V / B64 ^ 4 = 0 := by
 rw [B0V]
 have e : V / B64 ^ 4 < B64 ^ 4 := Nat.div_lt_of_lt_mul (by rw [← Nat.pow_add]; exact h)
 have k0 := c0B V 4 0
 have k1 := c0B V 4 1
 have k2 := c0B V 4 2
 have k3 := c0B V 4 3
 rw [show 4 + 0 = 4 from rfl] at k0
 rw [show 4 + 1 = 5 from rfl] at k1
 rw [show 4 + 2 = 6 from rfl] at k2
 rw [show 4 + 3 = 7 from rfl] at k3
 rw [← k0, ← k1, ← k2, ← k3]
 generalize V / B64 ^ 4 = D at *
 constructor
 ·rintro ⟨h0, h1, h2, h3⟩
  have hm : D % B64 ^ 4 = 0 % B64 ^ 4 := d0t (e0m fun i hi => by
   have : i = 0 ∨ i = 1 ∨ i = 2 ∨ i = 3 := by omega
   rcases this with rfl | rfl | rfl | rfl
   ·rw [h0]; decide
   ·rw [h1]; decide
   ·rw [h2]; decide
   ·rw [h3]; decide)
  rw [Nat.mod_eq_of_lt e] at hm
  simpa using hm
 ·rintro rfl; decide
theorem r0k (D : Nat) (e : D < B64 ^ 4) : (lw D 0 ||| lw D 1 ||| lw D 2 ||| lw D 3 = 0) ↔ D = 0 := by
 rw [B0V]
 constructor
 ·rintro ⟨h0, h1, h2, h3⟩
  have hm : D % B64 ^ 4 = 0 % B64 ^ 4 := d0t (e0m fun i hi => by
   have : i = 0 ∨ i = 1 ∨ i = 2 ∨ i = 3 := by omega
   rcases this with rfl | rfl | rfl | rfl
   ·rw [h0]; decide
   ·rw [h1]; decide
   ·rw [h2]; decide
   ·rw [h3]; decide)
  rw [Nat.mod_eq_of_lt e] at hm
  simpa using hm
 ·rintro rfl; decide
theorem p0C (V x n : Nat) (hn : n < B64 ^ 4) (hV : V + x * n < B64 ^ 6) (hVV : V < B64 ^ 6) :
  (lw V 4 + b0j V x n 4) % 18446744073709551616 = lw (V + x * n) 4 ∧ lw V 5 + (lw V 4 + b0j V x n 4) / 18446744073709551616 = lw (V + x * n) 5 ∧ lw V 5 + (lw V 4 + b0j V x n 4) / 18446744073709551616 < 18446744073709551616 := by
 have z4 : lw n 4 = 0 := d0E n 4 4 hn ap15
 have z5 : lw n 5 = 0 := d0E n 4 5 hn ap15
 have h4 := i0D V x n 4
 have h5 := i0D V x n 5
 have c5 := g0m V x n 4
 have c6 := g0m V x n 5
 rw [z4, Nat.mul_zero, Nat.add_zero] at h4 c5
 rw [z5, Nat.mul_zero, Nat.add_zero] at h5 c6
 have hc6 : b0j V x n 6 = 0 := by
  rw [w0j V x n 6 hVV (Nat.lt_trans hn ap15)]
  exact Nat.div_eq_of_lt hV
 rw [hc6] at c6
 rw [c5] at h5 c6
 try rw [Nat.add_zero] at h5
 try rw [Nat.add_zero] at c6
 have : lw V 5 + (lw V 4 + b0j V x n 4) / 18446744073709551616 < 18446744073709551616 := by omega
 exact ⟨h4.symm, by rw [h5, Nat.mod_eq_of_lt this], this⟩
theorem r0l (V : Nat) : lw V 0 = V % 18446744073709551616 := by simp [lw]
def a0R (M neg b T x : Nat) : Nat := (T + x * b + ((T + x * b) % 18446744073709551616 * neg % 18446744073709551616) * M) / 18446744073709551616
def a0J (M neg b a : Nat) : Nat → Nat
 | 0 => 0
 | k + 1 => a0R M neg b (a0J M neg b a k) (lw a k)
theorem o0p (M neg b T x : Nat) (hneg : (M * neg + 1) % 18446744073709551616 = 0) :
  a0R M neg b T x * 18446744073709551616 = T + x * b + ((T + x * b) % 18446744073709551616 * neg % 18446744073709551616) * M := by
 unfold a0R
 generalize hV : T + x * b = V
 generalize hm : V % 18446744073709551616 * neg % 18446744073709551616 = m
 have key : (V + m * M) % 18446744073709551616 = 0 := by
  have h1 : (m * M) % 18446744073709551616 = (V * neg * M) % 18446744073709551616 := by
   rw [← hm, Nat.mod_mul_mod, Nat.mul_assoc, Nat.mod_mul_mod, ← Nat.mul_assoc]
  have h2 : V + V * neg * M = V * (M * neg + 1) := by rw [Nat.mul_add, Nat.mul_one, Nat.mul_assoc, Nat.mul_comm neg, Nat.add_comm]
  rw [Nat.add_mod, h1, ← Nat.add_mod, h2, Nat.mul_mod, hneg, Nat.mul_zero, Nat.zero_mod]
 have := Nat.div_add_mod (V + m * M) 18446744073709551616
 rw [key, Nat.add_zero, Nat.mul_comm] at this
 exact this
theorem w0o (M neg b T x : Nat) (_ : 0 < M) (hT : T < b + M) (hx : x < 18446744073709551616) : a0R M neg b T x < b + M := by
 unfold a0R
 refine Nat.div_lt_of_lt_mul ?_
 generalize hm : (T + x * b) % 18446744073709551616 * neg % 18446744073709551616 = m
 have hm' : m < 18446744073709551616 := by rw [← hm]; exact Nat.mod_lt _ ap15
 have h1 : x * b ≤ 18446744073709551615 * b := Nat.mul_le_mul_right _ ap16
 have h2 : m * M ≤ 18446744073709551615 * M := Nat.mul_le_mul_right _ ap16
 omega
theorem p0D (M neg b a k : Nat) (hM : 0 < M) : a0J M neg b a k < b + M := by
 induction k with
 | zero => show 0 < _; omega
 | succ k ih => exact w0o _ _ _ _ _ hM ih (c0Q a k)
theorem t0b (M neg b a k : Nat) (hneg : (M * neg + 1) % 18446744073709551616 = 0) : a0J M neg b a k * B64 ^ k % M = a % B64 ^ k * b % M := by
 induction k with
 | zero => simp [a0J, Nat.mod_one]
 | succ k ih =>
  show a0R _ _ _ _ _ * B64 ^ (k + 1) % M = _
  rw [← h0M, Nat.pow_succ, Nat.mul_comm (B64 ^ k), ← Nat.mul_assoc, o0p M neg b _ _ hneg]
  generalize (a0J M neg b a k + lw a k * b) % 18446744073709551616 * neg % 18446744073709551616 = m
  have e : (a0J M neg b a k + lw a k * b + m * M) * B64 ^ k = a0J M neg b a k * B64 ^ k + B64 ^ k * (lw a k * b) + M * (m * B64 ^ k) := by
   rw [Nat.add_mul, Nat.add_mul, Nat.mul_comm (lw a k * b), Nat.mul_right_comm m, Nat.mul_comm (m * B64 ^ k)]
  rw [e, Nat.add_mul_mod_self_left, Nat.add_mod, ih, ← Nat.add_mod]
theorem r0m (M neg Ri a b : Nat) (_ : 0 < M) (ha : a < B64 ^ 4) (hneg : (M * neg + 1) % 18446744073709551616 = 0) (hRi : B64 ^ 4 * Ri % M = 1 % M) :
  a0J M neg b a 4 % M = a * b * Ri % M := by
 have h := t0b M neg b a 4 hneg
 rw [Nat.mod_eq_of_lt ha] at h
 generalize a0J M neg b a 4 = T at *
 have h1 : T * B64 ^ 4 * Ri % M = a * b * Ri % M := by rw [Nat.mul_mod, h, ← Nat.mul_mod]
 rw [← h1, Nat.mul_assoc, Nat.mul_mod, hRi, ← Nat.mul_mod, Nat.mul_one]
theorem r0n (T M : Nat) (h : T < 2 * M) : T % M = if T < M then T else T - M := by
 split
 ·rename_i h'; exact Nat.mod_eq_of_lt h'
 ·rename_i h'; rw [Nat.mod_eq_sub_mod ap16, Nat.mod_eq_of_lt ap16]
end Mvp
namespace Go.Mv
open Go.RowKit Mvp
variable {P : Program}
def us (l : List Nat) : List Value := l.map fun (x : Nat) => .int .u64 (x : Int)
theorem t0c (l : List Nat) : (us l).length = l.length := by simp [us]
theorem B0W (l : List Nat) (i x : Nat) (h : l[i]? = some x) : (us l)[i]? = some (.int .u64 (x : Int)) := by simp [us, h]
theorem m0F (l : List Nat) (i : Nat) (x : Nat) : (us l).set i (.int .u64 (x : Int)) = us (l.set i x) := by simp [us]
theorem B0X (l : List Nat) : ∀ v ∈ us l, v.oneCell' = true := by intro v hv; simp [us] at hv; obtain ⟨x, _, rfl⟩ := hv; rfl
def cw (n a : Nat) : List Value := us (a0C n a)
theorem a0i (n a : Nat) : (cw n a).length = n := by rw [cw, t0c, b0D]
theorem a0G (n a i : Nat) (h : i < n) : (cw n a)[i]? = some (.int .u64 (lw a i : Nat)) := B0W _ _ _ (c0K n a i h)
theorem d0V (n A B k : Nat) (h : k < n) : (cw n (mix A B k)).set k (.int .u64 (lw A k : Nat)) = cw n (mix A B (k + 1)) := by
 rw [cw, m0F, s0V n A B k h, cw]
theorem a0f (n a : Nat) : ∀ v ∈ cw n a, v.oneCell' = true := B0X _
theorem cw_mod (n a : Nat) : cw n (a % B64 ^ n) = cw n a := by rw [cw, s0W, cw]
def i4 (a : Nat) : Value := .agg (cw 4 a).toArray
def i8 (a : Nat) : Value := .agg (cw 8 a).toArray
theorem B0Y {n a b : Nat} (h : ∀ i, i < n → lw a i = lw b i) : cw n a = cw n b := by rw [cw, e0m h, cw]
theorem h0N (A B n : Nat) : cw n (mix A B n) = cw n A := B0Y fun i hi => by rw [h0u, if_pos hi]
theorem p0E (a : Nat) : (i4 a).cells.toList = cw 4 a := rfl
theorem g0Y (n : Nat) : cw n 0 = List.replicate n (.int .u64 0) := by
 apply List.ext_getElem?
 intro i
 rcases Nat.lt_or_ge i n with h | h
 ·rw [a0G _ _ _ h, List.getElem?_replicate, if_pos h]; simp [lw]
 ·rw [List.getElem?_eq_none (by rw [a0i]; exact h), List.getElem?_replicate, if_neg ap16]
theorem e0Z {t e : TypeId} {m : Nat} (ht : P.underlying t = some (.array m e)) (he : P.underlying e = some (.int .u64)) (hi0 : (P.info? e).map (·.size) = some 1) (a k : Nat) (hk : k < m) (ki : IntKind) (w : World) :
  (Instr.index t (.agg (cw m a).toArray) (.int ki (k : Int))).run P w = .ok (.int .u64 (lw a k : Nat)) w := by
 obtain ⟨j, hj, hsz⟩ : ∃ j, P.info? e = some j ∧ j.size = 1 := by simpa using hi0
 have h1 : (0 : Int) ≤ (k : Int) ∧ (k : Int) < (m : Int) := by omega
 have hv := a0G m a k hk
 simp [Instr.index, asIntOf, run_underlying ht, sizeOf, typeInfo, hj, hsz, part, isAgg, run_underlying he, h1, hv]
 intro h; omega
theorem b0c {fn : Func} {p : Tmp} {ty : TypeId} {s : Tmp} (h : fn.results = #[.cell p ty, .tmp s]) {tmps : Array Value} {w : World} {g : Nat} {L : List Value} {T : TypeId}
  (hp : tmps.getD p undef = .pointer (some ⟨g, 0, none⟩)) (hg : Has w g L T) {n : Nat} {e : TypeId} (hu : P.underlying ty = some (.array n e)) (hi : (P.info? ty).map (·.size) = some L.length) {v : Value} (hv : tmps.getD s undef = v) :
  (results fn tmps).run P w = .ok (.tuple #[.agg L.toArray, v]) w := by
 obtain ⟨lo, hi', hh, -⟩ := hg
 have hp' : tmps[p]?.getD undef = .pointer (some ⟨g, 0, none⟩) := by simpa using hp
 have hv' : tmps[s]?.getD undef = v := by simpa using hv
 simp [results, h, hp', hv', asAddr, run_loadVar_row w g T ty L.toArray _ _ hh hu rfl (by simpa using hi)]
theorem p0F (a : Nat) : i4 a = .agg #[.int .u64 (lw a 0 : Nat), .int .u64 (lw a 1 : Nat), .int .u64 (lw a 2 : Nat), .int .u64 (lw a 3 : Nat)] := rfl
theorem z0X (V : Nat) : i4 (V / B64 ^ 4) = .agg #[.int .u64 (lw V 4 : Nat), .int .u64 (lw V 5 : Nat), .int .u64 (lw V 6 : Nat), .int .u64 (lw V 7 : Nat)] := by
 rw [p0F, c0B, c0B, c0B, c0B]
theorem y0G (V : Nat) : i4 (V % B64 ^ 4) = i4 V := by rw [i4, cw_mod, ← i4]
theorem w0p (a : Nat) : i8 a = .agg #[.int .u64 (lw a 0 : Nat), .int .u64 (lw a 1 : Nat), .int .u64 (lw a 2 : Nat), .int .u64 (lw a 3 : Nat), .int .u64 (lw a 4 : Nat), .int .u64 (lw a 5 : Nat), .int .u64 (lw a 6 : Nat), .int .u64 (lw a 7 : Nat)] := rfl
theorem t0d (V : Nat) : i8 (V % B64 ^ 4) = .agg #[.int .u64 (lw V 0 : Nat), .int .u64 (lw V 1 : Nat), .int .u64 (lw V 2 : Nat), .int .u64 (lw V 3 : Nat), .int .u64 0, .int .u64 0, .int .u64 0, .int .u64 0] := by
 have ht := fun i (hi : 4 ≤ i) => d0E (V % B64 ^ 4) 4 i (Nat.mod_lt _ (c0e 4)) hi
 rw [w0p, e0l _ _ _ ap15, e0l _ _ _ ap15, e0l _ _ _ ap15, e0l _ _ _ ap15, ht 4 ap15, ht 5 ap15, ht 6 ap15, ht 7 ap15]
 rfl
def a0n (w : World) (g : Nat) : Nat → Nat → Nat
 | _, 0 => 0
 | i, n + 1 => (intOf ((w.cell? ⟨g, i, none⟩).getD undef)).toNat + B64 * a0n w g (i + 1) n
theorem j0T {w : World} {g V m : Nat} {T : TypeId} (h : Has w g (cw m V) T) : ∀ (n i : Nat), i + n ≤ m → a0n w g i n = V / B64 ^ i % B64 ^ n
 | 0, i, _ => by simp [a0n, Nat.mod_one]
 | n + 1, i, hi => by
  rw [a0n, j0T h n (i + 1) ap16, h.cell (a0G m V i ap16)]
  show lw V i + B64 * _ = _
  have e1 : B64 ^ (n + 1) = B64 * B64 ^ n := by rw [Nat.pow_succ, Nat.mul_comm]
  rw [e1, Nat.mod_mul, Nat.pow_succ, ← Nat.div_div_eq_div_mul]
  rfl
theorem e0F {w : World} {g V m : Nat} {T : TypeId} (h : Has w g (cw m V) T) (hV : V < B64 ^ m) : a0n w g 0 m = V := by
 rw [j0T h m 0 ap16, Nat.pow_zero, Nat.div_one, Nat.mod_eq_of_lt hV]
theorem St.setCells {S : Nat → Prop} {w0 w : World} {bl : List (Nat × List Value × TypeId)} (h : St S w0 w bl) (i : Nat) {g : Nat} {L : List Value} {T : TypeId} (hb : bl[i]? = some (g, L, T)) (cs : List Value) (hn : cs.length = L.length) : St S w0 (w.setCells g 0 cs) (bl.set i (g, cs, T)) := by
 obtain ⟨k1, k2, _⟩ := Has.setCells cs 0 L w (h.at i hb) ap16
 rw [c0A _ _ hn] at k1
 exact h.put i hb k2 k1
theorem w0q (w : World) (a : Nat) (T : TypeId) : Has (w.alloc (.cells #[.int .u64 (lw a 0 : Nat), .int .u64 (lw a 1 : Nat), .int .u64 (lw a 2 : Nat), .int .u64 (lw a 3 : Nat)] T)) w.heap.size (cw 4 a) T := Has.new w _ T
theorem i0G (p a : Nat) (h : a ≤ p) : i4 (p + B64 ^ 4 - a) = i4 (p - a) := by
 rw [← y0G, show p + B64 ^ 4 - a = (p - a) + B64 ^ 4 by omega, Nat.add_mod_right, y0G]
theorem b0V (n : Nat) (h : n < 18446744073709551616) : .agg #[.int .u64 (n : Int), .int .u64 0, .int .u64 0, .int .u64 0] = i4 n := by
 have h0 : lw n 0 = n := by simp only [lw, Nat.pow_zero, Nat.div_one]; exact Nat.mod_eq_of_lt h
 have ht := fun i (hi : 1 ≤ i) => d0E n 1 i (by rw [Nat.pow_one]; exact h) hi
 rw [p0F, h0, ht 1 ap15, ht 2 ap15, ht 3 ap15]
 rfl
theorem f0a (m n a b : Nat) : ((cw m a ++ cw n b).drop 0).take (cw m a).length = cw m a := by simp
theorem p0G (m n a b : Nat) : ((cw m a ++ cw n b).drop m).take (cw n b).length = cw n b := by
 rw [List.drop_append, a0i, a0i, Nat.sub_self, List.drop_of_length_le (by rw [a0i]; exact Nat.le_refl _), List.nil_append, List.drop_zero, List.take_of_length_le (by rw [a0i]; exact Nat.le_refl _)]
end Go.Mv
namespace Go.Proofs.YtemcankmggmgoaaGreat
open Go.RowKit Go.Mv Mvp
def Tryz.lays264_ren : Go.Shelf.Ren := ⟨fun | 264 => 180 | n => n, fun | 46 => 238 | 53 => 58 | n => n, fun | n => n⟩
theorem Tryz.lays264 : Go.Proofs.Lays.n264 Tryz.prog Tryz.lays264_ren := {
 mixed := by kernel_rfl
 f264 := Tryz.func180.trans (congrArg some ap14)
 t46 := Tryz.underlying238
 a46 := Tryz.isAgg238
 z46 := Tryz.sizeOf238
 v46 := Tryz.zeroValue238
 t53 := Tryz.underlying58
 a53 := Tryz.isAgg58
 z53 := Tryz.sizeOf58
 v53 := Tryz.zeroValue58 }
theorem i0H (x y c : Nat) (hc : c ≤ 1) (w : World) : (callFunc 179 #[.int .u64 x, .int .u64 y, .int .u64 c]).run Tryz.prog w =
      .ok (.value (.tuple #[.int .u64 (((x + y + c) % 18446744073709551616 : Nat) : Int), .int .u64 (((x + y + c) / 18446744073709551616 : Nat) : Int)])) w := by
  rw [run_callFunc_extern Tryz.func179 ap14 ap14 ap14 (e := add64Entry) ap14, run_add64 x y c ap16 ap16 ap16 ap16]
  simp only [Result.andThen]
  congr 5 <;> omega
theorem e0n (x y s c : Nat) (h1 : (x + y) % 18446744073709551616 = s) (h2 : (x + y) / 18446744073709551616 = c) (w : World) : (callFunc 179 #[.int .u64 x, .int .u64 y, .int .u64 0]).run Tryz.prog w =
      .ok (.value (.tuple #[.int .u64 (s : Int), .int .u64 (c : Int)])) w := by
  have h := i0H x y 0 ap16 w
  rw [Nat.add_zero, h1, h2] at h
  exact h
theorem g0n (x y b : Nat) (hb : b ≤ 1) (w : World) : (callFunc 175 #[.int .u64 x, .int .u64 y, .int .u64 b]).run Tryz.prog w =
      .ok (.value (.tuple #[.int .u64 (((x + 18446744073709551616 - y - b) % 18446744073709551616 : Nat) : Int), .int .u64 ((if x < y + b then 1 else 0 : Nat) : Int)])) w := by
  rw [run_callFunc_extern Tryz.func175 ap14 ap14 ap14 (e := sub64Entry) ap14, run_sub64 x y b hb]
  rfl
theorem m0G (x y : Nat) (hx : x < 18446744073709551616) (hy : y < 18446744073709551616) (w : World) :
  Calls Tryz.prog 180 #[.int .u64 x, .int .u64 y] w fun e w' => e = .returned (.tuple #[.int .u64 ((x * y / 18446744073709551616 : Nat) : Int), .int .u64 ((x * y % 18446744073709551616 : Nat) : Int)]) ∧ w = w' :=
 (Any.bits_Mul64 Tryz.lays264 x y hx hy w).mono fun _ _ h => ⟨h.1, h.2.symm⟩
theorem c0L : (Tryz.prog.info? 58).map (·.size) = some 1 := by kernel_rfl
end Go.Proofs.YtemcankmggmgoaaGreat
namespace Mvp
def cP : Nat := 4294968273
def cQ : Nat := 4624529908474429119 + 4994812053365940164 * B64 + B64 ^ 2
def pP : Nat := B64 ^ 4 - cP
def pQ : Nat := B64 ^ 4 - cQ
theorem D0O : cP < B64 ^ 4 := by decide
theorem D0P : cQ < B64 ^ 4 := by decide
theorem E0P : B64 ^ 4 - pP = cP := by decide
theorem E0Q : B64 ^ 4 - pQ = cQ := by decide
end Mvp
namespace Mvp
structure Md where
 M : Nat
 neg : Nat
 Ri : Nat
structure Md.Ok (m : Md) : Prop where
 one : 1 < m.M
 lt : m.M < B64 ^ 4
 negLt : m.neg < 18446744073709551616
 neg : (m.M * m.neg + 1) % 18446744073709551616 = 0
 inv : B64 ^ 4 * m.Ri % m.M = 1
def mP : Md := ⟨pP, 15580212934572586289, 91248989341183975618893650062416139444822672217621753343178995607984094583082⟩
def mQ : Md := ⟨pQ, 5408259542528602431, 98562742561918706241446412617699626731164144128788972284189895985653995782166⟩
theorem b0Z : mP.Ok := ⟨by decide, by decide, by decide, by decide, by decide⟩
theorem m0H : mQ.Ok := ⟨by decide, by decide, by decide, by decide, by decide⟩
theorem o0q (T b M x V mm : Nat) (hb : b < M) (hM : M < B64 ^ 4) (hT : T < b + M) (hx : x < 18446744073709551616) (hV : T + x * b = V) (hm : mm < 18446744073709551616) :
  T < B64 ^ 5 ∧ T + x * b < B64 ^ 6 ∧ V < B64 ^ 6 ∧ V + mm * M < B64 ^ 6 := by
 have h1 : x * b ≤ 18446744073709551615 * b := Nat.mul_le_mul_right _ ap16
 have h2 : mm * M ≤ 18446744073709551615 * M := Nat.mul_le_mul_right _ ap16
 have e4 : B64 ^ 5 = 18446744073709551616 * B64 ^ 4 := by rw [Nat.pow_succ, Nat.mul_comm]
 have e5 : B64 ^ 6 = 18446744073709551616 * B64 ^ 5 := by rw [Nat.pow_succ, Nat.mul_comm]
 generalize B64 ^ 6 = R6 at *
 generalize B64 ^ 5 = R5 at *
 generalize B64 ^ 4 = R4 at *
 omega
theorem t0e (T : Nat) (h2 : T < 2 * B64 ^ 4) (h : ¬ T < B64 ^ 4) : lw T 4 = 1 := by
 have h0 := c0e 4
 have hd : T / B64 ^ 4 = 1 := by
  generalize B64 ^ 4 = R at *
  have h1 : T - R < R := by omega
  rw [show T = (T - R) + R by omega, Nat.add_div_right _ h0, Nat.div_eq_of_lt h1]
 unfold lw
 rw [hd]; rfl
theorem j0U (T M : Nat) (hM : M < B64 ^ 4) (hT : T < 2 * M) :
  (T < M → lw T 4 = 0 ∧ b0k T M 4 = 1 ∧ Go.Mv.cw 4 (T % M) = Go.Mv.cw 4 T) ∧
  (¬ T < M → Go.Mv.cw 4 (T % M) = Go.Mv.cw 4 (T + B64 ^ 4 - M) ∧ (T < B64 ^ 4 → lw T 4 = 0 ∧ b0k T M 4 = 0)) := by
 constructor
 ·intro h
  exact ⟨d0E T 4 4 (Nat.lt_trans h hM) (Nat.le_refl _), by rw [f0s _ _ _ (Nat.lt_trans h hM) hM, if_pos h], by rw [Nat.mod_eq_of_lt h]⟩
 ·intro h
  refine ⟨?_, fun h4 => ⟨d0E T 4 4 h4 (Nat.le_refl _), by rw [f0s _ _ _ h4 hM, if_neg h]⟩⟩
  rw [r0n T M hT, if_neg h, ← Go.Mv.cw_mod 4 (T + B64 ^ 4 - M), show T + B64 ^ 4 - M = (T - M) + B64 ^ 4 by omega, Nat.add_mod_right, Go.Mv.cw_mod]
theorem r0o (M neg b a : Nat) : a0J M neg b a 0 = 0 := rfl
theorem r0p (M neg b a k : Nat) : a0J M neg b a (k + 1) = (a0J M neg b a k + lw a k * b + ((a0J M neg b a k + lw a k * b) % 18446744073709551616 * neg % 18446744073709551616) * M) / 18446744073709551616 := rfl
end Mvp
namespace Go.Mv
open Go.RowKit Mvp
def mdL (m : Md) : List Value := cw 4 m.M ++ ([.int .u64 (m.neg : Int)] ++ (cw 4 (B64 ^ 4 % m.M) ++ cw 4 (B64 ^ 4 * B64 ^ 4 % m.M)))
theorem l0T (m : Md) : ((mdL m).drop 0).take (cw 4 m.M).length = cw 4 m.M := by simp [mdL]
theorem B0Z (m : Md) : ((mdL m).drop 5).take (cw 4 (B64 ^ 4 % m.M)).length = cw 4 (B64 ^ 4 % m.M) := by
 have h : (cw 4 m.M ++ [Value.int .u64 (m.neg : Int)]).length = 5 := by rw [List.length_append, a0i]; rfl
 rw [mdL, ← List.append_assoc, List.drop_append_of_le_length ap16, List.drop_of_length_le ap16, List.nil_append]
 simp
theorem C0a (m : Md) : ((mdL m).drop 9).take (cw 4 (B64 ^ 4 * B64 ^ 4 % m.M)).length = cw 4 (B64 ^ 4 * B64 ^ 4 % m.M) := by
 have h : (cw 4 m.M ++ ([Value.int .u64 (m.neg : Int)] ++ cw 4 (B64 ^ 4 % m.M))).length = 9 := by rw [List.length_append, List.length_append, a0i, a0i]; rfl
 have e : mdL m = (cw 4 m.M ++ ([Value.int .u64 (m.neg : Int)] ++ cw 4 (B64 ^ 4 % m.M))) ++ cw 4 (B64 ^ 4 * B64 ^ 4 % m.M) := by simp [mdL]
 rw [e, List.drop_append_of_le_length ap16, List.drop_of_length_le ap16, List.nil_append, List.take_of_length_le (Nat.le_refl _)]
theorem C0b (m : Md) : (mdL m)[4]? = some (.int .u64 (m.neg : Int)) := by
 rw [mdL, List.getElem?_append_right (by rw [a0i]; exact Nat.le_refl _), a0i]; rfl
theorem C0c (V : Nat) (h : V < B64 ^ 6) : (splice (cw 6 V) 0 (((cw 6 V).drop 1).take 5)).set 5 (.int .u64 0) = cw 6 (V / 18446744073709551616) := by
 have e : V / 18446744073709551616 = V / B64 ^ 1 := by rw [Nat.pow_one]
 have h6 : lw V 6 = 0 := d0E V 6 6 h (Nat.le_refl _)
 have hw := fun i => c0B V 1 i
 rw [e]
 show _ = [Value.int .u64 (lw (V / B64 ^ 1) 0 : Nat), Value.int .u64 (lw (V / B64 ^ 1) 1 : Nat), Value.int .u64 (lw (V / B64 ^ 1) 2 : Nat), Value.int .u64 (lw (V / B64 ^ 1) 3 : Nat), Value.int .u64 (lw (V / B64 ^ 1) 4 : Nat), Value.int .u64 (lw (V / B64 ^ 1) 5 : Nat)]
 rw [hw 0, hw 1, hw 2, hw 3, hw 4, hw 5, show 1 + 5 = 6 from rfl, h6]
 rfl
theorem z0Y (V : Nat) : ((cw 6 V).drop 0).take (cw 4 V).length = cw 4 V := rfl
end Go.Mv
namespace Go.Proofs.YtemcankmggmgoaaGreat
section
open Go.RowKit Go.Mv Mvp
def z0Z : List UInt8 := [102, 105, 114, 115, 116]
def i0I : List UInt8 := [99, 104, 97, 108, 108, 101, 110, 103, 101]
def C0d : List UInt8 := [115, 97, 109, 101]
def C0e : List UInt8 := [98, 97, 115, 101]
def kAS : List UInt8 := [97]
def kBS : List UInt8 := [98]
def w0r : List UInt8 := [115, 101, 99, 111, 110, 100]
def a0A : List UInt8 := [110, 111, 110, 99, 101, 32, 115, 97, 109, 101]
def c0R (st : List UInt8) : List (List UInt8 × List UInt8) → List UInt8
 | [] => st
 | x :: r => c0R (c0s B0U [st, x.1, x.2]) r
def E0C (label : List UInt8) : List UInt8 := c0s D0D [label]
end
section
open Go.RowKit Go.Mv Mvp
attribute [local irreducible] a0C lw mix cw b0k b0y b0j
theorem _root_.ap10 {p : Prop} (h : p := by rw [a0i]; kernel_rfl) : p := h
theorem _root_.ap12 {p : Prop} (h : p := by rw [g0Y]; rfl) : p := h
theorem d0F (a b : Nat) (w : World) (hb : b < B64 ^ 4) :
  Calls Tryz.prog 187 #[i4 a, i4 b] w fun e w' => e = .returned (.tuple #[i4 (a + B64 ^ 4 - b), .int .u64 (b0k a b 4 : Nat)]) ∧ Fr Nob w w' := by
 have HB := qH hb; clear hb
 have st0 := St.start Nob w
 go_enter Tryz.func187, Tryz.ntmps187
 go_wp2_with (with_reducible refine wSk 2 ?_)
 refine a0l st0 rfl rfl rfl (cw 4 a) rfl ?_
 intro g2 w1 st1
 clear st0
 go_wp2_with (with_reducible refine wSk 3 ?_)
 refine a0l st1 rfl rfl rfl (cw 4 b) rfl ?_
 intro g3 w2 st2
 clear st1
 go_wp2_with (with_reducible refine wSk 4 ?_)
 refine a0a st2 rfl rfl (z := zAd) ap14 (cw 4 0) ap12 ?_
 intro g4 w3 st3
 clear st2
 go_wp2
 go_loopw [5, 7] (fun c i wr => ∃ k : Nat, k ≤ 4 ∧ i = .int .i64 (k : Int) ∧ c = .int .u64 (b0k a b k : Nat) ∧ St Nob w wr [(g2, cw 4 a, 111), (g3, cw 4 b, 111), (g4, cw 4 (mix (a + B64 ^ 4 - b) 0 k), 111)]) (fun _ i _ => 4 - (intOf i).toNat)
 case atStart => exact ⟨0, by omega, rfl, by rw [g0k]; rfl, by rw [d0U]; exact st3⟩
 case round =>
  obtain ⟨k, hk, rfl, rfl, st⟩ := hrel
  clear st3
  by_cases hlt : k < 4
  ·have hltI : (k : Int) < 4 := by omega
   have c1 := (st.at 0 rfl).cell (a0G 4 a k hlt)
   have c2 := (st.at 1 rfl).cell (a0G 4 b k hlt)
   obtain ⟨v3, c3, f3⟩ := (st.at 2 rfl).ready (i := k) (by rw [a0i]; exact hlt)
   have e1 := fun wx => g0n (lw a k) (lw b k) (b0k a b k) (k0X a b k) wx
   go_wp2
   go_region
   all_goals
    go_wp2
    go_roundw
    case rel =>
     have h1 := st.set 2 rfl k (.int .u64 (lw (a + B64 ^ 4 - b) k : Nat))
     rw [d0V _ _ _ _ hlt, p0B 4 a b k HB.out hlt] at h1
     exact ⟨k + 1, by omega, by go_num, by rw [g0l], h1.drew⟩
    case measure => simp [intOf]; omega
  ·have hge : ¬ ((k : Int) < 4) := by omega
   have hk4 : k = 4 := by omega
   have HK := qH hk4; clear hk4
   go_wp2_with (with_reducible refine wSk 24 ?_)
   refine a0k st 2 rfl rfl rfl Tryz.underlying111 rfl ap10 ?_
   go_wp2_with (with_reducible refine wSn ?_)
   refine a0b st 2 rfl rfl rfl rfl rfl (by simp only [a0i]) ap10 (a0f _ _) ?_
   intro w5 st5
   clear st
   have hd5 := st5.at 2 rfl
   rw [HK.out, i0B _ _ _ (by first | decide | assumption | exact HA.out), cw_mod] at hd5
   have hf5 := st5.fr
   clear st5
   go_wp2
   exact bodyPost_ret (b0c rfl rfl hd5 Tryz.underlying111 ap10 rfl) rfl ⟨by rw [HK.out]; rfl, hf5⟩
theorem g0o (a b : Nat) (w : World) :
  Calls Tryz.prog 196 #[i4 a, i4 b] w fun e w' => e = .returned (.tuple #[i4 (a + b), .int .u64 (b0y a b 4 : Nat)]) ∧ Fr Nob w w' := by
 have st0 := St.start Nob w
 go_enter Tryz.func196, Tryz.ntmps196
 go_wp2_with (with_reducible refine wSk 2 ?_)
 refine a0l st0 rfl rfl rfl (cw 4 a) rfl ?_
 intro g2 w1 st1
 clear st0
 go_wp2_with (with_reducible refine wSk 3 ?_)
 refine a0l st1 rfl rfl rfl (cw 4 b) rfl ?_
 intro g3 w2 st2
 clear st1
 go_wp2_with (with_reducible refine wSk 4 ?_)
 refine a0a st2 rfl rfl (z := zAd) ap14 (cw 4 0) ap12 ?_
 intro g4 w3 st3
 clear st2
 go_wp2
 go_loopw [5, 7] (fun c i wr => ∃ k : Nat, k ≤ 4 ∧ i = .int .i64 (k : Int) ∧ c = .int .u64 (b0y a b k : Nat) ∧ St Nob w wr [(g2, cw 4 a, 111), (g3, cw 4 b, 111), (g4, cw 4 (mix (a + b) 0 k), 111)]) (fun _ i _ => 4 - (intOf i).toNat)
 case atStart => exact ⟨0, by omega, rfl, by rw [m0C]; rfl, by rw [d0U]; exact st3⟩
 case round =>
  obtain ⟨k, hk, rfl, rfl, st⟩ := hrel
  clear st3
  by_cases hlt : k < 4
  ·have hltI : (k : Int) < 4 := by omega
   have c1 := (st.at 0 rfl).cell (a0G 4 a k hlt)
   have c2 := (st.at 1 rfl).cell (a0G 4 b k hlt)
   obtain ⟨v3, c3, f3⟩ := (st.at 2 rfl).ready (i := k) (by rw [a0i]; exact hlt)
   have e1 := fun wx => i0H (lw a k) (lw b k) (b0y a b k) (s0X a b k) wx
   go_wp2
   go_region
   all_goals
    go_wp2
    go_roundw
    case rel =>
     have h1 := st.set 2 rfl k (.int .u64 (lw (a + b) k : Nat))
     rw [d0V _ _ _ _ hlt, y0F a b k] at h1
     exact ⟨k + 1, by omega, by go_num, by rw [m0D]; go_num, h1.drew⟩
    case measure => simp [intOf]; omega
  ·have hge : ¬ ((k : Int) < 4) := by omega
   have hk4 : k = 4 := by omega
   have HK := qH hk4; clear hk4
   go_wp2_with (with_reducible refine wSk 24 ?_)
   refine a0k st 2 rfl rfl rfl Tryz.underlying111 rfl ap10 ?_
   go_wp2_with (with_reducible refine wSn ?_)
   refine a0b st 2 rfl rfl rfl rfl rfl (by simp only [a0i]) ap10 (a0f _ _) ?_
   intro w5 st5
   clear st
   have hd5 := st5.at 2 rfl
   rw [HK.out, i0B _ _ _ (by first | decide | assumption | exact HA.out), cw_mod] at hd5
   have hf5 := st5.fr
   clear st5
   go_wp2
   exact bodyPost_ret (b0c rfl rfl hd5 Tryz.underlying111 ap10 rfl) rfl ⟨by rw [HK.out]; rfl, hf5⟩
theorem h0O (a b : Nat) (w : World) (hb : b < B64 ^ 4) :
  Calls Tryz.prog 166 #[i4 a, i4 b] w fun e w' => e = .returned (.tuple #[i4 (a + B64 ^ 4 - b), .int .u64 (b0k a b 4 : Nat)]) ∧ Fr Nob w w' := by
 have HB := qH hb; clear hb
 have st0 := St.start Nob w
 go_enter Tryz.func166, Tryz.ntmps166
 go_wp2_with (with_reducible refine wSk 2 ?_)
 refine a0l st0 rfl rfl rfl (cw 4 a) rfl ?_
 intro g2 w1 st1
 clear st0
 go_wp2_with (with_reducible refine wSk 3 ?_)
 refine a0l st1 rfl rfl rfl (cw 4 b) rfl ?_
 intro g3 w2 st2
 clear st1
 go_wp2_with (with_reducible refine wSk 4 ?_)
 refine a0a st2 rfl rfl (z := zAd) ap14 (cw 4 0) ap12 ?_
 intro g4 w3 st3
 clear st2
 go_wp2_with (with_reducible refine wSk 6 ?_)
 refine a0a st3 rfl rfl (z := zAd) ap14 (cw 4 0) ap12 ?_
 intro g6 w4 st4
 clear st3
 go_wp2
 go_loopw [7, 8] (fun c i wr => ∃ k : Nat, k ≤ 4 ∧ i = .int .i64 (k : Int) ∧ c = .int .u64 (b0k a b k : Nat) ∧ St Nob w wr [(g2, cw 4 a, 60), (g3, cw 4 b, 60), (g4, cw 4 0, 60), (g6, cw 4 (mix (a + B64 ^ 4 - b) 0 k), 60)]) (fun _ i _ => 4 - (intOf i).toNat)
 case atStart => exact ⟨0, by omega, rfl, by rw [g0k]; rfl, by rw [d0U]; exact st4⟩
 case round =>
  obtain ⟨k, hk, rfl, rfl, st⟩ := hrel
  clear st4
  by_cases hlt : k < 4
  ·have hltI : (k : Int) < 4 := by omega
   have c1 := (st.at 0 rfl).cell (a0G 4 a k hlt)
   have c2 := (st.at 1 rfl).cell (a0G 4 b k hlt)
   obtain ⟨v3, c3, f3⟩ := (st.at 3 rfl).ready (i := k) (by rw [a0i]; exact hlt)
   have e1 := fun wx => g0n (lw a k) (lw b k) (b0k a b k) (k0X a b k) wx
   go_wp2
   go_region
   all_goals
    go_wp2
    go_roundw
    case rel =>
     have h1 := st.set 3 rfl k (.int .u64 (lw (a + B64 ^ 4 - b) k : Nat))
     rw [d0V _ _ _ _ hlt, p0B 4 a b k HB.out hlt] at h1
     exact ⟨k + 1, by omega, by go_num, by rw [g0l], h1.drew⟩
    case measure => simp [intOf]; omega
  ·have hge : ¬ ((k : Int) < 4) := by omega
   have hk4 : k = 4 := by omega
   have HK := qH hk4; clear hk4
   go_wp2_with (with_reducible refine wSk 26 ?_)
   refine a0k st 3 rfl rfl rfl Tryz.underlying60 rfl ap10 ?_
   go_wp2_with (with_reducible refine wSn ?_)
   refine a0b st 2 rfl rfl rfl rfl rfl (by simp only [a0i]) ap10 (a0f _ _) ?_
   intro w5 st5
   clear st
   have hd5 := st5.at 2 rfl
   rw [HK.out, i0B _ _ _ (by first | decide | assumption | exact HA.out), cw_mod] at hd5
   have hf5 := st5.fr
   clear st5
   go_wp2
   exact bodyPost_ret (b0c rfl rfl hd5 Tryz.underlying60 ap10 rfl) rfl ⟨by rw [HK.out]; rfl, hf5⟩
theorem m0I (a b : Nat) (w : World) :
  Calls Tryz.prog 130 #[i8 a, i8 b] w fun e w' => e = .returned (i8 (a + b)) ∧ Fr Nob w w' := by
 have st0 := St.start Nob w
 go_enter Tryz.func130, Tryz.ntmps130
 go_wp2_with (with_reducible refine wSk 2 ?_)
 refine a0l st0 rfl rfl rfl (cw 8 a) rfl ?_
 intro g2 w1 st1
 clear st0
 go_wp2_with (with_reducible refine wSk 3 ?_)
 refine a0l st1 rfl rfl rfl (cw 8 b) rfl ?_
 intro g3 w2 st2
 clear st1
 go_wp2_with (with_reducible refine wSk 4 ?_)
 refine a0a st2 rfl rfl (z := .agg #[.int .u64 0, .int .u64 0, .int .u64 0, .int .u64 0, .int .u64 0, .int .u64 0, .int .u64 0, .int .u64 0]) ap14 (cw 8 0) ap12 ?_
 intro g4 w3 st3
 clear st2
 go_wp2
 go_loopw [5, 6] (fun c i wr => ∃ k : Nat, k ≤ 8 ∧ i = .int .i64 (k : Int) ∧ c = .int .u64 (b0y a b k : Nat) ∧ St Nob w wr [(g2, cw 8 (mix (a + b) a k), 171), (g3, cw 8 b, 171), (g4, cw 8 0, 171)]) (fun _ i _ => 8 - (intOf i).toNat)
 case atStart => exact ⟨0, by omega, rfl, by rw [m0C]; rfl, by rw [d0U]; exact st3⟩
 case round =>
  obtain ⟨k, hk, rfl, rfl, st⟩ := hrel
  clear st3
  by_cases hlt : k < 8
  ·have hltI : (k : Int) < 8 := by omega
   have c1 : wr.cell? ⟨g2, k, none⟩ = some (.int .u64 (lw a k : Nat)) := by have h := (st.at 0 rfl).cell (a0G 8 (mix (a + b) a k) k hlt); rwa [h0u, if_neg (Nat.lt_irrefl k)] at h
   have c2 := (st.at 1 rfl).cell (a0G 8 b k hlt)
   have f3 := (st.at 0 rfl).free k (by rw [a0i]; exact hlt)
   have e1 := fun wx => i0H (lw a k) (lw b k) (b0y a b k) (s0X a b k) wx
   go_wp2
   go_region
   all_goals
    go_wp2
    go_roundw
    case rel =>
     have h1 := st.set 0 rfl k (.int .u64 (lw (a + b) k : Nat))
     rw [d0V _ _ _ _ hlt, y0F a b k] at h1
     exact ⟨k + 1, by omega, by go_num, by rw [m0D]; go_num, h1.drew⟩
    case measure => simp [intOf]; omega
  ·have hge : ¬ ((k : Int) < 8) := by omega
   have hk4 : k = 8 := by omega
   have HK := qH hk4; clear hk4
   go_wp2_with (with_reducible refine wSk 24 ?_)
   refine a0k st 0 rfl rfl rfl Tryz.underlying171 rfl ap10 ?_
   go_wp2_with (with_reducible refine wSn ?_)
   refine a0b st 2 rfl rfl rfl rfl rfl (by simp only [a0i]) ap10 (a0f _ _) ?_
   intro w5 st5
   clear st
   have hd5 := st5.at 2 rfl
   rw [HK.out, h0N] at hd5
   have hf5 := st5.fr
   clear st5
   go_wp2
   exact bodyPost_ret (a0v rfl rfl hd5 Tryz.underlying171 ap10) rfl ⟨rfl, hf5⟩
end
section
open Go.RowKit Go.Mv Mvp
attribute [local irreducible] a0C lw mix cw b0k b0y b0j
theorem p0H (gt V x n top : Nat) (T : TypeId) (w : World) (ht : Has w gt (cw 6 V) T) (hx : x < 18446744073709551616) (_ : top < 18446744073709551616) :
  Calls Tryz.prog 189 #[.pointer (some ⟨gt, 0, none⟩), .int .u64 (x : Int), i4 n, .int .u64 (top : Int)] w fun e w' =>
   e = .returned (.tuple #[.int .u64 (((top + b0j V x n 4) % 18446744073709551616 : Nat) : Int), .int .u64 (((top + b0j V x n 4) / 18446744073709551616 : Nat) : Int)]) ∧
   Has w' gt (cw 6 (mix (V + x * n) V 4)) T ∧ Fr (One gt) w w' := by
 have st0 := St.one ht
 clear ht
 have HX := qH hx
 go_enter Tryz.func189, Tryz.ntmps189
 go_wp2_with (with_reducible refine wSk 6 ?_)
 refine a0l st0 rfl rfl rfl (cw 4 n) rfl ?_
 intro gn w1 st1
 clear st0
 go_wp2_with (with_reducible refine wSk 16 ?_)
 refine a0k st1 1 rfl rfl rfl Tryz.underlying111 rfl ap10 ?_
 go_wp2
 go_loopw [10, 17] (fun c i wr => ∃ k : Nat, k ≤ 4 ∧ i = .int .i64 (k : Int) ∧ c = .int .u64 (b0j V x n k : Nat) ∧ St (One gt) w wr [(gt, cw 6 (mix (V + x * n) V k), T)]) (fun _ i _ => 4 - (intOf i).toNat)
 case atStart => exact ⟨0, by omega, rfl, by rw [m0E]; rfl, by rw [d0U]; exact st1.less ap17⟩
 case round =>
  obtain ⟨k, hk, rfl, rfl, st⟩ := hrel
  clear st1
  have hcm := i0C V x n k HX.out
  by_cases hlt : k < 4
  ·have hltI : (k : Int) < 4 := by omega
   have e0 := fun wx => e0Z (P := Tryz.prog) Tryz.underlying111 Tryz.underlying58 c0L n k hlt .i64 wx
   have hp := i0E HX.out (c0Q n k)
   have hms := g0m V x n k
   have hlm := i0D V x n k
   have hms2 := i0C V x n (k + 1) HX.out
   obtain ⟨hi, lo, lo2, c1, t2, c2, r1, r2, r3, r4, r5, r6, r7, r8, r9⟩ := j0S (x * lw n k) (lw V k) (b0j V x n k) hp hcm
   rw [← r8] at hlm
   rw [← r9] at hms
   rw [hms] at hms2
   have hmul := fun wx => m0G x (lw n k) HX.out (c0Q n k) wx
   rw [r1, r2] at hmul
   have e2 := fun wx => e0n lo (b0j V x n k) lo2 c1 r3 r4 wx
   have e3 := fun wx => e0n (lw V k) lo2 t2 c2 r6 r7 wx
   obtain ⟨v3, c3, f3⟩ := (st.at 0 rfl).ready (i := k) (by rw [a0i]; omega)
   have c1' : wr.cell? ⟨gt, k, none⟩ = some (.int .u64 (lw V k : Nat)) := by have h := (st.at 0 rfl).cell (a0G 6 (mix (V + x * n) V k) k ap16); rwa [h0u, if_neg (Nat.lt_irrefl k)] at h
   clear c3 hp r1 r2 r3 r4 r6 r7 r8 r9
   have HMUL := qH hmul; clear hmul
   have HMS := qH hms; clear hms
   have HLM := qH hlm; clear hlm
   go_wp2_with fail
   refine (HMUL.out _).mono ?_
   rintro e' w' ⟨rfl, rfl⟩
   go_wp2_with fail
   go_region
   all_goals
    go_wp2
    go_roundw
    case rel =>
     have h1 := st.set 0 rfl k (.int .u64 (lw (V + x * n) k : Nat))
     rw [d0V _ _ _ _ ap16, HLM.out] at h1
     exact ⟨k + 1, by omega, by go_num, by rw [HMS.out]; go_num, h1.drew⟩
    case measure => simp [intOf]; omega
  ·have hge : ¬ ((k : Int) < 4) := by omega
   have hk4 : k = 4 := by omega
   have HK := qH hk4; clear hk4
   have e2 := fun wx => e0n top (b0j V x n k) _ _ rfl rfl wx
   go_wp2
   go_ret2
   rw [← HK.out]
   exact ⟨rfl, st.at 0 rfl, st.fr⟩
end
section
open Go.RowKit Go.Mv Mvp
attribute [local irreducible] a0C lw mix cw b0k b0y b0j
theorem h0v (a b : Nat) (w : World) (ha : a < B64 ^ 4) (hb : b < B64 ^ 4) :
  Calls Tryz.prog 131 #[i4 a, i4 b] w fun e w' => e = .returned (i8 (a * b)) ∧ Fr Nob w w' := by
 have HA := qH ha; clear ha
 have HB := qH hb; clear hb
 have st0 := St.start Nob w
 go_enter Tryz.func131, Tryz.ntmps131
 go_wp2_with (with_reducible refine wSk 2 ?_)
 refine a0l st0 rfl rfl rfl (cw 4 a) rfl ?_
 intro g2 w1 st1
 clear st0
 go_wp2_with (with_reducible refine wSk 3 ?_)
 refine a0l st1 rfl rfl rfl (cw 4 b) rfl ?_
 intro g3 w2 st2
 clear st1
 go_wp2_with (with_reducible refine wSk 4 ?_)
 refine a0a st2 rfl rfl (z := .agg #[.int .u64 0, .int .u64 0, .int .u64 0, .int .u64 0, .int .u64 0, .int .u64 0, .int .u64 0, .int .u64 0]) ap14 (cw 8 0) ap12 ?_
 intro g4 w3 st3
 clear st2
 go_wp2_with (with_reducible refine wSk 5 ?_)
 refine a0a st3 rfl rfl (z := .agg #[.int .u64 0, .int .u64 0, .int .u64 0, .int .u64 0, .int .u64 0, .int .u64 0, .int .u64 0, .int .u64 0]) ap14 (cw 8 0) ap12 ?_
 intro g5 w4 st4
 clear st3
 go_wp2
 go_loopw [6] (fun i wr => ∃ I : Nat, I ≤ 4 ∧ i = .int .i64 (I : Int) ∧ St Nob w wr [(g2, cw 4 a, 60), (g3, cw 4 b, 60), (g4, cw 8 0, 171), (g5, cw 8 (a % B64 ^ I * b), 171)]) (fun i _ => 4 - (intOf i).toNat)
 case atStart => exact ⟨0, by omega, rfl, by rw [w0l]; exact st4⟩
 case round =>
  obtain ⟨I, hI, rfl, st⟩ := hrel
  clear st4
  by_cases hlt : I < 4
  ·have hltI : (I : Int) < 4 := by omega
   obtain ⟨wo, rfl⟩ : ∃ wo : World, wo = wr := ⟨_, rfl⟩
   have htop := z0U a b I HB.out
   have hall := z0V a b I HB.out
   have hnew := z0W a b I
   have hst := s0Z a b I
   have hword := w0k a b I
   generalize hP : a % B64 ^ I * b = V at *
   have HP := qH hP; clear hP
   have HTOP := qH htop; clear htop
   have HALL := qH hall; clear hall
   have HST := qH hst; clear hst
   have HNEW := qH hnew; clear hnew
   have HWORD := qH hword; clear hword
   go_wp2
   go_loopw [7, 8] (fun c i wr => ∃ k : Nat, k ≤ 4 ∧ i = .int .i64 (k : Int) ∧ c = .int .u64 (b0j (V / B64 ^ I) (lw a I) b k : Nat) ∧ St Nob w wr [(g2, cw 4 a, 60), (g3, cw 4 b, 60), (g4, cw 8 0, 171), (g5, cw 8 (mix (a % B64 ^ (I + 1) * b) V (I + k)), 171)]) (fun _ i _ => 4 - (intOf i).toNat)
   case atStart =>
    exact ⟨0, by omega, rfl, by rw [m0E]; rfl, by rw [HST.out]; exact st⟩
   case round =>
    obtain ⟨k, hk, rfl, rfl, stk⟩ := hrel
    clear st
    have hx := c0Q a I
    have hcm := i0C (V / B64 ^ I) (lw a I) b k hx
    by_cases hltk : k < 4
    ·have hltK : (k : Int) < 4 := by omega
     have hp := i0E hx (c0Q b k)
     have hms := g0m (V / B64 ^ I) (lw a I) b k
     have hlm := i0D (V / B64 ^ I) (lw a I) b k
     have hms2 := i0C (V / B64 ^ I) (lw a I) b (k + 1) hx
     obtain ⟨hi, lo, lo2, c1, t2, c2, r1, r2, r3, r4, r5, r6, r7, r8, r9⟩ := j0S (lw a I * lw b k) (lw (V / B64 ^ I) k) (b0j (V / B64 ^ I) (lw a I) b k) hp hcm
     rw [← r8, ← HNEW.out] at hlm
     rw [← r9] at hms
     rw [hms] at hms2
     have hmul := fun wx => m0G (lw a I) (lw b k) hx (c0Q b k) wx
     rw [r1, r2] at hmul
     have e2 := fun wx => e0n lo (b0j (V / B64 ^ I) (lw a I) b k) lo2 c1 r3 r4 wx
     have e3 := fun wx => e0n (lw (V / B64 ^ I) k) lo2 t2 c2 r6 r7 wx
     have ca := (stk.at 0 rfl).cell (a0G 4 a I hlt)
     have cb := (stk.at 1 rfl).cell (a0G 4 b k hltk)
     obtain ⟨v3, c3, f3⟩ := (stk.at 3 rfl).ready (i := I + k) (by rw [a0i]; omega)
     have c1' : wr.cell? ⟨g5, I + k, none⟩ = some (.int .u64 (lw (V / B64 ^ I) k : Nat)) := by
      have h := (stk.at 3 rfl).cell (a0G 8 (mix (a % B64 ^ (I + 1) * b) V (I + k)) (I + k) ap16); rwa [h0u, if_neg (Nat.lt_irrefl _), HWORD.out] at h
     clear c3 hp r1 r2 r3 r4 r6 r7 r8 r9
     have HMUL := qH hmul; clear hmul
     have HMS := qH hms; clear hms
     have HLM := qH hlm; clear hlm
     go_wp2_with fail
     go_quiet ((go_at_call 180; refine Calls.quiet_of_same ((HMUL.out _).mono fun _ _ h => ⟨h.1, h.2.symm⟩)))
     go_wp2_with fail
     go_roundw
     case rel =>
      have h1 := (stk.drewN nq).set 3 rfl (I + k) (.int .u64 (lw (a % B64 ^ (I + 1) * b) (I + k) : Nat))
      rw [d0V _ _ _ _ ap16, HLM.out] at h1
      exact ⟨k + 1, by omega, by go_num, by rw [HMS.out]; go_num, h1⟩
     case measure => simp [intOf]; omega
    ·have hge : ¬ ((k : Int) < 4) := by omega
     have hk4 : k = 4 := by omega
     have HK := qH hk4; clear hk4
     obtain ⟨v3, c3, f3⟩ := (stk.at 3 rfl).ready (i := I + 4) (by rw [a0i]; omega)
     go_wp2
     go_roundw
     case rel =>
      have h1 := stk.set 3 rfl (I + 4) (.int .u64 (b0j (V / B64 ^ I) (lw a I) b k : Nat))
      have h2 : (cw 8 (mix (a % B64 ^ (I + 1) * b) V (I + k))).set (I + 4) (.int .u64 (b0j (V / B64 ^ I) (lw a I) b k : Nat)) = cw 8 (a % B64 ^ (I + 1) * b) := by
       rw [HK.out, ← HTOP.out, d0V _ _ _ _ ap16, HALL.out]
      rw [h2] at h1
      exact ⟨I + 1, by omega, by go_num, h1⟩
     case measure => simp [intOf]; omega
  ·have hge : ¬ ((I : Int) < 4) := by omega
   have hk4 : I = 4 := by omega
   have HK := qH hk4; clear hk4
   go_wp2_with (with_reducible refine wSk 60 ?_)
   refine a0k st 3 rfl rfl rfl Tryz.underlying171 rfl ap10 ?_
   go_wp2_with (with_reducible refine wSn ?_)
   refine a0b st 2 rfl rfl rfl rfl rfl (by simp only [a0i]) ap10 (a0f _ _) ?_
   intro w5 st5
   clear st
   have hd5 := st5.at 2 rfl
   rw [HK.out, Nat.mod_eq_of_lt HA.out] at hd5
   have hf5 := st5.fr
   clear st5
   go_wp2
   exact bodyPost_ret (a0v rfl rfl hd5 Tryz.underlying171 ap10) rfl ⟨rfl, hf5⟩
end
end Go.Proofs.YtemcankmggmgoaaGreat
