/- ; ; ; ; ; ; ; ; ; ; ; ; ; ; ; ; . -/
import Derived.Test.YtemcankmggmgoaaGreatMgSigmaOpensProof8
import Derived.RangeFuncNested
import Derived.RangeFuncBound
import Derived.RangeFuncCalls
import Derived.RangeFuncLeaves
import Derived.Test.YtemcankmggmgoaaGreatMgSigmaOpensProof9
import Derived.Deep.DeepCutAuto
import Derived.Test.YtemcankmggmgoaaGreatMgSigmaOpensProof7
import Derived.IntWalk
import Derived.Test.YtemcankmggmgoaaGreatMgSigmaOpensProof1
import Derived.Test.YtemcankmggmgoaaGreatMgSigmaOpensProof6
set_option maxHeartbeats 16000000
set_option maxRecDepth 1000000

namespace Go.Mv
open Go.RowKit
variable {P : Program} {ops : Array Oper} {Q : Exit → Act → World → Prop} {a : Act} {w : World} {rest : List Oper} {o : Oper} {n l : Nat}
def p0f (rest : List Oper) : Bool := rest.all fun o => match o.op with | .defer _ => false | _ => true
theorem r0V {o : Oper} (h : (match o.op with | .defer _ => false | _ => true) = true) : ∀ c, o.op ≠ .defer c := by
 intro c e
 rw [e] at h
 cases h
theorem u0V {row : String} {args : Array Value} {R : Value → World → Prop} (h : Rows P row args w R) : RowsIn (Fence.wide.inRound l) n P row args w R :=
 fun c cs _ => let ⟨v, w', r, s⟩ := h c cs; ⟨v, w', r, stepsIn_wide.2 s⟩
theorem r0W {K : Act → World → Prop} (hd : ∀ c, o.op ≠ .defer c) (h : o.wp P a w K Q) : o.wpIn (Fence.wide.inRound l) n P a w K Q := by
 refine ⟨fun _ _ => trivial, ?_⟩
 have e : o.semAt (some l) a.eval = execOp a.eval o := Oper.semAt_eq _ _ _ hd
 show o.uponIn (Fence.wide.inRound l) n P a K Q ((o.semAt (some l) a.eval).run P w)
 rw [e]
 unfold Oper.wp at h
 generalize (execOp a.eval o).run P w = r at *
 cases r with
 | ok v w' =>
  cases v with
  | value v => exact h
  | skip => exact h
  | defer d => exact h
  | enter f args => exact ⟨fun h => by simp [Fence.wide] at h, CallsIn.inRound l (callsIn_wide.2 h)⟩
  | row row args => exact ⟨fun h => by simp [Fence.wide] at h, u0V h⟩
  | _ => exact h.elim
 | halt s w' =>
  cases s <;> first | exact h | exact h.elim
theorem j0u (hQ : ¬ LetsOut Q) : ∀ (rest : List Oper) (a : Act) (w : World), p0f rest = true → wpList P ops Q rest a w → wpListIn (Fence.wide.inRound l) n P ops Q rest a w
 | [], _, _, _, h => h
 | o :: rest, a, w, hd, h => by
  unfold p0f at hd
  rw [List.all_cons, Bool.and_eq_true] at hd
  unfold wpList at h
  unfold wpListIn
  by_cases hw : Region.wanted o (yielded ops a.tmps) = true
  ·rw [if_pos hw] at h ⊢
   rcases h with h | h
   ·exact r0W (r0V hd.1) (Oper.wp_mono (fun a w k => j0u hQ rest a w hd.2 k) h)
   ·exact absurd h.2 hQ
  ·rw [if_neg hw] at h ⊢
   exact ⟨fun _ _ => trivial, j0u hQ rest _ w hd.2 h⟩
theorem j0v {id : Nat} {rest : List Oper} (hQ : ¬ LetsOut Q) (hd : p0f rest = true) (h : wpList P rest.toArray Q rest a w) : (Code.region id rest.toArray false).wpIn (Fence.wide.inRound l) n P Q a w :=
 wpIn_region_lit (j0u hQ rest a w hd h)
theorem h0B {v : Value} (hg : Region.wanted o (yielded ops a.tmps) = true) (_ : ∀ c, o.op ≠ .defer c) (hv : (execOp a.eval o).run P w = .ok (.value v) w) (h : wpListIn Fence.wide n P ops Q rest (a.put o.dst v) w) : wpListIn Fence.wide n P ops Q (o :: rest) a w := by
 unfold wpListIn
 rw [if_pos hg]
 refine ⟨fun _ _ => trivial, ?_⟩
 show o.uponIn Fence.wide n P a _ Q ((o.semAt none a.eval).run P w)
 rw [show o.semAt none a.eval = execOp a.eval o from Oper.semAt_none _ _, hv]
 exact h
theorem r0X {f : FuncId} {tmps : Array Value} {assign body : Code} {R : Ending → World → Prop} (hg : Region.wanted o (yielded ops a.tmps) = true) (hv : (execOp a.eval o).run P w = .ok (.round l f tmps assign body) w)
  (hR : RoundIn Fence.wide (n - 1) P l f tmps assign body w R) (h : ∀ e w', R e w' → ∃ b, e = .returned b ∧ wpListIn Fence.wide n P ops Q rest (a.put o.dst b) w') : wpListIn Fence.wide n P ops Q (o :: rest) a w := by
 unfold wpListIn
 rw [if_pos hg]
 refine ⟨fun _ _ => trivial, ?_⟩
 show o.uponIn Fence.wide n P a _ Q ((o.semAt none a.eval).run P w)
 rw [show o.semAt none a.eval = execOp a.eval o from Oper.semAt_none _ _, hv]
 refine ⟨fun h => by simp [Fence.wide] at h, hR.mono fun e w' k => ?_⟩
 obtain ⟨b, rfl, h2⟩ := h e w' k
 exact h2
theorem j0J (n : Nat) {id : Nat} {rest : List Oper} (h : wpListIn Fence.wide n P rest.toArray Q rest a w) : (Code.region id rest.toArray false).wp P Q a w := wpIn_wide.1 (wpIn_region_lit h)
end Go.Mv
namespace Go.Mv
open Go.RowKit
theorem Fr.grown {a b : World} (h : Fr Nob a b) : a.grownBy b none := ⟨h.os, h.tape, h.output, h.size, fun k hk _ => h.block k hk id⟩
end Go.Mv
namespace Go.Proofs.YtemcankmggmgoaaGreat
open Go.RowKit Go.Mv Mvp Mvq
theorem x0A : (Tryz.prog.info? 22).map (fun i => (i.zero, i.size, i.bytes)) = some (some (.slice none 0 0), 1, 24) := by kernel_rfl
theorem A0D (lab b : List UInt8) (i : Nat) : hN lab b i = beN (c0k (e0e ++ lab) [b, [UInt8.ofNat i]]) := by unfold hN hB; rfl
theorem A0E (s : List UInt8) (ls : List (List UInt8)) (w : World) (base : Nat) (v : Value) (h : Go.Mv.Own w base 5 1 v 32 (bs (c0k s ls))) : ∃ a c, v = .slice a 32 c ∧ RdB w a 32 (c0k s ls) := by
 obtain ⟨a, c, rfl, -, hr, -⟩ := h.form
 rw [Nat.mul_one] at hr
 exact ⟨a, c, rfl, hr⟩
theorem D0Z (lab b : List UInt8) (i : Nat) (hl : (c0k (e0e ++ lab) [b, [UInt8.ofNat i]]).length = 32) : hN lab b i < B64 ^ 4 := by
 rw [A0D]
 exact f0w _ ap15
theorem A0F (n y : Nat) (h : onC (.A (kc n) (kc y))) : (o0N n y h).L = cw 4 (elN mP n) ++ (cw 4 (elN mP y) ++ cw 4 (elN mP 1)) := rfl
attribute [local irreducible] a0C lw mix cw b0u b0B b0r a0N a0q beN b0G b0f b0C a0M a0S elN mdL a0Q rtN rtV b0J gXn gYn PT.L l0Z l0w f0J tbL tmR tmL dbN h0Y h0y j0z dig rdT b0N c0K ptL h0D e0d c0g b0v b0H toB a0x a0G b0w c0f a0K c0s b0e a0B c0k hB hN d0X c0y atY d0w o0N
theorem k0C {o : Oper} {a : Act} {p q : Operand} {T U : TypeId} {s t : ByteArray} {r : List UInt8} (ho : o.op = .binOp .add T p q U) (hp : a.eval p = .string s) (hq : a.eval q = .string t) (_hT : Tryz.prog.underlying T = some .string) (h : s.size + t.size ≤ 10000000) (hr : s ++ t = mkS r) (w : World) :
  (execOp a.eval o).run Tryz.prog w = .ok (.value (.string (mkS r))) w := by
 have h3 : (binOp .add T (.string s) (.string t)).run Tryz.prog w = .ok (.string (s ++ t)) w := by
  have h4 : s.size + t.size ≤ 9223372036854775807 := by omega
  go_simp
 have h2 := c0W (P := Tryz.prog) ho hp hq w (by go_simp) h3
 rwa [hr] at h2
theorem k0D {w : World} {v : Value} {l : List UInt8} (h : PartIs w v l) : v.cells = #[v] := by
 obtain ⟨a, n, c, rfl, -⟩ := h
 rfl
theorem r0Y {l : Nat} {vs : List Value} {nx : Next} {o : Oper} {a : Act} {w : World} {x : Operand} {xs : Array Operand} {ats : Array TypeId} (ho : o.op = .call { callee := .value x, args := xs, argTypes := ats }) (hx : a.eval x = .func (.yield l) #[] #[]) (ha : xs.toList.map a.eval = vs)
  (hy : (Instr.yield l vs.toArray).run Tryz.prog w = .ok nx w) : (execOp a.eval o).run Tryz.prog w = .ok nx w := by
 have ha2 : xs.map a.eval = vs.toArray := by rw [← ha]; simp [← Array.toList_map]
 unfold execOp
 simp only [ho, resolve, hx, ha2]
 simp [invoke, hy, go_sem]
theorem r0Z (lab : ByteArray) (hsz : lab.size ≤ 100000) (g2 g3 : Nat) (va : Value) (b : List UInt8) (w : World) (h2 : Has w g2 [.string lab] 9) (h3 : Has w g3 [va] 22) (hb : PartIs w va b) :
  SeqStopsK Fence.wide 2 Tryz.prog 191 #[.pointer (some ⟨g2, 0, none⟩), .pointer (some ⟨g3, 0, none⟩)] (fun x : PT => #[.agg x.L.toArray]) (Below w.heap.size) (fun xs => xs = c0y lab.data.toList b 256) (fun pre => ∃ k x, k < 256 ∧ d0X lab.data.toList b k = some x ∧ pre = c0y lab.data.toList b k ++ [x]) 256 w := by
 intro l J Jx W hW hJ hJx hY h0
 refine callsIn_wide.2 ?_
 show Calls Tryz.prog 191 #[.func (.yield l) #[] #[], .pointer (some ⟨g2, 0, none⟩), .pointer (some ⟨g3, 0, none⟩)] W _
 have HY := qH hY
 have HJ := qH hJ
 have HJX := qH hJx
 have H0 := qH h0
 have HW := qH (Fr.ofBelow hW)
 have H2 := qH h2
 have H3 := qH h3
 have HB := qH hb
 have HSZ := qH hsz
 clear hY hJ hJx h0 hW h2 h3 hb hsz
 go_enter Tryz.func191, Tryz.ntmps191
 go_wp2
 go_loopw [8] (fun v wr => ∃ k : Nat, k ≤ 256 ∧ v = .int .i64 (k : Int) ∧ J (c0y lab.data.toList b k) wr ∧ Fr Nob w wr ∧ W.heap.size ≤ wr.heap.size) (fun v _ => 256 - (intOf v).toNat)
 case atStart => exact ⟨0, Nat.zero_le _, rfl, by rw [k0y]; exact H0.out, HW.out, Nat.le_refl _⟩
 case round =>
  obtain ⟨k, hk, rfl, hJk, hfk, hWk⟩ := hrel
  have HJK := qH hJk
  have HFK := qH hfk
  have HWK := qH hWk
  clear hJk hfk hWk
  by_cases hlt : k < 256
  ·have hltI : (k : Int) < 256 := by omega
   have hk0 : (0 : Int) ≤ (k : Int) := by omega
   have hk8 : (k : Int) % 256 = (k : Int) := by omega
   have HLT := qH hlt
   clear hlt hk
   have hc2 := (H2.out.keep HFK.out id).cell (show [Value.string lab][0]? = _ from rfl)
   have hc3 := (H3.out.keep HFK.out id).cell (show [va][0]? = _ from rfl)
   go_wp2_with (with_reducible refine wSk 12 ?_)
   refine c0C rfl (k0C rfl rfl rfl Tryz.underlying9 (by have h : (⟨#[112, 111, 105, 110, 116, 32]⟩ : ByteArray).size = 6 := rfl; rw [h]; have := HSZ.out; omega) (u0O lab) _) ?_
   go_wp2_with (with_reducible refine wSk 16 ?_)
   refine c0i rfl rfl Tryz.underlying22 b0l [.int .u8 (k : Int)] rfl (by intro u hu; simp only [List.mem_singleton] at hu; subst hu; rfl) rfl rfl ?_
   intro wa hga hfa hza
   clear hza hc2 hc3
   have hgb : Has wa wr.heap.size (bs [UInt8.ofNat k]) 5 := by
    have e : [Value.int .u8 (k : Int)] = bs [UInt8.ofNat k] := by
     show _ = [Value.int .u8 ((UInt8.ofNat k).toNat : Int)]
     rw [UInt8.toNat_ofNat', Nat.mod_eq_of_lt HLT.out]
    rw [e] at hga
    exact hga
   have hpb : PartIs wa (.slice (some ⟨wr.heap.size, 0, none⟩) 1 1) [UInt8.ofNat k] := ⟨_, 1, 1, rfl, Nat.le_refl _, by omega, Rd.whole hgb, fun x hx => by simp only [Option.some.injEq] at hx; subst hx; exact hgb.lt⟩
   have HPB := qH hpb
   have HFA := qH hfa
   have HPA := qH (HB.out.still (HFK.out.then hfa))
   have HVC := qH (k0D HB.out)
   clear hga hfa hgb hpb
   generalize hg16 : wr.heap.size = g16 at *
   have HG16 := qH hg16
   clear hg16
   go_wp2_with (with_reducible refine wSk 17 ?_)
   refine c0i (vs := [va, .slice (some ⟨g16, 0, none⟩) 1 1]) (hgd := rfl) (ho := rfl) (hu := Tryz.underlying39) (hi0 := x0A) (hp := by rfl) (hv := fun u hu => by
    simp only [List.mem_cons, List.not_mem_nil, or_false] at hu
    rcases hu with rfl | rfl
    ·exact HVC.out
    ·rfl) (hk := by rfl) (hz := by rfl) (h := ?_)
   intro wb hgb hfb hzb
   clear hzb
   have hps : Parts wb [va, .slice (some ⟨g16, 0, none⟩) 1 1] [b, [UInt8.ofNat k]] := ⟨HPA.out.still hfb, HPB.out.still hfb, trivial⟩
   have HPS := qH (hps.at hgb)
   have HFB := qH (HFA.out.then hfb)
   clear hgb hfb hps HPA HPB HFA
   generalize wa.heap.size = g17 at *
   go_wp2_with fail
   refine (s0L (mkS (e0e ++ lab.data.toList)) _ _ [b, [UInt8.ofNat k]] _ (by rw [a0t]; have := HSZ.out; simp [e0e]; omega) ap16 HPS.out).mono ?_
   rintro e wc ⟨vt, rfl, ho, hf⟩
   rw [a0L] at ho
   obtain ⟨at_, ct, hvt, hrt⟩ := A0E _ _ _ _ _ ho
   subst hvt
   have HRT := qH hrt
   have HFC := qH (HFB.out.then hf)
   clear ho hf hrt HFB HPS
   have hnl := D0Z lab.data.toList b k (by have := HRT.out.len; exact this)
   have hni := A0D lab.data.toList b k
   generalize hn : hN lab.data.toList b k = n at *
   have HNL := qH hnl
   have HNN := qH hn
   have HNI := qH hni
   clear hnl hn hni
   go_wp2_with fail
   refine (c0p at_ 32 ct _ _ HRT.out ap14).mono ?_
   rintro e wd ⟨rfl, hf⟩
   rw [← HNI.out]
   have HFD := qH (HFC.out.then hf)
   clear hf HFC HRT
   have st0 := St.start Nob wd
   go_wp2_with (with_reducible refine wSk 5 ?_)
   refine a0a st0 rfl rfl (z := zAd) ap13 (cw 4 0) ap11 ?_
   intro g5 w1 st1
   clear st0
   go_wp2_with (with_reducible refine wSn ?_)
   refine a0b st1 0 rfl rfl rfl rfl rfl ap4 ap1 (a0g _ _) ?_
   intro w2 st2
   clear st1
   by_cases hd : n < mP.M
   ·have HD := qH (show decide (n < mP.M) = true from decide_eq_true hd)
    have HLM := qH hd
    clear hd
    go_wp2_with fail
    refine wp_region_noPanic ?_
    refine a0e st2 9 [.t 0, .c 1, .w 2, .w 3, .c 4, .w 5, .w 6, .c 7, .c 8] (.m 9 .nil) ap13 ap13 (fun _ _ _ _ _ h => h) ?_
    clear st2
    refine a0d rfl rfl rfl (fun _ => rfl) (cw 4 n) (fun wx hS => St.rangeL hS 0 rfl 0 _ dZl) Tryz.underlying111 rfl ap1 ?_
    try simp only [clL]
    refine b0h (X := Nat × Nat) (fun y => .pointer (some ⟨y.1, 0, none⟩)) (fun y w => Has w y.1 (e0b mP y.2 gXn gYn) 125 ∧ Has w y.2 (mdL mP) 187) (fun _ _ _ h k => ⟨h.1.keep k id, h.2.keep k id⟩) rfl rfl rfl Tryz.call86 (fun w hS hR => h0A _) (fun _ => rfl) fun y1 => ?_
    try simp only [clL]
    refine a0m rfl rfl apX ?_
    try simp only [clL]
    refine a0m rfl rfl apX ?_
    try simp only [clL]
    refine p0c (v := ?_) rfl rfl (fun xq wx hS hR => ?_) ?_
    rotate_left 1
    ·(have hc := (hR.2).1.cell (show (e0b mP y1.2 gXn gYn)[0]? = some (.pointer (some ⟨y1.2, 0, none⟩)) from rfl); clear hS hR; go_simp; with_reducible rfl)
    try simp only [clL]
    refine a0m rfl rfl apX ?_
    try simp only [clL]
    refine a0m rfl rfl apX ?_
    try simp only [clL]
    refine p0c (v := ?_) rfl rfl (fun xq wx hS hR => ?_) ?_
    rotate_left 1
    ·(refine f0D (hR.2).2 (x := .tmp 26) (p := 0) ?_ ?_ (cw 4 mP.M) (l0Y mP) Tryz.underlying111 rfl ?_; rfl; rfl; (rw [a0f]; kernel_rfl))
    try simp only [clL]
    refine a0c rfl rfl rfl Tryz.call145 (fun w hS hR => f0Y n mP.M _ HNL.out b0R.lt true HD.out) (fun _ => rfl) ?_
    try simp only [clL]
    refine a0u fun xq w3 st3 hR => ?_
    try dsimp only
    clear hR xq
    refine a0o rfl rfl ?_
    go_simp
    try simp only [clL]
    refine a0h ?_
    refine NoPanic.normal ?_
    rcases hr : b0J mP.M (d0w n) with _ | _
    ·have HR := qH hr
     have HC := qH (i0c HNN.out (fun h => by rw [hr] at h; exact absurd h.2 ap14))
     clear hr
     go_wp2_with fail
     refine wp_region_noPanic ?_
     refine a0e st3 13 [.o 11, .t 5, .c 0, .c 1, .w 2, .w 3, .c 4, .c 6, .c 7, .w 8, .w 9, .w 10, .j 11] (.r 12 (.m 13 .nil)) ap13 ap13 (fun _ _ _ _ _ h => h) ?_
     clear st3
     refine b0m rfl rfl rfl D0B (cw 12 0) rfl ?_
     try simp only [clL]
     refine a0d rfl rfl rfl (fun _ => rfl) (cw 4 n) (fun wx hS => St.rangeL hS 0 rfl 0 _ dZl) Tryz.underlying111 rfl ap1 ?_
     try simp only [clL]
     refine b0h (X := Nat × Nat) (fun y => .pointer (some ⟨y.1, 0, none⟩)) (fun y w => Has w y.1 (e0b mP y.2 gXn gYn) 125 ∧ Has w y.2 (mdL mP) 187) (fun _ _ _ h k => ⟨h.1.keep k id, h.2.keep k id⟩) rfl rfl rfl Tryz.call86 (fun w hS hR => h0A _) (fun _ => rfl) fun y2 => ?_
     try simp only [clL]
     refine b0h (X := Nat × Nat) (fun y => .pointer (some ⟨y.1, 0, none⟩)) (fun y w => Has w y.1 (e0b mP y.2 gXn gYn) 125 ∧ Has w y.2 (mdL mP) 187) (fun _ _ _ h k => ⟨h.1.keep k id, h.2.keep k id⟩) rfl rfl rfl Tryz.call86 (fun w hS hR => h0A _) (fun _ => rfl) fun y3 => ?_
     try simp only [clL]
     refine a0m rfl rfl apX ?_
     try simp only [clL]
     refine a0m rfl rfl apX ?_
     try simp only [clL]
     refine p0c (v := ?_) rfl rfl (fun xq wx hS hR => ?_) ?_
     rotate_left 1
     ·(have hc := (hR.2).1.cell (show (e0b mP y3.2 gXn gYn)[0]? = some (.pointer (some ⟨y3.2, 0, none⟩)) from rfl); clear hS hR; go_simp; with_reducible rfl)
     try simp only [clL]
     refine a0c rfl rfl rfl Tryz.call147 (fun w hS hR => d0l mP y3.2 _ b0R hR.2.2 n HNL.out) (fun _ => rfl) ?_
     try simp only [clL]
     refine a0c rfl rfl rfl Tryz.call184 (fun w hS hR => y0n mP y2.1 y2.2 gXn gYn _ b0R hR.1.2.1 hR.1.2.2 n false HR.out) (fun _ => rfl) ?_
     try simp only [clL]
     refine a0m rfl rfl apX ?_
     try simp only [clL]
     refine a0m rfl rfl apX ?_
     try simp only [clL]
     refine a0m rfl rfl apX ?_
     try simp only [clL]
     refine b0g List.mem_cons_self fun g6 => ?_
     simp only [upd, reduceIte]
     try simp only [Nat.reduceEqDiff, reduceIte]
     refine a0u fun xq w4 st4 hR => ?_
     try dsimp only
     clear hR xq
     refine a0y rfl rfl ?_
     refine a0i st4 1 rfl rfl rfl rfl ap4 ap6 (a0V _ _ _) ?_
     intro w5 st5
     repeat (first | simp only [List.cons_append] at st5 | simp only [List.nil_append] at st5 | simp only [List.set_cons_succ] at st5 | simp only [List.set_cons_zero] at st5)
     clear st4
     refine ⟨by first | exact st5 | exact St.less st5 ap16, ?_⟩
     try simp only [Act.put]
     refine a0o rfl rfl ?_
     go_simp
     try simp only [clL]
     refine a0h ?_
     refine NoPanic.normal ?_
     have HFE := qH (HFD.out.then st5.fr)
     clear st5
     go_wp2_with fail
     go_roundw
     case rel => exact ⟨k + 1, by have := HLT.out; omega, by go_num, by rw [g0T HC.out]; exact HJ.out _ _ _ none HJK.out HFE.out.grown (fun r e => by cases e), HFK.out.then HFE.out, Nat.le_trans (by have h := HWK.out; rw [← HG16.out] at h; exact h) HFE.out.size⟩
     case measure => have := HLT.out; simp [intOf]; omega
    ·have HR := qH hr
     have hon := D0p hr
     have HC := qH (show d0X lab.data.toList b k = some (o0N n (atY mP.M n) hon) from n0B HNN.out HLM.out hr)
     clear hr
     go_wp2_with fail
     refine wp_region_noPanic ?_
     refine a0e st3 13 [.o 11, .t 5, .c 0, .c 1, .w 2, .w 3, .c 4, .c 6, .c 7, .w 8, .w 9, .w 10, .j 11] (.r 12 (.m 13 .nil)) ap13 ap13 (fun _ _ _ _ _ h => h) ?_
     clear st3
     refine b0m rfl rfl rfl D0B (cw 12 0) rfl ?_
     try simp only [clL]
     refine a0d rfl rfl rfl (fun _ => rfl) (cw 4 n) (fun wx hS => St.rangeL hS 0 rfl 0 _ dZl) Tryz.underlying111 rfl ap1 ?_
     try simp only [clL]
     refine b0h (X := Nat × Nat) (fun y => .pointer (some ⟨y.1, 0, none⟩)) (fun y w => Has w y.1 (e0b mP y.2 gXn gYn) 125 ∧ Has w y.2 (mdL mP) 187) (fun _ _ _ h k => ⟨h.1.keep k id, h.2.keep k id⟩) rfl rfl rfl Tryz.call86 (fun w hS hR => h0A _) (fun _ => rfl) fun y2 => ?_
     try simp only [clL]
     refine b0h (X := Nat × Nat) (fun y => .pointer (some ⟨y.1, 0, none⟩)) (fun y w => Has w y.1 (e0b mP y.2 gXn gYn) 125 ∧ Has w y.2 (mdL mP) 187) (fun _ _ _ h k => ⟨h.1.keep k id, h.2.keep k id⟩) rfl rfl rfl Tryz.call86 (fun w hS hR => h0A _) (fun _ => rfl) fun y3 => ?_
     try simp only [clL]
     refine a0m rfl rfl apX ?_
     try simp only [clL]
     refine a0m rfl rfl apX ?_
     try simp only [clL]
     refine p0c (v := ?_) rfl rfl (fun xq wx hS hR => ?_) ?_
     rotate_left 1
     ·(have hc := (hR.2).1.cell (show (e0b mP y3.2 gXn gYn)[0]? = some (.pointer (some ⟨y3.2, 0, none⟩)) from rfl); clear hS hR; go_simp; with_reducible rfl)
     try simp only [clL]
     refine a0c rfl rfl rfl Tryz.call147 (fun w hS hR => d0l mP y3.2 _ b0R hR.2.2 n HNL.out) (fun _ => rfl) ?_
     try simp only [clL]
     refine a0c rfl rfl rfl Tryz.call184 (fun w hS hR => y0n mP y2.1 y2.2 gXn gYn _ b0R hR.1.2.1 hR.1.2.2 n true HR.out) (fun _ => rfl) ?_
     try simp only [clL]
     refine a0m rfl rfl apX ?_
     try simp only [clL]
     refine a0m rfl rfl apX ?_
     try simp only [clL]
     refine a0m rfl rfl apX ?_
     try simp only [clL]
     refine b0g List.mem_cons_self fun g6 => ?_
     simp only [upd, reduceIte]
     try simp only [Nat.reduceEqDiff, reduceIte]
     refine a0u fun xq w4 st4 hR => ?_
     try dsimp only
     clear hR xq
     refine a0y rfl rfl ?_
     refine a0i st4 1 rfl rfl rfl rfl ap4 ap6 (a0V _ _ _) ?_
     intro w5 st5
     repeat (first | simp only [List.cons_append] at st5 | simp only [List.nil_append] at st5 | simp only [List.set_cons_succ] at st5 | simp only [List.set_cons_zero] at st5)
     clear st4
     refine ⟨by first | exact st5 | exact St.less st5 ap16, ?_⟩
     try simp only [Act.put]
     refine a0o rfl rfl ?_
     go_simp
     try simp only [clL]
     refine a0h ?_
     refine NoPanic.normal ?_
     have HAF := qH (A0F n (atY mP.M n) hon)
     have HFE := qH (HFD.out.then st5.fr)
     obtain ⟨fnn, tmps, assign, body, hy, hR⟩ := HY.out (c0y lab.data.toList b k) (o0N n (atY mP.M n) hon) w5 (HJ.out _ _ _ none HJK.out HFE.out.grown (fun r e => by cases e)) (Nat.lt_of_le_of_lt (u0N _ _ _) HLT.out)
     rw [HAF.out] at hy
     have HHY := qH hy
     have HRR := qH hR
     have HPT := qH (st5.at 1 rfl)
     clear hy hR st5
     go_upto_region 6 with fail
     refine j0J 2 ?_
     refine h0B rfl (fun c h => by cases h) (by go_simp; with_reducible rfl) ?_
     try simp only [clL]
     refine h0B rfl (fun c h => by cases h) (by go_simp; with_reducible rfl) ?_
     try simp only [clL]
     refine h0B rfl (fun c h => by cases h) (by go_simp; with_reducible rfl) ?_
     try simp only [clL]
     refine h0B rfl (fun c h => by cases h) (f0D HPT.out rfl rfl (cw 4 (elN mP n) ++ (cw 4 (elN mP (atY mP.M n)) ++ cw 4 (elN mP 1))) dZl Tryz.underlying117 rfl ap6) ?_
     try simp only [clL]
     refine r0X rfl (r0Y (vs := [.agg (cw 4 (elN mP n) ++ (cw 4 (elN mP (atY mP.M n)) ++ cw 4 (elN mP 1))).toArray]) rfl rfl rfl HHY.out) HRR.out ?_
     rintro e W3 (⟨rfl, hJ3, hK3⟩ | ⟨rfl, hJx3⟩)
     ·refine ⟨_, rfl, ?_⟩
      try simp only [clL]
      refine h0B rfl (fun c h => by cases h) (by go_simp; with_reducible rfl) ?_
      try simp only [clL]
      refine h0B rfl (fun c h => by cases h) (by go_simp; with_reducible rfl) ?_
      try simp only [clL]
      refine wpListIn_nil ?_
      have hF3 : Fr Nob w W3 := Fr.ofBelow ((HFK.out.then HFE.out).below.trans hK3)
      have HF3 := qH hF3
      have HS3 := qH (Nat.le_trans (by have h := HWK.out; rw [← HG16.out] at h; exact h) (Nat.le_trans HFE.out.size hK3.size))
      have HJ3 := qH hJ3
      clear hJ3 hK3 hF3
      go_wp2_with fail
      go_roundw
      case rel => exact ⟨k + 1, by have := HLT.out; omega, by go_num, by rw [j0t HC.out]; exact HJ3.out, HF3.out, HS3.out⟩
      case measure => have := HLT.out; simp [intOf]; omega
     ·refine ⟨_, rfl, ?_⟩
      try simp only [clL]
      refine h0B rfl (fun c h => by cases h) (by go_simp; with_reducible rfl) ?_
      try simp only [clL]
      refine h0B rfl (fun c h => by cases h) (by go_simp; with_reducible rfl) ?_
      try simp only [clL]
      refine wpListIn_nil ?_
      have HJX3 := qH hJx3
      clear hJx3
      go_wp2_with fail
      refine bodyPost_ret (results_none rfl _ _ _) rfl ?_
      exact ⟨⟨_, rfl⟩, .inr ⟨_, ⟨k, _, HLT.out, HC.out, rfl⟩, HJX3.out⟩⟩
   ·have HD := qH (show decide (n < mP.M) = false from decide_eq_false hd)
    have HC := qH (i0c HNN.out (fun h => hd h.1))
    clear hd
    go_wp2_with fail
    refine wp_region_noPanic ?_
    refine a0e st2 9 [.t 0, .c 1, .w 2, .w 3, .c 4, .w 5, .w 6, .c 7, .c 8] (.m 9 .nil) ap13 ap13 (fun _ _ _ _ _ h => h) ?_
    clear st2
    refine a0d rfl rfl rfl (fun _ => rfl) (cw 4 n) (fun wx hS => St.rangeL hS 0 rfl 0 _ dZl) Tryz.underlying111 rfl ap1 ?_
    try simp only [clL]
    refine b0h (X := Nat × Nat) (fun y => .pointer (some ⟨y.1, 0, none⟩)) (fun y w => Has w y.1 (e0b mP y.2 gXn gYn) 125 ∧ Has w y.2 (mdL mP) 187) (fun _ _ _ h k => ⟨h.1.keep k id, h.2.keep k id⟩) rfl rfl rfl Tryz.call86 (fun w hS hR => h0A _) (fun _ => rfl) fun y1 => ?_
    try simp only [clL]
    refine a0m rfl rfl apX ?_
    try simp only [clL]
    refine a0m rfl rfl apX ?_
    try simp only [clL]
    refine p0c (v := ?_) rfl rfl (fun xq wx hS hR => ?_) ?_
    rotate_left 1
    ·(have hc := (hR.2).1.cell (show (e0b mP y1.2 gXn gYn)[0]? = some (.pointer (some ⟨y1.2, 0, none⟩)) from rfl); clear hS hR; go_simp; with_reducible rfl)
    try simp only [clL]
    refine a0m rfl rfl apX ?_
    try simp only [clL]
    refine a0m rfl rfl apX ?_
    try simp only [clL]
    refine p0c (v := ?_) rfl rfl (fun xq wx hS hR => ?_) ?_
    rotate_left 1
    ·(refine f0D (hR.2).2 (x := .tmp 26) (p := 0) ?_ ?_ (cw 4 mP.M) (l0Y mP) Tryz.underlying111 rfl ?_; rfl; rfl; (rw [a0f]; kernel_rfl))
    try simp only [clL]
    refine a0c rfl rfl rfl Tryz.call145 (fun w hS hR => f0Y n mP.M _ HNL.out b0R.lt false HD.out) (fun _ => rfl) ?_
    try simp only [clL]
    refine a0u fun xq w3 st3 hR => ?_
    try dsimp only
    clear hR xq
    refine a0o rfl rfl ?_
    go_simp
    try simp only [clL]
    refine a0h ?_
    refine NoPanic.normal ?_
    have HFE := qH (HFD.out.then st3.fr)
    clear st3
    go_wp2_with fail
    go_roundw
    case rel => exact ⟨k + 1, by have := HLT.out; omega, by go_num, by rw [g0T HC.out]; exact HJ.out _ _ _ none HJK.out HFE.out.grown (fun r e => by cases e), HFK.out.then HFE.out, Nat.le_trans (by have h := HWK.out; rw [← HG16.out] at h; exact h) HFE.out.size⟩
    case measure => have := HLT.out; simp [intOf]; omega
  ·have hge : ¬ ((k : Int) < 256) := by omega
   have hk6 : k = 256 := by omega
   subst hk6
   clear hk hlt
   go_wp2_with fail
   go_end0
   first | exact ⟨⟨_, rfl⟩, .inl HJK.out⟩ | exact ⟨⟨_, rfl⟩, .inl ⟨_, rfl, HJK.out⟩⟩
end Go.Proofs.YtemcankmggmgoaaGreat
namespace Go.Mv
open Go.RowKit
theorem d0U {β : Type} (B g : Nat) (L : List Value) (T : TypeId) : OwnFrom B (fun (_ : β) W => Has W g L T) := fun _ X Y row hs hg hr =>
 Has.keep hs (Fr.ofGrown hg) (fun e => by
  obtain ⟨_, o, ho, hc⟩ := hr g e
  obtain ⟨lo, hi, h, -⟩ := hs
  rw [h] at ho
  cases ho
  cases hc)
theorem f0G {β : Type} {B : Nat} {w : World} (hB : w.heap.size ≤ B) : OwnFrom B (fun (_ : β) W => Fr Nob w W) := fun _ X Y row hs hg hr =>
 hs.trans (Fr.ofGrown hg) (fun i hi t => by
  have h := (hr i t).1
  omega)
theorem n0G {β : Type} (B n : Nat) : OwnFrom B (fun (_ : β) (W : World) => n ≤ W.heap.size) := fun _ _ _ _ hs hg _ => Nat.le_trans hs hg.size
theorem q0A {B : Nat} {W W' : World} (h : Fr Nob W W') : KeepsFrom B W W' :=
 ⟨h.size, fun k _ _ hk _ => (h.block k (Array.getElem?_eq_some_iff.1 hk).1 id).trans hk⟩
theorem n0H {B g : Nat} {W W' : World} (h : Fr (One g) W W') (hg : g < B) : KeepsFrom B W W' :=
 ⟨h.size, fun k o hB hk _ => (h.block k (Array.getElem?_eq_some_iff.1 hk).1 (fun e => by have : k = g := e; omega)).trans hk⟩
theorem A0G (t : Array Value) (p : Tmp) (v : Value) : (#[p].zip #[v]).foldl (fun t (p, v) => t.setIfInBounds p v) t = t.setIfInBounds p v := by simp
theorem y0y {K : Act → World → Prop} {Q : Exit → Act → World → Prop} (h : ∀ a w, ¬ Q .outgrown a w) : ¬ LetsOut (Exit.then K Q) := by
 rintro ⟨a, w, k⟩
 exact h a w k
end Go.Mv
namespace Go.Proofs.YtemcankmggmgoaaGreat
section
open Go.RowKit Go.Mv Mvp Mvq
theorem D0I : (Tryz.prog.info? 117).map (·.zero) = some (some (.agg (List.replicate 12 (.int .u64 0)).toArray)) := by kernel_rfl
attribute [local irreducible] a0C lw mix cw b0u b0B b0r a0N a0q beN b0G b0f b0C a0M a0S elN mdL a0Q rtN rtV b0J gXn gYn PT.L l0Z l0w f0J tbL tmR tmL dbN h0Y h0y j0z dig rdT b0N c0K ptL h0D e0d c0g c0k hB hN d0X c0y f0K atY d0w o0N
theorem A0H (lab : ByteArray) (va : Value) (hva : va.cells = #[va]) (w : World) : Calls Tryz.prog 161 #[.string lab, va] w fun e w' => ∃ g2 g3, e = .returned (.func (.func 191) #[] #[.pointer (some ⟨g2, 0, none⟩), .pointer (some ⟨g3, 0, none⟩)]) ∧ Has w' g2 [.string lab] 9 ∧ Has w' g3 [va] 22 ∧ Fr Nob w w' := by
 have HVA := qH hva
 clear hva
 have st0 := St.start Nob w
 go_enter Tryz.func161, Tryz.ntmps161
 go_wp2_with (with_reducible refine wSk 2 ?_)
 refine a0l st0 rfl rfl rfl [.string lab] rfl ?_
 intro g2 w1 st1
 clear st0
 unfold Act.put
 go_wp2_with (with_reducible refine wSk 3 ?_)
 refine a0l st1 rfl rfl rfl [va] (by show va.cells.toList = [va]; rw [HVA.out]) ?_
 intro g3 w2 st2
 clear st1
 have H2 := qH (st2.at 0 rfl)
 have H3 := qH (st2.at 1 rfl)
 have HF := qH st2.fr
 clear st2
 go_wp2_with fail
 go_ret
 exact ⟨g2, g3, rfl, H2.out, H3.out, HF.out⟩
theorem x0B (lab : ByteArray) (hsz : lab.size ≤ 100000) (va : Value) (b : List UInt8) (w : World) (hb : PartIs w va b) :
  Calls Tryz.prog 100 #[.string lab, va] w fun e w' => e = .returned (.agg (f0K lab.data.toList b).L.toArray) ∧ Fr Nob w w' := by
 have HSZ := qH hsz
 have HB := qH hb
 have HVA := qH (k0D hb)
 clear hsz hb
 have st0 := St.start Nob w
 refine (callsIn_wide (n := 3)).1 ?_
 refine callsIn_of_wp_marks Tryz.func100 rfl trivial ?_ rfl
 simp only [Tryz.ntmps100, List.size_toArray, List.length_cons, List.length_nil, Nat.reduceAdd, Nat.reduceSub, Array.replicate_succ, Array.replicate_zero, List.push_toArray, List.append_toArray, List.nil_append, List.cons_append]
 refine wpIn_wide.2 ?_
 go_wp2_with (with_reducible refine wSk 4 ?_)
 refine a0a st0 rfl rfl D0I (cw 12 0) ap11 ?_
 intro g4 w1 st1
 clear st0
 go_wp2_with fail
 refine (A0H lab va HVA.out _).mono ?_
 rintro e w2 ⟨g2, g3, rfl, hg2, hg3, hf2⟩
 have st2 := st1.keep hf2
 have HG2 := qH hg2
 have HG3 := qH hg3
 clear st1 hf2 hg2 hg3
 have H4 := qH (st2.at 0 rfl)
 have HGE := qH ((st2.own _ List.mem_cons_self).resolve_right (fun h => h.elim))
 have HF := qH st2.fr
 have HLT := qH (st2.at 0 rfl).lt
 clear st2
 go_wp2_with fail
 refine (wpIn_wide (n := 3)).1 ?_
 refine wpIn_rangeFunc_ownH (F := Fence.wide) rfl ap15 (gf := 191) (lb := #[.pointer (some ⟨g2, 0, none⟩), .pointer (some ⟨g3, 0, none⟩)]) rfl trivial (enters_of Tryz.func191 ap13 rfl)
  (r0Z lab HSZ.out g2 g3 va b w2 HG2.out HG3.out (HB.out.still HF.out)) belowK_t (belowK_b (Nat.le_refl _)) (Below.refl _ _) (fun _ => rfl)
  (fun pre W => pre = [] ∧ (Has W g4 (cw 12 0) 117 ∧ (Fr Nob w W ∧ w2.heap.size ≤ W.heap.size)))
  (fun c pre W => c = .ret ∧ ∃ x : PT, pre = [x] ∧ (Has W g4 x.L 117 ∧ Fr Nob w W))
  (OwnFrom.and (ownFrom_pure _ _) (OwnFrom.and (d0U _ _ _ _) (OwnFrom.and (f0G HF.out.size) (n0G _ _))))
  (fun c s X Y row hs hg hr => by
   obtain ⟨h1, x, h2, h3, h4⟩ := hs
   exact ⟨h1, x, h2, d0U (β := Unit) _ g4 x.L _ () X Y row h3 hg hr, f0G (β := Unit) HF.out.size () X Y row h4 hg hr⟩)
  ⟨rfl, H4.out, HF.out, Nat.le_refl _⟩
  (fun x a' W => ∃ Bx, Has W Bx x.L 117 ∧ a' = { tmps := #[.string lab, va, undef, undef, .pointer (some ⟨g4, 0, none⟩), .pointer (some ⟨Bx, 0, none⟩), .string lab, va, .func (.func 191) #[] #[.pointer (some ⟨g2, 0, none⟩), .pointer (some ⟨g3, 0, none⟩)], .agg x.L.toArray, undef, undef, undef, undef, undef], defers := [] })
  (fun x a' s X Y row hs hg hr => by
   obtain ⟨Bx, h1, h2⟩ := hs
   exact ⟨Bx, d0U (β := Unit) _ Bx x.L _ () X Y row h1 hg hr, h2⟩)
  ?assign ?body ?done ?stop
 case assign =>
  rintro l pre x W K ⟨rfl, h4, hfr, hsz⟩ hK
  refine j0v (y0y fun _ _ h => h) rfl ?_
  have st := St.start Nob W
  have HK := qH hK
  have H4 := qH h4
  have HFR := qH hfr
  have HS := qH hsz
  clear hK h4 hfr hsz
  rw [A0G]
  simp only [List.setIfInBounds_toArray, List.set_cons_zero, List.set_cons_succ]
  refine a0a st rfl rfl D0I (cw 12 0) ap11 ?_
  intro gx W1 s1
  try simp only [clL]
  refine a0b s1 0 rfl rfl rfl rfl rfl (by rw [a0f, PT.len]) (by rw [PT.len]; kernel_rfl) (PT.one _) ?_
  intro W2 s2
  try simp only [Act.put]
  refine wpList_nil ?_
  have hf := s2.fr
  exact HK.out _ _ (q0A hf) (hf.below.mono HS.out) ⟨rfl, H4.out.keep hf id, HFR.out.then hf, Nat.le_trans HS.out hf.size⟩ ⟨gx, s2.at 0 rfl, rfl⟩
 case body =>
  rintro l pre x a' W hl hr ⟨rfl, h4, hfr, hsz⟩ ⟨Bx, hx, rfl⟩ hlt
  refine wpIn_block (wpIn_seq ?_)
  refine j0v (y0y fun _ _ h => h) rfl ?_
  have st := St.one h4
  have HX := qH hx
  have HFR := qH hfr
  clear hr hx h4 hfr
  refine h0P rfl rfl Tryz.underlying117 rfl rfl (cs := x.L) (fun i v hv => HX.out.range 0 _ dZl i v hv) (by rw [PT.len]; kernel_rfl) ?_
  try simp only [clL]
  refine a0b st 0 rfl rfl rfl rfl rfl (by rw [a0f, PT.len]) (by rw [PT.len]; kernel_rfl) (PT.one _) ?_
  intro W2 s2
  try simp only [Act.put]
  refine wpList_nil ?_
  refine wpIn_ret ?_
  exact ⟨n0H s2.fr HLT.out, rfl, x, rfl, s2.at 0 rfl, HFR.out.new s2.fr HGE.out⟩
 case done =>
  rintro D xs W hD hS ⟨rfl, h4, hfr, hsz⟩ hK
  have HS := qH (k0z hS.symm)
  have st := (St.start Nob w)
  have HFR := qH hfr
  have H4' := qH h4
  have HD := qH hK
  have HDD := qH hD
  clear hS h4 hfr hsz hK hD st
  go_wp2_with fail
  refine (h0A _).mono ?_
  rintro e w3 ⟨y, rfl, ⟨hc, hm⟩, hf⟩
  have HC := qH hc
  have HF3 := qH hf
  clear hc hm hf
  go_wp2_with (with_reducible refine wSk 14 ?_)
  refine h0P rfl rfl Tryz.underlying117 rfl rfl (cs := e0h.L) (fun i v hv => HC.out.range 5 _ k0p i v hv) (by rw [PT.len]; kernel_rfl) ?_
  have st := St.one (H4'.out.keep HF3.out id)
  go_wp2_with (with_reducible refine wSn ?_)
  refine a0b st 0 rfl rfl rfl rfl rfl (by rw [a0f, PT.len]) (by rw [PT.len]; kernel_rfl) (PT.one _) ?_
  intro w5 s5
  have HF5 := qH s5.fr
  have H5 := qH (s5.at 0 rfl)
  clear st s5
  go_wp2_with fail
  have hD3 := (q0A (B := w2.heap.size) HF3.out).same D _ HDD.out HD.out rfl
  have hD5 := (n0H HF5.out HLT.out).same D _ HDD.out hD3 rfl
  refine ⟨by simp, .inl ⟨_, _, rfl, run_takeDeferred hD5, ?_⟩⟩
  have hfin := (d0U (β := Unit) 0 g4 _ _).putObj (s := ()) (.deferred none) H5.out (Nat.zero_le _) hD5 rfl
  refine ⟨_, a0v rfl rfl hfin Tryz.underlying117 rfl (by rw [PT.len]; kernel_rfl), by rw [HS.out], ?_⟩
  exact (f0G (β := Unit) (B := w2.heap.size) HF.out.size).putObj (s := ()) (.deferred none) ((HFR.out.then HF3.out).new HF5.out HGE.out) HDD.out hD5 rfl
 case stop =>
  rintro D c pre W hD ⟨k, x', hk, hc, hp⟩ ⟨rfl, x, rfl, h4, hfr⟩ hK
  have hnil : c0y lab.data.toList b k = [] := by
   cases hq : c0y lab.data.toList b k with
   | nil => rfl
   | cons y ys =>
    rw [hq] at hp
    have := congrArg List.length hp
    simp at this
  rw [hnil] at hp
  have hxx : x = x' := by simpa using hp
  subst hxx
  have HS := qH (k0A hk hc hnil)
  refine wpIn_ret ?_
  refine ⟨by simp, .inl ⟨_, _, rfl, run_takeDeferred hK, ?_⟩⟩
  have hfin := (d0U (β := Unit) 0 g4 _ _).putObj (s := ()) (.deferred none) h4 (Nat.zero_le _) hK rfl
  refine ⟨_, a0v rfl rfl hfin Tryz.underlying117 rfl (by rw [PT.len]; kernel_rfl), by rw [HS.out], ?_⟩
  exact (f0G (β := Unit) (B := w2.heap.size) HF.out.size).putObj (s := ()) (.deferred none) hfr hD hK rfl
end
section
open Go.RowKit Go.Mv Mvp Mvq
def u0W : List UInt8 := [118, 97, 108, 117, 101]
noncomputable def hTT : PT := f0K u0W []
theorem x0C (w : World) : Calls Tryz.prog 100 #[.string ⟨#[118, 97, 108, 117, 101]⟩, .slice none 0 0] w fun e w' => e = .returned (.agg hTT.L.toArray) ∧ Fr Nob w w' :=
 x0B ⟨#[118, 97, 108, 117, 101]⟩ ap14 (.slice none 0 0) [] w ⟨none, 0, 0, rfl, Nat.le_refl _, Nat.zero_le _, RdB.nil _ _, fun x h => by cases h⟩
theorem C0x (a b : Nat × PT) : tmL [a, b] = tmR a ++ tmR b := by
 show (List.range 2).flatMap (fun k => tmR (g0U [a, b] k)) = tmR a ++ tmR b
 simp [List.range_succ, g0U]
theorem q0B (w : World) : Calls Tryz.prog 86 #[] w fun e w' => ∃ gc : Nat, e = .returned (.pointer (some ⟨gc, 0, none⟩)) ∧ Cv w' gc ∧ Fr Nob w w' :=
 (g0N w).mono fun _ _ ⟨gc, k1, _, k2, k3⟩ => ⟨gc, k1, k2, k3⟩
attribute [local irreducible] a0C lw mix cw b0u b0B b0r a0N a0q beN b0G b0f b0C a0M a0S elN mdL a0Q rtN rtV b0J gXn gYn PT.L l0Z l0w f0J tbL tmR tmL dbN h0Y h0y j0z dig rdT b0N c0K ptL h0D e0d c0g c0k hB hN d0X c0y f0K atY d0w o0N
theorem _root_.ap0 {p : Prop} (h : p := by first | (rw [a0f]; kernel_rfl) | (rw [PT.len]; kernel_rfl) | (rw [b0Y]; kernel_rfl) | (rw [c0R]; kernel_rfl) | (rw [d0O]; kernel_rfl) | (simp only [List.length_append, a0f]; kernel_rfl) | (simp only [List.length_append, a0f, PT.len, b0Y, c0R, d0O]; kernel_rfl)) : p := h
theorem _root_.ap3 {p : Prop} (h : p := by first | (simp only [a0f]; done) | (simp only [List.length_append, a0f, PT.len, b0Y, c0R, d0O]; done)) : p := h
theorem u0X (vv vr : Value) (lv lr : List UInt8) (w : World) (hpv : BPart w vv lv) (hpr : BPart w vr lr) (hv : a0Q mQ lv = false) (hr : a0Q mQ lr = false) :
  Calls Tryz.prog 33 #[vv, vr] w fun e w' => e = .returned (.tuple #[.slice none 0 0, .int .i64 3]) ∧ Fr Nob w w' := by
 obtain ⟨av, nv, cv, rfl, -, hrv⟩ := hpv
 obtain ⟨ar, nr, cr, rfl, -, hrr⟩ := hpr
 have HRv := qH hrv
 have HRr := qH hrr
 have HKv := qH hv
 have HKr := qH hr
 clear hrv hrr hv hr
 have st0 := St.start Nob w
 go_enter Tryz.func33, Tryz.ntmps33
 go_wp2_with fail
 refine (g0O HKv.out av nv cv _ (HRv.out.still st0.fr)).mono ?_
 rintro e' w1 ⟨⟨N1, rfl⟩, hf1⟩
 have st1 := st0.keep hf1
 clear st0 hf1
 go_wp2_with (with_reducible refine wSk 6 ?_)
 refine a0a st1 rfl rfl (z := zAd) ap13 (cw 4 0) ap11 ?_
 intro g6 w2 st2
 clear st1
 go_wp2_with (with_reducible refine wSn ?_)
 refine a0b st2 0 rfl rfl rfl rfl rfl ap3 ap0 (a0g _ _) ?_
 intro w3 st3
 clear st2
 go_wp2_with fail
 refine (g0O HKr.out ar nr cr _ (HRr.out.still st3.fr)).mono ?_
 rintro e' w4 ⟨⟨N2, rfl⟩, hf4⟩
 have st4 := st3.keep hf4
 clear st3 hf4
 go_wp2_with (with_reducible refine wSk 8 ?_)
 refine a0a st4 rfl rfl (z := zAd) ap13 (cw 4 0) ap11 ?_
 intro g8 w5 st5
 clear st4
 go_wp2_with (with_reducible refine wSn ?_)
 refine a0b st5 1 rfl rfl rfl rfl rfl ap3 ap0 (a0g _ _) ?_
 intro w6 st6
 clear st5
 have hfr := st6.fr
 clear st6
 go_wp2_with fail
 go_ret2
 exact ⟨rfl, hfr⟩
theorem u0Y (vv vr : Value) (lv lr : List UInt8) (w : World) (hpv : BPart w vv lv) (hpr : BPart w vr lr) (hv : a0Q mQ lv = false) (hr : a0Q mQ lr = true) :
  Calls Tryz.prog 33 #[vv, vr] w fun e w' => e = .returned (.tuple #[.slice none 0 0, .int .i64 3]) ∧ Fr Nob w w' := by
 obtain ⟨av, nv, cv, rfl, -, hrv⟩ := hpv
 obtain ⟨ar, nr, cr, rfl, -, hrr⟩ := hpr
 have HRv := qH hrv
 have HRr := qH hrr
 have HKv := qH hv
 have HKr := qH hr
 clear hrv hrr hv hr
 have st0 := St.start Nob w
 go_enter Tryz.func33, Tryz.ntmps33
 go_wp2_with fail
 refine (g0O HKv.out av nv cv _ (HRv.out.still st0.fr)).mono ?_
 rintro e' w1 ⟨⟨N1, rfl⟩, hf1⟩
 have st1 := st0.keep hf1
 clear st0 hf1
 go_wp2_with (with_reducible refine wSk 6 ?_)
 refine a0a st1 rfl rfl (z := zAd) ap13 (cw 4 0) ap11 ?_
 intro g6 w2 st2
 clear st1
 go_wp2_with (with_reducible refine wSn ?_)
 refine a0b st2 0 rfl rfl rfl rfl rfl ap3 ap0 (a0g _ _) ?_
 intro w3 st3
 clear st2
 go_wp2_with fail
 refine (e0O HKr.out ar nr cr _ (HRr.out.still st3.fr)).mono ?_
 rintro e' w4 ⟨rfl, hf4⟩
 have st4 := st3.keep hf4
 clear st3 hf4
 go_wp2_with (with_reducible refine wSk 8 ?_)
 refine a0a st4 rfl rfl (z := zAd) ap13 (cw 4 0) ap11 ?_
 intro g8 w5 st5
 clear st4
 go_wp2_with (with_reducible refine wSn ?_)
 refine a0b st5 1 rfl rfl rfl rfl rfl ap3 ap0 (a0g _ _) ?_
 intro w6 st6
 clear st5
 have hfr := st6.fr
 clear st6
 go_wp2_with fail
 go_ret2
 exact ⟨rfl, hfr⟩
theorem u0Z (vv vr : Value) (lv lr : List UInt8) (w : World) (hpv : BPart w vv lv) (hpr : BPart w vr lr) (hv : a0Q mQ lv = true) (hr : a0Q mQ lr = false) :
  Calls Tryz.prog 33 #[vv, vr] w fun e w' => e = .returned (.tuple #[.slice none 0 0, .int .i64 3]) ∧ Fr Nob w w' := by
 obtain ⟨av, nv, cv, rfl, -, hrv⟩ := hpv
 obtain ⟨ar, nr, cr, rfl, -, hrr⟩ := hpr
 have HRv := qH hrv
 have HRr := qH hrr
 have HKv := qH hv
 have HKr := qH hr
 clear hrv hrr hv hr
 have st0 := St.start Nob w
 go_enter Tryz.func33, Tryz.ntmps33
 go_wp2_with fail
 refine (e0O HKv.out av nv cv _ (HRv.out.still st0.fr)).mono ?_
 rintro e' w1 ⟨rfl, hf1⟩
 have st1 := st0.keep hf1
 clear st0 hf1
 go_wp2_with (with_reducible refine wSk 6 ?_)
 refine a0a st1 rfl rfl (z := zAd) ap13 (cw 4 0) ap11 ?_
 intro g6 w2 st2
 clear st1
 go_wp2_with (with_reducible refine wSn ?_)
 refine a0b st2 0 rfl rfl rfl rfl rfl ap3 ap0 (a0g _ _) ?_
 intro w3 st3
 clear st2
 go_wp2_with fail
 refine (g0O HKr.out ar nr cr _ (HRr.out.still st3.fr)).mono ?_
 rintro e' w4 ⟨⟨N2, rfl⟩, hf4⟩
 have st4 := st3.keep hf4
 clear st3 hf4
 go_wp2_with (with_reducible refine wSk 8 ?_)
 refine a0a st4 rfl rfl (z := zAd) ap13 (cw 4 0) ap11 ?_
 intro g8 w5 st5
 clear st4
 go_wp2_with (with_reducible refine wSn ?_)
 refine a0b st5 1 rfl rfl rfl rfl rfl ap3 ap0 (a0g _ _) ?_
 intro w6 st6
 clear st5
 have hfr := st6.fr
 clear st6
 go_wp2_with fail
 go_ret2
 exact ⟨rfl, hfr⟩
theorem n0I (vv vr : Value) (lv lr : List UInt8) (w : World) (hpv : BPart w vv lv) (hpr : BPart w vr lr) (hv : a0Q mQ lv = true) (hr : a0Q mQ lr = true) :
  Calls Tryz.prog 33 #[vv, vr] w fun e w' => ∃ v, e = .returned (.tuple #[v, .int .i64 0]) ∧ Go.Mv.Own w' w.heap.size 5 1 v 33 (bs (c0g (j0z [(beN lv, hTT), (beN lr, e0h)]).pt)) ∧ Fr Nob w w' := by
 obtain ⟨av, nv, cv, rfl, -, hrv⟩ := hpv
 obtain ⟨ar, nr, cr, rfl, -, hrr⟩ := hpr
 have HRv := qH hrv
 have HRr := qH hrr
 have HKv := qH hv
 have HKr := qH hr
 clear hrv hrr hv hr
 have st0 := St.start Nob w
 go_enter Tryz.func33, Tryz.ntmps33
 go_wp2_with fail
 refine (e0O HKv.out av nv cv _ (HRv.out.still st0.fr)).mono ?_
 rintro e' w1 ⟨rfl, hf1⟩
 have st1 := st0.keep hf1
 clear st0 hf1
 go_wp2_with (with_reducible refine wSk 6 ?_)
 refine a0a st1 rfl rfl (z := zAd) ap13 (cw 4 0) ap11 ?_
 intro g6 w2 st2
 clear st1
 go_wp2_with (with_reducible refine wSn ?_)
 refine a0b st2 0 rfl rfl rfl rfl rfl ap3 ap0 (a0g _ _) ?_
 intro w3 st3
 clear st2
 go_wp2_with fail
 refine (e0O HKr.out ar nr cr _ (HRr.out.still st3.fr)).mono ?_
 rintro e' w4 ⟨rfl, hf4⟩
 have st4 := st3.keep hf4
 clear st3 hf4
 go_wp2_with (with_reducible refine wSk 8 ?_)
 refine a0a st4 rfl rfl (z := zAd) ap13 (cw 4 0) ap11 ?_
 intro g8 w5 st5
 clear st4
 go_wp2_with (with_reducible refine wSn ?_)
 refine a0b st5 1 rfl rfl rfl rfl rfl ap3 ap0 (a0g _ _) ?_
 intro w6 st6
 clear st5
 go_wp2_with fail
 refine wp_region_noPanic ?_
 refine a0e st6 19 [.t 2, .t 7, .c 0, .c 1, .c 3, .c 4, .c 5, .w 6, .c 8, .c 9, .w 10, .w 11, .c 12, .c 13, .w 14, .o 15, .j 15] (.r 16 (.r 17 (.w 18 (.m 19 .nil)))) ap13 ap13 (fun _ _ _ _ _ h => h) ?_
 clear st6
 refine a0d rfl rfl rfl (fun _ => rfl) (cw 4 (beN lv)) (fun wx hS => St.rangeL hS 0 rfl 0 _ dZl) Tryz.underlying111 rfl ap0 ?_
 try simp only [clL]
 refine a0d rfl rfl rfl (fun _ => rfl) (cw 4 (beN lr)) (fun wx hS => St.rangeL hS 1 rfl 0 _ dZl) Tryz.underlying111 rfl ap0 ?_
 try simp only [clL]
 refine b0h (X := Nat) (fun gc => .pointer (some ⟨gc, 0, none⟩)) (fun gc w => Cv w gc) (fun _ _ _ h k => h.keep k) rfl rfl rfl Tryz.call86 (fun w hS hR => q0B _) (fun _ => rfl) fun y26 => ?_
 try simp only [clL]
 refine b0h (X := Nat) (fun gc => .pointer (some ⟨gc, 0, none⟩)) (fun gc w => Cv w gc) (fun _ _ _ h k => h.keep k) rfl rfl rfl Tryz.call86 (fun w hS hR => q0B _) (fun _ => rfl) fun y27 => ?_
 try simp only [clL]
 refine b0h (X := Nat) (fun gc => .pointer (some ⟨gc, 0, none⟩)) (fun gc w => Cv w gc) (fun _ _ _ h k => h.keep k) rfl rfl rfl Tryz.call86 (fun w hS hR => q0B _) (fun _ => rfl) fun y29 => ?_
 try simp only [clL]
 refine a0c rfl rfl rfl Tryz.call100 (fun w hS hR => x0C _) (fun _ => rfl) ?_
 try simp only [clL]
 refine a0c rfl rfl rfl Tryz.call99 (fun w hS hR => f0W hTT y29 _ hR.2) (fun _ => rfl) ?_
 try simp only [clL]
 refine a0m rfl rfl (fun _ => b0p rfl _ (q0d _ _)) ?_
 try simp only [clL]
 refine b0h (X := Nat) (fun gc => .pointer (some ⟨gc, 0, none⟩)) (fun gc w => Cv w gc) (fun _ _ _ h k => h.keep k) rfl rfl rfl Tryz.call86 (fun w hS hR => q0B _) (fun _ => rfl) fun y34 => ?_
 try simp only [clL]
 refine b0h (X := Nat × Nat) (fun y => .pointer (some ⟨y.1, 0, none⟩)) (fun y w => Has w y.1 (e0b mP y.2 gXn gYn) 125 ∧ Has w y.2 (mdL mP) 187) (fun _ _ _ h k => ⟨h.1.keep k id, h.2.keep k id⟩) rfl rfl rfl Tryz.call86 (fun w hS hR => h0A _) (fun _ => rfl) fun y35 => ?_
 try simp only [clL]
 refine a0m rfl rfl apX ?_
 try simp only [clL]
 refine a0m rfl rfl apX ?_
 try simp only [clL]
 refine p0c (v := ?_) rfl rfl (fun xq wx hS hR => ?_) ?_
 rotate_left 1
 ·(refine f0D (hR.2).1 (x := .tmp 37) (p := 5) ?_ ?_ e0h.L k0p Tryz.underlying117 rfl ?_; rfl; rfl; (rw [PT.len]; kernel_rfl))
 try simp only [clL]
 refine a0c rfl rfl rfl Tryz.call99 (fun w hS hR => f0W e0h y34 _ hR.1.2) (fun _ => rfl) ?_
 try simp only [clL]
 refine a0m rfl rfl (fun _ => b0p rfl _ (q0d _ _)) ?_
 try simp only [clL]
 refine x0m rfl rfl rfl Tryz.underlying199 z0U [.agg (tmR (beN lv, hTT)).toArray, .agg (tmR (beN lr, e0h)).toArray] (fun _ => rfl) (by intro v hv; simp only [List.mem_cons, List.not_mem_nil, or_false] at hv; rcases hv with rfl | rfl <;> exact (c0R _)) rfl (tmR (beN lv, hTT) ++ tmR (beN lr, e0h)) (by simp [Value.cells]) ?_
 try simp only [clL]
 refine b0g List.mem_cons_self fun g41 => ?_
 simp only [upd, reduceIte]
 try simp only [Nat.reduceEqDiff, reduceIte]
 refine a0u fun xq w7 st7 hR => ?_
 try dsimp only
 have HC27 := qH hR.1.1.1.2
 have HC26 := qH hR.1.1.1.1.2
 have HRD : Hid (Rd w7 (some ⟨g41, 0, none⟩) (([(beN lv, hTT), (beN lr, e0h)] : List (Nat × PT)).length * 196) (tmL [(beN lv, hTT), (beN lr, e0h)])) := qH (by rw [C0x]; have h := Rd.whole (st7.at 2 rfl); rw [List.length_append, c0R, c0R] at h; exact h)
 clear hR xq
 refine a0y rfl rfl ?_
 go_simp
 refine (B0W [(beN lv, hTT), (beN lr, e0h)] y27 (some ⟨g41, 0, none⟩) 2 2 _ HC27.out rfl ap14 HRD.out).mono ?_
 rintro e' w8 ⟨rfl, hf8⟩
 have st8 := st7.keep hf8
 have HC26b := qH (HC26.out.keep hf8)
 clear hf8
 clear st7
 refine ⟨by first | exact st8 | exact St.less st8 ap16, ?_⟩
 try simp only [clL]
 refine a0y rfl rfl ?_
 go_simp
 refine (u0e (j0z [(beN lv, hTT), (beN lr, e0h)]) y26 _ HC26b.out).mono ?_
 rintro e' w9 ⟨sv, rfl, ho, hf9⟩
 have st9 := st8.keep hf9
 have HO := qH ho
 have HSZO := qH st8.fr.size
 clear ho
 clear hf9
 clear st8
 refine ⟨by first | exact st9 | exact St.less st9 ap16, ?_⟩
 try simp only [clL]
 refine a0k rfl rfl apW ?_
 try simp only [clL]
 refine a0o rfl rfl ?_
 go_simp
 try simp only [clL]
 refine a0h ?_
 refine NoPanic.normal ?_
 have hfr := st9.fr
 clear st9
 go_wp2_with fail
 go_ret2
 exact ⟨sv, rfl, Go.Mv.Own.mono HO.out HSZO.out, hfr⟩
end
section
open Go.RowKit Go.Mv Mvp Mvq
attribute [local irreducible] f0K
attribute [local irreducible] a0C lw mix cw b0u b0B b0r a0N a0q beN b0G b0f b0C a0M a0S elN mdL a0Q rtV b0J c0g b0N c0K a0T e0d l0R j0s b0b c0k hB hN d0X c0y
end
section
open Go.RowKit Go.Mv Mvp Mvq
attribute [local irreducible] a0C lw mix cw b0u b0B b0r a0N a0q beN b0G b0f b0C a0M a0S elN mdL a0Q rtV b0J c0g b0N c0K a0T e0d l0R j0s b0b c0k hB hN d0X c0y tC tS
end
section
open Go.RowKit Go.Mv Mvp Mvq
noncomputable def aR : (p : Pt) → onC p → RT
 | .A x y, h => C0o x y h
 | .O, _ => noR
theorem D0t : ∀ (p : Pt) (h : onC p), (aR p h).pt = p
 | .A x y, h => l0O x y h
 | .O, _ => u0A
theorem E0a {p : Pt} (h : onC p) {x y : K} (e : p = .A x y) : (aR p h).L = rpL x y 1 := by subst e; rfl
noncomputable def l0U (lab l : List UInt8) : RT := aR (f0K lab l).pt (f0K lab l).onP
theorem x0D (lab l : List UInt8) : (l0U lab l).pt = (f0K lab l).pt := D0t _ _
theorem v0a {lab l : List UInt8} {x y : K} (e : (f0K lab l).pt = .A x y) : (l0U lab l).L = rpL x y 1 := E0a _ e
theorem v0b {lab l : List UInt8} {k n : Nat} (hk : k < 256) (hn : hN lab l k = n) (h1 : n < fP) (h2 : b0J fP (d0w n) = true) (h0 : c0y lab l k = []) : (l0U lab l).L = rpL (kc n) (kc (rtV fP (d0w n))) 1 := by
 have h2' : b0J mP.M (d0w n) = true := by rw [c0U]; exact h2
 refine v0a ?_
 rw [k0A hk (n0B hn (by rw [c0U]; exact h1) h2') h0, l0y, D0g n h2']
theorem s0a {lab l : List UInt8} (h0 : c0y lab l 256 = []) : (l0U lab l).L = rpL (kc gXn) (kc gYn) 1 := by
 refine v0a ?_
 rw [k0z h0, l0z]
theorem d0A (x y z : K) : ∀ v ∈ rpL x y z, v.oneCell' = true := by unfold rpL; exact a0V _ _ _
theorem C0y (n : Nat) (hlt : n < fP) (hr : b0J fP (d0w n) = true) (w : World) : Calls Tryz.prog 141 #[i4 n] w fun e w' => e = .returned (.tuple #[.agg (rpL (kc n) (kc (rtV fP (d0w n))) 1).toArray, .bool true]) ∧ Fr Nob w w' := by
 have h := A0s n hr w
 rwa [j0n, Nat.mod_eq_of_lt hlt] at h
theorem C0z (n : Nat) (hlt : n < fP) (hr : b0J fP (d0w n) = false) (w : World) : Calls Tryz.prog 141 #[i4 n] w fun e w' => e = .returned (.tuple #[.agg (rpL (kc n) 0 1).toArray, .bool false]) ∧ Fr Nob w w' := by
 have h := A0t n hr w
 rwa [j0n, Nat.mod_eq_of_lt hlt] at h
theorem A0I (l : List UInt8) (w : World) : Calls Tryz.prog 122 #[fv mP.M, .string (mkS l)] w fun e w' => ∃ N : Nat, e = .returned (.tuple #[i4 N, .bool (a0Q mP l)]) ∧ (a0Q mP l = true → N = beN l) ∧ Fr Nob w w' := by
 cases h : a0Q mP l with
 | true =>
  refine (l0G mP b0R.lt (mkS l) w (by rw [a0L]; exact h)).mono ?_
  rintro e w' ⟨rfl, hf⟩
  rw [a0L]
  exact ⟨_, rfl, fun _ => rfl, hf⟩
 | false =>
  refine (l0H mP b0R.lt (mkS l) w (by rw [a0L]; exact h)).mono ?_
  rintro e w' ⟨N, rfl, hf⟩
  exact ⟨N, rfl, fun h => (by cases h), hf⟩
theorem D0u (lab l : List UInt8) (k : Nat) : hN lab l k = beN (c0k (e0e ++ lab) [l, [UInt8.ofNat k]]) := A0D lab l k
theorem x0E {l : List UInt8} (h1 : l.length = 32) (h2 : beN l < mP.M) : a0Q mP l = true := by unfold a0Q; rw [decide_eq_true h1, decide_eq_true h2]; rfl
theorem A0J : mkS [] = ⟨#[]⟩ := rfl
theorem v0c : (Tryz.prog.info? 9).map (fun i => (i.zero, i.size, i.bytes)) = some (some (.string ⟨#[]⟩), 1, 16) := by kernel_rfl
attribute [local irreducible] a0C lw mix cw b0u b0B b0r a0N a0q beN b0G b0f b0C a0M a0S elN mdL a0Q rtV b0J kN kc c0v c0g d0r noR a0R g0b RT.L c0k hB hN d0X c0y f0K atY d0w o0N rpL mkS
theorem _root_.ap5 {p : Prop} (h : p := by first | (simp only [a0f]; done) | (simp only [List.length_append, a0f, RT.len, e0R]; done)) : p := h
theorem v0d (lab : ByteArray) (l : List UInt8) (hsz : lab.size ≤ 40000) (hll : l.length ≤ 40000) (w : World) : Calls Tryz.prog 110 #[.string lab, .string (mkS l)] w fun e w' => e = .returned (.agg (l0U lab.data.toList l).L.toArray) ∧ Fr Nob w w' := by
 have HSZ := qH hsz
 have HLL := qH hll
 clear hsz hll
 have st0 := St.start Nob w
 go_enter Tryz.func110, Tryz.ntmps110
 go_wp2_with (with_reducible refine wSk 4 ?_)
 refine a0a st0 rfl rfl (z := zAc) ap13 (cw 12 0) ap11 ?_
 intro g4 w1 st1
 clear st0
 go_wp2
 go_loopw [5] (fun i wr => ∃ k : Nat, k ≤ 256 ∧ i = .int .i64 (k : Int) ∧ c0y lab.data.toList l k = [] ∧ St Nob w wr [(g4, cw 12 0, 62)]) (fun i _ => 256 - (intOf i).toNat)
 case atStart => exact ⟨0, by omega, rfl, k0y _ _, st1⟩
 case round =>
  obtain ⟨k, hk, rfl, hnone, st⟩ := hrel
  clear st1
  have HN0 := qH hnone
  clear hnone
  rcases Nat.lt_or_ge k 256 with hk2 | hk2
  ·have hltI : (k : Int) < 256 := by omega
   have hk0 : (0 : Int) ≤ (k : Int) := by omega
   have hk8 : (k : Int) % 256 = (k : Int) := by omega
   have HLT := qH hk2
   clear hk2 hk
   have hn := D0u lab.data.toList l k
   generalize hT : c0k (e0e ++ lab.data.toList) [l, [UInt8.ofNat k]] = T at *
   have HT := qH hT
   have HTL := qH (show T.length = 32 by rw [← hT]; exact f0u _ _)
   have HN := qH hn
   clear hT hn
   have hbb : a0Q mP T = true → beN T < fP := fun h => by have := A0d mP T h; rwa [c0U] at this
   have HBB := qH hbb
   clear hbb
   generalize hb : a0Q mP T = b at *
   have HB := qH hb
   clear hb
   go_wp2_with fail
   refine wp_region_noPanic ?_
   have hd1 := st.drew
   clear st
   refine j0I (fun wx => St Nob w wx [(g4, cw 12 0, 62)] ∧ Fr Nob (World.drew _) wx) [0, 1, 2, 3, 4, 5, 6, 7, 8, 9, 10, 11, 12, 13, 14] [13] (fun i => match i with | 0 => [] | 1 => [] | 2 => [1] | 3 => [] | 4 => [] | 5 => [4] | 6 => [5] | 7 => [6] | 8 => [3, 7] | 9 => [2, 8] | 10 => [0, 9] | 11 => [10] | 12 => [11] | 13 => [11] | 14 => [] | _ => []) (fun i x wx => match i with | 0 => x 0 = fv mP.M | 1 => x 1 = .string lab | 2 => x 2 = .string (mkS (e0e ++ lab.data.toList)) | 3 => x 3 = .string (mkS l) | 4 => x 4 = .int .i64 (k : Int) | 5 => x 5 = .int .u8 (k : Int) | 6 => ∃ g, x 6 = .slice (some ⟨g, 0, none⟩) 1 1 ∧ Has wx g (bs [UInt8.ofNat k]) 5 | 7 => x 7 = .string (mkS [UInt8.ofNat k]) | 8 => ∃ g, x 8 = .slice (some ⟨g, 0, none⟩) 2 2 ∧ Has wx g (ss [l, [UInt8.ofNat k]]) 9 | 9 => x 9 = .string (mkS T) | 10 => ∃ N : Nat, x 10 = .tuple #[i4 N, .bool b] ∧ (b = true → N = beN T) | 11 => ∃ N : Nat, x 11 = .tuple #[i4 N, .bool b] ∧ (b = true → N = beN T) | 12 => ∃ N : Nat, x 12 = i4 N ∧ (b = true → N = beN T) | 13 => x 13 = .bool b | 14 => ∃ g, x 14 = .pointer (some ⟨g, 0, none⟩) ∧ Has wx g (cw 4 0) 60 ∧ (World.drew wr).heap.size ≤ g | _ => True) 15 (.m 15 (.w 16 .nil)) ?_ (fun x => ?_) ap13 ap13 (fun _ _ _ _ _ h => h) ⟨hd1, Fr.refl _ _⟩ (fun _ _ h k => ⟨h.1.keep k, h.2.then k⟩) ?_ ?_
   rotate_left 1
   ·simp only [h0G, A0P, Act.put, List.getElem?_toArray, List.getElem?_cons_zero, List.getElem?_cons_succ, List.setIfInBounds_toArray, List.set_cons_zero, List.set_cons_succ]
    exact rfl
   refine b0Q rfl rfl (fun x wx hG hp => ?_) (fun y _ _ h k => h) ?_
   ·try dsimp only
    clear hp
    refine u0U rfl Tryz.call112 (vs := []) rfl ?_
    refine (a0F _).mono ?_
    rintro e w' ⟨rfl, hf⟩
    exact ⟨_, rfl, hf, rfl⟩
   refine b0Q rfl rfl (fun x wx hG hp => ?_) (fun y _ _ h k => h) ?_
   ·try dsimp only
    clear hp
    exact n0E (v := .string lab) (by go_simp; try with_reducible rfl) rfl
   refine b0Q rfl rfl (fun x wx hG hp => ?_) (fun y _ _ h k => h) ?_
   ·try dsimp only
    have e1 : x 1 = .string lab := hp 1 ap14
    generalize x 1 = v1 at e1 ⊢
    subst e1
    clear hp
    exact n0E (k0C rfl rfl rfl Tryz.underlying9 (by have h : (⟨#[112, 111, 105, 110, 116, 32]⟩ : ByteArray).size = 6 := rfl; rw [h]; have := HSZ.out; omega) (u0O lab) _) rfl
   refine b0Q rfl rfl (fun x wx hG hp => ?_) (fun y _ _ h k => h) ?_
   ·try dsimp only
    clear hp
    exact n0E (v := .string (mkS l)) (by go_simp; try with_reducible rfl) rfl
   refine b0Q rfl rfl (fun x wx hG hp => ?_) (fun y _ _ h k => h) ?_
   ·try dsimp only
    clear hp
    exact n0E (v := .int .i64 (k : Int)) (by go_simp; try with_reducible rfl) rfl
   refine b0Q rfl rfl (fun x wx hG hp => ?_) (fun y _ _ h k => h) ?_
   ·try dsimp only
    have e4 : x 4 = .int .i64 (k : Int) := hp 4 ap14
    generalize x 4 = v4 at e4 ⊢
    subst e4
    clear hp
    exact n0E (v := .int .u8 (k : Int)) (by go_simp; exact IntWalk.u8_in _ ap15) rfl
   refine b0Q rfl rfl (fun x wx hG hp => ?_) (fun y _ _ h k => by obtain ⟨g, h1, h2⟩ := h; exact ⟨g, h1, h2.keep k id⟩) ?_
   ·try dsimp only
    have e5 : x 5 = .int .u8 (k : Int) := hp 5 ap14
    generalize x 5 = v5 at e5 ⊢
    subst e5
    clear hp
    refine q0y rfl Tryz.underlying22 b0l [.int .u8 (k : Int)] rfl (by intro u hu; simp only [List.mem_singleton] at hu; subst hu; rfl) rfl (bs [UInt8.ofNat k]) (by show [Value.int .u8 (k : Int)] = [Value.int .u8 ((UInt8.ofNat k).toNat : Int)]; rw [UInt8.toNat_ofNat', Nat.mod_eq_of_lt HLT.out]) (fun g w' _ _ hg => ⟨g, rfl, hg⟩)
   refine b0Q rfl rfl (fun x wx hG hp => ?_) (fun y _ _ h k => h) ?_
   ·try dsimp only
    have e6 : ∃ g, x 6 = .slice (some ⟨g, 0, none⟩) 1 1 ∧ Has wx g (bs [UInt8.ofNat k]) 5 := hp 6 ap14
    obtain ⟨ga, e6, HGA⟩ := e6
    generalize x 6 = v6 at e6 ⊢
    subst e6
    clear hp
    exact n0E (i0a rfl Tryz.underlying22 Tryz.underlying5 Tryz.underlying9 rfl (show RdB _ _ 1 _ from Rd.whole HGA)) rfl
   refine b0Q rfl rfl (fun x wx hG hp => ?_) (fun y _ _ h k => by obtain ⟨g, h1, h2⟩ := h; exact ⟨g, h1, h2.keep k id⟩) ?_
   ·try dsimp only
    have e3 : x 3 = .string (mkS l) := hp 3 ap14
    generalize x 3 = v3 at e3 ⊢
    subst e3
    have e7 : x 7 = .string (mkS [UInt8.ofNat k]) := hp 7 ap14
    generalize x 7 = v7 at e7 ⊢
    subst e7
    clear hp
    refine q0y rfl Tryz.underlying40 v0c [.string (mkS l), .string (mkS [UInt8.ofNat k])] rfl (by intro u hu; simp only [List.mem_cons, List.not_mem_nil, or_false] at hu; rcases hu with rfl | rfl <;> rfl) rfl (ss [l, [UInt8.ofNat k]]) rfl (fun g w' _ _ hg => ⟨g, rfl, hg⟩)
   refine b0Q rfl rfl (fun x wx hG hp => ?_) (fun y _ _ h k => h) ?_
   ·try dsimp only
    have e2 : x 2 = .string (mkS (e0e ++ lab.data.toList)) := hp 2 ap14
    generalize x 2 = v2 at e2 ⊢
    subst e2
    have e8 : ∃ g, x 8 = .slice (some ⟨g, 0, none⟩) 2 2 ∧ Has wx g (ss [l, [UInt8.ofNat k]]) 9 := hp 8 ap14
    obtain ⟨gb, e8, HGB⟩ := e8
    generalize x 8 = v8 at e8 ⊢
    subst e8
    clear hp
    refine u0U rfl Tryz.call126 (vs := [.string (mkS (e0e ++ lab.data.toList)), .slice (some ⟨gb, 0, none⟩) 2 2]) rfl ?_
    refine (k0X (mkS (e0e ++ lab.data.toList)) (some ⟨gb, 0, none⟩) 2 [l, [UInt8.ofNat k]] _ (by have := HSZ.out; have := HLL.out; rw [a0t]; simp only [List.length_append, h0C, List.map_cons, List.map_nil, List.foldr_cons, List.foldr_nil, List.length_cons, List.length_nil, e0e, f0a]; omega) ap16 (by have h := Rd.whole HGB; exact h)).mono ?_
    rintro e w' ⟨rfl, hf⟩
    exact ⟨_, rfl, hf, by show Value.string _ = Value.string _; rw [a0L, HT.out]⟩
   refine b0Q rfl rfl (fun x wx hG hp => ?_) (fun y _ _ h k => h) ?_
   ·try dsimp only
    have e0 : x 0 = fv mP.M := hp 0 ap14
    generalize x 0 = v0 at e0 ⊢
    subst e0
    have e9 : x 9 = .string (mkS T) := hp 9 ap14
    generalize x 9 = v9 at e9 ⊢
    subst e9
    clear hp
    refine u0U rfl Tryz.call122 (vs := [fv mP.M, .string (mkS T)]) rfl ?_
    refine (A0I T _).mono ?_
    rintro e w' ⟨N, rfl, hN, hf⟩
    rw [HB.out] at hN ⊢
    exact ⟨_, rfl, hf, N, rfl, hN⟩
   refine b0Q rfl rfl (fun x wx hG hp => ?_) (fun y _ _ h k => h) ?_
   ·try dsimp only
    have e10 : ∃ N : Nat, x 10 = .tuple #[i4 N, .bool b] ∧ (b = true → N = beN T) := hp 10 ap14
    obtain ⟨N, e10, HNN⟩ := e10
    generalize x 10 = v10 at e10 ⊢
    subst e10
    clear hp
    exact n0E (v := .tuple #[i4 N, .bool b]) (by go_simp; try with_reducible rfl) ⟨N, rfl, HNN⟩
   refine b0Q rfl rfl (fun x wx hG hp => ?_) (fun y _ _ h k => h) ?_
   ·try dsimp only
    have e11 : ∃ N : Nat, x 11 = .tuple #[i4 N, .bool b] ∧ (b = true → N = beN T) := hp 11 ap14
    obtain ⟨N, e11, HNN⟩ := e11
    generalize x 11 = v11 at e11 ⊢
    subst e11
    clear hp
    exact n0E (v := i4 N) (by go_simp; try with_reducible rfl) ⟨N, rfl, HNN⟩
   refine r0U rfl rfl (fun x wx hG hp => ?_) (fun y _ _ h k => h) ?_
   ·try dsimp only
    have e11 : ∃ N : Nat, x 11 = .tuple #[i4 N, .bool b] ∧ (b = true → N = beN T) := hp 11 ap14
    obtain ⟨N, e11, HNN⟩ := e11
    generalize x 11 = v11 at e11 ⊢
    subst e11
    clear hp
    exact ⟨.bool b, fun wx => by go_simp; try with_reducible rfl, rfl⟩
   refine b0Q rfl rfl (fun x wx hG hp => ?_) (fun y _ _ h k => by obtain ⟨g, h1, h2, h3⟩ := h; exact ⟨g, h1, h2.keep k id, h3⟩) ?_
   ·try dsimp only
    clear hp
    exact u0T rfl e0Q (cw 4 0) rfl (fun g w' _ hle hg => ⟨g, rfl, hg, Nat.le_trans hG.2.size hle⟩)
   exact trivial
   intro x w2 hG hp
   try dsimp only
   have e12 : ∃ N : Nat, x 12 = i4 N ∧ (b = true → N = beN T) := hp 12 ap14
   obtain ⟨N, e12, HNN⟩ := e12
   generalize x 12 = v12 at e12 ⊢
   subst e12
   have e13 : x 13 = .bool b := hp 13 ap14
   generalize x 13 = v13 at e13 ⊢
   subst e13
   have e14 : ∃ g, x 14 = .pointer (some ⟨g, 0, none⟩) ∧ Has w2 g (cw 4 0) 60 ∧ (World.drew wr).heap.size ≤ g := hp 14 ap14
   obtain ⟨ga14, e14, HG14, HL14⟩ := e14
   generalize x 14 = v14 at e14 ⊢
   subst e14
   clear hp
   generalize x 0 = v0
   generalize x 1 = v1
   generalize x 2 = v2
   generalize x 3 = v3
   generalize x 4 = v4
   generalize x 5 = v5
   generalize x 6 = v6
   generalize x 7 = v7
   generalize x 8 = v8
   generalize x 9 = v9
   generalize x 10 = v10
   generalize x 11 = v11
   have st2 := hd1.new hG.2 HG14 HL14
   try simp only [List.cons_append, List.nil_append] at st2
   clear HL14 HG14
   clear hG hd1
   refine a0o rfl rfl ?_
   refine a0i st2 1 rfl rfl rfl rfl ap5 ap2 (a0g _ _) ?_
   intro w3 st3
   try simp only [List.set_cons_zero, List.set_cons_succ] at st3
   clear st2
   try simp only [Act.put]
   refine a0k rfl rfl apW ?_
   try simp only [clL]
   refine a0h ?_
   refine NoPanic.normal ?_
   have HNE := qH HNN
   clear HNN
   rcases b with _ | _
   ·skip
    have HC := qH (show d0X lab.data.toList l k = none from i0c HN.out fun h => by have h3 := x0E (HTL.out) h.1; rw [HB.out] at h3; cases h3)
    go_wp2_with fail
    go_roundw
    case rel => exact ⟨k + 1, by have := HLT.out; omega, by go_num, by rw [g0T HC.out]; exact HN0.out, St.less st3 ap16⟩
    case measure => have := HLT.out; simp [intOf]; omega
   ·have hlt := HBB.out rfl
    obtain rfl : N = beN T := HNE.out rfl
    clear HNE HBB
    generalize beN T = n at *
    have HLN := qH hlt
    clear hlt
    rcases hr : b0J fP (d0w n) with _ | _
    ·have HR := qH hr
     clear hr
     go_wp2_with (with_reducible refine wSk 30 ?_)
     refine a0j st3 1 rfl rfl rfl Tryz.underlying60 rfl ap2 ?_
     go_wp2_with fail
     refine (C0z n HLN.out HR.out _).mono ?_
     rintro e' w4 ⟨rfl, hf4⟩
     have st4 := st3.keep hf4
     clear st3 hf4
     go_wp2_with (with_reducible refine wSk 8 ?_)
     refine a0a st4 rfl rfl (z := zAc) ap13 (cw 12 0) ap11 ?_
     intro g8 w5 st5
     clear st4
     go_wp2_with (with_reducible refine wSn ?_)
     refine a0b st5 2 rfl rfl rfl rfl rfl ap5 (by first | (rw [a0f]; kernel_rfl) | (simp only [e0R]; kernel_rfl)) (d0A _ _ _) ?_
     intro w6 st6
     clear st5
     have HC := qH (show d0X lab.data.toList l k = none from i0c HN.out fun h => by rw [c0U, HR.out] at h; exact absurd h.2 ap14)
     go_wp2_with fail
     go_roundw
     case rel => exact ⟨k + 1, by have := HLT.out; omega, by go_num, by rw [g0T HC.out]; exact HN0.out, St.less st6 ap16⟩
     case measure => have := HLT.out; simp [intOf]; omega
    ·have HR := qH hr
     clear hr
     go_wp2_with (with_reducible refine wSk 30 ?_)
     refine a0j st3 1 rfl rfl rfl Tryz.underlying60 rfl ap2 ?_
     go_wp2_with fail
     refine (C0y n HLN.out HR.out _).mono ?_
     rintro e' w4 ⟨rfl, hf4⟩
     have st4 := st3.keep hf4
     clear st3 hf4
     go_wp2_with (with_reducible refine wSk 8 ?_)
     refine a0a st4 rfl rfl (z := zAc) ap13 (cw 12 0) ap11 ?_
     intro g8 w5 st5
     clear st4
     go_wp2_with (with_reducible refine wSn ?_)
     refine a0b st5 2 rfl rfl rfl rfl rfl ap5 (by first | (rw [a0f]; kernel_rfl) | (simp only [e0R]; kernel_rfl)) (d0A _ _ _) ?_
     intro w6 st6
     clear st5
     have HH := qH (v0b HLT.out HN.out HLN.out HR.out HN0.out)
     go_wp2_with (with_reducible refine wSk 35 ?_)
     refine a0n st6 2 rfl rfl rfl Tryz.underlying62 rfl rfl (by first | (rw [a0f]; kernel_rfl) | (simp only [e0R]; kernel_rfl)) ?_
     go_wp2_with (with_reducible refine wSn ?_)
     refine a0b st6 0 rfl rfl rfl rfl rfl ap5 (by first | (rw [a0f]; kernel_rfl) | (simp only [e0R]; kernel_rfl)) (d0A _ _ _) ?_
     intro w7 st7
     clear st6
     have hr := st7.at 0 rfl
     have hfr := st7.fr
     clear st7
     go_wp2_with fail
     exact bodyPost_ret (a0v rfl rfl hr Tryz.underlying62 rfl (by first | (rw [a0f]; kernel_rfl) | (simp only [e0R]; kernel_rfl))) rfl ⟨by rw [HH.out], hfr⟩
  ·have hk3 : k = 256 := by omega
   subst hk3
   have hge : ¬ (((256 : Nat) : Int) < 256) := by omega
   have HH := qH (s0a HN0.out)
   go_wp2_with fail
   refine (D0F _).mono ?_
   rintro e' w2 ⟨rfl, hf2⟩
   have st2 := st.keep hf2
   clear st hf2
   go_wp2_with (with_reducible refine wSn ?_)
   refine a0b st2 0 rfl rfl rfl rfl rfl ap5 (by first | (rw [a0f]; kernel_rfl) | (simp only [RT.len]; kernel_rfl)) (RT.one _) ?_
   intro w3 st3
   clear st2
   have hr := st3.at 0 rfl
   have hfr := st3.fr
   clear st3
   go_wp2_with fail
   exact bodyPost_ret (a0v rfl rfl hr Tryz.underlying62 rfl (by first | (rw [a0f]; kernel_rfl) | (simp only [RT.len]; kernel_rfl))) rfl ⟨by rw [HH.out, A0r], hfr⟩
attribute [local irreducible] l0U
noncomputable def hRR : RT := l0U u0W []
theorem E0b (w : World) : Calls Tryz.prog 110 #[.string ⟨#[118, 97, 108, 117, 101]⟩, .string ⟨#[]⟩] w fun e w' => e = .returned (.agg hRR.L.toArray) ∧ Fr Nob w w' := by
 have h := v0d ⟨#[118, 97, 108, 117, 101]⟩ [] ap14 ap14 w
 rw [A0J, show (⟨#[118, 97, 108, 117, 101]⟩ : ByteArray).data.toList = u0W from rfl] at h
 unfold hRR
 exact h
theorem E0c (w : World) : Calls Tryz.prog 139 #[] w fun e w' => e = .returned (.agg hRR.L.toArray) ∧ Fr Nob w w' := by
 have st0 := St.start Nob w
 go_enter Tryz.func139, Tryz.ntmps139
 go_wp2_with (with_reducible refine wSk 0 ?_)
 refine a0a st0 rfl rfl (z := zAc) ap13 (cw 12 0) ap11 ?_
 intro g0 w1 st1
 clear st0
 go_wp2_with fail
 refine (E0b _).mono ?_
 rintro e' w2 ⟨rfl, hf2⟩
 have st2 := st1.keep hf2
 clear st1 hf2
 go_wp2_with (with_reducible refine wSn ?_)
 refine a0b st2 0 rfl rfl rfl rfl rfl ap5 (by first | (rw [a0f]; kernel_rfl) | (simp only [RT.len]; kernel_rfl)) (RT.one _) ?_
 intro w3 st3
 clear st2
 have hr := st3.at 0 rfl
 have hfr := st3.fr
 clear st3
 go_wp2_with fail
 exact bodyPost_ret (a0v rfl rfl hr Tryz.underlying62 rfl (by first | (rw [a0f]; kernel_rfl) | (simp only [RT.len]; kernel_rfl))) rfl ⟨rfl, hfr⟩
theorem j0w (a b : Nat) (w : World) : Calls Tryz.prog 73 #[i4 a, i4 b] w fun e w' => e = .returned (.agg (d0r (a0R a hRR) (a0R b e0i)).L.toArray) ∧ Fr Nob w w' := by
 have st0 := St.start Nob w
 go_enter Tryz.func73, Tryz.ntmps73
 go_wp2_with (with_reducible refine wSk 2 ?_)
 refine a0l st0 rfl rfl rfl (cw 4 a) rfl ?_
 intro g2 w1 st1
 clear st0
 go_wp2_with (with_reducible refine wSk 3 ?_)
 refine a0l st1 rfl rfl rfl (cw 4 b) rfl ?_
 intro g3 w2 st2
 clear st1
 go_wp2_with (with_reducible refine wSk 4 ?_)
 refine a0a st2 rfl rfl (z := zAc) ap13 (cw 12 0) ap11 ?_
 intro g4 w3 st3
 clear st2
 go_wp2_with fail
 refine wp_region_noPanic ?_
 refine a0e st3 7 [.t 0, .t 3, .c 1, .c 2, .c 4, .c 5, .c 6] (.m 7 .nil) ap13 ap13 (fun _ _ _ _ _ h => h) ?_
 clear st3
 refine a0d rfl rfl rfl (fun _ => rfl) (cw 4 a) (fun wx hS => St.rangeL hS 0 rfl 0 _ dZl) Tryz.underlying60 rfl ap2 ?_
 try simp only [clL]
 refine a0d rfl rfl rfl (fun _ => rfl) (cw 4 b) (fun wx hS => St.rangeL hS 1 rfl 0 _ dZl) Tryz.underlying60 rfl ap2 ?_
 try simp only [clL]
 refine a0c rfl rfl rfl Tryz.call139 (fun w hS hR => E0c _) (fun _ => rfl) ?_
 try simp only [clL]
 refine a0c rfl rfl rfl Tryz.call69 (fun w hS hR => l0P a hRR _) (fun _ => rfl) ?_
 try simp only [clL]
 refine a0c rfl rfl rfl Tryz.call127 (fun w hS hR => D0F _) (fun _ => rfl) ?_
 try simp only [clL]
 refine a0c rfl rfl rfl Tryz.call69 (fun w hS hR => l0P b e0i _) (fun _ => rfl) ?_
 try simp only [clL]
 refine a0c rfl rfl rfl Tryz.call68 (fun w hS hR => l0N (a0R a hRR) (a0R b e0i) _) (fun _ => rfl) ?_
 try simp only [clL]
 refine a0u fun xq w4 st4 hR => ?_
 try dsimp only
 clear hR xq
 refine a0o rfl rfl ?_
 refine a0i st4 2 rfl rfl rfl rfl ap5 (by first | (rw [a0f]; kernel_rfl) | (simp only [RT.len]; kernel_rfl)) (RT.one _) ?_
 intro w5 st5
 repeat (first | simp only [List.cons_append] at st5 | simp only [List.nil_append] at st5 | simp only [List.set_cons_succ] at st5 | simp only [List.set_cons_zero] at st5)
 clear st4
 try simp only [Act.put]
 refine a0h ?_
 refine NoPanic.normal ?_
 have hr := st5.at 2 rfl
 have hfr := st5.fr
 clear st5
 go_wp2_with fail
 exact bodyPost_ret (a0v rfl rfl hr Tryz.underlying62 rfl (by first | (rw [a0f]; kernel_rfl) | (simp only [RT.len]; kernel_rfl))) rfl ⟨rfl, hfr⟩
end
section
open Go.RowKit Go.Mv Mvp Mvq
def cmE (lv lr : List UInt8) : Int := if a0Q mQ lv && a0Q mQ lr then 0 else 3
noncomputable def cmS (lv lr : List UInt8) : List UInt8 := if a0Q mQ lv && a0Q mQ lr then c0g (b0a (b0b (beN lv) hTT.pt) (b0b (beN lr) gP)) else []
theorem n0J {lv lr : List UInt8} (h1 : a0Q mQ lv = true) (h2 : a0Q mQ lr = true) : cmE lv lr = 0 ∧ cmS lv lr = c0g (b0a (b0b (beN lv) hTT.pt) (b0b (beN lr) gP)) := by unfold cmE cmS; rw [h1, h2]; exact ⟨rfl, rfl⟩
theorem v0e {lv lr : List UInt8} (h : (a0Q mQ lv && a0Q mQ lr) = false) : cmE lv lr = 3 ∧ cmS lv lr = [] := by unfold cmE cmS; rw [h]; exact ⟨rfl, rfl⟩
attribute [local irreducible] hTT hRR f0K l0U PT.pt e0h
theorem q0C (vv vr : Value) (lv lr : List UInt8) (w : World) (h1 : BPart w vv lv) (h2 : BPart w vr lr) :
  Calls Tryz.prog 33 #[vv, vr] w fun e w' => ∃ v, e = .returned (.tuple #[v, .int .i64 (cmE lv lr)]) ∧ BPart w' v (cmS lv lr) ∧ Fr Nob w w' := by
 have hno : ∀ {w w' : World}, (a0Q mQ lv && a0Q mQ lr) = false → BPart w' (.slice none 0 0) (cmS lv lr) := fun h => by
  rw [(v0e h).2]
  exact ⟨none, 0, 0, rfl, Nat.le_refl _, RdB.nil _ _⟩
 cases hv : a0Q mQ lv with
 | false => cases hr : a0Q mQ lr with
  | false =>
   have hn : (a0Q mQ lv && a0Q mQ lr) = false := by rw [hv]; rfl
   refine (u0X vv vr lv lr w h1 h2 hv hr).mono ?_
   rintro e w' ⟨rfl, hf⟩
   exact ⟨_, by rw [(v0e hn).1], hno (w := w) hn, hf⟩
  | true =>
   have hn : (a0Q mQ lv && a0Q mQ lr) = false := by rw [hv]; rfl
   refine (u0Y vv vr lv lr w h1 h2 hv hr).mono ?_
   rintro e w' ⟨rfl, hf⟩
   exact ⟨_, by rw [(v0e hn).1], hno (w := w) hn, hf⟩
 | true => cases hr : a0Q mQ lr with
  | false =>
   have hn : (a0Q mQ lv && a0Q mQ lr) = false := by rw [hv, hr]; rfl
   refine (u0Z vv vr lv lr w h1 h2 hv hr).mono ?_
   rintro e w' ⟨rfl, hf⟩
   exact ⟨_, by rw [(v0e hn).1], hno (w := w) hn, hf⟩
  | true =>
   refine (n0I vv vr lv lr w h1 h2 hv hr).mono ?_
   rintro e w' ⟨v, rfl, ho, hf⟩
   have e1 : (j0z [(beN lv, hTT), (beN lr, e0h)]).pt = b0a (b0b (beN lv) hTT.pt) (b0b (beN lr) gP) := by
    rw [o0Q _ (by
     intro t ht
     simp only [List.mem_cons, List.not_mem_nil, or_false] at ht
     rcases ht with rfl | rfl
     ·exact Nat.lt_trans (d0y hv) ap14
     ·exact Nat.lt_trans (d0y hr) ap14)]
    show b0a (b0b (beN lv) hTT.pt) (b0a (b0b (beN lr) e0h.pt) .O) = _
    rw [b0F, l0z]
    rfl
   rw [e1] at ho
   refine ⟨v, by rw [(n0J hv hr).1], ?_, hf⟩
   rw [(n0J hv hr).2]
   exact BPart.ofOwn ho
attribute [local irreducible] a0C lw mix cw b0u b0B b0r a0N a0q beN b0G b0f b0C a0M a0S elN mdL a0Q rtV b0J kN kc c0v c0g d0r noR a0R g0b RT.L gXn gYn rpL b0N c0K c0k hB hN d0X c0y mkS cmS cmE
end
section
open Go.RowKit Go.Mv Mvp Mvq
attribute [local irreducible] a0C lw mix cw b0u b0B b0r a0N a0q beN b0G b0f b0C a0M a0S elN mdL a0Q rtV b0J kN kc c0v c0g d0r noR a0R g0b RT.L c0k hB hN d0X c0y rpL mkS
end
section
open Go.RowKit Go.Mv Mvp Mvq
theorem A0K : (Tryz.prog.info? 60).map (·.zero) = some (some (.agg (cw 4 0).toArray)) := e0Q
theorem s0b (x : Nat) : (Tryz.prog.info? 60).map (·.size) = some (cw 4 x).length := by rw [a0f]; kernel_rfl
theorem RLogAt.notIn {w : World} {g : Nat} {l : List UInt8} (h : RLogAt w g l) {bl : List (Nat × List Value × TypeId)} (hh : ∀ x ∈ bl, Has w x.1 x.2.1 x.2.2) (hT : ∀ x ∈ bl, 197 ≠ x.2.2) : ∀ x ∈ bl, x.1 ≠ g := by
 rintro x hx rfl
 obtain ⟨_, _, h1, _⟩ := h
 obtain ⟨_, _, h2, _⟩ := hh x hx
 rw [h1] at h2
 simp only [Option.some.injEq, Obj.cells.injEq] at h2
 exact hT x hx h2.2.1
theorem mQ0 : 0 < mQ.M := by decide
theorem A0L (x0 x1 : List UInt8) : c0m x0 x1 = h0E (c0k v0j [c0k v0j [c0k v0J [[111, 112, 101, 110]], [99, 111, 109, 109, 105, 116], x0], [102, 105, 114, 115, 116], x1]) := rfl
theorem n0K : (Tryz.prog.info? 9).map (fun i => (i.zero, i.size, i.bytes)) = some (some (.string ⟨#[]⟩), 1, 16) := by kernel_rfl
theorem q0D (a b : List UInt8) : h0C [a, b] = a.length + (b.length + 0) := rfl
attribute [local irreducible] a0C lw mix cw b0u b0B b0r a0N a0q beN b0G b0f b0C a0M a0S elN mdL a0Q rtV b0J c0g b0N c0K b0b b0v b0H toB a0x a0G b0w c0f a0K c0s b0e a0B c0k d0V d0r noR a0R RT.L rdR kN kc c0m chN h0E v0m rpL
theorem n0L (s : ByteArray) (k : List UInt8) (hk : s.data.toList = k) (gl c : Nat) (ls : List (List UInt8)) (w : World) (hs : s.size + h0C ls ≤ 100000) (hh : Has w gl (ss ls) 9) (hn : ls.length ≤ 1000) :
  Calls Tryz.prog 54 #[.string s, .slice (some ⟨gl, 0, none⟩) ls.length c] w fun e w' => e = .returned (i4 (chN k ls)) ∧ Fr Nob w w' := by
 subst hk
 have HS := qH hs
 have HH := qH (show Rd w (some ⟨gl, 0, none⟩) ls.length (ss ls) by have h := Rd.whole hh; rwa [x0T] at h)
 have HN := qH hn
 clear hs hh hn
 have st0 := St.start Nob w
 go_enter Tryz.func54, Tryz.ntmps54
 go_wp2_with (with_reducible refine wSk 4 ?_)
 refine a0a st0 rfl rfl A0K (cw 4 0) rfl ?_
 intro g4 w2 st2
 clear st0
 go_wp2_with fail
 refine (D0m _).mono ?_
 rintro e' w3 ⟨rfl, hf3⟩
 have st3 := st2.keep hf3
 clear st2 hf3
 go_wp2_with fail
 refine (k0X s (some ⟨gl, 0, none⟩) c ls _ HS.out HN.out (HH.out.still st3.fr)).mono ?_
 rintro e' w4 ⟨rfl, hf4⟩
 have st4 := st3.keep hf4
 have HL := qH (f0u s.data.toList ls)
 clear st3 hf4 HH
 generalize hT : c0k s.data.toList ls = T at *
 have HT := qH hT
 clear hT
 go_wp2_with fail
 refine (i0C (mkS T) 64 _ (by rw [a0t, HL.out]; decide) ap14).mono ?_
 rintro e' w5 ⟨rfl, hf5⟩
 rw [a0L]
 have st5 := st4.keep hf5
 clear st4 hf5
 go_wp2_with fail
 refine (D0H mQ.M T _ mQ0 e0V.lt).mono ?_
 rintro e' w6 ⟨rfl, hf6⟩
 have st6 := st5.keep hf6
 clear st5 hf6
 have HV := qH (show beN (a0K T 31 64) % mQ.M = chN s.data.toList ls by unfold chN; rw [HT.out])
 rw [HV.out]
 go_wp2_with (with_reducible refine wSn ?_)
 refine a0b st6 0 rfl rfl rfl rfl rfl (l0I _ _) (s0b _) (a0g _ _) ?_
 intro wz stz
 clear st6
 have hr := stz.at 0 rfl
 have hfr := stz.fr
 clear stz
 go_wp2_with fail
 exact bodyPost_ret (a0v rfl rfl hr Tryz.underlying60 rfl (s0b _)) rfl ⟨rfl, hfr⟩
theorem A0M (g : Nat) (st : List UInt8) (w : World) (hst : st.length = 32) (hl : RLogAt w g st) :
  Calls Tryz.prog 128 #[.pointer (some ⟨g, 0, none⟩)] w fun e w' => e = .returned (i4 (h0E st)) ∧ Fr (One g) w w' := by
 have HST := qH hst
 have HL := qH hl
 clear hst hl
 have st0 := St.start (One g) w
 go_enter Tryz.func128, Tryz.ntmps128
 go_wp2_with (with_reducible refine wSk 2 ?_)
 refine c0H st0 rfl rfl A0K (cw 4 0) rfl ?_
 intro g4 w2 st2 hf2 hs2
 have HL2 := qH (show RLogAt w2 g st from Has.keep HL.out hf2 id)
 clear st0 hf2 hs2 HL
 go_wp2_with fail
 refine (D0m _).mono ?_
 rintro e' w3 ⟨rfl, hf3⟩
 have st3 := st2.keep hf3
 have HL3 := qH (show RLogAt w3 g st from Has.keep HL2.out hf3 id)
 clear st2 hf3 HL2
 go_wp2_with fail
 refine (v0L g st ⟨#[99, 104, 97, 108, 108, 101, 110, 103, 101]⟩ 64 _ HST.out ap14 ap14 HL3.out).mono ?_
 rintro e' w4 ⟨rfl, hl4, hf4⟩
 have st4 := st3.keep1 hf4 (.inr rfl) (HL3.out.notIn st3.has (by intro x hx; simp only [List.mem_cons, List.not_mem_nil, or_false, List.nil_append] at hx; subst hx; dsimp only; decide))
 clear st3 hf4 HL3 hl4
 have HV := qH (show beN (a0K (c0k s0P [st, (⟨#[99, 104, 97, 108, 108, 101, 110, 103, 101]⟩ : ByteArray).data.toList]) 31 64) % mQ.M = h0E st by unfold h0E v0m; rfl)
 generalize c0k s0P [st, (⟨#[99, 104, 97, 108, 108, 101, 110, 103, 101]⟩ : ByteArray).data.toList] = T at *
 go_wp2_with fail
 refine (D0H mQ.M T _ mQ0 e0V.lt).mono ?_
 rintro e' w6 ⟨rfl, hf6⟩
 have st6 := st4.keep hf6
 clear st4 hf6
 rw [HV.out]
 go_wp2_with (with_reducible refine wSn ?_)
 refine a0b st6 0 rfl rfl rfl rfl rfl (l0I _ _) (s0b _) (a0g _ _) ?_
 intro wz stz
 clear st6
 have hr := stz.at 0 rfl
 have hfr := stz.fr
 clear stz
 go_wp2_with fail
 exact bodyPost_ret (a0v rfl rfl hr Tryz.underlying60 rfl (s0b _)) rfl ⟨rfl, hfr⟩
theorem n0M (s0 : ByteArray) (s1 : ByteArray) (w : World) (h0 : s0.size ≤ 40000) (h1 : s1.size ≤ 40000) :
  Calls Tryz.prog 74 #[.string s0, .string s1] w fun e w' => e = .returned (i4 (c0m s0.data.toList s1.data.toList)) ∧ Fr Nob w w' := by
 have H0 := qH h0
 have H1 := qH h1
 clear h0 h1
 have st0 := St.start Nob w
 go_enter Tryz.func74, Tryz.ntmps74
 go_wp2_with (with_reducible refine wSk 4 ?_)
 refine a0a st0 rfl rfl A0K (cw 4 0) rfl ?_
 intro g4 w2 st2
 clear st0
 have HSZ := qH st2.fr.size
 go_wp2_with fail
 refine (v0K ⟨#[111, 112, 101, 110]⟩ _ ap14).mono ?_
 rintro e' w3 ⟨g, rfl, hle, hl, hf3⟩
 have st3 := st2.keep hf3
 have HL := qH hl
 have HG := qH (Nat.le_trans HSZ.out hle)
 clear st2 hf3 hl hle HSZ
 go_wp2_with fail
 refine (p0v g _ ⟨#[99, 111, 109, 109, 105, 116]⟩ s0 _ (f0u _ _) ap14 H0.out HL.out).mono ?_
 rintro e' w4 ⟨rfl, hl4, hf4⟩
 have st4 := st3.keep1 hf4 (.inl HG.out) (HL.out.notIn st3.has (by intro x hx; simp only [List.mem_cons, List.not_mem_nil, or_false, List.nil_append] at hx; subst hx; dsimp only; decide))
 replace HL := qH hl4
 clear st3 hf4 hl4
 go_wp2_with fail
 refine (p0v g _ ⟨#[102, 105, 114, 115, 116]⟩ s1 _ (f0u _ _) ap14 H1.out HL.out).mono ?_
 rintro e' w5 ⟨rfl, hl5, hf5⟩
 have st5 := st4.keep1 hf5 (.inl HG.out) (HL.out.notIn st4.has (by intro x hx; simp only [List.mem_cons, List.not_mem_nil, or_false, List.nil_append] at hx; subst hx; dsimp only; decide))
 replace HL := qH hl5
 clear st4 hf5 hl5
 go_wp2_with fail
 refine (A0M g _ _ (f0u _ _) HL.out).mono ?_
 rintro e' wy ⟨rfl, hfy⟩
 have sty := st5.keep1 hfy (.inl HG.out) (HL.out.notIn st5.has (by intro x hx; simp only [List.mem_cons, List.not_mem_nil, or_false, List.nil_append] at hx; subst hx; dsimp only; decide))
 clear st5 hfy HL HG
 go_wp2_with (with_reducible refine wSn ?_)
 refine a0b sty 0 rfl rfl rfl rfl rfl (l0I _ _) (s0b _) (a0g _ _) ?_
 intro wz stz
 clear sty
 have hr := stz.at 0 rfl
 have hfr := stz.fr
 clear stz
 go_wp2_with fail
 exact bodyPost_ret (a0v rfl rfl hr Tryz.underlying60 rfl (s0b _)) rfl ⟨by rw [A0L]; rfl, hfr⟩
theorem y0z (p a b r : Nat) (w : World) (hp0 : 0 < p) (hp : p < B64 ^ 4) (ha : a < B64 ^ 4) (hb : b < B64 ^ 4) (hr : (a + b) % p = r) :
  Calls Tryz.prog 57 #[fv p, i4 a, i4 b] w fun e w' => e = .returned (i4 r) ∧ Fr Nob w w' := by
 subst hr; exact o0t p a b w hp0 hp ha hb
end
section
open Go.RowKit Go.Mv Mvp Mvq
attribute [local irreducible] a0C lw mix cw b0u b0B b0r a0N a0q beN b0G b0f b0C a0M a0S elN mdL a0Q rtV b0J kN kc c0v c0g d0r noR a0R g0b RT.L c0k hB hN d0X c0y rpL mkS
end
section
open Go.RowKit Go.Mv Mvp Mvq
attribute [local irreducible] a0C lw mix cw b0u b0B b0r a0N a0q beN b0G b0f b0C a0M a0S elN mdL a0Q rtV b0J c0g b0N c0K b0b b0v b0H toB a0x a0G b0w c0f a0K c0s b0e a0B c0k d0V d0r noR a0R RT.L rdR kN kc c0m chN h0E v0m rpL
end
section
open Go.RowKit Go.Mv Mvp Mvq
theorem f0H (s : List UInt8) (w : World) : Calls Tryz.prog 77 #[.string (mkS s)] w fun e w' => ∃ X Y Z : K, e = .returned (.tuple #[rpV X Y Z, .bool (b0N s)]) ∧ (b0N s = true → rpL X Y Z = (rdR s).L) ∧ Fr Nob w w' := by
 have h := A0w (mkS s) w
 rwa [a0L] at h
theorem c0I (s : List UInt8) (w : World) : Calls Tryz.prog 72 #[.string (mkS s)] w fun e w' => ∃ N : Nat, e = .returned (.tuple #[i4 N, .bool (a0Q mQ s)]) ∧ (a0Q mQ s = true → N = beN s) ∧ Fr Nob w w' := by
 have h := u0L (mkS s) w
 rwa [a0L] at h
theorem y0A (s : List UInt8) (k : Nat) (_hk : k ≤ s.length) : (mkS s).extract 0 k = mkS (s.take k) := by
 apply ByteArray.ext
 apply Array.toList_inj.1
 simp [mkS]
theorem y0B (s : List UInt8) (k : Nat) : (mkS s).extract k (mkS s).size = mkS (s.drop k) := by
 apply ByteArray.ext
 apply Array.toList_inj.1
 rw [a0t]
 simp [mkS, List.take_of_length_le]
attribute [local irreducible] a0C lw mix cw b0u b0B b0r a0N a0q beN b0G b0f b0C a0M a0S elN mdL a0Q rtV b0J c0g b0N c0K b0b b0v b0H toB a0x a0G b0w c0f a0K c0s b0e a0B c0k d0V d0r noR a0R RT.L rdR kN kc c0m chN h0E v0m rpL e0X
end
end Go.Proofs.YtemcankmggmgoaaGreat
namespace Go.Mv
open Go.RowKit
theorem St.keepO {S : Nat → Prop} {w0 w w' : World} {bl : List (Nat × List Value × TypeId)} {base sz n : Nat} {T : TypeId} {v : Value} {L : List Value} (h : St S w0 w bl) (ho : Own w base T sz v n L) (hf : Fr (j0M v) w w') (hb : w0.heap.size ≤ base) (hT : ∀ x ∈ bl, T ≠ x.2.2) : St S w0 w' bl :=
 ⟨ho.fr h.fr hb hf, h.own, fun x hx => (h.has x hx).keep hf (fun hk => ho.ne (h.has x hx) (hT x hx) hk), h.ne⟩
end Go.Mv
namespace Go.Proofs.YtemcankmggmgoaaGreat
section
open Go.RowKit Go.Mv Mvp Mvq
attribute [local irreducible] hTT hRR f0K l0U PT.pt e0h
noncomputable def poF (v b : List UInt8) : List UInt8 := c0g (b0a (b0b (chN a0H [v, b]) hTT.pt) (b0b (chN a0I [v, b]) gP))
noncomputable def poC (v b : List UInt8) : Nat := c0m (cmS v b) (poF v b)
noncomputable def poS (v b : List UInt8) : List UInt8 := poF v b ++ b0f ((chN a0H [v, b] + poC v b * beN v) % mQ.M) ++ b0f ((chN a0I [v, b] + poC v b * beN b) % mQ.M)
def poE (v b : List UInt8) : Int := if a0T mQ [v, b] = true then 0 else 3
noncomputable def poR (v b : List UInt8) : List UInt8 := if a0T mQ [v, b] = true then poS v b else []
theorem h0j (v b : List UInt8) : (poF v b).length = 33 := d0d _
theorem q0E (a b : List UInt8) : c0m a b < mQ.M := by unfold c0m h0E; exact A0c _ _
theorem C0A (v b : List UInt8) : cmS (b0f (chN a0H [v, b] % mQ.M)) (b0f (chN a0I [v, b] % mQ.M)) = poF v b := by
 rw [(n0J (g0S _) (g0S _)).2, q0u, q0u, Nat.mod_eq_of_lt (q0l _ _), Nat.mod_eq_of_lt (q0l _ _)]
 rfl
theorem v0f {v b : List UInt8} (h1 : a0Q mQ v = true) (h2 : a0Q mQ b = true) : (cmS v b).length = 33 := by rw [(n0J h1 h2).2]; exact d0d _
theorem k0E (vv vr : Value) (lv lr : List UInt8) (w : World) (hpv : BPart w vv lv) (hpr : BPart w vr lr) (hv : a0Q mQ lv = true) (hr : a0Q mQ lr = true) :
  Calls Tryz.prog 33 #[vv, vr] w fun e w' => ∃ v, e = .returned (.tuple #[v, .int .i64 0]) ∧ OwnB1 w w' v (cmS lv lr) ∧ Fr Nob w w' := by
 refine (n0I vv vr lv lr w hpv hpr hv hr).mono ?_
 rintro e w' ⟨v, rfl, ho, hf⟩
 have e1 : (j0z [(beN lv, hTT), (beN lr, e0h)]).pt = b0a (b0b (beN lv) hTT.pt) (b0b (beN lr) gP) := by
  rw [o0Q _ (by
   intro t ht
   simp only [List.mem_cons, List.not_mem_nil, or_false] at ht
   rcases ht with rfl | rfl
   ·exact Nat.lt_trans (d0y hv) ap14
   ·exact Nat.lt_trans (d0y hr) ap14)]
  show b0a (b0b (beN lv) hTT.pt) (b0a (b0b (beN lr) e0h.pt) .O) = _
  rw [b0F, l0z]
  rfl
 rw [e1, ← (n0J hv hr).2] at ho
 exact ⟨v, rfl, OwnB1.of ho (v0f hv hr), hf⟩
attribute [local irreducible] a0C lw mix cw b0u b0B b0r a0N a0q beN b0G b0f b0C a0M a0S elN mdL a0Q rtV b0J c0g b0N c0K a0T e0d l0R j0s b0b b0v b0H toB a0x a0G b0w c0f a0K c0s b0e a0B c0k d0V d0i c0m chN tS e0X a0Z poC poF
theorem n0N (av : Option Addr) (nv cv : Nat) (v : List UInt8) (ab : Option Addr) (nb cb : Nat) (b : List UInt8) (w : World) (hv : PartIs w (.slice av nv cv) v) (hb : PartIs w (.slice ab nb cb) b) (hn : a0T mQ [v, b] = false) : Calls Tryz.prog 19 #[.slice av nv cv, .slice ab nb cb] w fun e w' => e = .returned (.tuple #[.slice none 0 0, .int .i64 3]) ∧ Fr Nob w w' := by
 have HV := qH hv
 have HB := qH hb
 have HN := qH hn
 clear hv hb hn
 have st0 := St.start Nob w
 go_enter Tryz.func19, Tryz.ntmps19
 go_wp2_with (with_reducible refine wSk 18 ?_)
 refine c0i rfl rfl Tryz.underlying39 e0S [.slice av nv cv, .slice ab nb cb] rfl (by simp; exact ⟨rfl, rfl⟩) rfl rfl ?_
 intro w1 hh1 hf1 hz1
 have st1 := st0.keep hf1
 have HSL := qH hh1
 clear hh1 hf1 hz1 st0
 generalize w.heap.size = gl18 at *
 go_wp2_with fail
 refine (D0s (some ⟨gl18, 0, none⟩) 2 2 [.slice av nv cv, .slice ab nb cb] [v, b] _ (Rd.whole HSL.out) (BParts.two (b0M (HV.out.still st1.fr)) (b0M (HB.out.still st1.fr))) ap14 HN.out).mono ?_
 rintro e' w2 ⟨rfl, hf2⟩
 have st2 := st1.keep hf2
 clear st1 hf2
 clear HSL
 have hfr := st2.fr
 clear st2
 go_wp2_with fail
 go_ret2
 exact ⟨rfl, hfr⟩
theorem n0O (av : Option Addr) (nv cv : Nat) (v : List UInt8) (ab : Option Addr) (nb cb : Nat) (b : List UInt8) (w : World) (hv : PartIs w (.slice av nv cv) v) (hb : PartIs w (.slice ab nb cb) b) (hn : a0T mQ [v, b] = true) : Calls Tryz.prog 19 #[.slice av nv cv, .slice ab nb cb] w fun e w' => ∃ q, e = .returned (.tuple #[q, .int .i64 0]) ∧ OwnB1 w w' q (poS v b) ∧ Fr Nob w w' := by
 have HNV := qH (C0w hn).1
 have HNB := qH (C0w hn).2
 have HV := qH hv
 have HB := qH hb
 have HN := qH hn
 clear hv hb hn
 have st0 := St.start Nob w
 go_enter Tryz.func19, Tryz.ntmps19
 go_wp2_with (with_reducible refine wSk 18 ?_)
 refine c0i rfl rfl Tryz.underlying39 e0S [.slice av nv cv, .slice ab nb cb] rfl (by simp; exact ⟨rfl, rfl⟩) rfl rfl ?_
 intro w1 hh1 hf1 hz1
 have st1 := st0.keep hf1
 have HSL := qH hh1
 clear hh1 hf1 hz1 st0
 generalize w.heap.size = gl18 at *
 go_wp2_with fail
 refine (D0r (some ⟨gl18, 0, none⟩) 2 2 [.slice av nv cv, .slice ab nb cb] [v, b] _ (Rd.whole HSL.out) (BParts.two (b0M (HV.out.still st1.fr)) (b0M (HB.out.still st1.fr))) ap14 HN.out).mono ?_
 rintro e' w2 ⟨vl, rfl, ho, hf2⟩
 have st2 := st1.keep hf2
 have HW := qH ho
 clear ho
 clear st1 hf2
 clear HSL
 have HW2 := HW.out
 obtain ⟨al, cl, rfl, -, hrl, -⟩ := HW2.form
 rw [D0Y] at hrl
 obtain ⟨bl, ol, rfl, -⟩ := hrl.at ap16
 have HRL := qH hrl
 clear hrl HW HW2
 have FW := qH st2.fr
 clear st2
 have stB := St.start Nob w2
 have HV2 := qH (HV.out.still FW.out)
 have HB2 := qH (HB.out.still FW.out)
 clear HV HB
 go_wp2_with (with_reducible refine wSk 26 ?_)
 refine c0i rfl rfl Tryz.underlying39 e0S [.slice av nv cv, .slice ab nb cb] rfl (by simp; exact ⟨rfl, rfl⟩) rfl rfl ?_
 intro w3 hh3 hf3 hz3
 have st3 := stB.keep hf3
 have HSL := qH hh3
 clear hh3 hf3 hz3 stB
 generalize w2.heap.size = gl26 at *
 go_wp2_with fail
 refine (q0m ⟨#[110, 111, 110, 99, 101, 32, 118, 97, 108, 117, 101]⟩ a0H rfl _ 2 [.slice av nv cv, .slice ab nb cb] [v, b] _ ap14 HSL.out ⟨HV2.out.still st3.fr, HB2.out.still st3.fr, trivial⟩ ap16).mono ?_
 rintro e' w4 ⟨rfl, hf4⟩
 have st4 := st3.keep hf4
 clear st3 hf4
 clear HSL
 go_wp2_with (with_reducible refine wSk 30 ?_)
 refine c0i rfl rfl Tryz.underlying39 e0S [.slice av nv cv, .slice ab nb cb] rfl (by simp; exact ⟨rfl, rfl⟩) rfl rfl ?_
 intro w5 hh5 hf5 hz5
 have st5 := st4.keep hf5
 have HSL := qH hh5
 clear hh5 hf5 hz5 st4
 generalize w4.heap.size = gl30 at *
 go_wp2_with fail
 refine (q0m ⟨#[110, 111, 110, 99, 101, 32, 98, 108, 105, 110, 100]⟩ a0I rfl _ 2 [.slice av nv cv, .slice ab nb cb] [v, b] _ ap14 HSL.out ⟨HV2.out.still st5.fr, HB2.out.still st5.fr, trivial⟩ ap16).mono ?_
 rintro e' w6 ⟨rfl, hf6⟩
 have st6 := st5.keep hf6
 clear st5 hf6
 clear HSL
 go_wp2_with (with_reducible refine wSk 8 ?_)
 refine a0a st6 rfl rfl (z := zAd) ap13 (cw 4 0) ap11 ?_
 intro g8 w7 st7
 clear st6
 go_wp2_with (with_reducible refine wSk 9 ?_)
 refine a0a st7 rfl rfl (z := zAd) ap13 (cw 4 0) ap11 ?_
 intro g9 w8 st8
 clear st7
 go_wp2_with (with_reducible refine wSn ?_)
 refine a0b st8 0 rfl rfl rfl rfl rfl ap7 ap6 (a0g _ _) ?_
 intro w9 st9
 clear st8
 go_wp2_with (with_reducible refine wSn ?_)
 refine a0b st9 1 rfl rfl rfl rfl rfl ap7 ap6 (a0g _ _) ?_
 intro w10 st10
 clear st9
 go_wp2_with fail
 refine (k0E _ _ v b _ (b0M (HV2.out.still st10.fr)) (b0M (HB2.out.still st10.fr)) HNV.out HNB.out).mono ?_
 rintro e' w11 ⟨vc, rfl, ho, hf11⟩
 have st11 := st10.keep hf11
 have HCM := qH (OwnB1.ptb ho (by rw [v0f HNV.out HNB.out]; decide))
 clear ho
 clear st10 hf11
 go_wp2_with fail
 refine wp_region_noPanic ?_
 refine j0H st11 (fun wz => Fr Nob w11 wz) (Fr.refl Nob _).drew (fun _ _ h k => h.then k) 9 [.t 0, .t 2, .c 1, .c 3, .c 4, .w 5, .w 6, .w 7, .w 8] (.m 9 .nil) ap13 ap13 (fun _ _ _ _ _ h => h) ?_
 clear st11
 refine a0d rfl rfl rfl (fun _ => rfl) (cw 4 (elN mQ (chN a0H [v, b]))) (fun wx hS => St.rangeL hS 0 rfl 0 _ dZl) Tryz.underlying68 rfl ap6 ?_
 try simp only [clL]
 refine a0d rfl rfl rfl (fun _ => rfl) (cw 4 (elN mQ (chN a0I [v, b]))) (fun wx hS => St.rangeL hS 1 rfl 0 _ dZl) Tryz.underlying68 rfl ap6 ?_
 try simp only [clL]
 refine b0h (X := Option Addr × Nat) (fun y => .slice y.1 32 y.2) (fun y wx => BPart wx (.slice y.1 32 y.2) (b0f ((chN a0H [v, b]) % mQ.M))) (fun _ _ _ h k => h.still k) rfl rfl rfl Tryz.call51 (fun w hS hR => i0b (chN a0H [v, b]) _) (fun _ => rfl) fun y40 => ?_
 try simp only [clL]
 refine b0h (X := Option Addr × Nat) (fun y => .slice y.1 32 y.2) (fun y wx => BPart wx (.slice y.1 32 y.2) (b0f ((chN a0I [v, b]) % mQ.M))) (fun _ _ _ h k => h.still k) rfl rfl rfl Tryz.call51 (fun w hS hR => i0b (chN a0I [v, b]) _) (fun _ => rfl) fun y42 => ?_
 try simp only [clL]
 refine b0h (X := Value) (fun q => .tuple #[q, .int .i64 0]) (fun q wx => OwnB1 w2 wx q (cmS (b0f ((chN a0H [v, b]) % mQ.M)) (b0f ((chN a0I [v, b]) % mQ.M)))) (fun _ _ _ h k => h.still k) rfl rfl rfl Tryz.call33 (fun w hS hR => (k0E _ _ _ _ _ hR.1.2 hR.2 (g0S _) (g0S _)).mono fun e w' ⟨q, h1, h2, h3⟩ => ⟨q, h1, Own.mono h2 hS.fr.size, h3⟩) (fun _ => rfl) fun vf => ?_
 try simp only [clL]
 refine a0m rfl rfl apX ?_
 try simp only [clL]
 refine a0m rfl rfl apX ?_
 try simp only [clL]
 refine a0m rfl rfl apX ?_
 try simp only [clL]
 refine a0m rfl rfl apX ?_
 try simp only [clL]
 refine a0u fun xq w12 st12 hR => ?_
 try dsimp only
 have HF0 := qH hR.2
 have FC := qH hR.1.1.1
 clear hR xq
 refine a0o rfl rfl ?_
 go_simp
 try simp only [clL]
 refine a0h ?_
 refine NoPanic.normal ?_
 rw [C0A] at HF0
 have HCM2 := qH (HCM.out.still FC.out)
 clear HCM FC
 go_wp2_with fail
 refine ((j0k vc (cmS v b) vf (poF v b) _ HCM2.out (OwnB1.ptb HF0.out (by rw [h0j]; decide))).mono fun e w' h => (show e = .returned (i4 (elN mQ (poC v b))) ∧ Fr Nob _ w' by unfold poC; exact h)).mono ?_
 rintro e' w13 ⟨rfl, hf13⟩
 have st13 := st12.keep hf13
 replace HF0 := qH (Own.still HF0.out hf13)
 clear st12 hf13
 go_wp2_with (with_reducible refine wSk 14 ?_)
 refine c0H st13 rfl rfl A0O (cw 4 0) ap11 ?_
 intro g14 w14 st14 hf hs
 replace HF0 := qH (Own.still HF0.out hf)
 clear st13 hf hs
 go_wp2_with (with_reducible refine wSn ?_)
 refine d0E st14 2 rfl rfl rfl rfl rfl (l0I _ _) (h0F _) (a0g _ _) ?_
 intro w15 st15 hf
 have HF1 := qH (Own.keep HF0.out hf (fun k hk e => Own.ne HF0.out (st14.at 2 rfl) ap14 (by have e2 : k = g14 := e; rw [← e2]; exact hk)))
 clear st14 hf HF0 HCM2
 have HF2 := qH (show OwnB1 _ (World.drew _) _ _ from HF1.out)
 clear HF1
 go_wp2_with fail
 refine wp_region_noPanic ?_
 refine a0p (fun wx => St Nob w2 wx [(g8, cw 4 (elN mQ (chN a0H [v, b])), 68), (g9, cw 4 (elN mQ (chN a0I [v, b])), 68), (g14, cw 4 (elN mQ (poC v b)), 68)]) 16 (.w 0 (.t 1 (.t 2 (.w 3 (.w 4 (.t 5 (.t 9 (.t 10 (.w 11 (.w 12 (.t 13 (.r 6 (.r 7 (.r 8 (.r 14 (.r 15 (.m 16 (.w 17 (.w 18 .nil))))))))))))))))))) ap13 ap13 st15.drew (fun _ _ _ _ _ h => h) ?_
 have hd15 := st15.drew
 clear st15
 refine a0k rfl rfl apW ?_
 try simp only [clL]
 refine a0r rfl rfl rfl rfl (cw 4 (elN mQ (chN a0H [v, b]))) (fun wx hS => St.rangeL hS 0 rfl 0 _ dZl) Tryz.underlying68 rfl ap6 ?_
 try simp only [clL]
 refine a0r rfl rfl rfl rfl (cw 4 (elN mQ (poC v b))) (fun wx hS => St.rangeL hS 2 rfl 0 _ dZl) Tryz.underlying68 rfl ap6 ?_
 try simp only [clL]
 refine a0k rfl rfl apW ?_
 try simp only [clL]
 refine a0k rfl rfl apW ?_
 try simp only [clL]
 refine a0r rfl rfl rfl rfl (cw 4 (elN mQ (beN v))) (fun wx hS => (h0X (HRL.out.still (St.fr hS)) 0 _ (f0h 4 4 _ _))) Tryz.underlying68 rfl ap6 ?_
 try simp only [clL]
 refine a0r rfl rfl rfl rfl (cw 4 (elN mQ (chN a0I [v, b]))) (fun wx hS => St.rangeL hS 1 rfl 0 _ dZl) Tryz.underlying68 rfl ap6 ?_
 try simp only [clL]
 refine a0r rfl rfl rfl rfl (cw 4 (elN mQ (poC v b))) (fun wx hS => St.rangeL hS 2 rfl 0 _ dZl) Tryz.underlying68 rfl ap6 ?_
 try simp only [clL]
 refine a0k rfl rfl apW ?_
 try simp only [clL]
 refine a0k rfl rfl apW ?_
 try simp only [clL]
 refine a0r rfl rfl rfl rfl (cw 4 (elN mQ (beN b))) (fun wx hS => (h0X (HRL.out.still (St.fr hS)) 4 _ (p0C 4 4 _ _))) Tryz.underlying68 rfl ap6 ?_
 try simp only [clL]
 refine a0y rfl rfl ?_
 go_simp
 refine (C0u (chN a0H [v, b]) (poC v b) (beN v) _).mono ?_
 rintro e' w16 ⟨rfl, hf16⟩
 have st16 := hd15.keep hf16
 replace HF2 := qH (Own.still HF2.out hf16)
 clear hf16
 clear hd15
 refine ⟨st16, ?_⟩
 try simp only [clL]
 refine a0y rfl rfl ?_
 go_simp
 refine (i0b ((chN a0H [v, b]) + (poC v b) * beN v) _).mono ?_
 rintro e' w17 ⟨y1, rfl, hb, hf17⟩
 have st17 := st16.keep hf17
 replace HF2 := qH (Own.still HF2.out hf17)
 obtain ⟨ay, ny, cy, hey, -, hry⟩ := hb
 cases hey
 have HY1 := qH (show RdB _ y1.1 32 _ from hry)
 clear hry
 clear hf17
 clear st16
 refine ⟨st17, ?_⟩
 try simp only [clL]
 refine a0y rfl rfl ?_
 refine k0x rfl Tryz.underlying22 b0l rfl ap14 HF2.out rfl rfl HY1.out (i0d _) (by rw [h0j]; decide) (by rw [h0j]; decide) st17.fr.size ?_
 intro va wa hown hfa
 have st18 := st17.keepO HF2.out hfa (Nat.le_refl _) (by intro x hx; simp only [List.mem_cons, List.not_mem_nil, or_false, List.cons_append, List.nil_append, List.set_cons_zero, List.set_cons_succ] at hx; rcases hx with rfl | rfl | rfl <;> (first | decide | (dsimp only; decide)))
 have HOW := qH hown
 clear hown hfa HF2 HY1
 refine ⟨st18, ?_⟩
 try simp only [clL]
 refine a0y rfl rfl ?_
 go_simp
 refine (C0u (chN a0I [v, b]) (poC v b) (beN b) _).mono ?_
 rintro e' w19 ⟨rfl, hf19⟩
 have st19 := st18.keep hf19
 replace HOW := qH (Own.still HOW.out hf19)
 clear hf19
 clear st18
 refine ⟨st19, ?_⟩
 try simp only [clL]
 refine a0y rfl rfl ?_
 go_simp
 refine (i0b ((chN a0I [v, b]) + (poC v b) * beN b) _).mono ?_
 rintro e' w20 ⟨y2, rfl, hb, hf20⟩
 have st20 := st19.keep hf20
 have HOW2 := qH (Own.still HOW.out hf20)
 clear HOW
 obtain ⟨ay, ny, cy, hey, -, hry⟩ := hb
 cases hey
 have HY2 := qH (show RdB _ y2.1 32 _ from hry)
 clear hry
 clear hf20
 clear st19
 refine ⟨st20, ?_⟩
 try simp only [clL]
 refine a0o rfl rfl ?_
 refine k0x rfl Tryz.underlying22 b0l rfl ap14 HOW2.out rfl rfl HY2.out (i0d _) (by rw [h0j]; decide) (by rw [h0j]; decide) st20.fr.size ?_
 intro vb2 wb hown hfa
 have st21 := St.ofFr ((HOW2.out).fr st20.fr (Nat.le_refl _) hfa)
 have HOWN := qH hown
 clear hown hfa
 try simp only [clL]
 refine a0k rfl rfl apW ?_
 try simp only [clL]
 refine a0k rfl rfl apW ?_
 try simp only [clL]
 refine a0h ?_
 refine NoPanic.normal ?_
 clear HY2 HOW2
 have hfr := FW.out.then st21.fr
 clear st21
 go_wp2_with fail
 go_ret2
 refine ⟨vb2, rfl, ?_, hfr⟩
 have h := HOWN.out
 rw [← d0e, ← d0e] at h
 exact OwnB1.of (Own.mono h FW.out.size) (by unfold poS; simp only [List.length_append, a0Y, h0j])
end
section
open Go.RowKit Go.Mv Mvp Mvq
def s1L (s : List UInt8) : List UInt8 := (s.drop 33).take 32
def s2L (s : List UInt8) : List UInt8 := s.drop 65
def voG (c s : List UInt8) : Bool := b0N c && (decide (s.length = 97) && b0N (s.take 33))
open Classical in
noncomputable def voB (c s : List UInt8) : Bool := voG c s && ((a0Q mQ (s1L s) && a0Q mQ (s2L s)) && decide (cmS (s1L s) (s2L s) = c0g (b0a (c0K (s.take 33)) (b0b (c0m c (s.take 33)) (c0K c)))))
theorem A0Q {c s : List UInt8} (h : voG c s = false) : voB c s = false := by unfold voB; rw [h]; rfl
theorem D0J {c s : List UInt8} (h : (a0Q mQ (s1L s) && a0Q mQ (s2L s)) = false) : voB c s = false := by unfold voB; rw [h]; simp
open Classical in
theorem D0K {c s : List UInt8} (h : voG c s = true) (h2 : (a0Q mQ (s1L s) && a0Q mQ (s2L s)) = true) : voB c s = decide (cmS (s1L s) (s2L s) = c0g (b0a (c0K (s.take 33)) (b0b (c0m c (s.take 33)) (c0K c)))) := by
 unfold voB; simp only [h, h2, Bool.true_and]
theorem x0F {F P : List UInt8} (c : Nat) (hF : b0N F = true) (hP : b0N P = true) : j0s (zB [1, c]) [F, P] = c0g (b0a (c0K F) (b0b c (c0K P))) := by
 rw [C0v _ _ rfl ap16 (by intro l hl; simp only [List.mem_cons, List.not_mem_nil, or_false] at hl; rcases hl with rfl | rfl <;> assumption)]
 simp only [List.zipWith_cons_cons, List.zipWith_nil_left, e0X]
 rw [b0F, C0t]
theorem l0V {w : World} {b o n c : Nat} {l : List UInt8} (h : PartIs w (.slice (some ⟨b, o, none⟩) n c) l) (k m : Nat) (hk : k ≤ n) (hm : m ≤ n - k) : PartIs w (.slice (some ⟨b, o + k, none⟩) m (c - k)) ((l.drop k).take m) := f0E (f0F h k hk) m hm
theorem e0T {P : Program} (w : World) {ty e : TypeId} (hu : P.underlying ty = some (.slice e)) (hsz : (P.info? e).map (·.size) = some 1) (b o n c : Nat) (k : IntKind) (l h : Nat) (hl : l < c) (hlh : l ≤ h) (hh : h ≤ c) :
  (Instr.sliceAt ty (.slice (some ⟨b, o, none⟩) n c) (some (.int k (l : Int))) (some (.int k (h : Int))) none).run P w = .ok (.slice (some ⟨b, o + l, none⟩) (h - l) (c - l)) w := by
 obtain ⟨i, hi1, hi2⟩ : ∃ i, P.info? e = some i ∧ i.size = 1 := by simpa using hsz
 have hne : ¬ c = l := by omega
 simp [Instr.sliceAt, Instr.slice, run_underlying hu, Instr.sliceBounds, b0c, hh, hlh, sizeOf, typeInfo, hi1, hi2, hne, Addr.add]
theorem k0F {P : Program} {ops : Array Oper} {Q : Exit → Act → World → Prop} {a : Act} {w : World} {rest : List Oper} {d : Option Tmp} {op : Op} {ty : TypeId} {ps : String} {af : Array _} {gd : Option (Nat × Bool)}
  (hw : Region.wanted (⟨d, op, ty, ps, af, gd⟩ : Oper) (yielded ops a.tmps) = true) (h : wpList P ops Q (⟨d, op, ty, ps, af, none⟩ :: rest) a w) : wpList P ops Q (⟨d, op, ty, ps, af, gd⟩ :: rest) a w := by
 have h0 : Region.wanted (⟨d, op, ty, ps, af, none⟩ : Oper) (yielded ops a.tmps) = true := rfl
 simp only [wpList, hw, h0, if_true] at h ⊢
 exact h
attribute [local irreducible] a0C lw mix cw b0u b0B b0r a0N a0q beN b0G b0f b0C a0M a0S elN mdL a0Q rtV b0J c0g b0N c0K a0T e0d l0R j0s b0b b0v b0H toB a0x a0G b0w c0f a0K c0s b0e a0B c0k d0V d0i c0m chN tS e0X a0Z poC poF cmS cmE voG voB
theorem E0d (ac : Option Addr) (nc cc : Nat) (c : List UInt8) (as_ : Option Addr) (ns cs : Nat) (s : List UInt8) (w : World) (hc : PartIs w (.slice ac nc cc) c) (_hs : PartIs w (.slice as_ ns cs) s) (hq : b0N c = false) : Calls Tryz.prog 21 #[.slice ac nc cc, .slice as_ ns cs] w fun e w' => e = .returned (.bool false) ∧ Fr Nob w w' := by
 have HC := qH hc
 have HQ := qH hq
 clear hc _hs hq
 have st0 := St.start Nob w
 go_enter Tryz.func21, Tryz.ntmps21
 go_wp2_with fail
 refine (h0z _ c _ (b0M (HC.out.still st0.fr)) HQ.out).mono ?_
 rintro e' w1 ⟨rfl, hf1⟩
 have st1 := st0.keep hf1
 clear st0 hf1
 have hfr := st1.fr
 clear st1
 go_wp2_with fail
 go_ret
 exact ⟨rfl, hfr⟩
theorem E0e (ac : Option Addr) (nc cc : Nat) (c : List UInt8) (as_ : Option Addr) (ns cs : Nat) (s : List UInt8) (w : World) (hc : PartIs w (.slice ac nc cc) c) (_hs : PartIs w (.slice as_ ns cs) s) (hq : b0N c = true) (hl : ns ≠ 97) : Calls Tryz.prog 21 #[.slice ac nc cc, .slice as_ ns cs] w fun e w' => e = .returned (.bool false) ∧ Fr Nob w w' := by
 have HC := qH hc
 have HQ := qH hq
 have hne : ((ns : Int) != 97) = true := by simp; omega
 clear hc _hs hq hl
 have st0 := St.start Nob w
 go_enter Tryz.func21, Tryz.ntmps21
 go_wp2_with fail
 refine (d0a _ c _ (b0M (HC.out.still st0.fr)) HQ.out).mono ?_
 rintro e' w1 ⟨rfl, hf1⟩
 have st1 := st0.keep hf1
 clear st0 hf1
 have hfr := st1.fr
 clear st1
 go_wp2_with fail
 go_ret
 exact ⟨rfl, hfr⟩
theorem E0f (ac : Option Addr) (nc cc : Nat) (c : List UInt8) (b o cs : Nat) (s : List UInt8) (w : World) (hc : PartIs w (.slice ac nc cc) c) (hs : PartIs w (.slice (some ⟨b, o, none⟩) 97 cs) s) (hq : b0N c = true) (ho : b0N (s.take 33) = false) : Calls Tryz.prog 21 #[.slice ac nc cc, .slice (some ⟨b, o, none⟩) 97 cs] w fun e w' => e = .returned (.bool false) ∧ Fr Nob w w' := by
 have hcs : 97 ≤ cs := by obtain ⟨a', n', c', he, hc, -⟩ := hs; cases he; exact hc
 have HC := qH hc
 have HQ := qH hq
 have HSF := qH (f0E hs 33 ap14)
 have HS1 := qH (b0M (l0V hs 33 32 ap14 ap14))
 have HS2 := qH (b0M (f0F hs 65 ap14))
 have k1 := fun wx => c0l (P := Tryz.prog) wx Tryz.underlying22 c0h (some ⟨b, o, none⟩) 97 cs .i64 33 ap15
 have k2 := fun wx => e0T (P := Tryz.prog) wx Tryz.underlying22 c0h b o 97 cs .i64 33 65 ap15 ap14 ap15
 have hcI : (33 : Int) ≤ (cs : Int) := by omega
 have hcJ : (65 : Int) ≤ (cs : Int) := by omega
 have hcN : ¬ (cs = 33) := by omega
 have hcM : ¬ (cs = 65) := by omega
 have HO := qH ho
 clear hc hs hq ho hcs
 have st0 := St.start Nob w
 go_enter Tryz.func21, Tryz.ntmps21
 go_wp2_with fail
 refine (d0a _ c _ (b0M (HC.out.still st0.fr)) HQ.out).mono ?_
 rintro e' w1 ⟨rfl, hf1⟩
 have st1 := st0.keep hf1
 clear st0 hf1
 go_wp2_with fail
 refine (h0z _ (s.take 33) _ (b0M (HSF.out.still st1.fr)) HO.out).mono ?_
 rintro e' w2 ⟨rfl, hf2⟩
 have st2 := st1.keep hf2
 clear st1 hf2
 have hfr := st2.fr
 clear st2
 go_wp2_with fail
 go_ret
 exact ⟨rfl, hfr⟩
theorem E0g (ac : Option Addr) (nc cc : Nat) (c : List UInt8) (b o cs : Nat) (s : List UInt8) (w : World) (hc : PartIs w (.slice ac nc cc) c) (hs : PartIs w (.slice (some ⟨b, o, none⟩) 97 cs) s) (hq : b0N c = true) (ho : b0N (s.take 33) = true) (hn : (a0Q mQ (s1L s) && a0Q mQ (s2L s)) = false) : Calls Tryz.prog 21 #[.slice ac nc cc, .slice (some ⟨b, o, none⟩) 97 cs] w fun e w' => e = .returned (.bool false) ∧ Fr Nob w w' := by
 have hcs : 97 ≤ cs := by obtain ⟨a', n', c', he, hc, -⟩ := hs; cases he; exact hc
 have HC := qH hc
 have HQ := qH hq
 have HSF := qH (f0E hs 33 ap14)
 have HS1 := qH (b0M (l0V hs 33 32 ap14 ap14))
 have HS2 := qH (b0M (f0F hs 65 ap14))
 have k1 := fun wx => c0l (P := Tryz.prog) wx Tryz.underlying22 c0h (some ⟨b, o, none⟩) 97 cs .i64 33 ap15
 have k2 := fun wx => e0T (P := Tryz.prog) wx Tryz.underlying22 c0h b o 97 cs .i64 33 65 ap15 ap14 ap15
 have hcI : (33 : Int) ≤ (cs : Int) := by omega
 have hcJ : (65 : Int) ≤ (cs : Int) := by omega
 have hcN : ¬ (cs = 33) := by omega
 have hcM : ¬ (cs = 65) := by omega
 have HO := qH ho
 have HE := qH (v0e hn).1
 clear hc hs hq ho hcs hn
 have st0 := St.start Nob w
 go_enter Tryz.func21, Tryz.ntmps21
 go_wp2_with fail
 refine (d0a _ c _ (b0M (HC.out.still st0.fr)) HQ.out).mono ?_
 rintro e' w1 ⟨rfl, hf1⟩
 have st1 := st0.keep hf1
 clear st0 hf1
 go_wp2_with fail
 refine (d0a _ (s.take 33) _ (b0M (HSF.out.still st1.fr)) HO.out).mono ?_
 rintro e' w2 ⟨rfl, hf2⟩
 have st2 := st1.keep hf2
 clear st1 hf2
 go_wp2_with fail
 refine wp_region_noPanic ?_
 refine a0e st2 9 [.w 0, .w 1, .w 2, .w 3, .c 4, .w 5, .w 6, .w 7, .w 8] (.m 9 .nil) ap13 ap13 (fun _ _ _ _ _ h => h) ?_
 clear st2
 refine a0m rfl rfl apX ?_
 try simp only [clL]
 refine a0m rfl rfl apX ?_
 try simp only [clL]
 refine a0m rfl rfl apX ?_
 try simp only [clL]
 refine a0m rfl rfl apX ?_
 try simp only [clL]
 refine b0h (X := Value) (fun q => .tuple #[q, .int .i64 (cmE (s1L s) (s2L s))]) (fun q wx => BPart wx q (cmS (s1L s) (s2L s))) (fun _ _ _ h k => h.still k) rfl rfl rfl Tryz.call33 (fun w hS hR => q0C (.slice (some ⟨b, o + 33, none⟩) 32 (cs - 33)) (.slice (some ⟨b, o + 65, none⟩) (97 - 65) (cs - 65)) (s1L s) (s2L s) _ (HS1.out.still hS.fr) (HS2.out.still hS.fr)) (fun _ => rfl) fun vl => ?_
 try simp only [clL]
 refine a0m rfl rfl apX ?_
 try simp only [clL]
 refine a0m rfl rfl apX ?_
 try simp only [clL]
 refine a0m rfl rfl apX ?_
 try simp only [clL]
 refine a0m rfl rfl apX ?_
 try simp only [clL]
 refine a0u fun xq w3 st3 hR => ?_
 try dsimp only
 have HL := qH hR.2
 clear hR xq
 refine a0o rfl rfl ?_
 go_simp
 try simp only [clL]
 refine a0h ?_
 refine NoPanic.normal ?_
 clear k1 k2 hcI hcJ hcN hcM HS1 HS2
 rw [HE.out]
 clear HL
 have hfr := st3.fr
 clear st3
 go_wp2_with fail
 go_ret
 exact ⟨rfl, hfr⟩
theorem E0h (ac : Option Addr) (nc cc : Nat) (c : List UInt8) (b o cs : Nat) (s : List UInt8) (w : World) (hc : PartIs w (.slice ac nc cc) c) (hs : PartIs w (.slice (some ⟨b, o, none⟩) 97 cs) s) (hq : b0N c = true) (ho : b0N (s.take 33) = true) (hn : (a0Q mQ (s1L s) && a0Q mQ (s2L s)) = true) : Calls Tryz.prog 21 #[.slice ac nc cc, .slice (some ⟨b, o, none⟩) 97 cs] w fun e w' => e = .returned (.bool (voB c s)) ∧ Fr Nob w w' := by
 obtain ⟨B, hB⟩ : ∃ B, decide ((cmS (s1L s) (s2L s)) = (c0g (b0a (c0K (s.take 33)) (b0b (c0m c (s.take 33)) (c0K c))))) = B := ⟨_, rfl⟩
 have hl := n0F hs
 have HDB := qH (show B = voB c s by
  rw [← hB, D0K (by unfold voG; rw [hq, ho, decide_eq_true hl]; rfl) hn])
 have HB := qH hB
 have HSUM := qH (x0F (c0m c (s.take 33)) ho hq)
 clear hB hl
 have hcs : 97 ≤ cs := by obtain ⟨a', n', c', he, hc, -⟩ := hs; cases he; exact hc
 have HC := qH hc
 have HQ := qH hq
 have HSF := qH (f0E hs 33 ap14)
 have HS1 := qH (b0M (l0V hs 33 32 ap14 ap14))
 have HS2 := qH (b0M (f0F hs 65 ap14))
 have k1 := fun wx => c0l (P := Tryz.prog) wx Tryz.underlying22 c0h (some ⟨b, o, none⟩) 97 cs .i64 33 ap15
 have k2 := fun wx => e0T (P := Tryz.prog) wx Tryz.underlying22 c0h b o 97 cs .i64 33 65 ap15 ap14 ap15
 have hcI : (33 : Int) ≤ (cs : Int) := by omega
 have hcJ : (65 : Int) ≤ (cs : Int) := by omega
 have hcN : ¬ (cs = 33) := by omega
 have hcM : ¬ (cs = 65) := by omega
 have HO := qH ho
 have HE := qH (by rw [Bool.and_eq_true] at hn; exact (n0J hn.1 hn.2).1 : cmE (s1L s) (s2L s) = 0)
 clear hc hs hq ho hcs hn
 have st0 := St.start Nob w
 go_enter Tryz.func21, Tryz.ntmps21
 go_wp2_with fail
 refine (d0a _ c _ (b0M (HC.out.still st0.fr)) HQ.out).mono ?_
 rintro e' w1 ⟨rfl, hf1⟩
 have st1 := st0.keep hf1
 clear st0 hf1
 go_wp2_with fail
 refine (d0a _ (s.take 33) _ (b0M (HSF.out.still st1.fr)) HO.out).mono ?_
 rintro e' w2 ⟨rfl, hf2⟩
 have st2 := st1.keep hf2
 clear st1 hf2
 go_wp2_with fail
 refine wp_region_noPanic ?_
 refine a0e st2 9 [.w 0, .w 1, .w 2, .w 3, .c 4, .w 5, .w 6, .w 7, .w 8] (.m 9 .nil) ap13 ap13 (fun _ _ _ _ _ h => h) ?_
 clear st2
 refine a0m rfl rfl apX ?_
 try simp only [clL]
 refine a0m rfl rfl apX ?_
 try simp only [clL]
 refine a0m rfl rfl apX ?_
 try simp only [clL]
 refine a0m rfl rfl apX ?_
 try simp only [clL]
 refine b0h (X := Value) (fun q => .tuple #[q, .int .i64 (cmE (s1L s) (s2L s))]) (fun q wx => BPart wx q (cmS (s1L s) (s2L s))) (fun _ _ _ h k => h.still k) rfl rfl rfl Tryz.call33 (fun w hS hR => q0C (.slice (some ⟨b, o + 33, none⟩) 32 (cs - 33)) (.slice (some ⟨b, o + 65, none⟩) (97 - 65) (cs - 65)) (s1L s) (s2L s) _ (HS1.out.still hS.fr) (HS2.out.still hS.fr)) (fun _ => rfl) fun vl => ?_
 try simp only [clL]
 refine a0m rfl rfl apX ?_
 try simp only [clL]
 refine a0m rfl rfl apX ?_
 try simp only [clL]
 refine a0m rfl rfl apX ?_
 try simp only [clL]
 refine a0m rfl rfl apX ?_
 try simp only [clL]
 refine a0u fun xq w3 st3 hR => ?_
 try dsimp only
 have HL := qH hR.2
 clear hR xq
 refine a0o rfl rfl ?_
 go_simp
 try simp only [clL]
 refine a0h ?_
 refine NoPanic.normal ?_
 clear k1 k2 hcI hcJ hcN hcM HS1 HS2
 rw [HE.out]
 have HL2 := HL.out
 obtain ⟨al, nl, cl, rfl, -, hrl⟩ := HL2
 have HK0 := qH hrl
 clear hrl HL HE
 go_wp2_with fail
 refine (r0t mQ .one 1 ap14 _).mono ?_
 rintro e' w4 ⟨rfl, hf4⟩
 have st4 := st3.keep hf4
 have HK1 := qH (HK0.out.still hf4)
 clear HK0
 clear st3 hf4
 go_wp2_with fail
 refine (j0k (.slice ac nc cc) c (.slice (some ⟨b, o, none⟩) 33 cs) (s.take 33) _ (HC.out.still st4.fr) (HSF.out.still st4.fr)).mono ?_
 rintro e' w5 ⟨rfl, hf5⟩
 have st5 := st4.keep hf5
 have HK2 := qH (HK1.out.still hf5)
 clear HK1
 clear st4 hf5
 go_wp2_with (with_reducible refine wSk 40 ?_)
 refine k0F (by first | rfl | go_simp) ?_
 refine g0D rfl rfl Tryz.underlying93 t0q [i4 (elN mQ 1), i4 (elN mQ (c0m c (s.take 33)))] rfl (by intro u hu; simp only [List.mem_cons, List.not_mem_nil, or_false] at hu; rcases hu with rfl | rfl <;> exact D0q _) rfl (d0i [1, c0m c (s.take 33)]) (by unfold d0i; simp [p0z]) ?_
 intro w6 hh6 hf6 hz6
 have st6 := st5.keep hf6
 have HZ := qH hh6
 have HK3 := qH (HK2.out.still hf6)
 clear HK2
 clear hh6 hf6 hz6 st5
 generalize w5.heap.size = gl40 at *
 go_wp2_with (with_reducible refine wSk 43 ?_)
 refine k0F (by first | rfl | go_simp) ?_
 refine c0i rfl rfl Tryz.underlying39 e0S [.slice (some ⟨b, o, none⟩) 33 cs, .slice ac nc cc] rfl (by simp; exact ⟨rfl, rfl⟩) rfl rfl ?_
 intro w7 hh7 hf7 hz7
 have st7 := st6.keep hf7
 have HU := qH hh7
 have HK4 := qH (HK3.out.still hf7)
 clear HK3
 have HZ2 := qH (HZ.out.keep hf7 id)
 clear HZ
 clear hh7 hf7 hz7 st6
 generalize w6.heap.size = gl43 at *
 go_wp2_with fail
 refine (D0o (some ⟨gl40, 0, none⟩) 2 [1, c0m c (s.take 33)] (some ⟨gl43, 0, none⟩) 2 [.slice (some ⟨b, o, none⟩) 33 cs, .slice ac nc cc] [s.take 33, c] _ (by have h := Rd.whole HZ2.out; rwa [r0R] at h) ap16 (Rd.whole HU.out) (BParts.two (b0M (HSF.out.still st7.fr)) (b0M (HC.out.still st7.fr)))).mono ?_
 rintro e' w8 ⟨v, rfl, ho, hf8⟩
 have st8 := st7.keep hf8
 rw [HSUM.out] at ho
 obtain ⟨av, nv, cv, rfl, -, hrv⟩ := b0M (OwnB1.ptb ho (by rw [d0d]; decide))
 have HRV := qH hrv
 clear hrv ho
 have HK5 := qH (HK4.out.still hf8)
 clear HK4
 clear st7 hf8
 clear HU HZ2 HSUM HC HSF
 go_wp2_with fail
 refine (u0j al nl cl (cmS (s1L s) (s2L s)) av nv cv (c0g (b0a (c0K (s.take 33)) (b0b (c0m c (s.take 33)) (c0K c)))) _ HK5.out HRV.out).mono ?_
 rintro e' w' ⟨rfl, rfl⟩
 rw [HB.out]
 clear HK5 HRV HB
 have hfr := st8.fr
 clear st8
 go_wp2_with fail
 go_ret
 exact ⟨by rw [← HDB.out]; rfl, hfr⟩
theorem n0P (ac : Option Addr) (nc cc : Nat) (c : List UInt8) (as_ : Option Addr) (ns cs : Nat) (s : List UInt8) (w : World) (hc : PartIs w (.slice ac nc cc) c) (hs : PartIs w (.slice as_ ns cs) s) : Calls Tryz.prog 21 #[.slice ac nc cc, .slice as_ ns cs] w fun e w' => e = .returned (.bool (voB c s)) ∧ Fr Nob w w' := by
 have hl := n0F hs
 cases h1 : b0N c with
 | false => rw [A0Q (by unfold voG; rw [h1]; rfl)]; exact E0d ac nc cc c as_ ns cs s w hc hs h1
 | true =>
  by_cases h2 : ns = 97
  ·subst h2
   obtain ⟨b, o, rfl, -⟩ := (u0M hs).at ap14
   cases h3 : b0N (s.take 33) with
   | false => rw [A0Q (by unfold voG; rw [h3]; simp)]; exact E0f ac nc cc c b o cs s w hc hs h1 h3
   | true =>
    cases h4 : (a0Q mQ (s1L s) && a0Q mQ (s2L s)) with
    | false => rw [D0J h4]; exact E0g ac nc cc c b o cs s w hc hs h1 h3 h4
    | true => exact E0h ac nc cc c b o cs s w hc hs h1 h3 h4
  ·rw [A0Q (by unfold voG; rw [hl, decide_eq_false h2]; simp)]
   exact E0e ac nc cc c as_ ns cs s w hc hs h1 h2
end
section
open Go.RowKit Go.Mv Mvp Mvq
theorem v0g {a b : Nat} (ha : a < B64 ^ 4) (hb : b < B64 ^ 4) : (d0r (a0R a hRR) (a0R b e0i)).pt = b0a (b0b a hTT.pt) (b0b b gP) := by
 rw [j0p, j0q _ ha, j0q _ hb, x0o]
 unfold hRR hTT
 rw [x0D]
 rfl
theorem x0G {v b : List UInt8} (h : a0T mQ [v, b] = false) : poE v b = 3 ∧ poR v b = [] := by unfold poE poR; rw [h]; exact ⟨rfl, rfl⟩
theorem x0H {v b : List UInt8} (h : a0T mQ [v, b] = true) : poE v b = 0 ∧ poR v b = poS v b := by unfold poE poR; rw [h]; exact ⟨rfl, rfl⟩
theorem v0h (s : List UInt8) (k m : Nat) (hk : k ≤ m) (_hm : m ≤ s.length) : (mkS s).extract k m = mkS ((s.drop k).take (m - k)) := by
 apply ByteArray.ext
 apply Array.toList_inj.1
 simp [mkS, List.take_drop, Nat.add_sub_cancel' hk]
open Classical in
theorem C0B {p q : Pt} (hp : onC p) (hq : onC q) : decide (c0g p = c0g q) = decide (p = q) := decide_eq_decide.2 ⟨fun h => by have h2 := congrArg c0K h; rwa [(B0S hp).2, (B0S hq).2] at h2, fun h => by rw [h]⟩
theorem y0C {x y : List UInt8} (h : a0T mQ [x, y] = true) : a0Q mQ x = true ∧ a0Q mQ y = true := by
 unfold a0T at h
 simpa using h
attribute [local irreducible] a0C lw mix cw b0u b0B b0r a0N a0q beN b0G b0f b0C a0M a0S elN mdL a0Q rtV b0J c0g b0N c0K b0b b0v b0H toB a0x a0G b0w c0f a0K c0s b0e a0B c0k d0V d0r noR a0R RT.L rdR kN kc c0m chN h0E v0m rpL e0X poF poC poS poE poR cmS cmE voG voB hRR hTT a0T
theorem C0C (v b : List UInt8) (_h1 : v.length ≤ 4096) (_h2 : b.length ≤ 4096) (hn : a0T mQ [v, b] = false) (w : World) : Calls Tryz.prog 20 #[.string (mkS v), .string (mkS b)] w fun e w' => e = .returned (.tuple #[.string ⟨#[]⟩, .int .i64 3]) ∧ Fr Nob w w' := by
 have HNF := qH (show (a0Q mQ v && a0Q mQ b) = false by unfold a0T at hn; simpa using hn)
 clear hn _h1 _h2
 have st0 := St.start Nob w
 go_enter Tryz.func20, Tryz.ntmps20
 go_wp2_with fail
 refine (c0I v _).mono ?_
 rintro e' w1 ⟨N1, rfl, hx, hf1⟩
 have st1 := st0.keep hf1
 have HN1 := qH hx
 clear hx
 clear st0 hf1
 go_wp2_with (with_reducible refine wSk 6 ?_)
 refine a0a st1 rfl rfl (z := zAd) ap13 (cw 4 0) ap11 ?_
 intro g6 w2 st2
 clear st1
 go_wp2_with (with_reducible refine wSn ?_)
 refine a0b st2 0 rfl rfl rfl rfl rfl ap5 ap2 (a0g _ _) ?_
 intro w3 st3
 clear st2
 go_wp2_with fail
 refine (c0I b _).mono ?_
 rintro e' w4 ⟨N2, rfl, hx, hf4⟩
 have st4 := st3.keep hf4
 have HN2 := qH hx
 clear hx
 clear st3 hf4
 go_wp2_with (with_reducible refine wSk 8 ?_)
 refine a0a st4 rfl rfl (z := zAd) ap13 (cw 4 0) ap11 ?_
 intro g8 w5 st5
 clear st4
 go_wp2_with (with_reducible refine wSn ?_)
 refine a0b st5 1 rfl rfl rfl rfl rfl ap5 ap2 (a0g _ _) ?_
 intro w6 st6
 clear st5
 generalize hb : a0Q mQ v = q1 at *
 clear hb
 generalize hb : a0Q mQ b = q2 at *
 clear hb
 clear HN1 HN2
 have hff : (q1 && q2) = false := HNF.out
 have hfr := st6.fr
 clear st6 HNF
 rcases q1 with _ | _
 ·skip
  go_wp2_with fail
  go_ret2
  exact ⟨rfl, hfr⟩
 rcases q2 with _ | _
 ·clear hff
  go_wp2_with fail
  go_ret2
  exact ⟨rfl, hfr⟩
 exact absurd hff ap14
theorem C0D (v b : List UInt8) (h1 : v.length ≤ 4096) (h2 : b.length ≤ 4096) (hn : a0T mQ [v, b] = true) (w : World) : Calls Tryz.prog 20 #[.string (mkS v), .string (mkS b)] w fun e w' => e = .returned (.tuple #[.string (mkS (poS v b)), .int .i64 0]) ∧ Fr Nob w w' := by
 have H1 := qH h1
 have H2 := qH h2
 have HM1 := qH (y0C hn).1
 have HM2 := qH (y0C hn).2
 have hv : beN v < B64 ^ 4 := Nat.lt_trans (d0y HM1.out) e0V.lt
 have hb : beN b < B64 ^ 4 := Nat.lt_trans (d0y HM2.out) e0V.lt
 have hkv : (chN a0H [v, b]) < B64 ^ 4 := Nat.lt_trans (q0l _ _) e0V.lt
 have hkb : (chN a0I [v, b]) < B64 ^ 4 := Nat.lt_trans (q0l _ _) e0V.lt
 have e1 : c0g (d0r (a0R (chN a0H [v, b]) hRR) (a0R (chN a0I [v, b]) e0i)).pt = poF v b := by rw [v0g hkv hkb]; unfold poF; rfl
 have e2 : c0g (d0r (a0R (beN v) hRR) (a0R (beN b) e0i)).pt = cmS v b := by rw [v0g hv hb, (n0J HM1.out HM2.out).2]
 obtain ⟨C, hC⟩ : ∃ C, c0m (c0g (d0r (a0R (beN v) hRR) (a0R (beN b) e0i)).pt) (c0g (d0r (a0R (chN a0H [v, b]) hRR) (a0R (chN a0I [v, b]) e0i)).pt) = C := ⟨_, rfl⟩
 have HC := qH hC
 have hpc : poC v b = C := by rw [← hC, e1, e2]; unfold poC; rfl
 have hCl : C < mQ.M := by rw [← hC]; exact q0E _ _
 have HLC := qH (Nat.lt_trans hCl e0V.lt)
 have HLV := qH hv
 have HLB := qH hb
 have HLKV := qH hkv
 have HLKB := qH hkb
 obtain ⟨r1, g1⟩ : ∃ r, C * beN v % mQ.M = r := ⟨_, rfl⟩
 obtain ⟨r2, g2⟩ : ∃ r, ((chN a0H [v, b]) + r1) % mQ.M = r := ⟨_, rfl⟩
 obtain ⟨r3, g3⟩ : ∃ r, C * beN b % mQ.M = r := ⟨_, rfl⟩
 obtain ⟨r4, g4⟩ : ∃ r, ((chN a0I [v, b]) + r3) % mQ.M = r := ⟨_, rfl⟩
 have HR1 := qH g1
 have HR2 := qH g2
 have HR3 := qH g3
 have HR4 := qH g4
 have HL1 := qH (show r1 < B64 ^ 4 by rw [← g1]; exact Nat.lt_trans (Nat.mod_lt _ mQ0) e0V.lt)
 have HL3 := qH (show r3 < B64 ^ 4 by rw [← g3]; exact Nat.lt_trans (Nat.mod_lt _ mQ0) e0V.lt)
 have HZ := qH (show poS v b = c0g (d0r (a0R (chN a0H [v, b]) hRR) (a0R (chN a0I [v, b]) e0i)).pt ++ (b0f r2 ++ b0f r4) by unfold poS; rw [List.append_assoc, e1, hpc, ← g2, ← g1, ← g4, ← g3, Nat.add_mod_mod, Nat.add_mod_mod])
 clear hn h1 h2 hv hb hkv hkb e1 e2 hC hpc hCl g1 g2 g3 g4
 have st0 := St.start Nob w
 go_enter Tryz.func20, Tryz.ntmps20
 go_wp2_with fail
 refine (c0I v _).mono ?_
 rintro e' w1 ⟨N1, rfl, hx, hf1⟩
 have st1 := st0.keep hf1
 have HN1 := qH hx
 clear hx
 clear st0 hf1
 go_wp2_with (with_reducible refine wSk 6 ?_)
 refine a0a st1 rfl rfl (z := zAd) ap13 (cw 4 0) ap11 ?_
 intro g6 w2 st2
 clear st1
 go_wp2_with (with_reducible refine wSn ?_)
 refine a0b st2 0 rfl rfl rfl rfl rfl ap5 ap2 (a0g _ _) ?_
 intro w3 st3
 clear st2
 go_wp2_with fail
 refine (c0I b _).mono ?_
 rintro e' w4 ⟨N2, rfl, hx, hf4⟩
 have st4 := st3.keep hf4
 have HN2 := qH hx
 clear hx
 clear st3 hf4
 go_wp2_with (with_reducible refine wSk 8 ?_)
 refine a0a st4 rfl rfl (z := zAd) ap13 (cw 4 0) ap11 ?_
 intro g8 w5 st5
 clear st4
 go_wp2_with (with_reducible refine wSn ?_)
 refine a0b st5 1 rfl rfl rfl rfl rfl ap5 ap2 (a0g _ _) ?_
 intro w6 st6
 clear st5
 rw [HM1.out, HM2.out]
 rw [HN1.out HM1.out, HN2.out HM2.out] at st6
 clear HN1 HN2 HM1 HM2
 go_wp2_with fail
 refine (D0m _).mono ?_
 rintro e' w7 ⟨rfl, hf7⟩
 have st7 := st6.keep hf7
 clear st6 hf7
 go_wp2_with (with_reducible refine wSk 10 ?_)
 refine a0a st7 rfl rfl (z := .agg #[.int .u64 0, .int .u64 0, .int .u64 0, .int .u64 0, .int .u64 0, .int .u64 0, .int .u64 0, .int .u64 0]) ap13 (cw 8 0) ap11 ?_
 intro g10 w8 st8
 clear st7
 go_wp2_with (with_reducible refine wSn ?_)
 refine a0b st8 2 rfl rfl rfl rfl rfl ap5 ap2 (i0P _ _ _ _) ?_
 intro w9 st9
 clear st8
 go_wp2_with (with_reducible refine wSk 36 ?_)
 refine c0i rfl rfl Tryz.underlying40 n0K (ss [v, b]) rfl (by simp [ss]; exact ⟨rfl, rfl⟩) rfl rfl ?_
 intro w10 hh10 hf10 hz10
 have st10 := st9.keep hf10
 have HSL := qH hh10
 clear hh10 hf10 hz10 st9
 go_wp2_with fail
 refine (n0L ⟨#[110, 111, 110, 99, 101, 32, 118, 97, 108, 117, 101]⟩ a0H rfl _ 2 [v, b] _ (by rw [q0D]; have h1 := H1.out; have h2 := H2.out; have h3 : (⟨#[110, 111, 110, 99, 101, 32, 118, 97, 108, 117, 101]⟩ : ByteArray).size = 11 := rfl; omega) HSL.out ap16).mono ?_
 rintro e' w11 ⟨rfl, hf11⟩
 have st11 := st10.keep hf11
 clear st10 hf11
 clear HSL
 go_wp2_with (with_reducible refine wSk 11 ?_)
 refine a0a st11 rfl rfl (z := zAd) ap13 (cw 4 0) ap11 ?_
 intro g11 w12 st12
 clear st11
 go_wp2_with (with_reducible refine wSn ?_)
 refine a0b st12 3 rfl rfl rfl rfl rfl ap5 ap2 (a0g _ _) ?_
 intro w13 st13
 clear st12
 go_wp2_with (with_reducible refine wSk 40 ?_)
 refine c0i rfl rfl Tryz.underlying40 n0K (ss [v, b]) rfl (by simp [ss]; exact ⟨rfl, rfl⟩) rfl rfl ?_
 intro w14 hh14 hf14 hz14
 have st14 := st13.keep hf14
 have HSL := qH hh14
 clear hh14 hf14 hz14 st13
 go_wp2_with fail
 refine (n0L ⟨#[110, 111, 110, 99, 101, 32, 98, 108, 105, 110, 100]⟩ a0I rfl _ 2 [v, b] _ (by rw [q0D]; have h1 := H1.out; have h2 := H2.out; have h3 : (⟨#[110, 111, 110, 99, 101, 32, 98, 108, 105, 110, 100]⟩ : ByteArray).size = 11 := rfl; omega) HSL.out ap16).mono ?_
 rintro e' w15 ⟨rfl, hf15⟩
 have st15 := st14.keep hf15
 clear st14 hf15
 clear HSL
 go_wp2_with (with_reducible refine wSk 12 ?_)
 refine a0a st15 rfl rfl (z := zAd) ap13 (cw 4 0) ap11 ?_
 intro g12 w16 st16
 clear st15
 go_wp2_with (with_reducible refine wSn ?_)
 refine a0b st16 4 rfl rfl rfl rfl rfl ap5 ap2 (a0g _ _) ?_
 intro w17 st17
 clear st16
 go_wp2_with (with_reducible refine wSk 42 ?_)
 refine a0j st17 3 rfl rfl rfl Tryz.underlying60 rfl ap2 ?_
 go_wp2_with (with_reducible refine wSk 43 ?_)
 refine a0j st17 4 rfl rfl rfl Tryz.underlying60 rfl ap2 ?_
 go_wp2_with fail
 refine (j0w (chN a0H [v, b]) (chN a0I [v, b]) _).mono ?_
 rintro e' w18 ⟨rfl, hf18⟩
 have st18 := st17.keep hf18
 clear st17 hf18
 go_wp2_with fail
 refine (k0u (d0r (a0R (chN a0H [v, b]) hRR) (a0R (chN a0I [v, b]) e0i)) _).mono ?_
 rintro e' w19 ⟨rfl, hf19⟩
 have st19 := st18.keep hf19
 clear st18 hf19
 go_wp2_with (with_reducible refine wSk 46 ?_)
 refine a0j st19 0 rfl rfl rfl Tryz.underlying60 rfl ap2 ?_
 go_wp2_with (with_reducible refine wSk 47 ?_)
 refine a0j st19 1 rfl rfl rfl Tryz.underlying60 rfl ap2 ?_
 go_wp2_with fail
 refine (j0w (beN v) (beN b) _).mono ?_
 rintro e' w20 ⟨rfl, hf20⟩
 have st20 := st19.keep hf20
 clear st19 hf20
 go_wp2_with fail
 refine (k0u (d0r (a0R (beN v) hRR) (a0R (beN b) e0i)) _).mono ?_
 rintro e' w21 ⟨rfl, hf21⟩
 have st21 := st20.keep hf21
 clear st20 hf21
 go_wp2_with fail
 refine ((n0M (mkS (c0g (d0r (a0R (beN v) hRR) (a0R (beN b) e0i)).pt)) (mkS (c0g (d0r (a0R (chN a0H [v, b]) hRR) (a0R (chN a0I [v, b]) e0i)).pt)) _ (by rw [a0t, d0d]; decide) (by rw [a0t, d0d]; decide)).mono fun e w' h => (show e = .returned (i4 C) ∧ Fr Nob _ w' by rw [a0L, a0L, HC.out] at h; exact h)).mono ?_
 rintro e' w22 ⟨rfl, hf22⟩
 have st22 := st21.keep hf22
 clear st21 hf22
 go_wp2_with (with_reducible refine wSk 14 ?_)
 refine a0a st22 rfl rfl (z := zAd) ap13 (cw 4 0) ap11 ?_
 intro g14 w23 st23
 clear st22
 go_wp2_with (with_reducible refine wSn ?_)
 refine a0b st23 5 rfl rfl rfl rfl rfl ap5 ap2 (a0g _ _) ?_
 intro w24 st24
 clear st23
 go_wp2_with fail
 refine wp_region_noPanic ?_
 refine a0e st24 8 [.o 7, .t 0, .t 1, .t 2, .t 3, .t 4, .c 5, .c 6, .j 7] (.m 8 .nil) ap13 ap13 (fun _ _ _ _ _ h => h) ?_
 clear st24
 refine b0m rfl rfl rfl e0Q (cw 4 0) rfl ?_
 try simp only [clL]
 refine a0d rfl rfl rfl (fun _ => rfl) (cw 4 mQ.M ++ cw 4 (B64 ^ 4 - mQ.M)) (fun wx hS => St.rangeL hS 2 rfl 0 _ dZl) Tryz.underlying78 rfl ap2 ?_
 try simp only [clL]
 refine a0d rfl rfl rfl (fun _ => rfl) (cw 4 (chN a0H [v, b])) (fun wx hS => St.rangeL hS 3 rfl 0 _ dZl) Tryz.underlying60 rfl ap2 ?_
 try simp only [clL]
 refine a0d rfl rfl rfl (fun _ => rfl) (cw 4 mQ.M ++ cw 4 (B64 ^ 4 - mQ.M)) (fun wx hS => St.rangeL hS 2 rfl 0 _ dZl) Tryz.underlying78 rfl ap2 ?_
 try simp only [clL]
 refine a0d rfl rfl rfl (fun _ => rfl) (cw 4 C) (fun wx hS => St.rangeL hS 5 rfl 0 _ dZl) Tryz.underlying60 rfl ap2 ?_
 try simp only [clL]
 refine a0d rfl rfl rfl (fun _ => rfl) (cw 4 (beN v)) (fun wx hS => St.rangeL hS 0 rfl 0 _ dZl) Tryz.underlying60 rfl ap2 ?_
 try simp only [clL]
 refine a0c rfl rfl rfl Tryz.call58 (fun w hS hR => C0h mQ.M C (beN v) r1 _ mQ0 e0V.lt HLC.out HLV.out HR1.out) (fun _ => rfl) ?_
 try simp only [clL]
 refine a0c rfl rfl rfl Tryz.call57 (fun w hS hR => y0z mQ.M (chN a0H [v, b]) r1 r2 _ mQ0 e0V.lt HLKV.out HL1.out HR2.out) (fun _ => rfl) ?_
 try simp only [clL]
 refine b0g List.mem_cons_self fun g15 => ?_
 simp only [upd, reduceIte]
 try simp only [Nat.reduceEqDiff, reduceIte]
 refine a0u fun xq w25 st25 hR => ?_
 try dsimp only
 clear hR xq
 refine a0o rfl rfl ?_
 refine a0i st25 6 rfl rfl rfl rfl ap5 ap2 (a0g _ _) ?_
 intro w26 st26
 repeat (first | simp only [List.cons_append] at st26 | simp only [List.nil_append] at st26 | simp only [List.set_cons_succ] at st26 | simp only [List.set_cons_zero] at st26)
 clear st25
 try simp only [Act.put]
 refine a0h ?_
 refine NoPanic.normal ?_
 go_wp2_with fail
 refine wp_region_noPanic ?_
 refine a0e st26 8 [.o 7, .t 0, .t 1, .t 2, .t 3, .t 4, .c 5, .c 6, .j 7] (.m 8 .nil) ap13 ap13 (fun _ _ _ _ _ h => h) ?_
 clear st26
 refine b0m rfl rfl rfl e0Q (cw 4 0) rfl ?_
 try simp only [clL]
 refine a0d rfl rfl rfl (fun _ => rfl) (cw 4 mQ.M ++ cw 4 (B64 ^ 4 - mQ.M)) (fun wx hS => St.rangeL hS 2 rfl 0 _ dZl) Tryz.underlying78 rfl ap2 ?_
 try simp only [clL]
 refine a0d rfl rfl rfl (fun _ => rfl) (cw 4 (chN a0I [v, b])) (fun wx hS => St.rangeL hS 4 rfl 0 _ dZl) Tryz.underlying60 rfl ap2 ?_
 try simp only [clL]
 refine a0d rfl rfl rfl (fun _ => rfl) (cw 4 mQ.M ++ cw 4 (B64 ^ 4 - mQ.M)) (fun wx hS => St.rangeL hS 2 rfl 0 _ dZl) Tryz.underlying78 rfl ap2 ?_
 try simp only [clL]
 refine a0d rfl rfl rfl (fun _ => rfl) (cw 4 C) (fun wx hS => St.rangeL hS 5 rfl 0 _ dZl) Tryz.underlying60 rfl ap2 ?_
 try simp only [clL]
 refine a0d rfl rfl rfl (fun _ => rfl) (cw 4 (beN b)) (fun wx hS => St.rangeL hS 1 rfl 0 _ dZl) Tryz.underlying60 rfl ap2 ?_
 try simp only [clL]
 refine a0c rfl rfl rfl Tryz.call58 (fun w hS hR => C0h mQ.M C (beN b) r3 _ mQ0 e0V.lt HLC.out HLB.out HR3.out) (fun _ => rfl) ?_
 try simp only [clL]
 refine a0c rfl rfl rfl Tryz.call57 (fun w hS hR => y0z mQ.M (chN a0I [v, b]) r3 r4 _ mQ0 e0V.lt HLKB.out HL3.out HR4.out) (fun _ => rfl) ?_
 try simp only [clL]
 refine b0g List.mem_cons_self fun g16 => ?_
 simp only [upd, reduceIte]
 try simp only [Nat.reduceEqDiff, reduceIte]
 refine a0u fun xq w27 st27 hR => ?_
 try dsimp only
 clear hR xq
 refine a0o rfl rfl ?_
 refine a0i st27 7 rfl rfl rfl rfl ap5 ap2 (a0g _ _) ?_
 intro w28 st28
 repeat (first | simp only [List.cons_append] at st28 | simp only [List.nil_append] at st28 | simp only [List.set_cons_succ] at st28 | simp only [List.set_cons_zero] at st28)
 clear st27
 try simp only [Act.put]
 refine a0h ?_
 refine NoPanic.normal ?_
 go_wp2_with fail
 refine wp_region_noPanic ?_
 refine a0e st28 8 [.w 0, .t 1, .t 4, .c 2, .w 3, .c 5, .w 6, .w 7] (.m 8 .nil) ap13 ap13 (fun _ _ _ _ _ h => h) ?_
 clear st28
 refine a0m rfl rfl apX ?_
 try simp only [clL]
 refine a0d rfl rfl rfl (fun _ => rfl) (cw 4 r2) (fun wx hS => St.rangeL hS 6 rfl 0 _ dZl) Tryz.underlying60 rfl ap2 ?_
 try simp only [clL]
 refine a0d rfl rfl rfl (fun _ => rfl) (cw 4 r4) (fun wx hS => St.rangeL hS 7 rfl 0 _ dZl) Tryz.underlying60 rfl ap2 ?_
 try simp only [clL]
 refine a0c rfl rfl rfl Tryz.call59 (fun w hS hR => e0t r2 _) (fun _ => rfl) ?_
 try simp only [clL]
 refine a0m rfl rfl (fun _ _ => f0r rfl rfl rfl Tryz.underlying9 (by rw [a0t, a0t, d0d, a0Y]; decide) (d0D _ _) _) ?_
 try simp only [clL]
 refine a0c rfl rfl rfl Tryz.call59 (fun w hS hR => e0t r4 _) (fun _ => rfl) ?_
 try simp only [clL]
 refine a0m rfl rfl (fun _ _ => f0r rfl rfl rfl Tryz.underlying9 (by rw [a0t, a0t, List.length_append, d0d, a0Y, a0Y]; decide) (d0D _ _) _) ?_
 try simp only [clL]
 refine a0m rfl rfl apX ?_
 try simp only [clL]
 refine a0u fun xq w29 st29 hR => ?_
 try dsimp only
 clear hR xq
 refine a0o rfl rfl ?_
 go_simp
 try simp only [clL]
 refine a0h ?_
 refine NoPanic.normal ?_
 have hfr := st29.fr
 clear st29
 go_wp2_with fail
 go_ret2
 exact ⟨by rw [HZ.out]; rfl, hfr⟩
theorem n0Q (v b : List UInt8) (h1 : v.length ≤ 4096) (h2 : b.length ≤ 4096) (w : World) : Calls Tryz.prog 20 #[.string (mkS v), .string (mkS b)] w fun e w' => e = .returned (.tuple #[.string (mkS (poR v b)), .int .i64 (poE v b)]) ∧ Fr Nob w w' := by
 cases h : a0T mQ [v, b] with
 | false => rw [(x0G h).1, (x0G h).2]; exact C0C v b h1 h2 h w
 | true => rw [(x0H h).1, (x0H h).2]; exact C0D v b h1 h2 h w
theorem D0v (c s : List UInt8) (_h1 : c.length ≤ 4096) (hq : b0N c = false) (w : World) : Calls Tryz.prog 22 #[.string (mkS c), .string (mkS s)] w fun e w' => e = .returned (.bool false) ∧ Fr Nob w w' := by
 have HQ := qH hq
 clear hq _h1
 have st0 := St.start Nob w
 go_enter Tryz.func22, Tryz.ntmps22
 go_wp2_with fail
 refine (f0H c _).mono ?_
 rintro e' w1 ⟨X1, Y1, Z1, rfl, hx, hf1⟩
 have st1 := st0.keep hf1
 have HX1 := qH hx
 clear hx
 clear st0 hf1
 go_wp2_with (with_reducible refine wSk 5 ?_)
 refine a0a st1 rfl rfl (z := zAc) ap13 (cw 12 0) ap11 ?_
 intro g5 w2 st2
 clear st1
 go_wp2_with (with_reducible refine wSn ?_)
 refine a0b st2 0 rfl rfl rfl rfl rfl ap5 ap2 (d0A _ _ _) ?_
 intro w3 st3
 clear st2
 rw [HQ.out]
 have hfr := st3.fr
 clear st3
 go_wp2_with fail
 go_ret
 exact ⟨rfl, hfr⟩
theorem D0w (c s : List UInt8) (_h1 : c.length ≤ 4096) (hq : b0N c = true) (hl : s.length ≠ 97) (w : World) : Calls Tryz.prog 22 #[.string (mkS c), .string (mkS s)] w fun e w' => e = .returned (.bool false) ∧ Fr Nob w w' := by
 have HQ := qH hq
 have hne : (((mkS s).size : Int) != 97) = true := by rw [a0t]; simp; omega
 clear hq hl _h1
 have st0 := St.start Nob w
 go_enter Tryz.func22, Tryz.ntmps22
 go_wp2_with fail
 refine (f0H c _).mono ?_
 rintro e' w1 ⟨X1, Y1, Z1, rfl, hx, hf1⟩
 have st1 := st0.keep hf1
 have HX1 := qH hx
 clear hx
 clear st0 hf1
 go_wp2_with (with_reducible refine wSk 5 ?_)
 refine a0a st1 rfl rfl (z := zAc) ap13 (cw 12 0) ap11 ?_
 intro g5 w2 st2
 clear st1
 go_wp2_with (with_reducible refine wSn ?_)
 refine a0b st2 0 rfl rfl rfl rfl rfl ap5 ap2 (d0A _ _ _) ?_
 intro w3 st3
 clear st2
 rw [HQ.out]
 have hfr := st3.fr
 clear st3
 go_wp2_with fail
 go_ret
 exact ⟨rfl, hfr⟩
theorem C0E (c s : List UInt8) (_h1 : c.length ≤ 4096) (hq : b0N c = true) (hl : s.length = 97) (hn : (b0N (s.take 33) && (a0Q mQ (s1L s) && a0Q mQ (s2L s))) = false) (w : World) : Calls Tryz.prog 22 #[.string (mkS c), .string (mkS s)] w fun e w' => e = .returned (.bool false) ∧ Fr Nob w w' := by
 have HQ := qH hq
 have hne : (((mkS s).size : Int) != 97) = false := by rw [a0t, hl]; rfl
 have hI1 : (33 : Int) ≤ ((mkS s).size : Int) := by rw [a0t]; omega
 have hI2 : 33 ≤ (mkS s).size := by rw [a0t]; omega
 have hI3 : (65 : Int) ≤ ((mkS s).size : Int) := by rw [a0t]; omega
 have hI4 : 65 ≤ (mkS s).size := by rw [a0t]; omega
 have HE1 := qH (y0A s 33 ap15)
 have HE2 := qH (show (mkS s).extract 33 65 = mkS (s1L s) from v0h s 33 65 ap15 ap15)
 have HE3 := qH (show (mkS s).extract 65 (mkS s).size = mkS (s2L s) from y0B s 65)
 have HNF := qH hn
 clear hq hl hn _h1
 have st0 := St.start Nob w
 go_enter Tryz.func22, Tryz.ntmps22
 go_wp2_with fail
 refine (f0H c _).mono ?_
 rintro e' w1 ⟨X1, Y1, Z1, rfl, hx, hf1⟩
 have st1 := st0.keep hf1
 have HX1 := qH hx
 clear hx
 clear st0 hf1
 go_wp2_with (with_reducible refine wSk 5 ?_)
 refine a0a st1 rfl rfl (z := zAc) ap13 (cw 12 0) ap11 ?_
 intro g5 w2 st2
 clear st1
 go_wp2_with (with_reducible refine wSn ?_)
 refine a0b st2 0 rfl rfl rfl rfl rfl ap5 ap2 (d0A _ _ _) ?_
 intro w3 st3
 clear st2
 rw [HQ.out]
 go_wp2_with fail
 rw [HE1.out]
 refine (f0H (s.take 33) _).mono ?_
 rintro e' w4 ⟨X2, Y2, Z2, rfl, hx, hf⟩
 have st4 := st3.keep hf
 have HX2 := qH hx
 clear st3 hf hx
 go_wp2_with (with_reducible refine wSk 7 ?_)
 refine a0a st4 rfl rfl (z := zAc) ap13 (cw 12 0) ap11 ?_
 intro g7 w5 st5
 clear st4
 go_wp2_with (with_reducible refine wSn ?_)
 refine a0b st5 1 rfl rfl rfl rfl rfl ap5 ap2 (d0A _ _ _) ?_
 intro w6 st6
 clear st5
 go_wp2_with fail
 rw [HE2.out]
 refine (c0I (s1L s) _).mono ?_
 rintro e' w7 ⟨N1, rfl, hx, hf⟩
 have st7 := st6.keep hf
 have HN1 := qH hx
 clear st6 hf hx
 go_wp2_with (with_reducible refine wSk 9 ?_)
 refine a0a st7 rfl rfl (z := zAd) ap13 (cw 4 0) ap11 ?_
 intro g9 w8 st8
 clear st7
 go_wp2_with (with_reducible refine wSn ?_)
 refine a0b st8 2 rfl rfl rfl rfl rfl ap5 ap2 (a0g _ _) ?_
 intro w9 st9
 clear st8
 go_wp2_with fail
 rw [HE3.out]
 refine (c0I (s2L s) _).mono ?_
 rintro e' w10 ⟨N2, rfl, hx, hf⟩
 have st10 := st9.keep hf
 have HN2 := qH hx
 clear st9 hf hx
 go_wp2_with (with_reducible refine wSk 11 ?_)
 refine a0a st10 rfl rfl (z := zAd) ap13 (cw 4 0) ap11 ?_
 intro g11 w11 st11
 clear st10
 go_wp2_with (with_reducible refine wSn ?_)
 refine a0b st11 3 rfl rfl rfl rfl rfl ap5 ap2 (a0g _ _) ?_
 intro w12 st12
 clear st11
 generalize hb : b0N (s.take 33) = q1 at *
 clear hb
 generalize hb : a0Q mQ (s1L s) = q2 at *
 clear hb
 generalize hb : a0Q mQ (s2L s) = q3 at *
 clear hb
 clear HX1 HX2 HN1 HN2 HE1 HE2 HE3 HQ hI1 hI2 hI3 hI4 hne
 have hff : (q1 && (q2 && q3)) = false := HNF.out
 have hfr := st12.fr
 clear st12 HNF
 rcases q1 with _ | _
 ·skip
  go_wp2_with fail
  go_ret
  exact ⟨rfl, hfr⟩
 rcases q2 with _ | _
 ·skip
  go_wp2_with fail
  go_ret
  exact ⟨rfl, hfr⟩
 rcases q3 with _ | _
 ·clear hff
  go_wp2_with fail
  go_ret
  exact ⟨rfl, hfr⟩
 exact absurd hff ap14
open Classical in
theorem D0x (c s : List UInt8) (h1 : c.length ≤ 4096) (hq : b0N c = true) (hl : s.length = 97) (ho : b0N (s.take 33) = true) (hm1 : a0Q mQ (s1L s) = true) (hm2 : a0Q mQ (s2L s) = true) (w : World) : Calls Tryz.prog 22 #[.string (mkS c), .string (mkS s)] w fun e w' => e = .returned (.bool (voB c s)) ∧ Fr Nob w w' := by
 have HQ := qH hq
 have HO := qH ho
 have HM1 := qH hm1
 have HM2 := qH hm2
 have H1 := qH h1
 have HV := qH (show voB c s = decide ((d0r (a0R (beN (s1L s)) hRR) (a0R (beN (s2L s)) e0i)).pt = (d0r (rdR (s.take 33)) (a0R (c0m c (s.take 33)) (rdR c))).pt) by
  have e1 : c0g (d0r (a0R (beN (s1L s)) hRR) (a0R (beN (s2L s)) e0i)).pt = cmS (s1L s) (s2L s) := by rw [v0g (Nat.lt_trans (d0y hm1) e0V.lt) (Nat.lt_trans (d0y hm2) e0V.lt), (n0J hm1 hm2).2]
  have e2 : (d0r (rdR (s.take 33)) (a0R (c0m c (s.take 33)) (rdR c))).pt = b0a (c0K (s.take 33)) (b0b (c0m c (s.take 33)) (c0K c)) := by rw [j0p, j0q _ (Nat.lt_trans (q0E _ _) e0V.lt), y0w ho, y0w hq]
  rw [D0K (by unfold voG; rw [hq, ho, decide_eq_true hl]; rfl) (by rw [hm1, hm2]; rfl), ← e1, ← e2]
  exact C0B (d0r (a0R (beN (s1L s)) hRR) (a0R (beN (s2L s)) e0i)).on (d0r (rdR (s.take 33)) (a0R (c0m c (s.take 33)) (rdR c))).on)
 have hne : (((mkS s).size : Int) != 97) = false := by rw [a0t, hl]; rfl
 have hI1 : (33 : Int) ≤ ((mkS s).size : Int) := by rw [a0t]; omega
 have hI2 : 33 ≤ (mkS s).size := by rw [a0t]; omega
 have hI3 : (65 : Int) ≤ ((mkS s).size : Int) := by rw [a0t]; omega
 have hI4 : 65 ≤ (mkS s).size := by rw [a0t]; omega
 have HE1 := qH (y0A s 33 ap15)
 have HE2 := qH (show (mkS s).extract 33 65 = mkS (s1L s) from v0h s 33 65 ap15 ap15)
 have HE3 := qH (show (mkS s).extract 65 (mkS s).size = mkS (s2L s) from y0B s 65)
 clear hq hl ho hm1 hm2 h1
 have st0 := St.start Nob w
 go_enter Tryz.func22, Tryz.ntmps22
 go_wp2_with fail
 refine (f0H c _).mono ?_
 rintro e' w1 ⟨X1, Y1, Z1, rfl, hx, hf1⟩
 have st1 := st0.keep hf1
 have HX1 := qH hx
 clear hx
 clear st0 hf1
 go_wp2_with (with_reducible refine wSk 5 ?_)
 refine a0a st1 rfl rfl (z := zAc) ap13 (cw 12 0) ap11 ?_
 intro g5 w2 st2
 clear st1
 go_wp2_with (with_reducible refine wSn ?_)
 refine a0b st2 0 rfl rfl rfl rfl rfl ap5 ap2 (d0A _ _ _) ?_
 intro w3 st3
 clear st2
 rw [HQ.out]
 go_wp2_with fail
 rw [HE1.out]
 refine (f0H (s.take 33) _).mono ?_
 rintro e' w4 ⟨X2, Y2, Z2, rfl, hx, hf⟩
 have st4 := st3.keep hf
 have HX2 := qH hx
 clear st3 hf hx
 go_wp2_with (with_reducible refine wSk 7 ?_)
 refine a0a st4 rfl rfl (z := zAc) ap13 (cw 12 0) ap11 ?_
 intro g7 w5 st5
 clear st4
 go_wp2_with (with_reducible refine wSn ?_)
 refine a0b st5 1 rfl rfl rfl rfl rfl ap5 ap2 (d0A _ _ _) ?_
 intro w6 st6
 clear st5
 go_wp2_with fail
 rw [HE2.out]
 refine (c0I (s1L s) _).mono ?_
 rintro e' w7 ⟨N1, rfl, hx, hf⟩
 have st7 := st6.keep hf
 have HN1 := qH hx
 clear st6 hf hx
 go_wp2_with (with_reducible refine wSk 9 ?_)
 refine a0a st7 rfl rfl (z := zAd) ap13 (cw 4 0) ap11 ?_
 intro g9 w8 st8
 clear st7
 go_wp2_with (with_reducible refine wSn ?_)
 refine a0b st8 2 rfl rfl rfl rfl rfl ap5 ap2 (a0g _ _) ?_
 intro w9 st9
 clear st8
 go_wp2_with fail
 rw [HE3.out]
 refine (c0I (s2L s) _).mono ?_
 rintro e' w10 ⟨N2, rfl, hx, hf⟩
 have st10 := st9.keep hf
 have HN2 := qH hx
 clear st9 hf hx
 go_wp2_with (with_reducible refine wSk 11 ?_)
 refine a0a st10 rfl rfl (z := zAd) ap13 (cw 4 0) ap11 ?_
 intro g11 w11 st11
 clear st10
 go_wp2_with (with_reducible refine wSn ?_)
 refine a0b st11 3 rfl rfl rfl rfl rfl ap5 ap2 (a0g _ _) ?_
 intro w12 st12
 clear st11
 rw [HO.out, HM1.out, HM2.out]
 rw [HX1.out HQ.out, HX2.out HO.out, HN1.out HM1.out, HN2.out HM2.out] at st12
 clear HX1 HX2 HN1 HN2 HM1 HM2 HE2 HE3 hI3 hI4 hne
 go_wp2_with fail
 rw [HE1.out]
 refine (n0M (mkS c) (mkS (s.take 33)) _ (by rw [a0t]; have := H1.out; omega) (by rw [a0t, List.length_take]; omega)).mono ?_
 rintro e' w13 ⟨rfl, hf⟩
 have st13 := st12.keep hf
 clear st12 hf
 rw [a0L, a0L]
 go_wp2_with (with_reducible refine wSk 13 ?_)
 refine a0a st13 rfl rfl (z := zAd) ap13 (cw 4 0) ap11 ?_
 intro g13 w14 st14
 clear st13
 go_wp2_with (with_reducible refine wSn ?_)
 refine a0b st14 4 rfl rfl rfl rfl rfl ap5 ap2 (a0g _ _) ?_
 intro w15 st15
 clear st14
 clear hI1 hI2
 go_wp2_with fail
 refine wp_region_noPanic ?_
 refine a0e st15 9 [.t 0, .t 1, .t 3, .t 4, .t 5, .c 2, .c 6, .c 7, .c 8] (.m 9 .nil) ap13 ap13 (fun _ _ _ _ _ h => h) ?_
 clear st15
 refine a0d rfl rfl rfl (fun _ => rfl) (cw 4 (beN (s1L s))) (fun wx hS => St.rangeL hS 2 rfl 0 _ dZl) Tryz.underlying60 rfl ap2 ?_
 try simp only [clL]
 refine a0d rfl rfl rfl (fun _ => rfl) (cw 4 (beN (s2L s))) (fun wx hS => St.rangeL hS 3 rfl 0 _ dZl) Tryz.underlying60 rfl ap2 ?_
 try simp only [clL]
 refine a0d rfl rfl rfl (fun _ => rfl) ((rdR (s.take 33)).L) (fun wx hS => St.rangeL hS 1 rfl 0 _ dZl) Tryz.underlying62 rfl ap2 ?_
 try simp only [clL]
 refine a0d rfl rfl rfl (fun _ => rfl) (cw 4 (c0m c (s.take 33))) (fun wx hS => St.rangeL hS 4 rfl 0 _ dZl) Tryz.underlying60 rfl ap2 ?_
 try simp only [clL]
 refine a0d rfl rfl rfl (fun _ => rfl) ((rdR c).L) (fun wx hS => St.rangeL hS 0 rfl 0 _ dZl) Tryz.underlying62 rfl ap2 ?_
 try simp only [clL]
 refine a0c rfl rfl rfl Tryz.call73 (fun w hS hR => j0w (beN (s1L s)) (beN (s2L s)) _) (fun _ => rfl) ?_
 try simp only [clL]
 refine a0c rfl rfl rfl Tryz.call69 (fun w hS hR => l0P (c0m c (s.take 33)) (rdR c) _) (fun _ => rfl) ?_
 try simp only [clL]
 refine a0c rfl rfl rfl Tryz.call68 (fun w hS hR => l0N (rdR (s.take 33)) (a0R (c0m c (s.take 33)) (rdR c)) _) (fun _ => rfl) ?_
 try simp only [clL]
 refine a0c rfl rfl rfl Tryz.call67 (fun w hS hR => A0A (d0r (a0R (beN (s1L s)) hRR) (a0R (beN (s2L s)) e0i)) (d0r (rdR (s.take 33)) (a0R (c0m c (s.take 33)) (rdR c))) _) (fun _ => rfl) ?_
 try simp only [clL]
 refine a0u fun xq w16 st16 hR => ?_
 try dsimp only
 clear hR xq
 refine a0o rfl rfl ?_
 go_simp
 try simp only [clL]
 refine a0h ?_
 refine NoPanic.normal ?_
 have hfr := st16.fr
 clear st16
 go_wp2_with fail
 go_ret
 exact ⟨by rw [HV.out]; rfl, hfr⟩
theorem l0W (c s : List UInt8) (h1 : c.length ≤ 4096) (w : World) : Calls Tryz.prog 22 #[.string (mkS c), .string (mkS s)] w fun e w' => e = .returned (.bool (voB c s)) ∧ Fr Nob w w' := by
 cases hq : b0N c with
 | false => rw [A0Q (by unfold voG; rw [hq]; rfl)]; exact D0v c s h1 hq w
 | true =>
  by_cases hl : s.length = 97
  ·cases ho : b0N (s.take 33) with
   | false => rw [A0Q (by unfold voG; rw [ho]; simp)]; exact C0E c s h1 hq hl (by rw [ho]; rfl) w
   | true =>
    cases hm : (a0Q mQ (s1L s) && a0Q mQ (s2L s)) with
    | false => rw [D0J hm]; exact C0E c s h1 hq hl (by rw [ho, hm]; rfl) w
    | true =>
     rw [Bool.and_eq_true] at hm
     exact D0x c s h1 hq hl ho hm.1 hm.2 w
  ·rw [A0Q (by unfold voG; rw [decide_eq_false hl]; simp)]
   exact D0w c s h1 hq hl w
end
section
open Go.RowKit Go.Mv Mvp Mvq
attribute [local irreducible] a0C lw mix cw b0u b0B b0r a0N a0q beN b0G b0f b0C a0M a0S elN mdL a0Q rtV b0J c0g b0N c0K b0b b0v b0H toB a0x a0G b0w c0f a0K c0s b0e a0B c0k d0V d0r noR a0R RT.L rdR kN kc c0m chN h0E v0m rpL poE poR poS voB voG
theorem p0g (av : Option Addr) (nv cv : Nat) (v : List UInt8) (ab : Option Addr) (nb cb : Nat) (b : List UInt8) (w : World) (hv : PartIs w (.slice av nv cv) v) (hb : PartIs w (.slice ab nb cb) b) :
  Calls Tryz.prog 19 #[.slice av nv cv, .slice ab nb cb] w fun e w' => ∃ q, e = .returned (.tuple #[q, .int .i64 (poE v b)]) ∧ OwnB1 w w' q (poR v b) ∧ Fr Nob w w' := by
 cases h : a0T mQ [v, b] with
 | false => rw [(x0G h).1, (x0G h).2]; exact (n0N av nv cv v ab nb cb b w hv hb h).mono fun e w' k => ⟨_, k.1, OwnB1.nil _ _, k.2⟩
 | true => rw [(x0H h).1, (x0H h).2]; exact n0O av nv cv v ab nb cb b w hv hb h
theorem n0R (k q : ByteArray) (h1 : k.size ≤ 4096) (h2 : q.size ≤ 4096) (w : World) :
  Calls Tryz.prog 20 #[.string k, .string q] w fun e w' => e = .returned (.tuple #[.string (mkS (poR k.data.toList q.data.toList)), .int .i64 (poE k.data.toList q.data.toList)]) ∧ Fr Nob w w' := by
 have h := n0Q k.data.toList q.data.toList (by rw [f0a]; exact h1) (by rw [f0a]; exact h2) w
 rwa [c0n, c0n] at h
theorem l0X (a s : ByteArray) (h1 : a.size ≤ 4096) (w : World) :
  Calls Tryz.prog 22 #[.string a, .string s] w fun e w' => e = .returned (.bool (voB a.data.toList s.data.toList)) ∧ Fr Nob w w' := by
 have h := l0W a.data.toList s.data.toList (by rw [f0a]; exact h1) w
 rwa [c0n, c0n] at h
theorem j0K (k q a s : ByteArray) (w : World) : Calls Tryz.prog 5 #[.string k, .string q, .string a, .string s] w fun e w' => e = .returned (.bool true) ∧ Fr Nob w w' := by
 have st0 := St.start Nob w
 go_enter Tryz.func5, Tryz.ntmps5
 by_cases hz0 : 4096 < k.size
 ·have hJ : (4096 : Int) < (k.size : Int) := by omega
  have hfr := st0.fr
  clear st0
  go_wp2_with fail
  go_ret
  exact ⟨rfl, hfr⟩
 have hI0 : ¬ ((4096 : Int) < (k.size : Int)) := by omega
 have HSk := qH (show k.size ≤ 4096 by omega)
 clear hz0
 by_cases hz1 : 4096 < q.size
 ·have hJ : (4096 : Int) < (q.size : Int) := by omega
  have hfr := st0.fr
  clear st0
  go_wp2_with fail
  go_ret
  exact ⟨rfl, hfr⟩
 have hI1 : ¬ ((4096 : Int) < (q.size : Int)) := by omega
 have HSq := qH (show q.size ≤ 4096 by omega)
 clear hz1
 by_cases hz2 : 4096 < a.size
 ·have hJ : (4096 : Int) < (a.size : Int) := by omega
  have hfr := st0.fr
  clear st0
  go_wp2_with fail
  go_ret
  exact ⟨rfl, hfr⟩
 have hI2 : ¬ ((4096 : Int) < (a.size : Int)) := by omega
 have HSa := qH (show a.size ≤ 4096 by omega)
 clear hz2
 by_cases hz3 : 4096 < s.size
 ·have hJ : (4096 : Int) < (s.size : Int) := by omega
  have hfr := st0.fr
  clear st0
  go_wp2_with fail
  go_ret
  exact ⟨rfl, hfr⟩
 have hI3 : ¬ ((4096 : Int) < (s.size : Int)) := by omega
 have HSs := qH (show s.size ≤ 4096 by omega)
 clear hz3
 go_wp2_with (with_reducible refine wSk 35 ?_)
 refine c0z (q := k) rfl rfl Tryz.underlying9 Tryz.underlying22 Tryz.underlying5 rfl (by have := HSk.out; unfold maxLen; omega) 0 (Nat.zero_le _) ?_
 intro capk w1 ho hf hz
 have st1 := st0.keep hf
 clear hz
 have HPk := qH (b0T ho (by have := HSk.out; omega))
 clear hf st0
 clear ho
 go_wp2_with (with_reducible refine wSk 37 ?_)
 refine c0z (q := q) rfl rfl Tryz.underlying9 Tryz.underlying22 Tryz.underlying5 rfl (by have := HSq.out; unfold maxLen; omega) 0 (Nat.zero_le _) ?_
 intro capq w2 ho hf hz
 have st2 := st1.keep hf
 replace HPk := qH (HPk.out.still hf)
 clear hz
 have HPq := qH (b0T ho (by have := HSq.out; omega))
 clear hf st1
 clear ho
 clear hI0 hI1 hI2 hI3
 obtain ⟨aak, nnk, cck, hek, kkk⟩ := HPk.out
 cases hek
 clear kkk
 obtain ⟨aaq, nnq, ccq, heq, kkq⟩ := HPq.out
 cases heq
 clear kkq
 go_wp2_with fail
 refine (p0g _ _ _ k.data.toList _ _ _ q.data.toList _ HPk.out HPq.out).mono ?_
 rintro e' w3 ⟨v1, rfl, ho, hf⟩
 have st3 := st2.keep hf
 replace HPk := qH (HPk.out.still hf)
 replace HPq := qH (HPq.out.still hf)
 have HV1 := qH ho.part
 clear ho
 clear hf st2
 clear HPk HPq
 go_wp2_with fail
 refine (n0R k q HSk.out HSq.out _).mono ?_
 rintro e' w4 ⟨rfl, hf⟩
 have st4 := st3.keep hf
 replace HV1 := qH (HV1.out.still hf)
 clear hf st3
 go_wp2_with (with_reducible refine wSk 48 ?_)
 refine c0z (q := a) rfl rfl Tryz.underlying9 Tryz.underlying22 Tryz.underlying5 rfl (by have := HSa.out; unfold maxLen; omega) 0 (Nat.zero_le _) ?_
 intro capa w5 ho hf hz
 have st5 := st4.keep hf
 replace HV1 := qH (HV1.out.still hf)
 clear hz
 have HPa := qH (b0T ho (by have := HSa.out; omega))
 clear hf st4
 clear ho
 go_wp2_with (with_reducible refine wSk 50 ?_)
 refine c0z (q := s) rfl rfl Tryz.underlying9 Tryz.underlying22 Tryz.underlying5 rfl (by have := HSs.out; unfold maxLen; omega) 0 (Nat.zero_le _) ?_
 intro caps w6 ho hf hz
 have st6 := st5.keep hf
 replace HV1 := qH (HV1.out.still hf)
 replace HPa := qH (HPa.out.still hf)
 clear hz
 have HPs := qH (b0T ho (by have := HSs.out; omega))
 clear hf st5
 clear ho
 obtain ⟨aaa, nna, cca, hea, kka⟩ := HPa.out
 cases hea
 clear kka
 obtain ⟨aas, nns, ccs, hes, kks⟩ := HPs.out
 cases hes
 clear kks
 go_wp2_with fail
 refine (n0P _ _ _ a.data.toList _ _ _ s.data.toList _ HPa.out HPs.out).mono ?_
 rintro e' w7 ⟨rfl, hf⟩
 have st7 := st6.keep hf
 replace HV1 := qH (HV1.out.still hf)
 replace HPa := qH (HPa.out.still hf)
 replace HPs := qH (HPs.out.still hf)
 clear hf st6
 clear HPa HPs
 go_wp2_with fail
 refine (l0X a s HSa.out _).mono ?_
 rintro e' w8 ⟨rfl, hf⟩
 have st8 := st7.keep hf
 replace HV1 := qH (HV1.out.still hf)
 clear hf st7
 generalize hb1 : poE k.data.toList q.data.toList = be at *
 generalize hb2 : poR k.data.toList q.data.toList = bz at *
 generalize hb3 : voB a.data.toList s.data.toList = bq at *
 clear hb1 hb2 hb3
 obtain ⟨a1, n1, c1, rfl, -, hr1⟩ := HV1.out
 have x1 := d0B (P := Tryz.prog) hr1 c1 Tryz.underlying22 Tryz.underlying5 Tryz.underlying9
 clear hr1 HV1
 have hfr := st8.fr
 clear st8
 cases bq <;> (go_wp2_with fail; go_ret; exact ⟨rfl, hfr⟩)
end
end Go.Proofs.YtemcankmggmgoaaGreat
