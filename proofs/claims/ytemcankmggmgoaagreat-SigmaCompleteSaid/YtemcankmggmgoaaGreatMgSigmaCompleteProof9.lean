/- ; ; ; ; ; ; ; ; ; ; ; ; ; ; ; ; ; ; ; ; ; ; . -/
import Derived.Test.YtemcankmggmgoaaGreatMgSigmaCompleteProof7
import Derived.RangeFuncNested
import Derived.RangeFuncBound
import Derived.RangeFuncCalls
import Derived.RangeFuncLeaves
import Derived.Deep.DeepCutAuto
import Derived.Test.YtemcankmggmgoaaGreatMgSigmaCompleteProof6
import Derived.IntWalk
import Derived.Test.YtemcankmggmgoaaGreatMgSigmaCompleteProof1
import Derived.Test.YtemcankmggmgoaaGreatMgSigmaCompleteProof8
import Derived.Test.YtemcankmggmgoaaGreatMgSigmaCompleteProof5
set_option maxHeartbeats 16000000
set_option maxRecDepth 1000000

namespace Go.Mv
open Go.RowKit
variable {P : Program} {ops : Array Oper} {Q : Exit → Act → World → Prop} {a : Act} {w : World} {rest : List Oper} {o : Oper} {n l : Nat}
def m0l (rest : List Oper) : Bool := rest.all fun o => match o.op with | .defer _ => false | _ => true
theorem o0s {o : Oper} (h : (match o.op with | .defer _ => false | _ => true) = true) : ∀ c, o.op ≠ .defer c := by
 intro c e
 rw [e] at h
 cases h
theorem r0i {row : String} {args : Array Value} {R : Value → World → Prop} (h : Rows P row args w R) : RowsIn (Fence.wide.inRound l) n P row args w R :=
 fun c cs _ => let ⟨v, w', r, s⟩ := h c cs; ⟨v, w', r, stepsIn_wide.2 s⟩
theorem o0t {K : Act → World → Prop} (hd : ∀ c, o.op ≠ .defer c) (h : o.wp P a w K Q) : o.wpIn (Fence.wide.inRound l) n P a w K Q := by
 refine ⟨fun _ _ => trivial, ?_⟩
 have e : o.semAt (some l) a.eval = execOp a.eval o := Oper.semAt_eq _ _ _ hd
 show o.uponIn (Fence.wide.inRound l) n P a K Q ((o.semAt (some l) a.eval).run P w)
 rw [e]
 unfold Oper.wp at h
 generalize (execOp a.eval o).run P w = r at *
 cases r with
 | ok v w' =>
  cases v with
  | value v => exact h
  | skip => exact h
  | defer d => exact h
  | enter f args => exact ⟨fun h => by simp [Fence.wide] at h, CallsIn.inRound l (callsIn_wide.2 h)⟩
  | row row args => exact ⟨fun h => by simp [Fence.wide] at h, r0i h⟩
  | _ => exact h.elim
 | halt s w' =>
  cases s <;> first | exact h | exact h.elim
theorem h0J (hQ : ¬ LetsOut Q) : ∀ (rest : List Oper) (a : Act) (w : World), m0l rest = true → wpList P ops Q rest a w → wpListIn (Fence.wide.inRound l) n P ops Q rest a w
 | [], _, _, _, h => h
 | o :: rest, a, w, hd, h => by
  unfold m0l at hd
  rw [List.all_cons, Bool.and_eq_true] at hd
  unfold wpList at h
  unfold wpListIn
  by_cases hw : Region.wanted o (yielded ops a.tmps) = true
  ·rw [if_pos hw] at h ⊢
   rcases h with h | h
   ·exact o0t (o0s hd.1) (Oper.wp_mono (fun a w k => h0J hQ rest a w hd.2 k) h)
   ·exact absurd h.2 hQ
  ·rw [if_neg hw] at h ⊢
   exact ⟨fun _ _ => trivial, h0J hQ rest _ w hd.2 h⟩
theorem h0K {id : Nat} {rest : List Oper} (hQ : ¬ LetsOut Q) (hd : m0l rest = true) (h : wpList P rest.toArray Q rest a w) : (Code.region id rest.toArray false).wpIn (Fence.wide.inRound l) n P Q a w :=
 wpIn_region_lit (h0J hQ rest a w hd h)
theorem g0x {v : Value} (hg : Region.wanted o (yielded ops a.tmps) = true) (_ : ∀ c, o.op ≠ .defer c) (hv : (execOp a.eval o).run P w = .ok (.value v) w) (h : wpListIn Fence.wide n P ops Q rest (a.put o.dst v) w) : wpListIn Fence.wide n P ops Q (o :: rest) a w := by
 unfold wpListIn
 rw [if_pos hg]
 refine ⟨fun _ _ => trivial, ?_⟩
 show o.uponIn Fence.wide n P a _ Q ((o.semAt none a.eval).run P w)
 rw [show o.semAt none a.eval = execOp a.eval o from Oper.semAt_none _ _, hv]
 exact h
theorem o0u {f : FuncId} {tmps : Array Value} {assign body : Code} {R : Ending → World → Prop} (hg : Region.wanted o (yielded ops a.tmps) = true) (hv : (execOp a.eval o).run P w = .ok (.round l f tmps assign body) w)
  (hR : RoundIn Fence.wide (n - 1) P l f tmps assign body w R) (h : ∀ e w', R e w' → ∃ b, e = .returned b ∧ wpListIn Fence.wide n P ops Q rest (a.put o.dst b) w') : wpListIn Fence.wide n P ops Q (o :: rest) a w := by
 unfold wpListIn
 rw [if_pos hg]
 refine ⟨fun _ _ => trivial, ?_⟩
 show o.uponIn Fence.wide n P a _ Q ((o.semAt none a.eval).run P w)
 rw [show o.semAt none a.eval = execOp a.eval o from Oper.semAt_none _ _, hv]
 refine ⟨fun h => by simp [Fence.wide] at h, hR.mono fun e w' k => ?_⟩
 obtain ⟨b, rfl, h2⟩ := h e w' k
 exact h2
theorem h0W (n : Nat) {id : Nat} {rest : List Oper} (h : wpListIn Fence.wide n P rest.toArray Q rest a w) : (Code.region id rest.toArray false).wp P Q a w := wpIn_wide.1 (wpIn_region_lit h)
end Go.Mv
namespace Go.Mv
open Go.RowKit
theorem Fr.grown {a b : World} (h : Fr Nob a b) : a.grownBy b none := ⟨h.os, h.tape, h.output, h.size, fun k hk _ => h.block k hk id⟩
end Go.Mv
namespace Go.Proofs.YtemcankmggmgoaaGreat
open Go.RowKit Go.Mv Mvp Mvq
theorem t0t : (Tryz.prog.info? 22).map (fun i => (i.zero, i.size, i.bytes)) = some (some (.slice none 0 0), 1, 24) := by kernel_rfl
theorem x0V (lab b : List UInt8) (i : Nat) : hN lab b i = beN (c0z (h0H ++ lab) [b, [UInt8.ofNat i]]) := by unfold hN hB; rfl
theorem w0c (s : List UInt8) (ls : List (List UInt8)) (w : World) (base : Nat) (v : Value) (h : Go.Mv.Own w base 5 1 v 32 (bs (c0z s ls))) : ∃ a c, v = .slice a 32 c ∧ RdB w a 32 (c0z s ls) := by
 obtain ⟨a, c, rfl, -, hr, -⟩ := h.form
 rw [Nat.mul_one] at hr
 exact ⟨a, c, rfl, hr⟩
theorem z0n (lab b : List UInt8) (i : Nat) (hl : (c0z (h0H ++ lab) [b, [UInt8.ofNat i]]).length = 32) : hN lab b i < B64 ^ 4 := by
 rw [x0V]
 exact e0O _ ap13
theorem w0d (n y : Nat) (h : onC (.A (kc n) (kc y))) : (l0S n y h).L = cw 4 (elN mP n) ++ (cw 4 (elN mP y) ++ cw 4 (elN mP 1)) := rfl
attribute [local irreducible] a0y lw mix cw b0q b0r b0i beN b0x a0Q a0A a0J elN mdL a0N rtN rtV b0S gXn gYn PT.L j0F j0e e0Z tbL tmR tmL dbN g0I g0t g0c dig rdT b0w a0W ptL e0v c0P a0O b0k b0u toB a0z a0E b0s a0H c0n b0l a0F c0z hB hN e0b c0H atY e0u l0S
theorem o0v {o : Oper} {a : Act} {p q : Operand} {T U : TypeId} {s t : ByteArray} {r : List UInt8} (ho : o.op = .binOp .add T p q U) (hp : a.eval p = .string s) (hq : a.eval q = .string t) (_hT : Tryz.prog.underlying T = some .string) (h : s.size + t.size ≤ 10000000) (hr : s ++ t = mkS r) (w : World) :
  (execOp a.eval o).run Tryz.prog w = .ok (.value (.string (mkS r))) w := by
 have h3 : (binOp .add T (.string s) (.string t)).run Tryz.prog w = .ok (.string (s ++ t)) w := by
  have h4 : s.size + t.size ≤ 9223372036854775807 := by omega
  go_simp
 have h2 := e0Q (P := Tryz.prog) ho hp hq w (by go_simp) h3
 rwa [hr] at h2
theorem i0D {w : World} {v : Value} {l : List UInt8} (h : PartIs w v l) : v.cells = #[v] := by
 obtain ⟨a, n, c, rfl, -⟩ := h
 rfl
theorem o0w {l : Nat} {vs : List Value} {nx : Next} {o : Oper} {a : Act} {w : World} {x : Operand} {xs : Array Operand} {ats : Array TypeId} (ho : o.op = .call { callee := .value x, args := xs, argTypes := ats }) (hx : a.eval x = .func (.yield l) #[] #[]) (ha : xs.toList.map a.eval = vs)
  (hy : (Instr.yield l vs.toArray).run Tryz.prog w = .ok nx w) : (execOp a.eval o).run Tryz.prog w = .ok nx w := by
 have ha2 : xs.map a.eval = vs.toArray := by rw [← ha]; simp [← Array.toList_map]
 unfold execOp
 simp only [ho, resolve, hx, ha2]
 simp [invoke, hy, go_sem]
theorem o0x (lab : ByteArray) (hsz : lab.size ≤ 100000) (g2 g3 : Nat) (va : Value) (b : List UInt8) (w : World) (h2 : Has w g2 [.string lab] 9) (h3 : Has w g3 [va] 22) (hb : PartIs w va b) :
  SeqStopsK Fence.wide 2 Tryz.prog 191 #[.pointer (some ⟨g2, 0, none⟩), .pointer (some ⟨g3, 0, none⟩)] (fun x : PT => #[.agg x.L.toArray]) (Below w.heap.size) (fun xs => xs = c0H lab.data.toList b 256) (fun pre => ∃ k x, k < 256 ∧ e0b lab.data.toList b k = some x ∧ pre = c0H lab.data.toList b k ++ [x]) 256 w := by
 intro l J Jx W hW hJ hJx hY h0
 refine callsIn_wide.2 ?_
 show Calls Tryz.prog 191 #[.func (.yield l) #[] #[], .pointer (some ⟨g2, 0, none⟩), .pointer (some ⟨g3, 0, none⟩)] W _
 have HY := qH hY
 have HJ := qH hJ
 have HJX := qH hJx
 have H0 := qH h0
 have HW := qH (Fr.ofBelow hW)
 have H2 := qH h2
 have H3 := qH h3
 have HB := qH hb
 have HSZ := qH hsz
 clear hY hJ hJx h0 hW h2 h3 hb hsz
 go_enter Tryz.func191, Tryz.ntmps191
 go_wp2
 go_loopw [8] (fun v wr => ∃ k : Nat, k ≤ 256 ∧ v = .int .i64 (k : Int) ∧ J (c0H lab.data.toList b k) wr ∧ Fr Nob w wr ∧ W.heap.size ≤ wr.heap.size) (fun v _ => 256 - (intOf v).toNat)
 case atStart => exact ⟨0, Nat.zero_le _, rfl, by rw [o0m]; exact H0.out, HW.out, Nat.le_refl _⟩
 case round =>
  obtain ⟨k, hk, rfl, hJk, hfk, hWk⟩ := hrel
  have HJK := qH hJk
  have HFK := qH hfk
  have HWK := qH hWk
  clear hJk hfk hWk
  by_cases hlt : k < 256
  ·have hltI : (k : Int) < 256 := by omega
   have hk0 : (0 : Int) ≤ (k : Int) := by omega
   have hk8 : (k : Int) % 256 = (k : Int) := by omega
   have HLT := qH hlt
   clear hlt hk
   have hc2 := (H2.out.keep HFK.out id).cell (show [Value.string lab][0]? = _ from rfl)
   have hc3 := (H3.out.keep HFK.out id).cell (show [va][0]? = _ from rfl)
   go_wp2_with (with_reducible refine wSk 12 ?_)
   refine l0G rfl (o0v rfl rfl rfl Tryz.underlying9 (by have h : (⟨#[112, 111, 105, 110, 116, 32]⟩ : ByteArray).size = 6 := rfl; rw [h]; have := HSZ.out; omega) (v0W lab) _) ?_
   go_wp2_with (with_reducible refine wSk 16 ?_)
   refine b0o rfl rfl Tryz.underlying22 c0w [.int .u8 (k : Int)] rfl (by intro u hu; simp only [List.mem_singleton] at hu; subst hu; rfl) rfl rfl ?_
   intro wa hga hfa hza
   clear hza hc2 hc3
   have hgb : Has wa wr.heap.size (bs [UInt8.ofNat k]) 5 := by
    have e : [Value.int .u8 (k : Int)] = bs [UInt8.ofNat k] := by
     show _ = [Value.int .u8 ((UInt8.ofNat k).toNat : Int)]
     rw [UInt8.toNat_ofNat', Nat.mod_eq_of_lt HLT.out]
    rw [e] at hga
    exact hga
   have hpb : PartIs wa (.slice (some ⟨wr.heap.size, 0, none⟩) 1 1) [UInt8.ofNat k] := ⟨_, 1, 1, rfl, Nat.le_refl _, by omega, Rd.whole hgb, fun x hx => by simp only [Option.some.injEq] at hx; subst hx; exact hgb.lt⟩
   have HPB := qH hpb
   have HFA := qH hfa
   have HPA := qH (HB.out.still (HFK.out.then hfa))
   have HVC := qH (i0D HB.out)
   clear hga hfa hgb hpb
   generalize hg16 : wr.heap.size = g16 at *
   have HG16 := qH hg16
   clear hg16
   go_wp2_with (with_reducible refine wSk 17 ?_)
   refine b0o (vs := [va, .slice (some ⟨g16, 0, none⟩) 1 1]) (hgd := rfl) (ho := rfl) (hu := Tryz.underlying39) (hi0 := t0t) (hp := by rfl) (hv := fun u hu => by
    simp only [List.mem_cons, List.not_mem_nil, or_false] at hu
    rcases hu with rfl | rfl
    ·exact HVC.out
    ·rfl) (hk := by rfl) (hz := by rfl) (h := ?_)
   intro wb hgb hfb hzb
   clear hzb
   have hps : Parts wb [va, .slice (some ⟨g16, 0, none⟩) 1 1] [b, [UInt8.ofNat k]] := ⟨HPA.out.still hfb, HPB.out.still hfb, trivial⟩
   have HPS := qH (hps.at hgb)
   have HFB := qH (HFA.out.then hfb)
   clear hgb hfb hps HPA HPB HFA
   generalize wa.heap.size = g17 at *
   go_wp2_with fail
   refine (p0b (mkS (h0H ++ lab.data.toList)) _ _ [b, [UInt8.ofNat k]] _ (by rw [m0s]; have := HSZ.out; simp [h0H]; omega) ap14 HPS.out).mono ?_
   rintro e wc ⟨vt, rfl, ho, hf⟩
   rw [f0S] at ho
   obtain ⟨at_, ct, hvt, hrt⟩ := w0c _ _ _ _ _ ho
   subst hvt
   have HRT := qH hrt
   have HFC := qH (HFB.out.then hf)
   clear ho hf hrt HFB HPS
   have hnl := z0n lab.data.toList b k (by have := HRT.out.len; exact this)
   have hni := x0V lab.data.toList b k
   generalize hn : hN lab.data.toList b k = n at *
   have HNL := qH hnl
   have HNN := qH hn
   have HNI := qH hni
   clear hnl hn hni
   go_wp2_with fail
   refine (c0g at_ 32 ct _ _ HRT.out ap12).mono ?_
   rintro e wd ⟨rfl, hf⟩
   rw [← HNI.out]
   have HFD := qH (HFC.out.then hf)
   clear hf HFC HRT
   have st0 := St.start Nob wd
   go_wp2_with (with_reducible refine wSk 5 ?_)
   refine a0a st0 rfl rfl (z := zAd) ap11 (cw 4 0) ap9 ?_
   intro g5 w1 st1
   clear st0
   go_wp2_with (with_reducible refine wSn ?_)
   refine a0b st1 0 rfl rfl rfl rfl rfl ap3 ap1 (a0d _ _) ?_
   intro w2 st2
   clear st1
   by_cases hd : n < mP.M
   ·have HD := qH (show decide (n < mP.M) = true from decide_eq_true hd)
    have HLM := qH hd
    clear hd
    go_wp2_with fail
    refine wp_region_noPanic ?_
    refine a0g st2 9 [.t 0, .c 1, .w 2, .w 3, .c 4, .w 5, .w 6, .c 7, .c 8] (.m 9 .nil) ap11 ap11 (fun _ _ _ _ _ h => h) ?_
    clear st2
    refine a0h rfl rfl rfl (fun _ => rfl) (cw 4 n) (fun wx hS => St.rangeL hS 0 rfl 0 _ dZl) Tryz.underlying111 rfl ap1 ?_
    try simp only [clL]
    refine a0K (X := Nat × Nat) (fun y => .pointer (some ⟨y.1, 0, none⟩)) (fun y w => Has w y.1 (d0N mP y.2 gXn gYn) 125 ∧ Has w y.2 (mdL mP) 187) (fun _ _ _ h k => ⟨h.1.keep k id, h.2.keep k id⟩) rfl rfl rfl Tryz.call86 (fun w hS hR => g0w _) (fun _ => rfl) fun y1 => ?_
    try simp only [clL]
    refine a0j rfl rfl apX ?_
    try simp only [clL]
    refine a0j rfl rfl apX ?_
    try simp only [clL]
    refine m0d (v := ?_) rfl rfl (fun xq wx hS hR => ?_) ?_
    rotate_left 1
    ·(have hc := (hR.2).1.cell (show (d0N mP y1.2 gXn gYn)[0]? = some (.pointer (some ⟨y1.2, 0, none⟩)) from rfl); clear hS hR; go_simp; with_reducible rfl)
    try simp only [clL]
    refine a0j rfl rfl apX ?_
    try simp only [clL]
    refine a0j rfl rfl apX ?_
    try simp only [clL]
    refine m0d (v := ?_) rfl rfl (fun xq wx hS hR => ?_) ?_
    rotate_left 1
    ·(refine c0L (hR.2).2 (x := .tmp 26) (p := 0) ?_ ?_ (cw 4 mP.M) (j0E mP) Tryz.underlying111 rfl ?_; rfl; rfl; (rw [a0e]; kernel_rfl))
    try simp only [clL]
    refine a0k rfl rfl rfl Tryz.call145 (fun w hS hR => f0i n mP.M _ HNL.out d0b.lt true HD.out) (fun _ => rfl) ?_
    try simp only [clL]
    refine a0I fun xq w3 st3 hR => ?_
    try dsimp only
    clear hR xq
    refine a0p rfl rfl ?_
    go_simp
    try simp only [clL]
    refine a0f ?_
    refine NoPanic.normal ?_
    rcases hr : b0S mP.M (e0u n) with _ | _
    ·have HR := qH hr
     have HC := qH (n0m HNN.out (fun h => by rw [hr] at h; exact absurd h.2 ap12))
     clear hr
     go_wp2_with fail
     refine wp_region_noPanic ?_
     refine a0g st3 13 [.o 11, .t 5, .c 0, .c 1, .w 2, .w 3, .c 4, .c 6, .c 7, .w 8, .w 9, .w 10, .j 11] (.r 12 (.m 13 .nil)) ap11 ap11 (fun _ _ _ _ _ h => h) ?_
     clear st3
     refine c0J rfl rfl rfl y0L (cw 12 0) rfl ?_
     try simp only [clL]
     refine a0h rfl rfl rfl (fun _ => rfl) (cw 4 n) (fun wx hS => St.rangeL hS 0 rfl 0 _ dZl) Tryz.underlying111 rfl ap1 ?_
     try simp only [clL]
     refine a0K (X := Nat × Nat) (fun y => .pointer (some ⟨y.1, 0, none⟩)) (fun y w => Has w y.1 (d0N mP y.2 gXn gYn) 125 ∧ Has w y.2 (mdL mP) 187) (fun _ _ _ h k => ⟨h.1.keep k id, h.2.keep k id⟩) rfl rfl rfl Tryz.call86 (fun w hS hR => g0w _) (fun _ => rfl) fun y2 => ?_
     try simp only [clL]
     refine a0K (X := Nat × Nat) (fun y => .pointer (some ⟨y.1, 0, none⟩)) (fun y w => Has w y.1 (d0N mP y.2 gXn gYn) 125 ∧ Has w y.2 (mdL mP) 187) (fun _ _ _ h k => ⟨h.1.keep k id, h.2.keep k id⟩) rfl rfl rfl Tryz.call86 (fun w hS hR => g0w _) (fun _ => rfl) fun y3 => ?_
     try simp only [clL]
     refine a0j rfl rfl apX ?_
     try simp only [clL]
     refine a0j rfl rfl apX ?_
     try simp only [clL]
     refine m0d (v := ?_) rfl rfl (fun xq wx hS hR => ?_) ?_
     rotate_left 1
     ·(have hc := (hR.2).1.cell (show (d0N mP y3.2 gXn gYn)[0]? = some (.pointer (some ⟨y3.2, 0, none⟩)) from rfl); clear hS hR; go_simp; with_reducible rfl)
     try simp only [clL]
     refine a0k rfl rfl rfl Tryz.call147 (fun w hS hR => d0c mP y3.2 _ d0b hR.2.2 n HNL.out) (fun _ => rfl) ?_
     try simp only [clL]
     refine a0k rfl rfl rfl Tryz.call184 (fun w hS hR => t0T mP y2.1 y2.2 gXn gYn _ d0b hR.1.2.1 hR.1.2.2 n false HR.out) (fun _ => rfl) ?_
     try simp only [clL]
     refine a0j rfl rfl apX ?_
     try simp only [clL]
     refine a0j rfl rfl apX ?_
     try simp only [clL]
     refine a0j rfl rfl apX ?_
     try simp only [clL]
     refine c0q List.mem_cons_self fun g6 => ?_
     simp only [upd, reduceIte]
     try simp only [Nat.reduceEqDiff, reduceIte]
     refine a0I fun xq w4 st4 hR => ?_
     try dsimp only
     clear hR xq
     refine a0r rfl rfl ?_
     refine a0i st4 1 rfl rfl rfl rfl ap3 ap4 (b0B _ _ _) ?_
     intro w5 st5
     repeat (first | simp only [List.cons_append] at st5 | simp only [List.nil_append] at st5 | simp only [List.set_cons_succ] at st5 | simp only [List.set_cons_zero] at st5)
     clear st4
     refine ⟨by first | exact st5 | exact St.less st5 ap14, ?_⟩
     try simp only [Act.put]
     refine a0p rfl rfl ?_
     go_simp
     try simp only [clL]
     refine a0f ?_
     refine NoPanic.normal ?_
     have HFE := qH (HFD.out.then st5.fr)
     clear st5
     go_wp2_with fail
     go_roundw
     case rel => exact ⟨k + 1, by have := HLT.out; omega, by go_num, by rw [j0y HC.out]; exact HJ.out _ _ _ none HJK.out HFE.out.grown (fun r e => by cases e), HFK.out.then HFE.out, Nat.le_trans (by have h := HWK.out; rw [← HG16.out] at h; exact h) HFE.out.size⟩
     case measure => have := HLT.out; simp [intOf]; omega
    ·have HR := qH hr
     have hon := y0E hr
     have HC := qH (show e0b lab.data.toList b k = some (l0S n (atY mP.M n) hon) from q0W HNN.out HLM.out hr)
     clear hr
     go_wp2_with fail
     refine wp_region_noPanic ?_
     refine a0g st3 13 [.o 11, .t 5, .c 0, .c 1, .w 2, .w 3, .c 4, .c 6, .c 7, .w 8, .w 9, .w 10, .j 11] (.r 12 (.m 13 .nil)) ap11 ap11 (fun _ _ _ _ _ h => h) ?_
     clear st3
     refine c0J rfl rfl rfl y0L (cw 12 0) rfl ?_
     try simp only [clL]
     refine a0h rfl rfl rfl (fun _ => rfl) (cw 4 n) (fun wx hS => St.rangeL hS 0 rfl 0 _ dZl) Tryz.underlying111 rfl ap1 ?_
     try simp only [clL]
     refine a0K (X := Nat × Nat) (fun y => .pointer (some ⟨y.1, 0, none⟩)) (fun y w => Has w y.1 (d0N mP y.2 gXn gYn) 125 ∧ Has w y.2 (mdL mP) 187) (fun _ _ _ h k => ⟨h.1.keep k id, h.2.keep k id⟩) rfl rfl rfl Tryz.call86 (fun w hS hR => g0w _) (fun _ => rfl) fun y2 => ?_
     try simp only [clL]
     refine a0K (X := Nat × Nat) (fun y => .pointer (some ⟨y.1, 0, none⟩)) (fun y w => Has w y.1 (d0N mP y.2 gXn gYn) 125 ∧ Has w y.2 (mdL mP) 187) (fun _ _ _ h k => ⟨h.1.keep k id, h.2.keep k id⟩) rfl rfl rfl Tryz.call86 (fun w hS hR => g0w _) (fun _ => rfl) fun y3 => ?_
     try simp only [clL]
     refine a0j rfl rfl apX ?_
     try simp only [clL]
     refine a0j rfl rfl apX ?_
     try simp only [clL]
     refine m0d (v := ?_) rfl rfl (fun xq wx hS hR => ?_) ?_
     rotate_left 1
     ·(have hc := (hR.2).1.cell (show (d0N mP y3.2 gXn gYn)[0]? = some (.pointer (some ⟨y3.2, 0, none⟩)) from rfl); clear hS hR; go_simp; with_reducible rfl)
     try simp only [clL]
     refine a0k rfl rfl rfl Tryz.call147 (fun w hS hR => d0c mP y3.2 _ d0b hR.2.2 n HNL.out) (fun _ => rfl) ?_
     try simp only [clL]
     refine a0k rfl rfl rfl Tryz.call184 (fun w hS hR => t0T mP y2.1 y2.2 gXn gYn _ d0b hR.1.2.1 hR.1.2.2 n true HR.out) (fun _ => rfl) ?_
     try simp only [clL]
     refine a0j rfl rfl apX ?_
     try simp only [clL]
     refine a0j rfl rfl apX ?_
     try simp only [clL]
     refine a0j rfl rfl apX ?_
     try simp only [clL]
     refine c0q List.mem_cons_self fun g6 => ?_
     simp only [upd, reduceIte]
     try simp only [Nat.reduceEqDiff, reduceIte]
     refine a0I fun xq w4 st4 hR => ?_
     try dsimp only
     clear hR xq
     refine a0r rfl rfl ?_
     refine a0i st4 1 rfl rfl rfl rfl ap3 ap4 (b0B _ _ _) ?_
     intro w5 st5
     repeat (first | simp only [List.cons_append] at st5 | simp only [List.nil_append] at st5 | simp only [List.set_cons_succ] at st5 | simp only [List.set_cons_zero] at st5)
     clear st4
     refine ⟨by first | exact st5 | exact St.less st5 ap14, ?_⟩
     try simp only [Act.put]
     refine a0p rfl rfl ?_
     go_simp
     try simp only [clL]
     refine a0f ?_
     refine NoPanic.normal ?_
     have HAF := qH (w0d n (atY mP.M n) hon)
     have HFE := qH (HFD.out.then st5.fr)
     obtain ⟨fnn, tmps, assign, body, hy, hR⟩ := HY.out (c0H lab.data.toList b k) (l0S n (atY mP.M n) hon) w5 (HJ.out _ _ _ none HJK.out HFE.out.grown (fun r e => by cases e)) (Nat.lt_of_le_of_lt (q0X _ _ _) HLT.out)
     rw [HAF.out] at hy
     have HHY := qH hy
     have HRR := qH hR
     have HPT := qH (st5.at 1 rfl)
     clear hy hR st5
     go_upto_region 6 with fail
     refine h0W 2 ?_
     refine g0x rfl (fun c h => by cases h) (by go_simp; with_reducible rfl) ?_
     try simp only [clL]
     refine g0x rfl (fun c h => by cases h) (by go_simp; with_reducible rfl) ?_
     try simp only [clL]
     refine g0x rfl (fun c h => by cases h) (by go_simp; with_reducible rfl) ?_
     try simp only [clL]
     refine g0x rfl (fun c h => by cases h) (c0L HPT.out rfl rfl (cw 4 (elN mP n) ++ (cw 4 (elN mP (atY mP.M n)) ++ cw 4 (elN mP 1))) dZl Tryz.underlying117 rfl ap4) ?_
     try simp only [clL]
     refine o0u rfl (o0w (vs := [.agg (cw 4 (elN mP n) ++ (cw 4 (elN mP (atY mP.M n)) ++ cw 4 (elN mP 1))).toArray]) rfl rfl rfl HHY.out) HRR.out ?_
     rintro e W3 (⟨rfl, hJ3, hK3⟩ | ⟨rfl, hJx3⟩)
     ·refine ⟨_, rfl, ?_⟩
      try simp only [clL]
      refine g0x rfl (fun c h => by cases h) (by go_simp; with_reducible rfl) ?_
      try simp only [clL]
      refine g0x rfl (fun c h => by cases h) (by go_simp; with_reducible rfl) ?_
      try simp only [clL]
      refine wpListIn_nil ?_
      have hF3 : Fr Nob w W3 := Fr.ofBelow ((HFK.out.then HFE.out).below.trans hK3)
      have HF3 := qH hF3
      have HS3 := qH (Nat.le_trans (by have h := HWK.out; rw [← HG16.out] at h; exact h) (Nat.le_trans HFE.out.size hK3.size))
      have HJ3 := qH hJ3
      clear hJ3 hK3 hF3
      go_wp2_with fail
      go_roundw
      case rel => exact ⟨k + 1, by have := HLT.out; omega, by go_num, by rw [h0I HC.out]; exact HJ3.out, HF3.out, HS3.out⟩
      case measure => have := HLT.out; simp [intOf]; omega
     ·refine ⟨_, rfl, ?_⟩
      try simp only [clL]
      refine g0x rfl (fun c h => by cases h) (by go_simp; with_reducible rfl) ?_
      try simp only [clL]
      refine g0x rfl (fun c h => by cases h) (by go_simp; with_reducible rfl) ?_
      try simp only [clL]
      refine wpListIn_nil ?_
      have HJX3 := qH hJx3
      clear hJx3
      go_wp2_with fail
      refine bodyPost_ret (results_none rfl _ _ _) rfl ?_
      exact ⟨⟨_, rfl⟩, .inr ⟨_, ⟨k, _, HLT.out, HC.out, rfl⟩, HJX3.out⟩⟩
   ·have HD := qH (show decide (n < mP.M) = false from decide_eq_false hd)
    have HC := qH (n0m HNN.out (fun h => hd h.1))
    clear hd
    go_wp2_with fail
    refine wp_region_noPanic ?_
    refine a0g st2 9 [.t 0, .c 1, .w 2, .w 3, .c 4, .w 5, .w 6, .c 7, .c 8] (.m 9 .nil) ap11 ap11 (fun _ _ _ _ _ h => h) ?_
    clear st2
    refine a0h rfl rfl rfl (fun _ => rfl) (cw 4 n) (fun wx hS => St.rangeL hS 0 rfl 0 _ dZl) Tryz.underlying111 rfl ap1 ?_
    try simp only [clL]
    refine a0K (X := Nat × Nat) (fun y => .pointer (some ⟨y.1, 0, none⟩)) (fun y w => Has w y.1 (d0N mP y.2 gXn gYn) 125 ∧ Has w y.2 (mdL mP) 187) (fun _ _ _ h k => ⟨h.1.keep k id, h.2.keep k id⟩) rfl rfl rfl Tryz.call86 (fun w hS hR => g0w _) (fun _ => rfl) fun y1 => ?_
    try simp only [clL]
    refine a0j rfl rfl apX ?_
    try simp only [clL]
    refine a0j rfl rfl apX ?_
    try simp only [clL]
    refine m0d (v := ?_) rfl rfl (fun xq wx hS hR => ?_) ?_
    rotate_left 1
    ·(have hc := (hR.2).1.cell (show (d0N mP y1.2 gXn gYn)[0]? = some (.pointer (some ⟨y1.2, 0, none⟩)) from rfl); clear hS hR; go_simp; with_reducible rfl)
    try simp only [clL]
    refine a0j rfl rfl apX ?_
    try simp only [clL]
    refine a0j rfl rfl apX ?_
    try simp only [clL]
    refine m0d (v := ?_) rfl rfl (fun xq wx hS hR => ?_) ?_
    rotate_left 1
    ·(refine c0L (hR.2).2 (x := .tmp 26) (p := 0) ?_ ?_ (cw 4 mP.M) (j0E mP) Tryz.underlying111 rfl ?_; rfl; rfl; (rw [a0e]; kernel_rfl))
    try simp only [clL]
    refine a0k rfl rfl rfl Tryz.call145 (fun w hS hR => f0i n mP.M _ HNL.out d0b.lt false HD.out) (fun _ => rfl) ?_
    try simp only [clL]
    refine a0I fun xq w3 st3 hR => ?_
    try dsimp only
    clear hR xq
    refine a0p rfl rfl ?_
    go_simp
    try simp only [clL]
    refine a0f ?_
    refine NoPanic.normal ?_
    have HFE := qH (HFD.out.then st3.fr)
    clear st3
    go_wp2_with fail
    go_roundw
    case rel => exact ⟨k + 1, by have := HLT.out; omega, by go_num, by rw [j0y HC.out]; exact HJ.out _ _ _ none HJK.out HFE.out.grown (fun r e => by cases e), HFK.out.then HFE.out, Nat.le_trans (by have h := HWK.out; rw [← HG16.out] at h; exact h) HFE.out.size⟩
    case measure => have := HLT.out; simp [intOf]; omega
  ·have hge : ¬ ((k : Int) < 256) := by omega
   have hk6 : k = 256 := by omega
   subst hk6
   clear hk hlt
   go_wp2_with fail
   go_end0
   first | exact ⟨⟨_, rfl⟩, .inl HJK.out⟩ | exact ⟨⟨_, rfl⟩, .inl ⟨_, rfl, HJK.out⟩⟩
end Go.Proofs.YtemcankmggmgoaaGreat
namespace Go.Mv
open Go.RowKit
theorem d0J {β : Type} (B g : Nat) (L : List Value) (T : TypeId) : OwnFrom B (fun (_ : β) W => Has W g L T) := fun _ X Y row hs hg hr =>
 Has.keep hs (Fr.ofGrown hg) (fun e => by
  obtain ⟨_, o, ho, hc⟩ := hr g e
  obtain ⟨lo, hi, h, -⟩ := hs
  rw [h] at ho
  cases ho
  cases hc)
theorem e0Y {β : Type} {B : Nat} {w : World} (hB : w.heap.size ≤ B) : OwnFrom B (fun (_ : β) W => Fr Nob w W) := fun _ X Y row hs hg hr =>
 hs.trans (Fr.ofGrown hg) (fun i hi t => by
  have h := (hr i t).1
  omega)
theorem k0S {β : Type} (B n : Nat) : OwnFrom B (fun (_ : β) (W : World) => n ≤ W.heap.size) := fun _ _ _ _ hs hg _ => Nat.le_trans hs hg.size
theorem n0t {B : Nat} {W W' : World} (h : Fr Nob W W') : KeepsFrom B W W' :=
 ⟨h.size, fun k _ _ hk _ => (h.block k (Array.getElem?_eq_some_iff.1 hk).1 id).trans hk⟩
theorem k0T {B g : Nat} {W W' : World} (h : Fr (One g) W W') (hg : g < B) : KeepsFrom B W W' :=
 ⟨h.size, fun k o hB hk _ => (h.block k (Array.getElem?_eq_some_iff.1 hk).1 (fun e => by have : k = g := e; omega)).trans hk⟩
theorem w0e (t : Array Value) (p : Tmp) (v : Value) : (#[p].zip #[v]).foldl (fun t (p, v) => t.setIfInBounds p v) t = t.setIfInBounds p v := by simp
theorem u0f {K : Act → World → Prop} {Q : Exit → Act → World → Prop} (h : ∀ a w, ¬ Q .outgrown a w) : ¬ LetsOut (Exit.then K Q) := by
 rintro ⟨a, w, k⟩
 exact h a w k
end Go.Mv
namespace Go.Proofs.YtemcankmggmgoaaGreat
section
open Go.RowKit Go.Mv Mvp Mvq
theorem y0X : (Tryz.prog.info? 117).map (·.zero) = some (some (.agg (List.replicate 12 (.int .u64 0)).toArray)) := by kernel_rfl
attribute [local irreducible] a0y lw mix cw b0q b0r b0i beN b0x a0Q a0A a0J elN mdL a0N rtN rtV b0S gXn gYn PT.L j0F j0e e0Z tbL tmR tmL dbN g0I g0t g0c dig rdT b0w a0W ptL e0v c0P a0O c0z hB hN e0b c0H g0y atY e0u l0S
theorem w0f (lab : ByteArray) (va : Value) (hva : va.cells = #[va]) (w : World) : Calls Tryz.prog 161 #[.string lab, va] w fun e w' => ∃ g2 g3, e = .returned (.func (.func 191) #[] #[.pointer (some ⟨g2, 0, none⟩), .pointer (some ⟨g3, 0, none⟩)]) ∧ Has w' g2 [.string lab] 9 ∧ Has w' g3 [va] 22 ∧ Fr Nob w w' := by
 have HVA := qH hva
 clear hva
 have st0 := St.start Nob w
 go_enter Tryz.func161, Tryz.ntmps161
 go_wp2_with (with_reducible refine wSk 2 ?_)
 refine a0q st0 rfl rfl rfl [.string lab] rfl ?_
 intro g2 w1 st1
 clear st0
 unfold Act.put
 go_wp2_with (with_reducible refine wSk 3 ?_)
 refine a0q st1 rfl rfl rfl [va] (by show va.cells.toList = [va]; rw [HVA.out]) ?_
 intro g3 w2 st2
 clear st1
 have H2 := qH (st2.at 0 rfl)
 have H3 := qH (st2.at 1 rfl)
 have HF := qH st2.fr
 clear st2
 go_wp2_with fail
 go_ret
 exact ⟨g2, g3, rfl, H2.out, H3.out, HF.out⟩
theorem t0u (lab : ByteArray) (hsz : lab.size ≤ 100000) (va : Value) (b : List UInt8) (w : World) (hb : PartIs w va b) :
  Calls Tryz.prog 100 #[.string lab, va] w fun e w' => e = .returned (.agg (g0y lab.data.toList b).L.toArray) ∧ Fr Nob w w' := by
 have HSZ := qH hsz
 have HB := qH hb
 have HVA := qH (i0D hb)
 clear hsz hb
 have st0 := St.start Nob w
 refine (callsIn_wide (n := 3)).1 ?_
 refine callsIn_of_wp_marks Tryz.func100 rfl trivial ?_ rfl
 simp only [Tryz.ntmps100, List.size_toArray, List.length_cons, List.length_nil, Nat.reduceAdd, Nat.reduceSub, Array.replicate_succ, Array.replicate_zero, List.push_toArray, List.append_toArray, List.nil_append, List.cons_append]
 refine wpIn_wide.2 ?_
 go_wp2_with (with_reducible refine wSk 4 ?_)
 refine a0a st0 rfl rfl y0X (cw 12 0) ap9 ?_
 intro g4 w1 st1
 clear st0
 go_wp2_with fail
 refine (w0f lab va HVA.out _).mono ?_
 rintro e w2 ⟨g2, g3, rfl, hg2, hg3, hf2⟩
 have st2 := st1.keep hf2
 have HG2 := qH hg2
 have HG3 := qH hg3
 clear st1 hf2 hg2 hg3
 have H4 := qH (st2.at 0 rfl)
 have HGE := qH ((st2.own _ List.mem_cons_self).resolve_right (fun h => h.elim))
 have HF := qH st2.fr
 have HLT := qH (st2.at 0 rfl).lt
 clear st2
 go_wp2_with fail
 refine (wpIn_wide (n := 3)).1 ?_
 refine wpIn_rangeFunc_ownH (F := Fence.wide) rfl ap13 (gf := 191) (lb := #[.pointer (some ⟨g2, 0, none⟩), .pointer (some ⟨g3, 0, none⟩)]) rfl trivial (enters_of Tryz.func191 ap11 rfl)
  (o0x lab HSZ.out g2 g3 va b w2 HG2.out HG3.out (HB.out.still HF.out)) belowK_t (belowK_b (Nat.le_refl _)) (Below.refl _ _) (fun _ => rfl)
  (fun pre W => pre = [] ∧ (Has W g4 (cw 12 0) 117 ∧ (Fr Nob w W ∧ w2.heap.size ≤ W.heap.size)))
  (fun c pre W => c = .ret ∧ ∃ x : PT, pre = [x] ∧ (Has W g4 x.L 117 ∧ Fr Nob w W))
  (OwnFrom.and (ownFrom_pure _ _) (OwnFrom.and (d0J _ _ _ _) (OwnFrom.and (e0Y HF.out.size) (k0S _ _))))
  (fun c s X Y row hs hg hr => by
   obtain ⟨h1, x, h2, h3, h4⟩ := hs
   exact ⟨h1, x, h2, d0J (β := Unit) _ g4 x.L _ () X Y row h3 hg hr, e0Y (β := Unit) HF.out.size () X Y row h4 hg hr⟩)
  ⟨rfl, H4.out, HF.out, Nat.le_refl _⟩
  (fun x a' W => ∃ Bx, Has W Bx x.L 117 ∧ a' = { tmps := #[.string lab, va, undef, undef, .pointer (some ⟨g4, 0, none⟩), .pointer (some ⟨Bx, 0, none⟩), .string lab, va, .func (.func 191) #[] #[.pointer (some ⟨g2, 0, none⟩), .pointer (some ⟨g3, 0, none⟩)], .agg x.L.toArray, undef, undef, undef, undef, undef], defers := [] })
  (fun x a' s X Y row hs hg hr => by
   obtain ⟨Bx, h1, h2⟩ := hs
   exact ⟨Bx, d0J (β := Unit) _ Bx x.L _ () X Y row h1 hg hr, h2⟩)
  ?assign ?body ?done ?stop
 case assign =>
  rintro l pre x W K ⟨rfl, h4, hfr, hsz⟩ hK
  refine h0K (u0f fun _ _ h => h) rfl ?_
  have st := St.start Nob W
  have HK := qH hK
  have H4 := qH h4
  have HFR := qH hfr
  have HS := qH hsz
  clear hK h4 hfr hsz
  rw [w0e]
  simp only [List.setIfInBounds_toArray, List.set_cons_zero, List.set_cons_succ]
  refine a0a st rfl rfl y0X (cw 12 0) ap9 ?_
  intro gx W1 s1
  try simp only [clL]
  refine a0b s1 0 rfl rfl rfl rfl rfl (by rw [a0e, PT.len]) (by rw [PT.len]; kernel_rfl) (PT.one _) ?_
  intro W2 s2
  try simp only [Act.put]
  refine wpList_nil ?_
  have hf := s2.fr
  exact HK.out _ _ (n0t hf) (hf.below.mono HS.out) ⟨rfl, H4.out.keep hf id, HFR.out.then hf, Nat.le_trans HS.out hf.size⟩ ⟨gx, s2.at 0 rfl, rfl⟩
 case body =>
  rintro l pre x a' W hl hr ⟨rfl, h4, hfr, hsz⟩ ⟨Bx, hx, rfl⟩ hlt
  refine wpIn_block (wpIn_seq ?_)
  refine h0K (u0f fun _ _ h => h) rfl ?_
  have st := St.one h4
  have HX := qH hx
  have HFR := qH hfr
  clear hr hx h4 hfr
  refine f0t rfl rfl Tryz.underlying117 rfl rfl (cs := x.L) (fun i v hv => HX.out.range 0 _ dZl i v hv) (by rw [PT.len]; kernel_rfl) ?_
  try simp only [clL]
  refine a0b st 0 rfl rfl rfl rfl rfl (by rw [a0e, PT.len]) (by rw [PT.len]; kernel_rfl) (PT.one _) ?_
  intro W2 s2
  try simp only [Act.put]
  refine wpList_nil ?_
  refine wpIn_ret ?_
  exact ⟨k0T s2.fr HLT.out, rfl, x, rfl, s2.at 0 rfl, HFR.out.new s2.fr HGE.out⟩
 case done =>
  rintro D xs W hD hS ⟨rfl, h4, hfr, hsz⟩ hK
  have HS := qH (o0o hS.symm)
  have st := (St.start Nob w)
  have HFR := qH hfr
  have H4' := qH h4
  have HD := qH hK
  have HDD := qH hD
  clear hS h4 hfr hsz hK hD st
  go_wp2_with fail
  refine (g0w _).mono ?_
  rintro e w3 ⟨y, rfl, ⟨hc, hm⟩, hf⟩
  have HC := qH hc
  have HF3 := qH hf
  clear hc hm hf
  go_wp2_with (with_reducible refine wSk 14 ?_)
  refine f0t rfl rfl Tryz.underlying117 rfl rfl (cs := d0s.L) (fun i v hv => HC.out.range 5 _ g0e i v hv) (by rw [PT.len]; kernel_rfl) ?_
  have st := St.one (H4'.out.keep HF3.out id)
  go_wp2_with (with_reducible refine wSn ?_)
  refine a0b st 0 rfl rfl rfl rfl rfl (by rw [a0e, PT.len]) (by rw [PT.len]; kernel_rfl) (PT.one _) ?_
  intro w5 s5
  have HF5 := qH s5.fr
  have H5 := qH (s5.at 0 rfl)
  clear st s5
  go_wp2_with fail
  have hD3 := (n0t (B := w2.heap.size) HF3.out).same D _ HDD.out HD.out rfl
  have hD5 := (k0T HF5.out HLT.out).same D _ HDD.out hD3 rfl
  refine ⟨by simp, .inl ⟨_, _, rfl, run_takeDeferred hD5, ?_⟩⟩
  have hfin := (d0J (β := Unit) 0 g4 _ _).putObj (s := ()) (.deferred none) H5.out (Nat.zero_le _) hD5 rfl
  refine ⟨_, a0B rfl rfl hfin Tryz.underlying117 rfl (by rw [PT.len]; kernel_rfl), by rw [HS.out], ?_⟩
  exact (e0Y (β := Unit) (B := w2.heap.size) HF.out.size).putObj (s := ()) (.deferred none) ((HFR.out.then HF3.out).new HF5.out HGE.out) HDD.out hD5 rfl
 case stop =>
  rintro D c pre W hD ⟨k, x', hk, hc, hp⟩ ⟨rfl, x, rfl, h4, hfr⟩ hK
  have hnil : c0H lab.data.toList b k = [] := by
   cases hq : c0H lab.data.toList b k with
   | nil => rfl
   | cons y ys =>
    rw [hq] at hp
    have := congrArg List.length hp
    simp at this
  rw [hnil] at hp
  have hxx : x = x' := by simpa using hp
  subst hxx
  have HS := qH (o0p hk hc hnil)
  refine wpIn_ret ?_
  refine ⟨by simp, .inl ⟨_, _, rfl, run_takeDeferred hK, ?_⟩⟩
  have hfin := (d0J (β := Unit) 0 g4 _ _).putObj (s := ()) (.deferred none) h4 (Nat.zero_le _) hK rfl
  refine ⟨_, a0B rfl rfl hfin Tryz.underlying117 rfl (by rw [PT.len]; kernel_rfl), by rw [HS.out], ?_⟩
  exact (e0Y (β := Unit) (B := w2.heap.size) HF.out.size).putObj (s := ()) (.deferred none) hfr hD hK rfl
end
section
open Go.RowKit Go.Mv Mvp Mvq
def x0W : List UInt8 := [118, 97, 108, 117, 101]
noncomputable def hTT : PT := g0y x0W []
theorem t0v (w : World) : Calls Tryz.prog 100 #[.string ⟨#[118, 97, 108, 117, 101]⟩, .slice none 0 0] w fun e w' => e = .returned (.agg hTT.L.toArray) ∧ Fr Nob w w' :=
 t0u ⟨#[118, 97, 108, 117, 101]⟩ ap12 (.slice none 0 0) [] w ⟨none, 0, 0, rfl, Nat.le_refl _, Nat.zero_le _, RdB.nil _ _, fun x h => by cases h⟩
theorem x0X (a b : Nat × PT) : tmL [a, b] = tmR a ++ tmR b := by
 show (List.range 2).flatMap (fun k => tmR (f0l [a, b] k)) = tmR a ++ tmR b
 simp [List.range_succ, f0l]
theorem n0u (w : World) : Calls Tryz.prog 86 #[] w fun e w' => ∃ gc : Nat, e = .returned (.pointer (some ⟨gc, 0, none⟩)) ∧ Cv w' gc ∧ Fr Nob w w' :=
 (d0j w).mono fun _ _ ⟨gc, k1, _, k2, k3⟩ => ⟨gc, k1, k2, k3⟩
attribute [local irreducible] a0y lw mix cw b0q b0r b0i beN b0x a0Q a0A a0J elN mdL a0N rtN rtV b0S gXn gYn PT.L j0F j0e e0Z tbL tmR tmL dbN g0I g0t g0c dig rdT b0w a0W ptL e0v c0P a0O c0z hB hN e0b c0H g0y atY e0u l0S
theorem _root_.ap0 {p : Prop} (h : p := by first | (rw [a0e]; kernel_rfl) | (rw [PT.len]; kernel_rfl) | (rw [b0C]; kernel_rfl) | (rw [b0V]; kernel_rfl) | (rw [d0d]; kernel_rfl) | (simp only [List.length_append, a0e]; kernel_rfl) | (simp only [List.length_append, a0e, PT.len, b0C, b0V, d0d]; kernel_rfl)) : p := h
theorem _root_.ap2 {p : Prop} (h : p := by first | (simp only [a0e]; done) | (simp only [List.length_append, a0e, PT.len, b0C, b0V, d0d]; done)) : p := h
theorem r0j (vv vr : Value) (lv lr : List UInt8) (w : World) (hpv : BPart w vv lv) (hpr : BPart w vr lr) (hv : a0N mQ lv = false) (hr : a0N mQ lr = false) :
  Calls Tryz.prog 33 #[vv, vr] w fun e w' => e = .returned (.tuple #[.slice none 0 0, .int .i64 3]) ∧ Fr Nob w w' := by
 obtain ⟨av, nv, cv, rfl, -, hrv⟩ := hpv
 obtain ⟨ar, nr, cr, rfl, -, hrr⟩ := hpr
 have HRv := qH hrv
 have HRr := qH hrr
 have HKv := qH hv
 have HKr := qH hr
 clear hrv hrr hv hr
 have st0 := St.start Nob w
 go_enter Tryz.func33, Tryz.ntmps33
 go_wp2_with fail
 refine (e0V HKv.out av nv cv _ (HRv.out.still st0.fr)).mono ?_
 rintro e' w1 ⟨⟨N1, rfl⟩, hf1⟩
 have st1 := st0.keep hf1
 clear st0 hf1
 go_wp2_with (with_reducible refine wSk 6 ?_)
 refine a0a st1 rfl rfl (z := zAd) ap11 (cw 4 0) ap9 ?_
 intro g6 w2 st2
 clear st1
 go_wp2_with (with_reducible refine wSn ?_)
 refine a0b st2 0 rfl rfl rfl rfl rfl ap2 ap0 (a0d _ _) ?_
 intro w3 st3
 clear st2
 go_wp2_with fail
 refine (e0V HKr.out ar nr cr _ (HRr.out.still st3.fr)).mono ?_
 rintro e' w4 ⟨⟨N2, rfl⟩, hf4⟩
 have st4 := st3.keep hf4
 clear st3 hf4
 go_wp2_with (with_reducible refine wSk 8 ?_)
 refine a0a st4 rfl rfl (z := zAd) ap11 (cw 4 0) ap9 ?_
 intro g8 w5 st5
 clear st4
 go_wp2_with (with_reducible refine wSn ?_)
 refine a0b st5 1 rfl rfl rfl rfl rfl ap2 ap0 (a0d _ _) ?_
 intro w6 st6
 clear st5
 have hfr := st6.fr
 clear st6
 go_wp2_with fail
 go_ret2
 exact ⟨rfl, hfr⟩
theorem r0k (vv vr : Value) (lv lr : List UInt8) (w : World) (hpv : BPart w vv lv) (hpr : BPart w vr lr) (hv : a0N mQ lv = false) (hr : a0N mQ lr = true) :
  Calls Tryz.prog 33 #[vv, vr] w fun e w' => e = .returned (.tuple #[.slice none 0 0, .int .i64 3]) ∧ Fr Nob w w' := by
 obtain ⟨av, nv, cv, rfl, -, hrv⟩ := hpv
 obtain ⟨ar, nr, cr, rfl, -, hrr⟩ := hpr
 have HRv := qH hrv
 have HRr := qH hrr
 have HKv := qH hv
 have HKr := qH hr
 clear hrv hrr hv hr
 have st0 := St.start Nob w
 go_enter Tryz.func33, Tryz.ntmps33
 go_wp2_with fail
 refine (e0V HKv.out av nv cv _ (HRv.out.still st0.fr)).mono ?_
 rintro e' w1 ⟨⟨N1, rfl⟩, hf1⟩
 have st1 := st0.keep hf1
 clear st0 hf1
 go_wp2_with (with_reducible refine wSk 6 ?_)
 refine a0a st1 rfl rfl (z := zAd) ap11 (cw 4 0) ap9 ?_
 intro g6 w2 st2
 clear st1
 go_wp2_with (with_reducible refine wSn ?_)
 refine a0b st2 0 rfl rfl rfl rfl rfl ap2 ap0 (a0d _ _) ?_
 intro w3 st3
 clear st2
 go_wp2_with fail
 refine (d0u HKr.out ar nr cr _ (HRr.out.still st3.fr)).mono ?_
 rintro e' w4 ⟨rfl, hf4⟩
 have st4 := st3.keep hf4
 clear st3 hf4
 go_wp2_with (with_reducible refine wSk 8 ?_)
 refine a0a st4 rfl rfl (z := zAd) ap11 (cw 4 0) ap9 ?_
 intro g8 w5 st5
 clear st4
 go_wp2_with (with_reducible refine wSn ?_)
 refine a0b st5 1 rfl rfl rfl rfl rfl ap2 ap0 (a0d _ _) ?_
 intro w6 st6
 clear st5
 have hfr := st6.fr
 clear st6
 go_wp2_with fail
 go_ret2
 exact ⟨rfl, hfr⟩
theorem r0l (vv vr : Value) (lv lr : List UInt8) (w : World) (hpv : BPart w vv lv) (hpr : BPart w vr lr) (hv : a0N mQ lv = true) (hr : a0N mQ lr = false) :
  Calls Tryz.prog 33 #[vv, vr] w fun e w' => e = .returned (.tuple #[.slice none 0 0, .int .i64 3]) ∧ Fr Nob w w' := by
 obtain ⟨av, nv, cv, rfl, -, hrv⟩ := hpv
 obtain ⟨ar, nr, cr, rfl, -, hrr⟩ := hpr
 have HRv := qH hrv
 have HRr := qH hrr
 have HKv := qH hv
 have HKr := qH hr
 clear hrv hrr hv hr
 have st0 := St.start Nob w
 go_enter Tryz.func33, Tryz.ntmps33
 go_wp2_with fail
 refine (d0u HKv.out av nv cv _ (HRv.out.still st0.fr)).mono ?_
 rintro e' w1 ⟨rfl, hf1⟩
 have st1 := st0.keep hf1
 clear st0 hf1
 go_wp2_with (with_reducible refine wSk 6 ?_)
 refine a0a st1 rfl rfl (z := zAd) ap11 (cw 4 0) ap9 ?_
 intro g6 w2 st2
 clear st1
 go_wp2_with (with_reducible refine wSn ?_)
 refine a0b st2 0 rfl rfl rfl rfl rfl ap2 ap0 (a0d _ _) ?_
 intro w3 st3
 clear st2
 go_wp2_with fail
 refine (e0V HKr.out ar nr cr _ (HRr.out.still st3.fr)).mono ?_
 rintro e' w4 ⟨⟨N2, rfl⟩, hf4⟩
 have st4 := st3.keep hf4
 clear st3 hf4
 go_wp2_with (with_reducible refine wSk 8 ?_)
 refine a0a st4 rfl rfl (z := zAd) ap11 (cw 4 0) ap9 ?_
 intro g8 w5 st5
 clear st4
 go_wp2_with (with_reducible refine wSn ?_)
 refine a0b st5 1 rfl rfl rfl rfl rfl ap2 ap0 (a0d _ _) ?_
 intro w6 st6
 clear st5
 have hfr := st6.fr
 clear st6
 go_wp2_with fail
 go_ret2
 exact ⟨rfl, hfr⟩
theorem k0U (vv vr : Value) (lv lr : List UInt8) (w : World) (hpv : BPart w vv lv) (hpr : BPart w vr lr) (hv : a0N mQ lv = true) (hr : a0N mQ lr = true) :
  Calls Tryz.prog 33 #[vv, vr] w fun e w' => ∃ v, e = .returned (.tuple #[v, .int .i64 0]) ∧ Go.Mv.Own w' w.heap.size 5 1 v 33 (bs (a0O (g0c [(beN lv, hTT), (beN lr, d0s)]).pt)) ∧ Fr Nob w w' := by
 obtain ⟨av, nv, cv, rfl, -, hrv⟩ := hpv
 obtain ⟨ar, nr, cr, rfl, -, hrr⟩ := hpr
 have HRv := qH hrv
 have HRr := qH hrr
 have HKv := qH hv
 have HKr := qH hr
 clear hrv hrr hv hr
 have st0 := St.start Nob w
 go_enter Tryz.func33, Tryz.ntmps33
 go_wp2_with fail
 refine (d0u HKv.out av nv cv _ (HRv.out.still st0.fr)).mono ?_
 rintro e' w1 ⟨rfl, hf1⟩
 have st1 := st0.keep hf1
 clear st0 hf1
 go_wp2_with (with_reducible refine wSk 6 ?_)
 refine a0a st1 rfl rfl (z := zAd) ap11 (cw 4 0) ap9 ?_
 intro g6 w2 st2
 clear st1
 go_wp2_with (with_reducible refine wSn ?_)
 refine a0b st2 0 rfl rfl rfl rfl rfl ap2 ap0 (a0d _ _) ?_
 intro w3 st3
 clear st2
 go_wp2_with fail
 refine (d0u HKr.out ar nr cr _ (HRr.out.still st3.fr)).mono ?_
 rintro e' w4 ⟨rfl, hf4⟩
 have st4 := st3.keep hf4
 clear st3 hf4
 go_wp2_with (with_reducible refine wSk 8 ?_)
 refine a0a st4 rfl rfl (z := zAd) ap11 (cw 4 0) ap9 ?_
 intro g8 w5 st5
 clear st4
 go_wp2_with (with_reducible refine wSn ?_)
 refine a0b st5 1 rfl rfl rfl rfl rfl ap2 ap0 (a0d _ _) ?_
 intro w6 st6
 clear st5
 go_wp2_with fail
 refine wp_region_noPanic ?_
 refine a0g st6 19 [.t 2, .t 7, .c 0, .c 1, .c 3, .c 4, .c 5, .w 6, .c 8, .c 9, .w 10, .w 11, .c 12, .c 13, .w 14, .o 15, .j 15] (.r 16 (.r 17 (.w 18 (.m 19 .nil)))) ap11 ap11 (fun _ _ _ _ _ h => h) ?_
 clear st6
 refine a0h rfl rfl rfl (fun _ => rfl) (cw 4 (beN lv)) (fun wx hS => St.rangeL hS 0 rfl 0 _ dZl) Tryz.underlying111 rfl ap0 ?_
 try simp only [clL]
 refine a0h rfl rfl rfl (fun _ => rfl) (cw 4 (beN lr)) (fun wx hS => St.rangeL hS 1 rfl 0 _ dZl) Tryz.underlying111 rfl ap0 ?_
 try simp only [clL]
 refine a0K (X := Nat) (fun gc => .pointer (some ⟨gc, 0, none⟩)) (fun gc w => Cv w gc) (fun _ _ _ h k => h.keep k) rfl rfl rfl Tryz.call86 (fun w hS hR => n0u _) (fun _ => rfl) fun y26 => ?_
 try simp only [clL]
 refine a0K (X := Nat) (fun gc => .pointer (some ⟨gc, 0, none⟩)) (fun gc w => Cv w gc) (fun _ _ _ h k => h.keep k) rfl rfl rfl Tryz.call86 (fun w hS hR => n0u _) (fun _ => rfl) fun y27 => ?_
 try simp only [clL]
 refine a0K (X := Nat) (fun gc => .pointer (some ⟨gc, 0, none⟩)) (fun gc w => Cv w gc) (fun _ _ _ h k => h.keep k) rfl rfl rfl Tryz.call86 (fun w hS hR => n0u _) (fun _ => rfl) fun y29 => ?_
 try simp only [clL]
 refine a0k rfl rfl rfl Tryz.call100 (fun w hS hR => t0v _) (fun _ => rfl) ?_
 try simp only [clL]
 refine a0k rfl rfl rfl Tryz.call99 (fun w hS hR => e0p hTT y29 _ hR.2) (fun _ => rfl) ?_
 try simp only [clL]
 refine a0j rfl rfl (fun _ => b0A rfl _ (j0i _ _)) ?_
 try simp only [clL]
 refine a0K (X := Nat) (fun gc => .pointer (some ⟨gc, 0, none⟩)) (fun gc w => Cv w gc) (fun _ _ _ h k => h.keep k) rfl rfl rfl Tryz.call86 (fun w hS hR => n0u _) (fun _ => rfl) fun y34 => ?_
 try simp only [clL]
 refine a0K (X := Nat × Nat) (fun y => .pointer (some ⟨y.1, 0, none⟩)) (fun y w => Has w y.1 (d0N mP y.2 gXn gYn) 125 ∧ Has w y.2 (mdL mP) 187) (fun _ _ _ h k => ⟨h.1.keep k id, h.2.keep k id⟩) rfl rfl rfl Tryz.call86 (fun w hS hR => g0w _) (fun _ => rfl) fun y35 => ?_
 try simp only [clL]
 refine a0j rfl rfl apX ?_
 try simp only [clL]
 refine a0j rfl rfl apX ?_
 try simp only [clL]
 refine m0d (v := ?_) rfl rfl (fun xq wx hS hR => ?_) ?_
 rotate_left 1
 ·(refine c0L (hR.2).1 (x := .tmp 37) (p := 5) ?_ ?_ d0s.L g0e Tryz.underlying117 rfl ?_; rfl; rfl; (rw [PT.len]; kernel_rfl))
 try simp only [clL]
 refine a0k rfl rfl rfl Tryz.call99 (fun w hS hR => e0p d0s y34 _ hR.1.2) (fun _ => rfl) ?_
 try simp only [clL]
 refine a0j rfl rfl (fun _ => b0A rfl _ (j0i _ _)) ?_
 try simp only [clL]
 refine g0N rfl rfl rfl Tryz.underlying199 q0s [.agg (tmR (beN lv, hTT)).toArray, .agg (tmR (beN lr, d0s)).toArray] (fun _ => rfl) (by intro v hv; simp only [List.mem_cons, List.not_mem_nil, or_false] at hv; rcases hv with rfl | rfl <;> exact (b0V _)) rfl (tmR (beN lv, hTT) ++ tmR (beN lr, d0s)) (by simp [Value.cells]) ?_
 try simp only [clL]
 refine c0q List.mem_cons_self fun g41 => ?_
 simp only [upd, reduceIte]
 try simp only [Nat.reduceEqDiff, reduceIte]
 refine a0I fun xq w7 st7 hR => ?_
 try dsimp only
 have HC27 := qH hR.1.1.1.2
 have HC26 := qH hR.1.1.1.1.2
 have HRD : Hid (Rd w7 (some ⟨g41, 0, none⟩) (([(beN lv, hTT), (beN lr, d0s)] : List (Nat × PT)).length * 196) (tmL [(beN lv, hTT), (beN lr, d0s)])) := qH (by rw [x0X]; have h := Rd.whole (st7.at 2 rfl); rw [List.length_append, b0V, b0V] at h; exact h)
 clear hR xq
 refine a0r rfl rfl ?_
 go_simp
 refine (v0x [(beN lv, hTT), (beN lr, d0s)] y27 (some ⟨g41, 0, none⟩) 2 2 _ HC27.out rfl ap12 HRD.out).mono ?_
 rintro e' w8 ⟨rfl, hf8⟩
 have st8 := st7.keep hf8
 have HC26b := qH (HC26.out.keep hf8)
 clear hf8
 clear st7
 refine ⟨by first | exact st8 | exact St.less st8 ap14, ?_⟩
 try simp only [clL]
 refine a0r rfl rfl ?_
 go_simp
 refine (j0n (g0c [(beN lv, hTT), (beN lr, d0s)]) y26 _ HC26b.out).mono ?_
 rintro e' w9 ⟨sv, rfl, ho, hf9⟩
 have st9 := st8.keep hf9
 have HO := qH ho
 have HSZO := qH st8.fr.size
 clear ho
 clear hf9
 clear st8
 refine ⟨by first | exact st9 | exact St.less st9 ap14, ?_⟩
 try simp only [clL]
 refine a0c rfl rfl apW ?_
 try simp only [clL]
 refine a0p rfl rfl ?_
 go_simp
 try simp only [clL]
 refine a0f ?_
 refine NoPanic.normal ?_
 have hfr := st9.fr
 clear st9
 go_wp2_with fail
 go_ret2
 exact ⟨sv, rfl, Go.Mv.Own.mono HO.out HSZO.out, hfr⟩
end
section
open Go.RowKit Go.Mv Mvp Mvq
attribute [local irreducible] g0y
attribute [local irreducible] a0y lw mix cw b0q b0r b0i beN b0x a0Q a0A a0J elN mdL a0N rtV b0S a0O b0w a0W a0L c0P j0w g0u a0v c0z hB hN e0b c0H
end
section
open Go.RowKit Go.Mv Mvp Mvq
attribute [local irreducible] a0y lw mix cw b0q b0r b0i beN b0x a0Q a0A a0J elN mdL a0N rtV b0S a0O b0w a0W a0L c0P j0w g0u a0v c0z hB hN e0b c0H tC tS
end
section
open Go.RowKit Go.Mv Mvp Mvq
attribute [local irreducible] a0y lw mix cw b0q b0r b0i beN b0x a0Q a0A a0J elN mdL a0N rtV b0S kN kc c0u a0O RT.L c0z hB hN e0b c0H g0y atY e0u l0S rpL mkS
end
section
open Go.RowKit Go.Mv Mvp Mvq
def cmE (lv lr : List UInt8) : Int := if a0N mQ lv && a0N mQ lr then 0 else 3
noncomputable def cmS (lv lr : List UInt8) : List UInt8 := if a0N mQ lv && a0N mQ lr then a0O (a0P (a0v (beN lv) hTT.pt) (a0v (beN lr) gP)) else []
theorem k0V {lv lr : List UInt8} (h1 : a0N mQ lv = true) (h2 : a0N mQ lr = true) : cmE lv lr = 0 ∧ cmS lv lr = a0O (a0P (a0v (beN lv) hTT.pt) (a0v (beN lr) gP)) := by unfold cmE cmS; rw [h1, h2]; exact ⟨rfl, rfl⟩
theorem r0m {lv lr : List UInt8} (h : (a0N mQ lv && a0N mQ lr) = false) : cmE lv lr = 3 ∧ cmS lv lr = [] := by unfold cmE cmS; rw [h]; exact ⟨rfl, rfl⟩
attribute [local irreducible] hTT g0y PT.pt d0s
theorem n0v (vv vr : Value) (lv lr : List UInt8) (w : World) (h1 : BPart w vv lv) (h2 : BPart w vr lr) :
  Calls Tryz.prog 33 #[vv, vr] w fun e w' => ∃ v, e = .returned (.tuple #[v, .int .i64 (cmE lv lr)]) ∧ BPart w' v (cmS lv lr) ∧ Fr Nob w w' := by
 have hno : ∀ {w w' : World}, (a0N mQ lv && a0N mQ lr) = false → BPart w' (.slice none 0 0) (cmS lv lr) := fun h => by
  rw [(r0m h).2]
  exact ⟨none, 0, 0, rfl, Nat.le_refl _, RdB.nil _ _⟩
 cases hv : a0N mQ lv with
 | false => cases hr : a0N mQ lr with
  | false =>
   have hn : (a0N mQ lv && a0N mQ lr) = false := by rw [hv]; rfl
   refine (r0j vv vr lv lr w h1 h2 hv hr).mono ?_
   rintro e w' ⟨rfl, hf⟩
   exact ⟨_, by rw [(r0m hn).1], hno (w := w) hn, hf⟩
  | true =>
   have hn : (a0N mQ lv && a0N mQ lr) = false := by rw [hv]; rfl
   refine (r0k vv vr lv lr w h1 h2 hv hr).mono ?_
   rintro e w' ⟨rfl, hf⟩
   exact ⟨_, by rw [(r0m hn).1], hno (w := w) hn, hf⟩
 | true => cases hr : a0N mQ lr with
  | false =>
   have hn : (a0N mQ lv && a0N mQ lr) = false := by rw [hv, hr]; rfl
   refine (r0l vv vr lv lr w h1 h2 hv hr).mono ?_
   rintro e w' ⟨rfl, hf⟩
   exact ⟨_, by rw [(r0m hn).1], hno (w := w) hn, hf⟩
  | true =>
   refine (k0U vv vr lv lr w h1 h2 hv hr).mono ?_
   rintro e w' ⟨v, rfl, ho, hf⟩
   have e1 : (g0c [(beN lv, hTT), (beN lr, d0s)]).pt = a0P (a0v (beN lv) hTT.pt) (a0v (beN lr) gP) := by
    rw [j0p _ (by
     intro t ht
     simp only [List.mem_cons, List.not_mem_nil, or_false] at ht
     rcases ht with rfl | rfl
     ·exact Nat.lt_trans (c0D hv) ap12
     ·exact Nat.lt_trans (c0D hr) ap12)]
    show a0P (a0v (beN lv) hTT.pt) (a0P (a0v (beN lr) d0s.pt) .O) = _
    rw [b0n, j0g]
    rfl
   rw [e1] at ho
   refine ⟨v, by rw [(k0V hv hr).1], ?_, hf⟩
   rw [(k0V hv hr).2]
   exact BPart.ofOwn ho
attribute [local irreducible] a0y lw mix cw b0q b0r b0i beN b0x a0Q a0A a0J elN mdL a0N rtV b0S kN kc c0u a0O RT.L gXn gYn rpL b0w a0W c0z hB hN e0b c0H mkS cmS cmE
end
section
open Go.RowKit Go.Mv Mvp Mvq
attribute [local irreducible] a0y lw mix cw b0q b0r b0i beN b0x a0Q a0A a0J elN mdL a0N rtV b0S kN kc c0u a0O RT.L c0z hB hN e0b c0H rpL mkS
end
section
open Go.RowKit Go.Mv Mvp Mvq
theorem RLogAt.notIn {w : World} {g : Nat} {l : List UInt8} (h : RLogAt w g l) {bl : List (Nat × List Value × TypeId)} (hh : ∀ x ∈ bl, Has w x.1 x.2.1 x.2.2) (hT : ∀ x ∈ bl, 197 ≠ x.2.2) : ∀ x ∈ bl, x.1 ≠ g := by
 rintro x hx rfl
 obtain ⟨_, _, h1, _⟩ := h
 obtain ⟨_, _, h2, _⟩ := hh x hx
 rw [h1] at h2
 simp only [Option.some.injEq, Obj.cells.injEq] at h2
 exact hT x hx h2.2.1
theorem mQ0 : 0 < mQ.M := by decide
attribute [local irreducible] a0y lw mix cw b0q b0r b0i beN b0x a0Q a0A a0J elN mdL a0N rtV b0S a0O b0w a0W a0v b0k b0u toB a0z a0E b0s a0H c0n b0l a0F c0z c0B RT.L kN kc d0H sgF sgZ b0E c0Y c0E chN f0j n0h b0g rpL
end
section
open Go.RowKit Go.Mv Mvp Mvq
attribute [local irreducible] a0y lw mix cw b0q b0r b0i beN b0x a0Q a0A a0J elN mdL a0N rtV b0S kN kc c0u a0O RT.L c0z hB hN e0b c0H rpL mkS
end
section
open Go.RowKit Go.Mv Mvp Mvq
theorem r0n {k t : List UInt8} (h : d0H k = true) : sgE k = 0 ∧ sgS k t = sgF k t ++ a0Q (sgZ k t) := by unfold sgE sgS; rw [if_pos h, if_pos h]; exact ⟨rfl, rfl⟩
theorem x0Y {k t : List UInt8} (h : d0H k = false) : sgE k = 3 ∧ sgS k t = [] := by unfold sgE sgS; rw [h]; exact ⟨rfl, rfl⟩
attribute [local irreducible] a0y lw mix cw b0q b0r b0i beN b0x a0Q a0A a0J elN mdL a0N rtV b0S a0O b0w a0W a0v b0k b0u toB a0z a0E b0s a0H c0n b0l a0F c0z c0B RT.L kN kc d0H sgF sgZ sgE sgS b0E c0Y c0E chN f0j n0h b0g rpL
theorem x0Z (ak : Option Addr) (nk ck : Nat) (key : List UInt8) (at_ : Option Addr) (nt ct : Nat) (text : List UInt8) (w : World) (hkey : PartIs w (.slice ak nk ck) key) (htext : PartIs w (.slice at_ nt ct) text) :
  Calls Tryz.prog 13 #[.slice ak nk ck, .slice at_ nt ct] w fun e w' => ∃ v, e = .returned (.tuple #[v, .int .i64 (sgE key)]) ∧ OwnB1 w w' v (sgS key text) ∧ Fr Nob w w' := by
 cases h : d0H key with
 | false => rw [(x0Y (t := text) h).1, (x0Y (t := text) h).2]; exact (v0U ak nk ck key at_ nt ct text w hkey htext h).mono fun e w' k => ⟨_, k.1, OwnB1.nil _ _, k.2⟩
 | true => rw [(r0n (t := text) h).1, (r0n (t := text) h).2]; exact v0V ak nk ck key at_ nt ct text w hkey htext h
end
section
open Go.RowKit Go.Mv Mvp Mvq
attribute [local irreducible] a0y lw mix cw b0q b0r b0i beN b0x a0Q a0A a0J elN mdL a0N rtV b0S a0O b0w a0W a0v b0k b0u toB a0z a0E b0s a0H c0n b0l a0F c0z c0B RT.L kN kc d0H sgF sgZ b0E c0Y c0E chN f0j n0h b0g rpL veB rdG d0V
end
end Go.Proofs.YtemcankmggmgoaaGreat
namespace Go.Mv
open Go.RowKit
theorem St.keepO {S : Nat → Prop} {w0 w w' : World} {bl : List (Nat × List Value × TypeId)} {base sz n : Nat} {T : TypeId} {v : Value} {L : List Value} (h : St S w0 w bl) (ho : Own w base T sz v n L) (hf : Fr (h0Y v) w w') (hb : w0.heap.size ≤ base) (hT : ∀ x ∈ bl, T ≠ x.2.2) : St S w0 w' bl :=
 ⟨ho.fr h.fr hb hf, h.own, fun x hx => (h.has x hx).keep hf (fun hk => ho.ne (h.has x hx) (hT x hx) hk), h.ne⟩
end Go.Mv
namespace Go.Proofs.YtemcankmggmgoaaGreat
section
open Go.RowKit Go.Mv Mvp Mvq
attribute [local irreducible] hTT g0y PT.pt d0s
noncomputable def poF (v b : List UInt8) : List UInt8 := a0O (a0P (a0v (chN a0R [v, b]) hTT.pt) (a0v (chN a0S [v, b]) gP))
noncomputable def poC (v b : List UInt8) : Nat := c0E (cmS v b) (poF v b)
noncomputable def poS (v b : List UInt8) : List UInt8 := poF v b ++ a0Q ((chN a0R [v, b] + poC v b * beN v) % mQ.M) ++ a0Q ((chN a0S [v, b] + poC v b * beN b) % mQ.M)
def poE (v b : List UInt8) : Int := if a0L mQ [v, b] = true then 0 else 3
noncomputable def poR (v b : List UInt8) : List UInt8 := if a0L mQ [v, b] = true then poS v b else []
theorem g0h (v b : List UInt8) : (poF v b).length = 33 := b0b _
theorem y0a (v b : List UInt8) : cmS (a0Q (chN a0R [v, b] % mQ.M)) (a0Q (chN a0S [v, b] % mQ.M)) = poF v b := by
 rw [(k0V (c0F _) (c0F _)).2, g0v, g0v, Nat.mod_eq_of_lt (t0X _ _), Nat.mod_eq_of_lt (t0X _ _)]
 rfl
theorem m0m {v b : List UInt8} (h1 : a0N mQ v = true) (h2 : a0N mQ b = true) : (cmS v b).length = 33 := by rw [(k0V h1 h2).2]; exact b0b _
theorem g0i (vv vr : Value) (lv lr : List UInt8) (w : World) (hpv : BPart w vv lv) (hpr : BPart w vr lr) (hv : a0N mQ lv = true) (hr : a0N mQ lr = true) :
  Calls Tryz.prog 33 #[vv, vr] w fun e w' => ∃ v, e = .returned (.tuple #[v, .int .i64 0]) ∧ OwnB1 w w' v (cmS lv lr) ∧ Fr Nob w w' := by
 refine (k0U vv vr lv lr w hpv hpr hv hr).mono ?_
 rintro e w' ⟨v, rfl, ho, hf⟩
 have e1 : (g0c [(beN lv, hTT), (beN lr, d0s)]).pt = a0P (a0v (beN lv) hTT.pt) (a0v (beN lr) gP) := by
  rw [j0p _ (by
   intro t ht
   simp only [List.mem_cons, List.not_mem_nil, or_false] at ht
   rcases ht with rfl | rfl
   ·exact Nat.lt_trans (c0D hv) ap12
   ·exact Nat.lt_trans (c0D hr) ap12)]
  show a0P (a0v (beN lv) hTT.pt) (a0P (a0v (beN lr) d0s.pt) .O) = _
  rw [b0n, j0g]
  rfl
 rw [e1, ← (k0V hv hr).2] at ho
 exact ⟨v, rfl, OwnB1.of ho (m0m hv hr), hf⟩
attribute [local irreducible] a0y lw mix cw b0q b0r b0i beN b0x a0Q a0A a0J elN mdL a0N rtV b0S a0O b0w a0W a0L c0P j0w g0u a0v b0k b0u toB a0z a0E b0s a0H c0n b0l a0F c0z c0B c0b d0H sgF sgZ c0E chN b0g b0h tS d0V a0V poC poF
theorem k0W (av : Option Addr) (nv cv : Nat) (v : List UInt8) (ab : Option Addr) (nb cb : Nat) (b : List UInt8) (w : World) (hv : PartIs w (.slice av nv cv) v) (hb : PartIs w (.slice ab nb cb) b) (hn : a0L mQ [v, b] = false) : Calls Tryz.prog 19 #[.slice av nv cv, .slice ab nb cb] w fun e w' => e = .returned (.tuple #[.slice none 0 0, .int .i64 3]) ∧ Fr Nob w w' := by
 have HV := qH hv
 have HB := qH hb
 have HN := qH hn
 clear hv hb hn
 have st0 := St.start Nob w
 go_enter Tryz.func19, Tryz.ntmps19
 go_wp2_with (with_reducible refine wSk 18 ?_)
 refine b0o rfl rfl Tryz.underlying39 a0Z [.slice av nv cv, .slice ab nb cb] rfl (by simp; exact ⟨rfl, rfl⟩) rfl rfl ?_
 intro w1 hh1 hf1 hz1
 have st1 := st0.keep hf1
 have HSL := qH hh1
 clear hh1 hf1 hz1 st0
 generalize w.heap.size = gl18 at *
 go_wp2_with fail
 refine (x0U (some ⟨gl18, 0, none⟩) 2 2 [.slice av nv cv, .slice ab nb cb] [v, b] _ (Rd.whole HSL.out) (BParts.two (a0s (HV.out.still st1.fr)) (a0s (HB.out.still st1.fr))) ap12 HN.out).mono ?_
 rintro e' w2 ⟨rfl, hf2⟩
 have st2 := st1.keep hf2
 clear st1 hf2
 clear HSL
 have hfr := st2.fr
 clear st2
 go_wp2_with fail
 go_ret2
 exact ⟨rfl, hfr⟩
theorem k0X (av : Option Addr) (nv cv : Nat) (v : List UInt8) (ab : Option Addr) (nb cb : Nat) (b : List UInt8) (w : World) (hv : PartIs w (.slice av nv cv) v) (hb : PartIs w (.slice ab nb cb) b) (hn : a0L mQ [v, b] = true) : Calls Tryz.prog 19 #[.slice av nv cv, .slice ab nb cb] w fun e w' => ∃ q, e = .returned (.tuple #[q, .int .i64 0]) ∧ OwnB1 w w' q (poS v b) ∧ Fr Nob w w' := by
 have HNV := qH (t0s hn).1
 have HNB := qH (t0s hn).2
 have HV := qH hv
 have HB := qH hb
 have HN := qH hn
 clear hv hb hn
 have st0 := St.start Nob w
 go_enter Tryz.func19, Tryz.ntmps19
 go_wp2_with (with_reducible refine wSk 18 ?_)
 refine b0o rfl rfl Tryz.underlying39 a0Z [.slice av nv cv, .slice ab nb cb] rfl (by simp; exact ⟨rfl, rfl⟩) rfl rfl ?_
 intro w1 hh1 hf1 hz1
 have st1 := st0.keep hf1
 have HSL := qH hh1
 clear hh1 hf1 hz1 st0
 generalize w.heap.size = gl18 at *
 go_wp2_with fail
 refine (x0T (some ⟨gl18, 0, none⟩) 2 2 [.slice av nv cv, .slice ab nb cb] [v, b] _ (Rd.whole HSL.out) (BParts.two (a0s (HV.out.still st1.fr)) (a0s (HB.out.still st1.fr))) ap12 HN.out).mono ?_
 rintro e' w2 ⟨vl, rfl, ho, hf2⟩
 have st2 := st1.keep hf2
 have HW := qH ho
 clear ho
 clear st1 hf2
 clear HSL
 have HW2 := HW.out
 obtain ⟨al, cl, rfl, -, hrl, -⟩ := HW2.form
 rw [y0W] at hrl
 obtain ⟨bl, ol, rfl, -⟩ := hrl.at ap14
 have HRL := qH hrl
 clear hrl HW HW2
 have FW := qH st2.fr
 clear st2
 have stB := St.start Nob w2
 have HV2 := qH (HV.out.still FW.out)
 have HB2 := qH (HB.out.still FW.out)
 clear HV HB
 go_wp2_with (with_reducible refine wSk 26 ?_)
 refine b0o rfl rfl Tryz.underlying39 a0Z [.slice av nv cv, .slice ab nb cb] rfl (by simp; exact ⟨rfl, rfl⟩) rfl rfl ?_
 intro w3 hh3 hf3 hz3
 have st3 := stB.keep hf3
 have HSL := qH hh3
 clear hh3 hf3 hz3 stB
 generalize w2.heap.size = gl26 at *
 go_wp2_with fail
 refine (g0M ⟨#[110, 111, 110, 99, 101, 32, 118, 97, 108, 117, 101]⟩ a0R rfl _ 2 [.slice av nv cv, .slice ab nb cb] [v, b] _ ap12 HSL.out ⟨HV2.out.still st3.fr, HB2.out.still st3.fr, trivial⟩ ap14).mono ?_
 rintro e' w4 ⟨rfl, hf4⟩
 have st4 := st3.keep hf4
 clear st3 hf4
 clear HSL
 go_wp2_with (with_reducible refine wSk 30 ?_)
 refine b0o rfl rfl Tryz.underlying39 a0Z [.slice av nv cv, .slice ab nb cb] rfl (by simp; exact ⟨rfl, rfl⟩) rfl rfl ?_
 intro w5 hh5 hf5 hz5
 have st5 := st4.keep hf5
 have HSL := qH hh5
 clear hh5 hf5 hz5 st4
 generalize w4.heap.size = gl30 at *
 go_wp2_with fail
 refine (g0M ⟨#[110, 111, 110, 99, 101, 32, 98, 108, 105, 110, 100]⟩ a0S rfl _ 2 [.slice av nv cv, .slice ab nb cb] [v, b] _ ap12 HSL.out ⟨HV2.out.still st5.fr, HB2.out.still st5.fr, trivial⟩ ap14).mono ?_
 rintro e' w6 ⟨rfl, hf6⟩
 have st6 := st5.keep hf6
 clear st5 hf6
 clear HSL
 go_wp2_with (with_reducible refine wSk 8 ?_)
 refine a0a st6 rfl rfl (z := zAd) ap11 (cw 4 0) ap9 ?_
 intro g8 w7 st7
 clear st6
 go_wp2_with (with_reducible refine wSk 9 ?_)
 refine a0a st7 rfl rfl (z := zAd) ap11 (cw 4 0) ap9 ?_
 intro g9 w8 st8
 clear st7
 go_wp2_with (with_reducible refine wSn ?_)
 refine a0b st8 0 rfl rfl rfl rfl rfl ap5 ap4 (a0d _ _) ?_
 intro w9 st9
 clear st8
 go_wp2_with (with_reducible refine wSn ?_)
 refine a0b st9 1 rfl rfl rfl rfl rfl ap5 ap4 (a0d _ _) ?_
 intro w10 st10
 clear st9
 go_wp2_with fail
 refine (g0i _ _ v b _ (a0s (HV2.out.still st10.fr)) (a0s (HB2.out.still st10.fr)) HNV.out HNB.out).mono ?_
 rintro e' w11 ⟨vc, rfl, ho, hf11⟩
 have st11 := st10.keep hf11
 have HCM := qH (OwnB1.ptb ho (by rw [m0m HNV.out HNB.out]; decide))
 clear ho
 clear st10 hf11
 go_wp2_with fail
 refine wp_region_noPanic ?_
 refine d0S st11 (fun wz => Fr Nob w11 wz) (Fr.refl Nob _).drew (fun _ _ h k => h.then k) 9 [.t 0, .t 2, .c 1, .c 3, .c 4, .w 5, .w 6, .w 7, .w 8] (.m 9 .nil) ap11 ap11 (fun _ _ _ _ _ h => h) ?_
 clear st11
 refine a0h rfl rfl rfl (fun _ => rfl) (cw 4 (elN mQ (chN a0R [v, b]))) (fun wx hS => St.rangeL hS 0 rfl 0 _ dZl) Tryz.underlying68 rfl ap4 ?_
 try simp only [clL]
 refine a0h rfl rfl rfl (fun _ => rfl) (cw 4 (elN mQ (chN a0S [v, b]))) (fun wx hS => St.rangeL hS 1 rfl 0 _ dZl) Tryz.underlying68 rfl ap4 ?_
 try simp only [clL]
 refine a0K (X := Option Addr × Nat) (fun y => .slice y.1 32 y.2) (fun y wx => BPart wx (.slice y.1 32 y.2) (a0Q ((chN a0R [v, b]) % mQ.M))) (fun _ _ _ h k => h.still k) rfl rfl rfl Tryz.call51 (fun w hS hR => e0q (chN a0R [v, b]) _) (fun _ => rfl) fun y40 => ?_
 try simp only [clL]
 refine a0K (X := Option Addr × Nat) (fun y => .slice y.1 32 y.2) (fun y wx => BPart wx (.slice y.1 32 y.2) (a0Q ((chN a0S [v, b]) % mQ.M))) (fun _ _ _ h k => h.still k) rfl rfl rfl Tryz.call51 (fun w hS hR => e0q (chN a0S [v, b]) _) (fun _ => rfl) fun y42 => ?_
 try simp only [clL]
 refine a0K (X := Value) (fun q => .tuple #[q, .int .i64 0]) (fun q wx => OwnB1 w2 wx q (cmS (a0Q ((chN a0R [v, b]) % mQ.M)) (a0Q ((chN a0S [v, b]) % mQ.M)))) (fun _ _ _ h k => h.still k) rfl rfl rfl Tryz.call33 (fun w hS hR => (g0i _ _ _ _ _ hR.1.2 hR.2 (c0F _) (c0F _)).mono fun e w' ⟨q, h1, h2, h3⟩ => ⟨q, h1, Own.mono h2 hS.fr.size, h3⟩) (fun _ => rfl) fun vf => ?_
 try simp only [clL]
 refine a0j rfl rfl apX ?_
 try simp only [clL]
 refine a0j rfl rfl apX ?_
 try simp only [clL]
 refine a0j rfl rfl apX ?_
 try simp only [clL]
 refine a0j rfl rfl apX ?_
 try simp only [clL]
 refine a0I fun xq w12 st12 hR => ?_
 try dsimp only
 have HF0 := qH hR.2
 have FC := qH hR.1.1.1
 clear hR xq
 refine a0p rfl rfl ?_
 go_simp
 try simp only [clL]
 refine a0f ?_
 refine NoPanic.normal ?_
 rw [y0a] at HF0
 have HCM2 := qH (HCM.out.still FC.out)
 clear HCM FC
 go_wp2_with fail
 refine ((h0D vc (cmS v b) vf (poF v b) _ HCM2.out (OwnB1.ptb HF0.out (by rw [g0h]; decide))).mono fun e w' h => (show e = .returned (i4 (elN mQ (poC v b))) ∧ Fr Nob _ w' by unfold poC; exact h)).mono ?_
 rintro e' w13 ⟨rfl, hf13⟩
 have st13 := st12.keep hf13
 replace HF0 := qH (Own.still HF0.out hf13)
 clear st12 hf13
 go_wp2_with (with_reducible refine wSk 14 ?_)
 refine c0h st13 rfl rfl t0Y (cw 4 0) ap9 ?_
 intro g14 w14 st14 hf hs
 replace HF0 := qH (Own.still HF0.out hf)
 clear st13 hf hs
 go_wp2_with (with_reducible refine wSn ?_)
 refine d0v st14 2 rfl rfl rfl rfl rfl (k0I _ _) (d0I _) (a0d _ _) ?_
 intro w15 st15 hf
 have HF1 := qH (Own.keep HF0.out hf (fun k hk e => Own.ne HF0.out (st14.at 2 rfl) ap12 (by have e2 : k = g14 := e; rw [← e2]; exact hk)))
 clear st14 hf HF0 HCM2
 have HF2 := qH (show OwnB1 _ (World.drew _) _ _ from HF1.out)
 clear HF1
 go_wp2_with fail
 refine wp_region_noPanic ?_
 refine a0l (fun wx => St Nob w2 wx [(g8, cw 4 (elN mQ (chN a0R [v, b])), 68), (g9, cw 4 (elN mQ (chN a0S [v, b])), 68), (g14, cw 4 (elN mQ (poC v b)), 68)]) 16 (.w 0 (.t 1 (.t 2 (.w 3 (.w 4 (.t 5 (.t 9 (.t 10 (.w 11 (.w 12 (.t 13 (.r 6 (.r 7 (.r 8 (.r 14 (.r 15 (.m 16 (.w 17 (.w 18 .nil))))))))))))))))))) ap11 ap11 st15.drew (fun _ _ _ _ _ h => h) ?_
 have hd15 := st15.drew
 clear st15
 refine a0c rfl rfl apW ?_
 try simp only [clL]
 refine a0n rfl rfl rfl rfl (cw 4 (elN mQ (chN a0R [v, b]))) (fun wx hS => St.rangeL hS 0 rfl 0 _ dZl) Tryz.underlying68 rfl ap4 ?_
 try simp only [clL]
 refine a0n rfl rfl rfl rfl (cw 4 (elN mQ (poC v b))) (fun wx hS => St.rangeL hS 2 rfl 0 _ dZl) Tryz.underlying68 rfl ap4 ?_
 try simp only [clL]
 refine a0c rfl rfl apW ?_
 try simp only [clL]
 refine a0c rfl rfl apW ?_
 try simp only [clL]
 refine a0n rfl rfl rfl rfl (cw 4 (elN mQ (beN v))) (fun wx hS => (e0l (HRL.out.still (St.fr hS)) 0 _ (p0q 4 4 _ _))) Tryz.underlying68 rfl ap4 ?_
 try simp only [clL]
 refine a0n rfl rfl rfl rfl (cw 4 (elN mQ (chN a0S [v, b]))) (fun wx hS => St.rangeL hS 1 rfl 0 _ dZl) Tryz.underlying68 rfl ap4 ?_
 try simp only [clL]
 refine a0n rfl rfl rfl rfl (cw 4 (elN mQ (poC v b))) (fun wx hS => St.rangeL hS 2 rfl 0 _ dZl) Tryz.underlying68 rfl ap4 ?_
 try simp only [clL]
 refine a0c rfl rfl apW ?_
 try simp only [clL]
 refine a0c rfl rfl apW ?_
 try simp only [clL]
 refine a0n rfl rfl rfl rfl (cw 4 (elN mQ (beN b))) (fun wx hS => (e0l (HRL.out.still (St.fr hS)) 4 _ (m0D 4 4 _ _))) Tryz.underlying68 rfl ap4 ?_
 try simp only [clL]
 refine a0r rfl rfl ?_
 go_simp
 refine (t0i (chN a0R [v, b]) (poC v b) (beN v) _).mono ?_
 rintro e' w16 ⟨rfl, hf16⟩
 have st16 := hd15.keep hf16
 replace HF2 := qH (Own.still HF2.out hf16)
 clear hf16
 clear hd15
 refine ⟨st16, ?_⟩
 try simp only [clL]
 refine a0r rfl rfl ?_
 go_simp
 refine (e0q ((chN a0R [v, b]) + (poC v b) * beN v) _).mono ?_
 rintro e' w17 ⟨y1, rfl, hb, hf17⟩
 have st17 := st16.keep hf17
 replace HF2 := qH (Own.still HF2.out hf17)
 obtain ⟨ay, ny, cy, hey, -, hry⟩ := hb
 cases hey
 have HY1 := qH (show RdB _ y1.1 32 _ from hry)
 clear hry
 clear hf17
 clear st16
 refine ⟨st17, ?_⟩
 try simp only [clL]
 refine a0r rfl rfl ?_
 refine e0X rfl Tryz.underlying22 c0w rfl ap12 HF2.out rfl rfl HY1.out (g0k _) (by rw [g0h]; decide) (by rw [g0h]; decide) st17.fr.size ?_
 intro va wa hown hfa
 have st18 := st17.keepO HF2.out hfa (Nat.le_refl _) (by intro x hx; simp only [List.mem_cons, List.not_mem_nil, or_false, List.cons_append, List.nil_append, List.set_cons_zero, List.set_cons_succ] at hx; rcases hx with rfl | rfl | rfl <;> (first | decide | (dsimp only; decide)))
 have HOW := qH hown
 clear hown hfa HF2 HY1
 refine ⟨st18, ?_⟩
 try simp only [clL]
 refine a0r rfl rfl ?_
 go_simp
 refine (t0i (chN a0S [v, b]) (poC v b) (beN b) _).mono ?_
 rintro e' w19 ⟨rfl, hf19⟩
 have st19 := st18.keep hf19
 replace HOW := qH (Own.still HOW.out hf19)
 clear hf19
 clear st18
 refine ⟨st19, ?_⟩
 try simp only [clL]
 refine a0r rfl rfl ?_
 go_simp
 refine (e0q ((chN a0S [v, b]) + (poC v b) * beN b) _).mono ?_
 rintro e' w20 ⟨y2, rfl, hb, hf20⟩
 have st20 := st19.keep hf20
 have HOW2 := qH (Own.still HOW.out hf20)
 clear HOW
 obtain ⟨ay, ny, cy, hey, -, hry⟩ := hb
 cases hey
 have HY2 := qH (show RdB _ y2.1 32 _ from hry)
 clear hry
 clear hf20
 clear st19
 refine ⟨st20, ?_⟩
 try simp only [clL]
 refine a0p rfl rfl ?_
 refine e0X rfl Tryz.underlying22 c0w rfl ap12 HOW2.out rfl rfl HY2.out (g0k _) (by rw [g0h]; decide) (by rw [g0h]; decide) st20.fr.size ?_
 intro vb2 wb hown hfa
 have st21 := St.ofFr ((HOW2.out).fr st20.fr (Nat.le_refl _) hfa)
 have HOWN := qH hown
 clear hown hfa
 try simp only [clL]
 refine a0c rfl rfl apW ?_
 try simp only [clL]
 refine a0c rfl rfl apW ?_
 try simp only [clL]
 refine a0f ?_
 refine NoPanic.normal ?_
 clear HY2 HOW2
 have hfr := FW.out.then st21.fr
 clear st21
 go_wp2_with fail
 go_ret2
 refine ⟨vb2, rfl, ?_, hfr⟩
 have h := HOWN.out
 rw [← c0v, ← c0v] at h
 exact OwnB1.of (Own.mono h FW.out.size) (by unfold poS; simp only [List.length_append, a0U, g0h])
end
section
open Go.RowKit Go.Mv Mvp Mvq
def s1L (s : List UInt8) : List UInt8 := (s.drop 33).take 32
def s2L (s : List UInt8) : List UInt8 := s.drop 65
def voG (c s : List UInt8) : Bool := b0w c && (decide (s.length = 97) && b0w (s.take 33))
open Classical in
noncomputable def voB (c s : List UInt8) : Bool := voG c s && ((a0N mQ (s1L s) && a0N mQ (s2L s)) && decide (cmS (s1L s) (s2L s) = a0O (a0P (a0W (s.take 33)) (a0v (c0E c (s.take 33)) (a0W c)))))
theorem y0J {c s : List UInt8} (h : voG c s = false) : voB c s = false := by unfold voB; rw [h]; rfl
theorem z0o {c s : List UInt8} (h : (a0N mQ (s1L s) && a0N mQ (s2L s)) = false) : voB c s = false := by unfold voB; rw [h]; simp
open Classical in
theorem y0Y {c s : List UInt8} (h : voG c s = true) (h2 : (a0N mQ (s1L s) && a0N mQ (s2L s)) = true) : voB c s = decide (cmS (s1L s) (s2L s) = a0O (a0P (a0W (s.take 33)) (a0v (c0E c (s.take 33)) (a0W c)))) := by
 unfold voB; simp only [h, h2, Bool.true_and]
theorem t0w {F P : List UInt8} (c : Nat) (hF : b0w F = true) (hP : b0w P = true) : g0u (zB [1, c]) [F, P] = a0O (a0P (a0W F) (a0v c (a0W P))) := by
 rw [r0e _ _ rfl ap14 (by intro l hl; simp only [List.mem_cons, List.not_mem_nil, or_false] at hl; rcases hl with rfl | rfl <;> assumption)]
 simp only [List.zipWith_cons_cons, List.zipWith_nil_left, d0V]
 rw [b0n, u0a]
theorem j0C {w : World} {b o n c : Nat} {l : List UInt8} (h : PartIs w (.slice (some ⟨b, o, none⟩) n c) l) (k m : Nat) (hk : k ≤ n) (hm : m ≤ n - k) : PartIs w (.slice (some ⟨b, o + k, none⟩) m (c - k)) ((l.drop k).take m) := b0Y (c0j h k hk) m hm
theorem e0r {P : Program} (w : World) {ty e : TypeId} (hu : P.underlying ty = some (.slice e)) (hsz : (P.info? e).map (·.size) = some 1) (b o n c : Nat) (k : IntKind) (l h : Nat) (hl : l < c) (hlh : l ≤ h) (hh : h ≤ c) :
  (Instr.sliceAt ty (.slice (some ⟨b, o, none⟩) n c) (some (.int k (l : Int))) (some (.int k (h : Int))) none).run P w = .ok (.slice (some ⟨b, o + l, none⟩) (h - l) (c - l)) w := by
 obtain ⟨i, hi1, hi2⟩ : ∃ i, P.info? e = some i ∧ i.size = 1 := by simpa using hsz
 have hne : ¬ c = l := by omega
 simp [Instr.sliceAt, Instr.slice, run_underlying hu, Instr.sliceBounds, a0Y, hh, hlh, sizeOf, typeInfo, hi1, hi2, hne, Addr.add]
theorem i0E {P : Program} {ops : Array Oper} {Q : Exit → Act → World → Prop} {a : Act} {w : World} {rest : List Oper} {d : Option Tmp} {op : Op} {ty : TypeId} {ps : String} {af : Array _} {gd : Option (Nat × Bool)}
  (hw : Region.wanted (⟨d, op, ty, ps, af, gd⟩ : Oper) (yielded ops a.tmps) = true) (h : wpList P ops Q (⟨d, op, ty, ps, af, none⟩ :: rest) a w) : wpList P ops Q (⟨d, op, ty, ps, af, gd⟩ :: rest) a w := by
 have h0 : Region.wanted (⟨d, op, ty, ps, af, none⟩ : Oper) (yielded ops a.tmps) = true := rfl
 simp only [wpList, hw, h0, if_true] at h ⊢
 exact h
attribute [local irreducible] a0y lw mix cw b0q b0r b0i beN b0x a0Q a0A a0J elN mdL a0N rtV b0S a0O b0w a0W a0L c0P j0w g0u a0v b0k b0u toB a0z a0E b0s a0H c0n b0l a0F c0z c0B c0b d0H sgF sgZ c0E chN b0g b0h tS d0V a0V poC poF cmS cmE voG voB
theorem z0p (ac : Option Addr) (nc cc : Nat) (c : List UInt8) (as_ : Option Addr) (ns cs : Nat) (s : List UInt8) (w : World) (hc : PartIs w (.slice ac nc cc) c) (_hs : PartIs w (.slice as_ ns cs) s) (hq : b0w c = false) : Calls Tryz.prog 21 #[.slice ac nc cc, .slice as_ ns cs] w fun e w' => e = .returned (.bool false) ∧ Fr Nob w w' := by
 have HC := qH hc
 have HQ := qH hq
 clear hc _hs hq
 have st0 := St.start Nob w
 go_enter Tryz.func21, Tryz.ntmps21
 go_wp2_with fail
 refine (d0Q _ c _ (a0s (HC.out.still st0.fr)) HQ.out).mono ?_
 rintro e' w1 ⟨rfl, hf1⟩
 have st1 := st0.keep hf1
 clear st0 hf1
 have hfr := st1.fr
 clear st1
 go_wp2_with fail
 go_ret
 exact ⟨rfl, hfr⟩
theorem z0q (ac : Option Addr) (nc cc : Nat) (c : List UInt8) (as_ : Option Addr) (ns cs : Nat) (s : List UInt8) (w : World) (hc : PartIs w (.slice ac nc cc) c) (_hs : PartIs w (.slice as_ ns cs) s) (hq : b0w c = true) (hl : ns ≠ 97) : Calls Tryz.prog 21 #[.slice ac nc cc, .slice as_ ns cs] w fun e w' => e = .returned (.bool false) ∧ Fr Nob w w' := by
 have HC := qH hc
 have HQ := qH hq
 have hne : ((ns : Int) != 97) = true := by simp; omega
 clear hc _hs hq hl
 have st0 := St.start Nob w
 go_enter Tryz.func21, Tryz.ntmps21
 go_wp2_with fail
 refine (b0W _ c _ (a0s (HC.out.still st0.fr)) HQ.out).mono ?_
 rintro e' w1 ⟨rfl, hf1⟩
 have st1 := st0.keep hf1
 clear st0 hf1
 have hfr := st1.fr
 clear st1
 go_wp2_with fail
 go_ret
 exact ⟨rfl, hfr⟩
theorem z0r (ac : Option Addr) (nc cc : Nat) (c : List UInt8) (b o cs : Nat) (s : List UInt8) (w : World) (hc : PartIs w (.slice ac nc cc) c) (hs : PartIs w (.slice (some ⟨b, o, none⟩) 97 cs) s) (hq : b0w c = true) (ho : b0w (s.take 33) = false) : Calls Tryz.prog 21 #[.slice ac nc cc, .slice (some ⟨b, o, none⟩) 97 cs] w fun e w' => e = .returned (.bool false) ∧ Fr Nob w w' := by
 have hcs : 97 ≤ cs := by obtain ⟨a', n', c', he, hc, -⟩ := hs; cases he; exact hc
 have HC := qH hc
 have HQ := qH hq
 have HSF := qH (b0Y hs 33 ap12)
 have HS1 := qH (a0s (j0C hs 33 32 ap12 ap12))
 have HS2 := qH (a0s (c0j hs 65 ap12))
 have k1 := fun wx => b0I (P := Tryz.prog) wx Tryz.underlying22 b0v (some ⟨b, o, none⟩) 97 cs .i64 33 ap13
 have k2 := fun wx => e0r (P := Tryz.prog) wx Tryz.underlying22 b0v b o 97 cs .i64 33 65 ap13 ap12 ap13
 have hcI : (33 : Int) ≤ (cs : Int) := by omega
 have hcJ : (65 : Int) ≤ (cs : Int) := by omega
 have hcN : ¬ (cs = 33) := by omega
 have hcM : ¬ (cs = 65) := by omega
 have HO := qH ho
 clear hc hs hq ho hcs
 have st0 := St.start Nob w
 go_enter Tryz.func21, Tryz.ntmps21
 go_wp2_with fail
 refine (b0W _ c _ (a0s (HC.out.still st0.fr)) HQ.out).mono ?_
 rintro e' w1 ⟨rfl, hf1⟩
 have st1 := st0.keep hf1
 clear st0 hf1
 go_wp2_with fail
 refine (d0Q _ (s.take 33) _ (a0s (HSF.out.still st1.fr)) HO.out).mono ?_
 rintro e' w2 ⟨rfl, hf2⟩
 have st2 := st1.keep hf2
 clear st1 hf2
 have hfr := st2.fr
 clear st2
 go_wp2_with fail
 go_ret
 exact ⟨rfl, hfr⟩
theorem z0s (ac : Option Addr) (nc cc : Nat) (c : List UInt8) (b o cs : Nat) (s : List UInt8) (w : World) (hc : PartIs w (.slice ac nc cc) c) (hs : PartIs w (.slice (some ⟨b, o, none⟩) 97 cs) s) (hq : b0w c = true) (ho : b0w (s.take 33) = true) (hn : (a0N mQ (s1L s) && a0N mQ (s2L s)) = false) : Calls Tryz.prog 21 #[.slice ac nc cc, .slice (some ⟨b, o, none⟩) 97 cs] w fun e w' => e = .returned (.bool false) ∧ Fr Nob w w' := by
 have hcs : 97 ≤ cs := by obtain ⟨a', n', c', he, hc, -⟩ := hs; cases he; exact hc
 have HC := qH hc
 have HQ := qH hq
 have HSF := qH (b0Y hs 33 ap12)
 have HS1 := qH (a0s (j0C hs 33 32 ap12 ap12))
 have HS2 := qH (a0s (c0j hs 65 ap12))
 have k1 := fun wx => b0I (P := Tryz.prog) wx Tryz.underlying22 b0v (some ⟨b, o, none⟩) 97 cs .i64 33 ap13
 have k2 := fun wx => e0r (P := Tryz.prog) wx Tryz.underlying22 b0v b o 97 cs .i64 33 65 ap13 ap12 ap13
 have hcI : (33 : Int) ≤ (cs : Int) := by omega
 have hcJ : (65 : Int) ≤ (cs : Int) := by omega
 have hcN : ¬ (cs = 33) := by omega
 have hcM : ¬ (cs = 65) := by omega
 have HO := qH ho
 have HE := qH (r0m hn).1
 clear hc hs hq ho hcs hn
 have st0 := St.start Nob w
 go_enter Tryz.func21, Tryz.ntmps21
 go_wp2_with fail
 refine (b0W _ c _ (a0s (HC.out.still st0.fr)) HQ.out).mono ?_
 rintro e' w1 ⟨rfl, hf1⟩
 have st1 := st0.keep hf1
 clear st0 hf1
 go_wp2_with fail
 refine (b0W _ (s.take 33) _ (a0s (HSF.out.still st1.fr)) HO.out).mono ?_
 rintro e' w2 ⟨rfl, hf2⟩
 have st2 := st1.keep hf2
 clear st1 hf2
 go_wp2_with fail
 refine wp_region_noPanic ?_
 refine a0g st2 9 [.w 0, .w 1, .w 2, .w 3, .c 4, .w 5, .w 6, .w 7, .w 8] (.m 9 .nil) ap11 ap11 (fun _ _ _ _ _ h => h) ?_
 clear st2
 refine a0j rfl rfl apX ?_
 try simp only [clL]
 refine a0j rfl rfl apX ?_
 try simp only [clL]
 refine a0j rfl rfl apX ?_
 try simp only [clL]
 refine a0j rfl rfl apX ?_
 try simp only [clL]
 refine a0K (X := Value) (fun q => .tuple #[q, .int .i64 (cmE (s1L s) (s2L s))]) (fun q wx => BPart wx q (cmS (s1L s) (s2L s))) (fun _ _ _ h k => h.still k) rfl rfl rfl Tryz.call33 (fun w hS hR => n0v (.slice (some ⟨b, o + 33, none⟩) 32 (cs - 33)) (.slice (some ⟨b, o + 65, none⟩) (97 - 65) (cs - 65)) (s1L s) (s2L s) _ (HS1.out.still hS.fr) (HS2.out.still hS.fr)) (fun _ => rfl) fun vl => ?_
 try simp only [clL]
 refine a0j rfl rfl apX ?_
 try simp only [clL]
 refine a0j rfl rfl apX ?_
 try simp only [clL]
 refine a0j rfl rfl apX ?_
 try simp only [clL]
 refine a0j rfl rfl apX ?_
 try simp only [clL]
 refine a0I fun xq w3 st3 hR => ?_
 try dsimp only
 have HL := qH hR.2
 clear hR xq
 refine a0p rfl rfl ?_
 go_simp
 try simp only [clL]
 refine a0f ?_
 refine NoPanic.normal ?_
 clear k1 k2 hcI hcJ hcN hcM HS1 HS2
 rw [HE.out]
 clear HL
 have hfr := st3.fr
 clear st3
 go_wp2_with fail
 go_ret
 exact ⟨rfl, hfr⟩
theorem z0t (ac : Option Addr) (nc cc : Nat) (c : List UInt8) (b o cs : Nat) (s : List UInt8) (w : World) (hc : PartIs w (.slice ac nc cc) c) (hs : PartIs w (.slice (some ⟨b, o, none⟩) 97 cs) s) (hq : b0w c = true) (ho : b0w (s.take 33) = true) (hn : (a0N mQ (s1L s) && a0N mQ (s2L s)) = true) : Calls Tryz.prog 21 #[.slice ac nc cc, .slice (some ⟨b, o, none⟩) 97 cs] w fun e w' => e = .returned (.bool (voB c s)) ∧ Fr Nob w w' := by
 obtain ⟨B, hB⟩ : ∃ B, decide ((cmS (s1L s) (s2L s)) = (a0O (a0P (a0W (s.take 33)) (a0v (c0E c (s.take 33)) (a0W c))))) = B := ⟨_, rfl⟩
 have hl := e0c hs
 have HDB := qH (show B = voB c s by
  rw [← hB, y0Y (by unfold voG; rw [hq, ho, decide_eq_true hl]; rfl) hn])
 have HB := qH hB
 have HSUM := qH (t0w (c0E c (s.take 33)) ho hq)
 clear hB hl
 have hcs : 97 ≤ cs := by obtain ⟨a', n', c', he, hc, -⟩ := hs; cases he; exact hc
 have HC := qH hc
 have HQ := qH hq
 have HSF := qH (b0Y hs 33 ap12)
 have HS1 := qH (a0s (j0C hs 33 32 ap12 ap12))
 have HS2 := qH (a0s (c0j hs 65 ap12))
 have k1 := fun wx => b0I (P := Tryz.prog) wx Tryz.underlying22 b0v (some ⟨b, o, none⟩) 97 cs .i64 33 ap13
 have k2 := fun wx => e0r (P := Tryz.prog) wx Tryz.underlying22 b0v b o 97 cs .i64 33 65 ap13 ap12 ap13
 have hcI : (33 : Int) ≤ (cs : Int) := by omega
 have hcJ : (65 : Int) ≤ (cs : Int) := by omega
 have hcN : ¬ (cs = 33) := by omega
 have hcM : ¬ (cs = 65) := by omega
 have HO := qH ho
 have HE := qH (by rw [Bool.and_eq_true] at hn; exact (k0V hn.1 hn.2).1 : cmE (s1L s) (s2L s) = 0)
 clear hc hs hq ho hcs hn
 have st0 := St.start Nob w
 go_enter Tryz.func21, Tryz.ntmps21
 go_wp2_with fail
 refine (b0W _ c _ (a0s (HC.out.still st0.fr)) HQ.out).mono ?_
 rintro e' w1 ⟨rfl, hf1⟩
 have st1 := st0.keep hf1
 clear st0 hf1
 go_wp2_with fail
 refine (b0W _ (s.take 33) _ (a0s (HSF.out.still st1.fr)) HO.out).mono ?_
 rintro e' w2 ⟨rfl, hf2⟩
 have st2 := st1.keep hf2
 clear st1 hf2
 go_wp2_with fail
 refine wp_region_noPanic ?_
 refine a0g st2 9 [.w 0, .w 1, .w 2, .w 3, .c 4, .w 5, .w 6, .w 7, .w 8] (.m 9 .nil) ap11 ap11 (fun _ _ _ _ _ h => h) ?_
 clear st2
 refine a0j rfl rfl apX ?_
 try simp only [clL]
 refine a0j rfl rfl apX ?_
 try simp only [clL]
 refine a0j rfl rfl apX ?_
 try simp only [clL]
 refine a0j rfl rfl apX ?_
 try simp only [clL]
 refine a0K (X := Value) (fun q => .tuple #[q, .int .i64 (cmE (s1L s) (s2L s))]) (fun q wx => BPart wx q (cmS (s1L s) (s2L s))) (fun _ _ _ h k => h.still k) rfl rfl rfl Tryz.call33 (fun w hS hR => n0v (.slice (some ⟨b, o + 33, none⟩) 32 (cs - 33)) (.slice (some ⟨b, o + 65, none⟩) (97 - 65) (cs - 65)) (s1L s) (s2L s) _ (HS1.out.still hS.fr) (HS2.out.still hS.fr)) (fun _ => rfl) fun vl => ?_
 try simp only [clL]
 refine a0j rfl rfl apX ?_
 try simp only [clL]
 refine a0j rfl rfl apX ?_
 try simp only [clL]
 refine a0j rfl rfl apX ?_
 try simp only [clL]
 refine a0j rfl rfl apX ?_
 try simp only [clL]
 refine a0I fun xq w3 st3 hR => ?_
 try dsimp only
 have HL := qH hR.2
 clear hR xq
 refine a0p rfl rfl ?_
 go_simp
 try simp only [clL]
 refine a0f ?_
 refine NoPanic.normal ?_
 clear k1 k2 hcI hcJ hcN hcM HS1 HS2
 rw [HE.out]
 have HL2 := HL.out
 obtain ⟨al, nl, cl, rfl, -, hrl⟩ := HL2
 have HK0 := qH hrl
 clear hrl HL HE
 go_wp2_with fail
 refine (i0o mQ .one 1 ap12 _).mono ?_
 rintro e' w4 ⟨rfl, hf4⟩
 have st4 := st3.keep hf4
 have HK1 := qH (HK0.out.still hf4)
 clear HK0
 clear st3 hf4
 go_wp2_with fail
 refine (h0D (.slice ac nc cc) c (.slice (some ⟨b, o, none⟩) 33 cs) (s.take 33) _ (HC.out.still st4.fr) (HSF.out.still st4.fr)).mono ?_
 rintro e' w5 ⟨rfl, hf5⟩
 have st5 := st4.keep hf5
 have HK2 := qH (HK1.out.still hf5)
 clear HK1
 clear st4 hf5
 go_wp2_with (with_reducible refine wSk 40 ?_)
 refine i0E (by first | rfl | go_simp) ?_
 refine d0p rfl rfl Tryz.underlying93 k0l [i4 (elN mQ 1), i4 (elN mQ (c0E c (s.take 33)))] rfl (by intro u hu; simp only [List.mem_cons, List.not_mem_nil, or_false] at hu; rcases hu with rfl | rfl <;> exact w0a _) rfl (c0b [1, c0E c (s.take 33)]) (by unfold c0b; simp [g0D]) ?_
 intro w6 hh6 hf6 hz6
 have st6 := st5.keep hf6
 have HZ := qH hh6
 have HK3 := qH (HK2.out.still hf6)
 clear HK2
 clear hh6 hf6 hz6 st5
 generalize w5.heap.size = gl40 at *
 go_wp2_with (with_reducible refine wSk 43 ?_)
 refine i0E (by first | rfl | go_simp) ?_
 refine b0o rfl rfl Tryz.underlying39 a0Z [.slice (some ⟨b, o, none⟩) 33 cs, .slice ac nc cc] rfl (by simp; exact ⟨rfl, rfl⟩) rfl rfl ?_
 intro w7 hh7 hf7 hz7
 have st7 := st6.keep hf7
 have HU := qH hh7
 have HK4 := qH (HK3.out.still hf7)
 clear HK3
 have HZ2 := qH (HZ.out.keep hf7 id)
 clear HZ
 clear hh7 hf7 hz7 st6
 generalize w6.heap.size = gl43 at *
 go_wp2_with fail
 refine (t0k (some ⟨gl40, 0, none⟩) 2 [1, c0E c (s.take 33)] (some ⟨gl43, 0, none⟩) 2 [.slice (some ⟨b, o, none⟩) 33 cs, .slice ac nc cc] [s.take 33, c] _ (by have h := Rd.whole HZ2.out; rwa [e0W] at h) ap14 (Rd.whole HU.out) (BParts.two (a0s (HSF.out.still st7.fr)) (a0s (HC.out.still st7.fr)))).mono ?_
 rintro e' w8 ⟨v, rfl, ho, hf8⟩
 have st8 := st7.keep hf8
 rw [HSUM.out] at ho
 obtain ⟨av, nv, cv, rfl, -, hrv⟩ := a0s (OwnB1.ptb ho (by rw [b0b]; decide))
 have HRV := qH hrv
 clear hrv ho
 have HK5 := qH (HK4.out.still hf8)
 clear HK4
 clear st7 hf8
 clear HU HZ2 HSUM HC HSF
 go_wp2_with fail
 refine (q0I al nl cl (cmS (s1L s) (s2L s)) av nv cv (a0O (a0P (a0W (s.take 33)) (a0v (c0E c (s.take 33)) (a0W c)))) _ HK5.out HRV.out).mono ?_
 rintro e' w' ⟨rfl, rfl⟩
 rw [HB.out]
 clear HK5 HRV HB
 have hfr := st8.fr
 clear st8
 go_wp2_with fail
 go_ret
 exact ⟨by rw [← HDB.out]; rfl, hfr⟩
theorem k0Y (ac : Option Addr) (nc cc : Nat) (c : List UInt8) (as_ : Option Addr) (ns cs : Nat) (s : List UInt8) (w : World) (hc : PartIs w (.slice ac nc cc) c) (hs : PartIs w (.slice as_ ns cs) s) : Calls Tryz.prog 21 #[.slice ac nc cc, .slice as_ ns cs] w fun e w' => e = .returned (.bool (voB c s)) ∧ Fr Nob w w' := by
 have hl := e0c hs
 cases h1 : b0w c with
 | false => rw [y0J (by unfold voG; rw [h1]; rfl)]; exact z0p ac nc cc c as_ ns cs s w hc hs h1
 | true =>
  by_cases h2 : ns = 97
  ·subst h2
   obtain ⟨b, o, rfl, -⟩ := (c0r hs).at ap12
   cases h3 : b0w (s.take 33) with
   | false => rw [y0J (by unfold voG; rw [h3]; simp)]; exact z0r ac nc cc c b o cs s w hc hs h1 h3
   | true =>
    cases h4 : (a0N mQ (s1L s) && a0N mQ (s2L s)) with
    | false => rw [z0o h4]; exact z0s ac nc cc c b o cs s w hc hs h1 h3 h4
    | true => exact z0t ac nc cc c b o cs s w hc hs h1 h3 h4
  ·rw [y0J (by unfold voG; rw [hl, decide_eq_false h2]; simp)]
   exact z0q ac nc cc c as_ ns cs s w hc hs h1 h2
end
section
open Go.RowKit Go.Mv Mvp Mvq
theorem y0b {v b : List UInt8} (h : a0L mQ [v, b] = false) : poE v b = 3 ∧ poR v b = [] := by unfold poE poR; rw [h]; exact ⟨rfl, rfl⟩
theorem r0o {v b : List UInt8} (h : a0L mQ [v, b] = true) : poE v b = 0 ∧ poR v b = poS v b := by unfold poE poR; rw [h]; exact ⟨rfl, rfl⟩
attribute [local irreducible] a0y lw mix cw b0q b0r b0i beN b0x a0Q a0A a0J elN mdL a0N rtV b0S a0O b0w a0W a0v b0k b0u toB a0z a0E b0s a0H c0n b0l a0F c0z c0B RT.L kN kc d0H sgF sgZ b0E c0Y c0E chN f0j n0h b0g rpL veB rdG d0V poF poC poS poE poR cmS cmE voG voB hTT a0L
end
section
open Go.RowKit Go.Mv Mvp Mvq
attribute [local irreducible] a0y lw mix cw b0q b0r b0i beN b0x a0Q a0A a0J elN mdL a0N rtV b0S a0O b0w a0W a0v b0k b0u toB a0z a0E b0s a0H c0n b0l a0F c0z c0B RT.L kN kc d0H sgF sgZ sgE sgS b0E c0Y c0E chN f0j n0h b0g rpL poE poR poS voB voG
theorem m0n (av : Option Addr) (nv cv : Nat) (v : List UInt8) (ab : Option Addr) (nb cb : Nat) (b : List UInt8) (w : World) (hv : PartIs w (.slice av nv cv) v) (hb : PartIs w (.slice ab nb cb) b) :
  Calls Tryz.prog 19 #[.slice av nv cv, .slice ab nb cb] w fun e w' => ∃ q, e = .returned (.tuple #[q, .int .i64 (poE v b)]) ∧ OwnB1 w w' q (poR v b) ∧ Fr Nob w w' := by
 cases h : a0L mQ [v, b] with
 | false => rw [(y0b h).1, (y0b h).2]; exact (k0W av nv cv v ab nb cb b w hv hb h).mono fun e w' k => ⟨_, k.1, OwnB1.nil _ _, k.2⟩
 | true => rw [(r0o h).1, (r0o h).2]; exact k0X av nv cv v ab nb cb b w hv hb h
end
section
open Go.RowKit Go.Mv Mvp Mvq
attribute [local irreducible] a0y lw mix cw b0q b0r b0i beN b0x a0Q a0A a0J elN mdL a0N rtV b0S a0O b0w a0W a0v b0k b0u toB a0z a0E b0s a0H c0n b0l a0F c0z c0B RT.L kN kc d0H sgF sgZ b0E c0Y c0E chN f0j n0h b0g rpL veB rdG d0V smC vsG vsB d0g a0L b0h
end
section
open Go.RowKit Go.Mv Mvp Mvq
attribute [local irreducible] a0y lw mix cw b0q b0r b0i beN b0x a0Q a0A a0J elN mdL a0N rtV b0S a0O b0w a0W a0v b0k b0u toB a0z a0E b0s a0H c0n b0l a0F c0z c0B RT.L kN kc d0H sgF sgZ sgE sgS b0E c0Y c0E chN f0j n0h b0g rpL smE smS vsB vsG
end
section
open Go.RowKit Go.Mv Mvp Mvq
theorem u0g (key text : List UInt8) : sgZ key text < mQ.M := Nat.mod_lt _ mQ0
theorem w0g {z : Nat} (h : z < mQ.M) : beN (a0Q z) = z := by
 have h2 := g0v z
 rwa [Nat.mod_eq_of_lt h] at h2
theorem r0p {z : Nat} (h : z < mQ.M) : a0N mQ (a0Q z) = true := by
 have h2 := c0F z
 rwa [Nat.mod_eq_of_lt h] at h2
theorem r0q (key text : List UInt8) : (sgF key text ++ a0Q (sgZ key text)).take 33 = sgF key text := List.take_left' (b0b _)
theorem r0r (key text : List UInt8) : (sgF key text ++ a0Q (sgZ key text)).drop 33 = a0Q (sgZ key text) := List.drop_left' (b0b _)
theorem u0h (key text : List UInt8) : (sgF key text ++ a0Q (sgZ key text)).length = 65 := by rw [List.length_append, a0U]; unfold sgF; rw [b0b]
theorem u0i (key text : List UInt8) : b0w (sgF key text) = true ∧ a0W (sgF key text) = a0v (chN b0T [key, text]) gP := e0H (a0w d0F _)
theorem t0x {key text : List UInt8} (hr : b0g (a0O (a0v (beN key) gP)) = true) : rdG (a0O (a0v (beN key) gP)) (sgF key text ++ a0Q (sgZ key text)) = true := by
 unfold rdG
 rw [hr, u0h, r0q, r0r, (u0i key text).1, r0p (u0g _ _)]
 rfl
open Classical in
theorem w0h {key text : List UInt8} (hr : b0g (a0O (a0v (beN key) gP)) = true) : veB (a0O (a0v (beN key) gP)) text (sgF key text ++ a0Q (sgZ key text)) = true := by
 rw [u0d (t0x hr), r0q, r0r, w0g (u0g _ _), (u0i key text).2, (e0H (a0w d0F _)).2]
 unfold sgZ
 rw [m0e, j0s d0F, decide_eq_true rfl]
attribute [local irreducible] a0y lw mix cw b0q b0r b0i beN b0x a0Q a0A a0J elN mdL a0N rtV b0S a0O b0w a0W a0v b0k b0u toB a0z a0E b0s a0H c0n b0l a0F c0z c0B RT.L kN kc d0H sgF sgZ sgE sgS b0E c0Y c0E chN f0j n0h b0g rpL veB rdG d0V
end
section
open Go.RowKit Go.Mv Mvp Mvq
theorem j0D {k : List UInt8} (h : d0H k = true) : a0N mQ k = true := by unfold d0H at h; rw [Bool.and_eq_true] at h; exact h.1
theorem w0i {key point : List UInt8} (hp : b0g point = true) (ha : b0g (a0O (a0v (beN key) gP)) = true) (hb : b0g (a0O (a0v (beN key) (a0W point))) = true) :
  vsB (a0O (a0v (beN key) gP)) point (a0O (a0v (beN key) (a0W point))) (a0Q (smC key point) ++ a0Q ((chN a0t [key, point] + smC key point * beN key) % mQ.M)) = true := by
 have hcl : smC key point < mQ.M := by unfold smC; exact j0B _ _ _ _ _
 have hzl : (chN a0t [key, point] + smC key point * beN key) % mQ.M < mQ.M := Nat.mod_lt _ mQ0
 have ht : (a0Q (smC key point) ++ a0Q ((chN a0t [key, point] + smC key point * beN key) % mQ.M)).take 32 = a0Q (smC key point) := List.take_left' (a0U _)
 have hd : (a0Q (smC key point) ++ a0Q ((chN a0t [key, point] + smC key point * beN key) % mQ.M)).drop 32 = a0Q ((chN a0t [key, point] + smC key point * beN key) % mQ.M) := List.drop_left' (a0U _)
 have hg : vsG (a0O (a0v (beN key) gP)) point (a0O (a0v (beN key) (a0W point))) (a0Q (smC key point) ++ a0Q ((chN a0t [key, point] + smC key point * beN key) % mQ.M)) = true := by
  unfold vsG b0h a0L
  rw [ht, hd]
  simp only [List.all_cons, List.all_nil, hp, ha, hb, r0p hcl, r0p hzl, List.length_append, a0U]
  rfl
 rw [u0e hg, ht, hd, w0g hcl, w0g hzl]
 have e1 : d0g ((chN a0t [key, point] + smC key point * beN key) % mQ.M) (smC key point) gP (a0W (a0O (a0v (beN key) gP))) = a0O (a0v (chN a0t [key, point]) gP) := by
  unfold d0g
  rw [(e0H (a0w d0F _)).2, m0e, q0G d0F]
 have e2 : d0g ((chN a0t [key, point] + smC key point * beN key) % mQ.M) (smC key point) (a0W point) (a0W (a0O (a0v (beN key) (a0W point)))) = a0O (a0v (chN a0t [key, point]) (a0W point)) := by
  unfold d0g
  rw [(e0H (a0w (h0U (e0N hp)) _)).2, m0e, q0G (h0U (e0N hp))]
 rw [e1, e2]
 exact decide_eq_true (by unfold smC; rfl)
attribute [local irreducible] a0y lw mix cw b0q b0r b0i beN b0x a0Q a0A a0J elN mdL a0N rtV b0S a0O b0w a0W a0v b0k b0u toB a0z a0E b0s a0H c0n b0l a0F c0z c0B RT.L kN kc d0H sgF sgZ b0E c0Y c0E chN f0j n0h b0g rpL veB rdG d0V smC smE smS vsG vsB d0g a0L b0h
end
section
open Go.RowKit Go.Mv Mvp Mvq
theorem m0o {p : Pt} (hp : onC p) (hO : p ≠ .O) {k : Nat} (h0 : 0 < k) (hk : k < qN) : a0v k p ≠ .O := by
 intro h
 have hq := x0D
 have hinv := FP.inv y0P (a := k) ap13 ap13
 have e1 : a0v (k * (k ^ (pQ - 2) % pQ)) p = .O := by rw [d0P hp, h, i0u]
 generalize k * (k ^ (pQ - 2) % pQ) = m at *
 rw [← hq] at hinv
 rw [← f0Q hp, hinv, u0a] at e1
 exact hO e1
open Classical in
theorem m0p {p : Pt} (hp : onC p) (h : p ≠ .O) : b0g (a0O p) = true := by
 have h2 := y0T (p := p)
 rw [decide_eq_false h] at h2
 unfold b0g
 rw [(e0H hp).1, decide_eq_false (fun h3 => by rw [h3] at h2; exact absurd h2 ap12)]
 rfl
theorem y0c : gP ≠ .O := by unfold gP; intro h; cases h
def scC (l : List UInt8) : List UInt8 := 0 :: ((l.take 30 ++ List.replicate (30 - l.length) 0) ++ [1])
theorem m0q (l : List UInt8) : (scC l).length = 32 := by simp [scC]; omega
theorem y0d (l : List UInt8) : beN (scC l) < 256 ^ 31 := by
 unfold scC
 rw [beN_cons]
 have h := t0F ((l.take 30 ++ List.replicate (30 - l.length) 0) ++ [1])
 have e : ((l.take 30 ++ List.replicate (30 - l.length) 0) ++ [(1 : UInt8)]).length = 31 := by simp; omega
 rw [e] at h
 simpa using h
theorem w0j (l : List UInt8) : a0N mQ (scC l) = true := by
 unfold a0N
 rw [m0q, decide_eq_true rfl, decide_eq_true (Nat.lt_trans (y0d l) z0h)]
 rfl
theorem w0k (l : List UInt8) : 0 < beN (scC l) := by
 refine Nat.pos_of_ne_zero fun h => ?_
 have h2 : scC l = List.replicate (scC l).length 0 := by first | exact beN_zero h | exact beN_zero _ h
 rw [m0q] at h2
 have h3 : (1 : UInt8) ∈ scC l := by simp [scC]
 rw [h2] at h3
 exact absurd (List.eq_of_mem_replicate h3) ap12
theorem r0s (l : List UInt8) : d0H (scC l) = true := by
 have h := w0k l
 unfold d0H
 rw [w0j, decide_eq_false ap13]
 rfl
theorem i0F : onC hTT.pt := by
 generalize hTT = T
 exact T.on
attribute [local irreducible] hTT a0v a0O a0W beN chN c0E a0Q gP
theorem qM : mQ.M = qN := rfl
theorem y0e {v b : List UInt8} : onC (a0P (a0v (beN v) hTT.pt) (a0v (beN b) gP)) := b0U (a0w i0F _) (a0w d0F _)
theorem u0j (v b : List UInt8) : onC (a0P (a0v (chN a0R [v, b]) hTT.pt) (a0v (chN a0S [v, b]) gP)) := b0U (a0w i0F _) (a0w d0F _)
theorem n0w (v b : List UInt8) : (poS v b).length = 97 := by unfold poS; simp only [List.length_append, a0U]; unfold poF; rw [b0b]
theorem w0l {v b : List UInt8} (hv : a0N mQ v = true) (hb : a0N mQ b = true) : voB (cmS v b) (poS v b) = true := by
 have hF : (poF v b).length = 33 := by unfold poF; exact b0b _
 have ht : (poS v b).take 33 = poF v b := by unfold poS; rw [List.append_assoc]; exact List.take_left' hF
 have hd : (poS v b).drop 33 = a0Q ((chN a0R [v, b] + poC v b * beN v) % mQ.M) ++ a0Q ((chN a0S [v, b] + poC v b * beN b) % mQ.M) := by unfold poS; rw [List.append_assoc]; exact List.drop_left' hF
 have h1 : s1L (poS v b) = a0Q ((chN a0R [v, b] + poC v b * beN v) % mQ.M) := by unfold s1L; rw [hd]; exact List.take_left' (a0U _)
 have h2 : s2L (poS v b) = a0Q ((chN a0S [v, b] + poC v b * beN b) % mQ.M) := by
  unfold s2L poS
  exact List.drop_left' (by rw [List.length_append, a0U, hF])
 have e := (k0V hv hb).2
 have hc : b0w (cmS v b) = true := by rw [e]; exact (e0H y0e).1
 have hf : b0w (poF v b) = true := by unfold poF; exact (e0H (u0j v b)).1
 rw [y0Y (by unfold voG; rw [hc, ht, hf, n0w, decide_eq_true rfl]; rfl) (by rw [h1, h2, c0F, c0F]; rfl), h1, h2, ht, (k0V (c0F _) (c0F _)).2, g0v, g0v, qM, j0s i0F, j0s d0F]
 have e2 : a0W (poF v b) = a0P (a0v (chN a0R [v, b]) hTT.pt) (a0v (chN a0S [v, b]) gP) := by unfold poF; exact (e0H (u0j v b)).2
 have e3 : a0W (cmS v b) = a0P (a0v (beN v) hTT.pt) (a0v (beN b) gP) := by rw [e]; exact (e0H y0e).2
 have e4 : c0E (cmS v b) (poF v b) = poC v b := rfl
 rw [e2, e3, e4, h0s (a0w i0F _) (a0w d0F _), e0a (a0w i0F _) (a0w (a0w i0F _) _) (a0w d0F _) (a0w (a0w d0F _) _)]
 exact decide_eq_true rfl
theorem r0t (l : List UInt8) : (splice (List.replicate 32 (Value.int .u8 0)) 1 (bs (l.take (min l.length 30)))).set 31 (.int .u8 1) = bs (scC l) := by
 have e : l.take (min l.length 30) = l.take 30 := by
  rcases Nat.le_total l.length 30 with h | h
  ·rw [Nat.min_eq_left h, List.take_of_length_le (Nat.le_refl _), List.take_of_length_le h]
  ·rw [Nat.min_eq_right h]
 rw [e]
 unfold splice scC
 rw [a0G, List.length_take]
 have h1 : List.drop (1 + min 30 l.length) (List.replicate 32 (Value.int .u8 0)) = bs (List.replicate (30 - l.length) 0) ++ [.int .u8 0] := by
  rw [List.drop_replicate, show 32 - (1 + min 30 l.length) = (30 - l.length) + 1 by omega, List.replicate_succ']; simp [bs]
 rw [h1]
 have h2 : (List.take 1 (List.replicate 32 (Value.int .u8 0)) ++ (bs (l.take 30) ++ (bs (List.replicate (30 - l.length) 0) ++ [Value.int .u8 0]))) = (([Value.int .u8 0] ++ bs (l.take 30) ++ bs (List.replicate (30 - l.length) 0))) ++ [Value.int .u8 0] := by simp
 have h3 : ([Value.int .u8 0] ++ bs (l.take 30) ++ bs (List.replicate (30 - l.length) 0)).length = 31 := by simp [a0G]; omega
 rw [h2, List.set_append_right _ _ (by rw [h3]; exact Nat.le_refl _), h3]
 simp [bs]
attribute [local irreducible] scC
theorem r0u (s : ByteArray) (w : World) : Calls Tryz.prog 32 #[.string s] w fun e w' => ∃ g, e = .returned (.slice (some ⟨g, 0, none⟩) 32 32) ∧ PartIs w' (.slice (some ⟨g, 0, none⟩) 32 32) (scC s.data.toList) ∧ Fr Nob w w' := by
 go_enter Tryz.func32, Tryz.ntmps32
 go_wp2_with (first
  | (at_make; refine g0S rfl rfl Tryz.underlying22 c0w rfl rfl rfl 32 32 ap14 ap14 ap13 ap13 (by unfold maxLen; omega) ?_; intro w1 hw1 hf1 hz1)
  | (with_reducible refine wSk 6 ?_))
 clear hz1
 generalize hg0 : w.heap.size = g at *
 have HG0 := qH hg0
 clear hg0
 refine g0l rfl rfl Tryz.underlying22 b0v rfl 1 31 ⟨_, rfl⟩ ⟨_, rfl⟩ ap12 ap12 ?_
 rw [show c0x (some ⟨g, 0, none⟩) 1 32 = some ⟨g, 1, none⟩ from rfl]
 go_wp2_with (with_reducible refine wSk 8 ?_)
 refine k0R rfl rfl Tryz.underlying22 b0v rfl rfl hw1 (by simp; omega) ?_
 intro w2 hw2 hf2 hz2
 clear hz2 hw1
 have hsz : s.size = s.data.toList.length := by simp
 rw [hsz] at hw2
 obtain ⟨v, hc, hfz⟩ := hw2.ready (i := 31) (by simp [splice, a0G]; omega)
 have hst := hw2.set 31 (.int .u8 1)
 rw [r0t] at hst
 have HST := qH hst
 have hf3 := hf1.new hf2 (by rw [HG0.out]; exact Nat.le_refl _)
 have hfr : Fr Nob w (w2.setCell ⟨g, 31, none⟩ (.int .u8 1)) := hf3.setCell g 31 none _ (fun h => absurd h (by rw [HG0.out]; exact Nat.lt_irrefl _))
 have FF := qH hfr
 clear hst hfr hw2 hf1 hf2 hf3 hsz
 go_wp2_with fail
 go_ret
 exact ⟨g, rfl, ⟨_, 32, 32, rfl, Nat.le_refl _, by decide, by have h := Rd.whole HST.out; rw [a0G, m0q] at h; exact h, fun x hx => by cases hx; exact HST.out.lt⟩, FF.out⟩
end
section
open Go.RowKit Go.Mv Mvp Mvq
theorem t0y (K M T : List UInt8) (hk : d0H K = true) (hm : d0H M = true) : ∃ P1 P2 P3 S1 S2 C S3 : List UInt8,
  (tS K (a0O gP) = P1 ∧ tC K (a0O gP) = 0 ∧ P1.length = 33) ∧ (tS M (a0O gP) = P2 ∧ tC M (a0O gP) = 0 ∧ P2.length = 33) ∧ (tS K P2 = P3 ∧ tC K P2 = 0 ∧ P3.length = 33) ∧
  (sgS K T = S1 ∧ sgE K = 0 ∧ S1.length = 65 ∧ veB P1 T S1 = true) ∧ (smS K P2 = S2 ∧ smE K P2 = 0 ∧ S2.length = 64 ∧ vsB P1 P2 P3 S2 = true) ∧
  (cmS K M = C ∧ C.length = 33 ∧ poR K M = S3 ∧ poE K M = 0 ∧ S3.length = 97 ∧ voB C S3 = true) := by
 have nk := j0D hk
 have nm := j0D hm
 have k0 : 0 < beN K := by unfold d0H at hk; rw [Bool.and_eq_true] at hk; have := hk.2; simp at this; omega
 have m0 : 0 < beN M := by unfold d0H at hm; rw [Bool.and_eq_true] at hm; have := hm.2; simp at this; omega
 have kl : beN K < qN := c0D nk
 have ml : beN M < qN := c0D nm
 have rG := e0H d0F
 have o1 := m0o d0F y0c k0 kl
 have o2 := m0o d0F y0c m0 ml
 have c1 := a0w d0F (beN K)
 have c2 := a0w d0F (beN M)
 have o3 := m0o c2 o2 k0 kl
 have r1 := m0p c1 o1
 have r2 := m0p c2 o2
 have r3 := m0p (a0w c2 (beN K)) o3
 have w2 := e0H c2
 have t1 : tS K (a0O gP) = a0O (a0v (beN K) gP) := by unfold tS; rw [nk, rG.1, rG.2]; rfl
 have t2 : tS M (a0O gP) = a0O (a0v (beN M) gP) := by unfold tS; rw [nm, rG.1, rG.2]; rfl
 have t3 : tS K (a0O (a0v (beN M) gP)) = a0O (a0v (beN K) (a0v (beN M) gP)) := by unfold tS; rw [nk, w2.1, w2.2]; rfl
 refine ⟨a0O (a0v (beN K) gP), a0O (a0v (beN M) gP), a0O (a0v (beN K) (a0v (beN M) gP)), sgS K T, smS K (a0O (a0v (beN M) gP)), cmS K M, poR K M, ⟨t1, by unfold tC; rw [nk, rG.1]; rfl, b0b _⟩, ⟨t2, by unfold tC; rw [nm, rG.1]; rfl, b0b _⟩, ⟨t3, by unfold tC; rw [nk, w2.1]; rfl, b0b _⟩, ⟨rfl, (r0n (t := T) hk).1, ?_, ?_⟩, ⟨rfl, (r0h hk r2).1, ?_, ?_⟩, ⟨rfl, ?_, rfl, (r0o ?_).1, ?_, ?_⟩⟩
 ·rw [(r0n (t := T) hk).2]; exact u0h K T
 ·rw [(r0n (t := T) hk).2]; exact w0h r1
 ·rw [(r0h hk r2).2, List.length_append, a0U, a0U]
 ·have h := w0i (key := K) (point := a0O (a0v (beN M) gP)) r2 r1 (by rw [w2.2]; exact r3)
  rw [w2.2] at h
  rw [(r0h hk r2).2]
  exact h
 ·exact m0m nk nm
 ·unfold a0L; simp [nk, nm]
 ·rw [(r0o (by unfold a0L; simp [nk, nm])).2]; exact n0w K M
 ·rw [(r0o (by unfold a0L; simp [nk, nm])).2]; exact w0l nk nm
attribute [local irreducible] a0y lw mix cw b0q b0r b0i beN b0x a0Q a0A a0J elN mdL a0N rtV b0S a0O b0w a0W a0v b0k b0u toB a0z a0E b0s a0H c0n b0l a0F c0z c0B RT.L kN kc d0H sgF sgZ sgE sgS b0E c0Y c0E chN f0j n0h b0g rpL smE smS vsB vsG poE poR poS voB voG cmS cmE veB tS tC scC
theorem g0j (k m t : ByteArray) (w : World) : Calls Tryz.prog 8 #[.string k, .string m, .string t] w fun e w' => e = .returned (.bool true) ∧ Fr Nob w w' := by
 obtain ⟨K, hK⟩ : ∃ K, scC k.data.toList = K := ⟨_, rfl⟩
 obtain ⟨M, hM⟩ : ∃ M, scC m.data.toList = M := ⟨_, rfl⟩
 have hk : d0H K = true := by rw [← hK]; exact r0s _
 have hm : d0H M = true := by rw [← hM]; exact r0s _
 obtain ⟨P1, P2, P3, S1, S2, C, S3, ⟨a1, a2, a3⟩, ⟨b1, b2, b3⟩, ⟨c1, c2, c3⟩, ⟨d1, d2, d3, d4⟩, ⟨e1, e2, e3, e4⟩, ⟨f1, f2, f3, f4, f5, f6⟩⟩ := t0y K M t.data.toList hk hm
 have HKK := qH hK
 have HMM := qH hM
 have HNK := qH (j0D hk)
 have HNM := qH (j0D hm)
 have HT1 := qH a1
 have HC1 := qH a2
 have HL1 := qH a3
 have HT2 := qH b1
 have HC2 := qH b2
 have HL2 := qH b3
 have HT3 := qH c1
 have HC3 := qH c2
 have HL3 := qH c3
 have HS1 := qH d1
 have HE1 := qH d2
 have HSL1 := qH d3
 have HV1 := qH d4
 have HS2 := qH e1
 have HE2 := qH e2
 have HSL2 := qH e3
 have HV2 := qH e4
 have HCM := qH f1
 have HCL := qH f2
 have HS3 := qH f3
 have HE3 := qH f4
 have HSL3 := qH f5
 have HV3 := qH f6
 clear hK hM hk hm a1 a2 a3 b1 b2 b3 c1 c2 c3 d1 d2 d3 d4 e1 e2 e3 e4 f1 f2 f3 f4 f5 f6
 have st0 := St.start Nob w
 go_enter Tryz.func8, Tryz.ntmps8
 by_cases hz : 4096 < t.size
 ·have hJ : (4096 : Int) < (t.size : Int) := by omega
  have hfr := st0.fr
  clear st0
  go_wp2_with fail
  go_ret
  exact ⟨rfl, hfr⟩
 have hI : ¬ ((4096 : Int) < (t.size : Int)) := by omega
 have HSt := qH (show t.size ≤ 4096 by omega)
 clear hz
 go_wp2_with fail
 refine (r0u k _).mono ?_
 rintro e' w1 ⟨gk, rfl, hp, hf⟩
 have st1 := st0.keep hf
 rw [HKK.out] at hp
 have HK := qH (hp)
 clear hf st0
 clear hp
 go_wp2_with fail
 refine (r0u m _).mono ?_
 rintro e' w2 ⟨gm, rfl, hp, hf⟩
 have st2 := st1.keep hf
 replace HK := qH (HK.out.still hf)
 rw [HMM.out] at hp
 have HM := qH (hp)
 clear hf st1
 clear hp
 go_wp2_with fail
 refine (h0F _).mono ?_
 rintro e' w3 ⟨y1, rfl, hb, hf⟩
 have st3 := st2.keep hf
 replace HK := qH (HK.out.still hf)
 replace HM := qH (HM.out.still hf)
 have HB := qH (hb)
 clear hf st2
 clear hb
 go_wp2_with fail
 refine (g0L _ _ K (a0O gP) _ (a0s HK.out) HB.out).mono ?_
 rintro e' w4 ⟨v1, rfl, ho, hf⟩
 have st4 := st3.keep hf
 replace HK := qH (HK.out.still hf)
 replace HM := qH (HM.out.still hf)
 replace HB := qH (HB.out.still hf)
 rw [HT1.out] at ho
 rw [HC1.out]
 have HP1 := qH (OwnB1.ptb ho (by rw [HL1.out]; decide))
 clear hf st3
 clear ho
 obtain ⟨aap1, nnp1, ccp1, hep1, kkp1⟩ := HP1.out
 cases hep1
 clear kkp1
 clear HB
 go_wp2_with fail
 refine (h0F _).mono ?_
 rintro e' w5 ⟨y2, rfl, hb, hf⟩
 have st5 := st4.keep hf
 replace HK := qH (HK.out.still hf)
 replace HM := qH (HM.out.still hf)
 replace HP1 := qH (HP1.out.still hf)
 have HB := qH (hb)
 clear hf st4
 clear hb
 go_wp2_with fail
 refine (g0L _ _ M (a0O gP) _ (a0s HM.out) HB.out).mono ?_
 rintro e' w6 ⟨v2, rfl, ho, hf⟩
 have st6 := st5.keep hf
 replace HK := qH (HK.out.still hf)
 replace HM := qH (HM.out.still hf)
 replace HP1 := qH (HP1.out.still hf)
 replace HB := qH (HB.out.still hf)
 rw [HT2.out] at ho
 rw [HC2.out]
 have HP2 := qH (OwnB1.ptb ho (by rw [HL2.out]; decide))
 clear hf st5
 clear ho
 obtain ⟨aap2, nnp2, ccp2, hep2, kkp2⟩ := HP2.out
 cases hep2
 clear kkp2
 clear HB
 go_wp2_with (with_reducible refine wSk 42 ?_)
 refine e0d (q := t) rfl rfl Tryz.underlying9 Tryz.underlying22 Tryz.underlying5 rfl (by have := HSt.out; unfold maxLen; omega) 0 (Nat.zero_le _) ?_
 intro capt w7 ho hf hz
 have st7 := st6.keep hf
 replace HK := qH (HK.out.still hf)
 replace HM := qH (HM.out.still hf)
 replace HP1 := qH (HP1.out.still hf)
 replace HP2 := qH (HP2.out.still hf)
 clear hz
 have HPt := qH (b0Z ho (by have := HSt.out; omega))
 clear hf st6
 clear ho
 obtain ⟨aat, nnt, cct, het, kkt⟩ := HPt.out
 cases het
 clear kkt
 go_wp2_with fail
 refine (x0Z _ _ _ K _ _ _ t.data.toList _ HK.out HPt.out).mono ?_
 rintro e' w8 ⟨v4, rfl, ho, hf⟩
 have st8 := st7.keep hf
 replace HK := qH (HK.out.still hf)
 replace HM := qH (HM.out.still hf)
 replace HP1 := qH (HP1.out.still hf)
 replace HP2 := qH (HP2.out.still hf)
 replace HPt := qH (HPt.out.still hf)
 rw [HS1.out] at ho
 rw [HE1.out]
 have HG1 := qH (OwnB1.ptb ho (by rw [HSL1.out]; decide))
 clear hf st7
 clear ho HPt
 obtain ⟨aag1, nng1, ccg1, heg1, kkg1⟩ := HG1.out
 cases heg1
 clear kkg1
 go_wp2_with (with_reducible refine wSk 48 ?_)
 refine e0d (q := t) rfl rfl Tryz.underlying9 Tryz.underlying22 Tryz.underlying5 rfl (by have := HSt.out; unfold maxLen; omega) 0 (Nat.zero_le _) ?_
 intro capt w9 ho hf hz
 have st9 := st8.keep hf
 replace HK := qH (HK.out.still hf)
 replace HM := qH (HM.out.still hf)
 replace HP1 := qH (HP1.out.still hf)
 replace HP2 := qH (HP2.out.still hf)
 replace HG1 := qH (HG1.out.still hf)
 clear hz
 have HPu := qH (b0Z ho (by have := HSt.out; omega))
 clear hf st8
 clear ho
 obtain ⟨aau, nnu, ccu, heu, kku⟩ := HPu.out
 cases heu
 clear kku
 go_wp2_with fail
 refine (t0r _ _ _ P1 _ _ _ t.data.toList _ _ _ S1 _ HP1.out HPu.out HG1.out).mono ?_
 rintro e' w10 ⟨rfl, hf⟩
 have st10 := st9.keep hf
 replace HK := qH (HK.out.still hf)
 replace HM := qH (HM.out.still hf)
 replace HP1 := qH (HP1.out.still hf)
 replace HP2 := qH (HP2.out.still hf)
 replace HG1 := qH (HG1.out.still hf)
 replace HPu := qH (HPu.out.still hf)
 rw [HV1.out]
 clear hf st9
 clear HPu HG1
 go_wp2_with fail
 refine (g0L _ _ K P2 _ (a0s HK.out) (a0s HP2.out)).mono ?_
 rintro e' w11 ⟨v3, rfl, ho, hf⟩
 have st11 := st10.keep hf
 replace HK := qH (HK.out.still hf)
 replace HM := qH (HM.out.still hf)
 replace HP1 := qH (HP1.out.still hf)
 replace HP2 := qH (HP2.out.still hf)
 rw [HT3.out] at ho
 rw [HC3.out]
 have HP3 := qH (OwnB1.ptb ho (by rw [HL3.out]; decide))
 clear hf st10
 clear ho
 obtain ⟨aap3, nnp3, ccp3, hep3, kkp3⟩ := HP3.out
 cases hep3
 clear kkp3
 go_wp2_with fail
 refine (m0k _ _ _ K _ _ _ P2 _ HK.out HP2.out).mono ?_
 rintro e' w12 ⟨v5, rfl, ho, hf⟩
 have st12 := st11.keep hf
 replace HK := qH (HK.out.still hf)
 replace HM := qH (HM.out.still hf)
 replace HP1 := qH (HP1.out.still hf)
 replace HP2 := qH (HP2.out.still hf)
 replace HP3 := qH (HP3.out.still hf)
 rw [HS2.out] at ho
 rw [HE2.out]
 have HG2 := qH (OwnB1.ptb ho (by rw [HSL2.out]; decide))
 clear hf st11
 clear ho
 obtain ⟨aag2, nng2, ccg2, heg2, kkg2⟩ := HG2.out
 cases heg2
 clear kkg2
 go_wp2_with fail
 refine (k0Q _ _ _ P1 _ _ _ P2 _ _ _ P3 _ _ _ S2 _ HP1.out HP2.out HP3.out HG2.out).mono ?_
 rintro e' w13 ⟨rfl, hf⟩
 have st13 := st12.keep hf
 replace HK := qH (HK.out.still hf)
 replace HM := qH (HM.out.still hf)
 replace HP1 := qH (HP1.out.still hf)
 replace HP2 := qH (HP2.out.still hf)
 replace HP3 := qH (HP3.out.still hf)
 replace HG2 := qH (HG2.out.still hf)
 rw [HV2.out]
 clear hf st12
 clear HP1 HP2 HP3 HG2
 go_wp2_with fail
 refine (g0i _ _ K M _ (a0s HK.out) (a0s HM.out) HNK.out HNM.out).mono ?_
 rintro e' w14 ⟨v6, rfl, ho, hf⟩
 have st14 := st13.keep hf
 replace HK := qH (HK.out.still hf)
 replace HM := qH (HM.out.still hf)
 rw [HCM.out] at ho
 have HC := qH (OwnB1.ptb ho (by rw [HCL.out]; decide))
 clear hf st13
 clear ho
 obtain ⟨aac6, nnc6, ccc6, hec6, kkc6⟩ := HC.out
 cases hec6
 clear kkc6
 go_wp2_with fail
 refine (m0n _ _ _ K _ _ _ M _ HK.out HM.out).mono ?_
 rintro e' w15 ⟨v7, rfl, ho, hf⟩
 have st15 := st14.keep hf
 replace HK := qH (HK.out.still hf)
 replace HM := qH (HM.out.still hf)
 replace HC := qH (HC.out.still hf)
 rw [HS3.out] at ho
 rw [HE3.out]
 have HG3 := qH (OwnB1.ptb ho (by rw [HSL3.out]; decide))
 clear hf st14
 clear ho
 obtain ⟨aag3, nng3, ccg3, heg3, kkg3⟩ := HG3.out
 cases heg3
 clear kkg3
 go_wp2_with fail
 refine (k0Y _ _ _ C _ _ _ S3 _ HC.out HG3.out).mono ?_
 rintro e' w16 ⟨rfl, hf⟩
 have st16 := st15.keep hf
 replace HK := qH (HK.out.still hf)
 replace HM := qH (HM.out.still hf)
 replace HC := qH (HC.out.still hf)
 replace HG3 := qH (HG3.out.still hf)
 rw [HV3.out]
 clear hf st15
 clear HC HG3 HK HM
 have hfr := st16.fr
 clear st16
 go_wp2_with fail
 go_ret
 exact ⟨rfl, hfr⟩
end
end Go.Proofs.YtemcankmggmgoaaGreat
