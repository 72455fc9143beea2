/- ; ; ; ; ; ; ; ; ; ; ; ; ; ; ; ; . -/
import Derived.Test.YtpfimiajoifjaaaGreatMgSpanHalvesProof2
import Derived.RangeFuncNested
import Derived.RangeFuncBound
import Derived.RangeFuncCalls
import Derived.RangeFuncLeaves
import Derived.Test.YtpfimiajoifjaaaGreatMgSpanHalvesProof7
import Derived.Deep.DeepCutAuto
import Derived.Test.YtpfimiajoifjaaaGreatMgSpanHalvesProof6
import Derived.Test.YtpfimiajoifjaaaGreatMgSpanHalvesProof1
set_option maxHeartbeats 16000000
set_option maxRecDepth 1000000

namespace Go.Mv
open Go.RowKit
variable {P : Program} {ops : Array Oper} {Q : Exit → Act → World → Prop} {a : Act} {w : World} {rest : List Oper} {o : Oper} {n l : Nat}
def m0C (rest : List Oper) : Bool := rest.all fun o => match o.op with | .defer _ => false | _ => true
theorem p0b {o : Oper} (h : (match o.op with | .defer _ => false | _ => true) = true) : ∀ c, o.op ≠ .defer c := by
 intro c e
 rw [e] at h
 cases h
theorem r0J {row : String} {args : Array Value} {R : Value → World → Prop} (h : Rows P row args w R) : RowsIn (Fence.wide.inRound l) n P row args w R :=
 fun c cs _ => let ⟨v, w', r, s⟩ := h c cs; ⟨v, w', r, stepsIn_wide.2 s⟩
theorem p0c {K : Act → World → Prop} (hd : ∀ c, o.op ≠ .defer c) (h : o.wp P a w K Q) : o.wpIn (Fence.wide.inRound l) n P a w K Q := by
 refine ⟨fun _ _ => trivial, ?_⟩
 have e : o.semAt (some l) a.eval = execOp a.eval o := Oper.semAt_eq _ _ _ hd
 show o.uponIn (Fence.wide.inRound l) n P a K Q ((o.semAt (some l) a.eval).run P w)
 rw [e]
 unfold Oper.wp at h
 generalize (execOp a.eval o).run P w = r at *
 cases r with
 | ok v w' =>
  cases v with
  | value v => exact h
  | skip => exact h
  | defer d => exact h
  | enter f args => exact ⟨fun h => by simp [Fence.wide] at h, CallsIn.inRound l (callsIn_wide.2 h)⟩
  | row row args => exact ⟨fun h => by simp [Fence.wide] at h, r0J h⟩
  | _ => exact h.elim
 | halt s w' =>
  cases s <;> first | exact h | exact h.elim
theorem h0Q (hQ : ¬ LetsOut Q) : ∀ (rest : List Oper) (a : Act) (w : World), m0C rest = true → wpList P ops Q rest a w → wpListIn (Fence.wide.inRound l) n P ops Q rest a w
 | [], _, _, _, h => h
 | o :: rest, a, w, hd, h => by
  unfold m0C at hd
  rw [List.all_cons, Bool.and_eq_true] at hd
  unfold wpList at h
  unfold wpListIn
  by_cases hw : Region.wanted o (yielded ops a.tmps) = true
  ·rw [if_pos hw] at h ⊢
   rcases h with h | h
   ·exact p0c (p0b hd.1) (Oper.wp_mono (fun a w k => h0Q hQ rest a w hd.2 k) h)
   ·exact absurd h.2 hQ
  ·rw [if_neg hw] at h ⊢
   exact ⟨fun _ _ => trivial, h0Q hQ rest _ w hd.2 h⟩
theorem h0R {id : Nat} {rest : List Oper} (hQ : ¬ LetsOut Q) (hd : m0C rest = true) (h : wpList P rest.toArray Q rest a w) : (Code.region id rest.toArray false).wpIn (Fence.wide.inRound l) n P Q a w :=
 wpIn_region_lit (h0Q hQ rest a w hd h)
theorem g0r {v : Value} (hg : Region.wanted o (yielded ops a.tmps) = true) (_ : ∀ c, o.op ≠ .defer c) (hv : (execOp a.eval o).run P w = .ok (.value v) w) (h : wpListIn Fence.wide n P ops Q rest (a.put o.dst v) w) : wpListIn Fence.wide n P ops Q (o :: rest) a w := by
 unfold wpListIn
 rw [if_pos hg]
 refine ⟨fun _ _ => trivial, ?_⟩
 show o.uponIn Fence.wide n P a _ Q ((o.semAt none a.eval).run P w)
 rw [show o.semAt none a.eval = execOp a.eval o from Oper.semAt_none _ _, hv]
 exact h
theorem p0d {f : FuncId} {tmps : Array Value} {assign body : Code} {R : Ending → World → Prop} (hg : Region.wanted o (yielded ops a.tmps) = true) (hv : (execOp a.eval o).run P w = .ok (.round l f tmps assign body) w)
  (hR : RoundIn Fence.wide (n - 1) P l f tmps assign body w R) (h : ∀ e w', R e w' → ∃ b, e = .returned b ∧ wpListIn Fence.wide n P ops Q rest (a.put o.dst b) w') : wpListIn Fence.wide n P ops Q (o :: rest) a w := by
 unfold wpListIn
 rw [if_pos hg]
 refine ⟨fun _ _ => trivial, ?_⟩
 show o.uponIn Fence.wide n P a _ Q ((o.semAt none a.eval).run P w)
 rw [show o.semAt none a.eval = execOp a.eval o from Oper.semAt_none _ _, hv]
 refine ⟨fun h => by simp [Fence.wide] at h, hR.mono fun e w' k => ?_⟩
 obtain ⟨b, rfl, h2⟩ := h e w' k
 exact h2
theorem i0j (n : Nat) {id : Nat} {rest : List Oper} (h : wpListIn Fence.wide n P rest.toArray Q rest a w) : (Code.region id rest.toArray false).wp P Q a w := wpIn_wide.1 (wpIn_region_lit h)
end Go.Mv
namespace Go.Mv
open Go.RowKit
theorem Fr.grown {a b : World} (h : Fr Nob a b) : a.grownBy b none := ⟨h.os, h.tape, h.output, h.size, fun k hk _ => h.block k hk id⟩
end Go.Mv
namespace Go.Proofs.YtpfimiajoifjaaaGreat
open Go.RowKit Go.Mv Mvp Mvq
theorem t0Q : (Tryz.prog.info? 23).map (fun i => (i.zero, i.size, i.bytes)) = some (some (.slice none 0 0), 1, 24) := by kernel_rfl
theorem z0s (lab b : List UInt8) (i : Nat) : hN lab b i = beN (c0n (h0M ++ lab) [b, [UInt8.ofNat i]]) := by unfold hN hB; rfl
theorem x0e (s : List UInt8) (ls : List (List UInt8)) (w : World) (base : Nat) (v : Value) (h : Go.Mv.Own w base 5 1 v 32 (bs (c0n s ls))) : ∃ a c, v = .slice a 32 c ∧ RdB w a 32 (c0n s ls) := by
 obtain ⟨a, c, rfl, -, hr, -⟩ := h.form
 rw [Nat.mul_one] at hr
 exact ⟨a, c, rfl, hr⟩
theorem B0e (lab b : List UInt8) (i : Nat) (hl : (c0n (h0M ++ lab) [b, [UInt8.ofNat i]]).length = 32) : hN lab b i < B64 ^ 4 := by
 rw [z0s]
 exact e0w _ ap1
theorem x0f (n y : Nat) (h : onC (.A (kc n) (kc y))) : (n0s n y h).L = cw 4 (elN mP n) ++ (cw 4 (elN mP y) ++ cw 4 (elN mP 1)) := rfl
attribute [local irreducible] a0v lw mix cw b0e b0f b0a beN b0l b0b a0z a0F elN mdL b0m rtN rtV b0J gXn gYn PT.L j0V j0x e0G tbL tmR tmL dbN g0G g0q j0W dig rdT b0s c0Q ptL g0u c0z c0m a0T b0c toB a0u a0w a0Y a0E b0Z a0S a0x c0n hB hN f0G d0n atY e0f n0s
theorem p0e {o : Oper} {a : Act} {p q : Operand} {T U : TypeId} {s t : ByteArray} {r : List UInt8} (ho : o.op = .binOp .add T p q U) (hp : a.eval p = .string s) (hq : a.eval q = .string t) (_hT : Tryz.prog.underlying T = some .string) (h : s.size + t.size ≤ 10000000) (hr : s ++ t = mkS r) (w : World) :
  (execOp a.eval o).run Tryz.prog w = .ok (.value (.string (mkS r))) w := by
 have h3 : (binOp .add T (.string s) (.string t)).run Tryz.prog w = .ok (.string (s ++ t)) w := by
  have h4 : s.size + t.size ≤ 9223372036854775807 := by omega
  go_simp
 have h2 := f0U (P := Tryz.prog) ho hp hq w (by go_simp) h3
 rwa [hr] at h2
theorem i0S {w : World} {v : Value} {l : List UInt8} (h : PartIs w v l) : v.cells = #[v] := by
 obtain ⟨a, n, c, rfl, -⟩ := h
 rfl
theorem p0f {l : Nat} {vs : List Value} {nx : Next} {o : Oper} {a : Act} {w : World} {x : Operand} {xs : Array Operand} {ats : Array TypeId} (ho : o.op = .call { callee := .value x, args := xs, argTypes := ats }) (hx : a.eval x = .func (.yield l) #[] #[]) (ha : xs.toList.map a.eval = vs)
  (hy : (Instr.yield l vs.toArray).run Tryz.prog w = .ok nx w) : (execOp a.eval o).run Tryz.prog w = .ok nx w := by
 have ha2 : xs.map a.eval = vs.toArray := by rw [← ha]; simp [← Array.toList_map]
 unfold execOp
 simp only [ho, resolve, hx, ha2]
 simp [invoke, hy, go_sem]
theorem p0g (lab : ByteArray) (hsz : lab.size ≤ 100000) (g2 g3 : Nat) (va : Value) (b : List UInt8) (w : World) (h2 : Has w g2 [.string lab] 9) (h3 : Has w g3 [va] 23) (hb : PartIs w va b) :
  SeqStopsK Fence.wide 2 Tryz.prog 247 #[.pointer (some ⟨g2, 0, none⟩), .pointer (some ⟨g3, 0, none⟩)] (fun x : PT => #[.agg x.L.toArray]) (Below w.heap.size) (fun xs => xs = d0n lab.data.toList b 256) (fun pre => ∃ k x, k < 256 ∧ f0G lab.data.toList b k = some x ∧ pre = d0n lab.data.toList b k ++ [x]) 256 w := by
 intro l J Jx W hW hJ hJx hY h0
 refine callsIn_wide.2 ?_
 show Calls Tryz.prog 247 #[.func (.yield l) #[] #[], .pointer (some ⟨g2, 0, none⟩), .pointer (some ⟨g3, 0, none⟩)] W _
 have HY := qH hY
 have HJ := qH hJ
 have HJX := qH hJx
 have H0 := qH h0
 have HW := qH (Fr.ofBelow hW)
 have H2 := qH h2
 have H3 := qH h3
 have HB := qH hb
 have HSZ := qH hsz
 clear hY hJ hJx h0 hW h2 h3 hb hsz
 go_enter Tryz.func247, Tryz.ntmps247
 go_wp2
 go_loopw [8] (fun v wr => ∃ k : Nat, k ≤ 256 ∧ v = .int .i64 (k : Int) ∧ J (d0n lab.data.toList b k) wr ∧ Fr Nob w wr ∧ W.heap.size ≤ wr.heap.size) (fun v _ => 256 - (intOf v).toNat)
 case atStart => exact ⟨0, Nat.zero_le _, rfl, by rw [o0X]; exact H0.out, HW.out, Nat.le_refl _⟩
 case round =>
  obtain ⟨k, hk, rfl, hJk, hfk, hWk⟩ := hrel
  have HJK := qH hJk
  have HFK := qH hfk
  have HWK := qH hWk
  clear hJk hfk hWk
  by_cases hlt : k < 256
  ·have hltI : (k : Int) < 256 := by omega
   have hk0 : (0 : Int) ≤ (k : Int) := by omega
   have hk8 : (k : Int) % 256 = (k : Int) := by omega
   have HLT := qH hlt
   clear hlt hk
   have hc2 := (H2.out.keep HFK.out id).cell (show [Value.string lab][0]? = _ from rfl)
   have hc3 := (H3.out.keep HFK.out id).cell (show [va][0]? = _ from rfl)
   go_wp2_with (with_reducible refine wSk 12 ?_)
   refine m0i rfl (p0e rfl rfl rfl Tryz.underlying9 (by have h : (⟨#[112, 111, 105, 110, 116, 32]⟩ : ByteArray).size = 6 := rfl; rw [h]; have := HSZ.out; omega) (x0d lab) _) ?_
   go_wp2_with (with_reducible refine wSk 16 ?_)
   refine d0K rfl rfl Tryz.underlying23 d0g [.int .u8 (k : Int)] rfl (by intro u hu; simp only [List.mem_singleton] at hu; subst hu; rfl) rfl rfl ?_
   intro wa hga hfa hza
   clear hza hc2 hc3
   have hgb : Has wa wr.heap.size (bs [UInt8.ofNat k]) 5 := by
    have e : [Value.int .u8 (k : Int)] = bs [UInt8.ofNat k] := by
     show _ = [Value.int .u8 ((UInt8.ofNat k).toNat : Int)]
     rw [UInt8.toNat_ofNat', Nat.mod_eq_of_lt HLT.out]
    rw [e] at hga
    exact hga
   have hpb : PartIs wa (.slice (some ⟨wr.heap.size, 0, none⟩) 1 1) [UInt8.ofNat k] := ⟨_, 1, 1, rfl, Nat.le_refl _, by omega, Rd.whole hgb, fun x hx => by simp only [Option.some.injEq] at hx; subst hx; exact hgb.lt⟩
   have HPB := qH hpb
   have HFA := qH hfa
   have HPA := qH (HB.out.still (HFK.out.then hfa))
   have HVC := qH (i0S HB.out)
   clear hga hfa hgb hpb
   generalize hg16 : wr.heap.size = g16 at *
   have HG16 := qH hg16
   clear hg16
   go_wp2_with (with_reducible refine wSk 17 ?_)
   refine d0K (vs := [va, .slice (some ⟨g16, 0, none⟩) 1 1]) (hgd := rfl) (ho := rfl) (hu := Tryz.underlying24) (hi0 := t0Q) (hp := by rfl) (hv := fun u hu => by
    simp only [List.mem_cons, List.not_mem_nil, or_false] at hu
    rcases hu with rfl | rfl
    ·exact HVC.out
    ·rfl) (hk := by rfl) (hz := by rfl) (h := ?_)
   intro wb hgb hfb hzb
   clear hzb
   have hps : Parts wb [va, .slice (some ⟨g16, 0, none⟩) 1 1] [b, [UInt8.ofNat k]] := ⟨HPA.out.still hfb, HPB.out.still hfb, trivial⟩
   have HPS := qH (hps.at hgb)
   have HFB := qH (HFA.out.then hfb)
   clear hgb hfb hps HPA HPB HFA
   generalize wa.heap.size = g17 at *
   go_wp2_with fail
   refine (v0M (mkS (h0M ++ lab.data.toList)) _ _ [b, [UInt8.ofNat k]] _ (by rw [m0O]; have := HSZ.out; simp [h0M]; omega) ap4 HPS.out).mono ?_
   rintro e wc ⟨vt, rfl, ho, hf⟩
   rw [i0n] at ho
   obtain ⟨at_, ct, hvt, hrt⟩ := x0e _ _ _ _ _ ho
   subst hvt
   have HRT := qH hrt
   have HFC := qH (HFB.out.then hf)
   clear ho hf hrt HFB HPS
   have hnl := B0e lab.data.toList b k (by have := HRT.out.len; exact this)
   have hni := z0s lab.data.toList b k
   generalize hn : hN lab.data.toList b k = n at *
   have HNL := qH hnl
   have HNN := qH hn
   have HNI := qH hni
   clear hnl hn hni
   go_wp2_with fail
   refine (b0T at_ 32 ct _ _ HRT.out ap2).mono ?_
   rintro e wd ⟨rfl, hf⟩
   rw [← HNI.out]
   have HFD := qH (HFC.out.then hf)
   clear hf HFC HRT
   have st0 := St.start Nob wd
   go_wp2_with (with_reducible refine wSk 5 ?_)
   refine a0b st0 rfl rfl (z := zAd) ap0 (cw 4 0) ap5 ?_
   intro g5 w1 st1
   clear st0
   go_wp2_with (with_reducible refine wSn ?_)
   refine a0c st1 0 rfl rfl rfl rfl rfl ap12 ap10 (a0f _ _) ?_
   intro w2 st2
   clear st1
   by_cases hd : n < mP.M
   ·have HD := qH (show decide (n < mP.M) = true from decide_eq_true hd)
    have HLM := qH hd
    clear hd
    go_wp2_with fail
    refine wp_region_noPanic ?_
    refine a0k st2 9 [.t 0, .c 1, .w 2, .w 3, .c 4, .w 5, .w 6, .c 7, .c 8] (.m 9 .nil) ap0 ap0 (fun _ _ _ _ _ h => h) ?_
    clear st2
    refine a0j rfl rfl rfl (fun _ => rfl) (cw 4 n) (fun wx hS => St.rangeL hS 0 rfl 0 _ dZl) Tryz.underlying167 rfl ap10 ?_
    try simp only [clL]
    refine c0c (X := Nat × Nat) (fun y => .pointer (some ⟨y.1, 0, none⟩)) (fun y w => Has w y.1 (d0v mP y.2 gXn gYn) 184 ∧ Has w y.2 (mdL mP) 234) (fun _ _ _ h k => ⟨h.1.keep k id, h.2.keep k id⟩) rfl rfl rfl Tryz.call108 (fun w hS hR => h0O _) (fun _ => rfl) fun y1 => ?_
    try simp only [clL]
    refine a0n rfl rfl apX ?_
    try simp only [clL]
    refine a0n rfl rfl apX ?_
    try simp only [clL]
    refine o0h (v := ?_) rfl rfl (fun xq wx hS hR => ?_) ?_
    rotate_left 1
    ·(have hc := (hR.2).1.cell (show (d0v mP y1.2 gXn gYn)[0]? = some (.pointer (some ⟨y1.2, 0, none⟩)) from rfl); clear hS hR; go_simp; with_reducible rfl)
    try simp only [clL]
    refine a0n rfl rfl apX ?_
    try simp only [clL]
    refine a0n rfl rfl apX ?_
    try simp only [clL]
    refine o0h (v := ?_) rfl rfl (fun xq wx hS hR => ?_) ?_
    rotate_left 1
    ·(refine g0c (hR.2).2 (x := .tmp 26) (p := 0) ?_ ?_ (cw 4 mP.M) (j0U mP) Tryz.underlying167 rfl ?_; rfl; rfl; (rw [a0g]; kernel_rfl))
    try simp only [clL]
    refine a0l rfl rfl rfl Tryz.call159 (fun w hS hR => e0Y n mP.M _ HNL.out c0N.lt true HD.out) (fun _ => rfl) ?_
    try simp only [clL]
    refine a0J fun xq w3 st3 hR => ?_
    try dsimp only
    clear hR xq
    refine a0o rfl rfl ?_
    go_simp
    try simp only [clL]
    refine a0e ?_
    refine NoPanic.normal ?_
    rcases hr : b0J mP.M (e0f n) with _ | _
    ·have HR := qH hr
     have HC := qH (n0K HNN.out (fun h => by rw [hr] at h; exact absurd h.2 ap2))
     clear hr
     go_wp2_with fail
     refine wp_region_noPanic ?_
     refine a0k st3 13 [.o 11, .t 5, .c 0, .c 1, .w 2, .w 3, .c 4, .c 6, .c 7, .w 8, .w 9, .w 10, .j 11] (.r 12 (.m 13 .nil)) ap0 ap0 (fun _ _ _ _ _ h => h) ?_
     clear st3
     refine c0K rfl rfl rfl A0E (cw 12 0) rfl ?_
     try simp only [clL]
     refine a0j rfl rfl rfl (fun _ => rfl) (cw 4 n) (fun wx hS => St.rangeL hS 0 rfl 0 _ dZl) Tryz.underlying167 rfl ap10 ?_
     try simp only [clL]
     refine c0c (X := Nat × Nat) (fun y => .pointer (some ⟨y.1, 0, none⟩)) (fun y w => Has w y.1 (d0v mP y.2 gXn gYn) 184 ∧ Has w y.2 (mdL mP) 234) (fun _ _ _ h k => ⟨h.1.keep k id, h.2.keep k id⟩) rfl rfl rfl Tryz.call108 (fun w hS hR => h0O _) (fun _ => rfl) fun y2 => ?_
     try simp only [clL]
     refine c0c (X := Nat × Nat) (fun y => .pointer (some ⟨y.1, 0, none⟩)) (fun y w => Has w y.1 (d0v mP y.2 gXn gYn) 184 ∧ Has w y.2 (mdL mP) 234) (fun _ _ _ h k => ⟨h.1.keep k id, h.2.keep k id⟩) rfl rfl rfl Tryz.call108 (fun w hS hR => h0O _) (fun _ => rfl) fun y3 => ?_
     try simp only [clL]
     refine a0n rfl rfl apX ?_
     try simp only [clL]
     refine a0n rfl rfl apX ?_
     try simp only [clL]
     refine o0h (v := ?_) rfl rfl (fun xq wx hS hR => ?_) ?_
     rotate_left 1
     ·(have hc := (hR.2).1.cell (show (d0v mP y3.2 gXn gYn)[0]? = some (.pointer (some ⟨y3.2, 0, none⟩)) from rfl); clear hS hR; go_simp; with_reducible rfl)
     try simp only [clL]
     refine a0l rfl rfl rfl Tryz.call160 (fun w hS hR => c0O mP y3.2 _ c0N hR.2.2 n HNL.out) (fun _ => rfl) ?_
     try simp only [clL]
     refine a0l rfl rfl rfl Tryz.call225 (fun w hS hR => u0S mP y2.1 y2.2 gXn gYn _ c0N hR.1.2.1 hR.1.2.2 n false HR.out) (fun _ => rfl) ?_
     try simp only [clL]
     refine a0n rfl rfl apX ?_
     try simp only [clL]
     refine a0n rfl rfl apX ?_
     try simp only [clL]
     refine a0n rfl rfl apX ?_
     try simp only [clL]
     refine c0A List.mem_cons_self fun g6 => ?_
     simp only [upd, reduceIte]
     try simp only [Nat.reduceEqDiff, reduceIte]
     refine a0J fun xq w4 st4 hR => ?_
     try dsimp only
     clear hR xq
     refine a0q rfl rfl ?_
     refine a0i st4 1 rfl rfl rfl rfl ap12 ap3 (b0p _ _ _) ?_
     intro w5 st5
     repeat (first | simp only [List.cons_append] at st5 | simp only [List.nil_append] at st5 | simp only [List.set_cons_succ] at st5 | simp only [List.set_cons_zero] at st5)
     clear st4
     refine ⟨by first | exact st5 | exact St.less st5 ap4, ?_⟩
     try simp only [Act.put]
     refine a0o rfl rfl ?_
     go_simp
     try simp only [clL]
     refine a0e ?_
     refine NoPanic.normal ?_
     have HFE := qH (HFD.out.then st5.fr)
     clear st5
     go_wp2_with fail
     go_roundw
     case rel => exact ⟨k + 1, by have := HLT.out; omega, by go_num, by rw [j0O HC.out]; exact HJ.out _ _ _ none HJK.out HFE.out.grown (fun r e => by cases e), HFK.out.then HFE.out, Nat.le_trans (by have h := HWK.out; rw [← HG16.out] at h; exact h) HFE.out.size⟩
     case measure => have := HLT.out; simp [intOf]; omega
    ·have HR := qH hr
     have hon := A0s hr
     have HC := qH (show f0G lab.data.toList b k = some (n0s n (atY mP.M n) hon) from r0H HNN.out HLM.out hr)
     clear hr
     go_wp2_with fail
     refine wp_region_noPanic ?_
     refine a0k st3 13 [.o 11, .t 5, .c 0, .c 1, .w 2, .w 3, .c 4, .c 6, .c 7, .w 8, .w 9, .w 10, .j 11] (.r 12 (.m 13 .nil)) ap0 ap0 (fun _ _ _ _ _ h => h) ?_
     clear st3
     refine c0K rfl rfl rfl A0E (cw 12 0) rfl ?_
     try simp only [clL]
     refine a0j rfl rfl rfl (fun _ => rfl) (cw 4 n) (fun wx hS => St.rangeL hS 0 rfl 0 _ dZl) Tryz.underlying167 rfl ap10 ?_
     try simp only [clL]
     refine c0c (X := Nat × Nat) (fun y => .pointer (some ⟨y.1, 0, none⟩)) (fun y w => Has w y.1 (d0v mP y.2 gXn gYn) 184 ∧ Has w y.2 (mdL mP) 234) (fun _ _ _ h k => ⟨h.1.keep k id, h.2.keep k id⟩) rfl rfl rfl Tryz.call108 (fun w hS hR => h0O _) (fun _ => rfl) fun y2 => ?_
     try simp only [clL]
     refine c0c (X := Nat × Nat) (fun y => .pointer (some ⟨y.1, 0, none⟩)) (fun y w => Has w y.1 (d0v mP y.2 gXn gYn) 184 ∧ Has w y.2 (mdL mP) 234) (fun _ _ _ h k => ⟨h.1.keep k id, h.2.keep k id⟩) rfl rfl rfl Tryz.call108 (fun w hS hR => h0O _) (fun _ => rfl) fun y3 => ?_
     try simp only [clL]
     refine a0n rfl rfl apX ?_
     try simp only [clL]
     refine a0n rfl rfl apX ?_
     try simp only [clL]
     refine o0h (v := ?_) rfl rfl (fun xq wx hS hR => ?_) ?_
     rotate_left 1
     ·(have hc := (hR.2).1.cell (show (d0v mP y3.2 gXn gYn)[0]? = some (.pointer (some ⟨y3.2, 0, none⟩)) from rfl); clear hS hR; go_simp; with_reducible rfl)
     try simp only [clL]
     refine a0l rfl rfl rfl Tryz.call160 (fun w hS hR => c0O mP y3.2 _ c0N hR.2.2 n HNL.out) (fun _ => rfl) ?_
     try simp only [clL]
     refine a0l rfl rfl rfl Tryz.call225 (fun w hS hR => u0S mP y2.1 y2.2 gXn gYn _ c0N hR.1.2.1 hR.1.2.2 n true HR.out) (fun _ => rfl) ?_
     try simp only [clL]
     refine a0n rfl rfl apX ?_
     try simp only [clL]
     refine a0n rfl rfl apX ?_
     try simp only [clL]
     refine a0n rfl rfl apX ?_
     try simp only [clL]
     refine c0A List.mem_cons_self fun g6 => ?_
     simp only [upd, reduceIte]
     try simp only [Nat.reduceEqDiff, reduceIte]
     refine a0J fun xq w4 st4 hR => ?_
     try dsimp only
     clear hR xq
     refine a0q rfl rfl ?_
     refine a0i st4 1 rfl rfl rfl rfl ap12 ap3 (b0p _ _ _) ?_
     intro w5 st5
     repeat (first | simp only [List.cons_append] at st5 | simp only [List.nil_append] at st5 | simp only [List.set_cons_succ] at st5 | simp only [List.set_cons_zero] at st5)
     clear st4
     refine ⟨by first | exact st5 | exact St.less st5 ap4, ?_⟩
     try simp only [Act.put]
     refine a0o rfl rfl ?_
     go_simp
     try simp only [clL]
     refine a0e ?_
     refine NoPanic.normal ?_
     have HAF := qH (x0f n (atY mP.M n) hon)
     have HFE := qH (HFD.out.then st5.fr)
     obtain ⟨fnn, tmps, assign, body, hy, hR⟩ := HY.out (d0n lab.data.toList b k) (n0s n (atY mP.M n) hon) w5 (HJ.out _ _ _ none HJK.out HFE.out.grown (fun r e => by cases e)) (Nat.lt_of_le_of_lt (r0I _ _ _) HLT.out)
     rw [HAF.out] at hy
     have HHY := qH hy
     have HRR := qH hR
     have HPT := qH (st5.at 1 rfl)
     clear hy hR st5
     go_upto_region 6 with fail
     refine i0j 2 ?_
     refine g0r rfl (fun c h => by cases h) (by go_simp; with_reducible rfl) ?_
     try simp only [clL]
     refine g0r rfl (fun c h => by cases h) (by go_simp; with_reducible rfl) ?_
     try simp only [clL]
     refine g0r rfl (fun c h => by cases h) (by go_simp; with_reducible rfl) ?_
     try simp only [clL]
     refine g0r rfl (fun c h => by cases h) (g0c HPT.out rfl rfl (cw 4 (elN mP n) ++ (cw 4 (elN mP (atY mP.M n)) ++ cw 4 (elN mP 1))) dZl Tryz.underlying174 rfl ap3) ?_
     try simp only [clL]
     refine p0d rfl (p0f (vs := [.agg (cw 4 (elN mP n) ++ (cw 4 (elN mP (atY mP.M n)) ++ cw 4 (elN mP 1))).toArray]) rfl rfl rfl HHY.out) HRR.out ?_
     rintro e W3 (⟨rfl, hJ3, hK3⟩ | ⟨rfl, hJx3⟩)
     ·refine ⟨_, rfl, ?_⟩
      try simp only [clL]
      refine g0r rfl (fun c h => by cases h) (by go_simp; with_reducible rfl) ?_
      try simp only [clL]
      refine g0r rfl (fun c h => by cases h) (by go_simp; with_reducible rfl) ?_
      try simp only [clL]
      refine wpListIn_nil ?_
      have hF3 : Fr Nob w W3 := Fr.ofBelow ((HFK.out.then HFE.out).below.trans hK3)
      have HF3 := qH hF3
      have HS3 := qH (Nat.le_trans (by have h := HWK.out; rw [← HG16.out] at h; exact h) (Nat.le_trans HFE.out.size hK3.size))
      have HJ3 := qH hJ3
      clear hJ3 hK3 hF3
      go_wp2_with fail
      go_roundw
      case rel => exact ⟨k + 1, by have := HLT.out; omega, by go_num, by rw [h0N HC.out]; exact HJ3.out, HF3.out, HS3.out⟩
      case measure => have := HLT.out; simp [intOf]; omega
     ·refine ⟨_, rfl, ?_⟩
      try simp only [clL]
      refine g0r rfl (fun c h => by cases h) (by go_simp; with_reducible rfl) ?_
      try simp only [clL]
      refine g0r rfl (fun c h => by cases h) (by go_simp; with_reducible rfl) ?_
      try simp only [clL]
      refine wpListIn_nil ?_
      have HJX3 := qH hJx3
      clear hJx3
      go_wp2_with fail
      refine bodyPost_ret (results_none rfl _ _ _) rfl ?_
      exact ⟨⟨_, rfl⟩, .inr ⟨_, ⟨k, _, HLT.out, HC.out, rfl⟩, HJX3.out⟩⟩
   ·have HD := qH (show decide (n < mP.M) = false from decide_eq_false hd)
    have HC := qH (n0K HNN.out (fun h => hd h.1))
    clear hd
    go_wp2_with fail
    refine wp_region_noPanic ?_
    refine a0k st2 9 [.t 0, .c 1, .w 2, .w 3, .c 4, .w 5, .w 6, .c 7, .c 8] (.m 9 .nil) ap0 ap0 (fun _ _ _ _ _ h => h) ?_
    clear st2
    refine a0j rfl rfl rfl (fun _ => rfl) (cw 4 n) (fun wx hS => St.rangeL hS 0 rfl 0 _ dZl) Tryz.underlying167 rfl ap10 ?_
    try simp only [clL]
    refine c0c (X := Nat × Nat) (fun y => .pointer (some ⟨y.1, 0, none⟩)) (fun y w => Has w y.1 (d0v mP y.2 gXn gYn) 184 ∧ Has w y.2 (mdL mP) 234) (fun _ _ _ h k => ⟨h.1.keep k id, h.2.keep k id⟩) rfl rfl rfl Tryz.call108 (fun w hS hR => h0O _) (fun _ => rfl) fun y1 => ?_
    try simp only [clL]
    refine a0n rfl rfl apX ?_
    try simp only [clL]
    refine a0n rfl rfl apX ?_
    try simp only [clL]
    refine o0h (v := ?_) rfl rfl (fun xq wx hS hR => ?_) ?_
    rotate_left 1
    ·(have hc := (hR.2).1.cell (show (d0v mP y1.2 gXn gYn)[0]? = some (.pointer (some ⟨y1.2, 0, none⟩)) from rfl); clear hS hR; go_simp; with_reducible rfl)
    try simp only [clL]
    refine a0n rfl rfl apX ?_
    try simp only [clL]
    refine a0n rfl rfl apX ?_
    try simp only [clL]
    refine o0h (v := ?_) rfl rfl (fun xq wx hS hR => ?_) ?_
    rotate_left 1
    ·(refine g0c (hR.2).2 (x := .tmp 26) (p := 0) ?_ ?_ (cw 4 mP.M) (j0U mP) Tryz.underlying167 rfl ?_; rfl; rfl; (rw [a0g]; kernel_rfl))
    try simp only [clL]
    refine a0l rfl rfl rfl Tryz.call159 (fun w hS hR => e0Y n mP.M _ HNL.out c0N.lt false HD.out) (fun _ => rfl) ?_
    try simp only [clL]
    refine a0J fun xq w3 st3 hR => ?_
    try dsimp only
    clear hR xq
    refine a0o rfl rfl ?_
    go_simp
    try simp only [clL]
    refine a0e ?_
    refine NoPanic.normal ?_
    have HFE := qH (HFD.out.then st3.fr)
    clear st3
    go_wp2_with fail
    go_roundw
    case rel => exact ⟨k + 1, by have := HLT.out; omega, by go_num, by rw [j0O HC.out]; exact HJ.out _ _ _ none HJK.out HFE.out.grown (fun r e => by cases e), HFK.out.then HFE.out, Nat.le_trans (by have h := HWK.out; rw [← HG16.out] at h; exact h) HFE.out.size⟩
    case measure => have := HLT.out; simp [intOf]; omega
  ·have hge : ¬ ((k : Int) < 256) := by omega
   have hk6 : k = 256 := by omega
   subst hk6
   clear hk hlt
   go_wp2_with fail
   go_end0
   first | exact ⟨⟨_, rfl⟩, .inl HJK.out⟩ | exact ⟨⟨_, rfl⟩, .inl ⟨_, rfl, HJK.out⟩⟩
end Go.Proofs.YtpfimiajoifjaaaGreat
namespace Go.Mv
open Go.RowKit
theorem d0o {β : Type} (B g : Nat) (L : List Value) (T : TypeId) : OwnFrom B (fun (_ : β) W => Has W g L T) := fun _ X Y row hs hg hr =>
 Has.keep hs (Fr.ofGrown hg) (fun e => by
  obtain ⟨_, o, ho, hc⟩ := hr g e
  obtain ⟨lo, hi, h, -⟩ := hs
  rw [h] at ho
  cases ho
  cases hc)
theorem e0E {β : Type} {B : Nat} {w : World} (hB : w.heap.size ≤ B) : OwnFrom B (fun (_ : β) W => Fr Nob w W) := fun _ X Y row hs hg hr =>
 hs.trans (Fr.ofGrown hg) (fun i hi t => by
  have h := (hr i t).1
  omega)
theorem l0g {β : Type} (B n : Nat) : OwnFrom B (fun (_ : β) (W : World) => n ≤ W.heap.size) := fun _ _ _ _ hs hg _ => Nat.le_trans hs hg.size
theorem n0L {B : Nat} {W W' : World} (h : Fr Nob W W') : KeepsFrom B W W' :=
 ⟨h.size, fun k _ _ hk _ => (h.block k (Array.getElem?_eq_some_iff.1 hk).1 id).trans hk⟩
theorem l0h {B g : Nat} {W W' : World} (h : Fr (One g) W W') (hg : g < B) : KeepsFrom B W W' :=
 ⟨h.size, fun k o hB hk _ => (h.block k (Array.getElem?_eq_some_iff.1 hk).1 (fun e => by have : k = g := e; omega)).trans hk⟩
theorem x0g (t : Array Value) (p : Tmp) (v : Value) : (#[p].zip #[v]).foldl (fun t (p, v) => t.setIfInBounds p v) t = t.setIfInBounds p v := by simp
theorem v0d {K : Act → World → Prop} {Q : Exit → Act → World → Prop} (h : ∀ a w, ¬ Q .outgrown a w) : ¬ LetsOut (Exit.then K Q) := by
 rintro ⟨a, w, k⟩
 exact h a w k
end Go.Mv
namespace Go.Proofs.YtpfimiajoifjaaaGreat
section
open Go.RowKit Go.Mv Mvp Mvq
theorem A0L : (Tryz.prog.info? 174).map (·.zero) = some (some (.agg (List.replicate 12 (.int .u64 0)).toArray)) := by kernel_rfl
attribute [local irreducible] a0v lw mix cw b0e b0f b0a beN b0l b0b a0z a0F elN mdL b0m rtN rtV b0J gXn gYn PT.L j0V j0x e0G tbL tmR tmL dbN g0G g0q j0W dig rdT b0s c0Q ptL g0u c0z c0m c0n hB hN f0G d0n c0G atY e0f n0s
theorem x0h (lab : ByteArray) (va : Value) (hva : va.cells = #[va]) (w : World) : Calls Tryz.prog 196 #[.string lab, va] w fun e w' => ∃ g2 g3, e = .returned (.func (.func 247) #[] #[.pointer (some ⟨g2, 0, none⟩), .pointer (some ⟨g3, 0, none⟩)]) ∧ Has w' g2 [.string lab] 9 ∧ Has w' g3 [va] 23 ∧ Fr Nob w w' := by
 have HVA := qH hva
 clear hva
 have st0 := St.start Nob w
 go_enter Tryz.func196, Tryz.ntmps196
 go_wp2_with (with_reducible refine wSk 2 ?_)
 refine a0r st0 rfl rfl rfl [.string lab] rfl ?_
 intro g2 w1 st1
 clear st0
 unfold Act.put
 go_wp2_with (with_reducible refine wSk 3 ?_)
 refine a0r st1 rfl rfl rfl [va] (by show va.cells.toList = [va]; rw [HVA.out]) ?_
 intro g3 w2 st2
 clear st1
 have H2 := qH (st2.at 0 rfl)
 have H3 := qH (st2.at 1 rfl)
 have HF := qH st2.fr
 clear st2
 go_wp2_with fail
 go_ret
 exact ⟨g2, g3, rfl, H2.out, H3.out, HF.out⟩
theorem t0R (lab : ByteArray) (hsz : lab.size ≤ 100000) (va : Value) (b : List UInt8) (w : World) (hb : PartIs w va b) :
  Calls Tryz.prog 112 #[.string lab, va] w fun e w' => e = .returned (.agg (c0G lab.data.toList b).L.toArray) ∧ Fr Nob w w' := by
 have HSZ := qH hsz
 have HB := qH hb
 have HVA := qH (i0S hb)
 clear hsz hb
 have st0 := St.start Nob w
 refine (callsIn_wide (n := 3)).1 ?_
 refine callsIn_of_wp_marks Tryz.func112 rfl trivial ?_ rfl
 simp only [Tryz.ntmps112, List.size_toArray, List.length_cons, List.length_nil, Nat.reduceAdd, Nat.reduceSub, Array.replicate_succ, Array.replicate_zero, List.push_toArray, List.append_toArray, List.nil_append, List.cons_append]
 refine wpIn_wide.2 ?_
 go_wp2_with (with_reducible refine wSk 4 ?_)
 refine a0b st0 rfl rfl A0L (cw 12 0) ap5 ?_
 intro g4 w1 st1
 clear st0
 go_wp2_with fail
 refine (x0h lab va HVA.out _).mono ?_
 rintro e w2 ⟨g2, g3, rfl, hg2, hg3, hf2⟩
 have st2 := st1.keep hf2
 have HG2 := qH hg2
 have HG3 := qH hg3
 clear st1 hf2 hg2 hg3
 have H4 := qH (st2.at 0 rfl)
 have HGE := qH ((st2.own _ List.mem_cons_self).resolve_right (fun h => h.elim))
 have HF := qH st2.fr
 have HLT := qH (st2.at 0 rfl).lt
 clear st2
 go_wp2_with fail
 refine (wpIn_wide (n := 3)).1 ?_
 refine wpIn_rangeFunc_ownH (F := Fence.wide) rfl ap1 (gf := 247) (lb := #[.pointer (some ⟨g2, 0, none⟩), .pointer (some ⟨g3, 0, none⟩)]) rfl trivial (enters_of Tryz.func247 ap0 rfl)
  (p0g lab HSZ.out g2 g3 va b w2 HG2.out HG3.out (HB.out.still HF.out)) belowK_t (belowK_b (Nat.le_refl _)) (Below.refl _ _) (fun _ => rfl)
  (fun pre W => pre = [] ∧ (Has W g4 (cw 12 0) 174 ∧ (Fr Nob w W ∧ w2.heap.size ≤ W.heap.size)))
  (fun c pre W => c = .ret ∧ ∃ x : PT, pre = [x] ∧ (Has W g4 x.L 174 ∧ Fr Nob w W))
  (OwnFrom.and (ownFrom_pure _ _) (OwnFrom.and (d0o _ _ _ _) (OwnFrom.and (e0E HF.out.size) (l0g _ _))))
  (fun c s X Y row hs hg hr => by
   obtain ⟨h1, x, h2, h3, h4⟩ := hs
   exact ⟨h1, x, h2, d0o (β := Unit) _ g4 x.L _ () X Y row h3 hg hr, e0E (β := Unit) HF.out.size () X Y row h4 hg hr⟩)
  ⟨rfl, H4.out, HF.out, Nat.le_refl _⟩
  (fun x a' W => ∃ Bx, Has W Bx x.L 174 ∧ a' = { tmps := #[.string lab, va, undef, undef, .pointer (some ⟨g4, 0, none⟩), .pointer (some ⟨Bx, 0, none⟩), .string lab, va, .func (.func 247) #[] #[.pointer (some ⟨g2, 0, none⟩), .pointer (some ⟨g3, 0, none⟩)], .agg x.L.toArray, undef, undef, undef, undef, undef], defers := [] })
  (fun x a' s X Y row hs hg hr => by
   obtain ⟨Bx, h1, h2⟩ := hs
   exact ⟨Bx, d0o (β := Unit) _ Bx x.L _ () X Y row h1 hg hr, h2⟩)
  ?assign ?body ?done ?stop
 case assign =>
  rintro l pre x W K ⟨rfl, h4, hfr, hsz⟩ hK
  refine h0R (v0d fun _ _ h => h) rfl ?_
  have st := St.start Nob W
  have HK := qH hK
  have H4 := qH h4
  have HFR := qH hfr
  have HS := qH hsz
  clear hK h4 hfr hsz
  rw [x0g]
  simp only [List.setIfInBounds_toArray, List.set_cons_zero, List.set_cons_succ]
  refine a0b st rfl rfl A0L (cw 12 0) ap5 ?_
  intro gx W1 s1
  try simp only [clL]
  refine a0c s1 0 rfl rfl rfl rfl rfl (by rw [a0g, PT.len]) (by rw [PT.len]; kernel_rfl) (PT.one _) ?_
  intro W2 s2
  try simp only [Act.put]
  refine wpList_nil ?_
  have hf := s2.fr
  exact HK.out _ _ (n0L hf) (hf.below.mono HS.out) ⟨rfl, H4.out.keep hf id, HFR.out.then hf, Nat.le_trans HS.out hf.size⟩ ⟨gx, s2.at 0 rfl, rfl⟩
 case body =>
  rintro l pre x a' W hl hr ⟨rfl, h4, hfr, hsz⟩ ⟨Bx, hx, rfl⟩ hlt
  refine wpIn_block (wpIn_seq ?_)
  refine h0R (v0d fun _ _ h => h) rfl ?_
  have st := St.one h4
  have HX := qH hx
  have HFR := qH hfr
  clear hr hx h4 hfr
  refine d0L rfl rfl Tryz.underlying174 rfl rfl (cs := x.L) (fun i v hv => HX.out.range 0 _ dZl i v hv) (by rw [PT.len]; kernel_rfl) ?_
  try simp only [clL]
  refine a0c st 0 rfl rfl rfl rfl rfl (by rw [a0g, PT.len]) (by rw [PT.len]; kernel_rfl) (PT.one _) ?_
  intro W2 s2
  try simp only [Act.put]
  refine wpList_nil ?_
  refine wpIn_ret ?_
  exact ⟨l0h s2.fr HLT.out, rfl, x, rfl, s2.at 0 rfl, HFR.out.new s2.fr HGE.out⟩
 case done =>
  rintro D xs W hD hS ⟨rfl, h4, hfr, hsz⟩ hK
  have HS := qH (o0Z hS.symm)
  have st := (St.start Nob w)
  have HFR := qH hfr
  have H4' := qH h4
  have HD := qH hK
  have HDD := qH hD
  clear hS h4 hfr hsz hK hD st
  go_wp2_with fail
  refine (h0O _).mono ?_
  rintro e w3 ⟨y, rfl, ⟨hc, hm⟩, hf⟩
  have HC := qH hc
  have HF3 := qH hf
  clear hc hm hf
  go_wp2_with (with_reducible refine wSk 14 ?_)
  refine d0L rfl rfl Tryz.underlying174 rfl rfl (cs := q0X.L) (fun i v hv => HC.out.range 5 _ o0R i v hv) (by rw [PT.len]; kernel_rfl) ?_
  have st := St.one (H4'.out.keep HF3.out id)
  go_wp2_with (with_reducible refine wSn ?_)
  refine a0c st 0 rfl rfl rfl rfl rfl (by rw [a0g, PT.len]) (by rw [PT.len]; kernel_rfl) (PT.one _) ?_
  intro w5 s5
  have HF5 := qH s5.fr
  have H5 := qH (s5.at 0 rfl)
  clear st s5
  go_wp2_with fail
  have hD3 := (n0L (B := w2.heap.size) HF3.out).same D _ HDD.out HD.out rfl
  have hD5 := (l0h HF5.out HLT.out).same D _ HDD.out hD3 rfl
  refine ⟨by simp, .inl ⟨_, _, rfl, run_takeDeferred hD5, ?_⟩⟩
  have hfin := (d0o (β := Unit) 0 g4 _ _).putObj (s := ()) (.deferred none) H5.out (Nat.zero_le _) hD5 rfl
  refine ⟨_, a0y rfl rfl hfin Tryz.underlying174 rfl (by rw [PT.len]; kernel_rfl), by rw [HS.out], ?_⟩
  exact (e0E (β := Unit) (B := w2.heap.size) HF.out.size).putObj (s := ()) (.deferred none) ((HFR.out.then HF3.out).new HF5.out HGE.out) HDD.out hD5 rfl
 case stop =>
  rintro D c pre W hD ⟨k, x', hk, hc, hp⟩ ⟨rfl, x, rfl, h4, hfr⟩ hK
  have hnil : d0n lab.data.toList b k = [] := by
   cases hq : d0n lab.data.toList b k with
   | nil => rfl
   | cons y ys =>
    rw [hq] at hp
    have := congrArg List.length hp
    simp at this
  rw [hnil] at hp
  have hxx : x = x' := by simpa using hp
  subst hxx
  have HS := qH (p0a hk hc hnil)
  refine wpIn_ret ?_
  refine ⟨by simp, .inl ⟨_, _, rfl, run_takeDeferred hK, ?_⟩⟩
  have hfin := (d0o (β := Unit) 0 g4 _ _).putObj (s := ()) (.deferred none) h4 (Nat.zero_le _) hK rfl
  refine ⟨_, a0y rfl rfl hfin Tryz.underlying174 rfl (by rw [PT.len]; kernel_rfl), by rw [HS.out], ?_⟩
  exact (e0E (β := Unit) (B := w2.heap.size) HF.out.size).putObj (s := ()) (.deferred none) hfr hD hK rfl
end
section
open Go.RowKit Go.Mv Mvp Mvq
theorem z0t (w : World) : Calls Tryz.prog 108 #[] w fun e w' => ∃ gc : Nat, e = .returned (.pointer (some ⟨gc, 0, none⟩)) ∧ Cv w' gc ∧ Fr Nob w w' :=
 (f0B w).mono fun _ _ ⟨gc, k1, _, k2, k3⟩ => ⟨gc, k1, k2, k3⟩
attribute [local irreducible] a0v lw mix cw b0e b0f b0a beN b0l b0b a0z a0F elN mdL b0m rtN rtV b0J gXn gYn PT.L j0V j0x e0G tbL tmR tmL dbN g0G g0q j0W dig rdT b0s c0Q ptL g0u c0z c0m c0n hB hN f0G d0n c0G atY e0f n0s
theorem t0S (lab : ByteArray) (hsz : lab.size ≤ 100000) (va : Value) (b : List UInt8) (w : World) (hb : PartIs w va b) :
  Calls Tryz.prog 217 #[.string lab, va] w fun e w' => ∃ v, e = .returned (.tuple #[v, .int .i64 0]) ∧ OwnB1 w w' v (c0m (c0G lab.data.toList b).pt) ∧ Fr Nob w w' := by
 have HSZ := qH hsz
 have HB := qH hb
 clear hsz hb
 go_enter Tryz.func217, Tryz.ntmps217
 go_wp2_with fail
 refine (z0t _).mono ?_
 rintro e w1 ⟨gc, rfl, hcv, hf⟩
 have HCV := qH hcv
 have HF := qH hf
 clear hcv hf
 go_wp2_with fail
 refine (t0R lab HSZ.out va b _ (HB.out.still HF.out)).mono ?_
 rintro e w2 ⟨rfl, hf⟩
 have HCV2 := qH (HCV.out.keep hf)
 have HF2 := qH (HF.out.then hf)
 clear hf HCV HF
 go_wp2_with fail
 refine (r0p _ gc _ HCV2.out).mono ?_
 rintro e w3 ⟨sv, rfl, hown, hf⟩
 have ho := Go.Mv.Own.mono hown HF2.out.size
 have hfr := HF2.out.then hf
 clear hf HCV2 HF2 hown
 go_wp2_with fail
 go_ret2
 exact ⟨sv, rfl, OwnB1.of ho (f0z _), hfr⟩
end
end Go.Proofs.YtpfimiajoifjaaaGreat
namespace Go.Mv
open Go.RowKit
variable {P : Program}
def m0D (sz : Nat) (p : Option Addr) (l m : Nat) : Option Addr := if m = l then p else p.map (·.add (l * sz))
theorem l0i (sz : Nat) (p : Option Addr) (m : Nat) : m0D sz p 0 m = p := by
 unfold m0D
 split
 ·rfl
 ·cases p with
  | none => rfl
  | some a => simp [Addr.add]
theorem r0K {w : World} {p : Option Addr} {n sz : Nat} {vs : List Value} (hr : Rd w p (n * sz) vs) (l h m : Nat) (h2 : l ≤ h) (h3 : h ≤ m) (h4 : h ≤ n) : Rd w (m0D sz p l m) ((h - l) * sz) ((vs.drop (l * sz)).take ((h - l) * sz)) := by
 have hlen := hr.len
 have e1 : (h - l) * sz = h * sz - l * sz := Nat.sub_mul _ _ _
 have e2 : h * sz ≤ n * sz := Nat.mul_le_mul_right _ h4
 refine ⟨by rw [List.length_take, List.length_drop]; omega, ?_⟩
 rcases Nat.eq_zero_or_pos ((h - l) * sz) with h0 | h0
 ·exact .inl h0
 ·obtain ⟨b, o, rfl, hc⟩ := hr.at ap1
  refine .inr ⟨b, o + l * sz, ?_, hc.sub (l * sz) ((h - l) * sz)⟩
  have hne : ¬ m = l := by
   rintro rfl
   have : h - m = 0 := by omega
   rw [this] at h0; omega
  simp [m0D, hne, c0V]
section
variable {w : World} {ops : Array Oper} {rest : List Oper} {o : Oper} {a : Act} {Q : Exit → Act → World → Prop}
theorem j0Q (w : World) {ty e : TypeId} {sz : Nat} (hu : P.underlying ty = some (.slice e)) (hsz : (P.info? e).map (·.size) = some sz) (p : Option Addr) (n c : Nat) (lo hi : Option Value) (l h : Nat) (hl : lo.elim (l = 0) (fun y => ∃ k, y = .int k (l : Int))) (hh : hi.elim (h = n) (fun y => ∃ k, y = .int k (h : Int))) (h2 : l ≤ h) (h3 : h ≤ c) :
  (Instr.sliceAt ty (.slice p n c) lo hi none).run P w = .ok (.slice (m0D sz p l c) (h - l) (c - l)) w := by
 obtain ⟨i, hi1, hi2⟩ : ∃ i, P.info? e = some i ∧ i.size = sz := by simpa using hsz
 subst hi2
 cases lo with
 | none =>
  simp only [Option.elim] at hl
  subst hl
  rw [l0i]
  cases hi with
  | none =>
   simp only [Option.elim] at hh
   subst hh
   have e0 : p.map (fun x => x.add 0) = p := by cases p <;> simp [Addr.add]
   simp [Instr.sliceAt, Instr.slice, run_underlying hu, Instr.sliceBounds, sizeOf, typeInfo, hi1, e0]
  | some y =>
   obtain ⟨k, rfl⟩ := hh
   have e0 : p.map (fun x => x.add 0) = p := by cases p <;> simp [Addr.add]
   simp [Instr.sliceAt, Instr.slice, run_underlying hu, Instr.sliceBounds, a0H, h3, sizeOf, typeInfo, hi1, e0]
 | some z =>
  obtain ⟨kz, rfl⟩ := hl
  cases hi with
  | none =>
   simp only [Option.elim] at hh
   subst hh
   simp [Instr.sliceAt, Instr.slice, run_underlying hu, Instr.sliceBounds, a0H, h2, sizeOf, typeInfo, hi1, m0D]
  | some y =>
   obtain ⟨k, rfl⟩ := hh
   simp [Instr.sliceAt, Instr.slice, run_underlying hu, Instr.sliceBounds, a0H, h2, h3, sizeOf, typeInfo, hi1, m0D]
theorem x0i {ty : TypeId} {x : Operand} {lo hi : Option Operand} (hgd : o.guard = none) (ho : o.op = .slice ty x lo hi none) {e : TypeId} {sz : Nat} (hu : P.underlying ty = some (.slice e)) (hsz : (P.info? e).map (·.size) = some sz)
  {p : Option Addr} {n c : Nat} (hx : a.eval x = .slice p n c) (l h : Nat) (hl : (lo.map a.eval).elim (l = 0) (fun y => ∃ k, y = .int k (l : Int))) (hh : (hi.map a.eval).elim (h = n) (fun y => ∃ k, y = .int k (h : Int))) (h2 : l ≤ h) (h3 : h ≤ c)
  (hK : wpList P ops Q rest (a.put o.dst (.slice (m0D sz p l c) (h - l) (c - l))) w) : wpList P ops Q (o :: rest) a w := by
 refine wpList_plain hgd fun K hK' => ?_
 have hr := j0Q w hu hsz p n c (lo.map a.eval) (hi.map a.eval) l h hl hh h2 h3
 unfold Oper.wp execOp
 simp only [ho, hx, Option.map_none, Sem.run_bind, Sem.run_pure, Result.andThen_ok, hr]
 exact hK' _ _ hK
end
end Go.Mv
namespace Go.Proofs.YtpfimiajoifjaaaGreat
section
open Go.RowKit Go.Mv Mvp Mvq
theorem h0S : qC [] = [] := rfl
theorem g0d (x : Zq) (xs : List Zq) : qC (x :: xs) = cw 4 (eQ x) ++ qC xs := rfl
theorem m0E : ∀ (xs : List Zq) (l : Nat), (qC xs).drop (l * 4) = qC (xs.drop l)
 | xs, 0 => by rw [Nat.zero_mul, List.drop_zero, List.drop_zero]
 | [], l + 1 => by rw [h0S, List.drop_nil, List.drop_nil, h0S]
 | x :: xs, l + 1 => by
  rw [g0d, List.drop_succ_cons, ← m0E xs l]
  have h : (l + 1) * 4 = (cw 4 (eQ x)).length + l * 4 := by rw [a0g]; omega
  rw [h, List.drop_length_add_append]
theorem m0F : ∀ (xs : List Zq) (l : Nat), (qC xs).take (l * 4) = qC (xs.take l)
 | xs, 0 => by rw [Nat.zero_mul, List.take_zero, List.take_zero, h0S]
 | [], l + 1 => by rw [h0S, List.take_nil, List.take_nil, h0S]
 | x :: xs, l + 1 => by
  rw [g0d, List.take_succ_cons, g0d, ← m0F xs l]
  have h : (l + 1) * 4 = (cw 4 (eQ x)).length + l * 4 := by rw [a0g]; omega
  rw [h, List.take_length_add_append]
theorem h0T (x : Zq) : qC [x] = cw 4 (eQ x) := by rw [g0d, h0S, List.append_nil]
theorem z0u (x y : Zq) : qC [x, y] = cw 4 (eQ x) ++ cw 4 (eQ y) := by rw [g0d, h0T]
theorem i0T (xs : List Zq) : ∀ u ∈ qC xs, u.oneCell' = true := by
 intro u hu
 unfold qC at hu
 obtain ⟨x, _, hx⟩ := List.mem_flatMap.1 hu
 exact a0f _ _ u hx
def RZ (w : World) (v : Value) (xs : List Zq) : Prop := ∃ a c, v = .slice a xs.length c ∧ xs.length ≤ c ∧ Rd w a (xs.length * 4) (qC xs)
def RP (w : World) (v : Value) (ps : List Zq) : Prop := ∃ a c vs, v = .slice a ps.length c ∧ ps.length ≤ c ∧ Rd w a ps.length vs ∧ BParts w vs (ps.map wrQ)
theorem RZ.still {w w' : World} {v : Value} {xs : List Zq} (h : RZ w v xs) (hf : Fr Nob w w') : RZ w' v xs := by
 obtain ⟨a, c, h1, h2, h3⟩ := h
 exact ⟨a, c, h1, h2, h3.still hf⟩
theorem RP.still {w w' : World} {v : Value} {ps : List Zq} (h : RP w v ps) (hf : Fr Nob w w') : RP w' v ps := by
 obtain ⟨a, c, vs, h1, h2, h3, h4⟩ := h
 exact ⟨a, c, vs, h1, h2, h3.still hf, h4.still hf⟩
theorem RZ.ofOwn {w : World} {base n : Nat} {v : Value} {xs : List Zq} (h : Go.Mv.Own w base 125 4 v n (qC xs)) (hn : n = xs.length) : RZ w v xs := by
 subst hn
 obtain ⟨a, c, rfl, hc, hr, -⟩ := h.form
 exact ⟨a, c, rfl, hc, hr⟩
theorem RP.ofOwn {w : World} {base : Nat} {v : Value} {ps : List Zq} (h : SOwn w base v (ps.map wrQ)) : RP w v ps := by
 obtain ⟨vs, h1, h2, h3⟩ := h
 obtain ⟨a, c, rfl, hc, hr, -⟩ := h1.form
 rw [Nat.mul_one] at hr
 rw [List.length_map] at hr hc
 exact ⟨a, c, vs, by rw [List.length_map], hc, hr, POwn.bpartsT h2⟩
theorem BParts.cut {w : World} {vs : List Value} {ls : List (List UInt8)} (h : BParts w vs ls) (l k : Nat) : BParts w ((vs.drop l).take k) ((ls.drop l).take k) := by
 refine ⟨by simp [h.1], fun i v hv => ?_⟩
 rw [List.getElem?_take] at hv
 split at hv
 ·rename_i hi
  rw [List.getElem?_drop] at hv
  have := h.2 (l + i) v hv
  rwa [List.getD_eq_getElem?_getD, List.getElem?_take, if_pos hi, List.getElem?_drop, ← List.getD_eq_getElem?_getD]
 ·cases hv
theorem RZ.cut {w : World} {a : Option Addr} {n c : Nat} {xs : List Zq} (h : RZ w (.slice a n c) xs) (l k : Nat) (h2 : l ≤ k) (h3 : k ≤ n) : RZ w (.slice (m0D 4 a l c) (k - l) (c - l)) ((xs.drop l).take (k - l)) := by
 obtain ⟨a, c, e, hc, hr⟩ := h
 cases e
 have e1 : ((xs.drop l).take (k - l)).length = k - l := by rw [List.length_take, List.length_drop]; omega
 have h4 := r0K hr l k c h2 ap1 h3
 refine ⟨m0D 4 a l c, c - l, by rw [e1], by omega, ?_⟩
 rw [e1, ← m0F, ← m0E]
 exact h4
theorem RP.cut {w : World} {a : Option Addr} {n c : Nat} {ps : List Zq} (h : RP w (.slice a n c) ps) (l k : Nat) (h2 : l ≤ k) (h3 : k ≤ n) : RP w (.slice (m0D 1 a l c) (k - l) (c - l)) ((ps.drop l).take (k - l)) := by
 obtain ⟨a, c, vs, e, hc, hr, hp⟩ := h
 cases e
 have e1 : ((ps.drop l).take (k - l)).length = k - l := by rw [List.length_take, List.length_drop]; omega
 have h4 := r0K (sz := 1) (by rw [Nat.mul_one]; exact hr) l k c h2 ap1 h3
 rw [Nat.mul_one, Nat.mul_one] at h4
 refine ⟨m0D 1 a l c, c - l, _, by rw [e1], by omega, by rw [e1]; exact h4, ?_⟩
 rw [List.map_take, List.map_drop]
 exact BParts.cut hp l (k - l)
end
section
open Go.RowKit Go.Mv Mvp Mvq
def v0e : List UInt8 := [108, 101, 102, 116]
def r0L : List UInt8 := [114, 105, 103, 104, 116]
def x0j : List UInt8 := [105, 110, 110, 101, 114]
noncomputable def p0h (lab b : List UInt8) : Zq := dl (c0G lab b).pt
theorem t0T (lab b : List UInt8) : c0m (c0G lab b).pt = wrQ (p0h lab b) := by
 unfold p0h
 generalize c0G lab b = T
 exact v0b T.onP
noncomputable def lbQ (lab : List UInt8) (i : Nat) : Zq := p0h lab (e0U i)
noncomputable def gLQ (i : Nat) : Zq := lbQ v0e i
noncomputable def gRQ (i : Nat) : Zq := lbQ r0L i
noncomputable def f0H : Zq := p0h x0j []
attribute [local irreducible] a0v lw mix cw b0e b0f b0a beN b0l b0b a0z a0F elN mdL b0m rtV b0J c0m b0s c0Q a0D c0z e0H e0I a0R a0T b0c toB a0u a0w a0Y a0E b0Z a0S a0x c0n b0t c0G e0U wrQ qC
theorem z0v (i : Nat) (hi : i ≤ 1000000) (w : World) :
  Calls Tryz.prog 216 #[.int .i64 (i : Int)] w fun e w' => ∃ v, e = .returned v ∧ OwnB1 w w' v (e0U i) ∧ Fr Nob w w' := by
 go_enter Tryz.func216, Tryz.ntmps216
 go_wp2_with (with_reducible refine wSk 14 ?_)
 refine p0x rfl rfl Tryz.underlying23 d0g _ _ _ _ (u0A i hi) (u0B i hi) (u0C i) (u0D i) ?_
 intro w1 hh1 hf1 hz1
 have hh1' : Has w1 w.heap.size (bs (e0U i)) 5 := by unfold e0U; exact hh1
 have ho : Go.Mv.Own w1 w.heap.size 5 1 (.slice (some ⟨w.heap.size, 0, none⟩) 4 4) 4 (bs (e0U i)) := by
  have h := Go.Mv.Own.made hh1' w.heap.size (Nat.le_refl _) 1 4 4 ap1 ap2 (by rw [a0C, f0m]; omega)
  rwa [show (bs (e0U i)).take (4 * 1) = bs (e0U i) from List.take_of_length_le (by rw [a0C, f0m]; omega)] at h
 have HO := qH (OwnB1.of (w := w) ho (f0m i))
 have HF := qH hf1
 clear hh1 hh1' ho hf1 hz1
 generalize w.heap.size = g at *
 go_wp2_with fail
 go_ret
 exact ⟨_, rfl, HO.out, HF.out⟩
theorem r0M (lab : ByteArray) (hsz : lab.size ≤ 100000) (va : Value) (b : List UInt8) (w : World) (hb : PartIs w va b) :
  Calls Tryz.prog 136 #[.string lab, va] w fun e w' => ∃ v, e = .returned v ∧ OwnB1 w w' v (wrQ (p0h lab.data.toList b)) ∧ Fr Nob w w' := by
 have HSZ := qH hsz
 have HB := qH hb
 obtain ⟨a, n, c, rfl, -⟩ := hb
 clear hsz
 go_enter Tryz.func136, Tryz.ntmps136
 go_wp2_with fail
 refine (t0S lab HSZ.out _ b _ HB.out).mono ?_
 rintro e' w1 ⟨v, rfl, ho, hf⟩
 rw [t0T] at ho
 have HO := qH ho
 have HF := qH hf
 clear ho hf
 go_wp2_with fail
 go_ret
 exact ⟨_, rfl, HO.out, HF.out⟩
theorem r0N (lab : ByteArray) (hsz : lab.size ≤ 100000) (n : Nat) (hn : n ≤ 1000) (w : World) :
  Calls Tryz.prog 135 #[.string lab, .int .i64 (n : Int)] w fun e w' => ∃ v, e = .returned v ∧ SOwn w' w.heap.size v ((lsZ n (lbQ lab.data.toList)).map wrQ) ∧ Fr Nob w w' := by
 have HSZ := qH hsz
 clear hsz
 have hnI : (n : Int) ≤ 1000 := by omega
 go_enter Tryz.func135, Tryz.ntmps135
 go_wp2_with fail
 go_loopw [4, 7] (fun q i wr => ∃ j : Nat, j ≤ n ∧ i = .int .i64 (j : Int) ∧ SOwn wr w.heap.size q ((lsZ j (lbQ lab.data.toList)).map wrQ) ∧ Fr Nob w wr) (fun _ i _ => (n - intOf i).toNat)
 case atStart => exact ⟨0, by omega, rfl, SOwn.nil _ _, Fr.refl _ _⟩
 case round =>
  obtain ⟨j, hj, rfl, hS, hfj⟩ := hrel
  by_cases hlt : j < n
  ·have hltI : (j : Int) < (n : Int) := by omega
   obtain ⟨vs, hown, hpo, hsep⟩ := hS
   have hll : ((lsZ j (lbQ lab.data.toList)).map wrQ).length = j := by rw [List.length_map, a0O]
   have HTK := qH (show (lsZ (j + 1) (lbQ lab.data.toList)).map wrQ = (lsZ j (lbQ lab.data.toList)).map wrQ ++ [wrQ (lbQ lab.data.toList j)] by rw [e0D, List.map_append]; rfl)
   have hown0 := hown
   rw [hll] at hown
   have HLL := qH hll
   have HO0 := qH hown0
   have HO := qH hown
   have HPO := qH hpo
   have HSEP := qH hsep
   have HFJ := qH hfj
   clear hll hown0 hown hpo hsep hfj
   go_wp2_with fail
   refine (z0v j ap1 _).mono ?_
   rintro e' w1 ⟨v13, rfl, ho13, hf1⟩
   have HP13 := qH (b0G ho13 (by rw [f0m]; decide))
   have HF1 := qH hf1
   obtain ⟨a13, c13, rfl, -⟩ := d0Z ho13
   clear ho13 hf1
   go_wp2_with fail
   refine (r0M lab HSZ.out _ (e0U j) _ HP13.out).mono ?_
   rintro e' w3 ⟨v, rfl, hown1, hf3⟩
   rw [show p0h lab.data.toList (e0U j) = lbQ lab.data.toList j from rfl] at hown1
   have hf23 := HF1.out.then hf3
   have HSZ2 := qH (HFJ.out.size)
   have hown1' := Go.Mv.Own.mono hown1 HF1.out.size
   obtain ⟨av, cv, rfl, -⟩ := d0Z hown1
   have HO1 := qH hown1'
   have HF3 := qH hf23
   clear hown1 hown1' hf3 hf23 HP13 HF1
   go_wp2_with (with_reducible refine wSk 15 ?_)
   refine d0K rfl rfl Tryz.underlying24 a0M [.slice av _ cv] rfl (by simp; rfl) rfl rfl ?_
   intro w4 hh4 hf4 hz4
   clear hz4
   have hownq := (HO.out.still HF3.out).still hf4
   have hfr4 := (HFJ.out.then HF3.out).then hf4
   have HF4 := qH hf4
   clear hf4
   generalize w3.heap.size = g1 at *
   have hsz4 := hfr4.size
   have hrd4 := Rd.whole hh4
   clear hh4
   have HRD4 := qH hrd4
   have HQ4 := qH hownq
   have HFR4 := qH hfr4
   have HZ4 := qH hsz4
   clear hrd4 hownq hfr4 hsz4
   go_wp2_with (with_reducible refine wSk 16 ?_)
   refine c0p rfl rfl Tryz.underlying24 a0M rfl ap2 HQ4.out rfl rfl HRD4.out (fun u hu => by simp only [List.mem_singleton] at hu; subst hu; rfl) ap9 ap1 HZ4.out ?_
   intro v5 w5 hown5 hf5 hb5
   clear hb5
   have hfr5 := HQ4.out.fr HFR4.out (Nat.le_refl _) hf5
   have hfin : SOwn w5 w.heap.size v5 ((lsZ (j + 1) (lbQ lab.data.toList)).map wrQ) := by
    rw [HTK.out]
    exact SOwn.snocF (w := wr) HO0.out HPO.out HSEP.out HSZ2.out HO1.out HF3.out HF4.out (by rw [HLL.out]; exact hown5) hf5
   have HFIN := qH hfin
   have HFR5 := qH hfr5
   clear hown5 hf5 hfr5 hfin HQ4 HRD4 HFR4 HZ4 HO HO0 HPO HSEP HO1
   go_wp2_with fail
   go_roundw
   case rel => exact ⟨j + 1, by omega, by go_num, HFIN.out, HFR5.out⟩
   case measure => simp [intOf]; omega
  ·have hge : ¬ ((j : Int) < (n : Int)) := by omega
   have e : j = n := by omega
   rw [e] at hS
   have HS := qH hS
   have HF := qH hfj
   clear hS hfj hlt e
   go_wp2_with fail
   go_ret
   exact ⟨_, rfl, HS.out, HF.out⟩
theorem x0k (n : Nat) (hn : n ≤ 1000) (w : World) :
  Calls Tryz.prog 45 #[.int .i64 (n : Int)] w fun e w' => ∃ v, e = .returned v ∧ SOwn w' w.heap.size v ((lsZ n gLQ).map wrQ) ∧ Fr Nob w w' := by
 go_enter Tryz.func45, Tryz.ntmps45
 go_wp2_with fail
 refine (r0N ⟨#[108, 101, 102, 116]⟩ ap2 n hn _).mono ?_
 rintro e' w1 ⟨v, rfl, ho, hf⟩
 have HO := qH ho
 have HF := qH hf
 clear ho hf
 go_wp2_with fail
 go_ret
 exact ⟨_, rfl, HO.out, HF.out⟩
theorem t0U (n : Nat) (hn : n ≤ 1000) (w : World) :
  Calls Tryz.prog 46 #[.int .i64 (n : Int)] w fun e w' => ∃ v, e = .returned v ∧ SOwn w' w.heap.size v ((lsZ n gRQ).map wrQ) ∧ Fr Nob w w' := by
 go_enter Tryz.func46, Tryz.ntmps46
 go_wp2_with fail
 refine (r0N ⟨#[114, 105, 103, 104, 116]⟩ ap2 n hn _).mono ?_
 rintro e' w1 ⟨v, rfl, ho, hf⟩
 have HO := qH ho
 have HF := qH hf
 clear ho hf
 go_wp2_with fail
 go_ret
 exact ⟨_, rfl, HO.out, HF.out⟩
theorem t0V (w : World) :
  Calls Tryz.prog 47 #[] w fun e w' => ∃ v, e = .returned v ∧ OwnB1 w w' v (wrQ f0H) ∧ Fr Nob w w' := by
 go_enter Tryz.func47, Tryz.ntmps47
 go_wp2_with fail
 refine (r0M ⟨#[105, 110, 110, 101, 114]⟩ ap2 _ [] _ ⟨none, 0, 0, rfl, Nat.le_refl _, by decide, RdB.nil _ _, Old.none _⟩).mono ?_
 rintro e' w1 ⟨v, rfl, ho, hf⟩
 have HO := qH ho
 have HF := qH hf
 clear ho hf
 go_wp2_with fail
 go_ret
 exact ⟨_, rfl, HO.out, HF.out⟩
end
end Go.Proofs.YtpfimiajoifjaaaGreat
namespace Go.Mv
open Go.RowKit
theorem OwS.empty {S : Nat → Prop} {w w' : World} {bl : List (Nat × List Value × TypeId)} (T : TypeId) (sz : Nat) (ks : List Nat) (h : St S w w' bl) (hk : ∀ k ∈ ks, k ∈ bl.map (·.1)) : OwS w' w.heap.size (fun k => k ∈ ks) [⟨.slice none 0 0, T, sz, 0, []⟩] := by
 refine ⟨fun x hx => ?_, fun x hx k hb => ?_, List.pairwise_singleton _ _, fun k hb => ?_⟩
 ·rw [List.mem_singleton.1 hx]; exact Own.nil _ _ _ _
 ·rw [List.mem_singleton.1 hx] at hb; simp [b0g, Value.ownBlock] at hb
 ·obtain ⟨x, hx, rfl⟩ := List.mem_map.1 (hk k hb)
  exact (h.has x hx).lt
theorem OwS.sl {w : World} {base : Nat} {X : Nat → Prop} {l : List Ox} (h : OwS w base X l) (i : Nat) {v : Value} {T : TypeId} {sz n : Nat} {L : List Value} (hi : l[i]? = some ⟨v, T, sz, n, L⟩) : ∃ a c, v = .slice a n c ∧ n ≤ c := by
 have ho : Own w base T sz v n L := h.at i hi
 obtain ⟨a, c, rfl, hc, -⟩ := ho.form
 exact ⟨a, c, rfl, hc⟩
theorem St.fresh0 {w w' : World} {bl : List (Nat × List Value × TypeId)} (h : St Nob w w' bl) (i : Nat) {g : Nat} {L : List Value} {T : TypeId} (hi : bl[i]? = some (g, L, T)) : w.heap.size ≤ g := (h.own _ (List.mem_of_getElem? hi)).resolve_right id
end Go.Mv
namespace Go.Proofs.YtpfimiajoifjaaaGreat
section
open Go.RowKit Go.Mv Mvp Mvq
theorem z0w (x : Nat) : (i4 x).cells.size = 4 := by simp [i4, Value.cells, a0g]
theorem e0J (xs : List Zq) (j : Nat) (x : Zq) (h : xs[j]? = some x) : ((qC xs).drop (j * 4)).take (cw 4 (eQ x)).length = cw 4 (eQ x) := by
 obtain ⟨hj, rfl⟩ := List.getElem?_eq_some_iff.1 h
 rw [a0g]
 exact z0m xs j hj
theorem r0O (a b : List Zq) (j : Nat) (x y : Zq) (h1 : a[j]? = some x) (h2 : b[j]? = some y) : b0n (a.take (j + 1)) (b.take (j + 1)) = b0n (a.take j) (b.take j) + x * y := by
 obtain ⟨k1, rfl⟩ := List.getElem?_eq_some_iff.1 h1
 obtain ⟨k2, rfl⟩ := List.getElem?_eq_some_iff.1 h2
 rw [List.take_succ_eq_append_getElem k1, List.take_succ_eq_append_getElem k2, c0i _ _ _ _ (by rw [List.length_take, List.length_take]; omega)]
 show _ + (_ + 0) = _
 grind -lia -linarith
theorem x0l (y : Zq) (j : Nat) : lsZ (j + 1) (pwZ y) = lsZ j (pwZ y) ++ [pwZ y j] := e0D _ _
theorem l0j {w : World} {g : Nat} {x : Zq} {T : TypeId} (h : Has w g (qC [x]) T) : Rd w (some ⟨g, 0, none⟩) (1 * 4) (qC [x]) := by
 have h2 := Rd.whole h
 rw [l0d] at h2
 exact h2
theorem z0x (f : Nat → Zq) : qC (lsZ 0 f) = [] := rfl
theorem B0f (y : Zq) : pwZ y 0 = 1 := rfl
theorem d0d (w : World) : Calls Tryz.prog 64 #[.int .u64 1] w fun e w' => e = .returned (i4 (eQ 1)) ∧ Fr Nob w w' := by
 have h := w0Z 1 ap2 w
 rw [A0J] at h
 exact h
theorem g0O (x : Nat) : ∀ v ∈ [i4 x], v.cells.size = 4 := by
 intro v hv
 rw [List.mem_singleton.1 hv]
 exact z0w x
theorem n0M (x : Zq) : ([i4 (eQ x)].flatMap fun v => v.cells.toList) = qC [x] := by
 rw [h0T]
 simp [j0k]
theorem n0N {w : World} {base sz n : Nat} {T : TypeId} {v : Value} {L : List Value} (h : Go.Mv.Own w base T sz v n L) : lenV v = n := by
 obtain ⟨a, c, rfl, -⟩ := h.form
 rfl
attribute [local irreducible] a0v lw mix cw b0e b0f b0a beN b0l b0b a0z a0F elN mdL b0m rtV b0J c0m b0s c0Q a0D c0z e0H e0I a0R a0T b0c toB a0u a0w a0Y a0E b0Z a0S a0x c0n b0t c0G e0U wrQ qC eQ bZ
theorem A0v (al : Option Addr) (c : Nat) (a : List Zq) (bl : Option Addr) (d : Nat) (b : List Zq) (w : World) (ha : Rd w al (a.length * 4) (qC a)) (hb : Rd w bl (b.length * 4) (qC b)) (hab : a.length = b.length) (hn : a.length ≤ 100000) :
  Calls Tryz.prog 97 #[.slice al a.length c, .slice bl b.length d] w fun e w' => e = .returned (i4 (eQ (b0n a b))) ∧ Fr Nob w w' := by
 have HA := qH ha
 have HB := qH hb
 clear ha hb
 have st0 := St.start Nob w
 go_enter Tryz.func97, Tryz.ntmps97
 go_wp2_with (with_reducible refine wSk 4 ?_)
 refine a0b st0 rfl rfl m0x (cw 4 0) g0v ?_
 intro g4 w1 st1
 clear st0
 go_wp2_with fail
 go_loopw [9] (fun i wr => ∃ j : Nat, j ≤ a.length ∧ i = .int .i64 (j : Int) ∧ St Nob w wr [(g4, cw 4 (eQ (b0n (a.take j) (b.take j))), 125)]) (fun i _ => (a.length - intOf i).toNat)
 case atStart => exact ⟨0, by omega, rfl, by rw [List.take_zero, List.take_zero]; show St Nob w _ [(g4, cw 4 (eQ 0), _)]; rw [r0F]; exact st1⟩
 case round =>
  obtain ⟨j, hj, rfl, st⟩ := hrel
  clear st1
  by_cases hlt : j < a.length
  ·have hltI : (j : Int) < (a.length : Int) := by omega
   have hltI2 : (j : Int) < (b.length : Int) := by omega
   obtain ⟨x, hx⟩ : ∃ x, a[j]? = some x := ⟨_, List.getElem?_eq_getElem hlt⟩
   obtain ⟨y, hy⟩ : ∃ y, b[j]? = some y := ⟨_, List.getElem?_eq_getElem ap1⟩
   have HX := qH hx
   have HY := qH hy
   obtain ⟨ba, oa, hea, -⟩ := HA.out.at ap1
   obtain ⟨bb, ob, heb, -⟩ := HB.out.at ap1
   subst hea heb
   have HDS := qH (r0O a b j x y hx hy)
   clear hx hy
   generalize b0n (a.take j) (b.take j) = D0 at *
   go_wp2_with (with_reducible refine wSk 13 ?_)
   refine d0L rfl rfl Tryz.underlying125 rfl rfl (o0D (HA.out.still st.fr) (j * 4) (cw 4 (eQ x)) (e0J a j x HX.out)) (a0G _) ?_
   go_wp2_with (with_reducible refine wSk 6 ?_)
   refine a0b st rfl rfl m0x (cw 4 0) g0v ?_
   intro g6 w2 st2
   clear st
   go_wp2_with (with_reducible refine wSn ?_)
   refine a0c st2 1 rfl rfl rfl rfl rfl (e0c _ _) (a0G _) (a0f _ _) ?_
   intro w3 st3
   clear st2
   go_wp2_with fail
   refine wp_region_noPanic ?_
   refine a0k st3 7 [.t 0, .t 1, .w 2, .w 3, .w 4, .t 5, .c 6] (.m 7 .nil) ap0 ap0 (fun _ _ _ _ _ h => h) ?_
   clear st3
   refine a0j rfl rfl rfl (fun _ => rfl) (cw 4 (eQ D0)) (fun wx hS => St.rangeL hS 0 rfl 0 _ dZl) Tryz.underlying125 rfl (a0G _) ?_
   try simp only [clL]
   refine a0j rfl rfl rfl (fun _ => rfl) (cw 4 (eQ x)) (fun wx hS => St.rangeL hS 1 rfl 0 _ dZl) Tryz.underlying125 rfl (a0G _) ?_
   try simp only [clL]
   iterate 3 (refine a0n rfl rfl apX ?_; try simp only [clL])
   refine a0j rfl rfl rfl (fun _ => rfl) (cw 4 (eQ y)) (fun wx hS => (b0y (HB.out.still (St.fr hS)) (j * 4) _ (e0J b j y HY.out))) Tryz.underlying125 rfl (a0G _) ?_
   try simp only [clL]
   refine a0l rfl rfl rfl Tryz.call101 (fun w hS hR => v0a D0 x y _) (fun _ => rfl) ?_
   try simp only [clL]
   refine a0J fun xq w4 st4 hR => ?_
   try dsimp only
   clear hR xq
   refine a0o rfl rfl ?_
   refine a0i st4 0 rfl rfl rfl rfl (e0c _ _) (a0G _) (a0f _ _) ?_
   intro w5 st5
   repeat (first | simp only [List.cons_append] at st5 | simp only [List.nil_append] at st5 | simp only [List.set_cons_succ] at st5 | simp only [List.set_cons_zero] at st5)
   clear st4
   try simp only [Act.put]
   refine a0e ?_
   refine NoPanic.normal ?_
   go_wp2_with fail
   go_roundw
   case rel => exact ⟨j + 1, by omega, by go_num, by rw [HDS.out]; exact St.less st5 ap4⟩
   case measure => simp [intOf]; omega
  ·have hge : ¬ ((j : Int) < (a.length : Int)) := by omega
   have hj2 : j = a.length := by omega
   rw [List.take_of_length_le ap1, List.take_of_length_le ap1] at st
   clear hj2 hlt
   go_wp2_with (with_reducible refine wSk 22 ?_)
   refine a0s st 0 rfl rfl rfl Tryz.underlying125 rfl rfl (a0G _) ?_
   go_wp2_with (with_reducible refine wSn ?_)
   refine a0c st 0 rfl rfl rfl rfl rfl (e0c _ _) (a0G _) (a0f _ _) ?_
   intro w2 st2
   clear st
   have hr := st2.at 0 rfl
   have hfr := st2.fr
   clear st2
   go_wp2_with fail
   exact bodyPost_ret (a0y rfl rfl hr Tryz.underlying125 rfl (a0G _)) rfl ⟨rfl, hfr⟩
theorem n0O (y : Zq) (n : Nat) (hn : n ≤ 1000) (w : World) :
  Calls Tryz.prog 65 #[i4 (eQ y), .int .i64 (n : Int)] w fun e w' => ∃ v, e = .returned v ∧ Go.Mv.Own w' w.heap.size 125 4 v n (qC (lsZ n (pwZ y))) ∧ Fr Nob w w' := by
 have st0 := St.start Nob w
 go_enter Tryz.func65, Tryz.ntmps65
 go_wp2_with (with_reducible refine wSk 2 ?_)
 refine a0r st0 rfl rfl rfl (cw 4 (eQ y)) rfl ?_
 intro g2 w1 st1
 clear st0
 go_wp2_with fail
 refine (d0d _).mono ?_
 rintro e' w2 ⟨rfl, hf2⟩
 have st2 := st1.keep hf2
 clear st1 hf2
 go_wp2_with (with_reducible refine wSk 5 ?_)
 refine a0b st2 rfl rfl m0x (cw 4 0) g0v ?_
 intro g5 w3 st3
 clear st2
 go_wp2_with (with_reducible refine wSn ?_)
 refine a0c st3 1 rfl rfl rfl rfl rfl (e0c _ _) (a0G _) (a0f _ _) ?_
 intro w4 st4
 clear st3
 go_wp2_with fail
 go_frame
 go_loopw [4, 5] (fun o p wr => ∃ (j gg : Nat), j ≤ n ∧ p = .pointer (some ⟨gg, 0, none⟩) ∧ lenV o = j ∧ Has wr gg (cw 4 (eQ (pwZ y j))) 125 ∧ Has wr g2 (cw 4 (eQ y)) 125 ∧ OwS wr w.heap.size (fun k => k ∈ [gg, g2]) [⟨o, 125, 4, j, qC (lsZ j (pwZ y))⟩] ∧ Fr Nob w wr) (fun o _ _ => n - lenV o)
 case atStart => exact ⟨0, _, by omega, rfl, rfl, by rw [B0f]; exact st4.at 1 rfl, st4.at 0 rfl, by rw [z0x]; exact OwS.empty _ _ [g5, g2] st4 ap4, st4.fr⟩
 case round =>
  obtain ⟨j, gg, hj, rfl, hlen, hacc, hy2, hos, hfr⟩ := hrel
  clear st4
  obtain ⟨aq, cq, rfl, hcq⟩ := hos.sl 0 rfl
  have HLEN := qH hlen
  have HACC := qH hacc
  have HY2 := qH hy2
  have HOS := qH hos
  have HFR := qH hfr
  clear hlen hacc hy2 hos hfr
  by_cases hlt : j < n
  ·have hltI : (j : Int) < (n : Int) := by omega
   go_wp2_with (with_reducible refine wSk 15 ?_)
   refine j0o rfl rfl Tryz.underlying125 rfl rfl HACC.out (cw 4 (eQ (pwZ y j))) dZl (a0G _) ?_
   go_wp2_with (with_reducible refine wSk 16 ?_)
   refine g0y rfl rfl Tryz.underlying89 d0s [i4 (eQ (pwZ y j))] rfl (g0O _) rfl (qC [pwZ y j]) (n0M _) ?_
   intro w7 hg7 hf7 hz7
   clear hz7
   have HO7 := qH (HOS.out.still hf7)
   have HA7 := qH (HACC.out.keep hf7 id)
   have HY7 := qH (HY2.out.keep hf7 id)
   have HF7 := qH (HFR.out.then hf7)
   have HRD := qH (l0j hg7)
   clear hg7 hf7 HACC HOS HY2 HFR
   go_wp2_with (with_reducible refine wSk 17 ?_)
   refine o0e HO7.out 0 rfl rfl rfl Tryz.underlying89 d0s rfl ap2 rfl rfl HRD.out (i0T _) ap9 ap1 HF7.out.size ?_
   intro v8 w8 hos8 hf8
   have HO8 := qH (show OwS w8 w.heap.size (fun k => k ∈ [gg, g2]) [⟨v8, 125, 4, j + 1, qC (lsZ (j + 1) (pwZ y))⟩] by rw [x0l, m0B, ← h0T]; exact hos8)
   have HA8 := qH (HA7.out.keep hf8 (HO7.out.ne 0 rfl ap4))
   have HY8 := qH (HY7.out.keep hf8 (HO7.out.ne 0 rfl ap4))
   have HF8 := qH (show Fr Nob w w8 from Go.Mv.Own.fr (HO7.out.at 0 rfl) HF7.out (Nat.le_refl _) hf8)
   clear hos8 hf8 HO7 HA7 HY7 HF7 HRD
   have st0 := St.start Nob w8
   go_wp2_with (with_reducible refine wSk 18 ?_)
   refine j0o rfl rfl Tryz.underlying125 rfl rfl (HA8.out.keep st0.fr id) (cw 4 (eQ (pwZ y j))) dZl (a0G _) ?_
   go_wp2_with (with_reducible refine wSk 5 ?_)
   refine a0b st0 rfl rfl m0x (cw 4 0) g0v ?_
   intro g5 w9 st9
   clear st0
   go_wp2_with (with_reducible refine wSn ?_)
   refine a0c st9 0 rfl rfl rfl rfl rfl (e0c _ _) (a0G _) (a0f _ _) ?_
   intro w10 st10
   clear st9
   go_wp2_with (with_reducible refine wSk 11 ?_)
   refine a0s st10 0 rfl rfl rfl Tryz.underlying125 rfl rfl (a0G _) ?_
   go_wp2_with (with_reducible refine wSk 12 ?_)
   refine j0o rfl rfl Tryz.underlying125 rfl rfl (HY8.out.keep st10.fr id) (cw 4 (eQ y)) dZl (a0G _) ?_
   go_wp2_with fail
   refine (g0b (pwZ y j) y _).mono ?_
   rintro e' w11 ⟨rfl, hf11⟩
   have st11 := st10.keep hf11
   clear st10 hf11
   go_wp2_with (with_reducible refine wSn ?_)
   refine a0c st11 0 rfl rfl rfl rfl rfl (e0c _ _) (a0G _) (a0f _ _) ?_
   intro w12 st12
   clear st11
   go_wp2_with fail
   simp only [Act.put]
   go_roundw
   case rel => exact ⟨j + 1, g5, by omega, rfl, n0N (HO8.out.at 0 rfl), st12.at 0 rfl, HY8.out.keep st12.fr id, (HO8.out.grow st12.fr (st12.fresh0 0 rfl) (st12.at 0 rfl).lt).mono (by intro k hk; simp only [List.mem_cons, List.not_mem_nil, or_false] at hk ⊢; omega), HF8.out.then st12.fr⟩
   case measure => rw [show lenV v8 = j + 1 from n0N (HO8.out.at 0 rfl), HLEN.out]; omega
  ·have hge : ¬ ((j : Int) < (n : Int)) := by omega
   have e : j = n := by omega
   have HO := qH (show Go.Mv.Own wr w.heap.size 125 4 (.slice aq j cq) n (qC (lsZ n (pwZ y))) by rw [← e]; exact HOS.out.at 0 rfl)
   clear hlt e HOS
   go_wp2_with fail
   go_ret
   exact ⟨_, rfl, HO.out, HFR.out⟩
end
section
open Go.RowKit Go.Mv Mvp Mvq
def SumA (w : World) (X Y : Nat → Prop) (g : Nat) (xs : List Zq) (lp : List (List UInt8)) : Prop :=
 ∃ v1 v2 vs, Sy X w w [(g, [v1, v2], 121)] [⟨v1, 125, 4, xs.length, qC xs⟩, ⟨v2, 23, 1, lp.length, vs⟩] ∧ (∀ j, w.heap.size ≤ j → X j) ∧ (∀ j, X j → Y j) ∧ PartsO w Y vs lp
theorem SumA.up {w : World} {X Y : Nat → Prop} {g : Nat} {xs : List Zq} {lp : List (List UInt8)} (h : SumA w X Y g xs lp) : ∀ j, w.heap.size ≤ j → X j := by obtain ⟨_, _, _, _, h, _⟩ := h; exact h
theorem SumA.sub {w : World} {X Y : Nat → Prop} {g : Nat} {xs : List Zq} {lp : List (List UInt8)} (h : SumA w X Y g xs lp) : ∀ j, X j → Y j := by obtain ⟨_, _, _, _, _, h, _⟩ := h; exact h
theorem SumA.still {w w' : World} {X Y : Nat → Prop} {g : Nat} {xs : List Zq} {lp : List (List UInt8)} (h : SumA w X Y g xs lp) (hf : Fr Nob w w') : SumA w' X Y g xs lp := by
 obtain ⟨v1, v2, vs, h1, h2, h4, h3⟩ := h
 exact ⟨v1, v2, vs, (h1.keep hf).base h2, fun j hj => h2 j (Nat.le_trans hf.size hj), h4, h3.keep hf fun _ t => t.elim⟩
theorem SumA.rebase {w w' : World} {X Y S : Nat → Prop} {g : Nat} {xs : List Zq} {lp : List (List UInt8)} (h : SumA w X Y g xs lp) (hf : Fr S w w') (hS : ∀ k, S k → Y k ∧ (k < w.heap.size → ¬ X k)) : SumA w' (fun j => (X j ∧ j < w.heap.size) ∨ w'.heap.size ≤ j) Y g xs lp := by
 obtain ⟨v1, v2, vs, h1, h2, h4, h3⟩ := h
 have hw : ∀ x ∈ [(g, [v1, v2], 121)], ¬ S x.1 := fun x hx hs => (hS _ hs).2 (h1.st.has x hx).lt ((h1.st.own x hx).elim (fun e => h2 _ e) id)
 have ho : ∀ x ∈ ([⟨v1, 125, 4, xs.length, qC xs⟩, ⟨v2, 23, 1, lp.length, vs⟩] : List Ox), ∀ k, b0g x.v k → ¬ S k := fun x hx k hk hs => (hS k hs).2 ((h1.os.own x hx).lt hk).2 ((h1.inX x hx k hk).elim id (fun e => h2 _ e))
 refine ⟨v1, v2, vs, ⟨⟨Fr.refl _ _, fun x hx => .inr (.inl ⟨(h1.st.own x hx).elim (fun e => h2 _ e) id, (h1.st.has x hx).lt⟩), fun x hx => (h1.st.has x hx).keep hf (hw x hx), h1.st.ne⟩, ⟨fun x hx => (h1.os.own x hx).keep hf (ho x hx), h1.os.off, h1.os.sep, fun k hk => Nat.lt_of_lt_of_le (h1.os.lt k hk) hf.size⟩, fun x hx k hk => .inl (.inl ⟨(h1.inX x hx k hk).elim id (fun e => h2 _ e), ((h1.os.own x hx).lt hk).2⟩)⟩, fun j hj => .inr hj, fun j hj => ?_, h3.keep hf fun k hk => (hS k hk).1⟩
 rcases hj with hj | hj
 ·exact h4 j hj.1
 ·exact h4 j (h2 j (Nat.le_trans hf.size hj))
theorem SumA.zero {w : World} {g : Nat} (hg : Has w g [.slice none 0 0, .slice none 0 0] 121) {b : Nat} (hb : b ≤ g) (hw : b ≤ w.heap.size) : SumA w (fun j => b ≤ j) (fun j => b ≤ j) g [] [] := by
 have h0 : Sy (fun j => b ≤ j) w w [(g, [.slice none 0 0, .slice none 0 0], 121)] [] := Sy.ofSt ⟨Fr.refl _ _, fun x hx => .inr (by rw [List.mem_singleton.1 hx]; exact hb), fun x hx => by rw [List.mem_singleton.1 hx]; exact hg, List.pairwise_singleton _ _⟩
 exact ⟨_, _, [], (h0.nil 125 4).nil 23 1, fun j hj => Nat.le_trans hw hj, fun _ h => h, trivial⟩
theorem SumA.tight {w : World} {X Y : Nat → Prop} {g : Nat} {xs : List Zq} {lp : List (List UInt8)} (h : SumA w X Y g xs lp) : ∃ X', SumA w X' Y g xs lp ∧ (∀ j, X' j → j < w.heap.size → X j) ∧ ∀ j, X' j → j < w.heap.size → ∃ L U, Has w j L U ∧ (U = 121 ∨ U = 125 ∨ U = 23) := by
 obtain ⟨v1, v2, vs, h1, h2, h4, h3⟩ := h
 have hX : ∀ j, (j = g ∨ b0g v1 j ∨ b0g v2 j ∨ w.heap.size ≤ j) → X j := by
  rintro j (rfl | hj | hj | hj)
  ·exact (h1.st.own _ List.mem_cons_self).elim (fun e => h2 _ e) id
  ·exact (h1.inX _ List.mem_cons_self j hj).elim id (fun e => h2 _ e)
  ·exact (h1.inX _ (List.mem_cons_of_mem _ List.mem_cons_self) j hj).elim id (fun e => h2 _ e)
  ·exact h2 _ hj
 refine ⟨fun j => j = g ∨ b0g v1 j ∨ b0g v2 j ∨ w.heap.size ≤ j, ⟨v1, v2, vs, ⟨⟨Fr.refl _ _, fun x hx => .inr (.inl (by rw [List.mem_singleton.1 hx])), h1.st.has, h1.st.ne⟩, h1.os, fun x hx k hk => ?_⟩, fun j hj => .inr (.inr (.inr hj)), fun j hj => h4 j (hX j hj), h3⟩, fun j hj _ => hX j hj, ?_⟩
 ·simp only [List.mem_cons, List.not_mem_nil, or_false] at hx
  rcases hx with rfl | rfl
  ·exact .inl (.inr (.inl hk))
  ·exact .inl (.inr (.inr (.inl hk)))
 ·have own : ∀ {v : Value} {T : TypeId} {sz n : Nat} {L : List Value} {j : Nat}, Go.Mv.Own w 0 T sz v n L → b0g v j → ∃ L, Has w j L T := by
   intro v T sz n L j ho hj
   rcases ho.2 with ⟨rfl, -⟩ | ⟨g, o, cap, B, rfl, k3, k4, -⟩
   ·simp [b0g, Value.ownBlock] at hj
   ·have e : g = j := Option.some.inj hj
    subst e; exact ⟨B, k4⟩
  rintro j (rfl | hj | hj | hj) hlt
  ·exact ⟨_, _, h1.at 0 rfl, .inl rfl⟩
  ·obtain ⟨L, hL⟩ := own (h1.own 0 rfl) hj
   exact ⟨L, _, hL, .inr (.inl rfl)⟩
  ·obtain ⟨L, hL⟩ := own (h1.own 1 rfl) hj
   exact ⟨L, _, hL, .inr (.inr rfl)⟩
  ·omega
theorem PartO.sl {w : World} {X : Nat → Prop} {v : Value} {l : List UInt8} (h : PartO w X v l) : ∃ a n c, v = .slice a n c := by obtain ⟨a, n, c, rfl, -⟩ := h; exact ⟨a, n, c, rfl⟩
theorem PartO.bp {w : World} {X : Nat → Prop} {v : Value} {l : List UInt8} (h : PartO w X v l) : BPart w v l := by obtain ⟨a, n, c, rfl, hc, hr, -⟩ := h; exact ⟨a, n, c, rfl, hc, hr⟩
theorem PartsO.bps {w : World} {X : Nat → Prop} : ∀ {vs : List Value} {ls : List (List UInt8)}, PartsO w X vs ls → BParts w vs ls
 | [], [], _ => ⟨rfl, by intro i v hv; simp at hv⟩
 | v :: vs, l :: ls, h => by
  have h2 := PartsO.bps h.2
  refine ⟨by simp [h2.1], fun i u hu => ?_⟩
  match i, hu with
  | 0, hu => simp at hu; subst hu; exact PartO.bp h.1
  | i + 1, hu => exact h2.2 i u (by simpa using hu)
 | [], _ :: _, h => h.elim
 | _ :: _, [], h => h.elim
theorem SumA.back {w w' : World} {X Y : Nat → Prop} {g n : Nat} {xs : List Zq} {z : Zq} {lp : List (List UInt8)} {l : List UInt8} {v1 v2 v : Value} {vs : List Value} {bl : List (Nat × List Value × TypeId)} (h : Sy X w w' ((g, [v1, v2], 121) :: bl) [⟨v1, 125, 4, n, qC (xs ++ [z])⟩, ⟨v2, 23, 1, lp.length + 1, vs ++ [v]⟩])
  (hn : n = xs.length + 1) (hX : ∀ j, w.heap.size ≤ j → X j) (hXY : ∀ j, X j → Y j) (hp : PartsO w Y vs lp) (hv : PartO w Y v l) : SumA w' X Y g (xs ++ [z]) (lp ++ [l]) := by
 subst hn
 refine ⟨v1, v2, vs ++ [v], ?_, fun j hj => hX j (Nat.le_trans h.st.fr.size hj), hXY, ((PartsO.snoc hv hp).keep h.st.fr hXY)⟩
 rw [List.length_append, List.length_append, List.length_singleton, List.length_singleton]
 exact (h.less (List.cons_sublist_cons.2 (List.nil_sublist _)) (List.Sublist.refl _)).base hX
end
end Go.Proofs.YtpfimiajoifjaaaGreat
namespace Go.Mv
open Go.RowKit
theorem l0k {G : Prop} {C F : Nat → Nat → Value → World → Prop} (h1 : (∀ g g' q w', C g g' q w' → F g g' q w') → G) (h : ∀ g g' q w', C g g' q w' → F g g' q w') : G := h1 h
end Go.Mv
namespace Go.Proofs.YtpfimiajoifjaaaGreat
section
open Go.RowKit Go.Mv Mvp Mvq
theorem c0f (a : Option Addr) (n c : Nat) : ∀ v ∈ [Value.slice a n c], v.cells.size = 1 := by
 intro v hv
 rw [List.mem_singleton.1 hv]
 rfl
theorem d0V (a : Option Addr) (n c : Nat) : ∀ v ∈ [Value.slice a n c], v.oneCell' = true := by
 intro v hv
 rw [List.mem_singleton.1 hv]
 rfl
theorem x0m : (Tryz.prog.info? 89).map (·.size) = some 1 := by kernel_rfl
theorem l0l : (Tryz.prog.info? 24).map (·.size) = some 1 := by kernel_rfl
attribute [local irreducible] a0v lw mix cw b0e b0f b0a beN b0l b0b a0z a0F elN mdL b0m rtV b0J c0m b0s c0Q a0D c0z e0H e0I a0R a0T b0c toB a0u a0w a0Y a0E b0Z a0S a0x c0n b0t c0G e0U wrQ qC eQ bZ
theorem r0P (X Y : Nat → Prop) (g : Nat) (xs : List Zq) (lp : List (List UInt8)) (z : Zq) (v : Value) (l : List UInt8) (w : World) (hs : SumA w X Y g xs lp) (hv : PartO w Y v l) (hn : xs.length ≤ 100000) (hm : lp.length ≤ 100000) :
  Calls Tryz.prog 63 #[.pointer (some ⟨g, 0, none⟩), i4 (eQ z), v] w fun e w' => e = .returned (.tuple #[]) ∧ SumA w' X Y g (xs ++ [z]) (lp ++ [l]) ∧ Fr X w w' := by
 obtain ⟨v1, v2, vs, hY, hX, hXY, hP⟩ := hs
 obtain ⟨a1, c1, rfl, -⟩ := hY.sl 0 rfl
 obtain ⟨a2, c2, rfl, -⟩ := hY.sl 1 rfl
 obtain ⟨av, nv, cv, rfl⟩ := PartO.sl hv
 have HX := qH hX
 have HXY := qH hXY
 have HP := qH hP
 have HV := qH hv
 clear hX hXY hP hv
 go_enter Tryz.func63, Tryz.ntmps63
 go_wp2_with (with_reducible refine wSk 4 ?_)
 refine b0N rfl (l0M hY rfl rfl (cw 4 (eQ z)) rfl ?_)
 intro g4 w1 y1 hf1
 clear hY hf1
 go_wp2_with fail
 refine wp_region_noPanic ?_
 refine a0d (fun wx => Has wx g [.slice a1 xs.length c1, .slice a2 lp.length c2] 121 ∧ Has wx g4 (cw 4 (eQ z)) 125) 15 (.w 0 (.w 1 (.w 2 (.w 3 (.w 4 (.t 5 (.t 6 (.w 9 (.w 10 (.w 11 (.t 12 (.w 13 (.b 7 14 (.b 8 14 (.r 14 (.m 15 (.w 16 (.w 17 (.m 18 (.w 19 (.w 20 (.m 21 .nil)))))))) (.r 8 (.m 15 (.w 16 (.w 17 (.m 18 (.w 19 (.w 20 (.m 21 .nil))))))))) (.r 7 (.r 8 (.m 15 (.w 16 (.w 17 (.m 18 (.w 19 (.w 20 (.m 21 .nil)))))))))))))))))))))) ap0 ap0 ⟨y1.drew.at 0 rfl, y1.drew.at 1 rfl⟩ (fun _ _ _ _ _ h => h) ?_
 have y2 := y1.drew
 clear y1
 iterate 5 (refine a0a rfl rfl apW ?_; try simp only [clL])
 refine a0L (v := .slice a1 xs.length c1) rfl rfl (fun wx hS => ?_) ?_
 ·have hc := hS.1.cell (i := 0) rfl
  clear hS
  go_simp
 try simp only [clL]
 refine a0h rfl rfl rfl rfl (cw 4 (eQ z)) (fun wx hS => hS.2.range 0 _ dZl) Tryz.underlying125 rfl (a0G _) ?_
 try simp only [clL]
 iterate 3 (refine a0a rfl rfl apW ?_; try simp only [clL])
 refine a0L (v := .slice a2 lp.length c2) rfl rfl (fun wx hS => ?_) ?_
 ·have hc := hS.1.cell (i := 1) rfl
  clear hS
  go_simp
 try simp only [clL]
 refine a0a rfl rfl apW ?_
 try simp only [clL]
 refine l0k (C := fun g7 g8 q wz => Sy X w wz [(g, [.slice a1 xs.length c1, .slice a2 lp.length c2], 121)] [⟨q, 125, 4, xs.length + 1, qC xs ++ qC [z]⟩, ⟨.slice a2 lp.length c2, 23, 1, lp.length, vs⟩] ∧ Has wz g8 [.slice av nv cv] 23) (F := ?_) (fun key => ?_) ?_
 rotate_left 1
 ·skip
  refine c0C rfl rfl rfl rfl ?_ ?_
  ·skip
   refine c0g y2 rfl Tryz.underlying89 d0s [i4 (eQ z)] rfl (g0O _) rfl (qC [z]) (n0M _) ?_
   intro g7 w3 y3 hf3
   clear hf3
   refine ⟨⟨y3.at 0 rfl, y3.at 1 rfl⟩, ?_⟩
   try simp only [clL]
   refine c0C rfl rfl rfl rfl ?_ ?_
   ·skip
    refine b0B y3 0 rfl rfl Tryz.underlying89 d0s rfl ap2 rfl rfl (l0j (y3.at 2 rfl)) (i0T _) ap9 ap1 ?_
    intro q w4 y4 hf4
    clear hf4
    refine ⟨⟨y4.at 0 rfl, y4.at 1 rfl⟩, ?_⟩
    try simp only [clL]
    refine a0q rfl rfl ?_
    refine c0g y4 rfl Tryz.underlying24 a0M [.slice av nv cv] rfl (c0f _ _ _) rfl [.slice av nv cv] rfl ?_
    intro g8 w5 y5 hf5
    clear hf5
    refine ⟨⟨y5.at 0 rfl, y5.at 1 rfl⟩, ?_⟩
    try simp only [clL]
    exact key g7 g8 q _ ⟨y5.less (List.cons_sublist_cons.2 (List.nil_sublist _)) (List.Sublist.refl _), y5.at 3 rfl⟩
   ·skip
    refine c0g y3 rfl Tryz.underlying24 a0M [.slice av nv cv] rfl (c0f _ _ _) rfl [.slice av nv cv] rfl ?_
    intro g8 w4 y4 hf4
    clear hf4
    refine ⟨⟨y4.at 0 rfl, y4.at 1 rfl⟩, ?_⟩
    try simp only [clL]
    refine a0q rfl rfl ?_
    refine b0B y4 0 rfl rfl Tryz.underlying89 d0s rfl ap2 rfl rfl (l0j (y4.at 2 rfl)) (i0T _) ap9 ap1 ?_
    intro q w5 y5 hf5
    clear hf5
    refine ⟨⟨y5.at 0 rfl, y5.at 1 rfl⟩, ?_⟩
    try simp only [clL]
    exact key g7 g8 q _ ⟨y5.less (List.cons_sublist_cons.2 (List.nil_sublist _)) (List.Sublist.refl _), y5.at 3 rfl⟩
  ·skip
   refine c0g y2 rfl Tryz.underlying24 a0M [.slice av nv cv] rfl (c0f _ _ _) rfl [.slice av nv cv] rfl ?_
   intro g8 w3 y3 hf3
   clear hf3
   refine ⟨⟨y3.at 0 rfl, y3.at 1 rfl⟩, ?_⟩
   try simp only [clL]
   refine a0q rfl rfl ?_
   refine c0g y3 rfl Tryz.underlying89 d0s [i4 (eQ z)] rfl (g0O _) rfl (qC [z]) (n0M _) ?_
   intro g7 w4 y4 hf4
   clear hf4
   refine ⟨⟨y4.at 0 rfl, y4.at 1 rfl⟩, ?_⟩
   try simp only [clL]
   refine a0q rfl rfl ?_
   refine b0B y4 0 rfl rfl Tryz.underlying89 d0s rfl ap2 rfl rfl (l0j (y4.at 3 rfl)) (i0T _) ap9 ap1 ?_
   intro q w5 y5 hf5
   clear hf5
   refine ⟨⟨y5.at 0 rfl, y5.at 1 rfl⟩, ?_⟩
   try simp only [clL]
   exact key g7 g8 q _ ⟨y5.less (List.cons_sublist_cons.2 (List.nil_sublist _)) (List.Sublist.refl _), y5.at 2 rfl⟩
 intro g7 g8 q w5 hk
 obtain ⟨y5, hh⟩ := hk
 clear y2
 obtain ⟨aq, cq, rfl, -⟩ := y5.sl 0 rfl
 refine a0o rfl rfl ?_
 refine b0B y5 1 rfl rfl Tryz.underlying24 a0M rfl ap2 rfl rfl (Rd.whole hh) (d0V _ _ _) ap9 ap1 ?_
 intro q2 w6 y6 hf6
 clear hf6 hh y5
 obtain ⟨aq2, cq2, rfl, -⟩ := y6.sl 1 rfl
 try simp only [clL]
 iterate 2 (refine a0a rfl rfl apW ?_; try simp only [clL])
 refine a0o rfl rfl ?_
 refine c0h y6 0 rfl 0 rfl rfl rfl ap4 x0m rfl rfl ?_
 intro w7 y7 hf7
 clear hf7 y6
 try simp only [clL]
 iterate 2 (refine a0a rfl rfl apW ?_; try simp only [clL])
 refine a0o rfl rfl ?_
 refine c0h y7 0 rfl 1 rfl rfl rfl ap4 l0l rfl rfl ?_
 intro w8 y8 hf8
 clear hf8 y7
 try simp only [clL]
 refine a0e ?_
 refine NoPanic.normal ?_
 have hr := SumA.back (z := z) (l := l) (by rw [m0B, ← h0T]; exact y8) rfl HX.out HXY.out HP.out HV.out
 have HR := qH (And.intro hr y8.st.fr)
 clear hr y8
 go_wp2_with fail
 go_end0
 exact ⟨rfl, HR.out.1, HR.out.2⟩
end
section
open Go.RowKit Go.Mv Mvp Mvq
theorem f0I {α : Type} (a : List α) (j : Nat) (x : α) (h : a[j]? = some x) : a.take (j + 1) = a.take j ++ [x] := by rw [List.take_add_one, h]; rfl
theorem PartsO.get {w : World} {X : Nat → Prop} : ∀ {vs : List Value} {ls : List (List UInt8)} (j : Nat) (l : List UInt8), PartsO w X vs ls → ls[j]? = some l → ∃ v, vs[j]? = some v ∧ PartO w X v l
 | v :: vs, l :: ls, 0, m, h, hl => by simp at hl; subst hl; exact ⟨v, rfl, h.1⟩
 | v :: vs, l :: ls, j + 1, m, h, hl => by
  obtain ⟨u, h1, h2⟩ := PartsO.get j m h.2 (by simpa using hl)
  exact ⟨u, by simpa using h1, h2⟩
 | [], [], j, m, h, hl => by simp at hl
 | [], _ :: _, _, _, h, _ => h.elim
 | _ :: _, [], _, _, h, _ => h.elim
attribute [local irreducible] a0v lw mix cw b0e b0f b0a beN b0l b0b a0z a0F elN mdL b0m rtV b0J c0m b0s c0Q a0D c0z e0H e0I a0R a0T b0c toB a0u a0w a0Y a0E b0Z a0S a0x c0n b0t c0G e0U wrQ qC eQ bZ
theorem t0W (X Y : Nat → Prop) (g : Nat) (xs : List Zq) (lp : List (List UInt8)) (al : Option Addr) (c : Nat) (a : List Zq) (bl : Option Addr) (d : Nat) (us : List Value) (ls : List (List UInt8)) (w : World) (hs : SumA w X Y g xs lp)
  (ha : Rd w al (a.length * 4) (qC a)) (hoa : Off X al) (hb : Rd w bl ls.length us) (hob : Off X bl) (hp : PartsO w Y us ls) (hl : a.length = ls.length) (hn : xs.length + a.length ≤ 100000) (hm : lp.length + a.length ≤ 100000) :
  Calls Tryz.prog 137 #[.pointer (some ⟨g, 0, none⟩), .slice al a.length c, .slice bl ls.length d] w fun e w' => e = .returned (.tuple #[]) ∧ SumA w' X Y g (xs ++ a) (lp ++ ls) ∧ Fr X w w' := by
 have HS := qH hs
 have HSUB := qH hs.sub
 have HA := qH ha
 have HOA := qH hoa
 have HB := qH hb
 have HOB := qH hob
 have HP := qH hp
 have HLE := qH hl
 clear hs ha hoa hb hob hp hl
 go_enter Tryz.func137, Tryz.ntmps137
 go_wp2_with fail
 go_loopw [10] (fun i wr => ∃ j : Nat, j ≤ a.length ∧ i = .int .i64 (j : Int) ∧ SumA wr X Y g (xs ++ a.take j) (lp ++ ls.take j) ∧ Fr X w wr) (fun i _ => (a.length - intOf i).toNat)
 case atStart => exact ⟨0, by omega, rfl, by rw [List.take_zero, List.take_zero, List.append_nil, List.append_nil]; exact HS.out, Fr.refl _ _⟩
 case round =>
  obtain ⟨j, hj, rfl, hsj, hfj⟩ := hrel
  by_cases hlt : j < a.length
  ·have hltI : (j : Int) < (a.length : Int) := by omega
   have hltI2 : (j : Int) < (ls.length : Int) := by have := HLE.out; omega
   obtain ⟨x, hx⟩ : ∃ x, a[j]? = some x := ⟨_, List.getElem?_eq_getElem hlt⟩
   obtain ⟨m, hm⟩ : ∃ m, ls[j]? = some m := ⟨_, List.getElem?_eq_getElem (by have := HLE.out; omega)⟩
   obtain ⟨u, hu, hpu⟩ := PartsO.get j m HP.out hm
   have HA2 := qH (HA.out.keep hfj HOA.out)
   have HB2 := qH (HB.out.keep hfj HOB.out)
   have HPU := qH (PartO.keep hpu hfj HSUB.out)
   have HX := qH hx
   have HU := qH hu
   have HTA := qH (f0I a j x hx)
   have HTL := qH (f0I ls j m hm)
   have HL1 := qH (show (xs ++ a.take j).length ≤ 100000 by rw [List.length_append, List.length_take]; omega)
   have HL2 := qH (show (lp ++ ls.take j).length ≤ 100000 by rw [List.length_append, List.length_take]; omega)
   have HSJ := qH hsj
   have HFJ := qH hfj
   obtain ⟨ba, oa, rfl, -⟩ := HA2.out.at ap1
   obtain ⟨bb, ob, rfl, -⟩ := HB2.out.at (by have := HLE.out; omega)
   clear hx hm hu hpu hsj hfj
   have st0 := St.start Nob wr
   go_wp2_with (with_reducible refine wSk 14 ?_)
   refine d0L rfl rfl Tryz.underlying125 rfl rfl (o0D (HA2.out.still st0.fr) (j * 4) (cw 4 (eQ x)) (e0J a j x HX.out)) (a0G _) ?_
   go_wp2_with (with_reducible refine wSk 7 ?_)
   refine a0b st0 rfl rfl m0x (cw 4 0) g0v ?_
   intro g7 w1 st1
   clear st0
   go_wp2_with (with_reducible refine wSn ?_)
   refine a0c st1 0 rfl rfl rfl rfl rfl (e0c _ _) (a0G _) (a0f _ _) ?_
   intro w2 st2
   clear st1
   go_wp2_with fail
   refine wp_region_noPanic ?_
   refine a0d (fun wx => St Nob wr wx [(g7, cw 4 (eQ x), 125)]) 6 (.w 0 (.t 1 (.w 2 (.w 3 (.w 4 (.t 5 (.m 6 .nil))))))) ap0 ap0 st2.drew (fun _ _ _ _ _ h => h) ?_
   have hd2 := st2.drew
   clear st2
   refine a0a rfl rfl apW ?_
   try simp only [clL]
   refine a0h rfl rfl rfl rfl (cw 4 (eQ x)) (fun wx hS => St.rangeL hS 0 rfl 0 _ dZl) Tryz.underlying125 rfl (a0G _) ?_
   try simp only [clL]
   iterate 3 (refine a0a rfl rfl apW ?_; try simp only [clL])
   refine a0L (v := ?_) rfl rfl (fun wx hS => ?_) ?_
   rotate_left 1
   ·(have hc := c0S (HB2.out.still (St.fr hS)) j u HU.out; clear hS; go_simp; with_reducible rfl)
   try simp only [clL]
   refine a0o rfl rfl ?_
   go_simp
   refine (r0P X Y g _ _ x u m _ (HSJ.out.still hd2.fr) (PartO.still HPU.out hd2.fr) HL1.out HL2.out).mono ?_
   rintro e' w9 ⟨rfl, hs9, hf9⟩
   have HS9 := qH hs9
   have HF9 := qH ((HFJ.out.same hd2.fr).trans hf9 fun _ _ t => t)
   have st3 := St.start Nob w9
   clear hs9 hf9
   clear hd2
   try simp only []
   refine a0e ?_
   refine NoPanic.normal ?_
   clear st3
   go_wp2_with fail
   go_roundw
   case rel => exact ⟨j + 1, by omega, by go_num, by rw [HTA.out, HTL.out, ← List.append_assoc, ← List.append_assoc]; exact HS9.out, HF9.out⟩
   case measure => simp [intOf]; omega
  ·have hge : ¬ ((j : Int) < (a.length : Int)) := by omega
   have hj2 : j = a.length := by omega
   rw [List.take_of_length_le ap1, List.take_of_length_le (by have := HLE.out; omega)] at hsj
   have HSJ := qH hsj
   have HFJ := qH hfj
   clear hj2 hlt hsj hfj
   go_wp2_with fail
   go_end0
   exact ⟨rfl, HSJ.out, HFJ.out⟩
end
section
open Go.RowKit Go.Mv Mvp Mvq
theorem z0y {xs : List Nat} {ps : List Pt} (hp : ∀ p ∈ ps, onC p) : ∀ t ∈ List.zipWith (fun x p => (x, p)) xs ps, onC t.2 := by
 intro t ht
 rw [List.mem_iff_getElem?] at ht
 obtain ⟨i, hi⟩ := ht
 rw [List.getElem?_zipWith] at hi
 cases h1 : xs[i]? with
 | none => rw [h1] at hi; simp at hi
 | some a =>
  cases h2 : ps[i]? with
  | none => rw [h1, h2] at hi; simp at hi
  | some b =>
   rw [h1, h2] at hi
   simp only [Option.some.injEq] at hi
   subst hi
   exact hp b (List.mem_of_getElem? h2)
theorem z0z (xs : List Zq) (lp : List (List UInt8)) (hl : xs.length = lp.length) (h5 : xs.length ≤ 512) (hr : ∀ l ∈ lp, b0s l = true) : e0I (xs.map bZ) lp = wrQ (b0n xs (lp.map ptQ)) := by
 have hn : a0D mQ (xs.map bZ) = true := by
  unfold a0D
  rw [List.all_eq_true]
  intro y hy
  obtain ⟨x, _, rfl⟩ := List.mem_map.1 hy
  have h := j0I x.val
  rw [t0N, Nat.mod_eq_of_lt x.isLt] at h
  exact h
 have hr2 : c0z lp = true := by unfold c0z; rw [List.all_eq_true]; exact hr
 have h0 : e0F (smL (xs.map bZ) lp lp.length) = e0F (List.zipWith (fun x p => (x, p)) (xs.map (·.val)) (lp.map c0Q)) := by
  congr 1
  apply List.ext_getElem (by simp [smL, hl])
  intro i h1 h2
  simp only [smL, List.length_map, List.length_range] at h1
  have h3 : i < xs.length := by omega
  have e : beN (bZ (xs[i]'h3)) = (xs[i]'h3).val := by
   have h := u0W (xs[i]'h3).val
   rw [t0N, Nat.mod_eq_of_lt (xs[i]'h3).isLt] at h
   exact h
  simp [smL, List.getD_eq_getElem?_getD, h1, h3, e]
 have hon : ∀ p ∈ lp.map c0Q, onC p := by
  intro p hp
  obtain ⟨l, hl2, rfl⟩ := List.mem_map.1 hp
  exact y0G (hr l hl2)
 unfold e0I
 rw [if_pos (by rw [List.length_map]; exact hl), if_pos (by rw [List.length_map]; exact h5), hn, hr2, if_pos rfl, if_pos rfl, h0, v0b (e0X _ (z0y hon)), r0G _ _ (by simp [hl]) hon]
 congr 2
 ·rw [List.map_map]
  conv => rhs; rw [← List.map_id xs]
  exact List.map_congr_left fun x _ => e0Z x
 ·rw [List.map_map]; rfl
end
section
open Go.RowKit Go.Mv Mvp Mvq
def LRd (w : World) (a : Option Addr) (xs : List Zq) : Prop := ∃ vs, Rd w a xs.length vs ∧ BParts w vs (xs.map bZ)
theorem LRd.still {w w' : World} {a : Option Addr} {xs : List Zq} (h : LRd w a xs) (hf : Fr Nob w w') : LRd w' a xs := by obtain ⟨vs, h1, h2⟩ := h; exact ⟨vs, h1.still hf, h2.still hf⟩
theorem t0X (al : Option Addr) (c : Nat) (xs : List Zq) (w : World) (hv : Rd w al (xs.length * 4) (qC xs)) (hn : xs.length ≤ 100000) :
  Calls Tryz.prog 122 #[.slice al xs.length c] w fun e w' => ∃ y : Option Addr × Nat, e = .returned (.slice y.1 xs.length y.2) ∧ LRd w' y.1 xs ∧ Fr Nob w w' := by
 refine (t0O al c xs w hv hn).mono ?_
 rintro e w' ⟨v, rfl, ho, hf⟩
 obtain ⟨a, c, vs, rfl, hr, hp⟩ := SOwn.bpartsT ho
 rw [List.length_map] at hr ⊢
 exact ⟨(a, c), rfl, ⟨vs, hr, hp⟩, hf⟩
theorem z0A (xs : List Zq) (lp : List (List UInt8)) (hl : xs.length = lp.length) (h5 : xs.length ≤ 512) (hr : ∀ l ∈ lp, b0s l = true) : e0H (xs.map bZ) lp = 0 := by
 have hn : a0D mQ (xs.map bZ) = true := by
  unfold a0D
  rw [List.all_eq_true]
  intro y hy
  obtain ⟨x, _, rfl⟩ := List.mem_map.1 hy
  have h := j0I x.val
  rw [t0N, Nat.mod_eq_of_lt x.isLt] at h
  exact h
 have hr2 : c0z lp = true := by unfold c0z; rw [List.all_eq_true]; exact hr
 unfold e0H
 rw [if_pos (by rw [List.length_map]; exact hl), if_pos (by rw [List.length_map]; exact h5), hn, hr2, if_pos rfl, if_pos rfl]
theorem A0w (xs : List Zq) (lp : List (List UInt8)) (a : Option Addr) (c : Nat) (bl : Option Addr) (d : Nat) (us : List Value) (w : World) (hx : LRd w a xs) (hu : Rd w bl lp.length us) (hq : BParts w us lp) (hl : xs.length = lp.length) (h5 : xs.length ≤ 512) (hr : ∀ l ∈ lp, b0s l = true) (D : Zq) (hD : b0n xs (lp.map ptQ) = D) :
  Calls Tryz.prog 121 #[.slice a xs.length c, .slice bl lp.length d] w fun e w' => ∃ q, e = .returned (.tuple #[q, .int .i64 0]) ∧ OwnB1 w w' q (wrQ D) ∧ Fr Nob w w' := by
 obtain ⟨vs, h1, h2⟩ := hx
 have h := w0S a c vs (xs.map bZ) bl d us lp w (by rw [List.length_map]; exact h1) h2 hu hq
 rw [List.length_map, z0A xs lp hl h5 hr, z0z xs lp hl h5 hr, hD] at h
 exact h
attribute [local irreducible] a0v lw mix cw b0e b0f b0a beN b0l b0b a0z a0F elN mdL b0m rtV b0J c0m b0s c0Q a0D c0z e0H e0I a0R a0T b0c toB a0u a0w a0Y a0E b0Z a0S a0x c0n b0t c0G e0U wrQ qC eQ bZ
theorem m0G (X Y : Nat → Prop) (g : Nat) (xs : List Zq) (lp : List (List UInt8)) (w : World) (hs : SumA w X Y g xs lp) (hl : xs.length = lp.length) (h5 : xs.length ≤ 512) (hr : ∀ l ∈ lp, b0s l = true) (D : Zq) (hD : b0n xs (lp.map ptQ) = D) :
  Calls Tryz.prog 138 #[.pointer (some ⟨g, 0, none⟩)] w fun e w' => ∃ v, e = .returned v ∧ OwnB1 w w' v (wrQ D) ∧ Fr Nob w w' := by
 obtain ⟨v1, v2, vs, hY, hX, -, hP⟩ := hs
 obtain ⟨a1, c1, e1, hc1, hr1, -⟩ := Go.Mv.Own.form (hY.own 0 rfl)
 obtain ⟨a2, c2, e2, hc2, hr2, -⟩ := Go.Mv.Own.form (hY.own 1 rfl)
 subst e1 e2
 have HG := qH (hY.at 0 rfl)
 have HR1 := qH hr1
 rw [Nat.mul_one] at hr2
 have HR2 := qH hr2
 have HP := qH (PartsO.bps hP)
 have HL := qH hl
 have HRD := qH hr
 have HD := qH hD
 clear hY hX hP hr1 hr2 hl hr hD hc1 hc2
 have st0 := St.start Nob w
 go_enter Tryz.func138, Tryz.ntmps138
 go_wp2_with fail
 refine wp_region_noPanic ?_
 refine e0K st0 (fun _ => True) trivial (fun _ _ h _ => h) 14 [.w 0, .w 1, .w 2, .t 3, .w 5, .w 6, .w 7, .t 8, .c 4, .c 9, .w 10, .w 11, .w 12, .w 13] (.m 14 .nil) ap0 ap0 (fun _ _ _ _ _ h => h) ?_
 clear st0
 iterate 3 (refine a0n rfl rfl apX ?_; try simp only [clL])
 refine a0P (v := ?_) rfl rfl (fun xq wx hS => ?_) ?_
 rotate_left 1
 ·(have hc := (HG.out.keep (St.fr hS) id).cell (i := 0) rfl; clear hS; go_simp; with_reducible rfl)
 try simp only [clL]
 iterate 3 (refine a0n rfl rfl apX ?_; try simp only [clL])
 refine a0P (v := ?_) rfl rfl (fun xq wx hS => ?_) ?_
 rotate_left 1
 ·(have hc := (HG.out.keep (St.fr hS) id).cell (i := 1) rfl; clear hS; go_simp; with_reducible rfl)
 try simp only [clL]
 refine c0c (X := Option Addr × Nat) (fun y => .slice y.1 xs.length y.2) (fun y wx => LRd wx y.1 xs) (fun _ _ _ h k => h.still k) rfl rfl rfl Tryz.call122 (fun w hS hR => t0X a1 c1 xs _ (HR1.out.still hS.fr) ap1) (fun _ => rfl) fun y10 => ?_
 try simp only [clL]
 refine c0c (X := Value) (fun q => .tuple #[q, .int .i64 0]) (fun q wx => OwnB1 w wx q (wrQ D)) (fun _ _ _ h k => Go.Mv.Own.still h k) rfl rfl rfl Tryz.call121 (fun w hS hR => (A0w xs lp y10.1 y10.2 a2 c2 vs _ hR.2 (HR2.out.still hS.fr) (BParts.still HP.out hS.fr) HL.out h5 HRD.out D HD.out).mono fun e w' ⟨q, h1, h2, h3⟩ => ⟨q, h1, Go.Mv.Own.mono h2 hS.fr.size, h3⟩) (fun _ => rfl) fun q15 => ?_
 try simp only [clL]
 iterate 4 (refine a0n rfl rfl apX ?_; try simp only [clL])
 refine a0J fun xq w1 st1 hR => ?_
 try dsimp only
 have HO := qH hR.2
 clear hR xq
 refine a0o rfl rfl ?_
 go_simp
 try simp only [clL]
 refine a0e ?_
 refine NoPanic.normal ?_
 have HF := qH st1.fr
 clear st1
 go_wp2_with fail
 go_ret
 exact ⟨_, rfl, HO.out, HF.out⟩
theorem t0Y (D : Zq) : ((((wrQ D).getD 0 0).toNat : Int) == 0) = decide (D = 0) := by
 by_cases h : D = 0
 ·rw [decide_eq_true h]
  have h2 := (n0J D).2 h
  rw [h2]; rfl
 ·rw [decide_eq_false h]
  have h2 : (wrQ D).getD 0 0 ≠ 0 := fun e => h ((n0J D).1 e)
  have h3 : ((wrQ D).getD 0 0).toNat ≠ 0 := fun e => h2 (UInt8.toNat_inj.1 e)
  generalize ((wrQ D).getD 0 0).toNat = x at *
  simp
  omega
theorem r0Q (X Y : Nat → Prop) (g : Nat) (xs : List Zq) (lp : List (List UInt8)) (w : World) (hs : SumA w X Y g xs lp) (hl : xs.length = lp.length) (h5 : xs.length ≤ 512) (hr : ∀ l ∈ lp, b0s l = true) (D : Zq) (hD : b0n xs (lp.map ptQ) = D) :
  Calls Tryz.prog 67 #[.pointer (some ⟨g, 0, none⟩)] w fun e w' => e = .returned (.bool (decide (D = 0))) ∧ Fr Nob w w' := by
 have HS := qH hs
 have HL := qH hl
 have HRD := qH hr
 have HD := qH hD
 clear hs hl hr hD
 go_enter Tryz.func67, Tryz.ntmps67
 go_wp2_with fail
 refine (m0G X Y g xs lp _ HS.out HL.out h5 HRD.out D HD.out).mono ?_
 rintro e' w1 ⟨v, rfl, ho, hf⟩
 obtain ⟨a, c, rfl, -, hr, -⟩ := Go.Mv.Own.form ho
 rw [d0U] at hr ⊢
 rw [Nat.mul_one] at hr
 have hb := t0Y D
 obtain ⟨b0, o0, rfl, -⟩ := hr.at ap2
 have hc := c0S hr 0 _ (p0p (wrQ D) 0 (by rw [d0U]; decide))
 rw [Nat.add_zero] at hc
 have HF := qH hf
 clear ho hf hr
 generalize (wrQ D).getD 0 0 = x at *
 obtain ⟨r, hrr⟩ : ∃ r, decide (D = 0) = r := ⟨_, rfl⟩
 rw [hrr] at hb
 have HRR := qH hrr
 clear hrr
 go_wp2_with fail
 go_ret
 refine ⟨?_, HF.out⟩
 show Ending.returned (Value.bool r) = _
 rw [HRR.out]
theorem PartO.old {w : World} {X : Nat → Prop} {v : Value} {l : List UInt8} (h : BPart w v l) (hX : ∀ j, X j → w.heap.size ≤ j) : PartO w X v l := by
 obtain ⟨a, n, c, rfl, hc, hr⟩ := h
 refine ⟨a, n, c, rfl, hc, hr, ?_⟩
 rcases Nat.eq_zero_or_pos n with h0 | h0
 ·exact .inl h0
 ·obtain ⟨b, o, rfl, -⟩ := hr.at h0
  refine .inr fun x hx hx2 => ?_
  cases hx
  have h1 := hX _ hx2
  have h2 := Rd.lt hr h0
  exact absurd h2 (by show ¬ b < _; have h3 : w.heap.size ≤ b := h1; omega)
theorem PartsO.old {w : World} {X : Nat → Prop} (hX : ∀ j, X j → w.heap.size ≤ j) : ∀ {vs : List Value} {ls : List (List UInt8)}, BParts w vs ls → PartsO w X vs ls
 | [], [], _ => trivial
 | v :: vs, l :: ls, h => ⟨PartO.old (h.2 0 v rfl) hX, PartsO.old hX ⟨by simpa using h.1, fun i u hu => by simpa using h.2 (i + 1) u (by simpa using hu)⟩⟩
 | [], _ :: _, h => by simp [BParts] at h
 | _ :: _, [], h => by simp [BParts] at h
theorem Off.old {w : World} {X : Nat → Prop} {a : Option Addr} {n : Nat} {vs : List Value} (h : Rd w a n vs) (hn : 0 < n) (hX : ∀ j, X j → w.heap.size ≤ j) : Off X a := by
 obtain ⟨b, o, rfl, -⟩ := h.at hn
 intro x hx hx2
 cases hx
 have h1 := hX _ hx2
 have h2 := Rd.lt h hn
 have h3 : w.heap.size ≤ b := h1
 omega
theorem Fr.newX {w w1 w2 : World} (h : Fr Nob w w1) (k : Fr (fun j => w.heap.size ≤ j) w1 w2) : Fr Nob w w2 := h.trans k fun i hi hx => by
 have h2 : w.heap.size ≤ i := hx
 omega
theorem v0f : (Tryz.prog.info? 121).map (·.zero) = some (some (.agg #[.slice none 0 0, .slice none 0 0])) := by kernel_rfl
theorem r0R (ps : List Zq) : (ps.map wrQ).map ptQ = ps := by
 rw [List.map_map]
 conv => rhs; rw [← List.map_id ps]
 exact List.map_congr_left fun x _ => i0R x
theorem r0S (ps : List Zq) : ∀ l ∈ ps.map wrQ, b0s l = true := by
 intro l h
 obtain ⟨x, _, rfl⟩ := List.mem_map.1 h
 exact f0F x
theorem x0n (a b g h : List Zq) (u : Zq) (h1 : a.length = g.length) (h2 : b.length = h.length) : b0n ([] ++ a ++ b ++ [b0n a b]) (([] ++ g.map wrQ ++ h.map wrQ ++ [wrQ u]).map ptQ) = d0w a b g h u := by
 rw [List.nil_append, List.nil_append, List.map_append, List.map_append, r0R, r0R, c0i _ _ _ _ (by simp [h1, h2]), c0i _ _ _ _ h1, List.map_singleton, i0R]
 show _ + (b0n a b * u + 0) = _
 unfold d0w
 generalize b0n a g = p; generalize b0n b h = q; generalize b0n a b = r
 grind -lia -linarith
theorem n0P (X Y : Nat → Prop) (g : Nat) (xs : List Zq) (lp : List (List UInt8)) (al : Option Addr) (c : Nat) (a : List Zq) (bl : Option Addr) (d : Nat) (us : List Value) (ls : List (List UInt8)) (na nb : Nat) (e1 : a.length = na) (e2 : ls.length = nb) (w : World) (hs : SumA w X Y g xs lp)
  (ha : Rd w al (a.length * 4) (qC a)) (hoa : Off X al) (hb : Rd w bl ls.length us) (hob : Off X bl) (hp : PartsO w Y us ls) (hl : a.length = ls.length) (hn : xs.length + a.length ≤ 100000) (hm : lp.length + a.length ≤ 100000) :
  Calls Tryz.prog 137 #[.pointer (some ⟨g, 0, none⟩), .slice al na c, .slice bl nb d] w fun e w' => e = .returned (.tuple #[]) ∧ SumA w' X Y g (xs ++ a) (lp ++ ls) ∧ Fr X w w' := by
 subst e1 e2
 exact t0W X Y g xs lp al c a bl d us ls w hs ha hoa hb hob hp hl hn hm
theorem z0B (va vb vg vh vu : Value) (a b g h : List Zq) (u : Zq) (w : World) (ha : RZ w va a) (hb : RZ w vb b) (hg : RP w vg g) (hh : RP w vh h) (hu : BPart w vu (wrQ u)) (n : Nat) (hn : 0 < n) (hn2 : n ≤ 200) (la : a.length = n) (lb : b.length = n) (lg : g.length = n) (lh : h.length = n) :
  Calls Tryz.prog 48 #[va, vb, vg, vh, vu] w fun e w' => ∃ v, e = .returned v ∧ OwnB1 w w' v (wrQ (d0w a b g h u)) ∧ Fr Nob w w' := by
 have HD := qH (x0n a b g h u (by rw [la, lg]) (by rw [lb, lh]))
 obtain ⟨aa, ca, rfl, hca, hra⟩ := ha
 obtain ⟨ab, cb, rfl, hcb, hrb⟩ := hb
 obtain ⟨ag, cg, ug, rfl, hcg, hrg, hpg⟩ := hg
 obtain ⟨ah, ch, uh, rfl, hch, hrh, hph⟩ := hh
 have HU := qH (PartO.old (X := (fun j => w.heap.size ≤ j)) hu fun _ h => h)
 obtain ⟨au, nu, cu, rfl, -⟩ := hu
 have HA := qH hra
 have HB := qH hrb
 have HG := qH (show Rd w ag (g.map wrQ).length ug by rw [List.length_map]; exact hrg)
 have HH := qH (show Rd w ah (h.map wrQ).length uh by rw [List.length_map]; exact hrh)
 have OA := qH (Off.old (X := (fun j => w.heap.size ≤ j)) hra ap1 fun _ h => h)
 have OB := qH (Off.old (X := (fun j => w.heap.size ≤ j)) hrb ap1 fun _ h => h)
 have OG := qH (Off.old (X := (fun j => w.heap.size ≤ j)) hrg ap1 fun _ h => h)
 have OH := qH (Off.old (X := (fun j => w.heap.size ≤ j)) hrh ap1 fun _ h => h)
 have PG := qH (PartsO.old (X := (fun j => w.heap.size ≤ j)) (fun _ h => h) hpg)
 have PH := qH (PartsO.old (X := (fun j => w.heap.size ≤ j)) (fun _ h => h) hph)
 have LA := qH la
 have LB := qH lb
 have LG := qH (show (g.map wrQ).length = n by rw [List.length_map]; exact lg)
 have LH := qH (show (h.map wrQ).length = n by rw [List.length_map]; exact lh)
 clear hca hcb hcg hch hra hrb hrg hrh hpg hph la lb lg lh
 go_enter Tryz.func48, Tryz.ntmps48
 go_wp2_with (with_reducible refine wSk 11 ?_)
 refine b0N rfl (d0B (Sy.start Nob w) rfl v0f _ rfl ?_)
 intro g1 w1 y1 hf1
 have HS1 := qH (SumA.zero (y1.at 0 rfl) (y1.st.fresh0 0 rfl) hf1.size)
 have HF1 := qH hf1
 clear y1 hf1
 go_wp2_with fail
 refine (n0P _ _ g1 [] [] aa ca a ag cg ug (g.map wrQ) a.length g.length rfl (List.length_map wrQ) _ HS1.out (HA.out.still HF1.out) OA.out (HG.out.still HF1.out) OG.out (PartsO.keep HF1.out (fun _ t => t.elim) PG.out) (by rw [LA.out, LG.out]) (by rw [LA.out, List.length_nil]; omega) (by rw [LA.out, List.length_nil]; omega)).mono ?_
 rintro e' w2 ⟨rfl, hs2, hf2⟩
 have HS2 := qH hs2
 have HF2 := qH (Fr.newX HF1.out hf2)
 clear hs2 hf2 HS1 HF1
 go_wp2_with fail
 refine (n0P _ _ g1 _ _ ab cb b ah ch uh (h.map wrQ) b.length h.length rfl (List.length_map wrQ) _ HS2.out (HB.out.still HF2.out) OB.out (HH.out.still HF2.out) OH.out (PartsO.keep HF2.out (fun _ t => t.elim) PH.out) (by rw [LB.out, LH.out]) (by rw [LB.out, List.length_append, LA.out, List.length_nil]; omega) (by rw [LB.out, List.length_append, LG.out, List.length_nil]; omega)).mono ?_
 rintro e' w3 ⟨rfl, hs3, hf3⟩
 have HS3 := qH hs3
 have HF3 := qH (Fr.newX HF2.out hf3)
 clear hs3 hf3 HS2 HF2
 go_wp2_with fail
 refine (A0v aa ca a ab cb b _ (HA.out.still HF3.out) (HB.out.still HF3.out) (by rw [LA.out, LB.out]) (by rw [LA.out]; omega)).mono ?_
 rintro e' w4 ⟨rfl, hf4⟩
 have HS4 := qH (HS3.out.still hf4)
 have HF4 := qH (HF3.out.then hf4)
 clear hf4 HS3 HF3
 go_wp2_with fail
 refine (r0P _ _ g1 _ _ (b0n a b) _ (wrQ u) _ HS4.out (PartO.still HU.out HF4.out) (by rw [List.length_append, List.length_append, LA.out, LB.out, List.length_nil]; omega) (by rw [List.length_append, List.length_append, LG.out, LH.out, List.length_nil]; omega)).mono ?_
 rintro e' w5 ⟨rfl, hs5, hf5⟩
 have HS5 := qH hs5
 have HF5 := qH (Fr.newX HF4.out hf5)
 clear hs5 hf5 HS4 HF4
 go_wp2_with fail
 refine (m0G _ _ g1 _ _ _ HS5.out (by have h1 := LA.out; have h2 := LB.out; have h3 := LG.out; have h4 := LH.out; simp only [List.length_append, List.length_singleton, List.length_nil]; omega) (by have h1 := LA.out; have h2 := LB.out; simp only [List.length_append, List.length_singleton, List.length_nil]; omega) (by
  intro l hl
  simp only [List.nil_append, List.mem_append, List.mem_singleton] at hl
  rcases hl with (hl | hl) | rfl
  ·exact r0S g l hl
  ·exact r0S h l hl
  ·exact f0F u) _ HD.out).mono ?_
 rintro e' w6 ⟨v, rfl, ho, hf⟩
 have HO := qH (Go.Mv.Own.mono ho HF5.out.size)
 have HF := qH (HF5.out.then hf)
 clear ho hf HS5
 go_wp2_with fail
 go_ret
 exact ⟨_, rfl, HO.out, HF.out⟩
end
section
open Go.RowKit Go.Mv Mvp Mvq
theorem z0C (x y : Zq) (a : List Zq) (n j : Nat) (_hl : a.length = n + n) (hj : j < n) (z u : Zq) (hz : a[j]? = some z) (hu : a[n + j]? = some u) : (b0I x (a.take n) y (a.drop n))[j]? = some (z * x + u * y) := by
 unfold b0I
 rw [List.getElem?_zipWith, List.getElem?_take, if_pos hj, hz, List.getElem?_drop, hu]
 simp only [Option.some.injEq]
 grind -lia -linarith
theorem e0u (x y : Zq) (a : List Zq) (n : Nat) (hl : a.length = n + n) : (b0I x (a.take n) y (a.drop n)).length = n := by
 rw [d0T _ _ _ _ (by rw [List.length_take, List.length_drop]; omega), List.length_take]; omega
theorem t0Z (M : List Zq) (j : Nat) (x : Zq) (h : M[j]? = some x) : qC (M.take j) ++ qC [x] = qC (M.take (j + 1)) := by rw [f0I M j x h, m0B, h0T]
theorem u0a (M : List Zq) : qC (M.take 0) = [] := by rw [List.take_zero, h0S]
attribute [local irreducible] a0v lw mix cw b0e b0f b0a beN b0l b0b a0z a0F elN mdL b0m rtV b0J c0m b0s c0Q a0D c0z e0H e0I a0R a0T b0c toB a0u a0w a0Y a0E b0Z a0S a0x c0n b0t c0G e0U wrQ qC eQ bZ
theorem z0D (va : Value) (a : List Zq) (x y : Zq) (n : Nat) (w : World) (ha : RZ w va a) (hl : a.length = n + n) (h0 : 0 < n) (hn : n ≤ 1000) :
  Calls Tryz.prog 141 #[va, i4 (eQ x), i4 (eQ y)] w fun e w' => ∃ v, e = .returned v ∧ Go.Mv.Own w' w.heap.size 125 4 v n (qC (b0I x (a.take n) y (a.drop n))) ∧ Fr Nob w w' := by
 obtain ⟨aa, ca, rfl, hc, hr⟩ := ha
 obtain ⟨m, hm⟩ : ∃ m, a.length = m := ⟨_, rfl⟩
 obtain ⟨M, hM⟩ : ∃ M, b0I x (a.take n) y (a.drop n) = M := ⟨_, rfl⟩
 rw [hm] at hc hr ⊢
 have hq : (m : Int) / 2 = (n : Int) := by omega
 have HA := qH hr
 have HLA := qH hm
 have HM := qH (show m = n + n by omega)
 have HMM := qH hM
 have HC := qH (show n ≤ ca by omega)
 clear hc hr hm hM hl
 have st0 := St.start Nob w
 go_enter Tryz.func141, Tryz.ntmps141
 go_wp2_with (with_reducible refine wSk 4 ?_)
 refine a0r st0 rfl rfl rfl (cw 4 (eQ x)) rfl ?_
 intro g4 w1 st1
 clear st0
 go_wp2_with (with_reducible refine wSk 5 ?_)
 refine a0r st1 rfl rfl rfl (cw 4 (eQ y)) rfl ?_
 intro g5 w2 st2
 clear st1
 go_wp2_with (with_reducible refine wSk 15 ?_)
 refine x0i rfl rfl Tryz.underlying89 (by kernel_rfl : (Tryz.prog.info? 125).map (·.size) = some 4) rfl 0 n rfl ⟨_, rfl⟩ (Nat.zero_le _) HC.out ?_
 rw [l0i, Nat.sub_zero, Nat.sub_zero]
 have y0 := (Sy.ofSt st2).nil 125 4
 clear st2
 go_wp2_with fail
 go_loopw [6, 17] (fun o i wr => ∃ j : Nat, j ≤ n ∧ i = .int .i64 (j : Int) ∧ Sy Nob w wr [(g4, cw 4 (eQ x), 125), (g5, cw 4 (eQ y), 125)] [⟨o, 125, 4, j, qC (M.take j)⟩]) (fun _ i _ => (n - intOf i).toNat)
 case atStart => exact ⟨0, by omega, rfl, by rw [u0a]; exact y0⟩
 case round =>
  obtain ⟨j, hj, rfl, yr⟩ := hrel
  clear y0
  obtain ⟨aq, cq, rfl, -⟩ := yr.sl 0 rfl
  by_cases hlt : j < n
  ·have hltI : (j : Int) < (n : Int) := by omega
   obtain ⟨k, hk⟩ : ∃ k, n + j = k := ⟨_, rfl⟩
   have hw : IntKind.i64.wrap ((n : Int) + (j : Int)) = (k : Int) := by
    rw [IntWalk.i64_in _ ap1]; omega
   have hltI2 : (k : Int) < (m : Int) := by have := HM.out; omega
   have hltI3 : (j : Int) < (m : Int) := by have := HM.out; omega
   obtain ⟨z, hz⟩ : ∃ z, a[j]? = some z := ⟨_, List.getElem?_eq_getElem (by have := HLA.out; have := HM.out; omega)⟩
   obtain ⟨u, hu⟩ : ∃ u, a[k]? = some u := ⟨_, List.getElem?_eq_getElem (by have := HLA.out; have := HM.out; omega)⟩
   have HZ := qH hz
   have HU := qH hu
   have HMJ := qH (t0Z M j _ (by rw [← HMM.out]; exact z0C x y a n j (HLA.out.trans HM.out) hlt z u hz (by rw [hk]; exact hu)))
   have HK := qH hk
   clear hk
   obtain ⟨ba, oa, rfl, -⟩ := HA.out.at (by have := HM.out; omega)
   clear hz hu
   have HA2 := qH (HA.out.still yr.st.fr)
   have st0 := St.start Nob wr
   go_wp2_with (with_reducible refine wSk 21 ?_)
   refine d0L rfl rfl Tryz.underlying125 rfl rfl (o0D (HA2.out.still st0.fr) (j * 4) (cw 4 (eQ z)) (e0J a j z HZ.out)) (a0G _) ?_
   go_wp2_with (with_reducible refine wSk 9 ?_)
   refine a0b st0 rfl rfl m0x (cw 4 0) g0v ?_
   intro g9 w1 st1
   clear st0
   go_wp2_with (with_reducible refine wSn ?_)
   refine a0c st1 0 rfl rfl rfl rfl rfl (e0c _ _) (a0G _) (a0f _ _) ?_
   intro w2 st2
   clear st1
   have HY := qH (yr.new st2.fr (st2.at 0 rfl) (st2.fresh0 0 rfl))
   clear yr st2
   have st9 := HY.out.st
   go_wp2_with fail
   refine wp_region_noPanic ?_
   refine e0K st9 (fun wz => Fr Nob w2 wz) (Fr.refl Nob _).drew (fun _ _ h k => h.then k) 13 [.w 0, .t 1, .t 2, .w 4, .w 5, .w 6, .w 7, .w 8, .t 9, .t 10, .c 3, .c 11, .o 12, .j 12] (.m 13 (.w 14 .nil)) ap0 ap0 (fun _ _ _ _ _ h => h) ?_
   clear st9
   refine a0n rfl rfl apX ?_
   try simp only [clL]
   refine a0j rfl rfl rfl (fun _ => rfl) (cw 4 (eQ z)) (fun wx hS => St.rangeL hS 2 rfl 0 _ dZl) Tryz.underlying125 rfl (a0G _) ?_
   try simp only [clL]
   refine a0j rfl rfl rfl (fun _ => rfl) (cw 4 (eQ x)) (fun wx hS => St.rangeL hS 0 rfl 0 _ dZl) Tryz.underlying125 rfl (a0G _) ?_
   try simp only [clL]
   iterate 5 (refine a0n rfl rfl apX ?_; try simp only [clL])
   refine a0j rfl rfl rfl (fun _ => rfl) (cw 4 (eQ u)) (fun wx hS => (b0y (HA.out.still (St.fr hS)) (k * 4) _ (e0J a k u HU.out))) Tryz.underlying125 rfl (a0G _) ?_
   try simp only [clL]
   refine a0j rfl rfl rfl (fun _ => rfl) (cw 4 (eQ y)) (fun wx hS => St.rangeL hS 1 rfl 0 _ dZl) Tryz.underlying125 rfl (a0G _) ?_
   try simp only [clL]
   refine a0l rfl rfl rfl Tryz.call95 (fun w hS hR => g0b z x _) (fun _ => rfl) ?_
   try simp only [clL]
   refine a0l rfl rfl rfl Tryz.call101 (fun w hS hR => v0a (z * x) u y _) (fun _ => rfl) ?_
   try simp only [clL]
   refine j0b rfl rfl rfl Tryz.underlying89 d0s [i4 (eQ (z * x + u * y))] (fun _ => rfl) (g0O _) rfl (qC [(z * x + u * y)]) (n0M _) ?_
   try simp only [clL]
   refine c0A List.mem_cons_self fun g34 => ?_
   simp only [upd, reduceIte]
   try simp only [Nat.reduceEqDiff, reduceIte]
   refine a0J fun xq w10 st10 hR => ?_
   try dsimp only
   have HY2 := qH (HY.out.keep hR)
   clear HY
   clear hR xq
   refine a0o rfl rfl ?_
   refine b0B HY2.out 0 rfl rfl Tryz.underlying89 d0s rfl ap2 rfl rfl (l0j (st10.at 3 rfl)) (i0T _) ap9 ap1 ?_
   intro v5 w5 y5 hf5
   rw [HMJ.out] at y5
   have HYE := qH y5
   have st11 := y5.st
   clear y5 hf5 HY2
   clear st10
   try simp only [clL]
   refine a0a rfl rfl apW ?_
   try simp only [clL]
   refine a0e ?_
   refine NoPanic.normal ?_
   clear st11
   go_wp2_with fail
   go_roundw
   case rel => exact ⟨j + 1, by omega, by go_num, HYE.out.less ap4 (List.Sublist.refl _)⟩
   case measure => simp [intOf]; omega
  ·have hge : ¬ ((j : Int) < (n : Int)) := by omega
   have e : j = n := by omega
   rw [e, List.take_of_length_le (by rw [← HMM.out, e0u _ _ _ _ (HLA.out.trans HM.out)]; exact Nat.le_refl _)] at yr
   have HO := qH (Sy.fresh yr 0 rfl)
   have HF := qH yr.st.fr
   have HE := qH e
   clear hlt e yr
   go_wp2_with fail
   go_ret
   rw [HMM.out]
   refine ⟨.slice aq j cq, rfl, ?_, HF.out⟩
   rw [HE.out]
   exact HO.out
end
section
open Go.RowKit Go.Mv Mvp Mvq
theorem x0o (x y : Zq) (a : List Zq) (n j : Nat) (_hl : a.length = n + n) (hj : j < n) (z u : Zq) (hz : a[j]? = some z) (hu : a[n + j]? = some u) : (b0I x (a.take n) y (a.drop n))[j]? = some (b0n [x, y] [z, u]) := by
 unfold b0I
 rw [List.getElem?_zipWith, List.getElem?_take, if_pos hj, hz, List.getElem?_drop, hu]
 simp only [Option.some.injEq]
 show x * z + y * u = x * z + (y * u + 0)
 grind -lia -linarith
theorem p0i (a : Option Addr) (n c : Nat) (b : Option Addr) (m d : Nat) : Tryz.prog.built 121 [(0, .slice a n c), (1, .slice b m d)] = some ([Value.slice a n c, .slice b m d]).toArray := by kernel_rfl
theorem x0p (a : Option Addr) (n c : Nat) (b : Option Addr) (m d : Nat) : ∀ v ∈ [Value.slice a n c, .slice b m d], v.oneCell' = true := by
 intro v hv
 simp only [List.mem_cons, List.not_mem_nil, or_false] at hv
 rcases hv with rfl | rfl <;> rfl
theorem h0U (a : Option Addr) (n c : Nat) (b : Option Addr) (m d : Nat) : ∀ v ∈ [Value.slice a n c, .slice b m d], v.cells.size = 1 := by
 intro v hv
 simp only [List.mem_cons, List.not_mem_nil, or_false] at hv
 rcases hv with rfl | rfl <;> rfl
theorem u0b (x y : Nat) : ∀ v ∈ [i4 x, i4 y], v.cells.size = 4 := by
 intro v hv
 simp only [List.mem_cons, List.not_mem_nil, or_false] at hv
 rcases hv with rfl | rfl <;> exact z0w _
theorem x0q (x y : Zq) : ([i4 (eQ x), i4 (eQ y)].flatMap fun v => v.cells.toList) = qC [x, y] := by
 rw [z0u]
 simp [j0k]
theorem x0r (l : List Value) (h : l.length = 2) : (Tryz.prog.info? 121).map (·.size) = some l.length := by rw [h]; kernel_rfl
theorem SumA.lits {wb w : World} {gA gB g : Nat} {xs : List Zq} {us : List Value} {ls : List (List UInt8)} (n : Nat) (hn : xs.length = n) (hm : n ≤ maxLen) (hA : Has w gA (qC xs) 125) (hB : Has w gB us 23) (hg : Has w g [.slice (some ⟨gA, 0, none⟩) n n, .slice (some ⟨gB, 0, none⟩) n n] 121)
  (kA : wb.heap.size ≤ gA) (kB : wb.heap.size ≤ gB) (kg : wb.heap.size ≤ g) (hf : Fr Nob wb w) (hp : BParts wb us ls) (hl : ls.length = n) : SumA w (fun j => wb.heap.size ≤ j) (fun j => wb.heap.size ≤ j) g xs ls := by
 subst hn
 have hul : us.length = xs.length := by rw [hp.1, hl]
 have oA : Go.Mv.Own w 0 125 4 (.slice (some ⟨gA, 0, none⟩) xs.length xs.length) xs.length (qC xs) := by
  have h := Go.Mv.Own.made hA 0 (Nat.zero_le _) 4 xs.length xs.length (Nat.le_refl _) hm (by rw [l0d]; exact Nat.le_refl _)
  rwa [List.take_of_length_le (by rw [l0d]; exact Nat.le_refl _)] at h
 have oB : Go.Mv.Own w 0 23 1 (.slice (some ⟨gB, 0, none⟩) xs.length xs.length) xs.length us := by
  have h := Go.Mv.Own.made hB 0 (Nat.zero_le _) 1 xs.length xs.length (Nat.le_refl _) hm (by rw [hul, Nat.mul_one]; exact Nat.le_refl _)
  rwa [List.take_of_length_le (by rw [hul, Nat.mul_one]; exact Nat.le_refl _)] at h
 have nAB : gA ≠ gB := by
  rintro rfl
  obtain ⟨_, _, e1, _⟩ := hA
  obtain ⟨_, _, e2, _⟩ := hB
  rw [e1] at e2
  simp only [Option.some.injEq, Obj.cells.injEq] at e2
  exact absurd e2.2.1 ap2
 have nAg : gA ≠ g := by
  rintro rfl
  obtain ⟨_, _, e1, _⟩ := hA
  obtain ⟨_, _, e2, _⟩ := hg
  rw [e1] at e2
  simp only [Option.some.injEq, Obj.cells.injEq] at e2
  exact absurd e2.2.1 ap2
 have nBg : gB ≠ g := by
  rintro rfl
  obtain ⟨_, _, e1, _⟩ := hB
  obtain ⟨_, _, e2, _⟩ := hg
  rw [e1] at e2
  simp only [Option.some.injEq, Obj.cells.injEq] at e2
  exact absurd e2.2.1 ap2
 refine ⟨.slice (some ⟨gA, 0, none⟩) xs.length xs.length, .slice (some ⟨gB, 0, none⟩) xs.length xs.length, us, ⟨⟨Fr.refl _ _, ?_, ?_, List.pairwise_singleton _ _⟩, ⟨?_, ?_, ?_, ?_⟩, ?_⟩, fun j hj => Nat.le_trans hf.size hj, fun _ h => h, PartsO.keep hf (fun _ t => t.elim) (PartsO.old (fun _ h => h) hp)⟩
 ·intro x hx; rw [List.mem_singleton.1 hx]; exact .inr kg
 ·intro x hx; rw [List.mem_singleton.1 hx]; exact hg
 ·intro x hx
  simp only [List.mem_cons, List.not_mem_nil, or_false] at hx
  rcases hx with rfl | rfl
  ·exact oA
  ·rw [hl]; exact oB
 ·intro x hx k hk hks
  simp only [List.map_cons, List.map_nil, List.mem_singleton] at hks
  simp only [List.mem_cons, List.not_mem_nil, or_false] at hx
  rcases hx with rfl | rfl
  ·have e : gA = k := Option.some.inj hk
   exact nAg (e.trans hks)
  ·have e : gB = k := Option.some.inj hk
   exact nBg (e.trans hks)
 ·refine List.Pairwise.cons (fun b hb k hk hk2 => ?_) (List.pairwise_singleton _ _)
  rw [List.mem_singleton.1 hb] at hk2
  have e1 : gA = k := Option.some.inj hk
  have e2 : gB = k := Option.some.inj hk2
  exact nAB (e1.trans e2.symm)
 ·intro k hk
  simp only [List.map_cons, List.map_nil, List.mem_singleton] at hk
  rw [hk]; exact hg.lt
 ·intro x hx k hk
  simp only [List.mem_cons, List.not_mem_nil, or_false] at hx
  rcases hx with rfl | rfl
  ·have e : gA = k := Option.some.inj hk
   rw [← e]; exact .inl kA
  ·have e : gB = k := Option.some.inj hk
   rw [← e]; exact .inl kB
theorem r0T (M : List Zq) (j : Nat) (x : Zq) (h : M[j]? = some x) : (M.take (j + 1)).map wrQ = (M.take j).map wrQ ++ [wrQ x] := by rw [f0I M j x h, List.map_append]; rfl
attribute [local irreducible] a0v lw mix cw b0e b0f b0a beN b0l b0b a0z a0F elN mdL b0m rtV b0J c0m b0s c0Q a0D c0z e0H e0I a0R a0T b0c toB a0u a0w a0Y a0E b0Z a0S a0x c0n b0t c0G e0U wrQ qC eQ bZ
theorem v0g {w : World} {ug : List Value} {ps : List Zq} (h : BParts w ug (ps.map wrQ)) {j : Nat} {z : Zq} (hz : ps[j]? = some z) : ∃ v, ug[j]? = some v ∧ BPart w v (wrQ z) := by
 have hl : j < ps.length := (List.getElem?_eq_some_iff.1 hz).1
 have hu : j < ug.length := by rw [h.1, List.length_map]; exact hl
 refine ⟨ug[j], List.getElem?_eq_getElem hu, ?_⟩
 have h2 := h.2 j _ (List.getElem?_eq_getElem hu)
 rwa [List.getD_eq_getElem?_getD, List.getElem?_map, hz] at h2
theorem l0m (va : Value) (a : List Zq) (x y : Zq) (n : Nat) (w : World) (ha : RP w va a) (hl : a.length = n + n) (h0 : 0 < n) (hn : n ≤ 1000) :
  Calls Tryz.prog 142 #[va, i4 (eQ x), i4 (eQ y)] w fun e w' => ∃ v, e = .returned v ∧ SOwn w' w.heap.size v ((b0I x (a.take n) y (a.drop n)).map wrQ) ∧ Fr Nob w w' := by
 obtain ⟨aa, ca, ug, rfl, hc, hr, hp⟩ := ha
 obtain ⟨m, hm⟩ : ∃ m, a.length = m := ⟨_, rfl⟩
 obtain ⟨M, hM⟩ : ∃ M, b0I x (a.take n) y (a.drop n) = M := ⟨_, rfl⟩
 rw [hm] at hc hr ⊢
 have hq : (m : Int) / 2 = (n : Int) := by omega
 have HA := qH hr
 have HP := qH hp
 have HLA := qH hm
 have HM := qH (show m = n + n by omega)
 have HMM := qH hM
 have HC := qH (show n ≤ ca by omega)
 clear hc hr hp hm hM hl
 have st0 := St.start Nob w
 go_enter Tryz.func142, Tryz.ntmps142
 go_wp2_with (with_reducible refine wSk 4 ?_)
 refine a0r st0 rfl rfl rfl (cw 4 (eQ x)) rfl ?_
 intro g4 w1 st1
 clear st0
 go_wp2_with (with_reducible refine wSk 5 ?_)
 refine a0r st1 rfl rfl rfl (cw 4 (eQ y)) rfl ?_
 intro g5 w2 st2
 clear st1
 go_wp2_with fail
 go_loopw [6, 14] (fun o i wr => ∃ j : Nat, j ≤ n ∧ i = .int .i64 (j : Int) ∧ St Nob w wr [(g4, cw 4 (eQ x), 125), (g5, cw 4 (eQ y), 125)] ∧ SOwn wr w.heap.size o ((M.take j).map wrQ)) (fun _ i _ => (n - intOf i).toNat)
 case atStart => exact ⟨0, by omega, rfl, st2, by rw [List.take_zero]; exact SOwn.nil _ _⟩
 case round =>
  obtain ⟨j, hj, rfl, str, hS⟩ := hrel
  clear st2
  by_cases hlt : j < n
  ·have hltI : (j : Int) < (n : Int) := by omega
   obtain ⟨k, hk⟩ : ∃ k, n + j = k := ⟨_, rfl⟩
   have hw : IntKind.i64.wrap ((n : Int) + (j : Int)) = (k : Int) := by
    rw [IntWalk.i64_in _ ap1]; omega
   have hltI2 : (k : Int) < (m : Int) := by have := HM.out; omega
   have hltI3 : (j : Int) < (m : Int) := by have := HM.out; omega
   obtain ⟨z, hz⟩ : ∃ z, a[j]? = some z := ⟨_, List.getElem?_eq_getElem (by have := HLA.out; have := HM.out; omega)⟩
   obtain ⟨u, hu⟩ : ∃ u, a[k]? = some u := ⟨_, List.getElem?_eq_getElem (by have := HLA.out; have := HM.out; omega)⟩
   have hMj : M[j]? = some (b0n [x, y] [z, u]) := by rw [← HMM.out]; exact x0o x y a n j (HLA.out.trans HM.out) hlt z u hz (by rw [hk]; exact hu)
   have HMJ := qH (r0T M j _ hMj)
   have hHA := HA.out
   obtain ⟨p1, hp1, b1⟩ := v0g HP.out hz
   obtain ⟨p2, hp2, b2⟩ := v0g HP.out hu
   have H1 := qH hp1
   have H2 := qH hp2
   have B12 := qH (BParts.two b1 b2)
   obtain ⟨a1, n1, c1, rfl, -⟩ := b1
   obtain ⟨a2, n2, c2, rfl, -⟩ := b2
   obtain ⟨ba, oa, rfl, -⟩ := hHA.at (by have := HM.out; omega)
   have hll : ((M.take j).map wrQ).length = j := by rw [List.length_map, List.length_take, ← HMM.out, e0u _ _ _ _ (HLA.out.trans HM.out)]; omega
   obtain ⟨vs, hown, hpo, hsep⟩ := hS
   have hown0 := hown
   rw [hll] at hown
   have HLL := qH hll
   have HO0 := qH hown0
   have HO := qH hown
   have HPO := qH hpo
   have HSEP := qH hsep
   have HSTR := qH str
   clear hz hu hk hMj hp1 hp2 hHA hll hown hown0 hpo hsep str
   have st0 := St.start Nob wr
   have HG4 := qH (HSTR.out.at 0 rfl)
   have HG5 := qH (HSTR.out.at 1 rfl)
   go_wp2_with fail
   refine wp_region_noPanic ?_
   refine a0k st0 16 [.o 15, .t 0, .t 1, .o 2, .w 3, .w 4, .w 5, .t 6, .w 7, .w 8, .w 9, .w 10, .w 11, .t 12, .o 13, .j 2, .j 13, .w 14, .j 15] (.m 16 .nil) ap0 ap0 (fun _ _ _ _ _ h => h) ?_
   clear st0
   refine c0K rfl rfl rfl v0f [.slice none 0 0, .slice none 0 0] rfl ?_
   try simp only [clL]
   refine a0j rfl rfl rfl (fun _ => rfl) (cw 4 (eQ x)) (fun wx hS => (HG4.out.keep (St.fr hS) id).range 0 _ dZl) Tryz.underlying125 rfl (a0G _) ?_
   try simp only [clL]
   refine a0j rfl rfl rfl (fun _ => rfl) (cw 4 (eQ y)) (fun wx hS => (HG5.out.keep (St.fr hS) id).range 0 _ dZl) Tryz.underlying125 rfl (a0G _) ?_
   try simp only [clL]
   refine j0b rfl rfl rfl Tryz.underlying89 d0s [i4 (eQ x), i4 (eQ y)] (fun _ => rfl) (u0b _ _) rfl (qC [x, y]) (x0q _ _) ?_
   try simp only [clL]
   iterate 3 (refine a0n rfl rfl apX ?_; try simp only [clL])
   refine a0P (v := ?_) rfl rfl (fun xq wx hS => ?_) ?_
   rotate_left 1
   ·(have hc := c0S (HA.out.still (HSTR.out.fr.then (St.fr hS))) j _ H1.out; clear hS; go_simp; with_reducible rfl)
   try simp only [clL]
   iterate 5 (refine a0n rfl rfl apX ?_; try simp only [clL])
   refine a0P (v := ?_) rfl rfl (fun xq wx hS => ?_) ?_
   rotate_left 1
   ·(have hc := c0S (HA.out.still (HSTR.out.fr.then (St.fr hS))) k _ H2.out; clear hS; go_simp; with_reducible rfl)
   try simp only [clL]
   refine j0b rfl rfl rfl Tryz.underlying24 a0M [.slice a1 n1 c1, .slice a2 n2 c2] (fun _ => rfl) (h0U _ _ _ _ _ _) rfl [.slice a1 n1 c1, .slice a2 n2 c2] rfl ?_
   try simp only [clL]
   refine c0A (List.mem_cons_of_mem _ List.mem_cons_self) fun g19 => ?_
   simp only [upd, reduceIte]
   try simp only [Nat.reduceEqDiff, reduceIte]
   refine c0A List.mem_cons_self fun g30 => ?_
   simp only [upd, reduceIte]
   try simp only [Nat.reduceEqDiff, reduceIte]
   refine a0n rfl rfl (fun _ => b0v rfl _ (p0i _ 2 2 _ 2 2)) ?_
   try simp only [clL]
   refine c0A List.mem_cons_self fun g9 => ?_
   simp only [upd, reduceIte]
   try simp only [Nat.reduceEqDiff, reduceIte]
   refine a0J fun xq w1 st1 hR => ?_
   try dsimp only
   clear hR xq
   refine a0o rfl rfl ?_
   refine a0i st1 2 rfl rfl rfl rfl rfl (x0r _ rfl) (x0p _ _ _ _ _ _) ?_
   intro w5 st2
   repeat (first | simp only [List.cons_append] at st2 | simp only [List.nil_append] at st2 | simp only [List.set_cons_succ] at st2 | simp only [List.set_cons_zero] at st2)
   clear st1
   try simp only [Act.put]
   refine a0e ?_
   refine NoPanic.normal ?_
   have HSU := qH (SumA.lits 2 rfl ap2 (st2.at 0 rfl) (st2.at 1 rfl) (st2.at 2 rfl) (st2.fresh0 0 rfl) (st2.fresh0 1 rfl) (st2.fresh0 2 rfl) st2.fr (BParts.still B12.out HSTR.out.fr) rfl)
   have HF5 := qH st2.fr
   clear st2 HG4 HG5
   go_wp2_with fail
   refine (m0G _ _ g9 [x, y] _ _ HSU.out rfl ap4 (r0S [z, u]) _ (by rw [show [wrQ z, wrQ u] = [z, u].map wrQ from rfl, r0R])).mono ?_
   rintro e' w6 ⟨v, rfl, ho, hf⟩
   obtain ⟨av, cv, rfl, -⟩ := d0Z ho
   have HF6 := qH (HF5.out.then hf)
   have HV := qH (Go.Mv.Own.mono ho HF5.out.size)
   clear ho hf HSU HF5
   go_wp2_with (with_reducible refine wSk 34 ?_)
   refine d0K rfl rfl Tryz.underlying24 a0M [.slice av _ cv] rfl (by simp; rfl) rfl rfl ?_
   intro w7 hh7 hf7 hz7
   clear hz7
   have HQ7 := qH ((HO.out.still HF6.out).still hf7)
   have ST7 := qH ((HSTR.out.keep HF6.out).keep hf7)
   have HF7 := qH hf7
   have HRD7 := qH (Rd.whole hh7)
   clear hh7 hf7
   generalize w6.heap.size = g34 at *
   go_wp2_with (with_reducible refine wSk 35 ?_)
   refine c0p rfl rfl Tryz.underlying24 a0M rfl ap2 HQ7.out rfl rfl HRD7.out (fun u hu => by simp only [List.mem_singleton] at hu; subst hu; rfl) ap9 ap1 ST7.out.fr.size ?_
   intro v8 w8 hown8 hf8 hb8
   clear hb8
   have HST8 := qH (ST7.out.keepOs HQ7.out (Nat.le_refl _) hf8 (by
    intro q hq
    simp only [List.mem_cons, List.not_mem_nil, or_false] at hq
    rcases hq with rfl | rfl
    ·exact Go.Mv.Own.ne HQ7.out (ST7.out.at 0 rfl) ap2
    ·exact Go.Mv.Own.ne HQ7.out (ST7.out.at 1 rfl) ap2))
   have HFIN := qH (show SOwn w8 w.heap.size v8 ((M.take (j + 1)).map wrQ) by
    rw [HMJ.out]
    exact SOwn.snocF (w := wr) HO0.out HPO.out HSEP.out HSTR.out.fr.size HV.out HF6.out HF7.out (by rw [HLL.out]; exact hown8) hf8)
   clear hown8 hf8 HQ7 HRD7 ST7 HF7 HF6 HV HO HO0 HPO HSEP HSTR
   go_wp2_with fail
   go_roundw
   case rel => exact ⟨j + 1, by omega, by go_num, HST8.out, HFIN.out⟩
   case measure => simp [intOf]; omega
  ·have hge : ¬ ((j : Int) < (n : Int)) := by omega
   have e : j = n := by omega
   rw [e, List.take_of_length_le (by rw [← HMM.out, e0u _ _ _ _ (HLA.out.trans HM.out)]; exact Nat.le_refl _)] at hS
   have HO := qH hS
   have HF := qH str.fr
   clear hlt e hS str
   go_wp2_with fail
   go_ret
   rw [HMM.out]
   exact ⟨_, rfl, HO.out, HF.out⟩
end
section
open Go.RowKit Go.Mv Mvp Mvq
theorem x0s : (Tryz.prog.info? 98).map (·.zero) = some (some (.agg #[.pointer none])) := by kernel_rfl
theorem g0s (g : Nat) : (Tryz.prog.info? 98).map (·.size) = some ([Value.pointer (some ⟨g, 0, none⟩)]).length := by kernel_rfl
theorem r0U (g : Nat) : Tryz.prog.built 98 [(0, .agg #[.pointer (some ⟨g, 0, none⟩)])] = some ([Value.pointer (some ⟨g, 0, none⟩)]).toArray := by kernel_rfl
noncomputable def d0W (st : List UInt8) : Zq := nzZ (zq (w0M st))
def e0d (st : List UInt8) : List UInt8 := c0n i0u [st, e0V]
def b0D (st : List UInt8) (l r : List UInt8) : List UInt8 := c0n p0Y [c0n p0Y [st, v0e, l], r0L, r]
attribute [local irreducible] a0v lw mix cw b0e b0f b0a beN b0l b0b a0z a0F elN mdL b0m rtV b0J c0m b0s c0Q a0D c0z e0H e0I a0R a0T b0c toB a0u a0w a0Y a0E b0Z a0S a0x c0n b0t c0G e0U wrQ qC eQ bZ
theorem p0j (s : ByteArray) (w : World) (hs : s.size ≤ 1000000) :
  Calls Tryz.prog 143 #[.string s] w fun e w' => ∃ g, e = .returned (tkV g) ∧ w.heap.size ≤ g ∧ LogAt w' w.heap.size g (z0Z s.data.toList) ∧ Fr Nob w w' := by
 have HS := qH hs
 clear hs
 have st0 := St.start Nob w
 go_enter Tryz.func143, Tryz.ntmps143
 go_wp2_with (with_reducible refine wSk 2 ?_)
 refine a0b st0 rfl rfl x0s [.pointer none] rfl ?_
 intro g2 w1 st1
 clear st0
 have HB := qH st1.fr.size
 go_wp2_with fail
 refine (q0t s _ HS.out).mono ?_
 rintro e' w2 ⟨g, rfl, hle, hl, hf⟩
 have st2 := st1.keep hf
 have HL := qH (hl.mono HB.out)
 have HG := qH (Nat.le_trans HB.out hle)
 clear hle hl hf st1 HB
 go_wp2_with (with_reducible refine wSk 5 ?_)
 refine b0M rfl rfl _ (r0U g) ?_
 go_wp2_with (with_reducible refine wSn ?_)
 refine b0U st2 0 rfl rfl rfl rfl rfl rfl (g0s g) (s0H g) ?_
 intro w3 st3 hf3
 have HL3 := qH (HL.out.off hf3 (st2.at 0 rfl) ap2 ap2)
 clear st2 hf3 HL
 have hr := st3.at 0 rfl
 have hfr := st3.fr
 clear st3
 go_wp2_with fail
 exact bodyPost_ret (a0y rfl rfl hr Tryz.underlying98 rfl (g0s g)) rfl ⟨g, rfl, HG.out, HL3.out, hfr⟩
theorem r0V (base g : Nat) (st : List UInt8) (w : World) (hl : LogAt w base g st) (hbase : base ≤ w.heap.size) :
  Calls Tryz.prog 140 #[tkV g] w fun e w' => e = .returned (i4 (eQ (d0W st))) ∧ LogAt w' base g (e0d st) ∧ Fr (One g) w w' := by
 have HL := qH hl
 have HBS := qH hbase
 clear hl hbase
 have st0 := St.start (One g) w
 go_enter Tryz.func140, Tryz.ntmps140
 go_wp2_with (with_reducible refine wSk 1 ?_)
 refine j0n st0 rfl rfl rfl [.pointer (some ⟨g, 0, none⟩)] rfl ?_
 intro g1 w1 st1 hf1
 have HL1 := qH (HL.out.still hf1)
 clear st0 hf1 HL
 go_wp2_with (with_reducible refine wSk 2 ?_)
 refine d0F st1 rfl rfl m0x (cw 4 0) g0v ?_
 intro g2 w2 st2 hf2 hs2
 have HL2 := qH (HL1.out.still hf2)
 clear st1 hf2 hs2 HL1
 go_wp2_with (with_reducible refine wSk 5 ?_)
 refine a0s st2 0 rfl rfl rfl Tryz.underlying96 rfl rfl ap0 ?_
 have ST2 := qH st2
 clear st2
 go_wp2_with fail
 refine (w0N base g st _ HL2.out (Nat.le_trans HBS.out ST2.out.fr.size)).mono ?_
 rintro e' w3 ⟨rfl, hl3, hf3⟩
 rw [m0A]
 have st3 := ST2.out.keep1 hf3 (.inr rfl) (HL2.out.notIn ST2.out.has (by intro x hx; simp only [List.mem_cons, List.not_mem_nil, or_false, List.cons_append, List.nil_append] at hx; rcases hx with rfl | rfl <;> (dsimp only; decide)))
 have HL3 := qH (show LogAt w3 base g (e0d st) from hl3)
 clear hl3 hf3 HL2 ST2
 obtain ⟨c, hc⟩ : ∃ c, zq (w0M st) = c := ⟨_, rfl⟩
 have HC := qH (show d0W st = nzZ c by unfold d0W; rw [hc])
 rw [hc]
 clear hc
 go_wp2_with (with_reducible refine wSk 3 ?_)
 refine d0F st3 rfl rfl m0x (cw 4 0) g0v ?_
 intro g3 w4 st4 hf4 hs4
 have HL4 := qH (HL3.out.still hf4)
 clear st3 hf4 hs4 HL3
 go_wp2_with (with_reducible refine wSn ?_)
 refine b0U st4 2 rfl rfl rfl rfl rfl (e0c _ _) (a0G _) (a0f _ _) ?_
 intro w5 st5 hf5
 have HL5 := qH (HL4.out.off hf5 (st4.at 2 rfl) ap2 ap2)
 clear st4 hf5 HL4
 go_wp2_with (with_reducible refine wSk 7 ?_)
 refine a0s st5 2 rfl rfl rfl Tryz.underlying125 rfl rfl (a0G _) ?_
 go_wp2_with fail
 refine (z0l c _).mono ?_
 rintro e' w6 ⟨rfl, hf6⟩
 have st6 := st5.keep hf6
 have HL6 := qH (HL5.out.still hf6)
 clear st5 hf6 HL5
 by_cases h0 : c = 0
 ·have hd : decide (c = 0) = true := decide_eq_true h0
  have HE := qH (show d0W st = 1 by rw [HC.out, h0]; rfl)
  clear h0
  go_wp2_with fail
  refine (d0d _).mono ?_
  rintro e' w7 ⟨rfl, hf7⟩
  have st7 := st6.keep hf7
  have HL7 := qH (HL6.out.still hf7)
  clear st6 hf7 HL6
  go_wp2_with (with_reducible refine wSn ?_)
  refine b0U st7 1 rfl rfl rfl rfl rfl (e0c _ _) (a0G _) (a0f _ _) ?_
  intro w8 st8 hf8
  have HL8 := qH (HL7.out.off hf8 (st7.at 1 rfl) ap2 ap2)
  clear st7 hf8 HL7
  have hr := st8.at 1 rfl
  have hfr := st8.fr
  clear st8
  go_wp2_with fail
  exact bodyPost_ret (a0y rfl rfl hr Tryz.underlying125 rfl (a0G _)) rfl ⟨by rw [HE.out]; rfl, HL8.out, hfr⟩
 ·have hd : decide (c = 0) = false := decide_eq_false h0
  have HE := qH (show d0W st = c by rw [HC.out]; unfold nzZ; rw [if_neg h0])
  clear h0
  go_wp2_with (with_reducible refine wSk 10 ?_)
  refine a0s st6 2 rfl rfl rfl Tryz.underlying125 rfl rfl (a0G _) ?_
  go_wp2_with (with_reducible refine wSn ?_)
  refine b0U st6 1 rfl rfl rfl rfl rfl (e0c _ _) (a0G _) (a0f _ _) ?_
  intro w8 st8 hf8
  have HL8 := qH (HL6.out.off hf8 (st6.at 1 rfl) ap2 ap2)
  clear st6 hf8 HL6
  have hr := st8.at 1 rfl
  have hfr := st8.fr
  clear st8
  go_wp2_with fail
  exact bodyPost_ret (a0y rfl rfl hr Tryz.underlying125 rfl (a0G _)) rfl ⟨by rw [HE.out]; rfl, HL8.out, hfr⟩
def prodL (lab point : List UInt8) : List UInt8 := c0n p0Y [c0n p0Y [z0Z [112, 114, 111, 100, 117, 99, 116], [108, 97, 98, 101, 108], lab], [112, 111, 105, 110, 116], point]
theorem h0V (lab : ByteArray) (vp : Value) (p : List UInt8) (w : World) (hs : lab.size ≤ 1000000) (hp : PartIs w vp p) :
  Calls Tryz.prog 50 #[.string lab, vp] w fun e w' => ∃ g, e = .returned (tkV g) ∧ w.heap.size ≤ g ∧ LogAt w' w.heap.size g (prodL lab.data.toList p) ∧ Fr Nob w w' := by
 have HP := qH hp
 obtain ⟨ap, np, cp, rfl, -⟩ := hp
 have HS := qH hs
 clear hs
 have st0 := St.start Nob w
 go_enter Tryz.func50, Tryz.ntmps50
 go_wp2_with (with_reducible refine wSk 4 ?_)
 refine a0b st0 rfl rfl x0s [.pointer none] rfl ?_
 intro g4 w1 st1
 clear st0
 have HB := qH st1.fr.size
 go_wp2_with fail
 refine (p0j ⟨#[112, 114, 111, 100, 117, 99, 116]⟩ _ ap2).mono ?_
 rintro e' w2 ⟨g, rfl, hle, hl, hf⟩
 have HG := qH (Nat.le_trans HB.out hle)
 have st2 := st1.keep hf
 have HL2 := qH (hl.mono HB.out)
 clear hle hl hf st1 HB
 go_wp2_with (with_reducible refine wSk 5 ?_)
 refine d0F st2 rfl rfl x0s [.pointer none] rfl ?_
 intro g5 w3 st3 hf3 hs3
 have HL3 := qH (HL2.out.still hf3)
 clear st2 hf3 hs3 HL2
 go_wp2_with (with_reducible refine wSn ?_)
 refine b0U st3 1 rfl rfl rfl rfl rfl rfl (g0s g) (s0H g) ?_
 intro w4 st4 hf4
 have HL4 := qH (HL3.out.off hf4 (st3.at 1 rfl) ap2 ap2)
 clear st3 hf4 HL3
 have hc := (st4.at 1 rfl).cell (i := 0) rfl
 have ST4 := qH st4
 clear st4
 go_wp2_with (with_reducible refine wSk 11 ?_)
 refine e0v rfl rfl Tryz.underlying9 Tryz.underlying23 Tryz.underlying5 rfl (by unfold maxLen; have := HS.out; omega) w4.heap.size (Nat.le_refl _) ?_
 intro cap w5 ho5 hf5 hz5
 clear hz5
 have HP5 := qH (b0G ho5 HS.out)
 have HL5 := qH (HL4.out.still hf5)
 have ST5 := qH (ST4.out.keep hf5)
 clear ho5 hf5 HL4 ST4 hc
 generalize w4.heap.size = g11 at *
 have hc := (ST5.out.at 1 rfl).cell (i := 0) rfl
 go_wp2_with fail
 refine (h0k w.heap.size g _ ⟨#[108, 97, 98, 101, 108]⟩ _ _ _ lab.data.toList _ ap2 HL5.out HP5.out ST5.out.fr.size).mono ?_
 rintro e' w6 ⟨rfl, hl6, hf6⟩
 have ST6 := qH (ST5.out.keep1 hf6 (.inl HG.out) (HL5.out.notIn ST5.out.has (by intro x hx; simp only [List.mem_cons, List.not_mem_nil, or_false, List.cons_append, List.nil_append, List.set_cons_zero, List.set_cons_succ] at hx; rcases hx with rfl | rfl <;> (dsimp only; decide))))
 have HL6 := qH hl6
 clear hl6 hf6 HL5 ST5 HP5 hc
 have hc := (ST6.out.at 1 rfl).cell (i := 0) rfl
 go_wp2_with fail
 refine (h0k w.heap.size g _ ⟨#[112, 111, 105, 110, 116]⟩ _ _ _ p _ ap2 HL6.out (HP.out.still ST6.out.fr) ST6.out.fr.size).mono ?_
 rintro e' w7 ⟨rfl, hl7, hf7⟩
 have st7 := ST6.out.keep1 hf7 (.inl HG.out) (HL6.out.notIn ST6.out.has (by intro x hx; simp only [List.mem_cons, List.not_mem_nil, or_false, List.cons_append, List.nil_append, List.set_cons_zero, List.set_cons_succ] at hx; rcases hx with rfl | rfl <;> (dsimp only; decide)))
 have HL7 := qH hl7
 clear hl7 hf7 HL6 ST6 hc
 go_wp2_with (with_reducible refine wSk 18 ?_)
 refine a0s st7 1 rfl rfl rfl Tryz.underlying98 rfl rfl (g0s g) ?_
 go_wp2_with (with_reducible refine wSn ?_)
 refine b0U st7 0 rfl rfl rfl rfl rfl rfl (g0s g) (s0H g) ?_
 intro w8 st8 hf8
 have HL8 := qH (HL7.out.off hf8 (st7.at 0 rfl) ap2 ap2)
 clear st7 hf8 HL7
 have hr := st8.at 0 rfl
 have hfr := st8.fr
 clear st8
 go_wp2_with fail
 exact bodyPost_ret (a0y rfl rfl hr Tryz.underlying98 rfl (g0s g)) rfl ⟨g, rfl, HG.out, HL8.out, hfr⟩
end
section
open Go.RowKit Go.Mv Mvp Mvq
theorem r0W : ∀ n : Nat, n < 65 → 0 < n → (∃ k, k < 7 ∧ n = 2 ^ k) ∨ (bits BinOp.and IntKind.i64 (n : Int) ((n : Int) - 1) != 0) = true := by decide +kernel
theorem x0t : ∀ k : Nat, k < 7 → (bits BinOp.and IntKind.i64 ((2 ^ k : Nat) : Int) (((2 ^ k : Nat) : Int) - 1) != 0) = false := by decide +kernel
theorem d0x (k : Nat) (hk : k ≤ 6) : 0 < 2 ^ k ∧ 2 ^ k ≤ 64 := ⟨Nat.pow_pos ap2, Nat.pow_le_pow_right (n := 2) ap2 hk⟩
theorem x0u (k : Nat) (hk : k ≤ 6) (w : World) : Calls Tryz.prog 215 #[.int .u64 ((2 ^ k : Nat) : Int)] w fun e w' => e = .returned (.int .i64 ((k : Int) + 1)) ∧ w = w' := by
 obtain rfl | rfl | rfl | rfl | rfl | rfl | rfl : k = 0 ∨ k = 1 ∨ k = 2 ∨ k = 3 ∨ k = 4 ∨ k = 5 ∨ k = 6 := by omega
 all_goals
  go_enter Tryz.func215, Tryz.ntmps215
  go_wp2
  go_ret
  exact ⟨by kernel_rfl, rfl⟩
theorem A0x (k : Nat) (hk : k ≤ 6) (w : World) : Calls Tryz.prog 134 #[.int .u64 ((2 ^ k : Nat) : Int)] w fun e w' => e = .returned (.int .i64 ((k : Int) + 1)) ∧ w = w' := by
 have HK := qH hk
 have HP := qH (d0x k hk)
 have HL := qH (x0u k hk)
 clear hk
 generalize 2 ^ k = n at *
 have h1 : (n : Int) ≤ 64 := by have := HP.out; omega
 go_enter Tryz.func134, Tryz.ntmps134
 go_wp2_with fail
 refine (HL.out _).mono ?_
 rintro e' w1 ⟨rfl, rfl⟩
 go_wp2_with fail
 go_ret
 exact ⟨rfl, rfl⟩
theorem f0J (k : Nat) (hk : k ≤ 6) (w : World) : Calls Tryz.prog 43 #[.int .i64 ((2 ^ k : Nat) : Int)] w fun e w' => e = .returned (.tuple #[.int .i64 (k : Int), .bool true]) ∧ w = w' := by
 have HP := qH (d0x k hk)
 have HL := qH (A0x k hk)
 have hb := x0t k ap1
 generalize 2 ^ k = n at *
 have hI1 : ¬ (n : Int) < 1 := by have := HP.out; omega
 have hI2 : ¬ 64 < (n : Int) := by have := HP.out; omega
 have hk2 : (k : Int) ≤ 6 := by omega
 clear hk
 go_enter Tryz.func43, Tryz.ntmps43
 go_wp2_with fail
 refine (HL.out _).mono ?_
 rintro e' w1 ⟨rfl, rfl⟩
 go_wp2_with fail
 go_ret2
 exact ⟨rfl, rfl⟩
theorem x0v (n : Int) (h : ¬ ∃ k, k < 7 ∧ n = ((2 ^ k : Nat) : Int)) (w : World) : Calls Tryz.prog 43 #[.int .i64 n] w fun e w' => e = .returned (.tuple #[.int .i64 0, .bool false]) ∧ w = w' := by
 have HN := qH h
 clear h
 by_cases h1 : n < 1
 ·go_enter Tryz.func43, Tryz.ntmps43
  go_wp2_with fail
  go_ret2
  exact ⟨rfl, rfl⟩
 ·by_cases h2 : 64 < n
  ·go_enter Tryz.func43, Tryz.ntmps43
   go_wp2_with fail
   go_ret2
   exact ⟨rfl, rfl⟩
  ·have hb : (bits BinOp.and IntKind.i64 n (n - 1) != 0) = true := by
    obtain ⟨m, rfl⟩ : ∃ m : Nat, n = (m : Int) := ⟨n.toNat, by omega⟩
    rcases r0W m ap1 ap1 with ⟨k, hk, hm⟩ | h
    ·exact absurd ⟨k, hk, by rw [hm]⟩ HN.out
    ·exact h
   go_enter Tryz.func43, Tryz.ntmps43
   go_wp2_with fail
   go_ret2
   exact ⟨rfl, rfl⟩
end
end Go.Proofs.YtpfimiajoifjaaaGreat
namespace Go.Mv
open Go.RowKit
def OffT (T : TypeId) (w : World) (S : Nat → Prop) : Prop := ∀ k, k < w.heap.size → S k → ∃ L U, Has w k L U ∧ T ≠ U
theorem OffT.one {T U : TypeId} {w : World} {g : Nat} {L : List Value} (h : Has w g L U) (hT : T ≠ U) : OffT T w (One g) := fun k _ hk => by
 have e : k = g := hk
 subst e; exact ⟨L, U, h, hT⟩
theorem OffT.own {T U : TypeId} {w : World} {base sz n : Nat} {v : Value} {L : List Value} (h : Own w base U sz v n L) (hT : T ≠ U) : OffT T w (b0g v) := fun k _ hk => by
 rcases h.2 with ⟨rfl, -⟩ | ⟨g, o, cap, B, rfl, h3, h4, -⟩
 ·simp [b0g, Value.ownBlock] at hk
 ·have e : g = k := Option.some.inj hk
  subst e; exact ⟨B, U, h4, hT⟩
theorem Own.keepT {T : TypeId} {w w' : World} {S : Nat → Prop} {base sz n : Nat} {v : Value} {L : List Value} (h : Own w base T sz v n L) (hf : Fr S w w') (hS : OffT T w S) : Own w' base T sz v n L :=
 h.keep hf fun k hk hs => by
  obtain ⟨L2, U, h2, hT⟩ := hS k (h.lt hk).2 hs
  exact h.ne h2 hT hk
theorem Sy.keepT {X S : Nat → Prop} {w0 w w' : World} {bl : List (Nat × List Value × TypeId)} {l : List Ox} (h : Sy X w0 w bl l) (hf : Fr S w w') (hX : ∀ k, S k → X k) (hb : ∀ x ∈ bl, OffT x.2.2 w S) (hl : ∀ x ∈ l, OffT x.T w S) : Sy X w0 w' bl l := by
 refine ⟨⟨h.st.fr.trans hf fun k _ hk => hX k hk, h.st.own, fun x hx => (h.st.has x hx).keep hf fun hk => ?_, h.st.ne⟩, ⟨fun x hx => (h.os.own x hx).keepT hf (hl x hx), h.os.off, h.os.sep, fun k hk => Nat.lt_of_lt_of_le (h.os.lt k hk) hf.size⟩, h.inX⟩
 obtain ⟨L, U, h2, hT⟩ := hb x hx x.1 (h.st.has x hx).lt hk
 obtain ⟨_, _, e1, _⟩ := h.st.has x hx
 obtain ⟨_, _, e2, _⟩ := h2
 rw [e1] at e2
 simp only [Option.some.injEq, Obj.cells.injEq] at e2
 exact hT e2.2.1
end Go.Mv
namespace Go.Proofs.YtpfimiajoifjaaaGreat
open Go.RowKit Go.Mv Mvp Mvq
theorem POwn.keepT {w w' : World} {base : Nat} {S : Nat → Prop} (hf : Fr S w w') (hS : OffT 5 w S) {vs : List Value} {ls : List (List UInt8)} (h : POwn w base vs ls) : POwn w' base vs ls :=
 POwn.keep hf h fun v n l ho k hk hs => by
  obtain ⟨L2, U, h2, hT⟩ := hS k (Go.Mv.Own.lt ho hk).2 hs
  exact Go.Mv.Own.ne ho h2 hT hk
theorem LogAt.offT {T : TypeId} {w : World} {base g : Nat} {st : List UInt8} (h : LogAt w base g st) (hT : T ≠ 293) : OffT T w (One g) := by
 obtain ⟨v, hv⟩ := h.has
 exact OffT.one hv hT
theorem LogAt.keepT {w w' : World} {S : Nat → Prop} {base g : Nat} {st : List UInt8} (h : LogAt w base g st) (hf : Fr S w w') (h1 : OffT 5 w S) (h2 : OffT 293 w S) : LogAt w' base g st := by
 obtain ⟨v, h3, h4⟩ := h
 refine ⟨v, h3.keep hf fun hk => ?_, Go.Mv.Own.keepT h4 hf h1⟩
 obtain ⟨L, U, k1, hT⟩ := h2 g h3.lt hk
 obtain ⟨_, _, e1, _⟩ := h3
 obtain ⟨_, _, e2, _⟩ := k1
 rw [e1] at e2
 simp only [Option.some.injEq, Obj.cells.injEq] at e2
 exact hT e2.2.1
theorem RP.of2 {w : World} {base base' n : Nat} {v : Value} {us : List Value} {ps : List Zq} (h : Go.Mv.Own w base 23 1 v n us) (hp : POwn w base' us (ps.map wrQ)) (hn : n = ps.length) : RP w v ps := by
 subst hn
 obtain ⟨a, c, rfl, hc, hr, -⟩ := Go.Mv.Own.form h
 rw [Nat.mul_one] at hr
 exact ⟨a, c, us, rfl, hc, hr, POwn.bpartsT hp⟩
theorem RZ.hi {w : World} {a : Option Addr} {m c : Nat} {xs : List Zq} (h : RZ w (.slice a m c) xs) (k : Nat) (hk : k ≤ m) : RZ w (.slice a k c) (xs.take k) := by
 have h2 := RZ.cut h 0 k (Nat.zero_le _) hk
 rwa [l0i, Nat.sub_zero, Nat.sub_zero, List.drop_zero] at h2
theorem RZ.lo {w : World} {a : Option Addr} {m c : Nat} {xs : List Zq} (h : RZ w (.slice a m c) xs) (k r : Nat) (hk : k ≤ m) (hr : m - k = r) : RZ w (.slice (m0D 4 a k c) r (c - k)) (xs.drop k) := by
 have hl : xs.length = m := by obtain ⟨_, _, e, _⟩ := h; cases e; rfl
 have h2 := RZ.cut h k m hk (Nat.le_refl _)
 rwa [hr, List.take_of_length_le (by rw [List.length_drop, hl, hr]; exact Nat.le_refl _)] at h2
theorem RP.hi {w : World} {a : Option Addr} {m c : Nat} {xs : List Zq} (h : RP w (.slice a m c) xs) (k : Nat) (hk : k ≤ m) : RP w (.slice a k c) (xs.take k) := by
 have h2 := RP.cut h 0 k (Nat.zero_le _) hk
 rwa [l0i, Nat.sub_zero, Nat.sub_zero, List.drop_zero] at h2
theorem RP.lo {w : World} {a : Option Addr} {m c : Nat} {xs : List Zq} (h : RP w (.slice a m c) xs) (k r : Nat) (hk : k ≤ m) (hr : m - k = r) : RP w (.slice (m0D 1 a k c) r (c - k)) (xs.drop k) := by
 have hl : xs.length = m := by obtain ⟨_, _, _, e, _⟩ := h; cases e; rfl
 have h2 := RP.cut h k m hk (Nat.le_refl _)
 rwa [hr, List.take_of_length_le (by rw [List.length_drop, hl, hr]; exact Nat.le_refl _)] at h2
theorem n0Q : (Tryz.prog.info? 125).map (·.size) = some 4 := by kernel_rfl
theorem n0R : (Tryz.prog.info? 23).map (·.size) = some 1 := by kernel_rfl
theorem f0K {o : Oper} {a : Act} {ty e : TypeId} {sz : Nat} {x y : Operand} (ho : o.op = .slice ty x none (some y) none) (hu : Tryz.prog.underlying ty = some (.slice e)) (hsz : (Tryz.prog.info? e).map (·.size) = some sz) {p : Option Addr} {n c h : Nat} {k : IntKind} (hx : a.eval x = .slice p n c) (hy : a.eval y = .int k (h : Int)) (hh : h ≤ c) (w : World) :
  (execOp a.eval o).run Tryz.prog w = .ok (.value (.slice p h c)) w := by
 have hr := j0Q w hu hsz p n c none (some (.int k (h : Int))) 0 h rfl ⟨k, rfl⟩ (Nat.zero_le _) hh
 rw [l0i, Nat.sub_zero, Nat.sub_zero] at hr
 unfold execOp
 simp only [ho, hx, hy, Option.map_none, Option.map_some, Sem.run_bind, Sem.run_pure, Result.andThen_ok, hr]
theorem f0L {o : Oper} {a : Act} {ty e : TypeId} {sz : Nat} {x y : Operand} (ho : o.op = .slice ty x (some y) none none) (hu : Tryz.prog.underlying ty = some (.slice e)) (hsz : (Tryz.prog.info? e).map (·.size) = some sz) {p : Option Addr} {n c l r : Nat} {k : IntKind} (hx : a.eval x = .slice p n c) (hy : a.eval y = .int k (l : Int)) (hl : l ≤ n) (hn : n ≤ c) (hr' : n - l = r) (w : World) :
  (execOp a.eval o).run Tryz.prog w = .ok (.value (.slice (m0D sz p l c) r (c - l))) w := by
 have hr := j0Q w hu hsz p n c (some (.int k (l : Int))) none l n ⟨k, rfl⟩ rfl hl hn
 rw [hr'] at hr
 unfold execOp
 simp only [ho, hx, hy, Option.map_none, Option.map_some, Sem.run_bind, Sem.run_pure, Result.andThen_ok, hr]
structure PtS (w : World) (b0 : Nat) (ug uh uL uR : List Value) (vu : Value) (g h : List Zq) (u : Zq) (sL sR : List Zq) : Prop where
 pg : POwn w 0 ug (g.map wrQ)
 ph : POwn w 0 uh (h.map wrQ)
 pu : Go.Mv.Own w 0 5 1 vu 33 (bs (wrQ u))
 pl : POwn w b0 uL (sL.map wrQ)
 pr : POwn w b0 uR (sR.map wrQ)
 sep : Sep (uL ++ uR)
theorem PtS.keepT {w w' : World} {S : Nat → Prop} {b0 : Nat} {ug uh uL uR : List Value} {vu : Value} {g h : List Zq} {u : Zq} {sL sR : List Zq} (k : PtS w b0 ug uh uL uR vu g h u sL sR) (hf : Fr S w w') (hS : OffT 5 w S) : PtS w' b0 ug uh uL uR vu g h u sL sR :=
 ⟨POwn.keepT hf hS k.pg, POwn.keepT hf hS k.ph, Go.Mv.Own.keepT k.pu hf hS, POwn.keepT hf hS k.pl, POwn.keepT hf hS k.pr, k.sep⟩
theorem PtS.still {w w' : World} {b0 : Nat} {ug uh uL uR : List Value} {vu : Value} {g h : List Zq} {u : Zq} {sL sR : List Zq} (k : PtS w b0 ug uh uL uR vu g h u sL sR) (hf : Fr Nob w w') : PtS w' b0 ug uh uL uR vu g h u sL sR :=
 k.keepT hf fun _ _ t => t.elim
noncomputable def chP (st : List UInt8) (l r : Zq) : Zq × List UInt8 := (d0W (b0D st (wrQ l) (wrQ r)), e0d (b0D st (wrQ l) (wrQ r)))
theorem x0w (st : List UInt8) (l r : Zq) : (chP st l r).1 * ivZ (chP st l r).1 = 1 := w0W _
def PvR (X : Nat → Prop) (w : World) (base gs gl g3 g4 : Nat) (P : List (Zq × Zq) × Zq × Zq) (u : Zq) (vu : Value) (nv : Value) (wr : World) : Prop :=
 ∃ (i : Nat) (st : List UInt8) (a b g h : List Zq) (va vb vg vh vL vR : Value) (ug uh uL uR : List Value) (d : List (Zq × Zq)), i ≤ 6 ∧ nv = .int .i64 ((2 ^ i / 2 : Nat) : Int) ∧ a.length = 2 ^ i ∧ b.length = 2 ^ i ∧ g.length = 2 ^ i ∧ h.length = 2 ^ i ∧ d.length + i ≤ 6 ∧
  P = (d ++ (b0d chP ivZ i st a b g h u).1, (b0d chP ivZ i st a b g h u).2) ∧ LogAt wr base gl st ∧ base ≤ wr.heap.size ∧
  Sy X w wr [(gs, [va, vb, vg, vh, vu], 91), (g3, [.pointer (some ⟨gl, 0, none⟩)], 98), (g4, [vL, vR, .slice none 0 0, .slice none 0 0], 26)]
   [⟨vL, 23, 1, d.length, uL⟩, ⟨vR, 23, 1, d.length, uR⟩, ⟨va, 125, 4, 2 ^ i, qC a⟩, ⟨vb, 125, 4, 2 ^ i, qC b⟩, ⟨vg, 23, 1, 2 ^ i, ug⟩, ⟨vh, 23, 1, 2 ^ i, uh⟩] ∧
  PtS wr w.heap.size ug uh uL uR vu g h u (d.map (·.1)) (d.map (·.2))
theorem Sep.snoc2 {vL vR : List Value} {l r : Value} (h : Sep (vL ++ vR)) (hl : ∀ v ∈ vL ++ vR, ∀ k, b0g v k → ¬ b0g l k) (hr : ∀ v ∈ vL ++ vR ++ [l], ∀ k, b0g v k → ¬ b0g r k) : Sep ((vL ++ [l]) ++ (vR ++ [r])) := by
 have h2 : Sep (vL ++ vR ++ [l] ++ [r]) := by
  refine List.pairwise_append.2 ⟨List.pairwise_append.2 ⟨h, List.pairwise_singleton _ _, fun v hv x hx => ?_⟩, List.pairwise_singleton _ _, fun v hv x hx => ?_⟩
  ·rw [List.mem_singleton.1 hx]; exact hl v hv
  ·rw [List.mem_singleton.1 hx]; exact hr v hv
 refine List.Perm.pairwise (l := vL ++ vR ++ [l] ++ [r]) ?_ h2 ?_
 ·rw [List.append_assoc, List.append_assoc, List.append_assoc]
  refine List.Perm.append_left _ ?_
  rw [← List.append_assoc, ← List.append_assoc]
  exact List.Perm.append_right _ List.perm_append_comm
 ·intro x y hxy k hk hk2
  exact hxy k hk2 hk
end Go.Proofs.YtpfimiajoifjaaaGreat
