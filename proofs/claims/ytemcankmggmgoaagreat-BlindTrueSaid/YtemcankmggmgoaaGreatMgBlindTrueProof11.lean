/- ; ; ; ; ; ; ; ; ; ; ; ; ; ; ; ; ; ; ; ; ; ; ; . -/
import Derived.Test.YtemcankmggmgoaaGreatMgBlindTrueProof9
import Derived.RangeFuncNested
import Derived.RangeFuncBound
import Derived.RangeFuncCalls
import Derived.RangeFuncLeaves
import Derived.Deep.DeepCutAuto
import Derived.Test.YtemcankmggmgoaaGreatMgBlindTrueProof7
import Derived.Test.YtemcankmggmgoaaGreatMgBlindTrueProof8
import Derived.IntWalk
import Derived.Test.YtemcankmggmgoaaGreatMgBlindTrueProof1
import Derived.Test.YtemcankmggmgoaaGreatMgBlindTrueProof6
import Derived.Test.YtemcankmggmgoaaGreatMgBlindTrueProof10
set_option maxHeartbeats 16000000
set_option maxRecDepth 1000000

namespace Go.Mv
open Go.RowKit
variable {P : Program} {ops : Array Oper} {Q : Exit → Act → World → Prop} {a : Act} {w : World} {rest : List Oper} {o : Oper} {n l : Nat}
def p0j (rest : List Oper) : Bool := rest.all fun o => match o.op with | .defer _ => false | _ => true
theorem s0a {o : Oper} (h : (match o.op with | .defer _ => false | _ => true) = true) : ∀ c, o.op ≠ .defer c := by
 intro c e
 rw [e] at h
 cases h
theorem v0o {row : String} {args : Array Value} {R : Value → World → Prop} (h : Rows P row args w R) : RowsIn (Fence.wide.inRound l) n P row args w R :=
 fun c cs _ => let ⟨v, w', r, s⟩ := h c cs; ⟨v, w', r, stepsIn_wide.2 s⟩
theorem s0b {K : Act → World → Prop} (hd : ∀ c, o.op ≠ .defer c) (h : o.wp P a w K Q) : o.wpIn (Fence.wide.inRound l) n P a w K Q := by
 refine ⟨fun _ _ => trivial, ?_⟩
 have e : o.semAt (some l) a.eval = execOp a.eval o := Oper.semAt_eq _ _ _ hd
 show o.uponIn (Fence.wide.inRound l) n P a K Q ((o.semAt (some l) a.eval).run P w)
 rw [e]
 unfold Oper.wp at h
 generalize (execOp a.eval o).run P w = r at *
 cases r with
 | ok v w' =>
  cases v with
  | value v => exact h
  | skip => exact h
  | defer d => exact h
  | enter f args => exact ⟨fun h => by simp [Fence.wide] at h, CallsIn.inRound l (callsIn_wide.2 h)⟩
  | row row args => exact ⟨fun h => by simp [Fence.wide] at h, v0o h⟩
  | _ => exact h.elim
 | halt s w' =>
  cases s <;> first | exact h | exact h.elim
theorem j0u (hQ : ¬ LetsOut Q) : ∀ (rest : List Oper) (a : Act) (w : World), p0j rest = true → wpList P ops Q rest a w → wpListIn (Fence.wide.inRound l) n P ops Q rest a w
 | [], _, _, _, h => h
 | o :: rest, a, w, hd, h => by
  unfold p0j at hd
  rw [List.all_cons, Bool.and_eq_true] at hd
  unfold wpList at h
  unfold wpListIn
  by_cases hw : Region.wanted o (yielded ops a.tmps) = true
  ·rw [if_pos hw] at h ⊢
   rcases h with h | h
   ·exact s0b (s0a hd.1) (Oper.wp_mono (fun a w k => j0u hQ rest a w hd.2 k) h)
   ·exact absurd h.2 hQ
  ·rw [if_neg hw] at h ⊢
   exact ⟨fun _ _ => trivial, j0u hQ rest _ w hd.2 h⟩
theorem j0v {id : Nat} {rest : List Oper} (hQ : ¬ LetsOut Q) (hd : p0j rest = true) (h : wpList P rest.toArray Q rest a w) : (Code.region id rest.toArray false).wpIn (Fence.wide.inRound l) n P Q a w :=
 wpIn_region_lit (j0u hQ rest a w hd h)
theorem h0C {v : Value} (hg : Region.wanted o (yielded ops a.tmps) = true) (_ : ∀ c, o.op ≠ .defer c) (hv : (execOp a.eval o).run P w = .ok (.value v) w) (h : wpListIn Fence.wide n P ops Q rest (a.put o.dst v) w) : wpListIn Fence.wide n P ops Q (o :: rest) a w := by
 unfold wpListIn
 rw [if_pos hg]
 refine ⟨fun _ _ => trivial, ?_⟩
 show o.uponIn Fence.wide n P a _ Q ((o.semAt none a.eval).run P w)
 rw [show o.semAt none a.eval = execOp a.eval o from Oper.semAt_none _ _, hv]
 exact h
theorem s0c {f : FuncId} {tmps : Array Value} {assign body : Code} {R : Ending → World → Prop} (hg : Region.wanted o (yielded ops a.tmps) = true) (hv : (execOp a.eval o).run P w = .ok (.round l f tmps assign body) w)
  (hR : RoundIn Fence.wide (n - 1) P l f tmps assign body w R) (h : ∀ e w', R e w' → ∃ b, e = .returned b ∧ wpListIn Fence.wide n P ops Q rest (a.put o.dst b) w') : wpListIn Fence.wide n P ops Q (o :: rest) a w := by
 unfold wpListIn
 rw [if_pos hg]
 refine ⟨fun _ _ => trivial, ?_⟩
 show o.uponIn Fence.wide n P a _ Q ((o.semAt none a.eval).run P w)
 rw [show o.semAt none a.eval = execOp a.eval o from Oper.semAt_none _ _, hv]
 refine ⟨fun h => by simp [Fence.wide] at h, hR.mono fun e w' k => ?_⟩
 obtain ⟨b, rfl, h2⟩ := h e w' k
 exact h2
theorem j0K (n : Nat) {id : Nat} {rest : List Oper} (h : wpListIn Fence.wide n P rest.toArray Q rest a w) : (Code.region id rest.toArray false).wp P Q a w := wpIn_wide.1 (wpIn_region_lit h)
end Go.Mv
namespace Go.Mv
open Go.RowKit
theorem Fr.grown {a b : World} (h : Fr Nob a b) : a.grownBy b none := ⟨h.os, h.tape, h.output, h.size, fun k hk _ => h.block k hk id⟩
end Go.Mv
namespace Go.Proofs.YtemcankmggmgoaaGreat
open Go.RowKit Go.Mv Mvp Mvq
theorem y0a : (Tryz.prog.info? 22).map (fun i => (i.zero, i.size, i.bytes)) = some (some (.slice none 0 0), 1, 24) := by kernel_rfl
theorem B0p (lab b : List UInt8) (i : Nat) : hN lab b i = beN (c0s (d0Z ++ lab) [b, [UInt8.ofNat i]]) := by unfold hN hB; rfl
theorem B0q (s : List UInt8) (ls : List (List UInt8)) (w : World) (base : Nat) (v : Value) (h : Go.Mv.Own w base 5 1 v 32 (bs (c0s s ls))) : ∃ a c, v = .slice a 32 c ∧ RdB w a 32 (c0s s ls) := by
 obtain ⟨a, c, rfl, -, hr, -⟩ := h.form
 rw [Nat.mul_one] at hr
 exact ⟨a, c, rfl, hr⟩
theorem F0k (lab b : List UInt8) (i : Nat) (hl : (c0s (d0Z ++ lab) [b, [UInt8.ofNat i]]).length = 32) : hN lab b i < B64 ^ 4 := by
 rw [B0p]
 exact f0t _ ap16
theorem B0r (n y : Nat) (h : onC (.A (kc n) (kc y))) : (o0J n y h).L = cw 4 (elN mP n) ++ (cw 4 (elN mP y) ++ cw 4 (elN mP 1)) := rfl
attribute [local irreducible] a0C lw mix cw b0k b0y b0j a0M a0n beN b0F a0P b0C a0J a0R elN mdL a0S rtN rtV b0G gXn gYn PT.L l0V l0r f0D tbL tmR tmL dbN h0T h0B j0e dig rdT b0J b0q ptL e0W c0P a0H b0g b0x toB a0u a0B b0h b0R a0L c0g b0b a0y c0s hB hN d0Q c0v atY d0A o0J
theorem k0B {o : Oper} {a : Act} {p q : Operand} {T U : TypeId} {s t : ByteArray} {r : List UInt8} (ho : o.op = .binOp .add T p q U) (hp : a.eval p = .string s) (hq : a.eval q = .string t) (_hT : Tryz.prog.underlying T = some .string) (h : s.size + t.size ≤ 10000000) (hr : s ++ t = mkS r) (w : World) :
  (execOp a.eval o).run Tryz.prog w = .ok (.value (.string (mkS r))) w := by
 have h3 : (binOp .add T (.string s) (.string t)).run Tryz.prog w = .ok (.string (s ++ t)) w := by
  have h4 : s.size + t.size ≤ 9223372036854775807 := by omega
  go_simp
 have h2 := c0V (P := Tryz.prog) ho hp hq w (by go_simp) h3
 rwa [hr] at h2
theorem k0C {w : World} {v : Value} {l : List UInt8} (h : PartIs w v l) : v.cells = #[v] := by
 obtain ⟨a, n, c, rfl, -⟩ := h
 rfl
theorem s0d {l : Nat} {vs : List Value} {nx : Next} {o : Oper} {a : Act} {w : World} {x : Operand} {xs : Array Operand} {ats : Array TypeId} (ho : o.op = .call { callee := .value x, args := xs, argTypes := ats }) (hx : a.eval x = .func (.yield l) #[] #[]) (ha : xs.toList.map a.eval = vs)
  (hy : (Instr.yield l vs.toArray).run Tryz.prog w = .ok nx w) : (execOp a.eval o).run Tryz.prog w = .ok nx w := by
 have ha2 : xs.map a.eval = vs.toArray := by rw [← ha]; simp [← Array.toList_map]
 unfold execOp
 simp only [ho, resolve, hx, ha2]
 simp [invoke, hy, go_sem]
theorem s0e (lab : ByteArray) (hsz : lab.size ≤ 100000) (g2 g3 : Nat) (va : Value) (b : List UInt8) (w : World) (h2 : Has w g2 [.string lab] 9) (h3 : Has w g3 [va] 22) (hb : PartIs w va b) :
  SeqStopsK Fence.wide 2 Tryz.prog 191 #[.pointer (some ⟨g2, 0, none⟩), .pointer (some ⟨g3, 0, none⟩)] (fun x : PT => #[.agg x.L.toArray]) (Below w.heap.size) (fun xs => xs = c0v lab.data.toList b 256) (fun pre => ∃ k x, k < 256 ∧ d0Q lab.data.toList b k = some x ∧ pre = c0v lab.data.toList b k ++ [x]) 256 w := by
 intro l J Jx W hW hJ hJx hY h0
 refine callsIn_wide.2 ?_
 show Calls Tryz.prog 191 #[.func (.yield l) #[] #[], .pointer (some ⟨g2, 0, none⟩), .pointer (some ⟨g3, 0, none⟩)] W _
 have HY := qH hY
 have HJ := qH hJ
 have HJX := qH hJx
 have H0 := qH h0
 have HW := qH (Fr.ofBelow hW)
 have H2 := qH h2
 have H3 := qH h3
 have HB := qH hb
 have HSZ := qH hsz
 clear hY hJ hJx h0 hW h2 h3 hb hsz
 go_enter Tryz.func191, Tryz.ntmps191
 go_wp2
 go_loopw [8] (fun v wr => ∃ k : Nat, k ≤ 256 ∧ v = .int .i64 (k : Int) ∧ J (c0v lab.data.toList b k) wr ∧ Fr Nob w wr ∧ W.heap.size ≤ wr.heap.size) (fun v _ => 256 - (intOf v).toNat)
 case atStart => exact ⟨0, Nat.zero_le _, rfl, by rw [k0u]; exact H0.out, HW.out, Nat.le_refl _⟩
 case round =>
  obtain ⟨k, hk, rfl, hJk, hfk, hWk⟩ := hrel
  have HJK := qH hJk
  have HFK := qH hfk
  have HWK := qH hWk
  clear hJk hfk hWk
  by_cases hlt : k < 256
  ·have hltI : (k : Int) < 256 := by omega
   have hk0 : (0 : Int) ≤ (k : Int) := by omega
   have hk8 : (k : Int) % 256 = (k : Int) := by omega
   have HLT := qH hlt
   clear hlt hk
   have hc2 := (H2.out.keep HFK.out id).cell (show [Value.string lab][0]? = _ from rfl)
   have hc3 := (H3.out.keep HFK.out id).cell (show [va][0]? = _ from rfl)
   go_wp2_with (with_reducible refine wSk 12 ?_)
   refine f0g rfl (k0B rfl rfl rfl Tryz.underlying9 (by have h : (⟨#[112, 111, 105, 110, 116, 32]⟩ : ByteArray).size = 6 := rfl; rw [h]; have := HSZ.out; omega) (v0f lab) _) ?_
   go_wp2_with (with_reducible refine wSk 16 ?_)
   refine c0q rfl rfl Tryz.underlying22 b0K [.int .u8 (k : Int)] rfl (by intro u hu; simp only [List.mem_singleton] at hu; subst hu; rfl) rfl rfl ?_
   intro wa hga hfa hza
   clear hza hc2 hc3
   have hgb : Has wa wr.heap.size (bs [UInt8.ofNat k]) 5 := by
    have e : [Value.int .u8 (k : Int)] = bs [UInt8.ofNat k] := by
     show _ = [Value.int .u8 ((UInt8.ofNat k).toNat : Int)]
     rw [UInt8.toNat_ofNat', Nat.mod_eq_of_lt HLT.out]
    rw [e] at hga
    exact hga
   have hpb : PartIs wa (.slice (some ⟨wr.heap.size, 0, none⟩) 1 1) [UInt8.ofNat k] := ⟨_, 1, 1, rfl, Nat.le_refl _, by omega, Rd.whole hgb, fun x hx => by simp only [Option.some.injEq] at hx; subst hx; exact hgb.lt⟩
   have HPB := qH hpb
   have HFA := qH hfa
   have HPA := qH (HB.out.still (HFK.out.then hfa))
   have HVC := qH (k0C HB.out)
   clear hga hfa hgb hpb
   generalize hg16 : wr.heap.size = g16 at *
   have HG16 := qH hg16
   clear hg16
   go_wp2_with (with_reducible refine wSk 17 ?_)
   refine c0q (vs := [va, .slice (some ⟨g16, 0, none⟩) 1 1]) (hgd := rfl) (ho := rfl) (hu := Tryz.underlying39) (hi0 := y0a) (hp := by rfl) (hv := fun u hu => by
    simp only [List.mem_cons, List.not_mem_nil, or_false] at hu
    rcases hu with rfl | rfl
    ·exact HVC.out
    ·rfl) (hk := by rfl) (hz := by rfl) (h := ?_)
   intro wb hgb hfb hzb
   clear hzb
   have hps : Parts wb [va, .slice (some ⟨g16, 0, none⟩) 1 1] [b, [UInt8.ofNat k]] := ⟨HPA.out.still hfb, HPB.out.still hfb, trivial⟩
   have HPS := qH (hps.at hgb)
   have HFB := qH (HFA.out.then hfb)
   clear hgb hfb hps HPA HPB HFA
   generalize wa.heap.size = g17 at *
   go_wp2_with fail
   refine (s0Q (mkS (d0Z ++ lab.data.toList)) _ _ [b, [UInt8.ofNat k]] _ (by rw [b0a]; have := HSZ.out; simp [d0Z]; omega) ap17 HPS.out).mono ?_
   rintro e wc ⟨vt, rfl, ho, hf⟩
   rw [b0o] at ho
   obtain ⟨at_, ct, hvt, hrt⟩ := B0q _ _ _ _ _ ho
   subst hvt
   have HRT := qH hrt
   have HFC := qH (HFB.out.then hf)
   clear ho hf hrt HFB HPS
   have hnl := F0k lab.data.toList b k (by have := HRT.out.len; exact this)
   have hni := B0p lab.data.toList b k
   generalize hn : hN lab.data.toList b k = n at *
   have HNL := qH hnl
   have HNN := qH hn
   have HNI := qH hni
   clear hnl hn hni
   go_wp2_with fail
   refine (c0k at_ 32 ct _ _ HRT.out ap15).mono ?_
   rintro e wd ⟨rfl, hf⟩
   rw [← HNI.out]
   have HFD := qH (HFC.out.then hf)
   clear hf HFC HRT
   have st0 := St.start Nob wd
   go_wp2_with (with_reducible refine wSk 5 ?_)
   refine a0a st0 rfl rfl (z := zAd) ap14 (cw 4 0) ap12 ?_
   intro g5 w1 st1
   clear st0
   go_wp2_with (with_reducible refine wSn ?_)
   refine a0b st1 0 rfl rfl rfl rfl rfl ap2 ap0 (a0f _ _) ?_
   intro w2 st2
   clear st1
   by_cases hd : n < mP.M
   ·have HD := qH (show decide (n < mP.M) = true from decide_eq_true hd)
    have HLM := qH hd
    clear hd
    go_wp2_with fail
    refine wp_region_noPanic ?_
    refine a0e st2 9 [.t 0, .c 1, .w 2, .w 3, .c 4, .w 5, .w 6, .c 7, .c 8] (.m 9 .nil) ap14 ap14 (fun _ _ _ _ _ h => h) ?_
    clear st2
    refine a0d rfl rfl rfl (fun _ => rfl) (cw 4 n) (fun wx hS => St.rangeL hS 0 rfl 0 _ dZl) Tryz.underlying111 rfl ap0 ?_
    try simp only [clL]
    refine b0v (X := Nat × Nat) (fun y => .pointer (some ⟨y.1, 0, none⟩)) (fun y w => Has w y.1 (e0b mP y.2 gXn gYn) 125 ∧ Has w y.2 (mdL mP) 187) (fun _ _ _ h k => ⟨h.1.keep k id, h.2.keep k id⟩) rfl rfl rfl Tryz.call86 (fun w hS hR => j0s _) (fun _ => rfl) fun y1 => ?_
    try simp only [clL]
    refine a0m rfl rfl apX ?_
    try simp only [clL]
    refine a0m rfl rfl apX ?_
    try simp only [clL]
    refine r0Q (v := ?_) rfl rfl (fun xq wx hS hR => ?_) ?_
    rotate_left 1
    ·(have hc := (hR.2).1.cell (show (e0b mP y1.2 gXn gYn)[0]? = some (.pointer (some ⟨y1.2, 0, none⟩)) from rfl); clear hS hR; go_simp; with_reducible rfl)
    try simp only [clL]
    refine a0m rfl rfl apX ?_
    try simp only [clL]
    refine a0m rfl rfl apX ?_
    try simp only [clL]
    refine r0Q (v := ?_) rfl rfl (fun xq wx hS hR => ?_) ?_
    rotate_left 1
    ·(refine e0x (hR.2).2 (x := .tmp 26) (p := 0) ?_ ?_ (cw 4 mP.M) (l0T mP) Tryz.underlying111 rfl ?_; rfl; rfl; (rw [a0i]; kernel_rfl))
    try simp only [clL]
    refine a0c rfl rfl rfl Tryz.call145 (fun w hS hR => f0P n mP.M _ HNL.out b0Z.lt true HD.out) (fun _ => rfl) ?_
    try simp only [clL]
    refine a0t fun xq w3 st3 hR => ?_
    try dsimp only
    clear hR xq
    refine a0q rfl rfl ?_
    go_simp
    try simp only [clL]
    refine a0g ?_
    refine NoPanic.normal ?_
    rcases hr : b0G mP.M (d0A n) with _ | _
    ·have HR := qH hr
     have HC := qH (i0b HNN.out (fun h => by rw [hr] at h; exact absurd h.2 ap15))
     clear hr
     go_wp2_with fail
     refine wp_region_noPanic ?_
     refine a0e st3 13 [.o 11, .t 5, .c 0, .c 1, .w 2, .w 3, .c 4, .c 6, .c 7, .w 8, .w 9, .w 10, .j 11] (.r 12 (.m 13 .nil)) ap14 ap14 (fun _ _ _ _ _ h => h) ?_
     clear st3
     refine b0p rfl rfl rfl E0E (cw 12 0) rfl ?_
     try simp only [clL]
     refine a0d rfl rfl rfl (fun _ => rfl) (cw 4 n) (fun wx hS => St.rangeL hS 0 rfl 0 _ dZl) Tryz.underlying111 rfl ap0 ?_
     try simp only [clL]
     refine b0v (X := Nat × Nat) (fun y => .pointer (some ⟨y.1, 0, none⟩)) (fun y w => Has w y.1 (e0b mP y.2 gXn gYn) 125 ∧ Has w y.2 (mdL mP) 187) (fun _ _ _ h k => ⟨h.1.keep k id, h.2.keep k id⟩) rfl rfl rfl Tryz.call86 (fun w hS hR => j0s _) (fun _ => rfl) fun y2 => ?_
     try simp only [clL]
     refine b0v (X := Nat × Nat) (fun y => .pointer (some ⟨y.1, 0, none⟩)) (fun y w => Has w y.1 (e0b mP y.2 gXn gYn) 125 ∧ Has w y.2 (mdL mP) 187) (fun _ _ _ h k => ⟨h.1.keep k id, h.2.keep k id⟩) rfl rfl rfl Tryz.call86 (fun w hS hR => j0s _) (fun _ => rfl) fun y3 => ?_
     try simp only [clL]
     refine a0m rfl rfl apX ?_
     try simp only [clL]
     refine a0m rfl rfl apX ?_
     try simp only [clL]
     refine r0Q (v := ?_) rfl rfl (fun xq wx hS hR => ?_) ?_
     rotate_left 1
     ·(have hc := (hR.2).1.cell (show (e0b mP y3.2 gXn gYn)[0]? = some (.pointer (some ⟨y3.2, 0, none⟩)) from rfl); clear hS hR; go_simp; with_reducible rfl)
     try simp only [clL]
     refine a0c rfl rfl rfl Tryz.call147 (fun w hS hR => d0k mP y3.2 _ b0Z hR.2.2 n HNL.out) (fun _ => rfl) ?_
     try simp only [clL]
     refine a0c rfl rfl rfl Tryz.call184 (fun w hS hR => y0X mP y2.1 y2.2 gXn gYn _ b0Z hR.1.2.1 hR.1.2.2 n false HR.out) (fun _ => rfl) ?_
     try simp only [clL]
     refine a0m rfl rfl apX ?_
     try simp only [clL]
     refine a0m rfl rfl apX ?_
     try simp only [clL]
     refine a0m rfl rfl apX ?_
     try simp only [clL]
     refine b0f List.mem_cons_self fun g6 => ?_
     simp only [upd, reduceIte]
     try simp only [Nat.reduceEqDiff, reduceIte]
     refine a0t fun xq w4 st4 hR => ?_
     try dsimp only
     clear hR xq
     refine a0w rfl rfl ?_
     refine a0h st4 1 rfl rfl rfl rfl ap2 ap4 (b0i _ _ _) ?_
     intro w5 st5
     repeat (first | simp only [List.cons_append] at st5 | simp only [List.nil_append] at st5 | simp only [List.set_cons_succ] at st5 | simp only [List.set_cons_zero] at st5)
     clear st4
     refine ⟨by first | exact st5 | exact St.less st5 ap17, ?_⟩
     try simp only [Act.put]
     refine a0q rfl rfl ?_
     go_simp
     try simp only [clL]
     refine a0g ?_
     refine NoPanic.normal ?_
     have HFE := qH (HFD.out.then st5.fr)
     clear st5
     go_wp2_with fail
     go_roundw
     case rel => exact ⟨k + 1, by have := HLT.out; omega, by go_num, by rw [g0R HC.out]; exact HJ.out _ _ _ none HJK.out HFE.out.grown (fun r e => by cases e), HFK.out.then HFE.out, Nat.le_trans (by have h := HWK.out; rw [← HG16.out] at h; exact h) HFE.out.size⟩
     case measure => have := HLT.out; simp [intOf]; omega
    ·have HR := qH hr
     have hon := E0p hr
     have HC := qH (show d0Q lab.data.toList b k = some (o0J n (atY mP.M n) hon) from n0B HNN.out HLM.out hr)
     clear hr
     go_wp2_with fail
     refine wp_region_noPanic ?_
     refine a0e st3 13 [.o 11, .t 5, .c 0, .c 1, .w 2, .w 3, .c 4, .c 6, .c 7, .w 8, .w 9, .w 10, .j 11] (.r 12 (.m 13 .nil)) ap14 ap14 (fun _ _ _ _ _ h => h) ?_
     clear st3
     refine b0p rfl rfl rfl E0E (cw 12 0) rfl ?_
     try simp only [clL]
     refine a0d rfl rfl rfl (fun _ => rfl) (cw 4 n) (fun wx hS => St.rangeL hS 0 rfl 0 _ dZl) Tryz.underlying111 rfl ap0 ?_
     try simp only [clL]
     refine b0v (X := Nat × Nat) (fun y => .pointer (some ⟨y.1, 0, none⟩)) (fun y w => Has w y.1 (e0b mP y.2 gXn gYn) 125 ∧ Has w y.2 (mdL mP) 187) (fun _ _ _ h k => ⟨h.1.keep k id, h.2.keep k id⟩) rfl rfl rfl Tryz.call86 (fun w hS hR => j0s _) (fun _ => rfl) fun y2 => ?_
     try simp only [clL]
     refine b0v (X := Nat × Nat) (fun y => .pointer (some ⟨y.1, 0, none⟩)) (fun y w => Has w y.1 (e0b mP y.2 gXn gYn) 125 ∧ Has w y.2 (mdL mP) 187) (fun _ _ _ h k => ⟨h.1.keep k id, h.2.keep k id⟩) rfl rfl rfl Tryz.call86 (fun w hS hR => j0s _) (fun _ => rfl) fun y3 => ?_
     try simp only [clL]
     refine a0m rfl rfl apX ?_
     try simp only [clL]
     refine a0m rfl rfl apX ?_
     try simp only [clL]
     refine r0Q (v := ?_) rfl rfl (fun xq wx hS hR => ?_) ?_
     rotate_left 1
     ·(have hc := (hR.2).1.cell (show (e0b mP y3.2 gXn gYn)[0]? = some (.pointer (some ⟨y3.2, 0, none⟩)) from rfl); clear hS hR; go_simp; with_reducible rfl)
     try simp only [clL]
     refine a0c rfl rfl rfl Tryz.call147 (fun w hS hR => d0k mP y3.2 _ b0Z hR.2.2 n HNL.out) (fun _ => rfl) ?_
     try simp only [clL]
     refine a0c rfl rfl rfl Tryz.call184 (fun w hS hR => y0X mP y2.1 y2.2 gXn gYn _ b0Z hR.1.2.1 hR.1.2.2 n true HR.out) (fun _ => rfl) ?_
     try simp only [clL]
     refine a0m rfl rfl apX ?_
     try simp only [clL]
     refine a0m rfl rfl apX ?_
     try simp only [clL]
     refine a0m rfl rfl apX ?_
     try simp only [clL]
     refine b0f List.mem_cons_self fun g6 => ?_
     simp only [upd, reduceIte]
     try simp only [Nat.reduceEqDiff, reduceIte]
     refine a0t fun xq w4 st4 hR => ?_
     try dsimp only
     clear hR xq
     refine a0w rfl rfl ?_
     refine a0h st4 1 rfl rfl rfl rfl ap2 ap4 (b0i _ _ _) ?_
     intro w5 st5
     repeat (first | simp only [List.cons_append] at st5 | simp only [List.nil_append] at st5 | simp only [List.set_cons_succ] at st5 | simp only [List.set_cons_zero] at st5)
     clear st4
     refine ⟨by first | exact st5 | exact St.less st5 ap17, ?_⟩
     try simp only [Act.put]
     refine a0q rfl rfl ?_
     go_simp
     try simp only [clL]
     refine a0g ?_
     refine NoPanic.normal ?_
     have HAF := qH (B0r n (atY mP.M n) hon)
     have HFE := qH (HFD.out.then st5.fr)
     obtain ⟨fnn, tmps, assign, body, hy, hR⟩ := HY.out (c0v lab.data.toList b k) (o0J n (atY mP.M n) hon) w5 (HJ.out _ _ _ none HJK.out HFE.out.grown (fun r e => by cases e)) (Nat.lt_of_le_of_lt (v0e _ _ _) HLT.out)
     rw [HAF.out] at hy
     have HHY := qH hy
     have HRR := qH hR
     have HPT := qH (st5.at 1 rfl)
     clear hy hR st5
     go_upto_region 6 with fail
     refine j0K 2 ?_
     refine h0C rfl (fun c h => by cases h) (by go_simp; with_reducible rfl) ?_
     try simp only [clL]
     refine h0C rfl (fun c h => by cases h) (by go_simp; with_reducible rfl) ?_
     try simp only [clL]
     refine h0C rfl (fun c h => by cases h) (by go_simp; with_reducible rfl) ?_
     try simp only [clL]
     refine h0C rfl (fun c h => by cases h) (e0x HPT.out rfl rfl (cw 4 (elN mP n) ++ (cw 4 (elN mP (atY mP.M n)) ++ cw 4 (elN mP 1))) dZl Tryz.underlying117 rfl ap4) ?_
     try simp only [clL]
     refine s0c rfl (s0d (vs := [.agg (cw 4 (elN mP n) ++ (cw 4 (elN mP (atY mP.M n)) ++ cw 4 (elN mP 1))).toArray]) rfl rfl rfl HHY.out) HRR.out ?_
     rintro e W3 (⟨rfl, hJ3, hK3⟩ | ⟨rfl, hJx3⟩)
     ·refine ⟨_, rfl, ?_⟩
      try simp only [clL]
      refine h0C rfl (fun c h => by cases h) (by go_simp; with_reducible rfl) ?_
      try simp only [clL]
      refine h0C rfl (fun c h => by cases h) (by go_simp; with_reducible rfl) ?_
      try simp only [clL]
      refine wpListIn_nil ?_
      have hF3 : Fr Nob w W3 := Fr.ofBelow ((HFK.out.then HFE.out).below.trans hK3)
      have HF3 := qH hF3
      have HS3 := qH (Nat.le_trans (by have h := HWK.out; rw [← HG16.out] at h; exact h) (Nat.le_trans HFE.out.size hK3.size))
      have HJ3 := qH hJ3
      clear hJ3 hK3 hF3
      go_wp2_with fail
      go_roundw
      case rel => exact ⟨k + 1, by have := HLT.out; omega, by go_num, by rw [j0r HC.out]; exact HJ3.out, HF3.out, HS3.out⟩
      case measure => have := HLT.out; simp [intOf]; omega
     ·refine ⟨_, rfl, ?_⟩
      try simp only [clL]
      refine h0C rfl (fun c h => by cases h) (by go_simp; with_reducible rfl) ?_
      try simp only [clL]
      refine h0C rfl (fun c h => by cases h) (by go_simp; with_reducible rfl) ?_
      try simp only [clL]
      refine wpListIn_nil ?_
      have HJX3 := qH hJx3
      clear hJx3
      go_wp2_with fail
      refine bodyPost_ret (results_none rfl _ _ _) rfl ?_
      exact ⟨⟨_, rfl⟩, .inr ⟨_, ⟨k, _, HLT.out, HC.out, rfl⟩, HJX3.out⟩⟩
   ·have HD := qH (show decide (n < mP.M) = false from decide_eq_false hd)
    have HC := qH (i0b HNN.out (fun h => hd h.1))
    clear hd
    go_wp2_with fail
    refine wp_region_noPanic ?_
    refine a0e st2 9 [.t 0, .c 1, .w 2, .w 3, .c 4, .w 5, .w 6, .c 7, .c 8] (.m 9 .nil) ap14 ap14 (fun _ _ _ _ _ h => h) ?_
    clear st2
    refine a0d rfl rfl rfl (fun _ => rfl) (cw 4 n) (fun wx hS => St.rangeL hS 0 rfl 0 _ dZl) Tryz.underlying111 rfl ap0 ?_
    try simp only [clL]
    refine b0v (X := Nat × Nat) (fun y => .pointer (some ⟨y.1, 0, none⟩)) (fun y w => Has w y.1 (e0b mP y.2 gXn gYn) 125 ∧ Has w y.2 (mdL mP) 187) (fun _ _ _ h k => ⟨h.1.keep k id, h.2.keep k id⟩) rfl rfl rfl Tryz.call86 (fun w hS hR => j0s _) (fun _ => rfl) fun y1 => ?_
    try simp only [clL]
    refine a0m rfl rfl apX ?_
    try simp only [clL]
    refine a0m rfl rfl apX ?_
    try simp only [clL]
    refine r0Q (v := ?_) rfl rfl (fun xq wx hS hR => ?_) ?_
    rotate_left 1
    ·(have hc := (hR.2).1.cell (show (e0b mP y1.2 gXn gYn)[0]? = some (.pointer (some ⟨y1.2, 0, none⟩)) from rfl); clear hS hR; go_simp; with_reducible rfl)
    try simp only [clL]
    refine a0m rfl rfl apX ?_
    try simp only [clL]
    refine a0m rfl rfl apX ?_
    try simp only [clL]
    refine r0Q (v := ?_) rfl rfl (fun xq wx hS hR => ?_) ?_
    rotate_left 1
    ·(refine e0x (hR.2).2 (x := .tmp 26) (p := 0) ?_ ?_ (cw 4 mP.M) (l0T mP) Tryz.underlying111 rfl ?_; rfl; rfl; (rw [a0i]; kernel_rfl))
    try simp only [clL]
    refine a0c rfl rfl rfl Tryz.call145 (fun w hS hR => f0P n mP.M _ HNL.out b0Z.lt false HD.out) (fun _ => rfl) ?_
    try simp only [clL]
    refine a0t fun xq w3 st3 hR => ?_
    try dsimp only
    clear hR xq
    refine a0q rfl rfl ?_
    go_simp
    try simp only [clL]
    refine a0g ?_
    refine NoPanic.normal ?_
    have HFE := qH (HFD.out.then st3.fr)
    clear st3
    go_wp2_with fail
    go_roundw
    case rel => exact ⟨k + 1, by have := HLT.out; omega, by go_num, by rw [g0R HC.out]; exact HJ.out _ _ _ none HJK.out HFE.out.grown (fun r e => by cases e), HFK.out.then HFE.out, Nat.le_trans (by have h := HWK.out; rw [← HG16.out] at h; exact h) HFE.out.size⟩
    case measure => have := HLT.out; simp [intOf]; omega
  ·have hge : ¬ ((k : Int) < 256) := by omega
   have hk6 : k = 256 := by omega
   subst hk6
   clear hk hlt
   go_wp2_with fail
   go_end0
   first | exact ⟨⟨_, rfl⟩, .inl HJK.out⟩ | exact ⟨⟨_, rfl⟩, .inl ⟨_, rfl, HJK.out⟩⟩
end Go.Proofs.YtemcankmggmgoaaGreat
namespace Go.Mv
open Go.RowKit
theorem d0O {β : Type} (B g : Nat) (L : List Value) (T : TypeId) : OwnFrom B (fun (_ : β) W => Has W g L T) := fun _ X Y row hs hg hr =>
 Has.keep hs (Fr.ofGrown hg) (fun e => by
  obtain ⟨_, o, ho, hc⟩ := hr g e
  obtain ⟨lo, hi, h, -⟩ := hs
  rw [h] at ho
  cases ho
  cases hc)
theorem f0B {β : Type} {B : Nat} {w : World} (hB : w.heap.size ≤ B) : OwnFrom B (fun (_ : β) W => Fr Nob w W) := fun _ X Y row hs hg hr =>
 hs.trans (Fr.ofGrown hg) (fun i hi t => by
  have h := (hr i t).1
  omega)
theorem n0I {β : Type} (B n : Nat) : OwnFrom B (fun (_ : β) (W : World) => n ≤ W.heap.size) := fun _ _ _ _ hs hg _ => Nat.le_trans hs hg.size
theorem q0I {B : Nat} {W W' : World} (h : Fr Nob W W') : KeepsFrom B W W' :=
 ⟨h.size, fun k _ _ hk _ => (h.block k (Array.getElem?_eq_some_iff.1 hk).1 id).trans hk⟩
theorem n0J {B g : Nat} {W W' : World} (h : Fr (One g) W W') (hg : g < B) : KeepsFrom B W W' :=
 ⟨h.size, fun k o hB hk _ => (h.block k (Array.getElem?_eq_some_iff.1 hk).1 (fun e => by have : k = g := e; omega)).trans hk⟩
theorem B0s (t : Array Value) (p : Tmp) (v : Value) : (#[p].zip #[v]).foldl (fun t (p, v) => t.setIfInBounds p v) t = t.setIfInBounds p v := by simp
theorem z0l {K : Act → World → Prop} {Q : Exit → Act → World → Prop} (h : ∀ a w, ¬ Q .outgrown a w) : ¬ LetsOut (Exit.then K Q) := by
 rintro ⟨a, w, k⟩
 exact h a w k
end Go.Mv
namespace Go.Proofs.YtemcankmggmgoaaGreat
section
open Go.RowKit Go.Mv Mvp Mvq
theorem E0N : (Tryz.prog.info? 117).map (·.zero) = some (some (.agg (List.replicate 12 (.int .u64 0)).toArray)) := by kernel_rfl
attribute [local irreducible] a0C lw mix cw b0k b0y b0j a0M a0n beN b0F a0P b0C a0J a0R elN mdL a0S rtN rtV b0G gXn gYn PT.L l0V l0r f0D tbL tmR tmL dbN h0T h0B j0e dig rdT b0J b0q ptL e0W c0P a0H c0s hB hN d0Q c0v f0p atY d0A o0J
theorem B0t (lab : ByteArray) (va : Value) (hva : va.cells = #[va]) (w : World) : Calls Tryz.prog 161 #[.string lab, va] w fun e w' => ∃ g2 g3, e = .returned (.func (.func 191) #[] #[.pointer (some ⟨g2, 0, none⟩), .pointer (some ⟨g3, 0, none⟩)]) ∧ Has w' g2 [.string lab] 9 ∧ Has w' g3 [va] 22 ∧ Fr Nob w w' := by
 have HVA := qH hva
 clear hva
 have st0 := St.start Nob w
 go_enter Tryz.func161, Tryz.ntmps161
 go_wp2_with (with_reducible refine wSk 2 ?_)
 refine a0l st0 rfl rfl rfl [.string lab] rfl ?_
 intro g2 w1 st1
 clear st0
 unfold Act.put
 go_wp2_with (with_reducible refine wSk 3 ?_)
 refine a0l st1 rfl rfl rfl [va] (by show va.cells.toList = [va]; rw [HVA.out]) ?_
 intro g3 w2 st2
 clear st1
 have H2 := qH (st2.at 0 rfl)
 have H3 := qH (st2.at 1 rfl)
 have HF := qH st2.fr
 clear st2
 go_wp2_with fail
 go_ret
 exact ⟨g2, g3, rfl, H2.out, H3.out, HF.out⟩
theorem y0b (lab : ByteArray) (hsz : lab.size ≤ 100000) (va : Value) (b : List UInt8) (w : World) (hb : PartIs w va b) :
  Calls Tryz.prog 100 #[.string lab, va] w fun e w' => e = .returned (.agg (f0p lab.data.toList b).L.toArray) ∧ Fr Nob w w' := by
 have HSZ := qH hsz
 have HB := qH hb
 have HVA := qH (k0C hb)
 clear hsz hb
 have st0 := St.start Nob w
 refine (callsIn_wide (n := 3)).1 ?_
 refine callsIn_of_wp_marks Tryz.func100 rfl trivial ?_ rfl
 simp only [Tryz.ntmps100, List.size_toArray, List.length_cons, List.length_nil, Nat.reduceAdd, Nat.reduceSub, Array.replicate_succ, Array.replicate_zero, List.push_toArray, List.append_toArray, List.nil_append, List.cons_append]
 refine wpIn_wide.2 ?_
 go_wp2_with (with_reducible refine wSk 4 ?_)
 refine a0a st0 rfl rfl E0N (cw 12 0) ap12 ?_
 intro g4 w1 st1
 clear st0
 go_wp2_with fail
 refine (B0t lab va HVA.out _).mono ?_
 rintro e w2 ⟨g2, g3, rfl, hg2, hg3, hf2⟩
 have st2 := st1.keep hf2
 have HG2 := qH hg2
 have HG3 := qH hg3
 clear st1 hf2 hg2 hg3
 have H4 := qH (st2.at 0 rfl)
 have HGE := qH ((st2.own _ List.mem_cons_self).resolve_right (fun h => h.elim))
 have HF := qH st2.fr
 have HLT := qH (st2.at 0 rfl).lt
 clear st2
 go_wp2_with fail
 refine (wpIn_wide (n := 3)).1 ?_
 refine wpIn_rangeFunc_ownH (F := Fence.wide) rfl ap16 (gf := 191) (lb := #[.pointer (some ⟨g2, 0, none⟩), .pointer (some ⟨g3, 0, none⟩)]) rfl trivial (enters_of Tryz.func191 ap14 rfl)
  (s0e lab HSZ.out g2 g3 va b w2 HG2.out HG3.out (HB.out.still HF.out)) belowK_t (belowK_b (Nat.le_refl _)) (Below.refl _ _) (fun _ => rfl)
  (fun pre W => pre = [] ∧ (Has W g4 (cw 12 0) 117 ∧ (Fr Nob w W ∧ w2.heap.size ≤ W.heap.size)))
  (fun c pre W => c = .ret ∧ ∃ x : PT, pre = [x] ∧ (Has W g4 x.L 117 ∧ Fr Nob w W))
  (OwnFrom.and (ownFrom_pure _ _) (OwnFrom.and (d0O _ _ _ _) (OwnFrom.and (f0B HF.out.size) (n0I _ _))))
  (fun c s X Y row hs hg hr => by
   obtain ⟨h1, x, h2, h3, h4⟩ := hs
   exact ⟨h1, x, h2, d0O (β := Unit) _ g4 x.L _ () X Y row h3 hg hr, f0B (β := Unit) HF.out.size () X Y row h4 hg hr⟩)
  ⟨rfl, H4.out, HF.out, Nat.le_refl _⟩
  (fun x a' W => ∃ Bx, Has W Bx x.L 117 ∧ a' = { tmps := #[.string lab, va, undef, undef, .pointer (some ⟨g4, 0, none⟩), .pointer (some ⟨Bx, 0, none⟩), .string lab, va, .func (.func 191) #[] #[.pointer (some ⟨g2, 0, none⟩), .pointer (some ⟨g3, 0, none⟩)], .agg x.L.toArray, undef, undef, undef, undef, undef], defers := [] })
  (fun x a' s X Y row hs hg hr => by
   obtain ⟨Bx, h1, h2⟩ := hs
   exact ⟨Bx, d0O (β := Unit) _ Bx x.L _ () X Y row h1 hg hr, h2⟩)
  ?assign ?body ?done ?stop
 case assign =>
  rintro l pre x W K ⟨rfl, h4, hfr, hsz⟩ hK
  refine j0v (z0l fun _ _ h => h) rfl ?_
  have st := St.start Nob W
  have HK := qH hK
  have H4 := qH h4
  have HFR := qH hfr
  have HS := qH hsz
  clear hK h4 hfr hsz
  rw [B0s]
  simp only [List.setIfInBounds_toArray, List.set_cons_zero, List.set_cons_succ]
  refine a0a st rfl rfl E0N (cw 12 0) ap12 ?_
  intro gx W1 s1
  try simp only [clL]
  refine a0b s1 0 rfl rfl rfl rfl rfl (by rw [a0i, PT.len]) (by rw [PT.len]; kernel_rfl) (PT.one _) ?_
  intro W2 s2
  try simp only [Act.put]
  refine wpList_nil ?_
  have hf := s2.fr
  exact HK.out _ _ (q0I hf) (hf.below.mono HS.out) ⟨rfl, H4.out.keep hf id, HFR.out.then hf, Nat.le_trans HS.out hf.size⟩ ⟨gx, s2.at 0 rfl, rfl⟩
 case body =>
  rintro l pre x a' W hl hr ⟨rfl, h4, hfr, hsz⟩ ⟨Bx, hx, rfl⟩ hlt
  refine wpIn_block (wpIn_seq ?_)
  refine j0v (z0l fun _ _ h => h) rfl ?_
  have st := St.one h4
  have HX := qH hx
  have HFR := qH hfr
  clear hr hx h4 hfr
  refine g0j rfl rfl Tryz.underlying117 rfl rfl (cs := x.L) (fun i v hv => HX.out.range 0 _ dZl i v hv) (by rw [PT.len]; kernel_rfl) ?_
  try simp only [clL]
  refine a0b st 0 rfl rfl rfl rfl rfl (by rw [a0i, PT.len]) (by rw [PT.len]; kernel_rfl) (PT.one _) ?_
  intro W2 s2
  try simp only [Act.put]
  refine wpList_nil ?_
  refine wpIn_ret ?_
  exact ⟨n0J s2.fr HLT.out, rfl, x, rfl, s2.at 0 rfl, HFR.out.new s2.fr HGE.out⟩
 case done =>
  rintro D xs W hD hS ⟨rfl, h4, hfr, hsz⟩ hK
  have HS := qH (k0v hS.symm)
  have st := (St.start Nob w)
  have HFR := qH hfr
  have H4' := qH h4
  have HD := qH hK
  have HDD := qH hD
  clear hS h4 hfr hsz hK hD st
  go_wp2_with fail
  refine (j0s _).mono ?_
  rintro e w3 ⟨y, rfl, ⟨hc, hm⟩, hf⟩
  have HC := qH hc
  have HF3 := qH hf
  clear hc hm hf
  go_wp2_with (with_reducible refine wSk 14 ?_)
  refine g0j rfl rfl Tryz.underlying117 rfl rfl (cs := j0b.L) (fun i v hv => HC.out.range 5 _ k0n i v hv) (by rw [PT.len]; kernel_rfl) ?_
  have st := St.one (H4'.out.keep HF3.out id)
  go_wp2_with (with_reducible refine wSn ?_)
  refine a0b st 0 rfl rfl rfl rfl rfl (by rw [a0i, PT.len]) (by rw [PT.len]; kernel_rfl) (PT.one _) ?_
  intro w5 s5
  have HF5 := qH s5.fr
  have H5 := qH (s5.at 0 rfl)
  clear st s5
  go_wp2_with fail
  have hD3 := (q0I (B := w2.heap.size) HF3.out).same D _ HDD.out HD.out rfl
  have hD5 := (n0J HF5.out HLT.out).same D _ HDD.out hD3 rfl
  refine ⟨by simp, .inl ⟨_, _, rfl, run_takeDeferred hD5, ?_⟩⟩
  have hfin := (d0O (β := Unit) 0 g4 _ _).putObj (s := ()) (.deferred none) H5.out (Nat.zero_le _) hD5 rfl
  refine ⟨_, a0r rfl rfl hfin Tryz.underlying117 rfl (by rw [PT.len]; kernel_rfl), by rw [HS.out], ?_⟩
  exact (f0B (β := Unit) (B := w2.heap.size) HF.out.size).putObj (s := ()) (.deferred none) ((HFR.out.then HF3.out).new HF5.out HGE.out) HDD.out hD5 rfl
 case stop =>
  rintro D c pre W hD ⟨k, x', hk, hc, hp⟩ ⟨rfl, x, rfl, h4, hfr⟩ hK
  have hnil : c0v lab.data.toList b k = [] := by
   cases hq : c0v lab.data.toList b k with
   | nil => rfl
   | cons y ys =>
    rw [hq] at hp
    have := congrArg List.length hp
    simp at this
  rw [hnil] at hp
  have hxx : x = x' := by simpa using hp
  subst hxx
  have HS := qH (k0w hk hc hnil)
  refine wpIn_ret ?_
  refine ⟨by simp, .inl ⟨_, _, rfl, run_takeDeferred hK, ?_⟩⟩
  have hfin := (d0O (β := Unit) 0 g4 _ _).putObj (s := ()) (.deferred none) h4 (Nat.zero_le _) hK rfl
  refine ⟨_, a0r rfl rfl hfin Tryz.underlying117 rfl (by rw [PT.len]; kernel_rfl), by rw [HS.out], ?_⟩
  exact (f0B (β := Unit) (B := w2.heap.size) HF.out.size).putObj (s := ()) (.deferred none) hfr hD hK rfl
end
section
open Go.RowKit Go.Mv Mvp Mvq
def D0s : List UInt8 := [118, 97, 108, 117, 101]
theorem D0t (w : World) : Calls Tryz.prog 86 #[] w fun e w' => ∃ gc : Nat, e = .returned (.pointer (some ⟨gc, 0, none⟩)) ∧ Cv w' gc ∧ Fr Nob w w' :=
 (d0q w).mono fun _ _ ⟨gc, k1, _, k2, k3⟩ => ⟨gc, k1, k2, k3⟩
attribute [local irreducible] a0C lw mix cw b0k b0y b0j a0M a0n beN b0F a0P b0C a0J a0R elN mdL a0S rtN rtV b0G gXn gYn PT.L l0V l0r f0D tbL tmR tmL dbN h0T h0B j0e dig rdT b0J b0q ptL e0W c0P a0H c0s hB hN d0Q c0v f0p atY d0A o0J
theorem y0c (lab : ByteArray) (hsz : lab.size ≤ 100000) (va : Value) (b : List UInt8) (w : World) (hb : PartIs w va b) :
  Calls Tryz.prog 164 #[.string lab, va] w fun e w' => ∃ v, e = .returned (.tuple #[v, .int .i64 0]) ∧ OwnB1 w w' v (a0H (f0p lab.data.toList b).pt) ∧ Fr Nob w w' := by
 have HSZ := qH hsz
 have HB := qH hb
 clear hsz hb
 go_enter Tryz.func164, Tryz.ntmps164
 go_wp2_with fail
 refine (D0t _).mono ?_
 rintro e w1 ⟨gc, rfl, hcv, hf⟩
 have HCV := qH hcv
 have HF := qH hf
 clear hcv hf
 go_wp2_with fail
 refine (y0b lab HSZ.out va b _ (HB.out.still HF.out)).mono ?_
 rintro e w2 ⟨rfl, hf⟩
 have HCV2 := qH (HCV.out.keep hf)
 have HF2 := qH (HF.out.then hf)
 clear hf HCV HF
 go_wp2_with fail
 refine (l0A _ gc _ HCV2.out).mono ?_
 rintro e w3 ⟨sv, rfl, hown, hf⟩
 have ho := Go.Mv.Own.mono hown HF2.out.size
 have hfr := HF2.out.then hf
 clear hf HCV2 HF2 hown
 go_wp2_with fail
 go_ret2
 exact ⟨sv, rfl, OwnB1.of ho (c0h _), hfr⟩
end
section
open Go.RowKit Go.Mv Mvp Mvq
def j0w : List UInt8 := [116, 111, 107, 101, 110]
noncomputable def lfP (b : List UInt8) : Pt := (f0p j0w b).pt
theorem j0x (b : List UInt8) : onC (lfP b) := by unfold lfP; exact PT.onP _
attribute [local irreducible] f0p lfP
def b0N (b : List UInt8) : Bool := decide (1 ≤ b.length) && decide (b.length ≤ 64)
theorem v0p : Tryz.prog.built 153 [] = some ([Value.slice none 0 0, .int .i64 0]).toArray := by kernel_rfl
theorem n0K : Tryz.prog.built 153 [(1, .int .i64 2)] = some ([Value.slice none 0 0, .int .i64 2]).toArray := by kernel_rfl
theorem OwnU.of1 {w w' : World} {v : Value} {l : List UInt8} (h : OwnB1 w w' v l) : OwnU w' v l := Own.mono h (Nat.zero_le _)
attribute [local irreducible] a0C lw mix cw b0k b0y b0j a0M a0n beN b0F a0P b0C a0J a0R elN mdL a0S rtV b0G a0H b0J b0q a0V c0P h0Z g0P a0E c0s hB hN d0Q c0v
theorem v0q (v0 : Value) (g1 : Nat) (va : Value) (b : List UInt8) (w : World) (h1 : Has w g1 [va] 22) (hb : PartIs w va b) :
  Calls Tryz.prog 163 #[v0, .pointer (some ⟨g1, 0, none⟩)] w fun e w' => ∃ v, e = .returned (.tuple #[v, .int .i64 0]) ∧ OwnU w' v (a0H (lfP b)) ∧ Fr Nob w w' := by
 have hc := h1.cell (show [va][0]? = _ from rfl)
 have HB := qH hb
 clear h1 hb
 go_enter Tryz.func163, Tryz.ntmps163
 go_wp2_with fail
 refine (y0c ⟨#[116, 111, 107, 101, 110]⟩ ap15 va b _ HB.out).mono ?_
 rintro e w1 ⟨v, rfl, ho, hf⟩
 have ho2 := OwnU.of1 ho
 have HO := qH (show OwnU w1 v (a0H (lfP b)) by unfold lfP j0w; exact ho2)
 have HF := qH hf
 clear ho ho2 hf hc HB
 go_wp2_with fail
 go_ret2
 exact ⟨v, rfl, HO.out, HF.out⟩
theorem v0r (g1 : Nat) (a : Option Addr) (n c : Nat) (w : World) (l : List UInt8) (z : Int) (hop : ∀ wx, Fr Nob w wx → Calls Tryz.prog 163 #[.slice a n c, .pointer (some ⟨g1, 0, none⟩)] wx fun e w' => ∃ v, e = .returned (.tuple #[v, .int .i64 z]) ∧ OwnU w' v l ∧ Fr Nob wx w') :
  Calls Tryz.prog 106 #[chV a n c 0, .func (.func 163) #[] #[.pointer (some ⟨g1, 0, none⟩)]] w fun e w' => ∃ a' c', e = .returned (chV a' l.length c' z) ∧ OwnU w' (.slice a' l.length c') l ∧ Fr Nob w w' := by
 have HOP := qH hop
 clear hop
 have st0 := St.start Nob w
 go_enter Tryz.func106, Tryz.ntmps106
 go_wp2_with (with_reducible refine wSk 2 ?_)
 refine a0l st0 rfl rfl rfl [.slice a n c, .int .i64 0] rfl ?_
 intro g2 w1 st1
 clear st0
 go_wp2_with (with_reducible refine wSk 4 ?_)
 refine a0a st1 rfl rfl B0i [.slice none 0 0, .int .i64 0] rfl ?_
 intro g4 w2 st2
 clear st1
 have hc0 := (st2.at 0 rfl).cell (show [Value.slice a n c, .int .i64 0][0]? = _ from rfl)
 have hc1 := (st2.at 0 rfl).cell (show [Value.slice a n c, .int .i64 0][1]? = _ from rfl)
 go_wp2_with fail
 refine (HOP.out _ st2.fr).mono ?_
 rintro e' w3 ⟨v, rfl, ho, hf⟩
 have st3 := st2.keep hf
 clear hf st2 hc0 hc1
 obtain ⟨a', c', hv, -⟩ := Own.form ho
 subst hv
 have h4 := st3.at 1 rfl
 have HNE := qH (Own.ne ho h4 ap15)
 have HO := qH ho
 have H4 := qH h4
 have HF := qH st3.fr
 have HGE := qH (st3.own _ (List.mem_cons_of_mem _ List.mem_cons_self))
 clear ho h4 st3
 go_wp2_with (with_reducible refine wSk 20 ?_)
 refine a0Y rfl rfl _ (j0p a' l.length c' z) ?_
 go_wp2_with (with_reducible refine wSn ?_)
 refine c0G (cs := [.slice a' l.length c', .int .i64 z]) rfl rfl rfl rfl H4.out ap17 ap14 (j0q _ _ _ _) ?_
 intro w9 hg9 hf9 hz9
 clear hz9
 have ho9 : OwnU w9 (.slice a' l.length c') l := Own.keep HO.out hf9 (fun k hk e => HNE.out (by have e2 : k = g4 := e; rw [← e2]; exact hk))
 have HO9 := qH ho9
 have HF9 := qH (HF.out.new hf9 (HGE.out.resolve_right (fun h => h.elim)))
 clear hf9 ho9
 go_wp2_with fail
 exact bodyPost_ret (a0r rfl rfl hg9 Tryz.underlying153 rfl ap14) rfl ⟨a', c', rfl, HO9.out, HF9.out⟩
theorem s0f (g1 : Nat) (a : Option Addr) (n c : Nat) (w : World) (l : List UInt8) (z : Int) (hop : ∀ wx, Fr Nob w wx → Calls Tryz.prog 107 #[.slice a n c, .pointer (some ⟨g1, 0, none⟩)] wx fun e w' => ∃ v, e = .returned (.tuple #[v, .int .i64 z]) ∧ OwnU w' v l ∧ Fr Nob wx w') :
  Calls Tryz.prog 106 #[chV a n c 0, .func (.func 107) #[] #[.pointer (some ⟨g1, 0, none⟩)]] w fun e w' => ∃ a' c', e = .returned (chV a' l.length c' z) ∧ OwnU w' (.slice a' l.length c') l ∧ Fr Nob w w' := by
 have HOP := qH hop
 clear hop
 have st0 := St.start Nob w
 go_enter Tryz.func106, Tryz.ntmps106
 go_wp2_with (with_reducible refine wSk 2 ?_)
 refine a0l st0 rfl rfl rfl [.slice a n c, .int .i64 0] rfl ?_
 intro g2 w1 st1
 clear st0
 go_wp2_with (with_reducible refine wSk 4 ?_)
 refine a0a st1 rfl rfl B0i [.slice none 0 0, .int .i64 0] rfl ?_
 intro g4 w2 st2
 clear st1
 have hc0 := (st2.at 0 rfl).cell (show [Value.slice a n c, .int .i64 0][0]? = _ from rfl)
 have hc1 := (st2.at 0 rfl).cell (show [Value.slice a n c, .int .i64 0][1]? = _ from rfl)
 go_wp2_with fail
 refine (HOP.out _ st2.fr).mono ?_
 rintro e' w3 ⟨v, rfl, ho, hf⟩
 have st3 := st2.keep hf
 clear hf st2 hc0 hc1
 obtain ⟨a', c', hv, -⟩ := Own.form ho
 subst hv
 have h4 := st3.at 1 rfl
 have HNE := qH (Own.ne ho h4 ap15)
 have HO := qH ho
 have H4 := qH h4
 have HF := qH st3.fr
 have HGE := qH (st3.own _ (List.mem_cons_of_mem _ List.mem_cons_self))
 clear ho h4 st3
 go_wp2_with (with_reducible refine wSk 20 ?_)
 refine a0Y rfl rfl _ (j0p a' l.length c' z) ?_
 go_wp2_with (with_reducible refine wSn ?_)
 refine c0G (cs := [.slice a' l.length c', .int .i64 z]) rfl rfl rfl rfl H4.out ap17 ap14 (j0q _ _ _ _) ?_
 intro w9 hg9 hf9 hz9
 clear hz9
 have ho9 : OwnU w9 (.slice a' l.length c') l := Own.keep HO.out hf9 (fun k hk e => HNE.out (by have e2 : k = g4 := e; rw [← e2]; exact hk))
 have HO9 := qH ho9
 have HF9 := qH (HF.out.new hf9 (HGE.out.resolve_right (fun h => h.elim)))
 clear hf9 ho9
 go_wp2_with fail
 exact bodyPost_ret (a0r rfl rfl hg9 Tryz.underlying153 rfl ap14) rfl ⟨a', c', rfl, HO9.out, HF9.out⟩
theorem y0d (f : Value) (a : Option Addr) (n c : Nat) (z : Int) (hz : (z != 0) = true) (w : World) :
  Calls Tryz.prog 106 #[chV a n c z, f] w fun e w' => e = .returned (chV a n c z) ∧ Fr Nob w w' := by
 have st0 := St.start Nob w
 go_enter Tryz.func106, Tryz.ntmps106
 go_wp2_with (with_reducible refine wSk 2 ?_)
 refine a0l st0 rfl rfl rfl [.slice a n c, .int .i64 z] rfl ?_
 intro g2 w1 st1
 clear st0
 go_wp2_with (with_reducible refine wSk 4 ?_)
 refine a0a st1 rfl rfl B0i [.slice none 0 0, .int .i64 0] rfl ?_
 intro g4 w2 st2
 clear st1
 have hc1 := (st2.at 0 rfl).cell (show [Value.slice a n c, .int .i64 z][1]? = _ from rfl)
 go_wp2_with (with_reducible refine wSk 10 ?_)
 refine a0p st2 0 rfl rfl rfl Tryz.underlying153 rfl rfl ap14 ?_
 go_wp2_with (with_reducible refine wSn ?_)
 refine a0b st2 1 rfl rfl rfl rfl rfl (by first | rfl | simp) ap14 (j0q _ _ _ _) ?_
 intro w3 st3
 clear st2 hc1
 have hr := st3.at 1 rfl
 have hfr := st3.fr
 clear st3
 go_wp2_with fail
 exact bodyPost_ret (a0r rfl rfl hr Tryz.underlying153 rfl ap14) rfl ⟨rfl, hfr⟩
theorem v0s (a : Option Addr) (n c : Nat) (w : World) (hn : n < 1) :
  Calls Tryz.prog 105 #[.slice a n c] w fun e w' => e = .returned (chV none 0 0 2) ∧ Fr Nob w w' := by
 have hI : (n : Int) < 1 := by omega
 clear hn
 have st0 := St.start Nob w
 go_enter Tryz.func105, Tryz.ntmps105
 go_wp2_with (with_reducible refine wSk 1 ?_)
 refine a0l st0 rfl rfl rfl [.slice a n c] rfl ?_
 intro g1 w1 st1
 clear st0
 go_wp2_with (with_reducible refine wSk 2 ?_)
 refine a0a st1 rfl rfl B0i [.slice none 0 0, .int .i64 0] rfl ?_
 intro g2 w2 st2
 clear st1
 have hc0 := (st2.at 0 rfl).cell (show [Value.slice a n c][0]? = _ from rfl)
 go_wp2_with (with_reducible refine wSk 11 ?_)
 refine a0Y rfl rfl _ n0K ?_
 clear hc0
 go_wp2_with (with_reducible refine wSn ?_)
 refine a0b st2 1 rfl rfl rfl rfl rfl (by first | rfl | simp) ap14 (j0q _ _ _ _) ?_
 intro w3 st3
 clear st2
 have hr := st3.at 1 rfl
 have hfr := st3.fr
 clear st3
 go_wp2_with fail
 exact bodyPost_ret (a0r rfl rfl hr Tryz.underlying153 rfl ap14) rfl ⟨rfl, hfr⟩
theorem v0t (a : Option Addr) (n c : Nat) (w : World) (hn : 64 < n) :
  Calls Tryz.prog 105 #[.slice a n c] w fun e w' => e = .returned (chV none 0 0 2) ∧ Fr Nob w w' := by
 have hI0 : ¬ ((n : Int) < 1) := by omega
 have hI : (64 : Int) < (n : Int) := by omega
 clear hn
 have st0 := St.start Nob w
 go_enter Tryz.func105, Tryz.ntmps105
 go_wp2_with (with_reducible refine wSk 1 ?_)
 refine a0l st0 rfl rfl rfl [.slice a n c] rfl ?_
 intro g1 w1 st1
 clear st0
 go_wp2_with (with_reducible refine wSk 2 ?_)
 refine a0a st1 rfl rfl B0i [.slice none 0 0, .int .i64 0] rfl ?_
 intro g2 w2 st2
 clear st1
 have hc0 := (st2.at 0 rfl).cell (show [Value.slice a n c][0]? = _ from rfl)
 go_wp2_with (with_reducible refine wSk 11 ?_)
 refine a0Y rfl rfl _ n0K ?_
 clear hc0
 go_wp2_with (with_reducible refine wSn ?_)
 refine a0b st2 1 rfl rfl rfl rfl rfl (by first | rfl | simp) ap14 (j0q _ _ _ _) ?_
 intro w3 st3
 clear st2
 have hr := st3.at 1 rfl
 have hfr := st3.fr
 clear st3
 go_wp2_with fail
 exact bodyPost_ret (a0r rfl rfl hr Tryz.underlying153 rfl ap14) rfl ⟨rfl, hfr⟩
theorem v0u (a : Option Addr) (n c : Nat) (b : List UInt8) (w : World) (hb : PartIs w (.slice a n c) b) (hn : 1 ≤ n) (hn2 : n ≤ 64) :
  Calls Tryz.prog 105 #[.slice a n c] w fun e w' => ∃ a' c', e = .returned (chV a' (a0H (lfP b)).length c' 0) ∧ OwnU w' (.slice a' (a0H (lfP b)).length c') (a0H (lfP b)) ∧ Fr Nob w w' := by
 have hI0 : ¬ ((n : Int) < 1) := by omega
 have hI : ¬ ((64 : Int) < (n : Int)) := by omega
 have HB := qH hb
 clear hn hn2 hb
 have st0 := St.start Nob w
 go_enter Tryz.func105, Tryz.ntmps105
 go_wp2_with (with_reducible refine wSk 1 ?_)
 refine a0l st0 rfl rfl rfl [.slice a n c] rfl ?_
 intro g1 w1 st1
 clear st0
 go_wp2_with (with_reducible refine wSk 2 ?_)
 refine a0a st1 rfl rfl B0i [.slice none 0 0, .int .i64 0] rfl ?_
 intro g2 w2 st2
 clear st1
 have hc0 := (st2.at 0 rfl).cell (show [Value.slice a n c][0]? = _ from rfl)
 go_wp2_with (with_reducible refine wSk 12 ?_)
 refine a0Y rfl rfl _ v0p ?_
 clear hc0
 have HG1 := qH (st2.at 0 rfl)
 have HB2 := qH (HB.out.still st2.fr)
 go_wp2_with fail
 refine (v0r g1 none 0 0 _ (a0H (lfP b)) 0 (fun wx hfx => v0q _ g1 _ b wx (HG1.out.keep hfx id) (HB2.out.still hfx))).mono ?_
 rintro e' w3 ⟨a', c', rfl, ho, hf⟩
 have st3 := st2.keep hf
 have HO := qH ho
 clear st2 hf ho HG1 HB2
 unfold chV
 have h4 := st3.at 1 rfl
 have HNE := qH (Own.ne HO.out h4 ap15)
 have H4 := qH h4
 have HF := qH st3.fr
 have HGE := qH (st3.own _ (List.mem_cons_of_mem _ List.mem_cons_self))
 clear h4 st3
 go_wp2_with (with_reducible refine wSn ?_)
 refine c0G (cs := [.slice a' (a0H (lfP b)).length c', .int .i64 0]) rfl rfl rfl rfl H4.out ap17 ap14 (j0q _ _ _ _) ?_
 intro w9 hg9 hf9 hz9
 clear hz9
 have ho9 : OwnU w9 (.slice a' (a0H (lfP b)).length c') (a0H (lfP b)) := Own.keep HO.out hf9 (fun k hk e => HNE.out (by have e2 : k = g2 := e; rw [← e2]; exact hk))
 have HO9 := qH ho9
 have HF9 := qH (HF.out.new hf9 (HGE.out.resolve_right (fun h => h.elim)))
 clear hf9 ho9
 go_wp2_with fail
 exact bodyPost_ret (a0r rfl rfl hg9 Tryz.underlying153 rfl ap14) rfl ⟨a', c', rfl, HO9.out, HF9.out⟩
def lfE (b : List UInt8) : Int := if b0N b = true then 0 else 2
noncomputable def lfS (b : List UInt8) : List UInt8 := if b0N b = true then a0H (lfP b) else []
theorem E0u {b : List UInt8} (h : b0N b = true) : lfE b = 0 ∧ lfS b = a0H (lfP b) := by unfold lfE lfS; rw [if_pos h, if_pos h]; exact ⟨rfl, rfl⟩
theorem E0v {b : List UInt8} (h : b0N b = false) : lfE b = 2 ∧ lfS b = [] := by unfold lfE lfS; rw [h]; exact ⟨rfl, rfl⟩
theorem v0v (a : Option Addr) (n c : Nat) (b : List UInt8) (w : World) (hb : PartIs w (.slice a n c) b) (h : b0N b = false) :
  Calls Tryz.prog 105 #[.slice a n c] w fun e w' => e = .returned (chV none 0 0 2) ∧ Fr Nob w w' := by
 have hl : b.length = n := by
  obtain ⟨a', n', c', he, -, -, hr, -⟩ := hb
  cases he
  exact hr.len
 unfold b0N at h
 rw [hl] at h
 by_cases h1 : n < 1
 ·exact v0s a n c w h1
 ·have h2 : 64 < n := by
   have h3 : decide (1 ≤ n) = true := decide_eq_true ap16
   rw [h3, Bool.true_and] at h
   have := of_decide_eq_false h
   omega
  exact v0t a n c w h2
theorem k0D (a : Option Addr) (n c : Nat) (b : List UInt8) (w : World) (hb : PartIs w (.slice a n c) b) (h : b0N b = true) :
  Calls Tryz.prog 105 #[.slice a n c] w fun e w' => ∃ a' c', e = .returned (chV a' (a0H (lfP b)).length c' 0) ∧ OwnU w' (.slice a' (a0H (lfP b)).length c') (a0H (lfP b)) ∧ Fr Nob w w' := by
 have hl : b.length = n := by
  obtain ⟨a', n', c', he, -, -, hr, -⟩ := hb
  cases he
  exact hr.len
 unfold b0N at h
 rw [hl] at h
 simp only [Bool.and_eq_true, decide_eq_true_eq] at h
 exact v0u a n c b w hb h.1 h.2
end
section
open Go.RowKit Go.Mv Mvp Mvq
def blE (b r : List UInt8) : Int := if b0N b = true then (if a0S mQ r = true then 0 else 3) else 2
noncomputable def blS (b r : List UInt8) : List UInt8 := if b0N b = true then (if a0S mQ r = true then a0H (a0T (lfP b) (a0E (beN r) gP)) else []) else []
theorem v0w {b r : List UInt8} (h : b0N b = true) (h2 : a0S mQ r = true) : blE b r = 0 ∧ blS b r = a0H (a0T (lfP b) (a0E (beN r) gP)) := by unfold blE blS; rw [if_pos h, if_pos h, if_pos h2, if_pos h2]; exact ⟨rfl, rfl⟩
theorem D0J {b r : List UInt8} (h : b0N b = true) (h2 : a0S mQ r = false) : blE b r = 3 ∧ blS b r = [] := by unfold blE blS; rw [if_pos h, if_pos h, h2]; exact ⟨rfl, rfl⟩
theorem D0K {b r : List UInt8} (h : b0N b = false) : blE b r = 2 ∧ blS b r = [] := by unfold blE blS; rw [h]; exact ⟨rfl, rfl⟩
theorem E0w {b r : List UInt8} (_h2 : a0S mQ r = true) : h0Z [a0P (1 % mQ.M), a0P (beN r % mQ.M)] [a0H (lfP b), a0H gP] = 0 ∧ g0P [a0P (1 % mQ.M), a0P (beN r % mQ.M)] [a0H (lfP b), a0H gP] = a0H (a0T (lfP b) (a0E (beN r) gP)) := by
 have h : (b0J (a0H (lfP b)) && b0J (a0H gP)) = true := by rw [(f0k (j0x b)).1, (f0k f0n).1]; rfl
 rw [z0g, z0h, if_pos h, if_pos h, (f0k (j0x b)).2, (f0k f0n).2, v0a]
 exact ⟨rfl, rfl⟩
theorem l0O {w : World} {a : Option Addr} {n c : Nat} {b : List UInt8} (hb : PartIs w (.slice a n c) b) : b.length = n := by
 obtain ⟨a', n', c', he, -, -, hr, -⟩ := hb
 cases he
 exact hr.len
open Classical in
noncomputable def vaB (key b sg : List UInt8) : Bool := a0S mQ key && !decide (beN key = 0) && b0N b && decide (a0H (a0E (beN key) (lfP b)) = sg)
theorem E0O {key b sg : List UInt8} (h1 : a0S mQ key = true) (h2 : beN key ≠ 0) (h3 : b0N b = true) : vaB key b sg = decide (a0H (a0E (beN key) (lfP b)) = sg) := by
 unfold vaB
 rw [h1, h3, decide_eq_false h2]
 simp
theorem F0l {key b sg : List UInt8} (h1 : a0S mQ key = false) : vaB key b sg = false := by unfold vaB; rw [h1]; rfl
theorem F0m {key b sg : List UInt8} (h1 : beN key = 0) : vaB key b sg = false := by unfold vaB; rw [decide_eq_true h1]; simp
theorem F0n {key b sg : List UInt8} (h1 : b0N b = false) : vaB key b sg = false := by unfold vaB; rw [h1]; simp
attribute [local irreducible] a0C lw mix cw b0k b0y b0j a0M a0n beN b0F a0P b0C a0J a0R elN mdL a0S rtV b0G a0H b0J b0q a0V c0P h0Z g0P a0E c0s hB hN d0Q c0v blE blS vaB lfE lfS b0N tC tS
theorem l0P {S : Nat → Prop} {w0 w : World} {bl : List (Nat × List Value × TypeId)} {P : Program} {ops : Array Oper} {rest : List Oper} {o : Oper} {a : Act} {Q : Exit → Act → World → Prop} (hst : St S w0 w bl) (i : Nat) {g : Nat} {L : List Value} {T : TypeId} (hb : bl[i]? = some (g, L, T)) {ty : TypeId} {x : Operand} (hw : Region.wanted o (yielded ops a.tmps) = true) (ho : o.op = .load ty x) {d : TypeDesc} (hu : P.underlying ty = some d) (hd : d.isRow = true) (hx : a.eval x = .pointer (some ⟨g, 0, none⟩))
  (hi : (P.info? ty).map (·.size) = some L.length) (h : wpList P ops Q rest (a.put o.dst (.agg L.toArray)) w) : wpList P ops Q (o :: rest) a w := by
 unfold wpList
 rw [if_pos hw]
 exact .inl (wp_load_mid ty x ho g 0 hx L _ ((hst.at i hb).range 0 L dZl) hu hd hi h)
theorem y0e (a : Option Addr) (n c : Nat) (vr : Value) (w : World) (hn : n < 1) :
  Calls Tryz.prog 43 #[.slice a n c, vr] w fun e w' => e = .returned (.tuple #[.slice none 0 0, .int .i64 2]) ∧ Fr Nob w w' := by
 have hI : (n : Int) < 1 := by omega
 clear hn
 go_enter Tryz.func43, Tryz.ntmps43
 go_wp2
 go_ret2
 exact ⟨rfl, Fr.refl _ _⟩
theorem y0f (a : Option Addr) (n c : Nat) (vr : Value) (w : World) (hn : 64 < n) :
  Calls Tryz.prog 43 #[.slice a n c, vr] w fun e w' => e = .returned (.tuple #[.slice none 0 0, .int .i64 2]) ∧ Fr Nob w w' := by
 have hI0 : ¬ ((n : Int) < 1) := by omega
 have hI : (64 : Int) < (n : Int) := by omega
 clear hn
 go_enter Tryz.func43, Tryz.ntmps43
 go_wp2
 go_ret2
 exact ⟨rfl, Fr.refl _ _⟩
theorem B0u (a : Option Addr) (n c : Nat) (b : List UInt8) (ar : Option Addr) (nr cr : Nat) (r : List UInt8) (w : World) (hb : PartIs w (.slice a n c) b) (hr : RdB w ar nr r) (hk : b0N b = true) (hq : a0S mQ r = false) :
  Calls Tryz.prog 43 #[.slice a n c, .slice ar nr cr] w fun e w' => e = .returned (.tuple #[.slice none 0 0, .int .i64 3]) ∧ Fr Nob w w' := by
 have hl := l0O hb
 unfold b0N at hk
 rw [hl] at hk
 simp only [Bool.and_eq_true, decide_eq_true_eq] at hk
 have hI0 : ¬ ((n : Int) < 1) := by omega
 have hI : ¬ ((64 : Int) < (n : Int)) := by omega
 have HB := qH hb
 have HR := qH hr
 have HN := qH hq
 clear hk hl hb hr hq
 have st0 := St.start Nob w
 go_enter Tryz.func43, Tryz.ntmps43
 go_wp2_with fail
 refine (t0w mQ .one ar nr cr r _ (HR.out.still st0.fr) HN.out).mono ?_
 rintro e' w1 ⟨rfl, hf1⟩
 have st1 := st0.keep hf1
 clear st0 hf1
 go_wp2_with (with_reducible refine wSk 6 ?_)
 refine a0a st1 rfl rfl (z := zAd) ap14 (cw 4 0) ap12 ?_
 intro g6 w2 st2
 clear st1
 go_wp2_with (with_reducible refine wSn ?_)
 refine a0b st2 0 rfl rfl rfl rfl rfl ap5 ap4 (a0f _ _) ?_
 intro w3 st3
 clear st2
 have hfr := st3.fr
 clear st3
 go_wp2_with fail
 go_ret2
 exact ⟨rfl, hfr⟩
theorem y0g (a : Option Addr) (n c : Nat) (b : List UInt8) (ar : Option Addr) (nr cr : Nat) (r : List UInt8) (w : World) (hb : PartIs w (.slice a n c) b) (hr : RdB w ar nr r) (hk : b0N b = true) (hq : a0S mQ r = true) :
  Calls Tryz.prog 43 #[.slice a n c, .slice ar nr cr] w fun e w' => ∃ v, e = .returned (.tuple #[v, .int .i64 0]) ∧ OwnU w' v (a0H (a0T (lfP b) (a0E (beN r) gP))) ∧ Fr Nob w w' := by
 have HK := qH hk
 have hl := l0O hb
 unfold b0N at hk
 rw [hl] at hk
 simp only [Bool.and_eq_true, decide_eq_true_eq] at hk
 have hI0 : ¬ ((n : Int) < 1) := by omega
 have hI : ¬ ((64 : Int) < (n : Int)) := by omega
 have HB := qH hb
 have HR := qH hr
 have HN := qH hq
 clear hk hl hb hr hq
 have st0 := St.start Nob w
 go_enter Tryz.func43, Tryz.ntmps43
 go_wp2_with fail
 refine (m0V mQ .one ar nr cr r _ (HR.out.still st0.fr) HN.out).mono ?_
 rintro e' w1 ⟨rfl, hf1⟩
 have st1 := st0.keep hf1
 clear st0 hf1
 go_wp2_with (with_reducible refine wSk 6 ?_)
 refine a0a st1 rfl rfl (z := zAd) ap14 (cw 4 0) ap12 ?_
 intro g6 w2 st2
 clear st1
 go_wp2_with (with_reducible refine wSn ?_)
 refine a0b st2 0 rfl rfl rfl rfl rfl ap5 ap4 (a0f _ _) ?_
 intro w3 st3
 clear st2
 clear hI0 hI
 go_wp2_with fail
 refine wp_region_noPanic ?_
 have hd3 := st3.drew
 clear st3
 refine e0c (fun wx => St Nob w wx [(g6, cw 4 (elN mQ (beN r)), 68)] ∧ Fr Nob (World.drew _) wx) [0, 1, 2, 3, 4, 5, 6, 7, 8] [] (fun i => match i with | 0 => [] | 1 => [0] | 2 => [] | 3 => [] | 4 => [2, 3] | 5 => [1, 4] | 6 => [5] | 7 => [6] | 8 => [6] | _ => []) (fun i x wx => match i with | 0 => x 0 = .slice a n c | 1 => ∃ p q, x 1 = chV p (a0H (lfP b)).length q 0 ∧ OwnU wx (.slice p (a0H (lfP b)).length q) (a0H (lfP b)) | 2 => x 2 = i4 (elN mQ (beN r)) | 3 => ∃ p m q, x 3 = .slice p m q ∧ BPart wx (.slice p m q) (a0H gP) | 4 => ∃ p m q g2 g3, x 4 = .func (.func 165) #[] #[.pointer (some ⟨g2, 0, none⟩), .pointer (some ⟨g3, 0, none⟩)] ∧ Has wx g2 (cw 4 (elN mQ (beN r))) 68 ∧ Has wx g3 [.slice p m q] 22 ∧ BPart wx (.slice p m q) (a0H gP) | 5 => ∃ p q, x 5 = chV p (a0H (a0T (lfP b) (a0E (beN r) gP))).length q 0 ∧ OwnU wx (.slice p (a0H (a0T (lfP b) (a0E (beN r) gP))).length q) (a0H (a0T (lfP b) (a0E (beN r) gP))) | 6 => ∃ p q, x 6 = .tuple #[.slice p (a0H (a0T (lfP b) (a0E (beN r) gP))).length q, .int .i64 0] ∧ OwnU wx (.slice p (a0H (a0T (lfP b) (a0E (beN r) gP))).length q) (a0H (a0T (lfP b) (a0E (beN r) gP))) | 7 => ∃ p q, x 7 = .slice p (a0H (a0T (lfP b) (a0E (beN r) gP))).length q ∧ OwnU wx (.slice p (a0H (a0T (lfP b) (a0E (beN r) gP))).length q) (a0H (a0T (lfP b) (a0E (beN r) gP))) | 8 => x 8 = .int .i64 0 | _ => True) 10 (.w 9 (.m 10 .nil)) ?_ (fun x => ?_) ap14 ap14 (fun _ _ _ _ _ h => h) ⟨hd3, Fr.refl _ _⟩ (fun _ _ h k => ⟨h.1.keep k, h.2.then k⟩) ?_ ?_
 rotate_left 1
 ·simp only [h0l, z0i, Act.put, List.getElem?_toArray, List.getElem?_cons_zero, List.getElem?_cons_succ, List.setIfInBounds_toArray, List.set_cons_zero, List.set_cons_succ]
  exact rfl
 refine a0D rfl rfl (fun x wx hG hp => ?_) (fun y _ _ h k => h) ?_
 ·try dsimp only
  clear hp
  exact d0R (v := .slice a n c) ap8 rfl
 refine a0D rfl rfl (fun x wx hG hp => ?_) (fun y _ _ h k => by obtain ⟨p, q, h1, h2⟩ := h; exact ⟨p, q, h1, h2.still k⟩) ?_
 ·try dsimp only
  have e0 : x 0 = .slice a n c := hp 0 ap15
  generalize x 0 = v0 at e0 ⊢
  subst e0
  clear hp
  refine e0U rfl Tryz.call105 (vs := [.slice a n c]) rfl ?_
  refine (k0D a n c b _ (HB.out.still hG.1.fr) HK.out).mono ?_
  rintro e w' ⟨p, q, rfl, ho, hf⟩
  exact ⟨_, rfl, hf, p, q, rfl, ho⟩
 refine a0D rfl rfl (fun x wx hG hp => ?_) (fun y _ _ h k => h) ?_
 ·try dsimp only
  clear hp
  exact d0R (v := i4 (elN mQ (beN r))) (e0x (hG.1.at 0 rfl) (x := .tmp 6) (p := 0) rfl rfl (cw 4 (elN mQ (beN r))) dZl Tryz.underlying68 rfl ap10) rfl
 refine a0D rfl rfl (fun x wx hG hp => ?_) (fun y _ _ h k => by obtain ⟨p, m, q, h1, h2⟩ := h; exact ⟨p, m, q, h1, h2.still k⟩) ?_
 ·try dsimp only
  clear hp
  refine e0U rfl Tryz.call29 (vs := []) rfl ?_
  refine (u0t _).mono ?_
  rintro e w' ⟨v, rfl, ho, hf⟩
  obtain ⟨p, q, rfl, -⟩ := Own.form ho
  exact ⟨_, rfl, hf, p, _, q, rfl, ho.part⟩
 refine a0D rfl rfl (fun x wx hG hp => ?_) (fun y _ _ h k => by obtain ⟨p, m, q, g2, g3, h1, h2, h3, h4⟩ := h; exact ⟨p, m, q, g2, g3, h1, h2.keep k id, h3.keep k id, h4.still k⟩) ?_
 ·try dsimp only
  have e2 : x 2 = i4 (elN mQ (beN r)) := hp 2 ap15
  generalize x 2 = v2 at e2 ⊢
  subst e2
  have e3 : ∃ p m q, x 3 = .slice p m q ∧ BPart wx (.slice p m q) (a0H gP) := hp 3 ap15
  obtain ⟨a3, n3, c3, e3, HL3⟩ := e3
  generalize x 3 = v3 at e3 ⊢
  subst e3
  clear hp
  refine e0U rfl Tryz.call109 (vs := [i4 (elN mQ (beN r)), .slice a3 n3 c3]) rfl ?_
  refine (u0Z (beN r) a3 n3 c3 _).mono ?_
  rintro e w' ⟨g2, g3, rfl, h2, h3, hf⟩
  exact ⟨_, rfl, hf, a3, n3, c3, g2, g3, rfl, h2, h3, HL3.still hf⟩
 refine a0D rfl rfl (fun x wx hG hp => ?_) (fun y _ _ h k => by obtain ⟨p, q, h1, h2⟩ := h; exact ⟨p, q, h1, h2.still k⟩) ?_
 ·try dsimp only
  have e1 : ∃ p q, x 1 = chV p (a0H (lfP b)).length q 0 ∧ OwnU wx (.slice p (a0H (lfP b)).length q) (a0H (lfP b)) := hp 1 ap15
  obtain ⟨a1, c1, e1, HL1⟩ := e1
  generalize x 1 = v1 at e1 ⊢
  subst e1
  have e4 : ∃ p m q g2 g3, x 4 = .func (.func 165) #[] #[.pointer (some ⟨g2, 0, none⟩), .pointer (some ⟨g3, 0, none⟩)] ∧ Has wx g2 (cw 4 (elN mQ (beN r))) 68 ∧ Has wx g3 [.slice p m q] 22 ∧ BPart wx (.slice p m q) (a0H gP) := hp 4 ap15
  obtain ⟨a4, n4, c4, g2, g3, e4, HA, HB4, HC⟩ := e4
  generalize x 4 = v4 at e4 ⊢
  subst e4
  clear hp
  refine e0U rfl Tryz.call106 (vs := [chV a1 (a0H (lfP b)).length c1 0, .func (.func 165) #[] #[.pointer (some ⟨g2, 0, none⟩), .pointer (some ⟨g3, 0, none⟩)]]) rfl ?_
  have hbs := E0w (b := b) HN.out
  have ht := n0w g2 g3 a1 (a0H (lfP b)).length c1 wx _ _ (fun wy hfx => q0A (beN r) g2 g3 a1 (a0H (lfP b)).length c1 (a0H (lfP b)) a4 n4 c4 (a0H gP) wy (HA.keep hfx id) (HB4.keep hfx id) ((OwnU.part HL1).still hfx) (HC.still hfx))
  rw [hbs.1, hbs.2] at ht
  refine ht.mono ?_
  rintro e w' ⟨p, q, rfl, ho, hf⟩
  exact ⟨_, rfl, hf, p, q, rfl, ho⟩
 refine a0D rfl rfl (fun x wx hG hp => ?_) (fun y _ _ h k => by obtain ⟨p, q, h1, h2⟩ := h; exact ⟨p, q, h1, h2.still k⟩) ?_
 ·try dsimp only
  have e5 : ∃ p q, x 5 = chV p (a0H (a0T (lfP b) (a0E (beN r) gP))).length q 0 ∧ OwnU wx (.slice p (a0H (a0T (lfP b) (a0E (beN r) gP))).length q) (a0H (a0T (lfP b) (a0E (beN r) gP))) := hp 5 ap15
  obtain ⟨a5, c5, e5, HL5⟩ := e5
  generalize x 5 = v5 at e5 ⊢
  subst e5
  clear hp
  refine e0U rfl Tryz.call108 (vs := [chV a5 (a0H (a0T (lfP b) (a0E (beN r) gP))).length c5 0]) rfl ?_
  refine (l0K _ _ _ _).mono ?_
  rintro e w' ⟨rfl, hf⟩
  exact ⟨_, rfl, hf, _, _, rfl, HL5.still hf⟩
 refine a0D rfl rfl (fun x wx hG hp => ?_) (fun y _ _ h k => by obtain ⟨p, q, h1, h2⟩ := h; exact ⟨p, q, h1, h2.still k⟩) ?_
 ·try dsimp only
  have e6 : ∃ p q, x 6 = .tuple #[.slice p (a0H (a0T (lfP b) (a0E (beN r) gP))).length q, .int .i64 0] ∧ OwnU wx (.slice p (a0H (a0T (lfP b) (a0E (beN r) gP))).length q) (a0H (a0T (lfP b) (a0E (beN r) gP))) := hp 6 ap15
  obtain ⟨a6, c6, e6, HL6⟩ := e6
  generalize x 6 = v6 at e6 ⊢
  subst e6
  clear hp
  exact d0R (v := .slice a6 (a0H (a0T (lfP b) (a0E (beN r) gP))).length c6) ap8 ⟨_, _, rfl, HL6⟩
 refine a0D rfl rfl (fun x wx hG hp => ?_) (fun y _ _ h k => h) ?_
 ·try dsimp only
  have e6 : ∃ p q, x 6 = .tuple #[.slice p (a0H (a0T (lfP b) (a0E (beN r) gP))).length q, .int .i64 0] ∧ OwnU wx (.slice p (a0H (a0T (lfP b) (a0E (beN r) gP))).length q) (a0H (a0T (lfP b) (a0E (beN r) gP))) := hp 6 ap15
  obtain ⟨a6, c6, e6, HL6⟩ := e6
  generalize x 6 = v6 at e6 ⊢
  subst e6
  clear hp
  exact d0R (v := .int .i64 0) ap8 rfl
 exact trivial
 intro x w4 hG hp
 try dsimp only
 have e7 : ∃ p q, x 7 = .slice p (a0H (a0T (lfP b) (a0E (beN r) gP))).length q ∧ OwnU w4 (.slice p (a0H (a0T (lfP b) (a0E (beN r) gP))).length q) (a0H (a0T (lfP b) (a0E (beN r) gP))) := hp 7 ap15
 obtain ⟨a7, c7, e7, HL7⟩ := e7
 generalize x 7 = v7 at e7 ⊢
 subst e7
 have e8 : x 8 = .int .i64 0 := hp 8 ap15
 generalize x 8 = v8 at e8 ⊢
 subst e8
 clear hp
 generalize x 0 = v0
 generalize x 1 = v1
 generalize x 2 = v2
 generalize x 3 = v3
 generalize x 4 = v4
 generalize x 5 = v5
 generalize x 6 = v6
 have st4 := hG.1
 clear hG hd3
 refine a0j rfl rfl apW ?_
 try simp only [clL]
 refine a0q rfl rfl ?_
 go_simp
 try simp only [clL]
 refine a0g ?_
 refine NoPanic.normal ?_
 have HO := qH HL7
 have hfr := st4.fr
 clear st4 HL7
 go_wp2_with fail
 go_ret2
 exact ⟨_, rfl, HO.out, hfr⟩
theorem B0v (a : Option Addr) (n c : Nat) (b : List UInt8) (ar : Option Addr) (nr cr : Nat) (r : List UInt8) (w : World) (hb : PartIs w (.slice a n c) b) (hr : RdB w ar nr r) :
  Calls Tryz.prog 43 #[.slice a n c, .slice ar nr cr] w fun e w' => ∃ v, e = .returned (.tuple #[v, .int .i64 (blE b r)]) ∧ OwnU w' v (blS b r) ∧ Fr Nob w w' := by
 cases hk : b0N b with
 | false =>
  have hl := l0O hb
  rw [(D0K hk).1, (D0K hk).2]
  unfold b0N at hk
  rw [hl] at hk
  by_cases h1 : n < 1
  ·exact (y0e a n c _ w h1).mono fun e w' k => ⟨_, k.1, OwnU.nil _, k.2⟩
  ·have h2 : 64 < n := by
    have h3 : decide (1 ≤ n) = true := decide_eq_true ap16
    rw [h3, Bool.true_and] at hk
    have := of_decide_eq_false hk
    omega
   exact (y0f a n c _ w h2).mono fun e w' k => ⟨_, k.1, OwnU.nil _, k.2⟩
 | true =>
  cases hq : a0S mQ r with
  | false =>
   rw [(D0J hk hq).1, (D0J hk hq).2]
   exact (B0u a n c b ar nr cr r w hb hr hk hq).mono fun e w' k => ⟨_, k.1, OwnU.nil _, k.2⟩
  | true =>
   rw [(v0w hk hq).1, (v0w hk hq).2]
   exact y0g a n c b ar nr cr r w hb hr hk hq
theorem y0h (g1 : Nat) (vk : Value) (key : List UInt8) (va : Value) (l : List UInt8) (w : World) (h1 : Has w g1 [vk] 22) (hk : BPart w vk key) (hp : BPart w va l) :
  Calls Tryz.prog 107 #[va, .pointer (some ⟨g1, 0, none⟩)] w fun e w' => ∃ v, e = .returned (.tuple #[v, .int .i64 (tC key l)]) ∧ OwnU w' v (tS key l) ∧ Fr Nob w w' := by
 have hc := h1.cell (show [vk][0]? = _ from rfl)
 have HK := qH hk
 have HP := qH hp
 clear h1 hk hp
 go_enter Tryz.func107, Tryz.ntmps107
 go_wp2_with fail
 refine (h0W vk va key l _ HK.out HP.out).mono ?_
 rintro e w1 ⟨v, rfl, ho, hf⟩
 have HO := qH (OwnU.of1 ho)
 have HF := qH hf
 clear ho hf hc HK HP
 go_wp2_with fail
 go_ret2
 exact ⟨v, rfl, HO.out, HF.out⟩
theorem D0u {key b : List UInt8} (h : a0S mQ key = true) : tC key (a0H (lfP b)) = 0 ∧ tS key (a0H (lfP b)) = a0H (a0E (beN key) (lfP b)) := by
 have h2 := t_ok h (f0k (j0x b)).1
 rw [(f0k (j0x b)).2] at h2
 exact h2
theorem B0w (ak : Option Addr) (nk ck : Nat) (key : List UInt8) (a : Option Addr) (n c : Nat) (b : List UInt8) (sa : Option Addr) (sn sc : Nat) (sg : List UInt8) (w : World) (hkey : RdB w ak nk key) (_hkc : nk ≤ ck) (_hb : PartIs w (.slice a n c) b) (_hs : RdB w sa sn sg) (hq : a0S mQ key = false) : Calls Tryz.prog 41 #[.slice ak nk ck, .slice a n c, .slice sa sn sc] w fun e w' => e = .returned (.bool false) ∧ Fr Nob w w' := by
 clear _hb _hs
 have HKY := qH hkey
 have HN := qH hq
 clear hkey hq
 have st0 := St.start Nob w
 go_enter Tryz.func41, Tryz.ntmps41
 go_wp2_with (with_reducible refine wSk 3 ?_)
 refine a0l st0 rfl rfl rfl [.slice ak nk ck] rfl ?_
 intro g3 w1 st1
 clear st0
 have hc3 := (st1.at 0 rfl).cell (show [Value.slice ak nk ck][0]? = _ from rfl)
 go_wp2_with fail
 refine (t0w mQ .one ak nk ck key _ (HKY.out.still st1.fr) HN.out).mono ?_
 rintro e' w2 ⟨rfl, hf2⟩
 have st2 := st1.keep hf2
 clear st1 hf2
 clear hc3
 go_wp2_with (with_reducible refine wSk 7 ?_)
 refine a0a st2 rfl rfl (z := zAd) ap14 (cw 4 0) ap12 ?_
 intro g7 w3 st3
 clear st2
 go_wp2_with (with_reducible refine wSn ?_)
 refine a0b st3 1 rfl rfl rfl rfl rfl ap5 ap4 (a0f _ _) ?_
 intro w4 st4
 clear st3
 have hfr := st4.fr
 clear st4
 go_wp2_with fail
 go_ret
 exact ⟨rfl, hfr⟩
theorem B0x (ak : Option Addr) (nk ck : Nat) (key : List UInt8) (a : Option Addr) (n c : Nat) (b : List UInt8) (sa : Option Addr) (sn sc : Nat) (sg : List UInt8) (w : World) (hkey : RdB w ak nk key) (_hkc : nk ≤ ck) (_hb : PartIs w (.slice a n c) b) (_hs : RdB w sa sn sg) (hq : a0S mQ key = true) (hz : (beN key % mQ.M == 0) = true) : Calls Tryz.prog 41 #[.slice ak nk ck, .slice a n c, .slice sa sn sc] w fun e w' => e = .returned (.bool false) ∧ Fr Nob w w' := by
 clear _hb _hs
 have HZ := qH hz
 clear hz
 have HKY := qH hkey
 have HN := qH hq
 clear hkey hq
 have st0 := St.start Nob w
 go_enter Tryz.func41, Tryz.ntmps41
 go_wp2_with (with_reducible refine wSk 3 ?_)
 refine a0l st0 rfl rfl rfl [.slice ak nk ck] rfl ?_
 intro g3 w1 st1
 clear st0
 have hc3 := (st1.at 0 rfl).cell (show [Value.slice ak nk ck][0]? = _ from rfl)
 go_wp2_with fail
 refine (m0V mQ .one ak nk ck key _ (HKY.out.still st1.fr) HN.out).mono ?_
 rintro e' w2 ⟨rfl, hf2⟩
 have st2 := st1.keep hf2
 clear st1 hf2
 clear hc3
 go_wp2_with (with_reducible refine wSk 7 ?_)
 refine a0a st2 rfl rfl (z := zAd) ap14 (cw 4 0) ap12 ?_
 intro g7 w3 st3
 clear st2
 go_wp2_with (with_reducible refine wSn ?_)
 refine a0b st3 1 rfl rfl rfl rfl rfl ap5 ap4 (a0f _ _) ?_
 intro w4 st4
 clear st3
 go_wp2_with (with_reducible refine wSk 19 ?_)
 refine l0P st4 1 rfl rfl rfl Tryz.underlying68 rfl rfl ap4 ?_
 go_wp2_with fail
 refine (f0h mQ m0H (beN key) true HZ.out _).mono ?_
 rintro e' w5 ⟨rfl, hf5⟩
 have st5 := st4.keep hf5
 clear st4 hf5
 have hfr := st5.fr
 clear st5
 go_wp2_with fail
 go_ret
 exact ⟨rfl, hfr⟩
theorem B0y (ak : Option Addr) (nk ck : Nat) (key : List UInt8) (a : Option Addr) (n c : Nat) (b : List UInt8) (sa : Option Addr) (sn sc : Nat) (sg : List UInt8) (w : World) (hkey : RdB w ak nk key) (_hkc : nk ≤ ck) (hb : PartIs w (.slice a n c) b) (hs : RdB w sa sn sg) (hq : a0S mQ key = true) (hz : (beN key % mQ.M == 0) = false) (hk : b0N b = false) : Calls Tryz.prog 41 #[.slice ak nk ck, .slice a n c, .slice sa sn sc] w fun e w' => e = .returned (.bool false) ∧ Fr Nob w w' := by
 have HKY := qH hkey
 have HN := qH hq
 clear hkey hq
 have HZ := qH hz
 have HK := qH hk
 have HB := qH hb
 have HS := qH hs
 clear hz hk hb hs
 clear HS
 have st0 := St.start Nob w
 go_enter Tryz.func41, Tryz.ntmps41
 go_wp2_with (with_reducible refine wSk 3 ?_)
 refine a0l st0 rfl rfl rfl [.slice ak nk ck] rfl ?_
 intro g3 w1 st1
 clear st0
 have hc3 := (st1.at 0 rfl).cell (show [Value.slice ak nk ck][0]? = _ from rfl)
 go_wp2_with fail
 refine (m0V mQ .one ak nk ck key _ (HKY.out.still st1.fr) HN.out).mono ?_
 rintro e' w2 ⟨rfl, hf2⟩
 have st2 := st1.keep hf2
 clear st1 hf2
 clear hc3
 go_wp2_with (with_reducible refine wSk 7 ?_)
 refine a0a st2 rfl rfl (z := zAd) ap14 (cw 4 0) ap12 ?_
 intro g7 w3 st3
 clear st2
 go_wp2_with (with_reducible refine wSn ?_)
 refine a0b st3 1 rfl rfl rfl rfl rfl ap5 ap4 (a0f _ _) ?_
 intro w4 st4
 clear st3
 go_wp2_with (with_reducible refine wSk 19 ?_)
 refine l0P st4 1 rfl rfl rfl Tryz.underlying68 rfl rfl ap4 ?_
 go_wp2_with fail
 refine (f0h mQ m0H (beN key) false HZ.out _).mono ?_
 rintro e' w5 ⟨rfl, hf5⟩
 have st5 := st4.keep hf5
 clear st4 hf5
 go_wp2_with fail
 refine (v0v a n c b _ (HB.out.still st5.fr) HK.out).mono ?_
 rintro e' w6 ⟨rfl, hf6⟩
 have st6 := st5.keep hf6
 clear st5 hf6
 go_wp2_with fail
 refine (y0d _ none 0 0 2 ap15 _).mono ?_
 rintro e' w7 ⟨rfl, hf7⟩
 have st7 := st6.keep hf7
 clear st6 hf7
 go_wp2_with fail
 refine (n0x none 0 0 2 ap15 _).mono ?_
 rintro e' w8 ⟨rfl, hf8⟩
 have st8 := st7.keep hf8
 clear st7 hf8
 have hfr := st8.fr
 clear st8
 go_wp2_with fail
 go_ret
 exact ⟨rfl, hfr⟩
theorem y0i (ak : Option Addr) (nk ck : Nat) (key : List UInt8) (a : Option Addr) (n c : Nat) (b : List UInt8) (sa : Option Addr) (sn sc : Nat) (sg : List UInt8) (w : World) (hkey : RdB w ak nk key) (hkc : nk ≤ ck) (hb : PartIs w (.slice a n c) b) (hs : RdB w sa sn sg) (hq : a0S mQ key = true) (hz : (beN key % mQ.M == 0) = false) (hk : b0N b = true) : Calls Tryz.prog 41 #[.slice ak nk ck, .slice a n c, .slice sa sn sc] w fun e w' => e = .returned (.bool (decide ((a0H (a0E (beN key) (lfP b))) = sg))) ∧ Fr Nob w w' := by
 have HKY := qH hkey
 have HN := qH hq
 clear hkey hq
 have HZ := qH hz
 have HK := qH hk
 have HB := qH hb
 have HS := qH hs
 clear hz hk hb hs
 have st0 := St.start Nob w
 go_enter Tryz.func41, Tryz.ntmps41
 go_wp2_with (with_reducible refine wSk 3 ?_)
 refine a0l st0 rfl rfl rfl [.slice ak nk ck] rfl ?_
 intro g3 w1 st1
 clear st0
 have hc3 := (st1.at 0 rfl).cell (show [Value.slice ak nk ck][0]? = _ from rfl)
 go_wp2_with fail
 refine (m0V mQ .one ak nk ck key _ (HKY.out.still st1.fr) HN.out).mono ?_
 rintro e' w2 ⟨rfl, hf2⟩
 have st2 := st1.keep hf2
 clear st1 hf2
 clear hc3
 go_wp2_with (with_reducible refine wSk 7 ?_)
 refine a0a st2 rfl rfl (z := zAd) ap14 (cw 4 0) ap12 ?_
 intro g7 w3 st3
 clear st2
 go_wp2_with (with_reducible refine wSn ?_)
 refine a0b st3 1 rfl rfl rfl rfl rfl ap5 ap4 (a0f _ _) ?_
 intro w4 st4
 clear st3
 go_wp2_with (with_reducible refine wSk 19 ?_)
 refine l0P st4 1 rfl rfl rfl Tryz.underlying68 rfl rfl ap4 ?_
 go_wp2_with fail
 refine (f0h mQ m0H (beN key) false HZ.out _).mono ?_
 rintro e' w5 ⟨rfl, hf5⟩
 have st5 := st4.keep hf5
 clear st4 hf5
 go_wp2_with fail
 refine (k0D a n c b _ (HB.out.still st5.fr) HK.out).mono ?_
 rintro e' w6 ⟨a1, c1, rfl, ho, hf6⟩
 have st6 := st5.keep hf6
 have HL1 := qH ho
 clear ho
 clear st5 hf6
 have HG3 := qH (st6.at 0 rfl)
 have HKP := qH (show BPart _ (.slice ak nk ck) key from ⟨ak, nk, ck, rfl, hkc, HKY.out.still st6.fr⟩)
 go_wp2_with fail
 have ht := fun wy => s0f g3 a1 (a0H (lfP b)).length c1 wy (tS key (a0H (lfP b))) (tC key (a0H (lfP b)))
 have HTK := qH (D0u (b := b) HN.out)
 rw [HTK.out.1, HTK.out.2] at ht
 have HT := qH ht
 clear ht
 refine (HT.out _ (fun wy hfx => ?_)).mono ?_
 ·have hv := y0h g3 (.slice ak nk ck) key (.slice a1 (a0H (lfP b)).length c1) (a0H (lfP b)) wy (HG3.out.keep hfx id) (HKP.out.still hfx) ((OwnU.part HL1.out).still hfx)
  rw [HTK.out.1, HTK.out.2] at hv
  exact hv
 rintro e' w7 ⟨a5, c5, rfl, ho, hf⟩
 have st7 := st6.keep hf
 have HL5 := qH ho
 clear st6 hf ho HG3 HKP HL1 HT HTK
 go_wp2_with fail
 refine (l0K _ _ _ _).mono ?_
 rintro e' w8 ⟨rfl, hf8⟩
 have st8 := st7.keep hf8
 have HL6 := qH (HL5.out.still hf8)
 clear HL5
 clear st7 hf8
 have HS2 := qH (HS.out.still st8.fr)
 obtain ⟨a7, n7, c7, h7, -, h77⟩ := OwnU.part HL6.out
 cases h7
 have HR7 := qH h77
 clear h77
 go_wp2_with fail
 refine (u0v _ _ _ _ _ _ _ _ _ HR7.out HS2.out).mono ?_
 rintro e' w' ⟨rfl, rfl⟩
 have hfr := st8.fr
 clear st8 HR7 HS2 HL6
 go_wp2_with fail
 go_ret
 exact ⟨rfl, hfr⟩
open Classical in
theorem B0z (ak : Option Addr) (nk ck : Nat) (key : List UInt8) (a : Option Addr) (n c : Nat) (b : List UInt8) (sa : Option Addr) (sn sc : Nat) (sg : List UInt8) (w : World) (hkey : RdB w ak nk key) (hkc : nk ≤ ck) (hb : PartIs w (.slice a n c) b) (hs : RdB w sa sn sg) : Calls Tryz.prog 41 #[.slice ak nk ck, .slice a n c, .slice sa sn sc] w fun e w' => e = .returned (.bool (vaB key b sg)) ∧ Fr Nob w w' := by
 cases hq : a0S mQ key with
 | false => rw [F0l hq]; exact B0w ak nk ck key a n c b sa sn sc sg w hkey hkc hb hs hq
 | true =>
  have hlt := d0Y hq
  cases hz : (beN key % mQ.M == 0) with
  | true =>
   have h0 : beN key = 0 := by rw [Nat.mod_eq_of_lt hlt] at hz; exact eq_of_beq hz
   rw [F0m h0]; exact B0x ak nk ck key a n c b sa sn sc sg w hkey hkc hb hs hq hz
  | false =>
   have h0 : beN key ≠ 0 := by rw [Nat.mod_eq_of_lt hlt] at hz; simpa using hz
   cases hk : b0N b with
   | false => rw [F0n hk]; exact B0y ak nk ck key a n c b sa sn sc sg w hkey hkc hb hs hq hz hk
   | true =>
    rw [E0O hq h0 hk]
    have h := y0i ak nk ck key a n c b sa sn sc sg w hkey hkc hb hs hq hz hk
    refine h.mono fun e w' k => ⟨?_, k.2⟩
    rw [k.1]
end
section
open Go.RowKit Go.Mv Mvp Mvq
noncomputable def aR : (p : Pt) → onC p → RT
 | .A x y, h => E0k x y h
 | .O, _ => noR
theorem E0x : ∀ (p : Pt) (h : onC p), (aR p h).pt = p
 | .A x y, h => u0P x y h
 | .O, _ => z0d
theorem F0o {p : Pt} (h : onC p) {x y : K} (e : p = .A x y) : (aR p h).L = rpL x y 1 := by subst e; rfl
noncomputable def g0S (lab l : List UInt8) : RT := aR (f0p lab l).pt (f0p lab l).onP
theorem y0j (lab l : List UInt8) : (g0S lab l).pt = (f0p lab l).pt := E0x _ _
theorem v0x {lab l : List UInt8} {x y : K} (e : (f0p lab l).pt = .A x y) : (g0S lab l).L = rpL x y 1 := F0o _ e
theorem v0y {lab l : List UInt8} {k n : Nat} (hk : k < 256) (hn : hN lab l k = n) (h1 : n < fP) (h2 : b0G fP (d0A n) = true) (h0 : c0v lab l k = []) : (g0S lab l).L = rpL (kc n) (kc (rtV fP (d0A n))) 1 := by
 have h2' : b0G mP.M (d0A n) = true := by rw [c0S]; exact h2
 refine v0x ?_
 rw [k0w hk (n0B hn (by rw [c0S]; exact h1) h2') h0, l0t, E0f n h2']
theorem s0g {lab l : List UInt8} (h0 : c0v lab l 256 = []) : (g0S lab l).L = rpL (kc gXn) (kc gYn) 1 := by
 refine v0x ?_
 rw [k0v h0, q0i]
theorem l0Q (x y z : K) : ∀ v ∈ rpL x y z, v.oneCell' = true := by unfold rpL; exact b0i _ _ _
theorem D0v (n : Nat) (hlt : n < fP) (hr : b0G fP (d0A n) = true) (w : World) : Calls Tryz.prog 141 #[i4 n] w fun e w' => e = .returned (.tuple #[.agg (rpL (kc n) (kc (rtV fP (d0A n))) 1).toArray, .bool true]) ∧ Fr Nob w w' := by
 have h := E0m n hr w
 rwa [l0H, Nat.mod_eq_of_lt hlt] at h
theorem D0w (n : Nat) (hlt : n < fP) (hr : b0G fP (d0A n) = false) (w : World) : Calls Tryz.prog 141 #[i4 n] w fun e w' => e = .returned (.tuple #[.agg (rpL (kc n) 0 1).toArray, .bool false]) ∧ Fr Nob w w' := by
 have h := E0n n hr w
 rwa [l0H, Nat.mod_eq_of_lt hlt] at h
theorem B0A (l : List UInt8) (w : World) : Calls Tryz.prog 122 #[fv mP.M, .string (mkS l)] w fun e w' => ∃ N : Nat, e = .returned (.tuple #[i4 N, .bool (a0S mP l)]) ∧ (a0S mP l = true → N = beN l) ∧ Fr Nob w w' := by
 cases h : a0S mP l with
 | true =>
  refine (q0t mP b0Z.lt (mkS l) w (by rw [b0o]; exact h)).mono ?_
  rintro e w' ⟨rfl, hf⟩
  rw [b0o]
  exact ⟨_, rfl, fun _ => rfl, hf⟩
 | false =>
  refine (q0u mP b0Z.lt (mkS l) w (by rw [b0o]; exact h)).mono ?_
  rintro e w' ⟨N, rfl, hf⟩
  exact ⟨N, rfl, fun h => (by cases h), hf⟩
theorem E0y (lab l : List UInt8) (k : Nat) : hN lab l k = beN (c0s (d0Z ++ lab) [l, [UInt8.ofNat k]]) := B0p lab l k
theorem y0k {l : List UInt8} (h1 : l.length = 32) (h2 : beN l < mP.M) : a0S mP l = true := by unfold a0S; rw [decide_eq_true h1, decide_eq_true h2]; rfl
theorem v0z : mkS [] = ⟨#[]⟩ := rfl
theorem v0A : (Tryz.prog.info? 9).map (fun i => (i.zero, i.size, i.bytes)) = some (some (.string ⟨#[]⟩), 1, 16) := by kernel_rfl
attribute [local irreducible] a0C lw mix cw b0k b0y b0j a0M a0n beN b0F a0P b0C a0J a0R elN mdL a0S rtV b0G kN kc c0u a0H e0S noR b0U f0T RT.L c0s hB hN d0Q c0v f0p atY d0A o0J rpL mkS
theorem v0B (lab : ByteArray) (l : List UInt8) (hsz : lab.size ≤ 40000) (hll : l.length ≤ 40000) (w : World) : Calls Tryz.prog 110 #[.string lab, .string (mkS l)] w fun e w' => e = .returned (.agg (g0S lab.data.toList l).L.toArray) ∧ Fr Nob w w' := by
 have HSZ := qH hsz
 have HLL := qH hll
 clear hsz hll
 have st0 := St.start Nob w
 go_enter Tryz.func110, Tryz.ntmps110
 go_wp2_with (with_reducible refine wSk 4 ?_)
 refine a0a st0 rfl rfl (z := zAc) ap14 (cw 12 0) ap12 ?_
 intro g4 w1 st1
 clear st0
 go_wp2
 go_loopw [5] (fun i wr => ∃ k : Nat, k ≤ 256 ∧ i = .int .i64 (k : Int) ∧ c0v lab.data.toList l k = [] ∧ St Nob w wr [(g4, cw 12 0, 62)]) (fun i _ => 256 - (intOf i).toNat)
 case atStart => exact ⟨0, by omega, rfl, k0u _ _, st1⟩
 case round =>
  obtain ⟨k, hk, rfl, hnone, st⟩ := hrel
  clear st1
  have HN0 := qH hnone
  clear hnone
  rcases Nat.lt_or_ge k 256 with hk2 | hk2
  ·have hltI : (k : Int) < 256 := by omega
   have hk0 : (0 : Int) ≤ (k : Int) := by omega
   have hk8 : (k : Int) % 256 = (k : Int) := by omega
   have HLT := qH hk2
   clear hk2 hk
   have hn := E0y lab.data.toList l k
   generalize hT : c0s (d0Z ++ lab.data.toList) [l, [UInt8.ofNat k]] = T at *
   have HT := qH hT
   have HTL := qH (show T.length = 32 by rw [← hT]; exact w0h _ _)
   have HN := qH hn
   clear hT hn
   have hbb : a0S mP T = true → beN T < fP := fun h => by have := A0S mP T h; rwa [c0S] at this
   have HBB := qH hbb
   clear hbb
   generalize hb : a0S mP T = b at *
   have HB := qH hb
   clear hb
   go_wp2_with fail
   refine wp_region_noPanic ?_
   have hd1 := st.drew
   clear st
   refine e0c (fun wx => St Nob w wx [(g4, cw 12 0, 62)] ∧ Fr Nob (World.drew _) wx) [0, 1, 2, 3, 4, 5, 6, 7, 8, 9, 10, 11, 12, 13, 14] [13] (fun i => match i with | 0 => [] | 1 => [] | 2 => [1] | 3 => [] | 4 => [] | 5 => [4] | 6 => [5] | 7 => [6] | 8 => [3, 7] | 9 => [2, 8] | 10 => [0, 9] | 11 => [10] | 12 => [11] | 13 => [11] | 14 => [] | _ => []) (fun i x wx => match i with | 0 => x 0 = fv mP.M | 1 => x 1 = .string lab | 2 => x 2 = .string (mkS (d0Z ++ lab.data.toList)) | 3 => x 3 = .string (mkS l) | 4 => x 4 = .int .i64 (k : Int) | 5 => x 5 = .int .u8 (k : Int) | 6 => ∃ g, x 6 = .slice (some ⟨g, 0, none⟩) 1 1 ∧ Has wx g (bs [UInt8.ofNat k]) 5 | 7 => x 7 = .string (mkS [UInt8.ofNat k]) | 8 => ∃ g, x 8 = .slice (some ⟨g, 0, none⟩) 2 2 ∧ Has wx g (ss [l, [UInt8.ofNat k]]) 9 | 9 => x 9 = .string (mkS T) | 10 => ∃ N : Nat, x 10 = .tuple #[i4 N, .bool b] ∧ (b = true → N = beN T) | 11 => ∃ N : Nat, x 11 = .tuple #[i4 N, .bool b] ∧ (b = true → N = beN T) | 12 => ∃ N : Nat, x 12 = i4 N ∧ (b = true → N = beN T) | 13 => x 13 = .bool b | 14 => ∃ g, x 14 = .pointer (some ⟨g, 0, none⟩) ∧ Has wx g (cw 4 0) 60 ∧ (World.drew wr).heap.size ≤ g | _ => True) 15 (.m 15 (.w 16 .nil)) ?_ (fun x => ?_) ap14 ap14 (fun _ _ _ _ _ h => h) ⟨hd1, Fr.refl _ _⟩ (fun _ _ h k => ⟨h.1.keep k, h.2.then k⟩) ?_ ?_
   rotate_left 1
   ·simp only [h0l, z0i, Act.put, List.getElem?_toArray, List.getElem?_cons_zero, List.getElem?_cons_succ, List.setIfInBounds_toArray, List.set_cons_zero, List.set_cons_succ]
    exact rfl
   refine a0D rfl rfl (fun x wx hG hp => ?_) (fun y _ _ h k => h) ?_
   ·try dsimp only
    clear hp
    refine e0U rfl Tryz.call112 (vs := []) rfl ?_
    refine (a0Q _).mono ?_
    rintro e w' ⟨rfl, hf⟩
    exact ⟨_, rfl, hf, rfl⟩
   refine a0D rfl rfl (fun x wx hG hp => ?_) (fun y _ _ h k => h) ?_
   ·try dsimp only
    clear hp
    exact d0R (v := .string lab) ap8 rfl
   refine a0D rfl rfl (fun x wx hG hp => ?_) (fun y _ _ h k => h) ?_
   ·try dsimp only
    have e1 : x 1 = .string lab := hp 1 ap15
    generalize x 1 = v1 at e1 ⊢
    subst e1
    clear hp
    exact d0R (k0B rfl rfl rfl Tryz.underlying9 (by have h : (⟨#[112, 111, 105, 110, 116, 32]⟩ : ByteArray).size = 6 := rfl; rw [h]; have := HSZ.out; omega) (v0f lab) _) rfl
   refine a0D rfl rfl (fun x wx hG hp => ?_) (fun y _ _ h k => h) ?_
   ·try dsimp only
    clear hp
    exact d0R (v := .string (mkS l)) ap8 rfl
   refine a0D rfl rfl (fun x wx hG hp => ?_) (fun y _ _ h k => h) ?_
   ·try dsimp only
    clear hp
    exact d0R (v := .int .i64 (k : Int)) ap8 rfl
   refine a0D rfl rfl (fun x wx hG hp => ?_) (fun y _ _ h k => h) ?_
   ·try dsimp only
    have e4 : x 4 = .int .i64 (k : Int) := hp 4 ap15
    generalize x 4 = v4 at e4 ⊢
    subst e4
    clear hp
    exact d0R (v := .int .u8 (k : Int)) (by go_simp; exact IntWalk.u8_in _ ap16) rfl
   refine a0D rfl rfl (fun x wx hG hp => ?_) (fun y _ _ h k => by obtain ⟨g, h1, h2⟩ := h; exact ⟨g, h1, h2.keep k id⟩) ?_
   ·try dsimp only
    have e5 : x 5 = .int .u8 (k : Int) := hp 5 ap15
    generalize x 5 = v5 at e5 ⊢
    subst e5
    clear hp
    refine i0c rfl Tryz.underlying22 b0K [.int .u8 (k : Int)] rfl (by intro u hu; simp only [List.mem_singleton] at hu; subst hu; rfl) rfl (bs [UInt8.ofNat k]) (by show [Value.int .u8 (k : Int)] = [Value.int .u8 ((UInt8.ofNat k).toNat : Int)]; rw [UInt8.toNat_ofNat', Nat.mod_eq_of_lt HLT.out]) (fun g w' _ _ hg => ⟨g, rfl, hg⟩)
   refine a0D rfl rfl (fun x wx hG hp => ?_) (fun y _ _ h k => h) ?_
   ·try dsimp only
    have e6 : ∃ g, x 6 = .slice (some ⟨g, 0, none⟩) 1 1 ∧ Has wx g (bs [UInt8.ofNat k]) 5 := hp 6 ap15
    obtain ⟨ga, e6, HGA⟩ := e6
    generalize x 6 = v6 at e6 ⊢
    subst e6
    clear hp
    exact d0R (h0Y rfl Tryz.underlying22 Tryz.underlying5 Tryz.underlying9 rfl (show RdB _ _ 1 _ from Rd.whole HGA)) rfl
   refine a0D rfl rfl (fun x wx hG hp => ?_) (fun y _ _ h k => by obtain ⟨g, h1, h2⟩ := h; exact ⟨g, h1, h2.keep k id⟩) ?_
   ·try dsimp only
    have e3 : x 3 = .string (mkS l) := hp 3 ap15
    generalize x 3 = v3 at e3 ⊢
    subst e3
    have e7 : x 7 = .string (mkS [UInt8.ofNat k]) := hp 7 ap15
    generalize x 7 = v7 at e7 ⊢
    subst e7
    clear hp
    refine i0c rfl Tryz.underlying40 v0A [.string (mkS l), .string (mkS [UInt8.ofNat k])] rfl (by intro u hu; simp only [List.mem_cons, List.not_mem_nil, or_false] at hu; rcases hu with rfl | rfl <;> rfl) rfl (ss [l, [UInt8.ofNat k]]) rfl (fun g w' _ _ hg => ⟨g, rfl, hg⟩)
   refine a0D rfl rfl (fun x wx hG hp => ?_) (fun y _ _ h k => h) ?_
   ·try dsimp only
    have e2 : x 2 = .string (mkS (d0Z ++ lab.data.toList)) := hp 2 ap15
    generalize x 2 = v2 at e2 ⊢
    subst e2
    have e8 : ∃ g, x 8 = .slice (some ⟨g, 0, none⟩) 2 2 ∧ Has wx g (ss [l, [UInt8.ofNat k]]) 9 := hp 8 ap15
    obtain ⟨gb, e8, HGB⟩ := e8
    generalize x 8 = v8 at e8 ⊢
    subst e8
    clear hp
    refine e0U rfl Tryz.call126 (vs := [.string (mkS (d0Z ++ lab.data.toList)), .slice (some ⟨gb, 0, none⟩) 2 2]) rfl ?_
    refine (w0g (mkS (d0Z ++ lab.data.toList)) (some ⟨gb, 0, none⟩) 2 [l, [UInt8.ofNat k]] _ (by have := HSZ.out; have := HLL.out; rw [b0a]; simp only [List.length_append, l0S, List.map_cons, List.map_nil, List.foldr_cons, List.foldr_nil, List.length_cons, List.length_nil, d0Z, f0V]; omega) ap17 (by have h := Rd.whole HGB; exact h)).mono ?_
    rintro e w' ⟨rfl, hf⟩
    exact ⟨_, rfl, hf, by show Value.string _ = Value.string _; rw [b0o, HT.out]⟩
   refine a0D rfl rfl (fun x wx hG hp => ?_) (fun y _ _ h k => h) ?_
   ·try dsimp only
    have e0 : x 0 = fv mP.M := hp 0 ap15
    generalize x 0 = v0 at e0 ⊢
    subst e0
    have e9 : x 9 = .string (mkS T) := hp 9 ap15
    generalize x 9 = v9 at e9 ⊢
    subst e9
    clear hp
    refine e0U rfl Tryz.call122 (vs := [fv mP.M, .string (mkS T)]) rfl ?_
    refine (B0A T _).mono ?_
    rintro e w' ⟨N, rfl, hN, hf⟩
    rw [HB.out] at hN ⊢
    exact ⟨_, rfl, hf, N, rfl, hN⟩
   refine a0D rfl rfl (fun x wx hG hp => ?_) (fun y _ _ h k => h) ?_
   ·try dsimp only
    have e10 : ∃ N : Nat, x 10 = .tuple #[i4 N, .bool b] ∧ (b = true → N = beN T) := hp 10 ap15
    obtain ⟨N, e10, HNN⟩ := e10
    generalize x 10 = v10 at e10 ⊢
    subst e10
    clear hp
    exact d0R (v := .tuple #[i4 N, .bool b]) ap8 ⟨N, rfl, HNN⟩
   refine a0D rfl rfl (fun x wx hG hp => ?_) (fun y _ _ h k => h) ?_
   ·try dsimp only
    have e11 : ∃ N : Nat, x 11 = .tuple #[i4 N, .bool b] ∧ (b = true → N = beN T) := hp 11 ap15
    obtain ⟨N, e11, HNN⟩ := e11
    generalize x 11 = v11 at e11 ⊢
    subst e11
    clear hp
    exact d0R (v := i4 N) ap8 ⟨N, rfl, HNN⟩
   refine r0Z rfl rfl (fun x wx hG hp => ?_) (fun y _ _ h k => h) ?_
   ·try dsimp only
    have e11 : ∃ N : Nat, x 11 = .tuple #[i4 N, .bool b] ∧ (b = true → N = beN T) := hp 11 ap15
    obtain ⟨N, e11, HNN⟩ := e11
    generalize x 11 = v11 at e11 ⊢
    subst e11
    clear hp
    exact ⟨.bool b, fun wx => by go_simp; try with_reducible rfl, rfl⟩
   refine a0D rfl rfl (fun x wx hG hp => ?_) (fun y _ _ h k => by obtain ⟨g, h1, h2, h3⟩ := h; exact ⟨g, h1, h2.keep k id, h3⟩) ?_
   ·try dsimp only
    clear hp
    exact v0k rfl f0K (cw 4 0) rfl (fun g w' _ hle hg => ⟨g, rfl, hg, Nat.le_trans hG.2.size hle⟩)
   exact trivial
   intro x w2 hG hp
   try dsimp only
   have e12 : ∃ N : Nat, x 12 = i4 N ∧ (b = true → N = beN T) := hp 12 ap15
   obtain ⟨N, e12, HNN⟩ := e12
   generalize x 12 = v12 at e12 ⊢
   subst e12
   have e13 : x 13 = .bool b := hp 13 ap15
   generalize x 13 = v13 at e13 ⊢
   subst e13
   have e14 : ∃ g, x 14 = .pointer (some ⟨g, 0, none⟩) ∧ Has w2 g (cw 4 0) 60 ∧ (World.drew wr).heap.size ≤ g := hp 14 ap15
   obtain ⟨ga14, e14, HG14, HL14⟩ := e14
   generalize x 14 = v14 at e14 ⊢
   subst e14
   clear hp
   generalize x 0 = v0
   generalize x 1 = v1
   generalize x 2 = v2
   generalize x 3 = v3
   generalize x 4 = v4
   generalize x 5 = v5
   generalize x 6 = v6
   generalize x 7 = v7
   generalize x 8 = v8
   generalize x 9 = v9
   generalize x 10 = v10
   generalize x 11 = v11
   have st2 := hd1.new hG.2 HG14 HL14
   try simp only [List.cons_append, List.nil_append] at st2
   clear HL14 HG14
   clear hG hd1
   refine a0q rfl rfl ?_
   refine a0h st2 1 rfl rfl rfl rfl ap3 ap1 (a0f _ _) ?_
   intro w3 st3
   try simp only [List.set_cons_zero, List.set_cons_succ] at st3
   clear st2
   try simp only [Act.put]
   refine a0j rfl rfl apW ?_
   try simp only [clL]
   refine a0g ?_
   refine NoPanic.normal ?_
   have HNE := qH HNN
   clear HNN
   rcases b with _ | _
   ·skip
    have HC := qH (show d0Q lab.data.toList l k = none from i0b HN.out fun h => by have h3 := y0k (HTL.out) h.1; rw [HB.out] at h3; cases h3)
    go_wp2_with fail
    go_roundw
    case rel => exact ⟨k + 1, by have := HLT.out; omega, by go_num, by rw [g0R HC.out]; exact HN0.out, St.less st3 ap17⟩
    case measure => have := HLT.out; simp [intOf]; omega
   ·have hlt := HBB.out rfl
    obtain rfl : N = beN T := HNE.out rfl
    clear HNE HBB
    generalize beN T = n at *
    have HLN := qH hlt
    clear hlt
    rcases hr : b0G fP (d0A n) with _ | _
    ·have HR := qH hr
     clear hr
     go_wp2_with (with_reducible refine wSk 30 ?_)
     refine a0k st3 1 rfl rfl rfl Tryz.underlying60 rfl ap1 ?_
     go_wp2_with fail
     refine (D0w n HLN.out HR.out _).mono ?_
     rintro e' w4 ⟨rfl, hf4⟩
     have st4 := st3.keep hf4
     clear st3 hf4
     go_wp2_with (with_reducible refine wSk 8 ?_)
     refine a0a st4 rfl rfl (z := zAc) ap14 (cw 12 0) ap12 ?_
     intro g8 w5 st5
     clear st4
     go_wp2_with (with_reducible refine wSn ?_)
     refine a0b st5 2 rfl rfl rfl rfl rfl ap3 (by first | (rw [a0i]; kernel_rfl) | (simp only [e0R]; kernel_rfl)) (l0Q _ _ _) ?_
     intro w6 st6
     clear st5
     have HC := qH (show d0Q lab.data.toList l k = none from i0b HN.out fun h => by rw [c0S, HR.out] at h; exact absurd h.2 ap15)
     go_wp2_with fail
     go_roundw
     case rel => exact ⟨k + 1, by have := HLT.out; omega, by go_num, by rw [g0R HC.out]; exact HN0.out, St.less st6 ap17⟩
     case measure => have := HLT.out; simp [intOf]; omega
    ·have HR := qH hr
     clear hr
     go_wp2_with (with_reducible refine wSk 30 ?_)
     refine a0k st3 1 rfl rfl rfl Tryz.underlying60 rfl ap1 ?_
     go_wp2_with fail
     refine (D0v n HLN.out HR.out _).mono ?_
     rintro e' w4 ⟨rfl, hf4⟩
     have st4 := st3.keep hf4
     clear st3 hf4
     go_wp2_with (with_reducible refine wSk 8 ?_)
     refine a0a st4 rfl rfl (z := zAc) ap14 (cw 12 0) ap12 ?_
     intro g8 w5 st5
     clear st4
     go_wp2_with (with_reducible refine wSn ?_)
     refine a0b st5 2 rfl rfl rfl rfl rfl ap3 (by first | (rw [a0i]; kernel_rfl) | (simp only [e0R]; kernel_rfl)) (l0Q _ _ _) ?_
     intro w6 st6
     clear st5
     have HH := qH (v0y HLT.out HN.out HLN.out HR.out HN0.out)
     go_wp2_with (with_reducible refine wSk 35 ?_)
     refine a0p st6 2 rfl rfl rfl Tryz.underlying62 rfl rfl (by first | (rw [a0i]; kernel_rfl) | (simp only [e0R]; kernel_rfl)) ?_
     go_wp2_with (with_reducible refine wSn ?_)
     refine a0b st6 0 rfl rfl rfl rfl rfl ap3 (by first | (rw [a0i]; kernel_rfl) | (simp only [e0R]; kernel_rfl)) (l0Q _ _ _) ?_
     intro w7 st7
     clear st6
     have hr := st7.at 0 rfl
     have hfr := st7.fr
     clear st7
     go_wp2_with fail
     exact bodyPost_ret (a0r rfl rfl hr Tryz.underlying62 rfl (by first | (rw [a0i]; kernel_rfl) | (simp only [e0R]; kernel_rfl))) rfl ⟨by rw [HH.out], hfr⟩
  ·have hk3 : k = 256 := by omega
   subst hk3
   have hge : ¬ (((256 : Nat) : Int) < 256) := by omega
   have HH := qH (s0g HN0.out)
   go_wp2_with fail
   refine (E0J _).mono ?_
   rintro e' w2 ⟨rfl, hf2⟩
   have st2 := st.keep hf2
   clear st hf2
   go_wp2_with (with_reducible refine wSn ?_)
   refine a0b st2 0 rfl rfl rfl rfl rfl ap3 ap7 (RT.one _) ?_
   intro w3 st3
   clear st2
   have hr := st3.at 0 rfl
   have hfr := st3.fr
   clear st3
   go_wp2_with fail
   exact bodyPost_ret (a0r rfl rfl hr Tryz.underlying62 rfl ap7) rfl ⟨by rw [HH.out, B0g], hfr⟩
attribute [local irreducible] g0S
noncomputable def hRR : RT := g0S D0s []
end
section
open Go.RowKit Go.Mv Mvp Mvq
attribute [local irreducible] hRR f0p g0S PT.pt j0b
theorem v0C (lab s : ByteArray) (h1 : lab.size ≤ 4096) (h2 : s.size ≤ 4096) (w : World) : Calls Tryz.prog 110 #[.string lab, .string s] w fun e w' => e = .returned (.agg (g0S lab.data.toList s.data.toList).L.toArray) ∧ Fr Nob w w' := by
 have h := v0B lab s.data.toList ap16 (by rw [f0V]; omega) w
 rwa [h0D] at h
attribute [local irreducible] a0C lw mix cw b0k b0y b0j a0M a0n beN b0F a0P b0C a0J a0R elN mdL a0S rtV b0G kN kc c0u a0H e0S noR b0U f0T RT.L gXn gYn rpL b0J b0q c0s hB hN d0Q c0v mkS
end
section
open Go.RowKit Go.Mv Mvp Mvq
noncomputable def lfR (b : List UInt8) : RT := if b0N b = true then g0S j0w b else noR
theorem D0x {b : List UInt8} (h : b0N b = true) : (lfR b).pt = lfP b := by unfold lfR lfP; rw [if_pos h, y0j]
theorem q0J (s : ByteArray) : b0N s.data.toList = (decide (1 ≤ s.size) && decide (s.size ≤ 64)) := by unfold b0N; rw [f0V]
theorem v0D (s : ByteArray) (h2 : s.size ≤ 4096) (w : World) : Calls Tryz.prog 110 #[.string ⟨#[116, 111, 107, 101, 110]⟩, .string s] w fun e w' => e = .returned (.agg (g0S j0w s.data.toList).L.toArray) ∧ Fr Nob w w' := by
 have h := v0C ⟨#[116, 111, 107, 101, 110]⟩ s ap15 h2 w
 rw [show (⟨#[116, 111, 107, 101, 110]⟩ : ByteArray).data.toList = j0w from rfl] at h
 exact h
attribute [local irreducible] a0C lw mix cw b0k b0y b0j a0M a0n beN b0F a0P b0C a0J a0R elN mdL a0S rtV b0G kN kc c0u a0H e0S noR b0U f0T RT.L c0s hB hN d0Q c0v rpL mkS lfR blE blS lfE lfS vaB b0N
theorem n0L (s : ByteArray) (hs : s.size ≤ 4096) (w : World) : Calls Tryz.prog 101 #[.string s] w fun e w' => e = .returned (.bool (b0N s.data.toList)) ∧ Fr Nob w w' := by
 rw [q0J]
 by_cases h1 : 1 ≤ s.size
 ·by_cases h2 : s.size ≤ 64
  ·rw [decide_eq_true h1, decide_eq_true h2]
   have hI : (1 : Int) ≤ (s.size : Int) := by omega
   have hJ : (s.size : Int) ≤ 64 := by omega
   go_enter Tryz.func101, Tryz.ntmps101
   go_wp2
   go_ret
   exact ⟨rfl, Fr.refl _ _⟩
  ·rw [decide_eq_true h1, decide_eq_false h2]
   have hI : (1 : Int) ≤ (s.size : Int) := by omega
   have hJ : ¬ ((s.size : Int) ≤ 64) := by omega
   go_enter Tryz.func101, Tryz.ntmps101
   go_wp2
   go_ret
   exact ⟨rfl, Fr.refl _ _⟩
 ·rw [decide_eq_false h1, Bool.false_and]
  have hI : ¬ ((1 : Int) ≤ (s.size : Int)) := by omega
  go_enter Tryz.func101, Tryz.ntmps101
  go_wp2
  go_ret
  exact ⟨rfl, Fr.refl _ _⟩
theorem B0B (s : ByteArray) (hs : s.size ≤ 4096) (hk : b0N s.data.toList = true) (w : World) : Calls Tryz.prog 44 #[.string s] w fun e w' => e = .returned (.tuple #[.agg (g0S j0w s.data.toList).L.toArray, .int .i64 0]) ∧ Fr Nob w w' := by
 have HS := qH hs
 have HK := qH hk
 clear hs hk
 have st0 := St.start Nob w
 go_enter Tryz.func44, Tryz.ntmps44
 go_wp2_with (with_reducible refine wSk 2 ?_)
 refine a0a st0 rfl rfl (z := zAc) ap14 (cw 12 0) ap12 ?_
 intro g2 w1 st1
 clear st0
 have hsec := fun wx => n0L s HS.out wx
 rw [HK.out] at hsec
 have HSEC := qH hsec
 clear hsec
 go_wp2_with fail
 refine (HSEC.out _).mono ?_
 rintro e' w2 ⟨rfl, hf2⟩
 have st2 := st1.keep hf2
 clear st1 hf2
 clear HSEC
 go_wp2_with fail
 refine (v0D s HS.out _).mono ?_
 rintro e' w3 ⟨rfl, hf3⟩
 have st3 := st2.keep hf3
 clear st2 hf3
 go_wp2_with (with_reducible refine wSn ?_)
 refine a0b st3 0 rfl rfl rfl rfl rfl ap3 ap7 (RT.one _) ?_
 intro w4 st4
 clear st3
 have hr := st4.at 0 rfl
 have hfr := st4.fr
 clear st4
 go_wp2_with fail
 exact bodyPost_ret (a0U rfl rfl hr Tryz.underlying62 rfl ap7 rfl) rfl ⟨rfl, hfr⟩
theorem B0C (s : ByteArray) (hs : s.size ≤ 4096) (hk : b0N s.data.toList = false) (w : World) : Calls Tryz.prog 44 #[.string s] w fun e w' => e = .returned (.tuple #[.agg noR.L.toArray, .int .i64 2]) ∧ Fr Nob w w' := by
 have HS := qH hs
 have HK := qH hk
 clear hs hk
 have st0 := St.start Nob w
 go_enter Tryz.func44, Tryz.ntmps44
 go_wp2_with (with_reducible refine wSk 2 ?_)
 refine a0a st0 rfl rfl (z := zAc) ap14 (cw 12 0) ap12 ?_
 intro g2 w1 st1
 clear st0
 have hsec := fun wx => n0L s HS.out wx
 rw [HK.out] at hsec
 have HSEC := qH hsec
 clear hsec
 go_wp2_with fail
 refine (HSEC.out _).mono ?_
 rintro e' w2 ⟨rfl, hf2⟩
 have st2 := st1.keep hf2
 clear st1 hf2
 clear HSEC
 go_wp2_with fail
 refine (u0O _).mono ?_
 rintro e' w3 ⟨rfl, hf3⟩
 have st3 := st2.keep hf3
 clear st2 hf3
 go_wp2_with (with_reducible refine wSn ?_)
 refine a0b st3 0 rfl rfl rfl rfl rfl ap3 ap7 (RT.one _) ?_
 intro w4 st4
 clear st3
 have hr := st4.at 0 rfl
 have hfr := st4.fr
 clear st4
 go_wp2_with fail
 exact bodyPost_ret (a0U rfl rfl hr Tryz.underlying62 rfl ap7 rfl) rfl ⟨rfl, hfr⟩
theorem B0D (s : ByteArray) (hs : s.size ≤ 4096) (w : World) : Calls Tryz.prog 44 #[.string s] w fun e w' => e = .returned (.tuple #[.agg (lfR s.data.toList).L.toArray, .int .i64 (lfE s.data.toList)]) ∧ Fr Nob w w' := by
 cases hk : b0N s.data.toList with
 | true =>
  rw [(E0u hk).1, show lfR s.data.toList = g0S j0w s.data.toList from by unfold lfR; rw [if_pos hk]]
  exact B0B s hs hk w
 | false =>
  rw [(E0v hk).1, show lfR s.data.toList = noR from by unfold lfR; rw [hk]; rfl]
  exact B0C s hs hk w
theorem E0z {b r : List UInt8} (h1 : b0N b = true) (h2 : a0S mQ r = true) : (e0S (lfR b) (b0U (beN r) l0J)).pt = a0T (lfP b) (a0E (beN r) gP) := by
 rw [l0I, u0T _ (Nat.lt_trans (d0Y h2) ap15), x0P, D0x h1]
 rfl
theorem y0l (s r : ByteArray) (hs : s.size ≤ 4096) (hk : b0N s.data.toList = false) (w : World) : Calls Tryz.prog 38 #[.string s, .string r] w fun e w' => e = .returned (.tuple #[.string ⟨#[]⟩, .int .i64 2]) ∧ Fr Nob w w' := by
 have HS := qH hs
 have HK := qH hk
 clear hs hk
 have st0 := St.start Nob w
 go_enter Tryz.func38, Tryz.ntmps38
 have hsec := fun wx => n0L s HS.out wx
 rw [HK.out] at hsec
 have HSEC := qH hsec
 clear hsec
 go_wp2_with fail
 refine (HSEC.out _).mono ?_
 rintro e' w1 ⟨rfl, hf1⟩
 have st1 := st0.keep hf1
 clear st0 hf1
 clear HSEC
 have hfr := st1.fr
 clear st1
 go_wp2_with fail
 go_ret2
 exact ⟨rfl, hfr⟩
theorem y0m (s r : ByteArray) (hs : s.size ≤ 4096) (hk : b0N s.data.toList = true) (hq : a0S mQ r.data.toList = false) (w : World) : Calls Tryz.prog 38 #[.string s, .string r] w fun e w' => e = .returned (.tuple #[.string ⟨#[]⟩, .int .i64 3]) ∧ Fr Nob w w' := by
 have HS := qH hs
 have HK := qH hk
 have HQ := qH hq
 clear hs hk hq
 have st0 := St.start Nob w
 go_enter Tryz.func38, Tryz.ntmps38
 have hsec := fun wx => n0L s HS.out wx
 rw [HK.out] at hsec
 have HSEC := qH hsec
 clear hsec
 go_wp2_with fail
 refine (HSEC.out _).mono ?_
 rintro e' w1 ⟨rfl, hf1⟩
 have st1 := st0.keep hf1
 clear st0 hf1
 clear HSEC
 go_wp2_with fail
 refine (n0y r _).mono ?_
 rintro e' w2 ⟨N1, rfl, hn1, hf2⟩
 have st2 := st1.keep hf2
 have HN1 := qH hn1
 clear hn1
 clear st1 hf2
 go_wp2_with (with_reducible refine wSk 7 ?_)
 refine a0a st2 rfl rfl (z := zAd) ap14 (cw 4 0) ap12 ?_
 intro g7 w3 st3
 clear st2
 go_wp2_with (with_reducible refine wSn ?_)
 refine a0b st3 0 rfl rfl rfl rfl rfl ap3 ap1 (a0f _ _) ?_
 intro w4 st4
 clear st3
 rw [HQ.out]
 have hfr := st4.fr
 clear st4
 go_wp2_with fail
 go_ret2
 exact ⟨rfl, hfr⟩
theorem y0n (s r : ByteArray) (hs : s.size ≤ 4096) (hk : b0N s.data.toList = true) (hq : a0S mQ r.data.toList = true) (w : World) : Calls Tryz.prog 38 #[.string s, .string r] w fun e w' => e = .returned (.tuple #[.string (mkS (a0H (a0T (lfP s.data.toList) (a0E (beN r.data.toList) gP)))), .int .i64 0]) ∧ Fr Nob w w' := by
 have HS := qH hs
 have HK := qH hk
 have HQ := qH hq
 clear hs hk hq
 have st0 := St.start Nob w
 go_enter Tryz.func38, Tryz.ntmps38
 have hsec := fun wx => n0L s HS.out wx
 rw [HK.out] at hsec
 have HSEC := qH hsec
 clear hsec
 go_wp2_with fail
 refine (HSEC.out _).mono ?_
 rintro e' w1 ⟨rfl, hf1⟩
 have st1 := st0.keep hf1
 clear st0 hf1
 clear HSEC
 go_wp2_with fail
 refine (n0y r _).mono ?_
 rintro e' w2 ⟨N1, rfl, hn1, hf2⟩
 have st2 := st1.keep hf2
 have HN1 := qH hn1
 clear hn1
 clear st1 hf2
 go_wp2_with (with_reducible refine wSk 7 ?_)
 refine a0a st2 rfl rfl (z := zAd) ap14 (cw 4 0) ap12 ?_
 intro g7 w3 st3
 clear st2
 go_wp2_with (with_reducible refine wSn ?_)
 refine a0b st3 0 rfl rfl rfl rfl rfl ap3 ap1 (a0f _ _) ?_
 intro w4 st4
 clear st3
 rw [HQ.out]
 rw [HN1.out HQ.out] at st4
 clear HN1
 go_wp2_with fail
 refine (B0D s HS.out _).mono ?_
 rintro e' w5 ⟨rfl, hf5⟩
 have st5 := st4.keep hf5
 clear st4 hf5
 go_wp2_with (with_reducible refine wSk 8 ?_)
 refine a0a st5 rfl rfl (z := zAc) ap14 (cw 12 0) ap12 ?_
 intro g8 w6 st6
 clear st5
 go_wp2_with (with_reducible refine wSn ?_)
 refine a0b st6 1 rfl rfl rfl rfl rfl ap3 ap7 (RT.one _) ?_
 intro w7 st7
 clear st6
 go_wp2_with fail
 refine wp_region_noPanic ?_
 refine a0e st7 6 [.t 0, .t 1, .c 2, .c 3, .c 4, .w 5] (.m 6 .nil) ap14 ap14 (fun _ _ _ _ _ h => h) ?_
 clear st7
 refine a0d rfl rfl rfl (fun _ => rfl) ((lfR s.data.toList).L) (fun wx hS => St.rangeL hS 1 rfl 0 _ dZl) Tryz.underlying62 rfl ap7 ?_
 try simp only [clL]
 refine a0d rfl rfl rfl (fun _ => rfl) (cw 4 (beN r.data.toList)) (fun wx hS => St.rangeL hS 0 rfl 0 _ dZl) Tryz.underlying60 rfl ap1 ?_
 try simp only [clL]
 refine a0c rfl rfl rfl Tryz.call55 (fun w hS hR => x0T (beN r.data.toList) _) (fun _ => rfl) ?_
 try simp only [clL]
 refine a0c rfl rfl rfl Tryz.call68 (fun w hS hR => o0Z (lfR s.data.toList) (b0U (beN r.data.toList) l0J) _) (fun _ => rfl) ?_
 try simp only [clL]
 refine a0c rfl rfl rfl Tryz.call45 (fun w hS hR => r0T (e0S (lfR s.data.toList) (b0U (beN r.data.toList) l0J)) _) (fun _ => rfl) ?_
 try simp only [clL]
 refine a0m rfl rfl apX ?_
 try simp only [clL]
 refine a0t fun xq w8 st8 hR => ?_
 try dsimp only
 clear hR xq
 refine a0q rfl rfl ?_
 go_simp
 try simp only [clL]
 refine a0g ?_
 refine NoPanic.normal ?_
 have hfr := st8.fr
 clear st8
 go_wp2_with fail
 go_ret2
 exact ⟨by rw [E0z HK.out HQ.out]; rfl, hfr⟩
theorem y0o (s r : ByteArray) (hs : s.size ≤ 4096) (w : World) : Calls Tryz.prog 38 #[.string s, .string r] w fun e w' => e = .returned (.tuple #[.string (mkS (blS s.data.toList r.data.toList)), .int .i64 (blE s.data.toList r.data.toList)]) ∧ Fr Nob w w' := by
 cases hk : b0N s.data.toList with
 | false => rw [(D0K hk).1, (D0K hk).2, v0z]; exact y0l s r hs hk w
 | true =>
  cases hq : a0S mQ r.data.toList with
  | false => rw [(D0J hk hq).1, (D0J hk hq).2, v0z]; exact y0m s r hs hk hq w
  | true => rw [(v0w hk hq).1, (v0w hk hq).2]; exact y0n s r hs hk hq w
end
section
open Go.RowKit Go.Mv Mvp Mvq
theorem RLogAt.notIn {w : World} {g : Nat} {l : List UInt8} (h : RLogAt w g l) {bl : List (Nat × List Value × TypeId)} (hh : ∀ x ∈ bl, Has w x.1 x.2.1 x.2.2) (hT : ∀ x ∈ bl, 197 ≠ x.2.2) : ∀ x ∈ bl, x.1 ≠ g := by
 rintro x hx rfl
 obtain ⟨_, _, h1, _⟩ := h
 obtain ⟨_, _, h2, _⟩ := hh x hx
 rw [h1] at h2
 simp only [Option.some.injEq, Obj.cells.injEq] at h2
 exact hT x hx h2.2.1
theorem mQ0 : 0 < mQ.M := by decide
attribute [local irreducible] a0C lw mix cw b0k b0y b0j a0M a0n beN b0F a0P b0C a0J a0R elN mdL a0S rtV b0G a0H b0J b0q a0E b0g b0x toB a0u a0B b0h b0R a0L c0g b0b a0y c0s c0R e0S noR b0U RT.L kN kc d0B d0a chN g0N o0Q b0B rpL
end
section
open Go.RowKit Go.Mv Mvp Mvq
attribute [local irreducible] a0C lw mix cw b0k b0y b0j a0M a0n beN b0F a0P b0C a0J a0R elN mdL a0S rtV b0G kN kc c0u a0H e0S noR b0U f0T RT.L c0s hB hN d0Q c0v rpL mkS lfR blE blS lfE lfS vaB b0N
end
section
open Go.RowKit Go.Mv Mvp Mvq
attribute [local irreducible] a0C lw mix cw b0k b0y b0j a0M a0n beN b0F a0P b0C a0J a0R elN mdL a0S rtV b0G a0H b0J b0q a0E b0g b0x toB a0u a0B b0h b0R a0L c0g b0b a0y c0s c0R e0S noR b0U RT.L kN kc d0B d0a chN g0N o0Q b0B rpL
end
section
open Go.RowKit Go.Mv Mvp Mvq
attribute [local irreducible] a0C lw mix cw b0k b0y b0j a0M a0n beN b0F a0P b0C a0J a0R elN mdL a0S rtV b0G a0H b0J b0q a0E b0g b0x toB a0u a0B b0h b0R a0L c0g b0b a0y c0s c0R e0S noR b0U RT.L kN kc d0B d0a chN g0N o0Q b0B rpL e0u
end
end Go.Proofs.YtemcankmggmgoaaGreat
namespace Go.Mv
open Go.RowKit
end Go.Mv
namespace Go.Proofs.YtemcankmggmgoaaGreat
section
open Go.RowKit Go.Mv Mvp Mvq
attribute [local irreducible] hRR f0p g0S PT.pt j0b
attribute [local irreducible] a0C lw mix cw b0k b0y b0j a0M a0n beN b0F a0P b0C a0J a0R elN mdL a0S rtV b0G a0H b0J b0q a0V c0P h0Z g0P a0E b0g b0x toB a0u a0B b0h b0R a0L c0g b0b a0y c0s c0R c0T d0B chN b0B b0I tS e0u b0e
end
section
open Go.RowKit Go.Mv Mvp Mvq
attribute [local irreducible] a0C lw mix cw b0k b0y b0j a0M a0n beN b0F a0P b0C a0J a0R elN mdL a0S rtV b0G a0H b0J b0q a0V c0P h0Z g0P a0E b0g b0x toB a0u a0B b0h b0R a0L c0g b0b a0y c0s c0R c0T d0B chN b0B b0I tS e0u b0e
end
section
open Go.RowKit Go.Mv Mvp Mvq
attribute [local irreducible] a0C lw mix cw b0k b0y b0j a0M a0n beN b0F a0P b0C a0J a0R elN mdL a0S rtV b0G a0H b0J b0q a0E b0g b0x toB a0u a0B b0h b0R a0L c0g b0b a0y c0s c0R e0S noR b0U RT.L kN kc d0B d0a chN g0N o0Q b0B rpL e0u hRR a0V
end
section
open Go.RowKit Go.Mv Mvp Mvq
attribute [local irreducible] a0C lw mix cw b0k b0y b0j a0M a0n beN b0F a0P b0C a0J a0R elN mdL a0S rtV b0G a0H b0J b0q a0E b0g b0x toB a0u a0B b0h b0R a0L c0g b0b a0y c0s c0R e0S noR b0U RT.L kN kc d0B d0a chN g0N o0Q b0B rpL
end
section
open Go.RowKit Go.Mv Mvp Mvq
attribute [local irreducible] a0C lw mix cw b0k b0y b0j a0M a0n beN b0F a0P b0C a0J a0R elN mdL a0S rtV b0G a0H b0J b0q a0E b0g b0x toB a0u a0B b0h b0R a0L c0g b0b a0y c0s c0R e0S noR b0U RT.L kN kc d0B d0a chN g0N o0Q b0B rpL e0u smC vsG vsB d0n a0V b0I
end
section
open Go.RowKit Go.Mv Mvp Mvq
attribute [local irreducible] a0C lw mix cw b0k b0y b0j a0M a0n beN b0F a0P b0C a0J a0R elN mdL a0S rtV b0G a0H b0J b0q a0E b0g b0x toB a0u a0B b0h b0R a0L c0g b0b a0y c0s c0R e0S noR b0U RT.L kN kc d0B d0a chN g0N o0Q b0B rpL smE smS vsB vsG
end
section
open Go.RowKit Go.Mv Mvp Mvq
theorem D0y {z : Nat} (h : z < mQ.M) : beN (a0P z) = z := by
 have h2 := k0r z
 rwa [Nat.mod_eq_of_lt h] at h2
theorem z0m {z : Nat} (h : z < mQ.M) : a0S mQ (a0P z) = true := by
 have h2 := g0Q z
 rwa [Nat.mod_eq_of_lt h] at h2
attribute [local irreducible] a0C lw mix cw b0k b0y b0j a0M a0n beN b0F a0P b0C a0J a0R elN mdL a0S rtV b0G a0H b0J b0q a0E b0g b0x toB a0u a0B b0h b0R a0L c0g b0b a0y c0s c0R e0S noR b0U RT.L kN kc d0B d0a chN g0N o0Q b0B rpL e0u
end
section
open Go.RowKit Go.Mv Mvp Mvq
noncomputable def bsS (key h : List UInt8) : List UInt8 := if (d0B key && b0B h) = true then a0H (a0E (beN key) (b0q h)) else []
theorem y0p {k h : List UInt8} (h1 : d0B k = true) (h2 : b0B h = true) : smE k h = 0 ∧ bsS k h = a0H (a0E (beN k) (b0q h)) := by unfold bsS; rw [h1, h2]; exact ⟨(v0n h1 h2).1, if_pos rfl⟩
theorem B0E {k h : List UInt8} (hn : (d0B k && b0B h) = false) : (smE k h != 0) = true ∧ bsS k h = [] ∧ smS k h = [] := by
 unfold bsS
 rw [hn]
 cases h1 : d0B k with
 | false => rw [(D0I (p := h) h1).1, (D0I (p := h) h1).2]; exact ⟨rfl, rfl, rfl⟩
 | true =>
  rw [h1, Bool.true_and] at hn
  rw [(D0H h1 hn).1, (D0H h1 hn).2]
  exact ⟨rfl, rfl, rfl⟩
theorem p0k {k : List UInt8} (h : d0B k = true) : a0S mQ k = true := by unfold d0B at h; rw [Bool.and_eq_true] at h; exact h.1
theorem B0F {key point : List UInt8} (hp : b0B point = true) (ha : b0B (a0H (a0E (beN key) gP)) = true) (hb : b0B (a0H (a0E (beN key) (b0q point))) = true) :
  vsB (a0H (a0E (beN key) gP)) point (a0H (a0E (beN key) (b0q point))) (a0P (smC key point) ++ a0P ((chN a0A [key, point] + smC key point * beN key) % mQ.M)) = true := by
 have hcl : smC key point < mQ.M := by unfold smC; exact l0N _ _ _ _ _
 have hzl : (chN a0A [key, point] + smC key point * beN key) % mQ.M < mQ.M := Nat.mod_lt _ mQ0
 have ht : (a0P (smC key point) ++ a0P ((chN a0A [key, point] + smC key point * beN key) % mQ.M)).take 32 = a0P (smC key point) := List.take_left' (a0X _)
 have hd : (a0P (smC key point) ++ a0P ((chN a0A [key, point] + smC key point * beN key) % mQ.M)).drop 32 = a0P ((chN a0A [key, point] + smC key point * beN key) % mQ.M) := List.drop_left' (a0X _)
 have hg : vsG (a0H (a0E (beN key) gP)) point (a0H (a0E (beN key) (b0q point))) (a0P (smC key point) ++ a0P ((chN a0A [key, point] + smC key point * beN key) % mQ.M)) = true := by
  unfold vsG b0I a0V
  rw [ht, hd]
  simp only [List.all_cons, List.all_nil, hp, ha, hb, z0m hcl, z0m hzl, List.length_append, a0X]
  rfl
 rw [z0k hg, ht, hd, D0y hcl, D0y hzl]
 have e1 : d0n ((chN a0A [key, point] + smC key point * beN key) % mQ.M) (smC key point) gP (b0q (a0H (a0E (beN key) gP))) = a0H (a0E (chN a0A [key, point]) gP) := by
  unfold d0n
  rw [(f0k (a0O f0n _)).2, p0d, u0u f0n]
 have e2 : d0n ((chN a0A [key, point] + smC key point * beN key) % mQ.M) (smC key point) (b0q point) (b0q (a0H (a0E (beN key) (b0q point)))) = a0H (a0E (chN a0A [key, point]) (b0q point)) := by
  unfold d0n
  rw [(f0k (a0O (l0q (f0S hp)) _)).2, p0d, u0u (l0q (f0S hp))]
 rw [e1, e2]
 exact decide_eq_true (by unfold smC; rfl)
attribute [local irreducible] a0C lw mix cw b0k b0y b0j a0M a0n beN b0F a0P b0C a0J a0R elN mdL a0S rtV b0G a0H b0J b0q a0E b0g b0x toB a0u a0B b0h b0R a0L c0g b0b a0y c0s c0R e0S noR b0U RT.L kN kc d0B d0a chN g0N o0Q b0B rpL e0u smC smE smS vsG vsB d0n a0V b0I bsS
theorem y0q (ak : Option Addr) (nk ck : Nat) (key : List UInt8) (ap : Option Addr) (np cp : Nat) (h : List UInt8) (w : World) (hkey : PartIs w (.slice ak nk ck) key) (hpt : PartIs w (.slice ap np cp) h) (hn : (d0B key && b0B h) = false) : Calls Tryz.prog 34 #[.slice ak nk ck, .slice ap np cp] w fun e w' => e = .returned (.tuple #[.slice none 0 0, .slice none 0 0, .int .i64 (smE key h)]) ∧ Fr Nob w w' := by
 have HK := qH hkey
 have HP := qH hpt
 have hE := (B0E hn).1
 clear hkey hpt hn
 go_enter Tryz.func34, Tryz.ntmps34
 go_wp2_with fail
 refine (j0t ak nk ck key ap np cp h _ HK.out HP.out).mono ?_
 rintro e' w1 ⟨v, rfl, ho, hf⟩
 clear ho HK HP
 generalize hge : smE key h = e at *
 have HGE := qH hge
 clear hge
 go_wp2_with fail
 go_ret3
 exact ⟨by rw [HGE.out]; rfl, hf⟩
theorem y0r (ak : Option Addr) (nk ck : Nat) (key : List UInt8) (ap : Option Addr) (np cp : Nat) (h : List UInt8) (w : World) (hkey : PartIs w (.slice ak nk ck) key) (hpt : PartIs w (.slice ap np cp) h) (h1 : d0B key = true) (h2 : b0B h = true) : Calls Tryz.prog 34 #[.slice ak nk ck, .slice ap np cp] w fun e w' => ∃ v u, e = .returned (.tuple #[v, u, .int .i64 0]) ∧ OwnB1 w w' v (a0H (a0E (beN key) (b0q h))) ∧ OwnB1 w w' u (smS key h) ∧ Fr Nob w w' := by
 have HK := qH hkey
 have HP := qH hpt
 have HE := qH (y0p h1 h2).1
 have HT := qH (t_ok (lk := key) (la := h) (p0k h1) (f0S h2))
 clear hkey hpt h1 h2
 go_enter Tryz.func34, Tryz.ntmps34
 go_wp2_with fail
 refine (j0t ak nk ck key ap np cp h _ HK.out HP.out).mono ?_
 rintro e' w1 ⟨u, rfl, ho, hf⟩
 rw [HE.out]
 have HU := qH ho
 have HF := qH hf
 clear ho hf
 go_wp2_with fail
 refine (h0W _ _ key h _ (b0t (HK.out.still HF.out)) (b0t (HP.out.still HF.out))).mono ?_
 rintro e' w2 ⟨v, rfl, ho, hf⟩
 rw [HT.out.2] at ho
 have HV := qH (OwnB1.back ho HF.out.size)
 have HU2 := qH (show OwnB1 w w2 u (smS key h) from Own.still HU.out hf)
 have hfr := HF.out.then hf
 clear ho hf HF HU HK HP
 go_wp2_with fail
 go_ret3
 exact ⟨v, u, rfl, HV.out, HU2.out, hfr⟩
theorem B0G (ak : Option Addr) (nk ck : Nat) (key : List UInt8) (ap : Option Addr) (np cp : Nat) (h : List UInt8) (w : World) (hkey : PartIs w (.slice ak nk ck) key) (hpt : PartIs w (.slice ap np cp) h) : Calls Tryz.prog 34 #[.slice ak nk ck, .slice ap np cp] w fun e w' => ∃ v u, e = .returned (.tuple #[v, u, .int .i64 (smE key h)]) ∧ OwnB1 w w' v (bsS key h) ∧ OwnB1 w w' u (smS key h) ∧ Fr Nob w w' := by
 cases hn : (d0B key && b0B h) with
 | false =>
  rw [(B0E hn).2.1, (B0E hn).2.2]
  exact (y0q ak nk ck key ap np cp h w hkey hpt hn).mono fun e w' k => ⟨_, _, k.1, OwnB1.nil _ _, OwnB1.nil _ _, k.2⟩
 | true =>
  rw [Bool.and_eq_true] at hn
  rw [(y0p hn.1 hn.2).1, (y0p hn.1 hn.2).2]
  exact y0r ak nk ck key ap np cp h w hkey hpt hn.1 hn.2
theorem B0H (aa : Option Addr) (na ca : Nat) (a : List UInt8) (ap : Option Addr) (np cp : Nat) (p : List UInt8) (ab : Option Addr) (nb cb : Nat) (b : List UInt8) (as_ : Option Addr) (ns cs : Nat) (s : List UInt8) (w : World) (ha : PartIs w (.slice aa na ca) a) (hp : PartIs w (.slice ap np cp) p) (hb : PartIs w (.slice ab nb cb) b) (hs : PartIs w (.slice as_ ns cs) s) :
  Calls Tryz.prog 35 #[.slice aa na ca, .slice ap np cp, .slice ab nb cb, .slice as_ ns cs] w fun e w' => e = .returned (.bool (vsB a p b s)) ∧ Fr Nob w w' := by
 have HA := qH ha
 have HP := qH hp
 have HB := qH hb
 have HS := qH hs
 clear ha hp hb hs
 go_enter Tryz.func35, Tryz.ntmps35
 go_wp2_with fail
 refine (n0G aa na ca a ap np cp p ab nb cb b as_ ns cs s _ HA.out HP.out HB.out HS.out).mono ?_
 rintro e' w1 ⟨rfl, hf⟩
 go_wp2_with fail
 go_ret
 exact ⟨rfl, hf⟩
end
section
open Go.RowKit Go.Mv Mvp Mvq
theorem v0E {p : Pt} (hp : onC p) (hO : p ≠ .O) {k : Nat} (h0 : 0 < k) (hk : k < qN) : a0E k p ≠ .O := by
 intro h
 have hq := C0X
 have hinv := FP.inv E0H (a := k) ap16 ap16
 have e1 : a0E (k * (k ^ (pQ - 2) % pQ)) p = .O := by rw [d0c hp, h, k0i]
 generalize k * (k ^ (pQ - 2) % pQ) = m at *
 rw [← hq] at hinv
 rw [← e0Q hp, hinv, v0a] at e1
 exact hO e1
open Classical in
theorem p0l {p : Pt} (hp : onC p) (h : p ≠ .O) : b0B (a0H p) = true := by
 have h2 := F0e (p := p)
 rw [decide_eq_false h] at h2
 unfold b0B
 rw [(f0k hp).1, decide_eq_false (fun h3 => by rw [h3] at h2; exact absurd h2 ap15)]
 rfl
theorem E0A : gP ≠ .O := by unfold gP; intro h; cases h
def scC (l : List UInt8) : List UInt8 := 0 :: ((l.take 30 ++ List.replicate (30 - l.length) 0) ++ [1])
theorem p0m (l : List UInt8) : (scC l).length = 32 := by simp [scC]; omega
theorem D0z (l : List UInt8) : beN (scC l) < 256 ^ 31 := by
 unfold scC
 rw [beN_cons]
 have h := t0j ((l.take 30 ++ List.replicate (30 - l.length) 0) ++ [1])
 have e : ((l.take 30 ++ List.replicate (30 - l.length) 0) ++ [(1 : UInt8)]).length = 31 := by simp; omega
 rw [e] at h
 simpa using h
theorem p0n (l : List UInt8) : a0S mQ (scC l) = true := by
 unfold a0S
 rw [p0m, decide_eq_true rfl, decide_eq_true (Nat.lt_trans (D0z l) E0X)]
 rfl
theorem B0I (l : List UInt8) : 0 < beN (scC l) := by
 refine Nat.pos_of_ne_zero fun h => ?_
 have h2 : scC l = List.replicate (scC l).length 0 := by first | exact beN_zero h | exact beN_zero _ h
 rw [p0m] at h2
 have h3 : (1 : UInt8) ∈ scC l := by simp [scC]
 rw [h2] at h3
 exact absurd (List.eq_of_mem_replicate h3) ap15
theorem B0J (l : List UInt8) : d0B (scC l) = true := by
 have h := B0I l
 unfold d0B
 rw [p0n, decide_eq_false ap16]
 rfl
attribute [local irreducible] a0E a0H b0q beN chN a0P gP
theorem v0F (l : List UInt8) : (splice (List.replicate 32 (Value.int .u8 0)) 1 (bs (l.take (min l.length 30)))).set 31 (.int .u8 1) = bs (scC l) := by
 have e : l.take (min l.length 30) = l.take 30 := by
  rcases Nat.le_total l.length 30 with h | h
  ·rw [Nat.min_eq_left h, List.take_of_length_le (Nat.le_refl _), List.take_of_length_le h]
  ·rw [Nat.min_eq_right h]
 rw [e]
 unfold splice scC
 rw [a0I, List.length_take]
 have h1 : List.drop (1 + min 30 l.length) (List.replicate 32 (Value.int .u8 0)) = bs (List.replicate (30 - l.length) 0) ++ [.int .u8 0] := by
  rw [List.drop_replicate, show 32 - (1 + min 30 l.length) = (30 - l.length) + 1 by omega, List.replicate_succ']; simp [bs]
 rw [h1]
 have h2 : (List.take 1 (List.replicate 32 (Value.int .u8 0)) ++ (bs (l.take 30) ++ (bs (List.replicate (30 - l.length) 0) ++ [Value.int .u8 0]))) = (([Value.int .u8 0] ++ bs (l.take 30) ++ bs (List.replicate (30 - l.length) 0))) ++ [Value.int .u8 0] := by simp
 have h3 : ([Value.int .u8 0] ++ bs (l.take 30) ++ bs (List.replicate (30 - l.length) 0)).length = 31 := by simp [a0I]; omega
 rw [h2, List.set_append_right _ _ (by rw [h3]; exact Nat.le_refl _), h3]
 simp [bs]
attribute [local irreducible] scC
end
section
open Go.RowKit Go.Mv Mvp Mvq
theorem v0G {p : Pt} (hp : onC p) (m n : Nat) : a0E m (a0E n p) = a0E n (a0E m p) := by rw [← d0c hp, ← d0c hp, Nat.mul_comm]
theorem B0K (K S R : List UInt8) (hk : d0B K = true) (hs : b0N S = true) (hr : a0S mQ R = true) (hne : blS S R ≠ List.replicate 33 0) : ∃ H A Q : List UInt8,
  (blS S R = H ∧ blE S R = 0 ∧ H.length = 33) ∧ (bsS K H = A ∧ smE K H = 0 ∧ A.length = 33) ∧ (smS K H = Q ∧ Q.length = 64 ∧ vsB (a0H (a0E (beN K) gP)) H A Q = true) ∧
  (unE R A (a0H (a0E (beN K) gP)) = 0 ∧ unS R A (a0H (a0E (beN K) gP)) = a0H (a0E (beN K) (lfP S))) := by
 have nk := p0k hk
 have k0 : 0 < beN K := by unfold d0B at hk; rw [Bool.and_eq_true] at hk; have := hk.2; simp at this; omega
 have kl : beN K < qN := d0Y nk
 have hb := v0w hs hr
 rw [hb.2] at hne
 have oX : onC (a0T (lfP S) (a0E (beN R) gP)) := c0r (j0x S) (a0O f0n _)
 have nX : a0T (lfP S) (a0E (beN R) gP) ≠ .O := fun h => hne (by rw [h, wrO])
 have r0 := p0l oX nX
 have r1 := p0l (a0O f0n (beN K)) (v0E f0n E0A k0 kl)
 have r2 := p0l (a0O oX (beN K)) (v0E oX nX k0 kl)
 have wX := (f0k oX).2
 have e1 : bsS K (a0H (a0T (lfP S) (a0E (beN R) gP))) = a0H (a0E (beN K) (a0T (lfP S) (a0E (beN R) gP))) := by rw [(y0p hk r0).2, wX]
 have hv := B0F (key := K) (point := a0H (a0T (lfP S) (a0E (beN R) gP))) r0 r1 (by rw [wX]; exact r2)
 rw [wX] at hv
 have a1 := f0k (a0O oX (beN K))
 have p1 := f0k (a0O f0n (beN K))
 have hu := D0n (s := a0H (a0E (beN K) (a0T (lfP S) (a0E (beN R) gP)))) (p := a0H (a0E (beN K) gP)) hr (by rw [a1.1, p1.1]; rfl)
 refine ⟨_, _, _, ⟨hb.2, hb.1, c0h _⟩, ⟨e1, (v0n hk r0).1, c0h _⟩, ⟨(v0n hk r0).2, by rw [List.length_append, a0X, a0X], hv⟩, hu.1, ?_⟩
 rw [hu.2, a1.2, p1.2, i0W (j0x S) (a0O f0n _), v0G f0n (beN K) (beN R), b0d (a0O (j0x S) _) (a0O (a0O f0n _) _) (c0i (a0O (a0O f0n _) _)), c0x, b0w]
attribute [local irreducible] scC
theorem g0T (s : ByteArray) (w : World) : Calls Tryz.prog 39 #[.string s] w fun e w' => ∃ g, e = .returned (.slice (some ⟨g, 0, none⟩) 32 32) ∧ PartIs w' (.slice (some ⟨g, 0, none⟩) 32 32) (scC s.data.toList) ∧ Fr Nob w w' := by
 go_enter Tryz.func39, Tryz.ntmps39
 go_wp2_with (first
  | (at_make; refine c0y rfl rfl Tryz.underlying22 b0K rfl rfl rfl 32 32 ap17 ap17 ap16 ap16 ap11 ?_; intro w1 hw1 hf1 hz1)
  | (with_reducible refine wSk 6 ?_))
 clear hz1
 generalize hg0 : w.heap.size = g at *
 have HG0 := qH hg0
 clear hg0
 refine h0n rfl rfl Tryz.underlying22 c0F rfl 1 31 ⟨_, rfl⟩ ⟨_, rfl⟩ ap15 ap15 ?_
 rw [show c0H (some ⟨g, 0, none⟩) 1 32 = some ⟨g, 1, none⟩ from rfl]
 go_wp2_with (with_reducible refine wSk 8 ?_)
 refine n0H rfl rfl Tryz.underlying22 c0F rfl rfl hw1 (by simp; omega) ?_
 intro w2 hw2 hf2 hz2
 clear hz2 hw1
 have hsz : s.size = s.data.toList.length := by simp
 rw [hsz] at hw2
 obtain ⟨v, hc, hfz⟩ := hw2.ready (i := 31) (by simp [splice, a0I]; omega)
 have hst := hw2.set 31 (.int .u8 1)
 rw [v0F] at hst
 have HST := qH hst
 have hf3 := hf1.new hf2 (by rw [HG0.out]; exact Nat.le_refl _)
 have hfr : Fr Nob w (w2.setCell ⟨g, 31, none⟩ (.int .u8 1)) := hf3.setCell g 31 none _ (fun h => absurd h (by rw [HG0.out]; exact Nat.lt_irrefl _))
 have FF := qH hfr
 clear hst hfr hw2 hf1 hf2 hf3 hsz
 go_wp2_with fail
 go_ret
 exact ⟨g, rfl, ⟨_, 32, 32, rfl, Nat.le_refl _, by decide, by have h := Rd.whole HST.out; rw [a0I, p0m] at h; exact h, fun x hx => by cases hx; exact HST.out.lt⟩, FF.out⟩
attribute [local irreducible] a0C lw mix cw b0k b0y b0j a0M a0n beN b0F a0P b0C a0J a0R elN mdL a0S rtV b0G a0H b0J b0q a0E b0g b0x toB a0u a0B b0h b0R a0L c0g b0b a0y c0s c0R e0S noR b0U RT.L kN kc d0B d0a chN g0N o0Q b0B rpL smE smS vsB vsG tS tC blE blS bsS unE unS vaB lfP
theorem v0H (ak : Option Addr) (nk ck : Nat) (K : List UInt8) (ap : Option Addr) (np cp : Nat) (s : ByteArray) (ar : Option Addr) (nr cr : Nat) (R : List UInt8) (w : World) (hsz : s.size ≤ 64) (hkp : PartIs w (.slice ak nk ck) K) (hpp : PartIs w (.slice ap np cp) (a0H (a0E (beN K) gP))) (hrp : PartIs w (.slice ar nr cr) R)
  (hk : d0B K = true) (hs : b0N s.data.toList = true) (hr : a0S mQ R = true) (hne : blS s.data.toList R ≠ List.replicate 33 0) :
  Calls Tryz.prog 40 #[.slice ak nk ck, .slice ap np cp, .string s, .slice ar nr cr] w fun e w' => ∃ v, e = .returned (.tuple #[v, .bool true]) ∧ BPart w' v (a0H (a0E (beN K) (lfP s.data.toList))) ∧ Fr Nob w w' := by
 obtain ⟨H, A, Q, ⟨a1, a2, a3⟩, ⟨b1, b2, b3⟩, ⟨c1, c2, c3⟩, d1, d2⟩ := B0K K s.data.toList R hk hs hr hne
 have HK := qH hkp
 have HP := qH hpp
 have HR := qH hrp
 have HSs := qH (show s.size ≤ 4096 by omega)
 have HB1 := qH a1
 have HB2 := qH a2
 have HB3 := qH a3
 have HA1 := qH b1
 have HA2 := qH b2
 have HA3 := qH b3
 have HQ1 := qH c1
 have HQ2 := qH c2
 have HV := qH c3
 have HU1 := qH d1
 have HU2 := qH d2
 clear hsz hkp hpp hrp hk hs hr hne a1 a2 a3 b1 b2 b3 c1 c2 c3 d1 d2
 have st0 := St.start Nob w
 go_enter Tryz.func40, Tryz.ntmps40
 go_wp2_with (with_reducible refine wSk 20 ?_)
 refine d0b (q := s) rfl rfl Tryz.underlying9 Tryz.underlying22 Tryz.underlying5 rfl (by have := HSs.out; unfold maxLen; omega) 0 (Nat.zero_le _) ?_
 intro caps w1 ho hf hz
 have st1 := st0.keep hf
 replace HK := qH (HK.out.still hf)
 replace HP := qH (HP.out.still hf)
 replace HR := qH (HR.out.still hf)
 clear hz
 have HPs := qH (c0d ho (by have := HSs.out; omega))
 clear hf st0
 clear ho
 obtain ⟨aas, nns, ccs, hes, kks⟩ := HPs.out
 cases hes
 clear kks
 go_wp2_with fail
 refine (B0v _ _ _ s.data.toList _ _ _ R _ HPs.out (d0N HR.out)).mono ?_
 rintro e' w2 ⟨v1, rfl, ho, hf⟩
 have st2 := st1.keep hf
 replace HK := qH (HK.out.still hf)
 replace HP := qH (HP.out.still hf)
 replace HR := qH (HR.out.still hf)
 replace HPs := qH (HPs.out.still hf)
 rw [HB1.out] at ho
 rw [HB2.out]
 have HH := qH (c0d ho (by rw [HB3.out]; decide))
 clear hf st1
 clear ho HPs
 obtain ⟨aah, nnh, cch, heh, kkh⟩ := HH.out
 cases heh
 clear kkh
 go_wp2_with fail
 refine (B0G _ _ _ K _ _ _ H _ HK.out HH.out).mono ?_
 rintro e' w3 ⟨v2, v3, rfl, ho, hu, hf⟩
 have st3 := st2.keep hf
 replace HK := qH (HK.out.still hf)
 replace HP := qH (HP.out.still hf)
 replace HR := qH (HR.out.still hf)
 replace HH := qH (HH.out.still hf)
 rw [HA1.out] at ho
 rw [HQ1.out] at hu
 rw [HA2.out]
 have HA := qH (OwnB1.ptb ho (by rw [HA3.out]; decide))
 have HQ := qH (OwnB1.ptb hu (by rw [HQ2.out]; decide))
 clear hf st2
 clear ho hu
 obtain ⟨aaa, nna, cca, hea, kka⟩ := HA.out
 cases hea
 clear kka
 obtain ⟨aaq, nnq, ccq, heq, kkq⟩ := HQ.out
 cases heq
 clear kkq
 go_wp2_with fail
 refine (B0H _ _ _ (a0H (a0E (beN K) gP)) _ _ _ H _ _ _ A _ _ _ Q _ HP.out HH.out HA.out HQ.out).mono ?_
 rintro e' w4 ⟨rfl, hf⟩
 have st4 := st3.keep hf
 replace HK := qH (HK.out.still hf)
 replace HP := qH (HP.out.still hf)
 replace HR := qH (HR.out.still hf)
 replace HH := qH (HH.out.still hf)
 replace HA := qH (HA.out.still hf)
 replace HQ := qH (HQ.out.still hf)
 rw [HV.out]
 clear hf st3
 go_wp2_with fail
 refine (v0b _ _ _ A _ _ _ R _ (a0H (a0E (beN K) gP)) _ (b0t HA.out) (d0N HR.out) (b0t HP.out)).mono ?_
 rintro e' w5 ⟨v4, rfl, ho, hf⟩
 have st5 := st4.keep hf
 replace HK := qH (HK.out.still hf)
 replace HP := qH (HP.out.still hf)
 replace HR := qH (HR.out.still hf)
 replace HH := qH (HH.out.still hf)
 replace HA := qH (HA.out.still hf)
 replace HQ := qH (HQ.out.still hf)
 rw [HU2.out] at ho
 rw [HU1.out]
 have HT := qH (ho)
 clear hf st4
 clear ho HA HQ HH HP HR HK
 obtain ⟨at_, nt, ct, rfl, ht1, ht2⟩ := HT.out
 have hlt : nt = 33 := by rw [← ht2.len, c0h]
 subst hlt
 clear ht1 ht2
 have hfr := st5.fr
 clear st5
 go_wp2_with fail
 go_ret2
 exact ⟨_, rfl, HT.out, hfr⟩
end
section
open Go.RowKit Go.Mv Mvp Mvq
theorem q0K (s : ByteArray) (R : List UInt8) (hs : s.size ≤ 4096) (w : World) : Calls Tryz.prog 38 #[.string s, .string (mkS R)] w fun e w' => e = .returned (.tuple #[.string (mkS (blS s.data.toList R)), .int .i64 (blE s.data.toList R)]) ∧ Fr Nob w w' := by
 have h := y0o s (mkS R) hs w
 rwa [b0o] at h
theorem y0s (K S : List UInt8) (hk : d0B K = true) (hs : b0N S = true) : (tS K (a0H gP) = a0H (a0E (beN K) gP) ∧ tC K (a0H gP) = 0) ∧ vaB K S (a0H (a0E (beN K) (lfP S))) = true := by
 have nk := p0k hk
 have k0 : beN K ≠ 0 := by unfold d0B at hk; rw [Bool.and_eq_true] at hk; have := hk.2; simpa using this
 have rG := f0k f0n
 refine ⟨⟨by unfold tS; rw [nk, rG.1, rG.2]; rfl, by unfold tC; rw [nk, rG.1]; rfl⟩, ?_⟩
 rw [E0O nk k0 hs]
 exact decide_eq_true rfl
attribute [local irreducible] a0C lw mix cw b0k b0y b0j a0M a0n beN b0F a0P b0C a0J a0R elN mdL a0S rtV b0G a0H b0J b0q a0E b0g b0x toB a0u a0B b0h b0R a0L c0g b0b a0y c0s c0R e0S noR b0U RT.L kN kc d0B d0a chN g0N o0Q b0B rpL smE smS vsB vsG tS tC scC blE blS bsS unE unS vaB lfP
theorem l0R (k s r q : ByteArray) (w : World) : Calls Tryz.prog 10 #[.string k, .string s, .string r, .string q] w fun e w' => e = .returned (.bool true) ∧ Fr Nob w w' := by
 obtain ⟨K, hK⟩ : ∃ K, scC k.data.toList = K := ⟨_, rfl⟩
 obtain ⟨R1, hR1⟩ : ∃ K, scC r.data.toList = K := ⟨_, rfl⟩
 obtain ⟨R2, hR2⟩ : ∃ K, scC q.data.toList = K := ⟨_, rfl⟩
 obtain ⟨Z, hZ⟩ : ∃ Z, List.replicate 33 (0 : UInt8) = Z := ⟨_, rfl⟩
 have HZZ := qH hZ
 clear hZ
 have HKK := qH hK
 have HER1 := qH hR1
 have HER2 := qH hR2
 have HKS := qH (show d0B K = true by rw [← hK]; exact B0J _)
 have HNR1 := qH (show a0S mQ R1 = true by rw [← hR1]; exact p0n _)
 have HNR2 := qH (show a0S mQ R2 = true by rw [← hR2]; exact p0n _)
 clear hK hR1 hR2
 have st0 := St.start Nob w
 go_enter Tryz.func10, Tryz.ntmps10
 by_cases hz : 64 < s.size
 ·have hJ : (64 : Int) < (s.size : Int) := by omega
  have hfr := st0.fr
  clear st0
  go_wp2_with fail
  go_ret
  exact ⟨rfl, hfr⟩
 have hI1 : ¬ ((64 : Int) < (s.size : Int)) := by omega
 by_cases hz2 : s.size < 1
 ·have hJ : (s.size : Int) < (1 : Int) := by omega
  have hfr := st0.fr
  clear st0
  go_wp2_with fail
  go_ret
  exact ⟨rfl, hfr⟩
 have hI2 : ¬ ((s.size : Int) < (1 : Int)) := by omega
 have HSs := qH (show s.size ≤ 4096 by omega)
 have HS64 := qH (show s.size ≤ 64 by omega)
 have HSEC := qH (show b0N s.data.toList = true by rw [q0J, decide_eq_true (show 1 ≤ s.size by omega), decide_eq_true (show s.size ≤ 64 by omega)]; rfl)
 have hta := y0s K s.data.toList HKS.out HSEC.out
 have HT0 := qH hta.1.1
 have HC0 := qH hta.1.2
 have HVA := qH hta.2
 clear hta hz hz2
 go_wp2_with (first | (at_make; refine c0y rfl rfl Tryz.underlying22 b0K rfl rfl rfl 33 33 ap17 ap17 ap16 ap16 ap11 ?_; intro w1 hw1 hf1 hz1) | (with_reducible refine wSk 31 ?_))
 have st1 := st0.keep hf1
 clear hz1 hf1 st0 hI1 hI2
 generalize w.heap.size = g9 at *
 have x0 := c0f (P := Tryz.prog) (show RdB w1 (some ⟨g9, 0, none⟩) 33 Z from by rw [← HZZ.out]; exact Rd.whole hw1) 33 Tryz.underlying22 Tryz.underlying5 Tryz.underlying9
 clear hw1
 unfold D0C
 go_wp2_with fail
 refine (g0T r _).mono ?_
 rintro e' w2 ⟨gb1, rfl, hp, hf⟩
 have st2 := st1.keep hf
 rw [HER1.out] at hp
 have HW1 := qH (hp)
 clear hf st1
 clear hp
 clear x0
 have x1 := c0f (P := Tryz.prog) (d0N HW1.out) 32 Tryz.underlying22 Tryz.underlying5 Tryz.underlying9
 go_wp2_with fail
 refine (q0K s R1 HSs.out _).mono ?_
 rintro e' w3 ⟨rfl, hf⟩
 have st3 := st2.keep hf
 replace HW1 := qH (HW1.out.still hf)
 clear hf st2
 clear x1 HW1
 generalize hb : blS s.data.toList R1 = B1 at *
 have HBB1 := qH hb
 clear hb
 go_wp2_with fail
 refine (g0T q _).mono ?_
 rintro e' w4 ⟨gb2, rfl, hp, hf⟩
 have st4 := st3.keep hf
 rw [HER2.out] at hp
 have HW2 := qH (hp)
 clear hf st3
 clear hp
 have x2 := c0f (P := Tryz.prog) (d0N HW2.out) 32 Tryz.underlying22 Tryz.underlying5 Tryz.underlying9
 go_wp2_with fail
 refine (q0K s R2 HSs.out _).mono ?_
 rintro e' w5 ⟨rfl, hf⟩
 have st5 := st4.keep hf
 replace HW2 := qH (HW2.out.still hf)
 clear hf st4
 clear x2 HW2
 generalize hb : blS s.data.toList R2 = B2 at *
 have HBB2 := qH hb
 clear hb
 by_cases hb1 : B1 = Z
 ·have hE1 : ((mkS B1).toList == (mkS Z).toList) = true := by rw [i0h]; exact decide_eq_true hb1
  have hfr := st5.fr
  clear st5 hb1
  go_wp2_with fail
  go_ret
  exact ⟨rfl, hfr⟩
 have hE1 : ((mkS B1).toList == (mkS Z).toList) = false := by rw [i0h]; exact decide_eq_false hb1
 have HN1 := qH hb1
 clear hb1
 by_cases hb2 : B2 = Z
 ·have hE2 : ((mkS B2).toList == (mkS Z).toList) = true := by rw [i0h]; exact decide_eq_true hb2
  have hfr := st5.fr
  clear st5 hb2
  go_wp2_with fail
  go_ret
  exact ⟨rfl, hfr⟩
 have hE2 : ((mkS B2).toList == (mkS Z).toList) = false := by rw [i0h]; exact decide_eq_false hb2
 have HN2 := qH hb2
 clear hb2
 go_wp2_with fail
 refine (g0T k _).mono ?_
 rintro e' w6 ⟨gk, rfl, hp, hf⟩
 have st6 := st5.keep hf
 rw [HKK.out] at hp
 have HK := qH (hp)
 clear hf st5
 clear hp hE1 hE2
 go_wp2_with fail
 refine (p0f _).mono ?_
 rintro e' w7 ⟨y1, rfl, hb, hf⟩
 have st7 := st6.keep hf
 replace HK := qH (HK.out.still hf)
 have HB := qH (hb)
 clear hf st6
 clear hb
 go_wp2_with fail
 refine (h0W _ _ K (a0H gP) _ (b0t HK.out) HB.out).mono ?_
 rintro e' w8 ⟨v1, rfl, ho, hf⟩
 have st8 := st7.keep hf
 replace HK := qH (HK.out.still hf)
 replace HB := qH (HB.out.still hf)
 rw [HT0.out] at ho
 rw [HC0.out]
 have HP := qH (OwnB1.ptb ho (by rw [c0h]; decide))
 clear hf st7
 clear ho HB
 obtain ⟨aap, nnp, ccp, hep, kkp⟩ := HP.out
 cases hep
 clear kkp
 go_wp2_with fail
 refine (g0T r _).mono ?_
 rintro e' w9 ⟨gc1, rfl, hp, hf⟩
 have st9 := st8.keep hf
 replace HK := qH (HK.out.still hf)
 replace HP := qH (HP.out.still hf)
 rw [HER1.out] at hp
 have HW1 := qH (hp)
 clear hf st8
 clear hp
 go_wp2_with fail
 refine (v0H _ _ _ K _ _ _ s _ _ _ R1 _ HS64.out HK.out HP.out HW1.out HKS.out HSEC.out HNR1.out (by rw [HBB1.out, HZZ.out]; exact HN1.out)).mono ?_
 rintro e' w10 ⟨t1, rfl, ho, hf⟩
 have st10 := st9.keep hf
 replace HK := qH (HK.out.still hf)
 replace HP := qH (HP.out.still hf)
 replace HW1 := qH (HW1.out.still hf)
 have HTK1 := qH (ho)
 clear hf st9
 clear ho HW1
 go_wp2_with fail
 refine (g0T q _).mono ?_
 rintro e' w11 ⟨gc2, rfl, hp, hf⟩
 have st11 := st10.keep hf
 replace HK := qH (HK.out.still hf)
 replace HP := qH (HP.out.still hf)
 replace HTK1 := qH (HTK1.out.still hf)
 rw [HER2.out] at hp
 have HW2 := qH (hp)
 clear hf st10
 clear hp
 go_wp2_with fail
 refine (v0H _ _ _ K _ _ _ s _ _ _ R2 _ HS64.out HK.out HP.out HW2.out HKS.out HSEC.out HNR2.out (by rw [HBB2.out, HZZ.out]; exact HN2.out)).mono ?_
 rintro e' w12 ⟨t2, rfl, ho, hf⟩
 have st12 := st11.keep hf
 replace HK := qH (HK.out.still hf)
 replace HP := qH (HP.out.still hf)
 replace HTK1 := qH (HTK1.out.still hf)
 replace HW2 := qH (HW2.out.still hf)
 have HTK2 := qH (ho)
 clear hf st11
 clear ho HW2
 clear HP
 go_wp2_with (with_reducible refine wSk 86 ?_)
 refine d0b (q := s) rfl rfl Tryz.underlying9 Tryz.underlying22 Tryz.underlying5 rfl (by have := HSs.out; unfold maxLen; omega) 0 (Nat.zero_le _) ?_
 intro caps w13 ho hf hz
 have st13 := st12.keep hf
 replace HK := qH (HK.out.still hf)
 replace HTK1 := qH (HTK1.out.still hf)
 replace HTK2 := qH (HTK2.out.still hf)
 clear hz
 have HPs := qH (c0d ho (by have := HSs.out; omega))
 clear hf st12
 clear ho
 obtain ⟨aas, nns, ccs, hes, kks⟩ := HPs.out
 cases hes
 clear kks
 obtain ⟨ta, tn, tc, rfl, ht1, ht2⟩ := HTK1.out
 obtain ⟨ua, un, uc, rfl, hu1, hu2⟩ := HTK2.out
 clear ht1 hu1 hu2
 go_wp2_with fail
 refine (B0z _ _ _ K _ _ _ s.data.toList _ _ _ (a0H (a0E (beN K) (lfP s.data.toList))) _ (d0N HK.out) (Nat.le_refl _) HPs.out ht2).mono ?_
 rintro e' w14 ⟨rfl, hf⟩
 have st14 := st13.keep hf
 replace HK := qH (HK.out.still hf)
 replace HTK1 := qH (HTK1.out.still hf)
 replace HTK2 := qH (HTK2.out.still hf)
 replace HPs := qH (HPs.out.still hf)
 rw [HVA.out]
 clear hf st13
 clear ht2 HPs HK
 obtain ⟨_, _, _, he, -, ht2⟩ := HTK1.out
 cases he
 obtain ⟨_, _, _, he, -, hu2⟩ := HTK2.out
 cases he
 generalize a0H (a0E (beN K) (lfP s.data.toList)) = T at *
 have x3 := c0f (P := Tryz.prog) ht2 tc Tryz.underlying22 Tryz.underlying5 Tryz.underlying9
 have x4 := c0f (P := Tryz.prog) hu2 uc Tryz.underlying22 Tryz.underlying5 Tryz.underlying9
 clear ht2 hu2 HTK1 HTK2
 have hfr := st14.fr
 clear st14
 go_wp2_with fail
 go_ret
 exact ⟨rfl, hfr⟩
end
end Go.Proofs.YtemcankmggmgoaaGreat
