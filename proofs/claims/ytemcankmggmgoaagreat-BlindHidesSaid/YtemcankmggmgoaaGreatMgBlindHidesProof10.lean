/- ; ; ; ; ; ; ; ; ; . -/
import Derived.Test.YtemcankmggmgoaaGreatMgBlindHidesProof7
import Derived.RangeFuncNested
import Derived.RangeFuncBound
import Derived.RangeFuncCalls
import Derived.RangeFuncLeaves
import Derived.Test.YtemcankmggmgoaaGreatMgBlindHidesProof9
import Derived.Deep.DeepCutAuto
import Derived.Test.YtemcankmggmgoaaGreatMgBlindHidesProof6
import Derived.Test.YtemcankmggmgoaaGreatMgBlindHidesProof8
import Derived.IntWalk
set_option maxHeartbeats 16000000
set_option maxRecDepth 1000000

namespace Go.Mv
open Go.RowKit
variable {P : Program} {ops : Array Oper} {Q : Exit → Act → World → Prop} {a : Act} {w : World} {rest : List Oper} {o : Oper} {n l : Nat}
def n0n (rest : List Oper) : Bool := rest.all fun o => match o.op with | .defer _ => false | _ => true
theorem p0X {o : Oper} (h : (match o.op with | .defer _ => false | _ => true) = true) : ∀ c, o.op ≠ .defer c := by
 intro c e
 rw [e] at h
 cases h
theorem s0J {row : String} {args : Array Value} {R : Value → World → Prop} (h : Rows P row args w R) : RowsIn (Fence.wide.inRound l) n P row args w R :=
 fun c cs _ => let ⟨v, w', r, s⟩ := h c cs; ⟨v, w', r, stepsIn_wide.2 s⟩
theorem p0Y {K : Act → World → Prop} (hd : ∀ c, o.op ≠ .defer c) (h : o.wp P a w K Q) : o.wpIn (Fence.wide.inRound l) n P a w K Q := by
 refine ⟨fun _ _ => trivial, ?_⟩
 have e : o.semAt (some l) a.eval = execOp a.eval o := Oper.semAt_eq _ _ _ hd
 show o.uponIn (Fence.wide.inRound l) n P a K Q ((o.semAt (some l) a.eval).run P w)
 rw [e]
 unfold Oper.wp at h
 generalize (execOp a.eval o).run P w = r at *
 cases r with
 | ok v w' =>
  cases v with
  | value v => exact h
  | skip => exact h
  | defer d => exact h
  | enter f args => exact ⟨fun h => by simp [Fence.wide] at h, CallsIn.inRound l (callsIn_wide.2 h)⟩
  | row row args => exact ⟨fun h => by simp [Fence.wide] at h, s0J h⟩
  | _ => exact h.elim
 | halt s w' =>
  cases s <;> first | exact h | exact h.elim
theorem i0l (hQ : ¬ LetsOut Q) : ∀ (rest : List Oper) (a : Act) (w : World), n0n rest = true → wpList P ops Q rest a w → wpListIn (Fence.wide.inRound l) n P ops Q rest a w
 | [], _, _, _, h => h
 | o :: rest, a, w, hd, h => by
  unfold n0n at hd
  rw [List.all_cons, Bool.and_eq_true] at hd
  unfold wpList at h
  unfold wpListIn
  by_cases hw : Region.wanted o (yielded ops a.tmps) = true
  ·rw [if_pos hw] at h ⊢
   rcases h with h | h
   ·exact p0Y (p0X hd.1) (Oper.wp_mono (fun a w k => i0l hQ rest a w hd.2 k) h)
   ·exact absurd h.2 hQ
  ·rw [if_neg hw] at h ⊢
   exact ⟨fun _ _ => trivial, i0l hQ rest _ w hd.2 h⟩
theorem i0m {id : Nat} {rest : List Oper} (hQ : ¬ LetsOut Q) (hd : n0n rest = true) (h : wpList P rest.toArray Q rest a w) : (Code.region id rest.toArray false).wpIn (Fence.wide.inRound l) n P Q a w :=
 wpIn_region_lit (i0l hQ rest a w hd h)
theorem g0G {v : Value} (hg : Region.wanted o (yielded ops a.tmps) = true) (_ : ∀ c, o.op ≠ .defer c) (hv : (execOp a.eval o).run P w = .ok (.value v) w) (h : wpListIn Fence.wide n P ops Q rest (a.put o.dst v) w) : wpListIn Fence.wide n P ops Q (o :: rest) a w := by
 unfold wpListIn
 rw [if_pos hg]
 refine ⟨fun _ _ => trivial, ?_⟩
 show o.uponIn Fence.wide n P a _ Q ((o.semAt none a.eval).run P w)
 rw [show o.semAt none a.eval = execOp a.eval o from Oper.semAt_none _ _, hv]
 exact h
theorem p0Z {f : FuncId} {tmps : Array Value} {assign body : Code} {R : Ending → World → Prop} (hg : Region.wanted o (yielded ops a.tmps) = true) (hv : (execOp a.eval o).run P w = .ok (.round l f tmps assign body) w)
  (hR : RoundIn Fence.wide (n - 1) P l f tmps assign body w R) (h : ∀ e w', R e w' → ∃ b, e = .returned b ∧ wpListIn Fence.wide n P ops Q rest (a.put o.dst b) w') : wpListIn Fence.wide n P ops Q (o :: rest) a w := by
 unfold wpListIn
 rw [if_pos hg]
 refine ⟨fun _ _ => trivial, ?_⟩
 show o.uponIn Fence.wide n P a _ Q ((o.semAt none a.eval).run P w)
 rw [show o.semAt none a.eval = execOp a.eval o from Oper.semAt_none _ _, hv]
 refine ⟨fun h => by simp [Fence.wide] at h, hR.mono fun e w' k => ?_⟩
 obtain ⟨b, rfl, h2⟩ := h e w' k
 exact h2
theorem i0y (n : Nat) {id : Nat} {rest : List Oper} (h : wpListIn Fence.wide n P rest.toArray Q rest a w) : (Code.region id rest.toArray false).wp P Q a w := wpIn_wide.1 (wpIn_region_lit h)
end Go.Mv
namespace Go.Mv
open Go.RowKit
theorem Fr.grown {a b : World} (h : Fr Nob a b) : a.grownBy b none := ⟨h.os, h.tape, h.output, h.size, fun k hk _ => h.block k hk id⟩
end Go.Mv
namespace Go.Proofs.YtemcankmggmgoaaGreat
open Go.RowKit Go.Mv Mvp Mvq
theorem v0i : (Tryz.prog.info? 22).map (fun i => (i.zero, i.size, i.bytes)) = some (some (.slice none 0 0), 1, 24) := by kernel_rfl
theorem y0j (lab b : List UInt8) (i : Nat) : hN lab b i = beN (g0n (d0x ++ lab) [b, [UInt8.ofNat i]]) := by unfold hN hB; rfl
theorem y0k (s : List UInt8) (ls : List (List UInt8)) (w : World) (base : Nat) (v : Value) (h : Go.Mv.Own w base 5 1 v 32 (bs (g0n s ls))) : ∃ a c, v = .slice a 32 c ∧ RdB w a 32 (g0n s ls) := by
 obtain ⟨a, c, rfl, -, hr, -⟩ := h.form
 rw [Nat.mul_one] at hr
 exact ⟨a, c, rfl, hr⟩
theorem B0n (lab b : List UInt8) (i : Nat) (hl : (g0n (d0x ++ lab) [b, [UInt8.ofNat i]]).length = 32) : hN lab b i < B64 ^ 4 := by
 rw [y0j]
 exact f0u _ (by omega)
theorem y0l (n y : Nat) (h : onC (.A (kc n) (kc y))) : (m0D n y h).L = cw 4 (elN mP n) ++ (cw 4 (elN mP y) ++ cw 4 (elN mP 1)) := rfl
attribute [local irreducible] a0G lw mix cw b0q b0y b0p a0K a0r beN b0F a0U b0D a0I a0R elN mdL b0m rtN rtV b0I gXn gYn PT.L k0q j0H e0N tbL tmR tmL dbN g0S g0y k0r dig rdT c0N e0i ptL g0H e0f b0g b0S c0t toB a0z a0T b0T e0h c0a d0s c0e a0N g0n hB hN d0t c0f atY d0b m0D
theorem j0g {o : Oper} {a : Act} {p q : Operand} {T U : TypeId} {s t : ByteArray} {r : List UInt8} (ho : o.op = .binOp .add T p q U) (hp : a.eval p = .string s) (hq : a.eval q = .string t) (_hT : Tryz.prog.underlying T = some .string) (h : s.size + t.size ≤ 10000000) (hr : s ++ t = mkS r) (w : World) :
  (execOp a.eval o).run Tryz.prog w = .ok (.value (.string (mkS r))) w := by
 have h3 : (binOp .add T (.string s) (.string t)).run Tryz.prog w = .ok (.string (s ++ t)) w := by
  have h4 : s.size + t.size ≤ 9223372036854775807 := by omega
  go_simp
 have h2 := d0a (P := Tryz.prog) ho hp hq w (by go_simp) h3
 rwa [hr] at h2
theorem j0h {w : World} {v : Value} {l : List UInt8} (h : PartIs w v l) : v.cells = #[v] := by
 obtain ⟨a, n, c, rfl, -⟩ := h
 rfl
theorem q0a {l : Nat} {vs : List Value} {nx : Next} {o : Oper} {a : Act} {w : World} {x : Operand} {xs : Array Operand} {ats : Array TypeId} (ho : o.op = .call { callee := .value x, args := xs, argTypes := ats }) (hx : a.eval x = .func (.yield l) #[] #[]) (ha : xs.toList.map a.eval = vs)
  (hy : (Instr.yield l vs.toArray).run Tryz.prog w = .ok nx w) : (execOp a.eval o).run Tryz.prog w = .ok nx w := by
 have ha2 : xs.map a.eval = vs.toArray := by rw [← ha]; simp [← Array.toList_map]
 unfold execOp
 simp only [ho, resolve, hx, ha2]
 simp [invoke, hy, go_sem]
theorem q0b (lab : ByteArray) (hsz : lab.size ≤ 100000) (g2 g3 : Nat) (va : Value) (b : List UInt8) (w : World) (h2 : Has w g2 [.string lab] 9) (h3 : Has w g3 [va] 22) (hb : PartIs w va b) :
  SeqStopsK Fence.wide 2 Tryz.prog 191 #[.pointer (some ⟨g2, 0, none⟩), .pointer (some ⟨g3, 0, none⟩)] (fun x : PT => #[.agg x.L.toArray]) (Below w.heap.size) (fun xs => xs = c0f lab.data.toList b 256) (fun pre => ∃ k x, k < 256 ∧ d0t lab.data.toList b k = some x ∧ pre = c0f lab.data.toList b k ++ [x]) 256 w := by
 intro l J Jx W hW hJ hJx hY h0
 refine callsIn_wide.2 ?_
 show Calls Tryz.prog 191 #[.func (.yield l) #[] #[], .pointer (some ⟨g2, 0, none⟩), .pointer (some ⟨g3, 0, none⟩)] W _
 have HY := qH hY
 have HJ := qH hJ
 have HJX := qH hJx
 have H0 := qH h0
 have HW := qH (Fr.ofBelow hW)
 have H2 := qH h2
 have H3 := qH h3
 have HB := qH hb
 have HSZ := qH hsz
 clear hY hJ hJx h0 hW h2 h3 hb hsz
 go_enter Tryz.func191, Tryz.ntmps191
 go_wp2
 go_loopw [8] (fun v wr => ∃ k : Nat, k ≤ 256 ∧ v = .int .i64 (k : Int) ∧ J (c0f lab.data.toList b k) wr ∧ Fr Nob w wr ∧ W.heap.size ≤ wr.heap.size) (fun v _ => 256 - (intOf v).toNat)
 case atStart => exact ⟨0, Nat.zero_le _, rfl, by rw [j0c]; exact H0.out, HW.out, Nat.le_refl _⟩
 case round =>
  obtain ⟨k, hk, rfl, hJk, hfk, hWk⟩ := hrel
  have HJK := qH hJk
  have HFK := qH hfk
  have HWK := qH hWk
  clear hJk hfk hWk
  by_cases hlt : k < 256
  ·have hltI : (k : Int) < 256 := by omega
   have hk0 : (0 : Int) ≤ (k : Int) := by omega
   have hk8 : (k : Int) % 256 = (k : Int) := by omega
   have HLT := qH hlt
   clear hlt hk
   have hc2 := (H2.out.keep HFK.out id).cell (show [Value.string lab][0]? = _ from rfl)
   have hc3 := (H3.out.keep HFK.out id).cell (show [va][0]? = _ from rfl)
   go_wp2_with (with_reducible refine wSk 12 ?_)
   refine e0v rfl (j0g rfl rfl rfl Tryz.underlying9 (by have h : (⟨#[112, 111, 105, 110, 116, 32]⟩ : ByteArray).size = 6 := rfl; rw [h]; have := HSZ.out; omega) (s0D lab) _) ?_
   go_wp2_with (with_reducible refine wSk 16 ?_)
   refine q0D rfl rfl Tryz.underlying22 b0u [.int .u8 (k : Int)] rfl (by intro u hu; simp only [List.mem_singleton] at hu; subst hu; rfl) rfl rfl ?_
   intro wa hga hfa hza
   clear hza hc2 hc3
   have hgb : Has wa wr.heap.size (bs [UInt8.ofNat k]) 5 := by
    have e : [Value.int .u8 (k : Int)] = bs [UInt8.ofNat k] := by
     show _ = [Value.int .u8 ((UInt8.ofNat k).toNat : Int)]
     rw [UInt8.toNat_ofNat', Nat.mod_eq_of_lt HLT.out]
    rw [e] at hga
    exact hga
   have hpb : PartIs wa (.slice (some ⟨wr.heap.size, 0, none⟩) 1 1) [UInt8.ofNat k] := ⟨_, 1, 1, rfl, Nat.le_refl _, by omega, Rd.whole hgb, fun x hx => by simp only [Option.some.injEq] at hx; subst hx; exact hgb.lt⟩
   have HPB := qH hpb
   have HFA := qH hfa
   have HPA := qH (HB.out.still (HFK.out.then hfa))
   have HVC := qH (j0h HB.out)
   clear hga hfa hgb hpb
   generalize hg16 : wr.heap.size = g16 at *
   have HG16 := qH hg16
   clear hg16
   go_wp2_with (with_reducible refine wSk 17 ?_)
   refine q0D (vs := [va, .slice (some ⟨g16, 0, none⟩) 1 1]) (hgd := rfl) (ho := rfl) (hu := Tryz.underlying39) (hi0 := v0i) (hp := by rfl) (hv := fun u hu => by
    simp only [List.mem_cons, List.not_mem_nil, or_false] at hu
    rcases hu with rfl | rfl
    ·exact HVC.out
    ·rfl) (hk := by rfl) (hz := by rfl) (h := ?_)
   intro wb hgb hfb hzb
   clear hzb
   have hps : Parts wb [va, .slice (some ⟨g16, 0, none⟩) 1 1] [b, [UInt8.ofNat k]] := ⟨HPA.out.still hfb, HPB.out.still hfb, trivial⟩
   have HPS := qH (hps.at hgb)
   have HFB := qH (HFA.out.then hfb)
   clear hgb hfb hps HPA HPB HFA
   generalize wa.heap.size = g17 at *
   go_wp2_with fail
   refine (y0b (mkS (d0x ++ lab.data.toList)) _ _ [b, [UInt8.ofNat k]] _ (by rw [a0Q]; have := HSZ.out; simp [d0x]; omega) (by simp) HPS.out).mono ?_
   rintro e wc ⟨vt, rfl, ho, hf⟩
   rw [b0n] at ho
   obtain ⟨at_, ct, hvt, hrt⟩ := y0k _ _ _ _ _ ho
   subst hvt
   have HRT := qH hrt
   have HFC := qH (HFB.out.then hf)
   clear ho hf hrt HFB HPS
   have hnl := B0n lab.data.toList b k (by have := HRT.out.len; exact this)
   have hni := y0j lab.data.toList b k
   generalize hn : hN lab.data.toList b k = n at *
   have HNL := qH hnl
   have HNN := qH hn
   have HNI := qH hni
   clear hnl hn hni
   go_wp2_with fail
   refine (c0p at_ 32 ct _ _ HRT.out (by decide)).mono ?_
   rintro e wd ⟨rfl, hf⟩
   rw [← HNI.out]
   have HFD := qH (HFC.out.then hf)
   clear hf HFC HRT
   have st0 := St.start Nob wd
   go_wp2_with (with_reducible refine wSk 5 ?_)
   refine a0c st0 rfl rfl (z := zAd) (by kernel_rfl) (cw 4 0) (by rw [a0g]; rfl) ?_
   intro g5 w1 st1
   clear st0
   go_wp2_with (with_reducible refine wSn ?_)
   refine a0d st1 0 rfl rfl rfl rfl rfl (by first | (simp only [a0a]; done) | (simp only [List.length_append, a0a, PT.len, a0w]; done)) (by first | (rw [a0a]; kernel_rfl) | (rw [PT.len]; kernel_rfl) | (rw [a0w]; kernel_rfl) | (simp only [List.length_append, a0a]; kernel_rfl) | (simp only [List.length_append, a0a, PT.len, a0w]; kernel_rfl)) (a0j _ _) ?_
   intro w2 st2
   clear st1
   by_cases hd : n < mP.M
   ·have HD := qH (show decide (n < mP.M) = true from decide_eq_true hd)
    have HLM := qH hd
    clear hd
    go_wp2_with fail
    refine wp_region_noPanic ?_
    refine a0f st2 9 [.t 0, .c 1, .w 2, .w 3, .c 4, .w 5, .w 6, .c 7, .c 8] (.m 9 .nil) (by kernel_rfl) (by kernel_rfl) (fun _ _ _ _ _ h => h) ?_
    clear st2
    refine a0e rfl rfl rfl (fun _ => rfl) (cw 4 n) (fun wx hS => St.rangeL hS 0 rfl 0 _ dZl) Tryz.underlying111 rfl (by first | (rw [a0a]; kernel_rfl) | (rw [PT.len]; kernel_rfl) | (rw [a0w]; kernel_rfl) | (simp only [List.length_append, a0a]; kernel_rfl) | (simp only [List.length_append, a0a, PT.len, a0w]; kernel_rfl)) ?_
    try simp only [clL]
    refine c0c (X := Nat × Nat) (fun y => .pointer (some ⟨y.1, 0, none⟩)) (fun y w => Has w y.1 (d0A mP y.2 gXn gYn) 125 ∧ Has w y.2 (mdL mP) 187) (fun _ _ _ h k => ⟨h.1.keep k id, h.2.keep k id⟩) rfl rfl rfl Tryz.call86 (fun w hS hR => i0k _) (fun _ => rfl) fun y1 => ?_
    try simp only [clL]
    refine a0n (v := ?_) rfl rfl (fun xq wx => ?_) ?_
    rotate_left 1
    ·(go_simp; with_reducible rfl)
    try simp only [clL]
    refine a0n (v := ?_) rfl rfl (fun xq wx => ?_) ?_
    rotate_left 1
    ·(go_simp; with_reducible rfl)
    try simp only [clL]
    refine p0x (v := ?_) rfl rfl (fun xq wx hS hR => ?_) ?_
    rotate_left 1
    ·(have hc := (hR.2).1.cell (show (d0A mP y1.2 gXn gYn)[0]? = some (.pointer (some ⟨y1.2, 0, none⟩)) from rfl); clear hS hR; go_simp; with_reducible rfl)
    try simp only [clL]
    refine a0n (v := ?_) rfl rfl (fun xq wx => ?_) ?_
    rotate_left 1
    ·(go_simp; with_reducible rfl)
    try simp only [clL]
    refine a0n (v := ?_) rfl rfl (fun xq wx => ?_) ?_
    rotate_left 1
    ·(go_simp; with_reducible rfl)
    try simp only [clL]
    refine p0x (v := ?_) rfl rfl (fun xq wx hS hR => ?_) ?_
    rotate_left 1
    ·(refine e0L (hR.2).2 (x := .tmp 26) (p := 0) ?_ ?_ (cw 4 mP.M) (k0J mP) Tryz.underlying111 rfl ?_; rfl; rfl; (rw [a0a]; kernel_rfl))
    try simp only [clL]
    refine a0b rfl rfl rfl Tryz.call145 (fun w hS hR => f0b n mP.M _ HNL.out b0K.lt true HD.out) (fun _ => rfl) ?_
    try simp only [clL]
    refine a0t fun xq w3 st3 hR => ?_
    try dsimp only
    clear hR xq
    refine a0o rfl rfl ?_
    go_simp
    try simp only [clL]
    refine a0i ?_
    refine NoPanic.normal ?_
    rcases hr : b0I mP.M (d0b n) with _ | _
    ·have HR := qH hr
     have HC := qH (h0e HNN.out (fun h => by rw [hr] at h; exact absurd h.2 (by decide)))
     clear hr
     go_wp2_with fail
     refine wp_region_noPanic ?_
     refine a0f st3 13 [.o 11, .t 5, .c 0, .c 1, .w 2, .w 3, .c 4, .c 6, .c 7, .w 8, .w 9, .w 10, .j 11] (.r 12 (.m 13 .nil)) (by kernel_rfl) (by kernel_rfl) (fun _ _ _ _ _ h => h) ?_
     clear st3
     refine b0j rfl rfl rfl A0T (cw 12 0) rfl ?_
     try simp only [clL]
     refine a0e rfl rfl rfl (fun _ => rfl) (cw 4 n) (fun wx hS => St.rangeL hS 0 rfl 0 _ dZl) Tryz.underlying111 rfl (by first | (rw [a0a]; kernel_rfl) | (rw [PT.len]; kernel_rfl) | (rw [a0w]; kernel_rfl) | (simp only [List.length_append, a0a]; kernel_rfl) | (simp only [List.length_append, a0a, PT.len, a0w]; kernel_rfl)) ?_
     try simp only [clL]
     refine c0c (X := Nat × Nat) (fun y => .pointer (some ⟨y.1, 0, none⟩)) (fun y w => Has w y.1 (d0A mP y.2 gXn gYn) 125 ∧ Has w y.2 (mdL mP) 187) (fun _ _ _ h k => ⟨h.1.keep k id, h.2.keep k id⟩) rfl rfl rfl Tryz.call86 (fun w hS hR => i0k _) (fun _ => rfl) fun y2 => ?_
     try simp only [clL]
     refine c0c (X := Nat × Nat) (fun y => .pointer (some ⟨y.1, 0, none⟩)) (fun y w => Has w y.1 (d0A mP y.2 gXn gYn) 125 ∧ Has w y.2 (mdL mP) 187) (fun _ _ _ h k => ⟨h.1.keep k id, h.2.keep k id⟩) rfl rfl rfl Tryz.call86 (fun w hS hR => i0k _) (fun _ => rfl) fun y3 => ?_
     try simp only [clL]
     refine a0n (v := ?_) rfl rfl (fun xq wx => ?_) ?_
     rotate_left 1
     ·(go_simp; with_reducible rfl)
     try simp only [clL]
     refine a0n (v := ?_) rfl rfl (fun xq wx => ?_) ?_
     rotate_left 1
     ·(go_simp; with_reducible rfl)
     try simp only [clL]
     refine p0x (v := ?_) rfl rfl (fun xq wx hS hR => ?_) ?_
     rotate_left 1
     ·(have hc := (hR.2).1.cell (show (d0A mP y3.2 gXn gYn)[0]? = some (.pointer (some ⟨y3.2, 0, none⟩)) from rfl); clear hS hR; go_simp; with_reducible rfl)
     try simp only [clL]
     refine a0b rfl rfl rfl Tryz.call147 (fun w hS hR => d0z mP y3.2 _ b0K hR.2.2 n HNL.out) (fun _ => rfl) ?_
     try simp only [clL]
     refine a0b rfl rfl rfl Tryz.call184 (fun w hS hR => v0X mP y2.1 y2.2 gXn gYn _ b0K hR.1.2.1 hR.1.2.2 n false HR.out) (fun _ => rfl) ?_
     try simp only [clL]
     refine a0n (v := ?_) rfl rfl (fun xq wx => ?_) ?_
     rotate_left 1
     ·(go_simp; with_reducible rfl)
     try simp only [clL]
     refine a0n (v := ?_) rfl rfl (fun xq wx => ?_) ?_
     rotate_left 1
     ·(go_simp; with_reducible rfl)
     try simp only [clL]
     refine a0n (v := ?_) rfl rfl (fun xq wx => ?_) ?_
     rotate_left 1
     ·(go_simp; with_reducible rfl)
     try simp only [clL]
     refine b0c List.mem_cons_self fun g6 => ?_
     simp only [upd, reduceIte]
     try simp only [Nat.reduceEqDiff, reduceIte]
     refine a0t fun xq w4 st4 hR => ?_
     try dsimp only
     clear hR xq
     refine a0A rfl rfl ?_
     refine a0h st4 1 rfl rfl rfl rfl (by first | (simp only [a0a]; done) | (simp only [List.length_append, a0a]; done)) (by first | (rw [a0a]; kernel_rfl) | (simp only [List.length_append, a0a]; kernel_rfl)) (a0X _ _ _) ?_
     intro w5 st5
     repeat (first | simp only [List.cons_append] at st5 | simp only [List.nil_append] at st5 | simp only [List.set_cons_succ] at st5 | simp only [List.set_cons_zero] at st5)
     clear st4
     refine ⟨by first | exact st5 | exact St.less st5 (by simp), ?_⟩
     try simp only [Act.put]
     refine a0o rfl rfl ?_
     go_simp
     try simp only [clL]
     refine a0i ?_
     refine NoPanic.normal ?_
     have HFE := qH (HFD.out.then st5.fr)
     clear st5
     go_wp2_with fail
     go_roundw
     case rel => exact ⟨k + 1, by have := HLT.out; omega, by go_num, by rw [f0X HC.out]; exact HJ.out _ _ _ none HJK.out HFE.out.grown (fun r e => by cases e), HFK.out.then HFE.out, Nat.le_trans (by have h := HWK.out; rw [← HG16.out] at h; exact h) HFE.out.size⟩
     case measure => have := HLT.out; simp [intOf]; omega
    ·have HR := qH hr
     have hon := A0O hr
     have HC := qH (show d0t lab.data.toList b k = some (m0D n (atY mP.M n) hon) from l0Q HNN.out HLM.out hr)
     clear hr
     go_wp2_with fail
     refine wp_region_noPanic ?_
     refine a0f st3 13 [.o 11, .t 5, .c 0, .c 1, .w 2, .w 3, .c 4, .c 6, .c 7, .w 8, .w 9, .w 10, .j 11] (.r 12 (.m 13 .nil)) (by kernel_rfl) (by kernel_rfl) (fun _ _ _ _ _ h => h) ?_
     clear st3
     refine b0j rfl rfl rfl A0T (cw 12 0) rfl ?_
     try simp only [clL]
     refine a0e rfl rfl rfl (fun _ => rfl) (cw 4 n) (fun wx hS => St.rangeL hS 0 rfl 0 _ dZl) Tryz.underlying111 rfl (by first | (rw [a0a]; kernel_rfl) | (rw [PT.len]; kernel_rfl) | (rw [a0w]; kernel_rfl) | (simp only [List.length_append, a0a]; kernel_rfl) | (simp only [List.length_append, a0a, PT.len, a0w]; kernel_rfl)) ?_
     try simp only [clL]
     refine c0c (X := Nat × Nat) (fun y => .pointer (some ⟨y.1, 0, none⟩)) (fun y w => Has w y.1 (d0A mP y.2 gXn gYn) 125 ∧ Has w y.2 (mdL mP) 187) (fun _ _ _ h k => ⟨h.1.keep k id, h.2.keep k id⟩) rfl rfl rfl Tryz.call86 (fun w hS hR => i0k _) (fun _ => rfl) fun y2 => ?_
     try simp only [clL]
     refine c0c (X := Nat × Nat) (fun y => .pointer (some ⟨y.1, 0, none⟩)) (fun y w => Has w y.1 (d0A mP y.2 gXn gYn) 125 ∧ Has w y.2 (mdL mP) 187) (fun _ _ _ h k => ⟨h.1.keep k id, h.2.keep k id⟩) rfl rfl rfl Tryz.call86 (fun w hS hR => i0k _) (fun _ => rfl) fun y3 => ?_
     try simp only [clL]
     refine a0n (v := ?_) rfl rfl (fun xq wx => ?_) ?_
     rotate_left 1
     ·(go_simp; with_reducible rfl)
     try simp only [clL]
     refine a0n (v := ?_) rfl rfl (fun xq wx => ?_) ?_
     rotate_left 1
     ·(go_simp; with_reducible rfl)
     try simp only [clL]
     refine p0x (v := ?_) rfl rfl (fun xq wx hS hR => ?_) ?_
     rotate_left 1
     ·(have hc := (hR.2).1.cell (show (d0A mP y3.2 gXn gYn)[0]? = some (.pointer (some ⟨y3.2, 0, none⟩)) from rfl); clear hS hR; go_simp; with_reducible rfl)
     try simp only [clL]
     refine a0b rfl rfl rfl Tryz.call147 (fun w hS hR => d0z mP y3.2 _ b0K hR.2.2 n HNL.out) (fun _ => rfl) ?_
     try simp only [clL]
     refine a0b rfl rfl rfl Tryz.call184 (fun w hS hR => v0X mP y2.1 y2.2 gXn gYn _ b0K hR.1.2.1 hR.1.2.2 n true HR.out) (fun _ => rfl) ?_
     try simp only [clL]
     refine a0n (v := ?_) rfl rfl (fun xq wx => ?_) ?_
     rotate_left 1
     ·(go_simp; with_reducible rfl)
     try simp only [clL]
     refine a0n (v := ?_) rfl rfl (fun xq wx => ?_) ?_
     rotate_left 1
     ·(go_simp; with_reducible rfl)
     try simp only [clL]
     refine a0n (v := ?_) rfl rfl (fun xq wx => ?_) ?_
     rotate_left 1
     ·(go_simp; with_reducible rfl)
     try simp only [clL]
     refine b0c List.mem_cons_self fun g6 => ?_
     simp only [upd, reduceIte]
     try simp only [Nat.reduceEqDiff, reduceIte]
     refine a0t fun xq w4 st4 hR => ?_
     try dsimp only
     clear hR xq
     refine a0A rfl rfl ?_
     refine a0h st4 1 rfl rfl rfl rfl (by first | (simp only [a0a]; done) | (simp only [List.length_append, a0a]; done)) (by first | (rw [a0a]; kernel_rfl) | (simp only [List.length_append, a0a]; kernel_rfl)) (a0X _ _ _) ?_
     intro w5 st5
     repeat (first | simp only [List.cons_append] at st5 | simp only [List.nil_append] at st5 | simp only [List.set_cons_succ] at st5 | simp only [List.set_cons_zero] at st5)
     clear st4
     refine ⟨by first | exact st5 | exact St.less st5 (by simp), ?_⟩
     try simp only [Act.put]
     refine a0o rfl rfl ?_
     go_simp
     try simp only [clL]
     refine a0i ?_
     refine NoPanic.normal ?_
     have HAF := qH (y0l n (atY mP.M n) hon)
     have HFE := qH (HFD.out.then st5.fr)
     obtain ⟨fnn, tmps, assign, body, hy, hR⟩ := HY.out (c0f lab.data.toList b k) (m0D n (atY mP.M n) hon) w5 (HJ.out _ _ _ none HJK.out HFE.out.grown (fun r e => by cases e)) (Nat.lt_of_le_of_lt (s0C _ _ _) HLT.out)
     rw [HAF.out] at hy
     have HHY := qH hy
     have HRR := qH hR
     have HPT := qH (st5.at 1 rfl)
     clear hy hR st5
     go_upto_region 6 with fail
     refine i0y 2 ?_
     refine g0G rfl (fun c h => by cases h) (by go_simp; with_reducible rfl) ?_
     try simp only [clL]
     refine g0G rfl (fun c h => by cases h) (by go_simp; with_reducible rfl) ?_
     try simp only [clL]
     refine g0G rfl (fun c h => by cases h) (by go_simp; with_reducible rfl) ?_
     try simp only [clL]
     refine g0G rfl (fun c h => by cases h) (e0L HPT.out rfl rfl (cw 4 (elN mP n) ++ (cw 4 (elN mP (atY mP.M n)) ++ cw 4 (elN mP 1))) dZl Tryz.underlying117 rfl (by first | (rw [a0a]; kernel_rfl) | (simp only [List.length_append, a0a]; kernel_rfl))) ?_
     try simp only [clL]
     refine p0Z rfl (q0a (vs := [.agg (cw 4 (elN mP n) ++ (cw 4 (elN mP (atY mP.M n)) ++ cw 4 (elN mP 1))).toArray]) rfl rfl rfl HHY.out) HRR.out ?_
     rintro e W3 (⟨rfl, hJ3, hK3⟩ | ⟨rfl, hJx3⟩)
     ·refine ⟨_, rfl, ?_⟩
      try simp only [clL]
      refine g0G rfl (fun c h => by cases h) (by go_simp; with_reducible rfl) ?_
      try simp only [clL]
      refine g0G rfl (fun c h => by cases h) (by go_simp; with_reducible rfl) ?_
      try simp only [clL]
      refine wpListIn_nil ?_
      have hF3 : Fr Nob w W3 := Fr.ofBelow ((HFK.out.then HFE.out).below.trans hK3)
      have HF3 := qH hF3
      have HS3 := qH (Nat.le_trans (by have h := HWK.out; rw [← HG16.out] at h; exact h) (Nat.le_trans HFE.out.size hK3.size))
      have HJ3 := qH hJ3
      clear hJ3 hK3 hF3
      go_wp2_with fail
      go_roundw
      case rel => exact ⟨k + 1, by have := HLT.out; omega, by go_num, by rw [i0j HC.out]; exact HJ3.out, HF3.out, HS3.out⟩
      case measure => have := HLT.out; simp [intOf]; omega
     ·refine ⟨_, rfl, ?_⟩
      try simp only [clL]
      refine g0G rfl (fun c h => by cases h) (by go_simp; with_reducible rfl) ?_
      try simp only [clL]
      refine g0G rfl (fun c h => by cases h) (by go_simp; with_reducible rfl) ?_
      try simp only [clL]
      refine wpListIn_nil ?_
      have HJX3 := qH hJx3
      clear hJx3
      go_wp2_with fail
      refine bodyPost_ret (results_none rfl _ _ _) rfl ?_
      exact ⟨⟨_, rfl⟩, .inr ⟨_, ⟨k, _, HLT.out, HC.out, rfl⟩, HJX3.out⟩⟩
   ·have HD := qH (show decide (n < mP.M) = false from decide_eq_false hd)
    have HC := qH (h0e HNN.out (fun h => hd h.1))
    clear hd
    go_wp2_with fail
    refine wp_region_noPanic ?_
    refine a0f st2 9 [.t 0, .c 1, .w 2, .w 3, .c 4, .w 5, .w 6, .c 7, .c 8] (.m 9 .nil) (by kernel_rfl) (by kernel_rfl) (fun _ _ _ _ _ h => h) ?_
    clear st2
    refine a0e rfl rfl rfl (fun _ => rfl) (cw 4 n) (fun wx hS => St.rangeL hS 0 rfl 0 _ dZl) Tryz.underlying111 rfl (by first | (rw [a0a]; kernel_rfl) | (rw [PT.len]; kernel_rfl) | (rw [a0w]; kernel_rfl) | (simp only [List.length_append, a0a]; kernel_rfl) | (simp only [List.length_append, a0a, PT.len, a0w]; kernel_rfl)) ?_
    try simp only [clL]
    refine c0c (X := Nat × Nat) (fun y => .pointer (some ⟨y.1, 0, none⟩)) (fun y w => Has w y.1 (d0A mP y.2 gXn gYn) 125 ∧ Has w y.2 (mdL mP) 187) (fun _ _ _ h k => ⟨h.1.keep k id, h.2.keep k id⟩) rfl rfl rfl Tryz.call86 (fun w hS hR => i0k _) (fun _ => rfl) fun y1 => ?_
    try simp only [clL]
    refine a0n (v := ?_) rfl rfl (fun xq wx => ?_) ?_
    rotate_left 1
    ·(go_simp; with_reducible rfl)
    try simp only [clL]
    refine a0n (v := ?_) rfl rfl (fun xq wx => ?_) ?_
    rotate_left 1
    ·(go_simp; with_reducible rfl)
    try simp only [clL]
    refine p0x (v := ?_) rfl rfl (fun xq wx hS hR => ?_) ?_
    rotate_left 1
    ·(have hc := (hR.2).1.cell (show (d0A mP y1.2 gXn gYn)[0]? = some (.pointer (some ⟨y1.2, 0, none⟩)) from rfl); clear hS hR; go_simp; with_reducible rfl)
    try simp only [clL]
    refine a0n (v := ?_) rfl rfl (fun xq wx => ?_) ?_
    rotate_left 1
    ·(go_simp; with_reducible rfl)
    try simp only [clL]
    refine a0n (v := ?_) rfl rfl (fun xq wx => ?_) ?_
    rotate_left 1
    ·(go_simp; with_reducible rfl)
    try simp only [clL]
    refine p0x (v := ?_) rfl rfl (fun xq wx hS hR => ?_) ?_
    rotate_left 1
    ·(refine e0L (hR.2).2 (x := .tmp 26) (p := 0) ?_ ?_ (cw 4 mP.M) (k0J mP) Tryz.underlying111 rfl ?_; rfl; rfl; (rw [a0a]; kernel_rfl))
    try simp only [clL]
    refine a0b rfl rfl rfl Tryz.call145 (fun w hS hR => f0b n mP.M _ HNL.out b0K.lt false HD.out) (fun _ => rfl) ?_
    try simp only [clL]
    refine a0t fun xq w3 st3 hR => ?_
    try dsimp only
    clear hR xq
    refine a0o rfl rfl ?_
    go_simp
    try simp only [clL]
    refine a0i ?_
    refine NoPanic.normal ?_
    have HFE := qH (HFD.out.then st3.fr)
    clear st3
    go_wp2_with fail
    go_roundw
    case rel => exact ⟨k + 1, by have := HLT.out; omega, by go_num, by rw [f0X HC.out]; exact HJ.out _ _ _ none HJK.out HFE.out.grown (fun r e => by cases e), HFK.out.then HFE.out, Nat.le_trans (by have h := HWK.out; rw [← HG16.out] at h; exact h) HFE.out.size⟩
    case measure => have := HLT.out; simp [intOf]; omega
  ·have hge : ¬ ((k : Int) < 256) := by omega
   have hk6 : k = 256 := by omega
   subst hk6
   clear hk hlt
   go_wp2_with fail
   go_end0
   first | exact ⟨⟨_, rfl⟩, .inl HJK.out⟩ | exact ⟨⟨_, rfl⟩, .inl ⟨_, rfl, HJK.out⟩⟩
end Go.Proofs.YtemcankmggmgoaaGreat
namespace Go.Mv
open Go.RowKit
theorem d0p {β : Type} (B g : Nat) (L : List Value) (T : TypeId) : OwnFrom B (fun (_ : β) W => Has W g L T) := fun _ X Y row hs hg hr =>
 Has.keep hs (Fr.ofGrown hg) (fun e => by
  obtain ⟨_, o, ho, hc⟩ := hr g e
  obtain ⟨lo, hi, h, -⟩ := hs
  rw [h] at ho
  cases ho
  cases hc)
theorem e0M {β : Type} {B : Nat} {w : World} (hB : w.heap.size ≤ B) : OwnFrom B (fun (_ : β) W => Fr Nob w W) := fun _ X Y row hs hg hr =>
 hs.trans (Fr.ofGrown hg) (fun i hi t => by
  have h := (hr i t).1
  omega)
theorem l0T {β : Type} (B n : Nat) : OwnFrom B (fun (_ : β) (W : World) => n ≤ W.heap.size) := fun _ _ _ _ hs hg _ => Nat.le_trans hs hg.size
theorem o0J {B : Nat} {W W' : World} (h : Fr Nob W W') : KeepsFrom B W W' :=
 ⟨h.size, fun k _ _ hk _ => (h.block k (Array.getElem?_eq_some_iff.1 hk).1 id).trans hk⟩
theorem l0U {B g : Nat} {W W' : World} (h : Fr (One g) W W') (hg : g < B) : KeepsFrom B W W' :=
 ⟨h.size, fun k o hB hk _ => (h.block k (Array.getElem?_eq_some_iff.1 hk).1 (fun e => by have : k = g := e; omega)).trans hk⟩
theorem y0m (t : Array Value) (p : Tmp) (v : Value) : (#[p].zip #[v]).foldl (fun t (p, v) => t.setIfInBounds p v) t = t.setIfInBounds p v := by simp
theorem w0m {K : Act → World → Prop} {Q : Exit → Act → World → Prop} (h : ∀ a w, ¬ Q .outgrown a w) : ¬ LetsOut (Exit.then K Q) := by
 rintro ⟨a, w, k⟩
 exact h a w k
end Go.Mv
namespace Go.Proofs.YtemcankmggmgoaaGreat
section
open Go.RowKit Go.Mv Mvp Mvq
theorem B0a : (Tryz.prog.info? 117).map (·.zero) = some (some (.agg (List.replicate 12 (.int .u64 0)).toArray)) := by kernel_rfl
attribute [local irreducible] a0G lw mix cw b0q b0y b0p a0K a0r beN b0F a0U b0D a0I a0R elN mdL b0m rtN rtV b0I gXn gYn PT.L k0q j0H e0N tbL tmR tmL dbN g0S g0y k0r dig rdT c0N e0i ptL g0H e0f b0g g0n hB hN d0t c0f e0P atY d0b m0D
theorem y0n (lab : ByteArray) (va : Value) (hva : va.cells = #[va]) (w : World) : Calls Tryz.prog 161 #[.string lab, va] w fun e w' => ∃ g2 g3, e = .returned (.func (.func 191) #[] #[.pointer (some ⟨g2, 0, none⟩), .pointer (some ⟨g3, 0, none⟩)]) ∧ Has w' g2 [.string lab] 9 ∧ Has w' g3 [va] 22 ∧ Fr Nob w w' := by
 have HVA := qH hva
 clear hva
 have st0 := St.start Nob w
 go_enter Tryz.func161, Tryz.ntmps161
 go_wp2_with (with_reducible refine wSk 2 ?_)
 refine a0m st0 rfl rfl rfl [.string lab] rfl ?_
 intro g2 w1 st1
 clear st0
 unfold Act.put
 go_wp2_with (with_reducible refine wSk 3 ?_)
 refine a0m st1 rfl rfl rfl [va] (by show va.cells.toList = [va]; rw [HVA.out]) ?_
 intro g3 w2 st2
 clear st1
 have H2 := qH (st2.at 0 rfl)
 have H3 := qH (st2.at 1 rfl)
 have HF := qH st2.fr
 clear st2
 go_wp2_with fail
 go_ret
 exact ⟨g2, g3, rfl, H2.out, H3.out, HF.out⟩
theorem v0j (lab : ByteArray) (hsz : lab.size ≤ 100000) (va : Value) (b : List UInt8) (w : World) (hb : PartIs w va b) :
  Calls Tryz.prog 100 #[.string lab, va] w fun e w' => e = .returned (.agg (e0P lab.data.toList b).L.toArray) ∧ Fr Nob w w' := by
 have HSZ := qH hsz
 have HB := qH hb
 have HVA := qH (j0h hb)
 clear hsz hb
 have st0 := St.start Nob w
 refine (callsIn_wide (n := 3)).1 ?_
 refine callsIn_of_wp_marks Tryz.func100 rfl trivial ?_ rfl
 simp only [Tryz.ntmps100, List.size_toArray, List.length_cons, List.length_nil, Nat.reduceAdd, Nat.reduceSub, Array.replicate_succ, Array.replicate_zero, List.push_toArray, List.append_toArray, List.nil_append, List.cons_append]
 refine wpIn_wide.2 ?_
 go_wp2_with (with_reducible refine wSk 4 ?_)
 refine a0c st0 rfl rfl B0a (cw 12 0) (by rw [a0g]; rfl) ?_
 intro g4 w1 st1
 clear st0
 go_wp2_with fail
 refine (y0n lab va HVA.out _).mono ?_
 rintro e w2 ⟨g2, g3, rfl, hg2, hg3, hf2⟩
 have st2 := st1.keep hf2
 have HG2 := qH hg2
 have HG3 := qH hg3
 clear st1 hf2 hg2 hg3
 have H4 := qH (st2.at 0 rfl)
 have HGE := qH ((st2.own _ List.mem_cons_self).resolve_right (fun h => h.elim))
 have HF := qH st2.fr
 have HLT := qH (st2.at 0 rfl).lt
 clear st2
 go_wp2_with fail
 refine (wpIn_wide (n := 3)).1 ?_
 refine wpIn_rangeFunc_ownH (F := Fence.wide) rfl (by omega) (gf := 191) (lb := #[.pointer (some ⟨g2, 0, none⟩), .pointer (some ⟨g3, 0, none⟩)]) rfl trivial (enters_of Tryz.func191 (by kernel_rfl) rfl)
  (q0b lab HSZ.out g2 g3 va b w2 HG2.out HG3.out (HB.out.still HF.out)) belowK_t (belowK_b (Nat.le_refl _)) (Below.refl _ _) (fun _ => rfl)
  (fun pre W => pre = [] ∧ (Has W g4 (cw 12 0) 117 ∧ (Fr Nob w W ∧ w2.heap.size ≤ W.heap.size)))
  (fun c pre W => c = .ret ∧ ∃ x : PT, pre = [x] ∧ (Has W g4 x.L 117 ∧ Fr Nob w W))
  (OwnFrom.and (ownFrom_pure _ _) (OwnFrom.and (d0p _ _ _ _) (OwnFrom.and (e0M HF.out.size) (l0T _ _))))
  (fun c s X Y row hs hg hr => by
   obtain ⟨h1, x, h2, h3, h4⟩ := hs
   exact ⟨h1, x, h2, d0p (β := Unit) _ g4 x.L _ () X Y row h3 hg hr, e0M (β := Unit) HF.out.size () X Y row h4 hg hr⟩)
  ⟨rfl, H4.out, HF.out, Nat.le_refl _⟩
  (fun x a' W => ∃ Bx, Has W Bx x.L 117 ∧ a' = { tmps := #[.string lab, va, undef, undef, .pointer (some ⟨g4, 0, none⟩), .pointer (some ⟨Bx, 0, none⟩), .string lab, va, .func (.func 191) #[] #[.pointer (some ⟨g2, 0, none⟩), .pointer (some ⟨g3, 0, none⟩)], .agg x.L.toArray, undef, undef, undef, undef, undef], defers := [] })
  (fun x a' s X Y row hs hg hr => by
   obtain ⟨Bx, h1, h2⟩ := hs
   exact ⟨Bx, d0p (β := Unit) _ Bx x.L _ () X Y row h1 hg hr, h2⟩)
  ?assign ?body ?done ?stop
 case assign =>
  rintro l pre x W K ⟨rfl, h4, hfr, hsz⟩ hK
  refine i0m (w0m fun _ _ h => h) rfl ?_
  have st := St.start Nob W
  have HK := qH hK
  have H4 := qH h4
  have HFR := qH hfr
  have HS := qH hsz
  clear hK h4 hfr hsz
  rw [y0m]
  simp only [List.setIfInBounds_toArray, List.set_cons_zero, List.set_cons_succ]
  refine a0c st rfl rfl B0a (cw 12 0) (by rw [a0g]; rfl) ?_
  intro gx W1 s1
  try simp only [clL]
  refine a0d s1 0 rfl rfl rfl rfl rfl (by rw [a0a, PT.len]) (by rw [PT.len]; kernel_rfl) (PT.one _) ?_
  intro W2 s2
  try simp only [Act.put]
  refine wpList_nil ?_
  have hf := s2.fr
  exact HK.out _ _ (o0J hf) (hf.below.mono HS.out) ⟨rfl, H4.out.keep hf id, HFR.out.then hf, Nat.le_trans HS.out hf.size⟩ ⟨gx, s2.at 0 rfl, rfl⟩
 case body =>
  rintro l pre x a' W hl hr ⟨rfl, h4, hfr, hsz⟩ ⟨Bx, hx, rfl⟩ hlt
  refine wpIn_block (wpIn_seq ?_)
  refine i0m (w0m fun _ _ h => h) rfl ?_
  have st := St.one h4
  have HX := qH hx
  have HFR := qH hfr
  clear hr hx h4 hfr
  refine g0P rfl rfl Tryz.underlying117 rfl rfl (cs := x.L) (fun i v hv => HX.out.range 0 _ dZl i v hv) (by rw [PT.len]; kernel_rfl) ?_
  try simp only [clL]
  refine a0d st 0 rfl rfl rfl rfl rfl (by rw [a0a, PT.len]) (by rw [PT.len]; kernel_rfl) (PT.one _) ?_
  intro W2 s2
  try simp only [Act.put]
  refine wpList_nil ?_
  refine wpIn_ret ?_
  exact ⟨l0U s2.fr HLT.out, rfl, x, rfl, s2.at 0 rfl, HFR.out.new s2.fr HGE.out⟩
 case done =>
  rintro D xs W hD hS ⟨rfl, h4, hfr, hsz⟩ hK
  have HS := qH (j0d hS.symm)
  have st := (St.start Nob w)
  have HFR := qH hfr
  have H4' := qH h4
  have HD := qH hK
  have HDD := qH hD
  clear hS h4 hfr hsz hK hD st
  go_wp2_with fail
  refine (i0k _).mono ?_
  rintro e w3 ⟨y, rfl, ⟨hc, hm⟩, hf⟩
  have HC := qH hc
  have HF3 := qH hf
  clear hc hm hf
  go_wp2_with (with_reducible refine wSk 14 ?_)
  refine g0P rfl rfl Tryz.underlying117 rfl rfl (cs := i0w.L) (fun i v hv => HC.out.range 5 _ i0T i v hv) (by rw [PT.len]; kernel_rfl) ?_
  have st := St.one (H4'.out.keep HF3.out id)
  go_wp2_with (with_reducible refine wSn ?_)
  refine a0d st 0 rfl rfl rfl rfl rfl (by rw [a0a, PT.len]) (by rw [PT.len]; kernel_rfl) (PT.one _) ?_
  intro w5 s5
  have HF5 := qH s5.fr
  have H5 := qH (s5.at 0 rfl)
  clear st s5
  go_wp2_with fail
  have hD3 := (o0J (B := w2.heap.size) HF3.out).same D _ HDD.out HD.out rfl
  have hD5 := (l0U HF5.out HLT.out).same D _ HDD.out hD3 rfl
  refine ⟨by simp, .inl ⟨_, _, rfl, run_takeDeferred hD5, ?_⟩⟩
  have hfin := (d0p (β := Unit) 0 g4 _ _).putObj (s := ()) (.deferred none) H5.out (Nat.zero_le _) hD5 rfl
  refine ⟨_, a0x rfl rfl hfin Tryz.underlying117 rfl (by rw [PT.len]; kernel_rfl), by rw [HS.out], ?_⟩
  exact (e0M (β := Unit) (B := w2.heap.size) HF.out.size).putObj (s := ()) (.deferred none) ((HFR.out.then HF3.out).new HF5.out HGE.out) HDD.out hD5 rfl
 case stop =>
  rintro D c pre W hD ⟨k, x', hk, hc, hp⟩ ⟨rfl, x, rfl, h4, hfr⟩ hK
  have hnil : c0f lab.data.toList b k = [] := by
   cases hq : c0f lab.data.toList b k with
   | nil => rfl
   | cons y ys =>
    rw [hq] at hp
    have := congrArg List.length hp
    simp at this
  rw [hnil] at hp
  have hxx : x = x' := by simpa using hp
  subst hxx
  have HS := qH (j0e hk hc hnil)
  refine wpIn_ret ?_
  refine ⟨by simp, .inl ⟨_, _, rfl, run_takeDeferred hK, ?_⟩⟩
  have hfin := (d0p (β := Unit) 0 g4 _ _).putObj (s := ()) (.deferred none) h4 (Nat.zero_le _) hK rfl
  refine ⟨_, a0x rfl rfl hfin Tryz.underlying117 rfl (by rw [PT.len]; kernel_rfl), by rw [HS.out], ?_⟩
  exact (e0M (β := Unit) (B := w2.heap.size) HF.out.size).putObj (s := ()) (.deferred none) hfr hD hK rfl
end
section
open Go.RowKit Go.Mv Mvp Mvq
def z0S : List UInt8 := [118, 97, 108, 117, 101]
theorem z0T (w : World) : Calls Tryz.prog 86 #[] w fun e w' => ∃ gc : Nat, e = .returned (.pointer (some ⟨gc, 0, none⟩)) ∧ Cv w' gc ∧ Fr Nob w w' :=
 (f0M w).mono fun _ _ ⟨gc, k1, _, k2, k3⟩ => ⟨gc, k1, k2, k3⟩
attribute [local irreducible] a0G lw mix cw b0q b0y b0p a0K a0r beN b0F a0U b0D a0I a0R elN mdL b0m rtN rtV b0I gXn gYn PT.L k0q j0H e0N tbL tmR tmL dbN g0S g0y k0r dig rdT c0N e0i ptL g0H e0f b0g g0n hB hN d0t c0f e0P atY d0b m0D
theorem v0k (lab : ByteArray) (hsz : lab.size ≤ 100000) (va : Value) (b : List UInt8) (w : World) (hb : PartIs w va b) :
  Calls Tryz.prog 164 #[.string lab, va] w fun e w' => ∃ v, e = .returned (.tuple #[v, .int .i64 0]) ∧ OwnB1 w w' v (b0g (e0P lab.data.toList b).pt) ∧ Fr Nob w w' := by
 have HSZ := qH hsz
 have HB := qH hb
 clear hsz hb
 go_enter Tryz.func164, Tryz.ntmps164
 go_wp2_with fail
 refine (z0T _).mono ?_
 rintro e w1 ⟨gc, rfl, hcv, hf⟩
 have HCV := qH hcv
 have HF := qH hf
 clear hcv hf
 go_wp2_with fail
 refine (v0j lab HSZ.out va b _ (HB.out.still HF.out)).mono ?_
 rintro e w2 ⟨rfl, hf⟩
 have HCV2 := qH (HCV.out.keep hf)
 have HF2 := qH (HF.out.then hf)
 clear hf HCV HF
 go_wp2_with fail
 refine (m0H _ gc _ HCV2.out).mono ?_
 rintro e w3 ⟨sv, rfl, hown, hf⟩
 have ho := Go.Mv.Own.mono hown HF2.out.size
 have hfr := HF2.out.then hf
 clear hf HCV2 HF2 hown
 go_wp2_with fail
 go_ret2
 exact ⟨sv, rfl, OwnB1.of ho (f0K _), hfr⟩
end
section
open Go.RowKit Go.Mv Mvp Mvq
def i0n : List UInt8 := [116, 111, 107, 101, 110]
noncomputable def lfP (b : List UInt8) : Pt := (e0P i0n b).pt
theorem w0n (b : List UInt8) : onC (lfP b) := by unfold lfP; exact PT.onP _
attribute [local irreducible] e0P lfP
def b0Q (b : List UInt8) : Bool := decide (1 ≤ b.length) && decide (b.length ≤ 64)
theorem s0K : Tryz.prog.built 153 [] = some ([Value.slice none 0 0, .int .i64 0]).toArray := by kernel_rfl
theorem l0V : Tryz.prog.built 153 [(1, .int .i64 2)] = some ([Value.slice none 0 0, .int .i64 2]).toArray := by kernel_rfl
theorem OwnU.of1 {w w' : World} {v : Value} {l : List UInt8} (h : OwnB1 w w' v l) : OwnU w' v l := Own.mono h (Nat.zero_le _)
attribute [local irreducible] a0G lw mix cw b0q b0y b0p a0K a0r beN b0F a0U b0D a0I a0R elN mdL b0m rtV b0I b0g c0N e0i b0B e0f n0m m0a a0V g0n hB hN d0t c0f
theorem s0L (v0 : Value) (g1 : Nat) (va : Value) (b : List UInt8) (w : World) (h1 : Has w g1 [va] 22) (hb : PartIs w va b) :
  Calls Tryz.prog 163 #[v0, .pointer (some ⟨g1, 0, none⟩)] w fun e w' => ∃ v, e = .returned (.tuple #[v, .int .i64 0]) ∧ OwnU w' v (b0g (lfP b)) ∧ Fr Nob w w' := by
 have hc := h1.cell (show [va][0]? = _ from rfl)
 have HB := qH hb
 clear h1 hb
 go_enter Tryz.func163, Tryz.ntmps163
 go_wp2_with fail
 refine (v0k ⟨#[116, 111, 107, 101, 110]⟩ (by decide) va b _ HB.out).mono ?_
 rintro e w1 ⟨v, rfl, ho, hf⟩
 have ho2 := OwnU.of1 ho
 have HO := qH (show OwnU w1 v (b0g (lfP b)) by unfold lfP i0n; exact ho2)
 have HF := qH hf
 clear ho ho2 hf hc HB
 go_wp2_with fail
 go_ret2
 exact ⟨v, rfl, HO.out, HF.out⟩
theorem s0M (g1 : Nat) (a : Option Addr) (n c : Nat) (w : World) (l : List UInt8) (z : Int) (hop : ∀ wx, Fr Nob w wx → Calls Tryz.prog 163 #[.slice a n c, .pointer (some ⟨g1, 0, none⟩)] wx fun e w' => ∃ v, e = .returned (.tuple #[v, .int .i64 z]) ∧ OwnU w' v l ∧ Fr Nob wx w') :
  Calls Tryz.prog 106 #[chV a n c 0, .func (.func 163) #[] #[.pointer (some ⟨g1, 0, none⟩)]] w fun e w' => ∃ a' c', e = .returned (chV a' l.length c' z) ∧ OwnU w' (.slice a' l.length c') l ∧ Fr Nob w w' := by
 have HOP := qH hop
 clear hop
 have st0 := St.start Nob w
 go_enter Tryz.func106, Tryz.ntmps106
 go_wp2_with (with_reducible refine wSk 2 ?_)
 refine a0m st0 rfl rfl rfl [.slice a n c, .int .i64 0] rfl ?_
 intro g2 w1 st1
 clear st0
 go_wp2_with (with_reducible refine wSk 4 ?_)
 refine a0c st1 rfl rfl z0H [.slice none 0 0, .int .i64 0] rfl ?_
 intro g4 w2 st2
 clear st1
 have hc0 := (st2.at 0 rfl).cell (show [Value.slice a n c, .int .i64 0][0]? = _ from rfl)
 have hc1 := (st2.at 0 rfl).cell (show [Value.slice a n c, .int .i64 0][1]? = _ from rfl)
 go_wp2_with fail
 refine (HOP.out _ st2.fr).mono ?_
 rintro e' w3 ⟨v, rfl, ho, hf⟩
 have st3 := st2.keep hf
 clear hf st2 hc0 hc1
 obtain ⟨a', c', hv, -⟩ := Own.form ho
 subst hv
 have h4 := st3.at 1 rfl
 have HNE := qH (Own.ne ho h4 (by decide))
 have HO := qH ho
 have H4 := qH h4
 have HF := qH st3.fr
 have HGE := qH (st3.own _ (List.mem_cons_of_mem _ List.mem_cons_self))
 clear ho h4 st3
 go_wp2_with (with_reducible refine wSk 20 ?_)
 refine b0z rfl rfl _ (l0N a' l.length c' z) ?_
 go_wp2_with (with_reducible refine wSn ?_)
 refine d0f (cs := [.slice a' l.length c', .int .i64 z]) rfl rfl rfl rfl H4.out (by simp) (by kernel_rfl) (l0O _ _ _ _) ?_
 intro w9 hg9 hf9 hz9
 clear hz9
 have ho9 : OwnU w9 (.slice a' l.length c') l := Own.keep HO.out hf9 (fun k hk e => HNE.out (by have e2 : k = g4 := e; rw [← e2]; exact hk))
 have HO9 := qH ho9
 have HF9 := qH (HF.out.new hf9 (HGE.out.resolve_right (fun h => h.elim)))
 clear hf9 ho9
 go_wp2_with fail
 exact bodyPost_ret (a0x rfl rfl hg9 Tryz.underlying153 rfl (by kernel_rfl)) rfl ⟨a', c', rfl, HO9.out, HF9.out⟩
theorem s0N (a : Option Addr) (n c : Nat) (w : World) (hn : n < 1) :
  Calls Tryz.prog 105 #[.slice a n c] w fun e w' => e = .returned (chV none 0 0 2) ∧ Fr Nob w w' := by
 have hI : (n : Int) < 1 := by omega
 clear hn
 have st0 := St.start Nob w
 go_enter Tryz.func105, Tryz.ntmps105
 go_wp2_with (with_reducible refine wSk 1 ?_)
 refine a0m st0 rfl rfl rfl [.slice a n c] rfl ?_
 intro g1 w1 st1
 clear st0
 go_wp2_with (with_reducible refine wSk 2 ?_)
 refine a0c st1 rfl rfl z0H [.slice none 0 0, .int .i64 0] rfl ?_
 intro g2 w2 st2
 clear st1
 have hc0 := (st2.at 0 rfl).cell (show [Value.slice a n c][0]? = _ from rfl)
 go_wp2_with (with_reducible refine wSk 11 ?_)
 refine b0z rfl rfl _ l0V ?_
 clear hc0
 go_wp2_with (with_reducible refine wSn ?_)
 refine a0d st2 1 rfl rfl rfl rfl rfl (by first | rfl | simp) (by kernel_rfl) (l0O _ _ _ _) ?_
 intro w3 st3
 clear st2
 have hr := st3.at 1 rfl
 have hfr := st3.fr
 clear st3
 go_wp2_with fail
 exact bodyPost_ret (a0x rfl rfl hr Tryz.underlying153 rfl (by kernel_rfl)) rfl ⟨rfl, hfr⟩
theorem s0O (a : Option Addr) (n c : Nat) (w : World) (hn : 64 < n) :
  Calls Tryz.prog 105 #[.slice a n c] w fun e w' => e = .returned (chV none 0 0 2) ∧ Fr Nob w w' := by
 have hI0 : ¬ ((n : Int) < 1) := by omega
 have hI : (64 : Int) < (n : Int) := by omega
 clear hn
 have st0 := St.start Nob w
 go_enter Tryz.func105, Tryz.ntmps105
 go_wp2_with (with_reducible refine wSk 1 ?_)
 refine a0m st0 rfl rfl rfl [.slice a n c] rfl ?_
 intro g1 w1 st1
 clear st0
 go_wp2_with (with_reducible refine wSk 2 ?_)
 refine a0c st1 rfl rfl z0H [.slice none 0 0, .int .i64 0] rfl ?_
 intro g2 w2 st2
 clear st1
 have hc0 := (st2.at 0 rfl).cell (show [Value.slice a n c][0]? = _ from rfl)
 go_wp2_with (with_reducible refine wSk 11 ?_)
 refine b0z rfl rfl _ l0V ?_
 clear hc0
 go_wp2_with (with_reducible refine wSn ?_)
 refine a0d st2 1 rfl rfl rfl rfl rfl (by first | rfl | simp) (by kernel_rfl) (l0O _ _ _ _) ?_
 intro w3 st3
 clear st2
 have hr := st3.at 1 rfl
 have hfr := st3.fr
 clear st3
 go_wp2_with fail
 exact bodyPost_ret (a0x rfl rfl hr Tryz.underlying153 rfl (by kernel_rfl)) rfl ⟨rfl, hfr⟩
theorem s0P (a : Option Addr) (n c : Nat) (b : List UInt8) (w : World) (hb : PartIs w (.slice a n c) b) (hn : 1 ≤ n) (hn2 : n ≤ 64) :
  Calls Tryz.prog 105 #[.slice a n c] w fun e w' => ∃ a' c', e = .returned (chV a' (b0g (lfP b)).length c' 0) ∧ OwnU w' (.slice a' (b0g (lfP b)).length c') (b0g (lfP b)) ∧ Fr Nob w w' := by
 have hI0 : ¬ ((n : Int) < 1) := by omega
 have hI : ¬ ((64 : Int) < (n : Int)) := by omega
 have HB := qH hb
 clear hn hn2 hb
 have st0 := St.start Nob w
 go_enter Tryz.func105, Tryz.ntmps105
 go_wp2_with (with_reducible refine wSk 1 ?_)
 refine a0m st0 rfl rfl rfl [.slice a n c] rfl ?_
 intro g1 w1 st1
 clear st0
 go_wp2_with (with_reducible refine wSk 2 ?_)
 refine a0c st1 rfl rfl z0H [.slice none 0 0, .int .i64 0] rfl ?_
 intro g2 w2 st2
 clear st1
 have hc0 := (st2.at 0 rfl).cell (show [Value.slice a n c][0]? = _ from rfl)
 go_wp2_with (with_reducible refine wSk 12 ?_)
 refine b0z rfl rfl _ s0K ?_
 clear hc0
 have HG1 := qH (st2.at 0 rfl)
 have HB2 := qH (HB.out.still st2.fr)
 go_wp2_with fail
 refine (s0M g1 none 0 0 _ (b0g (lfP b)) 0 (fun wx hfx => s0L _ g1 _ b wx (HG1.out.keep hfx id) (HB2.out.still hfx))).mono ?_
 rintro e' w3 ⟨a', c', rfl, ho, hf⟩
 have st3 := st2.keep hf
 have HO := qH ho
 clear st2 hf ho HG1 HB2
 unfold chV
 have h4 := st3.at 1 rfl
 have HNE := qH (Own.ne HO.out h4 (by decide))
 have H4 := qH h4
 have HF := qH st3.fr
 have HGE := qH (st3.own _ (List.mem_cons_of_mem _ List.mem_cons_self))
 clear h4 st3
 go_wp2_with (with_reducible refine wSn ?_)
 refine d0f (cs := [.slice a' (b0g (lfP b)).length c', .int .i64 0]) rfl rfl rfl rfl H4.out (by simp) (by kernel_rfl) (l0O _ _ _ _) ?_
 intro w9 hg9 hf9 hz9
 clear hz9
 have ho9 : OwnU w9 (.slice a' (b0g (lfP b)).length c') (b0g (lfP b)) := Own.keep HO.out hf9 (fun k hk e => HNE.out (by have e2 : k = g2 := e; rw [← e2]; exact hk))
 have HO9 := qH ho9
 have HF9 := qH (HF.out.new hf9 (HGE.out.resolve_right (fun h => h.elim)))
 clear hf9 ho9
 go_wp2_with fail
 exact bodyPost_ret (a0x rfl rfl hg9 Tryz.underlying153 rfl (by kernel_rfl)) rfl ⟨a', c', rfl, HO9.out, HF9.out⟩
def lfE (b : List UInt8) : Int := if b0Q b = true then 0 else 2
noncomputable def lfS (b : List UInt8) : List UInt8 := if b0Q b = true then b0g (lfP b) else []
theorem s0Q {b : List UInt8} (h : b0Q b = true) : lfE b = 0 ∧ lfS b = b0g (lfP b) := by unfold lfE lfS; rw [if_pos h, if_pos h]; exact ⟨rfl, rfl⟩
theorem s0R {b : List UInt8} (h : b0Q b = false) : lfE b = 2 ∧ lfS b = [] := by unfold lfE lfS; rw [h]; exact ⟨rfl, rfl⟩
theorem s0S (a : Option Addr) (n c : Nat) (b : List UInt8) (w : World) (hb : PartIs w (.slice a n c) b) (h : b0Q b = false) :
  Calls Tryz.prog 105 #[.slice a n c] w fun e w' => e = .returned (chV none 0 0 2) ∧ Fr Nob w w' := by
 have hl : b.length = n := by
  obtain ⟨a', n', c', he, -, -, hr, -⟩ := hb
  cases he
  exact hr.len
 unfold b0Q at h
 rw [hl] at h
 by_cases h1 : n < 1
 ·exact s0N a n c w h1
 ·have h2 : 64 < n := by
   have h3 : decide (1 ≤ n) = true := decide_eq_true (by omega)
   rw [h3, Bool.true_and] at h
   have := of_decide_eq_false h
   omega
  exact s0O a n c w h2
theorem j0i (a : Option Addr) (n c : Nat) (b : List UInt8) (w : World) (hb : PartIs w (.slice a n c) b) (h : b0Q b = true) :
  Calls Tryz.prog 105 #[.slice a n c] w fun e w' => ∃ a' c', e = .returned (chV a' (b0g (lfP b)).length c' 0) ∧ OwnU w' (.slice a' (b0g (lfP b)).length c') (b0g (lfP b)) ∧ Fr Nob w w' := by
 have hl : b.length = n := by
  obtain ⟨a', n', c', he, -, -, hr, -⟩ := hb
  cases he
  exact hr.len
 unfold b0Q at h
 rw [hl] at h
 simp only [Bool.and_eq_true, decide_eq_true_eq] at h
 exact s0P a n c b w hb h.1 h.2
theorem y0o (a : Option Addr) (n c : Nat) (b : List UInt8) (w : World) (hb : PartIs w (.slice a n c) b) (h : b0Q b = false) :
  Calls Tryz.prog 42 #[.slice a n c] w fun e w' => e = .returned (.tuple #[.slice none 0 0, .int .i64 2]) ∧ Fr Nob w w' := by
 have HB := qH hb
 have HK := qH h
 clear hb h
 go_enter Tryz.func42, Tryz.ntmps42
 go_wp2_with fail
 refine (s0S a n c b _ HB.out HK.out).mono ?_
 rintro e w1 ⟨rfl, hf⟩
 have HF := qH hf
 clear hf HB
 go_wp2_with fail
 refine (s0A _ _ _ _ (by decide) _).mono ?_
 rintro e w2 ⟨rfl, hf⟩
 have hfr := HF.out.then hf
 clear hf HF
 go_wp2_with fail
 go_ret2
 exact ⟨rfl, hfr⟩
theorem v0l (a : Option Addr) (n c : Nat) (b : List UInt8) (w : World) (hb : PartIs w (.slice a n c) b) (h : b0Q b = true) :
  Calls Tryz.prog 42 #[.slice a n c] w fun e w' => ∃ v, e = .returned (.tuple #[v, .int .i64 0]) ∧ OwnU w' v (b0g (lfP b)) ∧ Fr Nob w w' := by
 have HB := qH hb
 have HK := qH h
 clear hb h
 go_enter Tryz.func42, Tryz.ntmps42
 go_wp2_with fail
 refine (j0i a n c b _ HB.out HK.out).mono ?_
 rintro e w1 ⟨a', c', rfl, ho, hf⟩
 have HF := qH hf
 have HO := qH ho
 clear hf ho HB
 go_wp2_with fail
 refine (o0D _ _ _ _).mono ?_
 rintro e w2 ⟨rfl, hf⟩
 have hfr := HF.out.then hf
 have HO2 := qH (HO.out.still hf)
 clear hf HF HO
 go_wp2_with fail
 go_ret2
 exact ⟨_, rfl, HO2.out, hfr⟩
theorem z0U (va : Value) (b : List UInt8) (w : World) (hb : PartIs w va b) :
  Calls Tryz.prog 42 #[va] w fun e w' => ∃ v, e = .returned (.tuple #[v, .int .i64 (lfE b)]) ∧ OwnU w' v (lfS b) ∧ Fr Nob w w' := by
 have hb' := hb
 obtain ⟨a, n, c, rfl, -⟩ := hb'
 cases h : b0Q b with
 | false => exact (y0o a n c b w hb h).mono fun e w' k => ⟨.slice none 0 0, by rw [k.1, (s0R h).1], by rw [(s0R h).2]; exact OwnU.nil _, k.2⟩
 | true => exact (v0l a n c b w hb h).mono fun e w' k => by rw [(s0Q h).1, (s0Q h).2]; exact k
end
section
open Go.RowKit Go.Mv Mvp Mvq
def blE (b r : List UInt8) : Int := if b0Q b = true then (if b0m mQ r = true then 0 else 3) else 2
noncomputable def blS (b r : List UInt8) : List UInt8 := if b0Q b = true then (if b0m mQ r = true then b0g (a0L (lfP b) (a0V (beN r) gP)) else []) else []
theorem v0m {b r : List UInt8} (h : b0Q b = true) (h2 : b0m mQ r = true) : blE b r = 0 ∧ blS b r = b0g (a0L (lfP b) (a0V (beN r) gP)) := by unfold blE blS; rw [if_pos h, if_pos h, if_pos h2, if_pos h2]; exact ⟨rfl, rfl⟩
theorem A0b {b r : List UInt8} (h : b0Q b = true) (h2 : b0m mQ r = false) : blE b r = 3 ∧ blS b r = [] := by unfold blE blS; rw [if_pos h, if_pos h, h2]; exact ⟨rfl, rfl⟩
theorem A0c {b r : List UInt8} (h : b0Q b = false) : blE b r = 2 ∧ blS b r = [] := by unfold blE blS; rw [h]; exact ⟨rfl, rfl⟩
theorem A0P {b r : List UInt8} (_h2 : b0m mQ r = true) : n0m [a0U (1 % mQ.M), a0U (beN r % mQ.M)] [b0g (lfP b), b0g gP] = 0 ∧ m0a [a0U (1 % mQ.M), a0U (beN r % mQ.M)] [b0g (lfP b), b0g gP] = b0g (a0L (lfP b) (a0V (beN r) gP)) := by
 have h : (c0N (b0g (lfP b)) && c0N (b0g gP)) = true := by rw [(t0V (w0n b)).1, (t0V z0O).1]; rfl
 rw [z0P, z0Q, if_pos h, if_pos h, (t0V (w0n b)).2, (t0V z0O).2, z0R]
 exact ⟨rfl, rfl⟩
theorem k0n {w : World} {a : Option Addr} {n c : Nat} {b : List UInt8} (hb : PartIs w (.slice a n c) b) : b.length = n := by
 obtain ⟨a', n', c', he, -, -, hr, -⟩ := hb
 cases he
 exact hr.len
attribute [local irreducible] a0G lw mix cw b0q b0y b0p a0K a0r beN b0F a0U b0D a0I a0R elN mdL b0m rtV b0I b0g c0N e0i b0B e0f n0m m0a a0V g0n hB hN d0t c0f blE blS lfE lfS b0Q tC tS
theorem v0n (a : Option Addr) (n c : Nat) (vr : Value) (w : World) (hn : n < 1) :
  Calls Tryz.prog 43 #[.slice a n c, vr] w fun e w' => e = .returned (.tuple #[.slice none 0 0, .int .i64 2]) ∧ Fr Nob w w' := by
 have hI : (n : Int) < 1 := by omega
 clear hn
 go_enter Tryz.func43, Tryz.ntmps43
 go_wp2
 go_ret2
 exact ⟨rfl, Fr.refl _ _⟩
theorem v0o (a : Option Addr) (n c : Nat) (vr : Value) (w : World) (hn : 64 < n) :
  Calls Tryz.prog 43 #[.slice a n c, vr] w fun e w' => e = .returned (.tuple #[.slice none 0 0, .int .i64 2]) ∧ Fr Nob w w' := by
 have hI0 : ¬ ((n : Int) < 1) := by omega
 have hI : (64 : Int) < (n : Int) := by omega
 clear hn
 go_enter Tryz.func43, Tryz.ntmps43
 go_wp2
 go_ret2
 exact ⟨rfl, Fr.refl _ _⟩
theorem y0p (a : Option Addr) (n c : Nat) (b : List UInt8) (ar : Option Addr) (nr cr : Nat) (r : List UInt8) (w : World) (hb : PartIs w (.slice a n c) b) (hr : RdB w ar nr r) (hk : b0Q b = true) (hq : b0m mQ r = false) :
  Calls Tryz.prog 43 #[.slice a n c, .slice ar nr cr] w fun e w' => e = .returned (.tuple #[.slice none 0 0, .int .i64 3]) ∧ Fr Nob w w' := by
 have hl := k0n hb
 unfold b0Q at hk
 rw [hl] at hk
 simp only [Bool.and_eq_true, decide_eq_true_eq] at hk
 have hI0 : ¬ ((n : Int) < 1) := by omega
 have hI : ¬ ((64 : Int) < (n : Int)) := by omega
 have HB := qH hb
 have HR := qH hr
 have HN := qH hq
 clear hk hl hb hr hq
 have st0 := St.start Nob w
 go_enter Tryz.func43, Tryz.ntmps43
 go_wp2_with fail
 refine (A0o mQ .one ar nr cr r _ (HR.out.still st0.fr) HN.out).mono ?_
 rintro e' w1 ⟨rfl, hf1⟩
 have st1 := st0.keep hf1
 clear st0 hf1
 go_wp2_with (with_reducible refine wSk 6 ?_)
 refine a0c st1 rfl rfl (z := zAd) (by kernel_rfl) (cw 4 0) (by rw [a0g]; rfl) ?_
 intro g6 w2 st2
 clear st1
 go_wp2_with (with_reducible refine wSn ?_)
 refine a0d st2 0 rfl rfl rfl rfl rfl (by first | (simp only [a0a]; done) | (simp only [List.length_append, a0a]; done)) (by first | (rw [a0a]; kernel_rfl) | (simp only [List.length_append, a0a]; kernel_rfl)) (a0j _ _) ?_
 intro w3 st3
 clear st2
 have hfr := st3.fr
 clear st3
 go_wp2_with fail
 go_ret2
 exact ⟨rfl, hfr⟩
theorem v0p (a : Option Addr) (n c : Nat) (b : List UInt8) (ar : Option Addr) (nr cr : Nat) (r : List UInt8) (w : World) (hb : PartIs w (.slice a n c) b) (hr : RdB w ar nr r) (hk : b0Q b = true) (hq : b0m mQ r = true) :
  Calls Tryz.prog 43 #[.slice a n c, .slice ar nr cr] w fun e w' => ∃ v, e = .returned (.tuple #[v, .int .i64 0]) ∧ OwnU w' v (b0g (a0L (lfP b) (a0V (beN r) gP))) ∧ Fr Nob w w' := by
 have HK := qH hk
 have hl := k0n hb
 unfold b0Q at hk
 rw [hl] at hk
 simp only [Bool.and_eq_true, decide_eq_true_eq] at hk
 have hI0 : ¬ ((n : Int) < 1) := by omega
 have hI : ¬ ((64 : Int) < (n : Int)) := by omega
 have HB := qH hb
 have HR := qH hr
 have HN := qH hq
 clear hk hl hb hr hq
 have st0 := St.start Nob w
 go_enter Tryz.func43, Tryz.ntmps43
 go_wp2_with fail
 refine (A0n mQ .one ar nr cr r _ (HR.out.still st0.fr) HN.out).mono ?_
 rintro e' w1 ⟨rfl, hf1⟩
 have st1 := st0.keep hf1
 clear st0 hf1
 go_wp2_with (with_reducible refine wSk 6 ?_)
 refine a0c st1 rfl rfl (z := zAd) (by kernel_rfl) (cw 4 0) (by rw [a0g]; rfl) ?_
 intro g6 w2 st2
 clear st1
 go_wp2_with (with_reducible refine wSn ?_)
 refine a0d st2 0 rfl rfl rfl rfl rfl (by first | (simp only [a0a]; done) | (simp only [List.length_append, a0a]; done)) (by first | (rw [a0a]; kernel_rfl) | (simp only [List.length_append, a0a]; kernel_rfl)) (a0j _ _) ?_
 intro w3 st3
 clear st2
 clear hI0 hI
 go_wp2_with fail
 refine wp_region_noPanic ?_
 have hd3 := st3.drew
 clear st3
 refine e0X (fun wx => St Nob w wx [(g6, cw 4 (elN mQ (beN r)), 68)] ∧ Fr Nob (World.drew _) wx) [0, 1, 2, 3, 4, 5, 6, 7, 8] [] (fun i => match i with | 0 => [] | 1 => [0] | 2 => [] | 3 => [] | 4 => [2, 3] | 5 => [1, 4] | 6 => [5] | 7 => [6] | 8 => [6] | _ => []) (fun i x wx => match i with | 0 => x 0 = .slice a n c | 1 => ∃ p q, x 1 = chV p (b0g (lfP b)).length q 0 ∧ OwnU wx (.slice p (b0g (lfP b)).length q) (b0g (lfP b)) | 2 => x 2 = i4 (elN mQ (beN r)) | 3 => ∃ p m q, x 3 = .slice p m q ∧ BPart wx (.slice p m q) (b0g gP) | 4 => ∃ p m q g2 g3, x 4 = .func (.func 165) #[] #[.pointer (some ⟨g2, 0, none⟩), .pointer (some ⟨g3, 0, none⟩)] ∧ Has wx g2 (cw 4 (elN mQ (beN r))) 68 ∧ Has wx g3 [.slice p m q] 22 ∧ BPart wx (.slice p m q) (b0g gP) | 5 => ∃ p q, x 5 = chV p (b0g (a0L (lfP b) (a0V (beN r) gP))).length q 0 ∧ OwnU wx (.slice p (b0g (a0L (lfP b) (a0V (beN r) gP))).length q) (b0g (a0L (lfP b) (a0V (beN r) gP))) | 6 => ∃ p q, x 6 = .tuple #[.slice p (b0g (a0L (lfP b) (a0V (beN r) gP))).length q, .int .i64 0] ∧ OwnU wx (.slice p (b0g (a0L (lfP b) (a0V (beN r) gP))).length q) (b0g (a0L (lfP b) (a0V (beN r) gP))) | 7 => ∃ p q, x 7 = .slice p (b0g (a0L (lfP b) (a0V (beN r) gP))).length q ∧ OwnU wx (.slice p (b0g (a0L (lfP b) (a0V (beN r) gP))).length q) (b0g (a0L (lfP b) (a0V (beN r) gP))) | 8 => x 8 = .int .i64 0 | _ => True) 10 (.w 9 (.m 10 .nil)) ?_ (fun x => ?_) (by kernel_rfl) (by kernel_rfl) (fun _ _ _ _ _ h => h) ⟨hd3, Fr.refl _ _⟩ (fun _ _ h k => ⟨h.1.keep k, h.2.then k⟩) ?_ ?_
 rotate_left 1
 ·simp only [g0E, y0h, Act.put, List.getElem?_toArray, List.getElem?_cons_zero, List.getElem?_cons_succ, List.setIfInBounds_toArray, List.set_cons_zero, List.set_cons_succ]
  exact rfl
 refine a0P rfl rfl (fun x wx hG hp => ?_) (fun y _ _ h k => h) ?_
 ·try dsimp only
  clear hp
  exact g0I (v := .slice a n c) (by go_simp; try with_reducible rfl) rfl
 refine a0P rfl rfl (fun x wx hG hp => ?_) (fun y _ _ h k => by obtain ⟨p, q, h1, h2⟩ := h; exact ⟨p, q, h1, h2.still k⟩) ?_
 ·try dsimp only
  have e0 : x 0 = .slice a n c := hp 0 (by decide)
  generalize x 0 = v0 at e0 ⊢
  subst e0
  clear hp
  refine g0F rfl Tryz.call105 (vs := [.slice a n c]) rfl ?_
  refine (j0i a n c b _ (HB.out.still hG.1.fr) HK.out).mono ?_
  rintro e w' ⟨p, q, rfl, ho, hf⟩
  exact ⟨_, rfl, hf, p, q, rfl, ho⟩
 refine a0P rfl rfl (fun x wx hG hp => ?_) (fun y _ _ h k => h) ?_
 ·try dsimp only
  clear hp
  exact g0I (v := i4 (elN mQ (beN r))) (e0L (hG.1.at 0 rfl) (x := .tmp 6) (p := 0) rfl rfl (cw 4 (elN mQ (beN r))) dZl Tryz.underlying68 rfl (by rw [a0a]; kernel_rfl)) rfl
 refine a0P rfl rfl (fun x wx hG hp => ?_) (fun y _ _ h k => by obtain ⟨p, m, q, h1, h2⟩ := h; exact ⟨p, m, q, h1, h2.still k⟩) ?_
 ·try dsimp only
  clear hp
  refine g0F rfl Tryz.call29 (vs := []) rfl ?_
  refine (x0y _).mono ?_
  rintro e w' ⟨v, rfl, ho, hf⟩
  obtain ⟨p, q, rfl, -⟩ := Own.form ho
  exact ⟨_, rfl, hf, p, _, q, rfl, ho.part⟩
 refine a0P rfl rfl (fun x wx hG hp => ?_) (fun y _ _ h k => by obtain ⟨p, m, q, g2, g3, h1, h2, h3, h4⟩ := h; exact ⟨p, m, q, g2, g3, h1, h2.keep k id, h3.keep k id, h4.still k⟩) ?_
 ·try dsimp only
  have e2 : x 2 = i4 (elN mQ (beN r)) := hp 2 (by decide)
  generalize x 2 = v2 at e2 ⊢
  subst e2
  have e3 : ∃ p m q, x 3 = .slice p m q ∧ BPart wx (.slice p m q) (b0g gP) := hp 3 (by decide)
  obtain ⟨a3, n3, c3, e3, HL3⟩ := e3
  generalize x 3 = v3 at e3 ⊢
  subst e3
  clear hp
  refine g0F rfl Tryz.call109 (vs := [i4 (elN mQ (beN r)), .slice a3 n3 c3]) rfl ?_
  refine (y0d (beN r) a3 n3 c3 _).mono ?_
  rintro e w' ⟨g2, g3, rfl, h2, h3, hf⟩
  exact ⟨_, rfl, hf, a3, n3, c3, g2, g3, rfl, h2, h3, HL3.still hf⟩
 refine a0P rfl rfl (fun x wx hG hp => ?_) (fun y _ _ h k => by obtain ⟨p, q, h1, h2⟩ := h; exact ⟨p, q, h1, h2.still k⟩) ?_
 ·try dsimp only
  have e1 : ∃ p q, x 1 = chV p (b0g (lfP b)).length q 0 ∧ OwnU wx (.slice p (b0g (lfP b)).length q) (b0g (lfP b)) := hp 1 (by decide)
  obtain ⟨a1, c1, e1, HL1⟩ := e1
  generalize x 1 = v1 at e1 ⊢
  subst e1
  have e4 : ∃ p m q g2 g3, x 4 = .func (.func 165) #[] #[.pointer (some ⟨g2, 0, none⟩), .pointer (some ⟨g3, 0, none⟩)] ∧ Has wx g2 (cw 4 (elN mQ (beN r))) 68 ∧ Has wx g3 [.slice p m q] 22 ∧ BPart wx (.slice p m q) (b0g gP) := hp 4 (by decide)
  obtain ⟨a4, n4, c4, g2, g3, e4, HA, HB4, HC⟩ := e4
  generalize x 4 = v4 at e4 ⊢
  subst e4
  clear hp
  refine g0F rfl Tryz.call106 (vs := [chV a1 (b0g (lfP b)).length c1 0, .func (.func 165) #[] #[.pointer (some ⟨g2, 0, none⟩), .pointer (some ⟨g3, 0, none⟩)]]) rfl ?_
  have hbs := A0P (b := b) HN.out
  have ht := s0z g2 g3 a1 (b0g (lfP b)).length c1 wx _ _ (fun wy hfx => v0c (beN r) g2 g3 a1 (b0g (lfP b)).length c1 (b0g (lfP b)) a4 n4 c4 (b0g gP) wy (HA.keep hfx id) (HB4.keep hfx id) ((OwnU.part HL1).still hfx) (HC.still hfx))
  rw [hbs.1, hbs.2] at ht
  refine ht.mono ?_
  rintro e w' ⟨p, q, rfl, ho, hf⟩
  exact ⟨_, rfl, hf, p, q, rfl, ho⟩
 refine a0P rfl rfl (fun x wx hG hp => ?_) (fun y _ _ h k => by obtain ⟨p, q, h1, h2⟩ := h; exact ⟨p, q, h1, h2.still k⟩) ?_
 ·try dsimp only
  have e5 : ∃ p q, x 5 = chV p (b0g (a0L (lfP b) (a0V (beN r) gP))).length q 0 ∧ OwnU wx (.slice p (b0g (a0L (lfP b) (a0V (beN r) gP))).length q) (b0g (a0L (lfP b) (a0V (beN r) gP))) := hp 5 (by decide)
  obtain ⟨a5, c5, e5, HL5⟩ := e5
  generalize x 5 = v5 at e5 ⊢
  subst e5
  clear hp
  refine g0F rfl Tryz.call108 (vs := [chV a5 (b0g (a0L (lfP b) (a0V (beN r) gP))).length c5 0]) rfl ?_
  refine (o0D _ _ _ _).mono ?_
  rintro e w' ⟨rfl, hf⟩
  exact ⟨_, rfl, hf, _, _, rfl, HL5.still hf⟩
 refine a0P rfl rfl (fun x wx hG hp => ?_) (fun y _ _ h k => by obtain ⟨p, q, h1, h2⟩ := h; exact ⟨p, q, h1, h2.still k⟩) ?_
 ·try dsimp only
  have e6 : ∃ p q, x 6 = .tuple #[.slice p (b0g (a0L (lfP b) (a0V (beN r) gP))).length q, .int .i64 0] ∧ OwnU wx (.slice p (b0g (a0L (lfP b) (a0V (beN r) gP))).length q) (b0g (a0L (lfP b) (a0V (beN r) gP))) := hp 6 (by decide)
  obtain ⟨a6, c6, e6, HL6⟩ := e6
  generalize x 6 = v6 at e6 ⊢
  subst e6
  clear hp
  exact g0I (v := .slice a6 (b0g (a0L (lfP b) (a0V (beN r) gP))).length c6) (by go_simp; try with_reducible rfl) ⟨_, _, rfl, HL6⟩
 refine a0P rfl rfl (fun x wx hG hp => ?_) (fun y _ _ h k => h) ?_
 ·try dsimp only
  have e6 : ∃ p q, x 6 = .tuple #[.slice p (b0g (a0L (lfP b) (a0V (beN r) gP))).length q, .int .i64 0] ∧ OwnU wx (.slice p (b0g (a0L (lfP b) (a0V (beN r) gP))).length q) (b0g (a0L (lfP b) (a0V (beN r) gP))) := hp 6 (by decide)
  obtain ⟨a6, c6, e6, HL6⟩ := e6
  generalize x 6 = v6 at e6 ⊢
  subst e6
  clear hp
  exact g0I (v := .int .i64 0) (by go_simp; try with_reducible rfl) rfl
 exact trivial
 intro x w4 hG hp
 try dsimp only
 have e7 : ∃ p q, x 7 = .slice p (b0g (a0L (lfP b) (a0V (beN r) gP))).length q ∧ OwnU w4 (.slice p (b0g (a0L (lfP b) (a0V (beN r) gP))).length q) (b0g (a0L (lfP b) (a0V (beN r) gP))) := hp 7 (by decide)
 obtain ⟨a7, c7, e7, HL7⟩ := e7
 generalize x 7 = v7 at e7 ⊢
 subst e7
 have e8 : x 8 = .int .i64 0 := hp 8 (by decide)
 generalize x 8 = v8 at e8 ⊢
 subst e8
 clear hp
 generalize x 0 = v0
 generalize x 1 = v1
 generalize x 2 = v2
 generalize x 3 = v3
 generalize x 4 = v4
 generalize x 5 = v5
 generalize x 6 = v6
 have st4 := hG.1
 clear hG hd3
 refine a0l (v := ?_) rfl rfl (fun wx => ?_) ?_
 rotate_left 1
 ·(go_simp; with_reducible rfl)
 try simp only [clL]
 refine a0o rfl rfl ?_
 go_simp
 try simp only [clL]
 refine a0i ?_
 refine NoPanic.normal ?_
 have HO := qH HL7
 have hfr := st4.fr
 clear st4 HL7
 go_wp2_with fail
 go_ret2
 exact ⟨_, rfl, HO.out, hfr⟩
theorem y0q (a : Option Addr) (n c : Nat) (b : List UInt8) (ar : Option Addr) (nr cr : Nat) (r : List UInt8) (w : World) (hb : PartIs w (.slice a n c) b) (hr : RdB w ar nr r) :
  Calls Tryz.prog 43 #[.slice a n c, .slice ar nr cr] w fun e w' => ∃ v, e = .returned (.tuple #[v, .int .i64 (blE b r)]) ∧ OwnU w' v (blS b r) ∧ Fr Nob w w' := by
 cases hk : b0Q b with
 | false =>
  have hl := k0n hb
  rw [(A0c hk).1, (A0c hk).2]
  unfold b0Q at hk
  rw [hl] at hk
  by_cases h1 : n < 1
  ·exact (v0n a n c _ w h1).mono fun e w' k => ⟨_, k.1, OwnU.nil _, k.2⟩
  ·have h2 : 64 < n := by
    have h3 : decide (1 ≤ n) = true := decide_eq_true (by omega)
    rw [h3, Bool.true_and] at hk
    have := of_decide_eq_false hk
    omega
   exact (v0o a n c _ w h2).mono fun e w' k => ⟨_, k.1, OwnU.nil _, k.2⟩
 | true =>
  cases hq : b0m mQ r with
  | false =>
   rw [(A0b hk hq).1, (A0b hk hq).2]
   exact (y0p a n c b ar nr cr r w hb hr hk hq).mono fun e w' k => ⟨_, k.1, OwnU.nil _, k.2⟩
  | true =>
   rw [(v0m hk hq).1, (v0m hk hq).2]
   exact v0p a n c b ar nr cr r w hb hr hk hq
end
section
open Go.RowKit Go.Mv Mvp Mvq
noncomputable def aR : (p : Pt) → onC p → RT
 | .A x y, h => A0E x y h
 | .O, _ => noR
theorem A0Q : ∀ (p : Pt) (h : onC p), (aR p h).pt = p
 | .A x y, h => r0S x y h
 | .O, _ => w0c
theorem B0o {p : Pt} (h : onC p) {x y : K} (e : p = .A x y) : (aR p h).L = rpL x y 1 := by subst e; rfl
noncomputable def g0o (lab l : List UInt8) : RT := aR (e0P lab l).pt (e0P lab l).onP
theorem v0q (lab l : List UInt8) : (g0o lab l).pt = (e0P lab l).pt := A0Q _ _
theorem s0T {lab l : List UInt8} {x y : K} (e : (e0P lab l).pt = .A x y) : (g0o lab l).L = rpL x y 1 := B0o _ e
theorem s0U {lab l : List UInt8} {k n : Nat} (hk : k < 256) (hn : hN lab l k = n) (h1 : n < fP) (h2 : b0I fP (d0b n) = true) (h0 : c0f lab l k = []) : (g0o lab l).L = rpL (kc n) (kc (rtV fP (d0b n))) 1 := by
 have h2' : b0I mP.M (d0b n) = true := by rw [c0w]; exact h2
 refine s0T ?_
 rw [j0e hk (l0Q hn (by rw [c0w]; exact h1) h2') h0, j0J, A0B n h2']
theorem q0c {lab l : List UInt8} (h0 : c0f lab l 256 = []) : (g0o lab l).L = rpL (kc gXn) (kc gYn) 1 := by
 refine s0T ?_
 rw [j0d h0, o0a]
theorem k0o (x y z : K) : ∀ v ∈ rpL x y z, v.oneCell' = true := by unfold rpL; exact a0X _ _ _
theorem z0V (n : Nat) (hlt : n < fP) (hr : b0I fP (d0b n) = true) (w : World) : Calls Tryz.prog 141 #[i4 n] w fun e w' => e = .returned (.tuple #[.agg (rpL (kc n) (kc (rtV fP (d0b n))) 1).toArray, .bool true]) ∧ Fr Nob w w' := by
 have h := A0G n hr w
 rwa [j0W, Nat.mod_eq_of_lt hlt] at h
theorem z0W (n : Nat) (hlt : n < fP) (hr : b0I fP (d0b n) = false) (w : World) : Calls Tryz.prog 141 #[i4 n] w fun e w' => e = .returned (.tuple #[.agg (rpL (kc n) 0 1).toArray, .bool false]) ∧ Fr Nob w w' := by
 have h := A0H n hr w
 rwa [j0W, Nat.mod_eq_of_lt hlt] at h
theorem y0r (l : List UInt8) (w : World) : Calls Tryz.prog 122 #[fv mP.M, .string (mkS l)] w fun e w' => ∃ N : Nat, e = .returned (.tuple #[i4 N, .bool (b0m mP l)]) ∧ (b0m mP l = true → N = beN l) ∧ Fr Nob w w' := by
 cases h : b0m mP l with
 | true =>
  refine (o0n mP b0K.lt (mkS l) w (by rw [b0n]; exact h)).mono ?_
  rintro e w' ⟨rfl, hf⟩
  rw [b0n]
  exact ⟨_, rfl, fun _ => rfl, hf⟩
 | false =>
  refine (o0o mP b0K.lt (mkS l) w (by rw [b0n]; exact h)).mono ?_
  rintro e w' ⟨N, rfl, hf⟩
  exact ⟨N, rfl, fun h => (by cases h), hf⟩
theorem A0R (lab l : List UInt8) (k : Nat) : hN lab l k = beN (g0n (d0x ++ lab) [l, [UInt8.ofNat k]]) := y0j lab l k
theorem v0r {l : List UInt8} (h1 : l.length = 32) (h2 : beN l < mP.M) : b0m mP l = true := by unfold b0m; rw [decide_eq_true h1, decide_eq_true h2]; rfl
theorem n0o : mkS [] = ⟨#[]⟩ := rfl
theorem s0V : (Tryz.prog.info? 9).map (fun i => (i.zero, i.size, i.bytes)) = some (some (.string ⟨#[]⟩), 1, 16) := by kernel_rfl
attribute [local irreducible] a0G lw mix cw b0q b0y b0p a0K a0r beN b0F a0U b0D a0I a0R elN mdL b0m rtV b0I kN kc c0d b0g f0Y noR c0x f0h RT.L g0n hB hN d0t c0f e0P atY d0b m0D rpL mkS
theorem s0W (lab : ByteArray) (l : List UInt8) (hsz : lab.size ≤ 40000) (hll : l.length ≤ 40000) (w : World) : Calls Tryz.prog 110 #[.string lab, .string (mkS l)] w fun e w' => e = .returned (.agg (g0o lab.data.toList l).L.toArray) ∧ Fr Nob w w' := by
 have HSZ := qH hsz
 have HLL := qH hll
 clear hsz hll
 have st0 := St.start Nob w
 go_enter Tryz.func110, Tryz.ntmps110
 go_wp2_with (with_reducible refine wSk 4 ?_)
 refine a0c st0 rfl rfl (z := zAc) (by kernel_rfl) (cw 12 0) (by rw [a0g]; rfl) ?_
 intro g4 w1 st1
 clear st0
 go_wp2
 go_loopw [5] (fun i wr => ∃ k : Nat, k ≤ 256 ∧ i = .int .i64 (k : Int) ∧ c0f lab.data.toList l k = [] ∧ St Nob w wr [(g4, cw 12 0, 62)]) (fun i _ => 256 - (intOf i).toNat)
 case atStart => exact ⟨0, by omega, rfl, j0c _ _, st1⟩
 case round =>
  obtain ⟨k, hk, rfl, hnone, st⟩ := hrel
  clear st1
  have HN0 := qH hnone
  clear hnone
  rcases Nat.lt_or_ge k 256 with hk2 | hk2
  ·have hltI : (k : Int) < 256 := by omega
   have hk0 : (0 : Int) ≤ (k : Int) := by omega
   have hk8 : (k : Int) % 256 = (k : Int) := by omega
   have HLT := qH hk2
   clear hk2 hk
   have hn := A0R lab.data.toList l k
   generalize hT : g0n (d0x ++ lab.data.toList) [l, [UInt8.ofNat k]] = T at *
   have HT := qH hT
   have HTL := qH (show T.length = 32 by rw [← hT]; exact v0a _ _)
   have HN := qH hn
   clear hT hn
   have hbb : b0m mP T = true → beN T < fP := fun h => by have := x0C mP T h; rwa [c0w] at this
   have HBB := qH hbb
   clear hbb
   generalize hb : b0m mP T = b at *
   have HB := qH hb
   clear hb
   go_wp2_with fail
   refine wp_region_noPanic ?_
   have hd1 := st.drew
   clear st
   refine e0X (fun wx => St Nob w wx [(g4, cw 12 0, 62)] ∧ Fr Nob (World.drew _) wx) [0, 1, 2, 3, 4, 5, 6, 7, 8, 9, 10, 11, 12, 13, 14] [13] (fun i => match i with | 0 => [] | 1 => [] | 2 => [1] | 3 => [] | 4 => [] | 5 => [4] | 6 => [5] | 7 => [6] | 8 => [3, 7] | 9 => [2, 8] | 10 => [0, 9] | 11 => [10] | 12 => [11] | 13 => [11] | 14 => [] | _ => []) (fun i x wx => match i with | 0 => x 0 = fv mP.M | 1 => x 1 = .string lab | 2 => x 2 = .string (mkS (d0x ++ lab.data.toList)) | 3 => x 3 = .string (mkS l) | 4 => x 4 = .int .i64 (k : Int) | 5 => x 5 = .int .u8 (k : Int) | 6 => ∃ g, x 6 = .slice (some ⟨g, 0, none⟩) 1 1 ∧ Has wx g (bs [UInt8.ofNat k]) 5 | 7 => x 7 = .string (mkS [UInt8.ofNat k]) | 8 => ∃ g, x 8 = .slice (some ⟨g, 0, none⟩) 2 2 ∧ Has wx g (ss [l, [UInt8.ofNat k]]) 9 | 9 => x 9 = .string (mkS T) | 10 => ∃ N : Nat, x 10 = .tuple #[i4 N, .bool b] ∧ (b = true → N = beN T) | 11 => ∃ N : Nat, x 11 = .tuple #[i4 N, .bool b] ∧ (b = true → N = beN T) | 12 => ∃ N : Nat, x 12 = i4 N ∧ (b = true → N = beN T) | 13 => x 13 = .bool b | 14 => ∃ g, x 14 = .pointer (some ⟨g, 0, none⟩) ∧ Has wx g (cw 4 0) 60 ∧ (World.drew wr).heap.size ≤ g | _ => True) 15 (.m 15 (.w 16 .nil)) ?_ (fun x => ?_) (by kernel_rfl) (by kernel_rfl) (fun _ _ _ _ _ h => h) ⟨hd1, Fr.refl _ _⟩ (fun _ _ h k => ⟨h.1.keep k, h.2.then k⟩) ?_ ?_
   rotate_left 1
   ·simp only [g0E, y0h, Act.put, List.getElem?_toArray, List.getElem?_cons_zero, List.getElem?_cons_succ, List.setIfInBounds_toArray, List.set_cons_zero, List.set_cons_succ]
    exact rfl
   refine a0P rfl rfl (fun x wx hG hp => ?_) (fun y _ _ h k => h) ?_
   ·try dsimp only
    clear hp
    refine g0F rfl Tryz.call112 (vs := []) rfl ?_
    refine (a0H _).mono ?_
    rintro e w' ⟨rfl, hf⟩
    exact ⟨_, rfl, hf, rfl⟩
   refine a0P rfl rfl (fun x wx hG hp => ?_) (fun y _ _ h k => h) ?_
   ·try dsimp only
    clear hp
    exact g0I (v := .string lab) (by go_simp; try with_reducible rfl) rfl
   refine a0P rfl rfl (fun x wx hG hp => ?_) (fun y _ _ h k => h) ?_
   ·try dsimp only
    have e1 : x 1 = .string lab := hp 1 (by decide)
    generalize x 1 = v1 at e1 ⊢
    subst e1
    clear hp
    exact g0I (j0g rfl rfl rfl Tryz.underlying9 (by have h : (⟨#[112, 111, 105, 110, 116, 32]⟩ : ByteArray).size = 6 := rfl; rw [h]; have := HSZ.out; omega) (s0D lab) _) rfl
   refine a0P rfl rfl (fun x wx hG hp => ?_) (fun y _ _ h k => h) ?_
   ·try dsimp only
    clear hp
    exact g0I (v := .string (mkS l)) (by go_simp; try with_reducible rfl) rfl
   refine a0P rfl rfl (fun x wx hG hp => ?_) (fun y _ _ h k => h) ?_
   ·try dsimp only
    clear hp
    exact g0I (v := .int .i64 (k : Int)) (by go_simp; try with_reducible rfl) rfl
   refine a0P rfl rfl (fun x wx hG hp => ?_) (fun y _ _ h k => h) ?_
   ·try dsimp only
    have e4 : x 4 = .int .i64 (k : Int) := hp 4 (by decide)
    generalize x 4 = v4 at e4 ⊢
    subst e4
    clear hp
    exact g0I (v := .int .u8 (k : Int)) (by go_simp; exact IntWalk.u8_in _ (by omega)) rfl
   refine a0P rfl rfl (fun x wx hG hp => ?_) (fun y _ _ h k => by obtain ⟨g, h1, h2⟩ := h; exact ⟨g, h1, h2.keep k id⟩) ?_
   ·try dsimp only
    have e5 : x 5 = .int .u8 (k : Int) := hp 5 (by decide)
    generalize x 5 = v5 at e5 ⊢
    subst e5
    clear hp
    refine o0I rfl Tryz.underlying22 b0u [.int .u8 (k : Int)] rfl (by intro u hu; simp only [List.mem_singleton] at hu; subst hu; rfl) rfl (bs [UInt8.ofNat k]) (by show [Value.int .u8 (k : Int)] = [Value.int .u8 ((UInt8.ofNat k).toNat : Int)]; rw [UInt8.toNat_ofNat', Nat.mod_eq_of_lt HLT.out]) (fun g w' _ _ hg => ⟨g, rfl, hg⟩)
   refine a0P rfl rfl (fun x wx hG hp => ?_) (fun y _ _ h k => h) ?_
   ·try dsimp only
    have e6 : ∃ g, x 6 = .slice (some ⟨g, 0, none⟩) 1 1 ∧ Has wx g (bs [UInt8.ofNat k]) 5 := hp 6 (by decide)
    obtain ⟨ga, e6, HGA⟩ := e6
    generalize x 6 = v6 at e6 ⊢
    subst e6
    clear hp
    exact g0I (g0V rfl Tryz.underlying22 Tryz.underlying5 Tryz.underlying9 rfl (show RdB _ _ 1 _ from Rd.whole HGA)) rfl
   refine a0P rfl rfl (fun x wx hG hp => ?_) (fun y _ _ h k => by obtain ⟨g, h1, h2⟩ := h; exact ⟨g, h1, h2.keep k id⟩) ?_
   ·try dsimp only
    have e3 : x 3 = .string (mkS l) := hp 3 (by decide)
    generalize x 3 = v3 at e3 ⊢
    subst e3
    have e7 : x 7 = .string (mkS [UInt8.ofNat k]) := hp 7 (by decide)
    generalize x 7 = v7 at e7 ⊢
    subst e7
    clear hp
    refine o0I rfl Tryz.underlying40 s0V [.string (mkS l), .string (mkS [UInt8.ofNat k])] rfl (by intro u hu; simp only [List.mem_cons, List.not_mem_nil, or_false] at hu; rcases hu with rfl | rfl <;> rfl) rfl (ss [l, [UInt8.ofNat k]]) rfl (fun g w' _ _ hg => ⟨g, rfl, hg⟩)
   refine a0P rfl rfl (fun x wx hG hp => ?_) (fun y _ _ h k => h) ?_
   ·try dsimp only
    have e2 : x 2 = .string (mkS (d0x ++ lab.data.toList)) := hp 2 (by decide)
    generalize x 2 = v2 at e2 ⊢
    subst e2
    have e8 : ∃ g, x 8 = .slice (some ⟨g, 0, none⟩) 2 2 ∧ Has wx g (ss [l, [UInt8.ofNat k]]) 9 := hp 8 (by decide)
    obtain ⟨gb, e8, HGB⟩ := e8
    generalize x 8 = v8 at e8 ⊢
    subst e8
    clear hp
    refine g0F rfl Tryz.call126 (vs := [.string (mkS (d0x ++ lab.data.toList)), .slice (some ⟨gb, 0, none⟩) 2 2]) rfl ?_
    refine (u0Y (mkS (d0x ++ lab.data.toList)) (some ⟨gb, 0, none⟩) 2 [l, [UInt8.ofNat k]] _ (by have := HSZ.out; have := HLL.out; rw [a0Q]; simp only [List.length_append, k0s, List.map_cons, List.map_nil, List.foldr_cons, List.foldr_nil, List.length_cons, List.length_nil, d0x, b0R]; omega) (by simp) (by have h := Rd.whole HGB; exact h)).mono ?_
    rintro e w' ⟨rfl, hf⟩
    exact ⟨_, rfl, hf, by show Value.string _ = Value.string _; rw [b0n, HT.out]⟩
   refine a0P rfl rfl (fun x wx hG hp => ?_) (fun y _ _ h k => h) ?_
   ·try dsimp only
    have e0 : x 0 = fv mP.M := hp 0 (by decide)
    generalize x 0 = v0 at e0 ⊢
    subst e0
    have e9 : x 9 = .string (mkS T) := hp 9 (by decide)
    generalize x 9 = v9 at e9 ⊢
    subst e9
    clear hp
    refine g0F rfl Tryz.call122 (vs := [fv mP.M, .string (mkS T)]) rfl ?_
    refine (y0r T _).mono ?_
    rintro e w' ⟨N, rfl, hN, hf⟩
    rw [HB.out] at hN ⊢
    exact ⟨_, rfl, hf, N, rfl, hN⟩
   refine a0P rfl rfl (fun x wx hG hp => ?_) (fun y _ _ h k => h) ?_
   ·try dsimp only
    have e10 : ∃ N : Nat, x 10 = .tuple #[i4 N, .bool b] ∧ (b = true → N = beN T) := hp 10 (by decide)
    obtain ⟨N, e10, HNN⟩ := e10
    generalize x 10 = v10 at e10 ⊢
    subst e10
    clear hp
    exact g0I (v := .tuple #[i4 N, .bool b]) (by go_simp; try with_reducible rfl) ⟨N, rfl, HNN⟩
   refine a0P rfl rfl (fun x wx hG hp => ?_) (fun y _ _ h k => h) ?_
   ·try dsimp only
    have e11 : ∃ N : Nat, x 11 = .tuple #[i4 N, .bool b] ∧ (b = true → N = beN T) := hp 11 (by decide)
    obtain ⟨N, e11, HNN⟩ := e11
    generalize x 11 = v11 at e11 ⊢
    subst e11
    clear hp
    exact g0I (v := i4 N) (by go_simp; try with_reducible rfl) ⟨N, rfl, HNN⟩
   refine p0W rfl rfl (fun x wx hG hp => ?_) (fun y _ _ h k => h) ?_
   ·try dsimp only
    have e11 : ∃ N : Nat, x 11 = .tuple #[i4 N, .bool b] ∧ (b = true → N = beN T) := hp 11 (by decide)
    obtain ⟨N, e11, HNN⟩ := e11
    generalize x 11 = v11 at e11 ⊢
    subst e11
    clear hp
    exact ⟨.bool b, fun wx => by go_simp; try with_reducible rfl, rfl⟩
   refine a0P rfl rfl (fun x wx hG hp => ?_) (fun y _ _ h k => by obtain ⟨g, h1, h2, h3⟩ := h; exact ⟨g, h1, h2.keep k id, h3⟩) ?_
   ·try dsimp only
    clear hp
    exact s0I rfl e0V (cw 4 0) rfl (fun g w' _ hle hg => ⟨g, rfl, hg, Nat.le_trans hG.2.size hle⟩)
   exact trivial
   intro x w2 hG hp
   try dsimp only
   have e12 : ∃ N : Nat, x 12 = i4 N ∧ (b = true → N = beN T) := hp 12 (by decide)
   obtain ⟨N, e12, HNN⟩ := e12
   generalize x 12 = v12 at e12 ⊢
   subst e12
   have e13 : x 13 = .bool b := hp 13 (by decide)
   generalize x 13 = v13 at e13 ⊢
   subst e13
   have e14 : ∃ g, x 14 = .pointer (some ⟨g, 0, none⟩) ∧ Has w2 g (cw 4 0) 60 ∧ (World.drew wr).heap.size ≤ g := hp 14 (by decide)
   obtain ⟨ga14, e14, HG14, HL14⟩ := e14
   generalize x 14 = v14 at e14 ⊢
   subst e14
   clear hp
   generalize x 0 = v0
   generalize x 1 = v1
   generalize x 2 = v2
   generalize x 3 = v3
   generalize x 4 = v4
   generalize x 5 = v5
   generalize x 6 = v6
   generalize x 7 = v7
   generalize x 8 = v8
   generalize x 9 = v9
   generalize x 10 = v10
   generalize x 11 = v11
   have st2 := hd1.new hG.2 HG14 HL14
   try simp only [List.cons_append, List.nil_append] at st2
   clear HL14 HG14
   clear hG hd1
   refine a0o rfl rfl ?_
   refine a0h st2 1 rfl rfl rfl rfl (by first | (simp only [a0a]; done) | (simp only [List.length_append, a0a, RT.len, a0W]; done)) (by first | (rw [a0a]; kernel_rfl) | (rw [RT.len]; kernel_rfl) | (rw [a0W]; kernel_rfl) | (simp only [List.length_append, a0a]; kernel_rfl) | (simp only [List.length_append, a0a, RT.len, a0W]; kernel_rfl)) (a0j _ _) ?_
   intro w3 st3
   try simp only [List.set_cons_zero, List.set_cons_succ] at st3
   clear st2
   try simp only [Act.put]
   refine a0l (v := ?_) rfl rfl (fun wx => ?_) ?_
   rotate_left 1
   ·(go_simp; with_reducible rfl)
   try simp only [clL]
   refine a0i ?_
   refine NoPanic.normal ?_
   have HNE := qH HNN
   clear HNN
   rcases b with _ | _
   ·skip
    have HC := qH (show d0t lab.data.toList l k = none from h0e HN.out fun h => by have h3 := v0r (HTL.out) h.1; rw [HB.out] at h3; cases h3)
    go_wp2_with fail
    go_roundw
    case rel => exact ⟨k + 1, by have := HLT.out; omega, by go_num, by rw [f0X HC.out]; exact HN0.out, St.less st3 (by simp)⟩
    case measure => have := HLT.out; simp [intOf]; omega
   ·have hlt := HBB.out rfl
    obtain rfl : N = beN T := HNE.out rfl
    clear HNE HBB
    generalize beN T = n at *
    have HLN := qH hlt
    clear hlt
    rcases hr : b0I fP (d0b n) with _ | _
    ·have HR := qH hr
     clear hr
     go_wp2_with (with_reducible refine wSk 30 ?_)
     refine a0k st3 1 rfl rfl rfl Tryz.underlying60 rfl (by first | (rw [a0a]; kernel_rfl) | (rw [RT.len]; kernel_rfl) | (rw [a0W]; kernel_rfl) | (simp only [List.length_append, a0a]; kernel_rfl) | (simp only [List.length_append, a0a, RT.len, a0W]; kernel_rfl)) ?_
     go_wp2_with fail
     refine (z0W n HLN.out HR.out _).mono ?_
     rintro e' w4 ⟨rfl, hf4⟩
     have st4 := st3.keep hf4
     clear st3 hf4
     go_wp2_with (with_reducible refine wSk 8 ?_)
     refine a0c st4 rfl rfl (z := zAc) (by kernel_rfl) (cw 12 0) (by rw [a0g]; rfl) ?_
     intro g8 w5 st5
     clear st4
     go_wp2_with (with_reducible refine wSn ?_)
     refine a0d st5 2 rfl rfl rfl rfl rfl (by first | (simp only [a0a]; done) | (simp only [a0a, a0W]; done)) (by first | (rw [a0a]; kernel_rfl) | (simp only [a0W]; kernel_rfl)) (k0o _ _ _) ?_
     intro w6 st6
     clear st5
     have HC := qH (show d0t lab.data.toList l k = none from h0e HN.out fun h => by rw [c0w, HR.out] at h; exact absurd h.2 (by decide))
     go_wp2_with fail
     go_roundw
     case rel => exact ⟨k + 1, by have := HLT.out; omega, by go_num, by rw [f0X HC.out]; exact HN0.out, St.less st6 (by simp)⟩
     case measure => have := HLT.out; simp [intOf]; omega
    ·have HR := qH hr
     clear hr
     go_wp2_with (with_reducible refine wSk 30 ?_)
     refine a0k st3 1 rfl rfl rfl Tryz.underlying60 rfl (by first | (rw [a0a]; kernel_rfl) | (rw [RT.len]; kernel_rfl) | (rw [a0W]; kernel_rfl) | (simp only [List.length_append, a0a]; kernel_rfl) | (simp only [List.length_append, a0a, RT.len, a0W]; kernel_rfl)) ?_
     go_wp2_with fail
     refine (z0V n HLN.out HR.out _).mono ?_
     rintro e' w4 ⟨rfl, hf4⟩
     have st4 := st3.keep hf4
     clear st3 hf4
     go_wp2_with (with_reducible refine wSk 8 ?_)
     refine a0c st4 rfl rfl (z := zAc) (by kernel_rfl) (cw 12 0) (by rw [a0g]; rfl) ?_
     intro g8 w5 st5
     clear st4
     go_wp2_with (with_reducible refine wSn ?_)
     refine a0d st5 2 rfl rfl rfl rfl rfl (by first | (simp only [a0a]; done) | (simp only [a0a, a0W]; done)) (by first | (rw [a0a]; kernel_rfl) | (simp only [a0W]; kernel_rfl)) (k0o _ _ _) ?_
     intro w6 st6
     clear st5
     have HH := qH (s0U HLT.out HN.out HLN.out HR.out HN0.out)
     go_wp2_with (with_reducible refine wSk 35 ?_)
     refine a0q st6 2 rfl rfl rfl Tryz.underlying62 rfl rfl (by first | (rw [a0a]; kernel_rfl) | (simp only [a0W]; kernel_rfl)) ?_
     go_wp2_with (with_reducible refine wSn ?_)
     refine a0d st6 0 rfl rfl rfl rfl rfl (by first | (simp only [a0a]; done) | (simp only [a0a, a0W]; done)) (by first | (rw [a0a]; kernel_rfl) | (simp only [a0W]; kernel_rfl)) (k0o _ _ _) ?_
     intro w7 st7
     clear st6
     have hr := st7.at 0 rfl
     have hfr := st7.fr
     clear st7
     go_wp2_with fail
     exact bodyPost_ret (a0x rfl rfl hr Tryz.underlying62 rfl (by first | (rw [a0a]; kernel_rfl) | (simp only [a0W]; kernel_rfl))) rfl ⟨by rw [HH.out], hfr⟩
  ·have hk3 : k = 256 := by omega
   subst hk3
   have hge : ¬ (((256 : Nat) : Int) < 256) := by omega
   have HH := qH (q0c HN0.out)
   go_wp2_with fail
   refine (A0X _).mono ?_
   rintro e' w2 ⟨rfl, hf2⟩
   have st2 := st.keep hf2
   clear st hf2
   go_wp2_with (with_reducible refine wSn ?_)
   refine a0d st2 0 rfl rfl rfl rfl rfl (by first | (simp only [a0a]; done) | (simp only [a0a, RT.len]; done)) (by first | (rw [a0a]; kernel_rfl) | (simp only [RT.len]; kernel_rfl)) (RT.one _) ?_
   intro w3 st3
   clear st2
   have hr := st3.at 0 rfl
   have hfr := st3.fr
   clear st3
   go_wp2_with fail
   exact bodyPost_ret (a0x rfl rfl hr Tryz.underlying62 rfl (by first | (rw [a0a]; kernel_rfl) | (simp only [RT.len]; kernel_rfl))) rfl ⟨by rw [HH.out, x0M], hfr⟩
attribute [local irreducible] g0o
noncomputable def hRR : RT := g0o z0S []
end
section
open Go.RowKit Go.Mv Mvp Mvq
attribute [local irreducible] hRR e0P g0o PT.pt i0w
theorem s0X (lab s : ByteArray) (h1 : lab.size ≤ 4096) (h2 : s.size ≤ 4096) (w : World) : Calls Tryz.prog 110 #[.string lab, .string s] w fun e w' => e = .returned (.agg (g0o lab.data.toList s.data.toList).L.toArray) ∧ Fr Nob w w' := by
 have h := s0W lab s.data.toList (by omega) (by rw [b0R]; omega) w
 rwa [g0K] at h
attribute [local irreducible] a0G lw mix cw b0q b0y b0p a0K a0r beN b0F a0U b0D a0I a0R elN mdL b0m rtV b0I kN kc c0d b0g f0Y noR c0x f0h RT.L gXn gYn rpL c0N e0i g0n hB hN d0t c0f mkS
end
section
open Go.RowKit Go.Mv Mvp Mvq
noncomputable def lfR (b : List UInt8) : RT := if b0Q b = true then g0o i0n b else noR
theorem w0o {b : List UInt8} (h : b0Q b = true) : (lfR b).pt = lfP b := by unfold lfR lfP; rw [if_pos h, v0q]
theorem v0s (s : ByteArray) : b0Q s.data.toList = (decide (1 ≤ s.size) && decide (s.size ≤ 64)) := by unfold b0Q; rw [b0R]
theorem s0Y (s : ByteArray) (h2 : s.size ≤ 4096) (w : World) : Calls Tryz.prog 110 #[.string ⟨#[116, 111, 107, 101, 110]⟩, .string s] w fun e w' => e = .returned (.agg (g0o i0n s.data.toList).L.toArray) ∧ Fr Nob w w' := by
 have h := s0X ⟨#[116, 111, 107, 101, 110]⟩ s (by decide) h2 w
 rw [show (⟨#[116, 111, 107, 101, 110]⟩ : ByteArray).data.toList = i0n from rfl] at h
 exact h
attribute [local irreducible] a0G lw mix cw b0q b0y b0p a0K a0r beN b0F a0U b0D a0I a0R elN mdL b0m rtV b0I kN kc c0d b0g f0Y noR c0x f0h RT.L g0n hB hN d0t c0f rpL mkS lfR blE blS lfE lfS b0Q
theorem l0W (s : ByteArray) (hs : s.size ≤ 4096) (w : World) : Calls Tryz.prog 101 #[.string s] w fun e w' => e = .returned (.bool (b0Q s.data.toList)) ∧ Fr Nob w w' := by
 rw [v0s]
 by_cases h1 : 1 ≤ s.size
 ·by_cases h2 : s.size ≤ 64
  ·rw [decide_eq_true h1, decide_eq_true h2]
   have hI : (1 : Int) ≤ (s.size : Int) := by omega
   have hJ : (s.size : Int) ≤ 64 := by omega
   go_enter Tryz.func101, Tryz.ntmps101
   go_wp2
   go_ret
   exact ⟨rfl, Fr.refl _ _⟩
  ·rw [decide_eq_true h1, decide_eq_false h2]
   have hI : (1 : Int) ≤ (s.size : Int) := by omega
   have hJ : ¬ ((s.size : Int) ≤ 64) := by omega
   go_enter Tryz.func101, Tryz.ntmps101
   go_wp2
   go_ret
   exact ⟨rfl, Fr.refl _ _⟩
 ·rw [decide_eq_false h1, Bool.false_and]
  have hI : ¬ ((1 : Int) ≤ (s.size : Int)) := by omega
  go_enter Tryz.func101, Tryz.ntmps101
  go_wp2
  go_ret
  exact ⟨rfl, Fr.refl _ _⟩
theorem y0s (s : ByteArray) (hs : s.size ≤ 4096) (hk : b0Q s.data.toList = true) (w : World) : Calls Tryz.prog 44 #[.string s] w fun e w' => e = .returned (.tuple #[.agg (g0o i0n s.data.toList).L.toArray, .int .i64 0]) ∧ Fr Nob w w' := by
 have HS := qH hs
 have HK := qH hk
 clear hs hk
 have st0 := St.start Nob w
 go_enter Tryz.func44, Tryz.ntmps44
 go_wp2_with (with_reducible refine wSk 2 ?_)
 refine a0c st0 rfl rfl (z := zAc) (by kernel_rfl) (cw 12 0) (by rw [a0g]; rfl) ?_
 intro g2 w1 st1
 clear st0
 have hsec := fun wx => l0W s HS.out wx
 rw [HK.out] at hsec
 have HSEC := qH hsec
 clear hsec
 go_wp2_with fail
 refine (HSEC.out _).mono ?_
 rintro e' w2 ⟨rfl, hf2⟩
 have st2 := st1.keep hf2
 clear st1 hf2
 clear HSEC
 go_wp2_with fail
 refine (s0Y s HS.out _).mono ?_
 rintro e' w3 ⟨rfl, hf3⟩
 have st3 := st2.keep hf3
 clear st2 hf3
 go_wp2_with (with_reducible refine wSn ?_)
 refine a0d st3 0 rfl rfl rfl rfl rfl (by first | (simp only [a0a]; done) | (simp only [a0a, RT.len]; done)) (by first | (rw [a0a]; kernel_rfl) | (simp only [RT.len]; kernel_rfl)) (RT.one _) ?_
 intro w4 st4
 clear st3
 have hr := st4.at 0 rfl
 have hfr := st4.fr
 clear st4
 go_wp2_with fail
 exact bodyPost_ret (a0S rfl rfl hr Tryz.underlying62 rfl (by first | (rw [a0a]; kernel_rfl) | (simp only [RT.len]; kernel_rfl)) rfl) rfl ⟨rfl, hfr⟩
theorem y0t (s : ByteArray) (hs : s.size ≤ 4096) (hk : b0Q s.data.toList = false) (w : World) : Calls Tryz.prog 44 #[.string s] w fun e w' => e = .returned (.tuple #[.agg noR.L.toArray, .int .i64 2]) ∧ Fr Nob w w' := by
 have HS := qH hs
 have HK := qH hk
 clear hs hk
 have st0 := St.start Nob w
 go_enter Tryz.func44, Tryz.ntmps44
 go_wp2_with (with_reducible refine wSk 2 ?_)
 refine a0c st0 rfl rfl (z := zAc) (by kernel_rfl) (cw 12 0) (by rw [a0g]; rfl) ?_
 intro g2 w1 st1
 clear st0
 have hsec := fun wx => l0W s HS.out wx
 rw [HK.out] at hsec
 have HSEC := qH hsec
 clear hsec
 go_wp2_with fail
 refine (HSEC.out _).mono ?_
 rintro e' w2 ⟨rfl, hf2⟩
 have st2 := st1.keep hf2
 clear st1 hf2
 clear HSEC
 go_wp2_with fail
 refine (r0R _).mono ?_
 rintro e' w3 ⟨rfl, hf3⟩
 have st3 := st2.keep hf3
 clear st2 hf3
 go_wp2_with (with_reducible refine wSn ?_)
 refine a0d st3 0 rfl rfl rfl rfl rfl (by first | (simp only [a0a]; done) | (simp only [a0a, RT.len]; done)) (by first | (rw [a0a]; kernel_rfl) | (simp only [RT.len]; kernel_rfl)) (RT.one _) ?_
 intro w4 st4
 clear st3
 have hr := st4.at 0 rfl
 have hfr := st4.fr
 clear st4
 go_wp2_with fail
 exact bodyPost_ret (a0S rfl rfl hr Tryz.underlying62 rfl (by first | (rw [a0a]; kernel_rfl) | (simp only [RT.len]; kernel_rfl)) rfl) rfl ⟨rfl, hfr⟩
theorem s0Z (s : ByteArray) (hs : s.size ≤ 4096) (w : World) : Calls Tryz.prog 44 #[.string s] w fun e w' => e = .returned (.tuple #[.agg (lfR s.data.toList).L.toArray, .int .i64 (lfE s.data.toList)]) ∧ Fr Nob w w' := by
 cases hk : b0Q s.data.toList with
 | true =>
  rw [(s0Q hk).1, show lfR s.data.toList = g0o i0n s.data.toList from by unfold lfR; rw [if_pos hk]]
  exact y0s s hs hk w
 | false =>
  rw [(s0R hk).1, show lfR s.data.toList = noR from by unfold lfR; rw [hk]; rfl]
  exact y0t s hs hk w
theorem A0S {b r : List UInt8} (h1 : b0Q b = true) (h2 : b0m mQ r = true) : (f0Y (lfR b) (c0x (beN r) j0Y)).pt = a0L (lfP b) (a0V (beN r) gP) := by
 rw [j0X, r0W _ (Nat.lt_trans (o0k h2) (by decide)), u0D, w0o h1]
 rfl
theorem v0t (s r : ByteArray) (hs : s.size ≤ 4096) (hk : b0Q s.data.toList = false) (w : World) : Calls Tryz.prog 38 #[.string s, .string r] w fun e w' => e = .returned (.tuple #[.string ⟨#[]⟩, .int .i64 2]) ∧ Fr Nob w w' := by
 have HS := qH hs
 have HK := qH hk
 clear hs hk
 have st0 := St.start Nob w
 go_enter Tryz.func38, Tryz.ntmps38
 have hsec := fun wx => l0W s HS.out wx
 rw [HK.out] at hsec
 have HSEC := qH hsec
 clear hsec
 go_wp2_with fail
 refine (HSEC.out _).mono ?_
 rintro e' w1 ⟨rfl, hf1⟩
 have st1 := st0.keep hf1
 clear st0 hf1
 clear HSEC
 have hfr := st1.fr
 clear st1
 go_wp2_with fail
 go_ret2
 exact ⟨rfl, hfr⟩
theorem v0u (s r : ByteArray) (hs : s.size ≤ 4096) (hk : b0Q s.data.toList = true) (hq : b0m mQ r.data.toList = false) (w : World) : Calls Tryz.prog 38 #[.string s, .string r] w fun e w' => e = .returned (.tuple #[.string ⟨#[]⟩, .int .i64 3]) ∧ Fr Nob w w' := by
 have HS := qH hs
 have HK := qH hk
 have HQ := qH hq
 clear hs hk hq
 have st0 := St.start Nob w
 go_enter Tryz.func38, Tryz.ntmps38
 have hsec := fun wx => l0W s HS.out wx
 rw [HK.out] at hsec
 have HSEC := qH hsec
 clear hsec
 go_wp2_with fail
 refine (HSEC.out _).mono ?_
 rintro e' w1 ⟨rfl, hf1⟩
 have st1 := st0.keep hf1
 clear st0 hf1
 clear HSEC
 go_wp2_with fail
 refine (l0P r _).mono ?_
 rintro e' w2 ⟨N1, rfl, hn1, hf2⟩
 have st2 := st1.keep hf2
 have HN1 := qH hn1
 clear hn1
 clear st1 hf2
 go_wp2_with (with_reducible refine wSk 7 ?_)
 refine a0c st2 rfl rfl (z := zAd) (by kernel_rfl) (cw 4 0) (by rw [a0g]; rfl) ?_
 intro g7 w3 st3
 clear st2
 go_wp2_with (with_reducible refine wSn ?_)
 refine a0d st3 0 rfl rfl rfl rfl rfl (by first | (simp only [a0a]; done) | (simp only [List.length_append, a0a, RT.len, a0W]; done)) (by first | (rw [a0a]; kernel_rfl) | (rw [RT.len]; kernel_rfl) | (rw [a0W]; kernel_rfl) | (simp only [List.length_append, a0a]; kernel_rfl) | (simp only [List.length_append, a0a, RT.len, a0W]; kernel_rfl)) (a0j _ _) ?_
 intro w4 st4
 clear st3
 rw [HQ.out]
 have hfr := st4.fr
 clear st4
 go_wp2_with fail
 go_ret2
 exact ⟨rfl, hfr⟩
theorem v0v (s r : ByteArray) (hs : s.size ≤ 4096) (hk : b0Q s.data.toList = true) (hq : b0m mQ r.data.toList = true) (w : World) : Calls Tryz.prog 38 #[.string s, .string r] w fun e w' => e = .returned (.tuple #[.string (mkS (b0g (a0L (lfP s.data.toList) (a0V (beN r.data.toList) gP)))), .int .i64 0]) ∧ Fr Nob w w' := by
 have HS := qH hs
 have HK := qH hk
 have HQ := qH hq
 clear hs hk hq
 have st0 := St.start Nob w
 go_enter Tryz.func38, Tryz.ntmps38
 have hsec := fun wx => l0W s HS.out wx
 rw [HK.out] at hsec
 have HSEC := qH hsec
 clear hsec
 go_wp2_with fail
 refine (HSEC.out _).mono ?_
 rintro e' w1 ⟨rfl, hf1⟩
 have st1 := st0.keep hf1
 clear st0 hf1
 clear HSEC
 go_wp2_with fail
 refine (l0P r _).mono ?_
 rintro e' w2 ⟨N1, rfl, hn1, hf2⟩
 have st2 := st1.keep hf2
 have HN1 := qH hn1
 clear hn1
 clear st1 hf2
 go_wp2_with (with_reducible refine wSk 7 ?_)
 refine a0c st2 rfl rfl (z := zAd) (by kernel_rfl) (cw 4 0) (by rw [a0g]; rfl) ?_
 intro g7 w3 st3
 clear st2
 go_wp2_with (with_reducible refine wSn ?_)
 refine a0d st3 0 rfl rfl rfl rfl rfl (by first | (simp only [a0a]; done) | (simp only [List.length_append, a0a, RT.len, a0W]; done)) (by first | (rw [a0a]; kernel_rfl) | (rw [RT.len]; kernel_rfl) | (rw [a0W]; kernel_rfl) | (simp only [List.length_append, a0a]; kernel_rfl) | (simp only [List.length_append, a0a, RT.len, a0W]; kernel_rfl)) (a0j _ _) ?_
 intro w4 st4
 clear st3
 rw [HQ.out]
 rw [HN1.out HQ.out] at st4
 clear HN1
 go_wp2_with fail
 refine (s0Z s HS.out _).mono ?_
 rintro e' w5 ⟨rfl, hf5⟩
 have st5 := st4.keep hf5
 clear st4 hf5
 go_wp2_with (with_reducible refine wSk 8 ?_)
 refine a0c st5 rfl rfl (z := zAc) (by kernel_rfl) (cw 12 0) (by rw [a0g]; rfl) ?_
 intro g8 w6 st6
 clear st5
 go_wp2_with (with_reducible refine wSn ?_)
 refine a0d st6 1 rfl rfl rfl rfl rfl (by first | (simp only [a0a]; done) | (simp only [a0a, RT.len]; done)) (by first | (rw [a0a]; kernel_rfl) | (simp only [RT.len]; kernel_rfl)) (RT.one _) ?_
 intro w7 st7
 clear st6
 go_wp2_with fail
 refine wp_region_noPanic ?_
 refine a0f st7 6 [.t 0, .t 1, .c 2, .c 3, .c 4, .w 5] (.m 6 .nil) (by kernel_rfl) (by kernel_rfl) (fun _ _ _ _ _ h => h) ?_
 clear st7
 refine a0e rfl rfl rfl (fun _ => rfl) ((lfR s.data.toList).L) (fun wx hS => St.rangeL hS 1 rfl 0 _ dZl) Tryz.underlying62 rfl (by first | (rw [a0a]; kernel_rfl) | (simp only [RT.len]; kernel_rfl)) ?_
 try simp only [clL]
 refine a0e rfl rfl rfl (fun _ => rfl) (cw 4 (beN r.data.toList)) (fun wx hS => St.rangeL hS 0 rfl 0 _ dZl) Tryz.underlying60 rfl (by first | (rw [a0a]; kernel_rfl) | (rw [RT.len]; kernel_rfl) | (rw [a0W]; kernel_rfl) | (simp only [List.length_append, a0a]; kernel_rfl) | (simp only [List.length_append, a0a, RT.len, a0W]; kernel_rfl)) ?_
 try simp only [clL]
 refine a0b rfl rfl rfl Tryz.call55 (fun w hS hR => v0g (beN r.data.toList) _) (fun _ => rfl) ?_
 try simp only [clL]
 refine a0b rfl rfl rfl Tryz.call68 (fun w hS hR => m0P (lfR s.data.toList) (c0x (beN r.data.toList) j0Y) _) (fun _ => rfl) ?_
 try simp only [clL]
 refine a0b rfl rfl rfl Tryz.call45 (fun w hS hR => i0V (f0Y (lfR s.data.toList) (c0x (beN r.data.toList) j0Y)) _) (fun _ => rfl) ?_
 try simp only [clL]
 refine a0n (v := ?_) rfl rfl (fun xq wx => ?_) ?_
 rotate_left 1
 ·(go_simp; with_reducible rfl)
 try simp only [clL]
 refine a0t fun xq w8 st8 hR => ?_
 try dsimp only
 clear hR xq
 refine a0o rfl rfl ?_
 go_simp
 try simp only [clL]
 refine a0i ?_
 refine NoPanic.normal ?_
 have hfr := st8.fr
 clear st8
 go_wp2_with fail
 go_ret2
 exact ⟨by rw [A0S HK.out HQ.out]; rfl, hfr⟩
theorem v0w (s r : ByteArray) (hs : s.size ≤ 4096) (w : World) : Calls Tryz.prog 38 #[.string s, .string r] w fun e w' => e = .returned (.tuple #[.string (mkS (blS s.data.toList r.data.toList)), .int .i64 (blE s.data.toList r.data.toList)]) ∧ Fr Nob w w' := by
 cases hk : b0Q s.data.toList with
 | false => rw [(A0c hk).1, (A0c hk).2, n0o]; exact v0t s r hs hk w
 | true =>
  cases hq : b0m mQ r.data.toList with
  | false => rw [(A0b hk hq).1, (A0b hk hq).2, n0o]; exact v0u s r hs hk hq w
  | true => rw [(v0m hk hq).1, (v0m hk hq).2]; exact v0v s r hs hk hq w
end
section
open Go.RowKit Go.Mv Mvp Mvq
theorem q0d {w : World} {g : Nat} {x : List UInt8} (h : Has w g (bs (c0O x)) 5) (hx : x.length ≤ 1000000) : PartIs w (.slice (some ⟨g, 0, none⟩) x.length (x.length + 160)) x := by
 refine ⟨_, _, _, rfl, by omega, hx, ?_, Old.has h 0⟩
 have := Rd.ofHas h 0 (n := x.length) (by rw [a0F, c0I]; omega)
 rw [List.drop_zero, e0j] at this
 unfold c0O at this
 rwa [List.take_left] at this
attribute [local irreducible] a0G lw mix cw b0q b0y b0p a0K a0r beN b0F a0U b0D a0I a0R elN mdL b0m rtV b0I kN kc c0d b0g f0Y noR c0x f0h RT.L g0n hB hN d0t c0f rpL mkS lfR blE blS lfE lfS b0Q c0O
theorem g0J (s r : ByteArray) (w : World) (h1 : s.size ≤ 4096) (h2 : r.size ≤ 4096) : Calls Tryz.prog 11 #[.string s, .string r] w fun e w' => e = .returned (.bool true) ∧ Fr Nob w w' := by
 have hI1 : ¬ ((4096 : Int) < (s.size : Int)) := by omega
 have hI2 : ¬ ((4096 : Int) < (r.size : Int)) := by omega
 have HSs := qH h1
 have HSr := qH h2
 clear h1 h2
 have st0 := St.start Nob w
 go_enter Tryz.func11, Tryz.ntmps11
 go_wp2_with fail
 refine (n0E s _ (by have := HSs.out; omega)).mono ?_
 rintro e' w1 ⟨rfl, hgs, hfs, hzs⟩
 have st1 := st0.keep hfs
 clear hzs st0
 generalize w.heap.size = gi at *
 have hrds : RdB w1 (some ⟨gi, 0, none⟩) (s.size + 160) (c0O s.data.toList) := by
  have := Rd.whole hgs
  rwa [a0F, c0I, b0R] at this
 have HR := qH hrds
 have HP : Hid (PartIs w1 (.slice (some ⟨gi, 0, none⟩) s.size (s.size + 160)) s.data.toList) := qH (by have h := q0d hgs (by rw [b0R]; have := HSs.out; omega); rwa [b0R] at h)
 clear hgs hrds hfs
 have k1 := fun wx => e0p (P := Tryz.prog) wx Tryz.underlying22 d0y (some ⟨gi, 0, none⟩) (s.size + 160) (s.size + 160) .i64 s.size (by omega)
 have hci : (s.size : Int) ≤ (s.size : Int) + 160 := by omega
 go_wp2_with fail
 refine (z0U _ s.data.toList _ HP.out).mono ?_
 rintro e' w2 ⟨v1, rfl, ho, hf⟩
 have st2 := st1.keep hf
 replace HR := qH (HR.out.still hf)
 replace HP := qH (HP.out.still hf)
 have HV1 := qH (OwnU.part ho)
 clear ho
 clear hf st1
 go_wp2_with (with_reducible refine wSk 40 ?_)
 refine f0k (q := r) rfl rfl Tryz.underlying9 Tryz.underlying22 Tryz.underlying5 rfl (by have := HSr.out; unfold maxLen; omega) 0 (Nat.zero_le _) ?_
 intro capr w3 ho hf hz
 have st3 := st2.keep hf
 replace HR := qH (HR.out.still hf)
 replace HP := qH (HP.out.still hf)
 replace HV1 := qH (HV1.out.still hf)
 clear hz
 have HPr := qH (BPart.ofOwn ho)
 clear ho
 clear hf st2
 obtain ⟨ar, nr, cr, her, -, hrr⟩ := HPr.out
 cases her
 have HRR := qH hrr
 clear hrr HPr
 go_wp2_with fail
 refine (y0q _ _ _ s.data.toList _ _ _ r.data.toList _ HP.out HRR.out).mono ?_
 rintro e' w4 ⟨v2, rfl, ho, hf⟩
 have st4 := st3.keep hf
 replace HR := qH (HR.out.still hf)
 replace HP := qH (HP.out.still hf)
 replace HV1 := qH (HV1.out.still hf)
 have HV2 := qH (OwnU.part ho)
 clear ho
 clear hf st3
 clear HRR HP
 go_wp2_with fail
 refine (r0G _ _ _ _ s _ (by have := HSs.out; omega) HR.out).mono ?_
 rintro e' w5 ⟨rfl, hf⟩
 have st5 := st4.keep hf
 replace HV1 := qH (HV1.out.still hf)
 replace HV2 := qH (HV2.out.still hf)
 rw [decide_eq_true rfl]
 clear hf st4
 clear HR k1 hci
 have FW := qH st5.fr
 clear st5
 have stB := St.start Nob w5
 go_wp2_with fail
 refine (s0Z s HSs.out _).mono ?_
 rintro e' w6 ⟨rfl, hf6⟩
 have st6 := stB.keep hf6
 clear stB hf6
 go_wp2_with (with_reducible refine wSk 11 ?_)
 refine a0c st6 rfl rfl (z := zAc) (by kernel_rfl) (cw 12 0) (by rw [a0g]; rfl) ?_
 intro g11 w7 st7
 clear st6
 go_wp2_with (with_reducible refine wSn ?_)
 refine a0d st7 0 rfl rfl rfl rfl rfl (by first | (simp only [a0a]; done) | (simp only [a0a, RT.len]; done)) (by first | (rw [a0a]; kernel_rfl) | (simp only [RT.len]; kernel_rfl)) (RT.one _) ?_
 intro w8 st8
 clear st7
 go_wp2_with fail
 refine (v0w s r HSs.out _).mono ?_
 rintro e' w9 ⟨rfl, hf9⟩
 have st9 := st8.keep hf9
 clear st8 hf9
 generalize hbe : blE s.data.toList r.data.toList = be at *
 generalize hbs : blS s.data.toList r.data.toList = bz at *
 clear hbe hbs
 obtain ⟨a2, n2, c2, rfl, -, hr2⟩ := HV2.out
 obtain ⟨a1, n1, c1, rfl, -, hr1⟩ := HV1.out
 have HR1 := qH hr1
 have HR2 := qH hr2
 clear hr1 hr2 HV1 HV2
 rcases hk : b0Q s.data.toList with _ | _
 ·have HR1b := HR1.out
  rw [(s0R hk).2] at HR1b
  rw [(s0R hk).1]
  have s1 := fun wx (h : Fr Nob w5 wx) => c0y (P := Tryz.prog) (HR1b.still h) c1 Tryz.underlying22 Tryz.underlying5 Tryz.underlying9
  have x1 := s1 _ st9.fr
  have x2 := c0y (P := Tryz.prog) (HR2.out.still st9.fr) c2 Tryz.underlying22 Tryz.underlying5 Tryz.underlying9
  have hfr := FW.out.then st9.fr
  rw [n0o] at x1
  clear s1 HR1b HR1 HR2 st9 hk
  go_wp2_with fail
  go_ret
  exact ⟨rfl, hfr⟩
 ·have HR1b := HR1.out
  rw [(s0Q hk).2] at HR1b
  rw [(s0Q hk).1]
  have HQ := qH HR1b
  have HPT := qH (w0o hk)
  clear HR1b HR1 hk
  go_wp2_with (with_reducible refine wSk 60 ?_)
  refine a0q st9 0 rfl rfl rfl Tryz.underlying62 rfl rfl (by kernel_rfl) ?_
  go_wp2_with fail
  refine (i0V (lfR s.data.toList) _).mono ?_
  rintro e' w' ⟨rfl, hf⟩
  rw [HPT.out]
  have st := st9.keep hf
  have x1 := c0y (P := Tryz.prog) (HQ.out.still st.fr) c1 Tryz.underlying22 Tryz.underlying5 Tryz.underlying9
  have x2 := c0y (P := Tryz.prog) (HR2.out.still st.fr) c2 Tryz.underlying22 Tryz.underlying5 Tryz.underlying9
  have hfr := FW.out.then st.fr
  clear HQ HR2 st9 hf st
  go_wp2_with fail
  go_ret
  exact ⟨rfl, hfr⟩
theorem i0z (s r : ByteArray) (w : World) : Calls Tryz.prog 11 #[.string s, .string r] w fun e w' => e = .returned (.bool true) ∧ Fr Nob w w' := by
 by_cases h1 : 4096 < s.size
 ·have hJ : (4096 : Int) < (s.size : Int) := by omega
  go_enter Tryz.func11, Tryz.ntmps11
  go_wp2
  go_ret
  exact ⟨rfl, Fr.refl _ _⟩
 by_cases h2 : 4096 < r.size
 ·have hI1 : ¬ ((4096 : Int) < (s.size : Int)) := by omega
  have hJ : (4096 : Int) < (r.size : Int) := by omega
  go_enter Tryz.func11, Tryz.ntmps11
  go_wp2
  go_ret
  exact ⟨rfl, Fr.refl _ _⟩
 exact g0J s r w (by omega) (by omega)
end
end Go.Proofs.YtemcankmggmgoaaGreat
