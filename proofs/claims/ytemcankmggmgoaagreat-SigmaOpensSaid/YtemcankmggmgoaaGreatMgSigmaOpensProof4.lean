/- ; ; ; ; ; ; ; ; ; ; ; ; ; ; ; ; ; . -/
import Derived.Test.YtemcankmggmgoaaGreatMgSigmaOpensProof3
import Derived.Test.YtemcankmggmgoaaGreatMgSigmaOpensProof2
import Derived.Test.YtemcankmggmgoaaGreatMgSigmaOpensProof1
import Derived.ChangeKeysEq
import Derived.StillTailTactics
set_option maxHeartbeats 16000000
set_option maxRecDepth 1000000

namespace Go.Proofs.YtemcankmggmgoaaGreat
open Go.RowKit Go.Mv Mvp
attribute [local irreducible] a0C lw mix cw b0u b0B b0r a0N a0q beN b0G b0f b0C a0M a0S
theorem _root_.ap12 {p : Prop} (h : p := by simp [a0f]) : p := h
theorem h0V (m : Md) (gp a b : Nat) (w : World) (hok : m.Ok) (hpm : Has w gp (mdL m) 187) (ha : a < B64 ^ 4) (hb : b < m.M) :
  Calls Tryz.prog 152 #[.pointer (some ⟨gp, 0, none⟩), i4 a, i4 b] w fun e w' => e = .returned (i4 (a * b * m.Ri % m.M)) ∧ Fr Nob w w' := by
 have HOK := qH hok
 have HPM := qH hpm
 have HA := qH ha
 have HB := qH hb
 clear hok hpm ha hb
 have st0 := St.start Nob w
 go_enter Tryz.func152, Tryz.ntmps152
 go_wp2_with (with_reducible refine wSk 4 ?_)
 refine a0l st0 rfl rfl rfl (cw 4 a) rfl ?_
 intro g4 w1 st1
 clear st0
 go_wp2_with (with_reducible refine wSk 5 ?_)
 refine a0l st1 rfl rfl rfl (cw 4 b) rfl ?_
 intro g5 w2 st2
 clear st1
 go_wp2_with (with_reducible refine wSk 6 ?_)
 refine a0a st2 rfl rfl (z := zAd) ap13 (cw 4 0) ap11 ?_
 intro g6 w3 st3
 clear st2
 go_wp2_with (with_reducible refine wSk 7 ?_)
 refine a0a st3 rfl rfl (z := .agg #[.int .u64 0, .int .u64 0, .int .u64 0, .int .u64 0, .int .u64 0, .int .u64 0]) ap13 (cw 6 0) ap11 ?_
 intro g7 w4 st4
 clear st3
 go_wp2_with (with_reducible refine wSk 14 ?_)
 refine a0j st4 0 rfl rfl rfl Tryz.underlying66 rfl ap9 ?_
 go_wp2
 go_loopw [15] (fun i wr => ∃ k : Nat, k ≤ 4 ∧ i = .int .i64 (k : Int) ∧ St Nob w wr [(g4, cw 4 a, 66), (g5, cw 4 b, 66), (g6, cw 4 0, 66), (g7, cw 6 (a0M m.M m.neg b a k), 222)]) (fun i _ => 4 - (intOf i).toNat)
 case atStart => exact ⟨0, by omega, rfl, by rw [r0j]; exact st4⟩
 case round =>
  obtain ⟨k, hk, rfl, st⟩ := hrel
  clear st4
  by_cases hlt : k < 4
  ·have hltI : (k : Int) < 4 := by omega
   have e0 := fun wx => f0g (P := Tryz.prog) Tryz.underlying66 Tryz.underlying58 d0b a k hlt .i64 wx
   have hTl := p0y m.M m.neg b a k (by have := HOK.out.one; omega)
   obtain ⟨b1, b2, b3, b4⟩ := o0s (a0M m.M m.neg b a k) b m.M (lw a k) (a0M m.M m.neg b a k + lw a k * b) ((a0M m.M m.neg b a k + lw a k * b) % 18446744073709551616 * m.neg % 18446744073709551616) HB.out HOK.out.lt hTl (c0T a k) rfl (Nat.mod_lt _ ap14)
   have hsucc : a0M m.M m.neg b a (k + 1) = (a0M m.M m.neg b a k + lw a k * b + ((a0M m.M m.neg b a k + lw a k * b) % 18446744073709551616 * m.neg % 18446744073709551616) * m.M) / 18446744073709551616 := r0k m.M m.neg b a k
   generalize hT : a0M m.M m.neg b a k = T at *
   generalize hT' : a0M m.M m.neg b a (k + 1) = T' at *
   have hx := c0T a k
   obtain ⟨l1, l2, l3⟩ := p0x T (lw a k) b (Nat.lt_trans HB.out HOK.out.lt) b2 (Nat.lt_trans b1 ap14)
   have z5 : lw T 5 = 0 := d0o T 5 5 b1 (Nat.le_refl _)
   rw [z5, Nat.zero_add] at l2
   have hline := fun wx (h : Has wx g7 (cw 6 T) 222) => p0D g7 T (lw a k) b (lw T 4) 222 wx h hx (c0T T 4)
   rw [l1, l2] at hline
   generalize hxx : lw a k = x at *
   generalize hV : T + x * b = V at *
   have hw0 := r0g V
   generalize hmm : V % 18446744073709551616 * m.neg % 18446744073709551616 = mm at *
   have hm64 : mm < 18446744073709551616 := by rw [← hmm]; exact Nat.mod_lt _ ap14
   have hmul : IntKind.u64.wrap ((lw V 0 : Int) * (m.neg : Int)) = (mm : Int) := by
    rw [IntKind.wrap_u64, ← hmm, hw0, ← Int.natCast_mul]; rfl
   have hlt2 := fun wx (h : Has wx g7 (cw 6 V) 222) => o0w g7 V mm m.M wx h hm64 HOK.out.lt b4 b3
   generalize hV2 : V + mm * m.M = V2 at *
   have hshift := B0e V2 b4
   rw [← hsucc] at hshift
   have HLINE := qH hline
   have HLT2 := qH hlt2
   have HSHIFT := qH hshift
   have HT := qH hT
   have HT' := qH hT'
   clear hTl b1 b2 b3 b4 hsucc l1 l2 l3 z5 hline hV hw0 hmm hm64 hlt2 hV2 hshift hT hT' hx hxx
   have ct := (st.at 3 rfl).cell (a0D 6 T 4 ap14)
   go_wp2_with (with_reducible refine wSk 20 ?_)
   refine a0j st 1 rfl rfl rfl Tryz.underlying66 rfl ap9 ?_
   go_wp2_with fail
   refine (HLINE.out _ (st.at 3 rfl)).mono ?_
   rintro e' w5 ⟨rfl, hg5, hf5⟩
   have st5 : St Nob w w5 [(g4, cw 4 a, 66), (g5, cw 4 b, 66), (g6, cw 4 0, 66), (g7, cw 6 (mix V T 4), 222)] := st.put 3 rfl hf5 hg5
   clear st hf5 hg5
   clear ct
   obtain ⟨v4, c4, f4⟩ := (st5.at 3 rfl).ready (i := 4) (by rw [a0f]; decide)
   obtain ⟨v5, c5, f5⟩ := (st5.at 3 rfl).ready (i := 5) (by rw [a0f]; decide)
   go_wp2_with fail
   have stA := (st5.set 3 rfl 4 (.int .u64 (lw V 4 : Nat))).set 3 rfl 5 (.int .u64 (lw V 5 : Nat))
   have hcw : ((cw 6 (mix V T 4)).set 4 (.int .u64 (lw V 4 : Nat))).set 5 (.int .u64 (lw V 5 : Nat)) = cw 6 V := by rw [e0a 6 V T 4 ap14, e0a 6 V T 5 ap14, h0S]
   rw [hcw] at stA
   clear hcw c4 c5 f4 f5 v4 v5 st5
   generalize (World.setCell (World.setCell w5 ⟨g7, 4, none⟩ (.int .u64 (lw V 4 : Nat))) ⟨g7, 5, none⟩ (.int .u64 (lw V 5 : Nat))) = wA at *
   have stA : St Nob w wA [(g4, cw 4 a, 66), (g5, cw 4 b, 66), (g6, cw 4 0, 66), (g7, cw 6 V, 222)] := stA
   have cv := (stA.at 3 rfl).cell (a0D 6 V 0 ap14)
   have cn := (HPM.out.keep stA.fr id).cell (B0d m)
   go_quiet (fail)
   have stB := stA.drewN nq
   clear stA cv cn
   go_wp2_with (with_reducible refine wSk 40 ?_)
   refine c0b rfl rfl Tryz.underlying111 rfl (HPM.out.keep stB.fr id) (cw 4 m.M) (l0Y m) ap9 ?_
   go_wp2_with fail
   refine (HLT2.out _ (stB.at 3 rfl)).mono ?_
   rintro e' w7 ⟨rfl, hg7, hf7⟩
   have st7 : St Nob w w7 [(g4, cw 4 a, 66), (g5, cw 4 b, 66), (g6, cw 4 0, 66), (g7, cw 6 (mix V2 V 4), 222)] := stB.put 3 rfl hf7 hg7
   clear stB hf7 hg7
   obtain ⟨v4, c4, f4⟩ := (st7.at 3 rfl).ready (i := 4) (by rw [a0f]; decide)
   obtain ⟨v5, c5, f5⟩ := (st7.at 3 rfl).ready (i := 5) (by rw [a0f]; decide)
   go_wp2_with fail
   have stC := (st7.set 3 rfl 4 (.int .u64 (lw V2 4 : Nat))).set 3 rfl 5 (.int .u64 (lw V2 5 : Nat))
   have hcw : ((cw 6 (mix V2 V 4)).set 4 (.int .u64 (lw V2 4 : Nat))).set 5 (.int .u64 (lw V2 5 : Nat)) = cw 6 V2 := by rw [e0a 6 V2 V 4 ap14, e0a 6 V2 V 5 ap14, h0S]
   rw [hcw] at stC
   clear hcw c4 c5 f4 f5 v4 v5 st7
   generalize (World.setCell (World.setCell w7 ⟨g7, 4, none⟩ (.int .u64 (lw V2 4 : Nat))) ⟨g7, 5, none⟩ (.int .u64 (lw V2 5 : Nat))) = wC at *
   have stC : St Nob w wC [(g4, cw 4 a, 66), (g5, cw 4 b, 66), (g6, cw 4 0, 66), (g7, cw 6 V2, 222)] := stC
   have k1 := fun wx => e0D (P := Tryz.prog) wx Tryz.underlying222 d0b g7 0 .i64 5 ap14
   have k2 := fun wx => g0n (P := Tryz.prog) wx Tryz.underlying222 d0b g7 0 .i64 1 ap14
   refine wp_region_noPanic ?_
   refine c0o (fun wx => St Nob w wx [(g4, cw 4 a, 66), (g5, cw 4 b, 66), (g6, cw 4 0, 66), (g7, cw 6 V2, 222)]) 2 [(0, true), (1, true)] ap13 ap13 stC.drew (fun _ _ _ _ _ h => h) ?_
   have stD := stC.drew
   clear stC
   refine a0E (v := ?_) rfl rfl (fun wx hS => ?_) ?_
   rotate_left 1
   ·(clear hS; go_simp; with_reducible rfl)
   try simp only [clL]
   refine a0E (v := ?_) rfl rfl (fun wx hS => ?_) ?_
   rotate_left 1
   ·(clear hS; go_simp; with_reducible rfl)
   try simp only [clL]
   refine h0a ?_
   try simp only [List.drop_succ_cons, List.drop_zero]
   refine s0e rfl rfl Tryz.underlying226 d0b rfl rfl (stD.at 3 rfl) (Rd.ofHas (stD.at 3 rfl) 1 (n := 5) (by rw [a0f]; decide)) (fun v hv => a0g _ _ v (List.mem_of_mem_drop (List.mem_of_mem_take hv))) (by rw [a0f]; decide) ?_
   intro wE hgE hfE hzE
   clear hzE
   have stE := stD.put 3 rfl hfE hgE
   clear stD hgE hfE
   obtain ⟨v5, c5, f5⟩ := (stE.at 3 rfl).ready (i := 5) (by rw [g0c _ _ _ ap12]; rw [a0f]; decide)
   go_wp2_with fail
   refine NoPanic.normal ?_
   clear k1 k2
   go_wp2_with fail
   have stF := stE.set 3 rfl 5 (.int .u64 0)
   clear stE c5 f5
   go_roundw
   case rel =>
    refine ⟨k + 1, by omega, by go_num, ?_⟩
    rw [HT'.out]
    have hh := stF
    have h6 := HSHIFT.out
    simp only [List.set_cons_succ, List.set_cons_zero] at hh
    rw [show min 5 5 = 5 from rfl, List.take_take, show min 5 5 = 5 from rfl, h6] at hh
    exact hh
   case measure => simp [intOf]; omega
  ·have hge : ¬ ((k : Int) < 4) := by omega
   have hk4 : k = 4 := by omega
   subst hk4
   have k4 : ∀ wx, (Instr.arrayAt 111 (.slice (some ⟨g7, 0, none⟩) 4 6)).run Tryz.prog wx = .ok (.pointer (some ⟨g7, 0, none⟩)) wx := fun wx => by simp [Instr.arrayAt, run_underlying Tryz.underlying111]
   have k3 := fun wx => e0D (P := Tryz.prog) wx Tryz.underlying222 d0b g7 0 .i64 4 ap14
   have hTl := p0y m.M m.neg b a 4 (by have := HOK.out.one; omega)
   have hval := r0h m.M m.neg m.Ri a b (by have := HOK.out.one; omega) HA.out HOK.out.neg (by rw [HOK.out.inv, Nat.mod_eq_of_lt HOK.out.one])
   generalize hT : a0M m.M m.neg b a 4 = T at *
   have HT := qH hT; clear hT
   have HTL := qH hTl; clear hTl
   have HVAL := qH hval; clear hval
   go_wp2_with (with_reducible refine wSk 53 ?_)
   refine c0b rfl rfl Tryz.underlying111 rfl (st.at 3 rfl) (cw 4 T) (z0m T) (by rw [a0f]; exact l0g) ?_
   clear k3 k4
   go_wp2_with (with_reducible refine wSk 11 ?_)
   refine a0a st rfl rfl (z := zAd) ap13 (cw 4 0) ap11 ?_
   intro g11 w5 st5
   clear st
   go_wp2_with (with_reducible refine wSn ?_)
   refine a0b st5 4 rfl rfl rfl rfl rfl ap7 ap9 (a0g _ _) ?_
   intro w6 st6
   clear st5
   go_wp2_with fail
   refine wp_region_noPanic ?_
   refine j0D (fun wx => St Nob w wx [(g4, cw 4 a, 66), (g5, cw 4 b, 66), (g6, cw 4 0, 66), (g7, cw 6 T, 222), (g11, cw 4 T, 111)]) 11 (.t 0 (.t 1 (.t 2 (.t 3 (.t 4 (.b 5 9 (.t 6 (.t 7 (.t 8 (.r 9 (.r 10 .nil))))) (.r 5 (.t 6 (.t 7 (.t 8 (.r 10 .nil))))))))))) ap13 ap13 st6.drew (fun _ _ _ _ _ h => h) ?_
   have hd6 := st6.drew
   clear st6
   refine p0M rfl rfl rfl rfl (cw 4 T) (fun wx hS => St.rangeL hS 4 rfl 0 _ dZl) Tryz.underlying111 rfl ap9 ?_
   try simp only [clL]
   refine c0P (v := ?_) rfl rfl (fun wx hS => ?_) ?_
   rotate_left 1
   ·(clear hS; go_simp; with_reducible rfl)
   try simp only [clL]
   refine c0P (v := ?_) rfl rfl (fun wx hS => ?_) ?_
   rotate_left 1
   ·(clear hS; go_simp; with_reducible rfl)
   try simp only [clL]
   refine c0P (v := ?_) rfl rfl (fun wx hS => ?_) ?_
   rotate_left 1
   ·(clear hS; go_simp; with_reducible rfl)
   try simp only [clL]
   refine p0M rfl rfl rfl rfl (cw 4 m.M) (fun wx hS => (HPM.out.keep (St.fr hS) id).range 0 _ (l0Y m)) Tryz.underlying111 rfl ap9 ?_
   try simp only [clL]
   refine t0m (C := fun g12 wz => St Nob w wz [(g4, cw 4 a, 66), (g5, cw 4 b, 66), (g6, cw 4 0, 66), (g7, cw 6 T, 222), (g11, cw 4 T, 111), (g12, cw 4 (T + B64 ^ 4 - m.M), 111)]) (F := ?_) rfl rfl rfl rfl (fun key => ?_) (fun key => ?_) ?_
   rotate_left 1
   ·skip
    go_simp
    refine (d0I T m.M _ HOK.out.lt).mono ?_
    rintro e' w7 ⟨rfl, hf7⟩
    have st7 := hd6.keep hf7
    clear hf7
    refine ⟨st7, ?_⟩
    try simp only [clL]
    refine c0P (v := ?_) rfl rfl (fun wx hS => ?_) ?_
    rotate_left 1
    ·(clear hS; go_simp; with_reducible rfl)
    try simp only [clL]
    refine c0P (v := ?_) rfl rfl (fun wx hS => ?_) ?_
    rotate_left 1
    ·(clear hS; go_simp; with_reducible rfl)
    try simp only [clL]
    refine c0P (v := ?_) rfl rfl (fun wx hS => ?_) ?_
    rotate_left 1
    ·(clear hS; go_simp; with_reducible rfl)
    try simp only [clL]
    refine h0U rfl rfl ?_
    refine b0x st7 rfl (z := zAd) ap13 (cw 4 0) ap11 ?_
    intro g12 w8 st8
    refine ⟨St.less st8 ap16, ?_⟩
    try simp only [clL]
    refine h0U rfl rfl ?_
    refine a0i st8 5 rfl rfl rfl rfl ap7 ap9 (a0g _ _) ?_
    intro w9 st9
    refine ⟨St.less st9 ap16, ?_⟩
    try simp only [Act.put]
    refine p0L ?_
    try simp only [List.drop_succ_cons, List.drop_zero]
    go_wp2_with fail
    exact key g12 w9 st9
   ·skip
    refine b0x hd6 rfl (z := zAd) ap13 (cw 4 0) ap11 ?_
    intro g12 w10 st10
    refine ⟨St.less st10 ap16, ?_⟩
    try simp only [clL]
    refine h0U rfl rfl ?_
    go_simp
    refine (d0I T m.M _ HOK.out.lt).mono ?_
    rintro e' w11 ⟨rfl, hf11⟩
    have st11 := st10.keep hf11
    clear hf11
    refine ⟨St.less st11 ap16, ?_⟩
    try simp only [clL]
    refine c0P (v := ?_) rfl rfl (fun wx hS => ?_) ?_
    rotate_left 1
    ·(clear hS; go_simp; with_reducible rfl)
    try simp only [clL]
    refine c0P (v := ?_) rfl rfl (fun wx hS => ?_) ?_
    rotate_left 1
    ·(clear hS; go_simp; with_reducible rfl)
    try simp only [clL]
    refine c0P (v := ?_) rfl rfl (fun wx hS => ?_) ?_
    rotate_left 1
    ·(clear hS; go_simp; with_reducible rfl)
    try simp only [clL]
    refine h0U rfl rfl ?_
    refine a0i st11 5 rfl rfl rfl rfl ap7 ap9 (a0g _ _) ?_
    intro w12 st12
    refine ⟨St.less st12 ap16, ?_⟩
    try simp only [Act.put]
    refine p0L ?_
    try simp only [List.drop_succ_cons, List.drop_zero]
    go_wp2_with fail
    exact key g12 w12 st12
   intro g12 w13 st13
   have st13 : St Nob w w13 [(g4, cw 4 a, 66), (g5, cw 4 b, 66), (g6, cw 4 0, 66), (g7, cw 6 T, 222), (g11, cw 4 T, 111), (g12, cw 4 (T + B64 ^ 4 - m.M), 111)] := st13
   clear hd6
   refine NoPanic.normal ?_
   have c4 := (st13.at 3 rfl).cell (a0D 6 T 4 ap14)
   have hfin := j0W T m.M HOK.out.lt (by have := HTL.out; have := HB.out; omega)
   by_cases hlt2 : T < m.M
   ·obtain ⟨f1, f2, f3⟩ := hfin.1 hlt2
    rw [f1] at c4
    rw [f2]
    have HF := qH f3
    clear hfin f1 f2 f3 hlt2
    go_wp2_with (with_reducible refine wSk 70 ?_)
    refine a0j st13 4 rfl rfl rfl Tryz.underlying111 rfl ap9 ?_
    go_wp2_with (with_reducible refine wSn ?_)
    refine a0b st13 2 rfl rfl rfl rfl rfl ap7 ap9 (a0g _ _) ?_
    intro w14 st14
    clear st13
    have hr := st14.at 2 rfl
    have hfr := st14.fr
    clear st14
    go_wp2_with fail
    exact bodyPost_ret (a0w rfl rfl hr Tryz.underlying66 ap9) rfl ⟨by rw [← HVAL.out]; unfold i4; rw [HF.out], hfr⟩
   ·obtain ⟨f3, f4⟩ := hfin.2 hlt2
    have HF := qH f3
    by_cases hlt3 : T < B64 ^ 4
    ·obtain ⟨f1, f2⟩ := f4 hlt3
     rw [f1] at c4
     rw [f2]
     clear hfin f1 f2 f3 f4 hlt2 hlt3
     go_wp2_with (with_reducible refine wSk 71 ?_)
     refine a0j st13 5 rfl rfl rfl Tryz.underlying111 rfl ap9 ?_
     go_wp2_with (with_reducible refine wSn ?_)
     refine a0b st13 2 rfl rfl rfl rfl rfl ap7 ap9 (a0g _ _) ?_
     intro w14 st14
     clear st13
     have hr := st14.at 2 rfl
     have hfr := st14.fr
     clear st14
     go_wp2_with fail
     exact bodyPost_ret (a0w rfl rfl hr Tryz.underlying66 ap9) rfl ⟨by rw [← HVAL.out]; unfold i4; rw [HF.out], hfr⟩
    ·have f1 := t0c T (by have := HTL.out; have := HB.out; have := HOK.out.lt; omega) hlt3
     rw [f1] at c4
     clear hfin f1 f3 f4 hlt2 hlt3
     go_wp2_with (with_reducible refine wSk 71 ?_)
     refine a0j st13 5 rfl rfl rfl Tryz.underlying111 rfl ap9 ?_
     go_wp2_with (with_reducible refine wSn ?_)
     refine a0b st13 2 rfl rfl rfl rfl rfl ap7 ap9 (a0g _ _) ?_
     intro w14 st14
     clear st13
     have hr := st14.at 2 rfl
     have hfr := st14.fr
     clear st14
     go_wp2_with fail
     exact bodyPost_ret (a0w rfl rfl hr Tryz.underlying66 ap9) rfl ⟨by rw [← HVAL.out]; unfold i4; rw [HF.out], hfr⟩
end Go.Proofs.YtemcankmggmgoaaGreat
namespace Mvp
def elN (m : Md) (x : Nat) : Nat := x * B64 ^ 4 % m.M
theorem l0k (m : Md) (h : m.Ok) (x : Nat) : elN m x < m.M := Nat.mod_lt _ (by have := h.one; omega)
theorem m0Q (m : Md) (h : m.Ok) (x : Nat) : elN m x < B64 ^ 4 := Nat.lt_trans (l0k m h x) h.lt
theorem B0j (m : Md) : B64 ^ 4 % m.M = elN m 1 := by rw [elN, Nat.one_mul]
theorem e0g (m : Md) : elN m 0 = 0 := by rw [elN, Nat.zero_mul, Nat.zero_mod]
theorem m0R (m : Md) (x : Nat) : elN m (x % m.M) = elN m x := by rw [elN, elN, Nat.mod_mul_mod]
theorem l0l (m : Md) {x y : Nat} (h : x % m.M = y % m.M) : elN m x = elN m y := by rw [← m0R, h, m0R]
theorem z0t (m : Md) (h : m.Ok) (x : Nat) : x * B64 ^ 4 * m.Ri % m.M = x % m.M := by
 rw [Nat.mul_assoc, Nat.mul_mod, h.inv, Nat.mul_one, Nat.mod_mod]
theorem o0x (a b R Ri M : Nat) : (a * R % M) * (b * R % M) * Ri % M = (a * b * R) * R * Ri % M := by
 rw [← Nat.mod_mul_mod (a * R % M * (b * R % M)), ← Nat.mul_mod, Nat.mod_mul_mod, Nat.mul_mul_mul_comm, ← Nat.mul_assoc (a * b)]
theorem r0p (n R Ri M : Nat) : n * (R * R % M) * Ri % M = n * R * R * Ri % M := by
 rw [← Nat.mod_mul_mod (n * (R * R % M)), Nat.mul_mod_mod, Nat.mod_mul_mod, ← Nat.mul_assoc]
theorem B0k (m : Md) (h : m.Ok) (x y : Nat) : elN m x * elN m y * m.Ri % m.M = elN m (x * y) := by
 unfold elN
 rw [o0x, z0t m h]
theorem B0l (m : Md) (h : m.Ok) (n : Nat) : n * (B64 ^ 4 * B64 ^ 4 % m.M) * m.Ri % m.M = elN m n := by
 rw [r0p, z0t m h, elN]
theorem o0y (m : Md) (h : m.Ok) (x : Nat) : elN m x * 1 * m.Ri % m.M = x % m.M := by
 rw [Nat.mul_one, elN, Nat.mod_mul_mod, z0t m h]
theorem p0N (m : Md) (x y : Nat) : (elN m x + elN m y) % m.M = elN m (x + y) := by
 rw [elN, elN, elN, ← Nat.add_mod, Nat.add_mul]
theorem B0m (m : Md) (h : m.Ok) {x y : Nat} (e : elN m x = elN m y) : x % m.M = y % m.M := by
 rw [← o0y m h x, e, o0y m h y]
theorem y0b (m : Md) (h : m.Ok) (x y : Nat) : (elN m x + m.M - elN m y) % m.M = elN m (x + (m.M - y % m.M)) := by
 have hM : 0 < m.M := by have := h.one; omega
 have hy := l0k m h y
 have h1 : (elN m x + m.M - elN m y) + elN m y = elN m x + m.M := by omega
 have hym := Nat.mod_lt y hM
 have e1 : ((elN m x + m.M - elN m y) % m.M + elN m y) % m.M = elN m x % m.M := by
  rw [Nat.mod_add_mod, h1, Nat.add_mod_right]
 have e2 : (elN m (x + (m.M - y % m.M)) + elN m y) % m.M = elN m x % m.M := by
  rw [p0N, Nat.mod_eq_of_lt (l0k m h x)]
  refine l0l m ?_
  rw [Nat.add_assoc, Nat.add_mod x, Nat.add_comm _ y, ← Nat.mod_add_mod y, show y % m.M + (m.M - y % m.M) = m.M by omega, Nat.mod_self, Nat.add_zero, Nat.mod_mod]
 have a1 := Nat.mod_lt (elN m x + m.M - elN m y) hM
 have a2 := l0k m h (x + (m.M - y % m.M))
 generalize (elN m x + m.M - elN m y) % m.M = p at *
 generalize elN m (x + (m.M - y % m.M)) = q at *
 generalize elN m y = r at *
 have e3 : (p + r) % m.M = (q + r) % m.M := by rw [e1, e2]
 have l1 := Nat.div_add_mod (p + r) m.M
 have l2 := Nat.div_add_mod (q + r) m.M
 rcases Nat.lt_or_ge (p + r) m.M with h1 | h1 <;> rcases Nat.lt_or_ge (q + r) m.M with h2 | h2
 ·rw [Nat.mod_eq_of_lt h1, Nat.mod_eq_of_lt h2] at e3; omega
 ·rw [Nat.mod_eq_of_lt h1, Nat.mod_eq_sub_mod h2, Nat.mod_eq_of_lt ap15] at e3; omega
 ·rw [Nat.mod_eq_of_lt h2, Nat.mod_eq_sub_mod h1, Nat.mod_eq_of_lt ap15] at e3; omega
 ·rw [Nat.mod_eq_sub_mod h1, Nat.mod_eq_sub_mod h2, Nat.mod_eq_of_lt ap15, Nat.mod_eq_of_lt ap15] at e3; omega
theorem t0n (a b : Nat) (ha : a < B64 ^ 4) (hb : b < B64 ^ 4) : b0B a b 4 = lw (a + b) 4 := by
 rw [v0M a b 4 ha hb]
 unfold lw
 have h0 := c0c 4
 have : (a + b) / B64 ^ 4 < 2 := Nat.div_lt_of_lt_mul ap15
 exact (Nat.mod_eq_of_lt (Nat.lt_trans this ap14)).symm
theorem m0S (a b M : Nat) (_ : a < M) (hb : b < M) (hM : M < B64 ^ 4) (h : a < b) : Go.Mv.cw 4 ((a + M - b) % M) = Go.Mv.cw 4 (a + B64 ^ 4 - b + M) := by
 rw [Nat.mod_eq_of_lt ap15, ← Go.Mv.cw_mod 4 (a + B64 ^ 4 - b + M)]
 rw [show a + B64 ^ 4 - b + M = (a + M - b) + B64 ^ 4 by omega, Nat.add_mod_right, Go.Mv.cw_mod]
theorem m0T (a b M : Nat) (ha : a < M) (hb : b < M) (h : ¬ a < b) : Go.Mv.cw 4 ((a + M - b) % M) = Go.Mv.cw 4 (a + B64 ^ 4 - b) := by
 have _h := hb
 rw [show a + M - b = (a - b) + M by omega, Nat.add_mod_right, Nat.mod_eq_of_lt ap15, ← Go.Mv.cw_mod 4 (a + B64 ^ 4 - b), show a + B64 ^ 4 - b = (a - b) + B64 ^ 4 by omega, Nat.add_mod_right, Go.Mv.cw_mod]
end Mvp
namespace Go.Mv
open Go.RowKit
section
variable {P : Program} {ops : Array Oper} {md : Region.Mode} {Q : Exit → Act → World → Prop} {S : World → Prop} {m : Nat}
def wpP (P : Program) (md : Region.Mode) (ops : Array Oper) (Q : Exit → Act → World → Prop) (S : World → Prop) (m : Nat) : Nat → Array Bool → Act → World → Prop
 | 0, listed, a, w => Region.ready md ops listed = [] ∧ Q .normal a w
 | f + 1, listed, a, w => (Region.ready md ops listed = [] → Q .normal a w) ∧
  ∀ i ∈ Region.ready md ops listed, wpOp P ops Q i (fun a' w' => (listed.getD m true = false → i ≠ m → S w') ∧ wpP P md ops Q S m f (listed.setIfInBounds i true) a' w') a w
theorem d0F : ∀ (f : Nat) (listed : Array Bool) (a : Act) (w : World), wpP P md ops Q S m f listed a w → wpAny P md ops Q f listed a w
 | 0, _, _, _, h => h
 | f + 1, _, _, _, h => ⟨h.1, fun i hi => wpOp_mono (fun a' w' h' => d0F f _ a' w' h'.2) (h.2 i hi)⟩
structure Cl (md : Region.Mode) (ops : Array Oper) (listed : Array Bool) : Prop where
 size : listed.size = ops.size
 closed : ∀ j oj, ops[j]? = some oj → listed.getD j false = true → ∀ e ∈ oj.after, Region.binds md e = true → listed.getD e.on false = true
theorem Cl.set {i : Nat} {listed : Array Bool} (inv : Cl md ops listed) (hi : i ∈ Region.ready md ops listed) : Cl md ops (listed.setIfInBounds i true) := by
 obtain ⟨_, oi, hoi, hall⟩ := mem_ready.1 hi
 refine ⟨by simp [inv.size], fun j oj hj hl e he hb => ?_⟩
 by_cases hij : i = j
 ·subst hij
  have : oj = oi := Option.some.inj (hj.symm.trans hoi)
  subst this
  exact getD_set_true (hall e he hb)
 ·rw [getD_set_ne false hij] at hl
  exact getD_set_true (inv.closed j oj hj hl e he hb)
def w0g (md : Region.Mode) (ops : Array Oper) (m : Nat) : Nat → Nat → Bool
 | 0, _ => false
 | f + 1, i => (List.range ops.size).any fun j => Region.waitsFor md ops j i && (decide (j = m) || w0g md ops m f j)
theorem f0k {listed : Array Bool} (inv : Cl md ops listed) : ∀ (f i : Nat), w0g md ops m f i = true → listed.getD i true = false → m ∉ Region.ready md ops listed
 | 0, i, h, _ => by cases h
 | f + 1, i, h, hun => by
  intro hr
  obtain ⟨j, hj, hj2⟩ := List.any_eq_true.1 h
  simp only [Bool.and_eq_true, Bool.or_eq_true, decide_eq_true_eq] at hj2
  obtain ⟨oj, hoj, e, he, hb, hon⟩ := Region.waitsFor_spec hj2.1
  rcases hj2.2 with rfl | hja
  ·obtain ⟨-, om, hom, hall⟩ := mem_ready.1 hr
   have : oj = om := Option.some.inj (hoj.symm.trans hom)
   subst this
   have h2 := hall e he hb
   rw [hon, getD_both hun] at h2
   cases h2
  ·cases hl : listed.getD j false with
   | true =>
    have h2 := inv.closed j oj hoj hl e he hb
    rw [hon, getD_both hun] at h2
    cases h2
   | false =>
    have hjs : j < listed.size := by rw [inv.size]; exact (Array.getElem?_eq_some_iff.1 hoj).1
    exact f0k inv f j hja (getD_in hjs hl) hr
theorem g0A {i : Nat} {oi : Oper} {v : Value} (hi : ops[i]? = some oi) (hsel : ∀ (j : Nat) (o : Oper) cs b, ops[j]? = some o → o.op ≠ .select cs b)
  (hQ : ∀ c a w, Q (.panic c) (a.put oi.dst v) w → Q (.panic c) a w) (him : i ≠ m) (hm : m < ops.size) :
  ∀ (f : Nat) (listed : Array Bool) (a : Act) (w : World), Cl md ops listed →
   (∀ j oj, ops[j]? = some oj → j ≠ i → listed.getD j true = false → (∀ e ∈ oj.after, Region.binds md e = true → e.on ≠ i) → oi.apart ops oj = true) →
   i ∈ Region.ready md ops listed → YieldsIf P ops (fun _ => True) oi v a → (listed.getD m true = false → S w) →
   wpP P md ops Q S m f (listed.setIfInBounds i true) (a.put oi.dst v) w → wpP P md ops Q S m (f + 1) listed a w := by
 intro f
 induction f with
 | zero =>
  intro listed a w inv _ hr hy hS H
  refine ⟨fun h => (by rw [h] at hr; cases hr), fun j hj => ?_⟩
  by_cases hji : j = i
  ·subst hji; exact hy.wpOp hi trivial ⟨fun h _ => hS h, H⟩
  ·have := ready_mono hj hji
   rw [H.1] at this
   cases this
 | succ f ih =>
  intro listed a w inv hfree hr hy hS H
  have hun := (mem_ready.1 hr).1
  refine ⟨fun h => (by rw [h] at hr; cases hr), fun j hj => ?_⟩
  by_cases hji : j = i
  ·subst hji; exact hy.wpOp hi trivial ⟨fun h _ => hS h, H⟩
  ·have h1 := H.2 j (ready_mono hj hji)
   obtain ⟨hjun, oj, hoj, hall⟩ := mem_ready.1 hj
   have hnot : ∀ e ∈ oj.after, Region.binds md e = true → e.on ≠ i := fun e he hb heq => by
    have h1 := hall e he hb
    rw [heq, getD_both hun] at h1
    cases h1
   have h2 := wpOp_putIf hoj (hfree j oj hoj hji hjun hnot) (fun cs b => hsel i oi cs b hi) (fun cs b => hsel j oj cs b hoj) hQ hy h1
   have hfree' : ∀ k ok, ops[k]? = some ok → k ≠ i → (listed.setIfInBounds j true).getD k true = false →
     (∀ e ∈ ok.after, Region.binds md e = true → e.on ≠ i) → oi.apart ops ok = true := fun k ok hk hki hun hno => by
    refine hfree k ok hk hki ?_ hno
    by_cases hjk : j = k
    ·subst hjk; exact hjun
    ·rw [getD_set_ne true hjk] at hun; exact hun
   refine wpOp_mono (fun a' w' h3 => ?_) h2
   have hS' : listed.getD m true = false → j ≠ m → S w' := fun hml hjm => h3.2.1 (by rw [getD_set_ne true him]; exact hml) hjm
   refine ⟨hS', ih (listed.setIfInBounds j true) a' w' (inv.set hj) hfree' (ready_mono hr (Ne.symm hji)) h3.1 (fun hml => ?_) ?_⟩
   ·by_cases hjm : j = m
    ·subst hjm
     have : (listed.setIfInBounds j true).getD j true = true := by
      have hs : j < listed.size := by rw [inv.size]; exact hm
      simp [hs]
     rw [this] at hml; cases hml
    ·exact hS' (by rwa [getD_set_ne true hjm] at hml) hjm
   ·rw [Array.setIfInBounds_comm _ _ hji]
    exact h3.2.2
theorem i0R {i af : Nat} {oi : Oper} {v : Value} (hi : ops[i]? = some oi) (hsel : ∀ (j : Nat) (o : Oper) cs b, ops[j]? = some o → o.op ≠ .select cs b)
  (hQ : ∀ c a w, Q (.panic c) (a.put oi.dst v) w → Q (.panic c) a w) (him : i ≠ m) (hanc : w0g md ops m af i = true) :
  ∀ (f : Nat) (listed : Array Bool) (a : Act) (w : World), Cl md ops listed → listed.getD m true = false →
   (∀ j oj, ops[j]? = some oj → j ≠ i → listed.getD j true = false → (∀ e ∈ oj.after, Region.binds md e = true → e.on ≠ i) → oi.apart ops oj = true) →
   i ∈ Region.ready md ops listed → YieldsIf P ops S oi v a → S w →
   wpP P md ops Q S m f (listed.setIfInBounds i true) (a.put oi.dst v) w → wpP P md ops Q S m (f + 1) listed a w := by
 intro f
 induction f with
 | zero =>
  intro listed a w inv _ _ hr hy hS H
  refine ⟨fun h => (by rw [h] at hr; cases hr), fun j hj => ?_⟩
  by_cases hji : j = i
  ·subst hji; exact hy.wpOp hi hS ⟨fun _ _ => hS, H⟩
  ·have := ready_mono hj hji
   rw [H.1] at this
   cases this
 | succ f ih =>
  intro listed a w inv hml hfree hr hy hS H
  have hun := (mem_ready.1 hr).1
  refine ⟨fun h => (by rw [h] at hr; cases hr), fun j hj => ?_⟩
  by_cases hji : j = i
  ·subst hji; exact hy.wpOp hi hS ⟨fun _ _ => hS, H⟩
  ·have hjm : j ≠ m := fun e => f0k inv af i hanc hun (e ▸ hj)
   have h1 := H.2 j (ready_mono hj hji)
   obtain ⟨hjun, oj, hoj, hall⟩ := mem_ready.1 hj
   have hnot : ∀ e ∈ oj.after, Region.binds md e = true → e.on ≠ i := fun e he hb heq => by
    have h1 := hall e he hb
    rw [heq, getD_both hun] at h1
    cases h1
   have h2 := wpOp_putIf hoj (hfree j oj hoj hji hjun hnot) (fun cs b => hsel i oi cs b hi) (fun cs b => hsel j oj cs b hoj) hQ hy h1
   have hfree' : ∀ k ok, ops[k]? = some ok → k ≠ i → (listed.setIfInBounds j true).getD k true = false →
     (∀ e ∈ ok.after, Region.binds md e = true → e.on ≠ i) → oi.apart ops ok = true := fun k ok hk hki hun hno => by
    refine hfree k ok hk hki ?_ hno
    by_cases hjk : j = k
    ·subst hjk; exact hjun
    ·rw [getD_set_ne true hjk] at hun; exact hun
   refine wpOp_mono (fun a' w' h3 => ?_) h2
   have hS' : S w' := h3.2.1 (by rw [getD_set_ne true him]; exact hml) hjm
   refine ⟨fun _ _ => hS', ih (listed.setIfInBounds j true) a' w' (inv.set hj) (by rw [getD_set_ne true hjm]; exact hml) hfree' (ready_mono hr (Ne.symm hji)) h3.1 hS' ?_⟩
   rw [Array.setIfInBounds_comm _ _ hji]
   exact h3.2.2
inductive Pl where
 | nil
 | w (i : Nat) (s : Pl)
 | t (i : Nat) (s : Pl)
 | r (i : Nat) (s : Pl)
 | m (i : Nat) (s : Pl)
 | b (i j : Nat) (s u : Pl)
 | c (i j k : Nat) (s u v : Pl)
def Pl.len : Pl → Nat
 | .nil => 0
 | .w _ s => s.len + 1
 | .t _ s => s.len + 1
 | .r _ s => s.len + 1
 | .m _ s => s.len + 1
 | .b _ _ s _ => s.len + 1
 | .c _ _ _ s _ _ => s.len + 1
def b0E (P : Program) (ops : Array Oper) (Q : Exit → Act → World → Prop) (S : World → Prop) : Pl → Act → World → Prop
 | .nil, a, w => Q .normal a w
 | .w i s, a, w => ∃ o v, ops[i]? = some o ∧ YieldsIf P ops (fun _ => True) o v a ∧ b0E P ops Q S s (a.put o.dst v) w
 | .t i s, a, w => ∃ o v, ops[i]? = some o ∧ YieldsIf P ops S o v a ∧ b0E P ops Q S s (a.put o.dst v) w
 | .r i s, a, w => ∃ o, ops[i]? = some o ∧ o.guard = none ∧ o.wp P a w (fun a' w' => S w' ∧ b0E P ops Q S s a' w') Q
 | .m i s, a, w => ∃ o, ops[i]? = some o ∧ o.guard = none ∧ o.wp P a w (fun a' w' => b0E P ops Q S s a' w') Q
 | .b i j s u, a, w => (∃ o, ops[i]? = some o ∧ o.guard = none ∧ o.wp P a w (fun a' w' => S w' ∧ b0E P ops Q S s a' w') Q) ∧
   (∃ o, ops[j]? = some o ∧ o.guard = none ∧ o.wp P a w (fun a' w' => S w' ∧ b0E P ops Q S u a' w') Q)
 | .c i j k s u v, a, w => (∃ o, ops[i]? = some o ∧ o.guard = none ∧ o.wp P a w (fun a' w' => S w' ∧ b0E P ops Q S s a' w') Q) ∧
   (∃ o, ops[j]? = some o ∧ o.guard = none ∧ o.wp P a w (fun a' w' => S w' ∧ b0E P ops Q S u a' w') Q) ∧
   (∃ o, ops[k]? = some o ∧ o.guard = none ∧ o.wp P a w (fun a' w' => S w' ∧ b0E P ops Q S v a' w') Q)
def c0a (md : Region.Mode) (ops : Array Oper) (m : Nat) : Pl → Array Bool → Bool
 | .nil, listed => (Region.ready md ops listed).isEmpty
 | .w i s, listed => decide (i ≠ m) && (Region.ready md ops listed).contains i && Region.free md ops listed i && c0a md ops m s (listed.setIfInBounds i true)
 | .t i s, listed => decide (i ≠ m) && decide (listed.getD m true = false) && (Region.ready md ops listed).contains i && Region.free md ops listed i && w0g md ops m ops.size i && c0a md ops m s (listed.setIfInBounds i true)
 | .r i s, listed => decide (i ≠ m) && decide (listed.getD m true = false) && decide (Region.ready md ops listed = [i]) && c0a md ops m s (listed.setIfInBounds i true)
 | .m i s, listed => (decide (i = m) || decide (listed.getD m true = true)) && decide (Region.ready md ops listed = [i]) && c0a md ops m s (listed.setIfInBounds i true)
 | .b i j s u, listed => decide (i ≠ m) && decide (j ≠ m) && decide (listed.getD m true = false) && decide (s.len = u.len) && decide (Region.ready md ops listed = [i, j]) && c0a md ops m s (listed.setIfInBounds i true) && c0a md ops m u (listed.setIfInBounds j true)
 | .c i j k s u v, listed => decide (i ≠ m) && decide (j ≠ m) && decide (k ≠ m) && decide (listed.getD m true = false) && decide (s.len = u.len) && decide (s.len = v.len) && decide (Region.ready md ops listed = [i, j, k]) && c0a md ops m s (listed.setIfInBounds i true) && c0a md ops m u (listed.setIfInBounds j true) && c0a md ops m v (listed.setIfInBounds k true)
theorem d0u {i : Nat} {o : Oper} {a : Act} {w : World} {K : Act → World → Prop} (ho : ops[i]? = some o) (hg : o.guard = none) (h : o.wp P a w K Q) : wpOp P ops Q i K a w := by
 unfold wpOp
 simp only [ho]
 rw [if_pos (by simp [Region.wanted, hg])]
 exact .inl h
theorem b0P {listed : Array Bool} {i : Nat} (h : i < listed.size) : (listed.setIfInBounds i true).getD i true = true := by simp [h]
theorem b0y (hsel : Region.noSelect ops = true) (hm : m < ops.size) (hQ : ∀ c (d : Option Tmp) v a w, Q (.panic c) (Act.put a d v) w → Q (.panic c) a w) :
  ∀ (s : Pl) (listed : Array Bool) (a : Act) (w : World), Cl md ops listed → c0a md ops m s listed = true → (listed.getD m true = false → S w) → b0E P ops Q S s a w → wpP P md ops Q S m s.len listed a w
 | .nil, listed, a, w, _, hB, _, h => ⟨by simpa [c0a] using hB, h⟩
 | .w i r, listed, a, w, inv, hB, hS, h => by
  obtain ⟨o, v, ho, hy, hK⟩ := h
  simp only [c0a, Bool.and_eq_true, decide_eq_true_eq] at hB
  obtain ⟨⟨⟨him, hr⟩, hf⟩, hB'⟩ := hB
  have hr' : i ∈ Region.ready md ops listed := by simpa using hr
  exact g0A ho (Region.noSelect_spec hsel) (fun c a w => hQ c o.dst v a w) him hm r.len listed a w inv (Region.free_spec ho hf) hr' hy hS
   (b0y hsel hm hQ r _ _ w (inv.set hr') hB' (fun h => hS (by rwa [getD_set_ne true him] at h)) hK)
 | .t i r, listed, a, w, inv, hB, hS, h => by
  obtain ⟨o, v, ho, hy, hK⟩ := h
  simp only [c0a, Bool.and_eq_true, decide_eq_true_eq] at hB
  obtain ⟨⟨⟨⟨⟨him, hml⟩, hr⟩, hf⟩, han⟩, hB'⟩ := hB
  have hr' : i ∈ Region.ready md ops listed := by simpa using hr
  exact i0R ho (Region.noSelect_spec hsel) (fun c a w => hQ c o.dst v a w) him han r.len listed a w inv hml (Region.free_spec ho hf) hr' hy (hS hml)
   (b0y hsel hm hQ r _ _ w (inv.set hr') hB' (fun _ => hS hml) hK)
 | .r i r, listed, a, w, inv, hB, hS, h => by
  obtain ⟨o, ho, hg, hK⟩ := h
  simp only [c0a, Bool.and_eq_true, decide_eq_true_eq] at hB
  obtain ⟨⟨⟨him, hml⟩, hr⟩, hB'⟩ := hB
  have hr' : i ∈ Region.ready md ops listed := by rw [hr]; simp
  refine ⟨fun h0 => (by rw [hr] at h0; cases h0), fun j hj => ?_⟩
  rw [hr] at hj
  have hj' : j = i := by simpa using hj
  subst hj'
  exact d0u ho hg (Oper.wp_mono (fun a' w' h' => ⟨fun _ _ => h'.1, b0y hsel hm hQ r _ a' w' (inv.set hr') hB' (fun _ => h'.1) h'.2⟩) hK)
 | .m i r, listed, a, w, inv, hB, hS, h => by
  obtain ⟨o, ho, hg, hK⟩ := h
  simp only [c0a, Bool.and_eq_true, Bool.or_eq_true, decide_eq_true_eq] at hB
  obtain ⟨⟨him, hr⟩, hB'⟩ := hB
  have hr' : i ∈ Region.ready md ops listed := by rw [hr]; simp
  refine ⟨fun h0 => (by rw [hr] at h0; cases h0), fun j hj => ?_⟩
  rw [hr] at hj
  have hj' : j = i := by simpa using hj
  subst hj'
  have hml : (listed.setIfInBounds j true).getD m true = true := by
   rcases him with e | e
   ·subst e; exact b0P (by rw [inv.size]; exact hm)
   ·by_cases e2 : j = m
    ·subst e2; exact b0P (by rw [inv.size]; exact hm)
    ·rw [getD_set_ne true e2]; exact e
  refine d0u ho hg (Oper.wp_mono (fun a' w' h' => ⟨fun h1 h2 => ?_, b0y hsel hm hQ r _ a' w' (inv.set hr') hB' (fun h1 => by rw [hml] at h1; cases h1) h'⟩) hK)
  rcases him with e | e
  ·exact absurd e h2
  ·rw [e] at h1; cases h1
 | .b i j r u, listed, a, w, inv, hB, hS, h => by
  obtain ⟨⟨o, ho, hg, hK⟩, ⟨o2, ho2, hg2, hK2⟩⟩ := h
  simp only [c0a, Bool.and_eq_true, decide_eq_true_eq] at hB
  obtain ⟨⟨⟨⟨⟨⟨him, hjm⟩, hml⟩, hlen⟩, hr⟩, hB1⟩, hB2⟩ := hB
  have hri : i ∈ Region.ready md ops listed := by rw [hr]; simp
  have hrj : j ∈ Region.ready md ops listed := by rw [hr]; simp
  refine ⟨fun h0 => (by rw [hr] at h0; cases h0), fun k hk => ?_⟩
  rw [hr] at hk
  have hk' : k = i ∨ k = j := by simpa using hk
  rcases hk' with e | e
  ·subst e
   exact d0u ho hg (Oper.wp_mono (fun a' w' h' => ⟨fun _ _ => h'.1, b0y hsel hm hQ r _ a' w' (inv.set hri) hB1 (fun _ => h'.1) h'.2⟩) hK)
  ·subst e
   rw [hlen]
   exact d0u ho2 hg2 (Oper.wp_mono (fun a' w' h' => ⟨fun _ _ => h'.1, b0y hsel hm hQ u _ a' w' (inv.set hrj) hB2 (fun _ => h'.1) h'.2⟩) hK2)
 | .c i j k r u v, listed, a, w, inv, hB, hS, h => by
  obtain ⟨⟨o, ho, hg, hK⟩, ⟨o2, ho2, hg2, hK2⟩, ⟨o3, ho3, hg3, hK3⟩⟩ := h
  simp only [c0a, Bool.and_eq_true, decide_eq_true_eq] at hB
  obtain ⟨⟨⟨⟨⟨⟨⟨⟨⟨him, hjm⟩, hkm⟩, hml⟩, hlen⟩, hlen2⟩, hr⟩, hB1⟩, hB2⟩, hB3⟩ := hB
  have hri : i ∈ Region.ready md ops listed := by rw [hr]; simp
  have hrj : j ∈ Region.ready md ops listed := by rw [hr]; simp
  have hrk : k ∈ Region.ready md ops listed := by rw [hr]; simp
  refine ⟨fun h0 => (by rw [hr] at h0; cases h0), fun q hk => ?_⟩
  rw [hr] at hk
  have hk' : q = i ∨ q = j ∨ q = k := by simpa using hk
  rcases hk' with e | e | e
  ·subst e
   exact d0u ho hg (Oper.wp_mono (fun a' w' h' => ⟨fun _ _ => h'.1, b0y hsel hm hQ r _ a' w' (inv.set hri) hB1 (fun _ => h'.1) h'.2⟩) hK)
  ·subst e
   show wpOp P ops Q _ (fun a' w' => _ ∧ wpP P md ops Q S m r.len _ a' w') a w
   rw [hlen]
   exact d0u ho2 hg2 (Oper.wp_mono (fun a' w' h' => ⟨fun _ _ => h'.1, b0y hsel hm hQ u _ a' w' (inv.set hrj) hB2 (fun _ => h'.1) h'.2⟩) hK2)
  ·subst e
   show wpOp P ops Q _ (fun a' w' => _ ∧ wpP P md ops Q S m r.len _ a' w') a w
   rw [hlen2]
   exact d0u ho3 hg3 (Oper.wp_mono (fun a' w' h' => ⟨fun _ _ => h'.1, b0y hsel hm hQ v _ a' w' (inv.set hrk) hB3 (fun _ => h'.1) h'.2⟩) hK3)
def l0m (ops : Array Oper) (m : Nat) (s : Pl) : Bool :=
 Region.noSelect ops && decide (m < ops.size) && decide (s.len = ops.size) && c0a .any ops m s (Array.replicate ops.size false)
theorem a0p {id : Nat} {a : Act} {w : World} {l : List Oper} (S : World → Prop) (m : Nat) (s : Pl) (hm : P.follows .mixedOrders = true) (hB : l0m l.toArray m s = true)
  (hS : S w.drew) (hQ : ∀ c (d : Option Tmp) v a w, Q (.panic c) (Act.put a d v) w → Q (.panic c) a w)
  (h : b0E P l.toArray Q S s a w.drew) : (Code.region id l.toArray true).wp P Q a w := by
 simp only [l0m, Bool.and_eq_true, decide_eq_true_eq] at hB
 obtain ⟨⟨⟨hsel, hms⟩, hlen⟩, hseq⟩ := hB
 have inv0 : Cl .any l.toArray (Array.replicate l.toArray.size false) :=
  ⟨by simp, fun j oj _ hl => (by rw [getD_replicate_false] at hl; cases hl)⟩
 have H := b0y (md := .any) hsel hms hQ s _ a w.drew inv0 hseq (fun _ => hS) h
 rw [hlen] at H
 exact wp_region_any hm (d0F _ _ _ _ H)
variable {l : List Oper} {i j : Nat} {s u : Pl} {a : Act} {w : World} {o o2 : Oper}
theorem a0h (h : Q .normal a w) : b0E P ops Q S .nil a w := h
theorem a0k (ho : l[i]? = some o) (hg : o.guard = none) {v : Value} (hv : ∀ wx, (execOp a.eval o).run P wx = .ok (.value v) wx) (h : b0E P l.toArray Q S s (a.put o.dst v) w) : b0E P l.toArray Q S (.w i s) a w :=
 ⟨o, v, by simpa using ho, .inl ⟨by simp [Region.wanted, hg], fun wx _ => hv wx⟩, h⟩
theorem d0K (ho : l[i]? = some o) (hg : o.guard = none) {v : Value} (hv : ∀ wx, S wx → (execOp a.eval o).run P wx = .ok (.value v) wx) (h : b0E P l.toArray Q S s (a.put o.dst v) w) : b0E P l.toArray Q S (.t i s) a w :=
 ⟨o, v, by simpa using ho, .inl ⟨by simp [Region.wanted, hg], hv⟩, h⟩
theorem a0r (ho : l[i]? = some o) (hg : o.guard = none) {ty : TypeId} {x : Operand} (hop : o.op = .load ty x) {g p : Nat} (hx : a.eval x = .pointer (some ⟨g, p, none⟩)) (cs : List Value) (hS : ∀ wx, S wx → wx.rangeAt g p cs)
  {d : TypeDesc} (hu : P.underlying ty = some d) (hd : d.isRow = true) (hi : (P.info? ty).map (·.size) = some cs.length) (h : b0E P l.toArray Q S s (a.put o.dst (.agg cs.toArray)) w) : b0E P l.toArray Q S (.t i s) a w :=
 ⟨o, _, by simpa using ho, yieldsIf_load_mid (by simp [Region.wanted, hg]) ty x hop g p hx cs d hS hu hd hi, h⟩
theorem a0y (ho : l[i]? = some o) (hg : o.guard = none) (h : o.wp P a w (fun a' w' => S w' ∧ b0E P l.toArray Q S s a' w') Q) : b0E P l.toArray Q S (.r i s) a w :=
 ⟨o, by simpa using ho, hg, h⟩
theorem a0o (ho : l[i]? = some o) (hg : o.guard = none) (h : o.wp P a w (fun a' w' => b0E P l.toArray Q S s a' w') Q) : b0E P l.toArray Q S (.m i s) a w :=
 ⟨o, by simpa using ho, hg, h⟩
theorem B0n {C F : Nat → World → Prop} (ho : l[i]? = some o) (hg : o.guard = none) (ho2 : l[j]? = some o2) (hg2 : o2.guard = none)
  (h1 : (∀ g w', C g w' → F g w') → o.wp P a w (fun a' w' => S w' ∧ b0E P l.toArray Q S s a' w') Q)
  (h2 : (∀ g w', C g w' → F g w') → o2.wp P a w (fun a' w' => S w' ∧ b0E P l.toArray Q S u a' w') Q)
  (h : ∀ g w', C g w' → F g w') : b0E P l.toArray Q S (.b i j s u) a w :=
 ⟨⟨o, by simpa using ho, hg, h1 h⟩, ⟨o2, by simpa using ho2, hg2, h2 h⟩⟩
theorem e0v {G : Prop} {C F : Nat → World → Prop} (h1 : (∀ g w', C g w' → F g w') → G) (h : ∀ g w', C g w' → F g w') : G := h1 h
theorem d0L (ho : l[i]? = some o) (hg : o.guard = none) (ho2 : l[j]? = some o2) (hg2 : o2.guard = none)
  (h1 : o.wp P a w (fun a' w' => S w' ∧ b0E P l.toArray Q S s a' w') Q)
  (h2 : o2.wp P a w (fun a' w' => S w' ∧ b0E P l.toArray Q S u a' w') Q) : b0E P l.toArray Q S (.b i j s u) a w :=
 ⟨⟨o, by simpa using ho, hg, h1⟩, ⟨o2, by simpa using ho2, hg2, h2⟩⟩
end
end Go.Mv
namespace Go.Proofs.YtemcankmggmgoaaGreat
section
open Go.RowKit Go.Mv Mvp
attribute [local irreducible] a0C lw mix cw b0u b0B b0r a0N a0q beN b0G b0f b0C a0M a0S elN
theorem e0K (m : Md) (gp : Nat) (w : World) (hok : m.Ok) (hpm : Has w gp (mdL m) 187)  :
  Calls Tryz.prog 148 #[.pointer (some ⟨gp, 0, none⟩)] w fun e w' => e = .returned (i4 (elN m 1)) ∧ Fr Nob w w' := by
 have HOK := qH hok
 have HPM := qH hpm
 clear hok hpm
 have st0 := St.start Nob w
 go_enter Tryz.func148, Tryz.ntmps148
 go_wp2_with (with_reducible refine wSk 2 ?_)
 refine a0a st0 rfl rfl (z := zAd) ap13 (cw 4 0) ap11 ?_
 intro g2 w1 st1
 clear st0
 go_wp2_with (with_reducible refine wSk 6 ?_)
 refine c0b rfl rfl Tryz.underlying111 rfl (HPM.out.keep st1.fr id) (cw 4 (B64 ^ 4 % m.M)) (B0b m) ap9 ?_
 go_wp2_with (with_reducible refine wSn ?_)
 refine a0b st1 0 rfl rfl rfl rfl rfl ap7 ap9 (a0g _ _) ?_
 intro w2 st2
 clear st1
 have hr := st2.at 0 rfl
 have hfr := st2.fr
 clear st2
 go_wp2_with fail
 exact bodyPost_ret (a0w rfl rfl hr Tryz.underlying66 ap9) rfl ⟨by rw [← B0j m]; rfl, hfr⟩
theorem w0h (a : Nat) (w : World) :
  Calls Tryz.prog 172 #[i4 a] w fun e w' => e = .returned (i4 a) ∧ Fr Nob w w' := by
 have st0 := St.start Nob w
 go_enter Tryz.func172, Tryz.ntmps172
 go_wp2_with (with_reducible refine wSk 1 ?_)
 refine a0l st0 rfl rfl rfl (cw 4 a) rfl ?_
 intro g1 w1 st1
 clear st0
 go_wp2_with (with_reducible refine wSk 2 ?_)
 refine a0a st1 rfl rfl (z := zAd) ap13 (cw 4 0) ap11 ?_
 intro g2 w2 st2
 clear st1
 go_wp2_with (with_reducible refine wSk 3 ?_)
 refine a0j st2 0 rfl rfl rfl Tryz.underlying66 rfl ap9 ?_
 go_wp2_with (with_reducible refine wSn ?_)
 refine a0b st2 1 rfl rfl rfl rfl rfl ap7 ap9 (a0g _ _) ?_
 intro w3 st3
 clear st2
 have hr := st3.at 1 rfl
 have hfr := st3.fr
 clear st3
 go_wp2_with fail
 exact bodyPost_ret (a0w rfl rfl hr Tryz.underlying111 ap9) rfl ⟨rfl, hfr⟩
theorem g0B (a b : Nat) (w : World) (ha : a < B64 ^ 4) (hb : b < B64 ^ 4) :
  Calls Tryz.prog 145 #[i4 a, i4 b] w fun e w' => e = .returned (.bool (decide (a < b))) ∧ Fr Nob w w' := by
 have HA := qH ha
 have HB := qH hb
 clear ha hb
 have st0 := St.start Nob w
 go_enter Tryz.func145, Tryz.ntmps145
 go_wp2_with (with_reducible refine wSk 2 ?_)
 refine a0l st0 rfl rfl rfl (cw 4 a) rfl ?_
 intro g2 w1 st1
 clear st0
 go_wp2_with (with_reducible refine wSk 3 ?_)
 refine a0l st1 rfl rfl rfl (cw 4 b) rfl ?_
 intro g3 w2 st2
 clear st1
 have HCS := qH (f0v a b 4 HA.out HB.out)
 go_wp2_with (with_reducible refine wSk 8 ?_)
 refine a0j st2 0 rfl rfl rfl Tryz.underlying111 rfl ap9 ?_
 go_wp2_with (with_reducible refine wSk 9 ?_)
 refine a0j st2 1 rfl rfl rfl Tryz.underlying111 rfl ap9 ?_
 go_wp2_with fail
 refine (d0I a b _ HB.out).mono ?_
 rintro e' w3 ⟨rfl, hf3⟩
 have st3 := st2.keep hf3
 clear st2 hf3
 go_wp2_with (with_reducible refine wSk 5 ?_)
 refine a0a st3 rfl rfl (z := zAd) ap13 (cw 4 0) ap11 ?_
 intro g5 w4 st4
 clear st3
 go_wp2_with (with_reducible refine wSn ?_)
 refine a0b st4 2 rfl rfl rfl rfl rfl ap7 ap9 (a0g _ _) ?_
 intro w5 st5
 clear st4
 have hfr := st5.fr
 clear st5
 have hcs := HCS.out
 clear HCS
 by_cases hlt : a < b
 ·rw [if_pos hlt] at hcs
  rw [hcs]
  have HLT := qH hlt
  clear hlt hcs
  go_wp2_with fail
  go_ret
  exact ⟨by rw [decide_eq_true HLT.out]; rfl, hfr⟩
 ·rw [if_neg hlt] at hcs
  rw [hcs]
  have HLT := qH hlt
  clear hlt hcs
  go_wp2_with fail
  go_ret
  exact ⟨by rw [decide_eq_false HLT.out]; rfl, hfr⟩
theorem d0l (m : Md) (gp : Nat) (w : World) (hok : m.Ok) (hpm : Has w gp (mdL m) 187) (n : Nat) (hn : n < B64 ^ 4) :
  Calls Tryz.prog 147 #[.pointer (some ⟨gp, 0, none⟩), i4 n] w fun e w' => e = .returned (i4 (elN m n)) ∧ Fr Nob w w' := by
 have HOK := qH hok
 have HPM := qH hpm
 clear hok hpm
 have HN := qH hn
 clear hn
 have st0 := St.start Nob w
 go_enter Tryz.func147, Tryz.ntmps147
 go_wp2_with (with_reducible refine wSk 3 ?_)
 refine a0l st0 rfl rfl rfl (cw 4 n) rfl ?_
 intro g3 w1 st1
 clear st0
 go_wp2_with (with_reducible refine wSk 4 ?_)
 refine a0a st1 rfl rfl (z := zAd) ap13 (cw 4 0) ap11 ?_
 intro g4 w2 st2
 clear st1
 go_wp2_with fail
 refine wp_region_noPanic ?_
 refine a0p (fun wx => St Nob w wx [(g3, cw 4 n, 111), (g4, cw 4 0, 66)]) 7 (.w 0 (.t 1 (.w 2 (.w 3 (.w 4 (.t 5 (.r 6 (.m 7 .nil)))))))) ap13 ap13 st2.drew (fun _ _ _ _ _ h => h) ?_
 have hd2 := st2.drew
 clear st2
 refine a0k rfl rfl apW ?_
 try simp only [clL]
 refine a0r rfl rfl rfl rfl (cw 4 n) (fun wx hS => St.rangeL hS 0 rfl 0 _ dZl) Tryz.underlying111 rfl ap9 ?_
 try simp only [clL]
 refine a0k rfl rfl apW ?_
 try simp only [clL]
 refine a0k rfl rfl apW ?_
 try simp only [clL]
 refine a0k rfl rfl apW ?_
 try simp only [clL]
 refine a0r rfl rfl rfl rfl (cw 4 (B64 ^ 4 * B64 ^ 4 % m.M)) (fun wx hS => (HPM.out.keep (St.fr hS) id).range 9 _ (B0c m)) Tryz.underlying111 rfl ap9 ?_
 try simp only [clL]
 refine a0y rfl rfl ?_
 go_simp
 refine (h0V m gp n (B64 ^ 4 * B64 ^ 4 % m.M) _ HOK.out (HPM.out.keep hd2.fr id) HN.out (Nat.mod_lt _ (by have := HOK.out.one; omega))).mono ?_
 rintro e' w3 ⟨rfl, hf3⟩
 have st3 := hd2.keep hf3
 clear hf3
 clear hd2
 refine ⟨st3, ?_⟩
 try simp only [clL]
 refine a0o rfl rfl ?_
 refine a0i st3 1 rfl rfl rfl rfl ap7 ap9 (a0g _ _) ?_
 intro w4 st4
 clear st3
 try simp only [Act.put]
 refine a0h ?_
 refine NoPanic.normal ?_
 have hr := st4.at 1 rfl
 have hfr := st4.fr
 clear st4
 go_wp2_with fail
 exact bodyPost_ret (a0w rfl rfl hr Tryz.underlying66 ap9) rfl ⟨by rw [← B0l m HOK.out n]; rfl, hfr⟩
theorem f0l (m : Md) (gp : Nat) (w : World) (hok : m.Ok) (hpm : Has w gp (mdL m) 187) (x : Nat) :
  Calls Tryz.prog 120 #[.pointer (some ⟨gp, 0, none⟩), i4 (elN m x)] w fun e w' => e = .returned (i4 (x % m.M)) ∧ Fr Nob w w' := by
 have HOK := qH hok
 have HPM := qH hpm
 clear hok hpm
 have hmul := fun wx (h : Has wx gp (mdL m) 187) => h0V m gp (elN m x) 1 wx HOK.out h (m0Q m HOK.out x) HOK.out.one
 rw [o0y m HOK.out x, ← b0D 1 ap14] at hmul
 have HMUL := qH hmul
 clear hmul
 have st0 := St.start Nob w
 go_enter Tryz.func120, Tryz.ntmps120
 go_wp2_with (with_reducible refine wSk 3 ?_)
 refine a0l st0 rfl rfl rfl (cw 4 (elN m x)) rfl ?_
 intro g3 w1 st1
 clear st0
 go_wp2_with (with_reducible refine wSk 4 ?_)
 refine a0a st1 rfl rfl (z := zAd) ap13 (cw 4 0) ap11 ?_
 intro g4 w2 st2
 clear st1
 go_wp2_with (with_reducible refine wSk 6 ?_)
 refine a0j st2 0 rfl rfl rfl Tryz.underlying66 rfl ap9 ?_
 go_wp2_with fail
 refine (HMUL.out _ (HPM.out.keep st2.fr id)).mono ?_
 rintro e' w3 ⟨rfl, hf3⟩
 have st3 := st2.keep hf3
 clear st2 hf3
 go_wp2_with fail
 refine (w0h (x % m.M) _).mono ?_
 rintro e' w4 ⟨rfl, hf4⟩
 have st4 := st3.keep hf4
 clear st3 hf4
 go_wp2_with (with_reducible refine wSn ?_)
 refine a0b st4 1 rfl rfl rfl rfl rfl ap7 ap9 (a0g _ _) ?_
 intro w5 st5
 clear st4
 have hr := st5.at 1 rfl
 have hfr := st5.fr
 clear st5
 go_wp2_with fail
 exact bodyPost_ret (a0w rfl rfl hr Tryz.underlying111 ap9) rfl ⟨rfl, hfr⟩
theorem g0C (m : Md) (gp : Nat) (w : World) (hok : m.Ok) (hpm : Has w gp (mdL m) 187) (x y : Nat) :
  Calls Tryz.prog 171 #[.pointer (some ⟨gp, 0, none⟩), i4 (elN m x), i4 (elN m y)] w fun e w' => e = .returned (i4 (elN m (x + y))) ∧ Fr Nob w w' := by
 have HOK := qH hok
 have HPM := qH hpm
 clear hok hpm
 have hx := l0k m HOK.out x
 have hy := l0k m HOK.out y
 have HCA := qH (t0n (elN m x) (elN m y) (Nat.lt_trans hx HOK.out.lt) (Nat.lt_trans hy HOK.out.lt))
 have HFIN := qH (j0W (elN m x + elN m y) m.M HOK.out.lt ap15)
 have H2 := qH (show (elN m x + elN m y) < 2 * B64 ^ 4 by have := HOK.out.lt; omega)
 clear hx hy
 have st0 := St.start Nob w
 go_enter Tryz.func171, Tryz.ntmps171
 go_wp2_with (with_reducible refine wSk 4 ?_)
 refine a0l st0 rfl rfl rfl (cw 4 (elN m x)) rfl ?_
 intro g4 w1 st1
 clear st0
 go_wp2_with (with_reducible refine wSk 5 ?_)
 refine a0l st1 rfl rfl rfl (cw 4 (elN m y)) rfl ?_
 intro g5 w2 st2
 clear st1
 go_wp2_with (with_reducible refine wSk 6 ?_)
 refine a0a st2 rfl rfl (z := zAd) ap13 (cw 4 0) ap11 ?_
 intro g6 w3 st3
 clear st2
 go_wp2_with (with_reducible refine wSk 12 ?_)
 refine a0j st3 0 rfl rfl rfl Tryz.underlying66 rfl ap9 ?_
 go_wp2_with (with_reducible refine wSk 13 ?_)
 refine a0j st3 1 rfl rfl rfl Tryz.underlying66 rfl ap9 ?_
 go_wp2_with fail
 refine (g0v (elN m x) (elN m y) _).mono ?_
 rintro e' w4 ⟨rfl, hf4⟩
 have st4 := st3.keep hf4
 clear st3 hf4
 go_wp2_with (with_reducible refine wSk 7 ?_)
 refine a0a st4 rfl rfl (z := zAd) ap13 (cw 4 0) ap11 ?_
 intro g7 w5 st5
 clear st4
 go_wp2_with (with_reducible refine wSn ?_)
 refine a0b st5 3 rfl rfl rfl rfl rfl ap7 ap9 (a0g _ _) ?_
 intro w6 st6
 clear st5
 go_wp2_with fail
 refine wp_region_noPanic ?_
 refine a0p (fun wx => St Nob w wx [(g4, cw 4 (elN m x), 66), (g5, cw 4 (elN m y), 66), (g6, cw 4 0, 66), (g7, cw 4 (elN m x + elN m y), 111)]) 11 (.t 0 (.w 1 (.w 2 (.w 3 (.t 4 (.b 5 9 (.w 6 (.w 7 (.w 8 (.r 9 (.r 10 (.m 11 .nil)))))) (.r 5 (.w 6 (.w 7 (.w 8 (.r 10 (.m 11 .nil)))))))))))) ap13 ap13 st6.drew (fun _ _ _ _ _ h => h) ?_
 have hd6 := st6.drew
 clear st6
 refine a0r rfl rfl rfl rfl (cw 4 (elN m x + elN m y)) (fun wx hS => St.rangeL hS 3 rfl 0 _ dZl) Tryz.underlying111 rfl ap9 ?_
 try simp only [clL]
 refine a0k rfl rfl apW ?_
 try simp only [clL]
 refine a0k rfl rfl apW ?_
 try simp only [clL]
 refine a0k rfl rfl apW ?_
 try simp only [clL]
 refine a0r rfl rfl rfl rfl (cw 4 m.M) (fun wx hS => (HPM.out.keep (St.fr hS) id).range 0 _ (l0Y m)) Tryz.underlying111 rfl ap9 ?_
 try simp only [clL]
 refine B0n (C := fun g9 wz => St Nob w wz [(g4, cw 4 (elN m x), 66), (g5, cw 4 (elN m y), 66), (g6, cw 4 0, 66), (g7, cw 4 (elN m x + elN m y), 111), (g9, cw 4 ((elN m x + elN m y) + B64 ^ 4 - m.M), 111)]) (F := ?_) rfl rfl rfl rfl (fun key => ?_) (fun key => ?_) ?_
 rotate_left 1
 ·skip
  go_simp
  refine (d0I (elN m x + elN m y) m.M _ HOK.out.lt).mono ?_
  rintro e' w7 ⟨rfl, hf7⟩
  have st7 := hd6.keep hf7
  clear hf7
  refine ⟨st7, ?_⟩
  try simp only [clL]
  refine a0k rfl rfl apW ?_
  try simp only [clL]
  refine a0k rfl rfl apW ?_
  try simp only [clL]
  refine a0k rfl rfl apW ?_
  try simp only [clL]
  refine a0y rfl rfl ?_
  refine b0x st7 rfl (z := zAd) ap13 (cw 4 0) ap11 ?_
  intro g9 w8 st8
  refine ⟨St.less st8 ap16, ?_⟩
  try simp only [clL]
  refine a0y rfl rfl ?_
  refine a0i st8 4 rfl rfl rfl rfl ap7 ap9 (a0g _ _) ?_
  intro w9 st9
  refine ⟨St.less st9 ap16, ?_⟩
  try simp only [Act.put]
  refine a0o rfl rfl ?_
  go_simp
  try simp only [clL]
  refine a0h ?_
  exact key g9 _ st9
 ·skip
  refine b0x hd6 rfl (z := zAd) ap13 (cw 4 0) ap11 ?_
  intro g9 w10 st10
  refine ⟨St.less st10 ap16, ?_⟩
  try simp only [clL]
  refine a0y rfl rfl ?_
  go_simp
  refine (d0I (elN m x + elN m y) m.M _ HOK.out.lt).mono ?_
  rintro e' w11 ⟨rfl, hf11⟩
  have st11 := st10.keep hf11
  clear hf11
  refine ⟨St.less st11 ap16, ?_⟩
  try simp only [clL]
  refine a0k rfl rfl apW ?_
  try simp only [clL]
  refine a0k rfl rfl apW ?_
  try simp only [clL]
  refine a0k rfl rfl apW ?_
  try simp only [clL]
  refine a0y rfl rfl ?_
  refine a0i st11 4 rfl rfl rfl rfl ap7 ap9 (a0g _ _) ?_
  intro w12 st12
  refine ⟨St.less st12 ap16, ?_⟩
  try simp only [Act.put]
  refine a0o rfl rfl ?_
  go_simp
  try simp only [clL]
  refine a0h ?_
  exact key g9 _ st12
 intro g9 w13 st13
 have st13 : St Nob w w13 [(g4, cw 4 (elN m x), 66), (g5, cw 4 (elN m y), 66), (g6, cw 4 0, 66), (g7, cw 4 (elN m x + elN m y), 111), (g9, cw 4 ((elN m x + elN m y) + B64 ^ 4 - m.M), 111)] := st13
 clear hd6
 refine NoPanic.normal ?_
 have hca := HCA.out
 have hfin := HFIN.out
 rw [hca]
 by_cases hlt2 : (elN m x + elN m y) < m.M
 ·obtain ⟨f1, f2, f3⟩ := hfin.1 hlt2
  rw [f1, f2]
  have HF := qH f3
  clear hca hfin f1 f2 f3 hlt2
  go_wp2_with (with_reducible refine wSk 32 ?_)
  refine a0j st13 3 rfl rfl rfl Tryz.underlying111 rfl ap9 ?_
  go_wp2_with (with_reducible refine wSn ?_)
  refine a0b st13 2 rfl rfl rfl rfl rfl ap7 ap9 (a0g _ _) ?_
  intro w14 st14
  clear st13
  have hr := st14.at 2 rfl
  have hfr := st14.fr
  clear st14
  go_wp2_with fail
  exact bodyPost_ret (a0w rfl rfl hr Tryz.underlying66 ap9) rfl ⟨by rw [← p0N]; unfold i4; rw [HF.out], hfr⟩
 ·obtain ⟨f3, f4⟩ := hfin.2 hlt2
  have HF := qH f3
  by_cases hlt3 : (elN m x + elN m y) < B64 ^ 4
  ·obtain ⟨f1, f2⟩ := f4 hlt3
   rw [f1, f2]
   clear hca hfin f1 f2 f3 f4 hlt2 hlt3
   go_wp2_with (with_reducible refine wSk 33 ?_)
   refine a0j st13 4 rfl rfl rfl Tryz.underlying111 rfl ap9 ?_
   go_wp2_with (with_reducible refine wSn ?_)
   refine a0b st13 2 rfl rfl rfl rfl rfl ap7 ap9 (a0g _ _) ?_
   intro w14 st14
   clear st13
   have hr := st14.at 2 rfl
   have hfr := st14.fr
   clear st14
   go_wp2_with fail
   exact bodyPost_ret (a0w rfl rfl hr Tryz.underlying66 ap9) rfl ⟨by rw [← p0N]; unfold i4; rw [HF.out], hfr⟩
  ·have f1 := t0c _ H2.out hlt3
   rw [f1]
   clear hca hfin f1 f3 f4 hlt2 hlt3
   go_wp2_with (with_reducible refine wSk 33 ?_)
   refine a0j st13 4 rfl rfl rfl Tryz.underlying111 rfl ap9 ?_
   go_wp2_with (with_reducible refine wSn ?_)
   refine a0b st13 2 rfl rfl rfl rfl rfl ap7 ap9 (a0g _ _) ?_
   intro w14 st14
   clear st13
   have hr := st14.at 2 rfl
   have hfr := st14.fr
   clear st14
   go_wp2_with fail
   exact bodyPost_ret (a0w rfl rfl hr Tryz.underlying66 ap9) rfl ⟨by rw [← p0N]; unfold i4; rw [HF.out], hfr⟩
theorem p0O (m : Md) (gp : Nat) (w : World) (hok : m.Ok) (hpm : Has w gp (mdL m) 187) (x y : Nat) :
  Calls Tryz.prog 182 #[.pointer (some ⟨gp, 0, none⟩), i4 (elN m x), i4 (elN m y)] w fun e w' => e = .returned (i4 (elN m (x + (m.M - y % m.M)))) ∧ Fr Nob w w' := by
 have HOK := qH hok
 have HPM := qH hpm
 clear hok hpm
 have hx := l0k m HOK.out x
 have hy := l0k m HOK.out y
 have HY4 := qH (Nat.lt_trans hy HOK.out.lt)
 have HCS := qH (f0v (elN m x) (elN m y) 4 (Nat.lt_trans hx HOK.out.lt) (Nat.lt_trans hy HOK.out.lt))
 have HSA := qH (m0S (elN m x) (elN m y) m.M hx hy HOK.out.lt)
 have HSB := qH (m0T (elN m x) (elN m y) m.M hx hy)
 clear hx hy
 have st0 := St.start Nob w
 go_enter Tryz.func182, Tryz.ntmps182
 go_wp2_with (with_reducible refine wSk 4 ?_)
 refine a0l st0 rfl rfl rfl (cw 4 (elN m x)) rfl ?_
 intro g4 w1 st1
 clear st0
 go_wp2_with (with_reducible refine wSk 5 ?_)
 refine a0l st1 rfl rfl rfl (cw 4 (elN m y)) rfl ?_
 intro g5 w2 st2
 clear st1
 go_wp2_with (with_reducible refine wSk 6 ?_)
 refine a0a st2 rfl rfl (z := zAd) ap13 (cw 4 0) ap11 ?_
 intro g6 w3 st3
 clear st2
 go_wp2_with (with_reducible refine wSk 10 ?_)
 refine a0j st3 0 rfl rfl rfl Tryz.underlying66 rfl ap9 ?_
 go_wp2_with (with_reducible refine wSk 11 ?_)
 refine a0j st3 1 rfl rfl rfl Tryz.underlying66 rfl ap9 ?_
 go_wp2_with fail
 refine (d0I (elN m x) (elN m y) _ HY4.out).mono ?_
 rintro e' w4 ⟨rfl, hf4⟩
 have st4 := st3.keep hf4
 clear st3 hf4
 go_wp2_with (with_reducible refine wSk 7 ?_)
 refine a0a st4 rfl rfl (z := zAd) ap13 (cw 4 0) ap11 ?_
 intro g7 w5 st5
 clear st4
 go_wp2_with (with_reducible refine wSn ?_)
 refine a0b st5 3 rfl rfl rfl rfl rfl ap7 ap9 (a0g _ _) ?_
 intro w6 st6
 clear st5
 have hcs := HCS.out
 by_cases hlt : elN m x < elN m y
 ·rw [if_pos hlt] at hcs
  rw [hcs]
  have HV := qH (HSA.out hlt)
  clear hcs hlt
  go_wp2_with fail
  refine wp_region_noPanic ?_
  refine a0p (fun wx => St Nob w wx [(g4, cw 4 (elN m x), 66), (g5, cw 4 (elN m y), 66), (g6, cw 4 0, 66), (g7, cw 4 (elN m x + B64 ^ 4 - elN m y), 111)]) 9 (.t 0 (.w 1 (.w 2 (.w 3 (.t 4 (.r 5 (.w 6 (.w 7 (.w 8 (.m 9 .nil)))))))))) ap13 ap13 st6.drew (fun _ _ _ _ _ h => h) ?_
  have hd6 := st6.drew
  clear st6
  refine a0r rfl rfl rfl rfl (cw 4 (elN m x + B64 ^ 4 - elN m y)) (fun wx hS => St.rangeL hS 3 rfl 0 _ dZl) Tryz.underlying111 rfl ap9 ?_
  try simp only [clL]
  refine a0k rfl rfl apW ?_
  try simp only [clL]
  refine a0k rfl rfl apW ?_
  try simp only [clL]
  refine a0k rfl rfl apW ?_
  try simp only [clL]
  refine a0r rfl rfl rfl rfl (cw 4 m.M) (fun wx hS => (HPM.out.keep (St.fr hS) id).range 0 _ (l0Y m)) Tryz.underlying111 rfl ap9 ?_
  try simp only [clL]
  refine a0y rfl rfl ?_
  go_simp
  refine (g0v (elN m x + B64 ^ 4 - elN m y) m.M _).mono ?_
  rintro e' w7 ⟨rfl, hf7⟩
  have st7 := hd6.keep hf7
  clear hf7
  clear hd6
  refine ⟨st7, ?_⟩
  try simp only [clL]
  refine a0k rfl rfl apW ?_
  try simp only [clL]
  refine a0k rfl rfl apW ?_
  try simp only [clL]
  refine a0k rfl rfl apW ?_
  try simp only [clL]
  refine a0o rfl rfl ?_
  refine a0i st7 3 rfl rfl rfl rfl ap7 ap9 (a0g _ _) ?_
  intro w8 st8
  clear st7
  try simp only [Act.put]
  refine a0h ?_
  refine NoPanic.normal ?_
  go_wp2_with (with_reducible refine wSk 26 ?_)
  refine a0j st8 3 rfl rfl rfl Tryz.underlying111 rfl ap9 ?_
  go_wp2_with (with_reducible refine wSn ?_)
  refine a0b st8 2 rfl rfl rfl rfl rfl ap7 ap9 (a0g _ _) ?_
  intro w9 st9
  clear st8
  have hr := st9.at 2 rfl
  have hfr := st9.fr
  clear st9
  go_wp2_with fail
  exact bodyPost_ret (a0w rfl rfl hr Tryz.underlying66 ap9) rfl ⟨by rw [← y0b m HOK.out]; unfold i4; rw [← HV.out], hfr⟩
 ·rw [if_neg hlt] at hcs
  rw [hcs]
  have HV := qH (HSB.out hlt)
  clear hcs hlt
  go_wp2_with (with_reducible refine wSk 26 ?_)
  refine a0j st6 3 rfl rfl rfl Tryz.underlying111 rfl ap9 ?_
  go_wp2_with (with_reducible refine wSn ?_)
  refine a0b st6 2 rfl rfl rfl rfl rfl ap7 ap9 (a0g _ _) ?_
  intro w7 st7
  clear st6
  have hr := st7.at 2 rfl
  have hfr := st7.fr
  clear st7
  go_wp2_with fail
  exact bodyPost_ret (a0w rfl rfl hr Tryz.underlying66 ap9) rfl ⟨by rw [← y0b m HOK.out]; unfold i4; rw [← HV.out], hfr⟩
theorem p0P (m : Md) (gp : Nat) (w : World) (hok : m.Ok) (hpm : Has w gp (mdL m) 187) (x : Nat) :
  Calls Tryz.prog 135 #[.pointer (some ⟨gp, 0, none⟩), i4 (elN m x)] w fun e w' => e = .returned (i4 (elN m (m.M - x % m.M))) ∧ Fr Nob w w' := by
 have HOK := qH hok
 have HPM := qH hpm
 clear hok hpm
 have hsub := fun wx (h : Has wx gp (mdL m) 187) => p0O m gp wx HOK.out h 0 x
 rw [e0g m, ← b0D 0 ap14] at hsub
 have HSUB := qH hsub
 clear hsub
 have st0 := St.start Nob w
 go_enter Tryz.func135, Tryz.ntmps135
 go_wp2_with (with_reducible refine wSk 3 ?_)
 refine a0l st0 rfl rfl rfl (cw 4 (elN m x)) rfl ?_
 intro g3 w1 st1
 clear st0
 go_wp2_with (with_reducible refine wSk 4 ?_)
 refine a0a st1 rfl rfl (z := zAd) ap13 (cw 4 0) ap11 ?_
 intro g4 w2 st2
 clear st1
 go_wp2_with (with_reducible refine wSk 7 ?_)
 refine a0j st2 0 rfl rfl rfl Tryz.underlying66 rfl ap9 ?_
 go_wp2_with fail
 refine (HSUB.out _ (HPM.out.keep st2.fr id)).mono ?_
 rintro e' w3 ⟨rfl, hf3⟩
 have st3 := st2.keep hf3
 clear st2 hf3
 go_wp2_with (with_reducible refine wSn ?_)
 refine a0b st3 1 rfl rfl rfl rfl rfl ap7 ap9 (a0g _ _) ?_
 intro w4 st4
 clear st3
 have hr := st4.at 1 rfl
 have hfr := st4.fr
 clear st4
 go_wp2_with fail
 exact bodyPost_ret (a0w rfl rfl hr Tryz.underlying66 ap9) rfl ⟨rfl, hfr⟩
theorem w0i (m : Md) (gp : Nat) (w : World) (hok : m.Ok) (hpm : Has w gp (mdL m) 187) (x y : Nat) :
  Calls Tryz.prog 152 #[.pointer (some ⟨gp, 0, none⟩), i4 (elN m x), i4 (elN m y)] w fun e w' => e = .returned (i4 (elN m (x * y))) ∧ Fr Nob w w' := by
 have h := h0V m gp (elN m x) (elN m y) w hok hpm (m0Q m hok x) (l0k m hok y)
 rwa [B0k m hok] at h
theorem d0M (m : Md) (gp : Nat) (w : World) (hok : m.Ok) (hpm : Has w gp (mdL m) 187) (x : Nat) :
  Calls Tryz.prog 151 #[.pointer (some ⟨gp, 0, none⟩), i4 (elN m x)] w fun e w' => e = .returned (i4 (elN m (x * x))) ∧ Fr Nob w w' := by
 have HOK := qH hok
 have HPM := qH hpm
 clear hok hpm
 have st0 := St.start Nob w
 go_enter Tryz.func151, Tryz.ntmps151
 go_wp2_with (with_reducible refine wSk 3 ?_)
 refine a0l st0 rfl rfl rfl (cw 4 (elN m x)) rfl ?_
 intro g3 w1 st1
 clear st0
 go_wp2_with (with_reducible refine wSk 4 ?_)
 refine a0a st1 rfl rfl (z := zAd) ap13 (cw 4 0) ap11 ?_
 intro g4 w2 st2
 clear st1
 go_wp2_with (with_reducible refine wSk 6 ?_)
 refine a0j st2 0 rfl rfl rfl Tryz.underlying66 rfl ap9 ?_
 go_wp2_with (with_reducible refine wSk 7 ?_)
 refine a0j st2 0 rfl rfl rfl Tryz.underlying66 rfl ap9 ?_
 go_wp2_with fail
 refine (w0i m gp _ HOK.out (HPM.out.keep st2.fr id) x x).mono ?_
 rintro e' w3 ⟨rfl, hf3⟩
 have st3 := st2.keep hf3
 clear st2 hf3
 go_wp2_with (with_reducible refine wSn ?_)
 refine a0b st3 1 rfl rfl rfl rfl rfl ap7 ap9 (a0g _ _) ?_
 intro w4 st4
 clear st3
 have hr := st4.at 1 rfl
 have hfr := st4.fr
 clear st4
 go_wp2_with fail
 exact bodyPost_ret (a0w rfl rfl hr Tryz.underlying66 ap9) rfl ⟨rfl, hfr⟩
end
section
open Go.RowKit Go.Mv Mvp
attribute [local irreducible] a0C lw mix cw b0u b0B b0r a0N a0q beN b0G b0f b0C a0M a0S elN
theorem B0o (m : Md) (x n i : Nat) (h : n / 2 ^ i % 2 = 0) : elN m (x ^ (n / 2 ^ (i + 1)) * x ^ (n / 2 ^ (i + 1))) = elN m (x ^ (n / 2 ^ i)) := by
 have := e0s n i
 rw [h, Nat.two_mul, Nat.add_zero] at this
 rw [← Nat.pow_add, this]
theorem B0p (m : Md) (x n i : Nat) (h : n / 2 ^ i % 2 = 1) : elN m (x ^ (n / 2 ^ (i + 1)) * x ^ (n / 2 ^ (i + 1)) * x) = elN m (x ^ (n / 2 ^ i)) := by
 have := e0s n i
 rw [h, Nat.two_mul] at this
 rw [← Nat.pow_add, ← Nat.pow_succ, this]
theorem t0o (m : Md) (x n : Nat) (h : n < B64 ^ 4) : elN m (x ^ (n / 2 ^ 256)) = elN m 1 := by
 rw [Nat.div_eq_of_lt (Nat.lt_of_lt_of_le h ap14), Nat.pow_zero]
theorem t0p (m : Md) (x n : Nat) : elN m (x ^ (n / 2 ^ 0)) = elN m (x ^ n) := by rw [Nat.pow_zero, Nat.div_one]
theorem B0q (m : Md) (n i : Nat) (h : n / 2 ^ i % 2 = 0) : elN m (n / 2 ^ (i + 1) + n / 2 ^ (i + 1)) = elN m (n / 2 ^ i) := by
 have := e0s n i
 rw [h, Nat.two_mul, Nat.add_zero] at this
 rw [this]
theorem B0r (m : Md) (n i : Nat) (h : n / 2 ^ i % 2 = 1) : elN m (n / 2 ^ (i + 1) + n / 2 ^ (i + 1) + 1) = elN m (n / 2 ^ i) := by
 have := e0s n i
 rw [h, Nat.two_mul] at this
 rw [this]
theorem h0W (m : Md) (gp : Nat) (w : World) (hok : m.Ok) (hpm : Has w gp (mdL m) 187) (x n : Nat) (hn : n < B64 ^ 4) :
  Calls Tryz.prog 188 #[.pointer (some ⟨gp, 0, none⟩), i4 (elN m x), i4 n] w fun e w' => e = .returned (i4 (elN m (x ^ n))) ∧ Fr Nob w w' := by
 have HOK := qH hok
 have HPM := qH hpm
 clear hok hpm
 have HN := qH hn
 have HTOP := qH (t0o m x n hn)
 clear hn
 have st0 := St.start Nob w
 go_enter Tryz.func188, Tryz.ntmps188
 go_wp2_with (with_reducible refine wSk 4 ?_)
 refine a0l st0 rfl rfl rfl (cw 4 (elN m x)) rfl ?_
 intro g4 w1 st1
 clear st0
 go_wp2_with (with_reducible refine wSk 5 ?_)
 refine a0l st1 rfl rfl rfl (cw 4 n) rfl ?_
 intro g5 w2 st2
 clear st1
 go_wp2_with (with_reducible refine wSk 6 ?_)
 refine a0a st2 rfl rfl (z := zAd) ap13 (cw 4 0) ap11 ?_
 intro g6 w3 st3
 clear st2
 go_wp2_with fail
 refine (e0K m gp _ HOK.out (HPM.out.keep st3.fr id)).mono ?_
 rintro e' w4 ⟨rfl, hf4⟩
 have st4 := st3.keep hf4
 clear st3 hf4
 go_wp2_with (with_reducible refine wSk 7 ?_)
 refine a0a st4 rfl rfl (z := zAd) ap13 (cw 4 0) ap11 ?_
 intro g7 w5 st5
 clear st4
 go_wp2_with (with_reducible refine wSn ?_)
 refine a0b st5 3 rfl rfl rfl rfl rfl ap7 ap9 (a0g _ _) ?_
 intro w6 st6
 clear st5
 go_wp2
 go_loopw [8] (fun i wr => ∃ j : Nat, j ≤ 256 ∧ i = .int .i64 ((j : Int) - 1) ∧ St Nob w wr [(g4, cw 4 (elN m x), 66), (g5, cw 4 n, 111), (g6, cw 4 0, 66), (g7, cw 4 (elN m (x ^ (n / 2 ^ j))), 66)]) (fun i _ => (intOf i + 1).toNat)
 case atStart => exact ⟨256, by omega, rfl, by rw [HTOP.out]; exact st6⟩
 case round =>
  obtain ⟨j, hj, rfl, st⟩ := hrel
  clear st6
  cases j with
  | succ i =>
   rw [show (((i + 1 : Nat) : Int)) - 1 = (i : Int) by omega]
   have hge : (0 : Int) ≤ (i : Int) := by omega
   go_wp2_with (with_reducible refine wSk 16 ?_)
   refine a0j st 3 rfl rfl rfl Tryz.underlying66 rfl ap9 ?_
   go_wp2_with fail
   refine (d0M m gp _ HOK.out (HPM.out.keep st.fr id) (x ^ (n / 2 ^ (i + 1)))).mono ?_
   rintro e' w7 ⟨rfl, hf7⟩
   have st7 := st.keep hf7
   clear st hf7
   go_wp2_with (with_reducible refine wSn ?_)
   refine a0b st7 3 rfl rfl rfl rfl rfl ap7 ap9 (a0g _ _) ?_
   intro w8 st8
   clear st7
   go_wp2_with (with_reducible refine wSk 18 ?_)
   refine a0j st8 1 rfl rfl rfl Tryz.underlying111 rfl ap9 ?_
   go_wp2_with fail
   refine (p0I n i _ ap15).mono ?_
   rintro e' w9 ⟨rfl, hf9⟩
   have st9 := st8.keep hf9
   clear st8 hf9
   have hbt : n / 2 ^ i % 2 = 0 ∨ n / 2 ^ i % 2 = 1 := by omega
   have HS0 := qH (B0o m x n i)
   have HS1 := qH (B0p m x n i)
   generalize hbb : n / 2 ^ i % 2 = bt at *
   have HBB := qH hbb
   clear hbb
   rcases hbt with rfl | rfl
   ·have hst := st9
    rw [HS0.out (by first | rfl | trivial)] at hst
    clear st9
    go_wp2
    go_roundw
    case rel => exact ⟨i, by omega, rfl, hst⟩
    case measure => simp [intOf]
   ·skip
    go_wp2_with (with_reducible refine wSk 23 ?_)
    refine a0j st9 3 rfl rfl rfl Tryz.underlying66 rfl ap9 ?_
    go_wp2_with (with_reducible refine wSk 24 ?_)
    refine a0j st9 0 rfl rfl rfl Tryz.underlying66 rfl ap9 ?_
    go_wp2_with fail
    refine (w0i m gp _ HOK.out (HPM.out.keep st9.fr id) ((x ^ (n / 2 ^ (i + 1))) * (x ^ (n / 2 ^ (i + 1)))) x).mono ?_
    rintro e' w10 ⟨rfl, hf10⟩
    have st10 := st9.keep hf10
    clear st9 hf10
    go_wp2_with (with_reducible refine wSn ?_)
    refine a0b st10 3 rfl rfl rfl rfl rfl ap7 ap9 (a0g _ _) ?_
    intro w11 st11
    clear st10
    have hst := st11
    rw [HS1.out (by first | rfl | trivial)] at hst
    clear st11
    go_wp2
    go_roundw
    case rel => exact ⟨i, by omega, rfl, hst⟩
    case measure => simp [intOf]
  | zero =>
   rw [show (((0 : Nat) : Int)) - 1 = -1 by omega]
   go_wp2_with (with_reducible refine wSk 26 ?_)
   refine a0j st 3 rfl rfl rfl Tryz.underlying66 rfl ap9 ?_
   go_wp2_with (with_reducible refine wSn ?_)
   refine a0b st 2 rfl rfl rfl rfl rfl ap7 ap9 (a0g _ _) ?_
   intro w7 st7
   clear st
   have hr := st7.at 2 rfl
   have hfr := st7.fr
   clear st7
   go_wp2_with fail
   exact bodyPost_ret (a0w rfl rfl hr Tryz.underlying66 ap9) rfl ⟨by rw [← t0p]; rfl, hfr⟩
theorem w0j (m : Md) (gp : Nat) (w : World) (hok : m.Ok) (hpm : Has w gp (mdL m) 187) (x : Nat) :
  Calls Tryz.prog 150 #[.pointer (some ⟨gp, 0, none⟩), i4 (elN m x)] w fun e w' => e = .returned (i4 (elN m (x ^ (m.M - 2)))) ∧ Fr Nob w w' := by
 have HOK := qH hok
 have HPM := qH hpm
 clear hok hpm
 have HM2 := qH (show m.M - 2 < B64 ^ 4 by have := HOK.out.lt; omega)
 have h2m := fun wx => d0I m.M 2 wx ap14
 rw [i0J m.M 2 (by have := HOK.out.one; omega), ← b0D 2 ap14] at h2m
 have H2M := qH h2m
 clear h2m
 have st0 := St.start Nob w
 go_enter Tryz.func150, Tryz.ntmps150
 go_wp2_with (with_reducible refine wSk 3 ?_)
 refine a0l st0 rfl rfl rfl (cw 4 (elN m x)) rfl ?_
 intro g3 w1 st1
 clear st0
 go_wp2_with (with_reducible refine wSk 4 ?_)
 refine a0a st1 rfl rfl (z := zAd) ap13 (cw 4 0) ap11 ?_
 intro g4 w2 st2
 clear st1
 go_wp2_with (with_reducible refine wSk 11 ?_)
 refine c0b rfl rfl Tryz.underlying111 rfl (HPM.out.keep st2.fr id) (cw 4 m.M) (l0Y m) ap9 ?_
 go_wp2_with fail
 refine (H2M.out _).mono ?_
 rintro e' w3 ⟨rfl, hf3⟩
 have st3 := st2.keep hf3
 clear st2 hf3
 go_wp2_with (with_reducible refine wSk 5 ?_)
 refine a0a st3 rfl rfl (z := zAd) ap13 (cw 4 0) ap11 ?_
 intro g5 w4 st4
 clear st3
 go_wp2_with (with_reducible refine wSn ?_)
 refine a0b st4 2 rfl rfl rfl rfl rfl ap7 ap9 (a0g _ _) ?_
 intro w5 st5
 clear st4
 go_wp2_with (with_reducible refine wSk 17 ?_)
 refine a0j st5 0 rfl rfl rfl Tryz.underlying66 rfl ap9 ?_
 go_wp2_with (with_reducible refine wSk 18 ?_)
 refine a0j st5 2 rfl rfl rfl Tryz.underlying111 rfl ap9 ?_
 go_wp2_with fail
 refine (h0W m gp _ HOK.out (HPM.out.keep st5.fr id) x (m.M - 2) HM2.out).mono ?_
 rintro e' w6 ⟨rfl, hf6⟩
 have st6 := st5.keep hf6
 clear st5 hf6
 go_wp2_with (with_reducible refine wSn ?_)
 refine a0b st6 1 rfl rfl rfl rfl rfl ap7 ap9 (a0g _ _) ?_
 intro w7 st7
 clear st6
 have hr := st7.at 1 rfl
 have hfr := st7.fr
 clear st7
 go_wp2_with fail
 exact bodyPost_ret (a0w rfl rfl hr Tryz.underlying66 ap9) rfl ⟨rfl, hfr⟩
theorem m0U (m : Md) (gp : Nat) (w : World) (hok : m.Ok) (hpm : Has w gp (mdL m) 187) (a : Option Addr) (n c : Nat) (l : List UInt8) (hb : RdB w a n l) (hn : n ≤ 32) :
  Calls Tryz.prog 195 #[.pointer (some ⟨gp, 0, none⟩), .slice a n c] w fun e w' => e = .returned (i4 (elN m (beN l))) ∧ Fr Nob w w' := by
 have HOK := qH hok
 have HPM := qH hpm
 clear hok hpm
 have HN := qH hn
 have HBB := qH hb
 have hbl := f0w l (by rw [hb.len]; exact hn)
 have HBL := qH hbl
 have HTOP := qH (show elN m (beN l / 2 ^ 256) = 0 by rw [Nat.div_eq_of_lt (Nat.lt_of_lt_of_le hbl ap14), e0g])
 have HALL := qH (show elN m (beN l / 2 ^ 0) = elN m (beN l) by rw [Nat.pow_zero, Nat.div_one])
 clear hb hbl
 clear hn
 have st0 := St.start Nob w
 go_enter Tryz.func195, Tryz.ntmps195
 go_wp2_with (with_reducible refine wSk 4 ?_)
 refine a0a st0 rfl rfl (z := zAd) ap13 (cw 4 0) ap11 ?_
 intro g4 w1 st1
 clear st0
 go_wp2_with fail
 refine (c0p a n c l _ (HBB.out.still st1.fr) HN.out).mono ?_
 rintro e' w2 ⟨rfl, hf2⟩
 have st2 := st1.keep hf2
 clear st1 hf2
 go_wp2_with (with_reducible refine wSk 5 ?_)
 refine a0a st2 rfl rfl (z := zAd) ap13 (cw 4 0) ap11 ?_
 intro g5 w3 st3
 clear st2
 go_wp2_with (with_reducible refine wSn ?_)
 refine a0b st3 1 rfl rfl rfl rfl rfl ap7 ap6 (a0g _ _) ?_
 intro w4 st4
 clear st3
 go_wp2_with fail
 refine wp_region_noPanic ?_
 refine a0p (fun wx => St Nob w wx [(g4, cw 4 0, 66), (g5, cw 4 (beN l), 111)]) 5 (.t 0 (.w 1 (.w 2 (.w 3 (.t 4 (.m 5 .nil)))))) ap13 ap13 st4.drew (fun _ _ _ _ _ h => h) ?_
 have hd4 := st4.drew
 clear st4
 refine a0r rfl rfl rfl rfl (cw 4 (beN l)) (fun wx hS => St.rangeL hS 1 rfl 0 _ dZl) Tryz.underlying111 rfl ap6 ?_
 try simp only [clL]
 refine a0k rfl rfl apW ?_
 try simp only [clL]
 refine a0k rfl rfl apW ?_
 try simp only [clL]
 refine a0k rfl rfl apW ?_
 try simp only [clL]
 refine a0r rfl rfl rfl rfl (cw 4 m.M) (fun wx hS => (HPM.out.keep (St.fr hS) id).range 0 _ (l0Y m)) Tryz.underlying111 rfl ap6 ?_
 try simp only [clL]
 refine a0o rfl rfl ?_
 go_simp
 refine (g0B (beN l) m.M _ HBL.out HOK.out.lt).mono ?_
 rintro e' w5 ⟨rfl, hf5⟩
 have st5 := hd4.keep hf5
 clear hf5
 clear hd4
 try simp only []
 refine a0h ?_
 refine NoPanic.normal ?_
 by_cases hlt : beN l < m.M
 ·have hd := decide_eq_true hlt
  have HLT := qH hlt
  rw [hd]
  clear hd hlt
  go_wp2_with (with_reducible refine wSk 18 ?_)
  refine a0j st5 1 rfl rfl rfl Tryz.underlying111 rfl ap6 ?_
  go_wp2_with fail
  refine (d0l m gp _ HOK.out (HPM.out.keep st5.fr id) (beN l) HBL.out).mono ?_
  rintro e' w6 ⟨rfl, hf6⟩
  have st6 := st5.keep hf6
  clear st5 hf6
  go_wp2_with (with_reducible refine wSn ?_)
  refine a0b st6 0 rfl rfl rfl rfl rfl ap7 ap6 (a0g _ _) ?_
  intro w7 st7
  clear st6
  have hr := st7.at 0 rfl
  have hfr := st7.fr
  clear st7
  go_wp2_with fail
  exact bodyPost_ret (a0w rfl rfl hr Tryz.underlying66 ap6) rfl ⟨rfl, hfr⟩
 ·have hd := decide_eq_false hlt
  rw [hd]
  clear hd hlt
  go_wp2_with (with_reducible refine wSk 6 ?_)
  refine a0a st5 rfl rfl (z := zAd) ap13 (cw 4 0) ap11 ?_
  intro g6 w6 st6
  clear st5
  go_wp2_with fail
  refine (e0K m gp _ HOK.out (HPM.out.keep st6.fr id)).mono ?_
  rintro e' w7 ⟨rfl, hf7⟩
  have st7 := st6.keep hf7
  clear st6 hf7
  go_wp2_with (with_reducible refine wSk 7 ?_)
  refine a0a st7 rfl rfl (z := zAd) ap13 (cw 4 0) ap11 ?_
  intro g7 w8 st8
  clear st7
  go_wp2_with (with_reducible refine wSn ?_)
  refine a0b st8 3 rfl rfl rfl rfl rfl ap7 ap6 (a0g _ _) ?_
  intro w9 st9
  clear st8
  go_wp2
  go_loopw [8] (fun i wr => ∃ j : Nat, j ≤ 256 ∧ i = .int .i64 ((j : Int) - 1) ∧ St Nob w wr [(g4, cw 4 0, 66), (g5, cw 4 (beN l), 111), (g6, cw 4 (elN m (beN l / 2 ^ j)), 66), (g7, cw 4 (elN m 1), 66)]) (fun i _ => (intOf i + 1).toNat)
  case atStart => exact ⟨256, by omega, rfl, by rw [HTOP.out]; exact st9⟩
  case round =>
   obtain ⟨j, hj, rfl, st⟩ := hrel
   clear st9
   cases j with
   | succ i =>
    rw [show (((i + 1 : Nat) : Int)) - 1 = (i : Int) by omega]
    have hge : (0 : Int) ≤ (i : Int) := by omega
    go_wp2_with (with_reducible refine wSk 27 ?_)
    refine a0j st 2 rfl rfl rfl Tryz.underlying66 rfl ap6 ?_
    go_wp2_with (with_reducible refine wSk 28 ?_)
    refine a0j st 2 rfl rfl rfl Tryz.underlying66 rfl ap6 ?_
    go_wp2_with fail
    refine (g0C m gp _ HOK.out (HPM.out.keep st.fr id) (beN l / 2 ^ (i + 1)) (beN l / 2 ^ (i + 1))).mono ?_
    rintro e' w10 ⟨rfl, hf10⟩
    have st10 := st.keep hf10
    clear st hf10
    go_wp2_with (with_reducible refine wSn ?_)
    refine a0b st10 2 rfl rfl rfl rfl rfl ap7 ap6 (a0g _ _) ?_
    intro w11 st11
    clear st10
    go_wp2_with (with_reducible refine wSk 30 ?_)
    refine a0j st11 1 rfl rfl rfl Tryz.underlying111 rfl ap6 ?_
    go_wp2_with fail
    refine (p0I (beN l) i _ ap15).mono ?_
    rintro e' w12 ⟨rfl, hf12⟩
    have st12 := st11.keep hf12
    clear st11 hf12
    have hbt : beN l / 2 ^ i % 2 = 0 ∨ beN l / 2 ^ i % 2 = 1 := by omega
    have HS0 := qH (B0q m (beN l) i)
    have HS1 := qH (B0r m (beN l) i)
    generalize hbb : beN l / 2 ^ i % 2 = bt at *
    have HBT := qH hbb
    clear hbb
    rcases hbt with rfl | rfl
    ·have hst := st12
     rw [HS0.out (by first | rfl | trivial)] at hst
     clear st12
     go_wp2
     go_roundw
     case rel => exact ⟨i, by omega, rfl, hst⟩
     case measure => simp [intOf]
    ·skip
     go_wp2_with (with_reducible refine wSk 35 ?_)
     refine a0j st12 2 rfl rfl rfl Tryz.underlying66 rfl ap6 ?_
     go_wp2_with (with_reducible refine wSk 36 ?_)
     refine a0j st12 3 rfl rfl rfl Tryz.underlying66 rfl ap6 ?_
     go_wp2_with fail
     refine (g0C m gp _ HOK.out (HPM.out.keep st12.fr id) ((beN l / 2 ^ (i + 1)) + (beN l / 2 ^ (i + 1))) 1).mono ?_
     rintro e' w13 ⟨rfl, hf13⟩
     have st13 := st12.keep hf13
     clear st12 hf13
     go_wp2_with (with_reducible refine wSn ?_)
     refine a0b st13 2 rfl rfl rfl rfl rfl ap7 ap6 (a0g _ _) ?_
     intro w14 st14
     clear st13
     have hst := st14
     rw [HS1.out (by first | rfl | trivial)] at hst
     clear st14
     go_wp2
     go_roundw
     case rel => exact ⟨i, by omega, rfl, hst⟩
     case measure => simp [intOf]
   | zero =>
    rw [show (((0 : Nat) : Int)) - 1 = -1 by omega]
    go_wp2_with (with_reducible refine wSk 38 ?_)
    refine a0j st 2 rfl rfl rfl Tryz.underlying66 rfl ap6 ?_
    go_wp2_with (with_reducible refine wSn ?_)
    refine a0b st 0 rfl rfl rfl rfl rfl ap7 ap6 (a0g _ _) ?_
    intro w10 st10
    clear st
    have hr := st10.at 0 rfl
    have hfr := st10.fr
    clear st10
    go_wp2_with fail
    exact bodyPost_ret (a0w rfl rfl hr Tryz.underlying66 ap6) rfl ⟨rfl, hfr⟩
end
section
open Go.RowKit Go.Mv Mvp
attribute [local irreducible] a0C lw mix cw b0u b0B b0r a0N a0q beN b0G b0f b0C a0M a0S elN
theorem w0k (m : Md) (h : m.Ok) (x : Nat) : elN m x * (B64 ^ 4 * B64 ^ 4 % m.M) * m.Ri % m.M = elN m (x * B64 ^ 4) := by
 rw [B0l m h]
 refine l0l m ?_
 unfold elN
 rw [Nat.mod_mod]
theorem B0s (m : Md) (gp : Nat) (w : World) (hok : m.Ok) (hpm : Has w gp (mdL m) 187) (x : Nat) :
  Calls Tryz.prog 152 #[.pointer (some ⟨gp, 0, none⟩), i4 (elN m x), i4 (B64 ^ 4 * B64 ^ 4 % m.M)] w fun e w' => e = .returned (i4 (elN m (x * B64 ^ 4))) ∧ Fr Nob w w' := by
 have h := h0V m gp (elN m x) (B64 ^ 4 * B64 ^ 4 % m.M) w hok hpm (m0Q m hok x) (Nat.mod_lt _ (by have := hok.one; omega))
 rwa [w0k m hok] at h
def lnV : Value → Nat
 | .slice _ n _ => n
 | _ => 0
theorem RdB.front {w : World} {a : Option Addr} {n : Nat} {l : List UInt8} (h : RdB w a n l) (k : Nat) (hk : k ≤ n) : RdB w a k (l.take k) := by
 have h' : Rd w a n (bs l) := h
 refine ⟨by rw [a0O, List.length_take, h.len]; omega, ?_⟩
 rcases h'.2 with h0 | ⟨b, o, rfl, hc⟩
 ·exact .inl ap15
 ·refine .inr ⟨b, o, rfl, fun i v hv => hc i v ?_⟩
  rw [← e0Z, List.getElem?_take] at hv
  split at hv
  ·exact hv
  ·cases hv
theorem RdB.behind {w : World} {a : Option Addr} {n c : Nat} {l : List UInt8} (h : RdB w a n l) (k : Nat) (hk : k ≤ n) (hc : n ≤ c) : RdB w (c0S a k c) (n - k) (l.drop k) := by
 have h1 := k0O (m := c) h k n hk hc (Nat.le_refl _)
 unfold RdB
 rw [n0V] at h1
 rwa [List.take_of_length_le (by rw [a0O, List.length_drop, h.len]; exact Nat.le_refl _)] at h1
theorem o0z (m : Md) (gp : Nat) (w : World) (hok : m.Ok) (hpm : Has w gp (mdL m) 187) (a : Option Addr) (n c : Nat) (l : List UInt8) (hb : RdB w a n l) (hc : n ≤ c) (hn : n ≤ 1000000) :
  Calls Tryz.prog 170 #[.pointer (some ⟨gp, 0, none⟩), .slice a n c] w fun e w' => e = .returned (i4 (beN l % m.M)) ∧ Fr Nob w w' := by
 have HOK := qH hok
 have HPM := qH hpm
 clear hok hpm
 have HC := qH hc
 have HN := qH hn
 have HBB := qH hb
 have HL := qH hb.len
 clear hb
 clear hc hn
 have st0 := St.start Nob w
 go_enter Tryz.func170, Tryz.ntmps170
 go_wp2_with (with_reducible refine wSk 4 ?_)
 refine a0a st0 rfl rfl (z := zAd) ap13 (cw 4 0) ap11 ?_
 intro g4 w1 st1
 clear st0
 go_wp2_with (with_reducible refine wSk 5 ?_)
 refine a0a st1 rfl rfl (z := zAd) ap13 (cw 4 0) ap11 ?_
 intro g5 w2 st2
 clear st1
 go_wp2
 go_frame
 go_loopw [1] (fun b wr => ∃ (r : Nat) (ar : Option Addr) (cr : Nat), r ≤ n ∧ (r = 0 ∨ (n - r) % 32 = 0) ∧ b = .slice ar (n - r) cr ∧ n - r ≤ cr ∧ RdB w ar (n - r) (l.drop r) ∧ St Nob w wr [(g4, cw 4 0, 111), (g5, cw 4 (elN m (beN (l.take r))), 66)]) (fun b _ => lnV b % 32)
 case atStart => exact ⟨0, a, c, by omega, .inl rfl, rfl, HC.out, HBB.out, by rw [List.take_zero, l0c, e0g]; exact st2⟩
 case round =>
  obtain ⟨r, ar, cr, hr, hcond, rfl, hcr, hrd, st⟩ := hrel
  clear st2
  have HCR := qH hcr
  have HRD := qH hrd
  have hn6 : n ≤ 1000000 := HN.out
  clear hcr hrd
  by_cases hm : (n - r) % 32 = 0
  ·have hne : ((((n - r : Nat) : Int) % 32) != 0) = false := by simp; omega
   have hcond2 : (n - r) % 32 = 0 := hm
   have HM := qH hm
   have HC2 := qH hcond2
   clear hm hcond hcond2
   generalize hk : n - r = k at *
   have HK := qH hk; clear hk
   go_wp2_with fail
   clear hne
   obtain ⟨wo, rfl⟩ : ∃ wo : World, wo = wr := ⟨_, rfl⟩
   go_loopw [1] (fun b wr => ∃ (r : Nat) (ar : Option Addr) (cr : Nat), r ≤ n ∧ (n - r) % 32 = 0 ∧ b = .slice ar (n - r) cr ∧ n - r ≤ cr ∧ RdB w ar (n - r) (l.drop r) ∧ St Nob w wr [(g4, cw 4 0, 111), (g5, cw 4 (elN m (beN (l.take r))), 66)]) (fun b _ => lnV b)
   case atStart => exact ⟨r, ar, cr, hr, by rw [HK.out]; exact HC2.out, by rw [HK.out], by rw [HK.out]; exact HCR.out, by rw [HK.out]; exact HRD.out, st⟩
   case round =>
    clear hr HCR HRD st HM HC2 HK
    obtain ⟨r, ar, cr, hr, hcond, rfl, hcr, hrd, st⟩ := hrel
    have HCR := qH hcr
    have HRD := qH hrd
    have HCO := qH hcond
    clear hcr hrd
    by_cases hz : r = n
    ·have HZ := qH hz
     have hkz : ((n - r : Nat) : Int) = 0 := by omega
     have hgt : (0 < ((n - r : Nat) : Int)) = False := by simp; omega
     clear hz hcond
     generalize n - r = k at *
     have hgt2 : ¬ (0 < (k : Int)) := by omega
     clear hgt hkz
     go_wp2_with (with_reducible refine wSk 41 ?_)
     refine a0j st 1 rfl rfl rfl Tryz.underlying66 rfl ap6 ?_
     go_wp2_with fail
     refine (f0l m gp _ HOK.out (HPM.out.keep st.fr id) (beN (l.take r))).mono ?_
     rintro e' w3 ⟨rfl, hf3⟩
     have st3 := st.keep hf3
     clear st hf3
     go_wp2_with (with_reducible refine wSn ?_)
     refine a0b st3 0 rfl rfl rfl rfl rfl ap7 ap6 (a0g _ _) ?_
     intro w4 st4
     clear st3
     have hr := st4.at 0 rfl
     have hfr := st4.fr
     clear st4
     go_wp2_with fail
     exact bodyPost_ret (a0w rfl rfl hr Tryz.underlying111 ap6) rfl ⟨by rw [HZ.out, List.take_of_length_le (by rw [HL.out]; exact Nat.le_refl _)]; rfl, hfr⟩
    ·have hk32 : 32 ≤ n - r := by omega
     obtain ⟨gb, ob, hAR, -⟩ := HRD.out.at ap15
     have hcut : c0S ar 32 cr = if cr = 32 then ar else some ⟨gb, ob + 32, none⟩ := by rw [hAR]; simp [c0S, d0Y]
     have HAR := qH hAR; clear hAR
     have HCUT := qH hcut; clear hcut
     have hfr := RdB.front HRD.out 32 hk32
     have hbe := RdB.behind HRD.out 32 hk32 HCR.out
     have htk := m0L l r 32 (by rw [HL.out]; omega)
     rw [show (256 : Nat) ^ 32 = B64 ^ 4 by decide] at htk
     have HFR := qH hfr
     have HBE := qH hbe
     have HTK := qH htk
     have hcr := HCR.out
     have k1 := fun wx => c0l (P := Tryz.prog) wx Tryz.underlying22 c0h ar (n - r) cr .i64 32 ap15
     have k2 := fun wx => h0q (P := Tryz.prog) wx Tryz.underlying22 c0h ar (n - r) cr .i64 32 ap15
     clear hz hcond hfr hbe htk hcr
     have hgt : (0 < ((n - r : Nat) : Int)) := by omega
     have hk3 : 32 ≤ n - r := hk32
     have hci : (32 : Int) ≤ (cr : Int) := by have := HCR.out; omega
     clear hk32
     generalize hkk : n - r = k at *
     have HKK := qH hkk; clear hkk
     go_wp2_with fail
     refine wp_region_noPanic ?_
     refine a0p (fun wx => St Nob w wx [(g4, cw 4 0, 111), (g5, cw 4 (elN m (beN (l.take r))), 66)]) 13 (.w 0 (.w 1 (.t 2 (.w 3 (.w 4 (.w 5 (.t 6 (.w 8 (.w 9 (.w 10 (.r 7 (.r 11 (.r 12 (.m 13 .nil)))))))))))))) ap13 ap13 st.drew (fun _ _ _ _ _ h => h) ?_
     have hd2 := st.drew
     clear st
     refine a0k rfl rfl apW ?_
     try simp only [clL]
     refine a0k rfl rfl apW ?_
     try simp only [clL]
     refine a0r rfl rfl rfl rfl (cw 4 (elN m (beN (l.take r)))) (fun wx hS => St.rangeL hS 1 rfl 0 _ dZl) Tryz.underlying66 rfl ap6 ?_
     try simp only [clL]
     refine a0k rfl rfl apW ?_
     try simp only [clL]
     refine a0k rfl rfl apW ?_
     try simp only [clL]
     refine a0k rfl rfl apW ?_
     try simp only [clL]
     refine a0r rfl rfl rfl rfl (cw 4 (B64 ^ 4 * B64 ^ 4 % m.M)) (fun wx hS => (HPM.out.keep (St.fr hS) id).range 9 _ (B0c m)) Tryz.underlying111 rfl ap6 ?_
     try simp only [clL]
     refine a0k rfl rfl apW ?_
     try simp only [clL]
     refine a0k rfl rfl apW ?_
     try simp only [clL]
     refine a0k rfl rfl apW ?_
     try simp only [clL]
     refine a0y rfl rfl ?_
     go_simp
     refine (B0s m gp _ HOK.out (HPM.out.keep hd2.fr id) (beN (l.take r))).mono ?_
     rintro e' w3 ⟨rfl, hf3⟩
     have st3 := hd2.keep hf3
     clear hf3
     clear hd2
     refine ⟨st3, ?_⟩
     try simp only [clL]
     refine a0y rfl rfl ?_
     go_simp
     refine (m0U m gp _ HOK.out (HPM.out.keep st3.fr id) ar 32 cr ((l.drop r).take 32) (HFR.out.still st3.fr) ap14).mono ?_
     rintro e' w4 ⟨rfl, hf4⟩
     have st4 := st3.keep hf4
     clear hf4
     clear st3
     refine ⟨st4, ?_⟩
     try simp only [clL]
     refine a0y rfl rfl ?_
     go_simp
     refine (g0C m gp _ HOK.out (HPM.out.keep st4.fr id) ((beN (l.take r)) * B64 ^ 4) (beN ((l.drop r).take 32))).mono ?_
     rintro e' w5 ⟨rfl, hf5⟩
     have st5 := st4.keep hf5
     clear hf5
     clear st4
     refine ⟨st5, ?_⟩
     try simp only [clL]
     refine a0o rfl rfl ?_
     refine a0i st5 1 rfl rfl rfl rfl ap7 ap6 (a0g _ _) ?_
     intro w6 st6
     clear st5
     try simp only [Act.put]
     refine a0h ?_
     refine NoPanic.normal ?_
     have hst := st6
     rw [← HTK.out] at hst
     clear st6
     go_wp2_with fail
     go_roundw
     case rel =>
      refine ⟨r + 32, c0S ar 32 cr, cr - 32, ?_, ?_, ?_, ?_, ?_, hst⟩
      ·have := HKK.out; omega
      ·have h1 := HCO.out; have h2 := HKK.out; omega
      ·have h2 := HKK.out; rw [show n - (r + 32) = k - 32 by omega, HCUT.out, HAR.out]; rfl
      ·have h2 := HKK.out; have h3 := HCR.out; omega
      ·have h2 := HKK.out
       have h3 := HBE.out
       rw [List.drop_drop] at h3
       rw [show n - (r + 32) = k - 32 by omega]
       exact h3
     case measure => simp [lnV]; omega
  ·have hne : ((((n - r : Nat) : Int) % 32) != 0) = true := by simp; omega
   have hr0 : r = 0 := by rcases hcond with h | h <;> omega
   subst hr0
   have hk32 : n % 32 ≤ n - 0 := by omega
   have hfr := RdB.front HRD.out (n % 32) hk32
   have hbe := RdB.behind HRD.out (n % 32) hk32 HCR.out
   have hcr := HCR.out
   have k1 := fun wx => c0l (P := Tryz.prog) wx Tryz.underlying22 c0h ar (n - 0) cr .i64 (n % 32) ap15
   have k2 := fun wx => h0q (P := Tryz.prog) wx Tryz.underlying22 c0h ar (n - 0) cr .i64 (n % 32) ap15
   have hm32 : n % 32 < 32 := Nat.mod_lt _ ap14
   have hmod : ((n % 32 : Nat) : Int) = (n : Int) % 32 := by omega
   simp only [List.drop_zero, Nat.sub_zero] at hfr hbe k1 k2 hne hm
   rw [hmod] at k1 k2
   have HFR := qH hfr
   have HBE := qH hbe
   have HM := qH hm
   have HM32 := qH hm32
   clear hm hfr hbe hcond hcr hk32 hr hmod hm32
   simp only [Nat.sub_zero]
   go_wp2_with fail
   refine (m0U m gp _ HOK.out (HPM.out.keep st.fr id) ar (n % 32) cr (l.take (n % 32)) (HFR.out.still st.fr) (Nat.le_of_lt HM32.out)).mono ?_
   rintro e' w3 ⟨rfl, hf3⟩
   have st3 := st.keep hf3
   clear st hf3
   go_wp2_with (with_reducible refine wSn ?_)
   refine a0b st3 1 rfl rfl rfl rfl rfl ap7 ap6 (a0g _ _) ?_
   intro w4 st4
   clear st3
   have hst := st4
   clear st4
   go_wp2_with fail
   go_roundw
   case rel => exact ⟨n % 32, c0S ar (n % 32) cr, cr - n % 32, by omega, .inr ap15, rfl, by have := HCR.out; omega, HBE.out, hst⟩
   case measure => have := HM.out; simp [lnV]; omega
end
section
open Go.RowKit Go.Mv Mvp
theorem p0Q : [Value.int .u64 18446744069414583343, .int .u64 18446744073709551615, .int .u64 18446744073709551615, .int .u64 18446744073709551615, .int .u64 15580212934572586289, .int .u64 4294968273, .int .u64 0, .int .u64 0, .int .u64 0, .int .u64 8392367050913, .int .u64 1, .int .u64 0, .int .u64 0] = mdL mP := by kernel_rfl
theorem w0l : [Value.int .u64 13822214165235122497, .int .u64 13451932020343611451, .int .u64 18446744073709551614, .int .u64 18446744073709551615, .int .u64 5408259542528602431, .int .u64 4624529908474429119, .int .u64 4994812053365940164, .int .u64 1, .int .u64 0, .int .u64 9902555850136342848, .int .u64 8364476168144746616, .int .u64 16616019711348246470, .int .u64 11342065889886772165] = mdL mQ := by kernel_rfl
theorem Of0 (w : World) : Calls Tryz.prog 143 #[.int .i64 0] w fun e w' => ∃ g, e = .returned (.tuple #[.pointer (some ⟨g, 0, none⟩), .bool true]) ∧ w.heap.size ≤ g ∧ Has w' g (mdL mP) 187 ∧ Fr Nob w w' := by
 go_enter Tryz.func143, Tryz.ntmps143
 go_wp2
 go_ret2
 exact ⟨_, rfl, Nat.le_refl _, by rw [← p0Q]; exact Has.new w _ _, (Fr.refl Nob w).alloc _⟩
theorem Of1 (w : World) : Calls Tryz.prog 143 #[.int .i64 1] w fun e w' => ∃ g, e = .returned (.tuple #[.pointer (some ⟨g, 0, none⟩), .bool true]) ∧ w.heap.size ≤ g ∧ Has w' g (mdL mQ) 187 ∧ Fr Nob w w' := by
 go_enter Tryz.func143, Tryz.ntmps143
 go_wp2
 go_ret2
 exact ⟨_, rfl, Nat.le_refl _, by rw [← w0l]; exact Has.new w _ _, (Fr.refl Nob w).alloc _⟩
end
section
open Go.RowKit Go.Mv Mvp
inductive KindOf : Int → Md → Prop where
 | zero : KindOf 0 mP
 | one : KindOf 1 mQ
theorem KindOf.ok {k : Int} {m : Md} (h : KindOf k m) : m.Ok := by cases h; exact b0R; exact e0V
theorem OfK {k : Int} {m : Md} (hk : KindOf k m) (w : World) : Calls Tryz.prog 143 #[.int .i64 k] w fun e w' => ∃ g, e = .returned (.tuple #[.pointer (some ⟨g, 0, none⟩), .bool true]) ∧ w.heap.size ≤ g ∧ Has w' g (mdL m) 187 ∧ Fr Nob w w' := by
 cases hk
 ·exact Of0 w
 ·exact Of1 w
theorem B0t {k : Int} {m : Md} (hk : KindOf k m) (w : World) : Calls Tryz.prog 124 #[.int .i64 k] w fun e w' => e = .returned (fv m.M) ∧ Fr Nob w w' := by
 cases hk
 ·exact C0R w
 ·exact C0S w
attribute [local irreducible] a0C lw mix cw b0u b0B b0r a0N a0q beN b0G b0f b0C a0M a0S elN mdL
end
end Go.Proofs.YtemcankmggmgoaaGreat
namespace Go.Mv
open Go.RowKit
variable {P : Program}
def Kept (v : Value) (n sz : Nat) (w w' : World) : Prop :=
 ∀ b i, b < w.heap.size → (∀ o cap, v = .slice (some ⟨b, o, none⟩) n cap → i < o + n * sz) → w'.cell? ⟨b, i, none⟩ = w.cell? ⟨b, i, none⟩
theorem Kept.refl (v : Value) (n sz : Nat) (w : World) : Kept v n sz w w := fun _ _ _ _ => rfl
theorem Kept.ofFr {v : Value} {n sz : Nat} {w w' : World} (h : Fr Nob w w') : Kept v n sz w w' := fun b _ hb _ => World.cell?_of_block (a := ⟨b, _, none⟩) (h.block b hb id)
section
variable {w : World} {ops : Array Oper} {rest : List Oper} {o : Oper} {a : Act} {Q : Exit → Act → World → Prop}
end
end Go.Mv
namespace Go.Mv
open Go.RowKit
section
variable {P : Program} {w : World} {ops : Array Oper} {o : Oper} {a : Act} {K : Act → World → Prop} {Q : Exit → Act → World → Prop} {E : Prop}
end
end Go.Mv
namespace Go.Mv
open Go.RowKit
variable {P : Program}
end Go.Mv
namespace Go.Mv
open Go.RowKit
variable {P : Program}
theorem g0D {w : World} {ops : Array Oper} {rest : List Oper} {o : Oper} {a : Act} {Q : Exit → Act → World → Prop} {t e : TypeId} {k : Nat} {parts : Array (Nat × Operand)} (hgd : o.guard = none) (ho : o.op = .buildSlice t k parts)
  (hu : P.underlying t = some (.slice e)) {z : Value} {sz by_ : Nat} (hi0 : (P.info? e).map (fun i => (i.zero, i.size, i.bytes)) = some (some z, sz, by_)) (vs : List Value) (hp : (parts.toList.map fun p => (p.1, a.eval p.2)) = (vs.zipIdx 0).map fun x => (x.2, x.1))
  (hv : ∀ v ∈ vs, v.cells.size = sz) (hk : vs.length = k) (L : List Value) (hL : (vs.flatMap fun v => v.cells.toList) = L)
  (h : ∀ w', Has w' w.heap.size L e → Fr Nob w w' → w'.heap.size = w.heap.size + 1 → wpList P ops Q rest (a.put o.dst (.slice (some ⟨w.heap.size, 0, none⟩) k k)) w') (hk0 : 0 < k * sz := by decide) (hk24 : k * sz ≤ 16777216 := by decide) : wpList P ops Q (o :: rest) a w := by
 obtain ⟨i, hi, hz0⟩ : ∃ i, P.info? e = some i ∧ (i.zero, i.size, i.bytes) = (some z, sz, by_) := by simpa using hi0
 simp only [Prod.mk.injEq] at hz0
 obtain ⟨hz1, hsz, hby⟩ := hz0
 have hs0 : 0 < sz := Nat.pos_of_mul_pos_left hk0
 have hf : Instr.fill (fun j => some (j * i.size, i.size)) ((Array.range (k * i.size)).map (z.cells[· % z.cells.size]!)) (parts.map fun (i, x) => (i, a.eval x)).toList = some L.toArray := by
  rw [show (parts.map fun (i, x) => (i, a.eval x)).toList = (parts.toList.map fun p => (p.1, a.eval p.2)) by simp, hp, hsz, ← hL]
  exact Great.fill_whole hs0 vs _ hv (by simp [hk])
 exact wpList_buildSlice hgd t e k _ ho _ i _ hu hi hz1 (by rw [hsz]; omega) (by rw [hsz]; omega) hf (h _ (Has.new w L.toArray e) ((Fr.refl _ w).alloc _) ap16)
end Go.Mv
namespace Go.Mv
open Go.RowKit
variable {P : Program}
end Go.Mv
namespace Go.Mv
open Go.RowKit Mvp
def BPart (w : World) (v : Value) (l : List UInt8) : Prop := ∃ a n c, v = .slice a n c ∧ n ≤ c ∧ RdB w a n l
def BParts (w : World) (vs : List Value) (ls : List (List UInt8)) : Prop := vs.length = ls.length ∧ ∀ i v, vs[i]? = some v → BPart w v (ls.getD i [])
theorem BPart.still {w w' : World} {v : Value} {l : List UInt8} (h : BPart w v l) (hf : Fr Nob w w') : BPart w' v l := by
 obtain ⟨a, n, c, e, hc, hr⟩ := h
 exact ⟨a, n, c, e, hc, hr.still hf⟩
theorem BPart.one {w : World} {v : Value} {l : List UInt8} (h : BPart w v l) : v.cells = #[v] := by
 obtain ⟨a, n, c, rfl, -, -⟩ := h
 rfl
theorem BParts.still {w w' : World} {vs : List Value} {ls : List (List UInt8)} (h : BParts w vs ls) (hf : Fr Nob w w') : BParts w' vs ls := ⟨h.1, fun i v hv => (h.2 i v hv).still hf⟩
theorem BParts.one {w : World} {v : Value} {l : List UInt8} (h : BPart w v l) : BParts w [v] [l] := ⟨rfl, fun i u hu => by
 cases i with
 | zero => simp at hu; subst hu; exact h
 | succ i => simp at hu⟩
theorem BParts.two {w : World} {v u : Value} {l k : List UInt8} (h : BPart w v l) (h2 : BPart w u k) : BParts w [v, u] [l, k] := ⟨rfl, fun i x hx => by
 match i with
 | 0 => simp at hx; subst hx; exact h
 | 1 => simp at hx; subst hx; exact h2
 | i + 2 => simp at hx⟩
end Go.Mv
namespace Mvp
def a0Q (m : Md) (l : List UInt8) : Bool := decide (l.length = 32) && decide (beN l < m.M)
def a0T (m : Md) (ls : List (List UInt8)) : Bool := ls.all (a0Q m)
def a0Z (m : Md) (ls : List (List UInt8)) : List Go.Value := ls.flatMap fun l => Go.Mv.cw 4 (elN m (beN l))
theorem m0V (m : Md) (ls : List (List UInt8)) (l : List UInt8) : a0Z m (ls ++ [l]) = a0Z m ls ++ Go.Mv.cw 4 (elN m (beN l)) := by
 simp [a0Z]
theorem f0x (m : Md) (ls : List (List UInt8)) (k : Nat) (h : k < ls.length) : a0T m (ls.take (k + 1)) = (a0T m (ls.take k) && a0Q m (ls.getD k [])) := by
 rw [List.take_succ_eq_append_getElem h, a0T, List.all_append, ← a0T]
 simp [List.getD_eq_getElem?_getD, h]
theorem g0E (m : Md) (ls : List (List UInt8)) (k : Nat) (h : k < ls.length) (hb : a0Q m (ls.getD k []) = false) : a0T m ls = false := by
 rw [a0T, List.all_eq_false]
 refine ⟨ls.getD k [], ?_, by simpa using hb⟩
 rw [List.getD_eq_getElem?_getD, List.getElem?_eq_getElem h]
 exact List.getElem_mem h
end Mvp
namespace Go.Proofs.YtemcankmggmgoaaGreat
section
open Go.RowKit Go.Mv Mvp
def ReadPost (m : Md) (ls : List (List UInt8)) (w : World) (e : Ending) (w' : World) : Prop :=
 (a0T m ls = true → ∃ v, e = .returned (.tuple #[v, .bool true]) ∧ Own w' w.heap.size 66 4 v ls.length (a0Z m ls)) ∧
 (a0T m ls = false → e = .returned (.tuple #[.slice none 0 0, .bool false])) ∧ Fr Nob w w'
theorem ReadPost.bad {m : Md} {ls : List (List UInt8)} {w w' : World} {e : Ending} (h : a0T m ls = false) (he : e = .returned (.tuple #[.slice none 0 0, .bool false])) (hf : Fr Nob w w') : ReadPost m ls w e w' :=
 ⟨fun h1 => (by rw [h] at h1; cases h1), fun _ => he, hf⟩
theorem ReadPost.good {m : Md} {ls : List (List UInt8)} {w w' : World} {e : Ending} {v : Value} (h : a0T m ls = true) (he : e = .returned (.tuple #[v, .bool true])) (ho : Own w' w.heap.size 66 4 v ls.length (a0Z m ls)) (hf : Fr Nob w w') : ReadPost m ls w e w' :=
 ⟨fun _ => ⟨v, he, ho⟩, fun h1 => (by rw [h] at h1; cases h1), hf⟩
attribute [local irreducible] a0C lw mix cw b0u b0B b0r a0N a0q beN b0G b0f b0C a0M a0S elN mdL a0Z a0T a0Q
end
section
open Go.RowKit Go.Mv Mvp
attribute [local irreducible] a0C lw mix cw b0u b0B b0r a0N a0q beN b0G b0f b0C a0M a0S elN mdL a0Q
theorem b0p {P : Program} {o : Oper} {a : Act} {t : TypeId} {parts : Array (Nat × Operand)} (ho : o.op = .build t parts) (cells : Array Value)
  (hb : P.built t (parts.toList.map fun p => (p.1, a.eval p.2)) = some cells) (w : World) : (execOp a.eval o).run P w = .ok (.value (.agg cells)) w := by
 have hr := run_build (P := P) w t (parts.map fun (i, x) => (i, a.eval x)) cells (by
  have : (parts.map fun (i, x) => (i, a.eval x)).toList = (parts.toList.map fun p => (p.1, a.eval p.2)) := by simp
  rw [this]; exact hb)
 unfold execOp
 simp only [ho, Sem.run_bind, Sem.run_pure, Result.andThen_ok, hr]
theorem a0P {P : Program} {fn : Func} {p : Tmp} {ty : TypeId} {s : Tmp} (h : fn.results = #[.cell p ty, .tmp s]) {tmps : Array Value} {w : World} {g : Nat} {L : List Value} {T : TypeId}
  (hp : tmps.getD p undef = .pointer (some ⟨g, 0, none⟩)) (hg : Has w g L T) {d : TypeDesc} (hu : P.underlying ty = some d) (hd : (match d with | .struct _ | .array _ _ => true | _ => false) = true) (hi : (P.info? ty).map (·.size) = some L.length) {v : Value} (hv : tmps.getD s undef = v) :
  (results fn tmps).run P w = .ok (.tuple #[.agg L.toArray, v]) w := by
 obtain ⟨lo, hi', hh, -⟩ := hg
 have hp' : tmps[p]?.getD undef = .pointer (some ⟨g, 0, none⟩) := by simpa using hp
 have hv' : tmps[s]?.getD undef = v := by simpa using hv
 simp [results, h, hp', hv', asAddr, run_loadVar_row w g T ty L.toArray _ _ hh hu (by cases d <;> first | rfl | (simp at hd)) (by simpa using hi)]
theorem t0q : (Tryz.prog.info? 68).map (fun i => (i.zero, i.size, i.bytes)) = some (some (.agg #[.int .u64 0, .int .u64 0, .int .u64 0, .int .u64 0]), 4, 32) := by kernel_rfl
theorem i0S (a : Nat) : Tryz.prog.built 68 [(0, i4 a)] = some (cw 4 a).toArray := by kernel_rfl
theorem d0N (m : Md) (hk : KindOf 1 m) (w : World) : Calls Tryz.prog 119 #[] w fun e w' => ∃ gp, e = .returned (.pointer (some ⟨gp, 0, none⟩)) ∧ w.heap.size ≤ gp ∧ Has w' gp (mdL m) 187 ∧ Fr Nob w w' := by
 have HK := qH hk
 clear hk
 go_enter Tryz.func119, Tryz.ntmps119
 go_wp2_with fail
 refine (OfK HK.out _).mono ?_
 rintro e w1 ⟨gp, rfl, hle, hm, hf⟩
 have HL := qH hle
 have HM := qH hm
 have HF := qH hf
 clear hm hf hle
 go_wp2_with fail
 go_ret
 exact ⟨gp, rfl, HL.out, HM.out, HF.out⟩
theorem w0m (m : Md) (hk : KindOf 1 m) (x y : Nat) (w : World) :
  Calls Tryz.prog 92 #[i4 (elN m x), i4 (elN m y)] w fun e w' => e = .returned (i4 (elN m (x * y))) ∧ Fr Nob w w' := by
 have HK := qH hk
 have HOK := qH hk.ok
 clear hk
 have st0 := St.start Nob w
 go_enter Tryz.func92, Tryz.ntmps92
 go_wp2_with (with_reducible refine wSk 2 ?_)
 refine a0l st0 rfl rfl rfl (cw 4 (elN m x)) rfl ?_
 intro g2 w1 st1
 clear st0
 go_wp2_with (with_reducible refine wSk 3 ?_)
 refine a0l st1 rfl rfl rfl (cw 4 (elN m y)) rfl ?_
 intro g3 w2 st2
 clear st1
 go_wp2_with (with_reducible refine wSk 4 ?_)
 refine a0a st2 rfl rfl (z := zAd) ap13 (cw 4 0) ap11 ?_
 intro g4 w3 st3
 clear st2
 go_wp2_with fail
 refine wp_region_noPanic ?_
 refine a0p (fun wx => St Nob w wx [(g2, cw 4 (elN m x), 68), (g3, cw 4 (elN m y), 68), (g4, cw 4 0, 68)]) 7 (.w 1 (.t 2 (.w 3 (.t 4 (.r 0 (.r 5 (.w 6 (.m 7 .nil)))))))) ap13 ap13 st3.drew (fun _ _ _ _ _ h => h) ?_
 have hd3 := st3.drew
 clear st3
 refine a0k rfl rfl apW ?_
 try simp only [clL]
 refine a0r rfl rfl rfl rfl (cw 4 (elN m x)) (fun wx hS => St.rangeL hS 0 rfl 0 _ dZl) Tryz.underlying66 rfl ap6 ?_
 try simp only [clL]
 refine a0k rfl rfl apW ?_
 try simp only [clL]
 refine a0r rfl rfl rfl rfl (cw 4 (elN m y)) (fun wx hS => St.rangeL hS 1 rfl 0 _ dZl) Tryz.underlying66 rfl ap6 ?_
 try simp only [clL]
 refine a0y rfl rfl ?_
 go_simp
 refine (d0N m HK.out _).mono ?_
 rintro e' w4 ⟨gp, rfl, hle, hm, hf4⟩
 have st4 : St Nob w w4 [(g2, cw 4 (elN m x), 68), (g3, cw 4 (elN m y), 68), (g4, cw 4 0, 68), (gp, mdL m, 187)] := hd3.new hf4 hm hle
 clear hf4 hm hle
 clear hd3
 refine ⟨St.less st4 ap16, ?_⟩
 try simp only [clL]
 refine a0y rfl rfl ?_
 go_simp
 refine (w0i m gp _ HOK.out (st4.at 3 rfl) x y).mono ?_
 rintro e' w5 ⟨rfl, hf5⟩
 have st5 := st4.keep hf5
 clear hf5
 clear st4
 refine ⟨St.less st5 ap16, ?_⟩
 try simp only [clL]
 refine a0k rfl rfl (b0p rfl _ (i0S _)) ?_
 try simp only [clL]
 refine a0o rfl rfl ?_
 refine a0i st5 2 rfl rfl rfl rfl ap7 ap6 (a0g _ _) ?_
 intro w6 st6
 clear st5
 try simp only [Act.put]
 refine a0h ?_
 refine NoPanic.normal ?_
 have hr := st6.at 2 rfl
 have hfr := st6.fr
 clear st6
 go_wp2_with fail
 exact bodyPost_ret (a0v rfl rfl hr Tryz.underlying68 rfl ap6) rfl ⟨rfl, hfr⟩
theorem z0u (m : Md) (hk : KindOf 1 m) (a : Option Addr) (n c : Nat) (l : List UInt8) (w : World) (hb : RdB w a n l) (h32 : l.length ≠ 32) :
  Calls Tryz.prog 103 #[.slice a n c] w fun e w' => e = .returned (.tuple #[i4 0, .bool false]) ∧ Fr Nob w w' := by
 have HK := qH hk
 have HOK := qH hk.ok
 clear hk
 have HB := qH hb
 have HN := qH (show l.length = n from hb.len)
 clear hb
 have hne : ((n : Int) != 32) = true := by have := HN.out; simp; omega
 clear h32
 have st0 := St.start Nob w
 go_enter Tryz.func103, Tryz.ntmps103
 go_wp2_with (with_reducible refine wSk 2 ?_)
 refine a0a st0 rfl rfl (z := zAd) ap13 (cw 4 0) ap11 ?_
 intro g2 w1 st1
 clear st0
 go_wp2_with (with_reducible refine wSk 9 ?_)
 refine a0n st1 0 rfl rfl rfl Tryz.underlying68 rfl rfl ap6 ?_
 go_wp2_with (with_reducible refine wSn ?_)
 refine a0b st1 0 rfl rfl rfl rfl rfl ap7 ap6 (a0g _ _) ?_
 intro w2 st2
 clear st1
 have hr := st2.at 0 rfl
 have hfr := st2.fr
 clear st2
 go_wp2_with fail
 exact bodyPost_ret (a0P rfl rfl hr Tryz.underlying68 rfl ap6 rfl) rfl ⟨rfl, hfr⟩
theorem B0u (m : Md) (hk : KindOf 1 m) (a : Option Addr) (n c : Nat) (l : List UInt8) (w : World) (hb : RdB w a n l) (h32 : l.length = 32) (hlt : beN l < m.M) :
  Calls Tryz.prog 103 #[.slice a n c] w fun e w' => e = .returned (.tuple #[i4 (elN m (beN l)), .bool true]) ∧ Fr Nob w w' := by
 have HK := qH hk
 have HOK := qH hk.ok
 clear hk
 have hbl := f0w l ap15
 have HBL := qH hbl
 have h32' : n = 32 := by have := hb.len; omega
 subst h32'
 have HB := qH hb
 have hne : (((32 : Nat) : Int) != 32) = false := by rfl
 clear hb hbl h32
 have HLT := qH hlt
 clear hlt
 have st0 := St.start Nob w
 go_enter Tryz.func103, Tryz.ntmps103
 go_wp2_with (with_reducible refine wSk 2 ?_)
 refine a0a st0 rfl rfl (z := zAd) ap13 (cw 4 0) ap11 ?_
 intro g2 w1 st1
 clear st0
 go_wp2_with fail
 refine (d0N m HK.out _).mono ?_
 rintro e' w2 ⟨gp, rfl, hle, hm, hf2⟩
 have st2 : St Nob w w2 [(g2, cw 4 0, 68), (gp, mdL m, 187)] := st1.new hf2 hm hle
 clear st1 hf2 hm hle
 go_wp2_with fail
 refine (c0p a 32 c l _ (HB.out.still st2.fr) ap14).mono ?_
 rintro e' w3 ⟨rfl, hf3⟩
 have st3 := st2.keep hf3
 clear st2 hf3
 go_wp2_with (with_reducible refine wSk 5 ?_)
 refine a0a st3 rfl rfl (z := zAd) ap13 (cw 4 0) ap11 ?_
 intro g5 w4 st4
 clear st3
 go_wp2_with (with_reducible refine wSn ?_)
 refine a0b st4 2 rfl rfl rfl rfl rfl ap7 ap6 (a0g _ _) ?_
 intro w5 st5
 clear st4
 go_wp2_with fail
 refine wp_region_noPanic ?_
 refine a0p (fun wx => St Nob w wx [(g2, cw 4 0, 68), (gp, mdL m, 187), (g5, cw 4 (beN l), 111)]) 6 (.t 0 (.w 1 (.w 2 (.w 3 (.t 4 (.r 5 (.m 6 .nil))))))) ap13 ap13 st5.drew (fun _ _ _ _ _ h => h) ?_
 have hd5 := st5.drew
 clear st5
 refine a0r rfl rfl rfl rfl (cw 4 (beN l)) (fun wx hS => St.rangeL hS 2 rfl 0 _ dZl) Tryz.underlying111 rfl ap6 ?_
 try simp only [clL]
 refine a0k rfl rfl apW ?_
 try simp only [clL]
 refine a0k rfl rfl apW ?_
 try simp only [clL]
 refine a0k rfl rfl apW ?_
 try simp only [clL]
 refine a0r rfl rfl rfl rfl (cw 4 m.M) (fun wx hS => St.rangeL hS 1 rfl 0 _ (l0Y m)) Tryz.underlying111 rfl ap6 ?_
 try simp only [clL]
 refine a0y rfl rfl ?_
 go_simp
 refine (g0B (beN l) m.M _ HBL.out HOK.out.lt).mono ?_
 rintro e' w6 ⟨rfl, hf6⟩
 have st6 := hd5.keep hf6
 clear hf6
 clear hd5
 refine ⟨st6, ?_⟩
 try simp only [clL]
 refine a0o rfl rfl ?_
 go_simp
 try simp only [clL]
 refine a0h ?_
 refine NoPanic.normal ?_
 rw [decide_eq_true HLT.out]
 go_wp2_with (with_reducible refine wSk 22 ?_)
 refine a0j st6 2 rfl rfl rfl Tryz.underlying111 rfl ap6 ?_
 go_wp2_with fail
 refine (d0l m gp _ HOK.out (st6.at 1 rfl) (beN l) HBL.out).mono ?_
 rintro e' w7 ⟨rfl, hf7⟩
 have st7 := st6.keep hf7
 clear st6 hf7
 go_wp2_with (with_reducible refine wSk 24 ?_)
 refine b0n rfl rfl _ (i0S _) ?_
 go_wp2_with (with_reducible refine wSn ?_)
 refine a0b st7 0 rfl rfl rfl rfl rfl ap7 ap6 (a0g _ _) ?_
 intro w8 st8
 clear st7
 have hr := st8.at 0 rfl
 have hfr := st8.fr
 clear st8
 go_wp2_with fail
 exact bodyPost_ret (a0P rfl rfl hr Tryz.underlying68 rfl ap6 rfl) rfl ⟨rfl, hfr⟩
theorem z0v (m : Md) (hk : KindOf 1 m) (a : Option Addr) (n c : Nat) (l : List UInt8) (w : World) (hb : RdB w a n l) (h32 : l.length = 32) (hlt : ¬ beN l < m.M) :
  Calls Tryz.prog 103 #[.slice a n c] w fun e w' => e = .returned (.tuple #[i4 0, .bool false]) ∧ Fr Nob w w' := by
 have HK := qH hk
 have HOK := qH hk.ok
 clear hk
 have hbl := f0w l ap15
 have HBL := qH hbl
 have h32' : n = 32 := by have := hb.len; omega
 subst h32'
 have HB := qH hb
 have hne : (((32 : Nat) : Int) != 32) = false := by rfl
 clear hb hbl h32
 have HLT := qH hlt
 clear hlt
 have st0 := St.start Nob w
 go_enter Tryz.func103, Tryz.ntmps103
 go_wp2_with (with_reducible refine wSk 2 ?_)
 refine a0a st0 rfl rfl (z := zAd) ap13 (cw 4 0) ap11 ?_
 intro g2 w1 st1
 clear st0
 go_wp2_with fail
 refine (d0N m HK.out _).mono ?_
 rintro e' w2 ⟨gp, rfl, hle, hm, hf2⟩
 have st2 : St Nob w w2 [(g2, cw 4 0, 68), (gp, mdL m, 187)] := st1.new hf2 hm hle
 clear st1 hf2 hm hle
 go_wp2_with fail
 refine (c0p a 32 c l _ (HB.out.still st2.fr) ap14).mono ?_
 rintro e' w3 ⟨rfl, hf3⟩
 have st3 := st2.keep hf3
 clear st2 hf3
 go_wp2_with (with_reducible refine wSk 5 ?_)
 refine a0a st3 rfl rfl (z := zAd) ap13 (cw 4 0) ap11 ?_
 intro g5 w4 st4
 clear st3
 go_wp2_with (with_reducible refine wSn ?_)
 refine a0b st4 2 rfl rfl rfl rfl rfl ap7 ap6 (a0g _ _) ?_
 intro w5 st5
 clear st4
 go_wp2_with fail
 refine wp_region_noPanic ?_
 refine a0p (fun wx => St Nob w wx [(g2, cw 4 0, 68), (gp, mdL m, 187), (g5, cw 4 (beN l), 111)]) 6 (.t 0 (.w 1 (.w 2 (.w 3 (.t 4 (.r 5 (.m 6 .nil))))))) ap13 ap13 st5.drew (fun _ _ _ _ _ h => h) ?_
 have hd5 := st5.drew
 clear st5
 refine a0r rfl rfl rfl rfl (cw 4 (beN l)) (fun wx hS => St.rangeL hS 2 rfl 0 _ dZl) Tryz.underlying111 rfl ap6 ?_
 try simp only [clL]
 refine a0k rfl rfl apW ?_
 try simp only [clL]
 refine a0k rfl rfl apW ?_
 try simp only [clL]
 refine a0k rfl rfl apW ?_
 try simp only [clL]
 refine a0r rfl rfl rfl rfl (cw 4 m.M) (fun wx hS => St.rangeL hS 1 rfl 0 _ (l0Y m)) Tryz.underlying111 rfl ap6 ?_
 try simp only [clL]
 refine a0y rfl rfl ?_
 go_simp
 refine (g0B (beN l) m.M _ HBL.out HOK.out.lt).mono ?_
 rintro e' w6 ⟨rfl, hf6⟩
 have st6 := hd5.keep hf6
 clear hf6
 clear hd5
 refine ⟨st6, ?_⟩
 try simp only [clL]
 refine a0o rfl rfl ?_
 go_simp
 try simp only [clL]
 refine a0h ?_
 refine NoPanic.normal ?_
 rw [decide_eq_false HLT.out]
 go_wp2_with (with_reducible refine wSk 20 ?_)
 refine a0n st6 0 rfl rfl rfl Tryz.underlying68 rfl rfl ap6 ?_
 go_wp2_with (with_reducible refine wSn ?_)
 refine a0b st6 0 rfl rfl rfl rfl rfl ap7 ap6 (a0g _ _) ?_
 intro w7 st7
 clear st6
 have hr := st7.at 0 rfl
 have hfr := st7.fr
 clear st7
 go_wp2_with fail
 exact bodyPost_ret (a0P rfl rfl hr Tryz.underlying68 rfl ap6 rfl) rfl ⟨rfl, hfr⟩
theorem C0T (m : Md) (hk : KindOf 1 m) (a : Option Addr) (n c : Nat) (l : List UInt8) (w : World) (hb : RdB w a n l) (h : a0Q m l = true) :
  Calls Tryz.prog 103 #[.slice a n c] w fun e w' => e = .returned (.tuple #[i4 (elN m (beN l)), .bool true]) ∧ Fr Nob w w' := by
 unfold a0Q at h
 simp only [Bool.and_eq_true, decide_eq_true_eq] at h
 exact B0u m hk a n c l w hb h.1 h.2
theorem C0U (m : Md) (hk : KindOf 1 m) (a : Option Addr) (n c : Nat) (l : List UInt8) (w : World) (hb : RdB w a n l) (h : a0Q m l = false) :
  Calls Tryz.prog 103 #[.slice a n c] w fun e w' => e = .returned (.tuple #[i4 0, .bool false]) ∧ Fr Nob w w' := by
 unfold a0Q at h
 simp only [Bool.and_eq_false_iff, decide_eq_false_iff_not] at h
 by_cases h32 : l.length = 32
 ·exact z0v m hk a n c l w hb h32 (by rcases h with h | h; exact absurd h32 h; exact h)
 ·exact z0u m hk a n c l w hb h32
theorem t0r (m : Md) (hk : KindOf 1 m) (a : Option Addr) (n c : Nat) (l : List UInt8) (w : World) (hb : RdB w a n l) (hc : n ≤ c) (hn : n ≤ 1000000) :
  Calls Tryz.prog 116 #[.slice a n c] w fun e w' => e = .returned (i4 (elN m (beN l))) ∧ Fr Nob w w' := by
 have HK := qH hk
 have HOK := qH hk.ok
 clear hk
 have HB := qH hb
 have HN := qH (show l.length = n from hb.len)
 clear hb
 have HC := qH hc
 have HNN := qH hn
 have HLM := qH (Nat.lt_trans (Nat.mod_lt (beN l) (by have := HOK.out.one; omega)) HOK.out.lt)
 clear hc hn
 have st0 := St.start Nob w
 go_enter Tryz.func116, Tryz.ntmps116
 go_wp2_with (with_reducible refine wSk 2 ?_)
 refine a0a st0 rfl rfl (z := zAd) ap13 (cw 4 0) ap11 ?_
 intro g2 w1 st1
 clear st0
 go_wp2_with fail
 refine (d0N m HK.out _).mono ?_
 rintro e' w2 ⟨gp, rfl, hle, hm, hf2⟩
 have st2 : St Nob w w2 [(g2, cw 4 0, 68), (gp, mdL m, 187)] := st1.new hf2 hm hle
 clear st1 hf2 hm hle
 go_wp2_with fail
 refine (o0z m gp _ HOK.out (st2.at 1 rfl) a n c l (HB.out.still st2.fr) HC.out HNN.out).mono ?_
 rintro e' w3 ⟨rfl, hf3⟩
 have st3 := st2.keep hf3
 clear st2 hf3
 go_wp2_with fail
 refine (d0l m gp _ HOK.out (st3.at 1 rfl) (beN l % m.M) HLM.out).mono ?_
 rintro e' w4 ⟨rfl, hf4⟩
 have st4 := st3.keep hf4
 clear st3 hf4
 go_wp2_with (with_reducible refine wSk 10 ?_)
 refine b0n rfl rfl _ (i0S _) ?_
 go_wp2_with (with_reducible refine wSn ?_)
 refine a0b st4 0 rfl rfl rfl rfl rfl ap7 ap6 (a0g _ _) ?_
 intro w5 st5
 clear st4
 have hr := st5.at 0 rfl
 have hfr := st5.fr
 clear st5
 go_wp2_with fail
 exact bodyPost_ret (a0v rfl rfl hr Tryz.underlying68 rfl ap6) rfl ⟨by rw [m0R]; rfl, hfr⟩
end
section
open Go.RowKit Go.Mv Mvp
attribute [local irreducible] a0C lw mix cw b0u b0B b0r a0N a0q beN b0G b0f b0C a0M a0S elN mdL a0Z a0T a0Q
end
end Go.Proofs.YtemcankmggmgoaaGreat
namespace Go.Mv
open Go.RowKit
theorem B0v {w : World} {b o n : Nat} {vs : List Value} (h : Rd w (some ⟨b, o, none⟩) n vs) (k : Nat) (cs : List Value) (hcs : (vs.drop k).take cs.length = cs) : At w b (o + k) cs := by
 intro i v hv
 rcases h.2 with h0 | ⟨b', o', he, hc⟩
 ·have hl := h.len
  rw [h0] at hl
  rw [List.length_eq_zero_iff.1 hl] at hcs
  simp at hcs
  subst hcs
  simp at hv
 ·simp only [Option.some.injEq, Addr.mk.injEq] at he
  obtain ⟨rfl, rfl, -⟩ := he
  have := hc.sub k cs.length
  rw [hcs] at this
  exact this i v hv
theorem h0X {w : World} {b o n : Nat} {vs : List Value} (h : Rd w (some ⟨b, o, none⟩) n vs) (k : Nat) (cs : List Value) (hcs : (vs.drop k).take cs.length = cs) : w.rangeAt b (o + k) cs :=
 fun i v hv => B0v h k cs hcs i v hv
end Go.Mv
namespace Go.Proofs.YtemcankmggmgoaaGreat
open Go.RowKit Go.Mv Mvp
attribute [local irreducible] a0C lw mix cw b0u b0B b0r a0N a0q beN b0G b0f b0C a0M a0S elN mdL a0Z a0T a0Q
end Go.Proofs.YtemcankmggmgoaaGreat
namespace Mvp
theorem t0s (N i : Nat) : lw (N / 2) i = lw N i / 2 ||| (lw N (i + 1) * 9223372036854775808 % 18446744073709551616) := by
 have h1 : lw N (i + 1) * 9223372036854775808 % 18446744073709551616 = 2 ^ 63 * (lw N (i + 1) % 2) := by
  have : (18446744073709551616 : Nat) = 9223372036854775808 * 2 := by decide
  rw [this, Nat.mul_comm, Nat.mul_mod_mul_left]
 have h2 : lw N i / 2 < 2 ^ 63 := by have := c0T N i; omega
 rw [h1, Nat.or_comm, ← Nat.two_pow_add_eq_or_of_lt h2]
 have e1 : lw N (i + 1) = N / B64 ^ i / 18446744073709551616 % 18446744073709551616 := by
  unfold lw
  rw [Nat.pow_succ, ← Nat.div_div_eq_div_mul]
 have e2 : lw (N / 2) i = N / B64 ^ i / 2 % 18446744073709551616 := by
  unfold lw
  rw [Nat.div_div_eq_div_mul, Nat.mul_comm, ← Nat.div_div_eq_div_mul]
 have e3 : lw N i = N / B64 ^ i % 18446744073709551616 := rfl
 rw [e1, e2, e3]
 generalize N / B64 ^ i = x
 omega
theorem l0n (n q k b : Nat) (hq : q < 2 ^ k) (hb : b < 2) (hk : k / 64 < n) : (a0C n q).set (k / 64) (lw q (k / 64) ||| b * 2 ^ (k % 64)) = a0C n (q + b * 2 ^ k) := by
 have e0 : 2 ^ k = B64 ^ (k / 64) * 2 ^ (k % 64) := by
  rw [show B64 = 2 ^ 64 from rfl, ← Nat.pow_mul, ← Nat.pow_add]
  congr 1; omega
 have hj : q / B64 ^ (k / 64) < 2 ^ (k % 64) := Nat.div_lt_of_lt_mul (by rw [← e0]; exact hq)
 have hr : 2 ^ (k % 64) * 2 ≤ B64 := by
  rw [← Nat.pow_succ, show B64 = 2 ^ 64 from rfl]
  exact Nat.pow_le_pow_right ap14 ap15
 have hy : b * 2 ^ (k % 64) ≤ 2 ^ (k % 64) := by
  have := Nat.mul_le_mul_right (2 ^ (k % 64)) (show b ≤ 1 by omega)
  rwa [Nat.one_mul] at this
 rw [e0, Nat.mul_left_comm b]
 apply List.ext_getElem?
 intro i
 rw [List.getElem?_set, b0z]
 rcases Nat.lt_or_ge i n with hi | hi
 ·rw [c0O _ _ _ hi, c0O _ _ _ hi]
  rcases Nat.lt_trichotomy i (k / 64) with h | h | h
  ·rw [if_neg ap15, i0I _ _ _ _ h]
  ·subst h
   rw [if_pos rfl, if_pos hi]
   congr 1
   have h2 := c0V q (b * 2 ^ (k % 64)) (k / 64) 0
   rw [Nat.add_zero] at h2
   rw [h2]
   rw [Nat.mul_comm b] at hy h2 ⊢
   have h3 : lw q (k / 64) = q / B64 ^ (k / 64) := Nat.mod_eq_of_lt (by generalize q / B64 ^ (k / 64) = y at *; generalize 2 ^ (k % 64) = z at *; omega)
   rw [h3, Nat.or_comm, ← Nat.two_pow_add_eq_or_of_lt hj]
   simp only [lw, Nat.pow_zero, Nat.div_one]
   generalize q / B64 ^ (k / 64) = y at *
   generalize 2 ^ (k % 64) * b = u at *
   generalize 2 ^ (k % 64) = z at *
   rw [Nat.add_comm]
   exact (Nat.mod_eq_of_lt ap15).symm
  ·rw [if_neg ap15]
   congr 1
   obtain ⟨j, rfl⟩ : ∃ j, i = k / 64 + (1 + j) := ⟨i - k / 64 - 1, by omega⟩
   rw [c0V, ← c0G q]
   rw [d0o (q / B64 ^ (k / 64)) 1 _ (by rw [Nat.pow_one]; omega) ap15, d0o _ 1 _ (by rw [Nat.pow_one]; omega) ap15]
 ·rw [if_neg ap15, List.getElem?_eq_none (by rw [b0z]; exact hi), List.getElem?_eq_none (by rw [b0z]; exact hi)]
theorem f0m (P k : Nat) : P / 4 % 2 ^ (k + 1) = P / 4 % 2 ^ k + (P / 2 ^ (k + 2) % 2) * 2 ^ k := by
 have e : P / 2 ^ (k + 2) = P / 4 / 2 ^ k := by
  rw [Nat.div_div_eq_div_mul, Nat.pow_add, Nat.mul_comm]
 rw [e, Nat.pow_succ, Nat.mod_mul, Nat.mul_comm (2 ^ k)]
end Mvp
namespace Go.Mv
open Go.RowKit Mvp
variable {P : Program}
theorem l0o {t e : TypeId} (hu : P.underlying t = some (.array 4 e)) (he : P.underlying e = some (.int .u64)) (hi0 : (P.info? e).map (·.size) = some 1) (a b : Nat) (w : World) :
  (Op.equal t (.agg (cw 4 a).toArray) (.agg (cw 4 b).toArray)).run P w = .ok (decide (a % B64 ^ 4 = b % B64 ^ 4)) w := by
 obtain ⟨j, hj, hsz⟩ : ∃ j, P.info? e = some j ∧ j.size = 1 := by simpa using hi0
 have hc : P.cellsOf e = 1 := by simp [Program.cellsOf, hj, hsz]
 have hp : ∀ (x k : Nat), k < 4 → (part e (cw 4 x).toArray k).run P w = .ok (.int .u64 (lw x k : Nat)) w := by
  intro x k hk
  have hv := a0D 4 x k hk
  simp [part, isAgg, run_underlying he, sizeOf, typeInfo, hj, hsz, hv]
 have hq0 : ∀ (d : Nat) (x y : Int), (Op.equalIn (d + 1) e (.int .u64 x) (.int .u64 y)).run P w = .ok (x == y) w := fun d x y => by
  simp [Op.equalIn, run_underlying he]
 have hq : ∀ x y : Int, (Op.equalIn 9999 e (.int .u64 x) (.int .u64 y)).run P w = .ok (x == y) w := hq0 9998
 have hbe : ∀ k, ((lw a k : Int) == (lw b k : Int)) = decide (lw a k = lw b k) := by
  intro k
  rw [Bool.eq_iff_iff]; simp; omega
 show (Op.equalIn (9999 + 1) t _ _).run P w = _
 rw [run_equalIn_array w 9999 _ _ hu hj, hc]
 have hfin : decide (a % B64 ^ 4 = b % B64 ^ 4) = (decide (lw a 0 = lw b 0) && (decide (lw a 1 = lw b 1) && (decide (lw a 2 = lw b 2) && decide (lw a 3 = lw b 3)))) := by
  rw [Bool.eq_iff_iff]
  simp only [decide_eq_true_eq, Bool.and_eq_true]
  constructor
  ·intro h
   refine ⟨?_, ?_, ?_, ?_⟩ <;> (rw [← f0e a _ 4 ap14, h, f0e b _ 4 ap14])
  ·rintro ⟨h0, h1, h2, h3⟩
   refine e0F (f0f fun i hi => ?_)
   have : i = 0 ∨ i = 1 ∨ i = 2 ∨ i = 3 := by omega
   rcases this with rfl | rfl | rfl | rfl <;> assumption
 rw [hfin]
 show (Op.eqItems 9999 e 1 _ _ [0, 1, 2, 3]).run P w = _
 have p0 := fun x => hp x 0 ap14
 have p1 := fun x => hp x 1 ap14
 have p2 := fun x => hp x 2 ap14
 have p3 := fun x => hp x 3 ap14
 clear hp hq0 hfin
 by_cases h0 : lw a 0 = lw b 0 <;> by_cases h1 : lw a 1 = lw b 1 <;> by_cases h2 : lw a 2 = lw b 2 <;> by_cases h3 : lw a 3 = lw b 3 <;> simp [Op.eqItems, p0, p1, p2, p3, hq, hbe, h0, h1, h2, h3, -beq_iff_eq]
end Go.Mv
namespace Go.Proofs.YtemcankmggmgoaaGreat
open Go.RowKit Go.Mv Mvp
attribute [local irreducible] a0C lw mix cw b0u b0B b0r a0N a0q beN b0G b0f b0C a0M a0S elN
theorem i0T (N : Nat) (w : World) (hN : N < B64 ^ 4) :
  Calls Tryz.prog 206 #[i4 N, .int .i64 2] w fun e w' => e = .returned (i4 (N / 4)) ∧ Fr Nob w w' := by
 have HN := qH hN; clear hN
 have st0 := St.start Nob w
 go_enter Tryz.func206, Tryz.ntmps206
 go_wp2_with (with_reducible refine wSk 2 ?_)
 refine a0l st0 rfl rfl rfl (cw 4 N) rfl ?_
 intro g2 w1 st1
 clear st0
 go_wp2_with (with_reducible refine wSk 4 ?_)
 refine a0a st1 rfl rfl (z := zAd) ap13 (cw 4 0) ap11 ?_
 intro g4 w2 st2
 clear st1
 go_wp2
 go_loopw [7] (fun i wr => ∃ j : Nat, j ≤ 2 ∧ i = .int .i64 (j : Int) ∧ St Nob w wr [(g2, cw 4 (N / 2 ^ j), 111), (g4, cw 4 0, 111)]) (fun i _ => 2 - (intOf i).toNat)
 case atStart => exact ⟨0, by omega, rfl, by rw [Nat.pow_zero, Nat.div_one]; exact st2⟩
 case round =>
  obtain ⟨j, hj, rfl, st⟩ := hrel
  clear st2
  by_cases hlt : j < 2
  ·have hltJ : (j : Int) < 2 := by omega
   have hV : N / 2 ^ j < B64 ^ 4 := Nat.lt_of_le_of_lt (Nat.div_le_self _ _) HN.out
   have hnext : N / 2 ^ (j + 1) = N / 2 ^ j / 2 := by rw [Nat.pow_succ, Nat.div_div_eq_div_mul]
   generalize hVe : N / 2 ^ j = V at *
   have HNEXT := qH hnext; have HV := qH hV; clear hnext hV hVe
   go_wp2
   go_loopw [9] (fun i wr => ∃ k : Nat, k ≤ 4 ∧ i = .int .i64 (k : Int) ∧ St Nob w wr [(g2, cw 4 (mix (V / 2) V k), 111), (g4, cw 4 0, 111)]) (fun i _ => 4 - (intOf i).toNat)
   case atStart => exact ⟨0, by omega, rfl, by rw [d0Z]; exact st⟩
   case round =>
    obtain ⟨k, hk, rfl, stk⟩ := hrel
    clear st
    by_cases hltk : k < 4
    ·have hltK : (k : Int) < 4 := by omega
     have c1 : wr.cell? ⟨g2, k, none⟩ = some (.int .u64 (lw V k : Nat)) := by have h := (stk.at 0 rfl).cell (a0D 4 (mix (V / 2) V k) k hltk); rwa [h0s, if_neg (Nat.lt_irrefl k)] at h
     have f1 := (stk.at 0 rfl).free k (by rw [a0f]; exact hltk)
     have stm := stk.set 0 rfl k (.int .u64 ((lw V k : Int) / 2))
     have hhw := t0s V k
     have hor : bits .or .u64 ((lw V k : Int) / 2) (IntKind.u64.wrap ((lw V (k + 1) : Int) * 9223372036854775808)) = ((lw (V / 2) k : Nat) : Int) := by
      have h := bits_or_u64_nat (lw V k / 2) (lw V (k + 1) * 9223372036854775808 % 18446744073709551616) (Nat.lt_of_le_of_lt (Nat.div_le_self _ _) (c0T _ _)) (Nat.mod_lt _ ap14)
      rw [hhw, ← h, IntKind.wrap_u64]
      rfl
     have HOR := qH hor
     clear hor
     have STM := qH stm
     have HSET := qH (e0a 4 (V / 2) V k hltk)
     by_cases h3 : k < 3
     ·have h3I : (k : Int) < 3 := by omega
      have c2 := (stm.at 0 rfl).cell (i := k) (v := .int .u64 ((lw V k : Int) / 2)) (by rw [List.getElem?_set_self (by rw [a0f]; exact hltk)])
      have c3 := (stm.at 0 rfl).cell (i := k + 1) (v := .int .u64 (lw V (k + 1) : Nat)) (by rw [List.getElem?_set_ne ap15, a0D 4 _ (k + 1) ap15, h0s, if_neg ap15])
      have f2 := (stm.at 0 rfl).free k (by rw [List.length_set, a0f]; exact hltk)
      have e1 : IntKind.i64.wrap ((k : Int) + 1) = (k : Int) + 1 := IntWalk.i64_in _ ap15
      have e4 : ((k : Int) + 1).toNat = k + 1 := by omega
      have hlo : (0 : Int) ≤ (k : Int) + 1 ∧ (k : Int) + 1 < 4 := by omega
      clear stm stk
      go_wp2_with fail
      generalize hwm : wr.setCell ⟨g2, k, none⟩ (.int .u64 ((lw V k : Int) / 2)) = wm at *
      clear hwm c1 f1
      refine wp_region_still_tail 10 ap13 ap13 ?_
      simp only [List.take_succ_cons, List.take_zero, List.drop_succ_cons, List.drop_zero]
      repeat still_step
      refine wpStill_nil ?_
      have hst := (STM.out.set 0 rfl k (.int .u64 (bits .or .u64 ((lw V k : Int) / 2) (IntKind.u64.wrap ((lw V (k + 1) : Int) * 9223372036854775808))))).drew
      rw [HOR.out] at hst
      simp only [List.set_cons_zero, List.set_set] at hst
      rw [HSET.out] at hst
      have HST := qH hst
      clear hst
      go_wp2
      go_roundw
      case rel => exact ⟨k + 1, by omega, by go_num, by rw [HOR.out]; exact HST.out⟩
      case measure => simp [intOf]; omega
     ·have h3I : ¬ ((k : Int) < 3) := by omega
      have hk3 : k = 3 := by omega
      have hz : lw V (k + 1) = 0 := d0o V 4 _ HV.out ap15
      have hst := STM.out
      rw [hz, Nat.zero_mul, Nat.zero_mod, Nat.or_zero] at hhw
      rw [show ((lw V k : Int) / 2) = ((lw (V / 2) k : Nat) : Int) by rw [hhw]; rfl] at hst
      simp only [List.set_cons_zero] at hst
      rw [HSET.out] at hst
      rw [show ((lw (V / 2) k : Nat) : Int) = ((lw V k : Int) / 2) by rw [hhw]; rfl] at hst
      have HST := qH hst
      clear hst stm hhw hz hk3 stk
      go_wp2
      go_roundw
      case rel => exact ⟨k + 1, by omega, by go_num, HST.out⟩
      case measure => simp [intOf]; omega
    ·have hge : ¬ ((k : Int) < 4) := by omega
     have hk4 : k = 4 := by omega
     rw [hk4, h0S, ← HNEXT.out] at stk
     clear hk4
     go_wp2
     go_roundw
     case rel => exact ⟨j + 1, by omega, by go_num, stk⟩
     case measure => simp [intOf]; omega
  ·have hge : ¬ ((j : Int) < 2) := by omega
   have hj2 : j = 2 := by omega
   rw [hj2] at st
   clear hj2
   go_wp2_with (with_reducible refine wSk 31 ?_)
   refine a0j st 0 rfl rfl rfl Tryz.underlying111 rfl (by rw [a0f]; kernel_rfl) ?_
   go_wp2_with (with_reducible refine wSn ?_)
   refine a0b st 1 rfl rfl rfl rfl rfl (by rw [a0f, a0f]) (by rw [a0f]; kernel_rfl) (a0g _ _) ?_
   intro w9 st9
   clear st
   have hr := st9.at 1 rfl
   have hfr := st9.fr
   clear st9
   go_wp2
   exact bodyPost_ret (a0w rfl rfl hr Tryz.underlying111 (by rw [a0f]; kernel_rfl)) rfl ⟨rfl, hfr⟩
end Go.Proofs.YtemcankmggmgoaaGreat
namespace Mvp
def rtN (M x : Nat) : Nat := x ^ (M / 4 + 1)
def b0J (M x : Nat) : Bool := rtN M x * rtN M x % M == x % M
def rtV (M x : Nat) : Nat := if rtN M x % M % 2 = 1 then M - rtN M x % M else rtN M x
end Mvp
namespace Go.Proofs.YtemcankmggmgoaaGreat
open Go.RowKit Go.Mv Mvp
theorem B0w (m : Md) (h : m.Ok) (x y : Nat) (ty : TypeId) (hu : Tryz.prog.underlying ty = some (.array 4 58)) (w : World) :
  (Op.equal ty (i4 (elN m x)) (.agg (cw 4 (elN m y)).toArray)).run Tryz.prog w = .ok (x % m.M == y % m.M) w := by
 have hb : decide (elN m x % B64 ^ 4 = elN m y % B64 ^ 4) = (x % m.M == y % m.M) := by
  rw [Nat.mod_eq_of_lt (m0Q m h x), Nat.mod_eq_of_lt (m0Q m h y), Bool.eq_iff_iff]
  simp only [decide_eq_true_eq, beq_iff_eq]
  exact ⟨B0m m h, l0l m⟩
 rw [← hb]
 exact l0o hu Tryz.underlying58 d0b _ _ w
theorem p0R (x y : Nat) (ty : TypeId) (hg : Tryz.prog.eqGuardType Tryz.prog.depth ty = false) (a b : Operand) (w : World) :
  (eqGuard .neq ty a b (i4 x) (.agg (cw 4 y).toArray)).run Tryz.prog w = .ok () w := run_eqGuard_agg w .neq ty a b _ _ hg
theorem B0x (m : Md) (h : m.Ok) (x y : Nat) (ty : TypeId) (hu : Tryz.prog.underlying ty = some (.array 4 58)) (w : World) :
  (binOp .neq ty (i4 (elN m x)) (.agg (cw 4 (elN m y)).toArray)).run Tryz.prog w = .ok (.bool !(x % m.M == y % m.M)) w := by
 show (do pure (Value.bool (!(← Op.equal ty (i4 (elN m x)) (.agg (cw 4 (elN m y)).toArray))))).run Tryz.prog w = _
 simp only [Sem.run_bind, B0w m h x y ty hu, Result.andThen_ok]
 rfl
theorem l0p (m : Md) (h : m.Ok) (x y : Nat) (ty : TypeId) (hu : Tryz.prog.underlying ty = some (.array 4 58)) (hg : Tryz.prog.eqGuardType Tryz.prog.depth ty = false) {o : Oper} {a : Act} {w : World} {K : Act → World → Prop} {Q : Exit → Act → World → Prop} {p q : Operand} {T : TypeId}
  (ho : o.op = .binOp .neq ty p q T) (hp : a.eval p = i4 (elN m x)) (hq : a.eval q = .agg (cw 4 (elN m y)).toArray) {b : Bool} (hb : (x % m.M == y % m.M) = b) (hk : K (a.put o.dst (.bool !b)) w) : o.wp Tryz.prog a w K Q := by
 have h1 := p0R (elN m x) (elN m y) ty hg p q w
 have h2 := B0x m h x y ty hu w
 rw [hb] at h2
 unfold Oper.wp execOp
 simp only [ho, hp, hq, Sem.run_bind, h1, h2, Result.andThen_ok, Sem.run_pure]
 exact hk
theorem p0S (v : Nat) (w : World) : (Instr.index 111 (i4 v) (.int .i64 0)).run Tryz.prog w = .ok (.int .u64 (lw v 0 : Nat)) w :=
 f0g (P := Tryz.prog) Tryz.underlying111 Tryz.underlying58 d0b v 0 ap14 .i64 w
theorem h0b (v : Nat) : bits .and .u64 (lw v 0 : Nat) 1 = ((v % 2 : Nat) : Int) := by
 have ha := bits_and_u64_nat (lw v 0) 1 (c0T _ _) ap15
 rw [Nat.and_one_is_mod, r0g] at ha
 rw [r0g]
 refine Eq.trans ha ?_
 congr 1
 omega
attribute [local irreducible] a0C lw mix cw b0u b0B b0r a0N a0q beN b0G b0f b0C a0M a0S elN
theorem r0q (m : Md) (gp : Nat) (w : World) (hok : m.Ok) (hpm : Has w gp (mdL m) 187) (x n : Nat) (hn : m.M / 4 + 1 = n) (hr : ((x ^ n) * (x ^ n) % m.M == x % m.M) = false) :
  Calls Tryz.prog 198 #[.pointer (some ⟨gp, 0, none⟩), i4 (elN m x)] w fun e w' => e = .returned (.tuple #[i4 0, .bool false]) ∧ Fr Nob w w' := by
 have HOK := qH hok
 have HPM := qH hpm
 clear hok hpm
 have HE4 := qH (show n < B64 ^ 4 by subst hn; have := HOK.out.lt; have := HOK.out.one; omega)
 have h1p := fun wx => g0v (m.M / 4) 1 wx
 rw [← b0D 1 ap14, hn] at h1p
 clear hn
 have H1P := qH h1p
 clear h1p
 have HR := qH hr
 clear hr
 have st0 := St.start Nob w
 go_enter Tryz.func198, Tryz.ntmps198
 go_wp2_with (with_reducible refine wSk 3 ?_)
 refine a0l st0 rfl rfl rfl (cw 4 (elN m x)) rfl ?_
 intro g3 w1 st1
 clear st0
 go_wp2_with (with_reducible refine wSk 4 ?_)
 refine a0a st1 rfl rfl (z := zAd) ap13 (cw 4 0) ap11 ?_
 intro g4 w2 st2
 clear st1
 go_wp2_with (with_reducible refine wSk 13 ?_)
 refine c0b rfl rfl Tryz.underlying111 rfl (HPM.out.keep st2.fr id) (cw 4 m.M) (l0Y m) ap6 ?_
 go_wp2_with fail
 refine (i0T m.M _ HOK.out.lt).mono ?_
 rintro e' w3 ⟨rfl, hf3⟩
 have st3 := st2.keep hf3
 clear st2 hf3
 go_wp2_with fail
 refine (H1P.out _).mono ?_
 rintro e' w4 ⟨rfl, hf4⟩
 have st4 := st3.keep hf4
 clear st3 hf4
 go_wp2_with (with_reducible refine wSk 6 ?_)
 refine a0a st4 rfl rfl (z := zAd) ap13 (cw 4 0) ap11 ?_
 intro g6 w5 st5
 clear st4
 go_wp2_with (with_reducible refine wSn ?_)
 refine a0b st5 2 rfl rfl rfl rfl rfl ap7 ap6 (a0g _ _) ?_
 intro w6 st6
 clear st5
 go_wp2_with (with_reducible refine wSk 20 ?_)
 refine a0j st6 0 rfl rfl rfl Tryz.underlying66 rfl ap6 ?_
 go_wp2_with (with_reducible refine wSk 21 ?_)
 refine a0j st6 2 rfl rfl rfl Tryz.underlying111 rfl ap6 ?_
 go_wp2_with fail
 refine (h0W m gp _ HOK.out (HPM.out.keep st6.fr id) x n HE4.out).mono ?_
 rintro e' w7 ⟨rfl, hf7⟩
 have st7 := st6.keep hf7
 clear st6 hf7
 go_wp2_with (with_reducible refine wSk 8 ?_)
 refine a0a st7 rfl rfl (z := zAd) ap13 (cw 4 0) ap11 ?_
 intro g8 w8 st8
 clear st7
 go_wp2_with (with_reducible refine wSn ?_)
 refine a0b st8 3 rfl rfl rfl rfl rfl ap7 ap6 (a0g _ _) ?_
 intro w9 st9
 clear st8
 go_wp2_with fail
 refine wp_region_noPanic ?_
 refine a0p (fun wx => St Nob w wx [(g3, cw 4 (elN m x), 66), (g4, cw 4 0, 66), (g6, cw 4 n, 111), (g8, cw 4 (elN m (x ^ n)), 66)]) 4 (.w 0 (.t 1 (.t 3 (.r 2 (.m 4 .nil))))) ap13 ap13 st9.drew (fun _ _ _ _ _ h => h) ?_
 have hd9 := st9.drew
 clear st9
 refine a0k rfl rfl apW ?_
 try simp only [clL]
 refine a0r rfl rfl rfl rfl (cw 4 (elN m (x ^ n))) (fun wx hS => St.rangeL hS 3 rfl 0 _ dZl) Tryz.underlying66 rfl ap6 ?_
 try simp only [clL]
 refine a0r rfl rfl rfl rfl (cw 4 (elN m x)) (fun wx hS => St.rangeL hS 0 rfl 0 _ dZl) Tryz.underlying66 rfl ap6 ?_
 try simp only [clL]
 refine a0y rfl rfl ?_
 go_simp
 refine (d0M m gp _ HOK.out (HPM.out.keep hd9.fr id) (x ^ n)).mono ?_
 rintro e' w10 ⟨rfl, hf10⟩
 have st10 := hd9.keep hf10
 clear hf10
 clear hd9
 refine ⟨st10, ?_⟩
 try simp only [clL]
 refine a0o rfl rfl ?_
 refine l0p m HOK.out ((x ^ n) * (x ^ n)) x 66 Tryz.underlying66 Tryz.eqGuardType66 rfl rfl rfl HR.out ?_
 try simp only [clL]
 refine a0h ?_
 refine NoPanic.normal ?_
 go_wp2_with (with_reducible refine wSn ?_)
 refine a0b st10 1 rfl rfl rfl rfl (cs := cw 4 0) ap11 ap7 ap6 (a0g _ _) ?_
 intro w11 st11
 clear st10
 have hr := st11.at 1 rfl
 have hfr := st11.fr
 clear st11
 go_wp2_with fail
 exact bodyPost_ret (a0X rfl rfl hr Tryz.underlying66 ap6 rfl) rfl ⟨rfl, hfr⟩
theorem r0r (m : Md) (gp : Nat) (w : World) (hok : m.Ok) (hpm : Has w gp (mdL m) 187) (x n : Nat) (hn : m.M / 4 + 1 = n) (hr : ((x ^ n) * (x ^ n) % m.M == x % m.M) = true) (hb : (x ^ n) % m.M % 2 = 0) :
  Calls Tryz.prog 198 #[.pointer (some ⟨gp, 0, none⟩), i4 (elN m x)] w fun e w' => e = .returned (.tuple #[i4 (elN m (x ^ n)), .bool true]) ∧ Fr Nob w w' := by
 have HOK := qH hok
 have HPM := qH hpm
 clear hok hpm
 have HB := qH hb
 have HE4 := qH (show n < B64 ^ 4 by subst hn; have := HOK.out.lt; have := HOK.out.one; omega)
 have h1p := fun wx => g0v (m.M / 4) 1 wx
 rw [← b0D 1 ap14, hn] at h1p
 clear hn
 have H1P := qH h1p
 clear h1p
 have HR := qH hr
 clear hr
 clear hb
 have st0 := St.start Nob w
 go_enter Tryz.func198, Tryz.ntmps198
 go_wp2_with (with_reducible refine wSk 3 ?_)
 refine a0l st0 rfl rfl rfl (cw 4 (elN m x)) rfl ?_
 intro g3 w1 st1
 clear st0
 go_wp2_with (with_reducible refine wSk 4 ?_)
 refine a0a st1 rfl rfl (z := zAd) ap13 (cw 4 0) ap11 ?_
 intro g4 w2 st2
 clear st1
 go_wp2_with (with_reducible refine wSk 13 ?_)
 refine c0b rfl rfl Tryz.underlying111 rfl (HPM.out.keep st2.fr id) (cw 4 m.M) (l0Y m) ap6 ?_
 go_wp2_with fail
 refine (i0T m.M _ HOK.out.lt).mono ?_
 rintro e' w3 ⟨rfl, hf3⟩
 have st3 := st2.keep hf3
 clear st2 hf3
 go_wp2_with fail
 refine (H1P.out _).mono ?_
 rintro e' w4 ⟨rfl, hf4⟩
 have st4 := st3.keep hf4
 clear st3 hf4
 go_wp2_with (with_reducible refine wSk 6 ?_)
 refine a0a st4 rfl rfl (z := zAd) ap13 (cw 4 0) ap11 ?_
 intro g6 w5 st5
 clear st4
 go_wp2_with (with_reducible refine wSn ?_)
 refine a0b st5 2 rfl rfl rfl rfl rfl ap7 ap6 (a0g _ _) ?_
 intro w6 st6
 clear st5
 go_wp2_with (with_reducible refine wSk 20 ?_)
 refine a0j st6 0 rfl rfl rfl Tryz.underlying66 rfl ap6 ?_
 go_wp2_with (with_reducible refine wSk 21 ?_)
 refine a0j st6 2 rfl rfl rfl Tryz.underlying111 rfl ap6 ?_
 go_wp2_with fail
 refine (h0W m gp _ HOK.out (HPM.out.keep st6.fr id) x n HE4.out).mono ?_
 rintro e' w7 ⟨rfl, hf7⟩
 have st7 := st6.keep hf7
 clear st6 hf7
 go_wp2_with (with_reducible refine wSk 8 ?_)
 refine a0a st7 rfl rfl (z := zAd) ap13 (cw 4 0) ap11 ?_
 intro g8 w8 st8
 clear st7
 go_wp2_with (with_reducible refine wSn ?_)
 refine a0b st8 3 rfl rfl rfl rfl rfl ap7 ap6 (a0g _ _) ?_
 intro w9 st9
 clear st8
 go_wp2_with fail
 refine wp_region_noPanic ?_
 refine a0p (fun wx => St Nob w wx [(g3, cw 4 (elN m x), 66), (g4, cw 4 0, 66), (g6, cw 4 n, 111), (g8, cw 4 (elN m (x ^ n)), 66)]) 4 (.w 0 (.t 1 (.t 3 (.r 2 (.m 4 .nil))))) ap13 ap13 st9.drew (fun _ _ _ _ _ h => h) ?_
 have hd9 := st9.drew
 clear st9
 refine a0k rfl rfl apW ?_
 try simp only [clL]
 refine a0r rfl rfl rfl rfl (cw 4 (elN m (x ^ n))) (fun wx hS => St.rangeL hS 3 rfl 0 _ dZl) Tryz.underlying66 rfl ap6 ?_
 try simp only [clL]
 refine a0r rfl rfl rfl rfl (cw 4 (elN m x)) (fun wx hS => St.rangeL hS 0 rfl 0 _ dZl) Tryz.underlying66 rfl ap6 ?_
 try simp only [clL]
 refine a0y rfl rfl ?_
 go_simp
 refine (d0M m gp _ HOK.out (HPM.out.keep hd9.fr id) (x ^ n)).mono ?_
 rintro e' w10 ⟨rfl, hf10⟩
 have st10 := hd9.keep hf10
 clear hf10
 clear hd9
 refine ⟨st10, ?_⟩
 try simp only [clL]
 refine a0o rfl rfl ?_
 refine l0p m HOK.out ((x ^ n) * (x ^ n)) x 66 Tryz.underlying66 Tryz.eqGuardType66 rfl rfl rfl HR.out ?_
 try simp only [clL]
 refine a0h ?_
 refine NoPanic.normal ?_
 have hix := fun wx => p0S ((x ^ n) % m.M) wx
 have hla := h0b ((x ^ n) % m.M)
 rw [HB.out] at hla
 go_wp2_with (with_reducible refine wSk 30 ?_)
 refine a0j st10 3 rfl rfl rfl Tryz.underlying66 rfl ap6 ?_
 go_wp2_with fail
 refine (f0l m gp _ HOK.out (HPM.out.keep st10.fr id) (x ^ n)).mono ?_
 rintro e' w11 ⟨rfl, hf11⟩
 have st11 := st10.keep hf11
 clear st10 hf11
 go_wp2_with (with_reducible refine wSk 38 ?_)
 refine a0j st11 3 rfl rfl rfl Tryz.underlying66 rfl ap6 ?_
 go_wp2_with (with_reducible refine wSn ?_)
 refine a0b st11 1 rfl rfl rfl rfl rfl ap7 ap6 (a0g _ _) ?_
 intro w12 st12
 clear st11
 have hr := st12.at 1 rfl
 have hfr := st12.fr
 clear st12
 go_wp2_with fail
 exact bodyPost_ret (a0X rfl rfl hr Tryz.underlying66 ap6 rfl) rfl ⟨rfl, hfr⟩
theorem t0t (m : Md) (gp : Nat) (w : World) (hok : m.Ok) (hpm : Has w gp (mdL m) 187) (x n : Nat) (hn : m.M / 4 + 1 = n) (hr : ((x ^ n) * (x ^ n) % m.M == x % m.M) = true) (hb : (x ^ n) % m.M % 2 = 1) :
  Calls Tryz.prog 198 #[.pointer (some ⟨gp, 0, none⟩), i4 (elN m x)] w fun e w' => e = .returned (.tuple #[i4 (elN m (m.M - (x ^ n) % m.M)), .bool true]) ∧ Fr Nob w w' := by
 have HOK := qH hok
 have HPM := qH hpm
 clear hok hpm
 have HB := qH hb
 have HE4 := qH (show n < B64 ^ 4 by subst hn; have := HOK.out.lt; have := HOK.out.one; omega)
 have h1p := fun wx => g0v (m.M / 4) 1 wx
 rw [← b0D 1 ap14, hn] at h1p
 clear hn
 have H1P := qH h1p
 clear h1p
 have HR := qH hr
 clear hr
 clear hb
 have st0 := St.start Nob w
 go_enter Tryz.func198, Tryz.ntmps198
 go_wp2_with (with_reducible refine wSk 3 ?_)
 refine a0l st0 rfl rfl rfl (cw 4 (elN m x)) rfl ?_
 intro g3 w1 st1
 clear st0
 go_wp2_with (with_reducible refine wSk 4 ?_)
 refine a0a st1 rfl rfl (z := zAd) ap13 (cw 4 0) ap11 ?_
 intro g4 w2 st2
 clear st1
 go_wp2_with (with_reducible refine wSk 13 ?_)
 refine c0b rfl rfl Tryz.underlying111 rfl (HPM.out.keep st2.fr id) (cw 4 m.M) (l0Y m) ap6 ?_
 go_wp2_with fail
 refine (i0T m.M _ HOK.out.lt).mono ?_
 rintro e' w3 ⟨rfl, hf3⟩
 have st3 := st2.keep hf3
 clear st2 hf3
 go_wp2_with fail
 refine (H1P.out _).mono ?_
 rintro e' w4 ⟨rfl, hf4⟩
 have st4 := st3.keep hf4
 clear st3 hf4
 go_wp2_with (with_reducible refine wSk 6 ?_)
 refine a0a st4 rfl rfl (z := zAd) ap13 (cw 4 0) ap11 ?_
 intro g6 w5 st5
 clear st4
 go_wp2_with (with_reducible refine wSn ?_)
 refine a0b st5 2 rfl rfl rfl rfl rfl ap7 ap6 (a0g _ _) ?_
 intro w6 st6
 clear st5
 go_wp2_with (with_reducible refine wSk 20 ?_)
 refine a0j st6 0 rfl rfl rfl Tryz.underlying66 rfl ap6 ?_
 go_wp2_with (with_reducible refine wSk 21 ?_)
 refine a0j st6 2 rfl rfl rfl Tryz.underlying111 rfl ap6 ?_
 go_wp2_with fail
 refine (h0W m gp _ HOK.out (HPM.out.keep st6.fr id) x n HE4.out).mono ?_
 rintro e' w7 ⟨rfl, hf7⟩
 have st7 := st6.keep hf7
 clear st6 hf7
 go_wp2_with (with_reducible refine wSk 8 ?_)
 refine a0a st7 rfl rfl (z := zAd) ap13 (cw 4 0) ap11 ?_
 intro g8 w8 st8
 clear st7
 go_wp2_with (with_reducible refine wSn ?_)
 refine a0b st8 3 rfl rfl rfl rfl rfl ap7 ap6 (a0g _ _) ?_
 intro w9 st9
 clear st8
 go_wp2_with fail
 refine wp_region_noPanic ?_
 refine a0p (fun wx => St Nob w wx [(g3, cw 4 (elN m x), 66), (g4, cw 4 0, 66), (g6, cw 4 n, 111), (g8, cw 4 (elN m (x ^ n)), 66)]) 4 (.w 0 (.t 1 (.t 3 (.r 2 (.m 4 .nil))))) ap13 ap13 st9.drew (fun _ _ _ _ _ h => h) ?_
 have hd9 := st9.drew
 clear st9
 refine a0k rfl rfl apW ?_
 try simp only [clL]
 refine a0r rfl rfl rfl rfl (cw 4 (elN m (x ^ n))) (fun wx hS => St.rangeL hS 3 rfl 0 _ dZl) Tryz.underlying66 rfl ap6 ?_
 try simp only [clL]
 refine a0r rfl rfl rfl rfl (cw 4 (elN m x)) (fun wx hS => St.rangeL hS 0 rfl 0 _ dZl) Tryz.underlying66 rfl ap6 ?_
 try simp only [clL]
 refine a0y rfl rfl ?_
 go_simp
 refine (d0M m gp _ HOK.out (HPM.out.keep hd9.fr id) (x ^ n)).mono ?_
 rintro e' w10 ⟨rfl, hf10⟩
 have st10 := hd9.keep hf10
 clear hf10
 clear hd9
 refine ⟨st10, ?_⟩
 try simp only [clL]
 refine a0o rfl rfl ?_
 refine l0p m HOK.out ((x ^ n) * (x ^ n)) x 66 Tryz.underlying66 Tryz.eqGuardType66 rfl rfl rfl HR.out ?_
 try simp only [clL]
 refine a0h ?_
 refine NoPanic.normal ?_
 have hix := fun wx => p0S ((x ^ n) % m.M) wx
 have hla := h0b ((x ^ n) % m.M)
 rw [HB.out] at hla
 go_wp2_with (with_reducible refine wSk 30 ?_)
 refine a0j st10 3 rfl rfl rfl Tryz.underlying66 rfl ap6 ?_
 go_wp2_with fail
 refine (f0l m gp _ HOK.out (HPM.out.keep st10.fr id) (x ^ n)).mono ?_
 rintro e' w11 ⟨rfl, hf11⟩
 have st11 := st10.keep hf11
 clear st10 hf11
 go_wp2_with (with_reducible refine wSk 36 ?_)
 refine a0j st11 3 rfl rfl rfl Tryz.underlying66 rfl ap6 ?_
 go_wp2_with fail
 refine (p0P m gp _ HOK.out (HPM.out.keep st11.fr id) (x ^ n)).mono ?_
 rintro e' w12 ⟨rfl, hf12⟩
 have st12 := st11.keep hf12
 clear st11 hf12
 go_wp2_with (with_reducible refine wSn ?_)
 refine a0b st12 3 rfl rfl rfl rfl rfl ap7 ap6 (a0g _ _) ?_
 intro w13 st13
 clear st12
 go_wp2_with (with_reducible refine wSk 38 ?_)
 refine a0j st13 3 rfl rfl rfl Tryz.underlying66 rfl ap6 ?_
 go_wp2_with (with_reducible refine wSn ?_)
 refine a0b st13 1 rfl rfl rfl rfl rfl ap7 ap6 (a0g _ _) ?_
 intro w14 st14
 clear st13
 have hr := st14.at 1 rfl
 have hfr := st14.fr
 clear st14
 go_wp2_with fail
 exact bodyPost_ret (a0X rfl rfl hr Tryz.underlying66 ap6 rfl) rfl ⟨rfl, hfr⟩
end Go.Proofs.YtemcankmggmgoaaGreat
namespace Go.Mv
open Go.RowKit Mvp
variable {P : Program}
end Go.Mv
namespace Go.Proofs.YtemcankmggmgoaaGreat
open Go.RowKit Go.Mv Mvp
theorem f0n {P : Program} {ty : TypeId} {xs ys : Array Value} {b : Bool} (w : World) (h : (Op.equal ty (.agg xs) (.agg ys)).run P w = .ok b w) : (binOp .eql ty (.agg xs) (.agg ys)).run P w = .ok (.bool b) w := by
 show (do pure (Value.bool (← Op.equal ty (.agg xs) (.agg ys)))).run P w = _
 simp only [Sem.run_bind, h, Result.andThen_ok]
 rfl
theorem c0W {P : Program} {op : BinOp} {ty : TypeId} {o : Oper} {a : Act} {p q : Operand} {T : TypeId} {x y v : Value} (ho : o.op = .binOp op ty p q T) (hp : a.eval p = x) (hq : a.eval q = y) (w : World)
  (h1 : (eqGuard op ty p q x y).run P w = .ok () w) (h2 : (binOp op ty x y).run P w = .ok v w) : (execOp a.eval o).run P w = .ok (.value v) w := by
 subst hp hq
 unfold execOp
 simp only [ho, Sem.run_bind, h1, h2, Result.andThen_ok, Sem.run_pure]
theorem t0u (m : Md) (h : m.Ok) (x y : Nat) {o : Oper} {a : Act} {p q : Operand} {T ty : TypeId} (hu : Tryz.prog.underlying ty = some (.array 4 58)) (hg : Tryz.prog.eqGuardType Tryz.prog.depth ty = false) (ho : o.op = .binOp .eql ty p q T) (hp : a.eval p = i4 (elN m x)) (hq : a.eval q = i4 (elN m y)) {b : Bool} (hb : (x % m.M == y % m.M) = b) (w : World) :
  (execOp a.eval o).run Tryz.prog w = .ok (.value (.bool b)) w := by
 subst hb
 exact c0W ho hp hq w (run_eqGuard_agg w .eql ty p q _ _ hg) (f0n w (B0w m h x y ty hu w))
theorem c0C {o : Oper} {a : Act} {w : World} {P : Program} {ops : Array Oper} {rest : List Oper} {Q : Exit → Act → World → Prop} {v : Value} (hgd : o.guard = none) (hx : (execOp a.eval o).run P w = .ok (.value v) w) (h : wpList P ops Q rest (a.put o.dst v) w) : wpList P ops Q (o :: rest) a w := by
 refine wpList_plain hgd fun K hK => ?_
 unfold Oper.wp
 rw [hx]
 exact hK _ _ h
attribute [local irreducible] a0C lw mix cw b0u b0B b0r a0N a0q beN b0G b0f b0C a0M a0S elN mdL a0Q
theorem w0n : (Value.agg #[.int .u64 0, .int .u64 0, .int .u64 0, .int .u64 0]) = i4 0 := by rw [i4, g0Y]; rfl
theorem w0o : Tryz.prog.built 66 [] = some #[.int .u64 0, .int .u64 0, .int .u64 0, .int .u64 0] := by kernel_rfl
theorem e0w (m : Md) (hok : m.Ok) (x : Nat) (b : Bool) (hb : (x % m.M == 0) = b) (w : World) :
  Calls Tryz.prog 162 #[i4 (elN m x)] w fun e w' => e = .returned (.bool b) ∧ Fr Nob w w' := by
 have HOK := qH hok
 have HB := qH (show (x % m.M == 0 % m.M) = b by rw [Nat.zero_mod]; exact hb)
 have HZ := qH (show i4 0 = i4 (elN m 0) by rw [e0g])
 clear hok hb
 have st0 := St.start Nob w
 go_enter Tryz.func162, Tryz.ntmps162
 go_wp2_with (with_reducible refine wSk 1 ?_)
 refine a0l st0 rfl rfl rfl (cw 4 (elN m x)) rfl ?_
 intro g1 w1 st1
 clear st0
 go_wp2_with (with_reducible refine wSk 3 ?_)
 refine a0j st1 0 rfl rfl rfl Tryz.underlying66 rfl ap6 ?_
 go_wp2_with (with_reducible refine wSk 4 ?_)
 refine c0N rfl rfl _ w0o ?_
 rw [w0n, HZ.out]
 go_wp2_with (with_reducible refine wSk 5 ?_)
 refine c0C rfl (t0u m HOK.out x 0 Tryz.underlying66 Tryz.eqGuardType66 rfl rfl rfl HB.out _) ?_
 have hfr := st1.fr
 clear st1
 go_wp2_with fail
 go_ret
 exact ⟨rfl, hfr⟩
theorem r0s (v : Int) : Tryz.prog.built 111 [(0, .int .u64 v)] = some #[.int .u64 v, .int .u64 0, .int .u64 0, .int .u64 0] := by kernel_rfl
theorem k0e (m : Md) (gp : Nat) (w : World) (hok : m.Ok) (hpm : Has w gp (mdL m) 187) (k : Nat) (hk : k < 18446744073709551616) :
  Calls Tryz.prog 134 #[.pointer (some ⟨gp, 0, none⟩), .int .u64 (k : Int)] w fun e w' => e = .returned (i4 (elN m k)) ∧ Fr Nob w w' := by
 have HOK := qH hok
 have HPM := qH hpm
 have HW := qH (b0D k hk)
 have HK4 := qH (show k < B64 ^ 4 from Nat.lt_of_lt_of_le hk ap14)
 clear hok hpm hk
 have st0 := St.start Nob w
 go_enter Tryz.func134, Tryz.ntmps134
 go_wp2_with (with_reducible refine wSk 4 ?_)
 refine a0a st0 rfl rfl (z := zAd) ap13 (cw 4 0) ap11 ?_
 intro g4 w1 st1
 clear st0
 go_wp2_with (with_reducible refine wSk 7 ?_)
 refine b0n rfl rfl _ (r0s (k : Int)) ?_
 rw [HW.out]
 go_wp2_with fail
 refine (d0l m gp _ HOK.out (HPM.out.keep st1.fr id) k HK4.out).mono ?_
 rintro e' w2 ⟨rfl, hf2⟩
 have st2 := st1.keep hf2
 clear st1 hf2
 go_wp2_with (with_reducible refine wSn ?_)
 refine a0b st2 0 rfl rfl rfl rfl rfl ap7 ap6 (a0g _ _) ?_
 intro w3 st3
 clear st2
 have hr := st3.at 0 rfl
 have hfr := st3.fr
 clear st3
 go_wp2_with fail
 exact bodyPost_ret (a0w rfl rfl hr Tryz.underlying66 ap6) rfl ⟨rfl, hfr⟩
theorem r0t (m : Md) (hk : KindOf 1 m) (k : Nat) (hk4 : k < 18446744073709551616) (w : World) :
  Calls Tryz.prog 63 #[.int .u64 (k : Int)] w fun e w' => e = .returned (i4 (elN m k)) ∧ Fr Nob w w' := by
 have HK := qH hk
 have HOK := qH hk.ok
 clear hk
 have HK4 := qH hk4
 clear hk4
 have st0 := St.start Nob w
 go_enter Tryz.func63, Tryz.ntmps63
 go_wp2_with (with_reducible refine wSk 2 ?_)
 refine a0a st0 rfl rfl (z := zAd) ap13 (cw 4 0) ap11 ?_
 intro g2 w1 st1
 clear st0
 go_wp2_with fail
 refine (d0N m HK.out _).mono ?_
 rintro e' w2 ⟨gp, rfl, hle, hm, hf2⟩
 have st2 : St Nob w w2 [(g2, cw 4 0, 68), (gp, mdL m, 187)] := st1.new hf2 hm hle
 clear st1 hf2 hm hle
 go_wp2_with fail
 refine (k0e m gp _ HOK.out (st2.at 1 rfl) k HK4.out).mono ?_
 rintro e' w3 ⟨rfl, hf3⟩
 have st3 := st2.keep hf3
 clear st2 hf3
 go_wp2_with (with_reducible refine wSk 6 ?_)
 refine b0n rfl rfl _ (i0S _) ?_
 go_wp2_with (with_reducible refine wSn ?_)
 refine a0b st3 0 rfl rfl rfl rfl rfl ap7 ap6 (a0g _ _) ?_
 intro w4 st4
 clear st3
 have hr := st4.at 0 rfl
 have hfr := st4.fr
 clear st4
 go_wp2_with fail
 exact bodyPost_ret (a0v rfl rfl hr Tryz.underlying68 rfl ap6) rfl ⟨rfl, hfr⟩
theorem k0f (m : Md) (hk : KindOf 1 m) (x : Nat) (w : World) :
  Calls Tryz.prog 51 #[i4 (elN m x)] w fun e w' => ∃ v, e = .returned v ∧ Own w' w.heap.size 5 1 v 32 (bs (b0f (x % m.M))) ∧ Fr Nob w w' := by
 have HK := qH hk
 have HOK := qH hk.ok
 clear hk
 have st0 := St.start Nob w
 go_enter Tryz.func51, Tryz.ntmps51
 go_wp2_with (with_reducible refine wSk 1 ?_)
 refine a0l st0 rfl rfl rfl (cw 4 (elN m x)) rfl ?_
 intro g1 w1 st1
 clear st0
 go_wp2_with fail
 refine wp_region_noPanic ?_
 refine a0p (fun wx => St Nob w wx [(g1, cw 4 (elN m x), 68)]) 5 (.w 1 (.t 2 (.r 0 (.r 3 (.r 4 (.m 5 .nil)))))) ap13 ap13 st1.drew (fun _ _ _ _ _ h => h) ?_
 have hd1 := st1.drew
 clear st1
 refine a0k rfl rfl apW ?_
 try simp only [clL]
 refine a0r rfl rfl rfl rfl (cw 4 (elN m x)) (fun wx hS => St.rangeL hS 0 rfl 0 _ dZl) Tryz.underlying66 rfl ap6 ?_
 try simp only [clL]
 refine a0y rfl rfl ?_
 go_simp
 refine (d0N m HK.out _).mono ?_
 rintro e' w2 ⟨gp, rfl, hle, hm, hf2⟩
 have st2 : St Nob w w2 [(g1, cw 4 (elN m x), 68), (gp, mdL m, 187)] := hd1.new hf2 hm hle
 clear hf2 hm hle
 clear hd1
 refine ⟨St.less st2 ap16, ?_⟩
 try simp only [clL]
 refine a0y rfl rfl ?_
 go_simp
 refine (f0l m gp _ HOK.out (st2.at 1 rfl) x).mono ?_
 rintro e' w3 ⟨rfl, hf3⟩
 have st3 := st2.keep hf3
 clear hf3
 clear st2
 refine ⟨St.less st3 ap16, ?_⟩
 try simp only [clL]
 refine a0y rfl rfl ?_
 go_simp
 refine (j0Z (x % m.M) _).mono ?_
 rintro e' w4 ⟨v, rfl, hown, hf4⟩
 have st4 := st3.keep hf4
 have HSZ := st3.fr.size
 obtain ⟨av, cv, hve, hcv, hrv, -⟩ := hown.form
 subst hve
 have HOWN := qH (hown.mono (HSZ))
 clear hown hrv
 clear hf4
 clear st3
 refine ⟨St.less st4 ap16, ?_⟩
 try simp only [clL]
 refine a0o rfl rfl ?_
 go_simp
 try simp only [clL]
 refine a0h ?_
 refine NoPanic.normal ?_
 have hfr := st4.fr
 clear st4
 go_wp2_with fail
 go_ret
 exact ⟨_, rfl, HOWN.out, hfr⟩
end Go.Proofs.YtemcankmggmgoaaGreat
