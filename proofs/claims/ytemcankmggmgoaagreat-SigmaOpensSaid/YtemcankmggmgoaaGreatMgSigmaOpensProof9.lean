/- ; ; ; ; ; ; ; ; ; ; ; ; ; ; ; ; ; ; ; ; ; ; ; ; ; ; ; ; . -/
import Derived.Test.YtemcankmggmgoaaGreatMgSigmaOpensProof8
import Derived.Test.YtemcankmggmgoaaGreatMgSigmaOpensProof6
import Derived.Test.YtemcankmggmgoaaGreatMgSigmaOpensProof1
import Derived.Test.YtemcankmggmgoaaGreatMgSigmaOpensProof7
import Derived.Test.YtemcankmggmgoaaGreatMgSigmaOpensProof5
import Derived.Test.YtemcankmggmgoaaGreatMgSigmaOpensProof2
import Derived.Test.YtemcankmggmgoaaGreatMgSigmaOpensProof4
import Derived.Lib.SlBytesConst
import Derived.ProofKit
import Derived.OpenShut
import Derived.Carry
set_option maxHeartbeats 16000000
set_option maxRecDepth 1000000

namespace Go.Proofs.YtemcankmggmgoaaGreat
section
open Go.RowKit Go.Mv Mvp Mvq
theorem x0n : beN [121, 190, 102, 126, 249, 220, 187, 172, 85, 160, 98, 149, 206, 135, 11, 7, 2, 155, 252, 219, 45, 206, 40, 217, 89, 242, 129, 91, 22, 248, 23, 152] = gXn := by decide
theorem D0V (w : World) : Calls Tryz.prog 173 #[.string ⟨#[121, 190, 102, 126, 249, 220, 187, 172, 85, 160, 98, 149, 206, 135, 11, 7, 2, 155, 252, 219, 45, 206, 40, 217, 89, 242, 129, 91, 22, 248, 23, 152]⟩] w fun e w' => e = .returned (i4 (kN (kc gXn))) ∧ Fr Nob w w' := by
 have h := y0a ⟨#[121, 190, 102, 126, 249, 220, 187, 172, 85, 160, 98, 149, 206, 135, 11, 7, 2, 155, 252, 219, 45, 206, 40, 217, 89, 242, 129, 91, 22, 248, 23, 152]⟩ w ap14
 have e : beN [121, 190, 102, 126, 249, 220, 187, 172, 85, 160, 98, 149, 206, 135, 11, 7, 2, 155, 252, 219, 45, 206, 40, 217, 89, 242, 129, 91, 22, 248, 23, 152] = kN (kc gXn) := by rw [x0n]; decide
 rw [← e]
 exact h
theorem p0d : gYn % fP = gYn ∧ gYn % 2 = 0 ∧ gYn < fP := by decide
theorem D0E : b0J fP (kN (kc gXn * kc gXn * kc gXn + 7)) = true ∧ kc (rtV fP (kN (kc gXn * kc gXn * kc gXn + 7))) = kc gYn := by
 have hb : kc gYn * kc gYn = kc gXn * kc gXn * kc gXn + 7 := o0O
 rw [← hb]
 have e : kN (kc gYn * kc gYn) = gYn * gYn % fP := by rw [← a0J, j0n]
 have fp : FP fP := by rw [← t0E]; exact D0c
 have h4 : fP % 4 = 3 := by decide
 have ho := t0I fp h4 p0d.2.2
 rw [e]
 refine ⟨ho, ?_⟩
 have hlt : gYn * gYn % fP < fP := Nat.mod_lt _ ap14
 have hsq := o0J fp hlt ho
 have hev := n0o fp (x := gYn * gYn % fP)
 have h2 := B0Q fp.prime p0d.2.2 (Nat.mod_lt (rtV fP (gYn * gYn % fP)) (by decide : 0 < fP)) (by rw [hsq])
 have hy := p0d.2.1
 rcases h2 with h2 | h2
 ·rw [← e0x, h2]
 ·exfalso
  have h3 : (fP - gYn) % fP = fP - gYn := by decide
  rw [h2, h3] at hev
  have h5 : (fP - gYn) % 2 = 1 := by decide
  omega
noncomputable def e0i : RT := C0o (kc gXn) (kc gYn) o0O
theorem x0o : e0i.pt = .A (kc gXn) (kc gYn) := l0O _ _ _
theorem A0r : e0i.L = rpL (kc gXn) (kc gYn) 1 := rfl
theorem D0W (w : World) : Calls Tryz.prog 141 #[i4 (kN (kc gXn))] w fun e w' => e = .returned (.tuple #[.agg e0i.L.toArray, .bool true]) ∧ Fr Nob w w' := by
 have h := C0p (kc gXn) _ _ _ rfl rfl rfl D0E.1 w
 rw [D0E.2] at h
 exact h
def x0p (b : Nat) : UInt8 := UInt8.ofNat (2 + b)
theorem y0t (b : Nat) (hb : b = 0 ∨ b = 1) : ([Value.int .u8 (2 + (b : Int))].flatMap fun v => v.cells.toList) = bs [x0p b] := by
 rcases hb with rfl | rfl <;> rfl
theorem x0q {T : TypeId} (_ : Tryz.prog.underlying T = some .string) (s t : ByteArray) (h : s.size + t.size ≤ 9223372036854775807) (w : World) : (binOp .add T (.string s) (.string t)).run Tryz.prog w = .ok (.string (s ++ t)) w := by
 have := h
 go_simp
theorem f0r {o : Oper} {a : Act} {p q : Operand} {T U : TypeId} {s t : ByteArray} {r : List UInt8} (ho : o.op = .binOp .add T p q U) (hp : a.eval p = .string s) (hq : a.eval q = .string t) (hT : Tryz.prog.underlying T = some .string) (h : s.size + t.size ≤ 1000000) (hr : s ++ t = mkS r) (w : World) :
  (execOp a.eval o).run Tryz.prog w = .ok (.value (.string (mkS r))) w := by
 have h2 := c0W (P := Tryz.prog) ho hp hq w (by go_simp) (x0q hT s t ap15 w)
 rwa [hr] at h2
theorem i0a {P : Program} {o : Oper} {a : Act} {x : Operand} {src dst e : TypeId} (ho : o.op = .convert src dst x) (hs : P.underlying src = some (.slice e)) (he : P.underlying e = some (.int .u8)) (hd : P.underlying dst = some .string) {sa : Option Addr} {m c : Nat} {l : List UInt8}
  (hx : a.eval x = .slice sa m c) {w : World} (h : RdB w sa m l) : (execOp a.eval o).run P w = .ok (.value (.string (mkS l))) w := by
 unfold execOp
 simp only [ho, hx, Sem.run_bind, d0B h c hs he hd, Result.andThen_ok, Sem.run_pure]
theorem p0e (l m : List UInt8) : mkS l ++ mkS m = mkS (l ++ m) := by
 apply ByteArray.ext
 simp [mkS]
theorem y0u : (List.replicate 33 (Value.int .u8 0)) = bs (List.replicate 33 0) := by rfl
attribute [local irreducible] a0C lw mix cw b0u b0B b0r a0N a0q beN b0G b0f b0C a0M a0S elN mdL a0Q rtV b0J kN kc c0v c0g d0r noR a0R g0b RT.L gXn gYn x0p
theorem D0F (w : World) : Calls Tryz.prog 127 #[] w fun e w' => e = .returned (.agg e0i.L.toArray) ∧ Fr Nob w w' := by
 have st0 := St.start Nob w
 go_enter Tryz.func127, Tryz.ntmps127
 go_wp2_with (with_reducible refine wSk 0 ?_)
 refine a0a st0 rfl rfl (z := zAc) ap13 (cw 12 0) ap11 ?_
 intro g0 w1 st1
 clear st0
 go_wp2_with fail
 refine (D0V _).mono ?_
 rintro e' w2 ⟨rfl, hf2⟩
 have st2 := st1.keep hf2
 clear st1 hf2
 go_wp2_with (with_reducible refine wSk 1 ?_)
 refine a0a st2 rfl rfl (z := zAd) ap13 (cw 4 0) ap11 ?_
 intro g1 w3 st3
 clear st2
 go_wp2_with (with_reducible refine wSn ?_)
 refine a0b st3 1 rfl rfl rfl rfl rfl ap12 ap13 (a0g _ _) ?_
 intro w4 st4
 clear st3
 go_wp2_with (with_reducible refine wSk 6 ?_)
 refine a0j st4 1 rfl rfl rfl Tryz.underlying60 rfl ap13 ?_
 go_wp2_with fail
 refine (D0W _).mono ?_
 rintro e' w5 ⟨rfl, hf5⟩
 have st5 := st4.keep hf5
 clear st4 hf5
 go_wp2_with (with_reducible refine wSk 2 ?_)
 refine a0a st5 rfl rfl (z := zAc) ap13 (cw 12 0) ap11 ?_
 intro g2 w6 st6
 clear st5
 go_wp2_with (with_reducible refine wSn ?_)
 refine a0b st6 2 rfl rfl rfl rfl rfl (by first | (simp [a0f]; done) | (simp [RT.len]; done) | (simp [a0f, RT.len]; done) | simp [a0f, RT.len]) ap13 (RT.one _) ?_
 intro w7 st7
 clear st6
 go_wp2_with (with_reducible refine wSk 10 ?_)
 refine a0n st7 2 rfl rfl rfl Tryz.underlying62 rfl rfl ap13 ?_
 go_wp2_with (with_reducible refine wSn ?_)
 refine a0b st7 0 rfl rfl rfl rfl rfl (by first | (simp [a0f]; done) | (simp [RT.len]; done) | (simp [a0f, RT.len]; done) | simp [a0f, RT.len]) ap13 (RT.one _) ?_
 intro w8 st8
 clear st7
 have hr := st8.at 0 rfl
 have hfr := st8.fr
 clear st8
 go_wp2_with fail
 exact bodyPost_ret (a0v rfl rfl hr Tryz.underlying62 rfl ap13) rfl ⟨rfl, hfr⟩
theorem r0K (x y z : K) (hb : decide (z = 0) = true) (w : World) : Calls Tryz.prog 45 #[rpV x y z] w fun e w' => e = .returned (.string (mkS (List.replicate 33 0))) ∧ Fr Nob w w' := by
 have HB := qH hb
 clear hb
 unfold rpV rpL
 have st0 := St.start Nob w
 go_enter Tryz.func45, Tryz.ntmps45
 go_wp2_with (with_reducible refine wSk 1 ?_)
 refine a0l st0 rfl rfl rfl (cw 4 (kN x) ++ (cw 4 (kN y) ++ cw 4 (kN z))) rfl ?_
 intro g1 w1 st1
 clear st0
 go_wp2_with (with_reducible refine wSk 7 ?_)
 refine a0n st1 0 rfl rfl rfl Tryz.underlying62 rfl rfl ap13 ?_
 go_wp2_with fail
 refine (b0S x y z true HB.out _).mono ?_
 rintro e' w2 ⟨rfl, hf2⟩
 have st2 := st1.keep hf2
 clear st1 hf2
 go_wp2_with (with_reducible refine wSk 10 ?_)
 refine b0V rfl rfl Tryz.underlying22 b0l rfl rfl rfl 33 33 ap16 ap16 ap15 ap15 ap10 ?_
 intro w3 hg2 hf2 hz2
 clear hz2
 have st3 := st2.new hf2 hg2 (Nat.le_refl _)
 clear st2 hg2 hf2
 rw [y0u] at st3
 go_wp2_with (with_reducible refine wSk 11 ?_)
 refine b0W rfl rfl Tryz.underlying22 Tryz.underlying5 Tryz.underlying9 rfl (l := List.replicate 33 0) (Rd.whole (st3.at 1 rfl)) ?_
 have hfr := st3.fr
 clear st3
 go_wp2_with fail
 go_ret
 exact ⟨rfl, hfr⟩
theorem r0L (x y z : K) (hb : decide (z = 0) = false) (i X Y : K) (ei : c0v z = i) (eX : x * i = X) (eY : y * i = Y) (w : World) : Calls Tryz.prog 45 #[rpV x y z] w fun e w' => e = .returned (.string (mkS (x0p (kN Y % 2) :: b0f (kN X)))) ∧ Fr Nob w w' := by
 have HB := qH hb
 clear hb
 have Hi := qH ei
 have HX := qH eX
 have HY := qH eY
 clear ei eX eY
 unfold rpV rpL
 have st0 := St.start Nob w
 go_enter Tryz.func45, Tryz.ntmps45
 go_wp2_with (with_reducible refine wSk 1 ?_)
 refine a0l st0 rfl rfl rfl (cw 4 (kN x) ++ (cw 4 (kN y) ++ cw 4 (kN z))) rfl ?_
 intro g1 w1 st1
 clear st0
 go_wp2_with (with_reducible refine wSk 7 ?_)
 refine a0n st1 0 rfl rfl rfl Tryz.underlying62 rfl rfl ap13 ?_
 go_wp2_with fail
 refine (b0S x y z false HB.out _).mono ?_
 rintro e' w2 ⟨rfl, hf2⟩
 have st2 := st1.keep hf2
 clear st1 hf2
 go_wp2_with fail
 refine wp_region_noPanic ?_
 refine a0e st2 5 [.o 4, .w 1, .t 2, .c 0, .c 3, .j 4] (.m 5 .nil) ap13 ap13 (fun _ _ _ _ _ h => h) ?_
 clear st2
 refine b0m rfl rfl rfl e0Q (cw 4 0) rfl ?_
 try simp only [clL]
 refine a0m rfl rfl apX ?_
 try simp only [clL]
 refine a0d rfl rfl rfl (fun _ => rfl) (cw 4 (kN z)) (fun wx hS => St.rangeL hS 0 rfl 8 _ (e0Y _ _ _)) Tryz.underlying60 rfl ap13 ?_
 try simp only [clL]
 refine a0c rfl rfl rfl Tryz.call112 (fun w hS hR => a0F _) (fun _ => rfl) ?_
 try simp only [clL]
 refine a0c rfl rfl rfl Tryz.call113 (fun w hS hR => D0U z i Hi.out _) (fun _ => rfl) ?_
 try simp only [clL]
 refine b0g List.mem_cons_self fun g4 => ?_
 simp only [upd, reduceIte]
 refine a0u fun xq w3 st3 hR => ?_
 try dsimp only
 clear hR xq
 refine a0o rfl rfl ?_
 refine a0i st3 1 rfl rfl rfl rfl ap12 ap13 (a0g _ _) ?_
 intro w4 st4
 repeat (first | simp only [List.cons_append] at st4 | simp only [List.nil_append] at st4 | simp only [List.set_cons_succ] at st4 | simp only [List.set_cons_zero] at st4)
 clear st3
 try simp only [Act.put]
 refine a0h ?_
 refine NoPanic.normal ?_
 go_wp2_with fail
 refine wp_region_noPanic ?_
 refine a0e st4 6 [.o 5, .w 1, .t 2, .t 3, .c 0, .c 4, .j 5] (.m 6 .nil) ap13 ap13 (fun _ _ _ _ _ h => h) ?_
 clear st4
 refine b0m rfl rfl rfl e0Q (cw 4 0) rfl ?_
 try simp only [clL]
 refine a0m rfl rfl apX ?_
 try simp only [clL]
 refine a0d rfl rfl rfl (fun _ => rfl) (cw 4 (kN x)) (fun wx hS => St.rangeL hS 0 rfl 0 _ (i0U _ _ _)) Tryz.underlying60 rfl ap13 ?_
 try simp only [clL]
 refine a0d rfl rfl rfl (fun _ => rfl) (cw 4 (kN i)) (fun wx hS => St.rangeL hS 1 rfl 0 _ dZl) Tryz.underlying60 rfl ap13 ?_
 try simp only [clL]
 refine a0c rfl rfl rfl Tryz.call112 (fun w hS hR => a0F _) (fun _ => rfl) ?_
 try simp only [clL]
 refine a0c rfl rfl rfl Tryz.call58 (fun w hS hR => d0S x i X HX.out _) (fun _ => rfl) ?_
 try simp only [clL]
 refine b0g List.mem_cons_self fun g5 => ?_
 simp only [upd, reduceIte]
 refine a0u fun xq w5 st5 hR => ?_
 try dsimp only
 clear hR xq
 refine a0o rfl rfl ?_
 refine a0i st5 2 rfl rfl rfl rfl ap12 ap13 (a0g _ _) ?_
 intro w6 st6
 repeat (first | simp only [List.cons_append] at st6 | simp only [List.nil_append] at st6 | simp only [List.set_cons_succ] at st6 | simp only [List.set_cons_zero] at st6)
 clear st5
 try simp only [Act.put]
 refine a0h ?_
 refine NoPanic.normal ?_
 go_wp2_with fail
 refine wp_region_noPanic ?_
 refine a0e st6 6 [.o 5, .w 1, .t 2, .t 3, .c 0, .c 4, .j 5] (.m 6 .nil) ap13 ap13 (fun _ _ _ _ _ h => h) ?_
 clear st6
 refine b0m rfl rfl rfl e0Q (cw 4 0) rfl ?_
 try simp only [clL]
 refine a0m rfl rfl apX ?_
 try simp only [clL]
 refine a0d rfl rfl rfl (fun _ => rfl) (cw 4 (kN y)) (fun wx hS => St.rangeL hS 0 rfl 4 _ (l0q _ _ _)) Tryz.underlying60 rfl ap13 ?_
 try simp only [clL]
 refine a0d rfl rfl rfl (fun _ => rfl) (cw 4 (kN i)) (fun wx hS => St.rangeL hS 1 rfl 0 _ dZl) Tryz.underlying60 rfl ap13 ?_
 try simp only [clL]
 refine a0c rfl rfl rfl Tryz.call112 (fun w hS hR => a0F _) (fun _ => rfl) ?_
 try simp only [clL]
 refine a0c rfl rfl rfl Tryz.call58 (fun w hS hR => d0S y i Y HY.out _) (fun _ => rfl) ?_
 try simp only [clL]
 refine b0g List.mem_cons_self fun g6 => ?_
 simp only [upd, reduceIte]
 refine a0u fun xq w7 st7 hR => ?_
 try dsimp only
 clear hR xq
 refine a0o rfl rfl ?_
 refine a0i st7 3 rfl rfl rfl rfl ap12 ap13 (a0g _ _) ?_
 intro w8 st8
 repeat (first | simp only [List.cons_append] at st8 | simp only [List.nil_append] at st8 | simp only [List.set_cons_succ] at st8 | simp only [List.set_cons_zero] at st8)
 clear st7
 try simp only [Act.put]
 refine a0h ?_
 refine NoPanic.normal ?_
 have ha := h0b (kN Y)
 have hb2 : kN Y % 2 = 0 ∨ kN Y % 2 = 1 := by omega
 generalize hbv : kN Y % 2 = b at *
 have HBV := qH hbv
 clear hbv
 have hw8 : IntKind.u8.wrap (b : Int) = (b : Int) := by rcases hb2 with rfl | rfl <;> decide
 have hw9 : IntKind.u8.wrap (2 + (b : Int)) = 2 + (b : Int) := by rcases hb2 with rfl | rfl <;> decide
 have HB2 := qH hb2
 clear hb2
 go_wp2_with fail
 refine wp_region_noPanic ?_
 refine a0p (fun wx => St Nob w wx [(g1, cw 4 (kN x) ++ (cw 4 (kN y) ++ cw 4 (kN z)), 62), (g4, cw 4 (kN i), 60), (g5, cw 4 (kN X), 60), (g6, cw 4 (kN Y), 60)]) 10 (.w 0 (.t 1 (.w 2 (.w 3 (.w 4 (.t 7 (.b 5 8 (.b 6 8 (.r 8 (.r 9 (.m 10 .nil))) (.r 6 (.r 9 (.m 10 .nil)))) (.r 5 (.r 6 (.r 9 (.m 10 .nil))))))))))) ap13 ap13 st8.drew (fun _ _ _ _ _ h => h) ?_
 have hd8 := st8.drew
 clear st8
 refine a0k rfl rfl apW ?_
 try simp only [clL]
 refine d0K (v := ?_) rfl rfl (fun wx hS => ?_) ?_
 rotate_left 1
 ·(have hc := (St.at hS 3 rfl).cell (a0D 4 (kN Y) 0 ap14); clear hS; go_simp; with_reducible rfl)
 try simp only [clL]
 iterate 3 (refine a0k rfl rfl apW ?_; try simp only [clL])
 refine a0r rfl rfl rfl rfl (cw 4 (kN X)) (fun wx hS => St.rangeL hS 2 rfl 0 _ dZl) Tryz.underlying60 rfl ap13 ?_
 try simp only [clL]
 refine e0v (C := fun g31 wz => St Nob w wz [(g1, cw 4 (kN x) ++ (cw 4 (kN y) ++ cw 4 (kN z)), 62), (g4, cw 4 (kN i), 60), (g5, cw 4 (kN X), 60), (g6, cw 4 (kN Y), 60), (g31, bs [x0p b], 5)]) (F := ?_) (fun key => ?_) ?_
 rotate_left 1
 ·skip
  refine d0L rfl rfl rfl rfl ?_ ?_
  ·skip
   refine u0F hd8 rfl Tryz.underlying22 b0l [.int .u8 (2 + (b : Int))] rfl (by simp [Value.cells]) rfl _ (y0t b HB2.out) ?_
   intro g31 w9 st9
   refine ⟨St.less st9 ap16, ?_⟩
   try simp only [clL]
   refine d0L rfl rfl rfl rfl ?_ ?_
   ·skip
    refine k0t (i0a rfl Tryz.underlying22 Tryz.underlying5 Tryz.underlying9 rfl (l := [x0p b]) (Rd.whole (st9.at 4 rfl))) ?_
    have st10 := st9
    refine ⟨St.less st10 ap16, ?_⟩
    try simp only [clL]
    refine a0y rfl rfl ?_
    go_simp
    refine (e0t (kN X) _).mono ?_
    rintro e' w11 ⟨rfl, hf11⟩
    have st11 := st10.keep hf11
    clear hf11
    refine ⟨St.less st11 ap16, ?_⟩
    try simp only [clL]
    refine a0y rfl rfl ?_
    refine k0t (f0r rfl rfl rfl Tryz.underlying9 (by rw [a0t, a0t, a0Y]; simp) (p0e _ _) _) ?_
    have st12 := st11
    refine ⟨St.less st12 ap16, ?_⟩
    try simp only [clL]
    refine a0o rfl rfl ?_
    go_simp
    try simp only [clL]
    refine a0h ?_
    exact key g31 _ st12
   ·skip
    go_simp
    refine (e0t (kN X) _).mono ?_
    rintro e' w13 ⟨rfl, hf13⟩
    have st13 := st9.keep hf13
    clear hf13
    refine ⟨St.less st13 ap16, ?_⟩
    try simp only [clL]
    refine a0y rfl rfl ?_
    refine k0t (i0a rfl Tryz.underlying22 Tryz.underlying5 Tryz.underlying9 rfl (l := [x0p b]) (Rd.whole (st13.at 4 rfl))) ?_
    have st14 := st13
    refine ⟨St.less st14 ap16, ?_⟩
    try simp only [clL]
    refine a0y rfl rfl ?_
    refine k0t (f0r rfl rfl rfl Tryz.underlying9 (by rw [a0t, a0t, a0Y]; simp) (p0e _ _) _) ?_
    have st15 := st14
    refine ⟨St.less st15 ap16, ?_⟩
    try simp only [clL]
    refine a0o rfl rfl ?_
    go_simp
    try simp only [clL]
    refine a0h ?_
    exact key g31 _ st15
  ·skip
   go_simp
   refine (e0t (kN X) _).mono ?_
   rintro e' w16 ⟨rfl, hf16⟩
   have st16 := hd8.keep hf16
   clear hf16
   refine ⟨st16, ?_⟩
   try simp only [clL]
   refine a0y rfl rfl ?_
   refine u0F st16 rfl Tryz.underlying22 b0l [.int .u8 (2 + (b : Int))] rfl (by simp [Value.cells]) rfl _ (y0t b HB2.out) ?_
   intro g31 w17 st17
   refine ⟨St.less st17 ap16, ?_⟩
   try simp only [clL]
   refine a0y rfl rfl ?_
   refine k0t (i0a rfl Tryz.underlying22 Tryz.underlying5 Tryz.underlying9 rfl (l := [x0p b]) (Rd.whole (st17.at 4 rfl))) ?_
   have st18 := st17
   refine ⟨St.less st18 ap16, ?_⟩
   try simp only [clL]
   refine a0y rfl rfl ?_
   refine k0t (f0r rfl rfl rfl Tryz.underlying9 (by rw [a0t, a0t, a0Y]; simp) (p0e _ _) _) ?_
   have st19 := st18
   refine ⟨St.less st19 ap16, ?_⟩
   try simp only [clL]
   refine a0o rfl rfl ?_
   go_simp
   try simp only [clL]
   refine a0h ?_
   exact key g31 _ st19
 intro g31 w20 st20
 have st20 : St Nob w w20 [(g1, cw 4 (kN x) ++ (cw 4 (kN y) ++ cw 4 (kN z)), 62), (g4, cw 4 (kN i), 60), (g5, cw 4 (kN X), 60), (g6, cw 4 (kN Y), 60), (g31, bs [x0p b], 5)] := st20
 clear hd8
 refine NoPanic.normal ?_
 have hfr := st20.fr
 clear st20
 go_wp2_with fail
 go_ret
 exact ⟨by rw [HBV.out]; rfl, hfr⟩
end
section
open Go.RowKit Go.Mv Mvp Mvq
theorem C0q (x y : K) : c0g (.A x y) = x0p (kN y % 2) :: b0f (kN x) := rfl
theorem k0u (s : RT) (w : World) : Calls Tryz.prog 45 #[.agg s.L.toArray] w fun e w' => e = .returned (.string (mkS (c0g s.pt))) ∧ Fr Nob w w' := by
 cases h : s.isO
 ·have hz : s.z ≠ 0 := by simpa [RT.isO] using h
  have h2 : s.pt = .A (s.x * c0v s.z) (s.y * c0v s.z) := n0j hz
  rw [h2, C0q]
  exact r0L s.x s.y s.z h _ _ _ rfl rfl rfl w
 ·rw [RT.isO_t h]
  exact r0K s.x s.y s.z h w
end
section
open Go.RowKit Go.Mv Mvp Mvq
theorem d0T {o : Oper} {a : Act} {p q : Operand} {T U : TypeId} {s t : ByteArray} (ho : o.op = .binOp .eql T p q U) (hp : a.eval p = .string s) (hq : a.eval q = .string t) {b : Bool} (hb : decide (s = t) = b) (w : World) :
  (execOp a.eval o).run Tryz.prog w = .ok (.value (.bool b)) w := by
 subst hb
 exact c0W ho hp hq w (by go_simp) (by
  go_simp
  rw [Bool.eq_iff_iff, beq_iff_eq, decide_eq_true_eq, f0R, f0R]
  exact ⟨fun h => ByteArray.ext (Array.toList_inj.1 h), fun h => by rw [h]⟩)
attribute [local irreducible] a0C lw mix cw b0u b0B b0r a0N a0q beN b0G b0f b0C a0M a0S elN mdL a0Q rtV b0J kN kc c0v c0g d0r noR a0R g0b RT.L gXn gYn
theorem r0M (s : ByteArray) (hz : decide (s = (mkS (List.replicate 33 0))) = true) (w : World) : Calls Tryz.prog 77 #[.string s] w fun e w' => e = .returned (.tuple #[.agg noR.L.toArray, .bool true]) ∧ Fr Nob w w' := by
 have HZ := qH hz
 clear hz
 have st0 := St.start Nob w
 go_enter Tryz.func77, Tryz.ntmps77
 go_wp2_with (with_reducible refine wSk 2 ?_)
 refine a0a st0 rfl rfl (z := zAc) ap13 (cw 12 0) ap11 ?_
 intro g2 w1 st1
 clear st0
 go_wp2_with (with_reducible refine wSk 8 ?_)
 refine b0V rfl rfl Tryz.underlying22 b0l rfl rfl rfl 33 33 ap16 ap16 ap15 ap15 ap10 ?_
 intro w2 hg2 hf2 hz2
 clear hz2
 have st2 := st1.new hf2 hg2 (Nat.le_refl _)
 clear st1 hg2 hf2
 rw [y0u] at st2
 go_wp2_with (with_reducible refine wSk 9 ?_)
 refine b0W rfl rfl Tryz.underlying22 Tryz.underlying5 Tryz.underlying9 rfl (l := List.replicate 33 0) (Rd.whole (st2.at 1 rfl)) ?_
 have st3 := st2.less (List.sublist_append_left _ _)
 clear st2
 go_wp2_with (with_reducible refine wSk 10 ?_)
 refine c0C rfl (d0T rfl rfl rfl HZ.out _) ?_
 go_wp2_with fail
 refine (u0B _).mono ?_
 rintro e' w4 ⟨rfl, hf4⟩
 have st4 := st3.keep hf4
 clear st3 hf4
 go_wp2_with (with_reducible refine wSn ?_)
 refine a0b st4 0 rfl rfl rfl rfl rfl (by first | (simp [a0f]; done) | (simp [RT.len]; done) | (simp [a0f, RT.len]; done) | simp [a0f, RT.len]) ap13 (RT.one _) ?_
 intro w5 st5
 clear st4
 have hr := st5.at 0 rfl
 have hfr := st5.fr
 clear st5
 go_wp2_with fail
 exact bodyPost_ret (a0P rfl rfl hr Tryz.underlying62 rfl ap13 rfl) rfl ⟨rfl, hfr⟩
theorem u0G (s : ByteArray) (hz : decide (s = (mkS (List.replicate 33 0))) = false) (hl : ((s.size : Int) != 33) = true) (w : World) : Calls Tryz.prog 77 #[.string s] w fun e w' => e = .returned (.tuple #[rpV 0 0 0, .bool false]) ∧ Fr Nob w w' := by
 have HZ := qH hz
 clear hz
 have st0 := St.start Nob w
 go_enter Tryz.func77, Tryz.ntmps77
 go_wp2_with (with_reducible refine wSk 2 ?_)
 refine a0a st0 rfl rfl (z := zAc) ap13 (cw 12 0) ap11 ?_
 intro g2 w1 st1
 clear st0
 go_wp2_with (with_reducible refine wSk 8 ?_)
 refine b0V rfl rfl Tryz.underlying22 b0l rfl rfl rfl 33 33 ap16 ap16 ap15 ap15 ap10 ?_
 intro w2 hg2 hf2 hz2
 clear hz2
 have st2 := st1.new hf2 hg2 (Nat.le_refl _)
 clear st1 hg2 hf2
 rw [y0u] at st2
 go_wp2_with (with_reducible refine wSk 9 ?_)
 refine b0W rfl rfl Tryz.underlying22 Tryz.underlying5 Tryz.underlying9 rfl (l := List.replicate 33 0) (Rd.whole (st2.at 1 rfl)) ?_
 have st3 := st2.less (List.sublist_append_left _ _)
 clear st2
 go_wp2_with (with_reducible refine wSk 10 ?_)
 refine c0C rfl (d0T rfl rfl rfl HZ.out _) ?_
 go_wp2_with (with_reducible refine wSk 25 ?_)
 refine b0n rfl rfl _ g0R ?_
 go_wp2_with (with_reducible refine wSn ?_)
 refine a0b st3 0 rfl rfl rfl rfl rfl ap12 ap13 (a0V _ _ _) ?_
 intro w4 st4
 clear st3
 have hr := st4.at 0 rfl
 have hfr := st4.fr
 clear st4
 go_wp2_with fail
 exact bodyPost_ret (a0P rfl rfl hr Tryz.underlying62 rfl ap13 rfl) rfl ⟨by unfold rpV rpL; rw [j0o]; rfl, hfr⟩
theorem k0v (s : ByteArray) (hz : decide (s = (mkS (List.replicate 33 0))) = false) (hl : s.size = 33) (q : Nat) (hb : ∀ h : 0 < s.size, ((s[0]'h).toNat : Int) = (q : Int)) (h2 : ((q : Int) != 2) = true) (h3 : ((q : Int) != 3) = true) (w : World) : Calls Tryz.prog 77 #[.string s] w fun e w' => e = .returned (.tuple #[rpV 0 0 0, .bool false]) ∧ Fr Nob w w' := by
 have HZ := qH hz
 clear hz
 have hl33 : ((s.size : Int) != 33) = false := by rw [hl]; rfl
 have h0 : (0 : Int) < (s.size : Int) := by omega
 have h00 : 0 < s.size := by omega
 have h1 : (1 : Int) ≤ (s.size : Int) := by omega
 have hb0 := hb h00
 clear hl hb
 have st0 := St.start Nob w
 go_enter Tryz.func77, Tryz.ntmps77
 go_wp2_with (with_reducible refine wSk 2 ?_)
 refine a0a st0 rfl rfl (z := zAc) ap13 (cw 12 0) ap11 ?_
 intro g2 w1 st1
 clear st0
 go_wp2_with (with_reducible refine wSk 8 ?_)
 refine b0V rfl rfl Tryz.underlying22 b0l rfl rfl rfl 33 33 ap16 ap16 ap15 ap15 ap10 ?_
 intro w2 hg2 hf2 hz2
 clear hz2
 have st2 := st1.new hf2 hg2 (Nat.le_refl _)
 clear st1 hg2 hf2
 rw [y0u] at st2
 go_wp2_with (with_reducible refine wSk 9 ?_)
 refine b0W rfl rfl Tryz.underlying22 Tryz.underlying5 Tryz.underlying9 rfl (l := List.replicate 33 0) (Rd.whole (st2.at 1 rfl)) ?_
 have st3 := st2.less (List.sublist_append_left _ _)
 clear st2
 go_wp2_with (with_reducible refine wSk 10 ?_)
 refine c0C rfl (d0T rfl rfl rfl HZ.out _) ?_
 go_wp2_with (with_reducible refine wSk 25 ?_)
 refine b0n rfl rfl _ g0R ?_
 go_wp2_with (with_reducible refine wSn ?_)
 refine a0b st3 0 rfl rfl rfl rfl rfl ap12 ap13 (a0V _ _ _) ?_
 intro w4 st4
 clear st3
 have hr := st4.at 0 rfl
 have hfr := st4.fr
 clear st4
 go_wp2_with fail
 exact bodyPost_ret (a0P rfl rfl hr Tryz.underlying62 rfl ap13 rfl) rfl ⟨by unfold rpV rpL; rw [j0o]; rfl, hfr⟩
theorem r0N (s : ByteArray) (hz : decide (s = (mkS (List.replicate 33 0))) = false) (hl : s.size = 33) (hb : ∀ h : 0 < s.size, ((s[0]'h).toNat : Int) = 2) (hn : ∀ wx, Calls Tryz.prog 122 #[fv mP.M, .string (s.extract 1 s.size)] wx fun e w' => ∃ N : Nat, e = .returned (.tuple #[i4 N, .bool false]) ∧ True ∧ Fr Nob wx w') (w : World) : Calls Tryz.prog 77 #[.string s] w fun e w' => e = .returned (.tuple #[rpV 0 0 0, .bool false]) ∧ Fr Nob w w' := by
 have HZ := qH hz
 clear hz
 have hl33 : ((s.size : Int) != 33) = false := by rw [hl]; rfl
 have h0 : (0 : Int) < (s.size : Int) := by omega
 have h00 : 0 < s.size := by omega
 have h1 : (1 : Int) ≤ (s.size : Int) := by omega
 have hb0 := hb h00
 clear hl hb
 have HN := qH hn
 clear hn
 have st0 := St.start Nob w
 go_enter Tryz.func77, Tryz.ntmps77
 go_wp2_with (with_reducible refine wSk 2 ?_)
 refine a0a st0 rfl rfl (z := zAc) ap13 (cw 12 0) ap11 ?_
 intro g2 w1 st1
 clear st0
 go_wp2_with (with_reducible refine wSk 8 ?_)
 refine b0V rfl rfl Tryz.underlying22 b0l rfl rfl rfl 33 33 ap16 ap16 ap15 ap15 ap10 ?_
 intro w2 hg2 hf2 hz2
 clear hz2
 have st2 := st1.new hf2 hg2 (Nat.le_refl _)
 clear st1 hg2 hf2
 rw [y0u] at st2
 go_wp2_with (with_reducible refine wSk 9 ?_)
 refine b0W rfl rfl Tryz.underlying22 Tryz.underlying5 Tryz.underlying9 rfl (l := List.replicate 33 0) (Rd.whole (st2.at 1 rfl)) ?_
 have st3 := st2.less (List.sublist_append_left _ _)
 clear st2
 go_wp2_with (with_reducible refine wSk 10 ?_)
 refine c0C rfl (d0T rfl rfl rfl HZ.out _) ?_
 go_wp2_with fail
 refine wp_region_noPanic ?_
 refine a0e st3 9 [.o 7, .w 1, .w 2, .c 0, .c 3, .w 4, .w 5, .w 6, .j 7] (.r 8 (.m 9 .nil)) ap13 ap13 (fun _ _ _ _ _ h => h) ?_
 clear st3
 refine b0m rfl rfl rfl e0Q (cw 4 0) rfl ?_
 try simp only [clL]
 iterate 2 (refine a0m rfl rfl apX ?_; try simp only [clL])
 refine a0c rfl rfl rfl Tryz.call112 (fun w hS hR => a0F _) (fun _ => rfl) ?_
 try simp only [clL]
 refine b0h (X := Nat) (fun N => .tuple #[i4 N, .bool false]) (fun _ _ => True) (fun _ _ _ _ _ => trivial) rfl rfl rfl Tryz.call122 (fun w hS hR => HN.out _) (fun _ => rfl) fun N => ?_
 try simp only [clL]
 iterate 3 (refine a0m rfl rfl apX ?_; try simp only [clL])
 refine b0g List.mem_cons_self fun g4 => ?_
 simp only [upd, reduceIte]
 refine a0u fun xq w4 st4 hR => ?_
 try dsimp only
 clear hR xq
 refine a0y rfl rfl ?_
 refine a0i st4 1 rfl rfl rfl rfl ap12 ap13 (a0g _ _) ?_
 intro w5 st5
 repeat (first | simp only [List.cons_append] at st5 | simp only [List.nil_append] at st5 | simp only [List.set_cons_succ] at st5 | simp only [List.set_cons_zero] at st5)
 clear st4
 refine ⟨by first | exact st5 | exact St.less st5 ap16, ?_⟩
 try simp only [Act.put]
 refine a0o rfl rfl ?_
 go_simp
 try simp only [clL]
 refine a0h ?_
 refine NoPanic.normal ?_
 go_wp2_with (with_reducible refine wSk 35 ?_)
 refine b0n rfl rfl _ g0R ?_
 go_wp2_with (with_reducible refine wSn ?_)
 refine a0b st5 0 rfl rfl rfl rfl rfl ap12 ap13 (a0V _ _ _) ?_
 intro w6 st6
 clear st5
 have hr := st6.at 0 rfl
 have hfr := st6.fr
 clear st6
 go_wp2_with fail
 exact bodyPost_ret (a0P rfl rfl hr Tryz.underlying62 rfl ap13 rfl) rfl ⟨by unfold rpV rpL; rw [j0o]; rfl, hfr⟩
theorem n0z (s : ByteArray) (hz : decide (s = (mkS (List.replicate 33 0))) = false) (hl : s.size = 33) (hb : ∀ h : 0 < s.size, ((s[0]'h).toNat : Int) = 2) (X Y : K) (b : Bool) (hn : ∀ wx, Calls Tryz.prog 122 #[fv mP.M, .string (s.extract 1 s.size)] wx fun e w' => e = .returned (.tuple #[i4 (kN X), .bool true]) ∧ Fr Nob wx w') (ha : ∀ wx, Calls Tryz.prog 141 #[i4 (kN X)] wx fun e w' => e = .returned (.tuple #[rpV X Y 1, .bool b]) ∧ Fr Nob wx w') (w : World) : Calls Tryz.prog 77 #[.string s] w fun e w' => e = .returned (.tuple #[rpV X Y 1, .bool b]) ∧ Fr Nob w w' := by
 have HZ := qH hz
 clear hz
 have hl33 : ((s.size : Int) != 33) = false := by rw [hl]; rfl
 have h0 : (0 : Int) < (s.size : Int) := by omega
 have h00 : 0 < s.size := by omega
 have h1 : (1 : Int) ≤ (s.size : Int) := by omega
 have hb0 := hb h00
 clear hl hb
 have HN := qH hn
 unfold rpV rpL at ha
 have HAT := qH ha
 clear hn ha
 unfold rpV rpL
 have st0 := St.start Nob w
 go_enter Tryz.func77, Tryz.ntmps77
 go_wp2_with (with_reducible refine wSk 2 ?_)
 refine a0a st0 rfl rfl (z := zAc) ap13 (cw 12 0) ap11 ?_
 intro g2 w1 st1
 clear st0
 go_wp2_with (with_reducible refine wSk 8 ?_)
 refine b0V rfl rfl Tryz.underlying22 b0l rfl rfl rfl 33 33 ap16 ap16 ap15 ap15 ap10 ?_
 intro w2 hg2 hf2 hz2
 clear hz2
 have st2 := st1.new hf2 hg2 (Nat.le_refl _)
 clear st1 hg2 hf2
 rw [y0u] at st2
 go_wp2_with (with_reducible refine wSk 9 ?_)
 refine b0W rfl rfl Tryz.underlying22 Tryz.underlying5 Tryz.underlying9 rfl (l := List.replicate 33 0) (Rd.whole (st2.at 1 rfl)) ?_
 have st3 := st2.less (List.sublist_append_left _ _)
 clear st2
 go_wp2_with (with_reducible refine wSk 10 ?_)
 refine c0C rfl (d0T rfl rfl rfl HZ.out _) ?_
 go_wp2_with fail
 refine wp_region_noPanic ?_
 refine a0e st3 9 [.o 7, .w 1, .w 2, .c 0, .c 3, .w 4, .w 5, .w 6, .j 7] (.r 8 (.m 9 .nil)) ap13 ap13 (fun _ _ _ _ _ h => h) ?_
 clear st3
 refine b0m rfl rfl rfl e0Q (cw 4 0) rfl ?_
 try simp only [clL]
 iterate 2 (refine a0m rfl rfl apX ?_; try simp only [clL])
 refine a0c rfl rfl rfl Tryz.call112 (fun w hS hR => a0F _) (fun _ => rfl) ?_
 try simp only [clL]
 refine a0c rfl rfl rfl Tryz.call122 (fun w hS hR => HN.out _) (fun _ => rfl) ?_
 try simp only [clL]
 iterate 3 (refine a0m rfl rfl apX ?_; try simp only [clL])
 refine b0g List.mem_cons_self fun g4 => ?_
 simp only [upd, reduceIte]
 refine a0u fun xq w4 st4 hR => ?_
 try dsimp only
 clear hR xq
 refine a0y rfl rfl ?_
 refine a0i st4 1 rfl rfl rfl rfl ap12 ap13 (a0g _ _) ?_
 intro w5 st5
 repeat (first | simp only [List.cons_append] at st5 | simp only [List.nil_append] at st5 | simp only [List.set_cons_succ] at st5 | simp only [List.set_cons_zero] at st5)
 clear st4
 refine ⟨by first | exact st5 | exact St.less st5 ap16, ?_⟩
 try simp only [Act.put]
 refine a0o rfl rfl ?_
 go_simp
 try simp only [clL]
 refine a0h ?_
 refine NoPanic.normal ?_
 go_wp2_with (with_reducible refine wSk 37 ?_)
 refine a0j st5 1 rfl rfl rfl Tryz.underlying60 rfl ap13 ?_
 go_wp2_with fail
 refine (HAT.out _).mono ?_
 rintro e' w6 ⟨rfl, hf6⟩
 have st6 := st5.keep hf6
 clear st5 hf6
 go_wp2_with (with_reducible refine wSk 6 ?_)
 refine a0a st6 rfl rfl (z := zAc) ap13 (cw 12 0) ap11 ?_
 intro g6 w7 st7
 clear st6
 go_wp2_with (with_reducible refine wSn ?_)
 refine a0b st7 2 rfl rfl rfl rfl rfl ap12 ap13 (a0V _ _ _) ?_
 intro w8 st8
 clear st7
 go_wp2_with (with_reducible refine wSk 46 ?_)
 refine a0n st8 2 rfl rfl rfl Tryz.underlying62 rfl rfl ap13 ?_
 go_wp2_with (with_reducible refine wSn ?_)
 refine a0b st8 0 rfl rfl rfl rfl rfl ap12 ap13 (a0V _ _ _) ?_
 intro w9 st9
 clear st8
 have hr := st9.at 0 rfl
 have hfr := st9.fr
 clear st9
 go_wp2_with fail
 exact bodyPost_ret (a0P rfl rfl hr Tryz.underlying62 rfl ap13 rfl) rfl ⟨rfl, hfr⟩
theorem C0r (x y z : K) (w : World) : Calls Tryz.prog 82 #[.agg (cw 4 (kN x) ++ (cw 4 (kN y) ++ cw 4 (kN z))).toArray] w fun e w' => e = .returned (.agg (cw 4 (kN x) ++ (cw 4 (kN (-y)) ++ cw 4 (kN z))).toArray) ∧ Fr Nob w w' := x0k x y z _ rfl w
theorem r0O (s : ByteArray) (hz : decide (s = (mkS (List.replicate 33 0))) = false) (hl : s.size = 33) (hb : ∀ h : 0 < s.size, ((s[0]'h).toNat : Int) = 3) (hn : ∀ wx, Calls Tryz.prog 122 #[fv mP.M, .string (s.extract 1 s.size)] wx fun e w' => ∃ N : Nat, e = .returned (.tuple #[i4 N, .bool false]) ∧ True ∧ Fr Nob wx w') (w : World) : Calls Tryz.prog 77 #[.string s] w fun e w' => e = .returned (.tuple #[rpV 0 0 0, .bool false]) ∧ Fr Nob w w' := by
 have HZ := qH hz
 clear hz
 have hl33 : ((s.size : Int) != 33) = false := by rw [hl]; rfl
 have h0 : (0 : Int) < (s.size : Int) := by omega
 have h00 : 0 < s.size := by omega
 have h1 : (1 : Int) ≤ (s.size : Int) := by omega
 have hb0 := hb h00
 clear hl hb
 have HN := qH hn
 clear hn
 have st0 := St.start Nob w
 go_enter Tryz.func77, Tryz.ntmps77
 go_wp2_with (with_reducible refine wSk 2 ?_)
 refine a0a st0 rfl rfl (z := zAc) ap13 (cw 12 0) ap11 ?_
 intro g2 w1 st1
 clear st0
 go_wp2_with (with_reducible refine wSk 8 ?_)
 refine b0V rfl rfl Tryz.underlying22 b0l rfl rfl rfl 33 33 ap16 ap16 ap15 ap15 ap10 ?_
 intro w2 hg2 hf2 hz2
 clear hz2
 have st2 := st1.new hf2 hg2 (Nat.le_refl _)
 clear st1 hg2 hf2
 rw [y0u] at st2
 go_wp2_with (with_reducible refine wSk 9 ?_)
 refine b0W rfl rfl Tryz.underlying22 Tryz.underlying5 Tryz.underlying9 rfl (l := List.replicate 33 0) (Rd.whole (st2.at 1 rfl)) ?_
 have st3 := st2.less (List.sublist_append_left _ _)
 clear st2
 go_wp2_with (with_reducible refine wSk 10 ?_)
 refine c0C rfl (d0T rfl rfl rfl HZ.out _) ?_
 go_wp2_with fail
 refine wp_region_noPanic ?_
 refine a0e st3 9 [.o 7, .w 1, .w 2, .c 0, .c 3, .w 4, .w 5, .w 6, .j 7] (.r 8 (.m 9 .nil)) ap13 ap13 (fun _ _ _ _ _ h => h) ?_
 clear st3
 refine b0m rfl rfl rfl e0Q (cw 4 0) rfl ?_
 try simp only [clL]
 iterate 2 (refine a0m rfl rfl apX ?_; try simp only [clL])
 refine a0c rfl rfl rfl Tryz.call112 (fun w hS hR => a0F _) (fun _ => rfl) ?_
 try simp only [clL]
 refine b0h (X := Nat) (fun N => .tuple #[i4 N, .bool false]) (fun _ _ => True) (fun _ _ _ _ _ => trivial) rfl rfl rfl Tryz.call122 (fun w hS hR => HN.out _) (fun _ => rfl) fun N => ?_
 try simp only [clL]
 iterate 3 (refine a0m rfl rfl apX ?_; try simp only [clL])
 refine b0g List.mem_cons_self fun g4 => ?_
 simp only [upd, reduceIte]
 refine a0u fun xq w4 st4 hR => ?_
 try dsimp only
 clear hR xq
 refine a0y rfl rfl ?_
 refine a0i st4 1 rfl rfl rfl rfl ap12 ap13 (a0g _ _) ?_
 intro w5 st5
 repeat (first | simp only [List.cons_append] at st5 | simp only [List.nil_append] at st5 | simp only [List.set_cons_succ] at st5 | simp only [List.set_cons_zero] at st5)
 clear st4
 refine ⟨by first | exact st5 | exact St.less st5 ap16, ?_⟩
 try simp only [Act.put]
 refine a0o rfl rfl ?_
 go_simp
 try simp only [clL]
 refine a0h ?_
 refine NoPanic.normal ?_
 go_wp2_with (with_reducible refine wSk 35 ?_)
 refine b0n rfl rfl _ g0R ?_
 go_wp2_with (with_reducible refine wSn ?_)
 refine a0b st5 0 rfl rfl rfl rfl rfl ap12 ap13 (a0V _ _ _) ?_
 intro w6 st6
 clear st5
 have hr := st6.at 0 rfl
 have hfr := st6.fr
 clear st6
 go_wp2_with fail
 exact bodyPost_ret (a0P rfl rfl hr Tryz.underlying62 rfl ap13 rfl) rfl ⟨by unfold rpV rpL; rw [j0o]; rfl, hfr⟩
theorem n0A (s : ByteArray) (hz : decide (s = (mkS (List.replicate 33 0))) = false) (hl : s.size = 33) (hb : ∀ h : 0 < s.size, ((s[0]'h).toNat : Int) = 3) (X Y : K) (b : Bool) (hn : ∀ wx, Calls Tryz.prog 122 #[fv mP.M, .string (s.extract 1 s.size)] wx fun e w' => e = .returned (.tuple #[i4 (kN X), .bool true]) ∧ Fr Nob wx w') (ha : ∀ wx, Calls Tryz.prog 141 #[i4 (kN X)] wx fun e w' => e = .returned (.tuple #[rpV X Y 1, .bool b]) ∧ Fr Nob wx w') (w : World) : Calls Tryz.prog 77 #[.string s] w fun e w' => e = .returned (.tuple #[rpV X (-Y) 1, .bool b]) ∧ Fr Nob w w' := by
 have HZ := qH hz
 clear hz
 have hl33 : ((s.size : Int) != 33) = false := by rw [hl]; rfl
 have h0 : (0 : Int) < (s.size : Int) := by omega
 have h00 : 0 < s.size := by omega
 have h1 : (1 : Int) ≤ (s.size : Int) := by omega
 have hb0 := hb h00
 clear hl hb
 have HN := qH hn
 unfold rpV rpL at ha
 have HAT := qH ha
 clear hn ha
 unfold rpV rpL
 have st0 := St.start Nob w
 go_enter Tryz.func77, Tryz.ntmps77
 go_wp2_with (with_reducible refine wSk 2 ?_)
 refine a0a st0 rfl rfl (z := zAc) ap13 (cw 12 0) ap11 ?_
 intro g2 w1 st1
 clear st0
 go_wp2_with (with_reducible refine wSk 8 ?_)
 refine b0V rfl rfl Tryz.underlying22 b0l rfl rfl rfl 33 33 ap16 ap16 ap15 ap15 ap10 ?_
 intro w2 hg2 hf2 hz2
 clear hz2
 have st2 := st1.new hf2 hg2 (Nat.le_refl _)
 clear st1 hg2 hf2
 rw [y0u] at st2
 go_wp2_with (with_reducible refine wSk 9 ?_)
 refine b0W rfl rfl Tryz.underlying22 Tryz.underlying5 Tryz.underlying9 rfl (l := List.replicate 33 0) (Rd.whole (st2.at 1 rfl)) ?_
 have st3 := st2.less (List.sublist_append_left _ _)
 clear st2
 go_wp2_with (with_reducible refine wSk 10 ?_)
 refine c0C rfl (d0T rfl rfl rfl HZ.out _) ?_
 go_wp2_with fail
 refine wp_region_noPanic ?_
 refine a0e st3 9 [.o 7, .w 1, .w 2, .c 0, .c 3, .w 4, .w 5, .w 6, .j 7] (.r 8 (.m 9 .nil)) ap13 ap13 (fun _ _ _ _ _ h => h) ?_
 clear st3
 refine b0m rfl rfl rfl e0Q (cw 4 0) rfl ?_
 try simp only [clL]
 iterate 2 (refine a0m rfl rfl apX ?_; try simp only [clL])
 refine a0c rfl rfl rfl Tryz.call112 (fun w hS hR => a0F _) (fun _ => rfl) ?_
 try simp only [clL]
 refine a0c rfl rfl rfl Tryz.call122 (fun w hS hR => HN.out _) (fun _ => rfl) ?_
 try simp only [clL]
 iterate 3 (refine a0m rfl rfl apX ?_; try simp only [clL])
 refine b0g List.mem_cons_self fun g4 => ?_
 simp only [upd, reduceIte]
 refine a0u fun xq w4 st4 hR => ?_
 try dsimp only
 clear hR xq
 refine a0y rfl rfl ?_
 refine a0i st4 1 rfl rfl rfl rfl ap12 ap13 (a0g _ _) ?_
 intro w5 st5
 repeat (first | simp only [List.cons_append] at st5 | simp only [List.nil_append] at st5 | simp only [List.set_cons_succ] at st5 | simp only [List.set_cons_zero] at st5)
 clear st4
 refine ⟨by first | exact st5 | exact St.less st5 ap16, ?_⟩
 try simp only [Act.put]
 refine a0o rfl rfl ?_
 go_simp
 try simp only [clL]
 refine a0h ?_
 refine NoPanic.normal ?_
 go_wp2_with (with_reducible refine wSk 37 ?_)
 refine a0j st5 1 rfl rfl rfl Tryz.underlying60 rfl ap13 ?_
 go_wp2_with fail
 refine (HAT.out _).mono ?_
 rintro e' w6 ⟨rfl, hf6⟩
 have st6 := st5.keep hf6
 clear st5 hf6
 go_wp2_with (with_reducible refine wSk 6 ?_)
 refine a0a st6 rfl rfl (z := zAc) ap13 (cw 12 0) ap11 ?_
 intro g6 w7 st7
 clear st6
 go_wp2_with (with_reducible refine wSn ?_)
 refine a0b st7 2 rfl rfl rfl rfl rfl ap12 ap13 (a0V _ _ _) ?_
 intro w8 st8
 clear st7
 go_wp2_with (with_reducible refine wSk 44 ?_)
 refine a0n st8 2 rfl rfl rfl Tryz.underlying62 rfl rfl ap13 ?_
 go_wp2_with fail
 refine (C0r X Y 1 _).mono ?_
 rintro e' w9 ⟨rfl, hf9⟩
 have st9 := st8.keep hf9
 clear st8 hf9
 go_wp2_with (with_reducible refine wSn ?_)
 refine a0b st9 2 rfl rfl rfl rfl rfl ap12 ap13 (a0V _ _ _) ?_
 intro w10 st10
 clear st9
 go_wp2_with (with_reducible refine wSk 46 ?_)
 refine a0n st10 2 rfl rfl rfl Tryz.underlying62 rfl rfl ap13 ?_
 go_wp2_with (with_reducible refine wSn ?_)
 refine a0b st10 0 rfl rfl rfl rfl rfl ap12 ap13 (a0V _ _ _) ?_
 intro w11 st11
 clear st10
 have hr := st11.at 0 rfl
 have hfr := st11.fr
 clear st11
 go_wp2_with fail
 exact bodyPost_ret (a0P rfl rfl hr Tryz.underlying62 rfl ap13 rfl) rfl ⟨rfl, hfr⟩
end
section
open Go.RowKit Go.Mv Mvp Mvq
theorem u0H (l : List UInt8) (a : Nat) : l.foldl (fun a x => a * 256 + x.toNat) a = a * 256 ^ l.length + beN l := by
 unfold beN
 induction l generalizing a with
 | nil => simp
 | cons x l ih =>
  rw [List.foldl_cons, List.foldl_cons, ih, ih (0 * 256 + x.toNat), List.length_cons, Nat.pow_succ]
  rw [Nat.zero_mul, Nat.zero_add, Nat.add_mul, Nat.mul_assoc, Nat.mul_comm 256]
  omega
theorem beN_cons (x : UInt8) (l : List UInt8) : beN (x :: l) = x.toNat * 256 ^ l.length + beN l := by
 have h := u0H l (0 * 256 + x.toNat)
 rw [Nat.zero_mul, Nat.zero_add] at h
 show List.foldl _ 0 (x :: l) = _
 rw [List.foldl_cons, Nat.zero_mul, Nat.zero_add]
 exact h
theorem beN_zero : ∀ l : List UInt8, beN l = 0 → l = List.replicate l.length 0
 | [], _ => rfl
 | x :: l, h => by
  rw [beN_cons] at h
  have h1 : x.toNat * 256 ^ l.length = 0 := by omega
  have h2 : beN l = 0 := by omega
  have hx : x = 0 := by
   rcases Nat.mul_eq_zero.1 h1 with h | h
   ·exact UInt8.toNat_inj.1 (by rw [h]; rfl)
   ·exact absurd h (Nat.pos_iff_ne_zero.1 (Nat.pow_pos ap14))
  have ih := beN_zero l h2
  rw [List.length_cons, List.replicate_succ, ← ih, hx]
theorem mkS_inj {l m : List UInt8} (h : mkS l = mkS m) : l = m := by
 have := congrArg (fun s : ByteArray => s.data.toList) h
 simpa [mkS] using this
theorem f0s (l : List UInt8) (q : Nat) (h : (l.getD 0 0).toNat = q) (h0 : 0 < (mkS l).size) : (((mkS l)[0]'h0).toNat : Int) = (q : Int) := by
 have h1 : 0 < l.length := by rwa [a0t] at h0
 have : ((mkS l)[0]'h0) = l.getD 0 0 := by
  show (mkS l).data[0] = _
  simp [mkS, List.getD_eq_getElem?_getD, h1]
 rw [this, h]
theorem q0q (l : List UInt8) : ((mkS l).extract 1 (mkS l).size).data.toList = l.drop 1 := by
 rw [a0t]
 simp [mkS]
 exact List.take_of_length_le ap16
theorem r0P : b0N (List.replicate 33 0) = true := by decide
attribute [local irreducible] rtV b0J rpL d0w beN b0f
theorem q0r (l : List UInt8) (h33 : l.length = 33) : a0Q mP ((mkS l).extract 1 (mkS l).size).data.toList = decide (tlN l < fP) := by
 rw [q0q]
 unfold a0Q tlN
 rw [List.length_drop, h33, mPM]
 rfl
theorem q0s (l : List UInt8) (h33 : l.length = 33) (hlt : tlN l < fP) (w : World) :
  Calls Tryz.prog 122 #[fv mP.M, .string ((mkS l).extract 1 (mkS l).size)] w fun e w' => e = .returned (.tuple #[i4 (kN (kc (tlN l))), .bool true]) ∧ Fr Nob w w' := by
 have h := l0G mP b0R.lt ((mkS l).extract 1 (mkS l).size) w (by rw [q0r l h33]; simpa using hlt)
 rw [q0q] at h
 rw [j0n, Nat.mod_eq_of_lt hlt]
 exact h
theorem y0v (l : List UInt8) (h33 : l.length = 33) (hlt : ¬ tlN l < fP) (w : World) :
  Calls Tryz.prog 122 #[fv mP.M, .string ((mkS l).extract 1 (mkS l).size)] w fun e w' => ∃ N : Nat, e = .returned (.tuple #[i4 N, .bool false]) ∧ True ∧ Fr Nob w w' :=
 (l0H mP b0R.lt _ w (by rw [q0r l h33]; simpa using hlt)).mono fun e w' ⟨N, h1, h2⟩ => ⟨N, h1, trivial, h2⟩
theorem u0I (n : Nat) : kN (kc n * kc n * kc n + 7) = d0w n % fP := by rw [← o0K, j0n]
theorem A0s (n : Nat) (hr : b0J fP (d0w n) = true) (w : World) : Calls Tryz.prog 141 #[i4 (kN (kc n))] w fun e w' => e = .returned (.tuple #[rpV (kc n) (kc (rtV fP (d0w n))) 1, .bool true]) ∧ Fr Nob w w' := by
 have h := C0p (kc n) _ _ _ rfl rfl rfl (by rw [u0I, q0p]; exact hr) w
 rw [u0I, A0q] at h
 exact h
theorem A0t (n : Nat) (hr : b0J fP (d0w n) = false) (w : World) : Calls Tryz.prog 141 #[i4 (kN (kc n))] w fun e w' => e = .returned (.tuple #[rpV (kc n) 0 1, .bool false]) ∧ Fr Nob w w' :=
 D0l (kc n) _ _ _ rfl rfl rfl (by rw [u0I, q0p]; exact hr) w
theorem d0z {l : List UInt8} (h : l ≠ List.replicate 33 0) : decide (mkS l = mkS (List.replicate 33 0)) = false := by
 simpa using fun e => h (mkS_inj e)
theorem x0r {l : List UInt8} (h33 : l.length = 33) (h0 : l.getD 0 0 = 0) (ht : tlN l = 0) : l = List.replicate 33 0 := by
 cases l with
 | nil => cases h33
 | cons x l =>
  have hx : x = 0 := h0
  have hl := beN_zero l ht
  rw [List.length_cons] at h33
  rw [hx, hl, show l.length = 32 by omega]
  rfl
theorem h0i {l : List UInt8} (q : UInt8) (hq : q ≠ 0) (h : l.getD 0 0 = q) : l ≠ List.replicate 33 0 := by
 rintro rfl
 exact hq h.symm
theorem l0Q (l : List UInt8) (h : b0N l = true) : ∃ r : RT, r.pt = c0K l ∧ ∀ w : World, Calls Tryz.prog 77 #[.string (mkS l)] w fun e w' => e = .returned (.tuple #[.agg r.L.toArray, .bool true]) ∧ Fr Nob w w' := by
 have hon := z0M h
 unfold b0N at h
 unfold c0K at *
 simp only [Bool.and_eq_true, decide_eq_true_eq] at h
 obtain ⟨h33, h⟩ := h
 by_cases h0 : l.getD 0 0 = 0
 ·rw [if_pos h0] at h
  refine ⟨noR, by rw [if_pos h0, u0A], fun w => ?_⟩
  exact r0M (mkS l) (by rw [x0r h33 h0 (by simpa using h)]; simp) w
 ·rw [if_neg h0] at h hon
  simp only [Bool.and_eq_true, decide_eq_true_eq] at h
  obtain ⟨h23, hlt, hr⟩ := h
  rcases h23 with h2 | h3
  ·have h3 : ¬ l.getD 0 0 = 3 := by rw [h2]; decide
   rw [if_neg h3] at hon
   refine ⟨C0o _ _ hon, by rw [if_neg h0, if_neg h3, l0O], fun w => ?_⟩
   exact n0z (mkS l) (d0z (h0i 2 ap14 h2)) (by rw [a0t, h33]) (fun h => f0s l 2 (by rw [h2]; rfl) h) _ _ true (q0s l h33 hlt) (A0s _ hr) w
  ·rw [if_pos h3] at hon
   refine ⟨C0o _ _ hon, by rw [if_neg h0, if_pos h3, l0O], fun w => ?_⟩
   exact n0A (mkS l) (d0z (h0i 3 ap14 h3)) (by rw [a0t, h33]) (fun h => f0s l 3 (by rw [h3]; rfl) h) _ _ true (q0s l h33 hlt) (A0s _ hr) w
open Classical in
noncomputable def rdR (l : List UInt8) : RT := if h : b0N l = true then Classical.choose (l0Q l h) else noR
theorem y0w {l : List UInt8} (h : b0N l = true) : (rdR l).pt = c0K l := by unfold rdR; rw [dif_pos h]; exact (Classical.choose_spec (l0Q l h)).1
theorem x0s (l : List UInt8) (h : b0N l = true) (w : World) : Calls Tryz.prog 77 #[.string (mkS l)] w fun e w' => e = .returned (.tuple #[.agg (rdR l).L.toArray, .bool true]) ∧ Fr Nob w w' := by
 unfold rdR; rw [dif_pos h]; exact (Classical.choose_spec (l0Q l h)).2 w
theorem A0u (s : ByteArray) (h : b0N s.data.toList = true) (w : World) : Calls Tryz.prog 77 #[.string s] w fun e w' => e = .returned (.tuple #[.agg (rdR s.data.toList).L.toArray, .bool true]) ∧ Fr Nob w w' := by
 have := x0s s.data.toList h w
 rwa [c0n] at this
theorem x0t (l : List UInt8) (h : b0N l = false) (w : World) : Calls Tryz.prog 77 #[.string (mkS l)] w fun e w' => ∃ X Y Z : K, e = .returned (.tuple #[rpV X Y Z, .bool false]) ∧ Fr Nob w w' := by
 by_cases h33 : l.length = 33
 ·by_cases h0 : l.getD 0 0 = 0
  ·have hz : l ≠ List.replicate 33 0 := by
    rintro rfl
    rw [r0P] at h
    cases h
   exact (k0v (mkS l) (d0z hz) (by rw [a0t, h33]) 0 (fun h => f0s l 0 (by rw [h0]; rfl) h) rfl rfl w).mono fun e w' k => ⟨0, 0, 0, k.1, k.2⟩
  ·by_cases h23 : l.getD 0 0 = 2 ∨ l.getD 0 0 = 3
   ·by_cases hlt : tlN l < fP
    ·have hr : b0J fP (d0w (tlN l)) = false := by
      unfold b0N at h
      rw [if_neg h0, decide_eq_true h33, decide_eq_true h23, decide_eq_true hlt] at h
      simpa using h
     rcases h23 with h2 | h3
     ·exact (n0z (mkS l) (d0z (h0i 2 ap14 h2)) (by rw [a0t, h33]) (fun h => f0s l 2 (by rw [h2]; rfl) h) _ _ false (q0s l h33 hlt) (A0t _ hr) w).mono fun e w' k => ⟨_, _, _, k.1, k.2⟩
     ·exact (n0A (mkS l) (d0z (h0i 3 ap14 h3)) (by rw [a0t, h33]) (fun h => f0s l 3 (by rw [h3]; rfl) h) _ _ false (q0s l h33 hlt) (A0t _ hr) w).mono fun e w' k => ⟨_, _, _, k.1, k.2⟩
    ·rcases h23 with h2 | h3
     ·exact (r0N (mkS l) (d0z (h0i 2 ap14 h2)) (by rw [a0t, h33]) (fun h => f0s l 2 (by rw [h2]; rfl) h) (y0v l h33 hlt) w).mono fun e w' k => ⟨0, 0, 0, k.1, k.2⟩
     ·exact (r0O (mkS l) (d0z (h0i 3 ap14 h3)) (by rw [a0t, h33]) (fun h => f0s l 3 (by rw [h3]; rfl) h) (y0v l h33 hlt) w).mono fun e w' k => ⟨0, 0, 0, k.1, k.2⟩
   ·have hz : l ≠ List.replicate 33 0 := by
     rintro rfl
     exact h0 rfl
    have hne : (l.getD 0 0).toNat ≠ 2 ∧ (l.getD 0 0).toNat ≠ 3 := by
     refine ⟨fun e => h23 (.inl (UInt8.toNat_inj.1 (e.trans rfl))), fun e => h23 (.inr (UInt8.toNat_inj.1 (e.trans rfl)))⟩
    obtain ⟨q, hq⟩ : ∃ q, (l.getD 0 0).toNat = q := ⟨_, rfl⟩
    rw [hq] at hne
    exact (k0v (mkS l) (d0z hz) (by rw [a0t, h33]) q (fun h => f0s l q hq h) (by simp; omega) (by simp; omega) w).mono fun e w' k => ⟨0, 0, 0, k.1, k.2⟩
 ·have hz : l ≠ List.replicate 33 0 := by
   rintro rfl
   exact h33 ap16
  exact (u0G (mkS l) (d0z hz) (by rw [a0t]; simp; omega) w).mono fun e w' k => ⟨0, 0, 0, k.1, k.2⟩
theorem A0v (s : ByteArray) (h : b0N s.data.toList = false) (w : World) : Calls Tryz.prog 77 #[.string s] w fun e w' => ∃ X Y Z : K, e = .returned (.tuple #[rpV X Y Z, .bool false]) ∧ Fr Nob w w' := by
 have := x0t s.data.toList h w
 rwa [c0n] at this
end
section
open Go.RowKit Go.Mv Mvp Mvq
theorem A0w (s : ByteArray) (w : World) : Calls Tryz.prog 77 #[.string s] w fun e w' => ∃ X Y Z : K, e = .returned (.tuple #[rpV X Y Z, .bool (b0N s.data.toList)]) ∧ (b0N s.data.toList = true → rpL X Y Z = (rdR s.data.toList).L) ∧ Fr Nob w w' := by
 cases h : b0N s.data.toList
 ·exact (A0v s h w).mono fun e w' ⟨X, Y, Z, k1, k2⟩ => ⟨X, Y, Z, k1, fun h => (by cases h), k2⟩
 ·exact (A0u s h w).mono fun e w' k => ⟨_, _, _, k.1, fun _ => rfl, k.2⟩
theorem D0m (w : World) : Calls Tryz.prog 53 #[] w fun e w' => e = .returned (fv mQ.M) ∧ Fr Nob w w' := A0f mQ .one w
theorem t_ok {lk la : List UInt8} (hk : a0Q mQ lk = true) (ha : b0N la = true) : tC lk la = 0 ∧ tS lk la = c0g (b0b (beN lk) (c0K la)) := by unfold tC tS; rw [hk, ha]; exact ⟨rfl, rfl⟩
end
end Go.Proofs.YtemcankmggmgoaaGreat
namespace Mvp
end Mvp
namespace Go.Proofs.YtemcankmggmgoaaGreat
open Go.RowKit Go.Mv Mvp
attribute [local irreducible] a0C lw mix cw b0u b0B b0r a0N a0q beN b0G b0f b0C a0M a0S elN mdL a0Z a0T a0Q
end Go.Proofs.YtemcankmggmgoaaGreat
namespace Go.Mv
open Go.RowKit
theorem Has.ne {w : World} {g g' : Nat} {L L' : List Value} {T T' : TypeId} (h : Has w g L T) (h' : Has w g' L' T') (hT : T ≠ T') : g ≠ g' := by
 rintro rfl
 obtain ⟨_, _, h1, _⟩ := h
 obtain ⟨_, _, h2, _⟩ := h'
 rw [h1] at h2
 simp at h2
 exact hT h2.2.1
theorem Own.ne2 {w : World} {base base' sz sz' n n' : Nat} {T T' : TypeId} {v v' : Value} {L L' : List Value} (h : Own w base T sz v n L) (h' : Own w base' T' sz' v' n' L') (hT : T ≠ T') (k : Nat) (hk : j0M v k) : ¬ j0M v' k := by
 obtain ⟨_, ⟨rfl, _⟩ | ⟨g, o, cap, B, rfl, _, hg, _⟩⟩ := h'
 ·intro t; cases t
 ·intro t
  have e : g = k := by simpa [j0M, Value.ownBlock] using t
  subst e
  exact h.ne hg hT hk
end Go.Mv
namespace Go.Proofs.YtemcankmggmgoaaGreat
section
open Go.RowKit Go.Mv Mvp
attribute [local irreducible] b0v b0H toB a0x a0G b0w c0f a0K c0s b0e a0B c0k
theorem LogAt.at' {w : World} {base g : Nat} {l : List UInt8} (h : LogAt w base g l) : ∃ v, Has w g [v] 228 := ⟨h.choose, h.choose_spec.1⟩
theorem LogAt.own {w w' : World} {base g : Nat} {l : List UInt8} {S : Nat → Prop} (h : LogAt w base g l) (hf : Fr S w w') (hg : ¬ S g) (hs : ∀ v, Own w base 5 1 v 32 (bs l) → ∀ k, j0M v k → ¬ S k) : LogAt w' base g l := by
 obtain ⟨v, h1, h2⟩ := h
 exact ⟨v, h1.keep hf hg, h2.keep hf (hs v h2)⟩
abbrev Tri : Type := Nat × Nat × List UInt8
def C0H (T : List Tri) : List Value := T.map fun t => .pointer (some ⟨t.1, 0, none⟩)
def C0I (T : List Tri) : List Value := T.map fun t => .pointer (some ⟨t.2.1, 0, none⟩)
structure LI (w : World) (base ga gb : Nat) (sa sb : List UInt8) (T : List Tri) (vk : Value) (Lk : List Value) (vw : Value) (Lw : List Value) : Prop where
 la : sa.length = 32
 lb : sb.length = 32
 a : LogAt w base ga sa
 b : RLogAt w gb sb
 each : ∀ t ∈ T, LogAt w base t.1 t.2.2 ∧ RLogAt w t.2.1 t.2.2 ∧ t.2.2.length = 32
 na : (ga :: T.map (·.1)).Nodup
 nb : (gb :: T.map (·.2.1)).Nodup
 k : Own w base 126 1 vk Lk.length Lk
 w : Own w base 135 1 vw Lw.length Lw
 bs : base ≤ ga ∧ base ≤ gb ∧ ∀ t ∈ T, base ≤ t.1 ∧ base ≤ t.2.1
variable {w w' : World} {base ga gb : Nat} {sa sb : List UInt8} {T : List Tri} {vk vw : Value} {Lk Lw : List Value}
theorem LI.still (h : LI w base ga gb sa sb T vk Lk vw Lw) (hf : Fr Nob w w') : LI w' base ga gb sa sb T vk Lk vw Lw :=
 ⟨h.la, h.lb, h.a.still hf, Has.keep h.b hf id, fun t ht => ⟨(h.each t ht).1.still hf, Has.keep (h.each t ht).2.1 hf id, (h.each t ht).2.2⟩, h.na, h.nb, h.k.still hf, h.w.still hf, h.bs⟩
theorem LI.stepB (h : LI w base ga gb sa sb T vk Lk vw Lw) (hf : Fr (One gb) w w') {sb' : List UInt8} (hb : RLogAt w' gb sb') (hl : sb'.length = 32) : LI w' base ga gb sa sb' T vk Lk vw Lw := by
 have hv := h.b
 obtain ⟨v, hav⟩ := h.a.at'
 refine ⟨h.la, hl, h.a.other hf (Has.ne hav hv ap14) hv ap14, hb, fun t ht => ⟨(h.each t ht).1.other hf (Has.ne (h.each t ht).1.at'.choose_spec hv ap14) hv ap14, Has.keep (h.each t ht).2.1 hf ?_, (h.each t ht).2.2⟩, h.na, h.nb,
  h.k.keep hf (fun k hk (e : k = gb) => h.k.ne hv ap14 (e ▸ hk)), h.w.keep hf (fun k hk (e : k = gb) => h.w.ne hv ap14 (e ▸ hk)), h.bs⟩
 have hn := (List.nodup_cons.1 h.nb).1
 intro (e : t.2.1 = gb)
 exact hn (e ▸ List.mem_map.2 ⟨t, ht, rfl⟩)
structure LJ (w : World) (base : Nat) (T : List Tri) (j : Nat) (vk vw : Value) : Prop where
 each : ∀ i t, j ≤ i → T[i]? = some t → LogAt w base t.1 t.2.2 ∧ RLogAt w t.2.1 t.2.2 ∧ t.2.2.length = 32
 na : (T.map (·.1)).Nodup
 nb : (T.map (·.2.1)).Nodup
 k : Own w base 126 1 vk T.length (C0H T)
 w : Own w base 135 1 vw T.length (C0I T)
 bs : ∀ t ∈ T, base ≤ t.1 ∧ base ≤ t.2.1
theorem LI.last (h : LI w base ga gb sa sa T vk (C0H (T ++ [(ga, gb, sa)])) vw (C0I (T ++ [(ga, gb, sa)]))) : LJ w base (T ++ [(ga, gb, sa)]) 0 vk vw := by
 have h1 := List.nodup_cons.1 h.na
 have h2 := List.nodup_cons.1 h.nb
 have hlk : (C0H (T ++ [(ga, gb, sa)])).length = (T ++ [(ga, gb, sa)]).length := by simp [C0H]
 have hlw : (C0I (T ++ [(ga, gb, sa)])).length = (T ++ [(ga, gb, sa)]).length := by simp [C0I]
 refine ⟨?_, ?_, ?_, hlk ▸ h.k, hlw ▸ h.w, ?_⟩
 ·intro i t _ ht
  rcases List.mem_append.1 (List.mem_of_getElem? ht) with ht | ht
  ·exact h.each t ht
  ·simp only [List.mem_singleton] at ht
   subst ht
   exact ⟨h.a, h.b, h.la⟩
 ·rw [List.map_append, List.nodup_append]
  refine ⟨h1.2, by simp, ?_⟩
  intro x hx y hy e
  simp only [List.map_cons, List.map_nil, List.mem_singleton] at hy
  subst hy; subst e
  exact h1.1 hx
 ·rw [List.map_append, List.nodup_append]
  refine ⟨h2.2, by simp, ?_⟩
  intro x hx y hy e
  simp only [List.map_cons, List.map_nil, List.mem_singleton] at hy
  subst hy; subst e
  exact h2.1 hx
 ·intro t ht
  rcases List.mem_append.1 ht with ht | ht
  ·exact h.bs.2.2 t ht
  ·simp only [List.mem_singleton] at ht
   subst ht
   exact ⟨h.bs.1, h.bs.2.1⟩
theorem q0t {α : Type} {l : List α} (h : l.Nodup) {i j : Nat} {x y : α} (hi : l[i]? = some x) (hj : l[j]? = some y) (hne : i ≠ j) : x ≠ y := by
 intro e
 subst e
 have hi' := (List.getElem?_eq_some_iff.1 hi)
 have hj' := (List.getElem?_eq_some_iff.1 hj)
 obtain ⟨a, ha⟩ := hi'
 obtain ⟨b, hb⟩ := hj'
 rcases Nat.lt_or_gt_of_ne hne with k | k
 ·exact (List.pairwise_iff_getElem.1 h) i j a b k (ha.trans hb.symm)
 ·exact (List.pairwise_iff_getElem.1 h) j i b a k (hb.trans ha.symm)
theorem LJ.step {j : Nat} (h : LJ w base T j vk vw) {t : Tri} (ht : T[j]? = some t) {w1 w2 : World} (h1 : Fr (One t.1) w w1) (h2 : Fr (One t.2.1) w1 w2) : LJ w2 base T (j + 1) vk vw := by
 obtain ⟨ha, hb, -⟩ := h.each j t (Nat.le_refl _) ht
 obtain ⟨v, hv⟩ := ha.at'
 have hb1 : RLogAt w1 t.2.1 t.2.2 := Has.keep hb h1 (Has.ne hb hv ap14)
 have k1 := h.k.keep h1 (fun k hk (e : k = t.1) => h.k.ne hv ap14 (e ▸ hk))
 have l1 := h.w.keep h1 (fun k hk (e : k = t.1) => h.w.ne hv ap14 (e ▸ hk))
 refine ⟨?_, h.na, h.nb, k1.keep h2 (fun k hk (e : k = t.2.1) => k1.ne hb1 ap14 (e ▸ hk)), l1.keep h2 (fun k hk (e : k = t.2.1) => l1.ne hb1 ap14 (e ▸ hk)), h.bs⟩
 intro i u hi hu
 obtain ⟨c, d, e⟩ := h.each i u ap15 hu
 have n1 : u.1 ≠ t.1 := q0t h.na (i := i) (j := j) (by simp [List.getElem?_map, hu]) (by simp [List.getElem?_map, ht]) ap15
 have n2 : u.2.1 ≠ t.2.1 := q0t h.nb (i := i) (j := j) (by simp [List.getElem?_map, hu]) (by simp [List.getElem?_map, ht]) ap15
 have c1 := c.other h1 n1 hv ap14
 have d1 : RLogAt w1 u.2.1 u.2.2 := Has.keep d h1 (Has.ne d hv ap14)
 exact ⟨c1.other h2 (Has.ne c1.at'.choose_spec hb1 ap14) hb1 ap14, Has.keep d1 h2 n2, e⟩
end
section
open Go.RowKit Go.Mv Mvp Mvt
attribute [local irreducible] b0v b0H toB a0x a0G b0w c0f a0K c0s b0e a0B c0k
def POwn (w : World) (base : Nat) : List Value → List (List UInt8) → Prop
 | [], [] => True
 | v :: vs, l :: ls => Own w base 5 1 v l.length (bs l) ∧ POwn w base vs ls
 | _, _ => False
theorem POwn.len {w : World} {base : Nat} : ∀ {vs : List Value} {ls : List (List UInt8)}, POwn w base vs ls → vs.length = ls.length
 | [], [], _ => rfl
 | _ :: _, _ :: _, h => by simp only [List.length_cons]; rw [POwn.len h.2]
 | [], _ :: _, h => h.elim
 | _ :: _, [], h => h.elim
theorem POwn.keep {w w' : World} {base : Nat} {S : Nat → Prop} (hf : Fr S w w') : ∀ {vs : List Value} {ls : List (List UInt8)}, POwn w base vs ls → (∀ v n l, Own w base 5 1 v n (bs l) → ∀ k, j0M v k → ¬ S k) → POwn w' base vs ls
 | [], [], _, _ => trivial
 | _ :: _, _ :: _, h, hs => ⟨h.1.keep hf (hs _ _ _ h.1), POwn.keep hf h.2 hs⟩
 | [], _ :: _, h, _ => h.elim
 | _ :: _, [], h, _ => h.elim
theorem POwn.still {w w' : World} {base : Nat} {vs : List Value} {ls : List (List UInt8)} (h : POwn w base vs ls) (hf : Fr Nob w w') : POwn w' base vs ls := POwn.keep hf h (fun _ _ _ _ _ _ t => t)
theorem POwn.app {w w' : World} {base base' sz n : Nat} {vs : List Value} {ls : List (List UInt8)} (h : POwn w base vs ls) {q : Value} {T : TypeId} {L : List Value} (hq : Own w base' T sz q n L) (hT : 5 ≠ T) (hf : Fr (j0M q) w w') : POwn w' base vs ls :=
 POwn.keep hf h (fun _ _ _ ho k hk hk' => ho.ne2 hq hT k hk hk')
theorem POwn.snoc {w : World} {base : Nat} {v : Value} {l : List UInt8} (hv : Own w base 5 1 v l.length (bs l)) : ∀ {vs : List Value} {ls : List (List UInt8)}, POwn w base vs ls → POwn w base (vs ++ [v]) (ls ++ [l])
 | [], [], _ => ⟨hv, trivial⟩
 | _ :: _, _ :: _, h => ⟨h.1, POwn.snoc hv h.2⟩
 | [], _ :: _, h => h.elim
 | _ :: _, [], h => h.elim
theorem POwn.parts {w : World} {base : Nat} : ∀ {vs : List Value} {ls : List (List UInt8)}, POwn w base vs ls → (∀ x ∈ ls, x.length ≤ 1000000) → Parts w vs ls
 | [], [], _, _ => trivial
 | _ :: _, _ :: _, h, hx => ⟨b0T h.1 (hx _ ap16), POwn.parts h.2 (fun x hxm => hx x (by simp [hxm]))⟩
 | [], _ :: _, h, _ => h.elim
 | _ :: _, [], h, _ => h.elim
def LOwn (w : World) (base : Nat) (v : Value) (ls : List (List UInt8)) : Prop := ∃ vs, Own w base 22 1 v ls.length vs ∧ POwn w base vs ls
theorem LOwn.still {w w' : World} {base : Nat} {v : Value} {ls : List (List UInt8)} (h : LOwn w base v ls) (hf : Fr Nob w w') : LOwn w' base v ls := by
 obtain ⟨vs, h1, h2⟩ := h; exact ⟨vs, h1.still hf, h2.still hf⟩
theorem LOwn.parts {w : World} {base : Nat} {v : Value} {ls : List (List UInt8)} (h : LOwn w base v ls) (hx : ∀ x ∈ ls, x.length ≤ 1000000) : ∃ a c, v = .slice a ls.length c ∧ ls.length ≤ c ∧ PartsAt w a ls := by
 obtain ⟨vs, h1, h2⟩ := h
 obtain ⟨a, c, rfl, hc, hr, -⟩ := h1.form
 rw [Nat.mul_one] at hr
 exact ⟨a, c, rfl, hc, vs, hr, (h2.parts hx).get⟩
end
section
open Go.RowKit Go.Mv Mvp Mvt
attribute [local irreducible] b0v b0H toB a0x a0G b0w c0f a0K c0s b0e a0B c0k
def Sep (vs : List Value) : Prop := vs.Pairwise fun a b => ∀ k, j0M a k → ¬ j0M b k
theorem Sep.nil : Sep [] := List.Pairwise.nil
theorem POwn.get {w : World} {base : Nat} : ∀ {vs : List Value} {ls : List (List UInt8)}, POwn w base vs ls → ∀ (i : Nat) (v : Value), vs[i]? = some v → ∃ l, ls[i]? = some l ∧ Own w base 5 1 v l.length (bs l)
 | [], [], _, i, v, hv => by simp at hv
 | a :: vs, l :: ls, h, 0, v, hv => by simp at hv; subst hv; exact ⟨l, rfl, h.1⟩
 | a :: vs, l :: ls, h, i + 1, v, hv => by simp at hv; obtain ⟨l', h1, h2⟩ := POwn.get h.2 i v hv; exact ⟨l', by simpa using h1, h2⟩
 | [], _ :: _, h, _, _, _ => h.elim
 | _ :: _, [], h, _, _, _ => h.elim
theorem POwn.mem {w : World} {base : Nat} {vs : List Value} {ls : List (List UInt8)} (h : POwn w base vs ls) {v : Value} (hv : v ∈ vs) : ∃ l, l ∈ ls ∧ Own w base 5 1 v l.length (bs l) := by
 obtain ⟨i, hi⟩ := List.getElem?_of_mem hv
 obtain ⟨l, h1, h2⟩ := h.get i v hi
 exact ⟨l, List.mem_of_getElem? h1, h2⟩
theorem Sep.snoc {w w' : World} {base : Nat} {vs : List Value} {ls : List (List UInt8)} (h : Sep vs) (hp : POwn w base vs ls) {v : Value} {n : Nat} {L : List Value} {T : TypeId} (hv : Own w' w.heap.size T 1 v n L) : Sep (vs ++ [v]) := by
 unfold Sep at *
 rw [List.pairwise_append]
 refine ⟨h, by simp, fun a ha b hb k hk hk' => ?_⟩
 simp only [List.mem_singleton] at hb
 subst hb
 obtain ⟨l, _, ho⟩ := hp.mem ha
 have h1 := (ho.lt hk).2
 have h2 := (hv.lt hk').1
 omega
theorem POwn.mono {w : World} {base base' : Nat} (hb : base' ≤ base) : ∀ {vs : List Value} {ls : List (List UInt8)}, POwn w base vs ls → POwn w base' vs ls
 | [], [], _ => trivial
 | _ :: _, _ :: _, h => ⟨h.1.mono hb, POwn.mono hb h.2⟩
 | [], _ :: _, h => h.elim
 | _ :: _, [], h => h.elim
def SOwn (w : World) (base : Nat) (v : Value) (ls : List (List UInt8)) : Prop := ∃ vs, Own w base 22 1 v ls.length vs ∧ POwn w base vs ls ∧ Sep vs
theorem SOwn.nil (w : World) (base : Nat) : SOwn w base (.slice none 0 0) [] := ⟨[], Own.nil _ _ _ _, trivial, Sep.nil⟩
theorem SOwn.still {w w' : World} {base : Nat} {v : Value} {ls : List (List UInt8)} (h : SOwn w base v ls) (hf : Fr Nob w w') : SOwn w' base v ls := by
 obtain ⟨vs, h1, h2, h3⟩ := h; exact ⟨vs, h1.still hf, h2.still hf, h3⟩
end
end Go.Proofs.YtemcankmggmgoaaGreat
namespace Mvp
def lenV : Go.Value → Nat
 | .slice _ n _ => n
 | _ => 0
end Mvp
namespace Go.Proofs.YtemcankmggmgoaaGreat
open Go.RowKit Go.Mv Mvp
theorem SOwn.mono {w : World} {base base' : Nat} {v : Value} {ls : List (List UInt8)} (h : SOwn w base v ls) (hb : base' ≤ base) : SOwn w base' v ls := by
 obtain ⟨vs, h1, h2, h3⟩ := h; exact ⟨vs, h1.mono hb, h2.mono hb, h3⟩
theorem SOwn.snocF {w w1 w2 w3 : World} {base : Nat} {vs : List Value} {ls : List (List UInt8)} {o v o' : Value} {l : List UInt8}
  (hown : Own w base 22 1 o ls.length vs) (hpo : POwn w base vs ls) (hsep : Sep vs) (hb : base ≤ w.heap.size)
  (hv : Own w1 w.heap.size 5 1 v l.length (bs l)) (hf1 : Fr Nob w w1) (hf2 : Fr Nob w1 w2)
  (ho' : Own w3 base 22 1 o' (ls.length + 1) (vs ++ [v])) (hf3 : Fr (j0M o) w2 w3) : SOwn w3 base o' (ls ++ [l]) := by
 have h12 := hf1.then hf2
 have hv2 := (hv.still hf2).mono hb
 have ho2 := hown.still h12
 refine ⟨vs ++ [v], by simpa using ho', POwn.snoc (hv2.keep hf3 (fun k hk hk' => hv2.ne2 ho2 ap14 k hk hk')) ((hpo.still h12).app ho2 ap14 hf3), hsep.snoc hpo hv⟩
attribute [local irreducible] a0C lw mix cw b0u b0B b0r a0N a0q beN b0G b0f b0C a0M a0S elN mdL a0Z a0T a0Q
end Go.Proofs.YtemcankmggmgoaaGreat
namespace Mvp
end Mvp
namespace Go.Proofs.YtemcankmggmgoaaGreat
section
open Go.RowKit Go.Mv Mvp
attribute [local irreducible] a0C lw mix cw b0u b0B b0r a0N a0q beN b0G b0f b0C a0M a0S elN mdL a0Q a0T a0Z
end
section
open Go.RowKit Go.Mv Mvp Mvq
noncomputable def smL (ln lp : List (List UInt8)) (k : Nat) : List (Nat × Pt) := (List.range k).map fun i => (beN (ln.getD i []), c0K (lp.getD i []))
def l0R (ln lp : List (List UInt8)) : Nat := if ln.length = lp.length then (if ln.length ≤ 512 then (if a0T mQ ln then (if e0d lp then 0 else 4) else 3) else 1) else 2
noncomputable def j0s (ln lp : List (List UInt8)) : List UInt8 := if ln.length = lp.length then (if ln.length ≤ 512 then (if a0T mQ ln then (if e0d lp then c0g (e0X (smL ln lp lp.length)) else []) else []) else []) else []
theorem x0u {ls : List (List UInt8)} (h : e0d ls = true) (i : Nat) (hi : i < ls.length) : b0N (ls.getD i []) = true := by
 unfold e0d at h
 rw [List.all_eq_true] at h
 refine h _ ?_
 rw [List.getD_eq_getElem?_getD, List.getElem?_eq_getElem hi]
 exact List.getElem_mem hi
theorem r0Q {ls : List (List UInt8)} (h : a0T mQ ls = true) (i : Nat) (hi : i < ls.length) : a0Q mQ (ls.getD i []) = true := by
 unfold a0T at h
 rw [List.all_eq_true] at h
 refine h _ ?_
 rw [List.getD_eq_getElem?_getD, List.getElem?_eq_getElem hi]
 exact List.getElem_mem hi
theorem C0s {ln lp : List (List UInt8)} (hl : ln.length = lp.length) (hn : a0T mQ ln = true) (hp : e0d lp = true) : (j0z (n0U (aK ln ln.length) lp)).pt = e0X (smL ln lp lp.length) := by
 have e : n0S (n0U (aK ln ln.length) lp) = smL ln lp lp.length := by
  unfold n0S n0U smL
  rw [List.map_map]
  refine List.map_congr_left fun i hi => ?_
  have hi := List.mem_range.1 hi
  show (aK ln ln.length i, (rdT (lp.getD i [])).pt) = _
  rw [B0Y (x0u hp i hi)]
  unfold aK
  rw [if_pos ap15]
 rw [o0Q _ ?_, e]
 intro t ht
 unfold n0U at ht
 obtain ⟨i, hi, rfl⟩ := List.mem_map.1 ht
 have hi := List.mem_range.1 hi
 show aK ln ln.length i < _
 unfold aK
 rw [if_pos ap15]
 exact Nat.lt_trans (d0y (r0Q hn i ap15)) q16
theorem A0x (al : Option Addr) (cl : Nat) (vs : List Value) (ln : List (List UInt8)) (bl : Option Addr) (dl : Nat) (us : List Value) (lp : List (List UInt8)) (w : World) (hv : Rd w al ln.length vs) (hp : BParts w vs ln) (hu : Rd w bl lp.length us) (hq : BParts w us lp) :
  Calls Tryz.prog 132 #[.slice al ln.length cl, .slice bl lp.length dl] w fun e w' => ∃ v, e = .returned (.tuple #[v, .int .i64 (l0R ln lp : Nat)]) ∧ OwnB1 w w' v (j0s ln lp) ∧ Fr Nob w w' := by
 by_cases h1 : ln.length = lp.length
 ·rw [← h1] at hu ⊢
  by_cases h2 : ln.length ≤ 512
  ·cases hn : a0T mQ ln
   ·refine (x0e al _ cl vs ln bl dl us lp w hv hp hu hq h2 hn).mono fun e w' k => ⟨.slice none 0 0, ?_, ?_, k.2⟩
    ·rw [k.1]; unfold l0R; rw [if_pos h1, if_pos h2, hn]; rfl
    ·unfold j0s; rw [if_pos h1, if_pos h2, hn]; exact OwnB1.nil _ _
   ·cases hr : e0d lp
    ·refine (x0d al _ cl vs ln bl dl us lp w hv hp hu hq h2 hn hr).mono fun e w' k => ⟨.slice none 0 0, ?_, ?_, k.2⟩
     ·rw [k.1]; unfold l0R; rw [if_pos h1, if_pos h2, hn, hr]; rfl
     ·unfold j0s; rw [if_pos h1, if_pos h2, hn, hr]; exact OwnB1.nil _ _
    ·refine (C0k al _ cl vs ln bl dl us lp w hv hp hu hq h2 hn hr).mono fun e w' k => ?_
     obtain ⟨v, k1, k2, k3⟩ := k
     rw [C0s h1 hn hr] at k2
     refine ⟨v, ?_, ?_, k3⟩
     ·rw [k1]; unfold l0R; rw [if_pos h1, if_pos h2, hn, hr]; rfl
     ·unfold j0s; rw [if_pos h1, if_pos h2, hn, hr]; exact OwnB1.of k2 (d0d _)
  ·refine (x0g al _ cl bl dl w ap15).mono fun e w' k => ⟨.slice none 0 0, ?_, ?_, k.2⟩
   ·rw [k.1]; unfold l0R; rw [if_pos h1, if_neg h2]; rfl
   ·unfold j0s; rw [if_pos h1, if_neg h2]; exact OwnB1.nil _ _
 ·refine (x0f al _ cl bl _ dl w h1).mono fun e w' k => ⟨.slice none 0 0, ?_, ?_, k.2⟩
  ·rw [k.1]; unfold l0R; rw [if_neg h1]; rfl
  ·unfold j0s; rw [if_neg h1]; exact OwnB1.nil _ _
attribute [local irreducible] a0C lw mix cw b0u b0B b0r a0N a0q beN b0G b0f b0C a0M a0S elN mdL a0Q rtV b0J kN kc c0v c0g d0r noR a0R g0b RT.L gXn gYn rpL b0N c0K rdR a0T e0d
end
section
open Go.RowKit Go.Mv Mvp Mvq
attribute [local irreducible] a0C lw mix cw b0u b0B b0r a0N a0q beN b0G b0f b0C a0M a0S elN mdL a0Q rtV b0J c0g b0N c0K a0T e0d l0R j0s b0b
theorem i0b (x : Nat) (w : World) : Calls Tryz.prog 51 #[i4 (elN mQ x)] w fun e w' => ∃ y : Option Addr × Nat, e = .returned (.slice y.1 32 y.2) ∧ BPart w' (.slice y.1 32 y.2) (b0f (x % mQ.M)) ∧ Fr Nob w w' := by
 refine (k0f mQ .one x w).mono ?_
 rintro e w' ⟨v, rfl, ho, hf⟩
 obtain ⟨a, c, rfl, hc, hr, -⟩ := ho.form
 rw [Nat.mul_one] at hr
 exact ⟨(a, c), rfl, ⟨a, 32, c, rfl, hc, hr⟩, hf⟩
end
section
open Go.RowKit Go.Mv Mvp Mvq
def OwnU (w : World) (v : Value) (l : List UInt8) : Prop := Own w 0 5 1 v l.length (bs l)
theorem OwnU.part {w : World} {v : Value} {l : List UInt8} (h : OwnU w v l) : BPart w v l := Own.part h
theorem OwnU.still {w w' : World} {v : Value} {l : List UInt8} (h : OwnU w v l) (hf : Fr Nob w w') : OwnU w' v l := Own.still h hf
theorem OwnU.nil (w : World) : OwnU w (.slice none 0 0) [] := Own.nil _ _ _ _
attribute [local irreducible] a0C lw mix cw b0u b0B b0r a0N a0q beN b0G b0f b0C a0M a0S elN mdL a0Q rtV b0J c0g b0N c0K a0T e0d l0R j0s b0b
end
end Go.Proofs.YtemcankmggmgoaaGreat
namespace Mvp
theorem A0y : ∀ (n : Nat) (l m : List UInt8), l.length = n → m.length = n → beN l = beN m → l = m := by
 intro n
 induction n with
 | zero => intro l m hl hm _; rw [List.length_eq_zero_iff.1 hl, List.length_eq_zero_iff.1 hm]
 | succ n ih =>
  intro l m hl hm h
  obtain ⟨a, x, rfl⟩ : ∃ a x, l = a ++ [x] := by
   rcases List.eq_nil_or_concat l with h | ⟨a, x, h⟩
   ·subst h; simp at hl
   ·exact ⟨a, x, by simpa using h⟩
  obtain ⟨b, y, rfl⟩ : ∃ b y, m = b ++ [y] := by
   rcases List.eq_nil_or_concat m with h | ⟨a, x, h⟩
   ·subst h; simp at hm
   ·exact ⟨a, x, by simpa using h⟩
  rw [e0I, e0I] at h
  have hx := x.toNat_lt
  have hy := y.toNat_lt
  have e : beN a = beN b := by omega
  have e2 : x.toNat = y.toNat := by omega
  rw [ih a b (by simpa using hl) (by simpa using hm) e, UInt8.toNat_inj.1 e2]
theorem beN_zero {l : List UInt8} (h : beN l = 0) : l = List.replicate l.length 0 := by
 refine A0y l.length _ _ rfl ap16 ?_
 rw [h]
 generalize l.length = n
 induction n with
 | zero => rfl
 | succ n ih => rw [List.replicate_succ', e0I, ← ih]; rfl
end Mvp
namespace Mvq
open Mvp
end Mvq
namespace Go.Proofs.YtemcankmggmgoaaGreat
open Go.RowKit Go.Mv Mvp Mvq
attribute [local irreducible] a0C lw mix cw b0u b0B b0r a0N a0q beN b0G b0f b0C a0M a0S elN mdL a0Q rtV b0J kN kc c0v c0g d0r noR a0R g0b RT.L
theorem x0v (x1 y1 z1 x2 y2 z2 : K) (hb1 : decide (z1 = 0) = true) (hb2 : decide (z2 = 0) = true) (w : World) : Calls Tryz.prog 67 #[rpV x1 y1 z1, rpV x2 y2 z2] w fun e w' => e = .returned (.bool true) ∧ Fr Nob w w' := by
 have HB1 := qH hb1
 have HB2 := qH hb2
 clear hb1 hb2
 unfold rpV rpL
 have st0 := St.start Nob w
 go_enter Tryz.func67, Tryz.ntmps67
 go_wp2_with (with_reducible refine wSk 2 ?_)
 refine a0l st0 rfl rfl rfl (cw 4 (kN x1) ++ (cw 4 (kN y1) ++ cw 4 (kN z1))) rfl ?_
 intro g2 w1 st1
 clear st0
 go_wp2_with (with_reducible refine wSk 3 ?_)
 refine a0l st1 rfl rfl rfl (cw 4 (kN x2) ++ (cw 4 (kN y2) ++ cw 4 (kN z2))) rfl ?_
 intro g3 w2 st2
 clear st1
 go_wp2_with (with_reducible refine wSk 7 ?_)
 refine a0n st2 0 rfl rfl rfl Tryz.underlying62 rfl rfl ap6 ?_
 go_wp2_with fail
 refine (b0S x1 y1 z1 true HB1.out _).mono ?_
 rintro e' w3 ⟨rfl, hf3⟩
 have st3 := st2.keep hf3
 clear st2 hf3
 go_wp2_with (with_reducible refine wSk 9 ?_)
 refine a0n st3 1 rfl rfl rfl Tryz.underlying62 rfl rfl ap6 ?_
 go_wp2_with fail
 refine (b0S x2 y2 z2 true HB2.out _).mono ?_
 rintro e' w4 ⟨rfl, hf4⟩
 have st4 := st3.keep hf4
 clear st3 hf4
 have hfr := st4.fr
 clear st4
 go_wp2_with fail
 go_ret
 exact ⟨rfl, hfr⟩
theorem x0w (x1 y1 z1 x2 y2 z2 : K) (hb1 : decide (z1 = 0) = true) (hb2 : decide (z2 = 0) = false) (w : World) : Calls Tryz.prog 67 #[rpV x1 y1 z1, rpV x2 y2 z2] w fun e w' => e = .returned (.bool false) ∧ Fr Nob w w' := by
 have HB1 := qH hb1
 have HB2 := qH hb2
 clear hb1 hb2
 unfold rpV rpL
 have st0 := St.start Nob w
 go_enter Tryz.func67, Tryz.ntmps67
 go_wp2_with (with_reducible refine wSk 2 ?_)
 refine a0l st0 rfl rfl rfl (cw 4 (kN x1) ++ (cw 4 (kN y1) ++ cw 4 (kN z1))) rfl ?_
 intro g2 w1 st1
 clear st0
 go_wp2_with (with_reducible refine wSk 3 ?_)
 refine a0l st1 rfl rfl rfl (cw 4 (kN x2) ++ (cw 4 (kN y2) ++ cw 4 (kN z2))) rfl ?_
 intro g3 w2 st2
 clear st1
 go_wp2_with (with_reducible refine wSk 7 ?_)
 refine a0n st2 0 rfl rfl rfl Tryz.underlying62 rfl rfl ap6 ?_
 go_wp2_with fail
 refine (b0S x1 y1 z1 true HB1.out _).mono ?_
 rintro e' w3 ⟨rfl, hf3⟩
 have st3 := st2.keep hf3
 clear st2 hf3
 go_wp2_with (with_reducible refine wSk 9 ?_)
 refine a0n st3 1 rfl rfl rfl Tryz.underlying62 rfl rfl ap6 ?_
 go_wp2_with fail
 refine (b0S x2 y2 z2 false HB2.out _).mono ?_
 rintro e' w4 ⟨rfl, hf4⟩
 have st4 := st3.keep hf4
 clear st3 hf4
 have hfr := st4.fr
 clear st4
 go_wp2_with fail
 go_ret
 exact ⟨rfl, hfr⟩
theorem x0x (x1 y1 z1 x2 y2 z2 : K) (hb1 : decide (z1 = 0) = false) (hb2 : decide (z2 = 0) = true) (w : World) : Calls Tryz.prog 67 #[rpV x1 y1 z1, rpV x2 y2 z2] w fun e w' => e = .returned (.bool false) ∧ Fr Nob w w' := by
 have HB1 := qH hb1
 have HB2 := qH hb2
 clear hb1 hb2
 unfold rpV rpL
 have st0 := St.start Nob w
 go_enter Tryz.func67, Tryz.ntmps67
 go_wp2_with (with_reducible refine wSk 2 ?_)
 refine a0l st0 rfl rfl rfl (cw 4 (kN x1) ++ (cw 4 (kN y1) ++ cw 4 (kN z1))) rfl ?_
 intro g2 w1 st1
 clear st0
 go_wp2_with (with_reducible refine wSk 3 ?_)
 refine a0l st1 rfl rfl rfl (cw 4 (kN x2) ++ (cw 4 (kN y2) ++ cw 4 (kN z2))) rfl ?_
 intro g3 w2 st2
 clear st1
 go_wp2_with (with_reducible refine wSk 7 ?_)
 refine a0n st2 0 rfl rfl rfl Tryz.underlying62 rfl rfl ap6 ?_
 go_wp2_with fail
 refine (b0S x1 y1 z1 false HB1.out _).mono ?_
 rintro e' w3 ⟨rfl, hf3⟩
 have st3 := st2.keep hf3
 clear st2 hf3
 go_wp2_with (with_reducible refine wSk 9 ?_)
 refine a0n st3 1 rfl rfl rfl Tryz.underlying62 rfl rfl ap6 ?_
 go_wp2_with fail
 refine (b0S x2 y2 z2 true HB2.out _).mono ?_
 rintro e' w4 ⟨rfl, hf4⟩
 have st4 := st3.keep hf4
 clear st3 hf4
 have hfr := st4.fr
 clear st4
 go_wp2_with fail
 go_ret
 exact ⟨rfl, hfr⟩
theorem _root_.ap2 {p : Prop} (h : p := by first | (rw [a0f]; kernel_rfl) | (rw [RT.len]; kernel_rfl) | (rw [e0R]; kernel_rfl) | (simp only [List.length_append, a0f]; kernel_rfl) | (simp only [List.length_append, a0f, RT.len, e0R]; kernel_rfl)) : p := h
theorem A0z (x1 y1 z1 x2 y2 z2 : K) (hb1 : decide (z1 = 0) = false) (hb2 : decide (z2 = 0) = false) (v1 v2 : K) (ev1 : x1 * z2 = v1) (ev2 : x2 * z1 = v2) (hv : decide (v1 = v2) = false) (w : World) : Calls Tryz.prog 67 #[rpV x1 y1 z1, rpV x2 y2 z2] w fun e w' => e = .returned (.bool false) ∧ Fr Nob w w' := by
 have HB1 := qH hb1
 have HB2 := qH hb2
 clear hb1 hb2
 have Hv1 := qH ev1
 have Hv2 := qH ev2
 clear ev1 ev2
 have HV := qH hv
 clear hv
 unfold rpV rpL
 have st0 := St.start Nob w
 go_enter Tryz.func67, Tryz.ntmps67
 go_wp2_with (with_reducible refine wSk 2 ?_)
 refine a0l st0 rfl rfl rfl (cw 4 (kN x1) ++ (cw 4 (kN y1) ++ cw 4 (kN z1))) rfl ?_
 intro g2 w1 st1
 clear st0
 go_wp2_with (with_reducible refine wSk 3 ?_)
 refine a0l st1 rfl rfl rfl (cw 4 (kN x2) ++ (cw 4 (kN y2) ++ cw 4 (kN z2))) rfl ?_
 intro g3 w2 st2
 clear st1
 go_wp2_with (with_reducible refine wSk 7 ?_)
 refine a0n st2 0 rfl rfl rfl Tryz.underlying62 rfl rfl ap6 ?_
 go_wp2_with fail
 refine (b0S x1 y1 z1 false HB1.out _).mono ?_
 rintro e' w3 ⟨rfl, hf3⟩
 have st3 := st2.keep hf3
 clear st2 hf3
 go_wp2_with (with_reducible refine wSk 9 ?_)
 refine a0n st3 1 rfl rfl rfl Tryz.underlying62 rfl rfl ap6 ?_
 go_wp2_with fail
 refine (b0S x2 y2 z2 false HB2.out _).mono ?_
 rintro e' w4 ⟨rfl, hf4⟩
 have st4 := st3.keep hf4
 clear st3 hf4
 go_wp2_with fail
 refine wp_region_noPanic ?_
 refine b0L (fun wx => St Nob w wx [(g2, cw 4 (kN x1) ++ (cw 4 (kN y1) ++ cw 4 (kN z1)), 62), (g3, cw 4 (kN x2) ++ (cw 4 (kN y2) ++ cw 4 (kN z2)), 62)]) 28 (.w 1 (.t 2 (.w 3 (.t 4 (.w 7 (.t 8 (.w 9 (.t 10 (.r 0 (.r 5 (.r 6 (.r 11 (.w 12 (.w 13 (.w 15 (.t 16 (.w 17 (.t 18 (.w 21 (.t 22 (.w 23 (.t 24 (.r 14 (.r 19 (.r 20 (.r 25 (.w 26 (.w 27 (.m 28 .nil))))))))))))))))))))))))))))) ap13 ap13 st4.drew (fun _ _ _ _ _ h => h) ?_
 have hd4 := st4.drew
 clear st4
 refine a0s rfl rfl apW ?_
 try simp only [clL]
 refine b0k rfl rfl rfl rfl (cw 4 (kN x1)) (fun wx hS => St.rangeL hS 0 rfl 0 _ (i0U _ _ _)) Tryz.underlying60 rfl ap2 ?_
 try simp only [clL]
 refine a0s rfl rfl apW ?_
 try simp only [clL]
 refine b0k rfl rfl rfl rfl (cw 4 (kN z2)) (fun wx hS => St.rangeL hS 1 rfl 8 _ (e0Y _ _ _)) Tryz.underlying60 rfl ap2 ?_
 try simp only [clL]
 refine a0s rfl rfl apW ?_
 try simp only [clL]
 refine b0k rfl rfl rfl rfl (cw 4 (kN x2)) (fun wx hS => St.rangeL hS 1 rfl 0 _ (i0U _ _ _)) Tryz.underlying60 rfl ap2 ?_
 try simp only [clL]
 refine a0s rfl rfl apW ?_
 try simp only [clL]
 refine b0k rfl rfl rfl rfl (cw 4 (kN z1)) (fun wx hS => St.rangeL hS 0 rfl 8 _ (e0Y _ _ _)) Tryz.underlying60 rfl ap2 ?_
 try simp only [clL]
 refine c0w rfl rfl ?_
 go_simp
 refine (a0F _).mono ?_
 rintro e' w5 ⟨rfl, hf5⟩
 have st5 := hd4.keep hf5
 clear hf5
 clear hd4
 refine ⟨st5, ?_⟩
 try simp only [clL]
 refine c0w rfl rfl ?_
 go_simp
 refine (d0S x1 z2 v1 Hv1.out _).mono ?_
 rintro e' w6 ⟨rfl, hf6⟩
 have st6 := st5.keep hf6
 clear hf6
 clear st5
 refine ⟨st6, ?_⟩
 try simp only [clL]
 refine c0w rfl rfl ?_
 go_simp
 refine (a0F _).mono ?_
 rintro e' w7 ⟨rfl, hf7⟩
 have st7 := st6.keep hf7
 clear hf7
 clear st6
 refine ⟨st7, ?_⟩
 try simp only [clL]
 refine c0w rfl rfl ?_
 go_simp
 refine (d0S x2 z1 v2 Hv2.out _).mono ?_
 rintro e' w8 ⟨rfl, hf8⟩
 have st8 := st7.keep hf8
 clear hf8
 clear st7
 refine ⟨st8, ?_⟩
 try simp only [clL]
 refine a0s rfl rfl (fun _ => e0y v1 v2 rfl rfl rfl HV.out _) ?_
 try simp only [clL]
 refine a0s rfl rfl apW ?_
 try simp only [clL]
 refine b0j rfl rfl ?_
 try simp only [clL]
 refine c0e rfl rfl ?_
 try simp only [clL]
 refine b0j rfl rfl ?_
 try simp only [clL]
 refine c0e rfl rfl ?_
 try simp only [clL]
 refine b0j rfl rfl ?_
 try simp only [clL]
 refine c0e rfl rfl ?_
 try simp only [clL]
 refine b0j rfl rfl ?_
 try simp only [clL]
 refine c0e rfl rfl ?_
 try simp only [clL]
 refine d0R rfl rfl ⟨st8, ?_⟩
 try simp only [clL]
 refine d0R rfl rfl ⟨st8, ?_⟩
 try simp only [clL]
 refine d0R rfl rfl ⟨st8, ?_⟩
 try simp only [clL]
 refine d0R rfl rfl ⟨st8, ?_⟩
 try simp only [clL]
 refine b0j rfl rfl ?_
 try simp only [clL]
 refine a0s rfl rfl apW ?_
 try simp only [clL]
 refine f0X rfl rfl ?_
 go_simp
 try simp only [clL]
 refine d0Q ?_
 refine NoPanic.normal ?_
 have hfr := st8.fr
 clear st8
 go_wp2_with fail
 go_ret
 exact ⟨rfl, hfr⟩
theorem u0J (x1 y1 z1 x2 y2 z2 : K) (hb1 : decide (z1 = 0) = false) (hb2 : decide (z2 = 0) = false) (v1 v2 u1 u2 : K) (ev1 : x1 * z2 = v1) (ev2 : x2 * z1 = v2) (eu1 : y1 * z2 = u1) (eu2 : y2 * z1 = u2) (hv : decide (v1 = v2) = true) (b : Bool) (hu : decide (u1 = u2) = b) (w : World) : Calls Tryz.prog 67 #[rpV x1 y1 z1, rpV x2 y2 z2] w fun e w' => e = .returned (.bool b) ∧ Fr Nob w w' := by
 have HB1 := qH hb1
 have HB2 := qH hb2
 clear hb1 hb2
 have Hv1 := qH ev1
 have Hv2 := qH ev2
 have Hu1 := qH eu1
 have Hu2 := qH eu2
 clear ev1 ev2 eu1 eu2
 have HV := qH hv
 have HU := qH hu
 clear hv hu
 unfold rpV rpL
 have st0 := St.start Nob w
 go_enter Tryz.func67, Tryz.ntmps67
 go_wp2_with (with_reducible refine wSk 2 ?_)
 refine a0l st0 rfl rfl rfl (cw 4 (kN x1) ++ (cw 4 (kN y1) ++ cw 4 (kN z1))) rfl ?_
 intro g2 w1 st1
 clear st0
 go_wp2_with (with_reducible refine wSk 3 ?_)
 refine a0l st1 rfl rfl rfl (cw 4 (kN x2) ++ (cw 4 (kN y2) ++ cw 4 (kN z2))) rfl ?_
 intro g3 w2 st2
 clear st1
 go_wp2_with (with_reducible refine wSk 7 ?_)
 refine a0n st2 0 rfl rfl rfl Tryz.underlying62 rfl rfl ap6 ?_
 go_wp2_with fail
 refine (b0S x1 y1 z1 false HB1.out _).mono ?_
 rintro e' w3 ⟨rfl, hf3⟩
 have st3 := st2.keep hf3
 clear st2 hf3
 go_wp2_with (with_reducible refine wSk 9 ?_)
 refine a0n st3 1 rfl rfl rfl Tryz.underlying62 rfl rfl ap6 ?_
 go_wp2_with fail
 refine (b0S x2 y2 z2 false HB2.out _).mono ?_
 rintro e' w4 ⟨rfl, hf4⟩
 have st4 := st3.keep hf4
 clear st3 hf4
 go_wp2_with fail
 refine wp_region_noPanic ?_
 refine b0L (fun wx => St Nob w wx [(g2, cw 4 (kN x1) ++ (cw 4 (kN y1) ++ cw 4 (kN z1)), 62), (g3, cw 4 (kN x2) ++ (cw 4 (kN y2) ++ cw 4 (kN z2)), 62)]) 28 (.w 1 (.t 2 (.w 3 (.t 4 (.w 7 (.t 8 (.w 9 (.t 10 (.r 0 (.r 5 (.r 6 (.r 11 (.w 12 (.w 13 (.w 15 (.t 16 (.w 17 (.t 18 (.w 21 (.t 22 (.w 23 (.t 24 (.r 14 (.r 19 (.r 20 (.r 25 (.w 26 (.w 27 (.m 28 .nil))))))))))))))))))))))))))))) ap13 ap13 st4.drew (fun _ _ _ _ _ h => h) ?_
 have hd4 := st4.drew
 clear st4
 refine a0s rfl rfl apW ?_
 try simp only [clL]
 refine b0k rfl rfl rfl rfl (cw 4 (kN x1)) (fun wx hS => St.rangeL hS 0 rfl 0 _ (i0U _ _ _)) Tryz.underlying60 rfl ap2 ?_
 try simp only [clL]
 refine a0s rfl rfl apW ?_
 try simp only [clL]
 refine b0k rfl rfl rfl rfl (cw 4 (kN z2)) (fun wx hS => St.rangeL hS 1 rfl 8 _ (e0Y _ _ _)) Tryz.underlying60 rfl ap2 ?_
 try simp only [clL]
 refine a0s rfl rfl apW ?_
 try simp only [clL]
 refine b0k rfl rfl rfl rfl (cw 4 (kN x2)) (fun wx hS => St.rangeL hS 1 rfl 0 _ (i0U _ _ _)) Tryz.underlying60 rfl ap2 ?_
 try simp only [clL]
 refine a0s rfl rfl apW ?_
 try simp only [clL]
 refine b0k rfl rfl rfl rfl (cw 4 (kN z1)) (fun wx hS => St.rangeL hS 0 rfl 8 _ (e0Y _ _ _)) Tryz.underlying60 rfl ap2 ?_
 try simp only [clL]
 refine c0w rfl rfl ?_
 go_simp
 refine (a0F _).mono ?_
 rintro e' w5 ⟨rfl, hf5⟩
 have st5 := hd4.keep hf5
 clear hf5
 clear hd4
 refine ⟨st5, ?_⟩
 try simp only [clL]
 refine c0w rfl rfl ?_
 go_simp
 refine (d0S x1 z2 v1 Hv1.out _).mono ?_
 rintro e' w6 ⟨rfl, hf6⟩
 have st6 := st5.keep hf6
 clear hf6
 clear st5
 refine ⟨st6, ?_⟩
 try simp only [clL]
 refine c0w rfl rfl ?_
 go_simp
 refine (a0F _).mono ?_
 rintro e' w7 ⟨rfl, hf7⟩
 have st7 := st6.keep hf7
 clear hf7
 clear st6
 refine ⟨st7, ?_⟩
 try simp only [clL]
 refine c0w rfl rfl ?_
 go_simp
 refine (d0S x2 z1 v2 Hv2.out _).mono ?_
 rintro e' w8 ⟨rfl, hf8⟩
 have st8 := st7.keep hf8
 clear hf8
 clear st7
 refine ⟨st8, ?_⟩
 try simp only [clL]
 refine a0s rfl rfl (fun _ => e0y v1 v2 rfl rfl rfl HV.out _) ?_
 try simp only [clL]
 refine a0s rfl rfl apW ?_
 try simp only [clL]
 refine a0s rfl rfl apW ?_
 try simp only [clL]
 refine b0k rfl rfl rfl rfl (cw 4 (kN y1)) (fun wx hS => St.rangeL hS 0 rfl 4 _ (l0q _ _ _)) Tryz.underlying60 rfl ap2 ?_
 try simp only [clL]
 refine a0s rfl rfl apW ?_
 try simp only [clL]
 refine b0k rfl rfl rfl rfl (cw 4 (kN z2)) (fun wx hS => St.rangeL hS 1 rfl 8 _ (e0Y _ _ _)) Tryz.underlying60 rfl ap2 ?_
 try simp only [clL]
 refine a0s rfl rfl apW ?_
 try simp only [clL]
 refine b0k rfl rfl rfl rfl (cw 4 (kN y2)) (fun wx hS => St.rangeL hS 1 rfl 4 _ (l0q _ _ _)) Tryz.underlying60 rfl ap2 ?_
 try simp only [clL]
 refine a0s rfl rfl apW ?_
 try simp only [clL]
 refine b0k rfl rfl rfl rfl (cw 4 (kN z1)) (fun wx hS => St.rangeL hS 0 rfl 8 _ (e0Y _ _ _)) Tryz.underlying60 rfl ap2 ?_
 try simp only [clL]
 refine c0w rfl rfl ?_
 go_simp
 refine (a0F _).mono ?_
 rintro e' w9 ⟨rfl, hf9⟩
 have st9 := st8.keep hf9
 clear hf9
 clear st8
 refine ⟨st9, ?_⟩
 try simp only [clL]
 refine c0w rfl rfl ?_
 go_simp
 refine (d0S y1 z2 u1 Hu1.out _).mono ?_
 rintro e' w10 ⟨rfl, hf10⟩
 have st10 := st9.keep hf10
 clear hf10
 clear st9
 refine ⟨st10, ?_⟩
 try simp only [clL]
 refine c0w rfl rfl ?_
 go_simp
 refine (a0F _).mono ?_
 rintro e' w11 ⟨rfl, hf11⟩
 have st11 := st10.keep hf11
 clear hf11
 clear st10
 refine ⟨st11, ?_⟩
 try simp only [clL]
 refine c0w rfl rfl ?_
 go_simp
 refine (d0S y2 z1 u2 Hu2.out _).mono ?_
 rintro e' w12 ⟨rfl, hf12⟩
 have st12 := st11.keep hf12
 clear hf12
 clear st11
 refine ⟨st12, ?_⟩
 try simp only [clL]
 refine a0s rfl rfl (fun _ => e0y u1 u2 rfl rfl rfl HU.out _) ?_
 try simp only [clL]
 refine a0s rfl rfl apW ?_
 try simp only [clL]
 refine f0X rfl rfl ?_
 go_simp
 try simp only [clL]
 refine d0Q ?_
 refine NoPanic.normal ?_
 have hfr := st12.fr
 clear st12
 go_wp2_with fail
 go_ret
 exact ⟨rfl, hfr⟩
theorem u0K {x1 y1 z1 x2 y2 z2 : K} (h1 : z1 ≠ 0) (h2 : z2 ≠ 0) : nm x1 y1 z1 = nm x2 y2 z2 ↔ (x1 * z2 = x2 * z1 ∧ y1 * z2 = y2 * z1) := by
 rw [n0j h1, n0j h2]
 have k1 := b0d h1
 have k2 := b0d h2
 generalize c0v z1 = a at *
 generalize c0v z2 = b at *
 constructor
 ·intro h
  injection h with hx hy
  constructor
  ·grind -lia -linarith
  ·grind -lia -linarith
 ·rintro ⟨hx, hy⟩
  have e1 : x1 * a = x2 * b := by grind -lia -linarith
  have e2 : y1 * a = y2 * b := by grind -lia -linarith
  rw [e1, e2]
open Classical in
theorem A0A (s t : RT) (w : World) : Calls Tryz.prog 67 #[.agg s.L.toArray, .agg t.L.toArray] w fun e w' => e = .returned (.bool (decide (s.pt = t.pt))) ∧ Fr Nob w w' := by
 have hs : s.L = rpL s.x s.y s.z := by unfold RT.L; rfl
 have ht : t.L = rpL t.x t.y t.z := by unfold RT.L; rfl
 have ps : s.pt = nm s.x s.y s.z := rfl
 have pt : t.pt = nm t.x t.y t.z := rfl
 rw [hs, ht, ps, pt]
 generalize s.x = x1
 generalize s.y = y1
 generalize s.z = z1
 generalize t.x = x2
 generalize t.y = y2
 generalize t.z = z2
 clear hs ht ps pt
 by_cases h1 : z1 = 0
 ·by_cases h2 : z2 = 0
  ·rw [v0l h1, v0l h2, decide_eq_true rfl]
   exact x0v x1 y1 z1 x2 y2 z2 (decide_eq_true h1) (decide_eq_true h2) w
  ·rw [v0l h1, n0j h2, decide_eq_false (by intro h; cases h)]
   exact x0w x1 y1 z1 x2 y2 z2 (decide_eq_true h1) (decide_eq_false h2) w
 ·by_cases h2 : z2 = 0
  ·rw [n0j h1, v0l h2, decide_eq_false (by intro h; cases h)]
   exact x0x x1 y1 z1 x2 y2 z2 (decide_eq_false h1) (decide_eq_true h2) w
  ·have hi := u0K (x1 := x1) (y1 := y1) (x2 := x2) (y2 := y2) h1 h2
   by_cases hx : x1 * z2 = x2 * z1
   ·by_cases hy : y1 * z2 = y2 * z1
    ·rw [decide_eq_true (hi.2 ⟨hx, hy⟩)]
     exact u0J x1 y1 z1 x2 y2 z2 (decide_eq_false h1) (decide_eq_false h2) _ _ _ _ rfl rfl rfl rfl (decide_eq_true hx) true (decide_eq_true hy) w
    ·rw [decide_eq_false (fun h => hy (hi.1 h).2)]
     exact u0J x1 y1 z1 x2 y2 z2 (decide_eq_false h1) (decide_eq_false h2) _ _ _ _ rfl rfl rfl rfl (decide_eq_true hx) false (decide_eq_false hy) w
   ·rw [decide_eq_false (fun h => hx (hi.1 h).1)]
    exact A0z x1 y1 z1 x2 y2 z2 (decide_eq_false h1) (decide_eq_false h2) _ _ rfl rfl (decide_eq_false hx) w
end Go.Proofs.YtemcankmggmgoaaGreat
namespace Mvp
end Mvp
namespace Go.Proofs.YtemcankmggmgoaaGreat
section
open Go.RowKit Go.Mv Mvp
theorem BPart.ofOwn {w : World} {base : Nat} {v : Value} {n : Nat} {l : List UInt8} (h : Own w base 5 1 v n (bs l)) : BPart w v l := by
 obtain ⟨a, c, rfl, hc, hr, -⟩ := h.form
 exact ⟨a, n, c, rfl, hc, by rw [Nat.mul_one] at hr; exact hr⟩
attribute [local irreducible] a0C lw mix cw b0u b0B b0r a0N a0q beN b0G b0f b0C a0M a0S elN mdL a0Z a0T a0Q
end
section
open Go.RowKit Go.Mv Mvp Mvq
theorem D0n : mQ.M = qN := by decide
theorem u0L (s : ByteArray) (w : World) : Calls Tryz.prog 72 #[.string s] w fun e w' => ∃ N : Nat, e = .returned (.tuple #[i4 N, .bool (a0Q mQ s.data.toList)]) ∧ (a0Q mQ s.data.toList = true → N = beN s.data.toList) ∧ Fr Nob w w' := by
 cases h : a0Q mQ s.data.toList
 ·exact (w0X mQ .one s w h).mono fun e w' ⟨N, k1, k2⟩ => ⟨N, k1, fun h => (by cases h), k2⟩
 ·exact (w0W mQ .one s w h).mono fun e w' k => ⟨_, k.1, fun _ => rfl, k.2⟩
attribute [local irreducible] a0C lw mix cw b0u b0B b0r a0N a0q beN b0G b0f b0C a0M a0S elN mdL a0Q rtV b0J kN kc c0v c0g d0r noR a0R g0b RT.L gXn gYn rpL b0N c0K rdR
end
section
open Go.RowKit Go.Mv Mvp Mvq
theorem q0u (x : Nat) : beN (b0f (x % mQ.M)) = x % mQ.M := p0H _ (Nat.lt_trans (Nat.mod_lt x ap14) ap14)
theorem g0S (x : Nat) : a0Q mQ (b0f (x % mQ.M)) = true := by
 unfold a0Q
 rw [a0Y, q0u, decide_eq_true rfl, decide_eq_true (Nat.mod_lt x ap14)]
 rfl
theorem C0t (p : Pt) : b0b 1 p = p := rfl
attribute [local irreducible] a0C lw mix cw b0u b0B b0r a0N a0q beN b0G b0f b0C a0M a0S elN mdL a0Q rtV b0J kN kc c0v c0g d0r noR a0R g0b RT.L gXn gYn rpL b0N c0K rdR b0b l0R j0s
end
section
open Go.RowKit Go.Mv Mvp Mvq
noncomputable def d0i (xs : List Nat) : List Value := xs.flatMap fun x => cw 4 (elN mQ x)
theorem k0w : ∀ (xs : List Nat) (j : Nat) (hj : j < xs.length), ((d0i xs).drop (j * 4)).take 4 = cw 4 (elN mQ (xs[j]'hj))
 | x :: xs, 0, _ => by
  simp only [d0i, List.flatMap_cons, Nat.zero_mul, List.drop_zero, List.getElem_cons_zero]
  exact List.take_left' (a0f _ _)
 | x :: xs, j + 1, hj => by
  have h := k0w xs j (by simpa using hj)
  simp only [List.getElem_cons_succ]
  rw [← h]
  simp only [d0i, List.flatMap_cons]
  rw [show (j + 1) * 4 = (cw 4 (elN mQ x)).length + j * 4 by rw [a0f]; omega, List.drop_append, List.drop_of_length_le (Nat.le_add_right _ _), List.nil_append, Nat.add_sub_cancel_left]
theorem r0R (xs : List Nat) : (d0i xs).length = xs.length * 4 := by
 induction xs with
 | nil => rfl
 | cons x xs ih => simp only [d0i, List.flatMap_cons, List.length_append, a0f] at *; rw [ih, List.length_cons]; omega
noncomputable def zB (xs : List Nat) : List (List UInt8) := xs.map fun x => b0f (x % mQ.M)
theorem A0B (xs : List Nat) (j : Nat) (hj : j < xs.length) : (zB xs).take (j + 1) = (zB xs).take j ++ [b0f (xs[j]'hj % mQ.M)] := by
 rw [List.take_succ_eq_append_getElem (by simpa [zB] using hj)]
 simp [zB]
theorem q0v (xs : List Nat) : (zB xs).length = xs.length := by simp [zB]
theorem e0S : (Tryz.prog.info? 22).map (fun i => (i.zero, i.size, i.bytes)) = some (some (.slice none 0 0), 1, 24) := by kernel_rfl
attribute [local irreducible] a0C lw mix cw b0u b0B b0r a0N a0q beN b0G b0f b0C a0M a0S elN mdL a0Q rtV b0J c0g b0N c0K a0T e0d l0R j0s b0b b0v b0H toB a0x a0G b0w c0f a0K c0s b0e a0B c0k d0V d0i
theorem D0X (x y : Nat) (w : World) :
  Calls Tryz.prog 117 #[i4 (elN mQ x), i4 (elN mQ y)] w fun e w' => e = .returned (i4 (elN mQ (x + y))) ∧ Fr Nob w w' := by
 have st0 := St.start Nob w
 go_enter Tryz.func117, Tryz.ntmps117
 go_wp2_with (with_reducible refine wSk 2 ?_)
 refine a0l st0 rfl rfl rfl (cw 4 (elN mQ x)) rfl ?_
 intro g2 w1 st1
 clear st0
 go_wp2_with (with_reducible refine wSk 3 ?_)
 refine a0l st1 rfl rfl rfl (cw 4 (elN mQ y)) rfl ?_
 intro g3 w2 st2
 clear st1
 go_wp2_with (with_reducible refine wSk 4 ?_)
 refine a0a st2 rfl rfl (z := zAd) ap13 (cw 4 0) ap11 ?_
 intro g4 w3 st3
 clear st2
 go_wp2_with fail
 refine wp_region_noPanic ?_
 refine a0p (fun wx => St Nob w wx [(g2, cw 4 (elN mQ x), 68), (g3, cw 4 (elN mQ y), 68), (g4, cw 4 0, 68)]) 7 (.w 1 (.t 2 (.w 3 (.t 4 (.r 0 (.r 5 (.w 6 (.m 7 .nil)))))))) ap13 ap13 st3.drew (fun _ _ _ _ _ h => h) ?_
 have hd3 := st3.drew
 clear st3
 refine a0k rfl rfl apW ?_
 try simp only [clL]
 refine a0r rfl rfl rfl rfl (cw 4 (elN mQ x)) (fun wx hS => St.rangeL hS 0 rfl 0 _ dZl) Tryz.underlying66 rfl ap6 ?_
 try simp only [clL]
 refine a0k rfl rfl apW ?_
 try simp only [clL]
 refine a0r rfl rfl rfl rfl (cw 4 (elN mQ y)) (fun wx hS => St.rangeL hS 1 rfl 0 _ dZl) Tryz.underlying66 rfl ap6 ?_
 try simp only [clL]
 refine a0y rfl rfl ?_
 go_simp
 refine (d0N mQ .one _).mono ?_
 rintro e' w4 ⟨gp, rfl, hle, hm, hf4⟩
 have st4 : St Nob w w4 [(g2, cw 4 (elN mQ x), 68), (g3, cw 4 (elN mQ y), 68), (g4, cw 4 0, 68), (gp, mdL mQ, 187)] := hd3.new hf4 hm hle
 clear hf4 hm hle
 clear hd3
 refine ⟨St.less st4 ap16, ?_⟩
 try simp only [clL]
 refine a0y rfl rfl ?_
 go_simp
 refine (g0C mQ gp _ e0V (st4.at 3 rfl) x y).mono ?_
 rintro e' w5 ⟨rfl, hf5⟩
 have st5 := st4.keep hf5
 clear hf5
 clear st4
 refine ⟨St.less st5 ap16, ?_⟩
 try simp only [clL]
 refine a0k rfl rfl (b0p rfl _ (i0S _)) ?_
 try simp only [clL]
 refine a0o rfl rfl ?_
 refine a0i st5 2 rfl rfl rfl rfl ap7 ap6 (a0g _ _) ?_
 intro w6 st6
 clear st5
 try simp only [Act.put]
 refine a0h ?_
 refine NoPanic.normal ?_
 have hr := st6.at 2 rfl
 have hfr := st6.fr
 clear st6
 go_wp2_with fail
 exact bodyPost_ret (a0v rfl rfl hr Tryz.underlying68 rfl ap6) rfl ⟨rfl, hfr⟩
theorem C0u (z x y : Nat) (w : World) :
  Calls Tryz.prog 49 #[i4 (elN mQ z), i4 (elN mQ x), i4 (elN mQ y)] w fun e w' => e = .returned (i4 (elN mQ (z + x * y))) ∧ Fr Nob w w' := by
 have st0 := St.start Nob w
 go_enter Tryz.func49, Tryz.ntmps49
 go_wp2_with (with_reducible refine wSk 3 ?_)
 refine a0l st0 rfl rfl rfl (cw 4 (elN mQ z)) rfl ?_
 intro g3 w1 st1
 clear st0
 go_wp2_with (with_reducible refine wSk 4 ?_)
 refine a0l st1 rfl rfl rfl (cw 4 (elN mQ x)) rfl ?_
 intro g4 w2 st2
 clear st1
 go_wp2_with (with_reducible refine wSk 5 ?_)
 refine a0l st2 rfl rfl rfl (cw 4 (elN mQ y)) rfl ?_
 intro g5 w3 st3
 clear st2
 go_wp2_with (with_reducible refine wSk 6 ?_)
 refine a0a st3 rfl rfl (z := zAd) ap13 (cw 4 0) ap11 ?_
 intro g6 w4 st4
 clear st3
 go_wp2_with fail
 refine wp_region_noPanic ?_
 refine a0e st4 5 [.t 0, .t 1, .t 2, .c 3, .c 4] (.m 5 .nil) ap13 ap13 (fun _ _ _ _ _ h => h) ?_
 clear st4
 refine a0d rfl rfl rfl (fun _ => rfl) (cw 4 (elN mQ z)) (fun wx hS => St.rangeL hS 0 rfl 0 _ dZl) Tryz.underlying68 rfl ap6 ?_
 try simp only [clL]
 refine a0d rfl rfl rfl (fun _ => rfl) (cw 4 (elN mQ x)) (fun wx hS => St.rangeL hS 1 rfl 0 _ dZl) Tryz.underlying68 rfl ap6 ?_
 try simp only [clL]
 refine a0d rfl rfl rfl (fun _ => rfl) (cw 4 (elN mQ y)) (fun wx hS => St.rangeL hS 2 rfl 0 _ dZl) Tryz.underlying68 rfl ap6 ?_
 try simp only [clL]
 refine a0c rfl rfl rfl Tryz.call92 (fun w hS hR => w0m mQ .one x y _) (fun _ => rfl) ?_
 try simp only [clL]
 refine a0c rfl rfl rfl Tryz.call117 (fun w hS hR => D0X z (x * y) _) (fun _ => rfl) ?_
 try simp only [clL]
 refine a0u fun xq w5 st5 hR => ?_
 try dsimp only
 clear hR xq
 refine a0o rfl rfl ?_
 refine a0i st5 3 rfl rfl rfl rfl ap7 ap6 (a0g _ _) ?_
 intro w6 st6
 repeat (first | simp only [List.cons_append] at st6 | simp only [List.nil_append] at st6 | simp only [List.set_cons_succ] at st6 | simp only [List.set_cons_zero] at st6)
 clear st5
 try simp only [Act.put]
 refine a0h ?_
 refine NoPanic.normal ?_
 have hr := st6.at 3 rfl
 have hfr := st6.fr
 clear st6
 go_wp2_with fail
 exact bodyPost_ret (a0v rfl rfl hr Tryz.underlying68 rfl ap6) rfl ⟨rfl, hfr⟩
theorem x0y (al : Option Addr) (c : Nat) (xs : List Nat) (w : World) (hv : Rd w al (xs.length * 4) (d0i xs)) (hn : xs.length ≤ 100000) :
  Calls Tryz.prog 133 #[.slice al xs.length c] w fun e w' => ∃ v, e = .returned v ∧ SOwn w' w.heap.size v (zB xs) ∧ Fr Nob w w' := by
 have HV := qH hv
 clear hv
 go_enter Tryz.func133, Tryz.ntmps133
 go_wp2_with fail
 go_loopw [3, 8] (fun q i wr => ∃ j : Nat, j ≤ xs.length ∧ i = .int .i64 (j : Int) ∧ SOwn wr w.heap.size q ((zB xs).take j) ∧ Fr Nob w wr) (fun _ i _ => (xs.length - intOf i).toNat)
 case atStart => exact ⟨0, by omega, rfl, by rw [List.take_zero]; exact SOwn.nil _ _, Fr.refl _ _⟩
 case round =>
  obtain ⟨j, hj, rfl, hS, hfj⟩ := hrel
  by_cases hlt : j < xs.length
  ·have hltI : (j : Int) < (xs.length : Int) := by omega
   have hnI : (xs.length : Int) ≤ 100000 := by omega
   have hV := HV.out.still hfj
   obtain ⟨b, o, rfl, hat⟩ := hV.at ap15
   have hat4 : At wr b (o + j * 4) (cw 4 (elN mQ xs[j])) := by
    have := hat.sub (j * 4) 4
    rwa [k0w xs j hlt] at this
   have HTK := qH (A0B xs j hlt)
   generalize xs[j] = x at *
   have HAT := qH hat4
   obtain ⟨vs, hown, hpo, hsep⟩ := hS
   have hll : ((zB xs).take j).length = j := by rw [List.length_take, q0v]; omega
   have hown0 := hown
   rw [hll] at hown
   have HLL := qH hll
   have HO0 := qH hown0
   have HO := qH hown
   have HPO := qH hpo
   have HSEP := qH hsep
   have HFJ := qH hfj
   have st0 := St.start Nob wr
   clear hV hat hat4 hll hown0 hown hpo hsep hfj
   go_wp2_with (with_reducible refine wSk 11 ?_)
   refine h0P rfl rfl Tryz.underlying68 rfl rfl HAT.out (h0F _) ?_
   clear HAT
   go_wp2_with (with_reducible refine wSk 5 ?_)
   refine a0a st0 rfl rfl A0O (cw 4 0) ap11 ?_
   intro g5 w1 st1
   clear st0
   go_wp2_with (with_reducible refine wSn ?_)
   refine a0b st1 0 rfl rfl rfl rfl rfl (l0I _ _) (h0F _) (a0g _ _) ?_
   intro w2 st2
   clear st1
   go_wp2_with (with_reducible refine wSk 13 ?_)
   refine a0n st2 0 rfl rfl rfl Tryz.underlying68 rfl rfl (h0F _) ?_
   go_wp2_with fail
   refine (k0f mQ .one x _).mono ?_
   rintro e' w3 ⟨v, rfl, hown1, hf3⟩
   have hf23 := st2.fr.then hf3
   have HSZ := qH (HFJ.out.size)
   have hown1' := hown1.mono st2.fr.size
   obtain ⟨av, cv, rfl, -⟩ := g0p hown1
   have HO1 := qH hown1'
   have HF3 := qH hf23
   clear st2 hown1 hown1' hf3 hf23
   go_wp2_with (with_reducible refine wSk 15 ?_)
   refine c0i rfl rfl Tryz.underlying39 e0S [.slice av 32 cv] rfl (by simp; rfl) rfl rfl ?_
   intro w4 hh4 hf4 hz4
   clear hz4
   have hownq := (HO.out.still HF3.out).still hf4
   have hfr4 := (HFJ.out.then HF3.out).then hf4
   have HF4 := qH hf4
   clear hf4
   generalize w3.heap.size = g1 at *
   have hsz4 := hfr4.size
   have hrd4 := Rd.whole hh4
   clear hh4
   have HRD4 := qH hrd4
   have HQ4 := qH hownq
   have HFR4 := qH hfr4
   have HZ4 := qH hsz4
   clear hrd4 hownq hfr4 hsz4
   go_wp2_with (with_reducible refine wSk 16 ?_)
   refine d0G rfl rfl Tryz.underlying39 e0S rfl ap14 HQ4.out rfl rfl HRD4.out (fun u hu => by simp only [List.mem_singleton] at hu; subst hu; rfl) ap10 ap15 HZ4.out ?_
   intro v5 w5 hown5 hf5 hb5
   clear hb5
   have hfr5 := HQ4.out.fr HFR4.out (Nat.le_refl _) hf5
   have hfin : SOwn w5 w.heap.size v5 ((zB xs).take (j + 1)) := by
    rw [HTK.out]
    refine SOwn.snocF (w := wr) HO0.out HPO.out HSEP.out HSZ.out (by rw [a0Y]; exact HO1.out) HF3.out HF4.out (by rw [HLL.out]; exact hown5) hf5
   have HFIN := qH hfin
   have HFR5 := qH hfr5
   clear hown5 hf5 hfr5 hfin HQ4 HRD4 HFR4 HZ4 HO HO0 HPO HSEP HO1
   go_wp2_with fail
   go_roundw
   case rel => exact ⟨j + 1, by omega, by go_num, HFIN.out, HFR5.out⟩
   case measure => simp [intOf]; omega
  ·have hge : ¬ ((j : Int) < (xs.length : Int)) := by omega
   rw [List.take_of_length_le (by rw [q0v]; omega)] at hS
   have HS := qH hS
   have HF := qH hfj
   clear hS hfj hlt
   go_wp2_with fail
   go_ret
   exact ⟨_, rfl, HS.out, HF.out⟩
theorem OwnB1.back {w0 w w' : World} {v : Value} {l : List UInt8} (h : OwnB1 w w' v l) (hs : w0.heap.size ≤ w.heap.size) : OwnB1 w0 w' v l := Own.mono h hs
theorem OwnU.b1 {w w' : World} {v : Value} {l : List UInt8} (h : OwnB1 w w' v l) : OwnU w' v l := Own.mono h (Nat.zero_le _)
theorem OwnU.ptb {w : World} {v : Value} {l : List UInt8} (h : OwnU w v l) (hn : l.length ≤ 1000000) : PartIs w v l := b0T h hn
theorem POwn.bpartsT {w : World} {base : Nat} : ∀ {vs : List Value} {ls : List (List UInt8)}, POwn w base vs ls → BParts w vs ls := by
 intro vs ls h
 refine ⟨h.len, fun i v hv => ?_⟩
 obtain ⟨l, hl, ho⟩ := h.get i v hv
 obtain ⟨a, c, rfl, hc, hr, -⟩ := ho.form
 rw [Nat.mul_one] at hr
 rw [List.getD_eq_getElem?_getD, hl]
 exact ⟨a, _, c, rfl, hc, hr⟩
theorem SOwn.bpartsT {w : World} {base : Nat} {v : Value} {ls : List (List UInt8)} (h : SOwn w base v ls) : ∃ a c vs, v = .slice a ls.length c ∧ Rd w a ls.length vs ∧ BParts w vs ls := by
 obtain ⟨vs, h1, h2, h3⟩ := h
 obtain ⟨a, c, rfl, hc, hr, -⟩ := h1.form
 rw [Nat.mul_one] at hr
 exact ⟨a, c, vs, rfl, hr, h2.bpartsT⟩
theorem D0o (al : Option Addr) (c : Nat) (xs : List Nat) (bl : Option Addr) (d : Nat) (us : List Value) (lp : List (List UInt8)) (w : World) (hv : Rd w al (xs.length * 4) (d0i xs)) (hn : xs.length ≤ 100000) (hu : Rd w bl lp.length us) (hq : BParts w us lp) :
  Calls Tryz.prog 62 #[.slice al xs.length c, .slice bl lp.length d] w fun e w' => ∃ v, e = .returned v ∧ OwnB1 w w' v (j0s (zB xs) lp) ∧ Fr Nob w w' := by
 have HV := qH hv
 have HU := qH hu
 have HQ := qH hq
 clear hv hu hq
 go_enter Tryz.func62, Tryz.ntmps62
 go_wp2_with fail
 refine (x0y al c xs _ HV.out hn).mono ?_
 rintro e' w2 ⟨v, rfl, hs, hf2⟩
 obtain ⟨a, c2, vs, rfl, hr, hb⟩ := hs.bpartsT
 have HR := qH hr
 have HB := qH hb
 have HF := qH hf2
 clear hs hr hb hf2 HV
 go_wp2_with fail
 refine (A0x a c2 vs (zB xs) bl d us lp _ HR.out HB.out (HU.out.still HF.out) (HQ.out.still HF.out)).mono ?_
 rintro e' w3 ⟨v, rfl, ho, hf3⟩
 have HO := qH (OwnB1.back ho HF.out.size)
 have hfr := HF.out.then hf3
 clear ho hf3 HF HR HB HU HQ
 go_wp2_with fail
 go_ret
 exact ⟨v, rfl, HO.out, hfr⟩
end
end Go.Proofs.YtemcankmggmgoaaGreat
namespace Go.Mv
open Go.RowKit
section
variable {P : Program} {w w0 : World} {o : Oper} {a : Act} {S : Nat → Prop} {bl : List (Nat × List Value × TypeId)} {K : Act → World → Prop} {Q : Exit → Act → World → Prop}
theorem k0x {s x : Operand} {t : TypeId} (ho : o.op = .call { callee := .builtin .append, args := #[s, x], argTypes := #[t, t] })
  {e : TypeId} {z : Value} {sz by_ : Nat} (ht : P.underlying t = some (.slice e)) (hi0 : (P.info? e).map (fun i => (i.zero, i.size, i.bytes)) = some (some z, sz, by_))
  (hzs : z.cells.size = sz) (hsz : 0 < sz)
  {v : Value} {n base : Nat} {L : List Value} (hown : Own w base e sz v n L) (hs : a.eval s = v)
  {xa : Option Addr} {m c : Nat} {news : List Value} (hx : a.eval x = .slice xa m c) (hnews : Rd w xa (m * sz) news) (h1 : ∀ u ∈ news, u.oneCell' = true)
  (h63 : n + m ≤ maxLen) (hbytes : (n + m) * by_ ≤ 140737488355328) (hbase : base ≤ w.heap.size)
  (h : ∀ v' w', Own w' base e sz v' (n + m) (L ++ news) → Fr (j0M v) w w' → K (a.put o.dst v') w') : o.wp P a w K Q := by
 obtain ⟨v', w', hr, h2, h3, -⟩ := i0g (P := P) base t o.type e z sz by_ ht hi0 hzs hsz v n L hown xa m c news hnews h1 h63 hbytes hbase
 unfold Oper.wp execOp
 simp only [ho, resolve, invoke, builtin, Sem.run_bind, Sem.run_pure, Result.andThen_ok, List.map_toArray, List.map_cons, List.map_nil, hs, hx, hr]
 exact h v' w' h2 h3
theorem St.ofFr (h : Fr S w0 w) : St S w0 w [] := ⟨h, by simp, by simp, List.Pairwise.nil⟩
end
end Go.Mv
namespace Go.Proofs.YtemcankmggmgoaaGreat
section
open Go.RowKit Go.Mv Mvp Mvq
theorem OwnB1.ptb {w w' : World} {v : Value} {l : List UInt8} (h : OwnB1 w w' v l) (hn : l.length ≤ 1000000) : PartIs w' v l := b0T h hn
attribute [local irreducible] a0C lw mix cw b0u b0B b0r a0N a0q beN b0G b0f b0C a0M a0S elN mdL a0Q rtV b0J c0g b0N c0K a0T e0d l0R j0s b0b b0v b0H toB a0x a0G b0w c0f a0K c0s b0e a0B c0k d0V d0i c0m chN tS
theorem u0M {w : World} {a : Option Addr} {n c : Nat} {l : List UInt8} (h : PartIs w (.slice a n c) l) : RdB w a n l := by
 obtain ⟨a', n', c', he, -, -, hr, -⟩ := h
 cases he
 exact hr
end
section
open Go.RowKit Go.Mv Mvp Mvq
def e0e : List UInt8 := [112, 111, 105, 110, 116, 32]
def hB (label b : List UInt8) (i : Nat) : List UInt8 := c0k (e0e ++ label) [b, [UInt8.ofNat i]]
def hN (label b : List UInt8) (i : Nat) : Nat := beN (hB label b i)
theorem D0p {n : Nat} (h : b0J mP.M (d0w n) = true) : onC (.A (kc n) (kc (atY mP.M n))) := by
 rw [D0g n h]
 rw [c0U] at h
 exact B0R h
open Classical in
noncomputable def d0X (label b : List UInt8) (i : Nat) : Option PT := if h : hN label b i < mP.M ∧ b0J mP.M (d0w (hN label b i)) = true then some (o0N (hN label b i) (atY mP.M (hN label b i)) (D0p h.2)) else none
theorem i0c {label b : List UInt8} {i n : Nat} (hn : hN label b i = n) (h : ¬ (n < mP.M ∧ b0J mP.M (d0w n) = true)) : d0X label b i = none := by
 subst hn; unfold d0X; rw [dif_neg h]
theorem n0B {label b : List UInt8} {i n : Nat} (hn : hN label b i = n) (h1 : n < mP.M) (h2 : b0J mP.M (d0w n) = true) : d0X label b i = some (o0N n (atY mP.M n) (D0p h2)) := by
 subst hn; unfold d0X; rw [dif_pos ⟨h1, h2⟩]
noncomputable def c0y (label b : List UInt8) (k : Nat) : List PT := (List.range k).filterMap (d0X label b)
theorem k0y (label b : List UInt8) : c0y label b 0 = [] := rfl
theorem g0T {label b : List UInt8} {k : Nat} (h : d0X label b k = none) : c0y label b (k + 1) = c0y label b k := by
 unfold c0y; rw [List.range_succ, List.filterMap_append]; simp [h]
theorem j0t {label b : List UInt8} {k : Nat} {x : PT} (h : d0X label b k = some x) : c0y label b (k + 1) = c0y label b k ++ [x] := by
 unfold c0y; rw [List.range_succ, List.filterMap_append]; simp [h]
theorem u0N (label b : List UInt8) (k : Nat) : (c0y label b k).length ≤ k := by
 unfold c0y
 exact Nat.le_trans (List.length_filterMap_le _ _) ap16
theorem r0S (label b : List UInt8) (k j : Nat) : ∃ l, c0y label b (k + j) = c0y label b k ++ l := by
 induction j with
 | zero => exact ⟨[], by simp⟩
 | succ j ih =>
  obtain ⟨l, hl⟩ := ih
  cases h : d0X label b (k + j) with
  | none => exact ⟨l, by rw [← Nat.add_assoc, g0T h, hl]⟩
  | some x => exact ⟨l ++ [x], by rw [← Nat.add_assoc, j0t h, hl, List.append_assoc]⟩
noncomputable def f0K (label b : List UInt8) : PT := ((c0y label b 256).head?).getD e0h
theorem k0z {label b : List UInt8} (h : c0y label b 256 = []) : f0K label b = e0h := by unfold f0K; rw [h]; rfl
theorem k0A {label b : List UInt8} {k : Nat} {x : PT} (hk : k < 256) (h : d0X label b k = some x) (h0 : c0y label b k = []) : f0K label b = x := by
 obtain ⟨l, hl⟩ := r0S label b (k + 1) (256 - (k + 1))
 rw [show k + 1 + (256 - (k + 1)) = 256 by omega, j0t h, h0] at hl
 unfold f0K
 rw [hl]
 rfl
theorem h0A (w : World) : Calls Tryz.prog 86 #[] w fun e w' => ∃ y : Nat × Nat, e = .returned (.pointer (some ⟨y.1, 0, none⟩)) ∧ (Has w' y.1 (e0b mP y.2 gXn gYn) 125 ∧ Has w' y.2 (mdL mP) 187) ∧ Fr Nob w w' := by
 refine (g0N w).mono ?_
 rintro e w' ⟨gc, k1, _, ⟨gp, h1, h2⟩, k3⟩
 exact ⟨(gc, gp), k1, ⟨h1, h2⟩, k3⟩
theorem f0D {w : World} {g : Nat} {L : List Value} {T : TypeId} (hg : Has w g L T) {o : Oper} {a : Act} {ty : TypeId} {x : Operand} (ho : o.op = .load ty x) {p : Nat} (hx : a.eval x = .pointer (some ⟨g, p, none⟩)) (cs : List Value) (hc : (L.drop p).take cs.length = cs)
  {d : TypeDesc} (hu : Tryz.prog.underlying ty = some d) (hd : d.isRow = true) (hi : (Tryz.prog.info? ty).map (·.size) = some cs.length) : (execOp a.eval o).run Tryz.prog w = .ok (.value (.agg cs.toArray)) w := by
 unfold execOp
 simp only [ho, hx, Instr.loadAt, Instr.sureAddr, Sem.run_bind, Sem.run_pure, Result.andThen_ok, run_loadVar_mid w g p ty cs d (hg.range p cs hc) hu hd hi]
theorem u0O (label : ByteArray) : (⟨#[112, 111, 105, 110, 116, 32]⟩ : ByteArray) ++ label = mkS (e0e ++ label.data.toList) := by
 have : (⟨#[112, 111, 105, 110, 116, 32]⟩ : ByteArray) = mkS e0e := rfl
 rw [this]
 conv => lhs; rw [← c0n label]
 exact d0D _ _
end
end Go.Proofs.YtemcankmggmgoaaGreat
namespace Go.Mv
open Go.RowKit
section
variable {P : Program} {ops : Array Oper} {md : Region.Mode} {Q : Exit → Act → World → Prop} {m : Nat} {S : Nat → Prop} {w0 : World} {tl : Pl}
def d0n (l : List Nat) (x : Nat → Value) : Nat → Value := fun k => if l.contains k then x k else undef
theorem u0P {l : List Nat} {x : Nat → Value} {k : Nat} {v : Value} (h : l.contains k = false) : d0n l (upd x k v) = d0n l x := by
 funext j
 unfold d0n
 by_cases e : l.contains j = true
 ·rw [if_pos e, if_pos e, d0P]
  cases h2 : (j == k) with
  | false => rfl
  | true => rw [eq_of_beq h2, h] at e; cases e
 ·rw [if_neg e, if_neg e]
def A0P (ops : Array Oper) (i : Nat) (a : Act) (v : Value) : Act := match ops[i]? with | some o => a.put o.dst v | none => a
theorem f0t {i : Nat} {o : Oper} (ho : ops[i]? = some o) (a : Act) (v : Value) : A0P ops i a v = a.put o.dst v := by unfold A0P; rw [ho]
def h0G (ops : Array Oper) : List Nat → Act → (Nat → Value) → Act
 | [], a, _ => a
 | i :: s, a, x => h0G ops s (A0P ops i a (x i)) x
theorem n0C {d : Option Tmp} {v : Value} (x : Nat → Value) : ∀ (s : List Nat) (a : Act), (∀ k ∈ s, ∀ ok, ops[k]? = some ok → ok.dst ≠ d ∨ ok.dst = none) → (h0G ops s a x).put d v = h0G ops s (a.put d v) x
 | [], _, _ => rfl
 | i :: s, a, h => by
  unfold h0G
  rw [n0C x s _ fun k hk => h k (List.mem_cons_of_mem _ hk)]
  congr 1
  cases ho : ops[i]? with
  | none => unfold A0P; simp only [ho]
  | some o => rw [f0t ho, f0t ho, l0s _ _ _ _ _ (h i List.mem_cons_self o ho)]
theorem l0S {i : Nat} {v : Value} (x : Nat → Value) : ∀ (s : List Nat) (a : Act), i ∉ s → h0G ops s a (upd x i v) = h0G ops s a x
 | [], _, _ => rfl
 | j :: s, a, h => by
  simp only [List.mem_cons, not_or] at h
  unfold h0G
  rw [l0S x s _ h.2, d0P _ _ _ _ (by simpa using fun e => h.1 e.symm)]
def Apd (ops : Array Oper) (s : List Nat) : Prop := ∀ j ∈ s, ∀ k ∈ s, j ≠ k → ∀ oj ok, ops[j]? = some oj → ops[k]? = some ok → ok.dst ≠ oj.dst ∨ ok.dst = none
theorem Apd.tail {i : Nat} {s : List Nat} (h : Apd ops (i :: s)) : Apd ops s := fun j hj k hk => h j (List.mem_cons_of_mem _ hj) k (List.mem_cons_of_mem _ hk)
theorem q0w {i : Nat} {v : Value} {o : Oper} (ho : ops[i]? = some o) (x : Nat → Value) : ∀ (s : List Nat) (a : Act), i ∈ s → s.Nodup → Apd ops s → (h0G ops s a x).put o.dst v = h0G ops s a (upd x i v)
 | [], _, h, _, _ => by cases h
 | j :: s, a, h, hn, hd => by
  rw [List.nodup_cons] at hn
  by_cases e : i = j
  ·subst e
   unfold h0G
   rw [n0C x s _ fun k hk ok hok => hd i List.mem_cons_self k (List.mem_cons_of_mem _ hk) (fun e => hn.1 (e ▸ hk)) o ok ho hok]
   rw [f0t ho, f0t ho, m0Y, l0S x s _ hn.1, g0F]
  ·have hi : i ∈ s := by
    rcases List.mem_cons.1 h with h | h
    ·exact absurd h e
    ·exact h
   unfold h0G
   rw [q0w ho x s _ hi hn.2 hd.tail, d0P _ _ _ _ (by simpa using fun h => e h.symm)]
theorem n0D : ∀ (s : List Nat) (a : Act), s.Nodup → ∃ x, h0G ops s a x = a
 | [], _, _ => ⟨fun _ => undef, rfl⟩
 | i :: s, a, hn => by
  rw [List.nodup_cons] at hn
  obtain ⟨x, hx⟩ := n0D s a hn.2
  cases ho : ops[i]? with
  | none => exact ⟨x, by unfold h0G A0P; simp only [ho]; exact hx⟩
  | some o =>
   obtain ⟨u, hu⟩ := p0T a o.dst
   refine ⟨upd x i u, ?_⟩
   unfold h0G
   rw [f0t ho, g0F, hu, l0S x s _ hn.1, hx]
def D0G (ops : Array Oper) (s : List Nat) : Bool := s.all fun j => s.all fun k => j == k || match ops[j]?, ops[k]? with | some a, some b => decide (b.dst ≠ a.dst) || decide (b.dst = none) | _, _ => false
theorem u0Q {s : List Nat} (h : D0G ops s = true) : Apd ops s := by
 intro j hj k hk hne oj ok hoj hok
 have := List.all_eq_true.1 (List.all_eq_true.1 h j hj) k hk
 simp only [hoj, hok, Bool.or_eq_true, beq_iff_eq, decide_eq_true_eq] at this
 rcases this with h | h
 ·exact absurd h hne
 ·exact h
def q0x : List Nat → Bool
 | [] => true
 | i :: s => !s.contains i && q0x s
theorem g0a : ∀ {s : List Nat}, q0x s = true → s.Nodup
 | [], _ => List.nodup_nil
 | i :: s, h => by
  simp only [q0x, Bool.and_eq_true, Bool.not_eq_true'] at h
  exact List.nodup_cons.2 ⟨by simpa using h.1, g0a h.2⟩
def u0R (md : Region.Mode) (ops : Array Oper) (m : Nat) (F Lz : List Nat) (pre : Nat → List Nat) (tl : Pl) : Bool :=
 (Lz.all fun i => match ops[i]? with | some o => decide (i ≠ m) && (List.range ops.size).all fun j => j == i || w0g md ops i ops.size j || (match ops[j]? with | some oj => (oj.after.any fun e => Region.binds md e && e.on == i) || o.apart ops oj | none => true) | none => false) && q0x F && D0G ops F &&
 (F.all fun i => match ops[i]? with | some o => o.after.all fun e => !Region.binds md e || (F.contains e.on && decide (e.on < i)) | none => false) &&
 (F.all fun i => (pre i).all fun j => F.contains j && w0g md ops i ops.size j) &&
 ((List.range ops.size).all fun t => F.contains t || F.all fun i => Lz.contains i || w0g md ops t ops.size i) &&
 c0a md ops m tl (e0L (Array.replicate ops.size false) F)
def Obl (P : Program) (ops : Array Oper) (Q : Exit → Act → World → Prop) (G : World → Prop) (A : (Nat → Value) → Act) (pre : Nat → List Nat) (Φ : Nat → (Nat → Value) → World → Prop) (i : Nat) (o : Oper) : Bool → Prop
 | false => ∀ x w, G w → (∀ j ∈ pre i, Φ j (d0n (j :: pre j) x) w) → (Region.wanted o (yielded ops (A x).tmps) = true ∧ o.wp P (A x) w (fun a' w' => ∃ v, a' = (A x).put o.dst v ∧ Fr Nob w w' ∧ Φ i (d0n (i :: pre i) (upd x i v)) w') Q) ∨ (Region.wanted o (yielded ops (A x).tmps) = false ∧ Φ i (d0n (i :: pre i) (upd x i undef)) w)
 | true => ∀ x w, G w → (∀ j ∈ pre i, Φ j (d0n (j :: pre j) x) w) → Region.wanted o (yielded ops (A x).tmps) = true ∧ ∃ v, (∀ wx, (execOp (A x).eval o).run P wx = .ok (.value v) wx) ∧ Φ i (d0n (i :: pre i) (upd x i v)) w
def Obls (P : Program) (ops : Array Oper) (Q : Exit → Act → World → Prop) (G : World → Prop) (A : (Nat → Value) → Act) (pre : Nat → List Nat) (Φ : Nat → (Nat → Value) → World → Prop) (Lz : List Nat) : List Nat → Prop
 | [] => True
 | i :: s => ((∀ o, ops[i]? = some o → Obl P ops Q G A pre Φ i o (Lz.contains i)) ∧
   ∀ y w w', Φ i (d0n (i :: pre i) y) w → Fr Nob w w' → Φ i (d0n (i :: pre i) y) w') ∧ Obls P ops Q G A pre Φ Lz s
theorem Obls.at {G : World → Prop} {A : (Nat → Value) → Act} {pre : Nat → List Nat} {Φ : Nat → (Nat → Value) → World → Prop} {Lz : List Nat} : ∀ {s : List Nat}, Obls P ops Q G A pre Φ Lz s → ∀ i ∈ s, (∀ o, ops[i]? = some o → Obl P ops Q G A pre Φ i o (Lz.contains i)) ∧
      ∀ y w w', Φ i (d0n (i :: pre i) y) w → Fr Nob w w' → Φ i (d0n (i :: pre i) y) w'
  | [], _, _, h => by cases h
  | _ :: _, h, i, hi => by
    rcases List.mem_cons.1 hi with rfl | hi
    · exact h.1
    · exact Obls.at h.2 i hi
theorem k0B {listed : Array Bool} (inv : Cl md ops listed) {k : Nat} : ∀ (f i : Nat), w0g md ops k f i = true → listed.getD k false = true → listed.getD i true = false → False
 | 0, i, h, _, _ => by cases h
 | f + 1, i, h, hk, hun => by
  obtain ⟨j, hj, hj2⟩ := List.any_eq_true.1 h
  simp only [Bool.and_eq_true, Bool.or_eq_true, decide_eq_true_eq] at hj2
  obtain ⟨oj, hoj, e, he, hb, hon⟩ := Region.waitsFor_spec hj2.1
  have hjl : listed.getD j false = true := by
   rcases hj2.2 with rfl | hja
   ·exact hk
   ·cases hl : listed.getD j false with
    | true => rfl
    | false =>
     have hjs : j < listed.size := by rw [inv.size]; exact (Array.getElem?_eq_some_iff.1 hoj).1
     exact (k0B inv f j hja hk (getD_in hjs hl)).elim
  have h2 := inv.closed j oj hoj hjl e he hb
  rw [hon, getD_both hun] at h2
  cases h2
def unl (F : List Nat) (listed : Array Bool) : List Nat := F.filter fun k => !listed.getD k false
theorem A0C {F : List Nat} {listed : Array Bool} {i : Nat} (hi : i < listed.size) : unl F (listed.setIfInBounds i true) = (unl F listed).filter (· != i) := by
 unfold unl
 rw [List.filter_filter]
 refine List.filter_congr fun k _ => ?_
 by_cases e : i = k
 ·subst e; simp [hi]
 ·rw [getD_set_ne false e]
  have h2 : (k != i) = true := by simpa using fun h => e h.symm
  rw [h2, Bool.true_and]
theorem u0S {i : Nat} {o : Oper} {a : Act} {w : World} {K : Act → World → Prop} (ho : ops[i]? = some o) (hg : Region.wanted o (yielded ops a.tmps) = true) (h : o.wp P a w K Q) : wpOp P ops Q i K a w := by
 unfold wpOp
 simp only [ho]
 rw [if_pos hg]
 exact .inl h
theorem r0T {G : World → Prop} {F Lz : List Nat} {a : Act} {pre : Nat → List Nat} {Φ : Nat → (Nat → Value) → World → Prop} (hsel : Region.noSelect ops = true) (hm : m < ops.size) (hQ : ∀ c (d : Option Tmp) v a w, Q (.panic c) (Act.put a d v) w → Q (.panic c) a w)
  (hok : u0R md ops m F Lz pre tl = true) (hG : ∀ w w', G w → Fr Nob w w' → G w') (hob : Obls P ops Q G (h0G ops F a) pre Φ Lz F)
  (hend : ∀ x w, G w → (∀ i ∈ F, Φ i (d0n (i :: pre i) x) w) → b0E P ops Q (fun _ => True) tl (h0G ops F a x) w) :
  ∀ (N : Nat) (listed : Array Bool) (x : Nat → Value) (w : World), (unl F listed).length = N → listed.size = ops.size → Cl md ops listed → (∀ k, listed.getD k false = true → k ∈ F) → G w → (∀ i ∈ F, listed.getD i false = true → Φ i (d0n (i :: pre i) x) w) →
   wpP P md ops Q (fun _ => True) m (N + tl.len) listed (h0G ops F a x) w := by
 simp only [u0R, Bool.and_eq_true] at hok
 obtain ⟨⟨⟨⟨⟨⟨hlz, hnd⟩, hap⟩, haf⟩, hpre⟩, htl⟩, hpl⟩ := hok
 have hnd := g0a hnd
 have hap := u0Q hap
 have hF : ∀ i ∈ F, ∃ o, ops[i]? = some o ∧ True ∧ ∀ e ∈ o.after, Region.binds md e = true → e.on ∈ F ∧ e.on < i := by
  intro i hi
  have := List.all_eq_true.1 haf i hi
  cases ho : ops[i]? with
  | none => simp only [ho] at this; cases this
  | some o =>
   simp only [ho] at this
   refine ⟨o, rfl, trivial, fun e he hb => ?_⟩
   have h2 := Array.all_eq_true'.1 this e he
   simpa [hb] using h2
 have hlt : ∀ i ∈ F, i < ops.size := fun i hi => by obtain ⟨o, ho, _⟩ := hF i hi; exact (Array.getElem?_eq_some_iff.1 ho).1
 intro N
 induction N with
 | zero =>
  intro listed x w hu hsz inv hLF hGw hfacts
  have hall : ∀ i ∈ F, listed.getD i false = true := by
   intro i hi
   cases h : listed.getD i false with
   | true => rfl
   | false =>
    have : i ∈ unl F listed := List.mem_filter.2 ⟨hi, by simp [h]⟩
    rw [List.eq_nil_of_length_eq_zero hu] at this
    cases this
  have he : listed = e0L (Array.replicate ops.size false) F := by
   refine f0o (by simp [b0A, hsz]) fun k hk => ?_
   rw [c0A _ _ _ (by simpa [hsz] using hk)]
   have hk' : k < listed.size := hk
   by_cases hkF : k ∈ F
   ·have h3 : listed.getD k true = true := by
     cases h : listed.getD k true with
     | true => rfl
     | false => have := hall k hkF; rw [getD_both h] at this; cases this
    rw [h3]; simp [hkF]
   ·cases h : listed.getD k true with
    | true =>
     have h2 : listed.getD k false = true := by simpa [hk'] using h
     exact absurd (hLF k h2) hkF
    | false => simp [hkF, hsz ▸ hk']
  have := b0y (md := md) (S := fun _ => True) hsel hm hQ tl listed (h0G ops F a x) w inv (by rw [he]; exact hpl) (fun _ => trivial) (hend x w hGw fun i hi => hfacts i hi (hall i hi))
  simpa using this
 | succ N ih =>
  intro listed x w hu hsz inv hLF hGw hfacts
  have hsome : ∀ (b i : Nat), i < b → i ∈ F → listed.getD i false = false → ∃ k ∈ F, listed.getD k false = false ∧ k ∈ Region.ready md ops listed := by
   intro b
   induction b with
   | zero => intro i h; omega
   | succ b ihb =>
    intro i hib hi hun
    obtain ⟨o, ho, hg, hafter⟩ := hF i hi
    by_cases hall : ∀ e ∈ o.after, Region.binds md e = true → listed.getD e.on false = true
    ·exact ⟨i, hi, hun, mem_ready.2 ⟨getD_in (by rw [hsz]; exact hlt i hi) hun, o, ho, hall⟩⟩
    ·simp only [Classical.not_forall] at hall
     obtain ⟨e, he, hb, hl⟩ := hall
     obtain ⟨h1, h2⟩ := hafter e he hb
     exact ihb e.on ap15 h1 (by simpa using hl)
  have hex : ∃ i, i ∈ F ∧ listed.getD i false = false := by
   cases h : unl F listed with
   | nil => rw [h] at hu; cases hu
   | cons i s =>
    have : i ∈ unl F listed := by rw [h]; exact List.mem_cons_self
    obtain ⟨h1, h2⟩ := List.mem_filter.1 this
    exact ⟨i, h1, by simpa using h2⟩
  obtain ⟨i00, hi00, hun00⟩ := hex
  obtain ⟨i0, hi0, hun0, hr0⟩ := hsome (i00 + 1) i00 (Nat.lt_succ_self _) hi00 hun00
  have e1 : N + 1 + tl.len = (N + tl.len) + 1 := by omega
  rw [e1]
  have hprel : ∀ i ∈ F, i ∈ Region.ready md ops listed → ∀ j ∈ pre i, j ∈ F ∧ listed.getD j false = true := by
   intro i hiF hi j hj
   have h := List.all_eq_true.1 (List.all_eq_true.1 hpre i hiF) j hj
   simp only [Bool.and_eq_true] at h
   have hjF : j ∈ F := by simpa using h.1
   refine ⟨hjF, ?_⟩
   cases hl : listed.getD j false with
   | true => rfl
   | false => exact absurd hi (f0k inv _ _ h.2 (getD_in (by rw [hsz]; exact hlt j hjF) hl))
  have next : ∀ i ∈ F, i ∈ Region.ready md ops listed → ∀ o, ops[i]? = some o → ∀ v w', Fr Nob w w' → Φ i (d0n (i :: pre i) (upd x i v)) w' →
    wpP P md ops Q (fun _ => True) m (N + tl.len) (listed.setIfInBounds i true) ((h0G ops F a x).put o.dst v) w' := by
   intro i hiF hi o ho v w' hfr hΦ
   obtain ⟨hiun, _⟩ := mem_ready.1 hi
   rw [q0w ho x F a hiF hnd hap]
   have hil : i < listed.size := by rw [hsz]; exact hlt i hiF
   refine ih (listed.setIfInBounds i true) (upd x i v) w' ?_ (by simpa using hsz) (inv.set hi) ?_ (hG w w' hGw hfr) ?_
   ·rw [A0C hil]
    have hmem : i ∈ unl F listed := List.mem_filter.2 ⟨hiF, by
     cases h : listed.getD i false with
     | false => rfl
     | true => rw [getD_both hiun] at h; cases h⟩
    have := h0d (l := unl F listed) (m0Z hnd _) hmem
    omega
   ·intro k hk
    by_cases e : i = k
    ·subst e; exact hiF
    ·rw [getD_set_ne false e] at hk; exact hLF k hk
   ·intro k hkF hk
    by_cases e : i = k
    ·subst e; exact hΦ
    ·rw [getD_set_ne false e] at hk
     have h1 := (hob.at k hkF).2 _ _ _ (hfacts k hkF hk) hfr
     rwa [u0P]
     cases h : (k :: pre k).contains i with
     | false => rfl
     | true =>
      exfalso
      have hm : i ∈ k :: pre k := by simpa using h
      rcases List.mem_cons.1 hm with h2 | h2
      ·exact e h2
      ·have h3 := List.all_eq_true.1 (List.all_eq_true.1 hpre k hkF) i h2
       simp only [Bool.and_eq_true] at h3
       exact k0B inv _ _ h3.2 hk hiun
  by_cases hlo : ∃ i ∈ F, i ∈ Region.ready md ops listed ∧ i ∈ Lz
  ·
   obtain ⟨i, hiF, hir, hiL⟩ := hlo
   obtain ⟨o, ho, hg, -⟩ := hF i hiF
   have hO := (hob.at i hiF).1 o ho
   rw [show Lz.contains i = true by simpa using hiL] at hO
   obtain ⟨hg, v, hv, hΦ⟩ := hO x w hGw fun j hj => hfacts j (hprel i hiF hir j hj).1 (hprel i hiF hir j hj).2
   have hl := List.all_eq_true.1 hlz i hiL
   simp only [ho, Bool.and_eq_true, decide_eq_true_eq] at hl
   refine g0A ho (Region.noSelect_spec hsel) (fun c a w => hQ c o.dst v a w) hl.1 hm (N + tl.len) listed (h0G ops F a x) w inv ?_ hir (.inl ⟨hg, fun wx _ => hv wx⟩) (fun _ => trivial) (next i hiF hir o ho v w (Fr.refl _ _) hΦ)
   intro j oj hoj hji hjun hno
   have h := List.all_eq_true.1 hl.2 j (List.mem_range.2 (Array.getElem?_eq_some_iff.1 hoj).1)
   simp only [hoj, Bool.or_eq_true, beq_iff_eq] at h
   rcases h with (h | h) | h | h
   ·exact absurd h hji
   ·exact absurd hir (f0k inv _ _ h hjun)
   ·obtain ⟨k, hk, h2⟩ := Array.any_eq_true.1 h
    simp only [Bool.and_eq_true, beq_iff_eq] at h2
    exact absurd h2.2 (hno _ (Array.getElem_mem hk) h2.1)
   ·exact h
  refine ⟨fun h => (by rw [h] at hr0; cases hr0), fun i hi => ?_⟩
  obtain ⟨hiun, oi, hoi, hiall⟩ := mem_ready.1 hi
  have hisz : i < ops.size := (Array.getElem?_eq_some_iff.1 hoi).1
  have hiF : i ∈ F := by
   have h := List.all_eq_true.1 htl i (List.mem_range.2 hisz)
   simp only [Bool.or_eq_true] at h
   rcases h with h | h
   ·simpa using h
   ·have h2 := List.all_eq_true.1 h i0 hi0
    simp only [Bool.or_eq_true] at h2
    rcases h2 with h2 | h2
    ·exact absurd ⟨i0, hi0, hr0, by simpa using h2⟩ hlo
    ·exact absurd hi (f0k inv _ _ h2 (getD_in (by rw [hsz]; exact hlt i0 hi0) hun0))
  obtain ⟨o, ho, hg, -⟩ := hF i hiF
  have hO := (hob.at i hiF).1 o ho
  have hnl : Lz.contains i = false := by
   cases h : Lz.contains i with
   | false => rfl
   | true => exact absurd ⟨i, hiF, hi, by simpa using h⟩ hlo
  rw [hnl] at hO
  rcases hO x w hGw fun j hj => hfacts j (hprel i hiF hi j hj).1 (hprel i hiF hi j hj).2 with ⟨hgd, hO⟩ | ⟨hgd, hO⟩
  rotate_left 1
  ·unfold wpOp
   simp only [ho]
   rw [if_neg (by rw [hgd]; decide)]
   exact ⟨fun _ _ => trivial, next i hiF hi o ho undef w (Fr.refl _ _) hO⟩
  refine u0S ho hgd (Oper.wp_mono (fun a' w' h' => ?_) hO)
  obtain ⟨v, rfl, hfr, hΦ⟩ := h'
  exact ⟨fun _ _ => trivial, next i hiF hi o ho v w' hfr hΦ⟩
theorem l0T {id : Nat} {a : Act} {w : World} {l : List Oper} (G : World → Prop) (F Lz : List Nat) (pre : Nat → List Nat) (Φ : Nat → (Nat → Value) → World → Prop) (m : Nat) (tl : Pl) (hm : P.follows .mixedOrders = true)
  (hB : (Region.noSelect l.toArray && decide (m < l.toArray.size) && decide (F.length + tl.len = l.toArray.size) && u0R .any l.toArray m F Lz pre tl) = true)
  (hQ : ∀ c (d : Option Tmp) v a w, Q (.panic c) (Act.put a d v) w → Q (.panic c) a w) (hG0 : G w.drew) (hG : ∀ w w', G w → Fr Nob w w' → G w') (hob : Obls P l.toArray Q G (h0G l.toArray F a) pre Φ Lz F)
  (hend : ∀ x w, G w → (∀ i ∈ F, Φ i (d0n (i :: pre i) x) w) → b0E P l.toArray Q (fun _ => True) tl (h0G l.toArray F a x) w) : (Code.region id l.toArray true).wp P Q a w := by
 simp only [Bool.and_eq_true, decide_eq_true_eq] at hB
 obtain ⟨⟨⟨hsel, hms⟩, hlen⟩, hok⟩ := hB
 have inv0 : Cl .any l.toArray (Array.replicate l.toArray.size false) :=
  ⟨by simp, fun j oj _ hl => (by rw [getD_replicate_false] at hl; cases hl)⟩
 have hnd : F.Nodup := by
  have h := hok
  simp only [u0R, Bool.and_eq_true] at h
  exact g0a h.1.1.1.1.1.2
 obtain ⟨x0, hx0⟩ := n0D (ops := l.toArray) F a hnd
 have hul : unl F (Array.replicate l.toArray.size false) = F := by
  unfold unl
  exact List.filter_eq_self.2 fun k _ => by rw [getD_replicate_false]; rfl
 have H := r0T (md := .any) hsel hms hQ hok hG hob hend F.length (Array.replicate l.toArray.size false) x0 w.drew (by rw [hul]) ap16 inv0 (fun k hk => by rw [getD_replicate_false] at hk; cases hk) hG0 (fun i _ hk => by rw [getD_replicate_false] at hk; cases hk)
 rw [hx0, hlen] at H
 exact wp_region_any hm (d0F _ _ _ _ H)
theorem j0I {id : Nat} {a : Act} {w : World} {l : List Oper} (G : World → Prop) (F Lz : List Nat) (pre : Nat → List Nat) (Φ : Nat → (Nat → Value) → World → Prop) (m : Nat) (tl : Pl) (A : (Nat → Value) → Act) (hA : ∀ x, h0G l.toArray F a x = A x) (hm : P.follows .mixedOrders = true)
  (hB : (Region.noSelect l.toArray && decide (m < l.toArray.size) && decide (F.length + tl.len = l.toArray.size) && u0R .any l.toArray m F Lz pre tl) = true)
  (hQ : ∀ c (d : Option Tmp) v a w, Q (.panic c) (Act.put a d v) w → Q (.panic c) a w) (hG0 : G w.drew) (hG : ∀ w w', G w → Fr Nob w w' → G w') (hob : Obls P l.toArray Q G A pre Φ Lz F)
  (hend : ∀ x w, G w → (∀ i ∈ F, Φ i (d0n (i :: pre i) x) w) → b0E P l.toArray Q (fun _ => True) tl (A x) w) : (Code.region id l.toArray true).wp P Q a w := by
 obtain rfl : (h0G l.toArray F a) = A := funext hA
 exact l0T G F Lz pre Φ m tl hm hB hQ hG0 hG hob hend
theorem b0Q {G : World → Prop} {A : (Nat → Value) → Act} {pre : Nat → List Nat} {Φ : Nat → (Nat → Value) → World → Prop} {Lz : List Nat} {i : Nat} {s : List Nat} {o : Oper} (ho : ops[i]? = some o) (hl : Lz.contains i = false)
  (h : ∀ x w, G w → (∀ j ∈ pre i, Φ j (d0n (j :: pre j) x) w) → o.wp P (A x) w (fun a' w' => ∃ v, a' = (A x).put o.dst v ∧ Fr Nob w w' ∧ Φ i (d0n (i :: pre i) (upd x i v)) w') Q)
  (hm : ∀ y w w', Φ i (d0n (i :: pre i) y) w → Fr Nob w w' → Φ i (d0n (i :: pre i) y) w') (hs : Obls P ops Q G A pre Φ Lz s) (hg : o.guard = none := by rfl) : Obls P ops Q G A pre Φ Lz (i :: s) :=
 ⟨⟨fun o' ho' => by
  obtain rfl : o = o' := Option.some.inj (ho.symm.trans ho')
  rw [hl]
  exact fun x w h1 h2 => .inl ⟨by simp [Region.wanted, hg], h x w h1 h2⟩, hm⟩, hs⟩
theorem r0U {G : World → Prop} {A : (Nat → Value) → Act} {pre : Nat → List Nat} {Φ : Nat → (Nat → Value) → World → Prop} {Lz : List Nat} {i : Nat} {s : List Nat} {o : Oper} (ho : ops[i]? = some o) (hl : Lz.contains i = true)
  (h : ∀ x w, G w → (∀ j ∈ pre i, Φ j (d0n (j :: pre j) x) w) → ∃ v, (∀ wx, (execOp (A x).eval o).run P wx = .ok (.value v) wx) ∧ Φ i (d0n (i :: pre i) (upd x i v)) w)
  (hm : ∀ y w w', Φ i (d0n (i :: pre i) y) w → Fr Nob w w' → Φ i (d0n (i :: pre i) y) w') (hs : Obls P ops Q G A pre Φ Lz s) (hg : o.guard = none := by rfl) : Obls P ops Q G A pre Φ Lz (i :: s) :=
 ⟨⟨fun o' ho' => by
  obtain rfl : o = o' := Option.some.inj (ho.symm.trans ho')
  rw [hl]
  exact fun x w h1 h2 => ⟨by simp [Region.wanted, hg], h x w h1 h2⟩, hm⟩, hs⟩
variable {o : Oper} {a : Act} {w : World} {Ψ : Value → World → Prop}
theorem n0E {v : Value} (h : (execOp a.eval o).run P w = .ok (.value v) w) (hΨ : Ψ v w) : o.wp P a w (fun a' w' => ∃ v, a' = a.put o.dst v ∧ Fr Nob w w' ∧ Ψ v w') Q := by
 unfold Oper.wp
 rw [h]
 exact ⟨v, rfl, Fr.refl _ _, hΨ⟩
theorem y0x {v : Nat → Value} {L : List Value} {T : TypeId} (hk : Mk P (execOp a.eval o) v L T) (h : ∀ g w', Fr Nob w w' → w.heap.size ≤ g → Has w' g L T → Ψ (v g) w') : o.wp P a w (fun a' w' => ∃ v, a' = a.put o.dst v ∧ Fr Nob w w' ∧ Ψ v w') Q := by
 obtain ⟨g, w', hr, hf, hle, hg⟩ := hk w
 unfold Oper.wp
 rw [hr]
 exact ⟨v g, rfl, hf, h g w' hf hle hg⟩
theorem q0y {t e : TypeId} {k : Nat} {parts : Array (Nat × Operand)} (hop : o.op = .buildSlice t k parts) (hu : P.underlying t = some (.slice e)) {z : Value} {sz by_ : Nat} (hi0 : (P.info? e).map (fun i => (i.zero, i.size, i.bytes)) = some (some z, sz, by_))
  (vs : List Value) (hp : (parts.toList.map fun p => (p.1, a.eval p.2)) = (vs.zipIdx 0).map fun x => (x.2, x.1)) (hv : ∀ v ∈ vs, v.cells.size = sz) (hk : vs.length = k) (L : List Value) (hL : (vs.flatMap fun v => v.cells.toList) = L)
  (h : ∀ g w', Fr Nob w w' → w.heap.size ≤ g → Has w' g L e → Ψ (.slice (some ⟨g, 0, none⟩) k k) w') (hk0 : 0 < k * sz := by decide) (hk24 : k * sz ≤ 16777216 := by decide) : o.wp P a w (fun a' w' => ∃ v, a' = a.put o.dst v ∧ Fr Nob w w' ∧ Ψ v w') Q :=
 y0x (v := fun g => .slice (some ⟨g, 0, none⟩) k k) (by unfold execOp; simp only [hop]; rw [j0r hp]; exact p0b hu hi0 vs rfl hv hk L hL hk0 hk24) h
theorem u0T {e : TypeId} {z : Value} (hop : o.op = .alloc e) (hi : (P.info? e).map (·.zero) = some (some z)) (L : List Value) (hL : z.cells.toList = L)
  (h : ∀ g w', Fr Nob w w' → w.heap.size ≤ g → Has w' g L e → Ψ (.pointer (some ⟨g, 0, none⟩)) w') : o.wp P a w (fun a' w' => ∃ v, a' = a.put o.dst v ∧ Fr Nob w w' ∧ Ψ v w') Q :=
 y0x (v := fun g => .pointer (some ⟨g, 0, none⟩)) (p0W hi hop L hL) h
theorem u0U {f : FuncId} {xs : Array Operand} {ats : Array TypeId} (hop : o.op = .call { callee := .value (.func f), args := xs, argTypes := ats }) (hcl : ∀ us w, (callFunc f us).run P w = .ok (.enter f us) w)
  {vs : List Value} (hargs : xs.toList.map a.eval = vs) (h : Calls P f vs.toArray w fun e w' => ∃ v, e = .returned v ∧ Fr Nob w w' ∧ Ψ v w') : o.wp P a w (fun a' w' => ∃ v, a' = a.put o.dst v ∧ Fr Nob w w' ∧ Ψ v w') Q :=
 z0w hop hcl hargs (h.mono fun _ _ ⟨v, h1, h2, h3⟩ => ⟨v, h1, v, rfl, h2, h3⟩)
end
end Go.Mv
namespace Go.Proofs.YtemcankmggmgoaaGreat
open Go.RowKit Go.Mv Mvp Mvt
attribute [local irreducible] a0C lw mix cw b0u b0B b0r a0N a0q beN b0G b0f b0C a0M a0S elN mdL a0Z a0T a0Q b0v b0H toB a0x a0G b0w c0f a0K c0s b0e a0B c0k v0i
theorem D0H (p : Nat) (D : List UInt8) (w : World) (hp0 : 0 < p) (hp : p < B64 ^ 4) :
  Calls Tryz.prog 96 #[fv p, .string (mkS (a0K D 31 64))] w fun e w' => e = .returned (i4 (beN (a0K D 31 64) % p)) ∧ Fr Nob w w' := by
 have h := z0s p (mkS (a0K D 31 64)) w hp0 hp (by rw [a0t, i0t]; decide)
 simpa [mkS] using h
end Go.Proofs.YtemcankmggmgoaaGreat
namespace Go.Mv
open Go.RowKit
variable {P : Program}
end Go.Mv
namespace Go.Mv
open Go.RowKit Go.ChangeShapes Go.WideShapes
theorem Below.trodAll {H : Type} {enc : TypeId × Value → H} {P : Program} (hl : laidOutB P = true) {W W' : World} (hb : Below W.heap.size W W') :
  ∀ (ts : List TypeId) (vs : List Value) (ds : List (DataW H)) (ps : List MemPlace), (∀ t ∈ ts, P.readableRec t = true ∧ t < P.types.size) → DataW.TrodAll enc P W 0 (fun _ => true) true ts vs ds ps → (∀ x ∈ ps, x.block < W.heap.size) →
   DataW.TrodAll enc P W' 0 (fun b => decide (b < W.heap.size)) true ts vs ds ps
 | [], vs, ds, ps, _, h, _ => by
  obtain ⟨rfl, rfl, rfl⟩ := trodAll_nil h
  exact trodAll_mk0
 | t :: ts, vs, ds, ps, hr, h, hlt => by
  obtain ⟨v, vs', d, ds', p, q, rfl, rfl, rfl, h0, hs⟩ := trodAll_cons h
  have h1 := hr t ap16
  exact trodAll_cons_mk (Below.trod hl h1.1 h1.2 h0 hb (fun x hx => hlt x (by simp [hx]))) (Below.trodAll hl hb ts vs' ds' q (fun t ht => hr t (by simp [ht])) hs (fun x hx => hlt x (by simp [hx])))
theorem x0z {H : Type} {enc : TypeId × Value → H} {P : Program} {f : Func} {s : ChangeSpec} {W W' : World} {args : Array Value} {ds gs : List (DataW H)} {before : List MemPlace}
  (hl : laidOutB P = true) (hr : ∀ t ∈ f.params.toList, P.readableRec t = true ∧ t < P.types.size) (hW : DataW.Whole enc P f.params.toList s.vars false W args.toList ds gs before)
  (hv : s.vars = []) (hres : (s.fn H (ds ++ gs)).results = [.lit (.bool true)]) (harg : (s.fn H (ds ++ gs)).args = ds) (hvar : (s.fn H (ds ++ gs)).vars = [])
  {tb : TypeId} (hrt : f.resultTypes = #[tb]) (hu : P.underlying tb = some .bool) (hf : Fr Nob W W') :
  s.post enc P f false true false false W args (.bool true) W' := by
 have hW' := hW
 obtain ⟨p, q, hA, hV, rfl, hfz, hnd⟩ := hW
 rw [hv] at hV
 obtain ⟨rfl, rfl⟩ := trodVars_none hV
 have hlt : ∀ x ∈ p ++ [], x.block < W.heap.size := fun x hx => hW'.lt x hx
 refine ⟨ds, [], p ++ [], [], p, [], hW', ?_, ?_, ?_, World.keptBut_mono (fun x hx => ⟨hx, ?_⟩) (hf.below.frame (· ∈ p ++ [])), fun h => by cases h⟩
 ·rw [hres, hrt]
  exact trodAll_mk1 (shut_bool hu true)
 ·rw [harg]
  exact Below.trodAll hl hf.below _ _ _ _ hr hA (fun x hx => hlt x (by simp [hx]))
 ·rw [hvar, hv]; exact rfl
 ·simp only [List.append_nil] at hx
  exact .inr (.inl hx)
end Go.Mv
namespace Go.Proofs.YtemcankmggmgoaaGreat
section
open Go.RowKit Go.Mv Mvp Mvq
theorem f0E {w : World} {a : Option Addr} {n c : Nat} {l : List UInt8} (h : PartIs w (.slice a n c) l) (k : Nat) (hk : k ≤ n) : PartIs w (.slice a k c) (l.take k) := by
 obtain ⟨a', n', c', he, hc, hn, hr, ho⟩ := h
 cases he
 have h2 := Rd.take (show Rd w a n (bs l) from hr) k hk
 rw [e0Z] at h2
 exact ⟨a, k, c, rfl, by omega, by omega, h2, ho⟩
theorem f0F {w : World} {b o n c : Nat} {l : List UInt8} (h : PartIs w (.slice (some ⟨b, o, none⟩) n c) l) (k : Nat) (hk : k ≤ n) : PartIs w (.slice (some ⟨b, o + k, none⟩) (n - k) (c - k)) (l.drop k) := by
 obtain ⟨a', n', c', he, hc, hn, hr, ho⟩ := h
 cases he
 have hlen := hr.len
 refine ⟨_, _, _, rfl, by omega, by omega, ?_, ?_⟩
 ·refine ⟨by rw [a0O, List.length_drop]; omega, ?_⟩
  by_cases hz : n - k = 0
  ·exact .inl hz
  ·obtain ⟨b', o', e, hat⟩ := Rd.at hr ap15
   cases e
   refine .inr ⟨_, _, rfl, ?_⟩
   have h2 := hat.sub k (n - k)
   have e2 : ((bs l).drop k).take (n - k) = bs (l.drop k) := by
    rw [List.take_of_length_le (by rw [List.length_drop, a0O]; omega)]
    simp [bs, List.map_drop]
   rwa [e2] at h2
 ·intro x hx
  cases hx
  exact ho ⟨b, o, none⟩ rfl
theorem b0M {w : World} {v : Value} {l : List UInt8} (h : PartIs w v l) : BPart w v l := h.bpart
attribute [local irreducible] a0C lw mix cw b0u b0B b0r a0N a0q beN b0G b0f b0C a0M a0S elN mdL a0Q rtV b0J c0g b0N c0K a0T e0d l0R j0s b0b b0v b0H toB a0x a0G b0w c0f a0K c0s b0e a0B c0k d0V d0i c0m chN tS
end
section
open Go.RowKit Go.Mv Mvp Mvq
theorem q0z : ∀ (xs : List Nat) (lp : List (List UInt8)), (∀ l ∈ lp, b0N l = true) → e0X (List.zipWith (fun x l => (x % mQ.M, c0K l)) xs lp) = e0X (List.zipWith (fun x l => (x, c0K l)) xs lp)
 | [], _, _ => rfl
 | _ :: _, [], _ => rfl
 | x :: xs, l :: lp, h => by
  simp only [List.zipWith_cons_cons, e0X]
  rw [q0z xs lp fun k hk => h k (List.mem_cons_of_mem _ hk), D0n, w0V (z0M (h l List.mem_cons_self))]
theorem C0v (xs : List Nat) (lp : List (List UInt8)) (hl : xs.length = lp.length) (h5 : xs.length ≤ 512) (hr : ∀ l ∈ lp, b0N l = true) : j0s (zB xs) lp = c0g (e0X (List.zipWith (fun x l => (x, c0K l)) xs lp)) := by
 have hn : a0T mQ (zB xs) = true := by
  unfold a0T zB
  rw [List.all_eq_true]
  intro y hy
  obtain ⟨x, _, rfl⟩ := List.mem_map.1 hy
  exact g0S x
 have hr2 : e0d lp = true := by unfold e0d; rw [List.all_eq_true]; exact hr
 unfold j0s
 rw [if_pos (by rw [q0v]; exact hl), if_pos (by rw [q0v]; exact h5), hn, hr2, if_pos rfl, if_pos rfl, ← q0z xs lp hr]
 congr 2
 apply List.ext_getElem (by simp [smL, hl])
 intro i h1 h2
 simp only [smL, List.length_map, List.length_range] at h1
 have h3 : i < xs.length := by omega
 simp [smL, zB, List.getD_eq_getElem?_getD, h1, h3, q0u]
theorem n0F {w : World} {a : Option Addr} {n c : Nat} {b : List UInt8} (hb : PartIs w (.slice a n c) b) : b.length = n := (u0M hb).len
theorem D0q (x : Nat) : (i4 x).cells.size = 4 := by simp [i4, Value.cells, a0f]
attribute [local irreducible] a0C lw mix cw b0u b0B b0r a0N a0q beN b0G b0f b0C a0M a0S elN mdL a0Q rtV b0J c0g b0N c0K a0T e0d l0R j0s b0b b0v b0H toB a0x a0G b0w c0f a0K c0s b0e a0B c0k d0V d0i c0m chN tS e0X
theorem BParts.three {w : World} {v1 v2 v3 : Value} {l1 l2 l3 : List UInt8} (h1 : BPart w v1 l1) (h2 : BPart w v2 l2) (h3 : BPart w v3 l3) : BParts w [v1, v2, v3] [l1, l2, l3] := ⟨rfl, fun i x hx => by
 match i with
 | 0 => simp at hx; subst hx; exact h1
 | 1 => simp at hx; subst hx; exact h2
 | 2 => simp at hx; subst hx; exact h3
 | i + 3 => simp at hx⟩
end
section
open Go.RowKit Go.Mv Mvp Mvq
attribute [local irreducible] a0C lw mix cw b0u b0B b0r a0N a0q beN b0G b0f b0C a0M a0S elN mdL a0Q rtV b0J c0g b0N c0K a0T e0d l0R j0s b0b b0v b0H toB a0x a0G b0w c0f a0K c0s b0e a0B c0k d0V d0i c0m chN tS e0X
end
section
open Go.RowKit Go.Mv Mvp Mvq
theorem C0w {x y : List UInt8} (h : a0T mQ [x, y] = true) : a0Q mQ x = true ∧ a0Q mQ y = true := by
 unfold a0T at h
 simpa using h
theorem D0r (al : Option Addr) (n cl : Nat) (vs : List Value) (ls : List (List UInt8)) (w : World) (hv : Rd w al n vs) (hp : BParts w vs ls) (hn : n ≤ 100000) (h : a0T mQ ls = true) :
  Calls Tryz.prog 70 #[.slice al n cl] w fun e w' => ∃ v, e = .returned (.tuple #[v, .bool true]) ∧ Own w' w.heap.size 68 4 v ls.length (a0Z mQ ls) ∧ Fr Nob w w' :=
 (u0l mQ .one al n cl vs ls w hv hp hn).mono fun e w' k => by obtain ⟨v, h1, h2⟩ := k.1 h; exact ⟨v, h1, h2, k.2.2⟩
theorem D0s (al : Option Addr) (n cl : Nat) (vs : List Value) (ls : List (List UInt8)) (w : World) (hv : Rd w al n vs) (hp : BParts w vs ls) (hn : n ≤ 100000) (h : a0T mQ ls = false) :
  Calls Tryz.prog 70 #[.slice al n cl] w fun e w' => e = .returned (.tuple #[.slice none 0 0, .bool false]) ∧ Fr Nob w w' :=
 (u0l mQ .one al n cl vs ls w hv hp hn).mono fun _ _ k => ⟨k.2.1 h, k.2.2⟩
theorem D0Y (x y : List UInt8) : a0Z mQ [x, y] = cw 4 (elN mQ (beN x)) ++ cw 4 (elN mQ (beN y)) := by simp [a0Z]
attribute [local irreducible] a0C lw mix cw b0u b0B b0r a0N a0q beN b0G b0f b0C a0M a0S elN mdL a0Q rtV b0J c0g b0N c0K a0T e0d l0R j0s b0b b0v b0H toB a0x a0G b0w c0f a0K c0s b0e a0B c0k d0V d0i c0m chN tS e0X a0Z
end
end Go.Proofs.YtemcankmggmgoaaGreat
