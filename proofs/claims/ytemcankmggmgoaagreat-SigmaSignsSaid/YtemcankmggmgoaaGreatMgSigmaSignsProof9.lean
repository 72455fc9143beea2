/- ; ; ; ; ; ; ; ; ; ; ; ; ; ; ; ; ; ; ; ; ; ; ; ; . -/
import Derived.Test.YtemcankmggmgoaaGreatMgSigmaSignsProof8
import Derived.Test.YtemcankmggmgoaaGreatMgSigmaSignsProof6
import Derived.Test.YtemcankmggmgoaaGreatMgSigmaSignsProof1
import Derived.Test.YtemcankmggmgoaaGreatMgSigmaSignsProof7
import Derived.Test.YtemcankmggmgoaaGreatMgSigmaSignsProof5
import Derived.Test.YtemcankmggmgoaaGreatMgSigmaSignsProof2
import Derived.Test.YtemcankmggmgoaaGreatMgSigmaSignsProof4
import Derived.Lib.SlBytesConst
import Derived.ProofKit
import Derived.OpenShut
import Derived.Carry
set_option maxHeartbeats 16000000
set_option maxRecDepth 1000000

namespace Go.Proofs.YtemcankmggmgoaaGreat
section
open Go.RowKit Go.Mv Mvp Mvq
theorem u0j : beN [121, 190, 102, 126, 249, 220, 187, 172, 85, 160, 98, 149, 206, 135, 11, 7, 2, 155, 252, 219, 45, 206, 40, 217, 89, 242, 129, 91, 22, 248, 23, 152] = gXn := by decide
theorem A0e (w : World) : Calls Tryz.prog 173 #[.string ⟨#[121, 190, 102, 126, 249, 220, 187, 172, 85, 160, 98, 149, 206, 135, 11, 7, 2, 155, 252, 219, 45, 206, 40, 217, 89, 242, 129, 91, 22, 248, 23, 152]⟩] w fun e w' => e = .returned (i4 (kN (kc gXn))) ∧ Fr Nob w w' := by
 have h := u0P ⟨#[121, 190, 102, 126, 249, 220, 187, 172, 85, 160, 98, 149, 206, 135, 11, 7, 2, 155, 252, 219, 45, 206, 40, 217, 89, 242, 129, 91, 22, 248, 23, 152]⟩ w (by decide)
 have e : beN [121, 190, 102, 126, 249, 220, 187, 172, 85, 160, 98, 149, 206, 135, 11, 7, 2, 155, 252, 219, 45, 206, 40, 217, 89, 242, 129, 91, 22, 248, 23, 152] = kN (kc gXn) := by rw [u0j]; decide
 rw [← e]
 exact h
theorem m0U : gYn % fP = gYn ∧ gYn % 2 = 0 ∧ gYn < fP := by decide
theorem z0T : b0T fP (kN (kc gXn * kc gXn * kc gXn + 7)) = true ∧ kc (rtV fP (kN (kc gXn * kc gXn * kc gXn + 7))) = kc gYn := by
 have hb : kc gYn * kc gYn = kc gXn * kc gXn * kc gXn + 7 := j0T
 rw [← hb]
 have e : kN (kc gYn * kc gYn) = gYn * gYn % fP := by rw [← a0E, p0n]
 have fp : FP fP := by rw [← q0Z]; exact z0v
 have h4 : fP % 4 = 3 := by decide
 have ho := r0e fp h4 m0U.2.2
 rw [e]
 refine ⟨ho, ?_⟩
 have hlt : gYn * gYn % fP < fP := Nat.mod_lt _ (by decide)
 have hsq := m0F fp hlt ho
 have hev := l0A fp (x := gYn * gYn % fP)
 have h2 := y0u fp.prime m0U.2.2 (Nat.mod_lt (rtV fP (gYn * gYn % fP)) (by decide : 0 < fP)) (by rw [hsq])
 have hy := m0U.2.1
 rcases h2 with h2 | h2
 ·rw [← e0x, h2]
 ·exfalso
  have h3 : (fP - gYn) % fP = fP - gYn := by decide
  rw [h2, h3] at hev
  have h5 : (fP - gYn) % 2 = 1 := by decide
  omega
noncomputable def k0h : RT := z0I (kc gXn) (kc gYn) j0T
theorem o0b : k0h.pt = .A (kc gXn) (kc gYn) := x0a _ _ _
theorem A0f (w : World) : Calls Tryz.prog 141 #[i4 (kN (kc gXn))] w fun e w' => e = .returned (.tuple #[.agg k0h.L.toArray, .bool true]) ∧ Fr Nob w w' := by
 have h := z0J (kc gXn) _ _ _ rfl rfl rfl z0T.1 w
 rw [z0T.2] at h
 exact h
def u0k (b : Nat) : UInt8 := UInt8.ofNat (2 + b)
theorem v0h (b : Nat) (hb : b = 0 ∨ b = 1) : ([Value.int .u8 (2 + (b : Int))].flatMap fun v => v.cells.toList) = bs [u0k b] := by
 rcases hb with rfl | rfl <;> rfl
theorem u0l {T : TypeId} (_ : Tryz.prog.underlying T = some .string) (s t : ByteArray) (h : s.size + t.size ≤ 9223372036854775807) (w : World) : (binOp .add T (.string s) (.string t)).run Tryz.prog w = .ok (.string (s ++ t)) w := by
 have := h
 go_simp
theorem f0O {o : Oper} {a : Act} {p q : Operand} {T U : TypeId} {s t : ByteArray} {r : List UInt8} (ho : o.op = .binOp .add T p q U) (hp : a.eval p = .string s) (hq : a.eval q = .string t) (hT : Tryz.prog.underlying T = some .string) (h : s.size + t.size ≤ 1000000) (hr : s ++ t = mkS r) (w : World) :
  (execOp a.eval o).run Tryz.prog w = .ok (.value (.string (mkS r))) w := by
 have h2 := d0Q (P := Tryz.prog) ho hp hq w (by go_simp) (u0l hT s t (by omega) w)
 rwa [hr] at h2
theorem k0i {P : Program} {o : Oper} {a : Act} {x : Operand} {src dst e : TypeId} (ho : o.op = .convert src dst x) (hs : P.underlying src = some (.slice e)) (he : P.underlying e = some (.int .u8)) (hd : P.underlying dst = some .string) {sa : Option Addr} {m c : Nat} {l : List UInt8}
  (hx : a.eval x = .slice sa m c) {w : World} (h : RdB w sa m l) : (execOp a.eval o).run P w = .ok (.value (.string (mkS l))) w := by
 unfold execOp
 simp only [ho, hx, Sem.run_bind, e0z h c hs he hd, Result.andThen_ok, Sem.run_pure]
theorem m0V (l m : List UInt8) : mkS l ++ mkS m = mkS (l ++ m) := by
 apply ByteArray.ext
 simp [mkS]
theorem A0g : (List.replicate 33 (Value.int .u8 0)) = bs (List.replicate 33 0) := by rfl
attribute [local irreducible] a0F lw mix cw b0n b0v b0k a0M a0q beN b0C b0i b0z a0J a0R elN mdL b0o rtV b0T kN kc c0b b0Z f0P noR c0c f0c RT.L gXn gYn u0k
theorem A0h (w : World) : Calls Tryz.prog 127 #[] w fun e w' => e = .returned (.agg k0h.L.toArray) ∧ Fr Nob w w' := by
 have st0 := St.start Nob w
 go_enter Tryz.func127, Tryz.ntmps127
 go_wp2_with (with_reducible refine wSk 0 ?_)
 refine a0c st0 rfl rfl (z := zAc) (by kernel_rfl) (cw 12 0) (by rw [a0e]; rfl) ?_
 intro g0 w1 st1
 clear st0
 go_wp2_with fail
 refine (A0e _).mono ?_
 rintro e' w2 ⟨rfl, hf2⟩
 have st2 := st1.keep hf2
 clear st1 hf2
 go_wp2_with (with_reducible refine wSk 1 ?_)
 refine a0c st2 rfl rfl (z := zAd) (by kernel_rfl) (cw 4 0) (by rw [a0e]; rfl) ?_
 intro g1 w3 st3
 clear st2
 go_wp2_with (with_reducible refine wSn ?_)
 refine a0b st3 1 rfl rfl rfl rfl rfl (by simp [a0a]) (by kernel_rfl) (a0g _ _) ?_
 intro w4 st4
 clear st3
 go_wp2_with (with_reducible refine wSk 6 ?_)
 refine a0i st4 1 rfl rfl rfl Tryz.underlying60 rfl (by kernel_rfl) ?_
 go_wp2_with fail
 refine (A0f _).mono ?_
 rintro e' w5 ⟨rfl, hf5⟩
 have st5 := st4.keep hf5
 clear st4 hf5
 go_wp2_with (with_reducible refine wSk 2 ?_)
 refine a0c st5 rfl rfl (z := zAc) (by kernel_rfl) (cw 12 0) (by rw [a0e]; rfl) ?_
 intro g2 w6 st6
 clear st5
 go_wp2_with (with_reducible refine wSn ?_)
 refine a0b st6 2 rfl rfl rfl rfl rfl (by first | (simp [a0a]; done) | (simp [RT.len]; done) | (simp [a0a, RT.len]; done) | simp [a0a, RT.len]) (by kernel_rfl) (RT.one _) ?_
 intro w7 st7
 clear st6
 go_wp2_with (with_reducible refine wSk 10 ?_)
 refine a0p st7 2 rfl rfl rfl Tryz.underlying62 rfl rfl (by kernel_rfl) ?_
 go_wp2_with (with_reducible refine wSn ?_)
 refine a0b st7 0 rfl rfl rfl rfl rfl (by first | (simp [a0a]; done) | (simp [RT.len]; done) | (simp [a0a, RT.len]; done) | simp [a0a, RT.len]) (by kernel_rfl) (RT.one _) ?_
 intro w8 st8
 clear st7
 have hr := st8.at 0 rfl
 have hfr := st8.fr
 clear st8
 go_wp2_with fail
 exact bodyPost_ret (a0u rfl rfl hr Tryz.underlying62 rfl (by kernel_rfl)) rfl ⟨rfl, hfr⟩
theorem p0q (x y z : K) (hb : decide (z = 0) = true) (w : World) : Calls Tryz.prog 45 #[rpV x y z] w fun e w' => e = .returned (.string (mkS (List.replicate 33 0))) ∧ Fr Nob w w' := by
 have HB := qH hb
 clear hb
 unfold rpV rpL
 have st0 := St.start Nob w
 go_enter Tryz.func45, Tryz.ntmps45
 go_wp2_with (with_reducible refine wSk 1 ?_)
 refine a0m st0 rfl rfl rfl (cw 4 (kN x) ++ (cw 4 (kN y) ++ cw 4 (kN z))) rfl ?_
 intro g1 w1 st1
 clear st0
 go_wp2_with (with_reducible refine wSk 7 ?_)
 refine a0p st1 0 rfl rfl rfl Tryz.underlying62 rfl rfl (by kernel_rfl) ?_
 go_wp2_with fail
 refine (d0o x y z true HB.out _).mono ?_
 rintro e' w2 ⟨rfl, hf2⟩
 have st2 := st1.keep hf2
 clear st1 hf2
 go_wp2_with (with_reducible refine wSk 10 ?_)
 refine c0o rfl rfl Tryz.underlying22 b0I rfl rfl rfl 33 33 (by simp) (by simp) (by omega) (by omega) (by unfold maxLen; omega) ?_
 intro w3 hg2 hf2 hz2
 clear hz2
 have st3 := st2.new hf2 hg2 (Nat.le_refl _)
 clear st2 hg2 hf2
 rw [A0g] at st3
 go_wp2_with (with_reducible refine wSk 11 ?_)
 refine c0M rfl rfl Tryz.underlying22 Tryz.underlying5 Tryz.underlying9 rfl (l := List.replicate 33 0) (Rd.whole (st3.at 1 rfl)) ?_
 have hfr := st3.fr
 clear st3
 go_wp2_with fail
 go_ret
 exact ⟨rfl, hfr⟩
theorem p0r (x y z : K) (hb : decide (z = 0) = false) (i X Y : K) (ei : c0b z = i) (eX : x * i = X) (eY : y * i = Y) (w : World) : Calls Tryz.prog 45 #[rpV x y z] w fun e w' => e = .returned (.string (mkS (u0k (kN Y % 2) :: b0i (kN X)))) ∧ Fr Nob w w' := by
 have HB := qH hb
 clear hb
 have Hi := qH ei
 have HX := qH eX
 have HY := qH eY
 clear ei eX eY
 unfold rpV rpL
 have st0 := St.start Nob w
 go_enter Tryz.func45, Tryz.ntmps45
 go_wp2_with (with_reducible refine wSk 1 ?_)
 refine a0m st0 rfl rfl rfl (cw 4 (kN x) ++ (cw 4 (kN y) ++ cw 4 (kN z))) rfl ?_
 intro g1 w1 st1
 clear st0
 go_wp2_with (with_reducible refine wSk 7 ?_)
 refine a0p st1 0 rfl rfl rfl Tryz.underlying62 rfl rfl (by kernel_rfl) ?_
 go_wp2_with fail
 refine (d0o x y z false HB.out _).mono ?_
 rintro e' w2 ⟨rfl, hf2⟩
 have st2 := st1.keep hf2
 clear st1 hf2
 go_wp2_with fail
 refine wp_region_noPanic ?_
 refine a0h st2 5 [.o 4, .w 1, .t 2, .c 0, .c 3, .j 4] (.m 5 .nil) (by kernel_rfl) (by kernel_rfl) (fun _ _ _ _ _ h => h) ?_
 clear st2
 refine b0l rfl rfl rfl e0V (cw 4 0) rfl ?_
 try simp only [clL]
 refine a0n (v := ?_) rfl rfl (fun xq wx => ?_) ?_; rotate_left 1; · (go_simp; with_reducible rfl)
 try simp only [clL]
 refine a0f rfl rfl rfl (fun _ => rfl) (cw 4 (kN z)) (fun wx hS => St.rangeL hS 0 rfl 8 _ (f0E _ _ _)) Tryz.underlying60 rfl (by kernel_rfl) ?_
 try simp only [clL]
 refine a0d rfl rfl rfl Tryz.call112 (fun w hS hR => a0L _) (fun _ => rfl) ?_
 try simp only [clL]
 refine a0d rfl rfl rfl Tryz.call113 (fun w hS hR => A0d z i Hi.out _) (fun _ => rfl) ?_
 try simp only [clL]
 refine b0m List.mem_cons_self fun g4 => ?_
 simp only [upd, reduceIte]
 refine a0y fun xq w3 st3 hR => ?_
 try dsimp only
 clear hR xq
 refine a0r rfl rfl ?_
 refine a0j st3 1 rfl rfl rfl rfl (by simp [a0a]) (by kernel_rfl) (a0g _ _) ?_
 intro w4 st4
 repeat (first | simp only [List.cons_append] at st4 | simp only [List.nil_append] at st4 | simp only [List.set_cons_succ] at st4 | simp only [List.set_cons_zero] at st4)
 clear st3
 try simp only [Act.put]
 refine a0k ?_
 refine NoPanic.normal ?_
 go_wp2_with fail
 refine wp_region_noPanic ?_
 refine a0h st4 6 [.o 5, .w 1, .t 2, .t 3, .c 0, .c 4, .j 5] (.m 6 .nil) (by kernel_rfl) (by kernel_rfl) (fun _ _ _ _ _ h => h) ?_
 clear st4
 refine b0l rfl rfl rfl e0V (cw 4 0) rfl ?_
 try simp only [clL]
 refine a0n (v := ?_) rfl rfl (fun xq wx => ?_) ?_; rotate_left 1; · (go_simp; with_reducible rfl)
 try simp only [clL]
 refine a0f rfl rfl rfl (fun _ => rfl) (cw 4 (kN x)) (fun wx hS => St.rangeL hS 0 rfl 0 _ (k0k _ _ _)) Tryz.underlying60 rfl (by kernel_rfl) ?_
 try simp only [clL]
 refine a0f rfl rfl rfl (fun _ => rfl) (cw 4 (kN i)) (fun wx hS => St.rangeL hS 1 rfl 0 _ dZl) Tryz.underlying60 rfl (by kernel_rfl) ?_
 try simp only [clL]
 refine a0d rfl rfl rfl Tryz.call112 (fun w hS hR => a0L _) (fun _ => rfl) ?_
 try simp only [clL]
 refine a0d rfl rfl rfl Tryz.call58 (fun w hS hR => e0e x i X HX.out _) (fun _ => rfl) ?_
 try simp only [clL]
 refine b0m List.mem_cons_self fun g5 => ?_
 simp only [upd, reduceIte]
 refine a0y fun xq w5 st5 hR => ?_
 try dsimp only
 clear hR xq
 refine a0r rfl rfl ?_
 refine a0j st5 2 rfl rfl rfl rfl (by simp [a0a]) (by kernel_rfl) (a0g _ _) ?_
 intro w6 st6
 repeat (first | simp only [List.cons_append] at st6 | simp only [List.nil_append] at st6 | simp only [List.set_cons_succ] at st6 | simp only [List.set_cons_zero] at st6)
 clear st5
 try simp only [Act.put]
 refine a0k ?_
 refine NoPanic.normal ?_
 go_wp2_with fail
 refine wp_region_noPanic ?_
 refine a0h st6 6 [.o 5, .w 1, .t 2, .t 3, .c 0, .c 4, .j 5] (.m 6 .nil) (by kernel_rfl) (by kernel_rfl) (fun _ _ _ _ _ h => h) ?_
 clear st6
 refine b0l rfl rfl rfl e0V (cw 4 0) rfl ?_
 try simp only [clL]
 refine a0n (v := ?_) rfl rfl (fun xq wx => ?_) ?_; rotate_left 1; · (go_simp; with_reducible rfl)
 try simp only [clL]
 refine a0f rfl rfl rfl (fun _ => rfl) (cw 4 (kN y)) (fun wx hS => St.rangeL hS 0 rfl 4 _ (l0Q _ _ _)) Tryz.underlying60 rfl (by kernel_rfl) ?_
 try simp only [clL]
 refine a0f rfl rfl rfl (fun _ => rfl) (cw 4 (kN i)) (fun wx hS => St.rangeL hS 1 rfl 0 _ dZl) Tryz.underlying60 rfl (by kernel_rfl) ?_
 try simp only [clL]
 refine a0d rfl rfl rfl Tryz.call112 (fun w hS hR => a0L _) (fun _ => rfl) ?_
 try simp only [clL]
 refine a0d rfl rfl rfl Tryz.call58 (fun w hS hR => e0e y i Y HY.out _) (fun _ => rfl) ?_
 try simp only [clL]
 refine b0m List.mem_cons_self fun g6 => ?_
 simp only [upd, reduceIte]
 refine a0y fun xq w7 st7 hR => ?_
 try dsimp only
 clear hR xq
 refine a0r rfl rfl ?_
 refine a0j st7 3 rfl rfl rfl rfl (by simp [a0a]) (by kernel_rfl) (a0g _ _) ?_
 intro w8 st8
 repeat (first | simp only [List.cons_append] at st8 | simp only [List.nil_append] at st8 | simp only [List.set_cons_succ] at st8 | simp only [List.set_cons_zero] at st8)
 clear st7
 try simp only [Act.put]
 refine a0k ?_
 refine NoPanic.normal ?_
 have ha := f0Y (kN Y)
 have hb2 : kN Y % 2 = 0 ∨ kN Y % 2 = 1 := by omega
 generalize hbv : kN Y % 2 = b at *
 have HBV := qH hbv
 clear hbv
 have hw8 : IntKind.u8.wrap (b : Int) = (b : Int) := by rcases hb2 with rfl | rfl <;> decide
 have hw9 : IntKind.u8.wrap (2 + (b : Int)) = 2 + (b : Int) := by rcases hb2 with rfl | rfl <;> decide
 have HB2 := qH hb2
 clear hb2
 go_wp2_with fail
 refine wp_region_noPanic ?_
 refine a0o (fun wx => St Nob w wx [(g1, cw 4 (kN x) ++ (cw 4 (kN y) ++ cw 4 (kN z)), 62), (g4, cw 4 (kN i), 60), (g5, cw 4 (kN X), 60), (g6, cw 4 (kN Y), 60)]) 10 (.w 0 (.t 1 (.w 2 (.w 3 (.w 4 (.t 7 (.b 5 8 (.b 6 8 (.r 8 (.r 9 (.m 10 .nil))) (.r 6 (.r 9 (.m 10 .nil)))) (.r 5 (.r 6 (.r 9 (.m 10 .nil))))))))))) (by kernel_rfl) (by kernel_rfl) st8.drew (fun _ _ _ _ _ h => h) ?_
 have hd8 := st8.drew
 clear st8
 refine a0l (v := ?_) rfl rfl (fun wx => ?_) ?_; rotate_left 1; · (go_simp; with_reducible rfl)
 try simp only [clL]
 refine d0v (v := ?_) rfl rfl (fun wx hS => ?_) ?_
 rotate_left 1
 ·(have hc := (St.at hS 3 rfl).cell (a0D 4 (kN Y) 0 (by decide)); clear hS; go_simp; with_reducible rfl)
 try simp only [clL]
 iterate 3 (refine a0l (v := ?_) rfl rfl (fun wx => ?_) ?_; rotate_left 1; · (go_simp; with_reducible rfl); try simp only [clL])
 refine a0s rfl rfl rfl rfl (cw 4 (kN X)) (fun wx hS => St.rangeL hS 2 rfl 0 _ dZl) Tryz.underlying60 rfl (by kernel_rfl) ?_
 try simp only [clL]
 refine d0O (C := fun g31 wz => St Nob w wz [(g1, cw 4 (kN x) ++ (cw 4 (kN y) ++ cw 4 (kN z)), 62), (g4, cw 4 (kN i), 60), (g5, cw 4 (kN X), 60), (g6, cw 4 (kN Y), 60), (g31, bs [u0k b], 5)]) (F := ?_) (fun key => ?_) ?_
 rotate_left 1
 ·skip
  refine d0k rfl rfl rfl rfl ?_ ?_
  ·skip
   refine r0W hd8 rfl Tryz.underlying22 b0I [.int .u8 (2 + (b : Int))] rfl (by simp [Value.cells]) rfl _ (v0h b HB2.out) ?_
   intro g31 w9 st9
   refine ⟨St.less st9 (by simp), ?_⟩
   try simp only [clL]
   refine d0k rfl rfl rfl rfl ?_ ?_
   ·skip
    refine i0U (k0i rfl Tryz.underlying22 Tryz.underlying5 Tryz.underlying9 rfl (l := [u0k b]) (Rd.whole (st9.at 4 rfl))) ?_
    have st10 := st9
    refine ⟨St.less st10 (by simp), ?_⟩
    try simp only [clL]
    refine a0A rfl rfl ?_
    go_simp
    refine (e0D (kN X) _).mono ?_
    rintro e' w11 ⟨rfl, hf11⟩
    have st11 := st10.keep hf11
    clear hf11
    refine ⟨St.less st11 (by simp), ?_⟩
    try simp only [clL]
    refine a0A rfl rfl ?_
    refine i0U (f0O rfl rfl rfl Tryz.underlying9 (by rw [a0H, a0H, a0W]; simp) (m0V _ _) _) ?_
    have st12 := st11
    refine ⟨St.less st12 (by simp), ?_⟩
    try simp only [clL]
    refine a0r rfl rfl ?_
    go_simp
    try simp only [clL]
    refine a0k ?_
    exact key g31 _ st12
   ·skip
    go_simp
    refine (e0D (kN X) _).mono ?_
    rintro e' w13 ⟨rfl, hf13⟩
    have st13 := st9.keep hf13
    clear hf13
    refine ⟨St.less st13 (by simp), ?_⟩
    try simp only [clL]
    refine a0A rfl rfl ?_
    refine i0U (k0i rfl Tryz.underlying22 Tryz.underlying5 Tryz.underlying9 rfl (l := [u0k b]) (Rd.whole (st13.at 4 rfl))) ?_
    have st14 := st13
    refine ⟨St.less st14 (by simp), ?_⟩
    try simp only [clL]
    refine a0A rfl rfl ?_
    refine i0U (f0O rfl rfl rfl Tryz.underlying9 (by rw [a0H, a0H, a0W]; simp) (m0V _ _) _) ?_
    have st15 := st14
    refine ⟨St.less st15 (by simp), ?_⟩
    try simp only [clL]
    refine a0r rfl rfl ?_
    go_simp
    try simp only [clL]
    refine a0k ?_
    exact key g31 _ st15
  ·skip
   go_simp
   refine (e0D (kN X) _).mono ?_
   rintro e' w16 ⟨rfl, hf16⟩
   have st16 := hd8.keep hf16
   clear hf16
   refine ⟨st16, ?_⟩
   try simp only [clL]
   refine a0A rfl rfl ?_
   refine r0W st16 rfl Tryz.underlying22 b0I [.int .u8 (2 + (b : Int))] rfl (by simp [Value.cells]) rfl _ (v0h b HB2.out) ?_
   intro g31 w17 st17
   refine ⟨St.less st17 (by simp), ?_⟩
   try simp only [clL]
   refine a0A rfl rfl ?_
   refine i0U (k0i rfl Tryz.underlying22 Tryz.underlying5 Tryz.underlying9 rfl (l := [u0k b]) (Rd.whole (st17.at 4 rfl))) ?_
   have st18 := st17
   refine ⟨St.less st18 (by simp), ?_⟩
   try simp only [clL]
   refine a0A rfl rfl ?_
   refine i0U (f0O rfl rfl rfl Tryz.underlying9 (by rw [a0H, a0H, a0W]; simp) (m0V _ _) _) ?_
   have st19 := st18
   refine ⟨St.less st19 (by simp), ?_⟩
   try simp only [clL]
   refine a0r rfl rfl ?_
   go_simp
   try simp only [clL]
   refine a0k ?_
   exact key g31 _ st19
 intro g31 w20 st20
 have st20 : St Nob w w20 [(g1, cw 4 (kN x) ++ (cw 4 (kN y) ++ cw 4 (kN z)), 62), (g4, cw 4 (kN i), 60), (g5, cw 4 (kN X), 60), (g6, cw 4 (kN Y), 60), (g31, bs [u0k b], 5)] := st20
 clear hd8
 refine NoPanic.normal ?_
 have hfr := st20.fr
 clear st20
 go_wp2_with fail
 go_ret
 exact ⟨by rw [HBV.out]; rfl, hfr⟩
end
section
open Go.RowKit Go.Mv Mvp Mvq
theorem y0Q (x y : K) : b0Z (.A x y) = u0k (kN y % 2) :: b0i (kN x) := rfl
theorem i0V (s : RT) (w : World) : Calls Tryz.prog 45 #[.agg s.L.toArray] w fun e w' => e = .returned (.string (mkS (b0Z s.pt))) ∧ Fr Nob w w' := by
 cases h : s.isO
 ·have hz : s.z ≠ 0 := by simpa [RT.isO] using h
  have h2 : s.pt = .A (s.x * c0b s.z) (s.y * c0b s.z) := t0y hz
  rw [h2, y0Q]
  exact p0r s.x s.y s.z h _ _ _ rfl rfl rfl w
 ·rw [RT.isO_t h]
  exact p0q s.x s.y s.z h w
end
section
open Go.RowKit Go.Mv Mvp Mvq
attribute [local irreducible] a0F lw mix cw b0n b0v b0k a0M a0q beN b0C b0i b0z a0J a0R elN mdL b0o rtV b0T kN kc c0b b0Z f0P noR c0c f0c RT.L gXn gYn
end
section
open Go.RowKit Go.Mv Mvp Mvq
attribute [local irreducible] rtV b0T rpL e0G beN b0i
end
section
open Go.RowKit Go.Mv Mvp Mvq
theorem r0X (s : ByteArray) (w : World) : Calls Tryz.prog 122 #[fv mQ.M, .string s] w fun e w' => ∃ N : Nat, e = .returned (.tuple #[i4 N, .bool (b0o mQ s.data.toList)]) ∧ (b0o mQ s.data.toList = true → N = beN s.data.toList) ∧ Fr Nob w w' := by
 cases h : b0o mQ s.data.toList
 ·exact (u0c mQ e0q.lt s w h).mono fun e w' ⟨N, k1, k2⟩ => ⟨N, k1, fun h => (by cases h), k2⟩
 ·exact (u0b mQ e0q.lt s w h).mono fun e w' k => ⟨_, k.1, fun _ => rfl, k.2⟩
theorem y0R (w : World) : Calls Tryz.prog 53 #[] w fun e w' => e = .returned (fv mQ.M) ∧ Fr Nob w w' := z0D mQ .one w
theorem t_ok {lk la : List UInt8} (hk : b0o mQ lk = true) (ha : d0A la = true) : tC lk la = 0 ∧ tS lk la = b0Z (b0b (beN lk) (e0L la)) := by unfold tC tS; rw [hk, ha]; exact ⟨rfl, rfl⟩
end
end Go.Proofs.YtemcankmggmgoaaGreat
namespace Mvp
end Mvp
namespace Go.Proofs.YtemcankmggmgoaaGreat
open Go.RowKit Go.Mv Mvp
attribute [local irreducible] a0F lw mix cw b0n b0v b0k a0M a0q beN b0C b0i b0z a0J a0R elN mdL b0o
end Go.Proofs.YtemcankmggmgoaaGreat
namespace Go.Mv
open Go.RowKit
theorem Has.ne {w : World} {g g' : Nat} {L L' : List Value} {T T' : TypeId} (h : Has w g L T) (h' : Has w g' L' T') (hT : T ≠ T') : g ≠ g' := by
 rintro rfl
 obtain ⟨_, _, h1, _⟩ := h
 obtain ⟨_, _, h2, _⟩ := h'
 rw [h1] at h2
 simp at h2
 exact hT h2.2.1
end Go.Mv
namespace Go.Proofs.YtemcankmggmgoaaGreat
section
open Go.RowKit Go.Mv Mvp
attribute [local irreducible] b0w b0L toB a0x a0K b0x c0q a0O c0r b0t a0I c0A
theorem LogAt.at' {w : World} {base g : Nat} {l : List UInt8} (h : LogAt w base g l) : ∃ v, Has w g [v] 228 := ⟨h.choose, h.choose_spec.1⟩
theorem LogAt.own {w w' : World} {base g : Nat} {l : List UInt8} {S : Nat → Prop} (h : LogAt w base g l) (hf : Fr S w w') (hg : ¬ S g) (hs : ∀ v, Own w base 5 1 v 32 (bs l) → ∀ k, m0Y v k → ¬ S k) : LogAt w' base g l := by
 obtain ⟨v, h1, h2⟩ := h
 exact ⟨v, h1.keep hf hg, h2.keep hf (hs v h2)⟩
abbrev Tri : Type := Nat × Nat × List UInt8
def z0a (T : List Tri) : List Value := T.map fun t => .pointer (some ⟨t.1, 0, none⟩)
def z0b (T : List Tri) : List Value := T.map fun t => .pointer (some ⟨t.2.1, 0, none⟩)
structure LI (w : World) (base ga gb : Nat) (sa sb : List UInt8) (T : List Tri) (vk : Value) (Lk : List Value) (vw : Value) (Lw : List Value) : Prop where
 la : sa.length = 32
 lb : sb.length = 32
 a : LogAt w base ga sa
 b : RLogAt w gb sb
 each : ∀ t ∈ T, LogAt w base t.1 t.2.2 ∧ RLogAt w t.2.1 t.2.2 ∧ t.2.2.length = 32
 na : (ga :: T.map (·.1)).Nodup
 nb : (gb :: T.map (·.2.1)).Nodup
 k : Own w base 126 1 vk Lk.length Lk
 w : Own w base 135 1 vw Lw.length Lw
 bs : base ≤ ga ∧ base ≤ gb ∧ ∀ t ∈ T, base ≤ t.1 ∧ base ≤ t.2.1
variable {w w' : World} {base ga gb : Nat} {sa sb : List UInt8} {T : List Tri} {vk vw : Value} {Lk Lw : List Value}
theorem LI.still (h : LI w base ga gb sa sb T vk Lk vw Lw) (hf : Fr Nob w w') : LI w' base ga gb sa sb T vk Lk vw Lw :=
 ⟨h.la, h.lb, h.a.still hf, Has.keep h.b hf id, fun t ht => ⟨(h.each t ht).1.still hf, Has.keep (h.each t ht).2.1 hf id, (h.each t ht).2.2⟩, h.na, h.nb, h.k.still hf, h.w.still hf, h.bs⟩
theorem LI.stepB (h : LI w base ga gb sa sb T vk Lk vw Lw) (hf : Fr (One gb) w w') {sb' : List UInt8} (hb : RLogAt w' gb sb') (hl : sb'.length = 32) : LI w' base ga gb sa sb' T vk Lk vw Lw := by
 have hv := h.b
 obtain ⟨v, hav⟩ := h.a.at'
 refine ⟨h.la, hl, h.a.other hf (Has.ne hav hv (by decide)) hv (by decide), hb, fun t ht => ⟨(h.each t ht).1.other hf (Has.ne (h.each t ht).1.at'.choose_spec hv (by decide)) hv (by decide), Has.keep (h.each t ht).2.1 hf ?_, (h.each t ht).2.2⟩, h.na, h.nb,
  h.k.keep hf (fun k hk (e : k = gb) => h.k.ne hv (by decide) (e ▸ hk)), h.w.keep hf (fun k hk (e : k = gb) => h.w.ne hv (by decide) (e ▸ hk)), h.bs⟩
 have hn := (List.nodup_cons.1 h.nb).1
 intro (e : t.2.1 = gb)
 exact hn (e ▸ List.mem_map.2 ⟨t, ht, rfl⟩)
structure LJ (w : World) (base : Nat) (T : List Tri) (j : Nat) (vk vw : Value) : Prop where
 each : ∀ i t, j ≤ i → T[i]? = some t → LogAt w base t.1 t.2.2 ∧ RLogAt w t.2.1 t.2.2 ∧ t.2.2.length = 32
 na : (T.map (·.1)).Nodup
 nb : (T.map (·.2.1)).Nodup
 k : Own w base 126 1 vk T.length (z0a T)
 w : Own w base 135 1 vw T.length (z0b T)
 bs : ∀ t ∈ T, base ≤ t.1 ∧ base ≤ t.2.1
theorem LI.last (h : LI w base ga gb sa sa T vk (z0a (T ++ [(ga, gb, sa)])) vw (z0b (T ++ [(ga, gb, sa)]))) : LJ w base (T ++ [(ga, gb, sa)]) 0 vk vw := by
 have h1 := List.nodup_cons.1 h.na
 have h2 := List.nodup_cons.1 h.nb
 have hlk : (z0a (T ++ [(ga, gb, sa)])).length = (T ++ [(ga, gb, sa)]).length := by simp [z0a]
 have hlw : (z0b (T ++ [(ga, gb, sa)])).length = (T ++ [(ga, gb, sa)]).length := by simp [z0b]
 refine ⟨?_, ?_, ?_, hlk ▸ h.k, hlw ▸ h.w, ?_⟩
 ·intro i t _ ht
  rcases List.mem_append.1 (List.mem_of_getElem? ht) with ht | ht
  ·exact h.each t ht
  ·simp only [List.mem_singleton] at ht
   subst ht
   exact ⟨h.a, h.b, h.la⟩
 ·rw [List.map_append, List.nodup_append]
  refine ⟨h1.2, by simp, ?_⟩
  intro x hx y hy e
  simp only [List.map_cons, List.map_nil, List.mem_singleton] at hy
  subst hy; subst e
  exact h1.1 hx
 ·rw [List.map_append, List.nodup_append]
  refine ⟨h2.2, by simp, ?_⟩
  intro x hx y hy e
  simp only [List.map_cons, List.map_nil, List.mem_singleton] at hy
  subst hy; subst e
  exact h2.1 hx
 ·intro t ht
  rcases List.mem_append.1 ht with ht | ht
  ·exact h.bs.2.2 t ht
  ·simp only [List.mem_singleton] at ht
   subst ht
   exact ⟨h.bs.1, h.bs.2.1⟩
theorem o0c {α : Type} {l : List α} (h : l.Nodup) {i j : Nat} {x y : α} (hi : l[i]? = some x) (hj : l[j]? = some y) (hne : i ≠ j) : x ≠ y := by
 intro e
 subst e
 have hi' := (List.getElem?_eq_some_iff.1 hi)
 have hj' := (List.getElem?_eq_some_iff.1 hj)
 obtain ⟨a, ha⟩ := hi'
 obtain ⟨b, hb⟩ := hj'
 rcases Nat.lt_or_gt_of_ne hne with k | k
 ·exact (List.pairwise_iff_getElem.1 h) i j a b k (ha.trans hb.symm)
 ·exact (List.pairwise_iff_getElem.1 h) j i b a k (hb.trans ha.symm)
theorem LJ.step {j : Nat} (h : LJ w base T j vk vw) {t : Tri} (ht : T[j]? = some t) {w1 w2 : World} (h1 : Fr (One t.1) w w1) (h2 : Fr (One t.2.1) w1 w2) : LJ w2 base T (j + 1) vk vw := by
 obtain ⟨ha, hb, -⟩ := h.each j t (Nat.le_refl _) ht
 obtain ⟨v, hv⟩ := ha.at'
 have hb1 : RLogAt w1 t.2.1 t.2.2 := Has.keep hb h1 (Has.ne hb hv (by decide))
 have k1 := h.k.keep h1 (fun k hk (e : k = t.1) => h.k.ne hv (by decide) (e ▸ hk))
 have l1 := h.w.keep h1 (fun k hk (e : k = t.1) => h.w.ne hv (by decide) (e ▸ hk))
 refine ⟨?_, h.na, h.nb, k1.keep h2 (fun k hk (e : k = t.2.1) => k1.ne hb1 (by decide) (e ▸ hk)), l1.keep h2 (fun k hk (e : k = t.2.1) => l1.ne hb1 (by decide) (e ▸ hk)), h.bs⟩
 intro i u hi hu
 obtain ⟨c, d, e⟩ := h.each i u (by omega) hu
 have n1 : u.1 ≠ t.1 := o0c h.na (i := i) (j := j) (by simp [List.getElem?_map, hu]) (by simp [List.getElem?_map, ht]) (by omega)
 have n2 : u.2.1 ≠ t.2.1 := o0c h.nb (i := i) (j := j) (by simp [List.getElem?_map, hu]) (by simp [List.getElem?_map, ht]) (by omega)
 have c1 := c.other h1 n1 hv (by decide)
 have d1 : RLogAt w1 u.2.1 u.2.2 := Has.keep d h1 (Has.ne d hv (by decide))
 exact ⟨c1.other h2 (Has.ne c1.at'.choose_spec hb1 (by decide)) hb1 (by decide), Has.keep d1 h2 n2, e⟩
end
section
open Go.RowKit Go.Mv Mvp Mvt
attribute [local irreducible] b0w b0L toB a0x a0K b0x c0q a0O c0r b0t a0I c0A
def POwn (w : World) (base : Nat) : List Value → List (List UInt8) → Prop
 | [], [] => True
 | v :: vs, l :: ls => Own w base 5 1 v l.length (bs l) ∧ POwn w base vs ls
 | _, _ => False
theorem POwn.len {w : World} {base : Nat} : ∀ {vs : List Value} {ls : List (List UInt8)}, POwn w base vs ls → vs.length = ls.length
 | [], [], _ => rfl
 | _ :: _, _ :: _, h => by simp only [List.length_cons]; rw [POwn.len h.2]
 | [], _ :: _, h => h.elim
 | _ :: _, [], h => h.elim
theorem POwn.keep {w w' : World} {base : Nat} {S : Nat → Prop} (hf : Fr S w w') : ∀ {vs : List Value} {ls : List (List UInt8)}, POwn w base vs ls → (∀ v n l, Own w base 5 1 v n (bs l) → ∀ k, m0Y v k → ¬ S k) → POwn w' base vs ls
 | [], [], _, _ => trivial
 | _ :: _, _ :: _, h, hs => ⟨h.1.keep hf (hs _ _ _ h.1), POwn.keep hf h.2 hs⟩
 | [], _ :: _, h, _ => h.elim
 | _ :: _, [], h, _ => h.elim
theorem POwn.still {w w' : World} {base : Nat} {vs : List Value} {ls : List (List UInt8)} (h : POwn w base vs ls) (hf : Fr Nob w w') : POwn w' base vs ls := POwn.keep hf h (fun _ _ _ _ _ _ t => t)
theorem POwn.parts {w : World} {base : Nat} : ∀ {vs : List Value} {ls : List (List UInt8)}, POwn w base vs ls → (∀ x ∈ ls, x.length ≤ 1000000) → Parts w vs ls
 | [], [], _, _ => trivial
 | _ :: _, _ :: _, h, hx => ⟨c0d h.1 (hx _ (by simp)), POwn.parts h.2 (fun x hxm => hx x (by simp [hxm]))⟩
 | [], _ :: _, h, _ => h.elim
 | _ :: _, [], h, _ => h.elim
def LOwn (w : World) (base : Nat) (v : Value) (ls : List (List UInt8)) : Prop := ∃ vs, Own w base 22 1 v ls.length vs ∧ POwn w base vs ls
theorem LOwn.still {w w' : World} {base : Nat} {v : Value} {ls : List (List UInt8)} (h : LOwn w base v ls) (hf : Fr Nob w w') : LOwn w' base v ls := by
 obtain ⟨vs, h1, h2⟩ := h; exact ⟨vs, h1.still hf, h2.still hf⟩
theorem LOwn.parts {w : World} {base : Nat} {v : Value} {ls : List (List UInt8)} (h : LOwn w base v ls) (hx : ∀ x ∈ ls, x.length ≤ 1000000) : ∃ a c, v = .slice a ls.length c ∧ ls.length ≤ c ∧ PartsAt w a ls := by
 obtain ⟨vs, h1, h2⟩ := h
 obtain ⟨a, c, rfl, hc, hr, -⟩ := h1.form
 rw [Nat.mul_one] at hr
 exact ⟨a, c, rfl, hc, vs, hr, (h2.parts hx).get⟩
end
section
open Go.RowKit Go.Mv Mvp Mvt
attribute [local irreducible] b0w b0L toB a0x a0K b0x c0q a0O c0r b0t a0I c0A
def Sep (vs : List Value) : Prop := vs.Pairwise fun a b => ∀ k, m0Y a k → ¬ m0Y b k
theorem Sep.nil : Sep [] := List.Pairwise.nil
theorem POwn.get {w : World} {base : Nat} : ∀ {vs : List Value} {ls : List (List UInt8)}, POwn w base vs ls → ∀ (i : Nat) (v : Value), vs[i]? = some v → ∃ l, ls[i]? = some l ∧ Own w base 5 1 v l.length (bs l)
 | [], [], _, i, v, hv => by simp at hv
 | a :: vs, l :: ls, h, 0, v, hv => by simp at hv; subst hv; exact ⟨l, rfl, h.1⟩
 | a :: vs, l :: ls, h, i + 1, v, hv => by simp at hv; obtain ⟨l', h1, h2⟩ := POwn.get h.2 i v hv; exact ⟨l', by simpa using h1, h2⟩
 | [], _ :: _, h, _, _, _ => h.elim
 | _ :: _, [], h, _, _, _ => h.elim
theorem POwn.mono {w : World} {base base' : Nat} (hb : base' ≤ base) : ∀ {vs : List Value} {ls : List (List UInt8)}, POwn w base vs ls → POwn w base' vs ls
 | [], [], _ => trivial
 | _ :: _, _ :: _, h => ⟨h.1.mono hb, POwn.mono hb h.2⟩
 | [], _ :: _, h => h.elim
 | _ :: _, [], h => h.elim
def SOwn (w : World) (base : Nat) (v : Value) (ls : List (List UInt8)) : Prop := ∃ vs, Own w base 22 1 v ls.length vs ∧ POwn w base vs ls ∧ Sep vs
theorem SOwn.nil (w : World) (base : Nat) : SOwn w base (.slice none 0 0) [] := ⟨[], Own.nil _ _ _ _, trivial, Sep.nil⟩
theorem SOwn.still {w w' : World} {base : Nat} {v : Value} {ls : List (List UInt8)} (h : SOwn w base v ls) (hf : Fr Nob w w') : SOwn w' base v ls := by
 obtain ⟨vs, h1, h2, h3⟩ := h; exact ⟨vs, h1.still hf, h2.still hf, h3⟩
end
end Go.Proofs.YtemcankmggmgoaaGreat
namespace Mvp
def lenV : Go.Value → Nat
 | .slice _ n _ => n
 | _ => 0
end Mvp
namespace Go.Proofs.YtemcankmggmgoaaGreat
open Go.RowKit Go.Mv Mvp
theorem SOwn.mono {w : World} {base base' : Nat} {v : Value} {ls : List (List UInt8)} (h : SOwn w base v ls) (hb : base' ≤ base) : SOwn w base' v ls := by
 obtain ⟨vs, h1, h2, h3⟩ := h; exact ⟨vs, h1.mono hb, h2.mono hb, h3⟩
attribute [local irreducible] a0F lw mix cw b0n b0v b0k a0M a0q beN b0C b0i b0z a0J a0R elN mdL b0o
end Go.Proofs.YtemcankmggmgoaaGreat
namespace Mvp
end Mvp
namespace Go.Proofs.YtemcankmggmgoaaGreat
section
open Go.RowKit Go.Mv Mvp
attribute [local irreducible] a0F lw mix cw b0n b0v b0k a0M a0q beN b0C b0i b0z a0J a0R elN mdL c0D b0o
end
section
open Go.RowKit Go.Mv Mvp Mvq
attribute [local irreducible] a0F lw mix cw b0n b0v b0k a0M a0q beN b0C b0i b0z a0J a0R elN mdL b0o rtV b0T kN kc c0b b0Z f0P noR c0c f0c RT.L gXn gYn rpL d0A e0L e0T
end
section
open Go.RowKit Go.Mv Mvp Mvq
attribute [local irreducible] a0F lw mix cw b0n b0v b0k a0M a0q beN b0C b0i b0z a0J a0R elN mdL b0o rtV b0T b0Z d0A e0L e0T b0b
theorem o0d (x : Nat) (w : World) : Calls Tryz.prog 51 #[i4 (elN mQ x)] w fun e w' => ∃ y : Option Addr × Nat, e = .returned (.slice y.1 32 y.2) ∧ BPart w' (.slice y.1 32 y.2) (b0i (x % mQ.M)) ∧ Fr Nob w w' := by
 refine (o0W mQ .one x w).mono ?_
 rintro e w' ⟨v, rfl, ho, hf⟩
 obtain ⟨a, c, rfl, hc, hr, -⟩ := ho.form
 rw [Nat.mul_one] at hr
 exact ⟨(a, c), rfl, ⟨a, 32, c, rfl, hc, hr⟩, hf⟩
end
section
open Go.RowKit Go.Mv Mvp Mvq
def OwnU (w : World) (v : Value) (l : List UInt8) : Prop := Own w 0 5 1 v l.length (bs l)
theorem OwnU.part {w : World} {v : Value} {l : List UInt8} (h : OwnU w v l) : BPart w v l := Own.part h
theorem OwnU.still {w w' : World} {v : Value} {l : List UInt8} (h : OwnU w v l) (hf : Fr Nob w w') : OwnU w' v l := Own.still h hf
theorem OwnU.nil (w : World) : OwnU w (.slice none 0 0) [] := Own.nil _ _ _ _
attribute [local irreducible] a0F lw mix cw b0n b0v b0k a0M a0q beN b0C b0i b0z a0J a0R elN mdL b0o rtV b0T b0Z d0A e0L e0T b0b
end
end Go.Proofs.YtemcankmggmgoaaGreat
namespace Mvp
end Mvp
namespace Mvq
open Mvp
end Mvq
namespace Go.Proofs.YtemcankmggmgoaaGreat
open Go.RowKit Go.Mv Mvp Mvq
attribute [local irreducible] a0F lw mix cw b0n b0v b0k a0M a0q beN b0C b0i b0z a0J a0R elN mdL b0o rtV b0T kN kc c0b b0Z f0P noR c0c f0c RT.L
theorem o0e (n : Nat) (w : World) : Calls Tryz.prog 55 #[i4 n] w fun e w' => e = .returned (.agg (c0c n k0h).L.toArray) ∧ Fr Nob w w' := by
 have st0 := St.start Nob w
 go_enter Tryz.func55, Tryz.ntmps55
 go_wp2_with (with_reducible refine wSk 1 ?_)
 refine a0m st0 rfl rfl rfl (cw 4 n) rfl ?_
 intro g1 w1 st1
 clear st0
 go_wp2_with (with_reducible refine wSk 2 ?_)
 refine a0c st1 rfl rfl (z := zAc) (by kernel_rfl) (cw 12 0) (by rw [a0e]; rfl) ?_
 intro g2 w2 st2
 clear st1
 go_wp2_with fail
 refine wp_region_noPanic ?_
 refine a0h st2 3 [.t 0, .c 1, .c 2] (.m 3 .nil) (by kernel_rfl) (by kernel_rfl) (fun _ _ _ _ _ h => h) ?_
 clear st2
 refine a0f rfl rfl rfl (fun _ => rfl) (cw 4 n) (fun wx hS => St.rangeL hS 0 rfl 0 _ dZl) Tryz.underlying60 rfl (by first | (rw [a0a]; kernel_rfl) | (rw [RT.len]; kernel_rfl) | (rw [a0v]; kernel_rfl) | (simp only [List.length_append, a0a]; kernel_rfl) | (simp only [List.length_append, a0a, RT.len, a0v]; kernel_rfl)) ?_
 try simp only [clL]
 refine a0d rfl rfl rfl Tryz.call127 (fun w hS hR => A0h _) (fun _ => rfl) ?_
 try simp only [clL]
 refine a0d rfl rfl rfl Tryz.call69 (fun w hS hR => u0i n k0h _) (fun _ => rfl) ?_
 try simp only [clL]
 refine a0y fun xq w3 st3 hR => ?_
 try dsimp only
 clear hR xq
 refine a0r rfl rfl ?_
 refine a0j st3 1 rfl rfl rfl rfl (by first | (simp only [a0a]; done) | (simp only [a0a, RT.len]; done)) (by first | (rw [a0a]; kernel_rfl) | (simp only [RT.len]; kernel_rfl)) (RT.one _) ?_
 intro w4 st4
 repeat (first | simp only [List.cons_append] at st4 | simp only [List.nil_append] at st4 | simp only [List.set_cons_succ] at st4 | simp only [List.set_cons_zero] at st4)
 clear st3
 try simp only [Act.put]
 refine a0k ?_
 refine NoPanic.normal ?_
 have hr := st4.at 1 rfl
 have hfr := st4.fr
 clear st4
 go_wp2_with fail
 exact bodyPost_ret (a0u rfl rfl hr Tryz.underlying62 rfl (by first | (rw [a0a]; kernel_rfl) | (simp only [RT.len]; kernel_rfl))) rfl ⟨rfl, hfr⟩
end Go.Proofs.YtemcankmggmgoaaGreat
namespace Mvp
end Mvp
namespace Go.Proofs.YtemcankmggmgoaaGreat
section
open Go.RowKit Go.Mv Mvp
attribute [local irreducible] a0F lw mix cw b0n b0v b0k a0M a0q beN b0C b0i b0z a0J a0R elN mdL b0o
end
section
open Go.RowKit Go.Mv Mvp Mvq
theorem z0K : mQ.M = qN := by decide
attribute [local irreducible] a0F lw mix cw b0n b0v b0k a0M a0q beN b0C b0i b0z a0J a0R elN mdL b0o rtV b0T kN kc c0b b0Z f0P noR c0c f0c RT.L gXn gYn rpL d0A e0L
end
section
open Go.RowKit Go.Mv Mvp Mvq
theorem v0i (x : Nat) : beN (b0i (x % mQ.M)) = x % mQ.M := n0v _ (Nat.lt_trans (Nat.mod_lt x (by decide)) (by decide))
theorem u0m (x : Nat) : b0o mQ (b0i (x % mQ.M)) = true := by
 unfold b0o
 rw [a0W, v0i, decide_eq_true rfl, decide_eq_true (Nat.mod_lt x (by decide))]
 rfl
attribute [local irreducible] a0F lw mix cw b0n b0v b0k a0M a0q beN b0C b0i b0z a0J a0R elN mdL b0o rtV b0T kN kc c0b b0Z f0P noR c0c f0c RT.L gXn gYn rpL d0A e0L b0b
end
section
open Go.RowKit Go.Mv Mvp Mvq
theorem u0n : (Tryz.prog.info? 22).map (fun i => (i.zero, i.size, i.bytes)) = some (some (.slice none 0 0), 1, 24) := by kernel_rfl
attribute [local irreducible] a0F lw mix cw b0n b0v b0k a0M a0q beN b0C b0i b0z a0J a0R elN mdL b0o rtV b0T b0Z d0A e0L e0T b0b b0w b0L toB a0x a0K b0x c0q a0O c0r b0t a0I c0A f0U
theorem A0i (x y : Nat) (w : World) :
  Calls Tryz.prog 117 #[i4 (elN mQ x), i4 (elN mQ y)] w fun e w' => e = .returned (i4 (elN mQ (x + y))) ∧ Fr Nob w w' := by
 have st0 := St.start Nob w
 go_enter Tryz.func117, Tryz.ntmps117
 go_wp2_with (with_reducible refine wSk 2 ?_)
 refine a0m st0 rfl rfl rfl (cw 4 (elN mQ x)) rfl ?_
 intro g2 w1 st1
 clear st0
 go_wp2_with (with_reducible refine wSk 3 ?_)
 refine a0m st1 rfl rfl rfl (cw 4 (elN mQ y)) rfl ?_
 intro g3 w2 st2
 clear st1
 go_wp2_with (with_reducible refine wSk 4 ?_)
 refine a0c st2 rfl rfl (z := zAd) (by kernel_rfl) (cw 4 0) (by rw [a0e]; rfl) ?_
 intro g4 w3 st3
 clear st2
 go_wp2_with fail
 refine wp_region_noPanic ?_
 refine a0o (fun wx => St Nob w wx [(g2, cw 4 (elN mQ x), 68), (g3, cw 4 (elN mQ y), 68), (g4, cw 4 0, 68)]) 7 (.w 1 (.t 2 (.w 3 (.t 4 (.r 0 (.r 5 (.w 6 (.m 7 .nil)))))))) (by kernel_rfl) (by kernel_rfl) st3.drew (fun _ _ _ _ _ h => h) ?_
 have hd3 := st3.drew
 clear st3
 refine a0l (v := ?_) rfl rfl (fun wx => ?_) ?_
 rotate_left 1
 ·(go_simp; with_reducible rfl)
 try simp only [clL]
 refine a0s rfl rfl rfl rfl (cw 4 (elN mQ x)) (fun wx hS => St.rangeL hS 0 rfl 0 _ dZl) Tryz.underlying66 rfl (by first | (rw [a0a]; kernel_rfl) | (simp only [List.length_append, a0a]; kernel_rfl)) ?_
 try simp only [clL]
 refine a0l (v := ?_) rfl rfl (fun wx => ?_) ?_
 rotate_left 1
 ·(go_simp; with_reducible rfl)
 try simp only [clL]
 refine a0s rfl rfl rfl rfl (cw 4 (elN mQ y)) (fun wx hS => St.rangeL hS 1 rfl 0 _ dZl) Tryz.underlying66 rfl (by first | (rw [a0a]; kernel_rfl) | (simp only [List.length_append, a0a]; kernel_rfl)) ?_
 try simp only [clL]
 refine a0A rfl rfl ?_
 go_simp
 refine (d0P mQ .one _).mono ?_
 rintro e' w4 ⟨gp, rfl, hle, hm, hf4⟩
 have st4 : St Nob w w4 [(g2, cw 4 (elN mQ x), 68), (g3, cw 4 (elN mQ y), 68), (g4, cw 4 0, 68), (gp, mdL mQ, 187)] := hd3.new hf4 hm hle
 clear hf4 hm hle
 clear hd3
 refine ⟨St.less st4 (by simp), ?_⟩
 try simp only [clL]
 refine a0A rfl rfl ?_
 go_simp
 refine (f0D mQ gp _ e0q (st4.at 3 rfl) x y).mono ?_
 rintro e' w5 ⟨rfl, hf5⟩
 have st5 := st4.keep hf5
 clear hf5
 clear st4
 refine ⟨St.less st5 (by simp), ?_⟩
 try simp only [clL]
 refine a0l rfl rfl (b0u rfl _ (j0I _)) ?_
 try simp only [clL]
 refine a0r rfl rfl ?_
 refine a0j st5 2 rfl rfl rfl rfl (by first | (simp only [a0a]; done) | (simp only [List.length_append, a0a]; done)) (by first | (rw [a0a]; kernel_rfl) | (simp only [List.length_append, a0a]; kernel_rfl)) (a0g _ _) ?_
 intro w6 st6
 clear st5
 try simp only [Act.put]
 refine a0k ?_
 refine NoPanic.normal ?_
 have hr := st6.at 2 rfl
 have hfr := st6.fr
 clear st6
 go_wp2_with fail
 exact bodyPost_ret (a0u rfl rfl hr Tryz.underlying68 rfl (by first | (rw [a0a]; kernel_rfl) | (simp only [List.length_append, a0a]; kernel_rfl))) rfl ⟨rfl, hfr⟩
theorem z0L (z x y : Nat) (w : World) :
  Calls Tryz.prog 49 #[i4 (elN mQ z), i4 (elN mQ x), i4 (elN mQ y)] w fun e w' => e = .returned (i4 (elN mQ (z + x * y))) ∧ Fr Nob w w' := by
 have st0 := St.start Nob w
 go_enter Tryz.func49, Tryz.ntmps49
 go_wp2_with (with_reducible refine wSk 3 ?_)
 refine a0m st0 rfl rfl rfl (cw 4 (elN mQ z)) rfl ?_
 intro g3 w1 st1
 clear st0
 go_wp2_with (with_reducible refine wSk 4 ?_)
 refine a0m st1 rfl rfl rfl (cw 4 (elN mQ x)) rfl ?_
 intro g4 w2 st2
 clear st1
 go_wp2_with (with_reducible refine wSk 5 ?_)
 refine a0m st2 rfl rfl rfl (cw 4 (elN mQ y)) rfl ?_
 intro g5 w3 st3
 clear st2
 go_wp2_with (with_reducible refine wSk 6 ?_)
 refine a0c st3 rfl rfl (z := zAd) (by kernel_rfl) (cw 4 0) (by rw [a0e]; rfl) ?_
 intro g6 w4 st4
 clear st3
 go_wp2_with fail
 refine wp_region_noPanic ?_
 refine a0h st4 5 [.t 0, .t 1, .t 2, .c 3, .c 4] (.m 5 .nil) (by kernel_rfl) (by kernel_rfl) (fun _ _ _ _ _ h => h) ?_
 clear st4
 refine a0f rfl rfl rfl (fun _ => rfl) (cw 4 (elN mQ z)) (fun wx hS => St.rangeL hS 0 rfl 0 _ dZl) Tryz.underlying68 rfl (by first | (rw [a0a]; kernel_rfl) | (simp only [List.length_append, a0a]; kernel_rfl)) ?_
 try simp only [clL]
 refine a0f rfl rfl rfl (fun _ => rfl) (cw 4 (elN mQ x)) (fun wx hS => St.rangeL hS 1 rfl 0 _ dZl) Tryz.underlying68 rfl (by first | (rw [a0a]; kernel_rfl) | (simp only [List.length_append, a0a]; kernel_rfl)) ?_
 try simp only [clL]
 refine a0f rfl rfl rfl (fun _ => rfl) (cw 4 (elN mQ y)) (fun wx hS => St.rangeL hS 2 rfl 0 _ dZl) Tryz.underlying68 rfl (by first | (rw [a0a]; kernel_rfl) | (simp only [List.length_append, a0a]; kernel_rfl)) ?_
 try simp only [clL]
 refine a0d rfl rfl rfl Tryz.call92 (fun w hS hR => t0h mQ .one x y _) (fun _ => rfl) ?_
 try simp only [clL]
 refine a0d rfl rfl rfl Tryz.call117 (fun w hS hR => A0i z (x * y) _) (fun _ => rfl) ?_
 try simp only [clL]
 refine a0y fun xq w5 st5 hR => ?_
 try dsimp only
 clear hR xq
 refine a0r rfl rfl ?_
 refine a0j st5 3 rfl rfl rfl rfl (by first | (simp only [a0a]; done) | (simp only [List.length_append, a0a]; done)) (by first | (rw [a0a]; kernel_rfl) | (simp only [List.length_append, a0a]; kernel_rfl)) (a0g _ _) ?_
 intro w6 st6
 repeat (first | simp only [List.cons_append] at st6 | simp only [List.nil_append] at st6 | simp only [List.set_cons_succ] at st6 | simp only [List.set_cons_zero] at st6)
 clear st5
 try simp only [Act.put]
 refine a0k ?_
 refine NoPanic.normal ?_
 have hr := st6.at 3 rfl
 have hfr := st6.fr
 clear st6
 go_wp2_with fail
 exact bodyPost_ret (a0u rfl rfl hr Tryz.underlying68 rfl (by first | (rw [a0a]; kernel_rfl) | (simp only [List.length_append, a0a]; kernel_rfl))) rfl ⟨rfl, hfr⟩
theorem A0j (x : Nat) {l : List UInt8} (h : d0A l = true) : tS (b0i (x % mQ.M)) l = b0Z (b0b x (e0L l)) := by
 rw [(t_ok (u0m x) h).2, v0i, z0K, u0a (y0w h)]
theorem OwnB1.back {w0 w w' : World} {v : Value} {l : List UInt8} (h : OwnB1 w w' v l) (hs : w0.heap.size ≤ w.heap.size) : OwnB1 w0 w' v l := Own.mono h hs
theorem OwnU.b1 {w w' : World} {v : Value} {l : List UInt8} (h : OwnB1 w w' v l) : OwnU w' v l := Own.mono h (Nat.zero_le _)
theorem OwnU.ptb {w : World} {v : Value} {l : List UInt8} (h : OwnU w v l) (hn : l.length ≤ 1000000) : PartIs w v l := c0d h hn
theorem x0c (x : Nat) (va : Value) (l : List UInt8) (w : World) (hp : BPart w va l) :
  Calls Tryz.prog 80 #[i4 (elN mQ x), va] w fun e w' => ∃ v, e = .returned v ∧ OwnB1 w w' v (tS (b0i (x % mQ.M)) l) ∧ Fr Nob w w' := by
 have HP := qH hp
 clear hp
 have st0 := St.start Nob w
 go_enter Tryz.func80, Tryz.ntmps80
 go_wp2_with (with_reducible refine wSk 2 ?_)
 refine a0m st0 rfl rfl rfl (cw 4 (elN mQ x)) rfl ?_
 intro g2 w1 st1
 clear st0
 go_wp2_with (with_reducible refine wSk 8 ?_)
 refine a0p st1 0 rfl rfl rfl Tryz.underlying68 rfl rfl (k0f _) ?_
 go_wp2_with fail
 refine (o0d x _).mono ?_
 rintro e' w2 ⟨y, rfl, hb, hf2⟩
 have hfr2 := st1.fr.then hf2
 have HB := qH hb
 have HF := qH hfr2
 clear st1 hb hf2 hfr2
 go_wp2_with fail
 refine (t0W _ va _ l _ HB.out (HP.out.still HF.out)).mono ?_
 rintro e' w3 ⟨v, rfl, ho, hf3⟩
 have HO := qH (OwnB1.back ho HF.out.size)
 have hfr := HF.out.then hf3
 clear ho hf3 HF HB HP
 go_wp2_with fail
 go_ret
 exact ⟨v, rfl, HO.out, hfr⟩
theorem x0d (w : World) : Calls Tryz.prog 29 #[] w fun e w' => ∃ y : Option Addr × Nat, e = .returned (.slice y.1 33 y.2) ∧ BPart w' (.slice y.1 33 y.2) (b0Z gP) ∧ Fr Nob w w' := by
 refine (w0K w).mono ?_
 rintro e w' ⟨v, rfl, ho, hf⟩
 have h := ho.part
 obtain ⟨a, n, c, rfl, hc, hr⟩ := h
 have hn : n = 33 := by rw [← hr.len, d0e]
 subst hn
 exact ⟨(a, c), rfl, ⟨a, 33, c, rfl, hc, hr⟩, hf⟩
theorem v0j (x : Nat) (w : World) :
  Calls Tryz.prog 48 #[i4 (elN mQ x)] w fun e w' => ∃ v, e = .returned v ∧ OwnB1 w w' v (b0Z (b0b x gP)) ∧ Fr Nob w w' := by
 have st0 := St.start Nob w
 go_enter Tryz.func48, Tryz.ntmps48
 go_wp2_with (with_reducible refine wSk 1 ?_)
 refine a0m st0 rfl rfl rfl (cw 4 (elN mQ x)) rfl ?_
 intro g1 w1 st1
 clear st0
 go_wp2_with fail
 refine wp_region_noPanic ?_
 refine a0h st1 3 [.t 0, .c 1, .c 2] (.m 3 .nil) (by kernel_rfl) (by kernel_rfl) (fun _ _ _ _ _ h => h) ?_
 clear st1
 refine a0f rfl rfl rfl (fun _ => rfl) (cw 4 (elN mQ x)) (fun wx hS => St.rangeL hS 0 rfl 0 _ dZl) Tryz.underlying68 rfl (by first | (rw [a0a]; kernel_rfl) | (simp only [List.length_append, a0a]; kernel_rfl)) ?_
 try simp only [clL]
 refine e0w (X := Option Addr × Nat) (fun y => .slice y.1 33 y.2) (fun y w => BPart w (.slice y.1 33 y.2) (b0Z gP)) (fun _ _ _ h k => h.still k) rfl rfl rfl Tryz.call29 (fun w hS hR => x0d _) (fun _ => rfl) fun y4 => ?_
 try simp only [clL]
 refine e0w (X := Value) (fun v => v) (fun v wx => OwnB1 w wx v (tS (b0i (x % mQ.M)) (b0Z gP))) (fun _ _ _ h k => h.still k) rfl rfl rfl Tryz.call80 (fun w hS hR => (x0c x _ _ _ hR.2).mono fun e w' ⟨v, h1, h2, h3⟩ => ⟨v, h1, h2.back hS.fr.size, h3⟩) (fun _ => rfl) fun v => ?_
 try simp only [clL]
 refine a0y fun xq w2 st2 hR => ?_
 try dsimp only
 have HV := qH hR.2
 clear hR xq
 refine a0r rfl rfl ?_
 go_simp
 try simp only [clL]
 refine a0k ?_
 refine NoPanic.normal ?_
 have hfr := st2.fr
 clear st2
 go_wp2_with fail
 go_ret
 refine ⟨v, rfl, ?_, hfr⟩
 have h := HV.out
 rwa [A0j x (y0x y0G).1, (y0x y0G).2] at h
theorem u0o (ak : Option Addr) (nk ck : Nat) (key : List UInt8) (w : World) (hkey : RdB w ak nk key) (hq : b0o mQ key = false) : Calls Tryz.prog 46 #[.slice ak nk ck] w fun e w' => e = .returned (.tuple #[i4 0, .int .i64 3]) ∧ Fr Nob w w' := by
 have HKY := qH hkey
 have HN := qH hq
 clear hkey hq
 have st0 := St.start Nob w
 go_enter Tryz.func46, Tryz.ntmps46
 go_wp2_with (with_reducible refine wSk 2 ?_)
 refine a0c st0 rfl rfl (z := zAd) (by kernel_rfl) (cw 4 0) (by rw [a0e]; rfl) ?_
 intro g2 w1 st1
 clear st0
 go_wp2_with fail
 refine (z0m mQ .one ak nk ck key _ (HKY.out.still st1.fr) HN.out).mono ?_
 rintro e' w2 ⟨rfl, hf2⟩
 have st2 := st1.keep hf2
 clear st1 hf2
 go_wp2_with (with_reducible refine wSk 4 ?_)
 refine a0c st2 rfl rfl (z := zAd) (by kernel_rfl) (cw 4 0) (by rw [a0e]; rfl) ?_
 intro g4 w3 st3
 clear st2
 go_wp2_with (with_reducible refine wSn ?_)
 refine a0b st3 1 rfl rfl rfl rfl rfl (by first | (simp only [a0a]; done) | (simp only [List.length_append, a0a]; done)) (by first | (rw [a0a]; kernel_rfl) | (simp only [List.length_append, a0a]; kernel_rfl)) (a0g _ _) ?_
 intro w4 st4
 clear st3
 go_wp2_with (with_reducible refine wSk 17 ?_)
 refine a0p st4 1 rfl rfl rfl Tryz.underlying68 rfl rfl (by first | (rw [a0a]; kernel_rfl) | (simp only [List.length_append, a0a]; kernel_rfl)) ?_
 go_wp2_with (with_reducible refine wSn ?_)
 refine a0b st4 0 rfl rfl rfl rfl rfl (by first | (simp only [a0a]; done) | (simp only [List.length_append, a0a]; done)) (by first | (rw [a0a]; kernel_rfl) | (simp only [List.length_append, a0a]; kernel_rfl)) (a0g _ _) ?_
 intro w5 st5
 clear st4
 have hr := st5.at 0 rfl
 have hfr := st5.fr
 clear st5
 go_wp2_with fail
 exact bodyPost_ret (a0P rfl rfl hr Tryz.underlying68 rfl (by first | (rw [a0a]; kernel_rfl) | (simp only [List.length_append, a0a]; kernel_rfl)) rfl) rfl ⟨rfl, hfr⟩
theorem u0p (ak : Option Addr) (nk ck : Nat) (key : List UInt8) (w : World) (hkey : RdB w ak nk key) (hq : b0o mQ key = true) (hz : (beN key % mQ.M == 0) = true) : Calls Tryz.prog 46 #[.slice ak nk ck] w fun e w' => e = .returned (.tuple #[i4 (elN mQ (beN key)), .int .i64 3]) ∧ Fr Nob w w' := by
 have HZ := qH hz
 clear hz
 have HKY := qH hkey
 have HN := qH hq
 clear hkey hq
 have st0 := St.start Nob w
 go_enter Tryz.func46, Tryz.ntmps46
 go_wp2_with (with_reducible refine wSk 2 ?_)
 refine a0c st0 rfl rfl (z := zAd) (by kernel_rfl) (cw 4 0) (by rw [a0e]; rfl) ?_
 intro g2 w1 st1
 clear st0
 go_wp2_with fail
 refine (x0Z mQ .one ak nk ck key _ (HKY.out.still st1.fr) HN.out).mono ?_
 rintro e' w2 ⟨rfl, hf2⟩
 have st2 := st1.keep hf2
 clear st1 hf2
 go_wp2_with (with_reducible refine wSk 4 ?_)
 refine a0c st2 rfl rfl (z := zAd) (by kernel_rfl) (cw 4 0) (by rw [a0e]; rfl) ?_
 intro g4 w3 st3
 clear st2
 go_wp2_with (with_reducible refine wSn ?_)
 refine a0b st3 1 rfl rfl rfl rfl rfl (by first | (simp only [a0a]; done) | (simp only [List.length_append, a0a]; done)) (by first | (rw [a0a]; kernel_rfl) | (simp only [List.length_append, a0a]; kernel_rfl)) (a0g _ _) ?_
 intro w4 st4
 clear st3
 go_wp2_with (with_reducible refine wSk 14 ?_)
 refine n0z st4 1 rfl rfl rfl Tryz.underlying68 rfl rfl (by first | (rw [a0a]; kernel_rfl) | (simp only [List.length_append, a0a]; kernel_rfl)) ?_
 go_wp2_with fail
 refine (l0k mQ e0q (beN key) true HZ.out _).mono ?_
 rintro e' w5 ⟨rfl, hf5⟩
 have st5 := st4.keep hf5
 clear st4 hf5
 go_wp2_with (with_reducible refine wSk 17 ?_)
 refine a0p st5 1 rfl rfl rfl Tryz.underlying68 rfl rfl (by first | (rw [a0a]; kernel_rfl) | (simp only [List.length_append, a0a]; kernel_rfl)) ?_
 go_wp2_with (with_reducible refine wSn ?_)
 refine a0b st5 0 rfl rfl rfl rfl rfl (by first | (simp only [a0a]; done) | (simp only [List.length_append, a0a]; done)) (by first | (rw [a0a]; kernel_rfl) | (simp only [List.length_append, a0a]; kernel_rfl)) (a0g _ _) ?_
 intro w6 st6
 clear st5
 have hr := st6.at 0 rfl
 have hfr := st6.fr
 clear st6
 go_wp2_with fail
 exact bodyPost_ret (a0P rfl rfl hr Tryz.underlying68 rfl (by first | (rw [a0a]; kernel_rfl) | (simp only [List.length_append, a0a]; kernel_rfl)) rfl) rfl ⟨rfl, hfr⟩
theorem u0q (ak : Option Addr) (nk ck : Nat) (key : List UInt8) (w : World) (hkey : RdB w ak nk key) (hq : b0o mQ key = true) (hz : (beN key % mQ.M == 0) = false) : Calls Tryz.prog 46 #[.slice ak nk ck] w fun e w' => e = .returned (.tuple #[i4 (elN mQ (beN key)), .int .i64 0]) ∧ Fr Nob w w' := by
 have HZ := qH hz
 clear hz
 have HKY := qH hkey
 have HN := qH hq
 clear hkey hq
 have st0 := St.start Nob w
 go_enter Tryz.func46, Tryz.ntmps46
 go_wp2_with (with_reducible refine wSk 2 ?_)
 refine a0c st0 rfl rfl (z := zAd) (by kernel_rfl) (cw 4 0) (by rw [a0e]; rfl) ?_
 intro g2 w1 st1
 clear st0
 go_wp2_with fail
 refine (x0Z mQ .one ak nk ck key _ (HKY.out.still st1.fr) HN.out).mono ?_
 rintro e' w2 ⟨rfl, hf2⟩
 have st2 := st1.keep hf2
 clear st1 hf2
 go_wp2_with (with_reducible refine wSk 4 ?_)
 refine a0c st2 rfl rfl (z := zAd) (by kernel_rfl) (cw 4 0) (by rw [a0e]; rfl) ?_
 intro g4 w3 st3
 clear st2
 go_wp2_with (with_reducible refine wSn ?_)
 refine a0b st3 1 rfl rfl rfl rfl rfl (by first | (simp only [a0a]; done) | (simp only [List.length_append, a0a]; done)) (by first | (rw [a0a]; kernel_rfl) | (simp only [List.length_append, a0a]; kernel_rfl)) (a0g _ _) ?_
 intro w4 st4
 clear st3
 go_wp2_with (with_reducible refine wSk 14 ?_)
 refine n0z st4 1 rfl rfl rfl Tryz.underlying68 rfl rfl (by first | (rw [a0a]; kernel_rfl) | (simp only [List.length_append, a0a]; kernel_rfl)) ?_
 go_wp2_with fail
 refine (l0k mQ e0q (beN key) false HZ.out _).mono ?_
 rintro e' w5 ⟨rfl, hf5⟩
 have st5 := st4.keep hf5
 clear st4 hf5
 go_wp2_with (with_reducible refine wSk 18 ?_)
 refine a0p st5 1 rfl rfl rfl Tryz.underlying68 rfl rfl (by first | (rw [a0a]; kernel_rfl) | (simp only [List.length_append, a0a]; kernel_rfl)) ?_
 go_wp2_with (with_reducible refine wSn ?_)
 refine a0b st5 0 rfl rfl rfl rfl rfl (by first | (simp only [a0a]; done) | (simp only [List.length_append, a0a]; done)) (by first | (rw [a0a]; kernel_rfl) | (simp only [List.length_append, a0a]; kernel_rfl)) (a0g _ _) ?_
 intro w6 st6
 clear st5
 have hr := st6.at 0 rfl
 have hfr := st6.fr
 clear st6
 go_wp2_with fail
 exact bodyPost_ret (a0P rfl rfl hr Tryz.underlying68 rfl (by first | (rw [a0a]; kernel_rfl) | (simp only [List.length_append, a0a]; kernel_rfl)) rfl) rfl ⟨rfl, hfr⟩
theorem r0Y (ak : Option Addr) (nk ck : Nat) (key : List UInt8) (w : World) (hkey : RdB w ak nk key) (h : k0e key = true) : Calls Tryz.prog 46 #[.slice ak nk ck] w fun e w' => e = .returned (.tuple #[i4 (elN mQ (beN key)), .int .i64 0]) ∧ Fr Nob w w' := by
 unfold k0e at h
 rw [Bool.and_eq_true] at h
 have hlt := e0J h.1
 refine u0q ak nk ck key w hkey h.1 ?_
 rw [Nat.mod_eq_of_lt hlt]
 simpa using h.2
theorem r0Z (ak : Option Addr) (nk ck : Nat) (key : List UInt8) (w : World) (hkey : RdB w ak nk key) (h : k0e key = false) : Calls Tryz.prog 46 #[.slice ak nk ck] w fun e w' => (∃ N : Nat, e = .returned (.tuple #[i4 N, .int .i64 3])) ∧ Fr Nob w w' := by
 unfold k0e at h
 cases hq : b0o mQ key with
 | false => exact (u0o ak nk ck key w hkey hq).mono fun e w' k => ⟨⟨_, k.1⟩, k.2⟩
 | true =>
  have hlt := e0J hq
  rw [hq, Bool.true_and] at h
  refine (u0p ak nk ck key w hkey hq ?_).mono fun e w' k => ⟨⟨_, k.1⟩, k.2⟩
  rw [Nat.mod_eq_of_lt hlt]
  simpa using h
end
end Go.Proofs.YtemcankmggmgoaaGreat
namespace Go.Mv
open Go.RowKit
section
variable {P : Program} {w w0 : World} {o : Oper} {a : Act} {S : Nat → Prop} {bl : List (Nat × List Value × TypeId)} {K : Act → World → Prop} {Q : Exit → Act → World → Prop}
theorem p0s {s x : Operand} {t : TypeId} (ho : o.op = .call { callee := .builtin .append, args := #[s, x], argTypes := #[t, t] })
  {e : TypeId} {z : Value} {sz by_ : Nat} (ht : P.underlying t = some (.slice e)) (hi0 : (P.info? e).map (fun i => (i.zero, i.size, i.bytes)) = some (some z, sz, by_))
  (hzs : z.cells.size = sz) (hsz : 0 < sz)
  {v : Value} {n base : Nat} {L : List Value} (hown : Own w base e sz v n L) (hs : a.eval s = v)
  {xa : Option Addr} {m c : Nat} {news : List Value} (hx : a.eval x = .slice xa m c) (hnews : Rd w xa (m * sz) news) (h1 : ∀ u ∈ news, u.oneCell' = true)
  (h63 : n + m ≤ maxLen) (hbytes : (n + m) * by_ ≤ 140737488355328) (hbase : base ≤ w.heap.size)
  (h : ∀ v' w', Own w' base e sz v' (n + m) (L ++ news) → Fr (m0Y v) w w' → K (a.put o.dst v') w') : o.wp P a w K Q := by
 obtain ⟨v', w', hr, h2, h3, -⟩ := g0X (P := P) base t o.type e z sz by_ ht hi0 hzs hsz v n L hown xa m c news hnews h1 h63 hbytes hbase
 unfold Oper.wp execOp
 simp only [ho, resolve, invoke, builtin, Sem.run_bind, Sem.run_pure, Result.andThen_ok, List.map_toArray, List.map_cons, List.map_nil, hs, hx, hr]
 exact h v' w' h2 h3
theorem St.ofFr (h : Fr S w0 w) : St S w0 w [] := ⟨h, by simp, by simp, List.Pairwise.nil⟩
end
end Go.Mv
namespace Go.Proofs.YtemcankmggmgoaaGreat
section
open Go.RowKit Go.Mv Mvp Mvq
theorem z0M (x : Nat) : (b0Z (b0b x gP)).length = 33 := d0e _
theorem OwnB1.ptb {w w' : World} {v : Value} {l : List UInt8} (h : OwnB1 w w' v l) (hn : l.length ≤ 1000000) : PartIs w' v l := c0d h hn
attribute [local irreducible] a0F lw mix cw b0n b0v b0k a0M a0q beN b0C b0i b0z a0J a0R elN mdL b0o rtV b0T b0Z d0A e0L e0T b0b b0w b0L toB a0x a0K b0x c0q a0O c0r b0t a0I c0A f0U k0e sgF sgZ g0x chN tS
theorem s0a {w : World} {a : Option Addr} {n c : Nat} {l : List UInt8} (h : PartIs w (.slice a n c) l) : RdB w a n l := by
 obtain ⟨a', n', c', he, -, -, hr, -⟩ := h
 cases he
 exact hr
theorem x0e (ak : Option Addr) (nk ck : Nat) (key : List UInt8) (at_ : Option Addr) (nt ct : Nat) (text : List UInt8) (w : World) (hkey : PartIs w (.slice ak nk ck) key) (htext : PartIs w (.slice at_ nt ct) text) (hq : k0e key = false) : Calls Tryz.prog 13 #[.slice ak nk ck, .slice at_ nt ct] w fun e w' => e = .returned (.tuple #[.slice none 0 0, .int .i64 3]) ∧ Fr Nob w w' := by
 have HPK := qH hkey
 have HPT := qH htext
 have HKY := qH (s0a hkey)
 have HQ := qH hq
 clear hkey htext hq
 clear HPK HPT
 have st0 := St.start Nob w
 go_enter Tryz.func13, Tryz.ntmps13
 go_wp2_with fail
 refine (r0Z ak nk ck key _ (HKY.out.still st0.fr) HQ.out).mono ?_
 rintro e' w1 ⟨⟨N, rfl⟩, hf1⟩
 have st1 := st0.keep hf1
 clear st0 hf1
 go_wp2_with (with_reducible refine wSk 6 ?_)
 refine a0c st1 rfl rfl (z := zAd) (by kernel_rfl) (cw 4 0) (by rw [a0e]; rfl) ?_
 intro g6 w2 st2
 clear st1
 go_wp2_with (with_reducible refine wSn ?_)
 refine a0b st2 0 rfl rfl rfl rfl rfl (by first | (simp only [a0a]; done) | (simp only [List.length_append, a0a]; done)) (by first | (rw [a0a]; kernel_rfl) | (simp only [List.length_append, a0a]; kernel_rfl)) (a0g _ _) ?_
 intro w3 st3
 clear st2
 have hfr := st3.fr
 clear st3
 go_wp2_with fail
 go_ret2
 exact ⟨rfl, hfr⟩
theorem x0f (ak : Option Addr) (nk ck : Nat) (key : List UInt8) (at_ : Option Addr) (nt ct : Nat) (text : List UInt8) (w : World) (hkey : PartIs w (.slice ak nk ck) key) (htext : PartIs w (.slice at_ nt ct) text) (hq : k0e key = true) : Calls Tryz.prog 13 #[.slice ak nk ck, .slice at_ nt ct] w fun e w' => ∃ v, e = .returned (.tuple #[v, .int .i64 0]) ∧ OwnB1 w w' v (sgF key text ++ b0i (sgZ key text)) ∧ Fr Nob w w' := by
 have HPK := qH hkey
 have HPT := qH htext
 have HKY := qH (s0a hkey)
 have HQ := qH hq
 clear hkey htext hq
 have st0 := St.start Nob w
 go_enter Tryz.func13, Tryz.ntmps13
 go_wp2_with fail
 refine (r0Y ak nk ck key _ (HKY.out.still st0.fr) HQ.out).mono ?_
 rintro e' w1 ⟨rfl, hf1⟩
 have st1 := st0.keep hf1
 clear st0 hf1
 go_wp2_with (with_reducible refine wSk 6 ?_)
 refine a0c st1 rfl rfl (z := zAd) (by kernel_rfl) (cw 4 0) (by rw [a0e]; rfl) ?_
 intro g6 w2 st2
 clear st1
 go_wp2_with (with_reducible refine wSn ?_)
 refine a0b st2 0 rfl rfl rfl rfl rfl (by first | (simp only [a0a]; done) | (simp only [List.length_append, a0a]; done)) (by first | (rw [a0a]; kernel_rfl) | (simp only [List.length_append, a0a]; kernel_rfl)) (a0g _ _) ?_
 intro w3 st3
 clear st2
 go_wp2_with (with_reducible refine wSk 20 ?_)
 refine c0T rfl rfl Tryz.underlying39 u0n [.slice ak nk ck, .slice at_ nt ct] rfl (by simp; exact ⟨rfl, rfl⟩) rfl rfl ?_
 intro w4 hh4 hf4 hz4
 have st4 := st3.keep hf4
 have HSL := qH hh4
 clear hh4 hf4 hz4 st3
 generalize w3.heap.size = gl20 at *
 go_wp2_with fail
 refine (u0d ⟨#[110, 111, 110, 99, 101, 32, 115, 105, 103, 110]⟩ a0U rfl _ 2 [.slice ak nk ck, .slice at_ nt ct] [key, text] _ (by decide) HSL.out ⟨HPK.out.still st4.fr, HPT.out.still st4.fr, trivial⟩ (by simp)).mono ?_
 rintro e' w5 ⟨rfl, hf5⟩
 have st5 := st4.keep hf5
 clear st4 hf5
 clear HSL
 go_wp2_with (with_reducible refine wSk 8 ?_)
 refine a0c st5 rfl rfl (z := zAd) (by kernel_rfl) (cw 4 0) (by rw [a0e]; rfl) ?_
 intro g8 w6 st6
 clear st5
 go_wp2_with (with_reducible refine wSn ?_)
 refine a0b st6 1 rfl rfl rfl rfl rfl (by first | (simp only [a0a]; done) | (simp only [List.length_append, a0a]; done)) (by first | (rw [a0a]; kernel_rfl) | (simp only [List.length_append, a0a]; kernel_rfl)) (a0g _ _) ?_
 intro w7 st7
 clear st6
 go_wp2_with (with_reducible refine wSk 22 ?_)
 refine a0p st7 1 rfl rfl rfl Tryz.underlying68 rfl rfl (by first | (rw [a0a]; kernel_rfl) | (simp only [List.length_append, a0a]; kernel_rfl)) ?_
 go_wp2_with fail
 have HSZ0 := qH st7.fr.size
 refine (v0j (chN a0U [key, text]) _).mono ?_
 rintro e' w8 ⟨vf, rfl, ho, hf8⟩
 have st8 := st7.keep hf8
 have HFI0 := qH ho
 clear ho
 clear st7 hf8
 have HFI := qH (show OwnB1 w w8 vf (sgF key text) from by have h := HFI0.out; unfold sgF; exact Own.mono h (HSZ0.out))
 clear HFI0 HSZ0
 have HLF := qH (show (sgF key text).length = 33 by unfold sgF; exact d0e _)
 have HPK2 := qH (HPT.out.still st8.fr)
 go_wp2_with fail
 refine wp_region_noPanic ?_
 refine e0W st8 (fun wz => Fr Nob w8 wz) (Fr.refl Nob _).drew (fun _ _ h k => h.then k) 10 [.w 0, .t 1, .t 2, .w 4, .w 5, .t 7, .c 3, .c 6, .c 8, .c 9] (.m 10 (.w 11 (.w 12 .nil))) (by kernel_rfl) (by kernel_rfl) (fun _ _ _ _ _ h => h) ?_
 clear st8
 refine a0n (v := ?_) rfl rfl (fun xq wx => ?_) ?_
 rotate_left 1
 ·(go_simp; with_reducible rfl)
 try simp only [clL]
 refine a0f rfl rfl rfl (fun _ => rfl) (cw 4 (elN mQ (chN a0U [key, text]))) (fun wx hS => St.rangeL hS 1 rfl 0 _ dZl) Tryz.underlying68 rfl (by first | (rw [a0a]; kernel_rfl) | (simp only [List.length_append, a0a]; kernel_rfl)) ?_
 try simp only [clL]
 refine a0f rfl rfl rfl (fun _ => rfl) (cw 4 (elN mQ (beN key))) (fun wx hS => St.rangeL hS 0 rfl 0 _ dZl) Tryz.underlying68 rfl (by first | (rw [a0a]; kernel_rfl) | (simp only [List.length_append, a0a]; kernel_rfl)) ?_
 try simp only [clL]
 refine a0n (v := ?_) rfl rfl (fun xq wx => ?_) ?_
 rotate_left 1
 ·(go_simp; with_reducible rfl)
 try simp only [clL]
 refine a0n (v := ?_) rfl rfl (fun xq wx => ?_) ?_
 rotate_left 1
 ·(go_simp; with_reducible rfl)
 try simp only [clL]
 refine a0f rfl rfl rfl (fun _ => rfl) (cw 4 (elN mQ (beN key))) (fun wx hS => St.rangeL hS 0 rfl 0 _ dZl) Tryz.underlying68 rfl (by first | (rw [a0a]; kernel_rfl) | (simp only [List.length_append, a0a]; kernel_rfl)) ?_
 try simp only [clL]
 refine e0w (X := Value) (fun v => v) (fun v wx => PartIs wx v (b0Z (b0b (beN key) gP))) (fun _ _ _ h k => h.still k) rfl rfl rfl Tryz.call48 (fun w hS hR => (v0j (beN key) _).mono fun e w' ⟨v, h1, h2, h3⟩ => ⟨v, h1, OwnB1.ptb h2 (by rw [z0M]; decide), h3⟩) (fun _ => rfl) fun vb => ?_
 try simp only [clL]
 refine a0d rfl rfl rfl Tryz.call50 (fun w hS hR => w0S vb (b0Z (b0b (beN key) gP)) vf (sgF key text) (.slice at_ nt ct) text _ hR.2 ((OwnB1.ptb HFI.out (by rw [HLF.out]; decide)).still hR.1) (HPK2.out.still hR.1)) (fun _ => rfl) ?_
 try simp only [clL]
 refine a0d rfl rfl rfl Tryz.call49 (fun w hS hR => z0L (chN a0U [key, text]) (g0x (b0Z (b0b (beN key) gP)) (sgF key text) text) (beN key) _) (fun _ => rfl) ?_
 try simp only [clL]
 refine e0w (X := Option Addr × Nat) (fun y => .slice y.1 32 y.2) (fun y wx => BPart wx (.slice y.1 32 y.2) (b0i (((chN a0U [key, text]) + (g0x (b0Z (b0b (beN key) gP)) (sgF key text) text) * beN key) % mQ.M))) (fun _ _ _ h k => h.still k) rfl rfl rfl Tryz.call51 (fun w hS hR => o0d ((chN a0U [key, text]) + (g0x (b0Z (b0b (beN key) gP)) (sgF key text) text) * beN key) _) (fun _ => rfl) fun yb => ?_
 try simp only [clL]
 refine a0y fun xq w9 st9 hR => ?_
 try dsimp only
 have HFRX := qH hR.1.1
 obtain ⟨ay, ny, cy, hey, -, hry⟩ := hR.2
 cases hey
 have HRB := qH (show RdB _ yb.1 32 _ from hry)
 clear hry
 clear hR xq
 refine a0r rfl rfl ?_
 refine p0s rfl Tryz.underlying22 b0I rfl (by decide) (Own.still HFI.out HFRX.out) rfl rfl HRB.out (g0U _) (by rw [HLF.out]; decide) (by rw [HLF.out]; decide) st9.fr.size ?_
 intro va wa hown hfa
 have st10 := St.ofFr (((Own.still HFI.out HFRX.out)).fr st9.fr (Nat.le_refl _) hfa)
 have HOWN := qH hown
 clear hown hfa
 clear st9
 try simp only [clL]
 refine a0l (v := ?_) rfl rfl (fun wx => ?_) ?_
 rotate_left 1
 ·(go_simp; with_reducible rfl)
 try simp only [clL]
 refine a0l (v := ?_) rfl rfl (fun wx => ?_) ?_
 rotate_left 1
 ·(go_simp; with_reducible rfl)
 try simp only [clL]
 refine a0k ?_
 refine NoPanic.normal ?_
 clear HFI HFRX HRB
 have hfr := st10.fr
 clear st10
 go_wp2_with fail
 go_ret2
 refine ⟨va, rfl, ?_, hfr⟩
 have h := HOWN.out
 rw [← c0L] at h
 unfold sgZ
 exact OwnB1.of h (by rw [List.length_append, a0W])
end
section
open Go.RowKit Go.Mv Mvp Mvq
def y0S : List UInt8 := [112, 111, 105, 110, 116, 32]
def hB (label b : List UInt8) (i : Nat) : List UInt8 := c0A (y0S ++ label) [b, [UInt8.ofNat i]]
def hN (label b : List UInt8) (i : Nat) : Nat := beN (hB label b i)
theorem A0k {n : Nat} (h : b0T mP.M (e0G n) = true) : onC (.A (kc n) (kc (atY mP.M n))) := by
 rw [z0S n h]
 rw [d0d] at h
 exact y0v h
open Classical in
noncomputable def i0p (label b : List UInt8) (i : Nat) : Option PT := if h : hN label b i < mP.M ∧ b0T mP.M (e0G (hN label b i)) = true then some (r0k (hN label b i) (atY mP.M (hN label b i)) (A0k h.2)) else none
noncomputable def i0q (label b : List UInt8) (k : Nat) : List PT := (List.range k).filterMap (i0p label b)
noncomputable def m0W (label b : List UInt8) : PT := ((i0q label b 256).head?).getD l0C
end
end Go.Proofs.YtemcankmggmgoaaGreat
namespace Go.Mv
open Go.RowKit
section
variable {P : Program} {ops : Array Oper} {md : Region.Mode} {Q : Exit → Act → World → Prop} {m : Nat} {S : Nat → Prop} {w0 : World} {tl : Pl}
def k0j (l : List Nat) (x : Nat → Value) : Nat → Value := fun k => if l.contains k then x k else undef
def Apd (ops : Array Oper) (s : List Nat) : Prop := ∀ j ∈ s, ∀ k ∈ s, j ≠ k → ∀ oj ok, ops[j]? = some oj → ops[k]? = some ok → ok.dst ≠ oj.dst ∨ ok.dst = none
theorem Apd.tail {i : Nat} {s : List Nat} (h : Apd ops (i :: s)) : Apd ops s := fun j hj k hk => h j (List.mem_cons_of_mem _ hj) k (List.mem_cons_of_mem _ hk)
def Obl (P : Program) (ops : Array Oper) (Q : Exit → Act → World → Prop) (G : World → Prop) (A : (Nat → Value) → Act) (pre : Nat → List Nat) (Φ : Nat → (Nat → Value) → World → Prop) (i : Nat) (o : Oper) : Bool → Prop
 | false => ∀ x w, G w → (∀ j ∈ pre i, Φ j (k0j (j :: pre j) x) w) → (Region.wanted o (yielded ops (A x).tmps) = true ∧ o.wp P (A x) w (fun a' w' => ∃ v, a' = (A x).put o.dst v ∧ Fr Nob w w' ∧ Φ i (k0j (i :: pre i) (upd x i v)) w') Q) ∨ (Region.wanted o (yielded ops (A x).tmps) = false ∧ Φ i (k0j (i :: pre i) (upd x i undef)) w)
 | true => ∀ x w, G w → (∀ j ∈ pre i, Φ j (k0j (j :: pre j) x) w) → Region.wanted o (yielded ops (A x).tmps) = true ∧ ∃ v, (∀ wx, (execOp (A x).eval o).run P wx = .ok (.value v) wx) ∧ Φ i (k0j (i :: pre i) (upd x i v)) w
def Obls (P : Program) (ops : Array Oper) (Q : Exit → Act → World → Prop) (G : World → Prop) (A : (Nat → Value) → Act) (pre : Nat → List Nat) (Φ : Nat → (Nat → Value) → World → Prop) (Lz : List Nat) : List Nat → Prop
 | [] => True
 | i :: s => ((∀ o, ops[i]? = some o → Obl P ops Q G A pre Φ i o (Lz.contains i)) ∧
   ∀ y w w', Φ i (k0j (i :: pre i) y) w → Fr Nob w w' → Φ i (k0j (i :: pre i) y) w') ∧ Obls P ops Q G A pre Φ Lz s
theorem Obls.at {G : World → Prop} {A : (Nat → Value) → Act} {pre : Nat → List Nat} {Φ : Nat → (Nat → Value) → World → Prop} {Lz : List Nat} : ∀ {s : List Nat}, Obls P ops Q G A pre Φ Lz s → ∀ i ∈ s, (∀ o, ops[i]? = some o → Obl P ops Q G A pre Φ i o (Lz.contains i)) ∧
      ∀ y w w', Φ i (k0j (i :: pre i) y) w → Fr Nob w w' → Φ i (k0j (i :: pre i) y) w'
  | [], _, _, h => by cases h
  | _ :: _, h, i, hi => by
    rcases List.mem_cons.1 hi with rfl | hi
    · exact h.1
    · exact Obls.at h.2 i hi
variable {o : Oper} {a : Act} {w : World} {Ψ : Value → World → Prop}
end
end Go.Mv
namespace Go.Proofs.YtemcankmggmgoaaGreat
open Go.RowKit Go.Mv Mvp Mvt
attribute [local irreducible] a0F lw mix cw b0n b0v b0k a0M a0q beN b0C b0i b0z a0J a0R elN mdL b0o b0w b0L toB a0x a0K b0x c0q a0O c0r b0t a0I c0A s0e
theorem z0U (p : Nat) (D : List UInt8) (w : World) (hp0 : 0 < p) (hp : p < B64 ^ 4) :
  Calls Tryz.prog 96 #[fv p, .string (mkS (a0O D 31 64))] w fun e w' => e = .returned (i4 (beN (a0O D 31 64) % p)) ∧ Fr Nob w w' := by
 have h := w0a p (mkS (a0O D 31 64)) w hp0 hp (by rw [a0H, h0k]; decide)
 simpa [mkS] using h
end Go.Proofs.YtemcankmggmgoaaGreat
namespace Go.Mv
open Go.RowKit
variable {P : Program}
end Go.Mv
namespace Go.Mv
open Go.RowKit Go.ChangeShapes Go.WideShapes
theorem Below.trodAll {H : Type} {enc : TypeId × Value → H} {P : Program} (hl : laidOutB P = true) {W W' : World} (hb : Below W.heap.size W W') :
  ∀ (ts : List TypeId) (vs : List Value) (ds : List (DataW H)) (ps : List MemPlace), (∀ t ∈ ts, P.readableRec t = true ∧ t < P.types.size) → DataW.TrodAll enc P W 0 (fun _ => true) true ts vs ds ps → (∀ x ∈ ps, x.block < W.heap.size) →
   DataW.TrodAll enc P W' 0 (fun b => decide (b < W.heap.size)) true ts vs ds ps
 | [], vs, ds, ps, _, h, _ => by
  obtain ⟨rfl, rfl, rfl⟩ := trodAll_nil h
  exact trodAll_mk0
 | t :: ts, vs, ds, ps, hr, h, hlt => by
  obtain ⟨v, vs', d, ds', p, q, rfl, rfl, rfl, h0, hs⟩ := trodAll_cons h
  have h1 := hr t (by simp)
  exact trodAll_cons_mk (Below.trod hl h1.1 h1.2 h0 hb (fun x hx => hlt x (by simp [hx]))) (Below.trodAll hl hb ts vs' ds' q (fun t ht => hr t (by simp [ht])) hs (fun x hx => hlt x (by simp [hx])))
theorem u0r {H : Type} {enc : TypeId × Value → H} {P : Program} {f : Func} {s : ChangeSpec} {W W' : World} {args : Array Value} {ds gs : List (DataW H)} {before : List MemPlace}
  (hl : laidOutB P = true) (hr : ∀ t ∈ f.params.toList, P.readableRec t = true ∧ t < P.types.size) (hW : DataW.Whole enc P f.params.toList s.vars false W args.toList ds gs before)
  (hv : s.vars = []) (hres : (s.fn H (ds ++ gs)).results = [.lit (.bool true)]) (harg : (s.fn H (ds ++ gs)).args = ds) (hvar : (s.fn H (ds ++ gs)).vars = [])
  {tb : TypeId} (hrt : f.resultTypes = #[tb]) (hu : P.underlying tb = some .bool) (hf : Fr Nob W W') :
  s.post enc P f false true false false W args (.bool true) W' := by
 have hW' := hW
 obtain ⟨p, q, hA, hV, rfl, hfz, hnd⟩ := hW
 rw [hv] at hV
 obtain ⟨rfl, rfl⟩ := trodVars_none hV
 have hlt : ∀ x ∈ p ++ [], x.block < W.heap.size := fun x hx => hW'.lt x hx
 refine ⟨ds, [], p ++ [], [], p, [], hW', ?_, ?_, ?_, World.keptBut_mono (fun x hx => ⟨hx, ?_⟩) (hf.below.frame (· ∈ p ++ [])), fun h => by cases h⟩
 ·rw [hres, hrt]
  exact trodAll_mk1 (shut_bool hu true)
 ·rw [harg]
  exact Below.trodAll hl hf.below _ _ _ _ hr hA (fun x hx => hlt x (by simp [hx]))
 ·rw [hvar, hv]; exact rfl
 ·simp only [List.append_nil] at hx
  exact .inr (.inl hx)
end Go.Mv
