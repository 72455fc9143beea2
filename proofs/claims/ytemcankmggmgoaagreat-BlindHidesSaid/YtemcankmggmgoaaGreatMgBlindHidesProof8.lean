/- ; ; ; ; ; ; ; ; ; ; ; ; ; ; ; ; ; ; ; ; ; . -/
import Derived.Test.YtemcankmggmgoaaGreatMgBlindHidesProof7
import Derived.Test.YtemcankmggmgoaaGreatMgBlindHidesProof5
import Derived.Test.YtemcankmggmgoaaGreatMgBlindHidesProof2
import Derived.Test.YtemcankmggmgoaaGreatMgBlindHidesProof6
import Derived.Test.YtemcankmggmgoaaGreatMgBlindHidesProof4
import Derived.KernelRfl
import Derived.Test.YtemcankmggmgoaaGreatMgBlindHidesProof1
set_option maxHeartbeats 16000000
set_option maxRecDepth 1000000

namespace Go.Proofs.YtemcankmggmgoaaGreat
section
open Go.RowKit Go.Mv Mvp Mvq
theorem u0C : beN [121, 190, 102, 126, 249, 220, 187, 172, 85, 160, 98, 149, 206, 135, 11, 7, 2, 155, 252, 219, 45, 206, 40, 217, 89, 242, 129, 91, 22, 248, 23, 152] = gXn := by decide
theorem B0k (w : World) : Calls Tryz.prog 173 #[.string ⟨#[121, 190, 102, 126, 249, 220, 187, 172, 85, 160, 98, 149, 206, 135, 11, 7, 2, 155, 252, 219, 45, 206, 40, 217, 89, 242, 129, 91, 22, 248, 23, 152]⟩] w fun e w' => e = .returned (i4 (kN (kc gXn))) ∧ Fr Nob w w' := by
 have h := v0I ⟨#[121, 190, 102, 126, 249, 220, 187, 172, 85, 160, 98, 149, 206, 135, 11, 7, 2, 155, 252, 219, 45, 206, 40, 217, 89, 242, 129, 91, 22, 248, 23, 152]⟩ w (by decide)
 have e : beN [121, 190, 102, 126, 249, 220, 187, 172, 85, 160, 98, 149, 206, 135, 11, 7, 2, 155, 252, 219, 45, 206, 40, 217, 89, 242, 129, 91, 22, 248, 23, 152] = kN (kc gXn) := by rw [u0C]; decide
 rw [← e]
 exact h
theorem m0R : gYn % fP = gYn ∧ gYn % 2 = 0 ∧ gYn < fP := by decide
theorem A0W : b0I fP (kN (kc gXn * kc gXn * kc gXn + 7)) = true ∧ kc (rtV fP (kN (kc gXn * kc gXn * kc gXn + 7))) = kc gYn := by
 have hb : kc gYn * kc gYn = kc gXn * kc gXn * kc gXn + 7 := j0K
 rw [← hb]
 have e : kN (kc gYn * kc gYn) = gYn * gYn % fP := by rw [← a0C, j0W]
 have fp : FP fP := by rw [← q0Z]; exact A0w
 have h4 : fP % 4 = 3 := by decide
 have ho := r0e fp h4 m0R.2.2
 rw [e]
 refine ⟨ho, ?_⟩
 have hlt : gYn * gYn % fP < fP := Nat.mod_lt _ (by decide)
 have hsq := m0z fp hlt ho
 have hev := l0d fp (x := gYn * gYn % fP)
 have h2 := z0j fp.prime m0R.2.2 (Nat.mod_lt (rtV fP (gYn * gYn % fP)) (by decide : 0 < fP)) (by rw [hsq])
 have hy := m0R.2.1
 rcases h2 with h2 | h2
 ·rw [← d0I, h2]
 ·exfalso
  have h3 : (fP - gYn) % fP = fP - gYn := by decide
  rw [h2, h3] at hev
  have h5 : (fP - gYn) % 2 = 1 := by decide
  omega
noncomputable def j0Y : RT := A0E (kc gXn) (kc gYn) j0K
theorem u0D : j0Y.pt = .A (kc gXn) (kc gYn) := r0S _ _ _
theorem x0M : j0Y.L = rpL (kc gXn) (kc gYn) 1 := rfl
theorem B0l (w : World) : Calls Tryz.prog 141 #[i4 (kN (kc gXn))] w fun e w' => e = .returned (.tuple #[.agg j0Y.L.toArray, .bool true]) ∧ Fr Nob w w' := by
 have h := z0A (kc gXn) _ _ _ rfl rfl rfl A0W.1 w
 rw [A0W.2] at h
 exact h
def u0E (b : Nat) : UInt8 := UInt8.ofNat (2 + b)
theorem w0e (b : Nat) (hb : b = 0 ∨ b = 1) : ([Value.int .u8 (2 + (b : Int))].flatMap fun v => v.cells.toList) = bs [u0E b] := by
 rcases hb with rfl | rfl <;> rfl
theorem u0F {T : TypeId} (_ : Tryz.prog.underlying T = some .string) (s t : ByteArray) (h : s.size + t.size ≤ 9223372036854775807) (w : World) : (binOp .add T (.string s) (.string t)).run Tryz.prog w = .ok (.string (s ++ t)) w := by
 have := h
 go_simp
theorem h0Q {o : Oper} {a : Act} {p q : Operand} {T U : TypeId} {s t : ByteArray} {r : List UInt8} (ho : o.op = .binOp .add T p q U) (hp : a.eval p = .string s) (hq : a.eval q = .string t) (hT : Tryz.prog.underlying T = some .string) (h : s.size + t.size ≤ 1000000) (hr : s ++ t = mkS r) (w : World) :
  (execOp a.eval o).run Tryz.prog w = .ok (.value (.string (mkS r))) w := by
 have h2 := d0a (P := Tryz.prog) ho hp hq w (by go_simp) (u0F hT s t (by omega) w)
 rwa [hr] at h2
theorem g0V {P : Program} {o : Oper} {a : Act} {x : Operand} {src dst e : TypeId} (ho : o.op = .convert src dst x) (hs : P.underlying src = some (.slice e)) (he : P.underlying e = some (.int .u8)) (hd : P.underlying dst = some .string) {sa : Option Addr} {m c : Nat} {l : List UInt8}
  (hx : a.eval x = .slice sa m c) {w : World} (h : RdB w sa m l) : (execOp a.eval o).run P w = .ok (.value (.string (mkS l))) w := by
 unfold execOp
 simp only [ho, hx, Sem.run_bind, c0y h c hs he hd, Result.andThen_ok, Sem.run_pure]
theorem m0S (l m : List UInt8) : mkS l ++ mkS m = mkS (l ++ m) := by
 apply ByteArray.ext
 simp [mkS]
theorem B0m : (List.replicate 33 (Value.int .u8 0)) = bs (List.replicate 33 0) := by rfl
attribute [local irreducible] a0G lw mix cw b0q b0y b0p a0K a0r beN b0F a0U b0D a0I a0R elN mdL b0m rtV b0I kN kc c0d b0g f0Y noR c0x f0h RT.L gXn gYn u0E
theorem A0X (w : World) : Calls Tryz.prog 127 #[] w fun e w' => e = .returned (.agg j0Y.L.toArray) ∧ Fr Nob w w' := by
 have st0 := St.start Nob w
 go_enter Tryz.func127, Tryz.ntmps127
 go_wp2_with (with_reducible refine wSk 0 ?_)
 refine a0c st0 rfl rfl (z := zAc) (by kernel_rfl) (cw 12 0) (by rw [a0g]; rfl) ?_
 intro g0 w1 st1
 clear st0
 go_wp2_with fail
 refine (B0k _).mono ?_
 rintro e' w2 ⟨rfl, hf2⟩
 have st2 := st1.keep hf2
 clear st1 hf2
 go_wp2_with (with_reducible refine wSk 1 ?_)
 refine a0c st2 rfl rfl (z := zAd) (by kernel_rfl) (cw 4 0) (by rw [a0g]; rfl) ?_
 intro g1 w3 st3
 clear st2
 go_wp2_with (with_reducible refine wSn ?_)
 refine a0d st3 1 rfl rfl rfl rfl rfl (by simp [a0a]) (by kernel_rfl) (a0j _ _) ?_
 intro w4 st4
 clear st3
 go_wp2_with (with_reducible refine wSk 6 ?_)
 refine a0k st4 1 rfl rfl rfl Tryz.underlying60 rfl (by kernel_rfl) ?_
 go_wp2_with fail
 refine (B0l _).mono ?_
 rintro e' w5 ⟨rfl, hf5⟩
 have st5 := st4.keep hf5
 clear st4 hf5
 go_wp2_with (with_reducible refine wSk 2 ?_)
 refine a0c st5 rfl rfl (z := zAc) (by kernel_rfl) (cw 12 0) (by rw [a0g]; rfl) ?_
 intro g2 w6 st6
 clear st5
 go_wp2_with (with_reducible refine wSn ?_)
 refine a0d st6 2 rfl rfl rfl rfl rfl (by first | (simp [a0a]; done) | (simp [RT.len]; done) | (simp [a0a, RT.len]; done) | simp [a0a, RT.len]) (by kernel_rfl) (RT.one _) ?_
 intro w7 st7
 clear st6
 go_wp2_with (with_reducible refine wSk 10 ?_)
 refine a0q st7 2 rfl rfl rfl Tryz.underlying62 rfl rfl (by kernel_rfl) ?_
 go_wp2_with (with_reducible refine wSn ?_)
 refine a0d st7 0 rfl rfl rfl rfl rfl (by first | (simp [a0a]; done) | (simp [RT.len]; done) | (simp [a0a, RT.len]; done) | simp [a0a, RT.len]) (by kernel_rfl) (RT.one _) ?_
 intro w8 st8
 clear st7
 have hr := st8.at 0 rfl
 have hfr := st8.fr
 clear st8
 go_wp2_with fail
 exact bodyPost_ret (a0x rfl rfl hr Tryz.underlying62 rfl (by kernel_rfl)) rfl ⟨rfl, hfr⟩
theorem p0y (x y z : K) (hb : decide (z = 0) = true) (w : World) : Calls Tryz.prog 45 #[rpV x y z] w fun e w' => e = .returned (.string (mkS (List.replicate 33 0))) ∧ Fr Nob w w' := by
 have HB := qH hb
 clear hb
 unfold rpV rpL
 have st0 := St.start Nob w
 go_enter Tryz.func45, Tryz.ntmps45
 go_wp2_with (with_reducible refine wSk 1 ?_)
 refine a0m st0 rfl rfl rfl (cw 4 (kN x) ++ (cw 4 (kN y) ++ cw 4 (kN z))) rfl ?_
 intro g1 w1 st1
 clear st0
 go_wp2_with (with_reducible refine wSk 7 ?_)
 refine a0q st1 0 rfl rfl rfl Tryz.underlying62 rfl rfl (by kernel_rfl) ?_
 go_wp2_with fail
 refine (d0n x y z true HB.out _).mono ?_
 rintro e' w2 ⟨rfl, hf2⟩
 have st2 := st1.keep hf2
 clear st1 hf2
 go_wp2_with (with_reducible refine wSk 10 ?_)
 refine c0m rfl rfl Tryz.underlying22 b0u rfl rfl rfl 33 33 (by simp) (by simp) (by omega) (by omega) (by unfold maxLen; omega) ?_
 intro w3 hg2 hf2 hz2
 clear hz2
 have st3 := st2.new hf2 hg2 (Nat.le_refl _)
 clear st2 hg2 hf2
 rw [B0m] at st3
 go_wp2_with (with_reducible refine wSk 11 ?_)
 refine c0F rfl rfl Tryz.underlying22 Tryz.underlying5 Tryz.underlying9 rfl (l := List.replicate 33 0) (Rd.whole (st3.at 1 rfl)) ?_
 have hfr := st3.fr
 clear st3
 go_wp2_with fail
 go_ret
 exact ⟨rfl, hfr⟩
theorem p0z (x y z : K) (hb : decide (z = 0) = false) (i X Y : K) (ei : c0d z = i) (eX : x * i = X) (eY : y * i = Y) (w : World) : Calls Tryz.prog 45 #[rpV x y z] w fun e w' => e = .returned (.string (mkS (u0E (kN Y % 2) :: a0U (kN X)))) ∧ Fr Nob w w' := by
 have HB := qH hb
 clear hb
 have Hi := qH ei
 have HX := qH eX
 have HY := qH eY
 clear ei eX eY
 unfold rpV rpL
 have st0 := St.start Nob w
 go_enter Tryz.func45, Tryz.ntmps45
 go_wp2_with (with_reducible refine wSk 1 ?_)
 refine a0m st0 rfl rfl rfl (cw 4 (kN x) ++ (cw 4 (kN y) ++ cw 4 (kN z))) rfl ?_
 intro g1 w1 st1
 clear st0
 go_wp2_with (with_reducible refine wSk 7 ?_)
 refine a0q st1 0 rfl rfl rfl Tryz.underlying62 rfl rfl (by kernel_rfl) ?_
 go_wp2_with fail
 refine (d0n x y z false HB.out _).mono ?_
 rintro e' w2 ⟨rfl, hf2⟩
 have st2 := st1.keep hf2
 clear st1 hf2
 go_wp2_with fail
 refine wp_region_noPanic ?_
 refine a0f st2 5 [.o 4, .w 1, .t 2, .c 0, .c 3, .j 4] (.m 5 .nil) (by kernel_rfl) (by kernel_rfl) (fun _ _ _ _ _ h => h) ?_
 clear st2
 refine b0j rfl rfl rfl e0V (cw 4 0) rfl ?_
 try simp only [clL]
 refine a0n (v := ?_) rfl rfl (fun xq wx => ?_) ?_; rotate_left 1; · (go_simp; with_reducible rfl)
 try simp only [clL]
 refine a0e rfl rfl rfl (fun _ => rfl) (cw 4 (kN z)) (fun wx hS => St.rangeL hS 0 rfl 8 _ (f0C _ _ _)) Tryz.underlying60 rfl (by kernel_rfl) ?_
 try simp only [clL]
 refine a0b rfl rfl rfl Tryz.call112 (fun w hS hR => a0H _) (fun _ => rfl) ?_
 try simp only [clL]
 refine a0b rfl rfl rfl Tryz.call113 (fun w hS hR => B0j z i Hi.out _) (fun _ => rfl) ?_
 try simp only [clL]
 refine b0c List.mem_cons_self fun g4 => ?_
 simp only [upd, reduceIte]
 refine a0t fun xq w3 st3 hR => ?_
 try dsimp only
 clear hR xq
 refine a0o rfl rfl ?_
 refine a0h st3 1 rfl rfl rfl rfl (by simp [a0a]) (by kernel_rfl) (a0j _ _) ?_
 intro w4 st4
 repeat (first | simp only [List.cons_append] at st4 | simp only [List.nil_append] at st4 | simp only [List.set_cons_succ] at st4 | simp only [List.set_cons_zero] at st4)
 clear st3
 try simp only [Act.put]
 refine a0i ?_
 refine NoPanic.normal ?_
 go_wp2_with fail
 refine wp_region_noPanic ?_
 refine a0f st4 6 [.o 5, .w 1, .t 2, .t 3, .c 0, .c 4, .j 5] (.m 6 .nil) (by kernel_rfl) (by kernel_rfl) (fun _ _ _ _ _ h => h) ?_
 clear st4
 refine b0j rfl rfl rfl e0V (cw 4 0) rfl ?_
 try simp only [clL]
 refine a0n (v := ?_) rfl rfl (fun xq wx => ?_) ?_; rotate_left 1; · (go_simp; with_reducible rfl)
 try simp only [clL]
 refine a0e rfl rfl rfl (fun _ => rfl) (cw 4 (kN x)) (fun wx hS => St.rangeL hS 0 rfl 0 _ (k0p _ _ _)) Tryz.underlying60 rfl (by kernel_rfl) ?_
 try simp only [clL]
 refine a0e rfl rfl rfl (fun _ => rfl) (cw 4 (kN i)) (fun wx hS => St.rangeL hS 1 rfl 0 _ dZl) Tryz.underlying60 rfl (by kernel_rfl) ?_
 try simp only [clL]
 refine a0b rfl rfl rfl Tryz.call112 (fun w hS hR => a0H _) (fun _ => rfl) ?_
 try simp only [clL]
 refine a0b rfl rfl rfl Tryz.call58 (fun w hS hR => d0J x i X HX.out _) (fun _ => rfl) ?_
 try simp only [clL]
 refine b0c List.mem_cons_self fun g5 => ?_
 simp only [upd, reduceIte]
 refine a0t fun xq w5 st5 hR => ?_
 try dsimp only
 clear hR xq
 refine a0o rfl rfl ?_
 refine a0h st5 2 rfl rfl rfl rfl (by simp [a0a]) (by kernel_rfl) (a0j _ _) ?_
 intro w6 st6
 repeat (first | simp only [List.cons_append] at st6 | simp only [List.nil_append] at st6 | simp only [List.set_cons_succ] at st6 | simp only [List.set_cons_zero] at st6)
 clear st5
 try simp only [Act.put]
 refine a0i ?_
 refine NoPanic.normal ?_
 go_wp2_with fail
 refine wp_region_noPanic ?_
 refine a0f st6 6 [.o 5, .w 1, .t 2, .t 3, .c 0, .c 4, .j 5] (.m 6 .nil) (by kernel_rfl) (by kernel_rfl) (fun _ _ _ _ _ h => h) ?_
 clear st6
 refine b0j rfl rfl rfl e0V (cw 4 0) rfl ?_
 try simp only [clL]
 refine a0n (v := ?_) rfl rfl (fun xq wx => ?_) ?_; rotate_left 1; · (go_simp; with_reducible rfl)
 try simp only [clL]
 refine a0e rfl rfl rfl (fun _ => rfl) (cw 4 (kN y)) (fun wx hS => St.rangeL hS 0 rfl 4 _ (l0X _ _ _)) Tryz.underlying60 rfl (by kernel_rfl) ?_
 try simp only [clL]
 refine a0e rfl rfl rfl (fun _ => rfl) (cw 4 (kN i)) (fun wx hS => St.rangeL hS 1 rfl 0 _ dZl) Tryz.underlying60 rfl (by kernel_rfl) ?_
 try simp only [clL]
 refine a0b rfl rfl rfl Tryz.call112 (fun w hS hR => a0H _) (fun _ => rfl) ?_
 try simp only [clL]
 refine a0b rfl rfl rfl Tryz.call58 (fun w hS hR => d0J y i Y HY.out _) (fun _ => rfl) ?_
 try simp only [clL]
 refine b0c List.mem_cons_self fun g6 => ?_
 simp only [upd, reduceIte]
 refine a0t fun xq w7 st7 hR => ?_
 try dsimp only
 clear hR xq
 refine a0o rfl rfl ?_
 refine a0h st7 3 rfl rfl rfl rfl (by simp [a0a]) (by kernel_rfl) (a0j _ _) ?_
 intro w8 st8
 repeat (first | simp only [List.cons_append] at st8 | simp only [List.nil_append] at st8 | simp only [List.set_cons_succ] at st8 | simp only [List.set_cons_zero] at st8)
 clear st7
 try simp only [Act.put]
 refine a0i ?_
 refine NoPanic.normal ?_
 have ha := g0e (kN Y)
 have hb2 : kN Y % 2 = 0 ∨ kN Y % 2 = 1 := by omega
 generalize hbv : kN Y % 2 = b at *
 have HBV := qH hbv
 clear hbv
 have hw8 : IntKind.u8.wrap (b : Int) = (b : Int) := by rcases hb2 with rfl | rfl <;> decide
 have hw9 : IntKind.u8.wrap (2 + (b : Int)) = 2 + (b : Int) := by rcases hb2 with rfl | rfl <;> decide
 have HB2 := qH hb2
 clear hb2
 go_wp2_with fail
 refine wp_region_noPanic ?_
 refine a0p (fun wx => St Nob w wx [(g1, cw 4 (kN x) ++ (cw 4 (kN y) ++ cw 4 (kN z)), 62), (g4, cw 4 (kN i), 60), (g5, cw 4 (kN X), 60), (g6, cw 4 (kN Y), 60)]) 10 (.w 0 (.t 1 (.w 2 (.w 3 (.w 4 (.t 7 (.b 5 8 (.b 6 8 (.r 8 (.r 9 (.m 10 .nil))) (.r 6 (.r 9 (.m 10 .nil)))) (.r 5 (.r 6 (.r 9 (.m 10 .nil))))))))))) (by kernel_rfl) (by kernel_rfl) st8.drew (fun _ _ _ _ _ h => h) ?_
 have hd8 := st8.drew
 clear st8
 refine a0l (v := ?_) rfl rfl (fun wx => ?_) ?_; rotate_left 1; · (go_simp; with_reducible rfl)
 try simp only [clL]
 refine d0i (v := ?_) rfl rfl (fun wx hS => ?_) ?_
 rotate_left 1
 ·(have hc := (St.at hS 3 rfl).cell (a0B 4 (kN Y) 0 (by decide)); clear hS; go_simp; with_reducible rfl)
 try simp only [clL]
 iterate 3 (refine a0l (v := ?_) rfl rfl (fun wx => ?_) ?_; rotate_left 1; · (go_simp; with_reducible rfl); try simp only [clL])
 refine a0s rfl rfl rfl rfl (cw 4 (kN X)) (fun wx hS => St.rangeL hS 2 rfl 0 _ dZl) Tryz.underlying60 rfl (by kernel_rfl) ?_
 try simp only [clL]
 refine d0G (C := fun g31 wz => St Nob w wz [(g1, cw 4 (kN x) ++ (cw 4 (kN y) ++ cw 4 (kN z)), 62), (g4, cw 4 (kN i), 60), (g5, cw 4 (kN X), 60), (g6, cw 4 (kN Y), 60), (g31, bs [u0E b], 5)]) (F := ?_) (fun key => ?_) ?_
 rotate_left 1
 ·skip
  refine d0j rfl rfl rfl rfl ?_ ?_
  ·skip
   refine r0X hd8 rfl Tryz.underlying22 b0u [.int .u8 (2 + (b : Int))] rfl (by simp [Value.cells]) rfl _ (w0e b HB2.out) ?_
   intro g31 w9 st9
   refine ⟨St.less st9 (by simp), ?_⟩
   try simp only [clL]
   refine d0j rfl rfl rfl rfl ?_ ?_
   ·skip
    refine i0U (g0V rfl Tryz.underlying22 Tryz.underlying5 Tryz.underlying9 rfl (l := [u0E b]) (Rd.whole (st9.at 4 rfl))) ?_
    have st10 := st9
    refine ⟨St.less st10 (by simp), ?_⟩
    try simp only [clL]
    refine a0A rfl rfl ?_
    go_simp
    refine (g0c (kN X) _).mono ?_
    rintro e' w11 ⟨rfl, hf11⟩
    have st11 := st10.keep hf11
    clear hf11
    refine ⟨St.less st11 (by simp), ?_⟩
    try simp only [clL]
    refine a0A rfl rfl ?_
    refine i0U (h0Q rfl rfl rfl Tryz.underlying9 (by rw [a0Q, a0Q, b0f]; simp) (m0S _ _) _) ?_
    have st12 := st11
    refine ⟨St.less st12 (by simp), ?_⟩
    try simp only [clL]
    refine a0o rfl rfl ?_
    go_simp
    try simp only [clL]
    refine a0i ?_
    exact key g31 _ st12
   ·skip
    go_simp
    refine (g0c (kN X) _).mono ?_
    rintro e' w13 ⟨rfl, hf13⟩
    have st13 := st9.keep hf13
    clear hf13
    refine ⟨St.less st13 (by simp), ?_⟩
    try simp only [clL]
    refine a0A rfl rfl ?_
    refine i0U (g0V rfl Tryz.underlying22 Tryz.underlying5 Tryz.underlying9 rfl (l := [u0E b]) (Rd.whole (st13.at 4 rfl))) ?_
    have st14 := st13
    refine ⟨St.less st14 (by simp), ?_⟩
    try simp only [clL]
    refine a0A rfl rfl ?_
    refine i0U (h0Q rfl rfl rfl Tryz.underlying9 (by rw [a0Q, a0Q, b0f]; simp) (m0S _ _) _) ?_
    have st15 := st14
    refine ⟨St.less st15 (by simp), ?_⟩
    try simp only [clL]
    refine a0o rfl rfl ?_
    go_simp
    try simp only [clL]
    refine a0i ?_
    exact key g31 _ st15
  ·skip
   go_simp
   refine (g0c (kN X) _).mono ?_
   rintro e' w16 ⟨rfl, hf16⟩
   have st16 := hd8.keep hf16
   clear hf16
   refine ⟨st16, ?_⟩
   try simp only [clL]
   refine a0A rfl rfl ?_
   refine r0X st16 rfl Tryz.underlying22 b0u [.int .u8 (2 + (b : Int))] rfl (by simp [Value.cells]) rfl _ (w0e b HB2.out) ?_
   intro g31 w17 st17
   refine ⟨St.less st17 (by simp), ?_⟩
   try simp only [clL]
   refine a0A rfl rfl ?_
   refine i0U (g0V rfl Tryz.underlying22 Tryz.underlying5 Tryz.underlying9 rfl (l := [u0E b]) (Rd.whole (st17.at 4 rfl))) ?_
   have st18 := st17
   refine ⟨St.less st18 (by simp), ?_⟩
   try simp only [clL]
   refine a0A rfl rfl ?_
   refine i0U (h0Q rfl rfl rfl Tryz.underlying9 (by rw [a0Q, a0Q, b0f]; simp) (m0S _ _) _) ?_
   have st19 := st18
   refine ⟨St.less st19 (by simp), ?_⟩
   try simp only [clL]
   refine a0o rfl rfl ?_
   go_simp
   try simp only [clL]
   refine a0i ?_
   exact key g31 _ st19
 intro g31 w20 st20
 have st20 : St Nob w w20 [(g1, cw 4 (kN x) ++ (cw 4 (kN y) ++ cw 4 (kN z)), 62), (g4, cw 4 (kN i), 60), (g5, cw 4 (kN X), 60), (g6, cw 4 (kN Y), 60), (g31, bs [u0E b], 5)] := st20
 clear hd8
 refine NoPanic.normal ?_
 have hfr := st20.fr
 clear st20
 go_wp2_with fail
 go_ret
 exact ⟨by rw [HBV.out]; rfl, hfr⟩
end
section
open Go.RowKit Go.Mv Mvp Mvq
theorem z0B (x y : K) : b0g (.A x y) = u0E (kN y % 2) :: a0U (kN x) := rfl
theorem i0V (s : RT) (w : World) : Calls Tryz.prog 45 #[.agg s.L.toArray] w fun e w' => e = .returned (.string (mkS (b0g s.pt))) ∧ Fr Nob w w' := by
 cases h : s.isO
 ·have hz : s.z ≠ 0 := by simpa [RT.isO] using h
  have h2 : s.pt = .A (s.x * c0d s.z) (s.y * c0d s.z) := t0R hz
  rw [h2, z0B]
  exact p0z s.x s.y s.z h _ _ _ rfl rfl rfl w
 ·rw [RT.isO_t h]
  exact p0y s.x s.y s.z h w
end
section
open Go.RowKit Go.Mv Mvp Mvq
attribute [local irreducible] a0G lw mix cw b0q b0y b0p a0K a0r beN b0F a0U b0D a0I a0R elN mdL b0m rtV b0I kN kc c0d b0g f0Y noR c0x f0h RT.L gXn gYn
end
section
open Go.RowKit Go.Mv Mvp Mvq
attribute [local irreducible] rtV b0I rpL d0b beN a0U
theorem r0Y (n : Nat) : kN (kc n * kc n * kc n + 7) = d0b n % fP := by rw [← m0A, j0W]
theorem A0G (n : Nat) (hr : b0I fP (d0b n) = true) (w : World) : Calls Tryz.prog 141 #[i4 (kN (kc n))] w fun e w' => e = .returned (.tuple #[rpV (kc n) (kc (rtV fP (d0b n))) 1, .bool true]) ∧ Fr Nob w w' := by
 have h := z0A (kc n) _ _ _ rfl rfl rfl (by rw [r0Y, o0p]; exact hr) w
 rw [r0Y, x0L] at h
 exact h
theorem A0H (n : Nat) (hr : b0I fP (d0b n) = false) (w : World) : Calls Tryz.prog 141 #[i4 (kN (kc n))] w fun e w' => e = .returned (.tuple #[rpV (kc n) 0 1, .bool false]) ∧ Fr Nob w w' :=
 A0F (kc n) _ _ _ rfl rfl rfl (by rw [r0Y, o0p]; exact hr) w
end
section
open Go.RowKit Go.Mv Mvp Mvq
theorem t_ok {lk la : List UInt8} (hk : b0m mQ lk = true) (ha : c0N la = true) : tC lk la = 0 ∧ tS lk la = b0g (a0V (beN lk) (e0i la)) := by unfold tC tS; rw [hk, ha]; exact ⟨rfl, rfl⟩
end
end Go.Proofs.YtemcankmggmgoaaGreat
namespace Mvp
end Mvp
namespace Go.Proofs.YtemcankmggmgoaaGreat
open Go.RowKit Go.Mv Mvp
attribute [local irreducible] a0G lw mix cw b0q b0y b0p a0K a0r beN b0F a0U b0D a0I a0R elN mdL b0B b0m
end Go.Proofs.YtemcankmggmgoaaGreat
namespace Mvp
def d0K (i : Nat) : Nat := i / 5 + 5 * ((2 * (i % 5) + 3 * (i / 5)) % 5)
def j0Z (s c : List UInt64) (i : Nat) : List UInt64 := c.set (i % 5) (c.getD (i % 5) 0 ^^^ s.getD i 0)
def o0r (s : List UInt64) (k : Nat) : List UInt64 := (List.range k).foldl (j0Z s) [0, 0, 0, 0, 0]
def k0a (s col : List UInt64) (by_ : List Nat) (m : List UInt64) (i : Nat) : List UInt64 :=
 m.set (d0K i) (m0h (s.getD i 0 ^^^ (col.getD ((i + 4) % 5) 0 ^^^ m0h (col.getD ((i + 1) % 5) 0) 1)) (by_.getD i 0))
def p0A (s col : List UInt64) (by_ : List Nat) (k : Nat) : List UInt64 := (List.range k).foldl (k0a s col by_) (List.replicate 25 0)
def h0R (m : List UInt64) (y : Nat) (s : List UInt64) (x : Nat) : List UInt64 :=
 s.set (y + x) (m.getD (y + x) 0 ^^^ (~~~ (m.getD (y + (x + 1) % 5) 0) &&& m.getD (y + (x + 2) % 5) 0))
def d0L (m s : List UInt64) (y k : Nat) : List UInt64 := (List.range k).foldl (h0R m y) s
def l0p (m s : List UInt64) (k : Nat) : List UInt64 := (List.range k).foldl (fun s y => d0L m s (5 * y) 5) s
def h0S (by_ : List Nat) (s : List UInt64) (c : UInt64) : List UInt64 :=
 let t := l0p (p0A s (o0r s 25) by_ 25) s 5
 t.set 0 (t.getD 0 0 ^^^ c)
def c0t (by_ : List Nat) (rc : Nat → UInt64) (s : List UInt64) (k : Nat) : List UInt64 := (List.range k).foldl (fun s r => h0S by_ s (rc r)) s
def b0d (x y : Nat) : Nat := x % 5 + 5 * (y % 5)
def g0W (s : List UInt64) (x : Nat) (c : List UInt64) (y : Nat) : List UInt64 := c.set x (c.getD x 0 ^^^ s.getD (b0d x y) 0)
def c0i (s c : List UInt64) (x k : Nat) : List UInt64 := (List.range k).foldl (g0W s x) c
def i0p (s : List UInt64) (k : Nat) : List UInt64 := (List.range k).foldl (fun c x => c0i s c x 5) [0, 0, 0, 0, 0]
def g0X (s : List UInt64) (turn : List Nat) (x : Nat) (d : UInt64) (m : List UInt64) (y : Nat) : List UInt64 :=
 m.set (b0d y (2 * x + 3 * y)) (m0h (s.getD (b0d x y) 0 ^^^ d) (turn.getD (b0d x y) 0))
def c0Q (s : List UInt64) (turn : List Nat) (m : List UInt64) (x : Nat) (d : UInt64) (k : Nat) : List UInt64 := (List.range k).foldl (g0X s turn x d) m
def dR (col : List UInt64) (x : Nat) : UInt64 := col.getD ((x + 4) % 5) 0 ^^^ m0h (col.getD ((x + 1) % 5) 0) 1
def l0q (s : List UInt64) (turn : List Nat) (col : List UInt64) (k : Nat) : List UInt64 := (List.range k).foldl (fun m x => c0Q s turn m x (dR col x) 5) (List.replicate 25 0)
def g0Y (m : List UInt64) (x : Nat) (o : List UInt64) (y : Nat) : List UInt64 :=
 o.set (b0d x y) (m.getD (b0d x y) 0 ^^^ (~~~ (m.getD (b0d (x + 1) y) 0) &&& m.getD (b0d (x + 2) y) 0))
def c0R (m o : List UInt64) (x k : Nat) : List UInt64 := (List.range k).foldl (g0Y m x) o
def l0r (m : List UInt64) (k : Nat) : List UInt64 := (List.range k).foldl (fun o x => c0R m o x 5) (List.replicate 25 0)
def f0N (turn : List Nat) (s : List UInt64) (c : UInt64) : List UInt64 :=
 let t := l0r (l0q s turn (i0p s 5) 5) 5
 t.set 0 (t.getD 0 0 ^^^ c)
def e0O (turn : List Nat) (rc : Nat → UInt64) (s : List UInt64) (k : Nat) : List UInt64 := (List.range k).foldl (fun s r => f0N turn s (rc r)) s
theorem z0C (s : List UInt64) (h : s.length = 25) : ∃ a0 a1 a2 a3 a4 a5 a6 a7 a8 a9 a10 a11 a12 a13 a14 a15 a16 a17 a18 a19 a20 a21 a22 a23 a24, s = [a0, a1, a2, a3, a4, a5, a6, a7, a8, a9, a10, a11, a12, a13, a14, a15, a16, a17, a18, a19, a20, a21, a22, a23, a24] := by
 match s, h with
 | [a0, a1, a2, a3, a4, a5, a6, a7, a8, a9, a10, a11, a12, a13, a14, a15, a16, a17, a18, a19, a20, a21, a22, a23, a24], _ => exact ⟨_, _, _, _, _, _, _, _, _, _, _, _, _, _, _, _, _, _, _, _, _, _, _, _, _, rfl⟩
theorem u0G (s : List UInt64) (h : s.length = 25) : o0r s 25 = i0p s 5 := by
 obtain ⟨a0, a1, a2, a3, a4, a5, a6, a7, a8, a9, a10, a11, a12, a13, a14, a15, a16, a17, a18, a19, a20, a21, a22, a23, a24, rfl⟩ := z0C s h
 kernel_rfl
theorem u0H (s col : List UInt64) (t : List Nat) : p0A s col t 25 = l0q s t col 5 := by
 kernel_rfl
theorem u0I (m s : List UInt64) (h : s.length = 25) : l0p m s 5 = l0r m 5 := by
 obtain ⟨a0, a1, a2, a3, a4, a5, a6, a7, a8, a9, a10, a11, a12, a13, a14, a15, a16, a17, a18, a19, a20, a21, a22, a23, a24, rfl⟩ := z0C s h
 kernel_rfl
theorem p0B (t : List Nat) (s : List UInt64) (c : UInt64) (h : s.length = 25) : h0S t s c = f0N t s c := by
 unfold h0S f0N
 rw [u0G s h, u0H, u0I _ s h]
theorem l0s {α β : Type} (P : α → Prop) (f : α → β → α) (hf : ∀ a b, P a → P (f a b)) (l : List β) : ∀ a, P a → P (l.foldl f a) := by
 induction l with
 | nil => intro a h; exact h
 | cons b l ih => intro a h; exact ih _ (hf _ _ h)
theorem k0b (m s : List UInt64) (k : Nat) : (l0p m s k).length = s.length := by
 refine l0s (fun l : List UInt64 => l.length = s.length) _ (fun a y h => ?_) _ _ rfl
 refine l0s (fun l : List UInt64 => l.length = s.length) _ (fun b x h => ?_) _ _ h
 simp [h0R, h]
theorem p0C (t : List Nat) (s : List UInt64) (c : UInt64) : (h0S t s c).length = s.length := by simp [h0S, k0b]
theorem g0l (t : List Nat) (rc : Nat → UInt64) (s : List UInt64) (k : Nat) : c0t t rc s (k + 1) = h0S t (c0t t rc s k) (rc k) := by
 simp [c0t, List.range_succ]
theorem g0m (t : List Nat) (rc : Nat → UInt64) (s : List UInt64) (k : Nat) : e0O t rc s (k + 1) = f0N t (e0O t rc s k) (rc k) := by
 simp [e0O, List.range_succ]
theorem h0T (t : List Nat) (rc : Nat → UInt64) (s : List UInt64) (k : Nat) : (c0t t rc s k).length = s.length := by
 induction k with
 | zero => simp [c0t]
 | succ k ih => rw [g0l, p0C, ih]
theorem r0Z (t : List Nat) (rc rc' : Nat → UInt64) (s : List UInt64) (h : s.length = 25) (n : Nat) (hrc : ∀ r, r < n → rc r = rc' r) : c0t t rc s n = e0O t rc' s n := by
 induction n with
 | zero => simp [c0t, e0O]
 | succ k ih =>
  rw [g0l, g0m, ← ih (fun r hr => hrc r (by omega)), hrc k (by omega)]
  exact p0B _ _ _ (by rw [h0T, h])
def m0T : Nat → Nat
 | 0 => 1
 | n + 1 => if 2 * m0T n > 255 then (2 * m0T n) ^^^ 369 else 2 * m0T n
theorem x0N (n : Nat) : m0T n < 256 := by
 have h : ∀ r, r < 256 → (if 2 * r > 255 then (2 * r) ^^^ 369 else 2 * r) < 256 := by decide +kernel
 induction n with
 | zero => decide
 | succ n ih => exact h _ ih
def A0Y (t : Nat) : Nat := m0T t % 2
def A0I (t : Nat) : UInt64 := UInt64.ofNat (A0Y t)
def f0O (r : Nat) (out : UInt64) (j : Nat) : UInt64 := out ||| shl (A0I (j + 7 * r)) (2 ^ j - 1)
def rcR (r k : Nat) : UInt64 := (List.range k).foldl (f0O r) 0
def m0U : List Nat := [
 0, 0, 0, 0, 0, 0, 0, 1, 0, 0, 0, 0, 0, 0, 0x80, 0x82, 0x80, 0, 0, 0, 0, 0, 0x80, 0x8a, 0x80, 0, 0, 0, 0x80, 0, 0x80, 0,
 0, 0, 0, 0, 0, 0, 0x80, 0x8b, 0, 0, 0, 0, 0x80, 0, 0, 1, 0x80, 0, 0, 0, 0x80, 0, 0x80, 0x81, 0x80, 0, 0, 0, 0, 0, 0x80, 9,
 0, 0, 0, 0, 0, 0, 0, 0x8a, 0, 0, 0, 0, 0, 0, 0, 0x88, 0, 0, 0, 0, 0x80, 0, 0x80, 9, 0, 0, 0, 0, 0x80, 0, 0, 0xa,
 0, 0, 0, 0, 0x80, 0, 0x80, 0x8b, 0x80, 0, 0, 0, 0, 0, 0, 0x8b, 0x80, 0, 0, 0, 0, 0, 0x80, 0x89, 0x80, 0, 0, 0, 0, 0, 0x80, 3,
 0x80, 0, 0, 0, 0, 0, 0x80, 2, 0x80, 0, 0, 0, 0, 0, 0, 0x80, 0, 0, 0, 0, 0, 0, 0x80, 0xa, 0x80, 0, 0, 0, 0x80, 0, 0, 0xa,
 0x80, 0, 0, 0, 0x80, 0, 0x80, 0x81, 0x80, 0, 0, 0, 0, 0, 0x80, 0x80, 0, 0, 0, 0, 0x80, 0, 0, 1, 0x80, 0, 0, 0, 0x80, 0, 0x80, 8]
def m0V (r : Nat) (c : UInt64) (n : Nat) : UInt64 := shl c 8 ||| (UInt8.ofNat (m0U.getD (8 * r + n) 0)).toUInt64
def rcP (r k : Nat) : UInt64 := (List.range k).foldl (m0V r) 0
theorem x0O : ∀ r, r < 24 → rcP r 8 = rcR r 7 := by decide +kernel
def xy : Nat → Nat × Nat
 | 0 => (1, 0)
 | t + 1 => ((xy t).2, (2 * (xy t).1 + 3 * (xy t).2) % 5)
def f0P (l : List Nat) (t : Nat) : List Nat := l.set ((xy t).1 + 5 * (xy t).2) ((t + 1) * (t + 2) / 2 % 64)
def a0z (k : Nat) : List Nat := (List.range k).foldl f0P (List.replicate 25 0)
theorem z0D (t : Nat) : (xy t).1 < 5 ∧ (xy t).2 < 5 := by
 induction t with
 | zero => decide
 | succ t ih => exact ⟨ih.2, Nat.mod_lt _ (by decide)⟩
def b0Z (s : List UInt64) (i : Nat) (x : UInt8) : List UInt64 := s.set (i / 8) (wx (s.getD (i / 8) 0) (shl (wid x) (8 * (i % 8))))
def f0Q (s : List UInt64) (b : List UInt8) (k : Nat) : List UInt64 := (List.range k).foldl (fun s i => b0Z s i (b.getD i 0)) s
def d0M (s : List UInt64) (i : Nat) : UInt8 := lo8 (shr (s.getD (i / 8) 0) (8 * (i % 8)))
def toB (s : List UInt64) (n : Nat) : List UInt8 := (List.range n).map (d0M s)
theorem e0z (s : List UInt64) (b : List UInt8) (k : Nat) : f0Q s b (k + 1) = b0Z (f0Q s b k) k (b.getD k 0) := by simp [f0Q, List.range_succ]
theorem g0Z (s : List UInt64) (b : List UInt8) (k : Nat) : (f0Q s b k).length = s.length := by
 induction k with
 | zero => simp [f0Q]
 | succ k ih => rw [e0z]; simp [b0Z, ih]
theorem b0e (s : List UInt64) (n : Nat) : (toB s n).length = n := by simp [toB]
end Mvp
namespace Go.Proofs.YtemcankmggmgoaaGreat
section
open Go.RowKit Go.Mv Mvp
theorem k0c {k : IntKind} {a b : Int} (h : a = b) : Ending.returned (.int k a) = .returned (.int k b) := by rw [h]
theorem u0J (x : UInt64) (k : Nat) (hk : k < 64) : wo (shl x (k % 64)) (shr x (64 - k % 64)) = m0h x k := by
 rw [Nat.mod_eq_of_lt hk]; rfl
theorem s0a (x : UInt64) (k : Nat) (hk : k < 64) (w : World) :
  Calls Tryz.prog 208 #[.int .u64 (x.toNat : Int), .int .i64 (k : Int)] w fun e w' => e = .returned (.int .u64 ((m0h x k).toNat : Int)) ∧ w = w' := by
 go_enter Tryz.func208, Tryz.ntmps208
 go_wp2
 go_ret
 exact ⟨k0c (by rw [← u0J x k hk]), rfl⟩
theorem o0s (x : UInt64) (k : Nat) (hk : k < 64) (w : World) :
  Calls Tryz.prog 212 #[.int .u64 (x.toNat : Int), .int .i64 (k : Int)] w fun e w' => e = .returned (.int .u64 ((m0h x k).toNat : Int)) ∧ ∃ n, w' = w.drewN n := by
 go_enter Tryz.func212, Tryz.ntmps212
 go_wp2
 go_quiet (fail)
 go_wp2
 go_ret
 exact ⟨rfl, nq, rfl⟩
theorem h0U (x y : Int) (w : World) (hx : 0 ≤ x) (hx' : x ≤ 1000) (hy : 0 ≤ y) (hy' : y ≤ 1000) :
  Calls Tryz.prog 211 #[.int .i64 x, .int .i64 y] w fun e w' => e = .returned (.int .i64 ((b0d x.toNat y.toNat : Nat) : Int)) ∧ w = w' := by
 go_enter Tryz.func211, Tryz.ntmps211
 go_wp2
 go_ret
 exact ⟨k0c (by unfold b0d; omega), rfl⟩
theorem p0D (i : Nat) (w : World) (hi : i ≤ 1000) :
  Calls Tryz.prog 209 #[.int .i64 (i : Int)] w fun e w' => e = .returned (.int .i64 ((d0K i : Nat) : Int)) ∧ w = w' := by
 go_enter Tryz.func209, Tryz.ntmps209
 go_wp2
 go_ret
 exact ⟨k0c (by unfold d0K; omega), rfl⟩
theorem x0P (t : Int) (w : World) (hx : 0 ≤ t) (hx' : t ≤ 1000) :
  Calls Tryz.prog 213 #[.int .i64 t] w fun e w' => e = .returned (.int .u64 ((A0I t.toNat).toNat : Int)) ∧ w = w' := by
 go_enter Tryz.func213, Tryz.ntmps213
 go_wp2
 go_loop [3, 4] (fun r i => ∃ k : Nat, (k : Int) ≤ t ∧ i = .int .i64 k ∧ r = .int .i64 (m0T k : Nat)) (fun _ i => (t - intOf i).toNat)
 case atStart => exact ⟨0, by omega, rfl, rfl⟩
 case round =>
  obtain ⟨k, hk, rfl, rfl⟩ := hrel
  have hb := x0N k
  by_cases hlt : (k : Int) < t
  ·by_cases hc : 255 < 2 * m0T k
   ·go_wp2
    go_round
    case rel =>
     refine ⟨k + 1, by omega, by go_num, ?_⟩
     have e := w0v (2 * m0T k) 369 (by omega) (by omega)
     have e2 : m0T (k + 1) = (2 * m0T k) ^^^ 369 := by rw [m0T, if_pos hc]
     rw [e2, ← e]; rfl
    case measure => simp [intOf]; omega
   ·go_wp2
    go_round
    case rel =>
     refine ⟨k + 1, by omega, by go_num, ?_⟩
     have e2 : m0T (k + 1) = 2 * m0T k := by rw [m0T, if_neg hc]
     rw [e2]; simp
    case measure => simp [intOf]; omega
  ·go_wp2
   go_ret
   have hkt : t.toNat = k := by omega
   refine ⟨k0c ?_, rfl⟩
   have e := w0w (m0T k) 1 (by omega) (by omega)
   rw [show (1 : Int) = ((1 : Nat) : Int) from rfl, e, IntKind.wrap_u64, hkt, A0I, A0Y, nat_mask1]
   simp
end
section
open Go.RowKit Go.Mv Mvp
theorem u0K (r k : Nat) : rcP r (k + 1) = m0V r (rcP r k) k := by simp [rcP, List.range_succ]
theorem d0Z (r k : Nat) : rcR r (k + 1) = f0O r (rcR r k) k := by simp [rcR, List.range_succ]
theorem p0E (r : Nat) (hr : r < 24) (w : World) :
  Calls Tryz.prog 210 #[.int .i64 (r : Int)] w fun e w' => e = .returned (.int .u64 ((rcP r 8).toNat : Int)) ∧ w = w' := by
 go_enter Tryz.func210, Tryz.ntmps210
 go_wp2
 go_loop [2, 4] (fun c i => ∃ k : Nat, k ≤ 8 ∧ i = .int .i64 k ∧ c = .int .u64 ((rcP r k).toNat : Int)) (fun _ i => (8 - intOf i).toNat)
 case atStart => exact ⟨0, by omega, rfl, rfl⟩
 case round =>
  obtain ⟨k, hk, rfl, rfl⟩ := hrel
  by_cases hlt : k < 8
  ·go_wp2_with (first | (with_reducible refine wSk 13 ?_))
   refine k0x rfl rfl Tryz.underlying9 rfl rfl (8 * r + k) (by simp) ?_ (UInt8.ofNat (m0U.getD (8 * r + k) 0)) ?_ ?_
   ·exact Nat.lt_of_lt_of_le (show 8 * r + k < 192 by omega) (by decide +kernel)
   ·generalize hj : 8 * r + k = j
    have hj' : j < 192 := by omega
    clear hj
    revert j
    decide +kernel
   generalize hy : UInt8.ofNat (m0U.getD (8 * r + k) 0) = y
   have HY := qH hy; clear hy
   go_wp2
   go_round
   case rel => exact ⟨k + 1, by omega, by go_num, by rw [u0K, m0V, HY.out]; rfl⟩
   case measure => simp [intOf]; omega
  ·go_wp2
   go_ret
   have : k = 8 := by omega
   subst this
   exact ⟨rfl, rfl⟩
theorem p0F (r : Nat) (hr : r < 24) (w : World) :
  Calls Tryz.prog 205 #[.int .i64 (r : Int)] w fun e w' => e = .returned (.int .u64 ((rcR r 7).toNat : Int)) ∧ w = w' := by
 go_enter Tryz.func205, Tryz.ntmps205
 go_wp2
 go_loop [3, 4] (fun c i => ∃ k : Nat, k ≤ 7 ∧ i = .int .i64 k ∧ c = .int .u64 ((rcR r k).toNat : Int)) (fun _ i => (7 - intOf i).toNat)
 case atStart => exact ⟨0, by omega, rfl, rfl⟩
 case round =>
  obtain ⟨k, hk, rfl, rfl⟩ := hrel
  by_cases hlt : k < 7
  ·obtain rfl | rfl | rfl | rfl | rfl | rfl | rfl : k = 0 ∨ k = 1 ∨ k = 2 ∨ k = 3 ∨ k = 4 ∨ k = 5 ∨ k = 6 := by omega
   all_goals
    go_wp2_with fail
    refine (x0P _ _ (by omega) (by omega)).mono ?_
    rintro e w' ⟨rfl, rfl⟩
    go_wp2
    go_round
   case rel => exact ⟨1, by omega, by go_num, by rw [d0Z, f0O, Nat.zero_add]; rfl⟩
   case measure => simp [intOf]
   case rel => exact ⟨2, by omega, by go_num, by rw [d0Z, f0O]; rfl⟩
   case measure => simp [intOf]
   case rel => exact ⟨3, by omega, by go_num, by rw [d0Z, f0O]; rfl⟩
   case measure => simp [intOf]
   case rel => exact ⟨4, by omega, by go_num, by rw [d0Z, f0O]; rfl⟩
   case measure => simp [intOf]
   case rel => exact ⟨5, by omega, by go_num, by rw [d0Z, f0O]; rfl⟩
   case measure => simp [intOf]
   case rel => exact ⟨6, by omega, by go_num, by rw [d0Z, f0O]; rfl⟩
   case measure => simp [intOf]
   case rel => exact ⟨7, by omega, by go_num, by rw [d0Z, f0O]; rfl⟩
   case measure => simp [intOf]
  ·go_wp2
   go_ret
   have : k = 7 := by omega
   subst this
   exact ⟨rfl, rfl⟩
end
section
open Go.RowKit Go.Mv Mvp
theorem f0R : (Tryz.prog.info? 248).map (·.size) = some 25 := by kernel_rfl
theorem u0L : (Tryz.prog.info? 3).map (fun i => (i.zero, i.size, i.bytes)) = some (some (.int .i64 0), 1, 8) := by kernel_rfl
theorem f0d (k : Nat) : a0z (k + 1) = f0P (a0z k) k := by simp [a0z, List.range_succ]
theorem b0w (k : Nat) : (a0z k).length = 25 := by
 induction k with
 | zero => simp [a0z]
 | succ k ih => rw [f0d]; simp [f0P, ih]
theorem s0b (w : World) :
  Calls Tryz.prog 207 #[] w fun e w' => e = .returned (.agg (is (a0z 24)).toArray) ∧ Fr Nob w w' := by
 go_enter Tryz.func207, Tryz.ntmps207
 go_wp2
 go_loopw [1, 2, 4] (fun x y i wr => ∃ k : Nat, k ≤ 24 ∧ i = .int .i64 k ∧ x = .int .i64 ((xy k).1 : Nat) ∧ y = .int .i64 ((xy k).2 : Nat) ∧ Has wr w.heap.size (is (a0z k)) 248 ∧ Fr Nob w wr) (fun _ _ i _ => (24 - intOf i).toNat)
 case atStart =>
  refine ⟨0, by omega, rfl, rfl, rfl, ?_, (Fr.refl _ _).alloc _⟩
  exact Has.new w _ _
 case round =>
  obtain ⟨k, hk, rfl, rfl, rfl, hh, hf⟩ := hrel
  have hxy := z0D k
  by_cases hlt : k < 24
  ·obtain ⟨v0, hc, hfr⟩ := hh.ready (i := (xy k).1 + 5 * (xy k).2) (by rw [c0l, b0w]; omega)
   have hp : (0 : Int) ≤ ((k : Int) + 1) * ((k : Int) + 2) ∧ ((k : Int) + 1) * ((k : Int) + 2) ≤ 650 := by
    refine ⟨Int.mul_nonneg (by omega) (by omega), ?_⟩
    have := Int.mul_le_mul (show (k : Int) + 1 ≤ 24 by omega) (show (k : Int) + 2 ≤ 25 by omega) (by omega) (by omega)
    omega
   go_wp2
   go_roundw
   case rel =>
    refine ⟨k + 1, by omega, by go_num, rfl, by simp [xy], ?_, hf.setCell _ _ _ _ (fun h => absurd h (Nat.lt_irrefl _))⟩
    have e : ((k : Int) + 1) * ((k : Int) + 2) / 2 % 64 = (((k + 1) * (k + 2) / 2 % 64 : Nat) : Int) := by simp
    rw [e, f0d, f0P, ← v0y]
    exact hh.set _ _
   case measure => simp [intOf]; omega
  ·go_wp2_with (first | (with_reducible refine wSk 27 ?_))
   have hk24 : k = 24 := by omega
   subst hk24
   refine b0N rfl rfl Tryz.underlying248 rfl hh (is (a0z 24)) (by simp) (by rw [c0l, b0w]; exact f0R) ?_
   go_wp2_with (first | (with_reducible refine e0Y (o := ⟨none, .store 248 _ _, _, _, _, _⟩) ?_))
   refine d0f rfl rfl rfl rfl hh (by simp) (by rw [c0l, b0w]; exact f0R) ?_ ?_
   ·intro v hv; simp [is] at hv; obtain ⟨x, _, rfl⟩ := hv; rfl
   intro w2 hh2 hf2 hz2
   go_wp2
   rw [c0G _ _ rfl] at hh2
   exact bodyPost_ret (a0v rfl rfl hh2 Tryz.underlying248 (by rw [c0l, b0w]; exact f0R)) rfl ⟨rfl, hf.new hf2 (Nat.le_refl _)⟩
theorem m0W (w : World) :
  Calls Tryz.prog 203 #[] w fun e w' => e = .returned (.slice (some ⟨w.heap.size, 0, none⟩) 25 25) ∧ Has w' w.heap.size (is (a0z 24)) 3 ∧ Fr Nob w w' := by
 go_enter Tryz.func203, Tryz.ntmps203
 go_wp2_with (at_make; refine c0m rfl rfl Tryz.underlying243 u0L rfl rfl rfl 25 25 (by simp) (by simp) (by omega) (by omega) (by unfold maxLen; omega) ?_; intro w1 hw1 hf1 hz1)
 go_loopw [2, 3, 4] (fun x y i wr => ∃ k : Nat, k ≤ 24 ∧ i = .int .i64 k ∧ x = .int .i64 ((xy k).1 : Nat) ∧ y = .int .i64 ((xy k).2 : Nat) ∧ Has wr w.heap.size (is (a0z k)) 3 ∧ Fr Nob w wr) (fun _ _ i _ => (24 - intOf i).toNat)
 case atStart => exact ⟨0, by omega, rfl, rfl, rfl, hw1, hf1⟩
 case round =>
  obtain ⟨k, hk, rfl, rfl, rfl, hh, hf⟩ := hrel
  have hxy := z0D k
  by_cases hlt : k < 24
  ·have hpl : b0d (xy k).1 (xy k).2 = (xy k).1 + 5 * (xy k).2 := by unfold b0d; rw [Nat.mod_eq_of_lt hxy.1, Nat.mod_eq_of_lt hxy.2]
   have HP := qH hpl; clear hpl
   have hpb : b0d (xy k).1 (xy k).2 < 25 := by rw [HP.out]; omega
   obtain ⟨v0, hc, hfr⟩ := hh.ready (i := b0d (xy k).1 (xy k).2) (by rw [c0l, b0w]; omega)
   have hp : (0 : Int) ≤ ((k : Int) + 1) * ((k : Int) + 2) ∧ ((k : Int) + 1) * ((k : Int) + 2) ≤ 650 := by
    refine ⟨Int.mul_nonneg (by omega) (by omega), ?_⟩
    have := Int.mul_le_mul (show (k : Int) + 1 ≤ 24 by omega) (show (k : Int) + 2 ≤ 25 by omega) (by omega) (by omega)
    omega
   go_wp2_with (go_at_call 211; refine (h0U _ _ _ (by omega) (by omega) (by omega) (by omega)).mono ?_; rintro e w' ⟨rfl, rfl⟩)
   go_roundw
   case rel =>
    refine ⟨k + 1, by omega, by go_num, rfl, by simp [xy], ?_, hf.setCell _ _ _ _ (fun h => absurd h (Nat.lt_irrefl _))⟩
    have e : ((k : Int) + 1) * ((k : Int) + 2) / 2 % 64 = (((k + 1) * (k + 2) / 2 % 64 : Nat) : Int) := by simp
    rw [e, f0d, f0P, ← v0y, ← HP.out]
    exact hh.set _ _
   case measure => simp [intOf]; omega
  ·go_wp2
   have hk24 : k = 24 := by omega
   subst hk24
   go_ret
   exact ⟨rfl, hh, hf⟩
end
section
open Go.RowKit Go.Mv Mvp
theorem s0c (g : Nat) (S : List UInt64) (tail : List Value) (T : TypeId) (b : Option Addr) (n c : Nat) (l : List UInt8) (w : World) (hS : S.length = 25) (hn : n ≤ 200) (hg : Has w g (ws S ++ tail) T) (hb : RdB w b n l) (hbg : Off (One g) b) :
  Calls Tryz.prog 200 #[.pointer (some ⟨g, 0, none⟩), .slice b n c] w fun e w' => e = .returned (.tuple #[]) ∧ Has w' g (ws (f0Q S l n) ++ tail) T ∧ Fr (One g) w w' ∧ w'.heap.size = w.heap.size := by
 go_enter Tryz.func200, Tryz.ntmps200
 go_wp2
 go_loopw [8] (fun i wr => ∃ k : Nat, k ≤ n ∧ i = .int .i64 k ∧ Has wr g (ws (f0Q S l k) ++ tail) T ∧ Fr (One g) w wr ∧ wr.heap.size = w.heap.size) (fun i _ => (n - intOf i).toNat)
 case atStart => exact ⟨0, by omega, rfl, hg, Fr.refl _ _, rfl⟩
 case round =>
  obtain ⟨k, hk, rfl, hh, hf, hz⟩ := hrel
  by_cases hlt : k < n
  ·obtain ⟨bb, o, rfl, hcb0⟩ := (hb.keep hf hbg).at (by omega)
   have hcb := hcb0 k hlt
   clear hcb0
   have hlen := g0Z S l k
   have hi8 : k / 8 < (ws (f0Q S l k)).length := by rw [a0J, hlen]; omega
   have hc : wr.cell? ⟨g, k / 8, none⟩ = some (.int .u64 (((f0Q S l k).getD (k / 8) 0).toNat : Int)) := hh.cell (by rw [List.getElem?_append_left hi8]; exact b0X _ _ (by rw [hlen]; omega))
   have hfr : wr.frozen? ⟨g, k / 8, none⟩ = false := hh.free _ (by rw [List.length_append]; omega)
   have hlo : (0 : Int) ≤ (k : Int) / 8 ∧ (k : Int) / 8 < 25 := by omega
   generalize hy : (f0Q S l k).getD (k / 8) 0 = y at hc
   generalize hx : l.getD k 0 = x at hcb
   have HY := qH hy; clear hy
   have HX := qH hx; clear hx
   have HL := qH hlen; clear hlen hi8
   have HZ := qH hz; clear hz
   go_wp2
   go_region
   all_goals go_wp2
   go_roundw
   case rel =>
    refine ⟨k + 1, by omega, by go_num, ?_, (hf.setCell _ _ _ _ (fun _ => rfl)).drew, by have := HZ.out; simpa [World.setCell] using this⟩
    have h1 := (hh.set (k / 8) (.int .u64 ((wx y (shl (wid x) (8 * (k % 8)))).toNat : Int))).drew
    rw [List.set_append_left _ _ (by rw [a0J, HL.out]; omega), e0Q, ← HY.out, ← HX.out] at h1
    rw [e0z, b0Z, ← HY.out, ← HX.out]
    exact h1
   case measure => simp [intOf]; omega
  ·go_wp2
   go_end0
   have : k = n := by omega
   subst this
   exact ⟨rfl, hh, hf, hz⟩
end
section
open Go.RowKit Go.Mv Mvp
theorem w0f (S : List UInt64) (n i : Nat) (h : i < n) : (toB S n).getD i 0 = d0M S i := by
 simp [toB, List.getD_eq_getElem?_getD, List.getElem?_range h]
theorem s0d (g : Nat) (S : List UInt64) (tail : List Value) (T : TypeId) (n : Nat) (w : World) (hS : S.length = 25) (hn : n ≤ 200) (hg : Has w g (ws S ++ tail) T) :
  Calls Tryz.prog 202 #[.pointer (some ⟨g, 0, none⟩), .int .i64 (n : Int)] w fun e w' => e = .returned (.slice (some ⟨w.heap.size, 0, none⟩) n n) ∧ Has w' w.heap.size (bs (toB S n)) 5 ∧ Fr Nob w w' ∧ w'.heap.size = w.heap.size + 1 := by
 go_enter Tryz.func202, Tryz.ntmps202
 go_wp2_with (at_make; refine c0m rfl rfl Tryz.underlying22 b0u rfl rfl rfl n n rfl rfl (by omega) (by omega) (by unfold maxLen; omega) ?_; intro w1 hw1 hf1 hz1)
 have hgl := hg.lt
 go_loopw [11] (fun i wr => ∃ k : Nat, k ≤ n ∧ i = .int .i64 k ∧ Has wr w.heap.size (bs (fill (toB S n) (List.replicate n 0) k)) 5 ∧ Has wr g (ws S ++ tail) T ∧ Fr Nob w wr ∧ wr.heap.size = w.heap.size + 1) (fun i _ => (n - intOf i).toNat)
 case atStart =>
  refine ⟨0, by omega, rfl, ?_, hg.keep hf1 id, hf1, hz1⟩
  rw [k0u]; simpa [bs] using hw1
 case round =>
  obtain ⟨k, hk, rfl, hh, hg2, hf, hz⟩ := hrel
  by_cases hlt : k < n
  ·obtain ⟨v0, hc0, hfr0⟩ := hh.ready (i := k) (by rw [a0F, d0e _ _ _ (by simp [b0e])]; simpa using hlt)
   have hi8 : k / 8 < (ws S).length := by rw [a0J, hS]; omega
   have hc : wr.cell? ⟨g, k / 8, none⟩ = some (.int .u64 ((S.getD (k / 8) 0).toNat : Int)) := hg2.cell (by rw [List.getElem?_append_left hi8]; exact b0X _ _ (by rw [hS]; omega))
   have hlo : (0 : Int) ≤ (k : Int) / 8 ∧ (k : Int) / 8 < 25 := by omega
   generalize hy : S.getD (k / 8) 0 = y at hc
   have HY := qH hy; clear hy
   have HS := qH hS; clear hS hi8
   have HZ := qH hz; clear hz hz1 hw1
   go_wp2
   go_roundw
   case rel =>
    have e : (toB S n).getD k 0 = lo8 (shr y (8 * (k % 8))) := by rw [w0f S n k hlt, d0M, HY.out]
    refine ⟨k + 1, by omega, by go_num, ?_, hg2.other _ _ _ (by omega), hf.setCell _ _ _ _ (fun h => absurd h (Nat.lt_irrefl _)), by have := HZ.out; simpa [World.setCell] using this⟩
    rw [← e]
    exact hh.fillB (by simp [b0e]) (by simpa [b0e] using hlt)
   case measure => simp [intOf]; omega
  ·go_wp2
   go_ret
   obtain rfl : k = n := by omega
   rw [f0l _ _ _ (by simp [b0e]) (by simp [b0e])] at hh
   exact ⟨rfl, hh, hf, hz⟩
end
section
open Go.RowKit Go.Mv Mvp
theorem l0t (s : List UInt64) (k : Nat) : o0r s (k + 1) = j0Z s (o0r s k) k := by simp [o0r, List.range_succ]
theorem k0d (s : List UInt64) (k : Nat) : (o0r s k).length = 5 := by
 induction k with
 | zero => simp [o0r]
 | succ k ih => rw [l0t]; simp [j0Z, ih]
theorem l0u (s c : List UInt64) (t : List Nat) (k : Nat) : p0A s c t (k + 1) = k0a s c t (p0A s c t k) k := by simp [p0A, List.range_succ]
theorem o0t (s c : List UInt64) (t : List Nat) (k : Nat) : (p0A s c t k).length = 25 := by
 induction k with
 | zero => simp [p0A]
 | succ k ih => rw [l0u]; simp [k0a, ih]
theorem s0e : (Tryz.prog.info? 248).map (·.zero) = some (some (.agg (is (List.replicate 25 0)).toArray)) := by kernel_rfl
theorem p0G : (Tryz.prog.info? 232).map (·.zero) = some (some (.agg (ws (List.replicate 25 0)).toArray)) := by kernel_rfl
theorem x0Q : (Tryz.prog.info? 250).map (·.zero) = some (some (.agg (ws (List.replicate 5 0)).toArray)) := by kernel_rfl
theorem s0f : (Tryz.prog.info? 58).map (·.size) = some 1 := by kernel_rfl
theorem p0H (t : List Nat) (rc : Nat → UInt64) (s : List UInt64) : c0t t rc s 0 = s := by simp [c0t]
theorem s0g (m s : List UInt64) : l0p m s 0 = s := by simp [l0p]
theorem s0h (m s : List UInt64) (k : Nat) : l0p m s (k + 1) = d0L m (l0p m s k) (5 * k) 5 := by simp [l0p, List.range_succ]
theorem m0X (m s : List UInt64) (y : Nat) : d0L m s y 0 = s := by simp [d0L]
theorem h0V (m s : List UInt64) (y k : Nat) : d0L m s y (k + 1) = h0R m y (d0L m s y k) k := by simp [d0L, List.range_succ]
theorem p0I (m s : List UInt64) (y k : Nat) : (d0L m s y k).length = s.length := by
 induction k with
 | zero => simp [d0L]
 | succ k ih => rw [h0V]; simp [h0R, ih]
theorem o0u (k : Nat) : (a0z 24).getD k 0 < 64 := by
 have h : ∀ k, k < 25 → (a0z 24).getD k 0 < 64 := by decide +kernel
 rcases Nat.lt_or_ge k 25 with hk | hk
 ·exact h k hk
 ·rw [List.getD_eq_getElem?_getD, List.getElem?_eq_none (by rw [b0w]; exact hk)]; simp
theorem s0i (k : Nat) (hk : k < 25) : d0K k < 25 := by
 have h : ∀ k, k < 25 → d0K k < 25 := by decide +kernel
 exact h k hk
theorem m0Y (k : Nat) (w : World) (hk : k ≤ 25) : Calls Tryz.prog 209 #[.int .i64 (k : Int)] w fun e w' => e = .returned (.int .i64 ((d0K k : Nat) : Int)) ∧ w' = w :=
 (p0D k w (by omega)).mono (fun _ _ h => ⟨h.1, h.2.symm⟩)
theorem u0M (x : UInt64) (n : Nat) (hn : n < 64) (w : World) : Calls Tryz.prog 208 #[.int .u64 (x.toNat : Int), .int .i64 (n : Int)] w fun e w' => e = .returned (.int .u64 ((m0h x n).toNat : Int)) ∧ w' = w :=
 (s0a x n hn w).mono (fun _ _ h => ⟨h.1, h.2.symm⟩)
theorem m0Z (r : Nat) (hr : r < 24) (w : World) : Calls Tryz.prog 210 #[.int .i64 (r : Int)] w fun e w' => e = .returned (.int .u64 ((rcP r 8).toNat : Int)) ∧ w' = w :=
 (p0E r hr w).mono (fun _ _ h => ⟨h.1, h.2.symm⟩)
theorem u0N (x : UInt64) (w : World) : Calls Tryz.prog 208 #[.int .u64 (x.toNat : Int), .int .i64 1] w fun e w' => e = .returned (.int .u64 ((m0h x 1).toNat : Int)) ∧ w' = w :=
 (s0a x 1 (by omega) w).mono (fun _ _ h => ⟨h.1, h.2.symm⟩)
theorem n0a (g : Nat) (S : List UInt64) (tail : List Value) (T : TypeId) (w : World) (hS : S.length = 25) (hg : Has w g (ws S ++ tail) T) :
  Calls Tryz.prog 201 #[.pointer (some ⟨g, 0, none⟩)] w fun e w' => e = .returned (.tuple #[]) ∧ Has w' g (ws (c0t (a0z 24) (fun r => rcP r 8) S 24) ++ tail) T ∧ Fr (One g) w w' := by
 go_enter Tryz.func201, Tryz.ntmps201
 go_wp2_with (first
  | (go_at_call 207; refine (s0b _).mono ?_; rintro e w1 ⟨rfl, hf1⟩)
  | (with_reducible refine e0Y (o := ⟨_, .alloc 248, _, _, _, _⟩) ?_))
 have hgl := hg.lt
 refine e0C rfl rfl s0e (is (List.replicate 25 0)) (by simp [Value.cells]) ?_
 intro w2 hb2 hf2 hz2
 have hg2 := (hg.keep hf1 id).keep hf2 id
 have hgs := hf1.size
 generalize hbt : w1.heap.size = bt at *
 go_wp2_with (with_reducible refine e0Y (o := ⟨none, .store 248 _ _, _, _, _, _⟩) ?_)
 refine d0f rfl rfl rfl rfl hb2 (by simp [c0l, b0w]) (by rw [c0l, b0w]; exact f0R) ?_ ?_
 ·intro v hv; simp [is] at hv; obtain ⟨x, _, rfl⟩ := hv; rfl
 intro w3 hb3 hf3 hz3
 rw [c0G _ _ (by simp [c0l, b0w])] at hb3
 have hg3 := hg2.keep hf3 (fun (h : g = bt) => by omega)
 have hfr : Fr (One g) w w3 := ((Fr.refl (One g) w).same hf1).same hf2 |>.new hf3 (by omega)
 clear hb2 hg2 hf1 hf2 hf3 hg
 go_wp2_with fail
 go_loopw [15] (fun i wr => ∃ r : Nat, r ≤ 24 ∧ i = .int .i64 r ∧ Has wr g (ws (c0t (a0z 24) (fun r => rcP r 8) S r) ++ tail) T ∧ Has wr bt (is (a0z 24)) 248 ∧ Fr (One g) w wr) (fun i _ => (24 - intOf i).toNat)
 case atStart => exact ⟨0, by omega, rfl, by rw [p0H]; exact hg3, hb3, hfr⟩
 case round =>
  obtain ⟨r, hr, rfl, hgr, hbr, hf⟩ := hrel
  clear hg3 hb3 hfr
  by_cases hlt : r < 24
  ·have hltI : (r : Int) < 24 := by omega
   have hpl := h0T (a0z 24) (fun r => rcP r 8) S r
   rw [hS] at hpl
   generalize hrs : c0t (a0z 24) (fun r => rcP r 8) S r = s at *
   have HR := qH hrs; clear hrs
   go_wp2_with (with_reducible refine e0Y (o := ⟨_, .alloc 250, _, _, _, _⟩) ?_)
   refine e0C rfl rfl x0Q (ws (List.replicate 5 0)) (by simp [Value.cells]) ?_
   intro w4 hc4 hf4 hz4
   have hg4 := hgr.keep hf4 id
   have hb4 := hbr.keep hf4 id
   have hfr4 := hf.same hf4
   have hgc := hgr.lt
   have hbc := hbr.lt
   have hwc := hf.size
   generalize wr.heap.size = gc at *
   clear hgr hbr hf hf4 hz4
   go_wp2_with fail
   go_loopw [19] (fun i wr => ∃ k : Nat, k ≤ 25 ∧ i = .int .i64 k ∧ Has wr gc (ws (o0r s k)) 250 ∧ Has wr g (ws s ++ tail) T ∧ Has wr bt (is (a0z 24)) 248 ∧ Fr (One g) w wr) (fun i _ => (25 - intOf i).toNat)
   case atStart => exact ⟨0, by omega, rfl, hc4, hg4, hb4, hfr4⟩
   case round =>
    obtain ⟨k, hk, rfl, hck, hgk, hbk, hf⟩ := hrel
    clear hc4 hg4 hb4 hfr4
    by_cases hlt2 : k < 25
    ·have hs : wr.cell? ⟨g, k, none⟩ = some (.int .u64 ((s.getD k 0).toNat : Int)) := hgk.cell (by rw [List.getElem?_append_left (by rw [a0J, hpl]; exact hlt2)]; exact b0X _ _ (by rw [hpl]; exact hlt2))
     have hc : wr.cell? ⟨gc, k % 5, none⟩ = some (.int .u64 (((o0r s k).getD (k % 5) 0).toNat : Int)) := hck.cell (b0X _ _ (by rw [k0d]; omega))
     have hfc : wr.frozen? ⟨gc, k % 5, none⟩ = false := hck.free _ (by rw [a0J, k0d]; omega)
     have hlo : (0 : Int) ≤ (k : Int) ∧ (k : Int) < 25 ∧ (0 : Int) ≤ (k : Int) % 5 ∧ (k : Int) % 5 < 5 := by omega
     generalize hx : s.getD k 0 = x at hs
     generalize hy : (o0r s k).getD (k % 5) 0 = y at hc
     have HX := qH hx; clear hx
     have HY := qH hy; clear hy
     have HS := qH hpl; clear hpl
     have HS2 := qH hS; clear hS
     go_wp2
     go_region
     all_goals go_wp2
     go_roundw
     case rel =>
      have e : o0r s (k + 1) = (o0r s k).set (k % 5) (wx y x) := by rw [l0t, j0Z, HX.out, HY.out]; rfl
      refine ⟨k + 1, by omega, by go_num, ?_, (hgk.other _ _ _ (by omega)).drew, (hbk.other _ _ _ (by omega)).drew, (hf.setCell _ _ _ _ (fun h => by omega)).drew⟩
      rw [e, ← e0Q]
      exact (hck.set _ _).drew
     case measure => simp [intOf]; omega
    ·have hk25 : k = 25 := by omega
     subst hk25
     go_wp2_with (with_reducible refine e0Y (o := ⟨_, .alloc 232, _, _, _, _⟩) ?_)
     refine e0C rfl rfl p0G (ws (List.replicate 25 0)) (by simp [Value.cells]) ?_
     intro w5 hm5 hf5 hz5
     have hc5 := hck.keep hf5 id
     have hg5 := hgk.keep hf5 id
     have hb5 := hbk.keep hf5 id
     have hfr5 := hf.same hf5
     have hcm := hck.lt
     have hgm := hgk.lt
     have hbm := hbk.lt
     have hwm := hf.size
     generalize wr.heap.size = gm at *
     generalize hcol : o0r s 25 = col at *
     clear hck hgk hbk hf hf5 hz5
     have hcl : col.length = 5 := by rw [← hcol, k0d]
     have HC := qH hcol; clear hcol
     have HCL := qH hcl; clear hcl
     go_wp2_with fail
     go_loopw [34] (fun i wr => ∃ k : Nat, k ≤ 25 ∧ i = .int .i64 k ∧ Has wr gm (ws (p0A s col (a0z 24) k)) 232 ∧ Has wr gc (ws col) 250 ∧ Has wr g (ws s ++ tail) T ∧ Has wr bt (is (a0z 24)) 248 ∧ Fr (One g) w wr) (fun i _ => (25 - intOf i).toNat)
     case atStart => exact ⟨0, by omega, rfl, hm5, hc5, hg5, hb5, hfr5⟩
     case round =>
      obtain ⟨k, hk, rfl, hmk, hck, hgk, hbk, hf⟩ := hrel
      clear hm5 hc5 hg5 hb5 hfr5
      by_cases hlt3 : k < 25
      ·have hs : wr.cell? ⟨g, k, none⟩ = some (.int .u64 ((s.getD k 0).toNat : Int)) := hgk.cell (by rw [List.getElem?_append_left (by rw [a0J, hpl]; exact hlt3)]; exact b0X _ _ (by rw [hpl]; exact hlt3))
       have hc4 : wr.cell? ⟨gc, (k + 4) % 5, none⟩ = some (.int .u64 ((col.getD ((k + 4) % 5) 0).toNat : Int)) := hck.cell (b0X _ _ (by rw [HCL.out]; omega))
       have hc1 : wr.cell? ⟨gc, (k + 1) % 5, none⟩ = some (.int .u64 ((col.getD ((k + 1) % 5) 0).toNat : Int)) := hck.cell (b0X _ _ (by rw [HCL.out]; omega))
       have hby : wr.cell? ⟨bt, k, none⟩ = some (.int .i64 (((a0z 24).getD k 0 : Nat) : Int)) := hbk.cell (v0x _ _ (by rw [b0w]; exact hlt3))
       have hbl : (a0z 24).getD k 0 < 64 := o0u k
       have hgt : d0K k < 25 := s0i k hlt3
       obtain ⟨v0, hcm0, hfm0⟩ := hmk.ready (i := d0K k) (by rw [a0J, o0t]; exact hgt)
       have hlo : (0 : Int) ≤ (k : Int) ∧ (k : Int) < 25 ∧ (0 : Int) ≤ ((k : Int) + 4) % 5 ∧ ((k : Int) + 4) % 5 < 5 ∧ (0 : Int) ≤ ((k : Int) + 1) % 5 ∧ ((k : Int) + 1) % 5 < 5 := by omega
       generalize hx : s.getD k 0 = x at hs
       generalize hy4 : col.getD ((k + 4) % 5) 0 = y4 at hc4
       generalize hy1 : col.getD ((k + 1) % 5) 0 = y1 at hc1
       generalize hn : (a0z 24).getD k 0 = n at hby hbl
       have HX := qH hx; clear hx
       have HY4 := qH hy4; clear hy4
       have HY1 := qH hy1; clear hy1
       have HN := qH hn; clear hn
       have HS := qH hpl; clear hpl
       have HS2 := qH hS; clear hS
       go_wp2
       go_region
       all_goals go_wp2
       have e1 : IntKind.i64.wrap ((k : Int) + 4) = (k : Int) + 4 := IntWalk.i64_in _ (by omega)
       have e2 : ((k : Int) + 4).tmod 5 = ((k : Int) + 4) % 5 := Int.tmod_eq_emod_of_nonneg (by omega)
       have e3 : (((k : Int) + 4) % 5).toNat = (k + 4) % 5 := by omega
       have e4 : IntKind.i64.wrap ((k : Int) + 1) = (k : Int) + 1 := IntWalk.i64_in _ (by omega)
       have e5 : ((k : Int) + 1).tmod 5 = ((k : Int) + 1) % 5 := Int.tmod_eq_emod_of_nonneg (by omega)
       have e6 : (((k : Int) + 1) % 5).toNat = (k + 1) % 5 := by omega
       go_quiet ((go_at_call 208; exact o0M (u0N _ _)))
       clear e1 e2 e3 e4 e5 e6
       go_wp2_with fail
       have HG := qH hgt; clear hgt
       have hgi : (0 : Int) ≤ (d0K k : Int) ∧ (d0K k : Int) < 25 := by have := HG.out; omega
       have hmz := hmk.drew.drewN nq
       have hcz := hck.drew.drewN nq
       have hgz := hgk.drew.drewN nq
       have hbz := hbk.drew.drewN nq
       have hfz := hf.drew.drewN nq
       have hbyz : (wr.drew.drewN nq).cell? ⟨bt, k, none⟩ = some (.int .i64 (n : Int)) := hby
       have hmcz : (wr.drew.drewN nq).cell? ⟨gm, d0K k, none⟩ = some v0 := hcm0
       have hmfz : (wr.drew.drewN nq).frozen? ⟨gm, d0K k, none⟩ = false := hfm0
       clear hmk hck hgk hbk hf hby hcm0 hfm0 hs hc4 hc1
       generalize wr.drew.drewN nq = wz at *
       clear wr
       refine wp_region_still_tail 8 (by kernel_rfl) (by kernel_rfl) ?_
       simp only [List.take_succ_cons, List.take_zero, List.drop_succ_cons, List.drop_zero]
       repeat still_step
       still_call (m0Y k _ hk)
       repeat still_step
       still_call (u0M _ n hbl _)
       repeat still_step
       refine wpStill_nil ?_
       go_wp2
       go_roundw
       case rel =>
        have e : p0A s col (a0z 24) (k + 1) = (p0A s col (a0z 24) k).set (d0K k) (m0h (wx x (wx y4 (m0h y1 1))) n) := by
         rw [l0u, k0a, HX.out, HY4.out, HY1.out, HN.out]; rfl
        refine ⟨k + 1, by omega, by go_num, ?_, (hcz.other _ _ _ (by omega)).drew, (hgz.other _ _ _ (by omega)).drew, (hbz.other _ _ _ (by omega)).drew, (hfz.setCell _ _ _ _ (fun h => by omega)).drew⟩
        rw [e, ← e0Q]
        exact (hmz.set _ _).drew
       case measure => simp [intOf]; omega
      ·obtain rfl : k = 25 := by omega
       have hml := o0t s col (a0z 24) 25
       have hmw : p0A s col (a0z 24) 25 = p0A s (o0r s 25) (a0z 24) 25 := by rw [HC.out]
       generalize hmv : p0A s col (a0z 24) 25 = mv at *
       have HM := qH hmw; clear hmw hmv
       have HML := qH hml; clear hml
       have HPL := qH hpl; clear hpl
       have HS2 := qH hS; clear hS
       clear hck
       go_wp2_with fail
       go_loopw [10] (fun i wr => ∃ j : Nat, j ≤ 5 ∧ i = .int .i64 ((5 * j : Nat) : Int) ∧ Has wr gm (ws mv) 232 ∧ Has wr g (ws (l0p mv s j) ++ tail) T ∧ Has wr bt (is (a0z 24)) 248 ∧ Fr (One g) w wr) (fun i _ => (25 - intOf i).toNat)
       case atStart => exact ⟨0, by omega, rfl, hmk, by rw [s0g]; exact hgk, hbk, hf⟩
       case round =>
        obtain ⟨j, hj, rfl, hmj, hgj, hbj, hfj⟩ := hrel
        clear hmk hgk hbk hf
        by_cases hlt4 : j < 5
        ·have hlo : (0 : Int) ≤ 5 * (j : Int) ∧ 5 * (j : Int) < 25 ∧ 5 * (j : Int) ≤ 20 := by omega
         obtain ⟨wo, rfl⟩ : ∃ wo : World, wo = wr := ⟨_, rfl⟩
         go_wp2_with (with_reducible refine wSk 72 ?_)
         refine w0A rfl rfl Tryz.underlying232 s0f rfl rfl rfl rfl (5 * j) (5 * j + 5) (5 * j + 5) (by simp) (by simp) (by simp) (by omega) (by omega) (by omega) (by omega) ?_
         have e5 : 5 * j + 5 - 5 * j = 5 := by omega
         rw [e5]
         clear e5
         go_wp2_with fail
         go_loopw [75] (fun i wr => ∃ x : Nat, x ≤ 5 ∧ i = .int .i64 x ∧ Has wr gm (ws mv) 232 ∧ Has wr g (ws (d0L mv (l0p mv s j) (5 * j) x) ++ tail) T ∧ Has wr bt (is (a0z 24)) 248 ∧ Fr (One g) w wr) (fun i _ => (5 - intOf i).toNat)
         case atStart => exact ⟨0, by omega, rfl, hmj, by rw [m0X]; exact hgj, hbj, hfj⟩
         case round =>
          obtain ⟨x, hx, rfl, hmx, hgx, hbx, hfx⟩ := hrel
          clear hmj hgj hbj hfj
          by_cases hlt5 : x < 5
          ·have hml : mv.length = 25 := HML.out
           have hsl : (d0L mv (l0p mv s j) (5 * j) x).length = 25 := by rw [p0I, k0b]; exact HPL.out
           have hx0 : wr.cell? ⟨gm, 5 * j + x, none⟩ = some (.int .u64 ((mv.getD (5 * j + x) 0).toNat : Int)) := hmx.cell (b0X _ _ (by omega))
           have hx1 : wr.cell? ⟨gm, 5 * j + (x + 1) % 5, none⟩ = some (.int .u64 ((mv.getD (5 * j + (x + 1) % 5) 0).toNat : Int)) := hmx.cell (b0X _ _ (by omega))
           have hx2 : wr.cell? ⟨gm, 5 * j + (x + 2) % 5, none⟩ = some (.int .u64 ((mv.getD (5 * j + (x + 2) % 5) 0).toNat : Int)) := hmx.cell (b0X _ _ (by omega))
           obtain ⟨v0, hc0, hf0⟩ := hgx.ready (i := 5 * j + x) (by rw [List.length_append, a0J, hsl]; omega)
           have hlo5 : (0 : Int) ≤ (x : Int) ∧ (x : Int) < 5 ∧ (0 : Int) ≤ ((x : Int) + 1) % 5 ∧ ((x : Int) + 1) % 5 < 5 ∧ (0 : Int) ≤ ((x : Int) + 2) % 5 ∧ ((x : Int) + 2) % 5 < 5 := by omega
           have hlo6 : (0 : Int) ≤ 5 * (j : Int) + (x : Int) ∧ 5 * (j : Int) + (x : Int) < 25 := by omega
           generalize hy0 : mv.getD (5 * j + x) 0 = y0 at hx0
           generalize hy1 : mv.getD (5 * j + (x + 1) % 5) 0 = y1 at hx1
           generalize hy2 : mv.getD (5 * j + (x + 2) % 5) 0 = y2 at hx2
           have HY0 := qH hy0; clear hy0
           have HY1 := qH hy1; clear hy1
           have HY2 := qH hy2; clear hy2
           have HSL := qH hsl; clear hsl hml
           go_wp2_with fail
           have e1 : IntKind.i64.wrap ((x : Int) + 1) = (x : Int) + 1 := IntWalk.i64_in _ (by omega)
           have e2 : ((x : Int) + 1).tmod 5 = ((x : Int) + 1) % 5 := Int.tmod_eq_emod_of_nonneg (by omega)
           have e3 : (((x : Int) + 1) % 5).toNat = (x + 1) % 5 := by omega
           have e4 : IntKind.i64.wrap ((x : Int) + 2) = (x : Int) + 2 := IntWalk.i64_in _ (by omega)
           have e5 : ((x : Int) + 2).tmod 5 = ((x : Int) + 2) % 5 := Int.tmod_eq_emod_of_nonneg (by omega)
           have e6 : (((x : Int) + 2) % 5).toNat = (x + 2) % 5 := by omega
           have e7 : IntKind.i64.wrap (5 * (j : Int) + (x : Int)) = 5 * (j : Int) + (x : Int) := IntWalk.i64_in _ (by omega)
           have e8 : (5 * (j : Int) + (x : Int)).toNat = 5 * j + x := by omega
           refine wp_region_still_tail 22 (by kernel_rfl) (by kernel_rfl) ?_
           simp only [List.take_succ_cons, List.take_zero, List.drop_succ_cons, List.drop_zero]
           repeat still_step
           refine wpStill_nil ?_
           go_wp2
           go_roundw
           case rel =>
            have e : d0L mv (l0p mv s j) (5 * j) (x + 1) = (d0L mv (l0p mv s j) (5 * j) x).set (5 * j + x) (wx y0 (wa (wn y1) y2)) := by
             rw [h0V, h0R, HY0.out, HY1.out, HY2.out]; rfl
            refine ⟨x + 1, by omega, by go_num, (hmx.other _ _ _ (by omega)).drew, ?_, (hbx.other _ _ _ (by omega)).drew, (hfx.setCell _ _ _ _ (fun _ => rfl)).drew⟩
            rw [e, ← e0Q, ← List.set_append_left _ _ (by rw [a0J, HSL.out]; omega)]
            exact (hgx.set _ _).drew
           case measure => simp [intOf]; omega
          ·have hge : ¬ ((x : Int) < 5) := by omega
           have hx5 : x = 5 := by omega
           have HX5 := qH hx5; clear hx5
           go_wp2_with fail
           go_roundw
           case rel => exact ⟨j + 1, by omega, by omega, by rw [s0h]; rw [HX5.out] at hgx; exact hgx⟩
           case measure => simp [intOf]; omega
        ·have hge : ¬ (5 * (j : Int) < 25) := by omega
         have hj5 : j = 5 := by omega
         have HJ5 := qH hj5; clear hj5
         have hsl : (l0p mv s j).length = 25 := by rw [k0b]; exact HPL.out
         have hc0 : wr.cell? ⟨g, 0, none⟩ = some (.int .u64 (((l0p mv s j).getD 0 0).toNat : Int)) := hgj.cell (by rw [List.getElem?_append_left (by rw [a0J, hsl]; omega)]; exact b0X _ _ (by rw [hsl]; omega))
         have hf0 : wr.frozen? ⟨g, 0, none⟩ = false := hgj.free _ (by rw [List.length_append, a0J, hsl]; omega)
         generalize hy : (l0p mv s j).getD 0 0 = y at hc0
         have HY := qH hy; clear hy
         have HSL := qH hsl; clear hsl
         go_wp2_with fail
         refine wp_region_still_tail 9 (by kernel_rfl) (by kernel_rfl) ?_
         simp only [List.take_succ_cons, List.take_zero, List.drop_succ_cons, List.drop_zero]
         repeat still_step
         still_call (m0Z r hlt _)
         repeat still_step
         refine wpStill_nil ?_
         go_wp2
         go_roundw
         case rel =>
          have e : c0t (a0z 24) (fun r => rcP r 8) S (r + 1) = (l0p mv s j).set 0 (wx y (rcP r 8)) := by
           rw [g0l, HR.out, h0S, ← HM.out, ← HJ5.out, HY.out]; rfl
          refine ⟨r + 1, by omega, by go_num, ?_, (hbj.other _ _ _ (by omega)).drew, (hfj.setCell _ _ _ _ (fun _ => rfl)).drew⟩
          rw [e, ← e0Q, ← List.set_append_left _ _ (by rw [a0J, HSL.out]; omega)]
          exact (hgj.set _ _).drew
         case measure => simp [intOf]; omega
  ·obtain rfl : r = 24 := by omega
   go_wp2_with fail
   go_end0
   exact ⟨rfl, hgr, hf⟩
end
section
open Go.RowKit Go.Mv Mvp
theorem l0v (s : List UInt64) (k : Nat) : i0p s (k + 1) = c0i s (i0p s k) k 5 := by simp [i0p, List.range_succ]
theorem l0w (s c : List UInt64) (x : Nat) : c0i s c x 0 = c := by simp [c0i]
theorem g0z (s c : List UInt64) (x k : Nat) : c0i s c x (k + 1) = g0W s x (c0i s c x k) k := by simp [c0i, List.range_succ]
theorem h0W (s c : List UInt64) (x k : Nat) : (c0i s c x k).length = c.length := by
 induction k with
 | zero => simp [c0i]
 | succ k ih => rw [g0z]; simp [g0W, ih]
theorem o0v (s : List UInt64) (k : Nat) : (i0p s k).length = 5 := by
 induction k with
 | zero => simp [i0p]
 | succ k ih => rw [l0v, h0W, ih]
theorem s0j (s : List UInt64) : i0p s 0 = List.replicate 5 0 := by simp [i0p]
theorem l0x (s : List UInt64) (t : List Nat) (c : List UInt64) (k : Nat) : l0q s t c (k + 1) = c0Q s t (l0q s t c k) k (dR c k) 5 := by simp [l0q, List.range_succ]
theorem l0y (s : List UInt64) (t : List Nat) (m : List UInt64) (x : Nat) (d : UInt64) : c0Q s t m x d 0 = m := by simp [c0Q]
theorem g0A (s : List UInt64) (t : List Nat) (m : List UInt64) (x : Nat) (d : UInt64) (k : Nat) : c0Q s t m x d (k + 1) = g0X s t x d (c0Q s t m x d k) k := by simp [c0Q, List.range_succ]
theorem h0X (s : List UInt64) (t : List Nat) (m : List UInt64) (x : Nat) (d : UInt64) (k : Nat) : (c0Q s t m x d k).length = m.length := by
 induction k with
 | zero => simp [c0Q]
 | succ k ih => rw [g0A]; simp [g0X, ih]
theorem o0w (s : List UInt64) (t : List Nat) (c : List UInt64) (k : Nat) : (l0q s t c k).length = 25 := by
 induction k with
 | zero => simp [l0q]
 | succ k ih => rw [l0x, h0X, ih]
theorem l0z (m : List UInt64) (k : Nat) : l0r m (k + 1) = c0R m (l0r m k) k 5 := by simp [l0r, List.range_succ]
theorem l0A (m o : List UInt64) (x : Nat) : c0R m o x 0 = o := by simp [c0R]
theorem g0B (m o : List UInt64) (x k : Nat) : c0R m o x (k + 1) = g0Y m x (c0R m o x k) k := by simp [c0R, List.range_succ]
theorem h0Y (m o : List UInt64) (x k : Nat) : (c0R m o x k).length = o.length := by
 induction k with
 | zero => simp [c0R]
 | succ k ih => rw [g0B]; simp [g0Y, ih]
theorem k0e (m : List UInt64) (k : Nat) : (l0r m k).length = 25 := by
 induction k with
 | zero => simp [l0r]
 | succ k ih => rw [l0z, h0Y, ih]
theorem c0Z (x y : Nat) : b0d x y < 25 := by unfold b0d; omega
theorem h0a : (Tryz.prog.info? 58).map (fun i => (i.zero, i.size, i.bytes)) = some (some (.int .u64 0), 1, 8) := by kernel_rfl
theorem d0c (x y : Nat) (w : World) (hx : x ≤ 200) (hy : y ≤ 200) : Calls Tryz.prog 211 #[.int .i64 (x : Int), .int .i64 (y : Int)] w fun e w' => e = .returned (.int .i64 ((b0d x y : Nat) : Int)) ∧ w' = w :=
 (h0U x y w (by omega) (by omega) (by omega) (by omega)).mono (fun _ _ h => ⟨h.1, h.2.symm⟩)
theorem p0J (x y : Nat) (w : World) (hx : x ≤ 100) (hy : y ≤ 100) : Calls Tryz.prog 211 #[.int .i64 (y : Int), .int .i64 (2 * (x : Int) + 3 * (y : Int))] w fun e w' => e = .returned (.int .i64 ((b0d y (2 * x + 3 * y) : Nat) : Int)) ∧ w' = w := by
 refine (h0U (y : Int) (2 * (x : Int) + 3 * (y : Int)) w (by omega) (by omega) (by omega) (by omega)).mono (fun e w' h => ⟨h.1.trans ?_, h.2.symm⟩)
 have e1 : (2 * (x : Int) + 3 * (y : Int)).toNat = 2 * x + 3 * y := by omega
 rw [e1, Int.toNat_natCast]
theorem x0R (x y : Nat) (w : World) (hx : x ≤ 100) (hy : y ≤ 100) : Calls Tryz.prog 211 #[.int .i64 ((x : Int) + 1), .int .i64 (y : Int)] w fun e w' => e = .returned (.int .i64 ((b0d (x + 1) y : Nat) : Int)) ∧ w' = w := d0c (x + 1) y w (by omega) (by omega)
theorem x0S (x y : Nat) (w : World) (hx : x ≤ 100) (hy : y ≤ 100) : Calls Tryz.prog 211 #[.int .i64 ((x : Int) + 2), .int .i64 (y : Int)] w fun e w' => e = .returned (.int .i64 ((b0d (x + 2) y : Nat) : Int)) ∧ w' = w := d0c (x + 2) y w (by omega) (by omega)
theorem s0k (x : UInt64) (w : World) : Calls Tryz.prog 212 #[.int .u64 (x.toNat : Int), .int .i64 1] w fun e w' => e = .returned (.int .u64 ((m0h x 1).toNat : Int)) ∧ ∃ n, w' = w.drewN n := o0s x 1 (by omega) w
theorem s0l (aa ta : Option Addr) (na ca ct : Nat) (S : List UInt64) (c : UInt64) (w : World) (hna : na = 25) (ha : Rd w aa na (ws S)) (ht : Rd w ta 25 (is (a0z 24))) :
  Calls Tryz.prog 204 #[.slice aa na ca, .slice ta 25 ct, .int .u64 (c.toNat : Int)] w fun e w' => ∃ g, e = .returned (.slice (some ⟨g, 0, none⟩) 25 25) ∧ w.heap.size ≤ g ∧ Has w' g (ws (f0N (a0z 24) S c)) 58 ∧ Fr Nob w w' := by
 subst hna
 have hS : S.length = 25 := by have := ha.len; rwa [a0J] at this
 go_enter Tryz.func204, Tryz.ntmps204
 go_wp2_with (at_make; refine c0m rfl rfl Tryz.underlying226 h0a rfl rfl rfl 5 5 (by simp) (by simp) (by omega) (by omega) (by unfold maxLen; omega) ?_; intro w1 hw1 hf1 hz1)
 have hc1 : Has w1 w.heap.size (ws (i0p S 0)) 58 := by rw [s0j]; exact hw1
 generalize hgc : w.heap.size = gc at *
 clear hw1
 go_loopw [8] (fun i wr => ∃ x : Nat, x ≤ 5 ∧ i = .int .i64 x ∧ Has wr gc (ws (i0p S x)) 58 ∧ Fr Nob w wr) (fun i _ => (5 - intOf i).toNat)
 case atStart => exact ⟨0, by omega, rfl, hc1, hf1⟩
 case round =>
  obtain ⟨x, hx, rfl, hcx, hfx⟩ := hrel
  clear hc1 hf1
  by_cases hlt : x < 5
  ·have hltI : (x : Int) < 5 := by omega
   obtain ⟨wo, rfl⟩ : ∃ wo : World, wo = wr := ⟨_, rfl⟩
   go_wp2_with fail
   go_loopw [9] (fun i wr => ∃ y : Nat, y ≤ 5 ∧ i = .int .i64 y ∧ Has wr gc (ws (c0i S (i0p S x) x y)) 58 ∧ Fr Nob w wr) (fun i _ => (5 - intOf i).toNat)
   case atStart => exact ⟨0, by omega, rfl, by rw [l0w]; exact hcx, hfx⟩
   case round =>
    obtain ⟨y, hy, rfl, hcy, hfy⟩ := hrel
    clear hcx hfx
    by_cases hlt2 : y < 5
    ·have hlt2I : (y : Int) < 5 := by omega
     obtain ⟨b, o, rfl, hat⟩ := (ha.still hfy).at (by omega)
     have hs : wr.cell? ⟨b, o + b0d x y, none⟩ = some (.int .u64 ((S.getD (b0d x y) 0).toNat : Int)) := hat _ _ (b0X _ _ (by rw [hS]; exact c0Z x y))
     have hsl : (c0i S (i0p S x) x y).length = 5 := by rw [h0W, o0v]
     have hc : wr.cell? ⟨gc, x, none⟩ = some (.int .u64 (((c0i S (i0p S x) x y).getD x 0).toNat : Int)) := hcy.cell (b0X _ _ (by rw [hsl]; exact hlt))
     have hf : wr.frozen? ⟨gc, x, none⟩ = false := hcy.free _ (by rw [a0J, hsl]; exact hlt)
     have hpl : (0 : Int) ≤ (b0d x y : Int) ∧ (b0d x y : Int) < 25 := by have := c0Z x y; omega
     generalize hu : S.getD (b0d x y) 0 = u at hs
     generalize hv : (c0i S (i0p S x) x y).getD x 0 = v at hc
     have HU := qH hu; clear hu
     have HV := qH hv; clear hv
     have HSL := qH hsl; clear hsl
     have HS := qH hS; clear hS
     clear hat
     have HGC := qH hgc; clear hgc
     go_wp2_with fail
     refine wp_region_still_tail 14 (by kernel_rfl) (by kernel_rfl) ?_
     simp only [List.take_succ_cons, List.take_zero, List.drop_succ_cons, List.drop_zero]
     repeat still_step
     still_call (d0c x y _ (by omega) (by omega))
     repeat still_step
     refine wpStill_nil ?_
     go_wp2
     go_roundw
     case rel =>
      have e : c0i S (i0p S x) x (y + 1) = (c0i S (i0p S x) x y).set x (wx v u) := by rw [g0z, g0W, HU.out, HV.out]; rfl
      refine ⟨y + 1, by omega, by go_num, ?_, (hfy.setCell _ _ _ _ (fun h => by have := HGC.out; omega)).drew⟩
      rw [e, ← e0Q]
      exact (hcy.set _ _).drew
     case measure => simp [intOf]; omega
    ·have hge : ¬ ((y : Int) < 5) := by omega
     have hy5 : y = 5 := by omega
     have HY := qH hy5; clear hy5
     go_wp2_with fail
     go_roundw
     case rel =>
      rw [HY.out, ← l0v] at hcy
      first
       | exact ⟨x + 1, by omega, by go_num, hcy, hfy⟩
       | exact ⟨x + 1, by omega, by omega, hcy⟩
     case measure => simp [intOf]; omega
  ·have hge : ¬ ((x : Int) < 5) := by omega
   have hx5 : x = 5 := by omega
   have hcl : (i0p S x).length = 5 := o0v S x
   have hcol : i0p S x = i0p S 5 := by rw [hx5]
   generalize i0p S x = col at *
   have HCOL := qH hcol; clear hcol hx5
   go_wp2_with (at_make; refine c0m rfl rfl Tryz.underlying226 h0a rfl rfl rfl 25 25 (by simp) (by simp) (by omega) (by omega) (by unfold maxLen; omega) ?_; intro w2 hw2 hf2 hz2)
   have hm2 : Has w2 wr.heap.size (ws (l0q S (a0z 24) col 0)) 58 := by simpa [l0q, ws] using hw2
   have hgm : gc < wr.heap.size := hcx.lt
   have hc2 := hcx.keep hf2 id
   have hfr2 := hfx.same hf2
   have hwm : gc ≤ wr.heap.size := by have := hfx.size; omega
   generalize wr.heap.size = gm at *
   clear hw2 hf2 hz2 hcx hfx
   go_wp2_with fail
   go_loopw [11] (fun i wr => ∃ x : Nat, x ≤ 5 ∧ i = .int .i64 x ∧ Has wr gc (ws col) 58 ∧ Has wr gm (ws (l0q S (a0z 24) col x)) 58 ∧ Fr Nob w wr) (fun i _ => (5 - intOf i).toNat)
   case atStart => exact ⟨0, by omega, rfl, hc2, hm2, hfr2⟩
   case round =>
    obtain ⟨x, hx, rfl, hcx, hmx, hfx⟩ := hrel
    clear hc2 hm2 hfr2
    by_cases hlt3 : x < 5
    ·have hlt3I : (x : Int) < 5 := by omega
     obtain ⟨wo, rfl⟩ : ∃ wo : World, wo = wr := ⟨_, rfl⟩
     have hc4 : wo.cell? ⟨gc, (x + 4) % 5, none⟩ = some (.int .u64 ((col.getD ((x + 4) % 5) 0).toNat : Int)) := hcx.cell (b0X _ _ (by omega))
     have hc1 : wo.cell? ⟨gc, (x + 1) % 5, none⟩ = some (.int .u64 ((col.getD ((x + 1) % 5) 0).toNat : Int)) := hcx.cell (b0X _ _ (by omega))
     generalize hu : col.getD ((x + 4) % 5) 0 = u at hc4
     generalize hv : col.getD ((x + 1) % 5) 0 = v at hc1
     have HU := qH hu; clear hu
     have HV := qH hv; clear hv
     have HCL := qH hcl; clear hcl
     have HS := qH hS; clear hS
     have HGC := qH hgc; clear hgc
     have hlo : (0 : Int) ≤ ((x : Int) + 4) % 5 ∧ ((x : Int) + 4) % 5 < 5 ∧ (0 : Int) ≤ ((x : Int) + 1) % 5 ∧ ((x : Int) + 1) % 5 < 5 := by omega
     go_wp2_with fail
     have e1 : IntKind.i64.wrap ((x : Int) + 4) = (x : Int) + 4 := IntWalk.i64_in _ (by omega)
     have e2 : ((x : Int) + 4).tmod 5 = ((x : Int) + 4) % 5 := Int.tmod_eq_emod_of_nonneg (by omega)
     have e3 : (((x : Int) + 4) % 5).toNat = (x + 4) % 5 := by omega
     have e4 : IntKind.i64.wrap ((x : Int) + 1) = (x : Int) + 1 := IntWalk.i64_in _ (by omega)
     have e5 : ((x : Int) + 1).tmod 5 = ((x : Int) + 1) % 5 := Int.tmod_eq_emod_of_nonneg (by omega)
     have e6 : (((x : Int) + 1) % 5).toNat = (x + 1) % 5 := by omega
     go_quiet ((go_at_call 212; exact Calls.quiet_of (s0k _ _)))
     clear e1 e2 e3 e4 e5 e6
     go_wp2_with fail
     have hcz := hcx.drewN nq
     have hmz := hmx.drewN nq
     have hfz := hfx.drewN nq
     generalize wo.drewN nq = wz at *
     clear hcx hmx hfx hc4 hc1 wo
     have hmb := hmz.lt
     have hd : wx u (m0h v 1) = dR col x := by rw [dR, HU.out, HV.out]; rfl
     generalize wx u (m0h v 1) = d at *
     have HD := qH hd; clear hd
     go_loopw [13] (fun i wr => ∃ y : Nat, y ≤ 5 ∧ i = .int .i64 y ∧ Has wr gc (ws col) 58 ∧ Has wr gm (ws (c0Q S (a0z 24) (l0q S (a0z 24) col x) x d y)) 58 ∧ Fr Nob w wr) (fun i _ => (5 - intOf i).toNat)
     case atStart => exact ⟨0, by omega, rfl, hcz, by rw [l0y]; exact hmz, hfz⟩
     case round =>
      obtain ⟨y, hy, rfl, hcy, hmy, hfy⟩ := hrel
      clear hcz hmz hfz
      by_cases hlt4 : y < 5
      ·have hlt4I : (y : Int) < 5 := by omega
       obtain ⟨b, o, rfl, hat⟩ := (ha.still hfy).at (by omega)
       obtain ⟨tb, to, rfl, tat⟩ := (ht.still hfy).at (by omega)
       have hnb : b ≠ gm := by have := ha.lt (by omega); have := HGC.out; omega
       have hnt : tb ≠ gm := by have := ht.lt (by omega); have := HGC.out; omega
       have hs : wr.cell? ⟨b, o + b0d x y, none⟩ = some (.int .u64 ((S.getD (b0d x y) 0).toNat : Int)) := hat _ _ (b0X _ _ (by rw [HS.out]; exact c0Z x y))
       have htu : wr.cell? ⟨tb, to + b0d x y, none⟩ = some (.int .i64 (((a0z 24).getD (b0d x y) 0 : Nat) : Int)) := tat _ _ (v0x _ _ (by rw [b0w]; exact c0Z x y))
       have htl : (a0z 24).getD (b0d x y) 0 < 64 := o0u _
       have hpl := c0Z x y
       have hpl2 := c0Z y (2 * x + 3 * y)
       obtain ⟨v0, hc0, hf0⟩ := hmy.ready (i := b0d y (2 * x + 3 * y)) (by rw [a0J, h0X, o0w]; exact hpl2)
       have hpi : (0 : Int) ≤ (b0d x y : Int) ∧ (b0d x y : Int) < 25 ∧ (0 : Int) ≤ (b0d y (2 * x + 3 * y) : Int) ∧ (b0d y (2 * x + 3 * y) : Int) < 25 := by omega
       generalize hsv : S.getD (b0d x y) 0 = sv at hs
       generalize htv : (a0z 24).getD (b0d x y) 0 = tv at htu htl
       have HSV := qH hsv; clear hsv
       have HTV := qH htv; clear htv
       clear hat tat hpl hpl2
       go_wp2_with fail
       have e1 : IntKind.i64.wrap (2 * (x : Int)) = 2 * (x : Int) := IntWalk.i64_in _ (by omega)
       have e2 : IntKind.i64.wrap (3 * (y : Int)) = 3 * (y : Int) := IntWalk.i64_in _ (by omega)
       have e3 : IntKind.i64.wrap (2 * (x : Int) + 3 * (y : Int)) = 2 * (x : Int) + 3 * (y : Int) := IntWalk.i64_in _ (by omega)
       go_region_held3 (fun w' => w'.cell? ⟨b, o + b0d x y, none⟩ = some (.int .u64 (sv.toNat : Int)) ∧ w'.cell? ⟨tb, to + b0d x y, none⟩ = some (.int .i64 (tv : Int))) (first | go_keep | (refine ⟨?_, ?_⟩ <;> (rw [o0N _ _ _ _ _ _ (by assumption)]; assumption)))
        (first | (go_at_call_of 211 (Value.int .i64 (x : Int)); refine (d0c x y _ (by omega) (by omega)).mono ?_; rintro e w' ⟨rfl, rfl⟩) | (go_at_call 212; refine (o0s _ _ htl _).mono ?_; rintro e w' ⟨rfl, nl, rfl⟩) | (go_at_call 211; refine (p0J x y _ (by omega) (by omega)).mono ?_; rintro e w' ⟨rfl, rfl⟩))
       all_goals go_wp2
       go_roundw
       case rel =>
        have e : c0Q S (a0z 24) (l0q S (a0z 24) col x) x d (y + 1) = (c0Q S (a0z 24) (l0q S (a0z 24) col x) x d y).set (b0d y (2 * x + 3 * y)) (m0h (wx sv d) tv) := by
         rw [g0A, g0X, HSV.out, HTV.out]; rfl
        refine ⟨y + 1, by omega, by go_num, (hcy.drewN _).other _ _ _ (by omega), ?_, (hfy.drewN _).setCell _ _ _ _ (fun h => by have := HGC.out; omega)⟩
        rw [e, ← e0Q]
        exact (hmy.drewN _).set _ _
       case measure => simp [intOf]; omega
      ·have hge : ¬ ((y : Int) < 5) := by omega
       have hy5 : y = 5 := by omega
       have HY := qH hy5; clear hy5
       go_wp2_with fail
       go_roundw
       case rel =>
        rw [HY.out, HD.out, ← l0x] at hmy
        first
         | exact ⟨x + 1, by omega, by go_num, hcy, hmy, hfy⟩
         | exact ⟨x + 1, by omega, by omega, hmy⟩
       case measure => simp [intOf]; omega
    ·have hge : ¬ ((x : Int) < 5) := by omega
     have hx5 : x = 5 := by omega
     have hml : (l0q S (a0z 24) col x).length = 25 := o0w _ _ _ _
     have hmv : l0q S (a0z 24) col x = l0q S (a0z 24) (i0p S 5) 5 := by rw [hx5, HCOL.out]
     generalize l0q S (a0z 24) col x = mv at *
     have HMV := qH hmv; clear hmv hx5
     have HGC := qH hgc; clear hgc
     have HS := qH hS; clear hS
     have HCL := qH hcl; clear hcl
     have hgb : gc ≤ wr.heap.size := by have := hfx.size; have := HGC.out; omega
     go_wp2_with (at_make; refine c0m rfl rfl Tryz.underlying226 h0a rfl rfl rfl 25 25 (by simp) (by simp) (by omega) (by omega) (by unfold maxLen; omega) ?_; intro w3 hw3 hf3 hz3)
     have ho3 : Has w3 wr.heap.size (ws (l0r mv 0)) 58 := by simpa [l0r, ws] using hw3
     have hgo : gm < wr.heap.size := hmx.lt
     have hm3 := hmx.keep hf3 id
     have hfr3 := hfx.same hf3
     generalize wr.heap.size = go at *
     clear hw3 hf3 hz3 hcx hmx hfx
     go_wp2_with fail
     go_loopw [15] (fun i wr => ∃ x : Nat, x ≤ 5 ∧ i = .int .i64 x ∧ Has wr gm (ws mv) 58 ∧ Has wr go (ws (l0r mv x)) 58 ∧ Fr Nob w wr) (fun i _ => (5 - intOf i).toNat)
     case atStart => exact ⟨0, by omega, rfl, hm3, ho3, hfr3⟩
     case round =>
      obtain ⟨x, hx, rfl, hmx, hox, hfx⟩ := hrel
      clear hm3 ho3 hfr3
      by_cases hlt5 : x < 5
      ·have hlt5I : (x : Int) < 5 := by omega
       obtain ⟨wo, rfl⟩ : ∃ wo : World, wo = wr := ⟨_, rfl⟩
       go_wp2_with fail
       go_loopw [16] (fun i wr => ∃ y : Nat, y ≤ 5 ∧ i = .int .i64 y ∧ Has wr gm (ws mv) 58 ∧ Has wr go (ws (c0R mv (l0r mv x) x y)) 58 ∧ Fr Nob w wr) (fun i _ => (5 - intOf i).toNat)
       case atStart => exact ⟨0, by omega, rfl, hmx, by rw [l0A]; exact hox, hfx⟩
       case round =>
        obtain ⟨y, hy, rfl, hmy, hoy, hfy⟩ := hrel
        clear hmx hox hfx
        by_cases hlt6 : y < 5
        ·have hlt6I : (y : Int) < 5 := by omega
         have hp0 := c0Z x y
         have hp1 := c0Z (x + 1) y
         have hp2 := c0Z (x + 2) y
         have h0 : wr.cell? ⟨gm, b0d x y, none⟩ = some (.int .u64 ((mv.getD (b0d x y) 0).toNat : Int)) := hmy.cell (b0X _ _ (by omega))
         have h1 : wr.cell? ⟨gm, b0d (x + 1) y, none⟩ = some (.int .u64 ((mv.getD (b0d (x + 1) y) 0).toNat : Int)) := hmy.cell (b0X _ _ (by omega))
         have h2 : wr.cell? ⟨gm, b0d (x + 2) y, none⟩ = some (.int .u64 ((mv.getD (b0d (x + 2) y) 0).toNat : Int)) := hmy.cell (b0X _ _ (by omega))
         obtain ⟨v0, hc0, hf0⟩ := hoy.ready (i := b0d x y) (by rw [a0J, h0Y, k0e]; exact hp0)
         have hpi : (0 : Int) ≤ (b0d x y : Int) ∧ (b0d x y : Int) < 25 ∧ (0 : Int) ≤ (b0d (x + 1) y : Int) ∧ (b0d (x + 1) y : Int) < 25 ∧ (0 : Int) ≤ (b0d (x + 2) y : Int) ∧ (b0d (x + 2) y : Int) < 25 := by omega
         generalize hv0 : mv.getD (b0d x y) 0 = y0 at h0
         generalize hv1 : mv.getD (b0d (x + 1) y) 0 = y1 at h1
         generalize hv2 : mv.getD (b0d (x + 2) y) 0 = y2 at h2
         have HV0 := qH hv0; clear hv0
         have HV1 := qH hv1; clear hv1
         have HV2 := qH hv2; clear hv2
         have HML := qH hml; clear hml hp0 hp1 hp2
         go_wp2_with fail
         have e1 : IntKind.i64.wrap ((x : Int) + 1) = (x : Int) + 1 := IntWalk.i64_in _ (by omega)
         have e2 : IntKind.i64.wrap ((x : Int) + 2) = (x : Int) + 2 := IntWalk.i64_in _ (by omega)
         refine wp_region_still_tail 28 (by kernel_rfl) (by kernel_rfl) ?_
         simp only [List.take_succ_cons, List.take_zero, List.drop_succ_cons, List.drop_zero]
         repeat still_step
         still_call (d0c x y _ (by omega) (by omega))
         repeat still_step
         still_call (d0c x y _ (by omega) (by omega))
         repeat still_step
         still_call (x0R x y _ (by omega) (by omega))
         repeat still_step
         still_call (x0S x y _ (by omega) (by omega))
         repeat still_step
         refine wpStill_nil ?_
         go_wp2
         go_roundw
         case rel =>
          have e : c0R mv (l0r mv x) x (y + 1) = (c0R mv (l0r mv x) x y).set (b0d x y) (wx y0 (wa (wn y1) y2)) := by
           rw [g0B, g0Y, HV0.out, HV1.out, HV2.out]; rfl
          refine ⟨y + 1, by omega, by go_num, (hmy.other _ _ _ (by omega)).drew, ?_, (hfy.setCell _ _ _ _ (fun h => by have := HGC.out; omega)).drew⟩
          rw [e, ← e0Q]
          exact (hoy.set _ _).drew
         case measure => simp [intOf]; omega
        ·have hge : ¬ ((y : Int) < 5) := by omega
         have hy5 : y = 5 := by omega
         have HY := qH hy5; clear hy5
         go_wp2_with fail
         go_roundw
         case rel =>
          rw [HY.out, ← l0z] at hoy
          first
           | exact ⟨x + 1, by omega, by go_num, hmy, hoy, hfy⟩
           | exact ⟨x + 1, by omega, by omega, hoy⟩
         case measure => simp [intOf]; omega
      ·have hge : ¬ ((x : Int) < 5) := by omega
       have hx5 : x = 5 := by omega
       have hol : (l0r mv x).length = 25 := k0e mv x
       have hcell : wr.cell? ⟨go, 0, none⟩ = some (.int .u64 (((l0r mv x).getD 0 0).toNat : Int)) := hox.cell (b0X _ _ (by omega))
       have hfree : wr.frozen? ⟨go, 0, none⟩ = false := hox.free _ (by rw [a0J]; omega)
       generalize hu : (l0r mv x).getD 0 0 = u at hcell
       have HU := qH hu; clear hu
       have HX5 := qH hx5; clear hx5
       have HOL := qH hol; clear hol
       have HML := qH hml; clear hml
       go_wp2_with fail
       try go_region
       all_goals go_wp2
       go_ret
       have e : f0N (a0z 24) S c = (l0r mv x).set 0 (wx u c) := by
        rw [f0N, ← HMV.out, ← HX5.out, HU.out]; rfl
       refine ⟨go, rfl, by have := HGC.out; omega, ?_, hfx.setCell _ _ _ _ (fun h => by have := HGC.out; omega)⟩
       rw [e, ← e0Q]
       exact hox.set _ _
end
end Go.Proofs.YtemcankmggmgoaaGreat
namespace Mvp
def a0D : List UInt64 := List.replicate 25 0
def b0S (S : List UInt64) : List UInt64 := c0t (a0z 24) (fun r => rcP r 8) S 24
def e0h (l : List UInt8) : List UInt8 := toB (b0S (f0Q a0D l 200)) 200
theorem f0S (S : List UInt64) : (b0S S).length = S.length := h0T _ _ _ _
theorem u0O (S : List UInt64) (h : S.length = 25) : e0O (a0z 24) (fun r => rcR r 7) S 24 = b0S S :=
 (r0Z (a0z 24) (fun r => rcP r 8) (fun r => rcR r 7) S h 24 (fun r hr => x0O r hr)).symm
def l0B (s : List UInt64) (i : Nat) (x : UInt8) : List UInt64 := s.set (i / 8) (wo (s.getD (i / 8) 0) (shl (wid x) (8 * (i % 8))))
def orB (s : List UInt64) (b : List UInt8) (k : Nat) : List UInt64 := (List.range k).foldl (fun s i => l0B s i (b.getD i 0)) s
theorem k0f (s : List UInt64) (b : List UInt8) (k : Nat) : orB s b (k + 1) = l0B (orB s b k) k (b.getD k 0) := by simp [orB, List.range_succ]
theorem x0T (s : List UInt64) (b : List UInt8) (k : Nat) : (orB s b k).length = s.length := by
 induction k with
 | zero => simp [orB]
 | succ k ih => rw [k0f]; simp [l0B, ih]
theorem z0E (x y k : Nat) (h : x < 2 ^ k) : x ||| (y * 2 ^ k) = x ^^^ (y * 2 ^ k) := by
 apply Nat.eq_of_testBit_eq
 intro i
 rw [Nat.testBit_or, Nat.testBit_xor]
 rcases Nat.lt_or_ge i k with hi | hi
 ·have : (y * 2 ^ k).testBit i = false := by rw [Nat.testBit_mul_two_pow]; simp; omega
  simp [this]
 ·have : x.testBit i = false := Nat.testBit_lt_two_pow (Nat.lt_of_lt_of_le h (Nat.pow_le_pow_right (by omega) hi))
  simp [this]
theorem n0b (x : UInt8) (k : Nat) (hk : k ≤ 56) : (shl (wid x) k).toNat = x.toNat * 2 ^ k := by
 have hx := x.toNat_lt
 have h1 : x.toNat * 2 ^ k < 2 ^ 8 * 2 ^ 56 := by
  have h2 : 2 ^ k ≤ 2 ^ 56 := Nat.pow_le_pow_right (by omega) hk
  have h3 : 0 < 2 ^ k := Nat.two_pow_pos k
  calc x.toNat * 2 ^ k < 2 ^ 8 * 2 ^ k := Nat.mul_lt_mul_of_pos_right hx h3
   _ ≤ 2 ^ 8 * 2 ^ 56 := Nat.mul_le_mul_left _ h2
 simp only [shl, wid, UInt64.toNat_ofNat', UInt8.toNat_toUInt64]
 exact Nat.mod_eq_of_lt (by simpa using h1)
theorem A0J (a : UInt64) (x : UInt8) (k : Nat) (hk : k ≤ 56) (h : a.toNat < 2 ^ k) : wo a (shl (wid x) k) = wx a (shl (wid x) k) := by
 apply UInt64.toNat_inj.1
 simp only [wo, wx, UInt64.toNat_or, UInt64.toNat_xor]
 rw [n0b x k hk, z0E _ _ _ h]
theorem A0K (a : UInt64) (x : UInt8) (k : Nat) (hk : k ≤ 56) (h : a.toNat < 2 ^ k) : (wx a (shl (wid x) k)).toNat < 2 ^ (k + 8) := by
 simp only [wx, UInt64.toNat_xor]
 rw [n0b x k hk]
 have hx := x.toNat_lt
 refine Nat.xor_lt_two_pow (Nat.lt_of_lt_of_le h (Nat.pow_le_pow_right (by omega) (by omega))) ?_
 rw [Nat.pow_add, Nat.mul_comm (2 ^ k)]
 exact Nat.mul_lt_mul_of_pos_right hx (Nat.two_pow_pos k)
theorem o0x (s : List UInt64) (i j : Nat) (v : UInt64) (hi : i < s.length) : (s.set i v).getD j 0 = if i = j then v else s.getD j 0 := by
 have _h := hi
 simp only [List.getD_eq_getElem?_getD, List.getElem?_set]
 split
 ·rename_i h; subst h; simp
 ·rfl
theorem x0U (b : List UInt8) (k : Nat) (hk : k ≤ 200) : orB a0D b k = f0Q a0D b k ∧ (∀ j, j < 25 → ((f0Q a0D b k).getD j 0).toNat < 2 ^ (8 * min (k - 8 * j) 8)) := by
 induction k with
 | zero =>
  refine ⟨by simp [orB, f0Q], fun j hj => ?_⟩
  have hz : ∀ j, j < 25 → a0D.getD j 0 = 0 := by decide
  have e : f0Q a0D b 0 = a0D := by simp [f0Q]
  rw [e, hz j hj]
  simp
 | succ k ih =>
  obtain ⟨h1, h2⟩ := ih (by omega)
  have hl : (f0Q a0D b k).length = 25 := by rw [g0Z]; simp [a0D]
  have hk8 : k / 8 < 25 := by omega
  have h3 := h2 (k / 8) hk8
  have e3 : min (k - 8 * (k / 8)) 8 = k % 8 := by omega
  rw [e3] at h3
  refine ⟨?_, fun j hj => ?_⟩
  ·rw [k0f, e0z, h1, l0B, b0Z, A0J _ _ _ (by omega) h3]
  ·rw [e0z, b0Z, o0x _ _ _ _ (by omega)]
   split
   ·rename_i e
    subst e
    have := A0K ((f0Q a0D b k).getD (k / 8) 0) (b.getD k 0) (8 * (k % 8)) (by omega) h3
    have e4 : 8 * min (k + 1 - 8 * (k / 8)) 8 = 8 * (k % 8) + 8 := by omega
    rw [e4]; exact this
   ·rename_i e
    have e5 : min (k + 1 - 8 * j) 8 = min (k - 8 * j) 8 := by omega
    rw [e5]; exact h2 j hj
end Mvp
namespace Go.Proofs.YtemcankmggmgoaaGreat
section
open Go.RowKit Go.Mv Mvp
end
section
open Go.RowKit Go.Mv Mvp
theorem p0K (t : List Nat) (s : List UInt64) (c : UInt64) : (f0N t s c).length = 25 := by simp [f0N, k0e]
theorem l0C (t : List Nat) (rc : Nat → UInt64) (s : List UInt64) (k : Nat) (h : s.length = 25) : (e0O t rc s k).length = 25 := by
 cases k with
 | zero => simpa [e0O] using h
 | succ k => rw [g0m, p0K]
theorem g0C (s : ByteArray) (w : World) (hs : s.size = 200) :
  Calls Tryz.prog 197 #[.string s] w fun e w' => e = .returned (.string (mkS (e0h s.data.toList))) ∧ Fr Nob w w' := by
 have hsb : s.size ≤ 200 := by omega
 have HSZ := qH hs; clear hs
 go_enter Tryz.func197, Tryz.ntmps197
 go_wp2_with (at_make; refine c0m rfl rfl Tryz.underlying226 h0a rfl rfl rfl 25 25 (by simp) (by simp) (by omega) (by omega) (by unfold maxLen; omega) ?_; intro w1 hw1 hf1 hz1)
 have ha1 : Has w1 w.heap.size (ws (orB a0D s.data.toList 0)) 58 := by simpa [orB, a0D, ws] using hw1
 generalize hga : w.heap.size = ga at *
 clear hw1
 have HGA := qH hga; clear hga
 go_loopw [4] (fun i wr => ∃ k : Nat, k ≤ 200 ∧ i = .int .i64 k ∧ Has wr ga (ws (orB a0D s.data.toList k)) 58 ∧ Fr Nob w wr) (fun i _ => (200 - intOf i).toNat)
 case atStart => exact ⟨0, by omega, rfl, ha1, hf1⟩
 case round =>
  obtain ⟨k, hk, rfl, hak, hf⟩ := hrel
  clear ha1 hf1 hz1
  by_cases hlt : k < 200
  ·have hltI : (k : Int) < 200 := by omega
   have hol : (orB a0D s.data.toList k).length = 25 := by rw [x0T]; simp [a0D]
   have hx : ∀ h1 : k < s.size, s[k]'h1 = s.data.toList.getD k 0 := by
    intro h1
    rw [List.getD_eq_getElem?_getD, List.getElem?_eq_getElem (by simpa using h1)]
    simp
    rfl
   have hc : wr.cell? ⟨ga, k / 8, none⟩ = some (.int .u64 (((orB a0D s.data.toList k).getD (k / 8) 0).toNat : Int)) := hak.cell (b0X _ _ (by omega))
   have hfz : wr.frozen? ⟨ga, k / 8, none⟩ = false := hak.free _ (by rw [a0J]; omega)
   have hlo : (0 : Int) ≤ (k : Int) / 8 ∧ (k : Int) / 8 < 25 := by omega
   generalize hy : (orB a0D s.data.toList k).getD (k / 8) 0 = y at hc
   generalize hxx : s.data.toList.getD k 0 = x at hx
   have HY := qH hy; clear hy
   have HX := qH hxx; clear hxx
   have HOL := qH hol; clear hol
   go_wp2_with fail
   have e1 : IntKind.i64.wrap ((k : Int) / 8) = (k : Int) / 8 := IntWalk.i64_in _ (by omega)
   have hks : (k : Int) < (s.size : Int) := by have := HSZ.out; omega
   have e2 : (k : Int).tmod 8 = (k : Int) % 8 := Int.tmod_eq_emod_of_nonneg (by omega)
   have e3 : IntKind.i64.wrap (8 * ((k : Int) % 8)) = 8 * ((k : Int) % 8) := IntWalk.i64_in _ (by omega)
   have e4 : ((k : Int) / 8).toNat = k / 8 := by omega
   refine wp_region_still_tail 18 (by kernel_rfl) (by kernel_rfl) ?_
   simp only [List.take_succ_cons, List.take_zero, List.drop_succ_cons, List.drop_zero]
   repeat still_step
   refine wpStill_nil ?_
   go_wp2
   go_roundw
   case rel =>
    have e : orB a0D s.data.toList (k + 1) = (orB a0D s.data.toList k).set (k / 8) (wo y (shl (wid x) (8 * (k % 8)))) := by
     rw [k0f, l0B, HX.out, HY.out]
    refine ⟨k + 1, by omega, by go_num, ?_, (hf.setCell _ _ _ _ (fun h => by have := HGA.out; omega)).drew⟩
    rw [e, ← e0Q]
    exact (hak.set _ _).drew
   case measure => simp [intOf]; omega
  ·have hge : ¬ ((k : Int) < 200) := by omega
   have hk200 : k = 200 := by omega
   have hor : orB a0D s.data.toList k = f0Q a0D s.data.toList 200 := by rw [hk200]; exact (x0U s.data.toList 200 (by omega)).1
   rw [hor] at hak
   have hsl : (f0Q a0D s.data.toList 200).length = 25 := by rw [g0Z]; simp [a0D]
   have hpb : e0h s.data.toList = toB (e0O (a0z 24) (fun r => rcR r 7) (f0Q a0D s.data.toList 200) 24) 200 := by rw [u0O _ hsl]; rfl
   generalize f0Q a0D s.data.toList 200 = S at *
   clear hor hk200
   have HPB := qH hpb; clear hpb
   have HSL := qH hsl; clear hsl
   go_wp2_with fail
   refine (m0W _).mono ?_
   rintro e w2 ⟨rfl, ht2, hf2⟩
   have ha2 := hak.keep hf2 id
   have hfr2 := hf.then hf2
   generalize wr.heap.size = gt at *
   clear hak hf hf2
   go_wp2_with fail
   go_loopw [3, 6] (fun v i wr => ∃ (r g : Nat), r ≤ 24 ∧ i = .int .i64 r ∧ v = .slice (some ⟨g, 0, none⟩) 25 25 ∧ Has wr g (ws (e0O (a0z 24) (fun r => rcR r 7) S r)) 58 ∧ Has wr gt (is (a0z 24)) 3 ∧ Fr Nob w wr) (fun _ i _ => (24 - intOf i).toNat)
   case atStart => exact ⟨0, ga, by omega, rfl, rfl, by simpa [e0O] using ha2, ht2, hfr2⟩
   case round =>
    obtain ⟨r, g, hr, rfl, rfl, hgr, htr, hfr⟩ := hrel
    clear ha2 ht2 hfr2
    by_cases hlt2 : r < 24
    ·have hlt2I : (r : Int) < 24 := by omega
     have hpl : (e0O (a0z 24) (fun r => rcR r 7) S r).length = 25 := l0C _ _ _ _ HSL.out
     go_wp2_with fail
     refine (p0F r hlt2 _).mono ?_
     rintro e w' ⟨rfl, rfl⟩
     go_wp2_with fail
     refine (s0l _ _ 25 _ _ (e0O (a0z 24) (fun r => rcR r 7) S r) (rcR r 7) _ rfl (by have := Rd.whole hgr; rwa [a0J, hpl] at this) (by have := Rd.whole htr; rwa [c0l, b0w] at this)).mono ?_
     rintro e w3 ⟨g3, rfl, hg3, hh3, hf3⟩
     go_wp2_with fail
     go_roundw
     case rel => exact ⟨r + 1, g3, by omega, by go_num, rfl, by rw [g0m]; exact hh3, htr.keep hf3 id, hfr.then hf3⟩
     case measure => simp [intOf]; omega
    ·have hge2 : ¬ ((r : Int) < 24) := by omega
     have hr24 : r = 24 := by omega
     have hpl : (e0O (a0z 24) (fun r => rcR r 7) S r).length = 25 := l0C _ _ _ _ HSL.out
     have hpb2 : e0h s.data.toList = toB (e0O (a0z 24) (fun r => rcR r 7) S r) 200 := by rw [HPB.out, hr24]
     generalize e0O (a0z 24) (fun r => rcR r 7) S r = R at *
     have HPB2 := qH hpb2; clear hpb2
     clear hr24 htr
     go_wp2_with (at_make; refine c0m rfl rfl Tryz.underlying22 b0u rfl rfl rfl 200 200 (by simp) (by simp) (by omega) (by omega) (by unfold maxLen; omega) ?_; intro w4 hw4 hf4 hz4)
     have hgo : g < wr.heap.size := hgr.lt
     have hgb : w.heap.size ≤ wr.heap.size := hfr.size
     have ho4 : Has w4 wr.heap.size (bs (fill (toB R 200) (List.replicate 200 0) 0)) 5 := by rw [k0u]; simpa [bs] using hw4
     have hg4 := hgr.keep hf4 id
     have hfr4 := hfr.then hf4
     generalize wr.heap.size = go at *
     clear hw4 hf4 hz4 hgr hfr
     go_wp2_with fail
     go_loopw [8] (fun i wr => ∃ k : Nat, k ≤ 200 ∧ i = .int .i64 k ∧ Has wr go (bs (fill (toB R 200) (List.replicate 200 0) k)) 5 ∧ Has wr g (ws R) 58 ∧ Fr Nob w wr) (fun i _ => (200 - intOf i).toNat)
     case atStart => exact ⟨0, by omega, rfl, ho4, hg4, hfr4⟩
     case round =>
      obtain ⟨k, hk, rfl, hh, hg2, hf⟩ := hrel
      clear ho4 hg4 hfr4
      by_cases hlt3 : k < 200
      ·have hlt3I : (k : Int) < 200 := by omega
       obtain ⟨v0, hc0, hfr0⟩ := hh.ready (i := k) (by rw [a0F, d0e _ _ _ (by simp [b0e])]; simpa using hlt3)
       have hc : wr.cell? ⟨g, k / 8, none⟩ = some (.int .u64 ((R.getD (k / 8) 0).toNat : Int)) := hg2.cell (b0X _ _ (by omega))
       have hlo : (0 : Int) ≤ (k : Int) / 8 ∧ (k : Int) / 8 < 25 := by omega
       generalize hy : R.getD (k / 8) 0 = y at hc
       have HY := qH hy; clear hy
       have HPL := qH hpl; clear hpl
       go_wp2
       go_roundw
       case rel =>
        have e : (toB R 200).getD k 0 = lo8 (shr y (8 * (k % 8))) := by rw [w0f R 200 k hlt3, d0M, HY.out]
        refine ⟨k + 1, by omega, by go_num, ?_, hg2.other _ _ _ (by omega), hf.setCell _ _ _ _ (fun h => absurd h (by omega))⟩
        rw [← e]
        exact hh.fillB (by simp [b0e]) (by simpa [b0e] using hlt3)
       case measure => simp [intOf]; omega
      ·have hge3 : ¬ ((k : Int) < 200) := by omega
       rw [f0l _ _ _ (by simp [b0e]) (by simp [b0e]; omega)] at hh
       go_wp2_with (with_reducible refine wSk 61 ?_)
       refine c0F rfl rfl Tryz.underlying22 Tryz.underlying5 Tryz.underlying9 rfl (l := toB R 200) (by have := Rd.whole hh; rwa [a0F, b0e] at this) ?_
       go_wp2
       go_ret
       exact ⟨by rw [HPB2.out]; rfl, hf⟩
end
end Go.Proofs.YtemcankmggmgoaaGreat
namespace Mvp
def l0D (st : List UInt64 × Nat) (x : UInt8) : List UInt64 × Nat :=
 if st.2 + 1 = 136 then (b0S (b0Z st.1 st.2 x), 0) else (b0Z st.1 st.2 x, st.2 + 1)
def d0s (st : List UInt64 × Nat) (l : List UInt8) : List UInt64 × Nat := l.foldl l0D st
theorem d0o (st : List UInt64 × Nat) (l m : List UInt8) : d0s st (l ++ m) = d0s (d0s st l) m := by simp [d0s]
theorem h0b (st : List UInt64 × Nat) : d0s st [] = st := rfl
theorem d0N (st : List UInt64 × Nat) (x : UInt8) (l : List UInt8) : d0s st (x :: l) = d0s (l0D st x) l := rfl
def c0u : List UInt64 → Nat → List UInt8 → List UInt64
 | S, _, [] => S
 | S, k, x :: l => c0u (b0Z S k x) (k + 1) l
theorem e0a (S : List UInt64) (k : Nat) (x : UInt8) : (b0Z S k x).length = S.length := by simp [b0Z]
theorem h0Z (l : List UInt8) : ∀ (S : List UInt64) (k : Nat), (c0u S k l).length = S.length := by
 induction l with
 | nil => intro S k; rfl
 | cons x l ih => intro S k; rw [c0u, ih, e0a]
theorem p0L (l : List UInt8) : ∀ (S : List UInt64) (k : Nat), k + l.length < 136 → d0s (S, k) l = (c0u S k l, k + l.length) := by
 induction l with
 | nil => intro S k _; rfl
 | cons x l ih =>
  intro S k h
  simp only [List.length_cons] at h
  rw [d0N, l0D, if_neg (by simp; omega), ih _ _ (by simp; omega), c0u]
  simp; omega
theorem i0a (l : List UInt8) : ∀ (S : List UInt64) (k : Nat), k + l.length = 136 → k < 136 → d0s (S, k) l = (b0S (c0u S k l), 0) := by
 induction l with
 | nil => intro S k h h'; simp at h; omega
 | cons x l ih =>
  intro S k h h'
  simp only [List.length_cons] at h
  by_cases hl : l = []
  ·subst hl
   simp at h
   rw [d0N, l0D, if_pos (by simp; omega), h0b]
   rfl
  ·have hp : 0 < l.length := List.length_pos_iff.2 hl
   rw [d0N, l0D, if_neg (by simp; omega), ih _ _ (by simp; omega) (by simp; omega), c0u]
theorem n0c (l : List UInt8) : ∀ (st : List UInt64 × Nat), st.2 < 136 → (d0s st l).2 < 136 := by
 induction l with
 | nil => intro st h; exact h
 | cons x l ih =>
  intro st h
  rw [d0N]
  apply ih
  unfold l0D
  split
  ·simp
  ·simp; omega
theorem h0c (l : List UInt8) : ∀ (st : List UInt64 × Nat), (d0s st l).1.length = st.1.length := by
 induction l with
 | nil => intro st; rfl
 | cons x l ih =>
  intro st
  rw [d0N, ih]
  unfold l0D
  split
  ·simp [f0S, e0a]
  ·simp [e0a]
theorem l0E (S : List UInt64) (k : Nat) : b0Z S k 0 = S := by
 have e : shl (wid 0) (8 * (k % 8)) = 0 := by
  apply UInt64.toNat_inj.1
  simp [shl, wid]
 unfold b0Z
 rw [e]
 have e2 : wx (S.getD (k / 8) 0) 0 = S.getD (k / 8) 0 := by simp [wx]
 rw [e2]
 rcases Nat.lt_or_ge (k / 8) S.length with h | h
 ·have e3 : S.getD (k / 8) 0 = S[k / 8] := by simp [List.getD_eq_getElem?_getD, h]
  rw [e3]; simp
 ·exact List.set_eq_of_length_le h
theorem s0m (S : List UInt64) (b : List UInt8) (n : Nat) : n ≤ b.length → f0Q S b n = c0u S 0 (b.take n) := by
 have key : ∀ (l : List UInt8) (S : List UInt64) (k : Nat) (x : UInt8), c0u S k (l ++ [x]) = b0Z (c0u S k l) (k + l.length) x := by
  intro l
  induction l with
  | nil => intro S k x; rfl
  | cons y l ih =>
   intro S k x
   rw [List.cons_append, c0u, ih, c0u]
   simp [Nat.add_assoc, Nat.add_comm 1]
 induction n with
 | zero => intro _; simp [f0Q, c0u]
 | succ n ih =>
  intro h
  have hn : n < b.length := by omega
  rw [e0z, ih (by omega), List.take_succ_eq_append_getElem hn, key]
  congr 1
  ·simp; omega
  ·simp [List.getD_eq_getElem?_getD, hn]
theorem n0d (S : List UInt64) (k : Nat) (l : List UInt8) : ∀ j, c0u S j (List.replicate k 0 ++ l) = c0u S (j + k) l := by
 induction k with
 | zero => intro j; simp
 | succ k ih =>
  intro j
  rw [List.replicate_succ, List.cons_append, c0u, l0E, ih, Nat.add_assoc, Nat.add_comm 1 k]
theorem i0W (S : List UInt64) (k : Nat) (l rest : List UInt8) : f0Q S (List.replicate k 0 ++ l ++ rest) (k + l.length) = c0u S k l := by
 rw [s0m _ _ _ (by simp), List.take_left' (by simp), n0d]
 simp
attribute [local irreducible] b0S toB
def o0y (k : Nat) (e : UInt8) : List UInt8 := ((e :: List.replicate (135 - k) 0).set (135 - k) (bx (((e :: List.replicate (135 - k) 0)).getD (135 - k) 0) 0x80))
theorem o0z (k : Nat) (e : UInt8) (h : k < 136) : (o0y k e).length = 136 - k := by simp [o0y]; omega
def i0x (st : List UInt64 × Nat) (e : UInt8) : List UInt64 := (d0s st (o0y st.2 e)).1
def a0T (S : List UInt64) : Nat → List UInt8
 | 0 => []
 | k + 1 => toB S 136 ++ a0T (b0S S) k
def b0T (S : List UInt64) : Nat → List UInt64
 | 0 => S
 | k + 1 => b0T (b0S S) k
theorem i0X (k : Nat) : ∀ (S : List UInt64), b0T S (k + 1) = b0S (b0T S k) := by
 induction k with
 | zero => intro S; rfl
 | succ k ih => intro S; rw [b0T, ih]; rfl
theorem l0F (k : Nat) : ∀ (S : List UInt64), (b0T S k).length = S.length := by
 induction k with
 | zero => intro S; rfl
 | succ k ih => intro S; rw [b0T, ih, f0S]
theorem f0e (k : Nat) : ∀ (S : List UInt64), (a0T S k).length = 136 * k := by
 induction k with
 | zero => intro S; rfl
 | succ k ih => intro S; rw [a0T, List.length_append, b0e, ih]; omega
theorem g0D (k : Nat) : ∀ (S : List UInt64), a0T S (k + 1) = a0T S k ++ toB (b0T S k) 136 := by
 induction k with
 | zero => intro S; simp [a0T, b0T]
 | succ k ih => intro S; rw [a0T, ih (b0S S)]; rw [a0T, b0T, List.append_assoc]
def e0A (n : Nat) : Nat := (n + 135) / 136
def x0V (S : List UInt64) (n : Nat) : List UInt8 := (a0T S (e0A n)).take n
theorem u0P (S : List UInt64) (n : Nat) : (x0V S n).length = n := by
 simp only [x0V, List.length_take, f0e, e0A]; omega
def c0a (l : List UInt8) (e : UInt8) (n : Nat) : List UInt8 := x0V (i0x (d0s (a0D, 0) l) e) n
theorem n0e (l : List UInt8) (e : UInt8) (n : Nat) : (c0a l e n).length = n := u0P _ _
end Mvp
namespace Mvp
theorem f0T (a : UInt64) (k : Nat) : (lo8 (shr a k)).toNat = a.toNat / 2 ^ k % 256 := by
 have h : a.toNat / 2 ^ k < 18446744073709551616 := Nat.lt_of_le_of_lt (Nat.div_le_self _ _) a.toNat_lt
 simp only [lo8, shr, UInt64.toNat_toUInt8, UInt64.toNat_ofNat']
 omega
theorem f0U (a : UInt64) (k i : Nat) : (lo8 (shr a k)).toNat.testBit i = (decide (i < 8) && a.toNat.testBit (i + k)) := by
 rw [f0T, show (256 : Nat) = 2 ^ 8 from rfl, Nat.testBit_mod_two_pow, Nat.testBit_div_two_pow]
theorem k0g (x : UInt8) (i : Nat) (h : 8 ≤ i) : x.toNat.testBit i = false :=
 Nat.testBit_lt_two_pow (Nat.lt_of_lt_of_le x.toNat_lt (by have := Nat.pow_le_pow_right (show 0 < 2 by omega) h; simpa using this))
theorem u0Q (a : UInt64) (x : UInt8) (m t : Nat) (hm : m < 8) (_ht : t < 8) :
  lo8 (shr (wx a (shl (wid x) (8 * m))) (8 * t)) = if t = m then bx (lo8 (shr a (8 * m))) x else lo8 (shr a (8 * t)) := by
 apply UInt8.toNat_inj.1
 apply Nat.eq_of_testBit_eq
 intro i
 rw [f0U]
 have hw : (wx a (shl (wid x) (8 * m))).toNat = a.toNat ^^^ (x.toNat * 2 ^ (8 * m)) := by
  simp only [wx, UInt64.toNat_xor]; rw [n0b x _ (by omega)]
 rw [hw, Nat.testBit_xor, Nat.testBit_mul_two_pow]
 by_cases hi : i < 8
 ·by_cases e : t = m
  ·subst e
   rw [if_pos rfl]
   simp only [bx, UInt8.toNat_xor, Nat.testBit_xor, f0U]
   simp [hi]
  ·rw [if_neg e, f0U]
   have hz : (decide (8 * m ≤ i + 8 * t) && x.toNat.testBit (i + 8 * t - 8 * m)) = false := by
    rcases Nat.lt_or_ge t m with h | h
    ·have : ¬ (8 * m ≤ i + 8 * t) := by omega
     simp [this]
    ·rw [k0g x _ (by omega)]; simp
   rw [hz]; simp [hi]
 ·have h1 : (decide (i < 8)) = false := by simp [hi]
  rw [h1]
  split
  ·rw [k0g _ i (by omega)]; rfl
  ·rw [k0g _ i (by omega)]; rfl
theorem k0h (S : List UInt64) (hS : S.length = 25) (k i : Nat) (x : UInt8) (hk : k < 200) : d0M (b0Z S k x) i = if i = k then bx (d0M S k) x else d0M S i := by
 unfold d0M b0Z
 rw [o0x _ _ _ _ (by omega)]
 by_cases hd : k / 8 = i / 8
 ·rw [if_pos hd, u0Q _ _ _ _ (by omega) (by omega), ← hd]
  by_cases e : i = k
  ·rw [if_pos e, if_pos (by omega)]
  ·rw [if_neg e, if_neg (by omega)]
 ·rw [if_neg hd, if_neg (by omega)]
theorem s0n (S S' : List UInt64) (h : S.length = 25) (h' : S'.length = 25) (hb : ∀ i, i < 200 → d0M S i = d0M S' i) : S = S' := by
 apply List.ext_getElem (by omega)
 intro j hj hj'
 have hw : ∀ (T : List UInt64) (hT : j < T.length), T.getD j 0 = T[j] := fun T hT => by simp [List.getD_eq_getElem?_getD, hT]
 rw [← hw S hj, ← hw S' hj']
 apply UInt64.toNat_inj.1
 apply Nat.eq_of_testBit_eq
 intro i
 rcases Nat.lt_or_ge i 64 with hi | hi
 ·have h1 := hb (8 * j + i / 8) (by omega)
  have h2 := congrArg (fun y : UInt8 => y.toNat.testBit (i % 8)) h1
  simp only [d0M] at h2
  rw [f0U, f0U, show (8 * j + i / 8) / 8 = j by omega, show (8 * j + i / 8) % 8 = i / 8 by omega, show i % 8 + 8 * (i / 8) = i by omega] at h2
  simpa [show i % 8 < 8 by omega] using h2
 ·have big : ∀ (y : UInt64), y.toNat.testBit i = false := fun y => Nat.testBit_lt_two_pow (Nat.lt_of_lt_of_le y.toNat_lt (by have := Nat.pow_le_pow_right (show 0 < 2 by omega) hi; simpa using this))
  rw [big, big]
theorem i0b (l : List UInt8) : ∀ (S : List UInt64) (k i : Nat), S.length = 25 → k + l.length ≤ 200 → d0M (c0u S k l) i = if k ≤ i ∧ i < k + l.length then bx (d0M S i) (l.getD (i - k) 0) else d0M S i := by
 induction l with
 | nil => intro S k i _ _; rw [if_neg (by simp)]; rfl
 | cons x l ih =>
  intro S k i hS h
  simp only [List.length_cons] at h
  rw [c0u, ih _ _ _ (by rw [e0a, hS]) (by omega), k0h S hS _ _ _ (by omega)]
  by_cases e : i = k
  ·subst e
   rw [if_neg (by omega), if_pos rfl, if_pos (by simp)]
   simp
  ·by_cases hr : k + 1 ≤ i ∧ i < k + 1 + l.length
   ·rw [if_pos hr, if_neg e, if_pos (by simp; omega), show i - k = (i - (k + 1)) + 1 by omega, List.getD_cons_succ]
   ·rw [if_neg hr, if_neg e, if_neg (by simp; omega)]
theorem s0o (S : List UInt64) (n i : Nat) (h : i < n) : (toB S n).getD i 0 = d0M S i := by
 simp [toB, List.getD_eq_getElem?_getD, List.getElem?_range h]
theorem i0c (i : Nat) : d0M a0D i = 0 := by
 have hz : a0D.getD (i / 8) 0 = 0 := by
  rcases Nat.lt_or_ge (i / 8) 25 with h | h
  ·have : ∀ j, j < 25 → a0D.getD j 0 = 0 := by decide
   exact this _ h
  ·rw [List.getD_eq_getElem?_getD, List.getElem?_eq_none (by simpa [a0D] using h)]; rfl
 unfold d0M
 rw [hz]
 apply UInt8.toNat_inj.1
 rw [f0T]; simp
theorem x0W (x : UInt8) : bx 0 x = x := by simp [bx]
theorem p0M (b : List UInt8) (hb : b.length = 200) (i : Nat) (hi : i < 200) : d0M (f0Q a0D b 200) i = b.getD i 0 := by
 rw [s0m _ _ _ (by omega), List.take_of_length_le (by omega), i0b b _ _ _ (by simp [a0D]) (by omega), if_pos (by omega), i0c, x0W]
 simp
theorem o0A (S : List UInt64) (hS : S.length = 25) (l b : List UInt8) (hl : l.length ≤ 200) (hb : b.length = 200) (h : ∀ i, i < 200 → b.getD i 0 = if i < l.length then bx (d0M S i) (l.getD i 0) else d0M S i) : f0Q a0D b 200 = c0u S 0 l := by
 refine s0n _ _ (by rw [g0Z]; simp [a0D]) (by rw [h0Z, hS]) (fun i hi => ?_)
 rw [p0M b hb i hi, i0b l S 0 i hS (by omega), h i hi]
 simp
end Mvp
namespace Go.Proofs.YtemcankmggmgoaaGreat
open Go.RowKit Go.Mv Mvp
theorem l0G : (Tryz.prog.info? 241).map (·.zero) = some (some (.agg (bs (List.replicate 136 0)).toArray)) := by kernel_rfl
def abs (st : List UInt64 × Nat) : List Value := ws st.1 ++ [.int .i64 (st.2 : Int)]
theorem s0p (st : List UInt64 × Nat) : (abs st).length = st.1.length + 1 := by simp [abs, a0J]
theorem i0d (st : List UInt64 × Nat) (h : st.1.length = 25) : (abs st)[25]? = some (.int .i64 (st.2 : Int)) := by
 rw [abs, List.getElem?_append_right (by rw [a0J, h]; omega), a0J, h]; rfl
theorem s0q (S : List UInt64) (k n : Nat) (h : S.length = 25) : (abs (S, k)).set 25 (.int .i64 (n : Int)) = abs (S, n) := by
 rw [abs, List.set_append_right _ _ (by rw [a0J, h]; omega), a0J, h]; rfl
theorem s0r (S : List UInt64) : c0t (a0z 24) (fun r => rcP r 8) S 24 = b0S S := by unfold b0S; rfl
theorem i0e (S : List UInt64) (k : Nat) : ws S ++ [Value.int .i64 (k : Int)] = abs (S, k) := by unfold abs; rfl
attribute [local irreducible] b0S c0t toB a0z
theorem f0f (g : Nat) (S : List UInt64) (k : Nat) (w : World) (hS : S.length = 25) (hg : Has w g (abs (S, k)) 234) :
  Calls Tryz.prog 201 #[.pointer (some ⟨g, 0, none⟩)] w fun e w' => e = .returned (.tuple #[]) ∧ Has w' g (abs (b0S S, k)) 234 ∧ Fr (One g) w w' := by
 rw [← i0e] at hg
 refine (n0a g S [.int .i64 (k : Int)] 234 w hS hg).mono ?_
 rintro e w' ⟨h1, h2, h3⟩
 rw [s0r, i0e] at h2
 exact ⟨h1, h2, h3⟩
theorem u0R (k p : Nat) (l : List UInt8) (hl : l.length = p) (h : k + p ≤ 136) : splice (bs (List.replicate 136 0)) k (bs l) = bs (List.replicate k 0 ++ l ++ List.replicate (136 - k - p) 0) := by
 unfold splice
 rw [a0F, hl, e0j, m0c, ← d0d, ← d0d, List.append_assoc]
 rw [List.take_replicate, Nat.min_eq_left (by omega), List.drop_replicate, Nat.sub_sub]
def lenV : Value → Nat
 | .slice _ n _ => n
 | _ => 0
theorem l0H (g : Nat) (st : List UInt64 × Nat) (b : Option Addr) (n c : Nat) (l : List UInt8) (w : World) (hS : st.1.length = 25) (hat : st.2 < 136) (hn : n ≤ 1000000) (hnc : n ≤ c) (hg : Has w g (abs st) 234) (hb : RdB w b n l) (hbg : Off (One g) b) :
  Calls Tryz.prog 192 #[.pointer (some ⟨g, 0, none⟩), .slice b n c] w fun e w' => e = .returned (.tuple #[]) ∧ Has w' g (abs (d0s st l)) 234 ∧ Fr (One g) w w' := by
 go_enter Tryz.func192, Tryz.ntmps192
 go_wp2_with fail
 have hll := hb.len
 go_loopw [1] (fun v wr => ∃ (sj : List UInt64 × Nat) (r : List UInt8) (m : Nat) (a : Option Addr) (cc : Nat), v = .slice a m cc ∧ m ≤ cc ∧ m ≤ 1000000 ∧ RdB wr a m r ∧ Off (One g) a ∧ Has wr g (abs sj) 234 ∧ sj.2 < 136 ∧ sj.1.length = 25 ∧ d0s sj r = d0s st l ∧ Fr (One g) w wr) (fun v _ => lenV v)
 case atStart => exact ⟨st, l, n, b, c, rfl, hnc, hn, hb, hbg, hg, hat, hS, rfl, Fr.refl _ _⟩
 case round =>
  obtain ⟨⟨S, k⟩, r, m, a, cc, rfl, hcc, hmb, hra, hoa, hgj, hkj, hSj, hfe, hf⟩ := hrel
  clear hg hb hbg hat hS hll hn hnc
  simp only at hkj hSj
  have HF := qH hfe; clear hfe
  by_cases hlt : 0 < m
  ·have hc25 : wr.cell? ⟨g, 25, none⟩ = some (.int .i64 (k : Int)) := hgj.cell (i0d (S, k) hSj)
   have hf25 : wr.frozen? ⟨g, 25, none⟩ = false := hgj.free _ (by rw [s0p]; simp only; omega)
   have HS := qH hSj; clear hSj
   go_wp2_with (with_reducible refine wSk 16 ?_)
   obtain ⟨p, hp, hp1, hp2, hp3⟩ : ∃ p : Nat, (if 136 - (k : Int) < (m : Int) then 136 - (k : Int) else (m : Int)) = (p : Int) ∧ p ≤ m ∧ k + p ≤ 136 ∧ (p = m ∨ k + p = 136) := by
    refine ⟨min m (136 - k), ?_, by omega, by omega, by omega⟩
    split <;> omega
   refine y0C rfl rfl rfl rfl p hp ?_
   clear hp
   have HP := qH hp3; clear hp3
   go_wp2_with (with_reducible refine e0Y (o := ⟨_, .alloc 241, _, _, _, _⟩) ?_)
   refine e0C rfl rfl l0G (bs (List.replicate 136 0)) (by simp [Value.cells]) ?_
   intro w1 hp1' hf1 hz1
   have hg1 := hgj.keep hf1 id
   have hr1 := hra.still hf1
   have hc1 : w1.cell? ⟨g, 25, none⟩ = some (.int .i64 (k : Int)) := hf1.cell id hc25
   have hgp : g < wr.heap.size := hgj.lt
   have hfr1 := hf.same hf1
   have hpw : w.heap.size ≤ wr.heap.size := hf.size
   have hra0 : Off (One wr.heap.size) a := fun x hx (e : x.block = wr.heap.size) => by
    obtain ⟨bb, o, rfl, hat⟩ := Rd.at hra hlt
    have := Rd.lt hra hlt
    simp only [Option.some.injEq] at hx
    subst hx
    simp at e
    omega
   generalize wr.heap.size = gp at *
   clear hgj hra hc25 hf25 hf1 hz1
   have hk136 : k < 136 := hkj
   go_wp2_with fail
   have e1 : ∀ wx, (Instr.sliceAt 241 (.pointer (some ⟨gp, 0, none⟩)) (some (.int .i64 (k : Int))) none none).run Tryz.prog wx = .ok (.slice (some ⟨gp, k, none⟩) (136 - k) (136 - k)) wx := fun wx => by
    have := f0w wx Tryz.underlying241 d0y gp 0 .i64 k hk136
    rwa [Nat.zero_add] at this
   have e2 : ∀ wx, (Instr.sliceAt 22 (.slice a m cc) none (some (.int .i64 (p : Int))) none).run Tryz.prog wx = .ok (.slice a p cc) wx := fun wx => e0p wx Tryz.underlying22 d0y a m cc .i64 p (by omega)
   refine wp_region_still_tail 8 (by kernel_rfl) (by kernel_rfl) ?_
   simp only [List.take_succ_cons, List.take_zero, List.drop_succ_cons, List.drop_zero]
   repeat still_step
   refine wpStill_nil ?_
   show wpList _ _ _ _ _ w1.drew
   have hrp : Rd w1.drew a p (bs (r.take p)) := by
    have hlen := hr1.len
    refine ⟨by rw [a0F, List.length_take]; omega, hr1.2.imp (fun h0 => by omega) ?_⟩
    rintro ⟨b, o, rfl, hc⟩
    refine ⟨b, o, rfl, fun i v hv => ?_⟩
    have := hc i v
    rw [← e0j, List.getElem?_take] at hv
    split at hv
    ·exact hc i v hv
    ·cases hv
   refine q0g rfl rfl Tryz.underlying22 d0y rfl rfl (hp1'.drew) hrp (i0A _) (by rw [a0F, List.length_replicate]; omega) ?_
   intro w2 hp2' hf2 hz2
   have hmin : min p (136 - k) = p := by omega
   have hrl : (r.take p).length = p := by rw [List.length_take, hr1.len]; omega
   rw [hmin, List.take_of_length_le (by rw [a0F, hrl]; exact Nat.le_refl _), u0R k p _ hrl hp2] at hp2'
   have hg2 := hg1.drew.keep hf2 (fun (h : g = gp) => by omega)
   have hr2 : RdB w2 a m r := hr1.keep ((Fr.refl (One gp) w1).drew.trans hf2 (fun _ _ t => t)) hra0
   have hfr2 : Fr (One g) w w2 := (hfr1.drew).new hf2 hpw
   have hgp2 := hp2'.lt
   clear hp1' hg1 hr1 hc1 hfr1 hf2 hz2 hrp e1 e2 hmin
   go_wp2_with fail
   have hc2 : w2.cell? ⟨g, 25, none⟩ = some (.int .i64 (k : Int)) := hg2.cell (i0d (S, k) HS.out)
   have e3 : ∀ wx, (Instr.sliceAt 241 (.pointer (some ⟨gp, 0, none⟩)) none (some (.int .i64 ((k : Int) + (p : Int)))) none).run Tryz.prog wx = .ok (.slice (some ⟨gp, 0, none⟩) (k + p) 136) wx := fun wx =>
    d0V wx Tryz.underlying241 d0y gp 0 .i64 (k + p) hp2
   have e4 : IntKind.i64.wrap ((k : Int) + (p : Int)) = (k : Int) + (p : Int) := IntWalk.i64_in _ (by omega)
   refine wp_region_still_tail 10 (by kernel_rfl) (by kernel_rfl) ?_
   simp only [List.take_succ_cons, List.take_zero, List.drop_succ_cons, List.drop_zero]
   repeat still_step
   refine wpStill_nil ?_
   show wpList _ _ _ _ _ w2.drew
   go_wp2_with fail
   have hrd : RdB w2.drew (some ⟨gp, 0, none⟩) (k + p) (List.replicate k 0 ++ r.take p) := by
    have := Rd.ofHas hp2'.drew 0 (n := k + p) (by rw [a0F, List.length_append, List.length_append, List.length_replicate, List.length_replicate, hrl]; omega)
    rw [List.drop_zero, e0j, List.take_left' (by simp [hrl])] at this
    exact this
   refine (s0c g S [.int .i64 (k : Int)] 234 _ (k + p) _ _ _ HS.out (by omega) hg2.drew hrd (fun x hx (e : x.block = g) => by simp only [Option.some.injEq] at hx; subst hx; simp at e; omega)).mono ?_
   rintro e w3 ⟨rfl, hg3, hf3, hz3⟩
   have hxb : f0Q S (List.replicate k 0 ++ r.take p) (k + p) = c0u S k (r.take p) := by
    have := i0W S k (r.take p) []
    rwa [List.append_nil, hrl] at this
   rw [hxb] at hg3
   have hr3 : RdB w3 a m r := hr2.keep ((Fr.refl (One g) w2).drew.trans hf3 (fun _ _ t => t)) hoa
   have hfr3 : Fr (One g) w w3 := hfr2.drew.trans hf3 (fun _ _ t => t)
   have hSl : (c0u S k (r.take p)).length = 25 := by rw [h0Z, HS.out]
   have hfeed : d0s (d0s (S, k) (r.take p)) (r.drop p) = d0s st l := by rw [← d0o, List.take_append_drop]; exact HF.out
   clear hg2 hr2 hfr2 hp2' hgp2 hc2 e3 e4 hrd hf3 hz3 hxb
   have hc3 : w3.cell? ⟨g, 25, none⟩ = some (.int .i64 (k : Int)) := hg3.cell (i0d (_, k) hSl)
   have hf3 : w3.frozen? ⟨g, 25, none⟩ = false := hg3.free _ (by rw [List.length_append, a0J, hSl]; simp)
   generalize hxs : c0u S k (r.take p) = S3 at *
   have HXS := qH hxs; clear hxs
   have HFE := qH hfeed; clear hfeed
   have HSL := qH hSl; clear hSl
   have HRL := qH hrl; clear hrl
   go_wp2_with (with_reducible refine wSk 47 ?_)
   refine h0i rfl rfl Tryz.underlying22 d0y rfl p m ⟨_, rfl⟩ rfl hp1 hcc ?_
   have hg4 : Has (w3.setCell ⟨g, 25, none⟩ (.int .i64 ((k + p : Nat) : Int))) g (abs (S3, k + p)) 234 := by
    have := hg3.set 25 (.int .i64 ((k + p : Nat) : Int))
    rw [show ws S3 ++ [Value.int .i64 (k : Int)] = abs (S3, k) from rfl, s0q _ _ _ HSL.out] at this
    exact this
   have hr4 : RdB (w3.setCell ⟨g, 25, none⟩ (.int .i64 ((k + p : Nat) : Int))) (d0q a p cc) (m - p) (r.drop p) := by
    have h1 := hr3.keep ((Fr.refl (One g) w3).setCell g 25 none (.int .i64 ((k + p : Nat) : Int)) (fun _ => rfl)) hoa
    have h2 := j0m h1 p m cc hp1 hcc (Nat.le_refl _)
    rw [m0c, e0j] at h2
    rwa [List.take_of_length_le (by rw [List.length_drop, h1.len]; exact Nat.le_refl _)] at h2
   have hfr4 : Fr (One g) w (w3.setCell ⟨g, 25, none⟩ (.int .i64 ((k + p : Nat) : Int))) := hfr3.setCell g 25 none _ (fun _ => rfl)
   have hoff4 := q0l hoa p cc
   have hsp : Value.int .i64 ((k : Int) + (p : Int)) = .int .i64 ((k + p : Nat) : Int) := by simp
   simp only [Int.natCast_add] at hg4 hr4 hfr4
   generalize w3.setCell ⟨g, 25, none⟩ (.int .i64 ((k : Int) + (p : Int))) = w4 at *
   clear hsp hg3 hr3 hfr3 hc3 hf3
   by_cases hfull : k + p = 136
   ·have hfb : ((k : Int) + (p : Int) == 136) = true := by rw [beq_iff_eq]; omega
    have HFULL := qH hfull; clear hfull
    have hc4 : w4.cell? ⟨g, 25, none⟩ = some (.int .i64 ((k : Int) + (p : Int))) := hg4.cell (i0d (S3, k + p) HSL.out)
    go_wp2_with fail
    refine (f0f g S3 (k + p) _ HSL.out hg4).mono ?_
    rintro e w5 ⟨rfl, hg5', hf5⟩
    have hr5 := hr4.keep hf5 hoff4
    have hfr5 : Fr (One g) w w5 := hfr4.trans hf5 (fun _ _ t => t)
    have hpl : (b0S S3).length = 25 := by rw [f0S, HSL.out]
    have hc5 : w5.cell? ⟨g, 25, none⟩ = some (.int .i64 ((k + p : Nat) : Int)) := hg5'.cell (i0d (_, k + p) hpl)
    have hf5f : w5.frozen? ⟨g, 25, none⟩ = false := hg5'.free _ (by rw [s0p]; simp only; omega)
    clear hg4 hr4 hfr4 hc4 hf5
    have HPL := qH hpl; clear hpl
    go_wp2_with fail
    go_roundw
    case rel =>
     have e : d0s (S, k) (r.take p) = (b0S S3, 0) := by rw [i0a _ _ _ (by rw [HRL.out]; exact HFULL.out) hkj, HXS.out]
     have h2 := HFE.out
     rw [e] at h2
     have hg6 := hg5'.set 25 (.int .i64 ((0 : Nat) : Int))
     rw [s0q _ _ _ HPL.out] at hg6
     exact ⟨(b0S S3, 0), r.drop p, m - p, d0q a p cc, cc - p, rfl, by omega, by omega, hr5.keep ((Fr.refl (One g) w5).setCell g 25 none _ (fun _ => rfl)) hoff4, hoff4, hg6, by simp, HPL.out, h2, hfr5.setCell g 25 none _ (fun _ => rfl)⟩
    case measure => have := HP.out; simp [lenV]; omega
   ·have hfb : ((k : Int) + (p : Int) == 136) = false := by rw [beq_eq_false_iff_ne]; omega
    have hc4 : w4.cell? ⟨g, 25, none⟩ = some (.int .i64 ((k : Int) + (p : Int))) := hg4.cell (i0d (S3, k + p) HSL.out)
    have hlt136 : k + p < 136 := by omega
    go_wp2_with fail
    go_roundw
    case rel =>
     have e : d0s (S, k) (r.take p) = (S3, k + p) := by rw [p0L _ _ _ (by rw [HRL.out]; exact hlt136), HXS.out, HRL.out]
     have h2 := HFE.out
     rw [e] at h2
     exact ⟨(S3, k + p), r.drop p, m - p, d0q a p cc, cc - p, rfl, by omega, by omega, hr4, hoff4, hg4, hlt136, HSL.out, h2, hfr4⟩
    case measure => have := HP.out; simp [lenV]; omega
  ·have hge : ¬ 0 < m := hlt
   have hm0 : m = 0 := by omega
   have hr0 : r = [] := List.eq_nil_of_length_eq_zero (by rw [hra.len, hm0])
   have HR := qH hr0; clear hr0 hm0
   go_wp2_with fail
   go_end0
   have h2 := HF.out
   rw [HR.out, h0b] at h2
   exact ⟨rfl, by rw [← h2]; exact hgj, hf⟩
end Go.Proofs.YtemcankmggmgoaaGreat
namespace Mvp
theorem s0s (l : List UInt8) : ∀ (S : List UInt64) (k : Nat), k < 136 → (d0s (S, k) l).2 = (k + l.length) % 136 := by
 induction l with
 | nil => intro S k h; simp [h0b]; omega
 | cons x l ih =>
  intro S k h
  rw [d0N, l0D]
  split
  ·rename_i h1
   simp only at h1
   rw [ih _ _ (by omega), List.length_cons]; omega
  ·rename_i h1
   simp only at h1
   rw [ih _ _ (by omega), List.length_cons]
   congr 1; omega
def d0O (l : List UInt8) (e : UInt8) : List UInt8 := l ++ o0y (l.length % 136) e
theorem i0Y (l : List UInt8) (e : UInt8) : (d0O l e).length = l.length + (136 - l.length % 136) := by
 rw [d0O, List.length_append, o0z _ _ (Nat.mod_lt _ (by decide))]
theorem p0N (l : List UInt8) (e : UInt8) : (d0O l e).length % 136 = 0 := by
 rw [i0Y]; omega
theorem s0t (l : List UInt8) (e : UInt8) (m : Nat) (hm : m = 135 - l.length % 136) : (l ++ e :: List.replicate m 0).set (l.length + m) (bx ((l ++ e :: List.replicate m 0).getD (l.length + m) 0) 0x80) = d0O l e := by
 subst hm
 have h2 : (l ++ e :: List.replicate (135 - l.length % 136) 0).getD (l.length + (135 - l.length % 136)) 0 = (e :: List.replicate (135 - l.length % 136) 0).getD (135 - l.length % 136) 0 := by
  rw [List.getD_eq_getElem?_getD, List.getD_eq_getElem?_getD, List.getElem?_append_right (by omega), Nat.add_sub_cancel_left]
 rw [h2, List.set_append_right _ _ (by omega), Nat.add_sub_cancel_left]
 rfl
theorem l0I (l : List UInt8) (e : UInt8) : i0x (d0s (a0D, 0) l) e = (d0s (a0D, 0) (d0O l e)).1 := by
 rw [i0x, d0O, d0o, s0s _ _ _ (by decide), Nat.zero_add]
def d0P (p : List UInt8) (i : Nat) : List UInt64 := (d0s (a0D, 0) (p.take i)).1
theorem p0O (p : List UInt8) (i : Nat) : (d0P p i).length = 25 := by rw [d0P, h0c]; rfl
theorem n0f (p : List UInt8) : d0P p 0 = a0D := by rw [d0P, List.take_zero, h0b]
theorem p0P (l : List UInt8) (e : UInt8) (i : Nat) (h : (d0O l e).length ≤ i) : d0P (d0O l e) i = i0x (d0s (a0D, 0) l) e := by
 rw [d0P, List.take_of_length_le h, l0I]
theorem n0g (p : List UInt8) (i : Nat) (hi : i % 136 = 0) (h : i + 136 ≤ p.length) : d0P p (i + 136) = b0S (c0u (d0P p i) 0 ((p.drop i).take 136)) := by
 have hl : (p.take i).length = i := by rw [List.length_take]; omega
 have h2 : (d0s (a0D, 0) (p.take i)).2 = 0 := by rw [s0s _ _ _ (by decide), hl]; omega
 have hm : ((p.drop i).take 136).length = 136 := by rw [List.length_take, List.length_drop]; omega
 have h3 : d0s (a0D, 0) (p.take i) = (d0P p i, 0) := Prod.ext rfl h2
 rw [d0P, List.take_add, d0o, h3, i0a _ _ _ (by rw [hm]) (by decide)]
def addB (b p : List UInt8) : Nat → List UInt8
 | 0 => b
 | j + 1 => (addB b p j).set j (bx ((addB b p j).getD j 0) (p.getD j 0))
theorem l0J (b p : List UInt8) : addB b p 0 = b := rfl
theorem i0f (b p : List UInt8) (j : Nat) : addB b p (j + 1) = (addB b p j).set j (bx ((addB b p j).getD j 0) (p.getD j 0)) := rfl
theorem h0d (b p : List UInt8) (j : Nat) : (addB b p j).length = b.length := by
 induction j with
 | zero => rfl
 | succ j ih => rw [i0f, List.length_set, ih]
theorem u0S (b p : List UInt8) (j : Nat) (hj : j ≤ b.length) (i : Nat) (hi : i < b.length) : (addB b p j).getD i 0 = if i < j then bx (b.getD i 0) (p.getD i 0) else b.getD i 0 := by
 induction j generalizing i with
 | zero => simp [l0J]
 | succ j ih =>
  rw [i0f, List.getD_eq_getElem?_getD, List.getElem?_set]
  by_cases e : j = i
  ·subst e
   rw [if_pos rfl, if_pos (by rw [h0d]; omega), if_pos (by omega), ih (by omega) j (by omega), if_neg (by omega)]
   rfl
  ·rw [if_neg e, ← List.getD_eq_getElem?_getD, ih (by omega) i hi]
   by_cases h1 : i < j
   ·rw [if_pos h1, if_pos (by omega)]
   ·rw [if_neg h1, if_neg (by omega)]
theorem u0T (S : List UInt64) (hS : S.length = 25) (p : List UInt8) (hp : 136 ≤ p.length) : e0h (addB (toB S 200) p 136) = toB (b0S (c0u S 0 (p.take 136))) 200 := by
 have hl : (p.take 136).length = 136 := by rw [List.length_take]; omega
 unfold e0h
 rw [o0A S hS (p.take 136) _ (by omega) (by rw [h0d, b0e]) (fun i hi => ?_)]
 rw [u0S _ _ _ (by rw [b0e]; omega) i (by rw [b0e]; omega), s0o _ _ _ hi, hl]
 by_cases h : i < 136
 ·rw [if_pos h, if_pos h]
  congr 1
  simp only [List.getD_eq_getElem?_getD, List.getElem?_take, if_pos h]
 ·rw [if_neg h, if_neg h]
theorem u0U (S : List UInt64) (hS : S.length = 25) : e0h (toB S 200) = toB (b0S S) 200 := by
 unfold e0h
 rw [o0A S hS [] _ (by simp) (by rw [b0e]) (fun i hi => by rw [s0o _ _ _ hi]; simp)]
 rfl
theorem u0V (S : List UInt64) : (toB S 200).take 136 = toB S 136 := by
 unfold toB
 rw [← List.map_take, List.take_range, Nat.min_eq_left (by omega)]
theorem s0u : toB a0D 200 = List.replicate 200 0 := by
 have key : ∀ n, toB a0D n = List.replicate n 0 := by
  intro n
  refine List.eq_replicate_iff.2 ⟨b0e _ _, fun x hx => ?_⟩
  unfold toB at hx
  obtain ⟨i, _, rfl⟩ := List.mem_map.1 hx
  exact i0c i
 exact key 200
end Mvp
namespace Go.Proofs.YtemcankmggmgoaaGreat
section
open Go.RowKit Go.Mv Mvp
attribute [local irreducible] b0S c0t toB a0z a0T b0T e0h
theorem p0Q (l : List UInt8) (e : UInt8) (m : Nat) : bs (l ++ e :: List.replicate m 0) ++ bs [0] = bs (l ++ e :: List.replicate (m + 1) 0) := by
 rw [← d0d, List.replicate_succ']; simp
theorem Rd.take {w : World} {a : Option Addr} {n : Nat} {vs : List Value} (h : Rd w a n vs) (p : Nat) (hp : p ≤ n) : Rd w a p (vs.take p) := by
 refine ⟨by rw [List.length_take, h.len]; omega, h.2.imp (fun h0 => by omega) ?_⟩
 rintro ⟨b, o, rfl, hc⟩
 refine ⟨b, o, rfl, fun i v hv => ?_⟩
 rw [List.getElem?_take] at hv
 split at hv
 ·exact hc i v hv
 ·cases hv
theorem e0K (l m : List UInt8) : mkS l ++ mkS m = mkS (l ++ m) := by
 apply ByteArray.ext
 simp [mkS]
theorem n0h (l : List UInt8) (n : Nat) : (mkS l).extract 0 n = mkS (l.take n) := by
 apply ByteArray.ext
 simp [mkS]
theorem k0i (S : List UInt64) : a0T S 0 = [] := by unfold a0T; rfl
theorem n0i (S : List UInt64) : b0T S 0 = S := by unfold b0T; rfl
def w0g : Value → Nat
 | .string s => s.size
 | _ => 0
theorem p0R (n j : Nat) : 136 * j < n ↔ j < e0A n := by unfold e0A; omega
theorem n0j (s : ByteArray) (e : UInt8) (n : Nat) (w : World) (hs : s.size ≤ 1000000) (hn : n ≤ 20000) :
  Calls Tryz.prog 176 #[.string s, .int .u8 (e.toNat : Int), .int .i64 (n : Int)] w fun r w' => r = .returned (.string (mkS (c0a s.data.toList e n))) ∧ Fr Nob w w' := by
 obtain ⟨l, rfl⟩ : ∃ l, s = mkS l := ⟨_, (g0K s).symm⟩
 rw [a0Q] at hs
 rw [b0n]
 go_enter Tryz.func176, Tryz.ntmps176
 go_wp2_with (with_reducible refine wSk 13 ?_)
 refine f0k rfl rfl Tryz.underlying9 Tryz.underlying22 Tryz.underlying5 rfl (by rw [a0Q]; unfold maxLen; omega) w.heap.size (Nat.le_refl _) ?_
 intro cap w1 hown1 hf1 hz1
 rw [b0n, a0Q] at hown1
 rw [a0Q]
 go_wp2_with (with_reducible refine wSk 15 ?_)
 refine v0B rfl rfl Tryz.underlying22 b0u e rfl ?_
 intro w2 hg2 hf2 hz2
 have hown2 := hown1.still hf2
 have hfr2 := hf1.then hf2
 generalize w1.heap.size = g1 at *
 clear hown1 hf1 hf2 hz2 hz1
 go_wp2_with (with_reducible refine wSk 16 ?_)
 refine e0k rfl rfl Tryz.underlying22 b0u rfl (by decide) hown2 rfl rfl (Rd.whole hg2) (i0A _) (by simp [maxLen]; omega) (by simp; omega) hfr2.size ?_
 intro v3 w3 hown3 hf3 hb3
 have hfr3 : Fr Nob w w3 := hown2.fr hfr2 (Nat.le_refl _) hf3
 clear hown2 hfr2 hg2 hf3 hb3
 go_wp2_with fail
 go_loopw [7] (fun v wr => ∃ m, m ≤ 135 - l.length % 136 ∧ Own wr w.heap.size 5 1 v (l.length + 1 + m) (bs (l ++ e :: List.replicate m 0)) ∧ Fr Nob w wr) (fun v _ => l.length + 136 - lenV v)
 case atStart => exact ⟨0, Nat.zero_le _, by simpa [bs] using hown3, hfr3⟩
 case round =>
  obtain ⟨m, hm, hown, hf⟩ := hrel
  clear hown3 hfr3
  obtain ⟨a, c, rfl, hc, hrd, hna⟩ := hown.form
  have hmod := Nat.mod_lt l.length (show 0 < 136 by decide)
  by_cases hlt : (l.length + 1 + m) % 136 = 0
  ·have hb : (((l.length : Int) + 1 + (m : Int)) % 136 != 0) = false := by simp; omega
   have hmk : m = 135 - l.length % 136 := by omega
   have HMK := qH hmk; clear hmk
   have HMOD := qH hmod; clear hmod
   have HLT := qH hlt; clear hlt
   obtain ⟨gp, op, cp, hv, hgp, hgp2, hcp, hcm, hget, hfree, hput⟩ := hown.cells (by omega)
   simp only [Value.slice.injEq] at hv
   obtain ⟨rfl, -, rfl⟩ := hv
   have hlen : (l ++ e :: List.replicate m 0).length = l.length + 1 + m := by simp; omega
   have hcl : wr.cell? ⟨gp, op + (l.length + m), none⟩ = some (.int .u8 (((l ++ e :: List.replicate m 0).getD (l.length + m) 0).toNat : Int)) := hget _ _ (n0p _ _ (by omega))
   have hfl := hfree (l.length + m) (by omega)
   have hput2 := hput (l.length + m)
   clear hget hfree hput hrd hna
   generalize hy : (l ++ e :: List.replicate m 0).getD (l.length + m) 0 = y at hcl
   have HY := qH hy; clear hy
   have hbx : bits BinOp.xor IntKind.u8 (y.toNat : Int) 128 = ((bx y 128).toNat : Int) := j0l y 128
   go_wp2_with (with_reducible refine wSk 36 ?_)
   have hown4 := hput2 (.int .u8 ((bx y 0x80).toNat : Int)) (by omega)
   rw [f0i, ← HY.out, s0t l e m HMK.out] at hown4
   rw [HY.out] at hown4
   have hfr4 : Fr Nob w (wr.setCell ⟨gp, op + (l.length + m), none⟩ (.int .u8 ((bx y 128).toNat : Int))) := hf.setCell gp _ none _ (fun h => by omega)
   have hgp4 : gp < (wr.setCell ⟨gp, op + (l.length + m), none⟩ (.int .u8 ((bx y 128).toNat : Int))).heap.size := by simpa using hgp2
   generalize wr.setCell ⟨gp, op + (l.length + m), none⟩ (.int .u8 ((bx y 128).toNat : Int)) = w4 at *
   have hpl := i0Y l e
   have hpm := p0N l e
   have hpe := p0P l e
   have hN : l.length + 1 + m = (d0O l e).length := by rw [hpl, HMK.out]; have := HMOD.out; omega
   have hpb : (d0O l e).length ≤ 1000136 := by rw [hpl]; omega
   rw [hN] at hown4 ⊢
   have hrd4 : RdB w4 (some ⟨gp, op, none⟩) (d0O l e).length (d0O l e) := by
    obtain ⟨a, cc, hv, _, hr, _⟩ := hown4.form
    cases hv
    rw [Nat.mul_one] at hr; exact hr
   clear hown hown4 hf hgp2 hput2 hcl hfl hbx HY hlen hpl hb HLT hc hcm hcp HMK
   generalize hP : d0O l e = P at *
   have HP := qH hP; clear hP
   refine c0m rfl rfl Tryz.underlying22 b0u rfl rfl rfl 200 200 (by simp) (by simp) (by omega) (by omega) (by unfold maxLen; omega) ?_
   intro w5 hg5 hf5 hz5
   have hs5 : Own w5 w4.heap.size 5 1 (.slice (some ⟨w4.heap.size, 0, none⟩) 200 200) 200 (bs (toB a0D 200)) := by
    rw [s0u]
    have := Own.made hg5 w4.heap.size (Nat.le_refl _) 1 200 200 (Nat.le_refl _) (by unfold maxLen; omega) (by simp)
    rw [List.take_of_length_le (by simp)] at this
    exact this
   have hrd5 := hrd4.still hf5
   have hfr5 := hfr4.then hf5
   have hb5 : w4.heap.size ≤ w5.heap.size := hf5.size
   have hwb : w.heap.size ≤ w4.heap.size := hfr4.size
   generalize w4.heap.size = b5 at *
   clear hg5 hf5 hz5 hrd4 hfr4
   go_wp2_with fail
   go_loopw [9, 8] (fun i v wr => ∃ I : Nat, I ≤ P.length ∧ I % 136 = 0 ∧ i = .int .i64 (I : Int) ∧ Own wr b5 5 1 v 200 (bs (toB (d0P P I) 200)) ∧ RdB wr (some ⟨gp, op, none⟩) P.length P ∧ b5 ≤ wr.heap.size ∧ Fr Nob w wr) (fun i _ _ => (P.length - intOf i).toNat)
   case atStart => exact ⟨0, by omega, rfl, rfl, by rw [n0f]; exact hs5, hrd5, hb5, hfr5⟩
   case round =>
    obtain ⟨I, hk, hI, rfl, hst, hrdk, hbk, hfk⟩ := hrel
    clear hs5 hrd5 hb5 hfr5
    have hSl := p0O P I
    by_cases hlt : I < P.length
    ·have hltI : (I : Int) < (P.length : Int) := by omega
     have hk2 : I + 136 ≤ P.length := by omega
     have hsucc := n0g P I hI hk2
     generalize hS0 : d0P P I = S at *
     have HS0 := qH hS0; clear hS0
     have HI := qH hI; clear hI
     have HSU := qH hsucc; clear hsucc
     have HSL := qH hSl; clear hSl
     have HPE := qH hpe; clear hpe
     have HPM := qH hpm; clear hpm
     obtain ⟨gs, os, cs, rfl, hgs, hgs2, hcs, hcm, -, -, -⟩ := hst.cells (by omega)
     obtain ⟨wo, rfl⟩ : ∃ wo : World, wo = wr := ⟨_, rfl⟩
     go_wp2_with fail
     go_loopw [10] (fun j wr => ∃ jn : Nat, jn ≤ 136 ∧ j = .int .i64 (jn : Int) ∧ Own wr b5 5 1 (.slice (some ⟨gs, os, none⟩) 200 cs) 200 (bs (addB (toB S 200) (P.drop I) jn)) ∧ RdB wr (some ⟨gp, op, none⟩) P.length P ∧ b5 ≤ wr.heap.size ∧ Fr Nob w wr) (fun j _ => (136 - intOf j).toNat)
     case atStart => exact ⟨0, by omega, rfl, by rw [l0J]; exact hst, hrdk, hbk, hfk⟩
     case round =>
      obtain ⟨j, hj, rfl, hsj, hrdj, hbj, hfj⟩ := hrel
      clear hst hrdk hbk hfk
      by_cases hjlt : j < 136
      ·have hjI : (j : Int) < 136 := by omega
       obtain ⟨gs', os', cs', hv, -, hgs3, -, -, hget, hfree, hput⟩ := hsj.cells (by omega)
       simp only [Value.slice.injEq, Option.some.injEq, Addr.mk.injEq] at hv
       obtain ⟨⟨rfl, rfl, -⟩, -, rfl⟩ := hv
       have hc1 : wr.cell? ⟨gs, os + j, none⟩ = some (.int .u8 (((addB (toB S 200) (P.drop I) j).getD j 0).toNat : Int)) := hget _ _ (n0p _ _ (by rw [h0d, b0e]; omega))
       have hf1 := hfree j (by omega)
       have hput1 := hput j
       have hc2 : wr.cell? ⟨gp, op + (I + j), none⟩ = some (.int .u8 ((P.getD (I + j) 0).toNat : Int)) := by
        obtain ⟨b, o, he, hh⟩ := hrdj.at (by omega)
        simp only [Option.some.injEq, Addr.mk.injEq] at he
        obtain ⟨rfl, rfl, -⟩ := he
        exact hh _ (by omega)
       clear hget hfree hput
       generalize hx : (addB (toB S 200) (P.drop I) j).getD j 0 = x at hc1
       generalize hy : P.getD (I + j) 0 = y at hc2
       have HX := qH hx; clear hx
       have HY := qH hy; clear hy
       go_wp2_with fail
       try go_region
       all_goals go_wp2
       go_roundw
       case rel =>
        have e : (P.drop I).getD j 0 = y := by
         rw [← HY.out]; simp [List.getD_eq_getElem?_getD, List.getElem?_drop]
        have h1 := hput1 (.int .u8 ((bx x y).toNat : Int)) (by omega)
        rw [f0i, ← HX.out, ← e, ← i0f] at h1
        rw [HX.out, e] at h1
        refine ⟨j + 1, by omega, by go_num, h1, ?_, ?_, ?_⟩
        ·exact hrdj.keep ((Fr.refl (One gs) wr).setCell gs _ none _ (fun _ => rfl)).drew (fun a ha (hh : a.block = gs) => by simp only [Option.some.injEq] at ha; subst ha; simp at hh; omega)
        ·simpa using hbj
        ·exact (hfj.setCell gs _ none _ (fun h => by omega)).drew
       case measure => simp [intOf]; omega
      ·have hge : ¬ ((j : Int) < 136) := by omega
       have hj136 : j = 136 := by omega
       have HJ := qH hj136; clear hj136
       go_wp2_with (with_reducible refine wSk 62 ?_)
       have hrs : RdB wr (some ⟨gs, os, none⟩) 200 (addB (toB S 200) (P.drop I) 136) := by
        obtain ⟨a, cc, hv, _, hr, _⟩ := hsj.form
        cases hv
        rw [HJ.out, Nat.mul_one] at hr; exact hr
       refine c0F rfl rfl Tryz.underlying22 Tryz.underlying5 Tryz.underlying9 rfl hrs ?_
       go_wp2_with fail
       refine (g0C (mkS (addB (toB S 200) (P.drop I) 136)) _ (by rw [a0Q, h0d, b0e])).mono ?_
       rintro e' w6 ⟨rfl, hf6⟩
       rw [b0n, u0T S HSL.out _ (by rw [List.length_drop]; omega), ← HSU.out]
       have hb6 : b5 ≤ w6.heap.size := Nat.le_trans hbj hf6.size
       go_wp2_with (with_reducible refine wSk 64 ?_)
       refine f0k rfl rfl Tryz.underlying9 Tryz.underlying22 Tryz.underlying5 rfl (by rw [a0Q, b0e]; unfold maxLen; omega) b5 hb6 ?_
       intro c7 w7 hs7 hf7 hz7
       rw [b0n, a0Q, b0e] at hs7
       rw [a0Q, b0e]
       have hf67 := hf6.then hf7
       have hrd7 := hrdj.still hf67
       have hfr7 := hfj.then hf67
       have hb7 : b5 ≤ w7.heap.size := Nat.le_trans hb6 hf7.size
       generalize w6.heap.size = g6 at *
       clear hsj hrdj hfj hrs hf6 hf7 hz7 hf67
       go_wp2_with fail
       go_roundw
       case rel => exact ⟨I + 136, by omega, by have := HI.out; omega, by go_num, hs7, hrd7, hb7, hfr7⟩
       case measure => simp [intOf]; omega
    ·have hge : ¬ ((I : Int) < (P.length : Int)) := by omega
     have hend : d0P P I = i0x (d0s (a0D, 0) l) e := hpe I (by omega)
     rw [hend] at hst hSl
     clear hpe hend
     generalize hE : i0x (d0s (a0D, 0) l) e = S0 at *
     have HE := qH hE; clear hE
     have HPM := qH hpm; clear hpm
     clear hrdk
     go_wp2_with fail
     go_loopw [11, 8] (fun o v wr => ∃ j : Nat, j ≤ e0A n ∧ o = .string (mkS (a0T S0 j)) ∧ Own wr b5 5 1 v 200 (bs (toB (b0T S0 j) 200)) ∧ b5 ≤ wr.heap.size ∧ Fr Nob w wr) (fun o _ _ => n - w0g o)
     case atStart => exact ⟨0, Nat.zero_le _, by rw [k0i]; rfl, by rw [n0i]; exact hst, hbk, hfk⟩
     case round =>
      obtain ⟨j, hj, rfl, hsj, hbj, hfj⟩ := hrel
      clear hst hbk hfk
      have hpi := p0R n j
      have hql : (mkS (a0T S0 j)).size = 136 * j := by rw [a0Q, f0e]
      generalize hq : mkS (a0T S0 j) = q at *
      have HQ := qH hq; clear hq
      by_cases hlt : 136 * j < n
      ·have hltI : (q.size : Int) < (n : Int) := by omega
       have hj1 := hpi.1 hlt
       have HPI := qH hpi; clear hpi
       have HQL := qH hql; clear hql
       have HLT := qH hlt; clear hlt
       have HSL := qH hSl; clear hSl
       obtain ⟨a, cc, rfl, hcc, hrs, hna⟩ := hsj.form
       have e1 : ∀ wx, (Instr.sliceAt 22 (.slice a 200 cc) none (some (.int .i64 136)) none).run Tryz.prog wx = .ok (.slice a 136 cc) wx := fun wx => e0p wx Tryz.underlying22 d0y a 200 cc .i64 136 (by omega)
       go_wp2_with (with_reducible refine wSk 72 ?_)
       have hrs2 : RdB wr a 136 (toB (b0T S0 j) 136) := by
        have h2 := hrs
        rw [Nat.mul_one] at h2
        have h3 := Rd.take h2 136 (by omega)
        rwa [e0j, u0V] at h3
       have hrs3 : RdB wr a 200 (toB (b0T S0 j) 200) := by
        rw [Nat.mul_one] at hrs; exact hrs
       clear hrs hna
       have hcat : ¬ 9223372036854775807 < q.size + (mkS (toB (b0T S0 j) 136)).size := by have := HLT.out; rw [a0Q, b0e, HQL.out]; omega
       refine c0F rfl rfl Tryz.underlying22 Tryz.underlying5 Tryz.underlying9 rfl hrs2 ?_
       go_wp2_with (with_reducible refine wSk 75 ?_)
       have hqq : q ++ mkS (toB (b0T S0 j) 136) = mkS (a0T S0 (j + 1)) := by rw [← HQ.out, e0K, ← g0D]
       rw [hqq]
       refine c0F rfl rfl Tryz.underlying22 Tryz.underlying5 Tryz.underlying9 rfl hrs3 ?_
       clear hcat
       go_wp2_with fail
       refine (g0C (mkS (toB (b0T S0 j) 200)) _ (by rw [a0Q, b0e])).mono ?_
       rintro e' w6 ⟨rfl, hf6⟩
       rw [b0n, u0U _ (by rw [l0F, HSL.out]), ← i0X]
       have hb6 : b5 ≤ w6.heap.size := Nat.le_trans hbj hf6.size
       go_wp2_with (with_reducible refine wSk 77 ?_)
       refine f0k rfl rfl Tryz.underlying9 Tryz.underlying22 Tryz.underlying5 rfl (by rw [a0Q, b0e]; unfold maxLen; omega) b5 hb6 ?_
       intro c7 w7 hs7 hf7 hz7
       rw [b0n, a0Q, b0e] at hs7
       rw [a0Q, b0e]
       have hf67 := hf6.then hf7
       have hfr7 := hfj.then hf67
       have hb7 : b5 ≤ w7.heap.size := Nat.le_trans hb6 hf7.size
       generalize w6.heap.size = g6 at *
       clear hsj hfj hrs2 hrs3 hf6 hf7 hz7 hf67
       go_wp2_with fail
       go_roundw
       case rel => exact ⟨j + 1, hj1, rfl, hs7, hb7, hfr7⟩
       case measure =>
        have h1 := HLT.out; have h2 := HQL.out
        have h3 : (mkS (a0T S0 (j + 1))).size = 136 * (j + 1) := by rw [a0Q, f0e]
        simp [w0g, h3]; omega
      ·have hge : ¬ ((q.size : Int) < (n : Int)) := by omega
       have hjp : j = e0A n := by have := hpi.2; omega
       have HJP := qH hjp; clear hjp
       go_wp2_with fail
       go_ret
       refine ⟨?_, hfj⟩
       rw [← HQ.out, HJP.out, n0h]
       unfold c0a x0V
       rw [HE.out]
       rfl
  ·have hb : (((l.length : Int) + 1 + (m : Int)) % 136 != 0) = true := by simp; omega
   go_wp2_with (with_reducible refine wSk 22 ?_)
   refine v0B rfl rfl Tryz.underlying22 b0u 0 rfl ?_
   intro w2 hg2 hf2 hz2
   have hown2 := hown.still hf2
   have hfr2 := hf.then hf2
   generalize wr.heap.size = g2 at *
   clear hown hf hf2 hz2 hrd hna
   have HMOD := qH hmod; clear hmod
   have HLT := qH hlt; clear hlt
   go_wp2_with (with_reducible refine wSk 23 ?_)
   refine e0k rfl rfl Tryz.underlying22 b0u rfl (by decide) hown2 rfl rfl (Rd.whole hg2) (i0A _) (by simp [maxLen]; omega) (by simp; omega) hfr2.size ?_
   intro v3 w3 hown3 hf3 hb3
   have hfr3 : Fr Nob w w3 := hown2.fr hfr2 (Nat.le_refl _) hf3
   rw [p0Q] at hown3
   clear hown2 hfr2 hg2 hf3 hb3
   go_wp2_with fail
   go_roundw
   case rel => exact ⟨m + 1, by have := HMOD.out; have := HLT.out; omega, hown3, hfr3⟩
   case measure =>
    obtain ⟨a8, c8, rfl, _⟩ := hown3.form
    have := HLT.out; have := HMOD.out
    simp [lenV]; omega
end
section
open Go.RowKit Go.Mv Mvp
theorem l0K (S : List UInt64) : a0T S 0 = [] := by unfold a0T; rfl
theorem p0S (S : List UInt64) : b0T S 0 = S := by unfold b0T; rfl
theorem x0X {w : World} {base : Nat} {T : TypeId} {a : Option Addr} {m c : Nat} {L : List Value} (h : Own w base T 1 (.slice a m c) m L) (n : Nat) (hn : n ≤ m) : Own w base T 1 (.slice a n n) n (L.take n) := by
 obtain ⟨hl, h | ⟨g, o, cap, B, hv, hb, hg, h1, h2, h3, h4⟩⟩ := h
 ·obtain ⟨hv, hm⟩ := h
  cases hv
  have : n = 0 := by omega
  subst this
  exact ⟨by simp, .inl ⟨rfl, rfl⟩⟩
 ·cases hv
  refine ⟨by rw [List.length_take]; omega, .inr ⟨g, o, n, B, rfl, hb, hg, Nat.le_refl _, by omega, by omega, ?_⟩⟩
  rw [← h4, List.take_take]
  congr 1
  omega
attribute [local irreducible] b0S c0t toB a0z a0T b0T
theorem x0Y (k : Nat) (e : UInt8) (h : k < 136) : ((List.replicate 136 (0 : UInt8)).set k e).set 135 (bx (((List.replicate 136 (0 : UInt8)).set k e).getD 135 0) 0x80) = List.replicate k 0 ++ o0y k e := by
 have h1 : (List.replicate 136 (0 : UInt8)).set k e = List.replicate k 0 ++ (e :: List.replicate (135 - k) 0) := by
  have : (List.replicate 136 (0 : UInt8)) = List.replicate k 0 ++ (0 :: List.replicate (135 - k) 0) := by
   rw [← List.replicate_succ, List.replicate_append_replicate]; congr 1; omega
  rw [this, List.set_append_right _ _ (by simp)]
  simp
 have h2 : (List.replicate k 0 ++ (e :: List.replicate (135 - k) 0)).getD 135 0 = (e :: List.replicate (135 - k) 0).getD (135 - k) 0 := by
  rw [List.getD_eq_getElem?_getD, List.getD_eq_getElem?_getD, List.getElem?_append_right (by simp; omega), List.length_replicate]
 rw [h1, h2, List.set_append_right _ _ (by simp; omega)]
 simp only [List.length_replicate, o0y]
theorem s0v (n j : Nat) : 136 * j < n ↔ j < e0A n := by unfold e0A; omega
theorem x0Z (g : Nat) (S : List UInt64) (k : Nat) (e : UInt8) (n : Nat) (w : World) (hS : S.length = 25) (hk : k < 136) (hn : n ≤ 20000) (hg : Has w g (abs (S, k)) 234) :
  Calls Tryz.prog 193 #[.pointer (some ⟨g, 0, none⟩), .int .u8 (e.toNat : Int), .int .i64 (n : Int)] w fun r w' => ∃ v, r = .returned v ∧ Own w' w.heap.size 5 1 v n (bs (x0V (i0x (S, k) e) n)) ∧ Fr (One g) w w' := by
 go_enter Tryz.func193, Tryz.ntmps193
 go_wp2_with (with_reducible refine e0Y (o := ⟨_, .alloc 241, _, _, _, _⟩) ?_)
 refine e0C rfl rfl l0G (bs (List.replicate 136 0)) (by simp [Value.cells]) ?_
 intro w1 hl1 hf1 hz1
 have hg1 := hg.keep hf1 id
 have hgl := hg.lt
 have hfr1 : Fr (One g) w w1 := (Fr.refl (One g) w).same hf1
 have hb0 : w.heap.size ≤ w1.heap.size := hf1.size
 generalize hgl0 : w.heap.size = gl at *
 have HGL := qH hgl0; clear hgl0
 clear hf1 hz1 hg
 have hc25 : w1.cell? ⟨g, 25, none⟩ = some (.int .i64 (k : Int)) := hg1.cell (i0d (S, k) hS)
 obtain ⟨vk, hck, hfk⟩ := hl1.ready (i := k) (by rw [a0F]; simpa using hk)
 have hkI : (k : Int) < 136 := by omega
 go_wp2_with (with_reducible refine wSk 15 ?_)
 have hl2 := hl1.set k (.int .u8 (e.toNat : Int))
 rw [f0i] at hl2
 have hg2 := hg1.other (g' := gl) k none (.int .u8 (e.toNat : Int)) (by omega)
 have hfr2 : Fr (One g) w (w1.setCell ⟨gl, k, none⟩ (.int .u8 (e.toNat : Int))) := hfr1.setCell gl k none _ (fun h => by have := HGL.out; omega)
 have hsz2 : gl < (w1.setCell ⟨gl, k, none⟩ (.int .u8 (e.toNat : Int))).heap.size := hl2.lt
 generalize w1.setCell ⟨gl, k, none⟩ (.int .u8 (e.toNat : Int)) = w2 at *
 clear hl1 hg1 hfr1 hc25 hck hfk hb0
 have hc135 : w2.cell? ⟨gl, 135, none⟩ = some (.int .u8 ((((List.replicate 136 (0 : UInt8)).set k e).getD 135 0).toNat : Int)) := hl2.cell (n0p _ _ (by simp))
 have hf135 : w2.frozen? ⟨gl, 135, none⟩ = false := hl2.free _ (by rw [a0F]; simp)
 generalize hy : ((List.replicate 136 (0 : UInt8)).set k e).getD 135 0 = y at hc135
 have HY := qH hy; clear hy
 show wpList _ _ _ _ _ _
 go_wp2_with fail
 have hbx : bits BinOp.xor IntKind.u8 (y.toNat : Int) 128 = ((bx y 128).toNat : Int) := j0l y 128
 rw [hbx]
 have hl3 := hl2.set 135 (.int .u8 ((bx y 0x80).toNat : Int))
 rw [f0i, ← HY.out, x0Y k e hk] at hl3
 rw [HY.out] at hl3
 have hg3 := hg2.other (g' := gl) 135 none (.int .u8 ((bx y 128).toNat : Int)) (by omega)
 have hfr3 : Fr (One g) w (w2.setCell ⟨gl, 135, none⟩ (.int .u8 ((bx y 128).toNat : Int))) := hfr2.setCell gl 135 none _ (fun h => by have := HGL.out; omega)
 generalize w2.setCell ⟨gl, 135, none⟩ (.int .u8 ((bx y 128).toNat : Int)) = w3 at *
 have hpl : (o0y k e).length = 136 - k := o0z k e hk
 have hne : g ≠ gl := by omega
 clear hl2 hg2 hfr2 hc135 hf135 hbx hsz2 HY
 have e1 : ∀ wx, (Instr.sliceAt 241 (.pointer (some ⟨gl, 0, none⟩)) none none none).run Tryz.prog wx = .ok (.slice (some ⟨gl, 0, none⟩) 136 136) wx := fun wx => i0q wx Tryz.underlying241 d0y gl 0
 refine wp_region_still_tail 4 (by kernel_rfl) (by kernel_rfl) ?_
 simp only [List.take_succ_cons, List.take_zero, List.drop_succ_cons, List.drop_zero]
 repeat still_step
 refine wpStill_nil ?_
 show wpList _ _ _ _ _ w3.drew
 go_wp2_with fail
 have hrd : RdB w3.drew (some ⟨gl, 0, none⟩) 136 (List.replicate k 0 ++ o0y k e) := by
  have := Rd.whole hl3.drew
  rwa [a0F, List.length_append, List.length_replicate, hpl, show k + (136 - k) = 136 by omega] at this
 refine (s0c g S [.int .i64 (k : Int)] 234 _ 136 _ _ _ hS (by omega) hg3.drew hrd (fun x hx (e : x.block = g) => by simp only [Option.some.injEq] at hx; subst hx; simp at e; omega)).mono ?_
 rintro e w4 ⟨rfl, hg4, hf4, hz4⟩
 have hxb : f0Q S (List.replicate k 0 ++ o0y k e) 136 = c0u S k (o0y k e) := by
  have := i0W S k (o0y k e) []
  rwa [List.append_nil, hpl, show k + (136 - k) = 136 by omega] at this
 rw [hxb, i0e] at hg4
 have hfr4 : Fr (One g) w w4 := hfr3.drew.trans hf4 (fun _ _ t => t)
 have hend : i0x (S, k) e = b0S (c0u S k (o0y k e)) := by
  unfold i0x
  rw [i0a _ _ _ (by simp only [hpl]; omega) hk]
 have hxl : (c0u S k (o0y k e)).length = 25 := by rw [h0Z, hS]
 clear hl3 hg3 hfr3 e1 hrd hf4 hz4 hxb hpl
 generalize c0u S k (o0y k e) = X at *
 have HEND := qH hend; clear hend
 go_wp2_with fail
 refine (f0f g X k _ hxl hg4).mono ?_
 rintro e w5 ⟨rfl, hg5, hf5⟩
 have hfr5 : Fr (One g) w w5 := hfr4.trans hf5 (fun _ _ t => t)
 have hS5 : (b0S X).length = 25 := by rw [f0S, hxl]
 generalize b0S X = S0 at *
 clear hg4 hfr4 hf5 hxl hS
 go_wp2_with fail
 go_loopw [8] (fun v wr => ∃ j, j ≤ e0A n ∧ Own wr w.heap.size 5 1 v (136 * j) (bs (a0T S0 j)) ∧ Has wr g (abs (b0T S0 j, k)) 234 ∧ Fr (One g) w wr) (fun v _ => n - lenV v)
 case atStart => exact ⟨0, Nat.zero_le _, by rw [l0K]; exact Own.nil _ _ _ _, by rw [p0S]; exact hg5, hfr5⟩
 case round =>
  obtain ⟨j, hj, hown, hgj, hfj⟩ := hrel
  clear hg5 hfr5
  have hjn := s0v n j
  obtain ⟨a, cap, rfl, hcap, hrdj, hna⟩ := hown.form
  by_cases hlt : 136 * j < n
  ·have hltI : 136 * (j : Int) < (n : Int) := by omega
   have hpj : (b0T S0 j).length = 25 := by rw [l0F, hS5]
   have hjp : j + 1 ≤ e0A n := hjn.1 hlt
   have HJN := qH hjn; clear hjn
   have HLT := qH hlt; clear hlt
   clear hrdj hna
   go_wp2_with fail
   rw [← i0e] at hgj
   refine (s0d g (b0T S0 j) [.int .i64 (k : Int)] 234 136 _ hpj (by omega) hgj).mono ?_
   rintro e w6 ⟨rfl, ht6, hf6, hz6⟩
   have hg6 := hgj.keep hf6 id
   rw [i0e] at hg6
   have hown6 := hown.still hf6
   have hfr6 : Fr (One g) w w6 := hfj.same hf6
   have hwb : w.heap.size ≤ wr.heap.size := hfj.size
   have hgb : g < w.heap.size := by have := HGL.out; omega
   generalize wr.heap.size = gt at *
   clear hgj hown hfj hf6
   go_wp2_with (with_reducible refine wSk 37 ?_)
   have hrd6 : Rd w6 (some ⟨gt, 0, none⟩) (136 * 1) (bs (toB (b0T S0 j) 136)) := by
    have := Rd.whole ht6
    rwa [a0F, b0e] at this
   refine e0k rfl rfl Tryz.underlying22 b0u rfl (by decide) hown6 rfl rfl hrd6 (i0A _) (by unfold maxLen; omega) (by omega) hfr6.size ?_
   intro v7 w7 hown7 hf7 hb7
   have hg7 := hg6.keep hf7 (fun hh => by have := hown6.lt hh; omega)
   have hfr7 : Fr (One g) w w7 := hown6.fr hfr6 (Nat.le_refl _) hf7
   rw [← d0d, ← g0D] at hown7
   clear ht6 hg6 hown6 hfr6 hrd6 hf7 hb7
   go_wp2_with fail
   refine (f0f g _ k _ hpj hg7).mono ?_
   rintro e w8 ⟨rfl, hg8, hf8⟩
   rw [← i0X] at hg8
   have hown8 := hown7.keep hf8 (fun k' hk' (h : k' = g) => by have := hown7.lt hk'; omega)
   have hfr8 : Fr (One g) w w8 := hfr7.trans hf8 (fun _ _ t => t)
   clear hg7 hown7 hfr7 hf8
   go_wp2_with fail
   go_roundw
   case rel => exact ⟨j + 1, hjp, hown8, hg8, hfr8⟩
   case measure =>
    obtain ⟨a8, c8, rfl, _⟩ := hown8.form
    have := HLT.out
    simp [lenV]; omega
  ·have hge : ¬ (136 * (j : Int) < (n : Int)) := by omega
   have hjp : j = e0A n := by have := hjn.2; omega
   have HJP := qH hjp; clear hjp
   have HJN := qH hjn; clear hjn
   have hnc : n ≤ cap := by omega
   have hnI : ¬ (n : Int) < 0 := by omega
   clear hgj
   go_wp2_with (with_reducible refine wSk 45 ?_)
   refine w0B rfl rfl Tryz.underlying22 d0y rfl 0 n n rfl rfl rfl rfl rfl (Nat.zero_le _) (Nat.le_refl _) hnc ?_
   go_wp2_with fail
   go_ret
   rw [q0E]
   refine ⟨_, rfl, ?_, hfj⟩
   have hsq : bs (x0V (i0x (S, k) e) n) = (bs (a0T S0 j)).take n := by
    rw [HEND.out, HJP.out, x0V, e0j]
   rw [hsq]
   exact x0X hown n (by omega)
end
end Go.Proofs.YtemcankmggmgoaaGreat
