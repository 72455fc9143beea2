/- ; ; ; ; ; ; ; ; ; ; ; ; ; ; ; ; ; ; ; ; ; ; ; ; ; ; ; ; . -/
import Derived.Test.YtemcankmggmgoaaGreatMgBlindTrueProof5
import Derived.Test.YtemcankmggmgoaaGreatMgBlindTrueProof4
import Derived.Test.YtemcankmggmgoaaGreatMgBlindTrueProof8
import Derived.Test.YtemcankmggmgoaaGreatMgBlindTrueProof6
import Derived.Test.YtemcankmggmgoaaGreatMgBlindTrueProof1
import Derived.Test.YtemcankmggmgoaaGreatMgBlindTrueProof7
import Derived.Test.YtemcankmggmgoaaGreatMgBlindTrueProof2
import Derived.Lib.SlBytesConst
import Derived.ProofKit
import Derived.OpenShut
import Derived.Carry
set_option maxHeartbeats 16000000
set_option maxRecDepth 1000000

namespace Go.Mv
open Go.RowKit
section
variable {P : Program} {Q : Exit → Act → World → Prop} {Sx : World → Prop} {S : Nat → Prop} {w0 : World} {tl : Pl} {l : List Oper} {i : Nat} {s : List LS} {Γ : List Flt} {BL : List Blk} {R : World → Prop} {A : (Nat → Value) → Act} {o : Oper}
theorem j0n {parts : Array (Nat × Operand)} {ρ : Operand → Value} {M : List (Nat × Value)} (h : (parts.toList.map fun p => (p.1, ρ p.2)) = M) : (parts.map fun (i, x) => (i, ρ x)) = M.toArray := by
 apply Array.toList_inj.1
 rw [Array.toList_map, ← h]
theorem p0a {t e : TypeId} {k : Nat} {M : List (Nat × Value)} (hu : P.underlying t = some (.slice e)) {z : Value} {sz by_ : Nat} (hi0 : (P.info? e).map (fun i => (i.zero, i.size, i.bytes)) = some (some z, sz, by_)) (vs : List Value) (hp : M = (vs.zipIdx 0).map fun x => (x.2, x.1))
  (hv : ∀ v ∈ vs, v.cells.size = sz) (hk : vs.length = k) (L : List Value) (hL : (vs.flatMap fun v => v.cells.toList) = L) (hk0 : 0 < k * sz := by decide) (hk24 : k * sz ≤ 16777216 := by decide) :
  Mk P (do pure (.value (← Instr.buildSlice t k M.toArray))) (fun g => .slice (some ⟨g, 0, none⟩) k k) L e := by
 intro w
 obtain ⟨i, hi, hz0⟩ : ∃ i, P.info? e = some i ∧ (i.zero, i.size, i.bytes) = (some z, sz, by_) := by simpa using hi0
 simp only [Prod.mk.injEq] at hz0
 obtain ⟨hz1, hsz, hby⟩ := hz0
 have hs0 : 0 < sz := Nat.pos_of_mul_pos_left hk0
 have hf : Instr.fill (fun j => some (j * i.size, i.size)) ((Array.range (k * i.size)).map (z.cells[· % z.cells.size]!)) M = some L.toArray := by
  rw [hp, hsz, ← hL]
  exact Great.fill_whole hs0 vs _ hv (by simp [hk])
 refine ⟨w.heap.size, w.alloc (.cells L.toArray e), ?_, (Fr.refl _ w).alloc _, Nat.le_refl _, Has.new w L.toArray e⟩
 simp only [Sem.run_bind, run_buildSlice w t e k M.toArray L.toArray i z hu hi hz1 (by rw [hsz]; omega) (by rw [hsz]; omega) (by simpa using hf), Result.andThen_ok, Sem.run_pure]
theorem g0O {t e : TypeId} {k : Nat} {parts : Array (Nat × Operand)} (ho : l[i]? = some o) (hg : o.guard = none) (hop : o.op = .buildSlice t k parts) (hu : P.underlying t = some (.slice e)) {z : Value} {sz by_ : Nat} (hi0 : (P.info? e).map (fun i => (i.zero, i.size, i.bytes)) = some (some z, sz, by_))
  (vs : List Value) (hp : ∀ x, (parts.toList.map fun p => (p.1, (A x).eval p.2)) = (vs.zipIdx 0).map fun x => (x.2, x.1)) (hv : ∀ v ∈ vs, v.cells.size = sz) (hk : vs.length = k) (L : List Value) (hL : (vs.flatMap fun v => v.cells.toList) = L)
  (h : Lad P l.toArray Q Sx S w0 tl s ((i, fun g => .slice (some ⟨g, 0, none⟩) k k, L, e) :: Γ) BL R (fun x => (A x).put o.dst (x i))) (hk0 : 0 < k * sz := by decide) (hk24 : k * sz ≤ 16777216 := by decide) : Lad P l.toArray Q Sx S w0 tl (.o i :: s) Γ BL R A :=
 C0w ho hg (fun x => by unfold execOp; simp only [hop]; rw [j0n (hp x)]) (p0a hu hi0 vs rfl hv hk L hL hk0 hk24) h
theorem r0Q (ho : l[i]? = some o) (hg : o.guard = none) {v : Value} (hv : ∀ x w, St S w0 w BL → R w → (execOp (A x).eval o).run P w = .ok (.value v) w) (h : Lad P l.toArray Q Sx S w0 tl s Γ BL R (fun x => (A x).put o.dst v)) : Lad P l.toArray Q Sx S w0 tl (.c i :: s) Γ BL R A :=
 ⟨o, by simpa using ho, hg, Unit, fun _ => v, fun _ _ => True, fun _ _ _ _ _ => trivial, fun x w hst hR => by unfold Oper.wp; rw [hv x w hst hR]; exact ⟨(), rfl, Fr.refl _ _, trivial⟩, fun _ => Lad.weaken s (fun w h => h.1) h⟩
theorem k0q {a : Act} {w : World} {K : Act → World → Prop} {v : Value} (hv : (execOp a.eval o).run P w = .ok (.value v) w) (h : K (a.put o.dst v) w) : o.wp P a w K Q := by
 unfold Oper.wp
 rw [hv]
 exact h
theorem u0U {a : Act} {w : World} {K : Act → World → Prop} {t e : TypeId} {k : Nat} {parts : Array (Nat × Operand)} (hst : St S w0 w BL) (hop : o.op = .buildSlice t k parts) (hu : P.underlying t = some (.slice e)) {z : Value} {sz by_ : Nat} (hi0 : (P.info? e).map (fun i => (i.zero, i.size, i.bytes)) = some (some z, sz, by_))
  (vs : List Value) (hp : (parts.toList.map fun p => (p.1, a.eval p.2)) = (vs.zipIdx 0).map fun x => (x.2, x.1)) (hv : ∀ v ∈ vs, v.cells.size = sz) (hk : vs.length = k) (L : List Value) (hL : (vs.flatMap fun v => v.cells.toList) = L)
  (h : ∀ g w', St S w0 w' (BL ++ [(g, L, e)]) → K (a.put o.dst (.slice (some ⟨g, 0, none⟩) k k)) w') (hk0 : 0 < k * sz := by decide) (hk24 : k * sz ≤ 16777216 := by decide) : o.wp P a w K Q :=
 C0v (p0a hu hi0 vs rfl hv hk L hL hk0 hk24) (by unfold execOp; simp only [hop]; rw [j0n hp]) hst fun g w' h1 _ => h g w' h1
theorem j0J {id : Nat} {a : Act} {w : World} (hst : St S w0 w BL) (R : World → Prop) (hR : R w.drew) (hRm : ∀ w w', R w → Fr Nob w w' → R w') (m : Nat) (s : List LS) (tl : Pl) (hm : P.follows .mixedOrders = true) (hB : q0c l.toArray m s tl = true)
  (hQ : ∀ c (d : Option Tmp) v a w, Q (.panic c) (Act.put a d v) w → Q (.panic c) a w)
  (h : Lad P l.toArray Q (fun w => St S w0 w BL) S w0 tl s [] BL R (fun _ => a)) : (Code.region id l.toArray true).wp P Q a w := by
 simp only [q0c, Bool.and_eq_true, decide_eq_true_eq] at hB
 obtain ⟨⟨⟨hsel, hms⟩, hlen⟩, hok⟩ := hB
 have hmk : e0M (Array.replicate l.toArray.size false) (List.map Prod.fst ([] : List (Nat × Value × Blk))) = Array.replicate l.toArray.size false := by
  refine f0i (b0E _ _) fun k hk => ?_
  rw [c0w _ _ _ (by simpa [b0E] using hk)]; simp
 have inv0 : Cl .any l.toArray (Array.replicate l.toArray.size false) :=
  ⟨by simp, fun j oj _ hl => (by rw [getD_replicate_false] at hl; cases hl)⟩
 have H := k0d (md := .any) (Sx := fun w => St S w0 w BL) hsel hms hQ (l.toArray.size + s.length) l.toArray.size s [] (Array.replicate l.toArray.size false) [] (fun _ => undef) w.drew BL R (fun _ => a)
  (Nat.le_refl _) (by simp [hlen]) ap17 ap17 ap17 (by rw [hmk]; exact inv0) hok ap17 ⟨by simp, by simp, by simp, fun _ _ _ _ => rfl⟩ ap17 (by simpa using hst.drew) hR hRm (fun _ h => h) h
 rw [hmk] at H
 exact wp_region_any hm (d0z _ _ _ _ H)
end
end Go.Mv
namespace Go.Proofs.YtemcankmggmgoaaGreat
section
open Go.RowKit Go.Mv Mvp Mvq
theorem x0O : beN [121, 190, 102, 126, 249, 220, 187, 172, 85, 160, 98, 149, 206, 135, 11, 7, 2, 155, 252, 219, 45, 206, 40, 217, 89, 242, 129, 91, 22, 248, 23, 152] = gXn := by decide
theorem E0Z (w : World) : Calls Tryz.prog 173 #[.string ⟨#[121, 190, 102, 126, 249, 220, 187, 172, 85, 160, 98, 149, 206, 135, 11, 7, 2, 155, 252, 219, 45, 206, 40, 217, 89, 242, 129, 91, 22, 248, 23, 152]⟩] w fun e w' => e = .returned (i4 (kN (kc gXn))) ∧ Fr Nob w w' := by
 have h := y0J ⟨#[121, 190, 102, 126, 249, 220, 187, 172, 85, 160, 98, 149, 206, 135, 11, 7, 2, 155, 252, 219, 45, 206, 40, 217, 89, 242, 129, 91, 22, 248, 23, 152]⟩ w ap15
 have e : beN [121, 190, 102, 126, 249, 220, 187, 172, 85, 160, 98, 149, 206, 135, 11, 7, 2, 155, 252, 219, 45, 206, 40, 217, 89, 242, 129, 91, 22, 248, 23, 152] = kN (kc gXn) := by rw [x0O]; decide
 rw [← e]
 exact h
theorem p0b : gYn % fP = gYn ∧ gYn % 2 = 0 ∧ gYn < fP := by decide
theorem E0I : b0G fP (kN (kc gXn * kc gXn * kc gXn + 7)) = true ∧ kc (rtV fP (kN (kc gXn * kc gXn * kc gXn + 7))) = kc gYn := by
 have hb : kc gYn * kc gYn = kc gXn * kc gXn * kc gXn + 7 := l0u
 rw [← hb]
 have e : kN (kc gYn * kc gYn) = gYn * gYn % fP := by rw [← a0K, l0H]
 have fp : FP fP := by rw [← t0M]; exact E0b
 have h4 : fP % 4 = 3 := by decide
 have ho := t0R fp h4 p0b.2.2
 rw [e]
 refine ⟨ho, ?_⟩
 have hlt : gYn * gYn % fP < fP := Nat.mod_lt _ ap15
 have hsq := o0F fp hlt ho
 have hev := n0l fp (x := gYn * gYn % fP)
 have h2 := C0N fp.prime p0b.2.2 (Nat.mod_lt (rtV fP (gYn * gYn % fP)) (by decide : 0 < fP)) (by rw [hsq])
 have hy := p0b.2.1
 rcases h2 with h2 | h2
 ·rw [← e0t, h2]
 ·exfalso
  have h3 : (fP - gYn) % fP = fP - gYn := by decide
  rw [h2, h3] at hev
  have h5 : (fP - gYn) % 2 = 1 := by decide
  omega
noncomputable def l0J : RT := E0k (kc gXn) (kc gYn) l0u
theorem x0P : l0J.pt = .A (kc gXn) (kc gYn) := u0P _ _ _
theorem B0g : l0J.L = rpL (kc gXn) (kc gYn) 1 := rfl
theorem F0a (w : World) : Calls Tryz.prog 141 #[i4 (kN (kc gXn))] w fun e w' => e = .returned (.tuple #[.agg l0J.L.toArray, .bool true]) ∧ Fr Nob w w' := by
 have h := D0k (kc gXn) _ _ _ rfl rfl rfl E0I.1 w
 rw [E0I.2] at h
 exact h
def x0Q (b : Nat) : UInt8 := UInt8.ofNat (2 + b)
theorem z0f (b : Nat) (hb : b = 0 ∨ b = 1) : ([Value.int .u8 (2 + (b : Int))].flatMap fun v => v.cells.toList) = bs [x0Q b] := by
 rcases hb with rfl | rfl <;> rfl
theorem x0R {T : TypeId} (_ : Tryz.prog.underlying T = some .string) (s t : ByteArray) (h : s.size + t.size ≤ 9223372036854775807) (w : World) : (binOp .add T (.string s) (.string t)).run Tryz.prog w = .ok (.string (s ++ t)) w := by
 have := h
 go_simp
theorem j0o {o : Oper} {a : Act} {p q : Operand} {T U : TypeId} {s t : ByteArray} {r : List UInt8} (ho : o.op = .binOp .add T p q U) (hp : a.eval p = .string s) (hq : a.eval q = .string t) (hT : Tryz.prog.underlying T = some .string) (h : s.size + t.size ≤ 1000000) (hr : s ++ t = mkS r) (w : World) :
  (execOp a.eval o).run Tryz.prog w = .ok (.value (.string (mkS r))) w := by
 have h2 := c0V (P := Tryz.prog) ho hp hq w (by go_simp) (x0R hT s t ap16 w)
 rwa [hr] at h2
theorem h0Y {P : Program} {o : Oper} {a : Act} {x : Operand} {src dst e : TypeId} (ho : o.op = .convert src dst x) (hs : P.underlying src = some (.slice e)) (he : P.underlying e = some (.int .u8)) (hd : P.underlying dst = some .string) {sa : Option Addr} {m c : Nat} {l : List UInt8}
  (hx : a.eval x = .slice sa m c) {w : World} (h : RdB w sa m l) : (execOp a.eval o).run P w = .ok (.value (.string (mkS l))) w := by
 unfold execOp
 simp only [ho, hx, Sem.run_bind, c0f h c hs he hd, Result.andThen_ok, Sem.run_pure]
theorem p0c (l m : List UInt8) : mkS l ++ mkS m = mkS (l ++ m) := by
 apply ByteArray.ext
 simp [mkS]
theorem F0b : (List.replicate 33 (Value.int .u8 0)) = bs (List.replicate 33 0) := by rfl
attribute [local irreducible] a0C lw mix cw b0k b0y b0j a0M a0n beN b0F a0P b0C a0J a0R elN mdL a0S rtV b0G kN kc c0u a0H e0S noR b0U f0T RT.L gXn gYn x0Q
theorem E0J (w : World) : Calls Tryz.prog 127 #[] w fun e w' => e = .returned (.agg l0J.L.toArray) ∧ Fr Nob w w' := by
 have st0 := St.start Nob w
 go_enter Tryz.func127, Tryz.ntmps127
 go_wp2_with (with_reducible refine wSk 0 ?_)
 refine a0a st0 rfl rfl (z := zAc) ap14 (cw 12 0) ap12 ?_
 intro g0 w1 st1
 clear st0
 go_wp2_with fail
 refine (E0Z _).mono ?_
 rintro e' w2 ⟨rfl, hf2⟩
 have st2 := st1.keep hf2
 clear st1 hf2
 go_wp2_with (with_reducible refine wSk 1 ?_)
 refine a0a st2 rfl rfl (z := zAd) ap14 (cw 4 0) ap12 ?_
 intro g1 w3 st3
 clear st2
 go_wp2_with (with_reducible refine wSn ?_)
 refine a0b st3 1 rfl rfl rfl rfl rfl ap13 ap14 (a0f _ _) ?_
 intro w4 st4
 clear st3
 go_wp2_with (with_reducible refine wSk 6 ?_)
 refine a0k st4 1 rfl rfl rfl Tryz.underlying60 rfl ap14 ?_
 go_wp2_with fail
 refine (F0a _).mono ?_
 rintro e' w5 ⟨rfl, hf5⟩
 have st5 := st4.keep hf5
 clear st4 hf5
 go_wp2_with (with_reducible refine wSk 2 ?_)
 refine a0a st5 rfl rfl (z := zAc) ap14 (cw 12 0) ap12 ?_
 intro g2 w6 st6
 clear st5
 go_wp2_with (with_reducible refine wSn ?_)
 refine a0b st6 2 rfl rfl rfl rfl rfl (by first | (simp [a0i]; done) | (simp [RT.len]; done) | (simp [a0i, RT.len]; done) | simp [a0i, RT.len]) ap14 (RT.one _) ?_
 intro w7 st7
 clear st6
 go_wp2_with (with_reducible refine wSk 10 ?_)
 refine a0p st7 2 rfl rfl rfl Tryz.underlying62 rfl rfl ap14 ?_
 go_wp2_with (with_reducible refine wSn ?_)
 refine a0b st7 0 rfl rfl rfl rfl rfl (by first | (simp [a0i]; done) | (simp [RT.len]; done) | (simp [a0i, RT.len]; done) | simp [a0i, RT.len]) ap14 (RT.one _) ?_
 intro w8 st8
 clear st7
 have hr := st8.at 0 rfl
 have hfr := st8.fr
 clear st8
 go_wp2_with fail
 exact bodyPost_ret (a0r rfl rfl hr Tryz.underlying62 rfl ap14) rfl ⟨rfl, hfr⟩
theorem r0R (x y z : K) (hb : decide (z = 0) = true) (w : World) : Calls Tryz.prog 45 #[rpV x y z] w fun e w' => e = .returned (.string (mkS (List.replicate 33 0))) ∧ Fr Nob w w' := by
 have HB := qH hb
 clear hb
 unfold rpV rpL
 have st0 := St.start Nob w
 go_enter Tryz.func45, Tryz.ntmps45
 go_wp2_with (with_reducible refine wSk 1 ?_)
 refine a0l st0 rfl rfl rfl (cw 4 (kN x) ++ (cw 4 (kN y) ++ cw 4 (kN z))) rfl ?_
 intro g1 w1 st1
 clear st0
 go_wp2_with (with_reducible refine wSk 7 ?_)
 refine a0p st1 0 rfl rfl rfl Tryz.underlying62 rfl rfl ap14 ?_
 go_wp2_with fail
 refine (d0M x y z true HB.out _).mono ?_
 rintro e' w2 ⟨rfl, hf2⟩
 have st2 := st1.keep hf2
 clear st1 hf2
 go_wp2_with (with_reducible refine wSk 10 ?_)
 refine c0y rfl rfl Tryz.underlying22 b0K rfl rfl rfl 33 33 ap17 ap17 ap16 ap16 ap11 ?_
 intro w3 hg2 hf2 hz2
 clear hz2
 have st3 := st2.new hf2 hg2 (Nat.le_refl _)
 clear st2 hg2 hf2
 rw [F0b] at st3
 go_wp2_with (with_reducible refine wSk 11 ?_)
 refine e0e rfl rfl Tryz.underlying22 Tryz.underlying5 Tryz.underlying9 rfl (l := List.replicate 33 0) (Rd.whole (st3.at 1 rfl)) ?_
 have hfr := st3.fr
 clear st3
 go_wp2_with fail
 go_ret
 exact ⟨rfl, hfr⟩
theorem r0S (x y z : K) (hb : decide (z = 0) = false) (i X Y : K) (ei : c0u z = i) (eX : x * i = X) (eY : y * i = Y) (w : World) : Calls Tryz.prog 45 #[rpV x y z] w fun e w' => e = .returned (.string (mkS (x0Q (kN Y % 2) :: a0P (kN X)))) ∧ Fr Nob w w' := by
 have HB := qH hb
 clear hb
 have Hi := qH ei
 have HX := qH eX
 have HY := qH eY
 clear ei eX eY
 unfold rpV rpL
 have st0 := St.start Nob w
 go_enter Tryz.func45, Tryz.ntmps45
 go_wp2_with (with_reducible refine wSk 1 ?_)
 refine a0l st0 rfl rfl rfl (cw 4 (kN x) ++ (cw 4 (kN y) ++ cw 4 (kN z))) rfl ?_
 intro g1 w1 st1
 clear st0
 go_wp2_with (with_reducible refine wSk 7 ?_)
 refine a0p st1 0 rfl rfl rfl Tryz.underlying62 rfl rfl ap14 ?_
 go_wp2_with fail
 refine (d0M x y z false HB.out _).mono ?_
 rintro e' w2 ⟨rfl, hf2⟩
 have st2 := st1.keep hf2
 clear st1 hf2
 go_wp2_with fail
 refine wp_region_noPanic ?_
 refine a0e st2 5 [.o 4, .w 1, .t 2, .c 0, .c 3, .j 4] (.m 5 .nil) ap14 ap14 (fun _ _ _ _ _ h => h) ?_
 clear st2
 refine b0p rfl rfl rfl f0K (cw 4 0) rfl ?_
 try simp only [clL]
 refine a0m rfl rfl apX ?_
 try simp only [clL]
 refine a0d rfl rfl rfl (fun _ => rfl) (cw 4 (kN z)) (fun wx hS => St.rangeL hS 0 rfl 8 _ (g0y _ _ _)) Tryz.underlying60 rfl ap14 ?_
 try simp only [clL]
 refine a0c rfl rfl rfl Tryz.call112 (fun w hS hR => a0Q _) (fun _ => rfl) ?_
 try simp only [clL]
 refine a0c rfl rfl rfl Tryz.call113 (fun w hS hR => E0Y z i Hi.out _) (fun _ => rfl) ?_
 try simp only [clL]
 refine b0f List.mem_cons_self fun g4 => ?_
 simp only [upd, reduceIte]
 refine a0t fun xq w3 st3 hR => ?_
 try dsimp only
 clear hR xq
 refine a0q rfl rfl ?_
 refine a0h st3 1 rfl rfl rfl rfl ap13 ap14 (a0f _ _) ?_
 intro w4 st4
 repeat (first | simp only [List.cons_append] at st4 | simp only [List.nil_append] at st4 | simp only [List.set_cons_succ] at st4 | simp only [List.set_cons_zero] at st4)
 clear st3
 try simp only [Act.put]
 refine a0g ?_
 refine NoPanic.normal ?_
 go_wp2_with fail
 refine wp_region_noPanic ?_
 refine a0e st4 6 [.o 5, .w 1, .t 2, .t 3, .c 0, .c 4, .j 5] (.m 6 .nil) ap14 ap14 (fun _ _ _ _ _ h => h) ?_
 clear st4
 refine b0p rfl rfl rfl f0K (cw 4 0) rfl ?_
 try simp only [clL]
 refine a0m rfl rfl apX ?_
 try simp only [clL]
 refine a0d rfl rfl rfl (fun _ => rfl) (cw 4 (kN x)) (fun wx hS => St.rangeL hS 0 rfl 0 _ (l0U _ _ _)) Tryz.underlying60 rfl ap14 ?_
 try simp only [clL]
 refine a0d rfl rfl rfl (fun _ => rfl) (cw 4 (kN i)) (fun wx hS => St.rangeL hS 1 rfl 0 _ dZl) Tryz.underlying60 rfl ap14 ?_
 try simp only [clL]
 refine a0c rfl rfl rfl Tryz.call112 (fun w hS hR => a0Q _) (fun _ => rfl) ?_
 try simp only [clL]
 refine a0c rfl rfl rfl Tryz.call58 (fun w hS hR => e0w x i X HX.out _) (fun _ => rfl) ?_
 try simp only [clL]
 refine b0f List.mem_cons_self fun g5 => ?_
 simp only [upd, reduceIte]
 refine a0t fun xq w5 st5 hR => ?_
 try dsimp only
 clear hR xq
 refine a0q rfl rfl ?_
 refine a0h st5 2 rfl rfl rfl rfl ap13 ap14 (a0f _ _) ?_
 intro w6 st6
 repeat (first | simp only [List.cons_append] at st6 | simp only [List.nil_append] at st6 | simp only [List.set_cons_succ] at st6 | simp only [List.set_cons_zero] at st6)
 clear st5
 try simp only [Act.put]
 refine a0g ?_
 refine NoPanic.normal ?_
 go_wp2_with fail
 refine wp_region_noPanic ?_
 refine a0e st6 6 [.o 5, .w 1, .t 2, .t 3, .c 0, .c 4, .j 5] (.m 6 .nil) ap14 ap14 (fun _ _ _ _ _ h => h) ?_
 clear st6
 refine b0p rfl rfl rfl f0K (cw 4 0) rfl ?_
 try simp only [clL]
 refine a0m rfl rfl apX ?_
 try simp only [clL]
 refine a0d rfl rfl rfl (fun _ => rfl) (cw 4 (kN y)) (fun wx hS => St.rangeL hS 0 rfl 4 _ (n0M _ _ _)) Tryz.underlying60 rfl ap14 ?_
 try simp only [clL]
 refine a0d rfl rfl rfl (fun _ => rfl) (cw 4 (kN i)) (fun wx hS => St.rangeL hS 1 rfl 0 _ dZl) Tryz.underlying60 rfl ap14 ?_
 try simp only [clL]
 refine a0c rfl rfl rfl Tryz.call112 (fun w hS hR => a0Q _) (fun _ => rfl) ?_
 try simp only [clL]
 refine a0c rfl rfl rfl Tryz.call58 (fun w hS hR => e0w y i Y HY.out _) (fun _ => rfl) ?_
 try simp only [clL]
 refine b0f List.mem_cons_self fun g6 => ?_
 simp only [upd, reduceIte]
 refine a0t fun xq w7 st7 hR => ?_
 try dsimp only
 clear hR xq
 refine a0q rfl rfl ?_
 refine a0h st7 3 rfl rfl rfl rfl ap13 ap14 (a0f _ _) ?_
 intro w8 st8
 repeat (first | simp only [List.cons_append] at st8 | simp only [List.nil_append] at st8 | simp only [List.set_cons_succ] at st8 | simp only [List.set_cons_zero] at st8)
 clear st7
 try simp only [Act.put]
 refine a0g ?_
 refine NoPanic.normal ?_
 have ha := h0d (kN Y)
 have hb2 : kN Y % 2 = 0 ∨ kN Y % 2 = 1 := by omega
 generalize hbv : kN Y % 2 = b at *
 have HBV := qH hbv
 clear hbv
 have hw8 : IntKind.u8.wrap (b : Int) = (b : Int) := by rcases hb2 with rfl | rfl <;> decide
 have hw9 : IntKind.u8.wrap (2 + (b : Int)) = 2 + (b : Int) := by rcases hb2 with rfl | rfl <;> decide
 have HB2 := qH hb2
 clear hb2
 go_wp2_with fail
 refine wp_region_noPanic ?_
 refine a0o (fun wx => St Nob w wx [(g1, cw 4 (kN x) ++ (cw 4 (kN y) ++ cw 4 (kN z)), 62), (g4, cw 4 (kN i), 60), (g5, cw 4 (kN X), 60), (g6, cw 4 (kN Y), 60)]) 10 (.w 0 (.t 1 (.w 2 (.w 3 (.w 4 (.t 7 (.b 5 8 (.b 6 8 (.r 8 (.r 9 (.m 10 .nil))) (.r 6 (.r 9 (.m 10 .nil)))) (.r 5 (.r 6 (.r 9 (.m 10 .nil))))))))))) ap14 ap14 st8.drew (fun _ _ _ _ _ h => h) ?_
 have hd8 := st8.drew
 clear st8
 refine a0j rfl rfl apW ?_
 try simp only [clL]
 refine d0G (v := ?_) rfl rfl (fun wx hS => ?_) ?_
 rotate_left 1
 ·(have hc := (St.at hS 3 rfl).cell (a0G 4 (kN Y) 0 ap15); clear hS; go_simp; with_reducible rfl)
 try simp only [clL]
 iterate 3 (refine a0j rfl rfl apW ?_; try simp only [clL])
 refine a0s rfl rfl rfl rfl (cw 4 (kN X)) (fun wx hS => St.rangeL hS 2 rfl 0 _ dZl) Tryz.underlying60 rfl ap14 ?_
 try simp only [clL]
 refine e0s (C := fun g31 wz => St Nob w wz [(g1, cw 4 (kN x) ++ (cw 4 (kN y) ++ cw 4 (kN z)), 62), (g4, cw 4 (kN i), 60), (g5, cw 4 (kN X), 60), (g6, cw 4 (kN Y), 60), (g31, bs [x0Q b], 5)]) (F := ?_) (fun key => ?_) ?_
 rotate_left 1
 ·skip
  refine d0H rfl rfl rfl rfl ?_ ?_
  ·skip
   refine u0U hd8 rfl Tryz.underlying22 b0K [.int .u8 (2 + (b : Int))] rfl (by simp [Value.cells]) rfl _ (z0f b HB2.out) ?_
   intro g31 w9 st9
   refine ⟨St.less st9 ap17, ?_⟩
   try simp only [clL]
   refine d0H rfl rfl rfl rfl ?_ ?_
   ·skip
    refine k0q (h0Y rfl Tryz.underlying22 Tryz.underlying5 Tryz.underlying9 rfl (l := [x0Q b]) (Rd.whole (st9.at 4 rfl))) ?_
    have st10 := st9
    refine ⟨St.less st10 ap17, ?_⟩
    try simp only [clL]
    refine a0w rfl rfl ?_
    go_simp
    refine (h0b (kN X) _).mono ?_
    rintro e' w11 ⟨rfl, hf11⟩
    have st11 := st10.keep hf11
    clear hf11
    refine ⟨St.less st11 ap17, ?_⟩
    try simp only [clL]
    refine a0w rfl rfl ?_
    refine k0q (j0o rfl rfl rfl Tryz.underlying9 (by rw [b0a, b0a, a0X]; simp) (p0c _ _) _) ?_
    have st12 := st11
    refine ⟨St.less st12 ap17, ?_⟩
    try simp only [clL]
    refine a0q rfl rfl ?_
    go_simp
    try simp only [clL]
    refine a0g ?_
    exact key g31 _ st12
   ·skip
    go_simp
    refine (h0b (kN X) _).mono ?_
    rintro e' w13 ⟨rfl, hf13⟩
    have st13 := st9.keep hf13
    clear hf13
    refine ⟨St.less st13 ap17, ?_⟩
    try simp only [clL]
    refine a0w rfl rfl ?_
    refine k0q (h0Y rfl Tryz.underlying22 Tryz.underlying5 Tryz.underlying9 rfl (l := [x0Q b]) (Rd.whole (st13.at 4 rfl))) ?_
    have st14 := st13
    refine ⟨St.less st14 ap17, ?_⟩
    try simp only [clL]
    refine a0w rfl rfl ?_
    refine k0q (j0o rfl rfl rfl Tryz.underlying9 (by rw [b0a, b0a, a0X]; simp) (p0c _ _) _) ?_
    have st15 := st14
    refine ⟨St.less st15 ap17, ?_⟩
    try simp only [clL]
    refine a0q rfl rfl ?_
    go_simp
    try simp only [clL]
    refine a0g ?_
    exact key g31 _ st15
  ·skip
   go_simp
   refine (h0b (kN X) _).mono ?_
   rintro e' w16 ⟨rfl, hf16⟩
   have st16 := hd8.keep hf16
   clear hf16
   refine ⟨st16, ?_⟩
   try simp only [clL]
   refine a0w rfl rfl ?_
   refine u0U st16 rfl Tryz.underlying22 b0K [.int .u8 (2 + (b : Int))] rfl (by simp [Value.cells]) rfl _ (z0f b HB2.out) ?_
   intro g31 w17 st17
   refine ⟨St.less st17 ap17, ?_⟩
   try simp only [clL]
   refine a0w rfl rfl ?_
   refine k0q (h0Y rfl Tryz.underlying22 Tryz.underlying5 Tryz.underlying9 rfl (l := [x0Q b]) (Rd.whole (st17.at 4 rfl))) ?_
   have st18 := st17
   refine ⟨St.less st18 ap17, ?_⟩
   try simp only [clL]
   refine a0w rfl rfl ?_
   refine k0q (j0o rfl rfl rfl Tryz.underlying9 (by rw [b0a, b0a, a0X]; simp) (p0c _ _) _) ?_
   have st19 := st18
   refine ⟨St.less st19 ap17, ?_⟩
   try simp only [clL]
   refine a0q rfl rfl ?_
   go_simp
   try simp only [clL]
   refine a0g ?_
   exact key g31 _ st19
 intro g31 w20 st20
 have st20 : St Nob w w20 [(g1, cw 4 (kN x) ++ (cw 4 (kN y) ++ cw 4 (kN z)), 62), (g4, cw 4 (kN i), 60), (g5, cw 4 (kN X), 60), (g6, cw 4 (kN Y), 60), (g31, bs [x0Q b], 5)] := st20
 clear hd8
 refine NoPanic.normal ?_
 have hfr := st20.fr
 clear st20
 go_wp2_with fail
 go_ret
 exact ⟨by rw [HBV.out]; rfl, hfr⟩
end
section
open Go.RowKit Go.Mv Mvp Mvq
theorem D0l (x y : K) : a0H (.A x y) = x0Q (kN y % 2) :: a0P (kN x) := rfl
theorem r0T (s : RT) (w : World) : Calls Tryz.prog 45 #[.agg s.L.toArray] w fun e w' => e = .returned (.string (mkS (a0H s.pt))) ∧ Fr Nob w w' := by
 cases h : s.isO
 ·have hz : s.z ≠ 0 := by simpa [RT.isO] using h
  have h2 : s.pt = .A (s.x * c0u s.z) (s.y * c0u s.z) := w0Z hz
  rw [h2, D0l]
  exact r0S s.x s.y s.z h _ _ _ rfl rfl rfl w
 ·rw [RT.isO_t h]
  exact r0R s.x s.y s.z h w
end
section
open Go.RowKit Go.Mv Mvp Mvq
attribute [local irreducible] a0C lw mix cw b0k b0y b0j a0M a0n beN b0F a0P b0C a0J a0R elN mdL a0S rtV b0G kN kc c0u a0H e0S noR b0U f0T RT.L gXn gYn
end
section
open Go.RowKit Go.Mv Mvp Mvq
theorem u0V (l : List UInt8) (a : Nat) : l.foldl (fun a x => a * 256 + x.toNat) a = a * 256 ^ l.length + beN l := by
 unfold beN
 induction l generalizing a with
 | nil => simp
 | cons x l ih =>
  rw [List.foldl_cons, List.foldl_cons, ih, ih (0 * 256 + x.toNat), List.length_cons, Nat.pow_succ]
  rw [Nat.zero_mul, Nat.zero_add, Nat.add_mul, Nat.mul_assoc, Nat.mul_comm 256]
  omega
theorem beN_cons (x : UInt8) (l : List UInt8) : beN (x :: l) = x.toNat * 256 ^ l.length + beN l := by
 have h := u0V l (0 * 256 + x.toNat)
 rw [Nat.zero_mul, Nat.zero_add] at h
 show List.foldl _ 0 (x :: l) = _
 rw [List.foldl_cons, Nat.zero_mul, Nat.zero_add]
 exact h
theorem beN_zero : ∀ l : List UInt8, beN l = 0 → l = List.replicate l.length 0
 | [], _ => rfl
 | x :: l, h => by
  rw [beN_cons] at h
  have h1 : x.toNat * 256 ^ l.length = 0 := by omega
  have h2 : beN l = 0 := by omega
  have hx : x = 0 := by
   rcases Nat.mul_eq_zero.1 h1 with h | h
   ·exact UInt8.toNat_inj.1 (by rw [h]; rfl)
   ·exact absurd h (Nat.pos_iff_ne_zero.1 (Nat.pow_pos ap15))
  have ih := beN_zero l h2
  rw [List.length_cons, List.replicate_succ, ← ih, hx]
attribute [local irreducible] rtV b0G rpL d0A beN a0P
theorem u0W (n : Nat) : kN (kc n * kc n * kc n + 7) = d0A n % fP := by rw [← o0G, l0H]
theorem E0m (n : Nat) (hr : b0G fP (d0A n) = true) (w : World) : Calls Tryz.prog 141 #[i4 (kN (kc n))] w fun e w' => e = .returned (.tuple #[rpV (kc n) (kc (rtV fP (d0A n))) 1, .bool true]) ∧ Fr Nob w w' := by
 have h := D0k (kc n) _ _ _ rfl rfl rfl (by rw [u0W, q0x]; exact hr) w
 rw [u0W, B0f] at h
 exact h
theorem E0n (n : Nat) (hr : b0G fP (d0A n) = false) (w : World) : Calls Tryz.prog 141 #[i4 (kN (kc n))] w fun e w' => e = .returned (.tuple #[rpV (kc n) 0 1, .bool false]) ∧ Fr Nob w w' :=
 E0l (kc n) _ _ _ rfl rfl rfl (by rw [u0W, q0x]; exact hr) w
end
section
open Go.RowKit Go.Mv Mvp Mvq
theorem t_ok {lk la : List UInt8} (hk : a0S mQ lk = true) (ha : b0J la = true) : tC lk la = 0 ∧ tS lk la = a0H (a0E (beN lk) (b0q la)) := by unfold tC tS; rw [hk, ha]; exact ⟨rfl, rfl⟩
end
end Go.Proofs.YtemcankmggmgoaaGreat
namespace Mvp
end Mvp
namespace Go.Proofs.YtemcankmggmgoaaGreat
open Go.RowKit Go.Mv Mvp
attribute [local irreducible] a0C lw mix cw b0k b0y b0j a0M a0n beN b0F a0P b0C a0J a0R elN mdL b0e a0V a0S
end Go.Proofs.YtemcankmggmgoaaGreat
namespace Go.Mv
open Go.RowKit
theorem Has.ne {w : World} {g g' : Nat} {L L' : List Value} {T T' : TypeId} (h : Has w g L T) (h' : Has w g' L' T') (hT : T ≠ T') : g ≠ g' := by
 rintro rfl
 obtain ⟨_, _, h1, _⟩ := h
 obtain ⟨_, _, h2, _⟩ := h'
 rw [h1] at h2
 simp at h2
 exact hT h2.2.1
theorem Own.ne2 {w : World} {base base' sz sz' n n' : Nat} {T T' : TypeId} {v v' : Value} {L L' : List Value} (h : Own w base T sz v n L) (h' : Own w base' T' sz' v' n' L') (hT : T ≠ T') (k : Nat) (hk : k0F v k) : ¬ k0F v' k := by
 obtain ⟨_, ⟨rfl, _⟩ | ⟨g, o, cap, B, rfl, _, hg, _⟩⟩ := h'
 ·intro t; cases t
 ·intro t
  have e : g = k := by simpa [k0F, Value.ownBlock] using t
  subst e
  exact h.ne hg hT hk
end Go.Mv
namespace Go.Proofs.YtemcankmggmgoaaGreat
section
open Go.RowKit Go.Mv Mvp
attribute [local irreducible] b0g b0x toB a0u a0B b0h b0R a0L c0g b0b a0y c0s
theorem LogAt.at' {w : World} {base g : Nat} {l : List UInt8} (h : LogAt w base g l) : ∃ v, Has w g [v] 228 := ⟨h.choose, h.choose_spec.1⟩
theorem LogAt.own {w w' : World} {base g : Nat} {l : List UInt8} {S : Nat → Prop} (h : LogAt w base g l) (hf : Fr S w w') (hg : ¬ S g) (hs : ∀ v, Own w base 5 1 v 32 (bs l) → ∀ k, k0F v k → ¬ S k) : LogAt w' base g l := by
 obtain ⟨v, h1, h2⟩ := h
 exact ⟨v, h1.keep hf hg, h2.keep hf (hs v h2)⟩
abbrev Tri : Type := Nat × Nat × List UInt8
def D0F (T : List Tri) : List Value := T.map fun t => .pointer (some ⟨t.1, 0, none⟩)
def D0G (T : List Tri) : List Value := T.map fun t => .pointer (some ⟨t.2.1, 0, none⟩)
structure LI (w : World) (base ga gb : Nat) (sa sb : List UInt8) (T : List Tri) (vk : Value) (Lk : List Value) (vw : Value) (Lw : List Value) : Prop where
 la : sa.length = 32
 lb : sb.length = 32
 a : LogAt w base ga sa
 b : RLogAt w gb sb
 each : ∀ t ∈ T, LogAt w base t.1 t.2.2 ∧ RLogAt w t.2.1 t.2.2 ∧ t.2.2.length = 32
 na : (ga :: T.map (·.1)).Nodup
 nb : (gb :: T.map (·.2.1)).Nodup
 k : Own w base 126 1 vk Lk.length Lk
 w : Own w base 135 1 vw Lw.length Lw
 bs : base ≤ ga ∧ base ≤ gb ∧ ∀ t ∈ T, base ≤ t.1 ∧ base ≤ t.2.1
variable {w w' : World} {base ga gb : Nat} {sa sb : List UInt8} {T : List Tri} {vk vw : Value} {Lk Lw : List Value}
theorem LI.still (h : LI w base ga gb sa sb T vk Lk vw Lw) (hf : Fr Nob w w') : LI w' base ga gb sa sb T vk Lk vw Lw :=
 ⟨h.la, h.lb, h.a.still hf, Has.keep h.b hf id, fun t ht => ⟨(h.each t ht).1.still hf, Has.keep (h.each t ht).2.1 hf id, (h.each t ht).2.2⟩, h.na, h.nb, h.k.still hf, h.w.still hf, h.bs⟩
theorem LI.stepB (h : LI w base ga gb sa sb T vk Lk vw Lw) (hf : Fr (One gb) w w') {sb' : List UInt8} (hb : RLogAt w' gb sb') (hl : sb'.length = 32) : LI w' base ga gb sa sb' T vk Lk vw Lw := by
 have hv := h.b
 obtain ⟨v, hav⟩ := h.a.at'
 refine ⟨h.la, hl, h.a.other hf (Has.ne hav hv ap15) hv ap15, hb, fun t ht => ⟨(h.each t ht).1.other hf (Has.ne (h.each t ht).1.at'.choose_spec hv ap15) hv ap15, Has.keep (h.each t ht).2.1 hf ?_, (h.each t ht).2.2⟩, h.na, h.nb,
  h.k.keep hf (fun k hk (e : k = gb) => h.k.ne hv ap15 (e ▸ hk)), h.w.keep hf (fun k hk (e : k = gb) => h.w.ne hv ap15 (e ▸ hk)), h.bs⟩
 have hn := (List.nodup_cons.1 h.nb).1
 intro (e : t.2.1 = gb)
 exact hn (e ▸ List.mem_map.2 ⟨t, ht, rfl⟩)
structure LJ (w : World) (base : Nat) (T : List Tri) (j : Nat) (vk vw : Value) : Prop where
 each : ∀ i t, j ≤ i → T[i]? = some t → LogAt w base t.1 t.2.2 ∧ RLogAt w t.2.1 t.2.2 ∧ t.2.2.length = 32
 na : (T.map (·.1)).Nodup
 nb : (T.map (·.2.1)).Nodup
 k : Own w base 126 1 vk T.length (D0F T)
 w : Own w base 135 1 vw T.length (D0G T)
 bs : ∀ t ∈ T, base ≤ t.1 ∧ base ≤ t.2.1
theorem LI.last (h : LI w base ga gb sa sa T vk (D0F (T ++ [(ga, gb, sa)])) vw (D0G (T ++ [(ga, gb, sa)]))) : LJ w base (T ++ [(ga, gb, sa)]) 0 vk vw := by
 have h1 := List.nodup_cons.1 h.na
 have h2 := List.nodup_cons.1 h.nb
 have hlk : (D0F (T ++ [(ga, gb, sa)])).length = (T ++ [(ga, gb, sa)]).length := by simp [D0F]
 have hlw : (D0G (T ++ [(ga, gb, sa)])).length = (T ++ [(ga, gb, sa)]).length := by simp [D0G]
 refine ⟨?_, ?_, ?_, hlk ▸ h.k, hlw ▸ h.w, ?_⟩
 ·intro i t _ ht
  rcases List.mem_append.1 (List.mem_of_getElem? ht) with ht | ht
  ·exact h.each t ht
  ·simp only [List.mem_singleton] at ht
   subst ht
   exact ⟨h.a, h.b, h.la⟩
 ·rw [List.map_append, List.nodup_append]
  refine ⟨h1.2, by simp, ?_⟩
  intro x hx y hy e
  simp only [List.map_cons, List.map_nil, List.mem_singleton] at hy
  subst hy; subst e
  exact h1.1 hx
 ·rw [List.map_append, List.nodup_append]
  refine ⟨h2.2, by simp, ?_⟩
  intro x hx y hy e
  simp only [List.map_cons, List.map_nil, List.mem_singleton] at hy
  subst hy; subst e
  exact h2.1 hx
 ·intro t ht
  rcases List.mem_append.1 ht with ht | ht
  ·exact h.bs.2.2 t ht
  ·simp only [List.mem_singleton] at ht
   subst ht
   exact ⟨h.bs.1, h.bs.2.1⟩
theorem q0y {α : Type} {l : List α} (h : l.Nodup) {i j : Nat} {x y : α} (hi : l[i]? = some x) (hj : l[j]? = some y) (hne : i ≠ j) : x ≠ y := by
 intro e
 subst e
 have hi' := (List.getElem?_eq_some_iff.1 hi)
 have hj' := (List.getElem?_eq_some_iff.1 hj)
 obtain ⟨a, ha⟩ := hi'
 obtain ⟨b, hb⟩ := hj'
 rcases Nat.lt_or_gt_of_ne hne with k | k
 ·exact (List.pairwise_iff_getElem.1 h) i j a b k (ha.trans hb.symm)
 ·exact (List.pairwise_iff_getElem.1 h) j i b a k (hb.trans ha.symm)
theorem LJ.step {j : Nat} (h : LJ w base T j vk vw) {t : Tri} (ht : T[j]? = some t) {w1 w2 : World} (h1 : Fr (One t.1) w w1) (h2 : Fr (One t.2.1) w1 w2) : LJ w2 base T (j + 1) vk vw := by
 obtain ⟨ha, hb, -⟩ := h.each j t (Nat.le_refl _) ht
 obtain ⟨v, hv⟩ := ha.at'
 have hb1 : RLogAt w1 t.2.1 t.2.2 := Has.keep hb h1 (Has.ne hb hv ap15)
 have k1 := h.k.keep h1 (fun k hk (e : k = t.1) => h.k.ne hv ap15 (e ▸ hk))
 have l1 := h.w.keep h1 (fun k hk (e : k = t.1) => h.w.ne hv ap15 (e ▸ hk))
 refine ⟨?_, h.na, h.nb, k1.keep h2 (fun k hk (e : k = t.2.1) => k1.ne hb1 ap15 (e ▸ hk)), l1.keep h2 (fun k hk (e : k = t.2.1) => l1.ne hb1 ap15 (e ▸ hk)), h.bs⟩
 intro i u hi hu
 obtain ⟨c, d, e⟩ := h.each i u ap16 hu
 have n1 : u.1 ≠ t.1 := q0y h.na (i := i) (j := j) (by simp [List.getElem?_map, hu]) (by simp [List.getElem?_map, ht]) ap16
 have n2 : u.2.1 ≠ t.2.1 := q0y h.nb (i := i) (j := j) (by simp [List.getElem?_map, hu]) (by simp [List.getElem?_map, ht]) ap16
 have c1 := c.other h1 n1 hv ap15
 have d1 : RLogAt w1 u.2.1 u.2.2 := Has.keep d h1 (Has.ne d hv ap15)
 exact ⟨c1.other h2 (Has.ne c1.at'.choose_spec hb1 ap15) hb1 ap15, Has.keep d1 h2 n2, e⟩
end
section
open Go.RowKit Go.Mv Mvp Mvt
attribute [local irreducible] b0g b0x toB a0u a0B b0h b0R a0L c0g b0b a0y c0s
def POwn (w : World) (base : Nat) : List Value → List (List UInt8) → Prop
 | [], [] => True
 | v :: vs, l :: ls => Own w base 5 1 v l.length (bs l) ∧ POwn w base vs ls
 | _, _ => False
theorem POwn.len {w : World} {base : Nat} : ∀ {vs : List Value} {ls : List (List UInt8)}, POwn w base vs ls → vs.length = ls.length
 | [], [], _ => rfl
 | _ :: _, _ :: _, h => by simp only [List.length_cons]; rw [POwn.len h.2]
 | [], _ :: _, h => h.elim
 | _ :: _, [], h => h.elim
theorem POwn.keep {w w' : World} {base : Nat} {S : Nat → Prop} (hf : Fr S w w') : ∀ {vs : List Value} {ls : List (List UInt8)}, POwn w base vs ls → (∀ v n l, Own w base 5 1 v n (bs l) → ∀ k, k0F v k → ¬ S k) → POwn w' base vs ls
 | [], [], _, _ => trivial
 | _ :: _, _ :: _, h, hs => ⟨h.1.keep hf (hs _ _ _ h.1), POwn.keep hf h.2 hs⟩
 | [], _ :: _, h, _ => h.elim
 | _ :: _, [], h, _ => h.elim
theorem POwn.still {w w' : World} {base : Nat} {vs : List Value} {ls : List (List UInt8)} (h : POwn w base vs ls) (hf : Fr Nob w w') : POwn w' base vs ls := POwn.keep hf h (fun _ _ _ _ _ _ t => t)
theorem POwn.app {w w' : World} {base base' sz n : Nat} {vs : List Value} {ls : List (List UInt8)} (h : POwn w base vs ls) {q : Value} {T : TypeId} {L : List Value} (hq : Own w base' T sz q n L) (hT : 5 ≠ T) (hf : Fr (k0F q) w w') : POwn w' base vs ls :=
 POwn.keep hf h (fun _ _ _ ho k hk hk' => ho.ne2 hq hT k hk hk')
theorem POwn.snoc {w : World} {base : Nat} {v : Value} {l : List UInt8} (hv : Own w base 5 1 v l.length (bs l)) : ∀ {vs : List Value} {ls : List (List UInt8)}, POwn w base vs ls → POwn w base (vs ++ [v]) (ls ++ [l])
 | [], [], _ => ⟨hv, trivial⟩
 | _ :: _, _ :: _, h => ⟨h.1, POwn.snoc hv h.2⟩
 | [], _ :: _, h => h.elim
 | _ :: _, [], h => h.elim
theorem POwn.parts {w : World} {base : Nat} : ∀ {vs : List Value} {ls : List (List UInt8)}, POwn w base vs ls → (∀ x ∈ ls, x.length ≤ 1000000) → Parts w vs ls
 | [], [], _, _ => trivial
 | _ :: _, _ :: _, h, hx => ⟨c0d h.1 (hx _ ap17), POwn.parts h.2 (fun x hxm => hx x (by simp [hxm]))⟩
 | [], _ :: _, h, _ => h.elim
 | _ :: _, [], h, _ => h.elim
def LOwn (w : World) (base : Nat) (v : Value) (ls : List (List UInt8)) : Prop := ∃ vs, Own w base 22 1 v ls.length vs ∧ POwn w base vs ls
theorem LOwn.still {w w' : World} {base : Nat} {v : Value} {ls : List (List UInt8)} (h : LOwn w base v ls) (hf : Fr Nob w w') : LOwn w' base v ls := by
 obtain ⟨vs, h1, h2⟩ := h; exact ⟨vs, h1.still hf, h2.still hf⟩
theorem LOwn.parts {w : World} {base : Nat} {v : Value} {ls : List (List UInt8)} (h : LOwn w base v ls) (hx : ∀ x ∈ ls, x.length ≤ 1000000) : ∃ a c, v = .slice a ls.length c ∧ ls.length ≤ c ∧ PartsAt w a ls := by
 obtain ⟨vs, h1, h2⟩ := h
 obtain ⟨a, c, rfl, hc, hr, -⟩ := h1.form
 rw [Nat.mul_one] at hr
 exact ⟨a, c, rfl, hc, vs, hr, (h2.parts hx).get⟩
end
section
open Go.RowKit Go.Mv Mvp Mvt
attribute [local irreducible] b0g b0x toB a0u a0B b0h b0R a0L c0g b0b a0y c0s
def Sep (vs : List Value) : Prop := vs.Pairwise fun a b => ∀ k, k0F a k → ¬ k0F b k
theorem Sep.nil : Sep [] := List.Pairwise.nil
theorem POwn.get {w : World} {base : Nat} : ∀ {vs : List Value} {ls : List (List UInt8)}, POwn w base vs ls → ∀ (i : Nat) (v : Value), vs[i]? = some v → ∃ l, ls[i]? = some l ∧ Own w base 5 1 v l.length (bs l)
 | [], [], _, i, v, hv => by simp at hv
 | a :: vs, l :: ls, h, 0, v, hv => by simp at hv; subst hv; exact ⟨l, rfl, h.1⟩
 | a :: vs, l :: ls, h, i + 1, v, hv => by simp at hv; obtain ⟨l', h1, h2⟩ := POwn.get h.2 i v hv; exact ⟨l', by simpa using h1, h2⟩
 | [], _ :: _, h, _, _, _ => h.elim
 | _ :: _, [], h, _, _, _ => h.elim
theorem POwn.mem {w : World} {base : Nat} {vs : List Value} {ls : List (List UInt8)} (h : POwn w base vs ls) {v : Value} (hv : v ∈ vs) : ∃ l, l ∈ ls ∧ Own w base 5 1 v l.length (bs l) := by
 obtain ⟨i, hi⟩ := List.getElem?_of_mem hv
 obtain ⟨l, h1, h2⟩ := h.get i v hi
 exact ⟨l, List.mem_of_getElem? h1, h2⟩
theorem Sep.snoc {w w' : World} {base : Nat} {vs : List Value} {ls : List (List UInt8)} (h : Sep vs) (hp : POwn w base vs ls) {v : Value} {n : Nat} {L : List Value} {T : TypeId} (hv : Own w' w.heap.size T 1 v n L) : Sep (vs ++ [v]) := by
 unfold Sep at *
 rw [List.pairwise_append]
 refine ⟨h, by simp, fun a ha b hb k hk hk' => ?_⟩
 simp only [List.mem_singleton] at hb
 subst hb
 obtain ⟨l, _, ho⟩ := hp.mem ha
 have h1 := (ho.lt hk).2
 have h2 := (hv.lt hk').1
 omega
theorem POwn.mono {w : World} {base base' : Nat} (hb : base' ≤ base) : ∀ {vs : List Value} {ls : List (List UInt8)}, POwn w base vs ls → POwn w base' vs ls
 | [], [], _ => trivial
 | _ :: _, _ :: _, h => ⟨h.1.mono hb, POwn.mono hb h.2⟩
 | [], _ :: _, h => h.elim
 | _ :: _, [], h => h.elim
def SOwn (w : World) (base : Nat) (v : Value) (ls : List (List UInt8)) : Prop := ∃ vs, Own w base 22 1 v ls.length vs ∧ POwn w base vs ls ∧ Sep vs
theorem SOwn.nil (w : World) (base : Nat) : SOwn w base (.slice none 0 0) [] := ⟨[], Own.nil _ _ _ _, trivial, Sep.nil⟩
theorem SOwn.still {w w' : World} {base : Nat} {v : Value} {ls : List (List UInt8)} (h : SOwn w base v ls) (hf : Fr Nob w w') : SOwn w' base v ls := by
 obtain ⟨vs, h1, h2, h3⟩ := h; exact ⟨vs, h1.still hf, h2.still hf, h3⟩
end
end Go.Proofs.YtemcankmggmgoaaGreat
namespace Mvp
def lenV : Go.Value → Nat
 | .slice _ n _ => n
 | _ => 0
end Mvp
namespace Go.Proofs.YtemcankmggmgoaaGreat
open Go.RowKit Go.Mv Mvp
theorem SOwn.mono {w : World} {base base' : Nat} {v : Value} {ls : List (List UInt8)} (h : SOwn w base v ls) (hb : base' ≤ base) : SOwn w base' v ls := by
 obtain ⟨vs, h1, h2, h3⟩ := h; exact ⟨vs, h1.mono hb, h2.mono hb, h3⟩
theorem SOwn.snocF {w w1 w2 w3 : World} {base : Nat} {vs : List Value} {ls : List (List UInt8)} {o v o' : Value} {l : List UInt8}
  (hown : Own w base 22 1 o ls.length vs) (hpo : POwn w base vs ls) (hsep : Sep vs) (hb : base ≤ w.heap.size)
  (hv : Own w1 w.heap.size 5 1 v l.length (bs l)) (hf1 : Fr Nob w w1) (hf2 : Fr Nob w1 w2)
  (ho' : Own w3 base 22 1 o' (ls.length + 1) (vs ++ [v])) (hf3 : Fr (k0F o) w2 w3) : SOwn w3 base o' (ls ++ [l]) := by
 have h12 := hf1.then hf2
 have hv2 := (hv.still hf2).mono hb
 have ho2 := hown.still h12
 refine ⟨vs ++ [v], by simpa using ho', POwn.snoc (hv2.keep hf3 (fun k hk hk' => hv2.ne2 ho2 ap15 k hk hk')) ((hpo.still h12).app ho2 ap15 hf3), hsep.snoc hpo hv⟩
attribute [local irreducible] a0C lw mix cw b0k b0y b0j a0M a0n beN b0F a0P b0C a0J a0R elN mdL b0e a0V a0S
end Go.Proofs.YtemcankmggmgoaaGreat
namespace Mvp
end Mvp
namespace Go.Proofs.YtemcankmggmgoaaGreat
section
open Go.RowKit Go.Mv Mvp
theorem B0h {w : World} {b o n : Nat} {vs : List Value} (h : Rd w (some ⟨b, o, none⟩) n vs) (i : Nat) (v : Value) (hv : vs[i]? = some v) : w.cell? ⟨b, o + i, none⟩ = some v := by
 have h1 := A0h h 0 vs ap17
 have h2 := h1 i v hv
 simpa using h2
attribute [local irreducible] a0C lw mix cw b0k b0y b0j a0M a0n beN b0F a0P b0C a0J a0R elN mdL a0S a0V b0e
end
section
open Go.RowKit Go.Mv Mvp Mvq
noncomputable def smL (ln lp : List (List UInt8)) (k : Nat) : List (Nat × Pt) := (List.range k).map fun i => (beN (ln.getD i []), b0q (lp.getD i []))
def h0Z (ln lp : List (List UInt8)) : Nat := if ln.length = lp.length then (if ln.length ≤ 512 then (if a0V mQ ln then (if c0P lp then 0 else 4) else 3) else 1) else 2
noncomputable def g0P (ln lp : List (List UInt8)) : List UInt8 := if ln.length = lp.length then (if ln.length ≤ 512 then (if a0V mQ ln then (if c0P lp then a0H (e0u (smL ln lp lp.length)) else []) else []) else []) else []
theorem x0S {ls : List (List UInt8)} (h : c0P ls = true) (i : Nat) (hi : i < ls.length) : b0J (ls.getD i []) = true := by
 unfold c0P at h
 rw [List.all_eq_true] at h
 refine h _ ?_
 rw [List.getD_eq_getElem?_getD, List.getElem?_eq_getElem hi]
 exact List.getElem_mem hi
theorem r0U {ls : List (List UInt8)} (h : a0V mQ ls = true) (i : Nat) (hi : i < ls.length) : a0S mQ (ls.getD i []) = true := by
 unfold a0V at h
 rw [List.all_eq_true] at h
 refine h _ ?_
 rw [List.getD_eq_getElem?_getD, List.getElem?_eq_getElem hi]
 exact List.getElem_mem hi
theorem D0m {ln lp : List (List UInt8)} (hl : ln.length = lp.length) (hn : a0V mQ ln = true) (hp : c0P lp = true) : (j0e (n0P (aK ln ln.length) lp)).pt = e0u (smL ln lp lp.length) := by
 have e : n0N (n0P (aK ln ln.length) lp) = smL ln lp lp.length := by
  unfold n0N n0P smL
  rw [List.map_map]
  refine List.map_congr_left fun i hi => ?_
  have hi := List.mem_range.1 hi
  show (aK ln ln.length i, (rdT (lp.getD i [])).pt) = _
  rw [y0Z (x0S hp i hi)]
  unfold aK
  rw [if_pos ap16]
 rw [u0s _ ?_, e]
 intro t ht
 unfold n0P at ht
 obtain ⟨i, hi, rfl⟩ := List.mem_map.1 ht
 have hi := List.mem_range.1 hi
 show aK ln ln.length i < _
 unfold aK
 rw [if_pos ap16]
 exact Nat.lt_trans (d0Y (r0U hn i ap16)) q16
theorem u0X (al : Option Addr) (cl : Nat) (vs : List Value) (ln : List (List UInt8)) (bl : Option Addr) (dl : Nat) (us : List Value) (lp : List (List UInt8)) (w : World) (hv : Rd w al ln.length vs) (hp : BParts w vs ln) (hu : Rd w bl lp.length us) (hq : BParts w us lp) :
  Calls Tryz.prog 132 #[.slice al ln.length cl, .slice bl lp.length dl] w fun e w' => ∃ v, e = .returned (.tuple #[v, .int .i64 (h0Z ln lp : Nat)]) ∧ OwnB1 w w' v (g0P ln lp) ∧ Fr Nob w w' := by
 by_cases h1 : ln.length = lp.length
 ·rw [← h1] at hu ⊢
  by_cases h2 : ln.length ≤ 512
  ·cases hn : a0V mQ ln
   ·refine (x0G al _ cl vs ln bl dl us lp w hv hp hu hq h2 hn).mono fun e w' k => ⟨.slice none 0 0, ?_, ?_, k.2⟩
    ·rw [k.1]; unfold h0Z; rw [if_pos h1, if_pos h2, hn]; rfl
    ·unfold g0P; rw [if_pos h1, if_pos h2, hn]; exact OwnB1.nil _ _
   ·cases hr : c0P lp
    ·refine (x0F al _ cl vs ln bl dl us lp w hv hp hu hq h2 hn hr).mono fun e w' k => ⟨.slice none 0 0, ?_, ?_, k.2⟩
     ·rw [k.1]; unfold h0Z; rw [if_pos h1, if_pos h2, hn, hr]; rfl
     ·unfold g0P; rw [if_pos h1, if_pos h2, hn, hr]; exact OwnB1.nil _ _
    ·refine (D0g al _ cl vs ln bl dl us lp w hv hp hu hq h2 hn hr).mono fun e w' k => ?_
     obtain ⟨v, k1, k2, k3⟩ := k
     rw [D0m h1 hn hr] at k2
     refine ⟨v, ?_, ?_, k3⟩
     ·rw [k1]; unfold h0Z; rw [if_pos h1, if_pos h2, hn, hr]; rfl
     ·unfold g0P; rw [if_pos h1, if_pos h2, hn, hr]; exact OwnB1.of k2 (c0h _)
  ·refine (x0I al _ cl bl dl w ap16).mono fun e w' k => ⟨.slice none 0 0, ?_, ?_, k.2⟩
   ·rw [k.1]; unfold h0Z; rw [if_pos h1, if_neg h2]; rfl
   ·unfold g0P; rw [if_pos h1, if_neg h2]; exact OwnB1.nil _ _
 ·refine (x0H al _ cl bl _ dl w h1).mono fun e w' k => ⟨.slice none 0 0, ?_, ?_, k.2⟩
  ·rw [k.1]; unfold h0Z; rw [if_neg h1]; rfl
  ·unfold g0P; rw [if_neg h1]; exact OwnB1.nil _ _
attribute [local irreducible] a0C lw mix cw b0k b0y b0j a0M a0n beN b0F a0P b0C a0J a0R elN mdL a0S rtV b0G kN kc c0u a0H e0S noR b0U f0T RT.L gXn gYn rpL b0J b0q a0V c0P
end
section
open Go.RowKit Go.Mv Mvp Mvq
def chV (a : Option Addr) (n c : Nat) (e : Int) : Value := .agg #[.slice a n c, .int .i64 e]
theorem u0Y (a : Option Addr) (n c : Nat) : Tryz.prog.built 153 [(0, .slice a n c)] = some ([Value.slice a n c, .int .i64 0]).toArray := by kernel_rfl
theorem j0p (a : Option Addr) (n c : Nat) (e : Int) : Tryz.prog.built 153 [(0, .slice a n c), (1, .int .i64 e)] = some ([Value.slice a n c, .int .i64 e]).toArray := by kernel_rfl
theorem j0q (a : Option Addr) (n c : Nat) (e : Int) : ∀ v ∈ [Value.slice a n c, .int .i64 e], v.oneCell' = true := by
 intro v hv
 simp only [List.mem_cons, List.not_mem_nil, or_false] at hv
 rcases hv with rfl | rfl <;> rfl
attribute [local irreducible] a0C lw mix cw b0k b0y b0j a0M a0n beN b0F a0P b0C a0J a0R elN mdL a0S rtV b0G a0H b0J b0q a0V c0P h0Z g0P a0E
theorem q0z (m : Md) (hk : KindOf 1 m) (x : Nat) (w : World) :
  Calls Tryz.prog 64 #[i4 (elN m x)] w fun e w' => e = .returned (i4 (elN m (m.M - x % m.M))) ∧ Fr Nob w w' := by
 have HK := qH hk
 have HOK := qH hk.ok
 clear hk
 have st0 := St.start Nob w
 go_enter Tryz.func64, Tryz.ntmps64
 go_wp2_with (with_reducible refine wSk 1 ?_)
 refine a0l st0 rfl rfl rfl (cw 4 (elN m x)) rfl ?_
 intro g1 w1 st1
 clear st0
 go_wp2_with (with_reducible refine wSk 2 ?_)
 refine a0a st1 rfl rfl (z := zAd) ap14 (cw 4 0) ap12 ?_
 intro g2 w2 st2
 clear st1
 go_wp2_with fail
 refine wp_region_noPanic ?_
 refine a0o (fun wx => St Nob w wx [(g1, cw 4 (elN m x), 68), (g2, cw 4 0, 68)]) 5 (.w 1 (.t 2 (.r 0 (.r 3 (.w 4 (.m 5 .nil)))))) ap14 ap14 st2.drew (fun _ _ _ _ _ h => h) ?_
 have hd2 := st2.drew
 clear st2
 refine a0j rfl rfl apW ?_
 try simp only [clL]
 refine a0s rfl rfl rfl rfl (cw 4 (elN m x)) (fun wx hS => St.rangeL hS 0 rfl 0 _ dZl) Tryz.underlying66 rfl ap4 ?_
 try simp only [clL]
 refine a0w rfl rfl ?_
 go_simp
 refine (d0d m HK.out _).mono ?_
 rintro e' w3 ⟨gp, rfl, hle, hm, hf3⟩
 have st3 : St Nob w w3 [(g1, cw 4 (elN m x), 68), (g2, cw 4 0, 68), (gp, mdL m, 187)] := hd2.new hf3 hm hle
 clear hf3 hm hle
 clear hd2
 refine ⟨St.less st3 ap17, ?_⟩
 try simp only [clL]
 refine a0w rfl rfl ?_
 go_simp
 refine (l0h m gp _ HOK.out (st3.at 2 rfl) x).mono ?_
 rintro e' w4 ⟨rfl, hf4⟩
 have st4 := st3.keep hf4
 clear hf4
 clear st3
 refine ⟨St.less st4 ap17, ?_⟩
 try simp only [clL]
 refine a0j rfl rfl (b0A rfl _ (h0c _)) ?_
 try simp only [clL]
 refine a0q rfl rfl ?_
 refine a0h st4 1 rfl rfl rfl rfl ap5 ap4 (a0f _ _) ?_
 intro w5 st5
 clear st4
 try simp only [Act.put]
 refine a0g ?_
 refine NoPanic.normal ?_
 have hr := st5.at 1 rfl
 have hfr := st5.fr
 clear st5
 go_wp2_with fail
 exact bodyPost_ret (a0r rfl rfl hr Tryz.underlying68 rfl ap4) rfl ⟨rfl, hfr⟩
theorem u0Z (x : Nat) (a : Option Addr) (n c : Nat) (w : World) :
  Calls Tryz.prog 109 #[i4 (elN mQ x), .slice a n c] w fun e w' => ∃ g2 g3, e = .returned (.func (.func 165) #[] #[.pointer (some ⟨g2, 0, none⟩), .pointer (some ⟨g3, 0, none⟩)]) ∧ Has w' g2 (cw 4 (elN mQ x)) 68 ∧ Has w' g3 [.slice a n c] 22 ∧ Fr Nob w w' := by
 have st0 := St.start Nob w
 go_enter Tryz.func109, Tryz.ntmps109
 go_wp2_with (with_reducible refine wSk 2 ?_)
 refine a0l st0 rfl rfl rfl (cw 4 (elN mQ x)) rfl ?_
 intro g2 w1 st1
 clear st0
 go_wp2_with (with_reducible refine wSk 3 ?_)
 refine a0l st1 rfl rfl rfl [.slice a n c] rfl ?_
 intro g3 w2 st2
 clear st1
 have H2 := qH (st2.at 0 rfl)
 have H3 := qH (st2.at 1 rfl)
 have HF := qH st2.fr
 clear st2
 go_wp2_with fail
 go_ret
 exact ⟨g2, g3, rfl, H2.out, H3.out, HF.out⟩
theorem i0a (x : Nat) (w : World) : Calls Tryz.prog 51 #[i4 (elN mQ x)] w fun e w' => ∃ y : Option Addr × Nat, e = .returned (.slice y.1 32 y.2) ∧ BPart w' (.slice y.1 32 y.2) (a0P (x % mQ.M)) ∧ Fr Nob w w' := by
 refine (h0e mQ .one x w).mono ?_
 rintro e w' ⟨v, rfl, ho, hf⟩
 obtain ⟨a, c, rfl, hc, hr, -⟩ := ho.form
 rw [Nat.mul_one] at hr
 exact ⟨(a, c), rfl, ⟨a, 32, c, rfl, hc, hr⟩, hf⟩
theorem q0A (x : Nat) (g2 g3 : Nat) (a : Option Addr) (n c : Nat) (l1 : List UInt8) (b : Option Addr) (m d : Nat) (l2 : List UInt8) (w : World) (h2 : Has w g2 (cw 4 (elN mQ x)) 68) (h3 : Has w g3 [.slice b m d] 22) (hp1 : BPart w (.slice a n c) l1) (hp2 : BPart w (.slice b m d) l2) :
  Calls Tryz.prog 165 #[.slice a n c, .pointer (some ⟨g2, 0, none⟩), .pointer (some ⟨g3, 0, none⟩)] w fun e w' => ∃ v, e = .returned (.tuple #[v, .int .i64 (h0Z [a0P (1 % mQ.M), a0P (x % mQ.M)] [l1, l2] : Nat)]) ∧ Own w' 0 5 1 v (g0P [a0P (1 % mQ.M), a0P (x % mQ.M)] [l1, l2]).length (bs (g0P [a0P (1 % mQ.M), a0P (x % mQ.M)] [l1, l2])) ∧ Fr Nob w w' := by
 have HG2 := qH h2
 have HG3 := qH h3
 have HP1 := qH hp1
 have HP2 := qH hp2
 clear h2 h3 hp1 hp2
 have st0 := St.start Nob w
 go_enter Tryz.func165, Tryz.ntmps165
 go_wp2_with fail
 refine wp_region_noPanic ?_
 refine a0e st0 12 [.t 2, .w 5, .t 6, .o 7, .c 0, .c 1, .c 3, .o 4, .j 7, .j 4] (.r 8 (.w 9 (.w 10 (.w 11 (.m 12 .nil))))) ap14 ap14 (fun _ _ _ _ _ h => h) ?_
 clear st0
 refine a0d rfl rfl rfl (fun _ => rfl) (cw 4 (elN mQ x)) (fun wx hS => (HG2.out.keep (St.fr hS) id).range 0 _ dZl) Tryz.underlying68 rfl ap4 ?_
 try simp only [clL]
 refine a0m rfl rfl apX ?_
 try simp only [clL]
 refine b0m (v := ?_) rfl rfl (fun xq wx hS => ?_) ?_
 rotate_left 1
 ·(have hc := (HG3.out.keep (St.fr hS) id).cell (show [Value.slice b m d][0]? = _ from rfl); clear hS; go_simp; with_reducible rfl)
 try simp only [clL]
 refine g0O rfl rfl rfl Tryz.underlying39 g0K [.slice a n c, .slice b m d] (fun _ => rfl) (by simp [Value.cells]) rfl [.slice a n c, .slice b m d] rfl ?_
 try simp only [clL]
 refine a0c rfl rfl rfl Tryz.call63 (fun w hS hR => r0y mQ .one 1 ap15 _) (fun _ => rfl) ?_
 try simp only [clL]
 refine b0v (X := Option Addr × Nat) (fun y => .slice y.1 32 y.2) (fun y w => BPart w (.slice y.1 32 y.2) (a0P (1 % mQ.M))) (fun _ _ _ h k => h.still k) rfl rfl rfl Tryz.call51 (fun w hS hR => i0a 1 _) (fun _ => rfl) fun y7 => ?_
 try simp only [clL]
 refine b0v (X := Option Addr × Nat) (fun y => .slice y.1 32 y.2) (fun y w => BPart w (.slice y.1 32 y.2) (a0P (x % mQ.M))) (fun _ _ _ h k => h.still k) rfl rfl rfl Tryz.call51 (fun w hS hR => i0a x _) (fun _ => rfl) fun y9 => ?_
 try simp only [clL]
 refine g0O rfl rfl rfl Tryz.underlying39 g0K [.slice y7.1 32 y7.2, .slice y9.1 32 y9.2] (fun _ => rfl) (by simp [Value.cells]) rfl [.slice y7.1 32 y7.2, .slice y9.1 32 y9.2] rfl ?_
 try simp only [clL]
 refine b0f (List.mem_cons_of_mem _ List.mem_cons_self) fun g13 => ?_
 simp only [upd, reduceIte]
 try simp only [Nat.reduceEqDiff, reduceIte]
 refine b0f List.mem_cons_self fun g10 => ?_
 simp only [upd, reduceIte]
 try simp only [Nat.reduceEqDiff, reduceIte]
 refine a0t fun xq w1 st1 hR => ?_
 try dsimp only
 have H7 := qH hR.1.2
 have H9 := qH hR.2
 clear hR xq
 refine a0w rfl rfl ?_
 go_simp
 refine (u0X (some ⟨g10, 0, none⟩) 2 [.slice y7.1 32 y7.2, .slice y9.1 32 y9.2] [a0P (1 % mQ.M), a0P (x % mQ.M)] (some ⟨g13, 0, none⟩) 2 [.slice a n c, .slice b m d] [l1, l2] _ (Rd.whole (st1.at 1 rfl)) (BParts.two (H7.out.still (Fr.refl _ _)) (H9.out.still (Fr.refl _ _))) (Rd.whole (st1.at 0 rfl)) (BParts.two (HP1.out.still st1.fr) (HP2.out.still st1.fr))).mono ?_
 rintro e' w2 ⟨v, rfl, ho, hf2⟩
 have st2 := st1.keep hf2
 have HV := qH (Own.mono ho (Nat.zero_le _))
 clear ho
 clear hf2
 clear st1
 refine ⟨by first | exact st2 | exact St.less st2 ap17, ?_⟩
 try simp only [clL]
 refine a0j rfl rfl apW ?_
 try simp only [clL]
 refine a0j rfl rfl apW ?_
 try simp only [clL]
 refine a0j rfl rfl apW ?_
 try simp only [clL]
 refine a0q rfl rfl ?_
 go_simp
 try simp only [clL]
 refine a0g ?_
 refine NoPanic.normal ?_
 have hfr := st2.fr
 clear st2
 go_wp2_with fail
 go_ret2
 exact ⟨v, rfl, HV.out, hfr⟩
end
section
open Go.RowKit Go.Mv Mvp Mvq
theorem B0i : (Tryz.prog.info? 153).map (·.zero) = some (some (.agg #[.slice none 0 0, .int .i64 0])) := by kernel_rfl
def OwnU (w : World) (v : Value) (l : List UInt8) : Prop := Own w 0 5 1 v l.length (bs l)
theorem OwnU.part {w : World} {v : Value} {l : List UInt8} (h : OwnU w v l) : BPart w v l := Own.part h
theorem OwnU.still {w w' : World} {v : Value} {l : List UInt8} (h : OwnU w v l) (hf : Fr Nob w w') : OwnU w' v l := Own.still h hf
theorem OwnU.nil (w : World) : OwnU w (.slice none 0 0) [] := Own.nil _ _ _ _
attribute [local irreducible] a0C lw mix cw b0k b0y b0j a0M a0n beN b0F a0P b0C a0J a0R elN mdL a0S rtV b0G a0H b0J b0q a0V c0P h0Z g0P a0E
theorem n0w (g2 g3 : Nat) (a : Option Addr) (n c : Nat) (w : World) (l : List UInt8) (z : Int) (hop : ∀ wx, Fr Nob w wx → Calls Tryz.prog 165 #[.slice a n c, .pointer (some ⟨g2, 0, none⟩), .pointer (some ⟨g3, 0, none⟩)] wx fun e w' => ∃ v, e = .returned (.tuple #[v, .int .i64 z]) ∧ OwnU w' v l ∧ Fr Nob wx w') :
  Calls Tryz.prog 106 #[chV a n c 0, .func (.func 165) #[] #[.pointer (some ⟨g2, 0, none⟩), .pointer (some ⟨g3, 0, none⟩)]] w fun e w' => ∃ a' c', e = .returned (chV a' l.length c' z) ∧ OwnU w' (.slice a' l.length c') l ∧ Fr Nob w w' := by
 have HOP := qH hop
 clear hop
 have st0 := St.start Nob w
 go_enter Tryz.func106, Tryz.ntmps106
 go_wp2_with (with_reducible refine wSk 2 ?_)
 refine a0l st0 rfl rfl rfl [.slice a n c, .int .i64 0] rfl ?_
 intro g2 w1 st1
 clear st0
 go_wp2_with (with_reducible refine wSk 4 ?_)
 refine a0a st1 rfl rfl B0i [.slice none 0 0, .int .i64 0] rfl ?_
 intro g4 w2 st2
 clear st1
 have hc0 := (st2.at 0 rfl).cell (show [Value.slice a n c, .int .i64 0][0]? = _ from rfl)
 have hc1 := (st2.at 0 rfl).cell (show [Value.slice a n c, .int .i64 0][1]? = _ from rfl)
 go_wp2_with fail
 refine (HOP.out _ st2.fr).mono ?_
 rintro e' w3 ⟨v, rfl, ho, hf⟩
 have st3 := st2.keep hf
 clear hf st2 hc0 hc1
 obtain ⟨a', c', hv, -⟩ := Own.form ho
 subst hv
 have h4 := st3.at 1 rfl
 have HNE := qH (Own.ne ho h4 ap15)
 have HO := qH ho
 have H4 := qH h4
 have HF := qH st3.fr
 have HGE := qH (st3.own _ (List.mem_cons_of_mem _ List.mem_cons_self))
 clear ho h4 st3
 go_wp2_with (with_reducible refine wSk 20 ?_)
 refine a0Y rfl rfl _ (j0p a' l.length c' z) ?_
 go_wp2_with (with_reducible refine wSn ?_)
 refine c0G (cs := [.slice a' l.length c', .int .i64 z]) rfl rfl rfl rfl H4.out ap17 ap14 (j0q _ _ _ _) ?_
 intro w9 hg9 hf9 hz9
 clear hz9
 have ho9 : OwnU w9 (.slice a' l.length c') l := Own.keep HO.out hf9 (fun k hk e => HNE.out (by have e2 : k = g4 := e; rw [← e2]; exact hk))
 have HO9 := qH ho9
 have HF9 := qH (HF.out.new hf9 (HGE.out.resolve_right (fun h => h.elim)))
 clear hf9 ho9
 go_wp2_with fail
 exact bodyPost_ret (a0r rfl rfl hg9 Tryz.underlying153 rfl ap14) rfl ⟨a', c', rfl, HO9.out, HF9.out⟩
theorem l0K (a : Option Addr) (n c : Nat) (w : World) :
  Calls Tryz.prog 108 #[chV a n c 0] w fun e w' => e = .returned (.tuple #[.slice a n c, .int .i64 0]) ∧ Fr Nob w w' := by
 have st0 := St.start Nob w
 go_enter Tryz.func108, Tryz.ntmps108
 go_wp2_with (with_reducible refine wSk 1 ?_)
 refine a0l st0 rfl rfl rfl [.slice a n c, .int .i64 0] rfl ?_
 intro g1 w1 st1
 clear st0
 have hc0 := (st1.at 0 rfl).cell (show [Value.slice a n c, .int .i64 0][0]? = _ from rfl)
 have hc1 := (st1.at 0 rfl).cell (show [Value.slice a n c, .int .i64 0][1]? = _ from rfl)
 have hfr := st1.fr
 clear st1
 go_wp2_with fail
 go_ret2
 exact ⟨rfl, hfr⟩
theorem n0x (a : Option Addr) (n c : Nat) (z : Int) (hz : (z != 0) = true) (w : World) :
  Calls Tryz.prog 108 #[chV a n c z] w fun e w' => e = .returned (.tuple #[.slice none 0 0, .int .i64 z]) ∧ Fr Nob w w' := by
 have st0 := St.start Nob w
 go_enter Tryz.func108, Tryz.ntmps108
 go_wp2_with (with_reducible refine wSk 1 ?_)
 refine a0l st0 rfl rfl rfl [.slice a n c, .int .i64 z] rfl ?_
 intro g1 w1 st1
 clear st0
 have hc0 := (st1.at 0 rfl).cell (show [Value.slice a n c, .int .i64 z][0]? = _ from rfl)
 have hc1 := (st1.at 0 rfl).cell (show [Value.slice a n c, .int .i64 z][1]? = _ from rfl)
 have hc1d : ∀ q, (w1.drewN q).cell? ⟨g1, 0 + 1, none⟩ = some (.int .i64 z) := fun q => hc1
 have hfr := st1.fr
 clear st1
 go_wp2_with fail
 go_quiet (fail)
 go_wp2_with fail
 go_ret2
 exact ⟨rfl, hfr.drewN _⟩
end
end Go.Proofs.YtemcankmggmgoaaGreat
namespace Mvp
theorem B0j : ∀ (n : Nat) (l m : List UInt8), l.length = n → m.length = n → beN l = beN m → l = m := by
 intro n
 induction n with
 | zero => intro l m hl hm _; rw [List.length_eq_zero_iff.1 hl, List.length_eq_zero_iff.1 hm]
 | succ n ih =>
  intro l m hl hm h
  obtain ⟨a, x, rfl⟩ : ∃ a x, l = a ++ [x] := by
   rcases List.eq_nil_or_concat l with h | ⟨a, x, h⟩
   ·subst h; simp at hl
   ·exact ⟨a, x, by simpa using h⟩
  obtain ⟨b, y, rfl⟩ : ∃ b y, m = b ++ [y] := by
   rcases List.eq_nil_or_concat m with h | ⟨a, x, h⟩
   ·subst h; simp at hm
   ·exact ⟨a, x, by simpa using h⟩
  rw [e0I, e0I] at h
  have hx := x.toNat_lt
  have hy := y.toNat_lt
  have e : beN a = beN b := by omega
  have e2 : x.toNat = y.toNat := by omega
  rw [ih a b (by simpa using hl) (by simpa using hm) e, UInt8.toNat_inj.1 e2]
theorem beN_zero {l : List UInt8} (h : beN l = 0) : l = List.replicate l.length 0 := by
 refine B0j l.length _ _ rfl ap17 ?_
 rw [h]
 generalize l.length = n
 induction n with
 | zero => rfl
 | succ n ih => rw [List.replicate_succ', e0I, ← ih]; rfl
end Mvp
namespace Mvq
open Mvp
end Mvq
namespace Go.Proofs.YtemcankmggmgoaaGreat
open Go.RowKit Go.Mv Mvp Mvq
attribute [local irreducible] a0C lw mix cw b0k b0y b0j a0M a0n beN b0F a0P b0C a0J a0R elN mdL a0S rtV b0G kN kc c0u a0H e0S noR b0U f0T RT.L
theorem _root_.ap1 {p : Prop} (h : p := by first | (rw [a0i]; kernel_rfl) | (rw [RT.len]; kernel_rfl) | (rw [e0R]; kernel_rfl) | (simp only [List.length_append, a0i]; kernel_rfl) | (simp only [List.length_append, a0i, RT.len, e0R]; kernel_rfl)) : p := h
theorem _root_.ap3 {p : Prop} (h : p := by first | (simp only [a0i]; done) | (simp only [List.length_append, a0i, RT.len, e0R]; done)) : p := h
theorem _root_.ap7 {p : Prop} (h : p := by first | (rw [a0i]; kernel_rfl) | (simp only [RT.len]; kernel_rfl)) : p := h
theorem x0T (n : Nat) (w : World) : Calls Tryz.prog 55 #[i4 n] w fun e w' => e = .returned (.agg (b0U n l0J).L.toArray) ∧ Fr Nob w w' := by
 have st0 := St.start Nob w
 go_enter Tryz.func55, Tryz.ntmps55
 go_wp2_with (with_reducible refine wSk 1 ?_)
 refine a0l st0 rfl rfl rfl (cw 4 n) rfl ?_
 intro g1 w1 st1
 clear st0
 go_wp2_with (with_reducible refine wSk 2 ?_)
 refine a0a st1 rfl rfl (z := zAc) ap14 (cw 12 0) ap12 ?_
 intro g2 w2 st2
 clear st1
 go_wp2_with fail
 refine wp_region_noPanic ?_
 refine a0e st2 3 [.t 0, .c 1, .c 2] (.m 3 .nil) ap14 ap14 (fun _ _ _ _ _ h => h) ?_
 clear st2
 refine a0d rfl rfl rfl (fun _ => rfl) (cw 4 n) (fun wx hS => St.rangeL hS 0 rfl 0 _ dZl) Tryz.underlying60 rfl ap1 ?_
 try simp only [clL]
 refine a0c rfl rfl rfl Tryz.call127 (fun w hS hR => E0J _) (fun _ => rfl) ?_
 try simp only [clL]
 refine a0c rfl rfl rfl Tryz.call69 (fun w hS hR => x0N n l0J _) (fun _ => rfl) ?_
 try simp only [clL]
 refine a0t fun xq w3 st3 hR => ?_
 try dsimp only
 clear hR xq
 refine a0q rfl rfl ?_
 refine a0h st3 1 rfl rfl rfl rfl ap3 ap7 (RT.one _) ?_
 intro w4 st4
 repeat (first | simp only [List.cons_append] at st4 | simp only [List.nil_append] at st4 | simp only [List.set_cons_succ] at st4 | simp only [List.set_cons_zero] at st4)
 clear st3
 try simp only [Act.put]
 refine a0g ?_
 refine NoPanic.normal ?_
 have hr := st4.at 1 rfl
 have hfr := st4.fr
 clear st4
 go_wp2_with fail
 exact bodyPost_ret (a0r rfl rfl hr Tryz.underlying62 rfl ap7) rfl ⟨rfl, hfr⟩
end Go.Proofs.YtemcankmggmgoaaGreat
namespace Mvp
end Mvp
namespace Go.Proofs.YtemcankmggmgoaaGreat
section
open Go.RowKit Go.Mv Mvp
attribute [local irreducible] a0C lw mix cw b0k b0y b0j a0M a0n beN b0F a0P b0C a0J a0R elN mdL b0e a0V a0S
end
section
open Go.RowKit Go.Mv Mvp Mvq
theorem p0d : mQ.M = qN := by decide
theorem n0y (s : ByteArray) (w : World) : Calls Tryz.prog 72 #[.string s] w fun e w' => ∃ N : Nat, e = .returned (.tuple #[i4 N, .bool (a0S mQ s.data.toList)]) ∧ (a0S mQ s.data.toList = true → N = beN s.data.toList) ∧ Fr Nob w w' := by
 cases h : a0S mQ s.data.toList
 ·exact (x0y mQ .one s w h).mono fun e w' ⟨N, k1, k2⟩ => ⟨N, k1, fun h => (by cases h), k2⟩
 ·exact (x0x mQ .one s w h).mono fun e w' k => ⟨_, k.1, fun _ => rfl, k.2⟩
attribute [local irreducible] a0C lw mix cw b0k b0y b0j a0M a0n beN b0F a0P b0C a0J a0R elN mdL a0S rtV b0G kN kc c0u a0H e0S noR b0U f0T RT.L gXn gYn rpL b0J b0q
end
section
open Go.RowKit Go.Mv Mvp Mvq
theorem k0r (x : Nat) : beN (a0P (x % mQ.M)) = x % mQ.M := p0N _ (Nat.lt_trans (Nat.mod_lt x ap15) ap15)
theorem g0Q (x : Nat) : a0S mQ (a0P (x % mQ.M)) = true := by
 unfold a0S
 rw [a0X, k0r, decide_eq_true rfl, decide_eq_true (Nat.mod_lt x ap15)]
 rfl
theorem z0g (x y : Nat) (l1 l2 : List UInt8) : h0Z [a0P (x % mQ.M), a0P (y % mQ.M)] [l1, l2] = if (b0J l1 && b0J l2) = true then 0 else 4 := by
 have hn : a0V mQ [a0P (x % mQ.M), a0P (y % mQ.M)] = true := by unfold a0V; simp only [List.all_cons, List.all_nil, g0Q, Bool.and_self]
 have hr : c0P [l1, l2] = (b0J l1 && b0J l2) := by unfold c0P; simp only [List.all_cons, List.all_nil, Bool.and_true]
 have e1 : [a0P (x % mQ.M), a0P (y % mQ.M)].length = [l1, l2].length := rfl
 have e2 : [a0P (x % mQ.M), a0P (y % mQ.M)].length ≤ 512 := by simp
 unfold h0Z
 rw [if_pos e1, if_pos e2, hn, hr]
 rfl
theorem z0h (x y : Nat) (l1 l2 : List UInt8) : g0P [a0P (x % mQ.M), a0P (y % mQ.M)] [l1, l2] = if (b0J l1 && b0J l2) = true then a0H (a0T (a0E x (b0q l1)) (a0E y (b0q l2))) else [] := by
 have hn : a0V mQ [a0P (x % mQ.M), a0P (y % mQ.M)] = true := by unfold a0V; simp only [List.all_cons, List.all_nil, g0Q, Bool.and_self]
 have hr : c0P [l1, l2] = (b0J l1 && b0J l2) := by unfold c0P; simp only [List.all_cons, List.all_nil, Bool.and_true]
 have e1 : [a0P (x % mQ.M), a0P (y % mQ.M)].length = [l1, l2].length := rfl
 have e2 : [a0P (x % mQ.M), a0P (y % mQ.M)].length ≤ 512 := by simp
 unfold g0P
 rw [if_pos e1, if_pos e2, hn, hr]
 show (if (b0J l1 && b0J l2) = true then _ else _) = _
 by_cases h : (b0J l1 && b0J l2) = true
 ·rw [if_pos h, if_pos h]
  simp only [Bool.and_eq_true] at h
  have e : smL [a0P (x % mQ.M), a0P (y % mQ.M)] [l1, l2] 2 = [(x % mQ.M, b0q l1), (y % mQ.M, b0q l2)] := by
   show [(beN (a0P (x % mQ.M)), b0q l1), (beN (a0P (y % mQ.M)), b0q l2)] = _
   rw [k0r, k0r]
  show a0H (e0u (smL [a0P (x % mQ.M), a0P (y % mQ.M)] [l1, l2] 2)) = _
  rw [e]
  show a0H (a0T (a0E (x % mQ.M) (b0q l1)) (a0T (a0E (y % mQ.M) (b0q l2)) .O)) = _
  rw [b0w, p0d, e0Q (l0q h.1), e0Q (l0q h.2)]
 ·rw [if_neg h, if_neg h]
def unE (r s p : List UInt8) : Int := if a0S mQ r = true then (if (b0J s && b0J p) = true then 0 else 4) else 3
noncomputable def unS (r s p : List UInt8) : List UInt8 := if a0S mQ r = true then (if (b0J s && b0J p) = true then a0H (a0T (b0q s) (f0j (a0E (beN r) (b0q p)))) else []) else []
theorem v0a (p : Pt) : a0E 1 p = p := rfl
theorem D0n {r s p : List UInt8} (h : a0S mQ r = true) (h2 : (b0J s && b0J p) = true) : unE r s p = 0 ∧ unS r s p = a0H (a0T (b0q s) (f0j (a0E (beN r) (b0q p)))) := by
 unfold unE unS; rw [if_pos h, if_pos h, if_pos h2, if_pos h2]; exact ⟨rfl, rfl⟩
theorem F0c {r s p : List UInt8} (h : a0S mQ r = true) (h2 : ¬ (b0J s && b0J p) = true) : unE r s p = 4 ∧ unS r s p = [] := by
 unfold unE unS; rw [if_pos h, if_pos h, if_neg h2, if_neg h2]; exact ⟨rfl, rfl⟩
theorem E0K {r s p : List UInt8} (h : a0S mQ r = false) : unE r s p = 3 ∧ unS r s p = [] := by
 unfold unE unS; rw [if_neg (by rw [h]; decide), if_neg (by rw [h]; decide)]; exact ⟨rfl, rfl⟩
attribute [local irreducible] a0C lw mix cw b0k b0y b0j a0M a0n beN b0F a0P b0C a0J a0R elN mdL a0S rtV b0G kN kc c0u a0H e0S noR b0U f0T RT.L gXn gYn rpL b0J b0q a0E h0Z g0P unE unS
theorem p0e (as_ : Option Addr) (ns cs : Nat) (s : List UInt8) (ar : Option Addr) (nr cr : Nat) (r : List UInt8) (vp : Value) (p : List UInt8) (w : World) (hs : BPart w (.slice as_ ns cs) s) (hr : RdB w ar nr r) (hp : BPart w vp p) (hb : a0S mQ r = false) :
  Calls Tryz.prog 102 #[.slice as_ ns cs, .slice ar nr cr, vp] w fun e w' => e = .returned (.tuple #[.slice none 0 0, .int .i64 3]) ∧ Fr Nob w w' := by
 have HS := qH hs
 have HR := qH hr
 have HP := qH hp
 have HB := qH hb
 clear hs hr hb
 clear hp
 have st0 := St.start Nob w
 go_enter Tryz.func102, Tryz.ntmps102
 go_wp2_with fail
 refine (t0w mQ .one ar nr cr r _ (HR.out.still st0.fr) HB.out).mono ?_
 rintro e' w1 ⟨rfl, hf1⟩
 have st1 := st0.keep hf1
 clear st0 hf1
 go_wp2_with (with_reducible refine wSk 8 ?_)
 refine a0a st1 rfl rfl (z := zAd) ap14 (cw 4 0) ap12 ?_
 intro g8 w2 st2
 clear st1
 go_wp2_with (with_reducible refine wSn ?_)
 refine a0b st2 0 rfl rfl rfl rfl rfl ap3 ap1 (a0f _ _) ?_
 intro w3 st3
 clear st2
 have hfr := st3.fr
 clear st3
 go_wp2_with fail
 go_ret2
 exact ⟨rfl, hfr⟩
theorem n0z (as_ : Option Addr) (ns cs : Nat) (s : List UInt8) (ar : Option Addr) (nr cr : Nat) (r : List UInt8) (vp : Value) (p : List UInt8) (w : World) (hs : BPart w (.slice as_ ns cs) s) (hr : RdB w ar nr r) (hp : BPart w vp p) (hb : a0S mQ r = true) :
  Calls Tryz.prog 102 #[.slice as_ ns cs, .slice ar nr cr, vp] w fun e w' => ∃ v, e = .returned (.tuple #[v, .int .i64 (unE r s p)]) ∧ BPart w' v (unS r s p) ∧ Fr Nob w w' := by
 obtain ⟨ap, np, cp, rfl, hcp, hrp⟩ := hp
 have HP2 := qH (show BPart w (.slice ap np cp) p from ⟨ap, np, cp, rfl, hcp, hrp⟩)
 have HS := qH hs
 have HR := qH hr
 have HB := qH hb
 clear hs hr hb hcp hrp
 have st0 := St.start Nob w
 go_enter Tryz.func102, Tryz.ntmps102
 go_wp2_with fail
 refine (m0V mQ .one ar nr cr r _ (HR.out.still st0.fr) HB.out).mono ?_
 rintro e' w1 ⟨rfl, hf1⟩
 have st1 := st0.keep hf1
 clear st0 hf1
 go_wp2_with (with_reducible refine wSk 8 ?_)
 refine a0a st1 rfl rfl (z := zAd) ap14 (cw 4 0) ap12 ?_
 intro g8 w2 st2
 clear st1
 go_wp2_with (with_reducible refine wSn ?_)
 refine a0b st2 0 rfl rfl rfl rfl rfl ap3 ap1 (a0f _ _) ?_
 intro w3 st3
 clear st2
 go_wp2_with (with_reducible refine wSk 18 ?_)
 refine a0Y rfl rfl _ (u0Y as_ ns cs) ?_
 go_wp2_with (with_reducible refine wSk 19 ?_)
 refine a0p st3 0 rfl rfl rfl Tryz.underlying68 rfl rfl ap1 ?_
 go_wp2_with fail
 refine (q0z mQ .one (beN r) _).mono ?_
 rintro e' w4 ⟨rfl, hf4⟩
 have st4 := st3.keep hf4
 clear st3 hf4
 go_wp2_with fail
 refine (u0Z (mQ.M - beN r % mQ.M) ap np cp _).mono ?_
 rintro e' w5 ⟨g2, g3, rfl, hg2, hg3, hf5⟩
 have st5 := st4.keep hf5
 have HG2 := qH hg2
 have HG3 := qH hg3
 clear hg2 hg3
 clear st4 hf5
 go_wp2_with fail
 refine (n0w g2 g3 as_ ns cs _ (g0P [a0P (1 % mQ.M), a0P ((mQ.M - beN r % mQ.M) % mQ.M)] [s, p]) (h0Z [a0P (1 % mQ.M), a0P ((mQ.M - beN r % mQ.M) % mQ.M)] [s, p] : Nat) (fun wx hfx => q0A (mQ.M - beN r % mQ.M) g2 g3 as_ ns cs s ap np cp p wx (HG2.out.keep hfx id) (HG3.out.keep hfx id) (HS.out.still (st5.fr.then hfx)) (HP2.out.still (st5.fr.then hfx)))).mono ?_
 rintro e' w6 ⟨a', c', rfl, ho, hf6⟩
 have st6 := st5.keep hf6
 have HO := qH ho
 clear ho HG2 HG3
 clear st5 hf6
 have hE := z0g 1 (mQ.M - beN r % mQ.M) s p
 have hS := z0h 1 (mQ.M - beN r % mQ.M) s p
 by_cases hk : (b0J s && b0J p) = true
 ·rw [if_pos hk] at hE hS
  have hneg : a0E (mQ.M - beN r % mQ.M) (b0q p) = f0j (a0E (beN r) (b0q p)) := by rw [p0d]; exact q0s (l0q (by simp only [Bool.and_eq_true] at hk; exact hk.2)) _
  rw [hneg, v0a] at hS
  have HU := qH (D0n HB.out hk)
  have HO2 := HO.out
  rw [hS] at HO2 ⊢
  rw [hE]
  have HOK := qH HO2
  clear hE hS hneg hk HO2 HO
  have HF := qH st6.fr
  clear st6
  go_wp2_with fail
  refine (l0K _ _ _ _).mono ?_
  rintro e' wE ⟨rfl, hf⟩
  have hfr := HF.out.then hf
  have hpart := (HOK.out.still hf).part
  clear hf HF HOK
  have HPT := qH hpart
  clear hpart
  go_wp2_with fail
  go_ret2
  exact ⟨_, by rw [HU.out.1]; rfl, by rw [HU.out.2]; exact HPT.out, hfr⟩
 ·rw [if_neg hk] at hE hS
  have HU := qH (F0c HB.out hk)
  rw [hE]
  clear hS hk HO
  have HF := qH st6.fr
  clear st6 hE
  go_wp2_with fail
  refine (n0x _ _ _ _ ap15 _).mono ?_
  rintro e' wE ⟨rfl, hf⟩
  have hfr := HF.out.then hf
  clear hf HF
  go_wp2_with fail
  go_ret2
  exact ⟨_, by rw [HU.out.1]; rfl, by rw [HU.out.2]; exact (OwnU.nil _).part, hfr⟩
theorem v0b (as_ : Option Addr) (ns cs : Nat) (s : List UInt8) (ar : Option Addr) (nr cr : Nat) (r : List UInt8) (vp : Value) (p : List UInt8) (w : World) (hs : BPart w (.slice as_ ns cs) s) (hr : RdB w ar nr r) (hp : BPart w vp p) :
  Calls Tryz.prog 102 #[.slice as_ ns cs, .slice ar nr cr, vp] w fun e w' => ∃ v, e = .returned (.tuple #[v, .int .i64 (unE r s p)]) ∧ BPart w' v (unS r s p) ∧ Fr Nob w w' := by
 cases hb : a0S mQ r
 ·refine (p0e as_ ns cs s ar nr cr r vp p w hs hr hp hb).mono fun e w' k => ⟨.slice none 0 0, ?_, ?_, k.2⟩
  ·rw [k.1, (E0K hb).1]
  ·rw [(E0K hb).2]; exact (OwnU.nil _).part
 ·exact n0z as_ ns cs s ar nr cr r vp p w hs hr hp hb
end
section
open Go.RowKit Go.Mv Mvp Mvq
noncomputable def c0T (xs : List Nat) : List Value := xs.flatMap fun x => cw 4 (elN mQ x)
theorem k0s : ∀ (xs : List Nat) (j : Nat) (hj : j < xs.length), ((c0T xs).drop (j * 4)).take 4 = cw 4 (elN mQ (xs[j]'hj))
 | x :: xs, 0, _ => by
  simp only [c0T, List.flatMap_cons, Nat.zero_mul, List.drop_zero, List.getElem_cons_zero]
  exact List.take_left' (a0i _ _)
 | x :: xs, j + 1, hj => by
  have h := k0s xs j (by simpa using hj)
  simp only [List.getElem_cons_succ]
  rw [← h]
  simp only [c0T, List.flatMap_cons]
  rw [show (j + 1) * 4 = (cw 4 (elN mQ x)).length + j * 4 by rw [a0i]; omega, List.drop_append, List.drop_of_length_le (Nat.le_add_right _ _), List.nil_append, Nat.add_sub_cancel_left]
theorem k0t (xs : List Nat) : (c0T xs).length = xs.length * 4 := by
 induction xs with
 | nil => rfl
 | cons x xs ih => simp only [c0T, List.flatMap_cons, List.length_append, a0i] at *; rw [ih, List.length_cons]; omega
noncomputable def zB (xs : List Nat) : List (List UInt8) := xs.map fun x => a0P (x % mQ.M)
theorem B0k (xs : List Nat) (j : Nat) (hj : j < xs.length) : (zB xs).take (j + 1) = (zB xs).take j ++ [a0P (xs[j]'hj % mQ.M)] := by
 rw [List.take_succ_eq_append_getElem (by simpa [zB] using hj)]
 simp [zB]
theorem q0B (xs : List Nat) : (zB xs).length = xs.length := by simp [zB]
theorem c0m : (Tryz.prog.info? 22).map (fun i => (i.zero, i.size, i.bytes)) = some (some (.slice none 0 0), 1, 24) := by kernel_rfl
attribute [local irreducible] a0C lw mix cw b0k b0y b0j a0M a0n beN b0F a0P b0C a0J a0R elN mdL a0S rtV b0G a0H b0J b0q a0V c0P h0Z g0P a0E b0g b0x toB a0u a0B b0h b0R a0L c0g b0b a0y c0s c0R c0T
theorem F0d (x y : Nat) (w : World) :
  Calls Tryz.prog 117 #[i4 (elN mQ x), i4 (elN mQ y)] w fun e w' => e = .returned (i4 (elN mQ (x + y))) ∧ Fr Nob w w' := by
 have st0 := St.start Nob w
 go_enter Tryz.func117, Tryz.ntmps117
 go_wp2_with (with_reducible refine wSk 2 ?_)
 refine a0l st0 rfl rfl rfl (cw 4 (elN mQ x)) rfl ?_
 intro g2 w1 st1
 clear st0
 go_wp2_with (with_reducible refine wSk 3 ?_)
 refine a0l st1 rfl rfl rfl (cw 4 (elN mQ y)) rfl ?_
 intro g3 w2 st2
 clear st1
 go_wp2_with (with_reducible refine wSk 4 ?_)
 refine a0a st2 rfl rfl (z := zAd) ap14 (cw 4 0) ap12 ?_
 intro g4 w3 st3
 clear st2
 go_wp2_with fail
 refine wp_region_noPanic ?_
 refine a0o (fun wx => St Nob w wx [(g2, cw 4 (elN mQ x), 68), (g3, cw 4 (elN mQ y), 68), (g4, cw 4 0, 68)]) 7 (.w 1 (.t 2 (.w 3 (.t 4 (.r 0 (.r 5 (.w 6 (.m 7 .nil)))))))) ap14 ap14 st3.drew (fun _ _ _ _ _ h => h) ?_
 have hd3 := st3.drew
 clear st3
 refine a0j rfl rfl apW ?_
 try simp only [clL]
 refine a0s rfl rfl rfl rfl (cw 4 (elN mQ x)) (fun wx hS => St.rangeL hS 0 rfl 0 _ dZl) Tryz.underlying66 rfl ap4 ?_
 try simp only [clL]
 refine a0j rfl rfl apW ?_
 try simp only [clL]
 refine a0s rfl rfl rfl rfl (cw 4 (elN mQ y)) (fun wx hS => St.rangeL hS 1 rfl 0 _ dZl) Tryz.underlying66 rfl ap4 ?_
 try simp only [clL]
 refine a0w rfl rfl ?_
 go_simp
 refine (d0d mQ .one _).mono ?_
 rintro e' w4 ⟨gp, rfl, hle, hm, hf4⟩
 have st4 : St Nob w w4 [(g2, cw 4 (elN mQ x), 68), (g3, cw 4 (elN mQ y), 68), (g4, cw 4 0, 68), (gp, mdL mQ, 187)] := hd3.new hf4 hm hle
 clear hf4 hm hle
 clear hd3
 refine ⟨St.less st4 ap17, ?_⟩
 try simp only [clL]
 refine a0w rfl rfl ?_
 go_simp
 refine (g0v mQ gp _ m0H (st4.at 3 rfl) x y).mono ?_
 rintro e' w5 ⟨rfl, hf5⟩
 have st5 := st4.keep hf5
 clear hf5
 clear st4
 refine ⟨St.less st5 ap17, ?_⟩
 try simp only [clL]
 refine a0j rfl rfl (b0A rfl _ (h0c _)) ?_
 try simp only [clL]
 refine a0q rfl rfl ?_
 refine a0h st5 2 rfl rfl rfl rfl ap5 ap4 (a0f _ _) ?_
 intro w6 st6
 clear st5
 try simp only [Act.put]
 refine a0g ?_
 refine NoPanic.normal ?_
 have hr := st6.at 2 rfl
 have hfr := st6.fr
 clear st6
 go_wp2_with fail
 exact bodyPost_ret (a0r rfl rfl hr Tryz.underlying68 rfl ap4) rfl ⟨rfl, hfr⟩
theorem E0o (z x y : Nat) (w : World) :
  Calls Tryz.prog 49 #[i4 (elN mQ z), i4 (elN mQ x), i4 (elN mQ y)] w fun e w' => e = .returned (i4 (elN mQ (z + x * y))) ∧ Fr Nob w w' := by
 have st0 := St.start Nob w
 go_enter Tryz.func49, Tryz.ntmps49
 go_wp2_with (with_reducible refine wSk 3 ?_)
 refine a0l st0 rfl rfl rfl (cw 4 (elN mQ z)) rfl ?_
 intro g3 w1 st1
 clear st0
 go_wp2_with (with_reducible refine wSk 4 ?_)
 refine a0l st1 rfl rfl rfl (cw 4 (elN mQ x)) rfl ?_
 intro g4 w2 st2
 clear st1
 go_wp2_with (with_reducible refine wSk 5 ?_)
 refine a0l st2 rfl rfl rfl (cw 4 (elN mQ y)) rfl ?_
 intro g5 w3 st3
 clear st2
 go_wp2_with (with_reducible refine wSk 6 ?_)
 refine a0a st3 rfl rfl (z := zAd) ap14 (cw 4 0) ap12 ?_
 intro g6 w4 st4
 clear st3
 go_wp2_with fail
 refine wp_region_noPanic ?_
 refine a0e st4 5 [.t 0, .t 1, .t 2, .c 3, .c 4] (.m 5 .nil) ap14 ap14 (fun _ _ _ _ _ h => h) ?_
 clear st4
 refine a0d rfl rfl rfl (fun _ => rfl) (cw 4 (elN mQ z)) (fun wx hS => St.rangeL hS 0 rfl 0 _ dZl) Tryz.underlying68 rfl ap4 ?_
 try simp only [clL]
 refine a0d rfl rfl rfl (fun _ => rfl) (cw 4 (elN mQ x)) (fun wx hS => St.rangeL hS 1 rfl 0 _ dZl) Tryz.underlying68 rfl ap4 ?_
 try simp only [clL]
 refine a0d rfl rfl rfl (fun _ => rfl) (cw 4 (elN mQ y)) (fun wx hS => St.rangeL hS 2 rfl 0 _ dZl) Tryz.underlying68 rfl ap4 ?_
 try simp only [clL]
 refine a0c rfl rfl rfl Tryz.call92 (fun w hS hR => w0J mQ .one x y _) (fun _ => rfl) ?_
 try simp only [clL]
 refine a0c rfl rfl rfl Tryz.call117 (fun w hS hR => F0d z (x * y) _) (fun _ => rfl) ?_
 try simp only [clL]
 refine a0t fun xq w5 st5 hR => ?_
 try dsimp only
 clear hR xq
 refine a0q rfl rfl ?_
 refine a0h st5 3 rfl rfl rfl rfl ap5 ap4 (a0f _ _) ?_
 intro w6 st6
 repeat (first | simp only [List.cons_append] at st6 | simp only [List.nil_append] at st6 | simp only [List.set_cons_succ] at st6 | simp only [List.set_cons_zero] at st6)
 clear st5
 try simp only [Act.put]
 refine a0g ?_
 refine NoPanic.normal ?_
 have hr := st6.at 3 rfl
 have hfr := st6.fr
 clear st6
 go_wp2_with fail
 exact bodyPost_ret (a0r rfl rfl hr Tryz.underlying68 rfl ap4) rfl ⟨rfl, hfr⟩
theorem x0U (al : Option Addr) (c : Nat) (xs : List Nat) (w : World) (hv : Rd w al (xs.length * 4) (c0T xs)) (hn : xs.length ≤ 100000) :
  Calls Tryz.prog 133 #[.slice al xs.length c] w fun e w' => ∃ v, e = .returned v ∧ SOwn w' w.heap.size v (zB xs) ∧ Fr Nob w w' := by
 have HV := qH hv
 clear hv
 go_enter Tryz.func133, Tryz.ntmps133
 go_wp2_with fail
 go_loopw [3, 8] (fun q i wr => ∃ j : Nat, j ≤ xs.length ∧ i = .int .i64 (j : Int) ∧ SOwn wr w.heap.size q ((zB xs).take j) ∧ Fr Nob w wr) (fun _ i _ => (xs.length - intOf i).toNat)
 case atStart => exact ⟨0, by omega, rfl, by rw [List.take_zero]; exact SOwn.nil _ _, Fr.refl _ _⟩
 case round =>
  obtain ⟨j, hj, rfl, hS, hfj⟩ := hrel
  by_cases hlt : j < xs.length
  ·have hltI : (j : Int) < (xs.length : Int) := by omega
   have hnI : (xs.length : Int) ≤ 100000 := by omega
   have hV := HV.out.still hfj
   obtain ⟨b, o, rfl, hat⟩ := hV.at ap16
   have hat4 : At wr b (o + j * 4) (cw 4 (elN mQ xs[j])) := by
    have := hat.sub (j * 4) 4
    rwa [k0s xs j hlt] at this
   have HTK := qH (B0k xs j hlt)
   generalize xs[j] = x at *
   have HAT := qH hat4
   obtain ⟨vs, hown, hpo, hsep⟩ := hS
   have hll : ((zB xs).take j).length = j := by rw [List.length_take, q0B]; omega
   have hown0 := hown
   rw [hll] at hown
   have HLL := qH hll
   have HO0 := qH hown0
   have HO := qH hown
   have HPO := qH hpo
   have HSEP := qH hsep
   have HFJ := qH hfj
   have st0 := St.start Nob wr
   clear hV hat hat4 hll hown0 hown hpo hsep hfj
   go_wp2_with (with_reducible refine wSk 11 ?_)
   refine g0j rfl rfl Tryz.underlying68 rfl rfl HAT.out (h0k _) ?_
   clear HAT
   go_wp2_with (with_reducible refine wSk 5 ?_)
   refine a0a st0 rfl rfl D0d (cw 4 0) ap12 ?_
   intro g5 w1 st1
   clear st0
   go_wp2_with (with_reducible refine wSn ?_)
   refine a0b st1 0 rfl rfl rfl rfl rfl (u0y _ _) (h0k _) (a0f _ _) ?_
   intro w2 st2
   clear st1
   go_wp2_with (with_reducible refine wSk 13 ?_)
   refine a0p st2 0 rfl rfl rfl Tryz.underlying68 rfl rfl (h0k _) ?_
   go_wp2_with fail
   refine (h0e mQ .one x _).mono ?_
   rintro e' w3 ⟨v, rfl, hown1, hf3⟩
   have hf23 := st2.fr.then hf3
   have HSZ := qH (HFJ.out.size)
   have hown1' := hown1.mono st2.fr.size
   obtain ⟨av, cv, rfl, -⟩ := g0i hown1
   have HO1 := qH hown1'
   have HF3 := qH hf23
   clear st2 hown1 hown1' hf3 hf23
   go_wp2_with (with_reducible refine wSk 15 ?_)
   refine c0q rfl rfl Tryz.underlying39 c0m [.slice av 32 cv] rfl (by simp; rfl) rfl rfl ?_
   intro w4 hh4 hf4 hz4
   clear hz4
   have hownq := (HO.out.still HF3.out).still hf4
   have hfr4 := (HFJ.out.then HF3.out).then hf4
   have HF4 := qH hf4
   clear hf4
   generalize w3.heap.size = g1 at *
   have hsz4 := hfr4.size
   have hrd4 := Rd.whole hh4
   clear hh4
   have HRD4 := qH hrd4
   have HQ4 := qH hownq
   have HFR4 := qH hfr4
   have HZ4 := qH hsz4
   clear hrd4 hownq hfr4 hsz4
   go_wp2_with (with_reducible refine wSk 16 ?_)
   refine c0E rfl rfl Tryz.underlying39 c0m rfl ap15 HQ4.out rfl rfl HRD4.out (fun u hu => by simp only [List.mem_singleton] at hu; subst hu; rfl) ap11 ap16 HZ4.out ?_
   intro v5 w5 hown5 hf5 hb5
   clear hb5
   have hfr5 := HQ4.out.fr HFR4.out (Nat.le_refl _) hf5
   have hfin : SOwn w5 w.heap.size v5 ((zB xs).take (j + 1)) := by
    rw [HTK.out]
    refine SOwn.snocF (w := wr) HO0.out HPO.out HSEP.out HSZ.out (by rw [a0X]; exact HO1.out) HF3.out HF4.out (by rw [HLL.out]; exact hown5) hf5
   have HFIN := qH hfin
   have HFR5 := qH hfr5
   clear hown5 hf5 hfr5 hfin HQ4 HRD4 HFR4 HZ4 HO HO0 HPO HSEP HO1
   go_wp2_with fail
   go_roundw
   case rel => exact ⟨j + 1, by omega, by go_num, HFIN.out, HFR5.out⟩
   case measure => simp [intOf]; omega
  ·have hge : ¬ ((j : Int) < (xs.length : Int)) := by omega
   rw [List.take_of_length_le (by rw [q0B]; omega)] at hS
   have HS := qH hS
   have HF := qH hfj
   clear hS hfj hlt
   go_wp2_with fail
   go_ret
   exact ⟨_, rfl, HS.out, HF.out⟩
theorem E0L (x : Nat) {l : List UInt8} (h : b0J l = true) : tS (a0P (x % mQ.M)) l = a0H (a0E x (b0q l)) := by
 rw [(t_ok (g0Q x) h).2, k0r, p0d, e0Q (l0q h)]
theorem OwnB1.back {w0 w w' : World} {v : Value} {l : List UInt8} (h : OwnB1 w w' v l) (hs : w0.heap.size ≤ w.heap.size) : OwnB1 w0 w' v l := Own.mono h hs
theorem OwnU.b1 {w w' : World} {v : Value} {l : List UInt8} (h : OwnB1 w w' v l) : OwnU w' v l := Own.mono h (Nat.zero_le _)
theorem OwnU.ptb {w : World} {v : Value} {l : List UInt8} (h : OwnU w v l) (hn : l.length ≤ 1000000) : PartIs w v l := c0d h hn
theorem v0c (x : Nat) (va : Value) (l : List UInt8) (w : World) (hp : BPart w va l) :
  Calls Tryz.prog 80 #[i4 (elN mQ x), va] w fun e w' => ∃ v, e = .returned v ∧ OwnB1 w w' v (tS (a0P (x % mQ.M)) l) ∧ Fr Nob w w' := by
 have HP := qH hp
 clear hp
 have st0 := St.start Nob w
 go_enter Tryz.func80, Tryz.ntmps80
 go_wp2_with (with_reducible refine wSk 2 ?_)
 refine a0l st0 rfl rfl rfl (cw 4 (elN mQ x)) rfl ?_
 intro g2 w1 st1
 clear st0
 go_wp2_with (with_reducible refine wSk 8 ?_)
 refine a0p st1 0 rfl rfl rfl Tryz.underlying68 rfl rfl (h0k _) ?_
 go_wp2_with fail
 refine (i0a x _).mono ?_
 rintro e' w2 ⟨y, rfl, hb, hf2⟩
 have hfr2 := st1.fr.then hf2
 have HB := qH hb
 have HF := qH hfr2
 clear st1 hb hf2 hfr2
 go_wp2_with fail
 refine (h0W _ va _ l _ HB.out (HP.out.still HF.out)).mono ?_
 rintro e' w3 ⟨v, rfl, ho, hf3⟩
 have HO := qH (OwnB1.back ho HF.out.size)
 have hfr := HF.out.then hf3
 clear ho hf3 HF HB HP
 go_wp2_with fail
 go_ret
 exact ⟨v, rfl, HO.out, hfr⟩
theorem p0f (w : World) : Calls Tryz.prog 29 #[] w fun e w' => ∃ y : Option Addr × Nat, e = .returned (.slice y.1 33 y.2) ∧ BPart w' (.slice y.1 33 y.2) (a0H gP) ∧ Fr Nob w w' := by
 refine (u0t w).mono ?_
 rintro e w' ⟨v, rfl, ho, hf⟩
 have h := ho.part
 obtain ⟨a, n, c, rfl, hc, hr⟩ := h
 have hn : n = 33 := by rw [← hr.len, c0h]
 subst hn
 exact ⟨(a, c), rfl, ⟨a, 33, c, rfl, hc, hr⟩, hf⟩
theorem D0o (x : Nat) (w : World) :
  Calls Tryz.prog 48 #[i4 (elN mQ x)] w fun e w' => ∃ v, e = .returned v ∧ OwnB1 w w' v (a0H (a0E x gP)) ∧ Fr Nob w w' := by
 have st0 := St.start Nob w
 go_enter Tryz.func48, Tryz.ntmps48
 go_wp2_with (with_reducible refine wSk 1 ?_)
 refine a0l st0 rfl rfl rfl (cw 4 (elN mQ x)) rfl ?_
 intro g1 w1 st1
 clear st0
 go_wp2_with fail
 refine wp_region_noPanic ?_
 refine a0e st1 3 [.t 0, .c 1, .c 2] (.m 3 .nil) ap14 ap14 (fun _ _ _ _ _ h => h) ?_
 clear st1
 refine a0d rfl rfl rfl (fun _ => rfl) (cw 4 (elN mQ x)) (fun wx hS => St.rangeL hS 0 rfl 0 _ dZl) Tryz.underlying68 rfl ap4 ?_
 try simp only [clL]
 refine b0v (X := Option Addr × Nat) (fun y => .slice y.1 33 y.2) (fun y w => BPart w (.slice y.1 33 y.2) (a0H gP)) (fun _ _ _ h k => h.still k) rfl rfl rfl Tryz.call29 (fun w hS hR => p0f _) (fun _ => rfl) fun y4 => ?_
 try simp only [clL]
 refine b0v (X := Value) (fun v => v) (fun v wx => OwnB1 w wx v (tS (a0P (x % mQ.M)) (a0H gP))) (fun _ _ _ h k => h.still k) rfl rfl rfl Tryz.call80 (fun w hS hR => (v0c x _ _ _ hR.2).mono fun e w' ⟨v, h1, h2, h3⟩ => ⟨v, h1, h2.back hS.fr.size, h3⟩) (fun _ => rfl) fun v => ?_
 try simp only [clL]
 refine a0t fun xq w2 st2 hR => ?_
 try dsimp only
 have HV := qH hR.2
 clear hR xq
 refine a0q rfl rfl ?_
 go_simp
 try simp only [clL]
 refine a0g ?_
 refine NoPanic.normal ?_
 have hfr := st2.fr
 clear st2
 go_wp2_with fail
 go_ret
 refine ⟨v, rfl, ?_, hfr⟩
 have h := HV.out
 rwa [E0L x (f0k f0n).1, (f0k f0n).2] at h
theorem POwn.bpartsT {w : World} {base : Nat} : ∀ {vs : List Value} {ls : List (List UInt8)}, POwn w base vs ls → BParts w vs ls := by
 intro vs ls h
 refine ⟨h.len, fun i v hv => ?_⟩
 obtain ⟨l, hl, ho⟩ := h.get i v hv
 obtain ⟨a, c, rfl, hc, hr, -⟩ := ho.form
 rw [Nat.mul_one] at hr
 rw [List.getD_eq_getElem?_getD, hl]
 exact ⟨a, _, c, rfl, hc, hr⟩
theorem SOwn.bpartsT {w : World} {base : Nat} {v : Value} {ls : List (List UInt8)} (h : SOwn w base v ls) : ∃ a c vs, v = .slice a ls.length c ∧ Rd w a ls.length vs ∧ BParts w vs ls := by
 obtain ⟨vs, h1, h2, h3⟩ := h
 obtain ⟨a, c, rfl, hc, hr, -⟩ := h1.form
 rw [Nat.mul_one] at hr
 exact ⟨a, c, vs, rfl, hr, h2.bpartsT⟩
theorem D0p (al : Option Addr) (c : Nat) (xs : List Nat) (bl : Option Addr) (d : Nat) (us : List Value) (lp : List (List UInt8)) (w : World) (hv : Rd w al (xs.length * 4) (c0T xs)) (hn : xs.length ≤ 100000) (hu : Rd w bl lp.length us) (hq : BParts w us lp) :
  Calls Tryz.prog 62 #[.slice al xs.length c, .slice bl lp.length d] w fun e w' => ∃ v, e = .returned v ∧ OwnB1 w w' v (g0P (zB xs) lp) ∧ Fr Nob w w' := by
 have HV := qH hv
 have HU := qH hu
 have HQ := qH hq
 clear hv hu hq
 go_enter Tryz.func62, Tryz.ntmps62
 go_wp2_with fail
 refine (x0U al c xs _ HV.out hn).mono ?_
 rintro e' w2 ⟨v, rfl, hs, hf2⟩
 obtain ⟨a, c2, vs, rfl, hr, hb⟩ := hs.bpartsT
 have HR := qH hr
 have HB := qH hb
 have HF := qH hf2
 clear hs hr hb hf2 HV
 go_wp2_with fail
 refine (u0X a c2 vs (zB xs) bl d us lp _ HR.out HB.out (HU.out.still HF.out) (HQ.out.still HF.out)).mono ?_
 rintro e' w3 ⟨v, rfl, ho, hf3⟩
 have HO := qH (OwnB1.back ho HF.out.size)
 have hfr := HF.out.then hf3
 clear ho hf3 HF HR HB HU HQ
 go_wp2_with fail
 go_ret
 exact ⟨v, rfl, HO.out, hfr⟩
theorem x0V {l : List UInt8} (h : b0J l = true) : l.length = 33 := by
 unfold b0J at h
 simp only [Bool.and_eq_true, decide_eq_true_eq] at h
 exact h.1
def b0I (ls : List (List UInt8)) : Bool := ls.all b0B
theorem p0g (ls : List (List UInt8)) (k : Nat) (h : k < ls.length) : b0I (ls.take (k + 1)) = (b0I (ls.take k) && b0B (ls.getD k [])) := by
 unfold b0I
 rw [List.take_succ_eq_append_getElem h, List.all_append, List.getD_eq_getElem?_getD, List.getElem?_eq_getElem h]
 simp
theorem r0V (ls : List (List UInt8)) (k : Nat) (h : k < ls.length) (hb : b0B (ls.getD k []) = false) : b0I ls = false := by
 unfold b0I
 rw [List.all_eq_false]
 refine ⟨ls.getD k [], ?_, by rw [hb]; decide⟩
 rw [List.getD_eq_getElem?_getD, List.getElem?_eq_getElem h]
 exact List.getElem_mem h
theorem B0l {l : List UInt8} (h : b0J l = false) : b0B l = false := by unfold b0B; rw [h]; rfl
theorem B0m {l : List UInt8} (h : (((l.getD 0 0).toNat : Int) == 0) = true) : b0B l = false := by
 have h2 : l.getD 0 0 = 0 := by
  have h3 : ((l.getD 0 0).toNat : Int) = 0 := eq_of_beq h
  exact UInt8.toNat_inj.1 (by simpa using h3)
 unfold b0B; rw [decide_eq_true h2]; simp
theorem B0n {l : List UInt8} (h1 : b0J l = true) (h : (((l.getD 0 0).toNat : Int) == 0) = false) : b0B l = true := by
 have h2 : l.getD 0 0 ≠ 0 := by
  intro h3
  rw [h3] at h
  exact absurd h ap15
 unfold b0B; rw [h1, decide_eq_false h2]; rfl
attribute [local irreducible] b0B b0I
theorem f0A (al : Option Addr) (n c : Nat) (vs : List Value) (ls : List (List UInt8)) (w : World) (hv : Rd w al n vs) (hp : BParts w vs ls) (hn : n ≤ 100000) :
  Calls Tryz.prog 78 #[.slice al n c] w fun e w' => e = .returned (.bool (b0I ls)) ∧ Fr Nob w w' := by
 have HV := qH hv
 have HP := qH hp
 have HL := qH (show ls.length = n by rw [← hp.1, hv.len])
 clear hv hp
 go_enter Tryz.func78, Tryz.ntmps78
 go_wp2
 go_loopw [7] (fun i wr => ∃ k : Nat, k ≤ n ∧ i = .int .i64 (k : Int) ∧ b0I (ls.take k) = true ∧ Fr Nob w wr) (fun i _ => n - (intOf i).toNat)
 case atStart => exact ⟨0, Nat.zero_le _, rfl, by rw [List.take_zero]; unfold b0I; rfl, Fr.refl _ _⟩
 case round =>
  obtain ⟨k, hk, rfl, hgood, hf⟩ := hrel
  by_cases hlt : k < n
  ·have hltI : (k : Int) < (n : Int) := by omega
   obtain ⟨b, o, rfl, hat⟩ := (HV.out.still hf).at ap16
   have hvl : k < vs.length := by rw [HV.out.len]; exact hlt
   obtain ⟨a, nn, cc, hve, hcc, hrd⟩ := HP.out.2 k (vs[k]'hvl) (List.getElem?_eq_getElem hvl)
   have hc1 := hat k _ (List.getElem?_eq_getElem hvl)
   rw [hve] at hc1
   have hlk : k < ls.length := by rw [HL.out]; exact hlt
   have hts := p0g ls k hlk
   have hbad := r0V ls k hlk
   generalize hL : ls.getD k [] = l at *
   have HRD := qH (hrd.still hf)
   have HCC := qH hcc
   have HTS := qH hts
   have HBAD := qH hbad
   have HG := qH hgood
   have HF := qH hf
   have hnI : (n : Int) ≤ 100000 := by omega
   clear hL hrd hcc hts hbad hgood hf hat hve
   cases hq : b0J l
   ·have HQ := qH hq
    clear hq
    go_wp2_with fail
    refine (n0r _ l _ ⟨a, nn, cc, rfl, HCC.out, HRD.out⟩ HQ.out).mono ?_
    rintro e' w2 ⟨rfl, hf2⟩
    have hfr := HF.out.then hf2
    have HB := qH (HBAD.out (B0l HQ.out))
    clear hf2 HF HBAD HQ HRD HG HTS
    go_wp2_with fail
    go_ret
    exact ⟨by rw [HB.out]; rfl, hfr⟩
   ·have h33 := x0V hq
    have hnn : nn = 33 := by rw [← HRD.out.len, h33]
    subst hnn
    obtain ⟨b2, o2, rfl, -⟩ := HRD.out.at ap15
    have HQ := qH hq
    have H33 := qH h33
    clear hq h33
    go_wp2_with fail
    refine (o0P _ l _ ⟨_, 33, cc, rfl, HCC.out, HRD.out⟩ HQ.out).mono ?_
    rintro e' w2 ⟨rfl, hf2⟩
    have hfr := HF.out.then hf2
    have hc2 := B0h (show Rd w2 (some ⟨b2, o2, none⟩) 33 (bs l) from HRD.out.still hf2) 0 _ (l0W l 0 (by rw [H33.out]; decide))
    rw [Nat.add_zero] at hc2
    have HFR := qH hfr
    have HZT := qH (show (((l.getD 0 0).toNat : Int) == 0) = false → b0I (ls.take (k + 1)) = true from fun hz => by rw [HTS.out, HG.out, B0n HQ.out hz]; rfl)
    have HBT := qH (show (((l.getD 0 0).toNat : Int) == 0) = true → b0I ls = false from fun hz => HBAD.out (B0m hz))
    generalize l.getD 0 0 = x at hc2 HZT HBT
    clear hf2 hfr HF HRD hc1 HTS HG HBAD
    cases hz : ((x.toNat : Int) == 0)
    ·have HZ := qH (HZT.out hz)
     clear HZT HBT
     go_wp2_with fail
     go_roundw
     case rel => exact ⟨k + 1, by omega, by go_num, HZ.out, HFR.out⟩
     case measure => simp [intOf]; omega
    ·have HB := qH (HBT.out hz)
     clear HZT HBT
     go_wp2_with fail
     go_ret
     exact ⟨by rw [HB.out]; rfl, HFR.out⟩
  ·have hge : ¬ ((k : Int) < (n : Int)) := by omega
   have hkn : k = ls.length := by rw [HL.out]; omega
   rw [hkn, List.take_of_length_le (Nat.le_refl _)] at hgood
   have HG := qH hgood
   have HF := qH hf
   clear hkn hgood hf
   go_wp2_with fail
   go_ret
   exact ⟨by rw [HG.out]; rfl, HF.out⟩
theorem x0W (ak : Option Addr) (nk ck : Nat) (key : List UInt8) (w : World) (hkey : RdB w ak nk key) (hq : a0S mQ key = false) : Calls Tryz.prog 46 #[.slice ak nk ck] w fun e w' => e = .returned (.tuple #[i4 0, .int .i64 3]) ∧ Fr Nob w w' := by
 have HKY := qH hkey
 have HN := qH hq
 clear hkey hq
 have st0 := St.start Nob w
 go_enter Tryz.func46, Tryz.ntmps46
 go_wp2_with (with_reducible refine wSk 2 ?_)
 refine a0a st0 rfl rfl (z := zAd) ap14 (cw 4 0) ap12 ?_
 intro g2 w1 st1
 clear st0
 go_wp2_with fail
 refine (t0w mQ .one ak nk ck key _ (HKY.out.still st1.fr) HN.out).mono ?_
 rintro e' w2 ⟨rfl, hf2⟩
 have st2 := st1.keep hf2
 clear st1 hf2
 go_wp2_with (with_reducible refine wSk 4 ?_)
 refine a0a st2 rfl rfl (z := zAd) ap14 (cw 4 0) ap12 ?_
 intro g4 w3 st3
 clear st2
 go_wp2_with (with_reducible refine wSn ?_)
 refine a0b st3 1 rfl rfl rfl rfl rfl ap5 ap4 (a0f _ _) ?_
 intro w4 st4
 clear st3
 go_wp2_with (with_reducible refine wSk 17 ?_)
 refine a0p st4 1 rfl rfl rfl Tryz.underlying68 rfl rfl ap4 ?_
 go_wp2_with (with_reducible refine wSn ?_)
 refine a0b st4 0 rfl rfl rfl rfl rfl ap5 ap4 (a0f _ _) ?_
 intro w5 st5
 clear st4
 have hr := st5.at 0 rfl
 have hfr := st5.fr
 clear st5
 go_wp2_with fail
 exact bodyPost_ret (a0U rfl rfl hr Tryz.underlying68 rfl ap4 rfl) rfl ⟨rfl, hfr⟩
theorem x0X (ak : Option Addr) (nk ck : Nat) (key : List UInt8) (w : World) (hkey : RdB w ak nk key) (hq : a0S mQ key = true) (hz : (beN key % mQ.M == 0) = true) : Calls Tryz.prog 46 #[.slice ak nk ck] w fun e w' => e = .returned (.tuple #[i4 (elN mQ (beN key)), .int .i64 3]) ∧ Fr Nob w w' := by
 have HZ := qH hz
 clear hz
 have HKY := qH hkey
 have HN := qH hq
 clear hkey hq
 have st0 := St.start Nob w
 go_enter Tryz.func46, Tryz.ntmps46
 go_wp2_with (with_reducible refine wSk 2 ?_)
 refine a0a st0 rfl rfl (z := zAd) ap14 (cw 4 0) ap12 ?_
 intro g2 w1 st1
 clear st0
 go_wp2_with fail
 refine (m0V mQ .one ak nk ck key _ (HKY.out.still st1.fr) HN.out).mono ?_
 rintro e' w2 ⟨rfl, hf2⟩
 have st2 := st1.keep hf2
 clear st1 hf2
 go_wp2_with (with_reducible refine wSk 4 ?_)
 refine a0a st2 rfl rfl (z := zAd) ap14 (cw 4 0) ap12 ?_
 intro g4 w3 st3
 clear st2
 go_wp2_with (with_reducible refine wSn ?_)
 refine a0b st3 1 rfl rfl rfl rfl rfl ap5 ap4 (a0f _ _) ?_
 intro w4 st4
 clear st3
 go_wp2_with (with_reducible refine wSk 14 ?_)
 refine p0R st4 1 rfl rfl rfl Tryz.underlying68 rfl rfl ap4 ?_
 go_wp2_with fail
 refine (f0h mQ m0H (beN key) true HZ.out _).mono ?_
 rintro e' w5 ⟨rfl, hf5⟩
 have st5 := st4.keep hf5
 clear st4 hf5
 go_wp2_with (with_reducible refine wSk 17 ?_)
 refine a0p st5 1 rfl rfl rfl Tryz.underlying68 rfl rfl ap4 ?_
 go_wp2_with (with_reducible refine wSn ?_)
 refine a0b st5 0 rfl rfl rfl rfl rfl ap5 ap4 (a0f _ _) ?_
 intro w6 st6
 clear st5
 have hr := st6.at 0 rfl
 have hfr := st6.fr
 clear st6
 go_wp2_with fail
 exact bodyPost_ret (a0U rfl rfl hr Tryz.underlying68 rfl ap4 rfl) rfl ⟨rfl, hfr⟩
theorem x0Y (ak : Option Addr) (nk ck : Nat) (key : List UInt8) (w : World) (hkey : RdB w ak nk key) (hq : a0S mQ key = true) (hz : (beN key % mQ.M == 0) = false) : Calls Tryz.prog 46 #[.slice ak nk ck] w fun e w' => e = .returned (.tuple #[i4 (elN mQ (beN key)), .int .i64 0]) ∧ Fr Nob w w' := by
 have HZ := qH hz
 clear hz
 have HKY := qH hkey
 have HN := qH hq
 clear hkey hq
 have st0 := St.start Nob w
 go_enter Tryz.func46, Tryz.ntmps46
 go_wp2_with (with_reducible refine wSk 2 ?_)
 refine a0a st0 rfl rfl (z := zAd) ap14 (cw 4 0) ap12 ?_
 intro g2 w1 st1
 clear st0
 go_wp2_with fail
 refine (m0V mQ .one ak nk ck key _ (HKY.out.still st1.fr) HN.out).mono ?_
 rintro e' w2 ⟨rfl, hf2⟩
 have st2 := st1.keep hf2
 clear st1 hf2
 go_wp2_with (with_reducible refine wSk 4 ?_)
 refine a0a st2 rfl rfl (z := zAd) ap14 (cw 4 0) ap12 ?_
 intro g4 w3 st3
 clear st2
 go_wp2_with (with_reducible refine wSn ?_)
 refine a0b st3 1 rfl rfl rfl rfl rfl ap5 ap4 (a0f _ _) ?_
 intro w4 st4
 clear st3
 go_wp2_with (with_reducible refine wSk 14 ?_)
 refine p0R st4 1 rfl rfl rfl Tryz.underlying68 rfl rfl ap4 ?_
 go_wp2_with fail
 refine (f0h mQ m0H (beN key) false HZ.out _).mono ?_
 rintro e' w5 ⟨rfl, hf5⟩
 have st5 := st4.keep hf5
 clear st4 hf5
 go_wp2_with (with_reducible refine wSk 18 ?_)
 refine a0p st5 1 rfl rfl rfl Tryz.underlying68 rfl rfl ap4 ?_
 go_wp2_with (with_reducible refine wSn ?_)
 refine a0b st5 0 rfl rfl rfl rfl rfl ap5 ap4 (a0f _ _) ?_
 intro w6 st6
 clear st5
 have hr := st6.at 0 rfl
 have hfr := st6.fr
 clear st6
 go_wp2_with fail
 exact bodyPost_ret (a0U rfl rfl hr Tryz.underlying68 rfl ap4 rfl) rfl ⟨rfl, hfr⟩
theorem n0A (ak : Option Addr) (nk ck : Nat) (key : List UInt8) (w : World) (hkey : RdB w ak nk key) (h : d0B key = true) : Calls Tryz.prog 46 #[.slice ak nk ck] w fun e w' => e = .returned (.tuple #[i4 (elN mQ (beN key)), .int .i64 0]) ∧ Fr Nob w w' := by
 unfold d0B at h
 rw [Bool.and_eq_true] at h
 have hlt := d0Y h.1
 refine x0Y ak nk ck key w hkey h.1 ?_
 rw [Nat.mod_eq_of_lt hlt]
 simpa using h.2
theorem v0d (ak : Option Addr) (nk ck : Nat) (key : List UInt8) (w : World) (hkey : RdB w ak nk key) (h : d0B key = false) : Calls Tryz.prog 46 #[.slice ak nk ck] w fun e w' => (∃ N : Nat, e = .returned (.tuple #[i4 N, .int .i64 3])) ∧ Fr Nob w w' := by
 unfold d0B at h
 cases hq : a0S mQ key with
 | false => exact (x0W ak nk ck key w hkey hq).mono fun e w' k => ⟨⟨_, k.1⟩, k.2⟩
 | true =>
  have hlt := d0Y hq
  rw [hq, Bool.true_and] at h
  refine (x0X ak nk ck key w hkey hq ?_).mono fun e w' k => ⟨⟨_, k.1⟩, k.2⟩
  rw [Nat.mod_eq_of_lt hlt]
  simpa using h
end
end Go.Proofs.YtemcankmggmgoaaGreat
namespace Go.Mv
open Go.RowKit
section
variable {P : Program} {w w0 : World} {o : Oper} {a : Act} {S : Nat → Prop} {bl : List (Nat × List Value × TypeId)} {K : Act → World → Prop} {Q : Exit → Act → World → Prop}
theorem r0W {s x : Operand} {t : TypeId} (ho : o.op = .call { callee := .builtin .append, args := #[s, x], argTypes := #[t, t] })
  {e : TypeId} {z : Value} {sz by_ : Nat} (ht : P.underlying t = some (.slice e)) (hi0 : (P.info? e).map (fun i => (i.zero, i.size, i.bytes)) = some (some z, sz, by_))
  (hzs : z.cells.size = sz) (hsz : 0 < sz)
  {v : Value} {n base : Nat} {L : List Value} (hown : Own w base e sz v n L) (hs : a.eval s = v)
  {xa : Option Addr} {m c : Nat} {news : List Value} (hx : a.eval x = .slice xa m c) (hnews : Rd w xa (m * sz) news) (h1 : ∀ u ∈ news, u.oneCell' = true)
  (h63 : n + m ≤ maxLen) (hbytes : (n + m) * by_ ≤ 140737488355328) (hbase : base ≤ w.heap.size)
  (h : ∀ v' w', Own w' base e sz v' (n + m) (L ++ news) → Fr (k0F v) w w' → K (a.put o.dst v') w') : o.wp P a w K Q := by
 obtain ⟨v', w', hr, h2, h3, -⟩ := i0g (P := P) base t o.type e z sz by_ ht hi0 hzs hsz v n L hown xa m c news hnews h1 h63 hbytes hbase
 unfold Oper.wp execOp
 simp only [ho, resolve, invoke, builtin, Sem.run_bind, Sem.run_pure, Result.andThen_ok, List.map_toArray, List.map_cons, List.map_nil, hs, hx, hr]
 exact h v' w' h2 h3
theorem St.ofFr (h : Fr S w0 w) : St S w0 w [] := ⟨h, by simp, by simp, List.Pairwise.nil⟩
end
end Go.Mv
namespace Go.Proofs.YtemcankmggmgoaaGreat
section
open Go.RowKit Go.Mv Mvp Mvq
theorem OwnB1.ptb {w w' : World} {v : Value} {l : List UInt8} (h : OwnB1 w w' v l) (hn : l.length ≤ 1000000) : PartIs w' v l := c0d h hn
attribute [local irreducible] a0C lw mix cw b0k b0y b0j a0M a0n beN b0F a0P b0C a0J a0R elN mdL a0S rtV b0G a0H b0J b0q a0V c0P h0Z g0P a0E b0g b0x toB a0u a0B b0h b0R a0L c0g b0b a0y c0s c0R c0T d0B d0a chN b0B tS
theorem d0N {w : World} {a : Option Addr} {n c : Nat} {l : List UInt8} (h : PartIs w (.slice a n c) l) : RdB w a n l := by
 obtain ⟨a', n', c', he, -, -, hr, -⟩ := h
 cases he
 exact hr
end
section
open Go.RowKit Go.Mv Mvp Mvq
def d0Z : List UInt8 := [112, 111, 105, 110, 116, 32]
def hB (label b : List UInt8) (i : Nat) : List UInt8 := c0s (d0Z ++ label) [b, [UInt8.ofNat i]]
def hN (label b : List UInt8) (i : Nat) : Nat := beN (hB label b i)
theorem E0p {n : Nat} (h : b0G mP.M (d0A n) = true) : onC (.A (kc n) (kc (atY mP.M n))) := by
 rw [E0f n h]
 rw [c0S] at h
 exact C0O h
open Classical in
noncomputable def d0Q (label b : List UInt8) (i : Nat) : Option PT := if h : hN label b i < mP.M ∧ b0G mP.M (d0A (hN label b i)) = true then some (o0J (hN label b i) (atY mP.M (hN label b i)) (E0p h.2)) else none
theorem i0b {label b : List UInt8} {i n : Nat} (hn : hN label b i = n) (h : ¬ (n < mP.M ∧ b0G mP.M (d0A n) = true)) : d0Q label b i = none := by
 subst hn; unfold d0Q; rw [dif_neg h]
theorem n0B {label b : List UInt8} {i n : Nat} (hn : hN label b i = n) (h1 : n < mP.M) (h2 : b0G mP.M (d0A n) = true) : d0Q label b i = some (o0J n (atY mP.M n) (E0p h2)) := by
 subst hn; unfold d0Q; rw [dif_pos ⟨h1, h2⟩]
noncomputable def c0v (label b : List UInt8) (k : Nat) : List PT := (List.range k).filterMap (d0Q label b)
theorem k0u (label b : List UInt8) : c0v label b 0 = [] := rfl
theorem g0R {label b : List UInt8} {k : Nat} (h : d0Q label b k = none) : c0v label b (k + 1) = c0v label b k := by
 unfold c0v; rw [List.range_succ, List.filterMap_append]; simp [h]
theorem j0r {label b : List UInt8} {k : Nat} {x : PT} (h : d0Q label b k = some x) : c0v label b (k + 1) = c0v label b k ++ [x] := by
 unfold c0v; rw [List.range_succ, List.filterMap_append]; simp [h]
theorem v0e (label b : List UInt8) (k : Nat) : (c0v label b k).length ≤ k := by
 unfold c0v
 exact Nat.le_trans (List.length_filterMap_le _ _) ap17
theorem r0X (label b : List UInt8) (k j : Nat) : ∃ l, c0v label b (k + j) = c0v label b k ++ l := by
 induction j with
 | zero => exact ⟨[], by simp⟩
 | succ j ih =>
  obtain ⟨l, hl⟩ := ih
  cases h : d0Q label b (k + j) with
  | none => exact ⟨l, by rw [← Nat.add_assoc, g0R h, hl]⟩
  | some x => exact ⟨l ++ [x], by rw [← Nat.add_assoc, j0r h, hl, List.append_assoc]⟩
noncomputable def f0p (label b : List UInt8) : PT := ((c0v label b 256).head?).getD j0b
theorem k0v {label b : List UInt8} (h : c0v label b 256 = []) : f0p label b = j0b := by unfold f0p; rw [h]; rfl
theorem k0w {label b : List UInt8} {k : Nat} {x : PT} (hk : k < 256) (h : d0Q label b k = some x) (h0 : c0v label b k = []) : f0p label b = x := by
 obtain ⟨l, hl⟩ := r0X label b (k + 1) (256 - (k + 1))
 rw [show k + 1 + (256 - (k + 1)) = 256 by omega, j0r h, h0] at hl
 unfold f0p
 rw [hl]
 rfl
theorem j0s (w : World) : Calls Tryz.prog 86 #[] w fun e w' => ∃ y : Nat × Nat, e = .returned (.pointer (some ⟨y.1, 0, none⟩)) ∧ (Has w' y.1 (e0b mP y.2 gXn gYn) 125 ∧ Has w' y.2 (mdL mP) 187) ∧ Fr Nob w w' := by
 refine (d0q w).mono ?_
 rintro e w' ⟨gc, k1, _, ⟨gp, h1, h2⟩, k3⟩
 exact ⟨(gc, gp), k1, ⟨h1, h2⟩, k3⟩
theorem e0x {w : World} {g : Nat} {L : List Value} {T : TypeId} (hg : Has w g L T) {o : Oper} {a : Act} {ty : TypeId} {x : Operand} (ho : o.op = .load ty x) {p : Nat} (hx : a.eval x = .pointer (some ⟨g, p, none⟩)) (cs : List Value) (hc : (L.drop p).take cs.length = cs)
  {d : TypeDesc} (hu : Tryz.prog.underlying ty = some d) (hd : d.isRow = true) (hi : (Tryz.prog.info? ty).map (·.size) = some cs.length) : (execOp a.eval o).run Tryz.prog w = .ok (.value (.agg cs.toArray)) w := by
 unfold execOp
 simp only [ho, hx, Instr.loadAt, Instr.sureAddr, Sem.run_bind, Sem.run_pure, Result.andThen_ok, run_loadVar_mid w g p ty cs d (hg.range p cs hc) hu hd hi]
theorem v0f (label : ByteArray) : (⟨#[112, 111, 105, 110, 116, 32]⟩ : ByteArray) ++ label = mkS (d0Z ++ label.data.toList) := by
 have : (⟨#[112, 111, 105, 110, 116, 32]⟩ : ByteArray) = mkS d0Z := rfl
 rw [this]
 conv => lhs; rw [← h0D label]
 exact f0r _ _
end
end Go.Proofs.YtemcankmggmgoaaGreat
namespace Go.Mv
open Go.RowKit
section
variable {P : Program} {ops : Array Oper} {md : Region.Mode} {Q : Exit → Act → World → Prop} {m : Nat} {S : Nat → Prop} {w0 : World} {tl : Pl}
def d0m (l : List Nat) (x : Nat → Value) : Nat → Value := fun k => if l.contains k then x k else undef
theorem v0g {l : List Nat} {x : Nat → Value} {k : Nat} {v : Value} (h : l.contains k = false) : d0m l (upd x k v) = d0m l x := by
 funext j
 unfold d0m
 by_cases e : l.contains j = true
 ·rw [if_pos e, if_pos e, d0K]
  cases h2 : (j == k) with
  | false => rfl
  | true => rw [eq_of_beq h2, h] at e; cases e
 ·rw [if_neg e, if_neg e]
def z0i (ops : Array Oper) (i : Nat) (a : Act) (v : Value) : Act := match ops[i]? with | some o => a.put o.dst v | none => a
theorem f0q {i : Nat} {o : Oper} (ho : ops[i]? = some o) (a : Act) (v : Value) : z0i ops i a v = a.put o.dst v := by unfold z0i; rw [ho]
def h0l (ops : Array Oper) : List Nat → Act → (Nat → Value) → Act
 | [], a, _ => a
 | i :: s, a, x => h0l ops s (z0i ops i a (x i)) x
theorem n0C {d : Option Tmp} {v : Value} (x : Nat → Value) : ∀ (s : List Nat) (a : Act), (∀ k ∈ s, ∀ ok, ops[k]? = some ok → ok.dst ≠ d ∨ ok.dst = none) → (h0l ops s a x).put d v = h0l ops s (a.put d v) x
 | [], _, _ => rfl
 | i :: s, a, h => by
  unfold h0l
  rw [n0C x s _ fun k hk => h k (List.mem_cons_of_mem _ hk)]
  congr 1
  cases ho : ops[i]? with
  | none => unfold z0i; simp only [ho]
  | some o => rw [f0q ho, f0q ho, l0m _ _ _ _ _ (h i List.mem_cons_self o ho)]
theorem l0L {i : Nat} {v : Value} (x : Nat → Value) : ∀ (s : List Nat) (a : Act), i ∉ s → h0l ops s a (upd x i v) = h0l ops s a x
 | [], _, _ => rfl
 | j :: s, a, h => by
  simp only [List.mem_cons, not_or] at h
  unfold h0l
  rw [l0L x s _ h.2, d0K _ _ _ _ (by simpa using fun e => h.1 e.symm)]
def Apd (ops : Array Oper) (s : List Nat) : Prop := ∀ j ∈ s, ∀ k ∈ s, j ≠ k → ∀ oj ok, ops[j]? = some oj → ops[k]? = some ok → ok.dst ≠ oj.dst ∨ ok.dst = none
theorem Apd.tail {i : Nat} {s : List Nat} (h : Apd ops (i :: s)) : Apd ops s := fun j hj k hk => h j (List.mem_cons_of_mem _ hj) k (List.mem_cons_of_mem _ hk)
theorem q0C {i : Nat} {v : Value} {o : Oper} (ho : ops[i]? = some o) (x : Nat → Value) : ∀ (s : List Nat) (a : Act), i ∈ s → s.Nodup → Apd ops s → (h0l ops s a x).put o.dst v = h0l ops s a (upd x i v)
 | [], _, h, _, _ => by cases h
 | j :: s, a, h, hn, hd => by
  rw [List.nodup_cons] at hn
  by_cases e : i = j
  ·subst e
   unfold h0l
   rw [n0C x s _ fun k hk ok hok => hd i List.mem_cons_self k (List.mem_cons_of_mem _ hk) (fun e => hn.1 (e ▸ hk)) o ok ho hok]
   rw [f0q ho, f0q ho, m0Y, l0L x s _ hn.1, g0z]
  ·have hi : i ∈ s := by
    rcases List.mem_cons.1 h with h | h
    ·exact absurd h e
    ·exact h
   unfold h0l
   rw [q0C ho x s _ hi hn.2 hd.tail, d0K _ _ _ _ (by simpa using fun h => e h.symm)]
theorem n0D : ∀ (s : List Nat) (a : Act), s.Nodup → ∃ x, h0l ops s a x = a
 | [], _, _ => ⟨fun _ => undef, rfl⟩
 | i :: s, a, hn => by
  rw [List.nodup_cons] at hn
  obtain ⟨x, hx⟩ := n0D s a hn.2
  cases ho : ops[i]? with
  | none => exact ⟨x, by unfold h0l z0i; simp only [ho]; exact hx⟩
  | some o =>
   obtain ⟨u, hu⟩ := q0a a o.dst
   refine ⟨upd x i u, ?_⟩
   unfold h0l
   rw [f0q ho, g0z, hu, l0L x s _ hn.1, hx]
def E0M (ops : Array Oper) (s : List Nat) : Bool := s.all fun j => s.all fun k => j == k || match ops[j]?, ops[k]? with | some a, some b => decide (b.dst ≠ a.dst) || decide (b.dst = none) | _, _ => false
theorem v0h {s : List Nat} (h : E0M ops s = true) : Apd ops s := by
 intro j hj k hk hne oj ok hoj hok
 have := List.all_eq_true.1 (List.all_eq_true.1 h j hj) k hk
 simp only [hoj, hok, Bool.or_eq_true, beq_iff_eq, decide_eq_true_eq] at this
 rcases this with h | h
 ·exact absurd h hne
 ·exact h
def q0D : List Nat → Bool
 | [] => true
 | i :: s => !s.contains i && q0D s
theorem f0R : ∀ {s : List Nat}, q0D s = true → s.Nodup
 | [], _ => List.nodup_nil
 | i :: s, h => by
  simp only [q0D, Bool.and_eq_true, Bool.not_eq_true'] at h
  exact List.nodup_cons.2 ⟨by simpa using h.1, f0R h.2⟩
def v0i (md : Region.Mode) (ops : Array Oper) (m : Nat) (F Lz : List Nat) (pre : Nat → List Nat) (tl : Pl) : Bool :=
 (Lz.all fun i => match ops[i]? with | some o => decide (i ≠ m) && (List.range ops.size).all fun j => j == i || w0D md ops i ops.size j || (match ops[j]? with | some oj => (oj.after.any fun e => Region.binds md e && e.on == i) || o.apart ops oj | none => true) | none => false) && q0D F && E0M ops F &&
 (F.all fun i => match ops[i]? with | some o => o.after.all fun e => !Region.binds md e || (F.contains e.on && decide (e.on < i)) | none => false) &&
 (F.all fun i => (pre i).all fun j => F.contains j && w0D md ops i ops.size j) &&
 ((List.range ops.size).all fun t => F.contains t || F.all fun i => Lz.contains i || w0D md ops t ops.size i) &&
 c0b md ops m tl (e0M (Array.replicate ops.size false) F)
def Obl (P : Program) (ops : Array Oper) (Q : Exit → Act → World → Prop) (G : World → Prop) (A : (Nat → Value) → Act) (pre : Nat → List Nat) (Φ : Nat → (Nat → Value) → World → Prop) (i : Nat) (o : Oper) : Bool → Prop
 | false => ∀ x w, G w → (∀ j ∈ pre i, Φ j (d0m (j :: pre j) x) w) → (Region.wanted o (yielded ops (A x).tmps) = true ∧ o.wp P (A x) w (fun a' w' => ∃ v, a' = (A x).put o.dst v ∧ Fr Nob w w' ∧ Φ i (d0m (i :: pre i) (upd x i v)) w') Q) ∨ (Region.wanted o (yielded ops (A x).tmps) = false ∧ Φ i (d0m (i :: pre i) (upd x i undef)) w)
 | true => ∀ x w, G w → (∀ j ∈ pre i, Φ j (d0m (j :: pre j) x) w) → Region.wanted o (yielded ops (A x).tmps) = true ∧ ∃ v, (∀ wx, (execOp (A x).eval o).run P wx = .ok (.value v) wx) ∧ Φ i (d0m (i :: pre i) (upd x i v)) w
def Obls (P : Program) (ops : Array Oper) (Q : Exit → Act → World → Prop) (G : World → Prop) (A : (Nat → Value) → Act) (pre : Nat → List Nat) (Φ : Nat → (Nat → Value) → World → Prop) (Lz : List Nat) : List Nat → Prop
 | [] => True
 | i :: s => ((∀ o, ops[i]? = some o → Obl P ops Q G A pre Φ i o (Lz.contains i)) ∧
   ∀ y w w', Φ i (d0m (i :: pre i) y) w → Fr Nob w w' → Φ i (d0m (i :: pre i) y) w') ∧ Obls P ops Q G A pre Φ Lz s
theorem Obls.at {G : World → Prop} {A : (Nat → Value) → Act} {pre : Nat → List Nat} {Φ : Nat → (Nat → Value) → World → Prop} {Lz : List Nat} : ∀ {s : List Nat}, Obls P ops Q G A pre Φ Lz s → ∀ i ∈ s, (∀ o, ops[i]? = some o → Obl P ops Q G A pre Φ i o (Lz.contains i)) ∧
      ∀ y w w', Φ i (d0m (i :: pre i) y) w → Fr Nob w w' → Φ i (d0m (i :: pre i) y) w'
  | [], _, _, h => by cases h
  | _ :: _, h, i, hi => by
    rcases List.mem_cons.1 hi with rfl | hi
    · exact h.1
    · exact Obls.at h.2 i hi
theorem k0x {listed : Array Bool} (inv : Cl md ops listed) {k : Nat} : ∀ (f i : Nat), w0D md ops k f i = true → listed.getD k false = true → listed.getD i true = false → False
 | 0, i, h, _, _ => by cases h
 | f + 1, i, h, hk, hun => by
  obtain ⟨j, hj, hj2⟩ := List.any_eq_true.1 h
  simp only [Bool.and_eq_true, Bool.or_eq_true, decide_eq_true_eq] at hj2
  obtain ⟨oj, hoj, e, he, hb, hon⟩ := Region.waitsFor_spec hj2.1
  have hjl : listed.getD j false = true := by
   rcases hj2.2 with rfl | hja
   ·exact hk
   ·cases hl : listed.getD j false with
    | true => rfl
    | false =>
     have hjs : j < listed.size := by rw [inv.size]; exact (Array.getElem?_eq_some_iff.1 hoj).1
     exact (k0x inv f j hja hk (getD_in hjs hl)).elim
  have h2 := inv.closed j oj hoj hjl e he hb
  rw [hon, getD_both hun] at h2
  cases h2
def unl (F : List Nat) (listed : Array Bool) : List Nat := F.filter fun k => !listed.getD k false
theorem B0o {F : List Nat} {listed : Array Bool} {i : Nat} (hi : i < listed.size) : unl F (listed.setIfInBounds i true) = (unl F listed).filter (· != i) := by
 unfold unl
 rw [List.filter_filter]
 refine List.filter_congr fun k _ => ?_
 by_cases e : i = k
 ·subst e; simp [hi]
 ·rw [getD_set_ne false e]
  have h2 : (k != i) = true := by simpa using fun h => e h.symm
  rw [h2, Bool.true_and]
theorem v0j {i : Nat} {o : Oper} {a : Act} {w : World} {K : Act → World → Prop} (ho : ops[i]? = some o) (hg : Region.wanted o (yielded ops a.tmps) = true) (h : o.wp P a w K Q) : wpOp P ops Q i K a w := by
 unfold wpOp
 simp only [ho]
 rw [if_pos hg]
 exact .inl h
theorem r0Y {G : World → Prop} {F Lz : List Nat} {a : Act} {pre : Nat → List Nat} {Φ : Nat → (Nat → Value) → World → Prop} (hsel : Region.noSelect ops = true) (hm : m < ops.size) (hQ : ∀ c (d : Option Tmp) v a w, Q (.panic c) (Act.put a d v) w → Q (.panic c) a w)
  (hok : v0i md ops m F Lz pre tl = true) (hG : ∀ w w', G w → Fr Nob w w' → G w') (hob : Obls P ops Q G (h0l ops F a) pre Φ Lz F)
  (hend : ∀ x w, G w → (∀ i ∈ F, Φ i (d0m (i :: pre i) x) w) → b0H P ops Q (fun _ => True) tl (h0l ops F a x) w) :
  ∀ (N : Nat) (listed : Array Bool) (x : Nat → Value) (w : World), (unl F listed).length = N → listed.size = ops.size → Cl md ops listed → (∀ k, listed.getD k false = true → k ∈ F) → G w → (∀ i ∈ F, listed.getD i false = true → Φ i (d0m (i :: pre i) x) w) →
   wpP P md ops Q (fun _ => True) m (N + tl.len) listed (h0l ops F a x) w := by
 simp only [v0i, Bool.and_eq_true] at hok
 obtain ⟨⟨⟨⟨⟨⟨hlz, hnd⟩, hap⟩, haf⟩, hpre⟩, htl⟩, hpl⟩ := hok
 have hnd := f0R hnd
 have hap := v0h hap
 have hF : ∀ i ∈ F, ∃ o, ops[i]? = some o ∧ True ∧ ∀ e ∈ o.after, Region.binds md e = true → e.on ∈ F ∧ e.on < i := by
  intro i hi
  have := List.all_eq_true.1 haf i hi
  cases ho : ops[i]? with
  | none => simp only [ho] at this; cases this
  | some o =>
   simp only [ho] at this
   refine ⟨o, rfl, trivial, fun e he hb => ?_⟩
   have h2 := Array.all_eq_true'.1 this e he
   simpa [hb] using h2
 have hlt : ∀ i ∈ F, i < ops.size := fun i hi => by obtain ⟨o, ho, _⟩ := hF i hi; exact (Array.getElem?_eq_some_iff.1 ho).1
 intro N
 induction N with
 | zero =>
  intro listed x w hu hsz inv hLF hGw hfacts
  have hall : ∀ i ∈ F, listed.getD i false = true := by
   intro i hi
   cases h : listed.getD i false with
   | true => rfl
   | false =>
    have : i ∈ unl F listed := List.mem_filter.2 ⟨hi, by simp [h]⟩
    rw [List.eq_nil_of_length_eq_zero hu] at this
    cases this
  have he : listed = e0M (Array.replicate ops.size false) F := by
   refine f0i (by simp [b0E, hsz]) fun k hk => ?_
   rw [c0w _ _ _ (by simpa [hsz] using hk)]
   have hk' : k < listed.size := hk
   by_cases hkF : k ∈ F
   ·have h3 : listed.getD k true = true := by
     cases h : listed.getD k true with
     | true => rfl
     | false => have := hall k hkF; rw [getD_both h] at this; cases this
    rw [h3]; simp [hkF]
   ·cases h : listed.getD k true with
    | true =>
     have h2 : listed.getD k false = true := by simpa [hk'] using h
     exact absurd (hLF k h2) hkF
    | false => simp [hkF, hsz ▸ hk']
  have := b0z (md := md) (S := fun _ => True) hsel hm hQ tl listed (h0l ops F a x) w inv (by rw [he]; exact hpl) (fun _ => trivial) (hend x w hGw fun i hi => hfacts i hi (hall i hi))
  simpa using this
 | succ N ih =>
  intro listed x w hu hsz inv hLF hGw hfacts
  have hsome : ∀ (b i : Nat), i < b → i ∈ F → listed.getD i false = false → ∃ k ∈ F, listed.getD k false = false ∧ k ∈ Region.ready md ops listed := by
   intro b
   induction b with
   | zero => intro i h; omega
   | succ b ihb =>
    intro i hib hi hun
    obtain ⟨o, ho, hg, hafter⟩ := hF i hi
    by_cases hall : ∀ e ∈ o.after, Region.binds md e = true → listed.getD e.on false = true
    ·exact ⟨i, hi, hun, mem_ready.2 ⟨getD_in (by rw [hsz]; exact hlt i hi) hun, o, ho, hall⟩⟩
    ·simp only [Classical.not_forall] at hall
     obtain ⟨e, he, hb, hl⟩ := hall
     obtain ⟨h1, h2⟩ := hafter e he hb
     exact ihb e.on ap16 h1 (by simpa using hl)
  have hex : ∃ i, i ∈ F ∧ listed.getD i false = false := by
   cases h : unl F listed with
   | nil => rw [h] at hu; cases hu
   | cons i s =>
    have : i ∈ unl F listed := by rw [h]; exact List.mem_cons_self
    obtain ⟨h1, h2⟩ := List.mem_filter.1 this
    exact ⟨i, h1, by simpa using h2⟩
  obtain ⟨i00, hi00, hun00⟩ := hex
  obtain ⟨i0, hi0, hun0, hr0⟩ := hsome (i00 + 1) i00 (Nat.lt_succ_self _) hi00 hun00
  have e1 : N + 1 + tl.len = (N + tl.len) + 1 := by omega
  rw [e1]
  have hprel : ∀ i ∈ F, i ∈ Region.ready md ops listed → ∀ j ∈ pre i, j ∈ F ∧ listed.getD j false = true := by
   intro i hiF hi j hj
   have h := List.all_eq_true.1 (List.all_eq_true.1 hpre i hiF) j hj
   simp only [Bool.and_eq_true] at h
   have hjF : j ∈ F := by simpa using h.1
   refine ⟨hjF, ?_⟩
   cases hl : listed.getD j false with
   | true => rfl
   | false => exact absurd hi (f0d inv _ _ h.2 (getD_in (by rw [hsz]; exact hlt j hjF) hl))
  have next : ∀ i ∈ F, i ∈ Region.ready md ops listed → ∀ o, ops[i]? = some o → ∀ v w', Fr Nob w w' → Φ i (d0m (i :: pre i) (upd x i v)) w' →
    wpP P md ops Q (fun _ => True) m (N + tl.len) (listed.setIfInBounds i true) ((h0l ops F a x).put o.dst v) w' := by
   intro i hiF hi o ho v w' hfr hΦ
   obtain ⟨hiun, _⟩ := mem_ready.1 hi
   rw [q0C ho x F a hiF hnd hap]
   have hil : i < listed.size := by rw [hsz]; exact hlt i hiF
   refine ih (listed.setIfInBounds i true) (upd x i v) w' ?_ (by simpa using hsz) (inv.set hi) ?_ (hG w w' hGw hfr) ?_
   ·rw [B0o hil]
    have hmem : i ∈ unl F listed := List.mem_filter.2 ⟨hiF, by
     cases h : listed.getD i false with
     | false => rfl
     | true => rw [getD_both hiun] at h; cases h⟩
    have := h0g (l := unl F listed) (m0Z hnd _) hmem
    omega
   ·intro k hk
    by_cases e : i = k
    ·subst e; exact hiF
    ·rw [getD_set_ne false e] at hk; exact hLF k hk
   ·intro k hkF hk
    by_cases e : i = k
    ·subst e; exact hΦ
    ·rw [getD_set_ne false e] at hk
     have h1 := (hob.at k hkF).2 _ _ _ (hfacts k hkF hk) hfr
     rwa [v0g]
     cases h : (k :: pre k).contains i with
     | false => rfl
     | true =>
      exfalso
      have hm : i ∈ k :: pre k := by simpa using h
      rcases List.mem_cons.1 hm with h2 | h2
      ·exact e h2
      ·have h3 := List.all_eq_true.1 (List.all_eq_true.1 hpre k hkF) i h2
       simp only [Bool.and_eq_true] at h3
       exact k0x inv _ _ h3.2 hk hiun
  by_cases hlo : ∃ i ∈ F, i ∈ Region.ready md ops listed ∧ i ∈ Lz
  ·
   obtain ⟨i, hiF, hir, hiL⟩ := hlo
   obtain ⟨o, ho, hg, -⟩ := hF i hiF
   have hO := (hob.at i hiF).1 o ho
   rw [show Lz.contains i = true by simpa using hiL] at hO
   obtain ⟨hg, v, hv, hΦ⟩ := hO x w hGw fun j hj => hfacts j (hprel i hiF hir j hj).1 (hprel i hiF hir j hj).2
   have hl := List.all_eq_true.1 hlz i hiL
   simp only [ho, Bool.and_eq_true, decide_eq_true_eq] at hl
   refine g0t ho (Region.noSelect_spec hsel) (fun c a w => hQ c o.dst v a w) hl.1 hm (N + tl.len) listed (h0l ops F a x) w inv ?_ hir (.inl ⟨hg, fun wx _ => hv wx⟩) (fun _ => trivial) (next i hiF hir o ho v w (Fr.refl _ _) hΦ)
   intro j oj hoj hji hjun hno
   have h := List.all_eq_true.1 hl.2 j (List.mem_range.2 (Array.getElem?_eq_some_iff.1 hoj).1)
   simp only [hoj, Bool.or_eq_true, beq_iff_eq] at h
   rcases h with (h | h) | h | h
   ·exact absurd h hji
   ·exact absurd hir (f0d inv _ _ h hjun)
   ·obtain ⟨k, hk, h2⟩ := Array.any_eq_true.1 h
    simp only [Bool.and_eq_true, beq_iff_eq] at h2
    exact absurd h2.2 (hno _ (Array.getElem_mem hk) h2.1)
   ·exact h
  refine ⟨fun h => (by rw [h] at hr0; cases hr0), fun i hi => ?_⟩
  obtain ⟨hiun, oi, hoi, hiall⟩ := mem_ready.1 hi
  have hisz : i < ops.size := (Array.getElem?_eq_some_iff.1 hoi).1
  have hiF : i ∈ F := by
   have h := List.all_eq_true.1 htl i (List.mem_range.2 hisz)
   simp only [Bool.or_eq_true] at h
   rcases h with h | h
   ·simpa using h
   ·have h2 := List.all_eq_true.1 h i0 hi0
    simp only [Bool.or_eq_true] at h2
    rcases h2 with h2 | h2
    ·exact absurd ⟨i0, hi0, hr0, by simpa using h2⟩ hlo
    ·exact absurd hi (f0d inv _ _ h2 (getD_in (by rw [hsz]; exact hlt i0 hi0) hun0))
  obtain ⟨o, ho, hg, -⟩ := hF i hiF
  have hO := (hob.at i hiF).1 o ho
  have hnl : Lz.contains i = false := by
   cases h : Lz.contains i with
   | false => rfl
   | true => exact absurd ⟨i, hiF, hi, by simpa using h⟩ hlo
  rw [hnl] at hO
  rcases hO x w hGw fun j hj => hfacts j (hprel i hiF hi j hj).1 (hprel i hiF hi j hj).2 with ⟨hgd, hO⟩ | ⟨hgd, hO⟩
  rotate_left 1
  ·unfold wpOp
   simp only [ho]
   rw [if_neg (by rw [hgd]; decide)]
   exact ⟨fun _ _ => trivial, next i hiF hi o ho undef w (Fr.refl _ _) hO⟩
  refine v0j ho hgd (Oper.wp_mono (fun a' w' h' => ?_) hO)
  obtain ⟨v, rfl, hfr, hΦ⟩ := h'
  exact ⟨fun _ _ => trivial, next i hiF hi o ho v w' hfr hΦ⟩
theorem l0M {id : Nat} {a : Act} {w : World} {l : List Oper} (G : World → Prop) (F Lz : List Nat) (pre : Nat → List Nat) (Φ : Nat → (Nat → Value) → World → Prop) (m : Nat) (tl : Pl) (hm : P.follows .mixedOrders = true)
  (hB : (Region.noSelect l.toArray && decide (m < l.toArray.size) && decide (F.length + tl.len = l.toArray.size) && v0i .any l.toArray m F Lz pre tl) = true)
  (hQ : ∀ c (d : Option Tmp) v a w, Q (.panic c) (Act.put a d v) w → Q (.panic c) a w) (hG0 : G w.drew) (hG : ∀ w w', G w → Fr Nob w w' → G w') (hob : Obls P l.toArray Q G (h0l l.toArray F a) pre Φ Lz F)
  (hend : ∀ x w, G w → (∀ i ∈ F, Φ i (d0m (i :: pre i) x) w) → b0H P l.toArray Q (fun _ => True) tl (h0l l.toArray F a x) w) : (Code.region id l.toArray true).wp P Q a w := by
 simp only [Bool.and_eq_true, decide_eq_true_eq] at hB
 obtain ⟨⟨⟨hsel, hms⟩, hlen⟩, hok⟩ := hB
 have inv0 : Cl .any l.toArray (Array.replicate l.toArray.size false) :=
  ⟨by simp, fun j oj _ hl => (by rw [getD_replicate_false] at hl; cases hl)⟩
 have hnd : F.Nodup := by
  have h := hok
  simp only [v0i, Bool.and_eq_true] at h
  exact f0R h.1.1.1.1.1.2
 obtain ⟨x0, hx0⟩ := n0D (ops := l.toArray) F a hnd
 have hul : unl F (Array.replicate l.toArray.size false) = F := by
  unfold unl
  exact List.filter_eq_self.2 fun k _ => by rw [getD_replicate_false]; rfl
 have H := r0Y (md := .any) hsel hms hQ hok hG hob hend F.length (Array.replicate l.toArray.size false) x0 w.drew (by rw [hul]) ap17 inv0 (fun k hk => by rw [getD_replicate_false] at hk; cases hk) hG0 (fun i _ hk => by rw [getD_replicate_false] at hk; cases hk)
 rw [hx0, hlen] at H
 exact wp_region_any hm (d0z _ _ _ _ H)
theorem e0c {id : Nat} {a : Act} {w : World} {l : List Oper} (G : World → Prop) (F Lz : List Nat) (pre : Nat → List Nat) (Φ : Nat → (Nat → Value) → World → Prop) (m : Nat) (tl : Pl) (A : (Nat → Value) → Act) (hA : ∀ x, h0l l.toArray F a x = A x) (hm : P.follows .mixedOrders = true)
  (hB : (Region.noSelect l.toArray && decide (m < l.toArray.size) && decide (F.length + tl.len = l.toArray.size) && v0i .any l.toArray m F Lz pre tl) = true)
  (hQ : ∀ c (d : Option Tmp) v a w, Q (.panic c) (Act.put a d v) w → Q (.panic c) a w) (hG0 : G w.drew) (hG : ∀ w w', G w → Fr Nob w w' → G w') (hob : Obls P l.toArray Q G A pre Φ Lz F)
  (hend : ∀ x w, G w → (∀ i ∈ F, Φ i (d0m (i :: pre i) x) w) → b0H P l.toArray Q (fun _ => True) tl (A x) w) : (Code.region id l.toArray true).wp P Q a w := by
 obtain rfl : (h0l l.toArray F a) = A := funext hA
 exact l0M G F Lz pre Φ m tl hm hB hQ hG0 hG hob hend
theorem a0D {G : World → Prop} {A : (Nat → Value) → Act} {pre : Nat → List Nat} {Φ : Nat → (Nat → Value) → World → Prop} {Lz : List Nat} {i : Nat} {s : List Nat} {o : Oper} (ho : ops[i]? = some o) (hl : Lz.contains i = false)
  (h : ∀ x w, G w → (∀ j ∈ pre i, Φ j (d0m (j :: pre j) x) w) → o.wp P (A x) w (fun a' w' => ∃ v, a' = (A x).put o.dst v ∧ Fr Nob w w' ∧ Φ i (d0m (i :: pre i) (upd x i v)) w') Q)
  (hm : ∀ y w w', Φ i (d0m (i :: pre i) y) w → Fr Nob w w' → Φ i (d0m (i :: pre i) y) w') (hs : Obls P ops Q G A pre Φ Lz s) (hg : o.guard = none := by rfl) : Obls P ops Q G A pre Φ Lz (i :: s) :=
 ⟨⟨fun o' ho' => by
  obtain rfl : o = o' := Option.some.inj (ho.symm.trans ho')
  rw [hl]
  exact fun x w h1 h2 => .inl ⟨by simp [Region.wanted, hg], h x w h1 h2⟩, hm⟩, hs⟩
theorem r0Z {G : World → Prop} {A : (Nat → Value) → Act} {pre : Nat → List Nat} {Φ : Nat → (Nat → Value) → World → Prop} {Lz : List Nat} {i : Nat} {s : List Nat} {o : Oper} (ho : ops[i]? = some o) (hl : Lz.contains i = true)
  (h : ∀ x w, G w → (∀ j ∈ pre i, Φ j (d0m (j :: pre j) x) w) → ∃ v, (∀ wx, (execOp (A x).eval o).run P wx = .ok (.value v) wx) ∧ Φ i (d0m (i :: pre i) (upd x i v)) w)
  (hm : ∀ y w w', Φ i (d0m (i :: pre i) y) w → Fr Nob w w' → Φ i (d0m (i :: pre i) y) w') (hs : Obls P ops Q G A pre Φ Lz s) (hg : o.guard = none := by rfl) : Obls P ops Q G A pre Φ Lz (i :: s) :=
 ⟨⟨fun o' ho' => by
  obtain rfl : o = o' := Option.some.inj (ho.symm.trans ho')
  rw [hl]
  exact fun x w h1 h2 => ⟨by simp [Region.wanted, hg], h x w h1 h2⟩, hm⟩, hs⟩
variable {o : Oper} {a : Act} {w : World} {Ψ : Value → World → Prop}
theorem d0R {v : Value} (h : (execOp a.eval o).run P w = .ok (.value v) w) (hΨ : Ψ v w) : o.wp P a w (fun a' w' => ∃ v, a' = a.put o.dst v ∧ Fr Nob w w' ∧ Ψ v w') Q := by
 unfold Oper.wp
 rw [h]
 exact ⟨v, rfl, Fr.refl _ _, hΨ⟩
theorem z0j {v : Nat → Value} {L : List Value} {T : TypeId} (hk : Mk P (execOp a.eval o) v L T) (h : ∀ g w', Fr Nob w w' → w.heap.size ≤ g → Has w' g L T → Ψ (v g) w') : o.wp P a w (fun a' w' => ∃ v, a' = a.put o.dst v ∧ Fr Nob w w' ∧ Ψ v w') Q := by
 obtain ⟨g, w', hr, hf, hle, hg⟩ := hk w
 unfold Oper.wp
 rw [hr]
 exact ⟨v g, rfl, hf, h g w' hf hle hg⟩
theorem i0c {t e : TypeId} {k : Nat} {parts : Array (Nat × Operand)} (hop : o.op = .buildSlice t k parts) (hu : P.underlying t = some (.slice e)) {z : Value} {sz by_ : Nat} (hi0 : (P.info? e).map (fun i => (i.zero, i.size, i.bytes)) = some (some z, sz, by_))
  (vs : List Value) (hp : (parts.toList.map fun p => (p.1, a.eval p.2)) = (vs.zipIdx 0).map fun x => (x.2, x.1)) (hv : ∀ v ∈ vs, v.cells.size = sz) (hk : vs.length = k) (L : List Value) (hL : (vs.flatMap fun v => v.cells.toList) = L)
  (h : ∀ g w', Fr Nob w w' → w.heap.size ≤ g → Has w' g L e → Ψ (.slice (some ⟨g, 0, none⟩) k k) w') (hk0 : 0 < k * sz := by decide) (hk24 : k * sz ≤ 16777216 := by decide) : o.wp P a w (fun a' w' => ∃ v, a' = a.put o.dst v ∧ Fr Nob w w' ∧ Ψ v w') Q :=
 z0j (v := fun g => .slice (some ⟨g, 0, none⟩) k k) (by unfold execOp; simp only [hop]; rw [j0n hp]; exact p0a hu hi0 vs rfl hv hk L hL hk0 hk24) h
theorem v0k {e : TypeId} {z : Value} (hop : o.op = .alloc e) (hi : (P.info? e).map (·.zero) = some (some z)) (L : List Value) (hL : z.cells.toList = L)
  (h : ∀ g w', Fr Nob w w' → w.heap.size ≤ g → Has w' g L e → Ψ (.pointer (some ⟨g, 0, none⟩)) w') : o.wp P a w (fun a' w' => ∃ v, a' = a.put o.dst v ∧ Fr Nob w w' ∧ Ψ v w') Q :=
 z0j (v := fun g => .pointer (some ⟨g, 0, none⟩)) (q0d hi hop L hL) h
theorem e0U {f : FuncId} {xs : Array Operand} {ats : Array TypeId} (hop : o.op = .call { callee := .value (.func f), args := xs, argTypes := ats }) (hcl : ∀ us w, (callFunc f us).run P w = .ok (.enter f us) w)
  {vs : List Value} (hargs : xs.toList.map a.eval = vs) (h : Calls P f vs.toArray w fun e w' => ∃ v, e = .returned v ∧ Fr Nob w w' ∧ Ψ v w') : o.wp P a w (fun a' w' => ∃ v, a' = a.put o.dst v ∧ Fr Nob w w' ∧ Ψ v w') Q :=
 A0j hop hcl hargs (h.mono fun _ _ ⟨v, h1, h2, h3⟩ => ⟨v, h1, v, rfl, h2, h3⟩)
end
end Go.Mv
namespace Go.Proofs.YtemcankmggmgoaaGreat
open Go.RowKit Go.Mv Mvp Mvt
attribute [local irreducible] a0C lw mix cw b0k b0y b0j a0M a0n beN b0F a0P b0C a0J a0R elN mdL b0e a0V a0S b0g b0x toB a0u a0B b0h b0R a0L c0g b0b a0y c0s v0I
end Go.Proofs.YtemcankmggmgoaaGreat
namespace Go.Mv
open Go.RowKit
variable {P : Program}
end Go.Mv
namespace Go.Mv
open Go.RowKit Go.ChangeShapes Go.WideShapes
theorem Below.trodAll {H : Type} {enc : TypeId × Value → H} {P : Program} (hl : laidOutB P = true) {W W' : World} (hb : Below W.heap.size W W') :
  ∀ (ts : List TypeId) (vs : List Value) (ds : List (DataW H)) (ps : List MemPlace), (∀ t ∈ ts, P.readableRec t = true ∧ t < P.types.size) → DataW.TrodAll enc P W 0 (fun _ => true) true ts vs ds ps → (∀ x ∈ ps, x.block < W.heap.size) →
   DataW.TrodAll enc P W' 0 (fun b => decide (b < W.heap.size)) true ts vs ds ps
 | [], vs, ds, ps, _, h, _ => by
  obtain ⟨rfl, rfl, rfl⟩ := trodAll_nil h
  exact trodAll_mk0
 | t :: ts, vs, ds, ps, hr, h, hlt => by
  obtain ⟨v, vs', d, ds', p, q, rfl, rfl, rfl, h0, hs⟩ := trodAll_cons h
  have h1 := hr t ap17
  exact trodAll_cons_mk (Below.trod hl h1.1 h1.2 h0 hb (fun x hx => hlt x (by simp [hx]))) (Below.trodAll hl hb ts vs' ds' q (fun t ht => hr t (by simp [ht])) hs (fun x hx => hlt x (by simp [hx])))
theorem x0Z {H : Type} {enc : TypeId × Value → H} {P : Program} {f : Func} {s : ChangeSpec} {W W' : World} {args : Array Value} {ds gs : List (DataW H)} {before : List MemPlace}
  (hl : laidOutB P = true) (hr : ∀ t ∈ f.params.toList, P.readableRec t = true ∧ t < P.types.size) (hW : DataW.Whole enc P f.params.toList s.vars false W args.toList ds gs before)
  (hv : s.vars = []) (hres : (s.fn H (ds ++ gs)).results = [.lit (.bool true)]) (harg : (s.fn H (ds ++ gs)).args = ds) (hvar : (s.fn H (ds ++ gs)).vars = [])
  {tb : TypeId} (hrt : f.resultTypes = #[tb]) (hu : P.underlying tb = some .bool) (hf : Fr Nob W W') :
  s.post enc P f false true false false W args (.bool true) W' := by
 have hW' := hW
 obtain ⟨p, q, hA, hV, rfl, hfz, hnd⟩ := hW
 rw [hv] at hV
 obtain ⟨rfl, rfl⟩ := trodVars_none hV
 have hlt : ∀ x ∈ p ++ [], x.block < W.heap.size := fun x hx => hW'.lt x hx
 refine ⟨ds, [], p ++ [], [], p, [], hW', ?_, ?_, ?_, World.keptBut_mono (fun x hx => ⟨hx, ?_⟩) (hf.below.frame (· ∈ p ++ [])), fun h => by cases h⟩
 ·rw [hres, hrt]
  exact trodAll_mk1 (shut_bool hu true)
 ·rw [harg]
  exact Below.trodAll hl hf.below _ _ _ _ hr hA (fun x hx => hlt x (by simp [hx]))
 ·rw [hvar, hv]; exact rfl
 ·simp only [List.append_nil] at hx
  exact .inr (.inl hx)
end Go.Mv
namespace Go.Proofs.YtemcankmggmgoaaGreat
section
open Go.RowKit Go.Mv Mvp Mvq
theorem k0y {w : World} {a : Option Addr} {n c : Nat} {l : List UInt8} (h : PartIs w (.slice a n c) l) (k : Nat) (hk : k ≤ n) : PartIs w (.slice a k c) (l.take k) := by
 obtain ⟨a', n', c', he, hc, hn, hr, ho⟩ := h
 cases he
 have h2 := Rd.take (show Rd w a n (bs l) from hr) k hk
 rw [e0y] at h2
 exact ⟨a, k, c, rfl, by omega, by omega, h2, ho⟩
theorem k0z {w : World} {b o n c : Nat} {l : List UInt8} (h : PartIs w (.slice (some ⟨b, o, none⟩) n c) l) (k : Nat) (hk : k ≤ n) : PartIs w (.slice (some ⟨b, o + k, none⟩) (n - k) (c - k)) (l.drop k) := by
 obtain ⟨a', n', c', he, hc, hn, hr, ho⟩ := h
 cases he
 have hlen := hr.len
 refine ⟨_, _, _, rfl, by omega, by omega, ?_, ?_⟩
 ·refine ⟨by rw [a0I, List.length_drop]; omega, ?_⟩
  by_cases hz : n - k = 0
  ·exact .inl hz
  ·obtain ⟨b', o', e, hat⟩ := Rd.at hr ap16
   cases e
   refine .inr ⟨_, _, rfl, ?_⟩
   have h2 := hat.sub k (n - k)
   have e2 : ((bs l).drop k).take (n - k) = bs (l.drop k) := by
    rw [List.take_of_length_le (by rw [List.length_drop, a0I]; omega)]
    simp [bs, List.map_drop]
   rwa [e2] at h2
 ·intro x hx
  cases hx
  exact ho ⟨b, o, none⟩ rfl
theorem k0A (l : List UInt8) : b0I [l] = b0B l := by unfold b0I; simp
theorem b0t {w : World} {v : Value} {l : List UInt8} (h : PartIs w v l) : BPart w v l := h.bpart
attribute [local irreducible] a0C lw mix cw b0k b0y b0j a0M a0n beN b0F a0P b0C a0J a0R elN mdL a0S rtV b0G a0H b0J b0q a0V c0P h0Z g0P a0E b0g b0x toB a0u a0B b0h b0R a0L c0g b0b a0y c0s c0R c0T d0B d0a chN b0B b0I tS
end
section
open Go.RowKit Go.Mv Mvp Mvq
theorem q0E : ∀ (xs : List Nat) (lp : List (List UInt8)), (∀ l ∈ lp, b0J l = true) → e0u (List.zipWith (fun x l => (x % mQ.M, b0q l)) xs lp) = e0u (List.zipWith (fun x l => (x, b0q l)) xs lp)
 | [], _, _ => rfl
 | _ :: _, [], _ => rfl
 | x :: xs, l :: lp, h => by
  simp only [List.zipWith_cons_cons, e0u]
  rw [q0E xs lp fun k hk => h k (List.mem_cons_of_mem _ hk), p0d, e0Q (l0q (h l List.mem_cons_self))]
theorem D0q (xs : List Nat) (lp : List (List UInt8)) (hl : xs.length = lp.length) (h5 : xs.length ≤ 512) (hr : ∀ l ∈ lp, b0J l = true) : g0P (zB xs) lp = a0H (e0u (List.zipWith (fun x l => (x, b0q l)) xs lp)) := by
 have hn : a0V mQ (zB xs) = true := by
  unfold a0V zB
  rw [List.all_eq_true]
  intro y hy
  obtain ⟨x, _, rfl⟩ := List.mem_map.1 hy
  exact g0Q x
 have hr2 : c0P lp = true := by unfold c0P; rw [List.all_eq_true]; exact hr
 unfold g0P
 rw [if_pos (by rw [q0B]; exact hl), if_pos (by rw [q0B]; exact h5), hn, hr2, if_pos rfl, if_pos rfl, ← q0E xs lp hr]
 congr 2
 apply List.ext_getElem (by simp [smL, hl])
 intro i h1 h2
 simp only [smL, List.length_map, List.length_range] at h1
 have h3 : i < xs.length := by omega
 simp [smL, zB, List.getD_eq_getElem?_getD, h1, h3, k0r]
open Classical in
theorem F0e {p : Pt} : ((((a0H p).getD 0 0).toNat : Int) == 0) = decide (p = .O) := by
 cases p with
 | O => rw [decide_eq_true rfl, wrO]; rfl
 | A x y =>
  have h : (a0H (.A x y)).getD 0 0 = UInt8.ofNat (2 + y.val % 2) := rfl
  have h2 : (UInt8.ofNat (2 + y.val % 2)).toNat = 2 + y.val % 2 := by rw [UInt8.toNat_ofNat']; omega
  rw [h, h2, decide_eq_false (by intro h; cases h)]
  simp
  omega
theorem f0S {l : List UInt8} (h : b0B l = true) : b0J l = true := by unfold b0B at h; rw [Bool.and_eq_true] at h; exact h.1
theorem v0l {w : World} {a : Option Addr} {n c : Nat} {b : List UInt8} (hb : PartIs w (.slice a n c) b) : b.length = n := (d0N hb).len
theorem E0q (x : Nat) : (i4 x).cells.size = 4 := by simp [i4, Value.cells, a0i]
attribute [local irreducible] a0C lw mix cw b0k b0y b0j a0M a0n beN b0F a0P b0C a0J a0R elN mdL a0S rtV b0G a0H b0J b0q a0V c0P h0Z g0P a0E b0g b0x toB a0u a0B b0h b0R a0L c0g b0b a0y c0s c0R c0T d0B d0a chN b0B b0I tS e0u
theorem BParts.three {w : World} {v1 v2 v3 : Value} {l1 l2 l3 : List UInt8} (h1 : BPart w v1 l1) (h2 : BPart w v2 l2) (h3 : BPart w v3 l3) : BParts w [v1, v2, v3] [l1, l2, l3] := ⟨rfl, fun i x hx => by
 match i with
 | 0 => simp at hx; subst hx; exact h1
 | 1 => simp at hx; subst hx; exact h2
 | 2 => simp at hx; subst hx; exact h3
 | i + 3 => simp at hx⟩
end
section
open Go.RowKit Go.Mv Mvp Mvq
theorem v0m (x : Nat) (w : World) : Calls Tryz.prog 48 #[i4 (elN mQ x)] w fun e w' => ∃ v, e = .returned v ∧ PartIs w' v (a0H (a0E x gP)) ∧ Fr Nob w w' :=
 (D0o x w).mono fun e w' ⟨v, h1, h2, h3⟩ => ⟨v, h1, OwnB1.ptb h2 (by rw [c0h]; decide), h3⟩
theorem q0F (x : Nat) (va : Value) (l : List UInt8) (w : World) (hp : BPart w va l) (hr : b0J l = true) : Calls Tryz.prog 80 #[i4 (elN mQ x), va] w fun e w' => ∃ v, e = .returned v ∧ PartIs w' v (a0H (a0E x (b0q l))) ∧ Fr Nob w w' := by
 refine (v0c x va l w hp).mono ?_
 rintro e w' ⟨v, h1, h2, h3⟩
 rw [E0L x hr] at h2
 exact ⟨v, h1, OwnB1.ptb h2 (by rw [c0h]; decide), h3⟩
theorem l0N (a b c d e : List UInt8) : d0a a b c d e < mQ.M := by unfold d0a g0N; exact A0R _ _
attribute [local irreducible] a0C lw mix cw b0k b0y b0j a0M a0n beN b0F a0P b0C a0J a0R elN mdL a0S rtV b0G a0H b0J b0q a0V c0P h0Z g0P a0E b0g b0x toB a0u a0B b0h b0R a0L c0g b0b a0y c0s c0R c0T d0B d0a chN b0B b0I tS smC e0u
theorem p0h (ak : Option Addr) (nk ck : Nat) (key : List UInt8) (ap : Option Addr) (np cp : Nat) (point : List UInt8) (w : World) (hkey : PartIs w (.slice ak nk ck) key) (hpt : PartIs w (.slice ap np cp) point) (hq : d0B key = false) : Calls Tryz.prog 23 #[.slice ak nk ck, .slice ap np cp] w fun e w' => e = .returned (.tuple #[.slice none 0 0, .int .i64 3]) ∧ Fr Nob w w' := by
 have HPK := qH hkey
 have HPP := qH hpt
 have HKY := qH (d0N hkey)
 have HQ := qH hq
 clear hkey hpt hq
 clear HPK HPP
 have st0 := St.start Nob w
 go_enter Tryz.func23, Tryz.ntmps23
 go_wp2_with fail
 refine (v0d ak nk ck key _ (HKY.out.still st0.fr) HQ.out).mono ?_
 rintro e' w1 ⟨⟨N, rfl⟩, hf1⟩
 have st1 := st0.keep hf1
 clear st0 hf1
 go_wp2_with (with_reducible refine wSk 6 ?_)
 refine a0a st1 rfl rfl (z := zAd) ap14 (cw 4 0) ap12 ?_
 intro g6 w2 st2
 clear st1
 go_wp2_with (with_reducible refine wSn ?_)
 refine a0b st2 0 rfl rfl rfl rfl rfl ap5 ap4 (a0f _ _) ?_
 intro w3 st3
 clear st2
 have hfr := st3.fr
 clear st3
 go_wp2_with fail
 go_ret2
 exact ⟨rfl, hfr⟩
theorem p0i (ak : Option Addr) (nk ck : Nat) (key : List UInt8) (ap : Option Addr) (np cp : Nat) (point : List UInt8) (w : World) (hkey : PartIs w (.slice ak nk ck) key) (hpt : PartIs w (.slice ap np cp) point) (hq : d0B key = true) (hr : b0B point = false) : Calls Tryz.prog 23 #[.slice ak nk ck, .slice ap np cp] w fun e w' => e = .returned (.tuple #[.slice none 0 0, .int .i64 4]) ∧ Fr Nob w w' := by
 have HPK := qH hkey
 have HPP := qH hpt
 have HKY := qH (d0N hkey)
 have HQ := qH hq
 clear hkey hpt hq
 have HR := qH (show b0I [point] = false by rw [k0A]; exact hr)
 clear HPK hr
 have st0 := St.start Nob w
 go_enter Tryz.func23, Tryz.ntmps23
 go_wp2_with fail
 refine (n0A ak nk ck key _ (HKY.out.still st0.fr) HQ.out).mono ?_
 rintro e' w1 ⟨rfl, hf1⟩
 have st1 := st0.keep hf1
 clear st0 hf1
 go_wp2_with (with_reducible refine wSk 6 ?_)
 refine a0a st1 rfl rfl (z := zAd) ap14 (cw 4 0) ap12 ?_
 intro g6 w2 st2
 clear st1
 go_wp2_with (with_reducible refine wSn ?_)
 refine a0b st2 0 rfl rfl rfl rfl rfl ap5 ap4 (a0f _ _) ?_
 intro w3 st3
 clear st2
 go_wp2_with (with_reducible refine wSk 21 ?_)
 refine c0q rfl rfl Tryz.underlying39 c0m [.slice ap np cp] rfl (by simp; rfl) rfl rfl ?_
 intro w4 hh4 hf4 hz4
 have st4 := st3.keep hf4
 have HSL := qH hh4
 clear hh4 hf4 hz4 st3
 generalize w3.heap.size = gl21 at *
 go_wp2_with fail
 refine (f0A _ 1 1 [.slice ap np cp] [point] _ (Rd.whole HSL.out) (BParts.one (b0t (HPP.out.still st4.fr))) ap15).mono ?_
 rintro e' w5 ⟨rfl, hf5⟩
 have st5 := st4.keep hf5
 clear st4 hf5
 clear HSL
 rw [HR.out]
 have hfr := st5.fr
 clear st5
 go_wp2_with fail
 go_ret2
 exact ⟨rfl, hfr⟩
theorem n0E (ak : Option Addr) (nk ck : Nat) (key : List UInt8) (ap : Option Addr) (np cp : Nat) (point : List UInt8) (w : World) (hkey : PartIs w (.slice ak nk ck) key) (hpt : PartIs w (.slice ap np cp) point) (hq : d0B key = true) (hr : b0B point = true) : Calls Tryz.prog 23 #[.slice ak nk ck, .slice ap np cp] w fun e w' => ∃ v, e = .returned (.tuple #[v, .int .i64 0]) ∧ OwnB1 w w' v (a0P (smC key point) ++ a0P (((chN a0A [key, point]) + (smC key point) * beN key) % mQ.M)) ∧ Fr Nob w w' := by
 have HPK := qH hkey
 have HPP := qH hpt
 have HKY := qH (d0N hkey)
 have HQ := qH hq
 clear hkey hpt hq
 have HR := qH (show b0I [point] = true by rw [k0A]; exact hr)
 have HRD := qH (f0S hr)
 have HC := qH (show smC key point = d0a point (a0H (a0E (beN key) gP)) (a0H (a0E (beN key) (b0q point))) (a0H (a0E (chN a0A [key, point]) gP)) (a0H (a0E (chN a0A [key, point]) (b0q point))) by unfold smC; rfl)
 have HLC := qH (show smC key point < mQ.M by rw [HC.out]; exact l0N _ _ _ _ _)
 clear hr
 have st0 := St.start Nob w
 go_enter Tryz.func23, Tryz.ntmps23
 go_wp2_with fail
 refine (n0A ak nk ck key _ (HKY.out.still st0.fr) HQ.out).mono ?_
 rintro e' w1 ⟨rfl, hf1⟩
 have st1 := st0.keep hf1
 clear st0 hf1
 go_wp2_with (with_reducible refine wSk 6 ?_)
 refine a0a st1 rfl rfl (z := zAd) ap14 (cw 4 0) ap12 ?_
 intro g6 w2 st2
 clear st1
 go_wp2_with (with_reducible refine wSn ?_)
 refine a0b st2 0 rfl rfl rfl rfl rfl ap5 ap4 (a0f _ _) ?_
 intro w3 st3
 clear st2
 go_wp2_with (with_reducible refine wSk 21 ?_)
 refine c0q rfl rfl Tryz.underlying39 c0m [.slice ap np cp] rfl (by simp; rfl) rfl rfl ?_
 intro w4 hh4 hf4 hz4
 have st4 := st3.keep hf4
 have HSL := qH hh4
 clear hh4 hf4 hz4 st3
 generalize w3.heap.size = gl21 at *
 go_wp2_with fail
 refine (f0A _ 1 1 [.slice ap np cp] [point] _ (Rd.whole HSL.out) (BParts.one (b0t (HPP.out.still st4.fr))) ap15).mono ?_
 rintro e' w5 ⟨rfl, hf5⟩
 have st5 := st4.keep hf5
 clear st4 hf5
 clear HSL
 rw [HR.out]
 go_wp2_with (with_reducible refine wSk 26 ?_)
 refine c0q rfl rfl Tryz.underlying39 c0m [.slice ak nk ck, .slice ap np cp] rfl (by simp; exact ⟨rfl, rfl⟩) rfl rfl ?_
 intro w6 hh6 hf6 hz6
 have st6 := st5.keep hf6
 have HSL := qH hh6
 clear hh6 hf6 hz6 st5
 generalize w5.heap.size = gl26 at *
 go_wp2_with fail
 refine (x0z ⟨#[110, 111, 110, 99, 101, 32, 115, 97, 109, 101]⟩ a0A rfl _ 2 [.slice ak nk ck, .slice ap np cp] [key, point] _ ap15 HSL.out ⟨HPK.out.still st6.fr, HPP.out.still st6.fr, trivial⟩ ap17).mono ?_
 rintro e' w7 ⟨rfl, hf7⟩
 have st7 := st6.keep hf7
 clear st6 hf7
 clear HSL
 go_wp2_with (with_reducible refine wSk 8 ?_)
 refine a0a st7 rfl rfl (z := zAd) ap14 (cw 4 0) ap12 ?_
 intro g8 w8 st8
 clear st7
 go_wp2_with (with_reducible refine wSn ?_)
 refine a0b st8 1 rfl rfl rfl rfl rfl ap5 ap4 (a0f _ _) ?_
 intro w9 st9
 clear st8
 have HP2 := qH (HPP.out.still st9.fr)
 clear HPP HPK HKY
 go_wp2_with fail
 refine wp_region_noPanic ?_
 refine j0J st9 (fun wz => Fr Nob w9 wz) (Fr.refl Nob _).drew (fun _ _ h k => h.then k) 13 [.o 12, .w 0, .t 1, .t 3, .w 4, .t 6, .t 8, .w 9, .c 2, .c 5, .c 7, .c 10, .c 11, .j 12] (.m 13 .nil) ap14 ap14 (fun _ _ _ _ _ h => h) ?_
 clear st9
 refine b0p rfl rfl rfl (z := zAd) ap14 (cw 4 0) ap12 ?_
 try simp only [clL]
 refine a0m rfl rfl apX ?_
 try simp only [clL]
 refine a0d rfl rfl rfl (fun _ => rfl) (cw 4 (elN mQ (beN key))) (fun wx hS => St.rangeL hS 0 rfl 0 _ dZl) Tryz.underlying68 rfl ap4 ?_
 try simp only [clL]
 refine a0d rfl rfl rfl (fun _ => rfl) (cw 4 (elN mQ (beN key))) (fun wx hS => St.rangeL hS 0 rfl 0 _ dZl) Tryz.underlying68 rfl ap4 ?_
 try simp only [clL]
 refine a0m rfl rfl apX ?_
 try simp only [clL]
 refine a0d rfl rfl rfl (fun _ => rfl) (cw 4 (elN mQ (chN a0A [key, point]))) (fun wx hS => St.rangeL hS 1 rfl 0 _ dZl) Tryz.underlying68 rfl ap4 ?_
 try simp only [clL]
 refine a0d rfl rfl rfl (fun _ => rfl) (cw 4 (elN mQ (chN a0A [key, point]))) (fun wx hS => St.rangeL hS 1 rfl 0 _ dZl) Tryz.underlying68 rfl ap4 ?_
 try simp only [clL]
 refine a0m rfl rfl apX ?_
 try simp only [clL]
 refine b0v (X := Value) (fun v => v) (fun v wx => PartIs wx v (a0H (a0E (beN key) gP))) (fun _ _ _ h k => h.still k) rfl rfl rfl Tryz.call48 (fun w hS hR => v0m (beN key) _) (fun _ => rfl) fun v1 => ?_
 try simp only [clL]
 refine b0v (X := Value) (fun v => v) (fun v wx => PartIs wx v (a0H (a0E (beN key) (b0q point)))) (fun _ _ _ h k => h.still k) rfl rfl rfl Tryz.call80 (fun w hS hR => q0F (beN key) _ point _ (b0t (HP2.out.still hR.1)) HRD.out) (fun _ => rfl) fun v2 => ?_
 try simp only [clL]
 refine b0v (X := Value) (fun v => v) (fun v wx => PartIs wx v (a0H (a0E (chN a0A [key, point]) gP))) (fun _ _ _ h k => h.still k) rfl rfl rfl Tryz.call48 (fun w hS hR => v0m (chN a0A [key, point]) _) (fun _ => rfl) fun v3 => ?_
 try simp only [clL]
 refine b0v (X := Value) (fun v => v) (fun v wx => PartIs wx v (a0H (a0E (chN a0A [key, point]) (b0q point)))) (fun _ _ _ h k => h.still k) rfl rfl rfl Tryz.call80 (fun w hS hR => q0F (chN a0A [key, point]) _ point _ (b0t (HP2.out.still hR.1.1.1)) HRD.out) (fun _ => rfl) fun v4 => ?_
 try simp only [clL]
 refine a0c rfl rfl rfl Tryz.call79 (fun w hS hR => (j0j (.slice ap np cp) point v1 (a0H (a0E (beN key) gP)) v2 (a0H (a0E (beN key) (b0q point))) v3 (a0H (a0E (chN a0A [key, point]) gP)) v4 (a0H (a0E (chN a0A [key, point]) (b0q point))) _ (HP2.out.still hR.1.1.1.1) hR.1.1.1.2 hR.1.1.2 hR.1.2 hR.2).mono fun e w' h => (show e = .returned (i4 (elN mQ (smC key point))) ∧ Fr Nob _ w' by rw [HC.out]; exact h)) (fun _ => rfl) ?_
 try simp only [clL]
 refine b0f List.mem_cons_self fun g9 => ?_
 simp only [upd, reduceIte]
 try simp only [Nat.reduceEqDiff, reduceIte]
 refine a0t fun xq w10 st10 hR => ?_
 try dsimp only
 clear hR xq
 refine a0q rfl rfl ?_
 refine a0h st10 2 rfl rfl rfl rfl ap5 ap4 (a0f _ _) ?_
 intro w11 st11
 repeat (first | simp only [List.cons_append] at st11 | simp only [List.nil_append] at st11 | simp only [List.set_cons_succ] at st11 | simp only [List.set_cons_zero] at st11)
 clear st10
 try simp only [Act.put]
 refine a0g ?_
 refine NoPanic.normal ?_
 clear HP2
 go_wp2_with fail
 refine wp_region_noPanic ?_
 refine a0e st11 7 [.t 0, .t 2, .t 3, .t 4, .c 1, .c 5, .c 6] (.m 7 (.w 8 (.w 9 .nil))) ap14 ap14 (fun _ _ _ _ _ h => h) ?_
 clear st11
 refine a0d rfl rfl rfl (fun _ => rfl) (cw 4 (elN mQ (smC key point))) (fun wx hS => St.rangeL hS 2 rfl 0 _ dZl) Tryz.underlying68 rfl ap4 ?_
 try simp only [clL]
 refine a0d rfl rfl rfl (fun _ => rfl) (cw 4 (elN mQ (chN a0A [key, point]))) (fun wx hS => St.rangeL hS 1 rfl 0 _ dZl) Tryz.underlying68 rfl ap4 ?_
 try simp only [clL]
 refine a0d rfl rfl rfl (fun _ => rfl) (cw 4 (elN mQ (smC key point))) (fun wx hS => St.rangeL hS 2 rfl 0 _ dZl) Tryz.underlying68 rfl ap4 ?_
 try simp only [clL]
 refine a0d rfl rfl rfl (fun _ => rfl) (cw 4 (elN mQ (beN key))) (fun wx hS => St.rangeL hS 0 rfl 0 _ dZl) Tryz.underlying68 rfl ap4 ?_
 try simp only [clL]
 refine b0v (X := Value) (fun v => v) (fun v wx => Own wx w.heap.size 5 1 v 32 (bs (a0P ((smC key point) % mQ.M)))) (fun _ _ _ h k => h.still k) rfl rfl rfl Tryz.call51 (fun w hS hR => (h0e mQ .one (smC key point) _).mono fun e w' ⟨v, h1, h2, h3⟩ => ⟨v, h1, Own.mono h2 hS.fr.size, h3⟩) (fun _ => rfl) fun vc => ?_
 try simp only [clL]
 refine a0c rfl rfl rfl Tryz.call49 (fun w hS hR => E0o (chN a0A [key, point]) (smC key point) (beN key) _) (fun _ => rfl) ?_
 try simp only [clL]
 refine b0v (X := Option Addr × Nat) (fun y => .slice y.1 32 y.2) (fun y wx => BPart wx (.slice y.1 32 y.2) (a0P (((chN a0A [key, point]) + (smC key point) * beN key) % mQ.M))) (fun _ _ _ h k => h.still k) rfl rfl rfl Tryz.call51 (fun w hS hR => i0a ((chN a0A [key, point]) + (smC key point) * beN key) _) (fun _ => rfl) fun yb => ?_
 try simp only [clL]
 refine a0t fun xq w12 st12 hR => ?_
 try dsimp only
 have HOC := qH hR.1.2
 obtain ⟨ay, ny, cy, hey, -, hry⟩ := hR.2
 cases hey
 have HRB := qH (show RdB _ yb.1 32 _ from hry)
 clear hry
 clear hR xq
 refine a0q rfl rfl ?_
 refine r0W rfl Tryz.underlying22 b0K rfl ap15 HOC.out rfl rfl HRB.out (i0d _) ap15 ap15 st12.fr.size ?_
 intro va wa hown hfa
 have st13 := St.ofFr ((HOC.out).fr st12.fr (Nat.le_refl _) hfa)
 have HOWN := qH hown
 clear hown hfa
 clear st12
 try simp only [clL]
 refine a0j rfl rfl apW ?_
 try simp only [clL]
 refine a0j rfl rfl apW ?_
 try simp only [clL]
 refine a0g ?_
 refine NoPanic.normal ?_
 clear HOC HRB
 have hfr := st13.fr
 clear st13
 go_wp2_with fail
 go_ret2
 refine ⟨va, rfl, ?_, hfr⟩
 have h := HOWN.out
 rw [← d0C, Nat.mod_eq_of_lt HLC.out] at h
 exact OwnB1.of h (by rw [List.length_append, a0X, a0X])
theorem v0n {k p : List UInt8} (h : d0B k = true) (h2 : b0B p = true) : smE k p = 0 ∧ smS k p = a0P (smC k p) ++ a0P ((chN a0A [k, p] + smC k p * beN k) % mQ.M) := by unfold smE smS; rw [if_pos h, if_pos h, if_pos h2, if_pos h2]; exact ⟨rfl, rfl⟩
theorem D0H {k p : List UInt8} (h : d0B k = true) (h2 : b0B p = false) : smE k p = 4 ∧ smS k p = [] := by unfold smE smS; rw [if_pos h, if_pos h, h2]; exact ⟨rfl, rfl⟩
theorem D0I {k p : List UInt8} (h : d0B k = false) : smE k p = 3 ∧ smS k p = [] := by unfold smE smS; rw [h]; exact ⟨rfl, rfl⟩
theorem j0t (ak : Option Addr) (nk ck : Nat) (key : List UInt8) (ap : Option Addr) (np cp : Nat) (point : List UInt8) (w : World) (hkey : PartIs w (.slice ak nk ck) key) (hpt : PartIs w (.slice ap np cp) point) : Calls Tryz.prog 23 #[.slice ak nk ck, .slice ap np cp] w fun e w' => ∃ v, e = .returned (.tuple #[v, .int .i64 (smE key point)]) ∧ OwnB1 w w' v (smS key point) ∧ Fr Nob w w' := by
 cases h : d0B key with
 | false => rw [(D0I (p := point) h).1, (D0I (p := point) h).2]; exact (p0h ak nk ck key ap np cp point w hkey hpt h).mono fun e w' k => ⟨_, k.1, OwnB1.nil _ _, k.2⟩
 | true =>
  cases h2 : b0B point with
  | false => rw [(D0H h h2).1, (D0H h h2).2]; exact (p0i ak nk ck key ap np cp point w hkey hpt h h2).mono fun e w' k => ⟨_, k.1, OwnB1.nil _ _, k.2⟩
  | true => rw [(v0n h h2).1, (v0n h h2).2]; exact n0E ak nk ck key ap np cp point w hkey hpt h h2
end
end Go.Proofs.YtemcankmggmgoaaGreat
