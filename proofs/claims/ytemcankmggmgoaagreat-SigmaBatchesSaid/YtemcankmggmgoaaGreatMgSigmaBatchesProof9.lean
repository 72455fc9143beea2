/- ; ; ; ; ; ; ; ; ; ; ; ; ; ; ; ; ; ; ; ; ; ; ; . -/
import Derived.Test.YtemcankmggmgoaaGreatMgSigmaBatchesProof8
import Derived.Test.YtemcankmggmgoaaGreatMgSigmaBatchesProof7
import Derived.Test.YtemcankmggmgoaaGreatMgSigmaBatchesProof5
import Derived.Test.YtemcankmggmgoaaGreatMgSigmaBatchesProof2
import Derived.Test.YtemcankmggmgoaaGreatMgSigmaBatchesProof4
import Derived.Test.YtemcankmggmgoaaGreatMgSigmaBatchesProof6
import Derived.Test.YtemcankmggmgoaaGreatMgSigmaBatchesProof1
import Derived.ProofKit
import Derived.OpenShut
import Derived.Carry
set_option maxHeartbeats 16000000
set_option maxRecDepth 1000000
open Go.Proofs.Tryz

namespace Go.Proofs.YtemcankmggmgoaaGreat
section
open Go.RowKit Go.Mv Mvp Mvq
theorem jR {o : Oper} {a : Act} {p q : Operand} {T U : TypeId} {s t : ByteArray} (ho : o.op = .binOp .eql T p q U) (hp : a.eval p = .string s) (hq : a.eval q = .string t) {b : Bool} (hb : decide (s = t) = b) (w : World) :
  (execOp a.eval o).run prog w = .ok (.value (.bool b)) w := by
 subst hb
 exact kU ho hp hq w (by go_simp) (by
  go_simp
  rw [Bool.eq_iff_iff, beq_iff_eq, decide_eq_true_eq, sS, sS]
  exact ⟨fun h => ByteArray.ext (Array.toList_inj.1 h), fun h => by rw [h]⟩)
attribute [local irreducible] bI lw mix cw cT dG cS bQ aO beN dO cI dI bM bT elN mdL cL rtV dW kN kc gE cK kC noR dB oH RT.L gXn gYn
theorem g0v (s : ByteArray) (hz : decide (s = (mkS (List.replicate 33 0))) = true) (w : World) : Calls prog 77 #[.string s] w fun e w' => e = .returned (.tuple #[.agg noR.L.toArray, .bool true]) ∧ Fr Nob w w' := by
 have HZ := qH hz
 clear hz
 have st0 := St.start Nob w
 go_enter func77, ntmps77
 go_wp2_with (with_reducible refine AA 2 ?_)
 refine aA st0 rfl rfl (z := zAc) Aa (cw 12 0) Af ?_
 intro g2 w1 st1
 clear st0
 go_wp2_with (with_reducible refine AA 8 ?_)
 refine eP rfl rfl underlying22 dT rfl rfl rfl 33 33 Ae Ae Ab Ab Al ?_
 intro w2 hg2 hf2 hz2
 clear hz2
 have st2 := st1.new hf2 hg2 (Nat.le_refl _)
 clear st1 hg2 hf2
 rw [p0s] at st2
 go_wp2_with (with_reducible refine AA 9 ?_)
 refine fE rfl rfl underlying22 underlying5 underlying9 rfl (l := List.replicate 33 0) (Rd.whole (st2.at 1 rfl)) ?_
 have st3 := st2.less (List.sublist_append_left _ _)
 clear st2
 go_wp2_with (with_reducible refine AA 10 ?_)
 refine gM rfl (jR rfl rfl rfl HZ.out _) ?_
 go_wp2_with fail
 refine (d0A _).mono ?_
 rintro e' w4 ⟨rfl, hf4⟩
 have st4 := st3.keep hf4
 clear st3 hf4
 go_wp2_with (with_reducible refine AB ?_)
 refine aB st4 0 rfl rfl rfl rfl rfl Bs Aa (RT.one _) ?_
 intro w5 st5
 clear st4
 have hr := st5.at 0 rfl
 have hfr := st5.fr
 clear st5
 go_wp2_with fail
 exact bodyPost_ret (bF rfl rfl hr underlying62 rfl Aa rfl) rfl ⟨rfl, hfr⟩
theorem j0B (s : ByteArray) (hz : decide (s = (mkS (List.replicate 33 0))) = false) (hl : ((s.size : Int) != 33) = true) (w : World) : Calls prog 77 #[.string s] w fun e w' => e = .returned (.tuple #[rpV 0 0 0, .bool false]) ∧ Fr Nob w w' := by
 have HZ := qH hz
 clear hz
 have st0 := St.start Nob w
 go_enter func77, ntmps77
 go_wp2_with (with_reducible refine AA 2 ?_)
 refine aA st0 rfl rfl (z := zAc) Aa (cw 12 0) Af ?_
 intro g2 w1 st1
 clear st0
 go_wp2_with (with_reducible refine AA 8 ?_)
 refine eP rfl rfl underlying22 dT rfl rfl rfl 33 33 Ae Ae Ab Ab Al ?_
 intro w2 hg2 hf2 hz2
 clear hz2
 have st2 := st1.new hf2 hg2 (Nat.le_refl _)
 clear st1 hg2 hf2
 rw [p0s] at st2
 go_wp2_with (with_reducible refine AA 9 ?_)
 refine fE rfl rfl underlying22 underlying5 underlying9 rfl (l := List.replicate 33 0) (Rd.whole (st2.at 1 rfl)) ?_
 have st3 := st2.less (List.sublist_append_left _ _)
 clear st2
 go_wp2_with (with_reducible refine AA 10 ?_)
 refine gM rfl (jR rfl rfl rfl HZ.out _) ?_
 go_wp2_with (with_reducible refine AA 25 ?_)
 refine cD rfl rfl _ mX ?_
 go_wp2_with (with_reducible refine AB ?_)
 refine aB st3 0 rfl rfl rfl rfl rfl Ai Aa (bX _ _ _) ?_
 intro w4 st4
 clear st3
 have hr := st4.at 0 rfl
 have hfr := st4.fr
 clear st4
 go_wp2_with fail
 exact bodyPost_ret (bF rfl rfl hr underlying62 rfl Aa rfl) rfl ⟨by unfold rpV rpL; rw [vI]; rfl, hfr⟩
theorem xU (s : ByteArray) (hz : decide (s = (mkS (List.replicate 33 0))) = false) (hl : s.size = 33) (q : Nat) (hb : ∀ h : 0 < s.size, ((s[0]'h).toNat : Int) = (q : Int)) (h2 : ((q : Int) != 2) = true) (h3 : ((q : Int) != 3) = true) (w : World) : Calls prog 77 #[.string s] w fun e w' => e = .returned (.tuple #[rpV 0 0 0, .bool false]) ∧ Fr Nob w w' := by
 have HZ := qH hz
 clear hz
 have hl33 : ((s.size : Int) != 33) = false := by rw [hl]; rfl
 have h0 : (0 : Int) < (s.size : Int) := by omega
 have h00 : 0 < s.size := by omega
 have h1 : (1 : Int) ≤ (s.size : Int) := by omega
 have hb0 := hb h00
 clear hl hb
 have st0 := St.start Nob w
 go_enter func77, ntmps77
 go_wp2_with (with_reducible refine AA 2 ?_)
 refine aA st0 rfl rfl (z := zAc) Aa (cw 12 0) Af ?_
 intro g2 w1 st1
 clear st0
 go_wp2_with (with_reducible refine AA 8 ?_)
 refine eP rfl rfl underlying22 dT rfl rfl rfl 33 33 Ae Ae Ab Ab Al ?_
 intro w2 hg2 hf2 hz2
 clear hz2
 have st2 := st1.new hf2 hg2 (Nat.le_refl _)
 clear st1 hg2 hf2
 rw [p0s] at st2
 go_wp2_with (with_reducible refine AA 9 ?_)
 refine fE rfl rfl underlying22 underlying5 underlying9 rfl (l := List.replicate 33 0) (Rd.whole (st2.at 1 rfl)) ?_
 have st3 := st2.less (List.sublist_append_left _ _)
 clear st2
 go_wp2_with (with_reducible refine AA 10 ?_)
 refine gM rfl (jR rfl rfl rfl HZ.out _) ?_
 go_wp2_with (with_reducible refine AA 25 ?_)
 refine cD rfl rfl _ mX ?_
 go_wp2_with (with_reducible refine AB ?_)
 refine aB st3 0 rfl rfl rfl rfl rfl Ai Aa (bX _ _ _) ?_
 intro w4 st4
 clear st3
 have hr := st4.at 0 rfl
 have hfr := st4.fr
 clear st4
 go_wp2_with fail
 exact bodyPost_ret (bF rfl rfl hr underlying62 rfl Aa rfl) rfl ⟨by unfold rpV rpL; rw [vI]; rfl, hfr⟩
theorem g0w (s : ByteArray) (hz : decide (s = (mkS (List.replicate 33 0))) = false) (hl : s.size = 33) (hb : ∀ h : 0 < s.size, ((s[0]'h).toNat : Int) = 2) (hn : ∀ wx, Calls prog 122 #[fv mP.M, .string (s.extract 1 s.size)] wx fun e w' => ∃ N : Nat, e = .returned (.tuple #[i4 N, .bool false]) ∧ True ∧ Fr Nob wx w') (w : World) : Calls prog 77 #[.string s] w fun e w' => e = .returned (.tuple #[rpV 0 0 0, .bool false]) ∧ Fr Nob w w' := by
 have HZ := qH hz
 clear hz
 have hl33 : ((s.size : Int) != 33) = false := by rw [hl]; rfl
 have h0 : (0 : Int) < (s.size : Int) := by omega
 have h00 : 0 < s.size := by omega
 have h1 : (1 : Int) ≤ (s.size : Int) := by omega
 have hb0 := hb h00
 clear hl hb
 have HN := qH hn
 clear hn
 have st0 := St.start Nob w
 go_enter func77, ntmps77
 go_wp2_with (with_reducible refine AA 2 ?_)
 refine aA st0 rfl rfl (z := zAc) Aa (cw 12 0) Af ?_
 intro g2 w1 st1
 clear st0
 go_wp2_with (with_reducible refine AA 8 ?_)
 refine eP rfl rfl underlying22 dT rfl rfl rfl 33 33 Ae Ae Ab Ab Al ?_
 intro w2 hg2 hf2 hz2
 clear hz2
 have st2 := st1.new hf2 hg2 (Nat.le_refl _)
 clear st1 hg2 hf2
 rw [p0s] at st2
 go_wp2_with (with_reducible refine AA 9 ?_)
 refine fE rfl rfl underlying22 underlying5 underlying9 rfl (l := List.replicate 33 0) (Rd.whole (st2.at 1 rfl)) ?_
 have st3 := st2.less (List.sublist_append_left _ _)
 clear st2
 go_wp2_with (with_reducible refine AA 10 ?_)
 refine gM rfl (jR rfl rfl rfl HZ.out _) ?_
 go_wp2_with fail
 refine wp_region_noPanic ?_
 refine aE st3 9 [.o 7, .w 1, .w 2, .c 0, .c 3, .w 4, .w 5, .w 6, .j 7] (.r 8 (.m 9 .nil)) Aa Aa (fun _ _ _ _ _ h => h) ?_
 clear st3
 refine dK rfl rfl rfl nL (cw 4 0) rfl ?_
 try simp only [J]
 iterate 2 (refine aS rfl rfl apX ?_; try simp only [J])
 refine aC rfl rfl rfl call112 (fun w hS hR => bO _) (fun _ => rfl) ?_
 try simp only [J]
 refine iG (X := Nat) (fun N => .tuple #[i4 N, .bool false]) (fun _ _ => True) (fun _ _ _ _ _ => trivial) rfl rfl rfl call122 (fun w hS hR => HN.out _) (fun _ => rfl) fun N => ?_
 try simp only [J]
 iterate 3 (refine aS rfl rfl apX ?_; try simp only [J])
 refine dL List.mem_cons_self fun g4 => ?_
 simp only [upd, reduceIte]
 refine bB fun xq w4 st4 hR => ?_
 try dsimp only
 clear hR xq
 refine bC rfl rfl ?_
 refine aG st4 1 rfl rfl rfl rfl Ai Aa (aF _ _) ?_
 intro w5 st5
 repeat (first | simp only [List.cons_append] at st5 | simp only [List.nil_append] at st5 | simp only [List.set_cons_succ] at st5 | simp only [List.set_cons_zero] at st5)
 clear st4
 refine ⟨by first | exact st5 | exact St.less st5 Ae, ?_⟩
 try simp only [Act.put]
 refine aU rfl rfl ?_
 go_simp
 try simp only [J]
 refine aH ?_
 refine NoPanic.normal ?_
 go_wp2_with (with_reducible refine AA 35 ?_)
 refine cD rfl rfl _ mX ?_
 go_wp2_with (with_reducible refine AB ?_)
 refine aB st5 0 rfl rfl rfl rfl rfl Ai Aa (bX _ _ _) ?_
 intro w6 st6
 clear st5
 have hr := st6.at 0 rfl
 have hfr := st6.fr
 clear st6
 go_wp2_with fail
 exact bodyPost_ret (bF rfl rfl hr underlying62 rfl Aa rfl) rfl ⟨by unfold rpV rpL; rw [vI]; rfl, hfr⟩
theorem c0c (s : ByteArray) (hz : decide (s = (mkS (List.replicate 33 0))) = false) (hl : s.size = 33) (hb : ∀ h : 0 < s.size, ((s[0]'h).toNat : Int) = 2) (X Y : K) (b : Bool) (hn : ∀ wx, Calls prog 122 #[fv mP.M, .string (s.extract 1 s.size)] wx fun e w' => e = .returned (.tuple #[i4 (kN X), .bool true]) ∧ Fr Nob wx w') (ha : ∀ wx, Calls prog 141 #[i4 (kN X)] wx fun e w' => e = .returned (.tuple #[rpV X Y 1, .bool b]) ∧ Fr Nob wx w') (w : World) : Calls prog 77 #[.string s] w fun e w' => e = .returned (.tuple #[rpV X Y 1, .bool b]) ∧ Fr Nob w w' := by
 have HZ := qH hz
 clear hz
 have hl33 : ((s.size : Int) != 33) = false := by rw [hl]; rfl
 have h0 : (0 : Int) < (s.size : Int) := by omega
 have h00 : 0 < s.size := by omega
 have h1 : (1 : Int) ≤ (s.size : Int) := by omega
 have hb0 := hb h00
 clear hl hb
 have HN := qH hn
 unfold rpV rpL at ha
 have HAT := qH ha
 clear hn ha
 unfold rpV rpL
 have st0 := St.start Nob w
 go_enter func77, ntmps77
 go_wp2_with (with_reducible refine AA 2 ?_)
 refine aA st0 rfl rfl (z := zAc) Aa (cw 12 0) Af ?_
 intro g2 w1 st1
 clear st0
 go_wp2_with (with_reducible refine AA 8 ?_)
 refine eP rfl rfl underlying22 dT rfl rfl rfl 33 33 Ae Ae Ab Ab Al ?_
 intro w2 hg2 hf2 hz2
 clear hz2
 have st2 := st1.new hf2 hg2 (Nat.le_refl _)
 clear st1 hg2 hf2
 rw [p0s] at st2
 go_wp2_with (with_reducible refine AA 9 ?_)
 refine fE rfl rfl underlying22 underlying5 underlying9 rfl (l := List.replicate 33 0) (Rd.whole (st2.at 1 rfl)) ?_
 have st3 := st2.less (List.sublist_append_left _ _)
 clear st2
 go_wp2_with (with_reducible refine AA 10 ?_)
 refine gM rfl (jR rfl rfl rfl HZ.out _) ?_
 go_wp2_with fail
 refine wp_region_noPanic ?_
 refine aE st3 9 [.o 7, .w 1, .w 2, .c 0, .c 3, .w 4, .w 5, .w 6, .j 7] (.r 8 (.m 9 .nil)) Aa Aa (fun _ _ _ _ _ h => h) ?_
 clear st3
 refine dK rfl rfl rfl nL (cw 4 0) rfl ?_
 try simp only [J]
 iterate 2 (refine aS rfl rfl apX ?_; try simp only [J])
 refine aC rfl rfl rfl call112 (fun w hS hR => bO _) (fun _ => rfl) ?_
 try simp only [J]
 refine aC rfl rfl rfl call122 (fun w hS hR => HN.out _) (fun _ => rfl) ?_
 try simp only [J]
 iterate 3 (refine aS rfl rfl apX ?_; try simp only [J])
 refine dL List.mem_cons_self fun g4 => ?_
 simp only [upd, reduceIte]
 refine bB fun xq w4 st4 hR => ?_
 try dsimp only
 clear hR xq
 refine bC rfl rfl ?_
 refine aG st4 1 rfl rfl rfl rfl Ai Aa (aF _ _) ?_
 intro w5 st5
 repeat (first | simp only [List.cons_append] at st5 | simp only [List.nil_append] at st5 | simp only [List.set_cons_succ] at st5 | simp only [List.set_cons_zero] at st5)
 clear st4
 refine ⟨by first | exact st5 | exact St.less st5 Ae, ?_⟩
 try simp only [Act.put]
 refine aU rfl rfl ?_
 go_simp
 try simp only [J]
 refine aH ?_
 refine NoPanic.normal ?_
 go_wp2_with (with_reducible refine AA 37 ?_)
 refine aI st5 1 rfl rfl rfl underlying60 rfl Aa ?_
 go_wp2_with fail
 refine (HAT.out _).mono ?_
 rintro e' w6 ⟨rfl, hf6⟩
 have st6 := st5.keep hf6
 clear st5 hf6
 go_wp2_with (with_reducible refine AA 6 ?_)
 refine aA st6 rfl rfl (z := zAc) Aa (cw 12 0) Af ?_
 intro g6 w7 st7
 clear st6
 go_wp2_with (with_reducible refine AB ?_)
 refine aB st7 2 rfl rfl rfl rfl rfl Ai Aa (bX _ _ _) ?_
 intro w8 st8
 clear st7
 go_wp2_with (with_reducible refine AA 46 ?_)
 refine aM st8 2 rfl rfl rfl underlying62 rfl rfl Aa ?_
 go_wp2_with (with_reducible refine AB ?_)
 refine aB st8 0 rfl rfl rfl rfl rfl Ai Aa (bX _ _ _) ?_
 intro w9 st9
 clear st8
 have hr := st9.at 0 rfl
 have hfr := st9.fr
 clear st9
 go_wp2_with fail
 exact bodyPost_ret (bF rfl rfl hr underlying62 rfl Aa rfl) rfl ⟨rfl, hfr⟩
theorem r0z (x y z : K) (w : World) : Calls prog 82 #[.agg (cw 4 (kN x) ++ (cw 4 (kN y) ++ cw 4 (kN z))).toArray] w fun e w' => e = .returned (.agg (cw 4 (kN x) ++ (cw 4 (kN (-y)) ++ cw 4 (kN z))).toArray) ∧ Fr Nob w w' := m0f x y z _ rfl w
theorem g0x (s : ByteArray) (hz : decide (s = (mkS (List.replicate 33 0))) = false) (hl : s.size = 33) (hb : ∀ h : 0 < s.size, ((s[0]'h).toNat : Int) = 3) (hn : ∀ wx, Calls prog 122 #[fv mP.M, .string (s.extract 1 s.size)] wx fun e w' => ∃ N : Nat, e = .returned (.tuple #[i4 N, .bool false]) ∧ True ∧ Fr Nob wx w') (w : World) : Calls prog 77 #[.string s] w fun e w' => e = .returned (.tuple #[rpV 0 0 0, .bool false]) ∧ Fr Nob w w' := by
 have HZ := qH hz
 clear hz
 have hl33 : ((s.size : Int) != 33) = false := by rw [hl]; rfl
 have h0 : (0 : Int) < (s.size : Int) := by omega
 have h00 : 0 < s.size := by omega
 have h1 : (1 : Int) ≤ (s.size : Int) := by omega
 have hb0 := hb h00
 clear hl hb
 have HN := qH hn
 clear hn
 have st0 := St.start Nob w
 go_enter func77, ntmps77
 go_wp2_with (with_reducible refine AA 2 ?_)
 refine aA st0 rfl rfl (z := zAc) Aa (cw 12 0) Af ?_
 intro g2 w1 st1
 clear st0
 go_wp2_with (with_reducible refine AA 8 ?_)
 refine eP rfl rfl underlying22 dT rfl rfl rfl 33 33 Ae Ae Ab Ab Al ?_
 intro w2 hg2 hf2 hz2
 clear hz2
 have st2 := st1.new hf2 hg2 (Nat.le_refl _)
 clear st1 hg2 hf2
 rw [p0s] at st2
 go_wp2_with (with_reducible refine AA 9 ?_)
 refine fE rfl rfl underlying22 underlying5 underlying9 rfl (l := List.replicate 33 0) (Rd.whole (st2.at 1 rfl)) ?_
 have st3 := st2.less (List.sublist_append_left _ _)
 clear st2
 go_wp2_with (with_reducible refine AA 10 ?_)
 refine gM rfl (jR rfl rfl rfl HZ.out _) ?_
 go_wp2_with fail
 refine wp_region_noPanic ?_
 refine aE st3 9 [.o 7, .w 1, .w 2, .c 0, .c 3, .w 4, .w 5, .w 6, .j 7] (.r 8 (.m 9 .nil)) Aa Aa (fun _ _ _ _ _ h => h) ?_
 clear st3
 refine dK rfl rfl rfl nL (cw 4 0) rfl ?_
 try simp only [J]
 iterate 2 (refine aS rfl rfl apX ?_; try simp only [J])
 refine aC rfl rfl rfl call112 (fun w hS hR => bO _) (fun _ => rfl) ?_
 try simp only [J]
 refine iG (X := Nat) (fun N => .tuple #[i4 N, .bool false]) (fun _ _ => True) (fun _ _ _ _ _ => trivial) rfl rfl rfl call122 (fun w hS hR => HN.out _) (fun _ => rfl) fun N => ?_
 try simp only [J]
 iterate 3 (refine aS rfl rfl apX ?_; try simp only [J])
 refine dL List.mem_cons_self fun g4 => ?_
 simp only [upd, reduceIte]
 refine bB fun xq w4 st4 hR => ?_
 try dsimp only
 clear hR xq
 refine bC rfl rfl ?_
 refine aG st4 1 rfl rfl rfl rfl Ai Aa (aF _ _) ?_
 intro w5 st5
 repeat (first | simp only [List.cons_append] at st5 | simp only [List.nil_append] at st5 | simp only [List.set_cons_succ] at st5 | simp only [List.set_cons_zero] at st5)
 clear st4
 refine ⟨by first | exact st5 | exact St.less st5 Ae, ?_⟩
 try simp only [Act.put]
 refine aU rfl rfl ?_
 go_simp
 try simp only [J]
 refine aH ?_
 refine NoPanic.normal ?_
 go_wp2_with (with_reducible refine AA 35 ?_)
 refine cD rfl rfl _ mX ?_
 go_wp2_with (with_reducible refine AB ?_)
 refine aB st5 0 rfl rfl rfl rfl rfl Ai Aa (bX _ _ _) ?_
 intro w6 st6
 clear st5
 have hr := st6.at 0 rfl
 have hfr := st6.fr
 clear st6
 go_wp2_with fail
 exact bodyPost_ret (bF rfl rfl hr underlying62 rfl Aa rfl) rfl ⟨by unfold rpV rpL; rw [vI]; rfl, hfr⟩
theorem c0d (s : ByteArray) (hz : decide (s = (mkS (List.replicate 33 0))) = false) (hl : s.size = 33) (hb : ∀ h : 0 < s.size, ((s[0]'h).toNat : Int) = 3) (X Y : K) (b : Bool) (hn : ∀ wx, Calls prog 122 #[fv mP.M, .string (s.extract 1 s.size)] wx fun e w' => e = .returned (.tuple #[i4 (kN X), .bool true]) ∧ Fr Nob wx w') (ha : ∀ wx, Calls prog 141 #[i4 (kN X)] wx fun e w' => e = .returned (.tuple #[rpV X Y 1, .bool b]) ∧ Fr Nob wx w') (w : World) : Calls prog 77 #[.string s] w fun e w' => e = .returned (.tuple #[rpV X (-Y) 1, .bool b]) ∧ Fr Nob w w' := by
 have HZ := qH hz
 clear hz
 have hl33 : ((s.size : Int) != 33) = false := by rw [hl]; rfl
 have h0 : (0 : Int) < (s.size : Int) := by omega
 have h00 : 0 < s.size := by omega
 have h1 : (1 : Int) ≤ (s.size : Int) := by omega
 have hb0 := hb h00
 clear hl hb
 have HN := qH hn
 unfold rpV rpL at ha
 have HAT := qH ha
 clear hn ha
 unfold rpV rpL
 have st0 := St.start Nob w
 go_enter func77, ntmps77
 go_wp2_with (with_reducible refine AA 2 ?_)
 refine aA st0 rfl rfl (z := zAc) Aa (cw 12 0) Af ?_
 intro g2 w1 st1
 clear st0
 go_wp2_with (with_reducible refine AA 8 ?_)
 refine eP rfl rfl underlying22 dT rfl rfl rfl 33 33 Ae Ae Ab Ab Al ?_
 intro w2 hg2 hf2 hz2
 clear hz2
 have st2 := st1.new hf2 hg2 (Nat.le_refl _)
 clear st1 hg2 hf2
 rw [p0s] at st2
 go_wp2_with (with_reducible refine AA 9 ?_)
 refine fE rfl rfl underlying22 underlying5 underlying9 rfl (l := List.replicate 33 0) (Rd.whole (st2.at 1 rfl)) ?_
 have st3 := st2.less (List.sublist_append_left _ _)
 clear st2
 go_wp2_with (with_reducible refine AA 10 ?_)
 refine gM rfl (jR rfl rfl rfl HZ.out _) ?_
 go_wp2_with fail
 refine wp_region_noPanic ?_
 refine aE st3 9 [.o 7, .w 1, .w 2, .c 0, .c 3, .w 4, .w 5, .w 6, .j 7] (.r 8 (.m 9 .nil)) Aa Aa (fun _ _ _ _ _ h => h) ?_
 clear st3
 refine dK rfl rfl rfl nL (cw 4 0) rfl ?_
 try simp only [J]
 iterate 2 (refine aS rfl rfl apX ?_; try simp only [J])
 refine aC rfl rfl rfl call112 (fun w hS hR => bO _) (fun _ => rfl) ?_
 try simp only [J]
 refine aC rfl rfl rfl call122 (fun w hS hR => HN.out _) (fun _ => rfl) ?_
 try simp only [J]
 iterate 3 (refine aS rfl rfl apX ?_; try simp only [J])
 refine dL List.mem_cons_self fun g4 => ?_
 simp only [upd, reduceIte]
 refine bB fun xq w4 st4 hR => ?_
 try dsimp only
 clear hR xq
 refine bC rfl rfl ?_
 refine aG st4 1 rfl rfl rfl rfl Ai Aa (aF _ _) ?_
 intro w5 st5
 repeat (first | simp only [List.cons_append] at st5 | simp only [List.nil_append] at st5 | simp only [List.set_cons_succ] at st5 | simp only [List.set_cons_zero] at st5)
 clear st4
 refine ⟨by first | exact st5 | exact St.less st5 Ae, ?_⟩
 try simp only [Act.put]
 refine aU rfl rfl ?_
 go_simp
 try simp only [J]
 refine aH ?_
 refine NoPanic.normal ?_
 go_wp2_with (with_reducible refine AA 37 ?_)
 refine aI st5 1 rfl rfl rfl underlying60 rfl Aa ?_
 go_wp2_with fail
 refine (HAT.out _).mono ?_
 rintro e' w6 ⟨rfl, hf6⟩
 have st6 := st5.keep hf6
 clear st5 hf6
 go_wp2_with (with_reducible refine AA 6 ?_)
 refine aA st6 rfl rfl (z := zAc) Aa (cw 12 0) Af ?_
 intro g6 w7 st7
 clear st6
 go_wp2_with (with_reducible refine AB ?_)
 refine aB st7 2 rfl rfl rfl rfl rfl Ai Aa (bX _ _ _) ?_
 intro w8 st8
 clear st7
 go_wp2_with (with_reducible refine AA 44 ?_)
 refine aM st8 2 rfl rfl rfl underlying62 rfl rfl Aa ?_
 go_wp2_with fail
 refine (r0z X Y 1 _).mono ?_
 rintro e' w9 ⟨rfl, hf9⟩
 have st9 := st8.keep hf9
 clear st8 hf9
 go_wp2_with (with_reducible refine AB ?_)
 refine aB st9 2 rfl rfl rfl rfl rfl Ai Aa (bX _ _ _) ?_
 intro w10 st10
 clear st9
 go_wp2_with (with_reducible refine AA 46 ?_)
 refine aM st10 2 rfl rfl rfl underlying62 rfl rfl Aa ?_
 go_wp2_with (with_reducible refine AB ?_)
 refine aB st10 0 rfl rfl rfl rfl rfl Ai Aa (bX _ _ _) ?_
 intro w11 st11
 clear st10
 have hr := st11.at 0 rfl
 have hfr := st11.fr
 clear st11
 go_wp2_with fail
 exact bodyPost_ret (bF rfl rfl hr underlying62 rfl Aa rfl) rfl ⟨rfl, hfr⟩
end
section
open Go.RowKit Go.Mv Mvp Mvq
theorem j0C (l : List UInt8) (a : Nat) : l.foldl (fun a x => a * 256 + x.toNat) a = a * 256 ^ l.length + beN l := by
 unfold beN
 induction l generalizing a with
 | nil => simp
 | cons x l ih =>
  rw [List.foldl_cons, List.foldl_cons, ih, ih (0 * 256 + x.toNat), List.length_cons, Nat.pow_succ]
  rw [Nat.zero_mul, Nat.zero_add, Nat.add_mul, Nat.mul_assoc, Nat.mul_comm 256]
  omega
theorem e0Z (x : UInt8) (l : List UInt8) : beN (x :: l) = x.toNat * 256 ^ l.length + beN l := by
 have h := j0C l (0 * 256 + x.toNat)
 rw [Nat.zero_mul, Nat.zero_add] at h
 show List.foldl _ 0 (x :: l) = _
 rw [List.foldl_cons, Nat.zero_mul, Nat.zero_add]
 exact h
theorem sN : ∀ l : List UInt8, beN l = 0 → l = List.replicate l.length 0
 | [], _ => rfl
 | x :: l, h => by
  rw [e0Z] at h
  have h1 : x.toNat * 256 ^ l.length = 0 := by omega
  have h2 : beN l = 0 := by omega
  have hx : x = 0 := by
   rcases Nat.mul_eq_zero.1 h1 with h | h
   ·exact UInt8.toNat_inj.1 (by rw [h]; rfl)
   ·exact absurd h (Nat.pos_iff_ne_zero.1 (Nat.pow_pos Ac))
  have ih := sN l h2
  rw [List.length_cons, List.replicate_succ, ← ih, hx]
theorem p0t {l m : List UInt8} (h : mkS l = mkS m) : l = m := by
 have := congrArg (fun s : ByteArray => s.data.toList) h
 simpa [mkS] using this
theorem mY (l : List UInt8) (q : Nat) (h : (l.getD 0 0).toNat = q) (h0 : 0 < (mkS l).size) : (((mkS l)[0]'h0).toNat : Int) = (q : Int) := by
 have h1 : 0 < l.length := by rwa [aZ] at h0
 have : ((mkS l)[0]'h0) = l.getD 0 0 := by
  show (mkS l).data[0] = _
  simp [mkS, List.getD_eq_getElem?_getD, h1]
 rw [this, h]
theorem f0a (l : List UInt8) : ((mkS l).extract 1 (mkS l).size).data.toList = l.drop 1 := by
 rw [aZ]
 simp [mkS]
 exact List.take_of_length_le Ae
theorem g0y : dM (List.replicate 33 0) = true := by decide
attribute [local irreducible] rtV dW rpL lN beN cI
theorem f0b (l : List UInt8) (h33 : l.length = 33) : cL mP ((mkS l).extract 1 (mkS l).size).data.toList = decide (tlN l < fP) := by
 rw [f0a]
 unfold cL tlN
 rw [List.length_drop, h33, mPM]
 rfl
theorem f0c (l : List UInt8) (h33 : l.length = 33) (hlt : tlN l < fP) (w : World) :
  Calls prog 122 #[fv mP.M, .string ((mkS l).extract 1 (mkS l).size)] w fun e w' => e = .returned (.tuple #[i4 (kN (kc (tlN l))), .bool true]) ∧ Fr Nob w w' := by
 have h := e0U mP fR.lt ((mkS l).extract 1 (mkS l).size) w (by rw [f0b l h33]; simpa using hlt)
 rw [f0a] at h
 rw [b0Z, Nat.mod_eq_of_lt hlt]
 exact h
theorem n0n (l : List UInt8) (h33 : l.length = 33) (hlt : ¬ tlN l < fP) (w : World) :
  Calls prog 122 #[fv mP.M, .string ((mkS l).extract 1 (mkS l).size)] w fun e w' => ∃ N : Nat, e = .returned (.tuple #[i4 N, .bool false]) ∧ True ∧ Fr Nob w w' :=
 (e0V mP fR.lt _ w (by rw [f0b l h33]; simpa using hlt)).mono fun e w' ⟨N, h1, h2⟩ => ⟨N, h1, trivial, h2⟩
theorem j0D (n : Nat) : kN (kc n * kc n * kc n + 7) = lN n % fP := by rw [← d0h, b0Z]
theorem r0A (n : Nat) (hr : dW fP (lN n) = true) (w : World) : Calls prog 141 #[i4 (kN (kc n))] w fun e w' => e = .returned (.tuple #[rpV (kc n) (kc (rtV fP (lN n))) 1, .bool true]) ∧ Fr Nob w w' := by
 have h := r0y (kc n) _ _ _ rfl rfl rfl (by rw [j0D, e0Y]; exact hr) w
 rw [j0D, p0q] at h
 exact h
theorem r0B (n : Nat) (hr : dW fP (lN n) = false) (w : World) : Calls prog 141 #[i4 (kN (kc n))] w fun e w' => e = .returned (.tuple #[rpV (kc n) 0 1, .bool false]) ∧ Fr Nob w w' :=
 s0R (kc n) _ _ _ rfl rfl rfl (by rw [j0D, e0Y]; exact hr) w
theorem iZ {l : List UInt8} (h : l ≠ List.replicate 33 0) : decide (mkS l = mkS (List.replicate 33 0)) = false := by
 simpa using fun e => h (p0t e)
theorem m0j {l : List UInt8} (h33 : l.length = 33) (h0 : l.getD 0 0 = 0) (ht : tlN l = 0) : l = List.replicate 33 0 := by
 cases l with
 | nil => cases h33
 | cons x l =>
  have hx : x = 0 := h0
  have hl := sN l ht
  rw [List.length_cons] at h33
  rw [hx, hl, show l.length = 32 by omega]
  rfl
theorem qW {l : List UInt8} (q : UInt8) (hq : q ≠ 0) (h : l.getD 0 0 = q) : l ≠ List.replicate 33 0 := by
 rintro rfl
 exact hq h.symm
theorem _root_.Bg {p : Prop} (h : p := by rw [aZ, h33]) : p := h
theorem a0m (l : List UInt8) (h : dM l = true) : ∃ r : RT, r.pt = fD l ∧ ∀ w : World, Calls prog 77 #[.string (mkS l)] w fun e w' => e = .returned (.tuple #[.agg r.L.toArray, .bool true]) ∧ Fr Nob w w' := by
 have hon := qU h
 unfold dM at h
 unfold fD at *
 simp only [Bool.and_eq_true, decide_eq_true_eq] at h
 obtain ⟨h33, h⟩ := h
 by_cases h0 : l.getD 0 0 = 0
 ·rw [if_pos h0] at h
  refine ⟨noR, by rw [if_pos h0, j0w], fun w => ?_⟩
  exact g0v (mkS l) (by rw [m0j h33 h0 (by simpa using h)]; simp) w
 ·rw [if_neg h0] at h hon
  simp only [Bool.and_eq_true, decide_eq_true_eq] at h
  obtain ⟨h23, hlt, hr⟩ := h
  rcases h23 with h2 | h3
  ·have h3 : ¬ l.getD 0 0 = 3 := by rw [h2]; decide
   rw [if_neg h3] at hon
   refine ⟨r0x _ _ hon, by rw [if_neg h0, if_neg h3, d0B], fun w => ?_⟩
   exact c0c (mkS l) (iZ (qW 2 Ac h2)) Bg (fun h => mY l 2 (by rw [h2]; rfl) h) _ _ true (f0c l h33 hlt) (r0A _ hr) w
  ·rw [if_pos h3] at hon
   refine ⟨r0x _ _ hon, by rw [if_neg h0, if_pos h3, d0B], fun w => ?_⟩
   exact c0d (mkS l) (iZ (qW 3 Ac h3)) Bg (fun h => mY l 3 (by rw [h3]; rfl) h) _ _ true (f0c l h33 hlt) (r0A _ hr) w
open Classical in
noncomputable def rdR (l : List UInt8) : RT := if h : dM l = true then Classical.choose (a0m l h) else noR
theorem j0E {l : List UInt8} (h : dM l = true) : (rdR l).pt = fD l := by unfold rdR; rw [dif_pos h]; exact (Classical.choose_spec (a0m l h)).1
theorem f0d (l : List UInt8) (h : dM l = true) (w : World) : Calls prog 77 #[.string (mkS l)] w fun e w' => e = .returned (.tuple #[.agg (rdR l).L.toArray, .bool true]) ∧ Fr Nob w w' := by
 unfold rdR; rw [dif_pos h]; exact (Classical.choose_spec (a0m l h)).2 w
theorem p0u (s : ByteArray) (h : dM s.data.toList = true) (w : World) : Calls prog 77 #[.string s] w fun e w' => e = .returned (.tuple #[.agg (rdR s.data.toList).L.toArray, .bool true]) ∧ Fr Nob w w' := by
 have := f0d s.data.toList h w
 rwa [iS] at this
theorem f0e (l : List UInt8) (h : dM l = false) (w : World) : Calls prog 77 #[.string (mkS l)] w fun e w' => ∃ X Y Z : K, e = .returned (.tuple #[rpV X Y Z, .bool false]) ∧ Fr Nob w w' := by
 by_cases h33 : l.length = 33
 ·by_cases h0 : l.getD 0 0 = 0
  ·have hz : l ≠ List.replicate 33 0 := by
    rintro rfl
    rw [g0y] at h
    cases h
   exact (xU (mkS l) (iZ hz) Bg 0 (fun h => mY l 0 (by rw [h0]; rfl) h) rfl rfl w).mono fun e w' k => ⟨0, 0, 0, k.1, k.2⟩
  ·by_cases h23 : l.getD 0 0 = 2 ∨ l.getD 0 0 = 3
   ·by_cases hlt : tlN l < fP
    ·have hr : dW fP (lN (tlN l)) = false := by
      unfold dM at h
      rw [if_neg h0, decide_eq_true h33, decide_eq_true h23, decide_eq_true hlt] at h
      simpa using h
     rcases h23 with h2 | h3
     ·exact (c0c (mkS l) (iZ (qW 2 Ac h2)) Bg (fun h => mY l 2 (by rw [h2]; rfl) h) _ _ false (f0c l h33 hlt) (r0B _ hr) w).mono fun e w' k => ⟨_, _, _, k.1, k.2⟩
     ·exact (c0d (mkS l) (iZ (qW 3 Ac h3)) Bg (fun h => mY l 3 (by rw [h3]; rfl) h) _ _ false (f0c l h33 hlt) (r0B _ hr) w).mono fun e w' k => ⟨_, _, _, k.1, k.2⟩
    ·rcases h23 with h2 | h3
     ·exact (g0w (mkS l) (iZ (qW 2 Ac h2)) Bg (fun h => mY l 2 (by rw [h2]; rfl) h) (n0n l h33 hlt) w).mono fun e w' k => ⟨0, 0, 0, k.1, k.2⟩
     ·exact (g0x (mkS l) (iZ (qW 3 Ac h3)) Bg (fun h => mY l 3 (by rw [h3]; rfl) h) (n0n l h33 hlt) w).mono fun e w' k => ⟨0, 0, 0, k.1, k.2⟩
   ·have hz : l ≠ List.replicate 33 0 := by
     rintro rfl
     exact h0 rfl
    have hne : (l.getD 0 0).toNat ≠ 2 ∧ (l.getD 0 0).toNat ≠ 3 := by
     refine ⟨fun e => h23 (.inl (UInt8.toNat_inj.1 (e.trans rfl))), fun e => h23 (.inr (UInt8.toNat_inj.1 (e.trans rfl)))⟩
    obtain ⟨q, hq⟩ : ∃ q, (l.getD 0 0).toNat = q := ⟨_, rfl⟩
    rw [hq] at hne
    exact (xU (mkS l) (iZ hz) Bg q (fun h => mY l q hq h) Ao Ao w).mono fun e w' k => ⟨0, 0, 0, k.1, k.2⟩
 ·have hz : l ≠ List.replicate 33 0 := by
   rintro rfl
   exact h33 Ae
  exact (j0B (mkS l) (iZ hz) (by rw [aZ]; simp; omega) w).mono fun e w' k => ⟨0, 0, 0, k.1, k.2⟩
theorem p0v (s : ByteArray) (h : dM s.data.toList = false) (w : World) : Calls prog 77 #[.string s] w fun e w' => ∃ X Y Z : K, e = .returned (.tuple #[rpV X Y Z, .bool false]) ∧ Fr Nob w w' := by
 have := f0e s.data.toList h w
 rwa [iS] at this
end
section
open Go.RowKit Go.Mv Mvp Mvq
theorem p0w (s : ByteArray) (w : World) : Calls prog 77 #[.string s] w fun e w' => ∃ X Y Z : K, e = .returned (.tuple #[rpV X Y Z, .bool (dM s.data.toList)]) ∧ (dM s.data.toList = true → rpL X Y Z = (rdR s.data.toList).L) ∧ Fr Nob w w' := by
 cases h : dM s.data.toList
 ·exact (p0v s h w).mono fun e w' ⟨X, Y, Z, k1, k2⟩ => ⟨X, Y, Z, k1, fun h => (by cases h), k2⟩
 ·exact (p0u s h w).mono fun e w' k => ⟨_, _, _, k.1, fun _ => rfl, k.2⟩
theorem t0p (w : World) : Calls prog 53 #[] w fun e w' => e = .returned (fv mQ.M) ∧ Fr Nob w w' := p0f mQ .one w
theorem t_ok {lk la : List UInt8} (hk : cL mQ lk = true) (ha : dM la = true) : tC lk la = 0 ∧ tS lk la = cK (bV (beN lk) (fD la)) := by unfold tC tS; rw [hk, ha]; exact ⟨rfl, rfl⟩
end
end Go.Proofs.YtemcankmggmgoaaGreat
namespace Mvp
end Mvp
namespace Go.Proofs.YtemcankmggmgoaaGreat
open Go.RowKit Go.Mv Mvp
attribute [local irreducible] bI lw mix cw cT dG cS bQ aO beN dO cI dI bM bT elN mdL dE cL
end Go.Proofs.YtemcankmggmgoaaGreat
namespace Go.Mv
open Go.RowKit
theorem Own.ne2 {w : World} {base base' sz sz' n n' : Nat} {T T' : TypeId} {v v' : Value} {L L' : List Value} (h : Own w base T sz v n L) (h' : Own w base' T' sz' v' n' L') (hT : T ≠ T') (k : Nat) (hk : kH v k) : ¬ kH v' k := by
 obtain ⟨_, ⟨rfl, _⟩ | ⟨g, o, cap, B, rfl, _, hg, _⟩⟩ := h'
 ·intro t; cases t
 ·intro t
  have e : g = k := by simpa [kH, Value.ownBlock] using t
  subst e
  exact h.ne hg hT hk
end Go.Mv
namespace Go.Proofs.YtemcankmggmgoaaGreat
section
open Go.RowKit Go.Mv Mvp
attribute [local irreducible] cO dD toB aW bG cR eD bH eU cA bD dX
theorem LogAt.own {w w' : World} {base g : Nat} {l : List UInt8} {S : Nat → Prop} (h : LogAt w base g l) (hf : Fr S w w') (hg : ¬ S g) (hs : ∀ v, Own w base 5 1 v 32 (bs l) → ∀ k, kH v k → ¬ S k) : LogAt w' base g l := by
 obtain ⟨v, h1, h2⟩ := h
 exact ⟨v, h1.keep hf hg, h2.keep hf (hs v h2)⟩
abbrev Tri : Type := Nat × Nat × List UInt8
def s0o (T : List Tri) : List Value := T.map fun t => .pointer (some ⟨t.1, 0, none⟩)
def s0p (T : List Tri) : List Value := T.map fun t => .pointer (some ⟨t.2.1, 0, none⟩)
structure LI (w : World) (base ga gb : Nat) (sa sb : List UInt8) (T : List Tri) (vk : Value) (Lk : List Value) (vw : Value) (Lw : List Value) : Prop where
 la : sa.length = 32
 lb : sb.length = 32
 a : LogAt w base ga sa
 b : RLogAt w gb sb
 each : ∀ t ∈ T, LogAt w base t.1 t.2.2 ∧ RLogAt w t.2.1 t.2.2 ∧ t.2.2.length = 32
 na : (ga :: T.map (·.1)).Nodup
 nb : (gb :: T.map (·.2.1)).Nodup
 k : Own w base 126 1 vk Lk.length Lk
 w : Own w base 135 1 vw Lw.length Lw
 bs : base ≤ ga ∧ base ≤ gb ∧ ∀ t ∈ T, base ≤ t.1 ∧ base ≤ t.2.1
variable {w w' : World} {base ga gb : Nat} {sa sb : List UInt8} {T : List Tri} {vk vw : Value} {Lk Lw : List Value}
structure LJ (w : World) (base : Nat) (T : List Tri) (j : Nat) (vk vw : Value) : Prop where
 each : ∀ i t, j ≤ i → T[i]? = some t → LogAt w base t.1 t.2.2 ∧ RLogAt w t.2.1 t.2.2 ∧ t.2.2.length = 32
 na : (T.map (·.1)).Nodup
 nb : (T.map (·.2.1)).Nodup
 k : Own w base 126 1 vk T.length (s0o T)
 w : Own w base 135 1 vw T.length (s0p T)
 bs : ∀ t ∈ T, base ≤ t.1 ∧ base ≤ t.2.1
theorem LI.last (h : LI w base ga gb sa sa T vk (s0o (T ++ [(ga, gb, sa)])) vw (s0p (T ++ [(ga, gb, sa)]))) : LJ w base (T ++ [(ga, gb, sa)]) 0 vk vw := by
 have h1 := List.nodup_cons.1 h.na
 have h2 := List.nodup_cons.1 h.nb
 have hlk : (s0o (T ++ [(ga, gb, sa)])).length = (T ++ [(ga, gb, sa)]).length := by simp [s0o]
 have hlw : (s0p (T ++ [(ga, gb, sa)])).length = (T ++ [(ga, gb, sa)]).length := by simp [s0p]
 refine ⟨?_, ?_, ?_, hlk ▸ h.k, hlw ▸ h.w, ?_⟩
 ·intro i t _ ht
  rcases List.mem_append.1 (List.mem_of_getElem? ht) with ht | ht
  ·exact h.each t ht
  ·simp only [List.mem_singleton] at ht
   subst ht
   exact ⟨h.a, h.b, h.la⟩
 ·rw [List.map_append, List.nodup_append]
  refine ⟨h1.2, by simp, ?_⟩
  intro x hx y hy e
  simp only [List.map_cons, List.map_nil, List.mem_singleton] at hy
  subst hy; subst e
  exact h1.1 hx
 ·rw [List.map_append, List.nodup_append]
  refine ⟨h2.2, by simp, ?_⟩
  intro x hx y hy e
  simp only [List.map_cons, List.map_nil, List.mem_singleton] at hy
  subst hy; subst e
  exact h2.1 hx
 ·intro t ht
  rcases List.mem_append.1 ht with ht | ht
  ·exact h.bs.2.2 t ht
  ·simp only [List.mem_singleton] at ht
   subst ht
   exact ⟨h.bs.1, h.bs.2.1⟩
end
section
open Go.RowKit Go.Mv Mvp Mvt
attribute [local irreducible] cO dD toB aW bG cR eD bH eU cA bD dX
def POwn (w : World) (base : Nat) : List Value → List (List UInt8) → Prop
 | [], [] => True
 | v :: vs, l :: ls => Own w base 5 1 v l.length (bs l) ∧ POwn w base vs ls
 | _, _ => False
theorem POwn.len {w : World} {base : Nat} : ∀ {vs : List Value} {ls : List (List UInt8)}, POwn w base vs ls → vs.length = ls.length
 | [], [], _ => rfl
 | _ :: _, _ :: _, h => by simp only [List.length_cons]; rw [POwn.len h.2]
 | [], _ :: _, h => h.elim
 | _ :: _, [], h => h.elim
theorem POwn.keep {w w' : World} {base : Nat} {S : Nat → Prop} (hf : Fr S w w') : ∀ {vs : List Value} {ls : List (List UInt8)}, POwn w base vs ls → (∀ v n l, Own w base 5 1 v n (bs l) → ∀ k, kH v k → ¬ S k) → POwn w' base vs ls
 | [], [], _, _ => trivial
 | _ :: _, _ :: _, h, hs => ⟨h.1.keep hf (hs _ _ _ h.1), POwn.keep hf h.2 hs⟩
 | [], _ :: _, h, _ => h.elim
 | _ :: _, [], h, _ => h.elim
theorem POwn.still {w w' : World} {base : Nat} {vs : List Value} {ls : List (List UInt8)} (h : POwn w base vs ls) (hf : Fr Nob w w') : POwn w' base vs ls := POwn.keep hf h (fun _ _ _ _ _ _ t => t)
theorem POwn.app {w w' : World} {base base' sz n : Nat} {vs : List Value} {ls : List (List UInt8)} (h : POwn w base vs ls) {q : Value} {T : TypeId} {L : List Value} (hq : Own w base' T sz q n L) (hT : 5 ≠ T) (hf : Fr (kH q) w w') : POwn w' base vs ls :=
 POwn.keep hf h (fun _ _ _ ho k hk hk' => ho.ne2 hq hT k hk hk')
theorem POwn.snoc {w : World} {base : Nat} {v : Value} {l : List UInt8} (hv : Own w base 5 1 v l.length (bs l)) : ∀ {vs : List Value} {ls : List (List UInt8)}, POwn w base vs ls → POwn w base (vs ++ [v]) (ls ++ [l])
 | [], [], _ => ⟨hv, trivial⟩
 | _ :: _, _ :: _, h => ⟨h.1, POwn.snoc hv h.2⟩
 | [], _ :: _, h => h.elim
 | _ :: _, [], h => h.elim
end
section
open Go.RowKit Go.Mv Mvp Mvt
attribute [local irreducible] cO dD toB aW bG cR eD bH eU cA bD dX
def Sep (vs : List Value) : Prop := vs.Pairwise fun a b => ∀ k, kH a k → ¬ kH b k
theorem Sep.nil : Sep [] := List.Pairwise.nil
theorem POwn.get {w : World} {base : Nat} : ∀ {vs : List Value} {ls : List (List UInt8)}, POwn w base vs ls → ∀ (i : Nat) (v : Value), vs[i]? = some v → ∃ l, ls[i]? = some l ∧ Own w base 5 1 v l.length (bs l)
 | [], [], _, i, v, hv => by simp at hv
 | a :: vs, l :: ls, h, 0, v, hv => by simp at hv; subst hv; exact ⟨l, rfl, h.1⟩
 | a :: vs, l :: ls, h, i + 1, v, hv => by simp at hv; obtain ⟨l', h1, h2⟩ := POwn.get h.2 i v hv; exact ⟨l', by simpa using h1, h2⟩
 | [], _ :: _, h, _, _, _ => h.elim
 | _ :: _, [], h, _, _, _ => h.elim
theorem POwn.mem {w : World} {base : Nat} {vs : List Value} {ls : List (List UInt8)} (h : POwn w base vs ls) {v : Value} (hv : v ∈ vs) : ∃ l, l ∈ ls ∧ Own w base 5 1 v l.length (bs l) := by
 obtain ⟨i, hi⟩ := List.getElem?_of_mem hv
 obtain ⟨l, h1, h2⟩ := h.get i v hi
 exact ⟨l, List.mem_of_getElem? h1, h2⟩
theorem Sep.snoc {w w' : World} {base : Nat} {vs : List Value} {ls : List (List UInt8)} (h : Sep vs) (hp : POwn w base vs ls) {v : Value} {n : Nat} {L : List Value} {T : TypeId} (hv : Own w' w.heap.size T 1 v n L) : Sep (vs ++ [v]) := by
 unfold Sep at *
 rw [List.pairwise_append]
 refine ⟨h, by simp, fun a ha b hb k hk hk' => ?_⟩
 simp only [List.mem_singleton] at hb
 subst hb
 obtain ⟨l, _, ho⟩ := hp.mem ha
 have h1 := (ho.lt hk).2
 have h2 := (hv.lt hk').1
 omega
def SOwn (w : World) (base : Nat) (v : Value) (ls : List (List UInt8)) : Prop := ∃ vs, Own w base 22 1 v ls.length vs ∧ POwn w base vs ls ∧ Sep vs
theorem SOwn.nil (w : World) (base : Nat) : SOwn w base (.slice none 0 0) [] := ⟨[], Own.nil _ _ _ _, trivial, Sep.nil⟩
end
end Go.Proofs.YtemcankmggmgoaaGreat
namespace Mvp
end Mvp
namespace Go.Proofs.YtemcankmggmgoaaGreat
open Go.RowKit Go.Mv Mvp
theorem SOwn.snocF {w w1 w2 w3 : World} {base : Nat} {vs : List Value} {ls : List (List UInt8)} {o v o' : Value} {l : List UInt8}
  (hown : Own w base 22 1 o ls.length vs) (hpo : POwn w base vs ls) (hsep : Sep vs) (hb : base ≤ w.heap.size)
  (hv : Own w1 w.heap.size 5 1 v l.length (bs l)) (hf1 : Fr Nob w w1) (hf2 : Fr Nob w1 w2)
  (ho' : Own w3 base 22 1 o' (ls.length + 1) (vs ++ [v])) (hf3 : Fr (kH o) w2 w3) : SOwn w3 base o' (ls ++ [l]) := by
 have h12 := hf1.then hf2
 have hv2 := (hv.still hf2).mono hb
 have ho2 := hown.still h12
 refine ⟨vs ++ [v], by simpa using ho', POwn.snoc (hv2.keep hf3 (fun k hk hk' => hv2.ne2 ho2 Ac k hk hk')) ((hpo.still h12).app ho2 Ac hf3), hsep.snoc hpo hv⟩
attribute [local irreducible] bI lw mix cw cT dG cS bQ aO beN dO cI dI bM bT elN mdL dE cL
end Go.Proofs.YtemcankmggmgoaaGreat
namespace Mvp
end Mvp
namespace Go.Proofs.YtemcankmggmgoaaGreat
section
open Go.RowKit Go.Mv Mvp
theorem fS {w : World} {b o n : Nat} {vs : List Value} (h : Rd w (some ⟨b, o, none⟩) n vs) (i : Nat) (v : Value) (hv : vs[i]? = some v) : w.cell? ⟨b, o + i, none⟩ = some v := by
 have h1 := o0u h 0 vs Ae
 have h2 := h1 i v hv
 simpa using h2
attribute [local irreducible] bI lw mix cw cT dG cS bQ aO beN dO cI dI bM bT elN mdL cL dE
end
section
open Go.RowKit Go.Mv Mvp Mvq
noncomputable def smL (ln lp : List (List UInt8)) (k : Nat) : List (Nat × Pt) := (List.range k).map fun i => (beN (ln.getD i []), fD (lp.getD i []))
def xV (ln lp : List (List UInt8)) : Nat := if ln.length = lp.length then (if ln.length ≤ 512 then (if dE mQ ln then (if gY lp then 0 else 4) else 3) else 1) else 2
noncomputable def rO (ln lp : List (List UInt8)) : List UInt8 := if ln.length = lp.length then (if ln.length ≤ 512 then (if dE mQ ln then (if gY lp then cK (kA (smL ln lp lp.length)) else []) else []) else []) else []
theorem m0k {ls : List (List UInt8)} (h : gY ls = true) (i : Nat) (hi : i < ls.length) : dM (ls.getD i []) = true := by
 unfold gY at h
 rw [List.all_eq_true] at h
 refine h _ ?_
 rw [List.getD_eq_getElem?_getD, List.getElem?_eq_getElem hi]
 exact List.getElem_mem hi
theorem g0z {ls : List (List UInt8)} (h : dE mQ ls = true) (i : Nat) (hi : i < ls.length) : cL mQ (ls.getD i []) = true := by
 unfold dE at h
 rw [List.all_eq_true] at h
 refine h _ ?_
 rw [List.getD_eq_getElem?_getD, List.getElem?_eq_getElem hi]
 exact List.getElem_mem hi
theorem r0C {ln lp : List (List UInt8)} (hl : ln.length = lp.length) (hn : dE mQ ln = true) (hp : gY lp = true) : (uY (c0r (aK ln ln.length) lp)).pt = kA (smL ln lp lp.length) := by
 have e : c0p (c0r (aK ln ln.length) lp) = smL ln lp lp.length := by
  unfold c0p c0r smL
  rw [List.map_map]
  refine List.map_congr_left fun i hi => ?_
  have hi := List.mem_range.1 hi
  show (aK ln ln.length i, (rdT (lp.getD i [])).pt) = _
  rw [n0i (m0k hp i hi)]
  unfold aK
  rw [if_pos Ab]
 rw [j0f _ ?_, e]
 intro t ht
 unfold c0r at ht
 obtain ⟨i, hi, rfl⟩ := List.mem_map.1 ht
 have hi := List.mem_range.1 hi
 show aK ln ln.length i < _
 unfold aK
 rw [if_pos Ab]
 exact Nat.lt_trans (pY (g0z hn i Ab)) q16
theorem p0x (al : Option Addr) (cl : Nat) (vs : List Value) (ln : List (List UInt8)) (bl : Option Addr) (dl : Nat) (us : List Value) (lp : List (List UInt8)) (w : World) (hv : Rd w al ln.length vs) (hp : BParts w vs ln) (hu : Rd w bl lp.length us) (hq : BParts w us lp) :
  Calls prog 132 #[.slice al ln.length cl, .slice bl lp.length dl] w fun e w' => ∃ v, e = .returned (.tuple #[v, .int .i64 (xV ln lp : Nat)]) ∧ OwnB1 w w' v (rO ln lp) ∧ Fr Nob w w' := by
 by_cases h1 : ln.length = lp.length
 ·rw [← h1] at hu ⊢
  by_cases h2 : ln.length ≤ 512
  ·cases hn : dE mQ ln
   ·refine (l0Z al _ cl vs ln bl dl us lp w hv hp hu hq h2 hn).mono fun e w' k => ⟨.slice none 0 0, ?_, ?_, k.2⟩
    ·rw [k.1]; unfold xV; rw [if_pos h1, if_pos h2, hn]; rfl
    ·unfold rO; rw [if_pos h1, if_pos h2, hn]; exact OwnB1.nil _ _
   ·cases hr : gY lp
    ·refine (l0Y al _ cl vs ln bl dl us lp w hv hp hu hq h2 hn hr).mono fun e w' k => ⟨.slice none 0 0, ?_, ?_, k.2⟩
     ·rw [k.1]; unfold xV; rw [if_pos h1, if_pos h2, hn, hr]; rfl
     ·unfold rO; rw [if_pos h1, if_pos h2, hn, hr]; exact OwnB1.nil _ _
    ·refine (r0t al _ cl vs ln bl dl us lp w hv hp hu hq h2 hn hr).mono fun e w' k => ?_
     obtain ⟨v, k1, k2, k3⟩ := k
     rw [r0C h1 hn hr] at k2
     refine ⟨v, ?_, ?_, k3⟩
     ·rw [k1]; unfold xV; rw [if_pos h1, if_pos h2, hn, hr]; rfl
     ·unfold rO; rw [if_pos h1, if_pos h2, hn, hr]; exact OwnB1.of k2 (eI _)
  ·refine (m0b al _ cl bl dl w Ab).mono fun e w' k => ⟨.slice none 0 0, ?_, ?_, k.2⟩
   ·rw [k.1]; unfold xV; rw [if_pos h1, if_neg h2]; rfl
   ·unfold rO; rw [if_pos h1, if_neg h2]; exact OwnB1.nil _ _
 ·refine (m0a al _ cl bl _ dl w h1).mono fun e w' k => ⟨.slice none 0 0, ?_, ?_, k.2⟩
  ·rw [k.1]; unfold xV; rw [if_neg h1]; rfl
  ·unfold rO; rw [if_neg h1]; exact OwnB1.nil _ _
attribute [local irreducible] bI lw mix cw cT dG cS bQ aO beN dO cI dI bM bT elN mdL cL rtV dW kN kc gE cK kC noR dB oH RT.L gXn gYn rpL dM fD rdR dE gY
end
section
open Go.RowKit Go.Mv Mvp Mvq
attribute [local irreducible] bI lw mix cw cT dG cS bQ aO beN dO cI dI bM bT elN mdL cL rtV dW cK dM fD dE gY xV rO bV
theorem f0f (m : Md) (hk : KindOf 1 m) (x : Nat) (w : World) :
  Calls prog 64 #[i4 (elN m x)] w fun e w' => e = .returned (i4 (elN m (m.M - x % m.M))) ∧ Fr Nob w w' := by
 have HK := qH hk
 have HOK := qH hk.ok
 clear hk
 have st0 := St.start Nob w
 go_enter func64, ntmps64
 go_wp2_with (with_reducible refine AA 1 ?_)
 refine aL st0 rfl rfl rfl (cw 4 (elN m x)) rfl ?_
 intro g1 w1 st1
 clear st0
 go_wp2_with (with_reducible refine AA 2 ?_)
 refine aA st1 rfl rfl (z := zAd) Aa (cw 4 0) Af ?_
 intro g2 w2 st2
 clear st1
 go_wp2_with fail
 refine wp_region_noPanic ?_
 refine aP (fun wx => St Nob w wx [(g1, cw 4 (elN m x), 68), (g2, cw 4 0, 68)]) 5 (.w 1 (.t 2 (.r 0 (.r 3 (.w 4 (.m 5 .nil)))))) Aa Aa st2.drew (fun _ _ _ _ _ h => h) ?_
 have hd2 := st2.drew
 clear st2
 refine aJ rfl rfl apW ?_
 try simp only [J]
 refine aV rfl rfl rfl rfl (cw 4 (elN m x)) (fun wx hS => St.rangeL hS 0 rfl 0 _ dZl) underlying66 rfl Ad ?_
 try simp only [J]
 refine bC rfl rfl ?_
 go_simp
 refine (jK m HK.out _).mono ?_
 rintro e' w3 ⟨gp, rfl, hle, hm, hf3⟩
 have st3 : St Nob w w3 [(g1, cw 4 (elN m x), 68), (g2, cw 4 0, 68), (gp, mdL m, 187)] := hd2.new hf3 hm hle
 clear hf3 hm hle
 clear hd2
 refine ⟨St.less st3 Ae, ?_⟩
 try simp only [J]
 refine bC rfl rfl ?_
 go_simp
 refine (zK m gp _ HOK.out (st3.at 2 rfl) x).mono ?_
 rintro e' w4 ⟨rfl, hf4⟩
 have st4 := st3.keep hf4
 clear hf4
 clear st3
 refine ⟨St.less st4 Ae, ?_⟩
 try simp only [J]
 refine aJ rfl rfl (cC rfl _ (uI _)) ?_
 try simp only [J]
 refine aU rfl rfl ?_
 refine aG st4 1 rfl rfl rfl rfl Ah Ad (aF _ _) ?_
 intro w5 st5
 clear st4
 try simp only [Act.put]
 refine aH ?_
 refine NoPanic.normal ?_
 have hr := st5.at 1 rfl
 have hfr := st5.fr
 clear st5
 go_wp2_with fail
 exact bodyPost_ret (aY rfl rfl hr underlying68 rfl Ad) rfl ⟨rfl, hfr⟩
theorem f0g (x : Nat) (w : World) : Calls prog 51 #[i4 (elN mQ x)] w fun e w' => ∃ y : Option Addr × Nat, e = .returned (.slice y.1 32 y.2) ∧ BPart w' (.slice y.1 32 y.2) (cI (x % mQ.M)) ∧ Fr Nob w w' := by
 refine (xG mQ .one x w).mono ?_
 rintro e w' ⟨v, rfl, ho, hf⟩
 obtain ⟨a, c, rfl, hc, hr, -⟩ := ho.form
 rw [Nat.mul_one] at hr
 exact ⟨(a, c), rfl, ⟨a, 32, c, rfl, hc, hr⟩, hf⟩
end
section
open Go.RowKit Go.Mv Mvp Mvq
def OwnU (w : World) (v : Value) (l : List UInt8) : Prop := Own w 0 5 1 v l.length (bs l)
attribute [local irreducible] bI lw mix cw cT dG cS bQ aO beN dO cI dI bM bT elN mdL cL rtV dW cK dM fD dE gY xV rO bV
end
end Go.Proofs.YtemcankmggmgoaaGreat
namespace Mvp
end Mvp
namespace Mvq
open Mvp
end Mvq
namespace Go.Proofs.YtemcankmggmgoaaGreat
open Go.RowKit Go.Mv Mvp Mvq
attribute [local irreducible] bI lw mix cw cT dG cS bQ aO beN dO cI dI bM bT elN mdL cL rtV dW kN kc gE cK kC noR dB oH RT.L
theorem _root_.Aj {p : Prop} (h : p := by first | (rw [aT]; kernel_rfl) | (rw [RT.len]; kernel_rfl) | (rw [a0j]; kernel_rfl) | (simp only [List.length_append, aT]; kernel_rfl) | (simp only [List.length_append, aT, RT.len, a0j]; kernel_rfl)) : p := h
theorem _root_.Aq {p : Prop} (h : p := by first | (simp only [aT]; done) | (simp only [List.length_append, aT, RT.len, a0j]; done)) : p := h
theorem m0l (n : Nat) (w : World) : Calls prog 55 #[i4 n] w fun e w' => e = .returned (.agg (dB n d0D).L.toArray) ∧ Fr Nob w w' := by
 have st0 := St.start Nob w
 go_enter func55, ntmps55
 go_wp2_with (with_reducible refine AA 1 ?_)
 refine aL st0 rfl rfl rfl (cw 4 n) rfl ?_
 intro g1 w1 st1
 clear st0
 go_wp2_with (with_reducible refine AA 2 ?_)
 refine aA st1 rfl rfl (z := zAc) Aa (cw 12 0) Af ?_
 intro g2 w2 st2
 clear st1
 go_wp2_with fail
 refine wp_region_noPanic ?_
 refine aE st2 3 [.t 0, .c 1, .c 2] (.m 3 .nil) Aa Aa (fun _ _ _ _ _ h => h) ?_
 clear st2
 refine aD rfl rfl rfl (fun _ => rfl) (cw 4 n) (fun wx hS => St.rangeL hS 0 rfl 0 _ dZl) underlying60 rfl Aj ?_
 try simp only [J]
 refine aC rfl rfl rfl call127 (fun w hS hR => t0D _) (fun _ => rfl) ?_
 try simp only [J]
 refine aC rfl rfl rfl call69 (fun w hS hR => a0l n d0D _) (fun _ => rfl) ?_
 try simp only [J]
 refine bB fun xq w3 st3 hR => ?_
 try dsimp only
 clear hR xq
 refine aU rfl rfl ?_
 refine aG st3 1 rfl rfl rfl rfl Aq (by first | (rw [aT]; kernel_rfl) | (simp only [RT.len]; kernel_rfl)) (RT.one _) ?_
 intro w4 st4
 repeat (first | simp only [List.cons_append] at st4 | simp only [List.nil_append] at st4 | simp only [List.set_cons_succ] at st4 | simp only [List.set_cons_zero] at st4)
 clear st3
 try simp only [Act.put]
 refine aH ?_
 refine NoPanic.normal ?_
 have hr := st4.at 1 rfl
 have hfr := st4.fr
 clear st4
 go_wp2_with fail
 exact bodyPost_ret (aY rfl rfl hr underlying62 rfl (by first | (rw [aT]; kernel_rfl) | (simp only [RT.len]; kernel_rfl))) rfl ⟨rfl, hfr⟩
theorem m0m (x1 y1 z1 x2 y2 z2 : K) (hb1 : decide (z1 = 0) = true) (hb2 : decide (z2 = 0) = true) (w : World) : Calls prog 67 #[rpV x1 y1 z1, rpV x2 y2 z2] w fun e w' => e = .returned (.bool true) ∧ Fr Nob w w' := by
 have HB1 := qH hb1
 have HB2 := qH hb2
 clear hb1 hb2
 unfold rpV rpL
 have st0 := St.start Nob w
 go_enter func67, ntmps67
 go_wp2_with (with_reducible refine AA 2 ?_)
 refine aL st0 rfl rfl rfl (cw 4 (kN x1) ++ (cw 4 (kN y1) ++ cw 4 (kN z1))) rfl ?_
 intro g2 w1 st1
 clear st0
 go_wp2_with (with_reducible refine AA 3 ?_)
 refine aL st1 rfl rfl rfl (cw 4 (kN x2) ++ (cw 4 (kN y2) ++ cw 4 (kN z2))) rfl ?_
 intro g3 w2 st2
 clear st1
 go_wp2_with (with_reducible refine AA 7 ?_)
 refine aM st2 0 rfl rfl rfl underlying62 rfl rfl Ad ?_
 go_wp2_with fail
 refine (eG x1 y1 z1 true HB1.out _).mono ?_
 rintro e' w3 ⟨rfl, hf3⟩
 have st3 := st2.keep hf3
 clear st2 hf3
 go_wp2_with (with_reducible refine AA 9 ?_)
 refine aM st3 1 rfl rfl rfl underlying62 rfl rfl Ad ?_
 go_wp2_with fail
 refine (eG x2 y2 z2 true HB2.out _).mono ?_
 rintro e' w4 ⟨rfl, hf4⟩
 have st4 := st3.keep hf4
 clear st3 hf4
 have hfr := st4.fr
 clear st4
 go_wp2_with fail
 go_ret
 exact ⟨rfl, hfr⟩
theorem m0n (x1 y1 z1 x2 y2 z2 : K) (hb1 : decide (z1 = 0) = true) (hb2 : decide (z2 = 0) = false) (w : World) : Calls prog 67 #[rpV x1 y1 z1, rpV x2 y2 z2] w fun e w' => e = .returned (.bool false) ∧ Fr Nob w w' := by
 have HB1 := qH hb1
 have HB2 := qH hb2
 clear hb1 hb2
 unfold rpV rpL
 have st0 := St.start Nob w
 go_enter func67, ntmps67
 go_wp2_with (with_reducible refine AA 2 ?_)
 refine aL st0 rfl rfl rfl (cw 4 (kN x1) ++ (cw 4 (kN y1) ++ cw 4 (kN z1))) rfl ?_
 intro g2 w1 st1
 clear st0
 go_wp2_with (with_reducible refine AA 3 ?_)
 refine aL st1 rfl rfl rfl (cw 4 (kN x2) ++ (cw 4 (kN y2) ++ cw 4 (kN z2))) rfl ?_
 intro g3 w2 st2
 clear st1
 go_wp2_with (with_reducible refine AA 7 ?_)
 refine aM st2 0 rfl rfl rfl underlying62 rfl rfl Ad ?_
 go_wp2_with fail
 refine (eG x1 y1 z1 true HB1.out _).mono ?_
 rintro e' w3 ⟨rfl, hf3⟩
 have st3 := st2.keep hf3
 clear st2 hf3
 go_wp2_with (with_reducible refine AA 9 ?_)
 refine aM st3 1 rfl rfl rfl underlying62 rfl rfl Ad ?_
 go_wp2_with fail
 refine (eG x2 y2 z2 false HB2.out _).mono ?_
 rintro e' w4 ⟨rfl, hf4⟩
 have st4 := st3.keep hf4
 clear st3 hf4
 have hfr := st4.fr
 clear st4
 go_wp2_with fail
 go_ret
 exact ⟨rfl, hfr⟩
theorem m0o (x1 y1 z1 x2 y2 z2 : K) (hb1 : decide (z1 = 0) = false) (hb2 : decide (z2 = 0) = true) (w : World) : Calls prog 67 #[rpV x1 y1 z1, rpV x2 y2 z2] w fun e w' => e = .returned (.bool false) ∧ Fr Nob w w' := by
 have HB1 := qH hb1
 have HB2 := qH hb2
 clear hb1 hb2
 unfold rpV rpL
 have st0 := St.start Nob w
 go_enter func67, ntmps67
 go_wp2_with (with_reducible refine AA 2 ?_)
 refine aL st0 rfl rfl rfl (cw 4 (kN x1) ++ (cw 4 (kN y1) ++ cw 4 (kN z1))) rfl ?_
 intro g2 w1 st1
 clear st0
 go_wp2_with (with_reducible refine AA 3 ?_)
 refine aL st1 rfl rfl rfl (cw 4 (kN x2) ++ (cw 4 (kN y2) ++ cw 4 (kN z2))) rfl ?_
 intro g3 w2 st2
 clear st1
 go_wp2_with (with_reducible refine AA 7 ?_)
 refine aM st2 0 rfl rfl rfl underlying62 rfl rfl Ad ?_
 go_wp2_with fail
 refine (eG x1 y1 z1 false HB1.out _).mono ?_
 rintro e' w3 ⟨rfl, hf3⟩
 have st3 := st2.keep hf3
 clear st2 hf3
 go_wp2_with (with_reducible refine AA 9 ?_)
 refine aM st3 1 rfl rfl rfl underlying62 rfl rfl Ad ?_
 go_wp2_with fail
 refine (eG x2 y2 z2 true HB2.out _).mono ?_
 rintro e' w4 ⟨rfl, hf4⟩
 have st4 := st3.keep hf4
 clear st3 hf4
 have hfr := st4.fr
 clear st4
 go_wp2_with fail
 go_ret
 exact ⟨rfl, hfr⟩
theorem p0y (x1 y1 z1 x2 y2 z2 : K) (hb1 : decide (z1 = 0) = false) (hb2 : decide (z2 = 0) = false) (v1 v2 : K) (ev1 : x1 * z2 = v1) (ev2 : x2 * z1 = v2) (hv : decide (v1 = v2) = false) (w : World) : Calls prog 67 #[rpV x1 y1 z1, rpV x2 y2 z2] w fun e w' => e = .returned (.bool false) ∧ Fr Nob w w' := by
 have HB1 := qH hb1
 have HB2 := qH hb2
 clear hb1 hb2
 have Hv1 := qH ev1
 have Hv2 := qH ev2
 clear ev1 ev2
 have HV := qH hv
 clear hv
 unfold rpV rpL
 have st0 := St.start Nob w
 go_enter func67, ntmps67
 go_wp2_with (with_reducible refine AA 2 ?_)
 refine aL st0 rfl rfl rfl (cw 4 (kN x1) ++ (cw 4 (kN y1) ++ cw 4 (kN z1))) rfl ?_
 intro g2 w1 st1
 clear st0
 go_wp2_with (with_reducible refine AA 3 ?_)
 refine aL st1 rfl rfl rfl (cw 4 (kN x2) ++ (cw 4 (kN y2) ++ cw 4 (kN z2))) rfl ?_
 intro g3 w2 st2
 clear st1
 go_wp2_with (with_reducible refine AA 7 ?_)
 refine aM st2 0 rfl rfl rfl underlying62 rfl rfl Ad ?_
 go_wp2_with fail
 refine (eG x1 y1 z1 false HB1.out _).mono ?_
 rintro e' w3 ⟨rfl, hf3⟩
 have st3 := st2.keep hf3
 clear st2 hf3
 go_wp2_with (with_reducible refine AA 9 ?_)
 refine aM st3 1 rfl rfl rfl underlying62 rfl rfl Ad ?_
 go_wp2_with fail
 refine (eG x2 y2 z2 false HB2.out _).mono ?_
 rintro e' w4 ⟨rfl, hf4⟩
 have st4 := st3.keep hf4
 clear st3 hf4
 go_wp2_with fail
 refine wp_region_noPanic ?_
 refine cW (fun wx => St Nob w wx [(g2, cw 4 (kN x1) ++ (cw 4 (kN y1) ++ cw 4 (kN z1)), 62), (g3, cw 4 (kN x2) ++ (cw 4 (kN y2) ++ cw 4 (kN z2)), 62)]) 28 (.w 1 (.t 2 (.w 3 (.t 4 (.w 7 (.t 8 (.w 9 (.t 10 (.r 0 (.r 5 (.r 6 (.r 11 (.w 12 (.w 13 (.w 15 (.t 16 (.w 17 (.t 18 (.w 21 (.t 22 (.w 23 (.t 24 (.r 14 (.r 19 (.r 20 (.r 25 (.w 26 (.w 27 (.m 28 .nil))))))))))))))))))))))))))))) Aa Aa st4.drew (fun _ _ _ _ _ h => h) ?_
 have hd4 := st4.drew
 clear st4
 refine aQ rfl rfl apW ?_
 try simp only [J]
 refine bY rfl rfl rfl rfl (cw 4 (kN x1)) (fun wx hS => St.rangeL hS 0 rfl 0 _ (vS _ _ _)) underlying60 rfl Aj ?_
 try simp only [J]
 refine aQ rfl rfl apW ?_
 try simp only [J]
 refine bY rfl rfl rfl rfl (cw 4 (kN z2)) (fun wx hS => St.rangeL hS 1 rfl 8 _ (mR _ _ _)) underlying60 rfl Aj ?_
 try simp only [J]
 refine aQ rfl rfl apW ?_
 try simp only [J]
 refine bY rfl rfl rfl rfl (cw 4 (kN x2)) (fun wx hS => St.rangeL hS 1 rfl 0 _ (vS _ _ _)) underlying60 rfl Aj ?_
 try simp only [J]
 refine aQ rfl rfl apW ?_
 try simp only [J]
 refine bY rfl rfl rfl rfl (cw 4 (kN z1)) (fun wx hS => St.rangeL hS 0 rfl 8 _ (mR _ _ _)) underlying60 rfl Aj ?_
 try simp only [J]
 refine eV rfl rfl ?_
 go_simp
 refine (bO _).mono ?_
 rintro e' w5 ⟨rfl, hf5⟩
 have st5 := hd4.keep hf5
 clear hf5
 clear hd4
 refine ⟨st5, ?_⟩
 try simp only [J]
 refine eV rfl rfl ?_
 go_simp
 refine (jV x1 z2 v1 Hv1.out _).mono ?_
 rintro e' w6 ⟨rfl, hf6⟩
 have st6 := st5.keep hf6
 clear hf6
 clear st5
 refine ⟨st6, ?_⟩
 try simp only [J]
 refine eV rfl rfl ?_
 go_simp
 refine (bO _).mono ?_
 rintro e' w7 ⟨rfl, hf7⟩
 have st7 := st6.keep hf7
 clear hf7
 clear st6
 refine ⟨st7, ?_⟩
 try simp only [J]
 refine eV rfl rfl ?_
 go_simp
 refine (jV x2 z1 v2 Hv2.out _).mono ?_
 rintro e' w8 ⟨rfl, hf8⟩
 have st8 := st7.keep hf8
 clear hf8
 clear st7
 refine ⟨st8, ?_⟩
 try simp only [J]
 refine aQ rfl rfl (fun _ => kW v1 v2 rfl rfl rfl HV.out _) ?_
 try simp only [J]
 refine aQ rfl rfl apW ?_
 try simp only [J]
 refine cG rfl rfl ?_
 try simp only [J]
 refine eT rfl rfl ?_
 try simp only [J]
 refine cG rfl rfl ?_
 try simp only [J]
 refine eT rfl rfl ?_
 try simp only [J]
 refine cG rfl rfl ?_
 try simp only [J]
 refine eT rfl rfl ?_
 try simp only [J]
 refine cG rfl rfl ?_
 try simp only [J]
 refine eT rfl rfl ?_
 try simp only [J]
 refine jO rfl rfl ⟨st8, ?_⟩
 try simp only [J]
 refine jO rfl rfl ⟨st8, ?_⟩
 try simp only [J]
 refine jO rfl rfl ⟨st8, ?_⟩
 try simp only [J]
 refine jO rfl rfl ⟨st8, ?_⟩
 try simp only [J]
 refine cG rfl rfl ?_
 try simp only [J]
 refine aQ rfl rfl apW ?_
 try simp only [J]
 refine lP rfl rfl ?_
 go_simp
 try simp only [J]
 refine gN ?_
 refine NoPanic.normal ?_
 have hfr := st8.fr
 clear st8
 go_wp2_with fail
 go_ret
 exact ⟨rfl, hfr⟩
theorem j0F (x1 y1 z1 x2 y2 z2 : K) (hb1 : decide (z1 = 0) = false) (hb2 : decide (z2 = 0) = false) (v1 v2 u1 u2 : K) (ev1 : x1 * z2 = v1) (ev2 : x2 * z1 = v2) (eu1 : y1 * z2 = u1) (eu2 : y2 * z1 = u2) (hv : decide (v1 = v2) = true) (b : Bool) (hu : decide (u1 = u2) = b) (w : World) : Calls prog 67 #[rpV x1 y1 z1, rpV x2 y2 z2] w fun e w' => e = .returned (.bool b) ∧ Fr Nob w w' := by
 have HB1 := qH hb1
 have HB2 := qH hb2
 clear hb1 hb2
 have Hv1 := qH ev1
 have Hv2 := qH ev2
 have Hu1 := qH eu1
 have Hu2 := qH eu2
 clear ev1 ev2 eu1 eu2
 have HV := qH hv
 have HU := qH hu
 clear hv hu
 unfold rpV rpL
 have st0 := St.start Nob w
 go_enter func67, ntmps67
 go_wp2_with (with_reducible refine AA 2 ?_)
 refine aL st0 rfl rfl rfl (cw 4 (kN x1) ++ (cw 4 (kN y1) ++ cw 4 (kN z1))) rfl ?_
 intro g2 w1 st1
 clear st0
 go_wp2_with (with_reducible refine AA 3 ?_)
 refine aL st1 rfl rfl rfl (cw 4 (kN x2) ++ (cw 4 (kN y2) ++ cw 4 (kN z2))) rfl ?_
 intro g3 w2 st2
 clear st1
 go_wp2_with (with_reducible refine AA 7 ?_)
 refine aM st2 0 rfl rfl rfl underlying62 rfl rfl Ad ?_
 go_wp2_with fail
 refine (eG x1 y1 z1 false HB1.out _).mono ?_
 rintro e' w3 ⟨rfl, hf3⟩
 have st3 := st2.keep hf3
 clear st2 hf3
 go_wp2_with (with_reducible refine AA 9 ?_)
 refine aM st3 1 rfl rfl rfl underlying62 rfl rfl Ad ?_
 go_wp2_with fail
 refine (eG x2 y2 z2 false HB2.out _).mono ?_
 rintro e' w4 ⟨rfl, hf4⟩
 have st4 := st3.keep hf4
 clear st3 hf4
 go_wp2_with fail
 refine wp_region_noPanic ?_
 refine cW (fun wx => St Nob w wx [(g2, cw 4 (kN x1) ++ (cw 4 (kN y1) ++ cw 4 (kN z1)), 62), (g3, cw 4 (kN x2) ++ (cw 4 (kN y2) ++ cw 4 (kN z2)), 62)]) 28 (.w 1 (.t 2 (.w 3 (.t 4 (.w 7 (.t 8 (.w 9 (.t 10 (.r 0 (.r 5 (.r 6 (.r 11 (.w 12 (.w 13 (.w 15 (.t 16 (.w 17 (.t 18 (.w 21 (.t 22 (.w 23 (.t 24 (.r 14 (.r 19 (.r 20 (.r 25 (.w 26 (.w 27 (.m 28 .nil))))))))))))))))))))))))))))) Aa Aa st4.drew (fun _ _ _ _ _ h => h) ?_
 have hd4 := st4.drew
 clear st4
 refine aQ rfl rfl apW ?_
 try simp only [J]
 refine bY rfl rfl rfl rfl (cw 4 (kN x1)) (fun wx hS => St.rangeL hS 0 rfl 0 _ (vS _ _ _)) underlying60 rfl Aj ?_
 try simp only [J]
 refine aQ rfl rfl apW ?_
 try simp only [J]
 refine bY rfl rfl rfl rfl (cw 4 (kN z2)) (fun wx hS => St.rangeL hS 1 rfl 8 _ (mR _ _ _)) underlying60 rfl Aj ?_
 try simp only [J]
 refine aQ rfl rfl apW ?_
 try simp only [J]
 refine bY rfl rfl rfl rfl (cw 4 (kN x2)) (fun wx hS => St.rangeL hS 1 rfl 0 _ (vS _ _ _)) underlying60 rfl Aj ?_
 try simp only [J]
 refine aQ rfl rfl apW ?_
 try simp only [J]
 refine bY rfl rfl rfl rfl (cw 4 (kN z1)) (fun wx hS => St.rangeL hS 0 rfl 8 _ (mR _ _ _)) underlying60 rfl Aj ?_
 try simp only [J]
 refine eV rfl rfl ?_
 go_simp
 refine (bO _).mono ?_
 rintro e' w5 ⟨rfl, hf5⟩
 have st5 := hd4.keep hf5
 clear hf5
 clear hd4
 refine ⟨st5, ?_⟩
 try simp only [J]
 refine eV rfl rfl ?_
 go_simp
 refine (jV x1 z2 v1 Hv1.out _).mono ?_
 rintro e' w6 ⟨rfl, hf6⟩
 have st6 := st5.keep hf6
 clear hf6
 clear st5
 refine ⟨st6, ?_⟩
 try simp only [J]
 refine eV rfl rfl ?_
 go_simp
 refine (bO _).mono ?_
 rintro e' w7 ⟨rfl, hf7⟩
 have st7 := st6.keep hf7
 clear hf7
 clear st6
 refine ⟨st7, ?_⟩
 try simp only [J]
 refine eV rfl rfl ?_
 go_simp
 refine (jV x2 z1 v2 Hv2.out _).mono ?_
 rintro e' w8 ⟨rfl, hf8⟩
 have st8 := st7.keep hf8
 clear hf8
 clear st7
 refine ⟨st8, ?_⟩
 try simp only [J]
 refine aQ rfl rfl (fun _ => kW v1 v2 rfl rfl rfl HV.out _) ?_
 try simp only [J]
 refine aQ rfl rfl apW ?_
 try simp only [J]
 refine aQ rfl rfl apW ?_
 try simp only [J]
 refine bY rfl rfl rfl rfl (cw 4 (kN y1)) (fun wx hS => St.rangeL hS 0 rfl 4 _ (a0z _ _ _)) underlying60 rfl Aj ?_
 try simp only [J]
 refine aQ rfl rfl apW ?_
 try simp only [J]
 refine bY rfl rfl rfl rfl (cw 4 (kN z2)) (fun wx hS => St.rangeL hS 1 rfl 8 _ (mR _ _ _)) underlying60 rfl Aj ?_
 try simp only [J]
 refine aQ rfl rfl apW ?_
 try simp only [J]
 refine bY rfl rfl rfl rfl (cw 4 (kN y2)) (fun wx hS => St.rangeL hS 1 rfl 4 _ (a0z _ _ _)) underlying60 rfl Aj ?_
 try simp only [J]
 refine aQ rfl rfl apW ?_
 try simp only [J]
 refine bY rfl rfl rfl rfl (cw 4 (kN z1)) (fun wx hS => St.rangeL hS 0 rfl 8 _ (mR _ _ _)) underlying60 rfl Aj ?_
 try simp only [J]
 refine eV rfl rfl ?_
 go_simp
 refine (bO _).mono ?_
 rintro e' w9 ⟨rfl, hf9⟩
 have st9 := st8.keep hf9
 clear hf9
 clear st8
 refine ⟨st9, ?_⟩
 try simp only [J]
 refine eV rfl rfl ?_
 go_simp
 refine (jV y1 z2 u1 Hu1.out _).mono ?_
 rintro e' w10 ⟨rfl, hf10⟩
 have st10 := st9.keep hf10
 clear hf10
 clear st9
 refine ⟨st10, ?_⟩
 try simp only [J]
 refine eV rfl rfl ?_
 go_simp
 refine (bO _).mono ?_
 rintro e' w11 ⟨rfl, hf11⟩
 have st11 := st10.keep hf11
 clear hf11
 clear st10
 refine ⟨st11, ?_⟩
 try simp only [J]
 refine eV rfl rfl ?_
 go_simp
 refine (jV y2 z1 u2 Hu2.out _).mono ?_
 rintro e' w12 ⟨rfl, hf12⟩
 have st12 := st11.keep hf12
 clear hf12
 clear st11
 refine ⟨st12, ?_⟩
 try simp only [J]
 refine aQ rfl rfl (fun _ => kW u1 u2 rfl rfl rfl HU.out _) ?_
 try simp only [J]
 refine aQ rfl rfl apW ?_
 try simp only [J]
 refine lP rfl rfl ?_
 go_simp
 try simp only [J]
 refine gN ?_
 refine NoPanic.normal ?_
 have hfr := st12.fr
 clear st12
 go_wp2_with fail
 go_ret
 exact ⟨rfl, hfr⟩
theorem j0G {x1 y1 z1 x2 y2 z2 : K} (h1 : z1 ≠ 0) (h2 : z2 ≠ 0) : nm x1 y1 z1 = nm x2 y2 z2 ↔ (x1 * z2 = x2 * z1 ∧ y1 * z2 = y2 * z1) := by
 rw [b0K h1, b0K h2]
 have k1 := cJ h1
 have k2 := cJ h2
 generalize gE z1 = a at *
 generalize gE z2 = b at *
 constructor
 ·intro h
  injection h with hx hy
  constructor
  ·grind -lia -linarith
  ·grind -lia -linarith
 ·rintro ⟨hx, hy⟩
  have e1 : x1 * a = x2 * b := by grind -lia -linarith
  have e2 : y1 * a = y2 * b := by grind -lia -linarith
  rw [e1, e2]
open Classical in
theorem p0z (s t : RT) (w : World) : Calls prog 67 #[.agg s.L.toArray, .agg t.L.toArray] w fun e w' => e = .returned (.bool (decide (s.pt = t.pt))) ∧ Fr Nob w w' := by
 have hs : s.L = rpL s.x s.y s.z := by unfold RT.L; rfl
 have ht : t.L = rpL t.x t.y t.z := by unfold RT.L; rfl
 have ps : s.pt = nm s.x s.y s.z := rfl
 have pt : t.pt = nm t.x t.y t.z := rfl
 rw [hs, ht, ps, pt]
 generalize s.x = x1
 generalize s.y = y1
 generalize s.z = z1
 generalize t.x = x2
 generalize t.y = y2
 generalize t.z = z2
 clear hs ht ps pt
 by_cases h1 : z1 = 0
 ·by_cases h2 : z2 = 0
  ·rw [k0g h1, k0g h2, decide_eq_true rfl]
   exact m0m x1 y1 z1 x2 y2 z2 (decide_eq_true h1) (decide_eq_true h2) w
  ·rw [k0g h1, b0K h2, decide_eq_false (by intro h; cases h)]
   exact m0n x1 y1 z1 x2 y2 z2 (decide_eq_true h1) (decide_eq_false h2) w
 ·by_cases h2 : z2 = 0
  ·rw [b0K h1, k0g h2, decide_eq_false (by intro h; cases h)]
   exact m0o x1 y1 z1 x2 y2 z2 (decide_eq_false h1) (decide_eq_true h2) w
  ·have hi := j0G (x1 := x1) (y1 := y1) (x2 := x2) (y2 := y2) h1 h2
   by_cases hx : x1 * z2 = x2 * z1
   ·by_cases hy : y1 * z2 = y2 * z1
    ·rw [decide_eq_true (hi.2 ⟨hx, hy⟩)]
     exact j0F x1 y1 z1 x2 y2 z2 (decide_eq_false h1) (decide_eq_false h2) _ _ _ _ rfl rfl rfl rfl (decide_eq_true hx) true (decide_eq_true hy) w
    ·rw [decide_eq_false (fun h => hy (hi.1 h).2)]
     exact j0F x1 y1 z1 x2 y2 z2 (decide_eq_false h1) (decide_eq_false h2) _ _ _ _ rfl rfl rfl rfl (decide_eq_true hx) false (decide_eq_false hy) w
   ·rw [decide_eq_false (fun h => hx (hi.1 h).1)]
    exact p0y x1 y1 z1 x2 y2 z2 (decide_eq_false h1) (decide_eq_false h2) _ _ rfl rfl (decide_eq_false hx) w
end Go.Proofs.YtemcankmggmgoaaGreat
namespace Mvp
end Mvp
namespace Go.Proofs.YtemcankmggmgoaaGreat
section
open Go.RowKit Go.Mv Mvp
theorem BPart.ofOwn {w : World} {base : Nat} {v : Value} {n : Nat} {l : List UInt8} (h : Own w base 5 1 v n (bs l)) : BPart w v l := by
 obtain ⟨a, c, rfl, hc, hr, -⟩ := h.form
 exact ⟨a, n, c, rfl, hc, by rw [Nat.mul_one] at hr; exact hr⟩
attribute [local irreducible] bI lw mix cw cT dG cS bQ aO beN dO cI dI bM bT elN mdL dE cL
end
section
open Go.RowKit Go.Mv Mvp Mvq
theorem d0E : mQ.M = qN := by decide
theorem j0H (s : ByteArray) (w : World) : Calls prog 72 #[.string s] w fun e w' => ∃ N : Nat, e = .returned (.tuple #[i4 N, .bool (cL mQ s.data.toList)]) ∧ (cL mQ s.data.toList = true → N = beN s.data.toList) ∧ Fr Nob w w' := by
 cases h : cL mQ s.data.toList
 ·exact (l0R mQ .one s w h).mono fun e w' ⟨N, k1, k2⟩ => ⟨N, k1, fun h => (by cases h), k2⟩
 ·exact (l0Q mQ .one s w h).mono fun e w' k => ⟨_, k.1, fun _ => rfl, k.2⟩
attribute [local irreducible] bI lw mix cw cT dG cS bQ aO beN dO cI dI bM bT elN mdL cL rtV dW kN kc gE cK kC noR dB oH RT.L gXn gYn rpL dM fD rdR
end
section
open Go.RowKit Go.Mv Mvp Mvq
theorem f0h (x : Nat) : beN (cI (x % mQ.M)) = x % mQ.M := e0m _ (Nat.lt_trans (Nat.mod_lt x Ac) Ac)
theorem a0n (x : Nat) : cL mQ (cI (x % mQ.M)) = true := by
 unfold cL
 rw [eH, f0h, decide_eq_true rfl, decide_eq_true (Nat.mod_lt x Ac)]
 rfl
theorem r0D (p : Pt) : bV 1 p = p := rfl
attribute [local irreducible] bI lw mix cw cT dG cS bQ aO beN dO cI dI bM bT elN mdL cL rtV dW kN kc gE cK kC noR dB oH RT.L gXn gYn rpL dM fD rdR bV xV rO
end
section
open Go.RowKit Go.Mv Mvp Mvq
noncomputable def cM (xs : List Nat) : List Value := xs.flatMap fun x => cw 4 (elN mQ x)
theorem xW : ∀ (xs : List Nat) (j : Nat) (hj : j < xs.length), ((cM xs).drop (j * 4)).take 4 = cw 4 (elN mQ (xs[j]'hj))
 | x :: xs, 0, _ => by
  simp only [cM, List.flatMap_cons, Nat.zero_mul, List.drop_zero, List.getElem_cons_zero]
  exact List.take_left' (aT _ _)
 | x :: xs, j + 1, hj => by
  have h := xW xs j (by simpa using hj)
  simp only [List.getElem_cons_succ]
  rw [← h]
  simp only [cM, List.flatMap_cons]
  rw [show (j + 1) * 4 = (cw 4 (elN mQ x)).length + j * 4 by rw [aT]; omega, List.drop_append, List.drop_of_length_le (Nat.le_add_right _ _), List.nil_append, Nat.add_sub_cancel_left]
theorem qX (xs : List Nat) : (cM xs).length = xs.length * 4 := by
 induction xs with
 | nil => rfl
 | cons x xs ih => simp only [cM, List.flatMap_cons, List.length_append, aT] at *; rw [ih, List.length_cons]; omega
noncomputable def zB (xs : List Nat) : List (List UInt8) := xs.map fun x => cI (x % mQ.M)
theorem p0A (xs : List Nat) (j : Nat) (hj : j < xs.length) : (zB xs).take (j + 1) = (zB xs).take j ++ [cI (xs[j]'hj % mQ.M)] := by
 rw [List.take_succ_eq_append_getElem (by simpa [zB] using hj)]
 simp [zB]
theorem f0i (xs : List Nat) : (zB xs).length = xs.length := by simp [zB]
theorem dV : (prog.info? 22).map (fun i => (i.zero, i.size, i.bytes)) = some (some (.slice none 0 0), 1, 24) := by kernel_rfl
attribute [local irreducible] bI lw mix cw cT dG cS bQ aO beN dO cI dI bM bT elN mdL cL rtV dW cK dM fD dE gY xV rO bV cO dD toB aW bG cR eD bH eU cA bD dX fZ cM
theorem t0E (x y : Nat) (w : World) :
  Calls prog 117 #[i4 (elN mQ x), i4 (elN mQ y)] w fun e w' => e = .returned (i4 (elN mQ (x + y))) ∧ Fr Nob w w' := by
 have st0 := St.start Nob w
 go_enter func117, ntmps117
 go_wp2_with (with_reducible refine AA 2 ?_)
 refine aL st0 rfl rfl rfl (cw 4 (elN mQ x)) rfl ?_
 intro g2 w1 st1
 clear st0
 go_wp2_with (with_reducible refine AA 3 ?_)
 refine aL st1 rfl rfl rfl (cw 4 (elN mQ y)) rfl ?_
 intro g3 w2 st2
 clear st1
 go_wp2_with (with_reducible refine AA 4 ?_)
 refine aA st2 rfl rfl (z := zAd) Aa (cw 4 0) Af ?_
 intro g4 w3 st3
 clear st2
 go_wp2_with fail
 refine wp_region_noPanic ?_
 refine aP (fun wx => St Nob w wx [(g2, cw 4 (elN mQ x), 68), (g3, cw 4 (elN mQ y), 68), (g4, cw 4 0, 68)]) 7 (.w 1 (.t 2 (.w 3 (.t 4 (.r 0 (.r 5 (.w 6 (.m 7 .nil)))))))) Aa Aa st3.drew (fun _ _ _ _ _ h => h) ?_
 have hd3 := st3.drew
 clear st3
 refine aJ rfl rfl apW ?_
 try simp only [J]
 refine aV rfl rfl rfl rfl (cw 4 (elN mQ x)) (fun wx hS => St.rangeL hS 0 rfl 0 _ dZl) underlying66 rfl Ad ?_
 try simp only [J]
 refine aJ rfl rfl apW ?_
 try simp only [J]
 refine aV rfl rfl rfl rfl (cw 4 (elN mQ y)) (fun wx hS => St.rangeL hS 1 rfl 0 _ dZl) underlying66 rfl Ad ?_
 try simp only [J]
 refine bC rfl rfl ?_
 go_simp
 refine (jK mQ .one _).mono ?_
 rintro e' w4 ⟨gp, rfl, hle, hm, hf4⟩
 have st4 : St Nob w w4 [(g2, cw 4 (elN mQ x), 68), (g3, cw 4 (elN mQ y), 68), (g4, cw 4 0, 68), (gp, mdL mQ, 187)] := hd3.new hf4 hm hle
 clear hf4 hm hle
 clear hd3
 refine ⟨St.less st4 Ae, ?_⟩
 try simp only [J]
 refine bC rfl rfl ?_
 go_simp
 refine (pJ mQ gp _ lT (st4.at 3 rfl) x y).mono ?_
 rintro e' w5 ⟨rfl, hf5⟩
 have st5 := st4.keep hf5
 clear hf5
 clear st4
 refine ⟨St.less st5 Ae, ?_⟩
 try simp only [J]
 refine aJ rfl rfl (cC rfl _ (uI _)) ?_
 try simp only [J]
 refine aU rfl rfl ?_
 refine aG st5 2 rfl rfl rfl rfl Ah Ad (aF _ _) ?_
 intro w6 st6
 clear st5
 try simp only [Act.put]
 refine aH ?_
 refine NoPanic.normal ?_
 have hr := st6.at 2 rfl
 have hfr := st6.fr
 clear st6
 go_wp2_with fail
 exact bodyPost_ret (aY rfl rfl hr underlying68 rfl Ad) rfl ⟨rfl, hfr⟩
theorem r0E (z x y : Nat) (w : World) :
  Calls prog 49 #[i4 (elN mQ z), i4 (elN mQ x), i4 (elN mQ y)] w fun e w' => e = .returned (i4 (elN mQ (z + x * y))) ∧ Fr Nob w w' := by
 have st0 := St.start Nob w
 go_enter func49, ntmps49
 go_wp2_with (with_reducible refine AA 3 ?_)
 refine aL st0 rfl rfl rfl (cw 4 (elN mQ z)) rfl ?_
 intro g3 w1 st1
 clear st0
 go_wp2_with (with_reducible refine AA 4 ?_)
 refine aL st1 rfl rfl rfl (cw 4 (elN mQ x)) rfl ?_
 intro g4 w2 st2
 clear st1
 go_wp2_with (with_reducible refine AA 5 ?_)
 refine aL st2 rfl rfl rfl (cw 4 (elN mQ y)) rfl ?_
 intro g5 w3 st3
 clear st2
 go_wp2_with (with_reducible refine AA 6 ?_)
 refine aA st3 rfl rfl (z := zAd) Aa (cw 4 0) Af ?_
 intro g6 w4 st4
 clear st3
 go_wp2_with fail
 refine wp_region_noPanic ?_
 refine aE st4 5 [.t 0, .t 1, .t 2, .c 3, .c 4] (.m 5 .nil) Aa Aa (fun _ _ _ _ _ h => h) ?_
 clear st4
 refine aD rfl rfl rfl (fun _ => rfl) (cw 4 (elN mQ z)) (fun wx hS => St.rangeL hS 0 rfl 0 _ dZl) underlying68 rfl Ad ?_
 try simp only [J]
 refine aD rfl rfl rfl (fun _ => rfl) (cw 4 (elN mQ x)) (fun wx hS => St.rangeL hS 1 rfl 0 _ dZl) underlying68 rfl Ad ?_
 try simp only [J]
 refine aD rfl rfl rfl (fun _ => rfl) (cw 4 (elN mQ y)) (fun wx hS => St.rangeL hS 2 rfl 0 _ dZl) underlying68 rfl Ad ?_
 try simp only [J]
 refine aC rfl rfl rfl call92 (fun w hS hR => e0x mQ .one x y _) (fun _ => rfl) ?_
 try simp only [J]
 refine aC rfl rfl rfl call117 (fun w hS hR => t0E z (x * y) _) (fun _ => rfl) ?_
 try simp only [J]
 refine bB fun xq w5 st5 hR => ?_
 try dsimp only
 clear hR xq
 refine aU rfl rfl ?_
 refine aG st5 3 rfl rfl rfl rfl Ah Ad (aF _ _) ?_
 intro w6 st6
 repeat (first | simp only [List.cons_append] at st6 | simp only [List.nil_append] at st6 | simp only [List.set_cons_succ] at st6 | simp only [List.set_cons_zero] at st6)
 clear st5
 try simp only [Act.put]
 refine aH ?_
 refine NoPanic.normal ?_
 have hr := st6.at 3 rfl
 have hfr := st6.fr
 clear st6
 go_wp2_with fail
 exact bodyPost_ret (aY rfl rfl hr underlying68 rfl Ad) rfl ⟨rfl, hfr⟩
theorem m0p (al : Option Addr) (c : Nat) (xs : List Nat) (w : World) (hv : Rd w al (xs.length * 4) (cM xs)) (hn : xs.length ≤ 100000) :
  Calls prog 133 #[.slice al xs.length c] w fun e w' => ∃ v, e = .returned v ∧ SOwn w' w.heap.size v (zB xs) ∧ Fr Nob w w' := by
 have HV := qH hv
 clear hv
 go_enter func133, ntmps133
 go_wp2_with fail
 go_loopw [3, 8] (fun q i wr => ∃ j : Nat, j ≤ xs.length ∧ i = .int .i64 (j : Int) ∧ SOwn wr w.heap.size q ((zB xs).take j) ∧ Fr Nob w wr) (fun _ i _ => (xs.length - intOf i).toNat)
 case atStart => exact ⟨0, by omega, rfl, by rw [List.take_zero]; exact SOwn.nil _ _, Fr.refl _ _⟩
 case round =>
  obtain ⟨j, hj, rfl, hS, hfj⟩ := hrel
  by_cases hlt : j < xs.length
  ·have hltI : (j : Int) < (xs.length : Int) := by omega
   have hnI : (xs.length : Int) ≤ 100000 := by omega
   have hV := HV.out.still hfj
   obtain ⟨b, o, rfl, hat⟩ := hV.at Ab
   have hat4 : At wr b (o + j * 4) (cw 4 (elN mQ xs[j])) := by
    have := hat.sub (j * 4) 4
    rwa [xW xs j hlt] at this
   have HTK := qH (p0A xs j hlt)
   generalize xs[j] = x at *
   have HAT := qH hat4
   obtain ⟨vs, hown, hpo, hsep⟩ := hS
   have hll : ((zB xs).take j).length = j := by rw [List.length_take, f0i]; omega
   have hown0 := hown
   rw [hll] at hown
   have HLL := qH hll
   have HO0 := qH hown0
   have HO := qH hown
   have HPO := qH hpo
   have HSEP := qH hsep
   have HFJ := qH hfj
   have st0 := St.start Nob wr
   clear hV hat hat4 hll hown0 hown hpo hsep hfj
   go_wp2_with (with_reducible refine AA 11 ?_)
   refine yT rfl rfl underlying68 rfl rfl HAT.out (jQ _) ?_
   clear HAT
   go_wp2_with (with_reducible refine AA 5 ?_)
   refine aA st0 rfl rfl q0d (cw 4 0) Af ?_
   intro g5 w1 st1
   clear st0
   go_wp2_with (with_reducible refine AB ?_)
   refine aB st1 0 rfl rfl rfl rfl rfl (vE _ _) (jQ _) (aF _ _) ?_
   intro w2 st2
   clear st1
   go_wp2_with (with_reducible refine AA 13 ?_)
   refine aM st2 0 rfl rfl rfl underlying68 rfl rfl (jQ _) ?_
   go_wp2_with fail
   refine (xG mQ .one x _).mono ?_
   rintro e' w3 ⟨v, rfl, hown1, hf3⟩
   have hf23 := st2.fr.then hf3
   have HSZ := qH (HFJ.out.size)
   have hown1' := hown1.mono st2.fr.size
   obtain ⟨av, cv, rfl, -⟩ := oU hown1
   have HO1 := qH hown1'
   have HF3 := qH hf23
   clear st2 hown1 hown1' hf3 hf23
   go_wp2_with (with_reducible refine AA 15 ?_)
   refine dH rfl rfl underlying39 dV [.slice av 32 cv] rfl Au rfl rfl ?_
   intro w4 hh4 hf4 hz4
   clear hz4
   have hownq := (HO.out.still HF3.out).still hf4
   have hfr4 := (HFJ.out.then HF3.out).then hf4
   have HF4 := qH hf4
   clear hf4
   generalize w3.heap.size = g1 at *
   have hsz4 := hfr4.size
   have hrd4 := Rd.whole hh4
   clear hh4
   have HRD4 := qH hrd4
   have HQ4 := qH hownq
   have HFR4 := qH hfr4
   have HZ4 := qH hsz4
   clear hrd4 hownq hfr4 hsz4
   go_wp2_with (with_reducible refine AA 16 ?_)
   refine gG rfl rfl underlying39 dV rfl Ac HQ4.out rfl rfl HRD4.out (fun u hu => by simp only [List.mem_singleton] at hu; subst hu; rfl) Al Ab HZ4.out ?_
   intro v5 w5 hown5 hf5 hb5
   clear hb5
   have hfr5 := HQ4.out.fr HFR4.out (Nat.le_refl _) hf5
   have hfin : SOwn w5 w.heap.size v5 ((zB xs).take (j + 1)) := by
    rw [HTK.out]
    refine SOwn.snocF (w := wr) HO0.out HPO.out HSEP.out HSZ.out (by rw [eH]; exact HO1.out) HF3.out HF4.out (by rw [HLL.out]; exact hown5) hf5
   have HFIN := qH hfin
   have HFR5 := qH hfr5
   clear hown5 hf5 hfr5 hfin HQ4 HRD4 HFR4 HZ4 HO HO0 HPO HSEP HO1
   go_wp2_with fail
   go_roundw
   case rel => exact ⟨j + 1, by omega, by go_num, HFIN.out, HFR5.out⟩
   case measure => simp [intOf]; omega
  ·have hge : ¬ ((j : Int) < (xs.length : Int)) := by omega
   rw [List.take_of_length_le (by rw [f0i]; omega)] at hS
   have HS := qH hS
   have HF := qH hfj
   clear hS hfj hlt
   go_wp2_with fail
   go_ret
   exact ⟨_, rfl, HS.out, HF.out⟩
theorem t0F (x : Nat) {l : List UInt8} (h : dM l = true) : tS (cI (x % mQ.M)) l = cK (bV x (fD l)) := by
 rw [(t_ok (a0n x) h).2, f0h, d0E, lQ (qU h)]
theorem OwnB1.back {w0 w w' : World} {v : Value} {l : List UInt8} (h : OwnB1 w w' v l) (hs : w0.heap.size ≤ w.heap.size) : OwnB1 w0 w' v l := Own.mono h hs
theorem OwnU.b1 {w w' : World} {v : Value} {l : List UInt8} (h : OwnB1 w w' v l) : OwnU w' v l := Own.mono h (Nat.zero_le _)
theorem p0B (x : Nat) (va : Value) (l : List UInt8) (w : World) (hp : BPart w va l) :
  Calls prog 80 #[i4 (elN mQ x), va] w fun e w' => ∃ v, e = .returned v ∧ OwnB1 w w' v (tS (cI (x % mQ.M)) l) ∧ Fr Nob w w' := by
 have HP := qH hp
 clear hp
 have st0 := St.start Nob w
 go_enter func80, ntmps80
 go_wp2_with (with_reducible refine AA 2 ?_)
 refine aL st0 rfl rfl rfl (cw 4 (elN mQ x)) rfl ?_
 intro g2 w1 st1
 clear st0
 go_wp2_with (with_reducible refine AA 8 ?_)
 refine aM st1 0 rfl rfl rfl underlying68 rfl rfl (jQ _) ?_
 go_wp2_with fail
 refine (f0g x _).mono ?_
 rintro e' w2 ⟨y, rfl, hb, hf2⟩
 have hfr2 := st1.fr.then hf2
 have HB := qH hb
 have HF := qH hfr2
 clear st1 hb hf2 hfr2
 go_wp2_with fail
 refine (e0R _ va _ l _ HB.out (HP.out.still HF.out)).mono ?_
 rintro e' w3 ⟨v, rfl, ho, hf3⟩
 have HO := qH (OwnB1.back ho HF.out.size)
 have hfr := HF.out.then hf3
 clear ho hf3 HF HB HP
 go_wp2_with fail
 go_ret
 exact ⟨v, rfl, HO.out, hfr⟩
theorem p0C (w : World) : Calls prog 29 #[] w fun e w' => ∃ y : Option Addr × Nat, e = .returned (.slice y.1 33 y.2) ∧ BPart w' (.slice y.1 33 y.2) (cK gP) ∧ Fr Nob w w' := by
 refine (vD w).mono ?_
 rintro e w' ⟨v, rfl, ho, hf⟩
 have h := ho.part
 obtain ⟨a, n, c, rfl, hc, hr⟩ := h
 have hn : n = 33 := by rw [← hr.len, eI]
 subst hn
 exact ⟨(a, c), rfl, ⟨a, 33, c, rfl, hc, hr⟩, hf⟩
theorem n0o (x : Nat) (w : World) :
  Calls prog 48 #[i4 (elN mQ x)] w fun e w' => ∃ v, e = .returned v ∧ OwnB1 w w' v (cK (bV x gP)) ∧ Fr Nob w w' := by
 have st0 := St.start Nob w
 go_enter func48, ntmps48
 go_wp2_with (with_reducible refine AA 1 ?_)
 refine aL st0 rfl rfl rfl (cw 4 (elN mQ x)) rfl ?_
 intro g1 w1 st1
 clear st0
 go_wp2_with fail
 refine wp_region_noPanic ?_
 refine aE st1 3 [.t 0, .c 1, .c 2] (.m 3 .nil) Aa Aa (fun _ _ _ _ _ h => h) ?_
 clear st1
 refine aD rfl rfl rfl (fun _ => rfl) (cw 4 (elN mQ x)) (fun wx hS => St.rangeL hS 0 rfl 0 _ dZl) underlying68 rfl Ad ?_
 try simp only [J]
 refine iG (X := Option Addr × Nat) (fun y => .slice y.1 33 y.2) (fun y w => BPart w (.slice y.1 33 y.2) (cK gP)) (fun _ _ _ h k => h.still k) rfl rfl rfl call29 (fun w hS hR => p0C _) (fun _ => rfl) fun y4 => ?_
 try simp only [J]
 refine iG (X := Value) (fun v => v) (fun v wx => OwnB1 w wx v (tS (cI (x % mQ.M)) (cK gP))) (fun _ _ _ h k => h.still k) rfl rfl rfl call80 (fun w hS hR => (p0B x _ _ _ hR.2).mono fun e w' ⟨v, h1, h2, h3⟩ => ⟨v, h1, h2.back hS.fr.size, h3⟩) (fun _ => rfl) fun v => ?_
 try simp only [J]
 refine bB fun xq w2 st2 hR => ?_
 try dsimp only
 have HV := qH hR.2
 clear hR xq
 refine aU rfl rfl ?_
 go_simp
 try simp only [J]
 refine aH ?_
 refine NoPanic.normal ?_
 have hfr := st2.fr
 clear st2
 go_wp2_with fail
 go_ret
 refine ⟨v, rfl, ?_, hfr⟩
 have h := HV.out
 rwa [t0F x (b0Q pZ).1, (b0Q pZ).2] at h
theorem POwn.bpartsT {w : World} {base : Nat} : ∀ {vs : List Value} {ls : List (List UInt8)}, POwn w base vs ls → BParts w vs ls := by
 intro vs ls h
 refine ⟨h.len, fun i v hv => ?_⟩
 obtain ⟨l, hl, ho⟩ := h.get i v hv
 obtain ⟨a, c, rfl, hc, hr, -⟩ := ho.form
 rw [Nat.mul_one] at hr
 rw [List.getD_eq_getElem?_getD, hl]
 exact ⟨a, _, c, rfl, hc, hr⟩
theorem SOwn.bpartsT {w : World} {base : Nat} {v : Value} {ls : List (List UInt8)} (h : SOwn w base v ls) : ∃ a c vs, v = .slice a ls.length c ∧ Rd w a ls.length vs ∧ BParts w vs ls := by
 obtain ⟨vs, h1, h2, h3⟩ := h
 obtain ⟨a, c, rfl, hc, hr, -⟩ := h1.form
 rw [Nat.mul_one] at hr
 exact ⟨a, c, vs, rfl, hr, h2.bpartsT⟩
theorem s0S (al : Option Addr) (c : Nat) (xs : List Nat) (bl : Option Addr) (d : Nat) (us : List Value) (lp : List (List UInt8)) (w : World) (hv : Rd w al (xs.length * 4) (cM xs)) (hn : xs.length ≤ 100000) (hu : Rd w bl lp.length us) (hq : BParts w us lp) :
  Calls prog 62 #[.slice al xs.length c, .slice bl lp.length d] w fun e w' => ∃ v, e = .returned v ∧ OwnB1 w w' v (rO (zB xs) lp) ∧ Fr Nob w w' := by
 have HV := qH hv
 have HU := qH hu
 have HQ := qH hq
 clear hv hu hq
 go_enter func62, ntmps62
 go_wp2_with fail
 refine (m0p al c xs _ HV.out hn).mono ?_
 rintro e' w2 ⟨v, rfl, hs, hf2⟩
 obtain ⟨a, c2, vs, rfl, hr, hb⟩ := hs.bpartsT
 have HR := qH hr
 have HB := qH hb
 have HF := qH hf2
 clear hs hr hb hf2 HV
 go_wp2_with fail
 refine (p0x a c2 vs (zB xs) bl d us lp _ HR.out HB.out (HU.out.still HF.out) (HQ.out.still HF.out)).mono ?_
 rintro e' w3 ⟨v, rfl, ho, hf3⟩
 have HO := qH (OwnB1.back ho HF.out.size)
 have hfr := HF.out.then hf3
 clear ho hf3 HF HR HB HU HQ
 go_wp2_with fail
 go_ret
 exact ⟨v, rfl, HO.out, hfr⟩
theorem d0F (a : Option Addr) (c : Nat) (l : List UInt8) (hl : l.length = 33) (w : World) (hp : RdB w a 33 l) (b : Bool) (hb : (((l.getD 0 0).toNat : Int) == 0) = b) :
  Calls prog 61 #[.slice a 33 c] w fun e w' => e = .returned (.bool b) ∧ w = w' := by
 obtain ⟨g, o, rfl, -⟩ := hp.at Ac
 have hc := fS (show Rd w (some ⟨g, o, none⟩) 33 (bs l) from hp) 0 _ (wL l 0 Ab)
 rw [Nat.add_zero] at hc
 clear hp hl
 generalize l.getD 0 0 = x at *
 go_enter func61, ntmps61
 go_wp2_with fail
 go_ret
 exact ⟨rfl, rfl⟩
theorem m0q {l : List UInt8} (h : dM l = true) : l.length = 33 := by
 unfold dM at h
 simp only [Bool.and_eq_true, decide_eq_true_eq] at h
 exact h.1
def eM (ls : List (List UInt8)) : Bool := ls.all dS
theorem d0G (ls : List (List UInt8)) (k : Nat) (h : k < ls.length) : eM (ls.take (k + 1)) = (eM (ls.take k) && dS (ls.getD k [])) := by
 unfold eM
 rw [List.take_succ_eq_append_getElem h, List.all_append, List.getD_eq_getElem?_getD, List.getElem?_eq_getElem h]
 simp
theorem g0A (ls : List (List UInt8)) (k : Nat) (h : k < ls.length) (hb : dS (ls.getD k []) = false) : eM ls = false := by
 unfold eM
 rw [List.all_eq_false]
 refine ⟨ls.getD k [], ?_, by rw [hb]; decide⟩
 rw [List.getD_eq_getElem?_getD, List.getElem?_eq_getElem h]
 exact List.getElem_mem h
theorem j0I {l : List UInt8} (h : dM l = false) : dS l = false := by unfold dS; rw [h]; rfl
theorem p0D {l : List UInt8} (h : (((l.getD 0 0).toNat : Int) == 0) = true) : dS l = false := by
 have h2 : l.getD 0 0 = 0 := by
  have h3 : ((l.getD 0 0).toNat : Int) = 0 := eq_of_beq h
  exact UInt8.toNat_inj.1 (by simpa using h3)
 unfold dS; rw [decide_eq_true h2]; simp
theorem p0E {l : List UInt8} (h1 : dM l = true) (h : (((l.getD 0 0).toNat : Int) == 0) = false) : dS l = true := by
 have h2 : l.getD 0 0 ≠ 0 := by
  intro h3
  rw [h3] at h
  exact absurd h Ac
 unfold dS; rw [h1, decide_eq_false h2]; rfl
attribute [local irreducible] dS eM
theorem qB (al : Option Addr) (n c : Nat) (vs : List Value) (ls : List (List UInt8)) (w : World) (hv : Rd w al n vs) (hp : BParts w vs ls) (hn : n ≤ 100000) :
  Calls prog 78 #[.slice al n c] w fun e w' => e = .returned (.bool (eM ls)) ∧ Fr Nob w w' := by
 have HV := qH hv
 have HP := qH hp
 have HL := qH (show ls.length = n by rw [← hp.1, hv.len])
 clear hv hp
 go_enter func78, ntmps78
 go_wp2
 go_loopw [7] (fun i wr => ∃ k : Nat, k ≤ n ∧ i = .int .i64 (k : Int) ∧ eM (ls.take k) = true ∧ Fr Nob w wr) (fun i _ => n - (intOf i).toNat)
 case atStart => exact ⟨0, Nat.zero_le _, rfl, by rw [List.take_zero]; unfold eM; rfl, Fr.refl _ _⟩
 case round =>
  obtain ⟨k, hk, rfl, hgood, hf⟩ := hrel
  by_cases hlt : k < n
  ·have hltI : (k : Int) < (n : Int) := by omega
   obtain ⟨b, o, rfl, hat⟩ := (HV.out.still hf).at Ab
   have hvl : k < vs.length := by rw [HV.out.len]; exact hlt
   obtain ⟨a, nn, cc, hve, hcc, hrd⟩ := HP.out.2 k (vs[k]'hvl) (List.getElem?_eq_getElem hvl)
   have hc1 := hat k _ (List.getElem?_eq_getElem hvl)
   rw [hve] at hc1
   have hlk : k < ls.length := by rw [HL.out]; exact hlt
   have hts := d0G ls k hlk
   have hbad := g0A ls k hlk
   generalize hL : ls.getD k [] = l at *
   have HRD := qH (hrd.still hf)
   have HCC := qH hcc
   have HTS := qH hts
   have HBAD := qH hbad
   have HG := qH hgood
   have HF := qH hf
   have hnI : (n : Int) ≤ 100000 := by omega
   clear hL hrd hcc hts hbad hgood hf hat hve
   cases hq : dM l
   ·have HQ := qH hq
    clear hq
    go_wp2_with fail
    refine (rM _ l _ ⟨a, nn, cc, rfl, HCC.out, HRD.out⟩ HQ.out).mono ?_
    rintro e' w2 ⟨rfl, hf2⟩
    have hfr := HF.out.then hf2
    have HB := qH (HBAD.out (j0I HQ.out))
    clear hf2 HF HBAD HQ HRD HG HTS
    go_wp2_with fail
    go_ret
    exact ⟨by rw [HB.out]; rfl, hfr⟩
   ·have h33 := m0q hq
    have hnn : nn = 33 := by rw [← HRD.out.len, h33]
    subst hnn
    obtain ⟨b2, o2, rfl, -⟩ := HRD.out.at Ac
    have HQ := qH hq
    have H33 := qH h33
    clear hq h33
    go_wp2_with fail
    refine (oC _ l _ ⟨_, 33, cc, rfl, HCC.out, HRD.out⟩ HQ.out).mono ?_
    rintro e' w2 ⟨rfl, hf2⟩
    have hfr := HF.out.then hf2
    have hc2 := fS (show Rd w2 (some ⟨b2, o2, none⟩) 33 (bs l) from HRD.out.still hf2) 0 _ (wL l 0 (by rw [H33.out]; decide))
    rw [Nat.add_zero] at hc2
    have HFR := qH hfr
    have HZT := qH (show (((l.getD 0 0).toNat : Int) == 0) = false → eM (ls.take (k + 1)) = true from fun hz => by rw [HTS.out, HG.out, p0E HQ.out hz]; rfl)
    have HBT := qH (show (((l.getD 0 0).toNat : Int) == 0) = true → eM ls = false from fun hz => HBAD.out (p0D hz))
    generalize l.getD 0 0 = x at hc2 HZT HBT
    clear hf2 hfr HF HRD hc1 HTS HG HBAD
    cases hz : ((x.toNat : Int) == 0)
    ·have HZ := qH (HZT.out hz)
     clear HZT HBT
     go_wp2_with fail
     go_roundw
     case rel => exact ⟨k + 1, by omega, by go_num, HZ.out, HFR.out⟩
     case measure => simp [intOf]; omega
    ·have HB := qH (HBT.out hz)
     clear HZT HBT
     go_wp2_with fail
     go_ret
     exact ⟨by rw [HB.out]; rfl, HFR.out⟩
  ·have hge : ¬ ((k : Int) < (n : Int)) := by omega
   have hkn : k = ls.length := by rw [HL.out]; omega
   rw [hkn, List.take_of_length_le (Nat.le_refl _)] at hgood
   have HG := qH hgood
   have HF := qH hf
   clear hkn hgood hf
   go_wp2_with fail
   go_ret
   exact ⟨by rw [HG.out]; rfl, HF.out⟩
theorem m0r (ak : Option Addr) (nk ck : Nat) (key : List UInt8) (w : World) (hkey : RdB w ak nk key) (hq : cL mQ key = true) (hz : (beN key % mQ.M == 0) = false) : Calls prog 46 #[.slice ak nk ck] w fun e w' => e = .returned (.tuple #[i4 (elN mQ (beN key)), .int .i64 0]) ∧ Fr Nob w w' := by
 have HZ := qH hz
 clear hz
 have HKY := qH hkey
 have HN := qH hq
 clear hkey hq
 have st0 := St.start Nob w
 go_enter func46, ntmps46
 go_wp2_with (with_reducible refine AA 2 ?_)
 refine aA st0 rfl rfl (z := zAd) Aa (cw 4 0) Af ?_
 intro g2 w1 st1
 clear st0
 go_wp2_with fail
 refine (o0t mQ .one ak nk ck key _ (HKY.out.still st1.fr) HN.out).mono ?_
 rintro e' w2 ⟨rfl, hf2⟩
 have st2 := st1.keep hf2
 clear st1 hf2
 go_wp2_with (with_reducible refine AA 4 ?_)
 refine aA st2 rfl rfl (z := zAd) Aa (cw 4 0) Af ?_
 intro g4 w3 st3
 clear st2
 go_wp2_with (with_reducible refine AB ?_)
 refine aB st3 1 rfl rfl rfl rfl rfl Ah Ad (aF _ _) ?_
 intro w4 st4
 clear st3
 go_wp2_with (with_reducible refine AA 14 ?_)
 refine k0S st4 1 rfl rfl rfl underlying68 rfl rfl Ad ?_
 go_wp2_with fail
 refine (i0p mQ lT (beN key) false HZ.out _).mono ?_
 rintro e' w5 ⟨rfl, hf5⟩
 have st5 := st4.keep hf5
 clear st4 hf5
 go_wp2_with (with_reducible refine AA 18 ?_)
 refine aM st5 1 rfl rfl rfl underlying68 rfl rfl Ad ?_
 go_wp2_with (with_reducible refine AB ?_)
 refine aB st5 0 rfl rfl rfl rfl rfl Ah Ad (aF _ _) ?_
 intro w6 st6
 clear st5
 have hr := st6.at 0 rfl
 have hfr := st6.fr
 clear st6
 go_wp2_with fail
 exact bodyPost_ret (bF rfl rfl hr underlying68 rfl Ad rfl) rfl ⟨rfl, hfr⟩
theorem j0J (ak : Option Addr) (nk ck : Nat) (key : List UInt8) (w : World) (hkey : RdB w ak nk key) (h : oD key = true) : Calls prog 46 #[.slice ak nk ck] w fun e w' => e = .returned (.tuple #[i4 (elN mQ (beN key)), .int .i64 0]) ∧ Fr Nob w w' := by
 unfold oD at h
 rw [Bool.and_eq_true] at h
 have hlt := pY h.1
 refine m0r ak nk ck key w hkey h.1 ?_
 rw [Nat.mod_eq_of_lt hlt]
 simpa using h.2
end
end Go.Proofs.YtemcankmggmgoaaGreat
namespace Go.Mv
open Go.RowKit
section
variable {P : Program} {w w0 : World} {o : Oper} {a : Act} {S : Nat → Prop} {bl : List (Nat × List Value × TypeId)} {K : Act → World → Prop} {Q : Exit → Act → World → Prop}
theorem g0B {s x : Operand} {t : TypeId} (ho : o.op = .call { callee := .builtin .append, args := #[s, x], argTypes := #[t, t] })
  {e : TypeId} {z : Value} {sz by_ : Nat} (ht : P.underlying t = some (.slice e)) (hi0 : (P.info? e).map (fun i => (i.zero, i.size, i.bytes)) = some (some z, sz, by_))
  (hzs : z.cells.size = sz) (hsz : 0 < sz)
  {v : Value} {n base : Nat} {L : List Value} (hown : Own w base e sz v n L) (hs : a.eval s = v)
  {xa : Option Addr} {m c : Nat} {news : List Value} (hx : a.eval x = .slice xa m c) (hnews : Rd w xa (m * sz) news) (h1 : ∀ u ∈ news, u.oneCell' = true)
  (h63 : n + m ≤ maxLen) (hbytes : (n + m) * by_ ≤ 140737488355328) (hbase : base ≤ w.heap.size)
  (h : ∀ v' w', Own w' base e sz v' (n + m) (L ++ news) → Fr (kH v) w w' → K (a.put o.dst v') w') : o.wp P a w K Q := by
 obtain ⟨v', w', hr, h2, h3, -⟩ := nV (P := P) base t o.type e z sz by_ ht hi0 hzs hsz v n L hown xa m c news hnews h1 h63 hbytes hbase
 unfold Oper.wp execOp
 simp only [ho, resolve, invoke, builtin, Sem.run_bind, Sem.run_pure, Result.andThen_ok, List.map_toArray, List.map_cons, List.map_nil, hs, hx, hr]
 exact h v' w' h2 h3
theorem St.ofFr (h : Fr S w0 w) : St S w0 w [] := ⟨h, by simp, by simp, List.Pairwise.nil⟩
end
end Go.Mv
namespace Go.Proofs.YtemcankmggmgoaaGreat
open Go.RowKit Go.Mv Mvp Mvq
theorem s0T (x : Nat) : (cK (bV x gP)).length = 33 := eI _
theorem OwnB1.ptb {w w' : World} {v : Value} {l : List UInt8} (h : OwnB1 w w' v l) (hn : l.length ≤ 1000000) : PartIs w' v l := fB h hn
attribute [local irreducible] bI lw mix cw cT dG cS bQ aO beN dO cI dI bM bT elN mdL cL rtV dW cK dM fD dE gY xV rO bV cO dD toB aW bG cR eD bH eU cA bD dX fZ cM oD sgF sgZ cU chN dS tS
theorem lR {w : World} {a : Option Addr} {n c : Nat} {l : List UInt8} (h : PartIs w (.slice a n c) l) : RdB w a n l := by
 obtain ⟨a', n', c', he, -, -, hr, -⟩ := h
 cases he
 exact hr
theorem p0F (ak : Option Addr) (nk ck : Nat) (key : List UInt8) (at_ : Option Addr) (nt ct : Nat) (text : List UInt8) (w : World) (hkey : PartIs w (.slice ak nk ck) key) (htext : PartIs w (.slice at_ nt ct) text) (hq : oD key = true) : Calls prog 13 #[.slice ak nk ck, .slice at_ nt ct] w fun e w' => ∃ v, e = .returned (.tuple #[v, .int .i64 0]) ∧ OwnB1 w w' v (sgF key text ++ cI (sgZ key text)) ∧ Fr Nob w w' := by
 have HPK := qH hkey
 have HPT := qH htext
 have HKY := qH (lR hkey)
 have HQ := qH hq
 clear hkey htext hq
 have st0 := St.start Nob w
 go_enter func13, ntmps13
 go_wp2_with fail
 refine (j0J ak nk ck key _ (HKY.out.still st0.fr) HQ.out).mono ?_
 rintro e' w1 ⟨rfl, hf1⟩
 have st1 := st0.keep hf1
 clear st0 hf1
 go_wp2_with (with_reducible refine AA 6 ?_)
 refine aA st1 rfl rfl (z := zAd) Aa (cw 4 0) Af ?_
 intro g6 w2 st2
 clear st1
 go_wp2_with (with_reducible refine AB ?_)
 refine aB st2 0 rfl rfl rfl rfl rfl Ah Ad (aF _ _) ?_
 intro w3 st3
 clear st2
 go_wp2_with (with_reducible refine AA 20 ?_)
 refine dH rfl rfl underlying39 dV [.slice ak nk ck, .slice at_ nt ct] rfl (by simp; exact ⟨rfl, rfl⟩) rfl rfl ?_
 intro w4 hh4 hf4 hz4
 have st4 := st3.keep hf4
 have HSL := qH hh4
 clear hh4 hf4 hz4 st3
 generalize w3.heap.size = gl20 at *
 go_wp2_with fail
 refine (l0S ⟨#[110, 111, 110, 99, 101, 32, 115, 105, 103, 110]⟩ eS rfl _ 2 [.slice ak nk ck, .slice at_ nt ct] [key, text] _ Ac HSL.out ⟨HPK.out.still st4.fr, HPT.out.still st4.fr, trivial⟩ Ae).mono ?_
 rintro e' w5 ⟨rfl, hf5⟩
 have st5 := st4.keep hf5
 clear st4 hf5
 clear HSL
 go_wp2_with (with_reducible refine AA 8 ?_)
 refine aA st5 rfl rfl (z := zAd) Aa (cw 4 0) Af ?_
 intro g8 w6 st6
 clear st5
 go_wp2_with (with_reducible refine AB ?_)
 refine aB st6 1 rfl rfl rfl rfl rfl Ah Ad (aF _ _) ?_
 intro w7 st7
 clear st6
 go_wp2_with (with_reducible refine AA 22 ?_)
 refine aM st7 1 rfl rfl rfl underlying68 rfl rfl Ad ?_
 go_wp2_with fail
 have HSZ0 := qH st7.fr.size
 refine (n0o (chN eS [key, text]) _).mono ?_
 rintro e' w8 ⟨vf, rfl, ho, hf8⟩
 have st8 := st7.keep hf8
 have HFI0 := qH ho
 clear ho
 clear st7 hf8
 have HFI := qH (show OwnB1 w w8 vf (sgF key text) from by have h := HFI0.out; unfold sgF; exact Own.mono h (HSZ0.out))
 clear HFI0 HSZ0
 have HLF := qH (show (sgF key text).length = 33 by unfold sgF; exact eI _)
 have HPK2 := qH (HPT.out.still st8.fr)
 go_wp2_with fail
 refine wp_region_noPanic ?_
 refine wG st8 (fun wz => Fr Nob w8 wz) (Fr.refl Nob _).drew (fun _ _ h k => h.then k) 10 [.w 0, .t 1, .t 2, .w 4, .w 5, .t 7, .c 3, .c 6, .c 8, .c 9] (.m 10 (.w 11 (.w 12 .nil))) Aa Aa (fun _ _ _ _ _ h => h) ?_
 clear st8
 refine aS rfl rfl apX ?_
 try simp only [J]
 refine aD rfl rfl rfl (fun _ => rfl) (cw 4 (elN mQ (chN eS [key, text]))) (fun wx hS => St.rangeL hS 1 rfl 0 _ dZl) underlying68 rfl Ad ?_
 try simp only [J]
 refine aD rfl rfl rfl (fun _ => rfl) (cw 4 (elN mQ (beN key))) (fun wx hS => St.rangeL hS 0 rfl 0 _ dZl) underlying68 rfl Ad ?_
 try simp only [J]
 refine aS rfl rfl apX ?_
 try simp only [J]
 refine aS rfl rfl apX ?_
 try simp only [J]
 refine aD rfl rfl rfl (fun _ => rfl) (cw 4 (elN mQ (beN key))) (fun wx hS => St.rangeL hS 0 rfl 0 _ dZl) underlying68 rfl Ad ?_
 try simp only [J]
 refine iG (X := Value) (fun v => v) (fun v wx => PartIs wx v (cK (bV (beN key) gP))) (fun _ _ _ h k => h.still k) rfl rfl rfl call48 (fun w hS hR => (n0o (beN key) _).mono fun e w' ⟨v, h1, h2, h3⟩ => ⟨v, h1, OwnB1.ptb h2 (by rw [s0T]; decide), h3⟩) (fun _ => rfl) fun vb => ?_
 try simp only [J]
 refine aC rfl rfl rfl call50 (fun w hS hR => j0i vb (cK (bV (beN key) gP)) vf (sgF key text) (.slice at_ nt ct) text _ hR.2 ((OwnB1.ptb HFI.out (by rw [HLF.out]; decide)).still hR.1) (HPK2.out.still hR.1)) (fun _ => rfl) ?_
 try simp only [J]
 refine aC rfl rfl rfl call49 (fun w hS hR => r0E (chN eS [key, text]) (cU (cK (bV (beN key) gP)) (sgF key text) text) (beN key) _) (fun _ => rfl) ?_
 try simp only [J]
 refine iG (X := Option Addr × Nat) (fun y => .slice y.1 32 y.2) (fun y wx => BPart wx (.slice y.1 32 y.2) (cI (((chN eS [key, text]) + (cU (cK (bV (beN key) gP)) (sgF key text) text) * beN key) % mQ.M))) (fun _ _ _ h k => h.still k) rfl rfl rfl call51 (fun w hS hR => f0g ((chN eS [key, text]) + (cU (cK (bV (beN key) gP)) (sgF key text) text) * beN key) _) (fun _ => rfl) fun yb => ?_
 try simp only [J]
 refine bB fun xq w9 st9 hR => ?_
 try dsimp only
 have HFRX := qH hR.1.1
 obtain ⟨ay, ny, cy, hey, -, hry⟩ := hR.2
 cases hey
 have HRB := qH (show RdB _ yb.1 32 _ from hry)
 clear hry
 clear hR xq
 refine aU rfl rfl ?_
 refine g0B rfl underlying22 dT rfl Ac (Own.still HFI.out HFRX.out) rfl rfl HRB.out (wM _) (by rw [HLF.out]; decide) (by rw [HLF.out]; decide) st9.fr.size ?_
 intro va wa hown hfa
 have st10 := St.ofFr (((Own.still HFI.out HFRX.out)).fr st9.fr (Nat.le_refl _) hfa)
 have HOWN := qH hown
 clear hown hfa
 clear st9
 try simp only [J]
 refine aJ rfl rfl apW ?_
 try simp only [J]
 refine aJ rfl rfl apW ?_
 try simp only [J]
 refine aH ?_
 refine NoPanic.normal ?_
 clear HFI HFRX HRB
 have hfr := st10.fr
 clear st10
 go_wp2_with fail
 go_ret2
 refine ⟨va, rfl, ?_, hfr⟩
 have h := HOWN.out
 rw [← jF] at h
 unfold sgZ
 exact OwnB1.of h (by rw [List.length_append, eH])
end Go.Proofs.YtemcankmggmgoaaGreat
namespace Go.Mv
open Go.RowKit
section
variable {P : Program} {ops : Array Oper} {md : Region.Mode} {Q : Exit → Act → World → Prop} {m : Nat} {S : Nat → Prop} {w0 : World} {tl : Pl}
def iO (l : List Nat) (x : Nat → Value) : Nat → Value := fun k => if l.contains k then x k else undef
theorem j0K {l : List Nat} {x : Nat → Value} {k : Nat} {v : Value} (h : l.contains k = false) : iO l (upd x k v) = iO l x := by
 funext j
 unfold iO
 by_cases e : l.contains j = true
 ·rw [if_pos e, if_pos e, jM]
  cases h2 : (j == k) with
  | false => rfl
  | true => rw [eq_of_beq h2, h] at e; cases e
 ·rw [if_neg e, if_neg e]
def k0h (ops : Array Oper) (i : Nat) (a : Act) (v : Value) : Act := match ops[i]? with | some o => a.put o.dst v | none => a
theorem mZ {i : Nat} {o : Oper} (ho : ops[i]? = some o) (a : Act) (v : Value) : k0h ops i a v = a.put o.dst v := by unfold k0h; rw [ho]
def qC (ops : Array Oper) : List Nat → Act → (Nat → Value) → Act
 | [], a, _ => a
 | i :: s, a, x => qC ops s (k0h ops i a (x i)) x
theorem c0e {d : Option Tmp} {v : Value} (x : Nat → Value) : ∀ (s : List Nat) (a : Act), (∀ k ∈ s, ∀ ok, ops[k]? = some ok → ok.dst ≠ d ∨ ok.dst = none) → (qC ops s a x).put d v = qC ops s (a.put d v) x
 | [], _, _ => rfl
 | i :: s, a, h => by
  unfold qC
  rw [c0e x s _ fun k hk => h k (List.mem_cons_of_mem _ hk)]
  congr 1
  cases ho : ops[i]? with
  | none => unfold k0h; simp only [ho]
  | some o => rw [mZ ho, mZ ho, zQ _ _ _ _ _ (h i List.mem_cons_self o ho)]
theorem a0o {i : Nat} {v : Value} (x : Nat → Value) : ∀ (s : List Nat) (a : Act), i ∉ s → qC ops s a (upd x i v) = qC ops s a x
 | [], _, _ => rfl
 | j :: s, a, h => by
  simp only [List.mem_cons, not_or] at h
  unfold qC
  rw [a0o x s _ h.2, jM _ _ _ _ (by simpa using fun e => h.1 e.symm)]
def Apd (ops : Array Oper) (s : List Nat) : Prop := ∀ j ∈ s, ∀ k ∈ s, j ≠ k → ∀ oj ok, ops[j]? = some oj → ops[k]? = some ok → ok.dst ≠ oj.dst ∨ ok.dst = none
theorem Apd.tail {i : Nat} {s : List Nat} (h : Apd ops (i :: s)) : Apd ops s := fun j hj k hk => h j (List.mem_cons_of_mem _ hj) k (List.mem_cons_of_mem _ hk)
theorem f0j {i : Nat} {v : Value} {o : Oper} (ho : ops[i]? = some o) (x : Nat → Value) : ∀ (s : List Nat) (a : Act), i ∈ s → s.Nodup → Apd ops s → (qC ops s a x).put o.dst v = qC ops s a (upd x i v)
 | [], _, h, _, _ => by cases h
 | j :: s, a, h, hn, hd => by
  rw [List.nodup_cons] at hn
  by_cases e : i = j
  ·subst e
   unfold qC
   rw [c0e x s _ fun k hk ok hok => hd i List.mem_cons_self k (List.mem_cons_of_mem _ hk) (fun e => hn.1 (e ▸ hk)) o ok ho hok]
   rw [mZ ho, mZ ho, b0B, a0o x s _ hn.1, pK]
  ·have hi : i ∈ s := by
    rcases List.mem_cons.1 h with h | h
    ·exact absurd h e
    ·exact h
   unfold qC
   rw [f0j ho x s _ hi hn.2 hd.tail, jM _ _ _ _ (by simpa using fun h => e h.symm)]
theorem c0f : ∀ (s : List Nat) (a : Act), s.Nodup → ∃ x, qC ops s a x = a
 | [], _, _ => ⟨fun _ => undef, rfl⟩
 | i :: s, a, hn => by
  rw [List.nodup_cons] at hn
  obtain ⟨x, hx⟩ := c0f s a hn.2
  cases ho : ops[i]? with
  | none => exact ⟨x, by unfold qC k0h; simp only [ho]; exact hx⟩
  | some o =>
   obtain ⟨u, hu⟩ := e0A a o.dst
   refine ⟨upd x i u, ?_⟩
   unfold qC
   rw [mZ ho, pK, hu, a0o x s _ hn.1, hx]
def t0q (ops : Array Oper) (s : List Nat) : Bool := s.all fun j => s.all fun k => j == k || match ops[j]?, ops[k]? with | some a, some b => decide (b.dst ≠ a.dst) || decide (b.dst = none) | _, _ => false
theorem j0L {s : List Nat} (h : t0q ops s = true) : Apd ops s := by
 intro j hj k hk hne oj ok hoj hok
 have := List.all_eq_true.1 (List.all_eq_true.1 h j hj) k hk
 simp only [hoj, hok, Bool.or_eq_true, beq_iff_eq, decide_eq_true_eq] at this
 rcases this with h | h
 ·exact absurd h hne
 ·exact h
def f0k : List Nat → Bool
 | [] => true
 | i :: s => !s.contains i && f0k s
theorem oF : ∀ {s : List Nat}, f0k s = true → s.Nodup
 | [], _ => List.nodup_nil
 | i :: s, h => by
  simp only [f0k, Bool.and_eq_true, Bool.not_eq_true'] at h
  exact List.nodup_cons.2 ⟨by simpa using h.1, oF h.2⟩
def j0M (md : Region.Mode) (ops : Array Oper) (m : Nat) (F Lz : List Nat) (pre : Nat → List Nat) (tl : Pl) : Bool :=
 (Lz.all fun i => match ops[i]? with | some o => decide (i ≠ m) && (List.range ops.size).all fun j => j == i || k0Y md ops i ops.size j || (match ops[j]? with | some oj => (oj.after.any fun e => Region.binds md e && e.on == i) || o.apart ops oj | none => true) | none => false) && f0k F && t0q ops F &&
 (F.all fun i => match ops[i]? with | some o => o.after.all fun e => !Region.binds md e || (F.contains e.on && decide (e.on < i)) | none => false) &&
 (F.all fun i => (pre i).all fun j => F.contains j && k0Y md ops i ops.size j) &&
 ((List.range ops.size).all fun t => F.contains t || F.all fun i => Lz.contains i || k0Y md ops t ops.size i) &&
 eO md ops m tl (lK (Array.replicate ops.size false) F)
def Obl (P : Program) (ops : Array Oper) (Q : Exit → Act → World → Prop) (G : World → Prop) (A : (Nat → Value) → Act) (pre : Nat → List Nat) (Φ : Nat → (Nat → Value) → World → Prop) (i : Nat) (o : Oper) : Bool → Prop
 | false => ∀ x w, G w → (∀ j ∈ pre i, Φ j (iO (j :: pre j) x) w) → (Region.wanted o (yielded ops (A x).tmps) = true ∧ o.wp P (A x) w (fun a' w' => ∃ v, a' = (A x).put o.dst v ∧ Fr Nob w w' ∧ Φ i (iO (i :: pre i) (upd x i v)) w') Q) ∨ (Region.wanted o (yielded ops (A x).tmps) = false ∧ Φ i (iO (i :: pre i) (upd x i undef)) w)
 | true => ∀ x w, G w → (∀ j ∈ pre i, Φ j (iO (j :: pre j) x) w) → Region.wanted o (yielded ops (A x).tmps) = true ∧ ∃ v, (∀ wx, (execOp (A x).eval o).run P wx = .ok (.value v) wx) ∧ Φ i (iO (i :: pre i) (upd x i v)) w
def Obls (P : Program) (ops : Array Oper) (Q : Exit → Act → World → Prop) (G : World → Prop) (A : (Nat → Value) → Act) (pre : Nat → List Nat) (Φ : Nat → (Nat → Value) → World → Prop) (Lz : List Nat) : List Nat → Prop
 | [] => True
 | i :: s => ((∀ o, ops[i]? = some o → Obl P ops Q G A pre Φ i o (Lz.contains i)) ∧
   ∀ y w w', Φ i (iO (i :: pre i) y) w → Fr Nob w w' → Φ i (iO (i :: pre i) y) w') ∧ Obls P ops Q G A pre Φ Lz s
theorem Obls.at {G : World → Prop} {A : (Nat → Value) → Act} {pre : Nat → List Nat} {Φ : Nat → (Nat → Value) → World → Prop} {Lz : List Nat} : ∀ {s : List Nat}, Obls P ops Q G A pre Φ Lz s → ∀ i ∈ s, (∀ o, ops[i]? = some o → Obl P ops Q G A pre Φ i o (Lz.contains i)) ∧
      ∀ y w w', Φ i (iO (i :: pre i) y) w → Fr Nob w w' → Φ i (iO (i :: pre i) y) w'
  | [], _, _, h => by cases h
  | _ :: _, h, i, hi => by
    rcases List.mem_cons.1 hi with rfl | hi
    · exact h.1
    · exact Obls.at h.2 i hi
theorem xX {listed : Array Bool} (inv : Cl md ops listed) {k : Nat} : ∀ (f i : Nat), k0Y md ops k f i = true → listed.getD k false = true → listed.getD i true = false → False
 | 0, i, h, _, _ => by cases h
 | f + 1, i, h, hk, hun => by
  obtain ⟨j, hj, hj2⟩ := List.any_eq_true.1 h
  simp only [Bool.and_eq_true, Bool.or_eq_true, decide_eq_true_eq] at hj2
  obtain ⟨oj, hoj, e, he, hb, hon⟩ := Region.waitsFor_spec hj2.1
  have hjl : listed.getD j false = true := by
   rcases hj2.2 with rfl | hja
   ·exact hk
   ·cases hl : listed.getD j false with
    | true => rfl
    | false =>
     have hjs : j < listed.size := by rw [inv.size]; exact (Array.getElem?_eq_some_iff.1 hoj).1
     exact (xX inv f j hja hk (getD_in hjs hl)).elim
  have h2 := inv.closed j oj hoj hjl e he hb
  rw [hon, getD_both hun] at h2
  cases h2
def unl (F : List Nat) (listed : Array Bool) : List Nat := F.filter fun k => !listed.getD k false
theorem p0G {F : List Nat} {listed : Array Bool} {i : Nat} (hi : i < listed.size) : unl F (listed.setIfInBounds i true) = (unl F listed).filter (· != i) := by
 unfold unl
 rw [List.filter_filter]
 refine List.filter_congr fun k _ => ?_
 by_cases e : i = k
 ·subst e; simp [hi]
 ·rw [getD_set_ne false e]
  have h2 : (k != i) = true := by simpa using fun h => e h.symm
  rw [h2, Bool.true_and]
theorem j0N {i : Nat} {o : Oper} {a : Act} {w : World} {K : Act → World → Prop} (ho : ops[i]? = some o) (hg : Region.wanted o (yielded ops a.tmps) = true) (h : o.wp P a w K Q) : wpOp P ops Q i K a w := by
 unfold wpOp
 simp only [ho]
 rw [if_pos hg]
 exact .inl h
theorem g0C {G : World → Prop} {F Lz : List Nat} {a : Act} {pre : Nat → List Nat} {Φ : Nat → (Nat → Value) → World → Prop} (hsel : Region.noSelect ops = true) (hm : m < ops.size) (hQ : ∀ c (d : Option Tmp) v a w, Q (.panic c) (Act.put a d v) w → Q (.panic c) a w)
  (hok : j0M md ops m F Lz pre tl = true) (hG : ∀ w w', G w → Fr Nob w w' → G w') (hob : Obls P ops Q G (qC ops F a) pre Φ Lz F)
  (hend : ∀ x w, G w → (∀ i ∈ F, Φ i (iO (i :: pre i) x) w) → dQ P ops Q (fun _ => True) tl (qC ops F a x) w) :
  ∀ (N : Nat) (listed : Array Bool) (x : Nat → Value) (w : World), (unl F listed).length = N → listed.size = ops.size → Cl md ops listed → (∀ k, listed.getD k false = true → k ∈ F) → G w → (∀ i ∈ F, listed.getD i false = true → Φ i (iO (i :: pre i) x) w) →
   wpP P md ops Q (fun _ => True) m (N + tl.len) listed (qC ops F a x) w := by
 simp only [j0M, Bool.and_eq_true] at hok
 obtain ⟨⟨⟨⟨⟨⟨hlz, hnd⟩, hap⟩, haf⟩, hpre⟩, htl⟩, hpl⟩ := hok
 have hnd := oF hnd
 have hap := j0L hap
 have hF : ∀ i ∈ F, ∃ o, ops[i]? = some o ∧ True ∧ ∀ e ∈ o.after, Region.binds md e = true → e.on ∈ F ∧ e.on < i := by
  intro i hi
  have := List.all_eq_true.1 haf i hi
  cases ho : ops[i]? with
  | none => simp only [ho] at this; cases this
  | some o =>
   simp only [ho] at this
   refine ⟨o, rfl, trivial, fun e he hb => ?_⟩
   have h2 := Array.all_eq_true'.1 this e he
   simpa [hb] using h2
 have hlt : ∀ i ∈ F, i < ops.size := fun i hi => by obtain ⟨o, ho, _⟩ := hF i hi; exact (Array.getElem?_eq_some_iff.1 ho).1
 intro N
 induction N with
 | zero =>
  intro listed x w hu hsz inv hLF hGw hfacts
  have hall : ∀ i ∈ F, listed.getD i false = true := by
   intro i hi
   cases h : listed.getD i false with
   | true => rfl
   | false =>
    have : i ∈ unl F listed := List.mem_filter.2 ⟨hi, by simp [h]⟩
    rw [List.eq_nil_of_length_eq_zero hu] at this
    cases this
  have he : listed = lK (Array.replicate ops.size false) F := by
   refine mS (by simp [dP, hsz]) fun k hk => ?_
   rw [fW _ _ _ (by simpa [hsz] using hk)]
   have hk' : k < listed.size := hk
   by_cases hkF : k ∈ F
   ·have h3 : listed.getD k true = true := by
     cases h : listed.getD k true with
     | true => rfl
     | false => have := hall k hkF; rw [getD_both h] at this; cases this
    rw [h3]; simp [hkF]
   ·cases h : listed.getD k true with
    | true =>
     have h2 : listed.getD k false = true := by simpa [hk'] using h
     exact absurd (hLF k h2) hkF
    | false => simp [hkF, hsz ▸ hk']
  have := dJ (md := md) (S := fun _ => True) hsel hm hQ tl listed (qC ops F a x) w inv (by rw [he]; exact hpl) (fun _ => trivial) (hend x w hGw fun i hi => hfacts i hi (hall i hi))
  simpa using this
 | succ N ih =>
  intro listed x w hu hsz inv hLF hGw hfacts
  have hsome : ∀ (b i : Nat), i < b → i ∈ F → listed.getD i false = false → ∃ k ∈ F, listed.getD k false = false ∧ k ∈ Region.ready md ops listed := by
   intro b
   induction b with
   | zero => intro i h; omega
   | succ b ihb =>
    intro i hib hi hun
    obtain ⟨o, ho, hg, hafter⟩ := hF i hi
    by_cases hall : ∀ e ∈ o.after, Region.binds md e = true → listed.getD e.on false = true
    ·exact ⟨i, hi, hun, mem_ready.2 ⟨getD_in (by rw [hsz]; exact hlt i hi) hun, o, ho, hall⟩⟩
    ·simp only [Classical.not_forall] at hall
     obtain ⟨e, he, hb, hl⟩ := hall
     obtain ⟨h1, h2⟩ := hafter e he hb
     exact ihb e.on Ab h1 (by simpa using hl)
  have hex : ∃ i, i ∈ F ∧ listed.getD i false = false := by
   cases h : unl F listed with
   | nil => rw [h] at hu; cases hu
   | cons i s =>
    have : i ∈ unl F listed := by rw [h]; exact List.mem_cons_self
    obtain ⟨h1, h2⟩ := List.mem_filter.1 this
    exact ⟨i, h1, by simpa using h2⟩
  obtain ⟨i00, hi00, hun00⟩ := hex
  obtain ⟨i0, hi0, hun0, hr0⟩ := hsome (i00 + 1) i00 (Nat.lt_succ_self _) hi00 hun00
  have e1 : N + 1 + tl.len = (N + tl.len) + 1 := by omega
  rw [e1]
  have hprel : ∀ i ∈ F, i ∈ Region.ready md ops listed → ∀ j ∈ pre i, j ∈ F ∧ listed.getD j false = true := by
   intro i hiF hi j hj
   have h := List.all_eq_true.1 (List.all_eq_true.1 hpre i hiF) j hj
   simp only [Bool.and_eq_true] at h
   have hjF : j ∈ F := by simpa using h.1
   refine ⟨hjF, ?_⟩
   cases hl : listed.getD j false with
   | true => rfl
   | false => exact absurd hi (mK inv _ _ h.2 (getD_in (by rw [hsz]; exact hlt j hjF) hl))
  have next : ∀ i ∈ F, i ∈ Region.ready md ops listed → ∀ o, ops[i]? = some o → ∀ v w', Fr Nob w w' → Φ i (iO (i :: pre i) (upd x i v)) w' →
    wpP P md ops Q (fun _ => True) m (N + tl.len) (listed.setIfInBounds i true) ((qC ops F a x).put o.dst v) w' := by
   intro i hiF hi o ho v w' hfr hΦ
   obtain ⟨hiun, _⟩ := mem_ready.1 hi
   rw [f0j ho x F a hiF hnd hap]
   have hil : i < listed.size := by rw [hsz]; exact hlt i hiF
   refine ih (listed.setIfInBounds i true) (upd x i v) w' ?_ (by simpa using hsz) (inv.set hi) ?_ (hG w w' hGw hfr) ?_
   ·rw [p0G hil]
    have hmem : i ∈ unl F listed := List.mem_filter.2 ⟨hiF, by
     cases h : listed.getD i false with
     | false => rfl
     | true => rw [getD_both hiun] at h; cases h⟩
    have := qR (l := unl F listed) (b0C hnd _) hmem
    omega
   ·intro k hk
    by_cases e : i = k
    ·subst e; exact hiF
    ·rw [getD_set_ne false e] at hk; exact hLF k hk
   ·intro k hkF hk
    by_cases e : i = k
    ·subst e; exact hΦ
    ·rw [getD_set_ne false e] at hk
     have h1 := (hob.at k hkF).2 _ _ _ (hfacts k hkF hk) hfr
     rwa [j0K]
     cases h : (k :: pre k).contains i with
     | false => rfl
     | true =>
      exfalso
      have hm : i ∈ k :: pre k := by simpa using h
      rcases List.mem_cons.1 hm with h2 | h2
      ·exact e h2
      ·have h3 := List.all_eq_true.1 (List.all_eq_true.1 hpre k hkF) i h2
       simp only [Bool.and_eq_true] at h3
       exact xX inv _ _ h3.2 hk hiun
  by_cases hlo : ∃ i ∈ F, i ∈ Region.ready md ops listed ∧ i ∈ Lz
  ·
   obtain ⟨i, hiF, hir, hiL⟩ := hlo
   obtain ⟨o, ho, hg, -⟩ := hF i hiF
   have hO := (hob.at i hiF).1 o ho
   rw [show Lz.contains i = true by simpa using hiL] at hO
   obtain ⟨hg, v, hv, hΦ⟩ := hO x w hGw fun j hj => hfacts j (hprel i hiF hir j hj).1 (hprel i hiF hir j hj).2
   have hl := List.all_eq_true.1 hlz i hiL
   simp only [ho, Bool.and_eq_true, decide_eq_true_eq] at hl
   refine pH ho (Region.noSelect_spec hsel) (fun c a w => hQ c o.dst v a w) hl.1 hm (N + tl.len) listed (qC ops F a x) w inv ?_ hir (.inl ⟨hg, fun wx _ => hv wx⟩) (fun _ => trivial) (next i hiF hir o ho v w (Fr.refl _ _) hΦ)
   intro j oj hoj hji hjun hno
   have h := List.all_eq_true.1 hl.2 j (List.mem_range.2 (Array.getElem?_eq_some_iff.1 hoj).1)
   simp only [hoj, Bool.or_eq_true, beq_iff_eq] at h
   rcases h with (h | h) | h | h
   ·exact absurd h hji
   ·exact absurd hir (mK inv _ _ h hjun)
   ·obtain ⟨k, hk, h2⟩ := Array.any_eq_true.1 h
    simp only [Bool.and_eq_true, beq_iff_eq] at h2
    exact absurd h2.2 (hno _ (Array.getElem_mem hk) h2.1)
   ·exact h
  refine ⟨fun h => (by rw [h] at hr0; cases hr0), fun i hi => ?_⟩
  obtain ⟨hiun, oi, hoi, hiall⟩ := mem_ready.1 hi
  have hisz : i < ops.size := (Array.getElem?_eq_some_iff.1 hoi).1
  have hiF : i ∈ F := by
   have h := List.all_eq_true.1 htl i (List.mem_range.2 hisz)
   simp only [Bool.or_eq_true] at h
   rcases h with h | h
   ·simpa using h
   ·have h2 := List.all_eq_true.1 h i0 hi0
    simp only [Bool.or_eq_true] at h2
    rcases h2 with h2 | h2
    ·exact absurd ⟨i0, hi0, hr0, by simpa using h2⟩ hlo
    ·exact absurd hi (mK inv _ _ h2 (getD_in (by rw [hsz]; exact hlt i0 hi0) hun0))
  obtain ⟨o, ho, hg, -⟩ := hF i hiF
  have hO := (hob.at i hiF).1 o ho
  have hnl : Lz.contains i = false := by
   cases h : Lz.contains i with
   | false => rfl
   | true => exact absurd ⟨i, hiF, hi, by simpa using h⟩ hlo
  rw [hnl] at hO
  rcases hO x w hGw fun j hj => hfacts j (hprel i hiF hi j hj).1 (hprel i hiF hi j hj).2 with ⟨hgd, hO⟩ | ⟨hgd, hO⟩
  rotate_left 1
  ·unfold wpOp
   simp only [ho]
   rw [if_neg (by rw [hgd]; decide)]
   exact ⟨fun _ _ => trivial, next i hiF hi o ho undef w (Fr.refl _ _) hO⟩
  refine j0N ho hgd (Oper.wp_mono (fun a' w' h' => ?_) hO)
  obtain ⟨v, rfl, hfr, hΦ⟩ := h'
  exact ⟨fun _ _ => trivial, next i hiF hi o ho v w' hfr hΦ⟩
theorem a0p {id : Nat} {a : Act} {w : World} {l : List Oper} (G : World → Prop) (F Lz : List Nat) (pre : Nat → List Nat) (Φ : Nat → (Nat → Value) → World → Prop) (m : Nat) (tl : Pl) (hm : P.follows .mixedOrders = true)
  (hB : (Region.noSelect l.toArray && decide (m < l.toArray.size) && decide (F.length + tl.len = l.toArray.size) && j0M .any l.toArray m F Lz pre tl) = true)
  (hQ : ∀ c (d : Option Tmp) v a w, Q (.panic c) (Act.put a d v) w → Q (.panic c) a w) (hG0 : G w.drew) (hG : ∀ w w', G w → Fr Nob w w' → G w') (hob : Obls P l.toArray Q G (qC l.toArray F a) pre Φ Lz F)
  (hend : ∀ x w, G w → (∀ i ∈ F, Φ i (iO (i :: pre i) x) w) → dQ P l.toArray Q (fun _ => True) tl (qC l.toArray F a x) w) : (Code.region id l.toArray true).wp P Q a w := by
 simp only [Bool.and_eq_true, decide_eq_true_eq] at hB
 obtain ⟨⟨⟨hsel, hms⟩, hlen⟩, hok⟩ := hB
 have inv0 : Cl .any l.toArray (Array.replicate l.toArray.size false) :=
  ⟨by simp, fun j oj _ hl => (by rw [getD_replicate_false] at hl; cases hl)⟩
 have hnd : F.Nodup := by
  have h := hok
  simp only [j0M, Bool.and_eq_true] at h
  exact oF h.1.1.1.1.1.2
 obtain ⟨x0, hx0⟩ := c0f (ops := l.toArray) F a hnd
 have hul : unl F (Array.replicate l.toArray.size false) = F := by
  unfold unl
  exact List.filter_eq_self.2 fun k _ => by rw [getD_replicate_false]; rfl
 have H := g0C (md := .any) hsel hms hQ hok hG hob hend F.length (Array.replicate l.toArray.size false) x0 w.drew (by rw [hul]) Ae inv0 (fun k hk => by rw [getD_replicate_false] at hk; cases hk) hG0 (fun i _ hk => by rw [getD_replicate_false] at hk; cases hk)
 rw [hx0, hlen] at H
 exact wp_region_any hm (jC _ _ _ _ H)
theorem fU {id : Nat} {a : Act} {w : World} {l : List Oper} (G : World → Prop) (F Lz : List Nat) (pre : Nat → List Nat) (Φ : Nat → (Nat → Value) → World → Prop) (m : Nat) (tl : Pl) (A : (Nat → Value) → Act) (hA : ∀ x, qC l.toArray F a x = A x) (hm : P.follows .mixedOrders = true)
  (hB : (Region.noSelect l.toArray && decide (m < l.toArray.size) && decide (F.length + tl.len = l.toArray.size) && j0M .any l.toArray m F Lz pre tl) = true)
  (hQ : ∀ c (d : Option Tmp) v a w, Q (.panic c) (Act.put a d v) w → Q (.panic c) a w) (hG0 : G w.drew) (hG : ∀ w w', G w → Fr Nob w w' → G w') (hob : Obls P l.toArray Q G A pre Φ Lz F)
  (hend : ∀ x w, G w → (∀ i ∈ F, Φ i (iO (i :: pre i) x) w) → dQ P l.toArray Q (fun _ => True) tl (A x) w) : (Code.region id l.toArray true).wp P Q a w := by
 obtain rfl : (qC l.toArray F a) = A := funext hA
 exact a0p G F Lz pre Φ m tl hm hB hQ hG0 hG hob hend
theorem aN {G : World → Prop} {A : (Nat → Value) → Act} {pre : Nat → List Nat} {Φ : Nat → (Nat → Value) → World → Prop} {Lz : List Nat} {i : Nat} {s : List Nat} {o : Oper} (ho : ops[i]? = some o) (hl : Lz.contains i = false)
  (h : ∀ x w, G w → (∀ j ∈ pre i, Φ j (iO (j :: pre j) x) w) → o.wp P (A x) w (fun a' w' => ∃ v, a' = (A x).put o.dst v ∧ Fr Nob w w' ∧ Φ i (iO (i :: pre i) (upd x i v)) w') Q)
  (hm : ∀ y w w', Φ i (iO (i :: pre i) y) w → Fr Nob w w' → Φ i (iO (i :: pre i) y) w') (hs : Obls P ops Q G A pre Φ Lz s) (hg : o.guard = none := by rfl) : Obls P ops Q G A pre Φ Lz (i :: s) :=
 ⟨⟨fun o' ho' => by
  obtain rfl : o = o' := Option.some.inj (ho.symm.trans ho')
  rw [hl]
  exact fun x w h1 h2 => .inl ⟨by simp [Region.wanted, hg], h x w h1 h2⟩, hm⟩, hs⟩
theorem g0D {G : World → Prop} {A : (Nat → Value) → Act} {pre : Nat → List Nat} {Φ : Nat → (Nat → Value) → World → Prop} {Lz : List Nat} {i : Nat} {s : List Nat} {o : Oper} (ho : ops[i]? = some o) (hl : Lz.contains i = true)
  (h : ∀ x w, G w → (∀ j ∈ pre i, Φ j (iO (j :: pre j) x) w) → ∃ v, (∀ wx, (execOp (A x).eval o).run P wx = .ok (.value v) wx) ∧ Φ i (iO (i :: pre i) (upd x i v)) w)
  (hm : ∀ y w w', Φ i (iO (i :: pre i) y) w → Fr Nob w w' → Φ i (iO (i :: pre i) y) w') (hs : Obls P ops Q G A pre Φ Lz s) (hg : o.guard = none := by rfl) : Obls P ops Q G A pre Φ Lz (i :: s) :=
 ⟨⟨fun o' ho' => by
  obtain rfl : o = o' := Option.some.inj (ho.symm.trans ho')
  rw [hl]
  exact fun x w h1 h2 => ⟨by simp [Region.wanted, hg], h x w h1 h2⟩, hm⟩, hs⟩
variable {o : Oper} {a : Act} {w : World} {Ψ : Value → World → Prop}
theorem dF {v : Value} (h : (execOp a.eval o).run P w = .ok (.value v) w) (hΨ : Ψ v w) : o.wp P a w (fun a' w' => ∃ v, a' = a.put o.dst v ∧ Fr Nob w w' ∧ Ψ v w') Q := by
 unfold Oper.wp
 rw [h]
 exact ⟨v, rfl, Fr.refl _ _, hΨ⟩
theorem n0p {v : Nat → Value} {L : List Value} {T : TypeId} (hk : Mk P (execOp a.eval o) v L T) (h : ∀ g w', Fr Nob w w' → w.heap.size ≤ g → Has w' g L T → Ψ (v g) w') : o.wp P a w (fun a' w' => ∃ v, a' = a.put o.dst v ∧ Fr Nob w w' ∧ Ψ v w') Q := by
 obtain ⟨g, w', hr, hf, hle, hg⟩ := hk w
 unfold Oper.wp
 rw [hr]
 exact ⟨v g, rfl, hf, h g w' hf hle hg⟩
theorem f0l {t e : TypeId} {k : Nat} {parts : Array (Nat × Operand)} (hop : o.op = .buildSlice t k parts) (hu : P.underlying t = some (.slice e)) {z : Value} {sz by_ : Nat} (hi0 : (P.info? e).map (fun i => (i.zero, i.size, i.bytes)) = some (some z, sz, by_))
  (vs : List Value) (hp : (parts.toList.map fun p => (p.1, a.eval p.2)) = (vs.zipIdx 0).map fun x => (x.2, x.1)) (hv : ∀ v ∈ vs, v.cells.size = sz) (hk : vs.length = k) (L : List Value) (hL : (vs.flatMap fun v => v.cells.toList) = L)
  (h : ∀ g w', Fr Nob w w' → w.heap.size ≤ g → Has w' g L e → Ψ (.slice (some ⟨g, 0, none⟩) k k) w') (hk0 : 0 < k * sz := by decide) (hk24 : k * sz ≤ 16777216 := by decide) : o.wp P a w (fun a' w' => ∃ v, a' = a.put o.dst v ∧ Fr Nob w w' ∧ Ψ v w') Q :=
 n0p (v := fun g => .slice (some ⟨g, 0, none⟩) k k) (by unfold execOp; simp only [hop]; rw [j0A hp]; exact p0r hu hi0 vs rfl hv hk L hL hk0 hk24) h
theorem c0g {e : TypeId} {z : Value} (hop : o.op = .alloc e) (hi : (P.info? e).map (·.zero) = some (some z)) (L : List Value) (hL : z.cells.toList = L)
  (h : ∀ g w', Fr Nob w w' → w.heap.size ≤ g → Has w' g L e → Ψ (.pointer (some ⟨g, 0, none⟩)) w') : o.wp P a w (fun a' w' => ∃ v, a' = a.put o.dst v ∧ Fr Nob w w' ∧ Ψ v w') Q :=
 n0p (v := fun g => .pointer (some ⟨g, 0, none⟩)) (e0D hi hop L hL) h
theorem xY {f : FuncId} {xs : Array Operand} {ats : Array TypeId} (hop : o.op = .call { callee := .value (.func f), args := xs, argTypes := ats }) (hcl : ∀ us w, (callFunc f us).run P w = .ok (.enter f us) w)
  {vs : List Value} (hargs : xs.toList.map a.eval = vs) (h : Calls P f vs.toArray w fun e w' => ∃ v, e = .returned v ∧ Fr Nob w w' ∧ Ψ v w') : o.wp P a w (fun a' w' => ∃ v, a' = a.put o.dst v ∧ Fr Nob w w' ∧ Ψ v w') Q :=
 o0v hop hcl hargs (h.mono fun _ _ ⟨v, h1, h2, h3⟩ => ⟨v, h1, v, rfl, h2, h3⟩)
end
end Go.Mv
namespace Go.Mv
open Go.RowKit Go.ChangeShapes Go.WideShapes
theorem Below.trodAll {H : Type} {enc : TypeId × Value → H} {P : Program} (hl : laidOutB P = true) {W W' : World} (hb : Below W.heap.size W W') :
  ∀ (ts : List TypeId) (vs : List Value) (ds : List (DataW H)) (ps : List MemPlace), (∀ t ∈ ts, P.readableRec t = true ∧ t < P.types.size) → DataW.TrodAll enc P W 0 (fun _ => true) true ts vs ds ps → (∀ x ∈ ps, x.block < W.heap.size) →
   DataW.TrodAll enc P W' 0 (fun b => decide (b < W.heap.size)) true ts vs ds ps
 | [], vs, ds, ps, _, h, _ => by
  obtain ⟨rfl, rfl, rfl⟩ := trodAll_nil h
  exact trodAll_mk0
 | t :: ts, vs, ds, ps, hr, h, hlt => by
  obtain ⟨v, vs', d, ds', p, q, rfl, rfl, rfl, h0, hs⟩ := trodAll_cons h
  have h1 := hr t Ae
  exact trodAll_cons_mk (Below.trod hl h1.1 h1.2 h0 hb (fun x hx => hlt x (by simp [hx]))) (Below.trodAll hl hb ts vs' ds' q (fun t ht => hr t (by simp [ht])) hs (fun x hx => hlt x (by simp [hx])))
theorem m0s {H : Type} {enc : TypeId × Value → H} {P : Program} {f : Func} {s : ChangeSpec} {W W' : World} {args : Array Value} {ds gs : List (DataW H)} {before : List MemPlace}
  (hl : laidOutB P = true) (hr : ∀ t ∈ f.params.toList, P.readableRec t = true ∧ t < P.types.size) (hW : DataW.Whole enc P f.params.toList s.vars false W args.toList ds gs before)
  (hv : s.vars = []) (hres : (s.fn H (ds ++ gs)).results = [.lit (.bool true)]) (harg : (s.fn H (ds ++ gs)).args = ds) (hvar : (s.fn H (ds ++ gs)).vars = [])
  {tb : TypeId} (hrt : f.resultTypes = #[tb]) (hu : P.underlying tb = some .bool) (hf : Fr Nob W W') :
  s.post enc P f false true false false W args (.bool true) W' := by
 have hW' := hW
 obtain ⟨p, q, hA, hV, rfl, hfz, hnd⟩ := hW
 rw [hv] at hV
 obtain ⟨rfl, rfl⟩ := trodVars_none hV
 have hlt : ∀ x ∈ p ++ [], x.block < W.heap.size := fun x hx => hW'.lt x hx
 refine ⟨ds, [], p ++ [], [], p, [], hW', ?_, ?_, ?_, World.keptBut_mono (fun x hx => ⟨hx, ?_⟩) (hf.below.frame (· ∈ p ++ [])), fun h => by cases h⟩
 ·rw [hres, hrt]
  exact trodAll_mk1 (shut_bool hu true)
 ·rw [harg]
  exact Below.trodAll hl hf.below _ _ _ _ hr hA (fun x hx => hlt x (by simp [hx]))
 ·rw [hvar, hv]; exact rfl
 ·simp only [List.append_nil] at hx
  exact .inr (.inl hx)
end Go.Mv
namespace Go.Proofs.YtemcankmggmgoaaGreat
section
open Go.RowKit Go.Mv Mvp Mvq
def sgC (vp vf : Value) (c z : Nat) : List Value := [vp, vf] ++ (cw 4 c ++ cw 4 z)
theorem fH (vp vf : Value) (c z : Nat) : (sgC vp vf c z).length = 10 := by simp [sgC, aT]
theorem kG (p f : Option Addr) (a b c d : Nat) (x y : Nat) : ∀ v ∈ sgC (.slice p a b) (.slice f c d) x y, v.oneCell' = true := by
 intro v hv
 unfold sgC at hv
 rcases List.mem_append.1 hv with h | h
 ·simp only [List.mem_cons, List.not_mem_nil, or_false] at h
  rcases h with rfl | rfl <;> rfl
 ·rcases List.mem_append.1 h with h | h
  ·exact aF _ _ v h
  ·exact aF _ _ v h
theorem g0E : (prog.info? 85).map (·.zero) = some (some (.agg (sgC (.slice none 0 0) (.slice none 0 0) 0 0).toArray)) := by unfold sgC; rw [mG]; kernel_rfl
theorem jS (vp vf : Value) (c z : Nat) : (prog.info? 85).map (·.size) = some (sgC vp vf c z).length := by rw [fH]; kernel_rfl
theorem s0U (vp vf : Value) (c z : Nat) : ((sgC vp vf c z).drop 2).take (cw 4 c).length = cw 4 c := by
 unfold sgC
 rw [List.drop_append, List.drop_of_length_le Ae, List.nil_append]
 simp only [List.length_cons, List.length_nil, Nat.sub_self, List.drop_zero]
 exact List.take_left
theorem s0V (vp vf : Value) (c z : Nat) : ((sgC vp vf c z).drop 6).take (cw 4 z).length = cw 4 z := by
 unfold sgC
 rw [← List.append_assoc, List.drop_append, List.drop_of_length_le Ai, List.nil_append]
 simp only [List.length_append, List.length_cons, List.length_nil, aT]
 rw [List.drop_zero, List.take_of_length_le By]
theorem n0q (vp vf : Value) (c z x : Nat) : splice (sgC vp vf c z) 6 (cw 4 x) = sgC vp vf c x := by
 unfold sgC splice
 rw [aT, ← List.append_assoc, List.take_append, List.take_of_length_le Ai, List.drop_of_length_le Ai]
 simp [aT]
theorem r0F (vp vf : Value) (c z x : Nat) : splice (sgC vp vf c z) 2 (cw 4 x) = sgC vp vf x z := by
 have h : sgC vp vf c z = [vp, vf] ++ (cw 4 c ++ cw 4 z) := rfl
 unfold splice
 rw [h, aT, List.take_append, List.drop_append]
 have e1 : List.drop (2 + 4) [vp, vf] = [] := rfl
 rw [e1]
 simp only [List.length_cons, List.length_nil, Nat.sub_self, List.take_zero, List.append_nil]
 rw [List.drop_append, List.drop_of_length_le Av, aT]
 simp [sgC]
theorem j0O {w w4 : World} {g6 : Nat} {up uf : Value} {c z : Nat} {T : TypeId} (h : St Nob w w4 [(g6, sgC up uf c z, T)]) (vp vf : Value) : St Nob w ((w4.setCell ⟨g6, 0, none⟩ vp).setCell ⟨g6, 1, none⟩ vf).drew [(g6, sgC vp vf c z, T)] := ((h.set 0 rfl 0 vp).set 0 rfl 1 vf).drew
theorem j0P {w w4 : World} {g6 : Nat} {up uf : Value} {c z : Nat} {T : TypeId} (h : St Nob w w4 [(g6, sgC up uf c z, T)]) (vp vf : Value) : St Nob w ((w4.setCell ⟨g6, 1, none⟩ vf).setCell ⟨g6, 0, none⟩ vp).drew [(g6, sgC vp vf c z, T)] := ((h.set 0 rfl 1 vf).set 0 rfl 0 vp).drew
def rdG (pub s : List UInt8) : Bool := dS pub && (decide (s.length = 65) && (dM (s.take 33) && cL mQ (s.drop 33)))
theorem nI {w : World} {a : Option Addr} {n c : Nat} {l : List UInt8} (h : PartIs w (.slice a n c) l) (k : Nat) (hk : k ≤ n) : PartIs w (.slice a k c) (l.take k) := by
 obtain ⟨a', n', c', he, hc, hn, hr, ho⟩ := h
 cases he
 have h2 := Rd.take (show Rd w a n (bs l) from hr) k hk
 rw [mB] at h2
 exact ⟨a, k, c, rfl, by omega, by omega, h2, ho⟩
theorem qY {w : World} {b o n c : Nat} {l : List UInt8} (h : PartIs w (.slice (some ⟨b, o, none⟩) n c) l) (k : Nat) (hk : k ≤ n) : PartIs w (.slice (some ⟨b, o + k, none⟩) (n - k) (c - k)) (l.drop k) := by
 obtain ⟨a', n', c', he, hc, hn, hr, ho⟩ := h
 cases he
 have hlen := hr.len
 refine ⟨_, _, _, rfl, by omega, by omega, ?_, ?_⟩
 ·refine ⟨by rw [bP, List.length_drop]; omega, ?_⟩
  by_cases hz : n - k = 0
  ·exact .inl hz
  ·obtain ⟨b', o', e, hat⟩ := Rd.at hr Ab
   cases e
   refine .inr ⟨_, _, rfl, ?_⟩
   have h2 := hat.sub k (n - k)
   have e2 : ((bs l).drop k).take (n - k) = bs (l.drop k) := by
    rw [List.take_of_length_le (by rw [List.length_drop, bP]; omega)]
    simp [bs, List.map_drop]
   rwa [e2] at h2
 ·intro x hx
  cases hx
  exact ho ⟨b, o, none⟩ rfl
theorem kX (l : List UInt8) : eM [l] = dS l := by unfold eM; simp
theorem jT {w : World} {v : Value} {l : List UInt8} (h : PartIs w v l) : BPart w v l := h.bpart
attribute [local irreducible] bI lw mix cw cT dG cS bQ aO beN dO cI dI bM bT elN mdL cL rtV dW cK dM fD dE gY xV rO bV cO dD toB aW bG cR eD bH eU cA bD dX fZ cM oD sgF sgZ cU chN dS eM tS sgC rdG
theorem _root_.Bt {p : Prop} (h : p := by simp only [fH]) : p := h
theorem r0G (ap : Option Addr) (np cp : Nat) (pub : List UInt8) (at_ : Option Addr) (nt ct : Nat) (text : List UInt8) (as_ : Option Addr) (ns cs : Nat) (s : List UInt8) (w : World) (hp : PartIs w (.slice ap np cp) pub) (ht : PartIs w (.slice at_ nt ct) text) (hs : PartIs w (.slice as_ ns cs) s) (hq : dS pub = false) : Calls prog 60 #[.slice ap np cp, .slice at_ nt ct, .slice as_ ns cs] w fun e w' => ∃ cells : List Value, e = .returned (.tuple #[.agg cells.toArray, .bool false]) ∧ cells.length = 10 ∧ (∀ v ∈ cells, v.oneCell' = true) ∧ Fr Nob w w' := by
 have HP := qH hp
 have HT := qH ht
 have HS := qH hs
 have HR := qH (show eM [pub] = false by rw [kX]; exact hq)
 clear hp ht hs hq
 have st0 := St.start Nob w
 go_enter func60, ntmps60
 go_wp2_with (with_reducible refine AA 6 ?_)
 refine aA st0 rfl rfl g0E (sgC (.slice none 0 0) (.slice none 0 0) 0 0) rfl ?_
 intro g6 w1 st1
 clear st0
 go_wp2_with (with_reducible refine AA 9 ?_)
 refine dH rfl rfl underlying39 dV [.slice ap np cp] rfl Au rfl rfl ?_
 intro w2 hh2 hf2 hz2
 have st2 := st1.keep hf2
 have HSL := qH hh2
 clear hh2 hf2 hz2 st1
 generalize w1.heap.size = gl9 at *
 go_wp2_with fail
 refine (qB _ 1 1 [.slice ap np cp] [pub] _ (Rd.whole HSL.out) (BParts.one (jT (HP.out.still st2.fr))) Ac).mono ?_
 rintro e' w3 ⟨rfl, hf3⟩
 have st3 := st2.keep hf3
 clear st2 hf3
 clear HSL
 rw [HR.out]
 go_wp2_with (with_reducible refine AA 23 ?_)
 refine aM st3 0 rfl rfl rfl underlying85 rfl rfl (jS _ _ _ _) ?_
 go_wp2_with (with_reducible refine AB ?_)
 refine aB st3 0 rfl rfl rfl rfl rfl Bt (jS _ _ _ _) (kG _ _ _ _ _ _ _ _) ?_
 intro w4 st4
 clear st3
 have hr := st4.at 0 rfl
 have hfr := st4.fr
 clear st4
 go_wp2_with fail
 exact bodyPost_ret (bF rfl rfl hr underlying85 rfl (jS _ _ _ _) rfl) rfl ⟨_, rfl, fH _ _ _ _, kG _ _ _ _ _ _ _ _, hfr⟩
theorem r0H (ap : Option Addr) (np cp : Nat) (pub : List UInt8) (at_ : Option Addr) (nt ct : Nat) (text : List UInt8) (as_ : Option Addr) (ns cs : Nat) (s : List UInt8) (w : World) (hp : PartIs w (.slice ap np cp) pub) (ht : PartIs w (.slice at_ nt ct) text) (hs : PartIs w (.slice as_ ns cs) s) (hq : dS pub = true) (hl : ns ≠ 65) : Calls prog 60 #[.slice ap np cp, .slice at_ nt ct, .slice as_ ns cs] w fun e w' => ∃ cells : List Value, e = .returned (.tuple #[.agg cells.toArray, .bool false]) ∧ cells.length = 10 ∧ (∀ v ∈ cells, v.oneCell' = true) ∧ Fr Nob w w' := by
 have HP := qH hp
 have HT := qH ht
 have HS := qH hs
 have HR := qH (show eM [pub] = true by rw [kX]; exact hq)
 have hne : ((ns : Int) != 65) = true := by simp; omega
 clear hp ht hs hq hl
 have st0 := St.start Nob w
 go_enter func60, ntmps60
 go_wp2_with (with_reducible refine AA 6 ?_)
 refine aA st0 rfl rfl g0E (sgC (.slice none 0 0) (.slice none 0 0) 0 0) rfl ?_
 intro g6 w1 st1
 clear st0
 go_wp2_with (with_reducible refine AA 9 ?_)
 refine dH rfl rfl underlying39 dV [.slice ap np cp] rfl Au rfl rfl ?_
 intro w2 hh2 hf2 hz2
 have st2 := st1.keep hf2
 have HSL := qH hh2
 clear hh2 hf2 hz2 st1
 generalize w1.heap.size = gl9 at *
 go_wp2_with fail
 refine (qB _ 1 1 [.slice ap np cp] [pub] _ (Rd.whole HSL.out) (BParts.one (jT (HP.out.still st2.fr))) Ac).mono ?_
 rintro e' w3 ⟨rfl, hf3⟩
 have st3 := st2.keep hf3
 clear st2 hf3
 clear HSL
 rw [HR.out]
 go_wp2_with (with_reducible refine AA 23 ?_)
 refine aM st3 0 rfl rfl rfl underlying85 rfl rfl (jS _ _ _ _) ?_
 go_wp2_with (with_reducible refine AB ?_)
 refine aB st3 0 rfl rfl rfl rfl rfl Bt (jS _ _ _ _) (kG _ _ _ _ _ _ _ _) ?_
 intro w4 st4
 clear st3
 have hr := st4.at 0 rfl
 have hfr := st4.fr
 clear st4
 go_wp2_with fail
 exact bodyPost_ret (bF rfl rfl hr underlying85 rfl (jS _ _ _ _) rfl) rfl ⟨_, rfl, fH _ _ _ _, kG _ _ _ _ _ _ _ _, hfr⟩
theorem r0I (ap : Option Addr) (np cp : Nat) (pub : List UInt8) (at_ : Option Addr) (nt ct : Nat) (text : List UInt8) (b o cs : Nat) (s : List UInt8) (w : World) (hp : PartIs w (.slice ap np cp) pub) (ht : PartIs w (.slice at_ nt ct) text) (hs : PartIs w (.slice (some ⟨b, o, none⟩) 65 cs) s) (hq : dS pub = true) (ho : dM (s.take 33) = false) : Calls prog 60 #[.slice ap np cp, .slice at_ nt ct, .slice (some ⟨b, o, none⟩) 65 cs] w fun e w' => ∃ cells : List Value, e = .returned (.tuple #[.agg cells.toArray, .bool false]) ∧ cells.length = 10 ∧ (∀ v ∈ cells, v.oneCell' = true) ∧ Fr Nob w w' := by
 have HP := qH hp
 have HT := qH ht
 have HS := qH hs
 have HR := qH (show eM [pub] = true by rw [kX]; exact hq)
 have hcs : 65 ≤ cs := by obtain ⟨a', n', c', he, hc, -⟩ := hs; cases he; exact hc
 have HSF := qH (nI hs 33 Ac)
 have HSZ := qH (qY hs 33 Ac)
 have k1 := fun wx => fF (P := prog) wx underlying22 eQ (some ⟨b, o, none⟩) 65 cs .i64 33 Ab
 have k2 := fun wx => iF (P := prog) wx underlying22 eQ (some ⟨b, o, none⟩) 65 cs .i64 33 Ab
 have hcI : (33 : Int) ≤ (cs : Int) := by omega
 have hcN : ¬ (cs = 33) := by omega
 have HO := qH ho
 clear hp ht hs hq ho hcs
 have st0 := St.start Nob w
 go_enter func60, ntmps60
 go_wp2_with (with_reducible refine AA 6 ?_)
 refine aA st0 rfl rfl g0E (sgC (.slice none 0 0) (.slice none 0 0) 0 0) rfl ?_
 intro g6 w1 st1
 clear st0
 go_wp2_with (with_reducible refine AA 9 ?_)
 refine dH rfl rfl underlying39 dV [.slice ap np cp] rfl Au rfl rfl ?_
 intro w2 hh2 hf2 hz2
 have st2 := st1.keep hf2
 have HSL := qH hh2
 clear hh2 hf2 hz2 st1
 generalize w1.heap.size = gl9 at *
 go_wp2_with fail
 refine (qB _ 1 1 [.slice ap np cp] [pub] _ (Rd.whole HSL.out) (BParts.one (jT (HP.out.still st2.fr))) Ac).mono ?_
 rintro e' w3 ⟨rfl, hf3⟩
 have st3 := st2.keep hf3
 clear st2 hf3
 clear HSL
 rw [HR.out]
 go_wp2_with fail
 refine (rM _ (s.take 33) _ (jT (HSF.out.still st3.fr)) HO.out).mono ?_
 rintro e' w4 ⟨rfl, hf4⟩
 have st4 := st3.keep hf4
 clear st3 hf4
 go_wp2_with (with_reducible refine AA 23 ?_)
 refine aM st4 0 rfl rfl rfl underlying85 rfl rfl (jS _ _ _ _) ?_
 go_wp2_with (with_reducible refine AB ?_)
 refine aB st4 0 rfl rfl rfl rfl rfl Bt (jS _ _ _ _) (kG _ _ _ _ _ _ _ _) ?_
 intro w5 st5
 clear st4
 have hr := st5.at 0 rfl
 have hfr := st5.fr
 clear st5
 go_wp2_with fail
 exact bodyPost_ret (bF rfl rfl hr underlying85 rfl (jS _ _ _ _) rfl) rfl ⟨_, rfl, fH _ _ _ _, kG _ _ _ _ _ _ _ _, hfr⟩
theorem _root_.Bk {p : Prop} (h : p := by unfold sgC; rfl) : p := h
theorem r0J (ap : Option Addr) (np cp : Nat) (pub : List UInt8) (at_ : Option Addr) (nt ct : Nat) (text : List UInt8) (b o cs : Nat) (s : List UInt8) (w : World) (hp : PartIs w (.slice ap np cp) pub) (ht : PartIs w (.slice at_ nt ct) text) (hs : PartIs w (.slice (some ⟨b, o, none⟩) 65 cs) s) (hq : dS pub = true) (ho : dM (s.take 33) = true) (hn : cL mQ (s.drop 33) = false) : Calls prog 60 #[.slice ap np cp, .slice at_ nt ct, .slice (some ⟨b, o, none⟩) 65 cs] w fun e w' => ∃ cells : List Value, e = .returned (.tuple #[.agg cells.toArray, .bool false]) ∧ cells.length = 10 ∧ (∀ v ∈ cells, v.oneCell' = true) ∧ Fr Nob w w' := by
 have HP := qH hp
 have HT := qH ht
 have HS := qH hs
 have HR := qH (show eM [pub] = true by rw [kX]; exact hq)
 have hcs : 65 ≤ cs := by obtain ⟨a', n', c', he, hc, -⟩ := hs; cases he; exact hc
 have HSF := qH (nI hs 33 Ac)
 have HSZ := qH (qY hs 33 Ac)
 have k1 := fun wx => fF (P := prog) wx underlying22 eQ (some ⟨b, o, none⟩) 65 cs .i64 33 Ab
 have k2 := fun wx => iF (P := prog) wx underlying22 eQ (some ⟨b, o, none⟩) 65 cs .i64 33 Ab
 have hcI : (33 : Int) ≤ (cs : Int) := by omega
 have hcN : ¬ (cs = 33) := by omega
 have HO := qH ho
 have HN := qH hn
 clear hp ht hs hq ho hn hcs
 have st0 := St.start Nob w
 go_enter func60, ntmps60
 go_wp2_with (with_reducible refine AA 6 ?_)
 refine aA st0 rfl rfl g0E (sgC (.slice none 0 0) (.slice none 0 0) 0 0) rfl ?_
 intro g6 w1 st1
 clear st0
 go_wp2_with (with_reducible refine AA 9 ?_)
 refine dH rfl rfl underlying39 dV [.slice ap np cp] rfl Au rfl rfl ?_
 intro w2 hh2 hf2 hz2
 have st2 := st1.keep hf2
 have HSL := qH hh2
 clear hh2 hf2 hz2 st1
 generalize w1.heap.size = gl9 at *
 go_wp2_with fail
 refine (qB _ 1 1 [.slice ap np cp] [pub] _ (Rd.whole HSL.out) (BParts.one (jT (HP.out.still st2.fr))) Ac).mono ?_
 rintro e' w3 ⟨rfl, hf3⟩
 have st3 := st2.keep hf3
 clear st2 hf3
 clear HSL
 rw [HR.out]
 go_wp2_with fail
 refine (oC _ (s.take 33) _ (jT (HSF.out.still st3.fr)) HO.out).mono ?_
 rintro e' w4 ⟨rfl, hf4⟩
 have st4 := st3.keep hf4
 clear st3 hf4
 have hz0 := (st4.at 0 rfl).free 0 (by rw [fH]; decide)
 have hz1 := (st4.at 0 rfl).free 1 (by rw [fH]; decide)
 have hd0 := (st4.at 0 rfl).cell (i := 0) (v := .slice none 0 0) Bk
 have hd1 := (st4.at 0 rfl).cell (i := 1) (v := .slice none 0 0) Bk
 go_wp2_with fail
 go_region
 all_goals
  clear hz0 hz1 hd0 hd1
  go_wp2_with fail
  first
   | (have stn := j0O st4 (.slice ap np cp) (.slice (some ⟨b, o, none⟩) 33 cs); refine (q0I mQ .one _ _ _ (s.drop 33) _ (lR (HSZ.out.still stn.fr)) HN.out).mono ?_)
   | (have stn := j0P st4 (.slice ap np cp) (.slice (some ⟨b, o, none⟩) 33 cs); refine (q0I mQ .one _ _ _ (s.drop 33) _ (lR (HSZ.out.still stn.fr)) HN.out).mono ?_)
  all_goals clear st4
  rintro e' w5 ⟨rfl, hf5⟩
  have st5 := stn.keep hf5
  clear stn hf5
  go_wp2_with (with_reducible refine AB ?_)
  refine iE (cs := cw 4 0) rfl rfl rfl rfl (st5.at 0 rfl) (by rw [aT, fH]; decide) (jQ _) (aF _ _) ?_
  intro w6 hg6 hf6 hz6
  rw [n0q] at hg6
  have st6 := st5.put 0 rfl hf6 hg6
  clear st5 hf6 hg6 hz6
  go_wp2_with (with_reducible refine AA 43 ?_)
  refine aM st6 0 rfl rfl rfl underlying85 rfl rfl (jS _ _ _ _) ?_
  go_wp2_with (with_reducible refine AB ?_)
  refine aB st6 0 rfl rfl rfl rfl rfl Bt (jS _ _ _ _) (kG _ _ _ _ _ _ _ _) ?_
  intro w7 st7
  clear st6
  have hr := st7.at 0 rfl
  have hfr := st7.fr
  clear st7
  go_wp2_with fail
  exact bodyPost_ret (bF rfl rfl hr underlying85 rfl (jS _ _ _ _) rfl) rfl ⟨_, rfl, fH _ _ _ _, kG _ _ _ _ _ _ _ _, hfr⟩
theorem r0K (ap : Option Addr) (np cp : Nat) (pub : List UInt8) (at_ : Option Addr) (nt ct : Nat) (text : List UInt8) (b o cs : Nat) (s : List UInt8) (w : World) (hp : PartIs w (.slice ap np cp) pub) (ht : PartIs w (.slice at_ nt ct) text) (hs : PartIs w (.slice (some ⟨b, o, none⟩) 65 cs) s) (hq : dS pub = true) (ho : dM (s.take 33) = true) (hn : cL mQ (s.drop 33) = true) : Calls prog 60 #[.slice ap np cp, .slice at_ nt ct, .slice (some ⟨b, o, none⟩) 65 cs] w fun e w' => e = .returned (.tuple #[.agg (sgC (.slice ap np cp) (.slice (some ⟨b, o, none⟩) 33 cs) (elN mQ (cU pub (s.take 33) text)) (elN mQ (beN (s.drop 33)))).toArray, .bool true]) ∧ Fr Nob w w' := by
 have HP := qH hp
 have HT := qH ht
 have HS := qH hs
 have HR := qH (show eM [pub] = true by rw [kX]; exact hq)
 have hcs : 65 ≤ cs := by obtain ⟨a', n', c', he, hc, -⟩ := hs; cases he; exact hc
 have HSF := qH (nI hs 33 Ac)
 have HSZ := qH (qY hs 33 Ac)
 have k1 := fun wx => fF (P := prog) wx underlying22 eQ (some ⟨b, o, none⟩) 65 cs .i64 33 Ab
 have k2 := fun wx => iF (P := prog) wx underlying22 eQ (some ⟨b, o, none⟩) 65 cs .i64 33 Ab
 have hcI : (33 : Int) ≤ (cs : Int) := by omega
 have hcN : ¬ (cs = 33) := by omega
 have HO := qH ho
 have HN := qH hn
 clear hp ht hs hq ho hn hcs
 have st0 := St.start Nob w
 go_enter func60, ntmps60
 go_wp2_with (with_reducible refine AA 6 ?_)
 refine aA st0 rfl rfl g0E (sgC (.slice none 0 0) (.slice none 0 0) 0 0) rfl ?_
 intro g6 w1 st1
 clear st0
 go_wp2_with (with_reducible refine AA 9 ?_)
 refine dH rfl rfl underlying39 dV [.slice ap np cp] rfl Au rfl rfl ?_
 intro w2 hh2 hf2 hz2
 have st2 := st1.keep hf2
 have HSL := qH hh2
 clear hh2 hf2 hz2 st1
 generalize w1.heap.size = gl9 at *
 go_wp2_with fail
 refine (qB _ 1 1 [.slice ap np cp] [pub] _ (Rd.whole HSL.out) (BParts.one (jT (HP.out.still st2.fr))) Ac).mono ?_
 rintro e' w3 ⟨rfl, hf3⟩
 have st3 := st2.keep hf3
 clear st2 hf3
 clear HSL
 rw [HR.out]
 go_wp2_with fail
 refine (oC _ (s.take 33) _ (jT (HSF.out.still st3.fr)) HO.out).mono ?_
 rintro e' w4 ⟨rfl, hf4⟩
 have st4 := st3.keep hf4
 clear st3 hf4
 have hz0 := (st4.at 0 rfl).free 0 (by rw [fH]; decide)
 have hz1 := (st4.at 0 rfl).free 1 (by rw [fH]; decide)
 have hd0 := (st4.at 0 rfl).cell (i := 0) (v := .slice none 0 0) Bk
 have hd1 := (st4.at 0 rfl).cell (i := 1) (v := .slice none 0 0) Bk
 go_wp2_with fail
 go_region
 all_goals
  clear hz0 hz1 hd0 hd1
  go_wp2_with fail
  first
   | (have stn := j0O st4 (.slice ap np cp) (.slice (some ⟨b, o, none⟩) 33 cs); refine (o0t mQ .one _ _ _ (s.drop 33) _ (lR (HSZ.out.still stn.fr)) HN.out).mono ?_)
   | (have stn := j0P st4 (.slice ap np cp) (.slice (some ⟨b, o, none⟩) 33 cs); refine (o0t mQ .one _ _ _ (s.drop 33) _ (lR (HSZ.out.still stn.fr)) HN.out).mono ?_)
  all_goals clear st4
  rintro e' w5 ⟨rfl, hf5⟩
  have st5 := stn.keep hf5
  clear stn hf5
  go_wp2_with (with_reducible refine AB ?_)
  refine iE (cs := cw 4 (elN mQ (beN (s.drop 33)))) rfl rfl rfl rfl (st5.at 0 rfl) (by rw [aT, fH]; decide) (jQ _) (aF _ _) ?_
  intro w6 hg6 hf6 hz6
  rw [n0q] at hg6
  have st6 := st5.put 0 rfl hf6 hg6
  clear st5 hf6 hg6 hz6
  have hc1 := (st6.at 0 rfl).cell (i := 1) (v := .slice (some ⟨b, o, none⟩) 33 cs) Bk
  go_wp2_with fail
  refine (j0i (.slice ap np cp) pub (.slice (some ⟨b, o, none⟩) 33 cs) (s.take 33) (.slice at_ nt ct) text _ (HP.out.still st6.fr) (HSF.out.still st6.fr) (HT.out.still st6.fr)).mono ?_
  rintro e' w7 ⟨rfl, hf7⟩
  have st7 := st6.keep hf7
  clear st6 hf7 hc1
  go_wp2_with (with_reducible refine AB ?_)
  refine iE (cs := cw 4 (elN mQ (cU pub (s.take 33) text))) rfl rfl rfl rfl (st7.at 0 rfl) (by first | (simp [aT]; done) | (simp [fH]; done) | (simp [aT, fH]; done) | simp [aT, fH]) (jQ _) (aF _ _) ?_
  intro w8 hg8 hf8 hz8
  rw [r0F] at hg8
  have st8 := st7.put 0 rfl hf8 hg8
  clear st7 hf8 hg8 hz8
  go_wp2_with (with_reducible refine AA 43 ?_)
  refine aM st8 0 rfl rfl rfl underlying85 rfl rfl (jS _ _ _ _) ?_
  go_wp2_with (with_reducible refine AB ?_)
  refine aB st8 0 rfl rfl rfl rfl rfl Bt (jS _ _ _ _) (kG _ _ _ _ _ _ _ _) ?_
  intro w9 st9
  clear st8
  have hr := st9.at 0 rfl
  have hfr := st9.fr
  clear st9
  go_wp2_with fail
  exact bodyPost_ret (bF rfl rfl hr underlying85 rfl (jS _ _ _ _) rfl) rfl ⟨rfl, hfr⟩
end
section
open Go.RowKit Go.Mv Mvp Mvq
def r0L : List UInt8 := [112, 111, 105, 110, 116, 32]
def hB (label b : List UInt8) (i : Nat) : List UInt8 := dX (r0L ++ label) [b, [UInt8.ofNat i]]
def hN (label b : List UInt8) (i : Nat) : Nat := beN (hB label b i)
theorem t0G {n : Nat} (h : dW mP.M (lN n) = true) : onC (.A (kc n) (kc (atY mP.M n))) := by
 rw [t0n n h]
 rw [iX] at h
 exact r0c h
open Classical in
noncomputable def wH (label b : List UInt8) (i : Nat) : Option PT := if h : hN label b i < mP.M ∧ dW mP.M (lN (hN label b i)) = true then some (i0I (hN label b i) (atY mP.M (hN label b i)) (t0G h.2)) else none
noncomputable def wI (label b : List UInt8) (k : Nat) : List PT := (List.range k).filterMap (wH label b)
noncomputable def c0h (label b : List UInt8) : PT := ((wI label b 256).head?).getD zX
theorem jE {w : World} {g : Nat} {L : List Value} {T : TypeId} (hg : Has w g L T) {o : Oper} {a : Act} {ty : TypeId} {x : Operand} (ho : o.op = .load ty x) {p : Nat} (hx : a.eval x = .pointer (some ⟨g, p, none⟩)) (cs : List Value) (hc : (L.drop p).take cs.length = cs)
  {d : TypeDesc} (hu : prog.underlying ty = some d) (hd : d.isRow = true) (hi : (prog.info? ty).map (·.size) = some cs.length) : (execOp a.eval o).run prog w = .ok (.value (.agg cs.toArray)) w := by
 unfold execOp
 simp only [ho, hx, Instr.loadAt, Instr.sureAddr, Sem.run_bind, Sem.run_pure, Result.andThen_ok, run_loadVar_mid w g p ty cs d (hg.range p cs hc) hu hd hi]
end
section
open Go.RowKit Go.Mv Mvp Mvq
theorem f0m : ∀ (xs : List Nat) (lp : List (List UInt8)), (∀ l ∈ lp, dM l = true) → kA (List.zipWith (fun x l => (x % mQ.M, fD l)) xs lp) = kA (List.zipWith (fun x l => (x, fD l)) xs lp)
 | [], _, _ => rfl
 | _ :: _, [], _ => rfl
 | x :: xs, l :: lp, h => by
  simp only [List.zipWith_cons_cons, kA]
  rw [f0m xs lp fun k hk => h k (List.mem_cons_of_mem _ hk), d0E, lQ (qU (h l List.mem_cons_self))]
theorem r0M (xs : List Nat) (lp : List (List UInt8)) (hl : xs.length = lp.length) (h5 : xs.length ≤ 512) (hr : ∀ l ∈ lp, dM l = true) : rO (zB xs) lp = cK (kA (List.zipWith (fun x l => (x, fD l)) xs lp)) := by
 have hn : dE mQ (zB xs) = true := by
  unfold dE zB
  rw [List.all_eq_true]
  intro y hy
  obtain ⟨x, _, rfl⟩ := List.mem_map.1 hy
  exact a0n x
 have hr2 : gY lp = true := by unfold gY; rw [List.all_eq_true]; exact hr
 unfold rO
 rw [if_pos (by rw [f0i]; exact hl), if_pos (by rw [f0i]; exact h5), hn, hr2, if_pos rfl, if_pos rfl, ← f0m xs lp hr]
 congr 2
 apply List.ext_getElem (by simp [smL, hl])
 intro i h1 h2
 simp only [smL, List.length_map, List.length_range] at h1
 have h3 : i < xs.length := by omega
 simp [smL, zB, List.getD_eq_getElem?_getD, h1, h3, f0h]
open Classical in
theorem t0r {p : Pt} : ((((cK p).getD 0 0).toNat : Int) == 0) = decide (p = .O) := by
 cases p with
 | O => rw [decide_eq_true rfl, wrO]; rfl
 | A x y =>
  have h : (cK (.A x y)).getD 0 0 = UInt8.ofNat (2 + y.val % 2) := rfl
  have h2 : (UInt8.ofNat (2 + y.val % 2)).toNat = 2 + y.val % 2 := by rw [UInt8.toNat_ofNat']; omega
  rw [h, h2, decide_eq_false (by intro h; cases h)]
  simp
  omega
open Classical in
theorem n0r {pub text s : List UInt8} (h : rdG pub s = true) : veB pub text s = decide (bV (beN (s.drop 33)) gP = cE (fD (s.take 33)) (bV (cU pub (s.take 33) text) (fD pub))) := by
 unfold veB
 unfold rdG at h
 simp only [Bool.and_eq_true] at h
 rw [h.1, h.2.1, h.2.2.1, h.2.2.2]
 rfl
theorem s0W {pub text s : List UInt8} (h : rdG pub s = false) : veB pub text s = false := by
 unfold veB
 unfold rdG at h
 rw [Bool.and_assoc, Bool.and_assoc] at *
 have e : ∀ a b c d e : Bool, (a && (b && (c && d))) = false → (a && (b && (c && (d && e)))) = false := by decide
 simp only [Bool.and_assoc] at *
 exact e _ _ _ _ _ h
theorem j0Q {l : List UInt8} (h : dS l = true) : dM l = true := by unfold dS at h; rw [Bool.and_eq_true] at h; exact h.1
theorem qD {w : World} {a : Option Addr} {n c : Nat} {b : List UInt8} (hb : PartIs w (.slice a n c) b) : b.length = n := (lR hb).len
theorem r0N (x : Nat) : (i4 x).cells.size = 4 := by simp [i4, Value.cells, aT]
attribute [local irreducible] bI lw mix cw cT dG cS bQ aO beN dO cI dI bM bT elN mdL cL rtV dW cK dM fD dE gY xV rO bV cO dD toB aW bG cR eD bH eU cA bD dX fZ cM oD sgF sgZ cU chN dS eM tS sgC rdG kA
theorem p0H (ap : Option Addr) (np cp : Nat) (pub : List UInt8) (at_ : Option Addr) (nt ct : Nat) (text : List UInt8) (as_ : Option Addr) (ns cs : Nat) (s : List UInt8) (w : World) (hp : PartIs w (.slice ap np cp) pub) (ht : PartIs w (.slice at_ nt ct) text) (hs : PartIs w (.slice as_ ns cs) s) (h : rdG pub s = false) : Calls prog 60 #[.slice ap np cp, .slice at_ nt ct, .slice as_ ns cs] w fun e w' => ∃ cells : List Value, e = .returned (.tuple #[.agg cells.toArray, .bool false]) ∧ cells.length = 10 ∧ (∀ v ∈ cells, v.oneCell' = true) ∧ Fr Nob w w' := by
 have hl := qD hs
 unfold rdG at h
 cases h1 : dS pub with
 | false => exact r0G ap np cp pub at_ nt ct text as_ ns cs s w hp ht hs h1
 | true =>
  by_cases h2 : ns = 65
  ·subst h2
   obtain ⟨b, o, rfl, -⟩ := (lR hs).at Ac
   rw [h1, decide_eq_true hl, Bool.true_and, Bool.true_and] at h
   cases h3 : dM (s.take 33) with
   | false => exact r0I ap np cp pub at_ nt ct text b o cs s w hp ht hs h1 h3
   | true =>
    rw [h3, Bool.true_and] at h
    exact r0J ap np cp pub at_ nt ct text b o cs s w hp ht hs h1 h3 h
  ·exact r0H ap np cp pub at_ nt ct text as_ ns cs s w hp ht hs h1 h2
theorem m0t (ap : Option Addr) (np cp : Nat) (pub : List UInt8) (at_ : Option Addr) (nt ct : Nat) (text : List UInt8) (as_ : Option Addr) (ns cs : Nat) (s : List UInt8) (w : World) (hp : PartIs w (.slice ap np cp) pub) (ht : PartIs w (.slice at_ nt ct) text) (hs : PartIs w (.slice as_ ns cs) s) (h : rdG pub s = true) : Calls prog 60 #[.slice ap np cp, .slice at_ nt ct, .slice as_ ns cs] w fun e w' => ∃ b o, as_ = some ⟨b, o, none⟩ ∧ e = .returned (.tuple #[.agg (sgC (.slice ap np cp) (.slice (some ⟨b, o, none⟩) 33 cs) (elN mQ (cU pub (s.take 33) text)) (elN mQ (beN (s.drop 33)))).toArray, .bool true]) ∧ Fr Nob w w' := by
 have hl := qD hs
 unfold rdG at h
 simp only [Bool.and_eq_true, decide_eq_true_eq] at h
 obtain rfl : ns = 65 := by omega
 obtain ⟨b, o, rfl, -⟩ := (lR hs).at Ac
 exact (r0K ap np cp pub at_ nt ct text b o cs s w hp ht hs h.1 h.2.2.1 h.2.2.2).mono fun e w' k => ⟨b, o, rfl, k⟩
theorem BParts.three {w : World} {v1 v2 v3 : Value} {l1 l2 l3 : List UInt8} (h1 : BPart w v1 l1) (h2 : BPart w v2 l2) (h3 : BPart w v3 l3) : BParts w [v1, v2, v3] [l1, l2, l3] := ⟨rfl, fun i x hx => by
 match i with
 | 0 => simp at hx; subst hx; exact h1
 | 1 => simp at hx; subst hx; exact h2
 | 2 => simp at hx; subst hx; exact h3
 | i + 3 => simp at hx⟩
end
end Go.Proofs.YtemcankmggmgoaaGreat
