/- ; ; ; ; ; ; ; ; ; . -/
import Derived.Test.YtemcankmggmgoaaGreatMgBlindHidesProof3
import Derived.Test.YtemcankmggmgoaaGreatMgBlindHidesProof2
import Derived.Test.YtemcankmggmgoaaGreatMgBlindHidesProof6
import Derived.Test.YtemcankmggmgoaaGreatMgBlindHidesProof4
import Derived.Test.YtemcankmggmgoaaGreatMgBlindHidesProof5
set_option maxHeartbeats 16000000
set_option maxRecDepth 1000000

namespace Mvp
theorem x0D (Q : Nat) (h : lw Q 0 + 1 < 18446744073709551616) : (a0G 4 Q).set 0 (lw Q 0 + 1) = a0G 4 (Q + 1) := by
 rw [v0C, v0C]
 have e0 : lw (Q + 1) 0 = lw Q 0 + 1 := by rw [o0Q] at h ⊢; rw [o0Q]; omega
 have e : (Q + 1) / 18446744073709551616 = Q / 18446744073709551616 := by rw [o0Q] at h; omega
 have ed : ∀ i, lw (Q + 1) (1 + i) = lw Q (1 + i) := by
  intro i
  rw [← c0j, ← c0j, Nat.pow_one, show B64 = 18446744073709551616 from rfl, e]
 have e1 := ed 0
 have e2 := ed 1
 have e3 := ed 2
 simp only [Nat.add_zero] at e1
 rw [e0, e1, show (2 : Nat) = 1 + 1 from rfl, show (3 : Nat) = 1 + 2 from rfl, e2, e3]
 rfl
theorem f0c (p : Nat) (h : p < B64 ^ 4) : p / 4 % 2 ^ 254 = p / 4 := Nat.mod_eq_of_lt (by
 rw [show B64 ^ 4 = 2 ^ 254 * 4 from rfl] at h
 generalize 2 ^ 254 = z at *
 omega)
end Mvp
namespace Go.Proofs.YtemcankmggmgoaaGreat
section
open Go.RowKit Go.Mv Mvp
theorem j0V (q b k q' : Nat) (hb : b < 2) (hs : (a0G 4 q).set (k / 64) (lw q (k / 64) ||| b * 2 ^ (k % 64)) = a0G 4 q') :
  (cw 4 q).set (k / 64) (.int .u64 (bits .or .u64 (lw q (k / 64) : Nat) (IntKind.u64.wrap ((b : Int) * 2 ^ (k % 64))))) = cw 4 q' := by
 have h1 : b * 2 ^ (k % 64) < 18446744073709551616 := by
  have h2 : 2 ^ (k % 64) ≤ 2 ^ 63 := Nat.pow_le_pow_right (by decide) (by omega)
  have h3 := Nat.mul_le_mul_right (2 ^ (k % 64)) (show b ≤ 1 by omega)
  rw [Nat.one_mul] at h3
  have h4 : (2 : Nat) ^ 63 = 9223372036854775808 := by decide
  rw [h4] at h2
  generalize 2 ^ (k % 64) = z at *
  generalize b * z = y at *
  omega
 have h := bits_or_u64_nat (lw q (k / 64)) (b * 2 ^ (k % 64)) (c0v _ _) h1
 have hw : IntKind.u64.wrap ((b : Int) * 2 ^ (k % 64)) = ((b * 2 ^ (k % 64) : Nat) : Int) := by
  rw [show ((b : Int) * 2 ^ (k % 64)) = ((b * 2 ^ (k % 64) : Nat) : Int) by rw [Int.natCast_mul, Int.natCast_pow]; rfl, IntKind.wrap_u64]
  exact congrArg Int.ofNat (Nat.mod_eq_of_lt h1)
 rw [hw, h, cw, k0B, hs, cw]
theorem h0N (Q : Nat) (h : lw Q 0 + 1 < 18446744073709551616) : (cw 4 Q).set 0 (.int .u64 ((lw Q 0 : Int) + 1)) = cw 4 (Q + 1) := by
 show (us (a0G 4 Q)).set 0 (.int .u64 ((lw Q 0 + 1 : Nat) : Int)) = us (a0G 4 (Q + 1))
 rw [k0B, x0D Q h]
theorem m0K (x y : Nat) (hx : x < B64 ^ 4) (hy : y < B64 ^ 4) (ty : TypeId) (hu : Tryz.prog.underlying ty = some (.array 4 58)) (hg : Tryz.prog.eqGuardType Tryz.prog.depth ty = false) {o : Oper} {a : Act} {w : World} {K : Act → World → Prop} {Q : Exit → Act → World → Prop} {p q : Operand} {T : TypeId}
  (ho : o.op = .binOp .neq ty p q T) (hp : a.eval p = i4 x) (hq : a.eval q = .agg (cw 4 y).toArray) {b : Bool} (hb : decide (x = y) = b) (hk : K (a.put o.dst (.bool !b)) w) : o.wp Tryz.prog a w K Q := by
 have h1 := n0R x y ty hg p q w
 have h2 : (binOp .neq ty (i4 x) (.agg (cw 4 y).toArray)).run Tryz.prog w = .ok (.bool !b) w := by
  show (do pure (Value.bool (!(← Op.equal ty (.agg (cw 4 x).toArray) (.agg (cw 4 y).toArray))))).run Tryz.prog w = _
  simp only [Sem.run_bind, j0A hu Tryz.underlying58 c0D x y w, Result.andThen_ok]
  rw [Nat.mod_eq_of_lt hx, Nat.mod_eq_of_lt hy, hb]
  rfl
 unfold Oper.wp execOp
 simp only [ho, hp, hq, Sem.run_bind, h1, h2, Result.andThen_ok, Sem.run_pure]
 exact hk
attribute [local irreducible] a0G lw mix cw b0q b0y b0p a0K a0r beN b0F a0U b0D
theorem u0v (p a n R : Nat) (w : World) (hp0 : 0 < p) (hp : p < B64 ^ 4) (hn : p / 4 + 1 = n) (hn4 : n < B64 ^ 4) (ha : a < B64 ^ 4) (hlow : lw (p / 4) 0 + 1 < 18446744073709551616) (hR : R < p) (hpow : ∀ wx, Calls Tryz.prog 167 #[fv p, i4 a, i4 n] wx fun e w' => e = .returned (i4 R) ∧ Fr Nob wx w') (hb : decide (R * R % p = a) = false) :
  Calls Tryz.prog 186 #[fv p, i4 a] w fun e w' => e = .returned (.tuple #[i4 0, .bool false]) ∧ Fr Nob w w' := by
 have HP0 := qH hp0
 have HP := qH hp
 have HN4 := qH hn4
 have HA := qH ha
 have HLOW := qH hlow
 have HPOW := qH hpow
 have HB := qH hb
 have HR4 := qH (Nat.lt_trans hR hp)
 have HRP := qH (Nat.le_of_lt hR)
 have HRR := qH (show R * R % p < B64 ^ 4 from Nat.lt_trans (Nat.mod_lt _ hp0) hp)
 have hlc := h0N (p / 4) hlow
 rw [hn] at hlc
 have HLC := qH hlc
 have HNE := qH hn
 clear hp0 hp hn4 ha hlow hpow hb hR hlc hn 
 have st0 := St.start Nob w
 go_enter Tryz.func186, Tryz.ntmps186
 go_wp2_with (with_reducible refine wSk 2 ?_)
 refine a0m st0 rfl rfl rfl (cw 4 p ++ cw 4 (B64 ^ 4 - p)) rfl ?_
 intro g2 w1 st1
 clear st0
 go_wp2_with (with_reducible refine wSk 3 ?_)
 refine a0m st1 rfl rfl rfl (cw 4 a) rfl ?_
 intro g3 w2 st2
 clear st1
 go_wp2_with (with_reducible refine wSk 4 ?_)
 refine a0c st2 rfl rfl (z := zAd) (by kernel_rfl) (cw 4 0) (by rw [a0g]; rfl) ?_
 intro g4 w3 st3
 clear st2
 go_wp2_with (with_reducible refine wSk 6 ?_)
 refine a0c st3 rfl rfl (z := zAd) (by kernel_rfl) (cw 4 0) (by rw [a0g]; rfl) ?_
 intro g6 w4 st4
 clear st3
 go_wp2
 go_loopw [7] (fun i wr => ∃ k : Nat, k ≤ 254 ∧ i = .int .i64 (k : Int) ∧ St Nob w wr [(g2, cw 4 p ++ cw 4 (B64 ^ 4 - p), 78), (g3, cw 4 a, 60), (g4, cw 4 0, 60), (g6, cw 4 (p / 4 % 2 ^ k), 60)]) (fun i _ => 254 - (intOf i).toNat)
 case atStart => exact ⟨0, by omega, rfl, by rw [Nat.pow_zero, Nat.mod_one]; exact st4⟩
 case round =>
  obtain ⟨k, hk, rfl, st⟩ := hrel
  clear st4
  by_cases hlt : k < 254
  ·have hltI : (k : Int) < 254 := by omega
   have hstep := j0z 4 (p / 4 % 2 ^ k) k (p / 2 ^ (k + 2) % 2) (Nat.mod_lt _ (Nat.pow_pos (by decide))) (Nat.mod_lt _ (by decide)) (by omega)
   rw [← e0t] at hstep
   have hbit := fun wx => f0v p (k + 2) wx (by omega)
   have hb2 : p / 2 ^ (k + 2) % 2 < 2 := Nat.mod_lt _ (by decide)
   generalize p / 2 ^ (k + 2) % 2 = b at *
   generalize hq' : p / 4 % 2 ^ (k + 1) = q' at *
   have HQ := qH hq'
   clear hq'
   generalize p / 4 % 2 ^ k = q at *
   have HCELL := qH (j0V q b k q' hb2 hstep)
   have HBIT := qH hbit
   clear hstep hbit hb2
   have hlo : (0 : Int) ≤ (k : Int) / 64 ∧ (k : Int) / 64 < 4 := by omega
   have hlo2 : (0 : Int) ≤ (k : Int) % 64 ∧ (k : Int) % 64 < 64 := by omega
   have e1 : IntKind.i64.wrap ((k : Int) / 64) = (k : Int) / 64 := IntWalk.i64_in _ (by omega)
   have e2 : (k : Int).tmod 64 = (k : Int) % 64 := Int.tmod_eq_emod_of_nonneg (by omega)
   have e3 : IntKind.i64.wrap ((k : Int) + 2) = (k : Int) + 2 := IntWalk.i64_in _ (by omega)
   have e4 : ((k : Int) / 64).toNat = k / 64 := by omega
   have e5 : ((k : Int) % 64).toNat = k % 64 := by omega
   go_wp2_with fail
   refine wp_region_noPanic ?_
   refine a0p (fun wx => St Nob w wx [(g2, cw 4 p ++ cw 4 (B64 ^ 4 - p), 78), (g3, cw 4 a, 60), (g4, cw 4 0, 60), (g6, cw 4 q, 60)]) 16 (.w 0 (.w 1 (.w 2 (.w 3 (.w 4 (.t 5 (.w 6 (.t 7 (.w 8 (.w 9 (.w 11 (.w 12 (.r 10 (.w 13 (.w 14 (.w 15 (.m 16 .nil))))))))))))))))) (by kernel_rfl) (by kernel_rfl) st.drew (fun _ _ _ _ _ h => h) ?_
   have hd4 := st.drew
   clear st
   refine a0l (v := ?_) rfl rfl (fun wx => ?_) ?_
   rotate_left 1
   ·(go_simp; with_reducible rfl)
   try simp only [clL]
   refine a0l (v := ?_) rfl rfl (fun wx => ?_) ?_
   rotate_left 1
   ·(go_simp; with_reducible rfl)
   try simp only [clL]
   refine a0l (v := ?_) rfl rfl (fun wx => ?_) ?_
   rotate_left 1
   ·(go_simp; with_reducible rfl)
   try simp only [clL]
   refine a0l (v := ?_) rfl rfl (fun wx => ?_) ?_
   rotate_left 1
   ·(go_simp; with_reducible rfl)
   try simp only [clL]
   refine a0l (v := ?_) rfl rfl (fun wx => ?_) ?_
   rotate_left 1
   ·(go_simp; with_reducible rfl)
   try simp only [clL]
   refine d0i (v := ?_) rfl rfl (fun wx hS => ?_) ?_
   rotate_left 1
   ·(have hc := (St.at hS 3 rfl).cell (a0B 4 q (k / 64) (by omega)); clear hS; go_simp; with_reducible rfl)
   try simp only [clL]
   refine a0l (v := ?_) rfl rfl (fun wx => ?_) ?_
   rotate_left 1
   ·(go_simp; with_reducible rfl)
   try simp only [clL]
   refine a0s rfl rfl rfl rfl (cw 4 p) (fun wx hS => St.rangeL hS 0 rfl 0 _ (e0Z 4 4 _ _)) Tryz.underlying60 rfl (by first | (rw [a0a]; kernel_rfl) | (simp only [List.length_append, a0a]; kernel_rfl)) ?_
   try simp only [clL]
   refine a0l (v := ?_) rfl rfl (fun wx => ?_) ?_
   rotate_left 1
   ·(go_simp; with_reducible rfl)
   try simp only [clL]
   refine a0l (v := ?_) rfl rfl (fun wx => ?_) ?_
   rotate_left 1
   ·(go_simp; with_reducible rfl)
   try simp only [clL]
   refine a0l (v := ?_) rfl rfl (fun wx => ?_) ?_
   rotate_left 1
   ·(go_simp; with_reducible rfl)
   try simp only [clL]
   refine a0l (v := ?_) rfl rfl (fun wx => ?_) ?_
   rotate_left 1
   ·(go_simp; with_reducible rfl)
   try simp only [clL]
   refine a0A rfl rfl ?_
   go_simp
   refine (HBIT.out _).mono ?_
   rintro e' w5 ⟨rfl, hf5⟩
   have st5 := hd4.keep hf5
   clear hf5
   clear hd4
   refine ⟨st5, ?_⟩
   try simp only [clL]
   refine a0l (v := ?_) rfl rfl (fun wx => ?_) ?_
   rotate_left 1
   ·(go_simp; with_reducible rfl)
   try simp only [clL]
   refine a0l (v := ?_) rfl rfl (fun wx => ?_) ?_
   rotate_left 1
   ·(go_simp; with_reducible rfl)
   try simp only [clL]
   refine a0l (v := ?_) rfl rfl (fun wx => ?_) ?_
   rotate_left 1
   ·(go_simp; with_reducible rfl)
   try simp only [clL]
   refine a0o rfl rfl ?_
   have f1 := (st5.at 3 rfl).free (k / 64) (by rw [a0a]; omega)
   have c1 := (st5.at 3 rfl).cell (a0B 4 q (k / 64) (by omega))
   go_simp
   have st6 := st5.set 3 rfl (k / 64) (.int .u64 (bits .or .u64 (lw q (k / 64) : Nat) (IntKind.u64.wrap ((b : Int) * 2 ^ (k % 64)))))
   simp only [List.set_cons_zero, List.set_cons_succ] at st6
   rw [HCELL.out] at st6
   clear f1 c1 st5
   try simp only [clL]
   refine a0i ?_
   refine NoPanic.normal ?_
   go_wp2
   go_roundw
   case rel => exact ⟨k + 1, by omega, by go_num, by rw [HQ.out]; exact st6⟩
   case measure => simp [intOf]; omega
  ·have hge : ¬ ((k : Int) < 254) := by omega
   have hk2 : k = 254 := by omega
   rw [hk2, f0c p HP.out] at st
   clear hk2
   generalize p / 4 = Q at *
   have c1 := (st.at 3 rfl).cell (a0B 4 Q 0 (by decide))
   have f1 := (st.at 3 rfl).free 0 (by rw [a0a]; decide)
   have st9 := st.set 3 rfl 0 (.int .u64 ((lw Q 0 : Int) + 1))
   have hlow := HLOW.out
   have e1 : IntKind.u64.wrap ((lw Q 0 : Int) + 1) = (lw Q 0 : Int) + 1 := IntWalk.u64_in _ (by omega)
   clear st
   go_wp2_with (with_reducible refine wSk 33 ?_)
   simp only [List.set_cons_zero, List.set_cons_succ] at st9
   rw [HLC.out] at st9
   clear c1 f1 hlow e1
   refine a0q st9 0 rfl rfl rfl Tryz.underlying78 rfl rfl (by first | (rw [a0a]; kernel_rfl) | (simp only [List.length_append, a0a]; kernel_rfl)) ?_
   go_wp2_with (with_reducible refine wSk 34 ?_)
   refine a0k st9 1 rfl rfl rfl Tryz.underlying60 rfl (by first | (rw [a0a]; kernel_rfl) | (simp only [List.length_append, a0a]; kernel_rfl)) ?_
   go_wp2_with (with_reducible refine wSk 35 ?_)
   refine a0k st9 3 rfl rfl rfl Tryz.underlying60 rfl (by first | (rw [a0a]; kernel_rfl) | (simp only [List.length_append, a0a]; kernel_rfl)) ?_
   go_wp2_with fail
   refine (HPOW.out _).mono ?_
   rintro e' w10 ⟨rfl, hf10⟩
   have st10 := st9.keep hf10
   clear st9 hf10
   go_wp2_with (with_reducible refine wSk 8 ?_)
   refine a0c st10 rfl rfl (z := zAd) (by kernel_rfl) (cw 4 0) (by rw [a0g]; rfl) ?_
   intro g8 w11 st11
   clear st10
   go_wp2_with (with_reducible refine wSn ?_)
   refine a0d st11 4 rfl rfl rfl rfl rfl (by first | (simp only [a0a]; done) | (simp only [List.length_append, a0a]; done)) (by first | (rw [a0a]; kernel_rfl) | (simp only [List.length_append, a0a]; kernel_rfl)) (a0j _ _) ?_
   intro w12 st12
   clear st11
   go_wp2_with fail
   refine wp_region_noPanic ?_
   refine a0p (fun wx => St Nob w wx [(g2, cw 4 p ++ cw 4 (B64 ^ 4 - p), 78), (g3, cw 4 a, 60), (g4, cw 4 0, 60), (g6, cw 4 n, 60), (g8, cw 4 R, 60)]) 5 (.t 0 (.t 1 (.t 2 (.t 4 (.r 3 (.m 5 .nil)))))) (by kernel_rfl) (by kernel_rfl) st12.drew (fun _ _ _ _ _ h => h) ?_
   have hd12 := st12.drew
   clear st12
   refine a0s rfl rfl rfl rfl (cw 4 p ++ cw 4 (B64 ^ 4 - p)) (fun wx hS => St.rangeL hS 0 rfl 0 _ dZl) Tryz.underlying78 rfl (by first | (rw [a0a]; kernel_rfl) | (simp only [List.length_append, a0a]; kernel_rfl)) ?_
   try simp only [clL]
   refine a0s rfl rfl rfl rfl (cw 4 R) (fun wx hS => St.rangeL hS 4 rfl 0 _ dZl) Tryz.underlying60 rfl (by first | (rw [a0a]; kernel_rfl) | (simp only [List.length_append, a0a]; kernel_rfl)) ?_
   try simp only [clL]
   refine a0s rfl rfl rfl rfl (cw 4 R) (fun wx hS => St.rangeL hS 4 rfl 0 _ dZl) Tryz.underlying60 rfl (by first | (rw [a0a]; kernel_rfl) | (simp only [List.length_append, a0a]; kernel_rfl)) ?_
   try simp only [clL]
   refine a0s rfl rfl rfl rfl (cw 4 a) (fun wx hS => St.rangeL hS 1 rfl 0 _ dZl) Tryz.underlying60 rfl (by first | (rw [a0a]; kernel_rfl) | (simp only [List.length_append, a0a]; kernel_rfl)) ?_
   try simp only [clL]
   refine a0A rfl rfl ?_
   go_simp
   refine (g0b p R R _ HP0.out HP.out HR4.out HR4.out).mono ?_
   rintro e' w13 ⟨rfl, hf13⟩
   have st13 := hd12.keep hf13
   clear hf13
   clear hd12
   refine ⟨st13, ?_⟩
   try simp only [clL]
   refine a0o rfl rfl ?_
   refine m0K (R * R % p) a HRR.out HA.out 60 Tryz.underlying60 Tryz.eqGuardType60 rfl rfl rfl HB.out ?_
   try simp only [clL]
   refine a0i ?_
   refine NoPanic.normal ?_
   go_wp2_with (with_reducible refine wSn ?_)
   refine a0d st13 2 rfl rfl rfl rfl (cs := cw 4 0) (by rw [a0g]; rfl) (by first | (simp only [a0a]; done) | (simp only [List.length_append, a0a]; done)) (by first | (rw [a0a]; kernel_rfl) | (simp only [List.length_append, a0a]; kernel_rfl)) (a0j _ _) ?_
   intro w14 st14
   clear st13
   have hr := st14.at 2 rfl
   have hfr := st14.fr
   clear st14
   go_wp2_with fail
   exact bodyPost_ret (a0O rfl rfl hr Tryz.underlying60 (by first | (rw [a0a]; kernel_rfl) | (simp only [List.length_append, a0a]; kernel_rfl)) rfl) rfl ⟨rfl, hfr⟩
theorem p0u (p a n R : Nat) (w : World) (hp0 : 0 < p) (hp : p < B64 ^ 4) (hn : p / 4 + 1 = n) (hn4 : n < B64 ^ 4) (ha : a < B64 ^ 4) (hlow : lw (p / 4) 0 + 1 < 18446744073709551616) (hR : R < p) (hpow : ∀ wx, Calls Tryz.prog 167 #[fv p, i4 a, i4 n] wx fun e w' => e = .returned (i4 R) ∧ Fr Nob wx w') (hb : decide (R * R % p = a) = true) (hpar : R % 2 = 0) :
  Calls Tryz.prog 186 #[fv p, i4 a] w fun e w' => e = .returned (.tuple #[i4 R, .bool true]) ∧ Fr Nob w w' := by
 have HP0 := qH hp0
 have HP := qH hp
 have HN4 := qH hn4
 have HA := qH ha
 have HLOW := qH hlow
 have HPOW := qH hpow
 have HB := qH hb
 have HR4 := qH (Nat.lt_trans hR hp)
 have HRP := qH (Nat.le_of_lt hR)
 have HRR := qH (show R * R % p < B64 ^ 4 from Nat.lt_trans (Nat.mod_lt _ hp0) hp)
 have hlc := h0N (p / 4) hlow
 rw [hn] at hlc
 have HLC := qH hlc
 have HNE := qH hn
 have HPAR := qH hpar
 clear hp0 hp hn4 ha hlow hpow hb hR hlc hn hpar
 have st0 := St.start Nob w
 go_enter Tryz.func186, Tryz.ntmps186
 go_wp2_with (with_reducible refine wSk 2 ?_)
 refine a0m st0 rfl rfl rfl (cw 4 p ++ cw 4 (B64 ^ 4 - p)) rfl ?_
 intro g2 w1 st1
 clear st0
 go_wp2_with (with_reducible refine wSk 3 ?_)
 refine a0m st1 rfl rfl rfl (cw 4 a) rfl ?_
 intro g3 w2 st2
 clear st1
 go_wp2_with (with_reducible refine wSk 4 ?_)
 refine a0c st2 rfl rfl (z := zAd) (by kernel_rfl) (cw 4 0) (by rw [a0g]; rfl) ?_
 intro g4 w3 st3
 clear st2
 go_wp2_with (with_reducible refine wSk 6 ?_)
 refine a0c st3 rfl rfl (z := zAd) (by kernel_rfl) (cw 4 0) (by rw [a0g]; rfl) ?_
 intro g6 w4 st4
 clear st3
 go_wp2
 go_loopw [7] (fun i wr => ∃ k : Nat, k ≤ 254 ∧ i = .int .i64 (k : Int) ∧ St Nob w wr [(g2, cw 4 p ++ cw 4 (B64 ^ 4 - p), 78), (g3, cw 4 a, 60), (g4, cw 4 0, 60), (g6, cw 4 (p / 4 % 2 ^ k), 60)]) (fun i _ => 254 - (intOf i).toNat)
 case atStart => exact ⟨0, by omega, rfl, by rw [Nat.pow_zero, Nat.mod_one]; exact st4⟩
 case round =>
  obtain ⟨k, hk, rfl, st⟩ := hrel
  clear st4
  by_cases hlt : k < 254
  ·have hltI : (k : Int) < 254 := by omega
   have hstep := j0z 4 (p / 4 % 2 ^ k) k (p / 2 ^ (k + 2) % 2) (Nat.mod_lt _ (Nat.pow_pos (by decide))) (Nat.mod_lt _ (by decide)) (by omega)
   rw [← e0t] at hstep
   have hbit := fun wx => f0v p (k + 2) wx (by omega)
   have hb2 : p / 2 ^ (k + 2) % 2 < 2 := Nat.mod_lt _ (by decide)
   generalize p / 2 ^ (k + 2) % 2 = b at *
   generalize hq' : p / 4 % 2 ^ (k + 1) = q' at *
   have HQ := qH hq'
   clear hq'
   generalize p / 4 % 2 ^ k = q at *
   have HCELL := qH (j0V q b k q' hb2 hstep)
   have HBIT := qH hbit
   clear hstep hbit hb2
   have hlo : (0 : Int) ≤ (k : Int) / 64 ∧ (k : Int) / 64 < 4 := by omega
   have hlo2 : (0 : Int) ≤ (k : Int) % 64 ∧ (k : Int) % 64 < 64 := by omega
   have e1 : IntKind.i64.wrap ((k : Int) / 64) = (k : Int) / 64 := IntWalk.i64_in _ (by omega)
   have e2 : (k : Int).tmod 64 = (k : Int) % 64 := Int.tmod_eq_emod_of_nonneg (by omega)
   have e3 : IntKind.i64.wrap ((k : Int) + 2) = (k : Int) + 2 := IntWalk.i64_in _ (by omega)
   have e4 : ((k : Int) / 64).toNat = k / 64 := by omega
   have e5 : ((k : Int) % 64).toNat = k % 64 := by omega
   go_wp2_with fail
   refine wp_region_noPanic ?_
   refine a0p (fun wx => St Nob w wx [(g2, cw 4 p ++ cw 4 (B64 ^ 4 - p), 78), (g3, cw 4 a, 60), (g4, cw 4 0, 60), (g6, cw 4 q, 60)]) 16 (.w 0 (.w 1 (.w 2 (.w 3 (.w 4 (.t 5 (.w 6 (.t 7 (.w 8 (.w 9 (.w 11 (.w 12 (.r 10 (.w 13 (.w 14 (.w 15 (.m 16 .nil))))))))))))))))) (by kernel_rfl) (by kernel_rfl) st.drew (fun _ _ _ _ _ h => h) ?_
   have hd4 := st.drew
   clear st
   refine a0l (v := ?_) rfl rfl (fun wx => ?_) ?_
   rotate_left 1
   ·(go_simp; with_reducible rfl)
   try simp only [clL]
   refine a0l (v := ?_) rfl rfl (fun wx => ?_) ?_
   rotate_left 1
   ·(go_simp; with_reducible rfl)
   try simp only [clL]
   refine a0l (v := ?_) rfl rfl (fun wx => ?_) ?_
   rotate_left 1
   ·(go_simp; with_reducible rfl)
   try simp only [clL]
   refine a0l (v := ?_) rfl rfl (fun wx => ?_) ?_
   rotate_left 1
   ·(go_simp; with_reducible rfl)
   try simp only [clL]
   refine a0l (v := ?_) rfl rfl (fun wx => ?_) ?_
   rotate_left 1
   ·(go_simp; with_reducible rfl)
   try simp only [clL]
   refine d0i (v := ?_) rfl rfl (fun wx hS => ?_) ?_
   rotate_left 1
   ·(have hc := (St.at hS 3 rfl).cell (a0B 4 q (k / 64) (by omega)); clear hS; go_simp; with_reducible rfl)
   try simp only [clL]
   refine a0l (v := ?_) rfl rfl (fun wx => ?_) ?_
   rotate_left 1
   ·(go_simp; with_reducible rfl)
   try simp only [clL]
   refine a0s rfl rfl rfl rfl (cw 4 p) (fun wx hS => St.rangeL hS 0 rfl 0 _ (e0Z 4 4 _ _)) Tryz.underlying60 rfl (by first | (rw [a0a]; kernel_rfl) | (simp only [List.length_append, a0a]; kernel_rfl)) ?_
   try simp only [clL]
   refine a0l (v := ?_) rfl rfl (fun wx => ?_) ?_
   rotate_left 1
   ·(go_simp; with_reducible rfl)
   try simp only [clL]
   refine a0l (v := ?_) rfl rfl (fun wx => ?_) ?_
   rotate_left 1
   ·(go_simp; with_reducible rfl)
   try simp only [clL]
   refine a0l (v := ?_) rfl rfl (fun wx => ?_) ?_
   rotate_left 1
   ·(go_simp; with_reducible rfl)
   try simp only [clL]
   refine a0l (v := ?_) rfl rfl (fun wx => ?_) ?_
   rotate_left 1
   ·(go_simp; with_reducible rfl)
   try simp only [clL]
   refine a0A rfl rfl ?_
   go_simp
   refine (HBIT.out _).mono ?_
   rintro e' w5 ⟨rfl, hf5⟩
   have st5 := hd4.keep hf5
   clear hf5
   clear hd4
   refine ⟨st5, ?_⟩
   try simp only [clL]
   refine a0l (v := ?_) rfl rfl (fun wx => ?_) ?_
   rotate_left 1
   ·(go_simp; with_reducible rfl)
   try simp only [clL]
   refine a0l (v := ?_) rfl rfl (fun wx => ?_) ?_
   rotate_left 1
   ·(go_simp; with_reducible rfl)
   try simp only [clL]
   refine a0l (v := ?_) rfl rfl (fun wx => ?_) ?_
   rotate_left 1
   ·(go_simp; with_reducible rfl)
   try simp only [clL]
   refine a0o rfl rfl ?_
   have f1 := (st5.at 3 rfl).free (k / 64) (by rw [a0a]; omega)
   have c1 := (st5.at 3 rfl).cell (a0B 4 q (k / 64) (by omega))
   go_simp
   have st6 := st5.set 3 rfl (k / 64) (.int .u64 (bits .or .u64 (lw q (k / 64) : Nat) (IntKind.u64.wrap ((b : Int) * 2 ^ (k % 64)))))
   simp only [List.set_cons_zero, List.set_cons_succ] at st6
   rw [HCELL.out] at st6
   clear f1 c1 st5
   try simp only [clL]
   refine a0i ?_
   refine NoPanic.normal ?_
   go_wp2
   go_roundw
   case rel => exact ⟨k + 1, by omega, by go_num, by rw [HQ.out]; exact st6⟩
   case measure => simp [intOf]; omega
  ·have hge : ¬ ((k : Int) < 254) := by omega
   have hk2 : k = 254 := by omega
   rw [hk2, f0c p HP.out] at st
   clear hk2
   generalize p / 4 = Q at *
   have c1 := (st.at 3 rfl).cell (a0B 4 Q 0 (by decide))
   have f1 := (st.at 3 rfl).free 0 (by rw [a0a]; decide)
   have st9 := st.set 3 rfl 0 (.int .u64 ((lw Q 0 : Int) + 1))
   have hlow := HLOW.out
   have e1 : IntKind.u64.wrap ((lw Q 0 : Int) + 1) = (lw Q 0 : Int) + 1 := IntWalk.u64_in _ (by omega)
   clear st
   go_wp2_with (with_reducible refine wSk 33 ?_)
   simp only [List.set_cons_zero, List.set_cons_succ] at st9
   rw [HLC.out] at st9
   clear c1 f1 hlow e1
   refine a0q st9 0 rfl rfl rfl Tryz.underlying78 rfl rfl (by first | (rw [a0a]; kernel_rfl) | (simp only [List.length_append, a0a]; kernel_rfl)) ?_
   go_wp2_with (with_reducible refine wSk 34 ?_)
   refine a0k st9 1 rfl rfl rfl Tryz.underlying60 rfl (by first | (rw [a0a]; kernel_rfl) | (simp only [List.length_append, a0a]; kernel_rfl)) ?_
   go_wp2_with (with_reducible refine wSk 35 ?_)
   refine a0k st9 3 rfl rfl rfl Tryz.underlying60 rfl (by first | (rw [a0a]; kernel_rfl) | (simp only [List.length_append, a0a]; kernel_rfl)) ?_
   go_wp2_with fail
   refine (HPOW.out _).mono ?_
   rintro e' w10 ⟨rfl, hf10⟩
   have st10 := st9.keep hf10
   clear st9 hf10
   go_wp2_with (with_reducible refine wSk 8 ?_)
   refine a0c st10 rfl rfl (z := zAd) (by kernel_rfl) (cw 4 0) (by rw [a0g]; rfl) ?_
   intro g8 w11 st11
   clear st10
   go_wp2_with (with_reducible refine wSn ?_)
   refine a0d st11 4 rfl rfl rfl rfl rfl (by first | (simp only [a0a]; done) | (simp only [List.length_append, a0a]; done)) (by first | (rw [a0a]; kernel_rfl) | (simp only [List.length_append, a0a]; kernel_rfl)) (a0j _ _) ?_
   intro w12 st12
   clear st11
   go_wp2_with fail
   refine wp_region_noPanic ?_
   refine a0p (fun wx => St Nob w wx [(g2, cw 4 p ++ cw 4 (B64 ^ 4 - p), 78), (g3, cw 4 a, 60), (g4, cw 4 0, 60), (g6, cw 4 n, 60), (g8, cw 4 R, 60)]) 5 (.t 0 (.t 1 (.t 2 (.t 4 (.r 3 (.m 5 .nil)))))) (by kernel_rfl) (by kernel_rfl) st12.drew (fun _ _ _ _ _ h => h) ?_
   have hd12 := st12.drew
   clear st12
   refine a0s rfl rfl rfl rfl (cw 4 p ++ cw 4 (B64 ^ 4 - p)) (fun wx hS => St.rangeL hS 0 rfl 0 _ dZl) Tryz.underlying78 rfl (by first | (rw [a0a]; kernel_rfl) | (simp only [List.length_append, a0a]; kernel_rfl)) ?_
   try simp only [clL]
   refine a0s rfl rfl rfl rfl (cw 4 R) (fun wx hS => St.rangeL hS 4 rfl 0 _ dZl) Tryz.underlying60 rfl (by first | (rw [a0a]; kernel_rfl) | (simp only [List.length_append, a0a]; kernel_rfl)) ?_
   try simp only [clL]
   refine a0s rfl rfl rfl rfl (cw 4 R) (fun wx hS => St.rangeL hS 4 rfl 0 _ dZl) Tryz.underlying60 rfl (by first | (rw [a0a]; kernel_rfl) | (simp only [List.length_append, a0a]; kernel_rfl)) ?_
   try simp only [clL]
   refine a0s rfl rfl rfl rfl (cw 4 a) (fun wx hS => St.rangeL hS 1 rfl 0 _ dZl) Tryz.underlying60 rfl (by first | (rw [a0a]; kernel_rfl) | (simp only [List.length_append, a0a]; kernel_rfl)) ?_
   try simp only [clL]
   refine a0A rfl rfl ?_
   go_simp
   refine (g0b p R R _ HP0.out HP.out HR4.out HR4.out).mono ?_
   rintro e' w13 ⟨rfl, hf13⟩
   have st13 := hd12.keep hf13
   clear hf13
   clear hd12
   refine ⟨st13, ?_⟩
   try simp only [clL]
   refine a0o rfl rfl ?_
   refine m0K (R * R % p) a HRR.out HA.out 60 Tryz.underlying60 Tryz.eqGuardType60 rfl rfl rfl HB.out ?_
   try simp only [clL]
   refine a0i ?_
   refine NoPanic.normal ?_
   have c1 := (st13.at 4 rfl).cell (a0B 4 R 0 (by decide))
   have hla := g0e R
   rw [HPAR.out] at hla
   go_wp2_with (with_reducible refine wSk 51 ?_)
   refine a0k st13 4 rfl rfl rfl Tryz.underlying60 rfl (by first | (rw [a0a]; kernel_rfl) | (simp only [List.length_append, a0a]; kernel_rfl)) ?_
   go_wp2_with (with_reducible refine wSn ?_)
   refine a0d st13 2 rfl rfl rfl rfl rfl (by first | (simp only [a0a]; done) | (simp only [List.length_append, a0a]; done)) (by first | (rw [a0a]; kernel_rfl) | (simp only [List.length_append, a0a]; kernel_rfl)) (a0j _ _) ?_
   intro w14 st14
   clear st13
   have hr := st14.at 2 rfl
   have hfr := st14.fr
   clear st14
   go_wp2_with fail
   exact bodyPost_ret (a0O rfl rfl hr Tryz.underlying60 (by first | (rw [a0a]; kernel_rfl) | (simp only [List.length_append, a0a]; kernel_rfl)) rfl) rfl ⟨rfl, hfr⟩
theorem r0H (p a n R : Nat) (w : World) (hp0 : 0 < p) (hp : p < B64 ^ 4) (hn : p / 4 + 1 = n) (hn4 : n < B64 ^ 4) (ha : a < B64 ^ 4) (hlow : lw (p / 4) 0 + 1 < 18446744073709551616) (hR : R < p) (hpow : ∀ wx, Calls Tryz.prog 167 #[fv p, i4 a, i4 n] wx fun e w' => e = .returned (i4 R) ∧ Fr Nob wx w') (hb : decide (R * R % p = a) = true) (hpar : R % 2 = 1) :
  Calls Tryz.prog 186 #[fv p, i4 a] w fun e w' => e = .returned (.tuple #[i4 ((p - R) % p), .bool true]) ∧ Fr Nob w w' := by
 have HP0 := qH hp0
 have HP := qH hp
 have HN4 := qH hn4
 have HA := qH ha
 have HLOW := qH hlow
 have HPOW := qH hpow
 have HB := qH hb
 have HR4 := qH (Nat.lt_trans hR hp)
 have HRP := qH (Nat.le_of_lt hR)
 have HRR := qH (show R * R % p < B64 ^ 4 from Nat.lt_trans (Nat.mod_lt _ hp0) hp)
 have hlc := h0N (p / 4) hlow
 rw [hn] at hlc
 have HLC := qH hlc
 have HNE := qH hn
 have HPAR := qH hpar
 clear hp0 hp hn4 ha hlow hpow hb hR hlc hn hpar
 have st0 := St.start Nob w
 go_enter Tryz.func186, Tryz.ntmps186
 go_wp2_with (with_reducible refine wSk 2 ?_)
 refine a0m st0 rfl rfl rfl (cw 4 p ++ cw 4 (B64 ^ 4 - p)) rfl ?_
 intro g2 w1 st1
 clear st0
 go_wp2_with (with_reducible refine wSk 3 ?_)
 refine a0m st1 rfl rfl rfl (cw 4 a) rfl ?_
 intro g3 w2 st2
 clear st1
 go_wp2_with (with_reducible refine wSk 4 ?_)
 refine a0c st2 rfl rfl (z := zAd) (by kernel_rfl) (cw 4 0) (by rw [a0g]; rfl) ?_
 intro g4 w3 st3
 clear st2
 go_wp2_with (with_reducible refine wSk 6 ?_)
 refine a0c st3 rfl rfl (z := zAd) (by kernel_rfl) (cw 4 0) (by rw [a0g]; rfl) ?_
 intro g6 w4 st4
 clear st3
 go_wp2
 go_loopw [7] (fun i wr => ∃ k : Nat, k ≤ 254 ∧ i = .int .i64 (k : Int) ∧ St Nob w wr [(g2, cw 4 p ++ cw 4 (B64 ^ 4 - p), 78), (g3, cw 4 a, 60), (g4, cw 4 0, 60), (g6, cw 4 (p / 4 % 2 ^ k), 60)]) (fun i _ => 254 - (intOf i).toNat)
 case atStart => exact ⟨0, by omega, rfl, by rw [Nat.pow_zero, Nat.mod_one]; exact st4⟩
 case round =>
  obtain ⟨k, hk, rfl, st⟩ := hrel
  clear st4
  by_cases hlt : k < 254
  ·have hltI : (k : Int) < 254 := by omega
   have hstep := j0z 4 (p / 4 % 2 ^ k) k (p / 2 ^ (k + 2) % 2) (Nat.mod_lt _ (Nat.pow_pos (by decide))) (Nat.mod_lt _ (by decide)) (by omega)
   rw [← e0t] at hstep
   have hbit := fun wx => f0v p (k + 2) wx (by omega)
   have hb2 : p / 2 ^ (k + 2) % 2 < 2 := Nat.mod_lt _ (by decide)
   generalize p / 2 ^ (k + 2) % 2 = b at *
   generalize hq' : p / 4 % 2 ^ (k + 1) = q' at *
   have HQ := qH hq'
   clear hq'
   generalize p / 4 % 2 ^ k = q at *
   have HCELL := qH (j0V q b k q' hb2 hstep)
   have HBIT := qH hbit
   clear hstep hbit hb2
   have hlo : (0 : Int) ≤ (k : Int) / 64 ∧ (k : Int) / 64 < 4 := by omega
   have hlo2 : (0 : Int) ≤ (k : Int) % 64 ∧ (k : Int) % 64 < 64 := by omega
   have e1 : IntKind.i64.wrap ((k : Int) / 64) = (k : Int) / 64 := IntWalk.i64_in _ (by omega)
   have e2 : (k : Int).tmod 64 = (k : Int) % 64 := Int.tmod_eq_emod_of_nonneg (by omega)
   have e3 : IntKind.i64.wrap ((k : Int) + 2) = (k : Int) + 2 := IntWalk.i64_in _ (by omega)
   have e4 : ((k : Int) / 64).toNat = k / 64 := by omega
   have e5 : ((k : Int) % 64).toNat = k % 64 := by omega
   go_wp2_with fail
   refine wp_region_noPanic ?_
   refine a0p (fun wx => St Nob w wx [(g2, cw 4 p ++ cw 4 (B64 ^ 4 - p), 78), (g3, cw 4 a, 60), (g4, cw 4 0, 60), (g6, cw 4 q, 60)]) 16 (.w 0 (.w 1 (.w 2 (.w 3 (.w 4 (.t 5 (.w 6 (.t 7 (.w 8 (.w 9 (.w 11 (.w 12 (.r 10 (.w 13 (.w 14 (.w 15 (.m 16 .nil))))))))))))))))) (by kernel_rfl) (by kernel_rfl) st.drew (fun _ _ _ _ _ h => h) ?_
   have hd4 := st.drew
   clear st
   refine a0l (v := ?_) rfl rfl (fun wx => ?_) ?_
   rotate_left 1
   ·(go_simp; with_reducible rfl)
   try simp only [clL]
   refine a0l (v := ?_) rfl rfl (fun wx => ?_) ?_
   rotate_left 1
   ·(go_simp; with_reducible rfl)
   try simp only [clL]
   refine a0l (v := ?_) rfl rfl (fun wx => ?_) ?_
   rotate_left 1
   ·(go_simp; with_reducible rfl)
   try simp only [clL]
   refine a0l (v := ?_) rfl rfl (fun wx => ?_) ?_
   rotate_left 1
   ·(go_simp; with_reducible rfl)
   try simp only [clL]
   refine a0l (v := ?_) rfl rfl (fun wx => ?_) ?_
   rotate_left 1
   ·(go_simp; with_reducible rfl)
   try simp only [clL]
   refine d0i (v := ?_) rfl rfl (fun wx hS => ?_) ?_
   rotate_left 1
   ·(have hc := (St.at hS 3 rfl).cell (a0B 4 q (k / 64) (by omega)); clear hS; go_simp; with_reducible rfl)
   try simp only [clL]
   refine a0l (v := ?_) rfl rfl (fun wx => ?_) ?_
   rotate_left 1
   ·(go_simp; with_reducible rfl)
   try simp only [clL]
   refine a0s rfl rfl rfl rfl (cw 4 p) (fun wx hS => St.rangeL hS 0 rfl 0 _ (e0Z 4 4 _ _)) Tryz.underlying60 rfl (by first | (rw [a0a]; kernel_rfl) | (simp only [List.length_append, a0a]; kernel_rfl)) ?_
   try simp only [clL]
   refine a0l (v := ?_) rfl rfl (fun wx => ?_) ?_
   rotate_left 1
   ·(go_simp; with_reducible rfl)
   try simp only [clL]
   refine a0l (v := ?_) rfl rfl (fun wx => ?_) ?_
   rotate_left 1
   ·(go_simp; with_reducible rfl)
   try simp only [clL]
   refine a0l (v := ?_) rfl rfl (fun wx => ?_) ?_
   rotate_left 1
   ·(go_simp; with_reducible rfl)
   try simp only [clL]
   refine a0l (v := ?_) rfl rfl (fun wx => ?_) ?_
   rotate_left 1
   ·(go_simp; with_reducible rfl)
   try simp only [clL]
   refine a0A rfl rfl ?_
   go_simp
   refine (HBIT.out _).mono ?_
   rintro e' w5 ⟨rfl, hf5⟩
   have st5 := hd4.keep hf5
   clear hf5
   clear hd4
   refine ⟨st5, ?_⟩
   try simp only [clL]
   refine a0l (v := ?_) rfl rfl (fun wx => ?_) ?_
   rotate_left 1
   ·(go_simp; with_reducible rfl)
   try simp only [clL]
   refine a0l (v := ?_) rfl rfl (fun wx => ?_) ?_
   rotate_left 1
   ·(go_simp; with_reducible rfl)
   try simp only [clL]
   refine a0l (v := ?_) rfl rfl (fun wx => ?_) ?_
   rotate_left 1
   ·(go_simp; with_reducible rfl)
   try simp only [clL]
   refine a0o rfl rfl ?_
   have f1 := (st5.at 3 rfl).free (k / 64) (by rw [a0a]; omega)
   have c1 := (st5.at 3 rfl).cell (a0B 4 q (k / 64) (by omega))
   go_simp
   have st6 := st5.set 3 rfl (k / 64) (.int .u64 (bits .or .u64 (lw q (k / 64) : Nat) (IntKind.u64.wrap ((b : Int) * 2 ^ (k % 64)))))
   simp only [List.set_cons_zero, List.set_cons_succ] at st6
   rw [HCELL.out] at st6
   clear f1 c1 st5
   try simp only [clL]
   refine a0i ?_
   refine NoPanic.normal ?_
   go_wp2
   go_roundw
   case rel => exact ⟨k + 1, by omega, by go_num, by rw [HQ.out]; exact st6⟩
   case measure => simp [intOf]; omega
  ·have hge : ¬ ((k : Int) < 254) := by omega
   have hk2 : k = 254 := by omega
   rw [hk2, f0c p HP.out] at st
   clear hk2
   generalize p / 4 = Q at *
   have c1 := (st.at 3 rfl).cell (a0B 4 Q 0 (by decide))
   have f1 := (st.at 3 rfl).free 0 (by rw [a0a]; decide)
   have st9 := st.set 3 rfl 0 (.int .u64 ((lw Q 0 : Int) + 1))
   have hlow := HLOW.out
   have e1 : IntKind.u64.wrap ((lw Q 0 : Int) + 1) = (lw Q 0 : Int) + 1 := IntWalk.u64_in _ (by omega)
   clear st
   go_wp2_with (with_reducible refine wSk 33 ?_)
   simp only [List.set_cons_zero, List.set_cons_succ] at st9
   rw [HLC.out] at st9
   clear c1 f1 hlow e1
   refine a0q st9 0 rfl rfl rfl Tryz.underlying78 rfl rfl (by first | (rw [a0a]; kernel_rfl) | (simp only [List.length_append, a0a]; kernel_rfl)) ?_
   go_wp2_with (with_reducible refine wSk 34 ?_)
   refine a0k st9 1 rfl rfl rfl Tryz.underlying60 rfl (by first | (rw [a0a]; kernel_rfl) | (simp only [List.length_append, a0a]; kernel_rfl)) ?_
   go_wp2_with (with_reducible refine wSk 35 ?_)
   refine a0k st9 3 rfl rfl rfl Tryz.underlying60 rfl (by first | (rw [a0a]; kernel_rfl) | (simp only [List.length_append, a0a]; kernel_rfl)) ?_
   go_wp2_with fail
   refine (HPOW.out _).mono ?_
   rintro e' w10 ⟨rfl, hf10⟩
   have st10 := st9.keep hf10
   clear st9 hf10
   go_wp2_with (with_reducible refine wSk 8 ?_)
   refine a0c st10 rfl rfl (z := zAd) (by kernel_rfl) (cw 4 0) (by rw [a0g]; rfl) ?_
   intro g8 w11 st11
   clear st10
   go_wp2_with (with_reducible refine wSn ?_)
   refine a0d st11 4 rfl rfl rfl rfl rfl (by first | (simp only [a0a]; done) | (simp only [List.length_append, a0a]; done)) (by first | (rw [a0a]; kernel_rfl) | (simp only [List.length_append, a0a]; kernel_rfl)) (a0j _ _) ?_
   intro w12 st12
   clear st11
   go_wp2_with fail
   refine wp_region_noPanic ?_
   refine a0p (fun wx => St Nob w wx [(g2, cw 4 p ++ cw 4 (B64 ^ 4 - p), 78), (g3, cw 4 a, 60), (g4, cw 4 0, 60), (g6, cw 4 n, 60), (g8, cw 4 R, 60)]) 5 (.t 0 (.t 1 (.t 2 (.t 4 (.r 3 (.m 5 .nil)))))) (by kernel_rfl) (by kernel_rfl) st12.drew (fun _ _ _ _ _ h => h) ?_
   have hd12 := st12.drew
   clear st12
   refine a0s rfl rfl rfl rfl (cw 4 p ++ cw 4 (B64 ^ 4 - p)) (fun wx hS => St.rangeL hS 0 rfl 0 _ dZl) Tryz.underlying78 rfl (by first | (rw [a0a]; kernel_rfl) | (simp only [List.length_append, a0a]; kernel_rfl)) ?_
   try simp only [clL]
   refine a0s rfl rfl rfl rfl (cw 4 R) (fun wx hS => St.rangeL hS 4 rfl 0 _ dZl) Tryz.underlying60 rfl (by first | (rw [a0a]; kernel_rfl) | (simp only [List.length_append, a0a]; kernel_rfl)) ?_
   try simp only [clL]
   refine a0s rfl rfl rfl rfl (cw 4 R) (fun wx hS => St.rangeL hS 4 rfl 0 _ dZl) Tryz.underlying60 rfl (by first | (rw [a0a]; kernel_rfl) | (simp only [List.length_append, a0a]; kernel_rfl)) ?_
   try simp only [clL]
   refine a0s rfl rfl rfl rfl (cw 4 a) (fun wx hS => St.rangeL hS 1 rfl 0 _ dZl) Tryz.underlying60 rfl (by first | (rw [a0a]; kernel_rfl) | (simp only [List.length_append, a0a]; kernel_rfl)) ?_
   try simp only [clL]
   refine a0A rfl rfl ?_
   go_simp
   refine (g0b p R R _ HP0.out HP.out HR4.out HR4.out).mono ?_
   rintro e' w13 ⟨rfl, hf13⟩
   have st13 := hd12.keep hf13
   clear hf13
   clear hd12
   refine ⟨st13, ?_⟩
   try simp only [clL]
   refine a0o rfl rfl ?_
   refine m0K (R * R % p) a HRR.out HA.out 60 Tryz.underlying60 Tryz.eqGuardType60 rfl rfl rfl HB.out ?_
   try simp only [clL]
   refine a0i ?_
   refine NoPanic.normal ?_
   have c1 := (st13.at 4 rfl).cell (a0B 4 R 0 (by decide))
   have hla := g0e R
   rw [HPAR.out] at hla
   go_wp2_with (with_reducible refine wSk 48 ?_)
   refine a0q st13 0 rfl rfl rfl Tryz.underlying78 rfl rfl (by first | (rw [a0a]; kernel_rfl) | (simp only [List.length_append, a0a]; kernel_rfl)) ?_
   go_wp2_with (with_reducible refine wSk 49 ?_)
   refine a0k st13 4 rfl rfl rfl Tryz.underlying60 rfl (by first | (rw [a0a]; kernel_rfl) | (simp only [List.length_append, a0a]; kernel_rfl)) ?_
   go_wp2_with fail
   refine (q0y p R _ HRP.out HP.out HR4.out).mono ?_
   rintro e' w14 ⟨rfl, hf14⟩
   have st14 := st13.keep hf14
   clear st13 hf14
   go_wp2_with (with_reducible refine wSn ?_)
   refine a0d st14 4 rfl rfl rfl rfl rfl (by first | (simp only [a0a]; done) | (simp only [List.length_append, a0a]; done)) (by first | (rw [a0a]; kernel_rfl) | (simp only [List.length_append, a0a]; kernel_rfl)) (a0j _ _) ?_
   intro w15 st15
   clear st14
   go_wp2_with (with_reducible refine wSk 51 ?_)
   refine a0k st15 4 rfl rfl rfl Tryz.underlying60 rfl (by first | (rw [a0a]; kernel_rfl) | (simp only [List.length_append, a0a]; kernel_rfl)) ?_
   go_wp2_with (with_reducible refine wSn ?_)
   refine a0d st15 2 rfl rfl rfl rfl rfl (by first | (simp only [a0a]; done) | (simp only [List.length_append, a0a]; done)) (by first | (rw [a0a]; kernel_rfl) | (simp only [List.length_append, a0a]; kernel_rfl)) (a0j _ _) ?_
   intro w16 st16
   clear st15
   have hr := st16.at 2 rfl
   have hfr := st16.fr
   clear st16
   go_wp2_with fail
   exact bodyPost_ret (a0O rfl rfl hr Tryz.underlying60 (by first | (rw [a0a]; kernel_rfl) | (simp only [List.length_append, a0a]; kernel_rfl)) rfl) rfl ⟨rfl, hfr⟩
end
section
open Go.RowKit Go.Mv Mvp
theorem z0w {k : Int} {m : Md} (h : KindOf k m) : lw (m.M / 4) 0 + 1 < 18446744073709551616 := by
 cases h
 ·decide
 ·decide
theorem u0w (p a : Nat) (w : World) (hp1 : 1 < p) (hp : p < B64 ^ 4) (ha : a < p) (hlow : lw (p / 4) 0 + 1 < 18446744073709551616) (hr : b0I p a = true) :
  Calls Tryz.prog 186 #[fv p, i4 a] w fun e w' => e = .returned (.tuple #[i4 (rtV p a % p), .bool true]) ∧ Fr Nob w w' := by
 unfold b0I at hr
 unfold rtV
 unfold rtN at *
 have hn4 : p / 4 + 1 < B64 ^ 4 := by omega
 generalize hn : p / 4 + 1 = n at *
 have hpow := fun wx => m0m p a n wx hp1 hp (Nat.lt_trans ha hp) hn4
 have hR : a ^ n % p < p := Nat.mod_lt _ (by omega)
 rw [Nat.mul_mod, Nat.mod_eq_of_lt ha] at hr
 have hsame : a ^ n % p = a ^ n % p % p := (Nat.mod_mod _ _).symm
 generalize hRR : a ^ n % p = R at *
 have hb : decide (R * R % p = a) = true := by simpa using hr
 by_cases hpar : R % 2 = 1
 ·rw [if_pos hpar]
  exact r0H p a n R w (by omega) hp hn hn4 (Nat.lt_trans ha hp) hlow hR hpow hb hpar
 ·rw [if_neg hpar, hRR]
  exact p0u p a n R w (by omega) hp hn hn4 (Nat.lt_trans ha hp) hlow hR hpow hb (by omega)
theorem r0I (p a : Nat) (w : World) (hp1 : 1 < p) (hp : p < B64 ^ 4) (ha : a < p) (hlow : lw (p / 4) 0 + 1 < 18446744073709551616) (hr : b0I p a = false) :
  Calls Tryz.prog 186 #[fv p, i4 a] w fun e w' => e = .returned (.tuple #[i4 0, .bool false]) ∧ Fr Nob w w' := by
 unfold b0I at hr
 unfold rtN at *
 have hn4 : p / 4 + 1 < B64 ^ 4 := by omega
 generalize hn : p / 4 + 1 = n at *
 have hpow := fun wx => m0m p a n wx hp1 hp (Nat.lt_trans ha hp) hn4
 have hR : a ^ n % p < p := Nat.mod_lt _ (by omega)
 rw [Nat.mul_mod, Nat.mod_eq_of_lt ha] at hr
 generalize hRR : a ^ n % p = R at *
 have hb : decide (R * R % p = a) = false := by simpa using hr
 exact u0v p a n R w (by omega) hp hn hn4 (Nat.lt_trans ha hp) hlow hR hpow hb
attribute [local irreducible] a0G lw mix cw b0q b0y b0p a0K a0r beN b0F a0U b0D a0I a0R elN mdL c0O b0m b0B rtN b0I rtV
end
section
open Go.RowKit Go.Mv Mvp
attribute [local irreducible] a0G lw mix cw b0q b0y b0p a0K a0r beN b0F a0U b0D a0I a0R elN mdL b0B b0m
end
end Go.Proofs.YtemcankmggmgoaaGreat
namespace Mvp
end Mvp
namespace Go.Proofs.YtemcankmggmgoaaGreat
section
open Go.RowKit Go.Mv Mvp
attribute [local irreducible] a0G lw mix cw b0q b0y b0p a0K a0r beN b0F a0U b0D a0I a0R elN mdL b0B b0m
theorem BParts.four {w : World} {v1 v2 v3 v4 : Value} {l1 l2 l3 l4 : List UInt8} (h1 : BPart w v1 l1) (h2 : BPart w v2 l2) (h3 : BPart w v3 l3) (h4 : BPart w v4 l4) : BParts w [v1, v2, v3, v4] [l1, l2, l3, l4] := ⟨rfl, fun i x hx => by
 match i with
 | 0 => simp at hx; subst hx; exact h1
 | 1 => simp at hx; subst hx; exact h2
 | 2 => simp at hx; subst hx; exact h3
 | 3 => simp at hx; subst hx; exact h4
 | i + 4 => simp at hx⟩
end
section
open Go.RowKit Go.Mv Mvp
theorem x0E (x y : Nat) (hx : x < B64 ^ 4) (hy : y < B64 ^ 4) (w : World) : (Op.equal 60 (.agg (cw 4 x).toArray) (.agg (cw 4 y).toArray)).run Tryz.prog w = .ok (x == y) w := by
 have h := j0A (P := Tryz.prog) Tryz.underlying60 Tryz.underlying58 c0D x y w
 rw [Nat.mod_eq_of_lt hx, Nat.mod_eq_of_lt hy] at h
 rw [h]
 congr 1
attribute [local irreducible] a0G lw mix cw b0q b0y b0p a0K a0r beN b0F a0U b0D a0I a0R elN mdL b0B b0m
theorem z0x (m : Md) (hk : KindOf 1 m) (w : World) :
  Calls Tryz.prog 53 #[] w fun e w' => e = .returned (fv m.M) ∧ Fr Nob w w' := by
 have HK := qH hk
 have HOK := qH hk.ok
 clear hk
 have st0 := St.start Nob w
 go_enter Tryz.func53, Tryz.ntmps53
 go_wp2_with (with_reducible refine wSk 0 ?_)
 refine a0c st0 rfl rfl (z := .agg #[.int .u64 0, .int .u64 0, .int .u64 0, .int .u64 0, .int .u64 0, .int .u64 0, .int .u64 0, .int .u64 0]) (by kernel_rfl) (cw 8 0) (by rw [a0g]; rfl) ?_
 intro g0 w1 st1
 clear st0
 go_wp2_with fail
 refine (y0M HK.out _).mono ?_
 rintro e' w2 ⟨rfl, hf2⟩
 have st2 := st1.keep hf2
 clear st1 hf2
 go_wp2_with (with_reducible refine wSn ?_)
 refine a0d st2 0 rfl rfl rfl rfl rfl (by first | (simp only [a0a]; done) | (simp only [List.length_append, a0a]; done)) (by first | (rw [a0a]; kernel_rfl) | (simp only [List.length_append, a0a]; kernel_rfl)) (j0u _ _ _ _) ?_
 intro w3 st3
 clear st2
 have hr := st3.at 0 rfl
 have hfr := st3.fr
 clear st3
 go_wp2_with fail
 exact bodyPost_ret (a0x rfl rfl hr Tryz.underlying78 rfl (by first | (rw [a0a]; kernel_rfl) | (simp only [List.length_append, a0a]; kernel_rfl))) rfl ⟨rfl, hfr⟩
theorem u0x (m : Md) (hk : KindOf 1 m) (s : ByteArray) (w : World) (ha : b0m m s.data.toList = true) :
  Calls Tryz.prog 72 #[.string s] w fun e w' => e = .returned (.tuple #[i4 (beN s.data.toList), .bool true]) ∧ Fr Nob w w' := by
 have HK := qH hk
 have HOK := qH hk.ok
 clear hk
 have HA := qH ha
 clear ha
 have st0 := St.start Nob w
 go_enter Tryz.func72, Tryz.ntmps72
 go_wp2_with (with_reducible refine wSk 2 ?_)
 refine a0c st0 rfl rfl (z := zAd) (by kernel_rfl) (cw 4 0) (by rw [a0g]; rfl) ?_
 intro g2 w1 st1
 clear st0
 go_wp2_with fail
 refine (z0x m HK.out _).mono ?_
 rintro e' w2 ⟨rfl, hf2⟩
 have st2 := st1.keep hf2
 clear st1 hf2
 go_wp2_with fail
 refine (o0n m HOK.out.lt s _ HA.out).mono ?_
 rintro e' w3 ⟨rfl, hf3⟩
 have st3 := st2.keep hf3
 clear st2 hf3
 go_wp2_with (with_reducible refine wSn ?_)
 refine a0d st3 0 rfl rfl rfl rfl rfl (by first | (simp only [a0a]; done) | (simp only [List.length_append, a0a]; done)) (by first | (rw [a0a]; kernel_rfl) | (simp only [List.length_append, a0a]; kernel_rfl)) (a0j _ _) ?_
 intro w4 st4
 clear st3
 have hr := st4.at 0 rfl
 have hfr := st4.fr
 clear st4
 go_wp2_with fail
 exact bodyPost_ret (a0O rfl rfl hr Tryz.underlying60 (by first | (rw [a0a]; kernel_rfl) | (simp only [List.length_append, a0a]; kernel_rfl)) rfl) rfl ⟨rfl, hfr⟩
theorem u0y (m : Md) (hk : KindOf 1 m) (s : ByteArray) (w : World) (ha : b0m m s.data.toList = false) :
  Calls Tryz.prog 72 #[.string s] w fun e w' => ∃ N, e = .returned (.tuple #[i4 N, .bool false]) ∧ Fr Nob w w' := by
 have HK := qH hk
 have HOK := qH hk.ok
 clear hk
 have HA := qH ha
 clear ha
 have st0 := St.start Nob w
 go_enter Tryz.func72, Tryz.ntmps72
 go_wp2_with (with_reducible refine wSk 2 ?_)
 refine a0c st0 rfl rfl (z := zAd) (by kernel_rfl) (cw 4 0) (by rw [a0g]; rfl) ?_
 intro g2 w1 st1
 clear st0
 go_wp2_with fail
 refine (z0x m HK.out _).mono ?_
 rintro e' w2 ⟨rfl, hf2⟩
 have st2 := st1.keep hf2
 clear st1 hf2
 go_wp2_with fail
 refine (o0o m HOK.out.lt s _ HA.out).mono ?_
 rintro e' w3 ⟨NA, rfl, hf3⟩
 have st3 := st2.keep hf3
 clear st2 hf3
 go_wp2_with (with_reducible refine wSn ?_)
 refine a0d st3 0 rfl rfl rfl rfl rfl (by first | (simp only [a0a]; done) | (simp only [List.length_append, a0a]; done)) (by first | (rw [a0a]; kernel_rfl) | (simp only [List.length_append, a0a]; kernel_rfl)) (a0j _ _) ?_
 intro w4 st4
 clear st3
 have hr := st4.at 0 rfl
 have hfr := st4.fr
 clear st4
 go_wp2_with fail
 exact bodyPost_ret (a0O rfl rfl hr Tryz.underlying60 (by first | (rw [a0a]; kernel_rfl) | (simp only [List.length_append, a0a]; kernel_rfl)) rfl) rfl ⟨_, rfl, hfr⟩
theorem A0C (p a b r : Nat) (w : World) (hp0 : 0 < p) (hp : p < B64 ^ 4) (ha : a < B64 ^ 4) (hb : b < B64 ^ 4) (hbp : b ≤ p) (hr : (a + (p - b)) % p = r) :
  Calls Tryz.prog 137 #[fv p, i4 a, i4 b] w fun e w' => e = .returned (i4 r) ∧ Fr Nob w w' := by
 refine (w0J p a b w hp0 hp ha hb hbp).mono fun e w' h => ?_
 rw [Nat.add_mod_mod, hr] at h
 exact h
theorem A0D (p a r : Nat) (w : World) (hp1 : 1 < p) (hp : p < B64 ^ 4) (ha : a < B64 ^ 4) (hr : a ^ (p - 2) % p = r) :
  Calls Tryz.prog 113 #[fv p, i4 a] w fun e w' => e = .returned (i4 r) ∧ Fr Nob w w' := by
 subst hr; exact w0N p a w hp1 hp ha
end
section
open Go.RowKit Go.Mv Mvp Mvq
def kN (a : K) : Nat := a.val
theorem mPM : mP.M = fP := q0Z
theorem r0J (a : K) : kN a < mP.M := by rw [mPM]; exact a.isLt
theorem e0U (a : K) : kN a < B64 ^ 4 := Nat.lt_trans (r0J a) b0K.lt
theorem j0W (n : Nat) : kN (kc n) = n % fP := rfl
theorem p0v (a : K) : kc (kN a) = a := by
 apply Fin.ext
 show a.val % fP = a.val
 exact Nat.mod_eq_of_lt a.isLt
theorem w0b {a b : K} (h : kN a = kN b) : a = b := Fin.ext h
theorem hK0 : KindOf 0 mP := .zero
theorem a0H (w : World) : Calls Tryz.prog 112 #[] w fun e w' => e = .returned (fv mP.M) ∧ Fr Nob w w' := by
 go_enter Tryz.func112, Tryz.ntmps112
 have st0 := St.start Nob w
 go_wp2_with (with_reducible refine wSk 0 ?_)
 refine a0c st0 rfl rfl (z := .agg #[.int .u64 0, .int .u64 0, .int .u64 0, .int .u64 0, .int .u64 0, .int .u64 0, .int .u64 0, .int .u64 0]) (by kernel_rfl) (cw 8 0) (by rw [a0g]; rfl) ?_
 intro g0 w1 st1
 clear st0
 go_wp2_with fail
 refine (y0M hK0 _).mono ?_
 rintro e' w2 ⟨rfl, hf2⟩
 have st2 := st1.keep hf2
 clear st1 hf2
 go_wp2_with (with_reducible refine wSn ?_)
 refine a0d st2 0 rfl rfl rfl rfl (cs := cw 4 mP.M ++ cw 4 (B64 ^ 4 - mP.M)) rfl (by first | (simp only [a0a]; done) | (simp only [List.length_append, a0a]; done)) (by first | (rw [a0a]; kernel_rfl) | (simp only [List.length_append, a0a]; kernel_rfl)) (j0u _ _ _ _) ?_
 intro w3 st3
 clear st2
 have hr := st3.at 0 rfl
 have hfr := st3.fr
 clear st3
 go_wp2_with fail
 exact bodyPost_ret (a0x rfl rfl hr Tryz.underlying78 rfl (by first | (rw [a0a]; kernel_rfl) | (simp only [List.length_append, a0a]; kernel_rfl))) rfl ⟨rfl, hfr⟩
theorem d0J (a b r : K) (hr : a * b = r) (w : World) : Calls Tryz.prog 58 #[fv mP.M, i4 (kN a), i4 (kN b)] w fun e w' => e = .returned (i4 (kN r)) ∧ Fr Nob w w' := by
 have h := g0b mP.M (kN a) (kN b) w (by have := b0K.one; omega) b0K.lt (e0U a) (e0U b)
 have e : kN a * kN b % mP.M = kN r := by rw [mPM, ← j0W, a0C, p0v, p0v, hr]
 rwa [e] at h
theorem x0F (a b r : K) (hr : a + b = r) (w : World) : Calls Tryz.prog 57 #[fv mP.M, i4 (kN a), i4 (kN b)] w fun e w' => e = .returned (i4 (kN r)) ∧ Fr Nob w w' := by
 have h := q0x mP.M (kN a) (kN b) w (by have := b0K.one; omega) b0K.lt (e0U a) (e0U b)
 have e : (kN a + kN b) % mP.M = kN r := by rw [mPM, ← j0W, g0j, p0v, p0v, hr]
 rwa [e] at h
theorem u0z (a b r : K) (hr : a - b = r) (w : World) : Calls Tryz.prog 137 #[fv mP.M, i4 (kN a), i4 (kN b)] w fun e w' => e = .returned (i4 (kN r)) ∧ Fr Nob w w' := by
 have hb := Nat.mod_eq_of_lt (r0J b)
 refine A0C mP.M (kN a) (kN b) (kN r) w (by have := b0K.one; omega) b0K.lt (e0U a) (e0U b) (Nat.le_of_lt (r0J b)) ?_
 rw [← hb, mPM, ← j0W, c0C, p0v, p0v, hr]
theorem B0j (a r : K) (hr : c0d a = r) (w : World) : Calls Tryz.prog 113 #[fv mP.M, i4 (kN a)] w fun e w' => e = .returned (i4 (kN r)) ∧ Fr Nob w w' := by
 refine A0D mP.M (kN a) (kN r) w b0K.one b0K.lt (e0U a) ?_
 rw [← hr, mPM]
 unfold c0d
 rw [j0W]
 unfold kN
 generalize fP - 2 = z
 rfl
theorem z0y (a : K) (b : Bool) (hb : decide (a = 0) = b) (w : World) : Calls Tryz.prog 123 #[i4 (kN a)] w fun e w' => e = .returned (.bool b) ∧ Fr Nob w w' := by
 have h := n0y (kN a) w (e0U a)
 have e : decide (kN a = 0) = b := by
  rw [← hb, Bool.eq_iff_iff, decide_eq_true_eq, decide_eq_true_eq]
  exact ⟨fun h => w0b (h.trans rfl), fun h => by rw [h]; rfl⟩
 rwa [e] at h
theorem m0L (w : World) : Calls Tryz.prog 156 #[.int .u64 1] w fun e w' => e = .returned (i4 (kN 1)) ∧ Fr Nob w w' := h0s 1 w (by decide)
theorem r0K (w : World) : Calls Tryz.prog 156 #[.int .u64 7] w fun e w' => e = .returned (i4 (kN 7)) ∧ Fr Nob w w' := h0s 7 w (by decide)
theorem r0L (x y : K) {b : Bool} (hb : decide (x = y) = b) (w : World) : (Op.equal 60 (.agg (cw 4 (kN x)).toArray) (.agg (cw 4 (kN y)).toArray)).run Tryz.prog w = .ok b w := by
 rw [x0E (kN x) (kN y) (e0U x) (e0U y) w]
 congr 1
 rw [← hb, Bool.eq_iff_iff, beq_iff_eq, decide_eq_true_eq]
 exact ⟨w0b, fun h => by rw [h]⟩
theorem h0O (x y : K) {o : Oper} {a : Act} {p q : Operand} {T : TypeId} (ho : o.op = .binOp .eql 60 p q T) (hp : a.eval p = i4 (kN x)) (hq : a.eval q = i4 (kN y)) {b : Bool} (hb : decide (x = y) = b) (w : World) :
  (execOp a.eval o).run Tryz.prog w = .ok (.value (.bool b)) w :=
 d0a ho hp hq w (run_eqGuard_agg w .eql 60 p q _ _ Tryz.eqGuardType60) (e0u w (r0L x y hb w))
theorem x0G (n : Nat) (hn : n < mP.M) (hr : b0I fP n = true) (w : World) : Calls Tryz.prog 186 #[fv mP.M, i4 n] w fun e w' => e = .returned (.tuple #[i4 (kN (kc (rtV fP n))), .bool true]) ∧ Fr Nob w w' := by
 have h := u0w mP.M n w b0K.one b0K.lt hn (z0w hK0) (by rw [mPM]; exact hr)
 rw [mPM, ← j0W, ← mPM] at h
 exact h
theorem x0H (n : Nat) (hn : n < mP.M) (hr : b0I fP n = false) (w : World) : Calls Tryz.prog 186 #[fv mP.M, i4 n] w fun e w' => e = .returned (.tuple #[i4 (kN 0), .bool false]) ∧ Fr Nob w w' :=
 r0I mP.M n w b0K.one b0K.lt hn (z0w hK0) (by rw [mPM]; exact hr)
end
section
open Go.RowKit Go.Mv Mvp Mvq
def rpL (x y z : K) : List Value := cw 4 (kN x) ++ (cw 4 (kN y) ++ cw 4 (kN z))
def rpV (x y z : K) : Value := .agg (rpL x y z).toArray
theorem x0I : kN 0 = 0 := rfl
theorem g0U (a b c : Nat) : Tryz.prog.built 62 [(0, i4 a), (1, i4 b), (2, i4 c)] = some (cw 4 a ++ (cw 4 b ++ cw 4 c)).toArray := by kernel_rfl
theorem r0M (b : Nat) : Tryz.prog.built 62 [(1, i4 b)] = some (cw 4 0 ++ (cw 4 b ++ cw 4 0)).toArray := by kernel_rfl
theorem e0V : (Tryz.prog.info? 60).map (·.zero) = some (some (.agg (cw 4 0).toArray)) := by kernel_rfl
attribute [local irreducible] a0G lw mix cw b0q b0y b0p a0K a0r beN b0F a0U b0D a0I a0R elN mdL b0m rtV b0I kN kc c0d b0g
theorem l0n (w : World) : Calls Tryz.prog 95 #[] w fun e w' => e = .returned (rpV 0 1 0) ∧ Fr Nob w w' := by
 have st0 := St.start Nob w
 go_enter Tryz.func95, Tryz.ntmps95
 go_wp2_with (with_reducible refine wSk 0 ?_)
 refine a0c st0 rfl rfl (z := zAc) (by kernel_rfl) (cw 12 0) (by rw [a0g]; rfl) ?_
 intro g0 w1 st1
 clear st0
 go_wp2_with fail
 refine (m0L _).mono ?_
 rintro e' w2 ⟨rfl, hf2⟩
 have st2 := st1.keep hf2
 clear st1 hf2
 go_wp2_with (with_reducible refine wSk 2 ?_)
 refine b0z rfl rfl _ (r0M _) ?_
 go_wp2_with (with_reducible refine wSn ?_)
 refine a0d st2 0 rfl rfl rfl rfl rfl (by simp [a0a]) (by kernel_rfl) (a0X _ _ _) ?_
 intro w3 st3
 clear st2
 have hr := st3.at 0 rfl
 have hfr := st3.fr
 clear st3
 go_wp2_with fail
 exact bodyPost_ret (a0x rfl rfl hr Tryz.underlying62 rfl (by kernel_rfl)) rfl ⟨by unfold rpV rpL; rw [x0I], hfr⟩
theorem d0n (x y z : K) (b : Bool) (hb : decide (z = 0) = b) (w : World) : Calls Tryz.prog 111 #[rpV x y z] w fun e w' => e = .returned (.bool b) ∧ Fr Nob w w' := by
 have HB := qH hb
 clear hb
 unfold rpV rpL
 have st0 := St.start Nob w
 go_enter Tryz.func111, Tryz.ntmps111
 go_wp2_with (with_reducible refine wSk 1 ?_)
 refine a0m st0 rfl rfl rfl (cw 4 (kN x) ++ (cw 4 (kN y) ++ cw 4 (kN z))) rfl ?_
 intro g1 w1 st1
 clear st0
 go_wp2_with (with_reducible refine wSk 4 ?_)
 refine b0N rfl rfl Tryz.underlying60 rfl (st1.at 0 rfl) (cw 4 (kN z)) (f0C _ _ _) (by kernel_rfl) ?_
 go_wp2_with fail
 refine (z0y z b HB.out _).mono ?_
 rintro e' w2 ⟨rfl, hf2⟩
 have st2 := st1.keep hf2
 clear st1 hf2
 have hfr := st2.fr
 clear st2
 go_wp2_with fail
 go_ret
 exact ⟨rfl, hfr⟩
theorem r0N (x y z : K) (xx d1 d y2 ee e2 e3 t1 t2 x2 t3 t X s1 s2 s3 s4 Y Z : K) (exx : x * x = xx) (ed1 : xx + xx = d1) (ed : d1 + xx = d) (ey2 : y + y = y2) (eee : y2 * z = ee) (ee2 : ee * ee = e2) (ee3 : e2 * ee = e3) (et1 : d * d = t1) (et2 : t1 * z = t2) (ex2 : x + x = x2) (et3 : x2 * e2 = t3) (et : t2 - t3 = t) (eX : ee * t = X) (es1 : x * e2 = s1) (es2 : s1 - t = s2) (es3 : d * s2 = s3) (es4 : y * e3 = s4) (eY : s3 - s4 = Y) (eZ : e3 * z = Z) (w : World) : Calls Tryz.prog 136 #[rpV x y z] w fun e w' => e = .returned (rpV X Y Z) ∧ Fr Nob w w' := by
 have Hxx := qH exx
 have Hd1 := qH ed1
 have Hd := qH ed
 have Hy2 := qH ey2
 have Hee := qH eee
 have He2 := qH ee2
 have He3 := qH ee3
 have Ht1 := qH et1
 have Ht2 := qH et2
 have Hx2 := qH ex2
 have Ht3 := qH et3
 have Ht := qH et
 have HX := qH eX
 have Hs1 := qH es1
 have Hs2 := qH es2
 have Hs3 := qH es3
 have Hs4 := qH es4
 have HY := qH eY
 have HZ := qH eZ
 clear exx ed1 ed ey2 eee ee2 ee3 et1 et2 ex2 et3 et eX es1 es2 es3 es4 eY eZ
 unfold rpV rpL
 have st0 := St.start Nob w
 go_enter Tryz.func136, Tryz.ntmps136
 go_wp2_with (with_reducible refine wSk 1 ?_)
 refine a0m st0 rfl rfl rfl (cw 4 (kN x) ++ (cw 4 (kN y) ++ cw 4 (kN z))) rfl ?_
 intro g1 w1 st1
 clear st0
 go_wp2_with (with_reducible refine wSk 2 ?_)
 refine a0c st1 rfl rfl (z := zAc) (by kernel_rfl) (cw 12 0) (by rw [a0g]; rfl) ?_
 intro g2 w2 st2
 clear st1
 go_wp2_with fail
 refine wp_region_noPanic ?_
 refine a0f st2 7 [.o 6, .w 1, .t 2, .w 3, .t 4, .c 0, .c 5, .j 6] (.m 7 .nil) (by kernel_rfl) (by kernel_rfl) (fun _ _ _ _ _ h => h) ?_
 clear st2
 refine b0j rfl rfl rfl e0V (cw 4 0) rfl ?_
 try simp only [clL]
 refine a0n (v := ?_) rfl rfl (fun xq wx => ?_) ?_; rotate_left 1; · (go_simp; with_reducible rfl)
 try simp only [clL]
 refine a0e rfl rfl rfl (fun _ => rfl) (cw 4 (kN x)) (fun wx hS => St.rangeL hS 0 rfl 0 _ (k0p _ _ _)) Tryz.underlying60 rfl (by kernel_rfl) ?_
 try simp only [clL]
 refine a0n (v := ?_) rfl rfl (fun xq wx => ?_) ?_; rotate_left 1; · (go_simp; with_reducible rfl)
 try simp only [clL]
 refine a0e rfl rfl rfl (fun _ => rfl) (cw 4 (kN x)) (fun wx hS => St.rangeL hS 0 rfl 0 _ (k0p _ _ _)) Tryz.underlying60 rfl (by kernel_rfl) ?_
 try simp only [clL]
 refine a0b rfl rfl rfl Tryz.call112 (fun w hS hR => a0H _) (fun _ => rfl) ?_
 try simp only [clL]
 refine a0b rfl rfl rfl Tryz.call58 (fun w hS hR => d0J x x xx Hxx.out _) (fun _ => rfl) ?_
 try simp only [clL]
 refine b0c List.mem_cons_self fun g3 => ?_
 simp only [upd, reduceIte]
 refine a0t fun xq w3 st3 hR => ?_
 try dsimp only
 clear hR xq
 refine a0o rfl rfl ?_
 refine a0h st3 2 rfl rfl rfl rfl (by simp [a0a]) (by kernel_rfl) (a0j _ _) ?_
 intro w4 st4
 repeat (first | simp only [List.cons_append] at st4 | simp only [List.nil_append] at st4 | simp only [List.set_cons_succ] at st4 | simp only [List.set_cons_zero] at st4)
 clear st3
 try simp only [Act.put]
 refine a0i ?_
 refine NoPanic.normal ?_
 go_wp2_with fail
 refine wp_region_noPanic ?_
 refine a0f st4 8 [.o 7, .t 2, .t 3, .t 5, .c 0, .c 1, .c 4, .c 6, .j 7] (.m 8 .nil) (by kernel_rfl) (by kernel_rfl) (fun _ _ _ _ _ h => h) ?_
 clear st4
 refine b0j rfl rfl rfl e0V (cw 4 0) rfl ?_
 try simp only [clL]
 refine a0e rfl rfl rfl (fun _ => rfl) (cw 4 (kN xx)) (fun wx hS => St.rangeL hS 2 rfl 0 _ dZl) Tryz.underlying60 rfl (by kernel_rfl) ?_
 try simp only [clL]
 refine a0e rfl rfl rfl (fun _ => rfl) (cw 4 (kN xx)) (fun wx hS => St.rangeL hS 2 rfl 0 _ dZl) Tryz.underlying60 rfl (by kernel_rfl) ?_
 try simp only [clL]
 refine a0e rfl rfl rfl (fun _ => rfl) (cw 4 (kN xx)) (fun wx hS => St.rangeL hS 2 rfl 0 _ dZl) Tryz.underlying60 rfl (by kernel_rfl) ?_
 try simp only [clL]
 refine a0b rfl rfl rfl Tryz.call112 (fun w hS hR => a0H _) (fun _ => rfl) ?_
 try simp only [clL]
 refine a0b rfl rfl rfl Tryz.call112 (fun w hS hR => a0H _) (fun _ => rfl) ?_
 try simp only [clL]
 refine a0b rfl rfl rfl Tryz.call57 (fun w hS hR => x0F xx xx d1 Hd1.out _) (fun _ => rfl) ?_
 try simp only [clL]
 refine a0b rfl rfl rfl Tryz.call57 (fun w hS hR => x0F d1 xx d Hd.out _) (fun _ => rfl) ?_
 try simp only [clL]
 refine b0c List.mem_cons_self fun g4 => ?_
 simp only [upd, reduceIte]
 refine a0t fun xq w5 st5 hR => ?_
 try dsimp only
 clear hR xq
 refine a0o rfl rfl ?_
 refine a0h st5 3 rfl rfl rfl rfl (by simp [a0a]) (by kernel_rfl) (a0j _ _) ?_
 intro w6 st6
 repeat (first | simp only [List.cons_append] at st6 | simp only [List.nil_append] at st6 | simp only [List.set_cons_succ] at st6 | simp only [List.set_cons_zero] at st6)
 clear st5
 try simp only [Act.put]
 refine a0i ?_
 refine NoPanic.normal ?_
 go_wp2_with fail
 refine wp_region_noPanic ?_
 refine a0f st6 11 [.o 10, .w 2, .t 3, .w 4, .t 5, .w 7, .t 8, .c 0, .c 1, .c 6, .c 9, .j 10] (.m 11 .nil) (by kernel_rfl) (by kernel_rfl) (fun _ _ _ _ _ h => h) ?_
 clear st6
 refine b0j rfl rfl rfl e0V (cw 4 0) rfl ?_
 try simp only [clL]
 refine a0n (v := ?_) rfl rfl (fun xq wx => ?_) ?_; rotate_left 1; · (go_simp; with_reducible rfl)
 try simp only [clL]
 refine a0e rfl rfl rfl (fun _ => rfl) (cw 4 (kN y)) (fun wx hS => St.rangeL hS 0 rfl 4 _ (l0X _ _ _)) Tryz.underlying60 rfl (by kernel_rfl) ?_
 try simp only [clL]
 refine a0n (v := ?_) rfl rfl (fun xq wx => ?_) ?_; rotate_left 1; · (go_simp; with_reducible rfl)
 try simp only [clL]
 refine a0e rfl rfl rfl (fun _ => rfl) (cw 4 (kN y)) (fun wx hS => St.rangeL hS 0 rfl 4 _ (l0X _ _ _)) Tryz.underlying60 rfl (by kernel_rfl) ?_
 try simp only [clL]
 refine a0n (v := ?_) rfl rfl (fun xq wx => ?_) ?_; rotate_left 1; · (go_simp; with_reducible rfl)
 try simp only [clL]
 refine a0e rfl rfl rfl (fun _ => rfl) (cw 4 (kN z)) (fun wx hS => St.rangeL hS 0 rfl 8 _ (f0C _ _ _)) Tryz.underlying60 rfl (by kernel_rfl) ?_
 try simp only [clL]
 refine a0b rfl rfl rfl Tryz.call112 (fun w hS hR => a0H _) (fun _ => rfl) ?_
 try simp only [clL]
 refine a0b rfl rfl rfl Tryz.call112 (fun w hS hR => a0H _) (fun _ => rfl) ?_
 try simp only [clL]
 refine a0b rfl rfl rfl Tryz.call57 (fun w hS hR => x0F y y y2 Hy2.out _) (fun _ => rfl) ?_
 try simp only [clL]
 refine a0b rfl rfl rfl Tryz.call58 (fun w hS hR => d0J y2 z ee Hee.out _) (fun _ => rfl) ?_
 try simp only [clL]
 refine b0c List.mem_cons_self fun g5 => ?_
 simp only [upd, reduceIte]
 refine a0t fun xq w7 st7 hR => ?_
 try dsimp only
 clear hR xq
 refine a0o rfl rfl ?_
 refine a0h st7 4 rfl rfl rfl rfl (by simp [a0a]) (by kernel_rfl) (a0j _ _) ?_
 intro w8 st8
 repeat (first | simp only [List.cons_append] at st8 | simp only [List.nil_append] at st8 | simp only [List.set_cons_succ] at st8 | simp only [List.set_cons_zero] at st8)
 clear st7
 try simp only [Act.put]
 refine a0i ?_
 refine NoPanic.normal ?_
 go_wp2_with fail
 refine wp_region_noPanic ?_
 refine a0f st8 5 [.o 4, .t 1, .t 2, .c 0, .c 3, .j 4] (.m 5 .nil) (by kernel_rfl) (by kernel_rfl) (fun _ _ _ _ _ h => h) ?_
 clear st8
 refine b0j rfl rfl rfl e0V (cw 4 0) rfl ?_
 try simp only [clL]
 refine a0e rfl rfl rfl (fun _ => rfl) (cw 4 (kN ee)) (fun wx hS => St.rangeL hS 4 rfl 0 _ dZl) Tryz.underlying60 rfl (by kernel_rfl) ?_
 try simp only [clL]
 refine a0e rfl rfl rfl (fun _ => rfl) (cw 4 (kN ee)) (fun wx hS => St.rangeL hS 4 rfl 0 _ dZl) Tryz.underlying60 rfl (by kernel_rfl) ?_
 try simp only [clL]
 refine a0b rfl rfl rfl Tryz.call112 (fun w hS hR => a0H _) (fun _ => rfl) ?_
 try simp only [clL]
 refine a0b rfl rfl rfl Tryz.call58 (fun w hS hR => d0J ee ee e2 He2.out _) (fun _ => rfl) ?_
 try simp only [clL]
 refine b0c List.mem_cons_self fun g6 => ?_
 simp only [upd, reduceIte]
 refine a0t fun xq w9 st9 hR => ?_
 try dsimp only
 clear hR xq
 refine a0o rfl rfl ?_
 refine a0h st9 5 rfl rfl rfl rfl (by simp [a0a]) (by kernel_rfl) (a0j _ _) ?_
 intro w10 st10
 repeat (first | simp only [List.cons_append] at st10 | simp only [List.nil_append] at st10 | simp only [List.set_cons_succ] at st10 | simp only [List.set_cons_zero] at st10)
 clear st9
 try simp only [Act.put]
 refine a0i ?_
 refine NoPanic.normal ?_
 go_wp2_with fail
 refine wp_region_noPanic ?_
 refine a0f st10 5 [.o 4, .t 1, .t 2, .c 0, .c 3, .j 4] (.m 5 .nil) (by kernel_rfl) (by kernel_rfl) (fun _ _ _ _ _ h => h) ?_
 clear st10
 refine b0j rfl rfl rfl e0V (cw 4 0) rfl ?_
 try simp only [clL]
 refine a0e rfl rfl rfl (fun _ => rfl) (cw 4 (kN e2)) (fun wx hS => St.rangeL hS 5 rfl 0 _ dZl) Tryz.underlying60 rfl (by kernel_rfl) ?_
 try simp only [clL]
 refine a0e rfl rfl rfl (fun _ => rfl) (cw 4 (kN ee)) (fun wx hS => St.rangeL hS 4 rfl 0 _ dZl) Tryz.underlying60 rfl (by kernel_rfl) ?_
 try simp only [clL]
 refine a0b rfl rfl rfl Tryz.call112 (fun w hS hR => a0H _) (fun _ => rfl) ?_
 try simp only [clL]
 refine a0b rfl rfl rfl Tryz.call58 (fun w hS hR => d0J e2 ee e3 He3.out _) (fun _ => rfl) ?_
 try simp only [clL]
 refine b0c List.mem_cons_self fun g7 => ?_
 simp only [upd, reduceIte]
 refine a0t fun xq w11 st11 hR => ?_
 try dsimp only
 clear hR xq
 refine a0o rfl rfl ?_
 refine a0h st11 6 rfl rfl rfl rfl (by simp [a0a]) (by kernel_rfl) (a0j _ _) ?_
 intro w12 st12
 repeat (first | simp only [List.cons_append] at st12 | simp only [List.nil_append] at st12 | simp only [List.set_cons_succ] at st12 | simp only [List.set_cons_zero] at st12)
 clear st11
 try simp only [Act.put]
 refine a0i ?_
 refine NoPanic.normal ?_
 go_wp2_with fail
 refine wp_region_noPanic ?_
 refine a0f st12 20 [.o 19, .t 3, .t 4, .w 6, .t 7, .w 11, .t 12, .w 13, .t 14, .t 16, .c 0, .c 1, .c 2, .c 5, .c 8, .c 9, .c 10, .c 15, .c 17, .c 18, .j 19] (.m 20 .nil) (by kernel_rfl) (by kernel_rfl) (fun _ _ _ _ _ h => h) ?_
 clear st12
 refine b0j rfl rfl rfl e0V (cw 4 0) rfl ?_
 try simp only [clL]
 refine a0e rfl rfl rfl (fun _ => rfl) (cw 4 (kN d)) (fun wx hS => St.rangeL hS 3 rfl 0 _ dZl) Tryz.underlying60 rfl (by kernel_rfl) ?_
 try simp only [clL]
 refine a0e rfl rfl rfl (fun _ => rfl) (cw 4 (kN d)) (fun wx hS => St.rangeL hS 3 rfl 0 _ dZl) Tryz.underlying60 rfl (by kernel_rfl) ?_
 try simp only [clL]
 refine a0n (v := ?_) rfl rfl (fun xq wx => ?_) ?_; rotate_left 1; · (go_simp; with_reducible rfl)
 try simp only [clL]
 refine a0e rfl rfl rfl (fun _ => rfl) (cw 4 (kN z)) (fun wx hS => St.rangeL hS 0 rfl 8 _ (f0C _ _ _)) Tryz.underlying60 rfl (by kernel_rfl) ?_
 try simp only [clL]
 refine a0n (v := ?_) rfl rfl (fun xq wx => ?_) ?_; rotate_left 1; · (go_simp; with_reducible rfl)
 try simp only [clL]
 refine a0e rfl rfl rfl (fun _ => rfl) (cw 4 (kN x)) (fun wx hS => St.rangeL hS 0 rfl 0 _ (k0p _ _ _)) Tryz.underlying60 rfl (by kernel_rfl) ?_
 try simp only [clL]
 refine a0n (v := ?_) rfl rfl (fun xq wx => ?_) ?_; rotate_left 1; · (go_simp; with_reducible rfl)
 try simp only [clL]
 refine a0e rfl rfl rfl (fun _ => rfl) (cw 4 (kN x)) (fun wx hS => St.rangeL hS 0 rfl 0 _ (k0p _ _ _)) Tryz.underlying60 rfl (by kernel_rfl) ?_
 try simp only [clL]
 refine a0e rfl rfl rfl (fun _ => rfl) (cw 4 (kN e2)) (fun wx hS => St.rangeL hS 5 rfl 0 _ dZl) Tryz.underlying60 rfl (by kernel_rfl) ?_
 try simp only [clL]
 refine a0b rfl rfl rfl Tryz.call112 (fun w hS hR => a0H _) (fun _ => rfl) ?_
 try simp only [clL]
 refine a0b rfl rfl rfl Tryz.call112 (fun w hS hR => a0H _) (fun _ => rfl) ?_
 try simp only [clL]
 refine a0b rfl rfl rfl Tryz.call112 (fun w hS hR => a0H _) (fun _ => rfl) ?_
 try simp only [clL]
 refine a0b rfl rfl rfl Tryz.call58 (fun w hS hR => d0J d d t1 Ht1.out _) (fun _ => rfl) ?_
 try simp only [clL]
 refine a0b rfl rfl rfl Tryz.call58 (fun w hS hR => d0J t1 z t2 Ht2.out _) (fun _ => rfl) ?_
 try simp only [clL]
 refine a0b rfl rfl rfl Tryz.call112 (fun w hS hR => a0H _) (fun _ => rfl) ?_
 try simp only [clL]
 refine a0b rfl rfl rfl Tryz.call112 (fun w hS hR => a0H _) (fun _ => rfl) ?_
 try simp only [clL]
 refine a0b rfl rfl rfl Tryz.call57 (fun w hS hR => x0F x x x2 Hx2.out _) (fun _ => rfl) ?_
 try simp only [clL]
 refine a0b rfl rfl rfl Tryz.call58 (fun w hS hR => d0J x2 e2 t3 Ht3.out _) (fun _ => rfl) ?_
 try simp only [clL]
 refine a0b rfl rfl rfl Tryz.call137 (fun w hS hR => u0z t2 t3 t Ht.out _) (fun _ => rfl) ?_
 try simp only [clL]
 refine b0c List.mem_cons_self fun g8 => ?_
 simp only [upd, reduceIte]
 refine a0t fun xq w13 st13 hR => ?_
 try dsimp only
 clear hR xq
 refine a0o rfl rfl ?_
 refine a0h st13 7 rfl rfl rfl rfl (by simp [a0a]) (by kernel_rfl) (a0j _ _) ?_
 intro w14 st14
 repeat (first | simp only [List.cons_append] at st14 | simp only [List.nil_append] at st14 | simp only [List.set_cons_succ] at st14 | simp only [List.set_cons_zero] at st14)
 clear st13
 try simp only [Act.put]
 refine a0i ?_
 refine NoPanic.normal ?_
 go_wp2_with fail
 refine wp_region_noPanic ?_
 refine a0f st14 5 [.o 4, .t 1, .t 2, .c 0, .c 3, .j 4] (.m 5 .nil) (by kernel_rfl) (by kernel_rfl) (fun _ _ _ _ _ h => h) ?_
 clear st14
 refine b0j rfl rfl rfl e0V (cw 4 0) rfl ?_
 try simp only [clL]
 refine a0e rfl rfl rfl (fun _ => rfl) (cw 4 (kN ee)) (fun wx hS => St.rangeL hS 4 rfl 0 _ dZl) Tryz.underlying60 rfl (by kernel_rfl) ?_
 try simp only [clL]
 refine a0e rfl rfl rfl (fun _ => rfl) (cw 4 (kN t)) (fun wx hS => St.rangeL hS 7 rfl 0 _ dZl) Tryz.underlying60 rfl (by kernel_rfl) ?_
 try simp only [clL]
 refine a0b rfl rfl rfl Tryz.call112 (fun w hS hR => a0H _) (fun _ => rfl) ?_
 try simp only [clL]
 refine a0b rfl rfl rfl Tryz.call58 (fun w hS hR => d0J ee t X HX.out _) (fun _ => rfl) ?_
 try simp only [clL]
 refine b0c List.mem_cons_self fun g9 => ?_
 simp only [upd, reduceIte]
 refine a0t fun xq w15 st15 hR => ?_
 try dsimp only
 clear hR xq
 refine a0o rfl rfl ?_
 refine a0h st15 8 rfl rfl rfl rfl (by simp [a0a]) (by kernel_rfl) (a0j _ _) ?_
 intro w16 st16
 repeat (first | simp only [List.cons_append] at st16 | simp only [List.nil_append] at st16 | simp only [List.set_cons_succ] at st16 | simp only [List.set_cons_zero] at st16)
 clear st15
 try simp only [Act.put]
 refine a0i ?_
 refine NoPanic.normal ?_
 go_wp2_with fail
 refine wp_region_noPanic ?_
 refine a0f st16 19 [.o 18, .t 2, .w 5, .t 6, .t 7, .t 9, .w 13, .t 14, .t 15, .c 0, .c 1, .c 3, .c 4, .c 8, .c 10, .c 11, .c 12, .c 16, .c 17, .j 18] (.m 19 .nil) (by kernel_rfl) (by kernel_rfl) (fun _ _ _ _ _ h => h) ?_
 clear st16
 refine b0j rfl rfl rfl e0V (cw 4 0) rfl ?_
 try simp only [clL]
 refine a0e rfl rfl rfl (fun _ => rfl) (cw 4 (kN d)) (fun wx hS => St.rangeL hS 3 rfl 0 _ dZl) Tryz.underlying60 rfl (by kernel_rfl) ?_
 try simp only [clL]
 refine a0n (v := ?_) rfl rfl (fun xq wx => ?_) ?_; rotate_left 1; · (go_simp; with_reducible rfl)
 try simp only [clL]
 refine a0e rfl rfl rfl (fun _ => rfl) (cw 4 (kN x)) (fun wx hS => St.rangeL hS 0 rfl 0 _ (k0p _ _ _)) Tryz.underlying60 rfl (by kernel_rfl) ?_
 try simp only [clL]
 refine a0e rfl rfl rfl (fun _ => rfl) (cw 4 (kN e2)) (fun wx hS => St.rangeL hS 5 rfl 0 _ dZl) Tryz.underlying60 rfl (by kernel_rfl) ?_
 try simp only [clL]
 refine a0e rfl rfl rfl (fun _ => rfl) (cw 4 (kN t)) (fun wx hS => St.rangeL hS 7 rfl 0 _ dZl) Tryz.underlying60 rfl (by kernel_rfl) ?_
 try simp only [clL]
 refine a0n (v := ?_) rfl rfl (fun xq wx => ?_) ?_; rotate_left 1; · (go_simp; with_reducible rfl)
 try simp only [clL]
 refine a0e rfl rfl rfl (fun _ => rfl) (cw 4 (kN y)) (fun wx hS => St.rangeL hS 0 rfl 4 _ (l0X _ _ _)) Tryz.underlying60 rfl (by kernel_rfl) ?_
 try simp only [clL]
 refine a0e rfl rfl rfl (fun _ => rfl) (cw 4 (kN e3)) (fun wx hS => St.rangeL hS 6 rfl 0 _ dZl) Tryz.underlying60 rfl (by kernel_rfl) ?_
 try simp only [clL]
 refine a0b rfl rfl rfl Tryz.call112 (fun w hS hR => a0H _) (fun _ => rfl) ?_
 try simp only [clL]
 refine a0b rfl rfl rfl Tryz.call112 (fun w hS hR => a0H _) (fun _ => rfl) ?_
 try simp only [clL]
 refine a0b rfl rfl rfl Tryz.call112 (fun w hS hR => a0H _) (fun _ => rfl) ?_
 try simp only [clL]
 refine a0b rfl rfl rfl Tryz.call112 (fun w hS hR => a0H _) (fun _ => rfl) ?_
 try simp only [clL]
 refine a0b rfl rfl rfl Tryz.call58 (fun w hS hR => d0J x e2 s1 Hs1.out _) (fun _ => rfl) ?_
 try simp only [clL]
 refine a0b rfl rfl rfl Tryz.call137 (fun w hS hR => u0z s1 t s2 Hs2.out _) (fun _ => rfl) ?_
 try simp only [clL]
 refine a0b rfl rfl rfl Tryz.call58 (fun w hS hR => d0J d s2 s3 Hs3.out _) (fun _ => rfl) ?_
 try simp only [clL]
 refine a0b rfl rfl rfl Tryz.call112 (fun w hS hR => a0H _) (fun _ => rfl) ?_
 try simp only [clL]
 refine a0b rfl rfl rfl Tryz.call58 (fun w hS hR => d0J y e3 s4 Hs4.out _) (fun _ => rfl) ?_
 try simp only [clL]
 refine a0b rfl rfl rfl Tryz.call137 (fun w hS hR => u0z s3 s4 Y HY.out _) (fun _ => rfl) ?_
 try simp only [clL]
 refine b0c List.mem_cons_self fun g10 => ?_
 simp only [upd, reduceIte]
 refine a0t fun xq w17 st17 hR => ?_
 try dsimp only
 clear hR xq
 refine a0o rfl rfl ?_
 refine a0h st17 9 rfl rfl rfl rfl (by simp [a0a]) (by kernel_rfl) (a0j _ _) ?_
 intro w18 st18
 repeat (first | simp only [List.cons_append] at st18 | simp only [List.nil_append] at st18 | simp only [List.set_cons_succ] at st18 | simp only [List.set_cons_zero] at st18)
 clear st17
 try simp only [Act.put]
 refine a0i ?_
 refine NoPanic.normal ?_
 go_wp2_with fail
 refine wp_region_noPanic ?_
 refine a0f st18 8 [.t 0, .t 1, .t 3, .w 4, .t 5, .c 2, .c 6, .w 7] (.m 8 .nil) (by kernel_rfl) (by kernel_rfl) (fun _ _ _ _ _ h => h) ?_
 clear st18
 refine a0e rfl rfl rfl (fun _ => rfl) (cw 4 (kN X)) (fun wx hS => St.rangeL hS 8 rfl 0 _ dZl) Tryz.underlying60 rfl (by kernel_rfl) ?_
 try simp only [clL]
 refine a0e rfl rfl rfl (fun _ => rfl) (cw 4 (kN Y)) (fun wx hS => St.rangeL hS 9 rfl 0 _ dZl) Tryz.underlying60 rfl (by kernel_rfl) ?_
 try simp only [clL]
 refine a0e rfl rfl rfl (fun _ => rfl) (cw 4 (kN e3)) (fun wx hS => St.rangeL hS 6 rfl 0 _ dZl) Tryz.underlying60 rfl (by kernel_rfl) ?_
 try simp only [clL]
 refine a0n (v := ?_) rfl rfl (fun xq wx => ?_) ?_; rotate_left 1; · (go_simp; with_reducible rfl)
 try simp only [clL]
 refine a0e rfl rfl rfl (fun _ => rfl) (cw 4 (kN z)) (fun wx hS => St.rangeL hS 0 rfl 8 _ (f0C _ _ _)) Tryz.underlying60 rfl (by kernel_rfl) ?_
 try simp only [clL]
 refine a0b rfl rfl rfl Tryz.call112 (fun w hS hR => a0H _) (fun _ => rfl) ?_
 try simp only [clL]
 refine a0b rfl rfl rfl Tryz.call58 (fun w hS hR => d0J e3 z Z HZ.out _) (fun _ => rfl) ?_
 try simp only [clL]
 refine a0n rfl rfl (fun _ => b0H rfl _ (g0U _ _ _)) ?_
 try simp only [clL]
 refine a0t fun xq w19 st19 hR => ?_
 try dsimp only
 clear hR xq
 refine a0o rfl rfl ?_
 refine a0h st19 1 rfl rfl rfl rfl (by simp [a0a]) (by kernel_rfl) (a0X _ _ _) ?_
 intro w20 st20
 try simp only [List.set_cons_zero, List.set_cons_succ] at st20
 clear st19
 try simp only [Act.put]
 refine a0i ?_
 refine NoPanic.normal ?_
 have hr := st20.at 1 rfl
 have hfr := st20.fr
 clear st20
 go_wp2_with fail
 exact bodyPost_ret (a0x rfl rfl hr Tryz.underlying62 rfl (by kernel_rfl)) rfl ⟨rfl, hfr⟩
theorem m0M (x1 y1 z1 x2 y2 z2 : K) (hb1 : decide (z1 = 0) = true) (w : World) : Calls Tryz.prog 68 #[rpV x1 y1 z1, rpV x2 y2 z2] w fun e w' => e = .returned (rpV x2 y2 z2) ∧ Fr Nob w w' := by
 have HB1 := qH hb1
 clear hb1
 unfold rpV rpL
 have st0 := St.start Nob w
 go_enter Tryz.func68, Tryz.ntmps68
 go_wp2_with (with_reducible refine wSk 2 ?_)
 refine a0m st0 rfl rfl rfl (cw 4 (kN x1) ++ (cw 4 (kN y1) ++ cw 4 (kN z1))) rfl ?_
 intro g2 w1 st1
 clear st0
 go_wp2_with (with_reducible refine wSk 3 ?_)
 refine a0m st1 rfl rfl rfl (cw 4 (kN x2) ++ (cw 4 (kN y2) ++ cw 4 (kN z2))) rfl ?_
 intro g3 w2 st2
 clear st1
 go_wp2_with (with_reducible refine wSk 4 ?_)
 refine a0c st2 rfl rfl (z := zAc) (by kernel_rfl) (cw 12 0) (by rw [a0g]; rfl) ?_
 intro g4 w3 st3
 clear st2
 go_wp2_with (with_reducible refine wSk 16 ?_)
 refine a0q st3 0 rfl rfl rfl Tryz.underlying62 rfl rfl (by kernel_rfl) ?_
 go_wp2_with fail
 refine (d0n x1 y1 z1 true HB1.out _).mono ?_
 rintro e' w4 ⟨rfl, hf4⟩
 have st4 := st3.keep hf4
 clear st3 hf4
 go_wp2_with (with_reducible refine wSk 19 ?_)
 refine a0q st4 1 rfl rfl rfl Tryz.underlying62 rfl rfl (by kernel_rfl) ?_
 go_wp2_with (with_reducible refine wSn ?_)
 refine a0d st4 2 rfl rfl rfl rfl rfl (by simp [a0a]) (by kernel_rfl) (a0X _ _ _) ?_
 intro w5 st5
 clear st4
 have hr := st5.at 2 rfl
 have hfr := st5.fr
 clear st5
 go_wp2_with fail
 exact bodyPost_ret (a0x rfl rfl hr Tryz.underlying62 rfl (by kernel_rfl)) rfl ⟨rfl, hfr⟩
theorem m0N (x1 y1 z1 x2 y2 z2 : K) (hb1 : decide (z1 = 0) = false) (hb2 : decide (z2 = 0) = true) (w : World) : Calls Tryz.prog 68 #[rpV x1 y1 z1, rpV x2 y2 z2] w fun e w' => e = .returned (rpV x1 y1 z1) ∧ Fr Nob w w' := by
 have HB1 := qH hb1
 have HB2 := qH hb2
 clear hb1 hb2
 unfold rpV rpL
 have st0 := St.start Nob w
 go_enter Tryz.func68, Tryz.ntmps68
 go_wp2_with (with_reducible refine wSk 2 ?_)
 refine a0m st0 rfl rfl rfl (cw 4 (kN x1) ++ (cw 4 (kN y1) ++ cw 4 (kN z1))) rfl ?_
 intro g2 w1 st1
 clear st0
 go_wp2_with (with_reducible refine wSk 3 ?_)
 refine a0m st1 rfl rfl rfl (cw 4 (kN x2) ++ (cw 4 (kN y2) ++ cw 4 (kN z2))) rfl ?_
 intro g3 w2 st2
 clear st1
 go_wp2_with (with_reducible refine wSk 4 ?_)
 refine a0c st2 rfl rfl (z := zAc) (by kernel_rfl) (cw 12 0) (by rw [a0g]; rfl) ?_
 intro g4 w3 st3
 clear st2
 go_wp2_with (with_reducible refine wSk 16 ?_)
 refine a0q st3 0 rfl rfl rfl Tryz.underlying62 rfl rfl (by kernel_rfl) ?_
 go_wp2_with fail
 refine (d0n x1 y1 z1 false HB1.out _).mono ?_
 rintro e' w4 ⟨rfl, hf4⟩
 have st4 := st3.keep hf4
 clear st3 hf4
 go_wp2_with (with_reducible refine wSk 20 ?_)
 refine a0q st4 1 rfl rfl rfl Tryz.underlying62 rfl rfl (by kernel_rfl) ?_
 go_wp2_with fail
 refine (d0n x2 y2 z2 true HB2.out _).mono ?_
 rintro e' w5 ⟨rfl, hf5⟩
 have st5 := st4.keep hf5
 clear st4 hf5
 go_wp2_with (with_reducible refine wSk 23 ?_)
 refine a0q st5 0 rfl rfl rfl Tryz.underlying62 rfl rfl (by kernel_rfl) ?_
 go_wp2_with (with_reducible refine wSn ?_)
 refine a0d st5 2 rfl rfl rfl rfl rfl (by simp [a0a]) (by kernel_rfl) (a0X _ _ _) ?_
 intro w6 st6
 clear st5
 have hr := st6.at 2 rfl
 have hfr := st6.fr
 clear st6
 go_wp2_with fail
 exact bodyPost_ret (a0x rfl rfl hr Tryz.underlying62 rfl (by kernel_rfl)) rfl ⟨rfl, hfr⟩
theorem z0z {P : Program} {ops : Array Oper} {Q : Exit → Act → World → Prop} {a : Act} {w : World} {rest : List Oper} {o : Oper} (hw : Region.wanted o (yielded ops a.tmps) = true) (h : wpList P ops Q ({o with guard := none} :: rest) a w) : wpList P ops Q (o :: rest) a w := by
 unfold wpList at h ⊢
 rw [if_pos hw]
 rw [if_pos (by simp [Region.wanted])] at h
 exact h
theorem l0o (x y : K) {o : Oper} {a : Act} {p q : Operand} {T : TypeId} (ho : o.op = .binOp .neq 60 p q T) (hp : a.eval p = i4 (kN x)) (hq : a.eval q = i4 (kN y)) {b : Bool} (hb : decide (x = y) = b) (w : World) :
  (execOp a.eval o).run Tryz.prog w = .ok (.value (.bool !b)) w :=
 d0a ho hp hq w (run_eqGuard_agg w .neq 60 p q _ _ Tryz.eqGuardType60) (by
  show (do pure (Value.bool (!(← Op.equal 60 (.agg (cw 4 (kN x)).toArray) (.agg (cw 4 (kN y)).toArray))))).run Tryz.prog w = _
  simp only [Sem.run_bind, r0L x y hb w, Result.andThen_ok]
  rfl)
theorem x0J (w : World) : Calls Tryz.prog 95 #[] w fun e w' => e = .returned (.agg (cw 4 (kN 0) ++ (cw 4 (kN 1) ++ cw 4 (kN 0))).toArray) ∧ Fr Nob w w' := l0n w
theorem r0O (x1 y1 z1 x2 y2 z2 : K) (hb1 : decide (z1 = 0) = false) (hb2 : decide (z2 = 0) = false) (u v u2 v2 : K) (eu : y2 * z1 = u) (ev : x2 * z1 = v) (eu2 : y1 * z2 = u2) (ev2 : x1 * z2 = v2) (hv : decide (v = v2) = true) (hu : decide (u = u2) = false) (w : World) : Calls Tryz.prog 68 #[rpV x1 y1 z1, rpV x2 y2 z2] w fun e w' => e = .returned (rpV 0 1 0) ∧ Fr Nob w w' := by
 have HB1 := qH hb1
 have HB2 := qH hb2
 clear hb1 hb2
 have Hu := qH eu
 have Hv := qH ev
 have Hu2 := qH eu2
 have Hv2 := qH ev2
 clear eu ev eu2 ev2
 have HV := qH hv
 clear hv
 have HU := qH hu
 clear hu
 unfold rpV rpL
 have st0 := St.start Nob w
 go_enter Tryz.func68, Tryz.ntmps68
 go_wp2_with (with_reducible refine wSk 2 ?_)
 refine a0m st0 rfl rfl rfl (cw 4 (kN x1) ++ (cw 4 (kN y1) ++ cw 4 (kN z1))) rfl ?_
 intro g2 w1 st1
 clear st0
 go_wp2_with (with_reducible refine wSk 3 ?_)
 refine a0m st1 rfl rfl rfl (cw 4 (kN x2) ++ (cw 4 (kN y2) ++ cw 4 (kN z2))) rfl ?_
 intro g3 w2 st2
 clear st1
 go_wp2_with (with_reducible refine wSk 4 ?_)
 refine a0c st2 rfl rfl (z := zAc) (by kernel_rfl) (cw 12 0) (by rw [a0g]; rfl) ?_
 intro g4 w3 st3
 clear st2
 go_wp2_with (with_reducible refine wSk 16 ?_)
 refine a0q st3 0 rfl rfl rfl Tryz.underlying62 rfl rfl (by kernel_rfl) ?_
 go_wp2_with fail
 refine (d0n x1 y1 z1 false HB1.out _).mono ?_
 rintro e' w4 ⟨rfl, hf4⟩
 have st4 := st3.keep hf4
 clear st3 hf4
 go_wp2_with (with_reducible refine wSk 20 ?_)
 refine a0q st4 1 rfl rfl rfl Tryz.underlying62 rfl rfl (by kernel_rfl) ?_
 go_wp2_with fail
 refine (d0n x2 y2 z2 false HB2.out _).mono ?_
 rintro e' w5 ⟨rfl, hf5⟩
 have st5 := st4.keep hf5
 clear st4 hf5
 go_wp2_with fail
 refine wp_region_noPanic ?_
 refine a0f st5 7 [.o 6, .w 1, .t 2, .w 3, .t 4, .c 0, .c 5, .j 6] (.m 7 .nil) (by kernel_rfl) (by kernel_rfl) (fun _ _ _ _ _ h => h) ?_
 clear st5
 refine b0j rfl rfl rfl e0V (cw 4 0) rfl ?_
 try simp only [clL]
 refine a0n (v := ?_) rfl rfl (fun xq wx => ?_) ?_; rotate_left 1; · (go_simp; with_reducible rfl)
 try simp only [clL]
 refine a0e rfl rfl rfl (fun _ => rfl) (cw 4 (kN y2)) (fun wx hS => St.rangeL hS 1 rfl 4 _ (l0X _ _ _)) Tryz.underlying60 rfl (by kernel_rfl) ?_
 try simp only [clL]
 refine a0n (v := ?_) rfl rfl (fun xq wx => ?_) ?_; rotate_left 1; · (go_simp; with_reducible rfl)
 try simp only [clL]
 refine a0e rfl rfl rfl (fun _ => rfl) (cw 4 (kN z1)) (fun wx hS => St.rangeL hS 0 rfl 8 _ (f0C _ _ _)) Tryz.underlying60 rfl (by kernel_rfl) ?_
 try simp only [clL]
 refine a0b rfl rfl rfl Tryz.call112 (fun w hS hR => a0H _) (fun _ => rfl) ?_
 try simp only [clL]
 refine a0b rfl rfl rfl Tryz.call58 (fun w hS hR => d0J y2 z1 u Hu.out _) (fun _ => rfl) ?_
 try simp only [clL]
 refine b0c List.mem_cons_self fun g6 => ?_
 simp only [upd, reduceIte]
 refine a0t fun xq w6 st6 hR => ?_
 try dsimp only
 clear hR xq
 refine a0o rfl rfl ?_
 refine a0h st6 3 rfl rfl rfl rfl (by simp [a0a]) (by kernel_rfl) (a0j _ _) ?_
 intro w7 st7
 repeat (first | simp only [List.cons_append] at st7 | simp only [List.nil_append] at st7 | simp only [List.set_cons_succ] at st7 | simp only [List.set_cons_zero] at st7)
 clear st6
 try simp only [Act.put]
 refine a0i ?_
 refine NoPanic.normal ?_
 go_wp2_with fail
 refine wp_region_noPanic ?_
 refine a0f st7 7 [.o 6, .w 1, .t 2, .w 3, .t 4, .c 0, .c 5, .j 6] (.m 7 .nil) (by kernel_rfl) (by kernel_rfl) (fun _ _ _ _ _ h => h) ?_
 clear st7
 refine b0j rfl rfl rfl e0V (cw 4 0) rfl ?_
 try simp only [clL]
 refine a0n (v := ?_) rfl rfl (fun xq wx => ?_) ?_; rotate_left 1; · (go_simp; with_reducible rfl)
 try simp only [clL]
 refine a0e rfl rfl rfl (fun _ => rfl) (cw 4 (kN x2)) (fun wx hS => St.rangeL hS 1 rfl 0 _ (k0p _ _ _)) Tryz.underlying60 rfl (by kernel_rfl) ?_
 try simp only [clL]
 refine a0n (v := ?_) rfl rfl (fun xq wx => ?_) ?_; rotate_left 1; · (go_simp; with_reducible rfl)
 try simp only [clL]
 refine a0e rfl rfl rfl (fun _ => rfl) (cw 4 (kN z1)) (fun wx hS => St.rangeL hS 0 rfl 8 _ (f0C _ _ _)) Tryz.underlying60 rfl (by kernel_rfl) ?_
 try simp only [clL]
 refine a0b rfl rfl rfl Tryz.call112 (fun w hS hR => a0H _) (fun _ => rfl) ?_
 try simp only [clL]
 refine a0b rfl rfl rfl Tryz.call58 (fun w hS hR => d0J x2 z1 v Hv.out _) (fun _ => rfl) ?_
 try simp only [clL]
 refine b0c List.mem_cons_self fun g7 => ?_
 simp only [upd, reduceIte]
 refine a0t fun xq w8 st8 hR => ?_
 try dsimp only
 clear hR xq
 refine a0o rfl rfl ?_
 refine a0h st8 4 rfl rfl rfl rfl (by simp [a0a]) (by kernel_rfl) (a0j _ _) ?_
 intro w9 st9
 repeat (first | simp only [List.cons_append] at st9 | simp only [List.nil_append] at st9 | simp only [List.set_cons_succ] at st9 | simp only [List.set_cons_zero] at st9)
 clear st8
 try simp only [Act.put]
 refine a0i ?_
 refine NoPanic.normal ?_
 go_wp2_with fail
 refine wp_region_noPanic ?_
 refine a0f st9 7 [.o 6, .w 1, .t 2, .w 3, .t 4, .c 0, .c 5, .j 6] (.m 7 .nil) (by kernel_rfl) (by kernel_rfl) (fun _ _ _ _ _ h => h) ?_
 clear st9
 refine b0j rfl rfl rfl e0V (cw 4 0) rfl ?_
 try simp only [clL]
 refine a0n (v := ?_) rfl rfl (fun xq wx => ?_) ?_; rotate_left 1; · (go_simp; with_reducible rfl)
 try simp only [clL]
 refine a0e rfl rfl rfl (fun _ => rfl) (cw 4 (kN y1)) (fun wx hS => St.rangeL hS 0 rfl 4 _ (l0X _ _ _)) Tryz.underlying60 rfl (by kernel_rfl) ?_
 try simp only [clL]
 refine a0n (v := ?_) rfl rfl (fun xq wx => ?_) ?_; rotate_left 1; · (go_simp; with_reducible rfl)
 try simp only [clL]
 refine a0e rfl rfl rfl (fun _ => rfl) (cw 4 (kN z2)) (fun wx hS => St.rangeL hS 1 rfl 8 _ (f0C _ _ _)) Tryz.underlying60 rfl (by kernel_rfl) ?_
 try simp only [clL]
 refine a0b rfl rfl rfl Tryz.call112 (fun w hS hR => a0H _) (fun _ => rfl) ?_
 try simp only [clL]
 refine a0b rfl rfl rfl Tryz.call58 (fun w hS hR => d0J y1 z2 u2 Hu2.out _) (fun _ => rfl) ?_
 try simp only [clL]
 refine b0c List.mem_cons_self fun g8 => ?_
 simp only [upd, reduceIte]
 refine a0t fun xq w10 st10 hR => ?_
 try dsimp only
 clear hR xq
 refine a0o rfl rfl ?_
 refine a0h st10 5 rfl rfl rfl rfl (by simp [a0a]) (by kernel_rfl) (a0j _ _) ?_
 intro w11 st11
 repeat (first | simp only [List.cons_append] at st11 | simp only [List.nil_append] at st11 | simp only [List.set_cons_succ] at st11 | simp only [List.set_cons_zero] at st11)
 clear st10
 try simp only [Act.put]
 refine a0i ?_
 refine NoPanic.normal ?_
 go_wp2_with fail
 refine wp_region_noPanic ?_
 refine a0f st11 7 [.o 6, .w 1, .t 2, .w 3, .t 4, .c 0, .c 5, .j 6] (.m 7 .nil) (by kernel_rfl) (by kernel_rfl) (fun _ _ _ _ _ h => h) ?_
 clear st11
 refine b0j rfl rfl rfl e0V (cw 4 0) rfl ?_
 try simp only [clL]
 refine a0n (v := ?_) rfl rfl (fun xq wx => ?_) ?_; rotate_left 1; · (go_simp; with_reducible rfl)
 try simp only [clL]
 refine a0e rfl rfl rfl (fun _ => rfl) (cw 4 (kN x1)) (fun wx hS => St.rangeL hS 0 rfl 0 _ (k0p _ _ _)) Tryz.underlying60 rfl (by kernel_rfl) ?_
 try simp only [clL]
 refine a0n (v := ?_) rfl rfl (fun xq wx => ?_) ?_; rotate_left 1; · (go_simp; with_reducible rfl)
 try simp only [clL]
 refine a0e rfl rfl rfl (fun _ => rfl) (cw 4 (kN z2)) (fun wx hS => St.rangeL hS 1 rfl 8 _ (f0C _ _ _)) Tryz.underlying60 rfl (by kernel_rfl) ?_
 try simp only [clL]
 refine a0b rfl rfl rfl Tryz.call112 (fun w hS hR => a0H _) (fun _ => rfl) ?_
 try simp only [clL]
 refine a0b rfl rfl rfl Tryz.call58 (fun w hS hR => d0J x1 z2 v2 Hv2.out _) (fun _ => rfl) ?_
 try simp only [clL]
 refine b0c List.mem_cons_self fun g9 => ?_
 simp only [upd, reduceIte]
 refine a0t fun xq w12 st12 hR => ?_
 try dsimp only
 clear hR xq
 refine a0o rfl rfl ?_
 refine a0h st12 6 rfl rfl rfl rfl (by simp [a0a]) (by kernel_rfl) (a0j _ _) ?_
 intro w13 st13
 repeat (first | simp only [List.cons_append] at st13 | simp only [List.nil_append] at st13 | simp only [List.set_cons_succ] at st13 | simp only [List.set_cons_zero] at st13)
 clear st12
 try simp only [Act.put]
 refine a0i ?_
 refine NoPanic.normal ?_
 go_wp2_with (with_reducible refine wSk 48 ?_)
 refine a0k st13 4 rfl rfl rfl Tryz.underlying60 rfl (by kernel_rfl) ?_
 go_wp2_with (with_reducible refine wSk 49 ?_)
 refine a0k st13 6 rfl rfl rfl Tryz.underlying60 rfl (by kernel_rfl) ?_
 go_wp2_with (with_reducible refine wSk 50 ?_)
 refine e0v rfl (h0O v v2 rfl rfl rfl HV.out _) ?_
 go_wp2_with (with_reducible refine wSk 51 ?_)
 refine a0k st13 3 rfl rfl rfl Tryz.underlying60 rfl (by kernel_rfl) ?_
 go_wp2_with (with_reducible refine wSk 52 ?_)
 refine a0k st13 5 rfl rfl rfl Tryz.underlying60 rfl (by kernel_rfl) ?_
 go_wp2_with (with_reducible refine wSk 53 ?_)
 refine e0v rfl (l0o u u2 rfl rfl rfl HU.out _) ?_
 go_wp2_with fail
 refine (x0J _).mono ?_
 rintro e' w14 ⟨rfl, hf14⟩
 have st14 := st13.keep hf14
 clear st13 hf14
 go_wp2_with (with_reducible refine wSn ?_)
 refine a0d st14 2 rfl rfl rfl rfl rfl (by simp [a0a]) (by kernel_rfl) (a0X _ _ _) ?_
 intro w15 st15
 clear st14
 have hr := st15.at 2 rfl
 have hfr := st15.fr
 clear st15
 go_wp2_with fail
 exact bodyPost_ret (a0x rfl rfl hr Tryz.underlying62 rfl (by kernel_rfl)) rfl ⟨rfl, hfr⟩
theorem r0P (x y z X Y Z : K) (w : World) (h : Calls Tryz.prog 136 #[rpV x y z] w fun e w' => e = .returned (rpV X Y Z) ∧ Fr Nob w w') : Calls Tryz.prog 136 #[.agg (cw 4 (kN x) ++ (cw 4 (kN y) ++ cw 4 (kN z))).toArray] w fun e w' => e = .returned (.agg (cw 4 (kN X) ++ (cw 4 (kN Y) ++ cw 4 (kN Z))).toArray) ∧ Fr Nob w w' := h
theorem r0Q (x1 y1 z1 x2 y2 z2 : K) (hb1 : decide (z1 = 0) = false) (hb2 : decide (z2 = 0) = false) (u v u2 v2 : K) (eu : y2 * z1 = u) (ev : x2 * z1 = v) (eu2 : y1 * z2 = u2) (ev2 : x1 * z2 = v2) (hv : decide (v = v2) = true) (hu : decide (u = u2) = true) (hz : decide (u = 0) = false) (X Y Z : K) (hdb : ∀ wx, Calls Tryz.prog 136 #[rpV x1 y1 z1] wx fun e w' => e = .returned (rpV X Y Z) ∧ Fr Nob wx w') (w : World) : Calls Tryz.prog 68 #[rpV x1 y1 z1, rpV x2 y2 z2] w fun e w' => e = .returned (rpV X Y Z) ∧ Fr Nob w w' := by
 have HB1 := qH hb1
 have HB2 := qH hb2
 clear hb1 hb2
 have Hu := qH eu
 have Hv := qH ev
 have Hu2 := qH eu2
 have Hv2 := qH ev2
 clear eu ev eu2 ev2
 have HV := qH hv
 clear hv
 have HU := qH hu
 clear hu
 have HZ := qH hz
 have HDB := qH hdb
 clear hz hdb
 unfold rpV rpL
 have st0 := St.start Nob w
 go_enter Tryz.func68, Tryz.ntmps68
 go_wp2_with (with_reducible refine wSk 2 ?_)
 refine a0m st0 rfl rfl rfl (cw 4 (kN x1) ++ (cw 4 (kN y1) ++ cw 4 (kN z1))) rfl ?_
 intro g2 w1 st1
 clear st0
 go_wp2_with (with_reducible refine wSk 3 ?_)
 refine a0m st1 rfl rfl rfl (cw 4 (kN x2) ++ (cw 4 (kN y2) ++ cw 4 (kN z2))) rfl ?_
 intro g3 w2 st2
 clear st1
 go_wp2_with (with_reducible refine wSk 4 ?_)
 refine a0c st2 rfl rfl (z := zAc) (by kernel_rfl) (cw 12 0) (by rw [a0g]; rfl) ?_
 intro g4 w3 st3
 clear st2
 go_wp2_with (with_reducible refine wSk 16 ?_)
 refine a0q st3 0 rfl rfl rfl Tryz.underlying62 rfl rfl (by kernel_rfl) ?_
 go_wp2_with fail
 refine (d0n x1 y1 z1 false HB1.out _).mono ?_
 rintro e' w4 ⟨rfl, hf4⟩
 have st4 := st3.keep hf4
 clear st3 hf4
 go_wp2_with (with_reducible refine wSk 20 ?_)
 refine a0q st4 1 rfl rfl rfl Tryz.underlying62 rfl rfl (by kernel_rfl) ?_
 go_wp2_with fail
 refine (d0n x2 y2 z2 false HB2.out _).mono ?_
 rintro e' w5 ⟨rfl, hf5⟩
 have st5 := st4.keep hf5
 clear st4 hf5
 go_wp2_with fail
 refine wp_region_noPanic ?_
 refine a0f st5 7 [.o 6, .w 1, .t 2, .w 3, .t 4, .c 0, .c 5, .j 6] (.m 7 .nil) (by kernel_rfl) (by kernel_rfl) (fun _ _ _ _ _ h => h) ?_
 clear st5
 refine b0j rfl rfl rfl e0V (cw 4 0) rfl ?_
 try simp only [clL]
 refine a0n (v := ?_) rfl rfl (fun xq wx => ?_) ?_; rotate_left 1; · (go_simp; with_reducible rfl)
 try simp only [clL]
 refine a0e rfl rfl rfl (fun _ => rfl) (cw 4 (kN y2)) (fun wx hS => St.rangeL hS 1 rfl 4 _ (l0X _ _ _)) Tryz.underlying60 rfl (by kernel_rfl) ?_
 try simp only [clL]
 refine a0n (v := ?_) rfl rfl (fun xq wx => ?_) ?_; rotate_left 1; · (go_simp; with_reducible rfl)
 try simp only [clL]
 refine a0e rfl rfl rfl (fun _ => rfl) (cw 4 (kN z1)) (fun wx hS => St.rangeL hS 0 rfl 8 _ (f0C _ _ _)) Tryz.underlying60 rfl (by kernel_rfl) ?_
 try simp only [clL]
 refine a0b rfl rfl rfl Tryz.call112 (fun w hS hR => a0H _) (fun _ => rfl) ?_
 try simp only [clL]
 refine a0b rfl rfl rfl Tryz.call58 (fun w hS hR => d0J y2 z1 u Hu.out _) (fun _ => rfl) ?_
 try simp only [clL]
 refine b0c List.mem_cons_self fun g6 => ?_
 simp only [upd, reduceIte]
 refine a0t fun xq w6 st6 hR => ?_
 try dsimp only
 clear hR xq
 refine a0o rfl rfl ?_
 refine a0h st6 3 rfl rfl rfl rfl (by simp [a0a]) (by kernel_rfl) (a0j _ _) ?_
 intro w7 st7
 repeat (first | simp only [List.cons_append] at st7 | simp only [List.nil_append] at st7 | simp only [List.set_cons_succ] at st7 | simp only [List.set_cons_zero] at st7)
 clear st6
 try simp only [Act.put]
 refine a0i ?_
 refine NoPanic.normal ?_
 go_wp2_with fail
 refine wp_region_noPanic ?_
 refine a0f st7 7 [.o 6, .w 1, .t 2, .w 3, .t 4, .c 0, .c 5, .j 6] (.m 7 .nil) (by kernel_rfl) (by kernel_rfl) (fun _ _ _ _ _ h => h) ?_
 clear st7
 refine b0j rfl rfl rfl e0V (cw 4 0) rfl ?_
 try simp only [clL]
 refine a0n (v := ?_) rfl rfl (fun xq wx => ?_) ?_; rotate_left 1; · (go_simp; with_reducible rfl)
 try simp only [clL]
 refine a0e rfl rfl rfl (fun _ => rfl) (cw 4 (kN x2)) (fun wx hS => St.rangeL hS 1 rfl 0 _ (k0p _ _ _)) Tryz.underlying60 rfl (by kernel_rfl) ?_
 try simp only [clL]
 refine a0n (v := ?_) rfl rfl (fun xq wx => ?_) ?_; rotate_left 1; · (go_simp; with_reducible rfl)
 try simp only [clL]
 refine a0e rfl rfl rfl (fun _ => rfl) (cw 4 (kN z1)) (fun wx hS => St.rangeL hS 0 rfl 8 _ (f0C _ _ _)) Tryz.underlying60 rfl (by kernel_rfl) ?_
 try simp only [clL]
 refine a0b rfl rfl rfl Tryz.call112 (fun w hS hR => a0H _) (fun _ => rfl) ?_
 try simp only [clL]
 refine a0b rfl rfl rfl Tryz.call58 (fun w hS hR => d0J x2 z1 v Hv.out _) (fun _ => rfl) ?_
 try simp only [clL]
 refine b0c List.mem_cons_self fun g7 => ?_
 simp only [upd, reduceIte]
 refine a0t fun xq w8 st8 hR => ?_
 try dsimp only
 clear hR xq
 refine a0o rfl rfl ?_
 refine a0h st8 4 rfl rfl rfl rfl (by simp [a0a]) (by kernel_rfl) (a0j _ _) ?_
 intro w9 st9
 repeat (first | simp only [List.cons_append] at st9 | simp only [List.nil_append] at st9 | simp only [List.set_cons_succ] at st9 | simp only [List.set_cons_zero] at st9)
 clear st8
 try simp only [Act.put]
 refine a0i ?_
 refine NoPanic.normal ?_
 go_wp2_with fail
 refine wp_region_noPanic ?_
 refine a0f st9 7 [.o 6, .w 1, .t 2, .w 3, .t 4, .c 0, .c 5, .j 6] (.m 7 .nil) (by kernel_rfl) (by kernel_rfl) (fun _ _ _ _ _ h => h) ?_
 clear st9
 refine b0j rfl rfl rfl e0V (cw 4 0) rfl ?_
 try simp only [clL]
 refine a0n (v := ?_) rfl rfl (fun xq wx => ?_) ?_; rotate_left 1; · (go_simp; with_reducible rfl)
 try simp only [clL]
 refine a0e rfl rfl rfl (fun _ => rfl) (cw 4 (kN y1)) (fun wx hS => St.rangeL hS 0 rfl 4 _ (l0X _ _ _)) Tryz.underlying60 rfl (by kernel_rfl) ?_
 try simp only [clL]
 refine a0n (v := ?_) rfl rfl (fun xq wx => ?_) ?_; rotate_left 1; · (go_simp; with_reducible rfl)
 try simp only [clL]
 refine a0e rfl rfl rfl (fun _ => rfl) (cw 4 (kN z2)) (fun wx hS => St.rangeL hS 1 rfl 8 _ (f0C _ _ _)) Tryz.underlying60 rfl (by kernel_rfl) ?_
 try simp only [clL]
 refine a0b rfl rfl rfl Tryz.call112 (fun w hS hR => a0H _) (fun _ => rfl) ?_
 try simp only [clL]
 refine a0b rfl rfl rfl Tryz.call58 (fun w hS hR => d0J y1 z2 u2 Hu2.out _) (fun _ => rfl) ?_
 try simp only [clL]
 refine b0c List.mem_cons_self fun g8 => ?_
 simp only [upd, reduceIte]
 refine a0t fun xq w10 st10 hR => ?_
 try dsimp only
 clear hR xq
 refine a0o rfl rfl ?_
 refine a0h st10 5 rfl rfl rfl rfl (by simp [a0a]) (by kernel_rfl) (a0j _ _) ?_
 intro w11 st11
 repeat (first | simp only [List.cons_append] at st11 | simp only [List.nil_append] at st11 | simp only [List.set_cons_succ] at st11 | simp only [List.set_cons_zero] at st11)
 clear st10
 try simp only [Act.put]
 refine a0i ?_
 refine NoPanic.normal ?_
 go_wp2_with fail
 refine wp_region_noPanic ?_
 refine a0f st11 7 [.o 6, .w 1, .t 2, .w 3, .t 4, .c 0, .c 5, .j 6] (.m 7 .nil) (by kernel_rfl) (by kernel_rfl) (fun _ _ _ _ _ h => h) ?_
 clear st11
 refine b0j rfl rfl rfl e0V (cw 4 0) rfl ?_
 try simp only [clL]
 refine a0n (v := ?_) rfl rfl (fun xq wx => ?_) ?_; rotate_left 1; · (go_simp; with_reducible rfl)
 try simp only [clL]
 refine a0e rfl rfl rfl (fun _ => rfl) (cw 4 (kN x1)) (fun wx hS => St.rangeL hS 0 rfl 0 _ (k0p _ _ _)) Tryz.underlying60 rfl (by kernel_rfl) ?_
 try simp only [clL]
 refine a0n (v := ?_) rfl rfl (fun xq wx => ?_) ?_; rotate_left 1; · (go_simp; with_reducible rfl)
 try simp only [clL]
 refine a0e rfl rfl rfl (fun _ => rfl) (cw 4 (kN z2)) (fun wx hS => St.rangeL hS 1 rfl 8 _ (f0C _ _ _)) Tryz.underlying60 rfl (by kernel_rfl) ?_
 try simp only [clL]
 refine a0b rfl rfl rfl Tryz.call112 (fun w hS hR => a0H _) (fun _ => rfl) ?_
 try simp only [clL]
 refine a0b rfl rfl rfl Tryz.call58 (fun w hS hR => d0J x1 z2 v2 Hv2.out _) (fun _ => rfl) ?_
 try simp only [clL]
 refine b0c List.mem_cons_self fun g9 => ?_
 simp only [upd, reduceIte]
 refine a0t fun xq w12 st12 hR => ?_
 try dsimp only
 clear hR xq
 refine a0o rfl rfl ?_
 refine a0h st12 6 rfl rfl rfl rfl (by simp [a0a]) (by kernel_rfl) (a0j _ _) ?_
 intro w13 st13
 repeat (first | simp only [List.cons_append] at st13 | simp only [List.nil_append] at st13 | simp only [List.set_cons_succ] at st13 | simp only [List.set_cons_zero] at st13)
 clear st12
 try simp only [Act.put]
 refine a0i ?_
 refine NoPanic.normal ?_
 go_wp2_with (with_reducible refine wSk 48 ?_)
 refine a0k st13 4 rfl rfl rfl Tryz.underlying60 rfl (by kernel_rfl) ?_
 go_wp2_with (with_reducible refine wSk 49 ?_)
 refine a0k st13 6 rfl rfl rfl Tryz.underlying60 rfl (by kernel_rfl) ?_
 go_wp2_with (with_reducible refine wSk 50 ?_)
 refine e0v rfl (h0O v v2 rfl rfl rfl HV.out _) ?_
 go_wp2_with (with_reducible refine wSk 51 ?_)
 refine a0k st13 3 rfl rfl rfl Tryz.underlying60 rfl (by kernel_rfl) ?_
 go_wp2_with (with_reducible refine wSk 52 ?_)
 refine a0k st13 5 rfl rfl rfl Tryz.underlying60 rfl (by kernel_rfl) ?_
 go_wp2_with (with_reducible refine wSk 53 ?_)
 refine e0v rfl (l0o u u2 rfl rfl rfl HU.out _) ?_
 go_wp2_with (with_reducible refine wSk 55 ?_)
 refine z0z rfl ?_
 refine a0k st13 3 rfl rfl rfl Tryz.underlying60 rfl (by kernel_rfl) ?_
 go_wp2_with fail
 refine (z0y u false HZ.out _).mono ?_
 rintro e' w14 ⟨rfl, hf14⟩
 have st14 := st13.keep hf14
 clear st13 hf14
 go_wp2_with (with_reducible refine wSk 59 ?_)
 refine a0q st14 0 rfl rfl rfl Tryz.underlying62 rfl rfl (by kernel_rfl) ?_
 go_wp2_with fail
 refine (r0P x1 y1 z1 X Y Z _ (HDB.out _)).mono ?_
 rintro e' w15 ⟨rfl, hf15⟩
 have st15 := st14.keep hf15
 clear st14 hf15
 go_wp2_with (with_reducible refine wSn ?_)
 refine a0d st15 2 rfl rfl rfl rfl rfl (by simp [a0a]) (by kernel_rfl) (a0X _ _ _) ?_
 intro w16 st16
 clear st15
 have hr := st16.at 2 rfl
 have hfr := st16.fr
 clear st16
 go_wp2_with fail
 exact bodyPost_ret (a0x rfl rfl hr Tryz.underlying62 rfl (by kernel_rfl)) rfl ⟨rfl, hfr⟩
theorem x0K (x1 y1 z1 x2 y2 z2 : K) (hb1 : decide (z1 = 0) = false) (hb2 : decide (z2 = 0) = false) (u v u2 v2 d ee ww e2 e3 t1 t2 t3 t4 t5 t X s1 s2 s3 s4 Y Z : K) (eu : y2 * z1 = u) (ev : x2 * z1 = v) (eu2 : y1 * z2 = u2) (ev2 : x1 * z2 = v2) (ed : u - u2 = d) (eee : v - v2 = ee) (eww : z1 * z2 = ww) (ee2 : ee * ee = e2) (ee3 : e2 * ee = e3) (et1 : d * d = t1) (et2 : t1 * ww = t2) (et3 : t2 - e3 = t3) (et4 : v2 + v2 = t4) (et5 : t4 * e2 = t5) (et : t3 - t5 = t) (eX : ee * t = X) (es1 : v2 * e2 = s1) (es2 : s1 - t = s2) (es3 : d * s2 = s3) (es4 : u2 * e3 = s4) (eY : s3 - s4 = Y) (eZ : e3 * ww = Z) (hv : decide (v = v2) = false) (w : World) : Calls Tryz.prog 68 #[rpV x1 y1 z1, rpV x2 y2 z2] w fun e w' => e = .returned (rpV X Y Z) ∧ Fr Nob w w' := by
 have HB1 := qH hb1
 have HB2 := qH hb2
 clear hb1 hb2
 have Hu := qH eu
 have Hv := qH ev
 have Hu2 := qH eu2
 have Hv2 := qH ev2
 have Hd := qH ed
 have Hee := qH eee
 have Hww := qH eww
 have He2 := qH ee2
 have He3 := qH ee3
 have Ht1 := qH et1
 have Ht2 := qH et2
 have Ht3 := qH et3
 have Ht4 := qH et4
 have Ht5 := qH et5
 have Ht := qH et
 have HX := qH eX
 have Hs1 := qH es1
 have Hs2 := qH es2
 have Hs3 := qH es3
 have Hs4 := qH es4
 have HY := qH eY
 have HZ := qH eZ
 clear eu ev eu2 ev2 ed eee eww ee2 ee3 et1 et2 et3 et4 et5 et eX es1 es2 es3 es4 eY eZ
 have HV := qH hv
 clear hv
 unfold rpV rpL
 have st0 := St.start Nob w
 go_enter Tryz.func68, Tryz.ntmps68
 go_wp2_with (with_reducible refine wSk 2 ?_)
 refine a0m st0 rfl rfl rfl (cw 4 (kN x1) ++ (cw 4 (kN y1) ++ cw 4 (kN z1))) rfl ?_
 intro g2 w1 st1
 clear st0
 go_wp2_with (with_reducible refine wSk 3 ?_)
 refine a0m st1 rfl rfl rfl (cw 4 (kN x2) ++ (cw 4 (kN y2) ++ cw 4 (kN z2))) rfl ?_
 intro g3 w2 st2
 clear st1
 go_wp2_with (with_reducible refine wSk 4 ?_)
 refine a0c st2 rfl rfl (z := zAc) (by kernel_rfl) (cw 12 0) (by rw [a0g]; rfl) ?_
 intro g4 w3 st3
 clear st2
 go_wp2_with (with_reducible refine wSk 16 ?_)
 refine a0q st3 0 rfl rfl rfl Tryz.underlying62 rfl rfl (by kernel_rfl) ?_
 go_wp2_with fail
 refine (d0n x1 y1 z1 false HB1.out _).mono ?_
 rintro e' w4 ⟨rfl, hf4⟩
 have st4 := st3.keep hf4
 clear st3 hf4
 go_wp2_with (with_reducible refine wSk 20 ?_)
 refine a0q st4 1 rfl rfl rfl Tryz.underlying62 rfl rfl (by kernel_rfl) ?_
 go_wp2_with fail
 refine (d0n x2 y2 z2 false HB2.out _).mono ?_
 rintro e' w5 ⟨rfl, hf5⟩
 have st5 := st4.keep hf5
 clear st4 hf5
 go_wp2_with fail
 refine wp_region_noPanic ?_
 refine a0f st5 7 [.o 6, .w 1, .t 2, .w 3, .t 4, .c 0, .c 5, .j 6] (.m 7 .nil) (by kernel_rfl) (by kernel_rfl) (fun _ _ _ _ _ h => h) ?_
 clear st5
 refine b0j rfl rfl rfl e0V (cw 4 0) rfl ?_
 try simp only [clL]
 refine a0n (v := ?_) rfl rfl (fun xq wx => ?_) ?_; rotate_left 1; · (go_simp; with_reducible rfl)
 try simp only [clL]
 refine a0e rfl rfl rfl (fun _ => rfl) (cw 4 (kN y2)) (fun wx hS => St.rangeL hS 1 rfl 4 _ (l0X _ _ _)) Tryz.underlying60 rfl (by kernel_rfl) ?_
 try simp only [clL]
 refine a0n (v := ?_) rfl rfl (fun xq wx => ?_) ?_; rotate_left 1; · (go_simp; with_reducible rfl)
 try simp only [clL]
 refine a0e rfl rfl rfl (fun _ => rfl) (cw 4 (kN z1)) (fun wx hS => St.rangeL hS 0 rfl 8 _ (f0C _ _ _)) Tryz.underlying60 rfl (by kernel_rfl) ?_
 try simp only [clL]
 refine a0b rfl rfl rfl Tryz.call112 (fun w hS hR => a0H _) (fun _ => rfl) ?_
 try simp only [clL]
 refine a0b rfl rfl rfl Tryz.call58 (fun w hS hR => d0J y2 z1 u Hu.out _) (fun _ => rfl) ?_
 try simp only [clL]
 refine b0c List.mem_cons_self fun g6 => ?_
 simp only [upd, reduceIte]
 refine a0t fun xq w6 st6 hR => ?_
 try dsimp only
 clear hR xq
 refine a0o rfl rfl ?_
 refine a0h st6 3 rfl rfl rfl rfl (by simp [a0a]) (by kernel_rfl) (a0j _ _) ?_
 intro w7 st7
 repeat (first | simp only [List.cons_append] at st7 | simp only [List.nil_append] at st7 | simp only [List.set_cons_succ] at st7 | simp only [List.set_cons_zero] at st7)
 clear st6
 try simp only [Act.put]
 refine a0i ?_
 refine NoPanic.normal ?_
 go_wp2_with fail
 refine wp_region_noPanic ?_
 refine a0f st7 7 [.o 6, .w 1, .t 2, .w 3, .t 4, .c 0, .c 5, .j 6] (.m 7 .nil) (by kernel_rfl) (by kernel_rfl) (fun _ _ _ _ _ h => h) ?_
 clear st7
 refine b0j rfl rfl rfl e0V (cw 4 0) rfl ?_
 try simp only [clL]
 refine a0n (v := ?_) rfl rfl (fun xq wx => ?_) ?_; rotate_left 1; · (go_simp; with_reducible rfl)
 try simp only [clL]
 refine a0e rfl rfl rfl (fun _ => rfl) (cw 4 (kN x2)) (fun wx hS => St.rangeL hS 1 rfl 0 _ (k0p _ _ _)) Tryz.underlying60 rfl (by kernel_rfl) ?_
 try simp only [clL]
 refine a0n (v := ?_) rfl rfl (fun xq wx => ?_) ?_; rotate_left 1; · (go_simp; with_reducible rfl)
 try simp only [clL]
 refine a0e rfl rfl rfl (fun _ => rfl) (cw 4 (kN z1)) (fun wx hS => St.rangeL hS 0 rfl 8 _ (f0C _ _ _)) Tryz.underlying60 rfl (by kernel_rfl) ?_
 try simp only [clL]
 refine a0b rfl rfl rfl Tryz.call112 (fun w hS hR => a0H _) (fun _ => rfl) ?_
 try simp only [clL]
 refine a0b rfl rfl rfl Tryz.call58 (fun w hS hR => d0J x2 z1 v Hv.out _) (fun _ => rfl) ?_
 try simp only [clL]
 refine b0c List.mem_cons_self fun g7 => ?_
 simp only [upd, reduceIte]
 refine a0t fun xq w8 st8 hR => ?_
 try dsimp only
 clear hR xq
 refine a0o rfl rfl ?_
 refine a0h st8 4 rfl rfl rfl rfl (by simp [a0a]) (by kernel_rfl) (a0j _ _) ?_
 intro w9 st9
 repeat (first | simp only [List.cons_append] at st9 | simp only [List.nil_append] at st9 | simp only [List.set_cons_succ] at st9 | simp only [List.set_cons_zero] at st9)
 clear st8
 try simp only [Act.put]
 refine a0i ?_
 refine NoPanic.normal ?_
 go_wp2_with fail
 refine wp_region_noPanic ?_
 refine a0f st9 7 [.o 6, .w 1, .t 2, .w 3, .t 4, .c 0, .c 5, .j 6] (.m 7 .nil) (by kernel_rfl) (by kernel_rfl) (fun _ _ _ _ _ h => h) ?_
 clear st9
 refine b0j rfl rfl rfl e0V (cw 4 0) rfl ?_
 try simp only [clL]
 refine a0n (v := ?_) rfl rfl (fun xq wx => ?_) ?_; rotate_left 1; · (go_simp; with_reducible rfl)
 try simp only [clL]
 refine a0e rfl rfl rfl (fun _ => rfl) (cw 4 (kN y1)) (fun wx hS => St.rangeL hS 0 rfl 4 _ (l0X _ _ _)) Tryz.underlying60 rfl (by kernel_rfl) ?_
 try simp only [clL]
 refine a0n (v := ?_) rfl rfl (fun xq wx => ?_) ?_; rotate_left 1; · (go_simp; with_reducible rfl)
 try simp only [clL]
 refine a0e rfl rfl rfl (fun _ => rfl) (cw 4 (kN z2)) (fun wx hS => St.rangeL hS 1 rfl 8 _ (f0C _ _ _)) Tryz.underlying60 rfl (by kernel_rfl) ?_
 try simp only [clL]
 refine a0b rfl rfl rfl Tryz.call112 (fun w hS hR => a0H _) (fun _ => rfl) ?_
 try simp only [clL]
 refine a0b rfl rfl rfl Tryz.call58 (fun w hS hR => d0J y1 z2 u2 Hu2.out _) (fun _ => rfl) ?_
 try simp only [clL]
 refine b0c List.mem_cons_self fun g8 => ?_
 simp only [upd, reduceIte]
 refine a0t fun xq w10 st10 hR => ?_
 try dsimp only
 clear hR xq
 refine a0o rfl rfl ?_
 refine a0h st10 5 rfl rfl rfl rfl (by simp [a0a]) (by kernel_rfl) (a0j _ _) ?_
 intro w11 st11
 repeat (first | simp only [List.cons_append] at st11 | simp only [List.nil_append] at st11 | simp only [List.set_cons_succ] at st11 | simp only [List.set_cons_zero] at st11)
 clear st10
 try simp only [Act.put]
 refine a0i ?_
 refine NoPanic.normal ?_
 go_wp2_with fail
 refine wp_region_noPanic ?_
 refine a0f st11 7 [.o 6, .w 1, .t 2, .w 3, .t 4, .c 0, .c 5, .j 6] (.m 7 .nil) (by kernel_rfl) (by kernel_rfl) (fun _ _ _ _ _ h => h) ?_
 clear st11
 refine b0j rfl rfl rfl e0V (cw 4 0) rfl ?_
 try simp only [clL]
 refine a0n (v := ?_) rfl rfl (fun xq wx => ?_) ?_; rotate_left 1; · (go_simp; with_reducible rfl)
 try simp only [clL]
 refine a0e rfl rfl rfl (fun _ => rfl) (cw 4 (kN x1)) (fun wx hS => St.rangeL hS 0 rfl 0 _ (k0p _ _ _)) Tryz.underlying60 rfl (by kernel_rfl) ?_
 try simp only [clL]
 refine a0n (v := ?_) rfl rfl (fun xq wx => ?_) ?_; rotate_left 1; · (go_simp; with_reducible rfl)
 try simp only [clL]
 refine a0e rfl rfl rfl (fun _ => rfl) (cw 4 (kN z2)) (fun wx hS => St.rangeL hS 1 rfl 8 _ (f0C _ _ _)) Tryz.underlying60 rfl (by kernel_rfl) ?_
 try simp only [clL]
 refine a0b rfl rfl rfl Tryz.call112 (fun w hS hR => a0H _) (fun _ => rfl) ?_
 try simp only [clL]
 refine a0b rfl rfl rfl Tryz.call58 (fun w hS hR => d0J x1 z2 v2 Hv2.out _) (fun _ => rfl) ?_
 try simp only [clL]
 refine b0c List.mem_cons_self fun g9 => ?_
 simp only [upd, reduceIte]
 refine a0t fun xq w12 st12 hR => ?_
 try dsimp only
 clear hR xq
 refine a0o rfl rfl ?_
 refine a0h st12 6 rfl rfl rfl rfl (by simp [a0a]) (by kernel_rfl) (a0j _ _) ?_
 intro w13 st13
 repeat (first | simp only [List.cons_append] at st13 | simp only [List.nil_append] at st13 | simp only [List.set_cons_succ] at st13 | simp only [List.set_cons_zero] at st13)
 clear st12
 try simp only [Act.put]
 refine a0i ?_
 refine NoPanic.normal ?_
 go_wp2_with (with_reducible refine wSk 48 ?_)
 refine a0k st13 4 rfl rfl rfl Tryz.underlying60 rfl (by kernel_rfl) ?_
 go_wp2_with (with_reducible refine wSk 49 ?_)
 refine a0k st13 6 rfl rfl rfl Tryz.underlying60 rfl (by kernel_rfl) ?_
 go_wp2_with (with_reducible refine wSk 50 ?_)
 refine e0v rfl (h0O v v2 rfl rfl rfl HV.out _) ?_
 go_wp2_with fail
 refine wp_region_noPanic ?_
 refine a0f st13 5 [.o 4, .t 1, .t 2, .c 0, .c 3, .j 4] (.m 5 .nil) (by kernel_rfl) (by kernel_rfl) (fun _ _ _ _ _ h => h) ?_
 clear st13
 refine b0j rfl rfl rfl e0V (cw 4 0) rfl ?_
 try simp only [clL]
 refine a0e rfl rfl rfl (fun _ => rfl) (cw 4 (kN u)) (fun wx hS => St.rangeL hS 3 rfl 0 _ dZl) Tryz.underlying60 rfl (by kernel_rfl) ?_
 try simp only [clL]
 refine a0e rfl rfl rfl (fun _ => rfl) (cw 4 (kN u2)) (fun wx hS => St.rangeL hS 5 rfl 0 _ dZl) Tryz.underlying60 rfl (by kernel_rfl) ?_
 try simp only [clL]
 refine a0b rfl rfl rfl Tryz.call112 (fun w hS hR => a0H _) (fun _ => rfl) ?_
 try simp only [clL]
 refine a0b rfl rfl rfl Tryz.call137 (fun w hS hR => u0z u u2 d Hd.out _) (fun _ => rfl) ?_
 try simp only [clL]
 refine b0c List.mem_cons_self fun g10 => ?_
 simp only [upd, reduceIte]
 refine a0t fun xq w14 st14 hR => ?_
 try dsimp only
 clear hR xq
 refine a0o rfl rfl ?_
 refine a0h st14 7 rfl rfl rfl rfl (by simp [a0a]) (by kernel_rfl) (a0j _ _) ?_
 intro w15 st15
 repeat (first | simp only [List.cons_append] at st15 | simp only [List.nil_append] at st15 | simp only [List.set_cons_succ] at st15 | simp only [List.set_cons_zero] at st15)
 clear st14
 try simp only [Act.put]
 refine a0i ?_
 refine NoPanic.normal ?_
 go_wp2_with fail
 refine wp_region_noPanic ?_
 refine a0f st15 5 [.o 4, .t 1, .t 2, .c 0, .c 3, .j 4] (.m 5 .nil) (by kernel_rfl) (by kernel_rfl) (fun _ _ _ _ _ h => h) ?_
 clear st15
 refine b0j rfl rfl rfl e0V (cw 4 0) rfl ?_
 try simp only [clL]
 refine a0e rfl rfl rfl (fun _ => rfl) (cw 4 (kN v)) (fun wx hS => St.rangeL hS 4 rfl 0 _ dZl) Tryz.underlying60 rfl (by kernel_rfl) ?_
 try simp only [clL]
 refine a0e rfl rfl rfl (fun _ => rfl) (cw 4 (kN v2)) (fun wx hS => St.rangeL hS 6 rfl 0 _ dZl) Tryz.underlying60 rfl (by kernel_rfl) ?_
 try simp only [clL]
 refine a0b rfl rfl rfl Tryz.call112 (fun w hS hR => a0H _) (fun _ => rfl) ?_
 try simp only [clL]
 refine a0b rfl rfl rfl Tryz.call137 (fun w hS hR => u0z v v2 ee Hee.out _) (fun _ => rfl) ?_
 try simp only [clL]
 refine b0c List.mem_cons_self fun g11 => ?_
 simp only [upd, reduceIte]
 refine a0t fun xq w16 st16 hR => ?_
 try dsimp only
 clear hR xq
 refine a0o rfl rfl ?_
 refine a0h st16 8 rfl rfl rfl rfl (by simp [a0a]) (by kernel_rfl) (a0j _ _) ?_
 intro w17 st17
 repeat (first | simp only [List.cons_append] at st17 | simp only [List.nil_append] at st17 | simp only [List.set_cons_succ] at st17 | simp only [List.set_cons_zero] at st17)
 clear st16
 try simp only [Act.put]
 refine a0i ?_
 refine NoPanic.normal ?_
 go_wp2_with fail
 refine wp_region_noPanic ?_
 refine a0f st17 7 [.o 6, .w 1, .t 2, .w 3, .t 4, .c 0, .c 5, .j 6] (.m 7 .nil) (by kernel_rfl) (by kernel_rfl) (fun _ _ _ _ _ h => h) ?_
 clear st17
 refine b0j rfl rfl rfl e0V (cw 4 0) rfl ?_
 try simp only [clL]
 refine a0n (v := ?_) rfl rfl (fun xq wx => ?_) ?_; rotate_left 1; · (go_simp; with_reducible rfl)
 try simp only [clL]
 refine a0e rfl rfl rfl (fun _ => rfl) (cw 4 (kN z1)) (fun wx hS => St.rangeL hS 0 rfl 8 _ (f0C _ _ _)) Tryz.underlying60 rfl (by kernel_rfl) ?_
 try simp only [clL]
 refine a0n (v := ?_) rfl rfl (fun xq wx => ?_) ?_; rotate_left 1; · (go_simp; with_reducible rfl)
 try simp only [clL]
 refine a0e rfl rfl rfl (fun _ => rfl) (cw 4 (kN z2)) (fun wx hS => St.rangeL hS 1 rfl 8 _ (f0C _ _ _)) Tryz.underlying60 rfl (by kernel_rfl) ?_
 try simp only [clL]
 refine a0b rfl rfl rfl Tryz.call112 (fun w hS hR => a0H _) (fun _ => rfl) ?_
 try simp only [clL]
 refine a0b rfl rfl rfl Tryz.call58 (fun w hS hR => d0J z1 z2 ww Hww.out _) (fun _ => rfl) ?_
 try simp only [clL]
 refine b0c List.mem_cons_self fun g12 => ?_
 simp only [upd, reduceIte]
 refine a0t fun xq w18 st18 hR => ?_
 try dsimp only
 clear hR xq
 refine a0o rfl rfl ?_
 refine a0h st18 9 rfl rfl rfl rfl (by simp [a0a]) (by kernel_rfl) (a0j _ _) ?_
 intro w19 st19
 repeat (first | simp only [List.cons_append] at st19 | simp only [List.nil_append] at st19 | simp only [List.set_cons_succ] at st19 | simp only [List.set_cons_zero] at st19)
 clear st18
 try simp only [Act.put]
 refine a0i ?_
 refine NoPanic.normal ?_
 go_wp2_with fail
 refine wp_region_noPanic ?_
 refine a0f st19 5 [.o 4, .t 1, .t 2, .c 0, .c 3, .j 4] (.m 5 .nil) (by kernel_rfl) (by kernel_rfl) (fun _ _ _ _ _ h => h) ?_
 clear st19
 refine b0j rfl rfl rfl e0V (cw 4 0) rfl ?_
 try simp only [clL]
 refine a0e rfl rfl rfl (fun _ => rfl) (cw 4 (kN ee)) (fun wx hS => St.rangeL hS 8 rfl 0 _ dZl) Tryz.underlying60 rfl (by kernel_rfl) ?_
 try simp only [clL]
 refine a0e rfl rfl rfl (fun _ => rfl) (cw 4 (kN ee)) (fun wx hS => St.rangeL hS 8 rfl 0 _ dZl) Tryz.underlying60 rfl (by kernel_rfl) ?_
 try simp only [clL]
 refine a0b rfl rfl rfl Tryz.call112 (fun w hS hR => a0H _) (fun _ => rfl) ?_
 try simp only [clL]
 refine a0b rfl rfl rfl Tryz.call58 (fun w hS hR => d0J ee ee e2 He2.out _) (fun _ => rfl) ?_
 try simp only [clL]
 refine b0c List.mem_cons_self fun g13 => ?_
 simp only [upd, reduceIte]
 refine a0t fun xq w20 st20 hR => ?_
 try dsimp only
 clear hR xq
 refine a0o rfl rfl ?_
 refine a0h st20 10 rfl rfl rfl rfl (by simp [a0a]) (by kernel_rfl) (a0j _ _) ?_
 intro w21 st21
 repeat (first | simp only [List.cons_append] at st21 | simp only [List.nil_append] at st21 | simp only [List.set_cons_succ] at st21 | simp only [List.set_cons_zero] at st21)
 clear st20
 try simp only [Act.put]
 refine a0i ?_
 refine NoPanic.normal ?_
 go_wp2_with fail
 refine wp_region_noPanic ?_
 refine a0f st21 5 [.o 4, .t 1, .t 2, .c 0, .c 3, .j 4] (.m 5 .nil) (by kernel_rfl) (by kernel_rfl) (fun _ _ _ _ _ h => h) ?_
 clear st21
 refine b0j rfl rfl rfl e0V (cw 4 0) rfl ?_
 try simp only [clL]
 refine a0e rfl rfl rfl (fun _ => rfl) (cw 4 (kN e2)) (fun wx hS => St.rangeL hS 10 rfl 0 _ dZl) Tryz.underlying60 rfl (by kernel_rfl) ?_
 try simp only [clL]
 refine a0e rfl rfl rfl (fun _ => rfl) (cw 4 (kN ee)) (fun wx hS => St.rangeL hS 8 rfl 0 _ dZl) Tryz.underlying60 rfl (by kernel_rfl) ?_
 try simp only [clL]
 refine a0b rfl rfl rfl Tryz.call112 (fun w hS hR => a0H _) (fun _ => rfl) ?_
 try simp only [clL]
 refine a0b rfl rfl rfl Tryz.call58 (fun w hS hR => d0J e2 ee e3 He3.out _) (fun _ => rfl) ?_
 try simp only [clL]
 refine b0c List.mem_cons_self fun g14 => ?_
 simp only [upd, reduceIte]
 refine a0t fun xq w22 st22 hR => ?_
 try dsimp only
 clear hR xq
 refine a0o rfl rfl ?_
 refine a0h st22 11 rfl rfl rfl rfl (by simp [a0a]) (by kernel_rfl) (a0j _ _) ?_
 intro w23 st23
 repeat (first | simp only [List.cons_append] at st23 | simp only [List.nil_append] at st23 | simp only [List.set_cons_succ] at st23 | simp only [List.set_cons_zero] at st23)
 clear st22
 try simp only [Act.put]
 refine a0i ?_
 refine NoPanic.normal ?_
 go_wp2_with fail
 refine wp_region_noPanic ?_
 refine a0f st23 20 [.o 19, .t 4, .t 5, .t 7, .t 9, .t 13, .t 14, .t 16, .c 0, .c 1, .c 2, .c 3, .c 6, .c 8, .c 10, .c 11, .c 12, .c 15, .c 17, .c 18, .j 19] (.m 20 .nil) (by kernel_rfl) (by kernel_rfl) (fun _ _ _ _ _ h => h) ?_
 clear st23
 refine b0j rfl rfl rfl e0V (cw 4 0) rfl ?_
 try simp only [clL]
 refine a0e rfl rfl rfl (fun _ => rfl) (cw 4 (kN d)) (fun wx hS => St.rangeL hS 7 rfl 0 _ dZl) Tryz.underlying60 rfl (by kernel_rfl) ?_
 try simp only [clL]
 refine a0e rfl rfl rfl (fun _ => rfl) (cw 4 (kN d)) (fun wx hS => St.rangeL hS 7 rfl 0 _ dZl) Tryz.underlying60 rfl (by kernel_rfl) ?_
 try simp only [clL]
 refine a0e rfl rfl rfl (fun _ => rfl) (cw 4 (kN ww)) (fun wx hS => St.rangeL hS 9 rfl 0 _ dZl) Tryz.underlying60 rfl (by kernel_rfl) ?_
 try simp only [clL]
 refine a0e rfl rfl rfl (fun _ => rfl) (cw 4 (kN e3)) (fun wx hS => St.rangeL hS 11 rfl 0 _ dZl) Tryz.underlying60 rfl (by kernel_rfl) ?_
 try simp only [clL]
 refine a0e rfl rfl rfl (fun _ => rfl) (cw 4 (kN v2)) (fun wx hS => St.rangeL hS 6 rfl 0 _ dZl) Tryz.underlying60 rfl (by kernel_rfl) ?_
 try simp only [clL]
 refine a0e rfl rfl rfl (fun _ => rfl) (cw 4 (kN v2)) (fun wx hS => St.rangeL hS 6 rfl 0 _ dZl) Tryz.underlying60 rfl (by kernel_rfl) ?_
 try simp only [clL]
 refine a0e rfl rfl rfl (fun _ => rfl) (cw 4 (kN e2)) (fun wx hS => St.rangeL hS 10 rfl 0 _ dZl) Tryz.underlying60 rfl (by kernel_rfl) ?_
 try simp only [clL]
 refine a0b rfl rfl rfl Tryz.call112 (fun w hS hR => a0H _) (fun _ => rfl) ?_
 try simp only [clL]
 refine a0b rfl rfl rfl Tryz.call112 (fun w hS hR => a0H _) (fun _ => rfl) ?_
 try simp only [clL]
 refine a0b rfl rfl rfl Tryz.call112 (fun w hS hR => a0H _) (fun _ => rfl) ?_
 try simp only [clL]
 refine a0b rfl rfl rfl Tryz.call112 (fun w hS hR => a0H _) (fun _ => rfl) ?_
 try simp only [clL]
 refine a0b rfl rfl rfl Tryz.call58 (fun w hS hR => d0J d d t1 Ht1.out _) (fun _ => rfl) ?_
 try simp only [clL]
 refine a0b rfl rfl rfl Tryz.call58 (fun w hS hR => d0J t1 ww t2 Ht2.out _) (fun _ => rfl) ?_
 try simp only [clL]
 refine a0b rfl rfl rfl Tryz.call137 (fun w hS hR => u0z t2 e3 t3 Ht3.out _) (fun _ => rfl) ?_
 try simp only [clL]
 refine a0b rfl rfl rfl Tryz.call112 (fun w hS hR => a0H _) (fun _ => rfl) ?_
 try simp only [clL]
 refine a0b rfl rfl rfl Tryz.call112 (fun w hS hR => a0H _) (fun _ => rfl) ?_
 try simp only [clL]
 refine a0b rfl rfl rfl Tryz.call57 (fun w hS hR => x0F v2 v2 t4 Ht4.out _) (fun _ => rfl) ?_
 try simp only [clL]
 refine a0b rfl rfl rfl Tryz.call58 (fun w hS hR => d0J t4 e2 t5 Ht5.out _) (fun _ => rfl) ?_
 try simp only [clL]
 refine a0b rfl rfl rfl Tryz.call137 (fun w hS hR => u0z t3 t5 t Ht.out _) (fun _ => rfl) ?_
 try simp only [clL]
 refine b0c List.mem_cons_self fun g15 => ?_
 simp only [upd, reduceIte]
 refine a0t fun xq w24 st24 hR => ?_
 try dsimp only
 clear hR xq
 refine a0o rfl rfl ?_
 refine a0h st24 12 rfl rfl rfl rfl (by simp [a0a]) (by kernel_rfl) (a0j _ _) ?_
 intro w25 st25
 repeat (first | simp only [List.cons_append] at st25 | simp only [List.nil_append] at st25 | simp only [List.set_cons_succ] at st25 | simp only [List.set_cons_zero] at st25)
 clear st24
 try simp only [Act.put]
 refine a0i ?_
 refine NoPanic.normal ?_
 go_wp2_with fail
 refine wp_region_noPanic ?_
 refine a0f st25 25 [.t 1, .t 2, .t 6, .t 9, .t 10, .t 12, .t 16, .t 17, .t 21, .t 22, .c 0, .c 3, .c 4, .c 5, .c 7, .c 8, .c 11, .c 13, .c 14, .c 15, .c 18, .c 19, .c 20, .c 23, .w 24] (.m 25 .nil) (by kernel_rfl) (by kernel_rfl) (fun _ _ _ _ _ h => h) ?_
 clear st25
 refine a0e rfl rfl rfl (fun _ => rfl) (cw 4 (kN ee)) (fun wx hS => St.rangeL hS 8 rfl 0 _ dZl) Tryz.underlying60 rfl (by kernel_rfl) ?_
 try simp only [clL]
 refine a0e rfl rfl rfl (fun _ => rfl) (cw 4 (kN t)) (fun wx hS => St.rangeL hS 12 rfl 0 _ dZl) Tryz.underlying60 rfl (by kernel_rfl) ?_
 try simp only [clL]
 refine a0e rfl rfl rfl (fun _ => rfl) (cw 4 (kN d)) (fun wx hS => St.rangeL hS 7 rfl 0 _ dZl) Tryz.underlying60 rfl (by kernel_rfl) ?_
 try simp only [clL]
 refine a0e rfl rfl rfl (fun _ => rfl) (cw 4 (kN v2)) (fun wx hS => St.rangeL hS 6 rfl 0 _ dZl) Tryz.underlying60 rfl (by kernel_rfl) ?_
 try simp only [clL]
 refine a0e rfl rfl rfl (fun _ => rfl) (cw 4 (kN e2)) (fun wx hS => St.rangeL hS 10 rfl 0 _ dZl) Tryz.underlying60 rfl (by kernel_rfl) ?_
 try simp only [clL]
 refine a0e rfl rfl rfl (fun _ => rfl) (cw 4 (kN t)) (fun wx hS => St.rangeL hS 12 rfl 0 _ dZl) Tryz.underlying60 rfl (by kernel_rfl) ?_
 try simp only [clL]
 refine a0e rfl rfl rfl (fun _ => rfl) (cw 4 (kN u2)) (fun wx hS => St.rangeL hS 5 rfl 0 _ dZl) Tryz.underlying60 rfl (by kernel_rfl) ?_
 try simp only [clL]
 refine a0e rfl rfl rfl (fun _ => rfl) (cw 4 (kN e3)) (fun wx hS => St.rangeL hS 11 rfl 0 _ dZl) Tryz.underlying60 rfl (by kernel_rfl) ?_
 try simp only [clL]
 refine a0e rfl rfl rfl (fun _ => rfl) (cw 4 (kN e3)) (fun wx hS => St.rangeL hS 11 rfl 0 _ dZl) Tryz.underlying60 rfl (by kernel_rfl) ?_
 try simp only [clL]
 refine a0e rfl rfl rfl (fun _ => rfl) (cw 4 (kN ww)) (fun wx hS => St.rangeL hS 9 rfl 0 _ dZl) Tryz.underlying60 rfl (by kernel_rfl) ?_
 try simp only [clL]
 refine a0b rfl rfl rfl Tryz.call112 (fun w hS hR => a0H _) (fun _ => rfl) ?_
 try simp only [clL]
 refine a0b rfl rfl rfl Tryz.call58 (fun w hS hR => d0J ee t X HX.out _) (fun _ => rfl) ?_
 try simp only [clL]
 refine a0b rfl rfl rfl Tryz.call112 (fun w hS hR => a0H _) (fun _ => rfl) ?_
 try simp only [clL]
 refine a0b rfl rfl rfl Tryz.call112 (fun w hS hR => a0H _) (fun _ => rfl) ?_
 try simp only [clL]
 refine a0b rfl rfl rfl Tryz.call112 (fun w hS hR => a0H _) (fun _ => rfl) ?_
 try simp only [clL]
 refine a0b rfl rfl rfl Tryz.call112 (fun w hS hR => a0H _) (fun _ => rfl) ?_
 try simp only [clL]
 refine a0b rfl rfl rfl Tryz.call58 (fun w hS hR => d0J v2 e2 s1 Hs1.out _) (fun _ => rfl) ?_
 try simp only [clL]
 refine a0b rfl rfl rfl Tryz.call137 (fun w hS hR => u0z s1 t s2 Hs2.out _) (fun _ => rfl) ?_
 try simp only [clL]
 refine a0b rfl rfl rfl Tryz.call58 (fun w hS hR => d0J d s2 s3 Hs3.out _) (fun _ => rfl) ?_
 try simp only [clL]
 refine a0b rfl rfl rfl Tryz.call112 (fun w hS hR => a0H _) (fun _ => rfl) ?_
 try simp only [clL]
 refine a0b rfl rfl rfl Tryz.call58 (fun w hS hR => d0J u2 e3 s4 Hs4.out _) (fun _ => rfl) ?_
 try simp only [clL]
 refine a0b rfl rfl rfl Tryz.call137 (fun w hS hR => u0z s3 s4 Y HY.out _) (fun _ => rfl) ?_
 try simp only [clL]
 refine a0b rfl rfl rfl Tryz.call112 (fun w hS hR => a0H _) (fun _ => rfl) ?_
 try simp only [clL]
 refine a0b rfl rfl rfl Tryz.call58 (fun w hS hR => d0J e3 ww Z HZ.out _) (fun _ => rfl) ?_
 try simp only [clL]
 refine a0n rfl rfl (fun _ => b0H rfl _ (g0U _ _ _)) ?_
 try simp only [clL]
 refine a0t fun xq w26 st26 hR => ?_
 try dsimp only
 clear hR xq
 refine a0o rfl rfl ?_
 refine a0h st26 2 rfl rfl rfl rfl (by simp [a0a]) (by kernel_rfl) (a0X _ _ _) ?_
 intro w27 st27
 try simp only [List.set_cons_zero, List.set_cons_succ] at st27
 clear st26
 try simp only [Act.put]
 refine a0i ?_
 refine NoPanic.normal ?_
 have hr := st27.at 2 rfl
 have hfr := st27.fr
 clear st27
 go_wp2_with fail
 exact bodyPost_ret (a0x rfl rfl hr Tryz.underlying62 rfl (by kernel_rfl)) rfl ⟨rfl, hfr⟩
end
section
open Go.RowKit Go.Mv Mvp Mvq
structure RT where
 x : K
 y : K
 z : K
 on : onC (nm x y z)
def RT.pt (s : RT) : Pt := nm s.x s.y s.z
def RT.L (s : RT) : List Value := rpL s.x s.y s.z
theorem a0W (x y z : K) : (rpL x y z).length = 12 := by simp [rpL, a0a]
theorem RT.len (s : RT) : s.L.length = 12 := a0W _ _ _
theorem RT.one (s : RT) : ∀ v ∈ s.L, v.oneCell' = true := a0X _ _ _
theorem RT.onP (s : RT) : onC s.pt := s.on
theorem p0w (x y z : K) (ho : onC (nm x y z)) (hz : z ≠ 0) : ∃ X Y Z, nm X Y Z = a0L (nm x y z) (nm x y z) ∧ ∀ wx, Calls Tryz.prog 136 #[rpV x y z] wx fun e w' => e = .returned (rpV X Y Z) ∧ Fr Nob wx w' := by
 refine ⟨_, _, _, ?_, fun wx => r0N x y z _ _ _ _ _ _ _ _ _ _ _ _ _ _ _ _ _ _ _ rfl rfl rfl rfl rfl rfl rfl rfl rfl rfl rfl rfl rfl rfl rfl rfl rfl rfl rfl wx⟩
 exact k0Z ho hz (x * x) _ _ _ _ _ rfl (by grind -lia -linarith) (by grind -lia -linarith) rfl rfl (by grind -lia -linarith)
theorem u0A (x1 y1 z1 x2 y2 z2 : K) (ho1 : onC (nm x1 y1 z1)) (ho2 : onC (nm x2 y2 z2)) : ∃ X Y Z, nm X Y Z = a0L (nm x1 y1 z1) (nm x2 y2 z2) ∧ ∀ wx, Calls Tryz.prog 68 #[rpV x1 y1 z1, rpV x2 y2 z2] wx fun e w' => e = .returned (rpV X Y Z) ∧ Fr Nob wx w' := by
 by_cases hz1 : z1 = 0
 ·exact ⟨x2, y2, z2, by rw [y0v hz1]; rfl, fun wx => m0M x1 y1 z1 x2 y2 z2 (by simpa using hz1) wx⟩
 ·by_cases hz2 : z2 = 0
  ·exact ⟨x1, y1, z1, by rw [y0v hz2, b0C], fun wx => m0N x1 y1 z1 x2 y2 z2 (by simpa using hz1) (by simpa using hz2) wx⟩
  ·by_cases hv : x2 * z1 = x1 * z2
   ·have hs := x0g ho1 ho2 hz1 hz2 hv
    by_cases hu : y2 * z1 = y1 * z2
    ·obtain ⟨X, Y, Z, h1, h2⟩ := p0w x1 y1 z1 ho1 hz1
     refine ⟨X, Y, Z, by rw [h1, hs.1 hu], fun wx => r0Q x1 y1 z1 x2 y2 z2 (by simpa using hz1) (by simpa using hz2) _ _ _ _ rfl rfl rfl rfl (by simpa using hv) (by simpa using hu) (by simpa using hs.2.2) X Y Z h2 wx⟩
    ·exact ⟨0, 1, 0, by rw [y0v rfl, hs.2.1 hu], fun wx => r0O x1 y1 z1 x2 y2 z2 (by simpa using hz1) (by simpa using hz2) _ _ _ _ rfl rfl rfl rfl (by simpa using hv) (by simpa using hu) wx⟩
   ·refine ⟨_, _, _, ?_, fun wx => x0K x1 y1 z1 x2 y2 z2 (by simpa using hz1) (by simpa using hz2) _ _ _ _ _ _ _ _ _ _ _ _ _ _ _ _ _ _ _ _ _ _ rfl rfl rfl rfl rfl rfl rfl rfl rfl rfl rfl rfl rfl rfl rfl rfl rfl rfl rfl rfl rfl rfl (by simpa using hv) wx⟩
    exact r0c ho1 ho2 hz1 hz2 (y2 * z1) (x2 * z1) (y1 * z2) (x1 * z2) _ _ _ _ _ _ rfl rfl rfl rfl rfl rfl (fun h => hv (by
     have h2 : x2 * z1 - x1 * z2 + x1 * z2 = 0 + x1 * z2 := by rw [h]
     grind -lia -linarith)) rfl rfl rfl (by grind -lia -linarith)
theorem m0O (s t : RT) : ∃ r : RT, r.pt = a0L s.pt t.pt ∧ ∀ wx, Calls Tryz.prog 68 #[.agg s.L.toArray, .agg t.L.toArray] wx fun e w' => e = .returned (.agg r.L.toArray) ∧ Fr Nob wx w' := by
 obtain ⟨X, Y, Z, h1, h2⟩ := u0A s.x s.y s.z t.x t.y t.z s.on t.on
 exact ⟨⟨X, Y, Z, by rw [h1]; exact c0g s.on t.on⟩, h1, h2⟩
noncomputable def f0Y (s t : RT) : RT := Classical.choose (m0O s t)
theorem j0X (s t : RT) : (f0Y s t).pt = a0L s.pt t.pt := (Classical.choose_spec (m0O s t)).1
theorem m0P (s t : RT) (w : World) : Calls Tryz.prog 68 #[.agg s.L.toArray, .agg t.L.toArray] w fun e w' => e = .returned (.agg (f0Y s t).L.toArray) ∧ Fr Nob w w' := (Classical.choose_spec (m0O s t)).2 w
def noR : RT := ⟨0, 1, 0, by rw [y0v rfl]; trivial⟩
theorem w0c : noR.pt = .O := y0v rfl
theorem r0R (w : World) : Calls Tryz.prog 95 #[] w fun e w' => e = .returned (.agg noR.L.toArray) ∧ Fr Nob w w' := l0n w
def RT.isO (s : RT) : Bool := decide (s.z = 0)
theorem RT.isO_t {s : RT} (h : s.isO = true) : s.pt = .O := y0v (by simpa [RT.isO] using h)
theorem w0d (x y : K) : nm x y 1 = .A x y := p0m (by decide) (by grind -lia -linarith) (by grind -lia -linarith)
def A0E (x y : K) (h : onC (.A x y)) : RT := ⟨x, y, 1, by rw [w0d]; exact h⟩
theorem r0S (x y : K) (h : onC (.A x y)) : (A0E x y h).pt = .A x y := w0d x y
theorem o0p (p x : Nat) : b0I p (x % p) = b0I p x := by
 unfold b0I rtN
 rw [Nat.mul_mod, Nat.pow_mod, Nat.mod_mod, ← Nat.pow_mod, ← Nat.mul_mod]
theorem x0L (x : Nat) : kc (rtV fP (x % fP)) = kc (rtV fP x) := by
 have h : rtN fP (x % fP) % fP = rtN fP x % fP := by unfold rtN; rw [← Nat.pow_mod]
 have hk : kc (rtN fP (x % fP)) = kc (rtN fP x) := by rw [← d0I, h, d0I]
 unfold rtV
 rw [h]
 split
 ·rfl
 ·exact hk
noncomputable def f0h (n : Nat) (s : RT) : Nat → RT
 | 0 => noR
 | k + 1 => if n / 2 ^ (255 - k) % 2 = 1 then f0Y (f0Y (f0h n s k) (f0h n s k)) s else f0Y (f0h n s k) (f0h n s k)
theorem r0T (n : Nat) (s : RT) (k : Nat) : f0h n s (k + 1) = if n / 2 ^ (255 - k) % 2 = 1 then f0Y (f0Y (f0h n s k) (f0h n s k)) s else f0Y (f0h n s k) (f0h n s k) := rfl
theorem r0U (n : Nat) (s : RT) : f0h n s 0 = noR := rfl
theorem r0V (n : Nat) (hn : n < 2 ^ 256) (s : RT) : ∀ k, k ≤ 256 → (f0h n s k).pt = a0V (n / 2 ^ (256 - k)) s.pt
 | 0, _ => by
  show noR.pt = _
  rw [w0c, Nat.sub_zero, Nat.div_eq_of_lt hn]
  rfl
 | k + 1, h => by
  have ih := r0V n hn s k (by omega)
  have hb := n0Z s.on n (255 - k)
  rw [show 256 - (k + 1) = 255 - k by omega]
  rw [show 256 - k = 255 - k + 1 by omega] at ih
  show _ = a0V (n / 2 ^ (255 - k)) (nm s.x s.y s.z)
  rw [hb]
  show (if n / 2 ^ (255 - k) % 2 = 1 then f0Y (f0Y (f0h n s k) (f0h n s k)) s else f0Y (f0h n s k) (f0h n s k)).pt = _
  by_cases h1 : n / 2 ^ (255 - k) % 2 = 1
  ·rw [if_pos h1, if_pos h1, j0X, j0X, ih]; rfl
  ·rw [if_neg h1, if_neg h1, j0X, ih, b0C]; rfl
noncomputable def c0x (n : Nat) (s : RT) : RT := f0h n s 256
theorem r0W (n : Nat) (hn : n < 2 ^ 256) (s : RT) : (c0x n s).pt = a0V n s.pt := by
 have := r0V n hn s 256 (Nat.le_refl _)
 rwa [Nat.sub_self, Nat.pow_zero, Nat.div_one] at this
end
section
open Go.RowKit Go.Mv Mvp Mvq
attribute [local irreducible] a0G lw mix cw b0q b0y b0p a0K a0r beN b0F a0U b0D a0I a0R elN mdL b0m rtV b0I kN kc c0d b0g f0Y noR c0x f0h RT.L
theorem u0B (n : Nat) (s : RT) (w : World) : Calls Tryz.prog 69 #[i4 n, .agg s.L.toArray] w fun e w' => e = .returned (.agg (c0x n s).L.toArray) ∧ Fr Nob w w' := by
 unfold c0x
 have st0 := St.start Nob w
 go_enter Tryz.func69, Tryz.ntmps69
 go_wp2_with (with_reducible refine wSk 2 ?_)
 refine a0m st0 rfl rfl rfl (cw 4 n) rfl ?_
 intro g2 w1 st1
 clear st0
 go_wp2_with (with_reducible refine wSk 3 ?_)
 refine a0m st1 rfl rfl rfl (s.L) rfl ?_
 intro g3 w2 st2
 clear st1
 go_wp2_with (with_reducible refine wSk 4 ?_)
 refine a0c st2 rfl rfl (z := zAc) (by kernel_rfl) (cw 12 0) (by rw [a0g]; rfl) ?_
 intro g4 w3 st3
 clear st2
 go_wp2_with fail
 refine (r0R _).mono ?_
 rintro e' w4 ⟨rfl, hf4⟩
 have st4 := st3.keep hf4
 clear st3 hf4
 go_wp2_with (with_reducible refine wSk 5 ?_)
 refine a0c st4 rfl rfl (z := zAc) (by kernel_rfl) (cw 12 0) (by rw [a0g]; rfl) ?_
 intro g5 w5 st5
 clear st4
 go_wp2_with (with_reducible refine wSn ?_)
 refine a0d st5 3 rfl rfl rfl rfl rfl (by first | (simp [a0a]; done) | (simp [RT.len]; done) | (simp [a0a, RT.len]; done) | simp [a0a, RT.len]) (by kernel_rfl) (RT.one _) ?_
 intro w6 st6
 clear st5
 go_wp2
 go_loopw [6] (fun i wr => ∃ k : Nat, k ≤ 256 ∧ i = .int .i64 (255 - (k : Int)) ∧ St Nob w wr [(g2, cw 4 n, 60), (g3, s.L, 62), (g4, cw 12 0, 62), (g5, (f0h n s k).L, 62)]) (fun i _ => (intOf i + 1).toNat)
 case atStart => exact ⟨0, by omega, rfl, by rw [r0U]; exact st6⟩
 case round =>
  obtain ⟨k, hk, rfl, st⟩ := hrel
  clear st6
  rcases Nat.lt_or_ge k 256 with hk2 | hk2
  ·have hge : (0 : Int) ≤ 255 - (k : Int) := by omega
   have hrec := r0T n s k
   generalize hT' : f0h n s (k + 1) = T' at *
   have HT' := qH hT'
   clear hT'
   generalize f0h n s k = T at *
   have hbit := fun wx => f0v n (255 - k) wx (by omega)
   rw [show (((255 - k : Nat)) : Int) = 255 - (k : Int) by omega] at hbit
   have hb2 : n / 2 ^ (255 - k) % 2 < 2 := Nat.mod_lt _ (by decide)
   generalize n / 2 ^ (255 - k) % 2 = b at *
   have HREC := qH hrec
   have HBIT := qH hbit
   clear hrec hbit
   go_wp2_with (with_reducible refine wSk 12 ?_)
   refine a0q st 3 rfl rfl rfl Tryz.underlying62 rfl rfl (by kernel_rfl) ?_
   go_wp2_with (with_reducible refine wSk 13 ?_)
   refine a0q st 3 rfl rfl rfl Tryz.underlying62 rfl rfl (by kernel_rfl) ?_
   go_wp2_with fail
   refine (m0P T T _).mono ?_
   rintro e' w7 ⟨rfl, hf7⟩
   have st7 := st.keep hf7
   clear st hf7
   go_wp2_with (with_reducible refine wSn ?_)
   refine a0d st7 3 rfl rfl rfl rfl rfl (by simp [RT.len]) (by kernel_rfl) (RT.one _) ?_
   intro w8 st8
   clear st7
   go_wp2_with (with_reducible refine wSk 15 ?_)
   refine a0k st8 0 rfl rfl rfl Tryz.underlying60 rfl (by kernel_rfl) ?_
   go_wp2_with fail
   refine (HBIT.out _).mono ?_
   rintro e' w9 ⟨rfl, hf9⟩
   have st9 := st8.keep hf9
   clear st8 hf9
   obtain rfl | rfl : b = 0 ∨ b = 1 := by omega
   ·have HE := qH (show T' = f0Y T T by rw [HREC.out]; rfl)
    clear hb2
    go_wp2
    go_roundw
    case rel => exact ⟨k + 1, by omega, by go_num, by rw [HT'.out, HE.out]; exact st9⟩
    case measure => simp [intOf]; omega
   ·have HE := qH (show T' = f0Y (f0Y T T) s by rw [HREC.out]; rfl)
    clear hb2
    go_wp2_with (with_reducible refine wSk 19 ?_)
    refine a0q st9 3 rfl rfl rfl Tryz.underlying62 rfl rfl (by kernel_rfl) ?_
    go_wp2_with (with_reducible refine wSk 20 ?_)
    refine a0q st9 1 rfl rfl rfl Tryz.underlying62 rfl rfl (by kernel_rfl) ?_
    go_wp2_with fail
    refine (m0P (f0Y T T) s _).mono ?_
    rintro e' w10 ⟨rfl, hf10⟩
    have st10 := st9.keep hf10
    clear st9 hf10
    go_wp2_with (with_reducible refine wSn ?_)
    refine a0d st10 3 rfl rfl rfl rfl rfl (by simp [RT.len]) (by kernel_rfl) (RT.one _) ?_
    intro w11 st11
    clear st10
    go_wp2
    go_roundw
    case rel => exact ⟨k + 1, by omega, by go_num, by rw [HT'.out, HE.out]; exact st11⟩
    case measure => simp [intOf]; omega
  ·have hk3 : k = 256 := by omega
   subst hk3
   have hge : ¬ ((0 : Int) ≤ 255 - ((256 : Nat) : Int)) := by omega
   go_wp2_with (with_reducible refine wSk 22 ?_)
   refine a0q st 3 rfl rfl rfl Tryz.underlying62 rfl rfl (by kernel_rfl) ?_
   go_wp2_with (with_reducible refine wSn ?_)
   refine a0d st 2 rfl rfl rfl rfl rfl (by first | (simp [a0a]; done) | (simp [RT.len]; done) | (simp [a0a, RT.len]; done) | simp [a0a, RT.len]) (by kernel_rfl) (RT.one _) ?_
   intro w7 st7
   clear st
   have hr := st7.at 2 rfl
   have hfr := st7.fr
   clear st7
   go_wp2_with fail
   exact bodyPost_ret (a0x rfl rfl hr Tryz.underlying62 rfl (by kernel_rfl)) rfl ⟨rfl, hfr⟩
theorem z0A (x : K) (xx x3 cv : K) (exx : x * x = xx) (ex3 : xx * x = x3) (ecv : x3 + 7 = cv) (hr : b0I fP (kN cv) = true) (w : World) : Calls Tryz.prog 141 #[i4 (kN x)] w fun e w' => e = .returned (.tuple #[rpV x (kc (rtV fP (kN cv))) 1, .bool true]) ∧ Fr Nob w w' := by
 have HR := qH hr
 clear hr
 have Hxx := qH exx
 have Hx3 := qH ex3
 have Hcv := qH ecv
 clear exx ex3 ecv
 unfold rpV rpL
 have st0 := St.start Nob w
 go_enter Tryz.func141, Tryz.ntmps141
 go_wp2_with (with_reducible refine wSk 1 ?_)
 refine a0m st0 rfl rfl rfl (cw 4 (kN x)) rfl ?_
 intro g1 w1 st1
 clear st0
 go_wp2_with (with_reducible refine wSk 2 ?_)
 refine a0c st1 rfl rfl (z := zAc) (by kernel_rfl) (cw 12 0) (by rw [a0g]; rfl) ?_
 intro g2 w2 st2
 clear st1
 go_wp2_with fail
 refine wp_region_noPanic ?_
 refine a0f st2 17 [.o 15, .t 4, .t 5, .t 7, .c 0, .c 1, .c 2, .c 3, .c 6, .c 8, .c 9, .c 10, .c 11, .w 12, .w 13, .w 14, .j 15] (.r 16 (.m 17 .nil)) (by kernel_rfl) (by kernel_rfl) (fun _ _ _ _ _ h => h) ?_
 clear st2
 refine b0j rfl rfl rfl e0V (cw 4 0) rfl ?_
 try simp only [clL]
 refine a0e rfl rfl rfl (fun _ => rfl) (cw 4 (kN x)) (fun wx hS => St.rangeL hS 0 rfl 0 _ dZl) Tryz.underlying60 rfl (by kernel_rfl) ?_
 try simp only [clL]
 refine a0e rfl rfl rfl (fun _ => rfl) (cw 4 (kN x)) (fun wx hS => St.rangeL hS 0 rfl 0 _ dZl) Tryz.underlying60 rfl (by kernel_rfl) ?_
 try simp only [clL]
 refine a0e rfl rfl rfl (fun _ => rfl) (cw 4 (kN x)) (fun wx hS => St.rangeL hS 0 rfl 0 _ dZl) Tryz.underlying60 rfl (by kernel_rfl) ?_
 try simp only [clL]
 refine a0b rfl rfl rfl Tryz.call112 (fun w hS hR => a0H _) (fun _ => rfl) ?_
 try simp only [clL]
 refine a0b rfl rfl rfl Tryz.call112 (fun w hS hR => a0H _) (fun _ => rfl) ?_
 try simp only [clL]
 refine a0b rfl rfl rfl Tryz.call112 (fun w hS hR => a0H _) (fun _ => rfl) ?_
 try simp only [clL]
 refine a0b rfl rfl rfl Tryz.call112 (fun w hS hR => a0H _) (fun _ => rfl) ?_
 try simp only [clL]
 refine a0b rfl rfl rfl Tryz.call58 (fun w hS hR => d0J x x xx Hxx.out _) (fun _ => rfl) ?_
 try simp only [clL]
 refine a0b rfl rfl rfl Tryz.call58 (fun w hS hR => d0J xx x x3 Hx3.out _) (fun _ => rfl) ?_
 try simp only [clL]
 refine a0b rfl rfl rfl Tryz.call156 (fun w hS hR => r0K _) (fun _ => rfl) ?_
 try simp only [clL]
 refine a0b rfl rfl rfl Tryz.call57 (fun w hS hR => x0F x3 7 cv Hcv.out _) (fun _ => rfl) ?_
 try simp only [clL]
 refine a0b rfl rfl rfl Tryz.call186 (fun w hS hR => x0G (kN cv) (r0J _) HR.out _) (fun _ => rfl) ?_
 try simp only [clL]
 iterate 3 (refine a0n (v := ?_) rfl rfl (fun xq wx => ?_) ?_; rotate_left 1; · (go_simp; with_reducible rfl); try simp only [clL])
 refine b0c List.mem_cons_self fun g4 => ?_
 simp only [upd, reduceIte]
 refine a0t fun xq w3 st3 hR => ?_
 try dsimp only
 clear hR xq
 refine a0A rfl rfl ?_
 refine a0h st3 2 rfl rfl rfl rfl (by simp [a0a]) (by kernel_rfl) (a0j _ _) ?_
 intro w4 st4
 repeat (first | simp only [List.cons_append] at st4 | simp only [List.nil_append] at st4 | simp only [List.set_cons_succ] at st4 | simp only [List.set_cons_zero] at st4)
 clear st3
 refine ⟨by first | exact st4 | exact St.less st4 (by simp), ?_⟩
 try simp only [Act.put]
 refine a0o rfl rfl ?_
 go_simp
 try simp only [clL]
 refine a0i ?_
 refine NoPanic.normal ?_
 go_wp2_with fail
 refine wp_region_noPanic ?_
 refine a0f st4 5 [.t 0, .t 1, .w 4, .c 2, .w 3] (.m 5 (.w 6 .nil)) (by kernel_rfl) (by kernel_rfl) (fun _ _ _ _ _ h => h) ?_
 clear st4
 refine a0e rfl rfl rfl (fun _ => rfl) (cw 4 (kN x)) (fun wx hS => St.rangeL hS 0 rfl 0 _ dZl) Tryz.underlying60 rfl (by kernel_rfl) ?_
 try simp only [clL]
 refine a0e rfl rfl rfl (fun _ => rfl) (cw 4 (kN (kc (rtV fP (kN cv))))) (fun wx hS => St.rangeL hS 2 rfl 0 _ dZl) Tryz.underlying60 rfl (by kernel_rfl) ?_
 try simp only [clL]
 refine a0n (v := ?_) rfl rfl (fun xq wx => ?_) ?_; rotate_left 1; · (go_simp; with_reducible rfl)
 try simp only [clL]
 refine a0b rfl rfl rfl Tryz.call156 (fun w hS hR => m0L _) (fun _ => rfl) ?_
 try simp only [clL]
 refine a0n rfl rfl (fun _ => b0H rfl _ (g0U _ _ _)) ?_
 try simp only [clL]
 refine a0t fun xq w5 st5 hR => ?_
 try dsimp only
 clear hR xq
 refine a0o rfl rfl ?_
 refine a0h st5 1 rfl rfl rfl rfl (by simp [a0a]) (by kernel_rfl) (a0X _ _ _) ?_
 intro w6 st6
 try simp only [List.set_cons_zero, List.set_cons_succ] at st6
 clear st5
 try simp only [Act.put]
 refine a0l (v := ?_) rfl rfl (fun wx => ?_) ?_; rotate_left 1; · (go_simp; with_reducible rfl)
 try simp only [clL]
 refine a0i ?_
 refine NoPanic.normal ?_
 have hr := st6.at 1 rfl
 have hfr := st6.fr
 clear st6
 go_wp2_with fail
 exact bodyPost_ret (a0S rfl rfl hr Tryz.underlying62 rfl (by kernel_rfl) rfl) rfl ⟨rfl, hfr⟩
theorem A0F (x : K) (xx x3 cv : K) (exx : x * x = xx) (ex3 : xx * x = x3) (ecv : x3 + 7 = cv) (hr : b0I fP (kN cv) = false) (w : World) : Calls Tryz.prog 141 #[i4 (kN x)] w fun e w' => e = .returned (.tuple #[rpV x (0) 1, .bool false]) ∧ Fr Nob w w' := by
 have HR := qH hr
 clear hr
 have Hxx := qH exx
 have Hx3 := qH ex3
 have Hcv := qH ecv
 clear exx ex3 ecv
 unfold rpV rpL
 have st0 := St.start Nob w
 go_enter Tryz.func141, Tryz.ntmps141
 go_wp2_with (with_reducible refine wSk 1 ?_)
 refine a0m st0 rfl rfl rfl (cw 4 (kN x)) rfl ?_
 intro g1 w1 st1
 clear st0
 go_wp2_with (with_reducible refine wSk 2 ?_)
 refine a0c st1 rfl rfl (z := zAc) (by kernel_rfl) (cw 12 0) (by rw [a0g]; rfl) ?_
 intro g2 w2 st2
 clear st1
 go_wp2_with fail
 refine wp_region_noPanic ?_
 refine a0f st2 17 [.o 15, .t 4, .t 5, .t 7, .c 0, .c 1, .c 2, .c 3, .c 6, .c 8, .c 9, .c 10, .c 11, .w 12, .w 13, .w 14, .j 15] (.r 16 (.m 17 .nil)) (by kernel_rfl) (by kernel_rfl) (fun _ _ _ _ _ h => h) ?_
 clear st2
 refine b0j rfl rfl rfl e0V (cw 4 0) rfl ?_
 try simp only [clL]
 refine a0e rfl rfl rfl (fun _ => rfl) (cw 4 (kN x)) (fun wx hS => St.rangeL hS 0 rfl 0 _ dZl) Tryz.underlying60 rfl (by kernel_rfl) ?_
 try simp only [clL]
 refine a0e rfl rfl rfl (fun _ => rfl) (cw 4 (kN x)) (fun wx hS => St.rangeL hS 0 rfl 0 _ dZl) Tryz.underlying60 rfl (by kernel_rfl) ?_
 try simp only [clL]
 refine a0e rfl rfl rfl (fun _ => rfl) (cw 4 (kN x)) (fun wx hS => St.rangeL hS 0 rfl 0 _ dZl) Tryz.underlying60 rfl (by kernel_rfl) ?_
 try simp only [clL]
 refine a0b rfl rfl rfl Tryz.call112 (fun w hS hR => a0H _) (fun _ => rfl) ?_
 try simp only [clL]
 refine a0b rfl rfl rfl Tryz.call112 (fun w hS hR => a0H _) (fun _ => rfl) ?_
 try simp only [clL]
 refine a0b rfl rfl rfl Tryz.call112 (fun w hS hR => a0H _) (fun _ => rfl) ?_
 try simp only [clL]
 refine a0b rfl rfl rfl Tryz.call112 (fun w hS hR => a0H _) (fun _ => rfl) ?_
 try simp only [clL]
 refine a0b rfl rfl rfl Tryz.call58 (fun w hS hR => d0J x x xx Hxx.out _) (fun _ => rfl) ?_
 try simp only [clL]
 refine a0b rfl rfl rfl Tryz.call58 (fun w hS hR => d0J xx x x3 Hx3.out _) (fun _ => rfl) ?_
 try simp only [clL]
 refine a0b rfl rfl rfl Tryz.call156 (fun w hS hR => r0K _) (fun _ => rfl) ?_
 try simp only [clL]
 refine a0b rfl rfl rfl Tryz.call57 (fun w hS hR => x0F x3 7 cv Hcv.out _) (fun _ => rfl) ?_
 try simp only [clL]
 refine a0b rfl rfl rfl Tryz.call186 (fun w hS hR => x0H (kN cv) (r0J _) HR.out _) (fun _ => rfl) ?_
 try simp only [clL]
 iterate 3 (refine a0n (v := ?_) rfl rfl (fun xq wx => ?_) ?_; rotate_left 1; · (go_simp; with_reducible rfl); try simp only [clL])
 refine b0c List.mem_cons_self fun g4 => ?_
 simp only [upd, reduceIte]
 refine a0t fun xq w3 st3 hR => ?_
 try dsimp only
 clear hR xq
 refine a0A rfl rfl ?_
 refine a0h st3 2 rfl rfl rfl rfl (by simp [a0a]) (by kernel_rfl) (a0j _ _) ?_
 intro w4 st4
 repeat (first | simp only [List.cons_append] at st4 | simp only [List.nil_append] at st4 | simp only [List.set_cons_succ] at st4 | simp only [List.set_cons_zero] at st4)
 clear st3
 refine ⟨by first | exact st4 | exact St.less st4 (by simp), ?_⟩
 try simp only [Act.put]
 refine a0o rfl rfl ?_
 go_simp
 try simp only [clL]
 refine a0i ?_
 refine NoPanic.normal ?_
 go_wp2_with fail
 refine wp_region_noPanic ?_
 refine a0f st4 5 [.t 0, .t 1, .w 4, .c 2, .w 3] (.m 5 (.w 6 .nil)) (by kernel_rfl) (by kernel_rfl) (fun _ _ _ _ _ h => h) ?_
 clear st4
 refine a0e rfl rfl rfl (fun _ => rfl) (cw 4 (kN x)) (fun wx hS => St.rangeL hS 0 rfl 0 _ dZl) Tryz.underlying60 rfl (by kernel_rfl) ?_
 try simp only [clL]
 refine a0e rfl rfl rfl (fun _ => rfl) (cw 4 (kN 0)) (fun wx hS => St.rangeL hS 2 rfl 0 _ dZl) Tryz.underlying60 rfl (by kernel_rfl) ?_
 try simp only [clL]
 refine a0n (v := ?_) rfl rfl (fun xq wx => ?_) ?_; rotate_left 1; · (go_simp; with_reducible rfl)
 try simp only [clL]
 refine a0b rfl rfl rfl Tryz.call156 (fun w hS hR => m0L _) (fun _ => rfl) ?_
 try simp only [clL]
 refine a0n rfl rfl (fun _ => b0H rfl _ (g0U _ _ _)) ?_
 try simp only [clL]
 refine a0t fun xq w5 st5 hR => ?_
 try dsimp only
 clear hR xq
 refine a0o rfl rfl ?_
 refine a0h st5 1 rfl rfl rfl rfl (by simp [a0a]) (by kernel_rfl) (a0X _ _ _) ?_
 intro w6 st6
 try simp only [List.set_cons_zero, List.set_cons_succ] at st6
 clear st5
 try simp only [Act.put]
 refine a0l (v := ?_) rfl rfl (fun wx => ?_) ?_; rotate_left 1; · (go_simp; with_reducible rfl)
 try simp only [clL]
 refine a0i ?_
 refine NoPanic.normal ?_
 have hr := st6.at 1 rfl
 have hfr := st6.fr
 clear st6
 go_wp2_with fail
 exact bodyPost_ret (a0S rfl rfl hr Tryz.underlying62 rfl (by kernel_rfl) rfl) rfl ⟨rfl, hfr⟩
end
end Go.Proofs.YtemcankmggmgoaaGreat
namespace Go.Mv
open Go.RowKit
section
variable {P : Program} {Q : Exit → Act → World → Prop} {Sx : World → Prop} {S : Nat → Prop} {w0 : World} {tl : Pl} {l : List Oper} {i : Nat} {s : List LS} {Γ : List Flt} {BL : List Blk} {R : World → Prop} {A : (Nat → Value) → Act} {o : Oper}
theorem h0P {parts : Array (Nat × Operand)} {ρ : Operand → Value} {M : List (Nat × Value)} (h : (parts.toList.map fun p => (p.1, ρ p.2)) = M) : (parts.map fun (i, x) => (i, ρ x)) = M.toArray := by
 apply Array.toList_inj.1
 rw [Array.toList_map, ← h]
theorem m0Q {t e : TypeId} {k : Nat} {M : List (Nat × Value)} (hu : P.underlying t = some (.slice e)) {z : Value} {sz by_ : Nat} (hi0 : (P.info? e).map (fun i => (i.zero, i.size, i.bytes)) = some (some z, sz, by_)) (vs : List Value) (hp : M = (vs.zipIdx 0).map fun x => (x.2, x.1))
  (hv : ∀ v ∈ vs, v.cells.size = sz) (hk : vs.length = k) (L : List Value) (hL : (vs.flatMap fun v => v.cells.toList) = L) (hk0 : 0 < k * sz := by decide) (hk24 : k * sz ≤ 16777216 := by decide) :
  Mk P (do pure (.value (← Instr.buildSlice t k M.toArray))) (fun g => .slice (some ⟨g, 0, none⟩) k k) L e := by
 intro w
 obtain ⟨i, hi, hz0⟩ : ∃ i, P.info? e = some i ∧ (i.zero, i.size, i.bytes) = (some z, sz, by_) := by simpa using hi0
 simp only [Prod.mk.injEq] at hz0
 obtain ⟨hz1, hsz, hby⟩ := hz0
 have hs0 : 0 < sz := Nat.pos_of_mul_pos_left hk0
 have hf : Instr.fill (fun j => some (j * i.size, i.size)) ((Array.range (k * i.size)).map (z.cells[· % z.cells.size]!)) M = some L.toArray := by
  rw [hp, hsz, ← hL]
  exact Great.fill_whole hs0 vs _ hv (by simp [hk])
 refine ⟨w.heap.size, w.alloc (.cells L.toArray e), ?_, (Fr.refl _ w).alloc _, Nat.le_refl _, Has.new w L.toArray e⟩
 simp only [Sem.run_bind, run_buildSlice w t e k M.toArray L.toArray i z hu hi hz1 (by rw [hsz]; omega) (by rw [hsz]; omega) (by simpa using hf), Result.andThen_ok, Sem.run_pure]
theorem o0q {t e : TypeId} {k : Nat} {parts : Array (Nat × Operand)} (ho : l[i]? = some o) (hg : o.guard = none) (hop : o.op = .buildSlice t k parts) (hu : P.underlying t = some (.slice e)) {z : Value} {sz by_ : Nat} (hi0 : (P.info? e).map (fun i => (i.zero, i.size, i.bytes)) = some (some z, sz, by_))
  (vs : List Value) (hp : ∀ x, (parts.toList.map fun p => (p.1, (A x).eval p.2)) = (vs.zipIdx 0).map fun x => (x.2, x.1)) (hv : ∀ v ∈ vs, v.cells.size = sz) (hk : vs.length = k) (L : List Value) (hL : (vs.flatMap fun v => v.cells.toList) = L)
  (h : Lad P l.toArray Q Sx S w0 tl s ((i, fun g => .slice (some ⟨g, 0, none⟩) k k, L, e) :: Γ) BL R (fun x => (A x).put o.dst (x i))) (hk0 : 0 < k * sz := by decide) (hk24 : k * sz ≤ 16777216 := by decide) : Lad P l.toArray Q Sx S w0 tl (.o i :: s) Γ BL R A :=
 y0S ho hg (fun x => by unfold execOp; simp only [hop]; rw [h0P (hp x)]) (m0Q hu hi0 vs rfl hv hk L hL hk0 hk24) h
theorem p0x (ho : l[i]? = some o) (hg : o.guard = none) {v : Value} (hv : ∀ x w, St S w0 w BL → R w → (execOp (A x).eval o).run P w = .ok (.value v) w) (h : Lad P l.toArray Q Sx S w0 tl s Γ BL R (fun x => (A x).put o.dst v)) : Lad P l.toArray Q Sx S w0 tl (.c i :: s) Γ BL R A :=
 ⟨o, by simpa using ho, hg, Unit, fun _ => v, fun _ _ => True, fun _ _ _ _ _ => trivial, fun x w hst hR => by unfold Oper.wp; rw [hv x w hst hR]; exact ⟨(), rfl, Fr.refl _ _, trivial⟩, fun _ => Lad.weaken s (fun w h => h.1) h⟩
theorem i0U {a : Act} {w : World} {K : Act → World → Prop} {v : Value} (hv : (execOp a.eval o).run P w = .ok (.value v) w) (h : K (a.put o.dst v) w) : o.wp P a w K Q := by
 unfold Oper.wp
 rw [hv]
 exact h
theorem r0X {a : Act} {w : World} {K : Act → World → Prop} {t e : TypeId} {k : Nat} {parts : Array (Nat × Operand)} (hst : St S w0 w BL) (hop : o.op = .buildSlice t k parts) (hu : P.underlying t = some (.slice e)) {z : Value} {sz by_ : Nat} (hi0 : (P.info? e).map (fun i => (i.zero, i.size, i.bytes)) = some (some z, sz, by_))
  (vs : List Value) (hp : (parts.toList.map fun p => (p.1, a.eval p.2)) = (vs.zipIdx 0).map fun x => (x.2, x.1)) (hv : ∀ v ∈ vs, v.cells.size = sz) (hk : vs.length = k) (L : List Value) (hL : (vs.flatMap fun v => v.cells.toList) = L)
  (h : ∀ g w', St S w0 w' (BL ++ [(g, L, e)]) → K (a.put o.dst (.slice (some ⟨g, 0, none⟩) k k)) w') (hk0 : 0 < k * sz := by decide) (hk24 : k * sz ≤ 16777216 := by decide) : o.wp P a w K Q :=
 y0R (m0Q hu hi0 vs rfl hv hk L hL hk0 hk24) (by unfold execOp; simp only [hop]; rw [h0P hp]) hst fun g w' h1 _ => h g w' h1
end
end Go.Mv
