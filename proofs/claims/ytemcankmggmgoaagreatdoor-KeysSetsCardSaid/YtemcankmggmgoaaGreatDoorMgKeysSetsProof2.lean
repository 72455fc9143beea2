/- ; ; ; ; ; ; ; ; ; ; ; ; ; ; ; ; . -/
import Derived.Test.YtemcankmggmgoaaGreatDoorMgKeysSetsProof1
import Derived.StillTailTactics
import Derived.Test.YtemcankmggmgoaaGreatDoorProg
import Derived.KernelRfl
set_option maxHeartbeats 16000000
set_option maxRecDepth 1000000

namespace Go.Proofs.YtemcankmggmgoaaGreatDoor
open Go.RowKit Go.Mv Mvp
attribute [local irreducible] a0J lw mix cw b0t b0G b0q a0P a0u
theorem g0H (p a b : Nat) (w : World) (hp0 : 0 < p) (hp : p < B64 ^ 4) (ha : a < B64 ^ 4) (hb : b < B64 ^ 4) :
  Calls Tryz.prog 47 #[fv p, i4 a, i4 b] w fun e w' => e = .returned (i4 (a * b % p)) ∧ Fr Nob w w' := by
 have HP0 := qH hp0
 have HP := qH hp
 have HA := qH ha
 have HB := qH hb
 have HAB := qH (show a * b < B64 ^ 8 from Nat.lt_of_lt_of_le (Nat.mul_lt_mul'' ha hb) (by decide))
 clear hp0 hp ha hb
 have st0 := St.start Nob w
 go_enter Tryz.func47, Tryz.ntmps47
 go_wp2_with (with_reducible refine wSk 3 ?_)
 refine a0m st0 rfl rfl rfl (cw 4 p ++ cw 4 (B64 ^ 4 - p)) rfl ?_
 intro g3 w1 st1
 clear st0
 go_wp2_with (with_reducible refine wSk 4 ?_)
 refine a0m st1 rfl rfl rfl (cw 4 a) rfl ?_
 intro g4 w2 st2
 clear st1
 go_wp2_with (with_reducible refine wSk 5 ?_)
 refine a0m st2 rfl rfl rfl (cw 4 b) rfl ?_
 intro g5 w3 st3
 clear st2
 go_wp2_with (with_reducible refine wSk 6 ?_)
 refine a0b st3 rfl rfl (z := zAd) (by kernel_rfl) (cw 4 0) (by rw [a0f]; rfl) ?_
 intro g6 w4 st4
 clear st3
 go_wp2_with fail
 refine wp_region_noPanic ?_
 refine b0O (fun wx => St Nob w wx [(g3, cw 4 p ++ cw 4 (B64 ^ 4 - p), 66), (g4, cw 4 a, 50), (g5, cw 4 b, 50), (g6, cw 4 0, 50)]) 5 [(0, true), (1, true), (2, true), (3, false), (4, false)] (by kernel_rfl) (by kernel_rfl) st4.drew (fun _ _ _ _ _ h => h) ?_
 have hd4 := st4.drew
 refine c0U rfl rfl rfl rfl (cw 4 p ++ cw 4 (B64 ^ 4 - p)) (fun wx hS => St.rangeL hS 0 rfl 0 _ dZl) Tryz.underlying66 rfl (by first | (rw [a0a]; kernel_rfl) | (simp only [List.length_append, a0a]; kernel_rfl)) ?_
 try simp only [clL]
 refine c0U rfl rfl rfl rfl (cw 4 a) (fun wx hS => St.rangeL hS 1 rfl 0 _ dZl) Tryz.underlying50 rfl (by simp only [a0a]; kernel_rfl) ?_
 try simp only [clL]
 refine c0U rfl rfl rfl rfl (cw 4 b) (fun wx hS => St.rangeL hS 2 rfl 0 _ dZl) Tryz.underlying50 rfl (by simp only [a0a]; kernel_rfl) ?_
 try simp only [clL]
 refine d0l rfl rfl ?_
 go_simp
 refine (e0c a b _ HA.out HB.out).mono ?_
 rintro e' w5 ⟨rfl, hf5⟩
 have st5 := hd4.keep hf5
 clear hd4 hf5
 refine ⟨st5, ?_⟩
 try simp only [clL]
 refine d0l rfl rfl ?_
 go_simp
 refine (i0L p (a * b) _ HP0.out HP.out HAB.out).mono ?_
 rintro e' w6 ⟨rfl, hf6⟩
 have st6 := st5.keep hf6
 clear st5 hf6
 refine ⟨st6, ?_⟩
 try simp only [clL]
 refine f0w ?_
 try simp only [List.drop_succ_cons, List.drop_zero]
 refine a0d st6 3 rfl rfl rfl rfl rfl (by first | (simp only [a0a]; done) | (simp only [List.length_append, a0a]; done)) (by simp only [a0a]; kernel_rfl) (a0i _ _) ?_
 intro w7 st7
 clear st6
 go_wp2_with fail
 refine NoPanic.normal ?_
 have hr := st7.at 3 rfl
 have hfr := st7.fr
 clear st7
 go_wp2_with fail
 exact bodyPost_ret (a0q rfl rfl hr Tryz.underlying50 (by simp only [a0a]; kernel_rfl)) rfl ⟨rfl, hfr⟩
theorem p0O (p a b : Nat) (w : World) (hp0 : 0 < p) (hp : p < B64 ^ 4) (ha : a < B64 ^ 4) (hb : b < B64 ^ 4) :
  Calls Tryz.prog 113 #[fv p, i4 a, i4 b] w fun e w' => e = .returned (i4 ((a + b) % p)) ∧ Fr Nob w w' := by
 have HP0 := qH hp0
 have HP := qH hp
 have HA := qH ha
 have HB := qH hb
 have HAB := qH (show a + b < B64 ^ 8 from Nat.lt_of_lt_of_le (Nat.add_lt_add ha hb) (by decide))
 have hplus := fun wx => g0F (a % B64 ^ 4) (b % B64 ^ 4) wx
 rw [p0M, p0M, Nat.mod_eq_of_lt ha, Nat.mod_eq_of_lt hb] at hplus
 have HPLUS := qH hplus
 clear hplus
 clear hp0 hp ha hb
 have st0 := St.start Nob w
 go_enter Tryz.func113, Tryz.ntmps113
 go_wp2_with (with_reducible refine wSk 3 ?_)
 refine a0m st0 rfl rfl rfl (cw 4 p ++ cw 4 (B64 ^ 4 - p)) rfl ?_
 intro g3 w1 st1
 clear st0
 go_wp2_with (with_reducible refine wSk 4 ?_)
 refine a0m st1 rfl rfl rfl (cw 4 a) rfl ?_
 intro g4 w2 st2
 clear st1
 go_wp2_with (with_reducible refine wSk 5 ?_)
 refine a0m st2 rfl rfl rfl (cw 4 b) rfl ?_
 intro g5 w3 st3
 clear st2
 go_wp2_with (with_reducible refine wSk 6 ?_)
 refine a0b st3 rfl rfl (z := zAd) (by kernel_rfl) (cw 4 0) (by rw [a0f]; rfl) ?_
 intro g6 w4 st4
 clear st3
 go_wp2_with fail
 refine wp_region_noPanic ?_
 refine b0O (fun wx => St Nob w wx [(g3, cw 4 p ++ cw 4 (B64 ^ 4 - p), 66), (g4, cw 4 a, 50), (g5, cw 4 b, 50), (g6, cw 4 0, 50)]) 21 [(0, true), (1, true), (2, true), (3, true), (4, true), (5, true), (6, true), (7, true), (8, true), (9, true), (10, true), (11, true), (12, true), (13, true), (14, true), (15, true), (16, true), (17, true), (18, true), (19, false), (20, false)] (by kernel_rfl) (by kernel_rfl) st4.drew (fun _ _ _ _ _ h => h) ?_
 have hd4 := st4.drew
 refine c0U rfl rfl rfl rfl (cw 4 p ++ cw 4 (B64 ^ 4 - p)) (fun wx hS => St.rangeL hS 0 rfl 0 _ dZl) Tryz.underlying66 rfl (by first | (rw [a0a]; kernel_rfl) | (simp only [List.length_append, a0a]; kernel_rfl)) ?_
 try simp only [clL]
 refine a0B (v := ?_) rfl rfl (fun wx hS => ?_) ?_
 rotate_left 1
 ·(clear hS; go_simp; with_reducible rfl)
 try simp only [clL]
 refine a0B (v := ?_) rfl rfl (fun wx hS => ?_) ?_
 rotate_left 1
 ·(have hc := (St.at hS 1 rfl).cell (a0D 4 a 0 (by decide)); clear hS; go_simp; with_reducible rfl)
 try simp only [clL]
 refine a0B (v := ?_) rfl rfl (fun wx hS => ?_) ?_
 rotate_left 1
 ·(clear hS; go_simp; with_reducible rfl)
 try simp only [clL]
 refine a0B (v := ?_) rfl rfl (fun wx hS => ?_) ?_
 rotate_left 1
 ·(have hc := (St.at hS 1 rfl).cell (a0D 4 a 1 (by decide)); clear hS; go_simp; with_reducible rfl)
 try simp only [clL]
 refine a0B (v := ?_) rfl rfl (fun wx hS => ?_) ?_
 rotate_left 1
 ·(clear hS; go_simp; with_reducible rfl)
 try simp only [clL]
 refine a0B (v := ?_) rfl rfl (fun wx hS => ?_) ?_
 rotate_left 1
 ·(have hc := (St.at hS 1 rfl).cell (a0D 4 a 2 (by decide)); clear hS; go_simp; with_reducible rfl)
 try simp only [clL]
 refine a0B (v := ?_) rfl rfl (fun wx hS => ?_) ?_
 rotate_left 1
 ·(clear hS; go_simp; with_reducible rfl)
 try simp only [clL]
 refine a0B (v := ?_) rfl rfl (fun wx hS => ?_) ?_
 rotate_left 1
 ·(have hc := (St.at hS 1 rfl).cell (a0D 4 a 3 (by decide)); clear hS; go_simp; with_reducible rfl)
 try simp only [clL]
 refine a0B (v := ?_) rfl rfl (fun wx hS => ?_) ?_
 rotate_left 1
 ·(clear hS; go_simp; with_reducible rfl)
 try simp only [clL]
 refine a0B (v := ?_) rfl rfl (fun wx hS => ?_) ?_
 rotate_left 1
 ·(clear hS; go_simp; with_reducible rfl)
 try simp only [clL]
 refine a0B (v := ?_) rfl rfl (fun wx hS => ?_) ?_
 rotate_left 1
 ·(have hc := (St.at hS 2 rfl).cell (a0D 4 b 0 (by decide)); clear hS; go_simp; with_reducible rfl)
 try simp only [clL]
 refine a0B (v := ?_) rfl rfl (fun wx hS => ?_) ?_
 rotate_left 1
 ·(clear hS; go_simp; with_reducible rfl)
 try simp only [clL]
 refine a0B (v := ?_) rfl rfl (fun wx hS => ?_) ?_
 rotate_left 1
 ·(have hc := (St.at hS 2 rfl).cell (a0D 4 b 1 (by decide)); clear hS; go_simp; with_reducible rfl)
 try simp only [clL]
 refine a0B (v := ?_) rfl rfl (fun wx hS => ?_) ?_
 rotate_left 1
 ·(clear hS; go_simp; with_reducible rfl)
 try simp only [clL]
 refine a0B (v := ?_) rfl rfl (fun wx hS => ?_) ?_
 rotate_left 1
 ·(have hc := (St.at hS 2 rfl).cell (a0D 4 b 2 (by decide)); clear hS; go_simp; with_reducible rfl)
 try simp only [clL]
 refine a0B (v := ?_) rfl rfl (fun wx hS => ?_) ?_
 rotate_left 1
 ·(clear hS; go_simp; with_reducible rfl)
 try simp only [clL]
 refine a0B (v := ?_) rfl rfl (fun wx hS => ?_) ?_
 rotate_left 1
 ·(have hc := (St.at hS 2 rfl).cell (a0D 4 b 3 (by decide)); clear hS; go_simp; with_reducible rfl)
 try simp only [clL]
 refine a0B (v := ?_) rfl rfl (fun wx hS => ?_) ?_
 rotate_left 1
 ·(clear hS; go_simp; with_reducible rfl)
 try simp only [clL]
 refine d0l rfl rfl ?_
 go_simp
 refine (HPLUS.out _).mono ?_
 rintro e' w5 ⟨rfl, hf5⟩
 have st5 := hd4.keep hf5
 clear hd4 hf5
 refine ⟨st5, ?_⟩
 try simp only [clL]
 refine d0l rfl rfl ?_
 go_simp
 refine (i0L p (a + b) _ HP0.out HP.out HAB.out).mono ?_
 rintro e' w6 ⟨rfl, hf6⟩
 have st6 := st5.keep hf6
 clear st5 hf6
 refine ⟨st6, ?_⟩
 try simp only [clL]
 refine f0w ?_
 try simp only [List.drop_succ_cons, List.drop_zero]
 refine a0d st6 3 rfl rfl rfl rfl rfl (by first | (simp only [a0a]; done) | (simp only [List.length_append, a0a]; done)) (by simp only [a0a]; kernel_rfl) (a0i _ _) ?_
 intro w7 st7
 clear st6
 go_wp2_with fail
 refine NoPanic.normal ?_
 have hr := st7.at 3 rfl
 have hfr := st7.fr
 clear st7
 go_wp2_with fail
 exact bodyPost_ret (a0q rfl rfl hr Tryz.underlying50 (by simp only [a0a]; kernel_rfl)) rfl ⟨rfl, hfr⟩
theorem i0M (a : Nat) (w : World) (ha : a < B64 ^ 4) :
  Calls Tryz.prog 32 #[i4 a] w fun e w' => e = .returned (.bool (decide (a = 0))) ∧ Fr Nob w w' := by
 have HA := qH ha
 clear ha
 have st0 := St.start Nob w
 go_enter Tryz.func32, Tryz.ntmps32
 go_wp2_with (with_reducible refine wSk 1 ?_)
 refine a0m st0 rfl rfl rfl (cw 4 a) rfl ?_
 intro g1 w1 st1
 clear st0
 have c0 := (st1.at 0 rfl).cell (a0D 4 a 0 (by decide))
 have c1 := (st1.at 0 rfl).cell (a0D 4 a 1 (by decide))
 have c2 := (st1.at 0 rfl).cell (a0D 4 a 2 (by decide))
 have c3 := (st1.at 0 rfl).cell (a0D 4 a 3 (by decide))
 have hfr := st1.fr
 clear st1
 have l4 := c0n a 0
 have l5 := c0n a 1
 have l6 := c0n a 2
 have l7 := c0n a 3
 have o1 := bits_or_u64_nat _ _ l4 l5
 have o2 := bits_or_u64_nat _ _ (Nat.or_lt_two_pow (n := 64) l4 l5) l6
 have o3 := bits_or_u64_nat _ _ (Nat.or_lt_two_pow (n := 64) (Nat.or_lt_two_pow (n := 64) l4 l5) l6) l7
 have htz := o0a a HA.out
 generalize hor : (lw a 0 ||| lw a 1 ||| lw a 2 ||| lw a 3) = o at *
 have hoo : ((o : Int) == 0) = decide (a = 0) := by
  rw [show ((o : Int) == 0) = decide (o = 0) by rw [Bool.eq_iff_iff]; simp]
  exact decide_eq_decide.2 htz
 have HOR := qH hor
 clear hor l4 l5 l6 l7 htz
 go_wp2_with fail
 go_ret
 exact ⟨rfl, hfr⟩
theorem p0P (p a : Nat) (w : World) (hap : a ≤ p) (hp : p < B64 ^ 4) (ha : a < B64 ^ 4) :
  Calls Tryz.prog 127 #[fv p, i4 a] w fun e w' => e = .returned (i4 ((p - a) % p)) ∧ Fr Nob w w' := by
 have HAP := qH hap
 have HP := qH hp
 have HA := qH ha
 clear hap hp ha
 have st0 := St.start Nob w
 go_enter Tryz.func127, Tryz.ntmps127
 go_wp2_with (with_reducible refine wSk 2 ?_)
 refine a0m st0 rfl rfl rfl (cw 4 p ++ cw 4 (B64 ^ 4 - p)) rfl ?_
 intro g2 w1 st1
 clear st0
 go_wp2_with (with_reducible refine wSk 3 ?_)
 refine a0m st1 rfl rfl rfl (cw 4 a) rfl ?_
 intro g3 w2 st2
 clear st1
 go_wp2_with (with_reducible refine wSk 4 ?_)
 refine a0b st2 rfl rfl (z := zAd) (by kernel_rfl) (cw 4 0) (by rw [a0f]; rfl) ?_
 intro g4 w3 st3
 clear st2
 go_wp2_with (with_reducible refine wSk 8 ?_)
 refine a0h st3 1 rfl rfl rfl Tryz.underlying50 rfl (by simp only [a0a]; kernel_rfl) ?_
 go_wp2_with fail
 refine (i0M a _ HA.out).mono ?_
 rintro e' w4 ⟨rfl, hf4⟩
 have st4 := st3.keep hf4
 clear st3 hf4
 by_cases h0 : a = 0
 ·rw [decide_eq_true h0]
  have H0 := qH h0
  clear h0
  go_wp2_with (with_reducible refine wSk 11 ?_)
  refine a0h st4 1 rfl rfl rfl Tryz.underlying50 rfl (by simp only [a0a]; kernel_rfl) ?_
  go_wp2_with (with_reducible refine wSn ?_)
  refine a0d st4 2 rfl rfl rfl rfl rfl (by first | (simp only [a0a]; done) | (simp only [List.length_append, a0a]; done)) (by simp only [a0a]; kernel_rfl) (a0i _ _) ?_
  intro w5 st5
  clear st4
  have hr := st5.at 2 rfl
  have hfr := st5.fr
  clear st5
  go_wp2_with fail
  exact bodyPost_ret (a0q rfl rfl hr Tryz.underlying50 (by simp only [a0a]; kernel_rfl)) rfl ⟨by rw [H0.out, Nat.sub_zero, Nat.mod_self]; rfl, hfr⟩
 ·rw [decide_eq_false h0]
  have H0 := qH h0
  clear h0
  go_wp2_with (with_reducible refine wSk 14 ?_)
  refine b0E rfl rfl Tryz.underlying50 rfl (st4.at 0 rfl) (cw 4 p) (f0u 4 4 _ _) (by simp only [a0a]; kernel_rfl) ?_
  go_wp2_with (with_reducible refine wSk 15 ?_)
  refine a0h st4 1 rfl rfl rfl Tryz.underlying50 rfl (by simp only [a0a]; kernel_rfl) ?_
  go_wp2_with fail
  refine (g0b p a _ HA.out).mono ?_
  rintro e' w5 ⟨rfl, hf5⟩
  have st5 := st4.keep hf5
  clear st4 hf5
  go_wp2_with (with_reducible refine wSk 6 ?_)
  refine a0b st5 rfl rfl (z := zAd) (by kernel_rfl) (cw 4 0) (by rw [a0f]; rfl) ?_
  intro g6 w6 st6
  clear st5
  go_wp2_with (with_reducible refine wSn ?_)
  refine a0d st6 3 rfl rfl rfl rfl rfl (by first | (simp only [a0a]; done) | (simp only [List.length_append, a0a]; done)) (by simp only [a0a]; kernel_rfl) (a0i _ _) ?_
  intro w7 st7
  clear st6
  go_wp2_with (with_reducible refine wSk 19 ?_)
  refine a0h st7 3 rfl rfl rfl Tryz.underlying50 rfl (by simp only [a0a]; kernel_rfl) ?_
  go_wp2_with (with_reducible refine wSn ?_)
  refine a0d st7 2 rfl rfl rfl rfl rfl (by first | (simp only [a0a]; done) | (simp only [List.length_append, a0a]; done)) (by simp only [a0a]; kernel_rfl) (a0i _ _) ?_
  intro w8 st8
  clear st7
  have hr := st8.at 2 rfl
  have hfr := st8.fr
  clear st8
  go_wp2_with fail
  exact bodyPost_ret (a0q rfl rfl hr Tryz.underlying50 (by simp only [a0a]; kernel_rfl)) rfl ⟨by rw [Nat.mod_eq_of_lt (by have := H0.out; have := HAP.out; omega), ← g0D p a HAP.out]; rfl, hfr⟩
theorem v0H (p a b : Nat) (w : World) (hp0 : 0 < p) (hp : p < B64 ^ 4) (ha : a < B64 ^ 4) (hb : b < B64 ^ 4) (hbp : b ≤ p) :
  Calls Tryz.prog 112 #[fv p, i4 a, i4 b] w fun e w' => e = .returned (i4 ((a + (p - b) % p) % p)) ∧ Fr Nob w w' := by
 have HP0 := qH hp0
 have HP := qH hp
 have HA := qH ha
 have HB := qH hb
 have HBP := qH hbp
 have HN := qH (show (p - b) % p < B64 ^ 4 from Nat.lt_trans (Nat.mod_lt _ hp0) hp)
 clear hp0 hp ha hb hbp
 have st0 := St.start Nob w
 go_enter Tryz.func112, Tryz.ntmps112
 go_wp2_with (with_reducible refine wSk 3 ?_)
 refine a0m st0 rfl rfl rfl (cw 4 p ++ cw 4 (B64 ^ 4 - p)) rfl ?_
 intro g3 w1 st1
 clear st0
 go_wp2_with (with_reducible refine wSk 4 ?_)
 refine a0m st1 rfl rfl rfl (cw 4 a) rfl ?_
 intro g4 w2 st2
 clear st1
 go_wp2_with (with_reducible refine wSk 5 ?_)
 refine a0m st2 rfl rfl rfl (cw 4 b) rfl ?_
 intro g5 w3 st3
 clear st2
 go_wp2_with (with_reducible refine wSk 6 ?_)
 refine a0b st3 rfl rfl (z := zAd) (by kernel_rfl) (cw 4 0) (by rw [a0f]; rfl) ?_
 intro g6 w4 st4
 clear st3
 go_wp2_with fail
 refine wp_region_noPanic ?_
 refine b0O (fun wx => St Nob w wx [(g3, cw 4 p ++ cw 4 (B64 ^ 4 - p), 66), (g4, cw 4 a, 50), (g5, cw 4 b, 50), (g6, cw 4 0, 50)]) 6 [(0, true), (1, true), (2, true), (3, true), (4, false), (5, false)] (by kernel_rfl) (by kernel_rfl) st4.drew (fun _ _ _ _ _ h => h) ?_
 have hd4 := st4.drew
 refine c0U rfl rfl rfl rfl (cw 4 p ++ cw 4 (B64 ^ 4 - p)) (fun wx hS => St.rangeL hS 0 rfl 0 _ dZl) Tryz.underlying66 rfl (by first | (rw [a0a]; kernel_rfl) | (simp only [List.length_append, a0a]; kernel_rfl)) ?_
 try simp only [clL]
 refine c0U rfl rfl rfl rfl (cw 4 a) (fun wx hS => St.rangeL hS 1 rfl 0 _ dZl) Tryz.underlying50 rfl (by simp only [a0a]; kernel_rfl) ?_
 try simp only [clL]
 refine c0U rfl rfl rfl rfl (cw 4 p ++ cw 4 (B64 ^ 4 - p)) (fun wx hS => St.rangeL hS 0 rfl 0 _ dZl) Tryz.underlying66 rfl (by first | (rw [a0a]; kernel_rfl) | (simp only [List.length_append, a0a]; kernel_rfl)) ?_
 try simp only [clL]
 refine c0U rfl rfl rfl rfl (cw 4 b) (fun wx hS => St.rangeL hS 2 rfl 0 _ dZl) Tryz.underlying50 rfl (by simp only [a0a]; kernel_rfl) ?_
 try simp only [clL]
 refine d0l rfl rfl ?_
 go_simp
 refine (p0P p b _ HBP.out HP.out HB.out).mono ?_
 rintro e' w5 ⟨rfl, hf5⟩
 have st5 := hd4.keep hf5
 clear hd4 hf5
 refine ⟨st5, ?_⟩
 try simp only [clL]
 refine d0l rfl rfl ?_
 go_simp
 refine (p0O p a ((p - b) % p) _ HP0.out HP.out HA.out HN.out).mono ?_
 rintro e' w6 ⟨rfl, hf6⟩
 have st6 := st5.keep hf6
 clear st5 hf6
 refine ⟨st6, ?_⟩
 try simp only [clL]
 refine f0w ?_
 try simp only [List.drop_succ_cons, List.drop_zero]
 refine a0d st6 3 rfl rfl rfl rfl rfl (by first | (simp only [a0a]; done) | (simp only [List.length_append, a0a]; done)) (by simp only [a0a]; kernel_rfl) (a0i _ _) ?_
 intro w7 st7
 clear st6
 go_wp2_with fail
 refine NoPanic.normal ?_
 have hr := st7.at 3 rfl
 have hfr := st7.fr
 clear st7
 go_wp2_with fail
 exact bodyPost_ret (a0q rfl rfl hr Tryz.underlying50 (by simp only [a0a]; kernel_rfl)) rfl ⟨rfl, hfr⟩
theorem g0I (n : Nat) (w : World) (hn : n < 18446744073709551616) :
  Calls Tryz.prog 110 #[.int .u64 (n : Int)] w fun e w' => e = .returned (i4 n) ∧ Fr Nob w w' := by
 have HN := qH hn
 have HW := qH (b0g n hn)
 clear hn
 have st0 := St.start Nob w
 go_enter Tryz.func110, Tryz.ntmps110
 go_wp2_with (with_reducible refine wSk 2 ?_)
 refine a0b st0 rfl rfl (z := zAd) (by kernel_rfl) (cw 4 0) (by rw [a0f]; rfl) ?_
 intro g2 w1 st1
 clear st0
 go_wp2_with (with_reducible refine wSn ?_)
 refine a0d st1 0 rfl rfl rfl rfl (cs := cw 4 n) HW.out (by simp only [a0a]) (by simp only [a0a]; kernel_rfl) (a0i _ _) ?_
 intro w2 st2
 clear st1
 have hr := st2.at 0 rfl
 have hfr := st2.fr
 clear st2
 go_wp2_with fail
 exact bodyPost_ret (a0q rfl rfl hr Tryz.underlying50 (by simp only [a0a]; kernel_rfl)) rfl ⟨rfl, hfr⟩
theorem p0Q (a b : Nat) (w : World) (ha : a < B64 ^ 4) (hb : b < B64 ^ 4) :
  Calls Tryz.prog 81 #[i4 a, i4 b] w fun e w' => e = .returned (.bool (decide (a < b))) ∧ Fr Nob w w' := by
 have HA := qH ha
 have HB := qH hb
 clear ha hb
 have st0 := St.start Nob w
 go_enter Tryz.func81, Tryz.ntmps81
 go_wp2_with (with_reducible refine wSk 2 ?_)
 refine a0m st0 rfl rfl rfl (cw 4 a) rfl ?_
 intro g2 w1 st1
 clear st0
 go_wp2_with (with_reducible refine wSk 3 ?_)
 refine a0m st1 rfl rfl rfl (cw 4 b) rfl ?_
 intro g3 w2 st2
 clear st1
 have HCS := qH (e0m a b 4 HA.out HB.out)
 go_wp2_with (with_reducible refine wSk 8 ?_)
 refine a0h st2 0 rfl rfl rfl Tryz.underlying50 rfl (by simp only [a0a]; kernel_rfl) ?_
 go_wp2_with (with_reducible refine wSk 9 ?_)
 refine a0h st2 1 rfl rfl rfl Tryz.underlying50 rfl (by simp only [a0a]; kernel_rfl) ?_
 go_wp2_with fail
 refine (g0b a b _ HB.out).mono ?_
 rintro e' w3 ⟨rfl, hf3⟩
 have st3 := st2.keep hf3
 clear st2 hf3
 go_wp2_with (with_reducible refine wSk 5 ?_)
 refine a0b st3 rfl rfl (z := zAd) (by kernel_rfl) (cw 4 0) (by rw [a0f]; rfl) ?_
 intro g5 w4 st4
 clear st3
 go_wp2_with (with_reducible refine wSn ?_)
 refine a0d st4 2 rfl rfl rfl rfl rfl (by first | (simp only [a0a]; done) | (simp only [List.length_append, a0a]; done)) (by simp only [a0a]; kernel_rfl) (a0i _ _) ?_
 intro w5 st5
 clear st4
 have hfr := st5.fr
 clear st5
 have hcs := HCS.out
 clear HCS
 by_cases hlt : a < b
 ·rw [if_pos hlt] at hcs
  rw [hcs]
  have HLT := qH hlt
  clear hlt hcs
  go_wp2_with fail
  go_ret
  exact ⟨by rw [decide_eq_true HLT.out]; rfl, hfr⟩
 ·rw [if_neg hlt] at hcs
  rw [hcs]
  have HLT := qH hlt
  clear hlt hcs
  go_wp2_with fail
  go_ret
  exact ⟨by rw [decide_eq_false HLT.out]; rfl, hfr⟩
end Go.Proofs.YtemcankmggmgoaaGreatDoor
namespace Mvp
def beN (l : List UInt8) : Nat := l.foldl (fun a x => a * 256 + x.toNat) 0
theorem i0N : beN [] = 0 := rfl
theorem g0c (l : List UInt8) (x : UInt8) : beN (l ++ [x]) = beN l * 256 + x.toNat := by simp [beN]
theorem u0J (l : List UInt8) : beN l < 256 ^ l.length := by
 have h : ∀ (n : Nat) (l : List UInt8), l.length = n → beN l < 256 ^ n := by
  intro n
  induction n with
  | zero => intro l hl; rw [List.length_eq_zero_iff.1 hl]; decide
  | succ n ih =>
   intro l hl
   obtain ⟨m, x, rfl⟩ : ∃ m x, l = m ++ [x] := by
    rcases List.eq_nil_or_concat l with h | ⟨m, x, h⟩
    ·subst h; simp at hl
    ·exact ⟨m, x, by simpa using h⟩
   have := ih m (by simpa using hl)
   have hx := x.toNat_lt
   rw [g0c, Nat.pow_succ]
   omega
 exact h _ l rfl
theorem i0O (l : List UInt8) (i : Nat) (h : i < l.length) : beN (l.take (i + 1)) = beN (l.take i) * 256 + (l.getD i 0).toNat := by
 rw [List.take_succ_eq_append_getElem h, g0c]
 simp [List.getD_eq_getElem?_getD, h]
def laid (l : List UInt8) (i : Nat) : Nat := beN (l.take i) * 256 ^ (l.length - i)
theorem j0X (l : List UInt8) : laid l 0 = 0 := by simp [laid, beN]
theorem m0Q (l : List UInt8) : laid l l.length = beN l := by simp [laid]
theorem j0Y (l : List UInt8) (i : Nat) (h : i < l.length) : laid l (i + 1) = laid l i + (l.getD i 0).toNat * 256 ^ (l.length - 1 - i) := by
 unfold laid
 rw [i0O l i h, Nat.add_mul, Nat.mul_assoc, show l.length - i = (l.length - 1 - i) + 1 by omega, Nat.pow_succ, Nat.mul_comm 256, show l.length - (i + 1) = l.length - 1 - i by omega]
theorem m0R (l : List UInt8) (i : Nat) (h : i < l.length) : laid l i % 256 ^ (l.length - 1 - i + 1) = 0 := by
 unfold laid
 rw [show l.length - 1 - i + 1 = l.length - i by omega, Nat.mul_mod_left]
theorem p0R (k : Nat) : 256 ^ k = B64 ^ (k / 8) * 2 ^ (8 * (k % 8)) := by
 have e1 : (256 : Nat) = 2 ^ 8 := by decide
 have e2 : B64 = 2 ^ 64 := by decide
 rw [e1, e2, ← Nat.pow_mul, ← Nat.pow_mul, ← Nat.pow_add]
 congr 1
 omega
theorem e0S (x r : Nat) (hx : x < 256) : x * 2 ^ r < 2 ^ (r + 8) := by
 rw [Nat.pow_add, Nat.mul_comm (2 ^ r)]
 exact Nat.mul_lt_mul_of_pos_right hx (Nat.two_pow_pos r)
theorem v0I (A y r : Nat) (hr : r + 8 ≤ 64) (hy : y < 2 ^ (r + 8)) (hA : A % 2 ^ (r + 8) = 0) : (A % B64) ||| y = (A + y) % B64 ∧ (A + y) / B64 = A / B64 := by
 obtain ⟨c, hc⟩ : ∃ c, B64 = 2 ^ (r + 8) * c := ⟨2 ^ (64 - (r + 8)), by rw [← Nat.pow_add, show r + 8 + (64 - (r + 8)) = 64 by omega]⟩
 obtain ⟨m, rfl⟩ : ∃ m, A = 2 ^ (r + 8) * m := ⟨A / 2 ^ (r + 8), by have := Nat.div_add_mod A (2 ^ (r + 8)); omega⟩
 have hc0 : 0 < c := by
  rcases Nat.eq_zero_or_pos c with h | h
  ·rw [h, Nat.mul_zero] at hc; exact absurd hc (by decide)
  ·exact h
 have hp := Nat.two_pow_pos (r + 8)
 rw [hc]
 have e1 : 2 ^ (r + 8) * m % (2 ^ (r + 8) * c) = 2 ^ (r + 8) * (m % c) := Nat.mul_mod_mul_left _ _ _
 have hmc := Nat.mod_lt m hc0
 have e3 : 2 ^ (r + 8) * m + y = (2 ^ (r + 8) * c) * (m / c) + (2 ^ (r + 8) * (m % c) + y) := by
  have := Nat.div_add_mod m c
  have h2 : 2 ^ (r + 8) * m = 2 ^ (r + 8) * (c * (m / c) + m % c) := by rw [this]
  rw [h2, Nat.mul_add, Nat.mul_assoc]; omega
 have hlt : 2 ^ (r + 8) * (m % c) + y < 2 ^ (r + 8) * c := by
  have h1 : 2 ^ (r + 8) * (m % c + 1) ≤ 2 ^ (r + 8) * c := Nat.mul_le_mul_left _ hmc
  rw [Nat.mul_add, Nat.mul_one] at h1
  omega
 constructor
 ·rw [e1, ← Nat.two_pow_add_eq_or_of_lt hy, e3, Nat.mul_add_mod, Nat.mod_eq_of_lt hlt]
 ·rw [e3, Nat.mul_add_div (Nat.mul_pos hp hc0), Nat.div_eq_of_lt hlt, Nat.add_zero, Nat.mul_div_mul_left _ _ hp]
theorem p0S (n N k x : Nat) (hx : x < 256) (hN : N % 256 ^ (k + 1) = 0) (hk : k / 8 < n) : (a0J n N).set (k / 8) (lw N (k / 8) ||| x * 2 ^ (8 * (k % 8))) = a0J n (N + x * 256 ^ k) := by
 have hA : N / B64 ^ (k / 8) % 2 ^ (8 * (k % 8) + 8) = 0 := by
  have e : 256 ^ (k + 1) = B64 ^ (k / 8) * 2 ^ (8 * (k % 8) + 8) := by rw [Nat.pow_succ, p0R, Nat.mul_assoc, Nat.pow_add]
  rw [e] at hN
  rw [← Nat.mod_mul_right_div_self, hN, Nat.zero_div]
 obtain ⟨h1, h2⟩ := v0I (N / B64 ^ (k / 8)) (x * 2 ^ (8 * (k % 8))) (8 * (k % 8)) (by omega) (e0S x _ hx) hA
 have e : N + x * 256 ^ k = N + B64 ^ (k / 8) * (x * 2 ^ (8 * (k % 8))) := by rw [p0R, Nat.mul_left_comm]
 rw [e]
 apply List.ext_getElem?
 intro i
 rw [List.getElem?_set, b0c]
 rcases Nat.lt_or_ge i n with hi | hi
 ·rw [c0d _ _ _ hi, c0d _ _ _ hi]
  rcases Nat.lt_trichotomy i (k / 8) with h | h | h
  ·rw [if_neg (by omega), g0C _ _ _ _ h]
  ·subst h
   rw [if_pos rfl, if_pos hi]
   congr 1
   have := c0q N (x * 2 ^ (8 * (k % 8))) (k / 8) 0
   rw [Nat.add_zero] at this
   rw [this]
   simp only [lw, Nat.pow_zero, Nat.div_one]
   exact h1
  ·rw [if_neg (by omega)]
   congr 1
   obtain ⟨j, rfl⟩ : ∃ j, i = k / 8 + (1 + j) := ⟨i - k / 8 - 1, by omega⟩
   rw [c0q, ← b0Z N, ← b0Z _ 1 j, ← b0Z _ 1 j, Nat.pow_one, h2]
 ·rw [if_neg (by omega), List.getElem?_eq_none (by rw [b0c]; exact hi), List.getElem?_eq_none (by rw [b0c]; exact hi)]
def b0o (N : Nat) : List UInt8 := (List.range 32).map fun i => UInt8.ofNat (N / 256 ^ (31 - i))
theorem a0T (N : Nat) : (b0o N).length = 32 := by simp [b0o]
theorem i0P (N i : Nat) (h : i < 32) : (b0o N).getD i 0 = UInt8.ofNat (N / 256 ^ (31 - i)) := by simp [b0o, List.getD_eq_getElem?_getD, h]
theorem p0T (N k : Nat) : lw N (k / 8) / 2 ^ (8 * (k % 8)) % 256 = N / 256 ^ k % 256 := by
 unfold lw
 rw [p0R, ← Nat.div_div_eq_div_mul]
 generalize N / B64 ^ (k / 8) = A
 have hr : 8 * (k % 8) + 8 ≤ 64 := by omega
 generalize 8 * (k % 8) = r at *
 have e : B64 = 2 ^ r * 2 ^ (64 - r) := by rw [← Nat.pow_add, show r + (64 - r) = 64 by omega]
 rw [e, Nat.mod_mul_right_div_self]
 exact Nat.mod_mod_of_dvd _ ⟨2 ^ (64 - r - 8), by rw [show (256 : Nat) = 2 ^ 8 from rfl, ← Nat.pow_add, show 8 + (64 - r - 8) = 64 - r by omega]⟩
theorem u0K (N i : Nat) : lw N (i / 64) / 2 ^ (i % 64) % 2 = N / 2 ^ i % 2 := by
 unfold lw
 have e1 : 2 ^ i = B64 ^ (i / 64) * 2 ^ (i % 64) := by
  rw [show B64 = 2 ^ 64 from rfl, ← Nat.pow_mul, ← Nat.pow_add]
  congr 1; omega
 rw [e1, ← Nat.div_div_eq_div_mul]
 generalize N / B64 ^ (i / 64) = A
 have hr : i % 64 + 1 ≤ 64 := by omega
 generalize i % 64 = r at *
 have e : B64 = 2 ^ r * 2 ^ (64 - r) := by rw [← Nat.pow_add, show r + (64 - r) = 64 by omega]
 rw [e, Nat.mod_mul_right_div_self]
 exact Nat.mod_mod_of_dvd _ ⟨2 ^ (64 - r - 1), by rw [show (2 : Nat) ^ (64 - r) = 2 ^ (1 + (64 - r - 1)) by congr 1; omega, Nat.pow_add, Nat.pow_one]⟩
theorem m0S (N : Nat) (h : N < 256 ^ 32) : beN (b0o N) = N := by
 have key : ∀ n, n ≤ 32 → beN ((b0o N).take n) = N / 256 ^ (32 - n) := by
  intro n
  induction n with
  | zero => intro _; simp only [List.take_zero, i0N, Nat.sub_zero]; exact (Nat.div_eq_of_lt h).symm
  | succ n ih =>
   intro hn
   rw [i0O _ _ (by rw [a0T]; omega), ih (by omega), i0P _ _ (by omega), show 32 - (n + 1) = 31 - n by omega, show 32 - n = (31 - n) + 1 by omega, Nat.pow_succ, ← Nat.div_div_eq_div_mul]
   simp only [UInt8.toNat_ofNat']
   have := Nat.div_add_mod (N / 256 ^ (31 - n)) 256
   show _ * 256 + N / 256 ^ (31 - n) % 256 = _
   omega
 have := key 32 (Nat.le_refl _)
 rw [List.take_of_length_le (by rw [a0T]; exact Nat.le_refl _)] at this
 simpa using this
def b0H (a n p i : Nat) : Nat := a ^ (n / 2 ^ i) % p
theorem s0D (a n p : Nat) (hp : 1 < p) (hn : n < B64 ^ 4) : b0H a n p 256 = 1 := by
 unfold b0H
 rw [Nat.div_eq_of_lt (Nat.lt_of_lt_of_le hn (by decide)), Nat.pow_zero, Nat.mod_eq_of_lt hp]
theorem s0E (a n p : Nat) : b0H a n p 0 = a ^ n % p := by unfold b0H; rw [Nat.pow_zero, Nat.div_one]
theorem d0s (n i : Nat) : n / 2 ^ i = 2 * (n / 2 ^ (i + 1)) + n / 2 ^ i % 2 := by
 rw [Nat.pow_succ, ← Nat.div_div_eq_div_mul]
 have := Nat.div_add_mod (n / 2 ^ i) 2
 omega
theorem o0f (a n p i : Nat) (h : n / 2 ^ i % 2 = 0) : b0H a n p (i + 1) * b0H a n p (i + 1) % p = b0H a n p i := by
 unfold b0H
 rw [← Nat.mul_mod, ← Nat.pow_add]
 have := d0s n i
 rw [h, Nat.two_mul, Nat.add_zero] at this
 rw [this]
theorem o0g (a n p i : Nat) (h : n / 2 ^ i % 2 = 1) : b0H a n p (i + 1) * b0H a n p (i + 1) * a % p = b0H a n p i := by
 have := d0s n i
 rw [h] at this
 unfold b0H
 rw [← Nat.mod_mul_mod (_ * _), ← Nat.mul_mod, ← Nat.pow_add, Nat.mod_mul_mod, ← Nat.pow_succ, this, Nat.two_mul]
theorem s0F (s : ByteArray) (h : s.size = 32) : beN s.data.toList < B64 ^ 4 := by
 have := u0J s.data.toList
 rw [show s.data.toList.length = s.size by simp, h] at this
 exact Nat.lt_of_lt_of_le this (by decide)
theorem i0Q (l : List UInt8) (h : l.length ≤ 32) : beN l < B64 ^ 4 :=
 Nat.lt_of_lt_of_le (u0J l) (Nat.le_trans (Nat.pow_le_pow_right (by decide) h) (by decide))
theorem o0h (a b : List UInt8) : beN (a ++ b) = beN a * 256 ^ b.length + beN b := by
 have key : ∀ (n : Nat) (b : List UInt8), b.length = n → beN (a ++ b) = beN a * 256 ^ n + beN b := by
  intro n
  induction n with
  | zero => intro b hb; rw [List.length_eq_zero_iff.1 hb]; simp [i0N]
  | succ n ih =>
   intro b hb
   obtain ⟨m, x, rfl⟩ : ∃ m x, b = m ++ [x] := by
    rcases List.eq_nil_or_concat b with h | ⟨m, x, h⟩
    ·subst h; simp at hb
    ·exact ⟨m, x, by simpa using h⟩
   rw [← List.append_assoc, g0c, ih m (by simpa using hb), g0c, Nat.pow_succ, Nat.add_mul, ← Nat.mul_assoc, Nat.add_assoc]
 exact key _ b rfl
theorem j0Z (l : List UInt8) (r k : Nat) (h : r + k ≤ l.length) : beN (l.take (r + k)) = beN (l.take r) * 256 ^ k + beN ((l.drop r).take k) := by
 rw [List.take_add, o0h]
 congr 3
 simp; omega
end Mvp
namespace Go.Proofs.YtemcankmggmgoaaGreatDoor
section
open Go.RowKit Go.Mv Mvp
attribute [local irreducible] a0J lw mix cw b0t b0G b0q a0P a0u beN laid b0o
theorem i0R (x : UInt8) (r : Nat) (hr : r + 8 ≤ 64) : (shl (wid x) r).toNat = x.toNat * 2 ^ r := by
 have hx := x.toNat_lt
 have h1 : x.toNat * 2 ^ r < 2 ^ (r + 8) := e0S x.toNat r hx
 have h2 : 2 ^ (r + 8) ≤ 2 ^ 64 := Nat.pow_le_pow_right (by omega) hr
 simp only [shl, wid, UInt64.toNat_ofNat', UInt8.toNat_toUInt64]
 exact Nat.mod_eq_of_lt (Nat.lt_of_lt_of_le h1 h2)
theorem u0L (s : ByteArray) (w : World) (hs : s.size ≤ 32) :
  Calls Tryz.prog 80 #[.string s] w fun e w' => e = .returned (i4 (beN s.data.toList)) ∧ Fr Nob w w' := by
 have HS := qH hs
 have hsz : s.data.toList.length = s.size := by simp
 have HSZ := qH hsz
 clear hs hsz
 have st0 := St.start Nob w
 go_enter Tryz.func80, Tryz.ntmps80
 go_wp2_with (with_reducible refine wSk 2 ?_)
 refine a0b st0 rfl rfl (z := zAd) (by kernel_rfl) (cw 4 0) (by rw [a0f]; rfl) ?_
 intro g2 w1 st1
 clear st0
 go_wp2_with (with_reducible refine wSk 3 ?_)
 refine a0b st1 rfl rfl (z := zAd) (by kernel_rfl) (cw 4 0) (by rw [a0f]; rfl) ?_
 intro g3 w2 st2
 clear st1
 have hmx : s.size ≤ 32 := HS.out
 go_wp2
 go_loopw [4] (fun i wr => ∃ k : Nat, k ≤ s.size ∧ i = .int .i64 (k : Int) ∧ St Nob w wr [(g2, cw 4 0, 50), (g3, cw 4 (laid s.data.toList k), 50)]) (fun i _ => s.size - (intOf i).toNat)
 case atStart => exact ⟨0, by omega, rfl, by rw [j0X]; exact st2⟩
 case round =>
  obtain ⟨i, hi, rfl, st⟩ := hrel
  clear st2
  by_cases hlt : i < s.size
  ·have hltI : (i : Int) < (s.size : Int) := by omega
   have hll : i < s.data.toList.length := by rw [HSZ.out]; exact hlt
   have hstep := p0S 4 (laid s.data.toList i) (s.size - 1 - i) (s.data.toList.getD i 0).toNat (UInt8.toNat_lt _) (by have := m0R s.data.toList i hll; rwa [HSZ.out] at this) (by omega)
   have hsucc := j0Y s.data.toList i hll
   rw [HSZ.out] at hsucc
   rw [← hsucc] at hstep
   have hx : ∀ h1 : i < s.size, s[i]'h1 = s.data.toList.getD i 0 := by
    intro h1
    rw [List.getD_eq_getElem?_getD, List.getElem?_eq_getElem (by simpa using h1)]
    simp
    rfl
   have hd1 : (s.size : Int) - 1 - (i : Int) = ((s.size - 1 - i : Nat) : Int) := by omega
   generalize hN' : laid s.data.toList (i + 1) = N' at *
   have HN' := qH hN'; clear hN'
   generalize hN : laid s.data.toList i = N at *
   generalize s.data.toList.getD i 0 = x at *
   have hk32 : s.size - 1 - i < 32 := by omega
   generalize hk : s.size - 1 - i = k at *
   have HN := qH hN; clear hN
   have HK := qH hk; clear hk
   have HSTEP := qH hstep; clear hstep
   have HD := qH hd1; clear hd1 hsucc hll
   have c1 := (st.at 1 rfl).cell (a0D 4 N (k / 8) (by omega))
   have f1 := (st.at 1 rfl).free (k / 8) (by rw [a0a]; omega)
   have hlo : (0 : Int) ≤ (k : Int) / 8 ∧ (k : Int) / 8 < 4 := by omega
   have hor := bits_or_u64_nat (lw N (k / 8)) ((shl (wid x) (8 * (k % 8))).toNat) (c0n _ _) (e0v _)
   rw [i0R x (8 * (k % 8)) (by omega)] at hor
   simp only [Int.natCast_mul, Int.natCast_pow, Int.cast_ofNat_Int] at hor
   have HSH := qH (i0R x (8 * (k % 8)) (by omega))
   go_wp2_with fail
   rw [HD.out]
   have e1 : IntKind.i64.wrap ((k : Int) / 8) = (k : Int) / 8 := IntWalk.i64_in _ (by omega)
   have e2 : (k : Int).tmod 8 = (k : Int) % 8 := Int.tmod_eq_emod_of_nonneg (by omega)
   have e3 : IntKind.i64.wrap (8 * ((k : Int) % 8)) = 8 * ((k : Int) % 8) := IntWalk.i64_in _ (by omega)
   have e4 : ((k : Int) / 8).toNat = k / 8 := by omega
   refine wp_region_still_tail 16 (by kernel_rfl) (by kernel_rfl) ?_
   simp only [List.take_succ_cons, List.take_zero, List.drop_succ_cons, List.drop_zero]
   repeat still_step
   refine wpStill_nil ?_
   have hsh := HSH.out
   have hst := (st.set 1 rfl (k / 8) (.int .u64 ((lw N (k / 8) ||| x.toNat * 2 ^ (8 * (k % 8)) : Nat) : Int))).drew
   have hS : (cw 4 N).set (k / 8) (.int .u64 ((lw N (k / 8) ||| x.toNat * 2 ^ (8 * (k % 8)) : Nat) : Int)) = cw 4 N' := by
    rw [cw, j0U, HSTEP.out, cw]
   rw [hS] at hst
   have HST := qH hst
   clear hst hS
   go_wp2
   go_roundw
   case rel => exact ⟨i + 1, by omega, by go_num, by rw [HN'.out]; exact HST.out⟩
   case measure => simp [intOf]; omega
  ·have hge : ¬ ((i : Int) < (s.size : Int)) := by omega
   have hi2 : i = s.data.toList.length := by rw [HSZ.out]; omega
   rw [hi2, m0Q] at st
   clear hi2
   go_wp2_with (with_reducible refine wSk 33 ?_)
   refine a0h st 1 rfl rfl rfl Tryz.underlying50 rfl (by rw [a0a]; exact d0r) ?_
   go_wp2_with (with_reducible refine wSn ?_)
   refine a0d st 0 rfl rfl rfl rfl rfl (by rw [a0a, a0a]) (by rw [a0a]; exact d0r) (a0i _ _) ?_
   intro w9 st9
   clear st
   have hr := st9.at 0 rfl
   have hfr := st9.fr
   clear st9
   go_wp2
   exact bodyPost_ret (a0q rfl rfl hr Tryz.underlying50 (by rw [a0a]; exact d0r)) rfl ⟨rfl, hfr⟩
theorem i0S : (Tryz.prog.info? 72).map (·.size) = some 4 := by kernel_rfl
theorem d0J (a : Option Addr) (n c : Nat) (l : List UInt8) (w : World) (hb : RdB w a n l) (hs : n ≤ 32) :
  Calls Tryz.prog 67 #[.slice a n c] w fun e w' => e = .returned (i4 (beN l)) ∧ Fr Nob w w' := by
 have HS := qH hs
 have hsz : l.length = n := hb.len
 have HBB := qH hb; clear hb
 have HSZ := qH hsz
 clear hs hsz
 have st0 := St.start Nob w
 go_enter Tryz.func67, Tryz.ntmps67
 go_wp2_with (with_reducible refine wSk 2 ?_)
 refine a0b st0 rfl rfl (z := zAd) (by kernel_rfl) (cw 4 0) (by rw [a0f]; rfl) ?_
 intro g2 w1 st1
 clear st0
 have hmx : n ≤ 32 := HS.out
 go_wp2
 go_loopw [8] (fun i wr => ∃ k : Nat, k ≤ n ∧ i = .int .i64 (k : Int) ∧ St Nob w wr [(g2, cw 4 (laid l k), 72)]) (fun i _ => n - (intOf i).toNat)
 case atStart => exact ⟨0, by omega, rfl, by rw [j0X]; exact st1⟩
 case round =>
  obtain ⟨i, hi, rfl, st⟩ := hrel
  clear st1
  by_cases hlt : i < n
  ·have hltI : (i : Int) < (n : Int) := by omega
   have hll : i < l.length := by rw [HSZ.out]; exact hlt
   have hstep := p0S 4 (laid l i) (n - 1 - i) (l.getD i 0).toNat (UInt8.toNat_lt _) (by have := m0R l i hll; rwa [HSZ.out] at this) (by omega)
   have hsucc := j0Y l i hll
   rw [HSZ.out] at hsucc
   rw [← hsucc] at hstep
   obtain ⟨gb, ob, rfl, hcx⟩ := (HBB.out.still st.fr).at (by omega)
   have hx := hcx i hlt
   clear hcx
   have hd1 : (n : Int) - 1 - (i : Int) = ((n - 1 - i : Nat) : Int) := by omega
   generalize hN' : laid l (i + 1) = N' at *
   have HN' := qH hN'; clear hN'
   generalize hN : laid l i = N at *
   generalize l.getD i 0 = x at *
   have hk32 : n - 1 - i < 32 := by omega
   generalize hk : n - 1 - i = k at *
   have HN := qH hN; clear hN
   have HK := qH hk; clear hk
   have HSTEP := qH hstep; clear hstep
   have HD := qH hd1; clear hd1 hsucc hll
   have c1 := (st.at 0 rfl).cell (a0D 4 N (k / 8) (by omega))
   have f1 := (st.at 0 rfl).free (k / 8) (by rw [a0a]; omega)
   have hlo : (0 : Int) ≤ (k : Int) / 8 ∧ (k : Int) / 8 < 4 := by omega
   have hor := bits_or_u64_nat (lw N (k / 8)) ((shl (wid x) (8 * (k % 8))).toNat) (c0n _ _) (e0v _)
   rw [i0R x (8 * (k % 8)) (by omega)] at hor
   simp only [Int.natCast_mul, Int.natCast_pow, Int.cast_ofNat_Int] at hor
   have HSH := qH (i0R x (8 * (k % 8)) (by omega))
   go_wp2_with fail
   rw [HD.out]
   have e1 : IntKind.i64.wrap ((k : Int) / 8) = (k : Int) / 8 := IntWalk.i64_in _ (by omega)
   have e2 : (k : Int).tmod 8 = (k : Int) % 8 := Int.tmod_eq_emod_of_nonneg (by omega)
   have e3 : IntKind.i64.wrap (8 * ((k : Int) % 8)) = 8 * ((k : Int) % 8) := IntWalk.i64_in _ (by omega)
   have e4 : ((k : Int) / 8).toNat = k / 8 := by omega
   refine wp_region_still_tail 12 (by kernel_rfl) (by kernel_rfl) ?_
   simp only [List.take_succ_cons, List.take_zero, List.drop_succ_cons, List.drop_zero]
   repeat still_step
   refine wpStill_nil ?_
   have hsh := HSH.out
   have hst := (st.set 0 rfl (k / 8) (.int .u64 ((lw N (k / 8) ||| x.toNat * 2 ^ (8 * (k % 8)) : Nat) : Int))).drew
   have hS : (cw 4 N).set (k / 8) (.int .u64 ((lw N (k / 8) ||| x.toNat * 2 ^ (8 * (k % 8)) : Nat) : Int)) = cw 4 N' := by
    rw [cw, j0U, HSTEP.out, cw]
   rw [hS] at hst
   have HST := qH hst
   clear hst hS
   go_wp2
   go_roundw
   case rel => exact ⟨i + 1, by omega, by go_num, by rw [HN'.out]; exact HST.out⟩
   case measure => simp [intOf]; omega
  ·have hge : ¬ ((i : Int) < (n : Int)) := by omega
   have hi2 : i = l.length := by rw [HSZ.out]; omega
   rw [hi2, m0Q] at st
   clear hi2
   go_wp2_with (with_reducible refine wSk 31 ?_)
   refine a0h st 0 rfl rfl rfl Tryz.underlying72 rfl (by rw [a0a]; exact i0S) ?_
   go_wp2_with (with_reducible refine wSn ?_)
   refine a0d st 0 rfl rfl rfl rfl rfl (by rw [a0a]) (by rw [a0a]; exact i0S) (a0i _ _) ?_
   intro w9 st9
   clear st
   have hr := st9.at 0 rfl
   have hfr := st9.fr
   clear st9
   go_wp2
   exact bodyPost_ret (a0q rfl rfl hr Tryz.underlying72 (by rw [a0a]; exact i0S)) rfl ⟨rfl, hfr⟩
end
section
open Go.RowKit Go.Mv Mvp
theorem b0w : (Tryz.prog.info? 5).map (fun i => (i.zero, i.size, i.bytes)) = some (some (.int .u8 0), 1, 1) := by kernel_rfl
theorem c0r : (Tryz.prog.info? 5).map (·.size) = some 1 := by kernel_rfl
theorem p0U (s : ByteArray) : s.data.toList.length = s.size := by simp
end
section
open Go.RowKit Go.Mv Mvp
theorem i0T {k : IntKind} {a b : Int} (h : a = b) : Ending.returned (.int k a) = .returned (.int k b) := by rw [h]
attribute [local irreducible] a0J lw mix cw b0t b0G b0q a0P a0u beN laid b0o
theorem i0b (N : Nat) (w : World) :
  Calls Tryz.prog 59 #[i4 N] w fun e w' => ∃ v, e = .returned v ∧ Own w' w.heap.size 5 1 v 32 (bs (b0o N)) ∧ Fr Nob w w' := by
 have st0 := St.start Nob w
 go_enter Tryz.func59, Tryz.ntmps59
 go_wp2_with (with_reducible refine wSk 1 ?_)
 refine a0m st0 rfl rfl rfl (cw 4 N) rfl ?_
 intro g1 w1 st1
 clear st0
 go_wp2_with (with_reducible refine wSk 6 ?_)
 refine c0p rfl rfl Tryz.underlying24 b0w rfl rfl rfl 32 32 (by simp) (by simp) (by omega) (by omega) (by unfold maxLen; omega) ?_
 intro w2 hg2 hf2 hz2
 clear hz2
 have hb2 : w.heap.size ≤ w1.heap.size := st1.fr.size
 have st2 := st1.new hf2 hg2 (Nat.le_refl _)
 clear st1 hg2 hf2
 generalize w1.heap.size = gb at *
 have HBB := qH hb2; clear hb2
 go_wp2
 go_loopw [9] (fun i wr => ∃ k : Nat, k ≤ 32 ∧ i = .int .i64 (k : Int) ∧ St Nob w wr [(g1, cw 4 N, 72), (gb, bs (fill (b0o N) (List.replicate 32 0) k), 5)]) (fun i _ => 32 - (intOf i).toNat)
 case atStart => exact ⟨0, by omega, rfl, st2⟩
 case round =>
  obtain ⟨i, hi, rfl, st⟩ := hrel
  clear st2
  by_cases hlt : i < 32
  ·have hltI : (i : Int) < 32 := by omega
   have hd1 : (31 : Int) - (i : Int) = ((31 - i : Nat) : Int) := by omega
   have hgl := i0P N i hlt
   have hgb := p0T N (31 - i)
   have hk32 : 31 - i < 32 := by omega
   generalize hk : 31 - i = k at *
   have HK := qH hk; clear hk
   have HGL := qH hgl; clear hgl
   have HGB := qH hgb; clear hgb
   have c1 := (st.at 0 rfl).cell (a0D 4 N (k / 8) (by omega))
   obtain ⟨v3, c3, f3⟩ := (st.at 1 rfl).ready (i := i) (by rw [a0H, b0W _ _ _ (by rw [a0T]; simp)]; simpa using hlt)
   have hlo : (0 : Int) ≤ (k : Int) / 8 ∧ (k : Int) / 8 < 4 := by omega
   have e4 : ((k : Int) / 8).toNat = k / 8 := by omega
   go_wp2
   go_roundw
   case rel =>
    have h1 := st.set 1 rfl i (.int .u8 (((b0o N).getD i 0).toNat : Int))
    rw [e0J, f0Y _ _ _ (by rw [a0T]; simp) (by rw [a0T]; omega)] at h1
    have e : (((b0o N).getD i 0).toNat : Int) = (lw N (k / 8) : Int) / 2 ^ (8 * (k % 8)) % 256 := by
     rw [HGL.out, UInt8.toNat_ofNat']
     have := HGB.out
     rw [show (2 : Nat) ^ 8 = 256 from rfl, ← this]
     simp
    rw [e] at h1
    exact ⟨i + 1, by omega, by go_num, h1⟩
   case measure => simp [intOf]; omega
  ·have hge : ¬ ((i : Int) < 32) := by omega
   have hi32 : i = 32 := by omega
   have hown : Own wr w.heap.size 5 1 (.slice (some ⟨gb, 0, none⟩) 32 32) 32 (bs (b0o N)) := by
    have h := st.at 1 rfl
    rw [hi32, e0L _ _ _ (by rw [a0T]; simp) (by rw [a0T]; exact Nat.le_refl _)] at h
    have := Own.made h w.heap.size HBB.out 1 32 32 (Nat.le_refl _) (by unfold maxLen; omega) (by rw [a0H, a0T]; omega)
    rwa [List.take_of_length_le (by rw [a0H, a0T]; exact Nat.le_refl _)] at this
   have hfr := st.fr
   clear st hi32
   go_wp2
   go_ret
   exact ⟨_, rfl, hown, hfr⟩
theorem d0t (N : Nat) (w : World) :
  Calls Tryz.prog 33 #[i4 N] w fun e w' => e = .returned (.string (mkS (b0o N))) ∧ Fr Nob w w' := by
 have st0 := St.start Nob w
 go_enter Tryz.func33, Tryz.ntmps33
 go_wp2_with (with_reducible refine wSk 1 ?_)
 refine a0m st0 rfl rfl rfl (cw 4 N) rfl ?_
 intro g1 w1 st1
 clear st0
 go_wp2_with (with_reducible refine wSk 6 ?_)
 refine c0p rfl rfl Tryz.underlying24 b0w rfl rfl rfl 32 32 (by simp) (by simp) (by omega) (by omega) (by unfold maxLen; omega) ?_
 intro w2 hg2 hf2 hz2
 clear hz2
 have hb2 : w.heap.size ≤ w1.heap.size := st1.fr.size
 have st2 := st1.new hf2 hg2 (Nat.le_refl _)
 clear st1 hg2 hf2
 generalize w1.heap.size = gb at *
 have HBB := qH hb2; clear hb2
 go_wp2
 go_loopw [4] (fun i wr => ∃ k : Nat, k ≤ 32 ∧ i = .int .i64 (k : Int) ∧ St Nob w wr [(g1, cw 4 N, 50), (gb, bs (fill (b0o N) (List.replicate 32 0) k), 5)]) (fun i _ => 32 - (intOf i).toNat)
 case atStart => exact ⟨0, by omega, rfl, st2⟩
 case round =>
  obtain ⟨i, hi, rfl, st⟩ := hrel
  clear st2
  by_cases hlt : i < 32
  ·have hltI : (i : Int) < 32 := by omega
   have hd1 : (31 : Int) - (i : Int) = ((31 - i : Nat) : Int) := by omega
   have hgl := i0P N i hlt
   have hgb := p0T N (31 - i)
   have hk32 : 31 - i < 32 := by omega
   generalize hk : 31 - i = k at *
   have HK := qH hk; clear hk
   have HGL := qH hgl; clear hgl
   have HGB := qH hgb; clear hgb
   have c1 := (st.at 0 rfl).cell (a0D 4 N (k / 8) (by omega))
   obtain ⟨v3, c3, f3⟩ := (st.at 1 rfl).ready (i := i) (by rw [a0H, b0W _ _ _ (by rw [a0T]; simp)]; simpa using hlt)
   have hlo : (0 : Int) ≤ (k : Int) / 8 ∧ (k : Int) / 8 < 4 := by omega
   have e4 : ((k : Int) / 8).toNat = k / 8 := by omega
   go_wp2
   go_roundw
   case rel =>
    have h1 := st.set 1 rfl i (.int .u8 (((b0o N).getD i 0).toNat : Int))
    rw [e0J, f0Y _ _ _ (by rw [a0T]; simp) (by rw [a0T]; omega)] at h1
    have e : (((b0o N).getD i 0).toNat : Int) = (lw N (k / 8) : Int) / 2 ^ (8 * (k % 8)) % 256 := by
     rw [HGL.out, UInt8.toNat_ofNat']
     have := HGB.out
     rw [show (2 : Nat) ^ 8 = 256 from rfl, ← this]
     simp
    rw [e] at h1
    exact ⟨i + 1, by omega, by go_num, h1⟩
   case measure => simp [intOf]; omega
  ·have hge : ¬ ((i : Int) < 32) := by omega
   have hi32 : i = 32 := by omega
   have hrd : RdB wr (some ⟨gb, 0, none⟩) 32 (b0o N) := by
    have h := st.at 1 rfl
    rw [hi32, e0L _ _ _ (by rw [a0T]; simp) (by rw [a0T]; exact Nat.le_refl _)] at h
    have := Rd.whole h
    rwa [a0H, a0T] at this
   have hfr := st.fr
   clear st hi32
   go_wp2_with (with_reducible refine wSk 26 ?_)
   refine d0p rfl rfl Tryz.underlying24 Tryz.underlying5 Tryz.underlying9 rfl hrd ?_
   go_wp2
   go_ret
   exact ⟨rfl, hfr⟩
theorem g0d (N i : Nat) (w : World) (hi : i < 256) :
  Calls Tryz.prog 84 #[i4 N, .int .i64 (i : Int)] w fun e w' => e = .returned (.int .u64 ((N / 2 ^ i % 2 : Nat) : Int)) ∧ Fr Nob w w' := by
 have hb := u0K N i
 have HB := qH hb; clear hb
 have st0 := St.start Nob w
 go_enter Tryz.func84, Tryz.ntmps84
 go_wp2_with (with_reducible refine wSk 2 ?_)
 refine a0m st0 rfl rfl rfl (cw 4 N) rfl ?_
 intro g1 w1 st1
 clear st0
 have c1 := (st1.at 0 rfl).cell (a0D 4 N (i / 64) (by omega))
 have hlo : (0 : Int) ≤ (i : Int) / 64 ∧ (i : Int) / 64 < 4 := by omega
 have hlo2 : (0 : Int) ≤ (i : Int) % 64 ∧ (i : Int) % 64 < 64 := by omega
 have e4 : ((i : Int) / 64).toNat = i / 64 := by omega
 have e5 : ((i : Int) % 64).toNat = i % 64 := by omega
 have hfr := st1.fr
 clear st1
 have hw : lw N (i / 64) / 2 ^ (i % 64) < 18446744073709551616 := Nat.lt_of_le_of_lt (Nat.div_le_self _ _) (c0n _ _)
 have ha := bits_and_u64_nat (lw N (i / 64) / 2 ^ (i % 64)) 1 hw (by omega)
 rw [Nat.and_one_is_mod] at ha
 simp only [Int.natCast_ediv, Int.natCast_pow, Int.cast_ofNat_Int] at ha
 go_wp2
 go_ret
 refine ⟨i0T ?_, hfr⟩
 rw [← HB.out]
 simp
theorem m0T (N i : Nat) (w : World) (hi : i < 256) :
  Calls Tryz.prog 115 #[i4 N, .int .i64 (i : Int)] w fun e w' => e = .returned (.int .u64 ((N / 2 ^ i % 2 : Nat) : Int)) ∧ Fr Nob w w' := by
 have hb := u0K N i
 have HB := qH hb; clear hb
 have st0 := St.start Nob w
 go_enter Tryz.func115, Tryz.ntmps115
 go_wp2_with (with_reducible refine wSk 2 ?_)
 refine a0m st0 rfl rfl rfl (cw 4 N) rfl ?_
 intro g1 w1 st1
 clear st0
 have c1 := (st1.at 0 rfl).cell (a0D 4 N (i / 64) (by omega))
 have hlo : (0 : Int) ≤ (i : Int) / 64 ∧ (i : Int) / 64 < 4 := by omega
 have hlo2 : (0 : Int) ≤ (i : Int) % 64 ∧ (i : Int) % 64 < 64 := by omega
 have e4 : ((i : Int) / 64).toNat = i / 64 := by omega
 have e5 : ((i : Int) % 64).toNat = i % 64 := by omega
 have hfr := st1.fr
 clear st1
 have hw : lw N (i / 64) / 2 ^ (i % 64) < 18446744073709551616 := Nat.lt_of_le_of_lt (Nat.div_le_self _ _) (c0n _ _)
 have ha := bits_and_u64_nat (lw N (i / 64) / 2 ^ (i % 64)) 1 hw (by omega)
 rw [Nat.and_one_is_mod] at ha
 simp only [Int.natCast_ediv, Int.natCast_pow, Int.cast_ofNat_Int] at ha
 go_wp2
 go_ret
 refine ⟨i0T ?_, hfr⟩
 rw [← HB.out]
 simp
end
section
open Go.RowKit Go.Mv Mvp
attribute [local irreducible] a0J lw mix cw b0t b0G b0q a0P a0u beN laid b0o b0H
theorem v0J (a n p i : Nat) (hp : 0 < p) : b0H a n p i < p := by unfold b0H; exact Nat.mod_lt _ hp
theorem p0V (p a n : Nat) (w : World) (hp1 : 1 < p) (hp : p < B64 ^ 4) (ha : a < B64 ^ 4) (hn : n < B64 ^ 4) :
  Calls Tryz.prog 87 #[fv p, i4 a, i4 n] w fun e w' => e = .returned (i4 (a ^ n % p)) ∧ Fr Nob w w' := by
 have HP1 := qH hp1
 have HP := qH hp
 have HA := qH ha
 have HN := qH hn
 have HP0 := qH (show 0 < p by omega)
 have H1 := qH (show (1 : Nat) = b0H a n p 256 from (s0D a n p hp1 hn).symm)
 clear hp1 hp ha hn
 have st0 := St.start Nob w
 go_enter Tryz.func87, Tryz.ntmps87
 go_wp2_with (with_reducible refine wSk 3 ?_)
 refine a0m st0 rfl rfl rfl (cw 4 p ++ cw 4 (B64 ^ 4 - p)) rfl ?_
 intro g3 w1 st1
 clear st0
 go_wp2_with (with_reducible refine wSk 4 ?_)
 refine a0m st1 rfl rfl rfl (cw 4 a) rfl ?_
 intro g4 w2 st2
 clear st1
 go_wp2_with (with_reducible refine wSk 5 ?_)
 refine a0m st2 rfl rfl rfl (cw 4 n) rfl ?_
 intro g5 w3 st3
 clear st2
 go_wp2_with (with_reducible refine wSk 6 ?_)
 refine a0b st3 rfl rfl (z := zAd) (by kernel_rfl) (cw 4 0) (by rw [a0f]; rfl) ?_
 intro g6 w4 st4
 clear st3
 go_wp2_with fail
 refine (g0I 1 _ (by decide)).mono ?_
 rintro e' w5 ⟨rfl, hf5⟩
 have st5 := st4.keep hf5
 clear st4 hf5
 go_wp2_with (with_reducible refine wSk 7 ?_)
 refine a0b st5 rfl rfl (z := zAd) (by kernel_rfl) (cw 4 0) (by rw [a0f]; rfl) ?_
 intro g7 w6 st6
 clear st5
 go_wp2_with (with_reducible refine wSn ?_)
 refine a0d st6 4 rfl rfl rfl rfl rfl (by first | (simp only [a0a]; done) | (simp only [List.length_append, a0a]; done)) (by simp only [a0a]; kernel_rfl) (a0i _ _) ?_
 intro w7 st7
 clear st6
 rw [show (1 : Nat) = b0H a n p 256 from H1.out] at st7
 go_wp2
 go_loopw [8] (fun i wr => ∃ j : Nat, j ≤ 256 ∧ i = .int .i64 ((j : Int) - 1) ∧ St Nob w wr [(g3, cw 4 p ++ cw 4 (B64 ^ 4 - p), 66), (g4, cw 4 a, 50), (g5, cw 4 n, 50), (g6, cw 4 0, 50), (g7, cw 4 (b0H a n p j), 50)]) (fun i _ => (intOf i + 1).toNat)
 case atStart => exact ⟨256, by omega, rfl, st7⟩
 case round =>
  obtain ⟨j, hj, rfl, st⟩ := hrel
  clear st7
  cases j with
  | succ i =>
   rw [show (((i + 1 : Nat) : Int)) - 1 = (i : Int) by omega]
   have hge : (0 : Int) ≤ (i : Int) := by omega
   have hlt := v0J a n p (i + 1) HP0.out
   have HLT := qH (Nat.lt_trans hlt HP.out)
   clear hlt
   go_wp2_with (with_reducible refine wSk 14 ?_)
   refine a0o st 0 rfl rfl rfl Tryz.underlying66 rfl rfl (by first | (rw [a0a]; kernel_rfl) | (simp only [List.length_append, a0a]; kernel_rfl)) ?_
   go_wp2_with (with_reducible refine wSk 15 ?_)
   refine a0h st 4 rfl rfl rfl Tryz.underlying50 rfl (by simp only [a0a]; kernel_rfl) ?_
   go_wp2_with (with_reducible refine wSk 16 ?_)
   refine a0h st 4 rfl rfl rfl Tryz.underlying50 rfl (by simp only [a0a]; kernel_rfl) ?_
   go_wp2_with fail
   refine (g0H p (b0H a n p (i + 1)) (b0H a n p (i + 1)) _ HP0.out HP.out HLT.out HLT.out).mono ?_
   rintro e' w8 ⟨rfl, hf8⟩
   have st8 := st.keep hf8
   clear st hf8
   go_wp2_with (with_reducible refine wSn ?_)
   refine a0d st8 4 rfl rfl rfl rfl rfl (by first | (simp only [a0a]; done) | (simp only [List.length_append, a0a]; done)) (by simp only [a0a]; kernel_rfl) (a0i _ _) ?_
   intro w9 st9
   clear st8
   go_wp2_with (with_reducible refine wSk 18 ?_)
   refine a0h st9 2 rfl rfl rfl Tryz.underlying50 rfl (by simp only [a0a]; kernel_rfl) ?_
   go_wp2_with fail
   refine (g0d n i _ (by omega)).mono ?_
   rintro e' w10 ⟨rfl, hf10⟩
   have st10 := st9.keep hf10
   clear st9 hf10
   have hbt : n / 2 ^ i % 2 = 0 ∨ n / 2 ^ i % 2 = 1 := by omega
   have HS0 := qH (o0f a n p i)
   have HS1 := qH (o0g a n p i)
   generalize hbb : n / 2 ^ i % 2 = bt at *
   have HBB := qH hbb
   clear hbb
   rcases hbt with rfl | rfl
   ·have hst := st10
    rw [HS0.out (by first | rfl | trivial)] at hst
    clear st10
    go_wp2
    go_roundw
    case rel => exact ⟨i, by omega, rfl, hst⟩
    case measure => simp [intOf]
   ·have HLQ := qH (show (b0H a n p (i + 1) * b0H a n p (i + 1) % p) < B64 ^ 4 from Nat.lt_trans (Nat.mod_lt _ HP0.out) HP.out)
    go_wp2_with (with_reducible refine wSk 22 ?_)
    refine a0o st10 0 rfl rfl rfl Tryz.underlying66 rfl rfl (by first | (rw [a0a]; kernel_rfl) | (simp only [List.length_append, a0a]; kernel_rfl)) ?_
    go_wp2_with (with_reducible refine wSk 23 ?_)
    refine a0h st10 4 rfl rfl rfl Tryz.underlying50 rfl (by simp only [a0a]; kernel_rfl) ?_
    go_wp2_with (with_reducible refine wSk 24 ?_)
    refine a0h st10 1 rfl rfl rfl Tryz.underlying50 rfl (by simp only [a0a]; kernel_rfl) ?_
    go_wp2_with fail
    refine (g0H p (b0H a n p (i + 1) * b0H a n p (i + 1) % p) a _ HP0.out HP.out HLQ.out HA.out).mono ?_
    rintro e' w11 ⟨rfl, hf11⟩
    have st11 := st10.keep hf11
    clear st10 hf11
    go_wp2_with (with_reducible refine wSn ?_)
    refine a0d st11 4 rfl rfl rfl rfl rfl (by first | (simp only [a0a]; done) | (simp only [List.length_append, a0a]; done)) (by simp only [a0a]; kernel_rfl) (a0i _ _) ?_
    intro w12 st12
    clear st11
    have hst := st12
    rw [HS1.out (by first | rfl | trivial)] at hst
    clear st12
    go_wp2
    go_roundw
    case rel => exact ⟨i, by omega, rfl, hst⟩
    case measure => simp [intOf]
  | zero =>
   rw [show (((0 : Nat) : Int)) - 1 = -1 by omega]
   go_wp2_with (with_reducible refine wSk 26 ?_)
   refine a0h st 4 rfl rfl rfl Tryz.underlying50 rfl (by simp only [a0a]; kernel_rfl) ?_
   go_wp2_with (with_reducible refine wSn ?_)
   refine a0d st 3 rfl rfl rfl rfl rfl (by first | (simp only [a0a]; done) | (simp only [List.length_append, a0a]; done)) (by simp only [a0a]; kernel_rfl) (a0i _ _) ?_
   intro w8 st8
   clear st
   have hr := st8.at 3 rfl
   have hfr := st8.fr
   clear st8
   go_wp2_with fail
   exact bodyPost_ret (a0q rfl rfl hr Tryz.underlying50 (by simp only [a0a]; kernel_rfl)) rfl ⟨by rw [s0E]; rfl, hfr⟩
theorem v0K (p a : Nat) (w : World) (hp1 : 1 < p) (hp : p < B64 ^ 4) (ha : a < B64 ^ 4) :
  Calls Tryz.prog 46 #[fv p, i4 a] w fun e w' => e = .returned (i4 (a ^ (p - 2) % p)) ∧ Fr Nob w w' := by
 have HP1 := qH hp1
 have HP := qH hp
 have HA := qH ha
 have HPP := qH (show p - 2 < B64 ^ 4 by omega)
 have h2l := fun wx => g0b p 2 wx (by decide)
 rw [g0D p 2 (by omega), ← b0g 2 (by decide)] at h2l
 have H2L := qH h2l
 clear h2l
 clear hp1 hp ha
 have st0 := St.start Nob w
 go_enter Tryz.func46, Tryz.ntmps46
 go_wp2_with (with_reducible refine wSk 2 ?_)
 refine a0m st0 rfl rfl rfl (cw 4 p ++ cw 4 (B64 ^ 4 - p)) rfl ?_
 intro g2 w1 st1
 clear st0
 go_wp2_with (with_reducible refine wSk 3 ?_)
 refine a0m st1 rfl rfl rfl (cw 4 a) rfl ?_
 intro g3 w2 st2
 clear st1
 go_wp2_with (with_reducible refine wSk 4 ?_)
 refine a0b st2 rfl rfl (z := zAd) (by kernel_rfl) (cw 4 0) (by rw [a0f]; rfl) ?_
 intro g4 w3 st3
 clear st2
 go_wp2_with (with_reducible refine wSk 9 ?_)
 refine b0E rfl rfl Tryz.underlying50 rfl (st3.at 0 rfl) (cw 4 p) (f0u 4 4 _ _) (by simp only [a0a]; kernel_rfl) ?_
 go_wp2_with fail
 refine (H2L.out _).mono ?_
 rintro e' w4 ⟨rfl, hf4⟩
 have st4 := st3.keep hf4
 clear st3 hf4
 go_wp2_with (with_reducible refine wSk 5 ?_)
 refine a0b st4 rfl rfl (z := zAd) (by kernel_rfl) (cw 4 0) (by rw [a0f]; rfl) ?_
 intro g5 w5 st5
 clear st4
 go_wp2_with (with_reducible refine wSn ?_)
 refine a0d st5 3 rfl rfl rfl rfl rfl (by first | (simp only [a0a]; done) | (simp only [List.length_append, a0a]; done)) (by simp only [a0a]; kernel_rfl) (a0i _ _) ?_
 intro w6 st6
 clear st5
 go_wp2_with (with_reducible refine wSk 14 ?_)
 refine a0o st6 0 rfl rfl rfl Tryz.underlying66 rfl rfl (by first | (rw [a0a]; kernel_rfl) | (simp only [List.length_append, a0a]; kernel_rfl)) ?_
 go_wp2_with (with_reducible refine wSk 15 ?_)
 refine a0h st6 1 rfl rfl rfl Tryz.underlying50 rfl (by simp only [a0a]; kernel_rfl) ?_
 go_wp2_with (with_reducible refine wSk 16 ?_)
 refine a0h st6 3 rfl rfl rfl Tryz.underlying50 rfl (by simp only [a0a]; kernel_rfl) ?_
 go_wp2_with fail
 refine (p0V p a (p - 2) _ HP1.out HP.out HA.out HPP.out).mono ?_
 rintro e' w7 ⟨rfl, hf7⟩
 have st7 := st6.keep hf7
 clear st6 hf7
 go_wp2_with (with_reducible refine wSn ?_)
 refine a0d st7 2 rfl rfl rfl rfl rfl (by first | (simp only [a0a]; done) | (simp only [List.length_append, a0a]; done)) (by simp only [a0a]; kernel_rfl) (a0i _ _) ?_
 intro w8 st8
 clear st7
 have hr := st8.at 2 rfl
 have hfr := st8.fr
 clear st8
 go_wp2_with fail
 exact bodyPost_ret (a0q rfl rfl hr Tryz.underlying50 (by simp only [a0a]; kernel_rfl)) rfl ⟨rfl, hfr⟩
end
section
open Go.RowKit Go.Mv Mvp
attribute [local irreducible] a0J lw mix cw b0t b0G b0q a0P a0u beN laid b0o b0H
theorem o0i (p : Nat) (s : ByteArray) (w : World) (hs : s.size ≠ 32) :
  Calls Tryz.prog 41 #[fv p, .string s] w fun e w' => e = .returned (.tuple #[i4 0, .bool false]) ∧ Fr Nob w w' := by
 have HS := qH hs
 have HZ := qH (b0g 0 (by decide))
 clear hs
 have st0 := St.start Nob w
 go_enter Tryz.func41, Tryz.ntmps41
 go_wp2_with (with_reducible refine wSk 2 ?_)
 refine a0m st0 rfl rfl rfl (cw 4 p ++ cw 4 (B64 ^ 4 - p)) rfl ?_
 intro g2 w1 st1
 clear st0
 go_wp2_with (with_reducible refine wSk 4 ?_)
 refine a0b st1 rfl rfl (z := zAd) (by kernel_rfl) (cw 4 0) (by rw [a0f]; rfl) ?_
 intro g4 w2 st2
 clear st1
 have hne : ((s.size : Int) != 32) = true := by have := HS.out; simp; omega
 go_wp2_with (with_reducible refine wSn ?_)
 refine a0d st2 1 rfl rfl rfl rfl (cs := cw 4 0) HZ.out (by simp only [a0a]) (by simp only [a0a]; kernel_rfl) (a0i _ _) ?_
 intro w9 st9
 clear st2
 have hr := st9.at 1 rfl
 have hfr := st9.fr
 clear st9
 go_wp2_with fail
 exact bodyPost_ret (a0Q rfl rfl hr Tryz.underlying50 (by simp only [a0a]; kernel_rfl) rfl) rfl ⟨rfl, hfr⟩
theorem k0a (p : Nat) (s : ByteArray) (w : World) (hs : s.size = 32) (hp : p < B64 ^ 4) :
  Calls Tryz.prog 41 #[fv p, .string s] w fun e w' => e = .returned (.tuple #[i4 (beN s.data.toList), .bool (decide (beN s.data.toList < p))]) ∧ Fr Nob w w' := by
 have HS := qH hs
 have HP := qH hp
 have HN := qH (s0F s hs)
 clear hs hp
 have st0 := St.start Nob w
 go_enter Tryz.func41, Tryz.ntmps41
 go_wp2_with (with_reducible refine wSk 2 ?_)
 refine a0m st0 rfl rfl rfl (cw 4 p ++ cw 4 (B64 ^ 4 - p)) rfl ?_
 intro g2 w1 st1
 clear st0
 go_wp2_with (with_reducible refine wSk 4 ?_)
 refine a0b st1 rfl rfl (z := zAd) (by kernel_rfl) (cw 4 0) (by rw [a0f]; rfl) ?_
 intro g4 w2 st2
 clear st1
 have hne : ((s.size : Int) != 32) = false := by have := HS.out; simp; omega
 go_wp2_with fail
 refine (u0L s _ (by have := HS.out; omega)).mono ?_
 rintro e' w3 ⟨rfl, hf3⟩
 have st3 := st2.keep hf3
 clear st2 hf3
 go_wp2_with (with_reducible refine wSk 6 ?_)
 refine a0b st3 rfl rfl (z := zAd) (by kernel_rfl) (cw 4 0) (by rw [a0f]; rfl) ?_
 intro g6 w4 st4
 clear st3
 go_wp2_with (with_reducible refine wSn ?_)
 refine a0d st4 2 rfl rfl rfl rfl rfl (by first | (simp only [a0a]; done) | (simp only [List.length_append, a0a]; done)) (by simp only [a0a]; kernel_rfl) (a0i _ _) ?_
 intro w5 st5
 clear st4
 go_wp2_with (with_reducible refine wSk 14 ?_)
 refine a0h st5 2 rfl rfl rfl Tryz.underlying50 rfl (by simp only [a0a]; kernel_rfl) ?_
 go_wp2_with (with_reducible refine wSk 16 ?_)
 refine b0E rfl rfl Tryz.underlying50 rfl (st5.at 0 rfl) (cw 4 p) (f0u 4 4 _ _) (by simp only [a0a]; kernel_rfl) ?_
 go_wp2_with fail
 refine (p0Q (beN s.data.toList) p _ HN.out HP.out).mono ?_
 rintro e' w6 ⟨rfl, hf6⟩
 have st6 := st5.keep hf6
 clear st5 hf6
 go_wp2_with (with_reducible refine wSk 18 ?_)
 refine a0h st6 2 rfl rfl rfl Tryz.underlying50 rfl (by simp only [a0a]; kernel_rfl) ?_
 go_wp2_with (with_reducible refine wSn ?_)
 refine a0d st6 1 rfl rfl rfl rfl rfl (by first | (simp only [a0a]; done) | (simp only [List.length_append, a0a]; done)) (by simp only [a0a]; kernel_rfl) (a0i _ _) ?_
 intro w7 st7
 clear st6
 have hr := st7.at 1 rfl
 have hfr := st7.fr
 clear st7
 go_wp2_with fail
 exact bodyPost_ret (a0Q rfl rfl hr Tryz.underlying50 (by simp only [a0a]; kernel_rfl) rfl) rfl ⟨rfl, hfr⟩
theorem v0L (p : Nat) (s : ByteArray) (w : World) (hp0 : 0 < p) (hp : p < B64 ^ 4) (hs : s.size ≤ 1000000) :
  Calls Tryz.prog 30 #[fv p, .string s] w fun e w' => e = .returned (i4 (beN s.data.toList % p)) ∧ Fr Nob w w' := by
 have HS := qH hs
 have HP0 := qH hp0
 have HP := qH hp
 have HZ := qH (b0g 0 (by decide))
 have HSZ := qH (show s.data.toList.length = s.size by simp)
 clear hs hp0 hp
 have st0 := St.start Nob w
 go_enter Tryz.func30, Tryz.ntmps30
 go_wp2_with (with_reducible refine wSk 2 ?_)
 refine a0m st0 rfl rfl rfl (cw 4 p ++ cw 4 (B64 ^ 4 - p)) rfl ?_
 intro g2 w1 st1
 clear st0
 go_wp2_with (with_reducible refine wSk 4 ?_)
 refine a0b st1 rfl rfl (z := zAd) (by kernel_rfl) (cw 4 0) (by rw [a0f]; rfl) ?_
 intro g4 w2 st2
 clear st1
 go_wp2_with (with_reducible refine wSk 5 ?_)
 refine a0b st2 rfl rfl (z := zAd) (by kernel_rfl) (cw 4 0) (by rw [a0f]; rfl) ?_
 intro g5 w3 st3
 clear st2
 go_wp2_with (with_reducible refine wSn ?_)
 refine a0d st3 2 rfl rfl rfl rfl (cs := cw 4 0) HZ.out (by simp only [a0a]) (by simp only [a0a]; kernel_rfl) (a0i _ _) ?_
 intro w9 st9
 clear st3
 have hmx : s.size ≤ 1000000 := HS.out
 go_wp2
 go_loopw [6] (fun i wr => ∃ k : Nat, k ≤ s.size ∧ i = .int .i64 (k : Int) ∧ St Nob w wr [(g2, cw 4 p ++ cw 4 (B64 ^ 4 - p), 66), (g4, cw 4 0, 50), (g5, cw 4 (beN (s.data.toList.take k) % p), 50)]) (fun i _ => s.size - (intOf i).toNat)
 case atStart => exact ⟨0, by omega, rfl, by rw [List.take_zero, i0N, Nat.zero_mod]; exact st9⟩
 case round =>
  obtain ⟨i, hi, rfl, st⟩ := hrel
  clear st9
  by_cases hlt : i < s.size
  ·have hltI : (i : Int) < (s.size : Int) := by omega
   have hll : i < s.data.toList.length := by rw [HSZ.out]; exact hlt
   have hx : ∀ h1 : i < s.size, s[i]'h1 = s.data.toList.getD i 0 := by
    intro h1
    rw [List.getD_eq_getElem?_getD, List.getElem?_eq_getElem (by simpa using h1)]
    simp
    rfl
   have hsucc := i0O s.data.toList i hll
   have hmlt := Nat.mod_lt (beN (s.data.toList.take i)) HP0.out
   generalize hM : beN (s.data.toList.take (i + 1)) = M' at *
   generalize hN : beN (s.data.toList.take i) = N at *
   generalize s.data.toList.getD i 0 = x at *
   have HN := qH hN; clear hN
   have HM := qH hM; clear hM
   have HLN := qH (Nat.lt_trans hmlt HP.out)
   have hfin : (N % p * 256 + x.toNat) % p = M' % p := by rw [hsucc, Nat.add_mod, Nat.mod_mul_mod, ← Nat.add_mod]
   have hbig : N % p * 256 + x.toNat < B64 ^ 8 := by
    have h1 := HP.out
    have h2 := x.toNat_lt
    exact Nat.lt_of_lt_of_le (show N % p * 256 + x.toNat < B64 ^ 4 * 256 by omega) (by decide)
   have HFIN := qH hfin
   have HBIG := qH hbig
   have hprod := fun wx => e0c (N % p) 256 wx HLN.out (by decide)
   rw [← b0g 256 (by decide)] at hprod
   have HPROD := qH hprod
   have hplus := fun wx => g0F (N % p * 256) x.toNat wx
   rw [← j0V x.toNat (Nat.lt_trans x.toNat_lt (by decide))] at hplus
   have HPLUS := qH hplus
   clear hll hsucc hmlt hfin hbig hprod hplus
   go_wp2_with (with_reducible refine wSk 15 ?_)
   refine a0h st 2 rfl rfl rfl Tryz.underlying50 rfl (by first | (rw [a0a]; kernel_rfl) | (simp only [List.length_append, a0a]; kernel_rfl)) ?_
   go_wp2_with fail
   refine (HPROD.out _).mono ?_
   rintro e' w10 ⟨rfl, hf10⟩
   have st10 := st.keep hf10
   clear st hf10
   go_wp2_with (with_reducible refine wSk 7 ?_)
   refine a0b st10 rfl rfl (z := .agg #[.int .u64 0, .int .u64 0, .int .u64 0, .int .u64 0, .int .u64 0, .int .u64 0, .int .u64 0, .int .u64 0]) (by kernel_rfl) (cw 8 0) (by rw [a0f]; rfl) ?_
   intro g7 w11 st11
   clear st10
   go_wp2_with (with_reducible refine wSn ?_)
   refine a0d st11 3 rfl rfl rfl rfl rfl (by first | (simp only [a0a]; done) | (simp only [List.length_append, a0a]; done)) (by first | (rw [a0a]; kernel_rfl) | (simp only [List.length_append, a0a]; kernel_rfl)) (a0i _ _) ?_
   intro w12 st12
   clear st11
   go_wp2_with fail
   refine wp_region_noPanic ?_
   refine b0O (fun wx => St Nob w wx [(g2, cw 4 p ++ cw 4 (B64 ^ 4 - p), 66), (g4, cw 4 0, 50), (g5, cw 4 (N % p), 50), (g7, cw 8 (N % p * 256), 106)]) 9 [(0, true), (1, true), (2, true), (3, true), (4, true), (5, true), (6, true), (7, false), (8, false)] (by kernel_rfl) (by kernel_rfl) st12.drew (fun _ _ _ _ _ h => h) ?_
   have hd12 := st12.drew
   refine c0U rfl rfl rfl rfl (cw 4 p ++ cw 4 (B64 ^ 4 - p)) (fun wx hS => St.rangeL hS 0 rfl 0 _ dZl) Tryz.underlying66 rfl (by first | (rw [a0a]; kernel_rfl) | (simp only [List.length_append, a0a]; kernel_rfl)) ?_
   try simp only [clL]
   refine c0U rfl rfl rfl rfl (cw 8 (N % p * 256)) (fun wx hS => St.rangeL hS 3 rfl 0 _ dZl) Tryz.underlying106 rfl (by first | (rw [a0a]; kernel_rfl) | (simp only [List.length_append, a0a]; kernel_rfl)) ?_
   try simp only [clL]
   refine a0B (v := ?_) rfl rfl (fun wx hS => ?_) ?_
   rotate_left 1
   ·(clear hS; go_simp; with_reducible rfl)
   try simp only [clL]
   refine a0B (v := ?_) rfl rfl (fun wx hS => ?_) ?_
   rotate_left 1
   ·(clear hS; go_simp; with_reducible rfl)
   try simp only [clL]
   refine a0B (v := ?_) rfl rfl (fun wx hS => ?_) ?_
   rotate_left 1
   ·(clear hS; go_simp; with_reducible rfl)
   try simp only [clL]
   refine a0B (v := ?_) rfl rfl (fun wx hS => ?_) ?_
   rotate_left 1
   ·(clear hS; go_simp; with_reducible rfl)
   try simp only [clL]
   refine a0B (v := ?_) rfl rfl (fun wx hS => ?_) ?_
   rotate_left 1
   ·(clear hS; go_simp; with_reducible rfl)
   try simp only [clL]
   refine d0l rfl rfl ?_
   go_simp
   refine (HPLUS.out _).mono ?_
   rintro e' w13 ⟨rfl, hf13⟩
   have st13 := hd12.keep hf13
   clear hd12 hf13
   refine ⟨st13, ?_⟩
   try simp only [clL]
   refine d0l rfl rfl ?_
   go_simp
   refine (i0L p (N % p * 256 + x.toNat) _ HP0.out HP.out HBIG.out).mono ?_
   rintro e' w14 ⟨rfl, hf14⟩
   have st14 := st13.keep hf14
   clear st13 hf14
   refine ⟨st14, ?_⟩
   try simp only [clL]
   refine f0w ?_
   try simp only [List.drop_succ_cons, List.drop_zero]
   refine a0d st14 2 rfl rfl rfl rfl rfl (by first | (simp only [a0a]; done) | (simp only [List.length_append, a0a]; done)) (by first | (rw [a0a]; kernel_rfl) | (simp only [List.length_append, a0a]; kernel_rfl)) (a0i _ _) ?_
   intro w15 st15
   clear st14
   go_wp2_with fail
   refine NoPanic.normal ?_
   have hst := st15
   rw [HFIN.out] at hst
   clear st15
   go_wp2
   go_roundw
   case rel => exact ⟨i + 1, by omega, by go_num, by rw [HM.out]; exact hst.less (by simp)⟩
   case measure => simp [intOf]; omega
  ·have hge : ¬ ((i : Int) < (s.size : Int)) := by omega
   have hi2 : i = s.data.toList.length := by rw [HSZ.out]; omega
   rw [hi2, List.take_of_length_le (Nat.le_refl _)] at st
   clear hi2
   go_wp2_with (with_reducible refine wSk 27 ?_)
   refine a0h st 2 rfl rfl rfl Tryz.underlying50 rfl (by first | (rw [a0a]; kernel_rfl) | (simp only [List.length_append, a0a]; kernel_rfl)) ?_
   go_wp2_with (with_reducible refine wSn ?_)
   refine a0d st 1 rfl rfl rfl rfl rfl (by first | (simp only [a0a]; done) | (simp only [List.length_append, a0a]; done)) (by first | (rw [a0a]; kernel_rfl) | (simp only [List.length_append, a0a]; kernel_rfl)) (a0i _ _) ?_
   intro w10 st10
   clear st
   have hr := st10.at 1 rfl
   have hfr := st10.fr
   clear st10
   go_wp2_with fail
   exact bodyPost_ret (a0q rfl rfl hr Tryz.underlying50 (by first | (rw [a0a]; kernel_rfl) | (simp only [List.length_append, a0a]; kernel_rfl))) rfl ⟨rfl, hfr⟩
end
end Go.Proofs.YtemcankmggmgoaaGreatDoor
namespace Mvp
def cP : Nat := 4294968273
def cQ : Nat := 4624529908474429119 + 4994812053365940164 * B64 + B64 ^ 2
def pP : Nat := B64 ^ 4 - cP
def pQ : Nat := B64 ^ 4 - cQ
theorem y0V : cP < B64 ^ 4 := by decide
theorem y0W : cQ < B64 ^ 4 := by decide
theorem z0P : B64 ^ 4 - pP = cP := by decide
theorem z0Q : B64 ^ 4 - pQ = cQ := by decide
end Mvp
namespace Go.Mv
open Go.RowKit
variable {P : Program}
theorem c0e {w : World} {ops : Array Oper} {rest : List Oper} {o : Oper} {a : Act} {Q : Exit → Act → World → Prop} {t e : TypeId} {k : Nat} {parts : Array (Nat × Operand)} (hgd : o.guard = none) (ho : o.op = .buildSlice t k parts)
  (hu : P.underlying t = some (.slice e)) {z : Value} {by_ : Nat} (hi0 : (P.info? e).map (fun i => (i.zero, i.size, i.bytes)) = some (some z, 1, by_)) (vs : List Value) (hp : (parts.toList.map fun p => (p.1, a.eval p.2)) = (vs.zipIdx 0).map fun x => (x.2, x.1))
  (hv : ∀ v ∈ vs, v.cells = #[v]) (hk : vs.length = k) (hz : z.cells.size = 1)
  (h : ∀ w', Has w' w.heap.size vs e → Fr Nob w w' → w'.heap.size = w.heap.size + 1 → wpList P ops Q rest (a.put o.dst (.slice (some ⟨w.heap.size, 0, none⟩) k k)) w') (hk0 : 0 < k := by decide) (hk24 : k ≤ 16777216 := by decide) : wpList P ops Q (o :: rest) a w := by
 have _hz := hz
 obtain ⟨i, hi, hz0⟩ : ∃ i, P.info? e = some i ∧ (i.zero, i.size, i.bytes) = (some z, 1, by_) := by simpa using hi0
 simp only [Prod.mk.injEq] at hz0
 obtain ⟨hz1, hsz, hby⟩ := hz0
 have hf : Instr.fill (fun j => some (j * i.size, i.size)) ((Array.range (k * i.size)).map (z.cells[· % z.cells.size]!)) (parts.map fun (i, x) => (i, a.eval x)).toList = some vs.toArray := by
  rw [show (parts.map fun (i, x) => (i, a.eval x)).toList = (parts.toList.map fun p => (p.1, a.eval p.2)) by simp, hp, hsz]
  exact Great.fill_flat vs _ hv (by simp [hk])
 exact wpList_buildSlice hgd t e k _ ho _ i _ hu hi hz1 (by rw [hsz]; omega) (by rw [hsz]; omega) hf (h _ (Has.new w vs.toArray e) ((Fr.refl _ w).alloc _) (by simp))
theorem c0f {w : World} {ops : Array Oper} {rest : List Oper} {o : Oper} {a : Act} {Q : Exit → Act → World → Prop} {t : TypeId} {parts : Array (Nat × Operand)} (hgd : o.guard = none) (ho : o.op = .build t parts) (cells : Array Value)
  (hb : P.built t (parts.toList.map fun p => (p.1, a.eval p.2)) = some cells) (h : wpList P ops Q rest (a.put o.dst (.agg cells)) w) : wpList P ops Q (o :: rest) a w :=
 m0J hgd ho cells (by rw [show (parts.map fun (i, x) => (i, a.eval x)).toList = (parts.toList.map fun p => (p.1, a.eval p.2)) by simp]; exact hb) h
theorem s0G {w : World} {ops : Array Oper} {rest : List Oper} {o : Oper} {a : Act} {Q : Exit → Act → World → Prop} {ty : TypeId} {x : Operand} (hgd : o.guard = none) (ho : o.op = .load ty x) {d : TypeDesc} (hu : P.underlying ty = some d) (hd : d.isRow = true) {g p : Nat} (hx : a.eval x = .pointer (some ⟨g, p, none⟩))
  {cs : List Value} (hg : At w g p cs) (hi : (P.info? ty).map (·.size) = some cs.length)
  (h : wpList P ops Q rest (a.put o.dst (.agg cs.toArray)) w) : wpList P ops Q (o :: rest) a w :=
 wpList_load_mid hgd ty x ho g p hx cs d (fun j v hv => hg j v hv) hu hd hi h
end Go.Mv
namespace Go.Proofs.YtemcankmggmgoaaGreatDoor
open Go.RowKit Go.Mv Mvp
attribute [local irreducible] a0J lw mix b0t b0G b0q a0P a0u beN laid b0o b0H
theorem m0U : (Value.agg #[.int .u64 4294968273, .int .u64 0, .int .u64 0, .int .u64 0]) = .agg (cw 4 cP).toArray := by kernel_rfl
theorem s0H : (Value.agg #[.int .u64 4624529908474429119, .int .u64 4994812053365940164, .int .u64 1, .int .u64 0]) = .agg (cw 4 cQ).toArray := by kernel_rfl
theorem m0V (a b : Nat) : Tryz.prog.built 66 [(0, .agg (cw 4 a).toArray), (1, .agg (cw 4 b).toArray)] = some (cw 4 a ++ cw 4 b).toArray := by kernel_rfl
theorem a0F {P : Program} {fn : Func} {p : Tmp} {ty : TypeId} (h : fn.results = #[.cell p ty]) {tmps : Array Value} {w : World} {g : Nat} {L : List Value} {T : TypeId}
  (hp : tmps.getD p undef = .pointer (some ⟨g, 0, none⟩)) (hg : Has w g L T) {d : TypeDesc} (hu : P.underlying ty = some d) (hd : (match d with | .struct _ | .array _ _ => true | _ => false) = true) (hi : (P.info? ty).map (·.size) = some L.length) :
  (results fn tmps).run P w = .ok (.agg L.toArray) w := by
 obtain ⟨lo, hi', hh, -⟩ := hg
 exact results_cell_row h tmps w g T L.toArray _ _ hp hh hu hd (by simpa using hi)
theorem i0U (m n a b : Nat) : ∀ v ∈ cw m a ++ cw n b, v.oneCell' = true := by
 intro v hv
 simp only [List.mem_append] at hv
 rcases hv with hv | hv
 ·exact a0i _ _ v hv
 ·exact a0i _ _ v hv
theorem y0X : fv pP = .agg (cw 4 (B64 ^ 4 - cP) ++ cw 4 cP).toArray := by unfold fv; rw [z0P]; rfl
theorem y0Y : fv pQ = .agg (cw 4 (B64 ^ 4 - cQ) ++ cw 4 cQ).toArray := by unfold fv; rw [z0Q]; rfl
attribute [local irreducible] cw
theorem y0Z (w : World) :
  Calls Tryz.prog 61 #[.int .i64 0] w fun e w' => e = .returned (fv pP) ∧ Fr Nob w w' := by
 have st0 := St.start Nob w
 go_enter Tryz.func61, Tryz.ntmps61
 go_wp2_with (with_reducible refine wSk 2 ?_)
 refine a0b st0 rfl rfl (z := .agg #[.int .u64 0, .int .u64 0, .int .u64 0, .int .u64 0, .int .u64 0, .int .u64 0, .int .u64 0, .int .u64 0]) (by kernel_rfl) (cw 8 0) (by rw [a0f]; rfl) ?_
 intro g2 w1 st1
 clear st0
 go_wp2_with (with_reducible refine wSk 3 ?_)
 refine a0b st1 rfl rfl (z := zAd) (by kernel_rfl) (cw 4 0) (by rw [a0f]; rfl) ?_
 intro g3 w2 st2
 clear st1
 go_wp2_with (with_reducible refine wSn ?_)
 refine a0d st2 1 rfl rfl rfl rfl (cs := cw 4 cP) m0U (by simp only [a0a]) (by simp only [a0a]; kernel_rfl) (a0i _ _) ?_
 intro w3 st3
 clear st2
 go_wp2_with (with_reducible refine wSk 4 ?_)
 refine a0b st3 rfl rfl (z := zAd) (by kernel_rfl) (cw 4 0) (by rw [a0f]; rfl) ?_
 intro g4 w4 st4
 clear st3
 go_wp2
 go_loopw [5, 6] (fun c i wr => ∃ k : Nat, k ≤ 4 ∧ i = .int .i64 (k : Int) ∧ c = .int .u64 (b0t 0 cP k : Nat) ∧ St Nob w wr [(g2, cw 8 0, 66), (g3, cw 4 cP, 50), (g4, cw 4 (mix (0 + B64 ^ 4 - cP) 0 k), 50)]) (fun _ i _ => 4 - (intOf i).toNat)
 case atStart => exact ⟨0, by omega, rfl, by rw [e0N]; rfl, by rw [d0f]; exact st4⟩
 case round =>
  obtain ⟨k, hk, rfl, rfl, st⟩ := hrel
  clear st4
  by_cases hlt : k < 4
  ·have hltI : (k : Int) < 4 := by omega
   have c2 := (st.at 1 rfl).cell (a0D 4 cP k hlt)
   obtain ⟨v3, c3, f3⟩ := (st.at 2 rfl).ready (i := k) (by rw [a0a]; exact hlt)
   have e1 : ∀ wx, (callFunc 92 #[.int .u64 0, .int .u64 (lw cP k : Nat), .int .u64 (b0t 0 cP k : Nat)]).run Tryz.prog wx = .ok (.value (.tuple #[.int .u64 (lw (0 + B64 ^ 4 - cP) k : Nat), .int .u64 (b0t 0 cP (k + 1) : Nat)])) wx := fun wx => by
    have h := e0Q 0 (lw cP k) (b0t 0 cP k) (i0K 0 cP k) wx
    rw [m0K 4 0 cP k y0V hlt, e0O, c0K 0 0 k (by decide) (Nat.zero_le _)]
    exact h
   go_wp2
   go_roundw
   case rel =>
    have h1 := st.set 2 rfl k (.int .u64 (lw (0 + B64 ^ 4 - cP) k : Nat))
    rw [d0g _ _ _ _ hlt] at h1
    exact ⟨k + 1, by omega, by go_num, rfl, h1⟩
   case measure => simp [intOf]; omega
  ·have hge : ¬ ((k : Int) < 4) := by omega
   have hk4 : k = 4 := by omega
   rw [hk4, g0y _ _ _ (by decide), cw_mod, Nat.zero_add] at st
   clear hk4
   go_wp2_with (with_reducible refine wSk 25 ?_)
   refine a0h st 2 rfl rfl rfl Tryz.underlying50 rfl (by simp only [a0a]; kernel_rfl) ?_
   go_wp2_with (with_reducible refine wSk 26 ?_)
   refine a0h st 1 rfl rfl rfl Tryz.underlying50 rfl (by simp only [a0a]; kernel_rfl) ?_
   go_wp2_with (with_reducible refine wSk 27 ?_)
   refine c0f rfl rfl _ (m0V (B64 ^ 4 - cP) cP) ?_
   go_wp2_with (with_reducible refine wSn ?_)
   refine a0d st 0 rfl rfl rfl rfl (cs := cw 4 (B64 ^ 4 - cP) ++ cw 4 cP) rfl (by first | (simp only [a0a]; done) | (simp only [List.length_append, a0a]; done)) (by rw [List.length_append, a0a, a0a]; kernel_rfl) (i0U _ _ _ _) ?_
   intro w5 st5
   clear st
   have hr := st5.at 0 rfl
   have hfr := st5.fr
   clear st5
   go_wp2
   exact bodyPost_ret (a0F rfl rfl hr Tryz.underlying66 rfl (by first | (rw [a0a]; kernel_rfl) | (simp only [List.length_append, a0a]; kernel_rfl))) rfl ⟨by rw [y0X], hfr⟩
theorem z0a (w : World) :
  Calls Tryz.prog 61 #[.int .i64 1] w fun e w' => e = .returned (fv pQ) ∧ Fr Nob w w' := by
 have st0 := St.start Nob w
 go_enter Tryz.func61, Tryz.ntmps61
 go_wp2_with (with_reducible refine wSk 2 ?_)
 refine a0b st0 rfl rfl (z := .agg #[.int .u64 0, .int .u64 0, .int .u64 0, .int .u64 0, .int .u64 0, .int .u64 0, .int .u64 0, .int .u64 0]) (by kernel_rfl) (cw 8 0) (by rw [a0f]; rfl) ?_
 intro g2 w1 st1
 clear st0
 go_wp2_with (with_reducible refine wSk 3 ?_)
 refine a0b st1 rfl rfl (z := zAd) (by kernel_rfl) (cw 4 0) (by rw [a0f]; rfl) ?_
 intro g3 w2 st2
 clear st1
 go_wp2_with (with_reducible refine wSn ?_)
 refine a0d st2 1 rfl rfl rfl rfl (cs := cw 4 cP) m0U (by simp only [a0a]) (by simp only [a0a]; kernel_rfl) (a0i _ _) ?_
 intro w3 st3
 clear st2
 go_wp2_with (with_reducible refine wSn ?_)
 refine a0d st3 1 rfl rfl rfl rfl (cs := cw 4 cQ) s0H (by simp only [a0a]) (by simp only [a0a]; kernel_rfl) (a0i _ _) ?_
 intro w4 st4
 clear st3
 go_wp2_with (with_reducible refine wSk 4 ?_)
 refine a0b st4 rfl rfl (z := zAd) (by kernel_rfl) (cw 4 0) (by rw [a0f]; rfl) ?_
 intro g4 w5 st5
 clear st4
 go_wp2
 go_loopw [5, 6] (fun c i wr => ∃ k : Nat, k ≤ 4 ∧ i = .int .i64 (k : Int) ∧ c = .int .u64 (b0t 0 cQ k : Nat) ∧ St Nob w wr [(g2, cw 8 0, 66), (g3, cw 4 cQ, 50), (g4, cw 4 (mix (0 + B64 ^ 4 - cQ) 0 k), 50)]) (fun _ i _ => 4 - (intOf i).toNat)
 case atStart => exact ⟨0, by omega, rfl, by rw [e0N]; rfl, by rw [d0f]; exact st5⟩
 case round =>
  obtain ⟨k, hk, rfl, rfl, st⟩ := hrel
  clear st5
  by_cases hlt : k < 4
  ·have hltI : (k : Int) < 4 := by omega
   have c2 := (st.at 1 rfl).cell (a0D 4 cQ k hlt)
   obtain ⟨v3, c3, f3⟩ := (st.at 2 rfl).ready (i := k) (by rw [a0a]; exact hlt)
   have e1 : ∀ wx, (callFunc 92 #[.int .u64 0, .int .u64 (lw cQ k : Nat), .int .u64 (b0t 0 cQ k : Nat)]).run Tryz.prog wx = .ok (.value (.tuple #[.int .u64 (lw (0 + B64 ^ 4 - cQ) k : Nat), .int .u64 (b0t 0 cQ (k + 1) : Nat)])) wx := fun wx => by
    have h := e0Q 0 (lw cQ k) (b0t 0 cQ k) (i0K 0 cQ k) wx
    rw [m0K 4 0 cQ k y0W hlt, e0O, c0K 0 0 k (by decide) (Nat.zero_le _)]
    exact h
   go_wp2
   go_roundw
   case rel =>
    have h1 := st.set 2 rfl k (.int .u64 (lw (0 + B64 ^ 4 - cQ) k : Nat))
    rw [d0g _ _ _ _ hlt] at h1
    exact ⟨k + 1, by omega, by go_num, rfl, h1⟩
   case measure => simp [intOf]; omega
  ·have hge : ¬ ((k : Int) < 4) := by omega
   have hk4 : k = 4 := by omega
   rw [hk4, g0y _ _ _ (by decide), cw_mod, Nat.zero_add] at st
   clear hk4
   go_wp2_with (with_reducible refine wSk 25 ?_)
   refine a0h st 2 rfl rfl rfl Tryz.underlying50 rfl (by simp only [a0a]; kernel_rfl) ?_
   go_wp2_with (with_reducible refine wSk 26 ?_)
   refine a0h st 1 rfl rfl rfl Tryz.underlying50 rfl (by simp only [a0a]; kernel_rfl) ?_
   go_wp2_with (with_reducible refine wSk 27 ?_)
   refine c0f rfl rfl _ (m0V (B64 ^ 4 - cQ) cQ) ?_
   go_wp2_with (with_reducible refine wSn ?_)
   refine a0d st 0 rfl rfl rfl rfl (cs := cw 4 (B64 ^ 4 - cQ) ++ cw 4 cQ) rfl (by first | (simp only [a0a]; done) | (simp only [List.length_append, a0a]; done)) (by rw [List.length_append, a0a, a0a]; kernel_rfl) (i0U _ _ _ _) ?_
   intro w6 st6
   clear st
   have hr := st6.at 0 rfl
   have hfr := st6.fr
   clear st6
   go_wp2
   exact bodyPost_ret (a0F rfl rfl hr Tryz.underlying66 rfl (by first | (rw [a0a]; kernel_rfl) | (simp only [List.length_append, a0a]; kernel_rfl))) rfl ⟨by rw [y0Y], hfr⟩
end Go.Proofs.YtemcankmggmgoaaGreatDoor
namespace Go.Mv
open Go.RowKit
variable {P : Program}
theorem l0J (p : Option Addr) (m : Nat) : c0m p 0 m = p := by
 unfold c0m
 split
 ·rfl
 ·cases p with
  | none => rfl
  | some a => simp [Addr.add]
theorem e0T (w : World) {ty : TypeId} {n : Nat} {e : TypeId} (hu : P.underlying ty = some (.array n e)) (hsz : (P.info? e).map (·.size) = some 1) (g p : Nat) (k : IntKind) (l : Nat) (h : l < n) :
  (Instr.sliceAt ty (.pointer (some ⟨g, p, none⟩)) (some (.int k (l : Int))) none none).run P w = .ok (.slice (some ⟨g, p + l, none⟩) (n - l) (n - l)) w := by
 obtain ⟨i, hi1, hi2⟩ : ∃ i, P.info? e = some i ∧ i.size = 1 := by simpa using hsz
 have hne : ¬ n = l := by omega
 have hle : l ≤ n := by omega
 simp [Instr.sliceAt, run_underlying hu, Instr.sliceBounds, a0S, hle, sizeOf, typeInfo, hi1, hi2, hne, d0d, Instr.sureAddr]
theorem d0K (w : World) {ty : TypeId} {n : Nat} {e : TypeId} (hu : P.underlying ty = some (.array n e)) (hsz : (P.info? e).map (·.size) = some 1) (g p : Nat) (k : IntKind) (h : Nat) (hh : h ≤ n) :
  (Instr.sliceAt ty (.pointer (some ⟨g, p, none⟩)) none (some (.int k (h : Int))) none).run P w = .ok (.slice (some ⟨g, p, none⟩) h n) w := by
 obtain ⟨i, hi1, hi2⟩ : ∃ i, P.info? e = some i ∧ i.size = 1 := by simpa using hsz
 simp [Instr.sliceAt, run_underlying hu, Instr.sliceBounds, a0S, hh, sizeOf, typeInfo, hi1, Addr.add, Instr.sureAddr]
theorem h0P (w : World) {ty : TypeId} {n : Nat} {e : TypeId} (hu : P.underlying ty = some (.array n e)) (hsz : (P.info? e).map (·.size) = some 1) (g p : Nat) :
  (Instr.sliceAt ty (.pointer (some ⟨g, p, none⟩)) none none none).run P w = .ok (.slice (some ⟨g, p, none⟩) n n) w := by
 obtain ⟨i, hi1, hi2⟩ : ∃ i, P.info? e = some i ∧ i.size = 1 := by simpa using hsz
 simp [Instr.sliceAt, run_underlying hu, Instr.sliceBounds, sizeOf, typeInfo, hi1, Addr.add, Instr.sureAddr]
theorem d0h (w : World) {ty e : TypeId} (hu : P.underlying ty = some (.slice e)) (hsz : (P.info? e).map (·.size) = some 1) (p : Option Addr) (n c : Nat) (k : IntKind) (h : Nat) (hh : h ≤ c) :
  (Instr.sliceAt ty (.slice p n c) none (some (.int k (h : Int))) none).run P w = .ok (.slice p h c) w := by
 obtain ⟨i, hi1, hi2⟩ : ∃ i, P.info? e = some i ∧ i.size = 1 := by simpa using hsz
 have := l0J p c
 simp [Instr.sliceAt, Instr.slice, run_underlying hu, Instr.sliceBounds, a0S, hh, sizeOf, typeInfo, hi1, Addr.add]
theorem f0M (w : World) {ty e : TypeId} (hu : P.underlying ty = some (.slice e)) (hsz : (P.info? e).map (·.size) = some 1) (p : Option Addr) (n c : Nat) (k : IntKind) (l : Nat) (hl : l ≤ n) :
  (Instr.sliceAt ty (.slice p n c) (some (.int k (l : Int))) none none).run P w = .ok (.slice (c0m p l c) (n - l) (c - l)) w := by
 obtain ⟨i, hi1, hi2⟩ : ∃ i, P.info? e = some i ∧ i.size = 1 := by simpa using hsz
 simp [Instr.sliceAt, Instr.slice, run_underlying hu, Instr.sliceBounds, a0S, hl, sizeOf, typeInfo, hi1, hi2, c0m]
theorem x0v {w : World} {ops : Array Oper} {rest : List Oper} {o : Oper} {a : Act} {Q : Exit → Act → World → Prop} {x y : Operand} {ts : Array TypeId} (hgd : o.guard = none) (ho : o.op = .call { callee := .builtin .min, args := #[x, y], argTypes := ts })
  {k k' : IntKind} {xi yi : Int} (hx : a.eval x = .int k xi) (hy : a.eval y = .int k' yi) (r : Nat) (hr : (if yi < xi then yi else xi) = (r : Int)) (h : wpList P ops Q rest (a.put o.dst (.int k (r : Int))) w) : wpList P ops Q (o :: rest) a w := by
 refine wpList_plain hgd fun K hK => ?_
 have hrun : (Builtin.min_ ts o.type #[.int k xi, .int k' yi]).run P w = .ok (.int k (r : Int)) w := by rw [run_min_int2, hr]
 unfold Oper.wp execOp
 simp only [ho, resolve, invoke, builtin, Sem.run_bind, Sem.run_pure, Result.andThen_ok, List.map_toArray, List.map_cons, List.map_nil, hx, hy, hrun]
 exact hK _ _ h
end Go.Mv
namespace Go.Mv
open Go.RowKit
section
variable {P : Program} {ops : Array Oper} {md : Region.Mode} {Q : Exit → Act → World → Prop} {S S2 : World → Prop}
def i0V (md : Region.Mode) (ops : Array Oper) (n : Nat) : Bool :=
 (List.range ops.size).all fun t => decide (t ≤ n) || (List.range t).any fun j => decide (n ≤ j) && Region.waitsFor md ops t j
theorem i0c {n : Nat} {listed : Array Bool} (hs : Region.sinkB md ops n = true) (hb : i0V md ops n = true) (inv : HeadInv md ops n listed) {i : Nat} (hi : i < n) (hun : listed.getD i true = false) :
  ∀ t, n ≤ t → t ∉ Region.ready md ops listed := by
 have key : ∀ (d i : Nat), n - i = d → i < n → listed.getD i true = false → n ∉ Region.ready md ops listed := by
  intro d
  induction d using Nat.strongRecOn with
  | _ d ih =>
   intro i hd hi hun hr
   obtain ⟨-, on, hon, hall⟩ := mem_ready.1 hr
   obtain ⟨j, hj, hj2⟩ := List.any_eq_true.1 (List.all_eq_true.1 hs i (List.mem_range.2 hi))
   simp only [Bool.and_eq_true, decide_eq_true_eq] at hj2
   obtain ⟨oj, hoj, e, he, hbi, heon⟩ := Region.waitsFor_spec hj2.2
   have hjn := List.mem_range.1 hj
   rcases Nat.lt_or_ge j n with h | h
   ·cases hl : listed.getD j false with
    | true =>
     have h2 := inv.closed j oj hoj hl e he hbi
     rw [heon, getD_both hun] at h2
     cases h2
    | false =>
     have hjs : j < listed.size := by
      have := (Array.getElem?_eq_some_iff.1 hoj).1
      rw [inv.size]; exact this
     exact ih (n - j) (by omega) j rfl h (getD_in hjs hl) hr
   ·have : j = n := by omega
    subst this
    have : oj = on := Option.some.inj (hoj.symm.trans hon)
    subst this
    have h2 := hall e he hbi
    rw [heon, getD_both hun] at h2
    cases h2
 intro t ht hr
 rcases Nat.eq_or_lt_of_le ht with rfl | h
 ·exact key _ i rfl hi hun hr
 ·obtain ⟨-, ot, hot, hall⟩ := mem_ready.1 hr
  have htl := (Array.getElem?_eq_some_iff.1 hot).1
  have h1 := List.all_eq_true.1 hb t (List.mem_range.2 htl)
  simp only [Bool.or_eq_true, decide_eq_true_eq] at h1
  rcases h1 with h1 | h1
  ·omega
  ·obtain ⟨j, hj, hj2⟩ := List.any_eq_true.1 h1
   simp only [Bool.and_eq_true, decide_eq_true_eq] at hj2
   obtain ⟨o', ho', e, he, hbi, heon⟩ := Region.waitsFor_spec hj2.2
   have : o' = ot := Option.some.inj (ho'.symm.trans hot)
   subst this
   have h2 := hall e he hbi
   have hjt := List.mem_range.1 hj
   rw [heon, getD_both (inv.tail j hj2.1 (by omega))] at h2
   cases h2
def k0b (P : Program) (md : Region.Mode) (ops : Array Oper) (Q : Exit → Act → World → Prop) (S : World → Prop) (n : Nat) (B : Array Bool → Act → World → Prop) : Nat → Array Bool → Act → World → Prop
 | 0, listed, a, w => Region.ready md ops listed = [n] ∧ B listed a w
 | f + 1, listed, a, w =>
  Region.ready md ops listed ≠ [] ∧ ∀ i ∈ Region.ready md ops listed, i < n ∧ wpOp P ops Q i (fun a' w' => S w' ∧ k0b P md ops Q S n B f (listed.setIfInBounds i true) a' w') a w
theorem i0d {n g : Nat} {B : Array Bool → Act → World → Prop} (hB : ∀ listed a w, Region.ready md ops listed = [n] → B listed a w → wpAny P md ops Q g listed a w) :
  ∀ (f : Nat) (listed : Array Bool) (a : Act) (w : World), k0b P md ops Q S n B f listed a w → wpAny P md ops Q (f + g) listed a w
 | 0, listed, a, w, h => by rw [Nat.zero_add]; exact hB _ _ _ h.1 h.2
 | f + 1, listed, a, w, h => by
  rw [show f + 1 + g = (f + g) + 1 by omega]
  exact ⟨fun h0 => absurd h0 h.1, fun i hi => wpOp_mono (fun a' w' h' => i0d hB f _ a' w' h'.2) (h.2 i hi).2⟩
theorem k0c {n i : Nat} {oi : Oper} {v : Value} {B : Array Bool → Act → World → Prop} (hi : ops[i]? = some oi) (hsel : ∀ (j : Nat) (o : Oper) cs b, ops[j]? = some o → o.op ≠ .select cs b)
  (hQ : ∀ c a w, Q (.panic c) (a.put oi.dst v) w → Q (.panic c) a w) (hs : Region.sinkB md ops n = true) (hb : i0V md ops n = true) (hin : i < n) :
  ∀ (f : Nat) (listed : Array Bool) (a : Act) (w : World), HeadInv md ops n listed →
   (∀ j oj, ops[j]? = some oj → j ≠ i → listed.getD j true = false → (∀ e ∈ oj.after, Region.binds md e = true → e.on ≠ i) → oi.apart ops oj = true) →
   i ∈ Region.ready md ops listed → YieldsIf P ops S oi v a → S w →
   k0b P md ops Q S n B f (listed.setIfInBounds i true) (a.put oi.dst v) w → k0b P md ops Q S n B (f + 1) listed a w := by
 intro f
 induction f with
 | zero =>
  intro listed a w inv _ hr hy hS H
  have hun := (mem_ready.1 hr).1
  refine ⟨fun h => (by rw [h] at hr; cases hr), fun j hj => ?_⟩
  have hjn : j < n := Nat.lt_of_not_le fun h => i0c hs hb inv hin hun j h hj
  refine ⟨hjn, ?_⟩
  by_cases hji : j = i
  ·subst hji; exact hy.wpOp hi hS ⟨hS, H⟩
  ·have h2 := ready_mono hj hji
   rw [H.1] at h2
   simp only [List.mem_singleton] at h2
   omega
 | succ f ih =>
  intro listed a w inv hfree hr hy hS H
  have hun := (mem_ready.1 hr).1
  refine ⟨fun h => (by rw [h] at hr; cases hr), fun j hj => ?_⟩
  have hjn : j < n := Nat.lt_of_not_le fun h => i0c hs hb inv hin hun j h hj
  refine ⟨hjn, ?_⟩
  by_cases hji : j = i
  ·subst hji; exact hy.wpOp hi hS ⟨hS, H⟩
  ·have h1 := (H.2 j (ready_mono hj hji)).2
   obtain ⟨hjun, oj, hoj, hall⟩ := mem_ready.1 hj
   have hnot : ∀ e ∈ oj.after, Region.binds md e = true → e.on ≠ i := fun e he hb heq => by
    have h1 := hall e he hb
    rw [heq, getD_both hun] at h1
    cases h1
   have h2 := wpOp_putIf hoj (hfree j oj hoj hji hjun hnot) (fun cs b => hsel i oi cs b hi) (fun cs b => hsel j oj cs b hoj) hQ hy h1
   have hfree' : ∀ k ok, ops[k]? = some ok → k ≠ i → (listed.setIfInBounds j true).getD k true = false →
     (∀ e ∈ ok.after, Region.binds md e = true → e.on ≠ i) → oi.apart ops ok = true := fun k ok hk hki hun hno => by
    refine hfree k ok hk hki ?_ hno
    by_cases hjk : j = k
    ·subst hjk; exact hjun
    ·rw [getD_set_ne true hjk] at hun; exact hun
   refine wpOp_mono (fun a' w' h3 => ⟨h3.2.1, ih (listed.setIfInBounds j true) a' w' (inv.set hj hjn) hfree' (ready_mono hr (Ne.symm hji)) h3.1 h3.2.1 ?_⟩) h2
   rw [Array.setIfInBounds_comm _ _ hji]
   exact h3.2.2
def e0U (P : Program) (ops : Array Oper) (Q : Exit → Act → World → Prop) (S : World → Prop) (B : Act → World → Prop) : List (Nat × Bool) → Act → World → Prop
 | [], a, w => B a w
 | (i, true) :: r, a, w => ∃ o v, ops[i]? = some o ∧ YieldsIf P ops S o v a ∧ e0U P ops Q S B r (a.put o.dst v) w
 | (i, false) :: r, a, w => ∃ o, ops[i]? = some o ∧ o.guard = none ∧ o.wp P a w (fun a' w' => S w' ∧ e0U P ops Q S B r a' w') Q
def f0N (P : Program) (ops : Array Oper) (Q : Exit → Act → World → Prop) (S : World → Prop) : List Nat → Act → World → Prop
 | [], a, w => Q .normal a w
 | i :: r, a, w => ∃ o v, ops[i]? = some o ∧ YieldsIf P ops S o v a ∧ f0N P ops Q S r (a.put o.dst v) w
def i0e (md : Region.Mode) (ops : Array Oper) : List Nat → Array Bool → Bool
 | [], listed => (Region.ready md ops listed).isEmpty
 | i :: r, listed => (Region.ready md ops listed).contains i && Region.free md ops listed i && i0e md ops r (listed.setIfInBounds i true)
def g0J (md : Region.Mode) (ops : Array Oper) (n : Nat) (s2 : List Nat) : List (Nat × Bool) → Array Bool → Bool
 | [], listed => decide (Region.ready md ops listed = [n]) && i0e md ops s2 (listed.setIfInBounds n true)
 | (i, true) :: r, listed => decide (i < n) && (Region.ready md ops listed).contains i && Region.free md ops listed i && g0J md ops n s2 r (listed.setIfInBounds i true)
 | (i, false) :: r, listed => decide (i < n) && decide (Region.ready md ops listed = [i]) && g0J md ops n s2 r (listed.setIfInBounds i true)
theorem e0x (hsel : Region.noSelect ops = true) (hQ : ∀ c (d : Option Tmp) v a w, Q (.panic c) (Act.put a d v) w → Q (.panic c) a w) :
  ∀ (r : List Nat) (listed : Array Bool) (a : Act) (w : World), i0e md ops r listed = true → S w → f0N P ops Q S r a w → wpAnyH P md ops Q S r.length listed a w
 | [], listed, a, w, hB, _, h => wpAnyH_done (by simpa [i0e] using hB) h 0
 | i :: r, listed, a, w, hB, hS, h => by
  obtain ⟨o, v, ho, hy, hK⟩ := h
  simp only [i0e, Bool.and_eq_true] at hB
  obtain ⟨⟨hr, hf⟩, hB'⟩ := hB
  exact wpAnyH_take ho hsel hf hr (fun c a w => hQ c o.dst v a w) hy hS (e0x hsel hQ r _ _ w hB' hS hK)
theorem d0L {n : Nat} {s2 : List Nat} {B : Act → World → Prop} (hsel : Region.noSelect ops = true) (hs : Region.sinkB md ops n = true) (hb : i0V md ops n = true)
  (hQ : ∀ c (d : Option Tmp) v a w, Q (.panic c) (Act.put a d v) w → Q (.panic c) a w) :
  ∀ (s : List (Nat × Bool)) (listed : Array Bool) (a : Act) (w : World), HeadInv md ops n listed → g0J md ops n s2 s listed = true → S w → e0U P ops Q S B s a w →
   k0b P md ops Q S n (fun l a w => i0e md ops s2 (l.setIfInBounds n true) = true ∧ B a w) s.length listed a w
 | [], listed, a, w, _, hB, _, h => by
  simp only [g0J, Bool.and_eq_true, decide_eq_true_eq] at hB
  exact ⟨hB.1, hB.2, h⟩
 | (i, true) :: r, listed, a, w, inv, hB, hS, h => by
  obtain ⟨o, v, ho, hy, hK⟩ := h
  simp only [g0J, Bool.and_eq_true, decide_eq_true_eq] at hB
  obtain ⟨⟨⟨hin, hr⟩, hf⟩, hB'⟩ := hB
  have hr' : i ∈ Region.ready md ops listed := by simpa using hr
  exact k0c ho (Region.noSelect_spec hsel) (fun c a w => hQ c o.dst v a w) hs hb hin r.length listed a w inv (Region.free_spec ho hf) hr' hy hS
   (d0L hsel hs hb hQ r _ _ w (inv.set hr' hin) hB' hS hK)
 | (i, false) :: r, listed, a, w, inv, hB, hS, h => by
  obtain ⟨o, ho, hg, hK⟩ := h
  simp only [g0J, Bool.and_eq_true, decide_eq_true_eq] at hB
  obtain ⟨⟨hin, hr⟩, hB'⟩ := hB
  have hr' : i ∈ Region.ready md ops listed := by rw [hr]; simp
  refine ⟨by rw [hr]; simp, fun j hj => ?_⟩
  rw [hr] at hj
  have hj' : j = i := by simpa using hj
  subst hj'
  refine ⟨hin, ?_⟩
  unfold wpOp
  simp only [ho]
  rw [if_pos (by simp [Region.wanted, hg])]
  exact .inl (Oper.wp_mono (fun a' w' h' => ⟨h'.1, d0L hsel hs hb hQ r _ a' w' (inv.set hr' hin) hB' h'.1 h'.2⟩) hK)
def p0W (ops : Array Oper) (n : Nat) (s : List (Nat × Bool)) (s2 : List Nat) : Bool :=
 Region.noSelect ops && decide (n < ops.size) && decide (s.length = n) && decide (s2.length = ops.size - n - 1) && Region.sinkB .any ops n && i0V .any ops n && g0J .any ops n s2 s (Array.replicate ops.size false)
theorem h0Q {id : Nat} {a : Act} {w : World} {l : List Oper} (S S2 : World → Prop) (n : Nat) (s : List (Nat × Bool)) (s2 : List Nat) (hm : P.follows .mixedOrders = true) (hB : p0W l.toArray n s s2 = true)
  (hS : S w.drew) (hQ : ∀ c (d : Option Tmp) v a w, Q (.panic c) (Act.put a d v) w → Q (.panic c) a w)
  (h : e0U P l.toArray Q S (fun a w => ∃ o, l[n]? = some o ∧ o.guard = none ∧ o.wp P a w (fun a' w' => S2 w' ∧ f0N P l.toArray Q S2 s2 a' w') Q) s a w.drew) : (Code.region id l.toArray true).wp P Q a w := by
 simp only [p0W, Bool.and_eq_true, decide_eq_true_eq] at hB
 obtain ⟨⟨⟨⟨⟨⟨hsel, hn⟩, hlen⟩, hlen2⟩, hs⟩, hb⟩, hseq⟩ := hB
 have inv0 : HeadInv .any l.toArray n (Array.replicate l.toArray.size false) :=
  ⟨by simp, fun j oj _ hl => (by rw [getD_replicate_false] at hl; cases hl), fun t _ ht => getD_in (by simpa using ht) (getD_replicate_false _ _)⟩
 have H := d0L (md := .any) hsel hs hb hQ s _ a w.drew inv0 hseq hS h
 refine wp_region_any hm ?_
 have := i0d (g := s2.length + 1) (fun listed a w hr hBB => by
  obtain ⟨hok, o, ho, hg, hK⟩ := hBB
  refine ⟨fun h0 => (by rw [hr] at h0; cases h0), fun i hi => ?_⟩
  rw [hr] at hi
  have hi' : i = n := by simpa using hi
  subst hi'
  unfold wpOp
  have ho' : l.toArray[i]? = some o := by simpa using ho
  simp only [ho']
  rw [if_pos (by simp [Region.wanted, hg])]
  exact .inl (Oper.wp_mono (fun a' w' h' => wpAny_of_held _ _ _ _ (e0x hsel hQ s2 _ a' w' hok h'.1 h'.2)) hK)) _ _ _ _ H
 rw [hlen, hlen2, show n + (l.toArray.size - n - 1 + 1) = l.toArray.size by omega] at this
 exact this
variable {l : List Oper} {i : Nat} {r : List (Nat × Bool)} {r2 : List Nat} {B : Act → World → Prop} {a : Act} {w : World} {o : Oper}
theorem d0u (ho : l[i]? = some o) (hg : o.guard = none) {v : Value} (hv : ∀ wx, S wx → (execOp a.eval o).run P wx = .ok (.value v) wx) (h : e0U P l.toArray Q S B r (a.put o.dst v) w) : e0U P l.toArray Q S B ((i, true) :: r) a w :=
 ⟨o, v, by simpa using ho, .inl ⟨by simp [Region.wanted, hg], hv⟩, h⟩
theorem s0I (ho : l[i]? = some o) (hg : o.guard = none) {ty : TypeId} {x : Operand} (hop : o.op = .load ty x) {g p : Nat} (hx : a.eval x = .pointer (some ⟨g, p, none⟩)) (cs : List Value) (hS : ∀ wx, S wx → wx.rangeAt g p cs)
  {d : TypeDesc} (hu : P.underlying ty = some d) (hd : d.isRow = true) (hi : (P.info? ty).map (·.size) = some cs.length) (h : e0U P l.toArray Q S B r (a.put o.dst (.agg cs.toArray)) w) : e0U P l.toArray Q S B ((i, true) :: r) a w :=
 ⟨o, _, by simpa using ho, yieldsIf_load_mid (by simp [Region.wanted, hg]) ty x hop g p hx cs d hS hu hd hi, h⟩
theorem s0J (ho : l[i]? = some o) (hg : o.guard = none) (h : o.wp P a w (fun a' w' => S2 w' ∧ f0N P l.toArray Q S2 r2 a' w') Q) :
  e0U P l.toArray Q S (fun a w => ∃ o, l[i]? = some o ∧ o.guard = none ∧ o.wp P a w (fun a' w' => S2 w' ∧ f0N P l.toArray Q S2 r2 a' w') Q) [] a w := ⟨o, ho, hg, h⟩
theorem e0d (ho : l[i]? = some o) (hg : o.guard = none) {v : Value} (hv : ∀ wx, S2 wx → (execOp a.eval o).run P wx = .ok (.value v) wx) (h : f0N P l.toArray Q S2 r2 (a.put o.dst v) w) : f0N P l.toArray Q S2 (i :: r2) a w :=
 ⟨o, v, by simpa using ho, .inl ⟨by simp [Region.wanted, hg], hv⟩, h⟩
theorem s0K (h : Q .normal a w) : f0N P l.toArray Q S2 [] a w := h
end
end Go.Mv
namespace Go.Proofs.YtemcankmggmgoaaGreatDoor
open Go.RowKit Go.Mv Mvp
attribute [local irreducible] a0J lw mix cw b0t b0G b0q a0P a0u beN laid b0o b0H a0M a0V
theorem l0K (gt V m n : Nat) (w : World) (ht : Has w gt (cw 6 V) 155) (hm : m < 18446744073709551616) (hn : n < B64 ^ 4) (hV : V + m * n < B64 ^ 6) (hVV : V < B64 ^ 6) :
  Calls Tryz.prog 106 #[.pointer (some ⟨gt, 0, none⟩), .int .u64 (m : Int), i4 n] w fun e w' => e = .returned (.tuple #[.int .u64 (lw (V + m * n) 4 : Nat), .int .u64 (lw (V + m * n) 5 : Nat)]) ∧ Has w' gt (cw 6 (mix (V + m * n) V 4)) 155 ∧ Fr (One gt) w w' := by
 have HM := qH hm
 have hlt := m0L V m n hn hV hVV
 have HS0 := qH hlt.1
 have HS1 := qH hlt.2.1
 have HS2 := qH hlt.2.2
 clear hlt hn hV hVV
 clear hm
 have st0 := St.one ht
 go_enter Tryz.func106, Tryz.ntmps106
 go_wp2_with (with_reducible refine wSk 5 ?_)
 refine a0m st0 rfl rfl rfl (cw 4 n) rfl ?_
 intro g5 w1 st1
 clear st0
 have c5 := (st1.at 0 rfl).cell (a0D 6 V 5 (by decide))
 have c4 := (st1.at 0 rfl).cell (a0D 6 V 4 (by decide))
 go_wp2_with fail
 refine wp_region_noPanic ?_
 refine h0Q (fun wx => St (One gt) w wx [(gt, cw 6 V, 155), (g5, cw 4 n, 72)]) (fun wx => St (One gt) w wx [(gt, cw 6 (mix (V + m * n) V 4), 155), (g5, cw 4 n, 72)]) 7 [(0, true), (1, true), (2, true), (3, true), (4, true), (5, true), (6, true)] [8, 9, 10, 11, 12] (by kernel_rfl) (by kernel_rfl) st1.drew (fun _ _ _ _ _ h => h) ?_
 have hd1 := st1.drew
 refine d0u (v := ?_) rfl rfl (fun wx hS => ?_) ?_
 rotate_left 1
 ·(clear hS; go_simp; with_reducible rfl)
 try simp only [clL]
 refine d0u (v := ?_) rfl rfl (fun wx hS => ?_) ?_
 rotate_left 1
 ·(clear hS; go_simp; with_reducible rfl)
 try simp only [clL]
 refine s0I rfl rfl rfl rfl (cw 4 n) (fun wx hS => St.rangeL hS 1 rfl 0 _ dZl) Tryz.underlying72 rfl (by simp only [a0a]; kernel_rfl) ?_
 try simp only [clL]
 refine d0u (v := ?_) rfl rfl (fun wx hS => ?_) ?_
 rotate_left 1
 ·(clear hS; go_simp; with_reducible rfl)
 try simp only [clL]
 refine d0u (v := ?_) rfl rfl (fun wx hS => ?_) ?_
 rotate_left 1
 ·(clear hS; go_simp; with_reducible rfl)
 try simp only [clL]
 refine d0u (v := ?_) rfl rfl (fun wx hS => ?_) ?_
 rotate_left 1
 ·(clear hS; go_simp; with_reducible rfl)
 try simp only [clL]
 refine d0u (v := ?_) rfl rfl (fun wx hS => ?_) ?_
 rotate_left 1
 ·(have hc := (St.at hS 0 rfl).cell (a0D 6 V 4 (by decide)); clear hS; go_simp; with_reducible rfl)
 try simp only [clL]
 refine s0J rfl rfl ?_
 go_simp
 refine (m0P gt V m n (lw V 4) 155 _ (St.at hd1 0 rfl) HM.out (c0n V 4)).mono ?_
 rintro e' w2 ⟨rfl, hg2, hf2⟩
 have st2 : St (One gt) w w2 [(gt, cw 6 (mix (V + m * n) V 4), 155), (g5, cw 4 n, 72)] := hd1.put 0 rfl hf2 hg2
 clear hd1 hf2 hg2
 refine ⟨st2, ?_⟩
 try simp only [clL]
 refine e0d (v := ?_) rfl rfl (fun wx hS => ?_) ?_
 rotate_left 1
 ·(clear hS; go_simp; with_reducible rfl)
 try simp only [clL]
 refine e0d (v := ?_) rfl rfl (fun wx hS => ?_) ?_
 rotate_left 1
 ·(clear hS; go_simp; with_reducible rfl)
 try simp only [clL]
 refine e0d (v := ?_) rfl rfl (fun wx hS => ?_) ?_
 rotate_left 1
 ·(clear hS; go_simp; with_reducible rfl)
 try simp only [clL]
 refine e0d (v := ?_) rfl rfl (fun wx hS => ?_) ?_
 rotate_left 1
 ·(clear hS; go_simp; with_reducible rfl)
 try simp only [clL]
 refine e0d (v := ?_) rfl rfl (fun wx hS => ?_) ?_
 rotate_left 1
 ·(clear hS; go_simp; with_reducible rfl)
 try simp only [clL]
 refine s0K ?_
 refine NoPanic.normal ?_
 have hg := st2.at 0 rfl
 have hfr := st2.fr
 clear st2
 have hs := HS2.out
 go_wp2_with fail
 go_ret2
 rw [← HS0.out, ← HS1.out]
 exact ⟨rfl, hg, hfr⟩
end Go.Proofs.YtemcankmggmgoaaGreatDoor
namespace Mvp
structure Md where
 M : Nat
 neg : Nat
 Ri : Nat
structure Md.Ok (m : Md) : Prop where
 one : 1 < m.M
 lt : m.M < B64 ^ 4
 negLt : m.neg < 18446744073709551616
 neg : (m.M * m.neg + 1) % 18446744073709551616 = 0
 inv : B64 ^ 4 * m.Ri % m.M = 1
def mP : Md := ⟨pP, 15580212934572586289, 91248989341183975618893650062416139444822672217621753343178995607984094583082⟩
def mQ : Md := ⟨pQ, 5408259542528602431, 98562742561918706241446412617699626731164144128788972284189895985653995782166⟩
theorem c0a : mP.Ok := ⟨by decide, by decide, by decide, by decide, by decide⟩
theorem x0w : mQ.Ok := ⟨by decide, by decide, by decide, by decide, by decide⟩
theorem l0L (T b M x V mm : Nat) (hb : b < M) (hM : M < B64 ^ 4) (hT : T < b + M) (hx : x < 18446744073709551616) (hV : T + x * b = V) (hm : mm < 18446744073709551616) :
  T < B64 ^ 5 ∧ T + x * b < B64 ^ 6 ∧ V < B64 ^ 6 ∧ V + mm * M < B64 ^ 6 := by
 have h1 : x * b ≤ 18446744073709551615 * b := Nat.mul_le_mul_right _ (by omega)
 have h2 : mm * M ≤ 18446744073709551615 * M := Nat.mul_le_mul_right _ (by omega)
 have e4 : B64 ^ 5 = 18446744073709551616 * B64 ^ 4 := by rw [Nat.pow_succ, Nat.mul_comm]
 have e5 : B64 ^ 6 = 18446744073709551616 * B64 ^ 5 := by rw [Nat.pow_succ, Nat.mul_comm]
 generalize B64 ^ 6 = R6 at *
 generalize B64 ^ 5 = R5 at *
 generalize B64 ^ 4 = R4 at *
 omega
theorem p0X (T : Nat) (h2 : T < 2 * B64 ^ 4) (h : ¬ T < B64 ^ 4) : lw T 4 = 1 := by
 have h0 := b0F 4
 have hd : T / B64 ^ 4 = 1 := by
  generalize B64 ^ 4 = R at *
  have h1 : T - R < R := by omega
  rw [show T = (T - R) + R by omega, Nat.add_div_right _ h0, Nat.div_eq_of_lt h1]
 unfold lw
 rw [hd]; rfl
theorem i0f (T M : Nat) (hM : M < B64 ^ 4) (hT : T < 2 * M) :
  (T < M → lw T 4 = 0 ∧ b0t T M 4 = 1 ∧ Go.Mv.cw 4 (T % M) = Go.Mv.cw 4 T) ∧
  (¬ T < M → Go.Mv.cw 4 (T % M) = Go.Mv.cw 4 (T + B64 ^ 4 - M) ∧ (T < B64 ^ 4 → lw T 4 = 0 ∧ b0t T M 4 = 0)) := by
 constructor
 ·intro h
  exact ⟨c0K T 4 4 (Nat.lt_trans h hM) (Nat.le_refl _), by rw [e0m _ _ _ (Nat.lt_trans h hM) hM, if_pos h], by rw [Nat.mod_eq_of_lt h]⟩
 ·intro h
  refine ⟨?_, fun h4 => ⟨c0K T 4 4 h4 (Nat.le_refl _), by rw [e0m _ _ _ h4 hM, if_neg h]⟩⟩
  rw [o0d T M hT, if_neg h, ← Go.Mv.cw_mod 4 (T + B64 ^ 4 - M), show T + B64 ^ 4 - M = (T - M) + B64 ^ 4 by omega, Nat.add_mod_right, Go.Mv.cw_mod]
theorem o0j (M neg b a : Nat) : a0M M neg b a 0 = 0 := rfl
theorem o0k (M neg b a k : Nat) : a0M M neg b a (k + 1) = (a0M M neg b a k + lw a k * b + ((a0M M neg b a k + lw a k * b) % 18446744073709551616 * neg % 18446744073709551616) * M) / 18446744073709551616 := rfl
end Mvp
namespace Go.Mv
open Go.RowKit Mvp
def mdL (m : Md) : List Value := cw 4 m.M ++ ([.int .u64 (m.neg : Int)] ++ (cw 4 (B64 ^ 4 % m.M) ++ cw 4 (B64 ^ 4 * B64 ^ 4 % m.M)))
theorem m0W (m : Md) : ((mdL m).drop 0).take (cw 4 m.M).length = cw 4 m.M := by simp [mdL]
theorem x0x (m : Md) : ((mdL m).drop 5).take (cw 4 (B64 ^ 4 % m.M)).length = cw 4 (B64 ^ 4 % m.M) := by
 have h : (cw 4 m.M ++ [Value.int .u64 (m.neg : Int)]).length = 5 := by rw [List.length_append, a0a]; rfl
 rw [mdL, ← List.append_assoc, List.drop_append_of_le_length (by omega), List.drop_of_length_le (by omega), List.nil_append]
 simp
theorem x0y (m : Md) : ((mdL m).drop 9).take (cw 4 (B64 ^ 4 * B64 ^ 4 % m.M)).length = cw 4 (B64 ^ 4 * B64 ^ 4 % m.M) := by
 have h : (cw 4 m.M ++ ([Value.int .u64 (m.neg : Int)] ++ cw 4 (B64 ^ 4 % m.M))).length = 9 := by rw [List.length_append, List.length_append, a0a, a0a]; rfl
 have e : mdL m = (cw 4 m.M ++ ([Value.int .u64 (m.neg : Int)] ++ cw 4 (B64 ^ 4 % m.M))) ++ cw 4 (B64 ^ 4 * B64 ^ 4 % m.M) := by simp [mdL]
 rw [e, List.drop_append_of_le_length (by omega), List.drop_of_length_le (by omega), List.nil_append, List.take_of_length_le (Nat.le_refl _)]
theorem x0z (m : Md) : (mdL m)[4]? = some (.int .u64 (m.neg : Int)) := by
 rw [mdL, List.getElem?_append_right (by rw [a0a]; exact Nat.le_refl _), a0a]; rfl
theorem x0A (V : Nat) (h : V < B64 ^ 6) : (splice (cw 6 V) 0 (((cw 6 V).drop 1).take 5)).set 5 (.int .u64 0) = cw 6 (V / 18446744073709551616) := by
 have e : V / 18446744073709551616 = V / B64 ^ 1 := by rw [Nat.pow_one]
 have h6 : lw V 6 = 0 := c0K V 6 6 h (Nat.le_refl _)
 have hw := fun i => b0Z V 1 i
 rw [e]
 show _ = [Value.int .u64 (lw (V / B64 ^ 1) 0 : Nat), Value.int .u64 (lw (V / B64 ^ 1) 1 : Nat), Value.int .u64 (lw (V / B64 ^ 1) 2 : Nat), Value.int .u64 (lw (V / B64 ^ 1) 3 : Nat), Value.int .u64 (lw (V / B64 ^ 1) 4 : Nat), Value.int .u64 (lw (V / B64 ^ 1) 5 : Nat)]
 rw [hw 0, hw 1, hw 2, hw 3, hw 4, hw 5, show 1 + 5 = 6 from rfl, h6]
 rfl
theorem v0M (V : Nat) : ((cw 6 V).drop 0).take (cw 4 V).length = cw 4 V := rfl
end Go.Mv
namespace Go.Mv
open Go.RowKit
section
variable {P : Program} {ops : Array Oper} {md : Region.Mode} {Q : Exit → Act → World → Prop} {S : World → Prop}
inductive Sc where
 | nil
 | t (i : Nat) (s : Sc)
 | r (i : Nat) (s : Sc)
 | b (i j : Nat) (s u : Sc)
def Sc.len : Sc → Nat
 | .nil => 0
 | .t _ s => s.len + 1
 | .r _ s => s.len + 1
 | .b _ _ s _ => s.len + 1
def c0L (P : Program) (ops : Array Oper) (Q : Exit → Act → World → Prop) (S : World → Prop) (tl : List Oper) : Sc → Act → World → Prop
 | .nil, a, w => wpList P ops Q tl a w
 | .t i s, a, w => ∃ o v, ops[i]? = some o ∧ YieldsIf P ops S o v a ∧ c0L P ops Q S tl s (a.put o.dst v) w
 | .r i s, a, w => ∃ o, ops[i]? = some o ∧ o.guard = none ∧ o.wp P a w (fun a' w' => S w' ∧ c0L P ops Q S tl s a' w') Q
 | .b i j s u, a, w => (∃ o, ops[i]? = some o ∧ o.guard = none ∧ o.wp P a w (fun a' w' => S w' ∧ c0L P ops Q S tl s a' w') Q) ∧
   (∃ o, ops[j]? = some o ∧ o.guard = none ∧ o.wp P a w (fun a' w' => S w' ∧ c0L P ops Q S tl u a' w') Q)
def e0V (md : Region.Mode) (ops : Array Oper) (n g : Nat) : Sc → Array Bool → Bool
 | .nil, listed => Region.seqB md ops g n listed
 | .t i s, listed => decide (i < n) && (Region.ready md ops listed).contains i && Region.free md ops listed i && e0V md ops n g s (listed.setIfInBounds i true)
 | .r i s, listed => decide (i < n) && decide (Region.ready md ops listed = [i]) && e0V md ops n g s (listed.setIfInBounds i true)
 | .b i j s u, listed => decide (i < n) && decide (j < n) && decide (s.len = u.len) && decide (Region.ready md ops listed = [i, j]) && e0V md ops n g s (listed.setIfInBounds i true) && e0V md ops n g u (listed.setIfInBounds j true)
theorem b0T {n g : Nat} {tl : List Oper} (hsel : Region.noSelect ops = true) (hs : Region.sinkB md ops n = true) (hc : Region.chainB md ops n = true) (hn : n < ops.size)
  (hQ : ∀ c (d : Option Tmp) v a w, Q (.panic c) (Act.put a d v) w → Q (.panic c) a w) :
  ∀ (s : Sc) (listed : Array Bool) (a : Act) (w : World), HeadInv md ops n listed → e0V md ops n g s listed = true → S w → c0L P ops Q S tl s a w → i0a P md ops Q S n g tl s.len listed a w
 | .nil, listed, a, w, _, hB, _, h => ⟨hB, h⟩
 | .t i r, listed, a, w, inv, hB, hS, h => by
  obtain ⟨o, v, ho, hy, hK⟩ := h
  simp only [e0V, Bool.and_eq_true, decide_eq_true_eq] at hB
  obtain ⟨⟨⟨hin, hr⟩, hf⟩, hB'⟩ := hB
  have hr' : i ∈ Region.ready md ops listed := by simpa using hr
  exact f0L ho (Region.noSelect_spec hsel) (fun c a w => hQ c o.dst v a w) hs hc hn hin r.len listed a w inv (Region.free_spec ho hf) hr' hy hS
   (b0T hsel hs hc hn hQ r _ _ w (inv.set hr' hin) hB' hS hK)
 | .r i r, listed, a, w, inv, hB, hS, h => by
  obtain ⟨o, ho, hg, hK⟩ := h
  simp only [e0V, Bool.and_eq_true, decide_eq_true_eq] at hB
  obtain ⟨⟨hin, hr⟩, hB'⟩ := hB
  have hr' : i ∈ Region.ready md ops listed := by rw [hr]; simp
  refine ⟨by rw [hr]; simp, fun j hj => ?_⟩
  rw [hr] at hj
  have hj' : j = i := by simpa using hj
  subst hj'
  refine ⟨hin, ?_⟩
  unfold wpOp
  simp only [ho]
  rw [if_pos (by simp [Region.wanted, hg])]
  exact .inl (Oper.wp_mono (fun a' w' h' => ⟨h'.1, b0T hsel hs hc hn hQ r _ a' w' (inv.set hr' hin) hB' h'.1 h'.2⟩) hK)
 | .b i j r u, listed, a, w, inv, hB, hS, h => by
  obtain ⟨⟨o, ho, hg, hK⟩, ⟨o2, ho2, hg2, hK2⟩⟩ := h
  simp only [e0V, Bool.and_eq_true, decide_eq_true_eq] at hB
  obtain ⟨⟨⟨⟨⟨hin, hjn⟩, hlen⟩, hr⟩, hB1⟩, hB2⟩ := hB
  have hri : i ∈ Region.ready md ops listed := by rw [hr]; simp
  have hrj : j ∈ Region.ready md ops listed := by rw [hr]; simp
  refine ⟨by rw [hr]; simp, fun k hk => ?_⟩
  rw [hr] at hk
  have hk' : k = i ∨ k = j := by simpa using hk
  rcases hk' with e | e
  ·subst e
   refine ⟨hin, ?_⟩
   unfold wpOp
   simp only [ho]
   rw [if_pos (by simp [Region.wanted, hg])]
   exact .inl (Oper.wp_mono (fun a' w' h' => ⟨h'.1, b0T hsel hs hc hn hQ r _ a' w' (inv.set hri hin) hB1 h'.1 h'.2⟩) hK)
  ·subst e
   refine ⟨hjn, ?_⟩
   unfold wpOp
   simp only [ho2]
   rw [if_pos (by simp [Region.wanted, hg2])]
   rw [hlen]
   exact .inl (Oper.wp_mono (fun a' w' h' => ⟨h'.1, b0T hsel hs hc hn hQ u _ a' w' (inv.set hrj hjn) hB2 h'.1 h'.2⟩) hK2)
def p0Y (ops : Array Oper) (n : Nat) (s : Sc) : Bool :=
 Region.noSelect ops && decide (n < ops.size) && decide (s.len = n) && Region.sinkB .any ops n && Region.chainB .any ops n && e0V .any ops n (ops.size - n) s (Array.replicate ops.size false)
theorem h0R {id : Nat} {a : Act} {w : World} {l : List Oper} (S : World → Prop) (n : Nat) (s : Sc) (hm : P.follows .mixedOrders = true) (hB : p0Y l.toArray n s = true)
  (hS : S w.drew) (hQ : ∀ c (d : Option Tmp) v a w, Q (.panic c) (Act.put a d v) w → Q (.panic c) a w)
  (h : c0L P l.toArray Q S (l.drop n) s a w.drew) : (Code.region id l.toArray true).wp P Q a w := by
 simp only [p0Y, Bool.and_eq_true, decide_eq_true_eq] at hB
 obtain ⟨⟨⟨⟨⟨hsel, hn⟩, hlen⟩, hs⟩, hc⟩, hseq⟩ := hB
 have inv0 : HeadInv .any l.toArray n (Array.replicate l.toArray.size false) :=
  ⟨by simp, fun j oj _ hl => (by rw [getD_replicate_false] at hl; cases hl), fun t _ ht => getD_in (by simpa using ht) (getD_replicate_false _ _)⟩
 have hdl : (l.drop n).length = l.toArray.size - n := by simp
 rw [← hdl] at hseq
 have H := b0T (md := .any) (g := (l.drop n).length) (tl := l.drop n) hsel hs hc hn hQ s _ a w.drew inv0 hseq hS h
 refine wp_region_any hm ?_
 have := f0v (md := .any) (n := n) (tl := l.drop n) (fun j => by simp [List.getElem?_drop]) _ _ _ _ H
 rw [hlen, hdl, show n + (l.toArray.size - n) = l.toArray.size by omega] at this
 exact this
variable {l tl : List Oper} {i j : Nat} {s u : Sc} {a : Act} {w : World} {o o2 : Oper}
theorem m0X (h : wpList P ops Q tl a w) : c0L P ops Q S tl .nil a w := h
theorem c0g (ho : l[i]? = some o) (hg : o.guard = none) {v : Value} (hv : ∀ wx, S wx → (execOp a.eval o).run P wx = .ok (.value v) wx) (h : c0L P l.toArray Q S tl s (a.put o.dst v) w) : c0L P l.toArray Q S tl (.t i s) a w :=
 ⟨o, v, by simpa using ho, .inl ⟨by simp [Region.wanted, hg], hv⟩, h⟩
theorem g0e (ho : l[i]? = some o) (hg : o.guard = none) (h : o.wp P a w (fun a' w' => S w' ∧ c0L P l.toArray Q S tl s a' w') Q) : c0L P l.toArray Q S tl (.r i s) a w :=
 ⟨o, by simpa using ho, hg, h⟩
theorem m0Y (ho : l[i]? = some o) (hg : o.guard = none) {ty : TypeId} {x : Operand} (hop : o.op = .load ty x) {g p : Nat} (hx : a.eval x = .pointer (some ⟨g, p, none⟩)) (cs : List Value) (hS : ∀ wx, S wx → wx.rangeAt g p cs)
  {d : TypeDesc} (hu : P.underlying ty = some d) (hd : d.isRow = true) (hi : (P.info? ty).map (·.size) = some cs.length) (h : c0L P l.toArray Q S tl s (a.put o.dst (.agg cs.toArray)) w) : c0L P l.toArray Q S tl (.t i s) a w :=
 ⟨o, _, by simpa using ho, yieldsIf_load_mid (by simp [Region.wanted, hg]) ty x hop g p hx cs d hS hu hd hi, h⟩
theorem p0Z {C F : Nat → World → Prop} (ho : l[i]? = some o) (hg : o.guard = none) (ho2 : l[j]? = some o2) (hg2 : o2.guard = none)
  (h1 : (∀ g w', C g w' → F g w') → o.wp P a w (fun a' w' => S w' ∧ c0L P l.toArray Q S tl s a' w') Q)
  (h2 : (∀ g w', C g w' → F g w') → o2.wp P a w (fun a' w' => S w' ∧ c0L P l.toArray Q S tl u a' w') Q)
  (h : ∀ g w', C g w' → F g w') : c0L P l.toArray Q S tl (.b i j s u) a w :=
 ⟨⟨o, by simpa using ho, hg, h1 h⟩, ⟨o2, by simpa using ho2, hg2, h2 h⟩⟩
end
section
variable {P : Program} {w w0 : World} {o : Oper} {a : Act} {K : Act → World → Prop} {Q : Exit → Act → World → Prop} {S : Nat → Prop} {bl : List (Nat × List Value × TypeId)}
theorem a0Y (hst : St S w0 w bl) {e : TypeId} (ho : o.op = .alloc e) {z : Value} (hi : (P.info? e).map (·.zero) = some (some z)) (L : List Value) (hL : z.cells.toList = L)
  (h : ∀ g w', St S w0 w' (bl ++ [(g, L, e)]) → K (a.put o.dst (.pointer (some ⟨g, 0, none⟩))) w') : o.wp P a w K Q := by
 obtain ⟨i, hi1, hz⟩ : ∃ i, P.info? e = some i ∧ i.zero = some z := by simpa using hi
 have hr : (Instr.alloc e true (.tuple #[])).run P w = .ok (.pointer (some ⟨w.heap.size, 0, none⟩)) (w.alloc (.cells z.cells e)) := by
  simp [Instr.alloc, zeroValue, typeInfo, hi1, hz, newVar, newRow]
 unfold Oper.wp execOp
 simp only [ho, Sem.run_bind, Sem.run_pure, Result.andThen_ok, hr]
 have hg := Has.new w z.cells e
 rw [hL] at hg
 exact h _ _ (hst.new ((Fr.refl _ w).alloc _) hg (Nat.le_refl _))
theorem a0j (hst : St S w0 w bl) (i : Nat) {g : Nat} {L : List Value} {T : TypeId} (hb : bl[i]? = some (g, L, T)) {ty : TypeId} {x y : Operand} (ho : o.op = .store ty x y) (hx : a.eval x = .pointer (some ⟨g, 0, none⟩)) {cs : List Value} (hy : a.eval y = .agg cs.toArray)
  (hn : cs.length = L.length) (hi : (P.info? ty).map (·.size) = some cs.length) (h1 : ∀ v ∈ cs, v.oneCell' = true)
  (h : ∀ w', St S w0 w' (bl.set i (g, cs, T)) → K (a.put o.dst undef) w') : o.wp P a w K Q := by
 obtain ⟨k1, k2, _⟩ := Has.setCells cs 0 L w (hst.at i hb) (by omega)
 rw [b0Y _ _ hn] at k1
 exact wp_store_mid ty x y ho g 0 cs.toArray hx hy (by simpa using (hst.at i hb).there 0 cs.length (by omega)) (by simpa using hi) (all_oneCell_toArray h1) (by simpa using h _ (hst.put i hb k2 k1))
end
end Go.Mv
namespace Go.Proofs.YtemcankmggmgoaaGreatDoor
open Go.RowKit Go.Mv Mvp
attribute [local irreducible] a0J lw mix cw b0t b0G b0q a0P a0u beN laid b0o b0H a0M a0V
theorem g0f (m : Md) (gp a b : Nat) (w : World) (hok : m.Ok) (hpm : Has w gp (mdL m) 115) (ha : a < B64 ^ 4) (hb : b < m.M) :
  Calls Tryz.prog 77 #[.pointer (some ⟨gp, 0, none⟩), i4 a, i4 b] w fun e w' => e = .returned (i4 (a * b * m.Ri % m.M)) ∧ Fr Nob w w' := by
 have HOK := qH hok
 have HPM := qH hpm
 have HA := qH ha
 have HB := qH hb
 clear hok hpm ha hb
 have st0 := St.start Nob w
 go_enter Tryz.func77, Tryz.ntmps77
 go_wp2_with (with_reducible refine wSk 4 ?_)
 refine a0m st0 rfl rfl rfl (cw 4 a) rfl ?_
 intro g4 w1 st1
 clear st0
 go_wp2_with (with_reducible refine wSk 5 ?_)
 refine a0m st1 rfl rfl rfl (cw 4 b) rfl ?_
 intro g5 w2 st2
 clear st1
 go_wp2_with (with_reducible refine wSk 6 ?_)
 refine a0b st2 rfl rfl (z := zAd) (by kernel_rfl) (cw 4 0) (by rw [a0f]; rfl) ?_
 intro g6 w3 st3
 clear st2
 go_wp2_with (with_reducible refine wSk 7 ?_)
 refine a0b st3 rfl rfl (z := .agg #[.int .u64 0, .int .u64 0, .int .u64 0, .int .u64 0, .int .u64 0, .int .u64 0]) (by kernel_rfl) (cw 6 0) (by rw [a0f]; rfl) ?_
 intro g7 w4 st4
 clear st3
 go_wp2_with (with_reducible refine wSk 14 ?_)
 refine a0h st4 0 rfl rfl rfl Tryz.underlying59 rfl (by simp only [a0a]; kernel_rfl) ?_
 go_wp2
 go_loopw [15] (fun i wr => ∃ k : Nat, k ≤ 4 ∧ i = .int .i64 (k : Int) ∧ St Nob w wr [(g4, cw 4 a, 59), (g5, cw 4 b, 59), (g6, cw 4 0, 59), (g7, cw 6 (a0M m.M m.neg b a k), 155)]) (fun i _ => 4 - (intOf i).toNat)
 case atStart => exact ⟨0, by omega, rfl, by rw [o0j]; exact st4⟩
 case round =>
  obtain ⟨k, hk, rfl, st⟩ := hrel
  clear st4
  by_cases hlt : k < 4
  ·have hltI : (k : Int) < 4 := by omega
   have e0 := fun wx => e0b (P := Tryz.prog) Tryz.underlying59 Tryz.underlying23 c0x a k hlt .i64 wx
   have hTl := m0M m.M m.neg b a k (by have := HOK.out.one; omega)
   obtain ⟨b1, b2, b3, b4⟩ := l0L (a0M m.M m.neg b a k) b m.M (lw a k) (a0M m.M m.neg b a k + lw a k * b) ((a0M m.M m.neg b a k + lw a k * b) % 18446744073709551616 * m.neg % 18446744073709551616) HB.out HOK.out.lt hTl (c0n a k) rfl (Nat.mod_lt _ (by decide))
   have hsucc : a0M m.M m.neg b a (k + 1) = (a0M m.M m.neg b a k + lw a k * b + ((a0M m.M m.neg b a k + lw a k * b) % 18446744073709551616 * m.neg % 18446744073709551616) * m.M) / 18446744073709551616 := o0k m.M m.neg b a k
   generalize hT : a0M m.M m.neg b a k = T at *
   generalize hT' : a0M m.M m.neg b a (k + 1) = T' at *
   have hx := c0n a k
   obtain ⟨l1, l2, l3⟩ := m0L T (lw a k) b (Nat.lt_trans HB.out HOK.out.lt) b2 (Nat.lt_trans b1 (by decide))
   have z5 : lw T 5 = 0 := c0K T 5 5 b1 (Nat.le_refl _)
   rw [z5, Nat.zero_add] at l2
   have hline := fun wx (h : Has wx g7 (cw 6 T) 155) => m0P g7 T (lw a k) b (lw T 4) 155 wx h hx (c0n T 4)
   rw [l1, l2] at hline
   generalize hxx : lw a k = x at *
   generalize hV : T + x * b = V at *
   have hw0 := o0b V
   generalize hmm : V % 18446744073709551616 * m.neg % 18446744073709551616 = mm at *
   have hm64 : mm < 18446744073709551616 := by rw [← hmm]; exact Nat.mod_lt _ (by decide)
   have hmul : IntKind.u64.wrap ((lw V 0 : Int) * (m.neg : Int)) = (mm : Int) := by
    rw [IntKind.wrap_u64, ← hmm, hw0, ← Int.natCast_mul]; rfl
   have hlt2 := fun wx (h : Has wx g7 (cw 6 V) 155) => l0K g7 V mm m.M wx h hm64 HOK.out.lt b4 b3
   generalize hV2 : V + mm * m.M = V2 at *
   have hshift := x0A V2 b4
   rw [← hsucc] at hshift
   have HLINE := qH hline
   have HLT2 := qH hlt2
   have HSHIFT := qH hshift
   have HT := qH hT
   have HT' := qH hT'
   clear hTl b1 b2 b3 b4 hsucc l1 l2 l3 z5 hline hV hw0 hmm hm64 hlt2 hV2 hshift hT hT' hx hxx
   have ct := (st.at 3 rfl).cell (a0D 6 T 4 (by decide))
   go_wp2_with (with_reducible refine wSk 20 ?_)
   refine a0h st 1 rfl rfl rfl Tryz.underlying59 rfl (by simp only [a0a]; kernel_rfl) ?_
   go_wp2_with fail
   refine (HLINE.out _ (st.at 3 rfl)).mono ?_
   rintro e' w5 ⟨rfl, hg5, hf5⟩
   have st5 : St Nob w w5 [(g4, cw 4 a, 59), (g5, cw 4 b, 59), (g6, cw 4 0, 59), (g7, cw 6 (mix V T 4), 155)] := st.put 3 rfl hf5 hg5
   clear st hf5 hg5
   clear ct
   obtain ⟨v4, c4, f4⟩ := (st5.at 3 rfl).ready (i := 4) (by rw [a0a]; decide)
   obtain ⟨v5, c5, f5⟩ := (st5.at 3 rfl).ready (i := 5) (by rw [a0a]; decide)
   go_wp2_with fail
   have stA := (st5.set 3 rfl 4 (.int .u64 (lw V 4 : Nat))).set 3 rfl 5 (.int .u64 (lw V 5 : Nat))
   have hcw : ((cw 6 (mix V T 4)).set 4 (.int .u64 (lw V 4 : Nat))).set 5 (.int .u64 (lw V 5 : Nat)) = cw 6 V := by rw [d0g 6 V T 4 (by decide), d0g 6 V T 5 (by decide), g0a]
   rw [hcw] at stA
   clear hcw c4 c5 f4 f5 v4 v5 st5
   generalize (World.setCell (World.setCell w5 ⟨g7, 4, none⟩ (.int .u64 (lw V 4 : Nat))) ⟨g7, 5, none⟩ (.int .u64 (lw V 5 : Nat))) = wA at *
   have stA : St Nob w wA [(g4, cw 4 a, 59), (g5, cw 4 b, 59), (g6, cw 4 0, 59), (g7, cw 6 V, 155)] := stA
   have cv := (stA.at 3 rfl).cell (a0D 6 V 0 (by decide))
   have cn := (HPM.out.keep stA.fr id).cell (x0z m)
   go_quiet (fail)
   have stB := stA.drewN nq
   clear stA cv cn
   go_wp2_with (with_reducible refine wSk 40 ?_)
   refine b0E rfl rfl Tryz.underlying72 rfl (HPM.out.keep stB.fr id) (cw 4 m.M) (m0W m) (by simp only [a0a]; kernel_rfl) ?_
   go_wp2_with fail
   refine (HLT2.out _ (stB.at 3 rfl)).mono ?_
   rintro e' w7 ⟨rfl, hg7, hf7⟩
   have st7 : St Nob w w7 [(g4, cw 4 a, 59), (g5, cw 4 b, 59), (g6, cw 4 0, 59), (g7, cw 6 (mix V2 V 4), 155)] := stB.put 3 rfl hf7 hg7
   clear stB hf7 hg7
   obtain ⟨v4, c4, f4⟩ := (st7.at 3 rfl).ready (i := 4) (by rw [a0a]; decide)
   obtain ⟨v5, c5, f5⟩ := (st7.at 3 rfl).ready (i := 5) (by rw [a0a]; decide)
   go_wp2_with fail
   have stC := (st7.set 3 rfl 4 (.int .u64 (lw V2 4 : Nat))).set 3 rfl 5 (.int .u64 (lw V2 5 : Nat))
   have hcw : ((cw 6 (mix V2 V 4)).set 4 (.int .u64 (lw V2 4 : Nat))).set 5 (.int .u64 (lw V2 5 : Nat)) = cw 6 V2 := by rw [d0g 6 V2 V 4 (by decide), d0g 6 V2 V 5 (by decide), g0a]
   rw [hcw] at stC
   clear hcw c4 c5 f4 f5 v4 v5 st7
   generalize (World.setCell (World.setCell w7 ⟨g7, 4, none⟩ (.int .u64 (lw V2 4 : Nat))) ⟨g7, 5, none⟩ (.int .u64 (lw V2 5 : Nat))) = wC at *
   have stC : St Nob w wC [(g4, cw 4 a, 59), (g5, cw 4 b, 59), (g6, cw 4 0, 59), (g7, cw 6 V2, 155)] := stC
   have k1 := fun wx => d0K (P := Tryz.prog) wx Tryz.underlying155 c0x g7 0 .i64 5 (by decide)
   have k2 := fun wx => e0T (P := Tryz.prog) wx Tryz.underlying155 c0x g7 0 .i64 1 (by decide)
   refine wp_region_noPanic ?_
   refine b0O (fun wx => St Nob w wx [(g4, cw 4 a, 59), (g5, cw 4 b, 59), (g6, cw 4 0, 59), (g7, cw 6 V2, 155)]) 2 [(0, true), (1, true)] (by kernel_rfl) (by kernel_rfl) stC.drew (fun _ _ _ _ _ h => h) ?_
   have stD := stC.drew
   clear stC
   refine a0B (v := ?_) rfl rfl (fun wx hS => ?_) ?_
   rotate_left 1
   ·(clear hS; go_simp; with_reducible rfl)
   try simp only [clL]
   refine a0B (v := ?_) rfl rfl (fun wx hS => ?_) ?_
   rotate_left 1
   ·(clear hS; go_simp; with_reducible rfl)
   try simp only [clL]
   refine f0w ?_
   try simp only [List.drop_succ_cons, List.drop_zero]
   refine p0t rfl rfl Tryz.underlying159 c0x rfl rfl (stD.at 3 rfl) (Rd.ofHas (stD.at 3 rfl) 1 (n := 5) (by rw [a0a]; decide)) (fun v hv => a0i _ _ v (List.mem_of_mem_drop (List.mem_of_mem_take hv))) (by rw [a0a]; decide) ?_
   intro wE hgE hfE hzE
   clear hzE
   have stE := stD.put 3 rfl hfE hgE
   clear stD hgE hfE
   obtain ⟨v5, c5, f5⟩ := (stE.at 3 rfl).ready (i := 5) (by rw [d0F _ _ _ (by simp [a0a])]; rw [a0a]; decide)
   go_wp2_with fail
   refine NoPanic.normal ?_
   clear k1 k2
   go_wp2_with fail
   have stF := stE.set 3 rfl 5 (.int .u64 0)
   clear stE c5 f5
   go_roundw
   case rel =>
    refine ⟨k + 1, by omega, by go_num, ?_⟩
    rw [HT'.out]
    have hh := stF
    have h6 := HSHIFT.out
    simp only [List.set_cons_succ, List.set_cons_zero] at hh
    rw [show min 5 5 = 5 from rfl, List.take_take, show min 5 5 = 5 from rfl, h6] at hh
    exact hh
   case measure => simp [intOf]; omega
  ·have hge : ¬ ((k : Int) < 4) := by omega
   have hk4 : k = 4 := by omega
   subst hk4
   have k4 : ∀ wx, (Instr.arrayAt 72 (.slice (some ⟨g7, 0, none⟩) 4 6)).run Tryz.prog wx = .ok (.pointer (some ⟨g7, 0, none⟩)) wx := fun wx => by simp [Instr.arrayAt, run_underlying Tryz.underlying72]
   have k3 := fun wx => d0K (P := Tryz.prog) wx Tryz.underlying155 c0x g7 0 .i64 4 (by decide)
   have hTl := m0M m.M m.neg b a 4 (by have := HOK.out.one; omega)
   have hval := o0c m.M m.neg m.Ri a b (by have := HOK.out.one; omega) HA.out HOK.out.neg (by rw [HOK.out.inv, Nat.mod_eq_of_lt HOK.out.one])
   generalize hT : a0M m.M m.neg b a 4 = T at *
   have HT := qH hT; clear hT
   have HTL := qH hTl; clear hTl
   have HVAL := qH hval; clear hval
   go_wp2_with (with_reducible refine wSk 53 ?_)
   refine b0E rfl rfl Tryz.underlying72 rfl (st.at 3 rfl) (cw 4 T) (v0M T) (by rw [a0a]; exact i0S) ?_
   clear k3 k4
   go_wp2_with (with_reducible refine wSk 11 ?_)
   refine a0b st rfl rfl (z := zAd) (by kernel_rfl) (cw 4 0) (by rw [a0f]; rfl) ?_
   intro g11 w5 st5
   clear st
   go_wp2_with (with_reducible refine wSn ?_)
   refine a0d st5 4 rfl rfl rfl rfl rfl (by first | (simp only [a0a]; done) | (simp only [List.length_append, a0a]; done)) (by simp only [a0a]; kernel_rfl) (a0i _ _) ?_
   intro w6 st6
   clear st5
   go_wp2_with fail
   refine wp_region_noPanic ?_
   refine h0R (fun wx => St Nob w wx [(g4, cw 4 a, 59), (g5, cw 4 b, 59), (g6, cw 4 0, 59), (g7, cw 6 T, 155), (g11, cw 4 T, 72)]) 11 (.t 0 (.t 1 (.t 2 (.t 3 (.t 4 (.b 5 9 (.t 6 (.t 7 (.t 8 (.r 9 (.r 10 .nil))))) (.r 5 (.t 6 (.t 7 (.t 8 (.r 10 .nil))))))))))) (by kernel_rfl) (by kernel_rfl) st6.drew (fun _ _ _ _ _ h => h) ?_
   have hd6 := st6.drew
   clear st6
   refine m0Y rfl rfl rfl rfl (cw 4 T) (fun wx hS => St.rangeL hS 4 rfl 0 _ dZl) Tryz.underlying72 rfl (by simp only [a0a]; kernel_rfl) ?_
   try simp only [clL]
   refine c0g (v := ?_) rfl rfl (fun wx hS => ?_) ?_
   rotate_left 1
   ·(clear hS; go_simp; with_reducible rfl)
   try simp only [clL]
   refine c0g (v := ?_) rfl rfl (fun wx hS => ?_) ?_
   rotate_left 1
   ·(clear hS; go_simp; with_reducible rfl)
   try simp only [clL]
   refine c0g (v := ?_) rfl rfl (fun wx hS => ?_) ?_
   rotate_left 1
   ·(clear hS; go_simp; with_reducible rfl)
   try simp only [clL]
   refine m0Y rfl rfl rfl rfl (cw 4 m.M) (fun wx hS => (HPM.out.keep (St.fr hS) id).range 0 _ (m0W m)) Tryz.underlying72 rfl (by simp only [a0a]; kernel_rfl) ?_
   try simp only [clL]
   refine p0Z (C := fun g12 wz => St Nob w wz [(g4, cw 4 a, 59), (g5, cw 4 b, 59), (g6, cw 4 0, 59), (g7, cw 6 T, 155), (g11, cw 4 T, 72), (g12, cw 4 (T + B64 ^ 4 - m.M), 72)]) (F := ?_) rfl rfl rfl rfl (fun key => ?_) (fun key => ?_) ?_
   rotate_left 1
   ·skip
    go_simp
    refine (c0T T m.M _ HOK.out.lt).mono ?_
    rintro e' w7 ⟨rfl, hf7⟩
    have st7 := hd6.keep hf7
    clear hf7
    refine ⟨st7, ?_⟩
    try simp only [clL]
    refine c0g (v := ?_) rfl rfl (fun wx hS => ?_) ?_
    rotate_left 1
    ·(clear hS; go_simp; with_reducible rfl)
    try simp only [clL]
    refine c0g (v := ?_) rfl rfl (fun wx hS => ?_) ?_
    rotate_left 1
    ·(clear hS; go_simp; with_reducible rfl)
    try simp only [clL]
    refine c0g (v := ?_) rfl rfl (fun wx hS => ?_) ?_
    rotate_left 1
    ·(clear hS; go_simp; with_reducible rfl)
    try simp only [clL]
    refine g0e rfl rfl ?_
    refine a0Y st7 rfl (z := zAd) (by kernel_rfl) (cw 4 0) (by rw [a0f]; rfl) ?_
    intro g12 w8 st8
    refine ⟨St.less st8 (by simp), ?_⟩
    try simp only [clL]
    refine g0e rfl rfl ?_
    refine a0j st8 5 rfl rfl rfl rfl (by first | (simp only [a0a]; done) | (simp only [List.length_append, a0a]; done)) (by simp only [a0a]; kernel_rfl) (a0i _ _) ?_
    intro w9 st9
    refine ⟨St.less st9 (by simp), ?_⟩
    try simp only [Act.put]
    refine m0X ?_
    try simp only [List.drop_succ_cons, List.drop_zero]
    go_wp2_with fail
    exact key g12 w9 st9
   ·skip
    refine a0Y hd6 rfl (z := zAd) (by kernel_rfl) (cw 4 0) (by rw [a0f]; rfl) ?_
    intro g12 w10 st10
    refine ⟨St.less st10 (by simp), ?_⟩
    try simp only [clL]
    refine g0e rfl rfl ?_
    go_simp
    refine (c0T T m.M _ HOK.out.lt).mono ?_
    rintro e' w11 ⟨rfl, hf11⟩
    have st11 := st10.keep hf11
    clear hf11
    refine ⟨St.less st11 (by simp), ?_⟩
    try simp only [clL]
    refine c0g (v := ?_) rfl rfl (fun wx hS => ?_) ?_
    rotate_left 1
    ·(clear hS; go_simp; with_reducible rfl)
    try simp only [clL]
    refine c0g (v := ?_) rfl rfl (fun wx hS => ?_) ?_
    rotate_left 1
    ·(clear hS; go_simp; with_reducible rfl)
    try simp only [clL]
    refine c0g (v := ?_) rfl rfl (fun wx hS => ?_) ?_
    rotate_left 1
    ·(clear hS; go_simp; with_reducible rfl)
    try simp only [clL]
    refine g0e rfl rfl ?_
    refine a0j st11 5 rfl rfl rfl rfl (by first | (simp only [a0a]; done) | (simp only [List.length_append, a0a]; done)) (by simp only [a0a]; kernel_rfl) (a0i _ _) ?_
    intro w12 st12
    refine ⟨St.less st12 (by simp), ?_⟩
    try simp only [Act.put]
    refine m0X ?_
    try simp only [List.drop_succ_cons, List.drop_zero]
    go_wp2_with fail
    exact key g12 w12 st12
   intro g12 w13 st13
   have st13 : St Nob w w13 [(g4, cw 4 a, 59), (g5, cw 4 b, 59), (g6, cw 4 0, 59), (g7, cw 6 T, 155), (g11, cw 4 T, 72), (g12, cw 4 (T + B64 ^ 4 - m.M), 72)] := st13
   clear hd6
   refine NoPanic.normal ?_
   have c4 := (st13.at 3 rfl).cell (a0D 6 T 4 (by decide))
   have hfin := i0f T m.M HOK.out.lt (by have := HTL.out; have := HB.out; omega)
   by_cases hlt2 : T < m.M
   ·obtain ⟨f1, f2, f3⟩ := hfin.1 hlt2
    rw [f1] at c4
    rw [f2]
    have HF := qH f3
    clear hfin f1 f2 f3 hlt2
    go_wp2_with (with_reducible refine wSk 70 ?_)
    refine a0h st13 4 rfl rfl rfl Tryz.underlying72 rfl (by simp only [a0a]; kernel_rfl) ?_
    go_wp2_with (with_reducible refine wSn ?_)
    refine a0d st13 2 rfl rfl rfl rfl rfl (by first | (simp only [a0a]; done) | (simp only [List.length_append, a0a]; done)) (by simp only [a0a]; kernel_rfl) (a0i _ _) ?_
    intro w14 st14
    clear st13
    have hr := st14.at 2 rfl
    have hfr := st14.fr
    clear st14
    go_wp2_with fail
    exact bodyPost_ret (a0q rfl rfl hr Tryz.underlying59 (by simp only [a0a]; kernel_rfl)) rfl ⟨by rw [← HVAL.out]; unfold i4; rw [HF.out], hfr⟩
   ·obtain ⟨f3, f4⟩ := hfin.2 hlt2
    have HF := qH f3
    by_cases hlt3 : T < B64 ^ 4
    ·obtain ⟨f1, f2⟩ := f4 hlt3
     rw [f1] at c4
     rw [f2]
     clear hfin f1 f2 f3 f4 hlt2 hlt3
     go_wp2_with (with_reducible refine wSk 71 ?_)
     refine a0h st13 5 rfl rfl rfl Tryz.underlying72 rfl (by simp only [a0a]; kernel_rfl) ?_
     go_wp2_with (with_reducible refine wSn ?_)
     refine a0d st13 2 rfl rfl rfl rfl rfl (by first | (simp only [a0a]; done) | (simp only [List.length_append, a0a]; done)) (by simp only [a0a]; kernel_rfl) (a0i _ _) ?_
     intro w14 st14
     clear st13
     have hr := st14.at 2 rfl
     have hfr := st14.fr
     clear st14
     go_wp2_with fail
     exact bodyPost_ret (a0q rfl rfl hr Tryz.underlying59 (by simp only [a0a]; kernel_rfl)) rfl ⟨by rw [← HVAL.out]; unfold i4; rw [HF.out], hfr⟩
    ·have f1 := p0X T (by have := HTL.out; have := HB.out; have := HOK.out.lt; omega) hlt3
     rw [f1] at c4
     clear hfin f1 f3 f4 hlt2 hlt3
     go_wp2_with (with_reducible refine wSk 71 ?_)
     refine a0h st13 5 rfl rfl rfl Tryz.underlying72 rfl (by simp only [a0a]; kernel_rfl) ?_
     go_wp2_with (with_reducible refine wSn ?_)
     refine a0d st13 2 rfl rfl rfl rfl rfl (by first | (simp only [a0a]; done) | (simp only [List.length_append, a0a]; done)) (by simp only [a0a]; kernel_rfl) (a0i _ _) ?_
     intro w14 st14
     clear st13
     have hr := st14.at 2 rfl
     have hfr := st14.fr
     clear st14
     go_wp2_with fail
     exact bodyPost_ret (a0q rfl rfl hr Tryz.underlying59 (by simp only [a0a]; kernel_rfl)) rfl ⟨by rw [← HVAL.out]; unfold i4; rw [HF.out], hfr⟩
end Go.Proofs.YtemcankmggmgoaaGreatDoor
namespace Mvp
def elN (m : Md) (x : Nat) : Nat := x * B64 ^ 4 % m.M
theorem i0W (m : Md) (h : m.Ok) (x : Nat) : elN m x < m.M := Nat.mod_lt _ (by have := h.one; omega)
theorem k0d (m : Md) (h : m.Ok) (x : Nat) : elN m x < B64 ^ 4 := Nat.lt_trans (i0W m h x) h.lt
theorem x0B (m : Md) : B64 ^ 4 % m.M = elN m 1 := by rw [elN, Nat.one_mul]
theorem d0m (m : Md) : elN m 0 = 0 := by rw [elN, Nat.zero_mul, Nat.zero_mod]
theorem q0a (m : Md) (x : Nat) : elN m (x % m.M) = elN m x := by rw [elN, elN, Nat.mod_mul_mod]
theorem i0X (m : Md) {x y : Nat} (h : x % m.M = y % m.M) : elN m x = elN m y := by rw [← q0a, h, q0a]
theorem v0N (m : Md) (h : m.Ok) (x : Nat) : x * B64 ^ 4 * m.Ri % m.M = x % m.M := by
 rw [Nat.mul_assoc, Nat.mul_mod, h.inv, Nat.mul_one, Nat.mod_mod]
theorem l0M (a b R Ri M : Nat) : (a * R % M) * (b * R % M) * Ri % M = (a * b * R) * R * Ri % M := by
 rw [← Nat.mod_mul_mod (a * R % M * (b * R % M)), ← Nat.mul_mod, Nat.mod_mul_mod, Nat.mul_mul_mul_comm, ← Nat.mul_assoc (a * b)]
theorem o0l (n R Ri M : Nat) : n * (R * R % M) * Ri % M = n * R * R * Ri % M := by
 rw [← Nat.mod_mul_mod (n * (R * R % M)), Nat.mul_mod_mod, Nat.mod_mul_mod, ← Nat.mul_assoc]
theorem x0C (m : Md) (h : m.Ok) (x y : Nat) : elN m x * elN m y * m.Ri % m.M = elN m (x * y) := by
 unfold elN
 rw [l0M, v0N m h]
theorem x0D (m : Md) (h : m.Ok) (n : Nat) : n * (B64 ^ 4 * B64 ^ 4 % m.M) * m.Ri % m.M = elN m n := by
 rw [o0l, v0N m h, elN]
theorem l0N (m : Md) (h : m.Ok) (x : Nat) : elN m x * 1 * m.Ri % m.M = x % m.M := by
 rw [Nat.mul_one, elN, Nat.mod_mul_mod, v0N m h]
theorem m0Z (m : Md) (x y : Nat) : (elN m x + elN m y) % m.M = elN m (x + y) := by
 rw [elN, elN, elN, ← Nat.add_mod, Nat.add_mul]
theorem x0E (m : Md) (h : m.Ok) {x y : Nat} (e : elN m x = elN m y) : x % m.M = y % m.M := by
 rw [← l0N m h x, e, l0N m h y]
theorem u0M (m : Md) (h : m.Ok) (x y : Nat) : (elN m x + m.M - elN m y) % m.M = elN m (x + (m.M - y % m.M)) := by
 have hM : 0 < m.M := by have := h.one; omega
 have hy := i0W m h y
 have h1 : (elN m x + m.M - elN m y) + elN m y = elN m x + m.M := by omega
 have hym := Nat.mod_lt y hM
 have e1 : ((elN m x + m.M - elN m y) % m.M + elN m y) % m.M = elN m x % m.M := by
  rw [Nat.mod_add_mod, h1, Nat.add_mod_right]
 have e2 : (elN m (x + (m.M - y % m.M)) + elN m y) % m.M = elN m x % m.M := by
  rw [m0Z, Nat.mod_eq_of_lt (i0W m h x)]
  refine i0X m ?_
  rw [Nat.add_assoc, Nat.add_mod x, Nat.add_comm _ y, ← Nat.mod_add_mod y, show y % m.M + (m.M - y % m.M) = m.M by omega, Nat.mod_self, Nat.add_zero, Nat.mod_mod]
 have a1 := Nat.mod_lt (elN m x + m.M - elN m y) hM
 have a2 := i0W m h (x + (m.M - y % m.M))
 generalize (elN m x + m.M - elN m y) % m.M = p at *
 generalize elN m (x + (m.M - y % m.M)) = q at *
 generalize elN m y = r at *
 have e3 : (p + r) % m.M = (q + r) % m.M := by rw [e1, e2]
 have l1 := Nat.div_add_mod (p + r) m.M
 have l2 := Nat.div_add_mod (q + r) m.M
 rcases Nat.lt_or_ge (p + r) m.M with h1 | h1 <;> rcases Nat.lt_or_ge (q + r) m.M with h2 | h2
 ·rw [Nat.mod_eq_of_lt h1, Nat.mod_eq_of_lt h2] at e3; omega
 ·rw [Nat.mod_eq_of_lt h1, Nat.mod_eq_sub_mod h2, Nat.mod_eq_of_lt (by omega)] at e3; omega
 ·rw [Nat.mod_eq_of_lt h2, Nat.mod_eq_sub_mod h1, Nat.mod_eq_of_lt (by omega)] at e3; omega
 ·rw [Nat.mod_eq_sub_mod h1, Nat.mod_eq_sub_mod h2, Nat.mod_eq_of_lt (by omega), Nat.mod_eq_of_lt (by omega)] at e3; omega
theorem q0b (a b : Nat) (ha : a < B64 ^ 4) (hb : b < B64 ^ 4) : b0G a b 4 = lw (a + b) 4 := by
 rw [s0u a b 4 ha hb]
 unfold lw
 have h0 := b0F 4
 have : (a + b) / B64 ^ 4 < 2 := Nat.div_lt_of_lt_mul (by omega)
 exact (Nat.mod_eq_of_lt (Nat.lt_trans this (by decide))).symm
theorem k0e (a b M : Nat) (_ : a < M) (hb : b < M) (hM : M < B64 ^ 4) (h : a < b) : Go.Mv.cw 4 ((a + M - b) % M) = Go.Mv.cw 4 (a + B64 ^ 4 - b + M) := by
 rw [Nat.mod_eq_of_lt (by omega), ← Go.Mv.cw_mod 4 (a + B64 ^ 4 - b + M)]
 rw [show a + B64 ^ 4 - b + M = (a + M - b) + B64 ^ 4 by omega, Nat.add_mod_right, Go.Mv.cw_mod]
theorem k0f (a b M : Nat) (ha : a < M) (hb : b < M) (h : ¬ a < b) : Go.Mv.cw 4 ((a + M - b) % M) = Go.Mv.cw 4 (a + B64 ^ 4 - b) := by
 have _h := hb
 rw [show a + M - b = (a - b) + M by omega, Nat.add_mod_right, Nat.mod_eq_of_lt (by omega), ← Go.Mv.cw_mod 4 (a + B64 ^ 4 - b), show a + B64 ^ 4 - b = (a - b) + B64 ^ 4 by omega, Nat.add_mod_right, Go.Mv.cw_mod]
end Mvp
