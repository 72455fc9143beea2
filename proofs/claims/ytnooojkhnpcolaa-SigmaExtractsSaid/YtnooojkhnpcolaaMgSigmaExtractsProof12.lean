/- The reference's Q, Scalar, Extract; The law SigmaExtracts; From a walk that turns nothing (Fr Nob) to what a law's row asks behind the call; Arguments that were handed in, opened into the words of Mem. -/
import Derived.Test.YtnooojkhnpcolaaMgSigmaExtractsProof11
import Derived.Test.YtnooojkhnpcolaaMgSigmaExtractsProof1
import Derived.ProofKit
import Derived.OpenShut
import Derived.Carry
import Derived.SliceStrings
import Derived.SizedLaws
namespace Go.Proofs.Ytnooojkhnpcolaa
open Go.RowKit Go.Mv Mvp
theorem sec_same (M c1 z1 c2 z2 : Nat) (h2 : c2 < M) (h4 : z2 < M) : (z1 + (M - z2)) % M * ((c1 + (M - c2)) % M) ^ (M - 2) % M = secN M c1 z1 c2 z2 := by
  unfold secN
  rw [Nat.mod_eq_of_lt h2, Nat.mod_eq_of_lt h4, Nat.mod_mul_mod, Nat.mul_mod, ← Nat.pow_mod, ← Nat.mul_mod]
theorem run_eqN (x y : Nat) (hx : x < B64 ^ 4) (hy : y < B64 ^ 4) (w : World) : (Op.equal 97 (.agg (cw 4 x).toArray) (.agg (cw 4 y).toArray)).run Try.prog w = .ok (x == y) w := by
  have h := run_eq4 (P := Try.prog) Try.underlying97 Try.underlying90 size_u64 x y w
  rw [Nat.mod_eq_of_lt hx, Nat.mod_eq_of_lt hy] at h
  rw [h]
  congr 1
theorem exec_eqlN {x y : Nat} (hx : x < B64 ^ 4) (hy : y < B64 ^ 4) {o : Oper} {a : Act} {p q : Operand} {T : TypeId} (ho : o.op = .binOp .eql 97 p q T) (hp : a.eval p = i4 x) (hq : a.eval q = i4 y) {b : Bool} (hb : (x == y) = b) (w : World) :
    (execOp a.eval o).run Try.prog w = .ok (.value (.bool b)) w := by
  subst hb
  exact exec_binop ho hp hq w (run_eqGuard_agg w .eql 97 p q _ _ Try.eqGuardType97) (eql_of_equal w (run_eqN x y hx hy w))
attribute [local irreducible] limbs lw mix cw cSub cAdd cMul foldC valFrom beN laid be32 powm montT mstep elN mdL elCells numsB numB secN

set_option maxHeartbeats 16000000 in
set_option maxRecDepth 1000000 in
theorem Q_any (m : Md) (hk : KindOf 1 m) (w : World) :
    Calls Try.prog 49 #[] w fun e w' => e = .returned (fv m.M) ∧ Fr Nob w w' := by
  have HK := Lib.hid hk
  have HOK := Lib.hid hk.ok
  clear hk
  have st0 := St.start Nob w
  go_enter Try.func49, Try.ntmps49
  go_wp2_with (with_reducible refine wl_stop (o := ⟨some 0, _, _, _, _, _⟩) ?_)
  refine wl_allocS st0 rfl rfl (z := .agg #[.int .u64 0, .int .u64 0, .int .u64 0, .int .u64 0, .int .u64 0, .int .u64 0, .int .u64 0, .int .u64 0]) (by kernel_rfl) (cw 8 0) (by rw [cw_zero]; rfl) ?_
  intro g0 w1 st1
  clear st0
  go_wp2_with fail
  refine (MakeK HK.out _).mono ?_
  rintro e' w2 ⟨rfl, hf2⟩
  have st2 := st1.keep hf2
  clear st1 hf2
  go_wp2_with (with_reducible refine wl_stop (o := ⟨none, _, _, _, _, _⟩) ?_)
  refine wl_storeS st2 0 rfl rfl rfl rfl rfl (by first | (simp only [cw_len]; done) | (simp only [List.length_append, cw_len]; done)) (by first | (rw [cw_len]; kernel_rfl) | (simp only [List.length_append, cw_len]; kernel_rfl)) (cw2_one _ _ _ _) ?_
  intro w3 st3
  clear st2
  have hr := st3.at 0 rfl
  have hfr := st3.fr
  clear st3
  go_wp2_with fail
  exact bodyPost_ret (results_st rfl rfl hr Try.underlying101 rfl (by first | (rw [cw_len]; kernel_rfl) | (simp only [List.length_append, cw_len]; kernel_rfl))) rfl ⟨rfl, hfr⟩

set_option maxHeartbeats 16000000 in
set_option maxRecDepth 1000000 in
theorem Scalar_t (m : Md) (hk : KindOf 1 m) (s : ByteArray) (w : World) (ha : numB m s.data.toList = true) :
    Calls Try.prog 48 #[.string s] w fun e w' => e = .returned (.tuple #[i4 (beN s.data.toList), .bool true]) ∧ Fr Nob w w' := by
  have HK := Lib.hid hk
  have HOK := Lib.hid hk.ok
  clear hk
  have HA := Lib.hid ha
  clear ha
  have st0 := St.start Nob w
  go_enter Try.func48, Try.ntmps48
  go_wp2_with (with_reducible refine wl_stop (o := ⟨some 2, _, _, _, _, _⟩) ?_)
  refine wl_allocS st0 rfl rfl (z := .agg #[.int .u64 0, .int .u64 0, .int .u64 0, .int .u64 0]) (by kernel_rfl) (cw 4 0) (by rw [cw_zero]; rfl) ?_
  intro g2 w1 st1
  clear st0
  go_wp2_with fail
  refine (Q_any m HK.out _).mono ?_
  rintro e' w2 ⟨rfl, hf2⟩
  have st2 := st1.keep hf2
  clear st1 hf2
  go_wp2_with fail
  refine (Number_t m HOK.out.lt s _ HA.out).mono ?_
  rintro e' w3 ⟨rfl, hf3⟩
  have st3 := st2.keep hf3
  clear st2 hf3
  go_wp2_with (with_reducible refine wl_stop (o := ⟨none, _, _, _, _, _⟩) ?_)
  refine wl_storeS st3 0 rfl rfl rfl rfl rfl (by first | (simp only [cw_len]; done) | (simp only [List.length_append, cw_len]; done)) (by first | (rw [cw_len]; kernel_rfl) | (simp only [List.length_append, cw_len]; kernel_rfl)) (cw_one _ _) ?_
  intro w4 st4
  clear st3
  have hr := st4.at 0 rfl
  have hfr := st4.fr
  clear st4
  go_wp2_with fail
  exact bodyPost_ret (results_arr2 rfl rfl hr Try.underlying97 (by first | (rw [cw_len]; kernel_rfl) | (simp only [List.length_append, cw_len]; kernel_rfl)) rfl) rfl ⟨rfl, hfr⟩

set_option maxHeartbeats 16000000 in
set_option maxRecDepth 1000000 in
theorem Scalar_f (m : Md) (hk : KindOf 1 m) (s : ByteArray) (w : World) (ha : numB m s.data.toList = false) :
    Calls Try.prog 48 #[.string s] w fun e w' => ∃ N, e = .returned (.tuple #[i4 N, .bool false]) ∧ Fr Nob w w' := by
  have HK := Lib.hid hk
  have HOK := Lib.hid hk.ok
  clear hk
  have HA := Lib.hid ha
  clear ha
  have st0 := St.start Nob w
  go_enter Try.func48, Try.ntmps48
  go_wp2_with (with_reducible refine wl_stop (o := ⟨some 2, _, _, _, _, _⟩) ?_)
  refine wl_allocS st0 rfl rfl (z := .agg #[.int .u64 0, .int .u64 0, .int .u64 0, .int .u64 0]) (by kernel_rfl) (cw 4 0) (by rw [cw_zero]; rfl) ?_
  intro g2 w1 st1
  clear st0
  go_wp2_with fail
  refine (Q_any m HK.out _).mono ?_
  rintro e' w2 ⟨rfl, hf2⟩
  have st2 := st1.keep hf2
  clear st1 hf2
  go_wp2_with fail
  refine (Number_f m HOK.out.lt s _ HA.out).mono ?_
  rintro e' w3 ⟨NA, rfl, hf3⟩
  have st3 := st2.keep hf3
  clear st2 hf3
  go_wp2_with (with_reducible refine wl_stop (o := ⟨none, _, _, _, _, _⟩) ?_)
  refine wl_storeS st3 0 rfl rfl rfl rfl rfl (by first | (simp only [cw_len]; done) | (simp only [List.length_append, cw_len]; done)) (by first | (rw [cw_len]; kernel_rfl) | (simp only [List.length_append, cw_len]; kernel_rfl)) (cw_one _ _) ?_
  intro w4 st4
  clear st3
  have hr := st4.at 0 rfl
  have hfr := st4.fr
  clear st4
  go_wp2_with fail
  exact bodyPost_ret (results_arr2 rfl rfl hr Try.underlying97 (by first | (rw [cw_len]; kernel_rfl) | (simp only [List.length_append, cw_len]; kernel_rfl)) rfl) rfl ⟨_, rfl, hfr⟩

theorem Scalar_u (m : Md) (hk : KindOf 1 m) (s : ByteArray) (w : World) : Calls Try.prog 48 #[.string s] w fun e w' => ∃ N b, e = .returned (.tuple #[i4 N, .bool b]) ∧ Fr Nob w w' := by
  cases h : numB m s.data.toList
  · exact (Scalar_f m hk s w h).mono fun e w' ⟨N, h1, h2⟩ => ⟨N, false, h1, h2⟩
  · exact (Scalar_t m hk s w h).mono fun e w' h1 => ⟨_, true, h1.1, h1.2⟩

theorem Sub_v (p a b r : Nat) (w : World) (hp0 : 0 < p) (hp : p < B64 ^ 4) (ha : a < B64 ^ 4) (hb : b < B64 ^ 4) (hbp : b ≤ p) (hr : (a + (p - b)) % p = r) :
    Calls Try.prog 51 #[fv p, i4 a, i4 b] w fun e w' => e = .returned (i4 r) ∧ Fr Nob w w' := by
  refine (Sub_any p a b w hp0 hp ha hb hbp).mono fun e w' h => ?_
  rw [Nat.add_mod_mod, hr] at h
  exact h
theorem Inv_v (p a r : Nat) (w : World) (hp1 : 1 < p) (hp : p < B64 ^ 4) (ha : a < B64 ^ 4) (hr : a ^ (p - 2) % p = r) :
    Calls Try.prog 52 #[fv p, i4 a] w fun e w' => e = .returned (i4 r) ∧ Fr Nob w w' := by
  subst hr; exact Inv_any p a w hp1 hp ha
theorem Mul_v (p a b r : Nat) (w : World) (hp0 : 0 < p) (hp : p < B64 ^ 4) (ha : a < B64 ^ 4) (hb : b < B64 ^ 4) (hr : a * b % p = r) :
    Calls Try.prog 50 #[fv p, i4 a, i4 b] w fun e w' => e = .returned (i4 r) ∧ Fr Nob w w' := by
  subst hr; exact Mul_any p a b w hp0 hp ha hb

set_option maxHeartbeats 16000000 in
set_option maxRecDepth 1000000 in
theorem RExtract_bad1 (m : Md) (hk : KindOf 1 m) (s1 : ByteArray) (s2 : ByteArray) (s3 : ByteArray) (s4 : ByteArray) (w : World) (ha1 : numB m s1.data.toList = false) :
    Calls Try.prog 19 #[.string s1, .string s2, .string s3, .string s4] w fun e w' => e = .returned (.tuple #[.string ⟨#[]⟩, .int .i64 3]) ∧ Fr Nob w w' := by
  have HK := Lib.hid hk
  have HOK := Lib.hid hk.ok
  clear hk
  have HA1 := Lib.hid ha1
  clear ha1
  have st0 := St.start Nob w
  go_enter Try.func19, Try.ntmps19
  go_wp2_with fail
  refine (Scalar_f m HK.out s1 _ HA1.out).mono ?_
  rintro e' w1 ⟨N1, rfl, hf1⟩
  have st1 := st0.keep hf1
  clear st0 hf1
  go_wp2_with (with_reducible refine wl_stop (o := ⟨some 10, _, _, _, _, _⟩) ?_)
  refine wl_allocS st1 rfl rfl (z := .agg #[.int .u64 0, .int .u64 0, .int .u64 0, .int .u64 0]) (by kernel_rfl) (cw 4 0) (by rw [cw_zero]; rfl) ?_
  intro g10 w2 st2
  clear st1
  go_wp2_with (with_reducible refine wl_stop (o := ⟨none, _, _, _, _, _⟩) ?_)
  refine wl_storeS st2 0 rfl rfl rfl rfl rfl (by first | (simp only [cw_len]; done) | (simp only [List.length_append, cw_len]; done)) (by first | (rw [cw_len]; kernel_rfl) | (simp only [List.length_append, cw_len]; kernel_rfl)) (cw_one _ _) ?_
  intro w3 st3
  clear st2
  go_wp2_with fail
  refine (Scalar_u m HK.out s2 _).mono ?_
  rintro e' w4 ⟨N2, b2, rfl, hf4⟩
  have st4 := st3.keep hf4
  clear st3 hf4
  go_wp2_with (with_reducible refine wl_stop (o := ⟨some 12, _, _, _, _, _⟩) ?_)
  refine wl_allocS st4 rfl rfl (z := .agg #[.int .u64 0, .int .u64 0, .int .u64 0, .int .u64 0]) (by kernel_rfl) (cw 4 0) (by rw [cw_zero]; rfl) ?_
  intro g12 w5 st5
  clear st4
  go_wp2_with (with_reducible refine wl_stop (o := ⟨none, _, _, _, _, _⟩) ?_)
  refine wl_storeS st5 1 rfl rfl rfl rfl rfl (by first | (simp only [cw_len]; done) | (simp only [List.length_append, cw_len]; done)) (by first | (rw [cw_len]; kernel_rfl) | (simp only [List.length_append, cw_len]; kernel_rfl)) (cw_one _ _) ?_
  intro w6 st6
  clear st5
  go_wp2_with fail
  refine (Scalar_u m HK.out s3 _).mono ?_
  rintro e' w7 ⟨N3, b3, rfl, hf7⟩
  have st7 := st6.keep hf7
  clear st6 hf7
  go_wp2_with (with_reducible refine wl_stop (o := ⟨some 14, _, _, _, _, _⟩) ?_)
  refine wl_allocS st7 rfl rfl (z := .agg #[.int .u64 0, .int .u64 0, .int .u64 0, .int .u64 0]) (by kernel_rfl) (cw 4 0) (by rw [cw_zero]; rfl) ?_
  intro g14 w8 st8
  clear st7
  go_wp2_with (with_reducible refine wl_stop (o := ⟨none, _, _, _, _, _⟩) ?_)
  refine wl_storeS st8 2 rfl rfl rfl rfl rfl (by first | (simp only [cw_len]; done) | (simp only [List.length_append, cw_len]; done)) (by first | (rw [cw_len]; kernel_rfl) | (simp only [List.length_append, cw_len]; kernel_rfl)) (cw_one _ _) ?_
  intro w9 st9
  clear st8
  go_wp2_with fail
  refine (Scalar_u m HK.out s4 _).mono ?_
  rintro e' w10 ⟨N4, b4, rfl, hf10⟩
  have st10 := st9.keep hf10
  clear st9 hf10
  go_wp2_with (with_reducible refine wl_stop (o := ⟨some 16, _, _, _, _, _⟩) ?_)
  refine wl_allocS st10 rfl rfl (z := .agg #[.int .u64 0, .int .u64 0, .int .u64 0, .int .u64 0]) (by kernel_rfl) (cw 4 0) (by rw [cw_zero]; rfl) ?_
  intro g16 w11 st11
  clear st10
  go_wp2_with (with_reducible refine wl_stop (o := ⟨none, _, _, _, _, _⟩) ?_)
  refine wl_storeS st11 3 rfl rfl rfl rfl rfl (by first | (simp only [cw_len]; done) | (simp only [List.length_append, cw_len]; done)) (by first | (rw [cw_len]; kernel_rfl) | (simp only [List.length_append, cw_len]; kernel_rfl)) (cw_one _ _) ?_
  intro w12 st12
  clear st11
  have hfr := st12.fr
  clear st12
  go_wp2_with fail
  go_ret2
  exact ⟨rfl, hfr⟩

set_option maxHeartbeats 16000000 in
set_option maxRecDepth 1000000 in
theorem RExtract_bad2 (m : Md) (hk : KindOf 1 m) (s1 : ByteArray) (s2 : ByteArray) (s3 : ByteArray) (s4 : ByteArray) (w : World) (ha1 : numB m s1.data.toList = true) (ha2 : numB m s2.data.toList = false) :
    Calls Try.prog 19 #[.string s1, .string s2, .string s3, .string s4] w fun e w' => e = .returned (.tuple #[.string ⟨#[]⟩, .int .i64 3]) ∧ Fr Nob w w' := by
  have HK := Lib.hid hk
  have HOK := Lib.hid hk.ok
  clear hk
  have HA1 := Lib.hid ha1
  have HA2 := Lib.hid ha2
  clear ha1 ha2
  have st0 := St.start Nob w
  go_enter Try.func19, Try.ntmps19
  go_wp2_with fail
  refine (Scalar_t m HK.out s1 _ HA1.out).mono ?_
  rintro e' w1 ⟨rfl, hf1⟩
  have st1 := st0.keep hf1
  clear st0 hf1
  go_wp2_with (with_reducible refine wl_stop (o := ⟨some 10, _, _, _, _, _⟩) ?_)
  refine wl_allocS st1 rfl rfl (z := .agg #[.int .u64 0, .int .u64 0, .int .u64 0, .int .u64 0]) (by kernel_rfl) (cw 4 0) (by rw [cw_zero]; rfl) ?_
  intro g10 w2 st2
  clear st1
  go_wp2_with (with_reducible refine wl_stop (o := ⟨none, _, _, _, _, _⟩) ?_)
  refine wl_storeS st2 0 rfl rfl rfl rfl rfl (by first | (simp only [cw_len]; done) | (simp only [List.length_append, cw_len]; done)) (by first | (rw [cw_len]; kernel_rfl) | (simp only [List.length_append, cw_len]; kernel_rfl)) (cw_one _ _) ?_
  intro w3 st3
  clear st2
  go_wp2_with fail
  refine (Scalar_f m HK.out s2 _ HA2.out).mono ?_
  rintro e' w4 ⟨N2, rfl, hf4⟩
  have st4 := st3.keep hf4
  clear st3 hf4
  go_wp2_with (with_reducible refine wl_stop (o := ⟨some 12, _, _, _, _, _⟩) ?_)
  refine wl_allocS st4 rfl rfl (z := .agg #[.int .u64 0, .int .u64 0, .int .u64 0, .int .u64 0]) (by kernel_rfl) (cw 4 0) (by rw [cw_zero]; rfl) ?_
  intro g12 w5 st5
  clear st4
  go_wp2_with (with_reducible refine wl_stop (o := ⟨none, _, _, _, _, _⟩) ?_)
  refine wl_storeS st5 1 rfl rfl rfl rfl rfl (by first | (simp only [cw_len]; done) | (simp only [List.length_append, cw_len]; done)) (by first | (rw [cw_len]; kernel_rfl) | (simp only [List.length_append, cw_len]; kernel_rfl)) (cw_one _ _) ?_
  intro w6 st6
  clear st5
  go_wp2_with fail
  refine (Scalar_u m HK.out s3 _).mono ?_
  rintro e' w7 ⟨N3, b3, rfl, hf7⟩
  have st7 := st6.keep hf7
  clear st6 hf7
  go_wp2_with (with_reducible refine wl_stop (o := ⟨some 14, _, _, _, _, _⟩) ?_)
  refine wl_allocS st7 rfl rfl (z := .agg #[.int .u64 0, .int .u64 0, .int .u64 0, .int .u64 0]) (by kernel_rfl) (cw 4 0) (by rw [cw_zero]; rfl) ?_
  intro g14 w8 st8
  clear st7
  go_wp2_with (with_reducible refine wl_stop (o := ⟨none, _, _, _, _, _⟩) ?_)
  refine wl_storeS st8 2 rfl rfl rfl rfl rfl (by first | (simp only [cw_len]; done) | (simp only [List.length_append, cw_len]; done)) (by first | (rw [cw_len]; kernel_rfl) | (simp only [List.length_append, cw_len]; kernel_rfl)) (cw_one _ _) ?_
  intro w9 st9
  clear st8
  go_wp2_with fail
  refine (Scalar_u m HK.out s4 _).mono ?_
  rintro e' w10 ⟨N4, b4, rfl, hf10⟩
  have st10 := st9.keep hf10
  clear st9 hf10
  go_wp2_with (with_reducible refine wl_stop (o := ⟨some 16, _, _, _, _, _⟩) ?_)
  refine wl_allocS st10 rfl rfl (z := .agg #[.int .u64 0, .int .u64 0, .int .u64 0, .int .u64 0]) (by kernel_rfl) (cw 4 0) (by rw [cw_zero]; rfl) ?_
  intro g16 w11 st11
  clear st10
  go_wp2_with (with_reducible refine wl_stop (o := ⟨none, _, _, _, _, _⟩) ?_)
  refine wl_storeS st11 3 rfl rfl rfl rfl rfl (by first | (simp only [cw_len]; done) | (simp only [List.length_append, cw_len]; done)) (by first | (rw [cw_len]; kernel_rfl) | (simp only [List.length_append, cw_len]; kernel_rfl)) (cw_one _ _) ?_
  intro w12 st12
  clear st11
  have hfr := st12.fr
  clear st12
  go_wp2_with fail
  go_ret2
  exact ⟨rfl, hfr⟩

set_option maxHeartbeats 16000000 in
set_option maxRecDepth 1000000 in
theorem RExtract_bad3 (m : Md) (hk : KindOf 1 m) (s1 : ByteArray) (s2 : ByteArray) (s3 : ByteArray) (s4 : ByteArray) (w : World) (ha1 : numB m s1.data.toList = true) (ha2 : numB m s2.data.toList = true) (ha3 : numB m s3.data.toList = false) :
    Calls Try.prog 19 #[.string s1, .string s2, .string s3, .string s4] w fun e w' => e = .returned (.tuple #[.string ⟨#[]⟩, .int .i64 3]) ∧ Fr Nob w w' := by
  have HK := Lib.hid hk
  have HOK := Lib.hid hk.ok
  clear hk
  have HA1 := Lib.hid ha1
  have HA2 := Lib.hid ha2
  have HA3 := Lib.hid ha3
  clear ha1 ha2 ha3
  have st0 := St.start Nob w
  go_enter Try.func19, Try.ntmps19
  go_wp2_with fail
  refine (Scalar_t m HK.out s1 _ HA1.out).mono ?_
  rintro e' w1 ⟨rfl, hf1⟩
  have st1 := st0.keep hf1
  clear st0 hf1
  go_wp2_with (with_reducible refine wl_stop (o := ⟨some 10, _, _, _, _, _⟩) ?_)
  refine wl_allocS st1 rfl rfl (z := .agg #[.int .u64 0, .int .u64 0, .int .u64 0, .int .u64 0]) (by kernel_rfl) (cw 4 0) (by rw [cw_zero]; rfl) ?_
  intro g10 w2 st2
  clear st1
  go_wp2_with (with_reducible refine wl_stop (o := ⟨none, _, _, _, _, _⟩) ?_)
  refine wl_storeS st2 0 rfl rfl rfl rfl rfl (by first | (simp only [cw_len]; done) | (simp only [List.length_append, cw_len]; done)) (by first | (rw [cw_len]; kernel_rfl) | (simp only [List.length_append, cw_len]; kernel_rfl)) (cw_one _ _) ?_
  intro w3 st3
  clear st2
  go_wp2_with fail
  refine (Scalar_t m HK.out s2 _ HA2.out).mono ?_
  rintro e' w4 ⟨rfl, hf4⟩
  have st4 := st3.keep hf4
  clear st3 hf4
  go_wp2_with (with_reducible refine wl_stop (o := ⟨some 12, _, _, _, _, _⟩) ?_)
  refine wl_allocS st4 rfl rfl (z := .agg #[.int .u64 0, .int .u64 0, .int .u64 0, .int .u64 0]) (by kernel_rfl) (cw 4 0) (by rw [cw_zero]; rfl) ?_
  intro g12 w5 st5
  clear st4
  go_wp2_with (with_reducible refine wl_stop (o := ⟨none, _, _, _, _, _⟩) ?_)
  refine wl_storeS st5 1 rfl rfl rfl rfl rfl (by first | (simp only [cw_len]; done) | (simp only [List.length_append, cw_len]; done)) (by first | (rw [cw_len]; kernel_rfl) | (simp only [List.length_append, cw_len]; kernel_rfl)) (cw_one _ _) ?_
  intro w6 st6
  clear st5
  go_wp2_with fail
  refine (Scalar_f m HK.out s3 _ HA3.out).mono ?_
  rintro e' w7 ⟨N3, rfl, hf7⟩
  have st7 := st6.keep hf7
  clear st6 hf7
  go_wp2_with (with_reducible refine wl_stop (o := ⟨some 14, _, _, _, _, _⟩) ?_)
  refine wl_allocS st7 rfl rfl (z := .agg #[.int .u64 0, .int .u64 0, .int .u64 0, .int .u64 0]) (by kernel_rfl) (cw 4 0) (by rw [cw_zero]; rfl) ?_
  intro g14 w8 st8
  clear st7
  go_wp2_with (with_reducible refine wl_stop (o := ⟨none, _, _, _, _, _⟩) ?_)
  refine wl_storeS st8 2 rfl rfl rfl rfl rfl (by first | (simp only [cw_len]; done) | (simp only [List.length_append, cw_len]; done)) (by first | (rw [cw_len]; kernel_rfl) | (simp only [List.length_append, cw_len]; kernel_rfl)) (cw_one _ _) ?_
  intro w9 st9
  clear st8
  go_wp2_with fail
  refine (Scalar_u m HK.out s4 _).mono ?_
  rintro e' w10 ⟨N4, b4, rfl, hf10⟩
  have st10 := st9.keep hf10
  clear st9 hf10
  go_wp2_with (with_reducible refine wl_stop (o := ⟨some 16, _, _, _, _, _⟩) ?_)
  refine wl_allocS st10 rfl rfl (z := .agg #[.int .u64 0, .int .u64 0, .int .u64 0, .int .u64 0]) (by kernel_rfl) (cw 4 0) (by rw [cw_zero]; rfl) ?_
  intro g16 w11 st11
  clear st10
  go_wp2_with (with_reducible refine wl_stop (o := ⟨none, _, _, _, _, _⟩) ?_)
  refine wl_storeS st11 3 rfl rfl rfl rfl rfl (by first | (simp only [cw_len]; done) | (simp only [List.length_append, cw_len]; done)) (by first | (rw [cw_len]; kernel_rfl) | (simp only [List.length_append, cw_len]; kernel_rfl)) (cw_one _ _) ?_
  intro w12 st12
  clear st11
  have hfr := st12.fr
  clear st12
  go_wp2_with fail
  go_ret2
  exact ⟨rfl, hfr⟩

set_option maxHeartbeats 16000000 in
set_option maxRecDepth 1000000 in
theorem RExtract_bad4 (m : Md) (hk : KindOf 1 m) (s1 : ByteArray) (s2 : ByteArray) (s3 : ByteArray) (s4 : ByteArray) (w : World) (ha1 : numB m s1.data.toList = true) (ha2 : numB m s2.data.toList = true) (ha3 : numB m s3.data.toList = true) (ha4 : numB m s4.data.toList = false) :
    Calls Try.prog 19 #[.string s1, .string s2, .string s3, .string s4] w fun e w' => e = .returned (.tuple #[.string ⟨#[]⟩, .int .i64 3]) ∧ Fr Nob w w' := by
  have HK := Lib.hid hk
  have HOK := Lib.hid hk.ok
  clear hk
  have HA1 := Lib.hid ha1
  have HA2 := Lib.hid ha2
  have HA3 := Lib.hid ha3
  have HA4 := Lib.hid ha4
  clear ha1 ha2 ha3 ha4
  have st0 := St.start Nob w
  go_enter Try.func19, Try.ntmps19
  go_wp2_with fail
  refine (Scalar_t m HK.out s1 _ HA1.out).mono ?_
  rintro e' w1 ⟨rfl, hf1⟩
  have st1 := st0.keep hf1
  clear st0 hf1
  go_wp2_with (with_reducible refine wl_stop (o := ⟨some 10, _, _, _, _, _⟩) ?_)
  refine wl_allocS st1 rfl rfl (z := .agg #[.int .u64 0, .int .u64 0, .int .u64 0, .int .u64 0]) (by kernel_rfl) (cw 4 0) (by rw [cw_zero]; rfl) ?_
  intro g10 w2 st2
  clear st1
  go_wp2_with (with_reducible refine wl_stop (o := ⟨none, _, _, _, _, _⟩) ?_)
  refine wl_storeS st2 0 rfl rfl rfl rfl rfl (by first | (simp only [cw_len]; done) | (simp only [List.length_append, cw_len]; done)) (by first | (rw [cw_len]; kernel_rfl) | (simp only [List.length_append, cw_len]; kernel_rfl)) (cw_one _ _) ?_
  intro w3 st3
  clear st2
  go_wp2_with fail
  refine (Scalar_t m HK.out s2 _ HA2.out).mono ?_
  rintro e' w4 ⟨rfl, hf4⟩
  have st4 := st3.keep hf4
  clear st3 hf4
  go_wp2_with (with_reducible refine wl_stop (o := ⟨some 12, _, _, _, _, _⟩) ?_)
  refine wl_allocS st4 rfl rfl (z := .agg #[.int .u64 0, .int .u64 0, .int .u64 0, .int .u64 0]) (by kernel_rfl) (cw 4 0) (by rw [cw_zero]; rfl) ?_
  intro g12 w5 st5
  clear st4
  go_wp2_with (with_reducible refine wl_stop (o := ⟨none, _, _, _, _, _⟩) ?_)
  refine wl_storeS st5 1 rfl rfl rfl rfl rfl (by first | (simp only [cw_len]; done) | (simp only [List.length_append, cw_len]; done)) (by first | (rw [cw_len]; kernel_rfl) | (simp only [List.length_append, cw_len]; kernel_rfl)) (cw_one _ _) ?_
  intro w6 st6
  clear st5
  go_wp2_with fail
  refine (Scalar_t m HK.out s3 _ HA3.out).mono ?_
  rintro e' w7 ⟨rfl, hf7⟩
  have st7 := st6.keep hf7
  clear st6 hf7
  go_wp2_with (with_reducible refine wl_stop (o := ⟨some 14, _, _, _, _, _⟩) ?_)
  refine wl_allocS st7 rfl rfl (z := .agg #[.int .u64 0, .int .u64 0, .int .u64 0, .int .u64 0]) (by kernel_rfl) (cw 4 0) (by rw [cw_zero]; rfl) ?_
  intro g14 w8 st8
  clear st7
  go_wp2_with (with_reducible refine wl_stop (o := ⟨none, _, _, _, _, _⟩) ?_)
  refine wl_storeS st8 2 rfl rfl rfl rfl rfl (by first | (simp only [cw_len]; done) | (simp only [List.length_append, cw_len]; done)) (by first | (rw [cw_len]; kernel_rfl) | (simp only [List.length_append, cw_len]; kernel_rfl)) (cw_one _ _) ?_
  intro w9 st9
  clear st8
  go_wp2_with fail
  refine (Scalar_f m HK.out s4 _ HA4.out).mono ?_
  rintro e' w10 ⟨N4, rfl, hf10⟩
  have st10 := st9.keep hf10
  clear st9 hf10
  go_wp2_with (with_reducible refine wl_stop (o := ⟨some 16, _, _, _, _, _⟩) ?_)
  refine wl_allocS st10 rfl rfl (z := .agg #[.int .u64 0, .int .u64 0, .int .u64 0, .int .u64 0]) (by kernel_rfl) (cw 4 0) (by rw [cw_zero]; rfl) ?_
  intro g16 w11 st11
  clear st10
  go_wp2_with (with_reducible refine wl_stop (o := ⟨none, _, _, _, _, _⟩) ?_)
  refine wl_storeS st11 3 rfl rfl rfl rfl rfl (by first | (simp only [cw_len]; done) | (simp only [List.length_append, cw_len]; done)) (by first | (rw [cw_len]; kernel_rfl) | (simp only [List.length_append, cw_len]; kernel_rfl)) (cw_one _ _) ?_
  intro w12 st12
  clear st11
  have hfr := st12.fr
  clear st12
  go_wp2_with fail
  go_ret2
  exact ⟨rfl, hfr⟩

set_option maxHeartbeats 16000000 in
set_option maxRecDepth 1000000 in
theorem RExtract_none (m : Md) (hk : KindOf 1 m) (s1 : ByteArray) (s2 : ByteArray) (s3 : ByteArray) (s4 : ByteArray) (w : World) (ha1 : numB m s1.data.toList = true) (ha2 : numB m s2.data.toList = true) (ha3 : numB m s3.data.toList = true) (ha4 : numB m s4.data.toList = true) (heq : ((beN s1.data.toList) == (beN s3.data.toList)) = true) :
    Calls Try.prog 19 #[.string s1, .string s2, .string s3, .string s4] w fun e w' => e = .returned (.tuple #[.string ⟨#[]⟩, .int .i64 6]) ∧ Fr Nob w w' := by
  have HK := Lib.hid hk
  have HOK := Lib.hid hk.ok
  clear hk
  have HA1 := Lib.hid ha1
  have HM1 := Lib.hid (numB_lt m _ ha1)
  have HL1 := Lib.hid (Nat.lt_trans (numB_lt m _ ha1) HOK.out.lt)
  have HA2 := Lib.hid ha2
  have HM2 := Lib.hid (numB_lt m _ ha2)
  have HL2 := Lib.hid (Nat.lt_trans (numB_lt m _ ha2) HOK.out.lt)
  have HA3 := Lib.hid ha3
  have HM3 := Lib.hid (numB_lt m _ ha3)
  have HL3 := Lib.hid (Nat.lt_trans (numB_lt m _ ha3) HOK.out.lt)
  have HA4 := Lib.hid ha4
  have HM4 := Lib.hid (numB_lt m _ ha4)
  have HL4 := Lib.hid (Nat.lt_trans (numB_lt m _ ha4) HOK.out.lt)
  have HM0 := Lib.hid (show 0 < m.M by have := HOK.out.one; omega)
  have HEQ := Lib.hid heq
  clear heq ha1 ha2 ha3 ha4
  have st0 := St.start Nob w
  go_enter Try.func19, Try.ntmps19
  go_wp2_with fail
  refine (Scalar_t m HK.out s1 _ HA1.out).mono ?_
  rintro e' w1 ⟨rfl, hf1⟩
  have st1 := st0.keep hf1
  clear st0 hf1
  go_wp2_with (with_reducible refine wl_stop (o := ⟨some 10, _, _, _, _, _⟩) ?_)
  refine wl_allocS st1 rfl rfl (z := .agg #[.int .u64 0, .int .u64 0, .int .u64 0, .int .u64 0]) (by kernel_rfl) (cw 4 0) (by rw [cw_zero]; rfl) ?_
  intro g10 w2 st2
  clear st1
  go_wp2_with (with_reducible refine wl_stop (o := ⟨none, _, _, _, _, _⟩) ?_)
  refine wl_storeS st2 0 rfl rfl rfl rfl rfl (by first | (simp only [cw_len]; done) | (simp only [List.length_append, cw_len]; done)) (by first | (rw [cw_len]; kernel_rfl) | (simp only [List.length_append, cw_len]; kernel_rfl)) (cw_one _ _) ?_
  intro w3 st3
  clear st2
  go_wp2_with fail
  refine (Scalar_t m HK.out s2 _ HA2.out).mono ?_
  rintro e' w4 ⟨rfl, hf4⟩
  have st4 := st3.keep hf4
  clear st3 hf4
  go_wp2_with (with_reducible refine wl_stop (o := ⟨some 12, _, _, _, _, _⟩) ?_)
  refine wl_allocS st4 rfl rfl (z := .agg #[.int .u64 0, .int .u64 0, .int .u64 0, .int .u64 0]) (by kernel_rfl) (cw 4 0) (by rw [cw_zero]; rfl) ?_
  intro g12 w5 st5
  clear st4
  go_wp2_with (with_reducible refine wl_stop (o := ⟨none, _, _, _, _, _⟩) ?_)
  refine wl_storeS st5 1 rfl rfl rfl rfl rfl (by first | (simp only [cw_len]; done) | (simp only [List.length_append, cw_len]; done)) (by first | (rw [cw_len]; kernel_rfl) | (simp only [List.length_append, cw_len]; kernel_rfl)) (cw_one _ _) ?_
  intro w6 st6
  clear st5
  go_wp2_with fail
  refine (Scalar_t m HK.out s3 _ HA3.out).mono ?_
  rintro e' w7 ⟨rfl, hf7⟩
  have st7 := st6.keep hf7
  clear st6 hf7
  go_wp2_with (with_reducible refine wl_stop (o := ⟨some 14, _, _, _, _, _⟩) ?_)
  refine wl_allocS st7 rfl rfl (z := .agg #[.int .u64 0, .int .u64 0, .int .u64 0, .int .u64 0]) (by kernel_rfl) (cw 4 0) (by rw [cw_zero]; rfl) ?_
  intro g14 w8 st8
  clear st7
  go_wp2_with (with_reducible refine wl_stop (o := ⟨none, _, _, _, _, _⟩) ?_)
  refine wl_storeS st8 2 rfl rfl rfl rfl rfl (by first | (simp only [cw_len]; done) | (simp only [List.length_append, cw_len]; done)) (by first | (rw [cw_len]; kernel_rfl) | (simp only [List.length_append, cw_len]; kernel_rfl)) (cw_one _ _) ?_
  intro w9 st9
  clear st8
  go_wp2_with fail
  refine (Scalar_t m HK.out s4 _ HA4.out).mono ?_
  rintro e' w10 ⟨rfl, hf10⟩
  have st10 := st9.keep hf10
  clear st9 hf10
  go_wp2_with (with_reducible refine wl_stop (o := ⟨some 16, _, _, _, _, _⟩) ?_)
  refine wl_allocS st10 rfl rfl (z := .agg #[.int .u64 0, .int .u64 0, .int .u64 0, .int .u64 0]) (by kernel_rfl) (cw 4 0) (by rw [cw_zero]; rfl) ?_
  intro g16 w11 st11
  clear st10
  go_wp2_with (with_reducible refine wl_stop (o := ⟨none, _, _, _, _, _⟩) ?_)
  refine wl_storeS st11 3 rfl rfl rfl rfl rfl (by first | (simp only [cw_len]; done) | (simp only [List.length_append, cw_len]; done)) (by first | (rw [cw_len]; kernel_rfl) | (simp only [List.length_append, cw_len]; kernel_rfl)) (cw_one _ _) ?_
  intro w12 st12
  clear st11
  go_wp2_with (with_reducible refine wl_stop (o := ⟨some 53, _, _, _, _, _⟩) ?_)
  refine wl_loadS st12 0 rfl rfl rfl Try.underlying97 rfl (by first | (rw [cw_len]; kernel_rfl) | (simp only [List.length_append, cw_len]; kernel_rfl)) ?_
  go_wp2_with (with_reducible refine wl_stop (o := ⟨some 54, _, _, _, _, _⟩) ?_)
  refine wl_loadS st12 2 rfl rfl rfl Try.underlying97 rfl (by first | (rw [cw_len]; kernel_rfl) | (simp only [List.length_append, cw_len]; kernel_rfl)) ?_
  go_wp2_with (with_reducible refine wl_stop (o := ⟨some 55, _, _, _, _, _⟩) ?_)
  refine wl_exec rfl (exec_eqlN HL1.out HL3.out rfl rfl rfl HEQ.out _) ?_
  have hfr := st12.fr
  clear st12
  go_wp2_with fail
  go_ret2
  exact ⟨rfl, hfr⟩

set_option maxHeartbeats 16000000 in
set_option maxRecDepth 1000000 in
theorem RExtract_v (m : Md) (hk : KindOf 1 m) (s1 : ByteArray) (s2 : ByteArray) (s3 : ByteArray) (s4 : ByteArray) (w : World) (rA rB rC rD : Nat) (ha1 : numB m s1.data.toList = true) (ha2 : numB m s2.data.toList = true) (ha3 : numB m s3.data.toList = true) (ha4 : numB m s4.data.toList = true) (heq : ((beN s1.data.toList) == (beN s3.data.toList)) = false) (hA : ((beN s2.data.toList) + (m.M - (beN s4.data.toList))) % m.M = rA) (hB : ((beN s1.data.toList) + (m.M - (beN s3.data.toList))) % m.M = rB) (hC : rB ^ (m.M - 2) % m.M = rC) (hD : rA * rC % m.M = rD) :
    Calls Try.prog 19 #[.string s1, .string s2, .string s3, .string s4] w fun e w' => e = .returned (.tuple #[.string (mkS (be32 rD)), .int .i64 0]) ∧ Fr Nob w w' := by
  have HK := Lib.hid hk
  have HOK := Lib.hid hk.ok
  clear hk
  have HA1 := Lib.hid ha1
  have HM1 := Lib.hid (numB_lt m _ ha1)
  have HL1 := Lib.hid (Nat.lt_trans (numB_lt m _ ha1) HOK.out.lt)
  have HA2 := Lib.hid ha2
  have HM2 := Lib.hid (numB_lt m _ ha2)
  have HL2 := Lib.hid (Nat.lt_trans (numB_lt m _ ha2) HOK.out.lt)
  have HA3 := Lib.hid ha3
  have HM3 := Lib.hid (numB_lt m _ ha3)
  have HL3 := Lib.hid (Nat.lt_trans (numB_lt m _ ha3) HOK.out.lt)
  have HA4 := Lib.hid ha4
  have HM4 := Lib.hid (numB_lt m _ ha4)
  have HL4 := Lib.hid (Nat.lt_trans (numB_lt m _ ha4) HOK.out.lt)
  have HM0 := Lib.hid (show 0 < m.M by have := HOK.out.one; omega)
  have HEQ := Lib.hid heq
  clear heq ha1 ha2 ha3 ha4
  have HRA := Lib.hid hA
  have HRB := Lib.hid hB
  have HRC := Lib.hid hC
  have HRD := Lib.hid hD
  have HLTA := Lib.hid (show rA < B64 ^ 4 by rw [← hA]; exact Nat.lt_trans (Nat.mod_lt _ HM0.out) HOK.out.lt)
  have HLTB := Lib.hid (show rB < B64 ^ 4 by rw [← hB]; exact Nat.lt_trans (Nat.mod_lt _ HM0.out) HOK.out.lt)
  have HLTC := Lib.hid (show rC < B64 ^ 4 by rw [← hC]; exact Nat.lt_trans (Nat.mod_lt _ HM0.out) HOK.out.lt)
  clear hA hB hC hD
  have st0 := St.start Nob w
  go_enter Try.func19, Try.ntmps19
  go_wp2_with fail
  refine (Scalar_t m HK.out s1 _ HA1.out).mono ?_
  rintro e' w1 ⟨rfl, hf1⟩
  have st1 := st0.keep hf1
  clear st0 hf1
  go_wp2_with (with_reducible refine wl_stop (o := ⟨some 10, _, _, _, _, _⟩) ?_)
  refine wl_allocS st1 rfl rfl (z := .agg #[.int .u64 0, .int .u64 0, .int .u64 0, .int .u64 0]) (by kernel_rfl) (cw 4 0) (by rw [cw_zero]; rfl) ?_
  intro g10 w2 st2
  clear st1
  go_wp2_with (with_reducible refine wl_stop (o := ⟨none, _, _, _, _, _⟩) ?_)
  refine wl_storeS st2 0 rfl rfl rfl rfl rfl (by first | (simp only [cw_len]; done) | (simp only [List.length_append, cw_len]; done)) (by first | (rw [cw_len]; kernel_rfl) | (simp only [List.length_append, cw_len]; kernel_rfl)) (cw_one _ _) ?_
  intro w3 st3
  clear st2
  go_wp2_with fail
  refine (Scalar_t m HK.out s2 _ HA2.out).mono ?_
  rintro e' w4 ⟨rfl, hf4⟩
  have st4 := st3.keep hf4
  clear st3 hf4
  go_wp2_with (with_reducible refine wl_stop (o := ⟨some 12, _, _, _, _, _⟩) ?_)
  refine wl_allocS st4 rfl rfl (z := .agg #[.int .u64 0, .int .u64 0, .int .u64 0, .int .u64 0]) (by kernel_rfl) (cw 4 0) (by rw [cw_zero]; rfl) ?_
  intro g12 w5 st5
  clear st4
  go_wp2_with (with_reducible refine wl_stop (o := ⟨none, _, _, _, _, _⟩) ?_)
  refine wl_storeS st5 1 rfl rfl rfl rfl rfl (by first | (simp only [cw_len]; done) | (simp only [List.length_append, cw_len]; done)) (by first | (rw [cw_len]; kernel_rfl) | (simp only [List.length_append, cw_len]; kernel_rfl)) (cw_one _ _) ?_
  intro w6 st6
  clear st5
  go_wp2_with fail
  refine (Scalar_t m HK.out s3 _ HA3.out).mono ?_
  rintro e' w7 ⟨rfl, hf7⟩
  have st7 := st6.keep hf7
  clear st6 hf7
  go_wp2_with (with_reducible refine wl_stop (o := ⟨some 14, _, _, _, _, _⟩) ?_)
  refine wl_allocS st7 rfl rfl (z := .agg #[.int .u64 0, .int .u64 0, .int .u64 0, .int .u64 0]) (by kernel_rfl) (cw 4 0) (by rw [cw_zero]; rfl) ?_
  intro g14 w8 st8
  clear st7
  go_wp2_with (with_reducible refine wl_stop (o := ⟨none, _, _, _, _, _⟩) ?_)
  refine wl_storeS st8 2 rfl rfl rfl rfl rfl (by first | (simp only [cw_len]; done) | (simp only [List.length_append, cw_len]; done)) (by first | (rw [cw_len]; kernel_rfl) | (simp only [List.length_append, cw_len]; kernel_rfl)) (cw_one _ _) ?_
  intro w9 st9
  clear st8
  go_wp2_with fail
  refine (Scalar_t m HK.out s4 _ HA4.out).mono ?_
  rintro e' w10 ⟨rfl, hf10⟩
  have st10 := st9.keep hf10
  clear st9 hf10
  go_wp2_with (with_reducible refine wl_stop (o := ⟨some 16, _, _, _, _, _⟩) ?_)
  refine wl_allocS st10 rfl rfl (z := .agg #[.int .u64 0, .int .u64 0, .int .u64 0, .int .u64 0]) (by kernel_rfl) (cw 4 0) (by rw [cw_zero]; rfl) ?_
  intro g16 w11 st11
  clear st10
  go_wp2_with (with_reducible refine wl_stop (o := ⟨none, _, _, _, _, _⟩) ?_)
  refine wl_storeS st11 3 rfl rfl rfl rfl rfl (by first | (simp only [cw_len]; done) | (simp only [List.length_append, cw_len]; done)) (by first | (rw [cw_len]; kernel_rfl) | (simp only [List.length_append, cw_len]; kernel_rfl)) (cw_one _ _) ?_
  intro w12 st12
  clear st11
  go_wp2_with (with_reducible refine wl_stop (o := ⟨some 53, _, _, _, _, _⟩) ?_)
  refine wl_loadS st12 0 rfl rfl rfl Try.underlying97 rfl (by first | (rw [cw_len]; kernel_rfl) | (simp only [List.length_append, cw_len]; kernel_rfl)) ?_
  go_wp2_with (with_reducible refine wl_stop (o := ⟨some 54, _, _, _, _, _⟩) ?_)
  refine wl_loadS st12 2 rfl rfl rfl Try.underlying97 rfl (by first | (rw [cw_len]; kernel_rfl) | (simp only [List.length_append, cw_len]; kernel_rfl)) ?_
  go_wp2_with (with_reducible refine wl_stop (o := ⟨some 55, _, _, _, _, _⟩) ?_)
  refine wl_exec rfl (exec_eqlN HL1.out HL3.out rfl rfl rfl HEQ.out _) ?_
  go_wp2_with fail
  refine (Q_any m HK.out _).mono ?_
  rintro e' w13 ⟨rfl, hf13⟩
  have st13 := st12.keep hf13
  clear st12 hf13
  go_wp2_with (with_reducible refine wl_stop (o := ⟨some 18, _, _, _, _, _⟩) ?_)
  refine wl_allocS st13 rfl rfl (z := .agg #[.int .u64 0, .int .u64 0, .int .u64 0, .int .u64 0, .int .u64 0, .int .u64 0, .int .u64 0, .int .u64 0]) (by kernel_rfl) (cw 8 0) (by rw [cw_zero]; rfl) ?_
  intro g18 w14 st14
  clear st13
  go_wp2_with (with_reducible refine wl_stop (o := ⟨none, _, _, _, _, _⟩) ?_)
  refine wl_storeS st14 4 rfl rfl rfl rfl rfl (by first | (simp only [cw_len]; done) | (simp only [List.length_append, cw_len]; done)) (by first | (rw [cw_len]; kernel_rfl) | (simp only [List.length_append, cw_len]; kernel_rfl)) (cw2_one _ _ _ _) ?_
  intro w15 st15
  clear st14
  go_wp2_with fail
  refine wp_region_noPanic ?_
  refine wp_region_plan (fun wx => St Nob w wx [(g10, cw 4 (beN s1.data.toList), 97), (g12, cw 4 (beN s2.data.toList), 97), (g14, cw 4 (beN s3.data.toList), 97), (g16, cw 4 (beN s4.data.toList), 97), (g18, cw 4 m.M ++ cw 4 (B64 ^ 4 - m.M), 101)]) 14 (.t 0 (.t 1 (.t 2 (.t 3 (.t 5 (.t 6 (.t 7 (.t 8 (.r 4 (.r 9 (.r 10 (.r 11 (.r 12 (.w 13 (.m 14 .nil))))))))))))))) (by kernel_rfl) (by kernel_rfl) st15.drew (fun _ _ _ _ _ h => h) ?_
  have hd15 := st15.drew
  clear st15
  refine plan_arr rfl rfl rfl rfl (cw 4 m.M ++ cw 4 (B64 ^ 4 - m.M)) (fun wx hS => St.rangeL hS 4 rfl 0 _ (by rw [List.drop_zero, List.take_of_length_le (Nat.le_refl _)])) Try.underlying101 rfl (by first | (rw [cw_len]; kernel_rfl) | (simp only [List.length_append, cw_len]; kernel_rfl)) ?_
  try simp only [Act.put, List.setIfInBounds_toArray, List.set_cons_zero, List.set_cons_succ]
  refine plan_arr rfl rfl rfl rfl (cw 4 m.M ++ cw 4 (B64 ^ 4 - m.M)) (fun wx hS => St.rangeL hS 4 rfl 0 _ (by rw [List.drop_zero, List.take_of_length_le (Nat.le_refl _)])) Try.underlying101 rfl (by first | (rw [cw_len]; kernel_rfl) | (simp only [List.length_append, cw_len]; kernel_rfl)) ?_
  try simp only [Act.put, List.setIfInBounds_toArray, List.set_cons_zero, List.set_cons_succ]
  refine plan_arr rfl rfl rfl rfl (cw 4 (beN s2.data.toList)) (fun wx hS => St.rangeL hS 1 rfl 0 _ (by rw [List.drop_zero, List.take_of_length_le (Nat.le_refl _)])) Try.underlying97 rfl (by first | (rw [cw_len]; kernel_rfl) | (simp only [List.length_append, cw_len]; kernel_rfl)) ?_
  try simp only [Act.put, List.setIfInBounds_toArray, List.set_cons_zero, List.set_cons_succ]
  refine plan_arr rfl rfl rfl rfl (cw 4 (beN s4.data.toList)) (fun wx hS => St.rangeL hS 3 rfl 0 _ (by rw [List.drop_zero, List.take_of_length_le (Nat.le_refl _)])) Try.underlying97 rfl (by first | (rw [cw_len]; kernel_rfl) | (simp only [List.length_append, cw_len]; kernel_rfl)) ?_
  try simp only [Act.put, List.setIfInBounds_toArray, List.set_cons_zero, List.set_cons_succ]
  refine plan_arr rfl rfl rfl rfl (cw 4 m.M ++ cw 4 (B64 ^ 4 - m.M)) (fun wx hS => St.rangeL hS 4 rfl 0 _ (by rw [List.drop_zero, List.take_of_length_le (Nat.le_refl _)])) Try.underlying101 rfl (by first | (rw [cw_len]; kernel_rfl) | (simp only [List.length_append, cw_len]; kernel_rfl)) ?_
  try simp only [Act.put, List.setIfInBounds_toArray, List.set_cons_zero, List.set_cons_succ]
  refine plan_arr rfl rfl rfl rfl (cw 4 m.M ++ cw 4 (B64 ^ 4 - m.M)) (fun wx hS => St.rangeL hS 4 rfl 0 _ (by rw [List.drop_zero, List.take_of_length_le (Nat.le_refl _)])) Try.underlying101 rfl (by first | (rw [cw_len]; kernel_rfl) | (simp only [List.length_append, cw_len]; kernel_rfl)) ?_
  try simp only [Act.put, List.setIfInBounds_toArray, List.set_cons_zero, List.set_cons_succ]
  refine plan_arr rfl rfl rfl rfl (cw 4 (beN s1.data.toList)) (fun wx hS => St.rangeL hS 0 rfl 0 _ (by rw [List.drop_zero, List.take_of_length_le (Nat.le_refl _)])) Try.underlying97 rfl (by first | (rw [cw_len]; kernel_rfl) | (simp only [List.length_append, cw_len]; kernel_rfl)) ?_
  try simp only [Act.put, List.setIfInBounds_toArray, List.set_cons_zero, List.set_cons_succ]
  refine plan_arr rfl rfl rfl rfl (cw 4 (beN s3.data.toList)) (fun wx hS => St.rangeL hS 2 rfl 0 _ (by rw [List.drop_zero, List.take_of_length_le (Nat.le_refl _)])) Try.underlying97 rfl (by first | (rw [cw_len]; kernel_rfl) | (simp only [List.length_append, cw_len]; kernel_rfl)) ?_
  try simp only [Act.put, List.setIfInBounds_toArray, List.set_cons_zero, List.set_cons_succ]
  refine plan_r rfl rfl ?_
  go_simp
  refine (Sub_v m.M _ _ rA _ HM0.out HOK.out.lt HL2.out HL4.out (Nat.le_of_lt HM4.out) HRA.out).mono ?_
  rintro e' w16 ⟨rfl, hf16⟩
  have st16 := hd15.keep hf16
  clear hf16
  clear hd15
  refine ⟨st16, ?_⟩
  try simp only [Act.put, List.setIfInBounds_toArray, List.set_cons_zero, List.set_cons_succ]
  refine plan_r rfl rfl ?_
  go_simp
  refine (Sub_v m.M _ _ rB _ HM0.out HOK.out.lt HL1.out HL3.out (Nat.le_of_lt HM3.out) HRB.out).mono ?_
  rintro e' w17 ⟨rfl, hf17⟩
  have st17 := st16.keep hf17
  clear hf17
  clear st16
  refine ⟨st17, ?_⟩
  try simp only [Act.put, List.setIfInBounds_toArray, List.set_cons_zero, List.set_cons_succ]
  refine plan_r rfl rfl ?_
  go_simp
  refine (Inv_v m.M rB rC _ HOK.out.one HOK.out.lt HLTB.out HRC.out).mono ?_
  rintro e' w18 ⟨rfl, hf18⟩
  have st18 := st17.keep hf18
  clear hf18
  clear st17
  refine ⟨st18, ?_⟩
  try simp only [Act.put, List.setIfInBounds_toArray, List.set_cons_zero, List.set_cons_succ]
  refine plan_r rfl rfl ?_
  go_simp
  refine (Mul_v m.M rA rC rD _ HM0.out HOK.out.lt HLTA.out HLTC.out HRD.out).mono ?_
  rintro e' w19 ⟨rfl, hf19⟩
  have st19 := st18.keep hf19
  clear hf19
  clear st18
  refine ⟨st19, ?_⟩
  try simp only [Act.put, List.setIfInBounds_toArray, List.set_cons_zero, List.set_cons_succ]
  refine plan_r rfl rfl ?_
  go_simp
  refine (RBytes_any rD _).mono ?_
  rintro e' w20 ⟨rfl, hf20⟩
  have st20 := st19.keep hf20
  clear hf20
  clear st19
  refine ⟨st20, ?_⟩
  try simp only [Act.put, List.setIfInBounds_toArray, List.set_cons_zero, List.set_cons_succ]
  refine plan_w (v := ?_) rfl rfl (fun wx => ?_) ?_
  rotate_left 1
  · (go_simp; with_reducible rfl)
  try simp only [Act.put, List.setIfInBounds_toArray, List.set_cons_zero, List.set_cons_succ]
  refine plan_m rfl rfl ?_
  go_simp
  try simp only [Act.put, List.setIfInBounds_toArray, List.set_cons_zero, List.set_cons_succ]
  refine plan_end ?_
  refine NoPanic.normal ?_
  have hfr := st20.fr
  clear st20
  go_wp2_with fail
  go_ret2
  exact ⟨rfl, hfr⟩

set_option maxHeartbeats 16000000 in
set_option maxRecDepth 1000000 in
theorem RExtract_ok (m : Md) (hk : KindOf 1 m) (s1 : ByteArray) (s2 : ByteArray) (s3 : ByteArray) (s4 : ByteArray) (w : World) (ha1 : numB m s1.data.toList = true) (ha2 : numB m s2.data.toList = true) (ha3 : numB m s3.data.toList = true) (ha4 : numB m s4.data.toList = true) (heq : ((beN s1.data.toList) == (beN s3.data.toList)) = false) :
    Calls Try.prog 19 #[.string s1, .string s2, .string s3, .string s4] w fun e w' => e = .returned (.tuple #[.string (mkS (be32 (secN m.M (beN s1.data.toList) (beN s2.data.toList) (beN s3.data.toList) (beN s4.data.toList)))), .int .i64 0]) ∧ Fr Nob w w' := by
  have h := RExtract_v m hk s1 s2 s3 s4 w _ _ _ _ ha1 ha2 ha3 ha4 heq rfl rfl rfl rfl
  rw [Nat.mul_mod_mod, sec_same _ _ _ _ _ (numB_lt m _ ha3) (numB_lt m _ ha4)] at h
  exact h
end Go.Proofs.Ytnooojkhnpcolaa

/- The law SigmaExtracts. -/
namespace Mvp
def exE (m : Md) (l1 l2 l3 l4 : List UInt8) : Nat := if numsB m [l1, l2, l3, l4] = true then (if (beN l1 == beN l3) = true then 6 else 0) else 3
def exS (m : Md) (l1 l2 l3 l4 : List UInt8) : List UInt8 := if numsB m [l1, l2, l3, l4] = true then (if (beN l1 == beN l3) = true then [] else be32 (secN m.M (beN l1) (beN l2) (beN l3) (beN l4))) else []
end Mvp
namespace Go.Proofs.Ytnooojkhnpcolaa
open Go.RowKit Go.Mv Mvp
theorem RdB.none0 (w : World) (a : Option Addr) : RdB w a 0 [] := ⟨rfl, .inl rfl⟩
theorem Extract_all (m : Md) (hk : KindOf 1 m) (v1 : Value) (l1 : List UInt8) (v2 : Value) (l2 : List UInt8) (v3 : Value) (l3 : List UInt8) (v4 : Value) (l4 : List UInt8) (w : World) (h1 : BPart w v1 l1) (h2 : BPart w v2 l2) (h3 : BPart w v3 l3) (h4 : BPart w v4 l4) :
    Calls Try.prog 18 #[v1, v2, v3, v4] w fun e w' => ∃ a n c, e = .returned (.tuple #[.slice a n c, .int .i64 (exE m l1 l2 l3 l4 : Nat)]) ∧ RdB w' a n (exS m l1 l2 l3 l4) ∧ Fr Nob w w' := by
  cases hg : numsB m [l1, l2, l3, l4]
  · refine (Extract_bad m hk v1 l1 v2 l2 v3 l3 v4 l4 w h1 h2 h3 h4 hg).mono fun e w' h => ?_
    refine ⟨none, 0, 0, ?_, ?_, h.2⟩
    · rw [h.1]; simp [exE, hg]
    · simp only [exS, hg]; exact RdB.none0 _ _
  · have hn := hg
    unfold numsB at hn
    simp only [List.all_cons, List.all_nil, Bool.and_true, Bool.and_eq_true] at hn
    have e1 : (beN l1 % m.M == beN l3 % m.M) = (beN l1 == beN l3) := by rw [Nat.mod_eq_of_lt (numB_lt m _ hn.1), Nat.mod_eq_of_lt (numB_lt m _ hn.2.2.1)]
    cases he : (beN l1 == beN l3)
    · refine (Extract_ok m hk v1 l1 v2 l2 v3 l3 v4 l4 w h1 h2 h3 h4 hg (by rw [e1, he])).mono fun e w' h => ?_
      obtain ⟨a, c, h5, h6, h7⟩ := h
      refine ⟨a, 32, c, ?_, ?_, h7⟩
      · rw [h5]; simp only [exE, hg, he]; rfl
      · simp only [exS, hg, he]; exact h6
    · refine (Extract_none m hk v1 l1 v2 l2 v3 l3 v4 l4 w h1 h2 h3 h4 hg (by rw [e1, he])).mono fun e w' h => ?_
      refine ⟨none, 0, 0, ?_, ?_, h.2⟩
      · rw [h.1]; simp only [exE, hg, he]; rfl
      · simp only [exS, hg, he]; exact RdB.none0 _ _
theorem RExtract_all (m : Md) (hk : KindOf 1 m) (s1 s2 s3 s4 : ByteArray) (w : World) :
    Calls Try.prog 19 #[.string s1, .string s2, .string s3, .string s4] w fun e w' => e = .returned (.tuple #[.string (mkS (exS m s1.data.toList s2.data.toList s3.data.toList s4.data.toList)), .int .i64 (exE m s1.data.toList s2.data.toList s3.data.toList s4.data.toList : Nat)]) ∧ Fr Nob w w' := by
  have hn : numsB m [s1.data.toList, s2.data.toList, s3.data.toList, s4.data.toList] = (numB m s1.data.toList && (numB m s2.data.toList && (numB m s3.data.toList && numB m s4.data.toList))) := by
    unfold numsB; simp only [List.all_cons, List.all_nil, Bool.and_true]
  have hbad : numsB m [s1.data.toList, s2.data.toList, s3.data.toList, s4.data.toList] = false → (Value.tuple #[.string (mkS (exS m s1.data.toList s2.data.toList s3.data.toList s4.data.toList)), .int .i64 (exE m s1.data.toList s2.data.toList s3.data.toList s4.data.toList : Nat)]) = .tuple #[.string ⟨#[]⟩, .int .i64 3] := fun h => by
    simp only [exS, exE, h]; rfl
  cases h1 : numB m s1.data.toList
  · exact (RExtract_bad1 m hk s1 s2 s3 s4 w h1).mono fun e w' h => ⟨by rw [h.1, hbad (by rw [hn, h1]; rfl)], h.2⟩
  cases h2 : numB m s2.data.toList
  · exact (RExtract_bad2 m hk s1 s2 s3 s4 w h1 h2).mono fun e w' h => ⟨by rw [h.1, hbad (by rw [hn, h1, h2]; rfl)], h.2⟩
  cases h3 : numB m s3.data.toList
  · exact (RExtract_bad3 m hk s1 s2 s3 s4 w h1 h2 h3).mono fun e w' h => ⟨by rw [h.1, hbad (by rw [hn, h1, h2, h3]; rfl)], h.2⟩
  cases h4 : numB m s4.data.toList
  · exact (RExtract_bad4 m hk s1 s2 s3 s4 w h1 h2 h3 h4).mono fun e w' h => ⟨by rw [h.1, hbad (by rw [hn, h1, h2, h3, h4]; rfl)], h.2⟩
  rw [h1, h2, h3, h4] at hn
  cases he : (beN s1.data.toList == beN s3.data.toList)
  · exact (RExtract_ok m hk s1 s2 s3 s4 w h1 h2 h3 h4 he).mono fun e w' h => ⟨by rw [h.1]; simp only [exS, exE, hn, he]; rfl, h.2⟩
  · exact (RExtract_none m hk s1 s2 s3 s4 w h1 h2 h3 h4 he).mono fun e w' h => ⟨by rw [h.1]; simp only [exS, exE, hn, he]; rfl, h.2⟩
theorem BPart.ofOwn {w : World} {base : Nat} {v : Value} {n : Nat} {l : List UInt8} (h : Own w base 5 1 v n (bs l)) : BPart w v l := by
  obtain ⟨a, c, rfl, hc, hr, -⟩ := h.form
  exact ⟨a, n, c, rfl, hc, by rw [Nat.mul_one] at hr; exact hr⟩
attribute [local irreducible] limbs lw mix cw cSub cAdd cMul foldC valFrom beN laid be32 powm montT mstep elN mdL elCells numsB numB secN exE exS

set_option maxHeartbeats 16000000 in
set_option maxRecDepth 1000000 in
theorem law_SigmaExtracts_k (m : Md) (hk : KindOf 1 m) (s1 s2 s3 s4 : ByteArray) (w : World) (h1 : s1.size ≤ 4096) (h2 : s2.size ≤ 4096) (h3 : s3.size ≤ 4096) (h4 : s4.size ≤ 4096) :
    Calls Try.prog 4 #[.string s1, .string s2, .string s3, .string s4] w fun e w' => e = .returned (.bool true) ∧ Fr Nob w w' := by
  have HK := Lib.hid hk
  clear hk
  have hI1 : ¬ ((4096 : Int) < (s1.size : Int)) := by omega
  have hI2 : ¬ ((4096 : Int) < (s2.size : Int)) := by omega
  have hI3 : ¬ ((4096 : Int) < (s3.size : Int)) := by omega
  have hI4 : ¬ ((4096 : Int) < (s4.size : Int)) := by omega
  have HS1 := Lib.hid h1
  have HS2 := Lib.hid h2
  have HS3 := Lib.hid h3
  have HS4 := Lib.hid h4
  clear h1 h2 h3 h4
  go_enter Try.func4, Try.ntmps4
  go_wp2_with (with_reducible refine wl_stop (o := ⟨some 33, _, _, _, _, _⟩) ?_)
  refine wl_bytes (q := s1) rfl rfl Try.underlying9 Try.underlying22 Try.underlying5 rfl (by have := HS1.out; unfold maxLen; omega) w.heap.size (Nat.le_refl _) ?_
  intro cap1 w1 hown1 hf1 hz1
  clear hz1
  have HP1 := Lib.hid (BPart.ofOwn hown1)
  have HF1 := Lib.hid hf1
  clear hown1 hf1
  generalize w.heap.size = g1 at *
  go_wp2_with (with_reducible refine wl_stop (o := ⟨some 35, _, _, _, _, _⟩) ?_)
  refine wl_bytes (q := s2) rfl rfl Try.underlying9 Try.underlying22 Try.underlying5 rfl (by have := HS2.out; unfold maxLen; omega) w1.heap.size (Nat.le_refl _) ?_
  intro cap2 w2 hown2 hf2 hz2
  clear hz2
  have HP2 := Lib.hid (BPart.ofOwn hown2)
  have HP1n := Lib.hid (HP1.out.still hf2)
  clear HP1
  have HP1 := HP1n
  clear HP1n
  have HF2 := Lib.hid (HF1.out.then hf2)
  clear HF1
  clear hown2 hf2
  generalize w1.heap.size = g2 at *
  go_wp2_with (with_reducible refine wl_stop (o := ⟨some 37, _, _, _, _, _⟩) ?_)
  refine wl_bytes (q := s3) rfl rfl Try.underlying9 Try.underlying22 Try.underlying5 rfl (by have := HS3.out; unfold maxLen; omega) w2.heap.size (Nat.le_refl _) ?_
  intro cap3 w3 hown3 hf3 hz3
  clear hz3
  have HP3 := Lib.hid (BPart.ofOwn hown3)
  have HP1n := Lib.hid (HP1.out.still hf3)
  clear HP1
  have HP1 := HP1n
  clear HP1n
  have HP2n := Lib.hid (HP2.out.still hf3)
  clear HP2
  have HP2 := HP2n
  clear HP2n
  have HF3 := Lib.hid (HF2.out.then hf3)
  clear HF2
  clear hown3 hf3
  generalize w2.heap.size = g3 at *
  go_wp2_with (with_reducible refine wl_stop (o := ⟨some 39, _, _, _, _, _⟩) ?_)
  refine wl_bytes (q := s4) rfl rfl Try.underlying9 Try.underlying22 Try.underlying5 rfl (by have := HS4.out; unfold maxLen; omega) w3.heap.size (Nat.le_refl _) ?_
  intro cap4 w4 hown4 hf4 hz4
  clear hz4
  have HP4 := Lib.hid (BPart.ofOwn hown4)
  have HP1n := Lib.hid (HP1.out.still hf4)
  clear HP1
  have HP1 := HP1n
  clear HP1n
  have HP2n := Lib.hid (HP2.out.still hf4)
  clear HP2
  have HP2 := HP2n
  clear HP2n
  have HP3n := Lib.hid (HP3.out.still hf4)
  clear HP3
  have HP3 := HP3n
  clear HP3n
  have HF4 := Lib.hid (HF3.out.then hf4)
  clear HF3
  clear hown4 hf4
  generalize w3.heap.size = g4 at *
  go_wp2_with fail
  refine (Extract_all m HK.out _ s1.data.toList _ s2.data.toList _ s3.data.toList _ s4.data.toList _ HP1.out HP2.out HP3.out HP4.out).mono ?_
  rintro e w5 ⟨a, n, c, rfl, hr, hf5⟩
  have HR := Lib.hid hr
  have HF5 := Lib.hid (HF4.out.then hf5)
  clear hr hf5 HF4 HP1 HP2 HP3 HP4
  have hr0 := RExtract_all m HK.out s1 s2 s3 s4
  generalize exS m s1.data.toList s2.data.toList s3.data.toList s4.data.toList = xs at *
  generalize exE m s1.data.toList s2.data.toList s3.data.toList s4.data.toList = xe at *
  have HR0 := Lib.hid hr0
  clear hr0
  go_wp2_with fail
  refine (HR0.out _).mono ?_
  rintro e w6 ⟨rfl, hf6⟩
  have hc := run_string (P := Try.prog) (HR.out.still hf6) c Try.underlying22 Try.underlying5 Try.underlying9
  have HF6 := Lib.hid (HF5.out.then hf6)
  clear hf6 HF5 HR0 HR
  generalize mkS xs = q at *
  go_wp2_with fail
  go_ret
  exact ⟨rfl, HF6.out⟩

set_option maxHeartbeats 16000000 in
set_option maxRecDepth 1000000 in
theorem law_SigmaExtracts (s1 s2 s3 s4 : ByteArray) (w : World) :
    Calls Try.prog 4 #[.string s1, .string s2, .string s3, .string s4] w fun e w' => e = .returned (.bool true) ∧ Fr Nob w w' := by
  by_cases h1 : 4096 < s1.size
  · have hJ : (4096 : Int) < (s1.size : Int) := by omega
    go_enter Try.func4, Try.ntmps4
    go_wp2
    go_ret
    exact ⟨rfl, Fr.refl _ _⟩
  by_cases h2 : 4096 < s2.size
  · have hI1 : ¬ ((4096 : Int) < (s1.size : Int)) := by omega
    have hJ : (4096 : Int) < (s2.size : Int) := by omega
    go_enter Try.func4, Try.ntmps4
    go_wp2
    go_ret
    exact ⟨rfl, Fr.refl _ _⟩
  by_cases h3 : 4096 < s3.size
  · have hI1 : ¬ ((4096 : Int) < (s1.size : Int)) := by omega
    have hI2 : ¬ ((4096 : Int) < (s2.size : Int)) := by omega
    have hJ : (4096 : Int) < (s3.size : Int) := by omega
    go_enter Try.func4, Try.ntmps4
    go_wp2
    go_ret
    exact ⟨rfl, Fr.refl _ _⟩
  by_cases h4 : 4096 < s4.size
  · have hI1 : ¬ ((4096 : Int) < (s1.size : Int)) := by omega
    have hI2 : ¬ ((4096 : Int) < (s2.size : Int)) := by omega
    have hI3 : ¬ ((4096 : Int) < (s3.size : Int)) := by omega
    have hJ : (4096 : Int) < (s4.size : Int) := by omega
    go_enter Try.func4, Try.ntmps4
    go_wp2
    go_ret
    exact ⟨rfl, Fr.refl _ _⟩
  exact law_SigmaExtracts_k mQ .one s1 s2 s3 s4 w (by omega) (by omega) (by omega) (by omega)
end Go.Proofs.Ytnooojkhnpcolaa

/- From a walk that turns nothing (Fr Nob) to what a law's row asks behind the call. -/
namespace Go.Mv
open Go.RowKit Go.ChangeShapes Go.WideShapes

/-- the arguments read behind the call as they read before -/
theorem Below.trodAll {H : Type} {enc : TypeId × Value → H} {P : Program} (hl : laidOutB P = true) {W W' : World} (hb : Below W.heap.size W W') :
    ∀ (ts : List TypeId) (vs : List Value) (ds : List (DataW H)) (ps : List MemPlace), (∀ t ∈ ts, P.readableRec t = true ∧ t < P.types.size) → DataW.TrodAll enc P W 0 (fun _ => true) true ts vs ds ps → (∀ x ∈ ps, x.block < W.heap.size) →
      DataW.TrodAll enc P W' 0 (fun b => decide (b < W.heap.size)) true ts vs ds ps
  | [], vs, ds, ps, _, h, _ => by
    obtain ⟨rfl, rfl, rfl⟩ := trodAll_nil h
    exact trodAll_mk0
  | t :: ts, vs, ds, ps, hr, h, hlt => by
    obtain ⟨v, vs', d, ds', p, q, rfl, rfl, rfl, h0, hs⟩ := trodAll_cons h
    have h1 := hr t (by simp)
    exact trodAll_cons_mk (Below.trod hl h1.1 h1.2 h0 hb (fun x hx => hlt x (by simp [hx]))) (Below.trodAll hl hb ts vs' ds' q (fun t ht => hr t (by simp [ht])) hs (fun x hx => hlt x (by simp [hx])))

/-- what a law's row asks behind the call -/
theorem law_post {H : Type} {enc : TypeId × Value → H} {P : Program} {f : Func} {s : ChangeSpec} {W W' : World} {args : Array Value} {ds gs : List (DataW H)} {before : List MemPlace}
    (hl : laidOutB P = true) (hr : ∀ t ∈ f.params.toList, P.readableRec t = true ∧ t < P.types.size) (hW : DataW.Whole enc P f.params.toList s.vars false W args.toList ds gs before)
    (hv : s.vars = []) (hres : (s.fn H (ds ++ gs)).results = [.lit (.bool true)]) (harg : (s.fn H (ds ++ gs)).args = ds) (hvar : (s.fn H (ds ++ gs)).vars = [])
    {tb : TypeId} (hrt : f.resultTypes = #[tb]) (hu : P.underlying tb = some .bool) (hf : Fr Nob W W') :
    s.post enc P f false true false false W args (.bool true) W' := by
  have hW' := hW
  obtain ⟨p, q, hA, hV, rfl, hfz, hnd⟩ := hW
  rw [hv] at hV
  obtain ⟨rfl, rfl⟩ := trodVars_none hV
  have hlt : ∀ x ∈ p ++ [], x.block < W.heap.size := fun x hx => hW'.lt x hx
  refine ⟨ds, [], p ++ [], [], p, [], hW', ?_, ?_, ?_, World.keptBut_mono (fun x hx => ⟨hx, ?_⟩) (hf.below.frame (· ∈ p ++ [])), fun h => by cases h⟩
  · rw [hres, hrt]
    exact trodAll_mk1 (shut_bool hu true)
  · rw [harg]
    exact Below.trodAll hl hf.below _ _ _ _ hr hA (fun x hx => hlt x (by simp [hx]))
  · rw [hvar, hv]; exact rfl
  · simp only [List.append_nil] at hx
    exact .inr (.inl hx)
end Go.Mv

/- Arguments that were handed in, opened into the words of Mem. -/
namespace Go.Mv
open Go.RowKit Go.ChangeShapes Go.WideShapes

/-- strings as values -/
def ss (l : List (List UInt8)) : List Value := l.map fun x => .string (mkS x)
theorem ss_len (l : List (List UInt8)) : (ss l).length = l.length := by simp [ss]
theorem ss_get (l : List (List UInt8)) (i : Nat) (hi : i < l.length) : (ss l)[i]? = some (.string (mkS (l.getD i []))) := by
  simp [ss, List.getD_eq_getElem?_getD, hi]

section
variable {H : Type} {enc : TypeId × Value → H} {P : Program} {w : World} {base : Nat} {held : Bool} {spare : Nat → Bool}
theorem weightsAll_mem {e : TypeId} : ∀ {ds : List (DataW H)} {d : DataW H}, d ∈ ds → ∀ n ∈ d.weights P e, n ∈ DataW.weightsAll P e ds
  | [], _, h, _, _ => by simp at h
  | d0 :: ds, d, h, n, hn => by
    simp only [DataW.weightsAll, List.mem_append]
    rcases List.mem_cons.1 h with rfl | h
    · exact .inl hn
    · exact .inr (weightsAll_mem h n hn)
theorem reach_string {ts : List TypeId} {ds : List (DataW H)} (h : (DataW.weightsEach P ts ds).all (· ≤ reachBytes) = true) {j : Nat} {t : TypeId} {s : ByteArray} (ht : ts[j]? = some t) (hd : ds[j]? = some (.lit (.string s.data.toList))) : s.size ≤ 140737488351232 := by
  have := sized_string h ht hd
  have e : s.data.toList.length = s.size := by simp
  have hr : reachBytes = 140737488351232 := rfl
  omega

theorem i64_wf {n : Int} (h : (Lit.int .i64 n).wf = true) : -9223372036854775808 ≤ n ∧ n ≤ 9223372036854775807 := by
  simpa [Lit.wf, IntKind.min, IntKind.max, IntKind.signed, IntKind.bits] using h
/-- a slice of strings that came in -/
theorem open_ss {ts : List TypeId} {ds : List (DataW H)} {j : Nat} {t e : TypeId} {v : Value} {d : DataW H} {ps : List MemPlace} (ht : P.underlying t = some (.slice e)) (he : P.underlying e = some .string) (hc : P.cellsOf e = 1) (hby : P.bytesOf e = 16)
    (hv : Value.okWide P w .any base t v) (h : DataW.Trod enc P w 0 spare held t v d ps) (hz : (DataW.weightsEach P ts ds).all (· ≤ reachBytes) = true) (htj : ts[j]? = some t) (hdj : ds[j]? = some d) :
    ∃ a c ls, v = .slice a ls.length c ∧ Rd w a ls.length (ss ls) ∧ (∀ x ∈ ls, x.length ≤ 140737488351232) ∧ ls.length ≤ 9223372036854775807 ∧ ls.length * 16 ≤ 140737488351232 ∧ ls.length ≤ c := by
  obtain ⟨a0, len, cap, rfl⟩ := okWide_slice ht hv
  obtain ⟨fuel, hf⟩ := h
  have hr : reachBytes = 140737488351232 := rfl
  rcases open_strings ht he hc hf with ⟨hcs, hx⟩ | ⟨a, len', cap', sl, hcs, _, hl, hm, hzl, hx, hcell, hsz⟩
  · simp only [Value.cells] at hcs
    simp only [List.cons.injEq, and_true, Value.slice.injEq] at hcs
    obtain ⟨rfl, rfl, rfl⟩ := hcs
    exact ⟨none, 0, [], rfl, Rd.nil _ _, by simp, by simp, by simp, by simp⟩
  · simp only [Value.cells] at hcs
    simp only [List.cons.injEq, and_true, Value.slice.injEq] at hcs
    obtain ⟨rfl, rfl, rfl⟩ := hcs
    simp only [Prod.mk.injEq] at hx
    obtain ⟨rfl, -⟩ := hx
    have hlen : (sl.take len).length = len := by
      rw [List.length_take, hzl]; split <;> omega
    have hlsl : len ≤ sl.length := by rw [hzl]; split <;> omega
    have hW := sized_slice hz htj hdj ht
    rw [hby, strs, strs, List.length_map, List.length_map, hr] at hW
    refine ⟨some a, cap, (sl.take len).map fun s => s.data.toList, by rw [List.length_map, hlen], ⟨by simp [ss], ?_⟩, ?_, ?_, ?_, ?_⟩
    · rcases Nat.eq_zero_or_pos len with h0 | h0
      · exact .inl (by simp [hlen, h0])
      · right
        obtain ⟨b, o, spot⟩ := a
        have hspot : spot = none := by simpa [Addr.add] using World.cell?_spot (hcell 0 (by omega))
        subst hspot
        refine ⟨b, o, rfl, ?_⟩
        intro i v hv
        have hi : i < len := by
          rcases Nat.lt_or_ge i len with k | k
          · exact k
          · rw [List.getElem?_eq_none (by simp [ss]; omega)] at hv; cases hv
        have h1 := hcell i (by omega)
        rw [addr_add] at h1
        have h2 : (ss ((sl.take len).map fun s => s.data.toList))[i]? = some (.string (sl.getD i ByteArray.empty)) := by
          have : i < sl.length := by omega
          simp [ss, List.getElem?_take, hi, List.getD_eq_getElem?_getD, List.getElem?_eq_getElem this, mkS_data]
        rw [h2] at hv
        cases hv
        exact h1
    · intro x hx
      simp only [List.mem_map] at hx
      obtain ⟨s, hs, rfl⟩ := hx
      have hmem : (DataW.lit (.string s.data.toList) : DataW H) ∈ strs (H := H) (sl.take len) := by
        simp only [strs, List.mem_map]; exact ⟨s, hs, rfl⟩
      have hn : s.data.toList.length ∈ DataW.weightsEach P ts ds := by
        refine DataW.weights_mem_each htj hdj _ ?_
        simp only [DataW.weights, ht, List.mem_cons, List.mem_append]
        exact .inr (.inl (weightsAll_mem hmem _ (by simp [DataW.weights])))
      have := List.all_eq_true.1 hz _ hn
      rw [hr] at this
      simpa using this
    · simp only [maxLen] at hm; simp; omega
    · simp only [List.length_map]; omega
    · simp only [List.length_map]; omega
end
end Go.Mv
