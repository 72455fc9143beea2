/- The reference's Sqrt; The law NumRoots; num's operations between numbers told as 32 bytes; a list of such values kept; num.Dot: what it answers; Pure sponge: what the program's and the reference's permutation compute, and that the two are one; word functions of the sponge; the constants of the rounds, and how far the lanes are turned; how far the lanes are turned; the state: bytes are added, and given; the state's bytes; Permute; the permutation of the program; the reference's round; Pure sponge: the permutation of bytes, both ways; Permute, the program's and the reference's; Permute of the reference; Pure sponge: bytes are fed one by one; the sponge and what is hashed with it; Pure sponge: words and their bytes are one; absorber.write; The reference's sponge, on bytes: what it computes is the sponge on words; The reference's sponge; absorber.out, and what hashes with it; absorber.frame; the reference's Frame; Hash, stream and Stream of the sponge; sponge.tag and sponge.Tag; mintvaultlaw1.SpongeTurns: the walk of the law; The reference's Hash and Stream; the law SpongeHashes; Arguments that were handed in, opened into the words of Mem. -/
import Derived.Test.YtmegaegedlbckaaMgNumLawsProof4
import Derived.Test.YtmegaegedlbckaaMgNumLawsProof2
import Derived.Test.YtmegaegedlbckaaMgNumLawsProof5
import Derived.KernelRfl
import Derived.Test.YtmegaegedlbckaaMgNumLawsProof1
import Derived.Test.YtmegaegedlbckaaMgNumLawsProof3
import Derived.SliceStrings
import Derived.SizedLaws
import Derived.OpenShut
import Derived.ProofKit
namespace Mvp
theorem low_one (Q : Nat) (h : lw Q 0 + 1 < 18446744073709551616) : (limbs 4 Q).set 0 (lw Q 0 + 1) = limbs 4 (Q + 1) := by
  rw [limbs4, limbs4]
  have e0 : lw (Q + 1) 0 = lw Q 0 + 1 := by rw [word0] at h ⊢; rw [word0]; omega
  have e : (Q + 1) / 18446744073709551616 = Q / 18446744073709551616 := by rw [word0] at h; omega
  have ed : ∀ i, lw (Q + 1) (1 + i) = lw Q (1 + i) := by
    intro i
    rw [← lw_div, ← lw_div, Nat.pow_one, show B64 = 18446744073709551616 from rfl, e]
  have e1 := ed 0
  have e2 := ed 1
  have e3 := ed 2
  simp only [Nat.add_zero] at e1
  rw [e0, e1, show (2 : Nat) = 1 + 1 from rfl, show (3 : Nat) = 1 + 2 from rfl, e2, e3]
  rfl
theorem quarter_all (p : Nat) (h : p < B64 ^ 4) : p / 4 % 2 ^ 254 = p / 4 := Nat.mod_eq_of_lt (by
  rw [show B64 ^ 4 = 2 ^ 254 * 4 from rfl] at h
  generalize 2 ^ 254 = z at *
  omega)
end Mvp
namespace Go.Proofs.Ytmegaegedlbckaa
open Go.RowKit Go.Mv Mvp
theorem bit_cell (q b k q' : Nat) (hb : b < 2) (hs : (limbs 4 q).set (k / 64) (lw q (k / 64) ||| b * 2 ^ (k % 64)) = limbs 4 q') :
    (cw 4 q).set (k / 64) (.int .u64 (bits .or .u64 (lw q (k / 64) : Nat) (IntKind.u64.wrap ((b : Int) * 2 ^ (k % 64))))) = cw 4 q' := by
  have h1 : b * 2 ^ (k % 64) < 18446744073709551616 := by
    have h2 : 2 ^ (k % 64) ≤ 2 ^ 63 := Nat.pow_le_pow_right (by decide) (by omega)
    have h3 := Nat.mul_le_mul_right (2 ^ (k % 64)) (show b ≤ 1 by omega)
    rw [Nat.one_mul] at h3
    have h4 : (2 : Nat) ^ 63 = 9223372036854775808 := by decide
    rw [h4] at h2
    generalize 2 ^ (k % 64) = z at *
    generalize b * z = y at *
    omega
  have h := bits_or_u64_nat (lw q (k / 64)) (b * 2 ^ (k % 64)) (lw_lt _ _) h1
  have hw : IntKind.u64.wrap ((b : Int) * 2 ^ (k % 64)) = ((b * 2 ^ (k % 64) : Nat) : Int) := by
    rw [show ((b : Int) * 2 ^ (k % 64)) = ((b * 2 ^ (k % 64) : Nat) : Int) by rw [Int.natCast_mul, Int.natCast_pow]; rfl, IntKind.wrap_u64]
    exact congrArg Int.ofNat (Nat.mod_eq_of_lt h1)
  rw [hw, h, cw, us_set, hs, cw]
theorem low_cells (Q : Nat) (h : lw Q 0 + 1 < 18446744073709551616) : (cw 4 Q).set 0 (.int .u64 ((lw Q 0 : Int) + 1)) = cw 4 (Q + 1) := by
  show (us (limbs 4 Q)).set 0 (.int .u64 ((lw Q 0 + 1 : Nat) : Int)) = us (limbs 4 (Q + 1))
  rw [us_set, low_one Q h]
theorem wp_neq4 (x y : Nat) (hx : x < B64 ^ 4) (hy : y < B64 ^ 4) (ty : TypeId) (hu : Try.prog.underlying ty = some (.array 4 36)) (hg : Try.prog.eqGuardType Try.prog.depth ty = false) {o : Oper} {a : Act} {w : World} {K : Act → World → Prop} {Q : Exit → Act → World → Prop} {p q : Operand} {T : TypeId}
    (ho : o.op = .binOp .neq ty p q T) (hp : a.eval p = i4 x) (hq : a.eval q = .agg (cw 4 y).toArray) {b : Bool} (hb : decide (x = y) = b) (hk : K (a.put o.dst (.bool !b)) w) : o.wp Try.prog a w K Q := by
  have h1 := eq_guard x y ty hg p q w
  have h2 : (binOp .neq ty (i4 x) (.agg (cw 4 y).toArray)).run Try.prog w = .ok (.bool !b) w := by
    show (do pure (Value.bool (!(← Op.equal ty (.agg (cw 4 x).toArray) (.agg (cw 4 y).toArray))))).run Try.prog w = _
    simp only [Sem.run_bind, run_eq4 hu Try.underlying36 size_u64 x y w, Result.andThen_ok]
    rw [Nat.mod_eq_of_lt hx, Nat.mod_eq_of_lt hy, hb]
    rfl
  unfold Oper.wp execOp
  simp only [ho, hp, hq, Sem.run_bind, h1, h2, Result.andThen_ok, Sem.run_pure]
  exact hk
attribute [local irreducible] limbs lw mix cw cSub cAdd cMul foldC valFrom beN laid be32 powm

set_option maxHeartbeats 4000000 in
set_option maxRecDepth 100000 in
theorem FSqrt_no (p a n R : Nat) (w : World) (hp0 : 0 < p) (hp : p < B64 ^ 4) (hn : p / 4 + 1 = n) (hn4 : n < B64 ^ 4) (ha : a < B64 ^ 4) (hlow : lw (p / 4) 0 + 1 < 18446744073709551616) (hR : R < p) (hpow : ∀ wx, Calls Try.prog 58 #[fv p, i4 a, i4 n] wx fun e w' => e = .returned (i4 R) ∧ Fr Nob wx w') (hb : decide (R * R % p = a) = false) :
    Calls Try.prog 35 #[fv p, i4 a] w fun e w' => e = .returned (.tuple #[i4 0, .bool false]) ∧ Fr Nob w w' := by
  have HP0 := Lib.hid hp0
  have HP := Lib.hid hp
  have HN4 := Lib.hid hn4
  have HA := Lib.hid ha
  have HLOW := Lib.hid hlow
  have HPOW := Lib.hid hpow
  have HB := Lib.hid hb
  have HR4 := Lib.hid (Nat.lt_trans hR hp)
  have HRP := Lib.hid (Nat.le_of_lt hR)
  have HRR := Lib.hid (show R * R % p < B64 ^ 4 from Nat.lt_trans (Nat.mod_lt _ hp0) hp)
  have hlc := low_cells (p / 4) hlow
  rw [hn] at hlc
  have HLC := Lib.hid hlc
  have HNE := Lib.hid hn
  
  clear hp0 hp hn4 ha hlow hpow hb hR hlc hn 
  have st0 := St.start Nob w
  go_enter Try.func35, Try.ntmps35
  go_wp2_with (with_reducible refine wl_stop (o := ⟨some 2, _, _, _, _, _⟩) ?_)
  refine wl_boxS st0 rfl rfl rfl (cw 4 p ++ cw 4 (B64 ^ 4 - p)) rfl ?_
  intro g2 w1 st1
  clear st0
  go_wp2_with (with_reducible refine wl_stop (o := ⟨some 3, _, _, _, _, _⟩) ?_)
  refine wl_boxS st1 rfl rfl rfl (cw 4 a) rfl ?_
  intro g3 w2 st2
  clear st1
  go_wp2_with (with_reducible refine wl_stop (o := ⟨some 4, _, _, _, _, _⟩) ?_)
  refine wl_allocS st2 rfl rfl (z := .agg #[.int .u64 0, .int .u64 0, .int .u64 0, .int .u64 0]) (by kernel_rfl) (cw 4 0) (by rw [cw_zero]; rfl) ?_
  intro g4 w3 st3
  clear st2
  go_wp2_with (with_reducible refine wl_stop (o := ⟨some 6, _, _, _, _, _⟩) ?_)
  refine wl_allocS st3 rfl rfl (z := .agg #[.int .u64 0, .int .u64 0, .int .u64 0, .int .u64 0]) (by kernel_rfl) (cw 4 0) (by rw [cw_zero]; rfl) ?_
  intro g6 w4 st4
  clear st3
  go_wp2
  go_loopw [7] (fun i wr => ∃ k : Nat, k ≤ 254 ∧ i = .int .i64 (k : Int) ∧ St Nob w wr [(g2, cw 4 p ++ cw 4 (B64 ^ 4 - p), 40), (g3, cw 4 a, 38), (g4, cw 4 0, 38), (g6, cw 4 (p / 4 % 2 ^ k), 38)]) (fun i _ => 254 - (intOf i).toNat)
  case atStart => exact ⟨0, by omega, rfl, by rw [Nat.pow_zero, Nat.mod_one]; exact st4⟩
  case round =>
    obtain ⟨k, hk, rfl, st⟩ := hrel
    clear st4
    by_cases hlt : k < 254
    · have hltI : (k : Int) < 254 := by omega
      have hstep := bit_step 4 (p / 4 % 2 ^ k) k (p / 2 ^ (k + 2) % 2) (Nat.mod_lt _ (Nat.pow_pos (by decide))) (Nat.mod_lt _ (by decide)) (by omega)
      rw [← quarter_step] at hstep
      have hbit := fun wx => RBit_any p (k + 2) wx (by omega)
      have hb2 : p / 2 ^ (k + 2) % 2 < 2 := Nat.mod_lt _ (by decide)
      generalize p / 2 ^ (k + 2) % 2 = b at *
      generalize hq' : p / 4 % 2 ^ (k + 1) = q' at *
      have HQ := Lib.hid hq'
      clear hq'
      generalize p / 4 % 2 ^ k = q at *
      have HCELL := Lib.hid (bit_cell q b k q' hb2 hstep)
      have HBIT := Lib.hid hbit
      clear hstep hbit hb2
      have hlo : (0 : Int) ≤ (k : Int) / 64 ∧ (k : Int) / 64 < 4 := by omega
      have hlo2 : (0 : Int) ≤ (k : Int) % 64 ∧ (k : Int) % 64 < 64 := by omega
      have e1 : IntKind.i64.wrap ((k : Int) / 64) = (k : Int) / 64 := IntWalk.i64_in _ (by omega)
      have e2 : (k : Int).tmod 64 = (k : Int) % 64 := Int.tmod_eq_emod_of_nonneg (by omega)
      have e3 : IntKind.i64.wrap ((k : Int) + 2) = (k : Int) + 2 := IntWalk.i64_in _ (by omega)
      have e4 : ((k : Int) / 64).toNat = k / 64 := by omega
      have e5 : ((k : Int) % 64).toNat = k % 64 := by omega
      go_wp2_with fail
      refine wp_region_noPanic ?_
      refine wp_region_plan (fun wx => St Nob w wx [(g2, cw 4 p ++ cw 4 (B64 ^ 4 - p), 40), (g3, cw 4 a, 38), (g4, cw 4 0, 38), (g6, cw 4 q, 38)]) 16 (.w 0 (.w 1 (.w 2 (.w 3 (.w 4 (.t 5 (.w 6 (.t 7 (.w 8 (.w 9 (.w 11 (.w 12 (.r 10 (.w 13 (.w 14 (.w 15 (.m 16 .nil))))))))))))))))) (by kernel_rfl) (by kernel_rfl) st.drew (fun _ _ _ _ _ h => h) ?_
      have hd4 := st.drew
      clear st
      refine plan_w (v := ?_) rfl rfl (fun wx => ?_) ?_
      rotate_left 1
      · (go_simp; with_reducible rfl)
      try simp only [Act.put, List.setIfInBounds_toArray, List.set_cons_zero, List.set_cons_succ]
      refine plan_w (v := ?_) rfl rfl (fun wx => ?_) ?_
      rotate_left 1
      · (go_simp; with_reducible rfl)
      try simp only [Act.put, List.setIfInBounds_toArray, List.set_cons_zero, List.set_cons_succ]
      refine plan_w (v := ?_) rfl rfl (fun wx => ?_) ?_
      rotate_left 1
      · (go_simp; with_reducible rfl)
      try simp only [Act.put, List.setIfInBounds_toArray, List.set_cons_zero, List.set_cons_succ]
      refine plan_w (v := ?_) rfl rfl (fun wx => ?_) ?_
      rotate_left 1
      · (go_simp; with_reducible rfl)
      try simp only [Act.put, List.setIfInBounds_toArray, List.set_cons_zero, List.set_cons_succ]
      refine plan_w (v := ?_) rfl rfl (fun wx => ?_) ?_
      rotate_left 1
      · (go_simp; with_reducible rfl)
      try simp only [Act.put, List.setIfInBounds_toArray, List.set_cons_zero, List.set_cons_succ]
      refine plan_t (v := ?_) rfl rfl (fun wx hS => ?_) ?_
      rotate_left 1
      · (have hc := (St.at hS 3 rfl).cell (cw_get 4 q (k / 64) (by omega)); clear hS; go_simp; with_reducible rfl)
      try simp only [Act.put, List.setIfInBounds_toArray, List.set_cons_zero, List.set_cons_succ]
      refine plan_w (v := ?_) rfl rfl (fun wx => ?_) ?_
      rotate_left 1
      · (go_simp; with_reducible rfl)
      try simp only [Act.put, List.setIfInBounds_toArray, List.set_cons_zero, List.set_cons_succ]
      refine plan_arr rfl rfl rfl rfl (cw 4 p) (fun wx hS => St.rangeL hS 0 rfl 0 _ (cw_left 4 4 _ _)) Try.underlying38 rfl (by first | (rw [cw_len]; kernel_rfl) | (simp only [List.length_append, cw_len]; kernel_rfl)) ?_
      try simp only [Act.put, List.setIfInBounds_toArray, List.set_cons_zero, List.set_cons_succ]
      refine plan_w (v := ?_) rfl rfl (fun wx => ?_) ?_
      rotate_left 1
      · (go_simp; with_reducible rfl)
      try simp only [Act.put, List.setIfInBounds_toArray, List.set_cons_zero, List.set_cons_succ]
      refine plan_w (v := ?_) rfl rfl (fun wx => ?_) ?_
      rotate_left 1
      · (go_simp; with_reducible rfl)
      try simp only [Act.put, List.setIfInBounds_toArray, List.set_cons_zero, List.set_cons_succ]
      refine plan_w (v := ?_) rfl rfl (fun wx => ?_) ?_
      rotate_left 1
      · (go_simp; with_reducible rfl)
      try simp only [Act.put, List.setIfInBounds_toArray, List.set_cons_zero, List.set_cons_succ]
      refine plan_w (v := ?_) rfl rfl (fun wx => ?_) ?_
      rotate_left 1
      · (go_simp; with_reducible rfl)
      try simp only [Act.put, List.setIfInBounds_toArray, List.set_cons_zero, List.set_cons_succ]
      refine plan_r rfl rfl ?_
      go_simp
      refine (HBIT.out _).mono ?_
      rintro e' w5 ⟨rfl, hf5⟩
      have st5 := hd4.keep hf5
      clear hf5
      clear hd4
      refine ⟨st5, ?_⟩
      try simp only [Act.put, List.setIfInBounds_toArray, List.set_cons_zero, List.set_cons_succ]
      refine plan_w (v := ?_) rfl rfl (fun wx => ?_) ?_
      rotate_left 1
      · (go_simp; with_reducible rfl)
      try simp only [Act.put, List.setIfInBounds_toArray, List.set_cons_zero, List.set_cons_succ]
      refine plan_w (v := ?_) rfl rfl (fun wx => ?_) ?_
      rotate_left 1
      · (go_simp; with_reducible rfl)
      try simp only [Act.put, List.setIfInBounds_toArray, List.set_cons_zero, List.set_cons_succ]
      refine plan_w (v := ?_) rfl rfl (fun wx => ?_) ?_
      rotate_left 1
      · (go_simp; with_reducible rfl)
      try simp only [Act.put, List.setIfInBounds_toArray, List.set_cons_zero, List.set_cons_succ]
      refine plan_m rfl rfl ?_
      have f1 := (st5.at 3 rfl).free (k / 64) (by rw [cw_len]; omega)
      have c1 := (st5.at 3 rfl).cell (cw_get 4 q (k / 64) (by omega))
      go_simp
      have st6 := st5.set 3 rfl (k / 64) (.int .u64 (bits .or .u64 (lw q (k / 64) : Nat) (IntKind.u64.wrap ((b : Int) * 2 ^ (k % 64)))))
      simp only [List.set_cons_zero, List.set_cons_succ] at st6
      rw [HCELL.out] at st6
      clear f1 c1 st5
      try simp only [Act.put, List.setIfInBounds_toArray, List.set_cons_zero, List.set_cons_succ]
      refine plan_end ?_
      refine NoPanic.normal ?_
      go_wp2
      go_roundw
      case rel => exact ⟨k + 1, by omega, by go_num, by rw [HQ.out]; exact st6⟩
      case measure => simp [intOf]; omega
    · have hge : ¬ ((k : Int) < 254) := by omega
      have hk2 : k = 254 := by omega
      rw [hk2, quarter_all p HP.out] at st
      clear hk2
      generalize p / 4 = Q at *
      have c1 := (st.at 3 rfl).cell (cw_get 4 Q 0 (by decide))
      have f1 := (st.at 3 rfl).free 0 (by rw [cw_len]; decide)
      have st9 := st.set 3 rfl 0 (.int .u64 ((lw Q 0 : Int) + 1))
      have hlow := HLOW.out
      have e1 : IntKind.u64.wrap ((lw Q 0 : Int) + 1) = (lw Q 0 : Int) + 1 := IntWalk.u64_in _ (by omega)
      clear st
      go_wp2_with (with_reducible refine wl_stop (o := ⟨some 33, _, _, _, _, _⟩) ?_)
      simp only [List.set_cons_zero, List.set_cons_succ] at st9
      rw [HLC.out] at st9
      clear c1 f1 hlow e1
      refine wl_loadSt st9 0 rfl rfl rfl Try.underlying40 rfl rfl (by first | (rw [cw_len]; kernel_rfl) | (simp only [List.length_append, cw_len]; kernel_rfl)) ?_
      go_wp2_with (with_reducible refine wl_stop (o := ⟨some 34, _, _, _, _, _⟩) ?_)
      refine wl_loadS st9 1 rfl rfl rfl Try.underlying38 rfl (by first | (rw [cw_len]; kernel_rfl) | (simp only [List.length_append, cw_len]; kernel_rfl)) ?_
      go_wp2_with (with_reducible refine wl_stop (o := ⟨some 35, _, _, _, _, _⟩) ?_)
      refine wl_loadS st9 3 rfl rfl rfl Try.underlying38 rfl (by first | (rw [cw_len]; kernel_rfl) | (simp only [List.length_append, cw_len]; kernel_rfl)) ?_
      go_wp2_with fail
      refine (HPOW.out _).mono ?_
      rintro e' w10 ⟨rfl, hf10⟩
      have st10 := st9.keep hf10
      clear st9 hf10
      go_wp2_with (with_reducible refine wl_stop (o := ⟨some 8, _, _, _, _, _⟩) ?_)
      refine wl_allocS st10 rfl rfl (z := .agg #[.int .u64 0, .int .u64 0, .int .u64 0, .int .u64 0]) (by kernel_rfl) (cw 4 0) (by rw [cw_zero]; rfl) ?_
      intro g8 w11 st11
      clear st10
      go_wp2_with (with_reducible refine wl_stop (o := ⟨none, _, _, _, _, _⟩) ?_)
      refine wl_storeS st11 4 rfl rfl rfl rfl rfl (by first | (simp only [cw_len]; done) | (simp only [List.length_append, cw_len]; done)) (by first | (rw [cw_len]; kernel_rfl) | (simp only [List.length_append, cw_len]; kernel_rfl)) (cw_one _ _) ?_
      intro w12 st12
      clear st11
      go_wp2_with fail
      refine wp_region_noPanic ?_
      refine wp_region_plan (fun wx => St Nob w wx [(g2, cw 4 p ++ cw 4 (B64 ^ 4 - p), 40), (g3, cw 4 a, 38), (g4, cw 4 0, 38), (g6, cw 4 n, 38), (g8, cw 4 R, 38)]) 5 (.t 0 (.t 1 (.t 2 (.t 4 (.r 3 (.m 5 .nil)))))) (by kernel_rfl) (by kernel_rfl) st12.drew (fun _ _ _ _ _ h => h) ?_
      have hd12 := st12.drew
      clear st12
      refine plan_arr rfl rfl rfl rfl (cw 4 p ++ cw 4 (B64 ^ 4 - p)) (fun wx hS => St.rangeL hS 0 rfl 0 _ (by rw [List.drop_zero, List.take_of_length_le (Nat.le_refl _)])) Try.underlying40 rfl (by first | (rw [cw_len]; kernel_rfl) | (simp only [List.length_append, cw_len]; kernel_rfl)) ?_
      try simp only [Act.put, List.setIfInBounds_toArray, List.set_cons_zero, List.set_cons_succ]
      refine plan_arr rfl rfl rfl rfl (cw 4 R) (fun wx hS => St.rangeL hS 4 rfl 0 _ (by rw [List.drop_zero, List.take_of_length_le (Nat.le_refl _)])) Try.underlying38 rfl (by first | (rw [cw_len]; kernel_rfl) | (simp only [List.length_append, cw_len]; kernel_rfl)) ?_
      try simp only [Act.put, List.setIfInBounds_toArray, List.set_cons_zero, List.set_cons_succ]
      refine plan_arr rfl rfl rfl rfl (cw 4 R) (fun wx hS => St.rangeL hS 4 rfl 0 _ (by rw [List.drop_zero, List.take_of_length_le (Nat.le_refl _)])) Try.underlying38 rfl (by first | (rw [cw_len]; kernel_rfl) | (simp only [List.length_append, cw_len]; kernel_rfl)) ?_
      try simp only [Act.put, List.setIfInBounds_toArray, List.set_cons_zero, List.set_cons_succ]
      refine plan_arr rfl rfl rfl rfl (cw 4 a) (fun wx hS => St.rangeL hS 1 rfl 0 _ (by rw [List.drop_zero, List.take_of_length_le (Nat.le_refl _)])) Try.underlying38 rfl (by first | (rw [cw_len]; kernel_rfl) | (simp only [List.length_append, cw_len]; kernel_rfl)) ?_
      try simp only [Act.put, List.setIfInBounds_toArray, List.set_cons_zero, List.set_cons_succ]
      refine plan_r rfl rfl ?_
      go_simp
      refine (Mul_any p R R _ HP0.out HP.out HR4.out HR4.out).mono ?_
      rintro e' w13 ⟨rfl, hf13⟩
      have st13 := hd12.keep hf13
      clear hf13
      clear hd12
      refine ⟨st13, ?_⟩
      try simp only [Act.put, List.setIfInBounds_toArray, List.set_cons_zero, List.set_cons_succ]
      refine plan_m rfl rfl ?_
      refine wp_neq4 (R * R % p) a HRR.out HA.out 38 Try.underlying38 Try.eqGuardType38 rfl rfl rfl HB.out ?_
      try simp only [Act.put, List.setIfInBounds_toArray, List.set_cons_zero, List.set_cons_succ]
      refine plan_end ?_
      refine NoPanic.normal ?_
      go_wp2_with (with_reducible refine wl_stop (o := ⟨none, _, _, _, _, _⟩) ?_)
      refine wl_storeS st13 2 rfl rfl rfl rfl (cs := cw 4 0) (by rw [cw_zero]; rfl) (by first | (simp only [cw_len]; done) | (simp only [List.length_append, cw_len]; done)) (by first | (rw [cw_len]; kernel_rfl) | (simp only [List.length_append, cw_len]; kernel_rfl)) (cw_one _ _) ?_
      intro w14 st14
      clear st13
      have hr := st14.at 2 rfl
      have hfr := st14.fr
      clear st14
      go_wp2_with fail
      exact bodyPost_ret (results_arr2 rfl rfl hr Try.underlying38 (by first | (rw [cw_len]; kernel_rfl) | (simp only [List.length_append, cw_len]; kernel_rfl)) rfl) rfl ⟨rfl, hfr⟩

set_option maxHeartbeats 4000000 in
set_option maxRecDepth 100000 in
theorem FSqrt_even (p a n R : Nat) (w : World) (hp0 : 0 < p) (hp : p < B64 ^ 4) (hn : p / 4 + 1 = n) (hn4 : n < B64 ^ 4) (ha : a < B64 ^ 4) (hlow : lw (p / 4) 0 + 1 < 18446744073709551616) (hR : R < p) (hpow : ∀ wx, Calls Try.prog 58 #[fv p, i4 a, i4 n] wx fun e w' => e = .returned (i4 R) ∧ Fr Nob wx w') (hb : decide (R * R % p = a) = true) (hpar : R % 2 = 0) :
    Calls Try.prog 35 #[fv p, i4 a] w fun e w' => e = .returned (.tuple #[i4 R, .bool true]) ∧ Fr Nob w w' := by
  have HP0 := Lib.hid hp0
  have HP := Lib.hid hp
  have HN4 := Lib.hid hn4
  have HA := Lib.hid ha
  have HLOW := Lib.hid hlow
  have HPOW := Lib.hid hpow
  have HB := Lib.hid hb
  have HR4 := Lib.hid (Nat.lt_trans hR hp)
  have HRP := Lib.hid (Nat.le_of_lt hR)
  have HRR := Lib.hid (show R * R % p < B64 ^ 4 from Nat.lt_trans (Nat.mod_lt _ hp0) hp)
  have hlc := low_cells (p / 4) hlow
  rw [hn] at hlc
  have HLC := Lib.hid hlc
  have HNE := Lib.hid hn
  have HPAR := Lib.hid hpar
  clear hp0 hp hn4 ha hlow hpow hb hR hlc hn hpar
  have st0 := St.start Nob w
  go_enter Try.func35, Try.ntmps35
  go_wp2_with (with_reducible refine wl_stop (o := ⟨some 2, _, _, _, _, _⟩) ?_)
  refine wl_boxS st0 rfl rfl rfl (cw 4 p ++ cw 4 (B64 ^ 4 - p)) rfl ?_
  intro g2 w1 st1
  clear st0
  go_wp2_with (with_reducible refine wl_stop (o := ⟨some 3, _, _, _, _, _⟩) ?_)
  refine wl_boxS st1 rfl rfl rfl (cw 4 a) rfl ?_
  intro g3 w2 st2
  clear st1
  go_wp2_with (with_reducible refine wl_stop (o := ⟨some 4, _, _, _, _, _⟩) ?_)
  refine wl_allocS st2 rfl rfl (z := .agg #[.int .u64 0, .int .u64 0, .int .u64 0, .int .u64 0]) (by kernel_rfl) (cw 4 0) (by rw [cw_zero]; rfl) ?_
  intro g4 w3 st3
  clear st2
  go_wp2_with (with_reducible refine wl_stop (o := ⟨some 6, _, _, _, _, _⟩) ?_)
  refine wl_allocS st3 rfl rfl (z := .agg #[.int .u64 0, .int .u64 0, .int .u64 0, .int .u64 0]) (by kernel_rfl) (cw 4 0) (by rw [cw_zero]; rfl) ?_
  intro g6 w4 st4
  clear st3
  go_wp2
  go_loopw [7] (fun i wr => ∃ k : Nat, k ≤ 254 ∧ i = .int .i64 (k : Int) ∧ St Nob w wr [(g2, cw 4 p ++ cw 4 (B64 ^ 4 - p), 40), (g3, cw 4 a, 38), (g4, cw 4 0, 38), (g6, cw 4 (p / 4 % 2 ^ k), 38)]) (fun i _ => 254 - (intOf i).toNat)
  case atStart => exact ⟨0, by omega, rfl, by rw [Nat.pow_zero, Nat.mod_one]; exact st4⟩
  case round =>
    obtain ⟨k, hk, rfl, st⟩ := hrel
    clear st4
    by_cases hlt : k < 254
    · have hltI : (k : Int) < 254 := by omega
      have hstep := bit_step 4 (p / 4 % 2 ^ k) k (p / 2 ^ (k + 2) % 2) (Nat.mod_lt _ (Nat.pow_pos (by decide))) (Nat.mod_lt _ (by decide)) (by omega)
      rw [← quarter_step] at hstep
      have hbit := fun wx => RBit_any p (k + 2) wx (by omega)
      have hb2 : p / 2 ^ (k + 2) % 2 < 2 := Nat.mod_lt _ (by decide)
      generalize p / 2 ^ (k + 2) % 2 = b at *
      generalize hq' : p / 4 % 2 ^ (k + 1) = q' at *
      have HQ := Lib.hid hq'
      clear hq'
      generalize p / 4 % 2 ^ k = q at *
      have HCELL := Lib.hid (bit_cell q b k q' hb2 hstep)
      have HBIT := Lib.hid hbit
      clear hstep hbit hb2
      have hlo : (0 : Int) ≤ (k : Int) / 64 ∧ (k : Int) / 64 < 4 := by omega
      have hlo2 : (0 : Int) ≤ (k : Int) % 64 ∧ (k : Int) % 64 < 64 := by omega
      have e1 : IntKind.i64.wrap ((k : Int) / 64) = (k : Int) / 64 := IntWalk.i64_in _ (by omega)
      have e2 : (k : Int).tmod 64 = (k : Int) % 64 := Int.tmod_eq_emod_of_nonneg (by omega)
      have e3 : IntKind.i64.wrap ((k : Int) + 2) = (k : Int) + 2 := IntWalk.i64_in _ (by omega)
      have e4 : ((k : Int) / 64).toNat = k / 64 := by omega
      have e5 : ((k : Int) % 64).toNat = k % 64 := by omega
      go_wp2_with fail
      refine wp_region_noPanic ?_
      refine wp_region_plan (fun wx => St Nob w wx [(g2, cw 4 p ++ cw 4 (B64 ^ 4 - p), 40), (g3, cw 4 a, 38), (g4, cw 4 0, 38), (g6, cw 4 q, 38)]) 16 (.w 0 (.w 1 (.w 2 (.w 3 (.w 4 (.t 5 (.w 6 (.t 7 (.w 8 (.w 9 (.w 11 (.w 12 (.r 10 (.w 13 (.w 14 (.w 15 (.m 16 .nil))))))))))))))))) (by kernel_rfl) (by kernel_rfl) st.drew (fun _ _ _ _ _ h => h) ?_
      have hd4 := st.drew
      clear st
      refine plan_w (v := ?_) rfl rfl (fun wx => ?_) ?_
      rotate_left 1
      · (go_simp; with_reducible rfl)
      try simp only [Act.put, List.setIfInBounds_toArray, List.set_cons_zero, List.set_cons_succ]
      refine plan_w (v := ?_) rfl rfl (fun wx => ?_) ?_
      rotate_left 1
      · (go_simp; with_reducible rfl)
      try simp only [Act.put, List.setIfInBounds_toArray, List.set_cons_zero, List.set_cons_succ]
      refine plan_w (v := ?_) rfl rfl (fun wx => ?_) ?_
      rotate_left 1
      · (go_simp; with_reducible rfl)
      try simp only [Act.put, List.setIfInBounds_toArray, List.set_cons_zero, List.set_cons_succ]
      refine plan_w (v := ?_) rfl rfl (fun wx => ?_) ?_
      rotate_left 1
      · (go_simp; with_reducible rfl)
      try simp only [Act.put, List.setIfInBounds_toArray, List.set_cons_zero, List.set_cons_succ]
      refine plan_w (v := ?_) rfl rfl (fun wx => ?_) ?_
      rotate_left 1
      · (go_simp; with_reducible rfl)
      try simp only [Act.put, List.setIfInBounds_toArray, List.set_cons_zero, List.set_cons_succ]
      refine plan_t (v := ?_) rfl rfl (fun wx hS => ?_) ?_
      rotate_left 1
      · (have hc := (St.at hS 3 rfl).cell (cw_get 4 q (k / 64) (by omega)); clear hS; go_simp; with_reducible rfl)
      try simp only [Act.put, List.setIfInBounds_toArray, List.set_cons_zero, List.set_cons_succ]
      refine plan_w (v := ?_) rfl rfl (fun wx => ?_) ?_
      rotate_left 1
      · (go_simp; with_reducible rfl)
      try simp only [Act.put, List.setIfInBounds_toArray, List.set_cons_zero, List.set_cons_succ]
      refine plan_arr rfl rfl rfl rfl (cw 4 p) (fun wx hS => St.rangeL hS 0 rfl 0 _ (cw_left 4 4 _ _)) Try.underlying38 rfl (by first | (rw [cw_len]; kernel_rfl) | (simp only [List.length_append, cw_len]; kernel_rfl)) ?_
      try simp only [Act.put, List.setIfInBounds_toArray, List.set_cons_zero, List.set_cons_succ]
      refine plan_w (v := ?_) rfl rfl (fun wx => ?_) ?_
      rotate_left 1
      · (go_simp; with_reducible rfl)
      try simp only [Act.put, List.setIfInBounds_toArray, List.set_cons_zero, List.set_cons_succ]
      refine plan_w (v := ?_) rfl rfl (fun wx => ?_) ?_
      rotate_left 1
      · (go_simp; with_reducible rfl)
      try simp only [Act.put, List.setIfInBounds_toArray, List.set_cons_zero, List.set_cons_succ]
      refine plan_w (v := ?_) rfl rfl (fun wx => ?_) ?_
      rotate_left 1
      · (go_simp; with_reducible rfl)
      try simp only [Act.put, List.setIfInBounds_toArray, List.set_cons_zero, List.set_cons_succ]
      refine plan_w (v := ?_) rfl rfl (fun wx => ?_) ?_
      rotate_left 1
      · (go_simp; with_reducible rfl)
      try simp only [Act.put, List.setIfInBounds_toArray, List.set_cons_zero, List.set_cons_succ]
      refine plan_r rfl rfl ?_
      go_simp
      refine (HBIT.out _).mono ?_
      rintro e' w5 ⟨rfl, hf5⟩
      have st5 := hd4.keep hf5
      clear hf5
      clear hd4
      refine ⟨st5, ?_⟩
      try simp only [Act.put, List.setIfInBounds_toArray, List.set_cons_zero, List.set_cons_succ]
      refine plan_w (v := ?_) rfl rfl (fun wx => ?_) ?_
      rotate_left 1
      · (go_simp; with_reducible rfl)
      try simp only [Act.put, List.setIfInBounds_toArray, List.set_cons_zero, List.set_cons_succ]
      refine plan_w (v := ?_) rfl rfl (fun wx => ?_) ?_
      rotate_left 1
      · (go_simp; with_reducible rfl)
      try simp only [Act.put, List.setIfInBounds_toArray, List.set_cons_zero, List.set_cons_succ]
      refine plan_w (v := ?_) rfl rfl (fun wx => ?_) ?_
      rotate_left 1
      · (go_simp; with_reducible rfl)
      try simp only [Act.put, List.setIfInBounds_toArray, List.set_cons_zero, List.set_cons_succ]
      refine plan_m rfl rfl ?_
      have f1 := (st5.at 3 rfl).free (k / 64) (by rw [cw_len]; omega)
      have c1 := (st5.at 3 rfl).cell (cw_get 4 q (k / 64) (by omega))
      go_simp
      have st6 := st5.set 3 rfl (k / 64) (.int .u64 (bits .or .u64 (lw q (k / 64) : Nat) (IntKind.u64.wrap ((b : Int) * 2 ^ (k % 64)))))
      simp only [List.set_cons_zero, List.set_cons_succ] at st6
      rw [HCELL.out] at st6
      clear f1 c1 st5
      try simp only [Act.put, List.setIfInBounds_toArray, List.set_cons_zero, List.set_cons_succ]
      refine plan_end ?_
      refine NoPanic.normal ?_
      go_wp2
      go_roundw
      case rel => exact ⟨k + 1, by omega, by go_num, by rw [HQ.out]; exact st6⟩
      case measure => simp [intOf]; omega
    · have hge : ¬ ((k : Int) < 254) := by omega
      have hk2 : k = 254 := by omega
      rw [hk2, quarter_all p HP.out] at st
      clear hk2
      generalize p / 4 = Q at *
      have c1 := (st.at 3 rfl).cell (cw_get 4 Q 0 (by decide))
      have f1 := (st.at 3 rfl).free 0 (by rw [cw_len]; decide)
      have st9 := st.set 3 rfl 0 (.int .u64 ((lw Q 0 : Int) + 1))
      have hlow := HLOW.out
      have e1 : IntKind.u64.wrap ((lw Q 0 : Int) + 1) = (lw Q 0 : Int) + 1 := IntWalk.u64_in _ (by omega)
      clear st
      go_wp2_with (with_reducible refine wl_stop (o := ⟨some 33, _, _, _, _, _⟩) ?_)
      simp only [List.set_cons_zero, List.set_cons_succ] at st9
      rw [HLC.out] at st9
      clear c1 f1 hlow e1
      refine wl_loadSt st9 0 rfl rfl rfl Try.underlying40 rfl rfl (by first | (rw [cw_len]; kernel_rfl) | (simp only [List.length_append, cw_len]; kernel_rfl)) ?_
      go_wp2_with (with_reducible refine wl_stop (o := ⟨some 34, _, _, _, _, _⟩) ?_)
      refine wl_loadS st9 1 rfl rfl rfl Try.underlying38 rfl (by first | (rw [cw_len]; kernel_rfl) | (simp only [List.length_append, cw_len]; kernel_rfl)) ?_
      go_wp2_with (with_reducible refine wl_stop (o := ⟨some 35, _, _, _, _, _⟩) ?_)
      refine wl_loadS st9 3 rfl rfl rfl Try.underlying38 rfl (by first | (rw [cw_len]; kernel_rfl) | (simp only [List.length_append, cw_len]; kernel_rfl)) ?_
      go_wp2_with fail
      refine (HPOW.out _).mono ?_
      rintro e' w10 ⟨rfl, hf10⟩
      have st10 := st9.keep hf10
      clear st9 hf10
      go_wp2_with (with_reducible refine wl_stop (o := ⟨some 8, _, _, _, _, _⟩) ?_)
      refine wl_allocS st10 rfl rfl (z := .agg #[.int .u64 0, .int .u64 0, .int .u64 0, .int .u64 0]) (by kernel_rfl) (cw 4 0) (by rw [cw_zero]; rfl) ?_
      intro g8 w11 st11
      clear st10
      go_wp2_with (with_reducible refine wl_stop (o := ⟨none, _, _, _, _, _⟩) ?_)
      refine wl_storeS st11 4 rfl rfl rfl rfl rfl (by first | (simp only [cw_len]; done) | (simp only [List.length_append, cw_len]; done)) (by first | (rw [cw_len]; kernel_rfl) | (simp only [List.length_append, cw_len]; kernel_rfl)) (cw_one _ _) ?_
      intro w12 st12
      clear st11
      go_wp2_with fail
      refine wp_region_noPanic ?_
      refine wp_region_plan (fun wx => St Nob w wx [(g2, cw 4 p ++ cw 4 (B64 ^ 4 - p), 40), (g3, cw 4 a, 38), (g4, cw 4 0, 38), (g6, cw 4 n, 38), (g8, cw 4 R, 38)]) 5 (.t 0 (.t 1 (.t 2 (.t 4 (.r 3 (.m 5 .nil)))))) (by kernel_rfl) (by kernel_rfl) st12.drew (fun _ _ _ _ _ h => h) ?_
      have hd12 := st12.drew
      clear st12
      refine plan_arr rfl rfl rfl rfl (cw 4 p ++ cw 4 (B64 ^ 4 - p)) (fun wx hS => St.rangeL hS 0 rfl 0 _ (by rw [List.drop_zero, List.take_of_length_le (Nat.le_refl _)])) Try.underlying40 rfl (by first | (rw [cw_len]; kernel_rfl) | (simp only [List.length_append, cw_len]; kernel_rfl)) ?_
      try simp only [Act.put, List.setIfInBounds_toArray, List.set_cons_zero, List.set_cons_succ]
      refine plan_arr rfl rfl rfl rfl (cw 4 R) (fun wx hS => St.rangeL hS 4 rfl 0 _ (by rw [List.drop_zero, List.take_of_length_le (Nat.le_refl _)])) Try.underlying38 rfl (by first | (rw [cw_len]; kernel_rfl) | (simp only [List.length_append, cw_len]; kernel_rfl)) ?_
      try simp only [Act.put, List.setIfInBounds_toArray, List.set_cons_zero, List.set_cons_succ]
      refine plan_arr rfl rfl rfl rfl (cw 4 R) (fun wx hS => St.rangeL hS 4 rfl 0 _ (by rw [List.drop_zero, List.take_of_length_le (Nat.le_refl _)])) Try.underlying38 rfl (by first | (rw [cw_len]; kernel_rfl) | (simp only [List.length_append, cw_len]; kernel_rfl)) ?_
      try simp only [Act.put, List.setIfInBounds_toArray, List.set_cons_zero, List.set_cons_succ]
      refine plan_arr rfl rfl rfl rfl (cw 4 a) (fun wx hS => St.rangeL hS 1 rfl 0 _ (by rw [List.drop_zero, List.take_of_length_le (Nat.le_refl _)])) Try.underlying38 rfl (by first | (rw [cw_len]; kernel_rfl) | (simp only [List.length_append, cw_len]; kernel_rfl)) ?_
      try simp only [Act.put, List.setIfInBounds_toArray, List.set_cons_zero, List.set_cons_succ]
      refine plan_r rfl rfl ?_
      go_simp
      refine (Mul_any p R R _ HP0.out HP.out HR4.out HR4.out).mono ?_
      rintro e' w13 ⟨rfl, hf13⟩
      have st13 := hd12.keep hf13
      clear hf13
      clear hd12
      refine ⟨st13, ?_⟩
      try simp only [Act.put, List.setIfInBounds_toArray, List.set_cons_zero, List.set_cons_succ]
      refine plan_m rfl rfl ?_
      refine wp_neq4 (R * R % p) a HRR.out HA.out 38 Try.underlying38 Try.eqGuardType38 rfl rfl rfl HB.out ?_
      try simp only [Act.put, List.setIfInBounds_toArray, List.set_cons_zero, List.set_cons_succ]
      refine plan_end ?_
      refine NoPanic.normal ?_
      have c1 := (st13.at 4 rfl).cell (cw_get 4 R 0 (by decide))
      have hla := low_and R
      rw [HPAR.out] at hla
      go_wp2_with (with_reducible refine wl_stop (o := ⟨some 51, _, _, _, _, _⟩) ?_)
      refine wl_loadS st13 4 rfl rfl rfl Try.underlying38 rfl (by first | (rw [cw_len]; kernel_rfl) | (simp only [List.length_append, cw_len]; kernel_rfl)) ?_
      go_wp2_with (with_reducible refine wl_stop (o := ⟨none, _, _, _, _, _⟩) ?_)
      refine wl_storeS st13 2 rfl rfl rfl rfl rfl (by first | (simp only [cw_len]; done) | (simp only [List.length_append, cw_len]; done)) (by first | (rw [cw_len]; kernel_rfl) | (simp only [List.length_append, cw_len]; kernel_rfl)) (cw_one _ _) ?_
      intro w14 st14
      clear st13
      have hr := st14.at 2 rfl
      have hfr := st14.fr
      clear st14
      go_wp2_with fail
      exact bodyPost_ret (results_arr2 rfl rfl hr Try.underlying38 (by first | (rw [cw_len]; kernel_rfl) | (simp only [List.length_append, cw_len]; kernel_rfl)) rfl) rfl ⟨rfl, hfr⟩

set_option maxHeartbeats 4000000 in
set_option maxRecDepth 100000 in
theorem FSqrt_odd (p a n R : Nat) (w : World) (hp0 : 0 < p) (hp : p < B64 ^ 4) (hn : p / 4 + 1 = n) (hn4 : n < B64 ^ 4) (ha : a < B64 ^ 4) (hlow : lw (p / 4) 0 + 1 < 18446744073709551616) (hR : R < p) (hpow : ∀ wx, Calls Try.prog 58 #[fv p, i4 a, i4 n] wx fun e w' => e = .returned (i4 R) ∧ Fr Nob wx w') (hb : decide (R * R % p = a) = true) (hpar : R % 2 = 1) :
    Calls Try.prog 35 #[fv p, i4 a] w fun e w' => e = .returned (.tuple #[i4 ((p - R) % p), .bool true]) ∧ Fr Nob w w' := by
  have HP0 := Lib.hid hp0
  have HP := Lib.hid hp
  have HN4 := Lib.hid hn4
  have HA := Lib.hid ha
  have HLOW := Lib.hid hlow
  have HPOW := Lib.hid hpow
  have HB := Lib.hid hb
  have HR4 := Lib.hid (Nat.lt_trans hR hp)
  have HRP := Lib.hid (Nat.le_of_lt hR)
  have HRR := Lib.hid (show R * R % p < B64 ^ 4 from Nat.lt_trans (Nat.mod_lt _ hp0) hp)
  have hlc := low_cells (p / 4) hlow
  rw [hn] at hlc
  have HLC := Lib.hid hlc
  have HNE := Lib.hid hn
  have HPAR := Lib.hid hpar
  clear hp0 hp hn4 ha hlow hpow hb hR hlc hn hpar
  have st0 := St.start Nob w
  go_enter Try.func35, Try.ntmps35
  go_wp2_with (with_reducible refine wl_stop (o := ⟨some 2, _, _, _, _, _⟩) ?_)
  refine wl_boxS st0 rfl rfl rfl (cw 4 p ++ cw 4 (B64 ^ 4 - p)) rfl ?_
  intro g2 w1 st1
  clear st0
  go_wp2_with (with_reducible refine wl_stop (o := ⟨some 3, _, _, _, _, _⟩) ?_)
  refine wl_boxS st1 rfl rfl rfl (cw 4 a) rfl ?_
  intro g3 w2 st2
  clear st1
  go_wp2_with (with_reducible refine wl_stop (o := ⟨some 4, _, _, _, _, _⟩) ?_)
  refine wl_allocS st2 rfl rfl (z := .agg #[.int .u64 0, .int .u64 0, .int .u64 0, .int .u64 0]) (by kernel_rfl) (cw 4 0) (by rw [cw_zero]; rfl) ?_
  intro g4 w3 st3
  clear st2
  go_wp2_with (with_reducible refine wl_stop (o := ⟨some 6, _, _, _, _, _⟩) ?_)
  refine wl_allocS st3 rfl rfl (z := .agg #[.int .u64 0, .int .u64 0, .int .u64 0, .int .u64 0]) (by kernel_rfl) (cw 4 0) (by rw [cw_zero]; rfl) ?_
  intro g6 w4 st4
  clear st3
  go_wp2
  go_loopw [7] (fun i wr => ∃ k : Nat, k ≤ 254 ∧ i = .int .i64 (k : Int) ∧ St Nob w wr [(g2, cw 4 p ++ cw 4 (B64 ^ 4 - p), 40), (g3, cw 4 a, 38), (g4, cw 4 0, 38), (g6, cw 4 (p / 4 % 2 ^ k), 38)]) (fun i _ => 254 - (intOf i).toNat)
  case atStart => exact ⟨0, by omega, rfl, by rw [Nat.pow_zero, Nat.mod_one]; exact st4⟩
  case round =>
    obtain ⟨k, hk, rfl, st⟩ := hrel
    clear st4
    by_cases hlt : k < 254
    · have hltI : (k : Int) < 254 := by omega
      have hstep := bit_step 4 (p / 4 % 2 ^ k) k (p / 2 ^ (k + 2) % 2) (Nat.mod_lt _ (Nat.pow_pos (by decide))) (Nat.mod_lt _ (by decide)) (by omega)
      rw [← quarter_step] at hstep
      have hbit := fun wx => RBit_any p (k + 2) wx (by omega)
      have hb2 : p / 2 ^ (k + 2) % 2 < 2 := Nat.mod_lt _ (by decide)
      generalize p / 2 ^ (k + 2) % 2 = b at *
      generalize hq' : p / 4 % 2 ^ (k + 1) = q' at *
      have HQ := Lib.hid hq'
      clear hq'
      generalize p / 4 % 2 ^ k = q at *
      have HCELL := Lib.hid (bit_cell q b k q' hb2 hstep)
      have HBIT := Lib.hid hbit
      clear hstep hbit hb2
      have hlo : (0 : Int) ≤ (k : Int) / 64 ∧ (k : Int) / 64 < 4 := by omega
      have hlo2 : (0 : Int) ≤ (k : Int) % 64 ∧ (k : Int) % 64 < 64 := by omega
      have e1 : IntKind.i64.wrap ((k : Int) / 64) = (k : Int) / 64 := IntWalk.i64_in _ (by omega)
      have e2 : (k : Int).tmod 64 = (k : Int) % 64 := Int.tmod_eq_emod_of_nonneg (by omega)
      have e3 : IntKind.i64.wrap ((k : Int) + 2) = (k : Int) + 2 := IntWalk.i64_in _ (by omega)
      have e4 : ((k : Int) / 64).toNat = k / 64 := by omega
      have e5 : ((k : Int) % 64).toNat = k % 64 := by omega
      go_wp2_with fail
      refine wp_region_noPanic ?_
      refine wp_region_plan (fun wx => St Nob w wx [(g2, cw 4 p ++ cw 4 (B64 ^ 4 - p), 40), (g3, cw 4 a, 38), (g4, cw 4 0, 38), (g6, cw 4 q, 38)]) 16 (.w 0 (.w 1 (.w 2 (.w 3 (.w 4 (.t 5 (.w 6 (.t 7 (.w 8 (.w 9 (.w 11 (.w 12 (.r 10 (.w 13 (.w 14 (.w 15 (.m 16 .nil))))))))))))))))) (by kernel_rfl) (by kernel_rfl) st.drew (fun _ _ _ _ _ h => h) ?_
      have hd4 := st.drew
      clear st
      refine plan_w (v := ?_) rfl rfl (fun wx => ?_) ?_
      rotate_left 1
      · (go_simp; with_reducible rfl)
      try simp only [Act.put, List.setIfInBounds_toArray, List.set_cons_zero, List.set_cons_succ]
      refine plan_w (v := ?_) rfl rfl (fun wx => ?_) ?_
      rotate_left 1
      · (go_simp; with_reducible rfl)
      try simp only [Act.put, List.setIfInBounds_toArray, List.set_cons_zero, List.set_cons_succ]
      refine plan_w (v := ?_) rfl rfl (fun wx => ?_) ?_
      rotate_left 1
      · (go_simp; with_reducible rfl)
      try simp only [Act.put, List.setIfInBounds_toArray, List.set_cons_zero, List.set_cons_succ]
      refine plan_w (v := ?_) rfl rfl (fun wx => ?_) ?_
      rotate_left 1
      · (go_simp; with_reducible rfl)
      try simp only [Act.put, List.setIfInBounds_toArray, List.set_cons_zero, List.set_cons_succ]
      refine plan_w (v := ?_) rfl rfl (fun wx => ?_) ?_
      rotate_left 1
      · (go_simp; with_reducible rfl)
      try simp only [Act.put, List.setIfInBounds_toArray, List.set_cons_zero, List.set_cons_succ]
      refine plan_t (v := ?_) rfl rfl (fun wx hS => ?_) ?_
      rotate_left 1
      · (have hc := (St.at hS 3 rfl).cell (cw_get 4 q (k / 64) (by omega)); clear hS; go_simp; with_reducible rfl)
      try simp only [Act.put, List.setIfInBounds_toArray, List.set_cons_zero, List.set_cons_succ]
      refine plan_w (v := ?_) rfl rfl (fun wx => ?_) ?_
      rotate_left 1
      · (go_simp; with_reducible rfl)
      try simp only [Act.put, List.setIfInBounds_toArray, List.set_cons_zero, List.set_cons_succ]
      refine plan_arr rfl rfl rfl rfl (cw 4 p) (fun wx hS => St.rangeL hS 0 rfl 0 _ (cw_left 4 4 _ _)) Try.underlying38 rfl (by first | (rw [cw_len]; kernel_rfl) | (simp only [List.length_append, cw_len]; kernel_rfl)) ?_
      try simp only [Act.put, List.setIfInBounds_toArray, List.set_cons_zero, List.set_cons_succ]
      refine plan_w (v := ?_) rfl rfl (fun wx => ?_) ?_
      rotate_left 1
      · (go_simp; with_reducible rfl)
      try simp only [Act.put, List.setIfInBounds_toArray, List.set_cons_zero, List.set_cons_succ]
      refine plan_w (v := ?_) rfl rfl (fun wx => ?_) ?_
      rotate_left 1
      · (go_simp; with_reducible rfl)
      try simp only [Act.put, List.setIfInBounds_toArray, List.set_cons_zero, List.set_cons_succ]
      refine plan_w (v := ?_) rfl rfl (fun wx => ?_) ?_
      rotate_left 1
      · (go_simp; with_reducible rfl)
      try simp only [Act.put, List.setIfInBounds_toArray, List.set_cons_zero, List.set_cons_succ]
      refine plan_w (v := ?_) rfl rfl (fun wx => ?_) ?_
      rotate_left 1
      · (go_simp; with_reducible rfl)
      try simp only [Act.put, List.setIfInBounds_toArray, List.set_cons_zero, List.set_cons_succ]
      refine plan_r rfl rfl ?_
      go_simp
      refine (HBIT.out _).mono ?_
      rintro e' w5 ⟨rfl, hf5⟩
      have st5 := hd4.keep hf5
      clear hf5
      clear hd4
      refine ⟨st5, ?_⟩
      try simp only [Act.put, List.setIfInBounds_toArray, List.set_cons_zero, List.set_cons_succ]
      refine plan_w (v := ?_) rfl rfl (fun wx => ?_) ?_
      rotate_left 1
      · (go_simp; with_reducible rfl)
      try simp only [Act.put, List.setIfInBounds_toArray, List.set_cons_zero, List.set_cons_succ]
      refine plan_w (v := ?_) rfl rfl (fun wx => ?_) ?_
      rotate_left 1
      · (go_simp; with_reducible rfl)
      try simp only [Act.put, List.setIfInBounds_toArray, List.set_cons_zero, List.set_cons_succ]
      refine plan_w (v := ?_) rfl rfl (fun wx => ?_) ?_
      rotate_left 1
      · (go_simp; with_reducible rfl)
      try simp only [Act.put, List.setIfInBounds_toArray, List.set_cons_zero, List.set_cons_succ]
      refine plan_m rfl rfl ?_
      have f1 := (st5.at 3 rfl).free (k / 64) (by rw [cw_len]; omega)
      have c1 := (st5.at 3 rfl).cell (cw_get 4 q (k / 64) (by omega))
      go_simp
      have st6 := st5.set 3 rfl (k / 64) (.int .u64 (bits .or .u64 (lw q (k / 64) : Nat) (IntKind.u64.wrap ((b : Int) * 2 ^ (k % 64)))))
      simp only [List.set_cons_zero, List.set_cons_succ] at st6
      rw [HCELL.out] at st6
      clear f1 c1 st5
      try simp only [Act.put, List.setIfInBounds_toArray, List.set_cons_zero, List.set_cons_succ]
      refine plan_end ?_
      refine NoPanic.normal ?_
      go_wp2
      go_roundw
      case rel => exact ⟨k + 1, by omega, by go_num, by rw [HQ.out]; exact st6⟩
      case measure => simp [intOf]; omega
    · have hge : ¬ ((k : Int) < 254) := by omega
      have hk2 : k = 254 := by omega
      rw [hk2, quarter_all p HP.out] at st
      clear hk2
      generalize p / 4 = Q at *
      have c1 := (st.at 3 rfl).cell (cw_get 4 Q 0 (by decide))
      have f1 := (st.at 3 rfl).free 0 (by rw [cw_len]; decide)
      have st9 := st.set 3 rfl 0 (.int .u64 ((lw Q 0 : Int) + 1))
      have hlow := HLOW.out
      have e1 : IntKind.u64.wrap ((lw Q 0 : Int) + 1) = (lw Q 0 : Int) + 1 := IntWalk.u64_in _ (by omega)
      clear st
      go_wp2_with (with_reducible refine wl_stop (o := ⟨some 33, _, _, _, _, _⟩) ?_)
      simp only [List.set_cons_zero, List.set_cons_succ] at st9
      rw [HLC.out] at st9
      clear c1 f1 hlow e1
      refine wl_loadSt st9 0 rfl rfl rfl Try.underlying40 rfl rfl (by first | (rw [cw_len]; kernel_rfl) | (simp only [List.length_append, cw_len]; kernel_rfl)) ?_
      go_wp2_with (with_reducible refine wl_stop (o := ⟨some 34, _, _, _, _, _⟩) ?_)
      refine wl_loadS st9 1 rfl rfl rfl Try.underlying38 rfl (by first | (rw [cw_len]; kernel_rfl) | (simp only [List.length_append, cw_len]; kernel_rfl)) ?_
      go_wp2_with (with_reducible refine wl_stop (o := ⟨some 35, _, _, _, _, _⟩) ?_)
      refine wl_loadS st9 3 rfl rfl rfl Try.underlying38 rfl (by first | (rw [cw_len]; kernel_rfl) | (simp only [List.length_append, cw_len]; kernel_rfl)) ?_
      go_wp2_with fail
      refine (HPOW.out _).mono ?_
      rintro e' w10 ⟨rfl, hf10⟩
      have st10 := st9.keep hf10
      clear st9 hf10
      go_wp2_with (with_reducible refine wl_stop (o := ⟨some 8, _, _, _, _, _⟩) ?_)
      refine wl_allocS st10 rfl rfl (z := .agg #[.int .u64 0, .int .u64 0, .int .u64 0, .int .u64 0]) (by kernel_rfl) (cw 4 0) (by rw [cw_zero]; rfl) ?_
      intro g8 w11 st11
      clear st10
      go_wp2_with (with_reducible refine wl_stop (o := ⟨none, _, _, _, _, _⟩) ?_)
      refine wl_storeS st11 4 rfl rfl rfl rfl rfl (by first | (simp only [cw_len]; done) | (simp only [List.length_append, cw_len]; done)) (by first | (rw [cw_len]; kernel_rfl) | (simp only [List.length_append, cw_len]; kernel_rfl)) (cw_one _ _) ?_
      intro w12 st12
      clear st11
      go_wp2_with fail
      refine wp_region_noPanic ?_
      refine wp_region_plan (fun wx => St Nob w wx [(g2, cw 4 p ++ cw 4 (B64 ^ 4 - p), 40), (g3, cw 4 a, 38), (g4, cw 4 0, 38), (g6, cw 4 n, 38), (g8, cw 4 R, 38)]) 5 (.t 0 (.t 1 (.t 2 (.t 4 (.r 3 (.m 5 .nil)))))) (by kernel_rfl) (by kernel_rfl) st12.drew (fun _ _ _ _ _ h => h) ?_
      have hd12 := st12.drew
      clear st12
      refine plan_arr rfl rfl rfl rfl (cw 4 p ++ cw 4 (B64 ^ 4 - p)) (fun wx hS => St.rangeL hS 0 rfl 0 _ (by rw [List.drop_zero, List.take_of_length_le (Nat.le_refl _)])) Try.underlying40 rfl (by first | (rw [cw_len]; kernel_rfl) | (simp only [List.length_append, cw_len]; kernel_rfl)) ?_
      try simp only [Act.put, List.setIfInBounds_toArray, List.set_cons_zero, List.set_cons_succ]
      refine plan_arr rfl rfl rfl rfl (cw 4 R) (fun wx hS => St.rangeL hS 4 rfl 0 _ (by rw [List.drop_zero, List.take_of_length_le (Nat.le_refl _)])) Try.underlying38 rfl (by first | (rw [cw_len]; kernel_rfl) | (simp only [List.length_append, cw_len]; kernel_rfl)) ?_
      try simp only [Act.put, List.setIfInBounds_toArray, List.set_cons_zero, List.set_cons_succ]
      refine plan_arr rfl rfl rfl rfl (cw 4 R) (fun wx hS => St.rangeL hS 4 rfl 0 _ (by rw [List.drop_zero, List.take_of_length_le (Nat.le_refl _)])) Try.underlying38 rfl (by first | (rw [cw_len]; kernel_rfl) | (simp only [List.length_append, cw_len]; kernel_rfl)) ?_
      try simp only [Act.put, List.setIfInBounds_toArray, List.set_cons_zero, List.set_cons_succ]
      refine plan_arr rfl rfl rfl rfl (cw 4 a) (fun wx hS => St.rangeL hS 1 rfl 0 _ (by rw [List.drop_zero, List.take_of_length_le (Nat.le_refl _)])) Try.underlying38 rfl (by first | (rw [cw_len]; kernel_rfl) | (simp only [List.length_append, cw_len]; kernel_rfl)) ?_
      try simp only [Act.put, List.setIfInBounds_toArray, List.set_cons_zero, List.set_cons_succ]
      refine plan_r rfl rfl ?_
      go_simp
      refine (Mul_any p R R _ HP0.out HP.out HR4.out HR4.out).mono ?_
      rintro e' w13 ⟨rfl, hf13⟩
      have st13 := hd12.keep hf13
      clear hf13
      clear hd12
      refine ⟨st13, ?_⟩
      try simp only [Act.put, List.setIfInBounds_toArray, List.set_cons_zero, List.set_cons_succ]
      refine plan_m rfl rfl ?_
      refine wp_neq4 (R * R % p) a HRR.out HA.out 38 Try.underlying38 Try.eqGuardType38 rfl rfl rfl HB.out ?_
      try simp only [Act.put, List.setIfInBounds_toArray, List.set_cons_zero, List.set_cons_succ]
      refine plan_end ?_
      refine NoPanic.normal ?_
      have c1 := (st13.at 4 rfl).cell (cw_get 4 R 0 (by decide))
      have hla := low_and R
      rw [HPAR.out] at hla
      go_wp2_with (with_reducible refine wl_stop (o := ⟨some 48, _, _, _, _, _⟩) ?_)
      refine wl_loadSt st13 0 rfl rfl rfl Try.underlying40 rfl rfl (by first | (rw [cw_len]; kernel_rfl) | (simp only [List.length_append, cw_len]; kernel_rfl)) ?_
      go_wp2_with (with_reducible refine wl_stop (o := ⟨some 49, _, _, _, _, _⟩) ?_)
      refine wl_loadS st13 4 rfl rfl rfl Try.underlying38 rfl (by first | (rw [cw_len]; kernel_rfl) | (simp only [List.length_append, cw_len]; kernel_rfl)) ?_
      go_wp2_with fail
      refine (Neg_any p R _ HRP.out HP.out HR4.out).mono ?_
      rintro e' w14 ⟨rfl, hf14⟩
      have st14 := st13.keep hf14
      clear st13 hf14
      go_wp2_with (with_reducible refine wl_stop (o := ⟨none, _, _, _, _, _⟩) ?_)
      refine wl_storeS st14 4 rfl rfl rfl rfl rfl (by first | (simp only [cw_len]; done) | (simp only [List.length_append, cw_len]; done)) (by first | (rw [cw_len]; kernel_rfl) | (simp only [List.length_append, cw_len]; kernel_rfl)) (cw_one _ _) ?_
      intro w15 st15
      clear st14
      go_wp2_with (with_reducible refine wl_stop (o := ⟨some 51, _, _, _, _, _⟩) ?_)
      refine wl_loadS st15 4 rfl rfl rfl Try.underlying38 rfl (by first | (rw [cw_len]; kernel_rfl) | (simp only [List.length_append, cw_len]; kernel_rfl)) ?_
      go_wp2_with (with_reducible refine wl_stop (o := ⟨none, _, _, _, _, _⟩) ?_)
      refine wl_storeS st15 2 rfl rfl rfl rfl rfl (by first | (simp only [cw_len]; done) | (simp only [List.length_append, cw_len]; done)) (by first | (rw [cw_len]; kernel_rfl) | (simp only [List.length_append, cw_len]; kernel_rfl)) (cw_one _ _) ?_
      intro w16 st16
      clear st15
      have hr := st16.at 2 rfl
      have hfr := st16.fr
      clear st16
      go_wp2_with fail
      exact bodyPost_ret (results_arr2 rfl rfl hr Try.underlying38 (by first | (rw [cw_len]; kernel_rfl) | (simp only [List.length_append, cw_len]; kernel_rfl)) rfl) rfl ⟨rfl, hfr⟩
end Go.Proofs.Ytmegaegedlbckaa

/- The law NumRoots. -/
namespace Go.Proofs.Ytmegaegedlbckaa
open Go.RowKit Go.Mv Mvp
theorem low_k {k : Int} {m : Md} (h : KindOf k m) : lw (m.M / 4) 0 + 1 < 18446744073709551616 := by
  cases h
  · decide
  · decide
theorem FSqrt_ok (p a : Nat) (w : World) (hp1 : 1 < p) (hp : p < B64 ^ 4) (ha : a < p) (hlow : lw (p / 4) 0 + 1 < 18446744073709551616) (hr : rtOk p a = true) :
    Calls Try.prog 35 #[fv p, i4 a] w fun e w' => e = .returned (.tuple #[i4 (rtV p a % p), .bool true]) ∧ Fr Nob w w' := by
  unfold rtOk at hr
  unfold rtV
  unfold rtN at *
  have hn4 : p / 4 + 1 < B64 ^ 4 := by omega
  generalize hn : p / 4 + 1 = n at *
  have hpow := fun wx => Pow_any p a n wx hp1 hp (Nat.lt_trans ha hp) hn4
  have hR : a ^ n % p < p := Nat.mod_lt _ (by omega)
  rw [Nat.mul_mod, Nat.mod_eq_of_lt ha] at hr
  have hsame : a ^ n % p = a ^ n % p % p := (Nat.mod_mod _ _).symm
  generalize hRR : a ^ n % p = R at *
  have hb : decide (R * R % p = a) = true := by simpa using hr
  by_cases hpar : R % 2 = 1
  · rw [if_pos hpar]
    exact FSqrt_odd p a n R w (by omega) hp hn hn4 (Nat.lt_trans ha hp) hlow hR hpow hb hpar
  · rw [if_neg hpar, hRR]
    exact FSqrt_even p a n R w (by omega) hp hn hn4 (Nat.lt_trans ha hp) hlow hR hpow hb (by omega)
theorem FSqrt_bad (p a : Nat) (w : World) (hp1 : 1 < p) (hp : p < B64 ^ 4) (ha : a < p) (hlow : lw (p / 4) 0 + 1 < 18446744073709551616) (hr : rtOk p a = false) :
    Calls Try.prog 35 #[fv p, i4 a] w fun e w' => e = .returned (.tuple #[i4 0, .bool false]) ∧ Fr Nob w w' := by
  unfold rtOk at hr
  unfold rtN at *
  have hn4 : p / 4 + 1 < B64 ^ 4 := by omega
  generalize hn : p / 4 + 1 = n at *
  have hpow := fun wx => Pow_any p a n wx hp1 hp (Nat.lt_trans ha hp) hn4
  have hR : a ^ n % p < p := Nat.mod_lt _ (by omega)
  rw [Nat.mul_mod, Nat.mod_eq_of_lt ha] at hr
  generalize hRR : a ^ n % p = R at *
  have hb : decide (R * R % p = a) = false := by simpa using hr
  exact FSqrt_no p a n R w (by omega) hp hn hn4 (Nat.lt_trans ha hp) hlow hR hpow hb
attribute [local irreducible] limbs lw mix cw cSub cAdd cMul foldC valFrom beN laid be32 powm montT mstep elN mdL lentL numB numsB elCells rtN rtOk rtV

set_option maxHeartbeats 16000000 in
set_option maxRecDepth 1000000 in
theorem law_NumRoots_x (k : Int) (s : ByteArray) (w : World) (hs : s.size ≤ 16384) (h0 : (k == 0) = false) :
    Calls Try.prog 7 #[.int .i64 k, .string s] w fun e w' => e = .returned (.bool true) ∧ Fr Nob w w' := by
  have hgs : ¬ ((16384 : Int) < (s.size : Int)) := by omega
  have HS := Lib.hid hs
  clear hs
  have H0 := Lib.hid h0
  have h1 : (k != 0) = true := by simp only [bne, h0]; rfl
  have H1 := Lib.hid h1
  clear h0 h1
  go_enter Try.func7, Try.ntmps7
  go_wp2_with (with_reducible refine wl_stop (o := ⟨some 17, _, _, _, _, _⟩) ?_)
  refine wl_bytes (q := s) rfl rfl Try.underlying9 Try.underlying29 Try.underlying5 rfl (by have := HS.out; unfold maxLen; omega) w.heap.size (Nat.le_refl _) ?_
  intro cap w1 hown1 hf1 hz1
  clear hz1
  have HPA : Hid (BPart w1 (.slice (some ⟨w.heap.size, 0, none⟩) s.size cap) s.data.toList) := Lib.hid (by
    obtain ⟨a, c, e, hc, hr, -⟩ := hown1.form
    exact ⟨a, s.size, c, e, by omega, by rw [Nat.mul_one] at hr; exact hr⟩)
  have HF1 := Lib.hid hf1
  clear hown1 hf1
  generalize w.heap.size = gi at *
  go_wp2_with fail
  refine (NSqrt_x k _ _ H0.out).mono ?_
  rintro e w2 ⟨rfl, hf2⟩
  have hfr := HF1.out.then hf2
  have h1 := H1.out
  clear hf2
  go_wp2_with fail
  go_ret
  exact ⟨rfl, hfr⟩

set_option maxHeartbeats 16000000 in
set_option maxRecDepth 1000000 in
theorem law_NumRoots_bad (m : Md) (hk : KindOf 0 m) (s : ByteArray) (w : World) (hs : s.size ≤ 16384) (ha : numB m s.data.toList = false) :
    Calls Try.prog 7 #[.int .i64 0, .string s] w fun e w' => e = .returned (.bool true) ∧ Fr Nob w w' := by
  have hgs : ¬ ((16384 : Int) < (s.size : Int)) := by omega
  have HS := Lib.hid hs
  clear hs
  have HK := Lib.hid hk
  have HA := Lib.hid ha
  have HG := Lib.hid (show numsB m [s.data.toList] = false by unfold numsB; simp only [List.all_cons, List.all_nil, ha]; rfl)
  have HLOW := Lib.hid (low_k hk)
  clear hk ha
  go_enter Try.func7, Try.ntmps7
  go_wp2_with (with_reducible refine wl_stop (o := ⟨some 17, _, _, _, _, _⟩) ?_)
  refine wl_bytes (q := s) rfl rfl Try.underlying9 Try.underlying29 Try.underlying5 rfl (by have := HS.out; unfold maxLen; omega) w.heap.size (Nat.le_refl _) ?_
  intro cap w1 hown1 hf1 hz1
  clear hz1
  have HPA : Hid (BPart w1 (.slice (some ⟨w.heap.size, 0, none⟩) s.size cap) s.data.toList) := Lib.hid (by
    obtain ⟨a, c, e, hc, hr, -⟩ := hown1.form
    exact ⟨a, s.size, c, e, by omega, by rw [Nat.mul_one] at hr; exact hr⟩)
  have HF1 := Lib.hid hf1
  clear hown1 hf1
  generalize w.heap.size = gi at *
  go_wp2_with fail
  refine (NSqrt_bad m HK.out _ _ _ HPA.out HG.out).mono ?_
  rintro e w2 ⟨rfl, hf2⟩
  have HF2 := Lib.hid (HF1.out.then hf2)
  clear hf2
  have st0 := St.start Nob w2
  go_wp2_with fail
  refine (MakeK HK.out _).mono ?_
  rintro e' w3 ⟨rfl, hf3⟩
  have st3 := st0.keep hf3
  clear st0 hf3
  go_wp2_with (with_reducible refine wl_stop (o := ⟨some 7, _, _, _, _, _⟩) ?_)
  refine wl_allocS st3 rfl rfl (z := .agg #[.int .u64 0, .int .u64 0, .int .u64 0, .int .u64 0, .int .u64 0, .int .u64 0, .int .u64 0, .int .u64 0]) (by kernel_rfl) (cw 8 0) (by rw [cw_zero]; rfl) ?_
  intro g7 w4 st4
  clear st3
  go_wp2_with (with_reducible refine wl_stop (o := ⟨none, _, _, _, _, _⟩) ?_)
  refine wl_storeS st4 0 rfl rfl rfl rfl rfl (by first | (simp only [cw_len]; done) | (simp only [List.length_append, cw_len]; done)) (by first | (rw [cw_len]; kernel_rfl) | (simp only [List.length_append, cw_len]; kernel_rfl)) (cw2_one _ _ _ _) ?_
  intro w5 st5
  clear st4
  go_wp2_with (with_reducible refine wl_stop (o := ⟨some 32, _, _, _, _, _⟩) ?_)
  refine wl_loadSt st5 0 rfl rfl rfl Try.underlying40 rfl rfl (by first | (rw [cw_len]; kernel_rfl) | (simp only [List.length_append, cw_len]; kernel_rfl)) ?_
  go_wp2_with fail
  refine (Number_f m HK.out.ok.lt s _ HA.out).mono ?_
  rintro e' w6 ⟨NA, rfl, hf6⟩
  have st6 := st5.keep hf6
  clear st5 hf6
  go_wp2_with (with_reducible refine wl_stop (o := ⟨some 8, _, _, _, _, _⟩) ?_)
  refine wl_allocS st6 rfl rfl (z := .agg #[.int .u64 0, .int .u64 0, .int .u64 0, .int .u64 0]) (by kernel_rfl) (cw 4 0) (by rw [cw_zero]; rfl) ?_
  intro g8 w7 st7
  clear st6
  go_wp2_with (with_reducible refine wl_stop (o := ⟨none, _, _, _, _, _⟩) ?_)
  refine wl_storeS st7 1 rfl rfl rfl rfl rfl (by first | (simp only [cw_len]; done) | (simp only [List.length_append, cw_len]; done)) (by first | (rw [cw_len]; kernel_rfl) | (simp only [List.length_append, cw_len]; kernel_rfl)) (cw_one _ _) ?_
  intro w8 st8
  clear st7
  have hfr := HF2.out.then st8.fr
  clear st8
  go_wp2_with fail
  go_ret
  exact ⟨rfl, hfr⟩

set_option maxHeartbeats 16000000 in
set_option maxRecDepth 1000000 in
theorem law_NumRoots_none (m : Md) (hk : KindOf 0 m) (s : ByteArray) (w : World) (hs : s.size ≤ 16384) (ha : numB m s.data.toList = true) (hr : rtOk m.M (beN s.data.toList) = false) :
    Calls Try.prog 7 #[.int .i64 0, .string s] w fun e w' => e = .returned (.bool true) ∧ Fr Nob w w' := by
  have hgs : ¬ ((16384 : Int) < (s.size : Int)) := by omega
  have HS := Lib.hid hs
  clear hs
  have HK := Lib.hid hk
  have HA := Lib.hid ha
  have HG := Lib.hid (show numsB m [s.data.toList] = true by unfold numsB; simp only [List.all_cons, List.all_nil, ha]; rfl)
  have HLOW := Lib.hid (low_k hk)
  have HLT := Lib.hid (numB_lt m _ ha)
  have HR := Lib.hid hr
  clear hk ha hr
  go_enter Try.func7, Try.ntmps7
  go_wp2_with (with_reducible refine wl_stop (o := ⟨some 17, _, _, _, _, _⟩) ?_)
  refine wl_bytes (q := s) rfl rfl Try.underlying9 Try.underlying29 Try.underlying5 rfl (by have := HS.out; unfold maxLen; omega) w.heap.size (Nat.le_refl _) ?_
  intro cap w1 hown1 hf1 hz1
  clear hz1
  have HPA : Hid (BPart w1 (.slice (some ⟨w.heap.size, 0, none⟩) s.size cap) s.data.toList) := Lib.hid (by
    obtain ⟨a, c, e, hc, hr, -⟩ := hown1.form
    exact ⟨a, s.size, c, e, by omega, by rw [Nat.mul_one] at hr; exact hr⟩)
  have HF1 := Lib.hid hf1
  clear hown1 hf1
  generalize w.heap.size = gi at *
  go_wp2_with fail
  refine (NSqrt_none m HK.out _ _ _ HPA.out HG.out HR.out).mono ?_
  rintro e w2 ⟨rfl, hf2⟩
  have HF2 := Lib.hid (HF1.out.then hf2)
  clear hf2
  have st0 := St.start Nob w2
  go_wp2_with fail
  refine (MakeK HK.out _).mono ?_
  rintro e' w3 ⟨rfl, hf3⟩
  have st3 := st0.keep hf3
  clear st0 hf3
  go_wp2_with (with_reducible refine wl_stop (o := ⟨some 7, _, _, _, _, _⟩) ?_)
  refine wl_allocS st3 rfl rfl (z := .agg #[.int .u64 0, .int .u64 0, .int .u64 0, .int .u64 0, .int .u64 0, .int .u64 0, .int .u64 0, .int .u64 0]) (by kernel_rfl) (cw 8 0) (by rw [cw_zero]; rfl) ?_
  intro g7 w4 st4
  clear st3
  go_wp2_with (with_reducible refine wl_stop (o := ⟨none, _, _, _, _, _⟩) ?_)
  refine wl_storeS st4 0 rfl rfl rfl rfl rfl (by first | (simp only [cw_len]; done) | (simp only [List.length_append, cw_len]; done)) (by first | (rw [cw_len]; kernel_rfl) | (simp only [List.length_append, cw_len]; kernel_rfl)) (cw2_one _ _ _ _) ?_
  intro w5 st5
  clear st4
  go_wp2_with (with_reducible refine wl_stop (o := ⟨some 32, _, _, _, _, _⟩) ?_)
  refine wl_loadSt st5 0 rfl rfl rfl Try.underlying40 rfl rfl (by first | (rw [cw_len]; kernel_rfl) | (simp only [List.length_append, cw_len]; kernel_rfl)) ?_
  go_wp2_with fail
  refine (Number_t m HK.out.ok.lt s _ HA.out).mono ?_
  rintro e' w6 ⟨rfl, hf6⟩
  have st6 := st5.keep hf6
  clear st5 hf6
  go_wp2_with (with_reducible refine wl_stop (o := ⟨some 8, _, _, _, _, _⟩) ?_)
  refine wl_allocS st6 rfl rfl (z := .agg #[.int .u64 0, .int .u64 0, .int .u64 0, .int .u64 0]) (by kernel_rfl) (cw 4 0) (by rw [cw_zero]; rfl) ?_
  intro g8 w7 st7
  clear st6
  go_wp2_with (with_reducible refine wl_stop (o := ⟨none, _, _, _, _, _⟩) ?_)
  refine wl_storeS st7 1 rfl rfl rfl rfl rfl (by first | (simp only [cw_len]; done) | (simp only [List.length_append, cw_len]; done)) (by first | (rw [cw_len]; kernel_rfl) | (simp only [List.length_append, cw_len]; kernel_rfl)) (cw_one _ _) ?_
  intro w8 st8
  clear st7
  go_wp2_with (with_reducible refine wl_stop (o := ⟨some 47, _, _, _, _, _⟩) ?_)
  refine wl_loadSt st8 0 rfl rfl rfl Try.underlying40 rfl rfl (by first | (rw [cw_len]; kernel_rfl) | (simp only [List.length_append, cw_len]; kernel_rfl)) ?_
  go_wp2_with (with_reducible refine wl_stop (o := ⟨some 48, _, _, _, _, _⟩) ?_)
  refine wl_loadS st8 1 rfl rfl rfl Try.underlying38 rfl (by first | (rw [cw_len]; kernel_rfl) | (simp only [List.length_append, cw_len]; kernel_rfl)) ?_
  go_wp2_with fail
  refine (FSqrt_bad m.M (beN s.data.toList) _ HK.out.ok.one HK.out.ok.lt HLT.out HLOW.out HR.out).mono ?_
  rintro e' w9 ⟨rfl, hf9⟩
  have st9 := st8.keep hf9
  clear st8 hf9
  go_wp2_with (with_reducible refine wl_stop (o := ⟨some 10, _, _, _, _, _⟩) ?_)
  refine wl_allocS st9 rfl rfl (z := .agg #[.int .u64 0, .int .u64 0, .int .u64 0, .int .u64 0]) (by kernel_rfl) (cw 4 0) (by rw [cw_zero]; rfl) ?_
  intro g10 w10 st10
  clear st9
  go_wp2_with (with_reducible refine wl_stop (o := ⟨none, _, _, _, _, _⟩) ?_)
  refine wl_storeS st10 2 rfl rfl rfl rfl rfl (by first | (simp only [cw_len]; done) | (simp only [List.length_append, cw_len]; done)) (by first | (rw [cw_len]; kernel_rfl) | (simp only [List.length_append, cw_len]; kernel_rfl)) (cw_one _ _) ?_
  intro w11 st11
  clear st10
  have hfr := HF2.out.then st11.fr
  clear st11
  go_wp2_with fail
  go_ret
  exact ⟨rfl, hfr⟩

set_option maxHeartbeats 16000000 in
set_option maxRecDepth 1000000 in
theorem law_NumRoots_ok (m : Md) (hk : KindOf 0 m) (s : ByteArray) (w : World) (hs : s.size ≤ 16384) (ha : numB m s.data.toList = true) (hr : rtOk m.M (beN s.data.toList) = true) :
    Calls Try.prog 7 #[.int .i64 0, .string s] w fun e w' => e = .returned (.bool true) ∧ Fr Nob w w' := by
  have hgs : ¬ ((16384 : Int) < (s.size : Int)) := by omega
  have HS := Lib.hid hs
  clear hs
  have HK := Lib.hid hk
  have HA := Lib.hid ha
  have HG := Lib.hid (show numsB m [s.data.toList] = true by unfold numsB; simp only [List.all_cons, List.all_nil, ha]; rfl)
  have HLOW := Lib.hid (low_k hk)
  have HLT := Lib.hid (numB_lt m _ ha)
  have HR := Lib.hid hr
  clear hk ha hr
  go_enter Try.func7, Try.ntmps7
  go_wp2_with (with_reducible refine wl_stop (o := ⟨some 17, _, _, _, _, _⟩) ?_)
  refine wl_bytes (q := s) rfl rfl Try.underlying9 Try.underlying29 Try.underlying5 rfl (by have := HS.out; unfold maxLen; omega) w.heap.size (Nat.le_refl _) ?_
  intro cap w1 hown1 hf1 hz1
  clear hz1
  have HPA : Hid (BPart w1 (.slice (some ⟨w.heap.size, 0, none⟩) s.size cap) s.data.toList) := Lib.hid (by
    obtain ⟨a, c, e, hc, hr, -⟩ := hown1.form
    exact ⟨a, s.size, c, e, by omega, by rw [Nat.mul_one] at hr; exact hr⟩)
  have HF1 := Lib.hid hf1
  clear hown1 hf1
  generalize w.heap.size = gi at *
  go_wp2_with fail
  refine (NSqrt_ok m HK.out _ _ _ HPA.out HG.out HR.out).mono ?_
  rintro e w2 ⟨v, rfl, ho, hf2⟩
  obtain ⟨a, c, rfl, -, hr, -⟩ := ho.form
  have HRD := Lib.hid (show RdB w2 a 32 (be32 (rtV m.M (beN s.data.toList) % m.M)) by rw [Nat.mul_one] at hr; exact hr)
  clear ho hr
  have HF2 := Lib.hid (HF1.out.then hf2)
  clear hf2
  have st0 := St.start Nob w2
  go_wp2_with fail
  refine (MakeK HK.out _).mono ?_
  rintro e' w3 ⟨rfl, hf3⟩
  have st3 := st0.keep hf3
  clear st0 hf3
  go_wp2_with (with_reducible refine wl_stop (o := ⟨some 7, _, _, _, _, _⟩) ?_)
  refine wl_allocS st3 rfl rfl (z := .agg #[.int .u64 0, .int .u64 0, .int .u64 0, .int .u64 0, .int .u64 0, .int .u64 0, .int .u64 0, .int .u64 0]) (by kernel_rfl) (cw 8 0) (by rw [cw_zero]; rfl) ?_
  intro g7 w4 st4
  clear st3
  go_wp2_with (with_reducible refine wl_stop (o := ⟨none, _, _, _, _, _⟩) ?_)
  refine wl_storeS st4 0 rfl rfl rfl rfl rfl (by first | (simp only [cw_len]; done) | (simp only [List.length_append, cw_len]; done)) (by first | (rw [cw_len]; kernel_rfl) | (simp only [List.length_append, cw_len]; kernel_rfl)) (cw2_one _ _ _ _) ?_
  intro w5 st5
  clear st4
  go_wp2_with (with_reducible refine wl_stop (o := ⟨some 32, _, _, _, _, _⟩) ?_)
  refine wl_loadSt st5 0 rfl rfl rfl Try.underlying40 rfl rfl (by first | (rw [cw_len]; kernel_rfl) | (simp only [List.length_append, cw_len]; kernel_rfl)) ?_
  go_wp2_with fail
  refine (Number_t m HK.out.ok.lt s _ HA.out).mono ?_
  rintro e' w6 ⟨rfl, hf6⟩
  have st6 := st5.keep hf6
  clear st5 hf6
  go_wp2_with (with_reducible refine wl_stop (o := ⟨some 8, _, _, _, _, _⟩) ?_)
  refine wl_allocS st6 rfl rfl (z := .agg #[.int .u64 0, .int .u64 0, .int .u64 0, .int .u64 0]) (by kernel_rfl) (cw 4 0) (by rw [cw_zero]; rfl) ?_
  intro g8 w7 st7
  clear st6
  go_wp2_with (with_reducible refine wl_stop (o := ⟨none, _, _, _, _, _⟩) ?_)
  refine wl_storeS st7 1 rfl rfl rfl rfl rfl (by first | (simp only [cw_len]; done) | (simp only [List.length_append, cw_len]; done)) (by first | (rw [cw_len]; kernel_rfl) | (simp only [List.length_append, cw_len]; kernel_rfl)) (cw_one _ _) ?_
  intro w8 st8
  clear st7
  go_wp2_with (with_reducible refine wl_stop (o := ⟨some 47, _, _, _, _, _⟩) ?_)
  refine wl_loadSt st8 0 rfl rfl rfl Try.underlying40 rfl rfl (by first | (rw [cw_len]; kernel_rfl) | (simp only [List.length_append, cw_len]; kernel_rfl)) ?_
  go_wp2_with (with_reducible refine wl_stop (o := ⟨some 48, _, _, _, _, _⟩) ?_)
  refine wl_loadS st8 1 rfl rfl rfl Try.underlying38 rfl (by first | (rw [cw_len]; kernel_rfl) | (simp only [List.length_append, cw_len]; kernel_rfl)) ?_
  go_wp2_with fail
  refine (FSqrt_ok m.M (beN s.data.toList) _ HK.out.ok.one HK.out.ok.lt HLT.out HLOW.out HR.out).mono ?_
  rintro e' w9 ⟨rfl, hf9⟩
  have st9 := st8.keep hf9
  clear st8 hf9
  go_wp2_with (with_reducible refine wl_stop (o := ⟨some 10, _, _, _, _, _⟩) ?_)
  refine wl_allocS st9 rfl rfl (z := .agg #[.int .u64 0, .int .u64 0, .int .u64 0, .int .u64 0]) (by kernel_rfl) (cw 4 0) (by rw [cw_zero]; rfl) ?_
  intro g10 w10 st10
  clear st9
  go_wp2_with (with_reducible refine wl_stop (o := ⟨none, _, _, _, _, _⟩) ?_)
  refine wl_storeS st10 2 rfl rfl rfl rfl rfl (by first | (simp only [cw_len]; done) | (simp only [List.length_append, cw_len]; done)) (by first | (rw [cw_len]; kernel_rfl) | (simp only [List.length_append, cw_len]; kernel_rfl)) (cw_one _ _) ?_
  intro w11 st11
  clear st10
  go_wp2_with (with_reducible refine wl_stop (o := ⟨some 63, _, _, _, _, _⟩) ?_)
  refine wl_loadS st11 2 rfl rfl rfl Try.underlying38 rfl (by first | (rw [cw_len]; kernel_rfl) | (simp only [List.length_append, cw_len]; kernel_rfl)) ?_
  go_wp2_with fail
  refine (told_ok a 32 c (rtV m.M (beN s.data.toList) % m.M) _ (HRD.out.still st11.fr)).mono ?_
  rintro e' w12 ⟨rfl, hf12⟩
  have st12 := st11.keep hf12
  clear st11 hf12
  have hfr := HF2.out.then st12.fr
  clear st12
  go_wp2_with fail
  go_ret
  exact ⟨rfl, hfr⟩

set_option maxHeartbeats 16000000 in
set_option maxRecDepth 1000000 in
theorem law_NumRoots (k : Int) (s : ByteArray) (w : World) :
    Calls Try.prog 7 #[.int .i64 k, .string s] w fun e w' => e = .returned (.bool true) ∧ Fr Nob w w' := by
  by_cases hs : 16384 < s.size
  · have hI : (16384 : Int) < (s.size : Int) := by omega
    go_enter Try.func7, Try.ntmps7
    go_wp2
    go_ret
    exact ⟨rfl, Fr.refl _ _⟩
  by_cases h0 : k = 0
  · subst h0
    obtain ⟨m, hk⟩ : ∃ m, KindOf 0 m := ⟨_, .zero⟩
    cases ha : numB m s.data.toList
    · exact law_NumRoots_bad m hk s w (by omega) ha
    · cases hr : rtOk m.M (beN s.data.toList)
      · exact law_NumRoots_none m hk s w (by omega) ha hr
      · exact law_NumRoots_ok m hk s w (by omega) ha hr
  · exact law_NumRoots_x k s w (by omega) (by simpa using h0)
end Go.Proofs.Ytmegaegedlbckaa

/- num's operations between numbers told as 32 bytes; a list of such values kept. -/
namespace Go.Proofs.Ytmegaegedlbckaa
open Go.RowKit Go.Mv Mvp Mvq
/-- values that hold numbers -/
def Kp (w : World) (l : List (Value × Nat)) : Prop := ∀ p ∈ l, BPart w p.1 (be32 p.2)
theorem Kp.nil (w : World) : Kp w [] := fun p hp => absurd hp (by simp)
theorem Kp.still {w w' : World} {l : List (Value × Nat)} (h : Kp w l) (hf : Fr Nob w w') : Kp w' l := fun p hp => (h p hp).still hf
theorem Kp.add {w w' : World} {l : List (Value × Nat)} {v : Value} {x : Nat} (h : Kp w l) (hf : Fr Nob w w') (hv : BPart w' v (be32 x)) : Kp w' (l ++ [(v, x)]) := by
  intro p hp
  rcases List.mem_append.1 hp with h1 | h1
  · exact (h p h1).still hf
  · simp only [List.mem_singleton] at h1; subst h1; exact hv
theorem Kp.get {w : World} {l : List (Value × Nat)} (h : Kp w l) (i : Nat) {v : Value} {x : Nat} (hi : l[i]? = some (v, x)) : BPart w v (be32 x) := h (v, x) (List.mem_of_getElem? hi)
theorem Kp.rd {w : World} {l : List (Value × Nat)} (h : Kp w l) (i : Nat) {a : Option Addr} {c x : Nat} (hi : l[i]? = some (.slice a 32 c, x)) : RdB w a 32 (be32 x) := by
  obtain ⟨a', n, c', e, -, hr⟩ := h.get i hi
  simp only [Value.slice.injEq] at e
  obtain ⟨rfl, rfl, rfl⟩ := e
  exact hr
theorem b256 : B64 ^ 4 = 256 ^ 32 := by decide
theorem numB_be (m : Md) (hok : m.Ok) (x : Nat) (h : x < m.M) : numB m (be32 x) = true := by
  unfold numB
  rw [beN_be32 x (by rw [← b256]; exact Nat.lt_trans h hok.lt), be32_len, decide_eq_true h]; rfl
theorem beN_v (m : Md) (hok : m.Ok) (x : Nat) (h : x < m.M) : beN (be32 x) = x := beN_be32 x (by rw [← b256]; exact Nat.lt_trans h hok.lt)
theorem numsB_two (m : Md) (hok : m.Ok) (x y : Nat) (h : x < m.M) (h2 : y < m.M) : numsB m [be32 x, be32 y] = true := by
  unfold numsB; simp only [List.all_cons, List.all_nil, numB_be m hok x h, numB_be m hok y h2]; rfl
theorem numsB_un (m : Md) (hok : m.Ok) (x : Nat) (h : x < m.M) : numsB m [be32 x] = true := by
  unfold numsB; simp only [List.all_cons, List.all_nil, numB_be m hok x h]; rfl
theorem own_val {w : World} {base : Nat} {v : Value} {x : Nat} (h : Own w base 5 1 v 32 (bs (be32 x))) : ∃ a c, v = .slice a 32 c ∧ BPart w (.slice a 32 c) (be32 x) := by
  obtain ⟨a, c, rfl, hc, hr, -⟩ := h.form
  exact ⟨a, c, rfl, a, 32, c, rfl, hc, by rw [Nat.mul_one] at hr; exact hr⟩
theorem NAdd_v (k : Int) (m : Md) (hk : KindOf k m) (va vb : Value) (a b r : Nat) (w : World) (ha : BPart w va (be32 a)) (hb : BPart w vb (be32 b)) (la : a < m.M) (lb : b < m.M) (hr : (a + b) % m.M = r) :
    Calls Try.prog 25 #[.int .i64 k, va, vb] w fun e w' => ∃ p c, e = .returned (.tuple #[.slice p 32 c, .int .i64 0]) ∧ BPart w' (.slice p 32 c) (be32 r) ∧ Fr Nob w w' := by
  refine (NAdd_ok k m hk va vb _ _ w ha hb (numsB_two m hk.ok a b la lb)).mono fun e w' h => ?_
  obtain ⟨v, h1, h2, h3⟩ := h
  rw [beN_v m hk.ok a la, beN_v m hk.ok b lb, hr] at h2
  obtain ⟨p, c, rfl, hp⟩ := own_val h2
  exact ⟨p, c, h1, hp, h3⟩
theorem NSub_v (k : Int) (m : Md) (hk : KindOf k m) (va vb : Value) (a b r : Nat) (w : World) (ha : BPart w va (be32 a)) (hb : BPart w vb (be32 b)) (la : a < m.M) (lb : b < m.M) (hr : (a + (m.M - b)) % m.M = r) :
    Calls Try.prog 26 #[.int .i64 k, va, vb] w fun e w' => ∃ p c, e = .returned (.tuple #[.slice p 32 c, .int .i64 0]) ∧ BPart w' (.slice p 32 c) (be32 r) ∧ Fr Nob w w' := by
  refine (NSub_ok k m hk va vb _ _ w ha hb (numsB_two m hk.ok a b la lb)).mono fun e w' h => ?_
  obtain ⟨v, h1, h2, h3⟩ := h
  rw [beN_v m hk.ok a la, beN_v m hk.ok b lb, Nat.mod_eq_of_lt lb, hr] at h2
  obtain ⟨p, c, rfl, hp⟩ := own_val h2
  exact ⟨p, c, h1, hp, h3⟩
theorem NMul_v (k : Int) (m : Md) (hk : KindOf k m) (va vb : Value) (a b r : Nat) (w : World) (ha : BPart w va (be32 a)) (hb : BPart w vb (be32 b)) (la : a < m.M) (lb : b < m.M) (hr : a * b % m.M = r) :
    Calls Try.prog 27 #[.int .i64 k, va, vb] w fun e w' => ∃ p c, e = .returned (.tuple #[.slice p 32 c, .int .i64 0]) ∧ BPart w' (.slice p 32 c) (be32 r) ∧ Fr Nob w w' := by
  refine (NMul_ok k m hk va vb _ _ w ha hb (numsB_two m hk.ok a b la lb)).mono fun e w' h => ?_
  obtain ⟨v, h1, h2, h3⟩ := h
  rw [beN_v m hk.ok a la, beN_v m hk.ok b lb, hr] at h2
  obtain ⟨p, c, rfl, hp⟩ := own_val h2
  exact ⟨p, c, h1, hp, h3⟩
theorem NInv_v (k : Int) (m : Md) (hk : KindOf k m) (va : Value) (a r : Nat) (w : World) (ha : BPart w va (be32 a)) (la : a < m.M) (hr : a ^ (m.M - 2) % m.M = r) :
    Calls Try.prog 28 #[.int .i64 k, va] w fun e w' => ∃ p c, e = .returned (.tuple #[.slice p 32 c, .int .i64 0]) ∧ BPart w' (.slice p 32 c) (be32 r) ∧ Fr Nob w w' := by
  refine (NInv_ok k m hk va _ w ha (numsB_un m hk.ok a la)).mono fun e w' h => ?_
  obtain ⟨v, h1, h2, h3⟩ := h
  rw [beN_v m hk.ok a la, hr] at h2
  obtain ⟨p, c, rfl, hp⟩ := own_val h2
  exact ⟨p, c, h1, hp, h3⟩
theorem NSqrt_v (m : Md) (hk : KindOf 0 m) (va : Value) (a r : Nat) (w : World) (ha : BPart w va (be32 a)) (la : a < m.M) (ho : rtOk m.M a = true) (hr : rtV m.M a % m.M = r) :
    Calls Try.prog 34 #[.int .i64 0, va] w fun e w' => ∃ p c, e = .returned (.tuple #[.slice p 32 c, .int .i64 0]) ∧ BPart w' (.slice p 32 c) (be32 r) ∧ Fr Nob w w' := by
  refine (NSqrt_ok m hk va _ w ha (numsB_un m hk.ok a la) (by rw [beN_v m hk.ok a la]; exact ho)).mono fun e w' h => ?_
  obtain ⟨v, h1, h2, h3⟩ := h
  rw [beN_v m hk.ok a la, hr] at h2
  obtain ⟨p, c, rfl, hp⟩ := own_val h2
  exact ⟨p, c, h1, hp, h3⟩
theorem NReduce_v (k : Int) (m : Md) (hk : KindOf k m) (va : Value) (l : List UInt8) (r : Nat) (w : World) (ha : BPart w va l) (hl : l.length ≤ 1024) (hr : beN l % m.M = r) :
    Calls Try.prog 13 #[.int .i64 k, va] w fun e w' => ∃ p c, e = .returned (.tuple #[.slice p 32 c, .int .i64 0]) ∧ BPart w' (.slice p 32 c) (be32 r) ∧ Fr Nob w w' := by
  obtain ⟨a, n, c, rfl, hc, hb⟩ := ha
  refine (NReduce_k k m hk a n c l w hb hc (by rw [← hb.len]; exact hl)).mono fun e w' h => ?_
  obtain ⟨v, h1, h2, h3⟩ := h
  rw [hr] at h2
  obtain ⟨p, c, rfl, hp⟩ := own_val h2
  exact ⟨p, c, h1, hp, h3⟩
theorem be32_zero : be32 0 = List.replicate 32 0 := by decide
theorem be32_one : be32 1 = (List.replicate 32 0).set 31 1 := by decide
theorem be32_low (x : Nat) : (be32 x)[31]? = some (UInt8.ofNat x) := by
  have h := be32_get x 31 (by omega)
  rw [List.getD_eq_getElem?_getD] at h
  have hl : 31 < (be32 x).length := by rw [be32_len]; omega
  rw [List.getElem?_eq_getElem hl] at h ⊢
  simp only [Option.getD_some] at h
  rw [h]; simp
end Go.Proofs.Ytmegaegedlbckaa

/- num.Dot: what it answers. -/
namespace Mvp
def nthN (ls : List (List UInt8)) (i : Nat) : Nat := beN (ls.getD i [])
/-- the sum of the first products -/
def dotN (la lb : List (List UInt8)) : Nat → Nat
  | 0 => 0
  | i + 1 => dotN la lb i + nthN la i * nthN lb i
theorem dotN_zero (la lb : List (List UInt8)) : dotN la lb 0 = 0 := rfl
theorem dotN_succ (la lb : List (List UInt8)) (i : Nat) : dotN la lb i + nthN la i * nthN lb i = dotN la lb (i + 1) := rfl
end Mvp
namespace Go.Proofs.Ytmegaegedlbckaa
open Go.RowKit Go.Mv Mvp
theorem el_nth (m : Md) (ls : List (List UInt8)) (i : Nat) (h : i < ls.length) : ((elCells m ls).drop (i * 4)).take (cw 4 (elN m (nthN ls i))).length = cw 4 (elN m (nthN ls i)) := by
  rw [cw_len]; exact elCells_at m ls i h
attribute [local irreducible] limbs lw mix cw cSub cAdd cMul foldC valFrom beN laid be32 powm montT mstep elN mdL elCells numsB numB dotN nthN

set_option maxHeartbeats 8000000 in
set_option maxRecDepth 1000000 in
theorem NDot_ok (k : Int) (al : Option Addr) (na ca : Nat) (vs : List Value) (la : List (List UInt8)) (bl : Option Addr) (nb cb : Nat) (us : List Value) (lb : List (List UInt8)) (w : World) (m : Md) (hk : KindOf k m) (hva : Rd w al na vs) (hpa : BParts w vs la) (hvb : Rd w bl nb us) (hpb : BParts w us lb) (hla : la.length = na) (hlb : lb.length = nb) (hn : na ≤ 256) (hab : na = nb) (hga : numsB m la = true) (hgb : numsB m lb = true) :
    Calls Try.prog 21 #[.int .i64 k, .slice al na ca, .slice bl nb cb] w fun e w' => ∃ v, e = .returned (.tuple #[v, .int .i64 0]) ∧ Own w' w.heap.size 5 1 v 32 (bs (be32 (dotN la lb la.length % m.M))) ∧ Fr Nob w w' := by
  subst hab; subst hla
  have HK := Lib.hid hk
  have HOK := Lib.hid hk.ok
  have HVA := Lib.hid hva
  have HPA := Lib.hid hpa
  have HVB := Lib.hid hvb
  have HPB := Lib.hid hpb
  have HGA := Lib.hid hga
  have HGB := Lib.hid hgb
  have HLB := Lib.hid hlb
  have HZ := Lib.hid (show elN m (dotN la lb 0) = 0 by rw [dotN_zero]; exact el_zero m)
  clear hk hva hpa hvb hpb hga hgb
  have hna : ¬ ((256 : Int) < (la.length : Int)) := by omega
  go_enter Try.func21, Try.ntmps21
  go_wp2_with fail
  refine (OfK HK.out _).mono ?_
  rintro e w1 ⟨gp, rfl, hgg, hm, hf⟩
  clear hgg
  have HM := Lib.hid hm
  have HF := Lib.hid hf
  clear hm hf
  go_wp2_with fail
  refine (read_any m gp al la.length ca vs la _ HK.out.ok HM.out (HVA.out.still HF.out) (HPA.out.still HF.out) (by omega)).mono ?_
  rintro e w2 ⟨hgood, -, hf2⟩
  obtain ⟨va, rfl, hown⟩ := hgood HGA.out
  obtain ⟨ea, cea, rfl, -, hre, -⟩ := hown.form
  have HRA := Lib.hid hre
  clear hgood hown hre
  have HF2 := Lib.hid hf2
  have HFF := Lib.hid (HF.out.then hf2)
  clear hf2
  go_wp2_with fail
  refine (read_any m gp bl la.length cb us lb _ HK.out.ok (HM.out.keep HF2.out id) (HVB.out.still HFF.out) (HPB.out.still HFF.out) (by omega)).mono ?_
  rintro e w3 ⟨hgood, -, hf3⟩
  obtain ⟨vb, rfl, hown⟩ := hgood HGB.out
  rw [HLB.out] at hown
  obtain ⟨eb, ceb, rfl, -, hre, -⟩ := hown.form
  have HRB := Lib.hid hre
  clear hgood hown hre
  have HRA3 := Lib.hid (HRA.out.still hf3)
  have HPM3 := Lib.hid (HM.out.keep (HF2.out.then hf3) id)
  have HF3 := Lib.hid (HFF.out.then hf3)
  clear hf3 HRA HM HF HF2 HFF
  rename Hid (Rd w3 ea _ _) => HRA
  have st0 := St.start Nob w3
  go_wp2_with (with_reducible refine wl_stop (o := ⟨some 13, _, _, _, _, _⟩) ?_)
  refine wl_allocS st0 rfl rfl (z := .agg #[.int .u64 0, .int .u64 0, .int .u64 0, .int .u64 0]) (by kernel_rfl) (cw 4 0) (by rw [cw_zero]; rfl) ?_
  intro g13 w4 st4
  clear st0
  go_wp2
  go_loopw [60] (fun x wr => ∃ i : Nat, i ≤ la.length ∧ x = .int .i64 (i : Int) ∧ St Nob w3 wr [(g13, cw 4 (elN m (dotN la lb i)), 81)]) (fun x _ => la.length - (intOf x).toNat)
  case atStart => exact ⟨0, by omega, rfl, by rw [HZ.out]; exact st4⟩
  case round =>
    obtain ⟨i, hi, rfl, st⟩ := hrel
    clear st4
    by_cases hlt : i < la.length
    · have hltI : (i : Int) < (la.length : Int) := by omega
      have HIA := Lib.hid hlt
      have HIB := Lib.hid (show i < lb.length by have := HLB.out; omega)
      obtain ⟨ba, oa, hea, -⟩ := HRA.out.at (by omega)
      obtain ⟨bb, ob, heb, -⟩ := HRB.out.at (by have := HLB.out; omega)
      subst hea heb
      go_wp2_with (with_reducible refine wl_stop (o := ⟨some 64, _, _, _, _, _⟩) ?_)
      refine wl_loadR rfl rfl Try.underlying81 rfl rfl (rd_at (HRA.out.still st.fr) (i * 4) (cw 4 (elN m (nthN la i))) (el_nth m la i HIA.out)) (by first | (rw [cw_len]; kernel_rfl) | (simp only [List.length_append, cw_len]; kernel_rfl)) ?_
      go_wp2_with (with_reducible refine wl_stop (o := ⟨some 15, _, _, _, _, _⟩) ?_)
      refine wl_allocS st rfl rfl (z := .agg #[.int .u64 0, .int .u64 0, .int .u64 0, .int .u64 0]) (by kernel_rfl) (cw 4 0) (by rw [cw_zero]; rfl) ?_
      intro g15 w5 st5
      clear st
      go_wp2_with (with_reducible refine wl_stop (o := ⟨none, _, _, _, _, _⟩) ?_)
      refine wl_storeS st5 1 rfl rfl rfl rfl rfl (by first | (simp only [cw_len]; done) | (simp only [List.length_append, cw_len]; done)) (by first | (rw [cw_len]; kernel_rfl) | (simp only [List.length_append, cw_len]; kernel_rfl)) (cw_one _ _) ?_
      intro w6 st6
      clear st5
      go_wp2_with fail
      refine wp_region_noPanic ?_
      refine wp_region_plan (fun wx => St Nob w3 wx [(g13, cw 4 (elN m (dotN la lb i)), 81), (g15, cw 4 (elN m (nthN la i)), 81)]) 10 (.w 0 (.t 1 (.w 2 (.t 3 (.w 4 (.w 5 (.w 6 (.t 7 (.r 8 (.r 9 (.m 10 .nil))))))))))) (by kernel_rfl) (by kernel_rfl) st6.drew (fun _ _ _ _ _ h => h) ?_
      have hd6 := st6.drew
      clear st6
      refine plan_w (v := ?_) rfl rfl (fun wx => ?_) ?_
      rotate_left 1
      · (go_simp; with_reducible rfl)
      try simp only [Act.put, List.setIfInBounds_toArray, List.set_cons_zero, List.set_cons_succ]
      refine plan_arr rfl rfl rfl rfl (cw 4 (elN m (dotN la lb i))) (fun wx hS => St.rangeL hS 0 rfl 0 _ (by rw [List.drop_zero, List.take_of_length_le (Nat.le_refl _)])) Try.underlying81 rfl (by first | (rw [cw_len]; kernel_rfl) | (simp only [List.length_append, cw_len]; kernel_rfl)) ?_
      try simp only [Act.put, List.setIfInBounds_toArray, List.set_cons_zero, List.set_cons_succ]
      refine plan_w (v := ?_) rfl rfl (fun wx => ?_) ?_
      rotate_left 1
      · (go_simp; with_reducible rfl)
      try simp only [Act.put, List.setIfInBounds_toArray, List.set_cons_zero, List.set_cons_succ]
      refine plan_arr rfl rfl rfl rfl (cw 4 (elN m (nthN la i))) (fun wx hS => St.rangeL hS 1 rfl 0 _ (by rw [List.drop_zero, List.take_of_length_le (Nat.le_refl _)])) Try.underlying81 rfl (by first | (rw [cw_len]; kernel_rfl) | (simp only [List.length_append, cw_len]; kernel_rfl)) ?_
      try simp only [Act.put, List.setIfInBounds_toArray, List.set_cons_zero, List.set_cons_succ]
      refine plan_w (v := ?_) rfl rfl (fun wx => ?_) ?_
      rotate_left 1
      · (go_simp; with_reducible rfl)
      try simp only [Act.put, List.setIfInBounds_toArray, List.set_cons_zero, List.set_cons_succ]
      refine plan_w (v := ?_) rfl rfl (fun wx => ?_) ?_
      rotate_left 1
      · (go_simp; with_reducible rfl)
      try simp only [Act.put, List.setIfInBounds_toArray, List.set_cons_zero, List.set_cons_succ]
      refine plan_w (v := ?_) rfl rfl (fun wx => ?_) ?_
      rotate_left 1
      · (go_simp; with_reducible rfl)
      try simp only [Act.put, List.setIfInBounds_toArray, List.set_cons_zero, List.set_cons_succ]
      refine plan_arr rfl rfl rfl rfl (cw 4 (elN m (nthN lb i))) (fun wx hS => (rd_range (HRB.out.still (St.fr hS)) (i * 4) _ (el_nth m lb i HIB.out))) Try.underlying81 rfl (by first | (rw [cw_len]; kernel_rfl) | (simp only [List.length_append, cw_len]; kernel_rfl)) ?_
      try simp only [Act.put, List.setIfInBounds_toArray, List.set_cons_zero, List.set_cons_succ]
      refine plan_r rfl rfl ?_
      go_simp
      refine (MMulE m gp _ HOK.out (HPM3.out.keep hd6.fr id) (nthN la i) (nthN lb i)).mono ?_
      rintro e' w7 ⟨rfl, hf7⟩
      have st7 := hd6.keep hf7
      clear hf7
      clear hd6
      refine ⟨st7, ?_⟩
      try simp only [Act.put, List.setIfInBounds_toArray, List.set_cons_zero, List.set_cons_succ]
      refine plan_r rfl rfl ?_
      go_simp
      refine (MAdd_any m gp _ HOK.out (HPM3.out.keep st7.fr id) (dotN la lb i) (nthN la i * nthN lb i)).mono ?_
      rintro e' w8 ⟨rfl, hf8⟩
      have st8 := st7.keep hf8
      clear hf8
      clear st7
      refine ⟨st8, ?_⟩
      try simp only [Act.put, List.setIfInBounds_toArray, List.set_cons_zero, List.set_cons_succ]
      refine plan_m rfl rfl ?_
      refine wp_storeS st8 0 rfl rfl rfl rfl (by first | (simp only [cw_len]; done) | (simp only [List.length_append, cw_len]; done)) (by first | (rw [cw_len]; kernel_rfl) | (simp only [List.length_append, cw_len]; kernel_rfl)) (cw_one _ _) ?_
      intro w9 st9
      clear st8
      try simp only [Act.put]
      refine plan_end ?_
      refine NoPanic.normal ?_
      go_wp2
      go_roundw
      case rel => exact ⟨i + 1, by omega, by go_num, by rw [← dotN_succ]; exact St.less st9 (by simp)⟩
      case measure => simp [intOf]; omega
    · have hge : ¬ ((i : Int) < (la.length : Int)) := by omega
      have hi2 : i = la.length := by omega
      rw [hi2] at st
      clear hi2
      go_wp2_with (with_reducible refine wl_stop (o := ⟨some 77, _, _, _, _, _⟩) ?_)
      refine wl_loadS st 0 rfl rfl rfl Try.underlying81 rfl (by first | (rw [cw_len]; kernel_rfl) | (simp only [List.length_append, cw_len]; kernel_rfl)) ?_
      have HPM5 := Lib.hid (HPM3.out.keep st.fr id)
      have HF5 := Lib.hid (HF3.out.then st.fr)
      clear st
      go_wp2_with fail
      refine (MFrom_any m gp _ HK.out.ok HPM5.out (dotN la lb la.length)).mono ?_
      rintro e w6 ⟨rfl, hf6⟩
      have HF6 := Lib.hid (HF5.out.then hf6)
      clear hf6
      go_wp2_with fail
      refine (MBytes_any (dotN la lb la.length % m.M) _).mono ?_
      rintro e w7 ⟨v, rfl, hown7, hf7⟩
      have h2 := HF6.out.then hf7
      have ho := hown7.mono HF6.out.size
      clear hown7 hf7 HF6 HF5 HPM5
      go_wp2_with fail
      go_ret2
      exact ⟨v, rfl, ho, h2⟩


set_option maxHeartbeats 8000000 in
set_option maxRecDepth 1000000 in
theorem NDot_x (k : Int) (va vb : Value) (w : World) (h0 : (k == 0) = false) (h1 : (k == 1) = false) :
    Calls Try.prog 21 #[.int .i64 k, va, vb] w fun e w' => e = .returned (.tuple #[.slice none 0 0, .int .i64 2]) ∧ w = w' := by
  have H0 := Lib.hid h0
  have H1 := Lib.hid h1
  clear h0 h1
  go_enter Try.func21, Try.ntmps21
  go_wp2_with fail
  refine (Of2 k _ H0.out H1.out).mono ?_
  rintro e w1 ⟨rfl, rfl⟩
  go_wp2_with fail
  go_ret2
  exact ⟨rfl, rfl⟩

set_option maxHeartbeats 8000000 in
set_option maxRecDepth 1000000 in
theorem NDot_longA (k : Int) (al : Option Addr) (na ca : Nat) (bl : Option Addr) (nb cb : Nat) (w : World) (m : Md) (hk : KindOf k m) (hn : 256 < na) :
    Calls Try.prog 21 #[.int .i64 k, .slice al na ca, .slice bl nb cb] w fun e w' => e = .returned (.tuple #[.slice none 0 0, .int .i64 1]) ∧ Fr Nob w w' := by
  have HK := Lib.hid hk
  clear hk
  have hna : (256 : Int) < (na : Int) := by omega
  go_enter Try.func21, Try.ntmps21
  go_wp2_with fail
  refine (OfK HK.out _).mono ?_
  rintro e w1 ⟨gp, rfl, hgg, hm, hf⟩
  clear hgg
  have HM := Lib.hid hm
  have HF := Lib.hid hf
  clear hm hf
  clear HM
  go_wp2_with fail
  go_ret2
  exact ⟨rfl, HF.out⟩

set_option maxHeartbeats 8000000 in
set_option maxRecDepth 1000000 in
theorem NDot_longB (k : Int) (al : Option Addr) (na ca : Nat) (bl : Option Addr) (nb cb : Nat) (w : World) (m : Md) (hk : KindOf k m) (hn : na ≤ 256) (hm : 256 < nb) :
    Calls Try.prog 21 #[.int .i64 k, .slice al na ca, .slice bl nb cb] w fun e w' => e = .returned (.tuple #[.slice none 0 0, .int .i64 1]) ∧ Fr Nob w w' := by
  have HK := Lib.hid hk
  clear hk
  have hna : ¬ ((256 : Int) < (na : Int)) := by omega
  have hnb : (256 : Int) < (nb : Int) := by omega
  go_enter Try.func21, Try.ntmps21
  go_wp2_with fail
  refine (OfK HK.out _).mono ?_
  rintro e w1 ⟨gp, rfl, hgg, hm, hf⟩
  clear hgg
  have HM := Lib.hid hm
  have HF := Lib.hid hf
  clear hm hf
  clear HM
  go_wp2_with fail
  go_ret2
  exact ⟨rfl, HF.out⟩

set_option maxHeartbeats 8000000 in
set_option maxRecDepth 1000000 in
theorem NDot_badff (k : Int) (al : Option Addr) (na ca : Nat) (vs : List Value) (la : List (List UInt8)) (bl : Option Addr) (nb cb : Nat) (us : List Value) (lb : List (List UInt8)) (w : World) (m : Md) (hk : KindOf k m) (hva : Rd w al na vs) (hpa : BParts w vs la) (hvb : Rd w bl nb us) (hpb : BParts w us lb) (hla : la.length = na) (hlb : lb.length = nb) (hn : na ≤ 256) (hm : nb ≤ 256) (hga : numsB m la = false) (hgb : numsB m lb = false) :
    Calls Try.prog 21 #[.int .i64 k, .slice al na ca, .slice bl nb cb] w fun e w' => e = .returned (.tuple #[.slice none 0 0, .int .i64 3]) ∧ Fr Nob w w' := by
  have HK := Lib.hid hk
  have HVA := Lib.hid hva
  have HPA := Lib.hid hpa
  have HVB := Lib.hid hvb
  have HPB := Lib.hid hpb
  have HGA := Lib.hid hga
  have HGB := Lib.hid hgb
  clear hk hva hpa hvb hpb hga hgb
  subst hla
  subst hlb
  have hna : ¬ ((256 : Int) < (la.length : Int)) := by omega
  have hnb : ¬ ((256 : Int) < (lb.length : Int)) := by omega
  go_enter Try.func21, Try.ntmps21
  go_wp2_with fail
  refine (OfK HK.out _).mono ?_
  rintro e w1 ⟨gp, rfl, hgg, hm, hf⟩
  clear hgg
  have HM := Lib.hid hm
  have HF := Lib.hid hf
  clear hm hf
  go_wp2_with fail
  refine (read_any m gp al la.length ca vs la _ HK.out.ok HM.out (HVA.out.still HF.out) (HPA.out.still HF.out) (by omega)).mono ?_
  rintro e w2 ⟨-, hbad, hf2⟩
  obtain rfl := hbad HGA.out
  clear hbad
  have HF2 := Lib.hid hf2
  have HFF := Lib.hid (HF.out.then hf2)
  clear hf2
  go_wp2_with fail
  refine (read_any m gp bl lb.length cb us lb _ HK.out.ok (HM.out.keep HF2.out id) (HVB.out.still HFF.out) (HPB.out.still HFF.out) (by omega)).mono ?_
  rintro e w3 ⟨-, hbad, hf3⟩
  obtain rfl := hbad HGB.out
  clear hbad
  have HF3 := Lib.hid (HFF.out.then hf3)
  clear hf3 HM HF HF2 HFF
  skip
  go_wp2_with fail
  go_ret2
  exact ⟨rfl, HF3.out⟩

set_option maxHeartbeats 8000000 in
set_option maxRecDepth 1000000 in
theorem NDot_badft (k : Int) (al : Option Addr) (na ca : Nat) (vs : List Value) (la : List (List UInt8)) (bl : Option Addr) (nb cb : Nat) (us : List Value) (lb : List (List UInt8)) (w : World) (m : Md) (hk : KindOf k m) (hva : Rd w al na vs) (hpa : BParts w vs la) (hvb : Rd w bl nb us) (hpb : BParts w us lb) (hla : la.length = na) (hlb : lb.length = nb) (hn : na ≤ 256) (hm : nb ≤ 256) (hga : numsB m la = false) (hgb : numsB m lb = true) :
    Calls Try.prog 21 #[.int .i64 k, .slice al na ca, .slice bl nb cb] w fun e w' => e = .returned (.tuple #[.slice none 0 0, .int .i64 3]) ∧ Fr Nob w w' := by
  have HK := Lib.hid hk
  have HVA := Lib.hid hva
  have HPA := Lib.hid hpa
  have HVB := Lib.hid hvb
  have HPB := Lib.hid hpb
  have HGA := Lib.hid hga
  have HGB := Lib.hid hgb
  clear hk hva hpa hvb hpb hga hgb
  subst hla
  subst hlb
  have hna : ¬ ((256 : Int) < (la.length : Int)) := by omega
  have hnb : ¬ ((256 : Int) < (lb.length : Int)) := by omega
  go_enter Try.func21, Try.ntmps21
  go_wp2_with fail
  refine (OfK HK.out _).mono ?_
  rintro e w1 ⟨gp, rfl, hgg, hm, hf⟩
  clear hgg
  have HM := Lib.hid hm
  have HF := Lib.hid hf
  clear hm hf
  go_wp2_with fail
  refine (read_any m gp al la.length ca vs la _ HK.out.ok HM.out (HVA.out.still HF.out) (HPA.out.still HF.out) (by omega)).mono ?_
  rintro e w2 ⟨-, hbad, hf2⟩
  obtain rfl := hbad HGA.out
  clear hbad
  have HF2 := Lib.hid hf2
  have HFF := Lib.hid (HF.out.then hf2)
  clear hf2
  go_wp2_with fail
  refine (read_any m gp bl lb.length cb us lb _ HK.out.ok (HM.out.keep HF2.out id) (HVB.out.still HFF.out) (HPB.out.still HFF.out) (by omega)).mono ?_
  rintro e w3 ⟨hgood, -, hf3⟩
  obtain ⟨vb, rfl, hown⟩ := hgood HGB.out
  obtain ⟨eb, ceb, rfl, -, hre, -⟩ := hown.form
  clear hgood hown hre
  have HF3 := Lib.hid (HFF.out.then hf3)
  clear hf3 HM HF HF2 HFF
  skip
  go_wp2_with fail
  go_ret2
  exact ⟨rfl, HF3.out⟩

set_option maxHeartbeats 8000000 in
set_option maxRecDepth 1000000 in
theorem NDot_badtf (k : Int) (al : Option Addr) (na ca : Nat) (vs : List Value) (la : List (List UInt8)) (bl : Option Addr) (nb cb : Nat) (us : List Value) (lb : List (List UInt8)) (w : World) (m : Md) (hk : KindOf k m) (hva : Rd w al na vs) (hpa : BParts w vs la) (hvb : Rd w bl nb us) (hpb : BParts w us lb) (hla : la.length = na) (hlb : lb.length = nb) (hn : na ≤ 256) (hm : nb ≤ 256) (hga : numsB m la = true) (hgb : numsB m lb = false) :
    Calls Try.prog 21 #[.int .i64 k, .slice al na ca, .slice bl nb cb] w fun e w' => e = .returned (.tuple #[.slice none 0 0, .int .i64 3]) ∧ Fr Nob w w' := by
  have HK := Lib.hid hk
  have HVA := Lib.hid hva
  have HPA := Lib.hid hpa
  have HVB := Lib.hid hvb
  have HPB := Lib.hid hpb
  have HGA := Lib.hid hga
  have HGB := Lib.hid hgb
  clear hk hva hpa hvb hpb hga hgb
  subst hla
  subst hlb
  have hna : ¬ ((256 : Int) < (la.length : Int)) := by omega
  have hnb : ¬ ((256 : Int) < (lb.length : Int)) := by omega
  go_enter Try.func21, Try.ntmps21
  go_wp2_with fail
  refine (OfK HK.out _).mono ?_
  rintro e w1 ⟨gp, rfl, hgg, hm, hf⟩
  clear hgg
  have HM := Lib.hid hm
  have HF := Lib.hid hf
  clear hm hf
  go_wp2_with fail
  refine (read_any m gp al la.length ca vs la _ HK.out.ok HM.out (HVA.out.still HF.out) (HPA.out.still HF.out) (by omega)).mono ?_
  rintro e w2 ⟨hgood, -, hf2⟩
  obtain ⟨va, rfl, hown⟩ := hgood HGA.out
  obtain ⟨ea, cea, rfl, -, hre, -⟩ := hown.form
  clear hgood hown hre
  have HF2 := Lib.hid hf2
  have HFF := Lib.hid (HF.out.then hf2)
  clear hf2
  go_wp2_with fail
  refine (read_any m gp bl lb.length cb us lb _ HK.out.ok (HM.out.keep HF2.out id) (HVB.out.still HFF.out) (HPB.out.still HFF.out) (by omega)).mono ?_
  rintro e w3 ⟨-, hbad, hf3⟩
  obtain rfl := hbad HGB.out
  clear hbad
  have HF3 := Lib.hid (HFF.out.then hf3)
  clear hf3 HM HF HF2 HFF
  skip
  go_wp2_with fail
  go_ret2
  exact ⟨rfl, HF3.out⟩

set_option maxHeartbeats 8000000 in
set_option maxRecDepth 1000000 in
theorem NDot_neq (k : Int) (al : Option Addr) (na ca : Nat) (vs : List Value) (la : List (List UInt8)) (bl : Option Addr) (nb cb : Nat) (us : List Value) (lb : List (List UInt8)) (w : World) (m : Md) (hk : KindOf k m) (hva : Rd w al na vs) (hpa : BParts w vs la) (hvb : Rd w bl nb us) (hpb : BParts w us lb) (hla : la.length = na) (hlb : lb.length = nb) (hn : na ≤ 256) (hm : nb ≤ 256) (hne : na ≠ nb) (hga : numsB m la = true) (hgb : numsB m lb = true) :
    Calls Try.prog 21 #[.int .i64 k, .slice al na ca, .slice bl nb cb] w fun e w' => e = .returned (.tuple #[.slice none 0 0, .int .i64 2]) ∧ Fr Nob w w' := by
  have HK := Lib.hid hk
  have HVA := Lib.hid hva
  have HPA := Lib.hid hpa
  have HVB := Lib.hid hvb
  have HPB := Lib.hid hpb
  have HGA := Lib.hid hga
  have HGB := Lib.hid hgb
  clear hk hva hpa hvb hpb hga hgb
  subst hla
  subst hlb
  have hna : ¬ ((256 : Int) < (la.length : Int)) := by omega
  have hnb : ¬ ((256 : Int) < (lb.length : Int)) := by omega
  go_enter Try.func21, Try.ntmps21
  go_wp2_with fail
  refine (OfK HK.out _).mono ?_
  rintro e w1 ⟨gp, rfl, hgg, hm, hf⟩
  clear hgg
  have HM := Lib.hid hm
  have HF := Lib.hid hf
  clear hm hf
  go_wp2_with fail
  refine (read_any m gp al la.length ca vs la _ HK.out.ok HM.out (HVA.out.still HF.out) (HPA.out.still HF.out) (by omega)).mono ?_
  rintro e w2 ⟨hgood, -, hf2⟩
  obtain ⟨va, rfl, hown⟩ := hgood HGA.out
  obtain ⟨ea, cea, rfl, -, hre, -⟩ := hown.form
  clear hgood hown hre
  have HF2 := Lib.hid hf2
  have HFF := Lib.hid (HF.out.then hf2)
  clear hf2
  go_wp2_with fail
  refine (read_any m gp bl lb.length cb us lb _ HK.out.ok (HM.out.keep HF2.out id) (HVB.out.still HFF.out) (HPB.out.still HFF.out) (by omega)).mono ?_
  rintro e w3 ⟨hgood, -, hf3⟩
  obtain ⟨vb, rfl, hown⟩ := hgood HGB.out
  obtain ⟨eb, ceb, rfl, -, hre, -⟩ := hown.form
  clear hgood hown hre
  have HF3 := Lib.hid (HFF.out.then hf3)
  clear hf3 HM HF HF2 HFF
  have hx : ((la.length : Int) == (lb.length : Int)) = false := by simpa using (fun h => hne (by omega))
  go_wp2_with fail
  go_ret2
  exact ⟨rfl, HF3.out⟩
end Go.Proofs.Ytmegaegedlbckaa

/- Pure sponge: what the program's and the reference's permutation compute, and that the two are one. -/
namespace Mvp


def goesTo (i : Nat) : Nat := i / 5 + 5 * ((2 * (i % 5) + 3 * (i / 5)) % 5)

/- the program -/
def colStep (s c : List UInt64) (i : Nat) : List UInt64 := c.set (i % 5) (c.getD (i % 5) 0 ^^^ s.getD i 0)
def colP (s : List UInt64) (k : Nat) : List UInt64 := (List.range k).foldl (colStep s) [0, 0, 0, 0, 0]
def movStep (s col : List UInt64) (by_ : List Nat) (m : List UInt64) (i : Nat) : List UInt64 :=
  m.set (goesTo i) (rotl (s.getD i 0 ^^^ (col.getD ((i + 4) % 5) 0 ^^^ rotl (col.getD ((i + 1) % 5) 0) 1)) (by_.getD i 0))
def movP (s col : List UInt64) (by_ : List Nat) (k : Nat) : List UInt64 := (List.range k).foldl (movStep s col by_) (List.replicate 25 0)
def chiStep (m : List UInt64) (y : Nat) (s : List UInt64) (x : Nat) : List UInt64 :=
  s.set (y + x) (m.getD (y + x) 0 ^^^ (~~~ (m.getD (y + (x + 1) % 5) 0) &&& m.getD (y + (x + 2) % 5) 0))
def chiRow (m s : List UInt64) (y k : Nat) : List UInt64 := (List.range k).foldl (chiStep m y) s
def chiP (m s : List UInt64) (k : Nat) : List UInt64 := (List.range k).foldl (fun s y => chiRow m s (5 * y) 5) s
def roundP (by_ : List Nat) (s : List UInt64) (c : UInt64) : List UInt64 :=
  let t := chiP (movP s (colP s 25) by_ 25) s 5
  t.set 0 (t.getD 0 0 ^^^ c)
def permP (by_ : List Nat) (rc : Nat → UInt64) (s : List UInt64) (k : Nat) : List UInt64 := (List.range k).foldl (fun s r => roundP by_ s (rc r)) s

/- the reference -/
def place (x y : Nat) : Nat := x % 5 + 5 * (y % 5)
def colRstep (s : List UInt64) (x : Nat) (c : List UInt64) (y : Nat) : List UInt64 := c.set x (c.getD x 0 ^^^ s.getD (place x y) 0)
def colRrow (s c : List UInt64) (x k : Nat) : List UInt64 := (List.range k).foldl (colRstep s x) c
def colR (s : List UInt64) (k : Nat) : List UInt64 := (List.range k).foldl (fun c x => colRrow s c x 5) [0, 0, 0, 0, 0]
def movRstep (s : List UInt64) (turn : List Nat) (x : Nat) (d : UInt64) (m : List UInt64) (y : Nat) : List UInt64 :=
  m.set (place y (2 * x + 3 * y)) (rotl (s.getD (place x y) 0 ^^^ d) (turn.getD (place x y) 0))
def movRrow (s : List UInt64) (turn : List Nat) (m : List UInt64) (x : Nat) (d : UInt64) (k : Nat) : List UInt64 := (List.range k).foldl (movRstep s turn x d) m
def dR (col : List UInt64) (x : Nat) : UInt64 := col.getD ((x + 4) % 5) 0 ^^^ rotl (col.getD ((x + 1) % 5) 0) 1
def movR (s : List UInt64) (turn : List Nat) (col : List UInt64) (k : Nat) : List UInt64 := (List.range k).foldl (fun m x => movRrow s turn m x (dR col x) 5) (List.replicate 25 0)
def chiRstep (m : List UInt64) (x : Nat) (o : List UInt64) (y : Nat) : List UInt64 :=
  o.set (place x y) (m.getD (place x y) 0 ^^^ (~~~ (m.getD (place (x + 1) y) 0) &&& m.getD (place (x + 2) y) 0))
def chiRrow (m o : List UInt64) (x k : Nat) : List UInt64 := (List.range k).foldl (chiRstep m x) o
def chiR (m : List UInt64) (k : Nat) : List UInt64 := (List.range k).foldl (fun o x => chiRrow m o x 5) (List.replicate 25 0)
def roundR (turn : List Nat) (s : List UInt64) (c : UInt64) : List UInt64 :=
  let t := chiR (movR s turn (colR s 5) 5) 5
  t.set 0 (t.getD 0 0 ^^^ c)
def permR (turn : List Nat) (rc : Nat → UInt64) (s : List UInt64) (k : Nat) : List UInt64 := (List.range k).foldl (fun s r => roundR turn s (rc r)) s

theorem len25 (s : List UInt64) (h : s.length = 25) : ∃ a0 a1 a2 a3 a4 a5 a6 a7 a8 a9 a10 a11 a12 a13 a14 a15 a16 a17 a18 a19 a20 a21 a22 a23 a24, s = [a0, a1, a2, a3, a4, a5, a6, a7, a8, a9, a10, a11, a12, a13, a14, a15, a16, a17, a18, a19, a20, a21, a22, a23, a24] := by
  match s, h with
  | [a0, a1, a2, a3, a4, a5, a6, a7, a8, a9, a10, a11, a12, a13, a14, a15, a16, a17, a18, a19, a20, a21, a22, a23, a24], _ => exact ⟨_, _, _, _, _, _, _, _, _, _, _, _, _, _, _, _, _, _, _, _, _, _, _, _, _, rfl⟩

theorem col_same (s : List UInt64) (h : s.length = 25) : colP s 25 = colR s 5 := by
  obtain ⟨a0, a1, a2, a3, a4, a5, a6, a7, a8, a9, a10, a11, a12, a13, a14, a15, a16, a17, a18, a19, a20, a21, a22, a23, a24, rfl⟩ := len25 s h
  kernel_rfl

theorem mov_same (s col : List UInt64) (t : List Nat) : movP s col t 25 = movR s t col 5 := by
  kernel_rfl

theorem chi_same (m s : List UInt64) (h : s.length = 25) : chiP m s 5 = chiR m 5 := by
  obtain ⟨a0, a1, a2, a3, a4, a5, a6, a7, a8, a9, a10, a11, a12, a13, a14, a15, a16, a17, a18, a19, a20, a21, a22, a23, a24, rfl⟩ := len25 s h
  kernel_rfl

theorem round_same (t : List Nat) (s : List UInt64) (c : UInt64) (h : s.length = 25) : roundP t s c = roundR t s c := by
  unfold roundP roundR
  rw [col_same s h, mov_same, chi_same _ s h]

theorem foldl_inv {α β : Type} (P : α → Prop) (f : α → β → α) (hf : ∀ a b, P a → P (f a b)) (l : List β) : ∀ a, P a → P (l.foldl f a) := by
  induction l with
  | nil => intro a h; exact h
  | cons b l ih => intro a h; exact ih _ (hf _ _ h)

theorem chiP_len (m s : List UInt64) (k : Nat) : (chiP m s k).length = s.length := by
  refine foldl_inv (fun l : List UInt64 => l.length = s.length) _ (fun a y h => ?_) _ _ rfl
  refine foldl_inv (fun l : List UInt64 => l.length = s.length) _ (fun b x h => ?_) _ _ h
  simp [chiStep, h]

theorem roundP_len (t : List Nat) (s : List UInt64) (c : UInt64) : (roundP t s c).length = s.length := by simp [roundP, chiP_len]

theorem permP_succ (t : List Nat) (rc : Nat → UInt64) (s : List UInt64) (k : Nat) : permP t rc s (k + 1) = roundP t (permP t rc s k) (rc k) := by
  simp [permP, List.range_succ]
theorem permR_succ (t : List Nat) (rc : Nat → UInt64) (s : List UInt64) (k : Nat) : permR t rc s (k + 1) = roundR t (permR t rc s k) (rc k) := by
  simp [permR, List.range_succ]
theorem permP_len (t : List Nat) (rc : Nat → UInt64) (s : List UInt64) (k : Nat) : (permP t rc s k).length = s.length := by
  induction k with
  | zero => simp [permP]
  | succ k ih => rw [permP_succ, roundP_len, ih]
theorem perm_same (t : List Nat) (rc rc' : Nat → UInt64) (s : List UInt64) (h : s.length = 25) (n : Nat) (hrc : ∀ r, r < n → rc r = rc' r) : permP t rc s n = permR t rc' s n := by
  induction n with
  | zero => simp [permP, permR]
  | succ k ih =>
    rw [permP_succ, permR_succ, ← ih (fun r hr => hrc r (by omega)), hrc k (by omega)]
    exact round_same _ _ _ (by rw [permP_len, h])

/- the constants of the rounds -/
def lfsr : Nat → Nat
  | 0 => 1
  | n + 1 => if 2 * lfsr n > 255 then (2 * lfsr n) ^^^ 369 else 2 * lfsr n
theorem lfsr_lt (n : Nat) : lfsr n < 256 := by
  have h : ∀ r, r < 256 → (if 2 * r > 255 then (2 * r) ^^^ 369 else 2 * r) < 256 := by decide +kernel
  induction n with
  | zero => decide
  | succ n ih => exact h _ ih
def bitR (t : Nat) : Nat := lfsr t % 2
def bitW (t : Nat) : UInt64 := UInt64.ofNat (bitR t)
def rcStep (r : Nat) (out : UInt64) (j : Nat) : UInt64 := out ||| shl (bitW (j + 7 * r)) (2 ^ j - 1)
def rcR (r k : Nat) : UInt64 := (List.range k).foldl (rcStep r) 0

def rcBytes : List Nat := [
  0, 0, 0, 0, 0, 0, 0, 1, 0, 0, 0, 0, 0, 0, 0x80, 0x82, 0x80, 0, 0, 0, 0, 0, 0x80, 0x8a, 0x80, 0, 0, 0, 0x80, 0, 0x80, 0,
  0, 0, 0, 0, 0, 0, 0x80, 0x8b, 0, 0, 0, 0, 0x80, 0, 0, 1, 0x80, 0, 0, 0, 0x80, 0, 0x80, 0x81, 0x80, 0, 0, 0, 0, 0, 0x80, 9,
  0, 0, 0, 0, 0, 0, 0, 0x8a, 0, 0, 0, 0, 0, 0, 0, 0x88, 0, 0, 0, 0, 0x80, 0, 0x80, 9, 0, 0, 0, 0, 0x80, 0, 0, 0xa,
  0, 0, 0, 0, 0x80, 0, 0x80, 0x8b, 0x80, 0, 0, 0, 0, 0, 0, 0x8b, 0x80, 0, 0, 0, 0, 0, 0x80, 0x89, 0x80, 0, 0, 0, 0, 0, 0x80, 3,
  0x80, 0, 0, 0, 0, 0, 0x80, 2, 0x80, 0, 0, 0, 0, 0, 0, 0x80, 0, 0, 0, 0, 0, 0, 0x80, 0xa, 0x80, 0, 0, 0, 0x80, 0, 0, 0xa,
  0x80, 0, 0, 0, 0x80, 0, 0x80, 0x81, 0x80, 0, 0, 0, 0, 0, 0x80, 0x80, 0, 0, 0, 0, 0x80, 0, 0, 1, 0x80, 0, 0, 0, 0x80, 0, 0x80, 8]
def rcPstep (r : Nat) (c : UInt64) (n : Nat) : UInt64 := shl c 8 ||| (UInt8.ofNat (rcBytes.getD (8 * r + n) 0)).toUInt64
def rcP (r k : Nat) : UInt64 := (List.range k).foldl (rcPstep r) 0

theorem rc_same : ∀ r, r < 24 → rcP r 8 = rcR r 7 := by decide +kernel

/- how far the lanes are turned -/
def xy : Nat → Nat × Nat
  | 0 => (1, 0)
  | t + 1 => ((xy t).2, (2 * (xy t).1 + 3 * (xy t).2) % 5)
def turnStep (l : List Nat) (t : Nat) : List Nat := l.set ((xy t).1 + 5 * (xy t).2) ((t + 1) * (t + 2) / 2 % 64)
def turnsK (k : Nat) : List Nat := (List.range k).foldl turnStep (List.replicate 25 0)
theorem xy_lt (t : Nat) : (xy t).1 < 5 ∧ (xy t).2 < 5 := by
  induction t with
  | zero => decide
  | succ t ih => exact ⟨ih.2, Nat.mod_lt _ (by decide)⟩

/- bytes into words, and back -/
def xorStep (s : List UInt64) (i : Nat) (x : UInt8) : List UInt64 := s.set (i / 8) (wx (s.getD (i / 8) 0) (shl (wid x) (8 * (i % 8))))
/-- the first k bytes of b are added to s -/
def xorB (s : List UInt64) (b : List UInt8) (k : Nat) : List UInt64 := (List.range k).foldl (fun s i => xorStep s i (b.getD i 0)) s
def sByte (s : List UInt64) (i : Nat) : UInt8 := lo8 (shr (s.getD (i / 8) 0) (8 * (i % 8)))
def toB (s : List UInt64) (n : Nat) : List UInt8 := (List.range n).map (sByte s)
theorem xorB_succ (s : List UInt64) (b : List UInt8) (k : Nat) : xorB s b (k + 1) = xorStep (xorB s b k) k (b.getD k 0) := by simp [xorB, List.range_succ]
theorem xorB_len (s : List UInt64) (b : List UInt8) (k : Nat) : (xorB s b k).length = s.length := by
  induction k with
  | zero => simp [xorB]
  | succ k ih => rw [xorB_succ]; simp [xorStep, ih]
theorem toB_len (s : List UInt64) (n : Nat) : (toB s n).length = n := by simp [toB]
end Mvp

/- word functions of the sponge -/
namespace Go.Proofs.Ytmegaegedlbckaa
open Go.RowKit Go.Mv Mvp

theorem ret_int {k : IntKind} {a b : Int} (h : a = b) : Ending.returned (.int k a) = .returned (.int k b) := by rw [h]

theorem rot_form (x : UInt64) (k : Nat) (hk : k < 64) : wo (shl x (k % 64)) (shr x (64 - k % 64)) = rotl x k := by
  rw [Nat.mod_eq_of_lt hk]; rfl
end Go.Proofs.Ytmegaegedlbckaa

/- the constants of the rounds, and how far the lanes are turned -/
namespace Go.Proofs.Ytmegaegedlbckaa
open Go.RowKit Go.Mv Mvp

theorem rcP_succ (r k : Nat) : rcP r (k + 1) = rcPstep r (rcP r k) k := by simp [rcP, List.range_succ]
theorem rcR_succ (r k : Nat) : rcR r (k + 1) = rcStep r (rcR r k) k := by simp [rcR, List.range_succ]

end Go.Proofs.Ytmegaegedlbckaa

/- how far the lanes are turned -/
namespace Go.Proofs.Ytmegaegedlbckaa
open Go.RowKit Go.Mv Mvp

theorem info_int : (Try.prog.info? 3).map (fun i => (i.zero, i.size, i.bytes)) = some (some (.int .i64 0), 1, 8) := by kernel_rfl
theorem turnsK_succ (k : Nat) : turnsK (k + 1) = turnStep (turnsK k) k := by simp [turnsK, List.range_succ]
theorem turnsK_len (k : Nat) : (turnsK k).length = 25 := by
  induction k with
  | zero => simp [turnsK]
  | succ k ih => rw [turnsK_succ]; simp [turnStep, ih]

end Go.Proofs.Ytmegaegedlbckaa

/- the state: bytes are added, and given -/
namespace Go.Proofs.Ytmegaegedlbckaa
open Go.RowKit Go.Mv Mvp

end Go.Proofs.Ytmegaegedlbckaa

/- the state's bytes; Permute -/
namespace Go.Proofs.Ytmegaegedlbckaa
open Go.RowKit Go.Mv Mvp

theorem toB_at (S : List UInt64) (n i : Nat) (h : i < n) : (toB S n).getD i 0 = sByte S i := by
  simp [toB, List.getD_eq_getElem?_getD, List.getElem?_range h]

end Go.Proofs.Ytmegaegedlbckaa

/- the permutation of the program -/
namespace Go.Proofs.Ytmegaegedlbckaa
open Go.RowKit Go.Mv Mvp

theorem colP_succ (s : List UInt64) (k : Nat) : colP s (k + 1) = colStep s (colP s k) k := by simp [colP, List.range_succ]
theorem colP_len (s : List UInt64) (k : Nat) : (colP s k).length = 5 := by
  induction k with
  | zero => simp [colP]
  | succ k ih => rw [colP_succ]; simp [colStep, ih]
theorem movP_succ (s c : List UInt64) (t : List Nat) (k : Nat) : movP s c t (k + 1) = movStep s c t (movP s c t k) k := by simp [movP, List.range_succ]
theorem movP_len (s c : List UInt64) (t : List Nat) (k : Nat) : (movP s c t k).length = 25 := by
  induction k with
  | zero => simp [movP]
  | succ k ih => rw [movP_succ]; simp [movStep, ih]

theorem size_u64w : (Try.prog.info? 36).map (·.size) = some 1 := by kernel_rfl
theorem permP_zero (t : List Nat) (rc : Nat → UInt64) (s : List UInt64) : permP t rc s 0 = s := by simp [permP]

theorem chiP_zero (m s : List UInt64) : chiP m s 0 = s := by simp [chiP]
theorem chiP_succ (m s : List UInt64) (k : Nat) : chiP m s (k + 1) = chiRow m (chiP m s k) (5 * k) 5 := by simp [chiP, List.range_succ]
theorem chiRow_zero (m s : List UInt64) (y : Nat) : chiRow m s y 0 = s := by simp [chiRow]
theorem chiRow_succ (m s : List UInt64) (y k : Nat) : chiRow m s y (k + 1) = chiStep m y (chiRow m s y k) k := by simp [chiRow, List.range_succ]
theorem chiRow_len (m s : List UInt64) (y k : Nat) : (chiRow m s y k).length = s.length := by
  induction k with
  | zero => simp [chiRow]
  | succ k ih => rw [chiRow_succ]; simp [chiStep, ih]
theorem turns_lt (k : Nat) : (turnsK 24).getD k 0 < 64 := by
  have h : ∀ k, k < 25 → (turnsK 24).getD k 0 < 64 := by decide +kernel
  rcases Nat.lt_or_ge k 25 with hk | hk
  · exact h k hk
  · rw [List.getD_eq_getElem?_getD, List.getElem?_eq_none (by rw [turnsK_len]; exact hk)]; simp
theorem goesTo_lt (k : Nat) (hk : k < 25) : goesTo k < 25 := by
  have h : ∀ k, k < 25 → goesTo k < 25 := by decide +kernel
  exact h k hk

end Go.Proofs.Ytmegaegedlbckaa

/- the reference's round -/
namespace Go.Proofs.Ytmegaegedlbckaa
open Go.RowKit Go.Mv Mvp

theorem colR_succ (s : List UInt64) (k : Nat) : colR s (k + 1) = colRrow s (colR s k) k 5 := by simp [colR, List.range_succ]
theorem colRrow_zero (s c : List UInt64) (x : Nat) : colRrow s c x 0 = c := by simp [colRrow]
theorem colRrow_succ (s c : List UInt64) (x k : Nat) : colRrow s c x (k + 1) = colRstep s x (colRrow s c x k) k := by simp [colRrow, List.range_succ]
theorem colRrow_len (s c : List UInt64) (x k : Nat) : (colRrow s c x k).length = c.length := by
  induction k with
  | zero => simp [colRrow]
  | succ k ih => rw [colRrow_succ]; simp [colRstep, ih]
theorem colR_len (s : List UInt64) (k : Nat) : (colR s k).length = 5 := by
  induction k with
  | zero => simp [colR]
  | succ k ih => rw [colR_succ, colRrow_len, ih]
theorem colR_zero (s : List UInt64) : colR s 0 = List.replicate 5 0 := by simp [colR]
theorem movR_succ (s : List UInt64) (t : List Nat) (c : List UInt64) (k : Nat) : movR s t c (k + 1) = movRrow s t (movR s t c k) k (dR c k) 5 := by simp [movR, List.range_succ]
theorem movRrow_zero (s : List UInt64) (t : List Nat) (m : List UInt64) (x : Nat) (d : UInt64) : movRrow s t m x d 0 = m := by simp [movRrow]
theorem movRrow_succ (s : List UInt64) (t : List Nat) (m : List UInt64) (x : Nat) (d : UInt64) (k : Nat) : movRrow s t m x d (k + 1) = movRstep s t x d (movRrow s t m x d k) k := by simp [movRrow, List.range_succ]
theorem movRrow_len (s : List UInt64) (t : List Nat) (m : List UInt64) (x : Nat) (d : UInt64) (k : Nat) : (movRrow s t m x d k).length = m.length := by
  induction k with
  | zero => simp [movRrow]
  | succ k ih => rw [movRrow_succ]; simp [movRstep, ih]
theorem movR_len (s : List UInt64) (t : List Nat) (c : List UInt64) (k : Nat) : (movR s t c k).length = 25 := by
  induction k with
  | zero => simp [movR]
  | succ k ih => rw [movR_succ, movRrow_len, ih]
theorem chiR_succ (m : List UInt64) (k : Nat) : chiR m (k + 1) = chiRrow m (chiR m k) k 5 := by simp [chiR, List.range_succ]
theorem chiRrow_zero (m o : List UInt64) (x : Nat) : chiRrow m o x 0 = o := by simp [chiRrow]
theorem chiRrow_succ (m o : List UInt64) (x k : Nat) : chiRrow m o x (k + 1) = chiRstep m x (chiRrow m o x k) k := by simp [chiRrow, List.range_succ]
theorem chiRrow_len (m o : List UInt64) (x k : Nat) : (chiRrow m o x k).length = o.length := by
  induction k with
  | zero => simp [chiRrow]
  | succ k ih => rw [chiRrow_succ]; simp [chiRstep, ih]
theorem chiR_len (m : List UInt64) (k : Nat) : (chiR m k).length = 25 := by
  induction k with
  | zero => simp [chiR]
  | succ k ih => rw [chiR_succ, chiRrow_len, ih]
theorem place_lt (x y : Nat) : place x y < 25 := by unfold place; omega
theorem info_u64 : (Try.prog.info? 36).map (fun i => (i.zero, i.size, i.bytes)) = some (some (.int .u64 0), 1, 8) := by kernel_rfl
end Go.Proofs.Ytmegaegedlbckaa

/- Pure sponge: the permutation of bytes, both ways. -/
namespace Mvp

def zeros25 : List UInt64 := List.replicate 25 0
def permS (S : List UInt64) : List UInt64 := permP (turnsK 24) (fun r => rcP r 8) S 24
def permB (l : List UInt8) : List UInt8 := toB (permS (xorB zeros25 l 200)) 200
theorem permS_len (S : List UInt64) : (permS S).length = S.length := permP_len _ _ _ _
theorem permR_eq (S : List UInt64) (h : S.length = 25) : permR (turnsK 24) (fun r => rcR r 7) S 24 = permS S :=
  (perm_same (turnsK 24) (fun r => rcP r 8) (fun r => rcR r 7) S h 24 (fun r hr => rc_same r hr)).symm

/- the reference's way: by or -/
def orStep (s : List UInt64) (i : Nat) (x : UInt8) : List UInt64 := s.set (i / 8) (wo (s.getD (i / 8) 0) (shl (wid x) (8 * (i % 8))))
def orB (s : List UInt64) (b : List UInt8) (k : Nat) : List UInt64 := (List.range k).foldl (fun s i => orStep s i (b.getD i 0)) s
theorem orB_succ (s : List UInt64) (b : List UInt8) (k : Nat) : orB s b (k + 1) = orStep (orB s b k) k (b.getD k 0) := by simp [orB, List.range_succ]
theorem orB_len (s : List UInt64) (b : List UInt8) (k : Nat) : (orB s b k).length = s.length := by
  induction k with
  | zero => simp [orB]
  | succ k ih => rw [orB_succ]; simp [orStep, ih]

theorem or_xor (x y k : Nat) (h : x < 2 ^ k) : x ||| (y * 2 ^ k) = x ^^^ (y * 2 ^ k) := by
  apply Nat.eq_of_testBit_eq
  intro i
  rw [Nat.testBit_or, Nat.testBit_xor]
  rcases Nat.lt_or_ge i k with hi | hi
  · have : (y * 2 ^ k).testBit i = false := by rw [Nat.testBit_mul_two_pow]; simp; omega
    simp [this]
  · have : x.testBit i = false := Nat.testBit_lt_two_pow (Nat.lt_of_lt_of_le h (Nat.pow_le_pow_right (by omega) hi))
    simp [this]
theorem shl_wid (x : UInt8) (k : Nat) (hk : k ≤ 56) : (shl (wid x) k).toNat = x.toNat * 2 ^ k := by
  have hx := x.toNat_lt
  have h1 : x.toNat * 2 ^ k < 2 ^ 8 * 2 ^ 56 := by
    have h2 : 2 ^ k ≤ 2 ^ 56 := Nat.pow_le_pow_right (by omega) hk
    have h3 : 0 < 2 ^ k := Nat.two_pow_pos k
    calc x.toNat * 2 ^ k < 2 ^ 8 * 2 ^ k := Nat.mul_lt_mul_of_pos_right hx h3
      _ ≤ 2 ^ 8 * 2 ^ 56 := Nat.mul_le_mul_left _ h2
  simp only [shl, wid, UInt64.toNat_ofNat', UInt8.toNat_toUInt64]
  exact Nat.mod_eq_of_lt (by simpa using h1)
theorem wo_wx (a : UInt64) (x : UInt8) (k : Nat) (hk : k ≤ 56) (h : a.toNat < 2 ^ k) : wo a (shl (wid x) k) = wx a (shl (wid x) k) := by
  apply UInt64.toNat_inj.1
  simp only [wo, wx, UInt64.toNat_or, UInt64.toNat_xor]
  rw [shl_wid x k hk, or_xor _ _ _ h]
theorem wx_lt (a : UInt64) (x : UInt8) (k : Nat) (hk : k ≤ 56) (h : a.toNat < 2 ^ k) : (wx a (shl (wid x) k)).toNat < 2 ^ (k + 8) := by
  simp only [wx, UInt64.toNat_xor]
  rw [shl_wid x k hk]
  have hx := x.toNat_lt
  refine Nat.xor_lt_two_pow (Nat.lt_of_lt_of_le h (Nat.pow_le_pow_right (by omega) (by omega))) ?_
  rw [Nat.pow_add, Nat.mul_comm (2 ^ k)]
  exact Nat.mul_lt_mul_of_pos_right hx (Nat.two_pow_pos k)

/-- up to byte k each word has just the bits that have been laid -/
def low (s : List UInt64) (k : Nat) : Prop := ∀ j, j < 25 → (s.getD j 0).toNat < 2 ^ (8 * (k - 8 * j))
theorem getD_set (s : List UInt64) (i j : Nat) (v : UInt64) (hi : i < s.length) : (s.set i v).getD j 0 = if i = j then v else s.getD j 0 := by
  have _h := hi
  simp only [List.getD_eq_getElem?_getD, List.getElem?_set]
  split
  · rename_i h; subst h; simp
  · rfl
theorem or_same (b : List UInt8) (k : Nat) (hk : k ≤ 200) : orB zeros25 b k = xorB zeros25 b k ∧ (∀ j, j < 25 → ((xorB zeros25 b k).getD j 0).toNat < 2 ^ (8 * min (k - 8 * j) 8)) := by
  induction k with
  | zero =>
    refine ⟨by simp [orB, xorB], fun j hj => ?_⟩
    have hz : ∀ j, j < 25 → zeros25.getD j 0 = 0 := by decide
    have e : xorB zeros25 b 0 = zeros25 := by simp [xorB]
    rw [e, hz j hj]
    simp
  | succ k ih =>
    obtain ⟨h1, h2⟩ := ih (by omega)
    have hl : (xorB zeros25 b k).length = 25 := by rw [xorB_len]; simp [zeros25]
    have hk8 : k / 8 < 25 := by omega
    have h3 := h2 (k / 8) hk8
    have e3 : min (k - 8 * (k / 8)) 8 = k % 8 := by omega
    rw [e3] at h3
    refine ⟨?_, fun j hj => ?_⟩
    · rw [orB_succ, xorB_succ, h1, orStep, xorStep, wo_wx _ _ _ (by omega) h3]
    · rw [xorB_succ, xorStep, getD_set _ _ _ _ (by omega)]
      split
      · rename_i e
        subst e
        have := wx_lt ((xorB zeros25 b k).getD (k / 8) 0) (b.getD k 0) (8 * (k % 8)) (by omega) h3
        have e4 : 8 * min (k + 1 - 8 * (k / 8)) 8 = 8 * (k % 8) + 8 := by omega
        rw [e4]; exact this
      · rename_i e
        have e5 : min (k + 1 - 8 * j) 8 = min (k - 8 * j) 8 := by omega
        rw [e5]; exact h2 j hj
end Mvp

/- Permute, the program's and the reference's -/
namespace Go.Proofs.Ytmegaegedlbckaa
open Go.RowKit Go.Mv Mvp

theorem Fr.widen {g : Nat} {a b : World} (h : Fr (One g) a b) (hg : a.heap.size ≤ g) : Fr Nob a b := h.mono (fun i hi (t : i = g) => by omega)

end Go.Proofs.Ytmegaegedlbckaa

/- Permute of the reference -/
namespace Go.Proofs.Ytmegaegedlbckaa
open Go.RowKit Go.Mv Mvp

theorem roundR_len (t : List Nat) (s : List UInt64) (c : UInt64) : (roundR t s c).length = 25 := by simp [roundR, chiR_len]
theorem permR_len (t : List Nat) (rc : Nat → UInt64) (s : List UInt64) (k : Nat) (h : s.length = 25) : (permR t rc s k).length = 25 := by
  cases k with
  | zero => simpa [permR] using h
  | succ k => rw [permR_succ, roundR_len]

end Go.Proofs.Ytmegaegedlbckaa

/- Pure sponge: bytes are fed one by one; the sponge and what is hashed with it. -/
namespace Mvp

/-- one more byte: at the end of a piece the state is turned -/
def feed1 (st : List UInt64 × Nat) (x : UInt8) : List UInt64 × Nat :=
  if st.2 + 1 = 136 then (permS (xorStep st.1 st.2 x), 0) else (xorStep st.1 st.2 x, st.2 + 1)
def feed (st : List UInt64 × Nat) (l : List UInt8) : List UInt64 × Nat := l.foldl feed1 st
theorem feed_append (st : List UInt64 × Nat) (l m : List UInt8) : feed st (l ++ m) = feed (feed st l) m := by simp [feed]
theorem feed_nil (st : List UInt64 × Nat) : feed st [] = st := rfl
theorem feed_cons (st : List UInt64 × Nat) (x : UInt8) (l : List UInt8) : feed st (x :: l) = feed (feed1 st x) l := rfl

/-- bytes are added from place k on -/
def xorAt : List UInt64 → Nat → List UInt8 → List UInt64
  | S, _, [] => S
  | S, k, x :: l => xorAt (xorStep S k x) (k + 1) l
theorem xorStep_len (S : List UInt64) (k : Nat) (x : UInt8) : (xorStep S k x).length = S.length := by simp [xorStep]
theorem xorAt_len (l : List UInt8) : ∀ (S : List UInt64) (k : Nat), (xorAt S k l).length = S.length := by
  induction l with
  | nil => intro S k; rfl
  | cons x l ih => intro S k; rw [xorAt, ih, xorStep_len]
theorem feed_short (l : List UInt8) : ∀ (S : List UInt64) (k : Nat), k + l.length < 136 → feed (S, k) l = (xorAt S k l, k + l.length) := by
  induction l with
  | nil => intro S k _; rfl
  | cons x l ih =>
    intro S k h
    simp only [List.length_cons] at h
    rw [feed_cons, feed1, if_neg (by simp; omega), ih _ _ (by simp; omega), xorAt]
    simp; omega
theorem feed_full (l : List UInt8) : ∀ (S : List UInt64) (k : Nat), k + l.length = 136 → k < 136 → feed (S, k) l = (permS (xorAt S k l), 0) := by
  induction l with
  | nil => intro S k h h'; simp at h; omega
  | cons x l ih =>
    intro S k h h'
    simp only [List.length_cons] at h
    by_cases hl : l = []
    · subst hl
      simp at h
      rw [feed_cons, feed1, if_pos (by simp; omega), feed_nil]
      rfl
    · have hp : 0 < l.length := List.length_pos_iff.2 hl
      rw [feed_cons, feed1, if_neg (by simp; omega), ih _ _ (by simp; omega) (by simp; omega), xorAt]
theorem feed_lt (l : List UInt8) : ∀ (st : List UInt64 × Nat), st.2 < 136 → (feed st l).2 < 136 := by
  induction l with
  | nil => intro st h; exact h
  | cons x l ih =>
    intro st h
    rw [feed_cons]
    apply ih
    unfold feed1
    split
    · simp
    · simp; omega
theorem feed_len (l : List UInt8) : ∀ (st : List UInt64 × Nat), (feed st l).1.length = st.1.length := by
  induction l with
  | nil => intro st; rfl
  | cons x l ih =>
    intro st
    rw [feed_cons, ih]
    unfold feed1
    split
    · simp [permS_len, xorStep_len]
    · simp [xorStep_len]

theorem xorStep_zero (S : List UInt64) (k : Nat) : xorStep S k 0 = S := by
  have e : shl (wid 0) (8 * (k % 8)) = 0 := by
    apply UInt64.toNat_inj.1
    simp [shl, wid]
  unfold xorStep
  rw [e]
  have e2 : wx (S.getD (k / 8) 0) 0 = S.getD (k / 8) 0 := by simp [wx]
  rw [e2]
  rcases Nat.lt_or_ge (k / 8) S.length with h | h
  · have e3 : S.getD (k / 8) 0 = S[k / 8] := by simp [List.getD_eq_getElem?_getD, h]
    rw [e3]; simp
  · exact List.set_eq_of_length_le h
/-- the bytes of b are added, the first ones being 0 -/
theorem xorB_eq (S : List UInt64) (b : List UInt8) (n : Nat) : n ≤ b.length → xorB S b n = xorAt S 0 (b.take n) := by
  have key : ∀ (l : List UInt8) (S : List UInt64) (k : Nat) (x : UInt8), xorAt S k (l ++ [x]) = xorStep (xorAt S k l) (k + l.length) x := by
    intro l
    induction l with
    | nil => intro S k x; rfl
    | cons y l ih =>
      intro S k x
      rw [List.cons_append, xorAt, ih, xorAt]
      simp [Nat.add_assoc, Nat.add_comm 1]
  induction n with
  | zero => intro _; simp [xorB, xorAt]
  | succ n ih =>
    intro h
    have hn : n < b.length := by omega
    rw [xorB_succ, ih (by omega), List.take_succ_eq_append_getElem hn, key]
    congr 1
    · simp; omega
    · simp [List.getD_eq_getElem?_getD, hn]
theorem xorAt_zeros (S : List UInt64) (k : Nat) (l : List UInt8) : ∀ j, xorAt S j (List.replicate k 0 ++ l) = xorAt S (j + k) l := by
  induction k with
  | zero => intro j; simp
  | succ k ih =>
    intro j
    rw [List.replicate_succ, List.cons_append, xorAt, xorStep_zero, ih, Nat.add_assoc, Nat.add_comm 1 k]
/-- a piece with its bytes from place k on -/
theorem xorB_piece (S : List UInt64) (k : Nat) (l rest : List UInt8) : xorB S (List.replicate k 0 ++ l ++ rest) (k + l.length) = xorAt S k l := by
  rw [xorB_eq _ _ _ (by simp), List.take_left' (by simp), xorAt_zeros]
  simp

/- the sponge -/
attribute [local irreducible] permS toB
/-- what ends the text: so many bytes are in the last piece -/
def padL (k : Nat) (e : UInt8) : List UInt8 := ((e :: List.replicate (135 - k) 0).set (135 - k) (bx (((e :: List.replicate (135 - k) 0)).getD (135 - k) 0) 0x80))
theorem padL_len (k : Nat) (e : UInt8) (h : k < 136) : (padL k e).length = 136 - k := by simp [padL]; omega
/-- the state behind the text -/
def ended (st : List UInt64 × Nat) (e : UInt8) : List UInt64 := (feed st (padL st.2 e)).1
/-- k pieces of the answer -/
def squeeze (S : List UInt64) : Nat → List UInt8
  | 0 => []
  | k + 1 => toB S 136 ++ squeeze (permS S) k
def permN (S : List UInt64) : Nat → List UInt64
  | 0 => S
  | k + 1 => permN (permS S) k
theorem permN_succ (k : Nat) : ∀ (S : List UInt64), permN S (k + 1) = permS (permN S k) := by
  induction k with
  | zero => intro S; rfl
  | succ k ih => intro S; rw [permN, ih]; rfl
theorem permN_len (k : Nat) : ∀ (S : List UInt64), (permN S k).length = S.length := by
  induction k with
  | zero => intro S; rfl
  | succ k ih => intro S; rw [permN, ih, permS_len]
theorem squeeze_len (k : Nat) : ∀ (S : List UInt64), (squeeze S k).length = 136 * k := by
  induction k with
  | zero => intro S; rfl
  | succ k ih => intro S; rw [squeeze, List.length_append, toB_len, ih]; omega
theorem squeeze_succ (k : Nat) : ∀ (S : List UInt64), squeeze S (k + 1) = squeeze S k ++ toB (permN S k) 136 := by
  induction k with
  | zero => intro S; simp [squeeze, permN]
  | succ k ih => intro S; rw [squeeze, ih (permS S)]; rw [squeeze, permN, List.append_assoc]
/-- enough pieces for n bytes -/
def pieces (n : Nat) : Nat := (n + 135) / 136
def outB (S : List UInt64) (n : Nat) : List UInt8 := (squeeze S (pieces n)).take n
theorem outB_len (S : List UInt64) (n : Nat) : (outB S n).length = n := by
  simp only [outB, List.length_take, squeeze_len, pieces]; omega
/-- n bytes of the sponge -/
def spongeB (l : List UInt8) (e : UInt8) (n : Nat) : List UInt8 := outB (ended (feed (zeros25, 0) l) e) n
theorem spongeB_len (l : List UInt8) (e : UInt8) (n : Nat) : (spongeB l e n).length = n := outB_len _ _
end Mvp

/- Pure sponge: words and their bytes are one. -/
namespace Mvp

theorem lo8_shr_toNat (a : UInt64) (k : Nat) : (lo8 (shr a k)).toNat = a.toNat / 2 ^ k % 256 := by
  have h : a.toNat / 2 ^ k < 18446744073709551616 := Nat.lt_of_le_of_lt (Nat.div_le_self _ _) a.toNat_lt
  simp only [lo8, shr, UInt64.toNat_toUInt8, UInt64.toNat_ofNat']
  omega
theorem byte_bit (a : UInt64) (k i : Nat) : (lo8 (shr a k)).toNat.testBit i = (decide (i < 8) && a.toNat.testBit (i + k)) := by
  rw [lo8_shr_toNat, show (256 : Nat) = 2 ^ 8 from rfl, Nat.testBit_mod_two_pow, Nat.testBit_div_two_pow]
theorem byte_big (x : UInt8) (i : Nat) (h : 8 ≤ i) : x.toNat.testBit i = false :=
  Nat.testBit_lt_two_pow (Nat.lt_of_lt_of_le x.toNat_lt (by have := Nat.pow_le_pow_right (show 0 < 2 by omega) h; simpa using this))
theorem xor_byte (a : UInt64) (x : UInt8) (m t : Nat) (hm : m < 8) (_ht : t < 8) :
    lo8 (shr (wx a (shl (wid x) (8 * m))) (8 * t)) = if t = m then bx (lo8 (shr a (8 * m))) x else lo8 (shr a (8 * t)) := by
  apply UInt8.toNat_inj.1
  apply Nat.eq_of_testBit_eq
  intro i
  rw [byte_bit]
  have hw : (wx a (shl (wid x) (8 * m))).toNat = a.toNat ^^^ (x.toNat * 2 ^ (8 * m)) := by
    simp only [wx, UInt64.toNat_xor]; rw [shl_wid x _ (by omega)]
  rw [hw, Nat.testBit_xor, Nat.testBit_mul_two_pow]
  by_cases hi : i < 8
  · by_cases e : t = m
    · subst e
      rw [if_pos rfl]
      simp only [bx, UInt8.toNat_xor, Nat.testBit_xor, byte_bit]
      simp [hi]
    · rw [if_neg e, byte_bit]
      have hz : (decide (8 * m ≤ i + 8 * t) && x.toNat.testBit (i + 8 * t - 8 * m)) = false := by
        rcases Nat.lt_or_ge t m with h | h
        · have : ¬ (8 * m ≤ i + 8 * t) := by omega
          simp [this]
        · rw [byte_big x _ (by omega)]; simp
      rw [hz]; simp [hi]
  · have h1 : (decide (i < 8)) = false := by simp [hi]
    rw [h1]
    split
    · rw [byte_big _ i (by omega)]; rfl
    · rw [byte_big _ i (by omega)]; rfl

theorem sByte_xorStep (S : List UInt64) (hS : S.length = 25) (k i : Nat) (x : UInt8) (hk : k < 200) : sByte (xorStep S k x) i = if i = k then bx (sByte S k) x else sByte S i := by
  unfold sByte xorStep
  rw [getD_set _ _ _ _ (by omega)]
  by_cases hd : k / 8 = i / 8
  · rw [if_pos hd, xor_byte _ _ _ _ (by omega) (by omega), ← hd]
    by_cases e : i = k
    · rw [if_pos e, if_pos (by omega)]
    · rw [if_neg e, if_neg (by omega)]
  · rw [if_neg hd, if_neg (by omega)]

/-- words with the same bytes are the same -/
theorem words_ext (S S' : List UInt64) (h : S.length = 25) (h' : S'.length = 25) (hb : ∀ i, i < 200 → sByte S i = sByte S' i) : S = S' := by
  apply List.ext_getElem (by omega)
  intro j hj hj'
  have hw : ∀ (T : List UInt64) (hT : j < T.length), T.getD j 0 = T[j] := fun T hT => by simp [List.getD_eq_getElem?_getD, hT]
  rw [← hw S hj, ← hw S' hj']
  apply UInt64.toNat_inj.1
  apply Nat.eq_of_testBit_eq
  intro i
  rcases Nat.lt_or_ge i 64 with hi | hi
  · have h1 := hb (8 * j + i / 8) (by omega)
    have h2 := congrArg (fun y : UInt8 => y.toNat.testBit (i % 8)) h1
    simp only [sByte] at h2
    rw [byte_bit, byte_bit, show (8 * j + i / 8) / 8 = j by omega, show (8 * j + i / 8) % 8 = i / 8 by omega, show i % 8 + 8 * (i / 8) = i by omega] at h2
    simpa [show i % 8 < 8 by omega] using h2
  · have big : ∀ (y : UInt64), y.toNat.testBit i = false := fun y => Nat.testBit_lt_two_pow (Nat.lt_of_lt_of_le y.toNat_lt (by have := Nat.pow_le_pow_right (show 0 < 2 by omega) hi; simpa using this))
    rw [big, big]
theorem sByte_xorAt (l : List UInt8) : ∀ (S : List UInt64) (k i : Nat), S.length = 25 → k + l.length ≤ 200 → sByte (xorAt S k l) i = if k ≤ i ∧ i < k + l.length then bx (sByte S i) (l.getD (i - k) 0) else sByte S i := by
  induction l with
  | nil => intro S k i _ _; rw [if_neg (by simp)]; rfl
  | cons x l ih =>
    intro S k i hS h
    simp only [List.length_cons] at h
    rw [xorAt, ih _ _ _ (by rw [xorStep_len, hS]) (by omega), sByte_xorStep S hS _ _ _ (by omega)]
    by_cases e : i = k
    · subst e
      rw [if_neg (by omega), if_pos rfl, if_pos (by simp)]
      simp
    · by_cases hr : k + 1 ≤ i ∧ i < k + 1 + l.length
      · rw [if_pos hr, if_neg e, if_pos (by simp; omega), show i - k = (i - (k + 1)) + 1 by omega, List.getD_cons_succ]
      · rw [if_neg hr, if_neg e, if_neg (by simp; omega)]
theorem toB_get (S : List UInt64) (n i : Nat) (h : i < n) : (toB S n).getD i 0 = sByte S i := by
  simp [toB, List.getD_eq_getElem?_getD, List.getElem?_range h]
theorem sByte_zeros (i : Nat) : sByte zeros25 i = 0 := by
  have hz : zeros25.getD (i / 8) 0 = 0 := by
    rcases Nat.lt_or_ge (i / 8) 25 with h | h
    · have : ∀ j, j < 25 → zeros25.getD j 0 = 0 := by decide
      exact this _ h
    · rw [List.getD_eq_getElem?_getD, List.getElem?_eq_none (by simpa [zeros25] using h)]; rfl
  unfold sByte
  rw [hz]
  apply UInt8.toNat_inj.1
  rw [lo8_shr_toNat]; simp
theorem bx_zero (x : UInt8) : bx 0 x = x := by simp [bx]
/-- 200 bytes into words, and back -/
theorem bytes_back (b : List UInt8) (hb : b.length = 200) (i : Nat) (hi : i < 200) : sByte (xorB zeros25 b 200) i = b.getD i 0 := by
  rw [xorB_eq _ _ _ (by omega), List.take_of_length_le (by omega), sByte_xorAt b _ _ _ (by simp [zeros25]) (by omega), if_pos (by omega), sByte_zeros, bx_zero]
  simp
/-- some bytes of the state's are changed: as words -/
theorem words_of (S : List UInt64) (hS : S.length = 25) (l b : List UInt8) (hl : l.length ≤ 200) (hb : b.length = 200) (h : ∀ i, i < 200 → b.getD i 0 = if i < l.length then bx (sByte S i) (l.getD i 0) else sByte S i) : xorB zeros25 b 200 = xorAt S 0 l := by
  refine words_ext _ _ (by rw [xorB_len]; simp [zeros25]) (by rw [xorAt_len, hS]) (fun i hi => ?_)
  rw [bytes_back b hb i hi, sByte_xorAt l S 0 i hS (by omega), h i hi]
  simp
end Mvp

/- absorber.write -/
namespace Go.Proofs.Ytmegaegedlbckaa
open Go.RowKit Go.Mv Mvp

/-- the cells of an absorber -/
def abs (st : List UInt64 × Nat) : List Value := ws st.1 ++ [.int .i64 (st.2 : Int)]
theorem abs_len (st : List UInt64 × Nat) : (abs st).length = st.1.length + 1 := by simp [abs, length_ws]
theorem abs_at (st : List UInt64 × Nat) (h : st.1.length = 25) : (abs st)[25]? = some (.int .i64 (st.2 : Int)) := by
  rw [abs, List.getElem?_append_right (by rw [length_ws, h]; omega), length_ws, h]; rfl
theorem abs_set (S : List UInt64) (k n : Nat) (h : S.length = 25) : (abs (S, k)).set 25 (.int .i64 (n : Int)) = abs (S, n) := by
  rw [abs, List.set_append_right _ _ (by rw [length_ws, h]; omega), length_ws, h]; rfl

theorem permS_def (S : List UInt64) : permP (turnsK 24) (fun r => rcP r 8) S 24 = permS S := by unfold permS; rfl
theorem abs_def (S : List UInt64) (k : Nat) : ws S ++ [Value.int .i64 (k : Int)] = abs (S, k) := by unfold abs; rfl
attribute [local irreducible] permS permP toB turnsK
theorem piece_eq (k p : Nat) (l : List UInt8) (hl : l.length = p) (h : k + p ≤ 136) : splice (bs (List.replicate 136 0)) k (bs l) = bs (List.replicate k 0 ++ l ++ List.replicate (136 - k - p) 0) := by
  unfold splice
  rw [length_bs, hl, bs_take, bs_drop, ← bs_append, ← bs_append, List.append_assoc]
  rw [List.take_replicate, Nat.min_eq_left (by omega), List.drop_replicate, Nat.sub_sub]
/-- the length of a slice value: for measures -/
def lenV : Value → Nat
  | .slice _ n _ => n
  | _ => 0

end Go.Proofs.Ytmegaegedlbckaa

/- The reference's sponge, on bytes: what it computes is the sponge on words. -/
namespace Mvp

theorem feed_at (l : List UInt8) : ∀ (S : List UInt64) (k : Nat), k < 136 → (feed (S, k) l).2 = (k + l.length) % 136 := by
  induction l with
  | nil => intro S k h; simp [feed_nil]; omega
  | cons x l ih =>
    intro S k h
    rw [feed_cons, feed1]
    split
    · rename_i h1
      simp only at h1
      rw [ih _ _ (by omega), List.length_cons]; omega
    · rename_i h1
      simp only at h1
      rw [ih _ _ (by omega), List.length_cons]
      congr 1; omega
/-- the text with its end -/
def padded (l : List UInt8) (e : UInt8) : List UInt8 := l ++ padL (l.length % 136) e
theorem padded_len (l : List UInt8) (e : UInt8) : (padded l e).length = l.length + (136 - l.length % 136) := by
  rw [padded, List.length_append, padL_len _ _ (Nat.mod_lt _ (by decide))]
theorem padded_mod (l : List UInt8) (e : UInt8) : (padded l e).length % 136 = 0 := by
  rw [padded_len]; omega
theorem padded_eq (l : List UInt8) (e : UInt8) (m : Nat) (hm : m = 135 - l.length % 136) : (l ++ e :: List.replicate m 0).set (l.length + m) (bx ((l ++ e :: List.replicate m 0).getD (l.length + m) 0) 0x80) = padded l e := by
  subst hm
  have h2 : (l ++ e :: List.replicate (135 - l.length % 136) 0).getD (l.length + (135 - l.length % 136)) 0 = (e :: List.replicate (135 - l.length % 136) 0).getD (135 - l.length % 136) 0 := by
    rw [List.getD_eq_getElem?_getD, List.getD_eq_getElem?_getD, List.getElem?_append_right (by omega), Nat.add_sub_cancel_left]
  rw [h2, List.set_append_right _ _ (by omega), Nat.add_sub_cancel_left]
  rfl
theorem ended_padded (l : List UInt8) (e : UInt8) : ended (feed (zeros25, 0) l) e = (feed (zeros25, 0) (padded l e)).1 := by
  rw [ended, padded, feed_append, feed_at _ _ _ (by decide), Nat.zero_add]
/-- the words behind so many bytes -/
def afterB (p : List UInt8) (i : Nat) : List UInt64 := (feed (zeros25, 0) (p.take i)).1
theorem afterB_len (p : List UInt8) (i : Nat) : (afterB p i).length = 25 := by rw [afterB, feed_len]; rfl
theorem afterB_zero (p : List UInt8) : afterB p 0 = zeros25 := by rw [afterB, List.take_zero, feed_nil]
theorem afterB_all (l : List UInt8) (e : UInt8) (i : Nat) (h : (padded l e).length ≤ i) : afterB (padded l e) i = ended (feed (zeros25, 0) l) e := by
  rw [afterB, List.take_of_length_le h, ended_padded]
theorem afterB_succ (p : List UInt8) (i : Nat) (hi : i % 136 = 0) (h : i + 136 ≤ p.length) : afterB p (i + 136) = permS (xorAt (afterB p i) 0 ((p.drop i).take 136)) := by
  have hl : (p.take i).length = i := by rw [List.length_take]; omega
  have h2 : (feed (zeros25, 0) (p.take i)).2 = 0 := by rw [feed_at _ _ _ (by decide), hl]; omega
  have hm : ((p.drop i).take 136).length = 136 := by rw [List.length_take, List.length_drop]; omega
  have h3 : feed (zeros25, 0) (p.take i) = (afterB p i, 0) := Prod.ext rfl h2
  rw [afterB, List.take_add, feed_append, h3, feed_full _ _ _ (by rw [hm]) (by decide)]
/-- bytes of the state, j of them added to -/
def addB (b p : List UInt8) : Nat → List UInt8
  | 0 => b
  | j + 1 => (addB b p j).set j (bx ((addB b p j).getD j 0) (p.getD j 0))
theorem addB_zero (b p : List UInt8) : addB b p 0 = b := rfl
theorem addB_succ (b p : List UInt8) (j : Nat) : addB b p (j + 1) = (addB b p j).set j (bx ((addB b p j).getD j 0) (p.getD j 0)) := rfl
theorem addB_len (b p : List UInt8) (j : Nat) : (addB b p j).length = b.length := by
  induction j with
  | zero => rfl
  | succ j ih => rw [addB_succ, List.length_set, ih]
theorem addB_get (b p : List UInt8) (j : Nat) (hj : j ≤ b.length) (i : Nat) (hi : i < b.length) : (addB b p j).getD i 0 = if i < j then bx (b.getD i 0) (p.getD i 0) else b.getD i 0 := by
  induction j generalizing i with
  | zero => simp [addB_zero]
  | succ j ih =>
    rw [addB_succ, List.getD_eq_getElem?_getD, List.getElem?_set]
    by_cases e : j = i
    · subst e
      rw [if_pos rfl, if_pos (by rw [addB_len]; omega), if_pos (by omega), ih (by omega) j (by omega), if_neg (by omega)]
      rfl
    · rw [if_neg e, ← List.getD_eq_getElem?_getD, ih (by omega) i hi]
      by_cases h1 : i < j
      · rw [if_pos h1, if_pos (by omega)]
      · rw [if_neg h1, if_neg (by omega)]
theorem perm_add (S : List UInt64) (hS : S.length = 25) (p : List UInt8) (hp : 136 ≤ p.length) : permB (addB (toB S 200) p 136) = toB (permS (xorAt S 0 (p.take 136))) 200 := by
  have hl : (p.take 136).length = 136 := by rw [List.length_take]; omega
  unfold permB
  rw [words_of S hS (p.take 136) _ (by omega) (by rw [addB_len, toB_len]) (fun i hi => ?_)]
  rw [addB_get _ _ _ (by rw [toB_len]; omega) i (by rw [toB_len]; omega), toB_get _ _ _ hi, hl]
  by_cases h : i < 136
  · rw [if_pos h, if_pos h]
    congr 1
    simp only [List.getD_eq_getElem?_getD, List.getElem?_take, if_pos h]
  · rw [if_neg h, if_neg h]
theorem perm_toB (S : List UInt64) (hS : S.length = 25) : permB (toB S 200) = toB (permS S) 200 := by
  unfold permB
  rw [words_of S hS [] _ (by simp) (by rw [toB_len]) (fun i hi => by rw [toB_get _ _ _ hi]; simp)]
  rfl
theorem toB_take (S : List UInt64) : (toB S 200).take 136 = toB S 136 := by
  unfold toB
  rw [← List.map_take, List.take_range, Nat.min_eq_left (by omega)]
theorem toB_zeros : toB zeros25 200 = List.replicate 200 0 := by
  have key : ∀ n, toB zeros25 n = List.replicate n 0 := by
    intro n
    refine List.eq_replicate_iff.2 ⟨toB_len _ _, fun x hx => ?_⟩
    unfold toB at hx
    obtain ⟨i, _, rfl⟩ := List.mem_map.1 hx
    exact sByte_zeros i
  exact key 200
end Mvp

/- The reference's sponge -/
namespace Go.Proofs.Ytmegaegedlbckaa
open Go.RowKit Go.Mv Mvp
attribute [local irreducible] permS permP toB turnsK squeeze permN permB

theorem pad_append (l : List UInt8) (e : UInt8) (m : Nat) : bs (l ++ e :: List.replicate m 0) ++ bs [0] = bs (l ++ e :: List.replicate (m + 1) 0) := by
  rw [← bs_append, List.replicate_succ']; simp

theorem Rd.take {w : World} {a : Option Addr} {n : Nat} {vs : List Value} (h : Rd w a n vs) (p : Nat) (hp : p ≤ n) : Rd w a p (vs.take p) := by
  refine ⟨by rw [List.length_take, h.len]; omega, h.2.imp (fun h0 => by omega) ?_⟩
  rintro ⟨b, o, rfl, hc⟩
  refine ⟨b, o, rfl, fun i v hv => ?_⟩
  rw [List.getElem?_take] at hv
  split at hv
  · exact hc i v hv
  · cases hv
theorem mkS_append (l m : List UInt8) : mkS l ++ mkS m = mkS (l ++ m) := by
  apply ByteArray.ext
  simp [mkS]
theorem mkS_extract (l : List UInt8) (n : Nat) : (mkS l).extract 0 n = mkS (l.take n) := by
  apply ByteArray.ext
  simp [mkS]
theorem squeeze_zero' (S : List UInt64) : squeeze S 0 = [] := by unfold squeeze; rfl
theorem permN_zero' (S : List UInt64) : permN S 0 = S := by unfold permN; rfl
def strLen : Value → Nat
  | .string s => s.size
  | _ => 0
theorem pieces_lt' (n j : Nat) : 136 * j < n ↔ j < pieces n := by unfold pieces; omega

end Go.Proofs.Ytmegaegedlbckaa

/- absorber.out, and what hashes with it -/
namespace Go.Proofs.Ytmegaegedlbckaa
open Go.RowKit Go.Mv Mvp
theorem squeeze_zero (S : List UInt64) : squeeze S 0 = [] := by unfold squeeze; rfl
theorem permN_zero (S : List UInt64) : permN S 0 = S := by unfold permN; rfl
/-- `v[:n:n]` of an owned slice is owned -/
theorem own_cut {w : World} {base : Nat} {T : TypeId} {a : Option Addr} {m c : Nat} {L : List Value} (h : Own w base T 1 (.slice a m c) m L) (n : Nat) (hn : n ≤ m) : Own w base T 1 (.slice a n n) n (L.take n) := by
  obtain ⟨hl, h | ⟨g, o, cap, B, hv, hb, hg, h1, h2, h3, h4⟩⟩ := h
  · obtain ⟨hv, hm⟩ := h
    cases hv
    have : n = 0 := by omega
    subst this
    exact ⟨by simp, .inl ⟨rfl, rfl⟩⟩
  · cases hv
    refine ⟨by rw [List.length_take]; omega, .inr ⟨g, o, n, B, rfl, hb, hg, Nat.le_refl _, by omega, by omega, ?_⟩⟩
    rw [← h4, List.take_take]
    congr 1
    omega
attribute [local irreducible] permS permP toB turnsK squeeze permN

theorem last_eq (k : Nat) (e : UInt8) (h : k < 136) : ((List.replicate 136 (0 : UInt8)).set k e).set 135 (bx (((List.replicate 136 (0 : UInt8)).set k e).getD 135 0) 0x80) = List.replicate k 0 ++ padL k e := by
  have h1 : (List.replicate 136 (0 : UInt8)).set k e = List.replicate k 0 ++ (e :: List.replicate (135 - k) 0) := by
    have : (List.replicate 136 (0 : UInt8)) = List.replicate k 0 ++ (0 :: List.replicate (135 - k) 0) := by
      rw [← List.replicate_succ, List.replicate_append_replicate]; congr 1; omega
    rw [this, List.set_append_right _ _ (by simp)]
    simp
  have h2 : (List.replicate k 0 ++ (e :: List.replicate (135 - k) 0)).getD 135 0 = (e :: List.replicate (135 - k) 0).getD (135 - k) 0 := by
    rw [List.getD_eq_getElem?_getD, List.getD_eq_getElem?_getD, List.getElem?_append_right (by simp; omega), List.length_replicate]
  rw [h1, h2, List.set_append_right _ _ (by simp; omega)]
  simp only [List.length_replicate, padL]
theorem pieces_lt (n j : Nat) : 136 * j < n ↔ j < pieces n := by unfold pieces; omega

end Go.Proofs.Ytmegaegedlbckaa

/- absorber.frame; the reference's Frame -/
namespace Mvp
/-- a length in four bytes -/
def lenB (n : Nat) : List UInt8 := [UInt8.ofNat (n / 16777216), UInt8.ofNat (n / 65536), UInt8.ofNat (n / 256), UInt8.ofNat n]
def frameL (l : List UInt8) : List UInt8 := lenB l.length ++ l
def framesL (ls : List (List UInt8)) : List UInt8 := (ls.map frameL).flatten
theorem framesL_nil : framesL [] = [] := rfl
theorem framesL_append (a b : List (List UInt8)) : framesL (a ++ b) = framesL a ++ framesL b := by simp [framesL]
theorem framesL_one (a : List UInt8) : framesL [a] = frameL a := by simp [framesL]
theorem framesL_cons (a : List UInt8) (b : List (List UInt8)) : framesL (a :: b) = frameL a ++ framesL b := by simp [framesL]
end Mvp
namespace Go.Proofs.Ytmegaegedlbckaa
open Go.RowKit Go.Mv Mvp
attribute [local irreducible] permS permP toB turnsK squeeze permN permB spongeB

theorem ofNat_int (k : Nat) : ((UInt8.ofNat k).toNat : Int) = ((k % 256 : Nat) : Int) := by simp
theorem lenB_0 (n : Nat) (h : n ≤ 1000000) : Value.int .u8 ((n : Int) / 16777216) = .int .u8 ((UInt8.ofNat (n / 16777216)).toNat : Int) := by
  rw [ofNat_int]; congr 1; omega
theorem lenB_1 (n : Nat) (h : n ≤ 1000000) : Value.int .u8 ((n : Int) / 65536) = .int .u8 ((UInt8.ofNat (n / 65536)).toNat : Int) := by
  rw [ofNat_int]; congr 1; omega
theorem lenB_2 (n : Nat) : Value.int .u8 ((n : Int) / 256 % 256) = .int .u8 ((UInt8.ofNat (n / 256)).toNat : Int) := by
  rw [ofNat_int]; rfl
theorem lenB_3 (n : Nat) : Value.int .u8 ((n : Int) % 256) = .int .u8 ((UInt8.ofNat n).toNat : Int) := by
  rw [ofNat_int]; rfl
theorem lenB_len (n : Nat) : (lenB n).length = 4 := rfl

end Go.Proofs.Ytmegaegedlbckaa

/- Hash, stream and Stream of the sponge -/
namespace Go.Proofs.Ytmegaegedlbckaa
open Go.RowKit Go.Mv Mvp
attribute [local irreducible] permS permP toB turnsK squeeze permN

theorem feed_ok (l : List UInt8) : (feed (zeros25, 0) l).1.length = 25 ∧ (feed (zeros25, 0) l).2 < 136 := ⟨by rw [feed_len]; rfl, feed_lt _ _ (by decide)⟩
end Go.Proofs.Ytmegaegedlbckaa

/- sponge.tag and sponge.Tag -/
namespace Go.Proofs.Ytmegaegedlbckaa
open Go.RowKit Go.Mv Mvp
attribute [local irreducible] permS permP toB turnsK squeeze permN permB spongeB

/-- the value reads as these bytes, from an old block -/
def PartIs (w : World) (v : Value) (l : List UInt8) : Prop := ∃ a n c, v = .slice a n c ∧ n ≤ c ∧ n ≤ 1000000 ∧ RdB w a n l ∧ Old w a
theorem PartIs.still {w w' : World} {v : Value} {l : List UInt8} (h : PartIs w v l) (hf : Fr Nob w w') : PartIs w' v l := by
  obtain ⟨a, n, c, h1, h2, h3, h4, h5⟩ := h
  exact ⟨a, n, c, h1, h2, h3, h4.still hf, h5.grow hf.size⟩
/-- a slice of slices of bytes -/
def PartsAt (w : World) (a : Option Addr) (ls : List (List UInt8)) : Prop := ∃ vs : List Value, Rd w a ls.length vs ∧ ∀ (i : Nat) (v : Value), vs[i]? = some v → ∃ l : List UInt8, ls[i]? = some l ∧ PartIs w v l
theorem PartsAt.get {w : World} {a : Option Addr} {ls : List (List UInt8)} (h : PartsAt w a ls) {j : Nat} (hj : j < ls.length) : ∃ b o v, a = some ⟨b, o, none⟩ ∧ w.cell? ⟨b, o + j, none⟩ = some v ∧ PartIs w v (ls.getD j []) := by
  obtain ⟨vs, hr, hv⟩ := h
  obtain ⟨b, o, rfl, hat⟩ := hr.at (by omega)
  have hl := hr.len
  obtain ⟨l, h1, h2⟩ := hv j (vs[j]'(by omega)) (List.getElem?_eq_getElem (by omega))
  refine ⟨b, o, vs[j]'(by omega), rfl, hat j _ (List.getElem?_eq_getElem (by omega)), ?_⟩
  rwa [List.getD_eq_getElem?_getD, h1]
theorem PartsAt.still {w w' : World} {a : Option Addr} {ls : List (List UInt8)} (h : PartsAt w a ls) (hf : Fr Nob w w') : PartsAt w' a ls := by
  obtain ⟨vs, hr, hv⟩ := h
  refine ⟨vs, hr.still hf, fun i v hi => ?_⟩
  obtain ⟨l, h1, h2⟩ := hv i v hi
  exact ⟨l, h1, h2.still hf⟩
/-- what a tag is made of -/
def tagText (s : List UInt8) (ls : List (List UInt8)) : List UInt8 := framesL (s :: ls)
def tagL (s : List UInt8) (ls : List (List UInt8)) : List UInt8 := spongeB (tagText s ls) 6 32

theorem z25 : ((zeros25, 0) : List UInt64 × Nat).1.length = 25 := rfl
attribute [local irreducible] feed frameL framesL abs zeros25
end Go.Proofs.Ytmegaegedlbckaa

/- mintvaultlaw1.SpongeTurns: the walk of the law -/
namespace Go.Proofs.Ytmegaegedlbckaa
open Go.RowKit Go.Mv Mvp

theorem lent_front (l : List UInt8) : (bs (lentL l)).take l.length = bs l := by
  rw [bs_take]; simp [lentL]
/-- the front of what was lent -/
theorem lent_read {w : World} {g : Nat} {T : TypeId} {s : ByteArray} (h : Has w g (bs (lentL s.data.toList)) T) : RdB w (some ⟨g, 0, none⟩) s.size s.data.toList := by
  have := Rd.ofHas h 0 (n := s.size) (by rw [length_bs, lentL_len, size_list]; omega)
  rw [List.drop_zero, ← size_list s, lent_front] at this
  rw [← size_list s]; exact this
theorem lent_all {w : World} {g : Nat} {T : TypeId} {s : ByteArray} (h : Has w g (bs (lentL s.data.toList)) T) : RdB w (some ⟨g, 0, none⟩) (s.size + 160) (lentL s.data.toList) := by
  have := Rd.whole h
  rwa [length_bs, lentL_len, size_list] at this
theorem cutAt_zero (g c : Nat) : cutAt (some ⟨g, 0, none⟩) 0 c = some ⟨g, 0, none⟩ := by
  unfold cutAt; split
  · rfl
  · simp [addr_add]

end Go.Proofs.Ytmegaegedlbckaa

/- The reference's Hash and Stream; the law SpongeHashes -/
namespace Go.Proofs.Ytmegaegedlbckaa
open Go.RowKit Go.Mv Mvp
attribute [local irreducible] permS permP toB turnsK squeeze permN permB spongeB

theorem own_rd {w : World} {base : Nat} {T : TypeId} {v : Value} {n : Nat} {l : List UInt8} (h : Own w base T 1 v n (bs l)) : ∃ a c, v = .slice a n c ∧ RdB w a n l := by
  obtain ⟨a, c, hv, _, hr, _⟩ := h.form
  rw [Nat.mul_one] at hr
  exact ⟨a, c, hv, hr⟩
end Go.Proofs.Ytmegaegedlbckaa

/- Arguments that were handed in, opened into the words of Mem. -/
namespace Go.Mv
open Go.RowKit Go.ChangeShapes Go.WideShapes

/-- strings as values -/
def ss (l : List (List UInt8)) : List Value := l.map fun x => .string (mkS x)
theorem ss_len (l : List (List UInt8)) : (ss l).length = l.length := by simp [ss]
theorem ss_get (l : List (List UInt8)) (i : Nat) (hi : i < l.length) : (ss l)[i]? = some (.string (mkS (l.getD i []))) := by
  simp [ss, List.getD_eq_getElem?_getD, hi]

section
variable {H : Type} {enc : TypeId × Value → H} {P : Program} {w : World} {base : Nat} {held : Bool} {spare : Nat → Bool}
theorem weightsAll_mem {e : TypeId} : ∀ {ds : List (DataW H)} {d : DataW H}, d ∈ ds → ∀ n ∈ d.weights P e, n ∈ DataW.weightsAll P e ds
  | [], _, h, _, _ => by simp at h
  | d0 :: ds, d, h, n, hn => by
    simp only [DataW.weightsAll, List.mem_append]
    rcases List.mem_cons.1 h with rfl | h
    · exact .inl hn
    · exact .inr (weightsAll_mem h n hn)
theorem reach_string {ts : List TypeId} {ds : List (DataW H)} (h : (DataW.weightsEach P ts ds).all (· ≤ reachBytes) = true) {j : Nat} {t : TypeId} {s : ByteArray} (ht : ts[j]? = some t) (hd : ds[j]? = some (.lit (.string s.data.toList))) : s.size ≤ 140737488351232 := by
  have := sized_string h ht hd
  have e : s.data.toList.length = s.size := by simp
  have hr : reachBytes = 140737488351232 := rfl
  omega

theorem i64_wf {n : Int} (h : (Lit.int .i64 n).wf = true) : -9223372036854775808 ≤ n ∧ n ≤ 9223372036854775807 := by
  simpa [Lit.wf, IntKind.min, IntKind.max, IntKind.signed, IntKind.bits] using h
/-- a slice of strings that came in -/
theorem open_ss {ts : List TypeId} {ds : List (DataW H)} {j : Nat} {t e : TypeId} {v : Value} {d : DataW H} {ps : List MemPlace} (ht : P.underlying t = some (.slice e)) (he : P.underlying e = some .string) (hc : P.cellsOf e = 1) (hby : P.bytesOf e = 16)
    (hv : Value.okWide P w .any base t v) (h : DataW.Trod enc P w 0 spare held t v d ps) (hz : (DataW.weightsEach P ts ds).all (· ≤ reachBytes) = true) (htj : ts[j]? = some t) (hdj : ds[j]? = some d) :
    ∃ a c ls, v = .slice a ls.length c ∧ Rd w a ls.length (ss ls) ∧ (∀ x ∈ ls, x.length ≤ 140737488351232) ∧ ls.length ≤ 9223372036854775807 ∧ ls.length * 16 ≤ 140737488351232 ∧ ls.length ≤ c := by
  obtain ⟨a0, len, cap, rfl⟩ := okWide_slice ht hv
  obtain ⟨fuel, hf⟩ := h
  have hr : reachBytes = 140737488351232 := rfl
  rcases open_strings ht he hc hf with ⟨hcs, hx⟩ | ⟨a, len', cap', sl, hcs, _, hl, hm, hzl, hx, hcell, hsz⟩
  · simp only [Value.cells] at hcs
    simp only [List.cons.injEq, and_true, Value.slice.injEq] at hcs
    obtain ⟨rfl, rfl, rfl⟩ := hcs
    exact ⟨none, 0, [], rfl, Rd.nil _ _, by simp, by simp, by simp, by simp⟩
  · simp only [Value.cells] at hcs
    simp only [List.cons.injEq, and_true, Value.slice.injEq] at hcs
    obtain ⟨rfl, rfl, rfl⟩ := hcs
    simp only [Prod.mk.injEq] at hx
    obtain ⟨rfl, -⟩ := hx
    have hlen : (sl.take len).length = len := by
      rw [List.length_take, hzl]; split <;> omega
    have hlsl : len ≤ sl.length := by rw [hzl]; split <;> omega
    have hW := sized_slice hz htj hdj ht
    rw [hby, strs, strs, List.length_map, List.length_map, hr] at hW
    refine ⟨some a, cap, (sl.take len).map fun s => s.data.toList, by rw [List.length_map, hlen], ⟨by simp [ss], ?_⟩, ?_, ?_, ?_, ?_⟩
    · rcases Nat.eq_zero_or_pos len with h0 | h0
      · exact .inl (by simp [hlen, h0])
      · right
        obtain ⟨b, o, spot⟩ := a
        have hspot : spot = none := by simpa [Addr.add] using World.cell?_spot (hcell 0 (by omega))
        subst hspot
        refine ⟨b, o, rfl, ?_⟩
        intro i v hv
        have hi : i < len := by
          rcases Nat.lt_or_ge i len with k | k
          · exact k
          · rw [List.getElem?_eq_none (by simp [ss]; omega)] at hv; cases hv
        have h1 := hcell i (by omega)
        rw [addr_add] at h1
        have h2 : (ss ((sl.take len).map fun s => s.data.toList))[i]? = some (.string (sl.getD i ByteArray.empty)) := by
          have : i < sl.length := by omega
          simp [ss, List.getElem?_take, hi, List.getD_eq_getElem?_getD, List.getElem?_eq_getElem this, mkS_data]
        rw [h2] at hv
        cases hv
        exact h1
    · intro x hx
      simp only [List.mem_map] at hx
      obtain ⟨s, hs, rfl⟩ := hx
      have hmem : (DataW.lit (.string s.data.toList) : DataW H) ∈ strs (H := H) (sl.take len) := by
        simp only [strs, List.mem_map]; exact ⟨s, hs, rfl⟩
      have hn : s.data.toList.length ∈ DataW.weightsEach P ts ds := by
        refine DataW.weights_mem_each htj hdj _ ?_
        simp only [DataW.weights, ht, List.mem_cons, List.mem_append]
        exact .inr (.inl (weightsAll_mem hmem _ (by simp [DataW.weights])))
      have := List.all_eq_true.1 hz _ hn
      rw [hr] at this
      simpa using this
    · simp only [maxLen] at hm; simp; omega
    · simp only [List.length_map]; omega
    · simp only [List.length_map]; omega
end
end Go.Mv
