/- (*mont.Modulus).Mul: Montgomery's product; Plain: elements: a number times 2^256 modulo M; mont: One, To, From, Add, Sub, Neg, Square, Pow, Inv, Less: at the level of the numbers that the elements stand for; mont: Pow, Inv, fold, Reduce; mont: Reduce; mont.Of; num.Modulus, num.Reduce; the law's told; num.read: lists of numbers; zn: scalars: order, Of, the methods, Wide, Small; num.reckon, over an operation's contract; num: Add, Sub, Mul, Inv; Arrays of words compared; a number shifted down; bits laid one by one; mont.Int.shift by two bits; mont: Sqrt; num.Sqrt's operation; zn: Zero, Small, Bytes; scalars compared; group: none, nothing, opposite. -/
import Derived.Test.YtdbgddngapminaaMgGroupHomesProof2
import Derived.Test.YtdbgddngapminaaMgGroupHomesProof1
import Derived.ChangeKeysEq
import Derived.StillTailTactics
namespace Go.Proofs.Ytdbgddngapminaa
open Go.RowKit Go.Mv Mvp
attribute [local irreducible] limbs lw mix cw cSub cAdd cMul beN laid be32 montT mstep
set_option maxHeartbeats 8000000 in
set_option maxRecDepth 100000 in
theorem MMul_any (m : Md) (gp a b : Nat) (w : World) (hok : m.Ok) (hpm : Has w gp (mdL m) 134) (ha : a < B64 ^ 4) (hb : b < m.M) :
    Calls Try.prog 94 #[.pointer (some ⟨gp, 0, none⟩), i4 a, i4 b] w fun e w' => e = .returned (i4 (a * b * m.Ri % m.M)) ∧ Fr Nob w w' := by
  have HOK := Lib.hid hok
  have HPM := Lib.hid hpm
  have HA := Lib.hid ha
  have HB := Lib.hid hb
  clear hok hpm ha hb
  have st0 := St.start Nob w
  go_enter Try.func94, Try.ntmps94
  go_wp2_with (with_reducible refine wl_stop (o := ⟨some 4, _, _, _, _, _⟩) ?_)
  refine wl_boxS st0 rfl rfl rfl (cw 4 a) rfl ?_
  intro g4 w1 st1
  clear st0
  go_wp2_with (with_reducible refine wl_stop (o := ⟨some 5, _, _, _, _, _⟩) ?_)
  refine wl_boxS st1 rfl rfl rfl (cw 4 b) rfl ?_
  intro g5 w2 st2
  clear st1
  go_wp2_with (with_reducible refine wl_stop (o := ⟨some 6, _, _, _, _, _⟩) ?_)
  refine wl_allocS st2 rfl rfl (z := .agg #[.int .u64 0, .int .u64 0, .int .u64 0, .int .u64 0]) (by kernel_rfl) (cw 4 0) (by rw [cw_zero]; rfl) ?_
  intro g6 w3 st3
  clear st2
  go_wp2_with (with_reducible refine wl_stop (o := ⟨some 7, _, _, _, _, _⟩) ?_)
  refine wl_allocS st3 rfl rfl (z := .agg #[.int .u64 0, .int .u64 0, .int .u64 0, .int .u64 0, .int .u64 0, .int .u64 0]) (by kernel_rfl) (cw 6 0) (by rw [cw_zero]; rfl) ?_
  intro g7 w4 st4
  clear st3
  go_wp2_with (with_reducible refine wl_stop (o := ⟨some 14, _, _, _, _, _⟩) ?_)
  refine wl_loadS st4 0 rfl rfl rfl Try.underlying70 rfl (by simp only [cw_len]; kernel_rfl) ?_
  go_wp2
  go_loopw [15] (fun i wr => ∃ k : Nat, k ≤ 4 ∧ i = .int .i64 (k : Int) ∧ St Nob w wr [(g4, cw 4 a, 70), (g5, cw 4 b, 70), (g6, cw 4 0, 70), (g7, cw 6 (montT m.M m.neg b a k), 153)]) (fun i _ => 4 - (intOf i).toNat)
  case atStart => exact ⟨0, by omega, rfl, by rw [montT_zero]; exact st4⟩
  case round =>
    obtain ⟨k, hk, rfl, st⟩ := hrel
    clear st4
    by_cases hlt : k < 4
    · have hltI : (k : Int) < 4 := by omega
      have e0 := fun wx => run_index_cw (P := Try.prog) Try.underlying70 Try.underlying22 size_u64 a k hlt .i64 wx
      have hTl := montT_lt m.M m.neg b a k (by have := HOK.out.one; omega)
      obtain ⟨b1, b2, b3, b4⟩ := mont_bounds (montT m.M m.neg b a k) b m.M (lw a k) (montT m.M m.neg b a k + lw a k * b) ((montT m.M m.neg b a k + lw a k * b) % 18446744073709551616 * m.neg % 18446744073709551616) HB.out HOK.out.lt hTl (lw_lt a k) rfl (Nat.mod_lt _ (by decide))
      have hsucc : montT m.M m.neg b a (k + 1) = (montT m.M m.neg b a k + lw a k * b + ((montT m.M m.neg b a k + lw a k * b) % 18446744073709551616 * m.neg % 18446744073709551616) * m.M) / 18446744073709551616 := montT_succ m.M m.neg b a k
      generalize hT : montT m.M m.neg b a k = T at *
      generalize hT' : montT m.M m.neg b a (k + 1) = T' at *
      have hx := lw_lt a k
      obtain ⟨l1, l2, l3⟩ := line_top T (lw a k) b (Nat.lt_trans HB.out HOK.out.lt) b2 (Nat.lt_trans b1 (by decide))
      have z5 : lw T 5 = 0 := lw_top T 5 5 b1 (Nat.le_refl _)
      rw [z5, Nat.zero_add] at l2
      have hline := fun wx (h : Has wx g7 (cw 6 T) 153) => line_any g7 T (lw a k) b (lw T 4) 153 wx h hx (lw_lt T 4)
      rw [l1, l2] at hline
      generalize hxx : lw a k = x at *
      generalize hV : T + x * b = V at *
      have hw0 := word0 V
      generalize hmm : V % 18446744073709551616 * m.neg % 18446744073709551616 = mm at *
      have hm64 : mm < 18446744073709551616 := by rw [← hmm]; exact Nat.mod_lt _ (by decide)
      have hmul : IntKind.u64.wrap ((lw V 0 : Int) * (m.neg : Int)) = (mm : Int) := by
        rw [IntKind.wrap_u64, ← hmm, hw0, ← Int.natCast_mul]; rfl
      have hlt2 := fun wx (h : Has wx g7 (cw 6 V) 153) => lineTop_any g7 V mm m.M wx h hm64 HOK.out.lt b4 b3
      generalize hV2 : V + mm * m.M = V2 at *
      have hshift := shift6 V2 b4
      rw [← hsucc] at hshift
      have HLINE := Lib.hid hline
      have HLT2 := Lib.hid hlt2
      have HSHIFT := Lib.hid hshift
      have HT := Lib.hid hT
      have HT' := Lib.hid hT'
      clear hTl b1 b2 b3 b4 hsucc l1 l2 l3 z5 hline hV hw0 hmm hm64 hlt2 hV2 hshift hT hT' hx hxx
      have ct := (st.at 3 rfl).cell (cw_get 6 T 4 (by decide))
      go_wp2_with (with_reducible refine wl_stop (o := ⟨some 20, _, _, _, _, _⟩) ?_)
      refine wl_loadS st 1 rfl rfl rfl Try.underlying70 rfl (by simp only [cw_len]; kernel_rfl) ?_
      go_wp2_with fail
      refine (HLINE.out _ (st.at 3 rfl)).mono ?_
      rintro e' w5 ⟨rfl, hg5, hf5⟩
      have st5 : St Nob w w5 [(g4, cw 4 a, 70), (g5, cw 4 b, 70), (g6, cw 4 0, 70), (g7, cw 6 (mix V T 4), 153)] := st.put 3 rfl hf5 hg5
      clear st hf5 hg5
      clear ct
      obtain ⟨v4, c4, f4⟩ := (st5.at 3 rfl).ready (i := 4) (by rw [cw_len]; decide)
      obtain ⟨v5, c5, f5⟩ := (st5.at 3 rfl).ready (i := 5) (by rw [cw_len]; decide)
      go_wp2_with fail
      have stA := (st5.set 3 rfl 4 (.int .u64 (lw V 4 : Nat))).set 3 rfl 5 (.int .u64 (lw V 5 : Nat))
      have hcw : ((cw 6 (mix V T 4)).set 4 (.int .u64 (lw V 4 : Nat))).set 5 (.int .u64 (lw V 5 : Nat)) = cw 6 V := by rw [cw_set 6 V T 4 (by decide), cw_set 6 V T 5 (by decide), mix_full]
      rw [hcw] at stA
      clear hcw c4 c5 f4 f5 v4 v5 st5
      generalize (World.setCell (World.setCell w5 ⟨g7, 4, none⟩ (.int .u64 (lw V 4 : Nat))) ⟨g7, 5, none⟩ (.int .u64 (lw V 5 : Nat))) = wA at *
      have stA : St Nob w wA [(g4, cw 4 a, 70), (g5, cw 4 b, 70), (g6, cw 4 0, 70), (g7, cw 6 V, 153)] := stA
      have cv := (stA.at 3 rfl).cell (cw_get 6 V 0 (by decide))
      have cn := (HPM.out.keep stA.fr id).cell (md_neg m)
      go_quiet (fail)
      have stB := stA.drewN nq
      clear stA cv cn
      go_wp2_with (with_reducible refine wl_stop (o := ⟨some 40, _, _, _, _, _⟩) ?_)
      refine wl_loadA rfl rfl Try.underlying82 rfl (HPM.out.keep stB.fr id) (cw 4 m.M) (md_M m) (by simp only [cw_len]; kernel_rfl) ?_
      go_wp2_with fail
      refine (HLT2.out _ (stB.at 3 rfl)).mono ?_
      rintro e' w7 ⟨rfl, hg7, hf7⟩
      have st7 : St Nob w w7 [(g4, cw 4 a, 70), (g5, cw 4 b, 70), (g6, cw 4 0, 70), (g7, cw 6 (mix V2 V 4), 153)] := stB.put 3 rfl hf7 hg7
      clear stB hf7 hg7
      obtain ⟨v4, c4, f4⟩ := (st7.at 3 rfl).ready (i := 4) (by rw [cw_len]; decide)
      obtain ⟨v5, c5, f5⟩ := (st7.at 3 rfl).ready (i := 5) (by rw [cw_len]; decide)
      go_wp2_with fail
      have stC := (st7.set 3 rfl 4 (.int .u64 (lw V2 4 : Nat))).set 3 rfl 5 (.int .u64 (lw V2 5 : Nat))
      have hcw : ((cw 6 (mix V2 V 4)).set 4 (.int .u64 (lw V2 4 : Nat))).set 5 (.int .u64 (lw V2 5 : Nat)) = cw 6 V2 := by rw [cw_set 6 V2 V 4 (by decide), cw_set 6 V2 V 5 (by decide), mix_full]
      rw [hcw] at stC
      clear hcw c4 c5 f4 f5 v4 v5 st7
      generalize (World.setCell (World.setCell w7 ⟨g7, 4, none⟩ (.int .u64 (lw V2 4 : Nat))) ⟨g7, 5, none⟩ (.int .u64 (lw V2 5 : Nat))) = wC at *
      have stC : St Nob w wC [(g4, cw 4 a, 70), (g5, cw 4 b, 70), (g6, cw 4 0, 70), (g7, cw 6 V2, 153)] := stC
      have k1 := fun wx => run_sliceA_hi (P := Try.prog) wx Try.underlying153 size_u64 g7 0 .i64 5 (by decide)
      have k2 := fun wx => run_sliceA_lo (P := Try.prog) wx Try.underlying153 size_u64 g7 0 .i64 1 (by decide)
      refine wp_region_noPanic ?_
      refine wp_region_seq (fun wx => St Nob w wx [(g4, cw 4 a, 70), (g5, cw 4 b, 70), (g6, cw 4 0, 70), (g7, cw 6 V2, 153)]) 2 [(0, true), (1, true)] (by kernel_rfl) (by kernel_rfl) stC.drew (fun _ _ _ _ _ h => h) ?_
      have stD := stC.drew
      clear stC
      refine seq_pure (v := ?_) rfl rfl (fun wx hS => ?_) ?_
      rotate_left 1
      · (clear hS; go_simp; with_reducible rfl)
      try simp only [Act.put, List.setIfInBounds_toArray, List.set_cons_zero, List.set_cons_succ]
      refine seq_pure (v := ?_) rfl rfl (fun wx hS => ?_) ?_
      rotate_left 1
      · (clear hS; go_simp; with_reducible rfl)
      try simp only [Act.put, List.setIfInBounds_toArray, List.set_cons_zero, List.set_cons_succ]
      refine seq_end ?_
      try simp only [List.drop_succ_cons, List.drop_zero]
      refine wl_copy rfl rfl Try.underlying157 size_u64 rfl rfl (stD.at 3 rfl) (Rd.ofHas (stD.at 3 rfl) 1 (n := 5) (by rw [cw_len]; decide)) (fun v hv => cw_one _ _ v (List.mem_of_mem_drop (List.mem_of_mem_take hv))) (by rw [cw_len]; decide) ?_
      intro wE hgE hfE hzE
      clear hzE
      have stE := stD.put 3 rfl hfE hgE
      clear stD hgE hfE
      obtain ⟨v5, c5, f5⟩ := (stE.at 3 rfl).ready (i := 5) (by rw [splice_length _ _ _ (by simp [cw_len])]; rw [cw_len]; decide)
      go_wp2_with fail
      refine NoPanic.normal ?_
      clear k1 k2
      go_wp2_with fail
      have stF := stE.set 3 rfl 5 (.int .u64 0)
      clear stE c5 f5
      go_roundw
      case rel =>
        refine ⟨k + 1, by omega, by go_num, ?_⟩
        rw [HT'.out]
        have hh := stF
        have h6 := HSHIFT.out
        simp only [List.set_cons_succ, List.set_cons_zero] at hh
        rw [show min 5 5 = 5 from rfl, List.take_take, show min 5 5 = 5 from rfl, h6] at hh
        exact hh
      case measure => simp [intOf]; omega
    · have hge : ¬ ((k : Int) < 4) := by omega
      have hk4 : k = 4 := by omega
      subst hk4
      have k4 : ∀ wx, (Instr.arrayAt 82 (.slice (some ⟨g7, 0, none⟩) 4 6)).run Try.prog wx = .ok (.pointer (some ⟨g7, 0, none⟩)) wx := fun wx => by simp [Instr.arrayAt, run_underlying Try.underlying82]
      have k3 := fun wx => run_sliceA_hi (P := Try.prog) wx Try.underlying153 size_u64 g7 0 .i64 4 (by decide)
      have hTl := montT_lt m.M m.neg b a 4 (by have := HOK.out.one; omega)
      have hval := mont_value m.M m.neg m.Ri a b (by have := HOK.out.one; omega) HA.out HOK.out.neg (by rw [HOK.out.inv, Nat.mod_eq_of_lt HOK.out.one])
      generalize hT : montT m.M m.neg b a 4 = T at *
      have HT := Lib.hid hT; clear hT
      have HTL := Lib.hid hTl; clear hTl
      have HVAL := Lib.hid hval; clear hval
      go_wp2_with (with_reducible refine wl_stop (o := ⟨some 53, _, _, _, _, _⟩) ?_)
      refine wl_loadA rfl rfl Try.underlying82 rfl (st.at 3 rfl) (cw 4 T) (cw6_low T) (by rw [cw_len]; exact size_mi) ?_
      clear k3 k4
      go_wp2_with (with_reducible refine wl_stop (o := ⟨some 11, _, _, _, _, _⟩) ?_)
      refine wl_allocS st rfl rfl (z := .agg #[.int .u64 0, .int .u64 0, .int .u64 0, .int .u64 0]) (by kernel_rfl) (cw 4 0) (by rw [cw_zero]; rfl) ?_
      intro g11 w5 st5
      clear st
      go_wp2_with (with_reducible refine wl_stop (o := ⟨none, _, _, _, _, _⟩) ?_)
      refine wl_storeS st5 4 rfl rfl rfl rfl rfl (by first | (simp only [cw_len]; done) | (simp only [List.length_append, cw_len]; done)) (by simp only [cw_len]; kernel_rfl) (cw_one _ _) ?_
      intro w6 st6
      clear st5
      go_wp2_with fail
      refine wp_region_noPanic ?_
      refine wp_region_tree (fun wx => St Nob w wx [(g4, cw 4 a, 70), (g5, cw 4 b, 70), (g6, cw 4 0, 70), (g7, cw 6 T, 153), (g11, cw 4 T, 82)]) 11 (.t 0 (.t 1 (.t 2 (.t 3 (.t 4 (.b 5 9 (.t 6 (.t 7 (.t 8 (.r 9 (.r 10 .nil))))) (.r 5 (.t 6 (.t 7 (.t 8 (.r 10 .nil))))))))))) (by kernel_rfl) (by kernel_rfl) st6.drew (fun _ _ _ _ _ h => h) ?_
      have hd6 := st6.drew
      clear st6
      refine tree_arr rfl rfl rfl rfl (cw 4 T) (fun wx hS => St.rangeL hS 4 rfl 0 _ (by rw [List.drop_zero, List.take_of_length_le (Nat.le_refl _)])) Try.underlying82 rfl (by simp only [cw_len]; kernel_rfl) ?_
      try simp only [Act.put, List.setIfInBounds_toArray, List.set_cons_zero, List.set_cons_succ]
      refine tree_pure (v := ?_) rfl rfl (fun wx hS => ?_) ?_
      rotate_left 1
      · (clear hS; go_simp; with_reducible rfl)
      try simp only [Act.put, List.setIfInBounds_toArray, List.set_cons_zero, List.set_cons_succ]
      refine tree_pure (v := ?_) rfl rfl (fun wx hS => ?_) ?_
      rotate_left 1
      · (clear hS; go_simp; with_reducible rfl)
      try simp only [Act.put, List.setIfInBounds_toArray, List.set_cons_zero, List.set_cons_succ]
      refine tree_pure (v := ?_) rfl rfl (fun wx hS => ?_) ?_
      rotate_left 1
      · (clear hS; go_simp; with_reducible rfl)
      try simp only [Act.put, List.setIfInBounds_toArray, List.set_cons_zero, List.set_cons_succ]
      refine tree_arr rfl rfl rfl rfl (cw 4 m.M) (fun wx hS => (HPM.out.keep (St.fr hS) id).range 0 _ (md_M m)) Try.underlying82 rfl (by simp only [cw_len]; kernel_rfl) ?_
      try simp only [Act.put, List.setIfInBounds_toArray, List.set_cons_zero, List.set_cons_succ]
      refine tree_both (C := fun g12 wz => St Nob w wz [(g4, cw 4 a, 70), (g5, cw 4 b, 70), (g6, cw 4 0, 70), (g7, cw 6 T, 153), (g11, cw 4 T, 82), (g12, cw 4 (T + B64 ^ 4 - m.M), 82)]) (F := ?_) rfl rfl rfl rfl (fun key => ?_) (fun key => ?_) ?_
      rotate_left 1
      · skip
        go_simp
        refine (minus_any T m.M _ HOK.out.lt).mono ?_
        rintro e' w7 ⟨rfl, hf7⟩
        have st7 := hd6.keep hf7
        clear hf7
        refine ⟨st7, ?_⟩
        try simp only [Act.put, List.setIfInBounds_toArray, List.set_cons_zero, List.set_cons_succ]
        refine tree_pure (v := ?_) rfl rfl (fun wx hS => ?_) ?_
        rotate_left 1
        · (clear hS; go_simp; with_reducible rfl)
        try simp only [Act.put, List.setIfInBounds_toArray, List.set_cons_zero, List.set_cons_succ]
        refine tree_pure (v := ?_) rfl rfl (fun wx hS => ?_) ?_
        rotate_left 1
        · (clear hS; go_simp; with_reducible rfl)
        try simp only [Act.put, List.setIfInBounds_toArray, List.set_cons_zero, List.set_cons_succ]
        refine tree_pure (v := ?_) rfl rfl (fun wx hS => ?_) ?_
        rotate_left 1
        · (clear hS; go_simp; with_reducible rfl)
        try simp only [Act.put, List.setIfInBounds_toArray, List.set_cons_zero, List.set_cons_succ]
        refine tree_run rfl rfl ?_
        refine wp_allocS st7 rfl (z := .agg #[.int .u64 0, .int .u64 0, .int .u64 0, .int .u64 0]) (by kernel_rfl) (cw 4 0) (by rw [cw_zero]; rfl) ?_
        intro g12 w8 st8
        refine ⟨St.less st8 (by simp), ?_⟩
        try simp only [Act.put, List.setIfInBounds_toArray, List.set_cons_zero, List.set_cons_succ]
        refine tree_run rfl rfl ?_
        refine wp_storeS st8 5 rfl rfl rfl rfl (by first | (simp only [cw_len]; done) | (simp only [List.length_append, cw_len]; done)) (by simp only [cw_len]; kernel_rfl) (cw_one _ _) ?_
        intro w9 st9
        refine ⟨St.less st9 (by simp), ?_⟩
        try simp only [Act.put]
        refine tree_end ?_
        try simp only [List.drop_succ_cons, List.drop_zero]
        go_wp2_with fail
        exact key g12 w9 st9
      · skip
        refine wp_allocS hd6 rfl (z := .agg #[.int .u64 0, .int .u64 0, .int .u64 0, .int .u64 0]) (by kernel_rfl) (cw 4 0) (by rw [cw_zero]; rfl) ?_
        intro g12 w10 st10
        refine ⟨St.less st10 (by simp), ?_⟩
        try simp only [Act.put, List.setIfInBounds_toArray, List.set_cons_zero, List.set_cons_succ]
        refine tree_run rfl rfl ?_
        go_simp
        refine (minus_any T m.M _ HOK.out.lt).mono ?_
        rintro e' w11 ⟨rfl, hf11⟩
        have st11 := st10.keep hf11
        clear hf11
        refine ⟨St.less st11 (by simp), ?_⟩
        try simp only [Act.put, List.setIfInBounds_toArray, List.set_cons_zero, List.set_cons_succ]
        refine tree_pure (v := ?_) rfl rfl (fun wx hS => ?_) ?_
        rotate_left 1
        · (clear hS; go_simp; with_reducible rfl)
        try simp only [Act.put, List.setIfInBounds_toArray, List.set_cons_zero, List.set_cons_succ]
        refine tree_pure (v := ?_) rfl rfl (fun wx hS => ?_) ?_
        rotate_left 1
        · (clear hS; go_simp; with_reducible rfl)
        try simp only [Act.put, List.setIfInBounds_toArray, List.set_cons_zero, List.set_cons_succ]
        refine tree_pure (v := ?_) rfl rfl (fun wx hS => ?_) ?_
        rotate_left 1
        · (clear hS; go_simp; with_reducible rfl)
        try simp only [Act.put, List.setIfInBounds_toArray, List.set_cons_zero, List.set_cons_succ]
        refine tree_run rfl rfl ?_
        refine wp_storeS st11 5 rfl rfl rfl rfl (by first | (simp only [cw_len]; done) | (simp only [List.length_append, cw_len]; done)) (by simp only [cw_len]; kernel_rfl) (cw_one _ _) ?_
        intro w12 st12
        refine ⟨St.less st12 (by simp), ?_⟩
        try simp only [Act.put]
        refine tree_end ?_
        try simp only [List.drop_succ_cons, List.drop_zero]
        go_wp2_with fail
        exact key g12 w12 st12
      intro g12 w13 st13
      have st13 : St Nob w w13 [(g4, cw 4 a, 70), (g5, cw 4 b, 70), (g6, cw 4 0, 70), (g7, cw 6 T, 153), (g11, cw 4 T, 82), (g12, cw 4 (T + B64 ^ 4 - m.M), 82)] := st13
      clear hd6
      refine NoPanic.normal ?_
      have c4 := (st13.at 3 rfl).cell (cw_get 6 T 4 (by decide))
      have hfin := mont_final T m.M HOK.out.lt (by have := HTL.out; have := HB.out; omega)
      by_cases hlt2 : T < m.M
      · obtain ⟨f1, f2, f3⟩ := hfin.1 hlt2
        rw [f1] at c4
        rw [f2]
        have HF := Lib.hid f3
        clear hfin f1 f2 f3 hlt2
        go_wp2_with (with_reducible refine wl_stop (o := ⟨some 70, _, _, _, _, _⟩) ?_)
        refine wl_loadS st13 4 rfl rfl rfl Try.underlying82 rfl (by simp only [cw_len]; kernel_rfl) ?_
        go_wp2_with (with_reducible refine wl_stop (o := ⟨none, _, _, _, _, _⟩) ?_)
        refine wl_storeS st13 2 rfl rfl rfl rfl rfl (by first | (simp only [cw_len]; done) | (simp only [List.length_append, cw_len]; done)) (by simp only [cw_len]; kernel_rfl) (cw_one _ _) ?_
        intro w14 st14
        clear st13
        have hr := st14.at 2 rfl
        have hfr := st14.fr
        clear st14
        go_wp2_with fail
        exact bodyPost_ret (results_arr rfl rfl hr Try.underlying70 (by simp only [cw_len]; kernel_rfl)) rfl ⟨by rw [← HVAL.out]; unfold i4; rw [HF.out], hfr⟩
      · obtain ⟨f3, f4⟩ := hfin.2 hlt2
        have HF := Lib.hid f3
        by_cases hlt3 : T < B64 ^ 4
        · obtain ⟨f1, f2⟩ := f4 hlt3
          rw [f1] at c4
          rw [f2]
          clear hfin f1 f2 f3 f4 hlt2 hlt3
          go_wp2_with (with_reducible refine wl_stop (o := ⟨some 71, _, _, _, _, _⟩) ?_)
          refine wl_loadS st13 5 rfl rfl rfl Try.underlying82 rfl (by simp only [cw_len]; kernel_rfl) ?_
          go_wp2_with (with_reducible refine wl_stop (o := ⟨none, _, _, _, _, _⟩) ?_)
          refine wl_storeS st13 2 rfl rfl rfl rfl rfl (by first | (simp only [cw_len]; done) | (simp only [List.length_append, cw_len]; done)) (by simp only [cw_len]; kernel_rfl) (cw_one _ _) ?_
          intro w14 st14
          clear st13
          have hr := st14.at 2 rfl
          have hfr := st14.fr
          clear st14
          go_wp2_with fail
          exact bodyPost_ret (results_arr rfl rfl hr Try.underlying70 (by simp only [cw_len]; kernel_rfl)) rfl ⟨by rw [← HVAL.out]; unfold i4; rw [HF.out], hfr⟩
        · have f1 := lw4_one T (by have := HTL.out; have := HB.out; have := HOK.out.lt; omega) hlt3
          rw [f1] at c4
          clear hfin f1 f3 f4 hlt2 hlt3
          go_wp2_with (with_reducible refine wl_stop (o := ⟨some 71, _, _, _, _, _⟩) ?_)
          refine wl_loadS st13 5 rfl rfl rfl Try.underlying82 rfl (by simp only [cw_len]; kernel_rfl) ?_
          go_wp2_with (with_reducible refine wl_stop (o := ⟨none, _, _, _, _, _⟩) ?_)
          refine wl_storeS st13 2 rfl rfl rfl rfl rfl (by first | (simp only [cw_len]; done) | (simp only [List.length_append, cw_len]; done)) (by simp only [cw_len]; kernel_rfl) (cw_one _ _) ?_
          intro w14 st14
          clear st13
          have hr := st14.at 2 rfl
          have hfr := st14.fr
          clear st14
          go_wp2_with fail
          exact bodyPost_ret (results_arr rfl rfl hr Try.underlying70 (by simp only [cw_len]; kernel_rfl)) rfl ⟨by rw [← HVAL.out]; unfold i4; rw [HF.out], hfr⟩
end Go.Proofs.Ytdbgddngapminaa

/- Plain: elements: a number times 2^256 modulo M. -/
namespace Mvp
def elN (m : Md) (x : Nat) : Nat := x * B64 ^ 4 % m.M
theorem el_lt (m : Md) (h : m.Ok) (x : Nat) : elN m x < m.M := Nat.mod_lt _ (by have := h.one; omega)
theorem el_lt4 (m : Md) (h : m.Ok) (x : Nat) : elN m x < B64 ^ 4 := Nat.lt_trans (el_lt m h x) h.lt
theorem el_one (m : Md) : B64 ^ 4 % m.M = elN m 1 := by rw [elN, Nat.one_mul]
theorem el_zero (m : Md) : elN m 0 = 0 := by rw [elN, Nat.zero_mul, Nat.zero_mod]
theorem el_mod (m : Md) (x : Nat) : elN m (x % m.M) = elN m x := by rw [elN, elN, Nat.mod_mul_mod]
theorem el_congr (m : Md) {x y : Nat} (h : x % m.M = y % m.M) : elN m x = elN m y := by rw [← el_mod, h, el_mod]
theorem el_Ri (m : Md) (h : m.Ok) (x : Nat) : x * B64 ^ 4 * m.Ri % m.M = x % m.M := by
  rw [Nat.mul_assoc, Nat.mul_mod, h.inv, Nat.mul_one, Nat.mod_mod]
theorem mulmod_help (a b R Ri M : Nat) : (a * R % M) * (b * R % M) * Ri % M = (a * b * R) * R * Ri % M := by
  rw [← Nat.mod_mul_mod (a * R % M * (b * R % M)), ← Nat.mul_mod, Nat.mod_mul_mod, Nat.mul_mul_mul_comm, ← Nat.mul_assoc (a * b)]
theorem tomod_help (n R Ri M : Nat) : n * (R * R % M) * Ri % M = n * R * R * Ri % M := by
  rw [← Nat.mod_mul_mod (n * (R * R % M)), Nat.mul_mod_mod, Nat.mod_mul_mod, ← Nat.mul_assoc]
theorem el_mul (m : Md) (h : m.Ok) (x y : Nat) : elN m x * elN m y * m.Ri % m.M = elN m (x * y) := by
  unfold elN
  rw [mulmod_help, el_Ri m h]
theorem el_to (m : Md) (h : m.Ok) (n : Nat) : n * (B64 ^ 4 * B64 ^ 4 % m.M) * m.Ri % m.M = elN m n := by
  rw [tomod_help, el_Ri m h, elN]
theorem el_from (m : Md) (h : m.Ok) (x : Nat) : elN m x * 1 * m.Ri % m.M = x % m.M := by
  rw [Nat.mul_one, elN, Nat.mod_mul_mod, el_Ri m h]
theorem el_add (m : Md) (x y : Nat) : (elN m x + elN m y) % m.M = elN m (x + y) := by
  rw [elN, elN, elN, ← Nat.add_mod, Nat.add_mul]
theorem el_inj (m : Md) (h : m.Ok) {x y : Nat} (e : elN m x = elN m y) : x % m.M = y % m.M := by
  rw [← el_from m h x, e, el_from m h y]
theorem el_sub (m : Md) (h : m.Ok) (x y : Nat) : (elN m x + m.M - elN m y) % m.M = elN m (x + (m.M - y % m.M)) := by
  have hM : 0 < m.M := by have := h.one; omega
  have hy := el_lt m h y
  have h1 : (elN m x + m.M - elN m y) + elN m y = elN m x + m.M := by omega
  have hym := Nat.mod_lt y hM
  -- both give elN x when elN y is added
  have e1 : ((elN m x + m.M - elN m y) % m.M + elN m y) % m.M = elN m x % m.M := by
    rw [Nat.mod_add_mod, h1, Nat.add_mod_right]
  have e2 : (elN m (x + (m.M - y % m.M)) + elN m y) % m.M = elN m x % m.M := by
    rw [el_add, Nat.mod_eq_of_lt (el_lt m h x)]
    refine el_congr m ?_
    rw [Nat.add_assoc, Nat.add_mod x, Nat.add_comm _ y, ← Nat.mod_add_mod y, show y % m.M + (m.M - y % m.M) = m.M by omega, Nat.mod_self, Nat.add_zero, Nat.mod_mod]
  have a1 := Nat.mod_lt (elN m x + m.M - elN m y) hM
  have a2 := el_lt m h (x + (m.M - y % m.M))
  generalize (elN m x + m.M - elN m y) % m.M = p at *
  generalize elN m (x + (m.M - y % m.M)) = q at *
  generalize elN m y = r at *
  have e3 : (p + r) % m.M = (q + r) % m.M := by rw [e1, e2]
  have l1 := Nat.div_add_mod (p + r) m.M
  have l2 := Nat.div_add_mod (q + r) m.M
  rcases Nat.lt_or_ge (p + r) m.M with h1 | h1 <;> rcases Nat.lt_or_ge (q + r) m.M with h2 | h2
  · rw [Nat.mod_eq_of_lt h1, Nat.mod_eq_of_lt h2] at e3; omega
  · rw [Nat.mod_eq_of_lt h1, Nat.mod_eq_sub_mod h2, Nat.mod_eq_of_lt (by omega)] at e3; omega
  · rw [Nat.mod_eq_of_lt h2, Nat.mod_eq_sub_mod h1, Nat.mod_eq_of_lt (by omega)] at e3; omega
  · rw [Nat.mod_eq_sub_mod h1, Nat.mod_eq_sub_mod h2, Nat.mod_eq_of_lt (by omega), Nat.mod_eq_of_lt (by omega)] at e3; omega
theorem add_carry (a b : Nat) (ha : a < B64 ^ 4) (hb : b < B64 ^ 4) : cAdd a b 4 = lw (a + b) 4 := by
  rw [cAdd_all a b 4 ha hb]
  unfold lw
  have h0 := b64_pos 4
  have : (a + b) / B64 ^ 4 < 2 := Nat.div_lt_of_lt_mul (by omega)
  exact (Nat.mod_eq_of_lt (Nat.lt_trans this (by decide))).symm
theorem sub_words_lt (a b M : Nat) (_ : a < M) (hb : b < M) (hM : M < B64 ^ 4) (h : a < b) : Go.Mv.cw 4 ((a + M - b) % M) = Go.Mv.cw 4 (a + B64 ^ 4 - b + M) := by
  rw [Nat.mod_eq_of_lt (by omega), ← Go.Mv.cw_mod 4 (a + B64 ^ 4 - b + M)]
  rw [show a + B64 ^ 4 - b + M = (a + M - b) + B64 ^ 4 by omega, Nat.add_mod_right, Go.Mv.cw_mod]
theorem sub_words_ge (a b M : Nat) (ha : a < M) (hb : b < M) (h : ¬ a < b) : Go.Mv.cw 4 ((a + M - b) % M) = Go.Mv.cw 4 (a + B64 ^ 4 - b) := by
  have _h := hb
  rw [show a + M - b = (a - b) + M by omega, Nat.add_mod_right, Nat.mod_eq_of_lt (by omega), ← Go.Mv.cw_mod 4 (a + B64 ^ 4 - b), show a + B64 ^ 4 - b = (a - b) + B64 ^ 4 by omega, Nat.add_mod_right, Go.Mv.cw_mod]
end Mvp

/- mont: One, To, From, Add, Sub, Neg, Square, Pow, Inv, Less: at the level of the numbers that the elements stand for. -/
namespace Go.Proofs.Ytdbgddngapminaa
open Go.RowKit Go.Mv Mvp
attribute [local irreducible] limbs lw mix cw cSub cAdd cMul beN laid be32 montT mstep elN
set_option maxHeartbeats 8000000 in
set_option maxRecDepth 100000 in
theorem MOne_any (m : Md) (gp : Nat) (w : World) (hok : m.Ok) (hpm : Has w gp (mdL m) 134)  :
    Calls Try.prog 86 #[.pointer (some ⟨gp, 0, none⟩)] w fun e w' => e = .returned (i4 (elN m 1)) ∧ Fr Nob w w' := by
  have HOK := Lib.hid hok
  have HPM := Lib.hid hpm
  clear hok hpm
  have st0 := St.start Nob w
  go_enter Try.func86, Try.ntmps86
  go_wp2_with (with_reducible refine wl_stop (o := ⟨some 2, _, _, _, _, _⟩) ?_)
  refine wl_allocS st0 rfl rfl (z := .agg #[.int .u64 0, .int .u64 0, .int .u64 0, .int .u64 0]) (by kernel_rfl) (cw 4 0) (by rw [cw_zero]; rfl) ?_
  intro g2 w1 st1
  clear st0
  go_wp2_with (with_reducible refine wl_stop (o := ⟨some 6, _, _, _, _, _⟩) ?_)
  refine wl_loadA rfl rfl Try.underlying82 rfl (HPM.out.keep st1.fr id) (cw 4 (B64 ^ 4 % m.M)) (md_one m) (by simp only [cw_len]; kernel_rfl) ?_
  go_wp2_with (with_reducible refine wl_stop (o := ⟨none, _, _, _, _, _⟩) ?_)
  refine wl_storeS st1 0 rfl rfl rfl rfl rfl (by first | (simp only [cw_len]; done) | (simp only [List.length_append, cw_len]; done)) (by simp only [cw_len]; kernel_rfl) (cw_one _ _) ?_
  intro w2 st2
  clear st1
  have hr := st2.at 0 rfl
  have hfr := st2.fr
  clear st2
  go_wp2_with fail
  exact bodyPost_ret (results_arr rfl rfl hr Try.underlying70 (by simp only [cw_len]; kernel_rfl)) rfl ⟨by rw [← el_one m]; rfl, hfr⟩

set_option maxHeartbeats 8000000 in
set_option maxRecDepth 100000 in
theorem Mint_any (a : Nat) (w : World) :
    Calls Try.prog 122 #[i4 a] w fun e w' => e = .returned (i4 a) ∧ Fr Nob w w' := by
  have st0 := St.start Nob w
  go_enter Try.func122, Try.ntmps122
  go_wp2_with (with_reducible refine wl_stop (o := ⟨some 1, _, _, _, _, _⟩) ?_)
  refine wl_boxS st0 rfl rfl rfl (cw 4 a) rfl ?_
  intro g1 w1 st1
  clear st0
  go_wp2_with (with_reducible refine wl_stop (o := ⟨some 2, _, _, _, _, _⟩) ?_)
  refine wl_allocS st1 rfl rfl (z := .agg #[.int .u64 0, .int .u64 0, .int .u64 0, .int .u64 0]) (by kernel_rfl) (cw 4 0) (by rw [cw_zero]; rfl) ?_
  intro g2 w2 st2
  clear st1
  go_wp2_with (with_reducible refine wl_stop (o := ⟨some 3, _, _, _, _, _⟩) ?_)
  refine wl_loadS st2 0 rfl rfl rfl Try.underlying70 rfl (by simp only [cw_len]; kernel_rfl) ?_
  go_wp2_with (with_reducible refine wl_stop (o := ⟨none, _, _, _, _, _⟩) ?_)
  refine wl_storeS st2 1 rfl rfl rfl rfl rfl (by first | (simp only [cw_len]; done) | (simp only [List.length_append, cw_len]; done)) (by simp only [cw_len]; kernel_rfl) (cw_one _ _) ?_
  intro w3 st3
  clear st2
  have hr := st3.at 1 rfl
  have hfr := st3.fr
  clear st3
  go_wp2_with fail
  exact bodyPost_ret (results_arr rfl rfl hr Try.underlying82 (by simp only [cw_len]; kernel_rfl)) rfl ⟨rfl, hfr⟩

set_option maxHeartbeats 8000000 in
set_option maxRecDepth 100000 in
theorem MLess_any (a b : Nat) (w : World) (ha : a < B64 ^ 4) (hb : b < B64 ^ 4) :
    Calls Try.prog 90 #[i4 a, i4 b] w fun e w' => e = .returned (.bool (decide (a < b))) ∧ Fr Nob w w' := by
  have HA := Lib.hid ha
  have HB := Lib.hid hb
  clear ha hb
  have st0 := St.start Nob w
  go_enter Try.func90, Try.ntmps90
  go_wp2_with (with_reducible refine wl_stop (o := ⟨some 2, _, _, _, _, _⟩) ?_)
  refine wl_boxS st0 rfl rfl rfl (cw 4 a) rfl ?_
  intro g2 w1 st1
  clear st0
  go_wp2_with (with_reducible refine wl_stop (o := ⟨some 3, _, _, _, _, _⟩) ?_)
  refine wl_boxS st1 rfl rfl rfl (cw 4 b) rfl ?_
  intro g3 w2 st2
  clear st1
  have HCS := Lib.hid (cSub_all a b 4 HA.out HB.out)
  go_wp2_with (with_reducible refine wl_stop (o := ⟨some 8, _, _, _, _, _⟩) ?_)
  refine wl_loadS st2 0 rfl rfl rfl Try.underlying82 rfl (by simp only [cw_len]; kernel_rfl) ?_
  go_wp2_with (with_reducible refine wl_stop (o := ⟨some 9, _, _, _, _, _⟩) ?_)
  refine wl_loadS st2 1 rfl rfl rfl Try.underlying82 rfl (by simp only [cw_len]; kernel_rfl) ?_
  go_wp2_with fail
  refine (minus_any a b _ HB.out).mono ?_
  rintro e' w3 ⟨rfl, hf3⟩
  have st3 := st2.keep hf3
  clear st2 hf3
  go_wp2_with (with_reducible refine wl_stop (o := ⟨some 5, _, _, _, _, _⟩) ?_)
  refine wl_allocS st3 rfl rfl (z := .agg #[.int .u64 0, .int .u64 0, .int .u64 0, .int .u64 0]) (by kernel_rfl) (cw 4 0) (by rw [cw_zero]; rfl) ?_
  intro g5 w4 st4
  clear st3
  go_wp2_with (with_reducible refine wl_stop (o := ⟨none, _, _, _, _, _⟩) ?_)
  refine wl_storeS st4 2 rfl rfl rfl rfl rfl (by first | (simp only [cw_len]; done) | (simp only [List.length_append, cw_len]; done)) (by simp only [cw_len]; kernel_rfl) (cw_one _ _) ?_
  intro w5 st5
  clear st4
  have hfr := st5.fr
  clear st5
  have hcs := HCS.out
  clear HCS
  by_cases hlt : a < b
  · rw [if_pos hlt] at hcs
    rw [hcs]
    have HLT := Lib.hid hlt
    clear hlt hcs
    go_wp2_with fail
    go_ret
    exact ⟨by rw [decide_eq_true HLT.out]; rfl, hfr⟩
  · rw [if_neg hlt] at hcs
    rw [hcs]
    have HLT := Lib.hid hlt
    clear hlt hcs
    go_wp2_with fail
    go_ret
    exact ⟨by rw [decide_eq_false HLT.out]; rfl, hfr⟩

set_option maxHeartbeats 8000000 in
set_option maxRecDepth 100000 in
theorem MTo_any (m : Md) (gp : Nat) (w : World) (hok : m.Ok) (hpm : Has w gp (mdL m) 134) (n : Nat) (hn : n < B64 ^ 4) :
    Calls Try.prog 85 #[.pointer (some ⟨gp, 0, none⟩), i4 n] w fun e w' => e = .returned (i4 (elN m n)) ∧ Fr Nob w w' := by
  have HOK := Lib.hid hok
  have HPM := Lib.hid hpm
  clear hok hpm
  have HN := Lib.hid hn
  clear hn
  have st0 := St.start Nob w
  go_enter Try.func85, Try.ntmps85
  go_wp2_with (with_reducible refine wl_stop (o := ⟨some 3, _, _, _, _, _⟩) ?_)
  refine wl_boxS st0 rfl rfl rfl (cw 4 n) rfl ?_
  intro g3 w1 st1
  clear st0
  go_wp2_with (with_reducible refine wl_stop (o := ⟨some 4, _, _, _, _, _⟩) ?_)
  refine wl_allocS st1 rfl rfl (z := .agg #[.int .u64 0, .int .u64 0, .int .u64 0, .int .u64 0]) (by kernel_rfl) (cw 4 0) (by rw [cw_zero]; rfl) ?_
  intro g4 w2 st2
  clear st1
  go_wp2_with fail
  refine wp_region_noPanic ?_
  refine wp_region_plan (fun wx => St Nob w wx [(g3, cw 4 n, 82), (g4, cw 4 0, 70)]) 7 (.w 0 (.t 1 (.w 2 (.w 3 (.w 4 (.t 5 (.r 6 (.m 7 .nil)))))))) (by kernel_rfl) (by kernel_rfl) st2.drew (fun _ _ _ _ _ h => h) ?_
  have hd2 := st2.drew
  clear st2
  refine plan_w (v := ?_) rfl rfl (fun wx => ?_) ?_
  rotate_left 1
  · (go_simp; with_reducible rfl)
  try simp only [Act.put, List.setIfInBounds_toArray, List.set_cons_zero, List.set_cons_succ]
  refine plan_arr rfl rfl rfl rfl (cw 4 n) (fun wx hS => St.rangeL hS 0 rfl 0 _ (by rw [List.drop_zero, List.take_of_length_le (Nat.le_refl _)])) Try.underlying82 rfl (by simp only [cw_len]; kernel_rfl) ?_
  try simp only [Act.put, List.setIfInBounds_toArray, List.set_cons_zero, List.set_cons_succ]
  refine plan_w (v := ?_) rfl rfl (fun wx => ?_) ?_
  rotate_left 1
  · (go_simp; with_reducible rfl)
  try simp only [Act.put, List.setIfInBounds_toArray, List.set_cons_zero, List.set_cons_succ]
  refine plan_w (v := ?_) rfl rfl (fun wx => ?_) ?_
  rotate_left 1
  · (go_simp; with_reducible rfl)
  try simp only [Act.put, List.setIfInBounds_toArray, List.set_cons_zero, List.set_cons_succ]
  refine plan_w (v := ?_) rfl rfl (fun wx => ?_) ?_
  rotate_left 1
  · (go_simp; with_reducible rfl)
  try simp only [Act.put, List.setIfInBounds_toArray, List.set_cons_zero, List.set_cons_succ]
  refine plan_arr rfl rfl rfl rfl (cw 4 (B64 ^ 4 * B64 ^ 4 % m.M)) (fun wx hS => (HPM.out.keep (St.fr hS) id).range 9 _ (md_sq m)) Try.underlying82 rfl (by simp only [cw_len]; kernel_rfl) ?_
  try simp only [Act.put, List.setIfInBounds_toArray, List.set_cons_zero, List.set_cons_succ]
  refine plan_r rfl rfl ?_
  go_simp
  refine (MMul_any m gp n (B64 ^ 4 * B64 ^ 4 % m.M) _ HOK.out (HPM.out.keep hd2.fr id) HN.out (Nat.mod_lt _ (by have := HOK.out.one; omega))).mono ?_
  rintro e' w3 ⟨rfl, hf3⟩
  have st3 := hd2.keep hf3
  clear hf3
  clear hd2
  refine ⟨st3, ?_⟩
  try simp only [Act.put, List.setIfInBounds_toArray, List.set_cons_zero, List.set_cons_succ]
  refine plan_m rfl rfl ?_
  refine wp_storeS st3 1 rfl rfl rfl rfl (by first | (simp only [cw_len]; done) | (simp only [List.length_append, cw_len]; done)) (by simp only [cw_len]; kernel_rfl) (cw_one _ _) ?_
  intro w4 st4
  clear st3
  try simp only [Act.put]
  refine plan_end ?_
  refine NoPanic.normal ?_
  have hr := st4.at 1 rfl
  have hfr := st4.fr
  clear st4
  go_wp2_with fail
  exact bodyPost_ret (results_arr rfl rfl hr Try.underlying70 (by simp only [cw_len]; kernel_rfl)) rfl ⟨by rw [← el_to m HOK.out n]; rfl, hfr⟩

set_option maxHeartbeats 8000000 in
set_option maxRecDepth 100000 in
theorem MFrom_any (m : Md) (gp : Nat) (w : World) (hok : m.Ok) (hpm : Has w gp (mdL m) 134) (x : Nat) :
    Calls Try.prog 106 #[.pointer (some ⟨gp, 0, none⟩), i4 (elN m x)] w fun e w' => e = .returned (i4 (x % m.M)) ∧ Fr Nob w w' := by
  have HOK := Lib.hid hok
  have HPM := Lib.hid hpm
  clear hok hpm
  have hmul := fun wx (h : Has wx gp (mdL m) 134) => MMul_any m gp (elN m x) 1 wx HOK.out h (el_lt4 m HOK.out x) HOK.out.one
  rw [el_from m HOK.out x, ← small_words 1 (by decide)] at hmul
  have HMUL := Lib.hid hmul
  clear hmul
  have st0 := St.start Nob w
  go_enter Try.func106, Try.ntmps106
  go_wp2_with (with_reducible refine wl_stop (o := ⟨some 3, _, _, _, _, _⟩) ?_)
  refine wl_boxS st0 rfl rfl rfl (cw 4 (elN m x)) rfl ?_
  intro g3 w1 st1
  clear st0
  go_wp2_with (with_reducible refine wl_stop (o := ⟨some 4, _, _, _, _, _⟩) ?_)
  refine wl_allocS st1 rfl rfl (z := .agg #[.int .u64 0, .int .u64 0, .int .u64 0, .int .u64 0]) (by kernel_rfl) (cw 4 0) (by rw [cw_zero]; rfl) ?_
  intro g4 w2 st2
  clear st1
  go_wp2_with (with_reducible refine wl_stop (o := ⟨some 6, _, _, _, _, _⟩) ?_)
  refine wl_loadS st2 0 rfl rfl rfl Try.underlying70 rfl (by simp only [cw_len]; kernel_rfl) ?_
  go_wp2_with fail
  refine (HMUL.out _ (HPM.out.keep st2.fr id)).mono ?_
  rintro e' w3 ⟨rfl, hf3⟩
  have st3 := st2.keep hf3
  clear st2 hf3
  go_wp2_with fail
  refine (Mint_any (x % m.M) _).mono ?_
  rintro e' w4 ⟨rfl, hf4⟩
  have st4 := st3.keep hf4
  clear st3 hf4
  go_wp2_with (with_reducible refine wl_stop (o := ⟨none, _, _, _, _, _⟩) ?_)
  refine wl_storeS st4 1 rfl rfl rfl rfl rfl (by first | (simp only [cw_len]; done) | (simp only [List.length_append, cw_len]; done)) (by simp only [cw_len]; kernel_rfl) (cw_one _ _) ?_
  intro w5 st5
  clear st4
  have hr := st5.at 1 rfl
  have hfr := st5.fr
  clear st5
  go_wp2_with fail
  exact bodyPost_ret (results_arr rfl rfl hr Try.underlying82 (by simp only [cw_len]; kernel_rfl)) rfl ⟨rfl, hfr⟩

set_option maxHeartbeats 8000000 in
set_option maxRecDepth 100000 in
theorem MAdd_any (m : Md) (gp : Nat) (w : World) (hok : m.Ok) (hpm : Has w gp (mdL m) 134) (x y : Nat) :
    Calls Try.prog 98 #[.pointer (some ⟨gp, 0, none⟩), i4 (elN m x), i4 (elN m y)] w fun e w' => e = .returned (i4 (elN m (x + y))) ∧ Fr Nob w w' := by
  have HOK := Lib.hid hok
  have HPM := Lib.hid hpm
  clear hok hpm
  have hx := el_lt m HOK.out x
  have hy := el_lt m HOK.out y
  have HCA := Lib.hid (add_carry (elN m x) (elN m y) (Nat.lt_trans hx HOK.out.lt) (Nat.lt_trans hy HOK.out.lt))
  have HFIN := Lib.hid (mont_final (elN m x + elN m y) m.M HOK.out.lt (by omega))
  have H2 := Lib.hid (show (elN m x + elN m y) < 2 * B64 ^ 4 by have := HOK.out.lt; omega)
  clear hx hy
  have st0 := St.start Nob w
  go_enter Try.func98, Try.ntmps98
  go_wp2_with (with_reducible refine wl_stop (o := ⟨some 4, _, _, _, _, _⟩) ?_)
  refine wl_boxS st0 rfl rfl rfl (cw 4 (elN m x)) rfl ?_
  intro g4 w1 st1
  clear st0
  go_wp2_with (with_reducible refine wl_stop (o := ⟨some 5, _, _, _, _, _⟩) ?_)
  refine wl_boxS st1 rfl rfl rfl (cw 4 (elN m y)) rfl ?_
  intro g5 w2 st2
  clear st1
  go_wp2_with (with_reducible refine wl_stop (o := ⟨some 6, _, _, _, _, _⟩) ?_)
  refine wl_allocS st2 rfl rfl (z := .agg #[.int .u64 0, .int .u64 0, .int .u64 0, .int .u64 0]) (by kernel_rfl) (cw 4 0) (by rw [cw_zero]; rfl) ?_
  intro g6 w3 st3
  clear st2
  go_wp2_with (with_reducible refine wl_stop (o := ⟨some 12, _, _, _, _, _⟩) ?_)
  refine wl_loadS st3 0 rfl rfl rfl Try.underlying70 rfl (by simp only [cw_len]; kernel_rfl) ?_
  go_wp2_with (with_reducible refine wl_stop (o := ⟨some 13, _, _, _, _, _⟩) ?_)
  refine wl_loadS st3 1 rfl rfl rfl Try.underlying70 rfl (by simp only [cw_len]; kernel_rfl) ?_
  go_wp2_with fail
  refine (plus_any (elN m x) (elN m y) _).mono ?_
  rintro e' w4 ⟨rfl, hf4⟩
  have st4 := st3.keep hf4
  clear st3 hf4
  go_wp2_with (with_reducible refine wl_stop (o := ⟨some 7, _, _, _, _, _⟩) ?_)
  refine wl_allocS st4 rfl rfl (z := .agg #[.int .u64 0, .int .u64 0, .int .u64 0, .int .u64 0]) (by kernel_rfl) (cw 4 0) (by rw [cw_zero]; rfl) ?_
  intro g7 w5 st5
  clear st4
  go_wp2_with (with_reducible refine wl_stop (o := ⟨none, _, _, _, _, _⟩) ?_)
  refine wl_storeS st5 3 rfl rfl rfl rfl rfl (by first | (simp only [cw_len]; done) | (simp only [List.length_append, cw_len]; done)) (by simp only [cw_len]; kernel_rfl) (cw_one _ _) ?_
  intro w6 st6
  clear st5
  go_wp2_with fail
  refine wp_region_noPanic ?_
  refine wp_region_plan (fun wx => St Nob w wx [(g4, cw 4 (elN m x), 70), (g5, cw 4 (elN m y), 70), (g6, cw 4 0, 70), (g7, cw 4 (elN m x + elN m y), 82)]) 11 (.t 0 (.w 1 (.w 2 (.w 3 (.t 4 (.b 5 9 (.w 6 (.w 7 (.w 8 (.r 9 (.r 10 (.m 11 .nil)))))) (.r 5 (.w 6 (.w 7 (.w 8 (.r 10 (.m 11 .nil)))))))))))) (by kernel_rfl) (by kernel_rfl) st6.drew (fun _ _ _ _ _ h => h) ?_
  have hd6 := st6.drew
  clear st6
  refine plan_arr rfl rfl rfl rfl (cw 4 (elN m x + elN m y)) (fun wx hS => St.rangeL hS 3 rfl 0 _ (by rw [List.drop_zero, List.take_of_length_le (Nat.le_refl _)])) Try.underlying82 rfl (by simp only [cw_len]; kernel_rfl) ?_
  try simp only [Act.put, List.setIfInBounds_toArray, List.set_cons_zero, List.set_cons_succ]
  refine plan_w (v := ?_) rfl rfl (fun wx => ?_) ?_
  rotate_left 1
  · (go_simp; with_reducible rfl)
  try simp only [Act.put, List.setIfInBounds_toArray, List.set_cons_zero, List.set_cons_succ]
  refine plan_w (v := ?_) rfl rfl (fun wx => ?_) ?_
  rotate_left 1
  · (go_simp; with_reducible rfl)
  try simp only [Act.put, List.setIfInBounds_toArray, List.set_cons_zero, List.set_cons_succ]
  refine plan_w (v := ?_) rfl rfl (fun wx => ?_) ?_
  rotate_left 1
  · (go_simp; with_reducible rfl)
  try simp only [Act.put, List.setIfInBounds_toArray, List.set_cons_zero, List.set_cons_succ]
  refine plan_arr rfl rfl rfl rfl (cw 4 m.M) (fun wx hS => (HPM.out.keep (St.fr hS) id).range 0 _ (md_M m)) Try.underlying82 rfl (by simp only [cw_len]; kernel_rfl) ?_
  try simp only [Act.put, List.setIfInBounds_toArray, List.set_cons_zero, List.set_cons_succ]
  refine plan_b (C := fun g9 wz => St Nob w wz [(g4, cw 4 (elN m x), 70), (g5, cw 4 (elN m y), 70), (g6, cw 4 0, 70), (g7, cw 4 (elN m x + elN m y), 82), (g9, cw 4 ((elN m x + elN m y) + B64 ^ 4 - m.M), 82)]) (F := ?_) rfl rfl rfl rfl (fun key => ?_) (fun key => ?_) ?_
  rotate_left 1
  · skip
    go_simp
    refine (minus_any (elN m x + elN m y) m.M _ HOK.out.lt).mono ?_
    rintro e' w7 ⟨rfl, hf7⟩
    have st7 := hd6.keep hf7
    clear hf7
    refine ⟨st7, ?_⟩
    try simp only [Act.put, List.setIfInBounds_toArray, List.set_cons_zero, List.set_cons_succ]
    refine plan_w (v := ?_) rfl rfl (fun wx => ?_) ?_
    rotate_left 1
    · (go_simp; with_reducible rfl)
    try simp only [Act.put, List.setIfInBounds_toArray, List.set_cons_zero, List.set_cons_succ]
    refine plan_w (v := ?_) rfl rfl (fun wx => ?_) ?_
    rotate_left 1
    · (go_simp; with_reducible rfl)
    try simp only [Act.put, List.setIfInBounds_toArray, List.set_cons_zero, List.set_cons_succ]
    refine plan_w (v := ?_) rfl rfl (fun wx => ?_) ?_
    rotate_left 1
    · (go_simp; with_reducible rfl)
    try simp only [Act.put, List.setIfInBounds_toArray, List.set_cons_zero, List.set_cons_succ]
    refine plan_r rfl rfl ?_
    refine wp_allocS st7 rfl (z := .agg #[.int .u64 0, .int .u64 0, .int .u64 0, .int .u64 0]) (by kernel_rfl) (cw 4 0) (by rw [cw_zero]; rfl) ?_
    intro g9 w8 st8
    refine ⟨St.less st8 (by simp), ?_⟩
    try simp only [Act.put, List.setIfInBounds_toArray, List.set_cons_zero, List.set_cons_succ]
    refine plan_r rfl rfl ?_
    refine wp_storeS st8 4 rfl rfl rfl rfl (by first | (simp only [cw_len]; done) | (simp only [List.length_append, cw_len]; done)) (by simp only [cw_len]; kernel_rfl) (cw_one _ _) ?_
    intro w9 st9
    refine ⟨St.less st9 (by simp), ?_⟩
    try simp only [Act.put]
    refine plan_m rfl rfl ?_
    go_simp
    try simp only [Act.put, List.setIfInBounds_toArray, List.set_cons_zero, List.set_cons_succ]
    refine plan_end ?_
    exact key g9 _ st9
  · skip
    refine wp_allocS hd6 rfl (z := .agg #[.int .u64 0, .int .u64 0, .int .u64 0, .int .u64 0]) (by kernel_rfl) (cw 4 0) (by rw [cw_zero]; rfl) ?_
    intro g9 w10 st10
    refine ⟨St.less st10 (by simp), ?_⟩
    try simp only [Act.put, List.setIfInBounds_toArray, List.set_cons_zero, List.set_cons_succ]
    refine plan_r rfl rfl ?_
    go_simp
    refine (minus_any (elN m x + elN m y) m.M _ HOK.out.lt).mono ?_
    rintro e' w11 ⟨rfl, hf11⟩
    have st11 := st10.keep hf11
    clear hf11
    refine ⟨St.less st11 (by simp), ?_⟩
    try simp only [Act.put, List.setIfInBounds_toArray, List.set_cons_zero, List.set_cons_succ]
    refine plan_w (v := ?_) rfl rfl (fun wx => ?_) ?_
    rotate_left 1
    · (go_simp; with_reducible rfl)
    try simp only [Act.put, List.setIfInBounds_toArray, List.set_cons_zero, List.set_cons_succ]
    refine plan_w (v := ?_) rfl rfl (fun wx => ?_) ?_
    rotate_left 1
    · (go_simp; with_reducible rfl)
    try simp only [Act.put, List.setIfInBounds_toArray, List.set_cons_zero, List.set_cons_succ]
    refine plan_w (v := ?_) rfl rfl (fun wx => ?_) ?_
    rotate_left 1
    · (go_simp; with_reducible rfl)
    try simp only [Act.put, List.setIfInBounds_toArray, List.set_cons_zero, List.set_cons_succ]
    refine plan_r rfl rfl ?_
    refine wp_storeS st11 4 rfl rfl rfl rfl (by first | (simp only [cw_len]; done) | (simp only [List.length_append, cw_len]; done)) (by simp only [cw_len]; kernel_rfl) (cw_one _ _) ?_
    intro w12 st12
    refine ⟨St.less st12 (by simp), ?_⟩
    try simp only [Act.put]
    refine plan_m rfl rfl ?_
    go_simp
    try simp only [Act.put, List.setIfInBounds_toArray, List.set_cons_zero, List.set_cons_succ]
    refine plan_end ?_
    exact key g9 _ st12
  intro g9 w13 st13
  have st13 : St Nob w w13 [(g4, cw 4 (elN m x), 70), (g5, cw 4 (elN m y), 70), (g6, cw 4 0, 70), (g7, cw 4 (elN m x + elN m y), 82), (g9, cw 4 ((elN m x + elN m y) + B64 ^ 4 - m.M), 82)] := st13
  clear hd6
  refine NoPanic.normal ?_
  have hca := HCA.out
  have hfin := HFIN.out
  rw [hca]
  by_cases hlt2 : (elN m x + elN m y) < m.M
  · obtain ⟨f1, f2, f3⟩ := hfin.1 hlt2
    rw [f1, f2]
    have HF := Lib.hid f3
    clear hca hfin f1 f2 f3 hlt2
    go_wp2_with (with_reducible refine wl_stop (o := ⟨some 32, _, _, _, _, _⟩) ?_)
    refine wl_loadS st13 3 rfl rfl rfl Try.underlying82 rfl (by simp only [cw_len]; kernel_rfl) ?_
    go_wp2_with (with_reducible refine wl_stop (o := ⟨none, _, _, _, _, _⟩) ?_)
    refine wl_storeS st13 2 rfl rfl rfl rfl rfl (by first | (simp only [cw_len]; done) | (simp only [List.length_append, cw_len]; done)) (by simp only [cw_len]; kernel_rfl) (cw_one _ _) ?_
    intro w14 st14
    clear st13
    have hr := st14.at 2 rfl
    have hfr := st14.fr
    clear st14
    go_wp2_with fail
    exact bodyPost_ret (results_arr rfl rfl hr Try.underlying70 (by simp only [cw_len]; kernel_rfl)) rfl ⟨by rw [← el_add]; unfold i4; rw [HF.out], hfr⟩
  · obtain ⟨f3, f4⟩ := hfin.2 hlt2
    have HF := Lib.hid f3
    by_cases hlt3 : (elN m x + elN m y) < B64 ^ 4
    · obtain ⟨f1, f2⟩ := f4 hlt3
      rw [f1, f2]
      clear hca hfin f1 f2 f3 f4 hlt2 hlt3
      go_wp2_with (with_reducible refine wl_stop (o := ⟨some 33, _, _, _, _, _⟩) ?_)
      refine wl_loadS st13 4 rfl rfl rfl Try.underlying82 rfl (by simp only [cw_len]; kernel_rfl) ?_
      go_wp2_with (with_reducible refine wl_stop (o := ⟨none, _, _, _, _, _⟩) ?_)
      refine wl_storeS st13 2 rfl rfl rfl rfl rfl (by first | (simp only [cw_len]; done) | (simp only [List.length_append, cw_len]; done)) (by simp only [cw_len]; kernel_rfl) (cw_one _ _) ?_
      intro w14 st14
      clear st13
      have hr := st14.at 2 rfl
      have hfr := st14.fr
      clear st14
      go_wp2_with fail
      exact bodyPost_ret (results_arr rfl rfl hr Try.underlying70 (by simp only [cw_len]; kernel_rfl)) rfl ⟨by rw [← el_add]; unfold i4; rw [HF.out], hfr⟩
    · have f1 := lw4_one _ H2.out hlt3
      rw [f1]
      clear hca hfin f1 f3 f4 hlt2 hlt3
      go_wp2_with (with_reducible refine wl_stop (o := ⟨some 33, _, _, _, _, _⟩) ?_)
      refine wl_loadS st13 4 rfl rfl rfl Try.underlying82 rfl (by simp only [cw_len]; kernel_rfl) ?_
      go_wp2_with (with_reducible refine wl_stop (o := ⟨none, _, _, _, _, _⟩) ?_)
      refine wl_storeS st13 2 rfl rfl rfl rfl rfl (by first | (simp only [cw_len]; done) | (simp only [List.length_append, cw_len]; done)) (by simp only [cw_len]; kernel_rfl) (cw_one _ _) ?_
      intro w14 st14
      clear st13
      have hr := st14.at 2 rfl
      have hfr := st14.fr
      clear st14
      go_wp2_with fail
      exact bodyPost_ret (results_arr rfl rfl hr Try.underlying70 (by simp only [cw_len]; kernel_rfl)) rfl ⟨by rw [← el_add]; unfold i4; rw [HF.out], hfr⟩

set_option maxHeartbeats 8000000 in
set_option maxRecDepth 100000 in
theorem MSub_any (m : Md) (gp : Nat) (w : World) (hok : m.Ok) (hpm : Has w gp (mdL m) 134) (x y : Nat) :
    Calls Try.prog 95 #[.pointer (some ⟨gp, 0, none⟩), i4 (elN m x), i4 (elN m y)] w fun e w' => e = .returned (i4 (elN m (x + (m.M - y % m.M)))) ∧ Fr Nob w w' := by
  have HOK := Lib.hid hok
  have HPM := Lib.hid hpm
  clear hok hpm
  have hx := el_lt m HOK.out x
  have hy := el_lt m HOK.out y
  have HY4 := Lib.hid (Nat.lt_trans hy HOK.out.lt)
  have HCS := Lib.hid (cSub_all (elN m x) (elN m y) 4 (Nat.lt_trans hx HOK.out.lt) (Nat.lt_trans hy HOK.out.lt))
  have HSA := Lib.hid (sub_words_lt (elN m x) (elN m y) m.M hx hy HOK.out.lt)
  have HSB := Lib.hid (sub_words_ge (elN m x) (elN m y) m.M hx hy)
  clear hx hy
  have st0 := St.start Nob w
  go_enter Try.func95, Try.ntmps95
  go_wp2_with (with_reducible refine wl_stop (o := ⟨some 4, _, _, _, _, _⟩) ?_)
  refine wl_boxS st0 rfl rfl rfl (cw 4 (elN m x)) rfl ?_
  intro g4 w1 st1
  clear st0
  go_wp2_with (with_reducible refine wl_stop (o := ⟨some 5, _, _, _, _, _⟩) ?_)
  refine wl_boxS st1 rfl rfl rfl (cw 4 (elN m y)) rfl ?_
  intro g5 w2 st2
  clear st1
  go_wp2_with (with_reducible refine wl_stop (o := ⟨some 6, _, _, _, _, _⟩) ?_)
  refine wl_allocS st2 rfl rfl (z := .agg #[.int .u64 0, .int .u64 0, .int .u64 0, .int .u64 0]) (by kernel_rfl) (cw 4 0) (by rw [cw_zero]; rfl) ?_
  intro g6 w3 st3
  clear st2
  go_wp2_with (with_reducible refine wl_stop (o := ⟨some 10, _, _, _, _, _⟩) ?_)
  refine wl_loadS st3 0 rfl rfl rfl Try.underlying70 rfl (by simp only [cw_len]; kernel_rfl) ?_
  go_wp2_with (with_reducible refine wl_stop (o := ⟨some 11, _, _, _, _, _⟩) ?_)
  refine wl_loadS st3 1 rfl rfl rfl Try.underlying70 rfl (by simp only [cw_len]; kernel_rfl) ?_
  go_wp2_with fail
  refine (minus_any (elN m x) (elN m y) _ HY4.out).mono ?_
  rintro e' w4 ⟨rfl, hf4⟩
  have st4 := st3.keep hf4
  clear st3 hf4
  go_wp2_with (with_reducible refine wl_stop (o := ⟨some 7, _, _, _, _, _⟩) ?_)
  refine wl_allocS st4 rfl rfl (z := .agg #[.int .u64 0, .int .u64 0, .int .u64 0, .int .u64 0]) (by kernel_rfl) (cw 4 0) (by rw [cw_zero]; rfl) ?_
  intro g7 w5 st5
  clear st4
  go_wp2_with (with_reducible refine wl_stop (o := ⟨none, _, _, _, _, _⟩) ?_)
  refine wl_storeS st5 3 rfl rfl rfl rfl rfl (by first | (simp only [cw_len]; done) | (simp only [List.length_append, cw_len]; done)) (by simp only [cw_len]; kernel_rfl) (cw_one _ _) ?_
  intro w6 st6
  clear st5
  have hcs := HCS.out
  by_cases hlt : elN m x < elN m y
  · rw [if_pos hlt] at hcs
    rw [hcs]
    have HV := Lib.hid (HSA.out hlt)
    clear hcs hlt
    go_wp2_with fail
    refine wp_region_noPanic ?_
    refine wp_region_plan (fun wx => St Nob w wx [(g4, cw 4 (elN m x), 70), (g5, cw 4 (elN m y), 70), (g6, cw 4 0, 70), (g7, cw 4 (elN m x + B64 ^ 4 - elN m y), 82)]) 9 (.t 0 (.w 1 (.w 2 (.w 3 (.t 4 (.r 5 (.w 6 (.w 7 (.w 8 (.m 9 .nil)))))))))) (by kernel_rfl) (by kernel_rfl) st6.drew (fun _ _ _ _ _ h => h) ?_
    have hd6 := st6.drew
    clear st6
    refine plan_arr rfl rfl rfl rfl (cw 4 (elN m x + B64 ^ 4 - elN m y)) (fun wx hS => St.rangeL hS 3 rfl 0 _ (by rw [List.drop_zero, List.take_of_length_le (Nat.le_refl _)])) Try.underlying82 rfl (by simp only [cw_len]; kernel_rfl) ?_
    try simp only [Act.put, List.setIfInBounds_toArray, List.set_cons_zero, List.set_cons_succ]
    refine plan_w (v := ?_) rfl rfl (fun wx => ?_) ?_
    rotate_left 1
    · (go_simp; with_reducible rfl)
    try simp only [Act.put, List.setIfInBounds_toArray, List.set_cons_zero, List.set_cons_succ]
    refine plan_w (v := ?_) rfl rfl (fun wx => ?_) ?_
    rotate_left 1
    · (go_simp; with_reducible rfl)
    try simp only [Act.put, List.setIfInBounds_toArray, List.set_cons_zero, List.set_cons_succ]
    refine plan_w (v := ?_) rfl rfl (fun wx => ?_) ?_
    rotate_left 1
    · (go_simp; with_reducible rfl)
    try simp only [Act.put, List.setIfInBounds_toArray, List.set_cons_zero, List.set_cons_succ]
    refine plan_arr rfl rfl rfl rfl (cw 4 m.M) (fun wx hS => (HPM.out.keep (St.fr hS) id).range 0 _ (md_M m)) Try.underlying82 rfl (by simp only [cw_len]; kernel_rfl) ?_
    try simp only [Act.put, List.setIfInBounds_toArray, List.set_cons_zero, List.set_cons_succ]
    refine plan_r rfl rfl ?_
    go_simp
    refine (plus_any (elN m x + B64 ^ 4 - elN m y) m.M _).mono ?_
    rintro e' w7 ⟨rfl, hf7⟩
    have st7 := hd6.keep hf7
    clear hf7
    clear hd6
    refine ⟨st7, ?_⟩
    try simp only [Act.put, List.setIfInBounds_toArray, List.set_cons_zero, List.set_cons_succ]
    refine plan_w (v := ?_) rfl rfl (fun wx => ?_) ?_
    rotate_left 1
    · (go_simp; with_reducible rfl)
    try simp only [Act.put, List.setIfInBounds_toArray, List.set_cons_zero, List.set_cons_succ]
    refine plan_w (v := ?_) rfl rfl (fun wx => ?_) ?_
    rotate_left 1
    · (go_simp; with_reducible rfl)
    try simp only [Act.put, List.setIfInBounds_toArray, List.set_cons_zero, List.set_cons_succ]
    refine plan_w (v := ?_) rfl rfl (fun wx => ?_) ?_
    rotate_left 1
    · (go_simp; with_reducible rfl)
    try simp only [Act.put, List.setIfInBounds_toArray, List.set_cons_zero, List.set_cons_succ]
    refine plan_m rfl rfl ?_
    refine wp_storeS st7 3 rfl rfl rfl rfl (by first | (simp only [cw_len]; done) | (simp only [List.length_append, cw_len]; done)) (by simp only [cw_len]; kernel_rfl) (cw_one _ _) ?_
    intro w8 st8
    clear st7
    try simp only [Act.put]
    refine plan_end ?_
    refine NoPanic.normal ?_
    go_wp2_with (with_reducible refine wl_stop (o := ⟨some 26, _, _, _, _, _⟩) ?_)
    refine wl_loadS st8 3 rfl rfl rfl Try.underlying82 rfl (by simp only [cw_len]; kernel_rfl) ?_
    go_wp2_with (with_reducible refine wl_stop (o := ⟨none, _, _, _, _, _⟩) ?_)
    refine wl_storeS st8 2 rfl rfl rfl rfl rfl (by first | (simp only [cw_len]; done) | (simp only [List.length_append, cw_len]; done)) (by simp only [cw_len]; kernel_rfl) (cw_one _ _) ?_
    intro w9 st9
    clear st8
    have hr := st9.at 2 rfl
    have hfr := st9.fr
    clear st9
    go_wp2_with fail
    exact bodyPost_ret (results_arr rfl rfl hr Try.underlying70 (by simp only [cw_len]; kernel_rfl)) rfl ⟨by rw [← el_sub m HOK.out]; unfold i4; rw [← HV.out], hfr⟩
  · rw [if_neg hlt] at hcs
    rw [hcs]
    have HV := Lib.hid (HSB.out hlt)
    clear hcs hlt
    go_wp2_with (with_reducible refine wl_stop (o := ⟨some 26, _, _, _, _, _⟩) ?_)
    refine wl_loadS st6 3 rfl rfl rfl Try.underlying82 rfl (by simp only [cw_len]; kernel_rfl) ?_
    go_wp2_with (with_reducible refine wl_stop (o := ⟨none, _, _, _, _, _⟩) ?_)
    refine wl_storeS st6 2 rfl rfl rfl rfl rfl (by first | (simp only [cw_len]; done) | (simp only [List.length_append, cw_len]; done)) (by simp only [cw_len]; kernel_rfl) (cw_one _ _) ?_
    intro w7 st7
    clear st6
    have hr := st7.at 2 rfl
    have hfr := st7.fr
    clear st7
    go_wp2_with fail
    exact bodyPost_ret (results_arr rfl rfl hr Try.underlying70 (by simp only [cw_len]; kernel_rfl)) rfl ⟨by rw [← el_sub m HOK.out]; unfold i4; rw [← HV.out], hfr⟩

set_option maxHeartbeats 8000000 in
set_option maxRecDepth 100000 in
theorem MNeg_any (m : Md) (gp : Nat) (w : World) (hok : m.Ok) (hpm : Has w gp (mdL m) 134) (x : Nat) :
    Calls Try.prog 99 #[.pointer (some ⟨gp, 0, none⟩), i4 (elN m x)] w fun e w' => e = .returned (i4 (elN m (m.M - x % m.M))) ∧ Fr Nob w w' := by
  have HOK := Lib.hid hok
  have HPM := Lib.hid hpm
  clear hok hpm
  have hsub := fun wx (h : Has wx gp (mdL m) 134) => MSub_any m gp wx HOK.out h 0 x
  rw [el_zero m, ← small_words 0 (by decide)] at hsub
  have HSUB := Lib.hid hsub
  clear hsub
  have st0 := St.start Nob w
  go_enter Try.func99, Try.ntmps99
  go_wp2_with (with_reducible refine wl_stop (o := ⟨some 3, _, _, _, _, _⟩) ?_)
  refine wl_boxS st0 rfl rfl rfl (cw 4 (elN m x)) rfl ?_
  intro g3 w1 st1
  clear st0
  go_wp2_with (with_reducible refine wl_stop (o := ⟨some 4, _, _, _, _, _⟩) ?_)
  refine wl_allocS st1 rfl rfl (z := .agg #[.int .u64 0, .int .u64 0, .int .u64 0, .int .u64 0]) (by kernel_rfl) (cw 4 0) (by rw [cw_zero]; rfl) ?_
  intro g4 w2 st2
  clear st1
  go_wp2_with (with_reducible refine wl_stop (o := ⟨some 7, _, _, _, _, _⟩) ?_)
  refine wl_loadS st2 0 rfl rfl rfl Try.underlying70 rfl (by simp only [cw_len]; kernel_rfl) ?_
  go_wp2_with fail
  refine (HSUB.out _ (HPM.out.keep st2.fr id)).mono ?_
  rintro e' w3 ⟨rfl, hf3⟩
  have st3 := st2.keep hf3
  clear st2 hf3
  go_wp2_with (with_reducible refine wl_stop (o := ⟨none, _, _, _, _, _⟩) ?_)
  refine wl_storeS st3 1 rfl rfl rfl rfl rfl (by first | (simp only [cw_len]; done) | (simp only [List.length_append, cw_len]; done)) (by simp only [cw_len]; kernel_rfl) (cw_one _ _) ?_
  intro w4 st4
  clear st3
  have hr := st4.at 1 rfl
  have hfr := st4.fr
  clear st4
  go_wp2_with fail
  exact bodyPost_ret (results_arr rfl rfl hr Try.underlying70 (by simp only [cw_len]; kernel_rfl)) rfl ⟨rfl, hfr⟩

theorem MMulE (m : Md) (gp : Nat) (w : World) (hok : m.Ok) (hpm : Has w gp (mdL m) 134) (x y : Nat) :
    Calls Try.prog 94 #[.pointer (some ⟨gp, 0, none⟩), i4 (elN m x), i4 (elN m y)] w fun e w' => e = .returned (i4 (elN m (x * y))) ∧ Fr Nob w w' := by
  have h := MMul_any m gp (elN m x) (elN m y) w hok hpm (el_lt4 m hok x) (el_lt m hok y)
  rwa [el_mul m hok] at h

set_option maxHeartbeats 8000000 in
set_option maxRecDepth 100000 in
theorem MSquare_any (m : Md) (gp : Nat) (w : World) (hok : m.Ok) (hpm : Has w gp (mdL m) 134) (x : Nat) :
    Calls Try.prog 93 #[.pointer (some ⟨gp, 0, none⟩), i4 (elN m x)] w fun e w' => e = .returned (i4 (elN m (x * x))) ∧ Fr Nob w w' := by
  have HOK := Lib.hid hok
  have HPM := Lib.hid hpm
  clear hok hpm
  have st0 := St.start Nob w
  go_enter Try.func93, Try.ntmps93
  go_wp2_with (with_reducible refine wl_stop (o := ⟨some 3, _, _, _, _, _⟩) ?_)
  refine wl_boxS st0 rfl rfl rfl (cw 4 (elN m x)) rfl ?_
  intro g3 w1 st1
  clear st0
  go_wp2_with (with_reducible refine wl_stop (o := ⟨some 4, _, _, _, _, _⟩) ?_)
  refine wl_allocS st1 rfl rfl (z := .agg #[.int .u64 0, .int .u64 0, .int .u64 0, .int .u64 0]) (by kernel_rfl) (cw 4 0) (by rw [cw_zero]; rfl) ?_
  intro g4 w2 st2
  clear st1
  go_wp2_with (with_reducible refine wl_stop (o := ⟨some 6, _, _, _, _, _⟩) ?_)
  refine wl_loadS st2 0 rfl rfl rfl Try.underlying70 rfl (by simp only [cw_len]; kernel_rfl) ?_
  go_wp2_with (with_reducible refine wl_stop (o := ⟨some 7, _, _, _, _, _⟩) ?_)
  refine wl_loadS st2 0 rfl rfl rfl Try.underlying70 rfl (by simp only [cw_len]; kernel_rfl) ?_
  go_wp2_with fail
  refine (MMulE m gp _ HOK.out (HPM.out.keep st2.fr id) x x).mono ?_
  rintro e' w3 ⟨rfl, hf3⟩
  have st3 := st2.keep hf3
  clear st2 hf3
  go_wp2_with (with_reducible refine wl_stop (o := ⟨none, _, _, _, _, _⟩) ?_)
  refine wl_storeS st3 1 rfl rfl rfl rfl rfl (by first | (simp only [cw_len]; done) | (simp only [List.length_append, cw_len]; done)) (by simp only [cw_len]; kernel_rfl) (cw_one _ _) ?_
  intro w4 st4
  clear st3
  have hr := st4.at 1 rfl
  have hfr := st4.fr
  clear st4
  go_wp2_with fail
  exact bodyPost_ret (results_arr rfl rfl hr Try.underlying70 (by simp only [cw_len]; kernel_rfl)) rfl ⟨rfl, hfr⟩
end Go.Proofs.Ytdbgddngapminaa

/- mont: Pow, Inv, fold, Reduce. -/
namespace Go.Proofs.Ytdbgddngapminaa
open Go.RowKit Go.Mv Mvp
attribute [local irreducible] limbs lw mix cw cSub cAdd cMul beN laid be32 montT mstep elN
theorem elpow0 (m : Md) (x n i : Nat) (h : n / 2 ^ i % 2 = 0) : elN m (x ^ (n / 2 ^ (i + 1)) * x ^ (n / 2 ^ (i + 1))) = elN m (x ^ (n / 2 ^ i)) := by
  have := powm_half n i
  rw [h, Nat.two_mul, Nat.add_zero] at this
  rw [← Nat.pow_add, this]
theorem elpow1 (m : Md) (x n i : Nat) (h : n / 2 ^ i % 2 = 1) : elN m (x ^ (n / 2 ^ (i + 1)) * x ^ (n / 2 ^ (i + 1)) * x) = elN m (x ^ (n / 2 ^ i)) := by
  have := powm_half n i
  rw [h, Nat.two_mul] at this
  rw [← Nat.pow_add, ← Nat.pow_succ, this]
theorem elpow_top (m : Md) (x n : Nat) (h : n < B64 ^ 4) : elN m (x ^ (n / 2 ^ 256)) = elN m 1 := by
  rw [Nat.div_eq_of_lt (Nat.lt_of_lt_of_le h (by decide)), Nat.pow_zero]
theorem elpow_all (m : Md) (x n : Nat) : elN m (x ^ (n / 2 ^ 0)) = elN m (x ^ n) := by rw [Nat.pow_zero, Nat.div_one]
set_option maxHeartbeats 8000000 in
set_option maxRecDepth 100000 in
theorem MPow_any (m : Md) (gp : Nat) (w : World) (hok : m.Ok) (hpm : Has w gp (mdL m) 134) (x n : Nat) (hn : n < B64 ^ 4) :
    Calls Try.prog 121 #[.pointer (some ⟨gp, 0, none⟩), i4 (elN m x), i4 n] w fun e w' => e = .returned (i4 (elN m (x ^ n))) ∧ Fr Nob w w' := by
  have HOK := Lib.hid hok
  have HPM := Lib.hid hpm
  clear hok hpm
  have HN := Lib.hid hn
  have HTOP := Lib.hid (elpow_top m x n hn)
  clear hn
  have st0 := St.start Nob w
  go_enter Try.func121, Try.ntmps121
  go_wp2_with (with_reducible refine wl_stop (o := ⟨some 4, _, _, _, _, _⟩) ?_)
  refine wl_boxS st0 rfl rfl rfl (cw 4 (elN m x)) rfl ?_
  intro g4 w1 st1
  clear st0
  go_wp2_with (with_reducible refine wl_stop (o := ⟨some 5, _, _, _, _, _⟩) ?_)
  refine wl_boxS st1 rfl rfl rfl (cw 4 n) rfl ?_
  intro g5 w2 st2
  clear st1
  go_wp2_with (with_reducible refine wl_stop (o := ⟨some 6, _, _, _, _, _⟩) ?_)
  refine wl_allocS st2 rfl rfl (z := .agg #[.int .u64 0, .int .u64 0, .int .u64 0, .int .u64 0]) (by kernel_rfl) (cw 4 0) (by rw [cw_zero]; rfl) ?_
  intro g6 w3 st3
  clear st2
  go_wp2_with fail
  refine (MOne_any m gp _ HOK.out (HPM.out.keep st3.fr id)).mono ?_
  rintro e' w4 ⟨rfl, hf4⟩
  have st4 := st3.keep hf4
  clear st3 hf4
  go_wp2_with (with_reducible refine wl_stop (o := ⟨some 7, _, _, _, _, _⟩) ?_)
  refine wl_allocS st4 rfl rfl (z := .agg #[.int .u64 0, .int .u64 0, .int .u64 0, .int .u64 0]) (by kernel_rfl) (cw 4 0) (by rw [cw_zero]; rfl) ?_
  intro g7 w5 st5
  clear st4
  go_wp2_with (with_reducible refine wl_stop (o := ⟨none, _, _, _, _, _⟩) ?_)
  refine wl_storeS st5 3 rfl rfl rfl rfl rfl (by first | (simp only [cw_len]; done) | (simp only [List.length_append, cw_len]; done)) (by simp only [cw_len]; kernel_rfl) (cw_one _ _) ?_
  intro w6 st6
  clear st5
  go_wp2
  go_loopw [8] (fun i wr => ∃ j : Nat, j ≤ 256 ∧ i = .int .i64 ((j : Int) - 1) ∧ St Nob w wr [(g4, cw 4 (elN m x), 70), (g5, cw 4 n, 82), (g6, cw 4 0, 70), (g7, cw 4 (elN m (x ^ (n / 2 ^ j))), 70)]) (fun i _ => (intOf i + 1).toNat)
  case atStart => exact ⟨256, by omega, rfl, by rw [HTOP.out]; exact st6⟩
  case round =>
    obtain ⟨j, hj, rfl, st⟩ := hrel
    clear st6
    cases j with
    | succ i =>
      rw [show (((i + 1 : Nat) : Int)) - 1 = (i : Int) by omega]
      have hge : (0 : Int) ≤ (i : Int) := by omega
      go_wp2_with (with_reducible refine wl_stop (o := ⟨some 16, _, _, _, _, _⟩) ?_)
      refine wl_loadS st 3 rfl rfl rfl Try.underlying70 rfl (by simp only [cw_len]; kernel_rfl) ?_
      go_wp2_with fail
      refine (MSquare_any m gp _ HOK.out (HPM.out.keep st.fr id) (x ^ (n / 2 ^ (i + 1)))).mono ?_
      rintro e' w7 ⟨rfl, hf7⟩
      have st7 := st.keep hf7
      clear st hf7
      go_wp2_with (with_reducible refine wl_stop (o := ⟨none, _, _, _, _, _⟩) ?_)
      refine wl_storeS st7 3 rfl rfl rfl rfl rfl (by first | (simp only [cw_len]; done) | (simp only [List.length_append, cw_len]; done)) (by simp only [cw_len]; kernel_rfl) (cw_one _ _) ?_
      intro w8 st8
      clear st7
      go_wp2_with (with_reducible refine wl_stop (o := ⟨some 18, _, _, _, _, _⟩) ?_)
      refine wl_loadS st8 1 rfl rfl rfl Try.underlying82 rfl (by simp only [cw_len]; kernel_rfl) ?_
      go_wp2_with fail
      refine (MBit_any n i _ (by omega)).mono ?_
      rintro e' w9 ⟨rfl, hf9⟩
      have st9 := st8.keep hf9
      clear st8 hf9
      have hbt : n / 2 ^ i % 2 = 0 ∨ n / 2 ^ i % 2 = 1 := by omega
      have HS0 := Lib.hid (elpow0 m x n i)
      have HS1 := Lib.hid (elpow1 m x n i)
      generalize hbb : n / 2 ^ i % 2 = bt at *
      have HBB := Lib.hid hbb
      clear hbb
      rcases hbt with rfl | rfl
      · have hst := st9
        rw [HS0.out (by first | rfl | trivial)] at hst
        clear st9
        go_wp2
        go_roundw
        case rel => exact ⟨i, by omega, rfl, hst⟩
        case measure => simp [intOf]
      · skip
        go_wp2_with (with_reducible refine wl_stop (o := ⟨some 23, _, _, _, _, _⟩) ?_)
        refine wl_loadS st9 3 rfl rfl rfl Try.underlying70 rfl (by simp only [cw_len]; kernel_rfl) ?_
        go_wp2_with (with_reducible refine wl_stop (o := ⟨some 24, _, _, _, _, _⟩) ?_)
        refine wl_loadS st9 0 rfl rfl rfl Try.underlying70 rfl (by simp only [cw_len]; kernel_rfl) ?_
        go_wp2_with fail
        refine (MMulE m gp _ HOK.out (HPM.out.keep st9.fr id) ((x ^ (n / 2 ^ (i + 1))) * (x ^ (n / 2 ^ (i + 1)))) x).mono ?_
        rintro e' w10 ⟨rfl, hf10⟩
        have st10 := st9.keep hf10
        clear st9 hf10
        go_wp2_with (with_reducible refine wl_stop (o := ⟨none, _, _, _, _, _⟩) ?_)
        refine wl_storeS st10 3 rfl rfl rfl rfl rfl (by first | (simp only [cw_len]; done) | (simp only [List.length_append, cw_len]; done)) (by simp only [cw_len]; kernel_rfl) (cw_one _ _) ?_
        intro w11 st11
        clear st10
        have hst := st11
        rw [HS1.out (by first | rfl | trivial)] at hst
        clear st11
        go_wp2
        go_roundw
        case rel => exact ⟨i, by omega, rfl, hst⟩
        case measure => simp [intOf]
    | zero =>
      rw [show (((0 : Nat) : Int)) - 1 = -1 by omega]
      go_wp2_with (with_reducible refine wl_stop (o := ⟨some 26, _, _, _, _, _⟩) ?_)
      refine wl_loadS st 3 rfl rfl rfl Try.underlying70 rfl (by simp only [cw_len]; kernel_rfl) ?_
      go_wp2_with (with_reducible refine wl_stop (o := ⟨none, _, _, _, _, _⟩) ?_)
      refine wl_storeS st 2 rfl rfl rfl rfl rfl (by first | (simp only [cw_len]; done) | (simp only [List.length_append, cw_len]; done)) (by simp only [cw_len]; kernel_rfl) (cw_one _ _) ?_
      intro w7 st7
      clear st
      have hr := st7.at 2 rfl
      have hfr := st7.fr
      clear st7
      go_wp2_with fail
      exact bodyPost_ret (results_arr rfl rfl hr Try.underlying70 (by simp only [cw_len]; kernel_rfl)) rfl ⟨by rw [← elpow_all]; rfl, hfr⟩

set_option maxHeartbeats 8000000 in
set_option maxRecDepth 100000 in
theorem MInv_any (m : Md) (gp : Nat) (w : World) (hok : m.Ok) (hpm : Has w gp (mdL m) 134) (x : Nat) :
    Calls Try.prog 105 #[.pointer (some ⟨gp, 0, none⟩), i4 (elN m x)] w fun e w' => e = .returned (i4 (elN m (x ^ (m.M - 2)))) ∧ Fr Nob w w' := by
  have HOK := Lib.hid hok
  have HPM := Lib.hid hpm
  clear hok hpm
  have HM2 := Lib.hid (show m.M - 2 < B64 ^ 4 by have := HOK.out.lt; omega)
  have h2m := fun wx => minus_any m.M 2 wx (by decide)
  rw [neg_words m.M 2 (by have := HOK.out.one; omega), ← small_words 2 (by decide)] at h2m
  have H2M := Lib.hid h2m
  clear h2m
  have st0 := St.start Nob w
  go_enter Try.func105, Try.ntmps105
  go_wp2_with (with_reducible refine wl_stop (o := ⟨some 3, _, _, _, _, _⟩) ?_)
  refine wl_boxS st0 rfl rfl rfl (cw 4 (elN m x)) rfl ?_
  intro g3 w1 st1
  clear st0
  go_wp2_with (with_reducible refine wl_stop (o := ⟨some 4, _, _, _, _, _⟩) ?_)
  refine wl_allocS st1 rfl rfl (z := .agg #[.int .u64 0, .int .u64 0, .int .u64 0, .int .u64 0]) (by kernel_rfl) (cw 4 0) (by rw [cw_zero]; rfl) ?_
  intro g4 w2 st2
  clear st1
  go_wp2_with (with_reducible refine wl_stop (o := ⟨some 11, _, _, _, _, _⟩) ?_)
  refine wl_loadA rfl rfl Try.underlying82 rfl (HPM.out.keep st2.fr id) (cw 4 m.M) (md_M m) (by simp only [cw_len]; kernel_rfl) ?_
  go_wp2_with fail
  refine (H2M.out _).mono ?_
  rintro e' w3 ⟨rfl, hf3⟩
  have st3 := st2.keep hf3
  clear st2 hf3
  go_wp2_with (with_reducible refine wl_stop (o := ⟨some 5, _, _, _, _, _⟩) ?_)
  refine wl_allocS st3 rfl rfl (z := .agg #[.int .u64 0, .int .u64 0, .int .u64 0, .int .u64 0]) (by kernel_rfl) (cw 4 0) (by rw [cw_zero]; rfl) ?_
  intro g5 w4 st4
  clear st3
  go_wp2_with (with_reducible refine wl_stop (o := ⟨none, _, _, _, _, _⟩) ?_)
  refine wl_storeS st4 2 rfl rfl rfl rfl rfl (by first | (simp only [cw_len]; done) | (simp only [List.length_append, cw_len]; done)) (by simp only [cw_len]; kernel_rfl) (cw_one _ _) ?_
  intro w5 st5
  clear st4
  go_wp2_with (with_reducible refine wl_stop (o := ⟨some 17, _, _, _, _, _⟩) ?_)
  refine wl_loadS st5 0 rfl rfl rfl Try.underlying70 rfl (by simp only [cw_len]; kernel_rfl) ?_
  go_wp2_with (with_reducible refine wl_stop (o := ⟨some 18, _, _, _, _, _⟩) ?_)
  refine wl_loadS st5 2 rfl rfl rfl Try.underlying82 rfl (by simp only [cw_len]; kernel_rfl) ?_
  go_wp2_with fail
  refine (MPow_any m gp _ HOK.out (HPM.out.keep st5.fr id) x (m.M - 2) HM2.out).mono ?_
  rintro e' w6 ⟨rfl, hf6⟩
  have st6 := st5.keep hf6
  clear st5 hf6
  go_wp2_with (with_reducible refine wl_stop (o := ⟨none, _, _, _, _, _⟩) ?_)
  refine wl_storeS st6 1 rfl rfl rfl rfl rfl (by first | (simp only [cw_len]; done) | (simp only [List.length_append, cw_len]; done)) (by simp only [cw_len]; kernel_rfl) (cw_one _ _) ?_
  intro w7 st7
  clear st6
  have hr := st7.at 1 rfl
  have hfr := st7.fr
  clear st7
  go_wp2_with fail
  exact bodyPost_ret (results_arr rfl rfl hr Try.underlying70 (by simp only [cw_len]; kernel_rfl)) rfl ⟨rfl, hfr⟩

end Go.Proofs.Ytdbgddngapminaa

/- mont: Reduce. -/
namespace Go.Proofs.Ytdbgddngapminaa
open Go.RowKit Go.Mv Mvp
attribute [local irreducible] limbs lw mix cw cSub cAdd cMul beN laid be32 montT mstep elN
theorem RdB.front {w : World} {a : Option Addr} {n : Nat} {l : List UInt8} (h : RdB w a n l) (k : Nat) (hk : k ≤ n) : RdB w a k (l.take k) := by
  have h' : Rd w a n (bs l) := h
  refine ⟨by rw [length_bs, List.length_take, h.len]; omega, ?_⟩
  rcases h'.2 with h0 | ⟨b, o, rfl, hc⟩
  · exact .inl (by omega)
  · refine .inr ⟨b, o, rfl, fun i v hv => hc i v ?_⟩
    rw [← bs_take, List.getElem?_take] at hv
    split at hv
    · exact hv
    · cases hv
theorem RdB.behind {w : World} {a : Option Addr} {n c : Nat} {l : List UInt8} (h : RdB w a n l) (k : Nat) (hk : k ≤ n) (hc : n ≤ c) : RdB w (cutAt a k c) (n - k) (l.drop k) := by
  have h1 := cutAt_rd (m := c) h k n hk hc (Nat.le_refl _)
  unfold RdB
  rw [bs_drop] at h1
  rwa [List.take_of_length_le (by rw [length_bs, List.length_drop, h.len]; exact Nat.le_refl _)] at h1

end Go.Proofs.Ytdbgddngapminaa

/- mont.Of. -/
namespace Go.Proofs.Ytdbgddngapminaa
open Go.RowKit Go.Mv Mvp
theorem cells_mP : [Value.int .u64 18446744069414583343, .int .u64 18446744073709551615, .int .u64 18446744073709551615, .int .u64 18446744073709551615, .int .u64 15580212934572586289, .int .u64 4294968273, .int .u64 0, .int .u64 0, .int .u64 0, .int .u64 8392367050913, .int .u64 1, .int .u64 0, .int .u64 0] = mdL mP := by kernel_rfl
theorem cells_mQ : [Value.int .u64 13822214165235122497, .int .u64 13451932020343611451, .int .u64 18446744073709551614, .int .u64 18446744073709551615, .int .u64 5408259542528602431, .int .u64 4624529908474429119, .int .u64 4994812053365940164, .int .u64 1, .int .u64 0, .int .u64 9902555850136342848, .int .u64 8364476168144746616, .int .u64 16616019711348246470, .int .u64 11342065889886772165] = mdL mQ := by kernel_rfl

set_option maxHeartbeats 2000000 in
set_option maxRecDepth 100000 in
theorem Of0 (w : World) : Calls Try.prog 100 #[.int .i64 0] w fun e w' => ∃ g, e = .returned (.tuple #[.pointer (some ⟨g, 0, none⟩), .bool true]) ∧ w.heap.size ≤ g ∧ Has w' g (mdL mP) 134 ∧ Fr Nob w w' := by
  go_enter Try.func100, Try.ntmps100
  go_wp2
  go_ret2
  exact ⟨_, rfl, Nat.le_refl _, by rw [← cells_mP]; exact Has.new w _ _, (Fr.refl Nob w).alloc _⟩
set_option maxHeartbeats 2000000 in
set_option maxRecDepth 100000 in
theorem Of1 (w : World) : Calls Try.prog 100 #[.int .i64 1] w fun e w' => ∃ g, e = .returned (.tuple #[.pointer (some ⟨g, 0, none⟩), .bool true]) ∧ w.heap.size ≤ g ∧ Has w' g (mdL mQ) 134 ∧ Fr Nob w w' := by
  go_enter Try.func100, Try.ntmps100
  go_wp2
  go_ret2
  exact ⟨_, rfl, Nat.le_refl _, by rw [← cells_mQ]; exact Has.new w _ _, (Fr.refl Nob w).alloc _⟩
end Go.Proofs.Ytdbgddngapminaa

/- num.Modulus, num.Reduce; the law's told. -/
namespace Go.Proofs.Ytdbgddngapminaa
open Go.RowKit Go.Mv Mvp

/-- the known kinds -/
inductive KindOf : Int → Md → Prop where
  | zero : KindOf 0 mP
  | one : KindOf 1 mQ
theorem KindOf.ok {k : Int} {m : Md} (h : KindOf k m) : m.Ok := by cases h; exact mP_ok; exact mQ_ok
theorem OfK {k : Int} {m : Md} (hk : KindOf k m) (w : World) : Calls Try.prog 100 #[.int .i64 k] w fun e w' => ∃ g, e = .returned (.tuple #[.pointer (some ⟨g, 0, none⟩), .bool true]) ∧ w.heap.size ≤ g ∧ Has w' g (mdL m) 134 ∧ Fr Nob w w' := by
  cases hk
  · exact Of0 w
  · exact Of1 w
attribute [local irreducible] limbs lw mix cw cSub cAdd cMul beN laid be32 montT mstep elN mdL
end Go.Proofs.Ytdbgddngapminaa

/- num.read: lists of numbers. -/
namespace Go.Mv
open Go.RowKit Mvp
/-- a slice of bytes, and what it reads as -/
def BPart (w : World) (v : Value) (l : List UInt8) : Prop := ∃ a n c, v = .slice a n c ∧ n ≤ c ∧ RdB w a n l
def BParts (w : World) (vs : List Value) (ls : List (List UInt8)) : Prop := vs.length = ls.length ∧ ∀ i v, vs[i]? = some v → BPart w v (ls.getD i [])
theorem BPart.still {w w' : World} {v : Value} {l : List UInt8} (h : BPart w v l) (hf : Fr Nob w w') : BPart w' v l := by
  obtain ⟨a, n, c, e, hc, hr⟩ := h
  exact ⟨a, n, c, e, hc, hr.still hf⟩
theorem BPart.one {w : World} {v : Value} {l : List UInt8} (h : BPart w v l) : v.cells = #[v] := by
  obtain ⟨a, n, c, rfl, -, -⟩ := h
  rfl
theorem BParts.still {w w' : World} {vs : List Value} {ls : List (List UInt8)} (h : BParts w vs ls) (hf : Fr Nob w w') : BParts w' vs ls := ⟨h.1, fun i v hv => (h.2 i v hv).still hf⟩
theorem BParts.one {w : World} {v : Value} {l : List UInt8} (h : BPart w v l) : BParts w [v] [l] := ⟨rfl, fun i u hu => by
  cases i with
  | zero => simp at hu; subst hu; exact h
  | succ i => simp at hu⟩
theorem BParts.two {w : World} {v u : Value} {l k : List UInt8} (h : BPart w v l) (h2 : BPart w u k) : BParts w [v, u] [l, k] := ⟨rfl, fun i x hx => by
  match i with
  | 0 => simp at hx; subst hx; exact h
  | 1 => simp at hx; subst hx; exact h2
  | i + 2 => simp at hx⟩
end Go.Mv
namespace Mvp
/-- is it a number of the modulus? -/
def numB (m : Md) (l : List UInt8) : Bool := decide (l.length = 32) && decide (beN l < m.M)
def numsB (m : Md) (ls : List (List UInt8)) : Bool := ls.all (numB m)
theorem numsB_take (m : Md) (ls : List (List UInt8)) (k : Nat) (h : k < ls.length) : numsB m (ls.take (k + 1)) = (numsB m (ls.take k) && numB m (ls.getD k [])) := by
  rw [List.take_succ_eq_append_getElem h, numsB, List.all_append, ← numsB]
  simp [List.getD_eq_getElem?_getD, h]
theorem numsB_bad (m : Md) (ls : List (List UInt8)) (k : Nat) (h : k < ls.length) (hb : numB m (ls.getD k []) = false) : numsB m ls = false := by
  rw [numsB, List.all_eq_false]
  refine ⟨ls.getD k [], ?_, by simpa using hb⟩
  rw [List.getD_eq_getElem?_getD, List.getElem?_eq_getElem h]
  exact List.getElem_mem h
end Mvp
namespace Go.Proofs.Ytdbgddngapminaa
open Go.RowKit Go.Mv Mvp
attribute [local irreducible] limbs lw mix cw cSub cAdd cMul beN laid be32 montT mstep elN mdL numsB numB
end Go.Proofs.Ytdbgddngapminaa

/- zn: scalars: order, Of, the methods, Wide, Small. -/
namespace Go.Proofs.Ytdbgddngapminaa
open Go.RowKit Go.Mv Mvp
attribute [local irreducible] limbs lw mix cw cSub cAdd cMul beN laid be32 montT mstep elN mdL numB
theorem exec_build {P : Program} {o : Oper} {a : Act} {t : TypeId} {parts : Array (Nat × Operand)} (ho : o.op = .build t parts) (cells : Array Value)
    (hb : P.built t (parts.toList.map fun p => (p.1, a.eval p.2)) = some cells) (w : World) : (execOp a.eval o).run P w = .ok (.value (.agg cells)) w := by
  have hr := run_build (P := P) w t (parts.map fun (i, x) => (i, a.eval x)) cells (by
    have : (parts.map fun (i, x) => (i, a.eval x)).toList = (parts.toList.map fun p => (p.1, a.eval p.2)) := by simp
    rw [this]; exact hb)
  unfold execOp
  simp only [ho, Sem.run_bind, Sem.run_pure, Result.andThen_ok, hr]
theorem results_st2 {P : Program} {fn : Func} {p : Tmp} {ty : TypeId} {s : Tmp} (h : fn.results = #[.cell p ty, .tmp s]) {tmps : Array Value} {w : World} {g : Nat} {L : List Value} {T : TypeId}
    (hp : tmps.getD p undef = .pointer (some ⟨g, 0, none⟩)) (hg : Has w g L T) {d : TypeDesc} (hu : P.underlying ty = some d) (hd : (match d with | .struct _ | .array _ _ => true | _ => false) = true) (hi : (P.info? ty).map (·.size) = some L.length) {v : Value} (hv : tmps.getD s undef = v) :
    (results fn tmps).run P w = .ok (.tuple #[.agg L.toArray, v]) w := by
  obtain ⟨lo, hi', hh, -⟩ := hg
  have hp' : tmps[p]?.getD undef = .pointer (some ⟨g, 0, none⟩) := by simpa using hp
  have hv' : tmps[s]?.getD undef = v := by simpa using hv
  simp [results, h, hp', hv', asAddr, run_loadVar_row w g T ty L.toArray _ _ hh hu (by cases d <;> first | rfl | (simp at hd)) (by simpa using hi)]
end Go.Proofs.Ytdbgddngapminaa

/- num.reckon, over an operation's contract. -/
namespace Go.Proofs.Ytdbgddngapminaa
open Go.RowKit Go.Mv Mvp
attribute [local irreducible] limbs lw mix cw cSub cAdd cMul beN laid be32 montT mstep elN mdL numsB numB
end Go.Proofs.Ytdbgddngapminaa

/- num: Add, Sub, Mul, Inv. -/
namespace Go.Mv
open Go.RowKit
theorem rd_at {w : World} {b o n : Nat} {vs : List Value} (h : Rd w (some ⟨b, o, none⟩) n vs) (k : Nat) (cs : List Value) (hcs : (vs.drop k).take cs.length = cs) : At w b (o + k) cs := by
  intro i v hv
  rcases h.2 with h0 | ⟨b', o', he, hc⟩
  · have hl := h.len
    rw [h0] at hl
    rw [List.length_eq_zero_iff.1 hl] at hcs
    simp at hcs
    subst hcs
    simp at hv
  · simp only [Option.some.injEq, Addr.mk.injEq] at he
    obtain ⟨rfl, rfl, -⟩ := he
    have := hc.sub k cs.length
    rw [hcs] at this
    exact this i v hv
theorem rd_range {w : World} {b o n : Nat} {vs : List Value} (h : Rd w (some ⟨b, o, none⟩) n vs) (k : Nat) (cs : List Value) (hcs : (vs.drop k).take cs.length = cs) : w.rangeAt b (o + k) cs :=
  fun i v hv => rd_at h k cs hcs i v hv
end Go.Mv
namespace Go.Proofs.Ytdbgddngapminaa
open Go.RowKit Go.Mv Mvp
attribute [local irreducible] limbs lw mix cw cSub cAdd cMul beN laid be32 montT mstep elN mdL numsB numB
end Go.Proofs.Ytdbgddngapminaa

/- Arrays of words compared; a number shifted down; bits laid one by one. -/
namespace Mvp
theorem half_word (N i : Nat) : lw (N / 2) i = lw N i / 2 ||| (lw N (i + 1) * 9223372036854775808 % 18446744073709551616) := by
  have h1 : lw N (i + 1) * 9223372036854775808 % 18446744073709551616 = 2 ^ 63 * (lw N (i + 1) % 2) := by
    have : (18446744073709551616 : Nat) = 9223372036854775808 * 2 := by decide
    rw [this, Nat.mul_comm, Nat.mul_mod_mul_left]
  have h2 : lw N i / 2 < 2 ^ 63 := by have := lw_lt N i; omega
  rw [h1, Nat.or_comm, ← Nat.two_pow_add_eq_or_of_lt h2]
  have e1 : lw N (i + 1) = N / B64 ^ i / 18446744073709551616 % 18446744073709551616 := by
    unfold lw
    rw [Nat.pow_succ, ← Nat.div_div_eq_div_mul]
  have e2 : lw (N / 2) i = N / B64 ^ i / 2 % 18446744073709551616 := by
    unfold lw
    rw [Nat.div_div_eq_div_mul, Nat.mul_comm, ← Nat.div_div_eq_div_mul]
  have e3 : lw N i = N / B64 ^ i % 18446744073709551616 := rfl
  rw [e1, e2, e3]
  generalize N / B64 ^ i = x
  omega
end Mvp
namespace Go.Mv
open Go.RowKit Mvp
variable {P : Program}
theorem run_eq4 {t e : TypeId} (hu : P.underlying t = some (.array 4 e)) (he : P.underlying e = some (.int .u64)) (hi0 : (P.info? e).map (·.size) = some 1) (a b : Nat) (w : World) :
    (Op.equal t (.agg (cw 4 a).toArray) (.agg (cw 4 b).toArray)).run P w = .ok (decide (a % B64 ^ 4 = b % B64 ^ 4)) w := by
  obtain ⟨j, hj, hsz⟩ : ∃ j, P.info? e = some j ∧ j.size = 1 := by simpa using hi0
  have hc : P.cellsOf e = 1 := by simp [Program.cellsOf, hj, hsz]
  have hp : ∀ (x k : Nat), k < 4 → (part e (cw 4 x).toArray k).run P w = .ok (.int .u64 (lw x k : Nat)) w := by
    intro x k hk
    have hv := cw_get 4 x k hk
    simp [part, isAgg, run_underlying he, sizeOf, typeInfo, hj, hsz, hv]
  have hq0 : ∀ (d : Nat) (x y : Int), (Op.equalIn (d + 1) e (.int .u64 x) (.int .u64 y)).run P w = .ok (x == y) w := fun d x y => by
    simp [Op.equalIn, run_underlying he]
  have hq : ∀ x y : Int, (Op.equalIn 9999 e (.int .u64 x) (.int .u64 y)).run P w = .ok (x == y) w := hq0 9998
  have hbe : ∀ k, ((lw a k : Int) == (lw b k : Int)) = decide (lw a k = lw b k) := by
    intro k
    rw [Bool.eq_iff_iff]; simp; omega
  show (Op.equalIn (9999 + 1) t _ _).run P w = _
  rw [run_equalIn_array w 9999 _ _ hu hj, hc]
  have hfin : decide (a % B64 ^ 4 = b % B64 ^ 4) = (decide (lw a 0 = lw b 0) && (decide (lw a 1 = lw b 1) && (decide (lw a 2 = lw b 2) && decide (lw a 3 = lw b 3)))) := by
    rw [Bool.eq_iff_iff]
    simp only [decide_eq_true_eq, Bool.and_eq_true]
    constructor
    · intro h
      refine ⟨?_, ?_, ?_, ?_⟩ <;> (rw [← lw_mod a _ 4 (by decide), h, lw_mod b _ 4 (by decide)])
    · rintro ⟨h0, h1, h2, h3⟩
      refine limbs_mod_inj (limbs_ext fun i hi => ?_)
      have : i = 0 ∨ i = 1 ∨ i = 2 ∨ i = 3 := by omega
      rcases this with rfl | rfl | rfl | rfl <;> assumption
  rw [hfin]
  show (Op.eqItems 9999 e 1 _ _ [0, 1, 2, 3]).run P w = _
  have p0 := fun x => hp x 0 (by decide)
  have p1 := fun x => hp x 1 (by decide)
  have p2 := fun x => hp x 2 (by decide)
  have p3 := fun x => hp x 3 (by decide)
  clear hp hq0 hfin
  by_cases h0 : lw a 0 = lw b 0 <;> by_cases h1 : lw a 1 = lw b 1 <;> by_cases h2 : lw a 2 = lw b 2 <;> by_cases h3 : lw a 3 = lw b 3 <;> simp [Op.eqItems, p0, p1, p2, p3, hq, hbe, h0, h1, h2, h3, -beq_iff_eq]
end Go.Mv

/- mont.Int.shift by two bits. -/
namespace Go.Proofs.Ytdbgddngapminaa
open Go.RowKit Go.Mv Mvp
attribute [local irreducible] limbs lw mix cw cSub cAdd cMul beN laid be32 montT mstep elN
set_option maxHeartbeats 4000000 in
set_option maxRecDepth 100000 in
theorem Shift_any (N : Nat) (w : World) (hN : N < B64 ^ 4) :
    Calls Try.prog 125 #[i4 N, .int .i64 2] w fun e w' => e = .returned (i4 (N / 4)) ∧ Fr Nob w w' := by
  have HN := Lib.hid hN; clear hN
  have st0 := St.start Nob w
  go_enter Try.func125, Try.ntmps125
  go_wp2_with (with_reducible refine wl_stop (o := ⟨some 2, _, _, _, _, _⟩) ?_)
  refine wl_boxS st0 rfl rfl rfl (cw 4 N) rfl ?_
  intro g2 w1 st1
  clear st0
  go_wp2_with (with_reducible refine wl_stop (o := ⟨some 4, _, _, _, _, _⟩) ?_)
  refine wl_allocS st1 rfl rfl (z := .agg #[.int .u64 0, .int .u64 0, .int .u64 0, .int .u64 0]) (by kernel_rfl) (cw 4 0) (by rw [cw_zero]; rfl) ?_
  intro g4 w2 st2
  clear st1
  go_wp2
  go_loopw [7] (fun i wr => ∃ j : Nat, j ≤ 2 ∧ i = .int .i64 (j : Int) ∧ St Nob w wr [(g2, cw 4 (N / 2 ^ j), 82), (g4, cw 4 0, 82)]) (fun i _ => 2 - (intOf i).toNat)
  case atStart => exact ⟨0, by omega, rfl, by rw [Nat.pow_zero, Nat.div_one]; exact st2⟩
  case round =>
    obtain ⟨j, hj, rfl, st⟩ := hrel
    clear st2
    by_cases hlt : j < 2
    · have hltJ : (j : Int) < 2 := by omega
      have hV : N / 2 ^ j < B64 ^ 4 := Nat.lt_of_le_of_lt (Nat.div_le_self _ _) HN.out
      have hnext : N / 2 ^ (j + 1) = N / 2 ^ j / 2 := by rw [Nat.pow_succ, Nat.div_div_eq_div_mul]
      generalize hVe : N / 2 ^ j = V at *
      have HNEXT := Lib.hid hnext; have HV := Lib.hid hV; clear hnext hV hVe
      go_wp2
      go_loopw [9] (fun i wr => ∃ k : Nat, k ≤ 4 ∧ i = .int .i64 (k : Int) ∧ St Nob w wr [(g2, cw 4 (mix (V / 2) V k), 82), (g4, cw 4 0, 82)]) (fun i _ => 4 - (intOf i).toNat)
      case atStart => exact ⟨0, by omega, rfl, by rw [mix_zero]; exact st⟩
      case round =>
        obtain ⟨k, hk, rfl, stk⟩ := hrel
        clear st
        by_cases hltk : k < 4
        · have hltK : (k : Int) < 4 := by omega
          have c1 : wr.cell? ⟨g2, k, none⟩ = some (.int .u64 (lw V k : Nat)) := by have h := (stk.at 0 rfl).cell (cw_get 4 (mix (V / 2) V k) k hltk); rwa [lw_mix, if_neg (Nat.lt_irrefl k)] at h
          have f1 := (stk.at 0 rfl).free k (by rw [cw_len]; exact hltk)
          have stm := stk.set 0 rfl k (.int .u64 ((lw V k : Int) / 2))
          have hhw := half_word V k
          have hor : bits .or .u64 ((lw V k : Int) / 2) (IntKind.u64.wrap ((lw V (k + 1) : Int) * 9223372036854775808)) = ((lw (V / 2) k : Nat) : Int) := by
            have h := bits_or_u64_nat (lw V k / 2) (lw V (k + 1) * 9223372036854775808 % 18446744073709551616) (Nat.lt_of_le_of_lt (Nat.div_le_self _ _) (lw_lt _ _)) (Nat.mod_lt _ (by decide))
            rw [hhw, ← h, IntKind.wrap_u64]
            rfl
          have HOR := Lib.hid hor
          clear hor
          have STM := Lib.hid stm
          have HSET := Lib.hid (cw_set 4 (V / 2) V k hltk)
          by_cases h3 : k < 3
          · have h3I : (k : Int) < 3 := by omega
            have c2 := (stm.at 0 rfl).cell (i := k) (v := .int .u64 ((lw V k : Int) / 2)) (by rw [List.getElem?_set_self (by rw [cw_len]; exact hltk)])
            have c3 := (stm.at 0 rfl).cell (i := k + 1) (v := .int .u64 (lw V (k + 1) : Nat)) (by rw [List.getElem?_set_ne (by omega), cw_get 4 _ (k + 1) (by omega), lw_mix, if_neg (by omega)])
            have f2 := (stm.at 0 rfl).free k (by rw [List.length_set, cw_len]; exact hltk)
            have e1 : IntKind.i64.wrap ((k : Int) + 1) = (k : Int) + 1 := IntWalk.i64_in _ (by omega)
            have e4 : ((k : Int) + 1).toNat = k + 1 := by omega
            have hlo : (0 : Int) ≤ (k : Int) + 1 ∧ (k : Int) + 1 < 4 := by omega
            clear stm stk
            go_wp2_with fail
            generalize hwm : wr.setCell ⟨g2, k, none⟩ (.int .u64 ((lw V k : Int) / 2)) = wm at *
            clear hwm c1 f1
            refine wp_region_still_tail 10 (by kernel_rfl) (by kernel_rfl) ?_
            simp only [List.take_succ_cons, List.take_zero, List.drop_succ_cons, List.drop_zero]
            repeat still_step
            refine wpStill_nil ?_
            have hst := (STM.out.set 0 rfl k (.int .u64 (bits .or .u64 ((lw V k : Int) / 2) (IntKind.u64.wrap ((lw V (k + 1) : Int) * 9223372036854775808))))).drew
            rw [HOR.out] at hst
            simp only [List.set_cons_zero, List.set_set] at hst
            rw [HSET.out] at hst
            have HST := Lib.hid hst
            clear hst
            go_wp2
            go_roundw
            case rel => exact ⟨k + 1, by omega, by go_num, by rw [HOR.out]; exact HST.out⟩
            case measure => simp [intOf]; omega
          · have h3I : ¬ ((k : Int) < 3) := by omega
            have hk3 : k = 3 := by omega
            have hz : lw V (k + 1) = 0 := lw_top V 4 _ HV.out (by omega)
            have hst := STM.out
            rw [hz, Nat.zero_mul, Nat.zero_mod, Nat.or_zero] at hhw
            rw [show ((lw V k : Int) / 2) = ((lw (V / 2) k : Nat) : Int) by rw [hhw]; rfl] at hst
            simp only [List.set_cons_zero] at hst
            rw [HSET.out] at hst
            rw [show ((lw (V / 2) k : Nat) : Int) = ((lw V k : Int) / 2) by rw [hhw]; rfl] at hst
            have HST := Lib.hid hst
            clear hst stm hhw hz hk3 stk
            go_wp2
            go_roundw
            case rel => exact ⟨k + 1, by omega, by go_num, HST.out⟩
            case measure => simp [intOf]; omega
        · have hge : ¬ ((k : Int) < 4) := by omega
          have hk4 : k = 4 := by omega
          rw [hk4, mix_full, ← HNEXT.out] at stk
          clear hk4
          go_wp2
          go_roundw
          case rel => exact ⟨j + 1, by omega, by go_num, stk⟩
          case measure => simp [intOf]; omega
    · have hge : ¬ ((j : Int) < 2) := by omega
      have hj2 : j = 2 := by omega
      rw [hj2] at st
      clear hj2
      go_wp2_with (with_reducible refine wl_stop (o := ⟨some 31, _, _, _, _, _⟩) ?_)
      refine wl_loadS st 0 rfl rfl rfl Try.underlying82 rfl (by rw [cw_len]; kernel_rfl) ?_
      go_wp2_with (with_reducible refine wl_stop (o := ⟨none, _, _, _, _, _⟩) ?_)
      refine wl_storeS st 1 rfl rfl rfl rfl rfl (by rw [cw_len, cw_len]) (by rw [cw_len]; kernel_rfl) (cw_one _ _) ?_
      intro w9 st9
      clear st
      have hr := st9.at 1 rfl
      have hfr := st9.fr
      clear st9
      go_wp2
      exact bodyPost_ret (results_arr rfl rfl hr Try.underlying82 (by rw [cw_len]; kernel_rfl)) rfl ⟨rfl, hfr⟩
end Go.Proofs.Ytdbgddngapminaa

/- mont: Sqrt; num.Sqrt's operation. -/
namespace Mvp
/-- the number whose square is asked for -/
def rtN (M x : Nat) : Nat := x ^ (M / 4 + 1)
def rtOk (M x : Nat) : Bool := rtN M x * rtN M x % M == x % M
def rtV (M x : Nat) : Nat := if rtN M x % M % 2 = 1 then M - rtN M x % M else rtN M x
end Mvp
namespace Go.Proofs.Ytdbgddngapminaa
open Go.RowKit Go.Mv Mvp
theorem el_eq (m : Md) (h : m.Ok) (x y : Nat) (ty : TypeId) (hu : Try.prog.underlying ty = some (.array 4 22)) (w : World) :
    (Op.equal ty (i4 (elN m x)) (.agg (cw 4 (elN m y)).toArray)).run Try.prog w = .ok (x % m.M == y % m.M) w := by
  have hb : decide (elN m x % B64 ^ 4 = elN m y % B64 ^ 4) = (x % m.M == y % m.M) := by
    rw [Nat.mod_eq_of_lt (el_lt4 m h x), Nat.mod_eq_of_lt (el_lt4 m h y), Bool.eq_iff_iff]
    simp only [decide_eq_true_eq, beq_iff_eq]
    exact ⟨el_inj m h, el_congr m⟩
  rw [← hb]
  exact run_eq4 hu Try.underlying22 size_u64 _ _ w
theorem eq_guard (x y : Nat) (ty : TypeId) (hg : Try.prog.eqGuardType Try.prog.depth ty = false) (a b : Operand) (w : World) :
    (eqGuard .neq ty a b (i4 x) (.agg (cw 4 y).toArray)).run Try.prog w = .ok () w := run_eqGuard_agg w .neq ty a b _ _ hg
theorem el_neq (m : Md) (h : m.Ok) (x y : Nat) (ty : TypeId) (hu : Try.prog.underlying ty = some (.array 4 22)) (w : World) :
    (binOp .neq ty (i4 (elN m x)) (.agg (cw 4 (elN m y)).toArray)).run Try.prog w = .ok (.bool !(x % m.M == y % m.M)) w := by
  show (do pure (Value.bool (!(← Op.equal ty (i4 (elN m x)) (.agg (cw 4 (elN m y)).toArray))))).run Try.prog w = _
  simp only [Sem.run_bind, el_eq m h x y ty hu, Result.andThen_ok]
  rfl
theorem wp_elneq (m : Md) (h : m.Ok) (x y : Nat) (ty : TypeId) (hu : Try.prog.underlying ty = some (.array 4 22)) (hg : Try.prog.eqGuardType Try.prog.depth ty = false) {o : Oper} {a : Act} {w : World} {K : Act → World → Prop} {Q : Exit → Act → World → Prop} {p q : Operand} {T : TypeId}
    (ho : o.op = .binOp .neq ty p q T) (hp : a.eval p = i4 (elN m x)) (hq : a.eval q = .agg (cw 4 (elN m y)).toArray) {b : Bool} (hb : (x % m.M == y % m.M) = b) (hk : K (a.put o.dst (.bool !b)) w) : o.wp Try.prog a w K Q := by
  have h1 := eq_guard (elN m x) (elN m y) ty hg p q w
  have h2 := el_neq m h x y ty hu w
  rw [hb] at h2
  unfold Oper.wp execOp
  simp only [ho, hp, hq, Sem.run_bind, h1, h2, Result.andThen_ok, Sem.run_pure]
  exact hk
theorem low_word (v : Nat) (w : World) : (Instr.index 82 (i4 v) (.int .i64 0)).run Try.prog w = .ok (.int .u64 (lw v 0 : Nat)) w :=
  run_index_cw (P := Try.prog) Try.underlying82 Try.underlying22 size_u64 v 0 (by decide) .i64 w
theorem low_and (v : Nat) : bits .and .u64 (lw v 0 : Nat) 1 = ((v % 2 : Nat) : Int) := by
  have ha := bits_and_u64_nat (lw v 0) 1 (lw_lt _ _) (by omega)
  rw [Nat.and_one_is_mod, word0] at ha
  rw [word0]
  refine Eq.trans ha ?_
  congr 1
  omega
attribute [local irreducible] limbs lw mix cw cSub cAdd cMul beN laid be32 montT mstep elN
set_option maxHeartbeats 8000000 in
set_option maxRecDepth 100000 in
theorem MSqrt_none (m : Md) (gp : Nat) (w : World) (hok : m.Ok) (hpm : Has w gp (mdL m) 134) (x n : Nat) (hn : m.M / 4 + 1 = n) (hr : ((x ^ n) * (x ^ n) % m.M == x % m.M) = false) :
    Calls Try.prog 115 #[.pointer (some ⟨gp, 0, none⟩), i4 (elN m x)] w fun e w' => e = .returned (.tuple #[i4 0, .bool false]) ∧ Fr Nob w w' := by
  have HOK := Lib.hid hok
  have HPM := Lib.hid hpm
  clear hok hpm
  have HE4 := Lib.hid (show n < B64 ^ 4 by subst hn; have := HOK.out.lt; have := HOK.out.one; omega)
  have h1p := fun wx => plus_any (m.M / 4) 1 wx
  rw [← small_words 1 (by decide), hn] at h1p
  clear hn
  have H1P := Lib.hid h1p
  clear h1p
  have HR := Lib.hid hr
  clear hr
  have st0 := St.start Nob w
  go_enter Try.func115, Try.ntmps115
  go_wp2_with (with_reducible refine wl_stop (o := ⟨some 3, _, _, _, _, _⟩) ?_)
  refine wl_boxS st0 rfl rfl rfl (cw 4 (elN m x)) rfl ?_
  intro g3 w1 st1
  clear st0
  go_wp2_with (with_reducible refine wl_stop (o := ⟨some 4, _, _, _, _, _⟩) ?_)
  refine wl_allocS st1 rfl rfl (z := .agg #[.int .u64 0, .int .u64 0, .int .u64 0, .int .u64 0]) (by kernel_rfl) (cw 4 0) (by rw [cw_zero]; rfl) ?_
  intro g4 w2 st2
  clear st1
  go_wp2_with (with_reducible refine wl_stop (o := ⟨some 13, _, _, _, _, _⟩) ?_)
  refine wl_loadA rfl rfl Try.underlying82 rfl (HPM.out.keep st2.fr id) (cw 4 m.M) (md_M m) (by first | (rw [cw_len]; kernel_rfl) | (simp only [List.length_append, cw_len]; kernel_rfl)) ?_
  go_wp2_with fail
  refine (Shift_any m.M _ HOK.out.lt).mono ?_
  rintro e' w3 ⟨rfl, hf3⟩
  have st3 := st2.keep hf3
  clear st2 hf3
  go_wp2_with fail
  refine (H1P.out _).mono ?_
  rintro e' w4 ⟨rfl, hf4⟩
  have st4 := st3.keep hf4
  clear st3 hf4
  go_wp2_with (with_reducible refine wl_stop (o := ⟨some 6, _, _, _, _, _⟩) ?_)
  refine wl_allocS st4 rfl rfl (z := .agg #[.int .u64 0, .int .u64 0, .int .u64 0, .int .u64 0]) (by kernel_rfl) (cw 4 0) (by rw [cw_zero]; rfl) ?_
  intro g6 w5 st5
  clear st4
  go_wp2_with (with_reducible refine wl_stop (o := ⟨none, _, _, _, _, _⟩) ?_)
  refine wl_storeS st5 2 rfl rfl rfl rfl rfl (by first | (simp only [cw_len]; done) | (simp only [List.length_append, cw_len]; done)) (by first | (rw [cw_len]; kernel_rfl) | (simp only [List.length_append, cw_len]; kernel_rfl)) (cw_one _ _) ?_
  intro w6 st6
  clear st5
  go_wp2_with (with_reducible refine wl_stop (o := ⟨some 20, _, _, _, _, _⟩) ?_)
  refine wl_loadS st6 0 rfl rfl rfl Try.underlying70 rfl (by first | (rw [cw_len]; kernel_rfl) | (simp only [List.length_append, cw_len]; kernel_rfl)) ?_
  go_wp2_with (with_reducible refine wl_stop (o := ⟨some 21, _, _, _, _, _⟩) ?_)
  refine wl_loadS st6 2 rfl rfl rfl Try.underlying82 rfl (by first | (rw [cw_len]; kernel_rfl) | (simp only [List.length_append, cw_len]; kernel_rfl)) ?_
  go_wp2_with fail
  refine (MPow_any m gp _ HOK.out (HPM.out.keep st6.fr id) x n HE4.out).mono ?_
  rintro e' w7 ⟨rfl, hf7⟩
  have st7 := st6.keep hf7
  clear st6 hf7
  go_wp2_with (with_reducible refine wl_stop (o := ⟨some 8, _, _, _, _, _⟩) ?_)
  refine wl_allocS st7 rfl rfl (z := .agg #[.int .u64 0, .int .u64 0, .int .u64 0, .int .u64 0]) (by kernel_rfl) (cw 4 0) (by rw [cw_zero]; rfl) ?_
  intro g8 w8 st8
  clear st7
  go_wp2_with (with_reducible refine wl_stop (o := ⟨none, _, _, _, _, _⟩) ?_)
  refine wl_storeS st8 3 rfl rfl rfl rfl rfl (by first | (simp only [cw_len]; done) | (simp only [List.length_append, cw_len]; done)) (by first | (rw [cw_len]; kernel_rfl) | (simp only [List.length_append, cw_len]; kernel_rfl)) (cw_one _ _) ?_
  intro w9 st9
  clear st8
  go_wp2_with fail
  refine wp_region_noPanic ?_
  refine wp_region_plan (fun wx => St Nob w wx [(g3, cw 4 (elN m x), 70), (g4, cw 4 0, 70), (g6, cw 4 n, 82), (g8, cw 4 (elN m (x ^ n)), 70)]) 4 (.w 0 (.t 1 (.t 3 (.r 2 (.m 4 .nil))))) (by kernel_rfl) (by kernel_rfl) st9.drew (fun _ _ _ _ _ h => h) ?_
  have hd9 := st9.drew
  clear st9
  refine plan_w (v := ?_) rfl rfl (fun wx => ?_) ?_
  rotate_left 1
  · (go_simp; with_reducible rfl)
  try simp only [Act.put, List.setIfInBounds_toArray, List.set_cons_zero, List.set_cons_succ]
  refine plan_arr rfl rfl rfl rfl (cw 4 (elN m (x ^ n))) (fun wx hS => St.rangeL hS 3 rfl 0 _ (by rw [List.drop_zero, List.take_of_length_le (Nat.le_refl _)])) Try.underlying70 rfl (by first | (rw [cw_len]; kernel_rfl) | (simp only [List.length_append, cw_len]; kernel_rfl)) ?_
  try simp only [Act.put, List.setIfInBounds_toArray, List.set_cons_zero, List.set_cons_succ]
  refine plan_arr rfl rfl rfl rfl (cw 4 (elN m x)) (fun wx hS => St.rangeL hS 0 rfl 0 _ (by rw [List.drop_zero, List.take_of_length_le (Nat.le_refl _)])) Try.underlying70 rfl (by first | (rw [cw_len]; kernel_rfl) | (simp only [List.length_append, cw_len]; kernel_rfl)) ?_
  try simp only [Act.put, List.setIfInBounds_toArray, List.set_cons_zero, List.set_cons_succ]
  refine plan_r rfl rfl ?_
  go_simp
  refine (MSquare_any m gp _ HOK.out (HPM.out.keep hd9.fr id) (x ^ n)).mono ?_
  rintro e' w10 ⟨rfl, hf10⟩
  have st10 := hd9.keep hf10
  clear hf10
  clear hd9
  refine ⟨st10, ?_⟩
  try simp only [Act.put, List.setIfInBounds_toArray, List.set_cons_zero, List.set_cons_succ]
  refine plan_m rfl rfl ?_
  refine wp_elneq m HOK.out ((x ^ n) * (x ^ n)) x 70 Try.underlying70 Try.eqGuardType70 rfl rfl rfl HR.out ?_
  try simp only [Act.put, List.setIfInBounds_toArray, List.set_cons_zero, List.set_cons_succ]
  refine plan_end ?_
  refine NoPanic.normal ?_
  go_wp2_with (with_reducible refine wl_stop (o := ⟨none, _, _, _, _, _⟩) ?_)
  refine wl_storeS st10 1 rfl rfl rfl rfl (cs := cw 4 0) (by rw [cw_zero]; rfl) (by first | (simp only [cw_len]; done) | (simp only [List.length_append, cw_len]; done)) (by first | (rw [cw_len]; kernel_rfl) | (simp only [List.length_append, cw_len]; kernel_rfl)) (cw_one _ _) ?_
  intro w11 st11
  clear st10
  have hr := st11.at 1 rfl
  have hfr := st11.fr
  clear st11
  go_wp2_with fail
  exact bodyPost_ret (results_arr2 rfl rfl hr Try.underlying70 (by first | (rw [cw_len]; kernel_rfl) | (simp only [List.length_append, cw_len]; kernel_rfl)) rfl) rfl ⟨rfl, hfr⟩

set_option maxHeartbeats 8000000 in
set_option maxRecDepth 100000 in
theorem MSqrt_even (m : Md) (gp : Nat) (w : World) (hok : m.Ok) (hpm : Has w gp (mdL m) 134) (x n : Nat) (hn : m.M / 4 + 1 = n) (hr : ((x ^ n) * (x ^ n) % m.M == x % m.M) = true) (hb : (x ^ n) % m.M % 2 = 0) :
    Calls Try.prog 115 #[.pointer (some ⟨gp, 0, none⟩), i4 (elN m x)] w fun e w' => e = .returned (.tuple #[i4 (elN m (x ^ n)), .bool true]) ∧ Fr Nob w w' := by
  have HOK := Lib.hid hok
  have HPM := Lib.hid hpm
  clear hok hpm
  have HB := Lib.hid hb
  have HE4 := Lib.hid (show n < B64 ^ 4 by subst hn; have := HOK.out.lt; have := HOK.out.one; omega)
  have h1p := fun wx => plus_any (m.M / 4) 1 wx
  rw [← small_words 1 (by decide), hn] at h1p
  clear hn
  have H1P := Lib.hid h1p
  clear h1p
  have HR := Lib.hid hr
  clear hr
  clear hb
  have st0 := St.start Nob w
  go_enter Try.func115, Try.ntmps115
  go_wp2_with (with_reducible refine wl_stop (o := ⟨some 3, _, _, _, _, _⟩) ?_)
  refine wl_boxS st0 rfl rfl rfl (cw 4 (elN m x)) rfl ?_
  intro g3 w1 st1
  clear st0
  go_wp2_with (with_reducible refine wl_stop (o := ⟨some 4, _, _, _, _, _⟩) ?_)
  refine wl_allocS st1 rfl rfl (z := .agg #[.int .u64 0, .int .u64 0, .int .u64 0, .int .u64 0]) (by kernel_rfl) (cw 4 0) (by rw [cw_zero]; rfl) ?_
  intro g4 w2 st2
  clear st1
  go_wp2_with (with_reducible refine wl_stop (o := ⟨some 13, _, _, _, _, _⟩) ?_)
  refine wl_loadA rfl rfl Try.underlying82 rfl (HPM.out.keep st2.fr id) (cw 4 m.M) (md_M m) (by first | (rw [cw_len]; kernel_rfl) | (simp only [List.length_append, cw_len]; kernel_rfl)) ?_
  go_wp2_with fail
  refine (Shift_any m.M _ HOK.out.lt).mono ?_
  rintro e' w3 ⟨rfl, hf3⟩
  have st3 := st2.keep hf3
  clear st2 hf3
  go_wp2_with fail
  refine (H1P.out _).mono ?_
  rintro e' w4 ⟨rfl, hf4⟩
  have st4 := st3.keep hf4
  clear st3 hf4
  go_wp2_with (with_reducible refine wl_stop (o := ⟨some 6, _, _, _, _, _⟩) ?_)
  refine wl_allocS st4 rfl rfl (z := .agg #[.int .u64 0, .int .u64 0, .int .u64 0, .int .u64 0]) (by kernel_rfl) (cw 4 0) (by rw [cw_zero]; rfl) ?_
  intro g6 w5 st5
  clear st4
  go_wp2_with (with_reducible refine wl_stop (o := ⟨none, _, _, _, _, _⟩) ?_)
  refine wl_storeS st5 2 rfl rfl rfl rfl rfl (by first | (simp only [cw_len]; done) | (simp only [List.length_append, cw_len]; done)) (by first | (rw [cw_len]; kernel_rfl) | (simp only [List.length_append, cw_len]; kernel_rfl)) (cw_one _ _) ?_
  intro w6 st6
  clear st5
  go_wp2_with (with_reducible refine wl_stop (o := ⟨some 20, _, _, _, _, _⟩) ?_)
  refine wl_loadS st6 0 rfl rfl rfl Try.underlying70 rfl (by first | (rw [cw_len]; kernel_rfl) | (simp only [List.length_append, cw_len]; kernel_rfl)) ?_
  go_wp2_with (with_reducible refine wl_stop (o := ⟨some 21, _, _, _, _, _⟩) ?_)
  refine wl_loadS st6 2 rfl rfl rfl Try.underlying82 rfl (by first | (rw [cw_len]; kernel_rfl) | (simp only [List.length_append, cw_len]; kernel_rfl)) ?_
  go_wp2_with fail
  refine (MPow_any m gp _ HOK.out (HPM.out.keep st6.fr id) x n HE4.out).mono ?_
  rintro e' w7 ⟨rfl, hf7⟩
  have st7 := st6.keep hf7
  clear st6 hf7
  go_wp2_with (with_reducible refine wl_stop (o := ⟨some 8, _, _, _, _, _⟩) ?_)
  refine wl_allocS st7 rfl rfl (z := .agg #[.int .u64 0, .int .u64 0, .int .u64 0, .int .u64 0]) (by kernel_rfl) (cw 4 0) (by rw [cw_zero]; rfl) ?_
  intro g8 w8 st8
  clear st7
  go_wp2_with (with_reducible refine wl_stop (o := ⟨none, _, _, _, _, _⟩) ?_)
  refine wl_storeS st8 3 rfl rfl rfl rfl rfl (by first | (simp only [cw_len]; done) | (simp only [List.length_append, cw_len]; done)) (by first | (rw [cw_len]; kernel_rfl) | (simp only [List.length_append, cw_len]; kernel_rfl)) (cw_one _ _) ?_
  intro w9 st9
  clear st8
  go_wp2_with fail
  refine wp_region_noPanic ?_
  refine wp_region_plan (fun wx => St Nob w wx [(g3, cw 4 (elN m x), 70), (g4, cw 4 0, 70), (g6, cw 4 n, 82), (g8, cw 4 (elN m (x ^ n)), 70)]) 4 (.w 0 (.t 1 (.t 3 (.r 2 (.m 4 .nil))))) (by kernel_rfl) (by kernel_rfl) st9.drew (fun _ _ _ _ _ h => h) ?_
  have hd9 := st9.drew
  clear st9
  refine plan_w (v := ?_) rfl rfl (fun wx => ?_) ?_
  rotate_left 1
  · (go_simp; with_reducible rfl)
  try simp only [Act.put, List.setIfInBounds_toArray, List.set_cons_zero, List.set_cons_succ]
  refine plan_arr rfl rfl rfl rfl (cw 4 (elN m (x ^ n))) (fun wx hS => St.rangeL hS 3 rfl 0 _ (by rw [List.drop_zero, List.take_of_length_le (Nat.le_refl _)])) Try.underlying70 rfl (by first | (rw [cw_len]; kernel_rfl) | (simp only [List.length_append, cw_len]; kernel_rfl)) ?_
  try simp only [Act.put, List.setIfInBounds_toArray, List.set_cons_zero, List.set_cons_succ]
  refine plan_arr rfl rfl rfl rfl (cw 4 (elN m x)) (fun wx hS => St.rangeL hS 0 rfl 0 _ (by rw [List.drop_zero, List.take_of_length_le (Nat.le_refl _)])) Try.underlying70 rfl (by first | (rw [cw_len]; kernel_rfl) | (simp only [List.length_append, cw_len]; kernel_rfl)) ?_
  try simp only [Act.put, List.setIfInBounds_toArray, List.set_cons_zero, List.set_cons_succ]
  refine plan_r rfl rfl ?_
  go_simp
  refine (MSquare_any m gp _ HOK.out (HPM.out.keep hd9.fr id) (x ^ n)).mono ?_
  rintro e' w10 ⟨rfl, hf10⟩
  have st10 := hd9.keep hf10
  clear hf10
  clear hd9
  refine ⟨st10, ?_⟩
  try simp only [Act.put, List.setIfInBounds_toArray, List.set_cons_zero, List.set_cons_succ]
  refine plan_m rfl rfl ?_
  refine wp_elneq m HOK.out ((x ^ n) * (x ^ n)) x 70 Try.underlying70 Try.eqGuardType70 rfl rfl rfl HR.out ?_
  try simp only [Act.put, List.setIfInBounds_toArray, List.set_cons_zero, List.set_cons_succ]
  refine plan_end ?_
  refine NoPanic.normal ?_
  have hix := fun wx => low_word ((x ^ n) % m.M) wx
  have hla := low_and ((x ^ n) % m.M)
  rw [HB.out] at hla
  go_wp2_with (with_reducible refine wl_stop (o := ⟨some 30, _, _, _, _, _⟩) ?_)
  refine wl_loadS st10 3 rfl rfl rfl Try.underlying70 rfl (by first | (rw [cw_len]; kernel_rfl) | (simp only [List.length_append, cw_len]; kernel_rfl)) ?_
  go_wp2_with fail
  refine (MFrom_any m gp _ HOK.out (HPM.out.keep st10.fr id) (x ^ n)).mono ?_
  rintro e' w11 ⟨rfl, hf11⟩
  have st11 := st10.keep hf11
  clear st10 hf11
  go_wp2_with (with_reducible refine wl_stop (o := ⟨some 38, _, _, _, _, _⟩) ?_)
  refine wl_loadS st11 3 rfl rfl rfl Try.underlying70 rfl (by first | (rw [cw_len]; kernel_rfl) | (simp only [List.length_append, cw_len]; kernel_rfl)) ?_
  go_wp2_with (with_reducible refine wl_stop (o := ⟨none, _, _, _, _, _⟩) ?_)
  refine wl_storeS st11 1 rfl rfl rfl rfl rfl (by first | (simp only [cw_len]; done) | (simp only [List.length_append, cw_len]; done)) (by first | (rw [cw_len]; kernel_rfl) | (simp only [List.length_append, cw_len]; kernel_rfl)) (cw_one _ _) ?_
  intro w12 st12
  clear st11
  have hr := st12.at 1 rfl
  have hfr := st12.fr
  clear st12
  go_wp2_with fail
  exact bodyPost_ret (results_arr2 rfl rfl hr Try.underlying70 (by first | (rw [cw_len]; kernel_rfl) | (simp only [List.length_append, cw_len]; kernel_rfl)) rfl) rfl ⟨rfl, hfr⟩

set_option maxHeartbeats 8000000 in
set_option maxRecDepth 100000 in
theorem MSqrt_odd (m : Md) (gp : Nat) (w : World) (hok : m.Ok) (hpm : Has w gp (mdL m) 134) (x n : Nat) (hn : m.M / 4 + 1 = n) (hr : ((x ^ n) * (x ^ n) % m.M == x % m.M) = true) (hb : (x ^ n) % m.M % 2 = 1) :
    Calls Try.prog 115 #[.pointer (some ⟨gp, 0, none⟩), i4 (elN m x)] w fun e w' => e = .returned (.tuple #[i4 (elN m (m.M - (x ^ n) % m.M)), .bool true]) ∧ Fr Nob w w' := by
  have HOK := Lib.hid hok
  have HPM := Lib.hid hpm
  clear hok hpm
  have HB := Lib.hid hb
  have HE4 := Lib.hid (show n < B64 ^ 4 by subst hn; have := HOK.out.lt; have := HOK.out.one; omega)
  have h1p := fun wx => plus_any (m.M / 4) 1 wx
  rw [← small_words 1 (by decide), hn] at h1p
  clear hn
  have H1P := Lib.hid h1p
  clear h1p
  have HR := Lib.hid hr
  clear hr
  clear hb
  have st0 := St.start Nob w
  go_enter Try.func115, Try.ntmps115
  go_wp2_with (with_reducible refine wl_stop (o := ⟨some 3, _, _, _, _, _⟩) ?_)
  refine wl_boxS st0 rfl rfl rfl (cw 4 (elN m x)) rfl ?_
  intro g3 w1 st1
  clear st0
  go_wp2_with (with_reducible refine wl_stop (o := ⟨some 4, _, _, _, _, _⟩) ?_)
  refine wl_allocS st1 rfl rfl (z := .agg #[.int .u64 0, .int .u64 0, .int .u64 0, .int .u64 0]) (by kernel_rfl) (cw 4 0) (by rw [cw_zero]; rfl) ?_
  intro g4 w2 st2
  clear st1
  go_wp2_with (with_reducible refine wl_stop (o := ⟨some 13, _, _, _, _, _⟩) ?_)
  refine wl_loadA rfl rfl Try.underlying82 rfl (HPM.out.keep st2.fr id) (cw 4 m.M) (md_M m) (by first | (rw [cw_len]; kernel_rfl) | (simp only [List.length_append, cw_len]; kernel_rfl)) ?_
  go_wp2_with fail
  refine (Shift_any m.M _ HOK.out.lt).mono ?_
  rintro e' w3 ⟨rfl, hf3⟩
  have st3 := st2.keep hf3
  clear st2 hf3
  go_wp2_with fail
  refine (H1P.out _).mono ?_
  rintro e' w4 ⟨rfl, hf4⟩
  have st4 := st3.keep hf4
  clear st3 hf4
  go_wp2_with (with_reducible refine wl_stop (o := ⟨some 6, _, _, _, _, _⟩) ?_)
  refine wl_allocS st4 rfl rfl (z := .agg #[.int .u64 0, .int .u64 0, .int .u64 0, .int .u64 0]) (by kernel_rfl) (cw 4 0) (by rw [cw_zero]; rfl) ?_
  intro g6 w5 st5
  clear st4
  go_wp2_with (with_reducible refine wl_stop (o := ⟨none, _, _, _, _, _⟩) ?_)
  refine wl_storeS st5 2 rfl rfl rfl rfl rfl (by first | (simp only [cw_len]; done) | (simp only [List.length_append, cw_len]; done)) (by first | (rw [cw_len]; kernel_rfl) | (simp only [List.length_append, cw_len]; kernel_rfl)) (cw_one _ _) ?_
  intro w6 st6
  clear st5
  go_wp2_with (with_reducible refine wl_stop (o := ⟨some 20, _, _, _, _, _⟩) ?_)
  refine wl_loadS st6 0 rfl rfl rfl Try.underlying70 rfl (by first | (rw [cw_len]; kernel_rfl) | (simp only [List.length_append, cw_len]; kernel_rfl)) ?_
  go_wp2_with (with_reducible refine wl_stop (o := ⟨some 21, _, _, _, _, _⟩) ?_)
  refine wl_loadS st6 2 rfl rfl rfl Try.underlying82 rfl (by first | (rw [cw_len]; kernel_rfl) | (simp only [List.length_append, cw_len]; kernel_rfl)) ?_
  go_wp2_with fail
  refine (MPow_any m gp _ HOK.out (HPM.out.keep st6.fr id) x n HE4.out).mono ?_
  rintro e' w7 ⟨rfl, hf7⟩
  have st7 := st6.keep hf7
  clear st6 hf7
  go_wp2_with (with_reducible refine wl_stop (o := ⟨some 8, _, _, _, _, _⟩) ?_)
  refine wl_allocS st7 rfl rfl (z := .agg #[.int .u64 0, .int .u64 0, .int .u64 0, .int .u64 0]) (by kernel_rfl) (cw 4 0) (by rw [cw_zero]; rfl) ?_
  intro g8 w8 st8
  clear st7
  go_wp2_with (with_reducible refine wl_stop (o := ⟨none, _, _, _, _, _⟩) ?_)
  refine wl_storeS st8 3 rfl rfl rfl rfl rfl (by first | (simp only [cw_len]; done) | (simp only [List.length_append, cw_len]; done)) (by first | (rw [cw_len]; kernel_rfl) | (simp only [List.length_append, cw_len]; kernel_rfl)) (cw_one _ _) ?_
  intro w9 st9
  clear st8
  go_wp2_with fail
  refine wp_region_noPanic ?_
  refine wp_region_plan (fun wx => St Nob w wx [(g3, cw 4 (elN m x), 70), (g4, cw 4 0, 70), (g6, cw 4 n, 82), (g8, cw 4 (elN m (x ^ n)), 70)]) 4 (.w 0 (.t 1 (.t 3 (.r 2 (.m 4 .nil))))) (by kernel_rfl) (by kernel_rfl) st9.drew (fun _ _ _ _ _ h => h) ?_
  have hd9 := st9.drew
  clear st9
  refine plan_w (v := ?_) rfl rfl (fun wx => ?_) ?_
  rotate_left 1
  · (go_simp; with_reducible rfl)
  try simp only [Act.put, List.setIfInBounds_toArray, List.set_cons_zero, List.set_cons_succ]
  refine plan_arr rfl rfl rfl rfl (cw 4 (elN m (x ^ n))) (fun wx hS => St.rangeL hS 3 rfl 0 _ (by rw [List.drop_zero, List.take_of_length_le (Nat.le_refl _)])) Try.underlying70 rfl (by first | (rw [cw_len]; kernel_rfl) | (simp only [List.length_append, cw_len]; kernel_rfl)) ?_
  try simp only [Act.put, List.setIfInBounds_toArray, List.set_cons_zero, List.set_cons_succ]
  refine plan_arr rfl rfl rfl rfl (cw 4 (elN m x)) (fun wx hS => St.rangeL hS 0 rfl 0 _ (by rw [List.drop_zero, List.take_of_length_le (Nat.le_refl _)])) Try.underlying70 rfl (by first | (rw [cw_len]; kernel_rfl) | (simp only [List.length_append, cw_len]; kernel_rfl)) ?_
  try simp only [Act.put, List.setIfInBounds_toArray, List.set_cons_zero, List.set_cons_succ]
  refine plan_r rfl rfl ?_
  go_simp
  refine (MSquare_any m gp _ HOK.out (HPM.out.keep hd9.fr id) (x ^ n)).mono ?_
  rintro e' w10 ⟨rfl, hf10⟩
  have st10 := hd9.keep hf10
  clear hf10
  clear hd9
  refine ⟨st10, ?_⟩
  try simp only [Act.put, List.setIfInBounds_toArray, List.set_cons_zero, List.set_cons_succ]
  refine plan_m rfl rfl ?_
  refine wp_elneq m HOK.out ((x ^ n) * (x ^ n)) x 70 Try.underlying70 Try.eqGuardType70 rfl rfl rfl HR.out ?_
  try simp only [Act.put, List.setIfInBounds_toArray, List.set_cons_zero, List.set_cons_succ]
  refine plan_end ?_
  refine NoPanic.normal ?_
  have hix := fun wx => low_word ((x ^ n) % m.M) wx
  have hla := low_and ((x ^ n) % m.M)
  rw [HB.out] at hla
  go_wp2_with (with_reducible refine wl_stop (o := ⟨some 30, _, _, _, _, _⟩) ?_)
  refine wl_loadS st10 3 rfl rfl rfl Try.underlying70 rfl (by first | (rw [cw_len]; kernel_rfl) | (simp only [List.length_append, cw_len]; kernel_rfl)) ?_
  go_wp2_with fail
  refine (MFrom_any m gp _ HOK.out (HPM.out.keep st10.fr id) (x ^ n)).mono ?_
  rintro e' w11 ⟨rfl, hf11⟩
  have st11 := st10.keep hf11
  clear st10 hf11
  go_wp2_with (with_reducible refine wl_stop (o := ⟨some 36, _, _, _, _, _⟩) ?_)
  refine wl_loadS st11 3 rfl rfl rfl Try.underlying70 rfl (by first | (rw [cw_len]; kernel_rfl) | (simp only [List.length_append, cw_len]; kernel_rfl)) ?_
  go_wp2_with fail
  refine (MNeg_any m gp _ HOK.out (HPM.out.keep st11.fr id) (x ^ n)).mono ?_
  rintro e' w12 ⟨rfl, hf12⟩
  have st12 := st11.keep hf12
  clear st11 hf12
  go_wp2_with (with_reducible refine wl_stop (o := ⟨none, _, _, _, _, _⟩) ?_)
  refine wl_storeS st12 3 rfl rfl rfl rfl rfl (by first | (simp only [cw_len]; done) | (simp only [List.length_append, cw_len]; done)) (by first | (rw [cw_len]; kernel_rfl) | (simp only [List.length_append, cw_len]; kernel_rfl)) (cw_one _ _) ?_
  intro w13 st13
  clear st12
  go_wp2_with (with_reducible refine wl_stop (o := ⟨some 38, _, _, _, _, _⟩) ?_)
  refine wl_loadS st13 3 rfl rfl rfl Try.underlying70 rfl (by first | (rw [cw_len]; kernel_rfl) | (simp only [List.length_append, cw_len]; kernel_rfl)) ?_
  go_wp2_with (with_reducible refine wl_stop (o := ⟨none, _, _, _, _, _⟩) ?_)
  refine wl_storeS st13 1 rfl rfl rfl rfl rfl (by first | (simp only [cw_len]; done) | (simp only [List.length_append, cw_len]; done)) (by first | (rw [cw_len]; kernel_rfl) | (simp only [List.length_append, cw_len]; kernel_rfl)) (cw_one _ _) ?_
  intro w14 st14
  clear st13
  have hr := st14.at 1 rfl
  have hfr := st14.fr
  clear st14
  go_wp2_with fail
  exact bodyPost_ret (results_arr2 rfl rfl hr Try.underlying70 (by first | (rw [cw_len]; kernel_rfl) | (simp only [List.length_append, cw_len]; kernel_rfl)) rfl) rfl ⟨rfl, hfr⟩
end Go.Proofs.Ytdbgddngapminaa

/- zn: Zero, Small, Bytes; scalars compared. -/
namespace Go.Mv
open Go.RowKit Mvp
variable {P : Program}
end Go.Mv
namespace Go.Proofs.Ytdbgddngapminaa
open Go.RowKit Go.Mv Mvp
theorem eql_of_equal {P : Program} {ty : TypeId} {xs ys : Array Value} {b : Bool} (w : World) (h : (Op.equal ty (.agg xs) (.agg ys)).run P w = .ok b w) : (binOp .eql ty (.agg xs) (.agg ys)).run P w = .ok (.bool b) w := by
  show (do pure (Value.bool (← Op.equal ty (.agg xs) (.agg ys)))).run P w = _
  simp only [Sem.run_bind, h, Result.andThen_ok]
  rfl
theorem exec_binop {P : Program} {op : BinOp} {ty : TypeId} {o : Oper} {a : Act} {p q : Operand} {T : TypeId} {x y v : Value} (ho : o.op = .binOp op ty p q T) (hp : a.eval p = x) (hq : a.eval q = y) (w : World)
    (h1 : (eqGuard op ty p q x y).run P w = .ok () w) (h2 : (binOp op ty x y).run P w = .ok v w) : (execOp a.eval o).run P w = .ok (.value v) w := by
  subst hp hq
  unfold execOp
  simp only [ho, Sem.run_bind, h1, h2, Result.andThen_ok, Sem.run_pure]
theorem exec_eqlE (m : Md) (h : m.Ok) (x y : Nat) {o : Oper} {a : Act} {p q : Operand} {T ty : TypeId} (hu : Try.prog.underlying ty = some (.array 4 22)) (hg : Try.prog.eqGuardType Try.prog.depth ty = false) (ho : o.op = .binOp .eql ty p q T) (hp : a.eval p = i4 (elN m x)) (hq : a.eval q = i4 (elN m y)) {b : Bool} (hb : (x % m.M == y % m.M) = b) (w : World) :
    (execOp a.eval o).run Try.prog w = .ok (.value (.bool b)) w := by
  subst hb
  exact exec_binop ho hp hq w (run_eqGuard_agg w .eql ty p q _ _ hg) (eql_of_equal w (el_eq m h x y ty hu w))
theorem wl_exec {o : Oper} {a : Act} {w : World} {P : Program} {ops : Array Oper} {rest : List Oper} {Q : Exit → Act → World → Prop} {v : Value} (hgd : o.guard = none) (hx : (execOp a.eval o).run P w = .ok (.value v) w) (h : wpList P ops Q rest (a.put o.dst v) w) : wpList P ops Q (o :: rest) a w := by
  refine wpList_plain hgd fun K hK => ?_
  unfold Oper.wp
  rw [hx]
  exact hK _ _ h
attribute [local irreducible] limbs lw mix cw cSub cAdd cMul beN laid be32 montT mstep elN mdL numB
theorem words_z4 : (Value.agg #[.int .u64 0, .int .u64 0, .int .u64 0, .int .u64 0]) = i4 0 := by rw [i4, cw_zero]; rfl
theorem built_E0 : Try.prog.built 70 [] = some #[.int .u64 0, .int .u64 0, .int .u64 0, .int .u64 0] := by kernel_rfl

set_option maxHeartbeats 8000000 in
set_option maxRecDepth 100000 in
theorem EZero_any (m : Md) (hok : m.Ok) (x : Nat) (b : Bool) (hb : (x % m.M == 0) = b) (w : World) :
    Calls Try.prog 96 #[i4 (elN m x)] w fun e w' => e = .returned (.bool b) ∧ Fr Nob w w' := by
  have HOK := Lib.hid hok
  have HB := Lib.hid (show (x % m.M == 0 % m.M) = b by rw [Nat.zero_mod]; exact hb)
  have HZ := Lib.hid (show i4 0 = i4 (elN m 0) by rw [el_zero])
  clear hok hb
  have st0 := St.start Nob w
  go_enter Try.func96, Try.ntmps96
  go_wp2_with (with_reducible refine wl_stop (o := ⟨some 1, _, _, _, _, _⟩) ?_)
  refine wl_boxS st0 rfl rfl rfl (cw 4 (elN m x)) rfl ?_
  intro g1 w1 st1
  clear st0
  go_wp2_with (with_reducible refine wl_stop (o := ⟨some 3, _, _, _, _, _⟩) ?_)
  refine wl_loadS st1 0 rfl rfl rfl Try.underlying70 rfl (by first | (rw [cw_len]; kernel_rfl) | (simp only [List.length_append, cw_len]; kernel_rfl)) ?_
  go_wp2_with (with_reducible refine wl_stop (o := ⟨some 4, _, _, _, _, _⟩) ?_)
  refine wl_build0 rfl rfl _ built_E0 ?_
  rw [words_z4, HZ.out]
  go_wp2_with (with_reducible refine wl_stop (o := ⟨some 5, _, _, _, _, _⟩) ?_)
  refine wl_exec rfl (exec_eqlE m HOK.out x 0 Try.underlying70 Try.eqGuardType70 rfl rfl rfl HB.out _) ?_
  have hfr := st1.fr
  clear st1
  go_wp2_with fail
  go_ret
  exact ⟨rfl, hfr⟩

theorem built_int1 (v : Int) : Try.prog.built 82 [(0, .int .u64 v)] = some #[.int .u64 v, .int .u64 0, .int .u64 0, .int .u64 0] := by kernel_rfl

set_option maxHeartbeats 8000000 in
set_option maxRecDepth 100000 in
theorem MSmall_any (m : Md) (gp : Nat) (w : World) (hok : m.Ok) (hpm : Has w gp (mdL m) 134) (k : Nat) (hk : k < 18446744073709551616) :
    Calls Try.prog 84 #[.pointer (some ⟨gp, 0, none⟩), .int .u64 (k : Int)] w fun e w' => e = .returned (i4 (elN m k)) ∧ Fr Nob w w' := by
  have HOK := Lib.hid hok
  have HPM := Lib.hid hpm
  have HW := Lib.hid (small_words k hk)
  have HK4 := Lib.hid (show k < B64 ^ 4 by have : (18446744073709551616 : Nat) ≤ B64 ^ 4 := by decide
                                           omega)
  clear hok hpm hk
  have st0 := St.start Nob w
  go_enter Try.func84, Try.ntmps84
  go_wp2_with (with_reducible refine wl_stop (o := ⟨some 4, _, _, _, _, _⟩) ?_)
  refine wl_allocS st0 rfl rfl (z := .agg #[.int .u64 0, .int .u64 0, .int .u64 0, .int .u64 0]) (by kernel_rfl) (cw 4 0) (by rw [cw_zero]; rfl) ?_
  intro g4 w1 st1
  clear st0
  go_wp2_with (with_reducible refine wl_stop (o := ⟨some 7, _, _, _, _, _⟩) ?_)
  refine wl_buildL rfl rfl _ (built_int1 (k : Int)) ?_
  rw [HW.out]
  go_wp2_with fail
  refine (MTo_any m gp _ HOK.out (HPM.out.keep st1.fr id) k HK4.out).mono ?_
  rintro e' w2 ⟨rfl, hf2⟩
  have st2 := st1.keep hf2
  clear st1 hf2
  go_wp2_with (with_reducible refine wl_stop (o := ⟨none, _, _, _, _, _⟩) ?_)
  refine wl_storeS st2 0 rfl rfl rfl rfl rfl (by first | (simp only [cw_len]; done) | (simp only [List.length_append, cw_len]; done)) (by first | (rw [cw_len]; kernel_rfl) | (simp only [List.length_append, cw_len]; kernel_rfl)) (cw_one _ _) ?_
  intro w3 st3
  clear st2
  have hr := st3.at 0 rfl
  have hfr := st3.fr
  clear st3
  go_wp2_with fail
  exact bodyPost_ret (results_arr rfl rfl hr Try.underlying70 (by first | (rw [cw_len]; kernel_rfl) | (simp only [List.length_append, cw_len]; kernel_rfl))) rfl ⟨rfl, hfr⟩

end Go.Proofs.Ytdbgddngapminaa

/- group: none, nothing, opposite. -/
namespace Go.Mv
open Go.RowKit
end Go.Mv
namespace Go.Proofs.Ytdbgddngapminaa
open Go.RowKit Go.Mv Mvp
/-- a point's cells -/
def ptL (m : Md) (x y z : Nat) : List Value := cw 4 (elN m x) ++ (cw 4 (elN m y) ++ cw 4 (elN m z))
def ptV (m : Md) (x y z : Nat) : Value := .agg (ptL m x y z).toArray
/-- the curve's cells -/
def crvL (m : Md) (gp bx by_ : Nat) : List Value := [.pointer (some ⟨gp, 0, none⟩)] ++ (cw 4 (elN m 7) ++ ptL m bx by_ 1)
theorem ptL_len (m : Md) (x y z : Nat) : (ptL m x y z).length = 12 := by simp [ptL, cw_len]
theorem crv_seven (m : Md) (gp bx by_ : Nat) : ((crvL m gp bx by_).drop 1).take (cw 4 (elN m 7)).length = cw 4 (elN m 7) := by
  unfold crvL
  rw [List.singleton_append, List.drop_succ_cons, List.drop_zero, List.take_left]
theorem crv_base (m : Md) (gp bx by_ : Nat) : ((crvL m gp bx by_).drop 5).take (ptL m bx by_ 1).length = ptL m bx by_ 1 := by
  have h : ([Value.pointer (some ⟨gp, 0, none⟩)] ++ cw 4 (elN m 7)).length = 5 := by rw [List.length_append, cw_len]; rfl
  unfold crvL
  rw [← List.append_assoc, List.drop_append_of_le_length (by omega), List.drop_of_length_le (by omega), List.nil_append, List.take_of_length_le (Nat.le_refl _)]
theorem pt_x (a b c : Nat) : ((cw 4 a ++ (cw 4 b ++ cw 4 c)).drop 0).take (cw 4 a).length = cw 4 a := by
  rw [List.drop_zero, List.take_left]
theorem pt_y (a b c : Nat) : ((cw 4 a ++ (cw 4 b ++ cw 4 c)).drop 4).take (cw 4 b).length = cw 4 b := by
  have h : (cw 4 a).length = 4 := cw_len _ _
  rw [List.drop_append_of_le_length (by omega), List.drop_of_length_le (by omega), List.nil_append, List.take_left]
theorem pt_z (a b c : Nat) : ((cw 4 a ++ (cw 4 b ++ cw 4 c)).drop 8).take (cw 4 c).length = cw 4 c := by
  have h : (cw 4 a ++ cw 4 b).length = 8 := by rw [List.length_append, cw_len, cw_len]
  rw [← List.append_assoc, List.drop_append_of_le_length (by omega), List.drop_of_length_le (by omega), List.nil_append, List.take_of_length_le (Nat.le_refl _)]
theorem pt_one (a b c : Nat) : ∀ v ∈ cw 4 a ++ (cw 4 b ++ cw 4 c), v.oneCell' = true := by
  intro v hv
  simp only [List.mem_append] at hv
  rcases hv with h | h | h <;> exact cw_one _ _ v h
theorem built_pt (a b c : Nat) : Try.prog.built 72 [(0, i4 a), (1, i4 b), (2, i4 c)] = some (cw 4 a ++ (cw 4 b ++ cw 4 c)).toArray := by kernel_rfl
theorem built_pt2 (a b : Nat) : Try.prog.built 72 [(0, i4 a), (1, i4 b)] = some (cw 4 a ++ (cw 4 b ++ cw 4 0)).toArray := by kernel_rfl
attribute [local irreducible] limbs lw mix cw cSub cAdd cMul beN laid be32 montT mstep elN mdL numB
set_option maxHeartbeats 16000000 in
set_option maxRecDepth 1000000 in
theorem none_any (m : Md) (hok : m.Ok) (x y z : Nat) (b : Bool) (hb : (z % m.M == 0) = b) (w : World) :
    Calls Try.prog 92 #[ptV m x y z] w fun e w' => e = .returned (.bool b) ∧ Fr Nob w w' := by
  have HOK := Lib.hid hok
  have HB := Lib.hid hb
  clear hok hb
  unfold ptV ptL
  have st0 := St.start Nob w
  go_enter Try.func92, Try.ntmps92
  go_wp2_with (with_reducible refine wl_stop (o := ⟨some 1, _, _, _, _, _⟩) ?_)
  refine wl_boxS st0 rfl rfl rfl (cw 4 (elN m x) ++ (cw 4 (elN m y) ++ cw 4 (elN m z))) rfl ?_
  intro g1 w1 st1
  clear st0
  go_wp2_with (with_reducible refine wl_stop (o := ⟨some 4, _, _, _, _, _⟩) ?_)
  refine wl_loadA rfl rfl Try.underlying70 rfl (st1.at 0 rfl) (cw 4 (elN m z)) (pt_z _ _ _) (by first | (rw [cw_len]; kernel_rfl) | (simp only [List.length_append, cw_len]; kernel_rfl)) ?_
  go_wp2_with fail
  refine (EZero_any m HOK.out z b HB.out _).mono ?_
  rintro e' w2 ⟨rfl, hf2⟩
  have st2 := st1.keep hf2
  clear st1 hf2
  have hfr := st2.fr
  clear st2
  go_wp2_with fail
  go_ret
  exact ⟨rfl, hfr⟩

set_option maxHeartbeats 16000000 in
set_option maxRecDepth 1000000 in
theorem opposite_any (m : Md) (gc gp bx by_ : Nat) (w : World) (hok : m.Ok) (hcv : Has w gc (crvL m gp bx by_) 93) (hpm : Has w gp (mdL m) 134) (x y z : Nat) :
    Calls Try.prog 47 #[.pointer (some ⟨gc, 0, none⟩), ptV m x y z] w fun e w' => e = .returned (ptV m x (m.M - y % m.M) z) ∧ Fr Nob w w' := by
  have HOK := Lib.hid hok
  have HCV := Lib.hid hcv
  have HPM := Lib.hid hpm
  clear hok hcv hpm
  unfold ptV ptL
  have st0 := St.start Nob w
  go_enter Try.func47, Try.ntmps47
  go_wp2_with (with_reducible refine wl_stop (o := ⟨some 3, _, _, _, _, _⟩) ?_)
  refine wl_boxS st0 rfl rfl rfl (cw 4 (elN m x) ++ (cw 4 (elN m y) ++ cw 4 (elN m z))) rfl ?_
  intro g3 w1 st1
  clear st0
  go_wp2_with (with_reducible refine wl_stop (o := ⟨some 4, _, _, _, _, _⟩) ?_)
  refine wl_allocS st1 rfl rfl (z := .agg #[.int .u64 0, .int .u64 0, .int .u64 0, .int .u64 0, .int .u64 0, .int .u64 0, .int .u64 0, .int .u64 0, .int .u64 0, .int .u64 0, .int .u64 0, .int .u64 0]) (by kernel_rfl) (cw 12 0) (by rw [cw_zero]; rfl) ?_
  intro g4 w2 st2
  clear st1
  go_wp2_with fail
  refine wp_region_noPanic ?_
  refine wp_region_plan (fun wx => St Nob w wx [(g3, cw 4 (elN m x) ++ (cw 4 (elN m y) ++ cw 4 (elN m z)), 72), (g4, cw 12 0, 72)]) 12 (.w 0 (.t 1 (.w 2 (.w 3 (.w 4 (.t 5 (.w 6 (.t 7 (.w 9 (.t 10 (.r 8 (.w 11 (.m 12 .nil))))))))))))) (by kernel_rfl) (by kernel_rfl) st2.drew (fun _ _ _ _ _ h => h) ?_
  have hd2 := st2.drew
  clear st2
  refine plan_w (v := ?_) rfl rfl (fun wx => ?_) ?_
  rotate_left 1
  · (go_simp; with_reducible rfl)
  try simp only [Act.put, List.setIfInBounds_toArray, List.set_cons_zero, List.set_cons_succ]
  refine plan_arr rfl rfl rfl rfl (cw 4 (elN m x)) (fun wx hS => St.rangeL hS 0 rfl 0 _ (pt_x _ _ _)) Try.underlying70 rfl (by first | (rw [cw_len]; kernel_rfl) | (simp only [List.length_append, cw_len]; kernel_rfl)) ?_
  try simp only [Act.put, List.setIfInBounds_toArray, List.set_cons_zero, List.set_cons_succ]
  refine plan_w (v := ?_) rfl rfl (fun wx => ?_) ?_
  rotate_left 1
  · (go_simp; with_reducible rfl)
  try simp only [Act.put, List.setIfInBounds_toArray, List.set_cons_zero, List.set_cons_succ]
  refine plan_w (v := ?_) rfl rfl (fun wx => ?_) ?_
  rotate_left 1
  · (go_simp; with_reducible rfl)
  try simp only [Act.put, List.setIfInBounds_toArray, List.set_cons_zero, List.set_cons_succ]
  refine plan_w (v := ?_) rfl rfl (fun wx => ?_) ?_
  rotate_left 1
  · (go_simp; with_reducible rfl)
  try simp only [Act.put, List.setIfInBounds_toArray, List.set_cons_zero, List.set_cons_succ]
  refine plan_t (v := ?_) rfl rfl (fun wx hS => ?_) ?_
  rotate_left 1
  · (have hc := (HCV.out.keep (St.fr hS) id).cell (i := 0) rfl; clear hS; go_simp; with_reducible rfl)
  try simp only [Act.put, List.setIfInBounds_toArray, List.set_cons_zero, List.set_cons_succ]
  refine plan_w (v := ?_) rfl rfl (fun wx => ?_) ?_
  rotate_left 1
  · (go_simp; with_reducible rfl)
  try simp only [Act.put, List.setIfInBounds_toArray, List.set_cons_zero, List.set_cons_succ]
  refine plan_arr rfl rfl rfl rfl (cw 4 (elN m y)) (fun wx hS => St.rangeL hS 0 rfl 4 _ (pt_y _ _ _)) Try.underlying70 rfl (by first | (rw [cw_len]; kernel_rfl) | (simp only [List.length_append, cw_len]; kernel_rfl)) ?_
  try simp only [Act.put, List.setIfInBounds_toArray, List.set_cons_zero, List.set_cons_succ]
  refine plan_w (v := ?_) rfl rfl (fun wx => ?_) ?_
  rotate_left 1
  · (go_simp; with_reducible rfl)
  try simp only [Act.put, List.setIfInBounds_toArray, List.set_cons_zero, List.set_cons_succ]
  refine plan_arr rfl rfl rfl rfl (cw 4 (elN m z)) (fun wx hS => St.rangeL hS 0 rfl 8 _ (pt_z _ _ _)) Try.underlying70 rfl (by first | (rw [cw_len]; kernel_rfl) | (simp only [List.length_append, cw_len]; kernel_rfl)) ?_
  try simp only [Act.put, List.setIfInBounds_toArray, List.set_cons_zero, List.set_cons_succ]
  refine plan_r rfl rfl ?_
  go_simp
  refine (MNeg_any m gp _ HOK.out (HPM.out.keep hd2.fr id) y).mono ?_
  rintro e' w3 ⟨rfl, hf3⟩
  have st3 := hd2.keep hf3
  clear hf3
  clear hd2
  refine ⟨st3, ?_⟩
  try simp only [Act.put, List.setIfInBounds_toArray, List.set_cons_zero, List.set_cons_succ]
  refine plan_w rfl rfl (exec_build rfl _ (built_pt _ _ _)) ?_
  try simp only [Act.put, List.setIfInBounds_toArray, List.set_cons_zero, List.set_cons_succ]
  refine plan_m rfl rfl ?_
  refine wp_storeS st3 1 rfl rfl rfl rfl (by first | (simp only [cw_len]; done) | (simp only [List.length_append, cw_len]; done)) (by first | (rw [cw_len]; kernel_rfl) | (simp only [List.length_append, cw_len]; kernel_rfl)) (pt_one _ _ _) ?_
  intro w4 st4
  clear st3
  try simp only [Act.put]
  refine plan_end ?_
  refine NoPanic.normal ?_
  have hr := st4.at 1 rfl
  have hfr := st4.fr
  clear st4
  go_wp2_with fail
  exact bodyPost_ret (results_st rfl rfl hr Try.underlying72 rfl (by first | (rw [cw_len]; kernel_rfl) | (simp only [List.length_append, cw_len]; kernel_rfl))) rfl ⟨rfl, hfr⟩
end Go.Proofs.Ytdbgddngapminaa
