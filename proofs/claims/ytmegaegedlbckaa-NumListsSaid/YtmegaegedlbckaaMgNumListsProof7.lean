/- (*mont.Modulus).Mul: Montgomery's product; Plain: elements: a number times 2^256 modulo M; A region that draws its order, by a plan: operations that only yield values are taken ahead (w: in whatever world; t: under a condition S on the world, that holds till operation m is carried out), the others are carried out when nothing else can come (r, m), or in either order (b). -/
import Derived.Test.YtmegaegedlbckaaMgNumListsProof6
namespace Go.Proofs.Ytmegaegedlbckaa
open Go.RowKit Go.Mv Mvp
attribute [local irreducible] limbs lw mix cw cSub cAdd cMul foldC valFrom beN laid be32 powm montT mstep
set_option maxHeartbeats 8000000 in
set_option maxRecDepth 100000 in
theorem MMul_any (m : Md) (gp a b : Nat) (w : World) (hok : m.Ok) (hpm : Has w gp (mdL m) 68) (ha : a < B64 ^ 4) (hb : b < m.M) :
    Calls Try.prog 45 #[.pointer (some ⟨gp, 0, none⟩), i4 a, i4 b] w fun e w' => e = .returned (i4 (a * b * m.Ri % m.M)) ∧ Fr Nob w w' := by
  have HOK := Lib.hid hok
  have HPM := Lib.hid hpm
  have HA := Lib.hid ha
  have HB := Lib.hid hb
  clear hok hpm ha hb
  have st0 := St.start Nob w
  go_enter Try.func45, Try.ntmps45
  go_wp2_with (with_reducible refine wl_stop (o := ⟨some 4, _, _, _, _, _⟩) ?_)
  refine wl_boxS st0 rfl rfl rfl (cw 4 a) rfl ?_
  intro g4 w1 st1
  clear st0
  go_wp2_with (with_reducible refine wl_stop (o := ⟨some 5, _, _, _, _, _⟩) ?_)
  refine wl_boxS st1 rfl rfl rfl (cw 4 b) rfl ?_
  intro g5 w2 st2
  clear st1
  go_wp2_with (with_reducible refine wl_stop (o := ⟨some 6, _, _, _, _, _⟩) ?_)
  refine wl_allocS st2 rfl rfl (z := .agg #[.int .u64 0, .int .u64 0, .int .u64 0, .int .u64 0]) (by kernel_rfl) (cw 4 0) (by rw [cw_zero]; rfl) ?_
  intro g6 w3 st3
  clear st2
  go_wp2_with (with_reducible refine wl_stop (o := ⟨some 7, _, _, _, _, _⟩) ?_)
  refine wl_allocS st3 rfl rfl (z := .agg #[.int .u64 0, .int .u64 0, .int .u64 0, .int .u64 0, .int .u64 0, .int .u64 0]) (by kernel_rfl) (cw 6 0) (by rw [cw_zero]; rfl) ?_
  intro g7 w4 st4
  clear st3
  go_wp2_with (with_reducible refine wl_stop (o := ⟨some 14, _, _, _, _, _⟩) ?_)
  refine wl_loadS st4 0 rfl rfl rfl Try.underlying81 rfl (by first | (rw [cw_len]; kernel_rfl) | (simp only [List.length_append, cw_len]; kernel_rfl)) ?_
  go_wp2
  go_loopw [15] (fun i wr => ∃ k : Nat, k ≤ 4 ∧ i = .int .i64 (k : Int) ∧ St Nob w wr [(g4, cw 4 a, 81), (g5, cw 4 b, 81), (g6, cw 4 0, 81), (g7, cw 6 (montT m.M m.neg b a k), 102)]) (fun i _ => 4 - (intOf i).toNat)
  case atStart => exact ⟨0, by omega, rfl, by rw [montT_zero]; exact st4⟩
  case round =>
    obtain ⟨k, hk, rfl, st⟩ := hrel
    clear st4
    by_cases hlt : k < 4
    · have hltI : (k : Int) < 4 := by omega
      have e0 := fun wx => run_index_cw (P := Try.prog) Try.underlying81 Try.underlying36 size_u64 a k hlt .i64 wx
      have hTl := montT_lt m.M m.neg b a k (by have := HOK.out.one; omega)
      obtain ⟨b1, b2, b3, b4⟩ := mont_bounds (montT m.M m.neg b a k) b m.M (lw a k) (montT m.M m.neg b a k + lw a k * b) ((montT m.M m.neg b a k + lw a k * b) % 18446744073709551616 * m.neg % 18446744073709551616) HB.out HOK.out.lt hTl (lw_lt a k) rfl (Nat.mod_lt _ (by decide))
      have hsucc : montT m.M m.neg b a (k + 1) = (montT m.M m.neg b a k + lw a k * b + ((montT m.M m.neg b a k + lw a k * b) % 18446744073709551616 * m.neg % 18446744073709551616) * m.M) / 18446744073709551616 := montT_succ m.M m.neg b a k
      generalize hT : montT m.M m.neg b a k = T at *
      generalize hT' : montT m.M m.neg b a (k + 1) = T' at *
      have hx := lw_lt a k
      obtain ⟨l1, l2, l3⟩ := line_top T (lw a k) b (Nat.lt_trans HB.out HOK.out.lt) b2 (Nat.lt_trans b1 (by decide))
      have z5 : lw T 5 = 0 := lw_top T 5 5 b1 (Nat.le_refl _)
      rw [z5, Nat.zero_add] at l2
      have hline := fun wx (h : Has wx g7 (cw 6 T) 102) => line_any g7 T (lw a k) b (lw T 4) 102 wx h hx (lw_lt T 4)
      rw [l1, l2] at hline
      generalize hxx : lw a k = x at *
      generalize hV : T + x * b = V at *
      have hw0 := word0 V
      generalize hmm : V % 18446744073709551616 * m.neg % 18446744073709551616 = mm at *
      have hm64 : mm < 18446744073709551616 := by rw [← hmm]; exact Nat.mod_lt _ (by decide)
      have hmul : IntKind.u64.wrap ((lw V 0 : Int) * (m.neg : Int)) = (mm : Int) := by
        rw [IntKind.wrap_u64, ← hmm, hw0, ← Int.natCast_mul]; rfl
      have hlt2 := fun wx (h : Has wx g7 (cw 6 V) 102) => lineTop_any g7 V mm m.M wx h hm64 HOK.out.lt b4 b3
      generalize hV2 : V + mm * m.M = V2 at *
      have hshift := shift6 V2 b4
      rw [← hsucc] at hshift
      have HLINE := Lib.hid hline
      have HLT2 := Lib.hid hlt2
      have HSHIFT := Lib.hid hshift
      have HT := Lib.hid hT
      have HT' := Lib.hid hT'
      clear hTl b1 b2 b3 b4 hsucc l1 l2 l3 z5 hline hV hw0 hmm hm64 hlt2 hV2 hshift hT hT' hx hxx
      have ct := (st.at 3 rfl).cell (cw_get 6 T 4 (by decide))
      go_wp2_with (with_reducible refine wl_stop (o := ⟨some 20, _, _, _, _, _⟩) ?_)
      refine wl_loadS st 1 rfl rfl rfl Try.underlying81 rfl (by first | (rw [cw_len]; kernel_rfl) | (simp only [List.length_append, cw_len]; kernel_rfl)) ?_
      go_wp2_with fail
      refine (HLINE.out _ (st.at 3 rfl)).mono ?_
      rintro e' w5 ⟨rfl, hg5, hf5⟩
      have st5 : St Nob w w5 [(g4, cw 4 a, 81), (g5, cw 4 b, 81), (g6, cw 4 0, 81), (g7, cw 6 (mix V T 4), 102)] := st.put 3 rfl hf5 hg5
      clear st hf5 hg5
      clear ct
      obtain ⟨v4, c4, f4⟩ := (st5.at 3 rfl).ready (i := 4) (by rw [cw_len]; decide)
      obtain ⟨v5, c5, f5⟩ := (st5.at 3 rfl).ready (i := 5) (by rw [cw_len]; decide)
      go_wp2_with fail
      have stA := (st5.set 3 rfl 4 (.int .u64 (lw V 4 : Nat))).set 3 rfl 5 (.int .u64 (lw V 5 : Nat))
      have hcw : ((cw 6 (mix V T 4)).set 4 (.int .u64 (lw V 4 : Nat))).set 5 (.int .u64 (lw V 5 : Nat)) = cw 6 V := by rw [cw_set 6 V T 4 (by decide), cw_set 6 V T 5 (by decide), mix_full]
      rw [hcw] at stA
      clear hcw c4 c5 f4 f5 v4 v5 st5
      generalize (World.setCell (World.setCell w5 ⟨g7, 4, none⟩ (.int .u64 (lw V 4 : Nat))) ⟨g7, 5, none⟩ (.int .u64 (lw V 5 : Nat))) = wA at *
      have stA : St Nob w wA [(g4, cw 4 a, 81), (g5, cw 4 b, 81), (g6, cw 4 0, 81), (g7, cw 6 V, 102)] := stA
      have cv := (stA.at 3 rfl).cell (cw_get 6 V 0 (by decide))
      have cn := (HPM.out.keep stA.fr id).cell (md_neg m)
      go_quiet (fail)
      have stB := stA.drewN nq
      clear stA cv cn
      go_wp2_with (with_reducible refine wl_stop (o := ⟨some 40, _, _, _, _, _⟩) ?_)
      refine wl_loadA rfl rfl Try.underlying66 rfl (HPM.out.keep stB.fr id) (cw 4 m.M) (md_M m) (by first | (rw [cw_len]; kernel_rfl) | (simp only [List.length_append, cw_len]; kernel_rfl)) ?_
      go_wp2_with fail
      refine (HLT2.out _ (stB.at 3 rfl)).mono ?_
      rintro e' w7 ⟨rfl, hg7, hf7⟩
      have st7 : St Nob w w7 [(g4, cw 4 a, 81), (g5, cw 4 b, 81), (g6, cw 4 0, 81), (g7, cw 6 (mix V2 V 4), 102)] := stB.put 3 rfl hf7 hg7
      clear stB hf7 hg7
      obtain ⟨v4, c4, f4⟩ := (st7.at 3 rfl).ready (i := 4) (by rw [cw_len]; decide)
      obtain ⟨v5, c5, f5⟩ := (st7.at 3 rfl).ready (i := 5) (by rw [cw_len]; decide)
      go_wp2_with fail
      have stC := (st7.set 3 rfl 4 (.int .u64 (lw V2 4 : Nat))).set 3 rfl 5 (.int .u64 (lw V2 5 : Nat))
      have hcw : ((cw 6 (mix V2 V 4)).set 4 (.int .u64 (lw V2 4 : Nat))).set 5 (.int .u64 (lw V2 5 : Nat)) = cw 6 V2 := by rw [cw_set 6 V2 V 4 (by decide), cw_set 6 V2 V 5 (by decide), mix_full]
      rw [hcw] at stC
      clear hcw c4 c5 f4 f5 v4 v5 st7
      generalize (World.setCell (World.setCell w7 ⟨g7, 4, none⟩ (.int .u64 (lw V2 4 : Nat))) ⟨g7, 5, none⟩ (.int .u64 (lw V2 5 : Nat))) = wC at *
      have stC : St Nob w wC [(g4, cw 4 a, 81), (g5, cw 4 b, 81), (g6, cw 4 0, 81), (g7, cw 6 V2, 102)] := stC
      have k1 := fun wx => run_sliceA_hi (P := Try.prog) wx Try.underlying102 size_u64 g7 0 .i64 5 (by decide)
      have k2 := fun wx => run_sliceA_lo (P := Try.prog) wx Try.underlying102 size_u64 g7 0 .i64 1 (by decide)
      refine wp_region_noPanic ?_
      refine wp_region_seq (fun wx => St Nob w wx [(g4, cw 4 a, 81), (g5, cw 4 b, 81), (g6, cw 4 0, 81), (g7, cw 6 V2, 102)]) 2 [(0, true), (1, true)] (by kernel_rfl) (by kernel_rfl) stC.drew (fun _ _ _ _ _ h => h) ?_
      have stD := stC.drew
      clear stC
      refine seq_pure (v := ?_) rfl rfl (fun wx hS => ?_) ?_
      rotate_left 1
      · (clear hS; go_simp; with_reducible rfl)
      try simp only [Act.put, List.setIfInBounds_toArray, List.set_cons_zero, List.set_cons_succ]
      refine seq_pure (v := ?_) rfl rfl (fun wx hS => ?_) ?_
      rotate_left 1
      · (clear hS; go_simp; with_reducible rfl)
      try simp only [Act.put, List.setIfInBounds_toArray, List.set_cons_zero, List.set_cons_succ]
      refine seq_end ?_
      try simp only [List.drop_succ_cons, List.drop_zero]
      refine wl_copy rfl rfl Try.underlying106 size_u64 rfl rfl (stD.at 3 rfl) (Rd.ofHas (stD.at 3 rfl) 1 (n := 5) (by rw [cw_len]; decide)) (fun v hv => cw_one _ _ v (List.mem_of_mem_drop (List.mem_of_mem_take hv))) (by rw [cw_len]; decide) ?_
      intro wE hgE hfE hzE
      clear hzE
      have stE := stD.put 3 rfl hfE hgE
      clear stD hgE hfE
      obtain ⟨v5, c5, f5⟩ := (stE.at 3 rfl).ready (i := 5) (by rw [splice_length _ _ _ (by simp [cw_len])]; rw [cw_len]; decide)
      go_wp2_with fail
      refine NoPanic.normal ?_
      clear k1 k2
      go_wp2_with fail
      have stF := stE.set 3 rfl 5 (.int .u64 0)
      clear stE c5 f5
      go_roundw
      case rel =>
        refine ⟨k + 1, by omega, by go_num, ?_⟩
        rw [HT'.out]
        have hh := stF
        have h6 := HSHIFT.out
        simp only [List.set_cons_succ, List.set_cons_zero] at hh
        rw [show min 5 5 = 5 from rfl, List.take_take, show min 5 5 = 5 from rfl, h6] at hh
        exact hh
      case measure => simp [intOf]; omega
    · have hge : ¬ ((k : Int) < 4) := by omega
      have hk4 : k = 4 := by omega
      subst hk4
      have k4 : ∀ wx, (Instr.arrayAt 66 (.slice (some ⟨g7, 0, none⟩) 4 6)).run Try.prog wx = .ok (.pointer (some ⟨g7, 0, none⟩)) wx := fun wx => by simp [Instr.arrayAt, run_underlying Try.underlying66]
      have k3 := fun wx => run_sliceA_hi (P := Try.prog) wx Try.underlying102 size_u64 g7 0 .i64 4 (by decide)
      have hTl := montT_lt m.M m.neg b a 4 (by have := HOK.out.one; omega)
      have hval := mont_value m.M m.neg m.Ri a b (by have := HOK.out.one; omega) HA.out HOK.out.neg (by rw [HOK.out.inv, Nat.mod_eq_of_lt HOK.out.one])
      generalize hT : montT m.M m.neg b a 4 = T at *
      have HT := Lib.hid hT; clear hT
      have HTL := Lib.hid hTl; clear hTl
      have HVAL := Lib.hid hval; clear hval
      go_wp2_with (with_reducible refine wl_stop (o := ⟨some 53, _, _, _, _, _⟩) ?_)
      refine wl_loadA rfl rfl Try.underlying66 rfl (st.at 3 rfl) (cw 4 T) (cw6_low T) (by rw [cw_len]; exact size_mi) ?_
      clear k3 k4
      go_wp2_with (with_reducible refine wl_stop (o := ⟨some 11, _, _, _, _, _⟩) ?_)
      refine wl_allocS st rfl rfl (z := .agg #[.int .u64 0, .int .u64 0, .int .u64 0, .int .u64 0]) (by kernel_rfl) (cw 4 0) (by rw [cw_zero]; rfl) ?_
      intro g11 w5 st5
      clear st
      go_wp2_with (with_reducible refine wl_stop (o := ⟨none, _, _, _, _, _⟩) ?_)
      refine wl_storeS st5 4 rfl rfl rfl rfl rfl (by first | (simp only [cw_len]; done) | (simp only [List.length_append, cw_len]; done)) (by first | (rw [cw_len]; kernel_rfl) | (simp only [List.length_append, cw_len]; kernel_rfl)) (cw_one _ _) ?_
      intro w6 st6
      clear st5
      go_wp2_with fail
      refine wp_region_noPanic ?_
      refine wp_region_tree (fun wx => St Nob w wx [(g4, cw 4 a, 81), (g5, cw 4 b, 81), (g6, cw 4 0, 81), (g7, cw 6 T, 102), (g11, cw 4 T, 66)]) 11 (.t 0 (.t 1 (.t 2 (.t 3 (.t 4 (.b 5 9 (.t 6 (.t 7 (.t 8 (.r 9 (.r 10 .nil))))) (.r 5 (.t 6 (.t 7 (.t 8 (.r 10 .nil))))))))))) (by kernel_rfl) (by kernel_rfl) st6.drew (fun _ _ _ _ _ h => h) ?_
      have hd6 := st6.drew
      clear st6
      refine tree_arr rfl rfl rfl rfl (cw 4 T) (fun wx hS => St.rangeL hS 4 rfl 0 _ (by rw [List.drop_zero, List.take_of_length_le (Nat.le_refl _)])) Try.underlying66 rfl (by first | (rw [cw_len]; kernel_rfl) | (simp only [List.length_append, cw_len]; kernel_rfl)) ?_
      try simp only [Act.put, List.setIfInBounds_toArray, List.set_cons_zero, List.set_cons_succ]
      refine tree_pure (v := ?_) rfl rfl (fun wx hS => ?_) ?_
      rotate_left 1
      · (clear hS; go_simp; with_reducible rfl)
      try simp only [Act.put, List.setIfInBounds_toArray, List.set_cons_zero, List.set_cons_succ]
      refine tree_pure (v := ?_) rfl rfl (fun wx hS => ?_) ?_
      rotate_left 1
      · (clear hS; go_simp; with_reducible rfl)
      try simp only [Act.put, List.setIfInBounds_toArray, List.set_cons_zero, List.set_cons_succ]
      refine tree_pure (v := ?_) rfl rfl (fun wx hS => ?_) ?_
      rotate_left 1
      · (clear hS; go_simp; with_reducible rfl)
      try simp only [Act.put, List.setIfInBounds_toArray, List.set_cons_zero, List.set_cons_succ]
      refine tree_arr rfl rfl rfl rfl (cw 4 m.M) (fun wx hS => (HPM.out.keep (St.fr hS) id).range 0 _ (md_M m)) Try.underlying66 rfl (by first | (rw [cw_len]; kernel_rfl) | (simp only [List.length_append, cw_len]; kernel_rfl)) ?_
      try simp only [Act.put, List.setIfInBounds_toArray, List.set_cons_zero, List.set_cons_succ]
      refine tree_both (C := fun g12 wz => St Nob w wz [(g4, cw 4 a, 81), (g5, cw 4 b, 81), (g6, cw 4 0, 81), (g7, cw 6 T, 102), (g11, cw 4 T, 66), (g12, cw 4 (T + B64 ^ 4 - m.M), 66)]) (F := ?_) rfl rfl rfl rfl (fun key => ?_) (fun key => ?_) ?_
      rotate_left 1
      · skip
        go_simp
        refine (minus_any T m.M _ HOK.out.lt).mono ?_
        rintro e' w7 ⟨rfl, hf7⟩
        have st7 := hd6.keep hf7
        clear hf7
        refine ⟨st7, ?_⟩
        try simp only [Act.put, List.setIfInBounds_toArray, List.set_cons_zero, List.set_cons_succ]
        refine tree_pure (v := ?_) rfl rfl (fun wx hS => ?_) ?_
        rotate_left 1
        · (clear hS; go_simp; with_reducible rfl)
        try simp only [Act.put, List.setIfInBounds_toArray, List.set_cons_zero, List.set_cons_succ]
        refine tree_pure (v := ?_) rfl rfl (fun wx hS => ?_) ?_
        rotate_left 1
        · (clear hS; go_simp; with_reducible rfl)
        try simp only [Act.put, List.setIfInBounds_toArray, List.set_cons_zero, List.set_cons_succ]
        refine tree_pure (v := ?_) rfl rfl (fun wx hS => ?_) ?_
        rotate_left 1
        · (clear hS; go_simp; with_reducible rfl)
        try simp only [Act.put, List.setIfInBounds_toArray, List.set_cons_zero, List.set_cons_succ]
        refine tree_run rfl rfl ?_
        refine wp_allocS st7 rfl (z := .agg #[.int .u64 0, .int .u64 0, .int .u64 0, .int .u64 0]) (by kernel_rfl) (cw 4 0) (by rw [cw_zero]; rfl) ?_
        intro g12 w8 st8
        refine ⟨St.less st8 (by simp), ?_⟩
        try simp only [Act.put, List.setIfInBounds_toArray, List.set_cons_zero, List.set_cons_succ]
        refine tree_run rfl rfl ?_
        refine wp_storeS st8 5 rfl rfl rfl rfl (by first | (simp only [cw_len]; done) | (simp only [List.length_append, cw_len]; done)) (by first | (rw [cw_len]; kernel_rfl) | (simp only [List.length_append, cw_len]; kernel_rfl)) (cw_one _ _) ?_
        intro w9 st9
        refine ⟨St.less st9 (by simp), ?_⟩
        try simp only [Act.put]
        refine tree_end ?_
        try simp only [List.drop_succ_cons, List.drop_zero]
        go_wp2_with fail
        exact key g12 w9 st9
      · skip
        refine wp_allocS hd6 rfl (z := .agg #[.int .u64 0, .int .u64 0, .int .u64 0, .int .u64 0]) (by kernel_rfl) (cw 4 0) (by rw [cw_zero]; rfl) ?_
        intro g12 w10 st10
        refine ⟨St.less st10 (by simp), ?_⟩
        try simp only [Act.put, List.setIfInBounds_toArray, List.set_cons_zero, List.set_cons_succ]
        refine tree_run rfl rfl ?_
        go_simp
        refine (minus_any T m.M _ HOK.out.lt).mono ?_
        rintro e' w11 ⟨rfl, hf11⟩
        have st11 := st10.keep hf11
        clear hf11
        refine ⟨St.less st11 (by simp), ?_⟩
        try simp only [Act.put, List.setIfInBounds_toArray, List.set_cons_zero, List.set_cons_succ]
        refine tree_pure (v := ?_) rfl rfl (fun wx hS => ?_) ?_
        rotate_left 1
        · (clear hS; go_simp; with_reducible rfl)
        try simp only [Act.put, List.setIfInBounds_toArray, List.set_cons_zero, List.set_cons_succ]
        refine tree_pure (v := ?_) rfl rfl (fun wx hS => ?_) ?_
        rotate_left 1
        · (clear hS; go_simp; with_reducible rfl)
        try simp only [Act.put, List.setIfInBounds_toArray, List.set_cons_zero, List.set_cons_succ]
        refine tree_pure (v := ?_) rfl rfl (fun wx hS => ?_) ?_
        rotate_left 1
        · (clear hS; go_simp; with_reducible rfl)
        try simp only [Act.put, List.setIfInBounds_toArray, List.set_cons_zero, List.set_cons_succ]
        refine tree_run rfl rfl ?_
        refine wp_storeS st11 5 rfl rfl rfl rfl (by first | (simp only [cw_len]; done) | (simp only [List.length_append, cw_len]; done)) (by first | (rw [cw_len]; kernel_rfl) | (simp only [List.length_append, cw_len]; kernel_rfl)) (cw_one _ _) ?_
        intro w12 st12
        refine ⟨St.less st12 (by simp), ?_⟩
        try simp only [Act.put]
        refine tree_end ?_
        try simp only [List.drop_succ_cons, List.drop_zero]
        go_wp2_with fail
        exact key g12 w12 st12
      intro g12 w13 st13
      have st13 : St Nob w w13 [(g4, cw 4 a, 81), (g5, cw 4 b, 81), (g6, cw 4 0, 81), (g7, cw 6 T, 102), (g11, cw 4 T, 66), (g12, cw 4 (T + B64 ^ 4 - m.M), 66)] := st13
      clear hd6
      refine NoPanic.normal ?_
      have c4 := (st13.at 3 rfl).cell (cw_get 6 T 4 (by decide))
      have hfin := mont_final T m.M HOK.out.lt (by have := HTL.out; have := HB.out; omega)
      by_cases hlt2 : T < m.M
      · obtain ⟨f1, f2, f3⟩ := hfin.1 hlt2
        rw [f1] at c4
        rw [f2]
        have HF := Lib.hid f3
        clear hfin f1 f2 f3 hlt2
        go_wp2_with (with_reducible refine wl_stop (o := ⟨some 70, _, _, _, _, _⟩) ?_)
        refine wl_loadS st13 4 rfl rfl rfl Try.underlying66 rfl (by first | (rw [cw_len]; kernel_rfl) | (simp only [List.length_append, cw_len]; kernel_rfl)) ?_
        go_wp2_with (with_reducible refine wl_stop (o := ⟨none, _, _, _, _, _⟩) ?_)
        refine wl_storeS st13 2 rfl rfl rfl rfl rfl (by first | (simp only [cw_len]; done) | (simp only [List.length_append, cw_len]; done)) (by first | (rw [cw_len]; kernel_rfl) | (simp only [List.length_append, cw_len]; kernel_rfl)) (cw_one _ _) ?_
        intro w14 st14
        clear st13
        have hr := st14.at 2 rfl
        have hfr := st14.fr
        clear st14
        go_wp2_with fail
        exact bodyPost_ret (results_arr rfl rfl hr Try.underlying81 (by first | (rw [cw_len]; kernel_rfl) | (simp only [List.length_append, cw_len]; kernel_rfl))) rfl ⟨by rw [← HVAL.out]; unfold i4; rw [HF.out], hfr⟩
      · obtain ⟨f3, f4⟩ := hfin.2 hlt2
        have HF := Lib.hid f3
        by_cases hlt3 : T < B64 ^ 4
        · obtain ⟨f1, f2⟩ := f4 hlt3
          rw [f1] at c4
          rw [f2]
          clear hfin f1 f2 f3 f4 hlt2 hlt3
          go_wp2_with (with_reducible refine wl_stop (o := ⟨some 71, _, _, _, _, _⟩) ?_)
          refine wl_loadS st13 5 rfl rfl rfl Try.underlying66 rfl (by first | (rw [cw_len]; kernel_rfl) | (simp only [List.length_append, cw_len]; kernel_rfl)) ?_
          go_wp2_with (with_reducible refine wl_stop (o := ⟨none, _, _, _, _, _⟩) ?_)
          refine wl_storeS st13 2 rfl rfl rfl rfl rfl (by first | (simp only [cw_len]; done) | (simp only [List.length_append, cw_len]; done)) (by first | (rw [cw_len]; kernel_rfl) | (simp only [List.length_append, cw_len]; kernel_rfl)) (cw_one _ _) ?_
          intro w14 st14
          clear st13
          have hr := st14.at 2 rfl
          have hfr := st14.fr
          clear st14
          go_wp2_with fail
          exact bodyPost_ret (results_arr rfl rfl hr Try.underlying81 (by first | (rw [cw_len]; kernel_rfl) | (simp only [List.length_append, cw_len]; kernel_rfl))) rfl ⟨by rw [← HVAL.out]; unfold i4; rw [HF.out], hfr⟩
        · have f1 := lw4_one T (by have := HTL.out; have := HB.out; have := HOK.out.lt; omega) hlt3
          rw [f1] at c4
          clear hfin f1 f3 f4 hlt2 hlt3
          go_wp2_with (with_reducible refine wl_stop (o := ⟨some 71, _, _, _, _, _⟩) ?_)
          refine wl_loadS st13 5 rfl rfl rfl Try.underlying66 rfl (by first | (rw [cw_len]; kernel_rfl) | (simp only [List.length_append, cw_len]; kernel_rfl)) ?_
          go_wp2_with (with_reducible refine wl_stop (o := ⟨none, _, _, _, _, _⟩) ?_)
          refine wl_storeS st13 2 rfl rfl rfl rfl rfl (by first | (simp only [cw_len]; done) | (simp only [List.length_append, cw_len]; done)) (by first | (rw [cw_len]; kernel_rfl) | (simp only [List.length_append, cw_len]; kernel_rfl)) (cw_one _ _) ?_
          intro w14 st14
          clear st13
          have hr := st14.at 2 rfl
          have hfr := st14.fr
          clear st14
          go_wp2_with fail
          exact bodyPost_ret (results_arr rfl rfl hr Try.underlying81 (by first | (rw [cw_len]; kernel_rfl) | (simp only [List.length_append, cw_len]; kernel_rfl))) rfl ⟨by rw [← HVAL.out]; unfold i4; rw [HF.out], hfr⟩
end Go.Proofs.Ytmegaegedlbckaa

/- Plain: elements: a number times 2^256 modulo M. -/
namespace Mvp
def elN (m : Md) (x : Nat) : Nat := x * B64 ^ 4 % m.M
theorem el_lt (m : Md) (h : m.Ok) (x : Nat) : elN m x < m.M := Nat.mod_lt _ (by have := h.one; omega)
theorem el_lt4 (m : Md) (h : m.Ok) (x : Nat) : elN m x < B64 ^ 4 := Nat.lt_trans (el_lt m h x) h.lt
theorem el_one (m : Md) : B64 ^ 4 % m.M = elN m 1 := by rw [elN, Nat.one_mul]
theorem el_zero (m : Md) : elN m 0 = 0 := by rw [elN, Nat.zero_mul, Nat.zero_mod]
theorem el_mod (m : Md) (x : Nat) : elN m (x % m.M) = elN m x := by rw [elN, elN, Nat.mod_mul_mod]
theorem el_congr (m : Md) {x y : Nat} (h : x % m.M = y % m.M) : elN m x = elN m y := by rw [← el_mod, h, el_mod]
theorem el_Ri (m : Md) (h : m.Ok) (x : Nat) : x * B64 ^ 4 * m.Ri % m.M = x % m.M := by
  rw [Nat.mul_assoc, Nat.mul_mod, h.inv, Nat.mul_one, Nat.mod_mod]
theorem mulmod_help (a b R Ri M : Nat) : (a * R % M) * (b * R % M) * Ri % M = (a * b * R) * R * Ri % M := by
  rw [← Nat.mod_mul_mod (a * R % M * (b * R % M)), ← Nat.mul_mod, Nat.mod_mul_mod, Nat.mul_mul_mul_comm, ← Nat.mul_assoc (a * b)]
theorem tomod_help (n R Ri M : Nat) : n * (R * R % M) * Ri % M = n * R * R * Ri % M := by
  rw [← Nat.mod_mul_mod (n * (R * R % M)), Nat.mul_mod_mod, Nat.mod_mul_mod, ← Nat.mul_assoc]
theorem el_mul (m : Md) (h : m.Ok) (x y : Nat) : elN m x * elN m y * m.Ri % m.M = elN m (x * y) := by
  unfold elN
  rw [mulmod_help, el_Ri m h]
theorem el_to (m : Md) (h : m.Ok) (n : Nat) : n * (B64 ^ 4 * B64 ^ 4 % m.M) * m.Ri % m.M = elN m n := by
  rw [tomod_help, el_Ri m h, elN]
theorem el_from (m : Md) (h : m.Ok) (x : Nat) : elN m x * 1 * m.Ri % m.M = x % m.M := by
  rw [Nat.mul_one, elN, Nat.mod_mul_mod, el_Ri m h]
theorem el_add (m : Md) (x y : Nat) : (elN m x + elN m y) % m.M = elN m (x + y) := by
  rw [elN, elN, elN, ← Nat.add_mod, Nat.add_mul]
theorem el_inj (m : Md) (h : m.Ok) {x y : Nat} (e : elN m x = elN m y) : x % m.M = y % m.M := by
  rw [← el_from m h x, e, el_from m h y]
theorem el_sub (m : Md) (h : m.Ok) (x y : Nat) : (elN m x + m.M - elN m y) % m.M = elN m (x + (m.M - y % m.M)) := by
  have hM : 0 < m.M := by have := h.one; omega
  have hy := el_lt m h y
  have h1 : (elN m x + m.M - elN m y) + elN m y = elN m x + m.M := by omega
  have hym := Nat.mod_lt y hM
  -- both give elN x when elN y is added
  have e1 : ((elN m x + m.M - elN m y) % m.M + elN m y) % m.M = elN m x % m.M := by
    rw [Nat.mod_add_mod, h1, Nat.add_mod_right]
  have e2 : (elN m (x + (m.M - y % m.M)) + elN m y) % m.M = elN m x % m.M := by
    rw [el_add, Nat.mod_eq_of_lt (el_lt m h x)]
    refine el_congr m ?_
    rw [Nat.add_assoc, Nat.add_mod x, Nat.add_comm _ y, ← Nat.mod_add_mod y, show y % m.M + (m.M - y % m.M) = m.M by omega, Nat.mod_self, Nat.add_zero, Nat.mod_mod]
  have a1 := Nat.mod_lt (elN m x + m.M - elN m y) hM
  have a2 := el_lt m h (x + (m.M - y % m.M))
  generalize (elN m x + m.M - elN m y) % m.M = p at *
  generalize elN m (x + (m.M - y % m.M)) = q at *
  generalize elN m y = r at *
  have e3 : (p + r) % m.M = (q + r) % m.M := by rw [e1, e2]
  have l1 := Nat.div_add_mod (p + r) m.M
  have l2 := Nat.div_add_mod (q + r) m.M
  rcases Nat.lt_or_ge (p + r) m.M with h1 | h1 <;> rcases Nat.lt_or_ge (q + r) m.M with h2 | h2
  · rw [Nat.mod_eq_of_lt h1, Nat.mod_eq_of_lt h2] at e3; omega
  · rw [Nat.mod_eq_of_lt h1, Nat.mod_eq_sub_mod h2, Nat.mod_eq_of_lt (by omega)] at e3; omega
  · rw [Nat.mod_eq_of_lt h2, Nat.mod_eq_sub_mod h1, Nat.mod_eq_of_lt (by omega)] at e3; omega
  · rw [Nat.mod_eq_sub_mod h1, Nat.mod_eq_sub_mod h2, Nat.mod_eq_of_lt (by omega), Nat.mod_eq_of_lt (by omega)] at e3; omega
theorem add_carry (a b : Nat) (ha : a < B64 ^ 4) (hb : b < B64 ^ 4) : cAdd a b 4 = lw (a + b) 4 := by
  rw [cAdd_all a b 4 ha hb]
  unfold lw
  have h0 := b64_pos 4
  have : (a + b) / B64 ^ 4 < 2 := Nat.div_lt_of_lt_mul (by omega)
  exact (Nat.mod_eq_of_lt (Nat.lt_trans this (by decide))).symm
theorem sub_words_lt (a b M : Nat) (ha : a < M) (hb : b < M) (hM : M < B64 ^ 4) (h : a < b) : Go.Mv.cw 4 ((a + M - b) % M) = Go.Mv.cw 4 (a + B64 ^ 4 - b + M) := by
  rw [Nat.mod_eq_of_lt (by omega), ← Go.Mv.cw_mod 4 (a + B64 ^ 4 - b + M)]
  rw [show a + B64 ^ 4 - b + M = (a + M - b) + B64 ^ 4 by omega, Nat.add_mod_right, Go.Mv.cw_mod]
theorem sub_words_ge (a b M : Nat) (ha : a < M) (hb : b < M) (h : ¬ a < b) : Go.Mv.cw 4 ((a + M - b) % M) = Go.Mv.cw 4 (a + B64 ^ 4 - b) := by
  have _h := hb
  rw [show a + M - b = (a - b) + M by omega, Nat.add_mod_right, Nat.mod_eq_of_lt (by omega), ← Go.Mv.cw_mod 4 (a + B64 ^ 4 - b), show a + B64 ^ 4 - b = (a - b) + B64 ^ 4 by omega, Nat.add_mod_right, Go.Mv.cw_mod]
end Mvp

/- A region that draws its order, by a plan: operations that only yield values are taken ahead (w: in whatever world; t: under a condition S on the world, that holds till operation m is carried out), the others are carried out when nothing else can come (r, m), or in either order (b). -/
namespace Go.Mv
open Go.RowKit
section
variable {P : Program} {ops : Array Oper} {md : Region.Mode} {Q : Exit → Act → World → Prop} {S : World → Prop} {m : Nat}

def wpP (P : Program) (md : Region.Mode) (ops : Array Oper) (Q : Exit → Act → World → Prop) (S : World → Prop) (m : Nat) : Nat → Array Bool → Act → World → Prop
  | 0, listed, a, w => Region.ready md ops listed = [] ∧ Q .normal a w
  | f + 1, listed, a, w => (Region.ready md ops listed = [] → Q .normal a w) ∧
    ∀ i ∈ Region.ready md ops listed, wpOp P ops Q i (fun a' w' => (listed.getD m true = false → i ≠ m → S w') ∧ wpP P md ops Q S m f (listed.setIfInBounds i true) a' w') a w

theorem wpAny_of_P : ∀ (f : Nat) (listed : Array Bool) (a : Act) (w : World), wpP P md ops Q S m f listed a w → wpAny P md ops Q f listed a w
  | 0, _, _, _, h => h
  | f + 1, _, _, _, h => ⟨h.1, fun i hi => wpOp_mono (fun a' w' h' => wpAny_of_P f _ a' w' h'.2) (h.2 i hi)⟩

/-- what is listed is closed -/
structure Cl (md : Region.Mode) (ops : Array Oper) (listed : Array Bool) : Prop where
  size : listed.size = ops.size
  closed : ∀ j oj, ops[j]? = some oj → listed.getD j false = true → ∀ e ∈ oj.after, Region.binds md e = true → listed.getD e.on false = true
theorem Cl.set {i : Nat} {listed : Array Bool} (inv : Cl md ops listed) (hi : i ∈ Region.ready md ops listed) : Cl md ops (listed.setIfInBounds i true) := by
  obtain ⟨_, oi, hoi, hall⟩ := mem_ready.1 hi
  refine ⟨by simp [inv.size], fun j oj hj hl e he hb => ?_⟩
  by_cases hij : i = j
  · subst hij
    have : oj = oi := Option.some.inj (hj.symm.trans hoi)
    subst this
    exact getD_set_true (hall e he hb)
  · rw [getD_set_ne false hij] at hl
    exact getD_set_true (inv.closed j oj hj hl e he hb)
/-- m waits for i, through others -/
def ancB (md : Region.Mode) (ops : Array Oper) (m : Nat) : Nat → Nat → Bool
  | 0, _ => false
  | f + 1, i => (List.range ops.size).any fun j => Region.waitsFor md ops j i && (decide (j = m) || ancB md ops m f j)
theorem anc_waits {listed : Array Bool} (inv : Cl md ops listed) : ∀ (f i : Nat), ancB md ops m f i = true → listed.getD i true = false → m ∉ Region.ready md ops listed
  | 0, i, h, _ => by cases h
  | f + 1, i, h, hun => by
    intro hr
    obtain ⟨j, hj, hj2⟩ := List.any_eq_true.1 h
    simp only [Bool.and_eq_true, Bool.or_eq_true, decide_eq_true_eq] at hj2
    obtain ⟨oj, hoj, e, he, hb, hon⟩ := Region.waitsFor_spec hj2.1
    rcases hj2.2 with rfl | hja
    · obtain ⟨-, om, hom, hall⟩ := mem_ready.1 hr
      have : oj = om := Option.some.inj (hoj.symm.trans hom)
      subst this
      have h2 := hall e he hb
      rw [hon, getD_both hun] at h2
      cases h2
    · cases hl : listed.getD j false with
      | true =>
        have h2 := inv.closed j oj hoj hl e he hb
        rw [hon, getD_both hun] at h2
        cases h2
      | false =>
        have hjs : j < listed.size := by rw [inv.size]; exact (Array.getElem?_eq_some_iff.1 hoj).1
        exact anc_waits inv f j hja (getD_in hjs hl) hr

theorem wpP_takeW {i : Nat} {oi : Oper} {v : Value} (hi : ops[i]? = some oi) (hsel : ∀ (j : Nat) (o : Oper) cs b, ops[j]? = some o → o.op ≠ .select cs b)
    (hQ : ∀ c a w, Q (.panic c) (a.put oi.dst v) w → Q (.panic c) a w) (him : i ≠ m) (hm : m < ops.size) :
    ∀ (f : Nat) (listed : Array Bool) (a : Act) (w : World), Cl md ops listed →
      (∀ j oj, ops[j]? = some oj → j ≠ i → listed.getD j true = false → (∀ e ∈ oj.after, Region.binds md e = true → e.on ≠ i) → oi.apart ops oj = true) →
      i ∈ Region.ready md ops listed → YieldsIf P ops (fun _ => True) oi v a → (listed.getD m true = false → S w) →
      wpP P md ops Q S m f (listed.setIfInBounds i true) (a.put oi.dst v) w → wpP P md ops Q S m (f + 1) listed a w := by
  intro f
  induction f with
  | zero =>
    intro listed a w inv _ hr hy hS H
    refine ⟨fun h => (by rw [h] at hr; cases hr), fun j hj => ?_⟩
    by_cases hji : j = i
    · subst hji; exact hy.wpOp hi trivial ⟨fun h _ => hS h, H⟩
    · have := ready_mono hj hji
      rw [H.1] at this
      cases this
  | succ f ih =>
    intro listed a w inv hfree hr hy hS H
    have hun := (mem_ready.1 hr).1
    refine ⟨fun h => (by rw [h] at hr; cases hr), fun j hj => ?_⟩
    by_cases hji : j = i
    · subst hji; exact hy.wpOp hi trivial ⟨fun h _ => hS h, H⟩
    · have h1 := H.2 j (ready_mono hj hji)
      obtain ⟨hjun, oj, hoj, hall⟩ := mem_ready.1 hj
      have hnot : ∀ e ∈ oj.after, Region.binds md e = true → e.on ≠ i := fun e he hb heq => by
        have h1 := hall e he hb
        rw [heq, getD_both hun] at h1
        cases h1
      have h2 := wpOp_putIf hoj (hfree j oj hoj hji hjun hnot) (fun cs b => hsel i oi cs b hi) (fun cs b => hsel j oj cs b hoj) hQ hy h1
      have hfree' : ∀ k ok, ops[k]? = some ok → k ≠ i → (listed.setIfInBounds j true).getD k true = false →
          (∀ e ∈ ok.after, Region.binds md e = true → e.on ≠ i) → oi.apart ops ok = true := fun k ok hk hki hun hno => by
        refine hfree k ok hk hki ?_ hno
        by_cases hjk : j = k
        · subst hjk; exact hjun
        · rw [getD_set_ne true hjk] at hun; exact hun
      refine wpOp_mono (fun a' w' h3 => ?_) h2
      have hS' : listed.getD m true = false → j ≠ m → S w' := fun hml hjm => h3.2.1 (by rw [getD_set_ne true him]; exact hml) hjm
      refine ⟨hS', ih (listed.setIfInBounds j true) a' w' (inv.set hj) hfree' (ready_mono hr (Ne.symm hji)) h3.1 (fun hml => ?_) ?_⟩
      · by_cases hjm : j = m
        · subst hjm
          have : (listed.setIfInBounds j true).getD j true = true := by
            have hs : j < listed.size := by rw [inv.size]; exact hm
            simp [hs]
          rw [this] at hml; cases hml
        · exact hS' (by rwa [getD_set_ne true hjm] at hml) hjm
      · rw [Array.setIfInBounds_comm _ _ hji]
        exact h3.2.2

theorem wpP_takeS {i af : Nat} {oi : Oper} {v : Value} (hi : ops[i]? = some oi) (hsel : ∀ (j : Nat) (o : Oper) cs b, ops[j]? = some o → o.op ≠ .select cs b)
    (hQ : ∀ c a w, Q (.panic c) (a.put oi.dst v) w → Q (.panic c) a w) (him : i ≠ m) (hanc : ancB md ops m af i = true) :
    ∀ (f : Nat) (listed : Array Bool) (a : Act) (w : World), Cl md ops listed → listed.getD m true = false →
      (∀ j oj, ops[j]? = some oj → j ≠ i → listed.getD j true = false → (∀ e ∈ oj.after, Region.binds md e = true → e.on ≠ i) → oi.apart ops oj = true) →
      i ∈ Region.ready md ops listed → YieldsIf P ops S oi v a → S w →
      wpP P md ops Q S m f (listed.setIfInBounds i true) (a.put oi.dst v) w → wpP P md ops Q S m (f + 1) listed a w := by
  intro f
  induction f with
  | zero =>
    intro listed a w inv _ _ hr hy hS H
    refine ⟨fun h => (by rw [h] at hr; cases hr), fun j hj => ?_⟩
    by_cases hji : j = i
    · subst hji; exact hy.wpOp hi hS ⟨fun _ _ => hS, H⟩
    · have := ready_mono hj hji
      rw [H.1] at this
      cases this
  | succ f ih =>
    intro listed a w inv hml hfree hr hy hS H
    have hun := (mem_ready.1 hr).1
    refine ⟨fun h => (by rw [h] at hr; cases hr), fun j hj => ?_⟩
    by_cases hji : j = i
    · subst hji; exact hy.wpOp hi hS ⟨fun _ _ => hS, H⟩
    · have hjm : j ≠ m := fun e => anc_waits inv af i hanc hun (e ▸ hj)
      have h1 := H.2 j (ready_mono hj hji)
      obtain ⟨hjun, oj, hoj, hall⟩ := mem_ready.1 hj
      have hnot : ∀ e ∈ oj.after, Region.binds md e = true → e.on ≠ i := fun e he hb heq => by
        have h1 := hall e he hb
        rw [heq, getD_both hun] at h1
        cases h1
      have h2 := wpOp_putIf hoj (hfree j oj hoj hji hjun hnot) (fun cs b => hsel i oi cs b hi) (fun cs b => hsel j oj cs b hoj) hQ hy h1
      have hfree' : ∀ k ok, ops[k]? = some ok → k ≠ i → (listed.setIfInBounds j true).getD k true = false →
          (∀ e ∈ ok.after, Region.binds md e = true → e.on ≠ i) → oi.apart ops ok = true := fun k ok hk hki hun hno => by
        refine hfree k ok hk hki ?_ hno
        by_cases hjk : j = k
        · subst hjk; exact hjun
        · rw [getD_set_ne true hjk] at hun; exact hun
      refine wpOp_mono (fun a' w' h3 => ?_) h2
      have hS' : S w' := h3.2.1 (by rw [getD_set_ne true him]; exact hml) hjm
      refine ⟨fun _ _ => hS', ih (listed.setIfInBounds j true) a' w' (inv.set hj) (by rw [getD_set_ne true hjm]; exact hml) hfree' (ready_mono hr (Ne.symm hji)) h3.1 hS' ?_⟩
      rw [Array.setIfInBounds_comm _ _ hji]
      exact h3.2.2

inductive Pl where
  | nil
  | w (i : Nat) (s : Pl)
  | t (i : Nat) (s : Pl)
  | r (i : Nat) (s : Pl)
  | m (i : Nat) (s : Pl)
  | b (i j : Nat) (s u : Pl)
def Pl.len : Pl → Nat
  | .nil => 0
  | .w _ s => s.len + 1
  | .t _ s => s.len + 1
  | .r _ s => s.len + 1
  | .m _ s => s.len + 1
  | .b _ _ s _ => s.len + 1
def wpPlan (P : Program) (ops : Array Oper) (Q : Exit → Act → World → Prop) (S : World → Prop) : Pl → Act → World → Prop
  | .nil, a, w => Q .normal a w
  | .w i s, a, w => ∃ o v, ops[i]? = some o ∧ YieldsIf P ops (fun _ => True) o v a ∧ wpPlan P ops Q S s (a.put o.dst v) w
  | .t i s, a, w => ∃ o v, ops[i]? = some o ∧ YieldsIf P ops S o v a ∧ wpPlan P ops Q S s (a.put o.dst v) w
  | .r i s, a, w => ∃ o, ops[i]? = some o ∧ o.guard = none ∧ o.wp P a w (fun a' w' => S w' ∧ wpPlan P ops Q S s a' w') Q
  | .m i s, a, w => ∃ o, ops[i]? = some o ∧ o.guard = none ∧ o.wp P a w (fun a' w' => wpPlan P ops Q S s a' w') Q
  | .b i j s u, a, w => (∃ o, ops[i]? = some o ∧ o.guard = none ∧ o.wp P a w (fun a' w' => S w' ∧ wpPlan P ops Q S s a' w') Q) ∧
      (∃ o, ops[j]? = some o ∧ o.guard = none ∧ o.wp P a w (fun a' w' => S w' ∧ wpPlan P ops Q S u a' w') Q)
def planOk (md : Region.Mode) (ops : Array Oper) (m : Nat) : Pl → Array Bool → Bool
  | .nil, listed => (Region.ready md ops listed).isEmpty
  | .w i s, listed => decide (i ≠ m) && (Region.ready md ops listed).contains i && Region.free md ops listed i && planOk md ops m s (listed.setIfInBounds i true)
  | .t i s, listed => decide (i ≠ m) && decide (listed.getD m true = false) && (Region.ready md ops listed).contains i && Region.free md ops listed i && ancB md ops m ops.size i && planOk md ops m s (listed.setIfInBounds i true)
  | .r i s, listed => decide (i ≠ m) && decide (listed.getD m true = false) && decide (Region.ready md ops listed = [i]) && planOk md ops m s (listed.setIfInBounds i true)
  | .m i s, listed => (decide (i = m) || decide (listed.getD m true = true)) && decide (Region.ready md ops listed = [i]) && planOk md ops m s (listed.setIfInBounds i true)
  | .b i j s u, listed => decide (i ≠ m) && decide (j ≠ m) && decide (listed.getD m true = false) && decide (s.len = u.len) && decide (Region.ready md ops listed = [i, j]) && planOk md ops m s (listed.setIfInBounds i true) && planOk md ops m u (listed.setIfInBounds j true)

theorem wpOp_one {i : Nat} {o : Oper} {a : Act} {w : World} {K : Act → World → Prop} (ho : ops[i]? = some o) (hg : o.guard = none) (h : o.wp P a w K Q) : wpOp P ops Q i K a w := by
  unfold wpOp
  simp only [ho]
  rw [if_pos (by simp [Region.wanted, hg])]
  exact .inl h
theorem getD_set_self {listed : Array Bool} {i : Nat} (h : i < listed.size) : (listed.setIfInBounds i true).getD i true = true := by simp [h]

theorem wpP_of_plan (hsel : Region.noSelect ops = true) (hm : m < ops.size) (hQ : ∀ c (d : Option Tmp) v a w, Q (.panic c) (Act.put a d v) w → Q (.panic c) a w) :
    ∀ (s : Pl) (listed : Array Bool) (a : Act) (w : World), Cl md ops listed → planOk md ops m s listed = true → (listed.getD m true = false → S w) → wpPlan P ops Q S s a w → wpP P md ops Q S m s.len listed a w
  | .nil, listed, a, w, _, hB, _, h => ⟨by simpa [planOk] using hB, h⟩
  | .w i r, listed, a, w, inv, hB, hS, h => by
    obtain ⟨o, v, ho, hy, hK⟩ := h
    simp only [planOk, Bool.and_eq_true, decide_eq_true_eq] at hB
    obtain ⟨⟨⟨him, hr⟩, hf⟩, hB'⟩ := hB
    have hr' : i ∈ Region.ready md ops listed := by simpa using hr
    exact wpP_takeW ho (Region.noSelect_spec hsel) (fun c a w => hQ c o.dst v a w) him hm r.len listed a w inv (Region.free_spec ho hf) hr' hy hS
      (wpP_of_plan hsel hm hQ r _ _ w (inv.set hr') hB' (fun h => hS (by rwa [getD_set_ne true him] at h)) hK)
  | .t i r, listed, a, w, inv, hB, hS, h => by
    obtain ⟨o, v, ho, hy, hK⟩ := h
    simp only [planOk, Bool.and_eq_true, decide_eq_true_eq] at hB
    obtain ⟨⟨⟨⟨⟨him, hml⟩, hr⟩, hf⟩, han⟩, hB'⟩ := hB
    have hr' : i ∈ Region.ready md ops listed := by simpa using hr
    exact wpP_takeS ho (Region.noSelect_spec hsel) (fun c a w => hQ c o.dst v a w) him han r.len listed a w inv hml (Region.free_spec ho hf) hr' hy (hS hml)
      (wpP_of_plan hsel hm hQ r _ _ w (inv.set hr') hB' (fun _ => hS hml) hK)
  | .r i r, listed, a, w, inv, hB, hS, h => by
    obtain ⟨o, ho, hg, hK⟩ := h
    simp only [planOk, Bool.and_eq_true, decide_eq_true_eq] at hB
    obtain ⟨⟨⟨him, hml⟩, hr⟩, hB'⟩ := hB
    have hr' : i ∈ Region.ready md ops listed := by rw [hr]; simp
    refine ⟨fun h0 => (by rw [hr] at h0; cases h0), fun j hj => ?_⟩
    rw [hr] at hj
    have hj' : j = i := by simpa using hj
    subst hj'
    exact wpOp_one ho hg (Oper.wp_mono (fun a' w' h' => ⟨fun _ _ => h'.1, wpP_of_plan hsel hm hQ r _ a' w' (inv.set hr') hB' (fun _ => h'.1) h'.2⟩) hK)
  | .m i r, listed, a, w, inv, hB, hS, h => by
    obtain ⟨o, ho, hg, hK⟩ := h
    simp only [planOk, Bool.and_eq_true, Bool.or_eq_true, decide_eq_true_eq] at hB
    obtain ⟨⟨him, hr⟩, hB'⟩ := hB
    have hr' : i ∈ Region.ready md ops listed := by rw [hr]; simp
    refine ⟨fun h0 => (by rw [hr] at h0; cases h0), fun j hj => ?_⟩
    rw [hr] at hj
    have hj' : j = i := by simpa using hj
    subst hj'
    have hml : (listed.setIfInBounds j true).getD m true = true := by
      rcases him with e | e
      · subst e; exact getD_set_self (by rw [inv.size]; exact hm)
      · by_cases e2 : j = m
        · subst e2; exact getD_set_self (by rw [inv.size]; exact hm)
        · rw [getD_set_ne true e2]; exact e
    refine wpOp_one ho hg (Oper.wp_mono (fun a' w' h' => ⟨fun h1 h2 => ?_, wpP_of_plan hsel hm hQ r _ a' w' (inv.set hr') hB' (fun h1 => by rw [hml] at h1; cases h1) h'⟩) hK)
    rcases him with e | e
    · exact absurd e h2
    · rw [e] at h1; cases h1
  | .b i j r u, listed, a, w, inv, hB, hS, h => by
    obtain ⟨⟨o, ho, hg, hK⟩, ⟨o2, ho2, hg2, hK2⟩⟩ := h
    simp only [planOk, Bool.and_eq_true, decide_eq_true_eq] at hB
    obtain ⟨⟨⟨⟨⟨⟨him, hjm⟩, hml⟩, hlen⟩, hr⟩, hB1⟩, hB2⟩ := hB
    have hri : i ∈ Region.ready md ops listed := by rw [hr]; simp
    have hrj : j ∈ Region.ready md ops listed := by rw [hr]; simp
    refine ⟨fun h0 => (by rw [hr] at h0; cases h0), fun k hk => ?_⟩
    rw [hr] at hk
    have hk' : k = i ∨ k = j := by simpa using hk
    rcases hk' with e | e
    · subst e
      exact wpOp_one ho hg (Oper.wp_mono (fun a' w' h' => ⟨fun _ _ => h'.1, wpP_of_plan hsel hm hQ r _ a' w' (inv.set hri) hB1 (fun _ => h'.1) h'.2⟩) hK)
    · subst e
      rw [hlen]
      exact wpOp_one ho2 hg2 (Oper.wp_mono (fun a' w' h' => ⟨fun _ _ => h'.1, wpP_of_plan hsel hm hQ u _ a' w' (inv.set hrj) hB2 (fun _ => h'.1) h'.2⟩) hK2)

def planAll (ops : Array Oper) (m : Nat) (s : Pl) : Bool :=
  Region.noSelect ops && decide (m < ops.size) && decide (s.len = ops.size) && planOk .any ops m s (Array.replicate ops.size false)
/-- THE BEGINNING -/
theorem wp_region_plan {id : Nat} {a : Act} {w : World} {l : List Oper} (S : World → Prop) (m : Nat) (s : Pl) (hm : P.follows .mixedOrders = true) (hB : planAll l.toArray m s = true)
    (hS : S w.drew) (hQ : ∀ c (d : Option Tmp) v a w, Q (.panic c) (Act.put a d v) w → Q (.panic c) a w)
    (h : wpPlan P l.toArray Q S s a w.drew) : (Code.region id l.toArray true).wp P Q a w := by
  simp only [planAll, Bool.and_eq_true, decide_eq_true_eq] at hB
  obtain ⟨⟨⟨hsel, hms⟩, hlen⟩, hseq⟩ := hB
  have inv0 : Cl .any l.toArray (Array.replicate l.toArray.size false) :=
    ⟨by simp, fun j oj _ hl => (by rw [getD_replicate_false] at hl; cases hl)⟩
  have H := wpP_of_plan (md := .any) hsel hms hQ s _ a w.drew inv0 hseq (fun _ => hS) h
  rw [hlen] at H
  exact wp_region_any hm (wpAny_of_P _ _ _ _ H)

/- the steps -/
variable {l : List Oper} {i j : Nat} {s u : Pl} {a : Act} {w : World} {o o2 : Oper}
theorem plan_end (h : Q .normal a w) : wpPlan P ops Q S .nil a w := h
theorem plan_w (ho : l[i]? = some o) (hg : o.guard = none) {v : Value} (hv : ∀ wx, (execOp a.eval o).run P wx = .ok (.value v) wx) (h : wpPlan P l.toArray Q S s (a.put o.dst v) w) : wpPlan P l.toArray Q S (.w i s) a w :=
  ⟨o, v, by simpa using ho, .inl ⟨by simp [Region.wanted, hg], fun wx _ => hv wx⟩, h⟩
/-- an operation whose guard is not met -/
theorem plan_skip (ho : l[i]? = some o) (hg : Region.wanted o (yielded l.toArray a.tmps) = false) (h : wpPlan P l.toArray Q S s (a.put o.dst undef) w) : wpPlan P l.toArray Q S (.w i s) a w :=
  ⟨o, undef, by simpa using ho, .inr ⟨hg, rfl⟩, h⟩
/-- an operation whose guard is met -/
theorem plan_g (ho : l[i]? = some o) (hg : Region.wanted o (yielded l.toArray a.tmps) = true) {v : Value} (hv : ∀ wx, (execOp a.eval o).run P wx = .ok (.value v) wx) (h : wpPlan P l.toArray Q S s (a.put o.dst v) w) : wpPlan P l.toArray Q S (.w i s) a w :=
  ⟨o, v, by simpa using ho, .inl ⟨hg, fun wx _ => hv wx⟩, h⟩
theorem plan_t (ho : l[i]? = some o) (hg : o.guard = none) {v : Value} (hv : ∀ wx, S wx → (execOp a.eval o).run P wx = .ok (.value v) wx) (h : wpPlan P l.toArray Q S s (a.put o.dst v) w) : wpPlan P l.toArray Q S (.t i s) a w :=
  ⟨o, v, by simpa using ho, .inl ⟨by simp [Region.wanted, hg], hv⟩, h⟩
theorem plan_arr (ho : l[i]? = some o) (hg : o.guard = none) {ty : TypeId} {x : Operand} (hop : o.op = .load ty x) {g p : Nat} (hx : a.eval x = .pointer (some ⟨g, p, none⟩)) (cs : List Value) (hS : ∀ wx, S wx → wx.rangeAt g p cs)
    {d : TypeDesc} (hu : P.underlying ty = some d) (hd : d.isRow = true) (hi : (P.info? ty).map (·.size) = some cs.length) (h : wpPlan P l.toArray Q S s (a.put o.dst (.agg cs.toArray)) w) : wpPlan P l.toArray Q S (.t i s) a w :=
  ⟨o, _, by simpa using ho, yieldsIf_load_mid (by simp [Region.wanted, hg]) ty x hop g p hx cs d hS hu hd hi, h⟩
theorem plan_r (ho : l[i]? = some o) (hg : o.guard = none) (h : o.wp P a w (fun a' w' => S w' ∧ wpPlan P l.toArray Q S s a' w') Q) : wpPlan P l.toArray Q S (.r i s) a w :=
  ⟨o, by simpa using ho, hg, h⟩
theorem plan_m (ho : l[i]? = some o) (hg : o.guard = none) (h : o.wp P a w (fun a' w' => wpPlan P l.toArray Q S s a' w') Q) : wpPlan P l.toArray Q S (.m i s) a w :=
  ⟨o, by simpa using ho, hg, h⟩
/-- either first; what follows the region is shown once (F: found at the first way's end) -/
theorem plan_b {C F : Nat → World → Prop} (ho : l[i]? = some o) (hg : o.guard = none) (ho2 : l[j]? = some o2) (hg2 : o2.guard = none)
    (h1 : (∀ g w', C g w' → F g w') → o.wp P a w (fun a' w' => S w' ∧ wpPlan P l.toArray Q S s a' w') Q)
    (h2 : (∀ g w', C g w' → F g w') → o2.wp P a w (fun a' w' => S w' ∧ wpPlan P l.toArray Q S u a' w') Q)
    (h : ∀ g w', C g w' → F g w') : wpPlan P l.toArray Q S (.b i j s u) a w :=
  ⟨⟨o, by simpa using ho, hg, h1 h⟩, ⟨o2, by simpa using ho2, hg2, h2 h⟩⟩
end
end Go.Mv
