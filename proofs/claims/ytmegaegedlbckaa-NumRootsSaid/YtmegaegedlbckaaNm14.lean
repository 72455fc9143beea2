/- (*mont.Modulus).Mul: Montgomery's product. -/
import Derived.Test.YtmegaegedlbckaaNm13
import Derived.Test.YtmegaegedlbckaaMd
import Derived.Test.YtmegaegedlbckaaTail3
namespace Go.Proofs.Ytmegaegedlbckaa
open Go.RowKit Go.Mv Mvp
attribute [local irreducible] limbs lw mix cw cSub cAdd cMul foldC valFrom beN laid be32 powm montT mstep
set_option maxHeartbeats 8000000 in
set_option maxRecDepth 100000 in
theorem MMul_any (m : Md) (gp a b : Nat) (w : World) (hok : m.Ok) (hpm : Has w gp (mdL m) 68) (ha : a < B64 ^ 4) (hb : b < m.M) :
    Calls Try.prog 45 #[.pointer (some ⟨gp, 0, none⟩), i4 a, i4 b] w fun e w' => e = .returned (i4 (a * b * m.Ri % m.M)) ∧ Fr Nob w w' := by
  have HOK := Lib.hid hok
  have HPM := Lib.hid hpm
  have HA := Lib.hid ha
  have HB := Lib.hid hb
  clear hok hpm ha hb
  have st0 := St.start Nob w
  go_enter Try.func45, Try.ntmps45
  go_wp2_with (with_reducible refine wl_stop (o := ⟨some 4, _, _, _, _, _⟩) ?_)
  refine wl_boxS st0 rfl rfl rfl (cw 4 a) rfl ?_
  intro g4 w1 st1
  clear st0
  go_wp2_with (with_reducible refine wl_stop (o := ⟨some 5, _, _, _, _, _⟩) ?_)
  refine wl_boxS st1 rfl rfl rfl (cw 4 b) rfl ?_
  intro g5 w2 st2
  clear st1
  go_wp2_with (with_reducible refine wl_stop (o := ⟨some 6, _, _, _, _, _⟩) ?_)
  refine wl_allocS st2 rfl rfl (z := .agg #[.int .u64 0, .int .u64 0, .int .u64 0, .int .u64 0]) (by kernel_rfl) (cw 4 0) (by rw [cw_zero]; rfl) ?_
  intro g6 w3 st3
  clear st2
  go_wp2_with (with_reducible refine wl_stop (o := ⟨some 7, _, _, _, _, _⟩) ?_)
  refine wl_allocS st3 rfl rfl (z := .agg #[.int .u64 0, .int .u64 0, .int .u64 0, .int .u64 0, .int .u64 0, .int .u64 0]) (by kernel_rfl) (cw 6 0) (by rw [cw_zero]; rfl) ?_
  intro g7 w4 st4
  clear st3
  go_wp2_with (with_reducible refine wl_stop (o := ⟨some 14, _, _, _, _, _⟩) ?_)
  refine wl_loadS st4 0 rfl rfl rfl Try.underlying81 rfl (by simp only [List.length_append, cw_len]; kernel_rfl) ?_
  go_wp2
  go_loopw [15] (fun i wr => ∃ k : Nat, k ≤ 4 ∧ i = .int .i64 (k : Int) ∧ St Nob w wr [(g4, cw 4 a, 81), (g5, cw 4 b, 81), (g6, cw 4 0, 81), (g7, cw 6 (montT m.M m.neg b a k), 102)]) (fun i _ => 4 - (intOf i).toNat)
  case atStart => exact ⟨0, by omega, rfl, by rw [montT_zero]; exact st4⟩
  case round =>
    obtain ⟨k, hk, rfl, st⟩ := hrel
    clear st4
    by_cases hlt : k < 4
    · have hltI : (k : Int) < 4 := by omega
      have e0 := fun wx => run_index_cw (P := Try.prog) Try.underlying81 Try.underlying36 size_u64 a k hlt .i64 wx
      have hTl := montT_lt m.M m.neg b a k (by have := HOK.out.one; omega)
      obtain ⟨b1, b2, b3, b4⟩ := mont_bounds (montT m.M m.neg b a k) b m.M (lw a k) (montT m.M m.neg b a k + lw a k * b) ((montT m.M m.neg b a k + lw a k * b) % 18446744073709551616 * m.neg % 18446744073709551616) HB.out HOK.out.lt hTl (lw_lt a k) rfl (Nat.mod_lt _ (by decide))
      have hsucc : montT m.M m.neg b a (k + 1) = (montT m.M m.neg b a k + lw a k * b + ((montT m.M m.neg b a k + lw a k * b) % 18446744073709551616 * m.neg % 18446744073709551616) * m.M) / 18446744073709551616 := montT_succ m.M m.neg b a k
      generalize hT : montT m.M m.neg b a k = T at *
      generalize hT' : montT m.M m.neg b a (k + 1) = T' at *
      have hx := lw_lt a k
      obtain ⟨l1, l2, l3⟩ := line_top T (lw a k) b (Nat.lt_trans HB.out HOK.out.lt) b2 (Nat.lt_trans b1 (by decide))
      have z5 : lw T 5 = 0 := lw_top T 5 5 b1 (Nat.le_refl _)
      rw [z5, Nat.zero_add] at l2
      have hline := fun wx (h : Has wx g7 (cw 6 T) 102) => line_any g7 T (lw a k) b (lw T 4) 102 wx h hx (lw_lt T 4)
      rw [l1, l2] at hline
      generalize hxx : lw a k = x at *
      generalize hV : T + x * b = V at *
      have hw0 := word0 V
      generalize hmm : V % 18446744073709551616 * m.neg % 18446744073709551616 = mm at *
      have hm64 : mm < 18446744073709551616 := by rw [← hmm]; exact Nat.mod_lt _ (by decide)
      have hmul : IntKind.u64.wrap ((lw V 0 : Int) * (m.neg : Int)) = (mm : Int) := by
        rw [IntKind.wrap_u64, ← hmm, hw0, ← Int.natCast_mul]; rfl
      have hlt2 := fun wx (h : Has wx g7 (cw 6 V) 102) => lineTop_any g7 V mm m.M wx h hm64 HOK.out.lt b4 b3
      generalize hV2 : V + mm * m.M = V2 at *
      have hshift := shift6 V2 b4
      rw [← hsucc] at hshift
      have HLINE := Lib.hid hline
      have HLT2 := Lib.hid hlt2
      have HSHIFT := Lib.hid hshift
      have HT := Lib.hid hT
      have HT' := Lib.hid hT'
      clear hTl b1 b2 b3 b4 hsucc l1 l2 l3 z5 hline hV hw0 hmm hm64 hlt2 hV2 hshift hT hT' hx hxx
      have ct := (st.at 3 rfl).cell (cw_get 6 T 4 (by decide))
      go_wp2_with (with_reducible refine wl_stop (o := ⟨some 20, _, _, _, _, _⟩) ?_)
      refine wl_loadS st 1 rfl rfl rfl Try.underlying81 rfl (by simp only [List.length_append, cw_len]; kernel_rfl) ?_
      go_wp2_with fail
      refine (HLINE.out _ (st.at 3 rfl)).mono ?_
      rintro e' w5 ⟨rfl, hg5, hf5⟩
      have st5 : St Nob w w5 [(g4, cw 4 a, 81), (g5, cw 4 b, 81), (g6, cw 4 0, 81), (g7, cw 6 (mix V T 4), 102)] := st.put 3 rfl hf5 hg5
      clear st hf5 hg5
      clear ct
      obtain ⟨v4, c4, f4⟩ := (st5.at 3 rfl).ready (i := 4) (by rw [cw_len]; decide)
      obtain ⟨v5, c5, f5⟩ := (st5.at 3 rfl).ready (i := 5) (by rw [cw_len]; decide)
      go_wp2_with fail
      have stA := (st5.set 3 rfl 4 (.int .u64 (lw V 4 : Nat))).set 3 rfl 5 (.int .u64 (lw V 5 : Nat))
      have hcw : ((cw 6 (mix V T 4)).set 4 (.int .u64 (lw V 4 : Nat))).set 5 (.int .u64 (lw V 5 : Nat)) = cw 6 V := by rw [cw_set 6 V T 4 (by decide), cw_set 6 V T 5 (by decide), mix_full]
      rw [hcw] at stA
      clear hcw c4 c5 f4 f5 v4 v5 st5
      generalize (World.setCell (World.setCell w5 ⟨g7, 4, none⟩ (.int .u64 (lw V 4 : Nat))) ⟨g7, 5, none⟩ (.int .u64 (lw V 5 : Nat))) = wA at *
      have stA : St Nob w wA [(g4, cw 4 a, 81), (g5, cw 4 b, 81), (g6, cw 4 0, 81), (g7, cw 6 V, 102)] := stA
      have cv := (stA.at 3 rfl).cell (cw_get 6 V 0 (by decide))
      have cn := (HPM.out.keep stA.fr id).cell (md_neg m)
      go_quiet (fail)
      have stB := stA.drewN nq
      clear stA cv cn
      go_wp2_with (with_reducible refine wl_stop (o := ⟨some 40, _, _, _, _, _⟩) ?_)
      refine wl_loadA rfl rfl Try.underlying66 rfl (HPM.out.keep stB.fr id) (cw 4 m.M) (md_M m) (by simp only [List.length_append, cw_len]; kernel_rfl) ?_
      go_wp2_with fail
      refine (HLT2.out _ (stB.at 3 rfl)).mono ?_
      rintro e' w7 ⟨rfl, hg7, hf7⟩
      have st7 : St Nob w w7 [(g4, cw 4 a, 81), (g5, cw 4 b, 81), (g6, cw 4 0, 81), (g7, cw 6 (mix V2 V 4), 102)] := stB.put 3 rfl hf7 hg7
      clear stB hf7 hg7
      obtain ⟨v4, c4, f4⟩ := (st7.at 3 rfl).ready (i := 4) (by rw [cw_len]; decide)
      obtain ⟨v5, c5, f5⟩ := (st7.at 3 rfl).ready (i := 5) (by rw [cw_len]; decide)
      go_wp2_with fail
      have stC := (st7.set 3 rfl 4 (.int .u64 (lw V2 4 : Nat))).set 3 rfl 5 (.int .u64 (lw V2 5 : Nat))
      have hcw : ((cw 6 (mix V2 V 4)).set 4 (.int .u64 (lw V2 4 : Nat))).set 5 (.int .u64 (lw V2 5 : Nat)) = cw 6 V2 := by rw [cw_set 6 V2 V 4 (by decide), cw_set 6 V2 V 5 (by decide), mix_full]
      rw [hcw] at stC
      clear hcw c4 c5 f4 f5 v4 v5 st7
      generalize (World.setCell (World.setCell w7 ⟨g7, 4, none⟩ (.int .u64 (lw V2 4 : Nat))) ⟨g7, 5, none⟩ (.int .u64 (lw V2 5 : Nat))) = wC at *
      have stC : St Nob w wC [(g4, cw 4 a, 81), (g5, cw 4 b, 81), (g6, cw 4 0, 81), (g7, cw 6 V2, 102)] := stC
      have k1 := fun wx => run_sliceA_hi (P := Try.prog) wx Try.underlying102 size_u64 g7 0 .i64 5 (by decide)
      have k2 := fun wx => run_sliceA_lo (P := Try.prog) wx Try.underlying102 size_u64 g7 0 .i64 1 (by decide)
      refine wp_region_noPanic ?_
      refine wp_region_seq (fun wx => St Nob w wx [(g4, cw 4 a, 81), (g5, cw 4 b, 81), (g6, cw 4 0, 81), (g7, cw 6 V2, 102)]) 2 [(0, true), (1, true)] (by kernel_rfl) (by kernel_rfl) stC.drew (fun _ _ _ _ _ h => h) ?_
      have stD := stC.drew
      clear stC
      refine seq_pure (v := ?_) rfl rfl (fun wx hS => ?_) ?_
      rotate_left 1
      · (clear hS; go_simp; with_reducible rfl)
      try simp only [Act.put, List.setIfInBounds_toArray, List.set_cons_zero, List.set_cons_succ]
      refine seq_pure (v := ?_) rfl rfl (fun wx hS => ?_) ?_
      rotate_left 1
      · (clear hS; go_simp; with_reducible rfl)
      try simp only [Act.put, List.setIfInBounds_toArray, List.set_cons_zero, List.set_cons_succ]
      refine seq_end ?_
      try simp only [List.drop_succ_cons, List.drop_zero]
      refine wl_copy rfl rfl Try.underlying106 size_u64 rfl rfl (stD.at 3 rfl) (Rd.ofHas (stD.at 3 rfl) 1 (n := 5) (by rw [cw_len]; decide)) (fun v hv => cw_one _ _ v (List.mem_of_mem_drop (List.mem_of_mem_take hv))) (by rw [cw_len]; decide) ?_
      intro wE hgE hfE hzE
      clear hzE
      have stE := stD.put 3 rfl hfE hgE
      clear stD hgE hfE
      obtain ⟨v5, c5, f5⟩ := (stE.at 3 rfl).ready (i := 5) (by rw [splice_length _ _ _ (by simp [cw_len])]; rw [cw_len]; decide)
      go_wp2_with fail
      refine NoPanic.normal ?_
      clear k1 k2
      go_wp2_with fail
      have stF := stE.set 3 rfl 5 (.int .u64 0)
      clear stE c5 f5
      go_roundw
      case rel =>
        refine ⟨k + 1, by omega, by go_num, ?_⟩
        rw [HT'.out]
        have hh := stF
        have h6 := HSHIFT.out
        simp only [List.set_cons_succ, List.set_cons_zero] at hh
        rw [show min 5 5 = 5 from rfl, List.take_take, show min 5 5 = 5 from rfl, h6] at hh
        exact hh
      case measure => simp [intOf]; omega
    · have hge : ¬ ((k : Int) < 4) := by omega
      have hk4 : k = 4 := by omega
      subst hk4
      have k4 : ∀ wx, (Instr.arrayAt 66 (.slice (some ⟨g7, 0, none⟩) 4 6)).run Try.prog wx = .ok (.pointer (some ⟨g7, 0, none⟩)) wx := fun wx => by simp [Instr.arrayAt, run_underlying Try.underlying66]
      have k3 := fun wx => run_sliceA_hi (P := Try.prog) wx Try.underlying102 size_u64 g7 0 .i64 4 (by decide)
      have hTl := montT_lt m.M m.neg b a 4 (by have := HOK.out.one; omega)
      have hval := mont_value m.M m.neg m.Ri a b (by have := HOK.out.one; omega) HA.out HOK.out.neg (by rw [HOK.out.inv, Nat.mod_eq_of_lt HOK.out.one])
      generalize hT : montT m.M m.neg b a 4 = T at *
      have HT := Lib.hid hT; clear hT
      have HTL := Lib.hid hTl; clear hTl
      have HVAL := Lib.hid hval; clear hval
      go_wp2_with (with_reducible refine wl_stop (o := ⟨some 53, _, _, _, _, _⟩) ?_)
      refine wl_loadA rfl rfl Try.underlying66 rfl (st.at 3 rfl) (cw 4 T) (cw6_low T) (by rw [cw_len]; exact size_mi) ?_
      clear k3 k4
      go_wp2_with (with_reducible refine wl_stop (o := ⟨some 11, _, _, _, _, _⟩) ?_)
      refine wl_allocS st rfl rfl (z := .agg #[.int .u64 0, .int .u64 0, .int .u64 0, .int .u64 0]) (by kernel_rfl) (cw 4 0) (by rw [cw_zero]; rfl) ?_
      intro g11 w5 st5
      clear st
      go_wp2_with (with_reducible refine wl_stop (o := ⟨none, _, _, _, _, _⟩) ?_)
      refine wl_storeS st5 4 rfl rfl rfl rfl rfl (by simp only [List.length_append, cw_len]) (by simp only [List.length_append, cw_len]; kernel_rfl) (cw_one _ _) ?_
      intro w6 st6
      clear st5
      go_wp2_with fail
      refine wp_region_noPanic ?_
      refine wp_region_tree (fun wx => St Nob w wx [(g4, cw 4 a, 81), (g5, cw 4 b, 81), (g6, cw 4 0, 81), (g7, cw 6 T, 102), (g11, cw 4 T, 66)]) 11 (.t 0 (.t 1 (.t 2 (.t 3 (.t 4 (.b 5 9 (.t 6 (.t 7 (.t 8 (.r 9 (.r 10 .nil))))) (.r 5 (.t 6 (.t 7 (.t 8 (.r 10 .nil))))))))))) (by kernel_rfl) (by kernel_rfl) st6.drew (fun _ _ _ _ _ h => h) ?_
      have hd6 := st6.drew
      clear st6
      refine tree_arr rfl rfl rfl rfl (cw 4 T) (fun wx hS => St.rangeL hS 4 rfl 0 _ (by rw [List.drop_zero, List.take_of_length_le (Nat.le_refl _)])) Try.underlying66 rfl (by simp only [List.length_append, cw_len]; kernel_rfl) ?_
      try simp only [Act.put, List.setIfInBounds_toArray, List.set_cons_zero, List.set_cons_succ]
      refine tree_pure (v := ?_) rfl rfl (fun wx hS => ?_) ?_
      rotate_left 1
      · (clear hS; go_simp; with_reducible rfl)
      try simp only [Act.put, List.setIfInBounds_toArray, List.set_cons_zero, List.set_cons_succ]
      refine tree_pure (v := ?_) rfl rfl (fun wx hS => ?_) ?_
      rotate_left 1
      · (clear hS; go_simp; with_reducible rfl)
      try simp only [Act.put, List.setIfInBounds_toArray, List.set_cons_zero, List.set_cons_succ]
      refine tree_pure (v := ?_) rfl rfl (fun wx hS => ?_) ?_
      rotate_left 1
      · (clear hS; go_simp; with_reducible rfl)
      try simp only [Act.put, List.setIfInBounds_toArray, List.set_cons_zero, List.set_cons_succ]
      refine tree_arr rfl rfl rfl rfl (cw 4 m.M) (fun wx hS => (HPM.out.keep (St.fr hS) id).range 0 _ (md_M m)) Try.underlying66 rfl (by simp only [List.length_append, cw_len]; kernel_rfl) ?_
      try simp only [Act.put, List.setIfInBounds_toArray, List.set_cons_zero, List.set_cons_succ]
      refine tree_both (C := fun g12 wz => St Nob w wz [(g4, cw 4 a, 81), (g5, cw 4 b, 81), (g6, cw 4 0, 81), (g7, cw 6 T, 102), (g11, cw 4 T, 66), (g12, cw 4 (T + B64 ^ 4 - m.M), 66)]) (F := ?_) rfl rfl rfl rfl (fun key => ?_) (fun key => ?_) ?_
      rotate_left 1
      · skip
        go_simp
        refine (minus_any T m.M _ HOK.out.lt).mono ?_
        rintro e' w7 ⟨rfl, hf7⟩
        have st7 := hd6.keep hf7
        clear hf7
        refine ⟨st7, ?_⟩
        try simp only [Act.put, List.setIfInBounds_toArray, List.set_cons_zero, List.set_cons_succ]
        refine tree_pure (v := ?_) rfl rfl (fun wx hS => ?_) ?_
        rotate_left 1
        · (clear hS; go_simp; with_reducible rfl)
        try simp only [Act.put, List.setIfInBounds_toArray, List.set_cons_zero, List.set_cons_succ]
        refine tree_pure (v := ?_) rfl rfl (fun wx hS => ?_) ?_
        rotate_left 1
        · (clear hS; go_simp; with_reducible rfl)
        try simp only [Act.put, List.setIfInBounds_toArray, List.set_cons_zero, List.set_cons_succ]
        refine tree_pure (v := ?_) rfl rfl (fun wx hS => ?_) ?_
        rotate_left 1
        · (clear hS; go_simp; with_reducible rfl)
        try simp only [Act.put, List.setIfInBounds_toArray, List.set_cons_zero, List.set_cons_succ]
        refine tree_run rfl rfl ?_
        refine wp_allocS st7 rfl (z := .agg #[.int .u64 0, .int .u64 0, .int .u64 0, .int .u64 0]) (by kernel_rfl) (cw 4 0) (by rw [cw_zero]; rfl) ?_
        intro g12 w8 st8
        refine ⟨St.less st8 (by simp), ?_⟩
        try simp only [Act.put, List.setIfInBounds_toArray, List.set_cons_zero, List.set_cons_succ]
        refine tree_run rfl rfl ?_
        refine wp_storeS st8 5 rfl rfl rfl rfl (by simp only [List.length_append, cw_len]) (by simp only [List.length_append, cw_len]; kernel_rfl) (cw_one _ _) ?_
        intro w9 st9
        refine ⟨St.less st9 (by simp), ?_⟩
        try simp only [Act.put, List.setIfInBounds_toArray, List.set_cons_zero, List.set_cons_succ]
        refine tree_end ?_
        try simp only [List.drop_succ_cons, List.drop_zero]
        go_wp2_with fail
        exact key g12 w9 st9
      · skip
        refine wp_allocS hd6 rfl (z := .agg #[.int .u64 0, .int .u64 0, .int .u64 0, .int .u64 0]) (by kernel_rfl) (cw 4 0) (by rw [cw_zero]; rfl) ?_
        intro g12 w10 st10
        refine ⟨St.less st10 (by simp), ?_⟩
        try simp only [Act.put, List.setIfInBounds_toArray, List.set_cons_zero, List.set_cons_succ]
        refine tree_run rfl rfl ?_
        go_simp
        refine (minus_any T m.M _ HOK.out.lt).mono ?_
        rintro e' w11 ⟨rfl, hf11⟩
        have st11 := st10.keep hf11
        clear hf11
        refine ⟨St.less st11 (by simp), ?_⟩
        try simp only [Act.put, List.setIfInBounds_toArray, List.set_cons_zero, List.set_cons_succ]
        refine tree_pure (v := ?_) rfl rfl (fun wx hS => ?_) ?_
        rotate_left 1
        · (clear hS; go_simp; with_reducible rfl)
        try simp only [Act.put, List.setIfInBounds_toArray, List.set_cons_zero, List.set_cons_succ]
        refine tree_pure (v := ?_) rfl rfl (fun wx hS => ?_) ?_
        rotate_left 1
        · (clear hS; go_simp; with_reducible rfl)
        try simp only [Act.put, List.setIfInBounds_toArray, List.set_cons_zero, List.set_cons_succ]
        refine tree_pure (v := ?_) rfl rfl (fun wx hS => ?_) ?_
        rotate_left 1
        · (clear hS; go_simp; with_reducible rfl)
        try simp only [Act.put, List.setIfInBounds_toArray, List.set_cons_zero, List.set_cons_succ]
        refine tree_run rfl rfl ?_
        refine wp_storeS st11 5 rfl rfl rfl rfl (by simp only [List.length_append, cw_len]) (by simp only [List.length_append, cw_len]; kernel_rfl) (cw_one _ _) ?_
        intro w12 st12
        refine ⟨St.less st12 (by simp), ?_⟩
        try simp only [Act.put, List.setIfInBounds_toArray, List.set_cons_zero, List.set_cons_succ]
        refine tree_end ?_
        try simp only [List.drop_succ_cons, List.drop_zero]
        go_wp2_with fail
        exact key g12 w12 st12
      intro g12 w13 st13
      have st13 : St Nob w w13 [(g4, cw 4 a, 81), (g5, cw 4 b, 81), (g6, cw 4 0, 81), (g7, cw 6 T, 102), (g11, cw 4 T, 66), (g12, cw 4 (T + B64 ^ 4 - m.M), 66)] := st13
      clear hd6
      refine NoPanic.normal ?_
      have c4 := (st13.at 3 rfl).cell (cw_get 6 T 4 (by decide))
      have hfin := mont_final T m.M HOK.out.lt (by have := HTL.out; have := HB.out; omega)
      by_cases hlt2 : T < m.M
      · obtain ⟨f1, f2, f3⟩ := hfin.1 hlt2
        rw [f1] at c4
        rw [f2]
        have HF := Lib.hid f3
        clear hfin f1 f2 f3 hlt2
        go_wp2_with (with_reducible refine wl_stop (o := ⟨some 70, _, _, _, _, _⟩) ?_)
        refine wl_loadS st13 4 rfl rfl rfl Try.underlying66 rfl (by simp only [List.length_append, cw_len]; kernel_rfl) ?_
        go_wp2_with (with_reducible refine wl_stop (o := ⟨none, _, _, _, _, _⟩) ?_)
        refine wl_storeS st13 2 rfl rfl rfl rfl rfl (by simp only [List.length_append, cw_len]) (by simp only [List.length_append, cw_len]; kernel_rfl) (cw_one _ _) ?_
        intro w14 st14
        clear st13
        have hr := st14.at 2 rfl
        have hfr := st14.fr
        clear st14
        go_wp2_with fail
        exact bodyPost_ret (results_arr rfl rfl hr Try.underlying81 (by simp only [List.length_append, cw_len]; kernel_rfl)) rfl ⟨by rw [← HVAL.out]; unfold i4; rw [HF.out], hfr⟩
      · obtain ⟨f3, f4⟩ := hfin.2 hlt2
        have HF := Lib.hid f3
        by_cases hlt3 : T < B64 ^ 4
        · obtain ⟨f1, f2⟩ := f4 hlt3
          rw [f1] at c4
          rw [f2]
          clear hfin f1 f2 f3 f4 hlt2 hlt3
          go_wp2_with (with_reducible refine wl_stop (o := ⟨some 71, _, _, _, _, _⟩) ?_)
          refine wl_loadS st13 5 rfl rfl rfl Try.underlying66 rfl (by simp only [List.length_append, cw_len]; kernel_rfl) ?_
          go_wp2_with (with_reducible refine wl_stop (o := ⟨none, _, _, _, _, _⟩) ?_)
          refine wl_storeS st13 2 rfl rfl rfl rfl rfl (by simp only [List.length_append, cw_len]) (by simp only [List.length_append, cw_len]; kernel_rfl) (cw_one _ _) ?_
          intro w14 st14
          clear st13
          have hr := st14.at 2 rfl
          have hfr := st14.fr
          clear st14
          go_wp2_with fail
          exact bodyPost_ret (results_arr rfl rfl hr Try.underlying81 (by simp only [List.length_append, cw_len]; kernel_rfl)) rfl ⟨by rw [← HVAL.out]; unfold i4; rw [HF.out], hfr⟩
        · have f1 := lw4_one T (by have := HTL.out; have := HB.out; have := HOK.out.lt; omega) hlt3
          rw [f1] at c4
          clear hfin f1 f3 f4 hlt2 hlt3
          go_wp2_with (with_reducible refine wl_stop (o := ⟨some 71, _, _, _, _, _⟩) ?_)
          refine wl_loadS st13 5 rfl rfl rfl Try.underlying66 rfl (by simp only [List.length_append, cw_len]; kernel_rfl) ?_
          go_wp2_with (with_reducible refine wl_stop (o := ⟨none, _, _, _, _, _⟩) ?_)
          refine wl_storeS st13 2 rfl rfl rfl rfl rfl (by simp only [List.length_append, cw_len]) (by simp only [List.length_append, cw_len]; kernel_rfl) (cw_one _ _) ?_
          intro w14 st14
          clear st13
          have hr := st14.at 2 rfl
          have hfr := st14.fr
          clear st14
          go_wp2_with fail
          exact bodyPost_ret (results_arr rfl rfl hr Try.underlying81 (by simp only [List.length_append, cw_len]; kernel_rfl)) rfl ⟨by rw [← HVAL.out]; unfold i4; rw [HF.out], hfr⟩
end Go.Proofs.Ytmegaegedlbckaa
