/- mont: lineTop, Mul. -/
import Derived.Test.YtmegaegedlbckaaNm12
import Derived.Test.YtmegaegedlbckaaCuts
import Derived.Test.YtmegaegedlbckaaTail2
namespace Go.Proofs.Ytmegaegedlbckaa
open Go.RowKit Go.Mv Mvp
attribute [local irreducible] limbs lw mix cw cSub cAdd cMul foldC valFrom beN laid be32 powm montT mstep

set_option maxHeartbeats 4000000 in
set_option maxRecDepth 100000 in
theorem lineTop_any (gt V m n : Nat) (w : World) (ht : Has w gt (cw 6 V) 102) (hm : m < 18446744073709551616) (hn : n < B64 ^ 4) (hV : V + m * n < B64 ^ 6) (hVV : V < B64 ^ 6) :
    Calls Try.prog 69 #[.pointer (some ⟨gt, 0, none⟩), .int .u64 (m : Int), i4 n] w fun e w' => e = .returned (.tuple #[.int .u64 (lw (V + m * n) 4 : Nat), .int .u64 (lw (V + m * n) 5 : Nat)]) ∧ Has w' gt (cw 6 (mix (V + m * n) V 4)) 102 ∧ Fr (One gt) w w' := by
  have HM := Lib.hid hm
  have hlt := line_top V m n hn hV hVV
  have HS0 := Lib.hid hlt.1
  have HS1 := Lib.hid hlt.2.1
  have HS2 := Lib.hid hlt.2.2
  clear hlt hn hV hVV
  clear hm
  have st0 := St.one ht
  go_enter Try.func69, Try.ntmps69
  go_wp2_with (with_reducible refine wl_stop (o := ⟨some 5, _, _, _, _, _⟩) ?_)
  refine wl_boxS st0 rfl rfl rfl (cw 4 n) rfl ?_
  intro g5 w1 st1
  clear st0
  have c5 := (st1.at 0 rfl).cell (cw_get 6 V 5 (by decide))
  have c4 := (st1.at 0 rfl).cell (cw_get 6 V 4 (by decide))
  go_wp2_with fail
  refine wp_region_noPanic ?_
  refine wp_region_seq2 (fun wx => St (One gt) w wx [(gt, cw 6 V, 102), (g5, cw 4 n, 66)]) (fun wx => St (One gt) w wx [(gt, cw 6 (mix (V + m * n) V 4), 102), (g5, cw 4 n, 66)]) 7 [(0, true), (1, true), (2, true), (3, true), (4, true), (5, true), (6, true)] [8, 9, 10, 11, 12] (by kernel_rfl) (by kernel_rfl) st1.drew (fun _ _ _ _ _ h => h) ?_
  have hd1 := st1.drew
  refine sequ_pure (v := ?_) rfl rfl (fun wx hS => ?_) ?_
  rotate_left 1
  · (clear hS; go_simp; with_reducible rfl)
  try simp only [Act.put, List.setIfInBounds_toArray, List.set_cons_zero, List.set_cons_succ]
  refine sequ_pure (v := ?_) rfl rfl (fun wx hS => ?_) ?_
  rotate_left 1
  · (clear hS; go_simp; with_reducible rfl)
  try simp only [Act.put, List.setIfInBounds_toArray, List.set_cons_zero, List.set_cons_succ]
  refine sequ_arr rfl rfl rfl rfl (cw 4 n) (fun wx hS => St.rangeL hS 1 rfl 0 _ (by rw [List.drop_zero, List.take_of_length_le (Nat.le_refl _)])) Try.underlying66 rfl (by simp only [List.length_append, cw_len]; kernel_rfl) ?_
  try simp only [Act.put, List.setIfInBounds_toArray, List.set_cons_zero, List.set_cons_succ]
  refine sequ_pure (v := ?_) rfl rfl (fun wx hS => ?_) ?_
  rotate_left 1
  · (clear hS; go_simp; with_reducible rfl)
  try simp only [Act.put, List.setIfInBounds_toArray, List.set_cons_zero, List.set_cons_succ]
  refine sequ_pure (v := ?_) rfl rfl (fun wx hS => ?_) ?_
  rotate_left 1
  · (clear hS; go_simp; with_reducible rfl)
  try simp only [Act.put, List.setIfInBounds_toArray, List.set_cons_zero, List.set_cons_succ]
  refine sequ_pure (v := ?_) rfl rfl (fun wx hS => ?_) ?_
  rotate_left 1
  · (clear hS; go_simp; with_reducible rfl)
  try simp only [Act.put, List.setIfInBounds_toArray, List.set_cons_zero, List.set_cons_succ]
  refine sequ_pure (v := ?_) rfl rfl (fun wx hS => ?_) ?_
  rotate_left 1
  · (have hc := (St.at hS 0 rfl).cell (cw_get 6 V 4 (by decide)); clear hS; go_simp; with_reducible rfl)
  try simp only [Act.put, List.setIfInBounds_toArray, List.set_cons_zero, List.set_cons_succ]
  refine sequ_one rfl rfl ?_
  go_simp
  refine (line_any gt V m n (lw V 4) 102 _ (St.at hd1 0 rfl) HM.out (lw_lt V 4)).mono ?_
  rintro e' w2 ⟨rfl, hg2, hf2⟩
  have st2 : St (One gt) w w2 [(gt, cw 6 (mix (V + m * n) V 4), 102), (g5, cw 4 n, 66)] := hd1.put 0 rfl hf2 hg2
  clear hd1 hf2 hg2
  refine ⟨st2, ?_⟩
  try simp only [Act.put, List.setIfInBounds_toArray, List.set_cons_zero, List.set_cons_succ]
  refine seqb_pure (v := ?_) rfl rfl (fun wx hS => ?_) ?_
  rotate_left 1
  · (clear hS; go_simp; with_reducible rfl)
  try simp only [Act.put, List.setIfInBounds_toArray, List.set_cons_zero, List.set_cons_succ]
  refine seqb_pure (v := ?_) rfl rfl (fun wx hS => ?_) ?_
  rotate_left 1
  · (clear hS; go_simp; with_reducible rfl)
  try simp only [Act.put, List.setIfInBounds_toArray, List.set_cons_zero, List.set_cons_succ]
  refine seqb_pure (v := ?_) rfl rfl (fun wx hS => ?_) ?_
  rotate_left 1
  · (clear hS; go_simp; with_reducible rfl)
  try simp only [Act.put, List.setIfInBounds_toArray, List.set_cons_zero, List.set_cons_succ]
  refine seqb_pure (v := ?_) rfl rfl (fun wx hS => ?_) ?_
  rotate_left 1
  · (clear hS; go_simp; with_reducible rfl)
  try simp only [Act.put, List.setIfInBounds_toArray, List.set_cons_zero, List.set_cons_succ]
  refine seqb_pure (v := ?_) rfl rfl (fun wx hS => ?_) ?_
  rotate_left 1
  · (clear hS; go_simp; with_reducible rfl)
  try simp only [Act.put, List.setIfInBounds_toArray, List.set_cons_zero, List.set_cons_succ]
  refine seqb_end ?_
  refine NoPanic.normal ?_
  have hg := st2.at 0 rfl
  have hfr := st2.fr
  clear st2
  have hs := HS2.out
  go_wp2_with fail
  go_ret2
  rw [← HS0.out, ← HS1.out]
  exact ⟨rfl, hg, hfr⟩
end Go.Proofs.Ytmegaegedlbckaa
