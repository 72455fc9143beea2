/- The reference's points: Read; The reference's Read, for all bytes; its Base, its Same; The reference's Read and Number, each as one contract; the law's told; num.Dot: what it answers; Pure sponge: what the program's and the reference's permutation compute, and that the two are one; word functions of the sponge; the constants of the rounds, and how far the lanes are turned; how far the lanes are turned; the state: bytes are added, and given; the state's bytes; Permute; the permutation of the program; the reference's round; Pure sponge: the permutation of bytes, both ways; Permute, the program's and the reference's; Permute of the reference; Pure sponge: bytes are fed one by one; the sponge and what is hashed with it; Pure sponge: words and their bytes are one; absorber.write; The reference's sponge, on bytes: what it computes is the sponge on words; The reference's sponge; absorber.out, and what hashes with it; absorber.frame; the reference's Frame; Hash, stream and Stream of the sponge; sponge.tag and sponge.Tag; mintvaultlaw1.SpongeTurns: the walk of the law; The reference's Hash and Stream; the law SpongeHashes; Arguments that were handed in, opened into the words of Mem; The reference's Tag; A log of the sponge, the reference's: NewLog, Say, Ask, Clone; The tree, plain: what a path leads to, from its end (the document) and from its beginning (the program); The tree: node, leafHash, bytes.Equal, sized, lists, small; the reference's leaf, node, half, sized; SpongeLogs: what stays of many logs, step by step; mintvaultlaw8.lists, small: lists of strings as lists of bytes; bytes.Clone; lists of owned slices of bytes that lie apart; num.Powers: what it answers; The law's powers; Sum: what it answers, for all lists; the law's own sum; The law GroupSums; From a walk that turns nothing (Fr Nob) to what a law's row asks behind the call. -/
import Derived.Test.YtdbgddngapminaaMgGroupSumsProof8
import Derived.Test.YtdbgddngapminaaMgGroupSumsProof7
import Derived.Test.YtdbgddngapminaaMgGroupSumsProof4
import Derived.KernelRfl
import Derived.Test.YtdbgddngapminaaMgGroupSumsProof1
import Derived.Test.YtdbgddngapminaaMgGroupSumsProof2
import Derived.SliceStrings
import Derived.SizedLaws
import Derived.OpenShut
import Derived.ProofKit
import Derived.IntWalk
import Derived.Test.YtdbgddngapminaaMgGroupSumsProof3
import Derived.Carry
namespace Go.Proofs.Ytdbgddngapminaa
open Go.RowKit Go.Mv Mvp Mvq
theorem exec_eqlS {o : Oper} {a : Act} {p q : Operand} {T U : TypeId} {s t : ByteArray} (ho : o.op = .binOp .eql T p q U) (hp : a.eval p = .string s) (hq : a.eval q = .string t) {b : Bool} (hb : decide (s = t) = b) (w : World) :
    (execOp a.eval o).run Try.prog w = .ok (.value (.bool b)) w := by
  subst hb
  exact exec_binop ho hp hq w (by go_simp) (by
    go_simp
    rw [Bool.eq_iff_iff, beq_iff_eq, decide_eq_true_eq, toList_data, toList_data]
    exact ⟨fun h => ByteArray.ext (Array.toList_inj.1 h), fun h => by rw [h]⟩)
attribute [local irreducible] limbs lw mix cw cSub cAdd cMul foldC valFrom beN laid be32 powm montT mstep elN mdL numB rtV rtOk kN kc kinv wrPt addR noR timesR tmsR RT.L gXn gYn
set_option maxHeartbeats 16000000 in
set_option maxRecDepth 1000000 in
theorem RRead_zero (s : ByteArray) (hz : decide (s = (mkS (List.replicate 33 0))) = true) (w : World) : Calls Try.prog 9 #[.string s] w fun e w' => e = .returned (.tuple #[.agg noR.L.toArray, .bool true]) ∧ Fr Nob w w' := by
  have HZ := Lib.hid hz
  clear hz
  have st0 := St.start Nob w
  go_enter Try.func9, Try.ntmps9
  go_wp2_with (with_reducible refine wl_stop (o := ⟨some 2, _, _, _, _, _⟩) ?_)
  refine wl_allocS st0 rfl rfl (z := .agg #[.int .u64 0, .int .u64 0, .int .u64 0, .int .u64 0, .int .u64 0, .int .u64 0, .int .u64 0, .int .u64 0, .int .u64 0, .int .u64 0, .int .u64 0, .int .u64 0]) (by kernel_rfl) (cw 12 0) (by rw [cw_zero]; rfl) ?_
  intro g2 w1 st1
  clear st0
  go_wp2_with (with_reducible refine wl_stop (o := ⟨some 8, _, _, _, _, _⟩) ?_)
  refine wl_make rfl rfl Try.underlying34 info_u8 rfl rfl rfl 33 33 (by simp) (by simp) (by omega) (by omega) (by unfold maxLen; omega) ?_
  intro w2 hg2 hf2 hz2
  clear hz2
  have st2 := st1.new hf2 hg2 (Nat.le_refl _)
  clear st1 hg2 hf2
  rw [z_u8] at st2
  go_wp2_with (with_reducible refine wl_stop (o := ⟨some 9, _, _, _, _, _⟩) ?_)
  refine wl_string rfl rfl Try.underlying34 Try.underlying5 Try.underlying9 rfl (l := List.replicate 33 0) (Rd.whole (st2.at 1 rfl)) ?_
  have st3 := st2.less (List.sublist_append_left _ _)
  clear st2
  go_wp2_with (with_reducible refine wl_stop (o := ⟨some 10, _, _, _, _, _⟩) ?_)
  refine wl_exec rfl (exec_eqlS rfl rfl rfl HZ.out _) ?_
  go_wp2_with fail
  refine (RNone_c _).mono ?_
  rintro e' w4 ⟨rfl, hf4⟩
  have st4 := st3.keep hf4
  clear st3 hf4
  go_wp2_with (with_reducible refine wl_stop (o := ⟨none, _, _, _, _, _⟩) ?_)
  refine wl_storeS st4 0 rfl rfl rfl rfl rfl (by first | (simp [cw_len]; done) | (simp [RT.len]; done) | (simp [cw_len, RT.len]; done) | simp [cw_len, RT.len]) (by kernel_rfl) (RT.one _) ?_
  intro w5 st5
  clear st4
  have hr := st5.at 0 rfl
  have hfr := st5.fr
  clear st5
  go_wp2_with fail
  exact bodyPost_ret (results_st2 rfl rfl hr Try.underlying26 rfl (by kernel_rfl) rfl) rfl ⟨rfl, hfr⟩

set_option maxHeartbeats 16000000 in
set_option maxRecDepth 1000000 in
theorem RRead_len (s : ByteArray) (hz : decide (s = (mkS (List.replicate 33 0))) = false) (hl : ((s.size : Int) != 33) = true) (w : World) : Calls Try.prog 9 #[.string s] w fun e w' => e = .returned (.tuple #[rpV 0 0 0, .bool false]) ∧ Fr Nob w w' := by
  have HZ := Lib.hid hz
  clear hz
  have st0 := St.start Nob w
  go_enter Try.func9, Try.ntmps9
  go_wp2_with (with_reducible refine wl_stop (o := ⟨some 2, _, _, _, _, _⟩) ?_)
  refine wl_allocS st0 rfl rfl (z := .agg #[.int .u64 0, .int .u64 0, .int .u64 0, .int .u64 0, .int .u64 0, .int .u64 0, .int .u64 0, .int .u64 0, .int .u64 0, .int .u64 0, .int .u64 0, .int .u64 0]) (by kernel_rfl) (cw 12 0) (by rw [cw_zero]; rfl) ?_
  intro g2 w1 st1
  clear st0
  go_wp2_with (with_reducible refine wl_stop (o := ⟨some 8, _, _, _, _, _⟩) ?_)
  refine wl_make rfl rfl Try.underlying34 info_u8 rfl rfl rfl 33 33 (by simp) (by simp) (by omega) (by omega) (by unfold maxLen; omega) ?_
  intro w2 hg2 hf2 hz2
  clear hz2
  have st2 := st1.new hf2 hg2 (Nat.le_refl _)
  clear st1 hg2 hf2
  rw [z_u8] at st2
  go_wp2_with (with_reducible refine wl_stop (o := ⟨some 9, _, _, _, _, _⟩) ?_)
  refine wl_string rfl rfl Try.underlying34 Try.underlying5 Try.underlying9 rfl (l := List.replicate 33 0) (Rd.whole (st2.at 1 rfl)) ?_
  have st3 := st2.less (List.sublist_append_left _ _)
  clear st2
  go_wp2_with (with_reducible refine wl_stop (o := ⟨some 10, _, _, _, _, _⟩) ?_)
  refine wl_exec rfl (exec_eqlS rfl rfl rfl HZ.out _) ?_
  go_wp2_with (with_reducible refine wl_stop (o := ⟨some 25, _, _, _, _, _⟩) ?_)
  refine wl_buildL rfl rfl _ built_rp0 ?_
  go_wp2_with (with_reducible refine wl_stop (o := ⟨none, _, _, _, _, _⟩) ?_)
  refine wl_storeS st3 0 rfl rfl rfl rfl rfl (by simp [cw_len]) (by kernel_rfl) (pt_one _ _ _) ?_
  intro w4 st4
  clear st3
  have hr := st4.at 0 rfl
  have hfr := st4.fr
  clear st4
  go_wp2_with fail
  exact bodyPost_ret (results_st2 rfl rfl hr Try.underlying26 rfl (by kernel_rfl) rfl) rfl ⟨by unfold rpV rpL; rw [kN_zero]; rfl, hfr⟩

set_option maxHeartbeats 16000000 in
set_option maxRecDepth 1000000 in
theorem RRead_head (s : ByteArray) (hz : decide (s = (mkS (List.replicate 33 0))) = false) (hl : s.size = 33) (q : Nat) (hb : ∀ h : 0 < s.size, ((s[0]'h).toNat : Int) = (q : Int)) (h2 : ((q : Int) != 2) = true) (h3 : ((q : Int) != 3) = true) (w : World) : Calls Try.prog 9 #[.string s] w fun e w' => e = .returned (.tuple #[rpV 0 0 0, .bool false]) ∧ Fr Nob w w' := by
  have HZ := Lib.hid hz
  clear hz
  have hl33 : ((s.size : Int) != 33) = false := by rw [hl]; rfl
  have h0 : (0 : Int) < (s.size : Int) := by omega
  have h00 : 0 < s.size := by omega
  have h1 : (1 : Int) ≤ (s.size : Int) := by omega
  have hb0 := hb h00
  clear hl hb
  have st0 := St.start Nob w
  go_enter Try.func9, Try.ntmps9
  go_wp2_with (with_reducible refine wl_stop (o := ⟨some 2, _, _, _, _, _⟩) ?_)
  refine wl_allocS st0 rfl rfl (z := .agg #[.int .u64 0, .int .u64 0, .int .u64 0, .int .u64 0, .int .u64 0, .int .u64 0, .int .u64 0, .int .u64 0, .int .u64 0, .int .u64 0, .int .u64 0, .int .u64 0]) (by kernel_rfl) (cw 12 0) (by rw [cw_zero]; rfl) ?_
  intro g2 w1 st1
  clear st0
  go_wp2_with (with_reducible refine wl_stop (o := ⟨some 8, _, _, _, _, _⟩) ?_)
  refine wl_make rfl rfl Try.underlying34 info_u8 rfl rfl rfl 33 33 (by simp) (by simp) (by omega) (by omega) (by unfold maxLen; omega) ?_
  intro w2 hg2 hf2 hz2
  clear hz2
  have st2 := st1.new hf2 hg2 (Nat.le_refl _)
  clear st1 hg2 hf2
  rw [z_u8] at st2
  go_wp2_with (with_reducible refine wl_stop (o := ⟨some 9, _, _, _, _, _⟩) ?_)
  refine wl_string rfl rfl Try.underlying34 Try.underlying5 Try.underlying9 rfl (l := List.replicate 33 0) (Rd.whole (st2.at 1 rfl)) ?_
  have st3 := st2.less (List.sublist_append_left _ _)
  clear st2
  go_wp2_with (with_reducible refine wl_stop (o := ⟨some 10, _, _, _, _, _⟩) ?_)
  refine wl_exec rfl (exec_eqlS rfl rfl rfl HZ.out _) ?_
  go_wp2_with (with_reducible refine wl_stop (o := ⟨some 25, _, _, _, _, _⟩) ?_)
  refine wl_buildL rfl rfl _ built_rp0 ?_
  go_wp2_with (with_reducible refine wl_stop (o := ⟨none, _, _, _, _, _⟩) ?_)
  refine wl_storeS st3 0 rfl rfl rfl rfl rfl (by simp [cw_len]) (by kernel_rfl) (pt_one _ _ _) ?_
  intro w4 st4
  clear st3
  have hr := st4.at 0 rfl
  have hfr := st4.fr
  clear st4
  go_wp2_with fail
  exact bodyPost_ret (results_st2 rfl rfl hr Try.underlying26 rfl (by kernel_rfl) rfl) rfl ⟨by unfold rpV rpL; rw [kN_zero]; rfl, hfr⟩

set_option maxHeartbeats 16000000 in
set_option maxRecDepth 1000000 in
theorem RRead_num2 (s : ByteArray) (hz : decide (s = (mkS (List.replicate 33 0))) = false) (hl : s.size = 33) (hb : ∀ h : 0 < s.size, ((s[0]'h).toNat : Int) = 2) (hn : ∀ wx, Calls Try.prog 11 #[fv mP.M, .string (s.extract 1 s.size)] wx fun e w' => ∃ N : Nat, e = .returned (.tuple #[i4 N, .bool false]) ∧ True ∧ Fr Nob wx w') (w : World) : Calls Try.prog 9 #[.string s] w fun e w' => e = .returned (.tuple #[rpV 0 0 0, .bool false]) ∧ Fr Nob w w' := by
  have HZ := Lib.hid hz
  clear hz
  have hl33 : ((s.size : Int) != 33) = false := by rw [hl]; rfl
  have h0 : (0 : Int) < (s.size : Int) := by omega
  have h00 : 0 < s.size := by omega
  have h1 : (1 : Int) ≤ (s.size : Int) := by omega
  have hb0 := hb h00
  clear hl hb
  have HN := Lib.hid hn
  clear hn
  have st0 := St.start Nob w
  go_enter Try.func9, Try.ntmps9
  go_wp2_with (with_reducible refine wl_stop (o := ⟨some 2, _, _, _, _, _⟩) ?_)
  refine wl_allocS st0 rfl rfl (z := .agg #[.int .u64 0, .int .u64 0, .int .u64 0, .int .u64 0, .int .u64 0, .int .u64 0, .int .u64 0, .int .u64 0, .int .u64 0, .int .u64 0, .int .u64 0, .int .u64 0]) (by kernel_rfl) (cw 12 0) (by rw [cw_zero]; rfl) ?_
  intro g2 w1 st1
  clear st0
  go_wp2_with (with_reducible refine wl_stop (o := ⟨some 8, _, _, _, _, _⟩) ?_)
  refine wl_make rfl rfl Try.underlying34 info_u8 rfl rfl rfl 33 33 (by simp) (by simp) (by omega) (by omega) (by unfold maxLen; omega) ?_
  intro w2 hg2 hf2 hz2
  clear hz2
  have st2 := st1.new hf2 hg2 (Nat.le_refl _)
  clear st1 hg2 hf2
  rw [z_u8] at st2
  go_wp2_with (with_reducible refine wl_stop (o := ⟨some 9, _, _, _, _, _⟩) ?_)
  refine wl_string rfl rfl Try.underlying34 Try.underlying5 Try.underlying9 rfl (l := List.replicate 33 0) (Rd.whole (st2.at 1 rfl)) ?_
  have st3 := st2.less (List.sublist_append_left _ _)
  clear st2
  go_wp2_with (with_reducible refine wl_stop (o := ⟨some 10, _, _, _, _, _⟩) ?_)
  refine wl_exec rfl (exec_eqlS rfl rfl rfl HZ.out _) ?_
  go_wp2_with fail
  refine wp_region_noPanic ?_
  refine wp_region_lad st3 9 [.o 7, .w 1, .w 2, .c 0, .c 3, .w 4, .w 5, .w 6, .j 7] (.r 8 (.m 9 .nil)) (by kernel_rfl) (by kernel_rfl) (fun _ _ _ _ _ h => h) ?_
  clear st3
  refine lad_o rfl rfl rfl z_rn (cw 4 0) rfl ?_
  try simp only [Act.put, List.setIfInBounds_toArray, List.set_cons_zero, List.set_cons_succ]
  iterate 2 (refine lad_w (v := ?_) rfl rfl (fun xq wx => ?_) ?_; rotate_left 1; · (go_simp; with_reducible rfl); try simp only [Act.put, List.setIfInBounds_toArray, List.set_cons_zero, List.set_cons_succ])
  refine lad_call rfl rfl rfl Try.call36 (fun w hS hR => RF_any _) (fun _ => rfl) ?_
  try simp only [Act.put, List.setIfInBounds_toArray, List.set_cons_zero, List.set_cons_succ]
  refine lad_callX (X := Nat) (fun N => .tuple #[i4 N, .bool false]) (fun _ _ => True) (fun _ _ _ _ _ => trivial) rfl rfl rfl Try.call11 (fun w hS hR => HN.out _) (fun _ => rfl) fun N => ?_
  try simp only [Act.put, List.setIfInBounds_toArray, List.set_cons_zero, List.set_cons_succ]
  iterate 3 (refine lad_w (v := ?_) rfl rfl (fun xq wx => ?_) ?_; rotate_left 1; · (go_simp; with_reducible rfl); try simp only [Act.put, List.setIfInBounds_toArray, List.set_cons_zero, List.set_cons_succ])
  refine lad_j List.mem_cons_self fun g4 => ?_
  simp only [upd, reduceIte]
  refine lad_end fun xq w4 st4 hR => ?_
  try dsimp only
  clear hR xq
  refine plan_r rfl rfl ?_
  refine wp_storeS st4 1 rfl rfl rfl rfl (by simp [cw_len]) (by kernel_rfl) (cw_one _ _) ?_
  intro w5 st5
  repeat (first | simp only [List.cons_append] at st5 | simp only [List.nil_append] at st5 | simp only [List.set_cons_succ] at st5 | simp only [List.set_cons_zero] at st5)
  clear st4
  refine ⟨by first | exact st5 | exact St.less st5 (by simp), ?_⟩
  try simp only [Act.put]
  refine plan_m rfl rfl ?_
  go_simp
  try simp only [Act.put, List.setIfInBounds_toArray, List.set_cons_zero, List.set_cons_succ]
  refine plan_end ?_
  refine NoPanic.normal ?_
  go_wp2_with (with_reducible refine wl_stop (o := ⟨some 35, _, _, _, _, _⟩) ?_)
  refine wl_buildL rfl rfl _ built_rp0 ?_
  go_wp2_with (with_reducible refine wl_stop (o := ⟨none, _, _, _, _, _⟩) ?_)
  refine wl_storeS st5 0 rfl rfl rfl rfl rfl (by simp [cw_len]) (by kernel_rfl) (pt_one _ _ _) ?_
  intro w6 st6
  clear st5
  have hr := st6.at 0 rfl
  have hfr := st6.fr
  clear st6
  go_wp2_with fail
  exact bodyPost_ret (results_st2 rfl rfl hr Try.underlying26 rfl (by kernel_rfl) rfl) rfl ⟨by unfold rpV rpL; rw [kN_zero]; rfl, hfr⟩

set_option maxHeartbeats 16000000 in
set_option maxRecDepth 1000000 in
theorem RRead_pt2 (s : ByteArray) (hz : decide (s = (mkS (List.replicate 33 0))) = false) (hl : s.size = 33) (hb : ∀ h : 0 < s.size, ((s[0]'h).toNat : Int) = 2) (X Y : K) (b : Bool) (hn : ∀ wx, Calls Try.prog 11 #[fv mP.M, .string (s.extract 1 s.size)] wx fun e w' => e = .returned (.tuple #[i4 (kN X), .bool true]) ∧ Fr Nob wx w') (ha : ∀ wx, Calls Try.prog 37 #[i4 (kN X)] wx fun e w' => e = .returned (.tuple #[rpV X Y 1, .bool b]) ∧ Fr Nob wx w') (w : World) : Calls Try.prog 9 #[.string s] w fun e w' => e = .returned (.tuple #[rpV X Y 1, .bool b]) ∧ Fr Nob w w' := by
  have HZ := Lib.hid hz
  clear hz
  have hl33 : ((s.size : Int) != 33) = false := by rw [hl]; rfl
  have h0 : (0 : Int) < (s.size : Int) := by omega
  have h00 : 0 < s.size := by omega
  have h1 : (1 : Int) ≤ (s.size : Int) := by omega
  have hb0 := hb h00
  clear hl hb
  have HN := Lib.hid hn
  unfold rpV rpL at ha
  have HAT := Lib.hid ha
  clear hn ha
  unfold rpV rpL
  have st0 := St.start Nob w
  go_enter Try.func9, Try.ntmps9
  go_wp2_with (with_reducible refine wl_stop (o := ⟨some 2, _, _, _, _, _⟩) ?_)
  refine wl_allocS st0 rfl rfl (z := .agg #[.int .u64 0, .int .u64 0, .int .u64 0, .int .u64 0, .int .u64 0, .int .u64 0, .int .u64 0, .int .u64 0, .int .u64 0, .int .u64 0, .int .u64 0, .int .u64 0]) (by kernel_rfl) (cw 12 0) (by rw [cw_zero]; rfl) ?_
  intro g2 w1 st1
  clear st0
  go_wp2_with (with_reducible refine wl_stop (o := ⟨some 8, _, _, _, _, _⟩) ?_)
  refine wl_make rfl rfl Try.underlying34 info_u8 rfl rfl rfl 33 33 (by simp) (by simp) (by omega) (by omega) (by unfold maxLen; omega) ?_
  intro w2 hg2 hf2 hz2
  clear hz2
  have st2 := st1.new hf2 hg2 (Nat.le_refl _)
  clear st1 hg2 hf2
  rw [z_u8] at st2
  go_wp2_with (with_reducible refine wl_stop (o := ⟨some 9, _, _, _, _, _⟩) ?_)
  refine wl_string rfl rfl Try.underlying34 Try.underlying5 Try.underlying9 rfl (l := List.replicate 33 0) (Rd.whole (st2.at 1 rfl)) ?_
  have st3 := st2.less (List.sublist_append_left _ _)
  clear st2
  go_wp2_with (with_reducible refine wl_stop (o := ⟨some 10, _, _, _, _, _⟩) ?_)
  refine wl_exec rfl (exec_eqlS rfl rfl rfl HZ.out _) ?_
  go_wp2_with fail
  refine wp_region_noPanic ?_
  refine wp_region_lad st3 9 [.o 7, .w 1, .w 2, .c 0, .c 3, .w 4, .w 5, .w 6, .j 7] (.r 8 (.m 9 .nil)) (by kernel_rfl) (by kernel_rfl) (fun _ _ _ _ _ h => h) ?_
  clear st3
  refine lad_o rfl rfl rfl z_rn (cw 4 0) rfl ?_
  try simp only [Act.put, List.setIfInBounds_toArray, List.set_cons_zero, List.set_cons_succ]
  iterate 2 (refine lad_w (v := ?_) rfl rfl (fun xq wx => ?_) ?_; rotate_left 1; · (go_simp; with_reducible rfl); try simp only [Act.put, List.setIfInBounds_toArray, List.set_cons_zero, List.set_cons_succ])
  refine lad_call rfl rfl rfl Try.call36 (fun w hS hR => RF_any _) (fun _ => rfl) ?_
  try simp only [Act.put, List.setIfInBounds_toArray, List.set_cons_zero, List.set_cons_succ]
  refine lad_call rfl rfl rfl Try.call11 (fun w hS hR => HN.out _) (fun _ => rfl) ?_
  try simp only [Act.put, List.setIfInBounds_toArray, List.set_cons_zero, List.set_cons_succ]
  iterate 3 (refine lad_w (v := ?_) rfl rfl (fun xq wx => ?_) ?_; rotate_left 1; · (go_simp; with_reducible rfl); try simp only [Act.put, List.setIfInBounds_toArray, List.set_cons_zero, List.set_cons_succ])
  refine lad_j List.mem_cons_self fun g4 => ?_
  simp only [upd, reduceIte]
  refine lad_end fun xq w4 st4 hR => ?_
  try dsimp only
  clear hR xq
  refine plan_r rfl rfl ?_
  refine wp_storeS st4 1 rfl rfl rfl rfl (by simp [cw_len]) (by kernel_rfl) (cw_one _ _) ?_
  intro w5 st5
  repeat (first | simp only [List.cons_append] at st5 | simp only [List.nil_append] at st5 | simp only [List.set_cons_succ] at st5 | simp only [List.set_cons_zero] at st5)
  clear st4
  refine ⟨by first | exact st5 | exact St.less st5 (by simp), ?_⟩
  try simp only [Act.put]
  refine plan_m rfl rfl ?_
  go_simp
  try simp only [Act.put, List.setIfInBounds_toArray, List.set_cons_zero, List.set_cons_succ]
  refine plan_end ?_
  refine NoPanic.normal ?_
  go_wp2_with (with_reducible refine wl_stop (o := ⟨some 37, _, _, _, _, _⟩) ?_)
  refine wl_loadS st5 1 rfl rfl rfl Try.underlying24 rfl (by kernel_rfl) ?_
  go_wp2_with fail
  refine (HAT.out _).mono ?_
  rintro e' w6 ⟨rfl, hf6⟩
  have st6 := st5.keep hf6
  clear st5 hf6
  go_wp2_with (with_reducible refine wl_stop (o := ⟨some 6, _, _, _, _, _⟩) ?_)
  refine wl_allocS st6 rfl rfl (z := .agg #[.int .u64 0, .int .u64 0, .int .u64 0, .int .u64 0, .int .u64 0, .int .u64 0, .int .u64 0, .int .u64 0, .int .u64 0, .int .u64 0, .int .u64 0, .int .u64 0]) (by kernel_rfl) (cw 12 0) (by rw [cw_zero]; rfl) ?_
  intro g6 w7 st7
  clear st6
  go_wp2_with (with_reducible refine wl_stop (o := ⟨none, _, _, _, _, _⟩) ?_)
  refine wl_storeS st7 2 rfl rfl rfl rfl rfl (by simp [cw_len]) (by kernel_rfl) (pt_one _ _ _) ?_
  intro w8 st8
  clear st7
  go_wp2_with (with_reducible refine wl_stop (o := ⟨some 46, _, _, _, _, _⟩) ?_)
  refine wl_loadSt st8 2 rfl rfl rfl Try.underlying26 rfl rfl (by kernel_rfl) ?_
  go_wp2_with (with_reducible refine wl_stop (o := ⟨none, _, _, _, _, _⟩) ?_)
  refine wl_storeS st8 0 rfl rfl rfl rfl rfl (by simp [cw_len]) (by kernel_rfl) (pt_one _ _ _) ?_
  intro w9 st9
  clear st8
  have hr := st9.at 0 rfl
  have hfr := st9.fr
  clear st9
  go_wp2_with fail
  exact bodyPost_ret (results_st2 rfl rfl hr Try.underlying26 rfl (by kernel_rfl) rfl) rfl ⟨rfl, hfr⟩

theorem RNeg_u (x y z : K) (w : World) : Calls Try.prog 18 #[.agg (cw 4 (kN x) ++ (cw 4 (kN y) ++ cw 4 (kN z))).toArray] w fun e w' => e = .returned (.agg (cw 4 (kN x) ++ (cw 4 (kN (-y)) ++ cw 4 (kN z))).toArray) ∧ Fr Nob w w' := RNeg_any x y z _ rfl w

set_option maxHeartbeats 16000000 in
set_option maxRecDepth 1000000 in
theorem RRead_num3 (s : ByteArray) (hz : decide (s = (mkS (List.replicate 33 0))) = false) (hl : s.size = 33) (hb : ∀ h : 0 < s.size, ((s[0]'h).toNat : Int) = 3) (hn : ∀ wx, Calls Try.prog 11 #[fv mP.M, .string (s.extract 1 s.size)] wx fun e w' => ∃ N : Nat, e = .returned (.tuple #[i4 N, .bool false]) ∧ True ∧ Fr Nob wx w') (w : World) : Calls Try.prog 9 #[.string s] w fun e w' => e = .returned (.tuple #[rpV 0 0 0, .bool false]) ∧ Fr Nob w w' := by
  have HZ := Lib.hid hz
  clear hz
  have hl33 : ((s.size : Int) != 33) = false := by rw [hl]; rfl
  have h0 : (0 : Int) < (s.size : Int) := by omega
  have h00 : 0 < s.size := by omega
  have h1 : (1 : Int) ≤ (s.size : Int) := by omega
  have hb0 := hb h00
  clear hl hb
  have HN := Lib.hid hn
  clear hn
  have st0 := St.start Nob w
  go_enter Try.func9, Try.ntmps9
  go_wp2_with (with_reducible refine wl_stop (o := ⟨some 2, _, _, _, _, _⟩) ?_)
  refine wl_allocS st0 rfl rfl (z := .agg #[.int .u64 0, .int .u64 0, .int .u64 0, .int .u64 0, .int .u64 0, .int .u64 0, .int .u64 0, .int .u64 0, .int .u64 0, .int .u64 0, .int .u64 0, .int .u64 0]) (by kernel_rfl) (cw 12 0) (by rw [cw_zero]; rfl) ?_
  intro g2 w1 st1
  clear st0
  go_wp2_with (with_reducible refine wl_stop (o := ⟨some 8, _, _, _, _, _⟩) ?_)
  refine wl_make rfl rfl Try.underlying34 info_u8 rfl rfl rfl 33 33 (by simp) (by simp) (by omega) (by omega) (by unfold maxLen; omega) ?_
  intro w2 hg2 hf2 hz2
  clear hz2
  have st2 := st1.new hf2 hg2 (Nat.le_refl _)
  clear st1 hg2 hf2
  rw [z_u8] at st2
  go_wp2_with (with_reducible refine wl_stop (o := ⟨some 9, _, _, _, _, _⟩) ?_)
  refine wl_string rfl rfl Try.underlying34 Try.underlying5 Try.underlying9 rfl (l := List.replicate 33 0) (Rd.whole (st2.at 1 rfl)) ?_
  have st3 := st2.less (List.sublist_append_left _ _)
  clear st2
  go_wp2_with (with_reducible refine wl_stop (o := ⟨some 10, _, _, _, _, _⟩) ?_)
  refine wl_exec rfl (exec_eqlS rfl rfl rfl HZ.out _) ?_
  go_wp2_with fail
  refine wp_region_noPanic ?_
  refine wp_region_lad st3 9 [.o 7, .w 1, .w 2, .c 0, .c 3, .w 4, .w 5, .w 6, .j 7] (.r 8 (.m 9 .nil)) (by kernel_rfl) (by kernel_rfl) (fun _ _ _ _ _ h => h) ?_
  clear st3
  refine lad_o rfl rfl rfl z_rn (cw 4 0) rfl ?_
  try simp only [Act.put, List.setIfInBounds_toArray, List.set_cons_zero, List.set_cons_succ]
  iterate 2 (refine lad_w (v := ?_) rfl rfl (fun xq wx => ?_) ?_; rotate_left 1; · (go_simp; with_reducible rfl); try simp only [Act.put, List.setIfInBounds_toArray, List.set_cons_zero, List.set_cons_succ])
  refine lad_call rfl rfl rfl Try.call36 (fun w hS hR => RF_any _) (fun _ => rfl) ?_
  try simp only [Act.put, List.setIfInBounds_toArray, List.set_cons_zero, List.set_cons_succ]
  refine lad_callX (X := Nat) (fun N => .tuple #[i4 N, .bool false]) (fun _ _ => True) (fun _ _ _ _ _ => trivial) rfl rfl rfl Try.call11 (fun w hS hR => HN.out _) (fun _ => rfl) fun N => ?_
  try simp only [Act.put, List.setIfInBounds_toArray, List.set_cons_zero, List.set_cons_succ]
  iterate 3 (refine lad_w (v := ?_) rfl rfl (fun xq wx => ?_) ?_; rotate_left 1; · (go_simp; with_reducible rfl); try simp only [Act.put, List.setIfInBounds_toArray, List.set_cons_zero, List.set_cons_succ])
  refine lad_j List.mem_cons_self fun g4 => ?_
  simp only [upd, reduceIte]
  refine lad_end fun xq w4 st4 hR => ?_
  try dsimp only
  clear hR xq
  refine plan_r rfl rfl ?_
  refine wp_storeS st4 1 rfl rfl rfl rfl (by simp [cw_len]) (by kernel_rfl) (cw_one _ _) ?_
  intro w5 st5
  repeat (first | simp only [List.cons_append] at st5 | simp only [List.nil_append] at st5 | simp only [List.set_cons_succ] at st5 | simp only [List.set_cons_zero] at st5)
  clear st4
  refine ⟨by first | exact st5 | exact St.less st5 (by simp), ?_⟩
  try simp only [Act.put]
  refine plan_m rfl rfl ?_
  go_simp
  try simp only [Act.put, List.setIfInBounds_toArray, List.set_cons_zero, List.set_cons_succ]
  refine plan_end ?_
  refine NoPanic.normal ?_
  go_wp2_with (with_reducible refine wl_stop (o := ⟨some 35, _, _, _, _, _⟩) ?_)
  refine wl_buildL rfl rfl _ built_rp0 ?_
  go_wp2_with (with_reducible refine wl_stop (o := ⟨none, _, _, _, _, _⟩) ?_)
  refine wl_storeS st5 0 rfl rfl rfl rfl rfl (by simp [cw_len]) (by kernel_rfl) (pt_one _ _ _) ?_
  intro w6 st6
  clear st5
  have hr := st6.at 0 rfl
  have hfr := st6.fr
  clear st6
  go_wp2_with fail
  exact bodyPost_ret (results_st2 rfl rfl hr Try.underlying26 rfl (by kernel_rfl) rfl) rfl ⟨by unfold rpV rpL; rw [kN_zero]; rfl, hfr⟩

set_option maxHeartbeats 16000000 in
set_option maxRecDepth 1000000 in
theorem RRead_pt3 (s : ByteArray) (hz : decide (s = (mkS (List.replicate 33 0))) = false) (hl : s.size = 33) (hb : ∀ h : 0 < s.size, ((s[0]'h).toNat : Int) = 3) (X Y : K) (b : Bool) (hn : ∀ wx, Calls Try.prog 11 #[fv mP.M, .string (s.extract 1 s.size)] wx fun e w' => e = .returned (.tuple #[i4 (kN X), .bool true]) ∧ Fr Nob wx w') (ha : ∀ wx, Calls Try.prog 37 #[i4 (kN X)] wx fun e w' => e = .returned (.tuple #[rpV X Y 1, .bool b]) ∧ Fr Nob wx w') (w : World) : Calls Try.prog 9 #[.string s] w fun e w' => e = .returned (.tuple #[rpV X (-Y) 1, .bool b]) ∧ Fr Nob w w' := by
  have HZ := Lib.hid hz
  clear hz
  have hl33 : ((s.size : Int) != 33) = false := by rw [hl]; rfl
  have h0 : (0 : Int) < (s.size : Int) := by omega
  have h00 : 0 < s.size := by omega
  have h1 : (1 : Int) ≤ (s.size : Int) := by omega
  have hb0 := hb h00
  clear hl hb
  have HN := Lib.hid hn
  unfold rpV rpL at ha
  have HAT := Lib.hid ha
  clear hn ha
  unfold rpV rpL
  have st0 := St.start Nob w
  go_enter Try.func9, Try.ntmps9
  go_wp2_with (with_reducible refine wl_stop (o := ⟨some 2, _, _, _, _, _⟩) ?_)
  refine wl_allocS st0 rfl rfl (z := .agg #[.int .u64 0, .int .u64 0, .int .u64 0, .int .u64 0, .int .u64 0, .int .u64 0, .int .u64 0, .int .u64 0, .int .u64 0, .int .u64 0, .int .u64 0, .int .u64 0]) (by kernel_rfl) (cw 12 0) (by rw [cw_zero]; rfl) ?_
  intro g2 w1 st1
  clear st0
  go_wp2_with (with_reducible refine wl_stop (o := ⟨some 8, _, _, _, _, _⟩) ?_)
  refine wl_make rfl rfl Try.underlying34 info_u8 rfl rfl rfl 33 33 (by simp) (by simp) (by omega) (by omega) (by unfold maxLen; omega) ?_
  intro w2 hg2 hf2 hz2
  clear hz2
  have st2 := st1.new hf2 hg2 (Nat.le_refl _)
  clear st1 hg2 hf2
  rw [z_u8] at st2
  go_wp2_with (with_reducible refine wl_stop (o := ⟨some 9, _, _, _, _, _⟩) ?_)
  refine wl_string rfl rfl Try.underlying34 Try.underlying5 Try.underlying9 rfl (l := List.replicate 33 0) (Rd.whole (st2.at 1 rfl)) ?_
  have st3 := st2.less (List.sublist_append_left _ _)
  clear st2
  go_wp2_with (with_reducible refine wl_stop (o := ⟨some 10, _, _, _, _, _⟩) ?_)
  refine wl_exec rfl (exec_eqlS rfl rfl rfl HZ.out _) ?_
  go_wp2_with fail
  refine wp_region_noPanic ?_
  refine wp_region_lad st3 9 [.o 7, .w 1, .w 2, .c 0, .c 3, .w 4, .w 5, .w 6, .j 7] (.r 8 (.m 9 .nil)) (by kernel_rfl) (by kernel_rfl) (fun _ _ _ _ _ h => h) ?_
  clear st3
  refine lad_o rfl rfl rfl z_rn (cw 4 0) rfl ?_
  try simp only [Act.put, List.setIfInBounds_toArray, List.set_cons_zero, List.set_cons_succ]
  iterate 2 (refine lad_w (v := ?_) rfl rfl (fun xq wx => ?_) ?_; rotate_left 1; · (go_simp; with_reducible rfl); try simp only [Act.put, List.setIfInBounds_toArray, List.set_cons_zero, List.set_cons_succ])
  refine lad_call rfl rfl rfl Try.call36 (fun w hS hR => RF_any _) (fun _ => rfl) ?_
  try simp only [Act.put, List.setIfInBounds_toArray, List.set_cons_zero, List.set_cons_succ]
  refine lad_call rfl rfl rfl Try.call11 (fun w hS hR => HN.out _) (fun _ => rfl) ?_
  try simp only [Act.put, List.setIfInBounds_toArray, List.set_cons_zero, List.set_cons_succ]
  iterate 3 (refine lad_w (v := ?_) rfl rfl (fun xq wx => ?_) ?_; rotate_left 1; · (go_simp; with_reducible rfl); try simp only [Act.put, List.setIfInBounds_toArray, List.set_cons_zero, List.set_cons_succ])
  refine lad_j List.mem_cons_self fun g4 => ?_
  simp only [upd, reduceIte]
  refine lad_end fun xq w4 st4 hR => ?_
  try dsimp only
  clear hR xq
  refine plan_r rfl rfl ?_
  refine wp_storeS st4 1 rfl rfl rfl rfl (by simp [cw_len]) (by kernel_rfl) (cw_one _ _) ?_
  intro w5 st5
  repeat (first | simp only [List.cons_append] at st5 | simp only [List.nil_append] at st5 | simp only [List.set_cons_succ] at st5 | simp only [List.set_cons_zero] at st5)
  clear st4
  refine ⟨by first | exact st5 | exact St.less st5 (by simp), ?_⟩
  try simp only [Act.put]
  refine plan_m rfl rfl ?_
  go_simp
  try simp only [Act.put, List.setIfInBounds_toArray, List.set_cons_zero, List.set_cons_succ]
  refine plan_end ?_
  refine NoPanic.normal ?_
  go_wp2_with (with_reducible refine wl_stop (o := ⟨some 37, _, _, _, _, _⟩) ?_)
  refine wl_loadS st5 1 rfl rfl rfl Try.underlying24 rfl (by kernel_rfl) ?_
  go_wp2_with fail
  refine (HAT.out _).mono ?_
  rintro e' w6 ⟨rfl, hf6⟩
  have st6 := st5.keep hf6
  clear st5 hf6
  go_wp2_with (with_reducible refine wl_stop (o := ⟨some 6, _, _, _, _, _⟩) ?_)
  refine wl_allocS st6 rfl rfl (z := .agg #[.int .u64 0, .int .u64 0, .int .u64 0, .int .u64 0, .int .u64 0, .int .u64 0, .int .u64 0, .int .u64 0, .int .u64 0, .int .u64 0, .int .u64 0, .int .u64 0]) (by kernel_rfl) (cw 12 0) (by rw [cw_zero]; rfl) ?_
  intro g6 w7 st7
  clear st6
  go_wp2_with (with_reducible refine wl_stop (o := ⟨none, _, _, _, _, _⟩) ?_)
  refine wl_storeS st7 2 rfl rfl rfl rfl rfl (by simp [cw_len]) (by kernel_rfl) (pt_one _ _ _) ?_
  intro w8 st8
  clear st7
  go_wp2_with (with_reducible refine wl_stop (o := ⟨some 44, _, _, _, _, _⟩) ?_)
  refine wl_loadSt st8 2 rfl rfl rfl Try.underlying26 rfl rfl (by kernel_rfl) ?_
  go_wp2_with fail
  refine (RNeg_u X Y 1 _).mono ?_
  rintro e' w9 ⟨rfl, hf9⟩
  have st9 := st8.keep hf9
  clear st8 hf9
  go_wp2_with (with_reducible refine wl_stop (o := ⟨none, _, _, _, _, _⟩) ?_)
  refine wl_storeS st9 2 rfl rfl rfl rfl rfl (by simp [cw_len]) (by kernel_rfl) (pt_one _ _ _) ?_
  intro w10 st10
  clear st9
  go_wp2_with (with_reducible refine wl_stop (o := ⟨some 46, _, _, _, _, _⟩) ?_)
  refine wl_loadSt st10 2 rfl rfl rfl Try.underlying26 rfl rfl (by kernel_rfl) ?_
  go_wp2_with (with_reducible refine wl_stop (o := ⟨none, _, _, _, _, _⟩) ?_)
  refine wl_storeS st10 0 rfl rfl rfl rfl rfl (by simp [cw_len]) (by kernel_rfl) (pt_one _ _ _) ?_
  intro w11 st11
  clear st10
  have hr := st11.at 0 rfl
  have hfr := st11.fr
  clear st11
  go_wp2_with fail
  exact bodyPost_ret (results_st2 rfl rfl hr Try.underlying26 rfl (by kernel_rfl) rfl) rfl ⟨rfl, hfr⟩
end Go.Proofs.Ytdbgddngapminaa

/- The reference's Read, for all bytes; its Base, its Same. -/
namespace Go.Proofs.Ytdbgddngapminaa
open Go.RowKit Go.Mv Mvp Mvq
theorem beN_foldl (l : List UInt8) (a : Nat) : l.foldl (fun a x => a * 256 + x.toNat) a = a * 256 ^ l.length + beN l := by
  unfold beN
  induction l generalizing a with
  | nil => simp
  | cons x l ih =>
    rw [List.foldl_cons, List.foldl_cons, ih, ih (0 * 256 + x.toNat), List.length_cons, Nat.pow_succ]
    rw [Nat.zero_mul, Nat.zero_add, Nat.add_mul, Nat.mul_assoc, Nat.mul_comm 256]
    omega
theorem beN_cons (x : UInt8) (l : List UInt8) : beN (x :: l) = x.toNat * 256 ^ l.length + beN l := by
  have h := beN_foldl l (0 * 256 + x.toNat)
  rw [Nat.zero_mul, Nat.zero_add] at h
  show List.foldl _ 0 (x :: l) = _
  rw [List.foldl_cons, Nat.zero_mul, Nat.zero_add]
  exact h
theorem beN_zero : ∀ l : List UInt8, beN l = 0 → l = List.replicate l.length 0
  | [], _ => rfl
  | x :: l, h => by
    rw [beN_cons] at h
    have h1 : x.toNat * 256 ^ l.length = 0 := by omega
    have h2 : beN l = 0 := by omega
    have hx : x = 0 := by
      rcases Nat.mul_eq_zero.1 h1 with h | h
      · exact UInt8.toNat_inj.1 (by rw [h]; rfl)
      · exact absurd h (Nat.pos_iff_ne_zero.1 (Nat.pow_pos (by decide)))
    have ih := beN_zero l h2
    rw [List.length_cons, List.replicate_succ, ← ih, hx]
theorem mkS_inj {l m : List UInt8} (h : mkS l = mkS m) : l = m := by
  have := congrArg (fun s : ByteArray => s.data.toList) h
  simpa [mkS] using this
theorem mkS_at0 (l : List UInt8) (q : Nat) (h : (l.getD 0 0).toNat = q) (h0 : 0 < (mkS l).size) : (((mkS l)[0]'h0).toNat : Int) = (q : Int) := by
  have h1 : 0 < l.length := by rwa [mkS_size] at h0
  have : ((mkS l)[0]'h0) = l.getD 0 0 := by
    show (mkS l).data[0] = _
    simp [mkS, List.getD_eq_getElem?_getD, h1]
  rw [this, h]
theorem mkS_tail (l : List UInt8) : ((mkS l).extract 1 (mkS l).size).data.toList = l.drop 1 := by
  rw [mkS_size]
  simp [mkS]
  exact List.take_of_length_le (by simp)
theorem rdOk_zeros : rdOk (List.replicate 33 0) = true := by decide
attribute [local irreducible] rtV rtOk rpL crvN beN be32
theorem num_tail (l : List UInt8) (h33 : l.length = 33) : numB mP ((mkS l).extract 1 (mkS l).size).data.toList = decide (tlN l < fP) := by
  rw [mkS_tail]
  unfold numB tlN
  rw [List.length_drop, h33, mPM]
  rfl
theorem RNum_t (l : List UInt8) (h33 : l.length = 33) (hlt : tlN l < fP) (w : World) :
    Calls Try.prog 11 #[fv mP.M, .string ((mkS l).extract 1 (mkS l).size)] w fun e w' => e = .returned (.tuple #[i4 (kN (kc (tlN l))), .bool true]) ∧ Fr Nob w w' := by
  have h := Number_t mP mP_ok.lt ((mkS l).extract 1 (mkS l).size) w (by rw [num_tail l h33]; simpa using hlt)
  rw [mkS_tail] at h
  rw [kN_kc, Nat.mod_eq_of_lt hlt]
  exact h
theorem RNum_f (l : List UInt8) (h33 : l.length = 33) (hlt : ¬ tlN l < fP) (w : World) :
    Calls Try.prog 11 #[fv mP.M, .string ((mkS l).extract 1 (mkS l).size)] w fun e w' => ∃ N : Nat, e = .returned (.tuple #[i4 N, .bool false]) ∧ True ∧ Fr Nob w w' :=
  (Number_f mP mP_ok.lt _ w (by rw [num_tail l h33]; simpa using hlt)).mono fun e w' ⟨N, h1, h2⟩ => ⟨N, h1, trivial, h2⟩
theorem kN_crv (n : Nat) : kN (kc n * kc n * kc n + 7) = crvN n % fP := by rw [← crvN_kc, kN_kc]
theorem RAt_t (n : Nat) (hr : rtOk fP (crvN n) = true) (w : World) : Calls Try.prog 37 #[i4 (kN (kc n))] w fun e w' => e = .returned (.tuple #[rpV (kc n) (kc (rtV fP (crvN n))) 1, .bool true]) ∧ Fr Nob w w' := by
  have h := Rat_t (kc n) _ _ _ rfl rfl rfl (by rw [kN_crv, rtOk_mod]; exact hr) w
  rw [kN_crv, rtV_mod] at h
  exact h
theorem RAt_f (n : Nat) (hr : rtOk fP (crvN n) = false) (w : World) : Calls Try.prog 37 #[i4 (kN (kc n))] w fun e w' => e = .returned (.tuple #[rpV (kc n) 0 1, .bool false]) ∧ Fr Nob w w' :=
  Rat_f (kc n) _ _ _ rfl rfl rfl (by rw [kN_crv, rtOk_mod]; exact hr) w
theorem ne_zeros {l : List UInt8} (h : l ≠ List.replicate 33 0) : decide (mkS l = mkS (List.replicate 33 0)) = false := by
  simpa using fun e => h (mkS_inj e)
theorem zeros_of {l : List UInt8} (h33 : l.length = 33) (h0 : l.getD 0 0 = 0) (ht : tlN l = 0) : l = List.replicate 33 0 := by
  cases l with
  | nil => cases h33
  | cons x l =>
    have hx : x = 0 := h0
    have hl := beN_zero l ht
    rw [List.length_cons] at h33
    rw [hx, hl, show l.length = 32 by omega]
    rfl
theorem head_ne {l : List UInt8} (q : UInt8) (hq : q ≠ 0) (h : l.getD 0 0 = q) : l ≠ List.replicate 33 0 := by
  rintro rfl
  exact hq h.symm
theorem RRead_ex (l : List UInt8) (h : rdOk l = true) : ∃ r : RT, r.pt = rdPt l ∧ ∀ w : World, Calls Try.prog 9 #[.string (mkS l)] w fun e w' => e = .returned (.tuple #[.agg r.L.toArray, .bool true]) ∧ Fr Nob w w' := by
  have hon := rd_on h
  unfold rdOk at h
  unfold rdPt at *
  simp only [Bool.and_eq_true, decide_eq_true_eq] at h
  obtain ⟨h33, h⟩ := h
  by_cases h0 : l.getD 0 0 = 0
  · rw [if_pos h0] at h
    refine ⟨noR, by rw [if_pos h0, noR_pt], fun w => ?_⟩
    exact RRead_zero (mkS l) (by rw [zeros_of h33 h0 (by simpa using h)]; simp) w
  · rw [if_neg h0] at h hon
    simp only [Bool.and_eq_true, decide_eq_true_eq] at h
    obtain ⟨h23, hlt, hr⟩ := h
    rcases h23 with h2 | h3
    · have h3 : ¬ l.getD 0 0 = 3 := by rw [h2]; decide
      rw [if_neg h3] at hon
      refine ⟨affR _ _ hon, by rw [if_neg h0, if_neg h3, affR_pt], fun w => ?_⟩
      exact RRead_pt2 (mkS l) (ne_zeros (head_ne 2 (by decide) h2)) (by rw [mkS_size, h33]) (fun h => mkS_at0 l 2 (by rw [h2]; rfl) h) _ _ true (RNum_t l h33 hlt) (RAt_t _ hr) w
    · rw [if_pos h3] at hon
      refine ⟨affR _ _ hon, by rw [if_neg h0, if_pos h3, affR_pt], fun w => ?_⟩
      exact RRead_pt3 (mkS l) (ne_zeros (head_ne 3 (by decide) h3)) (by rw [mkS_size, h33]) (fun h => mkS_at0 l 3 (by rw [h3]; rfl) h) _ _ true (RNum_t l h33 hlt) (RAt_t _ hr) w
open Classical in
noncomputable def rdR (l : List UInt8) : RT := if h : rdOk l = true then Classical.choose (RRead_ex l h) else noR
theorem rdR_pt {l : List UInt8} (h : rdOk l = true) : (rdR l).pt = rdPt l := by unfold rdR; rw [dif_pos h]; exact (Classical.choose_spec (RRead_ex l h)).1
theorem RRead_tl (l : List UInt8) (h : rdOk l = true) (w : World) : Calls Try.prog 9 #[.string (mkS l)] w fun e w' => e = .returned (.tuple #[.agg (rdR l).L.toArray, .bool true]) ∧ Fr Nob w w' := by
  unfold rdR; rw [dif_pos h]; exact (Classical.choose_spec (RRead_ex l h)).2 w
theorem RRead_t (s : ByteArray) (h : rdOk s.data.toList = true) (w : World) : Calls Try.prog 9 #[.string s] w fun e w' => e = .returned (.tuple #[.agg (rdR s.data.toList).L.toArray, .bool true]) ∧ Fr Nob w w' := by
  have := RRead_tl s.data.toList h w
  rwa [mkS_data] at this
theorem RRead_fl (l : List UInt8) (h : rdOk l = false) (w : World) : Calls Try.prog 9 #[.string (mkS l)] w fun e w' => ∃ X Y Z : K, e = .returned (.tuple #[rpV X Y Z, .bool false]) ∧ Fr Nob w w' := by
  by_cases h33 : l.length = 33
  · by_cases h0 : l.getD 0 0 = 0
    · have hz : l ≠ List.replicate 33 0 := by
        rintro rfl
        rw [rdOk_zeros] at h
        cases h
      exact (RRead_head (mkS l) (ne_zeros hz) (by rw [mkS_size, h33]) 0 (fun h => mkS_at0 l 0 (by rw [h0]; rfl) h) rfl rfl w).mono fun e w' k => ⟨0, 0, 0, k.1, k.2⟩
    · by_cases h23 : l.getD 0 0 = 2 ∨ l.getD 0 0 = 3
      · by_cases hlt : tlN l < fP
        · have hr : rtOk fP (crvN (tlN l)) = false := by
            unfold rdOk at h
            rw [if_neg h0, decide_eq_true h33, decide_eq_true h23, decide_eq_true hlt] at h
            simpa using h
          rcases h23 with h2 | h3
          · exact (RRead_pt2 (mkS l) (ne_zeros (head_ne 2 (by decide) h2)) (by rw [mkS_size, h33]) (fun h => mkS_at0 l 2 (by rw [h2]; rfl) h) _ _ false (RNum_t l h33 hlt) (RAt_f _ hr) w).mono fun e w' k => ⟨_, _, _, k.1, k.2⟩
          · exact (RRead_pt3 (mkS l) (ne_zeros (head_ne 3 (by decide) h3)) (by rw [mkS_size, h33]) (fun h => mkS_at0 l 3 (by rw [h3]; rfl) h) _ _ false (RNum_t l h33 hlt) (RAt_f _ hr) w).mono fun e w' k => ⟨_, _, _, k.1, k.2⟩
        · rcases h23 with h2 | h3
          · exact (RRead_num2 (mkS l) (ne_zeros (head_ne 2 (by decide) h2)) (by rw [mkS_size, h33]) (fun h => mkS_at0 l 2 (by rw [h2]; rfl) h) (RNum_f l h33 hlt) w).mono fun e w' k => ⟨0, 0, 0, k.1, k.2⟩
          · exact (RRead_num3 (mkS l) (ne_zeros (head_ne 3 (by decide) h3)) (by rw [mkS_size, h33]) (fun h => mkS_at0 l 3 (by rw [h3]; rfl) h) (RNum_f l h33 hlt) w).mono fun e w' k => ⟨0, 0, 0, k.1, k.2⟩
      · have hz : l ≠ List.replicate 33 0 := by
          rintro rfl
          exact h0 rfl
        have hne : (l.getD 0 0).toNat ≠ 2 ∧ (l.getD 0 0).toNat ≠ 3 := by
          refine ⟨fun e => h23 (.inl (UInt8.toNat_inj.1 (e.trans rfl))), fun e => h23 (.inr (UInt8.toNat_inj.1 (e.trans rfl)))⟩
        obtain ⟨q, hq⟩ : ∃ q, (l.getD 0 0).toNat = q := ⟨_, rfl⟩
        rw [hq] at hne
        exact (RRead_head (mkS l) (ne_zeros hz) (by rw [mkS_size, h33]) q (fun h => mkS_at0 l q hq h) (by simp; omega) (by simp; omega) w).mono fun e w' k => ⟨0, 0, 0, k.1, k.2⟩
  · have hz : l ≠ List.replicate 33 0 := by
      rintro rfl
      exact h33 (by simp)
    exact (RRead_len (mkS l) (ne_zeros hz) (by rw [mkS_size]; simp; omega) w).mono fun e w' k => ⟨0, 0, 0, k.1, k.2⟩
theorem RRead_f (s : ByteArray) (h : rdOk s.data.toList = false) (w : World) : Calls Try.prog 9 #[.string s] w fun e w' => ∃ X Y Z : K, e = .returned (.tuple #[rpV X Y Z, .bool false]) ∧ Fr Nob w w' := by
  have := RRead_fl s.data.toList h w
  rwa [mkS_data] at this
end Go.Proofs.Ytdbgddngapminaa

/- The reference's Read and Number, each as one contract; the law's told. -/
namespace Go.Proofs.Ytdbgddngapminaa
open Go.RowKit Go.Mv Mvp Mvq
theorem RRead_u (s : ByteArray) (w : World) : Calls Try.prog 9 #[.string s] w fun e w' => ∃ X Y Z : K, e = .returned (.tuple #[rpV X Y Z, .bool (rdOk s.data.toList)]) ∧ (rdOk s.data.toList = true → rpL X Y Z = (rdR s.data.toList).L) ∧ Fr Nob w w' := by
  cases h : rdOk s.data.toList
  · exact (RRead_f s h w).mono fun e w' ⟨X, Y, Z, k1, k2⟩ => ⟨X, Y, Z, k1, fun h => (by cases h), k2⟩
  · exact (RRead_t s h w).mono fun e w' k => ⟨_, _, _, k.1, fun _ => rfl, k.2⟩
theorem RNumQ_u (s : ByteArray) (w : World) : Calls Try.prog 11 #[fv mQ.M, .string s] w fun e w' => ∃ N : Nat, e = .returned (.tuple #[i4 N, .bool (numB mQ s.data.toList)]) ∧ (numB mQ s.data.toList = true → N = beN s.data.toList) ∧ Fr Nob w w' := by
  cases h : numB mQ s.data.toList
  · exact (Number_f mQ mQ_ok.lt s w h).mono fun e w' ⟨N, k1, k2⟩ => ⟨N, k1, fun h => (by cases h), k2⟩
  · exact (Number_t mQ mQ_ok.lt s w h).mono fun e w' k => ⟨_, k.1, fun _ => rfl, k.2⟩
theorem RQ_u (w : World) : Calls Try.prog 10 #[] w fun e w' => e = .returned (fv mQ.M) ∧ Fr Nob w w' := Q_any mQ .one w
theorem told3_ok (v : Value) (l : List UInt8) (w : World) (hb : BPart w v l) :
    Calls Try.prog 22 #[v, .int .i64 0, .int .i64 0, .string (mkS l)] w fun e w' => e = .returned (.bool true) ∧ Fr Nob w w' := by
  obtain ⟨a, n, c, rfl, -, hrd⟩ := hb
  have hs := fun wx (h : Fr Nob w wx) => run_string (P := Try.prog) (hrd.still h) c Try.underlying34 Try.underlying5 Try.underlying9
  have hs0 := hs _ (Fr.refl _ _)
  clear hs hrd
  go_enter Try.func22, Try.ntmps22
  go_wp2_with fail
  go_ret
  exact ⟨rfl, Fr.refl _ _⟩
theorem told3_bad (v : Value) (w : World) (c : Int) (s : ByteArray) (hb : BPart w v []) (hc : (c != 0) = true) :
    Calls Try.prog 22 #[v, .int .i64 c, .int .i64 c, .string s] w fun e w' => e = .returned (.bool true) ∧ Fr Nob w w' := by
  obtain ⟨a, n, d, rfl, -, hrd⟩ := hb
  obtain rfl : n = 0 := hrd.len.symm
  go_enter Try.func22, Try.ntmps22
  go_wp2_with fail
  go_ret
  exact ⟨rfl, Fr.refl _ _⟩
theorem told3_u (v : Value) (l : List UInt8) (c e : Int) (s : ByteArray) (w : World) (hb : BPart w v l) (h : (e = 0 ∧ c = 0 ∧ s = mkS l) ∨ ((e != 0) = true ∧ c = e ∧ l = [])) :
    Calls Try.prog 22 #[v, .int .i64 c, .int .i64 e, .string s] w fun e w' => e = .returned (.bool true) ∧ Fr Nob w w' := by
  rcases h with ⟨rfl, rfl, rfl⟩ | ⟨h1, rfl, rfl⟩
  · exact told3_ok v l w hb
  · exact told3_bad v w c s hb h1
theorem t_ok {lk la : List UInt8} (hk : numB mQ lk = true) (ha : rdOk la = true) : tC lk la = 0 ∧ tS lk la = wrPt (pmul (beN lk) (rdPt la)) := by unfold tC tS; rw [hk, ha]; exact ⟨rfl, rfl⟩
theorem rpL_one (x y z : K) : ∀ v ∈ rpL x y z, v.oneCell' = true := pt_one _ _ _
end Go.Proofs.Ytdbgddngapminaa

/- num.Dot: what it answers. -/
namespace Mvp
end Mvp
namespace Go.Proofs.Ytdbgddngapminaa
open Go.RowKit Go.Mv Mvp
attribute [local irreducible] limbs lw mix cw cSub cAdd cMul foldC valFrom beN laid be32 powm montT mstep elN mdL numsB numB
end Go.Proofs.Ytdbgddngapminaa

/- Pure sponge: what the program's and the reference's permutation compute, and that the two are one. -/
namespace Mvp


/- the program -/
/- the reference -/
def place (x y : Nat) : Nat := x % 5 + 5 * (y % 5)
/- the constants of the rounds -/
/- how far the lanes are turned -/
/- bytes into words, and back -/
end Mvp

/- word functions of the sponge -/
namespace Go.Proofs.Ytdbgddngapminaa
open Go.RowKit Go.Mv Mvp

end Go.Proofs.Ytdbgddngapminaa

/- the constants of the rounds, and how far the lanes are turned -/
namespace Go.Proofs.Ytdbgddngapminaa
open Go.RowKit Go.Mv Mvp

end Go.Proofs.Ytdbgddngapminaa

/- how far the lanes are turned -/
namespace Go.Proofs.Ytdbgddngapminaa
open Go.RowKit Go.Mv Mvp

end Go.Proofs.Ytdbgddngapminaa

/- the state: bytes are added, and given -/
namespace Go.Proofs.Ytdbgddngapminaa
open Go.RowKit Go.Mv Mvp

end Go.Proofs.Ytdbgddngapminaa

/- the state's bytes; Permute -/
namespace Go.Proofs.Ytdbgddngapminaa
open Go.RowKit Go.Mv Mvp

end Go.Proofs.Ytdbgddngapminaa

/- the permutation of the program -/
namespace Go.Proofs.Ytdbgddngapminaa
open Go.RowKit Go.Mv Mvp

end Go.Proofs.Ytdbgddngapminaa

/- the reference's round -/
namespace Go.Proofs.Ytdbgddngapminaa
open Go.RowKit Go.Mv Mvp

end Go.Proofs.Ytdbgddngapminaa

/- Pure sponge: the permutation of bytes, both ways. -/
namespace Mvp

/- the reference's way: by or -/
end Mvp

/- Permute, the program's and the reference's -/
namespace Go.Proofs.Ytdbgddngapminaa
open Go.RowKit Go.Mv Mvp

end Go.Proofs.Ytdbgddngapminaa

/- Permute of the reference -/
namespace Go.Proofs.Ytdbgddngapminaa
open Go.RowKit Go.Mv Mvp

end Go.Proofs.Ytdbgddngapminaa

/- Pure sponge: bytes are fed one by one; the sponge and what is hashed with it. -/
namespace Mvp

/- the sponge -/
end Mvp

/- Pure sponge: words and their bytes are one. -/
namespace Mvp

end Mvp

/- absorber.write -/
namespace Go.Proofs.Ytdbgddngapminaa
open Go.RowKit Go.Mv Mvp

end Go.Proofs.Ytdbgddngapminaa

/- The reference's sponge, on bytes: what it computes is the sponge on words. -/
namespace Mvp

/-- bytes of the state, j of them added to -/
def addB (b p : List UInt8) : Nat → List UInt8
  | 0 => b
  | j + 1 => (addB b p j).set j (bx ((addB b p j).getD j 0) (p.getD j 0))
end Mvp

/- The reference's sponge -/
namespace Go.Proofs.Ytdbgddngapminaa
open Go.RowKit Go.Mv Mvp
theorem Rd.take {w : World} {a : Option Addr} {n : Nat} {vs : List Value} (h : Rd w a n vs) (p : Nat) (hp : p ≤ n) : Rd w a p (vs.take p) := by
  refine ⟨by rw [List.length_take, h.len]; omega, h.2.imp (fun h0 => by omega) ?_⟩
  rintro ⟨b, o, rfl, hc⟩
  refine ⟨b, o, rfl, fun i v hv => ?_⟩
  rw [List.getElem?_take] at hv
  split at hv
  · exact hc i v hv
  · cases hv
end Go.Proofs.Ytdbgddngapminaa

/- absorber.out, and what hashes with it -/
namespace Go.Proofs.Ytdbgddngapminaa
open Go.RowKit Go.Mv Mvp
end Go.Proofs.Ytdbgddngapminaa

/- absorber.frame; the reference's Frame -/
namespace Mvp
end Mvp
namespace Go.Proofs.Ytdbgddngapminaa
open Go.RowKit Go.Mv Mvp
end Go.Proofs.Ytdbgddngapminaa

/- Hash, stream and Stream of the sponge -/
namespace Go.Proofs.Ytdbgddngapminaa
open Go.RowKit Go.Mv Mvp
end Go.Proofs.Ytdbgddngapminaa

/- sponge.tag and sponge.Tag -/
namespace Go.Proofs.Ytdbgddngapminaa
open Go.RowKit Go.Mv Mvp
/-- the value reads as these bytes, from an old block -/
def PartIs (w : World) (v : Value) (l : List UInt8) : Prop := ∃ a n c, v = .slice a n c ∧ n ≤ c ∧ n ≤ 1000000 ∧ RdB w a n l ∧ Old w a
theorem PartIs.still {w w' : World} {v : Value} {l : List UInt8} (h : PartIs w v l) (hf : Fr Nob w w') : PartIs w' v l := by
  obtain ⟨a, n, c, h1, h2, h3, h4, h5⟩ := h
  exact ⟨a, n, c, h1, h2, h3, h4.still hf, h5.grow hf.size⟩
/-- a slice of slices of bytes -/
def PartsAt (w : World) (a : Option Addr) (ls : List (List UInt8)) : Prop := ∃ vs : List Value, Rd w a ls.length vs ∧ ∀ (i : Nat) (v : Value), vs[i]? = some v → ∃ l : List UInt8, ls[i]? = some l ∧ PartIs w v l
theorem PartsAt.get {w : World} {a : Option Addr} {ls : List (List UInt8)} (h : PartsAt w a ls) {j : Nat} (hj : j < ls.length) : ∃ b o v, a = some ⟨b, o, none⟩ ∧ w.cell? ⟨b, o + j, none⟩ = some v ∧ PartIs w v (ls.getD j []) := by
  obtain ⟨vs, hr, hv⟩ := h
  obtain ⟨b, o, rfl, hat⟩ := hr.at (by omega)
  have hl := hr.len
  obtain ⟨l, h1, h2⟩ := hv j (vs[j]'(by omega)) (List.getElem?_eq_getElem (by omega))
  refine ⟨b, o, vs[j]'(by omega), rfl, hat j _ (List.getElem?_eq_getElem (by omega)), ?_⟩
  rwa [List.getD_eq_getElem?_getD, h1]
theorem PartsAt.still {w w' : World} {a : Option Addr} {ls : List (List UInt8)} (h : PartsAt w a ls) (hf : Fr Nob w w') : PartsAt w' a ls := by
  obtain ⟨vs, hr, hv⟩ := h
  refine ⟨vs, hr.still hf, fun i v hi => ?_⟩
  obtain ⟨l, h1, h2⟩ := hv i v hi
  exact ⟨l, h1, h2.still hf⟩
end Go.Proofs.Ytdbgddngapminaa

/- mintvaultlaw1.SpongeTurns: the walk of the law -/
namespace Go.Proofs.Ytdbgddngapminaa
open Go.RowKit Go.Mv Mvp

end Go.Proofs.Ytdbgddngapminaa

/- The reference's Hash and Stream; the law SpongeHashes -/
namespace Go.Proofs.Ytdbgddngapminaa
open Go.RowKit Go.Mv Mvp
end Go.Proofs.Ytdbgddngapminaa

/- Arguments that were handed in, opened into the words of Mem. -/
namespace Go.Mv
open Go.RowKit Go.ChangeShapes Go.WideShapes

/-- strings as values -/
def ss (l : List (List UInt8)) : List Value := l.map fun x => .string (mkS x)
theorem ss_len (l : List (List UInt8)) : (ss l).length = l.length := by simp [ss]
theorem ss_get (l : List (List UInt8)) (i : Nat) (hi : i < l.length) : (ss l)[i]? = some (.string (mkS (l.getD i []))) := by
  simp [ss, List.getD_eq_getElem?_getD, hi]

section
variable {H : Type} {enc : TypeId × Value → H} {P : Program} {w : World} {base : Nat} {held : Bool} {spare : Nat → Bool}
theorem weightsAll_mem {e : TypeId} : ∀ {ds : List (DataW H)} {d : DataW H}, d ∈ ds → ∀ n ∈ d.weights P e, n ∈ DataW.weightsAll P e ds
  | [], _, h, _, _ => by simp at h
  | d0 :: ds, d, h, n, hn => by
    simp only [DataW.weightsAll, List.mem_append]
    rcases List.mem_cons.1 h with rfl | h
    · exact .inl hn
    · exact .inr (weightsAll_mem h n hn)
/-- a slice of strings that came in -/
theorem open_ss {ts : List TypeId} {ds : List (DataW H)} {j : Nat} {t e : TypeId} {v : Value} {d : DataW H} {ps : List MemPlace} (ht : P.underlying t = some (.slice e)) (he : P.underlying e = some .string) (hc : P.cellsOf e = 1) (hby : P.bytesOf e = 16)
    (hv : Value.okWide P w .any base t v) (h : DataW.Trod enc P w 0 spare held t v d ps) (hz : (DataW.weightsEach P ts ds).all (· ≤ reachBytes) = true) (htj : ts[j]? = some t) (hdj : ds[j]? = some d) :
    ∃ a c ls, v = .slice a ls.length c ∧ Rd w a ls.length (ss ls) ∧ (∀ x ∈ ls, x.length ≤ 140737488351232) ∧ ls.length ≤ 9223372036854775807 ∧ ls.length * 16 ≤ 140737488351232 ∧ ls.length ≤ c := by
  obtain ⟨a0, len, cap, rfl⟩ := okWide_slice ht hv
  obtain ⟨fuel, hf⟩ := h
  have hr : reachBytes = 140737488351232 := rfl
  rcases open_strings ht he hc hf with ⟨hcs, hx⟩ | ⟨a, len', cap', sl, hcs, _, hl, hm, hzl, hx, hcell, hsz⟩
  · simp only [Value.cells] at hcs
    simp only [List.cons.injEq, and_true, Value.slice.injEq] at hcs
    obtain ⟨rfl, rfl, rfl⟩ := hcs
    exact ⟨none, 0, [], rfl, Rd.nil _ _, by simp, by simp, by simp, by simp⟩
  · simp only [Value.cells] at hcs
    simp only [List.cons.injEq, and_true, Value.slice.injEq] at hcs
    obtain ⟨rfl, rfl, rfl⟩ := hcs
    simp only [Prod.mk.injEq] at hx
    obtain ⟨rfl, -⟩ := hx
    have hlen : (sl.take len).length = len := by
      rw [List.length_take, hzl]; split <;> omega
    have hlsl : len ≤ sl.length := by rw [hzl]; split <;> omega
    have hW := sized_slice hz htj hdj ht
    rw [hby, strs, strs, List.length_map, List.length_map, hr] at hW
    refine ⟨some a, cap, (sl.take len).map fun s => s.data.toList, by rw [List.length_map, hlen], ⟨by simp [ss], ?_⟩, ?_, ?_, ?_, ?_⟩
    · rcases Nat.eq_zero_or_pos len with h0 | h0
      · exact .inl (by simp [h0])
      · right
        obtain ⟨b, o, spot⟩ := a
        have hspot : spot = none := by simpa [Addr.add] using World.cell?_spot (hcell 0 (by omega))
        subst hspot
        refine ⟨b, o, rfl, ?_⟩
        intro i v hv
        have hi : i < len := by
          rcases Nat.lt_or_ge i len with k | k
          · exact k
          · rw [List.getElem?_eq_none (by simp [ss]; omega)] at hv; cases hv
        have h1 := hcell i (by omega)
        rw [addr_add] at h1
        have h2 : (ss ((sl.take len).map fun s => s.data.toList))[i]? = some (.string (sl.getD i ByteArray.empty)) := by
          have : i < sl.length := by omega
          simp [ss, hi, List.getD_eq_getElem?_getD, List.getElem?_eq_getElem this, mkS_data]
        rw [h2] at hv
        cases hv
        exact h1
    · intro x hx
      simp only [List.mem_map] at hx
      obtain ⟨s, hs, rfl⟩ := hx
      have hmem : (DataW.lit (.string s.data.toList) : DataW H) ∈ strs (H := H) (sl.take len) := by
        simp only [strs, List.mem_map]; exact ⟨s, hs, rfl⟩
      have hn : s.data.toList.length ∈ DataW.weightsEach P ts ds := by
        refine DataW.weights_mem_each htj hdj _ ?_
        simp only [DataW.weights, ht, List.mem_cons, List.mem_append]
        exact .inr (.inl (weightsAll_mem hmem _ (by simp [DataW.weights])))
      have := List.all_eq_true.1 hz _ hn
      rw [hr] at this
      simpa using this
    · simp only [maxLen] at hm; simp; omega
    · simp only [List.length_map]; omega
    · simp only [List.length_map]; omega
end
end Go.Mv

/- The reference's Tag -/
namespace Go.Proofs.Ytdbgddngapminaa
open Go.RowKit Go.Mv Mvp
end Go.Proofs.Ytdbgddngapminaa

/- A log of the sponge, the reference's: NewLog, Say, Ask, Clone. -/
namespace Go.Proofs.Ytdbgddngapminaa
open Go.RowKit Go.Mv Mvp
/-- parts by their values -/
def Parts (w : World) : List Value → List (List UInt8) → Prop
  | [], [] => True
  | v :: vs, l :: ls => PartIs w v l ∧ Parts w vs ls
  | _, _ => False
theorem Parts.len {w : World} : ∀ {vs : List Value} {ls : List (List UInt8)}, Parts w vs ls → vs.length = ls.length
  | [], [], _ => rfl
  | _ :: _, _ :: _, h => by simp only [List.length_cons]; rw [Parts.len h.2]
  | [], _ :: _, h => h.elim
  | _ :: _, [], h => h.elim
theorem Parts.get {w : World} : ∀ {vs : List Value} {ls : List (List UInt8)}, Parts w vs ls → ∀ (i : Nat) (v : Value), vs[i]? = some v → ∃ l : List UInt8, ls[i]? = some l ∧ PartIs w v l
  | [], [], _, i, v, h => by simp at h
  | x :: vs, l :: ls, h, 0, v, hv => by simp only [List.getElem?_cons_zero, Option.some.injEq] at hv; subst hv; exact ⟨l, rfl, h.1⟩
  | x :: vs, l :: ls, h, i + 1, v, hv => by simp only [List.getElem?_cons_succ] at hv ⊢; exact Parts.get h.2 i v hv
  | [], _ :: _, h, _, _, _ => h.elim
  | _ :: _, [], h, _, _, _ => h.elim
theorem Parts.at {w : World} {g : Nat} {T : TypeId} {vs : List Value} {ls : List (List UInt8)} (h : Parts w vs ls) (hg : Has w g vs T) : PartsAt w (some ⟨g, 0, none⟩) ls :=
  ⟨vs, by have := Rd.whole hg; rwa [h.len] at this, h.get⟩
theorem Parts.cells {w : World} : ∀ {vs : List Value} {ls : List (List UInt8)}, Parts w vs ls → ∀ v ∈ vs, v.cells = #[v]
  | [], _, _, v, h => by simp at h
  | x :: vs, l :: ls, h, v, hv => by
    rcases List.mem_cons.1 hv with rfl | hv
    · obtain ⟨a, n, c, rfl, _⟩ := h.1; rfl
    · exact Parts.cells h.2 v hv
  | _ :: _, [], h, _, _ => h.elim
theorem own_part {w : World} {base n : Nat} {T : TypeId} {v : Value} {l : List UInt8} (h : Own w base T 1 v n (bs l)) (hn : n ≤ 1000000) : PartIs w v l := by
  have h0 := h
  obtain ⟨a, c, rfl, hc, hr, -⟩ := h.form
  rw [Nat.mul_one] at hr
  refine ⟨a, n, c, rfl, hc, hn, hr, ?_⟩
  intro x hx
  exact (h0.lt (by rw [hx]; rfl)).2

/-! The reference's -/
end Go.Proofs.Ytdbgddngapminaa

/- The tree, plain: what a path leads to, from its end (the document) and from its beginning (the program). -/
namespace Mvt
variable {α : Type} (nd : α → α → α)
/-- the greatest power of two below n -/
def half (n : Nat) : Nat := 2 ^ Nat.log2 (n - 1)
/-- up, as far as nothing stands beside -/
def skip (a e : Nat) : Nat × Nat := if a % 2 = 0 ∧ 0 < a then skip (a / 2) (e / 2) else (a, e)
termination_by a
decreasing_by omega
end Mvt

/- The tree: node, leafHash, bytes.Equal, sized, lists, small; the reference's leaf, node, half, sized. -/
namespace Go.Proofs.Ytdbgddngapminaa
open Go.RowKit Go.Mv Mvp Mvt
end Go.Proofs.Ytdbgddngapminaa

/- SpongeLogs: what stays of many logs, step by step. -/
namespace Go.Mv
open Go.RowKit
theorem Has.ne {w : World} {g g' : Nat} {L L' : List Value} {T T' : TypeId} (h : Has w g L T) (h' : Has w g' L' T') (hT : T ≠ T') : g ≠ g' := by
  rintro rfl
  obtain ⟨_, _, h1, _⟩ := h
  obtain ⟨_, _, h2, _⟩ := h'
  rw [h1] at h2
  simp at h2
  exact hT h2.2.1
theorem Own.ne2 {w : World} {base base' sz sz' n n' : Nat} {T T' : TypeId} {v v' : Value} {L L' : List Value} (h : Own w base T sz v n L) (h' : Own w base' T' sz' v' n' L') (hT : T ≠ T') (k : Nat) (hk : OwnB v k) : ¬ OwnB v' k := by
  obtain ⟨_, ⟨rfl, _⟩ | ⟨g, o, cap, B, rfl, _, hg, _⟩⟩ := h'
  · intro t; cases t
  · intro t
    have e : g = k := by simpa [OwnB, Value.ownBlock] using t
    subst e
    exact h.ne hg hT hk
end Go.Mv
namespace Go.Proofs.Ytdbgddngapminaa
open Go.RowKit Go.Mv Mvp
abbrev Tri : Type := Nat × Nat × List UInt8
variable {w w' : World} {base ga gb : Nat} {sa sb : List UInt8} {T : List Tri} {vk vw : Value} {Lk Lw : List Value}
end Go.Proofs.Ytdbgddngapminaa

/- mintvaultlaw8.lists, small: lists of strings as lists of bytes. -/
namespace Go.Proofs.Ytdbgddngapminaa
open Go.RowKit Go.Mv Mvp Mvt
/-- slices of bytes of the call's own -/
def POwn (w : World) (base : Nat) : List Value → List (List UInt8) → Prop
  | [], [] => True
  | v :: vs, l :: ls => Own w base 5 1 v l.length (bs l) ∧ POwn w base vs ls
  | _, _ => False
theorem POwn.len {w : World} {base : Nat} : ∀ {vs : List Value} {ls : List (List UInt8)}, POwn w base vs ls → vs.length = ls.length
  | [], [], _ => rfl
  | _ :: _, _ :: _, h => by simp only [List.length_cons]; rw [POwn.len h.2]
  | [], _ :: _, h => h.elim
  | _ :: _, [], h => h.elim
theorem POwn.keep {w w' : World} {base : Nat} {S : Nat → Prop} (hf : Fr S w w') : ∀ {vs : List Value} {ls : List (List UInt8)}, POwn w base vs ls → (∀ v n l, Own w base 5 1 v n (bs l) → ∀ k, OwnB v k → ¬ S k) → POwn w' base vs ls
  | [], [], _, _ => trivial
  | _ :: _, _ :: _, h, hs => ⟨h.1.keep hf (hs _ _ _ h.1), POwn.keep hf h.2 hs⟩
  | [], _ :: _, h, _ => h.elim
  | _ :: _, [], h, _ => h.elim
theorem POwn.still {w w' : World} {base : Nat} {vs : List Value} {ls : List (List UInt8)} (h : POwn w base vs ls) (hf : Fr Nob w w') : POwn w' base vs ls := POwn.keep hf h (fun _ _ _ _ _ _ t => t)
theorem POwn.app {w w' : World} {base base' sz n : Nat} {vs : List Value} {ls : List (List UInt8)} (h : POwn w base vs ls) {q : Value} {T : TypeId} {L : List Value} (hq : Own w base' T sz q n L) (hT : 5 ≠ T) (hf : Fr (OwnB q) w w') : POwn w' base vs ls :=
  POwn.keep hf h (fun _ _ _ ho k hk hk' => ho.ne2 hq hT k hk hk')
theorem POwn.snoc {w : World} {base : Nat} {v : Value} {l : List UInt8} (hv : Own w base 5 1 v l.length (bs l)) : ∀ {vs : List Value} {ls : List (List UInt8)}, POwn w base vs ls → POwn w base (vs ++ [v]) (ls ++ [l])
  | [], [], _ => ⟨hv, trivial⟩
  | _ :: _, _ :: _, h => ⟨h.1, POwn.snoc hv h.2⟩
  | [], _ :: _, h => h.elim
  | _ :: _, [], h => h.elim
theorem POwn.parts {w : World} {base : Nat} : ∀ {vs : List Value} {ls : List (List UInt8)}, POwn w base vs ls → (∀ x ∈ ls, x.length ≤ 1000000) → Parts w vs ls
  | [], [], _, _ => trivial
  | _ :: _, _ :: _, h, hx => ⟨own_part h.1 (hx _ (by simp)), POwn.parts h.2 (fun x hxm => hx x (by simp [hxm]))⟩
  | [], _ :: _, h, _ => h.elim
  | _ :: _, [], h, _ => h.elim
/-- a list of lists of bytes, all of the call's own -/
def LOwn (w : World) (base : Nat) (v : Value) (ls : List (List UInt8)) : Prop := ∃ vs, Own w base 34 1 v ls.length vs ∧ POwn w base vs ls
theorem LOwn.still {w w' : World} {base : Nat} {v : Value} {ls : List (List UInt8)} (h : LOwn w base v ls) (hf : Fr Nob w w') : LOwn w' base v ls := by
  obtain ⟨vs, h1, h2⟩ := h; exact ⟨vs, h1.still hf, h2.still hf⟩
theorem LOwn.parts {w : World} {base : Nat} {v : Value} {ls : List (List UInt8)} (h : LOwn w base v ls) (hx : ∀ x ∈ ls, x.length ≤ 1000000) : ∃ a c, v = .slice a ls.length c ∧ ls.length ≤ c ∧ PartsAt w a ls := by
  obtain ⟨vs, h1, h2⟩ := h
  obtain ⟨a, c, rfl, hc, hr, -⟩ := h1.form
  rw [Nat.mul_one] at hr
  exact ⟨a, c, rfl, hc, vs, hr, (h2.parts hx).get⟩

end Go.Proofs.Ytdbgddngapminaa

/- bytes.Clone; lists of owned slices of bytes that lie apart. -/
namespace Go.Proofs.Ytdbgddngapminaa
open Go.RowKit Go.Mv Mvp Mvt
/-- no two of them share a block -/
def Sep (vs : List Value) : Prop := vs.Pairwise fun a b => ∀ k, OwnB a k → ¬ OwnB b k
theorem Sep.nil : Sep [] := List.Pairwise.nil
theorem POwn.get {w : World} {base : Nat} : ∀ {vs : List Value} {ls : List (List UInt8)}, POwn w base vs ls → ∀ (i : Nat) (v : Value), vs[i]? = some v → ∃ l, ls[i]? = some l ∧ Own w base 5 1 v l.length (bs l)
  | [], [], _, i, v, hv => by simp at hv
  | a :: vs, l :: ls, h, 0, v, hv => by simp at hv; subst hv; exact ⟨l, rfl, h.1⟩
  | a :: vs, l :: ls, h, i + 1, v, hv => by simp at hv; obtain ⟨l', h1, h2⟩ := POwn.get h.2 i v hv; exact ⟨l', by simpa using h1, h2⟩
  | [], _ :: _, h, _, _, _ => h.elim
  | _ :: _, [], h, _, _, _ => h.elim
theorem POwn.mem {w : World} {base : Nat} {vs : List Value} {ls : List (List UInt8)} (h : POwn w base vs ls) {v : Value} (hv : v ∈ vs) : ∃ l, l ∈ ls ∧ Own w base 5 1 v l.length (bs l) := by
  obtain ⟨i, hi⟩ := List.getElem?_of_mem hv
  obtain ⟨l, h1, h2⟩ := h.get i v hi
  exact ⟨l, List.mem_of_getElem? h1, h2⟩
theorem Sep.snoc {w w' : World} {base : Nat} {vs : List Value} {ls : List (List UInt8)} (h : Sep vs) (hp : POwn w base vs ls) {v : Value} {n : Nat} {L : List Value} {T : TypeId} (hv : Own w' w.heap.size T 1 v n L) : Sep (vs ++ [v]) := by
  unfold Sep at *
  rw [List.pairwise_append]
  refine ⟨h, by simp, fun a ha b hb k hk hk' => ?_⟩
  simp only [List.mem_singleton] at hb
  subst hb
  obtain ⟨l, _, ho⟩ := hp.mem ha
  have h1 := (ho.lt hk).2
  have h2 := (hv.lt hk').1
  omega
theorem POwn.mono {w : World} {base base' : Nat} (hb : base' ≤ base) : ∀ {vs : List Value} {ls : List (List UInt8)}, POwn w base vs ls → POwn w base' vs ls
  | [], [], _ => trivial
  | _ :: _, _ :: _, h => ⟨h.1.mono hb, POwn.mono hb h.2⟩
  | [], _ :: _, h => h.elim
  | _ :: _, [], h => h.elim
/-- a slice of slices of bytes, all of the call's own, apart -/
def SOwn (w : World) (base : Nat) (v : Value) (ls : List (List UInt8)) : Prop := ∃ vs, Own w base 34 1 v ls.length vs ∧ POwn w base vs ls ∧ Sep vs
theorem SOwn.nil (w : World) (base : Nat) : SOwn w base (.slice none 0 0) [] := ⟨[], Own.nil _ _ _ _, trivial, Sep.nil⟩
theorem SOwn.still {w w' : World} {base : Nat} {v : Value} {ls : List (List UInt8)} (h : SOwn w base v ls) (hf : Fr Nob w w') : SOwn w' base v ls := by
  obtain ⟨vs, h1, h2, h3⟩ := h; exact ⟨vs, h1.still hf, h2.still hf, h3⟩
end Go.Proofs.Ytdbgddngapminaa

/- num.Powers: what it answers. -/
namespace Mvp
end Mvp
namespace Go.Proofs.Ytdbgddngapminaa
open Go.RowKit Go.Mv Mvp
theorem SOwn.mono {w : World} {base base' : Nat} {v : Value} {ls : List (List UInt8)} (h : SOwn w base v ls) (hb : base' ≤ base) : SOwn w base' v ls := by
  obtain ⟨vs, h1, h2, h3⟩ := h; exact ⟨vs, h1.mono hb, h2.mono hb, h3⟩
/-- a fresh slice of bytes is appended -/
theorem SOwn.snocF {w w1 w2 w3 : World} {base : Nat} {vs : List Value} {ls : List (List UInt8)} {o v o' : Value} {l : List UInt8}
    (hown : Own w base 34 1 o ls.length vs) (hpo : POwn w base vs ls) (hsep : Sep vs) (hb : base ≤ w.heap.size)
    (hv : Own w1 w.heap.size 5 1 v l.length (bs l)) (hf1 : Fr Nob w w1) (hf2 : Fr Nob w1 w2)
    (ho' : Own w3 base 34 1 o' (ls.length + 1) (vs ++ [v])) (hf3 : Fr (OwnB o) w2 w3) : SOwn w3 base o' (ls ++ [l]) := by
  have h12 := hf1.then hf2
  have hv2 := (hv.still hf2).mono hb
  have ho2 := hown.still h12
  refine ⟨vs ++ [v], by simpa using ho', POwn.snoc (hv2.keep hf3 (fun k hk hk' => hv2.ne2 ho2 (by decide) k hk hk')) ((hpo.still h12).app ho2 (by decide) hf3), hsep.snoc hpo hv⟩
attribute [local irreducible] limbs lw mix cw cSub cAdd cMul foldC valFrom beN laid be32 powm montT mstep elN mdL numsB numB
end Go.Proofs.Ytdbgddngapminaa

/- The law's powers. -/
namespace Mvp
end Mvp
namespace Go.Proofs.Ytdbgddngapminaa
open Go.RowKit Go.Mv Mvp
theorem rd_cell {w : World} {b o n : Nat} {vs : List Value} (h : Rd w (some ⟨b, o, none⟩) n vs) (i : Nat) (v : Value) (hv : vs[i]? = some v) : w.cell? ⟨b, o + i, none⟩ = some v := by
  have h1 := rd_at h 0 vs (by simp)
  have h2 := h1 i v hv
  simpa using h2
attribute [local irreducible] limbs lw mix cw cSub cAdd cMul foldC valFrom beN laid be32 powm montT mstep elN mdL numB numsB
end Go.Proofs.Ytdbgddngapminaa

/- Sum: what it answers, for all lists; the law's own sum. -/
namespace Go.Proofs.Ytdbgddngapminaa
open Go.RowKit Go.Mv Mvp Mvq
/-- the terms as points -/
noncomputable def smL (ln lp : List (List UInt8)) (k : Nat) : List (Nat × Pt) := (List.range k).map fun i => (beN (ln.getD i []), rdPt (lp.getD i []))
theorem smL_succ (ln lp : List (List UInt8)) (k : Nat) : smL ln lp (k + 1) = smL ln lp k ++ [(beN (ln.getD k []), rdPt (lp.getD k []))] := by simp [smL, List.range_succ]
def sumE (ln lp : List (List UInt8)) : Nat := if ln.length = lp.length then (if ln.length ≤ 512 then (if numsB mQ ln then (if rdsB lp then 0 else 4) else 3) else 1) else 2
noncomputable def sumS (ln lp : List (List UInt8)) : List UInt8 := if ln.length = lp.length then (if ln.length ≤ 512 then (if numsB mQ ln then (if rdsB lp then wrPt (psum (smL ln lp lp.length)) else []) else []) else []) else []
theorem rdsB_get {ls : List (List UInt8)} (h : rdsB ls = true) (i : Nat) (hi : i < ls.length) : rdOk (ls.getD i []) = true := by
  unfold rdsB at h
  rw [List.all_eq_true] at h
  refine h _ ?_
  rw [List.getD_eq_getElem?_getD, List.getElem?_eq_getElem hi]
  exact List.getElem_mem hi
theorem smL_on {ln lp : List (List UInt8)} (h : rdsB lp = true) (k : Nat) (hk : k ≤ lp.length) : ∀ t ∈ smL ln lp k, onC t.2 := by
  intro t ht
  unfold smL at ht
  obtain ⟨i, hi, rfl⟩ := List.mem_map.1 ht
  exact rd_on (rdsB_get h i (by have := List.mem_range.1 hi; omega))
theorem numsB_getG {ls : List (List UInt8)} (h : numsB mQ ls = true) (i : Nat) (hi : i < ls.length) : numB mQ (ls.getD i []) = true := by
  unfold numsB at h
  rw [List.all_eq_true] at h
  refine h _ ?_
  rw [List.getD_eq_getElem?_getD, List.getElem?_eq_getElem hi]
  exact List.getElem_mem hi
theorem sum_is {ln lp : List (List UInt8)} (hl : ln.length = lp.length) (hn : numsB mQ ln = true) (hp : rdsB lp = true) : (sumT (tmsT (aK ln ln.length) lp)).pt = psum (smL ln lp lp.length) := by
  have e : tpts (tmsT (aK ln ln.length) lp) = smL ln lp lp.length := by
    unfold tpts tmsT smL
    rw [List.map_map]
    refine List.map_congr_left fun i hi => ?_
    have hi := List.mem_range.1 hi
    show (aK ln ln.length i, (rdT (lp.getD i [])).pt) = _
    rw [rdT_pt (rdsB_get hp i hi)]
    unfold aK
    rw [if_pos (by omega)]
  rw [sumT_pt _ ?_, e]
  intro t ht
  unfold tmsT at ht
  obtain ⟨i, hi, rfl⟩ := List.mem_map.1 ht
  have hi := List.mem_range.1 hi
  show aK ln ln.length i < _
  unfold aK
  rw [if_pos (by omega)]
  exact Nat.lt_trans (numB_lt2 (numsB_getG hn i (by omega))) q16
theorem Sum_all (al : Option Addr) (cl : Nat) (vs : List Value) (ln : List (List UInt8)) (bl : Option Addr) (dl : Nat) (us : List Value) (lp : List (List UInt8)) (w : World) (hv : Rd w al ln.length vs) (hp : BParts w vs ln) (hu : Rd w bl lp.length us) (hq : BParts w us lp) :
    Calls Try.prog 25 #[.slice al ln.length cl, .slice bl lp.length dl] w fun e w' => ∃ v, e = .returned (.tuple #[v, .int .i64 (sumE ln lp : Nat)]) ∧ OwnB1 w w' v (sumS ln lp) ∧ Fr Nob w w' := by
  by_cases h1 : ln.length = lp.length
  · rw [← h1] at hu ⊢
    by_cases h2 : ln.length ≤ 512
    · cases hn : numsB mQ ln
      · refine (Sum_badk al _ cl vs ln bl dl us lp w hv hp hu hq h2 hn).mono fun e w' k => ⟨.slice none 0 0, ?_, ?_, k.2⟩
        · rw [k.1]; unfold sumE; rw [if_pos h1, if_pos h2, hn]; rfl
        · unfold sumS; rw [if_pos h1, if_pos h2, hn]; exact OwnB1.nil _ _
      · cases hr : rdsB lp
        · refine (Sum_badp al _ cl vs ln bl dl us lp w hv hp hu hq h2 hn hr).mono fun e w' k => ⟨.slice none 0 0, ?_, ?_, k.2⟩
          · rw [k.1]; unfold sumE; rw [if_pos h1, if_pos h2, hn, hr]; rfl
          · unfold sumS; rw [if_pos h1, if_pos h2, hn, hr]; exact OwnB1.nil _ _
        · refine (Sum_ok al _ cl vs ln bl dl us lp w hv hp hu hq h2 hn hr).mono fun e w' k => ?_
          obtain ⟨v, k1, k2, k3⟩ := k
          rw [sum_is h1 hn hr] at k2
          refine ⟨v, ?_, ?_, k3⟩
          · rw [k1]; unfold sumE; rw [if_pos h1, if_pos h2, hn, hr]; rfl
          · unfold sumS; rw [if_pos h1, if_pos h2, hn, hr]; exact OwnB1.of k2 (wrPt_len _)
    · refine (Sum_long al _ cl bl dl w (by omega)).mono fun e w' k => ⟨.slice none 0 0, ?_, ?_, k.2⟩
      · rw [k.1]; unfold sumE; rw [if_pos h1, if_neg h2]; rfl
      · unfold sumS; rw [if_pos h1, if_neg h2]; exact OwnB1.nil _ _
  · refine (Sum_form al _ cl bl _ dl w h1).mono fun e w' k => ⟨.slice none 0 0, ?_, ?_, k.2⟩
    · rw [k.1]; unfold sumE; rw [if_neg h1]; rfl
    · unfold sumS; rw [if_neg h1]; exact OwnB1.nil _ _
/-- the reference's sum so far -/
noncomputable def accR (ln lp : List (List UInt8)) : Nat → RT
  | 0 => noR
  | k + 1 => addR (accR ln lp k) (timesR (beN (ln.getD k [])) (rdR (lp.getD k [])))
theorem accR_zero (ln lp : List (List UInt8)) : accR ln lp 0 = noR := rfl
theorem accR_succ (ln lp : List (List UInt8)) (k : Nat) (x y : List UInt8) (hx : ln.getD k [] = x) (hy : lp.getD k [] = y) : accR ln lp (k + 1) = addR (accR ln lp k) (timesR (beN x) (rdR y)) := by subst hx hy; rfl
theorem accR_pt {ln lp : List (List UInt8)} (hl : ln.length = lp.length) (hn : numsB mQ ln = true) (hp : rdsB lp = true) : ∀ k, k ≤ lp.length → (accR ln lp k).pt = psum (smL ln lp k)
  | 0, _ => noR_pt
  | k + 1, h => by
    have ho := rdsB_get hp k (by omega)
    have hb := numB_lt2 (numsB_getG hn k (by omega))
    rw [smL_succ, psum_snoc _ _ _ (smL_on hp k (by omega)) (rd_on ho)]
    show (addR (accR ln lp k) (timesR (beN (ln.getD k [])) (rdR (lp.getD k [])))).pt = _
    rw [addR_pt, accR_pt hl hn hp k (by omega), timesR_pt _ (Nat.lt_trans hb (by decide)), rdR_pt ho]
theorem rdsB_takeG (ls : List (List UInt8)) (k : Nat) (h : k < ls.length) (y : List UInt8) (hy : ls.getD k [] = y) : rdsB (ls.take (k + 1)) = (rdsB (ls.take k) && rdOk y) := by subst hy; exact rdsB_take ls k h
theorem rdsB_badG (ls : List (List UInt8)) (k : Nat) (h : k < ls.length) (y : List UInt8) (hy : ls.getD k [] = y) (hb : rdOk y = false) : rdsB ls = false := by subst hy; exact rdsB_bad ls k h hb
theorem numsB_takeG (ls : List (List UInt8)) (k : Nat) (h : k < ls.length) (y : List UInt8) (hy : ls.getD k [] = y) : numsB mQ (ls.take (k + 1)) = (numsB mQ (ls.take k) && numB mQ y) := by subst hy; exact numsB_take mQ ls k h
theorem numsB_badG (ls : List (List UInt8)) (k : Nat) (h : k < ls.length) (y : List UInt8) (hy : ls.getD k [] = y) (hb : numB mQ y = false) : numsB mQ ls = false := by subst hy; exact numsB_bad mQ ls k h hb
theorem RNumQ_s (x : List UInt8) (b : Bool) (hb : numB mQ x = b) (w : World) : Calls Try.prog 11 #[fv mQ.M, .string (mkS x)] w fun e w' => ∃ N : Nat, e = .returned (.tuple #[i4 N, .bool b]) ∧ (b = true → N = beN x) ∧ Fr Nob w w' := by
  subst hb
  have h := RNumQ_u (mkS x) w
  rw [mkS_toList] at h
  exact h
theorem RRead_s (x : List UInt8) (b : Bool) (hb : rdOk x = b) (w : World) : Calls Try.prog 9 #[.string (mkS x)] w fun e w' => ∃ X Y Z : K, e = .returned (.tuple #[rpV X Y Z, .bool b]) ∧ (b = true → rpL X Y Z = (rdR x).L) ∧ Fr Nob w w' := by
  subst hb
  have h := RRead_u (mkS x) w
  rw [mkS_toList] at h
  exact h
attribute [local irreducible] limbs lw mix cw cSub cAdd cMul foldC valFrom beN laid be32 powm montT mstep elN mdL numB rtV rtOk kN kc kinv wrPt addR noR timesR tmsR RT.L gXn gYn rpL rdOk rdPt rdR numsB rdsB accR
set_option maxHeartbeats 16000000 in
set_option maxRecDepth 1000000 in
theorem lsum_badk (aa : Option Addr) (n ca : Nat) (ln : List (List UInt8)) (bb : Option Addr) (cb : Nat) (lp : List (List UInt8)) (w : World) (hva : Rd w aa n (ss ln)) (hvb : Rd w bb n (ss lp)) (hn : n ≤ 512) (hg : numsB mQ ln = false) :
    Calls Try.prog 26 #[.slice aa n ca, .slice bb n cb] w fun e w' => e = .returned (.tuple #[.int .i64 3, .string (mkS [])]) ∧ Fr Nob w w' := by
  have HVA := Lib.hid hva
  have HVB := Lib.hid hvb
  have HL := Lib.hid (show ln.length = n by rw [← ss_len, hva.len])
  have HL2 := Lib.hid (show lp.length = n by rw [← ss_len, hvb.len])
  have hnI : ¬ ((512 : Int) < (n : Int)) := by omega
  have HN := Lib.hid hn
  clear hva hvb hn
  have HGA := Lib.hid hg
  clear hg
  have st0 := St.start Nob w
  go_enter Try.func26, Try.ntmps26
  go_wp2_with fail
  refine (RQ_u _).mono ?_
  rintro e' w1 ⟨rfl, hf1⟩
  have st1 := st0.keep hf1
  clear st0 hf1
  go_wp2_with (with_reducible refine wl_stop (o := ⟨some 6, _, _, _, _, _⟩) ?_)
  refine wl_allocS st1 rfl rfl (z := .agg #[.int .u64 0, .int .u64 0, .int .u64 0, .int .u64 0, .int .u64 0, .int .u64 0, .int .u64 0, .int .u64 0]) (by kernel_rfl) (cw 8 0) (by rw [cw_zero]; rfl) ?_
  intro g6 w2 st2
  clear st1
  go_wp2_with (with_reducible refine wl_stop (o := ⟨none, _, _, _, _, _⟩) ?_)
  refine wl_storeS st2 0 rfl rfl rfl rfl rfl (by first | (simp only [cw_len]; done) | (simp only [List.length_append, cw_len, RT.len, rpL_len]; done)) (by first | (rw [cw_len]; kernel_rfl) | (simp only [List.length_append, cw_len]; kernel_rfl)) (cw2_one _ _ _ _) ?_
  intro w3 st3
  clear st2
  go_wp2
  go_loopw [7] (fun v wr => ∃ k : Nat, k ≤ n ∧ v = .int .i64 (k : Int) ∧ numsB mQ (ln.take k) = true ∧ St Nob w wr [(g6, cw 4 mQ.M ++ cw 4 (B64 ^ 4 - mQ.M), 31)]) (fun v _ => n - (intOf v).toNat)
  case atStart => exact ⟨0, Nat.zero_le _, rfl, by rw [List.take_zero]; unfold numsB; rfl, st3⟩
  case round =>
    obtain ⟨k, hk, rfl, hgood, st⟩ := hrel
    clear st3
    have HG := Lib.hid hgood
    clear hgood
    by_cases hlt : k < n
    · have hltI : (k : Int) < (n : Int) := by omega
      have hk0 : (0 : Int) ≤ (k : Int) := by omega
      obtain ⟨ba, oa, hea, -⟩ := HVA.out.at (by omega)
      subst hea
      have HLKk := Lib.hid (show k < ln.length by rw [HL.out]; exact hlt)
      obtain ⟨x, hx⟩ : ∃ x, ln.getD k [] = x := ⟨_, rfl⟩
      have HLXk := Lib.hid hx
      obtain ⟨b, hb⟩ : ∃ b, numB mQ x = b := ⟨_, rfl⟩
      have HB := Lib.hid hb
      have HLT := Lib.hid hlt
      clear hx hb hlt hk
      go_wp2_with fail
      refine wp_region_noPanic ?_
      refine wp_region_lad st 11 [.o 9, .t 0, .w 1, .w 2, .w 3, .t 4, .c 5, .w 6, .w 7, .w 8, .j 9] (.r 10 (.m 11 .nil)) (by kernel_rfl) (by kernel_rfl) (fun _ _ _ _ _ h => h) ?_
      clear st
      refine lad_o rfl rfl rfl z_rn (cw 4 0) rfl ?_
      try simp only [Act.put, List.setIfInBounds_toArray, List.set_cons_zero, List.set_cons_succ]
      refine lad_arr rfl rfl rfl (fun _ => rfl) (cw 4 mQ.M ++ cw 4 (B64 ^ 4 - mQ.M)) (fun wx hS => St.rangeL hS 0 rfl 0 _ (by rw [List.drop_zero, List.take_of_length_le (Nat.le_refl _)])) Try.underlying31 rfl (by first | (rw [cw_len]; kernel_rfl) | (simp only [List.length_append, cw_len]; kernel_rfl)) ?_
      try simp only [Act.put, List.setIfInBounds_toArray, List.set_cons_zero, List.set_cons_succ]
      refine lad_w (v := ?_) rfl rfl (fun xq wx => ?_) ?_
      rotate_left 1
      · (go_simp; with_reducible rfl)
      try simp only [Act.put, List.setIfInBounds_toArray, List.set_cons_zero, List.set_cons_succ]
      refine lad_w (v := ?_) rfl rfl (fun xq wx => ?_) ?_
      rotate_left 1
      · (go_simp; with_reducible rfl)
      try simp only [Act.put, List.setIfInBounds_toArray, List.set_cons_zero, List.set_cons_succ]
      refine lad_w (v := ?_) rfl rfl (fun xq wx => ?_) ?_
      rotate_left 1
      · (go_simp; with_reducible rfl)
      try simp only [Act.put, List.setIfInBounds_toArray, List.set_cons_zero, List.set_cons_succ]
      refine lad_t (v := ?_) rfl rfl (fun xq wx hS => ?_) ?_
      rotate_left 1
      · (have hc := (rd_cell (HVA.out.still (St.fr hS)) k _ (by have h := ss_get ln k HLKk.out; rw [HLXk.out] at h; exact h)); clear hS; go_simp; with_reducible rfl)
      try simp only [Act.put, List.setIfInBounds_toArray, List.set_cons_zero, List.set_cons_succ]
      refine lad_callX (X := Nat) (fun N => .tuple #[i4 N, .bool b]) (fun N _ => b = true → N = beN x) (fun _ _ _ h _ => h) rfl rfl rfl Try.call11 (fun w hS hR => RNumQ_s x b HB.out _) (fun _ => rfl) fun N1 => ?_
      try simp only [Act.put, List.setIfInBounds_toArray, List.set_cons_zero, List.set_cons_succ]
      refine lad_w (v := ?_) rfl rfl (fun xq wx => ?_) ?_
      rotate_left 1
      · (go_simp; with_reducible rfl)
      try simp only [Act.put, List.setIfInBounds_toArray, List.set_cons_zero, List.set_cons_succ]
      refine lad_w (v := ?_) rfl rfl (fun xq wx => ?_) ?_
      rotate_left 1
      · (go_simp; with_reducible rfl)
      try simp only [Act.put, List.setIfInBounds_toArray, List.set_cons_zero, List.set_cons_succ]
      refine lad_w (v := ?_) rfl rfl (fun xq wx => ?_) ?_
      rotate_left 1
      · (go_simp; with_reducible rfl)
      try simp only [Act.put, List.setIfInBounds_toArray, List.set_cons_zero, List.set_cons_succ]
      refine lad_j List.mem_cons_self fun g8 => ?_
      simp only [upd, reduceIte]
      try simp only [Nat.reduceEqDiff, reduceIte]
      refine lad_end fun xq w4 st4 hR => ?_
      try dsimp only
      clear hR xq
      refine plan_r rfl rfl ?_
      refine wp_storeS st4 1 rfl rfl rfl rfl (by first | (simp only [cw_len]; done) | (simp only [List.length_append, cw_len, RT.len, rpL_len]; done)) (by first | (rw [cw_len]; kernel_rfl) | (rw [RT.len]; kernel_rfl) | (rw [rpL_len]; kernel_rfl) | (simp only [List.length_append, cw_len]; kernel_rfl) | (simp only [List.length_append, cw_len, RT.len, rpL_len]; kernel_rfl)) (cw_one _ _) ?_
      intro w5 st5
      repeat (first | simp only [List.cons_append] at st5 | simp only [List.nil_append] at st5 | simp only [List.set_cons_succ] at st5 | simp only [List.set_cons_zero] at st5)
      clear st4
      refine ⟨by first | exact st5 | exact St.less st5 (by simp), ?_⟩
      try simp only [Act.put]
      refine plan_m rfl rfl ?_
      go_simp
      try simp only [Act.put, List.setIfInBounds_toArray, List.set_cons_zero, List.set_cons_succ]
      refine plan_end ?_
      refine NoPanic.normal ?_
      rcases b with _ | _
      · have hfr := st5.fr
        clear st5
        go_wp2_with fail
        go_ret2
        exact ⟨rfl, hfr⟩
      · skip
        go_wp2_with fail
        go_roundw
        case rel => exact ⟨k + 1, by have := HLT.out; omega, by go_num, by rw [numsB_takeG ln k HLKk.out x HLXk.out, HG.out, HB.out]; rfl, St.less st5 (by simp)⟩
        case measure => have := HLT.out; simp [intOf]; omega
    · exfalso
      have hkn : k = ln.length := by rw [HL.out]; omega
      have h := HG.out
      rw [hkn, List.take_of_length_le (Nat.le_refl _), HGA.out] at h
      cases h

set_option maxHeartbeats 16000000 in
set_option maxRecDepth 1000000 in
theorem lsum_badp (aa : Option Addr) (n ca : Nat) (ln : List (List UInt8)) (bb : Option Addr) (cb : Nat) (lp : List (List UInt8)) (w : World) (hva : Rd w aa n (ss ln)) (hvb : Rd w bb n (ss lp)) (hn : n ≤ 512) (hg : numsB mQ ln = true) (hr : rdsB lp = false) :
    Calls Try.prog 26 #[.slice aa n ca, .slice bb n cb] w fun e w' => e = .returned (.tuple #[.int .i64 4, .string (mkS [])]) ∧ Fr Nob w w' := by
  have HVA := Lib.hid hva
  have HVB := Lib.hid hvb
  have HL := Lib.hid (show ln.length = n by rw [← ss_len, hva.len])
  have HL2 := Lib.hid (show lp.length = n by rw [← ss_len, hvb.len])
  have hnI : ¬ ((512 : Int) < (n : Int)) := by omega
  have HN := Lib.hid hn
  clear hva hvb hn
  have HGA := Lib.hid hg
  have HRA := Lib.hid hr
  clear hg hr
  have st0 := St.start Nob w
  go_enter Try.func26, Try.ntmps26
  go_wp2_with fail
  refine (RQ_u _).mono ?_
  rintro e' w1 ⟨rfl, hf1⟩
  have st1 := st0.keep hf1
  clear st0 hf1
  go_wp2_with (with_reducible refine wl_stop (o := ⟨some 6, _, _, _, _, _⟩) ?_)
  refine wl_allocS st1 rfl rfl (z := .agg #[.int .u64 0, .int .u64 0, .int .u64 0, .int .u64 0, .int .u64 0, .int .u64 0, .int .u64 0, .int .u64 0]) (by kernel_rfl) (cw 8 0) (by rw [cw_zero]; rfl) ?_
  intro g6 w2 st2
  clear st1
  go_wp2_with (with_reducible refine wl_stop (o := ⟨none, _, _, _, _, _⟩) ?_)
  refine wl_storeS st2 0 rfl rfl rfl rfl rfl (by first | (simp only [cw_len]; done) | (simp only [List.length_append, cw_len, RT.len, rpL_len]; done)) (by first | (rw [cw_len]; kernel_rfl) | (simp only [List.length_append, cw_len]; kernel_rfl)) (cw2_one _ _ _ _) ?_
  intro w3 st3
  clear st2
  go_wp2
  go_loopw [7] (fun v wr => ∃ k : Nat, k ≤ n ∧ v = .int .i64 (k : Int) ∧ numsB mQ (ln.take k) = true ∧ St Nob w wr [(g6, cw 4 mQ.M ++ cw 4 (B64 ^ 4 - mQ.M), 31)]) (fun v _ => n - (intOf v).toNat)
  case atStart => exact ⟨0, Nat.zero_le _, rfl, by rw [List.take_zero]; unfold numsB; rfl, st3⟩
  case round =>
    obtain ⟨k, hk, rfl, hgood, st⟩ := hrel
    clear st3
    have HG := Lib.hid hgood
    clear hgood
    by_cases hlt : k < n
    · have hltI : (k : Int) < (n : Int) := by omega
      have hk0 : (0 : Int) ≤ (k : Int) := by omega
      obtain ⟨ba, oa, hea, -⟩ := HVA.out.at (by omega)
      subst hea
      have HLKk := Lib.hid (show k < ln.length by rw [HL.out]; exact hlt)
      obtain ⟨x, hx⟩ : ∃ x, ln.getD k [] = x := ⟨_, rfl⟩
      have HLXk := Lib.hid hx
      obtain ⟨b, hb⟩ : ∃ b, numB mQ x = b := ⟨_, rfl⟩
      have HB := Lib.hid hb
      have HLT := Lib.hid hlt
      clear hx hb hlt hk
      go_wp2_with fail
      refine wp_region_noPanic ?_
      refine wp_region_lad st 11 [.o 9, .t 0, .w 1, .w 2, .w 3, .t 4, .c 5, .w 6, .w 7, .w 8, .j 9] (.r 10 (.m 11 .nil)) (by kernel_rfl) (by kernel_rfl) (fun _ _ _ _ _ h => h) ?_
      clear st
      refine lad_o rfl rfl rfl z_rn (cw 4 0) rfl ?_
      try simp only [Act.put, List.setIfInBounds_toArray, List.set_cons_zero, List.set_cons_succ]
      refine lad_arr rfl rfl rfl (fun _ => rfl) (cw 4 mQ.M ++ cw 4 (B64 ^ 4 - mQ.M)) (fun wx hS => St.rangeL hS 0 rfl 0 _ (by rw [List.drop_zero, List.take_of_length_le (Nat.le_refl _)])) Try.underlying31 rfl (by first | (rw [cw_len]; kernel_rfl) | (simp only [List.length_append, cw_len]; kernel_rfl)) ?_
      try simp only [Act.put, List.setIfInBounds_toArray, List.set_cons_zero, List.set_cons_succ]
      refine lad_w (v := ?_) rfl rfl (fun xq wx => ?_) ?_
      rotate_left 1
      · (go_simp; with_reducible rfl)
      try simp only [Act.put, List.setIfInBounds_toArray, List.set_cons_zero, List.set_cons_succ]
      refine lad_w (v := ?_) rfl rfl (fun xq wx => ?_) ?_
      rotate_left 1
      · (go_simp; with_reducible rfl)
      try simp only [Act.put, List.setIfInBounds_toArray, List.set_cons_zero, List.set_cons_succ]
      refine lad_w (v := ?_) rfl rfl (fun xq wx => ?_) ?_
      rotate_left 1
      · (go_simp; with_reducible rfl)
      try simp only [Act.put, List.setIfInBounds_toArray, List.set_cons_zero, List.set_cons_succ]
      refine lad_t (v := ?_) rfl rfl (fun xq wx hS => ?_) ?_
      rotate_left 1
      · (have hc := (rd_cell (HVA.out.still (St.fr hS)) k _ (by have h := ss_get ln k HLKk.out; rw [HLXk.out] at h; exact h)); clear hS; go_simp; with_reducible rfl)
      try simp only [Act.put, List.setIfInBounds_toArray, List.set_cons_zero, List.set_cons_succ]
      refine lad_callX (X := Nat) (fun N => .tuple #[i4 N, .bool b]) (fun N _ => b = true → N = beN x) (fun _ _ _ h _ => h) rfl rfl rfl Try.call11 (fun w hS hR => RNumQ_s x b HB.out _) (fun _ => rfl) fun N1 => ?_
      try simp only [Act.put, List.setIfInBounds_toArray, List.set_cons_zero, List.set_cons_succ]
      refine lad_w (v := ?_) rfl rfl (fun xq wx => ?_) ?_
      rotate_left 1
      · (go_simp; with_reducible rfl)
      try simp only [Act.put, List.setIfInBounds_toArray, List.set_cons_zero, List.set_cons_succ]
      refine lad_w (v := ?_) rfl rfl (fun xq wx => ?_) ?_
      rotate_left 1
      · (go_simp; with_reducible rfl)
      try simp only [Act.put, List.setIfInBounds_toArray, List.set_cons_zero, List.set_cons_succ]
      refine lad_w (v := ?_) rfl rfl (fun xq wx => ?_) ?_
      rotate_left 1
      · (go_simp; with_reducible rfl)
      try simp only [Act.put, List.setIfInBounds_toArray, List.set_cons_zero, List.set_cons_succ]
      refine lad_j List.mem_cons_self fun g8 => ?_
      simp only [upd, reduceIte]
      try simp only [Nat.reduceEqDiff, reduceIte]
      refine lad_end fun xq w4 st4 hR => ?_
      try dsimp only
      clear hR xq
      refine plan_r rfl rfl ?_
      refine wp_storeS st4 1 rfl rfl rfl rfl (by first | (simp only [cw_len]; done) | (simp only [List.length_append, cw_len, RT.len, rpL_len]; done)) (by first | (rw [cw_len]; kernel_rfl) | (rw [RT.len]; kernel_rfl) | (rw [rpL_len]; kernel_rfl) | (simp only [List.length_append, cw_len]; kernel_rfl) | (simp only [List.length_append, cw_len, RT.len, rpL_len]; kernel_rfl)) (cw_one _ _) ?_
      intro w5 st5
      repeat (first | simp only [List.cons_append] at st5 | simp only [List.nil_append] at st5 | simp only [List.set_cons_succ] at st5 | simp only [List.set_cons_zero] at st5)
      clear st4
      refine ⟨by first | exact st5 | exact St.less st5 (by simp), ?_⟩
      try simp only [Act.put]
      refine plan_m rfl rfl ?_
      go_simp
      try simp only [Act.put, List.setIfInBounds_toArray, List.set_cons_zero, List.set_cons_succ]
      refine plan_end ?_
      refine NoPanic.normal ?_
      rcases b with _ | _
      · exfalso
        have h := numsB_badG ln k HLKk.out x HLXk.out HB.out
        rw [HGA.out] at h
        cases h
      · skip
        go_wp2_with fail
        go_roundw
        case rel => exact ⟨k + 1, by have := HLT.out; omega, by go_num, by rw [numsB_takeG ln k HLKk.out x HLXk.out, HG.out, HB.out]; rfl, St.less st5 (by simp)⟩
        case measure => have := HLT.out; simp [intOf]; omega
    · have hnlt : ¬ ((k : Int) < (n : Int)) := by omega
      clear hlt HG hk
      go_wp2_with fail
      refine (RNone_c _).mono ?_
      rintro e' w4 ⟨rfl, hf4⟩
      have st4 := st.keep hf4
      clear st hf4
      go_wp2_with (with_reducible refine wl_stop (o := ⟨some 10, _, _, _, _, _⟩) ?_)
      refine wl_allocS st4 rfl rfl (z := .agg #[.int .u64 0, .int .u64 0, .int .u64 0, .int .u64 0, .int .u64 0, .int .u64 0, .int .u64 0, .int .u64 0, .int .u64 0, .int .u64 0, .int .u64 0, .int .u64 0]) (by kernel_rfl) (cw 12 0) (by rw [cw_zero]; rfl) ?_
      intro g10 w5 st5
      clear st4
      go_wp2_with (with_reducible refine wl_stop (o := ⟨none, _, _, _, _, _⟩) ?_)
      refine wl_storeS st5 1 rfl rfl rfl rfl rfl (by first | (simp only [cw_len]; done) | (simp only [List.length_append, cw_len, RT.len, rpL_len]; done)) (by first | (rw [cw_len]; kernel_rfl) | (simp only [RT.len]; kernel_rfl)) (RT.one _) ?_
      intro w6 st6
      clear st5
      rw [← accR_zero ln lp] at st6
      go_wp2
      go_loopw [11] (fun v wr => ∃ k : Nat, k ≤ n ∧ v = .int .i64 (k : Int) ∧ rdsB (lp.take k) = true ∧ St Nob w wr [(g6, cw 4 mQ.M ++ cw 4 (B64 ^ 4 - mQ.M), 31), (g10, (accR ln lp k).L, 26)]) (fun v _ => n - (intOf v).toNat)
      case atStart => exact ⟨0, Nat.zero_le _, rfl, by rw [List.take_zero]; unfold rdsB; rfl, st6⟩
      case round =>
        clear hnlt
        obtain ⟨j, hj, rfl, hgood, st2⟩ := hrel
        clear st6
        have HG := Lib.hid hgood
        clear hgood
        by_cases hlt : j < n
        · have hltI : (j : Int) < (n : Int) := by omega
          have hk0 : (0 : Int) ≤ (j : Int) := by omega
          obtain ⟨ba, oa, hea, -⟩ := HVA.out.at (by omega)
          subst hea
          obtain ⟨bp, op, hep, -⟩ := HVB.out.at (by omega)
          subst hep
          have HLKj := Lib.hid (show j < ln.length by rw [HL.out]; exact hlt)
          have HLKp := Lib.hid (show j < lp.length by rw [HL2.out]; exact hlt)
          obtain ⟨x, hx⟩ : ∃ x, ln.getD j [] = x := ⟨_, rfl⟩
          obtain ⟨y, hy⟩ : ∃ y, lp.getD j [] = y := ⟨_, rfl⟩
          have HLXj := Lib.hid hx
          have HLY := Lib.hid hy
          have HLT := Lib.hid hlt
          obtain ⟨b, hb⟩ : ∃ b, rdOk y = b := ⟨_, rfl⟩
          have HB := Lib.hid hb
          clear hx hy hb hlt hj
          have hcy := rd_cell (HVB.out.still st2.fr) j _ (by have h := ss_get lp j HLKp.out; rw [HLY.out] at h; exact h)
          go_wp2_with fail
          refine (RRead_s y b HB.out _).mono ?_
          rintro e' w7 ⟨X1, Y1, Z1, rfl, hx1, hf7⟩
          have st7 := st2.keep hf7
          have HX1 := Lib.hid hx1
          clear hx1 hcy
          clear st2 hf7
          go_wp2_with (with_reducible refine wl_stop (o := ⟨some 12, _, _, _, _, _⟩) ?_)
          refine wl_allocS st7 rfl rfl (z := .agg #[.int .u64 0, .int .u64 0, .int .u64 0, .int .u64 0, .int .u64 0, .int .u64 0, .int .u64 0, .int .u64 0, .int .u64 0, .int .u64 0, .int .u64 0, .int .u64 0]) (by kernel_rfl) (cw 12 0) (by rw [cw_zero]; rfl) ?_
          intro g12 w8 st8
          clear st7
          go_wp2_with (with_reducible refine wl_stop (o := ⟨none, _, _, _, _, _⟩) ?_)
          refine wl_storeS st8 2 rfl rfl rfl rfl rfl (by first | (simp only [cw_len]; done) | (simp only [List.length_append, cw_len, RT.len, rpL_len]; done)) (by first | (rw [cw_len]; kernel_rfl) | (simp only [rpL_len]; kernel_rfl)) (rpL_one _ _ _) ?_
          intro w9 st9
          clear st8
          rcases b with _ | _
          · have hfr := st9.fr
            clear st9
            go_wp2_with fail
            go_ret2
            exact ⟨rfl, hfr⟩
          · skip
            rw [HX1.out rfl] at st9
            have HNX := Lib.hid (show numB mQ x = true by have h := numsB_getG HGA.out j HLKj.out; rw [HLXj.out] at h; exact h)
            go_wp2_with fail
            refine wp_region_noPanic ?_
            refine wp_region_lad st9 11 [.o 9, .t 0, .w 1, .w 2, .w 3, .t 4, .c 5, .w 6, .w 7, .w 8, .j 9] (.r 10 (.m 11 .nil)) (by kernel_rfl) (by kernel_rfl) (fun _ _ _ _ _ h => h) ?_
            clear st9
            refine lad_o rfl rfl rfl z_rn (cw 4 0) rfl ?_
            try simp only [Act.put, List.setIfInBounds_toArray, List.set_cons_zero, List.set_cons_succ]
            refine lad_arr rfl rfl rfl (fun _ => rfl) (cw 4 mQ.M ++ cw 4 (B64 ^ 4 - mQ.M)) (fun wx hS => St.rangeL hS 0 rfl 0 _ (by rw [List.drop_zero, List.take_of_length_le (Nat.le_refl _)])) Try.underlying31 rfl (by first | (rw [cw_len]; kernel_rfl) | (simp only [List.length_append, cw_len]; kernel_rfl)) ?_
            try simp only [Act.put, List.setIfInBounds_toArray, List.set_cons_zero, List.set_cons_succ]
            refine lad_w (v := ?_) rfl rfl (fun xq wx => ?_) ?_
            rotate_left 1
            · (go_simp; with_reducible rfl)
            try simp only [Act.put, List.setIfInBounds_toArray, List.set_cons_zero, List.set_cons_succ]
            refine lad_w (v := ?_) rfl rfl (fun xq wx => ?_) ?_
            rotate_left 1
            · (go_simp; with_reducible rfl)
            try simp only [Act.put, List.setIfInBounds_toArray, List.set_cons_zero, List.set_cons_succ]
            refine lad_w (v := ?_) rfl rfl (fun xq wx => ?_) ?_
            rotate_left 1
            · (go_simp; with_reducible rfl)
            try simp only [Act.put, List.setIfInBounds_toArray, List.set_cons_zero, List.set_cons_succ]
            refine lad_t (v := ?_) rfl rfl (fun xq wx hS => ?_) ?_
            rotate_left 1
            · (have hc := (rd_cell (HVA.out.still (St.fr hS)) j _ (by have h := ss_get ln j HLKj.out; rw [HLXj.out] at h; exact h)); clear hS; go_simp; with_reducible rfl)
            try simp only [Act.put, List.setIfInBounds_toArray, List.set_cons_zero, List.set_cons_succ]
            refine lad_callX (X := Nat) (fun N => .tuple #[i4 N, .bool true]) (fun N _ => true = true → N = beN x) (fun _ _ _ h _ => h) rfl rfl rfl Try.call11 (fun w hS hR => RNumQ_s x true HNX.out _) (fun _ => rfl) fun N1 => ?_
            try simp only [Act.put, List.setIfInBounds_toArray, List.set_cons_zero, List.set_cons_succ]
            refine lad_w (v := ?_) rfl rfl (fun xq wx => ?_) ?_
            rotate_left 1
            · (go_simp; with_reducible rfl)
            try simp only [Act.put, List.setIfInBounds_toArray, List.set_cons_zero, List.set_cons_succ]
            refine lad_w (v := ?_) rfl rfl (fun xq wx => ?_) ?_
            rotate_left 1
            · (go_simp; with_reducible rfl)
            try simp only [Act.put, List.setIfInBounds_toArray, List.set_cons_zero, List.set_cons_succ]
            refine lad_w (v := ?_) rfl rfl (fun xq wx => ?_) ?_
            rotate_left 1
            · (go_simp; with_reducible rfl)
            try simp only [Act.put, List.setIfInBounds_toArray, List.set_cons_zero, List.set_cons_succ]
            refine lad_j List.mem_cons_self fun g14 => ?_
            simp only [upd, reduceIte]
            try simp only [Nat.reduceEqDiff, reduceIte]
            refine lad_end fun xq w10 st10 hR => ?_
            try dsimp only
            have hN1 := hR.2 trivial
            subst hN1
            clear hR xq
            refine plan_r rfl rfl ?_
            refine wp_storeS st10 3 rfl rfl rfl rfl (by first | (simp only [cw_len]; done) | (simp only [List.length_append, cw_len, RT.len, rpL_len]; done)) (by first | (rw [cw_len]; kernel_rfl) | (rw [RT.len]; kernel_rfl) | (rw [rpL_len]; kernel_rfl) | (simp only [List.length_append, cw_len]; kernel_rfl) | (simp only [List.length_append, cw_len, RT.len, rpL_len]; kernel_rfl)) (cw_one _ _) ?_
            intro w11 st11
            repeat (first | simp only [List.cons_append] at st11 | simp only [List.nil_append] at st11 | simp only [List.set_cons_succ] at st11 | simp only [List.set_cons_zero] at st11)
            clear st10
            refine ⟨by first | exact st11 | exact St.less st11 (by simp), ?_⟩
            try simp only [Act.put]
            refine plan_m rfl rfl ?_
            go_simp
            try simp only [Act.put, List.setIfInBounds_toArray, List.set_cons_zero, List.set_cons_succ]
            refine plan_end ?_
            refine NoPanic.normal ?_
            have st11 : St Nob w w11 [(g6, cw 4 mQ.M ++ cw 4 (B64 ^ 4 - mQ.M), 31), (g10, (accR ln lp j).L, 26), (g12, (rdR y).L, 26), (g14, cw 4 (beN x), 24)] := st11
            go_wp2_with fail
            refine wp_region_noPanic ?_
            refine wp_region_lad st11 5 [.t 0, .t 1, .t 2, .c 3, .c 4] (.m 5 .nil) (by kernel_rfl) (by kernel_rfl) (fun _ _ _ _ _ h => h) ?_
            clear st11
            refine lad_arr rfl rfl rfl (fun _ => rfl) ((accR ln lp j).L) (fun wx hS => St.rangeL hS 1 rfl 0 _ (by rw [List.drop_zero, List.take_of_length_le (Nat.le_refl _)])) Try.underlying26 rfl (by first | (rw [cw_len]; kernel_rfl) | (simp only [RT.len]; kernel_rfl)) ?_
            try simp only [Act.put, List.setIfInBounds_toArray, List.set_cons_zero, List.set_cons_succ]
            refine lad_arr rfl rfl rfl (fun _ => rfl) (cw 4 (beN x)) (fun wx hS => St.rangeL hS 3 rfl 0 _ (by rw [List.drop_zero, List.take_of_length_le (Nat.le_refl _)])) Try.underlying24 rfl (by first | (rw [cw_len]; kernel_rfl) | (rw [RT.len]; kernel_rfl) | (rw [rpL_len]; kernel_rfl) | (simp only [List.length_append, cw_len]; kernel_rfl) | (simp only [List.length_append, cw_len, RT.len, rpL_len]; kernel_rfl)) ?_
            try simp only [Act.put, List.setIfInBounds_toArray, List.set_cons_zero, List.set_cons_succ]
            refine lad_arr rfl rfl rfl (fun _ => rfl) ((rdR y).L) (fun wx hS => St.rangeL hS 2 rfl 0 _ (by rw [List.drop_zero, List.take_of_length_le (Nat.le_refl _)])) Try.underlying26 rfl (by first | (rw [cw_len]; kernel_rfl) | (simp only [RT.len]; kernel_rfl)) ?_
            try simp only [Act.put, List.setIfInBounds_toArray, List.set_cons_zero, List.set_cons_succ]
            refine lad_call rfl rfl rfl Try.call21 (fun w hS hR => RTimes_c (beN x) (rdR y) _) (fun _ => rfl) ?_
            try simp only [Act.put, List.setIfInBounds_toArray, List.set_cons_zero, List.set_cons_succ]
            refine lad_call rfl rfl rfl Try.call20 (fun w hS hR => RPlus_c (accR ln lp j) (timesR (beN x) (rdR y)) _) (fun _ => rfl) ?_
            try simp only [Act.put, List.setIfInBounds_toArray, List.set_cons_zero, List.set_cons_succ]
            refine lad_end fun xq w12 st12 hR => ?_
            try dsimp only
            clear hR xq
            refine plan_m rfl rfl ?_
            refine wp_storeS st12 1 rfl rfl rfl rfl (by first | (simp only [cw_len]; done) | (simp only [List.length_append, cw_len, RT.len, rpL_len]; done)) (by first | (rw [cw_len]; kernel_rfl) | (simp only [RT.len]; kernel_rfl)) (RT.one _) ?_
            intro w13 st13
            try simp only [List.set_cons_zero, List.set_cons_succ] at st13
            clear st12
            try simp only [Act.put]
            refine plan_end ?_
            refine NoPanic.normal ?_
            rw [← accR_succ ln lp j x y HLXj.out HLY.out] at st13
            go_wp2_with fail
            go_roundw
            case rel => exact ⟨j + 1, by have := HLT.out; omega, by go_num, by rw [rdsB_takeG lp j HLKp.out y HLY.out, HG.out, HB.out]; rfl, St.less st13 (by simp)⟩
            case measure => have := HLT.out; simp [intOf]; omega
        · exfalso
          have hkn : j = lp.length := by rw [HL2.out]; omega
          have h := HG.out
          rw [hkn, List.take_of_length_le (Nat.le_refl _), HRA.out] at h
          cases h

set_option maxHeartbeats 16000000 in
set_option maxRecDepth 1000000 in
theorem lsum_ok (aa : Option Addr) (n ca : Nat) (ln : List (List UInt8)) (bb : Option Addr) (cb : Nat) (lp : List (List UInt8)) (w : World) (hva : Rd w aa n (ss ln)) (hvb : Rd w bb n (ss lp)) (hn : n ≤ 512) (hg : numsB mQ ln = true) (hr : rdsB lp = true) :
    Calls Try.prog 26 #[.slice aa n ca, .slice bb n cb] w fun e w' => e = .returned (.tuple #[.int .i64 0, .string (mkS (wrPt (accR ln lp lp.length).pt))]) ∧ Fr Nob w w' := by
  have HVA := Lib.hid hva
  have HVB := Lib.hid hvb
  have HL := Lib.hid (show ln.length = n by rw [← ss_len, hva.len])
  have HL2 := Lib.hid (show lp.length = n by rw [← ss_len, hvb.len])
  have hnI : ¬ ((512 : Int) < (n : Int)) := by omega
  have HN := Lib.hid hn
  clear hva hvb hn
  have HGA := Lib.hid hg
  have HRA := Lib.hid hr
  clear hg hr
  have st0 := St.start Nob w
  go_enter Try.func26, Try.ntmps26
  go_wp2_with fail
  refine (RQ_u _).mono ?_
  rintro e' w1 ⟨rfl, hf1⟩
  have st1 := st0.keep hf1
  clear st0 hf1
  go_wp2_with (with_reducible refine wl_stop (o := ⟨some 6, _, _, _, _, _⟩) ?_)
  refine wl_allocS st1 rfl rfl (z := .agg #[.int .u64 0, .int .u64 0, .int .u64 0, .int .u64 0, .int .u64 0, .int .u64 0, .int .u64 0, .int .u64 0]) (by kernel_rfl) (cw 8 0) (by rw [cw_zero]; rfl) ?_
  intro g6 w2 st2
  clear st1
  go_wp2_with (with_reducible refine wl_stop (o := ⟨none, _, _, _, _, _⟩) ?_)
  refine wl_storeS st2 0 rfl rfl rfl rfl rfl (by first | (simp only [cw_len]; done) | (simp only [List.length_append, cw_len, RT.len, rpL_len]; done)) (by first | (rw [cw_len]; kernel_rfl) | (simp only [List.length_append, cw_len]; kernel_rfl)) (cw2_one _ _ _ _) ?_
  intro w3 st3
  clear st2
  go_wp2
  go_loopw [7] (fun v wr => ∃ k : Nat, k ≤ n ∧ v = .int .i64 (k : Int) ∧ numsB mQ (ln.take k) = true ∧ St Nob w wr [(g6, cw 4 mQ.M ++ cw 4 (B64 ^ 4 - mQ.M), 31)]) (fun v _ => n - (intOf v).toNat)
  case atStart => exact ⟨0, Nat.zero_le _, rfl, by rw [List.take_zero]; unfold numsB; rfl, st3⟩
  case round =>
    obtain ⟨k, hk, rfl, hgood, st⟩ := hrel
    clear st3
    have HG := Lib.hid hgood
    clear hgood
    by_cases hlt : k < n
    · have hltI : (k : Int) < (n : Int) := by omega
      have hk0 : (0 : Int) ≤ (k : Int) := by omega
      obtain ⟨ba, oa, hea, -⟩ := HVA.out.at (by omega)
      subst hea
      have HLKk := Lib.hid (show k < ln.length by rw [HL.out]; exact hlt)
      obtain ⟨x, hx⟩ : ∃ x, ln.getD k [] = x := ⟨_, rfl⟩
      have HLXk := Lib.hid hx
      obtain ⟨b, hb⟩ : ∃ b, numB mQ x = b := ⟨_, rfl⟩
      have HB := Lib.hid hb
      have HLT := Lib.hid hlt
      clear hx hb hlt hk
      go_wp2_with fail
      refine wp_region_noPanic ?_
      refine wp_region_lad st 11 [.o 9, .t 0, .w 1, .w 2, .w 3, .t 4, .c 5, .w 6, .w 7, .w 8, .j 9] (.r 10 (.m 11 .nil)) (by kernel_rfl) (by kernel_rfl) (fun _ _ _ _ _ h => h) ?_
      clear st
      refine lad_o rfl rfl rfl z_rn (cw 4 0) rfl ?_
      try simp only [Act.put, List.setIfInBounds_toArray, List.set_cons_zero, List.set_cons_succ]
      refine lad_arr rfl rfl rfl (fun _ => rfl) (cw 4 mQ.M ++ cw 4 (B64 ^ 4 - mQ.M)) (fun wx hS => St.rangeL hS 0 rfl 0 _ (by rw [List.drop_zero, List.take_of_length_le (Nat.le_refl _)])) Try.underlying31 rfl (by first | (rw [cw_len]; kernel_rfl) | (simp only [List.length_append, cw_len]; kernel_rfl)) ?_
      try simp only [Act.put, List.setIfInBounds_toArray, List.set_cons_zero, List.set_cons_succ]
      refine lad_w (v := ?_) rfl rfl (fun xq wx => ?_) ?_
      rotate_left 1
      · (go_simp; with_reducible rfl)
      try simp only [Act.put, List.setIfInBounds_toArray, List.set_cons_zero, List.set_cons_succ]
      refine lad_w (v := ?_) rfl rfl (fun xq wx => ?_) ?_
      rotate_left 1
      · (go_simp; with_reducible rfl)
      try simp only [Act.put, List.setIfInBounds_toArray, List.set_cons_zero, List.set_cons_succ]
      refine lad_w (v := ?_) rfl rfl (fun xq wx => ?_) ?_
      rotate_left 1
      · (go_simp; with_reducible rfl)
      try simp only [Act.put, List.setIfInBounds_toArray, List.set_cons_zero, List.set_cons_succ]
      refine lad_t (v := ?_) rfl rfl (fun xq wx hS => ?_) ?_
      rotate_left 1
      · (have hc := (rd_cell (HVA.out.still (St.fr hS)) k _ (by have h := ss_get ln k HLKk.out; rw [HLXk.out] at h; exact h)); clear hS; go_simp; with_reducible rfl)
      try simp only [Act.put, List.setIfInBounds_toArray, List.set_cons_zero, List.set_cons_succ]
      refine lad_callX (X := Nat) (fun N => .tuple #[i4 N, .bool b]) (fun N _ => b = true → N = beN x) (fun _ _ _ h _ => h) rfl rfl rfl Try.call11 (fun w hS hR => RNumQ_s x b HB.out _) (fun _ => rfl) fun N1 => ?_
      try simp only [Act.put, List.setIfInBounds_toArray, List.set_cons_zero, List.set_cons_succ]
      refine lad_w (v := ?_) rfl rfl (fun xq wx => ?_) ?_
      rotate_left 1
      · (go_simp; with_reducible rfl)
      try simp only [Act.put, List.setIfInBounds_toArray, List.set_cons_zero, List.set_cons_succ]
      refine lad_w (v := ?_) rfl rfl (fun xq wx => ?_) ?_
      rotate_left 1
      · (go_simp; with_reducible rfl)
      try simp only [Act.put, List.setIfInBounds_toArray, List.set_cons_zero, List.set_cons_succ]
      refine lad_w (v := ?_) rfl rfl (fun xq wx => ?_) ?_
      rotate_left 1
      · (go_simp; with_reducible rfl)
      try simp only [Act.put, List.setIfInBounds_toArray, List.set_cons_zero, List.set_cons_succ]
      refine lad_j List.mem_cons_self fun g8 => ?_
      simp only [upd, reduceIte]
      try simp only [Nat.reduceEqDiff, reduceIte]
      refine lad_end fun xq w4 st4 hR => ?_
      try dsimp only
      clear hR xq
      refine plan_r rfl rfl ?_
      refine wp_storeS st4 1 rfl rfl rfl rfl (by first | (simp only [cw_len]; done) | (simp only [List.length_append, cw_len, RT.len, rpL_len]; done)) (by first | (rw [cw_len]; kernel_rfl) | (rw [RT.len]; kernel_rfl) | (rw [rpL_len]; kernel_rfl) | (simp only [List.length_append, cw_len]; kernel_rfl) | (simp only [List.length_append, cw_len, RT.len, rpL_len]; kernel_rfl)) (cw_one _ _) ?_
      intro w5 st5
      repeat (first | simp only [List.cons_append] at st5 | simp only [List.nil_append] at st5 | simp only [List.set_cons_succ] at st5 | simp only [List.set_cons_zero] at st5)
      clear st4
      refine ⟨by first | exact st5 | exact St.less st5 (by simp), ?_⟩
      try simp only [Act.put]
      refine plan_m rfl rfl ?_
      go_simp
      try simp only [Act.put, List.setIfInBounds_toArray, List.set_cons_zero, List.set_cons_succ]
      refine plan_end ?_
      refine NoPanic.normal ?_
      rcases b with _ | _
      · exfalso
        have h := numsB_badG ln k HLKk.out x HLXk.out HB.out
        rw [HGA.out] at h
        cases h
      · skip
        go_wp2_with fail
        go_roundw
        case rel => exact ⟨k + 1, by have := HLT.out; omega, by go_num, by rw [numsB_takeG ln k HLKk.out x HLXk.out, HG.out, HB.out]; rfl, St.less st5 (by simp)⟩
        case measure => have := HLT.out; simp [intOf]; omega
    · have hnlt : ¬ ((k : Int) < (n : Int)) := by omega
      clear hlt HG hk
      go_wp2_with fail
      refine (RNone_c _).mono ?_
      rintro e' w4 ⟨rfl, hf4⟩
      have st4 := st.keep hf4
      clear st hf4
      go_wp2_with (with_reducible refine wl_stop (o := ⟨some 10, _, _, _, _, _⟩) ?_)
      refine wl_allocS st4 rfl rfl (z := .agg #[.int .u64 0, .int .u64 0, .int .u64 0, .int .u64 0, .int .u64 0, .int .u64 0, .int .u64 0, .int .u64 0, .int .u64 0, .int .u64 0, .int .u64 0, .int .u64 0]) (by kernel_rfl) (cw 12 0) (by rw [cw_zero]; rfl) ?_
      intro g10 w5 st5
      clear st4
      go_wp2_with (with_reducible refine wl_stop (o := ⟨none, _, _, _, _, _⟩) ?_)
      refine wl_storeS st5 1 rfl rfl rfl rfl rfl (by first | (simp only [cw_len]; done) | (simp only [List.length_append, cw_len, RT.len, rpL_len]; done)) (by first | (rw [cw_len]; kernel_rfl) | (simp only [RT.len]; kernel_rfl)) (RT.one _) ?_
      intro w6 st6
      clear st5
      rw [← accR_zero ln lp] at st6
      go_wp2
      go_loopw [11] (fun v wr => ∃ k : Nat, k ≤ n ∧ v = .int .i64 (k : Int) ∧ rdsB (lp.take k) = true ∧ St Nob w wr [(g6, cw 4 mQ.M ++ cw 4 (B64 ^ 4 - mQ.M), 31), (g10, (accR ln lp k).L, 26)]) (fun v _ => n - (intOf v).toNat)
      case atStart => exact ⟨0, Nat.zero_le _, rfl, by rw [List.take_zero]; unfold rdsB; rfl, st6⟩
      case round =>
        clear hnlt
        obtain ⟨j, hj, rfl, hgood, st2⟩ := hrel
        clear st6
        have HG := Lib.hid hgood
        clear hgood
        by_cases hlt : j < n
        · have hltI : (j : Int) < (n : Int) := by omega
          have hk0 : (0 : Int) ≤ (j : Int) := by omega
          obtain ⟨ba, oa, hea, -⟩ := HVA.out.at (by omega)
          subst hea
          obtain ⟨bp, op, hep, -⟩ := HVB.out.at (by omega)
          subst hep
          have HLKj := Lib.hid (show j < ln.length by rw [HL.out]; exact hlt)
          have HLKp := Lib.hid (show j < lp.length by rw [HL2.out]; exact hlt)
          obtain ⟨x, hx⟩ : ∃ x, ln.getD j [] = x := ⟨_, rfl⟩
          obtain ⟨y, hy⟩ : ∃ y, lp.getD j [] = y := ⟨_, rfl⟩
          have HLXj := Lib.hid hx
          have HLY := Lib.hid hy
          have HLT := Lib.hid hlt
          obtain ⟨b, hb⟩ : ∃ b, rdOk y = b := ⟨_, rfl⟩
          have HB := Lib.hid hb
          clear hx hy hb hlt hj
          have hcy := rd_cell (HVB.out.still st2.fr) j _ (by have h := ss_get lp j HLKp.out; rw [HLY.out] at h; exact h)
          go_wp2_with fail
          refine (RRead_s y b HB.out _).mono ?_
          rintro e' w7 ⟨X1, Y1, Z1, rfl, hx1, hf7⟩
          have st7 := st2.keep hf7
          have HX1 := Lib.hid hx1
          clear hx1 hcy
          clear st2 hf7
          go_wp2_with (with_reducible refine wl_stop (o := ⟨some 12, _, _, _, _, _⟩) ?_)
          refine wl_allocS st7 rfl rfl (z := .agg #[.int .u64 0, .int .u64 0, .int .u64 0, .int .u64 0, .int .u64 0, .int .u64 0, .int .u64 0, .int .u64 0, .int .u64 0, .int .u64 0, .int .u64 0, .int .u64 0]) (by kernel_rfl) (cw 12 0) (by rw [cw_zero]; rfl) ?_
          intro g12 w8 st8
          clear st7
          go_wp2_with (with_reducible refine wl_stop (o := ⟨none, _, _, _, _, _⟩) ?_)
          refine wl_storeS st8 2 rfl rfl rfl rfl rfl (by first | (simp only [cw_len]; done) | (simp only [List.length_append, cw_len, RT.len, rpL_len]; done)) (by first | (rw [cw_len]; kernel_rfl) | (simp only [rpL_len]; kernel_rfl)) (rpL_one _ _ _) ?_
          intro w9 st9
          clear st8
          rcases b with _ | _
          · exfalso
            have h := rdsB_badG lp j HLKp.out y HLY.out HB.out
            rw [HRA.out] at h
            cases h
          · skip
            rw [HX1.out rfl] at st9
            have HNX := Lib.hid (show numB mQ x = true by have h := numsB_getG HGA.out j HLKj.out; rw [HLXj.out] at h; exact h)
            go_wp2_with fail
            refine wp_region_noPanic ?_
            refine wp_region_lad st9 11 [.o 9, .t 0, .w 1, .w 2, .w 3, .t 4, .c 5, .w 6, .w 7, .w 8, .j 9] (.r 10 (.m 11 .nil)) (by kernel_rfl) (by kernel_rfl) (fun _ _ _ _ _ h => h) ?_
            clear st9
            refine lad_o rfl rfl rfl z_rn (cw 4 0) rfl ?_
            try simp only [Act.put, List.setIfInBounds_toArray, List.set_cons_zero, List.set_cons_succ]
            refine lad_arr rfl rfl rfl (fun _ => rfl) (cw 4 mQ.M ++ cw 4 (B64 ^ 4 - mQ.M)) (fun wx hS => St.rangeL hS 0 rfl 0 _ (by rw [List.drop_zero, List.take_of_length_le (Nat.le_refl _)])) Try.underlying31 rfl (by first | (rw [cw_len]; kernel_rfl) | (simp only [List.length_append, cw_len]; kernel_rfl)) ?_
            try simp only [Act.put, List.setIfInBounds_toArray, List.set_cons_zero, List.set_cons_succ]
            refine lad_w (v := ?_) rfl rfl (fun xq wx => ?_) ?_
            rotate_left 1
            · (go_simp; with_reducible rfl)
            try simp only [Act.put, List.setIfInBounds_toArray, List.set_cons_zero, List.set_cons_succ]
            refine lad_w (v := ?_) rfl rfl (fun xq wx => ?_) ?_
            rotate_left 1
            · (go_simp; with_reducible rfl)
            try simp only [Act.put, List.setIfInBounds_toArray, List.set_cons_zero, List.set_cons_succ]
            refine lad_w (v := ?_) rfl rfl (fun xq wx => ?_) ?_
            rotate_left 1
            · (go_simp; with_reducible rfl)
            try simp only [Act.put, List.setIfInBounds_toArray, List.set_cons_zero, List.set_cons_succ]
            refine lad_t (v := ?_) rfl rfl (fun xq wx hS => ?_) ?_
            rotate_left 1
            · (have hc := (rd_cell (HVA.out.still (St.fr hS)) j _ (by have h := ss_get ln j HLKj.out; rw [HLXj.out] at h; exact h)); clear hS; go_simp; with_reducible rfl)
            try simp only [Act.put, List.setIfInBounds_toArray, List.set_cons_zero, List.set_cons_succ]
            refine lad_callX (X := Nat) (fun N => .tuple #[i4 N, .bool true]) (fun N _ => true = true → N = beN x) (fun _ _ _ h _ => h) rfl rfl rfl Try.call11 (fun w hS hR => RNumQ_s x true HNX.out _) (fun _ => rfl) fun N1 => ?_
            try simp only [Act.put, List.setIfInBounds_toArray, List.set_cons_zero, List.set_cons_succ]
            refine lad_w (v := ?_) rfl rfl (fun xq wx => ?_) ?_
            rotate_left 1
            · (go_simp; with_reducible rfl)
            try simp only [Act.put, List.setIfInBounds_toArray, List.set_cons_zero, List.set_cons_succ]
            refine lad_w (v := ?_) rfl rfl (fun xq wx => ?_) ?_
            rotate_left 1
            · (go_simp; with_reducible rfl)
            try simp only [Act.put, List.setIfInBounds_toArray, List.set_cons_zero, List.set_cons_succ]
            refine lad_w (v := ?_) rfl rfl (fun xq wx => ?_) ?_
            rotate_left 1
            · (go_simp; with_reducible rfl)
            try simp only [Act.put, List.setIfInBounds_toArray, List.set_cons_zero, List.set_cons_succ]
            refine lad_j List.mem_cons_self fun g14 => ?_
            simp only [upd, reduceIte]
            try simp only [Nat.reduceEqDiff, reduceIte]
            refine lad_end fun xq w10 st10 hR => ?_
            try dsimp only
            have hN1 := hR.2 trivial
            subst hN1
            clear hR xq
            refine plan_r rfl rfl ?_
            refine wp_storeS st10 3 rfl rfl rfl rfl (by first | (simp only [cw_len]; done) | (simp only [List.length_append, cw_len, RT.len, rpL_len]; done)) (by first | (rw [cw_len]; kernel_rfl) | (rw [RT.len]; kernel_rfl) | (rw [rpL_len]; kernel_rfl) | (simp only [List.length_append, cw_len]; kernel_rfl) | (simp only [List.length_append, cw_len, RT.len, rpL_len]; kernel_rfl)) (cw_one _ _) ?_
            intro w11 st11
            repeat (first | simp only [List.cons_append] at st11 | simp only [List.nil_append] at st11 | simp only [List.set_cons_succ] at st11 | simp only [List.set_cons_zero] at st11)
            clear st10
            refine ⟨by first | exact st11 | exact St.less st11 (by simp), ?_⟩
            try simp only [Act.put]
            refine plan_m rfl rfl ?_
            go_simp
            try simp only [Act.put, List.setIfInBounds_toArray, List.set_cons_zero, List.set_cons_succ]
            refine plan_end ?_
            refine NoPanic.normal ?_
            have st11 : St Nob w w11 [(g6, cw 4 mQ.M ++ cw 4 (B64 ^ 4 - mQ.M), 31), (g10, (accR ln lp j).L, 26), (g12, (rdR y).L, 26), (g14, cw 4 (beN x), 24)] := st11
            go_wp2_with fail
            refine wp_region_noPanic ?_
            refine wp_region_lad st11 5 [.t 0, .t 1, .t 2, .c 3, .c 4] (.m 5 .nil) (by kernel_rfl) (by kernel_rfl) (fun _ _ _ _ _ h => h) ?_
            clear st11
            refine lad_arr rfl rfl rfl (fun _ => rfl) ((accR ln lp j).L) (fun wx hS => St.rangeL hS 1 rfl 0 _ (by rw [List.drop_zero, List.take_of_length_le (Nat.le_refl _)])) Try.underlying26 rfl (by first | (rw [cw_len]; kernel_rfl) | (simp only [RT.len]; kernel_rfl)) ?_
            try simp only [Act.put, List.setIfInBounds_toArray, List.set_cons_zero, List.set_cons_succ]
            refine lad_arr rfl rfl rfl (fun _ => rfl) (cw 4 (beN x)) (fun wx hS => St.rangeL hS 3 rfl 0 _ (by rw [List.drop_zero, List.take_of_length_le (Nat.le_refl _)])) Try.underlying24 rfl (by first | (rw [cw_len]; kernel_rfl) | (rw [RT.len]; kernel_rfl) | (rw [rpL_len]; kernel_rfl) | (simp only [List.length_append, cw_len]; kernel_rfl) | (simp only [List.length_append, cw_len, RT.len, rpL_len]; kernel_rfl)) ?_
            try simp only [Act.put, List.setIfInBounds_toArray, List.set_cons_zero, List.set_cons_succ]
            refine lad_arr rfl rfl rfl (fun _ => rfl) ((rdR y).L) (fun wx hS => St.rangeL hS 2 rfl 0 _ (by rw [List.drop_zero, List.take_of_length_le (Nat.le_refl _)])) Try.underlying26 rfl (by first | (rw [cw_len]; kernel_rfl) | (simp only [RT.len]; kernel_rfl)) ?_
            try simp only [Act.put, List.setIfInBounds_toArray, List.set_cons_zero, List.set_cons_succ]
            refine lad_call rfl rfl rfl Try.call21 (fun w hS hR => RTimes_c (beN x) (rdR y) _) (fun _ => rfl) ?_
            try simp only [Act.put, List.setIfInBounds_toArray, List.set_cons_zero, List.set_cons_succ]
            refine lad_call rfl rfl rfl Try.call20 (fun w hS hR => RPlus_c (accR ln lp j) (timesR (beN x) (rdR y)) _) (fun _ => rfl) ?_
            try simp only [Act.put, List.setIfInBounds_toArray, List.set_cons_zero, List.set_cons_succ]
            refine lad_end fun xq w12 st12 hR => ?_
            try dsimp only
            clear hR xq
            refine plan_m rfl rfl ?_
            refine wp_storeS st12 1 rfl rfl rfl rfl (by first | (simp only [cw_len]; done) | (simp only [List.length_append, cw_len, RT.len, rpL_len]; done)) (by first | (rw [cw_len]; kernel_rfl) | (simp only [RT.len]; kernel_rfl)) (RT.one _) ?_
            intro w13 st13
            try simp only [List.set_cons_zero, List.set_cons_succ] at st13
            clear st12
            try simp only [Act.put]
            refine plan_end ?_
            refine NoPanic.normal ?_
            rw [← accR_succ ln lp j x y HLXj.out HLY.out] at st13
            go_wp2_with fail
            go_roundw
            case rel => exact ⟨j + 1, by have := HLT.out; omega, by go_num, by rw [rdsB_takeG lp j HLKp.out y HLY.out, HG.out, HB.out]; rfl, St.less st13 (by simp)⟩
            case measure => have := HLT.out; simp [intOf]; omega
        · have hnlt2 : ¬ ((j : Int) < (n : Int)) := by omega
          have hkn : j = lp.length := by rw [HL2.out]; omega
          rw [hkn] at st2
          clear hkn
          go_wp2_with (with_reducible refine wl_stop (o := ⟨some 75, _, _, _, _, _⟩) ?_)
          refine wl_loadSt st2 1 rfl rfl rfl Try.underlying26 rfl rfl (by first | (rw [cw_len]; kernel_rfl) | (simp only [RT.len]; kernel_rfl)) ?_
          go_wp2_with fail
          refine (RWritten_c (accR ln lp lp.length) _).mono ?_
          rintro e' w7 ⟨rfl, hf7⟩
          have st7 := st2.keep hf7
          clear st2 hf7
          have hfr := st7.fr
          clear st7
          go_wp2_with fail
          go_ret2
          exact ⟨rfl, hfr⟩

set_option maxHeartbeats 16000000 in
set_option maxRecDepth 1000000 in
theorem lsum_form (aa : Option Addr) (n ca : Nat) (bb : Option Addr) (m cb : Nat) (w : World) (h : n ≠ m) :
    Calls Try.prog 26 #[.slice aa n ca, .slice bb m cb] w fun e w' => e = .returned (.tuple #[.int .i64 2, .string (mkS [])]) ∧ Fr Nob w w' := by
  have h1 : ((n : Int) != (m : Int)) = true := by simp; omega
  have h2 : (n != m) = true := by simpa using h
  go_enter Try.func26, Try.ntmps26
  go_wp2
  go_ret2
  exact ⟨rfl, Fr.refl _ _⟩
set_option maxHeartbeats 16000000 in
set_option maxRecDepth 1000000 in
theorem lsum_long (aa : Option Addr) (n ca : Nat) (bb : Option Addr) (cb : Nat) (w : World) (h : 512 < n) :
    Calls Try.prog 26 #[.slice aa n ca, .slice bb n cb] w fun e w' => e = .returned (.tuple #[.int .i64 1, .string (mkS [])]) ∧ Fr Nob w w' := by
  have h1 : (512 : Int) < (n : Int) := by omega
  go_enter Try.func26, Try.ntmps26
  go_wp2
  go_ret2
  exact ⟨rfl, Fr.refl _ _⟩
theorem lsum_all (aa : Option Addr) (ca : Nat) (ln : List (List UInt8)) (bb : Option Addr) (cb : Nat) (lp : List (List UInt8)) (w : World) (hva : Rd w aa ln.length (ss ln)) (hvb : Rd w bb lp.length (ss lp)) :
    Calls Try.prog 26 #[.slice aa ln.length ca, .slice bb lp.length cb] w fun e w' => e = .returned (.tuple #[.int .i64 (sumE ln lp : Nat), .string (mkS (sumS ln lp))]) ∧ Fr Nob w w' := by
  unfold sumE sumS
  by_cases h1 : ln.length = lp.length
  · rw [← h1] at hvb ⊢
    rw [if_pos rfl, if_pos rfl]
    by_cases h2 : ln.length ≤ 512
    · rw [if_pos h2, if_pos h2]
      cases hn : numsB mQ ln
      · exact lsum_badk aa _ ca ln bb cb lp w hva hvb h2 hn
      · cases hr : rdsB lp
        · exact lsum_badp aa _ ca ln bb cb lp w hva hvb h2 hn hr
        · have h := lsum_ok aa _ ca ln bb cb lp w hva hvb h2 hn hr
          rw [accR_pt h1 hn hr _ (Nat.le_refl _)] at h
          rw [h1]
          rw [h1] at h
          exact h
    · rw [if_neg h2, if_neg h2]
      exact lsum_long aa _ ca bb cb w (by omega)
  · rw [if_neg h1, if_neg h1]
    exact lsum_form aa _ ca bb _ cb w h1
end Go.Proofs.Ytdbgddngapminaa

/- The law GroupSums. -/
namespace Mvp
def S64 (ls : List (List UInt8)) : Prop := ∀ x ∈ ls, x.length ≤ 64
theorem S64.snoc {ls : List (List UInt8)} {x : List UInt8} (h : S64 ls) (hx : x.length ≤ 64) : S64 (ls ++ [x]) := by
  intro y hy
  rcases List.mem_append.1 hy with h1 | h1
  · exact h y h1
  · simp only [List.mem_singleton] at h1; subst h1; exact hx
end Mvp
namespace Go.Proofs.Ytdbgddngapminaa
open Go.RowKit Go.Mv Mvp Mvq
theorem POwn.bparts {w : World} {base : Nat} : ∀ {vs : List Value} {ls : List (List UInt8)}, POwn w base vs ls → BParts w vs ls := by
  intro vs ls h
  refine ⟨h.len, fun i v hv => ?_⟩
  obtain ⟨l, hl, ho⟩ := h.get i v hv
  obtain ⟨a, c, rfl, hc, hr, -⟩ := ho.form
  rw [Nat.mul_one] at hr
  rw [List.getD_eq_getElem?_getD, hl]
  exact ⟨a, _, c, rfl, hc, hr⟩
theorem SOwn.bparts {w : World} {base : Nat} {v : Value} {ls : List (List UInt8)} (h : SOwn w base v ls) : ∃ a c vs, v = .slice a ls.length c ∧ Rd w a ls.length vs ∧ BParts w vs ls := by
  obtain ⟨vs, h1, h2, h3⟩ := h
  obtain ⟨a, c, rfl, hc, hr, -⟩ := h1.form
  rw [Nat.mul_one] at hr
  exact ⟨a, c, vs, rfl, hr, h2.bparts⟩
theorem told_sum {ln lp : List (List UInt8)} : ((sumE ln lp : Nat) : Int) = 0 ∧ ((sumE ln lp : Nat) : Int) = 0 ∧ mkS (sumS ln lp) = mkS (sumS ln lp) ∨ (((sumE ln lp : Nat) : Int) != 0) = true ∧ ((sumE ln lp : Nat) : Int) = ((sumE ln lp : Nat) : Int) ∧ sumS ln lp = [] := by
  unfold sumE sumS
  by_cases h1 : ln.length = lp.length
  · rw [if_pos h1, if_pos h1]
    by_cases h2 : ln.length ≤ 512
    · rw [if_pos h2, if_pos h2]
      cases numsB mQ ln
      · exact .inr ⟨rfl, rfl, rfl⟩
      · cases rdsB lp
        · exact .inr ⟨rfl, rfl, rfl⟩
        · exact .inl ⟨rfl, rfl, rfl⟩
    · rw [if_neg h2, if_neg h2]; exact .inr ⟨rfl, rfl, rfl⟩
  · rw [if_neg h1, if_neg h1]; exact .inr ⟨rfl, rfl, rfl⟩
attribute [local irreducible] limbs lw mix cw cSub cAdd cMul foldC valFrom beN laid be32 powm montT mstep elN mdL numB rtV rtOk kN kc kinv wrPt rdOk rdPt rdR numsB rdsB sumE sumS S64
set_option maxHeartbeats 16000000 in
set_option maxRecDepth 1000000 in
theorem law_GroupSums_k (aa : Option Addr) (ca : Nat) (la : List (List UInt8)) (bb : Option Addr) (cb : Nat) (lb : List (List UInt8)) (w : World) (hn : la.length ≤ 600) (hm : lb.length ≤ 600) (hva : Rd w aa la.length (ss la)) (hvb : Rd w bb lb.length (ss lb)) :
    Calls Try.prog 5 #[.slice aa la.length ca, .slice bb lb.length cb] w fun e w' => e = .returned (.bool true) ∧ Fr Nob w w' := by
  have hga : ¬ ((600 : Int) < (la.length : Int)) := by omega
  have hgb : ¬ ((600 : Int) < (lb.length : Int)) := by omega
  have HVA := Lib.hid hva
  have HVB := Lib.hid hvb
  clear hva hvb
  go_enter Try.func5, Try.ntmps5
  go_wp2_with fail
  go_loopw [7, 5] (fun i q wr => ∃ j : Nat, j ≤ la.length ∧ i = .int .i64 (j : Int) ∧ SOwn wr w.heap.size q (la.take j) ∧ S64 (la.take j) ∧ Fr Nob w wr) (fun i _ _ => (la.length - intOf i).toNat)
  case atStart => exact ⟨0, by omega, rfl, SOwn.nil _ _, by unfold S64; simp, Fr.refl _ _⟩
  case round =>
    obtain ⟨j, hj, rfl, hS, h64, hfj⟩ := hrel
    have HS64 := Lib.hid h64; clear h64
    by_cases hlt : j < la.length
    · have hltI : (j : Int) < (la.length : Int) := by omega
      obtain ⟨b, o, hab, -⟩ := (HVA.out).at (by omega)
      subst hab
      have hc := rd_cell (HVA.out.still hfj) j _ (ss_get la j hlt)
      have htk : la.take (j + 1) = la.take j ++ [la.getD j []] := by
        rw [List.take_succ_eq_append_getElem hlt]; simp [List.getD_eq_getElem?_getD, hlt]
      have HTK := Lib.hid htk; clear htk
      generalize hq : la.getD j [] = x at *
      have HQ := Lib.hid hq; clear hq
      have hxz := mkS_size x
      by_cases hbig : 64 < x.length
      · have hbI : (64 : Int) < ((mkS x).size : Int) := by omega
        have HFJ := Lib.hid hfj
        clear hxz hfj hS
        go_wp2_with fail
        go_ret
        exact ⟨rfl, HFJ.out⟩
      have hbI : ¬ ((64 : Int) < ((mkS x).size : Int)) := by omega
      have HXL := Lib.hid (show x.length ≤ 64 by omega)
      obtain ⟨vs, hown, hpo, hsep⟩ := hS
      have hll : (la.take j).length = j := by rw [List.length_take]; omega
      have hown0 := hown
      rw [hll] at hown
      have HLL := Lib.hid hll; clear hll
      have hszz := hfj.size
      have HXZ := Lib.hid hxz; clear hxz
      go_wp2_with (with_reducible refine wl_stop (o := ⟨some 38, _, _, _, _, _⟩) ?_)
      refine wl_bytes (q := mkS x) rfl rfl Try.underlying9 Try.underlying34 Try.underlying5 rfl (by rw [mkS_size]; unfold maxLen; omega) wr.heap.size (Nat.le_refl _) ?_
      intro cap w11 hown1 hf1 hz1
      clear hz1
      rw [mkS_size, mkS_toList] at hown1
      rw [HXZ.out]
      have hfr1 := hfj.then hf1
      have hownq := hown.still hf1
      generalize hg0 : wr.heap.size = g0 at *
      go_wp2_with (with_reducible refine wl_stop (o := ⟨some 39, _, _, _, _, _⟩) ?_)
      refine wl_slit rfl rfl Try.underlying50 info_bsl [.slice (some ⟨g0, 0, none⟩) x.length cap] rfl (by simp; rfl) rfl rfl ?_
      intro w12 hh2 hf2 hz2
      clear hz2
      have hownq2 := hownq.still hf2
      have hfr2 := hfr1.then hf2
      clear hfr1 hownq
      generalize w11.heap.size = g1 at *
      have hsz2 := hfr2.size
      go_wp2_with (with_reducible refine wl_stop (o := ⟨some 40, _, _, _, _, _⟩) ?_)
      refine wl_append rfl rfl Try.underlying50 info_bsl rfl (by decide) hownq2 rfl rfl (Rd.whole hh2) (fun u hu => by simp only [List.mem_singleton] at hu; subst hu; rfl) (by unfold maxLen; omega) (by omega) hfr2.size ?_
      intro v3 w13 hown3 hf3 hb3
      clear hb3
      have hfr3 := hownq2.fr hfr2 (Nat.le_refl _) hf3
      have hfin : SOwn w13 w.heap.size v3 (la.take (j + 1)) := by
        rw [HTK.out]
        refine SOwn.snocF (w := wr) hown0 hpo hsep (by omega) (by rw [hg0]; exact hown1) hf1 hf2 (by rw [HLL.out]; exact hown3) hf3
      have h64' : S64 (la.take (j + 1)) := by rw [HTK.out]; exact HS64.out.snoc HXL.out
      have HFIN := Lib.hid hfin
      have H64 := Lib.hid h64'
      have HFR3 := Lib.hid hfr3
      clear hown hown0 hpo hsep hown1 hf1 hh2 hf2 hownq2 hfr2 hown3 hf3 hfin h64' hfr3 hfj hc hg0 hsz2 hszz
      go_wp2_with fail
      go_roundw
      case rel => exact ⟨j + 1, by omega, by go_num, HFIN.out, H64.out, HFR3.out⟩
      case measure => simp [intOf]; omega
    · have hge : ¬ ((j : Int) < (la.length : Int)) := by omega
      rw [List.take_of_length_le (by omega)] at hS HS64
      clear hlt
      have HA := Lib.hid hS
      have HF1 := Lib.hid hfj
      clear hS hfj HS64
      generalize wr = w1 at *
      go_wp2
      clear hge
      go_loopw [8, 6] (fun i q wr => ∃ j : Nat, j ≤ lb.length ∧ i = .int .i64 (j : Int) ∧ SOwn wr w1.heap.size q (lb.take j) ∧ S64 (lb.take j) ∧ Fr Nob w1 wr) (fun i _ _ => (lb.length - intOf i).toNat)
      case atStart => exact ⟨0, by omega, rfl, SOwn.nil _ _, by unfold S64; simp, Fr.refl _ _⟩
      case round =>
        obtain ⟨j, hj, rfl, hS, h64, hfj⟩ := hrel
        have HS64 := Lib.hid h64; clear h64
        by_cases hlt : j < lb.length
        · have hltI : (j : Int) < (lb.length : Int) := by omega
          obtain ⟨b, o, hab, -⟩ := (HVB.out).at (by omega)
          subst hab
          have hc := rd_cell (HVB.out.still (HF1.out.then hfj)) j _ (ss_get lb j hlt)
          have htk : lb.take (j + 1) = lb.take j ++ [lb.getD j []] := by
            rw [List.take_succ_eq_append_getElem hlt]; simp [List.getD_eq_getElem?_getD, hlt]
          have HTK := Lib.hid htk; clear htk
          generalize hq : lb.getD j [] = x at *
          have HQ := Lib.hid hq; clear hq
          have hxz := mkS_size x
          by_cases hbig : 64 < x.length
          · have hbI : (64 : Int) < ((mkS x).size : Int) := by omega
            have HFJ := Lib.hid (HF1.out.then hfj)
            clear hxz hfj hS
            go_wp2_with fail
            go_ret
            exact ⟨rfl, HFJ.out⟩
          have hbI : ¬ ((64 : Int) < ((mkS x).size : Int)) := by omega
          have HXL := Lib.hid (show x.length ≤ 64 by omega)
          obtain ⟨vs, hown, hpo, hsep⟩ := hS
          have hll : (lb.take j).length = j := by rw [List.length_take]; omega
          have hown0 := hown
          rw [hll] at hown
          have HLL := Lib.hid hll; clear hll
          have hszz := hfj.size
          have HXZ := Lib.hid hxz; clear hxz
          go_wp2_with (with_reducible refine wl_stop (o := ⟨some 58, _, _, _, _, _⟩) ?_)
          refine wl_bytes (q := mkS x) rfl rfl Try.underlying9 Try.underlying34 Try.underlying5 rfl (by rw [mkS_size]; unfold maxLen; omega) wr.heap.size (Nat.le_refl _) ?_
          intro cap w11 hown1 hf1 hz1
          clear hz1
          rw [mkS_size, mkS_toList] at hown1
          rw [HXZ.out]
          have hfr1 := hfj.then hf1
          have hownq := hown.still hf1
          generalize hg0 : wr.heap.size = g0 at *
          go_wp2_with (with_reducible refine wl_stop (o := ⟨some 59, _, _, _, _, _⟩) ?_)
          refine wl_slit rfl rfl Try.underlying50 info_bsl [.slice (some ⟨g0, 0, none⟩) x.length cap] rfl (by simp; rfl) rfl rfl ?_
          intro w12 hh2 hf2 hz2
          clear hz2
          have hownq2 := hownq.still hf2
          have hfr2 := hfr1.then hf2
          clear hfr1 hownq
          generalize w11.heap.size = g1 at *
          have hsz2 := hfr2.size
          go_wp2_with (with_reducible refine wl_stop (o := ⟨some 60, _, _, _, _, _⟩) ?_)
          refine wl_append rfl rfl Try.underlying50 info_bsl rfl (by decide) hownq2 rfl rfl (Rd.whole hh2) (fun u hu => by simp only [List.mem_singleton] at hu; subst hu; rfl) (by unfold maxLen; omega) (by omega) hfr2.size ?_
          intro v3 w13 hown3 hf3 hb3
          clear hb3
          have hfr3 := hownq2.fr hfr2 (Nat.le_refl _) hf3
          have hfin : SOwn w13 w1.heap.size v3 (lb.take (j + 1)) := by
            rw [HTK.out]
            refine SOwn.snocF (w := wr) hown0 hpo hsep (by omega) (by rw [hg0]; exact hown1) hf1 hf2 (by rw [HLL.out]; exact hown3) hf3
          have h64' : S64 (lb.take (j + 1)) := by rw [HTK.out]; exact HS64.out.snoc HXL.out
          have HFIN := Lib.hid hfin
          have H64 := Lib.hid h64'
          have HFR3 := Lib.hid hfr3
          clear hown hown0 hpo hsep hown1 hf1 hh2 hf2 hownq2 hfr2 hown3 hf3 hfin h64' hfr3 hfj hc hg0 hsz2 hszz
          go_wp2_with fail
          go_roundw
          case rel => exact ⟨j + 1, by omega, by go_num, HFIN.out, H64.out, HFR3.out⟩
          case measure => simp [intOf]; omega
        · have hge : ¬ ((j : Int) < (lb.length : Int)) := by omega
          rw [List.take_of_length_le (by omega)] at hS HS64
          clear hlt
          have HB := Lib.hid hS
          have HAX := Lib.hid (HA.out.still hfj)
          have HFX := Lib.hid (HF1.out.then hfj)
          clear hS hfj HA HF1 HS64
          obtain ⟨aq, cq, vq, haq, hrq, hbq⟩ := HAX.out.bparts
          obtain ⟨bq, dq, uq, hbq', hrq', hbq2⟩ := HB.out.bparts
          subst haq hbq'
          have HRQ := Lib.hid hrq
          have HBQ := Lib.hid hbq
          have HRU := Lib.hid hrq'
          have HBU := Lib.hid hbq2
          clear hrq hbq hrq' hbq2 HAX HB
          go_wp2_with fail
          refine (Sum_all aq cq vq la bq dq uq lb _ HRQ.out HBQ.out HRU.out HBU.out).mono ?_
          rintro e w4 ⟨v, rfl, ho, hf4⟩
          have HP := Lib.hid ho.part
          have HF4 := Lib.hid (HFX.out.then hf4)
          clear ho hf4 HFX HRQ HBQ HRU HBU
          go_wp2_with fail
          refine (lsum_all aa ca la bb cb lb _ (HVA.out.still HF4.out) (HVB.out.still HF4.out)).mono ?_
          rintro e w5 ⟨rfl, hf5⟩
          have HP5 := Lib.hid (HP.out.still hf5)
          have HF5 := Lib.hid (HF4.out.then hf5)
          clear hf5 HP HF4
          go_wp2_with fail
          refine (told3_u v (sumS la lb) _ _ _ _ HP5.out told_sum).mono ?_
          rintro e w6 ⟨rfl, hf6⟩
          have HF6 := Lib.hid (HF5.out.then hf6)
          clear hf6 HF5 HP5
          go_wp2_with fail
          go_ret
          exact ⟨rfl, HF6.out⟩

set_option maxHeartbeats 16000000 in
set_option maxRecDepth 1000000 in
theorem law_GroupSums (aa : Option Addr) (ca : Nat) (la : List (List UInt8)) (bb : Option Addr) (cb : Nat) (lb : List (List UInt8)) (w : World) (hva : Rd w aa la.length (ss la)) (hvb : Rd w bb lb.length (ss lb)) :
    Calls Try.prog 5 #[.slice aa la.length ca, .slice bb lb.length cb] w fun e w' => e = .returned (.bool true) ∧ Fr Nob w w' := by
  by_cases h3 : 600 < la.length
  · have hJ : (600 : Int) < (la.length : Int) := by omega
    clear hva hvb
    go_enter Try.func5, Try.ntmps5
    go_wp2
    go_ret
    exact ⟨rfl, Fr.refl _ _⟩
  by_cases h4 : 600 < lb.length
  · have hJ : ¬ ((600 : Int) < (la.length : Int)) := by omega
    have hJ2 : (600 : Int) < (lb.length : Int) := by omega
    clear hva hvb
    go_enter Try.func5, Try.ntmps5
    go_wp2
    go_ret
    exact ⟨rfl, Fr.refl _ _⟩
  exact law_GroupSums_k aa ca la bb cb lb w (by omega) (by omega) hva hvb
end Go.Proofs.Ytdbgddngapminaa

/- From a walk that turns nothing (Fr Nob) to what a law's row asks behind the call. -/
namespace Go.Mv
open Go.RowKit Go.ChangeShapes Go.WideShapes

/-- the arguments read behind the call as they read before -/
theorem Below.trodAll {H : Type} {enc : TypeId × Value → H} {P : Program} (hl : laidOutB P = true) {W W' : World} (hb : Below W.heap.size W W') :
    ∀ (ts : List TypeId) (vs : List Value) (ds : List (DataW H)) (ps : List MemPlace), (∀ t ∈ ts, P.readableRec t = true ∧ t < P.types.size) → DataW.TrodAll enc P W 0 (fun _ => true) true ts vs ds ps → (∀ x ∈ ps, x.block < W.heap.size) →
      DataW.TrodAll enc P W' 0 (fun b => decide (b < W.heap.size)) true ts vs ds ps
  | [], vs, ds, ps, _, h, _ => by
    obtain ⟨rfl, rfl, rfl⟩ := trodAll_nil h
    exact trodAll_mk0
  | t :: ts, vs, ds, ps, hr, h, hlt => by
    obtain ⟨v, vs', d, ds', p, q, rfl, rfl, rfl, h0, hs⟩ := trodAll_cons h
    have h1 := hr t (by simp)
    exact trodAll_cons_mk (Below.trod hl h1.1 h1.2 h0 hb (fun x hx => hlt x (by simp [hx]))) (Below.trodAll hl hb ts vs' ds' q (fun t ht => hr t (by simp [ht])) hs (fun x hx => hlt x (by simp [hx])))

/-- what a law's row asks behind the call -/
theorem law_post {H : Type} {enc : TypeId × Value → H} {P : Program} {f : Func} {s : ChangeSpec} {W W' : World} {args : Array Value} {ds gs : List (DataW H)} {before : List MemPlace}
    (hl : laidOutB P = true) (hr : ∀ t ∈ f.params.toList, P.readableRec t = true ∧ t < P.types.size) (hW : DataW.Whole enc P f.params.toList s.vars false W args.toList ds gs before)
    (hv : s.vars = []) (hres : (s.fn H (ds ++ gs)).results = [.lit (.bool true)]) (harg : (s.fn H (ds ++ gs)).args = ds) (hvar : (s.fn H (ds ++ gs)).vars = [])
    {tb : TypeId} (hrt : f.resultTypes = #[tb]) (hu : P.underlying tb = some .bool) (hf : Fr Nob W W') :
    s.post enc P f false true false false W args (.bool true) W' := by
  have hW' := hW
  obtain ⟨p, q, hA, hV, rfl, hfz, hnd⟩ := hW
  rw [hv] at hV
  obtain ⟨rfl, rfl⟩ := trodVars_none hV
  have hlt : ∀ x ∈ p ++ [], x.block < W.heap.size := fun x hx => hW'.lt x hx
  refine ⟨ds, [], p ++ [], [], p, [], hW', ?_, ?_, ?_, World.keptBut_mono (fun x hx => ⟨hx, ?_⟩) (hf.below.frame (· ∈ p ++ [])), fun h => by cases h⟩
  · rw [hres, hrt]
    exact trodAll_mk1 (shut_bool hu true)
  · rw [harg]
    exact Below.trodAll hl hf.below _ _ _ _ hr hA (fun x hx => hlt x (by simp [hx]))
  · rw [hvar, hv]; exact rfl
  · simp only [List.append_nil] at hx
    exact .inr (.inl hx)
end Go.Mv
