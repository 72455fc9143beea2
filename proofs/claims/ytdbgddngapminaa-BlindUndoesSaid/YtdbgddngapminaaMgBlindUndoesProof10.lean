/- The reference's points: Read; The reference's Read, for all bytes; its Base, its Same; The reference's Read and Number, each as one contract; the law's told; num.Dot: what it answers; Pure sponge: what the program's and the reference's permutation compute, and that the two are one; word functions of the sponge; the constants of the rounds, and how far the lanes are turned; how far the lanes are turned; the state: bytes are added, and given; the state's bytes; Permute; the permutation of the program; the reference's round; Pure sponge: the permutation of bytes, both ways; Permute, the program's and the reference's; Permute of the reference; Pure sponge: bytes are fed one by one; the sponge and what is hashed with it; Pure sponge: words and their bytes are one; absorber.write; The reference's sponge, on bytes: what it computes is the sponge on words; The reference's sponge; absorber.out, and what hashes with it; absorber.frame; the reference's Frame; Hash, stream and Stream of the sponge; sponge.tag and sponge.Tag; mintvaultlaw1.SpongeTurns: the walk of the law; The reference's Hash and Stream; the law SpongeHashes; Arguments that were handed in, opened into the words of Mem; The reference's Tag; A log of the sponge, the reference's: NewLog, Say, Ask, Clone; The tree, plain: what a path leads to, from its end (the document) and from its beginning (the program); The tree: node, leafHash, bytes.Equal, sized, lists, small; the reference's leaf, node, half, sized; SpongeLogs: what stays of many logs, step by step; mintvaultlaw8.lists, small: lists of strings as lists of bytes; bytes.Clone; lists of owned slices of bytes that lie apart; num.Powers: what it answers; The law's powers; Sum: what it answers, for all lists; the law's own sum; blind: plus, chains of steps, Unblind; blind: chains, Unblind; The curve has as many points as the second prime tells: each point, so many times, is nothing. (What lies beside the base's multiples would make three times as many points, and there are at most two for each first coordinate.); SigmaSound, plain: bytes that are a point are written so; two answers to two challenges give the secret; The reference's Same, and its Base of layer 5; The law SigmaExtracts; GroupLaw, plain: the law's numbers; contracts at points that are known to be points; The law SigmaSound; blind: Unblind; the reference's; the law BlindUndoes; The reference's Unblind; the law BlindUndoes; From a walk that turns nothing (Fr Nob) to what a law's row asks behind the call. -/
import Derived.Test.YtdbgddngapminaaMgBlindUndoesProof9
import Derived.Test.YtdbgddngapminaaMgBlindUndoesProof8
import Derived.Test.YtdbgddngapminaaMgBlindUndoesProof7
import Derived.Test.YtdbgddngapminaaMgBlindUndoesProof4
import Derived.KernelRfl
import Derived.Test.YtdbgddngapminaaMgBlindUndoesProof1
import Derived.Test.YtdbgddngapminaaMgBlindUndoesProof2
import Derived.SliceStrings
import Derived.SizedLaws
import Derived.OpenShut
import Derived.ProofKit
import Derived.IntWalk
import Derived.Test.YtdbgddngapminaaMgBlindUndoesProof3
import Derived.Test.YtdbgddngapminaaMgBlindUndoesProof6
import Derived.Test.YtdbgddngapminaaMgBlindUndoesProof5
import Derived.Carry
namespace Go.Proofs.Ytdbgddngapminaa
open Go.RowKit Go.Mv Mvp Mvq
theorem exec_eqlS {o : Oper} {a : Act} {p q : Operand} {T U : TypeId} {s t : ByteArray} (ho : o.op = .binOp .eql T p q U) (hp : a.eval p = .string s) (hq : a.eval q = .string t) {b : Bool} (hb : decide (s = t) = b) (w : World) :
    (execOp a.eval o).run Try.prog w = .ok (.value (.bool b)) w := by
  subst hb
  exact exec_binop ho hp hq w (by go_simp) (by
    go_simp
    rw [Bool.eq_iff_iff, beq_iff_eq, decide_eq_true_eq, toList_data, toList_data]
    exact ⟨fun h => ByteArray.ext (Array.toList_inj.1 h), fun h => by rw [h]⟩)
attribute [local irreducible] limbs lw mix cw cSub cAdd cMul foldC valFrom beN laid be32 powm montT mstep elN mdL numB rtV rtOk kN kc kinv wrPt addR noR negR timesR tmsR RT.L gXn gYn
set_option maxHeartbeats 16000000 in
set_option maxRecDepth 1000000 in
theorem RRead_zero (s : ByteArray) (hz : decide (s = (mkS (List.replicate 33 0))) = true) (w : World) : Calls Try.prog 9 #[.string s] w fun e w' => e = .returned (.tuple #[.agg noR.L.toArray, .bool true]) ∧ Fr Nob w w' := by
  have HZ := Lib.hid hz
  clear hz
  have st0 := St.start Nob w
  go_enter Try.func9, Try.ntmps9
  go_wp2_with (with_reducible refine wl_stop (o := ⟨some 2, _, _, _, _, _⟩) ?_)
  refine wl_allocS st0 rfl rfl (z := .agg #[.int .u64 0, .int .u64 0, .int .u64 0, .int .u64 0, .int .u64 0, .int .u64 0, .int .u64 0, .int .u64 0, .int .u64 0, .int .u64 0, .int .u64 0, .int .u64 0]) (by kernel_rfl) (cw 12 0) (by rw [cw_zero]; rfl) ?_
  intro g2 w1 st1
  clear st0
  go_wp2_with (with_reducible refine wl_stop (o := ⟨some 8, _, _, _, _, _⟩) ?_)
  refine wl_make rfl rfl Try.underlying34 info_u8 rfl rfl rfl 33 33 (by simp) (by simp) (by omega) (by omega) (by unfold maxLen; omega) ?_
  intro w2 hg2 hf2 hz2
  clear hz2
  have st2 := st1.new hf2 hg2 (Nat.le_refl _)
  clear st1 hg2 hf2
  rw [z_u8] at st2
  go_wp2_with (with_reducible refine wl_stop (o := ⟨some 9, _, _, _, _, _⟩) ?_)
  refine wl_string rfl rfl Try.underlying34 Try.underlying5 Try.underlying9 rfl (l := List.replicate 33 0) (Rd.whole (st2.at 1 rfl)) ?_
  have st3 := st2.less (List.sublist_append_left _ _)
  clear st2
  go_wp2_with (with_reducible refine wl_stop (o := ⟨some 10, _, _, _, _, _⟩) ?_)
  refine wl_exec rfl (exec_eqlS rfl rfl rfl HZ.out _) ?_
  go_wp2_with fail
  refine (RNone_c _).mono ?_
  rintro e' w4 ⟨rfl, hf4⟩
  have st4 := st3.keep hf4
  clear st3 hf4
  go_wp2_with (with_reducible refine wl_stop (o := ⟨none, _, _, _, _, _⟩) ?_)
  refine wl_storeS st4 0 rfl rfl rfl rfl rfl (by first | (simp [cw_len]; done) | (simp [RT.len]; done) | (simp [cw_len, RT.len]; done) | simp [cw_len, RT.len]) (by kernel_rfl) (RT.one _) ?_
  intro w5 st5
  clear st4
  have hr := st5.at 0 rfl
  have hfr := st5.fr
  clear st5
  go_wp2_with fail
  exact bodyPost_ret (results_st2 rfl rfl hr Try.underlying26 rfl (by kernel_rfl) rfl) rfl ⟨rfl, hfr⟩

set_option maxHeartbeats 16000000 in
set_option maxRecDepth 1000000 in
theorem RRead_len (s : ByteArray) (hz : decide (s = (mkS (List.replicate 33 0))) = false) (hl : ((s.size : Int) != 33) = true) (w : World) : Calls Try.prog 9 #[.string s] w fun e w' => e = .returned (.tuple #[rpV 0 0 0, .bool false]) ∧ Fr Nob w w' := by
  have HZ := Lib.hid hz
  clear hz
  have st0 := St.start Nob w
  go_enter Try.func9, Try.ntmps9
  go_wp2_with (with_reducible refine wl_stop (o := ⟨some 2, _, _, _, _, _⟩) ?_)
  refine wl_allocS st0 rfl rfl (z := .agg #[.int .u64 0, .int .u64 0, .int .u64 0, .int .u64 0, .int .u64 0, .int .u64 0, .int .u64 0, .int .u64 0, .int .u64 0, .int .u64 0, .int .u64 0, .int .u64 0]) (by kernel_rfl) (cw 12 0) (by rw [cw_zero]; rfl) ?_
  intro g2 w1 st1
  clear st0
  go_wp2_with (with_reducible refine wl_stop (o := ⟨some 8, _, _, _, _, _⟩) ?_)
  refine wl_make rfl rfl Try.underlying34 info_u8 rfl rfl rfl 33 33 (by simp) (by simp) (by omega) (by omega) (by unfold maxLen; omega) ?_
  intro w2 hg2 hf2 hz2
  clear hz2
  have st2 := st1.new hf2 hg2 (Nat.le_refl _)
  clear st1 hg2 hf2
  rw [z_u8] at st2
  go_wp2_with (with_reducible refine wl_stop (o := ⟨some 9, _, _, _, _, _⟩) ?_)
  refine wl_string rfl rfl Try.underlying34 Try.underlying5 Try.underlying9 rfl (l := List.replicate 33 0) (Rd.whole (st2.at 1 rfl)) ?_
  have st3 := st2.less (List.sublist_append_left _ _)
  clear st2
  go_wp2_with (with_reducible refine wl_stop (o := ⟨some 10, _, _, _, _, _⟩) ?_)
  refine wl_exec rfl (exec_eqlS rfl rfl rfl HZ.out _) ?_
  go_wp2_with (with_reducible refine wl_stop (o := ⟨some 25, _, _, _, _, _⟩) ?_)
  refine wl_buildL rfl rfl _ built_rp0 ?_
  go_wp2_with (with_reducible refine wl_stop (o := ⟨none, _, _, _, _, _⟩) ?_)
  refine wl_storeS st3 0 rfl rfl rfl rfl rfl (by simp [cw_len]) (by kernel_rfl) (pt_one _ _ _) ?_
  intro w4 st4
  clear st3
  have hr := st4.at 0 rfl
  have hfr := st4.fr
  clear st4
  go_wp2_with fail
  exact bodyPost_ret (results_st2 rfl rfl hr Try.underlying26 rfl (by kernel_rfl) rfl) rfl ⟨by unfold rpV rpL; rw [kN_zero]; rfl, hfr⟩

set_option maxHeartbeats 16000000 in
set_option maxRecDepth 1000000 in
theorem RRead_head (s : ByteArray) (hz : decide (s = (mkS (List.replicate 33 0))) = false) (hl : s.size = 33) (q : Nat) (hb : ∀ h : 0 < s.size, ((s[0]'h).toNat : Int) = (q : Int)) (h2 : ((q : Int) != 2) = true) (h3 : ((q : Int) != 3) = true) (w : World) : Calls Try.prog 9 #[.string s] w fun e w' => e = .returned (.tuple #[rpV 0 0 0, .bool false]) ∧ Fr Nob w w' := by
  have HZ := Lib.hid hz
  clear hz
  have hl33 : ((s.size : Int) != 33) = false := by rw [hl]; rfl
  have h0 : (0 : Int) < (s.size : Int) := by omega
  have h00 : 0 < s.size := by omega
  have h1 : (1 : Int) ≤ (s.size : Int) := by omega
  have hb0 := hb h00
  clear hl hb
  have st0 := St.start Nob w
  go_enter Try.func9, Try.ntmps9
  go_wp2_with (with_reducible refine wl_stop (o := ⟨some 2, _, _, _, _, _⟩) ?_)
  refine wl_allocS st0 rfl rfl (z := .agg #[.int .u64 0, .int .u64 0, .int .u64 0, .int .u64 0, .int .u64 0, .int .u64 0, .int .u64 0, .int .u64 0, .int .u64 0, .int .u64 0, .int .u64 0, .int .u64 0]) (by kernel_rfl) (cw 12 0) (by rw [cw_zero]; rfl) ?_
  intro g2 w1 st1
  clear st0
  go_wp2_with (with_reducible refine wl_stop (o := ⟨some 8, _, _, _, _, _⟩) ?_)
  refine wl_make rfl rfl Try.underlying34 info_u8 rfl rfl rfl 33 33 (by simp) (by simp) (by omega) (by omega) (by unfold maxLen; omega) ?_
  intro w2 hg2 hf2 hz2
  clear hz2
  have st2 := st1.new hf2 hg2 (Nat.le_refl _)
  clear st1 hg2 hf2
  rw [z_u8] at st2
  go_wp2_with (with_reducible refine wl_stop (o := ⟨some 9, _, _, _, _, _⟩) ?_)
  refine wl_string rfl rfl Try.underlying34 Try.underlying5 Try.underlying9 rfl (l := List.replicate 33 0) (Rd.whole (st2.at 1 rfl)) ?_
  have st3 := st2.less (List.sublist_append_left _ _)
  clear st2
  go_wp2_with (with_reducible refine wl_stop (o := ⟨some 10, _, _, _, _, _⟩) ?_)
  refine wl_exec rfl (exec_eqlS rfl rfl rfl HZ.out _) ?_
  go_wp2_with (with_reducible refine wl_stop (o := ⟨some 25, _, _, _, _, _⟩) ?_)
  refine wl_buildL rfl rfl _ built_rp0 ?_
  go_wp2_with (with_reducible refine wl_stop (o := ⟨none, _, _, _, _, _⟩) ?_)
  refine wl_storeS st3 0 rfl rfl rfl rfl rfl (by simp [cw_len]) (by kernel_rfl) (pt_one _ _ _) ?_
  intro w4 st4
  clear st3
  have hr := st4.at 0 rfl
  have hfr := st4.fr
  clear st4
  go_wp2_with fail
  exact bodyPost_ret (results_st2 rfl rfl hr Try.underlying26 rfl (by kernel_rfl) rfl) rfl ⟨by unfold rpV rpL; rw [kN_zero]; rfl, hfr⟩

set_option maxHeartbeats 16000000 in
set_option maxRecDepth 1000000 in
theorem RRead_num2 (s : ByteArray) (hz : decide (s = (mkS (List.replicate 33 0))) = false) (hl : s.size = 33) (hb : ∀ h : 0 < s.size, ((s[0]'h).toNat : Int) = 2) (hn : ∀ wx, Calls Try.prog 11 #[fv mP.M, .string (s.extract 1 s.size)] wx fun e w' => ∃ N : Nat, e = .returned (.tuple #[i4 N, .bool false]) ∧ True ∧ Fr Nob wx w') (w : World) : Calls Try.prog 9 #[.string s] w fun e w' => e = .returned (.tuple #[rpV 0 0 0, .bool false]) ∧ Fr Nob w w' := by
  have HZ := Lib.hid hz
  clear hz
  have hl33 : ((s.size : Int) != 33) = false := by rw [hl]; rfl
  have h0 : (0 : Int) < (s.size : Int) := by omega
  have h00 : 0 < s.size := by omega
  have h1 : (1 : Int) ≤ (s.size : Int) := by omega
  have hb0 := hb h00
  clear hl hb
  have HN := Lib.hid hn
  clear hn
  have st0 := St.start Nob w
  go_enter Try.func9, Try.ntmps9
  go_wp2_with (with_reducible refine wl_stop (o := ⟨some 2, _, _, _, _, _⟩) ?_)
  refine wl_allocS st0 rfl rfl (z := .agg #[.int .u64 0, .int .u64 0, .int .u64 0, .int .u64 0, .int .u64 0, .int .u64 0, .int .u64 0, .int .u64 0, .int .u64 0, .int .u64 0, .int .u64 0, .int .u64 0]) (by kernel_rfl) (cw 12 0) (by rw [cw_zero]; rfl) ?_
  intro g2 w1 st1
  clear st0
  go_wp2_with (with_reducible refine wl_stop (o := ⟨some 8, _, _, _, _, _⟩) ?_)
  refine wl_make rfl rfl Try.underlying34 info_u8 rfl rfl rfl 33 33 (by simp) (by simp) (by omega) (by omega) (by unfold maxLen; omega) ?_
  intro w2 hg2 hf2 hz2
  clear hz2
  have st2 := st1.new hf2 hg2 (Nat.le_refl _)
  clear st1 hg2 hf2
  rw [z_u8] at st2
  go_wp2_with (with_reducible refine wl_stop (o := ⟨some 9, _, _, _, _, _⟩) ?_)
  refine wl_string rfl rfl Try.underlying34 Try.underlying5 Try.underlying9 rfl (l := List.replicate 33 0) (Rd.whole (st2.at 1 rfl)) ?_
  have st3 := st2.less (List.sublist_append_left _ _)
  clear st2
  go_wp2_with (with_reducible refine wl_stop (o := ⟨some 10, _, _, _, _, _⟩) ?_)
  refine wl_exec rfl (exec_eqlS rfl rfl rfl HZ.out _) ?_
  go_wp2_with fail
  refine wp_region_noPanic ?_
  refine wp_region_lad st3 9 [.o 7, .w 1, .w 2, .c 0, .c 3, .w 4, .w 5, .w 6, .j 7] (.r 8 (.m 9 .nil)) (by kernel_rfl) (by kernel_rfl) (fun _ _ _ _ _ h => h) ?_
  clear st3
  refine lad_o rfl rfl rfl z_rn (cw 4 0) rfl ?_
  try simp only [Act.put, List.setIfInBounds_toArray, List.set_cons_zero, List.set_cons_succ]
  iterate 2 (refine lad_w (v := ?_) rfl rfl (fun xq wx => ?_) ?_; rotate_left 1; · (go_simp; with_reducible rfl); try simp only [Act.put, List.setIfInBounds_toArray, List.set_cons_zero, List.set_cons_succ])
  refine lad_call rfl rfl rfl Try.call36 (fun w hS hR => RF_any _) (fun _ => rfl) ?_
  try simp only [Act.put, List.setIfInBounds_toArray, List.set_cons_zero, List.set_cons_succ]
  refine lad_callX (X := Nat) (fun N => .tuple #[i4 N, .bool false]) (fun _ _ => True) (fun _ _ _ _ _ => trivial) rfl rfl rfl Try.call11 (fun w hS hR => HN.out _) (fun _ => rfl) fun N => ?_
  try simp only [Act.put, List.setIfInBounds_toArray, List.set_cons_zero, List.set_cons_succ]
  iterate 3 (refine lad_w (v := ?_) rfl rfl (fun xq wx => ?_) ?_; rotate_left 1; · (go_simp; with_reducible rfl); try simp only [Act.put, List.setIfInBounds_toArray, List.set_cons_zero, List.set_cons_succ])
  refine lad_j List.mem_cons_self fun g4 => ?_
  simp only [upd, reduceIte]
  refine lad_end fun xq w4 st4 hR => ?_
  try dsimp only
  clear hR xq
  refine plan_r rfl rfl ?_
  refine wp_storeS st4 1 rfl rfl rfl rfl (by simp [cw_len]) (by kernel_rfl) (cw_one _ _) ?_
  intro w5 st5
  repeat (first | simp only [List.cons_append] at st5 | simp only [List.nil_append] at st5 | simp only [List.set_cons_succ] at st5 | simp only [List.set_cons_zero] at st5)
  clear st4
  refine ⟨by first | exact st5 | exact St.less st5 (by simp), ?_⟩
  try simp only [Act.put]
  refine plan_m rfl rfl ?_
  go_simp
  try simp only [Act.put, List.setIfInBounds_toArray, List.set_cons_zero, List.set_cons_succ]
  refine plan_end ?_
  refine NoPanic.normal ?_
  go_wp2_with (with_reducible refine wl_stop (o := ⟨some 35, _, _, _, _, _⟩) ?_)
  refine wl_buildL rfl rfl _ built_rp0 ?_
  go_wp2_with (with_reducible refine wl_stop (o := ⟨none, _, _, _, _, _⟩) ?_)
  refine wl_storeS st5 0 rfl rfl rfl rfl rfl (by simp [cw_len]) (by kernel_rfl) (pt_one _ _ _) ?_
  intro w6 st6
  clear st5
  have hr := st6.at 0 rfl
  have hfr := st6.fr
  clear st6
  go_wp2_with fail
  exact bodyPost_ret (results_st2 rfl rfl hr Try.underlying26 rfl (by kernel_rfl) rfl) rfl ⟨by unfold rpV rpL; rw [kN_zero]; rfl, hfr⟩

set_option maxHeartbeats 16000000 in
set_option maxRecDepth 1000000 in
theorem RRead_pt2 (s : ByteArray) (hz : decide (s = (mkS (List.replicate 33 0))) = false) (hl : s.size = 33) (hb : ∀ h : 0 < s.size, ((s[0]'h).toNat : Int) = 2) (X Y : K) (b : Bool) (hn : ∀ wx, Calls Try.prog 11 #[fv mP.M, .string (s.extract 1 s.size)] wx fun e w' => e = .returned (.tuple #[i4 (kN X), .bool true]) ∧ Fr Nob wx w') (ha : ∀ wx, Calls Try.prog 37 #[i4 (kN X)] wx fun e w' => e = .returned (.tuple #[rpV X Y 1, .bool b]) ∧ Fr Nob wx w') (w : World) : Calls Try.prog 9 #[.string s] w fun e w' => e = .returned (.tuple #[rpV X Y 1, .bool b]) ∧ Fr Nob w w' := by
  have HZ := Lib.hid hz
  clear hz
  have hl33 : ((s.size : Int) != 33) = false := by rw [hl]; rfl
  have h0 : (0 : Int) < (s.size : Int) := by omega
  have h00 : 0 < s.size := by omega
  have h1 : (1 : Int) ≤ (s.size : Int) := by omega
  have hb0 := hb h00
  clear hl hb
  have HN := Lib.hid hn
  unfold rpV rpL at ha
  have HAT := Lib.hid ha
  clear hn ha
  unfold rpV rpL
  have st0 := St.start Nob w
  go_enter Try.func9, Try.ntmps9
  go_wp2_with (with_reducible refine wl_stop (o := ⟨some 2, _, _, _, _, _⟩) ?_)
  refine wl_allocS st0 rfl rfl (z := .agg #[.int .u64 0, .int .u64 0, .int .u64 0, .int .u64 0, .int .u64 0, .int .u64 0, .int .u64 0, .int .u64 0, .int .u64 0, .int .u64 0, .int .u64 0, .int .u64 0]) (by kernel_rfl) (cw 12 0) (by rw [cw_zero]; rfl) ?_
  intro g2 w1 st1
  clear st0
  go_wp2_with (with_reducible refine wl_stop (o := ⟨some 8, _, _, _, _, _⟩) ?_)
  refine wl_make rfl rfl Try.underlying34 info_u8 rfl rfl rfl 33 33 (by simp) (by simp) (by omega) (by omega) (by unfold maxLen; omega) ?_
  intro w2 hg2 hf2 hz2
  clear hz2
  have st2 := st1.new hf2 hg2 (Nat.le_refl _)
  clear st1 hg2 hf2
  rw [z_u8] at st2
  go_wp2_with (with_reducible refine wl_stop (o := ⟨some 9, _, _, _, _, _⟩) ?_)
  refine wl_string rfl rfl Try.underlying34 Try.underlying5 Try.underlying9 rfl (l := List.replicate 33 0) (Rd.whole (st2.at 1 rfl)) ?_
  have st3 := st2.less (List.sublist_append_left _ _)
  clear st2
  go_wp2_with (with_reducible refine wl_stop (o := ⟨some 10, _, _, _, _, _⟩) ?_)
  refine wl_exec rfl (exec_eqlS rfl rfl rfl HZ.out _) ?_
  go_wp2_with fail
  refine wp_region_noPanic ?_
  refine wp_region_lad st3 9 [.o 7, .w 1, .w 2, .c 0, .c 3, .w 4, .w 5, .w 6, .j 7] (.r 8 (.m 9 .nil)) (by kernel_rfl) (by kernel_rfl) (fun _ _ _ _ _ h => h) ?_
  clear st3
  refine lad_o rfl rfl rfl z_rn (cw 4 0) rfl ?_
  try simp only [Act.put, List.setIfInBounds_toArray, List.set_cons_zero, List.set_cons_succ]
  iterate 2 (refine lad_w (v := ?_) rfl rfl (fun xq wx => ?_) ?_; rotate_left 1; · (go_simp; with_reducible rfl); try simp only [Act.put, List.setIfInBounds_toArray, List.set_cons_zero, List.set_cons_succ])
  refine lad_call rfl rfl rfl Try.call36 (fun w hS hR => RF_any _) (fun _ => rfl) ?_
  try simp only [Act.put, List.setIfInBounds_toArray, List.set_cons_zero, List.set_cons_succ]
  refine lad_call rfl rfl rfl Try.call11 (fun w hS hR => HN.out _) (fun _ => rfl) ?_
  try simp only [Act.put, List.setIfInBounds_toArray, List.set_cons_zero, List.set_cons_succ]
  iterate 3 (refine lad_w (v := ?_) rfl rfl (fun xq wx => ?_) ?_; rotate_left 1; · (go_simp; with_reducible rfl); try simp only [Act.put, List.setIfInBounds_toArray, List.set_cons_zero, List.set_cons_succ])
  refine lad_j List.mem_cons_self fun g4 => ?_
  simp only [upd, reduceIte]
  refine lad_end fun xq w4 st4 hR => ?_
  try dsimp only
  clear hR xq
  refine plan_r rfl rfl ?_
  refine wp_storeS st4 1 rfl rfl rfl rfl (by simp [cw_len]) (by kernel_rfl) (cw_one _ _) ?_
  intro w5 st5
  repeat (first | simp only [List.cons_append] at st5 | simp only [List.nil_append] at st5 | simp only [List.set_cons_succ] at st5 | simp only [List.set_cons_zero] at st5)
  clear st4
  refine ⟨by first | exact st5 | exact St.less st5 (by simp), ?_⟩
  try simp only [Act.put]
  refine plan_m rfl rfl ?_
  go_simp
  try simp only [Act.put, List.setIfInBounds_toArray, List.set_cons_zero, List.set_cons_succ]
  refine plan_end ?_
  refine NoPanic.normal ?_
  go_wp2_with (with_reducible refine wl_stop (o := ⟨some 37, _, _, _, _, _⟩) ?_)
  refine wl_loadS st5 1 rfl rfl rfl Try.underlying24 rfl (by kernel_rfl) ?_
  go_wp2_with fail
  refine (HAT.out _).mono ?_
  rintro e' w6 ⟨rfl, hf6⟩
  have st6 := st5.keep hf6
  clear st5 hf6
  go_wp2_with (with_reducible refine wl_stop (o := ⟨some 6, _, _, _, _, _⟩) ?_)
  refine wl_allocS st6 rfl rfl (z := .agg #[.int .u64 0, .int .u64 0, .int .u64 0, .int .u64 0, .int .u64 0, .int .u64 0, .int .u64 0, .int .u64 0, .int .u64 0, .int .u64 0, .int .u64 0, .int .u64 0]) (by kernel_rfl) (cw 12 0) (by rw [cw_zero]; rfl) ?_
  intro g6 w7 st7
  clear st6
  go_wp2_with (with_reducible refine wl_stop (o := ⟨none, _, _, _, _, _⟩) ?_)
  refine wl_storeS st7 2 rfl rfl rfl rfl rfl (by simp [cw_len]) (by kernel_rfl) (pt_one _ _ _) ?_
  intro w8 st8
  clear st7
  go_wp2_with (with_reducible refine wl_stop (o := ⟨some 46, _, _, _, _, _⟩) ?_)
  refine wl_loadSt st8 2 rfl rfl rfl Try.underlying26 rfl rfl (by kernel_rfl) ?_
  go_wp2_with (with_reducible refine wl_stop (o := ⟨none, _, _, _, _, _⟩) ?_)
  refine wl_storeS st8 0 rfl rfl rfl rfl rfl (by simp [cw_len]) (by kernel_rfl) (pt_one _ _ _) ?_
  intro w9 st9
  clear st8
  have hr := st9.at 0 rfl
  have hfr := st9.fr
  clear st9
  go_wp2_with fail
  exact bodyPost_ret (results_st2 rfl rfl hr Try.underlying26 rfl (by kernel_rfl) rfl) rfl ⟨rfl, hfr⟩

theorem RNeg_u (x y z : K) (w : World) : Calls Try.prog 18 #[.agg (cw 4 (kN x) ++ (cw 4 (kN y) ++ cw 4 (kN z))).toArray] w fun e w' => e = .returned (.agg (cw 4 (kN x) ++ (cw 4 (kN (-y)) ++ cw 4 (kN z))).toArray) ∧ Fr Nob w w' := RNeg_any x y z _ rfl w

set_option maxHeartbeats 16000000 in
set_option maxRecDepth 1000000 in
theorem RRead_num3 (s : ByteArray) (hz : decide (s = (mkS (List.replicate 33 0))) = false) (hl : s.size = 33) (hb : ∀ h : 0 < s.size, ((s[0]'h).toNat : Int) = 3) (hn : ∀ wx, Calls Try.prog 11 #[fv mP.M, .string (s.extract 1 s.size)] wx fun e w' => ∃ N : Nat, e = .returned (.tuple #[i4 N, .bool false]) ∧ True ∧ Fr Nob wx w') (w : World) : Calls Try.prog 9 #[.string s] w fun e w' => e = .returned (.tuple #[rpV 0 0 0, .bool false]) ∧ Fr Nob w w' := by
  have HZ := Lib.hid hz
  clear hz
  have hl33 : ((s.size : Int) != 33) = false := by rw [hl]; rfl
  have h0 : (0 : Int) < (s.size : Int) := by omega
  have h00 : 0 < s.size := by omega
  have h1 : (1 : Int) ≤ (s.size : Int) := by omega
  have hb0 := hb h00
  clear hl hb
  have HN := Lib.hid hn
  clear hn
  have st0 := St.start Nob w
  go_enter Try.func9, Try.ntmps9
  go_wp2_with (with_reducible refine wl_stop (o := ⟨some 2, _, _, _, _, _⟩) ?_)
  refine wl_allocS st0 rfl rfl (z := .agg #[.int .u64 0, .int .u64 0, .int .u64 0, .int .u64 0, .int .u64 0, .int .u64 0, .int .u64 0, .int .u64 0, .int .u64 0, .int .u64 0, .int .u64 0, .int .u64 0]) (by kernel_rfl) (cw 12 0) (by rw [cw_zero]; rfl) ?_
  intro g2 w1 st1
  clear st0
  go_wp2_with (with_reducible refine wl_stop (o := ⟨some 8, _, _, _, _, _⟩) ?_)
  refine wl_make rfl rfl Try.underlying34 info_u8 rfl rfl rfl 33 33 (by simp) (by simp) (by omega) (by omega) (by unfold maxLen; omega) ?_
  intro w2 hg2 hf2 hz2
  clear hz2
  have st2 := st1.new hf2 hg2 (Nat.le_refl _)
  clear st1 hg2 hf2
  rw [z_u8] at st2
  go_wp2_with (with_reducible refine wl_stop (o := ⟨some 9, _, _, _, _, _⟩) ?_)
  refine wl_string rfl rfl Try.underlying34 Try.underlying5 Try.underlying9 rfl (l := List.replicate 33 0) (Rd.whole (st2.at 1 rfl)) ?_
  have st3 := st2.less (List.sublist_append_left _ _)
  clear st2
  go_wp2_with (with_reducible refine wl_stop (o := ⟨some 10, _, _, _, _, _⟩) ?_)
  refine wl_exec rfl (exec_eqlS rfl rfl rfl HZ.out _) ?_
  go_wp2_with fail
  refine wp_region_noPanic ?_
  refine wp_region_lad st3 9 [.o 7, .w 1, .w 2, .c 0, .c 3, .w 4, .w 5, .w 6, .j 7] (.r 8 (.m 9 .nil)) (by kernel_rfl) (by kernel_rfl) (fun _ _ _ _ _ h => h) ?_
  clear st3
  refine lad_o rfl rfl rfl z_rn (cw 4 0) rfl ?_
  try simp only [Act.put, List.setIfInBounds_toArray, List.set_cons_zero, List.set_cons_succ]
  iterate 2 (refine lad_w (v := ?_) rfl rfl (fun xq wx => ?_) ?_; rotate_left 1; · (go_simp; with_reducible rfl); try simp only [Act.put, List.setIfInBounds_toArray, List.set_cons_zero, List.set_cons_succ])
  refine lad_call rfl rfl rfl Try.call36 (fun w hS hR => RF_any _) (fun _ => rfl) ?_
  try simp only [Act.put, List.setIfInBounds_toArray, List.set_cons_zero, List.set_cons_succ]
  refine lad_callX (X := Nat) (fun N => .tuple #[i4 N, .bool false]) (fun _ _ => True) (fun _ _ _ _ _ => trivial) rfl rfl rfl Try.call11 (fun w hS hR => HN.out _) (fun _ => rfl) fun N => ?_
  try simp only [Act.put, List.setIfInBounds_toArray, List.set_cons_zero, List.set_cons_succ]
  iterate 3 (refine lad_w (v := ?_) rfl rfl (fun xq wx => ?_) ?_; rotate_left 1; · (go_simp; with_reducible rfl); try simp only [Act.put, List.setIfInBounds_toArray, List.set_cons_zero, List.set_cons_succ])
  refine lad_j List.mem_cons_self fun g4 => ?_
  simp only [upd, reduceIte]
  refine lad_end fun xq w4 st4 hR => ?_
  try dsimp only
  clear hR xq
  refine plan_r rfl rfl ?_
  refine wp_storeS st4 1 rfl rfl rfl rfl (by simp [cw_len]) (by kernel_rfl) (cw_one _ _) ?_
  intro w5 st5
  repeat (first | simp only [List.cons_append] at st5 | simp only [List.nil_append] at st5 | simp only [List.set_cons_succ] at st5 | simp only [List.set_cons_zero] at st5)
  clear st4
  refine ⟨by first | exact st5 | exact St.less st5 (by simp), ?_⟩
  try simp only [Act.put]
  refine plan_m rfl rfl ?_
  go_simp
  try simp only [Act.put, List.setIfInBounds_toArray, List.set_cons_zero, List.set_cons_succ]
  refine plan_end ?_
  refine NoPanic.normal ?_
  go_wp2_with (with_reducible refine wl_stop (o := ⟨some 35, _, _, _, _, _⟩) ?_)
  refine wl_buildL rfl rfl _ built_rp0 ?_
  go_wp2_with (with_reducible refine wl_stop (o := ⟨none, _, _, _, _, _⟩) ?_)
  refine wl_storeS st5 0 rfl rfl rfl rfl rfl (by simp [cw_len]) (by kernel_rfl) (pt_one _ _ _) ?_
  intro w6 st6
  clear st5
  have hr := st6.at 0 rfl
  have hfr := st6.fr
  clear st6
  go_wp2_with fail
  exact bodyPost_ret (results_st2 rfl rfl hr Try.underlying26 rfl (by kernel_rfl) rfl) rfl ⟨by unfold rpV rpL; rw [kN_zero]; rfl, hfr⟩

set_option maxHeartbeats 16000000 in
set_option maxRecDepth 1000000 in
theorem RRead_pt3 (s : ByteArray) (hz : decide (s = (mkS (List.replicate 33 0))) = false) (hl : s.size = 33) (hb : ∀ h : 0 < s.size, ((s[0]'h).toNat : Int) = 3) (X Y : K) (b : Bool) (hn : ∀ wx, Calls Try.prog 11 #[fv mP.M, .string (s.extract 1 s.size)] wx fun e w' => e = .returned (.tuple #[i4 (kN X), .bool true]) ∧ Fr Nob wx w') (ha : ∀ wx, Calls Try.prog 37 #[i4 (kN X)] wx fun e w' => e = .returned (.tuple #[rpV X Y 1, .bool b]) ∧ Fr Nob wx w') (w : World) : Calls Try.prog 9 #[.string s] w fun e w' => e = .returned (.tuple #[rpV X (-Y) 1, .bool b]) ∧ Fr Nob w w' := by
  have HZ := Lib.hid hz
  clear hz
  have hl33 : ((s.size : Int) != 33) = false := by rw [hl]; rfl
  have h0 : (0 : Int) < (s.size : Int) := by omega
  have h00 : 0 < s.size := by omega
  have h1 : (1 : Int) ≤ (s.size : Int) := by omega
  have hb0 := hb h00
  clear hl hb
  have HN := Lib.hid hn
  unfold rpV rpL at ha
  have HAT := Lib.hid ha
  clear hn ha
  unfold rpV rpL
  have st0 := St.start Nob w
  go_enter Try.func9, Try.ntmps9
  go_wp2_with (with_reducible refine wl_stop (o := ⟨some 2, _, _, _, _, _⟩) ?_)
  refine wl_allocS st0 rfl rfl (z := .agg #[.int .u64 0, .int .u64 0, .int .u64 0, .int .u64 0, .int .u64 0, .int .u64 0, .int .u64 0, .int .u64 0, .int .u64 0, .int .u64 0, .int .u64 0, .int .u64 0]) (by kernel_rfl) (cw 12 0) (by rw [cw_zero]; rfl) ?_
  intro g2 w1 st1
  clear st0
  go_wp2_with (with_reducible refine wl_stop (o := ⟨some 8, _, _, _, _, _⟩) ?_)
  refine wl_make rfl rfl Try.underlying34 info_u8 rfl rfl rfl 33 33 (by simp) (by simp) (by omega) (by omega) (by unfold maxLen; omega) ?_
  intro w2 hg2 hf2 hz2
  clear hz2
  have st2 := st1.new hf2 hg2 (Nat.le_refl _)
  clear st1 hg2 hf2
  rw [z_u8] at st2
  go_wp2_with (with_reducible refine wl_stop (o := ⟨some 9, _, _, _, _, _⟩) ?_)
  refine wl_string rfl rfl Try.underlying34 Try.underlying5 Try.underlying9 rfl (l := List.replicate 33 0) (Rd.whole (st2.at 1 rfl)) ?_
  have st3 := st2.less (List.sublist_append_left _ _)
  clear st2
  go_wp2_with (with_reducible refine wl_stop (o := ⟨some 10, _, _, _, _, _⟩) ?_)
  refine wl_exec rfl (exec_eqlS rfl rfl rfl HZ.out _) ?_
  go_wp2_with fail
  refine wp_region_noPanic ?_
  refine wp_region_lad st3 9 [.o 7, .w 1, .w 2, .c 0, .c 3, .w 4, .w 5, .w 6, .j 7] (.r 8 (.m 9 .nil)) (by kernel_rfl) (by kernel_rfl) (fun _ _ _ _ _ h => h) ?_
  clear st3
  refine lad_o rfl rfl rfl z_rn (cw 4 0) rfl ?_
  try simp only [Act.put, List.setIfInBounds_toArray, List.set_cons_zero, List.set_cons_succ]
  iterate 2 (refine lad_w (v := ?_) rfl rfl (fun xq wx => ?_) ?_; rotate_left 1; · (go_simp; with_reducible rfl); try simp only [Act.put, List.setIfInBounds_toArray, List.set_cons_zero, List.set_cons_succ])
  refine lad_call rfl rfl rfl Try.call36 (fun w hS hR => RF_any _) (fun _ => rfl) ?_
  try simp only [Act.put, List.setIfInBounds_toArray, List.set_cons_zero, List.set_cons_succ]
  refine lad_call rfl rfl rfl Try.call11 (fun w hS hR => HN.out _) (fun _ => rfl) ?_
  try simp only [Act.put, List.setIfInBounds_toArray, List.set_cons_zero, List.set_cons_succ]
  iterate 3 (refine lad_w (v := ?_) rfl rfl (fun xq wx => ?_) ?_; rotate_left 1; · (go_simp; with_reducible rfl); try simp only [Act.put, List.setIfInBounds_toArray, List.set_cons_zero, List.set_cons_succ])
  refine lad_j List.mem_cons_self fun g4 => ?_
  simp only [upd, reduceIte]
  refine lad_end fun xq w4 st4 hR => ?_
  try dsimp only
  clear hR xq
  refine plan_r rfl rfl ?_
  refine wp_storeS st4 1 rfl rfl rfl rfl (by simp [cw_len]) (by kernel_rfl) (cw_one _ _) ?_
  intro w5 st5
  repeat (first | simp only [List.cons_append] at st5 | simp only [List.nil_append] at st5 | simp only [List.set_cons_succ] at st5 | simp only [List.set_cons_zero] at st5)
  clear st4
  refine ⟨by first | exact st5 | exact St.less st5 (by simp), ?_⟩
  try simp only [Act.put]
  refine plan_m rfl rfl ?_
  go_simp
  try simp only [Act.put, List.setIfInBounds_toArray, List.set_cons_zero, List.set_cons_succ]
  refine plan_end ?_
  refine NoPanic.normal ?_
  go_wp2_with (with_reducible refine wl_stop (o := ⟨some 37, _, _, _, _, _⟩) ?_)
  refine wl_loadS st5 1 rfl rfl rfl Try.underlying24 rfl (by kernel_rfl) ?_
  go_wp2_with fail
  refine (HAT.out _).mono ?_
  rintro e' w6 ⟨rfl, hf6⟩
  have st6 := st5.keep hf6
  clear st5 hf6
  go_wp2_with (with_reducible refine wl_stop (o := ⟨some 6, _, _, _, _, _⟩) ?_)
  refine wl_allocS st6 rfl rfl (z := .agg #[.int .u64 0, .int .u64 0, .int .u64 0, .int .u64 0, .int .u64 0, .int .u64 0, .int .u64 0, .int .u64 0, .int .u64 0, .int .u64 0, .int .u64 0, .int .u64 0]) (by kernel_rfl) (cw 12 0) (by rw [cw_zero]; rfl) ?_
  intro g6 w7 st7
  clear st6
  go_wp2_with (with_reducible refine wl_stop (o := ⟨none, _, _, _, _, _⟩) ?_)
  refine wl_storeS st7 2 rfl rfl rfl rfl rfl (by simp [cw_len]) (by kernel_rfl) (pt_one _ _ _) ?_
  intro w8 st8
  clear st7
  go_wp2_with (with_reducible refine wl_stop (o := ⟨some 44, _, _, _, _, _⟩) ?_)
  refine wl_loadSt st8 2 rfl rfl rfl Try.underlying26 rfl rfl (by kernel_rfl) ?_
  go_wp2_with fail
  refine (RNeg_u X Y 1 _).mono ?_
  rintro e' w9 ⟨rfl, hf9⟩
  have st9 := st8.keep hf9
  clear st8 hf9
  go_wp2_with (with_reducible refine wl_stop (o := ⟨none, _, _, _, _, _⟩) ?_)
  refine wl_storeS st9 2 rfl rfl rfl rfl rfl (by simp [cw_len]) (by kernel_rfl) (pt_one _ _ _) ?_
  intro w10 st10
  clear st9
  go_wp2_with (with_reducible refine wl_stop (o := ⟨some 46, _, _, _, _, _⟩) ?_)
  refine wl_loadSt st10 2 rfl rfl rfl Try.underlying26 rfl rfl (by kernel_rfl) ?_
  go_wp2_with (with_reducible refine wl_stop (o := ⟨none, _, _, _, _, _⟩) ?_)
  refine wl_storeS st10 0 rfl rfl rfl rfl rfl (by simp [cw_len]) (by kernel_rfl) (pt_one _ _ _) ?_
  intro w11 st11
  clear st10
  have hr := st11.at 0 rfl
  have hfr := st11.fr
  clear st11
  go_wp2_with fail
  exact bodyPost_ret (results_st2 rfl rfl hr Try.underlying26 rfl (by kernel_rfl) rfl) rfl ⟨rfl, hfr⟩
end Go.Proofs.Ytdbgddngapminaa

/- The reference's Read, for all bytes; its Base, its Same. -/
namespace Go.Proofs.Ytdbgddngapminaa
open Go.RowKit Go.Mv Mvp Mvq
theorem beN_foldl (l : List UInt8) (a : Nat) : l.foldl (fun a x => a * 256 + x.toNat) a = a * 256 ^ l.length + beN l := by
  unfold beN
  induction l generalizing a with
  | nil => simp
  | cons x l ih =>
    rw [List.foldl_cons, List.foldl_cons, ih, ih (0 * 256 + x.toNat), List.length_cons, Nat.pow_succ]
    rw [Nat.zero_mul, Nat.zero_add, Nat.add_mul, Nat.mul_assoc, Nat.mul_comm 256]
    omega
theorem beN_cons (x : UInt8) (l : List UInt8) : beN (x :: l) = x.toNat * 256 ^ l.length + beN l := by
  have h := beN_foldl l (0 * 256 + x.toNat)
  rw [Nat.zero_mul, Nat.zero_add] at h
  show List.foldl _ 0 (x :: l) = _
  rw [List.foldl_cons, Nat.zero_mul, Nat.zero_add]
  exact h
theorem beN_zero : ∀ l : List UInt8, beN l = 0 → l = List.replicate l.length 0
  | [], _ => rfl
  | x :: l, h => by
    rw [beN_cons] at h
    have h1 : x.toNat * 256 ^ l.length = 0 := by omega
    have h2 : beN l = 0 := by omega
    have hx : x = 0 := by
      rcases Nat.mul_eq_zero.1 h1 with h | h
      · exact UInt8.toNat_inj.1 (by rw [h]; rfl)
      · exact absurd h (Nat.pos_iff_ne_zero.1 (Nat.pow_pos (by decide)))
    have ih := beN_zero l h2
    rw [List.length_cons, List.replicate_succ, ← ih, hx]
theorem mkS_inj {l m : List UInt8} (h : mkS l = mkS m) : l = m := by
  have := congrArg (fun s : ByteArray => s.data.toList) h
  simpa [mkS] using this
theorem mkS_at0 (l : List UInt8) (q : Nat) (h : (l.getD 0 0).toNat = q) (h0 : 0 < (mkS l).size) : (((mkS l)[0]'h0).toNat : Int) = (q : Int) := by
  have h1 : 0 < l.length := by rwa [mkS_size] at h0
  have : ((mkS l)[0]'h0) = l.getD 0 0 := by
    show (mkS l).data[0] = _
    simp [mkS, List.getD_eq_getElem?_getD, h1]
  rw [this, h]
theorem mkS_tail (l : List UInt8) : ((mkS l).extract 1 (mkS l).size).data.toList = l.drop 1 := by
  rw [mkS_size]
  simp [mkS]
  exact List.take_of_length_le (by simp)
theorem rdOk_zeros : rdOk (List.replicate 33 0) = true := by decide
attribute [local irreducible] rtV rtOk rpL crvN beN be32
theorem num_tail (l : List UInt8) (h33 : l.length = 33) : numB mP ((mkS l).extract 1 (mkS l).size).data.toList = decide (tlN l < fP) := by
  rw [mkS_tail]
  unfold numB tlN
  rw [List.length_drop, h33, mPM]
  rfl
theorem RNum_t (l : List UInt8) (h33 : l.length = 33) (hlt : tlN l < fP) (w : World) :
    Calls Try.prog 11 #[fv mP.M, .string ((mkS l).extract 1 (mkS l).size)] w fun e w' => e = .returned (.tuple #[i4 (kN (kc (tlN l))), .bool true]) ∧ Fr Nob w w' := by
  have h := Number_t mP mP_ok.lt ((mkS l).extract 1 (mkS l).size) w (by rw [num_tail l h33]; simpa using hlt)
  rw [mkS_tail] at h
  rw [kN_kc, Nat.mod_eq_of_lt hlt]
  exact h
theorem RNum_f (l : List UInt8) (h33 : l.length = 33) (hlt : ¬ tlN l < fP) (w : World) :
    Calls Try.prog 11 #[fv mP.M, .string ((mkS l).extract 1 (mkS l).size)] w fun e w' => ∃ N : Nat, e = .returned (.tuple #[i4 N, .bool false]) ∧ True ∧ Fr Nob w w' :=
  (Number_f mP mP_ok.lt _ w (by rw [num_tail l h33]; simpa using hlt)).mono fun e w' ⟨N, h1, h2⟩ => ⟨N, h1, trivial, h2⟩
theorem kN_crv (n : Nat) : kN (kc n * kc n * kc n + 7) = crvN n % fP := by rw [← crvN_kc, kN_kc]
theorem RAt_t (n : Nat) (hr : rtOk fP (crvN n) = true) (w : World) : Calls Try.prog 37 #[i4 (kN (kc n))] w fun e w' => e = .returned (.tuple #[rpV (kc n) (kc (rtV fP (crvN n))) 1, .bool true]) ∧ Fr Nob w w' := by
  have h := Rat_t (kc n) _ _ _ rfl rfl rfl (by rw [kN_crv, rtOk_mod]; exact hr) w
  rw [kN_crv, rtV_mod] at h
  exact h
theorem RAt_f (n : Nat) (hr : rtOk fP (crvN n) = false) (w : World) : Calls Try.prog 37 #[i4 (kN (kc n))] w fun e w' => e = .returned (.tuple #[rpV (kc n) 0 1, .bool false]) ∧ Fr Nob w w' :=
  Rat_f (kc n) _ _ _ rfl rfl rfl (by rw [kN_crv, rtOk_mod]; exact hr) w
theorem ne_zeros {l : List UInt8} (h : l ≠ List.replicate 33 0) : decide (mkS l = mkS (List.replicate 33 0)) = false := by
  simpa using fun e => h (mkS_inj e)
theorem zeros_of {l : List UInt8} (h33 : l.length = 33) (h0 : l.getD 0 0 = 0) (ht : tlN l = 0) : l = List.replicate 33 0 := by
  cases l with
  | nil => cases h33
  | cons x l =>
    have hx : x = 0 := h0
    have hl := beN_zero l ht
    rw [List.length_cons] at h33
    rw [hx, hl, show l.length = 32 by omega]
    rfl
theorem head_ne {l : List UInt8} (q : UInt8) (hq : q ≠ 0) (h : l.getD 0 0 = q) : l ≠ List.replicate 33 0 := by
  rintro rfl
  exact hq h.symm
theorem RRead_ex (l : List UInt8) (h : rdOk l = true) : ∃ r : RT, r.pt = rdPt l ∧ ∀ w : World, Calls Try.prog 9 #[.string (mkS l)] w fun e w' => e = .returned (.tuple #[.agg r.L.toArray, .bool true]) ∧ Fr Nob w w' := by
  have hon := rd_on h
  unfold rdOk at h
  unfold rdPt at *
  simp only [Bool.and_eq_true, decide_eq_true_eq] at h
  obtain ⟨h33, h⟩ := h
  by_cases h0 : l.getD 0 0 = 0
  · rw [if_pos h0] at h
    refine ⟨noR, by rw [if_pos h0, noR_pt], fun w => ?_⟩
    exact RRead_zero (mkS l) (by rw [zeros_of h33 h0 (by simpa using h)]; simp) w
  · rw [if_neg h0] at h hon
    simp only [Bool.and_eq_true, decide_eq_true_eq] at h
    obtain ⟨h23, hlt, hr⟩ := h
    rcases h23 with h2 | h3
    · have h3 : ¬ l.getD 0 0 = 3 := by rw [h2]; decide
      rw [if_neg h3] at hon
      refine ⟨affR _ _ hon, by rw [if_neg h0, if_neg h3, affR_pt], fun w => ?_⟩
      exact RRead_pt2 (mkS l) (ne_zeros (head_ne 2 (by decide) h2)) (by rw [mkS_size, h33]) (fun h => mkS_at0 l 2 (by rw [h2]; rfl) h) _ _ true (RNum_t l h33 hlt) (RAt_t _ hr) w
    · rw [if_pos h3] at hon
      refine ⟨affR _ _ hon, by rw [if_neg h0, if_pos h3, affR_pt], fun w => ?_⟩
      exact RRead_pt3 (mkS l) (ne_zeros (head_ne 3 (by decide) h3)) (by rw [mkS_size, h33]) (fun h => mkS_at0 l 3 (by rw [h3]; rfl) h) _ _ true (RNum_t l h33 hlt) (RAt_t _ hr) w
open Classical in
noncomputable def rdR (l : List UInt8) : RT := if h : rdOk l = true then Classical.choose (RRead_ex l h) else noR
theorem rdR_pt {l : List UInt8} (h : rdOk l = true) : (rdR l).pt = rdPt l := by unfold rdR; rw [dif_pos h]; exact (Classical.choose_spec (RRead_ex l h)).1
theorem RRead_tl (l : List UInt8) (h : rdOk l = true) (w : World) : Calls Try.prog 9 #[.string (mkS l)] w fun e w' => e = .returned (.tuple #[.agg (rdR l).L.toArray, .bool true]) ∧ Fr Nob w w' := by
  unfold rdR; rw [dif_pos h]; exact (Classical.choose_spec (RRead_ex l h)).2 w
theorem RRead_t (s : ByteArray) (h : rdOk s.data.toList = true) (w : World) : Calls Try.prog 9 #[.string s] w fun e w' => e = .returned (.tuple #[.agg (rdR s.data.toList).L.toArray, .bool true]) ∧ Fr Nob w w' := by
  have := RRead_tl s.data.toList h w
  rwa [mkS_data] at this
theorem RRead_fl (l : List UInt8) (h : rdOk l = false) (w : World) : Calls Try.prog 9 #[.string (mkS l)] w fun e w' => ∃ X Y Z : K, e = .returned (.tuple #[rpV X Y Z, .bool false]) ∧ Fr Nob w w' := by
  by_cases h33 : l.length = 33
  · by_cases h0 : l.getD 0 0 = 0
    · have hz : l ≠ List.replicate 33 0 := by
        rintro rfl
        rw [rdOk_zeros] at h
        cases h
      exact (RRead_head (mkS l) (ne_zeros hz) (by rw [mkS_size, h33]) 0 (fun h => mkS_at0 l 0 (by rw [h0]; rfl) h) rfl rfl w).mono fun e w' k => ⟨0, 0, 0, k.1, k.2⟩
    · by_cases h23 : l.getD 0 0 = 2 ∨ l.getD 0 0 = 3
      · by_cases hlt : tlN l < fP
        · have hr : rtOk fP (crvN (tlN l)) = false := by
            unfold rdOk at h
            rw [if_neg h0, decide_eq_true h33, decide_eq_true h23, decide_eq_true hlt] at h
            simpa using h
          rcases h23 with h2 | h3
          · exact (RRead_pt2 (mkS l) (ne_zeros (head_ne 2 (by decide) h2)) (by rw [mkS_size, h33]) (fun h => mkS_at0 l 2 (by rw [h2]; rfl) h) _ _ false (RNum_t l h33 hlt) (RAt_f _ hr) w).mono fun e w' k => ⟨_, _, _, k.1, k.2⟩
          · exact (RRead_pt3 (mkS l) (ne_zeros (head_ne 3 (by decide) h3)) (by rw [mkS_size, h33]) (fun h => mkS_at0 l 3 (by rw [h3]; rfl) h) _ _ false (RNum_t l h33 hlt) (RAt_f _ hr) w).mono fun e w' k => ⟨_, _, _, k.1, k.2⟩
        · rcases h23 with h2 | h3
          · exact (RRead_num2 (mkS l) (ne_zeros (head_ne 2 (by decide) h2)) (by rw [mkS_size, h33]) (fun h => mkS_at0 l 2 (by rw [h2]; rfl) h) (RNum_f l h33 hlt) w).mono fun e w' k => ⟨0, 0, 0, k.1, k.2⟩
          · exact (RRead_num3 (mkS l) (ne_zeros (head_ne 3 (by decide) h3)) (by rw [mkS_size, h33]) (fun h => mkS_at0 l 3 (by rw [h3]; rfl) h) (RNum_f l h33 hlt) w).mono fun e w' k => ⟨0, 0, 0, k.1, k.2⟩
      · have hz : l ≠ List.replicate 33 0 := by
          rintro rfl
          exact h0 rfl
        have hne : (l.getD 0 0).toNat ≠ 2 ∧ (l.getD 0 0).toNat ≠ 3 := by
          refine ⟨fun e => h23 (.inl (UInt8.toNat_inj.1 (e.trans rfl))), fun e => h23 (.inr (UInt8.toNat_inj.1 (e.trans rfl)))⟩
        obtain ⟨q, hq⟩ : ∃ q, (l.getD 0 0).toNat = q := ⟨_, rfl⟩
        rw [hq] at hne
        exact (RRead_head (mkS l) (ne_zeros hz) (by rw [mkS_size, h33]) q (fun h => mkS_at0 l q hq h) (by simp; omega) (by simp; omega) w).mono fun e w' k => ⟨0, 0, 0, k.1, k.2⟩
  · have hz : l ≠ List.replicate 33 0 := by
      rintro rfl
      exact h33 (by simp)
    exact (RRead_len (mkS l) (ne_zeros hz) (by rw [mkS_size]; simp; omega) w).mono fun e w' k => ⟨0, 0, 0, k.1, k.2⟩
theorem RRead_f (s : ByteArray) (h : rdOk s.data.toList = false) (w : World) : Calls Try.prog 9 #[.string s] w fun e w' => ∃ X Y Z : K, e = .returned (.tuple #[rpV X Y Z, .bool false]) ∧ Fr Nob w w' := by
  have := RRead_fl s.data.toList h w
  rwa [mkS_data] at this
end Go.Proofs.Ytdbgddngapminaa

/- The reference's Read and Number, each as one contract; the law's told. -/
namespace Go.Proofs.Ytdbgddngapminaa
open Go.RowKit Go.Mv Mvp Mvq
theorem RRead_u (s : ByteArray) (w : World) : Calls Try.prog 9 #[.string s] w fun e w' => ∃ X Y Z : K, e = .returned (.tuple #[rpV X Y Z, .bool (rdOk s.data.toList)]) ∧ (rdOk s.data.toList = true → rpL X Y Z = (rdR s.data.toList).L) ∧ Fr Nob w w' := by
  cases h : rdOk s.data.toList
  · exact (RRead_f s h w).mono fun e w' ⟨X, Y, Z, k1, k2⟩ => ⟨X, Y, Z, k1, fun h => (by cases h), k2⟩
  · exact (RRead_t s h w).mono fun e w' k => ⟨_, _, _, k.1, fun _ => rfl, k.2⟩
theorem t_ok {lk la : List UInt8} (hk : numB mQ lk = true) (ha : rdOk la = true) : tC lk la = 0 ∧ tS lk la = wrPt (pmul (beN lk) (rdPt la)) := by unfold tC tS; rw [hk, ha]; exact ⟨rfl, rfl⟩
theorem rpL_one (x y z : K) : ∀ v ∈ rpL x y z, v.oneCell' = true := pt_one _ _ _
end Go.Proofs.Ytdbgddngapminaa

/- num.Dot: what it answers. -/
namespace Mvp
end Mvp
namespace Go.Proofs.Ytdbgddngapminaa
open Go.RowKit Go.Mv Mvp
attribute [local irreducible] limbs lw mix cw cSub cAdd cMul foldC valFrom beN laid be32 powm montT mstep elN mdL numsB numB
end Go.Proofs.Ytdbgddngapminaa

/- Pure sponge: what the program's and the reference's permutation compute, and that the two are one. -/
namespace Mvp


/- the program -/
/- the reference -/
def place (x y : Nat) : Nat := x % 5 + 5 * (y % 5)
/- the constants of the rounds -/
/- how far the lanes are turned -/
/- bytes into words, and back -/
end Mvp

/- word functions of the sponge -/
namespace Go.Proofs.Ytdbgddngapminaa
open Go.RowKit Go.Mv Mvp

end Go.Proofs.Ytdbgddngapminaa

/- the constants of the rounds, and how far the lanes are turned -/
namespace Go.Proofs.Ytdbgddngapminaa
open Go.RowKit Go.Mv Mvp

end Go.Proofs.Ytdbgddngapminaa

/- how far the lanes are turned -/
namespace Go.Proofs.Ytdbgddngapminaa
open Go.RowKit Go.Mv Mvp

end Go.Proofs.Ytdbgddngapminaa

/- the state: bytes are added, and given -/
namespace Go.Proofs.Ytdbgddngapminaa
open Go.RowKit Go.Mv Mvp

end Go.Proofs.Ytdbgddngapminaa

/- the state's bytes; Permute -/
namespace Go.Proofs.Ytdbgddngapminaa
open Go.RowKit Go.Mv Mvp

end Go.Proofs.Ytdbgddngapminaa

/- the permutation of the program -/
namespace Go.Proofs.Ytdbgddngapminaa
open Go.RowKit Go.Mv Mvp

end Go.Proofs.Ytdbgddngapminaa

/- the reference's round -/
namespace Go.Proofs.Ytdbgddngapminaa
open Go.RowKit Go.Mv Mvp

end Go.Proofs.Ytdbgddngapminaa

/- Pure sponge: the permutation of bytes, both ways. -/
namespace Mvp

/- the reference's way: by or -/
end Mvp

/- Permute, the program's and the reference's -/
namespace Go.Proofs.Ytdbgddngapminaa
open Go.RowKit Go.Mv Mvp

end Go.Proofs.Ytdbgddngapminaa

/- Permute of the reference -/
namespace Go.Proofs.Ytdbgddngapminaa
open Go.RowKit Go.Mv Mvp

end Go.Proofs.Ytdbgddngapminaa

/- Pure sponge: bytes are fed one by one; the sponge and what is hashed with it. -/
namespace Mvp

/- the sponge -/
end Mvp

/- Pure sponge: words and their bytes are one. -/
namespace Mvp

end Mvp

/- absorber.write -/
namespace Go.Proofs.Ytdbgddngapminaa
open Go.RowKit Go.Mv Mvp

end Go.Proofs.Ytdbgddngapminaa

/- The reference's sponge, on bytes: what it computes is the sponge on words. -/
namespace Mvp

/-- bytes of the state, j of them added to -/
def addB (b p : List UInt8) : Nat → List UInt8
  | 0 => b
  | j + 1 => (addB b p j).set j (bx ((addB b p j).getD j 0) (p.getD j 0))
end Mvp

/- The reference's sponge -/
namespace Go.Proofs.Ytdbgddngapminaa
open Go.RowKit Go.Mv Mvp
theorem Rd.take {w : World} {a : Option Addr} {n : Nat} {vs : List Value} (h : Rd w a n vs) (p : Nat) (hp : p ≤ n) : Rd w a p (vs.take p) := by
  refine ⟨by rw [List.length_take, h.len]; omega, h.2.imp (fun h0 => by omega) ?_⟩
  rintro ⟨b, o, rfl, hc⟩
  refine ⟨b, o, rfl, fun i v hv => ?_⟩
  rw [List.getElem?_take] at hv
  split at hv
  · exact hc i v hv
  · cases hv
end Go.Proofs.Ytdbgddngapminaa

/- absorber.out, and what hashes with it -/
namespace Go.Proofs.Ytdbgddngapminaa
open Go.RowKit Go.Mv Mvp
end Go.Proofs.Ytdbgddngapminaa

/- absorber.frame; the reference's Frame -/
namespace Mvp
end Mvp
namespace Go.Proofs.Ytdbgddngapminaa
open Go.RowKit Go.Mv Mvp
end Go.Proofs.Ytdbgddngapminaa

/- Hash, stream and Stream of the sponge -/
namespace Go.Proofs.Ytdbgddngapminaa
open Go.RowKit Go.Mv Mvp
end Go.Proofs.Ytdbgddngapminaa

/- sponge.tag and sponge.Tag -/
namespace Go.Proofs.Ytdbgddngapminaa
open Go.RowKit Go.Mv Mvp
/-- the value reads as these bytes, from an old block -/
def PartIs (w : World) (v : Value) (l : List UInt8) : Prop := ∃ a n c, v = .slice a n c ∧ n ≤ c ∧ n ≤ 1000000 ∧ RdB w a n l ∧ Old w a
theorem PartIs.still {w w' : World} {v : Value} {l : List UInt8} (h : PartIs w v l) (hf : Fr Nob w w') : PartIs w' v l := by
  obtain ⟨a, n, c, h1, h2, h3, h4, h5⟩ := h
  exact ⟨a, n, c, h1, h2, h3, h4.still hf, h5.grow hf.size⟩
/-- a slice of slices of bytes -/
def PartsAt (w : World) (a : Option Addr) (ls : List (List UInt8)) : Prop := ∃ vs : List Value, Rd w a ls.length vs ∧ ∀ (i : Nat) (v : Value), vs[i]? = some v → ∃ l : List UInt8, ls[i]? = some l ∧ PartIs w v l
theorem PartsAt.get {w : World} {a : Option Addr} {ls : List (List UInt8)} (h : PartsAt w a ls) {j : Nat} (hj : j < ls.length) : ∃ b o v, a = some ⟨b, o, none⟩ ∧ w.cell? ⟨b, o + j, none⟩ = some v ∧ PartIs w v (ls.getD j []) := by
  obtain ⟨vs, hr, hv⟩ := h
  obtain ⟨b, o, rfl, hat⟩ := hr.at (by omega)
  have hl := hr.len
  obtain ⟨l, h1, h2⟩ := hv j (vs[j]'(by omega)) (List.getElem?_eq_getElem (by omega))
  refine ⟨b, o, vs[j]'(by omega), rfl, hat j _ (List.getElem?_eq_getElem (by omega)), ?_⟩
  rwa [List.getD_eq_getElem?_getD, h1]
theorem PartsAt.still {w w' : World} {a : Option Addr} {ls : List (List UInt8)} (h : PartsAt w a ls) (hf : Fr Nob w w') : PartsAt w' a ls := by
  obtain ⟨vs, hr, hv⟩ := h
  refine ⟨vs, hr.still hf, fun i v hi => ?_⟩
  obtain ⟨l, h1, h2⟩ := hv i v hi
  exact ⟨l, h1, h2.still hf⟩
end Go.Proofs.Ytdbgddngapminaa

/- mintvaultlaw1.SpongeTurns: the walk of the law -/
namespace Go.Proofs.Ytdbgddngapminaa
open Go.RowKit Go.Mv Mvp

end Go.Proofs.Ytdbgddngapminaa

/- The reference's Hash and Stream; the law SpongeHashes -/
namespace Go.Proofs.Ytdbgddngapminaa
open Go.RowKit Go.Mv Mvp
end Go.Proofs.Ytdbgddngapminaa

/- Arguments that were handed in, opened into the words of Mem. -/
namespace Go.Mv
open Go.RowKit Go.ChangeShapes Go.WideShapes

section
variable {H : Type} {enc : TypeId × Value → H} {P : Program} {w : World} {base : Nat} {held : Bool} {spare : Nat → Bool}
end
end Go.Mv

/- The reference's Tag -/
namespace Go.Proofs.Ytdbgddngapminaa
open Go.RowKit Go.Mv Mvp
end Go.Proofs.Ytdbgddngapminaa

/- A log of the sponge, the reference's: NewLog, Say, Ask, Clone. -/
namespace Go.Proofs.Ytdbgddngapminaa
open Go.RowKit Go.Mv Mvp
/-- parts by their values -/
def Parts (w : World) : List Value → List (List UInt8) → Prop
  | [], [] => True
  | v :: vs, l :: ls => PartIs w v l ∧ Parts w vs ls
  | _, _ => False
theorem Parts.len {w : World} : ∀ {vs : List Value} {ls : List (List UInt8)}, Parts w vs ls → vs.length = ls.length
  | [], [], _ => rfl
  | _ :: _, _ :: _, h => by simp only [List.length_cons]; rw [Parts.len h.2]
  | [], _ :: _, h => h.elim
  | _ :: _, [], h => h.elim
theorem Parts.get {w : World} : ∀ {vs : List Value} {ls : List (List UInt8)}, Parts w vs ls → ∀ (i : Nat) (v : Value), vs[i]? = some v → ∃ l : List UInt8, ls[i]? = some l ∧ PartIs w v l
  | [], [], _, i, v, h => by simp at h
  | x :: vs, l :: ls, h, 0, v, hv => by simp only [List.getElem?_cons_zero, Option.some.injEq] at hv; subst hv; exact ⟨l, rfl, h.1⟩
  | x :: vs, l :: ls, h, i + 1, v, hv => by simp only [List.getElem?_cons_succ] at hv ⊢; exact Parts.get h.2 i v hv
  | [], _ :: _, h, _, _, _ => h.elim
  | _ :: _, [], h, _, _, _ => h.elim
theorem Parts.at {w : World} {g : Nat} {T : TypeId} {vs : List Value} {ls : List (List UInt8)} (h : Parts w vs ls) (hg : Has w g vs T) : PartsAt w (some ⟨g, 0, none⟩) ls :=
  ⟨vs, by have := Rd.whole hg; rwa [h.len] at this, h.get⟩
theorem Parts.cells {w : World} : ∀ {vs : List Value} {ls : List (List UInt8)}, Parts w vs ls → ∀ v ∈ vs, v.cells = #[v]
  | [], _, _, v, h => by simp at h
  | x :: vs, l :: ls, h, v, hv => by
    rcases List.mem_cons.1 hv with rfl | hv
    · obtain ⟨a, n, c, rfl, _⟩ := h.1; rfl
    · exact Parts.cells h.2 v hv
  | _ :: _, [], h, _, _ => h.elim
theorem own_part {w : World} {base n : Nat} {T : TypeId} {v : Value} {l : List UInt8} (h : Own w base T 1 v n (bs l)) (hn : n ≤ 1000000) : PartIs w v l := by
  have h0 := h
  obtain ⟨a, c, rfl, hc, hr, -⟩ := h.form
  rw [Nat.mul_one] at hr
  refine ⟨a, n, c, rfl, hc, hn, hr, ?_⟩
  intro x hx
  exact (h0.lt (by rw [hx]; rfl)).2

/-! The reference's -/
end Go.Proofs.Ytdbgddngapminaa

/- The tree, plain: what a path leads to, from its end (the document) and from its beginning (the program). -/
namespace Mvt
variable {α : Type} (nd : α → α → α)
/-- the greatest power of two below n -/
def half (n : Nat) : Nat := 2 ^ Nat.log2 (n - 1)
/-- up, as far as nothing stands beside -/
def skip (a e : Nat) : Nat × Nat := if a % 2 = 0 ∧ 0 < a then skip (a / 2) (e / 2) else (a, e)
termination_by a
decreasing_by omega
end Mvt

/- The tree: node, leafHash, bytes.Equal, sized, lists, small; the reference's leaf, node, half, sized. -/
namespace Go.Proofs.Ytdbgddngapminaa
open Go.RowKit Go.Mv Mvp Mvt
end Go.Proofs.Ytdbgddngapminaa

/- SpongeLogs: what stays of many logs, step by step. -/
namespace Go.Mv
open Go.RowKit
theorem Has.ne {w : World} {g g' : Nat} {L L' : List Value} {T T' : TypeId} (h : Has w g L T) (h' : Has w g' L' T') (hT : T ≠ T') : g ≠ g' := by
  rintro rfl
  obtain ⟨_, _, h1, _⟩ := h
  obtain ⟨_, _, h2, _⟩ := h'
  rw [h1] at h2
  simp at h2
  exact hT h2.2.1
end Go.Mv
namespace Go.Proofs.Ytdbgddngapminaa
open Go.RowKit Go.Mv Mvp
abbrev Tri : Type := Nat × Nat × List UInt8
variable {w w' : World} {base ga gb : Nat} {sa sb : List UInt8} {T : List Tri} {vk vw : Value} {Lk Lw : List Value}
end Go.Proofs.Ytdbgddngapminaa

/- mintvaultlaw8.lists, small: lists of strings as lists of bytes. -/
namespace Go.Proofs.Ytdbgddngapminaa
open Go.RowKit Go.Mv Mvp Mvt
/-- slices of bytes of the call's own -/
def POwn (w : World) (base : Nat) : List Value → List (List UInt8) → Prop
  | [], [] => True
  | v :: vs, l :: ls => Own w base 5 1 v l.length (bs l) ∧ POwn w base vs ls
  | _, _ => False
theorem POwn.len {w : World} {base : Nat} : ∀ {vs : List Value} {ls : List (List UInt8)}, POwn w base vs ls → vs.length = ls.length
  | [], [], _ => rfl
  | _ :: _, _ :: _, h => by simp only [List.length_cons]; rw [POwn.len h.2]
  | [], _ :: _, h => h.elim
  | _ :: _, [], h => h.elim
theorem POwn.keep {w w' : World} {base : Nat} {S : Nat → Prop} (hf : Fr S w w') : ∀ {vs : List Value} {ls : List (List UInt8)}, POwn w base vs ls → (∀ v n l, Own w base 5 1 v n (bs l) → ∀ k, OwnB v k → ¬ S k) → POwn w' base vs ls
  | [], [], _, _ => trivial
  | _ :: _, _ :: _, h, hs => ⟨h.1.keep hf (hs _ _ _ h.1), POwn.keep hf h.2 hs⟩
  | [], _ :: _, h, _ => h.elim
  | _ :: _, [], h, _ => h.elim
theorem POwn.still {w w' : World} {base : Nat} {vs : List Value} {ls : List (List UInt8)} (h : POwn w base vs ls) (hf : Fr Nob w w') : POwn w' base vs ls := POwn.keep hf h (fun _ _ _ _ _ _ t => t)
theorem POwn.parts {w : World} {base : Nat} : ∀ {vs : List Value} {ls : List (List UInt8)}, POwn w base vs ls → (∀ x ∈ ls, x.length ≤ 1000000) → Parts w vs ls
  | [], [], _, _ => trivial
  | _ :: _, _ :: _, h, hx => ⟨own_part h.1 (hx _ (by simp)), POwn.parts h.2 (fun x hxm => hx x (by simp [hxm]))⟩
  | [], _ :: _, h, _ => h.elim
  | _ :: _, [], h, _ => h.elim
/-- a list of lists of bytes, all of the call's own -/
def LOwn (w : World) (base : Nat) (v : Value) (ls : List (List UInt8)) : Prop := ∃ vs, Own w base 34 1 v ls.length vs ∧ POwn w base vs ls
theorem LOwn.still {w w' : World} {base : Nat} {v : Value} {ls : List (List UInt8)} (h : LOwn w base v ls) (hf : Fr Nob w w') : LOwn w' base v ls := by
  obtain ⟨vs, h1, h2⟩ := h; exact ⟨vs, h1.still hf, h2.still hf⟩
theorem LOwn.parts {w : World} {base : Nat} {v : Value} {ls : List (List UInt8)} (h : LOwn w base v ls) (hx : ∀ x ∈ ls, x.length ≤ 1000000) : ∃ a c, v = .slice a ls.length c ∧ ls.length ≤ c ∧ PartsAt w a ls := by
  obtain ⟨vs, h1, h2⟩ := h
  obtain ⟨a, c, rfl, hc, hr, -⟩ := h1.form
  rw [Nat.mul_one] at hr
  exact ⟨a, c, rfl, hc, vs, hr, (h2.parts hx).get⟩

end Go.Proofs.Ytdbgddngapminaa

/- bytes.Clone; lists of owned slices of bytes that lie apart. -/
namespace Go.Proofs.Ytdbgddngapminaa
open Go.RowKit Go.Mv Mvp Mvt
/-- no two of them share a block -/
def Sep (vs : List Value) : Prop := vs.Pairwise fun a b => ∀ k, OwnB a k → ¬ OwnB b k
theorem Sep.nil : Sep [] := List.Pairwise.nil
theorem POwn.get {w : World} {base : Nat} : ∀ {vs : List Value} {ls : List (List UInt8)}, POwn w base vs ls → ∀ (i : Nat) (v : Value), vs[i]? = some v → ∃ l, ls[i]? = some l ∧ Own w base 5 1 v l.length (bs l)
  | [], [], _, i, v, hv => by simp at hv
  | a :: vs, l :: ls, h, 0, v, hv => by simp at hv; subst hv; exact ⟨l, rfl, h.1⟩
  | a :: vs, l :: ls, h, i + 1, v, hv => by simp at hv; obtain ⟨l', h1, h2⟩ := POwn.get h.2 i v hv; exact ⟨l', by simpa using h1, h2⟩
  | [], _ :: _, h, _, _, _ => h.elim
  | _ :: _, [], h, _, _, _ => h.elim
theorem POwn.mono {w : World} {base base' : Nat} (hb : base' ≤ base) : ∀ {vs : List Value} {ls : List (List UInt8)}, POwn w base vs ls → POwn w base' vs ls
  | [], [], _ => trivial
  | _ :: _, _ :: _, h => ⟨h.1.mono hb, POwn.mono hb h.2⟩
  | [], _ :: _, h => h.elim
  | _ :: _, [], h => h.elim
/-- a slice of slices of bytes, all of the call's own, apart -/
def SOwn (w : World) (base : Nat) (v : Value) (ls : List (List UInt8)) : Prop := ∃ vs, Own w base 34 1 v ls.length vs ∧ POwn w base vs ls ∧ Sep vs
theorem SOwn.nil (w : World) (base : Nat) : SOwn w base (.slice none 0 0) [] := ⟨[], Own.nil _ _ _ _, trivial, Sep.nil⟩
theorem SOwn.still {w w' : World} {base : Nat} {v : Value} {ls : List (List UInt8)} (h : SOwn w base v ls) (hf : Fr Nob w w') : SOwn w' base v ls := by
  obtain ⟨vs, h1, h2, h3⟩ := h; exact ⟨vs, h1.still hf, h2.still hf, h3⟩
end Go.Proofs.Ytdbgddngapminaa

/- num.Powers: what it answers. -/
namespace Mvp
end Mvp
namespace Go.Proofs.Ytdbgddngapminaa
open Go.RowKit Go.Mv Mvp
theorem SOwn.mono {w : World} {base base' : Nat} {v : Value} {ls : List (List UInt8)} (h : SOwn w base v ls) (hb : base' ≤ base) : SOwn w base' v ls := by
  obtain ⟨vs, h1, h2, h3⟩ := h; exact ⟨vs, h1.mono hb, h2.mono hb, h3⟩
attribute [local irreducible] limbs lw mix cw cSub cAdd cMul foldC valFrom beN laid be32 powm montT mstep elN mdL numsB numB
end Go.Proofs.Ytdbgddngapminaa

/- The law's powers. -/
namespace Mvp
end Mvp
namespace Go.Proofs.Ytdbgddngapminaa
open Go.RowKit Go.Mv Mvp
attribute [local irreducible] limbs lw mix cw cSub cAdd cMul foldC valFrom beN laid be32 powm montT mstep elN mdL numB numsB
end Go.Proofs.Ytdbgddngapminaa

/- Sum: what it answers, for all lists; the law's own sum. -/
namespace Go.Proofs.Ytdbgddngapminaa
open Go.RowKit Go.Mv Mvp Mvq
/-- the terms as points -/
noncomputable def smL (ln lp : List (List UInt8)) (k : Nat) : List (Nat × Pt) := (List.range k).map fun i => (beN (ln.getD i []), rdPt (lp.getD i []))
def sumE (ln lp : List (List UInt8)) : Nat := if ln.length = lp.length then (if ln.length ≤ 512 then (if numsB mQ ln then (if rdsB lp then 0 else 4) else 3) else 1) else 2
noncomputable def sumS (ln lp : List (List UInt8)) : List UInt8 := if ln.length = lp.length then (if ln.length ≤ 512 then (if numsB mQ ln then (if rdsB lp then wrPt (psum (smL ln lp lp.length)) else []) else []) else []) else []
theorem rdsB_get {ls : List (List UInt8)} (h : rdsB ls = true) (i : Nat) (hi : i < ls.length) : rdOk (ls.getD i []) = true := by
  unfold rdsB at h
  rw [List.all_eq_true] at h
  refine h _ ?_
  rw [List.getD_eq_getElem?_getD, List.getElem?_eq_getElem hi]
  exact List.getElem_mem hi
theorem numsB_getG {ls : List (List UInt8)} (h : numsB mQ ls = true) (i : Nat) (hi : i < ls.length) : numB mQ (ls.getD i []) = true := by
  unfold numsB at h
  rw [List.all_eq_true] at h
  refine h _ ?_
  rw [List.getD_eq_getElem?_getD, List.getElem?_eq_getElem hi]
  exact List.getElem_mem hi
theorem sum_is {ln lp : List (List UInt8)} (hl : ln.length = lp.length) (hn : numsB mQ ln = true) (hp : rdsB lp = true) : (sumT (tmsT (aK ln ln.length) lp)).pt = psum (smL ln lp lp.length) := by
  have e : tpts (tmsT (aK ln ln.length) lp) = smL ln lp lp.length := by
    unfold tpts tmsT smL
    rw [List.map_map]
    refine List.map_congr_left fun i hi => ?_
    have hi := List.mem_range.1 hi
    show (aK ln ln.length i, (rdT (lp.getD i [])).pt) = _
    rw [rdT_pt (rdsB_get hp i hi)]
    unfold aK
    rw [if_pos (by omega)]
  rw [sumT_pt _ ?_, e]
  intro t ht
  unfold tmsT at ht
  obtain ⟨i, hi, rfl⟩ := List.mem_map.1 ht
  have hi := List.mem_range.1 hi
  show aK ln ln.length i < _
  unfold aK
  rw [if_pos (by omega)]
  exact Nat.lt_trans (numB_lt2 (numsB_getG hn i (by omega))) q16
theorem Sum_all (al : Option Addr) (cl : Nat) (vs : List Value) (ln : List (List UInt8)) (bl : Option Addr) (dl : Nat) (us : List Value) (lp : List (List UInt8)) (w : World) (hv : Rd w al ln.length vs) (hp : BParts w vs ln) (hu : Rd w bl lp.length us) (hq : BParts w us lp) :
    Calls Try.prog 25 #[.slice al ln.length cl, .slice bl lp.length dl] w fun e w' => ∃ v, e = .returned (.tuple #[v, .int .i64 (sumE ln lp : Nat)]) ∧ OwnB1 w w' v (sumS ln lp) ∧ Fr Nob w w' := by
  by_cases h1 : ln.length = lp.length
  · rw [← h1] at hu ⊢
    by_cases h2 : ln.length ≤ 512
    · cases hn : numsB mQ ln
      · refine (Sum_badk al _ cl vs ln bl dl us lp w hv hp hu hq h2 hn).mono fun e w' k => ⟨.slice none 0 0, ?_, ?_, k.2⟩
        · rw [k.1]; unfold sumE; rw [if_pos h1, if_pos h2, hn]; rfl
        · unfold sumS; rw [if_pos h1, if_pos h2, hn]; exact OwnB1.nil _ _
      · cases hr : rdsB lp
        · refine (Sum_badp al _ cl vs ln bl dl us lp w hv hp hu hq h2 hn hr).mono fun e w' k => ⟨.slice none 0 0, ?_, ?_, k.2⟩
          · rw [k.1]; unfold sumE; rw [if_pos h1, if_pos h2, hn, hr]; rfl
          · unfold sumS; rw [if_pos h1, if_pos h2, hn, hr]; exact OwnB1.nil _ _
        · refine (Sum_ok al _ cl vs ln bl dl us lp w hv hp hu hq h2 hn hr).mono fun e w' k => ?_
          obtain ⟨v, k1, k2, k3⟩ := k
          rw [sum_is h1 hn hr] at k2
          refine ⟨v, ?_, ?_, k3⟩
          · rw [k1]; unfold sumE; rw [if_pos h1, if_pos h2, hn, hr]; rfl
          · unfold sumS; rw [if_pos h1, if_pos h2, hn, hr]; exact OwnB1.of k2 (wrPt_len _)
    · refine (Sum_long al _ cl bl dl w (by omega)).mono fun e w' k => ⟨.slice none 0 0, ?_, ?_, k.2⟩
      · rw [k.1]; unfold sumE; rw [if_pos h1, if_neg h2]; rfl
      · unfold sumS; rw [if_pos h1, if_neg h2]; exact OwnB1.nil _ _
  · refine (Sum_form al _ cl bl _ dl w h1).mono fun e w' k => ⟨.slice none 0 0, ?_, ?_, k.2⟩
    · rw [k.1]; unfold sumE; rw [if_neg h1]; rfl
    · unfold sumS; rw [if_neg h1]; exact OwnB1.nil _ _
attribute [local irreducible] limbs lw mix cw cSub cAdd cMul foldC valFrom beN laid be32 powm montT mstep elN mdL numB rtV rtOk kN kc kinv wrPt addR noR negR timesR tmsR RT.L gXn gYn rpL rdOk rdPt rdR numsB rdsB
end Go.Proofs.Ytdbgddngapminaa

/- blind: plus, chains of steps, Unblind. -/
namespace Go.Proofs.Ytdbgddngapminaa
open Go.RowKit Go.Mv Mvp Mvq
/-- a chain's value -/
def chV (a : Option Addr) (n c : Nat) (e : Int) : Value := .agg #[.slice a n c, .int .i64 e]
theorem built_ch1 (a : Option Addr) (n c : Nat) : Try.prog.built 115 [(0, .slice a n c)] = some ([Value.slice a n c, .int .i64 0]).toArray := by kernel_rfl
theorem built_ch2 (a : Option Addr) (n c : Nat) (e : Int) : Try.prog.built 115 [(0, .slice a n c), (1, .int .i64 e)] = some ([Value.slice a n c, .int .i64 e]).toArray := by kernel_rfl
theorem one_ch (a : Option Addr) (n c : Nat) (e : Int) : ∀ v ∈ [Value.slice a n c, .int .i64 e], v.oneCell' = true := by
  intro v hv
  simp only [List.mem_cons, List.not_mem_nil, or_false] at hv
  rcases hv with rfl | rfl <;> rfl
attribute [local irreducible] limbs lw mix cw cSub cAdd cMul foldC valFrom beN laid be32 powm montT mstep elN mdL numB rtV rtOk wrPt rdOk rdPt numsB rdsB sumE sumS pmul
set_option maxHeartbeats 8000000 in
set_option maxRecDepth 1000000 in
theorem ZNeg_any (m : Md) (hk : KindOf 1 m) (x : Nat) (w : World) :
    Calls Try.prog 77 #[i4 (elN m x)] w fun e w' => e = .returned (i4 (elN m (m.M - x % m.M))) ∧ Fr Nob w w' := by
  have HK := Lib.hid hk
  have HOK := Lib.hid hk.ok
  clear hk
  have st0 := St.start Nob w
  go_enter Try.func77, Try.ntmps77
  go_wp2_with (with_reducible refine wl_stop (o := ⟨some 1, _, _, _, _, _⟩) ?_)
  refine wl_boxS st0 rfl rfl rfl (cw 4 (elN m x)) rfl ?_
  intro g1 w1 st1
  clear st0
  go_wp2_with (with_reducible refine wl_stop (o := ⟨some 2, _, _, _, _, _⟩) ?_)
  refine wl_allocS st1 rfl rfl (z := .agg #[.int .u64 0, .int .u64 0, .int .u64 0, .int .u64 0]) (by kernel_rfl) (cw 4 0) (by rw [cw_zero]; rfl) ?_
  intro g2 w2 st2
  clear st1
  go_wp2_with fail
  refine wp_region_noPanic ?_
  refine wp_region_plan (fun wx => St Nob w wx [(g1, cw 4 (elN m x), 107), (g2, cw 4 0, 107)]) 5 (.w 1 (.t 2 (.r 0 (.r 3 (.w 4 (.m 5 .nil)))))) (by kernel_rfl) (by kernel_rfl) st2.drew (fun _ _ _ _ _ h => h) ?_
  have hd2 := st2.drew
  clear st2
  refine plan_w (v := ?_) rfl rfl (fun wx => ?_) ?_
  rotate_left 1
  · (go_simp; with_reducible rfl)
  try simp only [Act.put, List.setIfInBounds_toArray, List.set_cons_zero, List.set_cons_succ]
  refine plan_arr rfl rfl rfl rfl (cw 4 (elN m x)) (fun wx hS => St.rangeL hS 0 rfl 0 _ (by rw [List.drop_zero, List.take_of_length_le (Nat.le_refl _)])) Try.underlying70 rfl (by first | (rw [cw_len]; kernel_rfl) | (simp only [List.length_append, cw_len]; kernel_rfl)) ?_
  try simp only [Act.put, List.setIfInBounds_toArray, List.set_cons_zero, List.set_cons_succ]
  refine plan_r rfl rfl ?_
  go_simp
  refine (order_any m HK.out _).mono ?_
  rintro e' w3 ⟨gp, rfl, hle, hm, hf3⟩
  have st3 : St Nob w w3 [(g1, cw 4 (elN m x), 107), (g2, cw 4 0, 107), (gp, mdL m, 134)] := hd2.new hf3 hm hle
  clear hf3 hm hle
  clear hd2
  refine ⟨St.less st3 (by simp), ?_⟩
  try simp only [Act.put, List.setIfInBounds_toArray, List.set_cons_zero, List.set_cons_succ]
  refine plan_r rfl rfl ?_
  go_simp
  refine (MNeg_any m gp _ HOK.out (st3.at 2 rfl) x).mono ?_
  rintro e' w4 ⟨rfl, hf4⟩
  have st4 := st3.keep hf4
  clear hf4
  clear st3
  refine ⟨St.less st4 (by simp), ?_⟩
  try simp only [Act.put, List.setIfInBounds_toArray, List.set_cons_zero, List.set_cons_succ]
  refine plan_w rfl rfl (exec_build rfl _ (built_Z _)) ?_
  try simp only [Act.put, List.setIfInBounds_toArray, List.set_cons_zero, List.set_cons_succ]
  refine plan_m rfl rfl ?_
  refine wp_storeS st4 1 rfl rfl rfl rfl (by first | (simp only [cw_len]; done) | (simp only [List.length_append, cw_len]; done)) (by first | (rw [cw_len]; kernel_rfl) | (simp only [List.length_append, cw_len]; kernel_rfl)) (cw_one _ _) ?_
  intro w5 st5
  clear st4
  try simp only [Act.put]
  refine plan_end ?_
  refine NoPanic.normal ?_
  have hr := st5.at 1 rfl
  have hfr := st5.fr
  clear st5
  go_wp2_with fail
  exact bodyPost_ret (results_st rfl rfl hr Try.underlying107 rfl (by first | (rw [cw_len]; kernel_rfl) | (simp only [List.length_append, cw_len]; kernel_rfl))) rfl ⟨rfl, hfr⟩

set_option maxHeartbeats 8000000 in
set_option maxRecDepth 1000000 in
theorem bplus_c (x : Nat) (a : Option Addr) (n c : Nat) (w : World) :
    Calls Try.prog 76 #[i4 (elN mQ x), .slice a n c] w fun e w' => ∃ g2 g3, e = .returned (.func (.func 112) #[] #[.pointer (some ⟨g2, 0, none⟩), .pointer (some ⟨g3, 0, none⟩)]) ∧ Has w' g2 (cw 4 (elN mQ x)) 107 ∧ Has w' g3 [.slice a n c] 34 ∧ Fr Nob w w' := by
  have st0 := St.start Nob w
  go_enter Try.func76, Try.ntmps76
  go_wp2_with (with_reducible refine wl_stop (o := ⟨some 2, _, _, _, _, _⟩) ?_)
  refine wl_boxS st0 rfl rfl rfl (cw 4 (elN mQ x)) rfl ?_
  intro g2 w1 st1
  clear st0
  go_wp2_with (with_reducible refine wl_stop (o := ⟨some 3, _, _, _, _, _⟩) ?_)
  refine wl_boxS st1 rfl rfl rfl [.slice a n c] rfl ?_
  intro g3 w2 st2
  clear st1
  have H2 := Lib.hid (st2.at 0 rfl)
  have H3 := Lib.hid (st2.at 1 rfl)
  have HF := Lib.hid st2.fr
  clear st2
  go_wp2_with fail
  go_ret
  exact ⟨g2, g3, rfl, H2.out, H3.out, HF.out⟩

theorem ZBytes_x (x : Nat) (w : World) : Calls Try.prog 70 #[i4 (elN mQ x)] w fun e w' => ∃ y : Option Addr × Nat, e = .returned (.slice y.1 32 y.2) ∧ BPart w' (.slice y.1 32 y.2) (be32 (x % mQ.M)) ∧ Fr Nob w w' := by
  refine (ZBytes_any mQ .one x w).mono ?_
  rintro e w' ⟨v, rfl, ho, hf⟩
  obtain ⟨a, c, rfl, hc, hr, -⟩ := ho.form
  rw [Nat.mul_one] at hr
  exact ⟨(a, c), rfl, ⟨a, 32, c, rfl, hc, hr⟩, hf⟩

set_option maxHeartbeats 8000000 in
set_option maxRecDepth 1000000 in
theorem bplus1_c (x : Nat) (g2 g3 : Nat) (a : Option Addr) (n c : Nat) (l1 : List UInt8) (b : Option Addr) (m d : Nat) (l2 : List UInt8) (w : World) (h2 : Has w g2 (cw 4 (elN mQ x)) 107) (h3 : Has w g3 [.slice b m d] 34) (hp1 : BPart w (.slice a n c) l1) (hp2 : BPart w (.slice b m d) l2) :
    Calls Try.prog 112 #[.slice a n c, .pointer (some ⟨g2, 0, none⟩), .pointer (some ⟨g3, 0, none⟩)] w fun e w' => ∃ v, e = .returned (.tuple #[v, .int .i64 (sumE [be32 (1 % mQ.M), be32 (x % mQ.M)] [l1, l2] : Nat)]) ∧ Own w' 0 5 1 v (sumS [be32 (1 % mQ.M), be32 (x % mQ.M)] [l1, l2]).length (bs (sumS [be32 (1 % mQ.M), be32 (x % mQ.M)] [l1, l2])) ∧ Fr Nob w w' := by
  have HG2 := Lib.hid h2
  have HG3 := Lib.hid h3
  have HP1 := Lib.hid hp1
  have HP2 := Lib.hid hp2
  clear h2 h3 hp1 hp2
  have st0 := St.start Nob w
  go_enter Try.func112, Try.ntmps112
  go_wp2_with fail
  refine wp_region_noPanic ?_
  refine wp_region_lad st0 12 [.t 2, .w 5, .t 6, .o 7, .c 0, .c 1, .c 3, .o 4, .j 7, .j 4] (.r 8 (.w 9 (.w 10 (.w 11 (.m 12 .nil))))) (by kernel_rfl) (by kernel_rfl) (fun _ _ _ _ _ h => h) ?_
  clear st0
  refine lad_arr rfl rfl rfl (fun _ => rfl) (cw 4 (elN mQ x)) (fun wx hS => (HG2.out.keep (St.fr hS) id).range 0 _ (by rw [List.drop_zero, List.take_of_length_le (Nat.le_refl _)])) Try.underlying107 rfl (by first | (rw [cw_len]; kernel_rfl) | (simp only [List.length_append, cw_len]; kernel_rfl)) ?_
  try simp only [Act.put, List.setIfInBounds_toArray, List.set_cons_zero, List.set_cons_succ]
  refine lad_w (v := ?_) rfl rfl (fun xq wx => ?_) ?_
  rotate_left 1
  · (go_simp; with_reducible rfl)
  try simp only [Act.put, List.setIfInBounds_toArray, List.set_cons_zero, List.set_cons_succ]
  refine lad_t (v := ?_) rfl rfl (fun xq wx hS => ?_) ?_
  rotate_left 1
  · (have hc := (HG3.out.keep (St.fr hS) id).cell (show [Value.slice b m d][0]? = _ from rfl); clear hS; go_simp; with_reducible rfl)
  try simp only [Act.put, List.setIfInBounds_toArray, List.set_cons_zero, List.set_cons_succ]
  refine lad_rows rfl rfl rfl Try.underlying50 info_bslg [.slice a n c, .slice b m d] (fun _ => rfl) (by simp [Value.cells]) rfl [.slice a n c, .slice b m d] rfl ?_
  try simp only [Act.put, List.setIfInBounds_toArray, List.set_cons_zero, List.set_cons_succ]
  refine lad_call rfl rfl rfl Try.call113 (fun w hS hR => Zsmall_any mQ .one 1 (by decide) _) (fun _ => rfl) ?_
  try simp only [Act.put, List.setIfInBounds_toArray, List.set_cons_zero, List.set_cons_succ]
  refine lad_callX (X := Option Addr × Nat) (fun y => .slice y.1 32 y.2) (fun y w => BPart w (.slice y.1 32 y.2) (be32 (1 % mQ.M))) (fun _ _ _ h k => h.still k) rfl rfl rfl Try.call70 (fun w hS hR => ZBytes_x 1 _) (fun _ => rfl) fun y7 => ?_
  try simp only [Act.put, List.setIfInBounds_toArray, List.set_cons_zero, List.set_cons_succ]
  refine lad_callX (X := Option Addr × Nat) (fun y => .slice y.1 32 y.2) (fun y w => BPart w (.slice y.1 32 y.2) (be32 (x % mQ.M))) (fun _ _ _ h k => h.still k) rfl rfl rfl Try.call70 (fun w hS hR => ZBytes_x x _) (fun _ => rfl) fun y9 => ?_
  try simp only [Act.put, List.setIfInBounds_toArray, List.set_cons_zero, List.set_cons_succ]
  refine lad_rows rfl rfl rfl Try.underlying50 info_bslg [.slice y7.1 32 y7.2, .slice y9.1 32 y9.2] (fun _ => rfl) (by simp [Value.cells]) rfl [.slice y7.1 32 y7.2, .slice y9.1 32 y9.2] rfl ?_
  try simp only [Act.put, List.setIfInBounds_toArray, List.set_cons_zero, List.set_cons_succ]
  refine lad_j (List.mem_cons_of_mem _ List.mem_cons_self) fun g13 => ?_
  simp only [upd, reduceIte]
  try simp only [Nat.reduceEqDiff, reduceIte]
  refine lad_j List.mem_cons_self fun g10 => ?_
  simp only [upd, reduceIte]
  try simp only [Nat.reduceEqDiff, reduceIte]
  refine lad_end fun xq w1 st1 hR => ?_
  try dsimp only
  have H7 := Lib.hid hR.1.2
  have H9 := Lib.hid hR.2
  clear hR xq
  refine plan_r rfl rfl ?_
  go_simp
  refine (Sum_all (some ⟨g10, 0, none⟩) 2 [.slice y7.1 32 y7.2, .slice y9.1 32 y9.2] [be32 (1 % mQ.M), be32 (x % mQ.M)] (some ⟨g13, 0, none⟩) 2 [.slice a n c, .slice b m d] [l1, l2] _ (Rd.whole (st1.at 1 rfl)) (BParts.two (H7.out.still (Fr.refl _ _)) (H9.out.still (Fr.refl _ _))) (Rd.whole (st1.at 0 rfl)) (BParts.two (HP1.out.still st1.fr) (HP2.out.still st1.fr))).mono ?_
  rintro e' w2 ⟨v, rfl, ho, hf2⟩
  have st2 := st1.keep hf2
  have HV := Lib.hid (Own.mono ho (Nat.zero_le _))
  clear ho
  clear hf2
  clear st1
  refine ⟨by first | exact st2 | exact St.less st2 (by simp), ?_⟩
  try simp only [Act.put, List.setIfInBounds_toArray, List.set_cons_zero, List.set_cons_succ]
  refine plan_w (v := ?_) rfl rfl (fun wx => ?_) ?_
  rotate_left 1
  · (go_simp; with_reducible rfl)
  try simp only [Act.put, List.setIfInBounds_toArray, List.set_cons_zero, List.set_cons_succ]
  refine plan_w (v := ?_) rfl rfl (fun wx => ?_) ?_
  rotate_left 1
  · (go_simp; with_reducible rfl)
  try simp only [Act.put, List.setIfInBounds_toArray, List.set_cons_zero, List.set_cons_succ]
  refine plan_w (v := ?_) rfl rfl (fun wx => ?_) ?_
  rotate_left 1
  · (go_simp; with_reducible rfl)
  try simp only [Act.put, List.setIfInBounds_toArray, List.set_cons_zero, List.set_cons_succ]
  refine plan_m rfl rfl ?_
  go_simp
  try simp only [Act.put, List.setIfInBounds_toArray, List.set_cons_zero, List.set_cons_succ]
  refine plan_end ?_
  refine NoPanic.normal ?_
  have hfr := st2.fr
  clear st2
  go_wp2_with fail
  go_ret2
  exact ⟨v, rfl, HV.out, hfr⟩
end Go.Proofs.Ytdbgddngapminaa

/- blind: chains, Unblind. -/
namespace Go.Proofs.Ytdbgddngapminaa
open Go.RowKit Go.Mv Mvp Mvq
theorem z_ch : (Try.prog.info? 115).map (·.zero) = some (some (.agg #[.slice none 0 0, .int .i64 0])) := by kernel_rfl
/-- bytes of a call's own, from any place on -/
def OwnU (w : World) (v : Value) (l : List UInt8) : Prop := Own w 0 5 1 v l.length (bs l)
theorem OwnU.part {w : World} {v : Value} {l : List UInt8} (h : OwnU w v l) : BPart w v l := Own.part h
theorem OwnU.still {w w' : World} {v : Value} {l : List UInt8} (h : OwnU w v l) (hf : Fr Nob w w') : OwnU w' v l := Own.still h hf
theorem OwnU.nil (w : World) : OwnU w (.slice none 0 0) [] := Own.nil _ _ _ _
attribute [local irreducible] limbs lw mix cw cSub cAdd cMul foldC valFrom beN laid be32 powm montT mstep elN mdL numB rtV rtOk wrPt rdOk rdPt numsB rdsB sumE sumS pmul
set_option maxHeartbeats 8000000 in
set_option maxRecDepth 1000000 in
theorem then_plus (g2 g3 : Nat) (a : Option Addr) (n c : Nat) (w : World) (l : List UInt8) (z : Int) (hop : ∀ wx, Fr Nob w wx → Calls Try.prog 112 #[.slice a n c, .pointer (some ⟨g2, 0, none⟩), .pointer (some ⟨g3, 0, none⟩)] wx fun e w' => ∃ v, e = .returned (.tuple #[v, .int .i64 z]) ∧ OwnU w' v l ∧ Fr Nob wx w') :
    Calls Try.prog 75 #[chV a n c 0, .func (.func 112) #[] #[.pointer (some ⟨g2, 0, none⟩), .pointer (some ⟨g3, 0, none⟩)]] w fun e w' => ∃ a' c', e = .returned (chV a' l.length c' z) ∧ OwnU w' (.slice a' l.length c') l ∧ Fr Nob w w' := by
  have HOP := Lib.hid hop
  clear hop
  have st0 := St.start Nob w
  go_enter Try.func75, Try.ntmps75
  go_wp2_with (with_reducible refine wl_stop (o := ⟨some 2, _, _, _, _, _⟩) ?_)
  refine wl_boxS st0 rfl rfl rfl [.slice a n c, .int .i64 0] rfl ?_
  intro g2 w1 st1
  clear st0
  go_wp2_with (with_reducible refine wl_stop (o := ⟨some 4, _, _, _, _, _⟩) ?_)
  refine wl_allocS st1 rfl rfl z_ch [.slice none 0 0, .int .i64 0] rfl ?_
  intro g4 w2 st2
  clear st1
  have hc0 := (st2.at 0 rfl).cell (show [Value.slice a n c, .int .i64 0][0]? = _ from rfl)
  have hc1 := (st2.at 0 rfl).cell (show [Value.slice a n c, .int .i64 0][1]? = _ from rfl)
  go_wp2_with fail
  refine (HOP.out _ st2.fr).mono ?_
  rintro e' w3 ⟨v, rfl, ho, hf⟩
  have st3 := st2.keep hf
  clear hf st2 hc0 hc1
  obtain ⟨a', c', hv, -⟩ := Own.form ho
  subst hv
  have h4 := st3.at 1 rfl
  have HNE := Lib.hid (Own.ne ho h4 (by decide))
  have HO := Lib.hid ho
  have H4 := Lib.hid h4
  have HF := Lib.hid st3.fr
  have HGE := Lib.hid (st3.own _ (List.mem_cons_of_mem _ List.mem_cons_self))
  clear ho h4 st3
  go_wp2_with (with_reducible refine wl_stop (o := ⟨some 20, _, _, _, _, _⟩) ?_)
  refine wl_buildL rfl rfl _ (built_ch2 a' l.length c' z) ?_
  go_wp2_with (with_reducible refine wl_stop (o := ⟨none, _, _, _, _, _⟩) ?_)
  refine wl_storeA (cs := [.slice a' l.length c', .int .i64 z]) rfl rfl rfl rfl H4.out (by simp) (by kernel_rfl) (one_ch _ _ _ _) ?_
  intro w9 hg9 hf9 hz9
  clear hz9
  have ho9 : OwnU w9 (.slice a' l.length c') l := Own.keep HO.out hf9 (fun k hk e => HNE.out (by have e2 : k = g4 := e; rw [← e2]; exact hk))
  have HO9 := Lib.hid ho9
  have HF9 := Lib.hid (HF.out.new hf9 (HGE.out.resolve_right (fun h => h.elim)))
  clear hf9 ho9
  go_wp2_with fail
  exact bodyPost_ret (results_st rfl rfl hg9 Try.underlying115 rfl (by kernel_rfl)) rfl ⟨a', c', rfl, HO9.out, HF9.out⟩

set_option maxHeartbeats 8000000 in
set_option maxRecDepth 1000000 in
theorem btold_ok (a : Option Addr) (n c : Nat) (w : World) :
    Calls Try.prog 78 #[chV a n c 0] w fun e w' => e = .returned (.tuple #[.slice a n c, .int .i64 0]) ∧ Fr Nob w w' := by
  have st0 := St.start Nob w
  go_enter Try.func78, Try.ntmps78
  go_wp2_with (with_reducible refine wl_stop (o := ⟨some 1, _, _, _, _, _⟩) ?_)
  refine wl_boxS st0 rfl rfl rfl [.slice a n c, .int .i64 0] rfl ?_
  intro g1 w1 st1
  clear st0
  have hc0 := (st1.at 0 rfl).cell (show [Value.slice a n c, .int .i64 0][0]? = _ from rfl)
  have hc1 := (st1.at 0 rfl).cell (show [Value.slice a n c, .int .i64 0][1]? = _ from rfl)
  have hfr := st1.fr
  clear st1
  go_wp2_with fail
  go_ret2
  exact ⟨rfl, hfr⟩

set_option maxHeartbeats 8000000 in
set_option maxRecDepth 1000000 in
theorem btold_bad (a : Option Addr) (n c : Nat) (z : Int) (hz : (z != 0) = true) (w : World) :
    Calls Try.prog 78 #[chV a n c z] w fun e w' => e = .returned (.tuple #[.slice none 0 0, .int .i64 z]) ∧ Fr Nob w w' := by
  have st0 := St.start Nob w
  go_enter Try.func78, Try.ntmps78
  go_wp2_with (with_reducible refine wl_stop (o := ⟨some 1, _, _, _, _, _⟩) ?_)
  refine wl_boxS st0 rfl rfl rfl [.slice a n c, .int .i64 z] rfl ?_
  intro g1 w1 st1
  clear st0
  have hc0 := (st1.at 0 rfl).cell (show [Value.slice a n c, .int .i64 z][0]? = _ from rfl)
  have hc1 := (st1.at 0 rfl).cell (show [Value.slice a n c, .int .i64 z][1]? = _ from rfl)
  have hc1d : ∀ q, (w1.drewN q).cell? ⟨g1, 0 + 1, none⟩ = some (.int .i64 z) := fun q => hc1
  have hfr := st1.fr
  clear st1
  go_wp2_with fail
  go_quiet (fail)
  go_wp2_with fail
  go_ret2
  exact ⟨rfl, hfr.drewN _⟩
end Go.Proofs.Ytdbgddngapminaa

/- The curve has as many points as the second prime tells: each point, so many times, is nothing. (What lies beside the base's multiples would make three times as many points, and there are at most two for each first coordinate.) -/
namespace Mvq
open Mvp
/-- forces a number -/
def frc {α : Type} (n : Nat) (f : Nat → α) : α := Nat.rec (f 0) (fun k _ => f (k + 1)) n
theorem frc_eq {α : Type} (n : Nat) (f : Nat → α) : frc n f = f n := by cases n <;> rfl
def hX : Nat := 0x79BE667EF9DCBBAC55A06295CE870B07029BFCDB2DCE28D959F2815B16F81798
def hY : Nat := 0x483ADA7726A3C4655DA4FBFC0E1108A8FD17B448A68554199C47D08FFB10D4B8
def hP : Pt := .A (kc hX) (kc hY)
theorem hP_on : onC hP := by
  show kc hY * kc hY = kc hX * kc hX * kc hX + 7
  decide
abbrev qN : Nat := 115792089237316195423570985008687907852837564279074904382605163141518161494337
theorem qN_pQ : qN = pQ := by decide
/-- up the exponent's bits, in fractions -/
def climbB (e : Nat) : Nat → Nat → Nat → Nat → Bool
  | 0, X, Y, Z => !(Z % fP == 0) && X % fP == hX * Z % fP && (Y + hY * Z) % fP == 0
  | k + 1, X, Y, Z =>
    !(Z % fP == 0) &&
    frc (3 * (X * X) % fP) fun d => frc (2 * Y * Z % fP) fun u => frc (u * u % fP) fun uu => frc (uu * u % fP) fun uuu => frc ((d * d * Z + (fP - 2 * X * uu % fP)) % fP) fun t =>
    frc (u * t % fP) fun X' => frc ((d * (X * uu + (fP - t % fP)) + (fP - Y * uuu % fP)) % fP) fun Y' => frc (uuu * Z % fP) fun Z' =>
    if e / 2 ^ k % 2 = 1 then
      !(Z' % fP == 0) && 
      frc ((hY * Z' + (fP - Y' % fP)) % fP) fun d => frc ((hX * Z' + (fP - X' % fP)) % fP) fun u => !(u % fP == 0) && frc (u * u % fP) fun uu => frc (uu * u % fP) fun uuu => frc ((d * d * Z' + (fP - uuu % fP) + (fP - 2 * X' * uu % fP)) % fP) fun t =>
      frc (u * t % fP) fun X2 => frc ((d * (X' * uu + (fP - t % fP)) + (fP - Y' * uuu % fP)) % fP) fun Y2 => frc (uuu * Z' % fP) fun Z2 => climbB e k X2 Y2 Z2
    else climbB e k X' Y' Z'
theorem climbed : climbB (qN - 1) 255 hX hY 1 = true := by decide +kernel
theorem kc_eqb (a b : Nat) (h : a % fP = b % fP) : kc a = kc b := by rw [← kc_mod a, h, kc_mod]
theorem kc_ne (a : Nat) (h : a % fP ≠ 0) : kc a ≠ 0 := by
  intro e
  have := kc_eqz a
  rw [e, decide_eq_true rfl] at this
  exact h (by simpa using this)
theorem kc_m (a : Nat) : kc (a % fP) = kc a := kc_mod a
theorem climb_ok (e : Nat) : ∀ (k X Y Z : Nat), climbB e k X Y Z = true → nm (kc X) (kc Y) (kc Z) = pmul (e / 2 ^ k) hP → pmul e hP = pneg hP
  | 0, X, Y, Z, h, hp => by
    simp only [climbB, Bool.and_eq_true, Bool.not_eq_true', beq_iff_eq, beq_eq_false_iff_ne, ne_eq] at h
    obtain ⟨⟨hz, hx⟩, hy⟩ := h
    rw [Nat.pow_zero, Nat.div_one] at hp
    rw [← hp]
    have hx' := kc_eqb _ _ hx
    rw [kc_mul'] at hx'
    have hy' : kc (Y + hY * Z) = 0 := by
      have := kc_eqz (Y + hY * Z)
      rw [hy] at this
      simpa using this
    rw [kc_addn, kc_mul'] at hy'
    exact nm_is (kc_ne _ hz) hx' (by grind -lia -linarith)
  | k + 1, X, Y, Z, h, hp => by
    have hon : onC (nm (kc X) (kc Y) (kc Z)) := by rw [hp]; exact pmul_on hP_on _
    simp only [climbB, frc_eq, Bool.and_eq_true, Bool.not_eq_true', beq_eq_false_iff_ne, ne_eq] at h
    obtain ⟨hz, h⟩ := h
    have hd := rk_double hon (kc_ne _ hz) _ _ _ _ _ _ rfl rfl rfl rfl rfl rfl
    rw [hp] at hd
    have hbit := pmul_bit hP_on e k
    generalize hd0 : 3 * (X * X) % fP = d at h
    generalize hu0 : 2 * Y * Z % fP = u at h
    generalize huu : u * u % fP = uu at h
    generalize huuu : uu * u % fP = uuu at h
    generalize ht : (d * d * Z + (fP - 2 * X * uu % fP)) % fP = t at h
    generalize hX' : u * t % fP = X' at h
    generalize hY' : (d * (X * uu + (fP - t % fP)) + (fP - Y * uuu % fP)) % fP = Y' at h
    generalize hZ' : uuu * Z % fP = Z' at h
    have k2 : kc 2 = 2 := by decide
    have k3' : kc 3 = 3 := by decide
    have d1 : kc d = 3 * (kc X * kc X) := by rw [← hd0, kc_m, kc_mul', kc_mul', k3']
    have u1 : kc u = 2 * kc Y * kc Z := by rw [← hu0, kc_m, kc_mul', kc_mul', k2]
    have uu1 : kc uu = kc u * kc u := by rw [← huu, kc_m, kc_mul']
    have uuu1 : kc uuu = kc uu * kc u := by rw [← huuu, kc_m, kc_mul']
    have t1 : kc t = kc d * kc d * kc Z - 2 * kc X * kc uu := by rw [← ht, kc_m, kc_subn, kc_mul', kc_mul', kc_mul', kc_mul', k2]
    have X1 : kc X' = kc u * kc t := by rw [← hX', kc_m, kc_mul']
    have Y1 : kc Y' = kc d * (kc X * kc uu - kc t) - kc Y * kc uuu := by rw [← hY', kc_m, kc_subn, kc_mul', kc_subn, kc_mul', kc_mul']
    have Z1 : kc Z' = kc uuu * kc Z := by rw [← hZ', kc_m, kc_mul']
    rw [← d1, ← u1, ← uu1, ← uuu1, ← t1, ← X1, ← Y1, ← Z1] at hd
    rw [← hd] at hbit
    clear d1 u1 uu1 uuu1 t1 X1 Y1 Z1 hd0 hu0 huu huuu ht hX' hY' hZ'
    have hon' : onC (nm (kc X') (kc Y') (kc Z')) := by rw [hd]; exact padd_on (pmul_on hP_on _) (pmul_on hP_on _)
    by_cases hb : e / 2 ^ k % 2 = 1
    · rw [if_pos hb] at h hbit
      simp only [Bool.and_eq_true, Bool.not_eq_true', beq_eq_false_iff_ne, ne_eq] at h
      obtain ⟨hz', hu', h⟩ := h
      have one : kc 1 = 1 := by decide
      have hnP : nm (kc hX) (kc hY) (kc 1) = hP := nm_is (by decide) (by rw [one]; grind -lia -linarith) (by rw [one]; grind -lia -linarith)
      have hs := rk_plus (X2 := kc hX) (Y2 := kc hY) (Z2 := kc 1) hon' (by rw [hnP]; exact hP_on) (kc_ne _ hz') (by decide) (kc (hY * Z')) (kc (hX * Z')) (kc Y') (kc X') (kc (hY * Z') - kc Y') (kc (hX * Z') - kc X') (kc Z') _ _ _ (kc_mul' _ _) (kc_mul' _ _) (by rw [one]; grind -lia -linarith) (by rw [one]; grind -lia -linarith) rfl rfl
        (by rw [← kc_subn]; exact kc_ne _ (by rw [Nat.mod_mod] at hu'; exact hu')) (by rw [one]; grind -lia -linarith) rfl rfl rfl
      rw [hnP] at hs
      generalize hd0 : (hY * Z' + (fP - Y' % fP)) % fP = d at h
      generalize hu0 : (hX * Z' + (fP - X' % fP)) % fP = u at h
      generalize huu : u * u % fP = uu at h
      generalize huuu : uu * u % fP = uuu at h
      generalize ht : (d * d * Z' + (fP - uuu % fP) + (fP - 2 * X' * uu % fP)) % fP = t at h
      have d1 : kc d = kc (hY * Z') - kc Y' := by rw [← hd0, kc_m, kc_subn]
      have u1 : kc u = kc (hX * Z') - kc X' := by rw [← hu0, kc_m, kc_subn]
      have uu1 : kc uu = kc u * kc u := by rw [← huu, kc_m, kc_mul']
      have uuu1 : kc uuu = kc uu * kc u := by rw [← huuu, kc_m, kc_mul']
      have t1 : kc t = kc d * kc d * kc Z' - kc uuu - 2 * kc X' * kc uu := by rw [← ht, kc_m, kc_subn, kc_subn, kc_mul', kc_mul', kc_mul', kc_mul', k2]
      rw [← d1, ← u1, ← uu1, ← uuu1, ← t1] at hs
      refine climb_ok e k _ _ _ h ?_
      rw [hbit, ← hs, kc_m, kc_m, kc_m, kc_mul', kc_subn, kc_mul', kc_subn, kc_mul', kc_mul', kc_mul']
    · rw [if_neg hb] at h hbit
      rw [padd_zero] at hbit
      exact climb_ok e k _ _ _ h hbit.symm
theorem q_base : pmul qN hP = .O := by
  have one : kc 1 = 1 := by decide
  have hnP : nm (kc hX) (kc hY) (kc 1) = hP := nm_is (by decide) (by rw [one]; grind -lia -linarith) (by rw [one]; grind -lia -linarith)
  have h := climb_ok (qN - 1) 255 hX hY 1 climbed (by rw [hnP, show (qN - 1) / 2 ^ 255 = 1 by decide]; rfl)
  have e : qN = (qN - 1) + 1 := by decide
  rw [e]
  show padd (pmul (qN - 1) hP) hP = .O
  rw [h, padd_comm]
  exact padd_neg
/- the group's plain laws -/
theorem padd_cancel {a b c : Pt} (ha : onC a) (hb : onC b) (hc : onC c) (h : padd a b = padd a c) : b = c := by
  have h1 : padd (pneg a) (padd a b) = padd (pneg a) (padd a c) := by rw [h]
  rw [← padd_assoc (pneg_on ha) ha hb, ← padd_assoc (pneg_on ha) ha hc, padd_comm (pneg a) a, padd_neg] at h1
  exact h1
theorem pneg_uniq {a b : Pt} (ha : onC a) (hb : onC b) (h : padd a b = .O) : b = pneg a := padd_cancel ha hb (pneg_on ha) (by rw [h, padd_neg])
theorem no_two {p : Pt} (hp : onC p) (h : padd p p = .O) : p = .O := by
  have e := pneg_uniq hp hp h
  cases p with
  | O => rfl
  | A x y =>
    exfalso
    have hy : y = -y := by
      have : Pt.A x y = Pt.A x (-y) := e
      injection this
    have h2 : (2 : K) * y = 0 := by grind -lia -linarith
    exact (mul_zero' h2).elim two_ne (y_ne hp)
theorem padd_swap {a b c d : Pt} (ha : onC a) (hb : onC b) (hc : onC c) (hd : onC d) : padd (padd a b) (padd c d) = padd (padd a c) (padd b d) := by
  rw [padd_assoc ha hb (padd_on hc hd), ← padd_assoc hb hc hd, padd_comm b c, padd_assoc hc hb hd, ← padd_assoc ha hc (padd_on hb hd)]
/-- a multiple of the base -/
def InH (p : Pt) : Prop := ∃ n, p = pmul n hP
theorem InH.on {p : Pt} (h : InH p) : onC p := by obtain ⟨n, rfl⟩ := h; exact pmul_on hP_on n
theorem InH.add {p q : Pt} (h : InH p) (k : InH q) : InH (padd p q) := by
  obtain ⟨m, rfl⟩ := h
  obtain ⟨n, rfl⟩ := k
  exact ⟨m + n, (pmul_add hP_on m n).symm⟩
theorem q_mul (n : Nat) : pmul (qN * n) hP = .O := by rw [pmul_mul hP_on, q_base, pmul_O]
theorem InH.neg {p : Pt} (h : InH p) : InH (pneg p) := by
  obtain ⟨n, rfl⟩ := h
  refine ⟨(qN - 1) * n, (pneg_uniq (pmul_on hP_on n) (pmul_on hP_on _) ?_).symm⟩
  rw [← pmul_add hP_on, show n + (qN - 1) * n = qN * n by have h := Nat.add_mul 1 (qN - 1) n; rw [Nat.one_mul, show 1 + (qN - 1) = qN by decide] at h; exact h.symm, q_mul]
theorem InH.half {p : Pt} (hp : onC p) (h : InH (padd p p)) : InH p := by
  obtain ⟨n, hn⟩ := h
  have hm : onC (pmul (n * ((qN + 1) / 2)) hP) := pmul_on hP_on _
  have e : padd (pmul (n * ((qN + 1) / 2)) hP) (pmul (n * ((qN + 1) / 2)) hP) = pmul n hP := by
    rw [← pmul_add hP_on, ← Nat.mul_add, show (qN + 1) / 2 + (qN + 1) / 2 = qN + 1 by decide, Nat.mul_add, Nat.mul_one, pmul_add hP_on, Nat.mul_comm n, q_mul]
    rfl
  refine ⟨n * ((qN + 1) / 2), ?_⟩
  have h2 : padd (padd p (pneg (pmul (n * ((qN + 1) / 2)) hP))) (padd p (pneg (pmul (n * ((qN + 1) / 2)) hP))) = .O := by
    rw [padd_swap hp (pneg_on hm) hp (pneg_on hm), hn, ← e, padd_swap hm hm (pneg_on hm) (pneg_on hm), padd_neg]
    rfl
  have h3 := no_two (padd_on hp (pneg_on hm)) h2
  have h4 : padd (pneg (pmul (n * ((qN + 1) / 2)) hP)) p = padd (pneg (pmul (n * ((qN + 1) / 2)) hP)) (pmul (n * ((qN + 1) / 2)) hP) := by
    rw [padd_comm, h3, padd_comm, padd_neg]
  exact padd_cancel (pneg_on hm) hp hm h4
theorem base_inj {i j : Nat} (hi : i < qN) (hj : j < qN) (h : pmul i hP = pmul j hP) : i = j := by
  have key : ∀ i j : Nat, j < qN → i < j → pmul i hP = pmul j hP → False := by
    intro i j hj hij h
    have hd : pmul (j - i) hP = .O := by
      refine padd_cancel (pmul_on hP_on i) (pmul_on hP_on _) trivial ?_
      rw [← pmul_add hP_on, show i + (j - i) = j by omega, ← h, padd_zero]
    have hq := qN_pQ
    have hinv := FP.inv FP_Q (a := j - i) (by omega) (by omega)
    have e1 : pmul ((j - i) * ((j - i) ^ (pQ - 2) % pQ)) hP = .O := by rw [pmul_mul hP_on, hd, pmul_O]
    generalize (j - i) * ((j - i) ^ (pQ - 2) % pQ) = m at *
    rw [← hq] at hinv
    have hm := Nat.div_add_mod m qN
    rw [hinv] at hm
    rw [← hm, pmul_add hP_on, q_mul] at e1
    have e2 : padd (.O) (pmul 1 hP) = hP := rfl
    rw [e2] at e1
    cases e1
  rcases Nat.lt_trichotomy i j with k | k | k
  · exact (key i j hj k h).elim
  · exact k
  · exact (key j i hi k h.symm).elim
/-- no two in one place -/
theorem pig (N B : Nat) (g : Nat → Nat) (hb : ∀ a, a < N → g a < B) (hi : ∀ a b, a < N → b < N → g a = g b → a = b) : N ≤ B := by
  have hnd : ((List.range N).map g).Nodup := by
    refine List.pairwise_map.2 ?_
    have h0 : (List.range N).Nodup := List.nodup_range
    refine List.Pairwise.imp_of_mem (fun {a b} ha hb' hne => ?_) h0
    exact fun e => hne (hi a b (List.mem_range.1 ha) (List.mem_range.1 hb') e)
  have hs : (List.range N).map g ⊆ List.range B := by
    intro x hx
    obtain ⟨a, ha, rfl⟩ := List.mem_map.1 hx
    exact List.mem_range.2 (hb a (List.mem_range.1 ha))
  have := List.Nodup.length_le_of_subset hnd hs
  simpa using this
/-- a point's number -/
def enc : Pt → Nat
  | .O => 0
  | .A x y => 1 + 2 * x.val + y.val % 2
theorem enc_lt (p : Pt) : enc p < 2 * fP + 1 := by
  cases p with
  | O => show 0 < 2 * fP + 1; omega
  | A x y => have := x.isLt; show 1 + 2 * x.val + y.val % 2 < 2 * fP + 1; omega
theorem enc_inj {p q : Pt} (hp : onC p) (hq : onC q) (h : enc p = enc q) : p = q := by
  cases p with
  | O => cases q with
    | O => rfl
    | A x y => have h' : 0 = 1 + 2 * x.val + y.val % 2 := h; omega
  | A x y => cases q with
    | O => have h' : 1 + 2 * x.val + y.val % 2 = 0 := h; omega
    | A x' y' =>
      have h' : 1 + 2 * x.val + y.val % 2 = 1 + 2 * x'.val + y'.val % 2 := h
      have hx : x = x' := Fin.ext (by omega)
      have hy : y.val % 2 = y'.val % 2 := by omega
      subst hx
      have hp' : y * y = x * x * x + 7 := hp
      have hq' : y' * y' = x * x * x + 7 := hq
      rcases sq_same (hp'.trans hq'.symm) with e | e
      · rw [e]
      · exfalso
        rw [e, neg_val_par y' (y_ne hq')] at hy
        omega
theorem three_q : ¬ 3 * qN ≤ 2 * fP + 1 := by decide
/-- each point is a multiple of the base -/
theorem all_H {p : Pt} (hp : onC p) : InH p := by
  refine Classical.byContradiction fun hn => ?_
  have hnp := pneg_on hp
  let c : Nat → Pt := fun k => if k = 0 then .O else if k = 1 then p else pneg p
  have hc : ∀ k, onC (c k) := fun k => by
    show onC (if k = 0 then .O else if k = 1 then p else pneg p)
    split
    · trivial
    · split
      · exact hp
      · exact hnp
  -- two of the three lie apart by no multiple of the base
  have hsub : ∀ a b : Pt, onC a → onC b → ∀ i j, padd a (pmul i hP) = padd b (pmul j hP) → InH (padd a (pneg b)) := by
    intro a b ha hb i j h
    have hI := pmul_on hP_on i
    have hJ := pmul_on hP_on j
    obtain ⟨m, hm⟩ := InH.add (p := pmul j hP) (q := pneg (pmul i hP)) ⟨j, rfl⟩ (InH.neg ⟨i, rfl⟩)
    refine ⟨m, ?_⟩
    rw [← hm]
    have e1 : padd (padd a (pmul i hP)) (padd (pneg b) (pneg (pmul i hP))) = padd (padd b (pmul j hP)) (padd (pneg b) (pneg (pmul i hP))) := by rw [h]
    rw [padd_swap ha hI (pneg_on hb) (pneg_on hI), padd_swap hb hJ (pneg_on hb) (pneg_on hI), padd_neg, padd_neg, padd_zero] at e1
    exact e1
  have hdiff : ∀ k l, k < 3 → l < 3 → InH (padd (c k) (pneg (c l))) → k = l := by
    have h0 : c 0 = .O := rfl
    have h1 : c 1 = p := rfl
    have h2 : c 2 = pneg p := rfl
    have nn : pneg (pneg p) = p := (pneg_uniq hnp hp (by rw [padd_comm, padd_neg])).symm
    have hneg : InH (pneg p) → InH p := fun h => by have := h.neg; rwa [nn] at this
    intro k l hk hl h
    have hk3 : k = 0 ∨ k = 1 ∨ k = 2 := by omega
    have hl3 : l = 0 ∨ l = 1 ∨ l = 2 := by omega
    rcases hk3 with rfl | rfl | rfl <;> rcases hl3 with rfl | rfl | rfl <;> try rfl
    · rw [h0, h1] at h; exact (hn (hneg h)).elim
    · rw [h0, h2, nn] at h; exact (hn h).elim
    · rw [h0, h1] at h; exact (hn (by have h' : InH (padd p .O) := h; rwa [padd_zero] at h')).elim
    · rw [h1, h2, nn] at h; exact (hn (InH.half hp h)).elim
    · rw [h0, h2] at h; exact (hn (hneg (by have h' : InH (padd (pneg p) .O) := h; rwa [padd_zero] at h'))).elim
    · rw [h1, h2] at h; exact (hn (hneg (InH.half hnp h))).elim
  have hq : 0 < qN := by decide
  have h3 := three_q
  generalize hqn : qN = q at hq h3
  refine h3 (pig (3 * q) (2 * fP + 1) (fun m => enc (padd (c (m / q)) (pmul (m % q) hP))) (fun a _ => enc_lt _) ?_)
  intro a b ha hb h
  have ha3 : a / q < 3 := Nat.div_lt_of_lt_mul (by rw [Nat.mul_comm]; exact ha)
  have hb3 : b / q < 3 := Nat.div_lt_of_lt_mul (by rw [Nat.mul_comm]; exact hb)
  have e := enc_inj (padd_on (hc _) (pmul_on hP_on _)) (padd_on (hc _) (pmul_on hP_on _)) h
  have ek := hdiff _ _ ha3 hb3 (hsub _ _ (hc _) (hc _) _ _ e)
  rw [ek] at e
  have e2 := padd_cancel (hc _) (pmul_on hP_on _) (pmul_on hP_on _) e
  have hma := Nat.mod_lt a hq
  have hmb := Nat.mod_lt b hq
  rw [← hqn] at hma hmb e2
  have e3 := base_inj hma hmb e2
  rw [hqn] at e3
  rw [← Nat.div_add_mod a q, ← Nat.div_add_mod b q, ek, e3]
/-- each point, so many times, is nothing -/
theorem pmul_q {p : Pt} (hp : onC p) : pmul qN p = .O := by
  obtain ⟨n, rfl⟩ := all_H hp
  rw [← pmul_mul hP_on, Nat.mul_comm, q_mul]
theorem pmul_mod {p : Pt} (hp : onC p) (n : Nat) : pmul (n % qN) p = pmul n p := by
  have h := Nat.div_add_mod n qN
  conv => rhs; rw [← h, pmul_add hp, pmul_mul hp, pmul_q hp, pmul_O]
  rfl
theorem pmul_neg {p : Pt} (hp : onC p) (n : Nat) : pmul (qN - n % qN) p = pneg (pmul n p) := by
  refine pneg_uniq (pmul_on hp n) (pmul_on hp _) ?_
  rw [← pmul_mod hp n, ← pmul_add hp]
  have := Nat.mod_lt n (show 0 < qN by decide)
  rw [show n % qN + (qN - n % qN) = qN by omega, pmul_q hp]
end Mvq

/- SigmaSound, plain: bytes that are a point are written so; two answers to two challenges give the secret. -/
namespace Mvp
theorem beN_inj : ∀ (n : Nat) (l m : List UInt8), l.length = n → m.length = n → beN l = beN m → l = m := by
  intro n
  induction n with
  | zero => intro l m hl hm _; rw [List.length_eq_zero_iff.1 hl, List.length_eq_zero_iff.1 hm]
  | succ n ih =>
    intro l m hl hm h
    obtain ⟨a, x, rfl⟩ : ∃ a x, l = a ++ [x] := by
      rcases List.eq_nil_or_concat l with h | ⟨a, x, h⟩
      · subst h; simp at hl
      · exact ⟨a, x, by simpa using h⟩
    obtain ⟨b, y, rfl⟩ : ∃ b y, m = b ++ [y] := by
      rcases List.eq_nil_or_concat m with h | ⟨a, x, h⟩
      · subst h; simp at hm
      · exact ⟨a, x, by simpa using h⟩
    rw [beN_snoc, beN_snoc] at h
    have hx := x.toNat_lt
    have hy := y.toNat_lt
    have e : beN a = beN b := by omega
    have e2 : x.toNat = y.toNat := by omega
    rw [ih a b (by simpa using hl) (by simpa using hm) e, UInt8.toNat_inj.1 e2]
theorem beN_zero {l : List UInt8} (h : beN l = 0) : l = List.replicate l.length 0 := by
  refine beN_inj l.length _ _ rfl (by simp) ?_
  rw [h]
  generalize l.length = n
  induction n with
  | zero => rfl
  | succ n ih => rw [List.replicate_succ', beN_snoc, ← ih]; rfl
end Mvp
namespace Mvq
open Mvp
end Mvq

/- The reference's Same, and its Base of layer 5. -/
namespace Go.Proofs.Ytdbgddngapminaa
open Go.RowKit Go.Mv Mvp Mvq
attribute [local irreducible] limbs lw mix cw cSub cAdd cMul foldC valFrom beN laid be32 powm montT mstep elN mdL numB rtV rtOk kN kc kinv wrPt addR noR negR timesR tmsR RT.L
end Go.Proofs.Ytdbgddngapminaa

/- The law SigmaExtracts. -/
namespace Mvp
end Mvp
namespace Go.Proofs.Ytdbgddngapminaa
open Go.RowKit Go.Mv Mvp
theorem BPart.ofOwn {w : World} {base : Nat} {v : Value} {n : Nat} {l : List UInt8} (h : Own w base 5 1 v n (bs l)) : BPart w v l := by
  obtain ⟨a, c, rfl, hc, hr, -⟩ := h.form
  exact ⟨a, n, c, rfl, hc, by rw [Nat.mul_one] at hr; exact hr⟩
attribute [local irreducible] limbs lw mix cw cSub cAdd cMul foldC valFrom beN laid be32 powm montT mstep elN mdL numsB numB
end Go.Proofs.Ytdbgddngapminaa

/- GroupLaw, plain: the law's numbers; contracts at points that are known to be points. -/
namespace Mvp
theorem beN_cons (x : UInt8) (l : List UInt8) : beN (x :: l) = x.toNat * 256 ^ l.length + beN l := by
  have := beN_append [x] l
  simpa [beN] using this
end Mvp
namespace Go.Proofs.Ytdbgddngapminaa
open Go.RowKit Go.Mv Mvp Mvq
/-- a slice of the call's own that reads as a point's bytes -/
def PtB (w : World) (a : Option Addr) (c : Nat) (p : Pt) : Prop := BPart w (.slice a 33 c) (wrPt p)
theorem PtB.still {w w' : World} {a : Option Addr} {c : Nat} {p : Pt} (h : PtB w a c p) (hf : Fr Nob w w') : PtB w' a c p := BPart.still h hf
theorem PtB.of {w w' : World} {v : Value} {p : Pt} (h : OwnB1 w w' v (wrPt p)) : ∃ a c, v = .slice a 33 c ∧ PtB w' a c p := by
  obtain ⟨a, n, c, rfl, hc, hr⟩ := h.part
  have : n = 33 := by have := hr.len; rw [wrPt_len] at this; exact this.symm
  subst this
  exact ⟨a, c, rfl, a, 33, c, rfl, hc, hr⟩
end Go.Proofs.Ytdbgddngapminaa

/- The law SigmaSound. -/
namespace Go.Proofs.Ytdbgddngapminaa
open Go.RowKit Go.Mv Mvp Mvq
theorem qN_mQ : mQ.M = qN := by decide
theorem RScalar_u (s : ByteArray) (w : World) : Calls Try.prog 71 #[.string s] w fun e w' => ∃ N : Nat, e = .returned (.tuple #[i4 N, .bool (numB mQ s.data.toList)]) ∧ (numB mQ s.data.toList = true → N = beN s.data.toList) ∧ Fr Nob w w' := by
  cases h : numB mQ s.data.toList
  · exact (Scalar_f mQ .one s w h).mono fun e w' ⟨N, k1, k2⟩ => ⟨N, k1, fun h => (by cases h), k2⟩
  · exact (Scalar_t mQ .one s w h).mono fun e w' k => ⟨_, k.1, fun _ => rfl, k.2⟩
attribute [local irreducible] limbs lw mix cw cSub cAdd cMul foldC valFrom beN laid be32 powm montT mstep elN mdL numB rtV rtOk kN kc kinv wrPt addR noR negR timesR tmsR RT.L gXn gYn rpL rdOk rdPt rdR
end Go.Proofs.Ytdbgddngapminaa

/- blind: Unblind; the reference's; the law BlindUndoes. -/
namespace Go.Proofs.Ytdbgddngapminaa
open Go.RowKit Go.Mv Mvp Mvq
theorem be_mod (x : Nat) : beN (be32 (x % mQ.M)) = x % mQ.M := beN_be32 _ (Nat.lt_trans (Nat.mod_lt x (by decide)) (by decide))
theorem numB_mod (x : Nat) : numB mQ (be32 (x % mQ.M)) = true := by
  unfold numB
  rw [be32_len, be_mod, decide_eq_true rfl, decide_eq_true (Nat.mod_lt x (by decide))]
  rfl
theorem sum2_E (x y : Nat) (l1 l2 : List UInt8) : sumE [be32 (x % mQ.M), be32 (y % mQ.M)] [l1, l2] = if (rdOk l1 && rdOk l2) = true then 0 else 4 := by
  have hn : numsB mQ [be32 (x % mQ.M), be32 (y % mQ.M)] = true := by unfold numsB; simp only [List.all_cons, List.all_nil, numB_mod, Bool.and_self]
  have hr : rdsB [l1, l2] = (rdOk l1 && rdOk l2) := by unfold rdsB; simp only [List.all_cons, List.all_nil, Bool.and_true]
  have e1 : [be32 (x % mQ.M), be32 (y % mQ.M)].length = [l1, l2].length := rfl
  have e2 : [be32 (x % mQ.M), be32 (y % mQ.M)].length ≤ 512 := by simp
  unfold sumE
  rw [if_pos e1, if_pos e2, hn, hr]
  rfl
theorem sum2_S (x y : Nat) (l1 l2 : List UInt8) : sumS [be32 (x % mQ.M), be32 (y % mQ.M)] [l1, l2] = if (rdOk l1 && rdOk l2) = true then wrPt (padd (pmul x (rdPt l1)) (pmul y (rdPt l2))) else [] := by
  have hn : numsB mQ [be32 (x % mQ.M), be32 (y % mQ.M)] = true := by unfold numsB; simp only [List.all_cons, List.all_nil, numB_mod, Bool.and_self]
  have hr : rdsB [l1, l2] = (rdOk l1 && rdOk l2) := by unfold rdsB; simp only [List.all_cons, List.all_nil, Bool.and_true]
  have e1 : [be32 (x % mQ.M), be32 (y % mQ.M)].length = [l1, l2].length := rfl
  have e2 : [be32 (x % mQ.M), be32 (y % mQ.M)].length ≤ 512 := by simp
  unfold sumS
  rw [if_pos e1, if_pos e2, hn, hr]
  show (if (rdOk l1 && rdOk l2) = true then _ else _) = _
  by_cases h : (rdOk l1 && rdOk l2) = true
  · rw [if_pos h, if_pos h]
    simp only [Bool.and_eq_true] at h
    have e : smL [be32 (x % mQ.M), be32 (y % mQ.M)] [l1, l2] 2 = [(x % mQ.M, rdPt l1), (y % mQ.M, rdPt l2)] := by
      show [(beN (be32 (x % mQ.M)), rdPt l1), (beN (be32 (y % mQ.M)), rdPt l2)] = _
      rw [be_mod, be_mod]
    show wrPt (psum (smL [be32 (x % mQ.M), be32 (y % mQ.M)] [l1, l2] 2)) = _
    rw [e]
    show wrPt (padd (pmul (x % mQ.M) (rdPt l1)) (padd (pmul (y % mQ.M) (rdPt l2)) .O)) = _
    rw [padd_zero, qN_mQ, pmul_mod (rd_on h.1), pmul_mod (rd_on h.2)]
  · rw [if_neg h, if_neg h]
def unE (r s p : List UInt8) : Int := if numB mQ r = true then (if (rdOk s && rdOk p) = true then 0 else 4) else 3
noncomputable def unS (r s p : List UInt8) : List UInt8 := if numB mQ r = true then (if (rdOk s && rdOk p) = true then wrPt (padd (rdPt s) (pneg (pmul (beN r) (rdPt p)))) else []) else []
theorem pmul_1 (p : Pt) : pmul 1 p = p := rfl
theorem un_ok {r s p : List UInt8} (h : numB mQ r = true) (h2 : (rdOk s && rdOk p) = true) : unE r s p = 0 ∧ unS r s p = wrPt (padd (rdPt s) (pneg (pmul (beN r) (rdPt p)))) := by
  unfold unE unS; rw [if_pos h, if_pos h, if_pos h2, if_pos h2]; exact ⟨rfl, rfl⟩
theorem un_p {r s p : List UInt8} (h : numB mQ r = true) (h2 : ¬ (rdOk s && rdOk p) = true) : unE r s p = 4 ∧ unS r s p = [] := by
  unfold unE unS; rw [if_pos h, if_pos h, if_neg h2, if_neg h2]; exact ⟨rfl, rfl⟩
theorem un_r {r s p : List UInt8} (h : numB mQ r = false) : unE r s p = 3 ∧ unS r s p = [] := by
  unfold unE unS; rw [if_neg (by rw [h]; decide), if_neg (by rw [h]; decide)]; exact ⟨rfl, rfl⟩
attribute [local irreducible] limbs lw mix cw cSub cAdd cMul foldC valFrom beN laid be32 powm montT mstep elN mdL numB rtV rtOk kN kc kinv wrPt addR noR negR timesR tmsR RT.L gXn gYn rpL rdOk rdPt rdR pmul sumE sumS unE unS
set_option maxHeartbeats 16000000 in
set_option maxRecDepth 1000000 in
theorem Unblind_bad (as_ : Option Addr) (ns cs : Nat) (s : List UInt8) (ar : Option Addr) (nr cr : Nat) (r : List UInt8) (vp : Value) (p : List UInt8) (w : World) (hs : BPart w (.slice as_ ns cs) s) (hr : RdB w ar nr r) (hp : BPart w vp p) (hb : numB mQ r = false) :
    Calls Try.prog 33 #[.slice as_ ns cs, .slice ar nr cr, vp] w fun e w' => e = .returned (.tuple #[.slice none 0 0, .int .i64 3]) ∧ Fr Nob w w' := by
  have HS := Lib.hid hs
  have HR := Lib.hid hr
  have HP := Lib.hid hp
  have HB := Lib.hid hb
  clear hs hr hb
  clear hp
  have st0 := St.start Nob w
  go_enter Try.func33, Try.ntmps33
  go_wp2_with fail
  refine (Zof_f mQ .one ar nr cr r _ (HR.out.still st0.fr) HB.out).mono ?_
  rintro e' w1 ⟨rfl, hf1⟩
  have st1 := st0.keep hf1
  clear st0 hf1
  go_wp2_with (with_reducible refine wl_stop (o := ⟨some 8, _, _, _, _, _⟩) ?_)
  refine wl_allocS st1 rfl rfl (z := .agg #[.int .u64 0, .int .u64 0, .int .u64 0, .int .u64 0]) (by kernel_rfl) (cw 4 0) (by rw [cw_zero]; rfl) ?_
  intro g8 w2 st2
  clear st1
  go_wp2_with (with_reducible refine wl_stop (o := ⟨none, _, _, _, _, _⟩) ?_)
  refine wl_storeS st2 0 rfl rfl rfl rfl rfl (by first | (simp only [cw_len]; done) | (simp only [List.length_append, cw_len, RT.len, rpL_len]; done)) (by first | (rw [cw_len]; kernel_rfl) | (rw [RT.len]; kernel_rfl) | (rw [rpL_len]; kernel_rfl) | (simp only [List.length_append, cw_len]; kernel_rfl) | (simp only [List.length_append, cw_len, RT.len, rpL_len]; kernel_rfl)) (cw_one _ _) ?_
  intro w3 st3
  clear st2
  have hfr := st3.fr
  clear st3
  go_wp2_with fail
  go_ret2
  exact ⟨rfl, hfr⟩

set_option maxHeartbeats 16000000 in
set_option maxRecDepth 1000000 in
theorem Unblind_good (as_ : Option Addr) (ns cs : Nat) (s : List UInt8) (ar : Option Addr) (nr cr : Nat) (r : List UInt8) (vp : Value) (p : List UInt8) (w : World) (hs : BPart w (.slice as_ ns cs) s) (hr : RdB w ar nr r) (hp : BPart w vp p) (hb : numB mQ r = true) :
    Calls Try.prog 33 #[.slice as_ ns cs, .slice ar nr cr, vp] w fun e w' => ∃ v, e = .returned (.tuple #[v, .int .i64 (unE r s p)]) ∧ BPart w' v (unS r s p) ∧ Fr Nob w w' := by
  obtain ⟨ap, np, cp, rfl, hcp, hrp⟩ := hp
  have HP2 := Lib.hid (show BPart w (.slice ap np cp) p from ⟨ap, np, cp, rfl, hcp, hrp⟩)
  have HS := Lib.hid hs
  have HR := Lib.hid hr
  have HB := Lib.hid hb
  clear hs hr hb hcp hrp
  have st0 := St.start Nob w
  go_enter Try.func33, Try.ntmps33
  go_wp2_with fail
  refine (Zof_t mQ .one ar nr cr r _ (HR.out.still st0.fr) HB.out).mono ?_
  rintro e' w1 ⟨rfl, hf1⟩
  have st1 := st0.keep hf1
  clear st0 hf1
  go_wp2_with (with_reducible refine wl_stop (o := ⟨some 8, _, _, _, _, _⟩) ?_)
  refine wl_allocS st1 rfl rfl (z := .agg #[.int .u64 0, .int .u64 0, .int .u64 0, .int .u64 0]) (by kernel_rfl) (cw 4 0) (by rw [cw_zero]; rfl) ?_
  intro g8 w2 st2
  clear st1
  go_wp2_with (with_reducible refine wl_stop (o := ⟨none, _, _, _, _, _⟩) ?_)
  refine wl_storeS st2 0 rfl rfl rfl rfl rfl (by first | (simp only [cw_len]; done) | (simp only [List.length_append, cw_len, RT.len, rpL_len]; done)) (by first | (rw [cw_len]; kernel_rfl) | (rw [RT.len]; kernel_rfl) | (rw [rpL_len]; kernel_rfl) | (simp only [List.length_append, cw_len]; kernel_rfl) | (simp only [List.length_append, cw_len, RT.len, rpL_len]; kernel_rfl)) (cw_one _ _) ?_
  intro w3 st3
  clear st2
  go_wp2_with (with_reducible refine wl_stop (o := ⟨some 18, _, _, _, _, _⟩) ?_)
  refine wl_buildL rfl rfl _ (built_ch1 as_ ns cs) ?_
  go_wp2_with (with_reducible refine wl_stop (o := ⟨some 19, _, _, _, _, _⟩) ?_)
  refine wl_loadSt st3 0 rfl rfl rfl Try.underlying107 rfl rfl (by first | (rw [cw_len]; kernel_rfl) | (rw [RT.len]; kernel_rfl) | (rw [rpL_len]; kernel_rfl) | (simp only [List.length_append, cw_len]; kernel_rfl) | (simp only [List.length_append, cw_len, RT.len, rpL_len]; kernel_rfl)) ?_
  go_wp2_with fail
  refine (ZNeg_any mQ .one (beN r) _).mono ?_
  rintro e' w4 ⟨rfl, hf4⟩
  have st4 := st3.keep hf4
  clear st3 hf4
  go_wp2_with fail
  refine (bplus_c (mQ.M - beN r % mQ.M) ap np cp _).mono ?_
  rintro e' w5 ⟨g2, g3, rfl, hg2, hg3, hf5⟩
  have st5 := st4.keep hf5
  have HG2 := Lib.hid hg2
  have HG3 := Lib.hid hg3
  clear hg2 hg3
  clear st4 hf5
  go_wp2_with fail
  refine (then_plus g2 g3 as_ ns cs _ (sumS [be32 (1 % mQ.M), be32 ((mQ.M - beN r % mQ.M) % mQ.M)] [s, p]) (sumE [be32 (1 % mQ.M), be32 ((mQ.M - beN r % mQ.M) % mQ.M)] [s, p] : Nat) (fun wx hfx => bplus1_c (mQ.M - beN r % mQ.M) g2 g3 as_ ns cs s ap np cp p wx (HG2.out.keep hfx id) (HG3.out.keep hfx id) (HS.out.still (st5.fr.then hfx)) (HP2.out.still (st5.fr.then hfx)))).mono ?_
  rintro e' w6 ⟨a', c', rfl, ho, hf6⟩
  have st6 := st5.keep hf6
  have HO := Lib.hid ho
  clear ho HG2 HG3
  clear st5 hf6
  have hE := sum2_E 1 (mQ.M - beN r % mQ.M) s p
  have hS := sum2_S 1 (mQ.M - beN r % mQ.M) s p
  by_cases hk : (rdOk s && rdOk p) = true
  · rw [if_pos hk] at hE hS
    have hneg : pmul (mQ.M - beN r % mQ.M) (rdPt p) = pneg (pmul (beN r) (rdPt p)) := by rw [qN_mQ]; exact pmul_neg (rd_on (by simp only [Bool.and_eq_true] at hk; exact hk.2)) _
    rw [hneg, pmul_1] at hS
    have HU := Lib.hid (un_ok HB.out hk)
    have HO2 := HO.out
    rw [hS] at HO2 ⊢
    rw [hE]
    have HOK := Lib.hid HO2
    clear hE hS hneg hk HO2 HO
    have HF := Lib.hid st6.fr
    clear st6
    go_wp2_with fail
    refine (btold_ok _ _ _ _).mono ?_
    rintro e' wE ⟨rfl, hf⟩
    have hfr := HF.out.then hf
    have hpart := (HOK.out.still hf).part
    clear hf HF HOK
    have HPT := Lib.hid hpart
    clear hpart
    go_wp2_with fail
    go_ret2
    exact ⟨_, by rw [HU.out.1]; rfl, by rw [HU.out.2]; exact HPT.out, hfr⟩
  · rw [if_neg hk] at hE hS
    have HU := Lib.hid (un_p HB.out hk)
    rw [hE]
    clear hS hk HO
    have HF := Lib.hid st6.fr
    clear st6 hE
    go_wp2_with fail
    refine (btold_bad _ _ _ _ (by decide) _).mono ?_
    rintro e' wE ⟨rfl, hf⟩
    have hfr := HF.out.then hf
    clear hf HF
    go_wp2_with fail
    go_ret2
    exact ⟨_, by rw [HU.out.1]; rfl, by rw [HU.out.2]; exact (OwnU.nil _).part, hfr⟩

theorem Unblind_u (as_ : Option Addr) (ns cs : Nat) (s : List UInt8) (ar : Option Addr) (nr cr : Nat) (r : List UInt8) (vp : Value) (p : List UInt8) (w : World) (hs : BPart w (.slice as_ ns cs) s) (hr : RdB w ar nr r) (hp : BPart w vp p) :
    Calls Try.prog 33 #[.slice as_ ns cs, .slice ar nr cr, vp] w fun e w' => ∃ v, e = .returned (.tuple #[v, .int .i64 (unE r s p)]) ∧ BPart w' v (unS r s p) ∧ Fr Nob w w' := by
  cases hb : numB mQ r
  · refine (Unblind_bad as_ ns cs s ar nr cr r vp p w hs hr hp hb).mono fun e w' k => ⟨.slice none 0 0, ?_, ?_, k.2⟩
    · rw [k.1, (un_r hb).1]
    · rw [(un_r hb).2]; exact (OwnU.nil _).part
  · exact Unblind_good as_ ns cs s ar nr cr r vp p w hs hr hp hb
end Go.Proofs.Ytdbgddngapminaa

/- The reference's Unblind; the law BlindUndoes. -/
namespace Go.Proofs.Ytdbgddngapminaa
open Go.RowKit Go.Mv Mvp Mvq
theorem un_pt {r s p : List UInt8} (h1 : numB mQ r = true) (h2 : rdOk s = true) (h3 : rdOk p = true) : (addR (rdR s) (negR (timesR (beN r) (rdR p)))).pt = padd (rdPt s) (pneg (pmul (beN r) (rdPt p))) := by
  rw [addR_pt, negR_pt, timesR_pt _ (Nat.lt_trans (numB_lt2 h1) (by decide)), rdR_pt h2, rdR_pt h3]
attribute [local irreducible] limbs lw mix cw cSub cAdd cMul foldC valFrom beN laid be32 powm montT mstep elN mdL numB rtV rtOk kN kc kinv wrPt addR noR negR timesR tmsR RT.L gXn gYn rpL rdOk rdPt rdR pmul sumE sumS unE unS
set_option maxHeartbeats 16000000 in
set_option maxRecDepth 1000000 in
theorem RUnblind_c (s r p : ByteArray) (w : World) : Calls Try.prog 34 #[.string s, .string r, .string p] w fun e w' => e = .returned (.tuple #[.string (mkS (unS r.data.toList s.data.toList p.data.toList)), .int .i64 (unE r.data.toList s.data.toList p.data.toList)]) ∧ Fr Nob w w' := by
  have st0 := St.start Nob w
  go_enter Try.func34, Try.ntmps34
  go_wp2_with fail
  refine (RScalar_u r _).mono ?_
  rintro e' w1 ⟨N1, rfl, hn1, hf1⟩
  have st1 := st0.keep hf1
  have HN1 := Lib.hid hn1
  clear hn1
  clear st0 hf1
  go_wp2_with (with_reducible refine wl_stop (o := ⟨some 8, _, _, _, _, _⟩) ?_)
  refine wl_allocS st1 rfl rfl (z := .agg #[.int .u64 0, .int .u64 0, .int .u64 0, .int .u64 0]) (by kernel_rfl) (cw 4 0) (by rw [cw_zero]; rfl) ?_
  intro g8 w2 st2
  clear st1
  go_wp2_with (with_reducible refine wl_stop (o := ⟨none, _, _, _, _, _⟩) ?_)
  refine wl_storeS st2 0 rfl rfl rfl rfl rfl (by first | (simp only [cw_len]; done) | (simp only [List.length_append, cw_len, RT.len, rpL_len]; done)) (by first | (rw [cw_len]; kernel_rfl) | (rw [RT.len]; kernel_rfl) | (rw [rpL_len]; kernel_rfl) | (simp only [List.length_append, cw_len]; kernel_rfl) | (simp only [List.length_append, cw_len, RT.len, rpL_len]; kernel_rfl)) (cw_one _ _) ?_
  intro w3 st3
  clear st2
  rcases h1 : numB mQ r.data.toList with _ | _
  · have HU := Lib.hid (un_r (s := s.data.toList) (p := p.data.toList) h1)
    clear h1
    have hfr := st3.fr
    clear st3
    go_wp2_with fail
    go_ret2
    exact ⟨by rw [HU.out.1, HU.out.2]; rfl, hfr⟩
  rw [HN1.out h1] at st3
  have K1 := Lib.hid h1
  clear h1 HN1
  go_wp2_with fail
  refine (RRead_u s _).mono ?_
  rintro e' w4 ⟨X2, Y2, Z2, rfl, hx2, hf4⟩
  have st4 := st3.keep hf4
  have HX2 := Lib.hid hx2
  clear hx2
  clear st3 hf4
  go_wp2_with (with_reducible refine wl_stop (o := ⟨some 10, _, _, _, _, _⟩) ?_)
  refine wl_allocS st4 rfl rfl (z := .agg #[.int .u64 0, .int .u64 0, .int .u64 0, .int .u64 0, .int .u64 0, .int .u64 0, .int .u64 0, .int .u64 0, .int .u64 0, .int .u64 0, .int .u64 0, .int .u64 0]) (by kernel_rfl) (cw 12 0) (by rw [cw_zero]; rfl) ?_
  intro g10 w5 st5
  clear st4
  go_wp2_with (with_reducible refine wl_stop (o := ⟨none, _, _, _, _, _⟩) ?_)
  refine wl_storeS st5 1 rfl rfl rfl rfl rfl (by first | (simp only [cw_len]; done) | (simp only [List.length_append, cw_len, RT.len, rpL_len]; done)) (by first | (rw [cw_len]; kernel_rfl) | (simp only [rpL_len]; kernel_rfl)) (rpL_one _ _ _) ?_
  intro w6 st6
  clear st5
  go_wp2_with fail
  refine (RRead_u p _).mono ?_
  rintro e' w7 ⟨X3, Y3, Z3, rfl, hx3, hf7⟩
  have st7 := st6.keep hf7
  have HX3 := Lib.hid hx3
  clear hx3
  clear st6 hf7
  go_wp2_with (with_reducible refine wl_stop (o := ⟨some 12, _, _, _, _, _⟩) ?_)
  refine wl_allocS st7 rfl rfl (z := .agg #[.int .u64 0, .int .u64 0, .int .u64 0, .int .u64 0, .int .u64 0, .int .u64 0, .int .u64 0, .int .u64 0, .int .u64 0, .int .u64 0, .int .u64 0, .int .u64 0]) (by kernel_rfl) (cw 12 0) (by rw [cw_zero]; rfl) ?_
  intro g12 w8 st8
  clear st7
  go_wp2_with (with_reducible refine wl_stop (o := ⟨none, _, _, _, _, _⟩) ?_)
  refine wl_storeS st8 2 rfl rfl rfl rfl rfl (by first | (simp only [cw_len]; done) | (simp only [List.length_append, cw_len, RT.len, rpL_len]; done)) (by first | (rw [cw_len]; kernel_rfl) | (simp only [rpL_len]; kernel_rfl)) (rpL_one _ _ _) ?_
  intro w9 st9
  clear st8
  rcases h2 : rdOk s.data.toList with _ | _
  · have HU := Lib.hid (un_p (r := r.data.toList) (s := s.data.toList) (p := p.data.toList) K1.out (by simp only [h2]; simp))
    clear h2
    have hfr := st9.fr
    clear st9
    generalize rdOk p.data.toList = q at *
    rcases q with _ | _ <;> (go_wp2_with fail; go_ret2; exact ⟨(by rw [HU.out.1, HU.out.2]; rfl), hfr⟩)
  rcases h3 : rdOk p.data.toList with _ | _
  · have HU := Lib.hid (un_p (r := r.data.toList) (s := s.data.toList) (p := p.data.toList) K1.out (by simp only [h2, h3]; simp))
    clear h2 h3
    have hfr := st9.fr
    clear st9
    go_wp2_with fail
    go_ret2
    exact ⟨by rw [HU.out.1, HU.out.2]; rfl, hfr⟩
  rw [HX2.out h2] at st9
  have K2 := Lib.hid h2
  rw [HX3.out h3] at st9
  have K3 := Lib.hid h3
  clear h2 h3 HX2 HX3
  go_wp2_with fail
  refine wp_region_noPanic ?_
  refine wp_region_plan (fun wx => St Nob w wx [(g8, cw 4 (beN r.data.toList), 24), (g10, (rdR s.data.toList).L, 26), (g12, (rdR p.data.toList).L, 26)]) 8 (.t 0 (.t 1 (.t 2 (.r 3 (.r 4 (.r 5 (.r 6 (.w 7 (.m 8 .nil))))))))) (by kernel_rfl) (by kernel_rfl) st9.drew (fun _ _ _ _ _ h => h) ?_
  have hd9 := st9.drew
  clear st9
  refine plan_arr rfl rfl rfl rfl ((rdR s.data.toList).L) (fun wx hS => St.rangeL hS 1 rfl 0 _ (by rw [List.drop_zero, List.take_of_length_le (Nat.le_refl _)])) Try.underlying26 rfl (by first | (rw [cw_len]; kernel_rfl) | (simp only [RT.len]; kernel_rfl)) ?_
  try simp only [Act.put, List.setIfInBounds_toArray, List.set_cons_zero, List.set_cons_succ]
  refine plan_arr rfl rfl rfl rfl (cw 4 (beN r.data.toList)) (fun wx hS => St.rangeL hS 0 rfl 0 _ (by rw [List.drop_zero, List.take_of_length_le (Nat.le_refl _)])) Try.underlying24 rfl (by first | (rw [cw_len]; kernel_rfl) | (rw [RT.len]; kernel_rfl) | (rw [rpL_len]; kernel_rfl) | (simp only [List.length_append, cw_len]; kernel_rfl) | (simp only [List.length_append, cw_len, RT.len, rpL_len]; kernel_rfl)) ?_
  try simp only [Act.put, List.setIfInBounds_toArray, List.set_cons_zero, List.set_cons_succ]
  refine plan_arr rfl rfl rfl rfl ((rdR p.data.toList).L) (fun wx hS => St.rangeL hS 2 rfl 0 _ (by rw [List.drop_zero, List.take_of_length_le (Nat.le_refl _)])) Try.underlying26 rfl (by first | (rw [cw_len]; kernel_rfl) | (simp only [RT.len]; kernel_rfl)) ?_
  try simp only [Act.put, List.setIfInBounds_toArray, List.set_cons_zero, List.set_cons_succ]
  refine plan_r rfl rfl ?_
  go_simp
  refine (RTimes_c (beN r.data.toList) (rdR p.data.toList) _).mono ?_
  rintro e' w10 ⟨rfl, hf10⟩
  have st10 := hd9.keep hf10
  clear hf10
  clear hd9
  refine ⟨st10, ?_⟩
  try simp only [Act.put, List.setIfInBounds_toArray, List.set_cons_zero, List.set_cons_succ]
  refine plan_r rfl rfl ?_
  go_simp
  refine (RNeg_c (timesR (beN r.data.toList) (rdR p.data.toList)) _).mono ?_
  rintro e' w11 ⟨rfl, hf11⟩
  have st11 := st10.keep hf11
  clear hf11
  clear st10
  refine ⟨st11, ?_⟩
  try simp only [Act.put, List.setIfInBounds_toArray, List.set_cons_zero, List.set_cons_succ]
  refine plan_r rfl rfl ?_
  go_simp
  refine (RPlus_c (rdR s.data.toList) (negR (timesR (beN r.data.toList) (rdR p.data.toList))) _).mono ?_
  rintro e' w12 ⟨rfl, hf12⟩
  have st12 := st11.keep hf12
  clear hf12
  clear st11
  refine ⟨st12, ?_⟩
  try simp only [Act.put, List.setIfInBounds_toArray, List.set_cons_zero, List.set_cons_succ]
  refine plan_r rfl rfl ?_
  go_simp
  refine (RWritten_c (addR (rdR s.data.toList) (negR (timesR (beN r.data.toList) (rdR p.data.toList)))) _).mono ?_
  rintro e' w13 ⟨rfl, hf13⟩
  have st13 := st12.keep hf13
  clear hf13
  clear st12
  refine ⟨st13, ?_⟩
  try simp only [Act.put, List.setIfInBounds_toArray, List.set_cons_zero, List.set_cons_succ]
  refine plan_w (v := ?_) rfl rfl (fun wx => ?_) ?_
  rotate_left 1
  · (go_simp; with_reducible rfl)
  try simp only [Act.put, List.setIfInBounds_toArray, List.set_cons_zero, List.set_cons_succ]
  refine plan_m rfl rfl ?_
  go_simp
  try simp only [Act.put, List.setIfInBounds_toArray, List.set_cons_zero, List.set_cons_succ]
  refine plan_end ?_
  refine NoPanic.normal ?_
  have HU := Lib.hid (un_ok (r := r.data.toList) (s := s.data.toList) (p := p.data.toList) K1.out (by rw [K2.out, K3.out]; rfl))
  have hfr := st13.fr
  clear st13
  go_wp2_with fail
  go_ret2
  exact ⟨by rw [HU.out.1, HU.out.2, un_pt K1.out K2.out K3.out]; rfl, hfr⟩

set_option maxHeartbeats 16000000 in
set_option maxRecDepth 1000000 in
theorem law_BlindUndoes (s r p : ByteArray) (w : World) : Calls Try.prog 8 #[.string s, .string r, .string p] w fun e w' => e = .returned (.bool true) ∧ Fr Nob w w' := by
  have FF := Lib.hid (Fr.refl Nob w)
  go_enter Try.func8, Try.ntmps8
  by_cases hz1 : 4096 < s.size
  · have hJ : (4096 : Int) < (s.size : Int) := by omega
    have hfr := FF.out
    go_wp2_with fail
    go_ret
    exact ⟨rfl, hfr⟩
  have hI1 : ¬ ((4096 : Int) < (s.size : Int)) := by omega
  have HZ1 := Lib.hid hz1
  clear hz1
  by_cases hz2 : 4096 < r.size
  · have hJ : (4096 : Int) < (r.size : Int) := by omega
    have hfr := FF.out
    go_wp2_with fail
    go_ret
    exact ⟨rfl, hfr⟩
  have hI2 : ¬ ((4096 : Int) < (r.size : Int)) := by omega
  have HZ2 := Lib.hid hz2
  clear hz2
  by_cases hz3 : 4096 < p.size
  · have hJ : (4096 : Int) < (p.size : Int) := by omega
    have hfr := FF.out
    go_wp2_with fail
    go_ret
    exact ⟨rfl, hfr⟩
  have hI3 : ¬ ((4096 : Int) < (p.size : Int)) := by omega
  have HZ3 := Lib.hid hz3
  clear hz3
  go_wp2_with (with_reducible refine wl_stop (o := ⟨some 26, _, _, _, _, _⟩) ?_)
  refine wl_bytes (q := s) rfl rfl Try.underlying9 Try.underlying34 Try.underlying5 rfl (by have := HZ1.out; unfold maxLen; omega) 0 (Nat.zero_le _) ?_
  intro cap1 w1 ho hf hz
  clear hz
  replace FF := Lib.hid (FF.out.then hf)
  have B1 := Lib.hid (BPart.ofOwn ho)
  clear hf ho
  generalize w.heap.size = gb1 at *
  go_wp2_with (with_reducible refine wl_stop (o := ⟨some 28, _, _, _, _, _⟩) ?_)
  refine wl_bytes (q := r) rfl rfl Try.underlying9 Try.underlying34 Try.underlying5 rfl (by have := HZ2.out; unfold maxLen; omega) 0 (Nat.zero_le _) ?_
  intro cap2 w2 ho hf hz
  clear hz
  replace B1 := Lib.hid (B1.out.still hf)
  replace FF := Lib.hid (FF.out.then hf)
  have B2 := Lib.hid (BPart.ofOwn ho)
  clear hf ho
  generalize w1.heap.size = gb2 at *
  go_wp2_with (with_reducible refine wl_stop (o := ⟨some 30, _, _, _, _, _⟩) ?_)
  refine wl_bytes (q := p) rfl rfl Try.underlying9 Try.underlying34 Try.underlying5 rfl (by have := HZ3.out; unfold maxLen; omega) 0 (Nat.zero_le _) ?_
  intro cap3 w3 ho hf hz
  clear hz
  replace B1 := Lib.hid (B1.out.still hf)
  replace B2 := Lib.hid (B2.out.still hf)
  replace FF := Lib.hid (FF.out.then hf)
  have B3 := Lib.hid (BPart.ofOwn ho)
  clear hf ho
  generalize w2.heap.size = gb3 at *
  obtain ⟨ar, nr, cr, her, hcr, hrr⟩ := B2.out
  have HRR := Lib.hid hrr
  rw [her]
  clear her hcr hrr
  go_wp2_with fail
  refine (Unblind_u _ _ _ s.data.toList ar nr cr r.data.toList _ p.data.toList _ B1.out HRR.out B3.out).mono ?_
  rintro e' w4 ⟨vx, rfl, hx, hf⟩
  replace B1 := Lib.hid (B1.out.still hf)
  replace B2 := Lib.hid (B2.out.still hf)
  replace B3 := Lib.hid (B3.out.still hf)
  replace FF := Lib.hid (FF.out.then hf)
  clear B1 B2 B3 HRR hI1 hI2 hI3
  have BX := Lib.hid hx
  clear hf hx
  go_wp2_with fail
  refine (RUnblind_c s r p _).mono ?_
  rintro e' w5 ⟨rfl, hf⟩
  replace BX := Lib.hid (BX.out.still hf)
  replace FF := Lib.hid (FF.out.then hf)
  clear hf
  obtain ⟨ax, nx, cx, hex, -, hrx⟩ := BX.out
  subst hex
  have sx := run_string (P := Try.prog) hrx cx Try.underlying34 Try.underlying5 Try.underlying9
  generalize unS r.data.toList s.data.toList p.data.toList = lv at *
  generalize unE r.data.toList s.data.toList p.data.toList = ev at *
  have hfr := FF.out
  clear BX hrx
  go_wp2_with fail
  go_ret
  exact ⟨rfl, hfr⟩
end Go.Proofs.Ytdbgddngapminaa

/- From a walk that turns nothing (Fr Nob) to what a law's row asks behind the call. -/
namespace Go.Mv
open Go.RowKit Go.ChangeShapes Go.WideShapes

/-- the arguments read behind the call as they read before -/
theorem Below.trodAll {H : Type} {enc : TypeId × Value → H} {P : Program} (hl : laidOutB P = true) {W W' : World} (hb : Below W.heap.size W W') :
    ∀ (ts : List TypeId) (vs : List Value) (ds : List (DataW H)) (ps : List MemPlace), (∀ t ∈ ts, P.readableRec t = true ∧ t < P.types.size) → DataW.TrodAll enc P W 0 (fun _ => true) true ts vs ds ps → (∀ x ∈ ps, x.block < W.heap.size) →
      DataW.TrodAll enc P W' 0 (fun b => decide (b < W.heap.size)) true ts vs ds ps
  | [], vs, ds, ps, _, h, _ => by
    obtain ⟨rfl, rfl, rfl⟩ := trodAll_nil h
    exact trodAll_mk0
  | t :: ts, vs, ds, ps, hr, h, hlt => by
    obtain ⟨v, vs', d, ds', p, q, rfl, rfl, rfl, h0, hs⟩ := trodAll_cons h
    have h1 := hr t (by simp)
    exact trodAll_cons_mk (Below.trod hl h1.1 h1.2 h0 hb (fun x hx => hlt x (by simp [hx]))) (Below.trodAll hl hb ts vs' ds' q (fun t ht => hr t (by simp [ht])) hs (fun x hx => hlt x (by simp [hx])))

/-- what a law's row asks behind the call -/
theorem law_post {H : Type} {enc : TypeId × Value → H} {P : Program} {f : Func} {s : ChangeSpec} {W W' : World} {args : Array Value} {ds gs : List (DataW H)} {before : List MemPlace}
    (hl : laidOutB P = true) (hr : ∀ t ∈ f.params.toList, P.readableRec t = true ∧ t < P.types.size) (hW : DataW.Whole enc P f.params.toList s.vars false W args.toList ds gs before)
    (hv : s.vars = []) (hres : (s.fn H (ds ++ gs)).results = [.lit (.bool true)]) (harg : (s.fn H (ds ++ gs)).args = ds) (hvar : (s.fn H (ds ++ gs)).vars = [])
    {tb : TypeId} (hrt : f.resultTypes = #[tb]) (hu : P.underlying tb = some .bool) (hf : Fr Nob W W') :
    s.post enc P f false true false false W args (.bool true) W' := by
  have hW' := hW
  obtain ⟨p, q, hA, hV, rfl, hfz, hnd⟩ := hW
  rw [hv] at hV
  obtain ⟨rfl, rfl⟩ := trodVars_none hV
  have hlt : ∀ x ∈ p ++ [], x.block < W.heap.size := fun x hx => hW'.lt x hx
  refine ⟨ds, [], p ++ [], [], p, [], hW', ?_, ?_, ?_, World.keptBut_mono (fun x hx => ⟨hx, ?_⟩) (hf.below.frame (· ∈ p ++ [])), fun h => by cases h⟩
  · rw [hres, hrt]
    exact trodAll_mk1 (shut_bool hu true)
  · rw [harg]
    exact Below.trodAll hl hf.below _ _ _ _ hr hA (fun x hx => hlt x (by simp [hx]))
  · rw [hvar, hv]; exact rfl
  · simp only [List.append_nil] at hx
    exact .inr (.inl hx)
end Go.Mv
