/- group: the closures of Plus, Minus and Times; scalar; group: Plus, Minus, Times, Point, Base: what they answer; group's exported functions, for all bytes: what they answer, told by points; mintvaultref1.Still: is a list all as it was lent?; Pure sponge: what the program's and the reference's permutation compute, and that the two are one; word functions of the sponge; the constants of the rounds, and how far the lanes are turned; how far the lanes are turned; the state: bytes are added, and given; the state's bytes; Permute; the permutation of the program; the reference's round; Pure sponge: the permutation of bytes, both ways; Permute, the program's and the reference's; Permute of the reference; Pure sponge: bytes are fed one by one; the sponge and what is hashed with it; Pure sponge: words and their bytes are one; absorber.write; The reference's sponge, on bytes: what it computes is the sponge on words; The reference's sponge; absorber.out, and what hashes with it; absorber.frame; the reference's Frame; Hash, stream and Stream of the sponge; sponge.tag and sponge.Tag; mintvaultlaw1.SpongeTurns: the walk of the law; The reference's Hash and Stream; the law SpongeHashes; Arguments that were handed in, opened into the words of Mem; The reference's Tag; A log of the sponge, the reference's: NewLog, Say, Ask, Clone; The tree, plain: what a path leads to, from its end (the document) and from its beginning (the program); The tree: node, leafHash, bytes.Equal, sized, lists, small; the reference's leaf, node, half, sized; The points that a label and bytes may give, plain; what a k256 holds; GroupLaw, plain: the law's numbers; contracts at points that are known to be points; The law GroupLaw; The cells of a list of terms, as Sum fills it; group: Sum's closure. -/
import Derived.Test.YtdbgddngapminaaMgGroupHomesProof6
import Derived.Test.YtdbgddngapminaaMgGroupHomesProof2
import Derived.KernelRfl
import Derived.Test.YtdbgddngapminaaMgGroupHomesProof1
import Derived.SliceStrings
import Derived.SizedLaws
import Derived.OpenShut
import Derived.ProofKit
import Derived.IntWalk
namespace Go.Proofs.Ytdbgddngapminaa
open Go.RowKit Go.Mv Mvp Mvq
theorem pts_0 (la : List UInt8) (ls : List (List UInt8)) : ((ptsL (la :: ls)).drop 0).take (rdT la).L.length = (rdT la).L := ptsL_at (la :: ls) 0 (by simp)
theorem pts_12 (la lb : List UInt8) (ls : List (List UInt8)) : ((ptsL (la :: lb :: ls)).drop 12).take (rdT lb).L.length = (rdT lb).L := ptsL_at (la :: lb :: ls) 1 (by simp)
attribute [local irreducible] limbs lw mix cw cSub cAdd cMul beN laid be32 montT mstep elN mdL numB rtN rtV rtOk gXn gYn PT.L addT dblT mulT tbL tmR tmL dbN innT outT sumT dig rdT rdOk rdPt ptL ptsL rdsB wrPt
set_option maxHeartbeats 8000000 in
set_option maxRecDepth 1000000 in
theorem plus1_c (la lb : List UInt8) (w : World) (ap : Option Addr) (cp : Nat) (hre : Rd w ap ([la, lb].length * 12) (ptsL [la, lb])) :
    Calls Try.prog 44 #[.slice ap 2 cp] w fun e w' => e = .returned (.agg (addT (rdT la) (rdT lb)).L.toArray) ∧ Fr Nob w w' := by
  obtain ⟨bb, oo, rfl, -⟩ := hre.at (by simp)
  have HRE := Lib.hid hre
  skip
  clear hre
  have st0 := St.start Nob w
  go_enter Try.func44, Try.ntmps44
  go_wp2_with (with_reducible refine wl_stop (o := ⟨some 2, _, _, _, _, _⟩) ?_)
  refine wl_allocS st0 rfl rfl (z := .agg (List.replicate 12 (.int .u64 0)).toArray) (by kernel_rfl) (cw 12 0) (by rw [cw_zero]; rfl) ?_
  intro gr w1 st1
  clear st0
  go_wp2_with fail
  refine wp_region_noPanic ?_
  refine wp_region_plan (fun wx => St Nob w wx [(gr, cw 12 0, 72)]) 8 (.w 1 (.w 2 (.t 3 (.w 4 (.w 5 (.t 6 (.r 0 (.r 7 (.m 8 .nil))))))))) (by kernel_rfl) (by kernel_rfl) st1.drew (fun _ _ _ _ _ h => h) ?_
  have hd1 := st1.drew
  clear st1
  refine plan_w (v := ?_) rfl rfl (fun wx => ?_) ?_
  rotate_left 1
  · (go_simp; with_reducible rfl)
  try simp only [Act.put, List.setIfInBounds_toArray, List.set_cons_zero, List.set_cons_succ]
  refine plan_w (v := ?_) rfl rfl (fun wx => ?_) ?_
  rotate_left 1
  · (go_simp; with_reducible rfl)
  try simp only [Act.put, List.setIfInBounds_toArray, List.set_cons_zero, List.set_cons_succ]
  refine plan_arr rfl rfl rfl rfl ((rdT la).L) (fun wx hS => (rd_range (HRE.out.still (St.fr hS)) 0 _ (pts_0 la [lb]))) Try.underlying72 rfl (by first | (rw [cw_len]; kernel_rfl) | (simp only [PT.len]; kernel_rfl)) ?_
  try simp only [Act.put, List.setIfInBounds_toArray, List.set_cons_zero, List.set_cons_succ]
  refine plan_w (v := ?_) rfl rfl (fun wx => ?_) ?_
  rotate_left 1
  · (go_simp; with_reducible rfl)
  try simp only [Act.put, List.setIfInBounds_toArray, List.set_cons_zero, List.set_cons_succ]
  refine plan_w (v := ?_) rfl rfl (fun wx => ?_) ?_
  rotate_left 1
  · (go_simp; with_reducible rfl)
  try simp only [Act.put, List.setIfInBounds_toArray, List.set_cons_zero, List.set_cons_succ]
  refine plan_arr rfl rfl rfl rfl ((rdT lb).L) (fun wx hS => (rd_range (HRE.out.still (St.fr hS)) 12 _ (pts_12 la lb []))) Try.underlying72 rfl (by first | (rw [cw_len]; kernel_rfl) | (simp only [PT.len]; kernel_rfl)) ?_
  try simp only [Act.put, List.setIfInBounds_toArray, List.set_cons_zero, List.set_cons_succ]
  refine plan_r rfl rfl ?_
  go_simp
  refine (k256_c _).mono ?_
  rintro e' w2 ⟨gc, rfl, hle, hcv, hf2⟩
  have st2 := hd1.keep hf2
  have HCV := Lib.hid hcv
  clear hcv hle
  clear hf2
  clear hd1
  refine ⟨st2, ?_⟩
  try simp only [Act.put, List.setIfInBounds_toArray, List.set_cons_zero, List.set_cons_succ]
  refine plan_r rfl rfl ?_
  go_simp
  refine (plus_c (rdT la) (rdT lb) gc _ HCV.out).mono ?_
  rintro e' w3 ⟨rfl, hf3⟩
  have st3 := st2.keep hf3
  clear hf3
  clear st2
  refine ⟨st3, ?_⟩
  try simp only [Act.put, List.setIfInBounds_toArray, List.set_cons_zero, List.set_cons_succ]
  refine plan_m rfl rfl ?_
  refine wp_storeS st3 0 rfl rfl rfl rfl (by first | (simp only [cw_len]; done) | (simp only [List.length_append, cw_len, PT.len, ptL_len]; done)) (by first | (rw [cw_len]; kernel_rfl) | (simp only [PT.len]; kernel_rfl)) (PT.one _) ?_
  intro w4 st4
  clear st3
  try simp only [Act.put]
  refine plan_end ?_
  refine NoPanic.normal ?_
  have hr := st4.at 0 rfl
  have hfr := st4.fr
  clear st4
  go_wp2_with fail
  exact bodyPost_ret (results_st rfl rfl hr Try.underlying72 rfl (by first | (rw [cw_len]; kernel_rfl) | (simp only [PT.len]; kernel_rfl))) rfl ⟨rfl, hfr⟩

set_option maxHeartbeats 8000000 in
set_option maxRecDepth 1000000 in
theorem scalar_len (m : Md) (hk : KindOf 1 m) (a : Option Addr) (n c : Nat) (l : List UInt8) (w : World) (hb : RdB w a n l) (h32 : l.length ≠ 32) :
    Calls Try.prog 48 #[.slice a n c] w fun e w' => e = .returned (.tuple #[i4 0, .bool false]) ∧ Fr Nob w w' := by
  have HK := Lib.hid hk
  have HOK := Lib.hid hk.ok
  clear hk
  have hne : ((n : Int) != 32) = true := by have := hb.len; simp; omega
  clear h32 hb
  have st0 := St.start Nob w
  go_enter Try.func48, Try.ntmps48
  go_wp2_with (with_reducible refine wl_stop (o := ⟨some 2, _, _, _, _, _⟩) ?_)
  refine wl_allocS st0 rfl rfl (z := .agg #[.int .u64 0, .int .u64 0, .int .u64 0, .int .u64 0]) (by kernel_rfl) (cw 4 0) (by rw [cw_zero]; rfl) ?_
  intro g2 w1 st1
  clear st0
  go_wp2_with (with_reducible refine wl_stop (o := ⟨some 10, _, _, _, _, _⟩) ?_)
  refine wl_build0 rfl rfl _ built_I0 ?_
  rw [words_zI]
  go_wp2_with (with_reducible refine wl_stop (o := ⟨none, _, _, _, _, _⟩) ?_)
  refine wl_storeS st1 0 rfl rfl rfl rfl rfl (by first | (simp only [cw_len]; done) | (simp only [List.length_append, cw_len, PT.len, ptL_len]; done)) (by first | (rw [cw_len]; kernel_rfl) | (rw [PT.len]; kernel_rfl) | (rw [ptL_len]; kernel_rfl) | (simp only [List.length_append, cw_len]; kernel_rfl) | (simp only [List.length_append, cw_len, PT.len, ptL_len]; kernel_rfl)) (cw_one _ _) ?_
  intro w2 st2
  clear st1
  have hr := st2.at 0 rfl
  have hfr := st2.fr
  clear st2
  go_wp2_with fail
  exact bodyPost_ret (results_arr2 rfl rfl hr Try.underlying82 (by first | (rw [cw_len]; kernel_rfl) | (rw [PT.len]; kernel_rfl) | (rw [ptL_len]; kernel_rfl) | (simp only [List.length_append, cw_len]; kernel_rfl) | (simp only [List.length_append, cw_len, PT.len, ptL_len]; kernel_rfl)) rfl) rfl ⟨rfl, hfr⟩

set_option maxHeartbeats 8000000 in
set_option maxRecDepth 1000000 in
theorem scalar_num (m : Md) (hk : KindOf 1 m) (a : Option Addr) (n c : Nat) (l : List UInt8) (w : World) (hb : RdB w a n l) (h32 : l.length = 32) (r : Bool) (hlt : decide (beN l < m.M) = r) :
    Calls Try.prog 48 #[.slice a n c] w fun e w' => e = .returned (.tuple #[i4 (beN l), .bool r]) ∧ Fr Nob w w' := by
  have HK := Lib.hid hk
  have HOK := Lib.hid hk.ok
  clear hk
  have hbl := beN_le32 l (by omega)
  have HBL := Lib.hid hbl
  have h32' : n = 32 := by have := hb.len; omega
  subst h32'
  have HB := Lib.hid hb
  have HLT := Lib.hid hlt
  have hne : (((32 : Nat) : Int) != 32) = false := by rfl
  clear hb hbl h32 hlt
  have st0 := St.start Nob w
  go_enter Try.func48, Try.ntmps48
  go_wp2_with (with_reducible refine wl_stop (o := ⟨some 2, _, _, _, _, _⟩) ?_)
  refine wl_allocS st0 rfl rfl (z := .agg #[.int .u64 0, .int .u64 0, .int .u64 0, .int .u64 0]) (by kernel_rfl) (cw 4 0) (by rw [cw_zero]; rfl) ?_
  intro g2 w1 st1
  clear st0
  go_wp2_with fail
  refine (OfK HK.out _).mono ?_
  rintro e' w2 ⟨gp, rfl, hle, hm, hf2⟩
  have st2 : St Nob w w2 [(g2, cw 4 0, 82), (gp, mdL m, 134)] := st1.new hf2 hm hle
  clear st1 hf2 hm hle
  go_wp2_with fail
  refine (FromBytes_any a 32 c l _ (HB.out.still st2.fr) (by decide)).mono ?_
  rintro e' w3 ⟨rfl, hf3⟩
  have st3 := st2.keep hf3
  clear st2 hf3
  go_wp2_with (with_reducible refine wl_stop (o := ⟨some 6, _, _, _, _, _⟩) ?_)
  refine wl_allocS st3 rfl rfl (z := .agg #[.int .u64 0, .int .u64 0, .int .u64 0, .int .u64 0]) (by kernel_rfl) (cw 4 0) (by rw [cw_zero]; rfl) ?_
  intro g6 w4 st4
  clear st3
  go_wp2_with (with_reducible refine wl_stop (o := ⟨none, _, _, _, _, _⟩) ?_)
  refine wl_storeS st4 2 rfl rfl rfl rfl rfl (by first | (simp only [cw_len]; done) | (simp only [List.length_append, cw_len, PT.len, ptL_len]; done)) (by first | (rw [cw_len]; kernel_rfl) | (rw [PT.len]; kernel_rfl) | (rw [ptL_len]; kernel_rfl) | (simp only [List.length_append, cw_len]; kernel_rfl) | (simp only [List.length_append, cw_len, PT.len, ptL_len]; kernel_rfl)) (cw_one _ _) ?_
  intro w5 st5
  clear st4
  go_wp2_with fail
  refine wp_region_noPanic ?_
  refine wp_region_plan (fun wx => St Nob w wx [(g2, cw 4 0, 82), (gp, mdL m, 134), (g6, cw 4 (beN l), 82)]) 7 (.t 0 (.t 1 (.w 2 (.w 3 (.w 4 (.t 5 (.r 6 (.m 7 (.w 8 .nil))))))))) (by kernel_rfl) (by kernel_rfl) st5.drew (fun _ _ _ _ _ h => h) ?_
  have hd5 := st5.drew
  clear st5
  refine plan_arr rfl rfl rfl rfl (cw 4 (beN l)) (fun wx hS => St.rangeL hS 2 rfl 0 _ (by rw [List.drop_zero, List.take_of_length_le (Nat.le_refl _)])) Try.underlying82 rfl (by first | (rw [cw_len]; kernel_rfl) | (rw [PT.len]; kernel_rfl) | (rw [ptL_len]; kernel_rfl) | (simp only [List.length_append, cw_len]; kernel_rfl) | (simp only [List.length_append, cw_len, PT.len, ptL_len]; kernel_rfl)) ?_
  try simp only [Act.put, List.setIfInBounds_toArray, List.set_cons_zero, List.set_cons_succ]
  refine plan_arr rfl rfl rfl rfl (cw 4 (beN l)) (fun wx hS => St.rangeL hS 2 rfl 0 _ (by rw [List.drop_zero, List.take_of_length_le (Nat.le_refl _)])) Try.underlying82 rfl (by first | (rw [cw_len]; kernel_rfl) | (rw [PT.len]; kernel_rfl) | (rw [ptL_len]; kernel_rfl) | (simp only [List.length_append, cw_len]; kernel_rfl) | (simp only [List.length_append, cw_len, PT.len, ptL_len]; kernel_rfl)) ?_
  try simp only [Act.put, List.setIfInBounds_toArray, List.set_cons_zero, List.set_cons_succ]
  refine plan_w (v := ?_) rfl rfl (fun wx => ?_) ?_
  rotate_left 1
  · (go_simp; with_reducible rfl)
  try simp only [Act.put, List.setIfInBounds_toArray, List.set_cons_zero, List.set_cons_succ]
  refine plan_w (v := ?_) rfl rfl (fun wx => ?_) ?_
  rotate_left 1
  · (go_simp; with_reducible rfl)
  try simp only [Act.put, List.setIfInBounds_toArray, List.set_cons_zero, List.set_cons_succ]
  refine plan_w (v := ?_) rfl rfl (fun wx => ?_) ?_
  rotate_left 1
  · (go_simp; with_reducible rfl)
  try simp only [Act.put, List.setIfInBounds_toArray, List.set_cons_zero, List.set_cons_succ]
  refine plan_arr rfl rfl rfl rfl (cw 4 m.M) (fun wx hS => St.rangeL hS 1 rfl 0 _ (md_M m)) Try.underlying82 rfl (by first | (rw [cw_len]; kernel_rfl) | (rw [PT.len]; kernel_rfl) | (rw [ptL_len]; kernel_rfl) | (simp only [List.length_append, cw_len]; kernel_rfl) | (simp only [List.length_append, cw_len, PT.len, ptL_len]; kernel_rfl)) ?_
  try simp only [Act.put, List.setIfInBounds_toArray, List.set_cons_zero, List.set_cons_succ]
  refine plan_r rfl rfl ?_
  go_simp
  refine (MLess_v (beN l) m.M _ HBL.out HOK.out.lt r HLT.out).mono ?_
  rintro e' w6 ⟨rfl, hf6⟩
  have st6 := hd5.keep hf6
  clear hf6
  clear hd5
  refine ⟨st6, ?_⟩
  try simp only [Act.put, List.setIfInBounds_toArray, List.set_cons_zero, List.set_cons_succ]
  refine plan_m rfl rfl ?_
  refine wp_storeS st6 0 rfl rfl rfl rfl (by first | (simp only [cw_len]; done) | (simp only [List.length_append, cw_len, PT.len, ptL_len]; done)) (by first | (rw [cw_len]; kernel_rfl) | (rw [PT.len]; kernel_rfl) | (rw [ptL_len]; kernel_rfl) | (simp only [List.length_append, cw_len]; kernel_rfl) | (simp only [List.length_append, cw_len, PT.len, ptL_len]; kernel_rfl)) (cw_one _ _) ?_
  intro w7 st7
  clear st6
  try simp only [Act.put]
  refine plan_w (v := ?_) rfl rfl (fun wx => ?_) ?_
  rotate_left 1
  · (go_simp; with_reducible rfl)
  try simp only [Act.put, List.setIfInBounds_toArray, List.set_cons_zero, List.set_cons_succ]
  refine plan_end ?_
  refine NoPanic.normal ?_
  have hr := st7.at 0 rfl
  have hfr := st7.fr
  clear st7
  go_wp2_with fail
  exact bodyPost_ret (results_arr2 rfl rfl hr Try.underlying82 (by first | (rw [cw_len]; kernel_rfl) | (rw [PT.len]; kernel_rfl) | (rw [ptL_len]; kernel_rfl) | (simp only [List.length_append, cw_len]; kernel_rfl) | (simp only [List.length_append, cw_len, PT.len, ptL_len]; kernel_rfl)) rfl) rfl ⟨rfl, hfr⟩

theorem scalar_t {l : List UInt8} (h : numB mQ l = true) (a : Option Addr) (n c : Nat) (w : World) (hb : RdB w a n l) : Calls Try.prog 48 #[.slice a n c] w fun e w' => e = .returned (.tuple #[i4 (beN l), .bool true]) ∧ Fr Nob w w' := by
  unfold numB at h
  simp only [Bool.and_eq_true, decide_eq_true_eq] at h
  exact scalar_num mQ .one a n c l w hb h.1 true (decide_eq_true h.2)
theorem scalar_f {l : List UInt8} (h : numB mQ l = false) (a : Option Addr) (n c : Nat) (w : World) (hb : RdB w a n l) : Calls Try.prog 48 #[.slice a n c] w fun e w' => (∃ N, e = .returned (.tuple #[i4 N, .bool false])) ∧ Fr Nob w w' := by
  unfold numB at h
  by_cases h32 : l.length = 32
  · rw [decide_eq_true h32, Bool.true_and] at h
    exact (scalar_num mQ .one a n c l w hb h32 false h).mono fun _ _ t => ⟨⟨_, t.1⟩, t.2⟩
  · exact (scalar_len mQ .one a n c l w hb h32).mono fun _ _ t => ⟨⟨_, t.1⟩, t.2⟩
end Go.Proofs.Ytdbgddngapminaa

/- group: Plus, Minus, Times, Point, Base: what they answer. -/
namespace Go.Proofs.Ytdbgddngapminaa
open Go.RowKit Go.Mv Mvp Mvq
theorem base_cells {gp : Nat} : ((crvL mP gp gXn gYn).drop 5).take baseT.L.length = baseT.L := crv_base mP gp gXn gYn
theorem info_bslg : (Try.prog.info? 34).map (fun i => (i.zero, i.size, i.bytes)) = some (some (.slice none 0 0), 1, 24) := by kernel_rfl
attribute [local irreducible] limbs lw mix cw cSub cAdd cMul beN laid be32 montT mstep elN mdL numB rtN rtV rtOk gXn gYn PT.L addT dblT mulT tbL tmR tmL dbN innT outT sumT dig rdT rdOk rdPt ptL ptsL rdsB wrPt
set_option maxHeartbeats 8000000 in
set_option maxRecDepth 1000000 in
theorem GPlus_ok (va vb : Value) (la lb : List UInt8) (w : World) (hpa : BPart w va la) (hpb : BPart w vb lb) (hg : rdsB [la, lb] = true) :
    Calls Try.prog 14 #[va, vb] w fun e w' => ∃ v, e = .returned (.tuple #[v, .int .i64 0]) ∧ Own w' w.heap.size 5 1 v 33 (bs (wrPt (addT (rdT la) (rdT lb)).pt)) ∧ Fr Nob w w' := by
  have HA1 := Lib.hid (BPart.one hpa)
  have HB1 := Lib.hid (BPart.one hpb)
  have HP := Lib.hid (BParts.two hpa hpb)
  have HG := Lib.hid hg
  clear hg hpa hpb
  go_enter Try.func14, Try.ntmps14
  go_wp2_with (with_reducible refine wl_stop (o := ⟨some 8, _, _, _, _, _⟩) ?_)
  unfold Stop
  refine wl_slit (vs := [va, vb]) (hgd := rfl) (ho := rfl) (hu := Try.underlying50) (hi0 := info_bslg) (hp := by rfl) (hv := (fun v hv => by simp at hv; rcases hv with rfl | rfl; exact HA1.out; exact HB1.out)) (hk := by rfl) (hz := by rfl) (h := ?_)
  intro w2 hg2 hf2 hz2
  clear hz2
  generalize hgl : w.heap.size = gl at *
  have HGL := Lib.hid hgl
  have HF2 := Lib.hid hf2
  have HRD := Lib.hid (show Rd w2 (some ⟨gl, 0, none⟩) 2 [va, vb] from Rd.whole hg2)
  clear hg2 hf2 hgl
  go_wp2_with fail
  refine (with_plus_ok _ 2 2 [va, vb] [la, lb] _ HRD.out (HP.out.still HF2.out) (by decide) HG.out (addT (rdT la) (rdT lb)) (fun ap cp wx hfx hrx => plus1_c la lb wx ap cp hrx)).mono ?_
  rintro e w3 ⟨v, rfl, hown, hf3⟩
  have h3 := HF2.out.then hf3
  have hsz := HF2.out.size
  have ho := hown.mono hsz
  clear hown hf3 HF2 hsz
  go_wp2_with fail
  go_ret2
  exact ⟨v, rfl, ho, h3⟩
set_option maxHeartbeats 8000000 in
set_option maxRecDepth 1000000 in
theorem GPlus_bad (va vb : Value) (la lb : List UInt8) (w : World) (hpa : BPart w va la) (hpb : BPart w vb lb) (hg : rdsB [la, lb] = false) :
    Calls Try.prog 14 #[va, vb] w fun e w' => e = .returned (.tuple #[.slice none 0 0, .int .i64 4]) ∧ Fr Nob w w' := by
  have HA1 := Lib.hid (BPart.one hpa)
  have HB1 := Lib.hid (BPart.one hpb)
  have HP := Lib.hid (BParts.two hpa hpb)
  have HG := Lib.hid hg
  clear hg hpa hpb
  go_enter Try.func14, Try.ntmps14
  go_wp2_with (with_reducible refine wl_stop (o := ⟨some 8, _, _, _, _, _⟩) ?_)
  unfold Stop
  refine wl_slit (vs := [va, vb]) (hgd := rfl) (ho := rfl) (hu := Try.underlying50) (hi0 := info_bslg) (hp := by rfl) (hv := (fun v hv => by simp at hv; rcases hv with rfl | rfl; exact HA1.out; exact HB1.out)) (hk := by rfl) (hz := by rfl) (h := ?_)
  intro w2 hg2 hf2 hz2
  clear hz2
  generalize hgl : w.heap.size = gl at *
  have HGL := Lib.hid hgl
  have HF2 := Lib.hid hf2
  have HRD := Lib.hid (show Rd w2 (some ⟨gl, 0, none⟩) 2 [va, vb] from Rd.whole hg2)
  clear hg2 hf2 hgl
  go_wp2_with fail
  refine (with_plus_bad _ 2 2 [va, vb] [la, lb] _ HRD.out (HP.out.still HF2.out) (by decide) HG.out).mono ?_
  rintro e w3 ⟨rfl, hf3⟩
  have h3 := HF2.out.then hf3
  clear hf3 HF2
  go_wp2_with fail
  go_ret2
  exact ⟨rfl, h3⟩

set_option maxHeartbeats 8000000 in
set_option maxRecDepth 1000000 in
theorem GBase_c (w : World) : Calls Try.prog 23 #[] w fun e w' => ∃ v, e = .returned v ∧ Own w' w.heap.size 5 1 v 33 (bs (wrPt baseT.pt)) ∧ Fr Nob w w' := by
  go_enter Try.func23, Try.ntmps23
  go_wp2_with fail
  refine (k256_c _).mono ?_
  rintro e w1 ⟨gc, rfl, hle, hcv, hf1⟩
  have HCV := Lib.hid hcv
  have HF1 := Lib.hid hf1
  clear hle hcv hf1
  go_wp2_with fail
  refine (k256_c _).mono ?_
  rintro e w2 ⟨gd, rfl, hle, ⟨gq, hc2, hm2⟩, hf2⟩
  have HCV2 := Lib.hid (HCV.out.keep hf2)
  have HF2 := Lib.hid (HF1.out.then hf2)
  clear hle hm2 hf2 HCV HF1
  go_wp2_with (with_reducible refine wl_stop (o := ⟨some 5, _, _, _, _, _⟩) ?_)
  refine wl_loadR rfl rfl Try.underlying72 rfl rfl (cs := baseT.L) (fun i v hv => hc2.range 5 _ base_cells i v hv) (by rw [PT.len]; kernel_rfl) ?_
  clear hc2
  go_wp2_with fail
  refine (bytes_c baseT gc _ HCV2.out).mono ?_
  rintro e w3 ⟨v, rfl, hown, hf3⟩
  have h3 := HF2.out.then hf3
  have ho := hown.mono HF2.out.size
  clear hown hf3 HF2 HCV2
  go_wp2_with fail
  go_ret
  exact ⟨v, rfl, ho, h3⟩
end Go.Proofs.Ytdbgddngapminaa

/- group's exported functions, for all bytes: what they answer, told by points. -/
namespace Mvq
theorem psum_snoc : ∀ (l : List (Nat × Pt)) (n : Nat) (p : Pt), (∀ t ∈ l, onC t.2) → onC p → psum (l ++ [(n, p)]) = padd (psum l) (pmul n p)
  | [], n, p, _, _ => by show padd (pmul n p) .O = padd .O (pmul n p); rw [padd_zero]; rfl
  | (k, q) :: l, n, p, h, hp => by
    have hl : ∀ t ∈ l, onC t.2 := fun t ht => h t (List.mem_cons_of_mem _ ht)
    show padd (pmul k q) (psum (l ++ [(n, p)])) = padd (padd (pmul k q) (psum l)) (pmul n p)
    rw [psum_snoc l n p hl hp, padd_assoc (pmul_on (h (k, q) (by simp)) k) (psum_on l hl) (pmul_on hp n)]
end Mvq
namespace Go.Proofs.Ytdbgddngapminaa
open Go.RowKit Go.Mv Mvp Mvq
/-- terms, as numbers and points -/
noncomputable def tpts (l : List (Nat × PT)) : List (Nat × Pt) := l.map fun t => (t.1, t.2.pt)
theorem tpts_on (l : List (Nat × PT)) : ∀ t ∈ tpts l, onC t.2 := by
  intro t ht
  obtain ⟨u, _, rfl⟩ := List.mem_map.1 ht
  exact u.2.onP
theorem innT_pt (l : List (Nat × PT)) (i : Nat) (o : PT) : ∀ k, k ≤ l.length → (innT l i o k).pt = padd o.pt (psum ((tpts (l.take k)).map fun t => (dig (63 - i) t.1, t.2)))
  | 0, _ => by show o.pt = padd o.pt .O; rw [padd_zero]
  | k + 1, h => by
    have ih := innT_pt l i o k (by omega)
    have hk : k < l.length := by omega
    have e : l.take (k + 1) = l.take k ++ [tmAt l k] := by
      rw [List.take_succ_eq_append_getElem hk]
      simp [tmAt, List.getD_eq_getElem?_getD, hk]
    have hon : ∀ t ∈ (tpts (l.take k)).map (fun t => (dig (63 - i) t.1, t.2)), onC t.2 := by
      intro t ht
      obtain ⟨u, hu, rfl⟩ := List.mem_map.1 ht
      exact tpts_on _ u hu
    rw [e, tpts, List.map_append, List.map_append, ← tpts]
    show (addT (innT l i o k) (mulT (tmAt l k).2 (dig (63 - i) (tmAt l k).1))).pt = padd o.pt (psum ((tpts (l.take k)).map (fun t => (dig (63 - i) t.1, t.2)) ++ [(dig (63 - i) (tmAt l k).1, (tmAt l k).2.pt)]))
    rw [addT_pt, mulT_pt, ih, psum_snoc _ _ _ hon (tmAt l k).2.onP, padd_assoc o.onP (psum_on _ hon) (pmul_on (tmAt l k).2.onP _)]
theorem outT_pt (l : List (Nat × PT)) (hn : ∀ t ∈ l, t.1 < 16 ^ 64) : ∀ i, i ≤ 64 → (outT l i).pt = psum (lead (64 - i) (tpts l))
  | 0, _ => by
    show noT.pt = _
    rw [noT_pt]
    have : ∀ l : List (Nat × PT), (∀ t ∈ l, t.1 < 16 ^ 64) → psum (lead 64 (tpts l)) = .O := by
      intro l
      induction l with
      | nil => intro _; rfl
      | cons t l ih =>
        intro h
        show padd (pmul (t.1 / 16 ^ 64) t.2.pt) (psum (lead 64 (tpts l))) = .O
        rw [Nat.div_eq_of_lt (h t (by simp)), ih fun u hu => h u (List.mem_cons_of_mem _ hu)]
        rfl
    exact (this l hn).symm
  | i + 1, h => by
    have ih := outT_pt l hn i (by omega)
    show (innT l i (dbN (outT l i) 4) l.length).pt = _
    rw [innT_pt l i _ l.length (Nat.le_refl _), dbN_pt _ rfl, ih, List.take_of_length_le (Nat.le_refl _)]
    have := lead_next (63 - i) (tpts l) (tpts_on l)
    rw [show 63 - i + 1 = 64 - i by omega] at this
    rw [show 64 - (i + 1) = 63 - i by omega]
    exact this.symm
theorem sumT_pt (l : List (Nat × PT)) (hn : ∀ t ∈ l, t.1 < 16 ^ 64) : (sumT l).pt = psum (tpts l) := by
  have h := outT_pt l hn 64 (Nat.le_refl _)
  rw [Nat.sub_self] at h
  have e : lead 0 (tpts l) = tpts l := by
    unfold lead
    conv => rhs; rw [← List.map_id (tpts l)]
    refine List.map_congr_left fun t _ => ?_
    show (t.1 / 16 ^ 0, t.2) = t
    rw [Nat.pow_zero, Nat.div_one]
  rw [e] at h
  exact h
/-- what is owned reads -/
theorem Own.part {w : World} {base : Nat} {v : Value} {l : List UInt8} (h : Own w base 5 1 v l.length (bs l)) : BPart w v l := by
  obtain ⟨a, c, rfl, hc, hr, -⟩ := h.form
  exact ⟨a, _, c, rfl, hc, by rwa [Nat.mul_one] at hr⟩
/-- a list of bytes of the call's own -/
def OwnB1 (w w' : World) (v : Value) (l : List UInt8) : Prop := Own w' w.heap.size 5 1 v l.length (bs l)
theorem OwnB1.part {w w' : World} {v : Value} {l : List UInt8} (h : OwnB1 w w' v l) : BPart w' v l := Own.part h
theorem OwnB1.nil (w w' : World) : OwnB1 w w' (.slice none 0 0) [] := Own.nil _ _ _ _
theorem OwnB1.of {w w' : World} {v : Value} {l : List UInt8} {n : Nat} (h : Own w' w.heap.size 5 1 v n (bs l)) (hn : l.length = n) : OwnB1 w w' v l := by subst hn; exact h
theorem q16 : mQ.M < 16 ^ 64 := by decide
noncomputable def pS (la lb : List UInt8) : List UInt8 := if rdOk la && rdOk lb then wrPt (padd (rdPt la) (rdPt lb)) else []
def pC (la lb : List UInt8) : Int := if rdOk la && rdOk lb then 0 else 4
theorem GPlus_u (va vb : Value) (la lb : List UInt8) (w : World) (hpa : BPart w va la) (hpb : BPart w vb lb) :
    Calls Try.prog 14 #[va, vb] w fun e w' => ∃ v, e = .returned (.tuple #[v, .int .i64 (pC la lb)]) ∧ OwnB1 w w' v (pS la lb) ∧ Fr Nob w w' := by
  unfold pS pC
  cases h : (rdOk la && rdOk lb)
  · exact (GPlus_bad va vb la lb w hpa hpb (by simpa [rdsB] using h)).mono fun e w' k => ⟨_, k.1, OwnB1.nil _ _, k.2⟩
  · simp only [Bool.and_eq_true] at h
    refine (GPlus_ok va vb la lb w hpa hpb (by simp [rdsB, h.1, h.2])).mono fun e w' ⟨v, k1, k2, k3⟩ => ⟨v, k1, ?_, k3⟩
    rw [addT_pt, rdT_pt h.1, rdT_pt h.2] at k2
    exact OwnB1.of k2 (wrPt_len _)
noncomputable def tS (lk la : List UInt8) : List UInt8 := if numB mQ lk && rdOk la then wrPt (pmul (beN lk) (rdPt la)) else []
def tC (lk la : List UInt8) : Int := if numB mQ lk then (if rdOk la then 0 else 4) else 3
theorem numB_lt2 {l : List UInt8} (h : numB mQ l = true) : beN l < mQ.M := by
  unfold numB at h
  simp only [Bool.and_eq_true, decide_eq_true_eq] at h
  exact h.2
/-- the base -/
def gP : Pt := .A (kc gXn) (kc gYn)
theorem GBase_u (w : World) : Calls Try.prog 23 #[] w fun e w' => ∃ v, e = .returned v ∧ OwnB1 w w' v (wrPt gP) ∧ Fr Nob w w' :=
  (GBase_c w).mono fun e w' ⟨v, k1, k2, k3⟩ => ⟨v, k1, by rw [baseT_pt] at k2; exact OwnB1.of k2 (wrPt_len _), k3⟩
end Go.Proofs.Ytdbgddngapminaa

/- mintvaultref1.Still: is a list all as it was lent? -/
namespace Go.Proofs.Ytdbgddngapminaa
open Go.RowKit Go.Mv Mvp

end Go.Proofs.Ytdbgddngapminaa

/- Pure sponge: what the program's and the reference's permutation compute, and that the two are one. -/
namespace Mvp


def goesTo (i : Nat) : Nat := i / 5 + 5 * ((2 * (i % 5) + 3 * (i / 5)) % 5)

/- the program -/
def colStep (s c : List UInt64) (i : Nat) : List UInt64 := c.set (i % 5) (c.getD (i % 5) 0 ^^^ s.getD i 0)
def colP (s : List UInt64) (k : Nat) : List UInt64 := (List.range k).foldl (colStep s) [0, 0, 0, 0, 0]
def movStep (s col : List UInt64) (by_ : List Nat) (m : List UInt64) (i : Nat) : List UInt64 :=
  m.set (goesTo i) (rotl (s.getD i 0 ^^^ (col.getD ((i + 4) % 5) 0 ^^^ rotl (col.getD ((i + 1) % 5) 0) 1)) (by_.getD i 0))
def movP (s col : List UInt64) (by_ : List Nat) (k : Nat) : List UInt64 := (List.range k).foldl (movStep s col by_) (List.replicate 25 0)
def chiStep (m : List UInt64) (y : Nat) (s : List UInt64) (x : Nat) : List UInt64 :=
  s.set (y + x) (m.getD (y + x) 0 ^^^ (~~~ (m.getD (y + (x + 1) % 5) 0) &&& m.getD (y + (x + 2) % 5) 0))
def chiRow (m s : List UInt64) (y k : Nat) : List UInt64 := (List.range k).foldl (chiStep m y) s
def chiP (m s : List UInt64) (k : Nat) : List UInt64 := (List.range k).foldl (fun s y => chiRow m s (5 * y) 5) s
def roundP (by_ : List Nat) (s : List UInt64) (c : UInt64) : List UInt64 :=
  let t := chiP (movP s (colP s 25) by_ 25) s 5
  t.set 0 (t.getD 0 0 ^^^ c)
def permP (by_ : List Nat) (rc : Nat → UInt64) (s : List UInt64) (k : Nat) : List UInt64 := (List.range k).foldl (fun s r => roundP by_ s (rc r)) s

/- the reference -/
def place (x y : Nat) : Nat := x % 5 + 5 * (y % 5)
theorem foldl_inv {α β : Type} (P : α → Prop) (f : α → β → α) (hf : ∀ a b, P a → P (f a b)) (l : List β) : ∀ a, P a → P (l.foldl f a) := by
  induction l with
  | nil => intro a h; exact h
  | cons b l ih => intro a h; exact ih _ (hf _ _ h)

theorem chiP_len (m s : List UInt64) (k : Nat) : (chiP m s k).length = s.length := by
  refine foldl_inv (fun l : List UInt64 => l.length = s.length) _ (fun a y h => ?_) _ _ rfl
  refine foldl_inv (fun l : List UInt64 => l.length = s.length) _ (fun b x h => ?_) _ _ h
  simp [chiStep, h]

theorem roundP_len (t : List Nat) (s : List UInt64) (c : UInt64) : (roundP t s c).length = s.length := by simp [roundP, chiP_len]

theorem permP_succ (t : List Nat) (rc : Nat → UInt64) (s : List UInt64) (k : Nat) : permP t rc s (k + 1) = roundP t (permP t rc s k) (rc k) := by
  simp [permP, List.range_succ]
theorem permP_len (t : List Nat) (rc : Nat → UInt64) (s : List UInt64) (k : Nat) : (permP t rc s k).length = s.length := by
  induction k with
  | zero => simp [permP]
  | succ k ih => rw [permP_succ, roundP_len, ih]
/- the constants of the rounds -/
def rcBytes : List Nat := [
  0, 0, 0, 0, 0, 0, 0, 1, 0, 0, 0, 0, 0, 0, 0x80, 0x82, 0x80, 0, 0, 0, 0, 0, 0x80, 0x8a, 0x80, 0, 0, 0, 0x80, 0, 0x80, 0,
  0, 0, 0, 0, 0, 0, 0x80, 0x8b, 0, 0, 0, 0, 0x80, 0, 0, 1, 0x80, 0, 0, 0, 0x80, 0, 0x80, 0x81, 0x80, 0, 0, 0, 0, 0, 0x80, 9,
  0, 0, 0, 0, 0, 0, 0, 0x8a, 0, 0, 0, 0, 0, 0, 0, 0x88, 0, 0, 0, 0, 0x80, 0, 0x80, 9, 0, 0, 0, 0, 0x80, 0, 0, 0xa,
  0, 0, 0, 0, 0x80, 0, 0x80, 0x8b, 0x80, 0, 0, 0, 0, 0, 0, 0x8b, 0x80, 0, 0, 0, 0, 0, 0x80, 0x89, 0x80, 0, 0, 0, 0, 0, 0x80, 3,
  0x80, 0, 0, 0, 0, 0, 0x80, 2, 0x80, 0, 0, 0, 0, 0, 0, 0x80, 0, 0, 0, 0, 0, 0, 0x80, 0xa, 0x80, 0, 0, 0, 0x80, 0, 0, 0xa,
  0x80, 0, 0, 0, 0x80, 0, 0x80, 0x81, 0x80, 0, 0, 0, 0, 0, 0x80, 0x80, 0, 0, 0, 0, 0x80, 0, 0, 1, 0x80, 0, 0, 0, 0x80, 0, 0x80, 8]
def rcPstep (r : Nat) (c : UInt64) (n : Nat) : UInt64 := shl c 8 ||| (UInt8.ofNat (rcBytes.getD (8 * r + n) 0)).toUInt64
def rcP (r k : Nat) : UInt64 := (List.range k).foldl (rcPstep r) 0

/- how far the lanes are turned -/
def xy : Nat → Nat × Nat
  | 0 => (1, 0)
  | t + 1 => ((xy t).2, (2 * (xy t).1 + 3 * (xy t).2) % 5)
def turnStep (l : List Nat) (t : Nat) : List Nat := l.set ((xy t).1 + 5 * (xy t).2) ((t + 1) * (t + 2) / 2 % 64)
def turnsK (k : Nat) : List Nat := (List.range k).foldl turnStep (List.replicate 25 0)
theorem xy_lt (t : Nat) : (xy t).1 < 5 ∧ (xy t).2 < 5 := by
  induction t with
  | zero => decide
  | succ t ih => exact ⟨ih.2, Nat.mod_lt _ (by decide)⟩

/- bytes into words, and back -/
def xorStep (s : List UInt64) (i : Nat) (x : UInt8) : List UInt64 := s.set (i / 8) (wx (s.getD (i / 8) 0) (shl (wid x) (8 * (i % 8))))
/-- the first k bytes of b are added to s -/
def xorB (s : List UInt64) (b : List UInt8) (k : Nat) : List UInt64 := (List.range k).foldl (fun s i => xorStep s i (b.getD i 0)) s
def sByte (s : List UInt64) (i : Nat) : UInt8 := lo8 (shr (s.getD (i / 8) 0) (8 * (i % 8)))
def toB (s : List UInt64) (n : Nat) : List UInt8 := (List.range n).map (sByte s)
theorem xorB_succ (s : List UInt64) (b : List UInt8) (k : Nat) : xorB s b (k + 1) = xorStep (xorB s b k) k (b.getD k 0) := by simp [xorB, List.range_succ]
theorem xorB_len (s : List UInt64) (b : List UInt8) (k : Nat) : (xorB s b k).length = s.length := by
  induction k with
  | zero => simp [xorB]
  | succ k ih => rw [xorB_succ]; simp [xorStep, ih]
theorem toB_len (s : List UInt64) (n : Nat) : (toB s n).length = n := by simp [toB]
end Mvp

/- word functions of the sponge -/
namespace Go.Proofs.Ytdbgddngapminaa
open Go.RowKit Go.Mv Mvp

theorem ret_int {k : IntKind} {a b : Int} (h : a = b) : Ending.returned (.int k a) = .returned (.int k b) := by rw [h]

theorem rot_form (x : UInt64) (k : Nat) (hk : k < 64) : wo (shl x (k % 64)) (shr x (64 - k % 64)) = rotl x k := by
  rw [Nat.mod_eq_of_lt hk]; rfl
theorem rot_any (x : UInt64) (k : Nat) (hk : k < 64) (w : World) :
    Calls Try.prog 135 #[.int .u64 (x.toNat : Int), .int .i64 (k : Int)] w fun e w' => e = .returned (.int .u64 ((rotl x k).toNat : Int)) ∧ w = w' := by
  go_enter Try.func135, Try.ntmps135
  go_wp2
  go_ret
  exact ⟨ret_int (by rw [← rot_form x k hk]), rfl⟩
theorem goesTo_any (i : Nat) (w : World) (hi : i ≤ 1000) :
    Calls Try.prog 136 #[.int .i64 (i : Int)] w fun e w' => e = .returned (.int .i64 ((goesTo i : Nat) : Int)) ∧ w = w' := by
  go_enter Try.func136, Try.ntmps136
  go_wp2
  go_ret
  exact ⟨ret_int (by unfold goesTo; omega), rfl⟩
end Go.Proofs.Ytdbgddngapminaa

/- the constants of the rounds, and how far the lanes are turned -/
namespace Go.Proofs.Ytdbgddngapminaa
open Go.RowKit Go.Mv Mvp

theorem rcP_succ (r k : Nat) : rcP r (k + 1) = rcPstep r (rcP r k) k := by simp [rcP, List.range_succ]
set_option maxHeartbeats 400000 in
theorem constP_any (r : Nat) (hr : r < 24) (w : World) :
    Calls Try.prog 137 #[.int .i64 (r : Int)] w fun e w' => e = .returned (.int .u64 ((rcP r 8).toNat : Int)) ∧ w = w' := by
  go_enter Try.func137, Try.ntmps137
  go_wp2
  go_loop [2, 4] (fun c i => ∃ k : Nat, k ≤ 8 ∧ i = .int .i64 k ∧ c = .int .u64 ((rcP r k).toNat : Int)) (fun _ i => (8 - intOf i).toNat)
  case atStart => exact ⟨0, by omega, rfl, rfl⟩
  case round =>
    obtain ⟨k, hk, rfl, rfl⟩ := hrel
    by_cases hlt : k < 8
    · go_wp2_with (first | (with_reducible refine wl_stop (o := ⟨some 13, _, _, _, _, _⟩) ?_))
      refine wl_index_str rfl rfl Try.underlying9 rfl rfl (8 * r + k) (by simp) ?_ (UInt8.ofNat (rcBytes.getD (8 * r + k) 0)) ?_ ?_
      · exact Nat.lt_of_lt_of_le (show 8 * r + k < 192 by omega) (by decide +kernel)
      · generalize hj : 8 * r + k = j
        have hj' : j < 192 := by omega
        clear hj
        revert j
        decide +kernel
      generalize hy : UInt8.ofNat (rcBytes.getD (8 * r + k) 0) = y
      have HY := Lib.hid hy; clear hy
      go_wp2
      go_round
      case rel => exact ⟨k + 1, by omega, by go_num, by rw [rcP_succ, rcPstep, HY.out]; rfl⟩
      case measure => simp [intOf]; omega
    · go_wp2
      go_ret
      have : k = 8 := by omega
      subst this
      exact ⟨rfl, rfl⟩

end Go.Proofs.Ytdbgddngapminaa

/- how far the lanes are turned -/
namespace Go.Proofs.Ytdbgddngapminaa
open Go.RowKit Go.Mv Mvp

theorem size_a25i : (Try.prog.info? 175).map (·.size) = some 25 := by kernel_rfl
theorem turnsK_succ (k : Nat) : turnsK (k + 1) = turnStep (turnsK k) k := by simp [turnsK, List.range_succ]
theorem turnsK_len (k : Nat) : (turnsK k).length = 25 := by
  induction k with
  | zero => simp [turnsK]
  | succ k ih => rw [turnsK_succ]; simp [turnStep, ih]

set_option maxHeartbeats 800000 in
theorem turns_any (w : World) :
    Calls Try.prog 134 #[] w fun e w' => e = .returned (.agg (is (turnsK 24)).toArray) ∧ Fr Nob w w' := by
  go_enter Try.func134, Try.ntmps134
  go_wp2
  go_loopw [1, 2, 4] (fun x y i wr => ∃ k : Nat, k ≤ 24 ∧ i = .int .i64 k ∧ x = .int .i64 ((xy k).1 : Nat) ∧ y = .int .i64 ((xy k).2 : Nat) ∧ Has wr w.heap.size (is (turnsK k)) 175 ∧ Fr Nob w wr) (fun _ _ i _ => (24 - intOf i).toNat)
  case atStart =>
    refine ⟨0, by omega, rfl, rfl, rfl, ?_, (Fr.refl _ _).alloc _⟩
    exact Has.new w _ _
  case round =>
    obtain ⟨k, hk, rfl, rfl, rfl, hh, hf⟩ := hrel
    have hxy := xy_lt k
    by_cases hlt : k < 24
    · obtain ⟨v0, hc, hfr⟩ := hh.ready (i := (xy k).1 + 5 * (xy k).2) (by rw [length_is, turnsK_len]; omega)
      have hp : (0 : Int) ≤ ((k : Int) + 1) * ((k : Int) + 2) ∧ ((k : Int) + 1) * ((k : Int) + 2) ≤ 650 := by
        refine ⟨Int.mul_nonneg (by omega) (by omega), ?_⟩
        have := Int.mul_le_mul (show (k : Int) + 1 ≤ 24 by omega) (show (k : Int) + 2 ≤ 25 by omega) (by omega) (by omega)
        omega
      go_wp2
      go_roundw
      case rel =>
        refine ⟨k + 1, by omega, by go_num, rfl, by simp [xy], ?_, hf.setCell _ _ _ _ (fun h => absurd h (Nat.lt_irrefl _))⟩
        have e : ((k : Int) + 1) * ((k : Int) + 2) / 2 % 64 = (((k + 1) * (k + 2) / 2 % 64 : Nat) : Int) := by simp
        rw [e, turnsK_succ, turnStep, ← is_set]
        exact hh.set _ _
      case measure => simp [intOf]; omega
    · go_wp2_with (first | (with_reducible refine wl_stop (o := ⟨some 27, _, _, _, _, _⟩) ?_))
      have hk24 : k = 24 := by omega
      subst hk24
      refine wl_loadA rfl rfl Try.underlying175 rfl hh (is (turnsK 24)) (by simp) (by rw [length_is, turnsK_len]; exact size_a25i) ?_
      go_wp2_with (first | (with_reducible refine wl_stop (o := ⟨none, .store 175 _ _, _, _, _, _⟩) ?_))
      refine wl_storeA rfl rfl rfl rfl hh (by simp) (by rw [length_is, turnsK_len]; exact size_a25i) ?_ ?_
      · intro v hv; simp [is] at hv; obtain ⟨x, _, rfl⟩ := hv; rfl
      intro w2 hh2 hf2 hz2
      go_wp2
      rw [splice_whole _ _ rfl] at hh2
      exact bodyPost_ret (results_arr rfl rfl hh2 Try.underlying175 (by rw [length_is, turnsK_len]; exact size_a25i)) rfl ⟨rfl, hf.new hf2 (Nat.le_refl _)⟩

end Go.Proofs.Ytdbgddngapminaa

/- the state: bytes are added, and given -/
namespace Go.Proofs.Ytdbgddngapminaa
open Go.RowKit Go.Mv Mvp

set_option maxHeartbeats 800000 in
/-- xor: the state lies at the beginning of block g -/
theorem xor_any (g : Nat) (S : List UInt64) (tail : List Value) (T : TypeId) (b : Option Addr) (n c : Nat) (l : List UInt8) (w : World) (hS : S.length = 25) (hn : n ≤ 200) (hg : Has w g (ws S ++ tail) T) (hb : RdB w b n l) (hbg : Off (One g) b) :
    Calls Try.prog 131 #[.pointer (some ⟨g, 0, none⟩), .slice b n c] w fun e w' => e = .returned (.tuple #[]) ∧ Has w' g (ws (xorB S l n) ++ tail) T ∧ Fr (One g) w w' ∧ w'.heap.size = w.heap.size := by
  go_enter Try.func131, Try.ntmps131
  go_wp2
  go_loopw [8] (fun i wr => ∃ k : Nat, k ≤ n ∧ i = .int .i64 k ∧ Has wr g (ws (xorB S l k) ++ tail) T ∧ Fr (One g) w wr ∧ wr.heap.size = w.heap.size) (fun i _ => (n - intOf i).toNat)
  case atStart => exact ⟨0, by omega, rfl, hg, Fr.refl _ _, rfl⟩
  case round =>
    obtain ⟨k, hk, rfl, hh, hf, hz⟩ := hrel
    by_cases hlt : k < n
    · obtain ⟨bb, o, rfl, hcb0⟩ := (hb.keep hf hbg).at (by omega)
      have hcb := hcb0 k hlt
      clear hcb0
      have hlen := xorB_len S l k
      have hi8 : k / 8 < (ws (xorB S l k)).length := by rw [length_ws, hlen]; omega
      have hc : wr.cell? ⟨g, k / 8, none⟩ = some (.int .u64 (((xorB S l k).getD (k / 8) 0).toNat : Int)) := hh.cell (by rw [List.getElem?_append_left hi8]; exact ws_get _ _ (by rw [hlen]; omega))
      have hfr : wr.frozen? ⟨g, k / 8, none⟩ = false := hh.free _ (by rw [List.length_append]; omega)
      have hlo : (0 : Int) ≤ (k : Int) / 8 ∧ (k : Int) / 8 < 25 := by omega
      generalize hy : (xorB S l k).getD (k / 8) 0 = y at hc
      generalize hx : l.getD k 0 = x at hcb
      have HY := Lib.hid hy; clear hy
      have HX := Lib.hid hx; clear hx
      have HL := Lib.hid hlen; clear hlen hi8
      have HZ := Lib.hid hz; clear hz
      go_wp2
      go_region
      all_goals go_wp2
      go_roundw
      case rel =>
        refine ⟨k + 1, by omega, by go_num, ?_, (hf.setCell _ _ _ _ (fun _ => rfl)).drew, by have := HZ.out; simpa [World.setCell] using this⟩
        have h1 := (hh.set (k / 8) (.int .u64 ((wx y (shl (wid x) (8 * (k % 8)))).toNat : Int))).drew
        rw [List.set_append_left _ _ (by rw [length_ws, HL.out]; omega), ws_set, ← HY.out, ← HX.out] at h1
        rw [xorB_succ, xorStep, ← HY.out, ← HX.out]
        exact h1
      case measure => simp [intOf]; omega
    · go_wp2
      go_end0
      have : k = n := by omega
      subst this
      exact ⟨rfl, hh, hf, hz⟩
end Go.Proofs.Ytdbgddngapminaa

/- the state's bytes; Permute -/
namespace Go.Proofs.Ytdbgddngapminaa
open Go.RowKit Go.Mv Mvp

theorem toB_at (S : List UInt64) (n i : Nat) (h : i < n) : (toB S n).getD i 0 = sByte S i := by
  simp [toB, List.getD_eq_getElem?_getD, List.getElem?_range h]

set_option maxHeartbeats 800000 in
theorem bytes_any (g : Nat) (S : List UInt64) (tail : List Value) (T : TypeId) (n : Nat) (w : World) (hS : S.length = 25) (hn : n ≤ 200) (hg : Has w g (ws S ++ tail) T) :
    Calls Try.prog 133 #[.pointer (some ⟨g, 0, none⟩), .int .i64 (n : Int)] w fun e w' => e = .returned (.slice (some ⟨w.heap.size, 0, none⟩) n n) ∧ Has w' w.heap.size (bs (toB S n)) 5 ∧ Fr Nob w w' ∧ w'.heap.size = w.heap.size + 1 := by
  go_enter Try.func133, Try.ntmps133
  go_wp2_with (at_make; refine wl_make rfl rfl Try.underlying34 info_u8 rfl rfl rfl n n rfl rfl (by omega) (by omega) (by unfold maxLen; omega) ?_; intro w1 hw1 hf1 hz1)
  have hgl := hg.lt
  go_loopw [11] (fun i wr => ∃ k : Nat, k ≤ n ∧ i = .int .i64 k ∧ Has wr w.heap.size (bs (fill (toB S n) (List.replicate n 0) k)) 5 ∧ Has wr g (ws S ++ tail) T ∧ Fr Nob w wr ∧ wr.heap.size = w.heap.size + 1) (fun i _ => (n - intOf i).toNat)
  case atStart =>
    refine ⟨0, by omega, rfl, ?_, hg.keep hf1 id, hf1, hz1⟩
    rw [fill_zero]; simpa [bs] using hw1
  case round =>
    obtain ⟨k, hk, rfl, hh, hg2, hf, hz⟩ := hrel
    by_cases hlt : k < n
    · obtain ⟨v0, hc0, hfr0⟩ := hh.ready (i := k) (by rw [length_bs, fill_length _ _ _ (by simp [toB_len])]; simpa using hlt)
      have hi8 : k / 8 < (ws S).length := by rw [length_ws, hS]; omega
      have hc : wr.cell? ⟨g, k / 8, none⟩ = some (.int .u64 ((S.getD (k / 8) 0).toNat : Int)) := hg2.cell (by rw [List.getElem?_append_left hi8]; exact ws_get _ _ (by rw [hS]; omega))
      have hlo : (0 : Int) ≤ (k : Int) / 8 ∧ (k : Int) / 8 < 25 := by omega
      generalize hy : S.getD (k / 8) 0 = y at hc
      have HY := Lib.hid hy; clear hy
      have HS := Lib.hid hS; clear hS hi8
      have HZ := Lib.hid hz; clear hz hz1 hw1
      go_wp2
      go_roundw
      case rel =>
        have e : (toB S n).getD k 0 = lo8 (shr y (8 * (k % 8))) := by rw [toB_at S n k hlt, sByte, HY.out]
        refine ⟨k + 1, by omega, by go_num, ?_, hg2.other _ _ _ (by omega), hf.setCell _ _ _ _ (fun h => absurd h (Nat.lt_irrefl _)), by have := HZ.out; simpa [World.setCell] using this⟩
        rw [← e]
        exact hh.fillB (by simp [toB_len]) (by simpa [toB_len] using hlt)
      case measure => simp [intOf]; omega
    · go_wp2
      go_ret
      obtain rfl : k = n := by omega
      rw [fill_all _ _ _ (by simp [toB_len]) (by simp [toB_len])] at hh
      exact ⟨rfl, hh, hf, hz⟩
end Go.Proofs.Ytdbgddngapminaa

/- the permutation of the program -/
namespace Go.Proofs.Ytdbgddngapminaa
open Go.RowKit Go.Mv Mvp

theorem colP_succ (s : List UInt64) (k : Nat) : colP s (k + 1) = colStep s (colP s k) k := by simp [colP, List.range_succ]
theorem colP_len (s : List UInt64) (k : Nat) : (colP s k).length = 5 := by
  induction k with
  | zero => simp [colP]
  | succ k ih => rw [colP_succ]; simp [colStep, ih]
theorem movP_succ (s c : List UInt64) (t : List Nat) (k : Nat) : movP s c t (k + 1) = movStep s c t (movP s c t k) k := by simp [movP, List.range_succ]
theorem movP_len (s c : List UInt64) (t : List Nat) (k : Nat) : (movP s c t k).length = 25 := by
  induction k with
  | zero => simp [movP]
  | succ k ih => rw [movP_succ]; simp [movStep, ih]

theorem zero_a25i : (Try.prog.info? 175).map (·.zero) = some (some (.agg (is (List.replicate 25 0)).toArray)) := by kernel_rfl
theorem zero_state : (Try.prog.info? 167).map (·.zero) = some (some (.agg (ws (List.replicate 25 0)).toArray)) := by kernel_rfl
theorem zero_a5 : (Try.prog.info? 177).map (·.zero) = some (some (.agg (ws (List.replicate 5 0)).toArray)) := by kernel_rfl

theorem size_u64w : (Try.prog.info? 22).map (·.size) = some 1 := by kernel_rfl
theorem permP_zero (t : List Nat) (rc : Nat → UInt64) (s : List UInt64) : permP t rc s 0 = s := by simp [permP]

theorem chiP_zero (m s : List UInt64) : chiP m s 0 = s := by simp [chiP]
theorem chiP_succ (m s : List UInt64) (k : Nat) : chiP m s (k + 1) = chiRow m (chiP m s k) (5 * k) 5 := by simp [chiP, List.range_succ]
theorem chiRow_zero (m s : List UInt64) (y : Nat) : chiRow m s y 0 = s := by simp [chiRow]
theorem chiRow_succ (m s : List UInt64) (y k : Nat) : chiRow m s y (k + 1) = chiStep m y (chiRow m s y k) k := by simp [chiRow, List.range_succ]
theorem chiRow_len (m s : List UInt64) (y k : Nat) : (chiRow m s y k).length = s.length := by
  induction k with
  | zero => simp [chiRow]
  | succ k ih => rw [chiRow_succ]; simp [chiStep, ih]
theorem turns_lt (k : Nat) : (turnsK 24).getD k 0 < 64 := by
  have h : ∀ k, k < 25 → (turnsK 24).getD k 0 < 64 := by decide +kernel
  rcases Nat.lt_or_ge k 25 with hk | hk
  · exact h k hk
  · rw [List.getD_eq_getElem?_getD, List.getElem?_eq_none (by rw [turnsK_len]; exact hk)]; simp
theorem goesTo_lt (k : Nat) (hk : k < 25) : goesTo k < 25 := by
  have h : ∀ k, k < 25 → goesTo k < 25 := by decide +kernel
  exact h k hk

theorem goesTo_same (k : Nat) (w : World) (hk : k ≤ 25) : Calls Try.prog 136 #[.int .i64 (k : Int)] w fun e w' => e = .returned (.int .i64 ((goesTo k : Nat) : Int)) ∧ w' = w :=
  (goesTo_any k w (by omega)).mono (fun _ _ h => ⟨h.1, h.2.symm⟩)
theorem rot_same (x : UInt64) (n : Nat) (hn : n < 64) (w : World) : Calls Try.prog 135 #[.int .u64 (x.toNat : Int), .int .i64 (n : Int)] w fun e w' => e = .returned (.int .u64 ((rotl x n).toNat : Int)) ∧ w' = w :=
  (rot_any x n hn w).mono (fun _ _ h => ⟨h.1, h.2.symm⟩)
theorem constP_same (r : Nat) (hr : r < 24) (w : World) : Calls Try.prog 137 #[.int .i64 (r : Int)] w fun e w' => e = .returned (.int .u64 ((rcP r 8).toNat : Int)) ∧ w' = w :=
  (constP_any r hr w).mono (fun _ _ h => ⟨h.1, h.2.symm⟩)
theorem rot1_any (x : UInt64) (w : World) : Calls Try.prog 135 #[.int .u64 (x.toNat : Int), .int .i64 1] w fun e w' => e = .returned (.int .u64 ((rotl x 1).toNat : Int)) ∧ w' = w :=
  (rot_any x 1 (by omega) w).mono (fun _ _ h => ⟨h.1, h.2.symm⟩)

set_option maxHeartbeats 4000000 in
set_option maxRecDepth 1000000 in
theorem permute_any (g : Nat) (S : List UInt64) (tail : List Value) (T : TypeId) (w : World) (hS : S.length = 25) (hg : Has w g (ws S ++ tail) T) :
    Calls Try.prog 132 #[.pointer (some ⟨g, 0, none⟩)] w fun e w' => e = .returned (.tuple #[]) ∧ Has w' g (ws (permP (turnsK 24) (fun r => rcP r 8) S 24) ++ tail) T ∧ Fr (One g) w w' := by
  go_enter Try.func132, Try.ntmps132
  go_wp2_with (first
    | (go_at_call 134; refine (turns_any _).mono ?_; rintro e w1 ⟨rfl, hf1⟩)
    | (with_reducible refine wl_stop (o := ⟨_, .alloc 175, _, _, _, _⟩) ?_))
  have hgl := hg.lt
  refine wl_alloc rfl rfl zero_a25i (is (List.replicate 25 0)) (by simp [Value.cells]) ?_
  intro w2 hb2 hf2 hz2
  have hg2 := (hg.keep hf1 id).keep hf2 id
  have hgs := hf1.size
  generalize hbt : w1.heap.size = bt at *
  go_wp2_with (with_reducible refine wl_stop (o := ⟨none, .store 175 _ _, _, _, _, _⟩) ?_)
  refine wl_storeA rfl rfl rfl rfl hb2 (by simp [length_is, turnsK_len]) (by rw [length_is, turnsK_len]; exact size_a25i) ?_ ?_
  · intro v hv; simp [is] at hv; obtain ⟨x, _, rfl⟩ := hv; rfl
  intro w3 hb3 hf3 hz3
  rw [splice_whole _ _ (by simp [length_is, turnsK_len])] at hb3
  have hg3 := hg2.keep hf3 (fun (h : g = bt) => by omega)
  have hfr : Fr (One g) w w3 := ((Fr.refl (One g) w).same hf1).same hf2 |>.new hf3 (by omega)
  clear hb2 hg2 hf1 hf2 hf3 hg
  go_wp2_with fail
  go_loopw [15] (fun i wr => ∃ r : Nat, r ≤ 24 ∧ i = .int .i64 r ∧ Has wr g (ws (permP (turnsK 24) (fun r => rcP r 8) S r) ++ tail) T ∧ Has wr bt (is (turnsK 24)) 175 ∧ Fr (One g) w wr) (fun i _ => (24 - intOf i).toNat)
  case atStart => exact ⟨0, by omega, rfl, by rw [permP_zero]; exact hg3, hb3, hfr⟩
  case round =>
    obtain ⟨r, hr, rfl, hgr, hbr, hf⟩ := hrel
    clear hg3 hb3 hfr
    by_cases hlt : r < 24
    · have hltI : (r : Int) < 24 := by omega
      have hpl := permP_len (turnsK 24) (fun r => rcP r 8) S r
      rw [hS] at hpl
      generalize hrs : permP (turnsK 24) (fun r => rcP r 8) S r = s at *
      have HR := Lib.hid hrs; clear hrs
      go_wp2_with (with_reducible refine wl_stop (o := ⟨_, .alloc 177, _, _, _, _⟩) ?_)
      refine wl_alloc rfl rfl zero_a5 (ws (List.replicate 5 0)) (by simp [Value.cells]) ?_
      intro w4 hc4 hf4 hz4
      have hg4 := hgr.keep hf4 id
      have hb4 := hbr.keep hf4 id
      have hfr4 := hf.same hf4
      have hgc := hgr.lt
      have hbc := hbr.lt
      have hwc := hf.size
      generalize wr.heap.size = gc at *
      clear hgr hbr hf hf4 hz4
      go_wp2_with fail
      go_loopw [19] (fun i wr => ∃ k : Nat, k ≤ 25 ∧ i = .int .i64 k ∧ Has wr gc (ws (colP s k)) 177 ∧ Has wr g (ws s ++ tail) T ∧ Has wr bt (is (turnsK 24)) 175 ∧ Fr (One g) w wr) (fun i _ => (25 - intOf i).toNat)
      case atStart => exact ⟨0, by omega, rfl, hc4, hg4, hb4, hfr4⟩
      case round =>
        obtain ⟨k, hk, rfl, hck, hgk, hbk, hf⟩ := hrel
        clear hc4 hg4 hb4 hfr4
        by_cases hlt2 : k < 25
        · have hs : wr.cell? ⟨g, k, none⟩ = some (.int .u64 ((s.getD k 0).toNat : Int)) := hgk.cell (by rw [List.getElem?_append_left (by rw [length_ws, hpl]; exact hlt2)]; exact ws_get _ _ (by rw [hpl]; exact hlt2))
          have hc : wr.cell? ⟨gc, k % 5, none⟩ = some (.int .u64 (((colP s k).getD (k % 5) 0).toNat : Int)) := hck.cell (ws_get _ _ (by rw [colP_len]; omega))
          have hfc : wr.frozen? ⟨gc, k % 5, none⟩ = false := hck.free _ (by rw [length_ws, colP_len]; omega)
          have hlo : (0 : Int) ≤ (k : Int) ∧ (k : Int) < 25 ∧ (0 : Int) ≤ (k : Int) % 5 ∧ (k : Int) % 5 < 5 := by omega
          generalize hx : s.getD k 0 = x at hs
          generalize hy : (colP s k).getD (k % 5) 0 = y at hc
          have HX := Lib.hid hx; clear hx
          have HY := Lib.hid hy; clear hy
          have HS := Lib.hid hpl; clear hpl
          have HS2 := Lib.hid hS; clear hS
          go_wp2
          go_region
          all_goals go_wp2
          go_roundw
          case rel =>
            have e : colP s (k + 1) = (colP s k).set (k % 5) (wx y x) := by rw [colP_succ, colStep, HX.out, HY.out]; rfl
            refine ⟨k + 1, by omega, by go_num, ?_, (hgk.other _ _ _ (by omega)).drew, (hbk.other _ _ _ (by omega)).drew, (hf.setCell _ _ _ _ (fun h => by omega)).drew⟩
            rw [e, ← ws_set]
            exact (hck.set _ _).drew
          case measure => simp [intOf]; omega
        · have hk25 : k = 25 := by omega
          subst hk25
          go_wp2_with (with_reducible refine wl_stop (o := ⟨_, .alloc 167, _, _, _, _⟩) ?_)
          refine wl_alloc rfl rfl zero_state (ws (List.replicate 25 0)) (by simp [Value.cells]) ?_
          intro w5 hm5 hf5 hz5
          have hc5 := hck.keep hf5 id
          have hg5 := hgk.keep hf5 id
          have hb5 := hbk.keep hf5 id
          have hfr5 := hf.same hf5
          have hcm := hck.lt
          have hgm := hgk.lt
          have hbm := hbk.lt
          have hwm := hf.size
          generalize wr.heap.size = gm at *
          generalize hcol : colP s 25 = col at *
          clear hck hgk hbk hf hf5 hz5
          have hcl : col.length = 5 := by rw [← hcol, colP_len]
          have HC := Lib.hid hcol; clear hcol
          have HCL := Lib.hid hcl; clear hcl
          go_wp2_with fail
          go_loopw [34] (fun i wr => ∃ k : Nat, k ≤ 25 ∧ i = .int .i64 k ∧ Has wr gm (ws (movP s col (turnsK 24) k)) 167 ∧ Has wr gc (ws col) 177 ∧ Has wr g (ws s ++ tail) T ∧ Has wr bt (is (turnsK 24)) 175 ∧ Fr (One g) w wr) (fun i _ => (25 - intOf i).toNat)
          case atStart => exact ⟨0, by omega, rfl, hm5, hc5, hg5, hb5, hfr5⟩
          case round =>
            obtain ⟨k, hk, rfl, hmk, hck, hgk, hbk, hf⟩ := hrel
            clear hm5 hc5 hg5 hb5 hfr5
            by_cases hlt3 : k < 25
            · have hs : wr.cell? ⟨g, k, none⟩ = some (.int .u64 ((s.getD k 0).toNat : Int)) := hgk.cell (by rw [List.getElem?_append_left (by rw [length_ws, hpl]; exact hlt3)]; exact ws_get _ _ (by rw [hpl]; exact hlt3))
              have hc4 : wr.cell? ⟨gc, (k + 4) % 5, none⟩ = some (.int .u64 ((col.getD ((k + 4) % 5) 0).toNat : Int)) := hck.cell (ws_get _ _ (by rw [HCL.out]; omega))
              have hc1 : wr.cell? ⟨gc, (k + 1) % 5, none⟩ = some (.int .u64 ((col.getD ((k + 1) % 5) 0).toNat : Int)) := hck.cell (ws_get _ _ (by rw [HCL.out]; omega))
              have hby : wr.cell? ⟨bt, k, none⟩ = some (.int .i64 (((turnsK 24).getD k 0 : Nat) : Int)) := hbk.cell (is_get _ _ (by rw [turnsK_len]; exact hlt3))
              have hbl : (turnsK 24).getD k 0 < 64 := turns_lt k
              have hgt : goesTo k < 25 := goesTo_lt k hlt3
              obtain ⟨v0, hcm0, hfm0⟩ := hmk.ready (i := goesTo k) (by rw [length_ws, movP_len]; exact hgt)
              have hlo : (0 : Int) ≤ (k : Int) ∧ (k : Int) < 25 ∧ (0 : Int) ≤ ((k : Int) + 4) % 5 ∧ ((k : Int) + 4) % 5 < 5 ∧ (0 : Int) ≤ ((k : Int) + 1) % 5 ∧ ((k : Int) + 1) % 5 < 5 := by omega
              generalize hx : s.getD k 0 = x at hs
              generalize hy4 : col.getD ((k + 4) % 5) 0 = y4 at hc4
              generalize hy1 : col.getD ((k + 1) % 5) 0 = y1 at hc1
              generalize hn : (turnsK 24).getD k 0 = n at hby hbl
              have HX := Lib.hid hx; clear hx
              have HY4 := Lib.hid hy4; clear hy4
              have HY1 := Lib.hid hy1; clear hy1
              have HN := Lib.hid hn; clear hn
              have HS := Lib.hid hpl; clear hpl
              have HS2 := Lib.hid hS; clear hS
              go_wp2
              go_region
              all_goals go_wp2
              have e1 : IntKind.i64.wrap ((k : Int) + 4) = (k : Int) + 4 := IntWalk.i64_in _ (by omega)
              have e2 : ((k : Int) + 4).tmod 5 = ((k : Int) + 4) % 5 := Int.tmod_eq_emod_of_nonneg (by omega)
              have e3 : (((k : Int) + 4) % 5).toNat = (k + 4) % 5 := by omega
              have e4 : IntKind.i64.wrap ((k : Int) + 1) = (k : Int) + 1 := IntWalk.i64_in _ (by omega)
              have e5 : ((k : Int) + 1).tmod 5 = ((k : Int) + 1) % 5 := Int.tmod_eq_emod_of_nonneg (by omega)
              have e6 : (((k : Int) + 1) % 5).toNat = (k + 1) % 5 := by omega
              go_quiet ((go_at_call 135; exact quiet_more (rot1_any _ _)))
              clear e1 e2 e3 e4 e5 e6
              go_wp2_with fail
              have HG := Lib.hid hgt; clear hgt
              have hgi : (0 : Int) ≤ (goesTo k : Int) ∧ (goesTo k : Int) < 25 := by have := HG.out; omega
              have hmz := hmk.drew.drewN nq
              have hcz := hck.drew.drewN nq
              have hgz := hgk.drew.drewN nq
              have hbz := hbk.drew.drewN nq
              have hfz := hf.drew.drewN nq
              have hbyz : (wr.drew.drewN nq).cell? ⟨bt, k, none⟩ = some (.int .i64 (n : Int)) := hby
              have hmcz : (wr.drew.drewN nq).cell? ⟨gm, goesTo k, none⟩ = some v0 := hcm0
              have hmfz : (wr.drew.drewN nq).frozen? ⟨gm, goesTo k, none⟩ = false := hfm0
              clear hmk hck hgk hbk hf hby hcm0 hfm0 hs hc4 hc1
              generalize wr.drew.drewN nq = wz at *
              clear wr
              refine wp_region_still_tail 8 (by kernel_rfl) (by kernel_rfl) ?_
              simp only [List.take_succ_cons, List.take_zero, List.drop_succ_cons, List.drop_zero]
              repeat still_step
              still_call (goesTo_same k _ hk)
              repeat still_step
              still_call (rot_same _ n hbl _)
              repeat still_step
              refine wpStill_nil ?_
              go_wp2
              go_roundw
              case rel =>
                have e : movP s col (turnsK 24) (k + 1) = (movP s col (turnsK 24) k).set (goesTo k) (rotl (wx x (wx y4 (rotl y1 1))) n) := by
                  rw [movP_succ, movStep, HX.out, HY4.out, HY1.out, HN.out]; rfl
                refine ⟨k + 1, by omega, by go_num, ?_, (hcz.other _ _ _ (by omega)).drew, (hgz.other _ _ _ (by omega)).drew, (hbz.other _ _ _ (by omega)).drew, (hfz.setCell _ _ _ _ (fun h => by omega)).drew⟩
                rw [e, ← ws_set]
                exact (hmz.set _ _).drew
              case measure => simp [intOf]; omega
            · obtain rfl : k = 25 := by omega
              have hml := movP_len s col (turnsK 24) 25
              have hmw : movP s col (turnsK 24) 25 = movP s (colP s 25) (turnsK 24) 25 := by rw [HC.out]
              generalize hmv : movP s col (turnsK 24) 25 = mv at *
              have HM := Lib.hid hmw; clear hmw hmv
              have HML := Lib.hid hml; clear hml
              have HPL := Lib.hid hpl; clear hpl
              have HS2 := Lib.hid hS; clear hS
              clear hck
              go_wp2_with fail
              go_loopw [10] (fun i wr => ∃ j : Nat, j ≤ 5 ∧ i = .int .i64 ((5 * j : Nat) : Int) ∧ Has wr gm (ws mv) 167 ∧ Has wr g (ws (chiP mv s j) ++ tail) T ∧ Has wr bt (is (turnsK 24)) 175 ∧ Fr (One g) w wr) (fun i _ => (25 - intOf i).toNat)
              case atStart => exact ⟨0, by omega, rfl, hmk, by rw [chiP_zero]; exact hgk, hbk, hf⟩
              case round =>
                obtain ⟨j, hj, rfl, hmj, hgj, hbj, hfj⟩ := hrel
                clear hmk hgk hbk hf
                by_cases hlt4 : j < 5
                · have hlo : (0 : Int) ≤ 5 * (j : Int) ∧ 5 * (j : Int) < 25 ∧ 5 * (j : Int) ≤ 20 := by omega
                  obtain ⟨wo, rfl⟩ : ∃ wo : World, wo = wr := ⟨_, rfl⟩
                  go_wp2_with (with_reducible refine wl_stop (o := ⟨some 72, _, _, _, _, _⟩) ?_)
                  refine wl_cutA rfl rfl Try.underlying167 size_u64w rfl rfl rfl rfl (5 * j) (5 * j + 5) (5 * j + 5) (by simp) (by simp) (by simp) (by omega) (by omega) (by omega) (by omega) ?_
                  have e5 : 5 * j + 5 - 5 * j = 5 := by omega
                  rw [e5]
                  clear e5
                  go_wp2_with fail
                  go_loopw [75] (fun i wr => ∃ x : Nat, x ≤ 5 ∧ i = .int .i64 x ∧ Has wr gm (ws mv) 167 ∧ Has wr g (ws (chiRow mv (chiP mv s j) (5 * j) x) ++ tail) T ∧ Has wr bt (is (turnsK 24)) 175 ∧ Fr (One g) w wr) (fun i _ => (5 - intOf i).toNat)
                  case atStart => exact ⟨0, by omega, rfl, hmj, by rw [chiRow_zero]; exact hgj, hbj, hfj⟩
                  case round =>
                    obtain ⟨x, hx, rfl, hmx, hgx, hbx, hfx⟩ := hrel
                    clear hmj hgj hbj hfj
                    by_cases hlt5 : x < 5
                    · have hml : mv.length = 25 := HML.out
                      have hsl : (chiRow mv (chiP mv s j) (5 * j) x).length = 25 := by rw [chiRow_len, chiP_len]; exact HPL.out
                      have hx0 : wr.cell? ⟨gm, 5 * j + x, none⟩ = some (.int .u64 ((mv.getD (5 * j + x) 0).toNat : Int)) := hmx.cell (ws_get _ _ (by omega))
                      have hx1 : wr.cell? ⟨gm, 5 * j + (x + 1) % 5, none⟩ = some (.int .u64 ((mv.getD (5 * j + (x + 1) % 5) 0).toNat : Int)) := hmx.cell (ws_get _ _ (by omega))
                      have hx2 : wr.cell? ⟨gm, 5 * j + (x + 2) % 5, none⟩ = some (.int .u64 ((mv.getD (5 * j + (x + 2) % 5) 0).toNat : Int)) := hmx.cell (ws_get _ _ (by omega))
                      obtain ⟨v0, hc0, hf0⟩ := hgx.ready (i := 5 * j + x) (by rw [List.length_append, length_ws, hsl]; omega)
                      have hlo5 : (0 : Int) ≤ (x : Int) ∧ (x : Int) < 5 ∧ (0 : Int) ≤ ((x : Int) + 1) % 5 ∧ ((x : Int) + 1) % 5 < 5 ∧ (0 : Int) ≤ ((x : Int) + 2) % 5 ∧ ((x : Int) + 2) % 5 < 5 := by omega
                      have hlo6 : (0 : Int) ≤ 5 * (j : Int) + (x : Int) ∧ 5 * (j : Int) + (x : Int) < 25 := by omega
                      generalize hy0 : mv.getD (5 * j + x) 0 = y0 at hx0
                      generalize hy1 : mv.getD (5 * j + (x + 1) % 5) 0 = y1 at hx1
                      generalize hy2 : mv.getD (5 * j + (x + 2) % 5) 0 = y2 at hx2
                      have HY0 := Lib.hid hy0; clear hy0
                      have HY1 := Lib.hid hy1; clear hy1
                      have HY2 := Lib.hid hy2; clear hy2
                      have HSL := Lib.hid hsl; clear hsl hml
                      go_wp2_with fail
                      have e1 : IntKind.i64.wrap ((x : Int) + 1) = (x : Int) + 1 := IntWalk.i64_in _ (by omega)
                      have e2 : ((x : Int) + 1).tmod 5 = ((x : Int) + 1) % 5 := Int.tmod_eq_emod_of_nonneg (by omega)
                      have e3 : (((x : Int) + 1) % 5).toNat = (x + 1) % 5 := by omega
                      have e4 : IntKind.i64.wrap ((x : Int) + 2) = (x : Int) + 2 := IntWalk.i64_in _ (by omega)
                      have e5 : ((x : Int) + 2).tmod 5 = ((x : Int) + 2) % 5 := Int.tmod_eq_emod_of_nonneg (by omega)
                      have e6 : (((x : Int) + 2) % 5).toNat = (x + 2) % 5 := by omega
                      have e7 : IntKind.i64.wrap (5 * (j : Int) + (x : Int)) = 5 * (j : Int) + (x : Int) := IntWalk.i64_in _ (by omega)
                      have e8 : (5 * (j : Int) + (x : Int)).toNat = 5 * j + x := by omega
                      refine wp_region_still_tail 22 (by kernel_rfl) (by kernel_rfl) ?_
                      simp only [List.take_succ_cons, List.take_zero, List.drop_succ_cons, List.drop_zero]
                      repeat still_step
                      refine wpStill_nil ?_
                      go_wp2
                      go_roundw
                      case rel =>
                        have e : chiRow mv (chiP mv s j) (5 * j) (x + 1) = (chiRow mv (chiP mv s j) (5 * j) x).set (5 * j + x) (wx y0 (wa (wn y1) y2)) := by
                          rw [chiRow_succ, chiStep, HY0.out, HY1.out, HY2.out]; rfl
                        refine ⟨x + 1, by omega, by go_num, (hmx.other _ _ _ (by omega)).drew, ?_, (hbx.other _ _ _ (by omega)).drew, (hfx.setCell _ _ _ _ (fun _ => rfl)).drew⟩
                        rw [e, ← ws_set, ← List.set_append_left _ _ (by rw [length_ws, HSL.out]; omega)]
                        exact (hgx.set _ _).drew
                      case measure => simp [intOf]; omega
                    · have hge : ¬ ((x : Int) < 5) := by omega
                      have hx5 : x = 5 := by omega
                      have HX5 := Lib.hid hx5; clear hx5
                      go_wp2_with fail
                      go_roundw
                      case rel => exact ⟨j + 1, by omega, by omega, by rw [chiP_succ]; rw [HX5.out] at hgx; exact hgx⟩
                      case measure => simp [intOf]; omega
                · have hge : ¬ (5 * (j : Int) < 25) := by omega
                  have hj5 : j = 5 := by omega
                  have HJ5 := Lib.hid hj5; clear hj5
                  have hsl : (chiP mv s j).length = 25 := by rw [chiP_len]; exact HPL.out
                  have hc0 : wr.cell? ⟨g, 0, none⟩ = some (.int .u64 (((chiP mv s j).getD 0 0).toNat : Int)) := hgj.cell (by rw [List.getElem?_append_left (by rw [length_ws, hsl]; omega)]; exact ws_get _ _ (by rw [hsl]; omega))
                  have hf0 : wr.frozen? ⟨g, 0, none⟩ = false := hgj.free _ (by rw [List.length_append, length_ws, hsl]; omega)
                  generalize hy : (chiP mv s j).getD 0 0 = y at hc0
                  have HY := Lib.hid hy; clear hy
                  have HSL := Lib.hid hsl; clear hsl
                  go_wp2_with fail
                  refine wp_region_still_tail 9 (by kernel_rfl) (by kernel_rfl) ?_
                  simp only [List.take_succ_cons, List.take_zero, List.drop_succ_cons, List.drop_zero]
                  repeat still_step
                  still_call (constP_same r hlt _)
                  repeat still_step
                  refine wpStill_nil ?_
                  go_wp2
                  go_roundw
                  case rel =>
                    have e : permP (turnsK 24) (fun r => rcP r 8) S (r + 1) = (chiP mv s j).set 0 (wx y (rcP r 8)) := by
                      rw [permP_succ, HR.out, roundP, ← HM.out, ← HJ5.out, HY.out]; rfl
                    refine ⟨r + 1, by omega, by go_num, ?_, (hbj.other _ _ _ (by omega)).drew, (hfj.setCell _ _ _ _ (fun _ => rfl)).drew⟩
                    rw [e, ← ws_set, ← List.set_append_left _ _ (by rw [length_ws, HSL.out]; omega)]
                    exact (hgj.set _ _).drew
                  case measure => simp [intOf]; omega
    · obtain rfl : r = 24 := by omega
      go_wp2_with fail
      go_end0
      exact ⟨rfl, hgr, hf⟩
end Go.Proofs.Ytdbgddngapminaa

/- the reference's round -/
namespace Go.Proofs.Ytdbgddngapminaa
open Go.RowKit Go.Mv Mvp

end Go.Proofs.Ytdbgddngapminaa

/- Pure sponge: the permutation of bytes, both ways. -/
namespace Mvp

def zeros25 : List UInt64 := List.replicate 25 0
def permS (S : List UInt64) : List UInt64 := permP (turnsK 24) (fun r => rcP r 8) S 24
theorem permS_len (S : List UInt64) : (permS S).length = S.length := permP_len _ _ _ _
/- the reference's way: by or -/
/-- up to byte k each word has just the bits that have been laid -/
def low (s : List UInt64) (k : Nat) : Prop := ∀ j, j < 25 → (s.getD j 0).toNat < 2 ^ (8 * (k - 8 * j))
end Mvp

/- Permute, the program's and the reference's -/
namespace Go.Proofs.Ytdbgddngapminaa
open Go.RowKit Go.Mv Mvp

end Go.Proofs.Ytdbgddngapminaa

/- Permute of the reference -/
namespace Go.Proofs.Ytdbgddngapminaa
open Go.RowKit Go.Mv Mvp

end Go.Proofs.Ytdbgddngapminaa

/- Pure sponge: bytes are fed one by one; the sponge and what is hashed with it. -/
namespace Mvp

/-- one more byte: at the end of a piece the state is turned -/
def feed1 (st : List UInt64 × Nat) (x : UInt8) : List UInt64 × Nat :=
  if st.2 + 1 = 136 then (permS (xorStep st.1 st.2 x), 0) else (xorStep st.1 st.2 x, st.2 + 1)
def feed (st : List UInt64 × Nat) (l : List UInt8) : List UInt64 × Nat := l.foldl feed1 st
theorem feed_append (st : List UInt64 × Nat) (l m : List UInt8) : feed st (l ++ m) = feed (feed st l) m := by simp [feed]
theorem feed_nil (st : List UInt64 × Nat) : feed st [] = st := rfl
theorem feed_cons (st : List UInt64 × Nat) (x : UInt8) (l : List UInt8) : feed st (x :: l) = feed (feed1 st x) l := rfl

/-- bytes are added from place k on -/
def xorAt : List UInt64 → Nat → List UInt8 → List UInt64
  | S, _, [] => S
  | S, k, x :: l => xorAt (xorStep S k x) (k + 1) l
theorem xorStep_len (S : List UInt64) (k : Nat) (x : UInt8) : (xorStep S k x).length = S.length := by simp [xorStep]
theorem xorAt_len (l : List UInt8) : ∀ (S : List UInt64) (k : Nat), (xorAt S k l).length = S.length := by
  induction l with
  | nil => intro S k; rfl
  | cons x l ih => intro S k; rw [xorAt, ih, xorStep_len]
theorem feed_short (l : List UInt8) : ∀ (S : List UInt64) (k : Nat), k + l.length < 136 → feed (S, k) l = (xorAt S k l, k + l.length) := by
  induction l with
  | nil => intro S k _; rfl
  | cons x l ih =>
    intro S k h
    simp only [List.length_cons] at h
    rw [feed_cons, feed1, if_neg (by simp; omega), ih _ _ (by simp; omega), xorAt]
    simp; omega
theorem feed_full (l : List UInt8) : ∀ (S : List UInt64) (k : Nat), k + l.length = 136 → k < 136 → feed (S, k) l = (permS (xorAt S k l), 0) := by
  induction l with
  | nil => intro S k h h'; simp at h; omega
  | cons x l ih =>
    intro S k h h'
    simp only [List.length_cons] at h
    by_cases hl : l = []
    · subst hl
      simp at h
      rw [feed_cons, feed1, if_pos (by simp; omega), feed_nil]
      rfl
    · have hp : 0 < l.length := List.length_pos_iff.2 hl
      rw [feed_cons, feed1, if_neg (by simp; omega), ih _ _ (by simp; omega) (by simp; omega), xorAt]
theorem feed_lt (l : List UInt8) : ∀ (st : List UInt64 × Nat), st.2 < 136 → (feed st l).2 < 136 := by
  induction l with
  | nil => intro st h; exact h
  | cons x l ih =>
    intro st h
    rw [feed_cons]
    apply ih
    unfold feed1
    split
    · simp
    · simp; omega
theorem feed_len (l : List UInt8) : ∀ (st : List UInt64 × Nat), (feed st l).1.length = st.1.length := by
  induction l with
  | nil => intro st; rfl
  | cons x l ih =>
    intro st
    rw [feed_cons, ih]
    unfold feed1
    split
    · simp [permS_len, xorStep_len]
    · simp [xorStep_len]

theorem xorStep_zero (S : List UInt64) (k : Nat) : xorStep S k 0 = S := by
  have e : shl (wid 0) (8 * (k % 8)) = 0 := by
    apply UInt64.toNat_inj.1
    simp [shl, wid]
  unfold xorStep
  rw [e]
  have e2 : wx (S.getD (k / 8) 0) 0 = S.getD (k / 8) 0 := by simp [wx]
  rw [e2]
  rcases Nat.lt_or_ge (k / 8) S.length with h | h
  · have e3 : S.getD (k / 8) 0 = S[k / 8] := by simp [List.getD_eq_getElem?_getD, h]
    rw [e3]; simp
  · exact List.set_eq_of_length_le h
/-- the bytes of b are added, the first ones being 0 -/
theorem xorB_eq (S : List UInt64) (b : List UInt8) (n : Nat) : n ≤ b.length → xorB S b n = xorAt S 0 (b.take n) := by
  have key : ∀ (l : List UInt8) (S : List UInt64) (k : Nat) (x : UInt8), xorAt S k (l ++ [x]) = xorStep (xorAt S k l) (k + l.length) x := by
    intro l
    induction l with
    | nil => intro S k x; rfl
    | cons y l ih =>
      intro S k x
      rw [List.cons_append, xorAt, ih, xorAt]
      simp [Nat.add_assoc, Nat.add_comm 1]
  induction n with
  | zero => intro _; simp [xorB, xorAt]
  | succ n ih =>
    intro h
    have hn : n < b.length := by omega
    rw [xorB_succ, ih (by omega), List.take_succ_eq_append_getElem hn, key]
    congr 1
    · simp; omega
    · simp [List.getD_eq_getElem?_getD, hn]
theorem xorAt_zeros (S : List UInt64) (k : Nat) (l : List UInt8) : ∀ j, xorAt S j (List.replicate k 0 ++ l) = xorAt S (j + k) l := by
  induction k with
  | zero => intro j; simp
  | succ k ih =>
    intro j
    rw [List.replicate_succ, List.cons_append, xorAt, xorStep_zero, ih, Nat.add_assoc, Nat.add_comm 1 k]
/-- a piece with its bytes from place k on -/
theorem xorB_piece (S : List UInt64) (k : Nat) (l rest : List UInt8) : xorB S (List.replicate k 0 ++ l ++ rest) (k + l.length) = xorAt S k l := by
  rw [xorB_eq _ _ _ (by simp), List.take_left' (by simp), xorAt_zeros]
  simp

/- the sponge -/
attribute [local irreducible] permS toB
/-- what ends the text: so many bytes are in the last piece -/
def padL (k : Nat) (e : UInt8) : List UInt8 := ((e :: List.replicate (135 - k) 0).set (135 - k) (bx (((e :: List.replicate (135 - k) 0)).getD (135 - k) 0) 0x80))
theorem padL_len (k : Nat) (e : UInt8) (h : k < 136) : (padL k e).length = 136 - k := by simp [padL]; omega
/-- the state behind the text -/
def ended (st : List UInt64 × Nat) (e : UInt8) : List UInt64 := (feed st (padL st.2 e)).1
/-- k pieces of the answer -/
def squeeze (S : List UInt64) : Nat → List UInt8
  | 0 => []
  | k + 1 => toB S 136 ++ squeeze (permS S) k
def permN (S : List UInt64) : Nat → List UInt64
  | 0 => S
  | k + 1 => permN (permS S) k
theorem permN_succ (k : Nat) : ∀ (S : List UInt64), permN S (k + 1) = permS (permN S k) := by
  induction k with
  | zero => intro S; rfl
  | succ k ih => intro S; rw [permN, ih]; rfl
theorem permN_len (k : Nat) : ∀ (S : List UInt64), (permN S k).length = S.length := by
  induction k with
  | zero => intro S; rfl
  | succ k ih => intro S; rw [permN, ih, permS_len]
theorem squeeze_succ (k : Nat) : ∀ (S : List UInt64), squeeze S (k + 1) = squeeze S k ++ toB (permN S k) 136 := by
  induction k with
  | zero => intro S; simp [squeeze, permN]
  | succ k ih => intro S; rw [squeeze, ih (permS S)]; rw [squeeze, permN, List.append_assoc]
/-- enough pieces for n bytes -/
def pieces (n : Nat) : Nat := (n + 135) / 136
def outB (S : List UInt64) (n : Nat) : List UInt8 := (squeeze S (pieces n)).take n
/-- n bytes of the sponge -/
def spongeB (l : List UInt8) (e : UInt8) (n : Nat) : List UInt8 := outB (ended (feed (zeros25, 0) l) e) n
end Mvp

/- Pure sponge: words and their bytes are one. -/
namespace Mvp

end Mvp

/- absorber.write -/
namespace Go.Proofs.Ytdbgddngapminaa
open Go.RowKit Go.Mv Mvp

theorem zero_a136 : (Try.prog.info? 172).map (·.zero) = some (some (.agg (bs (List.replicate 136 0)).toArray)) := by kernel_rfl
/-- the cells of an absorber -/
def abs (st : List UInt64 × Nat) : List Value := ws st.1 ++ [.int .i64 (st.2 : Int)]
theorem abs_len (st : List UInt64 × Nat) : (abs st).length = st.1.length + 1 := by simp [abs, length_ws]
theorem abs_at (st : List UInt64 × Nat) (h : st.1.length = 25) : (abs st)[25]? = some (.int .i64 (st.2 : Int)) := by
  rw [abs, List.getElem?_append_right (by rw [length_ws, h]; omega), length_ws, h]; rfl
theorem abs_set (S : List UInt64) (k n : Nat) (h : S.length = 25) : (abs (S, k)).set 25 (.int .i64 (n : Int)) = abs (S, n) := by
  rw [abs, List.set_append_right _ _ (by rw [length_ws, h]; omega), length_ws, h]; rfl

theorem permS_def (S : List UInt64) : permP (turnsK 24) (fun r => rcP r 8) S 24 = permS S := by unfold permS; rfl
theorem abs_def (S : List UInt64) (k : Nat) : ws S ++ [Value.int .i64 (k : Int)] = abs (S, k) := by unfold abs; rfl
attribute [local irreducible] permS permP toB turnsK
/-- permute, of an absorber's state -/
theorem permute_abs (g : Nat) (S : List UInt64) (k : Nat) (w : World) (hS : S.length = 25) (hg : Has w g (abs (S, k)) 169) :
    Calls Try.prog 132 #[.pointer (some ⟨g, 0, none⟩)] w fun e w' => e = .returned (.tuple #[]) ∧ Has w' g (abs (permS S, k)) 169 ∧ Fr (One g) w w' := by
  rw [← abs_def] at hg
  refine (permute_any g S [.int .i64 (k : Int)] 169 w hS hg).mono ?_
  rintro e w' ⟨h1, h2, h3⟩
  rw [permS_def, abs_def] at h2
  exact ⟨h1, h2, h3⟩
theorem piece_eq (k p : Nat) (l : List UInt8) (hl : l.length = p) (h : k + p ≤ 136) : splice (bs (List.replicate 136 0)) k (bs l) = bs (List.replicate k 0 ++ l ++ List.replicate (136 - k - p) 0) := by
  unfold splice
  rw [length_bs, hl, bs_take, bs_drop, ← bs_append, ← bs_append, List.append_assoc]
  rw [List.take_replicate, Nat.min_eq_left (by omega), List.drop_replicate, Nat.sub_sub]
/-- the length of a slice value: for measures -/
def lenV : Value → Nat
  | .slice _ n _ => n
  | _ => 0

set_option maxHeartbeats 2000000 in
set_option maxRecDepth 1000000 in
theorem write_any (g : Nat) (st : List UInt64 × Nat) (b : Option Addr) (n c : Nat) (l : List UInt8) (w : World) (hS : st.1.length = 25) (hat : st.2 < 136) (hn : n ≤ 1000000) (hnc : n ≤ c) (hg : Has w g (abs st) 169) (hb : RdB w b n l) (hbg : Off (One g) b) :
    Calls Try.prog 130 #[.pointer (some ⟨g, 0, none⟩), .slice b n c] w fun e w' => e = .returned (.tuple #[]) ∧ Has w' g (abs (feed st l)) 169 ∧ Fr (One g) w w' := by
  go_enter Try.func130, Try.ntmps130
  go_wp2_with fail
  have hll := hb.len
  go_loopw [1] (fun v wr => ∃ (sj : List UInt64 × Nat) (r : List UInt8) (m : Nat) (a : Option Addr) (cc : Nat), v = .slice a m cc ∧ m ≤ cc ∧ m ≤ 1000000 ∧ RdB wr a m r ∧ Off (One g) a ∧ Has wr g (abs sj) 169 ∧ sj.2 < 136 ∧ sj.1.length = 25 ∧ feed sj r = feed st l ∧ Fr (One g) w wr) (fun v _ => lenV v)
  case atStart => exact ⟨st, l, n, b, c, rfl, hnc, hn, hb, hbg, hg, hat, hS, rfl, Fr.refl _ _⟩
  case round =>
    obtain ⟨⟨S, k⟩, r, m, a, cc, rfl, hcc, hmb, hra, hoa, hgj, hkj, hSj, hfe, hf⟩ := hrel
    clear hg hb hbg hat hS hll hn hnc
    simp only at hkj hSj
    have HF := Lib.hid hfe; clear hfe
    by_cases hlt : 0 < m
    · have hc25 : wr.cell? ⟨g, 25, none⟩ = some (.int .i64 (k : Int)) := hgj.cell (abs_at (S, k) hSj)
      have hf25 : wr.frozen? ⟨g, 25, none⟩ = false := hgj.free _ (by rw [abs_len]; simp only; omega)
      have HS := Lib.hid hSj; clear hSj
      go_wp2_with (with_reducible refine wl_stop (o := ⟨some 16, _, _, _, _, _⟩) ?_)
      obtain ⟨p, hp, hp1, hp2, hp3⟩ : ∃ p : Nat, (if 136 - (k : Int) < (m : Int) then 136 - (k : Int) else (m : Int)) = (p : Int) ∧ p ≤ m ∧ k + p ≤ 136 ∧ (p = m ∨ k + p = 136) := by
        refine ⟨min m (136 - k), ?_, by omega, by omega, by omega⟩
        split <;> omega
      refine wl_min rfl rfl rfl rfl p hp ?_
      clear hp
      have HP := Lib.hid hp3; clear hp3
      go_wp2_with (with_reducible refine wl_stop (o := ⟨_, .alloc 172, _, _, _, _⟩) ?_)
      refine wl_alloc rfl rfl zero_a136 (bs (List.replicate 136 0)) (by simp [Value.cells]) ?_
      intro w1 hp1' hf1 hz1
      have hg1 := hgj.keep hf1 id
      have hr1 := hra.still hf1
      have hc1 : w1.cell? ⟨g, 25, none⟩ = some (.int .i64 (k : Int)) := hf1.cell id hc25
      have hgp : g < wr.heap.size := hgj.lt
      have hfr1 := hf.same hf1
      have hpw : w.heap.size ≤ wr.heap.size := hf.size
      have hra0 : Off (One wr.heap.size) a := fun x hx (e : x.block = wr.heap.size) => by
        obtain ⟨bb, o, rfl, hat⟩ := Rd.at hra hlt
        have := Rd.lt hra hlt
        simp only [Option.some.injEq] at hx
        subst hx
        simp at e
        omega
      generalize wr.heap.size = gp at *
      clear hgj hra hc25 hf25 hf1 hz1
      have hk136 : k < 136 := hkj
      go_wp2_with fail
      have e1 : ∀ wx, (Instr.sliceAt 172 (.pointer (some ⟨gp, 0, none⟩)) (some (.int .i64 (k : Int))) none none).run Try.prog wx = .ok (.slice (some ⟨gp, k, none⟩) (136 - k) (136 - k)) wx := fun wx => by
        have := run_sliceA_lo wx Try.underlying172 size_u8 gp 0 .i64 k hk136
        rwa [Nat.zero_add] at this
      have e2 : ∀ wx, (Instr.sliceAt 34 (.slice a m cc) none (some (.int .i64 (p : Int))) none).run Try.prog wx = .ok (.slice a p cc) wx := fun wx => run_slice_hi wx Try.underlying34 size_u8 a m cc .i64 p (by omega)
      refine wp_region_still_tail 8 (by kernel_rfl) (by kernel_rfl) ?_
      simp only [List.take_succ_cons, List.take_zero, List.drop_succ_cons, List.drop_zero]
      repeat still_step
      refine wpStill_nil ?_
      show wpList _ _ _ _ _ w1.drew
      have hrp : Rd w1.drew a p (bs (r.take p)) := by
        have hlen := hr1.len
        refine ⟨by rw [length_bs, List.length_take]; omega, hr1.2.imp (fun h0 => by omega) ?_⟩
        rintro ⟨b, o, rfl, hc⟩
        refine ⟨b, o, rfl, fun i v hv => ?_⟩
        have := hc i v
        rw [← bs_take, List.getElem?_take] at hv
        split at hv
        · exact hc i v hv
        · cases hv
      refine wl_copy rfl rfl Try.underlying34 size_u8 rfl rfl (hp1'.drew) hrp (bs_one _) (by rw [length_bs, List.length_replicate]; omega) ?_
      intro w2 hp2' hf2 hz2
      have hmin : min p (136 - k) = p := by omega
      have hrl : (r.take p).length = p := by rw [List.length_take, hr1.len]; omega
      rw [hmin, List.take_of_length_le (by rw [length_bs, hrl]; exact Nat.le_refl _), piece_eq k p _ hrl hp2] at hp2'
      have hg2 := hg1.drew.keep hf2 (fun (h : g = gp) => by omega)
      have hr2 : RdB w2 a m r := hr1.keep ((Fr.refl (One gp) w1).drew.trans hf2 (fun _ _ t => t)) hra0
      have hfr2 : Fr (One g) w w2 := (hfr1.drew).new hf2 hpw
      have hgp2 := hp2'.lt
      clear hp1' hg1 hr1 hc1 hfr1 hf2 hz2 hrp e1 e2 hmin
      go_wp2_with fail
      have hc2 : w2.cell? ⟨g, 25, none⟩ = some (.int .i64 (k : Int)) := hg2.cell (abs_at (S, k) HS.out)
      have e3 : ∀ wx, (Instr.sliceAt 172 (.pointer (some ⟨gp, 0, none⟩)) none (some (.int .i64 ((k : Int) + (p : Int)))) none).run Try.prog wx = .ok (.slice (some ⟨gp, 0, none⟩) (k + p) 136) wx := fun wx =>
        run_sliceA_hi wx Try.underlying172 size_u8 gp 0 .i64 (k + p) hp2
      have e4 : IntKind.i64.wrap ((k : Int) + (p : Int)) = (k : Int) + (p : Int) := IntWalk.i64_in _ (by omega)
      refine wp_region_still_tail 10 (by kernel_rfl) (by kernel_rfl) ?_
      simp only [List.take_succ_cons, List.take_zero, List.drop_succ_cons, List.drop_zero]
      repeat still_step
      refine wpStill_nil ?_
      show wpList _ _ _ _ _ w2.drew
      go_wp2_with fail
      have hrd : RdB w2.drew (some ⟨gp, 0, none⟩) (k + p) (List.replicate k 0 ++ r.take p) := by
        have := Rd.ofHas hp2'.drew 0 (n := k + p) (by rw [length_bs, List.length_append, List.length_append, List.length_replicate, List.length_replicate, hrl]; omega)
        rw [List.drop_zero, bs_take, List.take_left' (by simp [hrl])] at this
        exact this
      refine (xor_any g S [.int .i64 (k : Int)] 169 _ (k + p) _ _ _ HS.out (by omega) hg2.drew hrd (fun x hx (e : x.block = g) => by simp only [Option.some.injEq] at hx; subst hx; simp at e; omega)).mono ?_
      rintro e w3 ⟨rfl, hg3, hf3, hz3⟩
      have hxb : xorB S (List.replicate k 0 ++ r.take p) (k + p) = xorAt S k (r.take p) := by
        have := xorB_piece S k (r.take p) []
        rwa [List.append_nil, hrl] at this
      rw [hxb] at hg3
      have hr3 : RdB w3 a m r := hr2.keep ((Fr.refl (One g) w2).drew.trans hf3 (fun _ _ t => t)) hoa
      have hfr3 : Fr (One g) w w3 := hfr2.drew.trans hf3 (fun _ _ t => t)
      have hSl : (xorAt S k (r.take p)).length = 25 := by rw [xorAt_len, HS.out]
      have hfeed : feed (feed (S, k) (r.take p)) (r.drop p) = feed st l := by rw [← feed_append, List.take_append_drop]; exact HF.out
      clear hg2 hr2 hfr2 hp2' hgp2 hc2 e3 e4 hrd hf3 hz3 hxb
      have hc3 : w3.cell? ⟨g, 25, none⟩ = some (.int .i64 (k : Int)) := hg3.cell (abs_at (_, k) hSl)
      have hf3 : w3.frozen? ⟨g, 25, none⟩ = false := hg3.free _ (by rw [List.length_append, length_ws, hSl]; simp)
      generalize hxs : xorAt S k (r.take p) = S3 at *
      have HXS := Lib.hid hxs; clear hxs
      have HFE := Lib.hid hfeed; clear hfeed
      have HSL := Lib.hid hSl; clear hSl
      have HRL := Lib.hid hrl; clear hrl
      go_wp2_with (with_reducible refine wl_stop (o := ⟨some 47, _, _, _, _, _⟩) ?_)
      refine wl_cut rfl rfl Try.underlying34 size_u8 rfl p m ⟨_, rfl⟩ rfl hp1 hcc ?_
      have hg4 : Has (w3.setCell ⟨g, 25, none⟩ (.int .i64 ((k + p : Nat) : Int))) g (abs (S3, k + p)) 169 := by
        have := hg3.set 25 (.int .i64 ((k + p : Nat) : Int))
        rw [show ws S3 ++ [Value.int .i64 (k : Int)] = abs (S3, k) from rfl, abs_set _ _ _ HSL.out] at this
        exact this
      have hr4 : RdB (w3.setCell ⟨g, 25, none⟩ (.int .i64 ((k + p : Nat) : Int))) (cutAt a p cc) (m - p) (r.drop p) := by
        have h1 := hr3.keep ((Fr.refl (One g) w3).setCell g 25 none (.int .i64 ((k + p : Nat) : Int)) (fun _ => rfl)) hoa
        have h2 := cutAt_rd h1 p m cc hp1 hcc (Nat.le_refl _)
        rw [bs_drop, bs_take] at h2
        rwa [List.take_of_length_le (by rw [List.length_drop, h1.len]; exact Nat.le_refl _)] at h2
      have hfr4 : Fr (One g) w (w3.setCell ⟨g, 25, none⟩ (.int .i64 ((k + p : Nat) : Int))) := hfr3.setCell g 25 none _ (fun _ => rfl)
      have hoff4 := cutAt_off hoa p cc
      have hsp : Value.int .i64 ((k : Int) + (p : Int)) = .int .i64 ((k + p : Nat) : Int) := by simp
      simp only [Int.natCast_add] at hg4 hr4 hfr4
      generalize w3.setCell ⟨g, 25, none⟩ (.int .i64 ((k : Int) + (p : Int))) = w4 at *
      clear hsp hg3 hr3 hfr3 hc3 hf3
      by_cases hfull : k + p = 136
      · have hfb : ((k : Int) + (p : Int) == 136) = true := by rw [beq_iff_eq]; omega
        have HFULL := Lib.hid hfull; clear hfull
        have hc4 : w4.cell? ⟨g, 25, none⟩ = some (.int .i64 ((k : Int) + (p : Int))) := hg4.cell (abs_at (S3, k + p) HSL.out)
        go_wp2_with fail
        refine (permute_abs g S3 (k + p) _ HSL.out hg4).mono ?_
        rintro e w5 ⟨rfl, hg5', hf5⟩
        have hr5 := hr4.keep hf5 hoff4
        have hfr5 : Fr (One g) w w5 := hfr4.trans hf5 (fun _ _ t => t)
        have hpl : (permS S3).length = 25 := by rw [permS_len, HSL.out]
        have hc5 : w5.cell? ⟨g, 25, none⟩ = some (.int .i64 ((k + p : Nat) : Int)) := hg5'.cell (abs_at (_, k + p) hpl)
        have hf5f : w5.frozen? ⟨g, 25, none⟩ = false := hg5'.free _ (by rw [abs_len]; simp only; omega)
        clear hg4 hr4 hfr4 hc4 hf5
        have HPL := Lib.hid hpl; clear hpl
        go_wp2_with fail
        go_roundw
        case rel =>
          have e : feed (S, k) (r.take p) = (permS S3, 0) := by rw [feed_full _ _ _ (by rw [HRL.out]; exact HFULL.out) hkj, HXS.out]
          have h2 := HFE.out
          rw [e] at h2
          have hg6 := hg5'.set 25 (.int .i64 ((0 : Nat) : Int))
          rw [abs_set _ _ _ HPL.out] at hg6
          exact ⟨(permS S3, 0), r.drop p, m - p, cutAt a p cc, cc - p, rfl, by omega, by omega, hr5.keep ((Fr.refl (One g) w5).setCell g 25 none _ (fun _ => rfl)) hoff4, hoff4, hg6, by simp, HPL.out, h2, hfr5.setCell g 25 none _ (fun _ => rfl)⟩
        case measure => have := HP.out; simp [lenV]; omega
      · have hfb : ((k : Int) + (p : Int) == 136) = false := by rw [beq_eq_false_iff_ne]; omega
        have hc4 : w4.cell? ⟨g, 25, none⟩ = some (.int .i64 ((k : Int) + (p : Int))) := hg4.cell (abs_at (S3, k + p) HSL.out)
        have hlt136 : k + p < 136 := by omega
        go_wp2_with fail
        go_roundw
        case rel =>
          have e : feed (S, k) (r.take p) = (S3, k + p) := by rw [feed_short _ _ _ (by rw [HRL.out]; exact hlt136), HXS.out, HRL.out]
          have h2 := HFE.out
          rw [e] at h2
          exact ⟨(S3, k + p), r.drop p, m - p, cutAt a p cc, cc - p, rfl, by omega, by omega, hr4, hoff4, hg4, hlt136, HSL.out, h2, hfr4⟩
        case measure => have := HP.out; simp [lenV]; omega
    · have hge : ¬ 0 < m := hlt
      have hm0 : m = 0 := by omega
      have hr0 : r = [] := List.eq_nil_of_length_eq_zero (by rw [hra.len, hm0])
      have HR := Lib.hid hr0; clear hr0 hm0
      go_wp2_with fail
      go_end0
      have h2 := HF.out
      rw [HR.out, feed_nil] at h2
      exact ⟨rfl, by rw [← h2]; exact hgj, hf⟩
end Go.Proofs.Ytdbgddngapminaa

/- The reference's sponge, on bytes: what it computes is the sponge on words. -/
namespace Mvp

/-- bytes of the state, j of them added to -/
def addB (b p : List UInt8) : Nat → List UInt8
  | 0 => b
  | j + 1 => (addB b p j).set j (bx ((addB b p j).getD j 0) (p.getD j 0))
end Mvp

/- The reference's sponge -/
namespace Go.Proofs.Ytdbgddngapminaa
open Go.RowKit Go.Mv Mvp
attribute [local irreducible] permS permP toB turnsK squeeze permN
theorem Rd.take {w : World} {a : Option Addr} {n : Nat} {vs : List Value} (h : Rd w a n vs) (p : Nat) (hp : p ≤ n) : Rd w a p (vs.take p) := by
  refine ⟨by rw [List.length_take, h.len]; omega, h.2.imp (fun h0 => by omega) ?_⟩
  rintro ⟨b, o, rfl, hc⟩
  refine ⟨b, o, rfl, fun i v hv => ?_⟩
  rw [List.getElem?_take] at hv
  split at hv
  · exact hc i v hv
  · cases hv
theorem mkS_append (l m : List UInt8) : mkS l ++ mkS m = mkS (l ++ m) := by
  apply ByteArray.ext
  simp [mkS]
end Go.Proofs.Ytdbgddngapminaa

/- absorber.out, and what hashes with it -/
namespace Go.Proofs.Ytdbgddngapminaa
open Go.RowKit Go.Mv Mvp
theorem squeeze_zero (S : List UInt64) : squeeze S 0 = [] := by unfold squeeze; rfl
theorem permN_zero (S : List UInt64) : permN S 0 = S := by unfold permN; rfl
/-- `v[:n:n]` of an owned slice is owned -/
theorem own_cut {w : World} {base : Nat} {T : TypeId} {a : Option Addr} {m c : Nat} {L : List Value} (h : Own w base T 1 (.slice a m c) m L) (n : Nat) (hn : n ≤ m) : Own w base T 1 (.slice a n n) n (L.take n) := by
  obtain ⟨hl, h | ⟨g, o, cap, B, hv, hb, hg, h1, h2, h3, h4⟩⟩ := h
  · obtain ⟨hv, hm⟩ := h
    cases hv
    have : n = 0 := by omega
    subst this
    exact ⟨by simp, .inl ⟨rfl, rfl⟩⟩
  · cases hv
    refine ⟨by rw [List.length_take]; omega, .inr ⟨g, o, n, B, rfl, hb, hg, Nat.le_refl _, by omega, by omega, ?_⟩⟩
    rw [← h4, List.take_take]
    congr 1
    omega
attribute [local irreducible] permS permP toB turnsK squeeze permN
theorem last_eq (k : Nat) (e : UInt8) (h : k < 136) : ((List.replicate 136 (0 : UInt8)).set k e).set 135 (bx (((List.replicate 136 (0 : UInt8)).set k e).getD 135 0) 0x80) = List.replicate k 0 ++ padL k e := by
  have h1 : (List.replicate 136 (0 : UInt8)).set k e = List.replicate k 0 ++ (e :: List.replicate (135 - k) 0) := by
    have : (List.replicate 136 (0 : UInt8)) = List.replicate k 0 ++ (0 :: List.replicate (135 - k) 0) := by
      rw [← List.replicate_succ, List.replicate_append_replicate]; congr 1; omega
    rw [this, List.set_append_right _ _ (by simp)]
    simp
  have h2 : (List.replicate k 0 ++ (e :: List.replicate (135 - k) 0)).getD 135 0 = (e :: List.replicate (135 - k) 0).getD (135 - k) 0 := by
    rw [List.getD_eq_getElem?_getD, List.getD_eq_getElem?_getD, List.getElem?_append_right (by simp; omega), List.length_replicate]
  rw [h1, h2, List.set_append_right _ _ (by simp; omega)]
  simp only [List.length_replicate, padL]
theorem pieces_lt (n j : Nat) : 136 * j < n ↔ j < pieces n := by unfold pieces; omega

set_option maxHeartbeats 2000000 in
set_option maxRecDepth 1000000 in
theorem out_any (g : Nat) (S : List UInt64) (k : Nat) (e : UInt8) (n : Nat) (w : World) (hS : S.length = 25) (hk : k < 136) (hn : n ≤ 20000) (hg : Has w g (abs (S, k)) 169) :
    Calls Try.prog 129 #[.pointer (some ⟨g, 0, none⟩), .int .u8 (e.toNat : Int), .int .i64 (n : Int)] w fun r w' => ∃ v, r = .returned v ∧ Own w' w.heap.size 5 1 v n (bs (outB (ended (S, k) e) n)) ∧ Fr (One g) w w' := by
  go_enter Try.func129, Try.ntmps129
  go_wp2_with (with_reducible refine wl_stop (o := ⟨_, .alloc 172, _, _, _, _⟩) ?_)
  refine wl_alloc rfl rfl zero_a136 (bs (List.replicate 136 0)) (by simp [Value.cells]) ?_
  intro w1 hl1 hf1 hz1
  have hg1 := hg.keep hf1 id
  have hgl := hg.lt
  have hfr1 : Fr (One g) w w1 := (Fr.refl (One g) w).same hf1
  have hb0 : w.heap.size ≤ w1.heap.size := hf1.size
  generalize hgl0 : w.heap.size = gl at *
  have HGL := Lib.hid hgl0; clear hgl0
  clear hf1 hz1 hg
  have hc25 : w1.cell? ⟨g, 25, none⟩ = some (.int .i64 (k : Int)) := hg1.cell (abs_at (S, k) hS)
  obtain ⟨vk, hck, hfk⟩ := hl1.ready (i := k) (by rw [length_bs]; simpa using hk)
  have hkI : (k : Int) < 136 := by omega
  go_wp2_with (with_reducible refine wl_stop (o := ⟨some 15, _, _, _, _, _⟩) ?_)
  have hl2 := hl1.set k (.int .u8 (e.toNat : Int))
  rw [bs_set] at hl2
  have hg2 := hg1.other (g' := gl) k none (.int .u8 (e.toNat : Int)) (by omega)
  have hfr2 : Fr (One g) w (w1.setCell ⟨gl, k, none⟩ (.int .u8 (e.toNat : Int))) := hfr1.setCell gl k none _ (fun h => by have := HGL.out; omega)
  have hsz2 : gl < (w1.setCell ⟨gl, k, none⟩ (.int .u8 (e.toNat : Int))).heap.size := hl2.lt
  generalize w1.setCell ⟨gl, k, none⟩ (.int .u8 (e.toNat : Int)) = w2 at *
  clear hl1 hg1 hfr1 hc25 hck hfk hb0
  have hc135 : w2.cell? ⟨gl, 135, none⟩ = some (.int .u8 ((((List.replicate 136 (0 : UInt8)).set k e).getD 135 0).toNat : Int)) := hl2.cell (bs_get _ _ (by simp))
  have hf135 : w2.frozen? ⟨gl, 135, none⟩ = false := hl2.free _ (by rw [length_bs]; simp)
  generalize hy : ((List.replicate 136 (0 : UInt8)).set k e).getD 135 0 = y at hc135
  have HY := Lib.hid hy; clear hy
  show wpList _ _ _ _ _ _
  go_wp2_with fail
  have hbx : bits BinOp.xor IntKind.u8 (y.toNat : Int) 128 = ((bx y 128).toNat : Int) := xor8_run y 128
  rw [hbx]
  have hl3 := hl2.set 135 (.int .u8 ((bx y 0x80).toNat : Int))
  rw [bs_set, ← HY.out, last_eq k e hk] at hl3
  rw [HY.out] at hl3
  have hg3 := hg2.other (g' := gl) 135 none (.int .u8 ((bx y 128).toNat : Int)) (by omega)
  have hfr3 : Fr (One g) w (w2.setCell ⟨gl, 135, none⟩ (.int .u8 ((bx y 128).toNat : Int))) := hfr2.setCell gl 135 none _ (fun h => by have := HGL.out; omega)
  generalize w2.setCell ⟨gl, 135, none⟩ (.int .u8 ((bx y 128).toNat : Int)) = w3 at *
  have hpl : (padL k e).length = 136 - k := padL_len k e hk
  have hne : g ≠ gl := by omega
  clear hl2 hg2 hfr2 hc135 hf135 hbx hsz2 HY
  have e1 : ∀ wx, (Instr.sliceAt 172 (.pointer (some ⟨gl, 0, none⟩)) none none none).run Try.prog wx = .ok (.slice (some ⟨gl, 0, none⟩) 136 136) wx := fun wx => run_sliceA_all wx Try.underlying172 size_u8 gl 0
  refine wp_region_still_tail 4 (by kernel_rfl) (by kernel_rfl) ?_
  simp only [List.take_succ_cons, List.take_zero, List.drop_succ_cons, List.drop_zero]
  repeat still_step
  refine wpStill_nil ?_
  show wpList _ _ _ _ _ w3.drew
  go_wp2_with fail
  have hrd : RdB w3.drew (some ⟨gl, 0, none⟩) 136 (List.replicate k 0 ++ padL k e) := by
    have := Rd.whole hl3.drew
    rwa [length_bs, List.length_append, List.length_replicate, hpl, show k + (136 - k) = 136 by omega] at this
  refine (xor_any g S [.int .i64 (k : Int)] 169 _ 136 _ _ _ hS (by omega) hg3.drew hrd (fun x hx (e : x.block = g) => by simp only [Option.some.injEq] at hx; subst hx; simp at e; omega)).mono ?_
  rintro e w4 ⟨rfl, hg4, hf4, hz4⟩
  have hxb : xorB S (List.replicate k 0 ++ padL k e) 136 = xorAt S k (padL k e) := by
    have := xorB_piece S k (padL k e) []
    rwa [List.append_nil, hpl, show k + (136 - k) = 136 by omega] at this
  rw [hxb, abs_def] at hg4
  have hfr4 : Fr (One g) w w4 := hfr3.drew.trans hf4 (fun _ _ t => t)
  have hend : ended (S, k) e = permS (xorAt S k (padL k e)) := by
    unfold ended
    rw [feed_full _ _ _ (by simp only [hpl]; omega) hk]
  have hxl : (xorAt S k (padL k e)).length = 25 := by rw [xorAt_len, hS]
  clear hl3 hg3 hfr3 e1 hrd hf4 hz4 hxb hpl
  generalize xorAt S k (padL k e) = X at *
  have HEND := Lib.hid hend; clear hend
  go_wp2_with fail
  refine (permute_abs g X k _ hxl hg4).mono ?_
  rintro e w5 ⟨rfl, hg5, hf5⟩
  have hfr5 : Fr (One g) w w5 := hfr4.trans hf5 (fun _ _ t => t)
  have hS5 : (permS X).length = 25 := by rw [permS_len, hxl]
  generalize permS X = S0 at *
  clear hg4 hfr4 hf5 hxl hS
  go_wp2_with fail
  go_loopw [8] (fun v wr => ∃ j, j ≤ pieces n ∧ Own wr w.heap.size 5 1 v (136 * j) (bs (squeeze S0 j)) ∧ Has wr g (abs (permN S0 j, k)) 169 ∧ Fr (One g) w wr) (fun v _ => n - lenV v)
  case atStart => exact ⟨0, Nat.zero_le _, by rw [squeeze_zero]; exact Own.nil _ _ _ _, by rw [permN_zero]; exact hg5, hfr5⟩
  case round =>
    obtain ⟨j, hj, hown, hgj, hfj⟩ := hrel
    clear hg5 hfr5
    have hjn := pieces_lt n j
    obtain ⟨a, cap, rfl, hcap, hrdj, hna⟩ := hown.form
    by_cases hlt : 136 * j < n
    · have hltI : 136 * (j : Int) < (n : Int) := by omega
      have hpj : (permN S0 j).length = 25 := by rw [permN_len, hS5]
      have hjp : j + 1 ≤ pieces n := hjn.1 hlt
      have HJN := Lib.hid hjn; clear hjn
      have HLT := Lib.hid hlt; clear hlt
      clear hrdj hna
      go_wp2_with fail
      rw [← abs_def] at hgj
      refine (bytes_any g (permN S0 j) [.int .i64 (k : Int)] 169 136 _ hpj (by omega) hgj).mono ?_
      rintro e w6 ⟨rfl, ht6, hf6, hz6⟩
      have hg6 := hgj.keep hf6 id
      rw [abs_def] at hg6
      have hown6 := hown.still hf6
      have hfr6 : Fr (One g) w w6 := hfj.same hf6
      have hwb : w.heap.size ≤ wr.heap.size := hfj.size
      have hgb : g < w.heap.size := by have := HGL.out; omega
      generalize wr.heap.size = gt at *
      clear hgj hown hfj hf6
      go_wp2_with (with_reducible refine wl_stop (o := ⟨some 37, _, _, _, _, _⟩) ?_)
      have hrd6 : Rd w6 (some ⟨gt, 0, none⟩) (136 * 1) (bs (toB (permN S0 j) 136)) := by
        have := Rd.whole ht6
        rwa [length_bs, toB_len] at this
      refine wl_append rfl rfl Try.underlying34 info_u8 rfl (by decide) hown6 rfl rfl hrd6 (bs_one _) (by unfold maxLen; omega) (by omega) hfr6.size ?_
      intro v7 w7 hown7 hf7 hb7
      have hg7 := hg6.keep hf7 (fun hh => by have := hown6.lt hh; omega)
      have hfr7 : Fr (One g) w w7 := hown6.fr hfr6 (Nat.le_refl _) hf7
      rw [← bs_append, ← squeeze_succ] at hown7
      clear ht6 hg6 hown6 hfr6 hrd6 hf7 hb7
      go_wp2_with fail
      refine (permute_abs g _ k _ hpj hg7).mono ?_
      rintro e w8 ⟨rfl, hg8, hf8⟩
      rw [← permN_succ] at hg8
      have hown8 := hown7.keep hf8 (fun k' hk' (h : k' = g) => by have := hown7.lt hk'; omega)
      have hfr8 : Fr (One g) w w8 := hfr7.trans hf8 (fun _ _ t => t)
      clear hg7 hown7 hfr7 hf8
      go_wp2_with fail
      go_roundw
      case rel => exact ⟨j + 1, hjp, hown8, hg8, hfr8⟩
      case measure =>
        obtain ⟨a8, c8, rfl, _⟩ := hown8.form
        have := HLT.out
        simp [lenV]; omega
    · have hge : ¬ (136 * (j : Int) < (n : Int)) := by omega
      have hjp : j = pieces n := by have := hjn.2; omega
      have HJP := Lib.hid hjp; clear hjp
      have HJN := Lib.hid hjn; clear hjn
      have hnc : n ≤ cap := by omega
      have hnI : ¬ (n : Int) < 0 := by omega
      clear hgj
      go_wp2_with (with_reducible refine wl_stop (o := ⟨some 45, _, _, _, _, _⟩) ?_)
      refine wl_cut3 rfl rfl Try.underlying34 size_u8 rfl 0 n n rfl rfl rfl rfl rfl (Nat.zero_le _) (Nat.le_refl _) hnc ?_
      go_wp2_with fail
      go_ret
      rw [cutAt_0]
      refine ⟨_, rfl, ?_, hfj⟩
      have hsq : bs (outB (ended (S, k) e) n) = (bs (squeeze S0 j)).take n := by
        rw [HEND.out, HJP.out, outB, bs_take]
      rw [hsq]
      exact own_cut hown n (by omega)
end Go.Proofs.Ytdbgddngapminaa

/- absorber.frame; the reference's Frame -/
namespace Mvp
/-- a length in four bytes -/
def lenB (n : Nat) : List UInt8 := [UInt8.ofNat (n / 16777216), UInt8.ofNat (n / 65536), UInt8.ofNat (n / 256), UInt8.ofNat n]
def frameL (l : List UInt8) : List UInt8 := lenB l.length ++ l
def framesL (ls : List (List UInt8)) : List UInt8 := (ls.map frameL).flatten
theorem framesL_append (a b : List (List UInt8)) : framesL (a ++ b) = framesL a ++ framesL b := by simp [framesL]
theorem framesL_one (a : List UInt8) : framesL [a] = frameL a := by simp [framesL]
end Mvp
namespace Go.Proofs.Ytdbgddngapminaa
open Go.RowKit Go.Mv Mvp
attribute [local irreducible] permS permP toB turnsK squeeze permN spongeB
theorem ofNat_int (k : Nat) : ((UInt8.ofNat k).toNat : Int) = ((k % 256 : Nat) : Int) := by simp
theorem lenB_0 (n : Nat) (h : n ≤ 1000000) : Value.int .u8 ((n : Int) / 16777216) = .int .u8 ((UInt8.ofNat (n / 16777216)).toNat : Int) := by
  rw [ofNat_int]; congr 1; omega
theorem lenB_1 (n : Nat) (h : n ≤ 1000000) : Value.int .u8 ((n : Int) / 65536) = .int .u8 ((UInt8.ofNat (n / 65536)).toNat : Int) := by
  rw [ofNat_int]; congr 1; omega
theorem lenB_2 (n : Nat) : Value.int .u8 ((n : Int) / 256 % 256) = .int .u8 ((UInt8.ofNat (n / 256)).toNat : Int) := by
  rw [ofNat_int]; rfl
theorem lenB_3 (n : Nat) : Value.int .u8 ((n : Int) % 256) = .int .u8 ((UInt8.ofNat n).toNat : Int) := by
  rw [ofNat_int]; rfl
theorem lenB_len (n : Nat) : (lenB n).length = 4 := rfl

set_option maxHeartbeats 2000000 in
set_option maxRecDepth 1000000 in
theorem frame_any (g : Nat) (st : List UInt64 × Nat) (b : Option Addr) (n c : Nat) (l : List UInt8) (w : World) (hS : st.1.length = 25) (hat : st.2 < 136) (hn : n ≤ 1000000) (hnc : n ≤ c) (hg : Has w g (abs st) 169) (hb : RdB w b n l) (hbg : Off (One g) b) :
    Calls Try.prog 128 #[.pointer (some ⟨g, 0, none⟩), .slice b n c] w fun e w' => e = .returned (.tuple #[]) ∧ Has w' g (abs (feed st (frameL l))) 169 ∧ Fr (One g) w w' := by
  go_enter Try.func128, Try.ntmps128
  go_wp2_with (with_reducible refine wl_stop (o := ⟨some 19, _, _, _, _, _⟩) ?_)
  refine wl_four rfl rfl Try.underlying34 info_u8 _ _ _ _ (lenB_0 n hn) (lenB_1 n hn) (lenB_2 n) (lenB_3 n) ?_
  intro w1 hh1 hf1 hz1
  have hh1' : Has w1 w.heap.size (bs (lenB n)) 5 := hh1
  have hg1 := hg.keep hf1 id
  have hb1 := hb.still hf1
  have hgl := hg.lt
  generalize w.heap.size = g4 at *
  clear hg hb hh1
  have hrd : RdB w1 (some ⟨g4, 0, none⟩) 4 (lenB n) := by
    have := Rd.whole hh1'
    rwa [length_bs, lenB_len] at this
  go_wp2_with fail
  refine (write_any g st _ 4 4 (lenB n) w1 hS hat (by omega) (by omega) hg1 hrd (fun x hx (e : x.block = g) => by simp only [Option.some.injEq] at hx; subst hx; simp at e; omega)).mono ?_
  rintro e w2 ⟨rfl, hg2, hf2⟩
  have hb2 := hb1.keep hf2 hbg
  have hfr2 : Fr (One g) w w2 := ((Fr.refl (One g) w).same hf1).trans hf2 (fun _ _ t => t)
  clear hf1 hz1 hh1' hg1 hb1 hrd hf2
  go_wp2_with fail
  refine (write_any g (feed st (lenB n)) b n c l w2 (by rw [feed_len, hS]) (feed_lt _ _ hat) hn hnc hg2 hb2 hbg).mono ?_
  rintro e w3 ⟨rfl, hg3, hf3⟩
  go_wp2_with fail
  go_end0
  rw [← feed_append, ← hb2.len] at hg3
  exact ⟨rfl, hg3, hfr2.trans hf3 (fun _ _ t => t)⟩

end Go.Proofs.Ytdbgddngapminaa

/- Hash, stream and Stream of the sponge -/
namespace Go.Proofs.Ytdbgddngapminaa
open Go.RowKit Go.Mv Mvp
attribute [local irreducible] permS permP toB turnsK squeeze permN
theorem built_abs : Try.prog.built 169 [] = some (abs (zeros25, 0)).toArray := by unfold abs; kernel_rfl

end Go.Proofs.Ytdbgddngapminaa

/- sponge.tag and sponge.Tag -/
namespace Go.Proofs.Ytdbgddngapminaa
open Go.RowKit Go.Mv Mvp
attribute [local irreducible] permS permP toB turnsK squeeze permN spongeB
/-- the value reads as these bytes, from an old block -/
def PartIs (w : World) (v : Value) (l : List UInt8) : Prop := ∃ a n c, v = .slice a n c ∧ n ≤ c ∧ n ≤ 1000000 ∧ RdB w a n l ∧ Old w a
theorem PartIs.still {w w' : World} {v : Value} {l : List UInt8} (h : PartIs w v l) (hf : Fr Nob w w') : PartIs w' v l := by
  obtain ⟨a, n, c, h1, h2, h3, h4, h5⟩ := h
  exact ⟨a, n, c, h1, h2, h3, h4.still hf, h5.grow hf.size⟩
/-- a slice of slices of bytes -/
def PartsAt (w : World) (a : Option Addr) (ls : List (List UInt8)) : Prop := ∃ vs : List Value, Rd w a ls.length vs ∧ ∀ (i : Nat) (v : Value), vs[i]? = some v → ∃ l : List UInt8, ls[i]? = some l ∧ PartIs w v l
theorem PartsAt.get {w : World} {a : Option Addr} {ls : List (List UInt8)} (h : PartsAt w a ls) {j : Nat} (hj : j < ls.length) : ∃ b o v, a = some ⟨b, o, none⟩ ∧ w.cell? ⟨b, o + j, none⟩ = some v ∧ PartIs w v (ls.getD j []) := by
  obtain ⟨vs, hr, hv⟩ := h
  obtain ⟨b, o, rfl, hat⟩ := hr.at (by omega)
  have hl := hr.len
  obtain ⟨l, h1, h2⟩ := hv j (vs[j]'(by omega)) (List.getElem?_eq_getElem (by omega))
  refine ⟨b, o, vs[j]'(by omega), rfl, hat j _ (List.getElem?_eq_getElem (by omega)), ?_⟩
  rwa [List.getD_eq_getElem?_getD, h1]
theorem PartsAt.still {w w' : World} {a : Option Addr} {ls : List (List UInt8)} (h : PartsAt w a ls) (hf : Fr Nob w w') : PartsAt w' a ls := by
  obtain ⟨vs, hr, hv⟩ := h
  refine ⟨vs, hr.still hf, fun i v hi => ?_⟩
  obtain ⟨l, h1, h2⟩ := hv i v hi
  exact ⟨l, h1, h2.still hf⟩
/-- what a tag is made of -/
def tagText (s : List UInt8) (ls : List (List UInt8)) : List UInt8 := framesL (s :: ls)
def tagL (s : List UInt8) (ls : List (List UInt8)) : List UInt8 := spongeB (tagText s ls) 6 32

theorem z25 : ((zeros25, 0) : List UInt64 × Nat).1.length = 25 := rfl
attribute [local irreducible] feed frameL framesL abs zeros25
set_option maxHeartbeats 400000 in
set_option maxRecDepth 1000000 in
theorem tag_any (s : ByteArray) (a : Option Addr) (c : Nat) (ls : List (List UInt8)) (w : World) (hs : s.size ≤ 1000000) (hm : ls.length ≤ 1000000) (hb : PartsAt w a ls) :
    Calls Try.prog 127 #[.string s, .slice a ls.length c] w fun r w' => ∃ v, r = .returned v ∧ Own w' w.heap.size 5 1 v 32 (bs (tagL s.data.toList ls)) ∧ Fr Nob w w' := by
  go_enter Try.func127, Try.ntmps127
  go_wp2_with (with_reducible refine wl_stop (o := ⟨some 8, _, _, _, _, _⟩) ?_)
  refine wl_build0 rfl rfl _ built_abs ?_
  refine wl_box rfl rfl rfl (abs (zeros25, 0)) rfl ?_
  intro w1 hg1 hf1 hz1
  clear hz1
  have hst1 := z25
  have hst2 : ((zeros25, 0) : List UInt64 × Nat).2 < 136 := Nat.zero_lt_succ _
  obtain ⟨st0, hst0⟩ : ∃ st0 : List UInt64 × Nat, st0 = (zeros25, 0) := ⟨_, rfl⟩
  rw [← hst0] at hg1 hst1 hst2
  have HST0 := Lib.hid hst0; clear hst0
  generalize hgw : w.heap.size = g at *
  have HG := Lib.hid hgw; clear hgw
  go_wp2_with (with_reducible refine wl_stop (o := ⟨some 12, _, _, _, _, _⟩) ?_)
  refine wl_bytes rfl rfl Try.underlying9 Try.underlying34 Try.underlying5 rfl (by unfold maxLen; omega) w1.heap.size (Nat.le_refl _) ?_
  intro cap w2 hown2 hf2 hz2
  have hg2 := hg1.keep hf2 id
  have hfr2 := hf1.then hf2
  have hgl := hg1.lt
  obtain ⟨a2, c2, hv2, hc2, hrd2, -⟩ := hown2.form
  cases hv2
  rw [Nat.mul_one] at hrd2
  go_wp2_with fail
  have hoff0 : Off (One g) (some (⟨w1.heap.size, 0, none⟩ : Addr)) := fun x hx (e : x.block = g) => by
    cases hx
    exact absurd e (by show ¬ (w1.heap.size = g); omega)
  have hcall := frame_any g st0 (some ⟨w1.heap.size, 0, none⟩) s.size cap s.data.toList w2 hst1 hst2 hs hc2 hg2 hrd2 hoff0
  refine hcall.mono ?_
  rintro e w3 ⟨rfl, hg3, hf3⟩
  have hfr3 : Fr Nob w w3 := hfr2.new hf3 (by rw [HG.out]; exact Nat.le_refl _)
  clear hg1 hf1 hown2 hf2 hz2 hg2 hfr2 hrd2 hf3 hgl
  go_wp2_with fail
  go_loopw [16] (fun i wr => ∃ j : Nat, j ≤ ls.length ∧ i = .int .i64 (j : Int) ∧ Has wr g (abs (feed st0 (framesL (s.data.toList :: ls.take j)))) 169 ∧ Fr Nob w wr) (fun i _ => (ls.length - intOf i).toNat)
  case atStart => exact ⟨0, by omega, rfl, by rw [List.take_zero, framesL_one]; exact hg3, hfr3⟩
  case round =>
    obtain ⟨j, hj, rfl, hgj, hfj⟩ := hrel
    clear hg3 hfr3
    by_cases hlt : j < ls.length
    · have hltI : (j : Int) < (ls.length : Int) := by omega
      obtain ⟨b, o, v, rfl, hc, hp⟩ := (hb.still hfj).get hlt
      obtain ⟨b', o', v', hv', hc', hp'⟩ := hb.get hlt
      simp only [Option.some.injEq, Addr.mk.injEq] at hv'
      obtain ⟨rfl, rfl, -⟩ := hv'
      have hvv : v = v' := by
        have := hfj.cell id hc'
        rw [hc] at this; simpa using this
      subst hvv
      obtain ⟨ap, np, cp, rfl, hp1, hp2, hp3, hp4⟩ := hp'
      have hr3 := hp3.still hfj
      clear hp
      have hoff : Off (One g) ap := hp4.off (by rw [HG.out]; exact Nat.le_refl _)
      go_wp2_with fail
      have hSj : (feed st0 (framesL (s.data.toList :: ls.take j))).1.length = 25 := by rw [feed_len, hst1]
      have hkj := feed_lt (framesL (s.data.toList :: ls.take j)) st0 hst2
      refine (frame_any g (feed st0 (framesL (s.data.toList :: ls.take j))) ap np cp (ls.getD j []) wr hSj hkj hp2 hp1 hgj hr3 hoff).mono ?_
      rintro e w4 ⟨rfl, hg4, hf4⟩
      have hfr4 : Fr Nob w w4 := hfj.new hf4 (by rw [HG.out]; exact Nat.le_refl _)
      rw [← feed_append] at hg4
      have hfl : framesL (s.data.toList :: ls.take j) ++ frameL (ls.getD j []) = framesL (s.data.toList :: ls.take (j + 1)) := by
        rw [List.take_succ_eq_append_getElem hlt, ← List.cons_append, framesL_append, framesL_one, List.getD_eq_getElem?_getD, List.getElem?_eq_getElem hlt]; rfl
      rw [hfl] at hg4
      clear hSj hkj hr3 hgj hfj hf4 hfl
      go_wp2_with fail
      go_roundw
      case rel => exact ⟨j + 1, by omega, by go_num, hg4, hfr4⟩
      case measure => simp [intOf]; omega
    · have hge : ¬ ((j : Int) < (ls.length : Int)) := by omega
      have hjn : j = ls.length := by omega
      have hSj : (feed st0 (framesL (s.data.toList :: ls.take j))).1.length = 25 := by rw [feed_len, hst1]
      have hkj := feed_lt (framesL (s.data.toList :: ls.take j)) st0 hst2
      have hft : framesL (s.data.toList :: ls.take j) = tagText s.data.toList ls := by rw [hjn, List.take_length]; rfl
      rw [hft] at hgj hSj hkj
      generalize hst : feed st0 (tagText s.data.toList ls) = st at *
      have HST := Lib.hid hst; clear hst
      have HJN := Lib.hid hjn; clear hjn
      clear hft
      go_wp2_with fail
      refine (out_any g st.1 st.2 6 32 wr hSj hkj (by omega) hgj).mono ?_
      rintro e w4 ⟨v, rfl, hown, hf4⟩
      go_wp2_with fail
      go_ret
      refine ⟨v, rfl, ?_, hfj.new hf4 (by rw [HG.out]; exact Nat.le_refl _)⟩
      have := hown.mono (base' := g) (by have := hgj.lt; omega)
      rw [HG.out]
      unfold tagL spongeB
      rw [← HST0.out, HST.out]
      exact this

set_option maxHeartbeats 1000000 in
theorem Tag_any (s : ByteArray) (a : Option Addr) (c : Nat) (ls : List (List UInt8)) (w : World) (hs : s.size ≤ 1000000) (hm : ls.length ≤ 1000000) (hb : PartsAt w a ls) :
    Calls Try.prog 124 #[.string s, .slice a ls.length c] w fun r w' => ∃ v, r = .returned v ∧ Own w' w.heap.size 5 1 v 32 (bs (tagL s.data.toList ls)) ∧ Fr Nob w w' := by
  go_enter Try.func124, Try.ntmps124
  go_wp2_with fail
  refine (tag_any s a c ls w hs hm hb).mono ?_
  rintro e w4 ⟨v, rfl, hown, hf4⟩
  go_wp2_with fail
  go_ret
  exact ⟨v, rfl, hown, hf4⟩
end Go.Proofs.Ytdbgddngapminaa

/- mintvaultlaw1.SpongeTurns: the walk of the law -/
namespace Go.Proofs.Ytdbgddngapminaa
open Go.RowKit Go.Mv Mvp

end Go.Proofs.Ytdbgddngapminaa

/- The reference's Hash and Stream; the law SpongeHashes -/
namespace Go.Proofs.Ytdbgddngapminaa
open Go.RowKit Go.Mv Mvp
attribute [local irreducible] permS permP toB turnsK squeeze permN spongeB
end Go.Proofs.Ytdbgddngapminaa

/- Arguments that were handed in, opened into the words of Mem. -/
namespace Go.Mv
open Go.RowKit Go.ChangeShapes Go.WideShapes

section
variable {H : Type} {enc : TypeId × Value → H} {P : Program} {w : World} {base : Nat} {held : Bool} {spare : Nat → Bool}
end
end Go.Mv

/- The reference's Tag -/
namespace Go.Proofs.Ytdbgddngapminaa
open Go.RowKit Go.Mv Mvp
attribute [local irreducible] permS permP toB turnsK squeeze permN spongeB feed frameL framesL
end Go.Proofs.Ytdbgddngapminaa

/- A log of the sponge, the reference's: NewLog, Say, Ask, Clone. -/
namespace Go.Proofs.Ytdbgddngapminaa
open Go.RowKit Go.Mv Mvp
attribute [local irreducible] permS permP toB turnsK squeeze permN spongeB feed frameL framesL tagL
/-- parts by their values -/
def Parts (w : World) : List Value → List (List UInt8) → Prop
  | [], [] => True
  | v :: vs, l :: ls => PartIs w v l ∧ Parts w vs ls
  | _, _ => False
theorem Parts.len {w : World} : ∀ {vs : List Value} {ls : List (List UInt8)}, Parts w vs ls → vs.length = ls.length
  | [], [], _ => rfl
  | _ :: _, _ :: _, h => by simp only [List.length_cons]; rw [Parts.len h.2]
  | [], _ :: _, h => h.elim
  | _ :: _, [], h => h.elim
theorem Parts.get {w : World} : ∀ {vs : List Value} {ls : List (List UInt8)}, Parts w vs ls → ∀ (i : Nat) (v : Value), vs[i]? = some v → ∃ l : List UInt8, ls[i]? = some l ∧ PartIs w v l
  | [], [], _, i, v, h => by simp at h
  | x :: vs, l :: ls, h, 0, v, hv => by simp only [List.getElem?_cons_zero, Option.some.injEq] at hv; subst hv; exact ⟨l, rfl, h.1⟩
  | x :: vs, l :: ls, h, i + 1, v, hv => by simp only [List.getElem?_cons_succ] at hv ⊢; exact Parts.get h.2 i v hv
  | [], _ :: _, h, _, _, _ => h.elim
  | _ :: _, [], h, _, _, _ => h.elim
theorem Parts.at {w : World} {g : Nat} {T : TypeId} {vs : List Value} {ls : List (List UInt8)} (h : Parts w vs ls) (hg : Has w g vs T) : PartsAt w (some ⟨g, 0, none⟩) ls :=
  ⟨vs, by have := Rd.whole hg; rwa [h.len] at this, h.get⟩
theorem Parts.cells {w : World} : ∀ {vs : List Value} {ls : List (List UInt8)}, Parts w vs ls → ∀ v ∈ vs, v.cells = #[v]
  | [], _, _, v, h => by simp at h
  | x :: vs, l :: ls, h, v, hv => by
    rcases List.mem_cons.1 hv with rfl | hv
    · obtain ⟨a, n, c, rfl, _⟩ := h.1; rfl
    · exact Parts.cells h.2 v hv
  | _ :: _, [], h, _, _ => h.elim
theorem own_part {w : World} {base n : Nat} {T : TypeId} {v : Value} {l : List UInt8} (h : Own w base T 1 v n (bs l)) (hn : n ≤ 1000000) : PartIs w v l := by
  have h0 := h
  obtain ⟨a, c, rfl, hc, hr, -⟩ := h.form
  rw [Nat.mul_one] at hr
  refine ⟨a, n, c, rfl, hc, hn, hr, ?_⟩
  intro x hx
  exact (h0.lt (by rw [hx]; rfl)).2

/-! The reference's -/
end Go.Proofs.Ytdbgddngapminaa

/- The tree, plain: what a path leads to, from its end (the document) and from its beginning (the program). -/
namespace Mvt
variable {α : Type} (nd : α → α → α)
/-- the greatest power of two below n -/
def half (n : Nat) : Nat := 2 ^ Nat.log2 (n - 1)
/-- up, as far as nothing stands beside -/
def skip (a e : Nat) : Nat × Nat := if a % 2 = 0 ∧ 0 < a then skip (a / 2) (e / 2) else (a, e)
termination_by a
decreasing_by omega
end Mvt

/- The tree: node, leafHash, bytes.Equal, sized, lists, small; the reference's leaf, node, half, sized. -/
namespace Go.Proofs.Ytdbgddngapminaa
open Go.RowKit Go.Mv Mvp Mvt
attribute [local irreducible] permS permP toB turnsK squeeze permN spongeB feed frameL framesL tagL
end Go.Proofs.Ytdbgddngapminaa

/- The points that a label and bytes may give, plain; what a k256 holds. -/
namespace Go.Proofs.Ytdbgddngapminaa
open Go.RowKit Go.Mv Mvp Mvq
def kPoint : List UInt8 := [112, 111, 105, 110, 116, 32]
/-- the bytes of one try -/
def hB (label b : List UInt8) (i : Nat) : List UInt8 := tagL (kPoint ++ label) [b, [UInt8.ofNat i]]
def hN (label b : List UInt8) (i : Nat) : Nat := beN (hB label b i)
theorem h_on {n : Nat} (h : rtOk mP.M (crvN n) = true) : onC (.A (kc n) (kc (atY mP.M n))) := by
  rw [hatY n h]
  rw [mP_fP] at h
  exact at_on h
open Classical in
/-- the point of one try -/
noncomputable def candT (label b : List UInt8) (i : Nat) : Option PT := if h : hN label b i < mP.M ∧ rtOk mP.M (crvN (hN label b i)) = true then some (affT (hN label b i) (atY mP.M (hN label b i)) (h_on h.2)) else none
theorem candT_no {label b : List UInt8} {i n : Nat} (hn : hN label b i = n) (h : ¬ (n < mP.M ∧ rtOk mP.M (crvN n) = true)) : candT label b i = none := by
  subst hn; unfold candT; rw [dif_neg h]
theorem candT_yes {label b : List UInt8} {i n : Nat} (hn : hN label b i = n) (h1 : n < mP.M) (h2 : rtOk mP.M (crvN n) = true) : candT label b i = some (affT n (atY mP.M n) (h_on h2)) := by
  subst hn; unfold candT; rw [dif_pos ⟨h1, h2⟩]
noncomputable def candL (label b : List UInt8) (k : Nat) : List PT := (List.range k).filterMap (candT label b)
theorem candL_zero (label b : List UInt8) : candL label b 0 = [] := rfl
theorem candL_no {label b : List UInt8} {k : Nat} (h : candT label b k = none) : candL label b (k + 1) = candL label b k := by
  unfold candL; rw [List.range_succ, List.filterMap_append]; simp [h]
theorem candL_yes {label b : List UInt8} {k : Nat} {x : PT} (h : candT label b k = some x) : candL label b (k + 1) = candL label b k ++ [x] := by
  unfold candL; rw [List.range_succ, List.filterMap_append]; simp [h]
theorem candL_len (label b : List UInt8) (k : Nat) : (candL label b k).length ≤ k := by
  unfold candL
  exact Nat.le_trans (List.length_filterMap_le _ _) (by simp)
theorem candL_more (label b : List UInt8) (k j : Nat) : ∃ l, candL label b (k + j) = candL label b k ++ l := by
  induction j with
  | zero => exact ⟨[], by simp⟩
  | succ j ih =>
    obtain ⟨l, hl⟩ := ih
    cases h : candT label b (k + j) with
    | none => exact ⟨l, by rw [← Nat.add_assoc, candL_no h, hl]⟩
    | some x => exact ⟨l ++ [x], by rw [← Nat.add_assoc, candL_yes h, hl, List.append_assoc]⟩
/-- the point that a label and bytes give -/
noncomputable def hashT (label b : List UInt8) : PT := ((candL label b 256).head?).getD baseT
theorem hashT_none {label b : List UInt8} (h : candL label b 256 = []) : hashT label b = baseT := by unfold hashT; rw [h]; rfl
theorem hashT_some {label b : List UInt8} {k : Nat} {x : PT} (hk : k < 256) (h : candT label b k = some x) (h0 : candL label b k = []) : hashT label b = x := by
  obtain ⟨l, hl⟩ := candL_more label b (k + 1) (256 - (k + 1))
  rw [show k + 1 + (256 - (k + 1)) = 256 by omega, candL_yes h, h0] at hl
  unfold hashT
  rw [hl]
  rfl
/-- a curve of the call's own, with its modulus -/
theorem k256_y (w : World) : Calls Try.prog 41 #[] w fun e w' => ∃ y : Nat × Nat, e = .returned (.pointer (some ⟨y.1, 0, none⟩)) ∧ (Has w' y.1 (crvL mP y.2 gXn gYn) 93 ∧ Has w' y.2 (mdL mP) 134) ∧ Fr Nob w w' := by
  refine (k256_c w).mono ?_
  rintro e w' ⟨gc, k1, _, ⟨gp, h1, h2⟩, k3⟩
  exact ⟨(gc, gp), k1, ⟨h1, h2⟩, k3⟩
theorem exec_loadH {w : World} {g : Nat} {L : List Value} {T : TypeId} (hg : Has w g L T) {o : Oper} {a : Act} {ty : TypeId} {x : Operand} (ho : o.op = .load ty x) {p : Nat} (hx : a.eval x = .pointer (some ⟨g, p, none⟩)) (cs : List Value) (hc : (L.drop p).take cs.length = cs)
    {d : TypeDesc} (hu : Try.prog.underlying ty = some d) (hd : d.isRow = true) (hi : (Try.prog.info? ty).map (·.size) = some cs.length) : (execOp a.eval o).run Try.prog w = .ok (.value (.agg cs.toArray)) w := by
  unfold execOp
  simp only [ho, hx, Instr.loadAt, Instr.sureAddr, Sem.run_bind, Sem.run_pure, Result.andThen_ok, run_loadVar_mid w g p ty cs d (hg.range p cs hc) hu hd hi]
theorem str_app (label : ByteArray) : (⟨#[112, 111, 105, 110, 116, 32]⟩ : ByteArray) ++ label = mkS (kPoint ++ label.data.toList) := by
  have : (⟨#[112, 111, 105, 110, 116, 32]⟩ : ByteArray) = mkS kPoint := rfl
  rw [this]
  conv => lhs; rw [← mkS_data label]
  exact mkS_append _ _
end Go.Proofs.Ytdbgddngapminaa

/- GroupLaw, plain: the law's numbers; contracts at points that are known to be points. -/
namespace Mvp
/-- the law's scalar: a text behind a zero -/
def scB (l : List UInt8) : List UInt8 := 0 :: (l.take 31 ++ List.replicate (31 - l.length) 0)
theorem scB_len (l : List UInt8) : (scB l).length = 32 := by simp [scB]; omega
theorem beN_cons (x : UInt8) (l : List UInt8) : beN (x :: l) = x.toNat * 256 ^ l.length + beN l := by
  have := beN_append [x] l
  simpa [beN] using this
theorem scB_lt (l : List UInt8) : beN (scB l) < 256 ^ 31 := by
  unfold scB
  rw [beN_cons]
  have h := beN_lt (l.take 31 ++ List.replicate (31 - l.length) 0)
  have e : (l.take 31 ++ List.replicate (31 - l.length) 0).length = 31 := by simp; omega
  rw [e] at h
  simpa using h
end Mvp
namespace Go.Proofs.Ytdbgddngapminaa
open Go.RowKit Go.Mv Mvp Mvq
theorem q248 : 256 ^ 31 < mQ.M := by decide
theorem numB_sc (l : List UInt8) : numB mQ (scB l) = true := by
  unfold numB
  rw [scB_len, decide_eq_true rfl, decide_eq_true (Nat.lt_trans (scB_lt l) q248)]
  rfl
/-- a slice of the call's own that reads as a point's bytes -/
def PtB (w : World) (a : Option Addr) (c : Nat) (p : Pt) : Prop := BPart w (.slice a 33 c) (wrPt p)
theorem PtB.still {w w' : World} {a : Option Addr} {c : Nat} {p : Pt} (h : PtB w a c p) (hf : Fr Nob w w') : PtB w' a c p := BPart.still h hf
theorem PtB.of {w w' : World} {v : Value} {p : Pt} (h : OwnB1 w w' v (wrPt p)) : ∃ a c, v = .slice a 33 c ∧ PtB w' a c p := by
  obtain ⟨a, n, c, rfl, hc, hr⟩ := h.part
  have : n = 33 := by have := hr.len; rw [wrPt_len] at this; exact this.symm
  subst this
  exact ⟨a, c, rfl, a, 33, c, rfl, hc, hr⟩
theorem PtB.rd {w : World} {a : Option Addr} {c : Nat} {p : Pt} (h : PtB w a c p) : RdB w a 33 (wrPt p) := by
  obtain ⟨a', n, c', he, hc, hr⟩ := h
  cases he
  exact hr
theorem Plus_p {p q r : Pt} (hp : onC p) (hq : onC q) (hr : padd p q = r) (a b : Option Addr) (c d : Nat) (w : World) (ha : PtB w a c p) (hb : PtB w b d q) :
    Calls Try.prog 14 #[.slice a 33 c, .slice b 33 d] w fun e w' => ∃ a' c', e = .returned (.tuple #[.slice a' 33 c', .int .i64 0]) ∧ PtB w' a' c' r ∧ Fr Nob w w' := by
  subst hr
  refine (GPlus_u _ _ _ _ w ha hb).mono ?_
  rintro e w' ⟨v, rfl, h2, h3⟩
  obtain ⟨o1, e1⟩ := rd_wr hp
  obtain ⟨o2, e2⟩ := rd_wr hq
  simp only [pS, pC, o1, o2, e1, e2, Bool.and_self, if_true] at h2 ⊢
  obtain ⟨a', c', rfl, h4⟩ := PtB.of h2
  exact ⟨a', c', rfl, h4, h3⟩
theorem Base_p (w : World) : Calls Try.prog 23 #[] w fun e w' => ∃ a c, e = .returned (.slice a 33 c) ∧ PtB w' a c gP ∧ Fr Nob w w' := by
  refine (GBase_u w).mono ?_
  rintro e w' ⟨v, rfl, h2, h3⟩
  obtain ⟨a', c', rfl, h4⟩ := PtB.of h2
  exact ⟨a', c', rfl, h4, h3⟩
theorem gP_on : onC gP := by unfold gP; exact base_on
end Go.Proofs.Ytdbgddngapminaa

/- The law GroupLaw. -/
namespace Go.Mv
open Go.RowKit
variable {P : Program} {ops : Array Oper} {a : Act} {w : World} {rest : List Oper} {Q : Exit → Act → World → Prop} {o : Oper}
/-- copy(d, s), s a string that may be longer -/
theorem wl_copy_strM {d s : Operand} {t u : TypeId} (hgd : o.guard = none) (ho : o.op = .call { callee := .builtin .copy, args := #[d, s], argTypes := #[t, u] }) {e : TypeId} (ht : P.underlying t = some (.slice e)) (hsz : (P.info? e).map (·.size) = some 1)
    {g off dn dc : Nat} (hd : a.eval d = .slice (some ⟨g, off, none⟩) dn dc) {q : ByteArray} (hs : a.eval s = .string q) {B : List Value} {T : TypeId} (hg : Has w g B T)
    (hfit : off + min q.size dn ≤ B.length)
    (h : ∀ w', Has w' g (splice B off (bs (q.data.toList.take (min q.size dn)))) T → Fr (One g) w w' → w'.heap.size = w.heap.size → wpList P ops Q rest (a.put o.dst (.int .i64 (min q.size dn : Nat))) w') : wpList P ops Q (o :: rest) a w := by
  refine wpList_plain hgd fun K hK => ?_
  obtain ⟨i, hi, hi1⟩ : ∃ i, P.info? e = some i ∧ i.size = 1 := by simpa using hsz
  have hlen : (bs (q.data.toList.take (min q.size dn))).length = min q.size dn := by rw [length_bs, List.length_take]; simp
  obtain ⟨w', hst, hh, hf, hz⟩ := run_storeCells_has (P := P) g off T (bs (q.data.toList.take (min q.size dn))) 0 B w hg (by rw [hlen]; omega) (bs_one _)
  simp only [Nat.add_zero] at hh
  have hr : (Builtin.copy_ #[t, u] o.type #[.slice (some ⟨g, off, none⟩) dn dc, .string q]).run P w = .ok (.int .i64 (min q.size dn : Nat)) w' := by
    simp [Builtin.copy_, run_underlying ht, sizeOf, typeInfo, hi, Builtin.lenOf, Builtin.firstCells, bs_arr, goInt]
    rw [show q.size.min dn = min q.size dn from rfl, bs_take, hst]
    rfl
  unfold Oper.wp execOp
  simp only [ho, resolve, invoke, builtin, Sem.run_bind, Sem.run_pure, Result.andThen_ok, List.map_toArray, List.map_cons, List.map_nil, hd, hs, hr]
  exact hK _ _ (h w' hh hf hz)
end Go.Mv
namespace Go.Proofs.Ytdbgddngapminaa
open Go.RowKit Go.Mv Mvp Mvq
theorem sc_cells (l : List UInt8) : splice (List.replicate 32 (Value.int .u8 0)) 1 (bs (l.take (min l.length 31))) = bs (scB l) := by
  have e : l.take (min l.length 31) = l.take 31 := by
    rcases Nat.le_total l.length 31 with h | h
    · rw [Nat.min_eq_left h, List.take_of_length_le (Nat.le_refl _), List.take_of_length_le h]
    · rw [Nat.min_eq_right h]
  rw [e]
  unfold splice scB
  rw [length_bs, List.length_take]
  have h1 : List.drop (1 + min 31 l.length) (List.replicate 32 (Value.int .u8 0)) = bs (List.replicate (31 - l.length) 0) := by
    rw [List.drop_replicate, show 32 - (1 + min 31 l.length) = 31 - l.length by omega]; simp [bs]
  rw [h1]
  simp [bs]
set_option maxHeartbeats 800000 in
set_option maxRecDepth 100000 in
theorem LScalar_c (s : ByteArray) (w : World) : Calls Try.prog 24 #[.string s] w fun e w' => ∃ g, e = .returned (.slice (some ⟨g, 0, none⟩) 32 32) ∧ w.heap.size ≤ g ∧ Has w' g (bs (scB s.data.toList)) 5 ∧ Fr Nob w w' := by
  go_enter Try.func24, Try.ntmps24
  go_wp2_with (first
    | (at_make; refine wl_make rfl rfl Try.underlying34 info_u8 rfl rfl rfl 32 32 (by simp) (by simp) (by omega) (by omega) (by unfold maxLen; omega) ?_; intro w1 hw1 hf1 hz1)
    | (with_reducible refine wl_stop (o := ⟨some 6, _, _, _, _, _⟩) ?_))
  clear hz1
  have hgs := Lib.hid (Nat.le_refl w.heap.size)
  generalize hg0 : w.heap.size = g at *
  rw [← hg0] at hgs
  have HG0 := Lib.hid hg0
  clear hg0
  refine wl_cut rfl rfl Try.underlying34 size_u8 rfl 1 32 ⟨_, rfl⟩ rfl (by decide) (by decide) ?_
  rw [show cutAt (some ⟨g, 0, none⟩) 1 32 = some ⟨g, 1, none⟩ from rfl]
  go_wp2_with (with_reducible refine wl_stop (o := ⟨some 8, _, _, _, _, _⟩) ?_)
  refine wl_copy_strM rfl rfl Try.underlying34 size_u8 rfl rfl hw1 (by simp; omega) ?_
  intro w2 hw2 hf2 hz2
  clear hz2 hw1
  have hsz : s.size = s.data.toList.length := by simp
  rw [hsz, sc_cells] at hw2
  have HW2 := Lib.hid hw2
  have HF2 := Lib.hid (hf1.new hf2 (by rw [HG0.out]; exact Nat.le_refl _))
  clear hw2 hf1 hf2 hsz
  go_wp2_with fail
  go_ret
  exact ⟨g, rfl, by rw [HG0.out]; exact Nat.le_refl _, HW2.out, HF2.out⟩

end Go.Proofs.Ytdbgddngapminaa

/- The cells of a list of terms, as Sum fills it. -/
namespace Go.Mv
open Go.RowKit
theorem splice_row (A F B cs : List Value) (n off : Nat) (hA : A.length = n) (h : off + cs.length ≤ F.length) : splice (A ++ (F ++ B)) (n + off) cs = A ++ (splice F off cs ++ B) := by
  subst hA
  unfold splice
  have h1 : List.take (A.length + off) (A ++ (F ++ B)) = A ++ List.take off F := by
    rw [List.take_length_add_append, List.take_append_of_le_length (by omega)]
  have h2 : List.drop (A.length + off + cs.length) (A ++ (F ++ B)) = List.drop (off + cs.length) F ++ B := by
    rw [Nat.add_assoc, List.drop_length_add_append, List.drop_append_of_le_length h]
  rw [h1, h2]
  simp [List.append_assoc]
theorem rows_put (f f' : Nat → List Value) (k : Nat) (hl : ∀ i, (f i).length = k) (n i off : Nat) (cs : List Value) (h : i < n) (ho : off + cs.length ≤ k) (hi : f' i = splice (f i) off cs) (hv : ∀ j, j ≠ i → f' j = f j) : splice ((List.range n).flatMap f) (i * k + off) cs = (List.range n).flatMap f' := by
  have hlen : (splice (f i) off cs).length = k := by
    unfold splice
    simp only [List.length_append, List.length_take, List.length_drop, hl]
    omega
  have e := rows_set f f' k hl n i h (by rw [hi]; exact hlen) hv
  rw [← e, hi, rows_split f n i h, splice_row _ _ _ cs (i * k) off (by rw [rows_len f k hl, Nat.mul_comm]) (by rw [hl]; exact ho), splice_mid _ _ _ _ (i * k) (by rw [rows_len f k hl, Nat.mul_comm]) (by rw [hlen, hl])]
end Go.Mv
namespace Go.Proofs.Ytdbgddngapminaa
open Go.RowKit Go.Mv Mvp Mvq
/-- terms' cells: numbers and tables -/
noncomputable def tmF (n : Nat) (a : Nat → Nat) (T : Nat → List Value) : List Value := (List.range n).flatMap fun i => cw 4 (a i) ++ T i
def upN {α : Type} (a : Nat → α) (k : Nat) (x : α) : Nat → α := fun i => if i = k then x else a i
theorem tm_row (a : Nat → Nat) (T : Nat → List Value) (hT : ∀ i, (T i).length = 192) (i : Nat) : (cw 4 (a i) ++ T i).length = 196 := by rw [List.length_append, cw_len, hT]
theorem tmF_len (n : Nat) (a : Nat → Nat) (T : Nat → List Value) (hT : ∀ i, (T i).length = 192) : (tmF n a T).length = n * 196 := by
  rw [Nat.mul_comm]; exact rows_len _ 196 (tm_row a T hT) n
theorem tmF_setN (n : Nat) (a : Nat → Nat) (T : Nat → List Value) (hT : ∀ i, (T i).length = 192) (k x : Nat) (h : k < n) : splice (tmF n a T) (k * 196) (cw 4 x) = tmF n (upN a k x) T := by
  have := rows_put (fun i => cw 4 (a i) ++ T i) (fun i => cw 4 (upN a k x i) ++ T i) 196 (tm_row a T hT) n k 0 (cw 4 x) h (by rw [cw_len]; omega)
    (by
      show cw 4 (upN a k x k) ++ T k = _
      unfold upN splice
      rw [if_pos rfl, Nat.zero_add, cw_len, List.drop_append_of_le_length (by rw [cw_len]; omega), List.drop_of_length_le (by rw [cw_len]; omega)]
      rfl)
    (fun j hj => by show cw 4 (upN a k x j) ++ T j = _; unfold upN; rw [if_neg hj])
  rw [Nat.add_zero] at this
  exact this
theorem tmF_setT (n : Nat) (a : Nat → Nat) (T : Nat → List Value) (hT : ∀ i, (T i).length = 192) (k : Nat) (t : List Value) (ht : t.length = 192) (h : k < n) : splice (tmF n a T) (k * 196 + 4) t = tmF n a (upN T k t) :=
  rows_put (fun i => cw 4 (a i) ++ T i) (fun i => cw 4 (a i) ++ upN T k t i) 196 (tm_row a T hT) n k 4 t h (by rw [ht]; omega)
    (by
      show cw 4 (a k) ++ upN T k t k = _
      unfold upN splice
      rw [if_pos rfl, List.take_append_of_le_length (by rw [cw_len]; omega), List.take_of_length_le (by rw [cw_len]; omega), List.drop_of_length_le (by rw [List.length_append, cw_len, hT, ht]; omega), List.append_nil])
    (fun j hj => by show cw 4 (a j) ++ upN T k t j = _; unfold upN; rw [if_neg hj])
theorem tmF_congr (n : Nat) (a a' : Nat → Nat) (T T' : Nat → List Value) (h : ∀ i, i < n → a i = a' i ∧ T i = T' i) : tmF n a T = tmF n a' T' := by
  unfold tmF
  rw [List.flatMap_def, List.flatMap_def]
  congr 1
  exact List.map_congr_left fun i hi => by obtain ⟨h1, h2⟩ := h i (List.mem_range.1 hi); rw [h1, h2]
theorem tmF_zero (n : Nat) : List.replicate (n * 196) (Value.int .u64 0) = tmF n (fun _ => 0) (fun _ => cw 192 0) := by
  unfold tmF
  induction n with
  | zero => rfl
  | succ n ih =>
    rw [List.range_succ, List.flatMap_append, ← ih, Nat.succ_mul, ← List.replicate_append_replicate]
    congr 1
    simp only [List.flatMap_cons, List.flatMap_nil, List.append_nil, cw_zero]
    rw [List.replicate_append_replicate]
/-- all filled: the terms of a list -/
theorem tmF_tmL (l : List (Nat × PT)) : tmF l.length (fun i => (tmAt l i).1) (fun i => tbL (tmAt l i).2 16) = tmL l := rfl
end Go.Proofs.Ytdbgddngapminaa

/- group: Sum's closure. -/
namespace Go.Proofs.Ytdbgddngapminaa
open Go.RowKit Go.Mv Mvp Mvq
/-- the tables, as far as they are filled -/
noncomputable def tkT (ls : List (List UInt8)) (k : Nat) : Nat → List Value := fun i => if i < k then tbL (rdT (ls.getD i [])) 16 else cw 192 0
theorem tkT_len (ls : List (List UInt8)) (k i : Nat) : (tkT ls k i).length = 192 := by
  unfold tkT
  split
  · exact tbL_len _ _
  · exact cw_len _ _
/-- the terms of a sum -/
noncomputable def tmsT (a : Nat → Nat) (ls : List (List UInt8)) : List (Nat × PT) := (List.range ls.length).map fun i => (a i, rdT (ls.getD i []))
theorem tmsT_len (a : Nat → Nat) (ls : List (List UInt8)) : (tmsT a ls).length = ls.length := by simp [tmsT]
theorem tmsT_at (a : Nat → Nat) (ls : List (List UInt8)) (i : Nat) (h : i < ls.length) : tmAt (tmsT a ls) i = (a i, rdT (ls.getD i [])) := by
  unfold tmAt tmsT
  rw [List.getD_eq_getElem?_getD, List.getElem?_map, List.getElem?_range h]
  rfl
theorem tms_full (a : Nat → Nat) (ls : List (List UInt8)) : tmF ls.length a (tkT ls ls.length) = tmL (tmsT a ls) := by
  rw [← tmF_tmL, tmsT_len]
  refine tmF_congr _ _ _ _ _ fun i hi => ?_
  rw [tmsT_at a ls i hi]
  refine ⟨rfl, ?_⟩
  unfold tkT
  rw [if_pos hi]
theorem tms_zero (n : Nat) (a : Nat → Nat) (ls : List (List UInt8)) : tmF n a (fun _ => cw 192 0) = tmF n a (tkT ls 0) := tmF_congr _ _ _ _ _ fun i _ => ⟨rfl, by unfold tkT; rw [if_neg (Nat.not_lt_zero _)]⟩
theorem tms_set (n : Nat) (a : Nat → Nat) (ls : List (List UInt8)) (k : Nat) (h : k < n) (l : List UInt8) (hl : ls.getD k [] = l) : splice (tmF n a (tkT ls k)) (k * 196 + 4) (tbL (rdT l) 16) = tmF n a (tkT ls (k + 1)) := by
  subst hl
  rw [tmF_setT n a _ (tkT_len ls k) k _ (tbL_len _ _) h]
  refine tmF_congr _ _ _ _ _ fun i _ => ⟨rfl, ?_⟩
  unfold upN tkT
  by_cases e : i = k
  · rw [if_pos e, if_pos (by omega), e]
  · rw [if_neg e]
    by_cases e2 : i < k
    · rw [if_pos e2, if_pos (by omega)]
    · rw [if_neg e2, if_neg (by omega)]
theorem tms_rd {w : World} {gT : Nat} {a : Nat → Nat} {ls : List (List UInt8)} {T : TypeId} (h : Has w gT (tmF ls.length a (tkT ls ls.length)) T) : Rd w (some ⟨gT, 0, none⟩) ((tmsT a ls).length * 196) (tmL (tmsT a ls)) := by
  rw [tms_full] at h
  have := Rd.whole h
  rwa [tmL_len] at this
theorem k256_x (w : World) : Calls Try.prog 41 #[] w fun e w' => ∃ gc, e = .returned (.pointer (some ⟨gc, 0, none⟩)) ∧ Cv w' gc ∧ Fr Nob w w' :=
  (k256_c w).mono fun _ _ ⟨gc, k1, _, k2, k3⟩ => ⟨gc, k1, k2, k3⟩
attribute [local irreducible] limbs lw mix cw cSub cAdd cMul beN laid be32 montT mstep elN mdL numB rtN rtV rtOk gXn gYn PT.L addT dblT mulT tbL tmR tmL dbN innT outT sumT dig rdT rdOk rdPt ptL ptsL rdsB wrPt tmF upN
set_option maxHeartbeats 8000000 in
set_option maxRecDepth 1000000 in
theorem sum1_c (n : Nat) (a : Nat → Nat) (ls : List (List UInt8)) (hls : ls.length = n) (hn : n ≤ 100000) (gb gT : Nat) (w : World) (hne : gb ≠ gT) (hgb : Has w gb [.slice (some ⟨gT, 0, none⟩) n n] 94) (hgt : Has w gT (tmF n a fun _ => cw 192 0) 98)
    (ap : Option Addr) (cp : Nat) (hoff : Off (One gT) ap) (hre : Rd w ap (ls.length * 12) (ptsL ls)) :
    Calls Try.prog 62 #[.slice ap n cp, .pointer (some ⟨gb, 0, none⟩)] w fun e w' => e = .returned (.agg (sumT (tmsT a ls)).L.toArray) ∧ Fr (One gT) w w' := by
  rw [tms_zero n a ls] at hgt
  have HLS := Lib.hid hls
  have HN := Lib.hid hn
  have hnI : (n : Int) ≤ 100000 := by omega
  have HNE := Lib.hid (show ¬ One gT gb from hne)
  have HGB := Lib.hid hgb
  have HGT := Lib.hid hgt
  have HOFF := Lib.hid hoff
  have HRE := Lib.hid hre
  clear hls hne hgb hgt hoff hre hn
  have st0 := St.one HGT.out
  go_enter Try.func62, Try.ntmps62
  go_wp2_with (with_reducible refine wl_stop (o := ⟨some 3, _, _, _, _, _⟩) ?_)
  refine wl_allocS st0 rfl rfl (z := .agg (List.replicate 12 (.int .u64 0)).toArray) (by kernel_rfl) (cw 12 0) (by rw [cw_zero]; rfl) ?_
  intro g3 w1 st1
  clear st0
  go_wp2
  go_loopw [8] (fun x wr => ∃ k : Nat, k ≤ n ∧ x = .int .i64 (k : Int) ∧ St (One gT) w wr [(gT, tmF n a (tkT ls k), 98), (g3, cw 12 0, 72)]) (fun x _ => n - (intOf x).toNat)
  case atStart => exact ⟨0, Nat.zero_le _, rfl, st1⟩
  case round =>
    obtain ⟨k, hk, rfl, st⟩ := hrel
    clear st1
    by_cases hlt : k < n
    · have hltI : (k : Int) < (n : Int) := by omega
      obtain ⟨ba, oa, hea, -⟩ := HRE.out.at (by have := HLS.out; omega)
      subst hea
      have hk0 : (0 : Int) ≤ (k : Int) := by omega
      have hpa := ptsL_at ls k (by rw [HLS.out]; exact hlt)
      generalize hl : ls.getD k [] = l at *
      have HLL := Lib.hid hl
      have HPA := Lib.hid hpa
      clear hl hpa
      have HLT := Lib.hid hlt
      have HLK := Lib.hid (show k < ls.length by rw [HLS.out]; exact hlt)
      clear hlt
      go_wp2_with (with_reducible refine wl_stop (o := ⟨some 12, _, _, _, _, _⟩) ?_)
      refine wl_loadR rfl rfl Try.underlying72 rfl rfl (rd_at (HRE.out.keep st.fr HOFF.out) (k * 12) ((rdT l).L) HPA.out) (by first | (rw [cw_len]; kernel_rfl) | (simp only [PT.len]; kernel_rfl)) ?_
      go_wp2_with (with_reducible refine wl_stop (o := ⟨some 5, _, _, _, _, _⟩) ?_)
      refine wl_allocS st rfl rfl (z := .agg (List.replicate 12 (.int .u64 0)).toArray) (by kernel_rfl) (cw 12 0) (by rw [cw_zero]; rfl) ?_
      intro g5 w2 st2
      clear st
      go_wp2_with (with_reducible refine wl_stop (o := ⟨none, _, _, _, _, _⟩) ?_)
      refine wl_storeS st2 2 rfl rfl rfl rfl rfl (by first | (simp only [cw_len]; done) | (simp only [List.length_append, cw_len, PT.len, tbL_len, ptL_len]; done)) (by first | (rw [cw_len]; kernel_rfl) | (simp only [PT.len]; kernel_rfl)) (PT.one _) ?_
      intro w3 st3
      clear st2
      go_wp2_with fail
      refine wp_region_noPanic ?_
      refine wp_region_lad st3 7 [.t 0, .w 1, .t 3, .c 2, .c 4, .w 5, .w 6] (.m 7 .nil) (by kernel_rfl) (by kernel_rfl) (fun _ _ _ _ _ h => h) ?_
      clear st3
      refine lad_t (v := ?_) rfl rfl (fun xq wx hS => ?_) ?_
      rotate_left 1
      · (have hc := (HGB.out.keep (St.fr hS) HNE.out).cell (show [Value.slice (some ⟨gT, 0, none⟩) n n][0]? = _ from rfl); clear hS; go_simp; with_reducible rfl)
      try simp only [Act.put, List.setIfInBounds_toArray, List.set_cons_zero, List.set_cons_succ]
      refine lad_w (v := ?_) rfl rfl (fun xq wx => ?_) ?_
      rotate_left 1
      · (go_simp; with_reducible rfl)
      try simp only [Act.put, List.setIfInBounds_toArray, List.set_cons_zero, List.set_cons_succ]
      refine lad_arr rfl rfl rfl (fun _ => rfl) ((rdT l).L) (fun wx hS => St.rangeL hS 2 rfl 0 _ (by rw [List.drop_zero, List.take_of_length_le (Nat.le_refl _)])) Try.underlying72 rfl (by first | (rw [cw_len]; kernel_rfl) | (simp only [PT.len]; kernel_rfl)) ?_
      try simp only [Act.put, List.setIfInBounds_toArray, List.set_cons_zero, List.set_cons_succ]
      refine lad_callX (X := Nat) (fun gc => .pointer (some ⟨gc, 0, none⟩)) (fun gc w => Cv w gc) (fun _ _ _ h k => h.keep k) rfl rfl rfl Try.call41 (fun w hS hR => k256_x _) (fun _ => rfl) fun gc => ?_
      try simp only [Act.put, List.setIfInBounds_toArray, List.set_cons_zero, List.set_cons_succ]
      refine lad_call rfl rfl rfl Try.call63 (fun w hS hR => multiples_c (rdT l) gc _ hR.2) (fun _ => rfl) ?_
      try simp only [Act.put, List.setIfInBounds_toArray, List.set_cons_zero, List.set_cons_succ]
      refine lad_w (v := ?_) rfl rfl (fun xq wx => ?_) ?_
      rotate_left 1
      · (go_simp; with_reducible rfl)
      try simp only [Act.put, List.setIfInBounds_toArray, List.set_cons_zero, List.set_cons_succ]
      refine lad_w (v := ?_) rfl rfl (fun xq wx => ?_) ?_
      rotate_left 1
      · (go_simp; with_reducible rfl)
      try simp only [Act.put, List.setIfInBounds_toArray, List.set_cons_zero, List.set_cons_succ]
      refine lad_end fun xq w4 st4 hR => ?_
      try dsimp only
      clear hR xq
      refine plan_m rfl rfl ?_
      refine wp_storeP st4 0 rfl rfl rfl rfl (tmF n a (tkT ls (k + 1))) (tms_set n a ls k HLT.out l HLL.out) (by rw [tmF_len n a _ (tkT_len ls k), tbL_len]; have := HLT.out; omega) (by first | (rw [cw_len]; kernel_rfl) | (simp only [tbL_len]; kernel_rfl)) (tbL_one _ _) ?_
      intro w5 st5
      have st5 : St (One gT) w w5 [(gT, tmF n a (tkT ls (k + 1)), 98), (g3, cw 12 0, 72), (g5, (rdT l).L, 72)] := st5
      clear st4
      try simp only [Act.put]
      refine plan_end ?_
      refine NoPanic.normal ?_
      go_wp2_with fail
      go_roundw
      case rel => exact ⟨k + 1, by have := HLT.out; omega, by go_num, St.less st5 (by simp)⟩
      case measure => have := HLT.out; simp [intOf]; omega
    · have hltI : ¬ ((k : Int) < (n : Int)) := by omega
      have hkn : k = ls.length := by rw [HLS.out]; omega
      have hnl : n = ls.length := HLS.out.symm
      subst hkn
      have HNL := Lib.hid hnl
      clear hnl
      have hHT := st.at 0 rfl
      clear hHT
      go_wp2_with fail
      refine wp_region_noPanic ?_
      refine wp_region_lad st 3 [.t 1, .c 0, .c 2] (.m 3 .nil) (by kernel_rfl) (by kernel_rfl) (fun _ _ _ _ _ h => h) ?_
      clear st
      refine lad_t (v := ?_) rfl rfl (fun xq wx hS => ?_) ?_
      rotate_left 1
      · (have hc := (HGB.out.keep (St.fr hS) HNE.out).cell (show [Value.slice (some ⟨gT, 0, none⟩) n n][0]? = _ from rfl); clear hS; go_simp; with_reducible rfl)
      try simp only [Act.put, List.setIfInBounds_toArray, List.set_cons_zero, List.set_cons_succ]
      refine lad_callX (X := Nat) (fun gc => .pointer (some ⟨gc, 0, none⟩)) (fun gc w => Cv w gc) (fun _ _ _ h k => h.keep k) rfl rfl rfl Try.call41 (fun w hS hR => k256_x _) (fun _ => rfl) fun gc => ?_
      try simp only [Act.put, List.setIfInBounds_toArray, List.set_cons_zero, List.set_cons_succ]
      refine lad_call rfl rfl rfl Try.call64 (fun w hS hR => sum_c (tmsT a ls) gc (some ⟨gT, 0, none⟩) n n _ hR.2 (by rw [tmsT_len]; exact HLS.out) HN.out (tms_rd (by have h := St.at hS 0 rfl; rw [HNL.out] at h; exact h))) (fun _ => rfl) ?_
      try simp only [Act.put, List.setIfInBounds_toArray, List.set_cons_zero, List.set_cons_succ]
      refine lad_end fun xq w2 st2 hR => ?_
      try dsimp only
      clear hR xq
      refine plan_m rfl rfl ?_
      refine wp_storeS st2 1 rfl rfl rfl rfl (by first | (simp only [cw_len]; done) | (simp only [List.length_append, cw_len, PT.len, tbL_len, ptL_len]; done)) (by first | (rw [cw_len]; kernel_rfl) | (simp only [PT.len]; kernel_rfl)) (PT.one _) ?_
      intro w3 st3
      try simp only [List.set_cons_zero, List.set_cons_succ] at st3
      clear st2
      try simp only [Act.put]
      refine plan_end ?_
      refine NoPanic.normal ?_
      have hr := st3.at 1 rfl
      have hfr := st3.fr
      clear st3
      go_wp2_with fail
      exact bodyPost_ret (results_st rfl rfl hr Try.underlying72 rfl (by first | (rw [cw_len]; kernel_rfl) | (simp only [PT.len]; kernel_rfl))) rfl ⟨rfl, hfr⟩
end Go.Proofs.Ytdbgddngapminaa
