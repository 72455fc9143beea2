/- group: Plus, Minus, Times, Point, Base: what they answer; group's exported functions, for all bytes: what they answer, told by points; GroupLaw, plain: the law's numbers; contracts at points that are known to be points; The law GroupLaw; From a walk that turns nothing (Fr Nob) to what a law's row asks behind the call; Arguments that were handed in, opened into the words of Mem. -/
import Derived.Test.YtdbgddngapminaaMgGroupLawProof6
import Derived.Test.YtdbgddngapminaaMgGroupLawProof1
import Derived.ProofKit
import Derived.OpenShut
import Derived.Carry
import Derived.SliceStrings
import Derived.SizedLaws
namespace Go.Proofs.Ytdbgddngapminaa
open Go.RowKit Go.Mv Mvp Mvq
theorem base_cells {gp : Nat} : ((crvL mP gp gXn gYn).drop 5).take baseT.L.length = baseT.L := crv_base mP gp gXn gYn
theorem info_bslg : (Try.prog.info? 34).map (fun i => (i.zero, i.size, i.bytes)) = some (some (.slice none 0 0), 1, 24) := by kernel_rfl
attribute [local irreducible] limbs lw mix cw cSub cAdd cMul beN laid be32 montT mstep elN mdL numB rtN rtV rtOk gXn gYn PT.L addT dblT mulT tbL tmR tmL dbN innT outT sumT dig rdT rdOk rdPt ptL ptsL rdsB wrPt negT
set_option maxHeartbeats 8000000 in
set_option maxRecDepth 1000000 in
theorem GPlus_ok (va vb : Value) (la lb : List UInt8) (w : World) (hpa : BPart w va la) (hpb : BPart w vb lb) (hg : rdsB [la, lb] = true) :
    Calls Try.prog 14 #[va, vb] w fun e w' => ∃ v, e = .returned (.tuple #[v, .int .i64 0]) ∧ Own w' w.heap.size 5 1 v 33 (bs (wrPt (addT (rdT la) (rdT lb)).pt)) ∧ Fr Nob w w' := by
  have HA1 := Lib.hid (BPart.one hpa)
  have HB1 := Lib.hid (BPart.one hpb)
  have HP := Lib.hid (BParts.two hpa hpb)
  have HG := Lib.hid hg
  clear hg hpa hpb
  go_enter Try.func14, Try.ntmps14
  go_wp2_with (with_reducible refine wl_stop (o := ⟨some 8, _, _, _, _, _⟩) ?_)
  unfold Stop
  refine wl_slit (vs := [va, vb]) (hgd := rfl) (ho := rfl) (hu := Try.underlying50) (hi0 := info_bslg) (hp := by rfl) (hv := (fun v hv => by simp at hv; rcases hv with rfl | rfl; exact HA1.out; exact HB1.out)) (hk := by rfl) (hz := by rfl) (h := ?_)
  intro w2 hg2 hf2 hz2
  clear hz2
  generalize hgl : w.heap.size = gl at *
  have HGL := Lib.hid hgl
  have HF2 := Lib.hid hf2
  have HRD := Lib.hid (show Rd w2 (some ⟨gl, 0, none⟩) 2 [va, vb] from Rd.whole hg2)
  clear hg2 hf2 hgl
  go_wp2_with fail
  refine (with_plus_ok _ 2 2 [va, vb] [la, lb] _ HRD.out (HP.out.still HF2.out) (by decide) HG.out (addT (rdT la) (rdT lb)) (fun ap cp wx hfx hrx => plus1_c la lb wx ap cp hrx)).mono ?_
  rintro e w3 ⟨v, rfl, hown, hf3⟩
  have h3 := HF2.out.then hf3
  have hsz := HF2.out.size
  have ho := hown.mono hsz
  clear hown hf3 HF2 hsz
  go_wp2_with fail
  go_ret2
  exact ⟨v, rfl, ho, h3⟩
set_option maxHeartbeats 8000000 in
set_option maxRecDepth 1000000 in
theorem GPlus_bad (va vb : Value) (la lb : List UInt8) (w : World) (hpa : BPart w va la) (hpb : BPart w vb lb) (hg : rdsB [la, lb] = false) :
    Calls Try.prog 14 #[va, vb] w fun e w' => e = .returned (.tuple #[.slice none 0 0, .int .i64 4]) ∧ Fr Nob w w' := by
  have HA1 := Lib.hid (BPart.one hpa)
  have HB1 := Lib.hid (BPart.one hpb)
  have HP := Lib.hid (BParts.two hpa hpb)
  have HG := Lib.hid hg
  clear hg hpa hpb
  go_enter Try.func14, Try.ntmps14
  go_wp2_with (with_reducible refine wl_stop (o := ⟨some 8, _, _, _, _, _⟩) ?_)
  unfold Stop
  refine wl_slit (vs := [va, vb]) (hgd := rfl) (ho := rfl) (hu := Try.underlying50) (hi0 := info_bslg) (hp := by rfl) (hv := (fun v hv => by simp at hv; rcases hv with rfl | rfl; exact HA1.out; exact HB1.out)) (hk := by rfl) (hz := by rfl) (h := ?_)
  intro w2 hg2 hf2 hz2
  clear hz2
  generalize hgl : w.heap.size = gl at *
  have HGL := Lib.hid hgl
  have HF2 := Lib.hid hf2
  have HRD := Lib.hid (show Rd w2 (some ⟨gl, 0, none⟩) 2 [va, vb] from Rd.whole hg2)
  clear hg2 hf2 hgl
  go_wp2_with fail
  refine (with_plus_bad _ 2 2 [va, vb] [la, lb] _ HRD.out (HP.out.still HF2.out) (by decide) HG.out).mono ?_
  rintro e w3 ⟨rfl, hf3⟩
  have h3 := HF2.out.then hf3
  clear hf3 HF2
  go_wp2_with fail
  go_ret2
  exact ⟨rfl, h3⟩

set_option maxHeartbeats 8000000 in
set_option maxRecDepth 1000000 in
theorem GMinus_ok (va : Value) (la : List UInt8) (w : World) (hpa : BPart w va la) (hg : rdsB [la] = true) :
    Calls Try.prog 15 #[va] w fun e w' => ∃ v, e = .returned (.tuple #[v, .int .i64 0]) ∧ Own w' w.heap.size 5 1 v 33 (bs (wrPt (negT (rdT la)).pt)) ∧ Fr Nob w w' := by
  have HA1 := Lib.hid (BPart.one hpa)
  have HP := Lib.hid (BParts.one hpa)
  have HG := Lib.hid hg
  clear hg hpa
  go_enter Try.func15, Try.ntmps15
  go_wp2_with (with_reducible refine wl_stop (o := ⟨some 5, _, _, _, _, _⟩) ?_)
  unfold Stop
  refine wl_slit (vs := [va]) (hgd := rfl) (ho := rfl) (hu := Try.underlying50) (hi0 := info_bslg) (hp := by rfl) (hv := (fun v hv => by simp at hv; subst hv; exact HA1.out)) (hk := by rfl) (hz := by rfl) (h := ?_)
  intro w2 hg2 hf2 hz2
  clear hz2
  generalize hgl : w.heap.size = gl at *
  have HGL := Lib.hid hgl
  have HF2 := Lib.hid hf2
  have HRD := Lib.hid (show Rd w2 (some ⟨gl, 0, none⟩) 1 [va] from Rd.whole hg2)
  clear hg2 hf2 hgl
  go_wp2_with fail
  refine (with_minus_ok _ 1 1 [va] [la] _ HRD.out (HP.out.still HF2.out) (by decide) HG.out (negT (rdT la)) (fun ap cp wx hfx hrx => minus1_c la wx ap cp hrx)).mono ?_
  rintro e w3 ⟨v, rfl, hown, hf3⟩
  have h3 := HF2.out.then hf3
  have hsz := HF2.out.size
  have ho := hown.mono hsz
  clear hown hf3 HF2 hsz
  go_wp2_with fail
  go_ret2
  exact ⟨v, rfl, ho, h3⟩
set_option maxHeartbeats 8000000 in
set_option maxRecDepth 1000000 in
theorem GMinus_bad (va : Value) (la : List UInt8) (w : World) (hpa : BPart w va la) (hg : rdsB [la] = false) :
    Calls Try.prog 15 #[va] w fun e w' => e = .returned (.tuple #[.slice none 0 0, .int .i64 4]) ∧ Fr Nob w w' := by
  have HA1 := Lib.hid (BPart.one hpa)
  have HP := Lib.hid (BParts.one hpa)
  have HG := Lib.hid hg
  clear hg hpa
  go_enter Try.func15, Try.ntmps15
  go_wp2_with (with_reducible refine wl_stop (o := ⟨some 5, _, _, _, _, _⟩) ?_)
  unfold Stop
  refine wl_slit (vs := [va]) (hgd := rfl) (ho := rfl) (hu := Try.underlying50) (hi0 := info_bslg) (hp := by rfl) (hv := (fun v hv => by simp at hv; subst hv; exact HA1.out)) (hk := by rfl) (hz := by rfl) (h := ?_)
  intro w2 hg2 hf2 hz2
  clear hz2
  generalize hgl : w.heap.size = gl at *
  have HGL := Lib.hid hgl
  have HF2 := Lib.hid hf2
  have HRD := Lib.hid (show Rd w2 (some ⟨gl, 0, none⟩) 1 [va] from Rd.whole hg2)
  clear hg2 hf2 hgl
  go_wp2_with fail
  refine (with_minus_bad _ 1 1 [va] [la] _ HRD.out (HP.out.still HF2.out) (by decide) HG.out).mono ?_
  rintro e w3 ⟨rfl, hf3⟩
  have h3 := HF2.out.then hf3
  clear hf3 HF2
  go_wp2_with fail
  go_ret2
  exact ⟨rfl, h3⟩

set_option maxHeartbeats 8000000 in
set_option maxRecDepth 1000000 in
theorem GTimes_ok (vk va : Value) (lk la : List UInt8) (w : World) (hpk : BPart w vk lk) (hpa : BPart w va la) (hk : numB mQ lk = true) (hg : rdsB [la] = true) :
    Calls Try.prog 16 #[vk, va] w fun e w' => ∃ v, e = .returned (.tuple #[v, .int .i64 0]) ∧ Own w' w.heap.size 5 1 v 33 (bs (wrPt (sumT [(beN lk, rdT la)]).pt)) ∧ Fr Nob w w' := by
  have HP := Lib.hid (BParts.one hpa)
  have HA1 := Lib.hid (BPart.one hpa)
  have HK := Lib.hid hk
  obtain ⟨ak, nk, ck, rfl, -, hrk⟩ := hpk
  have HRK := Lib.hid hrk
  have HG := Lib.hid hg
  clear hg hpa hk hrk
  have st0 := St.start Nob w
  go_enter Try.func16, Try.ntmps16
  go_wp2_with fail
  refine (scalar_t HK.out ak nk ck _ (HRK.out.still st0.fr)).mono ?_
  rintro e' w1 ⟨rfl, hf1⟩
  have st1 := st0.keep hf1
  clear st0 hf1
  go_wp2_with (with_reducible refine wl_stop (o := ⟨some 6, _, _, _, _, _⟩) ?_)
  refine wl_allocS st1 rfl rfl (z := .agg #[.int .u64 0, .int .u64 0, .int .u64 0, .int .u64 0]) (by kernel_rfl) (cw 4 0) (by rw [cw_zero]; rfl) ?_
  intro gk w2 st2
  clear st1
  go_wp2_with (with_reducible refine wl_stop (o := ⟨none, _, _, _, _, _⟩) ?_)
  refine wl_storeS st2 0 rfl rfl rfl rfl rfl (by first | (simp only [cw_len]; done) | (simp only [List.length_append, cw_len, PT.len, ptL_len]; done)) (by first | (rw [cw_len]; kernel_rfl) | (rw [PT.len]; kernel_rfl) | (rw [ptL_len]; kernel_rfl) | (simp only [List.length_append, cw_len]; kernel_rfl) | (simp only [List.length_append, cw_len, PT.len, ptL_len]; kernel_rfl)) (cw_one _ _) ?_
  intro w3 st3
  clear st2
  have HKN := Lib.hid (st3.at 0 rfl)
  have HF1 := Lib.hid st3.fr
  clear st3
  go_wp2_with (with_reducible refine wl_stop (o := ⟨some 17, _, _, _, _, _⟩) ?_)
  refine wl_slit (vs := [va]) (hgd := rfl) (ho := rfl) (hu := Try.underlying50) (hi0 := info_bslg) (hp := by rfl) (hv := (fun v hv => by simp at hv; subst hv; exact HA1.out)) (hk := by rfl) (hz := by rfl) (h := ?_)
  intro wS hgS hfS hzS
  clear hzS
  generalize w3.heap.size = gl at *
  have HF2 := Lib.hid (HF1.out.then hfS)
  have HKN2 := Lib.hid (HKN.out.keep hfS id)
  have HRD := Lib.hid (show Rd wS (some ⟨gl, 0, none⟩) 1 [va] from Rd.whole hgS)
  clear hgS hfS HF1 HKN
  go_wp2_with fail
  refine (with_times_ok gk _ 1 1 [va] [la] _ HRD.out (HP.out.still HF2.out) (by decide) HG.out (sumT [(beN lk, rdT la)]) (fun ap cp wx hfx hrx => times1_c la wx (beN lk) gk (HKN2.out.keep hfx id) ap cp hrx)).mono ?_
  rintro e wE ⟨v, rfl, hown, hfE⟩
  have h3 := HF2.out.then hfE
  have ho := hown.mono HF2.out.size
  clear hown hfE HF2
  go_wp2_with fail
  go_ret2
  exact ⟨v, rfl, ho, h3⟩

set_option maxHeartbeats 8000000 in
set_option maxRecDepth 1000000 in
theorem GTimes_badp (vk va : Value) (lk la : List UInt8) (w : World) (hpk : BPart w vk lk) (hpa : BPart w va la) (hk : numB mQ lk = true) (hg : rdsB [la] = false) :
    Calls Try.prog 16 #[vk, va] w fun e w' => e = .returned (.tuple #[.slice none 0 0, .int .i64 4]) ∧ Fr Nob w w' := by
  have HP := Lib.hid (BParts.one hpa)
  have HA1 := Lib.hid (BPart.one hpa)
  have HK := Lib.hid hk
  obtain ⟨ak, nk, ck, rfl, -, hrk⟩ := hpk
  have HRK := Lib.hid hrk
  have HG := Lib.hid hg
  clear hg hpa hk hrk
  have st0 := St.start Nob w
  go_enter Try.func16, Try.ntmps16
  go_wp2_with fail
  refine (scalar_t HK.out ak nk ck _ (HRK.out.still st0.fr)).mono ?_
  rintro e' w1 ⟨rfl, hf1⟩
  have st1 := st0.keep hf1
  clear st0 hf1
  go_wp2_with (with_reducible refine wl_stop (o := ⟨some 6, _, _, _, _, _⟩) ?_)
  refine wl_allocS st1 rfl rfl (z := .agg #[.int .u64 0, .int .u64 0, .int .u64 0, .int .u64 0]) (by kernel_rfl) (cw 4 0) (by rw [cw_zero]; rfl) ?_
  intro gk w2 st2
  clear st1
  go_wp2_with (with_reducible refine wl_stop (o := ⟨none, _, _, _, _, _⟩) ?_)
  refine wl_storeS st2 0 rfl rfl rfl rfl rfl (by first | (simp only [cw_len]; done) | (simp only [List.length_append, cw_len, PT.len, ptL_len]; done)) (by first | (rw [cw_len]; kernel_rfl) | (rw [PT.len]; kernel_rfl) | (rw [ptL_len]; kernel_rfl) | (simp only [List.length_append, cw_len]; kernel_rfl) | (simp only [List.length_append, cw_len, PT.len, ptL_len]; kernel_rfl)) (cw_one _ _) ?_
  intro w3 st3
  clear st2
  have HKN := Lib.hid (st3.at 0 rfl)
  have HF1 := Lib.hid st3.fr
  clear st3
  go_wp2_with (with_reducible refine wl_stop (o := ⟨some 17, _, _, _, _, _⟩) ?_)
  refine wl_slit (vs := [va]) (hgd := rfl) (ho := rfl) (hu := Try.underlying50) (hi0 := info_bslg) (hp := by rfl) (hv := (fun v hv => by simp at hv; subst hv; exact HA1.out)) (hk := by rfl) (hz := by rfl) (h := ?_)
  intro wS hgS hfS hzS
  clear hzS
  generalize w3.heap.size = gl at *
  have HF2 := Lib.hid (HF1.out.then hfS)
  have HKN2 := Lib.hid (HKN.out.keep hfS id)
  have HRD := Lib.hid (show Rd wS (some ⟨gl, 0, none⟩) 1 [va] from Rd.whole hgS)
  clear hgS hfS HF1 HKN
  go_wp2_with fail
  refine (with_times_bad gk _ 1 1 [va] [la] _ HRD.out (HP.out.still HF2.out) (by decide) HG.out).mono ?_
  rintro e wE ⟨rfl, hfE⟩
  have h3 := HF2.out.then hfE
  clear hfE HF2
  go_wp2_with fail
  go_ret2
  exact ⟨rfl, h3⟩

set_option maxHeartbeats 8000000 in
set_option maxRecDepth 1000000 in
theorem GTimes_badk (vk va : Value) (lk la : List UInt8) (w : World) (hpk : BPart w vk lk) (hpa : BPart w va la) (hk : numB mQ lk = false) :
    Calls Try.prog 16 #[vk, va] w fun e w' => e = .returned (.tuple #[.slice none 0 0, .int .i64 3]) ∧ Fr Nob w w' := by
  have HP := Lib.hid (BParts.one hpa)
  have HA1 := Lib.hid (BPart.one hpa)
  have HK := Lib.hid hk
  obtain ⟨ak, nk, ck, rfl, -, hrk⟩ := hpk
  have HRK := Lib.hid hrk
  clear hpa hk hrk
  have st0 := St.start Nob w
  go_enter Try.func16, Try.ntmps16
  go_wp2_with fail
  refine (scalar_f HK.out ak nk ck _ (HRK.out.still st0.fr)).mono ?_
  rintro e' w1 ⟨⟨N, rfl⟩, hf1⟩
  have st1 := st0.keep hf1
  clear st0 hf1
  go_wp2_with (with_reducible refine wl_stop (o := ⟨some 6, _, _, _, _, _⟩) ?_)
  refine wl_allocS st1 rfl rfl (z := .agg #[.int .u64 0, .int .u64 0, .int .u64 0, .int .u64 0]) (by kernel_rfl) (cw 4 0) (by rw [cw_zero]; rfl) ?_
  intro gk w2 st2
  clear st1
  go_wp2_with (with_reducible refine wl_stop (o := ⟨none, _, _, _, _, _⟩) ?_)
  refine wl_storeS st2 0 rfl rfl rfl rfl rfl (by first | (simp only [cw_len]; done) | (simp only [List.length_append, cw_len, PT.len, ptL_len]; done)) (by first | (rw [cw_len]; kernel_rfl) | (rw [PT.len]; kernel_rfl) | (rw [ptL_len]; kernel_rfl) | (simp only [List.length_append, cw_len]; kernel_rfl) | (simp only [List.length_append, cw_len, PT.len, ptL_len]; kernel_rfl)) (cw_one _ _) ?_
  intro w3 st3
  clear st2
  have hfr := st3.fr
  clear st3
  go_wp2_with fail
  go_ret2
  exact ⟨rfl, hfr⟩

set_option maxHeartbeats 8000000 in
set_option maxRecDepth 1000000 in
theorem GPoint_true (va : Value) (l : List UInt8) (w : World) (hpa : BPart w va l) (hk : rdOk l = true) :
    Calls Try.prog 13 #[va] w fun e w' => e = .returned (.bool true) ∧ Fr Nob w w' := by
  obtain ⟨a, n, c, rfl, hcc, hrd⟩ := hpa
  have HCC := Lib.hid hcc
  have HRD := Lib.hid hrd
  have HK := Lib.hid hk
  clear hcc hrd hk
  have st0 := St.start Nob w
  go_enter Try.func13, Try.ntmps13
  go_wp2_with fail
  refine (k256_c _).mono ?_
  rintro e' w1 ⟨gc, rfl, hle, hcv, hf1⟩
  have st1 := st0.keep hf1
  have HCV := Lib.hid hcv
  clear hcv hle
  clear st0 hf1
  go_wp2_with fail
  refine (read_t l HK.out gc a n c _ HCV.out (HRD.out.still st1.fr) HCC.out).mono ?_
  rintro e' w2 ⟨rfl, hf2⟩
  have st2 := st1.keep hf2
  clear st1 hf2
  go_wp2_with (with_reducible refine wl_stop (o := ⟨some 3, _, _, _, _, _⟩) ?_)
  refine wl_allocS st2 rfl rfl (z := .agg (List.replicate 12 (.int .u64 0)).toArray) (by kernel_rfl) (cw 12 0) (by rw [cw_zero]; rfl) ?_
  intro g3 w3 st3
  clear st2
  go_wp2_with (with_reducible refine wl_stop (o := ⟨none, _, _, _, _, _⟩) ?_)
  refine wl_storeS st3 0 rfl rfl rfl rfl rfl (by first | (simp only [cw_len]; done) | (simp only [List.length_append, cw_len, PT.len, ptL_len]; done)) (by first | (rw [cw_len]; kernel_rfl) | (rw [PT.len]; kernel_rfl) | (rw [ptL_len]; kernel_rfl) | (simp only [List.length_append, cw_len]; kernel_rfl) | (simp only [List.length_append, cw_len, PT.len, ptL_len]; kernel_rfl)) (PT.one _) ?_
  intro w4 st4
  clear st3
  have hfr := st4.fr
  clear st4
  go_wp2_with fail
  go_ret
  exact ⟨rfl, hfr⟩

set_option maxHeartbeats 8000000 in
set_option maxRecDepth 1000000 in
theorem GPoint_false (va : Value) (l : List UInt8) (w : World) (hpa : BPart w va l) (hk : rdOk l = false) :
    Calls Try.prog 13 #[va] w fun e w' => e = .returned (.bool false) ∧ Fr Nob w w' := by
  obtain ⟨a, n, c, rfl, hcc, hrd⟩ := hpa
  have HCC := Lib.hid hcc
  have HRD := Lib.hid hrd
  have HK := Lib.hid hk
  clear hcc hrd hk
  have st0 := St.start Nob w
  go_enter Try.func13, Try.ntmps13
  go_wp2_with fail
  refine (k256_c _).mono ?_
  rintro e' w1 ⟨gc, rfl, hle, hcv, hf1⟩
  have st1 := st0.keep hf1
  have HCV := Lib.hid hcv
  clear hcv hle
  clear st0 hf1
  go_wp2_with fail
  refine (read_f l HK.out gc a n c _ HCV.out (HRD.out.still st1.fr) HCC.out).mono ?_
  rintro e' w2 ⟨⟨X, Y, Z, rfl⟩, hf2⟩
  have st2 := st1.keep hf2
  clear st1 hf2
  go_wp2_with (with_reducible refine wl_stop (o := ⟨some 3, _, _, _, _, _⟩) ?_)
  refine wl_allocS st2 rfl rfl (z := .agg (List.replicate 12 (.int .u64 0)).toArray) (by kernel_rfl) (cw 12 0) (by rw [cw_zero]; rfl) ?_
  intro g3 w3 st3
  clear st2
  go_wp2_with (with_reducible refine wl_stop (o := ⟨none, _, _, _, _, _⟩) ?_)
  refine wl_storeS st3 0 rfl rfl rfl rfl rfl (by first | (simp only [cw_len]; done) | (simp only [List.length_append, cw_len, PT.len, ptL_len]; done)) (by first | (rw [cw_len]; kernel_rfl) | (rw [PT.len]; kernel_rfl) | (rw [ptL_len]; kernel_rfl) | (simp only [List.length_append, cw_len]; kernel_rfl) | (simp only [List.length_append, cw_len, PT.len, ptL_len]; kernel_rfl)) (ptL_one _ _ _ _) ?_
  intro w4 st4
  clear st3
  have hfr := st4.fr
  clear st4
  go_wp2_with fail
  go_ret
  exact ⟨rfl, hfr⟩

theorem GPoint_c (va : Value) (l : List UInt8) (w : World) (hpa : BPart w va l) : Calls Try.prog 13 #[va] w fun e w' => e = .returned (.bool (rdOk l)) ∧ Fr Nob w w' := by
  cases h : rdOk l
  · exact GPoint_false va l w hpa h
  · exact GPoint_true va l w hpa h

set_option maxHeartbeats 8000000 in
set_option maxRecDepth 1000000 in
theorem GBase_c (w : World) : Calls Try.prog 23 #[] w fun e w' => ∃ v, e = .returned v ∧ Own w' w.heap.size 5 1 v 33 (bs (wrPt baseT.pt)) ∧ Fr Nob w w' := by
  go_enter Try.func23, Try.ntmps23
  go_wp2_with fail
  refine (k256_c _).mono ?_
  rintro e w1 ⟨gc, rfl, hle, hcv, hf1⟩
  have HCV := Lib.hid hcv
  have HF1 := Lib.hid hf1
  clear hle hcv hf1
  go_wp2_with fail
  refine (k256_c _).mono ?_
  rintro e w2 ⟨gd, rfl, hle, ⟨gq, hc2, hm2⟩, hf2⟩
  have HCV2 := Lib.hid (HCV.out.keep hf2)
  have HF2 := Lib.hid (HF1.out.then hf2)
  clear hle hm2 hf2 HCV HF1
  go_wp2_with (with_reducible refine wl_stop (o := ⟨some 5, _, _, _, _, _⟩) ?_)
  refine wl_loadR rfl rfl Try.underlying72 rfl rfl (cs := baseT.L) (fun i v hv => hc2.range 5 _ base_cells i v hv) (by rw [PT.len]; kernel_rfl) ?_
  clear hc2
  go_wp2_with fail
  refine (bytes_c baseT gc _ HCV2.out).mono ?_
  rintro e w3 ⟨v, rfl, hown, hf3⟩
  have h3 := HF2.out.then hf3
  have ho := hown.mono HF2.out.size
  clear hown hf3 HF2 HCV2
  go_wp2_with fail
  go_ret
  exact ⟨v, rfl, ho, h3⟩
end Go.Proofs.Ytdbgddngapminaa

/- group's exported functions, for all bytes: what they answer, told by points. -/
namespace Mvq
theorem psum_snoc : ∀ (l : List (Nat × Pt)) (n : Nat) (p : Pt), (∀ t ∈ l, onC t.2) → onC p → psum (l ++ [(n, p)]) = padd (psum l) (pmul n p)
  | [], n, p, _, _ => by show padd (pmul n p) .O = padd .O (pmul n p); rw [padd_zero]; rfl
  | (k, q) :: l, n, p, h, hp => by
    have hl : ∀ t ∈ l, onC t.2 := fun t ht => h t (List.mem_cons_of_mem _ ht)
    show padd (pmul k q) (psum (l ++ [(n, p)])) = padd (padd (pmul k q) (psum l)) (pmul n p)
    rw [psum_snoc l n p hl hp, padd_assoc (pmul_on (h (k, q) (by simp)) k) (psum_on l hl) (pmul_on hp n)]
end Mvq
namespace Go.Proofs.Ytdbgddngapminaa
open Go.RowKit Go.Mv Mvp Mvq
/-- terms, as numbers and points -/
noncomputable def tpts (l : List (Nat × PT)) : List (Nat × Pt) := l.map fun t => (t.1, t.2.pt)
theorem tpts_on (l : List (Nat × PT)) : ∀ t ∈ tpts l, onC t.2 := by
  intro t ht
  obtain ⟨u, _, rfl⟩ := List.mem_map.1 ht
  exact u.2.onP
theorem innT_pt (l : List (Nat × PT)) (i : Nat) (o : PT) : ∀ k, k ≤ l.length → (innT l i o k).pt = padd o.pt (psum ((tpts (l.take k)).map fun t => (dig (63 - i) t.1, t.2)))
  | 0, _ => by show o.pt = padd o.pt .O; rw [padd_zero]
  | k + 1, h => by
    have ih := innT_pt l i o k (by omega)
    have hk : k < l.length := by omega
    have e : l.take (k + 1) = l.take k ++ [tmAt l k] := by
      rw [List.take_succ_eq_append_getElem hk]
      simp [tmAt, List.getD_eq_getElem?_getD, hk]
    have hon : ∀ t ∈ (tpts (l.take k)).map (fun t => (dig (63 - i) t.1, t.2)), onC t.2 := by
      intro t ht
      obtain ⟨u, hu, rfl⟩ := List.mem_map.1 ht
      exact tpts_on _ u hu
    rw [e, tpts, List.map_append, List.map_append, ← tpts]
    show (addT (innT l i o k) (mulT (tmAt l k).2 (dig (63 - i) (tmAt l k).1))).pt = padd o.pt (psum ((tpts (l.take k)).map (fun t => (dig (63 - i) t.1, t.2)) ++ [(dig (63 - i) (tmAt l k).1, (tmAt l k).2.pt)]))
    rw [addT_pt, mulT_pt, ih, psum_snoc _ _ _ hon (tmAt l k).2.onP, padd_assoc o.onP (psum_on _ hon) (pmul_on (tmAt l k).2.onP _)]
theorem outT_pt (l : List (Nat × PT)) (hn : ∀ t ∈ l, t.1 < 16 ^ 64) : ∀ i, i ≤ 64 → (outT l i).pt = psum (lead (64 - i) (tpts l))
  | 0, _ => by
    show noT.pt = _
    rw [noT_pt]
    have : ∀ l : List (Nat × PT), (∀ t ∈ l, t.1 < 16 ^ 64) → psum (lead 64 (tpts l)) = .O := by
      intro l
      induction l with
      | nil => intro _; rfl
      | cons t l ih =>
        intro h
        show padd (pmul (t.1 / 16 ^ 64) t.2.pt) (psum (lead 64 (tpts l))) = .O
        rw [Nat.div_eq_of_lt (h t (by simp)), ih fun u hu => h u (List.mem_cons_of_mem _ hu)]
        rfl
    exact (this l hn).symm
  | i + 1, h => by
    have ih := outT_pt l hn i (by omega)
    show (innT l i (dbN (outT l i) 4) l.length).pt = _
    rw [innT_pt l i _ l.length (Nat.le_refl _), dbN_pt _ rfl, ih, List.take_of_length_le (Nat.le_refl _)]
    have := lead_next (63 - i) (tpts l) (tpts_on l)
    rw [show 63 - i + 1 = 64 - i by omega] at this
    rw [show 64 - (i + 1) = 63 - i by omega]
    exact this.symm
theorem sumT_pt (l : List (Nat × PT)) (hn : ∀ t ∈ l, t.1 < 16 ^ 64) : (sumT l).pt = psum (tpts l) := by
  have h := outT_pt l hn 64 (Nat.le_refl _)
  rw [Nat.sub_self] at h
  have e : lead 0 (tpts l) = tpts l := by
    unfold lead
    conv => rhs; rw [← List.map_id (tpts l)]
    refine List.map_congr_left fun t _ => ?_
    show (t.1 / 16 ^ 0, t.2) = t
    rw [Nat.pow_zero, Nat.div_one]
  rw [e] at h
  exact h
/-- what is owned reads -/
theorem Own.part {w : World} {base : Nat} {v : Value} {l : List UInt8} (h : Own w base 5 1 v l.length (bs l)) : BPart w v l := by
  obtain ⟨a, c, rfl, hc, hr, -⟩ := h.form
  exact ⟨a, _, c, rfl, hc, by rwa [Nat.mul_one] at hr⟩
/-- a list of bytes of the call's own -/
def OwnB1 (w w' : World) (v : Value) (l : List UInt8) : Prop := Own w' w.heap.size 5 1 v l.length (bs l)
theorem OwnB1.part {w w' : World} {v : Value} {l : List UInt8} (h : OwnB1 w w' v l) : BPart w' v l := Own.part h
theorem OwnB1.nil (w w' : World) : OwnB1 w w' (.slice none 0 0) [] := Own.nil _ _ _ _
theorem OwnB1.of {w w' : World} {v : Value} {l : List UInt8} {n : Nat} (h : Own w' w.heap.size 5 1 v n (bs l)) (hn : l.length = n) : OwnB1 w w' v l := by subst hn; exact h
theorem q16 : mQ.M < 16 ^ 64 := by decide
noncomputable def pS (la lb : List UInt8) : List UInt8 := if rdOk la && rdOk lb then wrPt (padd (rdPt la) (rdPt lb)) else []
def pC (la lb : List UInt8) : Int := if rdOk la && rdOk lb then 0 else 4
theorem GPlus_u (va vb : Value) (la lb : List UInt8) (w : World) (hpa : BPart w va la) (hpb : BPart w vb lb) :
    Calls Try.prog 14 #[va, vb] w fun e w' => ∃ v, e = .returned (.tuple #[v, .int .i64 (pC la lb)]) ∧ OwnB1 w w' v (pS la lb) ∧ Fr Nob w w' := by
  unfold pS pC
  cases h : (rdOk la && rdOk lb)
  · exact (GPlus_bad va vb la lb w hpa hpb (by simpa [rdsB] using h)).mono fun e w' k => ⟨_, k.1, OwnB1.nil _ _, k.2⟩
  · simp only [Bool.and_eq_true] at h
    refine (GPlus_ok va vb la lb w hpa hpb (by simp [rdsB, h.1, h.2])).mono fun e w' ⟨v, k1, k2, k3⟩ => ⟨v, k1, ?_, k3⟩
    rw [addT_pt, rdT_pt h.1, rdT_pt h.2] at k2
    exact OwnB1.of k2 (wrPt_len _)
noncomputable def mS (la : List UInt8) : List UInt8 := if rdOk la then wrPt (pneg (rdPt la)) else []
def mC (la : List UInt8) : Int := if rdOk la then 0 else 4
theorem GMinus_u (va : Value) (la : List UInt8) (w : World) (hpa : BPart w va la) :
    Calls Try.prog 15 #[va] w fun e w' => ∃ v, e = .returned (.tuple #[v, .int .i64 (mC la)]) ∧ OwnB1 w w' v (mS la) ∧ Fr Nob w w' := by
  unfold mS mC
  cases h : rdOk la
  · exact (GMinus_bad va la w hpa (by simpa [rdsB] using h)).mono fun e w' k => ⟨_, k.1, OwnB1.nil _ _, k.2⟩
  · refine (GMinus_ok va la w hpa (by simp [rdsB, h])).mono fun e w' ⟨v, k1, k2, k3⟩ => ⟨v, k1, ?_, k3⟩
    rw [negT_pt, rdT_pt h] at k2
    exact OwnB1.of k2 (wrPt_len _)
noncomputable def tS (lk la : List UInt8) : List UInt8 := if numB mQ lk && rdOk la then wrPt (pmul (beN lk) (rdPt la)) else []
def tC (lk la : List UInt8) : Int := if numB mQ lk then (if rdOk la then 0 else 4) else 3
theorem numB_lt2 {l : List UInt8} (h : numB mQ l = true) : beN l < mQ.M := by
  unfold numB at h
  simp only [Bool.and_eq_true, decide_eq_true_eq] at h
  exact h.2
theorem GTimes_u (vk va : Value) (lk la : List UInt8) (w : World) (hpk : BPart w vk lk) (hpa : BPart w va la) :
    Calls Try.prog 16 #[vk, va] w fun e w' => ∃ v, e = .returned (.tuple #[v, .int .i64 (tC lk la)]) ∧ OwnB1 w w' v (tS lk la) ∧ Fr Nob w w' := by
  unfold tS tC
  cases hk : numB mQ lk
  · exact (GTimes_badk vk va lk la w hpk hpa hk).mono fun e w' k => ⟨_, k.1, OwnB1.nil _ _, k.2⟩
  · cases h : rdOk la
    · exact (GTimes_badp vk va lk la w hpk hpa hk (by simpa [rdsB] using h)).mono fun e w' k => ⟨_, k.1, OwnB1.nil _ _, k.2⟩
    · refine (GTimes_ok vk va lk la w hpk hpa hk (by simp [rdsB, h])).mono fun e w' ⟨v, k1, k2, k3⟩ => ⟨v, k1, ?_, k3⟩
      have e1 : (sumT [(beN lk, rdT la)]).pt = pmul (beN lk) (rdPt la) := by
        rw [sumT_pt _ (by intro t ht; simp only [List.mem_singleton] at ht; subst ht; exact Nat.lt_trans (numB_lt2 hk) q16)]
        show padd (pmul (beN lk) (rdT la).pt) .O = _
        rw [padd_zero, rdT_pt h]
      rw [e1] at k2
      exact OwnB1.of k2 (wrPt_len _)
/-- the base -/
def gP : Pt := .A (kc gXn) (kc gYn)
theorem GBase_u (w : World) : Calls Try.prog 23 #[] w fun e w' => ∃ v, e = .returned v ∧ OwnB1 w w' v (wrPt gP) ∧ Fr Nob w w' :=
  (GBase_c w).mono fun e w' ⟨v, k1, k2, k3⟩ => ⟨v, k1, by rw [baseT_pt] at k2; exact OwnB1.of k2 (wrPt_len _), k3⟩
end Go.Proofs.Ytdbgddngapminaa

/- GroupLaw, plain: the law's numbers; contracts at points that are known to be points. -/
namespace Mvp
/-- the law's scalar: a text behind a zero -/
def scB (l : List UInt8) : List UInt8 := 0 :: (l.take 31 ++ List.replicate (31 - l.length) 0)
theorem scB_len (l : List UInt8) : (scB l).length = 32 := by simp [scB]; omega
theorem beN_cons (x : UInt8) (l : List UInt8) : beN (x :: l) = x.toNat * 256 ^ l.length + beN l := by
  have := beN_append [x] l
  simpa [beN] using this
theorem scB_lt (l : List UInt8) : beN (scB l) < 256 ^ 31 := by
  unfold scB
  rw [beN_cons]
  have h := beN_lt (l.take 31 ++ List.replicate (31 - l.length) 0)
  have e : (l.take 31 ++ List.replicate (31 - l.length) 0).length = 31 := by simp; omega
  rw [e] at h
  simpa using h
theorem beN_set (l : List UInt8) (i : Nat) (x : UInt8) (h : i < l.length) : beN (l.set i x) + (l.getD i 0).toNat * 256 ^ (l.length - 1 - i) = beN l + x.toNat * 256 ^ (l.length - 1 - i) := by
  have hd : (l.drop (i + 1)).length = l.length - 1 - i := by rw [List.length_drop]; omega
  have e1 : l.set i x = l.take i ++ x :: l.drop (i + 1) := List.set_eq_take_append_cons_drop.trans (if_pos h)
  have e2 : l = l.take i ++ (l.getD i 0) :: l.drop (i + 1) := by
    conv => lhs; rw [← List.take_append_drop i l, List.drop_eq_getElem_cons h]
    simp [List.getD_eq_getElem?_getD, h]
  have e3 : beN l = beN (l.take i) * 256 ^ (l.length - 1 - i + 1) + ((l.getD i 0).toNat * 256 ^ (l.length - 1 - i) + beN (l.drop (i + 1))) := by
    conv => lhs; rw [e2]
    rw [beN_append, beN_cons, List.length_cons, hd]
  rw [e1, beN_append, beN_cons, List.length_cons, hd, e3]
  generalize l.length - 1 - i = n
  generalize (l.getD i 0).toNat * 256 ^ n = u
  generalize x.toNat * 256 ^ n = v
  omega
/-- a carry goes on, or ends -/
theorem inc_end (l : List UInt8) (i N : Nat) (hl : l.length = 32) (h : i < 32) (hN : beN l + 256 ^ (31 - i) = N) (hb : (l.getD i 0 + 1) ≠ 0) : beN (l.set i (l.getD i 0 + 1)) = N := by
  have := beN_set l i (l.getD i 0 + 1) (by omega)
  rw [hl, show 32 - 1 - i = 31 - i by omega] at this
  generalize l.getD i 0 = x at *
  have hx : (x + 1).toNat = x.toNat + 1 := by
    have h2 := x.toNat_lt
    have h3 : (x + 1).toNat ≠ 0 := fun e => hb (UInt8.toNat_inj.1 e)
    rw [UInt8.toNat_add] at h3 ⊢
    have h4 : (1 : UInt8).toNat = 1 := rfl
    rw [h4] at h3 ⊢
    omega
  rw [hx, Nat.add_mul] at this
  omega
theorem inc_on (l : List UInt8) (i N : Nat) (hl : l.length = 32) (h : i < 32) (h0 : 0 < i) (hN : beN l + 256 ^ (31 - i) = N) (hb : (l.getD i 0 + 1) = 0) : beN (l.set i (l.getD i 0 + 1)) + 256 ^ (31 - (i - 1)) = N := by
  have := beN_set l i (l.getD i 0 + 1) (by omega)
  rw [hl, show 32 - 1 - i = 31 - i by omega] at this
  generalize l.getD i 0 = x at *
  have hx : x.toNat = 255 := by
    have h2 := x.toNat_lt
    have h3 : (x + 1).toNat = 0 := by rw [hb]; rfl
    rw [UInt8.toNat_add] at h3
    have h4 : (1 : UInt8).toNat = 1 := rfl
    rw [h4] at h3
    omega
  rw [hb] at this ⊢
  rw [hx, show (0 : UInt8).toNat = 0 from rfl, Nat.zero_mul] at this
  rw [show 31 - (i - 1) = 31 - i + 1 by omega, Nat.pow_succ]
  omega
end Mvp
namespace Go.Proofs.Ytdbgddngapminaa
open Go.RowKit Go.Mv Mvp Mvq
theorem q248 : 256 ^ 31 < mQ.M := by decide
theorem numB_sc (l : List UInt8) : numB mQ (scB l) = true := by
  unfold numB
  rw [scB_len, decide_eq_true rfl, decide_eq_true (Nat.lt_trans (scB_lt l) q248)]
  rfl
theorem numB_of {l : List UInt8} (h : l.length = 32) (hn : beN l ≤ 256 ^ 31) : numB mQ l = true := by
  unfold numB
  rw [h, decide_eq_true rfl, decide_eq_true (Nat.lt_of_le_of_lt hn q248)]
  rfl
/-- a slice of the call's own that reads as a point's bytes -/
def PtB (w : World) (a : Option Addr) (c : Nat) (p : Pt) : Prop := BPart w (.slice a 33 c) (wrPt p)
theorem PtB.still {w w' : World} {a : Option Addr} {c : Nat} {p : Pt} (h : PtB w a c p) (hf : Fr Nob w w') : PtB w' a c p := BPart.still h hf
theorem PtB.of {w w' : World} {v : Value} {p : Pt} (h : OwnB1 w w' v (wrPt p)) : ∃ a c, v = .slice a 33 c ∧ PtB w' a c p := by
  obtain ⟨a, n, c, rfl, hc, hr⟩ := h.part
  have : n = 33 := by have := hr.len; rw [wrPt_len] at this; exact this.symm
  subst this
  exact ⟨a, c, rfl, a, 33, c, rfl, hc, hr⟩
theorem PtB.rd {w : World} {a : Option Addr} {c : Nat} {p : Pt} (h : PtB w a c p) : RdB w a 33 (wrPt p) := by
  obtain ⟨a', n, c', he, hc, hr⟩ := h
  cases he
  exact hr
theorem Plus_p {p q r : Pt} (hp : onC p) (hq : onC q) (hr : padd p q = r) (a b : Option Addr) (c d : Nat) (w : World) (ha : PtB w a c p) (hb : PtB w b d q) :
    Calls Try.prog 14 #[.slice a 33 c, .slice b 33 d] w fun e w' => ∃ a' c', e = .returned (.tuple #[.slice a' 33 c', .int .i64 0]) ∧ PtB w' a' c' r ∧ Fr Nob w w' := by
  subst hr
  refine (GPlus_u _ _ _ _ w ha hb).mono ?_
  rintro e w' ⟨v, rfl, h2, h3⟩
  obtain ⟨o1, e1⟩ := rd_wr hp
  obtain ⟨o2, e2⟩ := rd_wr hq
  simp only [pS, pC, o1, o2, e1, e2, Bool.and_self, if_true] at h2 ⊢
  obtain ⟨a', c', rfl, h4⟩ := PtB.of h2
  exact ⟨a', c', rfl, h4, h3⟩
theorem Minus_p {p r : Pt} (hp : onC p) (hr : pneg p = r) (a : Option Addr) (c : Nat) (w : World) (ha : PtB w a c p) :
    Calls Try.prog 15 #[.slice a 33 c] w fun e w' => ∃ a' c', e = .returned (.tuple #[.slice a' 33 c', .int .i64 0]) ∧ PtB w' a' c' r ∧ Fr Nob w w' := by
  subst hr
  refine (GMinus_u _ _ w ha).mono ?_
  rintro e w' ⟨v, rfl, h2, h3⟩
  obtain ⟨o1, e1⟩ := rd_wr hp
  simp only [mS, mC, o1, e1, if_true] at h2 ⊢
  obtain ⟨a', c', rfl, h4⟩ := PtB.of h2
  exact ⟨a', c', rfl, h4, h3⟩
theorem Times_p {p r : Pt} {l : List UInt8} (hl : numB mQ l = true) (hp : onC p) (hr : pmul (beN l) p = r) (v : Value) (a : Option Addr) (c : Nat) (w : World) (hv : BPart w v l) (ha : PtB w a c p) :
    Calls Try.prog 16 #[v, .slice a 33 c] w fun e w' => ∃ a' c', e = .returned (.tuple #[.slice a' 33 c', .int .i64 0]) ∧ PtB w' a' c' r ∧ Fr Nob w w' := by
  subst hr
  refine (GTimes_u _ _ _ _ w hv ha).mono ?_
  rintro e w' ⟨v, rfl, h2, h3⟩
  obtain ⟨o1, e1⟩ := rd_wr hp
  simp only [tS, tC, hl, o1, e1, Bool.and_self, if_true] at h2 ⊢
  obtain ⟨a', c', rfl, h4⟩ := PtB.of h2
  exact ⟨a', c', rfl, h4, h3⟩
theorem Base_p (w : World) : Calls Try.prog 23 #[] w fun e w' => ∃ a c, e = .returned (.slice a 33 c) ∧ PtB w' a c gP ∧ Fr Nob w w' := by
  refine (GBase_u w).mono ?_
  rintro e w' ⟨v, rfl, h2, h3⟩
  obtain ⟨a', c', rfl, h4⟩ := PtB.of h2
  exact ⟨a', c', rfl, h4, h3⟩
theorem Point_p {p : Pt} (hp : onC p) (a : Option Addr) (c : Nat) (w : World) (ha : PtB w a c p) :
    Calls Try.prog 13 #[.slice a 33 c] w fun e w' => e = .returned (.bool true) ∧ Fr Nob w w' := by
  refine (GPoint_c _ _ w ha).mono ?_
  rintro e w' ⟨rfl, h3⟩
  exact ⟨by rw [(rd_wr hp).1], h3⟩
theorem gP_on : onC gP := by unfold gP; exact base_on
theorem wrO : wrPt .O = List.replicate 33 0 := rfl
theorem gP_b0 : (wrPt gP).getD 0 0 = 2 := by decide
theorem gP_b1 : (wrPt gP).getD 1 0 = 0x79 := by decide
end Go.Proofs.Ytdbgddngapminaa

/- The law GroupLaw. -/
namespace Go.Mv
open Go.RowKit
variable {P : Program} {ops : Array Oper} {a : Act} {w : World} {rest : List Oper} {Q : Exit → Act → World → Prop} {o : Oper}
/-- copy(d, s), s a string that may be longer -/
theorem wl_copy_strM {d s : Operand} {t u : TypeId} (hgd : o.guard = none) (ho : o.op = .call { callee := .builtin .copy, args := #[d, s], argTypes := #[t, u] }) {e : TypeId} (ht : P.underlying t = some (.slice e)) (hsz : (P.info? e).map (·.size) = some 1)
    {g off dn dc : Nat} (hd : a.eval d = .slice (some ⟨g, off, none⟩) dn dc) {q : ByteArray} (hs : a.eval s = .string q) {B : List Value} {T : TypeId} (hg : Has w g B T)
    (hfit : off + min q.size dn ≤ B.length)
    (h : ∀ w', Has w' g (splice B off (bs (q.data.toList.take (min q.size dn)))) T → Fr (One g) w w' → w'.heap.size = w.heap.size → wpList P ops Q rest (a.put o.dst (.int .i64 (min q.size dn : Nat))) w') : wpList P ops Q (o :: rest) a w := by
  refine wpList_plain hgd fun K hK => ?_
  obtain ⟨i, hi, hi1⟩ : ∃ i, P.info? e = some i ∧ i.size = 1 := by simpa using hsz
  have hlen : (bs (q.data.toList.take (min q.size dn))).length = min q.size dn := by rw [length_bs, List.length_take]; simp
  obtain ⟨w', hst, hh, hf, hz⟩ := run_storeCells_has (P := P) g off T (bs (q.data.toList.take (min q.size dn))) 0 B w hg (by rw [hlen]; omega) (bs_one _)
  simp only [Nat.add_zero] at hh
  have hr : (Builtin.copy_ #[t, u] o.type #[.slice (some ⟨g, off, none⟩) dn dc, .string q]).run P w = .ok (.int .i64 (min q.size dn : Nat)) w' := by
    simp [Builtin.copy_, run_underlying ht, sizeOf, typeInfo, hi, Builtin.lenOf, Builtin.firstCells, bs_arr, goInt]
    rw [show q.size.min dn = min q.size dn from rfl, bs_take, hst]
    rfl
  unfold Oper.wp execOp
  simp only [ho, resolve, invoke, builtin, Sem.run_bind, Sem.run_pure, Result.andThen_ok, List.map_toArray, List.map_cons, List.map_nil, hd, hs, hr]
  exact hK _ _ (h w' hh hf hz)
end Go.Mv
namespace Go.Proofs.Ytdbgddngapminaa
open Go.RowKit Go.Mv Mvp Mvq
theorem sc_cells (l : List UInt8) : splice (List.replicate 32 (Value.int .u8 0)) 1 (bs (l.take (min l.length 31))) = bs (scB l) := by
  have e : l.take (min l.length 31) = l.take 31 := by
    rcases Nat.le_total l.length 31 with h | h
    · rw [Nat.min_eq_left h, List.take_of_length_le (Nat.le_refl _), List.take_of_length_le h]
    · rw [Nat.min_eq_right h]
  rw [e]
  unfold splice scB
  rw [length_bs, List.length_take]
  have h1 : List.drop (1 + min 31 l.length) (List.replicate 32 (Value.int .u8 0)) = bs (List.replicate (31 - l.length) 0) := by
    rw [List.drop_replicate, show 32 - (1 + min 31 l.length) = 31 - l.length by omega]; simp [bs]
  rw [h1]
  simp [bs]
set_option maxHeartbeats 800000 in
set_option maxRecDepth 100000 in
theorem LScalar_c (s : ByteArray) (w : World) : Calls Try.prog 24 #[.string s] w fun e w' => ∃ g, e = .returned (.slice (some ⟨g, 0, none⟩) 32 32) ∧ w.heap.size ≤ g ∧ Has w' g (bs (scB s.data.toList)) 5 ∧ Fr Nob w w' := by
  go_enter Try.func24, Try.ntmps24
  go_wp2_with (first
    | (at_make; refine wl_make rfl rfl Try.underlying34 info_u8 rfl rfl rfl 32 32 (by simp) (by simp) (by omega) (by omega) (by unfold maxLen; omega) ?_; intro w1 hw1 hf1 hz1)
    | (with_reducible refine wl_stop (o := ⟨some 6, _, _, _, _, _⟩) ?_))
  clear hz1
  have hgs := Lib.hid (Nat.le_refl w.heap.size)
  generalize hg0 : w.heap.size = g at *
  rw [← hg0] at hgs
  have HG0 := Lib.hid hg0
  clear hg0
  refine wl_cut rfl rfl Try.underlying34 size_u8 rfl 1 32 ⟨_, rfl⟩ rfl (by decide) (by decide) ?_
  rw [show cutAt (some ⟨g, 0, none⟩) 1 32 = some ⟨g, 1, none⟩ from rfl]
  go_wp2_with (with_reducible refine wl_stop (o := ⟨some 8, _, _, _, _, _⟩) ?_)
  refine wl_copy_strM rfl rfl Try.underlying34 size_u8 rfl rfl hw1 (by simp; omega) ?_
  intro w2 hw2 hf2 hz2
  clear hz2 hw1
  have hsz : s.size = s.data.toList.length := by simp
  rw [hsz, sc_cells] at hw2
  have HW2 := Lib.hid hw2
  have HF2 := Lib.hid (hf1.new hf2 (by rw [HG0.out]; exact Nat.le_refl _))
  clear hw2 hf1 hf2 hsz
  go_wp2_with fail
  go_ret
  exact ⟨g, rfl, by rw [HG0.out]; exact Nat.le_refl _, HW2.out, HF2.out⟩

theorem u8_one (x : UInt8) : (((x.toNat : Int) + 1) % 256) = ((x + 1).toNat : Int) := by
  have h := x.toNat_lt
  rw [UInt8.toNat_add]
  show ((x.toNat : Int) + 1) % 256 = (((x.toNat + 1) % 256 : Nat) : Int)
  omega
set_option maxHeartbeats 16000000 in
set_option maxRecDepth 1000000 in
theorem law_GroupLaw_k (a b c : ByteArray) (w : World) (X Y Z U T R M Pp : Pt) (ox : onC X) (oy : onC Y) (oz : onC Z) (ex : pmul (beN (scB a.data.toList)) gP = X) (ey : pmul (beN (scB b.data.toList)) gP = Y) (ez : pmul (beN (scB c.data.toList)) gP = Z)
    (eu : padd X Y = U) (et : padd Y Z = T) (el : padd U Z = R) (er : padd X T = R) (em : pneg X = M) (ep : pmul (beN (scB a.data.toList) + 1) gP = Pp) (ep2 : padd X gP = Pp) :
    Calls Try.prog 4 #[.string a, .string b, .string c] w fun e w' => e = .returned (.bool true) ∧ Fr Nob w w' := by
  have Ox := Lib.hid ox
  have Oy := Lib.hid oy
  have Oz := Lib.hid oz
  have On := Lib.hid (show onC .O from trivial)
  have Ou := Lib.hid (show onC U by rw [← eu]; exact padd_on ox oy)
  have Od := Lib.hid (show onC T by rw [← et]; exact padd_on oy oz)
  have Om := Lib.hid (show onC M by rw [← em]; exact pneg_on ox)
  have Hx := Lib.hid ex
  have Hy := Lib.hid ey
  have Hz := Lib.hid ez
  have Hu := Lib.hid eu
  have Ht := Lib.hid et
  have Hl := Lib.hid el
  have Hr := Lib.hid er
  have Hm := Lib.hid em
  have Hp := Lib.hid ep
  have Hp2 := Lib.hid ep2
  have F := Lib.hid (Fr.refl Nob w)
  clear ox oy oz ex ey ez eu et el er em ep ep2
  go_enter Try.func4, Try.ntmps4
  go_wp2_with fail
  refine (Base_p _).mono ?_
  rintro e' w1 ⟨ag, cg, rfl, hg, hf⟩
  replace F := Lib.hid (F.out.then hf)
  have Bg := Lib.hid hg
  clear hf hg
  go_wp2_with fail
  refine (Point_p gP_on ag cg _ Bg.out).mono ?_
  rintro e' w2 ⟨rfl, hf⟩
  replace Bg := Lib.hid (Bg.out.still hf)
  replace F := Lib.hid (F.out.then hf)
  clear hf
  obtain ⟨bg, og, hbg, hcg⟩ := (PtB.rd Bg.out).at (by decide)
  subst hbg
  have hc0 := hcg 0 (by decide)
  have hc1 := hcg 1 (by decide)
  rw [gP_b0] at hc0
  rw [gP_b1] at hc1
  replace hc0 : w2.cell? ⟨bg, og, none⟩ = some (.int .u8 2) := hc0
  replace hc1 : w2.cell? ⟨bg, og + 1, none⟩ = some (.int .u8 121) := hc1
  clear hcg
  go_wp2_with (first | (at_make; refine wl_make rfl rfl Try.underlying34 info_u8 rfl rfl rfl 33 33 (by simp) (by simp) (by omega) (by omega) (by unfold maxLen; omega) ?_; intro wn hn hf hzn))
  clear hzn hc0 hc1
  have hbn : PtB wn (some ⟨w2.heap.size, 0, none⟩) 33 .O := by
    have h := Rd.whole hn
    rw [List.length_replicate] at h
    exact ⟨_, 33, _, rfl, Nat.le_refl _, by unfold RdB; rw [wrO]; simpa [bs] using h⟩
  generalize w2.heap.size = gn at *
  replace Bg := Lib.hid (Bg.out.still hf)
  replace F := Lib.hid (F.out.then hf)
  have Bn := Lib.hid hbn
  clear hn hf hbn
  go_wp2_with fail
  refine (LScalar_c a _).mono ?_
  rintro e' w3 ⟨ga, rfl, hle, hh, hf⟩
  replace Bg := Lib.hid (Bg.out.still hf)
  replace Bn := Lib.hid (Bn.out.still hf)
  replace F := Lib.hid (F.out.then hf)
  clear hle
  have hb : BPart w3 (.slice (some ⟨ga, 0, none⟩) 32 32) (scB a.data.toList) := ⟨_, 32, _, rfl, Nat.le_refl _, by have h := Rd.whole hh; rw [length_bs, scB_len] at h; exact h⟩
  clear hh
  have BS := Lib.hid hb
  clear hf hb
  go_wp2_with fail
  refine (Times_p (numB_sc _) gP_on Hx.out _ _ _ _ BS.out Bg.out).mono ?_
  rintro e' w4 ⟨ax, cx, rfl, hx, hf⟩
  replace Bg := Lib.hid (Bg.out.still hf)
  replace Bn := Lib.hid (Bn.out.still hf)
  replace F := Lib.hid (F.out.then hf)
  clear BS
  have Bx := Lib.hid hx
  clear hf hx
  go_wp2_with fail
  refine (LScalar_c b _).mono ?_
  rintro e' w5 ⟨gb, rfl, hle, hh, hf⟩
  replace Bg := Lib.hid (Bg.out.still hf)
  replace Bn := Lib.hid (Bn.out.still hf)
  replace Bx := Lib.hid (Bx.out.still hf)
  replace F := Lib.hid (F.out.then hf)
  clear hle
  have hb : BPart w5 (.slice (some ⟨gb, 0, none⟩) 32 32) (scB b.data.toList) := ⟨_, 32, _, rfl, Nat.le_refl _, by have h := Rd.whole hh; rw [length_bs, scB_len] at h; exact h⟩
  clear hh
  have BS := Lib.hid hb
  clear hf hb
  go_wp2_with fail
  refine (Times_p (numB_sc _) gP_on Hy.out _ _ _ _ BS.out Bg.out).mono ?_
  rintro e' w6 ⟨ay, cy, rfl, hy, hf⟩
  replace Bg := Lib.hid (Bg.out.still hf)
  replace Bn := Lib.hid (Bn.out.still hf)
  replace Bx := Lib.hid (Bx.out.still hf)
  replace F := Lib.hid (F.out.then hf)
  clear BS
  have By := Lib.hid hy
  clear hf hy
  go_wp2_with fail
  refine (LScalar_c c _).mono ?_
  rintro e' w7 ⟨gc, rfl, hle, hh, hf⟩
  replace Bg := Lib.hid (Bg.out.still hf)
  replace Bn := Lib.hid (Bn.out.still hf)
  replace Bx := Lib.hid (Bx.out.still hf)
  replace By := Lib.hid (By.out.still hf)
  replace F := Lib.hid (F.out.then hf)
  clear hle
  have hb : BPart w7 (.slice (some ⟨gc, 0, none⟩) 32 32) (scB c.data.toList) := ⟨_, 32, _, rfl, Nat.le_refl _, by have h := Rd.whole hh; rw [length_bs, scB_len] at h; exact h⟩
  clear hh
  have BS := Lib.hid hb
  clear hf hb
  go_wp2_with fail
  refine (Times_p (numB_sc _) gP_on Hz.out _ _ _ _ BS.out Bg.out).mono ?_
  rintro e' w8 ⟨az, cz, rfl, hz, hf⟩
  replace Bg := Lib.hid (Bg.out.still hf)
  replace Bn := Lib.hid (Bn.out.still hf)
  replace Bx := Lib.hid (Bx.out.still hf)
  replace By := Lib.hid (By.out.still hf)
  replace F := Lib.hid (F.out.then hf)
  clear BS
  have Bz := Lib.hid hz
  clear hf hz
  go_wp2_with fail
  refine (Plus_p Ox.out Oy.out Hu.out _ _ _ _ _ Bx.out By.out).mono ?_
  rintro e' w9 ⟨au, cu, rfl, hu, hf⟩
  replace Bg := Lib.hid (Bg.out.still hf)
  replace Bn := Lib.hid (Bn.out.still hf)
  replace Bx := Lib.hid (Bx.out.still hf)
  replace By := Lib.hid (By.out.still hf)
  replace Bz := Lib.hid (Bz.out.still hf)
  replace F := Lib.hid (F.out.then hf)
  have Bu := Lib.hid hu
  clear hf hu
  go_wp2_with fail
  refine (Plus_p Oy.out Ox.out ((padd_comm Y X).trans Hu.out) _ _ _ _ _ By.out Bx.out).mono ?_
  rintro e' w10 ⟨av, cv, rfl, hv, hf⟩
  replace Bg := Lib.hid (Bg.out.still hf)
  replace Bn := Lib.hid (Bn.out.still hf)
  replace Bx := Lib.hid (Bx.out.still hf)
  replace By := Lib.hid (By.out.still hf)
  replace Bz := Lib.hid (Bz.out.still hf)
  replace Bu := Lib.hid (Bu.out.still hf)
  replace F := Lib.hid (F.out.then hf)
  have Bv := Lib.hid hv
  clear hf hv
  go_wp2_with fail
  refine (Plus_p Oy.out Oz.out Ht.out _ _ _ _ _ By.out Bz.out).mono ?_
  rintro e' w11 ⟨ad, cd, rfl, hd, hf⟩
  replace Bg := Lib.hid (Bg.out.still hf)
  replace Bn := Lib.hid (Bn.out.still hf)
  replace Bx := Lib.hid (Bx.out.still hf)
  replace By := Lib.hid (By.out.still hf)
  replace Bz := Lib.hid (Bz.out.still hf)
  replace Bu := Lib.hid (Bu.out.still hf)
  replace Bv := Lib.hid (Bv.out.still hf)
  replace F := Lib.hid (F.out.then hf)
  have Bd := Lib.hid hd
  clear hf hd
  go_wp2_with fail
  refine (Plus_p Ou.out Oz.out Hl.out _ _ _ _ _ Bu.out Bz.out).mono ?_
  rintro e' w12 ⟨al, cl, rfl, hl, hf⟩
  replace Bg := Lib.hid (Bg.out.still hf)
  replace Bn := Lib.hid (Bn.out.still hf)
  replace Bx := Lib.hid (Bx.out.still hf)
  replace By := Lib.hid (By.out.still hf)
  replace Bz := Lib.hid (Bz.out.still hf)
  replace Bu := Lib.hid (Bu.out.still hf)
  replace Bv := Lib.hid (Bv.out.still hf)
  replace Bd := Lib.hid (Bd.out.still hf)
  replace F := Lib.hid (F.out.then hf)
  have Bl := Lib.hid hl
  clear hf hl
  go_wp2_with fail
  refine (Plus_p Ox.out Od.out Hr.out _ _ _ _ _ Bx.out Bd.out).mono ?_
  rintro e' w13 ⟨ar, cr, rfl, hr, hf⟩
  replace Bg := Lib.hid (Bg.out.still hf)
  replace Bn := Lib.hid (Bn.out.still hf)
  replace Bx := Lib.hid (Bx.out.still hf)
  replace By := Lib.hid (By.out.still hf)
  replace Bz := Lib.hid (Bz.out.still hf)
  replace Bu := Lib.hid (Bu.out.still hf)
  replace Bv := Lib.hid (Bv.out.still hf)
  replace Bd := Lib.hid (Bd.out.still hf)
  replace Bl := Lib.hid (Bl.out.still hf)
  replace F := Lib.hid (F.out.then hf)
  have Br := Lib.hid hr
  clear hf hr
  go_wp2_with fail
  refine (Plus_p Ox.out On.out (padd_zero X) _ _ _ _ _ Bx.out Bn.out).mono ?_
  rintro e' w14 ⟨ao, co, rfl, ho, hf⟩
  replace Bg := Lib.hid (Bg.out.still hf)
  replace Bn := Lib.hid (Bn.out.still hf)
  replace Bx := Lib.hid (Bx.out.still hf)
  replace By := Lib.hid (By.out.still hf)
  replace Bz := Lib.hid (Bz.out.still hf)
  replace Bu := Lib.hid (Bu.out.still hf)
  replace Bv := Lib.hid (Bv.out.still hf)
  replace Bd := Lib.hid (Bd.out.still hf)
  replace Bl := Lib.hid (Bl.out.still hf)
  replace Br := Lib.hid (Br.out.still hf)
  replace F := Lib.hid (F.out.then hf)
  have Bo := Lib.hid ho
  clear hf ho
  go_wp2_with fail
  refine (Minus_p Ox.out Hm.out _ _ _ Bx.out).mono ?_
  rintro e' w15 ⟨am, cm, rfl, hm, hf⟩
  replace Bg := Lib.hid (Bg.out.still hf)
  replace Bn := Lib.hid (Bn.out.still hf)
  replace Bx := Lib.hid (Bx.out.still hf)
  replace By := Lib.hid (By.out.still hf)
  replace Bz := Lib.hid (Bz.out.still hf)
  replace Bu := Lib.hid (Bu.out.still hf)
  replace Bv := Lib.hid (Bv.out.still hf)
  replace Bd := Lib.hid (Bd.out.still hf)
  replace Bl := Lib.hid (Bl.out.still hf)
  replace Br := Lib.hid (Br.out.still hf)
  replace Bo := Lib.hid (Bo.out.still hf)
  replace F := Lib.hid (F.out.then hf)
  have Bm := Lib.hid hm
  clear hf hm
  go_wp2_with fail
  refine (Plus_p Ox.out Om.out (show padd X M = .O from Hm.out ▸ padd_neg) _ _ _ _ _ Bx.out Bm.out).mono ?_
  rintro e' w16 ⟨ae, ce, rfl, he, hf⟩
  replace Bg := Lib.hid (Bg.out.still hf)
  replace Bn := Lib.hid (Bn.out.still hf)
  replace Bx := Lib.hid (Bx.out.still hf)
  replace By := Lib.hid (By.out.still hf)
  replace Bz := Lib.hid (Bz.out.still hf)
  replace Bu := Lib.hid (Bu.out.still hf)
  replace Bv := Lib.hid (Bv.out.still hf)
  replace Bd := Lib.hid (Bd.out.still hf)
  replace Bl := Lib.hid (Bl.out.still hf)
  replace Br := Lib.hid (Br.out.still hf)
  replace Bo := Lib.hid (Bo.out.still hf)
  replace Bm := Lib.hid (Bm.out.still hf)
  replace F := Lib.hid (F.out.then hf)
  have Be := Lib.hid he
  clear hf he
  have su := run_string (P := Try.prog) (PtB.rd Bu.out) cu Try.underlying34 Try.underlying5 Try.underlying9
  have sv := run_string (P := Try.prog) (PtB.rd Bv.out) cv Try.underlying34 Try.underlying5 Try.underlying9
  have sl := run_string (P := Try.prog) (PtB.rd Bl.out) cl Try.underlying34 Try.underlying5 Try.underlying9
  have sr := run_string (P := Try.prog) (PtB.rd Br.out) cr Try.underlying34 Try.underlying5 Try.underlying9
  have so := run_string (P := Try.prog) (PtB.rd Bo.out) co Try.underlying34 Try.underlying5 Try.underlying9
  have sx := run_string (P := Try.prog) (PtB.rd Bx.out) cx Try.underlying34 Try.underlying5 Try.underlying9
  have se := run_string (P := Try.prog) (PtB.rd Be.out) ce Try.underlying34 Try.underlying5 Try.underlying9
  have sn := run_string (P := Try.prog) (PtB.rd Bn.out) 33 Try.underlying34 Try.underlying5 Try.underlying9
  go_wp2_with fail
  refine (LScalar_c a _).mono ?_
  rintro e' wk ⟨gk, rfl, hle, hh, hf⟩
  clear su sv sl sr so sx se sn
  have HLE := Lib.hid hle
  have HF0 := Lib.hid hf
  have HH := Lib.hid hh
  clear hle hf hh
  go_wp2_with fail
  go_loopw [33] (fun v wr => ∃ (i : Nat) (k : List UInt8), i ≤ 31 ∧ v = .int .i64 (i : Int) ∧ k.length = 32 ∧ beN k + 256 ^ (31 - i) = beN (scB a.data.toList) + 1 ∧ Has wr gk (bs k) 5 ∧ Fr Nob w16 wr) (fun v _ => (intOf v).toNat)
  case atStart => exact ⟨31, _, Nat.le_refl _, rfl, scB_len _, rfl, HH.out, HF0.out⟩
  case round =>
    obtain ⟨i, k, hi, rfl, hl, hN, hh, hf⟩ := hrel
    have hI0 : (0 : Int) ≤ (i : Int) := by omega
    have hI1 : (i : Int) < 32 := by omega
    have hlt : beN k + 256 ^ (31 - i) ≤ 256 ^ 31 := by rw [hN]; exact scB_lt _
    obtain ⟨v0, hc, hfz⟩ := hh.ready (i := i) (by rw [length_bs, hl]; omega)
    have hcv := hh.cell (bs_get k i (by omega))
    rw [hcv] at hc
    clear hc
    generalize hx : k.getD i 0 = x at *
    have hw8 := u8_one x
    have hset := hh.set i (.int .u8 (((x.toNat : Int) + 1) % 256))
    rw [show (bs k).set i (.int .u8 (((x.toNat : Int) + 1) % 256)) = bs (k.set i (x + 1)) by rw [hw8, bs_set]] at hset
    have hcs := hset.cell (bs_get (k.set i (x + 1)) i (by rw [List.length_set]; omega))
    rw [show (k.set i (x + 1)).getD i 0 = x + 1 by simp [List.getD_eq_getElem?_getD, hl, show i < 32 by omega]] at hcs
    have HCS : (wr.setCell ⟨gk, i, none⟩ (.int .u8 (((x.toNat : Int) + 1) % 256))).cell? ⟨gk, i, none⟩ = some (.int .u8 (((x.toNat : Int) + 1) % 256)) := by have h := hcs; rw [← hw8] at h; exact h
    have hfs : Fr Nob w16 (wr.setCell ⟨gk, i, none⟩ (.int .u8 (((x.toNat : Int) + 1) % 256))) := hf.setCell gk i none _ (fun h => absurd h (Nat.not_lt.2 HLE.out))
    clear hcs hw8
    have HSET := Lib.hid hset
    have HFS := Lib.hid hfs
    have HX := Lib.hid hx
    have HNN := Lib.hid hN
    have HL := Lib.hid hl
    have HLT := Lib.hid hlt
    have HI := Lib.hid hi
    clear hset hfs hf hh hx hN hl hlt hi
    by_cases hz : x + 1 = 0
    · have HZ := Lib.hid hz
      have hi0 : 0 < i := by
        rcases Nat.eq_zero_or_pos i with h | h
        · exfalso
          subst h
          have h1 := HLT.out
          have h2 := beN_set k 0 0 (by rw [HL.out]; decide)
          rw [HX.out, HL.out] at h2
          have h3 : x.toNat = 255 := by
            have h4 := x.toNat_lt
            have h5 : (x + 1).toNat = 0 := by rw [hz]; rfl
            rw [UInt8.toNat_add] at h5
            simp at h5; omega
          rw [h3] at h2
          simp at h1 h2
          omega
        · exact h
      have HI0 := Lib.hid hi0
      have hne : ((((x.toNat : Int) + 1) % 256) != 0) = false := by rw [u8_one, hz]; rfl
      clear hz hi0
      go_wp2_with fail
      go_roundw
      case rel => exact ⟨i - 1, k.set i (x + 1), by have := HI.out; omega, by have := HI0.out; congr 1; omega, by rw [List.length_set]; exact HL.out, by have h := inc_on k i _ HL.out (by have := HI.out; omega) HI0.out HNN.out (by rw [HX.out]; exact HZ.out); rw [HX.out] at h; exact h, HSET.out, HFS.out⟩
      case measure => have := HI0.out; simp [intOf]; omega
    · have hne : ((((x.toNat : Int) + 1) % 256) != 0) = true := by
        rw [u8_one]
        simp only [bne_iff_ne, ne_eq]
        intro h
        refine hz (UInt8.toNat_inj.1 ?_)
        have h2 : (x + 1).toNat = 0 := by omega
        exact h2
      have hlen : (k.set i (x + 1)).length = 32 := by rw [List.length_set]; exact HL.out
      have hval : beN (k.set i (x + 1)) = beN (scB a.data.toList) + 1 := by
        have h := inc_end k i _ HL.out (by have := HI.out; omega) HNN.out (by rw [HX.out]; exact hz)
        rwa [HX.out] at h
      have HVAL := Lib.hid hval
      have HNB := Lib.hid (numB_of hlen (by rw [hval]; exact scB_lt _))
      have HLEN := Lib.hid hlen
      clear hz hval hlen
      replace Bg := Lib.hid (Bg.out.still HFS.out)
      replace Bn := Lib.hid (Bn.out.still HFS.out)
      replace Bx := Lib.hid (Bx.out.still HFS.out)
      replace By := Lib.hid (By.out.still HFS.out)
      replace Bz := Lib.hid (Bz.out.still HFS.out)
      replace Bu := Lib.hid (Bu.out.still HFS.out)
      replace Bv := Lib.hid (Bv.out.still HFS.out)
      replace Bd := Lib.hid (Bd.out.still HFS.out)
      replace Bl := Lib.hid (Bl.out.still HFS.out)
      replace Br := Lib.hid (Br.out.still HFS.out)
      replace Bo := Lib.hid (Bo.out.still HFS.out)
      replace Bm := Lib.hid (Bm.out.still HFS.out)
      replace Be := Lib.hid (Be.out.still HFS.out)
      replace F := Lib.hid (F.out.then HFS.out)
      have BK : Hid (BPart (wr.setCell ⟨gk, i, none⟩ (.int .u8 (((x.toNat : Int) + 1) % 256))) (.slice (some ⟨gk, 0, none⟩) 32 32) (k.set i (x + 1))) := Lib.hid ⟨_, 32, _, rfl, Nat.le_refl _, by have h := Rd.whole HSET.out; rw [length_bs, HLEN.out] at h; exact h⟩
      clear HSET HFS HX HNN HL HLT HI HLEN
      go_wp2_with fail
      refine (Times_p HNB.out gP_on (show pmul (beN (k.set i (x + 1))) gP = Pp from by rw [HVAL.out]; exact Hp.out) _ _ _ _ BK.out Bg.out).mono ?_
      rintro e' wA ⟨ap, cp, rfl, hp, hf⟩
      replace Bg := Lib.hid (Bg.out.still hf)
      replace Bx := Lib.hid (Bx.out.still hf)
      replace F := Lib.hid (F.out.then hf)
      have Bp := Lib.hid hp
      clear hp hf hcv HCS hne hfz
      go_wp2_with fail
      refine (Plus_p Ox.out gP_on Hp2.out _ _ _ _ _ Bx.out Bg.out).mono ?_
      rintro e' wB ⟨aq, cq, rfl, hq, hf⟩
      replace Bp := Lib.hid (Bp.out.still hf)
      replace F := Lib.hid (F.out.then hf)
      have sp := run_string (P := Try.prog) (PtB.rd Bp.out) cp Try.underlying34 Try.underlying5 Try.underlying9
      have sq := run_string (P := Try.prog) (PtB.rd hq) cq Try.underlying34 Try.underlying5 Try.underlying9
      have HF := Lib.hid F.out
      clear hq hf
      go_wp2_with fail
      go_ret
      exact ⟨rfl, HF.out⟩
theorem law_GroupLaw (a b c : ByteArray) (w : World) : Calls Try.prog 4 #[.string a, .string b, .string c] w fun e w' => e = .returned (.bool true) ∧ Fr Nob w w' :=
  have h1 := pmul_on gP_on (beN (scB a.data.toList))
  have h2 := pmul_on gP_on (beN (scB b.data.toList))
  have h3 := pmul_on gP_on (beN (scB c.data.toList))
  law_GroupLaw_k a b c w _ _ _ _ _ _ _ _ h1 h2 h3 rfl rfl rfl rfl rfl (padd_assoc h1 h2 h3) rfl rfl rfl rfl
end Go.Proofs.Ytdbgddngapminaa

/- From a walk that turns nothing (Fr Nob) to what a law's row asks behind the call. -/
namespace Go.Mv
open Go.RowKit Go.ChangeShapes Go.WideShapes

/-- the arguments read behind the call as they read before -/
theorem Below.trodAll {H : Type} {enc : TypeId × Value → H} {P : Program} (hl : laidOutB P = true) {W W' : World} (hb : Below W.heap.size W W') :
    ∀ (ts : List TypeId) (vs : List Value) (ds : List (DataW H)) (ps : List MemPlace), (∀ t ∈ ts, P.readableRec t = true ∧ t < P.types.size) → DataW.TrodAll enc P W 0 (fun _ => true) true ts vs ds ps → (∀ x ∈ ps, x.block < W.heap.size) →
      DataW.TrodAll enc P W' 0 (fun b => decide (b < W.heap.size)) true ts vs ds ps
  | [], vs, ds, ps, _, h, _ => by
    obtain ⟨rfl, rfl, rfl⟩ := trodAll_nil h
    exact trodAll_mk0
  | t :: ts, vs, ds, ps, hr, h, hlt => by
    obtain ⟨v, vs', d, ds', p, q, rfl, rfl, rfl, h0, hs⟩ := trodAll_cons h
    have h1 := hr t (by simp)
    exact trodAll_cons_mk (Below.trod hl h1.1 h1.2 h0 hb (fun x hx => hlt x (by simp [hx]))) (Below.trodAll hl hb ts vs' ds' q (fun t ht => hr t (by simp [ht])) hs (fun x hx => hlt x (by simp [hx])))

/-- what a law's row asks behind the call -/
theorem law_post {H : Type} {enc : TypeId × Value → H} {P : Program} {f : Func} {s : ChangeSpec} {W W' : World} {args : Array Value} {ds gs : List (DataW H)} {before : List MemPlace}
    (hl : laidOutB P = true) (hr : ∀ t ∈ f.params.toList, P.readableRec t = true ∧ t < P.types.size) (hW : DataW.Whole enc P f.params.toList s.vars false W args.toList ds gs before)
    (hv : s.vars = []) (hres : (s.fn H (ds ++ gs)).results = [.lit (.bool true)]) (harg : (s.fn H (ds ++ gs)).args = ds) (hvar : (s.fn H (ds ++ gs)).vars = [])
    {tb : TypeId} (hrt : f.resultTypes = #[tb]) (hu : P.underlying tb = some .bool) (hf : Fr Nob W W') :
    s.post enc P f false true false false W args (.bool true) W' := by
  have hW' := hW
  obtain ⟨p, q, hA, hV, rfl, hfz, hnd⟩ := hW
  rw [hv] at hV
  obtain ⟨rfl, rfl⟩ := trodVars_none hV
  have hlt : ∀ x ∈ p ++ [], x.block < W.heap.size := fun x hx => hW'.lt x hx
  refine ⟨ds, [], p ++ [], [], p, [], hW', ?_, ?_, ?_, World.keptBut_mono (fun x hx => ⟨hx, ?_⟩) (hf.below.frame (· ∈ p ++ [])), fun h => by cases h⟩
  · rw [hres, hrt]
    exact trodAll_mk1 (shut_bool hu true)
  · rw [harg]
    exact Below.trodAll hl hf.below _ _ _ _ hr hA (fun x hx => hlt x (by simp [hx]))
  · rw [hvar, hv]; exact rfl
  · simp only [List.append_nil] at hx
    exact .inr (.inl hx)
end Go.Mv

/- Arguments that were handed in, opened into the words of Mem. -/
namespace Go.Mv
open Go.RowKit Go.ChangeShapes Go.WideShapes

section
variable {H : Type} {enc : TypeId × Value → H} {P : Program} {w : World} {base : Nat} {held : Bool} {spare : Nat → Bool}
end
end Go.Mv
