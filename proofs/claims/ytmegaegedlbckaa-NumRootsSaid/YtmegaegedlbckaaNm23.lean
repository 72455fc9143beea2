/- num.Add, Sub, Mul, Inv: what they answer. -/
import Derived.Test.YtmegaegedlbckaaNm22
import Derived.Test.YtmegaegedlbckaaBox3
namespace Go.Proofs.Ytmegaegedlbckaa
open Go.RowKit Go.Mv Mvp
attribute [local irreducible] limbs lw mix cw cSub cAdd cMul foldC valFrom beN laid be32 powm montT mstep elN mdL elCells numsB numB
theorem info_bsl : (Try.prog.info? 29).map (fun i => (i.zero, i.size, i.bytes)) = some (some (.slice none 0 0), 1, 24) := by kernel_rfl

set_option maxHeartbeats 8000000 in
set_option maxRecDepth 1000000 in
theorem NAdd_ok (k : Int) (m : Md) (hk : KindOf k m) (va vb : Value) (la lb : List UInt8) (w : World) (hpa : BPart w va la) (hpb : BPart w vb lb) (hg : numsB m [la, lb] = true) :
    Calls Try.prog 25 #[.int .i64 k, va, vb] w fun e w' => ∃ v, e = .returned (.tuple #[v, .int .i64 0]) ∧ Own w' w.heap.size 5 1 v 32 (bs (be32 ((beN la + beN lb) % m.M))) ∧ Fr Nob w w' := by
  have HA1 := Lib.hid (BPart.one hpa)
  have HB1 := Lib.hid (BPart.one hpb)
  have HK := Lib.hid hk
  have HP := Lib.hid (BParts.two hpa hpb)
  have HG := Lib.hid hg
  clear hk hpa hpb hg
  go_enter Try.func25, Try.ntmps25
  go_wp2_with fail
  refine (two_any (.func (.func 47) #[] #[]) _).mono ?_
  rintro e w1 ⟨gc, rfl, hgc, hf1⟩
  have HGC := Lib.hid hgc
  have HF1 := Lib.hid hf1
  clear hgc hf1
  go_wp2_with (with_reducible refine wl_stop (o := ⟨some 12, _, _, _, _, _⟩) ?_)
  unfold Stop
  refine wl_slit (vs := [va, vb]) (hgd := rfl) (ho := rfl) (hu := Try.underlying47) (hi0 := info_bsl) (hp := by rfl) (hv := (fun v hv => by simp at hv; rcases hv with rfl | rfl; exact HA1.out; exact HB1.out)) (hk := by rfl) (hz := by rfl) (h := ?_)
  intro w2 hg2 hf2 hz2
  clear hz2
  generalize w1.heap.size = gl at *
  have HGC2 := Lib.hid (HGC.out.keep hf2 id)
  have HF2 := Lib.hid (HF1.out.then hf2)
  have HRD := Lib.hid (show Rd w2 (some ⟨gl, 0, none⟩) 2 [va, vb] from Rd.whole hg2)
  clear hg2 hf2 HGC
  go_wp2_with fail
  refine (reckon_two_ok k m HK.out gc _ 2 2 [va, vb] [la, lb] _ HRD.out (HP.out.still HF2.out) (by decide) HG.out (beN la + beN lb) (fun gp ae ce wx hfx hmx hrx => twoAdd_any m gp wx HK.out.ok hmx gc (HGC2.out.keep hfx id) ae ce la lb hrx)).mono ?_
  rintro e w3 ⟨v, rfl, hown, hf3⟩
  have h3 := HF2.out.then hf3
  have ho := hown.mono HF2.out.size
  clear hown hf3 HF2 HF1
  go_wp2_with fail
  go_ret2
  exact ⟨v, rfl, ho, h3⟩
set_option maxHeartbeats 8000000 in
set_option maxRecDepth 1000000 in
theorem NAdd_bad (k : Int) (m : Md) (hk : KindOf k m) (va vb : Value) (la lb : List UInt8) (w : World) (hpa : BPart w va la) (hpb : BPart w vb lb) (hg : numsB m [la, lb] = false) :
    Calls Try.prog 25 #[.int .i64 k, va, vb] w fun e w' => e = .returned (.tuple #[.slice none 0 0, .int .i64 3]) ∧ Fr Nob w w' := by
  have HA1 := Lib.hid (BPart.one hpa)
  have HB1 := Lib.hid (BPart.one hpb)
  have HK := Lib.hid hk
  have HP := Lib.hid (BParts.two hpa hpb)
  have HG := Lib.hid hg
  clear hk hpa hpb hg
  go_enter Try.func25, Try.ntmps25
  go_wp2_with fail
  refine (two_any (.func (.func 47) #[] #[]) _).mono ?_
  rintro e w1 ⟨gc, rfl, hgc, hf1⟩
  have HGC := Lib.hid hgc
  have HF1 := Lib.hid hf1
  clear hgc hf1
  go_wp2_with (with_reducible refine wl_stop (o := ⟨some 12, _, _, _, _, _⟩) ?_)
  unfold Stop
  refine wl_slit (vs := [va, vb]) (hgd := rfl) (ho := rfl) (hu := Try.underlying47) (hi0 := info_bsl) (hp := by rfl) (hv := (fun v hv => by simp at hv; rcases hv with rfl | rfl; exact HA1.out; exact HB1.out)) (hk := by rfl) (hz := by rfl) (h := ?_)
  intro w2 hg2 hf2 hz2
  clear hz2
  generalize w1.heap.size = gl at *
  have HGC2 := Lib.hid (HGC.out.keep hf2 id)
  have HF2 := Lib.hid (HF1.out.then hf2)
  have HRD := Lib.hid (show Rd w2 (some ⟨gl, 0, none⟩) 2 [va, vb] from Rd.whole hg2)
  clear hg2 hf2 HGC
  go_wp2_with fail
  refine (reckon_two_bad k m HK.out gc _ 2 2 [va, vb] [la, lb] _ HRD.out (HP.out.still HF2.out) (by decide) HG.out).mono ?_
  rintro e w3 ⟨rfl, hf3⟩
  have h3 := HF2.out.then hf3
  clear hf3 HF2 HF1
  go_wp2_with fail
  go_ret2
  exact ⟨rfl, h3⟩
set_option maxHeartbeats 8000000 in
set_option maxRecDepth 1000000 in
theorem NAdd_x (k : Int) (va vb : Value) (la lb : List UInt8) (w : World) (hpa : BPart w va la) (hpb : BPart w vb lb) (h0 : (k == 0) = false) (h1 : (k == 1) = false) :
    Calls Try.prog 25 #[.int .i64 k, va, vb] w fun e w' => e = .returned (.tuple #[.slice none 0 0, .int .i64 2]) ∧ Fr Nob w w' := by
  have HA1 := Lib.hid (BPart.one hpa)
  have HB1 := Lib.hid (BPart.one hpb)
  have H0 := Lib.hid h0
  have H1 := Lib.hid h1
  clear hpa hpb h0 h1
  go_enter Try.func25, Try.ntmps25
  go_wp2_with fail
  refine (two_any (.func (.func 47) #[] #[]) _).mono ?_
  rintro e w1 ⟨gc, rfl, hgc, hf1⟩
  have HGC := Lib.hid hgc
  have HF1 := Lib.hid hf1
  clear hgc hf1
  go_wp2_with (with_reducible refine wl_stop (o := ⟨some 12, _, _, _, _, _⟩) ?_)
  unfold Stop
  refine wl_slit (vs := [va, vb]) (hgd := rfl) (ho := rfl) (hu := Try.underlying47) (hi0 := info_bsl) (hp := by rfl) (hv := (fun v hv => by simp at hv; rcases hv with rfl | rfl; exact HA1.out; exact HB1.out)) (hk := by rfl) (hz := by rfl) (h := ?_)
  intro w2 hg2 hf2 hz2
  clear hz2
  generalize w1.heap.size = gl at *
  have HGC2 := Lib.hid (HGC.out.keep hf2 id)
  have HF2 := Lib.hid (HF1.out.then hf2)
  have HRD := Lib.hid (show Rd w2 (some ⟨gl, 0, none⟩) 2 [va, vb] from Rd.whole hg2)
  clear hg2 hf2 HGC
  go_wp2_with fail
  refine (reckon_two_x k gc _ _ H0.out H1.out).mono ?_
  rintro e w3 ⟨rfl, rfl⟩
  have h3 := HF2.out
  clear HF2 HF1
  go_wp2_with fail
  go_ret2
  exact ⟨rfl, h3⟩

set_option maxHeartbeats 8000000 in
set_option maxRecDepth 1000000 in
theorem NSub_ok (k : Int) (m : Md) (hk : KindOf k m) (va vb : Value) (la lb : List UInt8) (w : World) (hpa : BPart w va la) (hpb : BPart w vb lb) (hg : numsB m [la, lb] = true) :
    Calls Try.prog 26 #[.int .i64 k, va, vb] w fun e w' => ∃ v, e = .returned (.tuple #[v, .int .i64 0]) ∧ Own w' w.heap.size 5 1 v 32 (bs (be32 ((beN la + (m.M - beN lb % m.M)) % m.M))) ∧ Fr Nob w w' := by
  have HA1 := Lib.hid (BPart.one hpa)
  have HB1 := Lib.hid (BPart.one hpb)
  have HK := Lib.hid hk
  have HP := Lib.hid (BParts.two hpa hpb)
  have HG := Lib.hid hg
  clear hk hpa hpb hg
  go_enter Try.func26, Try.ntmps26
  go_wp2_with fail
  refine (two_any (.func (.func 51) #[] #[]) _).mono ?_
  rintro e w1 ⟨gc, rfl, hgc, hf1⟩
  have HGC := Lib.hid hgc
  have HF1 := Lib.hid hf1
  clear hgc hf1
  go_wp2_with (with_reducible refine wl_stop (o := ⟨some 12, _, _, _, _, _⟩) ?_)
  unfold Stop
  refine wl_slit (vs := [va, vb]) (hgd := rfl) (ho := rfl) (hu := Try.underlying47) (hi0 := info_bsl) (hp := by rfl) (hv := (fun v hv => by simp at hv; rcases hv with rfl | rfl; exact HA1.out; exact HB1.out)) (hk := by rfl) (hz := by rfl) (h := ?_)
  intro w2 hg2 hf2 hz2
  clear hz2
  generalize w1.heap.size = gl at *
  have HGC2 := Lib.hid (HGC.out.keep hf2 id)
  have HF2 := Lib.hid (HF1.out.then hf2)
  have HRD := Lib.hid (show Rd w2 (some ⟨gl, 0, none⟩) 2 [va, vb] from Rd.whole hg2)
  clear hg2 hf2 HGC
  go_wp2_with fail
  refine (reckon_two_ok k m HK.out gc _ 2 2 [va, vb] [la, lb] _ HRD.out (HP.out.still HF2.out) (by decide) HG.out (beN la + (m.M - beN lb % m.M)) (fun gp ae ce wx hfx hmx hrx => twoSub_any m gp wx HK.out.ok hmx gc (HGC2.out.keep hfx id) ae ce la lb hrx)).mono ?_
  rintro e w3 ⟨v, rfl, hown, hf3⟩
  have h3 := HF2.out.then hf3
  have ho := hown.mono HF2.out.size
  clear hown hf3 HF2 HF1
  go_wp2_with fail
  go_ret2
  exact ⟨v, rfl, ho, h3⟩
set_option maxHeartbeats 8000000 in
set_option maxRecDepth 1000000 in
theorem NSub_bad (k : Int) (m : Md) (hk : KindOf k m) (va vb : Value) (la lb : List UInt8) (w : World) (hpa : BPart w va la) (hpb : BPart w vb lb) (hg : numsB m [la, lb] = false) :
    Calls Try.prog 26 #[.int .i64 k, va, vb] w fun e w' => e = .returned (.tuple #[.slice none 0 0, .int .i64 3]) ∧ Fr Nob w w' := by
  have HA1 := Lib.hid (BPart.one hpa)
  have HB1 := Lib.hid (BPart.one hpb)
  have HK := Lib.hid hk
  have HP := Lib.hid (BParts.two hpa hpb)
  have HG := Lib.hid hg
  clear hk hpa hpb hg
  go_enter Try.func26, Try.ntmps26
  go_wp2_with fail
  refine (two_any (.func (.func 51) #[] #[]) _).mono ?_
  rintro e w1 ⟨gc, rfl, hgc, hf1⟩
  have HGC := Lib.hid hgc
  have HF1 := Lib.hid hf1
  clear hgc hf1
  go_wp2_with (with_reducible refine wl_stop (o := ⟨some 12, _, _, _, _, _⟩) ?_)
  unfold Stop
  refine wl_slit (vs := [va, vb]) (hgd := rfl) (ho := rfl) (hu := Try.underlying47) (hi0 := info_bsl) (hp := by rfl) (hv := (fun v hv => by simp at hv; rcases hv with rfl | rfl; exact HA1.out; exact HB1.out)) (hk := by rfl) (hz := by rfl) (h := ?_)
  intro w2 hg2 hf2 hz2
  clear hz2
  generalize w1.heap.size = gl at *
  have HGC2 := Lib.hid (HGC.out.keep hf2 id)
  have HF2 := Lib.hid (HF1.out.then hf2)
  have HRD := Lib.hid (show Rd w2 (some ⟨gl, 0, none⟩) 2 [va, vb] from Rd.whole hg2)
  clear hg2 hf2 HGC
  go_wp2_with fail
  refine (reckon_two_bad k m HK.out gc _ 2 2 [va, vb] [la, lb] _ HRD.out (HP.out.still HF2.out) (by decide) HG.out).mono ?_
  rintro e w3 ⟨rfl, hf3⟩
  have h3 := HF2.out.then hf3
  clear hf3 HF2 HF1
  go_wp2_with fail
  go_ret2
  exact ⟨rfl, h3⟩
set_option maxHeartbeats 8000000 in
set_option maxRecDepth 1000000 in
theorem NSub_x (k : Int) (va vb : Value) (la lb : List UInt8) (w : World) (hpa : BPart w va la) (hpb : BPart w vb lb) (h0 : (k == 0) = false) (h1 : (k == 1) = false) :
    Calls Try.prog 26 #[.int .i64 k, va, vb] w fun e w' => e = .returned (.tuple #[.slice none 0 0, .int .i64 2]) ∧ Fr Nob w w' := by
  have HA1 := Lib.hid (BPart.one hpa)
  have HB1 := Lib.hid (BPart.one hpb)
  have H0 := Lib.hid h0
  have H1 := Lib.hid h1
  clear hpa hpb h0 h1
  go_enter Try.func26, Try.ntmps26
  go_wp2_with fail
  refine (two_any (.func (.func 51) #[] #[]) _).mono ?_
  rintro e w1 ⟨gc, rfl, hgc, hf1⟩
  have HGC := Lib.hid hgc
  have HF1 := Lib.hid hf1
  clear hgc hf1
  go_wp2_with (with_reducible refine wl_stop (o := ⟨some 12, _, _, _, _, _⟩) ?_)
  unfold Stop
  refine wl_slit (vs := [va, vb]) (hgd := rfl) (ho := rfl) (hu := Try.underlying47) (hi0 := info_bsl) (hp := by rfl) (hv := (fun v hv => by simp at hv; rcases hv with rfl | rfl; exact HA1.out; exact HB1.out)) (hk := by rfl) (hz := by rfl) (h := ?_)
  intro w2 hg2 hf2 hz2
  clear hz2
  generalize w1.heap.size = gl at *
  have HGC2 := Lib.hid (HGC.out.keep hf2 id)
  have HF2 := Lib.hid (HF1.out.then hf2)
  have HRD := Lib.hid (show Rd w2 (some ⟨gl, 0, none⟩) 2 [va, vb] from Rd.whole hg2)
  clear hg2 hf2 HGC
  go_wp2_with fail
  refine (reckon_two_x k gc _ _ H0.out H1.out).mono ?_
  rintro e w3 ⟨rfl, rfl⟩
  have h3 := HF2.out
  clear HF2 HF1
  go_wp2_with fail
  go_ret2
  exact ⟨rfl, h3⟩

set_option maxHeartbeats 8000000 in
set_option maxRecDepth 1000000 in
theorem NMul_ok (k : Int) (m : Md) (hk : KindOf k m) (va vb : Value) (la lb : List UInt8) (w : World) (hpa : BPart w va la) (hpb : BPart w vb lb) (hg : numsB m [la, lb] = true) :
    Calls Try.prog 27 #[.int .i64 k, va, vb] w fun e w' => ∃ v, e = .returned (.tuple #[v, .int .i64 0]) ∧ Own w' w.heap.size 5 1 v 32 (bs (be32 ((beN la * beN lb) % m.M))) ∧ Fr Nob w w' := by
  have HA1 := Lib.hid (BPart.one hpa)
  have HB1 := Lib.hid (BPart.one hpb)
  have HK := Lib.hid hk
  have HP := Lib.hid (BParts.two hpa hpb)
  have HG := Lib.hid hg
  clear hk hpa hpb hg
  go_enter Try.func27, Try.ntmps27
  go_wp2_with fail
  refine (two_any (.func (.func 45) #[] #[]) _).mono ?_
  rintro e w1 ⟨gc, rfl, hgc, hf1⟩
  have HGC := Lib.hid hgc
  have HF1 := Lib.hid hf1
  clear hgc hf1
  go_wp2_with (with_reducible refine wl_stop (o := ⟨some 12, _, _, _, _, _⟩) ?_)
  unfold Stop
  refine wl_slit (vs := [va, vb]) (hgd := rfl) (ho := rfl) (hu := Try.underlying47) (hi0 := info_bsl) (hp := by rfl) (hv := (fun v hv => by simp at hv; rcases hv with rfl | rfl; exact HA1.out; exact HB1.out)) (hk := by rfl) (hz := by rfl) (h := ?_)
  intro w2 hg2 hf2 hz2
  clear hz2
  generalize w1.heap.size = gl at *
  have HGC2 := Lib.hid (HGC.out.keep hf2 id)
  have HF2 := Lib.hid (HF1.out.then hf2)
  have HRD := Lib.hid (show Rd w2 (some ⟨gl, 0, none⟩) 2 [va, vb] from Rd.whole hg2)
  clear hg2 hf2 HGC
  go_wp2_with fail
  refine (reckon_two_ok k m HK.out gc _ 2 2 [va, vb] [la, lb] _ HRD.out (HP.out.still HF2.out) (by decide) HG.out (beN la * beN lb) (fun gp ae ce wx hfx hmx hrx => twoMul_any m gp wx HK.out.ok hmx gc (HGC2.out.keep hfx id) ae ce la lb hrx)).mono ?_
  rintro e w3 ⟨v, rfl, hown, hf3⟩
  have h3 := HF2.out.then hf3
  have ho := hown.mono HF2.out.size
  clear hown hf3 HF2 HF1
  go_wp2_with fail
  go_ret2
  exact ⟨v, rfl, ho, h3⟩
set_option maxHeartbeats 8000000 in
set_option maxRecDepth 1000000 in
theorem NMul_bad (k : Int) (m : Md) (hk : KindOf k m) (va vb : Value) (la lb : List UInt8) (w : World) (hpa : BPart w va la) (hpb : BPart w vb lb) (hg : numsB m [la, lb] = false) :
    Calls Try.prog 27 #[.int .i64 k, va, vb] w fun e w' => e = .returned (.tuple #[.slice none 0 0, .int .i64 3]) ∧ Fr Nob w w' := by
  have HA1 := Lib.hid (BPart.one hpa)
  have HB1 := Lib.hid (BPart.one hpb)
  have HK := Lib.hid hk
  have HP := Lib.hid (BParts.two hpa hpb)
  have HG := Lib.hid hg
  clear hk hpa hpb hg
  go_enter Try.func27, Try.ntmps27
  go_wp2_with fail
  refine (two_any (.func (.func 45) #[] #[]) _).mono ?_
  rintro e w1 ⟨gc, rfl, hgc, hf1⟩
  have HGC := Lib.hid hgc
  have HF1 := Lib.hid hf1
  clear hgc hf1
  go_wp2_with (with_reducible refine wl_stop (o := ⟨some 12, _, _, _, _, _⟩) ?_)
  unfold Stop
  refine wl_slit (vs := [va, vb]) (hgd := rfl) (ho := rfl) (hu := Try.underlying47) (hi0 := info_bsl) (hp := by rfl) (hv := (fun v hv => by simp at hv; rcases hv with rfl | rfl; exact HA1.out; exact HB1.out)) (hk := by rfl) (hz := by rfl) (h := ?_)
  intro w2 hg2 hf2 hz2
  clear hz2
  generalize w1.heap.size = gl at *
  have HGC2 := Lib.hid (HGC.out.keep hf2 id)
  have HF2 := Lib.hid (HF1.out.then hf2)
  have HRD := Lib.hid (show Rd w2 (some ⟨gl, 0, none⟩) 2 [va, vb] from Rd.whole hg2)
  clear hg2 hf2 HGC
  go_wp2_with fail
  refine (reckon_two_bad k m HK.out gc _ 2 2 [va, vb] [la, lb] _ HRD.out (HP.out.still HF2.out) (by decide) HG.out).mono ?_
  rintro e w3 ⟨rfl, hf3⟩
  have h3 := HF2.out.then hf3
  clear hf3 HF2 HF1
  go_wp2_with fail
  go_ret2
  exact ⟨rfl, h3⟩
set_option maxHeartbeats 8000000 in
set_option maxRecDepth 1000000 in
theorem NMul_x (k : Int) (va vb : Value) (la lb : List UInt8) (w : World) (hpa : BPart w va la) (hpb : BPart w vb lb) (h0 : (k == 0) = false) (h1 : (k == 1) = false) :
    Calls Try.prog 27 #[.int .i64 k, va, vb] w fun e w' => e = .returned (.tuple #[.slice none 0 0, .int .i64 2]) ∧ Fr Nob w w' := by
  have HA1 := Lib.hid (BPart.one hpa)
  have HB1 := Lib.hid (BPart.one hpb)
  have H0 := Lib.hid h0
  have H1 := Lib.hid h1
  clear hpa hpb h0 h1
  go_enter Try.func27, Try.ntmps27
  go_wp2_with fail
  refine (two_any (.func (.func 45) #[] #[]) _).mono ?_
  rintro e w1 ⟨gc, rfl, hgc, hf1⟩
  have HGC := Lib.hid hgc
  have HF1 := Lib.hid hf1
  clear hgc hf1
  go_wp2_with (with_reducible refine wl_stop (o := ⟨some 12, _, _, _, _, _⟩) ?_)
  unfold Stop
  refine wl_slit (vs := [va, vb]) (hgd := rfl) (ho := rfl) (hu := Try.underlying47) (hi0 := info_bsl) (hp := by rfl) (hv := (fun v hv => by simp at hv; rcases hv with rfl | rfl; exact HA1.out; exact HB1.out)) (hk := by rfl) (hz := by rfl) (h := ?_)
  intro w2 hg2 hf2 hz2
  clear hz2
  generalize w1.heap.size = gl at *
  have HGC2 := Lib.hid (HGC.out.keep hf2 id)
  have HF2 := Lib.hid (HF1.out.then hf2)
  have HRD := Lib.hid (show Rd w2 (some ⟨gl, 0, none⟩) 2 [va, vb] from Rd.whole hg2)
  clear hg2 hf2 HGC
  go_wp2_with fail
  refine (reckon_two_x k gc _ _ H0.out H1.out).mono ?_
  rintro e w3 ⟨rfl, rfl⟩
  have h3 := HF2.out
  clear HF2 HF1
  go_wp2_with fail
  go_ret2
  exact ⟨rfl, h3⟩

set_option maxHeartbeats 8000000 in
set_option maxRecDepth 1000000 in
theorem NInv_ok (k : Int) (m : Md) (hk : KindOf k m) (va : Value) (la : List UInt8) (w : World) (hpa : BPart w va la) (hg : numsB m [la] = true) :
    Calls Try.prog 28 #[.int .i64 k, va] w fun e w' => ∃ v, e = .returned (.tuple #[v, .int .i64 0]) ∧ Own w' w.heap.size 5 1 v 32 (bs (be32 (beN la ^ (m.M - 2) % m.M))) ∧ Fr Nob w w' := by
  have HA1 := Lib.hid (BPart.one hpa)
  have HK := Lib.hid hk
  have HP := Lib.hid (BParts.one hpa)
  have HG := Lib.hid hg
  clear hk hpa hg
  go_enter Try.func28, Try.ntmps28
  go_wp2_with (with_reducible refine wl_stop (o := ⟨some 8, _, _, _, _, _⟩) ?_)
  unfold Stop
  refine wl_slit (vs := [va]) (hgd := rfl) (ho := rfl) (hu := Try.underlying47) (hi0 := info_bsl) (hp := by rfl) (hv := fun v hv => by simp at hv; subst hv; exact HA1.out) (hk := by rfl) (hz := by rfl) (h := ?_)
  intro w2 hg2 hf2 hz2
  clear hz2
  have hbz : w.heap.size ≤ w.heap.size := Nat.le_refl _
  generalize hgl : w.heap.size = gl at *
  have HGL := Lib.hid hgl
  have HF2 := Lib.hid hf2
  have HRD := Lib.hid (show Rd w2 (some ⟨gl, 0, none⟩) 1 [va] from Rd.whole hg2)
  clear hg2 hf2 hgl hbz
  go_wp2_with fail
  refine (reckon_inv_ok k m HK.out _ 1 1 [va] [la] _ HRD.out (HP.out.still HF2.out) (by decide) HG.out (beN la ^ (m.M - 2)) (fun gp ae ce wx hfx hmx hrx => inv1_any m gp wx HK.out.ok hmx ae ce la hrx)).mono ?_
  rintro e w3 ⟨v, rfl, hown, hf3⟩
  have h3 := HF2.out.then hf3
  have hsz := HF2.out.size
  rw [HGL.out] at hsz
  have ho := hown.mono hsz
  clear hown hf3 HF2 hsz
  go_wp2_with fail
  go_ret2
  exact ⟨v, rfl, by rw [HGL.out]; exact ho, h3⟩
set_option maxHeartbeats 8000000 in
set_option maxRecDepth 1000000 in
theorem NInv_bad (k : Int) (m : Md) (hk : KindOf k m) (va : Value) (la : List UInt8) (w : World) (hpa : BPart w va la) (hg : numsB m [la] = false) :
    Calls Try.prog 28 #[.int .i64 k, va] w fun e w' => e = .returned (.tuple #[.slice none 0 0, .int .i64 3]) ∧ Fr Nob w w' := by
  have HA1 := Lib.hid (BPart.one hpa)
  have HK := Lib.hid hk
  have HP := Lib.hid (BParts.one hpa)
  have HG := Lib.hid hg
  clear hk hpa hg
  go_enter Try.func28, Try.ntmps28
  go_wp2_with (with_reducible refine wl_stop (o := ⟨some 8, _, _, _, _, _⟩) ?_)
  unfold Stop
  refine wl_slit (vs := [va]) (hgd := rfl) (ho := rfl) (hu := Try.underlying47) (hi0 := info_bsl) (hp := by rfl) (hv := fun v hv => by simp at hv; subst hv; exact HA1.out) (hk := by rfl) (hz := by rfl) (h := ?_)
  intro w2 hg2 hf2 hz2
  clear hz2
  have hbz : w.heap.size ≤ w.heap.size := Nat.le_refl _
  generalize hgl : w.heap.size = gl at *
  have HGL := Lib.hid hgl
  have HF2 := Lib.hid hf2
  have HRD := Lib.hid (show Rd w2 (some ⟨gl, 0, none⟩) 1 [va] from Rd.whole hg2)
  clear hg2 hf2 hgl hbz
  go_wp2_with fail
  refine (reckon_inv_bad k m HK.out _ 1 1 [va] [la] _ HRD.out (HP.out.still HF2.out) (by decide) HG.out).mono ?_
  rintro e w3 ⟨rfl, hf3⟩
  have h3 := HF2.out.then hf3
  clear hf3 HF2
  go_wp2_with fail
  go_ret2
  exact ⟨rfl, h3⟩
set_option maxHeartbeats 8000000 in
set_option maxRecDepth 1000000 in
theorem NInv_x (k : Int) (va : Value) (la : List UInt8) (w : World) (hpa : BPart w va la) (h0 : (k == 0) = false) (h1 : (k == 1) = false) :
    Calls Try.prog 28 #[.int .i64 k, va] w fun e w' => e = .returned (.tuple #[.slice none 0 0, .int .i64 2]) ∧ Fr Nob w w' := by
  have HA1 := Lib.hid (BPart.one hpa)
  have H0 := Lib.hid h0
  have H1 := Lib.hid h1
  clear hpa h0 h1
  go_enter Try.func28, Try.ntmps28
  go_wp2_with (with_reducible refine wl_stop (o := ⟨some 8, _, _, _, _, _⟩) ?_)
  unfold Stop
  refine wl_slit (vs := [va]) (hgd := rfl) (ho := rfl) (hu := Try.underlying47) (hi0 := info_bsl) (hp := by rfl) (hv := fun v hv => by simp at hv; subst hv; exact HA1.out) (hk := by rfl) (hz := by rfl) (h := ?_)
  intro w2 hg2 hf2 hz2
  clear hz2
  have hbz : w.heap.size ≤ w.heap.size := Nat.le_refl _
  generalize hgl : w.heap.size = gl at *
  have HGL := Lib.hid hgl
  have HF2 := Lib.hid hf2
  have HRD := Lib.hid (show Rd w2 (some ⟨gl, 0, none⟩) 1 [va] from Rd.whole hg2)
  clear hg2 hf2 hgl hbz
  go_wp2_with fail
  refine (reckon_inv_x k _ _ H0.out H1.out).mono ?_
  rintro e w3 ⟨rfl, rfl⟩
  have h3 := HF2.out
  clear HF2
  go_wp2_with fail
  go_ret2
  exact ⟨rfl, h3⟩
end Go.Proofs.Ytmegaegedlbckaa
