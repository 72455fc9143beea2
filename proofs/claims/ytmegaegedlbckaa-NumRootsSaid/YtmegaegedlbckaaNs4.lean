/- num.Sqrt: what it answers. -/
import Derived.Test.YtmegaegedlbckaaNs3
import Derived.Test.YtmegaegedlbckaaNm23
namespace Go.Proofs.Ytmegaegedlbckaa
open Go.RowKit Go.Mv Mvp
theorem MSqrt_ok (m : Md) (gp : Nat) (w : World) (hok : m.Ok) (hpm : Has w gp (mdL m) 68) (x : Nat) (hr : rtOk m.M x = true) :
    Calls Try.prog 60 #[.pointer (some ⟨gp, 0, none⟩), i4 (elN m x)] w fun e w' => e = .returned (.tuple #[i4 (elN m (rtV m.M x)), .bool true]) ∧ Fr Nob w w' := by
  unfold rtOk at hr
  unfold rtV
  unfold rtN at *
  generalize hn : m.M / 4 + 1 = n at *
  by_cases hb : x ^ n % m.M % 2 = 1
  · rw [if_pos hb]; exact MSqrt_odd m gp w hok hpm x n hn hr hb
  · rw [if_neg hb]; exact MSqrt_even m gp w hok hpm x n hn hr (by omega)
theorem MSqrt_no (m : Md) (gp : Nat) (w : World) (hok : m.Ok) (hpm : Has w gp (mdL m) 68) (x : Nat) (hr : rtOk m.M x = false) :
    Calls Try.prog 60 #[.pointer (some ⟨gp, 0, none⟩), i4 (elN m x)] w fun e w' => e = .returned (.tuple #[i4 0, .bool false]) ∧ Fr Nob w w' := by
  unfold rtOk at hr
  unfold rtN at *
  exact MSqrt_none m gp w hok hpm x _ rfl hr
attribute [local irreducible] limbs lw mix cw cSub cAdd cMul foldC valFrom beN laid be32 powm montT mstep elN mdL elCells numsB numB rtN rtOk rtV

set_option maxHeartbeats 8000000 in
set_option maxRecDepth 1000000 in
theorem sqrt1_ok (m : Md) (gp : Nat) (w : World) (hok : m.Ok) (hpm : Has w gp (mdL m) 68) (ae : Option Addr) (ce : Nat) (la : List UInt8) (hre : Rd w ae (1 * 4) (elCells m [la])) (hr : rtOk m.M (beN la) = true) :
    Calls Try.prog 59 #[.pointer (some ⟨gp, 0, none⟩), .slice ae 1 ce] w fun e w' => e = .returned (.tuple #[i4 (elN m (rtV m.M (beN la))), .bool true]) ∧ Fr Nob w w' := by
  obtain ⟨b, o, rfl, -⟩ := hre.at (by omega)
  have HOK := Lib.hid hok
  have HPM := Lib.hid hpm
  have HRE := Lib.hid hre
  have HR := Lib.hid hr
  clear hok hpm hre hr
  have st0 := St.start Nob w
  go_enter Try.func59, Try.ntmps59
  go_wp2_with (with_reducible refine wl_stop (o := ⟨some 4, _, _, _, _, _⟩) ?_)
  refine wl_allocS st0 rfl rfl (z := .agg #[.int .u64 0, .int .u64 0, .int .u64 0, .int .u64 0]) (by kernel_rfl) (cw 4 0) (by rw [cw_zero]; rfl) ?_
  intro g4 w1 st1
  clear st0
  go_wp2_with (with_reducible refine wl_stop (o := ⟨some 9, _, _, _, _, _⟩) ?_)
  refine wl_loadR rfl rfl Try.underlying81 rfl rfl (rd_at (HRE.out.still st1.fr) 0 (cw 4 (elN m (beN la))) (el_first m la [])) (by first | (rw [cw_len]; kernel_rfl) | (simp only [List.length_append, cw_len]; kernel_rfl)) ?_
  go_wp2_with fail
  refine (MSqrt_ok m gp _ HOK.out (HPM.out.keep st1.fr id) (beN la) HR.out).mono ?_
  rintro e' w2 ⟨rfl, hf2⟩
  have st2 := st1.keep hf2
  clear st1 hf2
  go_wp2_with (with_reducible refine wl_stop (o := ⟨none, _, _, _, _, _⟩) ?_)
  refine wl_storeS st2 0 rfl rfl rfl rfl rfl (by first | (simp only [cw_len]; done) | (simp only [List.length_append, cw_len]; done)) (by first | (rw [cw_len]; kernel_rfl) | (simp only [List.length_append, cw_len]; kernel_rfl)) (cw_one _ _) ?_
  intro w3 st3
  clear st2
  have hr := st3.at 0 rfl
  have hfr := st3.fr
  clear st3
  go_wp2_with fail
  exact bodyPost_ret (results_arr2 rfl rfl hr Try.underlying81 (by first | (rw [cw_len]; kernel_rfl) | (simp only [List.length_append, cw_len]; kernel_rfl)) rfl) rfl ⟨rfl, hfr⟩

set_option maxHeartbeats 8000000 in
set_option maxRecDepth 1000000 in
theorem sqrt1_no (m : Md) (gp : Nat) (w : World) (hok : m.Ok) (hpm : Has w gp (mdL m) 68) (ae : Option Addr) (ce : Nat) (la : List UInt8) (hre : Rd w ae (1 * 4) (elCells m [la])) (hr : rtOk m.M (beN la) = false) :
    Calls Try.prog 59 #[.pointer (some ⟨gp, 0, none⟩), .slice ae 1 ce] w fun e w' => e = .returned (.tuple #[i4 (0), .bool false]) ∧ Fr Nob w w' := by
  obtain ⟨b, o, rfl, -⟩ := hre.at (by omega)
  have HOK := Lib.hid hok
  have HPM := Lib.hid hpm
  have HRE := Lib.hid hre
  have HR := Lib.hid hr
  clear hok hpm hre hr
  have st0 := St.start Nob w
  go_enter Try.func59, Try.ntmps59
  go_wp2_with (with_reducible refine wl_stop (o := ⟨some 4, _, _, _, _, _⟩) ?_)
  refine wl_allocS st0 rfl rfl (z := .agg #[.int .u64 0, .int .u64 0, .int .u64 0, .int .u64 0]) (by kernel_rfl) (cw 4 0) (by rw [cw_zero]; rfl) ?_
  intro g4 w1 st1
  clear st0
  go_wp2_with (with_reducible refine wl_stop (o := ⟨some 9, _, _, _, _, _⟩) ?_)
  refine wl_loadR rfl rfl Try.underlying81 rfl rfl (rd_at (HRE.out.still st1.fr) 0 (cw 4 (elN m (beN la))) (el_first m la [])) (by first | (rw [cw_len]; kernel_rfl) | (simp only [List.length_append, cw_len]; kernel_rfl)) ?_
  go_wp2_with fail
  refine (MSqrt_no m gp _ HOK.out (HPM.out.keep st1.fr id) (beN la) HR.out).mono ?_
  rintro e' w2 ⟨rfl, hf2⟩
  have st2 := st1.keep hf2
  clear st1 hf2
  go_wp2_with (with_reducible refine wl_stop (o := ⟨none, _, _, _, _, _⟩) ?_)
  refine wl_storeS st2 0 rfl rfl rfl rfl rfl (by first | (simp only [cw_len]; done) | (simp only [List.length_append, cw_len]; done)) (by first | (rw [cw_len]; kernel_rfl) | (simp only [List.length_append, cw_len]; kernel_rfl)) (cw_one _ _) ?_
  intro w3 st3
  clear st2
  have hr := st3.at 0 rfl
  have hfr := st3.fr
  clear st3
  go_wp2_with fail
  exact bodyPost_ret (results_arr2 rfl rfl hr Try.underlying81 (by first | (rw [cw_len]; kernel_rfl) | (simp only [List.length_append, cw_len]; kernel_rfl)) rfl) rfl ⟨rfl, hfr⟩

set_option maxHeartbeats 8000000 in
set_option maxRecDepth 1000000 in
theorem NSqrt_ok (m : Md) (hk : KindOf 0 m) (va : Value) (la : List UInt8) (w : World) (hpa : BPart w va la) (hg : numsB m [la] = true) (hr : rtOk m.M (beN la) = true) :
    Calls Try.prog 34 #[.int .i64 0, va] w fun e w' => ∃ v, e = .returned (.tuple #[v, .int .i64 0]) ∧ Own w' w.heap.size 5 1 v 32 (bs (be32 (rtV m.M (beN la) % m.M))) ∧ Fr Nob w w' := by
  have HA1 := Lib.hid (BPart.one hpa)
  have HK := Lib.hid hk
  have HP := Lib.hid (BParts.one hpa)
  have HG := Lib.hid hg
  have HR := Lib.hid hr
  clear hk hpa hg hr
  go_enter Try.func34, Try.ntmps34
  go_wp2_with (with_reducible refine wl_stop (o := ⟨some 10, _, _, _, _, _⟩) ?_)
  unfold Stop
  refine wl_slit (vs := [va]) (hgd := rfl) (ho := rfl) (hu := Try.underlying47) (hi0 := info_bsl) (hp := by rfl) (hv := fun v hv => by simp at hv; subst hv; exact HA1.out) (hk := by rfl) (hz := by rfl) (h := ?_)
  intro w2 hg2 hf2 hz2
  clear hz2
  have hbz : w.heap.size ≤ w.heap.size := Nat.le_refl _
  generalize hgl : w.heap.size = gl at *
  have HGL := Lib.hid hgl
  have HF2 := Lib.hid hf2
  have HRD := Lib.hid (show Rd w2 (some ⟨gl, 0, none⟩) 1 [va] from Rd.whole hg2)
  clear hg2 hf2 hgl hbz
  go_wp2_with fail
  refine (reckon_sqrt_ok 0 m HK.out _ 1 1 [va] [la] _ HRD.out (HP.out.still HF2.out) (by decide) HG.out (rtV m.M (beN la)) (fun gp ae ce wx hfx hmx hrx => sqrt1_ok m gp wx HK.out.ok hmx ae ce la hrx HR.out)).mono ?_
  rintro e w3 ⟨v, rfl, hown, hf3⟩
  have h3 := HF2.out.then hf3
  have hsz := HF2.out.size
  rw [HGL.out] at hsz
  have ho := hown.mono hsz
  clear hown hf3 HF2 hsz
  go_wp2_with fail
  go_ret2
  exact ⟨v, rfl, by rw [HGL.out]; exact ho, h3⟩
set_option maxHeartbeats 8000000 in
set_option maxRecDepth 1000000 in
theorem NSqrt_none (m : Md) (hk : KindOf 0 m) (va : Value) (la : List UInt8) (w : World) (hpa : BPart w va la) (hg : numsB m [la] = true) (hr : rtOk m.M (beN la) = false) :
    Calls Try.prog 34 #[.int .i64 0, va] w fun e w' => e = .returned (.tuple #[.slice none 0 0, .int .i64 6]) ∧ Fr Nob w w' := by
  have HA1 := Lib.hid (BPart.one hpa)
  have HK := Lib.hid hk
  have HP := Lib.hid (BParts.one hpa)
  have HG := Lib.hid hg
  have HR := Lib.hid hr
  clear hk hpa hg hr
  go_enter Try.func34, Try.ntmps34
  go_wp2_with (with_reducible refine wl_stop (o := ⟨some 10, _, _, _, _, _⟩) ?_)
  unfold Stop
  refine wl_slit (vs := [va]) (hgd := rfl) (ho := rfl) (hu := Try.underlying47) (hi0 := info_bsl) (hp := by rfl) (hv := fun v hv => by simp at hv; subst hv; exact HA1.out) (hk := by rfl) (hz := by rfl) (h := ?_)
  intro w2 hg2 hf2 hz2
  clear hz2
  have hbz : w.heap.size ≤ w.heap.size := Nat.le_refl _
  generalize hgl : w.heap.size = gl at *
  have HGL := Lib.hid hgl
  have HF2 := Lib.hid hf2
  have HRD := Lib.hid (show Rd w2 (some ⟨gl, 0, none⟩) 1 [va] from Rd.whole hg2)
  clear hg2 hf2 hgl hbz
  go_wp2_with fail
  refine (reckon_sqrt_none 0 m HK.out _ 1 1 [va] [la] _ HRD.out (HP.out.still HF2.out) (by decide) HG.out (fun gp ae ce wx hfx hmx hrx => sqrt1_no m gp wx HK.out.ok hmx ae ce la hrx HR.out)).mono ?_
  rintro e w3 ⟨rfl, hf3⟩
  have h3 := HF2.out.then hf3
  clear hf3 HF2
  go_wp2_with fail
  go_ret2
  exact ⟨rfl, h3⟩
set_option maxHeartbeats 8000000 in
set_option maxRecDepth 1000000 in
theorem NSqrt_bad (m : Md) (hk : KindOf 0 m) (va : Value) (la : List UInt8) (w : World) (hpa : BPart w va la) (hg : numsB m [la] = false) :
    Calls Try.prog 34 #[.int .i64 0, va] w fun e w' => e = .returned (.tuple #[.slice none 0 0, .int .i64 3]) ∧ Fr Nob w w' := by
  have HA1 := Lib.hid (BPart.one hpa)
  have HK := Lib.hid hk
  have HP := Lib.hid (BParts.one hpa)
  have HG := Lib.hid hg
  clear hk hpa hg
  go_enter Try.func34, Try.ntmps34
  go_wp2_with (with_reducible refine wl_stop (o := ⟨some 10, _, _, _, _, _⟩) ?_)
  unfold Stop
  refine wl_slit (vs := [va]) (hgd := rfl) (ho := rfl) (hu := Try.underlying47) (hi0 := info_bsl) (hp := by rfl) (hv := fun v hv => by simp at hv; subst hv; exact HA1.out) (hk := by rfl) (hz := by rfl) (h := ?_)
  intro w2 hg2 hf2 hz2
  clear hz2
  have hbz : w.heap.size ≤ w.heap.size := Nat.le_refl _
  generalize hgl : w.heap.size = gl at *
  have HGL := Lib.hid hgl
  have HF2 := Lib.hid hf2
  have HRD := Lib.hid (show Rd w2 (some ⟨gl, 0, none⟩) 1 [va] from Rd.whole hg2)
  clear hg2 hf2 hgl hbz
  go_wp2_with fail
  refine (reckon_sqrt_bad 0 m HK.out _ 1 1 [va] [la] _ HRD.out (HP.out.still HF2.out) (by decide) HG.out).mono ?_
  rintro e w3 ⟨rfl, hf3⟩
  have h3 := HF2.out.then hf3
  clear hf3 HF2
  go_wp2_with fail
  go_ret2
  exact ⟨rfl, h3⟩
set_option maxHeartbeats 8000000 in
set_option maxRecDepth 1000000 in
theorem NSqrt_x (k : Int) (va : Value) (w : World) (h0 : (k == 0) = false) :
    Calls Try.prog 34 #[.int .i64 k, va] w fun e w' => e = .returned (.tuple #[.slice none 0 0, .int .i64 2]) ∧ Fr Nob w w' := by
  have h1 : (k != 0) = true := by simp only [bne, h0]; rfl
  have hfr := Fr.refl Nob w
  go_enter Try.func34, Try.ntmps34
  go_wp2_with fail
  go_ret2
  exact ⟨rfl, hfr⟩
end Go.Proofs.Ytmegaegedlbckaa
