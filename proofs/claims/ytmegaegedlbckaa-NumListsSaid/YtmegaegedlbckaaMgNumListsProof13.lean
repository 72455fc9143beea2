/- num.Powers: what it answers; The law NumReduces. -/
import Derived.Test.YtmegaegedlbckaaMgNumListsProof11
import Derived.Test.YtmegaegedlbckaaMgNumListsProof12
import Derived.Test.YtmegaegedlbckaaMgNumListsProof9
import Derived.Test.YtmegaegedlbckaaMgNumListsProof6
namespace Mvp
/-- the first powers, as they are handed out -/
def powsL (M x : Nat) : Nat → List (List UInt8)
  | 0 => []
  | i + 1 => powsL M x i ++ [be32 (x ^ i % M)]
theorem powsL_len (M x n : Nat) : (powsL M x n).length = n := by
  induction n with
  | zero => rfl
  | succ n ih => rw [powsL, List.length_append, ih]; rfl
theorem powsL_zero (M x : Nat) : powsL M x 0 = [] := rfl
theorem powsL_succ (M x i : Nat) : powsL M x i ++ [be32 (x ^ i % M)] = powsL M x (i + 1) := rfl
def lenV : Go.Value → Nat
  | .slice _ n _ => n
  | _ => 0
end Mvp
namespace Go.Proofs.Ytmegaegedlbckaa
open Go.RowKit Go.Mv Mvp
theorem SOwn.mono {w : World} {base base' : Nat} {v : Value} {ls : List (List UInt8)} (h : SOwn w base v ls) (hb : base' ≤ base) : SOwn w base' v ls := by
  obtain ⟨vs, h1, h2, h3⟩ := h; exact ⟨vs, h1.mono hb, h2.mono hb, h3⟩
/-- a fresh slice of bytes is appended -/
theorem SOwn.snocF {w w1 w2 w3 : World} {base : Nat} {vs : List Value} {ls : List (List UInt8)} {o v o' : Value} {l : List UInt8}
    (hown : Own w base 29 1 o ls.length vs) (hpo : POwn w base vs ls) (hsep : Sep vs) (hb : base ≤ w.heap.size)
    (hv : Own w1 w.heap.size 5 1 v l.length (bs l)) (hf1 : Fr Nob w w1) (hf2 : Fr Nob w1 w2)
    (ho' : Own w3 base 29 1 o' (ls.length + 1) (vs ++ [v])) (hf3 : Fr (OwnB o) w2 w3) : SOwn w3 base o' (ls ++ [l]) := by
  have h12 := hf1.then hf2
  have hv2 := (hv.still hf2).mono hb
  have ho2 := hown.still h12
  refine ⟨vs ++ [v], by simpa using ho', POwn.snoc (hv2.keep hf3 (fun k hk hk' => hv2.ne2 ho2 (by decide) k hk hk')) ((hpo.still h12).app ho2 (by decide) hf3), hsep.snoc hpo hv⟩
attribute [local irreducible] limbs lw mix cw cSub cAdd cMul foldC valFrom beN laid be32 powm montT mstep elN mdL elCells numsB numB powsL

set_option maxHeartbeats 8000000 in
set_option maxRecDepth 1000000 in
theorem NPowers_bad (k : Int) (m : Md) (hk : KindOf k m) (va : Value) (la : List UInt8) (n : Nat) (w : World) (hpa : BPart w va la) (hn : n ≤ 256) (hg : numsB m [la] = false) :
    Calls Try.prog 20 #[.int .i64 k, va, .int .i64 (n : Int)] w fun e w' => e = .returned (.tuple #[.slice none 0 0, .int .i64 3]) ∧ Fr Nob w w' := by
  have HA1 := Lib.hid (BPart.one hpa)
  have HK := Lib.hid hk
  have HP := Lib.hid (BParts.one hpa)
  have HG := Lib.hid hg
  clear hk hpa hg
  have hn0 : ¬ ((n : Int) < 0) := by omega
  have hn1 : ¬ ((256 : Int) < (n : Int)) := by omega
  go_enter Try.func20, Try.ntmps20
  go_wp2_with fail
  refine (OfK HK.out _).mono ?_
  rintro e w1 ⟨gp, rfl, hgg, hm, hf⟩
  clear hgg
  have HM := Lib.hid hm
  have HF := Lib.hid hf
  clear hm hf
  go_wp2_with (with_reducible refine wl_stop (o := ⟨some 31, _, _, _, _, _⟩) ?_)
  unfold Stop
  refine wl_slit (vs := [va]) (hgd := rfl) (ho := rfl) (hu := Try.underlying47) (hi0 := info_bsl) (hp := by rfl) (hv := fun v hv => by simp at hv; subst hv; exact HA1.out) (hk := by rfl) (hz := by rfl) (h := ?_)
  intro w2 hg2 hf2 hz2
  clear hz2
  generalize w1.heap.size = gl at *
  have HM2 := Lib.hid (HM.out.keep hf2 id)
  have HF2 := Lib.hid (HF.out.then hf2)
  have HRD := Lib.hid (show Rd w2 (some ⟨gl, 0, none⟩) 1 [va] from Rd.whole hg2)
  clear hg2 hf2 HM HF
  go_wp2_with fail
  refine (read_any m gp _ 1 1 [va] [la] _ HK.out.ok HM2.out HRD.out (HP.out.still HF2.out) (by decide)).mono ?_
  rintro e w3 ⟨-, hbad, hf3⟩
  obtain rfl := hbad HG.out
  have HF3 := Lib.hid (HF2.out.then hf3)
  clear hbad hf3
  go_wp2_with fail
  go_ret2
  exact ⟨rfl, HF3.out⟩

set_option maxHeartbeats 8000000 in
set_option maxRecDepth 1000000 in
theorem NPowers_x (k : Int) (va vn : Value) (w : World) (h0 : (k == 0) = false) (h1 : (k == 1) = false) :
    Calls Try.prog 20 #[.int .i64 k, va, vn] w fun e w' => e = .returned (.tuple #[.slice none 0 0, .int .i64 2]) ∧ w = w' := by
  have H0 := Lib.hid h0
  have H1 := Lib.hid h1
  clear h0 h1
  go_enter Try.func20, Try.ntmps20
  go_wp2_with fail
  refine (Of2 k _ H0.out H1.out).mono ?_
  rintro e w1 ⟨rfl, rfl⟩
  go_wp2_with fail
  go_ret2
  exact ⟨rfl, rfl⟩

set_option maxHeartbeats 8000000 in
set_option maxRecDepth 1000000 in
theorem NPowers_neg (k : Int) (m : Md) (hk : KindOf k m) (va : Value) (n : Int) (w : World) (hn : n < 0) :
    Calls Try.prog 20 #[.int .i64 k, va, .int .i64 n] w fun e w' => e = .returned (.tuple #[.slice none 0 0, .int .i64 1]) ∧ Fr Nob w w' := by
  have HK := Lib.hid hk
  clear hk
  have hn0 : n < 0 := hn
  go_enter Try.func20, Try.ntmps20
  go_wp2_with fail
  refine (OfK HK.out _).mono ?_
  rintro e w1 ⟨gp, rfl, hgg, hm, hf⟩
  clear hgg
  have HM := Lib.hid hm
  have HF := Lib.hid hf
  clear hm hf
  clear HM
  go_wp2_with fail
  go_ret2
  exact ⟨rfl, HF.out⟩

set_option maxHeartbeats 8000000 in
set_option maxRecDepth 1000000 in
theorem NPowers_long (k : Int) (m : Md) (hk : KindOf k m) (va : Value) (n : Int) (w : World) (hn : 256 < n) :
    Calls Try.prog 20 #[.int .i64 k, va, .int .i64 n] w fun e w' => e = .returned (.tuple #[.slice none 0 0, .int .i64 1]) ∧ Fr Nob w w' := by
  have HK := Lib.hid hk
  clear hk
  have hn0 : ¬ (n < 0) := by omega
  have hn1 : 256 < n := hn
  go_enter Try.func20, Try.ntmps20
  go_wp2_with fail
  refine (OfK HK.out _).mono ?_
  rintro e w1 ⟨gp, rfl, hgg, hm, hf⟩
  clear hgg
  have HM := Lib.hid hm
  have HF := Lib.hid hf
  clear hm hf
  clear HM
  go_wp2_with fail
  go_ret2
  exact ⟨rfl, HF.out⟩

set_option maxHeartbeats 8000000 in
set_option maxRecDepth 1000000 in
theorem NPowers_ok (k : Int) (m : Md) (hk : KindOf k m) (va : Value) (la : List UInt8) (n : Nat) (w : World) (hpa : BPart w va la) (hn : n ≤ 256) (hg : numsB m [la] = true) :
    Calls Try.prog 20 #[.int .i64 k, va, .int .i64 (n : Int)] w fun e w' => ∃ v, e = .returned (.tuple #[v, .int .i64 0]) ∧ SOwn w' w.heap.size v (powsL m.M (beN la) n) ∧ Fr Nob w w' := by
  have HOK := Lib.hid hk.ok
  have HA1 := Lib.hid (BPart.one hpa)
  have HK := Lib.hid hk
  have HP := Lib.hid (BParts.one hpa)
  have HG := Lib.hid hg
  clear hk hpa hg
  have hn0 : ¬ ((n : Int) < 0) := by omega
  have hn1 : ¬ ((256 : Int) < (n : Int)) := by omega
  go_enter Try.func20, Try.ntmps20
  go_wp2_with fail
  refine (OfK HK.out _).mono ?_
  rintro e w1 ⟨gp, rfl, hgg, hm, hf⟩
  clear hgg
  have HM := Lib.hid hm
  have HF := Lib.hid hf
  clear hm hf
  go_wp2_with (with_reducible refine wl_stop (o := ⟨some 31, _, _, _, _, _⟩) ?_)
  unfold Stop
  refine wl_slit (vs := [va]) (hgd := rfl) (ho := rfl) (hu := Try.underlying47) (hi0 := info_bsl) (hp := by rfl) (hv := fun v hv => by simp at hv; subst hv; exact HA1.out) (hk := by rfl) (hz := by rfl) (h := ?_)
  intro w2 hg2 hf2 hz2
  clear hz2
  generalize w1.heap.size = gl at *
  have HM2 := Lib.hid (HM.out.keep hf2 id)
  have HF2 := Lib.hid (HF.out.then hf2)
  have HRD := Lib.hid (show Rd w2 (some ⟨gl, 0, none⟩) 1 [va] from Rd.whole hg2)
  clear hg2 hf2 HM HF
  go_wp2_with fail
  refine (read_any m gp _ 1 1 [va] [la] _ HK.out.ok HM2.out HRD.out (HP.out.still HF2.out) (by decide)).mono ?_
  rintro e w3 ⟨hgood, -, hf3⟩
  obtain ⟨v, rfl, hown⟩ := hgood HG.out
  obtain ⟨ae, ce, rfl, -, hre, -⟩ := hown.form
  have HRE := Lib.hid hre
  have HPM := Lib.hid (HM2.out.keep hf3 id)
  have HF3 := Lib.hid (HF2.out.then hf3)
  clear hgood hown hre hf3 HM2 HF2
  have st0 := St.start Nob w3
  go_wp2_with fail
  refine (MOne_any m gp _ HOK.out (HPM.out.keep st0.fr id)).mono ?_
  rintro e' w4 ⟨rfl, hf4⟩
  have st4 := st0.keep hf4
  clear st0 hf4
  go_wp2_with (with_reducible refine wl_stop (o := ⟨some 12, _, _, _, _, _⟩) ?_)
  refine wl_allocS st4 rfl rfl (z := .agg #[.int .u64 0, .int .u64 0, .int .u64 0, .int .u64 0]) (by kernel_rfl) (cw 4 0) (by rw [cw_zero]; rfl) ?_
  intro g12 w5 st5
  clear st4
  go_wp2_with (with_reducible refine wl_stop (o := ⟨none, _, _, _, _, _⟩) ?_)
  refine wl_storeS st5 0 rfl rfl rfl rfl rfl (by first | (simp only [cw_len]; done) | (simp only [List.length_append, cw_len]; done)) (by first | (rw [cw_len]; kernel_rfl) | (simp only [List.length_append, cw_len]; kernel_rfl)) (cw_one _ _) ?_
  intro w6 st6
  clear st5
  go_wp2
  go_frame
  go_loopw [11, 12] (fun o p wr => ∃ (i gg : Nat), i ≤ n ∧ p = .pointer (some ⟨gg, 0, none⟩) ∧ lenV o = i ∧ Has wr gg (cw 4 (elN m ((beN la) ^ i))) 81 ∧ w3.heap.size ≤ gg ∧ SOwn wr w3.heap.size o (powsL m.M (beN la) i) ∧ Fr Nob w3 wr) (fun o _ _ => n - lenV o)
  case atStart => exact ⟨0, _, by omega, rfl, rfl, by rw [Nat.pow_zero]; exact st6.at 0 rfl, (st6.own (g12, cw 4 (elN m 1), 81) (by simp)).resolve_right id, by rw [powsL_zero]; exact SOwn.nil _ _, st6.fr⟩
  case round =>
    obtain ⟨i, gg, hi, rfl, hlen, hacc, hgg, hS, hfr⟩ := hrel
    clear st6
    obtain ⟨vs, hown, hpo, hsep⟩ := hS
    rw [powsL_len] at hown
    obtain ⟨aq, cq, rfl, hcq, hrq, -⟩ := id hown.form
    have HLEN := Lib.hid hlen
    clear hlen hrq
    have HACC := Lib.hid hacc
    have HFR := Lib.hid hfr
    have HOWN := Lib.hid hown
    have HPO := Lib.hid hpo
    have HSEP := Lib.hid hsep
    have HGG := Lib.hid hgg
    clear hacc hfr hown hpo hsep hgg
    by_cases hlt : i < n
    · have hltI : (i : Int) < (n : Int) := by omega
      go_wp2_with (with_reducible refine wl_stop (o := ⟨some 51, _, _, _, _, _⟩) ?_)
      refine wl_loadA rfl rfl Try.underlying81 rfl HACC.out (cw 4 (elN m ((beN la) ^ i))) (by rw [List.drop_zero, List.take_of_length_le (Nat.le_refl _)]) (by rw [cw_len]; kernel_rfl) ?_
      go_wp2_with fail
      refine (MFrom_any m gp _ HOK.out (HPM.out.keep HFR.out id) ((beN la) ^ i)).mono ?_
      rintro e' w5 ⟨rfl, hf5⟩
      have HF5 := Lib.hid hf5
      clear hf5
      go_wp2_with fail
      refine (MBytes_any ((beN la) ^ i % m.M) _).mono ?_
      rintro e' w6 ⟨v6, rfl, hv6, hf6⟩
      obtain ⟨a6, c6, rfl, -⟩ := id hv6.form
      have HV6 := Lib.hid hv6
      have HF6 := Lib.hid hf6
      clear hv6 hf6
      go_wp2_with (with_reducible refine wl_stop (o := ⟨some 54, _, _, _, _, _⟩) ?_)
      unfold Stop
      refine wl_slit (vs := [.slice a6 32 c6]) (hgd := rfl) (ho := rfl) (hu := Try.underlying47) (hi0 := info_bsl) (hp := by rfl) (hv := fun v hv => by simp at hv; subst hv; rfl) (hk := by rfl) (hz := by rfl) (h := ?_)
      intro w7 hg7 hf7 hz7
      clear hz7
      generalize w6.heap.size = g7 at *
      have HRD7 := Lib.hid (show Rd w7 (some ⟨g7, 0, none⟩) (1 * 1) [.slice a6 32 c6] from Rd.whole hg7)
      have HF7 := Lib.hid hf7
      clear hg7 hf7
      have HF37 := Lib.hid (HFR.out.then (HF5.out.then (HF6.out.then HF7.out)))
      have HOWN7 := Lib.hid (HOWN.out.still (HF5.out.then (HF6.out.then HF7.out)))
      have HACC7 := Lib.hid (HACC.out.keep (HF5.out.then (HF6.out.then HF7.out)) id)
      have hsz := HF37.out.size
      go_wp2_with (with_reducible refine wl_stop (o := ⟨some 55, _, _, _, _, _⟩) ?_)
      unfold Stop
      refine wl_append rfl rfl Try.underlying47 info_bsl rfl (by decide) HOWN7.out rfl rfl HRD7.out (fun u hu => by simp at hu; subst hu; rfl) (by unfold maxLen; omega) (by omega) hsz ?_
      intro v8 w8 hown8 hf8 hb8
      clear hb8 hsz
      obtain ⟨a8, c8, rfl, -⟩ := id hown8.form
      have HS8 := Lib.hid (SOwn.snocF (l := be32 ((beN la) ^ i % m.M)) (by rw [powsL_len]; exact HOWN.out.still HF5.out) (HPO.out.still HF5.out) HSEP.out (Nat.le_trans HFR.out.size HF5.out.size) (by rw [be32_len]; exact HV6.out) HF6.out HF7.out (by rw [powsL_len]; exact hown8) hf8)
      have HF38 := Lib.hid (HOWN7.out.fr HF37.out (Nat.le_refl _) hf8)
      have HACC8 := Lib.hid (HACC7.out.keep hf8 (HOWN7.out.ne HACC7.out (by decide)))
      clear hown8 hf8 HF5 HF6 HF7 HF37 HOWN7 HACC7 HV6 HRD7
      have HPM8 := Lib.hid (HPM.out.keep HF38.out id)
      have HRE8 := Lib.hid (HRE.out.still HF38.out)
      obtain ⟨be, oe, hee, -⟩ := HRE.out.at (by simp)
      subst hee
      have st20 := St.start Nob w8
      go_wp2_with (with_reducible refine wl_stop (o := ⟨some 56, _, _, _, _, _⟩) ?_)
      refine wl_loadA rfl rfl Try.underlying81 rfl HACC8.out (cw 4 (elN m ((beN la) ^ i))) (by rw [List.drop_zero, List.take_of_length_le (Nat.le_refl _)]) (by rw [cw_len]; kernel_rfl) ?_
      go_wp2_with (with_reducible refine wl_stop (o := ⟨some 12, _, _, _, _, _⟩) ?_)
      refine wl_allocS st20 rfl rfl (z := .agg #[.int .u64 0, .int .u64 0, .int .u64 0, .int .u64 0]) (by kernel_rfl) (cw 4 0) (by rw [cw_zero]; rfl) ?_
      intro g15 w21 st21
      clear st20
      go_wp2_with (with_reducible refine wl_stop (o := ⟨none, _, _, _, _, _⟩) ?_)
      refine wl_storeS st21 0 rfl rfl rfl rfl rfl (by first | (simp only [cw_len]; done) | (simp only [List.length_append, cw_len]; done)) (by first | (rw [cw_len]; kernel_rfl) | (simp only [List.length_append, cw_len]; kernel_rfl)) (cw_one _ _) ?_
      intro w22 st22
      clear st21
      go_wp2_with fail
      refine wp_region_noPanic ?_
      refine wp_region_plan (fun wx => St Nob w8 wx [(g15, cw 4 (elN m ((beN la) ^ i)), 81)]) 6 (.w 0 (.t 1 (.w 2 (.w 3 (.t 4 (.r 5 (.m 6 .nil))))))) (by kernel_rfl) (by kernel_rfl) st22.drew (fun _ _ _ _ _ h => h) ?_
      have hd22 := st22.drew
      clear st22
      refine plan_w (v := ?_) rfl rfl (fun wx => ?_) ?_
      rotate_left 1
      · (go_simp; with_reducible rfl)
      try simp only [Act.put, List.setIfInBounds_toArray, List.set_cons_zero, List.set_cons_succ]
      refine plan_arr rfl rfl rfl rfl (cw 4 (elN m ((beN la) ^ i))) (fun wx hS => St.rangeL hS 0 rfl 0 _ (by rw [List.drop_zero, List.take_of_length_le (Nat.le_refl _)])) Try.underlying81 rfl (by first | (rw [cw_len]; kernel_rfl) | (simp only [List.length_append, cw_len]; kernel_rfl)) ?_
      try simp only [Act.put, List.setIfInBounds_toArray, List.set_cons_zero, List.set_cons_succ]
      refine plan_w (v := ?_) rfl rfl (fun wx => ?_) ?_
      rotate_left 1
      · (go_simp; with_reducible rfl)
      try simp only [Act.put, List.setIfInBounds_toArray, List.set_cons_zero, List.set_cons_succ]
      refine plan_w (v := ?_) rfl rfl (fun wx => ?_) ?_
      rotate_left 1
      · (go_simp; with_reducible rfl)
      try simp only [Act.put, List.setIfInBounds_toArray, List.set_cons_zero, List.set_cons_succ]
      refine plan_arr rfl rfl rfl rfl (cw 4 (elN m (beN la))) (fun wx hS => (rd_range (HRE8.out.still (St.fr hS)) 0 _ (el_first m la []))) Try.underlying81 rfl (by first | (rw [cw_len]; kernel_rfl) | (simp only [List.length_append, cw_len]; kernel_rfl)) ?_
      try simp only [Act.put, List.setIfInBounds_toArray, List.set_cons_zero, List.set_cons_succ]
      refine plan_r rfl rfl ?_
      go_simp
      refine (MMulE m gp _ HOK.out (HPM8.out.keep hd22.fr id) ((beN la) ^ i) (beN la)).mono ?_
      rintro e' w23 ⟨rfl, hf23⟩
      have st23 := hd22.keep hf23
      clear hf23
      clear hd22
      refine ⟨st23, ?_⟩
      try simp only [Act.put, List.setIfInBounds_toArray, List.set_cons_zero, List.set_cons_succ]
      refine plan_m rfl rfl ?_
      refine wp_storeS st23 0 rfl rfl rfl rfl (by first | (simp only [cw_len]; done) | (simp only [List.length_append, cw_len]; done)) (by first | (rw [cw_len]; kernel_rfl) | (simp only [List.length_append, cw_len]; kernel_rfl)) (cw_one _ _) ?_
      intro w24 st24
      clear st23
      try simp only [Act.put]
      refine plan_end ?_
      refine NoPanic.normal ?_
      have hg15 := st24.at 0 rfl
      have hf15 := st24.fr
      have hl15 := (st24.own (g15, cw 4 (elN m ((beN la) ^ i * (beN la))), 81) (by simp)).resolve_right id
      clear st24
      go_wp2
      go_roundw
      case rel => exact ⟨i + 1, _, by omega, rfl, rfl, by rw [Nat.pow_succ]; exact hg15, Nat.le_trans HF38.out.size hl15, by rw [← powsL_succ]; exact HS8.out.still hf15, HF38.out.then hf15⟩
      case measure => simp [lenV]; omega
    · have hge : ¬ ((i : Int) < (n : Int)) := by omega
      have HI := Lib.hid (show i = n by omega)
      go_wp2_with fail
      go_ret2
      refine ⟨_, rfl, ?_, HF3.out.then HFR.out⟩
      have hs : SOwn wr w3.heap.size (.slice aq i cq) (powsL m.M (beN la) i) := ⟨vs, by rw [powsL_len]; exact HOWN.out, HPO.out, HSEP.out⟩
      rw [HI.out] at hs ⊢
      exact hs.mono HF3.out.size
end Go.Proofs.Ytmegaegedlbckaa

/- The law NumReduces. -/
namespace Go.Proofs.Ytmegaegedlbckaa
open Go.RowKit Go.Mv Mvp
theorem lentL_take (s : ByteArray) : (lentL s.data.toList).take s.size = s.data.toList := by
  unfold lentL
  rw [List.take_append_of_le_length (by simp), List.take_of_length_le (by simp)]
attribute [local irreducible] limbs lw mix cw cSub cAdd cMul foldC valFrom beN laid be32 powm montT mstep elN mdL lentL

theorem Known_k {k : Int} {m : Md} (hk : KindOf k m) (w : World) : Calls Try.prog 15 #[.int .i64 k] w fun e w' => e = .returned (.bool true) ∧ w = w' := by
  cases hk
  · go_enter Try.func15, Try.ntmps15
    go_wp2
    go_ret
    exact ⟨rfl, rfl⟩
  · go_enter Try.func15, Try.ntmps15
    go_wp2
    go_ret
    exact ⟨rfl, rfl⟩
theorem Known_x (k : Int) (w : World) (h0 : (k == 0) = false) (h1 : (k == 1) = false) : Calls Try.prog 15 #[.int .i64 k] w fun e w' => e = .returned (.bool false) ∧ w = w' := by
  go_enter Try.func15, Try.ntmps15
  go_wp2
  go_ret
  exact ⟨rfl, rfl⟩

set_option maxHeartbeats 8000000 in
set_option maxRecDepth 1000000 in
theorem law_NumReduces_x (k : Int) (s : ByteArray) (w : World) (h0 : (k == 0) = false) (h1 : (k == 1) = false) :
    Calls Try.prog 4 #[.int .i64 k, .string s] w fun e w' => e = .returned (.bool true) ∧ Fr Nob w w' := by
  have H0 := Lib.hid h0
  have H1 := Lib.hid h1
  clear h0 h1
  by_cases hbig : 16384 < s.size
  · have hI : (16384 : Int) < (s.size : Int) := by omega
    go_enter Try.func4, Try.ntmps4
    go_wp2
    go_ret
    exact ⟨rfl, Fr.refl _ _⟩
  have hI : ¬ ((16384 : Int) < (s.size : Int)) := by omega
  have HS := Lib.hid (show s.size ≤ 16384 by omega)
  clear hbig
  go_enter Try.func4, Try.ntmps4
  go_wp2_with fail
  refine (lent_any s _ (by have := HS.out; omega)).mono ?_
  rintro e w1 ⟨rfl, hg1, hf1, hz1⟩
  clear hz1
  generalize w.heap.size = gi at *
  have hrd1 : RdB w1 (some ⟨gi, 0, none⟩) (s.size + 160) (lentL s.data.toList) := by
    have := Rd.whole hg1
    rwa [length_bs, lentL_len, size_list] at this
  have HRD := Lib.hid hrd1
  have hrs1 : RdB w1 (some ⟨gi, 0, none⟩) s.size s.data.toList := by
    have h := RdB.front hrd1 s.size (by omega)
    rwa [lentL_take] at h
  have HRS := Lib.hid hrs1
  have HF1 := Lib.hid hf1
  clear hg1 hrd1 hrs1 hf1
  have k1 := fun wx => run_slice_hi (P := Try.prog) wx Try.underlying29 size_u8 (some ⟨gi, 0, none⟩) (s.size + 160) (s.size + 160) .i64 s.size (by omega)
  have hci : (s.size : Int) ≤ (s.size : Int) + 160 := by omega
  go_wp2_with fail
  refine (NModulus_x k _ H0.out H1.out).mono ?_
  rintro e w2 ⟨rfl, rfl⟩
  go_wp2_with fail
  refine (NReduce_x k _ _ H0.out H1.out).mono ?_
  rintro e w2 ⟨rfl, rfl⟩
  clear k1 hci
  go_wp2_with fail
  refine (still_any _ _ _ _ s _ (by have := HS.out; omega) HRD.out).mono ?_
  rintro e w3 ⟨rfl, hf3⟩
  have HF3 := Lib.hid (HF1.out.then hf3)
  clear hf3
  rw [decide_eq_true rfl]
  go_wp2_with fail
  refine (Known_x k _ H0.out H1.out).mono ?_
  rintro e w4 ⟨rfl, rfl⟩
  go_wp2_with fail
  go_ret
  exact ⟨rfl, HF3.out⟩

set_option maxHeartbeats 8000000 in
set_option maxRecDepth 1000000 in
theorem law_NumReduces_k (k : Int) (m : Md) (hk : KindOf k m) (s : ByteArray) (w : World) :
    Calls Try.prog 4 #[.int .i64 k, .string s] w fun e w' => e = .returned (.bool true) ∧ Fr Nob w w' := by
  have HK := Lib.hid hk
  clear hk
  by_cases hbig : 16384 < s.size
  · have hI : (16384 : Int) < (s.size : Int) := by omega
    go_enter Try.func4, Try.ntmps4
    go_wp2
    go_ret
    exact ⟨rfl, Fr.refl _ _⟩
  have hI : ¬ ((16384 : Int) < (s.size : Int)) := by omega
  have HS := Lib.hid (show s.size ≤ 16384 by omega)
  clear hbig
  go_enter Try.func4, Try.ntmps4
  go_wp2_with fail
  refine (lent_any s _ (by have := HS.out; omega)).mono ?_
  rintro e w1 ⟨rfl, hg1, hf1, hz1⟩
  clear hz1
  generalize w.heap.size = gi at *
  have hrd1 : RdB w1 (some ⟨gi, 0, none⟩) (s.size + 160) (lentL s.data.toList) := by
    have := Rd.whole hg1
    rwa [length_bs, lentL_len, size_list] at this
  have HRD := Lib.hid hrd1
  have hrs1 : RdB w1 (some ⟨gi, 0, none⟩) s.size s.data.toList := by
    have h := RdB.front hrd1 s.size (by omega)
    rwa [lentL_take] at h
  have HRS := Lib.hid hrs1
  have HF1 := Lib.hid hf1
  clear hg1 hrd1 hrs1 hf1
  have k1 := fun wx => run_slice_hi (P := Try.prog) wx Try.underlying29 size_u8 (some ⟨gi, 0, none⟩) (s.size + 160) (s.size + 160) .i64 s.size (by omega)
  have hci : (s.size : Int) ≤ (s.size : Int) + 160 := by omega
  go_wp2_with fail
  refine (NModulus_k k m HK.out _).mono ?_
  rintro e w2 ⟨vm, rfl, hom, hf2⟩
  obtain ⟨am, cm, rfl, -, hrm, -⟩ := hom.form
  have HRM := Lib.hid (show RdB w2 am 32 (be32 m.M) by rw [Nat.mul_one] at hrm; exact hrm)
  have HF2 := Lib.hid hf2
  clear hom hrm hf2
  by_cases hlen : s.size ≤ 1024
  · have HLEN := Lib.hid hlen
    have hlI : ¬ ((1024 : Int) < (s.size : Int)) := by omega
    clear hlen
    go_wp2_with fail
    refine (NReduce_k k m HK.out _ _ _ _ _ (HRS.out.still HF2.out) (by omega) HLEN.out).mono ?_
    rintro e w3 ⟨vb, rfl, hob, hf3⟩
    obtain ⟨ab, cb, rfl, -, hrb, -⟩ := hob.form
    have HRB := Lib.hid (show RdB w3 ab 32 (be32 (beN s.data.toList % m.M)) by rw [Nat.mul_one] at hrb; exact hrb)
    have HRM3 := Lib.hid (HRM.out.still hf3)
    have HF3 := Lib.hid (HF2.out.then hf3)
    clear hob hrb hf3 k1 hci HRM
    go_wp2_with fail
    refine (still_any _ _ _ _ s _ (by have := HS.out; omega) (HRD.out.still HF3.out)).mono ?_
    rintro e w4 ⟨rfl, hf4⟩
    have HF4 := Lib.hid (HF3.out.then hf4)
    have HRM4 := Lib.hid (HRM3.out.still hf4)
    have HRB4 := Lib.hid (HRB.out.still hf4)
    clear hf4 HRM3
    rw [decide_eq_true rfl]
    go_wp2_with fail
    refine (Known_k HK.out _).mono ?_
    rintro e w5 ⟨rfl, rfl⟩
    have st0 := St.start Nob w4
    go_wp2_with fail
    refine (MakeK HK.out _).mono ?_
    rintro e w5 ⟨rfl, hf5⟩
    have st1 := st0.keep hf5
    clear st0 hf5
    go_wp2_with (with_reducible refine wl_stop (o := ⟨some 13, _, _, _, _, _⟩) ?_)
    refine wl_allocS st1 rfl rfl (z := .agg #[.int .u64 0, .int .u64 0, .int .u64 0, .int .u64 0, .int .u64 0, .int .u64 0, .int .u64 0, .int .u64 0]) (by kernel_rfl) (cw 8 0) (by rw [cw_zero]; rfl) ?_
    intro g13 w6 st2
    clear st1
    go_wp2_with (with_reducible refine wl_stop (o := ⟨none, _, _, _, _, _⟩) ?_)
    refine wl_storeS st2 0 rfl rfl rfl rfl rfl (by first | (simp only [cw_len]; done) | (simp only [List.length_append, cw_len]; done)) (by first | (rw [cw_len]; kernel_rfl) | (simp only [List.length_append, cw_len]; kernel_rfl)) (cw2_one _ _ _ _) ?_
    intro w7 st7
    clear st2
    go_wp2_with fail
    refine wp_region_noPanic ?_
    refine wp_region_plan (fun wx => St Nob w4 wx [(g13, cw 4 m.M ++ cw 4 (B64 ^ 4 - m.M), 40)]) 9 (.w 0 (.t 1 (.w 2 (.t 3 (.r 4 (.w 5 (.w 6 (.w 7 (.w 8 (.m 9 .nil)))))))))) (by kernel_rfl) (by kernel_rfl) st7.drew (fun _ _ _ _ _ h => h) ?_
    have hd7 := st7.drew
    clear st7
    refine plan_w (v := ?_) rfl rfl (fun wx => ?_) ?_
    rotate_left 1
    · (go_simp; with_reducible rfl)
    try simp only [Act.put, List.setIfInBounds_toArray, List.set_cons_zero, List.set_cons_succ]
    refine plan_t (v := ?_) rfl rfl (fun wx hS => ?_) ?_
    rotate_left 1
    · (have hc := run_string (P := Try.prog) (HRM4.out.still (St.fr hS)) cm Try.underlying29 Try.underlying5 Try.underlying9; clear hS; go_simp; with_reducible rfl)
    try simp only [Act.put, List.setIfInBounds_toArray, List.set_cons_zero, List.set_cons_succ]
    refine plan_w (v := ?_) rfl rfl (fun wx => ?_) ?_
    rotate_left 1
    · (go_simp; with_reducible rfl)
    try simp only [Act.put, List.setIfInBounds_toArray, List.set_cons_zero, List.set_cons_succ]
    refine plan_arr rfl rfl rfl rfl (cw 4 m.M) (fun wx hS => St.rangeL hS 0 rfl 0 _ (cw_left 4 4 _ _)) Try.underlying38 rfl (by first | (rw [cw_len]; kernel_rfl) | (simp only [List.length_append, cw_len]; kernel_rfl)) ?_
    try simp only [Act.put, List.setIfInBounds_toArray, List.set_cons_zero, List.set_cons_succ]
    refine plan_r rfl rfl ?_
    go_simp
    refine (RBytes_any m.M _).mono ?_
    rintro e' w8 ⟨rfl, hf8⟩
    have st8 := hd7.keep hf8
    clear hf8
    clear hd7
    refine ⟨st8, ?_⟩
    try simp only [Act.put, List.setIfInBounds_toArray, List.set_cons_zero, List.set_cons_succ]
    refine plan_w (v := ?_) rfl rfl (fun wx => ?_) ?_
    rotate_left 1
    · (go_simp; with_reducible rfl)
    try simp only [Act.put, List.setIfInBounds_toArray, List.set_cons_zero, List.set_cons_succ]
    refine plan_w (v := ?_) rfl rfl (fun wx => ?_) ?_
    rotate_left 1
    · (go_simp; with_reducible rfl)
    try simp only [Act.put, List.setIfInBounds_toArray, List.set_cons_zero, List.set_cons_succ]
    refine plan_g (v := ?_) rfl (by rfl) (fun wx => ?_) ?_
    rotate_left 1
    · (go_simp; with_reducible rfl)
    try simp only [Act.put, List.setIfInBounds_toArray, List.set_cons_zero, List.set_cons_succ]
    refine plan_g (v := ?_) rfl (by rfl) (fun wx => ?_) ?_
    rotate_left 1
    · (go_simp; with_reducible rfl)
    try simp only [Act.put, List.setIfInBounds_toArray, List.set_cons_zero, List.set_cons_succ]
    refine plan_m rfl rfl ?_
    go_simp
    try simp only [Act.put, List.setIfInBounds_toArray, List.set_cons_zero, List.set_cons_succ]
    refine plan_end ?_
    refine NoPanic.normal ?_
    go_wp2_with (with_reducible refine wl_stop (o := ⟨some 82, _, _, _, _, _⟩) ?_)
    refine wl_loadSt st8 0 rfl rfl rfl Try.underlying40 rfl rfl (by first | (rw [cw_len]; kernel_rfl) | (simp only [List.length_append, cw_len]; kernel_rfl)) ?_
    go_wp2_with fail
    refine (Mod_any m.M s _ (by have := HK.out.ok.one; omega) HK.out.ok.lt (by have := HLEN.out; omega)).mono ?_
    rintro e' w9 ⟨rfl, hf9⟩
    have st9 := st8.keep hf9
    clear st8 hf9
    go_wp2_with (with_reducible refine wl_stop (o := ⟨some 14, _, _, _, _, _⟩) ?_)
    refine wl_allocS st9 rfl rfl (z := .agg #[.int .u64 0, .int .u64 0, .int .u64 0, .int .u64 0]) (by kernel_rfl) (cw 4 0) (by rw [cw_zero]; rfl) ?_
    intro g14 w10 st10
    clear st9
    go_wp2_with (with_reducible refine wl_stop (o := ⟨none, _, _, _, _, _⟩) ?_)
    refine wl_storeS st10 1 rfl rfl rfl rfl rfl (by first | (simp only [cw_len]; done) | (simp only [List.length_append, cw_len]; done)) (by first | (rw [cw_len]; kernel_rfl) | (simp only [List.length_append, cw_len]; kernel_rfl)) (cw_one _ _) ?_
    intro w11 st11
    clear st10
    go_wp2_with (with_reducible refine wl_stop (o := ⟨some 87, _, _, _, _, _⟩) ?_)
    refine wl_loadS st11 1 rfl rfl rfl Try.underlying38 rfl (by first | (rw [cw_len]; kernel_rfl) | (simp only [List.length_append, cw_len]; kernel_rfl)) ?_
    have HST := Lib.hid (st11.fr)
    clear st11
    go_wp2_with fail
    refine (told_ok ab 32 cb (beN s.data.toList % m.M) _ (HRB4.out.still HST.out)).mono ?_
    rintro e wz ⟨rfl, hfz⟩
    have HFZ := Lib.hid ((HF4.out.then HST.out).then hfz)
    clear hfz
    go_wp2_with fail
    go_ret
    exact ⟨rfl, HF1.out.then HFZ.out⟩
  · have HLEN := Lib.hid hlen
    have hlI : (1024 : Int) < (s.size : Int) := by omega
    clear hlen
    go_wp2_with fail
    refine (NReduce_l k m HK.out _ _ _ _ (by have := HLEN.out; omega)).mono ?_
    rintro e w3 ⟨rfl, hf3⟩
    have HRM3 := Lib.hid (HRM.out.still hf3)
    have HF3 := Lib.hid (HF2.out.then hf3)
    clear hf3 k1 hci HRM
    go_wp2_with fail
    refine (still_any _ _ _ _ s _ (by have := HS.out; omega) (HRD.out.still HF3.out)).mono ?_
    rintro e w4 ⟨rfl, hf4⟩
    have HF4 := Lib.hid (HF3.out.then hf4)
    have HRM4 := Lib.hid (HRM3.out.still hf4)
    clear hf4 HRM3
    rw [decide_eq_true rfl]
    go_wp2_with fail
    refine (Known_k HK.out _).mono ?_
    rintro e w5 ⟨rfl, rfl⟩
    have st0 := St.start Nob w4
    go_wp2_with fail
    refine (MakeK HK.out _).mono ?_
    rintro e w5 ⟨rfl, hf5⟩
    have st1 := st0.keep hf5
    clear st0 hf5
    go_wp2_with (with_reducible refine wl_stop (o := ⟨some 13, _, _, _, _, _⟩) ?_)
    refine wl_allocS st1 rfl rfl (z := .agg #[.int .u64 0, .int .u64 0, .int .u64 0, .int .u64 0, .int .u64 0, .int .u64 0, .int .u64 0, .int .u64 0]) (by kernel_rfl) (cw 8 0) (by rw [cw_zero]; rfl) ?_
    intro g13 w6 st2
    clear st1
    go_wp2_with (with_reducible refine wl_stop (o := ⟨none, _, _, _, _, _⟩) ?_)
    refine wl_storeS st2 0 rfl rfl rfl rfl rfl (by first | (simp only [cw_len]; done) | (simp only [List.length_append, cw_len]; done)) (by first | (rw [cw_len]; kernel_rfl) | (simp only [List.length_append, cw_len]; kernel_rfl)) (cw2_one _ _ _ _) ?_
    intro w7 st7
    clear st2
    go_wp2_with fail
    refine wp_region_noPanic ?_
    refine wp_region_plan (fun wx => St Nob w4 wx [(g13, cw 4 m.M ++ cw 4 (B64 ^ 4 - m.M), 40)]) 9 (.w 0 (.t 1 (.w 2 (.t 3 (.r 4 (.w 5 (.w 6 (.w 7 (.w 8 (.m 9 .nil)))))))))) (by kernel_rfl) (by kernel_rfl) st7.drew (fun _ _ _ _ _ h => h) ?_
    have hd7 := st7.drew
    clear st7
    refine plan_w (v := ?_) rfl rfl (fun wx => ?_) ?_
    rotate_left 1
    · (go_simp; with_reducible rfl)
    try simp only [Act.put, List.setIfInBounds_toArray, List.set_cons_zero, List.set_cons_succ]
    refine plan_t (v := ?_) rfl rfl (fun wx hS => ?_) ?_
    rotate_left 1
    · (have hc := run_string (P := Try.prog) (HRM4.out.still (St.fr hS)) cm Try.underlying29 Try.underlying5 Try.underlying9; clear hS; go_simp; with_reducible rfl)
    try simp only [Act.put, List.setIfInBounds_toArray, List.set_cons_zero, List.set_cons_succ]
    refine plan_w (v := ?_) rfl rfl (fun wx => ?_) ?_
    rotate_left 1
    · (go_simp; with_reducible rfl)
    try simp only [Act.put, List.setIfInBounds_toArray, List.set_cons_zero, List.set_cons_succ]
    refine plan_arr rfl rfl rfl rfl (cw 4 m.M) (fun wx hS => St.rangeL hS 0 rfl 0 _ (cw_left 4 4 _ _)) Try.underlying38 rfl (by first | (rw [cw_len]; kernel_rfl) | (simp only [List.length_append, cw_len]; kernel_rfl)) ?_
    try simp only [Act.put, List.setIfInBounds_toArray, List.set_cons_zero, List.set_cons_succ]
    refine plan_r rfl rfl ?_
    go_simp
    refine (RBytes_any m.M _).mono ?_
    rintro e' w8 ⟨rfl, hf8⟩
    have st8 := hd7.keep hf8
    clear hf8
    clear hd7
    refine ⟨st8, ?_⟩
    try simp only [Act.put, List.setIfInBounds_toArray, List.set_cons_zero, List.set_cons_succ]
    refine plan_w (v := ?_) rfl rfl (fun wx => ?_) ?_
    rotate_left 1
    · (go_simp; with_reducible rfl)
    try simp only [Act.put, List.setIfInBounds_toArray, List.set_cons_zero, List.set_cons_succ]
    refine plan_w (v := ?_) rfl rfl (fun wx => ?_) ?_
    rotate_left 1
    · (go_simp; with_reducible rfl)
    try simp only [Act.put, List.setIfInBounds_toArray, List.set_cons_zero, List.set_cons_succ]
    refine plan_g (v := ?_) rfl (by rfl) (fun wx => ?_) ?_
    rotate_left 1
    · (go_simp; with_reducible rfl)
    try simp only [Act.put, List.setIfInBounds_toArray, List.set_cons_zero, List.set_cons_succ]
    refine plan_g (v := ?_) rfl (by rfl) (fun wx => ?_) ?_
    rotate_left 1
    · (go_simp; with_reducible rfl)
    try simp only [Act.put, List.setIfInBounds_toArray, List.set_cons_zero, List.set_cons_succ]
    refine plan_m rfl rfl ?_
    go_simp
    try simp only [Act.put, List.setIfInBounds_toArray, List.set_cons_zero, List.set_cons_succ]
    refine plan_end ?_
    refine NoPanic.normal ?_
    have HF5 := Lib.hid (HF4.out.then st8.fr)
    clear st8
    go_wp2_with fail
    go_ret
    exact ⟨rfl, HF1.out.then HF5.out⟩

theorem law_NumReduces (k : Int) (s : ByteArray) (w : World) :
    Calls Try.prog 4 #[.int .i64 k, .string s] w fun e w' => e = .returned (.bool true) ∧ Fr Nob w w' := by
  rcases kind_cases k with ⟨m, hk⟩ | ⟨h0, h1⟩
  · exact law_NumReduces_k k m hk s w
  · exact law_NumReduces_x k s w h0 h1
end Go.Proofs.Ytmegaegedlbckaa
