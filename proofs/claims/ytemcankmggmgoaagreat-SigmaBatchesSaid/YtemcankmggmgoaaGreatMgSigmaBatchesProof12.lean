/- . -/
import Derived.Test.YtemcankmggmgoaaGreatMgSigmaBatchesProof11
set_option maxHeartbeats 16000000
set_option maxRecDepth 1000000
open Go.Proofs.Tryz

namespace Go.Proofs.YtemcankmggmgoaaGreat
open Go.RowKit Go.Mv Mvp Mvq
theorem p0Z (w : World) : OwS w w.heap.size (fun _ => False) (BL6 (.slice none 0 0) (.slice none 0 0) (.slice none 0 0) (.slice none 0 0) (.slice none 0 0) (.slice none 0 0) 0 0 0 0 0 0 [] [] [] (ss []) (ss []) (ss []) ++ []) := by
 unfold BL6
 refine ⟨?_, by intro x _ k _ h; exact h, ?_, by intro k h; exact h.elim⟩
 ·intro x hx
  simp only [List.mem_cons, List.not_mem_nil, or_false, List.append_nil] at hx
  rcases hx with rfl | rfl | rfl | rfl | rfl | rfl <;> exact Go.Mv.Own.nil _ _ _ _
 ·rw [List.pairwise_iff_getElem]
  intro i j hi hj _ k hk
  have : ∀ x ∈ ([⟨.slice none 0 0, 22, 1, 0, []⟩, ⟨.slice none 0 0, 22, 1, 0, []⟩, ⟨.slice none 0 0, 22, 1, 0, []⟩, ⟨.slice none 0 0, 9, 1, 0, ss []⟩, ⟨.slice none 0 0, 9, 1, 0, ss []⟩, ⟨.slice none 0 0, 9, 1, 0, ss []⟩] ++ [] : List Ox), ¬ kH x.v k := by
   intro x hx
   simp only [List.mem_cons, List.not_mem_nil, or_false, List.append_nil] at hx
   rcases hx with rfl | rfl | rfl | rfl | rfl | rfl <;> (intro h; cases h)
  exact absurd hk (this _ (List.getElem_mem hi))
theorem s0k {w : World} {base : Nat} {a : Option Addr} {n c : Nat} {l : List UInt8} (h : Go.Mv.Own w base (ox (.slice a n c) l).T (ox (.slice a n c) l).sz (ox (.slice a n c) l).v (ox (.slice a n c) l).n (ox (.slice a n c) l).L) (hn : l.length = n) : RdB w a n l := by
 obtain ⟨a', c', e, -, hr, -⟩ := Go.Mv.Own.form (show Go.Mv.Own w base 5 1 (.slice a n c) l.length (bs l) from h)
 cases e
 rwa [Nat.mul_one] at hr
theorem gZ {w : World} {base : Nat} {T : TypeId} {a : Option Addr} {n c : Nat} {L : List Value} (h : Go.Mv.Own w base T 1 (.slice a n c) n L) : Rd w a n L := by
 obtain ⟨a', c', e, -, hr, -⟩ := Go.Mv.Own.form h
 cases e
 rwa [Nat.mul_one] at hr
theorem EP.at {es : List Ox} {vs : List Value} {ls : List (List UInt8)} (h : EP es vs ls) {i : Nat} {v : Value} (hv : vs[i]? = some v) : ∃ l : List UInt8, ls[i]? = some l ∧ ox v l ∈ es := h.2 i v hv
theorem s0l (l : List (List UInt8)) (k : Nat) (x : List UInt8) : ss (l.set k x) = (ss l).set k (.string (mkS x)) := by unfold ss; rw [List.map_set]
theorem q0a {b o c : Nat} (h : 65 ≤ c) : fY (some ⟨b, o, none⟩) 1 c = some ⟨b, o + 1, none⟩ := by
 unfold fY
 simp [Addr.add]
 omega
theorem m0D {w : World} {a : Option Addr} {n c : Nat} {l : List UInt8} (h : PartIs w (.slice a n c) l) : n ≤ c := by
 obtain ⟨a', n', c', e, hc, -⟩ := h
 cases e
 exact hc
theorem f0o {w : World} {b o c : Nat} {l : List UInt8} (h : PartIs w (.slice (some ⟨b, o, none⟩) 65 c) l) : PartIs w (.slice (some ⟨b, o + 1, none⟩) 64 (c - 1)) (l.drop 1) := by
 obtain ⟨a', n', c', e, hc, hm, hr, hold⟩ := h
 cases e
 refine ⟨_, _, _, rfl, by omega, by decide, ?_, ?_⟩
 ·obtain ⟨b', o', e2, hat⟩ := Rd.at (show Rd w (some ⟨b, o, none⟩) 65 (bs l) from hr) Ac
  cases e2
  have hl : l.length = 65 := hr.len
  have hl2 : (bs l).length = 65 := by rw [bP]; exact hl
  have h2 := hat.sub 1 64
  refine ⟨by rw [bP, List.length_drop, hl], .inr ⟨b, o + 1, rfl, ?_⟩⟩
  have e3 : (List.drop 1 (bs l)).take 64 = bs (l.drop 1) := by
   rw [List.take_of_length_le (by rw [List.length_drop, hl2]; decide)]
   simp [bs]
  rwa [e3] at h2
 ·intro x hx
  cases hx
  exact hold ⟨b, o, none⟩ rfl
theorem g0U {w : World} {b o c : Nat} {l : List UInt8} (h : PartIs w (.slice (some ⟨b, o, none⟩) 65 c) l) : PartIs w (.slice (some ⟨b, o + 1, none⟩) 64 (c - 1)) (l.drop 1) := f0o h
theorem Parts.set0 {w : World} : ∀ {vs : List Value} {ls : List (List UInt8)}, Parts w vs ls → ∀ {v : Value} {l : List UInt8}, PartIs w v l → Parts w (vs.set 0 v) (ls.set 0 l)
 | [], [], _, _, _, _ => trivial
 | [], _ :: _, h, _, _, _ => h.elim
 | _ :: _, [], h, _, _, _ => h.elim
 | _ :: _, _ :: _, h, _, _, k => ⟨k, h.2⟩
theorem k0c {w : World} {b o n : Nat} {l : List En} (h : Rd w (some ⟨b, o, none⟩) n (k0b l)) {j : Nat} {sn sb : Int} {st : List UInt8} (hx : l[j]? = some (sn, sb, st)) :
  w.cell? ⟨b, o + j * 3, none⟩ = some (.int .i64 sn) ∧ w.cell? ⟨b, o + j * 3 + 1, none⟩ = some (.int .i64 sb) ∧ w.cell? ⟨b, o + j * 3 + 2, none⟩ = some (.string (mkS st)) := by
 have h0 := fS h (j * 3 + 0) _ (show (k0b l)[j * 3 + 0]? = some (.int .i64 sn) from sP l j _ hx 0 Ac)
 have h1 := fS h (j * 3 + 1) _ (show (k0b l)[j * 3 + 1]? = some (.int .i64 sb) from sP l j _ hx 1 Ac)
 have h2 := fS h (j * 3 + 2) _ (show (k0b l)[j * 3 + 2]? = some (.string (mkS st)) from sP l j _ hx 2 Ac)
 rw [← Nat.add_assoc] at h0 h1 h2
 exact ⟨h0, h1, h2⟩
attribute [local irreducible] bI lw mix cw cT dG cS bQ aO beN dO cI dI bM bT elN mdL cL rtV dW cK dM fD bV cO dD toB aW bG cR eD bH eU cA bD dX fZ kC noR dB RT.L rdR kN kc oD sgF sgZ cU chN lV a0e dS rpL veB rdG kA wK btL bA bRR wSt wN okT btB btO tS tC k0b EP ss
theorem _root_.Be {p : Prop} (h : p := by unfold maxLen; have := HJ.out; first | omega | (simp only [List.length_cons, List.length_nil]; omega)) : p := h
theorem _root_.Bf {p : Prop} (h : p := by have := HJ.out; first | omega | (simp only [List.length_cons, List.length_nil]; omega)) : p := h
theorem qE (a : Option Addr) (c : Nat) (l : List En) (more : Int) (w : World) (hv : Rd w a (l.length * 3) (k0b l)) (hl : l.length ≤ 70) : Calls prog 7 #[.slice a l.length c, .int .i64 more] w fun e w' => e = .returned (.bool true) ∧ Fr Nob w w' := by
 have hgl : ¬ ((70 : Int) < (l.length : Int)) := by omega
 have HV := qH hv
 have HLL := qH hl
 clear hv hl
 go_enter func7, ntmps7
 go_wp2_with fail
 go_loopw [5, 6, 7, 8, 9, 10, 11, 12] (fun q5 q6 q7 q8 q9 q10 al i wr => ∃ (j : Nat) (all : Bool) (es : List Ox) (vp vt vs : List Value) (lp lt ls : List (List UInt8)), j ≤ l.length ∧ i = .int .i64 (j : Int) ∧ al = .bool all ∧ OwS wr w.heap.size (fun _ => False) (BL6 q5 q6 q7 q8 q9 q10 j j j j j j vp vt vs (ss lp) (ss lt) (ss ls) ++ es) ∧ EP es vp lp ∧ EP es vt lt ∧ EP es vs ls ∧ LQ all j lp lt ls ∧ Fr Nob w wr) (fun _ _ _ _ _ _ _ i _ => l.length - (intOf i).toNat)
 case atStart => exact ⟨0, true, [], [], [], [], [], [], [], Nat.zero_le _, rfl, rfl, p0Z w, EP.nil _, EP.nil _, EP.nil _, LQ.nil _, Fr.refl _ _⟩
 case round =>
  obtain ⟨j, all, es, vp, vt, vs, lp, lt, ls, hj, rfl, rfl, hos, hep, het, hes, hlq, hfr⟩ := hrel
  have HO := qH hos
  have HEP := qH hep
  have HET := qH het
  have HES := qH hes
  have HLQ := qH hlq
  have HF := qH hfr
  clear hos hep het hes hlq hfr
  by_cases hlt : j < l.length
  ·skip
   have hltI : (j : Int) < (l.length : Int) := by omega
   have HJ := qH (show j < 70 by have := HLL.out; omega)
   have HLT := qH hlt
   obtain ⟨b, o, rfl, -⟩ := HV.out.at Ab
   obtain ⟨⟨sn, sb, st⟩, hxj⟩ : ∃ x, l[j]? = some x := ⟨_, List.getElem?_eq_getElem hlt⟩
   have HX := qH hxj
   clear hxj hlt hj
   obtain ⟨hc0, hc1, hc2⟩ := k0c (HV.out.still HF.out) HX.out
   by_cases hbig : 4096 < st.length
   ·have hbI : (4096 : Int) < ((mkS st).size : Int) := by rw [aZ]; omega
    go_wp2_with fail
    go_ret
    exact ⟨rfl, HF.out⟩
   have hbI : ¬ ((4096 : Int) < ((mkS st).size : Int)) := by rw [aZ]; omega
   have HST := qH (show st.length ≤ 4096 by omega)
   clear hbig
   go_wp2_with fail
   clear hbI
   refine (k0a sn _).mono ?_
   rintro e' w11 ⟨k, rfl, hkl, hks, hf⟩
   have HKL := qH hkl
   have HKS := qH hks
   clear hkl hks hc0 hc1 hc2
   replace HO := qH (HO.out.still hf)
   replace HF := qH (HF.out.then hf)
   clear hf
   have HPUB := qH (t0i HKS.out)
   go_wp2_with (with_reducible refine AA 46 ?_)
   refine fV (q := mkS k) rfl rfl underlying9 underlying22 underlying5 rfl (by rw [aZ]; unfold maxLen; have := HKL.out; omega) _ (Nat.le_refl _) ?_
   intro capw12 w12 hown hf hz
   clear hz
   rw [aZ, bS] at hown
   rw [aZ k]
   rw [HKL.out] at hown ⊢
   have HPK := qH (fB hown Ab)
   clear hown
   replace HO := qH (HO.out.still hf)
   replace HF := qH (HF.out.then hf)
   clear hf
   go_wp2_with fail
   refine (vD _).mono ?_
   rintro e' w13 ⟨vb, rfl, ho, hf⟩
   have HB := qH (OwnB1.part ho)
   replace HPK := qH (HPK.out.still hf)
   clear ho
   replace HO := qH (HO.out.still hf)
   replace HF := qH (HF.out.then hf)
   clear hf
   go_wp2_with fail
   refine (e0R _ vb k (cK gP) _ (jT HPK.out) HB.out).mono ?_
   rintro e' w14 ⟨v0, rfl, ho, hf⟩
   rw [HPUB.out.1] at ho
   rw [HPUB.out.2.1]
   obtain ⟨P, hP⟩ : ∃ P, cK (bV (beN k) gP) = P := ⟨_, rfl⟩
   rw [hP] at ho
   have HPL := qH (show P.length = 33 by rw [← hP]; exact eI _)
   have HP := qH hP
   clear hP HPK HB
   obtain ⟨ap, cp, rfl, -, -, -⟩ := Go.Mv.Own.form ho
   rw [HPL.out]
   have ho2 : Go.Mv.Own w14 w13.heap.size (ox (.slice ap 33 cp) P).T (ox (.slice ap 33 cp) P).sz (ox (.slice ap 33 cp) P).v (ox (.slice ap 33 cp) P).n (ox (.slice ap 33 cp) P).L := by unfold ox; dsimp only; rw [HPL.out]; unfold OwnB1 at ho; rw [HPL.out] at ho; exact ho
   replace HO := qH (show OwS _ w.heap.size (fun _ => False) (BL6 u5 u6 u7 u8 u9 u10 j j j j j j vp vt vs (ss lp) (ss lt) (ss ls) ++ (es ++ [ox (.slice ap 33 cp) P])) from (by rw [← List.append_assoc]; exact HO.out.new hf (x := ox (.slice ap 33 cp) P) ho2 HF.out.size))
   replace HF := qH (HF.out.then hf)
   clear ho ho2 hf
   go_wp2_with (with_reducible refine AA 53 ?_)
   refine fV (q := mkS k) rfl rfl underlying9 underlying22 underlying5 rfl (by rw [aZ]; unfold maxLen; have := HKL.out; omega) _ (Nat.le_refl _) ?_
   intro capw15 w15 hown hf hz
   clear hz
   rw [aZ, bS] at hown
   rw [aZ k]
   rw [HKL.out] at hown ⊢
   have HPK := qH (fB hown Ab)
   clear hown
   replace HO := qH (HO.out.still hf)
   replace HF := qH (HF.out.then hf)
   clear hf
   obtain ⟨hc0, hc1, hc2⟩ := k0c (HV.out.still HF.out) HX.out
   go_wp2_with (with_reducible refine AA 59 ?_)
   refine fV (q := mkS st) rfl rfl underlying9 underlying22 underlying5 rfl (by rw [aZ]; unfold maxLen; have := HST.out; omega) _ (Nat.le_refl _) ?_
   intro capw16 w16 hown hf hz
   clear hz
   rw [aZ, bS] at hown
   rw [aZ st]
   have HPT := qH (fB hown (by have := HST.out; omega))
   replace HPK := qH (HPK.out.still hf)
   clear hown hc0 hc1 hc2
   replace HO := qH (HO.out.still hf)
   replace HF := qH (HF.out.then hf)
   clear hf
   go_wp2_with fail
   refine (p0F _ 32 _ k _ st.length _ st _ HPK.out HPT.out HKS.out).mono ?_
   rintro e' w17 ⟨vg, rfl, ho, hf⟩
   clear HPK HPT
   obtain ⟨S0, hS0⟩ : ∃ S, sgF k st ++ cI (sgZ k st) = S := ⟨_, rfl⟩
   rw [hS0] at ho
   have HSL := qH (show S0.length = 65 by rw [← hS0]; exact n0w _ _)
   have HVE := qH (show veB P st S0 = true by rw [← hS0, ← HP.out]; exact p0U HPUB.out.2.2)
   clear hS0
   unfold OwnB1 at ho
   rw [HSL.out] at ho
   obtain ⟨ag, cg, rfl, -, hr, -⟩ := Go.Mv.Own.form ho
   obtain ⟨gs, os_, rfl, -⟩ := hr.at Ac
   clear hr
   have HG := qH ho
   have HGF := qH hf
   clear ho hf
   obtain ⟨hc0, hc1, hc2⟩ := k0c (HV.out.still (HF.out.then HGF.out)) HX.out
   go_upto_if 79 with fail
   go_cut [11] (fun al wx => ∃ (all2 : Bool) (S1 : List UInt8), al = .bool all2 ∧ S1.length = 65 ∧ (all2 = true → all = true ∧ veB P st S1 = true) ∧ Go.Mv.Own wx w16.heap.size 5 1 (.slice (some ⟨gs, os_, none⟩) 65 cg) 65 (bs S1) ∧ Fr Nob w16 wx)
   case first =>
    by_cases hb : sb = 0
    ·have hJ : (sb != 0) = false := by rw [hb]; rfl
     clear hb
     go_wp2_with fail
     go_meet
     exact ⟨all, S0, rfl, HSL.out, fun h => ⟨h, HVE.out⟩, HG.out, HGF.out⟩
    ·have hJ : (sb != 0) = true := by simpa using hb
     clear hb
     obtain ⟨x40, hx40⟩ : ∃ x, S0[40]? = some x := ⟨_, List.getElem?_eq_getElem (by rw [HSL.out]; decide)⟩
     have hcS := fS (show Rd _ (some ⟨gs, os_, none⟩) 65 (bs S0) from by obtain ⟨a, c, e, -, hr, -⟩ := Go.Mv.Own.form HG.out; cases e; exact hr) 40 (.int .u8 (x40.toNat : Int)) (by simp [bs, hx40])
     obtain ⟨⟨u, -, hfz⟩, -⟩ := a0x HG.out (k := 40) Ac (.int .u8 0)
     clear hx40
     have hbx : bits .xor .u8 (x40.toNat : Int) 1 = ((bx x40 1).toNat : Int) := rQ x40 1
     have ho := (a0x HG.out (k := 40) Ac (.int .u8 ((bx x40 1).toNat : Int))).2
     rw [bs_set] at ho
     have hf : Fr Nob w16 (w17.setCell ⟨gs, os_ + 40, none⟩ (.int .u8 ((bx x40 1).toNat : Int))) := HGF.out.setCell gs (os_ + 40) none _ (fun h => absurd h (by have := (Go.Mv.Own.hasB HG.out).1; omega))
     have HO1 := qH ho
     have HF1 := qH hf
     clear ho hf
     go_wp2_with fail
     go_meet
     exact ⟨false, S0.set 40 (bx x40 1), rfl, by rw [List.length_set]; exact HSL.out, fun h => (by cases h), HO1.out, HF1.out⟩
   case rest =>
   obtain ⟨all2, S1, rfl, hsl, hve, ho, hf⟩ := hcut
   have HSX := qH hsl
   have HVX := qH hve
   clear hsl hve hc0 hc1 hc2 HG HGF HSL HVE
   have ho2 : Go.Mv.Own wc w16.heap.size (ox (.slice (some ⟨gs, os_, none⟩) 65 cg) S1).T (ox (.slice (some ⟨gs, os_, none⟩) 65 cg) S1).sz (ox (.slice (some ⟨gs, os_, none⟩) 65 cg) S1).v (ox (.slice (some ⟨gs, os_, none⟩) 65 cg) S1).n (ox (.slice (some ⟨gs, os_, none⟩) 65 cg) S1).L := by unfold ox; dsimp only; rw [HSX.out]; exact ho
   replace HO := qH (show OwS _ w.heap.size (fun _ => False) (BL6 u5 u6 u7 u8 u9 u10 j j j j j j vp vt vs (ss lp) (ss lt) (ss ls) ++ ((es ++ [ox (.slice ap 33 cp) P]) ++ [ox (.slice (some ⟨gs, os_, none⟩) 65 cg) S1])) from (by rw [← List.append_assoc]; exact HO.out.new hf (x := ox (.slice (some ⟨gs, os_, none⟩) 65 cg) S1) ho2 HF.out.size))
   replace HF := qH (HF.out.then hf)
   clear ho ho2 hf
   go_wp2_with (with_reducible refine AA 88 ?_)
   refine dH rfl rfl underlying39 dV [(.slice ap 33 cp)] rfl Au rfl rfl ?_
   intro w18 hh hf hz
   clear hz
   have HH := qH (Rd.whole hh)
   clear hh
   replace HO := qH (HO.out.still hf)
   replace HF := qH (HF.out.then hf)
   clear hf
   go_wp2_with (with_reducible refine AA 89 ?_)
   refine fM HO.out 0 rfl rfl rfl underlying39 dV rfl Ac rfl rfl HH.out (fun u hu => by rw [List.mem_singleton.1 hu]; rfl) Be Bf HF.out.size ?_
   intro q0_w19 w19 hos hfo
   replace HF := qH (Go.Mv.Own.fr (HO.out.at 0 rfl) HF.out (Nat.le_refl _) hfo)
   replace HO := qH (show OwS w19 w.heap.size (fun _ => False) (BL6 q0_w19 u6 u7 u8 u9 u10 (j + 1) j j j j j (vp ++ [(.slice ap 33 cp)]) vt vs (ss lp) (ss lt) (ss ls) ++ ((es ++ [ox (.slice ap 33 cp) P]) ++ [ox (.slice (some ⟨gs, os_, none⟩) 65 cg) S1])) from hos)
   clear hos hfo HH
   obtain ⟨hc0, hc1, hc2⟩ := k0c (HV.out.still HF.out) HX.out
   go_wp2_with (with_reducible refine AA 96 ?_)
   refine fV (q := mkS st) rfl rfl underlying9 underlying22 underlying5 rfl (by rw [aZ]; unfold maxLen; have := HST.out; omega) _ (Nat.le_refl _) ?_
   intro capw20 w20 hown hf hz
   clear hz
   rw [aZ, bS] at hown
   rw [aZ st]
   have ho2 : Go.Mv.Own w20 w19.heap.size (ox (.slice (some ⟨w19.heap.size, 0, none⟩) st.length capw20) st).T (ox (.slice (some ⟨w19.heap.size, 0, none⟩) st.length capw20) st).sz (ox (.slice (some ⟨w19.heap.size, 0, none⟩) st.length capw20) st).v (ox (.slice (some ⟨w19.heap.size, 0, none⟩) st.length capw20) st).n (ox (.slice (some ⟨w19.heap.size, 0, none⟩) st.length capw20) st).L := by unfold ox; dsimp only; exact hown
   replace HO := qH (show OwS _ w.heap.size (fun _ => False) (BL6 q0_w19 u6 u7 u8 u9 u10 (j + 1) j j j j j (vp ++ [(.slice ap 33 cp)]) vt vs (ss lp) (ss lt) (ss ls) ++ (((es ++ [ox (.slice ap 33 cp) P]) ++ [ox (.slice (some ⟨gs, os_, none⟩) 65 cg) S1]) ++ [ox (.slice (some ⟨w19.heap.size, 0, none⟩) st.length capw20) st])) from (by rw [← List.append_assoc]; exact HO.out.new hf (x := ox (.slice (some ⟨w19.heap.size, 0, none⟩) st.length capw20) st) ho2 HF.out.size))
   replace HF := qH (HF.out.then hf)
   clear hown ho2 hf hc0 hc1 hc2
   go_wp2_with (with_reducible refine AA 97 ?_)
   refine dH rfl rfl underlying39 dV [(.slice (some ⟨w19.heap.size, 0, none⟩) st.length capw20)] rfl Au rfl rfl ?_
   intro w21 hh hf hz
   clear hz
   have HH := qH (Rd.whole hh)
   clear hh
   replace HO := qH (HO.out.still hf)
   replace HF := qH (HF.out.then hf)
   clear hf
   go_wp2_with (with_reducible refine AA 98 ?_)
   refine fM HO.out 1 rfl rfl rfl underlying39 dV rfl Ac rfl rfl HH.out (fun u hu => by rw [List.mem_singleton.1 hu]; rfl) Be Bf HF.out.size ?_
   intro q1_w22 w22 hos hfo
   replace HF := qH (Go.Mv.Own.fr (HO.out.at 1 rfl) HF.out (Nat.le_refl _) hfo)
   replace HO := qH (show OwS w22 w.heap.size (fun _ => False) (BL6 q0_w19 q1_w22 u7 u8 u9 u10 (j + 1) (j + 1) j j j j (vp ++ [(.slice ap 33 cp)]) (vt ++ [(.slice (some ⟨w19.heap.size, 0, none⟩) st.length capw20)]) vs (ss lp) (ss lt) (ss ls) ++ (((es ++ [ox (.slice ap 33 cp) P]) ++ [ox (.slice (some ⟨gs, os_, none⟩) 65 cg) S1]) ++ [ox (.slice (some ⟨w19.heap.size, 0, none⟩) st.length capw20) st])) from hos)
   clear hos hfo HH
   go_wp2_with (with_reducible refine AA 101 ?_)
   refine dH rfl rfl underlying39 dV [(.slice (some ⟨gs, os_, none⟩) 65 cg)] rfl Au rfl rfl ?_
   intro w23 hh hf hz
   clear hz
   have HH := qH (Rd.whole hh)
   clear hh
   replace HO := qH (HO.out.still hf)
   replace HF := qH (HF.out.then hf)
   clear hf
   go_wp2_with (with_reducible refine AA 102 ?_)
   refine fM HO.out 2 rfl rfl rfl underlying39 dV rfl Ac rfl rfl HH.out (fun u hu => by rw [List.mem_singleton.1 hu]; rfl) Be Bf HF.out.size ?_
   intro q2_w24 w24 hos hfo
   replace HF := qH (Go.Mv.Own.fr (HO.out.at 2 rfl) HF.out (Nat.le_refl _) hfo)
   replace HO := qH (show OwS w24 w.heap.size (fun _ => False) (BL6 q0_w19 q1_w22 q2_w24 u8 u9 u10 (j + 1) (j + 1) (j + 1) j j j (vp ++ [(.slice ap 33 cp)]) (vt ++ [(.slice (some ⟨w19.heap.size, 0, none⟩) st.length capw20)]) (vs ++ [(.slice (some ⟨gs, os_, none⟩) 65 cg)]) (ss lp) (ss lt) (ss ls) ++ (((es ++ [ox (.slice ap 33 cp) P]) ++ [ox (.slice (some ⟨gs, os_, none⟩) 65 cg) S1]) ++ [ox (.slice (some ⟨w19.heap.size, 0, none⟩) st.length capw20) st])) from hos)
   clear hos hfo HH
   have hrd := s0k (HO.out.own (ox (.slice ap 33 cp) P) (List.mem_append.2 (.inr Ae))) HPL.out
   have hx := jA (P := prog) hrd cp underlying22 underlying5 underlying9
   clear hrd
   go_wp2_with (with_reducible refine AA 106 ?_)
   refine dH rfl rfl underlying40 iK [.string (mkS P)] rfl Au rfl rfl ?_
   intro w25 hh hf hz
   clear hz
   have HH := qH (Rd.whole hh)
   clear hh
   replace HO := qH (HO.out.still hf)
   replace HF := qH (HF.out.then hf)
   clear hf
   go_wp2_with (with_reducible refine AA 107 ?_)
   refine fM HO.out 3 rfl rfl rfl underlying40 iK rfl Ac rfl rfl HH.out (fun u hu => by rw [List.mem_singleton.1 hu]; rfl) Be Bf HF.out.size ?_
   intro q3_w26 w26 hos hfo
   replace HF := qH (Go.Mv.Own.fr (HO.out.at 3 rfl) HF.out (Nat.le_refl _) hfo)
   replace HO := qH (show OwS w26 w.heap.size (fun _ => False) (BL6 q0_w19 q1_w22 q2_w24 q3_w26 u9 u10 (j + 1) (j + 1) (j + 1) (j + 1) j j (vp ++ [(.slice ap 33 cp)]) (vt ++ [(.slice (some ⟨w19.heap.size, 0, none⟩) st.length capw20)]) (vs ++ [(.slice (some ⟨gs, os_, none⟩) 65 cg)]) (ss (lp ++ [P])) (ss lt) (ss ls) ++ (((es ++ [ox (.slice ap 33 cp) P]) ++ [ox (.slice (some ⟨gs, os_, none⟩) 65 cg) S1]) ++ [ox (.slice (some ⟨w19.heap.size, 0, none⟩) st.length capw20) st])) from by rw [← a0v lp P]; exact hos)
   clear hos hfo HH
   obtain ⟨hc0, hc1, hc2⟩ := k0c (HV.out.still HF.out) HX.out
   go_wp2_with (with_reducible refine AA 114 ?_)
   refine dH rfl rfl underlying40 iK [.string (mkS st)] rfl Au rfl rfl ?_
   intro w27 hh hf hz
   clear hz
   have HH := qH (Rd.whole hh)
   clear hh
   replace HO := qH (HO.out.still hf)
   replace HF := qH (HF.out.then hf)
   clear hf
   go_wp2_with (with_reducible refine AA 115 ?_)
   refine fM HO.out 4 rfl rfl rfl underlying40 iK rfl Ac rfl rfl HH.out (fun u hu => by rw [List.mem_singleton.1 hu]; rfl) Be Bf HF.out.size ?_
   intro q4_w28 w28 hos hfo
   replace HF := qH (Go.Mv.Own.fr (HO.out.at 4 rfl) HF.out (Nat.le_refl _) hfo)
   replace HO := qH (show OwS w28 w.heap.size (fun _ => False) (BL6 q0_w19 q1_w22 q2_w24 q3_w26 q4_w28 u10 (j + 1) (j + 1) (j + 1) (j + 1) (j + 1) j (vp ++ [(.slice ap 33 cp)]) (vt ++ [(.slice (some ⟨w19.heap.size, 0, none⟩) st.length capw20)]) (vs ++ [(.slice (some ⟨gs, os_, none⟩) 65 cg)]) (ss (lp ++ [P])) (ss (lt ++ [st])) (ss ls) ++ (((es ++ [ox (.slice ap 33 cp) P]) ++ [ox (.slice (some ⟨gs, os_, none⟩) 65 cg) S1]) ++ [ox (.slice (some ⟨w19.heap.size, 0, none⟩) st.length capw20) st])) from by rw [← a0v lt st]; exact hos)
   clear hos hfo HH
   have hrd := s0k (HO.out.own (ox (.slice (some ⟨gs, os_, none⟩) 65 cg) S1) (List.mem_append.2 (.inr Ae))) HSX.out
   have hx := jA (P := prog) hrd cg underlying22 underlying5 underlying9
   clear hrd
   go_wp2_with (with_reducible refine AA 119 ?_)
   refine dH rfl rfl underlying40 iK [.string (mkS S1)] rfl Au rfl rfl ?_
   intro w29 hh hf hz
   clear hz
   have HH := qH (Rd.whole hh)
   clear hh
   replace HO := qH (HO.out.still hf)
   replace HF := qH (HF.out.then hf)
   clear hf
   go_wp2_with (with_reducible refine AA 120 ?_)
   refine fM HO.out 5 rfl rfl rfl underlying40 iK rfl Ac rfl rfl HH.out (fun u hu => by rw [List.mem_singleton.1 hu]; rfl) Be Bf HF.out.size ?_
   intro q5_w30 w30 hos hfo
   replace HF := qH (Go.Mv.Own.fr (HO.out.at 5 rfl) HF.out (Nat.le_refl _) hfo)
   replace HO := qH (show OwS w30 w.heap.size (fun _ => False) (BL6 q0_w19 q1_w22 q2_w24 q3_w26 q4_w28 q5_w30 (j + 1) (j + 1) (j + 1) (j + 1) (j + 1) (j + 1) (vp ++ [(.slice ap 33 cp)]) (vt ++ [(.slice (some ⟨w19.heap.size, 0, none⟩) st.length capw20)]) (vs ++ [(.slice (some ⟨gs, os_, none⟩) 65 cg)]) (ss (lp ++ [P])) (ss (lt ++ [st])) (ss (ls ++ [S1])) ++ (((es ++ [ox (.slice ap 33 cp) P]) ++ [ox (.slice (some ⟨gs, os_, none⟩) 65 cg) S1]) ++ [ox (.slice (some ⟨w19.heap.size, 0, none⟩) st.length capw20) st])) from by rw [← a0v ls S1]; exact hos)
   clear hos hfo HH
   replace HEP := qH (show EP (((es ++ [ox (.slice ap 33 cp) P]) ++ [ox (.slice (some ⟨gs, os_, none⟩) 65 cg) S1]) ++ [ox (.slice (some ⟨w19.heap.size, 0, none⟩) st.length capw20) st]) (vp ++ [(.slice ap 33 cp)]) (lp ++ [P]) from (HEP.out.mono (by intro x hx; simp [hx])).snoc Ae)
   replace HET := qH (show EP (((es ++ [ox (.slice ap 33 cp) P]) ++ [ox (.slice (some ⟨gs, os_, none⟩) 65 cg) S1]) ++ [ox (.slice (some ⟨w19.heap.size, 0, none⟩) st.length capw20) st]) (vt ++ [(.slice (some ⟨w19.heap.size, 0, none⟩) st.length capw20)]) (lt ++ [st]) from (HET.out.mono (by intro x hx; simp [hx])).snoc Ae)
   replace HES := qH (show EP (((es ++ [ox (.slice ap 33 cp) P]) ++ [ox (.slice (some ⟨gs, os_, none⟩) 65 cg) S1]) ++ [ox (.slice (some ⟨w19.heap.size, 0, none⟩) st.length capw20) st]) (vs ++ [(.slice (some ⟨gs, os_, none⟩) 65 cg)]) (ls ++ [S1]) from (HES.out.mono (by intro x hx; simp [hx])).snoc Ae)
   have HLQ2 := qH (HLQ.out.snoc (all' := all2) (p := P) (t := st) (s := S1) (by rw [HPL.out]; decide) HST.out HSX.out HVX.out)
   go_wp2_with fail
   go_roundw
   case rel => exact ⟨j + 1, all2, (((es ++ [ox (.slice ap 33 cp) P]) ++ [ox (.slice (some ⟨gs, os_, none⟩) 65 cg) S1]) ++ [ox (.slice (some ⟨w19.heap.size, 0, none⟩) st.length capw20) st]), _, _, _, _, _, _, by have := HLT.out; omega, by go_num, rfl, HO.out, HEP.out, HET.out, HES.out, HLQ2.out, HF.out⟩
   case measure => simp [intOf]; have := HLT.out; omega
  ·skip
   have hge : ¬ ((j : Int) < (l.length : Int)) := by omega
   have HJ := qH (show j ≤ 70 by have := HLL.out; omega)
   clear hlt hj
   obtain ⟨a5, c5, rfl, -, -, -⟩ := Go.Mv.Own.form (show Go.Mv.Own wr w.heap.size 22 1 u5 j vp from HO.out.at 0 rfl)
   obtain ⟨a6, c6, rfl, -, -, -⟩ := Go.Mv.Own.form (show Go.Mv.Own wr w.heap.size 22 1 u6 j vt from HO.out.at 1 rfl)
   obtain ⟨a7, c7, rfl, -, -, -⟩ := Go.Mv.Own.form (show Go.Mv.Own wr w.heap.size 22 1 u7 j vs from HO.out.at 2 rfl)
   obtain ⟨a8, c8, rfl, -, -, -⟩ := Go.Mv.Own.form (show Go.Mv.Own wr w.heap.size 9 1 u8 j (ss lp) from HO.out.at 3 rfl)
   obtain ⟨a9, c9, rfl, -, -, -⟩ := Go.Mv.Own.form (show Go.Mv.Own wr w.heap.size 9 1 u9 j (ss lt) from HO.out.at 4 rfl)
   obtain ⟨a10, c10, rfl, -, -, -⟩ := Go.Mv.Own.form (show Go.Mv.Own wr w.heap.size 9 1 u10 j (ss ls) from HO.out.at 5 rfl)
   by_cases hm1 : more = 1
   ·skip
    subst hm1
    go_wp2_with fail
    refine (vD _).mono ?_
    rintro e' w31 ⟨vb, rfl, ho, hf⟩
    have HG33 := qH (eI gP)
    obtain ⟨ab, cb, rfl, -, -, -⟩ := Go.Mv.Own.form ho
    unfold OwnB1 at ho
    rw [HG33.out] at ho ⊢
    have ho2 : Go.Mv.Own w31 wr.heap.size (ox (.slice ab 33 cb) (cK gP)).T (ox (.slice ab 33 cb) (cK gP)).sz (ox (.slice ab 33 cb) (cK gP)).v (ox (.slice ab 33 cb) (cK gP)).n (ox (.slice ab 33 cb) (cK gP)).L := by unfold ox; dsimp only; rw [HG33.out]; exact ho
    replace HO := qH (show OwS _ w.heap.size (fun _ => False) (BL6 (.slice a5 j c5) (.slice a6 j c6) (.slice a7 j c7) (.slice a8 j c8) (.slice a9 j c9) (.slice a10 j c10) j j j j j j vp vt vs (ss lp) (ss lt) (ss ls) ++ (es ++ [ox (.slice ab 33 cb) (cK gP)])) from (by rw [← List.append_assoc]; exact HO.out.new hf (x := ox (.slice ab 33 cb) (cK gP)) ho2 HF.out.size))
    replace HF := qH (HF.out.then hf)
    clear ho ho2 hf
    go_wp2_with (with_reducible refine AA 125 ?_)
    refine dH rfl rfl underlying39 dV [(.slice ab 33 cb)] rfl Au rfl rfl ?_
    intro w32 hh hf hz
    clear hz
    have HH := qH (Rd.whole hh)
    clear hh
    replace HO := qH (HO.out.still hf)
    replace HF := qH (HF.out.then hf)
    clear hf
    go_wp2_with (with_reducible refine AA 126 ?_)
    refine fM HO.out 0 rfl rfl rfl underlying39 dV rfl Ac rfl rfl HH.out (fun u hu => by rw [List.mem_singleton.1 hu]; rfl) Be Bf HF.out.size ?_
    intro q0_w33 w33 hos hfo
    replace HF := qH (Go.Mv.Own.fr (HO.out.at 0 rfl) HF.out (Nat.le_refl _) hfo)
    replace HO := qH (show OwS w33 w.heap.size (fun _ => False) (BL6 q0_w33 (.slice a6 j c6) (.slice a7 j c7) (.slice a8 j c8) (.slice a9 j c9) (.slice a10 j c10) (j + 1) j j j j j (vp ++ [.slice ab 33 cb]) vt vs (ss lp) (ss lt) (ss ls) ++ (es ++ [ox (.slice ab 33 cb) (cK gP)])) from hos)
    clear hos hfo HH
    replace HEP := qH (show EP (es ++ [ox (.slice ab 33 cb) (cK gP)]) (vp ++ [.slice ab 33 cb]) (lp ++ [cK gP]) from (HEP.out.mono (by intro x hx; simp [hx])).snoc Ae)
    go_wp2_with fail
    refine (vD _).mono ?_
    rintro e' w34 ⟨vb, rfl, ho, hf⟩
    have HB := qH (OwnB1.part ho)
    obtain ⟨ab2, cb2, rfl, -, -, -⟩ := Go.Mv.Own.form ho
    clear ho
    rw [HG33.out] at HB ⊢
    replace HO := qH (HO.out.still hf)
    replace HF := qH (HF.out.then hf)
    clear hf
    have hx := jA (P := prog) (show RdB _ ab2 33 (cK gP) from by obtain ⟨a, n, c, e, -, hr⟩ := HB.out; cases e; exact hr) cb2 underlying22 underlying5 underlying9
    clear HB
    go_wp2_with (with_reducible refine AA 130 ?_)
    refine dH rfl rfl underlying40 iK [.string (mkS (cK gP))] rfl Au rfl rfl ?_
    intro w35 hh hf hz
    clear hz
    have HH := qH (Rd.whole hh)
    clear hh
    replace HO := qH (HO.out.still hf)
    replace HF := qH (HF.out.then hf)
    clear hf
    go_wp2_with (with_reducible refine AA 131 ?_)
    refine fM HO.out 3 rfl rfl rfl underlying40 iK rfl Ac rfl rfl HH.out (fun u hu => by rw [List.mem_singleton.1 hu]; rfl) Be Bf HF.out.size ?_
    intro q3_w36 w36 hos hfo
    replace HF := qH (Go.Mv.Own.fr (HO.out.at 3 rfl) HF.out (Nat.le_refl _) hfo)
    replace HO := qH (show OwS w36 w.heap.size (fun _ => False) (BL6 q0_w33 (.slice a6 j c6) (.slice a7 j c7) q3_w36 (.slice a9 j c9) (.slice a10 j c10) (j + 1) j j (j + 1) j j (vp ++ [.slice ab 33 cb]) vt vs (ss (lp ++ [cK gP])) (ss lt) (ss ls) ++ (es ++ [ox (.slice ab 33 cb) (cK gP)])) from by rw [← a0v lp (cK gP)]; exact hos)
    clear hos hfo HH
    obtain ⟨a5, c5, rfl, -, -, -⟩ := Go.Mv.Own.form (show Go.Mv.Own w36 w.heap.size 22 1 q0_w33 (j + 1) (vp ++ [.slice ab 33 cb]) from HO.out.at 0 rfl)
    obtain ⟨a8, c8, rfl, -, -, -⟩ := Go.Mv.Own.form (show Go.Mv.Own w36 w.heap.size 9 1 q3_w36 (j + 1) (ss (lp ++ [cK gP])) from HO.out.at 3 rfl)
    have HPT := qH (show Parts w36 vt lt from HET.out.parts (fun x hx => HO.out.own x (List.mem_append.2 (.inr (List.mem_append.2 (.inl hx))))) (fun x hx => Nat.le_trans (HLQ.out.z2 x hx) Ac))
    have HPS := qH (show Parts w36 vs ls from HES.out.parts (fun x hx => HO.out.own x (List.mem_append.2 (.inr (List.mem_append.2 (.inl hx))))) (fun x hx => Nat.le_trans (HLQ.out.z3' x hx) Ac))
    have HPP := qH (show Parts w36 (vp ++ [.slice ab 33 cb]) (lp ++ [cK gP]) from HEP.out.parts (fun x hx => HO.out.own x (List.mem_append.2 (.inr hx))) (fun x hx => (List.mem_append.1 hx).elim (fun h => Nat.le_trans (HLQ.out.z1 x h) Ac) (fun h => by rw [List.mem_singleton.1 h, HG33.out]; decide)))
    have HZ2 := qH HLQ.out.z2
    have HZ3 := qH HLQ.out.z3'
    have HZ1 := qH (show ∀ x ∈ lp ++ [cK gP], x.length ≤ 4096 from fun x hx => (List.mem_append.1 hx).elim (HLQ.out.z1 x) (fun h => by rw [List.mem_singleton.1 h, HG33.out]; decide))
    have HALL := qH (show all = true → (btO (lp ++ [cK gP]) lt ls).2 = 0 → (btO (lp ++ [cK gP]) lt ls).1 = true from fun _ h => absurd h (HLQ.out.more _))
    have R5 := qH (gZ (show Go.Mv.Own w36 w.heap.size 22 1 (.slice a5 (j + 1) c5) (j + 1) (vp ++ [.slice ab 33 cb]) from HO.out.at 0 rfl))
    have R6 := qH (gZ (show Go.Mv.Own w36 w.heap.size 22 1 (.slice a6 j c6) j vt from HO.out.at 1 rfl))
    have R7 := qH (gZ (show Go.Mv.Own w36 w.heap.size 22 1 (.slice a7 j c7) j vs from HO.out.at 2 rfl))
    have R8 := qH (gZ (show Go.Mv.Own w36 w.heap.size 9 1 (.slice a8 (j + 1) c8) (j + 1) (ss (lp ++ [cK gP])) from HO.out.at 3 rfl))
    have R9 := qH (gZ (show Go.Mv.Own w36 w.heap.size 9 1 (.slice a9 j c9) j (ss lt) from HO.out.at 4 rfl))
    have R10 := qH (gZ (show Go.Mv.Own w36 w.heap.size 9 1 (.slice a10 j c10) j (ss ls) from HO.out.at 5 rfl))
    go_wp2_with fail
    refine (a0u _ _ _ _ _ _ _ _ _ (vp ++ [.slice ab 33 cb]) vt vs (lp ++ [cK gP]) lt ls _ R5.out R6.out R7.out HPP.out HPT.out HPS.out).mono ?_
    rintro e' w37 ⟨rfl, hf⟩
    clear HPP HPT HPS R5 R6 R7
    replace R8 := qH (R8.out.still hf)
    replace R9 := qH (R9.out.still hf)
    replace R10 := qH (R10.out.still hf)
    replace HF := qH (HF.out.then hf)
    clear hf HO
    go_wp2_with fail
    refine (sO _ _ _ _ _ _ _ _ _ (lp ++ [cK gP]) lt ls _ R8.out R9.out R10.out HZ1.out HZ2.out HZ3.out).mono ?_
    rintro e' w38 ⟨rfl, hf⟩
    clear R8 R9 R10 HZ1 HZ2 HZ3
    have hfr := HF.out.then hf
    clear hf HF
    generalize (btO (lp ++ [cK gP]) lt ls).1 = r at *
    generalize (btO (lp ++ [cK gP]) lt ls).2 = f at *
    have hJ3 : ((f : Int) != (f : Int)) = false := by simp
    by_cases hf0 : f = 0
    ·subst hf0
     cases all with
     | false => cases r <;> (go_wp2_with fail; go_ret; exact ⟨rfl, hfr⟩)
     | true =>
      cases r with
      | true => go_wp2_with fail; go_ret; exact ⟨rfl, hfr⟩
      | false => exact absurd (HALL.out rfl rfl) Ac
    ·have hJ4 : ((f : Int) != 0) = true := by simp; exact hf0
     clear hf0 HALL
     cases all <;> cases r <;> (go_wp2_with fail; go_ret; exact ⟨rfl, hfr⟩)
   have hJ1 : (more == 1) = false := by simpa using hm1
   clear hm1
   by_cases hm2 : more = 2
   ·skip
    subst hm2
    clear hJ1
    by_cases hj0 : j = 0
    ·skip
     subst hj0
     have HPP := qH (show Parts wr vp lp from HEP.out.parts (fun x hx => HO.out.own x (List.mem_append.2 (.inr hx))) (fun x hx => Nat.le_trans (HLQ.out.z1 x hx) Ac))
     have HPT := qH (show Parts wr vt lt from HET.out.parts (fun x hx => HO.out.own x (List.mem_append.2 (.inr hx))) (fun x hx => Nat.le_trans (HLQ.out.z2 x hx) Ac))
     have HPS := qH (show Parts wr vs ls from HES.out.parts (fun x hx => HO.out.own x (List.mem_append.2 (.inr hx))) (fun x hx => Nat.le_trans (HLQ.out.z3' x hx) Ac))
     have HZ1 := qH HLQ.out.z1
     have HZ2 := qH HLQ.out.z2
     have HZ3 := qH HLQ.out.z3'
     have HALL := qH HLQ.out.most
     have R5 := qH (gZ (show Go.Mv.Own wr w.heap.size 22 1 (.slice a5 0 c5) 0 vp from HO.out.at 0 rfl))
     have R6 := qH (gZ (show Go.Mv.Own wr w.heap.size 22 1 (.slice a6 0 c6) 0 vt from HO.out.at 1 rfl))
     have R7 := qH (gZ (show Go.Mv.Own wr w.heap.size 22 1 (.slice a7 0 c7) 0 vs from HO.out.at 2 rfl))
     have R8 := qH (gZ (show Go.Mv.Own wr w.heap.size 9 1 (.slice a8 0 c8) 0 (ss lp) from HO.out.at 3 rfl))
     have R9 := qH (gZ (show Go.Mv.Own wr w.heap.size 9 1 (.slice a9 0 c9) 0 (ss lt) from HO.out.at 4 rfl))
     have R10 := qH (gZ (show Go.Mv.Own wr w.heap.size 9 1 (.slice a10 0 c10) 0 (ss ls) from HO.out.at 5 rfl))
     go_wp2_with fail
     refine (a0u _ _ _ _ _ _ _ _ _ vp vt vs lp lt ls _ R5.out R6.out R7.out HPP.out HPT.out HPS.out).mono ?_
     rintro e' w39 ⟨rfl, hf⟩
     clear HPP HPT HPS R5 R6 R7
     replace R8 := qH (R8.out.still hf)
     replace R9 := qH (R9.out.still hf)
     replace R10 := qH (R10.out.still hf)
     replace HF := qH (HF.out.then hf)
     clear hf HO
     go_wp2_with fail
     refine (sO _ _ _ _ _ _ _ _ _ lp lt ls _ R8.out R9.out R10.out HZ1.out HZ2.out HZ3.out).mono ?_
     rintro e' w40 ⟨rfl, hf⟩
     clear R8 R9 R10 HZ1 HZ2 HZ3
     have hfr := HF.out.then hf
     clear hf HF
     generalize (btO lp lt ls).1 = r at *
     generalize (btO lp lt ls).2 = f at *
     have hJ3 : ((f : Int) != (f : Int)) = false := by simp
     by_cases hf0 : f = 0
     ·subst hf0
      cases all with
      | false => cases r <;> (go_wp2_with fail; go_ret; exact ⟨rfl, hfr⟩)
      | true =>
       cases r with
       | true => go_wp2_with fail; go_ret; exact ⟨rfl, hfr⟩
       | false => exact absurd (HALL.out rfl rfl) Ac
     ·have hJ4 : ((f : Int) != 0) = true := by simp; exact hf0
      clear hf0 HALL
      cases all <;> cases r <;> (go_wp2_with fail; go_ret; exact ⟨rfl, hfr⟩)
    have hjI : (0 : Int) < (j : Int) := by omega
    have hj1 : ¬ j = 0 := hj0
    clear hj0
    have hor := gZ (show Go.Mv.Own wr w.heap.size 22 1 (.slice a7 j c7) j vs from HO.out.at 2 rfl)
    obtain ⟨b7, o7, rfl, -⟩ := hor.at Ab
    have hor5 := gZ (show Go.Mv.Own wr w.heap.size 9 1 (.slice a10 j c10) j (ss ls) from HO.out.at 5 rfl)
    obtain ⟨b9, o9, rfl, -⟩ := hor5.at Ab
    clear hor5
    obtain ⟨v0, hv0⟩ : ∃ v, vs[0]? = some v := ⟨_, List.getElem?_eq_getElem (by rw [hor.len]; omega)⟩
    obtain ⟨l0, hl0, hm0⟩ := HES.out.at hv0
    have hz0 : l0.length = 65 := HLQ.out.z3 _ (List.mem_of_getElem? hl0)
    have hp0 := vP (HO.out.own _ (List.mem_append.2 (.inr hm0))) (by rw [hz0]; decide)
    obtain ⟨a0, n0, c0, rfl, -⟩ := hp0
    obtain rfl : n0 = 65 := by rw [← hz0]; exact (qD (vP (HO.out.own _ (List.mem_append.2 (.inr hm0))) (by rw [hz0]; decide))).symm
    have hq0 := qH (vP (HO.out.own _ (List.mem_append.2 (.inr hm0))) (by rw [hz0]; decide))
    obtain ⟨b0, o0, rfl, -⟩ := (lR hq0.out).at Ac
    have hc := fS hor 0 _ hv0
    rw [Nat.add_zero] at hc
    have H1 := qH (f0o hq0.out)
    have hcap := qH (m0D hq0.out)
    obtain ⟨⟨u, -, hfz⟩, how7⟩ := a0x (show Go.Mv.Own wr w.heap.size 22 1 (.slice (some ⟨b7, o7, none⟩) j c7) j vs from HO.out.at 2 rfl) (k := 0) Ab (.slice (some ⟨b0, o0 + 1, none⟩) 64 (c0 - 1))
    rw [Nat.add_zero] at hfz how7
    have HW7 := qH how7
    have HL0 := qH hl0
    have HZ0 := qH hz0
    have HM0 := qH hm0
    have HV0 := qH hv0
    clear how7 hl0 hz0 hm0 hv0 hq0 hor
    go_wp2_with (with_reducible refine AA 143 ?_)
    refine qZ rfl rfl underlying22 eQ rfl 1 65 ⟨_, rfl⟩ rfl Ac hcap.out ?_
    rw [show fY (some ⟨b0, o0, none⟩) 1 c0 = some ⟨b0, o0 + 1, none⟩ from q0a hcap.out]
    have hos2 := HO.out.put 2 rfl (((Fr.refl (kH (.slice (some ⟨b7, o7, none⟩) j c7)) wr).setCell b7 o7 none (.slice (some ⟨b0, o0 + 1, none⟩) 64 (c0 - 1)) (fun _ => rfl))) (y := ⟨(.slice (some ⟨b7, o7, none⟩) j c7), 22, 1, j, vs.set 0 (.slice (some ⟨b0, o0 + 1, none⟩) 64 (c0 - 1))⟩) HW7.out (.inl rfl)
    have hf2 : Fr Nob w (wr.setCell ⟨b7, o7, none⟩ (.slice (some ⟨b0, o0 + 1, none⟩) 64 (c0 - 1))) := HF.out.setCell b7 o7 none _ (fun h => absurd h (by have := (Go.Mv.Own.hasB (show Go.Mv.Own wr w.heap.size 22 1 (.slice (some ⟨b7, o7, none⟩) j c7) j vs from HO.out.at 2 rfl)).1; omega))
    have HO2 := qH (show OwS (wr.setCell ⟨b7, o7, none⟩ (.slice (some ⟨b0, o0 + 1, none⟩) 64 (c0 - 1))) w.heap.size (fun _ => False) (BL6 (.slice a5 j c5) (.slice a6 j c6) (.slice (some ⟨b7, o7, none⟩) j c7) (.slice a8 j c8) (.slice a9 j c9) (.slice (some ⟨b9, o9, none⟩) j c10) j j j j j j vp vt (vs.set 0 (.slice (some ⟨b0, o0 + 1, none⟩) 64 (c0 - 1))) (ss lp) (ss lt) (ss ls) ++ es) from hos2)
    replace HF := qH hf2
    clear hos2 hf2 HW7
    go_wp2_with (with_reducible refine AA 148 ?_)
    generalize wr.setCell ⟨b7, o7, none⟩ (.slice (some ⟨b0, o0 + 1, none⟩) 64 (c0 - 1)) = w41 at *
    clear HO
    have HO := qH HO2.out
    clear HO2 hc hfz
    try unfold q0e
    have hor := gZ (show Go.Mv.Own w41 w.heap.size 9 1 (.slice (some ⟨b9, o9, none⟩) j c10) j (ss ls) from HO.out.at 5 rfl)
    have hc := fS hor 0 _ (a0t _ _ _ HL0.out)
    rw [Nat.add_zero] at hc
    clear hor
    have hI1 : (1 : Int) ≤ ((mkS l0).size : Int) := by rw [aZ, HZ0.out]; decide
    obtain ⟨⟨u2, -, hfz⟩, how9⟩ := a0x (show Go.Mv.Own w41 w.heap.size 9 1 (.slice (some ⟨b9, o9, none⟩) j c10) j (ss ls) from HO.out.at 5 rfl) (k := 0) Ab (.string ((mkS l0).extract 1 (mkS l0).size))
    rw [Nat.add_zero] at hfz how9
    have HW9 := qH how9
    clear how9
    go_wp2_with (with_reducible refine AA 152 ?_)
    have hos2 := HO.out.put 5 rfl (((Fr.refl (kH (.slice (some ⟨b9, o9, none⟩) j c10)) w41).setCell b9 o9 none (.string ((mkS l0).extract 1 (mkS l0).size)) (fun _ => rfl))) (y := ⟨(.slice (some ⟨b9, o9, none⟩) j c10), 9, 1, j, (ss ls).set 0 (.string ((mkS l0).extract 1 (mkS l0).size))⟩) HW9.out (.inl rfl)
    have hf2 : Fr Nob w (w41.setCell ⟨b9, o9, none⟩ (.string ((mkS l0).extract 1 (mkS l0).size))) := HF.out.setCell b9 o9 none _ (fun h => absurd h (by have := (Go.Mv.Own.hasB (show Go.Mv.Own w41 w.heap.size 9 1 (.slice (some ⟨b9, o9, none⟩) j c10) j (ss ls) from HO.out.at 5 rfl)).1; omega))
    have HO2 := qH (show OwS (w41.setCell ⟨b9, o9, none⟩ (.string ((mkS l0).extract 1 (mkS l0).size))) w.heap.size (fun _ => False) (BL6 (.slice a5 j c5) (.slice a6 j c6) (.slice (some ⟨b7, o7, none⟩) j c7) (.slice a8 j c8) (.slice a9 j c9) (.slice (some ⟨b9, o9, none⟩) j c10) j j j j j j vp vt (vs.set 0 (.slice (some ⟨b0, o0 + 1, none⟩) 64 (c0 - 1))) (ss lp) (ss lt) (ss (ls.set 0 (l0.drop 1))) ++ es) from by rw [show ss (ls.set 0 (l0.drop 1)) = (ss ls).set 0 (.string ((mkS l0).extract 1 (mkS l0).size)) by rw [n0u, s0l]]; exact hos2)
    replace HF := qH hf2
    clear hos2 hf2 HW9
    generalize w41.setCell ⟨b9, o9, none⟩ (.string ((mkS l0).extract 1 (mkS l0).size)) = w42 at *
    clear HO
    have HO := qH HO2.out
    clear HO2 hc hfz hI1
    try unfold q0e
    have HPP := qH (show Parts w42 vp lp from HEP.out.parts (fun x hx => HO.out.own x (List.mem_append.2 (.inr hx))) (fun x hx => Nat.le_trans (HLQ.out.z1 x hx) Ac))
    have HPT := qH (show Parts w42 vt lt from HET.out.parts (fun x hx => HO.out.own x (List.mem_append.2 (.inr hx))) (fun x hx => Nat.le_trans (HLQ.out.z2 x hx) Ac))
    have hq := vP (HO.out.own _ (List.mem_append.2 (.inr HM0.out))) (by rw [HZ0.out]; decide)
    have HPS := qH (show Parts w42 (vs.set 0 (.slice (some ⟨b0, o0 + 1, none⟩) 64 (c0 - 1))) (ls.set 0 (l0.drop 1)) from Parts.set0 (HES.out.parts (fun x hx => HO.out.own x (List.mem_append.2 (.inr hx))) (fun x hx => Nat.le_trans (HLQ.out.z3' x hx) Ac)) (g0U hq))
    clear hq
    have HZ1 := qH HLQ.out.z1
    have HZ2 := qH HLQ.out.z2
    have HZ3 := qH (show ∀ x ∈ ls.set 0 (l0.drop 1), x.length ≤ 4096 from fun x hx => (List.mem_or_eq_of_mem_set hx).elim (HLQ.out.z3' x) (fun h => by rw [h, List.length_drop, HZ0.out]; decide))
    generalize ls.set 0 (l0.drop 1) = LS2 at *
    have HALL := qH (show True from trivial)
    have R5 := qH (gZ (show Go.Mv.Own w42 w.heap.size 22 1 (.slice a5 j c5) j vp from HO.out.at 0 rfl))
    have R6 := qH (gZ (show Go.Mv.Own w42 w.heap.size 22 1 (.slice a6 j c6) j vt from HO.out.at 1 rfl))
    have R7 := qH (gZ (show Go.Mv.Own w42 w.heap.size 22 1 (.slice (some ⟨b7, o7, none⟩) j c7) j (vs.set 0 (.slice (some ⟨b0, o0 + 1, none⟩) 64 (c0 - 1))) from HO.out.at 2 rfl))
    have R8 := qH (gZ (show Go.Mv.Own w42 w.heap.size 9 1 (.slice a8 j c8) j (ss lp) from HO.out.at 3 rfl))
    have R9 := qH (gZ (show Go.Mv.Own w42 w.heap.size 9 1 (.slice a9 j c9) j (ss lt) from HO.out.at 4 rfl))
    have R10 := qH (gZ (show Go.Mv.Own w42 w.heap.size 9 1 (.slice (some ⟨b9, o9, none⟩) j c10) j (ss LS2) from HO.out.at 5 rfl))
    go_wp2_with fail
    refine (a0u _ _ _ _ _ _ _ _ _ vp vt (vs.set 0 (.slice (some ⟨b0, o0 + 1, none⟩) 64 (c0 - 1))) lp lt LS2 _ R5.out R6.out R7.out HPP.out HPT.out HPS.out).mono ?_
    rintro e' w43 ⟨rfl, hf⟩
    clear HPP HPT HPS R5 R6 R7
    replace R8 := qH (R8.out.still hf)
    replace R9 := qH (R9.out.still hf)
    replace R10 := qH (R10.out.still hf)
    replace HF := qH (HF.out.then hf)
    clear hf HO
    go_wp2_with fail
    refine (sO _ _ _ _ _ _ _ _ _ lp lt LS2 _ R8.out R9.out R10.out HZ1.out HZ2.out HZ3.out).mono ?_
    rintro e' w44 ⟨rfl, hf⟩
    clear R8 R9 R10 HZ1 HZ2 HZ3
    have hfr := HF.out.then hf
    clear hf HF
    generalize (btO lp lt LS2).1 = r at *
    generalize (btO lp lt LS2).2 = f at *
    have hJ3 : ((f : Int) != (f : Int)) = false := by simp
    by_cases hf0 : f = 0
    ·subst hf0
     cases r <;> (go_wp2_with fail; go_ret; exact ⟨rfl, hfr⟩)
    ·have hJ4 : ((f : Int) != 0) = true := by simp; exact hf0
     clear hf0 HALL
     cases r <;> (go_wp2_with fail; go_ret; exact ⟨rfl, hfr⟩)
   have hJ2 : (more == 2) = false := by simpa using hm2
   clear hm2
   have HPP := qH (show Parts wr vp lp from HEP.out.parts (fun x hx => HO.out.own x (List.mem_append.2 (.inr hx))) (fun x hx => Nat.le_trans (HLQ.out.z1 x hx) Ac))
   have HPT := qH (show Parts wr vt lt from HET.out.parts (fun x hx => HO.out.own x (List.mem_append.2 (.inr hx))) (fun x hx => Nat.le_trans (HLQ.out.z2 x hx) Ac))
   have HPS := qH (show Parts wr vs ls from HES.out.parts (fun x hx => HO.out.own x (List.mem_append.2 (.inr hx))) (fun x hx => Nat.le_trans (HLQ.out.z3' x hx) Ac))
   have HZ1 := qH HLQ.out.z1
   have HZ2 := qH HLQ.out.z2
   have HZ3 := qH HLQ.out.z3'
   have HALL := qH HLQ.out.most
   have R5 := qH (gZ (show Go.Mv.Own wr w.heap.size 22 1 (.slice a5 j c5) j vp from HO.out.at 0 rfl))
   have R6 := qH (gZ (show Go.Mv.Own wr w.heap.size 22 1 (.slice a6 j c6) j vt from HO.out.at 1 rfl))
   have R7 := qH (gZ (show Go.Mv.Own wr w.heap.size 22 1 (.slice a7 j c7) j vs from HO.out.at 2 rfl))
   have R8 := qH (gZ (show Go.Mv.Own wr w.heap.size 9 1 (.slice a8 j c8) j (ss lp) from HO.out.at 3 rfl))
   have R9 := qH (gZ (show Go.Mv.Own wr w.heap.size 9 1 (.slice a9 j c9) j (ss lt) from HO.out.at 4 rfl))
   have R10 := qH (gZ (show Go.Mv.Own wr w.heap.size 9 1 (.slice a10 j c10) j (ss ls) from HO.out.at 5 rfl))
   go_wp2_with fail
   refine (a0u _ _ _ _ _ _ _ _ _ vp vt vs lp lt ls _ R5.out R6.out R7.out HPP.out HPT.out HPS.out).mono ?_
   rintro e' w45 ⟨rfl, hf⟩
   clear HPP HPT HPS R5 R6 R7
   replace R8 := qH (R8.out.still hf)
   replace R9 := qH (R9.out.still hf)
   replace R10 := qH (R10.out.still hf)
   replace HF := qH (HF.out.then hf)
   clear hf HO
   go_wp2_with fail
   refine (sO _ _ _ _ _ _ _ _ _ lp lt ls _ R8.out R9.out R10.out HZ1.out HZ2.out HZ3.out).mono ?_
   rintro e' w46 ⟨rfl, hf⟩
   clear R8 R9 R10 HZ1 HZ2 HZ3
   have hfr := HF.out.then hf
   clear hf HF
   generalize (btO lp lt ls).1 = r at *
   generalize (btO lp lt ls).2 = f at *
   have hJ3 : ((f : Int) != (f : Int)) = false := by simp
   by_cases hf0 : f = 0
   ·subst hf0
    cases all with
    | false => cases r <;> (go_wp2_with fail; go_ret; exact ⟨rfl, hfr⟩)
    | true =>
     cases r with
     | true => go_wp2_with fail; go_ret; exact ⟨rfl, hfr⟩
     | false => exact absurd (HALL.out rfl rfl) Ac
   ·have hJ4 : ((f : Int) != 0) = true := by simp; exact hf0
    clear hf0 HALL
    cases all <;> cases r <;> (go_wp2_with fail; go_ret; exact ⟨rfl, hfr⟩)
theorem rP (a : Option Addr) (c : Nat) (l : List En) (more : Int) (w : World) (hv : Rd w a (l.length * 3) (k0b l)) : Calls prog 7 #[.slice a l.length c, .int .i64 more] w fun e w' => e = .returned (.bool true) ∧ Fr Nob w w' := by
 by_cases hl : l.length ≤ 70
 ·exact qE a c l more w hv hl
 ·have hgl : (70 : Int) < (l.length : Int) := by omega
  clear hl hv
  have HF := qH (Fr.refl Nob w)
  go_enter func7, ntmps7
  go_wp2_with fail
  go_ret
  exact ⟨rfl, HF.out⟩
end Go.Proofs.YtemcankmggmgoaaGreat
