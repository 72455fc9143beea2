/- The law NumLaws, walked: NumLaws_k0_z_n and its like; The law NumLaws, walked: NumLaws_k0_n_n and its like; The law NumLaws; From a walk that turns nothing (Fr Nob) to what a law's row asks behind the call. -/
import Derived.Test.YtmegaegedlbckaaMgNumLawsProof7
import Derived.Test.YtmegaegedlbckaaMgNumLawsProof1
import Derived.ProofKit
import Derived.OpenShut
import Derived.Carry
namespace Go.Proofs.Ytmegaegedlbckaa
open Go.RowKit Go.Mv Mvp Mvq
attribute [local irreducible] limbs lw mix cw cSub cAdd cMul foldC valFrom beN laid be32 powm montT mstep elN mdL elCells numsB numB rtV rtOk rtN Kp
set_option maxHeartbeats 32000000 in
set_option maxRecDepth 1000000 in
theorem NumLaws_k0_z_n (kd : Int) (m : Md) (hk : KindOf 0 m) (s t u : ByteArray) (w0 : World) (hs : s.size ≤ 1024) (ht : t.size ≤ 1024) (hu : u.size ≤ 1024) (A B C AB BC S P Q T AC D I PI QQ WW O : Nat) (eab : (A + B) % m.M = AB) (eba : (B + A) % m.M = AB) (ebc : (B + C) % m.M = BC) (el1 : (AB + C) % m.M = S) (er1 : (A + BC) % m.M = S) (em : A * B % m.M = P) (en : B * A % m.M = P) (ebm : B * C % m.M = Q) (el2 : P * C % m.M = T) (er2 : A * Q % m.M = T) (eac : A * C % m.M = AC) (el3 : A * BC % m.M = D) (er3 : (P + AC) % m.M = D) (ed : (AB + (m.M - B)) % m.M = A) (ezz : (A + (m.M - A)) % m.M = 0) (ex : A * 1 % m.M = A) (ei : A ^ (m.M - 2) % m.M = I) (epi : A * I % m.M = PI) (eq : A * A % m.M = QQ) (ew : rtV m.M QQ % m.M = WW) (eo : (0 + (m.M - A)) % m.M = O) (lA : A < m.M) (lB : B < m.M) (lC : C < m.M) (lAB : AB < m.M) (lBC : BC < m.M) (lP : P < m.M) (lQ : Q < m.M) (lAC : AC < m.M) (lI : I < m.M) (l1 : 1 < m.M) (l0 : 0 < m.M) (lQQ : QQ < m.M) (lWW : WW < m.M) (rA : beN s.data.toList % m.M = A) (rB : beN t.data.toList % m.M = B) (rC : beN u.data.toList % m.M = C) (hA : A = 0) (hI : I = 0) (hro : rtOk m.M QQ = true) (hev : WW % 2 = 0) (hww : WW = A ∨ WW = O) (hkd : kd < 0) (hlo : -9223372036854775808 ≤ kd ∧ kd ≤ 9223372036854775807) (hrem : -((kd + 1).tmod 2) = 0) :
    Calls Try.prog 8 #[.int .i64 kd, .string s, .string t, .string u] w0 fun e w' => e = .returned (.bool true) ∧ Fr Nob w0 w' := by
  have hgs : ¬ ((1024 : Int) < (s.size : Int)) := by omega
  have hgt : ¬ ((1024 : Int) < (t.size : Int)) := by omega
  have hgu : ¬ ((1024 : Int) < (u.size : Int)) := by omega
  have HREM := Lib.hid hrem
  clear hrem
  have HKK := Lib.hid hk
  have HEab := Lib.hid eab
  have HEba := Lib.hid eba
  have HEbc := Lib.hid ebc
  have HEl1 := Lib.hid el1
  have HEr1 := Lib.hid er1
  have HEm := Lib.hid em
  have HEn := Lib.hid en
  have HEbm := Lib.hid ebm
  have HEl2 := Lib.hid el2
  have HEr2 := Lib.hid er2
  have HEac := Lib.hid eac
  have HEl3 := Lib.hid el3
  have HEr3 := Lib.hid er3
  have HEd := Lib.hid ed
  have HEzz := Lib.hid ezz
  have HEx := Lib.hid ex
  have HEi := Lib.hid ei
  have HEpi := Lib.hid epi
  have HEq := Lib.hid eq
  have HEw := Lib.hid ew
  have HEo := Lib.hid eo
  have HLA := Lib.hid lA
  have HLB := Lib.hid lB
  have HLC := Lib.hid lC
  have HLAB := Lib.hid lAB
  have HLBC := Lib.hid lBC
  have HLP := Lib.hid lP
  have HLQ := Lib.hid lQ
  have HLAC := Lib.hid lAC
  have HLI := Lib.hid lI
  have HL1 := Lib.hid l1
  have HL0 := Lib.hid l0
  have HLQQ := Lib.hid lQQ
  have HLWW := Lib.hid lWW
  have HRA := Lib.hid rA
  have HRB := Lib.hid rB
  have HRC := Lib.hid rC
  have HSs := Lib.hid hs
  have HSt := Lib.hid ht
  have HSu := Lib.hid hu
  have HRO := Lib.hid hro
  have HWW := Lib.hid hww
  have HBIT := Lib.hid (even_bit WW hev)
  clear hk eab eba ebc el1 er1 em en ebm el2 er2 eac el3 er3 ed ezz ex ei epi eq ew eo lA lB lC lAB lBC lP lQ lAC lI l1 l0 lQQ lWW rA rB rC hs ht hu hro hev hww
  subst hA
  subst hI
  obtain ⟨hlo1, hlo2⟩ := hlo
  go_enter Try.func8, Try.ntmps8
  have HK0 := Lib.hid (Kp.nil w0)
  have HF0 := Lib.hid (Fr.refl Nob w0)
  go_wp2_with (with_reducible refine wl_stop (o := ⟨some 74, _, _, _, _, _⟩) ?_)
  rw [HREM.out]
  refine wl_bytes (q := s) rfl rfl Try.underlying9 Try.underlying29 Try.underlying5 rfl (by have := HSs.out; unfold maxLen; omega) w0.heap.size (Nat.le_refl _) ?_
  intro cap wb hown hfb hzb
  clear hzb
  have HPB := Lib.hid (BPart.ofOwn hown)
  generalize w0.heap.size = gb at *
  have HKb := Lib.hid (HK0.out.still hfb)
  have HFb := Lib.hid (HF0.out.then hfb)
  clear hown hfb HK0 HF0
  rename Hid (Kp wb _) => HK0
  rename Hid (Fr Nob w0 wb) => HF0
  go_wp2_with fail
  refine (NReduce_v 0 m HKK.out _ s.data.toList 0 _ HPB.out (by have := HSs.out; simpa using this) HRA.out).mono ?_
  rintro e w1 ⟨aa, ca, rfl, hv, hf⟩
  have HK1 := Lib.hid (show Kp w1 [(.slice aa 32 ca, 0)] from HK0.out.add hf hv)
  have HF1 := Lib.hid (HF0.out.then hf)
  clear hf hv HK0 HF0
  clear HPB
  go_wp2_with (with_reducible refine wl_stop (o := ⟨some 81, _, _, _, _, _⟩) ?_)
  refine wl_bytes (q := t) rfl rfl Try.underlying9 Try.underlying29 Try.underlying5 rfl (by have := HSt.out; unfold maxLen; omega) w1.heap.size (Nat.le_refl _) ?_
  intro cap wb hown hfb hzb
  clear hzb
  have HPB := Lib.hid (BPart.ofOwn hown)
  generalize w1.heap.size = gb at *
  have HKb := Lib.hid (HK1.out.still hfb)
  have HFb := Lib.hid (HF1.out.then hfb)
  clear hown hfb HK1 HF1
  rename Hid (Kp wb _) => HK1
  rename Hid (Fr Nob w0 wb) => HF1
  go_wp2_with fail
  refine (NReduce_v 0 m HKK.out _ t.data.toList B _ HPB.out (by have := HSt.out; simpa using this) HRB.out).mono ?_
  rintro e w2 ⟨ab, cb, rfl, hv, hf⟩
  have HK2 := Lib.hid (show Kp w2 [(.slice aa 32 ca, 0), (.slice ab 32 cb, B)] from HK1.out.add hf hv)
  have HF2 := Lib.hid (HF1.out.then hf)
  clear hf hv HK1 HF1
  clear HPB
  go_wp2_with (with_reducible refine wl_stop (o := ⟨some 88, _, _, _, _, _⟩) ?_)
  refine wl_bytes (q := u) rfl rfl Try.underlying9 Try.underlying29 Try.underlying5 rfl (by have := HSu.out; unfold maxLen; omega) w2.heap.size (Nat.le_refl _) ?_
  intro cap wb hown hfb hzb
  clear hzb
  have HPB := Lib.hid (BPart.ofOwn hown)
  generalize w2.heap.size = gb at *
  have HKb := Lib.hid (HK2.out.still hfb)
  have HFb := Lib.hid (HF2.out.then hfb)
  clear hown hfb HK2 HF2
  rename Hid (Kp wb _) => HK2
  rename Hid (Fr Nob w0 wb) => HF2
  go_wp2_with fail
  refine (NReduce_v 0 m HKK.out _ u.data.toList C _ HPB.out (by have := HSu.out; simpa using this) HRC.out).mono ?_
  rintro e w3 ⟨ac, cc, rfl, hv, hf⟩
  have HK3 := Lib.hid (show Kp w3 [(.slice aa 32 ca, 0), (.slice ab 32 cb, B), (.slice ac 32 cc, C)] from HK2.out.add hf hv)
  have HF3 := Lib.hid (HF2.out.then hf)
  clear hf hv HK2 HF2
  clear HPB
  go_wp2_with (with_reducible refine wl_stop (o := ⟨some 107, _, _, _, _, _⟩) ?_)
  refine wl_make rfl rfl Try.underlying29 info_u8 rfl rfl rfl 32 32 (by simp) (by simp) (by omega) (by omega) (by unfold maxLen; omega) ?_
  intro w4 hgz hf hzz
  clear hzz
  have hv : BPart w4 (.slice (some ⟨w3.heap.size, 0, none⟩) 32 32) (be32 0) := ⟨_, 32, 32, rfl, by omega, by rw [be32_zero]; exact Rd.whole hgz⟩
  have HGZ := Lib.hid hgz
  clear hgz
  generalize haz : (some (⟨w3.heap.size, 0, none⟩ : Addr)) = az at *
  clear haz HGZ
  have HK4 := Lib.hid (show Kp w4 [(.slice aa 32 ca, 0), (.slice ab 32 cb, B), (.slice ac 32 cc, C), (.slice az 32 32, 0)] from HK3.out.add hf hv)
  have HF4 := Lib.hid (HF3.out.then hf)
  clear hf hv HK3 HF3
  go_wp2_with (with_reducible refine wl_stop (o := ⟨some 108, _, _, _, _, _⟩) ?_)
  refine wl_make rfl rfl Try.underlying29 info_u8 rfl rfl rfl 32 32 (by simp) (by simp) (by omega) (by omega) (by unfold maxLen; omega) ?_
  intro wm hgo hfm hzo
  clear hzo
  generalize hgw : w4.heap.size = go at *
  have HGW := Lib.hid hgw
  clear hgw
  obtain ⟨z31, hz1, hz2⟩ := hgo.ready (i := 31) (by simp)
  have HGO := Lib.hid hgo
  have HFM := Lib.hid hfm
  clear hgo hfm
  go_wp2_with fail
  obtain ⟨w5, hwn⟩ : ∃ x, x = wm.setCell ⟨go, 31, none⟩ (.int .u8 1) := ⟨_, rfl⟩
  have hgs := HGO.out.set 31 (.int .u8 1)
  have hfs : Fr Nob w4 (wm.setCell ⟨go, 31, none⟩ (.int .u8 1)) := HFM.out.trans ((Fr.refl (One go) wm).setCell go 31 none _ (fun _ => rfl)) (fun j hj hjg => by have e : j = go := hjg; have := HGW.out; omega)
  rw [← hwn] at hgs hfs ⊢
  clear hwn hz1 hz2
  have hf := hfs
  clear hfs
  have hv : BPart w5 (.slice (some ⟨go, 0, none⟩) 32 32) (be32 1) := ⟨_, 32, 32, rfl, by omega, by rw [be32_one]; exact Rd.whole hgs⟩
  clear hgs HGO HFM HGW
  generalize (some (⟨go, 0, none⟩ : Addr)) = aone at *
  have HK5 := Lib.hid (show Kp w5 [(.slice aa 32 ca, 0), (.slice ab 32 cb, B), (.slice ac 32 cc, C), (.slice az 32 32, 0), (.slice aone 32 32, 1)] from HK4.out.add hf hv)
  have HF5 := Lib.hid (HF4.out.then hf)
  clear hf hv HK4 HF4
  refine (NAdd_v 0 m HKK.out _ _ 0 B AB _ (HK5.out.get 0 rfl) (HK5.out.get 1 rfl) HL0.out HLB.out HEab.out).mono ?_
  rintro e w6 ⟨aab, cab, rfl, hv, hf⟩
  have HK6 := Lib.hid (show Kp w6 [(.slice aa 32 ca, 0), (.slice ab 32 cb, B), (.slice ac 32 cc, C), (.slice az 32 32, 0), (.slice aone 32 32, 1), (.slice aab 32 cab, AB)] from HK5.out.add hf hv)
  have HF6 := Lib.hid (HF5.out.then hf)
  clear hf hv HK5 HF5
  go_wp2_with fail
  refine (NAdd_v 0 m HKK.out _ _ B 0 AB _ (HK6.out.get 1 rfl) (HK6.out.get 0 rfl) HLB.out HL0.out HEba.out).mono ?_
  rintro e w7 ⟨aba, cba, rfl, hv, hf⟩
  have HK7 := Lib.hid (show Kp w7 [(.slice aa 32 ca, 0), (.slice ab 32 cb, B), (.slice ac 32 cc, C), (.slice az 32 32, 0), (.slice aone 32 32, 1), (.slice aab 32 cab, AB), (.slice aba 32 cba, AB)] from HK6.out.add hf hv)
  have HF7 := Lib.hid (HF6.out.then hf)
  clear hf hv HK6 HF6
  go_wp2_with fail
  refine (NAdd_v 0 m HKK.out _ _ B C BC _ (HK7.out.get 1 rfl) (HK7.out.get 2 rfl) HLB.out HLC.out HEbc.out).mono ?_
  rintro e w8 ⟨abc, cbc, rfl, hv, hf⟩
  have HK8 := Lib.hid (show Kp w8 [(.slice aa 32 ca, 0), (.slice ab 32 cb, B), (.slice ac 32 cc, C), (.slice az 32 32, 0), (.slice aone 32 32, 1), (.slice aab 32 cab, AB), (.slice aba 32 cba, AB), (.slice abc 32 cbc, BC)] from HK7.out.add hf hv)
  have HF8 := Lib.hid (HF7.out.then hf)
  clear hf hv HK7 HF7
  go_wp2_with fail
  refine (NAdd_v 0 m HKK.out _ _ AB C S _ (HK8.out.get 5 rfl) (HK8.out.get 2 rfl) HLAB.out HLC.out HEl1.out).mono ?_
  rintro e w9 ⟨al1, cl1, rfl, hv, hf⟩
  have HK9 := Lib.hid (show Kp w9 [(.slice aa 32 ca, 0), (.slice ab 32 cb, B), (.slice ac 32 cc, C), (.slice az 32 32, 0), (.slice aone 32 32, 1), (.slice aab 32 cab, AB), (.slice aba 32 cba, AB), (.slice abc 32 cbc, BC), (.slice al1 32 cl1, S)] from HK8.out.add hf hv)
  have HF9 := Lib.hid (HF8.out.then hf)
  clear hf hv HK8 HF8
  go_wp2_with fail
  refine (NAdd_v 0 m HKK.out _ _ 0 BC S _ (HK9.out.get 0 rfl) (HK9.out.get 7 rfl) HL0.out HLBC.out HEr1.out).mono ?_
  rintro e w10 ⟨ar1, cr1, rfl, hv, hf⟩
  have HK10 := Lib.hid (show Kp w10 [(.slice aa 32 ca, 0), (.slice ab 32 cb, B), (.slice ac 32 cc, C), (.slice az 32 32, 0), (.slice aone 32 32, 1), (.slice aab 32 cab, AB), (.slice aba 32 cba, AB), (.slice abc 32 cbc, BC), (.slice al1 32 cl1, S), (.slice ar1 32 cr1, S)] from HK9.out.add hf hv)
  have HF10 := Lib.hid (HF9.out.then hf)
  clear hf hv HK9 HF9
  have hc0 := run_string (P := Try.prog) (HK10.out.rd 5 rfl) cab Try.underlying29 Try.underlying5 Try.underlying9
  have hc1 := run_string (P := Try.prog) (HK10.out.rd 6 rfl) cba Try.underlying29 Try.underlying5 Try.underlying9
  have hc2 := run_string (P := Try.prog) (HK10.out.rd 8 rfl) cl1 Try.underlying29 Try.underlying5 Try.underlying9
  have hc3 := run_string (P := Try.prog) (HK10.out.rd 9 rfl) cr1 Try.underlying29 Try.underlying5 Try.underlying9
  go_wp2_with fail
  refine (NMul_v 0 m HKK.out _ _ 0 B P _ (HK10.out.get 0 rfl) (HK10.out.get 1 rfl) HL0.out HLB.out HEm.out).mono ?_
  rintro e w11 ⟨am, cm, rfl, hv, hf⟩
  have HK11 := Lib.hid (show Kp w11 [(.slice aa 32 ca, 0), (.slice ab 32 cb, B), (.slice ac 32 cc, C), (.slice az 32 32, 0), (.slice aone 32 32, 1), (.slice aab 32 cab, AB), (.slice aba 32 cba, AB), (.slice abc 32 cbc, BC), (.slice al1 32 cl1, S), (.slice ar1 32 cr1, S), (.slice am 32 cm, P)] from HK10.out.add hf hv)
  have HF11 := Lib.hid (HF10.out.then hf)
  clear hf hv HK10 HF10
  clear hc0 hc1 hc2 hc3
  go_wp2_with fail
  refine (NMul_v 0 m HKK.out _ _ B 0 P _ (HK11.out.get 1 rfl) (HK11.out.get 0 rfl) HLB.out HL0.out HEn.out).mono ?_
  rintro e w12 ⟨an, cn, rfl, hv, hf⟩
  have HK12 := Lib.hid (show Kp w12 [(.slice aa 32 ca, 0), (.slice ab 32 cb, B), (.slice ac 32 cc, C), (.slice az 32 32, 0), (.slice aone 32 32, 1), (.slice aab 32 cab, AB), (.slice aba 32 cba, AB), (.slice abc 32 cbc, BC), (.slice al1 32 cl1, S), (.slice ar1 32 cr1, S), (.slice am 32 cm, P), (.slice an 32 cn, P)] from HK11.out.add hf hv)
  have HF12 := Lib.hid (HF11.out.then hf)
  clear hf hv HK11 HF11
  go_wp2_with fail
  refine (NMul_v 0 m HKK.out _ _ B C Q _ (HK12.out.get 1 rfl) (HK12.out.get 2 rfl) HLB.out HLC.out HEbm.out).mono ?_
  rintro e w13 ⟨abm, cbm, rfl, hv, hf⟩
  have HK13 := Lib.hid (show Kp w13 [(.slice aa 32 ca, 0), (.slice ab 32 cb, B), (.slice ac 32 cc, C), (.slice az 32 32, 0), (.slice aone 32 32, 1), (.slice aab 32 cab, AB), (.slice aba 32 cba, AB), (.slice abc 32 cbc, BC), (.slice al1 32 cl1, S), (.slice ar1 32 cr1, S), (.slice am 32 cm, P), (.slice an 32 cn, P), (.slice abm 32 cbm, Q)] from HK12.out.add hf hv)
  have HF13 := Lib.hid (HF12.out.then hf)
  clear hf hv HK12 HF12
  go_wp2_with fail
  refine (NMul_v 0 m HKK.out _ _ P C T _ (HK13.out.get 10 rfl) (HK13.out.get 2 rfl) HLP.out HLC.out HEl2.out).mono ?_
  rintro e w14 ⟨al2, cl2, rfl, hv, hf⟩
  have HK14 := Lib.hid (show Kp w14 [(.slice aa 32 ca, 0), (.slice ab 32 cb, B), (.slice ac 32 cc, C), (.slice az 32 32, 0), (.slice aone 32 32, 1), (.slice aab 32 cab, AB), (.slice aba 32 cba, AB), (.slice abc 32 cbc, BC), (.slice al1 32 cl1, S), (.slice ar1 32 cr1, S), (.slice am 32 cm, P), (.slice an 32 cn, P), (.slice abm 32 cbm, Q), (.slice al2 32 cl2, T)] from HK13.out.add hf hv)
  have HF14 := Lib.hid (HF13.out.then hf)
  clear hf hv HK13 HF13
  go_wp2_with fail
  refine (NMul_v 0 m HKK.out _ _ 0 Q T _ (HK14.out.get 0 rfl) (HK14.out.get 12 rfl) HL0.out HLQ.out HEr2.out).mono ?_
  rintro e w15 ⟨ar2, cr2, rfl, hv, hf⟩
  have HK15 := Lib.hid (show Kp w15 [(.slice aa 32 ca, 0), (.slice ab 32 cb, B), (.slice ac 32 cc, C), (.slice az 32 32, 0), (.slice aone 32 32, 1), (.slice aab 32 cab, AB), (.slice aba 32 cba, AB), (.slice abc 32 cbc, BC), (.slice al1 32 cl1, S), (.slice ar1 32 cr1, S), (.slice am 32 cm, P), (.slice an 32 cn, P), (.slice abm 32 cbm, Q), (.slice al2 32 cl2, T), (.slice ar2 32 cr2, T)] from HK14.out.add hf hv)
  have HF15 := Lib.hid (HF14.out.then hf)
  clear hf hv HK14 HF14
  have hc0 := run_string (P := Try.prog) (HK15.out.rd 10 rfl) cm Try.underlying29 Try.underlying5 Try.underlying9
  have hc1 := run_string (P := Try.prog) (HK15.out.rd 11 rfl) cn Try.underlying29 Try.underlying5 Try.underlying9
  have hc2 := run_string (P := Try.prog) (HK15.out.rd 13 rfl) cl2 Try.underlying29 Try.underlying5 Try.underlying9
  have hc3 := run_string (P := Try.prog) (HK15.out.rd 14 rfl) cr2 Try.underlying29 Try.underlying5 Try.underlying9
  go_wp2_with fail
  refine (NMul_v 0 m HKK.out _ _ 0 C AC _ (HK15.out.get 0 rfl) (HK15.out.get 2 rfl) HL0.out HLC.out HEac.out).mono ?_
  rintro e w16 ⟨aac, cac, rfl, hv, hf⟩
  have HK16 := Lib.hid (show Kp w16 [(.slice aa 32 ca, 0), (.slice ab 32 cb, B), (.slice ac 32 cc, C), (.slice az 32 32, 0), (.slice aone 32 32, 1), (.slice aab 32 cab, AB), (.slice aba 32 cba, AB), (.slice abc 32 cbc, BC), (.slice al1 32 cl1, S), (.slice ar1 32 cr1, S), (.slice am 32 cm, P), (.slice an 32 cn, P), (.slice abm 32 cbm, Q), (.slice al2 32 cl2, T), (.slice ar2 32 cr2, T), (.slice aac 32 cac, AC)] from HK15.out.add hf hv)
  have HF16 := Lib.hid (HF15.out.then hf)
  clear hf hv HK15 HF15
  clear hc0 hc1 hc2 hc3
  go_wp2_with fail
  refine (NMul_v 0 m HKK.out _ _ 0 BC D _ (HK16.out.get 0 rfl) (HK16.out.get 7 rfl) HL0.out HLBC.out HEl3.out).mono ?_
  rintro e w17 ⟨al3, cl3, rfl, hv, hf⟩
  have HK17 := Lib.hid (show Kp w17 [(.slice aa 32 ca, 0), (.slice ab 32 cb, B), (.slice ac 32 cc, C), (.slice az 32 32, 0), (.slice aone 32 32, 1), (.slice aab 32 cab, AB), (.slice aba 32 cba, AB), (.slice abc 32 cbc, BC), (.slice al1 32 cl1, S), (.slice ar1 32 cr1, S), (.slice am 32 cm, P), (.slice an 32 cn, P), (.slice abm 32 cbm, Q), (.slice al2 32 cl2, T), (.slice ar2 32 cr2, T), (.slice aac 32 cac, AC), (.slice al3 32 cl3, D)] from HK16.out.add hf hv)
  have HF17 := Lib.hid (HF16.out.then hf)
  clear hf hv HK16 HF16
  go_wp2_with fail
  refine (NAdd_v 0 m HKK.out _ _ P AC D _ (HK17.out.get 10 rfl) (HK17.out.get 15 rfl) HLP.out HLAC.out HEr3.out).mono ?_
  rintro e w18 ⟨ar3, cr3, rfl, hv, hf⟩
  have HK18 := Lib.hid (show Kp w18 [(.slice aa 32 ca, 0), (.slice ab 32 cb, B), (.slice ac 32 cc, C), (.slice az 32 32, 0), (.slice aone 32 32, 1), (.slice aab 32 cab, AB), (.slice aba 32 cba, AB), (.slice abc 32 cbc, BC), (.slice al1 32 cl1, S), (.slice ar1 32 cr1, S), (.slice am 32 cm, P), (.slice an 32 cn, P), (.slice abm 32 cbm, Q), (.slice al2 32 cl2, T), (.slice ar2 32 cr2, T), (.slice aac 32 cac, AC), (.slice al3 32 cl3, D), (.slice ar3 32 cr3, D)] from HK17.out.add hf hv)
  have HF18 := Lib.hid (HF17.out.then hf)
  clear hf hv HK17 HF17
  have hc0 := run_string (P := Try.prog) (HK18.out.rd 16 rfl) cl3 Try.underlying29 Try.underlying5 Try.underlying9
  have hc1 := run_string (P := Try.prog) (HK18.out.rd 17 rfl) cr3 Try.underlying29 Try.underlying5 Try.underlying9
  go_wp2_with fail
  refine (NSub_v 0 m HKK.out _ _ AB B 0 _ (HK18.out.get 5 rfl) (HK18.out.get 1 rfl) HLAB.out HLB.out HEd.out).mono ?_
  rintro e w19 ⟨ad, cd, rfl, hv, hf⟩
  have HK19 := Lib.hid (show Kp w19 [(.slice aa 32 ca, 0), (.slice ab 32 cb, B), (.slice ac 32 cc, C), (.slice az 32 32, 0), (.slice aone 32 32, 1), (.slice aab 32 cab, AB), (.slice aba 32 cba, AB), (.slice abc 32 cbc, BC), (.slice al1 32 cl1, S), (.slice ar1 32 cr1, S), (.slice am 32 cm, P), (.slice an 32 cn, P), (.slice abm 32 cbm, Q), (.slice al2 32 cl2, T), (.slice ar2 32 cr2, T), (.slice aac 32 cac, AC), (.slice al3 32 cl3, D), (.slice ar3 32 cr3, D), (.slice ad 32 cd, 0)] from HK18.out.add hf hv)
  have HF19 := Lib.hid (HF18.out.then hf)
  clear hf hv HK18 HF18
  clear hc0 hc1
  go_wp2_with fail
  refine (NSub_v 0 m HKK.out _ _ 0 0 0 _ (HK19.out.get 0 rfl) (HK19.out.get 0 rfl) HL0.out HL0.out HEzz.out).mono ?_
  rintro e w20 ⟨azz, czz, rfl, hv, hf⟩
  have HK20 := Lib.hid (show Kp w20 [(.slice aa 32 ca, 0), (.slice ab 32 cb, B), (.slice ac 32 cc, C), (.slice az 32 32, 0), (.slice aone 32 32, 1), (.slice aab 32 cab, AB), (.slice aba 32 cba, AB), (.slice abc 32 cbc, BC), (.slice al1 32 cl1, S), (.slice ar1 32 cr1, S), (.slice am 32 cm, P), (.slice an 32 cn, P), (.slice abm 32 cbm, Q), (.slice al2 32 cl2, T), (.slice ar2 32 cr2, T), (.slice aac 32 cac, AC), (.slice al3 32 cl3, D), (.slice ar3 32 cr3, D), (.slice ad 32 cd, 0), (.slice azz 32 czz, 0)] from HK19.out.add hf hv)
  have HF20 := Lib.hid (HF19.out.then hf)
  clear hf hv HK19 HF19
  go_wp2_with fail
  refine (NMul_v 0 m HKK.out _ _ 0 1 0 _ (HK20.out.get 0 rfl) (HK20.out.get 4 rfl) HL0.out HL1.out HEx.out).mono ?_
  rintro e w21 ⟨ax, cx, rfl, hv, hf⟩
  have HK21 := Lib.hid (show Kp w21 [(.slice aa 32 ca, 0), (.slice ab 32 cb, B), (.slice ac 32 cc, C), (.slice az 32 32, 0), (.slice aone 32 32, 1), (.slice aab 32 cab, AB), (.slice aba 32 cba, AB), (.slice abc 32 cbc, BC), (.slice al1 32 cl1, S), (.slice ar1 32 cr1, S), (.slice am 32 cm, P), (.slice an 32 cn, P), (.slice abm 32 cbm, Q), (.slice al2 32 cl2, T), (.slice ar2 32 cr2, T), (.slice aac 32 cac, AC), (.slice al3 32 cl3, D), (.slice ar3 32 cr3, D), (.slice ad 32 cd, 0), (.slice azz 32 czz, 0), (.slice ax 32 cx, 0)] from HK20.out.add hf hv)
  have HF21 := Lib.hid (HF20.out.then hf)
  clear hf hv HK20 HF20
  have hc0 := run_string (P := Try.prog) (HK21.out.rd 18 rfl) cd Try.underlying29 Try.underlying5 Try.underlying9
  have hc1 := run_string (P := Try.prog) (HK21.out.rd 0 rfl) ca Try.underlying29 Try.underlying5 Try.underlying9
  have hc2 := run_string (P := Try.prog) (HK21.out.rd 19 rfl) czz Try.underlying29 Try.underlying5 Try.underlying9
  have hc3 := run_string (P := Try.prog) (HK21.out.rd 3 rfl) 32 Try.underlying29 Try.underlying5 Try.underlying9
  have hc4 := run_string (P := Try.prog) (HK21.out.rd 20 rfl) cx Try.underlying29 Try.underlying5 Try.underlying9
  go_wp2_with fail
  refine (NInv_v 0 m HKK.out _ 0 0 _ (HK21.out.get 0 rfl) HL0.out HEi.out).mono ?_
  rintro e w22 ⟨ai, ci, rfl, hv, hf⟩
  have HK22 := Lib.hid (show Kp w22 [(.slice aa 32 ca, 0), (.slice ab 32 cb, B), (.slice ac 32 cc, C), (.slice az 32 32, 0), (.slice aone 32 32, 1), (.slice aab 32 cab, AB), (.slice aba 32 cba, AB), (.slice abc 32 cbc, BC), (.slice al1 32 cl1, S), (.slice ar1 32 cr1, S), (.slice am 32 cm, P), (.slice an 32 cn, P), (.slice abm 32 cbm, Q), (.slice al2 32 cl2, T), (.slice ar2 32 cr2, T), (.slice aac 32 cac, AC), (.slice al3 32 cl3, D), (.slice ar3 32 cr3, D), (.slice ad 32 cd, 0), (.slice azz 32 czz, 0), (.slice ax 32 cx, 0), (.slice ai 32 ci, 0)] from HK21.out.add hf hv)
  have HF22 := Lib.hid (HF21.out.then hf)
  clear hf hv HK21 HF21
  clear hc0 hc1 hc2 hc3 hc4
  go_wp2_with fail
  refine (NMul_v 0 m HKK.out _ _ 0 0 PI _ (HK22.out.get 0 rfl) (HK22.out.get 21 rfl) HL0.out HL0.out HEpi.out).mono ?_
  rintro e w23 ⟨api, cpi, rfl, hv, hf⟩
  have HK23 := Lib.hid (show Kp w23 [(.slice aa 32 ca, 0), (.slice ab 32 cb, B), (.slice ac 32 cc, C), (.slice az 32 32, 0), (.slice aone 32 32, 1), (.slice aab 32 cab, AB), (.slice aba 32 cba, AB), (.slice abc 32 cbc, BC), (.slice al1 32 cl1, S), (.slice ar1 32 cr1, S), (.slice am 32 cm, P), (.slice an 32 cn, P), (.slice abm 32 cbm, Q), (.slice al2 32 cl2, T), (.slice ar2 32 cr2, T), (.slice aac 32 cac, AC), (.slice al3 32 cl3, D), (.slice ar3 32 cr3, D), (.slice ad 32 cd, 0), (.slice azz 32 czz, 0), (.slice ax 32 cx, 0), (.slice ai 32 ci, 0), (.slice api 32 cpi, PI)] from HK22.out.add hf hv)
  have HF23 := Lib.hid (HF22.out.then hf)
  clear hf hv HK22 HF22
  have hc0 := run_string (P := Try.prog) (HK23.out.rd 0 rfl) ca Try.underlying29 Try.underlying5 Try.underlying9
  have hc1 := run_string (P := Try.prog) (HK23.out.rd 3 rfl) 32 Try.underlying29 Try.underlying5 Try.underlying9
  have hc2 := run_string (P := Try.prog) (HK23.out.rd 22 rfl) cpi Try.underlying29 Try.underlying5 Try.underlying9
  have hc3 := run_string (P := Try.prog) (HK23.out.rd 4 rfl) 32 Try.underlying29 Try.underlying5 Try.underlying9
  have hc4 := run_string (P := Try.prog) (HK23.out.rd 21 rfl) ci Try.underlying29 Try.underlying5 Try.underlying9
  go_wp2_with fail
  refine (NMul_v 0 m HKK.out _ _ 0 0 QQ _ (HK23.out.get 0 rfl) (HK23.out.get 0 rfl) HL0.out HL0.out HEq.out).mono ?_
  rintro e w24 ⟨aq, cq, rfl, hv, hf⟩
  have HK24 := Lib.hid (show Kp w24 [(.slice aa 32 ca, 0), (.slice ab 32 cb, B), (.slice ac 32 cc, C), (.slice az 32 32, 0), (.slice aone 32 32, 1), (.slice aab 32 cab, AB), (.slice aba 32 cba, AB), (.slice abc 32 cbc, BC), (.slice al1 32 cl1, S), (.slice ar1 32 cr1, S), (.slice am 32 cm, P), (.slice an 32 cn, P), (.slice abm 32 cbm, Q), (.slice al2 32 cl2, T), (.slice ar2 32 cr2, T), (.slice aac 32 cac, AC), (.slice al3 32 cl3, D), (.slice ar3 32 cr3, D), (.slice ad 32 cd, 0), (.slice azz 32 czz, 0), (.slice ax 32 cx, 0), (.slice ai 32 ci, 0), (.slice api 32 cpi, PI), (.slice aq 32 cq, QQ)] from HK23.out.add hf hv)
  have HF24 := Lib.hid (HF23.out.then hf)
  clear hf hv HK23 HF23
  clear hc0 hc1 hc2 hc3 hc4
  go_wp2_with fail
  refine (NSqrt_v m HKK.out _ QQ WW _ (HK24.out.get 23 rfl) HLQQ.out HRO.out HEw.out).mono ?_
  rintro e w25 ⟨aw, cw, rfl, hv, hf⟩
  have HK25 := Lib.hid (show Kp w25 [(.slice aa 32 ca, 0), (.slice ab 32 cb, B), (.slice ac 32 cc, C), (.slice az 32 32, 0), (.slice aone 32 32, 1), (.slice aab 32 cab, AB), (.slice aba 32 cba, AB), (.slice abc 32 cbc, BC), (.slice al1 32 cl1, S), (.slice ar1 32 cr1, S), (.slice am 32 cm, P), (.slice an 32 cn, P), (.slice abm 32 cbm, Q), (.slice al2 32 cl2, T), (.slice ar2 32 cr2, T), (.slice aac 32 cac, AC), (.slice al3 32 cl3, D), (.slice ar3 32 cr3, D), (.slice ad 32 cd, 0), (.slice azz 32 czz, 0), (.slice ax 32 cx, 0), (.slice ai 32 ci, 0), (.slice api 32 cpi, PI), (.slice aq 32 cq, QQ), (.slice aw 32 cw, WW)] from HK24.out.add hf hv)
  have HF25 := Lib.hid (HF24.out.then hf)
  clear hf hv HK24 HF24
  go_wp2_with fail
  refine (NSub_v 0 m HKK.out _ _ 0 0 O _ (HK25.out.get 3 rfl) (HK25.out.get 0 rfl) HL0.out HL0.out HEo.out).mono ?_
  rintro e w26 ⟨ao, co, rfl, hv, hf⟩
  have HK26 := Lib.hid (show Kp w26 [(.slice aa 32 ca, 0), (.slice ab 32 cb, B), (.slice ac 32 cc, C), (.slice az 32 32, 0), (.slice aone 32 32, 1), (.slice aab 32 cab, AB), (.slice aba 32 cba, AB), (.slice abc 32 cbc, BC), (.slice al1 32 cl1, S), (.slice ar1 32 cr1, S), (.slice am 32 cm, P), (.slice an 32 cn, P), (.slice abm 32 cbm, Q), (.slice al2 32 cl2, T), (.slice ar2 32 cr2, T), (.slice aac 32 cac, AC), (.slice al3 32 cl3, D), (.slice ar3 32 cr3, D), (.slice ad 32 cd, 0), (.slice azz 32 czz, 0), (.slice ax 32 cx, 0), (.slice ai 32 ci, 0), (.slice api 32 cpi, PI), (.slice aq 32 cq, QQ), (.slice aw 32 cw, WW), (.slice ao 32 co, O)] from HK25.out.add hf hv)
  have HF26 := Lib.hid (HF25.out.then hf)
  clear hf hv HK25 HF25
  have hc0 := run_string (P := Try.prog) (HK26.out.rd 24 rfl) cw Try.underlying29 Try.underlying5 Try.underlying9
  have hc1 := run_string (P := Try.prog) (HK26.out.rd 0 rfl) ca Try.underlying29 Try.underlying5 Try.underlying9
  have hc2 := run_string (P := Try.prog) (HK26.out.rd 25 rfl) co Try.underlying29 Try.underlying5 Try.underlying9
  obtain ⟨bw, ow, haw, -⟩ := (HK26.out.rd 24 rfl).at (by omega)
  subst haw
  have hcl := rd_cell (HK26.out.rd 24 rfl) 31 (.int .u8 ((UInt8.ofNat WW).toNat : Int)) (bs_at (be32_low WW))
  have hbit : bits .and .u8 ((UInt8.ofNat WW).toNat : Int) 1 = 0 := HBIT.out
  have HFE := Lib.hid HF26.out
  by_cases hw : WW = 0
  · subst hw
    go_wp2_with fail
    go_ret
    exact ⟨rfl, HFE.out⟩
  · have hsn := str_ne (Nat.lt_trans HLWW.out HKK.out.ok.lt) (Nat.lt_trans HL0.out HKK.out.ok.lt) hw
    have ho := HWW.out.resolve_left hw
    clear hw
    subst ho
    go_wp2_with fail
    go_ret
    exact ⟨rfl, HFE.out⟩

set_option maxHeartbeats 32000000 in
set_option maxRecDepth 1000000 in
theorem NumLaws_k0_z_p (kd : Int) (m : Md) (hk : KindOf 0 m) (s t u : ByteArray) (w0 : World) (hs : s.size ≤ 1024) (ht : t.size ≤ 1024) (hu : u.size ≤ 1024) (A B C AB BC S P Q T AC D I PI QQ WW O : Nat) (eab : (A + B) % m.M = AB) (eba : (B + A) % m.M = AB) (ebc : (B + C) % m.M = BC) (el1 : (AB + C) % m.M = S) (er1 : (A + BC) % m.M = S) (em : A * B % m.M = P) (en : B * A % m.M = P) (ebm : B * C % m.M = Q) (el2 : P * C % m.M = T) (er2 : A * Q % m.M = T) (eac : A * C % m.M = AC) (el3 : A * BC % m.M = D) (er3 : (P + AC) % m.M = D) (ed : (AB + (m.M - B)) % m.M = A) (ezz : (A + (m.M - A)) % m.M = 0) (ex : A * 1 % m.M = A) (ei : A ^ (m.M - 2) % m.M = I) (epi : A * I % m.M = PI) (eq : A * A % m.M = QQ) (ew : rtV m.M QQ % m.M = WW) (eo : (0 + (m.M - A)) % m.M = O) (lA : A < m.M) (lB : B < m.M) (lC : C < m.M) (lAB : AB < m.M) (lBC : BC < m.M) (lP : P < m.M) (lQ : Q < m.M) (lAC : AC < m.M) (lI : I < m.M) (l1 : 1 < m.M) (l0 : 0 < m.M) (lQQ : QQ < m.M) (lWW : WW < m.M) (rA : beN s.data.toList % m.M = A) (rB : beN t.data.toList % m.M = B) (rC : beN u.data.toList % m.M = C) (hA : A = 0) (hI : I = 0) (hro : rtOk m.M QQ = true) (hev : WW % 2 = 0) (hww : WW = A ∨ WW = O) (hkd : ¬ (kd < 0)) (hlo : -9223372036854775808 ≤ kd ∧ kd ≤ 9223372036854775807) (hrem : kd % 2 = 0) :
    Calls Try.prog 8 #[.int .i64 kd, .string s, .string t, .string u] w0 fun e w' => e = .returned (.bool true) ∧ Fr Nob w0 w' := by
  have hgs : ¬ ((1024 : Int) < (s.size : Int)) := by omega
  have hgt : ¬ ((1024 : Int) < (t.size : Int)) := by omega
  have hgu : ¬ ((1024 : Int) < (u.size : Int)) := by omega
  have HREM := Lib.hid hrem
  clear hrem
  have HKK := Lib.hid hk
  have HEab := Lib.hid eab
  have HEba := Lib.hid eba
  have HEbc := Lib.hid ebc
  have HEl1 := Lib.hid el1
  have HEr1 := Lib.hid er1
  have HEm := Lib.hid em
  have HEn := Lib.hid en
  have HEbm := Lib.hid ebm
  have HEl2 := Lib.hid el2
  have HEr2 := Lib.hid er2
  have HEac := Lib.hid eac
  have HEl3 := Lib.hid el3
  have HEr3 := Lib.hid er3
  have HEd := Lib.hid ed
  have HEzz := Lib.hid ezz
  have HEx := Lib.hid ex
  have HEi := Lib.hid ei
  have HEpi := Lib.hid epi
  have HEq := Lib.hid eq
  have HEw := Lib.hid ew
  have HEo := Lib.hid eo
  have HLA := Lib.hid lA
  have HLB := Lib.hid lB
  have HLC := Lib.hid lC
  have HLAB := Lib.hid lAB
  have HLBC := Lib.hid lBC
  have HLP := Lib.hid lP
  have HLQ := Lib.hid lQ
  have HLAC := Lib.hid lAC
  have HLI := Lib.hid lI
  have HL1 := Lib.hid l1
  have HL0 := Lib.hid l0
  have HLQQ := Lib.hid lQQ
  have HLWW := Lib.hid lWW
  have HRA := Lib.hid rA
  have HRB := Lib.hid rB
  have HRC := Lib.hid rC
  have HSs := Lib.hid hs
  have HSt := Lib.hid ht
  have HSu := Lib.hid hu
  have HRO := Lib.hid hro
  have HWW := Lib.hid hww
  have HBIT := Lib.hid (even_bit WW hev)
  clear hk eab eba ebc el1 er1 em en ebm el2 er2 eac el3 er3 ed ezz ex ei epi eq ew eo lA lB lC lAB lBC lP lQ lAC lI l1 l0 lQQ lWW rA rB rC hs ht hu hro hev hww
  subst hA
  subst hI
  obtain ⟨hlo1, hlo2⟩ := hlo
  go_enter Try.func8, Try.ntmps8
  have HK0 := Lib.hid (Kp.nil w0)
  have HF0 := Lib.hid (Fr.refl Nob w0)
  go_wp2_with (with_reducible refine wl_stop (o := ⟨some 74, _, _, _, _, _⟩) ?_)
  rw [HREM.out]
  refine wl_bytes (q := s) rfl rfl Try.underlying9 Try.underlying29 Try.underlying5 rfl (by have := HSs.out; unfold maxLen; omega) w0.heap.size (Nat.le_refl _) ?_
  intro cap wb hown hfb hzb
  clear hzb
  have HPB := Lib.hid (BPart.ofOwn hown)
  generalize w0.heap.size = gb at *
  have HKb := Lib.hid (HK0.out.still hfb)
  have HFb := Lib.hid (HF0.out.then hfb)
  clear hown hfb HK0 HF0
  rename Hid (Kp wb _) => HK0
  rename Hid (Fr Nob w0 wb) => HF0
  go_wp2_with fail
  refine (NReduce_v 0 m HKK.out _ s.data.toList 0 _ HPB.out (by have := HSs.out; simpa using this) HRA.out).mono ?_
  rintro e w1 ⟨aa, ca, rfl, hv, hf⟩
  have HK1 := Lib.hid (show Kp w1 [(.slice aa 32 ca, 0)] from HK0.out.add hf hv)
  have HF1 := Lib.hid (HF0.out.then hf)
  clear hf hv HK0 HF0
  clear HPB
  go_wp2_with (with_reducible refine wl_stop (o := ⟨some 81, _, _, _, _, _⟩) ?_)
  refine wl_bytes (q := t) rfl rfl Try.underlying9 Try.underlying29 Try.underlying5 rfl (by have := HSt.out; unfold maxLen; omega) w1.heap.size (Nat.le_refl _) ?_
  intro cap wb hown hfb hzb
  clear hzb
  have HPB := Lib.hid (BPart.ofOwn hown)
  generalize w1.heap.size = gb at *
  have HKb := Lib.hid (HK1.out.still hfb)
  have HFb := Lib.hid (HF1.out.then hfb)
  clear hown hfb HK1 HF1
  rename Hid (Kp wb _) => HK1
  rename Hid (Fr Nob w0 wb) => HF1
  go_wp2_with fail
  refine (NReduce_v 0 m HKK.out _ t.data.toList B _ HPB.out (by have := HSt.out; simpa using this) HRB.out).mono ?_
  rintro e w2 ⟨ab, cb, rfl, hv, hf⟩
  have HK2 := Lib.hid (show Kp w2 [(.slice aa 32 ca, 0), (.slice ab 32 cb, B)] from HK1.out.add hf hv)
  have HF2 := Lib.hid (HF1.out.then hf)
  clear hf hv HK1 HF1
  clear HPB
  go_wp2_with (with_reducible refine wl_stop (o := ⟨some 88, _, _, _, _, _⟩) ?_)
  refine wl_bytes (q := u) rfl rfl Try.underlying9 Try.underlying29 Try.underlying5 rfl (by have := HSu.out; unfold maxLen; omega) w2.heap.size (Nat.le_refl _) ?_
  intro cap wb hown hfb hzb
  clear hzb
  have HPB := Lib.hid (BPart.ofOwn hown)
  generalize w2.heap.size = gb at *
  have HKb := Lib.hid (HK2.out.still hfb)
  have HFb := Lib.hid (HF2.out.then hfb)
  clear hown hfb HK2 HF2
  rename Hid (Kp wb _) => HK2
  rename Hid (Fr Nob w0 wb) => HF2
  go_wp2_with fail
  refine (NReduce_v 0 m HKK.out _ u.data.toList C _ HPB.out (by have := HSu.out; simpa using this) HRC.out).mono ?_
  rintro e w3 ⟨ac, cc, rfl, hv, hf⟩
  have HK3 := Lib.hid (show Kp w3 [(.slice aa 32 ca, 0), (.slice ab 32 cb, B), (.slice ac 32 cc, C)] from HK2.out.add hf hv)
  have HF3 := Lib.hid (HF2.out.then hf)
  clear hf hv HK2 HF2
  clear HPB
  go_wp2_with (with_reducible refine wl_stop (o := ⟨some 107, _, _, _, _, _⟩) ?_)
  refine wl_make rfl rfl Try.underlying29 info_u8 rfl rfl rfl 32 32 (by simp) (by simp) (by omega) (by omega) (by unfold maxLen; omega) ?_
  intro w4 hgz hf hzz
  clear hzz
  have hv : BPart w4 (.slice (some ⟨w3.heap.size, 0, none⟩) 32 32) (be32 0) := ⟨_, 32, 32, rfl, by omega, by rw [be32_zero]; exact Rd.whole hgz⟩
  have HGZ := Lib.hid hgz
  clear hgz
  generalize haz : (some (⟨w3.heap.size, 0, none⟩ : Addr)) = az at *
  clear haz HGZ
  have HK4 := Lib.hid (show Kp w4 [(.slice aa 32 ca, 0), (.slice ab 32 cb, B), (.slice ac 32 cc, C), (.slice az 32 32, 0)] from HK3.out.add hf hv)
  have HF4 := Lib.hid (HF3.out.then hf)
  clear hf hv HK3 HF3
  go_wp2_with (with_reducible refine wl_stop (o := ⟨some 108, _, _, _, _, _⟩) ?_)
  refine wl_make rfl rfl Try.underlying29 info_u8 rfl rfl rfl 32 32 (by simp) (by simp) (by omega) (by omega) (by unfold maxLen; omega) ?_
  intro wm hgo hfm hzo
  clear hzo
  generalize hgw : w4.heap.size = go at *
  have HGW := Lib.hid hgw
  clear hgw
  obtain ⟨z31, hz1, hz2⟩ := hgo.ready (i := 31) (by simp)
  have HGO := Lib.hid hgo
  have HFM := Lib.hid hfm
  clear hgo hfm
  go_wp2_with fail
  obtain ⟨w5, hwn⟩ : ∃ x, x = wm.setCell ⟨go, 31, none⟩ (.int .u8 1) := ⟨_, rfl⟩
  have hgs := HGO.out.set 31 (.int .u8 1)
  have hfs : Fr Nob w4 (wm.setCell ⟨go, 31, none⟩ (.int .u8 1)) := HFM.out.trans ((Fr.refl (One go) wm).setCell go 31 none _ (fun _ => rfl)) (fun j hj hjg => by have e : j = go := hjg; have := HGW.out; omega)
  rw [← hwn] at hgs hfs ⊢
  clear hwn hz1 hz2
  have hf := hfs
  clear hfs
  have hv : BPart w5 (.slice (some ⟨go, 0, none⟩) 32 32) (be32 1) := ⟨_, 32, 32, rfl, by omega, by rw [be32_one]; exact Rd.whole hgs⟩
  clear hgs HGO HFM HGW
  generalize (some (⟨go, 0, none⟩ : Addr)) = aone at *
  have HK5 := Lib.hid (show Kp w5 [(.slice aa 32 ca, 0), (.slice ab 32 cb, B), (.slice ac 32 cc, C), (.slice az 32 32, 0), (.slice aone 32 32, 1)] from HK4.out.add hf hv)
  have HF5 := Lib.hid (HF4.out.then hf)
  clear hf hv HK4 HF4
  refine (NAdd_v 0 m HKK.out _ _ 0 B AB _ (HK5.out.get 0 rfl) (HK5.out.get 1 rfl) HL0.out HLB.out HEab.out).mono ?_
  rintro e w6 ⟨aab, cab, rfl, hv, hf⟩
  have HK6 := Lib.hid (show Kp w6 [(.slice aa 32 ca, 0), (.slice ab 32 cb, B), (.slice ac 32 cc, C), (.slice az 32 32, 0), (.slice aone 32 32, 1), (.slice aab 32 cab, AB)] from HK5.out.add hf hv)
  have HF6 := Lib.hid (HF5.out.then hf)
  clear hf hv HK5 HF5
  go_wp2_with fail
  refine (NAdd_v 0 m HKK.out _ _ B 0 AB _ (HK6.out.get 1 rfl) (HK6.out.get 0 rfl) HLB.out HL0.out HEba.out).mono ?_
  rintro e w7 ⟨aba, cba, rfl, hv, hf⟩
  have HK7 := Lib.hid (show Kp w7 [(.slice aa 32 ca, 0), (.slice ab 32 cb, B), (.slice ac 32 cc, C), (.slice az 32 32, 0), (.slice aone 32 32, 1), (.slice aab 32 cab, AB), (.slice aba 32 cba, AB)] from HK6.out.add hf hv)
  have HF7 := Lib.hid (HF6.out.then hf)
  clear hf hv HK6 HF6
  go_wp2_with fail
  refine (NAdd_v 0 m HKK.out _ _ B C BC _ (HK7.out.get 1 rfl) (HK7.out.get 2 rfl) HLB.out HLC.out HEbc.out).mono ?_
  rintro e w8 ⟨abc, cbc, rfl, hv, hf⟩
  have HK8 := Lib.hid (show Kp w8 [(.slice aa 32 ca, 0), (.slice ab 32 cb, B), (.slice ac 32 cc, C), (.slice az 32 32, 0), (.slice aone 32 32, 1), (.slice aab 32 cab, AB), (.slice aba 32 cba, AB), (.slice abc 32 cbc, BC)] from HK7.out.add hf hv)
  have HF8 := Lib.hid (HF7.out.then hf)
  clear hf hv HK7 HF7
  go_wp2_with fail
  refine (NAdd_v 0 m HKK.out _ _ AB C S _ (HK8.out.get 5 rfl) (HK8.out.get 2 rfl) HLAB.out HLC.out HEl1.out).mono ?_
  rintro e w9 ⟨al1, cl1, rfl, hv, hf⟩
  have HK9 := Lib.hid (show Kp w9 [(.slice aa 32 ca, 0), (.slice ab 32 cb, B), (.slice ac 32 cc, C), (.slice az 32 32, 0), (.slice aone 32 32, 1), (.slice aab 32 cab, AB), (.slice aba 32 cba, AB), (.slice abc 32 cbc, BC), (.slice al1 32 cl1, S)] from HK8.out.add hf hv)
  have HF9 := Lib.hid (HF8.out.then hf)
  clear hf hv HK8 HF8
  go_wp2_with fail
  refine (NAdd_v 0 m HKK.out _ _ 0 BC S _ (HK9.out.get 0 rfl) (HK9.out.get 7 rfl) HL0.out HLBC.out HEr1.out).mono ?_
  rintro e w10 ⟨ar1, cr1, rfl, hv, hf⟩
  have HK10 := Lib.hid (show Kp w10 [(.slice aa 32 ca, 0), (.slice ab 32 cb, B), (.slice ac 32 cc, C), (.slice az 32 32, 0), (.slice aone 32 32, 1), (.slice aab 32 cab, AB), (.slice aba 32 cba, AB), (.slice abc 32 cbc, BC), (.slice al1 32 cl1, S), (.slice ar1 32 cr1, S)] from HK9.out.add hf hv)
  have HF10 := Lib.hid (HF9.out.then hf)
  clear hf hv HK9 HF9
  have hc0 := run_string (P := Try.prog) (HK10.out.rd 5 rfl) cab Try.underlying29 Try.underlying5 Try.underlying9
  have hc1 := run_string (P := Try.prog) (HK10.out.rd 6 rfl) cba Try.underlying29 Try.underlying5 Try.underlying9
  have hc2 := run_string (P := Try.prog) (HK10.out.rd 8 rfl) cl1 Try.underlying29 Try.underlying5 Try.underlying9
  have hc3 := run_string (P := Try.prog) (HK10.out.rd 9 rfl) cr1 Try.underlying29 Try.underlying5 Try.underlying9
  go_wp2_with fail
  refine (NMul_v 0 m HKK.out _ _ 0 B P _ (HK10.out.get 0 rfl) (HK10.out.get 1 rfl) HL0.out HLB.out HEm.out).mono ?_
  rintro e w11 ⟨am, cm, rfl, hv, hf⟩
  have HK11 := Lib.hid (show Kp w11 [(.slice aa 32 ca, 0), (.slice ab 32 cb, B), (.slice ac 32 cc, C), (.slice az 32 32, 0), (.slice aone 32 32, 1), (.slice aab 32 cab, AB), (.slice aba 32 cba, AB), (.slice abc 32 cbc, BC), (.slice al1 32 cl1, S), (.slice ar1 32 cr1, S), (.slice am 32 cm, P)] from HK10.out.add hf hv)
  have HF11 := Lib.hid (HF10.out.then hf)
  clear hf hv HK10 HF10
  clear hc0 hc1 hc2 hc3
  go_wp2_with fail
  refine (NMul_v 0 m HKK.out _ _ B 0 P _ (HK11.out.get 1 rfl) (HK11.out.get 0 rfl) HLB.out HL0.out HEn.out).mono ?_
  rintro e w12 ⟨an, cn, rfl, hv, hf⟩
  have HK12 := Lib.hid (show Kp w12 [(.slice aa 32 ca, 0), (.slice ab 32 cb, B), (.slice ac 32 cc, C), (.slice az 32 32, 0), (.slice aone 32 32, 1), (.slice aab 32 cab, AB), (.slice aba 32 cba, AB), (.slice abc 32 cbc, BC), (.slice al1 32 cl1, S), (.slice ar1 32 cr1, S), (.slice am 32 cm, P), (.slice an 32 cn, P)] from HK11.out.add hf hv)
  have HF12 := Lib.hid (HF11.out.then hf)
  clear hf hv HK11 HF11
  go_wp2_with fail
  refine (NMul_v 0 m HKK.out _ _ B C Q _ (HK12.out.get 1 rfl) (HK12.out.get 2 rfl) HLB.out HLC.out HEbm.out).mono ?_
  rintro e w13 ⟨abm, cbm, rfl, hv, hf⟩
  have HK13 := Lib.hid (show Kp w13 [(.slice aa 32 ca, 0), (.slice ab 32 cb, B), (.slice ac 32 cc, C), (.slice az 32 32, 0), (.slice aone 32 32, 1), (.slice aab 32 cab, AB), (.slice aba 32 cba, AB), (.slice abc 32 cbc, BC), (.slice al1 32 cl1, S), (.slice ar1 32 cr1, S), (.slice am 32 cm, P), (.slice an 32 cn, P), (.slice abm 32 cbm, Q)] from HK12.out.add hf hv)
  have HF13 := Lib.hid (HF12.out.then hf)
  clear hf hv HK12 HF12
  go_wp2_with fail
  refine (NMul_v 0 m HKK.out _ _ P C T _ (HK13.out.get 10 rfl) (HK13.out.get 2 rfl) HLP.out HLC.out HEl2.out).mono ?_
  rintro e w14 ⟨al2, cl2, rfl, hv, hf⟩
  have HK14 := Lib.hid (show Kp w14 [(.slice aa 32 ca, 0), (.slice ab 32 cb, B), (.slice ac 32 cc, C), (.slice az 32 32, 0), (.slice aone 32 32, 1), (.slice aab 32 cab, AB), (.slice aba 32 cba, AB), (.slice abc 32 cbc, BC), (.slice al1 32 cl1, S), (.slice ar1 32 cr1, S), (.slice am 32 cm, P), (.slice an 32 cn, P), (.slice abm 32 cbm, Q), (.slice al2 32 cl2, T)] from HK13.out.add hf hv)
  have HF14 := Lib.hid (HF13.out.then hf)
  clear hf hv HK13 HF13
  go_wp2_with fail
  refine (NMul_v 0 m HKK.out _ _ 0 Q T _ (HK14.out.get 0 rfl) (HK14.out.get 12 rfl) HL0.out HLQ.out HEr2.out).mono ?_
  rintro e w15 ⟨ar2, cr2, rfl, hv, hf⟩
  have HK15 := Lib.hid (show Kp w15 [(.slice aa 32 ca, 0), (.slice ab 32 cb, B), (.slice ac 32 cc, C), (.slice az 32 32, 0), (.slice aone 32 32, 1), (.slice aab 32 cab, AB), (.slice aba 32 cba, AB), (.slice abc 32 cbc, BC), (.slice al1 32 cl1, S), (.slice ar1 32 cr1, S), (.slice am 32 cm, P), (.slice an 32 cn, P), (.slice abm 32 cbm, Q), (.slice al2 32 cl2, T), (.slice ar2 32 cr2, T)] from HK14.out.add hf hv)
  have HF15 := Lib.hid (HF14.out.then hf)
  clear hf hv HK14 HF14
  have hc0 := run_string (P := Try.prog) (HK15.out.rd 10 rfl) cm Try.underlying29 Try.underlying5 Try.underlying9
  have hc1 := run_string (P := Try.prog) (HK15.out.rd 11 rfl) cn Try.underlying29 Try.underlying5 Try.underlying9
  have hc2 := run_string (P := Try.prog) (HK15.out.rd 13 rfl) cl2 Try.underlying29 Try.underlying5 Try.underlying9
  have hc3 := run_string (P := Try.prog) (HK15.out.rd 14 rfl) cr2 Try.underlying29 Try.underlying5 Try.underlying9
  go_wp2_with fail
  refine (NMul_v 0 m HKK.out _ _ 0 C AC _ (HK15.out.get 0 rfl) (HK15.out.get 2 rfl) HL0.out HLC.out HEac.out).mono ?_
  rintro e w16 ⟨aac, cac, rfl, hv, hf⟩
  have HK16 := Lib.hid (show Kp w16 [(.slice aa 32 ca, 0), (.slice ab 32 cb, B), (.slice ac 32 cc, C), (.slice az 32 32, 0), (.slice aone 32 32, 1), (.slice aab 32 cab, AB), (.slice aba 32 cba, AB), (.slice abc 32 cbc, BC), (.slice al1 32 cl1, S), (.slice ar1 32 cr1, S), (.slice am 32 cm, P), (.slice an 32 cn, P), (.slice abm 32 cbm, Q), (.slice al2 32 cl2, T), (.slice ar2 32 cr2, T), (.slice aac 32 cac, AC)] from HK15.out.add hf hv)
  have HF16 := Lib.hid (HF15.out.then hf)
  clear hf hv HK15 HF15
  clear hc0 hc1 hc2 hc3
  go_wp2_with fail
  refine (NMul_v 0 m HKK.out _ _ 0 BC D _ (HK16.out.get 0 rfl) (HK16.out.get 7 rfl) HL0.out HLBC.out HEl3.out).mono ?_
  rintro e w17 ⟨al3, cl3, rfl, hv, hf⟩
  have HK17 := Lib.hid (show Kp w17 [(.slice aa 32 ca, 0), (.slice ab 32 cb, B), (.slice ac 32 cc, C), (.slice az 32 32, 0), (.slice aone 32 32, 1), (.slice aab 32 cab, AB), (.slice aba 32 cba, AB), (.slice abc 32 cbc, BC), (.slice al1 32 cl1, S), (.slice ar1 32 cr1, S), (.slice am 32 cm, P), (.slice an 32 cn, P), (.slice abm 32 cbm, Q), (.slice al2 32 cl2, T), (.slice ar2 32 cr2, T), (.slice aac 32 cac, AC), (.slice al3 32 cl3, D)] from HK16.out.add hf hv)
  have HF17 := Lib.hid (HF16.out.then hf)
  clear hf hv HK16 HF16
  go_wp2_with fail
  refine (NAdd_v 0 m HKK.out _ _ P AC D _ (HK17.out.get 10 rfl) (HK17.out.get 15 rfl) HLP.out HLAC.out HEr3.out).mono ?_
  rintro e w18 ⟨ar3, cr3, rfl, hv, hf⟩
  have HK18 := Lib.hid (show Kp w18 [(.slice aa 32 ca, 0), (.slice ab 32 cb, B), (.slice ac 32 cc, C), (.slice az 32 32, 0), (.slice aone 32 32, 1), (.slice aab 32 cab, AB), (.slice aba 32 cba, AB), (.slice abc 32 cbc, BC), (.slice al1 32 cl1, S), (.slice ar1 32 cr1, S), (.slice am 32 cm, P), (.slice an 32 cn, P), (.slice abm 32 cbm, Q), (.slice al2 32 cl2, T), (.slice ar2 32 cr2, T), (.slice aac 32 cac, AC), (.slice al3 32 cl3, D), (.slice ar3 32 cr3, D)] from HK17.out.add hf hv)
  have HF18 := Lib.hid (HF17.out.then hf)
  clear hf hv HK17 HF17
  have hc0 := run_string (P := Try.prog) (HK18.out.rd 16 rfl) cl3 Try.underlying29 Try.underlying5 Try.underlying9
  have hc1 := run_string (P := Try.prog) (HK18.out.rd 17 rfl) cr3 Try.underlying29 Try.underlying5 Try.underlying9
  go_wp2_with fail
  refine (NSub_v 0 m HKK.out _ _ AB B 0 _ (HK18.out.get 5 rfl) (HK18.out.get 1 rfl) HLAB.out HLB.out HEd.out).mono ?_
  rintro e w19 ⟨ad, cd, rfl, hv, hf⟩
  have HK19 := Lib.hid (show Kp w19 [(.slice aa 32 ca, 0), (.slice ab 32 cb, B), (.slice ac 32 cc, C), (.slice az 32 32, 0), (.slice aone 32 32, 1), (.slice aab 32 cab, AB), (.slice aba 32 cba, AB), (.slice abc 32 cbc, BC), (.slice al1 32 cl1, S), (.slice ar1 32 cr1, S), (.slice am 32 cm, P), (.slice an 32 cn, P), (.slice abm 32 cbm, Q), (.slice al2 32 cl2, T), (.slice ar2 32 cr2, T), (.slice aac 32 cac, AC), (.slice al3 32 cl3, D), (.slice ar3 32 cr3, D), (.slice ad 32 cd, 0)] from HK18.out.add hf hv)
  have HF19 := Lib.hid (HF18.out.then hf)
  clear hf hv HK18 HF18
  clear hc0 hc1
  go_wp2_with fail
  refine (NSub_v 0 m HKK.out _ _ 0 0 0 _ (HK19.out.get 0 rfl) (HK19.out.get 0 rfl) HL0.out HL0.out HEzz.out).mono ?_
  rintro e w20 ⟨azz, czz, rfl, hv, hf⟩
  have HK20 := Lib.hid (show Kp w20 [(.slice aa 32 ca, 0), (.slice ab 32 cb, B), (.slice ac 32 cc, C), (.slice az 32 32, 0), (.slice aone 32 32, 1), (.slice aab 32 cab, AB), (.slice aba 32 cba, AB), (.slice abc 32 cbc, BC), (.slice al1 32 cl1, S), (.slice ar1 32 cr1, S), (.slice am 32 cm, P), (.slice an 32 cn, P), (.slice abm 32 cbm, Q), (.slice al2 32 cl2, T), (.slice ar2 32 cr2, T), (.slice aac 32 cac, AC), (.slice al3 32 cl3, D), (.slice ar3 32 cr3, D), (.slice ad 32 cd, 0), (.slice azz 32 czz, 0)] from HK19.out.add hf hv)
  have HF20 := Lib.hid (HF19.out.then hf)
  clear hf hv HK19 HF19
  go_wp2_with fail
  refine (NMul_v 0 m HKK.out _ _ 0 1 0 _ (HK20.out.get 0 rfl) (HK20.out.get 4 rfl) HL0.out HL1.out HEx.out).mono ?_
  rintro e w21 ⟨ax, cx, rfl, hv, hf⟩
  have HK21 := Lib.hid (show Kp w21 [(.slice aa 32 ca, 0), (.slice ab 32 cb, B), (.slice ac 32 cc, C), (.slice az 32 32, 0), (.slice aone 32 32, 1), (.slice aab 32 cab, AB), (.slice aba 32 cba, AB), (.slice abc 32 cbc, BC), (.slice al1 32 cl1, S), (.slice ar1 32 cr1, S), (.slice am 32 cm, P), (.slice an 32 cn, P), (.slice abm 32 cbm, Q), (.slice al2 32 cl2, T), (.slice ar2 32 cr2, T), (.slice aac 32 cac, AC), (.slice al3 32 cl3, D), (.slice ar3 32 cr3, D), (.slice ad 32 cd, 0), (.slice azz 32 czz, 0), (.slice ax 32 cx, 0)] from HK20.out.add hf hv)
  have HF21 := Lib.hid (HF20.out.then hf)
  clear hf hv HK20 HF20
  have hc0 := run_string (P := Try.prog) (HK21.out.rd 18 rfl) cd Try.underlying29 Try.underlying5 Try.underlying9
  have hc1 := run_string (P := Try.prog) (HK21.out.rd 0 rfl) ca Try.underlying29 Try.underlying5 Try.underlying9
  have hc2 := run_string (P := Try.prog) (HK21.out.rd 19 rfl) czz Try.underlying29 Try.underlying5 Try.underlying9
  have hc3 := run_string (P := Try.prog) (HK21.out.rd 3 rfl) 32 Try.underlying29 Try.underlying5 Try.underlying9
  have hc4 := run_string (P := Try.prog) (HK21.out.rd 20 rfl) cx Try.underlying29 Try.underlying5 Try.underlying9
  go_wp2_with fail
  refine (NInv_v 0 m HKK.out _ 0 0 _ (HK21.out.get 0 rfl) HL0.out HEi.out).mono ?_
  rintro e w22 ⟨ai, ci, rfl, hv, hf⟩
  have HK22 := Lib.hid (show Kp w22 [(.slice aa 32 ca, 0), (.slice ab 32 cb, B), (.slice ac 32 cc, C), (.slice az 32 32, 0), (.slice aone 32 32, 1), (.slice aab 32 cab, AB), (.slice aba 32 cba, AB), (.slice abc 32 cbc, BC), (.slice al1 32 cl1, S), (.slice ar1 32 cr1, S), (.slice am 32 cm, P), (.slice an 32 cn, P), (.slice abm 32 cbm, Q), (.slice al2 32 cl2, T), (.slice ar2 32 cr2, T), (.slice aac 32 cac, AC), (.slice al3 32 cl3, D), (.slice ar3 32 cr3, D), (.slice ad 32 cd, 0), (.slice azz 32 czz, 0), (.slice ax 32 cx, 0), (.slice ai 32 ci, 0)] from HK21.out.add hf hv)
  have HF22 := Lib.hid (HF21.out.then hf)
  clear hf hv HK21 HF21
  clear hc0 hc1 hc2 hc3 hc4
  go_wp2_with fail
  refine (NMul_v 0 m HKK.out _ _ 0 0 PI _ (HK22.out.get 0 rfl) (HK22.out.get 21 rfl) HL0.out HL0.out HEpi.out).mono ?_
  rintro e w23 ⟨api, cpi, rfl, hv, hf⟩
  have HK23 := Lib.hid (show Kp w23 [(.slice aa 32 ca, 0), (.slice ab 32 cb, B), (.slice ac 32 cc, C), (.slice az 32 32, 0), (.slice aone 32 32, 1), (.slice aab 32 cab, AB), (.slice aba 32 cba, AB), (.slice abc 32 cbc, BC), (.slice al1 32 cl1, S), (.slice ar1 32 cr1, S), (.slice am 32 cm, P), (.slice an 32 cn, P), (.slice abm 32 cbm, Q), (.slice al2 32 cl2, T), (.slice ar2 32 cr2, T), (.slice aac 32 cac, AC), (.slice al3 32 cl3, D), (.slice ar3 32 cr3, D), (.slice ad 32 cd, 0), (.slice azz 32 czz, 0), (.slice ax 32 cx, 0), (.slice ai 32 ci, 0), (.slice api 32 cpi, PI)] from HK22.out.add hf hv)
  have HF23 := Lib.hid (HF22.out.then hf)
  clear hf hv HK22 HF22
  have hc0 := run_string (P := Try.prog) (HK23.out.rd 0 rfl) ca Try.underlying29 Try.underlying5 Try.underlying9
  have hc1 := run_string (P := Try.prog) (HK23.out.rd 3 rfl) 32 Try.underlying29 Try.underlying5 Try.underlying9
  have hc2 := run_string (P := Try.prog) (HK23.out.rd 22 rfl) cpi Try.underlying29 Try.underlying5 Try.underlying9
  have hc3 := run_string (P := Try.prog) (HK23.out.rd 4 rfl) 32 Try.underlying29 Try.underlying5 Try.underlying9
  have hc4 := run_string (P := Try.prog) (HK23.out.rd 21 rfl) ci Try.underlying29 Try.underlying5 Try.underlying9
  go_wp2_with fail
  refine (NMul_v 0 m HKK.out _ _ 0 0 QQ _ (HK23.out.get 0 rfl) (HK23.out.get 0 rfl) HL0.out HL0.out HEq.out).mono ?_
  rintro e w24 ⟨aq, cq, rfl, hv, hf⟩
  have HK24 := Lib.hid (show Kp w24 [(.slice aa 32 ca, 0), (.slice ab 32 cb, B), (.slice ac 32 cc, C), (.slice az 32 32, 0), (.slice aone 32 32, 1), (.slice aab 32 cab, AB), (.slice aba 32 cba, AB), (.slice abc 32 cbc, BC), (.slice al1 32 cl1, S), (.slice ar1 32 cr1, S), (.slice am 32 cm, P), (.slice an 32 cn, P), (.slice abm 32 cbm, Q), (.slice al2 32 cl2, T), (.slice ar2 32 cr2, T), (.slice aac 32 cac, AC), (.slice al3 32 cl3, D), (.slice ar3 32 cr3, D), (.slice ad 32 cd, 0), (.slice azz 32 czz, 0), (.slice ax 32 cx, 0), (.slice ai 32 ci, 0), (.slice api 32 cpi, PI), (.slice aq 32 cq, QQ)] from HK23.out.add hf hv)
  have HF24 := Lib.hid (HF23.out.then hf)
  clear hf hv HK23 HF23
  clear hc0 hc1 hc2 hc3 hc4
  go_wp2_with fail
  refine (NSqrt_v m HKK.out _ QQ WW _ (HK24.out.get 23 rfl) HLQQ.out HRO.out HEw.out).mono ?_
  rintro e w25 ⟨aw, cw, rfl, hv, hf⟩
  have HK25 := Lib.hid (show Kp w25 [(.slice aa 32 ca, 0), (.slice ab 32 cb, B), (.slice ac 32 cc, C), (.slice az 32 32, 0), (.slice aone 32 32, 1), (.slice aab 32 cab, AB), (.slice aba 32 cba, AB), (.slice abc 32 cbc, BC), (.slice al1 32 cl1, S), (.slice ar1 32 cr1, S), (.slice am 32 cm, P), (.slice an 32 cn, P), (.slice abm 32 cbm, Q), (.slice al2 32 cl2, T), (.slice ar2 32 cr2, T), (.slice aac 32 cac, AC), (.slice al3 32 cl3, D), (.slice ar3 32 cr3, D), (.slice ad 32 cd, 0), (.slice azz 32 czz, 0), (.slice ax 32 cx, 0), (.slice ai 32 ci, 0), (.slice api 32 cpi, PI), (.slice aq 32 cq, QQ), (.slice aw 32 cw, WW)] from HK24.out.add hf hv)
  have HF25 := Lib.hid (HF24.out.then hf)
  clear hf hv HK24 HF24
  go_wp2_with fail
  refine (NSub_v 0 m HKK.out _ _ 0 0 O _ (HK25.out.get 3 rfl) (HK25.out.get 0 rfl) HL0.out HL0.out HEo.out).mono ?_
  rintro e w26 ⟨ao, co, rfl, hv, hf⟩
  have HK26 := Lib.hid (show Kp w26 [(.slice aa 32 ca, 0), (.slice ab 32 cb, B), (.slice ac 32 cc, C), (.slice az 32 32, 0), (.slice aone 32 32, 1), (.slice aab 32 cab, AB), (.slice aba 32 cba, AB), (.slice abc 32 cbc, BC), (.slice al1 32 cl1, S), (.slice ar1 32 cr1, S), (.slice am 32 cm, P), (.slice an 32 cn, P), (.slice abm 32 cbm, Q), (.slice al2 32 cl2, T), (.slice ar2 32 cr2, T), (.slice aac 32 cac, AC), (.slice al3 32 cl3, D), (.slice ar3 32 cr3, D), (.slice ad 32 cd, 0), (.slice azz 32 czz, 0), (.slice ax 32 cx, 0), (.slice ai 32 ci, 0), (.slice api 32 cpi, PI), (.slice aq 32 cq, QQ), (.slice aw 32 cw, WW), (.slice ao 32 co, O)] from HK25.out.add hf hv)
  have HF26 := Lib.hid (HF25.out.then hf)
  clear hf hv HK25 HF25
  have hc0 := run_string (P := Try.prog) (HK26.out.rd 24 rfl) cw Try.underlying29 Try.underlying5 Try.underlying9
  have hc1 := run_string (P := Try.prog) (HK26.out.rd 0 rfl) ca Try.underlying29 Try.underlying5 Try.underlying9
  have hc2 := run_string (P := Try.prog) (HK26.out.rd 25 rfl) co Try.underlying29 Try.underlying5 Try.underlying9
  obtain ⟨bw, ow, haw, -⟩ := (HK26.out.rd 24 rfl).at (by omega)
  subst haw
  have hcl := rd_cell (HK26.out.rd 24 rfl) 31 (.int .u8 ((UInt8.ofNat WW).toNat : Int)) (bs_at (be32_low WW))
  have hbit : bits .and .u8 ((UInt8.ofNat WW).toNat : Int) 1 = 0 := HBIT.out
  have HFE := Lib.hid HF26.out
  by_cases hw : WW = 0
  · subst hw
    go_wp2_with fail
    go_ret
    exact ⟨rfl, HFE.out⟩
  · have hsn := str_ne (Nat.lt_trans HLWW.out HKK.out.ok.lt) (Nat.lt_trans HL0.out HKK.out.ok.lt) hw
    have ho := HWW.out.resolve_left hw
    clear hw
    subst ho
    go_wp2_with fail
    go_ret
    exact ⟨rfl, HFE.out⟩
end Go.Proofs.Ytmegaegedlbckaa

/- The law NumLaws, walked: NumLaws_k0_n_n and its like. -/
namespace Go.Proofs.Ytmegaegedlbckaa
open Go.RowKit Go.Mv Mvp Mvq
attribute [local irreducible] limbs lw mix cw cSub cAdd cMul foldC valFrom beN laid be32 powm montT mstep elN mdL elCells numsB numB rtV rtOk rtN Kp
set_option maxHeartbeats 32000000 in
set_option maxRecDepth 1000000 in
theorem NumLaws_k0_n_n (kd : Int) (m : Md) (hk : KindOf 0 m) (s t u : ByteArray) (w0 : World) (hs : s.size ≤ 1024) (ht : t.size ≤ 1024) (hu : u.size ≤ 1024) (A B C AB BC S P Q T AC D I PI QQ WW O : Nat) (eab : (A + B) % m.M = AB) (eba : (B + A) % m.M = AB) (ebc : (B + C) % m.M = BC) (el1 : (AB + C) % m.M = S) (er1 : (A + BC) % m.M = S) (em : A * B % m.M = P) (en : B * A % m.M = P) (ebm : B * C % m.M = Q) (el2 : P * C % m.M = T) (er2 : A * Q % m.M = T) (eac : A * C % m.M = AC) (el3 : A * BC % m.M = D) (er3 : (P + AC) % m.M = D) (ed : (AB + (m.M - B)) % m.M = A) (ezz : (A + (m.M - A)) % m.M = 0) (ex : A * 1 % m.M = A) (ei : A ^ (m.M - 2) % m.M = I) (epi : A * I % m.M = PI) (eq : A * A % m.M = QQ) (ew : rtV m.M QQ % m.M = WW) (eo : (0 + (m.M - A)) % m.M = O) (lA : A < m.M) (lB : B < m.M) (lC : C < m.M) (lAB : AB < m.M) (lBC : BC < m.M) (lP : P < m.M) (lQ : Q < m.M) (lAC : AC < m.M) (lI : I < m.M) (l1 : 1 < m.M) (l0 : 0 < m.M) (lQQ : QQ < m.M) (lWW : WW < m.M) (rA : beN s.data.toList % m.M = A) (rB : beN t.data.toList % m.M = B) (rC : beN u.data.toList % m.M = C) (hA : A ≠ 0) (hPI : PI = 1) (hro : rtOk m.M QQ = true) (hev : WW % 2 = 0) (hww : WW = A ∨ WW = O) (hkd : kd < 0) (hlo : -9223372036854775808 ≤ kd ∧ kd ≤ 9223372036854775807) (hrem : -((kd + 1).tmod 2) = 0) :
    Calls Try.prog 8 #[.int .i64 kd, .string s, .string t, .string u] w0 fun e w' => e = .returned (.bool true) ∧ Fr Nob w0 w' := by
  have hgs : ¬ ((1024 : Int) < (s.size : Int)) := by omega
  have hgt : ¬ ((1024 : Int) < (t.size : Int)) := by omega
  have hgu : ¬ ((1024 : Int) < (u.size : Int)) := by omega
  have HREM := Lib.hid hrem
  clear hrem
  have HKK := Lib.hid hk
  have HEab := Lib.hid eab
  have HEba := Lib.hid eba
  have HEbc := Lib.hid ebc
  have HEl1 := Lib.hid el1
  have HEr1 := Lib.hid er1
  have HEm := Lib.hid em
  have HEn := Lib.hid en
  have HEbm := Lib.hid ebm
  have HEl2 := Lib.hid el2
  have HEr2 := Lib.hid er2
  have HEac := Lib.hid eac
  have HEl3 := Lib.hid el3
  have HEr3 := Lib.hid er3
  have HEd := Lib.hid ed
  have HEzz := Lib.hid ezz
  have HEx := Lib.hid ex
  have HEi := Lib.hid ei
  have HEpi := Lib.hid epi
  have HEq := Lib.hid eq
  have HEw := Lib.hid ew
  have HEo := Lib.hid eo
  have HLA := Lib.hid lA
  have HLB := Lib.hid lB
  have HLC := Lib.hid lC
  have HLAB := Lib.hid lAB
  have HLBC := Lib.hid lBC
  have HLP := Lib.hid lP
  have HLQ := Lib.hid lQ
  have HLAC := Lib.hid lAC
  have HLI := Lib.hid lI
  have HL1 := Lib.hid l1
  have HL0 := Lib.hid l0
  have HLQQ := Lib.hid lQQ
  have HLWW := Lib.hid lWW
  have HRA := Lib.hid rA
  have HRB := Lib.hid rB
  have HRC := Lib.hid rC
  have HSs := Lib.hid hs
  have HSt := Lib.hid ht
  have HSu := Lib.hid hu
  have HNE := Lib.hid (str_ne (Nat.lt_trans lA hk.ok.lt) (show 0 < B64 ^ 4 by decide) hA)
  have HRO := Lib.hid hro
  have HWW := Lib.hid hww
  have HBIT := Lib.hid (even_bit WW hev)
  clear hk eab eba ebc el1 er1 em en ebm el2 er2 eac el3 er3 ed ezz ex ei epi eq ew eo lA lB lC lAB lBC lP lQ lAC lI l1 l0 lQQ lWW rA rB rC hs ht hu hro hev hww hA
  subst hPI
  obtain ⟨hlo1, hlo2⟩ := hlo
  go_enter Try.func8, Try.ntmps8
  have HK0 := Lib.hid (Kp.nil w0)
  have HF0 := Lib.hid (Fr.refl Nob w0)
  go_wp2_with (with_reducible refine wl_stop (o := ⟨some 74, _, _, _, _, _⟩) ?_)
  rw [HREM.out]
  refine wl_bytes (q := s) rfl rfl Try.underlying9 Try.underlying29 Try.underlying5 rfl (by have := HSs.out; unfold maxLen; omega) w0.heap.size (Nat.le_refl _) ?_
  intro cap wb hown hfb hzb
  clear hzb
  have HPB := Lib.hid (BPart.ofOwn hown)
  generalize w0.heap.size = gb at *
  have HKb := Lib.hid (HK0.out.still hfb)
  have HFb := Lib.hid (HF0.out.then hfb)
  clear hown hfb HK0 HF0
  rename Hid (Kp wb _) => HK0
  rename Hid (Fr Nob w0 wb) => HF0
  go_wp2_with fail
  refine (NReduce_v 0 m HKK.out _ s.data.toList A _ HPB.out (by have := HSs.out; simpa using this) HRA.out).mono ?_
  rintro e w1 ⟨aa, ca, rfl, hv, hf⟩
  have HK1 := Lib.hid (show Kp w1 [(.slice aa 32 ca, A)] from HK0.out.add hf hv)
  have HF1 := Lib.hid (HF0.out.then hf)
  clear hf hv HK0 HF0
  clear HPB
  go_wp2_with (with_reducible refine wl_stop (o := ⟨some 81, _, _, _, _, _⟩) ?_)
  refine wl_bytes (q := t) rfl rfl Try.underlying9 Try.underlying29 Try.underlying5 rfl (by have := HSt.out; unfold maxLen; omega) w1.heap.size (Nat.le_refl _) ?_
  intro cap wb hown hfb hzb
  clear hzb
  have HPB := Lib.hid (BPart.ofOwn hown)
  generalize w1.heap.size = gb at *
  have HKb := Lib.hid (HK1.out.still hfb)
  have HFb := Lib.hid (HF1.out.then hfb)
  clear hown hfb HK1 HF1
  rename Hid (Kp wb _) => HK1
  rename Hid (Fr Nob w0 wb) => HF1
  go_wp2_with fail
  refine (NReduce_v 0 m HKK.out _ t.data.toList B _ HPB.out (by have := HSt.out; simpa using this) HRB.out).mono ?_
  rintro e w2 ⟨ab, cb, rfl, hv, hf⟩
  have HK2 := Lib.hid (show Kp w2 [(.slice aa 32 ca, A), (.slice ab 32 cb, B)] from HK1.out.add hf hv)
  have HF2 := Lib.hid (HF1.out.then hf)
  clear hf hv HK1 HF1
  clear HPB
  go_wp2_with (with_reducible refine wl_stop (o := ⟨some 88, _, _, _, _, _⟩) ?_)
  refine wl_bytes (q := u) rfl rfl Try.underlying9 Try.underlying29 Try.underlying5 rfl (by have := HSu.out; unfold maxLen; omega) w2.heap.size (Nat.le_refl _) ?_
  intro cap wb hown hfb hzb
  clear hzb
  have HPB := Lib.hid (BPart.ofOwn hown)
  generalize w2.heap.size = gb at *
  have HKb := Lib.hid (HK2.out.still hfb)
  have HFb := Lib.hid (HF2.out.then hfb)
  clear hown hfb HK2 HF2
  rename Hid (Kp wb _) => HK2
  rename Hid (Fr Nob w0 wb) => HF2
  go_wp2_with fail
  refine (NReduce_v 0 m HKK.out _ u.data.toList C _ HPB.out (by have := HSu.out; simpa using this) HRC.out).mono ?_
  rintro e w3 ⟨ac, cc, rfl, hv, hf⟩
  have HK3 := Lib.hid (show Kp w3 [(.slice aa 32 ca, A), (.slice ab 32 cb, B), (.slice ac 32 cc, C)] from HK2.out.add hf hv)
  have HF3 := Lib.hid (HF2.out.then hf)
  clear hf hv HK2 HF2
  clear HPB
  go_wp2_with (with_reducible refine wl_stop (o := ⟨some 107, _, _, _, _, _⟩) ?_)
  refine wl_make rfl rfl Try.underlying29 info_u8 rfl rfl rfl 32 32 (by simp) (by simp) (by omega) (by omega) (by unfold maxLen; omega) ?_
  intro w4 hgz hf hzz
  clear hzz
  have hv : BPart w4 (.slice (some ⟨w3.heap.size, 0, none⟩) 32 32) (be32 0) := ⟨_, 32, 32, rfl, by omega, by rw [be32_zero]; exact Rd.whole hgz⟩
  have HGZ := Lib.hid hgz
  clear hgz
  generalize haz : (some (⟨w3.heap.size, 0, none⟩ : Addr)) = az at *
  clear haz HGZ
  have HK4 := Lib.hid (show Kp w4 [(.slice aa 32 ca, A), (.slice ab 32 cb, B), (.slice ac 32 cc, C), (.slice az 32 32, 0)] from HK3.out.add hf hv)
  have HF4 := Lib.hid (HF3.out.then hf)
  clear hf hv HK3 HF3
  go_wp2_with (with_reducible refine wl_stop (o := ⟨some 108, _, _, _, _, _⟩) ?_)
  refine wl_make rfl rfl Try.underlying29 info_u8 rfl rfl rfl 32 32 (by simp) (by simp) (by omega) (by omega) (by unfold maxLen; omega) ?_
  intro wm hgo hfm hzo
  clear hzo
  generalize hgw : w4.heap.size = go at *
  have HGW := Lib.hid hgw
  clear hgw
  obtain ⟨z31, hz1, hz2⟩ := hgo.ready (i := 31) (by simp)
  have HGO := Lib.hid hgo
  have HFM := Lib.hid hfm
  clear hgo hfm
  go_wp2_with fail
  obtain ⟨w5, hwn⟩ : ∃ x, x = wm.setCell ⟨go, 31, none⟩ (.int .u8 1) := ⟨_, rfl⟩
  have hgs := HGO.out.set 31 (.int .u8 1)
  have hfs : Fr Nob w4 (wm.setCell ⟨go, 31, none⟩ (.int .u8 1)) := HFM.out.trans ((Fr.refl (One go) wm).setCell go 31 none _ (fun _ => rfl)) (fun j hj hjg => by have e : j = go := hjg; have := HGW.out; omega)
  rw [← hwn] at hgs hfs ⊢
  clear hwn hz1 hz2
  have hf := hfs
  clear hfs
  have hv : BPart w5 (.slice (some ⟨go, 0, none⟩) 32 32) (be32 1) := ⟨_, 32, 32, rfl, by omega, by rw [be32_one]; exact Rd.whole hgs⟩
  clear hgs HGO HFM HGW
  generalize (some (⟨go, 0, none⟩ : Addr)) = aone at *
  have HK5 := Lib.hid (show Kp w5 [(.slice aa 32 ca, A), (.slice ab 32 cb, B), (.slice ac 32 cc, C), (.slice az 32 32, 0), (.slice aone 32 32, 1)] from HK4.out.add hf hv)
  have HF5 := Lib.hid (HF4.out.then hf)
  clear hf hv HK4 HF4
  refine (NAdd_v 0 m HKK.out _ _ A B AB _ (HK5.out.get 0 rfl) (HK5.out.get 1 rfl) HLA.out HLB.out HEab.out).mono ?_
  rintro e w6 ⟨aab, cab, rfl, hv, hf⟩
  have HK6 := Lib.hid (show Kp w6 [(.slice aa 32 ca, A), (.slice ab 32 cb, B), (.slice ac 32 cc, C), (.slice az 32 32, 0), (.slice aone 32 32, 1), (.slice aab 32 cab, AB)] from HK5.out.add hf hv)
  have HF6 := Lib.hid (HF5.out.then hf)
  clear hf hv HK5 HF5
  go_wp2_with fail
  refine (NAdd_v 0 m HKK.out _ _ B A AB _ (HK6.out.get 1 rfl) (HK6.out.get 0 rfl) HLB.out HLA.out HEba.out).mono ?_
  rintro e w7 ⟨aba, cba, rfl, hv, hf⟩
  have HK7 := Lib.hid (show Kp w7 [(.slice aa 32 ca, A), (.slice ab 32 cb, B), (.slice ac 32 cc, C), (.slice az 32 32, 0), (.slice aone 32 32, 1), (.slice aab 32 cab, AB), (.slice aba 32 cba, AB)] from HK6.out.add hf hv)
  have HF7 := Lib.hid (HF6.out.then hf)
  clear hf hv HK6 HF6
  go_wp2_with fail
  refine (NAdd_v 0 m HKK.out _ _ B C BC _ (HK7.out.get 1 rfl) (HK7.out.get 2 rfl) HLB.out HLC.out HEbc.out).mono ?_
  rintro e w8 ⟨abc, cbc, rfl, hv, hf⟩
  have HK8 := Lib.hid (show Kp w8 [(.slice aa 32 ca, A), (.slice ab 32 cb, B), (.slice ac 32 cc, C), (.slice az 32 32, 0), (.slice aone 32 32, 1), (.slice aab 32 cab, AB), (.slice aba 32 cba, AB), (.slice abc 32 cbc, BC)] from HK7.out.add hf hv)
  have HF8 := Lib.hid (HF7.out.then hf)
  clear hf hv HK7 HF7
  go_wp2_with fail
  refine (NAdd_v 0 m HKK.out _ _ AB C S _ (HK8.out.get 5 rfl) (HK8.out.get 2 rfl) HLAB.out HLC.out HEl1.out).mono ?_
  rintro e w9 ⟨al1, cl1, rfl, hv, hf⟩
  have HK9 := Lib.hid (show Kp w9 [(.slice aa 32 ca, A), (.slice ab 32 cb, B), (.slice ac 32 cc, C), (.slice az 32 32, 0), (.slice aone 32 32, 1), (.slice aab 32 cab, AB), (.slice aba 32 cba, AB), (.slice abc 32 cbc, BC), (.slice al1 32 cl1, S)] from HK8.out.add hf hv)
  have HF9 := Lib.hid (HF8.out.then hf)
  clear hf hv HK8 HF8
  go_wp2_with fail
  refine (NAdd_v 0 m HKK.out _ _ A BC S _ (HK9.out.get 0 rfl) (HK9.out.get 7 rfl) HLA.out HLBC.out HEr1.out).mono ?_
  rintro e w10 ⟨ar1, cr1, rfl, hv, hf⟩
  have HK10 := Lib.hid (show Kp w10 [(.slice aa 32 ca, A), (.slice ab 32 cb, B), (.slice ac 32 cc, C), (.slice az 32 32, 0), (.slice aone 32 32, 1), (.slice aab 32 cab, AB), (.slice aba 32 cba, AB), (.slice abc 32 cbc, BC), (.slice al1 32 cl1, S), (.slice ar1 32 cr1, S)] from HK9.out.add hf hv)
  have HF10 := Lib.hid (HF9.out.then hf)
  clear hf hv HK9 HF9
  have hc0 := run_string (P := Try.prog) (HK10.out.rd 5 rfl) cab Try.underlying29 Try.underlying5 Try.underlying9
  have hc1 := run_string (P := Try.prog) (HK10.out.rd 6 rfl) cba Try.underlying29 Try.underlying5 Try.underlying9
  have hc2 := run_string (P := Try.prog) (HK10.out.rd 8 rfl) cl1 Try.underlying29 Try.underlying5 Try.underlying9
  have hc3 := run_string (P := Try.prog) (HK10.out.rd 9 rfl) cr1 Try.underlying29 Try.underlying5 Try.underlying9
  go_wp2_with fail
  refine (NMul_v 0 m HKK.out _ _ A B P _ (HK10.out.get 0 rfl) (HK10.out.get 1 rfl) HLA.out HLB.out HEm.out).mono ?_
  rintro e w11 ⟨am, cm, rfl, hv, hf⟩
  have HK11 := Lib.hid (show Kp w11 [(.slice aa 32 ca, A), (.slice ab 32 cb, B), (.slice ac 32 cc, C), (.slice az 32 32, 0), (.slice aone 32 32, 1), (.slice aab 32 cab, AB), (.slice aba 32 cba, AB), (.slice abc 32 cbc, BC), (.slice al1 32 cl1, S), (.slice ar1 32 cr1, S), (.slice am 32 cm, P)] from HK10.out.add hf hv)
  have HF11 := Lib.hid (HF10.out.then hf)
  clear hf hv HK10 HF10
  clear hc0 hc1 hc2 hc3
  go_wp2_with fail
  refine (NMul_v 0 m HKK.out _ _ B A P _ (HK11.out.get 1 rfl) (HK11.out.get 0 rfl) HLB.out HLA.out HEn.out).mono ?_
  rintro e w12 ⟨an, cn, rfl, hv, hf⟩
  have HK12 := Lib.hid (show Kp w12 [(.slice aa 32 ca, A), (.slice ab 32 cb, B), (.slice ac 32 cc, C), (.slice az 32 32, 0), (.slice aone 32 32, 1), (.slice aab 32 cab, AB), (.slice aba 32 cba, AB), (.slice abc 32 cbc, BC), (.slice al1 32 cl1, S), (.slice ar1 32 cr1, S), (.slice am 32 cm, P), (.slice an 32 cn, P)] from HK11.out.add hf hv)
  have HF12 := Lib.hid (HF11.out.then hf)
  clear hf hv HK11 HF11
  go_wp2_with fail
  refine (NMul_v 0 m HKK.out _ _ B C Q _ (HK12.out.get 1 rfl) (HK12.out.get 2 rfl) HLB.out HLC.out HEbm.out).mono ?_
  rintro e w13 ⟨abm, cbm, rfl, hv, hf⟩
  have HK13 := Lib.hid (show Kp w13 [(.slice aa 32 ca, A), (.slice ab 32 cb, B), (.slice ac 32 cc, C), (.slice az 32 32, 0), (.slice aone 32 32, 1), (.slice aab 32 cab, AB), (.slice aba 32 cba, AB), (.slice abc 32 cbc, BC), (.slice al1 32 cl1, S), (.slice ar1 32 cr1, S), (.slice am 32 cm, P), (.slice an 32 cn, P), (.slice abm 32 cbm, Q)] from HK12.out.add hf hv)
  have HF13 := Lib.hid (HF12.out.then hf)
  clear hf hv HK12 HF12
  go_wp2_with fail
  refine (NMul_v 0 m HKK.out _ _ P C T _ (HK13.out.get 10 rfl) (HK13.out.get 2 rfl) HLP.out HLC.out HEl2.out).mono ?_
  rintro e w14 ⟨al2, cl2, rfl, hv, hf⟩
  have HK14 := Lib.hid (show Kp w14 [(.slice aa 32 ca, A), (.slice ab 32 cb, B), (.slice ac 32 cc, C), (.slice az 32 32, 0), (.slice aone 32 32, 1), (.slice aab 32 cab, AB), (.slice aba 32 cba, AB), (.slice abc 32 cbc, BC), (.slice al1 32 cl1, S), (.slice ar1 32 cr1, S), (.slice am 32 cm, P), (.slice an 32 cn, P), (.slice abm 32 cbm, Q), (.slice al2 32 cl2, T)] from HK13.out.add hf hv)
  have HF14 := Lib.hid (HF13.out.then hf)
  clear hf hv HK13 HF13
  go_wp2_with fail
  refine (NMul_v 0 m HKK.out _ _ A Q T _ (HK14.out.get 0 rfl) (HK14.out.get 12 rfl) HLA.out HLQ.out HEr2.out).mono ?_
  rintro e w15 ⟨ar2, cr2, rfl, hv, hf⟩
  have HK15 := Lib.hid (show Kp w15 [(.slice aa 32 ca, A), (.slice ab 32 cb, B), (.slice ac 32 cc, C), (.slice az 32 32, 0), (.slice aone 32 32, 1), (.slice aab 32 cab, AB), (.slice aba 32 cba, AB), (.slice abc 32 cbc, BC), (.slice al1 32 cl1, S), (.slice ar1 32 cr1, S), (.slice am 32 cm, P), (.slice an 32 cn, P), (.slice abm 32 cbm, Q), (.slice al2 32 cl2, T), (.slice ar2 32 cr2, T)] from HK14.out.add hf hv)
  have HF15 := Lib.hid (HF14.out.then hf)
  clear hf hv HK14 HF14
  have hc0 := run_string (P := Try.prog) (HK15.out.rd 10 rfl) cm Try.underlying29 Try.underlying5 Try.underlying9
  have hc1 := run_string (P := Try.prog) (HK15.out.rd 11 rfl) cn Try.underlying29 Try.underlying5 Try.underlying9
  have hc2 := run_string (P := Try.prog) (HK15.out.rd 13 rfl) cl2 Try.underlying29 Try.underlying5 Try.underlying9
  have hc3 := run_string (P := Try.prog) (HK15.out.rd 14 rfl) cr2 Try.underlying29 Try.underlying5 Try.underlying9
  go_wp2_with fail
  refine (NMul_v 0 m HKK.out _ _ A C AC _ (HK15.out.get 0 rfl) (HK15.out.get 2 rfl) HLA.out HLC.out HEac.out).mono ?_
  rintro e w16 ⟨aac, cac, rfl, hv, hf⟩
  have HK16 := Lib.hid (show Kp w16 [(.slice aa 32 ca, A), (.slice ab 32 cb, B), (.slice ac 32 cc, C), (.slice az 32 32, 0), (.slice aone 32 32, 1), (.slice aab 32 cab, AB), (.slice aba 32 cba, AB), (.slice abc 32 cbc, BC), (.slice al1 32 cl1, S), (.slice ar1 32 cr1, S), (.slice am 32 cm, P), (.slice an 32 cn, P), (.slice abm 32 cbm, Q), (.slice al2 32 cl2, T), (.slice ar2 32 cr2, T), (.slice aac 32 cac, AC)] from HK15.out.add hf hv)
  have HF16 := Lib.hid (HF15.out.then hf)
  clear hf hv HK15 HF15
  clear hc0 hc1 hc2 hc3
  go_wp2_with fail
  refine (NMul_v 0 m HKK.out _ _ A BC D _ (HK16.out.get 0 rfl) (HK16.out.get 7 rfl) HLA.out HLBC.out HEl3.out).mono ?_
  rintro e w17 ⟨al3, cl3, rfl, hv, hf⟩
  have HK17 := Lib.hid (show Kp w17 [(.slice aa 32 ca, A), (.slice ab 32 cb, B), (.slice ac 32 cc, C), (.slice az 32 32, 0), (.slice aone 32 32, 1), (.slice aab 32 cab, AB), (.slice aba 32 cba, AB), (.slice abc 32 cbc, BC), (.slice al1 32 cl1, S), (.slice ar1 32 cr1, S), (.slice am 32 cm, P), (.slice an 32 cn, P), (.slice abm 32 cbm, Q), (.slice al2 32 cl2, T), (.slice ar2 32 cr2, T), (.slice aac 32 cac, AC), (.slice al3 32 cl3, D)] from HK16.out.add hf hv)
  have HF17 := Lib.hid (HF16.out.then hf)
  clear hf hv HK16 HF16
  go_wp2_with fail
  refine (NAdd_v 0 m HKK.out _ _ P AC D _ (HK17.out.get 10 rfl) (HK17.out.get 15 rfl) HLP.out HLAC.out HEr3.out).mono ?_
  rintro e w18 ⟨ar3, cr3, rfl, hv, hf⟩
  have HK18 := Lib.hid (show Kp w18 [(.slice aa 32 ca, A), (.slice ab 32 cb, B), (.slice ac 32 cc, C), (.slice az 32 32, 0), (.slice aone 32 32, 1), (.slice aab 32 cab, AB), (.slice aba 32 cba, AB), (.slice abc 32 cbc, BC), (.slice al1 32 cl1, S), (.slice ar1 32 cr1, S), (.slice am 32 cm, P), (.slice an 32 cn, P), (.slice abm 32 cbm, Q), (.slice al2 32 cl2, T), (.slice ar2 32 cr2, T), (.slice aac 32 cac, AC), (.slice al3 32 cl3, D), (.slice ar3 32 cr3, D)] from HK17.out.add hf hv)
  have HF18 := Lib.hid (HF17.out.then hf)
  clear hf hv HK17 HF17
  have hc0 := run_string (P := Try.prog) (HK18.out.rd 16 rfl) cl3 Try.underlying29 Try.underlying5 Try.underlying9
  have hc1 := run_string (P := Try.prog) (HK18.out.rd 17 rfl) cr3 Try.underlying29 Try.underlying5 Try.underlying9
  go_wp2_with fail
  refine (NSub_v 0 m HKK.out _ _ AB B A _ (HK18.out.get 5 rfl) (HK18.out.get 1 rfl) HLAB.out HLB.out HEd.out).mono ?_
  rintro e w19 ⟨ad, cd, rfl, hv, hf⟩
  have HK19 := Lib.hid (show Kp w19 [(.slice aa 32 ca, A), (.slice ab 32 cb, B), (.slice ac 32 cc, C), (.slice az 32 32, 0), (.slice aone 32 32, 1), (.slice aab 32 cab, AB), (.slice aba 32 cba, AB), (.slice abc 32 cbc, BC), (.slice al1 32 cl1, S), (.slice ar1 32 cr1, S), (.slice am 32 cm, P), (.slice an 32 cn, P), (.slice abm 32 cbm, Q), (.slice al2 32 cl2, T), (.slice ar2 32 cr2, T), (.slice aac 32 cac, AC), (.slice al3 32 cl3, D), (.slice ar3 32 cr3, D), (.slice ad 32 cd, A)] from HK18.out.add hf hv)
  have HF19 := Lib.hid (HF18.out.then hf)
  clear hf hv HK18 HF18
  clear hc0 hc1
  go_wp2_with fail
  refine (NSub_v 0 m HKK.out _ _ A A 0 _ (HK19.out.get 0 rfl) (HK19.out.get 0 rfl) HLA.out HLA.out HEzz.out).mono ?_
  rintro e w20 ⟨azz, czz, rfl, hv, hf⟩
  have HK20 := Lib.hid (show Kp w20 [(.slice aa 32 ca, A), (.slice ab 32 cb, B), (.slice ac 32 cc, C), (.slice az 32 32, 0), (.slice aone 32 32, 1), (.slice aab 32 cab, AB), (.slice aba 32 cba, AB), (.slice abc 32 cbc, BC), (.slice al1 32 cl1, S), (.slice ar1 32 cr1, S), (.slice am 32 cm, P), (.slice an 32 cn, P), (.slice abm 32 cbm, Q), (.slice al2 32 cl2, T), (.slice ar2 32 cr2, T), (.slice aac 32 cac, AC), (.slice al3 32 cl3, D), (.slice ar3 32 cr3, D), (.slice ad 32 cd, A), (.slice azz 32 czz, 0)] from HK19.out.add hf hv)
  have HF20 := Lib.hid (HF19.out.then hf)
  clear hf hv HK19 HF19
  go_wp2_with fail
  refine (NMul_v 0 m HKK.out _ _ A 1 A _ (HK20.out.get 0 rfl) (HK20.out.get 4 rfl) HLA.out HL1.out HEx.out).mono ?_
  rintro e w21 ⟨ax, cx, rfl, hv, hf⟩
  have HK21 := Lib.hid (show Kp w21 [(.slice aa 32 ca, A), (.slice ab 32 cb, B), (.slice ac 32 cc, C), (.slice az 32 32, 0), (.slice aone 32 32, 1), (.slice aab 32 cab, AB), (.slice aba 32 cba, AB), (.slice abc 32 cbc, BC), (.slice al1 32 cl1, S), (.slice ar1 32 cr1, S), (.slice am 32 cm, P), (.slice an 32 cn, P), (.slice abm 32 cbm, Q), (.slice al2 32 cl2, T), (.slice ar2 32 cr2, T), (.slice aac 32 cac, AC), (.slice al3 32 cl3, D), (.slice ar3 32 cr3, D), (.slice ad 32 cd, A), (.slice azz 32 czz, 0), (.slice ax 32 cx, A)] from HK20.out.add hf hv)
  have HF21 := Lib.hid (HF20.out.then hf)
  clear hf hv HK20 HF20
  have hc0 := run_string (P := Try.prog) (HK21.out.rd 18 rfl) cd Try.underlying29 Try.underlying5 Try.underlying9
  have hc1 := run_string (P := Try.prog) (HK21.out.rd 0 rfl) ca Try.underlying29 Try.underlying5 Try.underlying9
  have hc2 := run_string (P := Try.prog) (HK21.out.rd 19 rfl) czz Try.underlying29 Try.underlying5 Try.underlying9
  have hc3 := run_string (P := Try.prog) (HK21.out.rd 3 rfl) 32 Try.underlying29 Try.underlying5 Try.underlying9
  have hc4 := run_string (P := Try.prog) (HK21.out.rd 20 rfl) cx Try.underlying29 Try.underlying5 Try.underlying9
  go_wp2_with fail
  refine (NInv_v 0 m HKK.out _ A I _ (HK21.out.get 0 rfl) HLA.out HEi.out).mono ?_
  rintro e w22 ⟨ai, ci, rfl, hv, hf⟩
  have HK22 := Lib.hid (show Kp w22 [(.slice aa 32 ca, A), (.slice ab 32 cb, B), (.slice ac 32 cc, C), (.slice az 32 32, 0), (.slice aone 32 32, 1), (.slice aab 32 cab, AB), (.slice aba 32 cba, AB), (.slice abc 32 cbc, BC), (.slice al1 32 cl1, S), (.slice ar1 32 cr1, S), (.slice am 32 cm, P), (.slice an 32 cn, P), (.slice abm 32 cbm, Q), (.slice al2 32 cl2, T), (.slice ar2 32 cr2, T), (.slice aac 32 cac, AC), (.slice al3 32 cl3, D), (.slice ar3 32 cr3, D), (.slice ad 32 cd, A), (.slice azz 32 czz, 0), (.slice ax 32 cx, A), (.slice ai 32 ci, I)] from HK21.out.add hf hv)
  have HF22 := Lib.hid (HF21.out.then hf)
  clear hf hv HK21 HF21
  clear hc0 hc1 hc2 hc3 hc4
  go_wp2_with fail
  refine (NMul_v 0 m HKK.out _ _ A I 1 _ (HK22.out.get 0 rfl) (HK22.out.get 21 rfl) HLA.out HLI.out HEpi.out).mono ?_
  rintro e w23 ⟨api, cpi, rfl, hv, hf⟩
  have HK23 := Lib.hid (show Kp w23 [(.slice aa 32 ca, A), (.slice ab 32 cb, B), (.slice ac 32 cc, C), (.slice az 32 32, 0), (.slice aone 32 32, 1), (.slice aab 32 cab, AB), (.slice aba 32 cba, AB), (.slice abc 32 cbc, BC), (.slice al1 32 cl1, S), (.slice ar1 32 cr1, S), (.slice am 32 cm, P), (.slice an 32 cn, P), (.slice abm 32 cbm, Q), (.slice al2 32 cl2, T), (.slice ar2 32 cr2, T), (.slice aac 32 cac, AC), (.slice al3 32 cl3, D), (.slice ar3 32 cr3, D), (.slice ad 32 cd, A), (.slice azz 32 czz, 0), (.slice ax 32 cx, A), (.slice ai 32 ci, I), (.slice api 32 cpi, 1)] from HK22.out.add hf hv)
  have HF23 := Lib.hid (HF22.out.then hf)
  clear hf hv HK22 HF22
  have hc0 := run_string (P := Try.prog) (HK23.out.rd 0 rfl) ca Try.underlying29 Try.underlying5 Try.underlying9
  have hc1 := run_string (P := Try.prog) (HK23.out.rd 3 rfl) 32 Try.underlying29 Try.underlying5 Try.underlying9
  have hc2 := run_string (P := Try.prog) (HK23.out.rd 22 rfl) cpi Try.underlying29 Try.underlying5 Try.underlying9
  have hc3 := run_string (P := Try.prog) (HK23.out.rd 4 rfl) 32 Try.underlying29 Try.underlying5 Try.underlying9
  have hc4 := run_string (P := Try.prog) (HK23.out.rd 21 rfl) ci Try.underlying29 Try.underlying5 Try.underlying9
  have hne := HNE.out
  go_wp2_with fail
  refine (NMul_v 0 m HKK.out _ _ A A QQ _ (HK23.out.get 0 rfl) (HK23.out.get 0 rfl) HLA.out HLA.out HEq.out).mono ?_
  rintro e w24 ⟨aq, cq, rfl, hv, hf⟩
  have HK24 := Lib.hid (show Kp w24 [(.slice aa 32 ca, A), (.slice ab 32 cb, B), (.slice ac 32 cc, C), (.slice az 32 32, 0), (.slice aone 32 32, 1), (.slice aab 32 cab, AB), (.slice aba 32 cba, AB), (.slice abc 32 cbc, BC), (.slice al1 32 cl1, S), (.slice ar1 32 cr1, S), (.slice am 32 cm, P), (.slice an 32 cn, P), (.slice abm 32 cbm, Q), (.slice al2 32 cl2, T), (.slice ar2 32 cr2, T), (.slice aac 32 cac, AC), (.slice al3 32 cl3, D), (.slice ar3 32 cr3, D), (.slice ad 32 cd, A), (.slice azz 32 czz, 0), (.slice ax 32 cx, A), (.slice ai 32 ci, I), (.slice api 32 cpi, 1), (.slice aq 32 cq, QQ)] from HK23.out.add hf hv)
  have HF24 := Lib.hid (HF23.out.then hf)
  clear hf hv HK23 HF23
  clear hc0 hc1 hc2 hc3 hc4 hne
  go_wp2_with fail
  refine (NSqrt_v m HKK.out _ QQ WW _ (HK24.out.get 23 rfl) HLQQ.out HRO.out HEw.out).mono ?_
  rintro e w25 ⟨aw, cw, rfl, hv, hf⟩
  have HK25 := Lib.hid (show Kp w25 [(.slice aa 32 ca, A), (.slice ab 32 cb, B), (.slice ac 32 cc, C), (.slice az 32 32, 0), (.slice aone 32 32, 1), (.slice aab 32 cab, AB), (.slice aba 32 cba, AB), (.slice abc 32 cbc, BC), (.slice al1 32 cl1, S), (.slice ar1 32 cr1, S), (.slice am 32 cm, P), (.slice an 32 cn, P), (.slice abm 32 cbm, Q), (.slice al2 32 cl2, T), (.slice ar2 32 cr2, T), (.slice aac 32 cac, AC), (.slice al3 32 cl3, D), (.slice ar3 32 cr3, D), (.slice ad 32 cd, A), (.slice azz 32 czz, 0), (.slice ax 32 cx, A), (.slice ai 32 ci, I), (.slice api 32 cpi, 1), (.slice aq 32 cq, QQ), (.slice aw 32 cw, WW)] from HK24.out.add hf hv)
  have HF25 := Lib.hid (HF24.out.then hf)
  clear hf hv HK24 HF24
  go_wp2_with fail
  refine (NSub_v 0 m HKK.out _ _ 0 A O _ (HK25.out.get 3 rfl) (HK25.out.get 0 rfl) HL0.out HLA.out HEo.out).mono ?_
  rintro e w26 ⟨ao, co, rfl, hv, hf⟩
  have HK26 := Lib.hid (show Kp w26 [(.slice aa 32 ca, A), (.slice ab 32 cb, B), (.slice ac 32 cc, C), (.slice az 32 32, 0), (.slice aone 32 32, 1), (.slice aab 32 cab, AB), (.slice aba 32 cba, AB), (.slice abc 32 cbc, BC), (.slice al1 32 cl1, S), (.slice ar1 32 cr1, S), (.slice am 32 cm, P), (.slice an 32 cn, P), (.slice abm 32 cbm, Q), (.slice al2 32 cl2, T), (.slice ar2 32 cr2, T), (.slice aac 32 cac, AC), (.slice al3 32 cl3, D), (.slice ar3 32 cr3, D), (.slice ad 32 cd, A), (.slice azz 32 czz, 0), (.slice ax 32 cx, A), (.slice ai 32 ci, I), (.slice api 32 cpi, 1), (.slice aq 32 cq, QQ), (.slice aw 32 cw, WW), (.slice ao 32 co, O)] from HK25.out.add hf hv)
  have HF26 := Lib.hid (HF25.out.then hf)
  clear hf hv HK25 HF25
  have hc0 := run_string (P := Try.prog) (HK26.out.rd 24 rfl) cw Try.underlying29 Try.underlying5 Try.underlying9
  have hc1 := run_string (P := Try.prog) (HK26.out.rd 0 rfl) ca Try.underlying29 Try.underlying5 Try.underlying9
  have hc2 := run_string (P := Try.prog) (HK26.out.rd 25 rfl) co Try.underlying29 Try.underlying5 Try.underlying9
  obtain ⟨bw, ow, haw, -⟩ := (HK26.out.rd 24 rfl).at (by omega)
  subst haw
  have hcl := rd_cell (HK26.out.rd 24 rfl) 31 (.int .u8 ((UInt8.ofNat WW).toNat : Int)) (bs_at (be32_low WW))
  have hbit : bits .and .u8 ((UInt8.ofNat WW).toNat : Int) 1 = 0 := HBIT.out
  have HFE := Lib.hid HF26.out
  by_cases hw : WW = A
  · subst hw
    go_wp2_with fail
    go_ret
    exact ⟨rfl, HFE.out⟩
  · have hsn := str_ne (Nat.lt_trans HLWW.out HKK.out.ok.lt) (Nat.lt_trans HLA.out HKK.out.ok.lt) hw
    have ho := HWW.out.resolve_left hw
    clear hw
    subst ho
    go_wp2_with fail
    go_ret
    exact ⟨rfl, HFE.out⟩

set_option maxHeartbeats 32000000 in
set_option maxRecDepth 1000000 in
theorem NumLaws_k0_n_p (kd : Int) (m : Md) (hk : KindOf 0 m) (s t u : ByteArray) (w0 : World) (hs : s.size ≤ 1024) (ht : t.size ≤ 1024) (hu : u.size ≤ 1024) (A B C AB BC S P Q T AC D I PI QQ WW O : Nat) (eab : (A + B) % m.M = AB) (eba : (B + A) % m.M = AB) (ebc : (B + C) % m.M = BC) (el1 : (AB + C) % m.M = S) (er1 : (A + BC) % m.M = S) (em : A * B % m.M = P) (en : B * A % m.M = P) (ebm : B * C % m.M = Q) (el2 : P * C % m.M = T) (er2 : A * Q % m.M = T) (eac : A * C % m.M = AC) (el3 : A * BC % m.M = D) (er3 : (P + AC) % m.M = D) (ed : (AB + (m.M - B)) % m.M = A) (ezz : (A + (m.M - A)) % m.M = 0) (ex : A * 1 % m.M = A) (ei : A ^ (m.M - 2) % m.M = I) (epi : A * I % m.M = PI) (eq : A * A % m.M = QQ) (ew : rtV m.M QQ % m.M = WW) (eo : (0 + (m.M - A)) % m.M = O) (lA : A < m.M) (lB : B < m.M) (lC : C < m.M) (lAB : AB < m.M) (lBC : BC < m.M) (lP : P < m.M) (lQ : Q < m.M) (lAC : AC < m.M) (lI : I < m.M) (l1 : 1 < m.M) (l0 : 0 < m.M) (lQQ : QQ < m.M) (lWW : WW < m.M) (rA : beN s.data.toList % m.M = A) (rB : beN t.data.toList % m.M = B) (rC : beN u.data.toList % m.M = C) (hA : A ≠ 0) (hPI : PI = 1) (hro : rtOk m.M QQ = true) (hev : WW % 2 = 0) (hww : WW = A ∨ WW = O) (hkd : ¬ (kd < 0)) (hlo : -9223372036854775808 ≤ kd ∧ kd ≤ 9223372036854775807) (hrem : kd % 2 = 0) :
    Calls Try.prog 8 #[.int .i64 kd, .string s, .string t, .string u] w0 fun e w' => e = .returned (.bool true) ∧ Fr Nob w0 w' := by
  have hgs : ¬ ((1024 : Int) < (s.size : Int)) := by omega
  have hgt : ¬ ((1024 : Int) < (t.size : Int)) := by omega
  have hgu : ¬ ((1024 : Int) < (u.size : Int)) := by omega
  have HREM := Lib.hid hrem
  clear hrem
  have HKK := Lib.hid hk
  have HEab := Lib.hid eab
  have HEba := Lib.hid eba
  have HEbc := Lib.hid ebc
  have HEl1 := Lib.hid el1
  have HEr1 := Lib.hid er1
  have HEm := Lib.hid em
  have HEn := Lib.hid en
  have HEbm := Lib.hid ebm
  have HEl2 := Lib.hid el2
  have HEr2 := Lib.hid er2
  have HEac := Lib.hid eac
  have HEl3 := Lib.hid el3
  have HEr3 := Lib.hid er3
  have HEd := Lib.hid ed
  have HEzz := Lib.hid ezz
  have HEx := Lib.hid ex
  have HEi := Lib.hid ei
  have HEpi := Lib.hid epi
  have HEq := Lib.hid eq
  have HEw := Lib.hid ew
  have HEo := Lib.hid eo
  have HLA := Lib.hid lA
  have HLB := Lib.hid lB
  have HLC := Lib.hid lC
  have HLAB := Lib.hid lAB
  have HLBC := Lib.hid lBC
  have HLP := Lib.hid lP
  have HLQ := Lib.hid lQ
  have HLAC := Lib.hid lAC
  have HLI := Lib.hid lI
  have HL1 := Lib.hid l1
  have HL0 := Lib.hid l0
  have HLQQ := Lib.hid lQQ
  have HLWW := Lib.hid lWW
  have HRA := Lib.hid rA
  have HRB := Lib.hid rB
  have HRC := Lib.hid rC
  have HSs := Lib.hid hs
  have HSt := Lib.hid ht
  have HSu := Lib.hid hu
  have HNE := Lib.hid (str_ne (Nat.lt_trans lA hk.ok.lt) (show 0 < B64 ^ 4 by decide) hA)
  have HRO := Lib.hid hro
  have HWW := Lib.hid hww
  have HBIT := Lib.hid (even_bit WW hev)
  clear hk eab eba ebc el1 er1 em en ebm el2 er2 eac el3 er3 ed ezz ex ei epi eq ew eo lA lB lC lAB lBC lP lQ lAC lI l1 l0 lQQ lWW rA rB rC hs ht hu hro hev hww hA
  subst hPI
  obtain ⟨hlo1, hlo2⟩ := hlo
  go_enter Try.func8, Try.ntmps8
  have HK0 := Lib.hid (Kp.nil w0)
  have HF0 := Lib.hid (Fr.refl Nob w0)
  go_wp2_with (with_reducible refine wl_stop (o := ⟨some 74, _, _, _, _, _⟩) ?_)
  rw [HREM.out]
  refine wl_bytes (q := s) rfl rfl Try.underlying9 Try.underlying29 Try.underlying5 rfl (by have := HSs.out; unfold maxLen; omega) w0.heap.size (Nat.le_refl _) ?_
  intro cap wb hown hfb hzb
  clear hzb
  have HPB := Lib.hid (BPart.ofOwn hown)
  generalize w0.heap.size = gb at *
  have HKb := Lib.hid (HK0.out.still hfb)
  have HFb := Lib.hid (HF0.out.then hfb)
  clear hown hfb HK0 HF0
  rename Hid (Kp wb _) => HK0
  rename Hid (Fr Nob w0 wb) => HF0
  go_wp2_with fail
  refine (NReduce_v 0 m HKK.out _ s.data.toList A _ HPB.out (by have := HSs.out; simpa using this) HRA.out).mono ?_
  rintro e w1 ⟨aa, ca, rfl, hv, hf⟩
  have HK1 := Lib.hid (show Kp w1 [(.slice aa 32 ca, A)] from HK0.out.add hf hv)
  have HF1 := Lib.hid (HF0.out.then hf)
  clear hf hv HK0 HF0
  clear HPB
  go_wp2_with (with_reducible refine wl_stop (o := ⟨some 81, _, _, _, _, _⟩) ?_)
  refine wl_bytes (q := t) rfl rfl Try.underlying9 Try.underlying29 Try.underlying5 rfl (by have := HSt.out; unfold maxLen; omega) w1.heap.size (Nat.le_refl _) ?_
  intro cap wb hown hfb hzb
  clear hzb
  have HPB := Lib.hid (BPart.ofOwn hown)
  generalize w1.heap.size = gb at *
  have HKb := Lib.hid (HK1.out.still hfb)
  have HFb := Lib.hid (HF1.out.then hfb)
  clear hown hfb HK1 HF1
  rename Hid (Kp wb _) => HK1
  rename Hid (Fr Nob w0 wb) => HF1
  go_wp2_with fail
  refine (NReduce_v 0 m HKK.out _ t.data.toList B _ HPB.out (by have := HSt.out; simpa using this) HRB.out).mono ?_
  rintro e w2 ⟨ab, cb, rfl, hv, hf⟩
  have HK2 := Lib.hid (show Kp w2 [(.slice aa 32 ca, A), (.slice ab 32 cb, B)] from HK1.out.add hf hv)
  have HF2 := Lib.hid (HF1.out.then hf)
  clear hf hv HK1 HF1
  clear HPB
  go_wp2_with (with_reducible refine wl_stop (o := ⟨some 88, _, _, _, _, _⟩) ?_)
  refine wl_bytes (q := u) rfl rfl Try.underlying9 Try.underlying29 Try.underlying5 rfl (by have := HSu.out; unfold maxLen; omega) w2.heap.size (Nat.le_refl _) ?_
  intro cap wb hown hfb hzb
  clear hzb
  have HPB := Lib.hid (BPart.ofOwn hown)
  generalize w2.heap.size = gb at *
  have HKb := Lib.hid (HK2.out.still hfb)
  have HFb := Lib.hid (HF2.out.then hfb)
  clear hown hfb HK2 HF2
  rename Hid (Kp wb _) => HK2
  rename Hid (Fr Nob w0 wb) => HF2
  go_wp2_with fail
  refine (NReduce_v 0 m HKK.out _ u.data.toList C _ HPB.out (by have := HSu.out; simpa using this) HRC.out).mono ?_
  rintro e w3 ⟨ac, cc, rfl, hv, hf⟩
  have HK3 := Lib.hid (show Kp w3 [(.slice aa 32 ca, A), (.slice ab 32 cb, B), (.slice ac 32 cc, C)] from HK2.out.add hf hv)
  have HF3 := Lib.hid (HF2.out.then hf)
  clear hf hv HK2 HF2
  clear HPB
  go_wp2_with (with_reducible refine wl_stop (o := ⟨some 107, _, _, _, _, _⟩) ?_)
  refine wl_make rfl rfl Try.underlying29 info_u8 rfl rfl rfl 32 32 (by simp) (by simp) (by omega) (by omega) (by unfold maxLen; omega) ?_
  intro w4 hgz hf hzz
  clear hzz
  have hv : BPart w4 (.slice (some ⟨w3.heap.size, 0, none⟩) 32 32) (be32 0) := ⟨_, 32, 32, rfl, by omega, by rw [be32_zero]; exact Rd.whole hgz⟩
  have HGZ := Lib.hid hgz
  clear hgz
  generalize haz : (some (⟨w3.heap.size, 0, none⟩ : Addr)) = az at *
  clear haz HGZ
  have HK4 := Lib.hid (show Kp w4 [(.slice aa 32 ca, A), (.slice ab 32 cb, B), (.slice ac 32 cc, C), (.slice az 32 32, 0)] from HK3.out.add hf hv)
  have HF4 := Lib.hid (HF3.out.then hf)
  clear hf hv HK3 HF3
  go_wp2_with (with_reducible refine wl_stop (o := ⟨some 108, _, _, _, _, _⟩) ?_)
  refine wl_make rfl rfl Try.underlying29 info_u8 rfl rfl rfl 32 32 (by simp) (by simp) (by omega) (by omega) (by unfold maxLen; omega) ?_
  intro wm hgo hfm hzo
  clear hzo
  generalize hgw : w4.heap.size = go at *
  have HGW := Lib.hid hgw
  clear hgw
  obtain ⟨z31, hz1, hz2⟩ := hgo.ready (i := 31) (by simp)
  have HGO := Lib.hid hgo
  have HFM := Lib.hid hfm
  clear hgo hfm
  go_wp2_with fail
  obtain ⟨w5, hwn⟩ : ∃ x, x = wm.setCell ⟨go, 31, none⟩ (.int .u8 1) := ⟨_, rfl⟩
  have hgs := HGO.out.set 31 (.int .u8 1)
  have hfs : Fr Nob w4 (wm.setCell ⟨go, 31, none⟩ (.int .u8 1)) := HFM.out.trans ((Fr.refl (One go) wm).setCell go 31 none _ (fun _ => rfl)) (fun j hj hjg => by have e : j = go := hjg; have := HGW.out; omega)
  rw [← hwn] at hgs hfs ⊢
  clear hwn hz1 hz2
  have hf := hfs
  clear hfs
  have hv : BPart w5 (.slice (some ⟨go, 0, none⟩) 32 32) (be32 1) := ⟨_, 32, 32, rfl, by omega, by rw [be32_one]; exact Rd.whole hgs⟩
  clear hgs HGO HFM HGW
  generalize (some (⟨go, 0, none⟩ : Addr)) = aone at *
  have HK5 := Lib.hid (show Kp w5 [(.slice aa 32 ca, A), (.slice ab 32 cb, B), (.slice ac 32 cc, C), (.slice az 32 32, 0), (.slice aone 32 32, 1)] from HK4.out.add hf hv)
  have HF5 := Lib.hid (HF4.out.then hf)
  clear hf hv HK4 HF4
  refine (NAdd_v 0 m HKK.out _ _ A B AB _ (HK5.out.get 0 rfl) (HK5.out.get 1 rfl) HLA.out HLB.out HEab.out).mono ?_
  rintro e w6 ⟨aab, cab, rfl, hv, hf⟩
  have HK6 := Lib.hid (show Kp w6 [(.slice aa 32 ca, A), (.slice ab 32 cb, B), (.slice ac 32 cc, C), (.slice az 32 32, 0), (.slice aone 32 32, 1), (.slice aab 32 cab, AB)] from HK5.out.add hf hv)
  have HF6 := Lib.hid (HF5.out.then hf)
  clear hf hv HK5 HF5
  go_wp2_with fail
  refine (NAdd_v 0 m HKK.out _ _ B A AB _ (HK6.out.get 1 rfl) (HK6.out.get 0 rfl) HLB.out HLA.out HEba.out).mono ?_
  rintro e w7 ⟨aba, cba, rfl, hv, hf⟩
  have HK7 := Lib.hid (show Kp w7 [(.slice aa 32 ca, A), (.slice ab 32 cb, B), (.slice ac 32 cc, C), (.slice az 32 32, 0), (.slice aone 32 32, 1), (.slice aab 32 cab, AB), (.slice aba 32 cba, AB)] from HK6.out.add hf hv)
  have HF7 := Lib.hid (HF6.out.then hf)
  clear hf hv HK6 HF6
  go_wp2_with fail
  refine (NAdd_v 0 m HKK.out _ _ B C BC _ (HK7.out.get 1 rfl) (HK7.out.get 2 rfl) HLB.out HLC.out HEbc.out).mono ?_
  rintro e w8 ⟨abc, cbc, rfl, hv, hf⟩
  have HK8 := Lib.hid (show Kp w8 [(.slice aa 32 ca, A), (.slice ab 32 cb, B), (.slice ac 32 cc, C), (.slice az 32 32, 0), (.slice aone 32 32, 1), (.slice aab 32 cab, AB), (.slice aba 32 cba, AB), (.slice abc 32 cbc, BC)] from HK7.out.add hf hv)
  have HF8 := Lib.hid (HF7.out.then hf)
  clear hf hv HK7 HF7
  go_wp2_with fail
  refine (NAdd_v 0 m HKK.out _ _ AB C S _ (HK8.out.get 5 rfl) (HK8.out.get 2 rfl) HLAB.out HLC.out HEl1.out).mono ?_
  rintro e w9 ⟨al1, cl1, rfl, hv, hf⟩
  have HK9 := Lib.hid (show Kp w9 [(.slice aa 32 ca, A), (.slice ab 32 cb, B), (.slice ac 32 cc, C), (.slice az 32 32, 0), (.slice aone 32 32, 1), (.slice aab 32 cab, AB), (.slice aba 32 cba, AB), (.slice abc 32 cbc, BC), (.slice al1 32 cl1, S)] from HK8.out.add hf hv)
  have HF9 := Lib.hid (HF8.out.then hf)
  clear hf hv HK8 HF8
  go_wp2_with fail
  refine (NAdd_v 0 m HKK.out _ _ A BC S _ (HK9.out.get 0 rfl) (HK9.out.get 7 rfl) HLA.out HLBC.out HEr1.out).mono ?_
  rintro e w10 ⟨ar1, cr1, rfl, hv, hf⟩
  have HK10 := Lib.hid (show Kp w10 [(.slice aa 32 ca, A), (.slice ab 32 cb, B), (.slice ac 32 cc, C), (.slice az 32 32, 0), (.slice aone 32 32, 1), (.slice aab 32 cab, AB), (.slice aba 32 cba, AB), (.slice abc 32 cbc, BC), (.slice al1 32 cl1, S), (.slice ar1 32 cr1, S)] from HK9.out.add hf hv)
  have HF10 := Lib.hid (HF9.out.then hf)
  clear hf hv HK9 HF9
  have hc0 := run_string (P := Try.prog) (HK10.out.rd 5 rfl) cab Try.underlying29 Try.underlying5 Try.underlying9
  have hc1 := run_string (P := Try.prog) (HK10.out.rd 6 rfl) cba Try.underlying29 Try.underlying5 Try.underlying9
  have hc2 := run_string (P := Try.prog) (HK10.out.rd 8 rfl) cl1 Try.underlying29 Try.underlying5 Try.underlying9
  have hc3 := run_string (P := Try.prog) (HK10.out.rd 9 rfl) cr1 Try.underlying29 Try.underlying5 Try.underlying9
  go_wp2_with fail
  refine (NMul_v 0 m HKK.out _ _ A B P _ (HK10.out.get 0 rfl) (HK10.out.get 1 rfl) HLA.out HLB.out HEm.out).mono ?_
  rintro e w11 ⟨am, cm, rfl, hv, hf⟩
  have HK11 := Lib.hid (show Kp w11 [(.slice aa 32 ca, A), (.slice ab 32 cb, B), (.slice ac 32 cc, C), (.slice az 32 32, 0), (.slice aone 32 32, 1), (.slice aab 32 cab, AB), (.slice aba 32 cba, AB), (.slice abc 32 cbc, BC), (.slice al1 32 cl1, S), (.slice ar1 32 cr1, S), (.slice am 32 cm, P)] from HK10.out.add hf hv)
  have HF11 := Lib.hid (HF10.out.then hf)
  clear hf hv HK10 HF10
  clear hc0 hc1 hc2 hc3
  go_wp2_with fail
  refine (NMul_v 0 m HKK.out _ _ B A P _ (HK11.out.get 1 rfl) (HK11.out.get 0 rfl) HLB.out HLA.out HEn.out).mono ?_
  rintro e w12 ⟨an, cn, rfl, hv, hf⟩
  have HK12 := Lib.hid (show Kp w12 [(.slice aa 32 ca, A), (.slice ab 32 cb, B), (.slice ac 32 cc, C), (.slice az 32 32, 0), (.slice aone 32 32, 1), (.slice aab 32 cab, AB), (.slice aba 32 cba, AB), (.slice abc 32 cbc, BC), (.slice al1 32 cl1, S), (.slice ar1 32 cr1, S), (.slice am 32 cm, P), (.slice an 32 cn, P)] from HK11.out.add hf hv)
  have HF12 := Lib.hid (HF11.out.then hf)
  clear hf hv HK11 HF11
  go_wp2_with fail
  refine (NMul_v 0 m HKK.out _ _ B C Q _ (HK12.out.get 1 rfl) (HK12.out.get 2 rfl) HLB.out HLC.out HEbm.out).mono ?_
  rintro e w13 ⟨abm, cbm, rfl, hv, hf⟩
  have HK13 := Lib.hid (show Kp w13 [(.slice aa 32 ca, A), (.slice ab 32 cb, B), (.slice ac 32 cc, C), (.slice az 32 32, 0), (.slice aone 32 32, 1), (.slice aab 32 cab, AB), (.slice aba 32 cba, AB), (.slice abc 32 cbc, BC), (.slice al1 32 cl1, S), (.slice ar1 32 cr1, S), (.slice am 32 cm, P), (.slice an 32 cn, P), (.slice abm 32 cbm, Q)] from HK12.out.add hf hv)
  have HF13 := Lib.hid (HF12.out.then hf)
  clear hf hv HK12 HF12
  go_wp2_with fail
  refine (NMul_v 0 m HKK.out _ _ P C T _ (HK13.out.get 10 rfl) (HK13.out.get 2 rfl) HLP.out HLC.out HEl2.out).mono ?_
  rintro e w14 ⟨al2, cl2, rfl, hv, hf⟩
  have HK14 := Lib.hid (show Kp w14 [(.slice aa 32 ca, A), (.slice ab 32 cb, B), (.slice ac 32 cc, C), (.slice az 32 32, 0), (.slice aone 32 32, 1), (.slice aab 32 cab, AB), (.slice aba 32 cba, AB), (.slice abc 32 cbc, BC), (.slice al1 32 cl1, S), (.slice ar1 32 cr1, S), (.slice am 32 cm, P), (.slice an 32 cn, P), (.slice abm 32 cbm, Q), (.slice al2 32 cl2, T)] from HK13.out.add hf hv)
  have HF14 := Lib.hid (HF13.out.then hf)
  clear hf hv HK13 HF13
  go_wp2_with fail
  refine (NMul_v 0 m HKK.out _ _ A Q T _ (HK14.out.get 0 rfl) (HK14.out.get 12 rfl) HLA.out HLQ.out HEr2.out).mono ?_
  rintro e w15 ⟨ar2, cr2, rfl, hv, hf⟩
  have HK15 := Lib.hid (show Kp w15 [(.slice aa 32 ca, A), (.slice ab 32 cb, B), (.slice ac 32 cc, C), (.slice az 32 32, 0), (.slice aone 32 32, 1), (.slice aab 32 cab, AB), (.slice aba 32 cba, AB), (.slice abc 32 cbc, BC), (.slice al1 32 cl1, S), (.slice ar1 32 cr1, S), (.slice am 32 cm, P), (.slice an 32 cn, P), (.slice abm 32 cbm, Q), (.slice al2 32 cl2, T), (.slice ar2 32 cr2, T)] from HK14.out.add hf hv)
  have HF15 := Lib.hid (HF14.out.then hf)
  clear hf hv HK14 HF14
  have hc0 := run_string (P := Try.prog) (HK15.out.rd 10 rfl) cm Try.underlying29 Try.underlying5 Try.underlying9
  have hc1 := run_string (P := Try.prog) (HK15.out.rd 11 rfl) cn Try.underlying29 Try.underlying5 Try.underlying9
  have hc2 := run_string (P := Try.prog) (HK15.out.rd 13 rfl) cl2 Try.underlying29 Try.underlying5 Try.underlying9
  have hc3 := run_string (P := Try.prog) (HK15.out.rd 14 rfl) cr2 Try.underlying29 Try.underlying5 Try.underlying9
  go_wp2_with fail
  refine (NMul_v 0 m HKK.out _ _ A C AC _ (HK15.out.get 0 rfl) (HK15.out.get 2 rfl) HLA.out HLC.out HEac.out).mono ?_
  rintro e w16 ⟨aac, cac, rfl, hv, hf⟩
  have HK16 := Lib.hid (show Kp w16 [(.slice aa 32 ca, A), (.slice ab 32 cb, B), (.slice ac 32 cc, C), (.slice az 32 32, 0), (.slice aone 32 32, 1), (.slice aab 32 cab, AB), (.slice aba 32 cba, AB), (.slice abc 32 cbc, BC), (.slice al1 32 cl1, S), (.slice ar1 32 cr1, S), (.slice am 32 cm, P), (.slice an 32 cn, P), (.slice abm 32 cbm, Q), (.slice al2 32 cl2, T), (.slice ar2 32 cr2, T), (.slice aac 32 cac, AC)] from HK15.out.add hf hv)
  have HF16 := Lib.hid (HF15.out.then hf)
  clear hf hv HK15 HF15
  clear hc0 hc1 hc2 hc3
  go_wp2_with fail
  refine (NMul_v 0 m HKK.out _ _ A BC D _ (HK16.out.get 0 rfl) (HK16.out.get 7 rfl) HLA.out HLBC.out HEl3.out).mono ?_
  rintro e w17 ⟨al3, cl3, rfl, hv, hf⟩
  have HK17 := Lib.hid (show Kp w17 [(.slice aa 32 ca, A), (.slice ab 32 cb, B), (.slice ac 32 cc, C), (.slice az 32 32, 0), (.slice aone 32 32, 1), (.slice aab 32 cab, AB), (.slice aba 32 cba, AB), (.slice abc 32 cbc, BC), (.slice al1 32 cl1, S), (.slice ar1 32 cr1, S), (.slice am 32 cm, P), (.slice an 32 cn, P), (.slice abm 32 cbm, Q), (.slice al2 32 cl2, T), (.slice ar2 32 cr2, T), (.slice aac 32 cac, AC), (.slice al3 32 cl3, D)] from HK16.out.add hf hv)
  have HF17 := Lib.hid (HF16.out.then hf)
  clear hf hv HK16 HF16
  go_wp2_with fail
  refine (NAdd_v 0 m HKK.out _ _ P AC D _ (HK17.out.get 10 rfl) (HK17.out.get 15 rfl) HLP.out HLAC.out HEr3.out).mono ?_
  rintro e w18 ⟨ar3, cr3, rfl, hv, hf⟩
  have HK18 := Lib.hid (show Kp w18 [(.slice aa 32 ca, A), (.slice ab 32 cb, B), (.slice ac 32 cc, C), (.slice az 32 32, 0), (.slice aone 32 32, 1), (.slice aab 32 cab, AB), (.slice aba 32 cba, AB), (.slice abc 32 cbc, BC), (.slice al1 32 cl1, S), (.slice ar1 32 cr1, S), (.slice am 32 cm, P), (.slice an 32 cn, P), (.slice abm 32 cbm, Q), (.slice al2 32 cl2, T), (.slice ar2 32 cr2, T), (.slice aac 32 cac, AC), (.slice al3 32 cl3, D), (.slice ar3 32 cr3, D)] from HK17.out.add hf hv)
  have HF18 := Lib.hid (HF17.out.then hf)
  clear hf hv HK17 HF17
  have hc0 := run_string (P := Try.prog) (HK18.out.rd 16 rfl) cl3 Try.underlying29 Try.underlying5 Try.underlying9
  have hc1 := run_string (P := Try.prog) (HK18.out.rd 17 rfl) cr3 Try.underlying29 Try.underlying5 Try.underlying9
  go_wp2_with fail
  refine (NSub_v 0 m HKK.out _ _ AB B A _ (HK18.out.get 5 rfl) (HK18.out.get 1 rfl) HLAB.out HLB.out HEd.out).mono ?_
  rintro e w19 ⟨ad, cd, rfl, hv, hf⟩
  have HK19 := Lib.hid (show Kp w19 [(.slice aa 32 ca, A), (.slice ab 32 cb, B), (.slice ac 32 cc, C), (.slice az 32 32, 0), (.slice aone 32 32, 1), (.slice aab 32 cab, AB), (.slice aba 32 cba, AB), (.slice abc 32 cbc, BC), (.slice al1 32 cl1, S), (.slice ar1 32 cr1, S), (.slice am 32 cm, P), (.slice an 32 cn, P), (.slice abm 32 cbm, Q), (.slice al2 32 cl2, T), (.slice ar2 32 cr2, T), (.slice aac 32 cac, AC), (.slice al3 32 cl3, D), (.slice ar3 32 cr3, D), (.slice ad 32 cd, A)] from HK18.out.add hf hv)
  have HF19 := Lib.hid (HF18.out.then hf)
  clear hf hv HK18 HF18
  clear hc0 hc1
  go_wp2_with fail
  refine (NSub_v 0 m HKK.out _ _ A A 0 _ (HK19.out.get 0 rfl) (HK19.out.get 0 rfl) HLA.out HLA.out HEzz.out).mono ?_
  rintro e w20 ⟨azz, czz, rfl, hv, hf⟩
  have HK20 := Lib.hid (show Kp w20 [(.slice aa 32 ca, A), (.slice ab 32 cb, B), (.slice ac 32 cc, C), (.slice az 32 32, 0), (.slice aone 32 32, 1), (.slice aab 32 cab, AB), (.slice aba 32 cba, AB), (.slice abc 32 cbc, BC), (.slice al1 32 cl1, S), (.slice ar1 32 cr1, S), (.slice am 32 cm, P), (.slice an 32 cn, P), (.slice abm 32 cbm, Q), (.slice al2 32 cl2, T), (.slice ar2 32 cr2, T), (.slice aac 32 cac, AC), (.slice al3 32 cl3, D), (.slice ar3 32 cr3, D), (.slice ad 32 cd, A), (.slice azz 32 czz, 0)] from HK19.out.add hf hv)
  have HF20 := Lib.hid (HF19.out.then hf)
  clear hf hv HK19 HF19
  go_wp2_with fail
  refine (NMul_v 0 m HKK.out _ _ A 1 A _ (HK20.out.get 0 rfl) (HK20.out.get 4 rfl) HLA.out HL1.out HEx.out).mono ?_
  rintro e w21 ⟨ax, cx, rfl, hv, hf⟩
  have HK21 := Lib.hid (show Kp w21 [(.slice aa 32 ca, A), (.slice ab 32 cb, B), (.slice ac 32 cc, C), (.slice az 32 32, 0), (.slice aone 32 32, 1), (.slice aab 32 cab, AB), (.slice aba 32 cba, AB), (.slice abc 32 cbc, BC), (.slice al1 32 cl1, S), (.slice ar1 32 cr1, S), (.slice am 32 cm, P), (.slice an 32 cn, P), (.slice abm 32 cbm, Q), (.slice al2 32 cl2, T), (.slice ar2 32 cr2, T), (.slice aac 32 cac, AC), (.slice al3 32 cl3, D), (.slice ar3 32 cr3, D), (.slice ad 32 cd, A), (.slice azz 32 czz, 0), (.slice ax 32 cx, A)] from HK20.out.add hf hv)
  have HF21 := Lib.hid (HF20.out.then hf)
  clear hf hv HK20 HF20
  have hc0 := run_string (P := Try.prog) (HK21.out.rd 18 rfl) cd Try.underlying29 Try.underlying5 Try.underlying9
  have hc1 := run_string (P := Try.prog) (HK21.out.rd 0 rfl) ca Try.underlying29 Try.underlying5 Try.underlying9
  have hc2 := run_string (P := Try.prog) (HK21.out.rd 19 rfl) czz Try.underlying29 Try.underlying5 Try.underlying9
  have hc3 := run_string (P := Try.prog) (HK21.out.rd 3 rfl) 32 Try.underlying29 Try.underlying5 Try.underlying9
  have hc4 := run_string (P := Try.prog) (HK21.out.rd 20 rfl) cx Try.underlying29 Try.underlying5 Try.underlying9
  go_wp2_with fail
  refine (NInv_v 0 m HKK.out _ A I _ (HK21.out.get 0 rfl) HLA.out HEi.out).mono ?_
  rintro e w22 ⟨ai, ci, rfl, hv, hf⟩
  have HK22 := Lib.hid (show Kp w22 [(.slice aa 32 ca, A), (.slice ab 32 cb, B), (.slice ac 32 cc, C), (.slice az 32 32, 0), (.slice aone 32 32, 1), (.slice aab 32 cab, AB), (.slice aba 32 cba, AB), (.slice abc 32 cbc, BC), (.slice al1 32 cl1, S), (.slice ar1 32 cr1, S), (.slice am 32 cm, P), (.slice an 32 cn, P), (.slice abm 32 cbm, Q), (.slice al2 32 cl2, T), (.slice ar2 32 cr2, T), (.slice aac 32 cac, AC), (.slice al3 32 cl3, D), (.slice ar3 32 cr3, D), (.slice ad 32 cd, A), (.slice azz 32 czz, 0), (.slice ax 32 cx, A), (.slice ai 32 ci, I)] from HK21.out.add hf hv)
  have HF22 := Lib.hid (HF21.out.then hf)
  clear hf hv HK21 HF21
  clear hc0 hc1 hc2 hc3 hc4
  go_wp2_with fail
  refine (NMul_v 0 m HKK.out _ _ A I 1 _ (HK22.out.get 0 rfl) (HK22.out.get 21 rfl) HLA.out HLI.out HEpi.out).mono ?_
  rintro e w23 ⟨api, cpi, rfl, hv, hf⟩
  have HK23 := Lib.hid (show Kp w23 [(.slice aa 32 ca, A), (.slice ab 32 cb, B), (.slice ac 32 cc, C), (.slice az 32 32, 0), (.slice aone 32 32, 1), (.slice aab 32 cab, AB), (.slice aba 32 cba, AB), (.slice abc 32 cbc, BC), (.slice al1 32 cl1, S), (.slice ar1 32 cr1, S), (.slice am 32 cm, P), (.slice an 32 cn, P), (.slice abm 32 cbm, Q), (.slice al2 32 cl2, T), (.slice ar2 32 cr2, T), (.slice aac 32 cac, AC), (.slice al3 32 cl3, D), (.slice ar3 32 cr3, D), (.slice ad 32 cd, A), (.slice azz 32 czz, 0), (.slice ax 32 cx, A), (.slice ai 32 ci, I), (.slice api 32 cpi, 1)] from HK22.out.add hf hv)
  have HF23 := Lib.hid (HF22.out.then hf)
  clear hf hv HK22 HF22
  have hc0 := run_string (P := Try.prog) (HK23.out.rd 0 rfl) ca Try.underlying29 Try.underlying5 Try.underlying9
  have hc1 := run_string (P := Try.prog) (HK23.out.rd 3 rfl) 32 Try.underlying29 Try.underlying5 Try.underlying9
  have hc2 := run_string (P := Try.prog) (HK23.out.rd 22 rfl) cpi Try.underlying29 Try.underlying5 Try.underlying9
  have hc3 := run_string (P := Try.prog) (HK23.out.rd 4 rfl) 32 Try.underlying29 Try.underlying5 Try.underlying9
  have hc4 := run_string (P := Try.prog) (HK23.out.rd 21 rfl) ci Try.underlying29 Try.underlying5 Try.underlying9
  have hne := HNE.out
  go_wp2_with fail
  refine (NMul_v 0 m HKK.out _ _ A A QQ _ (HK23.out.get 0 rfl) (HK23.out.get 0 rfl) HLA.out HLA.out HEq.out).mono ?_
  rintro e w24 ⟨aq, cq, rfl, hv, hf⟩
  have HK24 := Lib.hid (show Kp w24 [(.slice aa 32 ca, A), (.slice ab 32 cb, B), (.slice ac 32 cc, C), (.slice az 32 32, 0), (.slice aone 32 32, 1), (.slice aab 32 cab, AB), (.slice aba 32 cba, AB), (.slice abc 32 cbc, BC), (.slice al1 32 cl1, S), (.slice ar1 32 cr1, S), (.slice am 32 cm, P), (.slice an 32 cn, P), (.slice abm 32 cbm, Q), (.slice al2 32 cl2, T), (.slice ar2 32 cr2, T), (.slice aac 32 cac, AC), (.slice al3 32 cl3, D), (.slice ar3 32 cr3, D), (.slice ad 32 cd, A), (.slice azz 32 czz, 0), (.slice ax 32 cx, A), (.slice ai 32 ci, I), (.slice api 32 cpi, 1), (.slice aq 32 cq, QQ)] from HK23.out.add hf hv)
  have HF24 := Lib.hid (HF23.out.then hf)
  clear hf hv HK23 HF23
  clear hc0 hc1 hc2 hc3 hc4 hne
  go_wp2_with fail
  refine (NSqrt_v m HKK.out _ QQ WW _ (HK24.out.get 23 rfl) HLQQ.out HRO.out HEw.out).mono ?_
  rintro e w25 ⟨aw, cw, rfl, hv, hf⟩
  have HK25 := Lib.hid (show Kp w25 [(.slice aa 32 ca, A), (.slice ab 32 cb, B), (.slice ac 32 cc, C), (.slice az 32 32, 0), (.slice aone 32 32, 1), (.slice aab 32 cab, AB), (.slice aba 32 cba, AB), (.slice abc 32 cbc, BC), (.slice al1 32 cl1, S), (.slice ar1 32 cr1, S), (.slice am 32 cm, P), (.slice an 32 cn, P), (.slice abm 32 cbm, Q), (.slice al2 32 cl2, T), (.slice ar2 32 cr2, T), (.slice aac 32 cac, AC), (.slice al3 32 cl3, D), (.slice ar3 32 cr3, D), (.slice ad 32 cd, A), (.slice azz 32 czz, 0), (.slice ax 32 cx, A), (.slice ai 32 ci, I), (.slice api 32 cpi, 1), (.slice aq 32 cq, QQ), (.slice aw 32 cw, WW)] from HK24.out.add hf hv)
  have HF25 := Lib.hid (HF24.out.then hf)
  clear hf hv HK24 HF24
  go_wp2_with fail
  refine (NSub_v 0 m HKK.out _ _ 0 A O _ (HK25.out.get 3 rfl) (HK25.out.get 0 rfl) HL0.out HLA.out HEo.out).mono ?_
  rintro e w26 ⟨ao, co, rfl, hv, hf⟩
  have HK26 := Lib.hid (show Kp w26 [(.slice aa 32 ca, A), (.slice ab 32 cb, B), (.slice ac 32 cc, C), (.slice az 32 32, 0), (.slice aone 32 32, 1), (.slice aab 32 cab, AB), (.slice aba 32 cba, AB), (.slice abc 32 cbc, BC), (.slice al1 32 cl1, S), (.slice ar1 32 cr1, S), (.slice am 32 cm, P), (.slice an 32 cn, P), (.slice abm 32 cbm, Q), (.slice al2 32 cl2, T), (.slice ar2 32 cr2, T), (.slice aac 32 cac, AC), (.slice al3 32 cl3, D), (.slice ar3 32 cr3, D), (.slice ad 32 cd, A), (.slice azz 32 czz, 0), (.slice ax 32 cx, A), (.slice ai 32 ci, I), (.slice api 32 cpi, 1), (.slice aq 32 cq, QQ), (.slice aw 32 cw, WW), (.slice ao 32 co, O)] from HK25.out.add hf hv)
  have HF26 := Lib.hid (HF25.out.then hf)
  clear hf hv HK25 HF25
  have hc0 := run_string (P := Try.prog) (HK26.out.rd 24 rfl) cw Try.underlying29 Try.underlying5 Try.underlying9
  have hc1 := run_string (P := Try.prog) (HK26.out.rd 0 rfl) ca Try.underlying29 Try.underlying5 Try.underlying9
  have hc2 := run_string (P := Try.prog) (HK26.out.rd 25 rfl) co Try.underlying29 Try.underlying5 Try.underlying9
  obtain ⟨bw, ow, haw, -⟩ := (HK26.out.rd 24 rfl).at (by omega)
  subst haw
  have hcl := rd_cell (HK26.out.rd 24 rfl) 31 (.int .u8 ((UInt8.ofNat WW).toNat : Int)) (bs_at (be32_low WW))
  have hbit : bits .and .u8 ((UInt8.ofNat WW).toNat : Int) 1 = 0 := HBIT.out
  have HFE := Lib.hid HF26.out
  by_cases hw : WW = A
  · subst hw
    go_wp2_with fail
    go_ret
    exact ⟨rfl, HFE.out⟩
  · have hsn := str_ne (Nat.lt_trans HLWW.out HKK.out.ok.lt) (Nat.lt_trans HLA.out HKK.out.ok.lt) hw
    have ho := HWW.out.resolve_left hw
    clear hw
    subst ho
    go_wp2_with fail
    go_ret
    exact ⟨rfl, HFE.out⟩
end Go.Proofs.Ytmegaegedlbckaa

/- The law NumLaws. -/
namespace Mvq
open Mvp
theorem r1_eq (M A B C : Nat) : (A + (B + C) % M) % M = ((A + B) % M + C) % M := by rw [Nat.add_mod_mod, Nat.mod_add_mod, Nat.add_assoc]
theorem r2_eq (M A B C : Nat) : A * (B * C % M) % M = A * B % M * C % M := by rw [Nat.mul_mod_mod, Nat.mod_mul_mod, Nat.mul_assoc]
theorem r3_eq (M A B C : Nat) : (A * B % M + A * C % M) % M = A * ((B + C) % M) % M := by rw [← Nat.add_mod, Nat.mul_mod_mod, Nat.mul_add]
theorem d_eq (M A B : Nat) (hA : A < M) (hB : B < M) : ((A + B) % M + (M - B)) % M = A := by
  rw [Nat.mod_add_mod, show A + B + (M - B) = A + M by omega, Nat.add_mod_right, Nat.mod_eq_of_lt hA]
theorem zz_eq (M A : Nat) (hA : A < M) : (A + (M - A)) % M = 0 := by
  rw [show A + (M - A) = M by omega, Nat.mod_self]
theorem x_eq (M A : Nat) (hA : A < M) : A * 1 % M = A := by rw [Nat.mul_one, Nat.mod_eq_of_lt hA]
end Mvq
namespace Go.Proofs.Ytmegaegedlbckaa
open Go.RowKit Go.Mv Mvp Mvq
theorem KindOf.fp {k : Int} {m : Md} (h : KindOf k m) : FP m.M := by cases h; exact FP_P; exact FP_Q
theorem law_Num1 (kd : Int) (s t u : ByteArray) (w : World) (hs : s.size ≤ 1024) (ht : t.size ≤ 1024) (hu : u.size ≤ 1024) (hlo : -9223372036854775808 ≤ kd ∧ kd ≤ 9223372036854775807) (hrem : (kd < 0 ∧ -((kd + 1).tmod 2) = 1) ∨ (¬ kd < 0 ∧ kd % 2 = 1)) :
    Calls Try.prog 8 #[.int .i64 kd, .string s, .string t, .string u] w fun e w' => e = .returned (.bool true) ∧ Fr Nob w w' := by
  obtain ⟨m, hk⟩ : ∃ m, KindOf 1 m := ⟨_, .one⟩
  have fp := hk.fp
  have hM : 0 < m.M := by have := fp.big; omega
  have lt : ∀ x, x % m.M < m.M := fun x => Nat.mod_lt _ hM
  have h1 : 1 < m.M := by have := fp.big; omega
  by_cases hA : beN s.data.toList % m.M = 0
  · have hI : (beN s.data.toList % m.M) ^ (m.M - 2) % m.M = 0 := by rw [hA]; exact fp.inv0
    rcases hrem with ⟨h0, hr⟩ | ⟨h0, hr⟩
    · exact NumLaws_k1_z_n kd m hk s t u w hs ht hu _ _ _ _ _ _ _ _ _ _ _ _ _ rfl (by rw [Nat.add_comm]) rfl rfl (r1_eq _ _ _ _) rfl (by rw [Nat.mul_comm]) rfl rfl (r2_eq _ _ _ _) rfl rfl (r3_eq _ _ _ _) (d_eq _ _ _ (lt _) (lt _)) (zz_eq _ _ (lt _)) (x_eq _ _ (lt _)) rfl rfl (lt _) (lt _) (lt _) (lt _) (lt _) (lt _) (lt _) (lt _) (lt _) h1 hM rfl rfl rfl hA hI h0 hlo hr
    · exact NumLaws_k1_z_p kd m hk s t u w hs ht hu _ _ _ _ _ _ _ _ _ _ _ _ _ rfl (by rw [Nat.add_comm]) rfl rfl (r1_eq _ _ _ _) rfl (by rw [Nat.mul_comm]) rfl rfl (r2_eq _ _ _ _) rfl rfl (r3_eq _ _ _ _) (d_eq _ _ _ (lt _) (lt _)) (zz_eq _ _ (lt _)) (x_eq _ _ (lt _)) rfl rfl (lt _) (lt _) (lt _) (lt _) (lt _) (lt _) (lt _) (lt _) (lt _) h1 hM rfl rfl rfl hA hI h0 hlo hr
  · have hP := fp.inv (lt (beN s.data.toList)) hA
    rcases hrem with ⟨h0, hr⟩ | ⟨h0, hr⟩
    · exact NumLaws_k1_n_n kd m hk s t u w hs ht hu _ _ _ _ _ _ _ _ _ _ _ _ _ rfl (by rw [Nat.add_comm]) rfl rfl (r1_eq _ _ _ _) rfl (by rw [Nat.mul_comm]) rfl rfl (r2_eq _ _ _ _) rfl rfl (r3_eq _ _ _ _) (d_eq _ _ _ (lt _) (lt _)) (zz_eq _ _ (lt _)) (x_eq _ _ (lt _)) rfl rfl (lt _) (lt _) (lt _) (lt _) (lt _) (lt _) (lt _) (lt _) (lt _) h1 hM rfl rfl rfl hA hP h0 hlo hr
    · exact NumLaws_k1_n_p kd m hk s t u w hs ht hu _ _ _ _ _ _ _ _ _ _ _ _ _ rfl (by rw [Nat.add_comm]) rfl rfl (r1_eq _ _ _ _) rfl (by rw [Nat.mul_comm]) rfl rfl (r2_eq _ _ _ _) rfl rfl (r3_eq _ _ _ _) (d_eq _ _ _ (lt _) (lt _)) (zz_eq _ _ (lt _)) (x_eq _ _ (lt _)) rfl rfl (lt _) (lt _) (lt _) (lt _) (lt _) (lt _) (lt _) (lt _) (lt _) h1 hM rfl rfl rfl hA hP h0 hlo hr
theorem law_Num0 (kd : Int) (s t u : ByteArray) (w : World) (hs : s.size ≤ 1024) (ht : t.size ≤ 1024) (hu : u.size ≤ 1024) (hlo : -9223372036854775808 ≤ kd ∧ kd ≤ 9223372036854775807) (hrem : (kd < 0 ∧ -((kd + 1).tmod 2) = 0) ∨ (¬ kd < 0 ∧ kd % 2 = 0)) :
    Calls Try.prog 8 #[.int .i64 kd, .string s, .string t, .string u] w fun e w' => e = .returned (.bool true) ∧ Fr Nob w w' := by
  obtain ⟨m, hk, h4⟩ : ∃ m, KindOf 0 m ∧ m.M % 4 = 3 := ⟨_, .zero, pP_4⟩
  have fp := hk.fp
  have hM : 0 < m.M := by have := fp.big; omega
  have lt : ∀ x, x % m.M < m.M := fun x => Nat.mod_lt _ hM
  have h1 : 1 < m.M := by have := fp.big; omega
  have hro : rtOk m.M ((beN s.data.toList % m.M) * (beN s.data.toList % m.M) % m.M) = true := root_sq fp h4 (lt _)
  have hev : rtV m.M ((beN s.data.toList % m.M) * (beN s.data.toList % m.M) % m.M) % m.M % 2 = 0 := root_even fp
  have hww : rtV m.M ((beN s.data.toList % m.M) * (beN s.data.toList % m.M) % m.M) % m.M = beN s.data.toList % m.M ∨ rtV m.M ((beN s.data.toList % m.M) * (beN s.data.toList % m.M) % m.M) % m.M = (0 + (m.M - beN s.data.toList % m.M)) % m.M := by
    rw [Nat.zero_add]
    exact sq_two fp.prime (lt _) (lt _) (root_square fp (lt _) hro)
  by_cases hA : beN s.data.toList % m.M = 0
  · have hI : (beN s.data.toList % m.M) ^ (m.M - 2) % m.M = 0 := by rw [hA]; exact fp.inv0
    rcases hrem with ⟨h0, hr⟩ | ⟨h0, hr⟩
    · exact NumLaws_k0_z_n kd m hk s t u w hs ht hu _ _ _ _ _ _ _ _ _ _ _ _ _ _ _ _ rfl (by rw [Nat.add_comm]) rfl rfl (r1_eq _ _ _ _) rfl (by rw [Nat.mul_comm]) rfl rfl (r2_eq _ _ _ _) rfl rfl (r3_eq _ _ _ _) (d_eq _ _ _ (lt _) (lt _)) (zz_eq _ _ (lt _)) (x_eq _ _ (lt _)) rfl rfl rfl rfl rfl (lt _) (lt _) (lt _) (lt _) (lt _) (lt _) (lt _) (lt _) (lt _) h1 hM (lt _) (lt _) rfl rfl rfl hA hI hro hev hww h0 hlo hr
    · exact NumLaws_k0_z_p kd m hk s t u w hs ht hu _ _ _ _ _ _ _ _ _ _ _ _ _ _ _ _ rfl (by rw [Nat.add_comm]) rfl rfl (r1_eq _ _ _ _) rfl (by rw [Nat.mul_comm]) rfl rfl (r2_eq _ _ _ _) rfl rfl (r3_eq _ _ _ _) (d_eq _ _ _ (lt _) (lt _)) (zz_eq _ _ (lt _)) (x_eq _ _ (lt _)) rfl rfl rfl rfl rfl (lt _) (lt _) (lt _) (lt _) (lt _) (lt _) (lt _) (lt _) (lt _) h1 hM (lt _) (lt _) rfl rfl rfl hA hI hro hev hww h0 hlo hr
  · have hP := fp.inv (lt (beN s.data.toList)) hA
    rcases hrem with ⟨h0, hr⟩ | ⟨h0, hr⟩
    · exact NumLaws_k0_n_n kd m hk s t u w hs ht hu _ _ _ _ _ _ _ _ _ _ _ _ _ _ _ _ rfl (by rw [Nat.add_comm]) rfl rfl (r1_eq _ _ _ _) rfl (by rw [Nat.mul_comm]) rfl rfl (r2_eq _ _ _ _) rfl rfl (r3_eq _ _ _ _) (d_eq _ _ _ (lt _) (lt _)) (zz_eq _ _ (lt _)) (x_eq _ _ (lt _)) rfl rfl rfl rfl rfl (lt _) (lt _) (lt _) (lt _) (lt _) (lt _) (lt _) (lt _) (lt _) h1 hM (lt _) (lt _) rfl rfl rfl hA hP hro hev hww h0 hlo hr
    · exact NumLaws_k0_n_p kd m hk s t u w hs ht hu _ _ _ _ _ _ _ _ _ _ _ _ _ _ _ _ rfl (by rw [Nat.add_comm]) rfl rfl (r1_eq _ _ _ _) rfl (by rw [Nat.mul_comm]) rfl rfl (r2_eq _ _ _ _) rfl rfl (r3_eq _ _ _ _) (d_eq _ _ _ (lt _) (lt _)) (zz_eq _ _ (lt _)) (x_eq _ _ (lt _)) rfl rfl rfl rfl rfl (lt _) (lt _) (lt _) (lt _) (lt _) (lt _) (lt _) (lt _) (lt _) h1 hM (lt _) (lt _) rfl rfl rfl hA hP hro hev hww h0 hlo hr
set_option maxHeartbeats 8000000 in
set_option maxRecDepth 1000000 in
theorem law_NumLaws (kd : Int) (s t u : ByteArray) (w : World) (hlo : -9223372036854775808 ≤ kd ∧ kd ≤ 9223372036854775807) :
    Calls Try.prog 8 #[.int .i64 kd, .string s, .string t, .string u] w fun e w' => e = .returned (.bool true) ∧ Fr Nob w w' := by
  by_cases hs : 1024 < s.size
  · have hI : (1024 : Int) < (s.size : Int) := by omega
    go_enter Try.func8, Try.ntmps8
    go_wp2
    go_ret
    exact ⟨rfl, Fr.refl _ _⟩
  by_cases ht : 1024 < t.size
  · have hI : ¬ ((1024 : Int) < (s.size : Int)) := by omega
    have hJ : (1024 : Int) < (t.size : Int) := by omega
    go_enter Try.func8, Try.ntmps8
    go_wp2
    go_ret
    exact ⟨rfl, Fr.refl _ _⟩
  by_cases hu : 1024 < u.size
  · have hI : ¬ ((1024 : Int) < (s.size : Int)) := by omega
    have hJ : ¬ ((1024 : Int) < (t.size : Int)) := by omega
    have hK : (1024 : Int) < (u.size : Int) := by omega
    go_enter Try.func8, Try.ntmps8
    go_wp2
    go_ret
    exact ⟨rfl, Fr.refl _ _⟩
  have hcase : ((kd < 0 ∧ -((kd + 1).tmod 2) = 1) ∨ (¬ kd < 0 ∧ kd % 2 = 1)) ∨ ((kd < 0 ∧ -((kd + 1).tmod 2) = 0) ∨ (¬ kd < 0 ∧ kd % 2 = 0)) := by
    by_cases h : kd < 0
    · have h2 : (kd + 1).tmod 2 = -((-(kd + 1)) % 2) := by
        have h3 : (kd + 1) = -(-(kd + 1)) := by omega
        rw [h3, Int.neg_tmod, Int.tmod_eq_emod_of_nonneg (by omega), Int.neg_neg]
      omega
    · omega
  rcases hcase with h | h
  · exact law_Num1 kd s t u w (by omega) (by omega) (by omega) hlo h
  · exact law_Num0 kd s t u w (by omega) (by omega) (by omega) hlo h
end Go.Proofs.Ytmegaegedlbckaa

/- From a walk that turns nothing (Fr Nob) to what a law's row asks behind the call. -/
namespace Go.Mv
open Go.RowKit Go.ChangeShapes Go.WideShapes

/-- the arguments read behind the call as they read before -/
theorem Below.trodAll {H : Type} {enc : TypeId × Value → H} {P : Program} (hl : laidOutB P = true) {W W' : World} (hb : Below W.heap.size W W') :
    ∀ (ts : List TypeId) (vs : List Value) (ds : List (DataW H)) (ps : List MemPlace), (∀ t ∈ ts, P.readableRec t = true ∧ t < P.types.size) → DataW.TrodAll enc P W 0 (fun _ => true) true ts vs ds ps → (∀ x ∈ ps, x.block < W.heap.size) →
      DataW.TrodAll enc P W' 0 (fun b => decide (b < W.heap.size)) true ts vs ds ps
  | [], vs, ds, ps, _, h, _ => by
    obtain ⟨rfl, rfl, rfl⟩ := trodAll_nil h
    exact trodAll_mk0
  | t :: ts, vs, ds, ps, hr, h, hlt => by
    obtain ⟨v, vs', d, ds', p, q, rfl, rfl, rfl, h0, hs⟩ := trodAll_cons h
    have h1 := hr t (by simp)
    exact trodAll_cons_mk (Below.trod hl h1.1 h1.2 h0 hb (fun x hx => hlt x (by simp [hx]))) (Below.trodAll hl hb ts vs' ds' q (fun t ht => hr t (by simp [ht])) hs (fun x hx => hlt x (by simp [hx])))

/-- what a law's row asks behind the call -/
theorem law_post {H : Type} {enc : TypeId × Value → H} {P : Program} {f : Func} {s : ChangeSpec} {W W' : World} {args : Array Value} {ds gs : List (DataW H)} {before : List MemPlace}
    (hl : laidOutB P = true) (hr : ∀ t ∈ f.params.toList, P.readableRec t = true ∧ t < P.types.size) (hW : DataW.Whole enc P f.params.toList s.vars false W args.toList ds gs before)
    (hv : s.vars = []) (hres : (s.fn H (ds ++ gs)).results = [.lit (.bool true)]) (harg : (s.fn H (ds ++ gs)).args = ds) (hvar : (s.fn H (ds ++ gs)).vars = [])
    {tb : TypeId} (hrt : f.resultTypes = #[tb]) (hu : P.underlying tb = some .bool) (hf : Fr Nob W W') :
    s.post enc P f false true false false W args (.bool true) W' := by
  have hW' := hW
  obtain ⟨p, q, hA, hV, rfl, hfz, hnd⟩ := hW
  rw [hv] at hV
  obtain ⟨rfl, rfl⟩ := trodVars_none hV
  have hlt : ∀ x ∈ p ++ [], x.block < W.heap.size := fun x hx => hW'.lt x hx
  refine ⟨ds, [], p ++ [], [], p, [], hW', ?_, ?_, ?_, World.keptBut_mono (fun x hx => ⟨hx, ?_⟩) (hf.below.frame (· ∈ p ++ [])), fun h => by cases h⟩
  · rw [hres, hrt]
    exact trodAll_mk1 (shut_bool hu true)
  · rw [harg]
    exact Below.trodAll hl hf.below _ _ _ _ hr hA (fun x hx => hlt x (by simp [hx]))
  · rw [hvar, hv]; exact rfl
  · simp only [List.append_nil] at hx
    exact .inr (.inl hx)
end Go.Mv
