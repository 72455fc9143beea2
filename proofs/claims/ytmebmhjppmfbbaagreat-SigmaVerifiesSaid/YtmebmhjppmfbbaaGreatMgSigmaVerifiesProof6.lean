/- ; ; ; ; ; ; ; ; ; ; ; ; ; ; ; ; ; ; ; ; ; ; ; ; . -/
import Derived.Test.YtmebmhjppmfbbaaGreatMgSigmaVerifiesProof5
import Derived.Test.YtmebmhjppmfbbaaGreatMgSigmaVerifiesProof2
import Derived.IntWalk
import Derived.Test.YtmebmhjppmfbbaaGreatMgSigmaVerifiesProof3
import Derived.Deep.DeepCutAuto
import Derived.Test.YtmebmhjppmfbbaaGreatMgSigmaVerifiesProof1
import Derived.Test.YtmebmhjppmfbbaaGreatMgSigmaVerifiesProof4

set_option maxHeartbeats 16000000
set_option maxRecDepth 1000000
namespace Go.Proofs.YtmebmhjppmfbbaaGreat
open Go.RowKit Go.Mv Mvp Mvq
theorem q0Z {gp : Nat} : ((f0C mP gp gXn gYn).drop 5).take m0K.L.length = m0K.L := v0G mP gp gXn gYn
theorem m0P : (Tryz.prog.info? 22).map (fun i => (i.zero, i.size, i.bytes)) = some (some (.slice none 0 0), 1, 24) := by kernel_rfl
attribute [local irreducible] a0E lw mix cw b0o b0x b0l a0L a0q beN b0F b0c b0z a0J a0N elN mdL b0e rtN rtV b0Q gXn gYn PT.L l0r k0V f0v tbL tmR tmL dbN h0H h0q i0N dig rdT b0D c0r ptL e0N d0q b0C
theorem t0w (vk va : Value) (lk la : List UInt8) (w : World) (hpk : BPart w vk lk) (hpa : BPart w va la) (hk : b0e mQ lk = true) (hg : d0q [la] = true) :
  Calls Tryz.prog 27 #[vk, va] w fun e w' => ∃ v, e = .returned (.tuple #[v, .int .i64 0]) ∧ Own w' w.heap.size 5 1 v 33 (bs (b0C (i0N [(beN lk, rdT la)]).pt)) ∧ Fr Nob w w' := by
 have HP := Lib.hid (BParts.one hpa)
 have HA1 := Lib.hid (BPart.one hpa)
 have HK := Lib.hid hk
 obtain ⟨ak, nk, ck, rfl, -, hrk⟩ := hpk
 have HRK := Lib.hid hrk
 have HG := Lib.hid hg
 clear hg hpa hk hrk
 have st0 := St.start Nob w
 go_enter Tryz.func27, Tryz.ntmps27
 go_wp2_with fail
 refine (g0F HK.out ak nk ck _ (HRK.out.still st0.fr)).mono ?_
 rintro e' w1 ⟨rfl, hf1⟩
 have st1 := st0.keep hf1
 clear st0 hf1
 go_wp2_with (with_reducible refine wSk 6 ?_)
 refine a0a st1 rfl rfl (z := zAd) ap11 (cw 4 0) ap9 ?_
 intro gk w2 st2
 clear st1
 go_wp2_with (with_reducible refine wSn ?_)
 refine a0b st2 0 rfl rfl rfl rfl rfl ap2 ap0 (a0g _ _) ?_
 intro w3 st3
 clear st2
 have HKN := Lib.hid (st3.at 0 rfl)
 have HF1 := Lib.hid st3.fr
 clear st3
 go_wp2_with (with_reducible refine wSk 17 ?_)
 refine c0n (vs := [va]) (hgd := rfl) (ho := rfl) (hu := Tryz.underlying39) (hi0 := m0P) (hp := by rfl) (hv := (fun v hv => by simp at hv; subst hv; exact HA1.out)) (hk := by rfl) (hz := by rfl) (h := ?_)
 intro wS hgS hfS hzS
 clear hzS
 generalize w3.heap.size = gl at *
 have HF2 := Lib.hid (HF1.out.then hfS)
 have HKN2 := Lib.hid (HKN.out.keep hfS id)
 have HRD := Lib.hid (show Rd wS (some ⟨gl, 0, none⟩) 1 [va] from Rd.whole hgS)
 clear hgS hfS HF1 HKN
 go_wp2_with fail
 refine (l0c gk _ 1 1 [va] [la] _ HRD.out (HP.out.still HF2.out) ap12 HG.out (i0N [(beN lk, rdT la)]) (fun ap cp wx hfx hrx => w0n la wx (beN lk) gk (HKN2.out.keep hfx id) ap cp hrx)).mono ?_
 rintro e wE ⟨v, rfl, hown, hfE⟩
 have h3 := HF2.out.then hfE
 have ho := hown.mono HF2.out.size
 clear hown hfE HF2
 go_wp2_with fail
 go_ret2
 exact ⟨v, rfl, ho, h3⟩
theorem o0c (vk va : Value) (lk la : List UInt8) (w : World) (hpk : BPart w vk lk) (hpa : BPart w va la) (hk : b0e mQ lk = true) (hg : d0q [la] = false) :
  Calls Tryz.prog 27 #[vk, va] w fun e w' => e = .returned (.tuple #[.slice none 0 0, .int .i64 4]) ∧ Fr Nob w w' := by
 have HP := Lib.hid (BParts.one hpa)
 have HA1 := Lib.hid (BPart.one hpa)
 have HK := Lib.hid hk
 obtain ⟨ak, nk, ck, rfl, -, hrk⟩ := hpk
 have HRK := Lib.hid hrk
 have HG := Lib.hid hg
 clear hg hpa hk hrk
 have st0 := St.start Nob w
 go_enter Tryz.func27, Tryz.ntmps27
 go_wp2_with fail
 refine (g0F HK.out ak nk ck _ (HRK.out.still st0.fr)).mono ?_
 rintro e' w1 ⟨rfl, hf1⟩
 have st1 := st0.keep hf1
 clear st0 hf1
 go_wp2_with (with_reducible refine wSk 6 ?_)
 refine a0a st1 rfl rfl (z := zAd) ap11 (cw 4 0) ap9 ?_
 intro gk w2 st2
 clear st1
 go_wp2_with (with_reducible refine wSn ?_)
 refine a0b st2 0 rfl rfl rfl rfl rfl ap2 ap0 (a0g _ _) ?_
 intro w3 st3
 clear st2
 have HKN := Lib.hid (st3.at 0 rfl)
 have HF1 := Lib.hid st3.fr
 clear st3
 go_wp2_with (with_reducible refine wSk 17 ?_)
 refine c0n (vs := [va]) (hgd := rfl) (ho := rfl) (hu := Tryz.underlying39) (hi0 := m0P) (hp := by rfl) (hv := (fun v hv => by simp at hv; subst hv; exact HA1.out)) (hk := by rfl) (hz := by rfl) (h := ?_)
 intro wS hgS hfS hzS
 clear hzS
 generalize w3.heap.size = gl at *
 have HF2 := Lib.hid (HF1.out.then hfS)
 have HKN2 := Lib.hid (HKN.out.keep hfS id)
 have HRD := Lib.hid (show Rd wS (some ⟨gl, 0, none⟩) 1 [va] from Rd.whole hgS)
 clear hgS hfS HF1 HKN
 go_wp2_with fail
 refine (j0i gk _ 1 1 [va] [la] _ HRD.out (HP.out.still HF2.out) ap12 HG.out).mono ?_
 rintro e wE ⟨rfl, hfE⟩
 have h3 := HF2.out.then hfE
 clear hfE HF2
 go_wp2_with fail
 go_ret2
 exact ⟨rfl, h3⟩
theorem o0d (vk va : Value) (lk la : List UInt8) (w : World) (hpk : BPart w vk lk) (hpa : BPart w va la) (hk : b0e mQ lk = false) :
  Calls Tryz.prog 27 #[vk, va] w fun e w' => e = .returned (.tuple #[.slice none 0 0, .int .i64 3]) ∧ Fr Nob w w' := by
 have HP := Lib.hid (BParts.one hpa)
 have HA1 := Lib.hid (BPart.one hpa)
 have HK := Lib.hid hk
 obtain ⟨ak, nk, ck, rfl, -, hrk⟩ := hpk
 have HRK := Lib.hid hrk
 clear hpa hk hrk
 have st0 := St.start Nob w
 go_enter Tryz.func27, Tryz.ntmps27
 go_wp2_with fail
 refine (p0z HK.out ak nk ck _ (HRK.out.still st0.fr)).mono ?_
 rintro e' w1 ⟨⟨N, rfl⟩, hf1⟩
 have st1 := st0.keep hf1
 clear st0 hf1
 go_wp2_with (with_reducible refine wSk 6 ?_)
 refine a0a st1 rfl rfl (z := zAd) ap11 (cw 4 0) ap9 ?_
 intro gk w2 st2
 clear st1
 go_wp2_with (with_reducible refine wSn ?_)
 refine a0b st2 0 rfl rfl rfl rfl rfl ap2 ap0 (a0g _ _) ?_
 intro w3 st3
 clear st2
 have hfr := st3.fr
 clear st3
 go_wp2_with fail
 go_ret2
 exact ⟨rfl, hfr⟩
theorem f0M (va : Value) (l : List UInt8) (w : World) (hpa : BPart w va l) (hk : b0D l = true) :
  Calls Tryz.prog 71 #[va] w fun e w' => e = .returned (.bool true) ∧ Fr Nob w w' := by
 obtain ⟨a, n, c, rfl, hcc, hrd⟩ := hpa
 have HCC := Lib.hid hcc
 have HRD := Lib.hid hrd
 have HK := Lib.hid hk
 clear hcc hrd hk
 have st0 := St.start Nob w
 go_enter Tryz.func71, Tryz.ntmps71
 go_wp2_with fail
 refine (d0V _).mono ?_
 rintro e' w1 ⟨gc, rfl, hle, hcv, hf1⟩
 have st1 := st0.keep hf1
 have HCV := Lib.hid hcv
 clear hcv hle
 clear st0 hf1
 go_wp2_with fail
 refine (m0O l HK.out gc a n c _ HCV.out (HRD.out.still st1.fr) HCC.out).mono ?_
 rintro e' w2 ⟨rfl, hf2⟩
 have st2 := st1.keep hf2
 clear st1 hf2
 go_wp2_with (with_reducible refine wSk 3 ?_)
 refine a0a st2 rfl rfl (z := .agg (List.replicate 12 (.int .u64 0)).toArray) ap11 (cw 12 0) ap9 ?_
 intro g3 w3 st3
 clear st2
 go_wp2_with (with_reducible refine wSn ?_)
 refine a0b st3 0 rfl rfl rfl rfl rfl ap2 ap6 (PT.one _) ?_
 intro w4 st4
 clear st3
 have hfr := st4.fr
 clear st4
 go_wp2_with fail
 go_ret
 exact ⟨rfl, hfr⟩
theorem h0r (va : Value) (l : List UInt8) (w : World) (hpa : BPart w va l) (hk : b0D l = false) :
  Calls Tryz.prog 71 #[va] w fun e w' => e = .returned (.bool false) ∧ Fr Nob w w' := by
 obtain ⟨a, n, c, rfl, hcc, hrd⟩ := hpa
 have HCC := Lib.hid hcc
 have HRD := Lib.hid hrd
 have HK := Lib.hid hk
 clear hcc hrd hk
 have st0 := St.start Nob w
 go_enter Tryz.func71, Tryz.ntmps71
 go_wp2_with fail
 refine (d0V _).mono ?_
 rintro e' w1 ⟨gc, rfl, hle, hcv, hf1⟩
 have st1 := st0.keep hf1
 have HCV := Lib.hid hcv
 clear hcv hle
 clear st0 hf1
 go_wp2_with fail
 refine (t0u l HK.out gc a n c _ HCV.out (HRD.out.still st1.fr) HCC.out).mono ?_
 rintro e' w2 ⟨⟨X, Y, Z, rfl⟩, hf2⟩
 have st2 := st1.keep hf2
 clear st1 hf2
 go_wp2_with (with_reducible refine wSk 3 ?_)
 refine a0a st2 rfl rfl (z := .agg (List.replicate 12 (.int .u64 0)).toArray) ap11 (cw 12 0) ap9 ?_
 intro g3 w3 st3
 clear st2
 go_wp2_with (with_reducible refine wSn ?_)
 refine a0b st3 0 rfl rfl rfl rfl rfl ap2 (by first | (rw [a0e]; kernel_rfl) | (simp only [e0D]; kernel_rfl)) (o0b _ _ _ _) ?_
 intro w4 st4
 clear st3
 have hfr := st4.fr
 clear st4
 go_wp2_with fail
 go_ret
 exact ⟨rfl, hfr⟩
theorem z0x (w : World) : Calls Tryz.prog 28 #[] w fun e w' => ∃ v, e = .returned v ∧ Own w' w.heap.size 5 1 v 33 (bs (b0C m0K.pt)) ∧ Fr Nob w w' := by
 go_enter Tryz.func28, Tryz.ntmps28
 go_wp2_with fail
 refine (d0V _).mono ?_
 rintro e w1 ⟨gc, rfl, hle, hcv, hf1⟩
 have HCV := Lib.hid hcv
 have HF1 := Lib.hid hf1
 clear hle hcv hf1
 go_wp2_with fail
 refine (d0V _).mono ?_
 rintro e w2 ⟨gd, rfl, hle, ⟨gq, hc2, hm2⟩, hf2⟩
 have HCV2 := Lib.hid (HCV.out.keep hf2)
 have HF2 := Lib.hid (HF1.out.then hf2)
 clear hle hm2 hf2 HCV HF1
 go_wp2_with (with_reducible refine wSk 5 ?_)
 refine k0t rfl rfl Tryz.underlying114 rfl rfl (cs := m0K.L) (fun i v hv => hc2.range 5 _ q0Z i v hv) (by rw [PT.len]; kernel_rfl) ?_
 clear hc2
 go_wp2_with fail
 refine (o0a m0K gc _ HCV2.out).mono ?_
 rintro e w3 ⟨v, rfl, hown, hf3⟩
 have h3 := HF2.out.then hf3
 have ho := hown.mono HF2.out.size
 clear hown hf3 HF2 HCV2
 go_wp2_with fail
 go_ret
 exact ⟨v, rfl, ho, h3⟩
end Go.Proofs.YtmebmhjppmfbbaaGreat


set_option maxHeartbeats 16000000
set_option maxRecDepth 1000000
namespace Mvq
theorem m0Q : ∀ (l : List (Nat × Pt)) (n : Nat) (p : Pt), (∀ t ∈ l, onC t.2) → onC p → f0u (l ++ [(n, p)]) = a0U (f0u l) (a0P n p)
 | [], n, p, _, _ => by show a0U (a0P n p) .O = a0U .O (a0P n p); rw [b0G]; rfl
 | (k, q) :: l, n, p, h, hp => by
  have hl : ∀ t ∈ l, onC t.2 := fun t ht => h t (List.mem_cons_of_mem _ ht)
  show a0U (a0P k q) (f0u (l ++ [(n, p)])) = a0U (a0U (a0P k q) (f0u l)) (a0P n p)
  rw [m0Q l n p hl hp, b0a (a0W (h (k, q) ap14) k) (i0I l hl) (a0W hp n)]
end Mvq
namespace Go.Proofs.YtmebmhjppmfbbaaGreat
open Go.RowKit Go.Mv Mvp Mvq
noncomputable def n0c (l : List (Nat × PT)) : List (Nat × Pt) := l.map fun t => (t.1, t.2.pt)
theorem t0x (l : List (Nat × PT)) : ∀ t ∈ n0c l, onC t.2 := by
 intro t ht
 obtain ⟨u, _, rfl⟩ := List.mem_map.1 ht
 exact u.2.onP
theorem t0y (l : List (Nat × PT)) (i : Nat) (o : PT) : ∀ k, k ≤ l.length → (h0H l i o k).pt = a0U o.pt (f0u ((n0c (l.take k)).map fun t => (dig (63 - i) t.1, t.2)))
 | 0, _ => by show o.pt = a0U o.pt .O; rw [b0G]
 | k + 1, h => by
  have ih := t0y l i o k ap13
  have hk : k < l.length := by omega
  have e : l.take (k + 1) = l.take k ++ [g0K l k] := by
   rw [List.take_succ_eq_append_getElem hk]
   simp [g0K, List.getD_eq_getElem?_getD, hk]
  have hon : ∀ t ∈ (n0c (l.take k)).map (fun t => (dig (63 - i) t.1, t.2)), onC t.2 := by
   intro t ht
   obtain ⟨u, hu, rfl⟩ := List.mem_map.1 ht
   exact t0x _ u hu
  rw [e, n0c, List.map_append, List.map_append, ← n0c]
  show (l0r (h0H l i o k) (f0v (g0K l k).2 (dig (63 - i) (g0K l k).1))).pt = a0U o.pt (f0u ((n0c (l.take k)).map (fun t => (dig (63 - i) t.1, t.2)) ++ [(dig (63 - i) (g0K l k).1, (g0K l k).2.pt)]))
  rw [t0a, t0f, ih, m0Q _ _ _ hon (g0K l k).2.onP, b0a o.onP (i0I _ hon) (a0W (g0K l k).2.onP _)]
theorem t0z (l : List (Nat × PT)) (hn : ∀ t ∈ l, t.1 < 16 ^ 64) : ∀ i, i ≤ 64 → (h0q l i).pt = f0u (r0q (64 - i) (n0c l))
 | 0, _ => by
  show noT.pt = _
  rw [t0c]
  have : ∀ l : List (Nat × PT), (∀ t ∈ l, t.1 < 16 ^ 64) → f0u (r0q 64 (n0c l)) = .O := by
   intro l
   induction l with
   | nil => intro _; rfl
   | cons t l ih =>
    intro h
    show a0U (a0P (t.1 / 16 ^ 64) t.2.pt) (f0u (r0q 64 (n0c l))) = .O
    rw [Nat.div_eq_of_lt (h t ap14), ih fun u hu => h u (List.mem_cons_of_mem _ hu)]
    rfl
  exact (this l hn).symm
 | i + 1, h => by
  have ih := t0z l hn i ap13
  show (h0H l i (dbN (h0q l i) 4) l.length).pt = _
  rw [t0y l i _ l.length (Nat.le_refl _), B0A _ rfl, ih, List.take_of_length_le (Nat.le_refl _)]
  have := m0E (63 - i) (n0c l) (t0x l)
  rw [show 63 - i + 1 = 64 - i by omega] at this
  rw [show 64 - (i + 1) = 63 - i by omega]
  exact this.symm
theorem t0A (l : List (Nat × PT)) (hn : ∀ t ∈ l, t.1 < 16 ^ 64) : (i0N l).pt = f0u (n0c l) := by
 have h := t0z l hn 64 (Nat.le_refl _)
 rw [Nat.sub_self] at h
 have e : r0q 0 (n0c l) = n0c l := by
  unfold r0q
  conv => rhs; rw [← List.map_id (n0c l)]
  refine List.map_congr_left fun t _ => ?_
  show (t.1 / 16 ^ 0, t.2) = t
  rw [Nat.pow_zero, Nat.div_one]
 rw [e] at h
 exact h
theorem Own.part {w : World} {base : Nat} {v : Value} {l : List UInt8} (h : Own w base 5 1 v l.length (bs l)) : BPart w v l := by
 obtain ⟨a, c, rfl, hc, hr, -⟩ := h.form
 exact ⟨a, _, c, rfl, hc, by rwa [Nat.mul_one] at hr⟩
def OwnB1 (w w' : World) (v : Value) (l : List UInt8) : Prop := Own w' w.heap.size 5 1 v l.length (bs l)
theorem OwnB1.part {w w' : World} {v : Value} {l : List UInt8} (h : OwnB1 w w' v l) : BPart w' v l := Own.part h
theorem OwnB1.nil (w w' : World) : OwnB1 w w' (.slice none 0 0) [] := Own.nil _ _ _ _
theorem OwnB1.of {w w' : World} {v : Value} {l : List UInt8} {n : Nat} (h : Own w' w.heap.size 5 1 v n (bs l)) (hn : l.length = n) : OwnB1 w w' v l := by subst hn; exact h
theorem q16 : mQ.M < 16 ^ 64 := by decide
noncomputable def tS (lk la : List UInt8) : List UInt8 := if b0e mQ lk && b0D la then b0C (a0P (beN lk) (c0r la)) else []
def tC (lk la : List UInt8) : Int := if b0e mQ lk then (if b0D la then 0 else 4) else 3
theorem g0G {l : List UInt8} (h : b0e mQ l = true) : beN l < mQ.M := by
 unfold b0e at h
 simp only [Bool.and_eq_true, decide_eq_true_eq] at h
 exact h.2
theorem w0o (vk va : Value) (lk la : List UInt8) (w : World) (hpk : BPart w vk lk) (hpa : BPart w va la) :
  Calls Tryz.prog 27 #[vk, va] w fun e w' => ∃ v, e = .returned (.tuple #[v, .int .i64 (tC lk la)]) ∧ OwnB1 w w' v (tS lk la) ∧ Fr Nob w w' := by
 unfold tS tC
 cases hk : b0e mQ lk
 ·exact (o0d vk va lk la w hpk hpa hk).mono fun e w' k => ⟨_, k.1, OwnB1.nil _ _, k.2⟩
 ·cases h : b0D la
  ·exact (o0c vk va lk la w hpk hpa hk (by simpa [d0q] using h)).mono fun e w' k => ⟨_, k.1, OwnB1.nil _ _, k.2⟩
  ·refine (t0w vk va lk la w hpk hpa hk (by simp [d0q, h])).mono fun e w' ⟨v, k1, k2, k3⟩ => ⟨v, k1, ?_, k3⟩
   have e1 : (i0N [(beN lk, rdT la)]).pt = a0P (beN lk) (c0r la) := by
    rw [t0A _ (by intro t ht; simp only [List.mem_singleton] at ht; subst ht; exact Nat.lt_trans (g0G hk) q16)]
    show a0U (a0P (beN lk) (rdT la).pt) .O = _
    rw [b0G, x0M h]
   rw [e1] at k2
   exact OwnB1.of k2 (c0j _)
def gP : Pt := .A (kc gXn) (kc gYn)
theorem t0B (w : World) : Calls Tryz.prog 28 #[] w fun e w' => ∃ v, e = .returned v ∧ OwnB1 w w' v (b0C gP) ∧ Fr Nob w w' :=
 (z0x w).mono fun e w' ⟨v, k1, k2, k3⟩ => ⟨v, k1, by rw [v0X] at k2; exact OwnB1.of k2 (c0j _), k3⟩
end Go.Proofs.YtmebmhjppmfbbaaGreat


set_option maxHeartbeats 16000000
set_option maxRecDepth 1000000
namespace Mvp
theorem beN_cons (x : UInt8) (l : List UInt8) : beN (x :: l) = x.toNat * 256 ^ l.length + beN l := by
 have := j0B [x] l
 simpa [beN] using this
end Mvp
namespace Go.Proofs.YtmebmhjppmfbbaaGreat
open Go.RowKit Go.Mv Mvp Mvq
def PtB (w : World) (a : Option Addr) (c : Nat) (p : Pt) : Prop := BPart w (.slice a 33 c) (b0C p)
theorem PtB.still {w w' : World} {a : Option Addr} {c : Nat} {p : Pt} (h : PtB w a c p) (hf : Fr Nob w w') : PtB w' a c p := BPart.still h hf
theorem PtB.of {w w' : World} {v : Value} {p : Pt} (h : OwnB1 w w' v (b0C p)) : ∃ a c, v = .slice a 33 c ∧ PtB w' a c p := by
 obtain ⟨a, n, c, rfl, hc, hr⟩ := h.part
 have : n = 33 := by have := hr.len; rw [c0j] at this; exact this.symm
 subst this
 exact ⟨a, c, rfl, a, 33, c, rfl, hc, hr⟩
theorem l0d : onC gP := by unfold gP; exact k0X
theorem wrO : b0C .O = List.replicate 33 0 := rfl
theorem C0T : (b0C gP).getD 0 0 = 2 := by decide
end Go.Proofs.YtmebmhjppmfbbaaGreat


set_option maxHeartbeats 16000000
set_option maxRecDepth 1000000
namespace Mvq
open Mvp
def frc {α : Type} (n : Nat) (f : Nat → α) : α := Nat.rec (f 0) (fun k _ => f (k + 1)) n
theorem B0G {α : Type} (n : Nat) (f : Nat → α) : frc n f = f n := by cases n <;> rfl
def hX : Nat := 0x79BE667EF9DCBBAC55A06295CE870B07029BFCDB2DCE28D959F2815B16F81798
def hY : Nat := 0x483ADA7726A3C4655DA4FBFC0E1108A8FD17B448A68554199C47D08FFB10D4B8
def hP : Pt := .A (kc hX) (kc hY)
theorem d0j : onC hP := by
 show kc hY * kc hY = kc hX * kc hX * kc hX + 7
 decide
abbrev qN : Nat := 115792089237316195423570985008687907852837564279074904382605163141518161494337
theorem C0U : qN = pQ := by decide
def j0S (e : Nat) : Nat → Nat → Nat → Nat → Bool
 | 0, X, Y, Z => !(Z % fP == 0) && X % fP == hX * Z % fP && (Y + hY * Z) % fP == 0
 | k + 1, X, Y, Z =>
  !(Z % fP == 0) &&
  frc (3 * (X * X) % fP) fun d => frc (2 * Y * Z % fP) fun u => frc (u * u % fP) fun uu => frc (uu * u % fP) fun uuu => frc ((d * d * Z + (fP - 2 * X * uu % fP)) % fP) fun t =>
  frc (u * t % fP) fun X' => frc ((d * (X * uu + (fP - t % fP)) + (fP - Y * uuu % fP)) % fP) fun Y' => frc (uuu * Z % fP) fun Z' =>
  if e / 2 ^ k % 2 = 1 then
   !(Z' % fP == 0) && 
   frc ((hY * Z' + (fP - Y' % fP)) % fP) fun d => frc ((hX * Z' + (fP - X' % fP)) % fP) fun u => !(u % fP == 0) && frc (u * u % fP) fun uu => frc (uu * u % fP) fun uuu => frc ((d * d * Z' + (fP - uuu % fP) + (fP - 2 * X' * uu % fP)) % fP) fun t =>
   frc (u * t % fP) fun X2 => frc ((d * (X' * uu + (fP - t % fP)) + (fP - Y' * uuu % fP)) % fP) fun Y2 => frc (uuu * Z' % fP) fun Z2 => j0S e k X2 Y2 Z2
  else j0S e k X' Y' Z'
theorem z0y : j0S (qN - 1) 255 hX hY 1 = true := by decide +kernel
theorem B0H (a b : Nat) (h : a % fP = b % fP) : kc a = kc b := by rw [← e0o a, h, e0o]
theorem w0p (a : Nat) (h : a % fP ≠ 0) : kc a ≠ 0 := by
 intro e
 have := s0U a
 rw [e, decide_eq_true rfl] at this
 exact h (by simpa using this)
theorem n0d (a : Nat) : kc (a % fP) = kc a := e0o a
theorem l0e (e : Nat) : ∀ (k X Y Z : Nat), j0S e k X Y Z = true → nm (kc X) (kc Y) (kc Z) = a0P (e / 2 ^ k) hP → a0P e hP = d0w hP
 | 0, X, Y, Z, h, hp => by
  simp only [j0S, Bool.and_eq_true, Bool.not_eq_true', beq_iff_eq, beq_eq_false_iff_ne, ne_eq] at h
  obtain ⟨⟨hz, hx⟩, hy⟩ := h
  rw [Nat.pow_zero, Nat.div_one] at hp
  rw [← hp]
  have hx' := B0H _ _ hx
  rw [a0F] at hx'
  have hy' : kc (Y + hY * Z) = 0 := by
   have := s0U (Y + hY * Z)
   rw [hy] at this
   simpa using this
  rw [g0Y, a0F] at hy'
  exact q0S (w0p _ hz) hx' (by grind -lia -linarith)
 | k + 1, X, Y, Z, h, hp => by
  have hon : onC (nm (kc X) (kc Y) (kc Z)) := by rw [hp]; exact a0W d0j _
  simp only [j0S, B0G, Bool.and_eq_true, Bool.not_eq_true', beq_eq_false_iff_ne, ne_eq] at h
  obtain ⟨hz, h⟩ := h
  have hd := m0D hon (w0p _ hz) _ _ _ _ _ _ rfl rfl rfl rfl rfl rfl
  rw [hp] at hd
  have hbit := p0q d0j e k
  generalize hd0 : 3 * (X * X) % fP = d at h
  generalize hu0 : 2 * Y * Z % fP = u at h
  generalize huu : u * u % fP = uu at h
  generalize huuu : uu * u % fP = uuu at h
  generalize ht : (d * d * Z + (fP - 2 * X * uu % fP)) % fP = t at h
  generalize hX' : u * t % fP = X' at h
  generalize hY' : (d * (X * uu + (fP - t % fP)) + (fP - Y * uuu % fP)) % fP = Y' at h
  generalize hZ' : uuu * Z % fP = Z' at h
  have k2 : kc 2 = 2 := by decide
  have k3' : kc 3 = 3 := by decide
  have d1 : kc d = 3 * (kc X * kc X) := by rw [← hd0, n0d, a0F, a0F, k3']
  have u1 : kc u = 2 * kc Y * kc Z := by rw [← hu0, n0d, a0F, a0F, k2]
  have uu1 : kc uu = kc u * kc u := by rw [← huu, n0d, a0F]
  have uuu1 : kc uuu = kc uu * kc u := by rw [← huuu, n0d, a0F]
  have t1 : kc t = kc d * kc d * kc Z - 2 * kc X * kc uu := by rw [← ht, n0d, c0Y, a0F, a0F, a0F, a0F, k2]
  have X1 : kc X' = kc u * kc t := by rw [← hX', n0d, a0F]
  have Y1 : kc Y' = kc d * (kc X * kc uu - kc t) - kc Y * kc uuu := by rw [← hY', n0d, c0Y, a0F, c0Y, a0F, a0F]
  have Z1 : kc Z' = kc uuu * kc Z := by rw [← hZ', n0d, a0F]
  rw [← d1, ← u1, ← uu1, ← uuu1, ← t1, ← X1, ← Y1, ← Z1] at hd
  rw [← hd] at hbit
  clear d1 u1 uu1 uuu1 t1 X1 Y1 Z1 hd0 hu0 huu huuu ht hX' hY' hZ'
  have hon' : onC (nm (kc X') (kc Y') (kc Z')) := by rw [hd]; exact c0e (a0W d0j _) (a0W d0j _)
  by_cases hb : e / 2 ^ k % 2 = 1
  ·rw [if_pos hb] at h hbit
   simp only [Bool.and_eq_true, Bool.not_eq_true', beq_eq_false_iff_ne, ne_eq] at h
   obtain ⟨hz', hu', h⟩ := h
   have one : kc 1 = 1 := by decide
   have hnP : nm (kc hX) (kc hY) (kc 1) = hP := q0S ap12 (by rw [one]; grind -lia -linarith) (by rw [one]; grind -lia -linarith)
   have hs := s0W (X2 := kc hX) (Y2 := kc hY) (Z2 := kc 1) hon' (by rw [hnP]; exact d0j) (w0p _ hz') ap12 (kc (hY * Z')) (kc (hX * Z')) (kc Y') (kc X') (kc (hY * Z') - kc Y') (kc (hX * Z') - kc X') (kc Z') _ _ _ (a0F _ _) (a0F _ _) (by rw [one]; grind -lia -linarith) (by rw [one]; grind -lia -linarith) rfl rfl
    (by rw [← c0Y]; exact w0p _ (by rw [Nat.mod_mod] at hu'; exact hu')) (by rw [one]; grind -lia -linarith) rfl rfl rfl
   rw [hnP] at hs
   generalize hd0 : (hY * Z' + (fP - Y' % fP)) % fP = d at h
   generalize hu0 : (hX * Z' + (fP - X' % fP)) % fP = u at h
   generalize huu : u * u % fP = uu at h
   generalize huuu : uu * u % fP = uuu at h
   generalize ht : (d * d * Z' + (fP - uuu % fP) + (fP - 2 * X' * uu % fP)) % fP = t at h
   have d1 : kc d = kc (hY * Z') - kc Y' := by rw [← hd0, n0d, c0Y]
   have u1 : kc u = kc (hX * Z') - kc X' := by rw [← hu0, n0d, c0Y]
   have uu1 : kc uu = kc u * kc u := by rw [← huu, n0d, a0F]
   have uuu1 : kc uuu = kc uu * kc u := by rw [← huuu, n0d, a0F]
   have t1 : kc t = kc d * kc d * kc Z' - kc uuu - 2 * kc X' * kc uu := by rw [← ht, n0d, c0Y, c0Y, a0F, a0F, a0F, a0F, k2]
   rw [← d1, ← u1, ← uu1, ← uuu1, ← t1] at hs
   refine l0e e k _ _ _ h ?_
   rw [hbit, ← hs, n0d, n0d, n0d, a0F, c0Y, a0F, c0Y, a0F, a0F, a0F]
  ·rw [if_neg hb] at h hbit
   rw [b0G] at hbit
   exact l0e e k _ _ _ h hbit.symm
theorem B0I : a0P qN hP = .O := by
 have one : kc 1 = 1 := by decide
 have hnP : nm (kc hX) (kc hY) (kc 1) = hP := q0S ap12 (by rw [one]; grind -lia -linarith) (by rw [one]; grind -lia -linarith)
 have h := l0e (qN - 1) 255 hX hY 1 z0y (by rw [hnP, show (qN - 1) / 2 ^ 255 = 1 by decide]; rfl)
 have e : qN = (qN - 1) + 1 := by decide
 rw [e]
 show a0U (a0P (qN - 1) hP) hP = .O
 rw [h, c0o]
 exact c0i
theorem d0L {a b c : Pt} (ha : onC a) (hb : onC b) (hc : onC c) (h : a0U a b = a0U a c) : b = c := by
 have h1 : a0U (d0w a) (a0U a b) = a0U (d0w a) (a0U a c) := by rw [h]
 rw [← b0a (b0T ha) ha hb, ← b0a (b0T ha) ha hc, c0o (d0w a) a, c0i] at h1
 exact h1
theorem f0f {a b : Pt} (ha : onC a) (hb : onC b) (h : a0U a b = .O) : b = d0w a := d0L ha hb (b0T ha) (by rw [h, c0i])
theorem B0J {p : Pt} (hp : onC p) (h : a0U p p = .O) : p = .O := by
 have e := f0f hp hp h
 cases p with
 | O => rfl
 | A x y =>
  exfalso
  have hy : y = -y := by
   have : Pt.A x y = Pt.A x (-y) := e
   injection this
  have h2 : (2 : K) * y = 0 := by grind -lia -linarith
  exact (a0z h2).elim j0M (u0A hp)
theorem f0g {a b c d : Pt} (ha : onC a) (hb : onC b) (hc : onC c) (hd : onC d) : a0U (a0U a b) (a0U c d) = a0U (a0U a c) (a0U b d) := by
 rw [b0a ha hb (c0e hc hd), ← b0a hb hc hd, c0o b c, b0a hc hb hd, ← b0a ha hc (c0e hb hd)]
def InH (p : Pt) : Prop := ∃ n, p = a0P n hP
theorem InH.on {p : Pt} (h : InH p) : onC p := by obtain ⟨n, rfl⟩ := h; exact a0W d0j n
theorem InH.add {p q : Pt} (h : InH p) (k : InH q) : InH (a0U p q) := by
 obtain ⟨m, rfl⟩ := h
 obtain ⟨n, rfl⟩ := k
 exact ⟨m + n, (b0M d0j m n).symm⟩
theorem w0q (n : Nat) : a0P (qN * n) hP = .O := by rw [e0H d0j, B0I, m0A]
theorem InH.neg {p : Pt} (h : InH p) : InH (d0w p) := by
 obtain ⟨n, rfl⟩ := h
 refine ⟨(qN - 1) * n, (f0f (a0W d0j n) (a0W d0j _) ?_).symm⟩
 rw [← b0M d0j, show n + (qN - 1) * n = qN * n by have h := Nat.add_mul 1 (qN - 1) n; rw [Nat.one_mul, show 1 + (qN - 1) = qN by decide] at h; exact h.symm, w0q]
theorem InH.half {p : Pt} (hp : onC p) (h : InH (a0U p p)) : InH p := by
 obtain ⟨n, hn⟩ := h
 have hm : onC (a0P (n * ((qN + 1) / 2)) hP) := a0W d0j _
 have e : a0U (a0P (n * ((qN + 1) / 2)) hP) (a0P (n * ((qN + 1) / 2)) hP) = a0P n hP := by
  rw [← b0M d0j, ← Nat.mul_add, show (qN + 1) / 2 + (qN + 1) / 2 = qN + 1 by decide, Nat.mul_add, Nat.mul_one, b0M d0j, Nat.mul_comm n, w0q]
  rfl
 refine ⟨n * ((qN + 1) / 2), ?_⟩
 have h2 : a0U (a0U p (d0w (a0P (n * ((qN + 1) / 2)) hP))) (a0U p (d0w (a0P (n * ((qN + 1) / 2)) hP))) = .O := by
  rw [f0g hp (b0T hm) hp (b0T hm), hn, ← e, f0g hm hm (b0T hm) (b0T hm), c0i]
  rfl
 have h3 := B0J (c0e hp (b0T hm)) h2
 have h4 : a0U (d0w (a0P (n * ((qN + 1) / 2)) hP)) p = a0U (d0w (a0P (n * ((qN + 1) / 2)) hP)) (a0P (n * ((qN + 1) / 2)) hP) := by
  rw [c0o, h3, c0o, c0i]
 exact d0L (b0T hm) hp hm h4
theorem w0r {i j : Nat} (hi : i < qN) (hj : j < qN) (h : a0P i hP = a0P j hP) : i = j := by
 have key : ∀ i j : Nat, j < qN → i < j → a0P i hP = a0P j hP → False := by
  intro i j hj hij h
  have hd : a0P (j - i) hP = .O := by
   refine d0L (a0W d0j i) (a0W d0j _) trivial ?_
   rw [← b0M d0j, show i + (j - i) = j by omega, ← h, b0G]
  have hq := C0U
  have hinv := FP.inv D0u (a := j - i) ap13 ap13
  have e1 : a0P ((j - i) * ((j - i) ^ (pQ - 2) % pQ)) hP = .O := by rw [e0H d0j, hd, m0A]
  generalize (j - i) * ((j - i) ^ (pQ - 2) % pQ) = m at *
  rw [← hq] at hinv
  have hm := Nat.div_add_mod m qN
  rw [hinv] at hm
  rw [← hm, b0M d0j, w0q] at e1
  have e2 : a0U (.O) (a0P 1 hP) = hP := rfl
  rw [e2] at e1
  cases e1
 rcases Nat.lt_trichotomy i j with k | k | k
 ·exact (key i j hj k h).elim
 ·exact k
 ·exact (key j i hi k h.symm).elim
theorem pig (N B : Nat) (g : Nat → Nat) (hb : ∀ a, a < N → g a < B) (hi : ∀ a b, a < N → b < N → g a = g b → a = b) : N ≤ B := by
 have hnd : ((List.range N).map g).Nodup := by
  refine List.pairwise_map.2 ?_
  have h0 : (List.range N).Nodup := List.nodup_range
  refine List.Pairwise.imp_of_mem (fun {a b} ha hb' hne => ?_) h0
  exact fun e => hne (hi a b (List.mem_range.1 ha) (List.mem_range.1 hb') e)
 have hs : (List.range N).map g ⊆ List.range B := by
  intro x hx
  obtain ⟨a, ha, rfl⟩ := List.mem_map.1 hx
  exact List.mem_range.2 (hb a (List.mem_range.1 ha))
 have := List.Nodup.length_le_of_subset hnd hs
 simpa using this
def enc : Pt → Nat
 | .O => 0
 | .A x y => 1 + 2 * x.val + y.val % 2
theorem B0K (p : Pt) : enc p < 2 * fP + 1 := by
 cases p with
 | O => show 0 < 2 * fP + 1; omega
 | A x y => have := x.isLt; show 1 + 2 * x.val + y.val % 2 < 2 * fP + 1; omega
theorem z0z {p q : Pt} (hp : onC p) (hq : onC q) (h : enc p = enc q) : p = q := by
 cases p with
 | O => cases q with
  | O => rfl
  | A x y => have h' : 0 = 1 + 2 * x.val + y.val % 2 := h; omega
 | A x y => cases q with
  | O => have h' : 1 + 2 * x.val + y.val % 2 = 0 := h; omega
  | A x' y' =>
   have h' : 1 + 2 * x.val + y.val % 2 = 1 + 2 * x'.val + y'.val % 2 := h
   have hx : x = x' := Fin.ext ap13
   have hy : y.val % 2 = y'.val % 2 := by omega
   subst hx
   have hp' : y * y = x * x * x + 7 := hp
   have hq' : y' * y' = x * x * x + 7 := hq
   rcases s0Z (hp'.trans hq'.symm) with e | e
   ·rw [e]
   ·exfalso
    rw [e, i0K y' (u0A hq')] at hy
    omega
theorem z0A : ¬ 3 * qN ≤ 2 * fP + 1 := by decide
theorem C0V {p : Pt} (hp : onC p) : InH p := by
 refine Classical.byContradiction fun hn => ?_
 have hnp := b0T hp
 let c : Nat → Pt := fun k => if k = 0 then .O else if k = 1 then p else d0w p
 have hc : ∀ k, onC (c k) := fun k => by
  show onC (if k = 0 then .O else if k = 1 then p else d0w p)
  split
  ·trivial
  ·split
   ·exact hp
   ·exact hnp
 have hsub : ∀ a b : Pt, onC a → onC b → ∀ i j, a0U a (a0P i hP) = a0U b (a0P j hP) → InH (a0U a (d0w b)) := by
  intro a b ha hb i j h
  have hI := a0W d0j i
  have hJ := a0W d0j j
  obtain ⟨m, hm⟩ := InH.add (p := a0P j hP) (q := d0w (a0P i hP)) ⟨j, rfl⟩ (InH.neg ⟨i, rfl⟩)
  refine ⟨m, ?_⟩
  rw [← hm]
  have e1 : a0U (a0U a (a0P i hP)) (a0U (d0w b) (d0w (a0P i hP))) = a0U (a0U b (a0P j hP)) (a0U (d0w b) (d0w (a0P i hP))) := by rw [h]
  rw [f0g ha hI (b0T hb) (b0T hI), f0g hb hJ (b0T hb) (b0T hI), c0i, c0i, b0G] at e1
  exact e1
 have hdiff : ∀ k l, k < 3 → l < 3 → InH (a0U (c k) (d0w (c l))) → k = l := by
  have h0 : c 0 = .O := rfl
  have h1 : c 1 = p := rfl
  have h2 : c 2 = d0w p := rfl
  have nn : d0w (d0w p) = p := (f0f hnp hp (by rw [c0o, c0i])).symm
  have hneg : InH (d0w p) → InH p := fun h => by have := h.neg; rwa [nn] at this
  intro k l hk hl h
  have hk3 : k = 0 ∨ k = 1 ∨ k = 2 := by omega
  have hl3 : l = 0 ∨ l = 1 ∨ l = 2 := by omega
  rcases hk3 with rfl | rfl | rfl <;> rcases hl3 with rfl | rfl | rfl <;> try rfl
  ·rw [h0, h1] at h; exact (hn (hneg h)).elim
  ·rw [h0, h2, nn] at h; exact (hn h).elim
  ·rw [h0, h1] at h; exact (hn (by have h' : InH (a0U p .O) := h; rwa [b0G] at h')).elim
  ·rw [h1, h2, nn] at h; exact (hn (InH.half hp h)).elim
  ·rw [h0, h2] at h; exact (hn (hneg (by have h' : InH (a0U (d0w p) .O) := h; rwa [b0G] at h'))).elim
  ·rw [h1, h2] at h; exact (hn (hneg (InH.half hnp h))).elim
 have hq : 0 < qN := by decide
 have h3 := z0A
 generalize hqn : qN = q at hq h3
 refine h3 (pig (3 * q) (2 * fP + 1) (fun m => enc (a0U (c (m / q)) (a0P (m % q) hP))) (fun a _ => B0K _) ?_)
 intro a b ha hb h
 have ha3 : a / q < 3 := Nat.div_lt_of_lt_mul (by rw [Nat.mul_comm]; exact ha)
 have hb3 : b / q < 3 := Nat.div_lt_of_lt_mul (by rw [Nat.mul_comm]; exact hb)
 have e := z0z (c0e (hc _) (a0W d0j _)) (c0e (hc _) (a0W d0j _)) h
 have ek := hdiff _ _ ha3 hb3 (hsub _ _ (hc _) (hc _) _ _ e)
 rw [ek] at e
 have e2 := d0L (hc _) (a0W d0j _) (a0W d0j _) e
 have hma := Nat.mod_lt a hq
 have hmb := Nat.mod_lt b hq
 rw [← hqn] at hma hmb e2
 have e3 := w0r hma hmb e2
 rw [hqn] at e3
 rw [← Nat.div_add_mod a q, ← Nat.div_add_mod b q, ek, e3]
theorem x0N {p : Pt} (hp : onC p) : a0P qN p = .O := by
 obtain ⟨n, rfl⟩ := C0V hp
 rw [← e0H d0j, Nat.mul_comm, w0q]
theorem h0K {p : Pt} (hp : onC p) (n : Nat) : a0P (n % qN) p = a0P n p := by
 have h := Nat.div_add_mod n qN
 conv => rhs; rw [← h, b0M hp, e0H hp, x0N hp, m0A]
 rfl
theorem p0A {p : Pt} (hp : onC p) (n : Nat) : a0P (qN - n % qN) p = d0w (a0P n p) := by
 refine f0f (a0W hp n) (a0W hp _) ?_
 rw [← h0K hp n, ← b0M hp]
 have := Nat.mod_lt n (show 0 < qN by decide)
 rw [show n % qN + (qN - n % qN) = qN by omega, x0N hp]
end Mvq


set_option maxHeartbeats 16000000
set_option maxRecDepth 1000000
namespace Mvq
theorem w0s {a b : Pt} (ha : onC a) (hb : onC b) : d0w (a0U a b) = a0U (d0w a) (d0w b) := by
 refine (f0f (c0e ha hb) (c0e (b0T ha) (b0T hb)) ?_).symm
 rw [f0g ha hb (b0T ha) (b0T hb), c0i, c0i]
 rfl
theorem C0W {a b : Pt} (ha : onC a) (hb : onC b) : a0U a (d0w b) = .O ↔ a = b := by
 constructor
 ·intro h
  refine d0L (b0T hb) ha hb ?_
  rw [c0o, h, c0o, c0i]
 ·rintro rfl
  exact c0i
theorem z0B {A R C : Pt} (hA : onC A) (hR : onC R) (hC : onC C) : a0U A (a0U (d0w R) (d0w C)) = .O ↔ A = a0U R C := by
 rw [← w0s hR hC]
 exact C0W hA (c0e hR hC)
theorem z0C {p : Pt} (hp : onC p) (k c x : Nat) : a0P ((k + c * x) % qN) p = a0U (a0P k p) (a0P c (a0P x p)) := by
 rw [h0K hp, b0M hp, Nat.mul_comm c x, e0H hp]
theorem t0C {p : Pt} (hp : onC p) : a0P (qN - 1 % qN) p = d0w p := by
 rw [p0A hp]
 rfl
end Mvq


set_option maxHeartbeats 16000000
set_option maxRecDepth 1000000
namespace Go.Proofs.YtmebmhjppmfbbaaGreat
open Go.RowKit Go.Mv Mvp Mvq
def w0t (st label : List UInt8) : Nat := beN (a0K (c0G s0e [st, label]) 31 64) % mQ.M
def i0R (st : List UInt8) : Nat := w0t st i0s
def chN (label : List UInt8) (parts : List (List UInt8)) : Nat := beN (a0K (c0G label parts) 31 64) % mQ.M
theorem z0D (st label : List UInt8) : w0t st label < mQ.M := Nat.mod_lt _ ap12
def b0I (pub first text : List UInt8) : Nat := i0R (e0U (D0h A0N) [(v0k, pub), (y0J, first), (A0O, text)])
def j0T (l : List UInt8) : Bool := b0e mQ l && !decide (beN l = 0)
noncomputable def sgF (key text : List UInt8) : List UInt8 := b0C (a0P (chN c0a [key, text]) gP)
noncomputable def sgZ (key text : List UInt8) : Nat := (chN c0a [key, text] + b0I (b0C (a0P (beN key) gP)) (sgF key text) text * beN key) % mQ.M
noncomputable def sgE (key : List UInt8) : Int := if j0T key = true then 0 else 3
noncomputable def sgS (key text : List UInt8) : List UInt8 := if j0T key = true then sgF key text ++ b0c (sgZ key text) else []
def c0c (l : List UInt8) : Bool := b0D l && !decide (l.getD 0 0 = 0)
open Classical in
noncomputable def veB (pub text s : List UInt8) : Bool := c0c pub && decide (s.length = 65) && b0D (s.take 33) && b0e mQ (s.drop 33) && decide (a0P (beN (s.drop 33)) gP = a0U (c0r (s.take 33)) (a0P (b0I pub (s.take 33) text) (c0r pub)))
end Go.Proofs.YtmebmhjppmfbbaaGreat


namespace Mvt
variable {α : Type} (nd : α → α → α)
def half (n : Nat) : Nat := 2 ^ Nat.log2 (n - 1)
def skip (a e : Nat) : Nat × Nat := if a % 2 = 0 ∧ 0 < a then skip (a / 2) (e / 2) else (a, e)
termination_by a
decreasing_by omega
end Mvt


namespace Go.Proofs.YtmebmhjppmfbbaaGreat
open Go.RowKit Go.Mv Mvp Mvt
attribute [local irreducible] b0t b0K toB a0w a0I b0u c0v a0K c0B b0n a0G c0G
end Go.Proofs.YtmebmhjppmfbbaaGreat


namespace Mvp
end Mvp
namespace Go.Mv
open Mvp
end Go.Mv
namespace Go.Proofs.YtmebmhjppmfbbaaGreat
open Go.RowKit Go.Mv Mvp Mvt
attribute [local irreducible] b0t b0K toB a0w a0I b0u c0v a0K c0B b0n a0G c0G
end Go.Proofs.YtmebmhjppmfbbaaGreat


namespace Go.Proofs.YtmebmhjppmfbbaaGreat
open Go.RowKit Go.Mv Mvp Mvt
attribute [local irreducible] b0t b0K toB a0w a0I b0u c0v a0K c0B b0n a0G c0G
end Go.Proofs.YtmebmhjppmfbbaaGreat


set_option maxHeartbeats 16000000
set_option maxRecDepth 1000000
namespace Mvp
end Mvp
namespace Go.Proofs.YtmebmhjppmfbbaaGreat
open Go.RowKit Go.Mv Mvp
attribute [local irreducible] b0t b0K toB a0w a0I b0u c0v a0K c0B b0n a0G c0G
theorem t0D (b : Option Addr) (n c : Nat) (l : List UInt8) (m : Nat) (w : World) (hn : n ≤ 1000000) (hnc : n ≤ c) (hm : m ≤ 16384) (hb : RdB w b n l) (ho : Old w b) :
  Calls Tryz.prog 107 #[.slice b n c, .int .i64 (m : Int)] w fun r w' => ∃ v, r = .returned (.tuple #[v, .int .i64 0]) ∧ Own w' w.heap.size 5 1 v m (bs (a0K l 31 m)) ∧ Fr Nob w w' := by
 refine (q0u b n c l m w hn hnc hb ho).mono ?_
 rintro r w' (⟨_, _, v, h1, h2, h3⟩ | ⟨h, _⟩)
 ·exact ⟨v, h1, by simpa using h2, h3⟩
 ·omega
end Go.Proofs.YtmebmhjppmfbbaaGreat


namespace Go.Proofs.YtmebmhjppmfbbaaGreat
open Go.RowKit Go.Mv Mvp
attribute [local irreducible] a0E lw mix cw b0o b0x b0l a0L a0q beN b0F b0c b0z a0J a0N elN mdL b0B b0e
end Go.Proofs.YtmebmhjppmfbbaaGreat


namespace Go.Proofs.YtmebmhjppmfbbaaGreat
open Go.RowKit Go.Mv Mvp
attribute [local irreducible] a0E lw mix cw b0o b0x b0l a0L a0q beN b0F b0c b0z a0J a0N elN mdL
end Go.Proofs.YtmebmhjppmfbbaaGreat


set_option maxHeartbeats 16000000
set_option maxRecDepth 1000000
namespace Go.Proofs.YtmebmhjppmfbbaaGreat
open Go.RowKit Go.Mv Mvp
theorem p0B (m : Md) (hM : m.M < B64 ^ 4) (s : ByteArray) (w : World) (h : b0e m s.data.toList = true) :
  Calls Tryz.prog 115 #[fv m.M, .string s] w fun e w' => e = .returned (.tuple #[i4 (beN s.data.toList), .bool true]) ∧ Fr Nob w w' := by
 unfold b0e at h
 simp only [Bool.and_eq_true, decide_eq_true_eq] at h
 refine (m0f m.M s w (by have := h.1; simpa using this) hM).mono fun e w' he => ?_
 rw [decide_eq_true h.2] at he
 exact he
theorem p0C (m : Md) (hM : m.M < B64 ^ 4) (s : ByteArray) (w : World) (h : b0e m s.data.toList = false) :
  Calls Tryz.prog 115 #[fv m.M, .string s] w fun e w' => ∃ N, e = .returned (.tuple #[i4 N, .bool false]) ∧ Fr Nob w w' := by
 by_cases hs : s.size = 32
 ·refine (m0f m.M s w hs hM).mono fun e w' he => ?_
  have h2 : ¬ beN s.data.toList < m.M := by
   intro hb
   unfold b0e at h
   rw [decide_eq_true hb, decide_eq_true (by simpa using hs)] at h
   cases h
  rw [decide_eq_false h2] at he
  exact ⟨_, he⟩
 ·exact (q0H m.M s w hs).mono fun e w' he => ⟨_, he⟩
attribute [local irreducible] a0E lw mix cw b0o b0x b0l a0L a0q beN b0F b0c b0z a0J a0N elN mdL b0e b0B
end Go.Proofs.YtmebmhjppmfbbaaGreat


set_option maxHeartbeats 16000000
set_option maxRecDepth 1000000
namespace Mvp
end Mvp
namespace Go.Proofs.YtmebmhjppmfbbaaGreat
open Go.RowKit Go.Mv Mvp
attribute [local irreducible] a0E lw mix cw b0o b0x b0l a0L a0q beN b0F b0c b0z a0J a0N elN mdL b0B b0e
theorem BParts.four {w : World} {v1 v2 v3 v4 : Value} {l1 l2 l3 l4 : List UInt8} (h1 : BPart w v1 l1) (h2 : BPart w v2 l2) (h3 : BPart w v3 l3) (h4 : BPart w v4 l4) : BParts w [v1, v2, v3, v4] [l1, l2, l3, l4] := ⟨rfl, fun i x hx => by
 match i with
 | 0 => simp at hx; subst hx; exact h1
 | 1 => simp at hx; subst hx; exact h2
 | 2 => simp at hx; subst hx; exact h3
 | 3 => simp at hx; subst hx; exact h4
 | i + 4 => simp at hx⟩
end Go.Proofs.YtmebmhjppmfbbaaGreat


set_option maxHeartbeats 16000000
set_option maxRecDepth 1000000
namespace Go.Proofs.YtmebmhjppmfbbaaGreat
open Go.RowKit Go.Mv Mvp
theorem z0E (x y : Nat) (hx : x < B64 ^ 4) (hy : y < B64 ^ 4) (w : World) : (Op.equal 68 (.agg (cw 4 x).toArray) (.agg (cw 4 y).toArray)).run Tryz.prog w = .ok (x == y) w := by
 have h := k0O (P := Tryz.prog) Tryz.underlying68 Tryz.underlying57 d0b x y w
 rw [Nat.mod_eq_of_lt hx, Nat.mod_eq_of_lt hy] at h
 rw [h]
 congr 1
attribute [local irreducible] a0E lw mix cw b0o b0x b0l a0L a0q beN b0F b0c b0z a0J a0N elN mdL b0B b0e
theorem z0F (m : Md) (hk : KindOf 1 m) (w : World) :
  Calls Tryz.prog 48 #[] w fun e w' => e = .returned (fv m.M) ∧ Fr Nob w w' := by
 have HK := Lib.hid hk
 have HOK := Lib.hid hk.ok
 clear hk
 have st0 := St.start Nob w
 go_enter Tryz.func48, Tryz.ntmps48
 go_wp2_with (with_reducible refine wSk 0 ?_)
 refine a0a st0 rfl rfl (z := .agg #[.int .u64 0, .int .u64 0, .int .u64 0, .int .u64 0, .int .u64 0, .int .u64 0, .int .u64 0, .int .u64 0]) ap11 (cw 8 0) ap9 ?_
 intro g0 w1 st1
 clear st0
 go_wp2_with fail
 refine (B0c HK.out _).mono ?_
 rintro e' w2 ⟨rfl, hf2⟩
 have st2 := st1.keep hf2
 clear st1 hf2
 go_wp2_with (with_reducible refine wSn ?_)
 refine a0b st2 0 rfl rfl rfl rfl rfl ap5 ap4 (k0F _ _ _ _) ?_
 intro w3 st3
 clear st2
 have hr := st3.at 0 rfl
 have hfr := st3.fr
 clear st3
 go_wp2_with fail
 exact bodyPost_ret (a0t rfl rfl hr Tryz.underlying72 rfl ap4) rfl ⟨rfl, hfr⟩
theorem w0u (m : Md) (hk : KindOf 1 m) (s : ByteArray) (w : World) (ha : b0e m s.data.toList = true) :
  Calls Tryz.prog 68 #[.string s] w fun e w' => e = .returned (.tuple #[i4 (beN s.data.toList), .bool true]) ∧ Fr Nob w w' := by
 have HK := Lib.hid hk
 have HOK := Lib.hid hk.ok
 clear hk
 have HA := Lib.hid ha
 clear ha
 have st0 := St.start Nob w
 go_enter Tryz.func68, Tryz.ntmps68
 go_wp2_with (with_reducible refine wSk 2 ?_)
 refine a0a st0 rfl rfl (z := zAd) ap11 (cw 4 0) ap9 ?_
 intro g2 w1 st1
 clear st0
 go_wp2_with fail
 refine (z0F m HK.out _).mono ?_
 rintro e' w2 ⟨rfl, hf2⟩
 have st2 := st1.keep hf2
 clear st1 hf2
 go_wp2_with fail
 refine (p0B m HOK.out.lt s _ HA.out).mono ?_
 rintro e' w3 ⟨rfl, hf3⟩
 have st3 := st2.keep hf3
 clear st2 hf3
 go_wp2_with (with_reducible refine wSn ?_)
 refine a0b st3 0 rfl rfl rfl rfl rfl ap5 ap4 (a0g _ _) ?_
 intro w4 st4
 clear st3
 have hr := st4.at 0 rfl
 have hfr := st4.fr
 clear st4
 go_wp2_with fail
 exact bodyPost_ret (a0V rfl rfl hr Tryz.underlying68 ap4 rfl) rfl ⟨rfl, hfr⟩
theorem w0v (m : Md) (hk : KindOf 1 m) (s : ByteArray) (w : World) (ha : b0e m s.data.toList = false) :
  Calls Tryz.prog 68 #[.string s] w fun e w' => ∃ N, e = .returned (.tuple #[i4 N, .bool false]) ∧ Fr Nob w w' := by
 have HK := Lib.hid hk
 have HOK := Lib.hid hk.ok
 clear hk
 have HA := Lib.hid ha
 clear ha
 have st0 := St.start Nob w
 go_enter Tryz.func68, Tryz.ntmps68
 go_wp2_with (with_reducible refine wSk 2 ?_)
 refine a0a st0 rfl rfl (z := zAd) ap11 (cw 4 0) ap9 ?_
 intro g2 w1 st1
 clear st0
 go_wp2_with fail
 refine (z0F m HK.out _).mono ?_
 rintro e' w2 ⟨rfl, hf2⟩
 have st2 := st1.keep hf2
 clear st1 hf2
 go_wp2_with fail
 refine (p0C m HOK.out.lt s _ HA.out).mono ?_
 rintro e' w3 ⟨NA, rfl, hf3⟩
 have st3 := st2.keep hf3
 clear st2 hf3
 go_wp2_with (with_reducible refine wSn ?_)
 refine a0b st3 0 rfl rfl rfl rfl rfl ap5 ap4 (a0g _ _) ?_
 intro w4 st4
 clear st3
 have hr := st4.at 0 rfl
 have hfr := st4.fr
 clear st4
 go_wp2_with fail
 exact bodyPost_ret (a0V rfl rfl hr Tryz.underlying68 ap4 rfl) rfl ⟨_, rfl, hfr⟩
theorem C0X (p a b r : Nat) (w : World) (hp0 : 0 < p) (hp : p < B64 ^ 4) (ha : a < B64 ^ 4) (hb : b < B64 ^ 4) (hbp : b ≤ p) (hr : (a + (p - b)) % p = r) :
  Calls Tryz.prog 133 #[fv p, i4 a, i4 b] w fun e w' => e = .returned (i4 r) ∧ Fr Nob w w' := by
 refine (y0K p a b w hp0 hp ha hb hbp).mono fun e w' h => ?_
 rw [Nat.add_mod_mod, hr] at h
 exact h
end Go.Proofs.YtmebmhjppmfbbaaGreat


set_option maxHeartbeats 16000000
set_option maxRecDepth 1000000
namespace Go.Proofs.YtmebmhjppmfbbaaGreat
open Go.RowKit Go.Mv Mvp Mvt
theorem PartIs.bpart {w : World} {v : Value} {l : List UInt8} (h : PartIs w v l) : BPart w v l := by
 obtain ⟨a, n, c, rfl, hc, -, hr, -⟩ := h; exact ⟨a, n, c, rfl, hc, hr⟩
theorem o0e (v : Value) (l : List UInt8) (m : Nat) (w : World) (hm : m ≤ 16384) (hp : PartIs w v l) :
  Calls Tryz.prog 107 #[v, .int .i64 (m : Int)] w fun r w' => ∃ v, r = .returned (.tuple #[v, .int .i64 0]) ∧ Own w' w.heap.size 5 1 v m (bs (a0K l 31 m)) ∧ Fr Nob w w' := by
 obtain ⟨a, n, c, rfl, hc, hn, hr, ho⟩ := hp
 exact t0D a n c l m w hn hc hm hr ho
theorem j0U (m : Md) (hk : KindOf 1 m) (v : Value) (l : List UInt8) (w : World) (hp : PartIs w v l) :
  Calls Tryz.prog 109 #[v] w fun e w' => e = .returned (i4 (elN m (beN l))) ∧ Fr Nob w w' := by
 obtain ⟨a, n, c, rfl, hc, hn, hr, ho⟩ := hp
 exact s0G m hk a n c l w hr hc hn
attribute [local irreducible] a0E lw mix cw b0o b0x b0l a0L a0q beN b0F b0c b0z a0J a0N elN mdL b0B b0e b0t b0K toB a0w a0I b0u c0v a0K c0B b0n a0G c0G
end Go.Proofs.YtmebmhjppmfbbaaGreat


set_option maxHeartbeats 16000000
set_option maxRecDepth 1000000
namespace Go.Proofs.YtmebmhjppmfbbaaGreat
open Go.RowKit Go.Mv Mvp Mvq
attribute [local irreducible] a0E lw mix cw b0o b0x b0l a0L a0q beN b0F b0c b0z a0J a0N elN mdL b0e b0t b0K toB a0w a0I b0u c0v a0K c0B b0n a0G c0G
theorem B0L : (Tryz.prog.info? 61).map (·.zero) = some (some (.agg #[.int .u64 0, .int .u64 0, .int .u64 0, .int .u64 0])) := by kernel_rfl
theorem f0h (x : Nat) : (Tryz.prog.info? 61).map (·.size) = some (cw 4 x).length := by rw [a0e]; kernel_rfl
theorem o0f (x y : Nat) : (cw 4 x).length = (cw 4 y).length := by rw [a0e, a0e]
theorem i0S {w : World} {base : Nat} {v : Value} {n : Nat} {l : List UInt8} (h : Own w base 5 1 v n (bs l)) (hn : n ≤ 1000000) : ∃ a c, v = .slice a n c ∧ PartIs w (.slice a n c) l := by
 have h2 := b0Y h hn
 obtain ⟨a, c, rfl, -⟩ := g0e h
 exact ⟨a, c, rfl, h2⟩
theorem Parts.stillT {w w' : World} : ∀ {vs : List Value} {ls : List (List UInt8)}, Parts w vs ls → Fr Nob w w' → Parts w' vs ls
 | [], [], _, _ => trivial
 | _ :: _, _ :: _, h, hf => ⟨h.1.still hf, Parts.stillT h.2 hf⟩
 | [], _ :: _, h, _ => h.elim
 | _ :: _, [], h, _ => h.elim
theorem h0a (s : ByteArray) (a : Option Addr) (n c : Nat) : Tryz.prog.built 129 [(0, .string s), (1, .slice a n c)] = some ([Value.string s, .slice a n c]).toArray := by kernel_rfl
theorem r0a : (Tryz.prog.info? 129).map (fun i => (i.zero, i.size, i.bytes)) = some (some (.agg #[.string ByteArray.empty, .slice none 0 0]), 2, 40) := by kernel_rfl
theorem t0E (base g : Nat) (st : List UInt8) (s : ByteArray) (w : World) (hs : s.size ≤ 1000000) (hl : LogAt w base g st) (hbase : base ≤ w.heap.size) :
  Calls Tryz.prog 87 #[tkV g, .string s] w fun e w' => e = .returned (i4 (elN mQ (w0t st s.data.toList))) ∧ LogAt w' base g (c0G h0j [st, s.data.toList]) ∧ Fr (One g) w w' := by
 have HS := Lib.hid hs
 have HL := Lib.hid hl
 have HBS := Lib.hid hbase
 clear hs hl hbase
 have st0 := St.start (One g) w
 go_enter Tryz.func87, Tryz.ntmps87
 go_wp2_with (with_reducible refine wSk 2 ?_)
 refine k0G st0 rfl rfl rfl [.pointer (some ⟨g, 0, none⟩)] rfl ?_
 intro g2 w1 st1 hf1
 have HL1 := Lib.hid (HL.out.still hf1)
 clear st0 hf1 HL
 go_wp2_with (with_reducible refine wSk 4 ?_)
 refine c0V st1 rfl rfl B0L (cw 4 0) ap9 ?_
 intro g4 w2 st2 hf2 hs2
 have HL2 := Lib.hid (HL1.out.still hf2)
 clear st1 hf2 hs2 HL1
 have hc0 := (st2.at 0 rfl).cell (i := 0) rfl
 have ST2 := Lib.hid st2
 clear st2
 go_wp2_with fail
 refine (y0A base g st s 64 _ HS.out ap12 HL2.out (Nat.le_trans HBS.out ST2.out.fr.size)).mono ?_
 rintro e' w3 ⟨v, rfl, ho, hl3, hf3⟩
 have st3 := ST2.out.keep1 hf3 (.inr rfl) (HL2.out.notIn ST2.out.has (by intro x hx; simp only [List.mem_cons, List.not_mem_nil, or_false, List.cons_append, List.nil_append] at hx; rcases hx with rfl | rfl <;> (dsimp only; decide)))
 have HL3 := Lib.hid hl3
 obtain ⟨a, c, rfl, hp⟩ := i0S ho ap12
 have HP := Lib.hid hp
 clear hl3 hf3 ho hp HL2 ST2 hc0
 go_wp2_with fail
 refine (j0U mQ .one _ _ _ HP.out).mono ?_
 rintro e' w4 ⟨rfl, hf4⟩
 have st4 := st3.keep hf4
 have HL4 := Lib.hid (HL3.out.still hf4)
 clear st3 hf4 HL3 HP
 go_wp2_with (with_reducible refine wSn ?_)
 refine e0l st4 1 rfl rfl rfl rfl rfl (o0f _ _) (f0h _) (a0g _ _) ?_
 intro w5 st5 hf5
 have HL5 := Lib.hid (HL4.out.off hf5 (st4.at 1 rfl) ap12 ap12)
 clear st4 hf5 HL4
 have hr := st5.at 1 rfl
 have hfr := st5.fr
 clear st5
 go_wp2_with fail
 exact bodyPost_ret (a0t rfl rfl hr Tryz.underlying61 rfl (f0h _)) rfl ⟨by unfold w0t; rw [m0k]; rfl, HL5.out, hfr⟩
theorem z0G (base g : Nat) (st : List UInt8) (w : World) (hl : LogAt w base g st) (hbase : base ≤ w.heap.size) :
  Calls Tryz.prog 111 #[tkV g] w fun e w' => e = .returned (i4 (elN mQ (i0R st))) ∧ LogAt w' base g (c0G h0j [st, i0s]) ∧ Fr (One g) w w' := by
 have HL := Lib.hid hl
 have HBS := Lib.hid hbase
 clear hl hbase
 have st0 := St.start (One g) w
 go_enter Tryz.func111, Tryz.ntmps111
 go_wp2_with (with_reducible refine wSk 1 ?_)
 refine k0G st0 rfl rfl rfl [.pointer (some ⟨g, 0, none⟩)] rfl ?_
 intro g2 w1 st1 hf1
 have HL1 := Lib.hid (HL.out.still hf1)
 clear st0 hf1 HL
 go_wp2_with (with_reducible refine wSk 2 ?_)
 refine c0V st1 rfl rfl B0L (cw 4 0) ap9 ?_
 intro g4 w2 st2 hf2 hs2
 have HL2 := Lib.hid (HL1.out.still hf2)
 clear st1 hf2 hs2 HL1
 go_wp2_with (with_reducible refine wSk 3 ?_)
 refine a0m st2 0 rfl rfl rfl Tryz.underlying125 rfl rfl ap11 ?_
 have ST2 := Lib.hid st2
 clear st2
 go_wp2_with fail
 refine (t0E base g st ⟨#[99, 104, 97, 108, 108, 101, 110, 103, 101]⟩ _ ap12 HL2.out (Nat.le_trans HBS.out ST2.out.fr.size)).mono ?_
 rintro e' w3 ⟨rfl, hl3, hf3⟩
 have st3 := ST2.out.keep1 hf3 (.inr rfl) (HL2.out.notIn ST2.out.has (by intro x hx; simp only [List.mem_cons, List.not_mem_nil, or_false, List.cons_append, List.nil_append] at hx; rcases hx with rfl | rfl <;> (dsimp only; decide)))
 have HL3 := Lib.hid hl3
 clear hl3 hf3 HL2 ST2
 go_wp2_with (with_reducible refine wSn ?_)
 refine e0l st3 1 rfl rfl rfl rfl rfl (o0f _ _) (f0h _) (a0g _ _) ?_
 intro w5 st5 hf5
 have HL5 := Lib.hid (HL3.out.off hf5 (st3.at 1 rfl) ap12 ap12)
 clear st3 hf5 HL3
 have hr := st5.at 1 rfl
 have hfr := st5.fr
 clear st5
 go_wp2_with fail
 exact bodyPost_ret (a0t rfl rfl hr Tryz.underlying61 rfl (f0h _)) rfl ⟨rfl, HL5.out, hfr⟩
theorem w0w (s : ByteArray) (k : List UInt8) (hk : s.data.toList = k) (gl c : Nat) (vs : List Value) (ls : List (List UInt8)) (w : World) (hs : s.size ≤ 1000000) (hh : Has w gl vs 22) (hp : Parts w vs ls) (hn : ls.length ≤ 1000000) :
  Calls Tryz.prog 42 #[.string s, .slice (some ⟨gl, 0, none⟩) ls.length c] w fun e w' => e = .returned (i4 (elN mQ (chN k ls))) ∧ Fr Nob w w' := by
 subst hk
 have HS := Lib.hid hs
 have HH := Lib.hid hh
 have HP := Lib.hid hp
 have HN := Lib.hid hn
 clear hs hh hp hn
 have st0 := St.start Nob w
 go_enter Tryz.func42, Tryz.ntmps42
 go_wp2_with (with_reducible refine wSk 4 ?_)
 refine c0V st0 rfl rfl B0L (cw 4 0) ap9 ?_
 intro g4 w2 st2 hf2 hs2
 have HH2 := Lib.hid (HH.out.keep hf2 id)
 have HP2 := Lib.hid (HP.out.stillT hf2)
 clear st0 hf2 hs2 HH HP
 go_wp2_with fail
 refine (y0y s (some ⟨gl, 0, none⟩) c ls _ HS.out HN.out (HP2.out.at HH2.out)).mono ?_
 rintro e' w3 ⟨v, rfl, ho, hf3⟩
 have st3 := st2.keep hf3
 obtain ⟨a, c3, rfl, hq⟩ := i0S ho ap12
 have HQ := Lib.hid hq
 clear st2 hf3 ho hq HH2 HP2
 go_wp2_with fail
 refine (o0e _ _ 64 _ ap12 HQ.out).mono ?_
 rintro e' w4 ⟨v, rfl, ho, hf4⟩
 have st4 := st3.keep hf4
 obtain ⟨a4, c4, rfl, hq⟩ := i0S ho ap12
 have HQ4 := Lib.hid hq
 clear st3 hf4 ho hq HQ
 go_wp2_with fail
 refine (j0U mQ .one _ _ _ HQ4.out).mono ?_
 rintro e' w5 ⟨rfl, hf5⟩
 have st5 := st4.keep hf5
 clear st4 hf5 HQ4
 go_wp2_with (with_reducible refine wSn ?_)
 refine a0b st5 0 rfl rfl rfl rfl rfl (o0f _ _) (f0h _) (a0g _ _) ?_
 intro w6 st6
 clear st5
 have hr := st6.at 0 rfl
 have hfr := st6.fr
 clear st6
 go_wp2_with fail
 exact bodyPost_ret (a0t rfl rfl hr Tryz.underlying61 rfl (f0h _)) rfl ⟨by unfold chN; rw [m0k]; rfl, hfr⟩
theorem t0F (v0 : Value) (l0 : List UInt8) (v1 : Value) (l1 : List UInt8) (v2 : Value) (l2 : List UInt8) (w : World) (h0 : PartIs w v0 l0) (h1 : PartIs w v1 l1) (h2 : PartIs w v2 l2) :
  Calls Tryz.prog 45 #[v0, v1, v2] w fun e w' => e = .returned (i4 (elN mQ (b0I l0 l1 l2))) ∧ Fr Nob w w' := by
 obtain ⟨a0, n0, c0, rfl, k0⟩ := h0
 have H0 := Lib.hid (show PartIs w (.slice a0 n0 c0) l0 from ⟨a0, n0, c0, rfl, k0⟩)
 clear k0
 obtain ⟨a1, n1, c1, rfl, k1⟩ := h1
 have H1 := Lib.hid (show PartIs w (.slice a1 n1 c1) l1 from ⟨a1, n1, c1, rfl, k1⟩)
 clear k1
 obtain ⟨a2, n2, c2, rfl, k2⟩ := h2
 have H2 := Lib.hid (show PartIs w (.slice a2 n2 c2) l2 from ⟨a2, n2, c2, rfl, k2⟩)
 clear k2
 have st0 := St.start Nob w
 go_enter Tryz.func45, Tryz.ntmps45
 go_wp2_with (with_reducible refine wSk 6 ?_)
 refine c0V st0 rfl rfl B0L (cw 4 0) ap9 ?_
 intro g4 w2 st2 hf2 hs2
 have HSZ := Lib.hid st2.fr.size
 clear st0 hf2 hs2
 go_wp2_with fail
 refine (s0y ⟨#[115, 105, 103, 110]⟩ _ ap12).mono ?_
 rintro e' w3 ⟨g, rfl, hle, hl, hf3⟩
 have st3 := st2.keep hf3
 have HL := Lib.hid hl
 have HG := Lib.hid (Nat.le_trans HSZ.out hle)
 have HBS := Lib.hid hf3.size
 clear st2 hf3 hl hle HSZ
 go_wp2_with (with_reducible refine wSk 9 ?_)
 refine a0X rfl rfl _ (h0a _ _ _ _) ?_
 go_wp2_with (with_reducible refine wSk 11 ?_)
 refine a0X rfl rfl _ (h0a _ _ _ _) ?_
 go_wp2_with (with_reducible refine wSk 13 ?_)
 refine a0X rfl rfl _ (h0a _ _ _ _) ?_
 go_wp2_with (with_reducible refine wSk 14 ?_)
 refine g0u rfl rfl Tryz.underlying191 r0a [.agg #[.string ⟨#[112, 117, 98, 108, 105, 99]⟩, .slice a0 n0 c0], .agg #[.string ⟨#[102, 105, 114, 115, 116]⟩, .slice a1 n1 c1], .agg #[.string ⟨#[116, 101, 120, 116]⟩, .slice a2 n2 c2]] rfl (by simp [Value.cells]) rfl (sdC [(⟨#[112, 117, 98, 108, 105, 99]⟩, .slice a0 n0 c0), (⟨#[102, 105, 114, 115, 116]⟩, .slice a1 n1 c1), (⟨#[116, 101, 120, 116]⟩, .slice a2 n2 c2)]) (by unfold sdC; simp [Value.cells]) ?_
 intro w5 hh5 hf5 hz5
 have st5 := st3.keep hf5
 have HL5 := Lib.hid (HL.out.still hf5)
 have HH5 := Lib.hid hh5
 have HBS5 := Lib.hid (Nat.le_trans HBS.out hf5.size)
 clear st3 hf5 hz5 HL HBS hh5
 generalize w3.heap.size = gl at *
 have ST5 := Lib.hid st5
 clear st5
 go_wp2_with fail
 refine (v0s w _ g _ gl 3 [(⟨#[112, 117, 98, 108, 105, 99]⟩, .slice a0 n0 c0), (⟨#[102, 105, 114, 115, 116]⟩, .slice a1 n1 c1), (⟨#[116, 101, 120, 116]⟩, .slice a2 n2 c2)] [l0, l1, l2] _ HG.out ST5.out.fr HBS5.out HL5.out HH5.out ap14 (by intro x hx; simp only [List.mem_cons, List.not_mem_nil, or_false] at hx; rcases hx with rfl | rfl | rfl <;> simp <;> decide) ⟨H0.out, H1.out, H2.out, trivial⟩).mono ?_
 rintro e' w6 ⟨rfl, hl6, hf6⟩
 have st6 := ST5.out.keep1 hf6 (.inl HG.out) (HL5.out.notIn ST5.out.has (by intro x hx; simp only [List.mem_cons, List.not_mem_nil, or_false, List.cons_append, List.nil_append] at hx; subst hx; dsimp only; decide))
 have HL6 := Lib.hid hl6
 have HBS6 := Lib.hid (Nat.le_trans HBS5.out hf6.size)
 clear ST5 hl6 hf6 HL5 HH5 HBS5 H0 H1 H2
 have ST6 := Lib.hid st6
 clear st6
 go_wp2_with fail
 refine (z0G _ g _ _ HL6.out HBS6.out).mono ?_
 rintro e' w7 ⟨rfl, hl7, hf7⟩
 have st7 := ST6.out.keep1 hf7 (.inl HG.out) (HL6.out.notIn ST6.out.has (by intro x hx; simp only [List.mem_cons, List.not_mem_nil, or_false, List.cons_append, List.nil_append] at hx; subst hx; dsimp only; decide))
 clear ST6 hl7 hf7 HL6 HBS6 HG
 go_wp2_with (with_reducible refine wSn ?_)
 refine a0b st7 0 rfl rfl rfl rfl rfl (o0f _ _) (f0h _) (a0g _ _) ?_
 intro w8 st8
 clear st7
 have hr := st8.at 0 rfl
 have hfr := st8.fr
 clear st8
 go_wp2_with fail
 exact bodyPost_ret (a0t rfl rfl hr Tryz.underlying61 rfl (f0h _)) rfl ⟨rfl, hfr⟩
end Go.Proofs.YtmebmhjppmfbbaaGreat


set_option maxHeartbeats 16000000
set_option maxRecDepth 1000000
namespace Go.Mv
open Go.RowKit
theorem r0b (A F B cs : List Value) (n off : Nat) (hA : A.length = n) (h : off + cs.length ≤ F.length) : splice (A ++ (F ++ B)) (n + off) cs = A ++ (splice F off cs ++ B) := by
 subst hA
 unfold splice
 have h1 : List.take (A.length + off) (A ++ (F ++ B)) = A ++ List.take off F := by
  rw [List.take_length_add_append, List.take_append_of_le_length ap13]
 have h2 : List.drop (A.length + off + cs.length) (A ++ (F ++ B)) = List.drop (off + cs.length) F ++ B := by
  rw [Nat.add_assoc, List.drop_length_add_append, List.drop_append_of_le_length h]
 rw [h1, h2]
 simp [List.append_assoc]
theorem p0D (f f' : Nat → List Value) (k : Nat) (hl : ∀ i, (f i).length = k) (n i off : Nat) (cs : List Value) (h : i < n) (ho : off + cs.length ≤ k) (hi : f' i = splice (f i) off cs) (hv : ∀ j, j ≠ i → f' j = f j) : splice ((List.range n).flatMap f) (i * k + off) cs = (List.range n).flatMap f' := by
 have hlen : (splice (f i) off cs).length = k := by
  unfold splice
  simp only [List.length_append, List.length_take, List.length_drop, hl]
  omega
 have e := p0s f f' k hl n i h (by rw [hi]; exact hlen) hv
 rw [← e, hi, f0q f n i h, r0b _ _ _ cs (i * k) off (by rw [d0y f k hl, Nat.mul_comm]) (by rw [hl]; exact ho), j0P _ _ _ _ (i * k) (by rw [d0y f k hl, Nat.mul_comm]) (by rw [hlen, hl])]
end Go.Mv
namespace Go.Proofs.YtmebmhjppmfbbaaGreat
open Go.RowKit Go.Mv Mvp Mvq
noncomputable def tmF (n : Nat) (a : Nat → Nat) (T : Nat → List Value) : List Value := (List.range n).flatMap fun i => cw 4 (a i) ++ T i
def upN {α : Type} (a : Nat → α) (k : Nat) (x : α) : Nat → α := fun i => if i = k then x else a i
theorem t0G (a : Nat → Nat) (T : Nat → List Value) (hT : ∀ i, (T i).length = 192) (i : Nat) : (cw 4 (a i) ++ T i).length = 196 := by rw [List.length_append, a0e, hT]
theorem t0H (n : Nat) (a : Nat → Nat) (T : Nat → List Value) (hT : ∀ i, (T i).length = 192) : (tmF n a T).length = n * 196 := by
 rw [Nat.mul_comm]; exact d0y _ 196 (t0G a T hT) n
theorem w0x (n : Nat) (a : Nat → Nat) (T : Nat → List Value) (hT : ∀ i, (T i).length = 192) (k x : Nat) (h : k < n) : splice (tmF n a T) (k * 196) (cw 4 x) = tmF n (upN a k x) T := by
 have := p0D (fun i => cw 4 (a i) ++ T i) (fun i => cw 4 (upN a k x i) ++ T i) 196 (t0G a T hT) n k 0 (cw 4 x) h (by rw [a0e]; omega)
  (by
   show cw 4 (upN a k x k) ++ T k = _
   unfold upN splice
   rw [if_pos rfl, Nat.zero_add, a0e, List.drop_append_of_le_length (by rw [a0e]; omega), List.drop_of_length_le (by rw [a0e]; omega)]
   rfl)
  (fun j hj => by show cw 4 (upN a k x j) ++ T j = _; unfold upN; rw [if_neg hj])
 rw [Nat.add_zero] at this
 exact this
theorem w0y (n : Nat) (a : Nat → Nat) (T : Nat → List Value) (hT : ∀ i, (T i).length = 192) (k : Nat) (t : List Value) (ht : t.length = 192) (h : k < n) : splice (tmF n a T) (k * 196 + 4) t = tmF n a (upN T k t) :=
 p0D (fun i => cw 4 (a i) ++ T i) (fun i => cw 4 (a i) ++ upN T k t i) 196 (t0G a T hT) n k 4 t h (by rw [ht]; omega)
  (by
   show cw 4 (a k) ++ upN T k t k = _
   unfold upN splice
   rw [if_pos rfl, List.take_append_of_le_length (by rw [a0e]; omega), List.take_of_length_le (by rw [a0e]; omega), List.drop_of_length_le (by rw [List.length_append, a0e, hT, ht]; omega), List.append_nil])
  (fun j hj => by show cw 4 (a j) ++ upN T k t j = _; unfold upN; rw [if_neg hj])
theorem f0i (n : Nat) (a a' : Nat → Nat) (T T' : Nat → List Value) (h : ∀ i, i < n → a i = a' i ∧ T i = T' i) : tmF n a T = tmF n a' T' := by
 unfold tmF
 rw [List.flatMap_def, List.flatMap_def]
 congr 1
 exact List.map_congr_left fun i hi => by obtain ⟨h1, h2⟩ := h i (List.mem_range.1 hi); rw [h1, h2]
theorem w0z (n : Nat) : List.replicate (n * 196) (Value.int .u64 0) = tmF n (fun _ => 0) (fun _ => cw 192 0) := by
 unfold tmF
 induction n with
 | zero => rfl
 | succ n ih =>
  rw [List.range_succ, List.flatMap_append, ← ih, Nat.succ_mul, ← List.replicate_append_replicate]
  congr 1
  simp only [List.flatMap_cons, List.flatMap_nil, List.append_nil, f0L]
  rw [List.replicate_append_replicate]
theorem z0H (l : List (Nat × PT)) : tmF l.length (fun i => (g0K l i).1) (fun i => tbL (g0K l i).2 16) = tmL l := rfl
end Go.Proofs.YtmebmhjppmfbbaaGreat


set_option maxHeartbeats 16000000
set_option maxRecDepth 1000000
namespace Go.Proofs.YtmebmhjppmfbbaaGreat
open Go.RowKit Go.Mv Mvp Mvq
noncomputable def tkT (ls : List (List UInt8)) (k : Nat) : Nat → List Value := fun i => if i < k then tbL (rdT (ls.getD i [])) 16 else cw 192 0
theorem t0I (ls : List (List UInt8)) (k i : Nat) : (tkT ls k i).length = 192 := by
 unfold tkT
 split
 ·exact b0U _ _
 ·exact a0e _ _
noncomputable def n0e (a : Nat → Nat) (ls : List (List UInt8)) : List (Nat × PT) := (List.range ls.length).map fun i => (a i, rdT (ls.getD i []))
theorem p0E (a : Nat → Nat) (ls : List (List UInt8)) : (n0e a ls).length = ls.length := by simp [n0e]
theorem z0I (a : Nat → Nat) (ls : List (List UInt8)) (i : Nat) (h : i < ls.length) : g0K (n0e a ls) i = (a i, rdT (ls.getD i [])) := by
 unfold g0K n0e
 rw [List.getD_eq_getElem?_getD, List.getElem?_map, List.getElem?_range h]
 rfl
theorem w0A (a : Nat → Nat) (ls : List (List UInt8)) : tmF ls.length a (tkT ls ls.length) = tmL (n0e a ls) := by
 rw [← z0H, p0E]
 refine f0i _ _ _ _ _ fun i hi => ?_
 rw [z0I a ls i hi]
 refine ⟨rfl, ?_⟩
 unfold tkT
 rw [if_pos hi]
theorem w0B (n : Nat) (a : Nat → Nat) (ls : List (List UInt8)) : tmF n a (fun _ => cw 192 0) = tmF n a (tkT ls 0) := f0i _ _ _ _ _ fun i _ => ⟨rfl, by unfold tkT; rw [if_neg (Nat.not_lt_zero _)]⟩
theorem z0J (n : Nat) (a : Nat → Nat) (ls : List (List UInt8)) (k : Nat) (h : k < n) (l : List UInt8) (hl : ls.getD k [] = l) : splice (tmF n a (tkT ls k)) (k * 196 + 4) (tbL (rdT l) 16) = tmF n a (tkT ls (k + 1)) := by
 subst hl
 rw [w0y n a _ (t0I ls k) k _ (b0U _ _) h]
 refine f0i _ _ _ _ _ fun i _ => ⟨rfl, ?_⟩
 unfold upN tkT
 by_cases e : i = k
 ·rw [if_pos e, if_pos ap13, e]
 ·rw [if_neg e]
  by_cases e2 : i < k
  ·rw [if_pos e2, if_pos ap13]
  ·rw [if_neg e2, if_neg ap13]
theorem B0M {w : World} {gT : Nat} {a : Nat → Nat} {ls : List (List UInt8)} {T : TypeId} (h : Has w gT (tmF ls.length a (tkT ls ls.length)) T) : Rd w (some ⟨gT, 0, none⟩) ((n0e a ls).length * 196) (tmL (n0e a ls)) := by
 rw [w0A] at h
 have := Rd.whole h
 rwa [z0n] at this
theorem x0O (w : World) : Calls Tryz.prog 82 #[] w fun e w' => ∃ gc, e = .returned (.pointer (some ⟨gc, 0, none⟩)) ∧ Cv w' gc ∧ Fr Nob w w' :=
 (d0V w).mono fun _ _ ⟨gc, k1, _, k2, k3⟩ => ⟨gc, k1, k2, k3⟩
attribute [local irreducible] a0E lw mix cw b0o b0x b0l a0L a0q beN b0F b0c b0z a0J a0N elN mdL b0e rtN rtV b0Q gXn gYn PT.L l0r k0V f0v tbL tmR tmL dbN h0H h0q i0N dig rdT b0D c0r ptL e0N d0q b0C tmF upN
theorem B0N (n : Nat) (a : Nat → Nat) (ls : List (List UInt8)) (hls : ls.length = n) (hn : n ≤ 100000) (gb gT : Nat) (w : World) (hne : gb ≠ gT) (hgb : Has w gb [.slice (some ⟨gT, 0, none⟩) n n] 197) (hgt : Has w gT (tmF n a fun _ => cw 192 0) 144)
  (ap : Option Addr) (cp : Nat) (hoff : Off (One gT) ap) (hre : Rd w ap (ls.length * 12) (e0N ls)) :
  Calls Tryz.prog 178 #[.slice ap n cp, .pointer (some ⟨gb, 0, none⟩)] w fun e w' => e = .returned (.agg (i0N (n0e a ls)).L.toArray) ∧ Fr (One gT) w w' := by
 rw [w0B n a ls] at hgt
 have HLS := Lib.hid hls
 have HN := Lib.hid hn
 have hnI : (n : Int) ≤ 100000 := by omega
 have HNE := Lib.hid (show ¬ One gT gb from hne)
 have HGB := Lib.hid hgb
 have HGT := Lib.hid hgt
 have HOFF := Lib.hid hoff
 have HRE := Lib.hid hre
 clear hls hne hgb hgt hoff hre hn
 have st0 := St.one HGT.out
 go_enter Tryz.func178, Tryz.ntmps178
 go_wp2_with (with_reducible refine wSk 3 ?_)
 refine a0a st0 rfl rfl (z := .agg (List.replicate 12 (.int .u64 0)).toArray) ap11 (cw 12 0) ap9 ?_
 intro g3 w1 st1
 clear st0
 go_wp2
 go_loopw [8] (fun x wr => ∃ k : Nat, k ≤ n ∧ x = .int .i64 (k : Int) ∧ St (One gT) w wr [(gT, tmF n a (tkT ls k), 144), (g3, cw 12 0, 114)]) (fun x _ => n - (intOf x).toNat)
 case atStart => exact ⟨0, Nat.zero_le _, rfl, st1⟩
 case round =>
  obtain ⟨k, hk, rfl, st⟩ := hrel
  clear st1
  by_cases hlt : k < n
  ·have hltI : (k : Int) < (n : Int) := by omega
   obtain ⟨ba, oa, hea, -⟩ := HRE.out.at (by have := HLS.out; omega)
   subst hea
   have hk0 : (0 : Int) ≤ (k : Int) := by omega
   have hpa := t0v ls k (by rw [HLS.out]; exact hlt)
   generalize hl : ls.getD k [] = l at *
   have HLL := Lib.hid hl
   have HPA := Lib.hid hpa
   clear hl hpa
   have HLT := Lib.hid hlt
   have HLK := Lib.hid (show k < ls.length by rw [HLS.out]; exact hlt)
   clear hlt
   go_wp2_with (with_reducible refine wSk 12 ?_)
   refine k0t rfl rfl Tryz.underlying114 rfl rfl (y0T (HRE.out.keep st.fr HOFF.out) (k * 12) ((rdT l).L) HPA.out) ap6 ?_
   go_wp2_with (with_reducible refine wSk 5 ?_)
   refine a0a st rfl rfl (z := .agg (List.replicate 12 (.int .u64 0)).toArray) ap11 (cw 12 0) ap9 ?_
   intro g5 w2 st2
   clear st
   go_wp2_with (with_reducible refine wSn ?_)
   refine a0b st2 2 rfl rfl rfl rfl rfl (by first | (simp only [a0e]; done) | (simp only [List.length_append, a0e, PT.len, b0U, e0D]; done)) ap6 (PT.one _) ?_
   intro w3 st3
   clear st2
   go_wp2_with fail
   refine wp_region_noPanic ?_
   refine a0f st3 7 [.t 0, .w 1, .t 3, .c 2, .c 4, .w 5, .w 6] (.m 7 .nil) ap11 ap11 (fun _ _ _ _ _ h => h) ?_
   clear st3
   refine b0h (v := ?_) rfl rfl (fun xq wx hS => ?_) ?_
   rotate_left 1
   ·(have hc := (HGB.out.keep (St.fr hS) HNE.out).cell (show [Value.slice (some ⟨gT, 0, none⟩) n n][0]? = _ from rfl); clear hS; go_simp; with_reducible rfl)
   try simp only [clL]
   refine a0p rfl rfl apX ?_
   try simp only [clL]
   refine a0d rfl rfl rfl (fun _ => rfl) ((rdT l).L) (fun wx hS => St.rangeL hS 2 rfl 0 _ dZl) Tryz.underlying114 rfl ap6 ?_
   try simp only [clL]
   refine d0g (X := Nat) (fun gc => .pointer (some ⟨gc, 0, none⟩)) (fun gc w => Cv w gc) (fun _ _ _ h k => h.keep k) rfl rfl rfl Tryz.call82 (fun w hS hR => x0O _) (fun _ => rfl) fun gc => ?_
   try simp only [clL]
   refine a0c rfl rfl rfl Tryz.call95 (fun w hS hR => i0M (rdT l) gc _ hR.2) (fun _ => rfl) ?_
   try simp only [clL]
   refine a0p rfl rfl apX ?_
   try simp only [clL]
   refine a0p rfl rfl apX ?_
   try simp only [clL]
   refine a0v fun xq w4 st4 hR => ?_
   try dsimp only
   clear hR xq
   refine a0r rfl rfl ?_
   refine i0L st4 0 rfl rfl rfl rfl (tmF n a (tkT ls (k + 1))) (z0J n a ls k HLT.out l HLL.out) (by rw [t0H n a _ (t0I ls k), b0U]; have := HLT.out; omega) (by first | (rw [a0e]; kernel_rfl) | (simp only [b0U]; kernel_rfl)) (t0g _ _) ?_
   intro w5 st5
   have st5 : St (One gT) w w5 [(gT, tmF n a (tkT ls (k + 1)), 144), (g3, cw 12 0, 114), (g5, (rdT l).L, 114)] := st5
   clear st4
   try simp only [Act.put]
   refine a0j ?_
   refine NoPanic.normal ?_
   go_wp2_with fail
   go_roundw
   case rel => exact ⟨k + 1, by have := HLT.out; omega, by go_num, St.less st5 ap14⟩
   case measure => have := HLT.out; simp [intOf]; omega
  ·have hltI : ¬ ((k : Int) < (n : Int)) := by omega
   have hkn : k = ls.length := by rw [HLS.out]; omega
   have hnl : n = ls.length := HLS.out.symm
   subst hkn
   have HNL := Lib.hid hnl
   clear hnl
   have hHT := st.at 0 rfl
   clear hHT
   go_wp2_with fail
   refine wp_region_noPanic ?_
   refine a0f st 3 [.t 1, .c 0, .c 2] (.m 3 .nil) ap11 ap11 (fun _ _ _ _ _ h => h) ?_
   clear st
   refine b0h (v := ?_) rfl rfl (fun xq wx hS => ?_) ?_
   rotate_left 1
   ·(have hc := (HGB.out.keep (St.fr hS) HNE.out).cell (show [Value.slice (some ⟨gT, 0, none⟩) n n][0]? = _ from rfl); clear hS; go_simp; with_reducible rfl)
   try simp only [clL]
   refine d0g (X := Nat) (fun gc => .pointer (some ⟨gc, 0, none⟩)) (fun gc w => Cv w gc) (fun _ _ _ h k => h.keep k) rfl rfl rfl Tryz.call82 (fun w hS hR => x0O _) (fun _ => rfl) fun gc => ?_
   try simp only [clL]
   refine a0c rfl rfl rfl Tryz.call94 (fun w hS hR => B0C (n0e a ls) gc (some ⟨gT, 0, none⟩) n n _ hR.2 (by rw [p0E]; exact HLS.out) HN.out (B0M (by have h := St.at hS 0 rfl; rw [HNL.out] at h; exact h))) (fun _ => rfl) ?_
   try simp only [clL]
   refine a0v fun xq w2 st2 hR => ?_
   try dsimp only
   clear hR xq
   refine a0r rfl rfl ?_
   refine a0h st2 1 rfl rfl rfl rfl (by first | (simp only [a0e]; done) | (simp only [List.length_append, a0e, PT.len, b0U, e0D]; done)) ap6 (PT.one _) ?_
   intro w3 st3
   try simp only [List.set_cons_zero, List.set_cons_succ] at st3
   clear st2
   try simp only [Act.put]
   refine a0j ?_
   refine NoPanic.normal ?_
   have hr := st3.at 1 rfl
   have hfr := st3.fr
   clear st3
   go_wp2_with fail
   exact bodyPost_ret (a0t rfl rfl hr Tryz.underlying114 rfl ap6) rfl ⟨rfl, hfr⟩
end Go.Proofs.YtmebmhjppmfbbaaGreat


set_option maxHeartbeats 16000000
set_option maxRecDepth 1000000
namespace Go.Mv
open Go.RowKit
theorem Has.neT {w : World} {g g' : Nat} {L L' : List Value} {T T' : TypeId} (h : Has w g L T) (k : Has w g' L' T') (hT : T ≠ T') : g ≠ g' := by
 rintro rfl
 obtain ⟨_, _, h1, _⟩ := h
 obtain ⟨_, _, h2, _⟩ := k
 rw [h1] at h2
 simp only [Option.some.injEq, Obj.cells.injEq] at h2
 exact hT h2.2.1
end Go.Mv
namespace Go.Proofs.YtmebmhjppmfbbaaGreat
open Go.RowKit Go.Mv Mvp Mvq
theorem Cv.keepT {w w' : World} {gc gT : Nat} {L : List Value} (h : Cv w gc) (hT : Has w gT L 144) (hf : Fr (One gT) w w') : Cv w' gc := by
 obtain ⟨gp, h1, h2⟩ := h
 exact ⟨gp, h1.keep hf (fun e => h1.neT hT ap12 e), h2.keep hf (fun e => h2.neT hT ap12 e)⟩
attribute [local irreducible] a0E lw mix cw b0o b0x b0l a0L a0q beN b0F b0c b0z a0J a0N elN mdL b0e rtN rtV b0Q gXn gYn PT.L l0r k0V f0v tbL tmR tmL dbN h0H h0q i0N dig rdT b0D c0r ptL e0N d0q b0C
theorem o0g (gk : Nat) (al : Option Addr) (n cl : Nat) (vs : List Value) (ls : List (List UInt8)) (w : World) (hv : Rd w al n vs) (hp : BParts w vs ls) (hn : n ≤ 100000) (hg : d0q ls = true) (gT : Nat) (LT : List Value) (hgt : Has w gT LT 144) (t : PT) (hop : ∀ ap cp wx, Fr Nob w wx → Off (One gT) ap → Rd wx ap (ls.length * 12) (e0N ls) → Calls Tryz.prog 178 #[.slice ap ls.length cp, .pointer (some ⟨gk, 0, none⟩)] wx fun e w' => e = .returned (.agg t.L.toArray) ∧ Fr (One gT) wx w') :
  Calls Tryz.prog 80 #[.func (.func 178) #[] #[.pointer (some ⟨gk, 0, none⟩)], .slice al n cl] w fun e w' => ∃ sv, e = .returned (.tuple #[sv, .int .i64 0]) ∧ Own w' w.heap.size 5 1 sv 33 (bs (b0C t.pt)) ∧ Fr (One gT) w w' := by
 have HV := Lib.hid hv
 have HP := Lib.hid hp
 have HL := Lib.hid (show ls.length = n by rw [← hp.1, hv.len])
 have HN := Lib.hid hn
 have hnI : (n : Int) ≤ 100000 := by omega
 clear hv hp
 have HOP := Lib.hid hop
 have HGA := Lib.hid hg
 have HGT := Lib.hid hgt
 clear hop hg hgt
 go_enter Tryz.func80, Tryz.ntmps80
 go_wp2
 go_loopw [6, 13] (fun v i wr => ∃ k : Nat, k ≤ n ∧ i = .int .i64 (k : Int) ∧ d0q (ls.take k) = true ∧ Own wr w.heap.size 114 12 v k (e0N (ls.take k)) ∧ Fr Nob w wr) (fun _ i _ => n - (intOf i).toNat)
 case atStart => exact ⟨0, Nat.zero_le _, rfl, by rw [List.take_zero]; unfold d0q; rfl, by rw [List.take_zero]; unfold e0N; exact Own.nil _ _ _ _, Fr.refl _ _⟩
 case round =>
  obtain ⟨k, hk, rfl, hgood, hown, hf⟩ := hrel
  by_cases hlt : k < n
  ·have hltI : (k : Int) < (n : Int) := by omega
   obtain ⟨b, o, rfl, hat⟩ := (HV.out.still hf).at ap13
   have hvl : k < vs.length := by rw [HV.out.len]; exact hlt
   obtain ⟨a, nn, c, hve, hcc, hrd⟩ := HP.out.2 k (vs[k]'hvl) (List.getElem?_eq_getElem hvl)
   have hc1 := hat k _ (List.getElem?_eq_getElem hvl)
   rw [hve] at hc1
   have hlk : k < ls.length := by rw [HL.out]; exact hlt
   have hts := g0E ls k hlk
   have hcs : e0N (ls.take (k + 1)) = e0N (ls.take k) ++ (rdT (ls.getD k [])).L := by
    rw [List.take_succ_eq_append_getElem hlk, g0D]
    simp [List.getD_eq_getElem?_getD, hlk]
   have hbad := h0J ls k hlk
   generalize hL : ls.getD k [] = l at *
   have HLL := Lib.hid hL
   have HRD := Lib.hid (hrd.still hf)
   have HTS := Lib.hid hts
   have HCS := Lib.hid hcs
   have HBAD := Lib.hid hbad
   have HG := Lib.hid hgood
   have HOWN := Lib.hid hown
   have HF := Lib.hid hf
   have HCC := Lib.hid hcc
   clear hL hrd hts hcs hbad hgood hown hf hat hve hcc
   have st0 := St.start Nob wr
   have HK := Lib.hid (show b0D l = true by
    cases hh : b0D l
    ·have := HBAD.out hh
     rw [HGA.out] at this
     cases this
    ·rfl)
   skip
   go_wp2_with fail
   refine (d0V _).mono ?_
   rintro e' w1 ⟨gc, rfl, hle, hcv, hf1⟩
   have st1 := st0.keep hf1
   have HCV := Lib.hid hcv
   clear hcv hle
   clear st0 hf1
   go_wp2_with fail
   refine (m0O l HK.out gc a nn c _ HCV.out (HRD.out.still st1.fr) HCC.out).mono ?_
   rintro e' w2 ⟨rfl, hf2⟩
   have st2 := st1.keep hf2
   clear st1 hf2
   go_wp2_with (with_reducible refine wSk 9 ?_)
   refine a0a st2 rfl rfl (z := .agg (List.replicate 12 (.int .u64 0)).toArray) ap11 (cw 12 0) ap9 ?_
   intro g9 w3 st3
   clear st2
   go_wp2_with (with_reducible refine wSn ?_)
   refine a0b st3 0 rfl rfl rfl rfl rfl ap2 ap6 (PT.one _) ?_
   intro w4 st4
   clear st3
   have HFS := Lib.hid st4.fr
   go_wp2_with (with_reducible refine wSk 26 ?_)
   refine a0m st4 0 rfl rfl rfl Tryz.underlying114 rfl rfl ap6 ?_
   clear st4
   go_wp2_with (with_reducible refine wSk 27 ?_)
   refine g0u rfl rfl Tryz.underlying112 f0e [.agg (rdT l).L.toArray] rfl (by simp [Value.cells, PT.len]) rfl ((rdT l).L) (by simp [Value.cells]) ?_
   intro wA hgA hfA hzA
   clear hzA
   have hfrA := HFS.out.then hfA
   have hsz := HF.out.size
   have hsz2 := hfrA.size
   have hownA := HOWN.out.still hfrA
   have hrdA : Rd wA (some ⟨w4.heap.size, 0, none⟩) (1 * 12) ((rdT l).L) := by
    have := Rd.whole hgA
    rwa [PT.len] at this
   have HRDA := Lib.hid hrdA
   have HOWNA := Lib.hid hownA
   have HFRA := Lib.hid hfrA
   clear hgA hfA hrdA hownA hfrA
   generalize w4.heap.size = gA at *
   go_wp2_with (with_reducible refine wSk 28 ?_)
   refine d0c rfl rfl Tryz.underlying112 f0e rfl ap12 HOWNA.out rfl rfl HRDA.out (PT.one _) ap8 ap13 ap13 ?_
   intro vB wB hownB hfB hbB
   clear hbB
   have hfrB := HOWNA.out.fr (HF.out.then HFRA.out) (Nat.le_refl _) hfB
   have HFRB := Lib.hid hfrB
   rw [← HCS.out] at hownB
   have HOWNB := Lib.hid hownB
   clear hfrB hownB hfB
   go_wp2_with fail
   go_roundw
   case rel => exact ⟨k + 1, by omega, by go_num, by rw [HTS.out, HG.out, HK.out]; rfl, HOWNB.out, HFRB.out⟩
   case measure => simp [intOf]; omega
  ·have hge : ¬ ((k : Int) < (n : Int)) := by omega
   have hkn : k = ls.length := by rw [HL.out]; omega
   rw [hkn, List.take_of_length_le (Nat.le_refl _)] at hgood hown
   obtain ⟨ap, cp, rfl, -, hre, hbase⟩ := hown.form
   have HOFF := Lib.hid (show Off (One gT) ap from fun x hx he => by have h1 := hbase x hx; have h2 := HGT.out.lt; have h3 : x.block = gT := he; omega)
   clear hbase
   have HRE := Lib.hid hre
   have HF := Lib.hid hf
   clear hkn hgood hown hf hre
   go_wp2_with fail
   refine (d0V _).mono ?_
   rintro e w1 ⟨gc, rfl, hle, hcv, hf1⟩
   have HCV := Lib.hid hcv
   have HF1 := Lib.hid (HF.out.then hf1)
   have HRE1 := Lib.hid (HRE.out.still hf1)
   clear hle hcv hf1 HF HRE
   go_wp2_with fail
   refine (HOP.out ap cp _ HF1.out HOFF.out HRE1.out).mono ?_
   rintro e w2 ⟨rfl, hf2⟩
   have HCV2 := Lib.hid (HCV.out.keepT (HGT.out.keep HF1.out id) hf2)
   have HF2 := Lib.hid ((HF1.out.mono (fun _ _ t => t.elim)).trans hf2 (fun _ _ t => t))
   clear hf2 HF1 HRE1 HCV
   go_wp2_with fail
   refine (o0a t gc _ HCV2.out).mono ?_
   rintro e w3 ⟨sv, rfl, hown3, hf3⟩
   have h2 := HF2.out.same hf3
   have ho := hown3.mono HF2.out.size
   clear hown3 hf3 HF2 HCV2
   go_wp2_with fail
   go_ret2
   exact ⟨sv, rfl, ho, h2⟩
theorem m0R (gk : Nat) (al : Option Addr) (n cl : Nat) (vs : List Value) (ls : List (List UInt8)) (w : World) (hv : Rd w al n vs) (hp : BParts w vs ls) (hn : n ≤ 100000) (hg : d0q ls = false) :
  Calls Tryz.prog 80 #[.func (.func 178) #[] #[.pointer (some ⟨gk, 0, none⟩)], .slice al n cl] w fun e w' => e = .returned (.tuple #[.slice none 0 0, .int .i64 4]) ∧ Fr Nob w w' := by
 have HV := Lib.hid hv
 have HP := Lib.hid hp
 have HL := Lib.hid (show ls.length = n by rw [← hp.1, hv.len])
 have HN := Lib.hid hn
 have hnI : (n : Int) ≤ 100000 := by omega
 clear hv hp
 have HGA := Lib.hid hg
 clear hg
 go_enter Tryz.func80, Tryz.ntmps80
 go_wp2
 go_loopw [6, 13] (fun v i wr => ∃ k : Nat, k ≤ n ∧ i = .int .i64 (k : Int) ∧ d0q (ls.take k) = true ∧ Own wr w.heap.size 114 12 v k (e0N (ls.take k)) ∧ Fr Nob w wr) (fun _ i _ => n - (intOf i).toNat)
 case atStart => exact ⟨0, Nat.zero_le _, rfl, by rw [List.take_zero]; unfold d0q; rfl, by rw [List.take_zero]; unfold e0N; exact Own.nil _ _ _ _, Fr.refl _ _⟩
 case round =>
  obtain ⟨k, hk, rfl, hgood, hown, hf⟩ := hrel
  by_cases hlt : k < n
  ·have hltI : (k : Int) < (n : Int) := by omega
   obtain ⟨b, o, rfl, hat⟩ := (HV.out.still hf).at ap13
   have hvl : k < vs.length := by rw [HV.out.len]; exact hlt
   obtain ⟨a, nn, c, hve, hcc, hrd⟩ := HP.out.2 k (vs[k]'hvl) (List.getElem?_eq_getElem hvl)
   have hc1 := hat k _ (List.getElem?_eq_getElem hvl)
   rw [hve] at hc1
   have hlk : k < ls.length := by rw [HL.out]; exact hlt
   have hts := g0E ls k hlk
   have hcs : e0N (ls.take (k + 1)) = e0N (ls.take k) ++ (rdT (ls.getD k [])).L := by
    rw [List.take_succ_eq_append_getElem hlk, g0D]
    simp [List.getD_eq_getElem?_getD, hlk]
   have hbad := h0J ls k hlk
   generalize hL : ls.getD k [] = l at *
   have HLL := Lib.hid hL
   have HRD := Lib.hid (hrd.still hf)
   have HTS := Lib.hid hts
   have HCS := Lib.hid hcs
   have HBAD := Lib.hid hbad
   have HG := Lib.hid hgood
   have HOWN := Lib.hid hown
   have HF := Lib.hid hf
   have HCC := Lib.hid hcc
   clear hL hrd hts hcs hbad hgood hown hf hat hve hcc
   have st0 := St.start Nob wr
   rcases Bool.eq_false_or_eq_true (b0D l) with hh | hh
   ·have HK := Lib.hid hh
    clear hh
    skip
    go_wp2_with fail
    refine (d0V _).mono ?_
    rintro e' w1 ⟨gc, rfl, hle, hcv, hf1⟩
    have st1 := st0.keep hf1
    have HCV := Lib.hid hcv
    clear hcv hle
    clear st0 hf1
    go_wp2_with fail
    refine (m0O l HK.out gc a nn c _ HCV.out (HRD.out.still st1.fr) HCC.out).mono ?_
    rintro e' w2 ⟨rfl, hf2⟩
    have st2 := st1.keep hf2
    clear st1 hf2
    go_wp2_with (with_reducible refine wSk 9 ?_)
    refine a0a st2 rfl rfl (z := .agg (List.replicate 12 (.int .u64 0)).toArray) ap11 (cw 12 0) ap9 ?_
    intro g9 w3 st3
    clear st2
    go_wp2_with (with_reducible refine wSn ?_)
    refine a0b st3 0 rfl rfl rfl rfl rfl ap2 ap6 (PT.one _) ?_
    intro w4 st4
    clear st3
    have HFS := Lib.hid st4.fr
    go_wp2_with (with_reducible refine wSk 26 ?_)
    refine a0m st4 0 rfl rfl rfl Tryz.underlying114 rfl rfl ap6 ?_
    clear st4
    go_wp2_with (with_reducible refine wSk 27 ?_)
    refine g0u rfl rfl Tryz.underlying112 f0e [.agg (rdT l).L.toArray] rfl (by simp [Value.cells, PT.len]) rfl ((rdT l).L) (by simp [Value.cells]) ?_
    intro wA hgA hfA hzA
    clear hzA
    have hfrA := HFS.out.then hfA
    have hsz := HF.out.size
    have hsz2 := hfrA.size
    have hownA := HOWN.out.still hfrA
    have hrdA : Rd wA (some ⟨w4.heap.size, 0, none⟩) (1 * 12) ((rdT l).L) := by
     have := Rd.whole hgA
     rwa [PT.len] at this
    have HRDA := Lib.hid hrdA
    have HOWNA := Lib.hid hownA
    have HFRA := Lib.hid hfrA
    clear hgA hfA hrdA hownA hfrA
    generalize w4.heap.size = gA at *
    go_wp2_with (with_reducible refine wSk 28 ?_)
    refine d0c rfl rfl Tryz.underlying112 f0e rfl ap12 HOWNA.out rfl rfl HRDA.out (PT.one _) ap8 ap13 ap13 ?_
    intro vB wB hownB hfB hbB
    clear hbB
    have hfrB := HOWNA.out.fr (HF.out.then HFRA.out) (Nat.le_refl _) hfB
    have HFRB := Lib.hid hfrB
    rw [← HCS.out] at hownB
    have HOWNB := Lib.hid hownB
    clear hfrB hownB hfB
    go_wp2_with fail
    go_roundw
    case rel => exact ⟨k + 1, by omega, by go_num, by rw [HTS.out, HG.out, HK.out]; rfl, HOWNB.out, HFRB.out⟩
    case measure => simp [intOf]; omega
   ·have HK := Lib.hid hh
    clear hh
    skip
    go_wp2_with fail
    refine (d0V _).mono ?_
    rintro e' w1 ⟨gc, rfl, hle, hcv, hf1⟩
    have st1 := st0.keep hf1
    have HCV := Lib.hid hcv
    clear hcv hle
    clear st0 hf1
    go_wp2_with fail
    refine (t0u l HK.out gc a nn c _ HCV.out (HRD.out.still st1.fr) HCC.out).mono ?_
    rintro e' w2 ⟨⟨X, Y, Z, rfl⟩, hf2⟩
    have st2 := st1.keep hf2
    clear st1 hf2
    go_wp2_with (with_reducible refine wSk 9 ?_)
    refine a0a st2 rfl rfl (z := .agg (List.replicate 12 (.int .u64 0)).toArray) ap11 (cw 12 0) ap9 ?_
    intro g9 w3 st3
    clear st2
    go_wp2_with (with_reducible refine wSn ?_)
    refine a0b st3 0 rfl rfl rfl rfl rfl ap2 (by first | (rw [a0e]; kernel_rfl) | (simp only [e0D]; kernel_rfl)) (o0b _ _ _ _) ?_
    intro w4 st4
    clear st3
    have HFS := Lib.hid (HF.out.then st4.fr)
    clear st4
    go_wp2_with fail
    go_ret2
    exact ⟨rfl, HFS.out⟩
  ·exfalso
   have hkn : k = ls.length := by rw [HL.out]; omega
   rw [hkn, List.take_of_length_le (Nat.le_refl _), HGA.out] at hgood
   cases hgood
end Go.Proofs.YtmebmhjppmfbbaaGreat


set_option maxHeartbeats 16000000
set_option maxRecDepth 1000000
namespace Go.Mv
open Go.RowKit
variable {P : Program} {ops : Array Oper} {a : Act} {w : World} {rest : List Oper} {Q : Exit → Act → World → Prop} {o : Oper}
theorem l0f (v : Value) (sz m : Nat) (h : 0 < sz) : (madeCells (List.replicate sz v).toArray m).toList = List.replicate m v := by
 apply List.ext_getElem?
 intro j
 by_cases hj : j < m
 ·have : j % sz < sz := Nat.mod_lt _ h
  simp [madeCells, hj, this]
 ·simp [madeCells, hj]
theorem l0g {l c : Operand} {t : TypeId} (hgd : o.guard = none) (ho : o.op = .makeSlice t l c) {e : TypeId} {z v : Value} {sz by_ : Nat} (ht : P.underlying t = some (.slice e))
  (hi0 : (P.info? e).map (fun i => (i.zero, i.size, i.bytes)) = some (some z, sz, by_)) (hzc : z.cells = (List.replicate sz v).toArray) (hsz : 0 < sz) {kl kc : IntKind} {x y : Int} (hl : a.eval l = .int kl x) (hc : a.eval c = .int kc y) (n m : Nat) (hx : x = n) (hy : y = m) (hnm : n ≤ m)
  (hb : by_ * m ≤ 281474976710656) (h63 : m ≤ maxLen)
  (h : ∀ w', Has w' w.heap.size (List.replicate (m * sz) v) e → Fr Nob w w' → wpList P ops Q rest (a.put o.dst (.slice (some ⟨w.heap.size, 0, none⟩) n m)) w') : wpList P ops Q (o :: rest) a w := by
 refine wpList_plain hgd fun K hK => ?_
 obtain ⟨i, hi, hz0⟩ : ∃ i, P.info? e = some i ∧ (i.zero, i.size, i.bytes) = (some z, sz, by_) := by simpa using hi0
 simp only [Prod.mk.injEq] at hz0
 obtain ⟨hz, hsize, hby⟩ := hz0
 subst hx
 subst hy
 have hmx : (m : Int) ≤ 9223372036854775807 := by simp only [maxLen] at h63; omega
 have hbb : (i.bytes : Int) * (m : Int) ≤ 281474976710656 := by
  have k : ((i.bytes * m : Nat) : Int) ≤ 281474976710656 := by rw [hby]; omega
  rwa [Int.natCast_mul] at k
 have hr := run_make (P := P) w t e i z ht hi hz kl kc n m ap13 ap13 hbb hmx
 simp only [Int.toNat_natCast, hsize] at hr
 unfold Oper.wp execOp
 simp only [ho, hl, hc, Sem.run_bind, Sem.run_pure, Result.andThen_ok, hr]
 refine hK _ _ (h _ ?_ ((Fr.refl _ w).alloc _))
 have := Has.new w (madeCells z.cells (m * sz)) e
 rw [hzc] at this ⊢
 rwa [l0f v sz _ hsz] at this
end Go.Mv
namespace Go.Proofs.YtmebmhjppmfbbaaGreat
open Go.RowKit Go.Mv Mvp Mvq
theorem i0T : (Tryz.prog.info? 144).map (fun i => (i.zero, i.size, i.bytes)) = some (some (.agg (List.replicate 196 (.int .u64 0)).toArray), 196, 1568) := by kernel_rfl
def aK (ls : List (List UInt8)) (k : Nat) : Nat → Nat := fun i => if i < k then beN (ls.getD i []) else 0
theorem o0h (n : Nat) (ls : List (List UInt8)) : List.replicate (n * 196) (Value.int .u64 0) = tmF n (aK ls 0) (fun _ => cw 192 0) := by
 rw [w0z]
 exact f0i _ _ _ _ _ fun i _ => ⟨by unfold aK; rw [if_neg (Nat.not_lt_zero _)], rfl⟩
theorem t0J (n : Nat) (ls : List (List UInt8)) (k : Nat) (l : List UInt8) (hl : ls.getD k [] = l) (h : k < n) : splice (tmF n (aK ls k) (fun _ => cw 192 0)) (k * 196) (cw 4 (beN l)) = tmF n (aK ls (k + 1)) (fun _ => cw 192 0) := by
 subst hl
 rw [w0x n _ _ (fun _ => a0e _ _) k _ h]
 refine f0i _ _ _ _ _ fun i _ => ⟨?_, rfl⟩
 unfold upN aK
 by_cases e : i = k
 ·rw [if_pos e, if_pos ap13, e]
 ·rw [if_neg e]
  by_cases e2 : i < k
  ·rw [if_pos e2, if_pos ap13]
  ·rw [if_neg e2, if_neg ap13]
theorem l0h (n : Nat) (a : Nat → Nat) : (tmF n a (fun _ => cw 192 0)).length = n * 196 := t0H n a _ (fun _ => a0e _ _)
attribute [local irreducible] a0E lw mix cw b0o b0x b0l a0L a0q beN b0F b0c b0z a0J a0N elN mdL b0e rtN rtV b0Q gXn gYn PT.L l0r k0V f0v tbL tmR tmL dbN h0H h0q i0N dig rdT b0D c0r ptL e0N d0q b0C tmF tkT n0e aK
theorem B0O (al : Option Addr) (n cl : Nat) (vs : List Value) (ln : List (List UInt8)) (bl : Option Addr) (dl : Nat) (us : List Value) (lp : List (List UInt8)) (w : World) (hv : Rd w al n vs) (hp : BParts w vs ln) (hu : Rd w bl n us) (hq : BParts w us lp) (hn : n ≤ 512) (hg : b0B mQ ln = true) (hr : d0q lp = true) :
  Calls Tryz.prog 128 #[.slice al n cl, .slice bl n dl] w fun e w' => ∃ sv, e = .returned (.tuple #[sv, .int .i64 0]) ∧ Own w' w.heap.size 5 1 sv 33 (bs (b0C (i0N (n0e (aK ln n) lp)).pt)) ∧ Fr Nob w w' := by
 have HV := Lib.hid hv
 have HP := Lib.hid hp
 have HU := Lib.hid hu
 have HQ := Lib.hid hq
 have HL := Lib.hid (show ln.length = n by rw [← hp.1, hv.len])
 have HL2 := Lib.hid (show lp.length = n by rw [← hq.1, hu.len])
 have HN := Lib.hid hn
 have hnI : ¬ ((512 : Int) < (n : Int)) := by omega
 clear hv hp hu hq
 have HGA := Lib.hid hg
 have HRA := Lib.hid hr
 clear hg hr hn
 have st0 := St.start Nob w
 go_enter Tryz.func128, Tryz.ntmps128
 go_wp2_with (with_reducible refine wSk 23 ?_)
 refine l0g rfl rfl Tryz.underlying197 i0T rfl ap12 rfl rfl n n rfl rfl (Nat.le_refl _) (by have := HN.out; omega) (by have := HN.out; unfold maxLen; omega) ?_
 intro w1 hm hf
 rw [o0h n ln] at hm
 have st1 := st0.new hf hm (Nat.le_refl _)
 have hle : w.heap.size ≤ w.heap.size := Nat.le_refl _
 generalize hgT : w.heap.size = gT at st1 hle hm ⊢
 have HGS := Lib.hid hgT
 clear hgT hle hm hf st0
 go_wp2_with (with_reducible refine wSk 6 ?_)
 refine a0a st1 rfl rfl (z := .slice none 0 0) ap11 [.slice none 0 0] rfl ?_
 intro gb w2 st2
 clear st1
 obtain ⟨v6, c6, f6⟩ := (st2.at 1 rfl).ready (i := 0) ap12
 have st3 := st2.set 1 rfl 0 (.slice (some ⟨gT, 0, none⟩) n n)
 have st3 : St Nob w (w2.setCell ⟨gb, 0, none⟩ (.slice (some ⟨gT, 0, none⟩) n n)) [(gT, tmF n (aK ln (0)) (fun _ => cw 192 0), 144), (gb, [Value.slice (some ⟨gT, 0, none⟩) n n], 197)] := st3
 have ST3 := Lib.hid st3
 clear st2 st3
 go_wp2
 try clear c6 f6
 go_loopw [26] (fun i wr => ∃ k : Nat, k ≤ n ∧ i = .int .i64 (k : Int) ∧ b0B mQ (ln.take k) = true ∧ St Nob w wr [(gT, tmF n (aK ln (k)) (fun _ => cw 192 0), 144), (gb, [Value.slice (some ⟨gT, 0, none⟩) n n], 197)]) (fun i _ => n - (intOf i).toNat)
 case atStart => exact ⟨0, Nat.zero_le _, rfl, by rw [List.take_zero]; unfold b0B; rfl, ST3.out⟩
 case round =>
  obtain ⟨k, hk, rfl, hgood, st⟩ := hrel
  clear ST3
  by_cases hlt : k < n
  ·have hltI : (k : Int) < (n : Int) := by omega
   have hk0 : (0 : Int) ≤ (k : Int) := by omega
   have hf := st.fr
   obtain ⟨b, o, rfl, hat⟩ := (HV.out.still hf).at ap13
   have hvl : k < vs.length := by rw [HV.out.len]; exact hlt
   obtain ⟨a, nn, c, hve, hcc, hrd⟩ := HP.out.2 k (vs[k]'hvl) (List.getElem?_eq_getElem hvl)
   have hc1 := hat k _ (List.getElem?_eq_getElem hvl)
   rw [hve] at hc1
   have hlk : k < ln.length := by rw [HL.out]; exact hlt
   have hts := g0T mQ ln k hlk
   have hbad := i0y mQ ln k hlk
   generalize hLk : ln.getD k [] = l at *
   have HLL := Lib.hid hLk
   have HRD := Lib.hid (hrd.still hf)
   have HTS := Lib.hid hts
   have HBAD := Lib.hid hbad
   have HG := Lib.hid hgood
   have HLT := Lib.hid hlt
   clear hLk hrd hts hbad hgood hf hat hve hcc hlt hk
   have HK := Lib.hid (show b0e mQ l = true by
    cases hh : b0e mQ l
    ·have := HBAD.out hh
     rw [HGA.out] at this
     cases this
    ·rfl)
   go_wp2_with fail
   refine (g0F HK.out a nn c _ (HRD.out)).mono ?_
   rintro e' w3 ⟨rfl, hf3⟩
   have st3 := st.keep hf3
   clear st hf3
   go_wp2_with (with_reducible refine wSk 9 ?_)
   refine a0a st3 rfl rfl (z := zAd) ap11 (cw 4 0) ap9 ?_
   intro g9 w4 st4
   clear st3
   go_wp2_with (with_reducible refine wSn ?_)
   refine a0b st4 2 rfl rfl rfl rfl rfl ap2 ap0 (a0g _ _) ?_
   intro w5 st5
   clear st4
   have hc6 := (st5.at 1 rfl).cell (show [Value.slice (some ⟨gT, 0, none⟩) n n][0]? = _ from rfl)
   go_wp2_with (with_reducible refine wSk 40 ?_)
   refine a0i st5 2 rfl rfl rfl Tryz.underlying108 rfl ap0 ?_
   go_wp2_with (with_reducible refine wSn ?_)
   refine g0C st5 0 rfl rfl rfl rfl rfl (tmF n (aK ln (k + 1)) (fun _ => cw 192 0)) (t0J n ln k l HLL.out HLT.out) (by rw [l0h, a0e]; have := HLT.out; omega) ap0 (a0g _ _) ?_
   intro w6 st6
   clear st5 hc6
   go_wp2_with fail
   go_roundw
   case rel => exact ⟨k + 1, by have := HLT.out; omega, by go_num, by rw [HTS.out, HG.out, HK.out]; rfl, St.less st6 ap14⟩
   case measure => have := HLT.out; simp [intOf]; omega
  ·have hge : ¬ ((k : Int) < (n : Int)) := by omega
   have hkn : k = n := by omega
   rw [hkn] at hgood st
   rw [List.take_of_length_le (by rw [HL.out]; exact Nat.le_refl _)] at hgood
   have hgl := (st.at 0 rfl).lt
   have HHT := Lib.hid (st.at 0 rfl)
   have HHB := Lib.hid (st.at 1 rfl)
   have HNE := Lib.hid (show gb ≠ gT from st.neAt (i := 1) (j := 0) rfl rfl ap12)
   have HF := Lib.hid st.fr
   clear hkn hgood st hgl
   go_wp2_with fail
   refine (o0g gb bl n dl us lp _ (HU.out.still HF.out) (HQ.out.still HF.out) (by have := HN.out; omega) HRA.out gT _ HHT.out (i0N (n0e (aK ln n) lp)) (fun ap cp wx hfx hoff hrd => by rw [HL2.out]; exact B0N n (aK ln n) lp HL2.out (by have := HN.out; omega) gb gT wx HNE.out (HHB.out.keep hfx id) (HHT.out.keep hfx id) ap cp hoff hrd)).mono ?_
   rintro e wE ⟨sv, rfl, hown, hfE⟩
   have ho := hown.mono HF.out.size
   have hfr := HF.out.new hfE (by rw [HGS.out]; exact Nat.le_refl _)
   clear hown hfE HF HHT HHB
   go_wp2_with fail
   go_ret2
   exact ⟨sv, rfl, ho, hfr⟩
theorem w0C (al : Option Addr) (n cl : Nat) (vs : List Value) (ln : List (List UInt8)) (bl : Option Addr) (dl : Nat) (us : List Value) (lp : List (List UInt8)) (w : World) (hv : Rd w al n vs) (hp : BParts w vs ln) (hu : Rd w bl n us) (hq : BParts w us lp) (hn : n ≤ 512) (hg : b0B mQ ln = true) (hr : d0q lp = false) :
  Calls Tryz.prog 128 #[.slice al n cl, .slice bl n dl] w fun e w' => e = .returned (.tuple #[.slice none 0 0, .int .i64 4]) ∧ Fr Nob w w' := by
 have HV := Lib.hid hv
 have HP := Lib.hid hp
 have HU := Lib.hid hu
 have HQ := Lib.hid hq
 have HL := Lib.hid (show ln.length = n by rw [← hp.1, hv.len])
 have HL2 := Lib.hid (show lp.length = n by rw [← hq.1, hu.len])
 have HN := Lib.hid hn
 have hnI : ¬ ((512 : Int) < (n : Int)) := by omega
 clear hv hp hu hq
 have HGA := Lib.hid hg
 have HRA := Lib.hid hr
 clear hg hr hn
 have st0 := St.start Nob w
 go_enter Tryz.func128, Tryz.ntmps128
 go_wp2_with (with_reducible refine wSk 23 ?_)
 refine l0g rfl rfl Tryz.underlying197 i0T rfl ap12 rfl rfl n n rfl rfl (Nat.le_refl _) (by have := HN.out; omega) (by have := HN.out; unfold maxLen; omega) ?_
 intro w1 hm hf
 rw [o0h n ln] at hm
 have st1 := st0.new hf hm (Nat.le_refl _)
 have hle : w.heap.size ≤ w.heap.size := Nat.le_refl _
 generalize hgT : w.heap.size = gT at st1 hle hm ⊢
 have HGS := Lib.hid hgT
 clear hgT hle hm hf st0
 go_wp2_with (with_reducible refine wSk 6 ?_)
 refine a0a st1 rfl rfl (z := .slice none 0 0) ap11 [.slice none 0 0] rfl ?_
 intro gb w2 st2
 clear st1
 obtain ⟨v6, c6, f6⟩ := (st2.at 1 rfl).ready (i := 0) ap12
 have st3 := st2.set 1 rfl 0 (.slice (some ⟨gT, 0, none⟩) n n)
 have st3 : St Nob w (w2.setCell ⟨gb, 0, none⟩ (.slice (some ⟨gT, 0, none⟩) n n)) [(gT, tmF n (aK ln (0)) (fun _ => cw 192 0), 144), (gb, [Value.slice (some ⟨gT, 0, none⟩) n n], 197)] := st3
 have ST3 := Lib.hid st3
 clear st2 st3
 go_wp2
 try clear c6 f6
 go_loopw [26] (fun i wr => ∃ k : Nat, k ≤ n ∧ i = .int .i64 (k : Int) ∧ b0B mQ (ln.take k) = true ∧ St Nob w wr [(gT, tmF n (aK ln (k)) (fun _ => cw 192 0), 144), (gb, [Value.slice (some ⟨gT, 0, none⟩) n n], 197)]) (fun i _ => n - (intOf i).toNat)
 case atStart => exact ⟨0, Nat.zero_le _, rfl, by rw [List.take_zero]; unfold b0B; rfl, ST3.out⟩
 case round =>
  obtain ⟨k, hk, rfl, hgood, st⟩ := hrel
  clear ST3
  by_cases hlt : k < n
  ·have hltI : (k : Int) < (n : Int) := by omega
   have hk0 : (0 : Int) ≤ (k : Int) := by omega
   have hf := st.fr
   obtain ⟨b, o, rfl, hat⟩ := (HV.out.still hf).at ap13
   have hvl : k < vs.length := by rw [HV.out.len]; exact hlt
   obtain ⟨a, nn, c, hve, hcc, hrd⟩ := HP.out.2 k (vs[k]'hvl) (List.getElem?_eq_getElem hvl)
   have hc1 := hat k _ (List.getElem?_eq_getElem hvl)
   rw [hve] at hc1
   have hlk : k < ln.length := by rw [HL.out]; exact hlt
   have hts := g0T mQ ln k hlk
   have hbad := i0y mQ ln k hlk
   generalize hLk : ln.getD k [] = l at *
   have HLL := Lib.hid hLk
   have HRD := Lib.hid (hrd.still hf)
   have HTS := Lib.hid hts
   have HBAD := Lib.hid hbad
   have HG := Lib.hid hgood
   have HLT := Lib.hid hlt
   clear hLk hrd hts hbad hgood hf hat hve hcc hlt hk
   have HK := Lib.hid (show b0e mQ l = true by
    cases hh : b0e mQ l
    ·have := HBAD.out hh
     rw [HGA.out] at this
     cases this
    ·rfl)
   go_wp2_with fail
   refine (g0F HK.out a nn c _ (HRD.out)).mono ?_
   rintro e' w3 ⟨rfl, hf3⟩
   have st3 := st.keep hf3
   clear st hf3
   go_wp2_with (with_reducible refine wSk 9 ?_)
   refine a0a st3 rfl rfl (z := zAd) ap11 (cw 4 0) ap9 ?_
   intro g9 w4 st4
   clear st3
   go_wp2_with (with_reducible refine wSn ?_)
   refine a0b st4 2 rfl rfl rfl rfl rfl ap2 ap0 (a0g _ _) ?_
   intro w5 st5
   clear st4
   have hc6 := (st5.at 1 rfl).cell (show [Value.slice (some ⟨gT, 0, none⟩) n n][0]? = _ from rfl)
   go_wp2_with (with_reducible refine wSk 40 ?_)
   refine a0i st5 2 rfl rfl rfl Tryz.underlying108 rfl ap0 ?_
   go_wp2_with (with_reducible refine wSn ?_)
   refine g0C st5 0 rfl rfl rfl rfl rfl (tmF n (aK ln (k + 1)) (fun _ => cw 192 0)) (t0J n ln k l HLL.out HLT.out) (by rw [l0h, a0e]; have := HLT.out; omega) ap0 (a0g _ _) ?_
   intro w6 st6
   clear st5 hc6
   go_wp2_with fail
   go_roundw
   case rel => exact ⟨k + 1, by have := HLT.out; omega, by go_num, by rw [HTS.out, HG.out, HK.out]; rfl, St.less st6 ap14⟩
   case measure => have := HLT.out; simp [intOf]; omega
  ·have hge : ¬ ((k : Int) < (n : Int)) := by omega
   have hkn : k = n := by omega
   rw [hkn] at hgood st
   rw [List.take_of_length_le (by rw [HL.out]; exact Nat.le_refl _)] at hgood
   have hgl := (st.at 0 rfl).lt
   have HHT := Lib.hid (st.at 0 rfl)
   have HHB := Lib.hid (st.at 1 rfl)
   have HNE := Lib.hid (show gb ≠ gT from st.neAt (i := 1) (j := 0) rfl rfl ap12)
   have HF := Lib.hid st.fr
   clear hkn hgood st hgl
   go_wp2_with fail
   refine (m0R gb bl n dl us lp _ (HU.out.still HF.out) (HQ.out.still HF.out) (by have := HN.out; omega) HRA.out).mono ?_
   rintro e wE ⟨rfl, hfE⟩
   have hfr := HF.out.then hfE
   clear hfE HF HHT HHB
   go_wp2_with fail
   go_ret2
   exact ⟨rfl, hfr⟩
theorem w0D (al : Option Addr) (n cl : Nat) (vs : List Value) (ln : List (List UInt8)) (bl : Option Addr) (dl : Nat) (us : List Value) (lp : List (List UInt8)) (w : World) (hv : Rd w al n vs) (hp : BParts w vs ln) (hu : Rd w bl n us) (hq : BParts w us lp) (hn : n ≤ 512) (hg : b0B mQ ln = false) :
  Calls Tryz.prog 128 #[.slice al n cl, .slice bl n dl] w fun e w' => e = .returned (.tuple #[.slice none 0 0, .int .i64 3]) ∧ Fr Nob w w' := by
 have HV := Lib.hid hv
 have HP := Lib.hid hp
 have HU := Lib.hid hu
 have HQ := Lib.hid hq
 have HL := Lib.hid (show ln.length = n by rw [← hp.1, hv.len])
 have HL2 := Lib.hid (show lp.length = n by rw [← hq.1, hu.len])
 have HN := Lib.hid hn
 have hnI : ¬ ((512 : Int) < (n : Int)) := by omega
 clear hv hp hu hq
 have HGA := Lib.hid hg
 clear hg hn
 have st0 := St.start Nob w
 go_enter Tryz.func128, Tryz.ntmps128
 go_wp2_with (with_reducible refine wSk 23 ?_)
 refine l0g rfl rfl Tryz.underlying197 i0T rfl ap12 rfl rfl n n rfl rfl (Nat.le_refl _) (by have := HN.out; omega) (by have := HN.out; unfold maxLen; omega) ?_
 intro w1 hm hf
 rw [o0h n ln] at hm
 have st1 := st0.new hf hm (Nat.le_refl _)
 have hle : w.heap.size ≤ w.heap.size := Nat.le_refl _
 generalize hgT : w.heap.size = gT at st1 hle hm ⊢
 have HGS := Lib.hid hgT
 clear hgT hle hm hf st0
 go_wp2_with (with_reducible refine wSk 6 ?_)
 refine a0a st1 rfl rfl (z := .slice none 0 0) ap11 [.slice none 0 0] rfl ?_
 intro gb w2 st2
 clear st1
 obtain ⟨v6, c6, f6⟩ := (st2.at 1 rfl).ready (i := 0) ap12
 have st3 := st2.set 1 rfl 0 (.slice (some ⟨gT, 0, none⟩) n n)
 have st3 : St Nob w (w2.setCell ⟨gb, 0, none⟩ (.slice (some ⟨gT, 0, none⟩) n n)) [(gT, tmF n (aK ln (0)) (fun _ => cw 192 0), 144), (gb, [Value.slice (some ⟨gT, 0, none⟩) n n], 197)] := st3
 have ST3 := Lib.hid st3
 clear st2 st3
 go_wp2
 try clear c6 f6
 go_loopw [26] (fun i wr => ∃ k : Nat, k ≤ n ∧ i = .int .i64 (k : Int) ∧ b0B mQ (ln.take k) = true ∧ St Nob w wr [(gT, tmF n (aK ln (k)) (fun _ => cw 192 0), 144), (gb, [Value.slice (some ⟨gT, 0, none⟩) n n], 197)]) (fun i _ => n - (intOf i).toNat)
 case atStart => exact ⟨0, Nat.zero_le _, rfl, by rw [List.take_zero]; unfold b0B; rfl, ST3.out⟩
 case round =>
  obtain ⟨k, hk, rfl, hgood, st⟩ := hrel
  clear ST3
  by_cases hlt : k < n
  ·have hltI : (k : Int) < (n : Int) := by omega
   have hk0 : (0 : Int) ≤ (k : Int) := by omega
   have hf := st.fr
   obtain ⟨b, o, rfl, hat⟩ := (HV.out.still hf).at ap13
   have hvl : k < vs.length := by rw [HV.out.len]; exact hlt
   obtain ⟨a, nn, c, hve, hcc, hrd⟩ := HP.out.2 k (vs[k]'hvl) (List.getElem?_eq_getElem hvl)
   have hc1 := hat k _ (List.getElem?_eq_getElem hvl)
   rw [hve] at hc1
   have hlk : k < ln.length := by rw [HL.out]; exact hlt
   have hts := g0T mQ ln k hlk
   have hbad := i0y mQ ln k hlk
   generalize hLk : ln.getD k [] = l at *
   have HLL := Lib.hid hLk
   have HRD := Lib.hid (hrd.still hf)
   have HTS := Lib.hid hts
   have HBAD := Lib.hid hbad
   have HG := Lib.hid hgood
   have HLT := Lib.hid hlt
   clear hLk hrd hts hbad hgood hf hat hve hcc hlt hk
   rcases Bool.eq_false_or_eq_true (b0e mQ l) with hh | hh
   ·have HK := Lib.hid hh
    clear hh
    go_wp2_with fail
    refine (g0F HK.out a nn c _ (HRD.out)).mono ?_
    rintro e' w3 ⟨rfl, hf3⟩
    have st3 := st.keep hf3
    clear st hf3
    go_wp2_with (with_reducible refine wSk 9 ?_)
    refine a0a st3 rfl rfl (z := zAd) ap11 (cw 4 0) ap9 ?_
    intro g9 w4 st4
    clear st3
    go_wp2_with (with_reducible refine wSn ?_)
    refine a0b st4 2 rfl rfl rfl rfl rfl ap2 ap0 (a0g _ _) ?_
    intro w5 st5
    clear st4
    have hc6 := (st5.at 1 rfl).cell (show [Value.slice (some ⟨gT, 0, none⟩) n n][0]? = _ from rfl)
    go_wp2_with (with_reducible refine wSk 40 ?_)
    refine a0i st5 2 rfl rfl rfl Tryz.underlying108 rfl ap0 ?_
    go_wp2_with (with_reducible refine wSn ?_)
    refine g0C st5 0 rfl rfl rfl rfl rfl (tmF n (aK ln (k + 1)) (fun _ => cw 192 0)) (t0J n ln k l HLL.out HLT.out) (by rw [l0h, a0e]; have := HLT.out; omega) ap0 (a0g _ _) ?_
    intro w6 st6
    clear st5 hc6
    go_wp2_with fail
    go_roundw
    case rel => exact ⟨k + 1, by have := HLT.out; omega, by go_num, by rw [HTS.out, HG.out, HK.out]; rfl, St.less st6 ap14⟩
    case measure => have := HLT.out; simp [intOf]; omega
   ·have HK := Lib.hid hh
    clear hh
    go_wp2_with fail
    refine (p0z HK.out a nn c _ (HRD.out)).mono ?_
    rintro e' w3 ⟨⟨N, rfl⟩, hf3⟩
    have st3 := st.keep hf3
    clear st hf3
    go_wp2_with (with_reducible refine wSk 9 ?_)
    refine a0a st3 rfl rfl (z := zAd) ap11 (cw 4 0) ap9 ?_
    intro g9 w4 st4
    clear st3
    go_wp2_with (with_reducible refine wSn ?_)
    refine a0b st4 2 rfl rfl rfl rfl rfl ap2 ap0 (a0g _ _) ?_
    intro w5 st5
    clear st4
    have hfr := st5.fr
    clear st5
    go_wp2_with fail
    go_ret2
    exact ⟨rfl, hfr⟩
  ·exfalso
   have hkn : k = n := by omega
   rw [hkn] at hgood
   rw [List.take_of_length_le (by rw [HL.out]; exact Nat.le_refl _), HGA.out] at hgood
   cases hgood
theorem w0E (al : Option Addr) (n cl : Nat) (bl : Option Addr) (m dl : Nat) (w : World) (h : n ≠ m) :
  Calls Tryz.prog 128 #[.slice al n cl, .slice bl m dl] w fun e w' => e = .returned (.tuple #[.slice none 0 0, .int .i64 2]) ∧ Fr Nob w w' := by
 have h1 : ((n : Int) != (m : Int)) = true := by simp; omega
 have h2 : (n != m) = true := by simpa using h
 go_enter Tryz.func128, Tryz.ntmps128
 go_wp2
 go_ret2
 exact ⟨rfl, Fr.refl _ _⟩
theorem w0F (al : Option Addr) (n cl : Nat) (bl : Option Addr) (dl : Nat) (w : World) (h : 512 < n) :
  Calls Tryz.prog 128 #[.slice al n cl, .slice bl n dl] w fun e w' => e = .returned (.tuple #[.slice none 0 0, .int .i64 1]) ∧ Fr Nob w w' := by
 have h1 : (512 : Int) < (n : Int) := by omega
 go_enter Tryz.func128, Tryz.ntmps128
 go_wp2
 go_ret2
 exact ⟨rfl, Fr.refl _ _⟩
end Go.Proofs.YtmebmhjppmfbbaaGreat


set_option maxHeartbeats 16000000
set_option maxRecDepth 1000000
namespace Mvp
theorem z0K (Q : Nat) (h : lw Q 0 + 1 < 18446744073709551616) : (a0E 4 Q).set 0 (lw Q 0 + 1) = a0E 4 (Q + 1) := by
 rw [x0s, x0s]
 have e0 : lw (Q + 1) 0 = lw Q 0 + 1 := by rw [q0z] at h ⊢; rw [q0z]; omega
 have e : (Q + 1) / 18446744073709551616 = Q / 18446744073709551616 := by rw [q0z] at h; omega
 have ed : ∀ i, lw (Q + 1) (1 + i) = lw Q (1 + i) := by
  intro i
  rw [← c0D, ← c0D, Nat.pow_one, show B64 = 18446744073709551616 from rfl, e]
 have e1 := ed 0
 have e2 := ed 1
 have e3 := ed 2
 simp only [Nat.add_zero] at e1
 rw [e0, e1, show (2 : Nat) = 1 + 1 from rfl, show (3 : Nat) = 1 + 2 from rfl, e2, e3]
 rfl
theorem f0N (p : Nat) (h : p < B64 ^ 4) : p / 4 % 2 ^ 254 = p / 4 := Nat.mod_eq_of_lt (by
 rw [show B64 ^ 4 = 2 ^ 254 * 4 from rfl] at h
 generalize 2 ^ 254 = z at *
 omega)
end Mvp
namespace Go.Proofs.YtmebmhjppmfbbaaGreat
open Go.RowKit Go.Mv Mvp
theorem l0i (q b k q' : Nat) (hb : b < 2) (hs : (a0E 4 q).set (k / 64) (lw q (k / 64) ||| b * 2 ^ (k % 64)) = a0E 4 q') :
  (cw 4 q).set (k / 64) (.int .u64 (bits .or .u64 (lw q (k / 64) : Nat) (IntKind.u64.wrap ((b : Int) * 2 ^ (k % 64))))) = cw 4 q' := by
 have h1 : b * 2 ^ (k % 64) < 18446744073709551616 := by
  have h2 : 2 ^ (k % 64) ≤ 2 ^ 63 := Nat.pow_le_pow_right ap12 ap13
  have h3 := Nat.mul_le_mul_right (2 ^ (k % 64)) (show b ≤ 1 by omega)
  rw [Nat.one_mul] at h3
  have h4 : (2 : Nat) ^ 63 = 9223372036854775808 := by decide
  rw [h4] at h2
  generalize 2 ^ (k % 64) = z at *
  generalize b * z = y at *
  omega
 have h := bits_or_u64_nat (lw q (k / 64)) (b * 2 ^ (k % 64)) (c0T _ _) h1
 have hw : IntKind.u64.wrap ((b : Int) * 2 ^ (k % 64)) = ((b * 2 ^ (k % 64) : Nat) : Int) := by
  rw [show ((b : Int) * 2 ^ (k % 64)) = ((b * 2 ^ (k % 64) : Nat) : Int) by rw [Int.natCast_mul, Int.natCast_pow]; rfl, IntKind.wrap_u64]
  exact congrArg Int.ofNat (Nat.mod_eq_of_lt h1)
 rw [hw, h, cw, l0Y, hs, cw]
theorem i0U (Q : Nat) (h : lw Q 0 + 1 < 18446744073709551616) : (cw 4 Q).set 0 (.int .u64 ((lw Q 0 : Int) + 1)) = cw 4 (Q + 1) := by
 show (us (a0E 4 Q)).set 0 (.int .u64 ((lw Q 0 + 1 : Nat) : Int)) = us (a0E 4 (Q + 1))
 rw [l0Y, z0K Q h]
theorem o0i (x y : Nat) (hx : x < B64 ^ 4) (hy : y < B64 ^ 4) (ty : TypeId) (hu : Tryz.prog.underlying ty = some (.array 4 57)) (hg : Tryz.prog.eqGuardType Tryz.prog.depth ty = false) {o : Oper} {a : Act} {w : World} {K : Act → World → Prop} {Q : Exit → Act → World → Prop} {p q : Operand} {T : TypeId}
  (ho : o.op = .binOp .neq ty p q T) (hp : a.eval p = i4 x) (hq : a.eval q = .agg (cw 4 y).toArray) {b : Bool} (hb : decide (x = y) = b) (hk : K (a.put o.dst (.bool !b)) w) : o.wp Tryz.prog a w K Q := by
 have h1 := p0i x y ty hg p q w
 have h2 : (binOp .neq ty (i4 x) (.agg (cw 4 y).toArray)).run Tryz.prog w = .ok (.bool !b) w := by
  show (do pure (Value.bool (!(← Op.equal ty (.agg (cw 4 x).toArray) (.agg (cw 4 y).toArray))))).run Tryz.prog w = _
  simp only [Sem.run_bind, k0O hu Tryz.underlying57 d0b x y w, Result.andThen_ok]
  rw [Nat.mod_eq_of_lt hx, Nat.mod_eq_of_lt hy, hb]
  rfl
 unfold Oper.wp execOp
 simp only [ho, hp, hq, Sem.run_bind, h1, h2, Result.andThen_ok, Sem.run_pure]
 exact hk
attribute [local irreducible] a0E lw mix cw b0o b0x b0l a0L a0q beN b0F b0c b0z
theorem w0G (p a n R : Nat) (w : World) (hp0 : 0 < p) (hp : p < B64 ^ 4) (hn : p / 4 + 1 = n) (hn4 : n < B64 ^ 4) (ha : a < B64 ^ 4) (hlow : lw (p / 4) 0 + 1 < 18446744073709551616) (hR : R < p) (hpow : ∀ wx, Calls Tryz.prog 175 #[fv p, i4 a, i4 n] wx fun e w' => e = .returned (i4 R) ∧ Fr Nob wx w') (hb : decide (R * R % p = a) = false) :
  Calls Tryz.prog 183 #[fv p, i4 a] w fun e w' => e = .returned (.tuple #[i4 0, .bool false]) ∧ Fr Nob w w' := by
 have HP0 := Lib.hid hp0
 have HP := Lib.hid hp
 have HN4 := Lib.hid hn4
 have HA := Lib.hid ha
 have HLOW := Lib.hid hlow
 have HPOW := Lib.hid hpow
 have HB := Lib.hid hb
 have HR4 := Lib.hid (Nat.lt_trans hR hp)
 have HRP := Lib.hid (Nat.le_of_lt hR)
 have HRR := Lib.hid (show R * R % p < B64 ^ 4 from Nat.lt_trans (Nat.mod_lt _ hp0) hp)
 have hlc := i0U (p / 4) hlow
 rw [hn] at hlc
 have HLC := Lib.hid hlc
 have HNE := Lib.hid hn
 clear hp0 hp hn4 ha hlow hpow hb hR hlc hn 
 have st0 := St.start Nob w
 go_enter Tryz.func183, Tryz.ntmps183
 go_wp2_with (with_reducible refine wSk 2 ?_)
 refine a0l st0 rfl rfl rfl (cw 4 p ++ cw 4 (B64 ^ 4 - p)) rfl ?_
 intro g2 w1 st1
 clear st0
 go_wp2_with (with_reducible refine wSk 3 ?_)
 refine a0l st1 rfl rfl rfl (cw 4 a) rfl ?_
 intro g3 w2 st2
 clear st1
 go_wp2_with (with_reducible refine wSk 4 ?_)
 refine a0a st2 rfl rfl (z := zAd) ap11 (cw 4 0) ap9 ?_
 intro g4 w3 st3
 clear st2
 go_wp2_with (with_reducible refine wSk 6 ?_)
 refine a0a st3 rfl rfl (z := zAd) ap11 (cw 4 0) ap9 ?_
 intro g6 w4 st4
 clear st3
 go_wp2
 go_loopw [7] (fun i wr => ∃ k : Nat, k ≤ 254 ∧ i = .int .i64 (k : Int) ∧ St Nob w wr [(g2, cw 4 p ++ cw 4 (B64 ^ 4 - p), 72), (g3, cw 4 a, 68), (g4, cw 4 0, 68), (g6, cw 4 (p / 4 % 2 ^ k), 68)]) (fun i _ => 254 - (intOf i).toNat)
 case atStart => exact ⟨0, by omega, rfl, by rw [Nat.pow_zero, Nat.mod_one]; exact st4⟩
 case round =>
  obtain ⟨k, hk, rfl, st⟩ := hrel
  clear st4
  by_cases hlt : k < 254
  ·have hltI : (k : Int) < 254 := by omega
   have hstep := k0N 4 (p / 4 % 2 ^ k) k (p / 2 ^ (k + 2) % 2) (Nat.mod_lt _ (Nat.pow_pos ap12)) (Nat.mod_lt _ ap12) ap13
   rw [← f0a] at hstep
   have hbit := fun wx => g0o p (k + 2) wx ap13
   have hb2 : p / 2 ^ (k + 2) % 2 < 2 := Nat.mod_lt _ ap12
   generalize p / 2 ^ (k + 2) % 2 = b at *
   generalize hq' : p / 4 % 2 ^ (k + 1) = q' at *
   have HQ := Lib.hid hq'
   clear hq'
   generalize p / 4 % 2 ^ k = q at *
   have HCELL := Lib.hid (l0i q b k q' hb2 hstep)
   have HBIT := Lib.hid hbit
   clear hstep hbit hb2
   have hlo : (0 : Int) ≤ (k : Int) / 64 ∧ (k : Int) / 64 < 4 := by omega
   have hlo2 : (0 : Int) ≤ (k : Int) % 64 ∧ (k : Int) % 64 < 64 := by omega
   have e1 : IntKind.i64.wrap ((k : Int) / 64) = (k : Int) / 64 := IntWalk.i64_in _ ap13
   have e2 : (k : Int).tmod 64 = (k : Int) % 64 := Int.tmod_eq_emod_of_nonneg ap13
   have e3 : IntKind.i64.wrap ((k : Int) + 2) = (k : Int) + 2 := IntWalk.i64_in _ ap13
   have e4 : ((k : Int) / 64).toNat = k / 64 := by omega
   have e5 : ((k : Int) % 64).toNat = k % 64 := by omega
   go_wp2_with fail
   refine wp_region_noPanic ?_
   refine a0o (fun wx => St Nob w wx [(g2, cw 4 p ++ cw 4 (B64 ^ 4 - p), 72), (g3, cw 4 a, 68), (g4, cw 4 0, 68), (g6, cw 4 q, 68)]) 16 (.w 0 (.w 1 (.w 2 (.w 3 (.w 4 (.t 5 (.w 6 (.t 7 (.w 8 (.w 9 (.w 11 (.w 12 (.r 10 (.w 13 (.w 14 (.w 15 (.m 16 .nil))))))))))))))))) ap11 ap11 st.drew (fun _ _ _ _ _ h => h) ?_
   have hd4 := st.drew
   clear st
   refine a0k rfl rfl apW ?_
   try simp only [clL]
   refine a0k rfl rfl apW ?_
   try simp only [clL]
   refine a0k rfl rfl apW ?_
   try simp only [clL]
   refine a0k rfl rfl apW ?_
   try simp only [clL]
   refine a0k rfl rfl apW ?_
   try simp only [clL]
   refine d0T (v := ?_) rfl rfl (fun wx hS => ?_) ?_
   rotate_left 1
   ·(have hc := (St.at hS 3 rfl).cell (a0D 4 q (k / 64) ap13); clear hS; go_simp; with_reducible rfl)
   try simp only [clL]
   refine a0k rfl rfl apW ?_
   try simp only [clL]
   refine a0s rfl rfl rfl rfl (cw 4 p) (fun wx hS => St.rangeL hS 0 rfl 0 _ (g0P 4 4 _ _)) Tryz.underlying68 rfl ap4 ?_
   try simp only [clL]
   refine a0k rfl rfl apW ?_
   try simp only [clL]
   refine a0k rfl rfl apW ?_
   try simp only [clL]
   refine a0k rfl rfl apW ?_
   try simp only [clL]
   refine a0k rfl rfl apW ?_
   try simp only [clL]
   refine a0y rfl rfl ?_
   go_simp
   refine (HBIT.out _).mono ?_
   rintro e' w5 ⟨rfl, hf5⟩
   have st5 := hd4.keep hf5
   clear hf5
   clear hd4
   refine ⟨st5, ?_⟩
   try simp only [clL]
   refine a0k rfl rfl apW ?_
   try simp only [clL]
   refine a0k rfl rfl apW ?_
   try simp only [clL]
   refine a0k rfl rfl apW ?_
   try simp only [clL]
   refine a0r rfl rfl ?_
   have f1 := (st5.at 3 rfl).free (k / 64) (by rw [a0e]; omega)
   have c1 := (st5.at 3 rfl).cell (a0D 4 q (k / 64) ap13)
   go_simp
   have st6 := st5.set 3 rfl (k / 64) (.int .u64 (bits .or .u64 (lw q (k / 64) : Nat) (IntKind.u64.wrap ((b : Int) * 2 ^ (k % 64)))))
   simp only [List.set_cons_zero, List.set_cons_succ] at st6
   rw [HCELL.out] at st6
   clear f1 c1 st5
   try simp only [clL]
   refine a0j ?_
   refine NoPanic.normal ?_
   go_wp2
   go_roundw
   case rel => exact ⟨k + 1, by omega, by go_num, by rw [HQ.out]; exact st6⟩
   case measure => simp [intOf]; omega
  ·have hge : ¬ ((k : Int) < 254) := by omega
   have hk2 : k = 254 := by omega
   rw [hk2, f0N p HP.out] at st
   clear hk2
   generalize p / 4 = Q at *
   have c1 := (st.at 3 rfl).cell (a0D 4 Q 0 ap12)
   have f1 := (st.at 3 rfl).free 0 (by rw [a0e]; decide)
   have st9 := st.set 3 rfl 0 (.int .u64 ((lw Q 0 : Int) + 1))
   have hlow := HLOW.out
   have e1 : IntKind.u64.wrap ((lw Q 0 : Int) + 1) = (lw Q 0 : Int) + 1 := IntWalk.u64_in _ ap13
   clear st
   go_wp2_with (with_reducible refine wSk 33 ?_)
   simp only [List.set_cons_zero, List.set_cons_succ] at st9
   rw [HLC.out] at st9
   clear c1 f1 hlow e1
   refine a0m st9 0 rfl rfl rfl Tryz.underlying72 rfl rfl ap4 ?_
   go_wp2_with (with_reducible refine wSk 34 ?_)
   refine a0i st9 1 rfl rfl rfl Tryz.underlying68 rfl ap4 ?_
   go_wp2_with (with_reducible refine wSk 35 ?_)
   refine a0i st9 3 rfl rfl rfl Tryz.underlying68 rfl ap4 ?_
   go_wp2_with fail
   refine (HPOW.out _).mono ?_
   rintro e' w10 ⟨rfl, hf10⟩
   have st10 := st9.keep hf10
   clear st9 hf10
   go_wp2_with (with_reducible refine wSk 8 ?_)
   refine a0a st10 rfl rfl (z := zAd) ap11 (cw 4 0) ap9 ?_
   intro g8 w11 st11
   clear st10
   go_wp2_with (with_reducible refine wSn ?_)
   refine a0b st11 4 rfl rfl rfl rfl rfl ap5 ap4 (a0g _ _) ?_
   intro w12 st12
   clear st11
   go_wp2_with fail
   refine wp_region_noPanic ?_
   refine a0o (fun wx => St Nob w wx [(g2, cw 4 p ++ cw 4 (B64 ^ 4 - p), 72), (g3, cw 4 a, 68), (g4, cw 4 0, 68), (g6, cw 4 n, 68), (g8, cw 4 R, 68)]) 5 (.t 0 (.t 1 (.t 2 (.t 4 (.r 3 (.m 5 .nil)))))) ap11 ap11 st12.drew (fun _ _ _ _ _ h => h) ?_
   have hd12 := st12.drew
   clear st12
   refine a0s rfl rfl rfl rfl (cw 4 p ++ cw 4 (B64 ^ 4 - p)) (fun wx hS => St.rangeL hS 0 rfl 0 _ dZl) Tryz.underlying72 rfl ap4 ?_
   try simp only [clL]
   refine a0s rfl rfl rfl rfl (cw 4 R) (fun wx hS => St.rangeL hS 4 rfl 0 _ dZl) Tryz.underlying68 rfl ap4 ?_
   try simp only [clL]
   refine a0s rfl rfl rfl rfl (cw 4 R) (fun wx hS => St.rangeL hS 4 rfl 0 _ dZl) Tryz.underlying68 rfl ap4 ?_
   try simp only [clL]
   refine a0s rfl rfl rfl rfl (cw 4 a) (fun wx hS => St.rangeL hS 1 rfl 0 _ dZl) Tryz.underlying68 rfl ap4 ?_
   try simp only [clL]
   refine a0y rfl rfl ?_
   go_simp
   refine (g0S p R R _ HP0.out HP.out HR4.out HR4.out).mono ?_
   rintro e' w13 ⟨rfl, hf13⟩
   have st13 := hd12.keep hf13
   clear hf13
   clear hd12
   refine ⟨st13, ?_⟩
   try simp only [clL]
   refine a0r rfl rfl ?_
   refine o0i (R * R % p) a HRR.out HA.out 68 Tryz.underlying68 Tryz.eqGuardType68 rfl rfl rfl HB.out ?_
   try simp only [clL]
   refine a0j ?_
   refine NoPanic.normal ?_
   go_wp2_with (with_reducible refine wSn ?_)
   refine a0b st13 2 rfl rfl rfl rfl (cs := cw 4 0) ap9 ap5 ap4 (a0g _ _) ?_
   intro w14 st14
   clear st13
   have hr := st14.at 2 rfl
   have hfr := st14.fr
   clear st14
   go_wp2_with fail
   exact bodyPost_ret (a0V rfl rfl hr Tryz.underlying68 ap4 rfl) rfl ⟨rfl, hfr⟩
theorem r0c (p a n R : Nat) (w : World) (hp0 : 0 < p) (hp : p < B64 ^ 4) (hn : p / 4 + 1 = n) (hn4 : n < B64 ^ 4) (ha : a < B64 ^ 4) (hlow : lw (p / 4) 0 + 1 < 18446744073709551616) (hR : R < p) (hpow : ∀ wx, Calls Tryz.prog 175 #[fv p, i4 a, i4 n] wx fun e w' => e = .returned (i4 R) ∧ Fr Nob wx w') (hb : decide (R * R % p = a) = true) (hpar : R % 2 = 0) :
  Calls Tryz.prog 183 #[fv p, i4 a] w fun e w' => e = .returned (.tuple #[i4 R, .bool true]) ∧ Fr Nob w w' := by
 have HP0 := Lib.hid hp0
 have HP := Lib.hid hp
 have HN4 := Lib.hid hn4
 have HA := Lib.hid ha
 have HLOW := Lib.hid hlow
 have HPOW := Lib.hid hpow
 have HB := Lib.hid hb
 have HR4 := Lib.hid (Nat.lt_trans hR hp)
 have HRP := Lib.hid (Nat.le_of_lt hR)
 have HRR := Lib.hid (show R * R % p < B64 ^ 4 from Nat.lt_trans (Nat.mod_lt _ hp0) hp)
 have hlc := i0U (p / 4) hlow
 rw [hn] at hlc
 have HLC := Lib.hid hlc
 have HNE := Lib.hid hn
 have HPAR := Lib.hid hpar
 clear hp0 hp hn4 ha hlow hpow hb hR hlc hn hpar
 have st0 := St.start Nob w
 go_enter Tryz.func183, Tryz.ntmps183
 go_wp2_with (with_reducible refine wSk 2 ?_)
 refine a0l st0 rfl rfl rfl (cw 4 p ++ cw 4 (B64 ^ 4 - p)) rfl ?_
 intro g2 w1 st1
 clear st0
 go_wp2_with (with_reducible refine wSk 3 ?_)
 refine a0l st1 rfl rfl rfl (cw 4 a) rfl ?_
 intro g3 w2 st2
 clear st1
 go_wp2_with (with_reducible refine wSk 4 ?_)
 refine a0a st2 rfl rfl (z := zAd) ap11 (cw 4 0) ap9 ?_
 intro g4 w3 st3
 clear st2
 go_wp2_with (with_reducible refine wSk 6 ?_)
 refine a0a st3 rfl rfl (z := zAd) ap11 (cw 4 0) ap9 ?_
 intro g6 w4 st4
 clear st3
 go_wp2
 go_loopw [7] (fun i wr => ∃ k : Nat, k ≤ 254 ∧ i = .int .i64 (k : Int) ∧ St Nob w wr [(g2, cw 4 p ++ cw 4 (B64 ^ 4 - p), 72), (g3, cw 4 a, 68), (g4, cw 4 0, 68), (g6, cw 4 (p / 4 % 2 ^ k), 68)]) (fun i _ => 254 - (intOf i).toNat)
 case atStart => exact ⟨0, by omega, rfl, by rw [Nat.pow_zero, Nat.mod_one]; exact st4⟩
 case round =>
  obtain ⟨k, hk, rfl, st⟩ := hrel
  clear st4
  by_cases hlt : k < 254
  ·have hltI : (k : Int) < 254 := by omega
   have hstep := k0N 4 (p / 4 % 2 ^ k) k (p / 2 ^ (k + 2) % 2) (Nat.mod_lt _ (Nat.pow_pos ap12)) (Nat.mod_lt _ ap12) ap13
   rw [← f0a] at hstep
   have hbit := fun wx => g0o p (k + 2) wx ap13
   have hb2 : p / 2 ^ (k + 2) % 2 < 2 := Nat.mod_lt _ ap12
   generalize p / 2 ^ (k + 2) % 2 = b at *
   generalize hq' : p / 4 % 2 ^ (k + 1) = q' at *
   have HQ := Lib.hid hq'
   clear hq'
   generalize p / 4 % 2 ^ k = q at *
   have HCELL := Lib.hid (l0i q b k q' hb2 hstep)
   have HBIT := Lib.hid hbit
   clear hstep hbit hb2
   have hlo : (0 : Int) ≤ (k : Int) / 64 ∧ (k : Int) / 64 < 4 := by omega
   have hlo2 : (0 : Int) ≤ (k : Int) % 64 ∧ (k : Int) % 64 < 64 := by omega
   have e1 : IntKind.i64.wrap ((k : Int) / 64) = (k : Int) / 64 := IntWalk.i64_in _ ap13
   have e2 : (k : Int).tmod 64 = (k : Int) % 64 := Int.tmod_eq_emod_of_nonneg ap13
   have e3 : IntKind.i64.wrap ((k : Int) + 2) = (k : Int) + 2 := IntWalk.i64_in _ ap13
   have e4 : ((k : Int) / 64).toNat = k / 64 := by omega
   have e5 : ((k : Int) % 64).toNat = k % 64 := by omega
   go_wp2_with fail
   refine wp_region_noPanic ?_
   refine a0o (fun wx => St Nob w wx [(g2, cw 4 p ++ cw 4 (B64 ^ 4 - p), 72), (g3, cw 4 a, 68), (g4, cw 4 0, 68), (g6, cw 4 q, 68)]) 16 (.w 0 (.w 1 (.w 2 (.w 3 (.w 4 (.t 5 (.w 6 (.t 7 (.w 8 (.w 9 (.w 11 (.w 12 (.r 10 (.w 13 (.w 14 (.w 15 (.m 16 .nil))))))))))))))))) ap11 ap11 st.drew (fun _ _ _ _ _ h => h) ?_
   have hd4 := st.drew
   clear st
   refine a0k rfl rfl apW ?_
   try simp only [clL]
   refine a0k rfl rfl apW ?_
   try simp only [clL]
   refine a0k rfl rfl apW ?_
   try simp only [clL]
   refine a0k rfl rfl apW ?_
   try simp only [clL]
   refine a0k rfl rfl apW ?_
   try simp only [clL]
   refine d0T (v := ?_) rfl rfl (fun wx hS => ?_) ?_
   rotate_left 1
   ·(have hc := (St.at hS 3 rfl).cell (a0D 4 q (k / 64) ap13); clear hS; go_simp; with_reducible rfl)
   try simp only [clL]
   refine a0k rfl rfl apW ?_
   try simp only [clL]
   refine a0s rfl rfl rfl rfl (cw 4 p) (fun wx hS => St.rangeL hS 0 rfl 0 _ (g0P 4 4 _ _)) Tryz.underlying68 rfl ap4 ?_
   try simp only [clL]
   refine a0k rfl rfl apW ?_
   try simp only [clL]
   refine a0k rfl rfl apW ?_
   try simp only [clL]
   refine a0k rfl rfl apW ?_
   try simp only [clL]
   refine a0k rfl rfl apW ?_
   try simp only [clL]
   refine a0y rfl rfl ?_
   go_simp
   refine (HBIT.out _).mono ?_
   rintro e' w5 ⟨rfl, hf5⟩
   have st5 := hd4.keep hf5
   clear hf5
   clear hd4
   refine ⟨st5, ?_⟩
   try simp only [clL]
   refine a0k rfl rfl apW ?_
   try simp only [clL]
   refine a0k rfl rfl apW ?_
   try simp only [clL]
   refine a0k rfl rfl apW ?_
   try simp only [clL]
   refine a0r rfl rfl ?_
   have f1 := (st5.at 3 rfl).free (k / 64) (by rw [a0e]; omega)
   have c1 := (st5.at 3 rfl).cell (a0D 4 q (k / 64) ap13)
   go_simp
   have st6 := st5.set 3 rfl (k / 64) (.int .u64 (bits .or .u64 (lw q (k / 64) : Nat) (IntKind.u64.wrap ((b : Int) * 2 ^ (k % 64)))))
   simp only [List.set_cons_zero, List.set_cons_succ] at st6
   rw [HCELL.out] at st6
   clear f1 c1 st5
   try simp only [clL]
   refine a0j ?_
   refine NoPanic.normal ?_
   go_wp2
   go_roundw
   case rel => exact ⟨k + 1, by omega, by go_num, by rw [HQ.out]; exact st6⟩
   case measure => simp [intOf]; omega
  ·have hge : ¬ ((k : Int) < 254) := by omega
   have hk2 : k = 254 := by omega
   rw [hk2, f0N p HP.out] at st
   clear hk2
   generalize p / 4 = Q at *
   have c1 := (st.at 3 rfl).cell (a0D 4 Q 0 ap12)
   have f1 := (st.at 3 rfl).free 0 (by rw [a0e]; decide)
   have st9 := st.set 3 rfl 0 (.int .u64 ((lw Q 0 : Int) + 1))
   have hlow := HLOW.out
   have e1 : IntKind.u64.wrap ((lw Q 0 : Int) + 1) = (lw Q 0 : Int) + 1 := IntWalk.u64_in _ ap13
   clear st
   go_wp2_with (with_reducible refine wSk 33 ?_)
   simp only [List.set_cons_zero, List.set_cons_succ] at st9
   rw [HLC.out] at st9
   clear c1 f1 hlow e1
   refine a0m st9 0 rfl rfl rfl Tryz.underlying72 rfl rfl ap4 ?_
   go_wp2_with (with_reducible refine wSk 34 ?_)
   refine a0i st9 1 rfl rfl rfl Tryz.underlying68 rfl ap4 ?_
   go_wp2_with (with_reducible refine wSk 35 ?_)
   refine a0i st9 3 rfl rfl rfl Tryz.underlying68 rfl ap4 ?_
   go_wp2_with fail
   refine (HPOW.out _).mono ?_
   rintro e' w10 ⟨rfl, hf10⟩
   have st10 := st9.keep hf10
   clear st9 hf10
   go_wp2_with (with_reducible refine wSk 8 ?_)
   refine a0a st10 rfl rfl (z := zAd) ap11 (cw 4 0) ap9 ?_
   intro g8 w11 st11
   clear st10
   go_wp2_with (with_reducible refine wSn ?_)
   refine a0b st11 4 rfl rfl rfl rfl rfl ap5 ap4 (a0g _ _) ?_
   intro w12 st12
   clear st11
   go_wp2_with fail
   refine wp_region_noPanic ?_
   refine a0o (fun wx => St Nob w wx [(g2, cw 4 p ++ cw 4 (B64 ^ 4 - p), 72), (g3, cw 4 a, 68), (g4, cw 4 0, 68), (g6, cw 4 n, 68), (g8, cw 4 R, 68)]) 5 (.t 0 (.t 1 (.t 2 (.t 4 (.r 3 (.m 5 .nil)))))) ap11 ap11 st12.drew (fun _ _ _ _ _ h => h) ?_
   have hd12 := st12.drew
   clear st12
   refine a0s rfl rfl rfl rfl (cw 4 p ++ cw 4 (B64 ^ 4 - p)) (fun wx hS => St.rangeL hS 0 rfl 0 _ dZl) Tryz.underlying72 rfl ap4 ?_
   try simp only [clL]
   refine a0s rfl rfl rfl rfl (cw 4 R) (fun wx hS => St.rangeL hS 4 rfl 0 _ dZl) Tryz.underlying68 rfl ap4 ?_
   try simp only [clL]
   refine a0s rfl rfl rfl rfl (cw 4 R) (fun wx hS => St.rangeL hS 4 rfl 0 _ dZl) Tryz.underlying68 rfl ap4 ?_
   try simp only [clL]
   refine a0s rfl rfl rfl rfl (cw 4 a) (fun wx hS => St.rangeL hS 1 rfl 0 _ dZl) Tryz.underlying68 rfl ap4 ?_
   try simp only [clL]
   refine a0y rfl rfl ?_
   go_simp
   refine (g0S p R R _ HP0.out HP.out HR4.out HR4.out).mono ?_
   rintro e' w13 ⟨rfl, hf13⟩
   have st13 := hd12.keep hf13
   clear hf13
   clear hd12
   refine ⟨st13, ?_⟩
   try simp only [clL]
   refine a0r rfl rfl ?_
   refine o0i (R * R % p) a HRR.out HA.out 68 Tryz.underlying68 Tryz.eqGuardType68 rfl rfl rfl HB.out ?_
   try simp only [clL]
   refine a0j ?_
   refine NoPanic.normal ?_
   have c1 := (st13.at 4 rfl).cell (a0D 4 R 0 ap12)
   have hla := i0A R
   rw [HPAR.out] at hla
   go_wp2_with (with_reducible refine wSk 51 ?_)
   refine a0i st13 4 rfl rfl rfl Tryz.underlying68 rfl ap4 ?_
   go_wp2_with (with_reducible refine wSn ?_)
   refine a0b st13 2 rfl rfl rfl rfl rfl ap5 ap4 (a0g _ _) ?_
   intro w14 st14
   clear st13
   have hr := st14.at 2 rfl
   have hfr := st14.fr
   clear st14
   go_wp2_with fail
   exact bodyPost_ret (a0V rfl rfl hr Tryz.underlying68 ap4 rfl) rfl ⟨rfl, hfr⟩
theorem t0K (p a n R : Nat) (w : World) (hp0 : 0 < p) (hp : p < B64 ^ 4) (hn : p / 4 + 1 = n) (hn4 : n < B64 ^ 4) (ha : a < B64 ^ 4) (hlow : lw (p / 4) 0 + 1 < 18446744073709551616) (hR : R < p) (hpow : ∀ wx, Calls Tryz.prog 175 #[fv p, i4 a, i4 n] wx fun e w' => e = .returned (i4 R) ∧ Fr Nob wx w') (hb : decide (R * R % p = a) = true) (hpar : R % 2 = 1) :
  Calls Tryz.prog 183 #[fv p, i4 a] w fun e w' => e = .returned (.tuple #[i4 ((p - R) % p), .bool true]) ∧ Fr Nob w w' := by
 have HP0 := Lib.hid hp0
 have HP := Lib.hid hp
 have HN4 := Lib.hid hn4
 have HA := Lib.hid ha
 have HLOW := Lib.hid hlow
 have HPOW := Lib.hid hpow
 have HB := Lib.hid hb
 have HR4 := Lib.hid (Nat.lt_trans hR hp)
 have HRP := Lib.hid (Nat.le_of_lt hR)
 have HRR := Lib.hid (show R * R % p < B64 ^ 4 from Nat.lt_trans (Nat.mod_lt _ hp0) hp)
 have hlc := i0U (p / 4) hlow
 rw [hn] at hlc
 have HLC := Lib.hid hlc
 have HNE := Lib.hid hn
 have HPAR := Lib.hid hpar
 clear hp0 hp hn4 ha hlow hpow hb hR hlc hn hpar
 have st0 := St.start Nob w
 go_enter Tryz.func183, Tryz.ntmps183
 go_wp2_with (with_reducible refine wSk 2 ?_)
 refine a0l st0 rfl rfl rfl (cw 4 p ++ cw 4 (B64 ^ 4 - p)) rfl ?_
 intro g2 w1 st1
 clear st0
 go_wp2_with (with_reducible refine wSk 3 ?_)
 refine a0l st1 rfl rfl rfl (cw 4 a) rfl ?_
 intro g3 w2 st2
 clear st1
 go_wp2_with (with_reducible refine wSk 4 ?_)
 refine a0a st2 rfl rfl (z := zAd) ap11 (cw 4 0) ap9 ?_
 intro g4 w3 st3
 clear st2
 go_wp2_with (with_reducible refine wSk 6 ?_)
 refine a0a st3 rfl rfl (z := zAd) ap11 (cw 4 0) ap9 ?_
 intro g6 w4 st4
 clear st3
 go_wp2
 go_loopw [7] (fun i wr => ∃ k : Nat, k ≤ 254 ∧ i = .int .i64 (k : Int) ∧ St Nob w wr [(g2, cw 4 p ++ cw 4 (B64 ^ 4 - p), 72), (g3, cw 4 a, 68), (g4, cw 4 0, 68), (g6, cw 4 (p / 4 % 2 ^ k), 68)]) (fun i _ => 254 - (intOf i).toNat)
 case atStart => exact ⟨0, by omega, rfl, by rw [Nat.pow_zero, Nat.mod_one]; exact st4⟩
 case round =>
  obtain ⟨k, hk, rfl, st⟩ := hrel
  clear st4
  by_cases hlt : k < 254
  ·have hltI : (k : Int) < 254 := by omega
   have hstep := k0N 4 (p / 4 % 2 ^ k) k (p / 2 ^ (k + 2) % 2) (Nat.mod_lt _ (Nat.pow_pos ap12)) (Nat.mod_lt _ ap12) ap13
   rw [← f0a] at hstep
   have hbit := fun wx => g0o p (k + 2) wx ap13
   have hb2 : p / 2 ^ (k + 2) % 2 < 2 := Nat.mod_lt _ ap12
   generalize p / 2 ^ (k + 2) % 2 = b at *
   generalize hq' : p / 4 % 2 ^ (k + 1) = q' at *
   have HQ := Lib.hid hq'
   clear hq'
   generalize p / 4 % 2 ^ k = q at *
   have HCELL := Lib.hid (l0i q b k q' hb2 hstep)
   have HBIT := Lib.hid hbit
   clear hstep hbit hb2
   have hlo : (0 : Int) ≤ (k : Int) / 64 ∧ (k : Int) / 64 < 4 := by omega
   have hlo2 : (0 : Int) ≤ (k : Int) % 64 ∧ (k : Int) % 64 < 64 := by omega
   have e1 : IntKind.i64.wrap ((k : Int) / 64) = (k : Int) / 64 := IntWalk.i64_in _ ap13
   have e2 : (k : Int).tmod 64 = (k : Int) % 64 := Int.tmod_eq_emod_of_nonneg ap13
   have e3 : IntKind.i64.wrap ((k : Int) + 2) = (k : Int) + 2 := IntWalk.i64_in _ ap13
   have e4 : ((k : Int) / 64).toNat = k / 64 := by omega
   have e5 : ((k : Int) % 64).toNat = k % 64 := by omega
   go_wp2_with fail
   refine wp_region_noPanic ?_
   refine a0o (fun wx => St Nob w wx [(g2, cw 4 p ++ cw 4 (B64 ^ 4 - p), 72), (g3, cw 4 a, 68), (g4, cw 4 0, 68), (g6, cw 4 q, 68)]) 16 (.w 0 (.w 1 (.w 2 (.w 3 (.w 4 (.t 5 (.w 6 (.t 7 (.w 8 (.w 9 (.w 11 (.w 12 (.r 10 (.w 13 (.w 14 (.w 15 (.m 16 .nil))))))))))))))))) ap11 ap11 st.drew (fun _ _ _ _ _ h => h) ?_
   have hd4 := st.drew
   clear st
   refine a0k rfl rfl apW ?_
   try simp only [clL]
   refine a0k rfl rfl apW ?_
   try simp only [clL]
   refine a0k rfl rfl apW ?_
   try simp only [clL]
   refine a0k rfl rfl apW ?_
   try simp only [clL]
   refine a0k rfl rfl apW ?_
   try simp only [clL]
   refine d0T (v := ?_) rfl rfl (fun wx hS => ?_) ?_
   rotate_left 1
   ·(have hc := (St.at hS 3 rfl).cell (a0D 4 q (k / 64) ap13); clear hS; go_simp; with_reducible rfl)
   try simp only [clL]
   refine a0k rfl rfl apW ?_
   try simp only [clL]
   refine a0s rfl rfl rfl rfl (cw 4 p) (fun wx hS => St.rangeL hS 0 rfl 0 _ (g0P 4 4 _ _)) Tryz.underlying68 rfl ap4 ?_
   try simp only [clL]
   refine a0k rfl rfl apW ?_
   try simp only [clL]
   refine a0k rfl rfl apW ?_
   try simp only [clL]
   refine a0k rfl rfl apW ?_
   try simp only [clL]
   refine a0k rfl rfl apW ?_
   try simp only [clL]
   refine a0y rfl rfl ?_
   go_simp
   refine (HBIT.out _).mono ?_
   rintro e' w5 ⟨rfl, hf5⟩
   have st5 := hd4.keep hf5
   clear hf5
   clear hd4
   refine ⟨st5, ?_⟩
   try simp only [clL]
   refine a0k rfl rfl apW ?_
   try simp only [clL]
   refine a0k rfl rfl apW ?_
   try simp only [clL]
   refine a0k rfl rfl apW ?_
   try simp only [clL]
   refine a0r rfl rfl ?_
   have f1 := (st5.at 3 rfl).free (k / 64) (by rw [a0e]; omega)
   have c1 := (st5.at 3 rfl).cell (a0D 4 q (k / 64) ap13)
   go_simp
   have st6 := st5.set 3 rfl (k / 64) (.int .u64 (bits .or .u64 (lw q (k / 64) : Nat) (IntKind.u64.wrap ((b : Int) * 2 ^ (k % 64)))))
   simp only [List.set_cons_zero, List.set_cons_succ] at st6
   rw [HCELL.out] at st6
   clear f1 c1 st5
   try simp only [clL]
   refine a0j ?_
   refine NoPanic.normal ?_
   go_wp2
   go_roundw
   case rel => exact ⟨k + 1, by omega, by go_num, by rw [HQ.out]; exact st6⟩
   case measure => simp [intOf]; omega
  ·have hge : ¬ ((k : Int) < 254) := by omega
   have hk2 : k = 254 := by omega
   rw [hk2, f0N p HP.out] at st
   clear hk2
   generalize p / 4 = Q at *
   have c1 := (st.at 3 rfl).cell (a0D 4 Q 0 ap12)
   have f1 := (st.at 3 rfl).free 0 (by rw [a0e]; decide)
   have st9 := st.set 3 rfl 0 (.int .u64 ((lw Q 0 : Int) + 1))
   have hlow := HLOW.out
   have e1 : IntKind.u64.wrap ((lw Q 0 : Int) + 1) = (lw Q 0 : Int) + 1 := IntWalk.u64_in _ ap13
   clear st
   go_wp2_with (with_reducible refine wSk 33 ?_)
   simp only [List.set_cons_zero, List.set_cons_succ] at st9
   rw [HLC.out] at st9
   clear c1 f1 hlow e1
   refine a0m st9 0 rfl rfl rfl Tryz.underlying72 rfl rfl ap4 ?_
   go_wp2_with (with_reducible refine wSk 34 ?_)
   refine a0i st9 1 rfl rfl rfl Tryz.underlying68 rfl ap4 ?_
   go_wp2_with (with_reducible refine wSk 35 ?_)
   refine a0i st9 3 rfl rfl rfl Tryz.underlying68 rfl ap4 ?_
   go_wp2_with fail
   refine (HPOW.out _).mono ?_
   rintro e' w10 ⟨rfl, hf10⟩
   have st10 := st9.keep hf10
   clear st9 hf10
   go_wp2_with (with_reducible refine wSk 8 ?_)
   refine a0a st10 rfl rfl (z := zAd) ap11 (cw 4 0) ap9 ?_
   intro g8 w11 st11
   clear st10
   go_wp2_with (with_reducible refine wSn ?_)
   refine a0b st11 4 rfl rfl rfl rfl rfl ap5 ap4 (a0g _ _) ?_
   intro w12 st12
   clear st11
   go_wp2_with fail
   refine wp_region_noPanic ?_
   refine a0o (fun wx => St Nob w wx [(g2, cw 4 p ++ cw 4 (B64 ^ 4 - p), 72), (g3, cw 4 a, 68), (g4, cw 4 0, 68), (g6, cw 4 n, 68), (g8, cw 4 R, 68)]) 5 (.t 0 (.t 1 (.t 2 (.t 4 (.r 3 (.m 5 .nil)))))) ap11 ap11 st12.drew (fun _ _ _ _ _ h => h) ?_
   have hd12 := st12.drew
   clear st12
   refine a0s rfl rfl rfl rfl (cw 4 p ++ cw 4 (B64 ^ 4 - p)) (fun wx hS => St.rangeL hS 0 rfl 0 _ dZl) Tryz.underlying72 rfl ap4 ?_
   try simp only [clL]
   refine a0s rfl rfl rfl rfl (cw 4 R) (fun wx hS => St.rangeL hS 4 rfl 0 _ dZl) Tryz.underlying68 rfl ap4 ?_
   try simp only [clL]
   refine a0s rfl rfl rfl rfl (cw 4 R) (fun wx hS => St.rangeL hS 4 rfl 0 _ dZl) Tryz.underlying68 rfl ap4 ?_
   try simp only [clL]
   refine a0s rfl rfl rfl rfl (cw 4 a) (fun wx hS => St.rangeL hS 1 rfl 0 _ dZl) Tryz.underlying68 rfl ap4 ?_
   try simp only [clL]
   refine a0y rfl rfl ?_
   go_simp
   refine (g0S p R R _ HP0.out HP.out HR4.out HR4.out).mono ?_
   rintro e' w13 ⟨rfl, hf13⟩
   have st13 := hd12.keep hf13
   clear hf13
   clear hd12
   refine ⟨st13, ?_⟩
   try simp only [clL]
   refine a0r rfl rfl ?_
   refine o0i (R * R % p) a HRR.out HA.out 68 Tryz.underlying68 Tryz.eqGuardType68 rfl rfl rfl HB.out ?_
   try simp only [clL]
   refine a0j ?_
   refine NoPanic.normal ?_
   have c1 := (st13.at 4 rfl).cell (a0D 4 R 0 ap12)
   have hla := i0A R
   rw [HPAR.out] at hla
   go_wp2_with (with_reducible refine wSk 48 ?_)
   refine a0m st13 0 rfl rfl rfl Tryz.underlying72 rfl rfl ap4 ?_
   go_wp2_with (with_reducible refine wSk 49 ?_)
   refine a0i st13 4 rfl rfl rfl Tryz.underlying68 rfl ap4 ?_
   go_wp2_with fail
   refine (n0F p R _ HRP.out HP.out HR4.out).mono ?_
   rintro e' w14 ⟨rfl, hf14⟩
   have st14 := st13.keep hf14
   clear st13 hf14
   go_wp2_with (with_reducible refine wSn ?_)
   refine a0b st14 4 rfl rfl rfl rfl rfl ap5 ap4 (a0g _ _) ?_
   intro w15 st15
   clear st14
   go_wp2_with (with_reducible refine wSk 51 ?_)
   refine a0i st15 4 rfl rfl rfl Tryz.underlying68 rfl ap4 ?_
   go_wp2_with (with_reducible refine wSn ?_)
   refine a0b st15 2 rfl rfl rfl rfl rfl ap5 ap4 (a0g _ _) ?_
   intro w16 st16
   clear st15
   have hr := st16.at 2 rfl
   have hfr := st16.fr
   clear st16
   go_wp2_with fail
   exact bodyPost_ret (a0V rfl rfl hr Tryz.underlying68 ap4 rfl) rfl ⟨rfl, hfr⟩
end Go.Proofs.YtmebmhjppmfbbaaGreat


set_option maxHeartbeats 16000000
set_option maxRecDepth 1000000
namespace Go.Proofs.YtmebmhjppmfbbaaGreat
open Go.RowKit Go.Mv Mvp
theorem B0P {k : Int} {m : Md} (h : KindOf k m) : lw (m.M / 4) 0 + 1 < 18446744073709551616 := by
 cases h
 ·decide
 ·decide
theorem w0H (p a : Nat) (w : World) (hp1 : 1 < p) (hp : p < B64 ^ 4) (ha : a < p) (hlow : lw (p / 4) 0 + 1 < 18446744073709551616) (hr : b0Q p a = true) :
  Calls Tryz.prog 183 #[fv p, i4 a] w fun e w' => e = .returned (.tuple #[i4 (rtV p a % p), .bool true]) ∧ Fr Nob w w' := by
 unfold b0Q at hr
 unfold rtV
 unfold rtN at *
 have hn4 : p / 4 + 1 < B64 ^ 4 := by omega
 generalize hn : p / 4 + 1 = n at *
 have hpow := fun wx => s0x p a n wx hp1 hp (Nat.lt_trans ha hp) hn4
 have hR : a ^ n % p < p := Nat.mod_lt _ ap13
 rw [Nat.mul_mod, Nat.mod_eq_of_lt ha] at hr
 have hsame : a ^ n % p = a ^ n % p % p := (Nat.mod_mod _ _).symm
 generalize hRR : a ^ n % p = R at *
 have hb : decide (R * R % p = a) = true := by simpa using hr
 by_cases hpar : R % 2 = 1
 ·rw [if_pos hpar]
  exact t0K p a n R w ap13 hp hn hn4 (Nat.lt_trans ha hp) hlow hR hpow hb hpar
 ·rw [if_neg hpar, hRR]
  exact r0c p a n R w ap13 hp hn hn4 (Nat.lt_trans ha hp) hlow hR hpow hb ap13
theorem t0L (p a : Nat) (w : World) (hp1 : 1 < p) (hp : p < B64 ^ 4) (ha : a < p) (hlow : lw (p / 4) 0 + 1 < 18446744073709551616) (hr : b0Q p a = false) :
  Calls Tryz.prog 183 #[fv p, i4 a] w fun e w' => e = .returned (.tuple #[i4 0, .bool false]) ∧ Fr Nob w w' := by
 unfold b0Q at hr
 unfold rtN at *
 have hn4 : p / 4 + 1 < B64 ^ 4 := by omega
 generalize hn : p / 4 + 1 = n at *
 have hpow := fun wx => s0x p a n wx hp1 hp (Nat.lt_trans ha hp) hn4
 have hR : a ^ n % p < p := Nat.mod_lt _ ap13
 rw [Nat.mul_mod, Nat.mod_eq_of_lt ha] at hr
 generalize hRR : a ^ n % p = R at *
 have hb : decide (R * R % p = a) = false := by simpa using hr
 exact w0G p a n R w ap13 hp hn hn4 (Nat.lt_trans ha hp) hlow hR hpow hb
attribute [local irreducible] a0E lw mix cw b0o b0x b0l a0L a0q beN b0F b0c b0z a0J a0N elN mdL b0e b0B rtN b0Q rtV
end Go.Proofs.YtmebmhjppmfbbaaGreat


set_option maxHeartbeats 16000000
set_option maxRecDepth 1000000
namespace Go.Proofs.YtmebmhjppmfbbaaGreat
open Go.RowKit Go.Mv Mvp Mvq
def kN (a : K) : Nat := a.val
theorem mPM : mP.M = fP := s0T
theorem o0j (a : K) : kN a < mP.M := by rw [mPM]; exact a.isLt
theorem f0D (a : K) : kN a < B64 ^ 4 := Nat.lt_trans (o0j a) c0w.lt
theorem m0S (n : Nat) : kN (kc n) = n % fP := rfl
theorem o0k (a : K) : kc (kN a) = a := by
 apply Fin.ext
 show a.val % fP = a.val
 exact Nat.mod_eq_of_lt a.isLt
theorem x0P {a b : K} (h : kN a = kN b) : a = b := Fin.ext h
theorem hK0 : KindOf 0 mP := .zero
theorem a0H (w : World) : Calls Tryz.prog 122 #[] w fun e w' => e = .returned (fv mP.M) ∧ Fr Nob w w' := by
 go_enter Tryz.func122, Tryz.ntmps122
 have st0 := St.start Nob w
 go_wp2_with (with_reducible refine wSk 0 ?_)
 refine a0a st0 rfl rfl (z := .agg #[.int .u64 0, .int .u64 0, .int .u64 0, .int .u64 0, .int .u64 0, .int .u64 0, .int .u64 0, .int .u64 0]) ap11 (cw 8 0) ap9 ?_
 intro g0 w1 st1
 clear st0
 go_wp2_with fail
 refine (B0c hK0 _).mono ?_
 rintro e' w2 ⟨rfl, hf2⟩
 have st2 := st1.keep hf2
 clear st1 hf2
 go_wp2_with (with_reducible refine wSn ?_)
 refine a0b st2 0 rfl rfl rfl rfl (cs := cw 4 mP.M ++ cw 4 (B64 ^ 4 - mP.M)) rfl ap5 ap4 (k0F _ _ _ _) ?_
 intro w3 st3
 clear st2
 have hr := st3.at 0 rfl
 have hfr := st3.fr
 clear st3
 go_wp2_with fail
 exact bodyPost_ret (a0t rfl rfl hr Tryz.underlying72 rfl ap4) rfl ⟨rfl, hfr⟩
theorem d0P (a b r : K) (hr : a * b = r) (w : World) : Calls Tryz.prog 54 #[fv mP.M, i4 (kN a), i4 (kN b)] w fun e w' => e = .returned (i4 (kN r)) ∧ Fr Nob w w' := by
 have h := g0S mP.M (kN a) (kN b) w (by have := c0w.one; omega) c0w.lt (f0D a) (f0D b)
 have e : kN a * kN b % mP.M = kN r := by rw [mPM, ← m0S, a0F, o0k, o0k, hr]
 rwa [e] at h
theorem z0L (a b r : K) (hr : a + b = r) (w : World) : Calls Tryz.prog 53 #[fv mP.M, i4 (kN a), i4 (kN b)] w fun e w' => e = .returned (i4 (kN r)) ∧ Fr Nob w w' := by
 have h := s0t mP.M (kN a) (kN b) w (by have := c0w.one; omega) c0w.lt (f0D a) (f0D b)
 have e : (kN a + kN b) % mP.M = kN r := by rw [mPM, ← m0S, g0Y, o0k, o0k, hr]
 rwa [e] at h
theorem w0I (a b r : K) (hr : a - b = r) (w : World) : Calls Tryz.prog 133 #[fv mP.M, i4 (kN a), i4 (kN b)] w fun e w' => e = .returned (i4 (kN r)) ∧ Fr Nob w w' := by
 have hb := Nat.mod_eq_of_lt (o0j b)
 refine C0X mP.M (kN a) (kN b) (kN r) w (by have := c0w.one; omega) c0w.lt (f0D a) (f0D b) (Nat.le_of_lt (o0j b)) ?_
 rw [← hb, mPM, ← m0S, c0Y, o0k, o0k, hr]
theorem D0w (a r : K) (hr : -a = r) (w : World) : Calls Tryz.prog 138 #[fv mP.M, i4 (kN a)] w fun e w' => e = .returned (i4 (kN r)) ∧ Fr Nob w w' := by
 have h := n0F mP.M (kN a) w (Nat.le_of_lt (o0j a)) c0w.lt (f0D a)
 have hb := Nat.mod_eq_of_lt (o0j a)
 have e : (mP.M - kN a) % mP.M = kN r := by
  rw [← hb, mPM, ← m0S, n0S, o0k, hr]
 rwa [e] at h
theorem B0Q (a : K) (b : Bool) (hb : decide (a = 0) = b) (w : World) : Calls Tryz.prog 116 #[i4 (kN a)] w fun e w' => e = .returned (.bool b) ∧ Fr Nob w w' := by
 have h := o0U (kN a) w (f0D a)
 have e : decide (kN a = 0) = b := by
  rw [← hb, Bool.eq_iff_iff, decide_eq_true_eq, decide_eq_true_eq]
  exact ⟨fun h => x0P (h.trans rfl), fun h => by rw [h]; rfl⟩
 rwa [e] at h
theorem o0l (w : World) : Calls Tryz.prog 152 #[.int .u64 1] w fun e w' => e = .returned (i4 (kN 1)) ∧ Fr Nob w w' := i0v 1 w ap12
theorem t0M (w : World) : Calls Tryz.prog 152 #[.int .u64 7] w fun e w' => e = .returned (i4 (kN 7)) ∧ Fr Nob w w' := i0v 7 w ap12
theorem t0N (x y : K) {b : Bool} (hb : decide (x = y) = b) (w : World) : (Op.equal 68 (.agg (cw 4 (kN x)).toArray) (.agg (cw 4 (kN y)).toArray)).run Tryz.prog w = .ok b w := by
 rw [z0E (kN x) (kN y) (f0D x) (f0D y) w]
 congr 1
 rw [← hb, Bool.eq_iff_iff, beq_iff_eq, decide_eq_true_eq]
 exact ⟨x0P, fun h => by rw [h]⟩
theorem e0p (x y : K) {o : Oper} {a : Act} {p q : Operand} {T : TypeId} (ho : o.op = .binOp .eql 68 p q T) (hp : a.eval p = i4 (kN x)) (hq : a.eval q = i4 (kN y)) {b : Bool} (hb : decide (x = y) = b) (w : World) :
  (execOp a.eval o).run Tryz.prog w = .ok (.value (.bool b)) w :=
 e0n ho hp hq w (run_eqGuard_agg w .eql 68 p q _ _ Tryz.eqGuardType68) (f0b w (t0N x y hb w))
theorem z0M (n : Nat) (hn : n < mP.M) (hr : b0Q fP n = true) (w : World) : Calls Tryz.prog 183 #[fv mP.M, i4 n] w fun e w' => e = .returned (.tuple #[i4 (kN (kc (rtV fP n))), .bool true]) ∧ Fr Nob w w' := by
 have h := w0H mP.M n w c0w.one c0w.lt hn (B0P hK0) (by rw [mPM]; exact hr)
 rw [mPM, ← m0S, ← mPM] at h
 exact h
theorem z0N (n : Nat) (hn : n < mP.M) (hr : b0Q fP n = false) (w : World) : Calls Tryz.prog 183 #[fv mP.M, i4 n] w fun e w' => e = .returned (.tuple #[i4 (kN 0), .bool false]) ∧ Fr Nob w w' :=
 t0L mP.M n w c0w.one c0w.lt hn (B0P hK0) (by rw [mPM]; exact hr)
end Go.Proofs.YtmebmhjppmfbbaaGreat
