/- ; ; ; ; ; ; ; ; ; ; ; ; ; ; ; ; ; . -/
import Derived.Test.YtemcankmggmgoaaGreatDoorMgKeysSetsProof7
import Derived.Test.YtemcankmggmgoaaGreatDoorMgKeysSetsProof5
import Derived.Test.YtemcankmggmgoaaGreatDoorMgKeysSetsProof4
import Derived.Test.YtemcankmggmgoaaGreatDoorMgKeysSetsProof3
import Derived.Test.YtemcankmggmgoaaGreatDoorMgKeysSetsProof1
import Derived.Test.YtemcankmggmgoaaGreatDoorMgKeysSetsProof2
import Derived.Test.YtemcankmggmgoaaGreatDoorMgKeysSetsProof6
set_option maxHeartbeats 16000000
set_option maxRecDepth 1000000

namespace Go.Proofs.YtemcankmggmgoaaGreatDoor
open Go.RowKit Go.Mv Mvp Mvq
theorem p0g {gp : Nat} : ((e0A mP gp gXn gYn).drop 5).take o0Z.L.length = o0Z.L := t0o mP gp gXn gYn
theorem l0i : (Tryz.prog.info? 24).map (fun i => (i.zero, i.size, i.bytes)) = some (some (.slice none 0 0), 1, 24) := by kernel_rfl
attribute [local irreducible] a0J lw mix cw b0t b0G b0q a0P a0u beN laid b0o b0H a0M a0V elN mdL b0R rtN rtV c0E gXn gYn PT.L p0s o0Y f0G tbL tmR tmL dbN j0N i0w p0c dig rdT f0p j0v ptL i0y j0D d0U
theorem r0I (vk va : Value) (lk la : List UInt8) (w : World) (hpk : BPart w vk lk) (hpa : BPart w va la) (hk : b0R mQ lk = true) (hg : j0D [la] = true) :
  Calls Tryz.prog 15 #[vk, va] w fun e w' => ∃ v, e = .returned (.tuple #[v, .int .i64 0]) ∧ Own w' w.heap.size 5 1 v 33 (bs (d0U (p0c [(beN lk, rdT la)]).pt)) ∧ Fr Nob w w' := by
 have HP := qH (BParts.one hpa)
 have HA1 := qH (BPart.one hpa)
 have HK := qH hk
 obtain ⟨ak, nk, ck, rfl, -, hrk⟩ := hpk
 have HRK := qH hrk
 have HG := qH hg
 clear hg hpa hk hrk
 have st0 := St.start Nob w
 go_enter Tryz.func15, Tryz.ntmps15
 go_wp2_with fail
 refine (n0N HK.out ak nk ck _ (HRK.out.still st0.fr)).mono ?_
 rintro e' w1 ⟨rfl, hf1⟩
 have st1 := st0.keep hf1
 clear st0 hf1
 go_wp2_with (with_reducible refine wSk 6 ?_)
 refine a0b st1 rfl rfl (z := zAd) (by kernel_rfl) (cw 4 0) (by rw [a0f]; rfl) ?_
 intro gk w2 st2
 clear st1
 go_wp2_with (with_reducible refine wSn ?_)
 refine a0d st2 0 rfl rfl rfl rfl rfl (by first | (simp only [a0a]; done) | (simp only [List.length_append, a0a, PT.len, a0N]; done)) (by first | (rw [a0a]; kernel_rfl) | (rw [PT.len]; kernel_rfl) | (rw [a0N]; kernel_rfl) | (simp only [List.length_append, a0a]; kernel_rfl) | (simp only [List.length_append, a0a, PT.len, a0N]; kernel_rfl)) (a0i _ _) ?_
 intro w3 st3
 clear st2
 have HKN := qH (st3.at 0 rfl)
 have HF1 := qH st3.fr
 clear st3
 go_wp2_with (with_reducible refine wSk 17 ?_)
 refine c0e (vs := [va]) (hgd := rfl) (ho := rfl) (hu := Tryz.underlying33) (hi0 := l0i) (hp := by rfl) (hv := (fun v hv => by simp at hv; subst hv; exact HA1.out)) (hk := by rfl) (hz := by rfl) (h := ?_)
 intro wS hgS hfS hzS
 clear hzS
 generalize w3.heap.size = gl at *
 have HF2 := qH (HF1.out.then hfS)
 have HKN2 := qH (HKN.out.keep hfS id)
 have HRD := qH (show Rd wS (some ⟨gl, 0, none⟩) 1 [va] from Rd.whole hgS)
 clear hgS hfS HF1 HKN
 go_wp2_with fail
 refine (j0F gk _ 1 1 [va] [la] _ HRD.out (HP.out.still HF2.out) (by decide) HG.out (p0c [(beN lk, rdT la)]) (fun ap cp wx hfx hrx => t0Y la wx (beN lk) gk (HKN2.out.keep hfx id) ap cp hrx)).mono ?_
 rintro e wE ⟨v, rfl, hown, hfE⟩
 have h3 := HF2.out.then hfE
 have ho := hown.mono HF2.out.size
 clear hown hfE HF2
 go_wp2_with fail
 go_ret2
 exact ⟨v, rfl, ho, h3⟩
theorem m0v (vk va : Value) (lk la : List UInt8) (w : World) (hpk : BPart w vk lk) (hpa : BPart w va la) (hk : b0R mQ lk = true) (hg : j0D [la] = false) :
  Calls Tryz.prog 15 #[vk, va] w fun e w' => e = .returned (.tuple #[.slice none 0 0, .int .i64 4]) ∧ Fr Nob w w' := by
 have HP := qH (BParts.one hpa)
 have HA1 := qH (BPart.one hpa)
 have HK := qH hk
 obtain ⟨ak, nk, ck, rfl, -, hrk⟩ := hpk
 have HRK := qH hrk
 have HG := qH hg
 clear hg hpa hk hrk
 have st0 := St.start Nob w
 go_enter Tryz.func15, Tryz.ntmps15
 go_wp2_with fail
 refine (n0N HK.out ak nk ck _ (HRK.out.still st0.fr)).mono ?_
 rintro e' w1 ⟨rfl, hf1⟩
 have st1 := st0.keep hf1
 clear st0 hf1
 go_wp2_with (with_reducible refine wSk 6 ?_)
 refine a0b st1 rfl rfl (z := zAd) (by kernel_rfl) (cw 4 0) (by rw [a0f]; rfl) ?_
 intro gk w2 st2
 clear st1
 go_wp2_with (with_reducible refine wSn ?_)
 refine a0d st2 0 rfl rfl rfl rfl rfl (by first | (simp only [a0a]; done) | (simp only [List.length_append, a0a, PT.len, a0N]; done)) (by first | (rw [a0a]; kernel_rfl) | (rw [PT.len]; kernel_rfl) | (rw [a0N]; kernel_rfl) | (simp only [List.length_append, a0a]; kernel_rfl) | (simp only [List.length_append, a0a, PT.len, a0N]; kernel_rfl)) (a0i _ _) ?_
 intro w3 st3
 clear st2
 have HKN := qH (st3.at 0 rfl)
 have HF1 := qH st3.fr
 clear st3
 go_wp2_with (with_reducible refine wSk 17 ?_)
 refine c0e (vs := [va]) (hgd := rfl) (ho := rfl) (hu := Tryz.underlying33) (hi0 := l0i) (hp := by rfl) (hv := (fun v hv => by simp at hv; subst hv; exact HA1.out)) (hk := by rfl) (hz := by rfl) (h := ?_)
 intro wS hgS hfS hzS
 clear hzS
 generalize w3.heap.size = gl at *
 have HF2 := qH (HF1.out.then hfS)
 have HKN2 := qH (HKN.out.keep hfS id)
 have HRD := qH (show Rd wS (some ⟨gl, 0, none⟩) 1 [va] from Rd.whole hgS)
 clear hgS hfS HF1 HKN
 go_wp2_with fail
 refine (h0V gk _ 1 1 [va] [la] _ HRD.out (HP.out.still HF2.out) (by decide) HG.out).mono ?_
 rintro e wE ⟨rfl, hfE⟩
 have h3 := HF2.out.then hfE
 clear hfE HF2
 go_wp2_with fail
 go_ret2
 exact ⟨rfl, h3⟩
theorem m0w (vk va : Value) (lk la : List UInt8) (w : World) (hpk : BPart w vk lk) (hpa : BPart w va la) (hk : b0R mQ lk = false) :
  Calls Tryz.prog 15 #[vk, va] w fun e w' => e = .returned (.tuple #[.slice none 0 0, .int .i64 3]) ∧ Fr Nob w w' := by
 have HP := qH (BParts.one hpa)
 have HA1 := qH (BPart.one hpa)
 have HK := qH hk
 obtain ⟨ak, nk, ck, rfl, -, hrk⟩ := hpk
 have HRK := qH hrk
 clear hpa hk hrk
 have st0 := St.start Nob w
 go_enter Tryz.func15, Tryz.ntmps15
 go_wp2_with fail
 refine (t0Z HK.out ak nk ck _ (HRK.out.still st0.fr)).mono ?_
 rintro e' w1 ⟨⟨N, rfl⟩, hf1⟩
 have st1 := st0.keep hf1
 clear st0 hf1
 go_wp2_with (with_reducible refine wSk 6 ?_)
 refine a0b st1 rfl rfl (z := zAd) (by kernel_rfl) (cw 4 0) (by rw [a0f]; rfl) ?_
 intro gk w2 st2
 clear st1
 go_wp2_with (with_reducible refine wSn ?_)
 refine a0d st2 0 rfl rfl rfl rfl rfl (by first | (simp only [a0a]; done) | (simp only [List.length_append, a0a, PT.len, a0N]; done)) (by first | (rw [a0a]; kernel_rfl) | (rw [PT.len]; kernel_rfl) | (rw [a0N]; kernel_rfl) | (simp only [List.length_append, a0a]; kernel_rfl) | (simp only [List.length_append, a0a, PT.len, a0N]; kernel_rfl)) (a0i _ _) ?_
 intro w3 st3
 clear st2
 have hfr := st3.fr
 clear st3
 go_wp2_with fail
 go_ret2
 exact ⟨rfl, hfr⟩
theorem w0L (w : World) : Calls Tryz.prog 16 #[] w fun e w' => ∃ v, e = .returned v ∧ Own w' w.heap.size 5 1 v 33 (bs (d0U o0Z.pt)) ∧ Fr Nob w w' := by
 go_enter Tryz.func16, Tryz.ntmps16
 go_wp2_with fail
 refine (h0A _).mono ?_
 rintro e w1 ⟨gc, rfl, hle, hcv, hf1⟩
 have HCV := qH hcv
 have HF1 := qH hf1
 clear hle hcv hf1
 go_wp2_with fail
 refine (h0A _).mono ?_
 rintro e w2 ⟨gd, rfl, hle, ⟨gq, hc2, hm2⟩, hf2⟩
 have HCV2 := qH (HCV.out.keep hf2)
 have HF2 := qH (HF1.out.then hf2)
 clear hle hm2 hf2 HCV HF1
 go_wp2_with (with_reducible refine wSk 5 ?_)
 refine s0G rfl rfl Tryz.underlying78 rfl rfl (cs := o0Z.L) (fun i v hv => hc2.range 5 _ p0g i v hv) (by rw [PT.len]; kernel_rfl) ?_
 clear hc2
 go_wp2_with fail
 refine (r0H o0Z gc _ HCV2.out).mono ?_
 rintro e w3 ⟨v, rfl, hown, hf3⟩
 have h3 := HF2.out.then hf3
 have ho := hown.mono HF2.out.size
 clear hown hf3 HF2 HCV2
 go_wp2_with fail
 go_ret
 exact ⟨v, rfl, ho, h3⟩
end Go.Proofs.YtemcankmggmgoaaGreatDoor
namespace Mvq
theorem l0j : ∀ (l : List (Nat × Pt)) (n : Nat) (p : Pt), (∀ t ∈ l, onC t.2) → onC p → h0x (l ++ [(n, p)]) = b0d (h0x l) (b0D n p)
 | [], n, p, _, _ => by show b0d (b0D n p) .O = b0d .O (b0D n p); rw [b0U]; rfl
 | (k, q) :: l, n, p, h, hp => by
  have hl : ∀ t ∈ l, onC t.2 := fun t ht => h t (List.mem_cons_of_mem _ ht)
  show b0d (b0D k q) (h0x (l ++ [(n, p)])) = b0d (b0d (b0D k q) (h0x l)) (b0D n p)
  rw [l0j l n p hl hp, a0R (b0x (h (k, q) (by simp)) k) (h0y l hl) (b0x hp n)]
end Mvq
namespace Go.Proofs.YtemcankmggmgoaaGreatDoor
open Go.RowKit Go.Mv Mvp Mvq
noncomputable def n0O (l : List (Nat × PT)) : List (Nat × Pt) := l.map fun t => (t.1, t.2.pt)
theorem r0J (l : List (Nat × PT)) : ∀ t ∈ n0O l, onC t.2 := by
 intro t ht
 obtain ⟨u, _, rfl⟩ := List.mem_map.1 ht
 exact u.2.onP
theorem r0K (l : List (Nat × PT)) (i : Nat) (o : PT) : ∀ k, k ≤ l.length → (j0N l i o k).pt = b0d o.pt (h0x ((n0O (l.take k)).map fun t => (dig (63 - i) t.1, t.2)))
 | 0, _ => by show o.pt = b0d o.pt .O; rw [b0U]
 | k + 1, h => by
  have ih := r0K l i o k (by omega)
  have hk : k < l.length := by omega
  have e : l.take (k + 1) = l.take k ++ [g0p l k] := by
   rw [List.take_succ_eq_append_getElem hk]
   simp [g0p, List.getD_eq_getElem?_getD, hk]
  have hon : ∀ t ∈ (n0O (l.take k)).map (fun t => (dig (63 - i) t.1, t.2)), onC t.2 := by
   intro t ht
   obtain ⟨u, hu, rfl⟩ := List.mem_map.1 ht
   exact r0J _ u hu
  rw [e, n0O, List.map_append, List.map_append, ← n0O]
  show (p0s (j0N l i o k) (f0G (g0p l k).2 (dig (63 - i) (g0p l k).1))).pt = b0d o.pt (h0x ((n0O (l.take k)).map (fun t => (dig (63 - i) t.1, t.2)) ++ [(dig (63 - i) (g0p l k).1, (g0p l k).2.pt)]))
  rw [r0o, r0t, ih, l0j _ _ _ hon (g0p l k).2.onP, a0R o.onP (h0y _ hon) (b0x (g0p l k).2.onP _)]
theorem r0L (l : List (Nat × PT)) (hn : ∀ t ∈ l, t.1 < 16 ^ 64) : ∀ i, i ≤ 64 → (i0w l i).pt = h0x (p0q (64 - i) (n0O l))
 | 0, _ => by
  show noT.pt = _
  rw [r0q]
  have : ∀ l : List (Nat × PT), (∀ t ∈ l, t.1 < 16 ^ 64) → h0x (p0q 64 (n0O l)) = .O := by
   intro l
   induction l with
   | nil => intro _; rfl
   | cons t l ih =>
    intro h
    show b0d (b0D (t.1 / 16 ^ 64) t.2.pt) (h0x (p0q 64 (n0O l))) = .O
    rw [Nat.div_eq_of_lt (h t (by simp)), ih fun u hu => h u (List.mem_cons_of_mem _ hu)]
    rfl
  exact (this l hn).symm
 | i + 1, h => by
  have ih := r0L l hn i (by omega)
  show (j0N l i (dbN (i0w l i) 4) l.length).pt = _
  rw [r0K l i _ l.length (Nat.le_refl _), y0q _ rfl, ih, List.take_of_length_le (Nat.le_refl _)]
  have := k0X (63 - i) (n0O l) (r0J l)
  rw [show 63 - i + 1 = 64 - i by omega] at this
  rw [show 64 - (i + 1) = 63 - i by omega]
  exact this.symm
theorem w0M (l : List (Nat × PT)) (hn : ∀ t ∈ l, t.1 < 16 ^ 64) : (p0c l).pt = h0x (n0O l) := by
 have h := r0L l hn 64 (Nat.le_refl _)
 rw [Nat.sub_self] at h
 have e : p0q 0 (n0O l) = n0O l := by
  unfold p0q
  conv => rhs; rw [← List.map_id (n0O l)]
  refine List.map_congr_left fun t _ => ?_
  show (t.1 / 16 ^ 0, t.2) = t
  rw [Nat.pow_zero, Nat.div_one]
 rw [e] at h
 exact h
theorem Own.part {w : World} {base : Nat} {v : Value} {l : List UInt8} (h : Own w base 5 1 v l.length (bs l)) : BPart w v l := by
 obtain ⟨a, c, rfl, hc, hr, -⟩ := h.form
 exact ⟨a, _, c, rfl, hc, by rwa [Nat.mul_one] at hr⟩
def OwnB1 (w w' : World) (v : Value) (l : List UInt8) : Prop := Own w' w.heap.size 5 1 v l.length (bs l)
theorem OwnB1.part {w w' : World} {v : Value} {l : List UInt8} (h : OwnB1 w w' v l) : BPart w' v l := Own.part h
theorem OwnB1.nil (w w' : World) : OwnB1 w w' (.slice none 0 0) [] := Own.nil _ _ _ _
theorem OwnB1.of {w w' : World} {v : Value} {l : List UInt8} {n : Nat} (h : Own w' w.heap.size 5 1 v n (bs l)) (hn : l.length = n) : OwnB1 w w' v l := by subst hn; exact h
theorem q16 : mQ.M < 16 ^ 64 := by decide
noncomputable def tS (lk la : List UInt8) : List UInt8 := if b0R mQ lk && f0p la then d0U (b0D (beN lk) (j0v la)) else []
def tC (lk la : List UInt8) : Int := if b0R mQ lk then (if f0p la then 0 else 4) else 3
theorem n0P {l : List UInt8} (h : b0R mQ l = true) : beN l < mQ.M := by
 unfold b0R at h
 simp only [Bool.and_eq_true, decide_eq_true_eq] at h
 exact h.2
theorem u0a (vk va : Value) (lk la : List UInt8) (w : World) (hpk : BPart w vk lk) (hpa : BPart w va la) :
  Calls Tryz.prog 15 #[vk, va] w fun e w' => ∃ v, e = .returned (.tuple #[v, .int .i64 (tC lk la)]) ∧ OwnB1 w w' v (tS lk la) ∧ Fr Nob w w' := by
 unfold tS tC
 cases hk : b0R mQ lk
 ·exact (m0w vk va lk la w hpk hpa hk).mono fun e w' k => ⟨_, k.1, OwnB1.nil _ _, k.2⟩
 ·cases h : f0p la
  ·exact (m0v vk va lk la w hpk hpa hk (by simpa [j0D] using h)).mono fun e w' k => ⟨_, k.1, OwnB1.nil _ _, k.2⟩
  ·refine (r0I vk va lk la w hpk hpa hk (by simp [j0D, h])).mono fun e w' ⟨v, k1, k2, k3⟩ => ⟨v, k1, ?_, k3⟩
   have e1 : (p0c [(beN lk, rdT la)]).pt = b0D (beN lk) (j0v la) := by
    rw [w0M _ (by intro t ht; simp only [List.mem_singleton] at ht; subst ht; exact Nat.lt_trans (n0P hk) q16)]
    show b0d (b0D (beN lk) (rdT la).pt) .O = _
    rw [b0U, y0t h]
   rw [e1] at k2
   exact OwnB1.of k2 (f0o _)
def gP : Pt := .A (kc gXn) (kc gYn)
theorem w0N (w : World) : Calls Tryz.prog 16 #[] w fun e w' => ∃ v, e = .returned v ∧ OwnB1 w w' v (d0U gP) ∧ Fr Nob w w' :=
 (w0L w).mono fun e w' ⟨v, k1, k2, k3⟩ => ⟨v, k1, by rw [t0H] at k2; exact OwnB1.of k2 (f0o _), k3⟩
end Go.Proofs.YtemcankmggmgoaaGreatDoor
namespace Mvp
end Mvp
namespace Go.Proofs.YtemcankmggmgoaaGreatDoor
open Go.RowKit Go.Mv Mvp Mvq
def PtB (w : World) (a : Option Addr) (c : Nat) (p : Pt) : Prop := BPart w (.slice a 33 c) (d0U p)
theorem PtB.still {w w' : World} {a : Option Addr} {c : Nat} {p : Pt} (h : PtB w a c p) (hf : Fr Nob w w') : PtB w' a c p := BPart.still h hf
theorem PtB.of {w w' : World} {v : Value} {p : Pt} (h : OwnB1 w w' v (d0U p)) : ∃ a c, v = .slice a 33 c ∧ PtB w' a c p := by
 obtain ⟨a, n, c, rfl, hc, hr⟩ := h.part
 have : n = 33 := by have := hr.len; rw [f0o] at this; exact this.symm
 subst this
 exact ⟨a, c, rfl, a, 33, c, rfl, hc, hr⟩
theorem z0z : onC gP := by unfold gP; exact j0x
end Go.Proofs.YtemcankmggmgoaaGreatDoor
namespace Mvp
end Mvp
namespace Go.Proofs.YtemcankmggmgoaaGreatDoor
open Go.RowKit Go.Mv Mvp
attribute [local irreducible] a0J lw mix cw b0t b0G b0q a0P a0u beN laid b0o b0H a0M a0V elN mdL b0R
end Go.Proofs.YtemcankmggmgoaaGreatDoor
namespace Go.Mv
open Go.RowKit
theorem Has.ne {w : World} {g g' : Nat} {L L' : List Value} {T T' : TypeId} (h : Has w g L T) (h' : Has w g' L' T') (hT : T ≠ T') : g ≠ g' := by
 rintro rfl
 obtain ⟨_, _, h1, _⟩ := h
 obtain ⟨_, _, h2, _⟩ := h'
 rw [h1] at h2
 simp at h2
 exact hT h2.2.1
theorem Own.ne2 {w : World} {base base' sz sz' n n' : Nat} {T T' : TypeId} {v v' : Value} {L L' : List Value} (h : Own w base T sz v n L) (h' : Own w base' T' sz' v' n' L') (hT : T ≠ T') (k : Nat) (hk : c0o v k) : ¬ c0o v' k := by
 obtain ⟨_, ⟨rfl, _⟩ | ⟨g, o, cap, B, rfl, _, hg, _⟩⟩ := h'
 ·intro t; cases t
 ·intro t
  have e : g = k := by simpa [c0o, Value.ownBlock] using t
  subst e
  exact h.ne hg hT hk
end Go.Mv
namespace Go.Proofs.YtemcankmggmgoaaGreatDoor
section
open Go.RowKit Go.Mv Mvp
attribute [local irreducible] b0l b0B toB a0v a0I b0m c0h a0C c0i b0k a0G c0S
abbrev Tri : Type := Nat × Nat × List UInt8
variable {w w' : World} {base ga gb : Nat} {sa sb : List UInt8} {T : List Tri} {vk vw : Value} {Lk Lw : List Value}
end
section
open Go.RowKit Go.Mv Mvp Mvt
attribute [local irreducible] b0l b0B toB a0v a0I b0m c0h a0C c0i b0k a0G c0S
def POwn (w : World) (base : Nat) : List Value → List (List UInt8) → Prop
 | [], [] => True
 | v :: vs, l :: ls => Own w base 5 1 v l.length (bs l) ∧ POwn w base vs ls
 | _, _ => False
theorem POwn.len {w : World} {base : Nat} : ∀ {vs : List Value} {ls : List (List UInt8)}, POwn w base vs ls → vs.length = ls.length
 | [], [], _ => rfl
 | _ :: _, _ :: _, h => by simp only [List.length_cons]; rw [POwn.len h.2]
 | [], _ :: _, h => h.elim
 | _ :: _, [], h => h.elim
theorem POwn.keep {w w' : World} {base : Nat} {S : Nat → Prop} (hf : Fr S w w') : ∀ {vs : List Value} {ls : List (List UInt8)}, POwn w base vs ls → (∀ v n l, Own w base 5 1 v n (bs l) → ∀ k, c0o v k → ¬ S k) → POwn w' base vs ls
 | [], [], _, _ => trivial
 | _ :: _, _ :: _, h, hs => ⟨h.1.keep hf (hs _ _ _ h.1), POwn.keep hf h.2 hs⟩
 | [], _ :: _, h, _ => h.elim
 | _ :: _, [], h, _ => h.elim
theorem POwn.still {w w' : World} {base : Nat} {vs : List Value} {ls : List (List UInt8)} (h : POwn w base vs ls) (hf : Fr Nob w w') : POwn w' base vs ls := POwn.keep hf h (fun _ _ _ _ _ _ t => t)
theorem POwn.app {w w' : World} {base base' sz n : Nat} {vs : List Value} {ls : List (List UInt8)} (h : POwn w base vs ls) {q : Value} {T : TypeId} {L : List Value} (hq : Own w base' T sz q n L) (hT : 5 ≠ T) (hf : Fr (c0o q) w w') : POwn w' base vs ls :=
 POwn.keep hf h (fun _ _ _ ho k hk hk' => ho.ne2 hq hT k hk hk')
theorem POwn.snoc {w : World} {base : Nat} {v : Value} {l : List UInt8} (hv : Own w base 5 1 v l.length (bs l)) : ∀ {vs : List Value} {ls : List (List UInt8)}, POwn w base vs ls → POwn w base (vs ++ [v]) (ls ++ [l])
 | [], [], _ => ⟨hv, trivial⟩
 | _ :: _, _ :: _, h => ⟨h.1, POwn.snoc hv h.2⟩
 | [], _ :: _, h => h.elim
 | _ :: _, [], h => h.elim
theorem POwn.parts {w : World} {base : Nat} : ∀ {vs : List Value} {ls : List (List UInt8)}, POwn w base vs ls → (∀ x ∈ ls, x.length ≤ 1000000) → Parts w vs ls
 | [], [], _, _ => trivial
 | _ :: _, _ :: _, h, hx => ⟨c0y h.1 (hx _ (by simp)), POwn.parts h.2 (fun x hxm => hx x (by simp [hxm]))⟩
 | [], _ :: _, h, _ => h.elim
 | _ :: _, [], h, _ => h.elim
def LOwn (w : World) (base : Nat) (v : Value) (ls : List (List UInt8)) : Prop := ∃ vs, Own w base 24 1 v ls.length vs ∧ POwn w base vs ls
theorem LOwn.still {w w' : World} {base : Nat} {v : Value} {ls : List (List UInt8)} (h : LOwn w base v ls) (hf : Fr Nob w w') : LOwn w' base v ls := by
 obtain ⟨vs, h1, h2⟩ := h; exact ⟨vs, h1.still hf, h2.still hf⟩
theorem LOwn.parts {w : World} {base : Nat} {v : Value} {ls : List (List UInt8)} (h : LOwn w base v ls) (hx : ∀ x ∈ ls, x.length ≤ 1000000) : ∃ a c, v = .slice a ls.length c ∧ ls.length ≤ c ∧ PartsAt w a ls := by
 obtain ⟨vs, h1, h2⟩ := h
 obtain ⟨a, c, rfl, hc, hr, -⟩ := h1.form
 rw [Nat.mul_one] at hr
 exact ⟨a, c, rfl, hc, vs, hr, (h2.parts hx).get⟩
end
section
open Go.RowKit Go.Mv Mvp Mvt
attribute [local irreducible] b0l b0B toB a0v a0I b0m c0h a0C c0i b0k a0G c0S
theorem n0Q : (Tryz.prog.info? 5).map (fun i => (i.zero, i.size, i.bytes)) = some (some (.int .u8 0), 1, 1) := by kernel_rfl
def Sep (vs : List Value) : Prop := vs.Pairwise fun a b => ∀ k, c0o a k → ¬ c0o b k
theorem Sep.nil : Sep [] := List.Pairwise.nil
theorem POwn.get {w : World} {base : Nat} : ∀ {vs : List Value} {ls : List (List UInt8)}, POwn w base vs ls → ∀ (i : Nat) (v : Value), vs[i]? = some v → ∃ l, ls[i]? = some l ∧ Own w base 5 1 v l.length (bs l)
 | [], [], _, i, v, hv => by simp at hv
 | a :: vs, l :: ls, h, 0, v, hv => by simp at hv; subst hv; exact ⟨l, rfl, h.1⟩
 | a :: vs, l :: ls, h, i + 1, v, hv => by simp at hv; obtain ⟨l', h1, h2⟩ := POwn.get h.2 i v hv; exact ⟨l', by simpa using h1, h2⟩
 | [], _ :: _, h, _, _, _ => h.elim
 | _ :: _, [], h, _, _, _ => h.elim
theorem POwn.mem {w : World} {base : Nat} {vs : List Value} {ls : List (List UInt8)} (h : POwn w base vs ls) {v : Value} (hv : v ∈ vs) : ∃ l, l ∈ ls ∧ Own w base 5 1 v l.length (bs l) := by
 obtain ⟨i, hi⟩ := List.getElem?_of_mem hv
 obtain ⟨l, h1, h2⟩ := h.get i v hi
 exact ⟨l, List.mem_of_getElem? h1, h2⟩
theorem Sep.snoc {w w' : World} {base : Nat} {vs : List Value} {ls : List (List UInt8)} (h : Sep vs) (hp : POwn w base vs ls) {v : Value} {n : Nat} {L : List Value} {T : TypeId} (hv : Own w' w.heap.size T 1 v n L) : Sep (vs ++ [v]) := by
 unfold Sep at *
 rw [List.pairwise_append]
 refine ⟨h, by simp, fun a ha b hb k hk hk' => ?_⟩
 simp only [List.mem_singleton] at hb
 subst hb
 obtain ⟨l, _, ho⟩ := hp.mem ha
 have h1 := (ho.lt hk).2
 have h2 := (hv.lt hk').1
 omega
theorem POwn.mono {w : World} {base base' : Nat} (hb : base' ≤ base) : ∀ {vs : List Value} {ls : List (List UInt8)}, POwn w base vs ls → POwn w base' vs ls
 | [], [], _ => trivial
 | _ :: _, _ :: _, h => ⟨h.1.mono hb, POwn.mono hb h.2⟩
 | [], _ :: _, h => h.elim
 | _ :: _, [], h => h.elim
def SOwn (w : World) (base : Nat) (v : Value) (ls : List (List UInt8)) : Prop := ∃ vs, Own w base 24 1 v ls.length vs ∧ POwn w base vs ls ∧ Sep vs
theorem SOwn.nil (w : World) (base : Nat) : SOwn w base (.slice none 0 0) [] := ⟨[], Own.nil _ _ _ _, trivial, Sep.nil⟩
theorem SOwn.still {w w' : World} {base : Nat} {v : Value} {ls : List (List UInt8)} (h : SOwn w base v ls) (hf : Fr Nob w w') : SOwn w' base v ls := by
 obtain ⟨vs, h1, h2, h3⟩ := h; exact ⟨vs, h1.still hf, h2.still hf, h3⟩
theorem SOwn.lown {w : World} {base : Nat} {v : Value} {ls : List (List UInt8)} (h : SOwn w base v ls) : LOwn w base v ls := by
 obtain ⟨vs, h1, h2, h3⟩ := h; exact ⟨vs, h1, h2⟩
end
end Go.Proofs.YtemcankmggmgoaaGreatDoor
namespace Mvp
def lenV : Go.Value → Nat
 | .slice _ n _ => n
 | _ => 0
end Mvp
namespace Go.Proofs.YtemcankmggmgoaaGreatDoor
open Go.RowKit Go.Mv Mvp
theorem SOwn.mono {w : World} {base base' : Nat} {v : Value} {ls : List (List UInt8)} (h : SOwn w base v ls) (hb : base' ≤ base) : SOwn w base' v ls := by
 obtain ⟨vs, h1, h2, h3⟩ := h; exact ⟨vs, h1.mono hb, h2.mono hb, h3⟩
theorem SOwn.snocF {w w1 w2 w3 : World} {base : Nat} {vs : List Value} {ls : List (List UInt8)} {o v o' : Value} {l : List UInt8}
  (hown : Own w base 24 1 o ls.length vs) (hpo : POwn w base vs ls) (hsep : Sep vs) (hb : base ≤ w.heap.size)
  (hv : Own w1 w.heap.size 5 1 v l.length (bs l)) (hf1 : Fr Nob w w1) (hf2 : Fr Nob w1 w2)
  (ho' : Own w3 base 24 1 o' (ls.length + 1) (vs ++ [v])) (hf3 : Fr (c0o o) w2 w3) : SOwn w3 base o' (ls ++ [l]) := by
 have h12 := hf1.then hf2
 have hv2 := (hv.still hf2).mono hb
 have ho2 := hown.still h12
 refine ⟨vs ++ [v], by simpa using ho', POwn.snoc (hv2.keep hf3 (fun k hk hk' => hv2.ne2 ho2 (by decide) k hk hk')) ((hpo.still h12).app ho2 (by decide) hf3), hsep.snoc hpo hv⟩
attribute [local irreducible] a0J lw mix cw b0t b0G b0q a0P a0u beN laid b0o b0H a0M a0V elN mdL b0R
end Go.Proofs.YtemcankmggmgoaaGreatDoor
namespace Go.Mv
open Go.RowKit
variable {P : Program}
structure Ox where
 v : Value
 T : TypeId
 sz : Nat
 n : Nat
 L : List Value
structure OwS (w : World) (base : Nat) (X : Nat → Prop) (l : List Ox) : Prop where
 own : ∀ x ∈ l, Own w base x.T x.sz x.v x.n x.L
 off : ∀ x ∈ l, ∀ k, c0o x.v k → ¬ X k
 sep : l.Pairwise fun a b => ∀ k, c0o a.v k → ¬ c0o b.v k
 lt : ∀ k, X k → k < w.heap.size
theorem OwS.nil {w : World} {base : Nat} {X : Nat → Prop} (h : ∀ k, X k → k < w.heap.size) : OwS w base X [] := ⟨by simp, by simp, List.Pairwise.nil, h⟩
theorem OwS.at {w : World} {base : Nat} {X : Nat → Prop} {l : List Ox} (h : OwS w base X l) (i : Nat) {x : Ox} (hi : l[i]? = some x) : Own w base x.T x.sz x.v x.n x.L := h.own x (List.mem_of_getElem? hi)
theorem OwS.keep {w w' : World} {base : Nat} {X : Nat → Prop} {l : List Ox} (h : OwS w base X l) {S : Nat → Prop} (hf : Fr S w w') (hS : ∀ k, S k → X k) : OwS w' base X l :=
 ⟨fun x hx => (h.own x hx).keep hf fun k hk hs => h.off x hx k hk (hS k hs), h.off, h.sep, fun k hk => Nat.lt_of_lt_of_le (h.lt k hk) hf.size⟩
theorem OwS.still {w w' : World} {base : Nat} {X : Nat → Prop} {l : List Ox} (h : OwS w base X l) (hf : Fr Nob w w') : OwS w' base X l := h.keep hf fun _ t => t.elim
theorem OwS.new {w w' : World} {base : Nat} {X : Nat → Prop} {l : List Ox} (h : OwS w base X l) (hf : Fr Nob w w') {x : Ox} (ho : Own w' w.heap.size x.T x.sz x.v x.n x.L) (hb : base ≤ w.heap.size) : OwS w' base X (l ++ [x]) := by
 have h2 := h.still hf
 refine ⟨?_, ?_, ?_, h2.lt⟩
 ·intro y hy
  rcases List.mem_append.1 hy with hy | hy
  ·exact h2.own y hy
  ·rw [List.mem_singleton.1 hy]; exact ho.mono hb
 ·intro y hy
  rcases List.mem_append.1 hy with hy | hy
  ·exact h2.off y hy
  ·rw [List.mem_singleton.1 hy]
   intro k hk hx
   have h3 := (ho.lt hk).1
   have h4 := h.lt k hx
   omega
 ·rw [List.pairwise_append]
  refine ⟨h.sep, by simp, fun a ha b hb2 k hk hk2 => ?_⟩
  rw [List.mem_singleton.1 hb2] at hk2
  have h3 := (ho.lt hk2).1
  have h4 := ((h.own a ha).lt hk).2
  omega
theorem OwS.sepAt {w : World} {base : Nat} {X : Nat → Prop} {l : List Ox} (h : OwS w base X l) {i j : Nat} {x y : Ox} (hi : l[i]? = some x) (hj : l[j]? = some y) (hij : i ≠ j) : ∀ k, c0o x.v k → ¬ c0o y.v k := by
 obtain ⟨hi1, rfl⟩ := List.getElem?_eq_some_iff.1 hi
 obtain ⟨hj1, rfl⟩ := List.getElem?_eq_some_iff.1 hj
 rcases Nat.lt_or_ge i j with k | k
 ·exact List.pairwise_iff_getElem.1 h.sep i j hi1 hj1 k
 ·exact fun b hb hc => List.pairwise_iff_getElem.1 h.sep j i hj1 hi1 (by omega) b hc hb
theorem OwS.put {w w' : World} {base : Nat} {X : Nat → Prop} {l : List Ox} (h : OwS w base X l) (i : Nat) {x y : Ox} (hi : l[i]? = some x) (hf : Fr (c0o x.v) w w') (ho : Own w' base y.T y.sz y.v y.n y.L) (hb : y.v.ownBlock = x.v.ownBlock ∨ y.v.ownBlock = some w.heap.size) : OwS w' base X (l.set i y) := by
 obtain ⟨hi1, hi2⟩ := List.getElem?_eq_some_iff.1 hi
 have off : ∀ (z : Ox) (j : Nat), l[j]? = some z → i ≠ j → ∀ k, c0o y.v k → ¬ c0o z.v k := by
  intro z j hj hij k hk hz
  rcases hb with hb | hb
  ·exact h.sepAt hi hj hij k (by unfold c0o at *; rw [← hb]; exact hk) hz
  ·have h3 := ((h.at j hj).lt hz).2
   have h4 : w.heap.size = k := by unfold c0o at hk; rw [hb] at hk; exact Option.some.inj hk
   omega
 refine ⟨?_, ?_, ?_, fun k hk => Nat.lt_of_lt_of_le (h.lt k hk) hf.size⟩
 ·intro z hz
  obtain ⟨j, hj1, hj2⟩ := List.mem_iff_getElem.1 hz
  rw [List.length_set] at hj1
  rw [List.getElem_set] at hj2
  by_cases e : i = j
  ·rw [if_pos e] at hj2; subst hj2; exact ho
  ·rw [if_neg e] at hj2
   subst hj2
   exact (h.own _ (List.getElem_mem hj1)).keep hf fun k hk hs => h.sepAt hi (List.getElem?_eq_getElem hj1) e k hs hk
 ·intro z hz
  obtain ⟨j, hj1, hj2⟩ := List.mem_iff_getElem.1 hz
  rw [List.length_set] at hj1
  rw [List.getElem_set] at hj2
  by_cases e : i = j
  ·rw [if_pos e] at hj2
   subst hj2
   intro k hk hx
   rcases hb with hb | hb
   ·exact h.off x (List.mem_of_getElem? hi) k (by unfold c0o at *; rw [← hb]; exact hk) hx
   ·have h3 := h.lt k hx
    have h4 : w.heap.size = k := by unfold c0o at hk; rw [hb] at hk; exact Option.some.inj hk
    omega
  ·rw [if_neg e] at hj2
   subst hj2
   exact h.off _ (List.getElem_mem hj1)
 ·rw [List.pairwise_iff_getElem]
  intro j k hj hk hjk
  have e := List.pairwise_iff_getElem.1 h.sep j k (by simpa using hj) (by simpa using hk) hjk
  rw [List.getElem_set, List.getElem_set]
  have hj' : j < l.length := by simpa using hj
  have hk' : k < l.length := by simpa using hk
  by_cases e1 : i = j
  ·subst e1
   rw [if_pos rfl, if_neg (by omega)]
   exact off _ k (List.getElem?_eq_getElem hk') (by omega)
  ·rw [if_neg e1]
   by_cases e2 : i = k
   ·subst e2
    rw [if_pos rfl]
    exact fun b hb2 hc => off _ j (List.getElem?_eq_getElem hj') e1 b hc hb2
   ·rw [if_neg e2]; exact e
theorem OwS.ne {w : World} {base : Nat} {X : Nat → Prop} {l : List Ox} (h : OwS w base X l) (i : Nat) {x : Ox} (hi : l[i]? = some x) {g : Nat} (hg : X g) : ¬ c0o x.v g := fun hk => h.off x (List.mem_of_getElem? hi) g hk hg
theorem OwS.grow {w w' : World} {base : Nat} {ks : List Nat} {l : List Ox} (h : OwS w base (fun k => k ∈ ks) l) (hf : Fr Nob w w') {g : Nat} (hg : w.heap.size ≤ g) (hlt : g < w'.heap.size) : OwS w' base (fun k => k ∈ g :: ks) l := by
 have h2 := h.still hf
 refine ⟨h2.own, fun x hx k hk hks => ?_, h2.sep, fun k hk => ?_⟩
 ·rcases List.mem_cons.1 hks with e | e
  ·subst e
   have := ((h.own x hx).lt hk).2
   omega
  ·exact h2.off x hx k hk e
 ·rcases List.mem_cons.1 hk with e | e
  ·subst e; exact hlt
  ·exact h2.lt k e
theorem OwS.mono {w : World} {base : Nat} {X Y : Nat → Prop} {l : List Ox} (h : OwS w base X l) (hs : ∀ k, Y k → X k) : OwS w base Y l :=
 ⟨h.own, fun x hx k hk hy => h.off x hx k hk (hs k hy), h.sep, fun k hk => h.lt k (hs k hk)⟩
theorem OwS.less {w : World} {base : Nat} {X : Nat → Prop} {l l' : List Ox} (h : OwS w base X l) (hs : l'.Sublist l) : OwS w base X l' :=
 ⟨fun x hx => h.own x (hs.subset hx), fun x hx => h.off x (hs.subset hx), h.sep.sublist hs, h.lt⟩
theorem St.keepOs {S : Nat → Prop} {w0 w w' : World} {bl : List (Nat × List Value × TypeId)} (h : St S w0 w bl) {T : TypeId} {sz base : Nat} {v : Value} {n : Nat} {L : List Value} (ho : Own w base T sz v n L) (hb : w0.heap.size ≤ base) (hf : Fr (c0o v) w w') (hne : ∀ x ∈ bl, ¬ c0o v x.1) : St S w0 w' bl :=
 ⟨ho.fr h.fr hb hf, h.own, fun x hx => (h.has x hx).keep hf (hne x hx), h.ne⟩
theorem m0x (B : List Value) (o k : Nat) (cs : List Value) (h : o + k + cs.length ≤ B.length) : (splice B (o + k) cs).drop o = splice (B.drop o) k cs := by
 unfold splice
 have h1 : (B.take (o + k)).drop o = (B.drop o).take k := by rw [List.drop_take]; congr 1; omega
 rw [List.drop_append_of_le_length (by simp; omega), h1, List.drop_drop]
 congr 2
 congr 1
 omega
theorem l0k (B : List Value) (k m : Nat) (cs : List Value) (h : k + cs.length ≤ m) (hm : m ≤ B.length) : (splice B k cs).take m = splice (B.take m) k cs := by
 apply List.ext_getElem?
 intro i
 unfold splice
 have e1 : min k B.length = k := by omega
 have e2 : min k (min m B.length) = k := by omega
 simp only [List.getElem?_take, List.getElem?_append, List.length_take, List.getElem?_drop, e1, e2]
 by_cases h1 : i < m
 ·by_cases h3 : i < k
  ·simp only [h1, h3, if_true]
  ·by_cases h2 : i - k < cs.length
   ·simp only [h1, h3, h2, if_true, if_false]
   ·have h4 : k + cs.length + (i - k - cs.length) < m := by omega
    simp only [h1, h3, h2, h4, if_true, if_false]
 ·have h3 : ¬ i < k := by omega
  have h2 : ¬ i - k < cs.length := by omega
  have h4 : ¬ k + cs.length + (i - k - cs.length) < m := by omega
  simp only [h1, h3, h2, h4, if_false]
theorem Own.wrote {w w' : World} {base : Nat} {T : TypeId} {sz : Nat} {g o n cap : Nat} {L : List Value} (h : Own w base T sz (.slice (some ⟨g, o, none⟩) n cap) n L) {k : Nat} {cs : List Value} (hk : k + cs.length ≤ n * sz)
  (hw : ∀ B, Has w g B T → Has w' g (splice B (o + k) cs) T) : Own w' base T sz (.slice (some ⟨g, o, none⟩) n cap) n (splice L k cs) := by
 refine ⟨by rw [length_splice _ _ _ (by rw [h.1]; exact hk)]; exact h.1, .inr ?_⟩
 rcases h.2 with ⟨h2, -⟩ | ⟨g', o', cap', B, h2, hb, hh, hn, hm, hl, ht⟩
 ·cases h2
 ·cases h2
  have hle : n * sz ≤ cap * sz := Nat.mul_le_mul_right _ hn
  refine ⟨g, o, cap, _, rfl, hb, hw B hh, hn, hm, by rw [length_splice _ _ _ (by omega)]; exact hl, ?_⟩
  rw [m0x _ _ _ _ (by omega), l0k _ _ _ _ hk (by simp; omega), ht]
section
variable {w : World} {ops : Array Oper} {rest : List Oper} {o : Oper} {a : Act} {Q : Exit → Act → World → Prop} {base : Nat} {X : Nat → Prop} {l : List Ox}
end
section
variable {w : World} {o : Oper} {a : Act} {K : Act → World → Prop} {Q : Exit → Act → World → Prop} {base : Nat} {X : Nat → Prop} {l : List Ox}
end
end Go.Mv
namespace Go.Mv
open Go.RowKit
theorem Own.cut0 {w : World} {base : Nat} {T : TypeId} {a : Option Addr} {n c : Nat} {L : List Value} (h : Own w base T 1 (.slice a n c) n L) (m : Nat) (hm : m ≤ n) (ha : 0 < n) : Own w base T 1 (.slice a m m) m (L.take m) := by
 rcases h.2 with ⟨h2, h3⟩ | ⟨g, o, cap, B, h2, hb, hh, hn, hmx, hl, ht⟩
 ·omega
 ·cases h2
  refine ⟨by have := h.1; simp; omega, .inr ⟨g, o, m, B, rfl, hb, hh, Nat.le_refl _, by omega, by omega, ?_⟩⟩
  rw [← ht, List.take_take, Nat.mul_one, Nat.mul_one, Nat.min_eq_left hm]
end Go.Mv
namespace Go.Proofs.YtemcankmggmgoaaGreatDoor
section
open Go.RowKit Go.Mv Mvp Mvq Mvk
theorem w0O : ∀ k : Fin 20, Lib.ctz 64 (2 ^ k.val) = k.val := by decide
theorem r0M (k : Nat) (w : World) (hk : k ≤ 19) (hT : TabAt 0 Lib.deBruijn64tab w) :
  Calls Tryz.prog 6 #[.int .u64 ((2 ^ k : Nat) : Int)] w fun e w' => e = .returned (.tuple #[.int .i64 (k : Int), .int .i64 0]) ∧ w' = w := by
 have hp : 2 ^ k ≤ 524288 := by
  have : 2 ^ k ≤ 2 ^ 19 := Nat.pow_le_pow_right (by decide) hk
  simpa using this
 have h1 := q0S 64 k (by omega)
 have hz := qH (show Lib.ctz 64 (2 ^ k) = k from w0O ⟨k, by omega⟩)
 generalize 2 ^ k = x at *
 have ho := n0y x w (by omega)
 rw [h1] at ho
 have hpI : ¬ (524288 : Int) < (x : Int) := by omega
 have htz := t0n x (by omega) w hT
 rw [hz.out] at htz
 have HO := qH ho
 have HT := qH htz
 clear ho htz h1 hT hz
 go_enter Tryz.func6, Tryz.ntmps6
 go_wp2_with fail
 refine HO.out.mono ?_
 rintro e w' ⟨rfl, rfl⟩
 go_wp2_with fail
 refine HT.out.mono ?_
 rintro e w' ⟨rfl, rfl⟩
 go_wp2_with fail
 go_ret2
 exact ⟨rfl, rfl⟩
def y0x : List UInt8 := [109, 105, 110, 116]
def m0y : List UInt8 := [107, 101, 121, 115, 101, 116]
def kyS (l : List UInt8) (n k : Nat) : List UInt8 := b0o (scN mQ.M (c0S h0N [e0i l [n, k], y0x]))
theorem y0y (l : List UInt8) (n k : Nat) : kyS l n k = b0o (scN mQ.M (c0S h0N [e0i l [n, k], [109, 105, 110, 116]])) := rfl
theorem w0P (l : List UInt8) (n k : Nat) : (kyS l n k).length = 32 := a0T _
theorem y0z (d : List UInt8) : scN mQ.M d < mQ.M := by
 unfold scN
 split
 ·decide
 ·exact Nat.mod_lt _ (by decide)
theorem j0G (l : List UInt8) (n k : Nat) : b0R mQ (kyS l n k) = true := by
 have h := y0z (c0S h0N [e0i l [n, k], y0x])
 unfold b0R kyS
 rw [a0T, m0S _ (Nat.lt_trans h (by decide)), decide_eq_true rfl, decide_eq_true h]
 rfl
noncomputable def kyP (l : List UInt8) (n k : Nat) : List UInt8 := d0U (b0D (beN (kyS l n k)) gP)
theorem r0N (l : List UInt8) (n k : Nat) : (kyP l n k).length = 33 := f0o _
theorem y0A (l : List UInt8) (n k : Nat) : tS (kyS l n k) (d0U gP) = kyP l n k ∧ tC (kyS l n k) (d0U gP) = 0 := by
 have hg := z0t z0z
 constructor
 ·unfold tS kyP; rw [j0G, hg.1, hg.2, Bool.and_self, if_pos rfl]
 ·unfold tC; rw [j0G, hg.1, if_pos rfl, if_pos rfl]
theorem l0l : (Tryz.prog.info? 22).map (fun i => (i.zero, i.size, i.bytes)) = some (some (.int .u32 0), 1, 4) := by kernel_rfl
theorem e0s : (Tryz.prog.info? 24).map (fun i => (i.zero, i.size, i.bytes)) = some (some (.slice none 0 0), 1, 24) := by kernel_rfl
theorem x0o : (Tryz.prog.info? 35).map (·.zero) = some (some (.agg #[.slice none 0 0, .slice none 0 0])) := by kernel_rfl
theorem l0m : (Tryz.prog.info? 35).map (·.size) = some 2 := by kernel_rfl
noncomputable def kyL (l : List UInt8) (n j : Nat) : List (List UInt8) := (List.range j).map (kyP l n)
theorem n0R (l : List UInt8) (n j : Nat) : kyL l n (j + 1) = kyL l n j ++ [kyP l n j] := by simp [kyL, List.range_succ]
theorem d0b (l : List UInt8) (n j : Nat) : (kyL l n j).length = j := by simp [kyL]
theorem y0B (l : List UInt8) (n : Nat) : kyL l n 0 = [] := rfl
theorem r0O (l : List UInt8) (n j : Nat) : ∀ x ∈ kyL l n j, x.length = 33 := by
 intro x hx
 unfold kyL at hx
 obtain ⟨k, -, rfl⟩ := List.mem_map.1 hx
 exact r0N _ _ _
noncomputable def kyN (l : List UInt8) (n : Nat) : List UInt8 := (c0S m0y (kyL l n 20)).take 8
theorem r0P (l : List UInt8) (n : Nat) : (kyN l n).length = 8 := by unfold kyN; rw [List.length_take, f0f]; rfl
theorem u0b (l : List UInt8) : (bs l).take 8 = bs (l.take 8) := by unfold bs; rw [List.map_take]
theorem SOwn.off {w w' : World} {base : Nat} {v : Value} {ls : List (List UInt8)} {g : Nat} {L : List Value} {T : TypeId} (h : SOwn w base v ls) (hf : Fr (One g) w w') (hg : Has w g L T) (h1 : 24 ≠ T) (h2 : 5 ≠ T) : SOwn w' base v ls := by
 obtain ⟨vs, a, b, c⟩ := h
 exact ⟨vs, a.keep hf (fun k hk (e : k = g) => a.ne hg h1 (e ▸ hk)), POwn.keep hf b (fun v n l ho k hk (e : k = g) => ho.ne hg h2 (e ▸ hk)), c⟩
theorem f0I {P : Program} {w w0 : World} {ops : Array Oper} {rest : List Oper} {o : Oper} {a : Act} {Q : Exit → Act → World → Prop} {S : Nat → Prop} {bl : List (Nat × List Value × TypeId)} (hst : St S w0 w bl) (i : Nat) {g : Nat} {L : List Value} {T : TypeId} (hb : bl[i]? = some (g, L, T)) {ty : TypeId} {x y : Operand} (hgd : o.guard = none) (ho : o.op = .store ty x y) (hx : a.eval x = .pointer (some ⟨g, 0, none⟩)) {cs : List Value} (hy : a.eval y = .agg cs.toArray)
  (hn : cs.length = L.length) (hi : (P.info? ty).map (·.size) = some cs.length) (h1 : ∀ v ∈ cs, v.oneCell' = true)
  (h : ∀ w', St S w0 w' (bl.set i (g, cs, T)) → Fr (One g) w w' → wpList P ops Q rest (a.put o.dst undef) w') : wpList P ops Q (o :: rest) a w :=
 d0Y hgd ho hx hy (hst.at i hb) (by omega) hi h1 fun w' hg hf _ => h w' (hst.put i hb hf (by rwa [b0Y _ _ hn] at hg)) hf
theorem Own.offT {w w' : World} {base : Nat} {T : TypeId} {sz : Nat} {v : Value} {n : Nat} {L : List Value} (h : Go.Mv.Own w base T sz v n L) {g : Nat} (hf : Fr (One g) w w') {L' : List Value} {T' : TypeId} (hg : Has w g L' T') (hT : T ≠ T') : Go.Mv.Own w' base T sz v n L :=
 h.keep hf fun k hk (e : k = g) => h.ne hg hT (e ▸ hk)
theorem Sep.cons {w w' : World} {base : Nat} {vs : List Value} {ls : List (List UInt8)} (h : Sep vs) (hp : POwn w base vs ls) {v : Value} {n : Nat} {L : List Value} {T : TypeId} (hv : Go.Mv.Own w' w.heap.size T 1 v n L) : Sep (v :: vs) := by
 unfold Sep at *
 refine List.pairwise_cons.2 ⟨fun b hb k hk hk' => ?_, h⟩
 obtain ⟨l, _, ho⟩ := hp.mem hb
 have h1 := (ho.lt hk').2
 have h2 := (hv.lt hk).1
 omega
attribute [local irreducible] a0J lw mix cw b0t b0G b0q a0P a0u beN laid b0o b0H a0M a0V elN mdL b0R rtV c0E d0U f0p j0v b0D b0l b0B toB a0v a0I b0m c0h a0C c0i b0k a0G c0S e0i scN kyS kyP kyL kyN tS tC
theorem v0h (a : Option Addr) (c : Nat) (l : List UInt8) (n k : Nat) (w : World) (hp : PartIs w (.slice a 32 c) l) (hn : n ≤ 4294967295) (hk : k ≤ 19) (hT : TabAt 0 Lib.deBruijn64tab w) :
  Calls Tryz.prog 4 #[.slice a 32 c, .int .u32 (n : Int), .int .u64 ((2 ^ k : Nat) : Int)] w fun e w' => ∃ v, e = .returned (.tuple #[v, .int .i64 0]) ∧ OwnB1 w w' v (kyS l n k) ∧ Fr Nob w w' := by
 have HP := qH hp
 have HPL := qH (r0M k w hk hT)
 have HK := qH hk
 have HN := qH hn
 have hk0 : (k : Int) < 4294967296 := by omega
 have hk1 : (k : Int) % 4294967296 = (k : Int) := by omega
 clear hp hT hk hn
 generalize ((2 ^ k : Nat) : Int) = X at *
 go_enter Tryz.func4, Tryz.ntmps4
 go_wp2_with fail
 refine HPL.out.mono ?_
 rintro e' w1 ⟨rfl, rfl⟩
 clear HPL
 go_wp2_with (with_reducible refine wSk 25 ?_)
 refine c0e rfl rfl Tryz.underlying44 l0l [.int .u32 (n : Int), .int .u32 (k : Int)] rfl (by simp; exact ⟨rfl, rfl⟩) rfl rfl ?_
 intro w2 hh hf hz
 have HH := qH (show Rd w2 (some ⟨w1.heap.size, 0, none⟩) 2 (o0L [n, k]) from Rd.whole hh)
 have HF := qH hf
 have HPK := qH (HP.out.still hf)
 clear hh hf hz hk0 hk1
 have hc := o0M mQ .one a c l ⟨#[109, 105, 110, 116]⟩ (some ⟨w1.heap.size, 0, none⟩) 2 [n, k] w2 HPK.out (by decide) (by simp) (by intro x hx; have := HK.out; have := HN.out; simp only [List.mem_cons, List.not_mem_nil, or_false] at hx; omega) HH.out
 generalize hg : w1.heap.size = g at *
 have HG := qH hg
 have HC := qH hc
 clear hg hc HH
 go_wp2_with fail
 refine HC.out.mono ?_
 rintro e' w3 ⟨v, rfl, ho, hf⟩
 have HO := qH (ho.mono (by have := HF.out.size; exact this))
 have HFF := qH (HF.out.then hf)
 clear ho hf HC
 go_wp2_with fail
 go_ret2
 exact ⟨v, rfl, OwnB1.of (by rw [y0y]; exact HO.out) (w0P _ _ _), HFF.out⟩
theorem y0C (a : Option Addr) (c : Nat) (l : List UInt8) (n : Nat) (w : World) (hp : PartIs w (.slice a 32 c) l) (hn : n ≤ 4294967295) (hT : TabAt 0 Lib.deBruijn64tab w) :
  Calls Tryz.prog 8 #[.slice a 32 c, .int .u32 (n : Int)] w fun e w' => ∃ nm q vs, e = .returned (.tuple #[.agg #[nm, q], .int .i64 0]) ∧ Go.Mv.Own w' w.heap.size 24 1 q 20 vs ∧ POwn w' w.heap.size (nm :: vs) (kyN l n :: kyL l n 20) ∧ Sep (nm :: vs) ∧ Fr Nob w w' := by
 have HP := qH hp
 have HT := qH hT
 have HN := qH hn
 clear hp hT hn
 have st0 := St.start Nob w
 go_enter Tryz.func8, Tryz.ntmps8
 go_wp2_with (with_reducible refine wSk 4 ?_)
 refine a0b st0 rfl rfl x0o [.slice none 0 0, .slice none 0 0] rfl ?_
 intro g4 w1 st1
 clear st0
 go_wp2_with (with_reducible refine wSk 6 ?_)
 refine a0b st1 rfl rfl x0o [.slice none 0 0, .slice none 0 0] rfl ?_
 intro g6 w2 st2
 simp only [List.cons_append, List.nil_append] at st2
 have ST := qH st2
 clear st1 st2
 go_wp2_with fail
 go_loopw [16] (fun i wr => ∃ (j : Nat) (q : Value), j ≤ 20 ∧ i = .int .i64 (j : Int) ∧ St Nob w wr [(g4, [.slice none 0 0, .slice none 0 0], 35), (g6, [.slice none 0 0, q], 35)] ∧ SOwn wr w.heap.size q (kyL l n j)) (fun i _ => 20 - (intOf i).toNat)
 case atStart => exact ⟨0, _, Nat.zero_le _, rfl, ST.out, by rw [y0B]; exact SOwn.nil _ _⟩
 case round =>
  clear ST
  obtain ⟨j, q, hj, rfl, hst, hso⟩ := hrel
  have HSO := qH hso
  clear hso
  by_cases hlt : j < 20
  ·have hltI : (j : Int) < 20 := by omega
   have HJ := qH hlt
   have hp1 : (2 ^ j : Nat) ≤ 524288 := by
    have : 2 ^ j ≤ 2 ^ 19 := Nat.pow_le_pow_right (by decide) (by omega)
    simpa using this
   have hk := v0h a c l n j _ (HP.out.still hst.fr) HN.out (by omega) (TabAt.still HT.out hst.fr)
   obtain ⟨x, hx⟩ : ∃ x : Nat, 2 ^ j = x := ⟨_, rfl⟩
   have hxI : (2 : Int) ^ j = (x : Int) := by rw [← hx]; simp
   rw [hx] at hk hp1
   have hx1 : (x : Int) < 18446744073709551616 := by omega
   have HK := qH hk
   clear hk hx
   clear hj hlt hp1
   go_wp2_with fail
   refine HK.out.mono ?_
   rintro e' w3 ⟨v, rfl, ho, hf⟩
   have HB := qH (OwnB1.part ho)
   have st3 := hst.keep hf
   have HS3 := qH (HSO.out.still hf)
   clear hst HSO HK ho hf hxI hx1
   go_wp2_with fail
   refine (w0N _).mono ?_
   rintro e' w4 ⟨vb, rfl, ho, hf⟩
   have HB2 := qH (OwnB1.part ho)
   have st4 := st3.keep hf
   have HS4 := qH (HS3.out.still hf)
   replace HB := qH (HB.out.still hf)
   clear st3 HS3 ho hf
   go_wp2_with fail
   refine (u0a v vb (kyS l n j) (d0U gP) _ HB.out HB2.out).mono ?_
   rintro e' w5 ⟨v5, rfl, ho, hf⟩
   rw [(y0A l n j).1] at ho
   rw [(y0A l n j).2]
   unfold OwnB1 at ho
   have HOB := qH ho
   have ho2 := ho
   rw [r0N] at ho2
   obtain ⟨a5, c5, rfl, -, -, -⟩ := Go.Mv.Own.form ho2
   have HW4 := qH st4.fr.size
   have st5 := st4.keep hf
   have HF5 := qH hf
   clear st4 ho ho2 hf HB HB2
   have hc := (st5.at 1 rfl).cell (i := 1) (v := q) rfl
   go_wp2_with (with_reducible refine wSk 36 ?_)
   refine c0e rfl rfl Tryz.underlying33 e0s [.slice a5 33 c5] rfl (by simp; rfl) rfl rfl ?_
   intro w6 hh hf6 hz6
   clear hz6
   have st6 := st5.keep hf6
   obtain ⟨vs, hown, hpo, hsep⟩ := HS4.out
   have hown6 := (hown.still HF5.out).still hf6
   have HH := qH (Rd.whole hh)
   have HKL := qH (d0b l n j)
   clear hh st5 hc
   go_wp2_with (with_reducible refine wSk 37 ?_)
   refine b0L rfl rfl Tryz.underlying33 e0s rfl (by decide) hown6 rfl rfl HH.out (fun u hu => by rw [List.mem_singleton.1 hu]; rfl) (by have := HKL.out; have := HJ.out; unfold maxLen; first | omega | (simp only [List.length_cons, List.length_nil]; omega)) (by have := HKL.out; have := HJ.out; first | omega | (simp only [List.length_cons, List.length_nil]; omega)) st6.fr.size ?_
   intro q2 w7 ho7 hf7 hb7
   clear hb7
   obtain ⟨e7, d7, rfl, -, -, -⟩ := Go.Mv.Own.form ho7
   have hso7 : SOwn w7 w.heap.size (.slice e7 ((kyL l n j).length + 1) d7) (kyL l n (j + 1)) := by
    rw [n0R]
    exact SOwn.snocF hown hpo hsep HW4.out HOB.out HF5.out hf6 ho7 hf7
   have st7 := st6.keepOs hown6 (Nat.le_refl _) hf7 (by
    intro x hx hk
    simp only [List.mem_cons, List.not_mem_nil, or_false] at hx
    rcases hx with rfl | rfl
    ·exact hown6.ne (st6.at 0 rfl) (by decide) hk
    ·exact hown6.ne (st6.at 1 rfl) (by decide) hk)
   obtain ⟨u, hcu, hfz⟩ := (st7.at 1 rfl).ready (i := 1) (by simp)
   have ST8 := qH (st7.set 1 rfl 1 (.slice e7 ((kyL l n j).length + 1) d7))
   have SO8 := qH (hso7.off ((Fr.refl (One g6) w7).setCell g6 1 none (.slice e7 ((kyL l n j).length + 1) d7) (fun _ => rfl)) (st7.at 1 rfl) (by decide) (by decide))
   clear hown hpo hsep hown6 HH ho7 hf7 hso7 st7 st6 hf6 HS4 HOB HF5 HW4
   go_wp2_with fail
   go_roundw
   case rel => exact ⟨j + 1, _, by have := HJ.out; omega, by go_num, ST8.out, SO8.out⟩
   case measure => simp [intOf]; have := HJ.out; omega
  ·have hge : ¬ ((j : Int) < 20) := by omega
   obtain rfl : j = 20 := by omega
   clear hj hlt
   obtain ⟨aq, cq, rfl, hcq, hpa⟩ := (HSO.out.lown).parts (fun x hx => by rw [r0O l n 20 x hx]; decide)
   have hc := (hst.at 1 rfl).cell (i := 1) (v := .slice aq (kyL l n 20).length cq) rfl
   have HTG := qH (q0H ⟨#[107, 101, 121, 115, 101, 116]⟩ aq cq (kyL l n 20) wr (by decide) (by rw [d0b]; decide) hpa)
   clear hpa hcq
   go_wp2_with fail
   refine HTG.out.mono ?_
   rintro e' w9 ⟨v9, rfl, ho, hf⟩
   have st9 := hst.keep hf
   have HW9 := qH hst.fr.size
   obtain ⟨a9, c9, rfl, hc9, -, -⟩ := Go.Mv.Own.form ho
   have hnm := Go.Mv.Own.cut0 (n := 32) ho 8 (by decide) (by decide)
   rw [u0b] at hnm
   obtain ⟨vs, hown, hpo, hsep⟩ := HSO.out
   have HSEP := qH (Sep.cons hsep hpo hnm)
   have hnm2 := hnm.mono HW9.out
   have hown9 := hown.still hf
   have hpo9 := hpo.still hf
   clear hst hc HTG ho hf hnm hown hpo hsep HSO
   go_wp2_with (with_reducible refine wSk 43 ?_)
   refine p0B rfl rfl Tryz.underlying24 c0r rfl 0 8 8 rfl rfl rfl rfl rfl (by decide) (by decide) (by omega) ?_
   rw [l0J]
   obtain ⟨u, hcu, hfz⟩ := (st9.at 1 rfl).ready (i := 0) (by simp)
   have st10 := st9.set 1 rfl 0 (.slice a9 8 8)
   have hfo := (Fr.refl (One g6) w9).setCell g6 0 none (.slice a9 8 8) (fun _ => rfl)
   have hnm3 := Own.offT hnm2 hfo (st9.at 1 rfl) (by decide)
   have hown10 := Own.offT hown9 hfo (st9.at 1 rfl) (by decide)
   have hpo10 := POwn.keep hfo hpo9 (fun v n l ho k hk (e : k = g6) => ho.ne (st9.at 1 rfl) (by decide) (e ▸ hk))
   have ST10 := qH st10
   have HNM := qH hnm3
   have HOW := qH hown10
   have HPO := qH hpo10
   clear st9 st10 hfo hnm2 hnm3 hown9 hown10 hpo9 hpo10
   go_wp2_with (with_reducible refine wSk 45 ?_)
   generalize w9.setCell ⟨g6, 0, none⟩ (.slice a9 8 8) = w10 at *
   have st10 := ST10.out
   simp only [List.set_cons_zero, List.set_cons_succ] at st10
   refine a0o st10 1 rfl rfl rfl Tryz.underlying35 rfl rfl l0m ?_
   go_wp2_with (with_reducible refine wSn ?_)
   refine f0I st10 0 rfl rfl rfl rfl rfl (cs := [.slice a9 8 8, .slice aq (kyL l n 20).length cq]) rfl l0m (by intro v hv; simp only [List.mem_cons, List.not_mem_nil, or_false] at hv; rcases hv with rfl | rfl <;> rfl) ?_
   intro w11 st11 hf11
   have HNM2 := qH (Own.offT HNM.out hf11 (st10.at 0 rfl) (by decide))
   have HOW2 := qH (Own.offT HOW.out hf11 (st10.at 0 rfl) (by decide))
   have HPO2 := qH (POwn.keep hf11 HPO.out (fun v n l ho k hk (e : k = g4) => ho.ne (st10.at 0 rfl) (by decide) (e ▸ hk)))
   have hr := st11.at 0 rfl
   have hfr := st11.fr
   clear st10 st11 hf11 HNM HOW HPO ST10 hcu hfz
   go_wp2_with fail
   have HK20 := qH (d0b l n 20)
   refine bodyPost_ret (b0i rfl rfl hr Tryz.underlying35 rfl l0m rfl) rfl ⟨_, _, vs, rfl, by have h := HOW2.out; rw [HK20.out] at h ⊢; exact h, ?_, HSEP.out, hfr⟩
   exact ⟨by rw [r0P]; have h := HNM2.out; unfold kyN; exact h, HPO2.out⟩
end
section
open Go.RowKit Go.Mv Mvp Mvt
theorem n0S (l : List UInt8) (h : l.length = 32) (path : List Nat) : (e0i l path).length = 32 := by
 induction path generalizing l with
 | nil => exact h
 | cons n path ih => exact ih _ (f0f _ _)
theorem l0n : (Tryz.prog.info? 9).map (fun i => (i.zero, i.size, i.bytes)) = some (some (.string ⟨#[]⟩), 1, 16) := by kernel_rfl
theorem w0Q : (cw 4 0).set 0 (.int .u64 1) = cw 4 1 := by kernel_rfl
attribute [local irreducible] a0J lw mix cw b0t b0G b0q a0P a0u beN laid b0o b0H a0M a0V elN mdL b0R b0l b0B toB a0v a0I b0m c0h a0C c0i b0k a0G c0S e0i scN h0g
theorem u0c (n : Nat) (hn : n < 4294967296) (w : World) :
  Calls Tryz.prog 60 #[.int .u32 (n : Int)] w fun e w' => e = .returned (.string (mkS (h0g n))) ∧ Fr Nob w w' := by
 go_enter Tryz.func60, Tryz.ntmps60
 go_wp2_with (with_reducible refine wSk 14 ?_)
 refine i0J rfl rfl Tryz.underlying24 b0w _ _ _ _ (q0M n hn) (q0N n) (n0r n) (n0s n) ?_
 intro w1 hh1 hf1 hz1
 have hh1' : Has w1 w.heap.size (bs (h0g n)) 5 := by unfold h0g; exact hh1
 have hrd : RdB w1 (some ⟨w.heap.size, 0, none⟩) 4 (h0g n) := by
  have := Rd.whole hh1'
  rwa [a0H, e0o] at this
 have hc := b0J (P := Tryz.prog) hrd 4 Tryz.underlying24 Tryz.underlying5 Tryz.underlying9
 have HF := qH hf1
 clear hh1 hh1' hz1 hrd hf1
 generalize w.heap.size = g4 at *
 go_wp2_with fail
 go_ret
 exact ⟨rfl, HF.out⟩
theorem m0z (q : ByteArray) (s vp : Value) (w : World) (hn : q.size ≠ 32) :
  Calls Tryz.prog 28 #[.string q, s, vp] w fun e w' => e = .returned (.tuple #[.string ⟨#[]⟩, .int .i64 2]) ∧ w = w' := by
 have hne : ((q.size : Int) != 32) = true := by simp; omega
 clear hn
 go_enter Tryz.func28, Tryz.ntmps28
 go_wp2
 go_ret2
 exact ⟨rfl, rfl⟩
theorem l0o (q : ByteArray) (s : Value) (p : Option Addr) (k d : Nat) (w : World) (hq : q.size = 32) (hk : 16 < k) :
  Calls Tryz.prog 28 #[.string q, s, .slice p k d] w fun e w' => e = .returned (.tuple #[.string ⟨#[]⟩, .int .i64 1]) ∧ w = w' := by
 have hne : ((q.size : Int) != 32) = false := by rw [hq]; rfl
 have hkI : (16 : Int) < (k : Int) := by omega
 clear hq
 go_enter Tryz.func28, Tryz.ntmps28
 go_wp2
 go_ret2
 exact ⟨rfl, rfl⟩
theorem i0A (l : List UInt8) (s : ByteArray) (p : Option Addr) (d : Nat) (path : List Nat) (w : World) (hl : l.length = 32) (hs : s.size ≤ 50000) (hk : path.length ≤ 16) (hx : ∀ x ∈ path, x < 4294967296) (hr : Rd w p path.length (o0L path)) :
  Calls Tryz.prog 28 #[.string (mkS l), .string s, .slice p path.length d] w fun e w' => e = .returned (.tuple #[.string (mkS (c0S h0N [e0i l path, s.data.toList])), .int .i64 0]) ∧ Fr Nob w w' := by
 have hne : (((mkS l).size : Int) != 32) = false := by rw [a0w, hl]; rfl
 have hkI : ¬ ((16 : Int) < (path.length : Int)) := by omega
 have HL := qH hl
 have HS := qH hs
 have HR := qH hr
 have HX := qH hx
 clear hl hs hr hx
 go_enter Tryz.func28, Tryz.ntmps28
 go_wp2
 go_loopw [8, 9] (fun v i wr => ∃ j : Nat, j ≤ path.length ∧ i = .int .i64 (j : Int) ∧ v = .string (mkS (e0i l (path.take j))) ∧ Fr Nob w wr) (fun _ i _ => (path.length - intOf i).toNat)
 case atStart => exact ⟨0, by omega, rfl, by rw [List.take_zero, n0v], Fr.refl _ _⟩
 case round =>
  obtain ⟨j, hj, rfl, rfl, hfj⟩ := hrel
  have HFJ := qH hfj
  clear hfj
  by_cases hlt : j < path.length
  ·have hltI : (j : Int) < (path.length : Int) := by omega
   obtain ⟨b, o, hab, -⟩ := HR.out.at (by omega)
   subst hab
   have hcell := i0n (HR.out.still HFJ.out) j _ (n0w path j hlt)
   have HD := qH (k0K l path j hlt)
   have HDL := qH (n0S l HL.out (path.take j))
   have hxb : path.getD j 0 < 4294967296 := by
    have : path.getD j 0 = path[j] := by simp [List.getD_eq_getElem?_getD, hlt]
    rw [this]; exact HX.out _ (List.getElem_mem _)
   generalize path.getD j 0 = x at *
   generalize e0i l (path.take j) = kj at *
   go_wp2_with fail
   refine (u0c x hxb _).mono ?_
   rintro e w5 ⟨rfl, hf5⟩
   have HF5 := qH (HFJ.out.then hf5)
   clear hf5 hcell hxb
   go_wp2_with (with_reducible refine wSk 29 ?_)
   refine c0e (vs := ss [kj, h0g x]) (hgd := rfl) (ho := rfl) (hu := Tryz.underlying38) (hi0 := l0n) (hp := by rfl) (hv := fun u hu => by
    simp only [ss, List.map_cons, List.map_nil, List.mem_cons, List.not_mem_nil, or_false] at hu
    rcases hu with rfl | rfl <;> rfl) (hk := by rfl) (hz := by rfl) (h := ?_)
   intro w6 hh6 hf6 hz6
   clear hz6
   have HH6 := qH hh6
   have HF6 := qH (HF5.out.then hf6)
   clear hh6 hf6 HF5
   generalize w5.heap.size = g5 at *
   rw [k0J]
   go_wp2_with fail
   refine (q0K h0l _ _ [kj, h0g x] _ HH6.out (by have h1 := HDL.out; have h2 := e0o x; have h3 : h0l.length = 5 := rfl; simp [h0j, h1, h2, h3]) (by simp)).mono ?_
   rintro e w7 ⟨rfl, hf7⟩
   have HF7 := qH (HF6.out.then hf7)
   clear hf7
   go_wp2_with fail
   go_roundw
   case rel => exact ⟨j + 1, by omega, by go_num, by rw [HD.out], HF7.out⟩
   case measure => simp [intOf]; omega
  ·have hge : ¬ ((j : Int) < (path.length : Int)) := by omega
   have HJ := qH (show path.take j = path from List.take_of_length_le (by omega))
   have HDL := qH (n0S l HL.out (path.take j))
   rw [HJ.out] at HDL ⊢
   generalize hkj : e0i l path = kj at *
   have HKJ := qH hkj
   clear hkj
   go_wp2_with (with_reducible refine wSk 33 ?_)
   refine c0e (vs := [.string (mkS kj), .string s]) (hgd := rfl) (ho := rfl) (hu := Tryz.underlying38) (hi0 := l0n) (hp := by rfl) (hv := fun u hu => by
    simp only [List.mem_cons, List.not_mem_nil, or_false] at hu
    rcases hu with rfl | rfl <;> rfl) (hk := by rfl) (hz := by rfl) (h := ?_)
   intro w6 hh6 hf6 hz6
   clear hz6
   have HH6 := qH (show Has w6 wr.heap.size (ss [kj, s.data.toList]) 9 from hh6)
   have HF6 := qH (HFJ.out.then hf6)
   clear hh6 hf6
   generalize wr.heap.size = g5 at *
   rw [q0L]
   go_wp2_with fail
   refine (q0K h0N _ _ [kj, s.data.toList] _ HH6.out (by have h1 := HDL.out; have h2 := HS.out; have h3 : h0N.length = 3 := rfl; simp [h0j, h1, h3]; omega) (by simp)).mono ?_
   rintro e w7 ⟨rfl, hf7⟩
   have HF7 := qH (HF6.out.then hf7)
   clear hf7
   go_wp2_with fail
   go_ret2
   exact ⟨by rw [HKJ.out]; rfl, HF7.out⟩
theorem r0Q (a : Nat) (b : Bool) (hb : decide (a = 0) = b) (ha : a < B64 ^ 4) (w : World) :
  Calls Tryz.prog 32 #[i4 a] w fun e w' => e = .returned (.bool b) ∧ Fr Nob w w' := by
 subst hb; exact i0M a w ha
theorem z0L (p : Nat) (D : List UInt8) (w : World) (hp0 : 0 < p) (hp : p < B64 ^ 4) :
  Calls Tryz.prog 30 #[fv p, .string (mkS (a0C D 31 64))] w fun e w' => e = .returned (i4 (beN (a0C D 31 64) % p)) ∧ Fr Nob w w' := by
 have h := v0L p (mkS (a0C D 31 64)) w hp0 hp (by rw [a0w, g0Y]; decide)
 simpa [mkS] using h
theorem p0h (m : Md) (hk : KindOf 1 m) (l : List UInt8) (s : ByteArray) (p : Option Addr) (d : Nat) (path : List Nat) (w : World) (hl : l.length = 32) (hs : s.size ≤ 50000) (hk16 : path.length ≤ 16) (hx : ∀ x ∈ path, x < 4294967296) (hr : Rd w p path.length (o0L path)) (D : List UInt8) (hD : c0S h0N [e0i l path, s.data.toList] = D) (hz : decide (beN (a0C D 31 64) % m.M = 0) = true) :
  Calls Tryz.prog 12 #[.string (mkS l), .string s, .slice p path.length d] w fun e w' => e = .returned (.tuple #[.string (mkS (b0o (scN m.M D))), .int .i64 0]) ∧ Fr Nob w w' := by
 have HK := qH hk
 have HOK := qH hk.ok
 clear hk
 have HDL := qH (show (mkS D).size ≤ 1000000 by rw [a0w, ← hD, f0f]; decide)
 have HM0 := qH (show 0 < m.M by have := HOK.out.one; omega)
 have HL := qH hl
 have HS := qH hs
 have HR := qH hr
 have HX := qH hx
 have HK16 := qH hk16
 have HD := qH hD
 have HZ := qH hz
 have HZ0 := qH (of_decide_eq_true hz)
 have HXL := qH (Nat.lt_trans (Nat.mod_lt (beN (a0C D 31 64)) HM0.out) HOK.out.lt)
 have HSC := qH (show 1 = scN m.M D by
  unfold scN
  rw [if_pos (of_decide_eq_true hz)])
 clear hl hs hr hx hk16 hD hz
 go_enter Tryz.func12, Tryz.ntmps12
 go_wp2_with fail
 refine (i0A l s p d path w HL.out HS.out HK16.out HX.out HR.out).mono ?_
 rintro e w1 ⟨rfl, hf1⟩
 have HF1 := qH hf1
 clear hf1
 have hD := HD.out
 rw [hD]
 clear hD
 have st0 := St.start Nob w1
 go_wp2_with fail
 refine (t0k m HK.out _).mono ?_
 rintro e' w2 ⟨rfl, hf2⟩
 have st2 := st0.keep hf2
 clear st0 hf2
 go_wp2_with fail
 refine (h0i (mkS D) 64 _ HDL.out (by decide)).mono ?_
 rintro e' w3 ⟨rfl, hf3⟩
 have st3 := st2.keep hf3
 clear st2 hf3
 go_wp2_with fail
 refine (z0L m.M D _ HM0.out HOK.out.lt).mono ?_
 rintro e' w4 ⟨rfl, hf4⟩
 have st4 := st3.keep hf4
 clear st3 hf4
 go_wp2_with (with_reducible refine wSk 10 ?_)
 refine a0b st4 rfl rfl (z := zAd) (by kernel_rfl) (cw 4 0) (by rw [a0f]; rfl) ?_
 intro g10 w5 st5
 clear st4
 go_wp2_with (with_reducible refine wSn ?_)
 refine a0d st5 0 rfl rfl rfl rfl rfl (by first | (simp only [a0a]; done) | (simp only [List.length_append, a0a]; done)) (by first | (rw [a0a]; kernel_rfl) | (simp only [List.length_append, a0a]; kernel_rfl)) (a0i _ _) ?_
 intro w6 st6
 clear st5
 go_wp2_with (with_reducible refine wSk 26 ?_)
 refine a0h st6 0 rfl rfl rfl Tryz.underlying50 rfl (by first | (rw [a0a]; kernel_rfl) | (simp only [List.length_append, a0a]; kernel_rfl)) ?_
 go_wp2_with fail
 refine (r0Q (beN (a0C D 31 64) % m.M) true HZ.out HXL.out _).mono ?_
 rintro e' w7 ⟨rfl, hf7⟩
 have st7 := st6.keep hf7
 clear st6 hf7
 rw [HZ0.out] at st7
 obtain ⟨z0, hz0, hz1⟩ := (st7.at 0 rfl).ready (i := 0) (by rw [a0a]; decide)
 go_wp2_with (with_reducible refine wSk 30 ?_)
 have st8 := st7.set 0 rfl 0 (.int .u64 1)
 try simp only [List.set_cons_zero] at st8
 rw [w0Q] at st8
 clear st7 hz0 hz1
 unfold p0u
 refine a0h st8 0 rfl rfl rfl Tryz.underlying50 rfl (by first | (rw [a0a]; kernel_rfl) | (simp only [List.length_append, a0a]; kernel_rfl)) ?_
 go_wp2_with fail
 refine (d0t 1 _).mono ?_
 rintro e' w9 ⟨rfl, hf9⟩
 have st9 := st8.keep hf9
 clear st8 hf9
 have hfr := HF1.out.then st9.fr
 clear st9
 go_wp2_with fail
 go_ret2
 exact ⟨by rw [← HSC.out]; rfl, hfr⟩
theorem p0i (m : Md) (hk : KindOf 1 m) (l : List UInt8) (s : ByteArray) (p : Option Addr) (d : Nat) (path : List Nat) (w : World) (hl : l.length = 32) (hs : s.size ≤ 50000) (hk16 : path.length ≤ 16) (hx : ∀ x ∈ path, x < 4294967296) (hr : Rd w p path.length (o0L path)) (D : List UInt8) (hD : c0S h0N [e0i l path, s.data.toList] = D) (hz : decide (beN (a0C D 31 64) % m.M = 0) = false) :
  Calls Tryz.prog 12 #[.string (mkS l), .string s, .slice p path.length d] w fun e w' => e = .returned (.tuple #[.string (mkS (b0o (scN m.M D))), .int .i64 0]) ∧ Fr Nob w w' := by
 have HK := qH hk
 have HOK := qH hk.ok
 clear hk
 have HDL := qH (show (mkS D).size ≤ 1000000 by rw [a0w, ← hD, f0f]; decide)
 have HM0 := qH (show 0 < m.M by have := HOK.out.one; omega)
 have HL := qH hl
 have HS := qH hs
 have HR := qH hr
 have HX := qH hx
 have HK16 := qH hk16
 have HD := qH hD
 have HZ := qH hz
 have HXL := qH (Nat.lt_trans (Nat.mod_lt (beN (a0C D 31 64)) HM0.out) HOK.out.lt)
 have HSC := qH (show (beN (a0C D 31 64) % m.M) = scN m.M D by
  unfold scN
  rw [if_neg (of_decide_eq_false hz)])
 clear hl hs hr hx hk16 hD hz
 go_enter Tryz.func12, Tryz.ntmps12
 go_wp2_with fail
 refine (i0A l s p d path w HL.out HS.out HK16.out HX.out HR.out).mono ?_
 rintro e w1 ⟨rfl, hf1⟩
 have HF1 := qH hf1
 clear hf1
 have hD := HD.out
 rw [hD]
 clear hD
 have st0 := St.start Nob w1
 go_wp2_with fail
 refine (t0k m HK.out _).mono ?_
 rintro e' w2 ⟨rfl, hf2⟩
 have st2 := st0.keep hf2
 clear st0 hf2
 go_wp2_with fail
 refine (h0i (mkS D) 64 _ HDL.out (by decide)).mono ?_
 rintro e' w3 ⟨rfl, hf3⟩
 have st3 := st2.keep hf3
 clear st2 hf3
 go_wp2_with fail
 refine (z0L m.M D _ HM0.out HOK.out.lt).mono ?_
 rintro e' w4 ⟨rfl, hf4⟩
 have st4 := st3.keep hf4
 clear st3 hf4
 go_wp2_with (with_reducible refine wSk 10 ?_)
 refine a0b st4 rfl rfl (z := zAd) (by kernel_rfl) (cw 4 0) (by rw [a0f]; rfl) ?_
 intro g10 w5 st5
 clear st4
 go_wp2_with (with_reducible refine wSn ?_)
 refine a0d st5 0 rfl rfl rfl rfl rfl (by first | (simp only [a0a]; done) | (simp only [List.length_append, a0a]; done)) (by first | (rw [a0a]; kernel_rfl) | (simp only [List.length_append, a0a]; kernel_rfl)) (a0i _ _) ?_
 intro w6 st6
 clear st5
 go_wp2_with (with_reducible refine wSk 26 ?_)
 refine a0h st6 0 rfl rfl rfl Tryz.underlying50 rfl (by first | (rw [a0a]; kernel_rfl) | (simp only [List.length_append, a0a]; kernel_rfl)) ?_
 go_wp2_with fail
 refine (r0Q (beN (a0C D 31 64) % m.M) false HZ.out HXL.out _).mono ?_
 rintro e' w7 ⟨rfl, hf7⟩
 have st7 := st6.keep hf7
 clear st6 hf7
 go_wp2_with (with_reducible refine wSk 30 ?_)
 refine a0h st7 0 rfl rfl rfl Tryz.underlying50 rfl (by first | (rw [a0a]; kernel_rfl) | (simp only [List.length_append, a0a]; kernel_rfl)) ?_
 go_wp2_with fail
 refine (d0t (beN (a0C D 31 64) % m.M) _).mono ?_
 rintro e' w8 ⟨rfl, hf8⟩
 have st8 := st7.keep hf8
 clear st7 hf8
 have hfr := HF1.out.then st8.fr
 clear st8
 go_wp2_with fail
 go_ret2
 exact ⟨by rw [← HSC.out]; rfl, hfr⟩
theorem l0p (q : ByteArray) (s : Value) (p : Option Addr) (k d : Nat) (w : World) (hbad : q.size ≠ 32 ∨ 16 < k) :
  Calls Tryz.prog 12 #[.string q, s, .slice p k d] w fun e w' => e = .returned (.tuple #[.string ⟨#[]⟩, .int .i64 (if q.size ≠ 32 then 2 else 1)]) ∧ w = w' := by
 by_cases hn : q.size = 32
 ·have hk : 16 < k := by omega
  rw [if_neg (by simpa using hn)]
  have HN := qH hn
  clear hn hbad
  go_enter Tryz.func12, Tryz.ntmps12
  go_wp2_with fail
  refine (l0o q s p k d w HN.out hk).mono ?_
  rintro e w1 ⟨rfl, rfl⟩
  go_wp2_with fail
  go_ret2
  exact ⟨rfl, rfl⟩
 ·rw [if_pos hn]
  have HN := qH hn
  clear hn hbad
  go_enter Tryz.func12, Tryz.ntmps12
  go_wp2_with fail
  refine (m0z q s _ w HN.out).mono ?_
  rintro e w1 ⟨rfl, rfl⟩
  go_wp2_with fail
  go_ret2
  exact ⟨rfl, rfl⟩
theorem m0A (m : Md) (hk : KindOf 1 m) (l : List UInt8) (s : ByteArray) (p : Option Addr) (d : Nat) (path : List Nat) (w : World) (hl : l.length = 32) (hs : s.size ≤ 50000) (hk16 : path.length ≤ 16) (hx : ∀ x ∈ path, x < 4294967296) (hr : Rd w p path.length (o0L path)) :
  Calls Tryz.prog 12 #[.string (mkS l), .string s, .slice p path.length d] w fun e w' => e = .returned (.tuple #[.string (mkS (b0o (scN m.M (c0S h0N [e0i l path, s.data.toList])))), .int .i64 0]) ∧ Fr Nob w w' := by
 cases hz : decide (beN (a0C (c0S h0N [e0i l path, s.data.toList]) 31 64) % m.M = 0)
 ·exact p0i m hk l s p d path w hl hs hk16 hx hr _ rfl hz
 ·exact p0h m hk l s p d path w hl hs hk16 hx hr _ rfl hz
end
end Go.Proofs.YtemcankmggmgoaaGreatDoor
namespace Go.Mv
open Go.RowKit Go.ChangeShapes Go.WideShapes
section
variable {H : Type} {enc : TypeId × Value → H} {P : Program} {w : World} {base : Nat} {held : Bool} {spare : Nat → Bool}
def z0Y (P : Program) (t : TypeId) (d : DataW H) : Prop := ∀ k ∈ d.weights P t, k ≤ 140737488351232
def Reads (enc : TypeId × Value → H) (P : Program) (w : World) (spare : Nat → Bool) (held : Bool) (t : TypeId) (cs : List Value) : Prop := ∃ n y, DataW.trod enc P w 0 spare held n t cs = some y ∧ z0Y P t y.1
theorem Reads.string {t : TypeId} {cs : List Value} (ht : P.underlying t = some .string) (h : Reads enc P w spare held t cs) : ∃ l : List UInt8, cs = [.string (mkS l)] ∧ l.length ≤ 140737488351232 := by
 obtain ⟨n, y, h, hf⟩ := h
 obtain ⟨s, h1, h2, h3⟩ := DataW.trod_string ht h
 refine ⟨s.data.toList, by rw [h1, f0X], ?_⟩
 rw [h2] at hf
 have := hf s.data.toList.length (by simp [DataW.weights])
 simpa using this
theorem Reads.int {t : TypeId} {k : IntKind} {cs : List Value} (ht : P.underlying t = some (.int k)) (h : Reads enc P w spare held t cs) : ∃ n : Int, cs = [.int k n] ∧ (Lit.int k n).wf = true := by
 obtain ⟨n, y, h, hf⟩ := h
 obtain ⟨s, h1, h2, h3⟩ := DataW.trod_int ht h
 exact ⟨s, h1, h3⟩
theorem h0F {ts : List TypeId} {ds : List (DataW H)} {j : Nat} {t : TypeId} {d : DataW H} (ht : ts[j]? = some t) (hd : ds[j]? = some d) : ∀ n ∈ d.weights P t, n ∈ DataW.weightsEach P ts ds := DataW.weights_mem_each ht hd
theorem Reads.struct {t : TypeId} {fs : Array Field} {cs : List Value} (ht : P.underlying t = some (.struct fs)) (h : Reads enc P w spare held t cs) : cs.length = P.cellsOf t ∧ ∀ (i : Nat) (f : Field), fs[i]? = some f → ∀ (u : TypeId) (o k : Nat), f.type = u → f.offset = o → P.cellsOf u = k → Reads enc P w spare held u ((cs.drop o).take k) := by
 obtain ⟨n, y, h, hf⟩ := h
 obtain ⟨xs, m, -, hx, hl, hxl, hi⟩ := DataW.trod_struct ht h
 refine ⟨hl, fun i f hfi u o k hu ho hk => ?_⟩
 subst hu ho hk
 have h1 := hi i f hfi
 have hlt : i < xs.length := by
  rw [hxl]; exact (Array.getElem?_eq_some_iff.1 hfi).1
 rw [List.getElem?_eq_getElem hlt] at h1
 refine ⟨m, _, h1, ?_⟩
 intro k hk
 refine hf k ?_
 rw [hx]
 simp only [DataW.weights, ht]
 exact h0F (j := i) (by simp [hfi]) (by simp [List.getElem?_eq_getElem hlt]) k hk
end
end Go.Mv
namespace Go.Proofs.YtemcankmggmgoaaGreatDoor
open Go.RowKit Go.Mv Mvp Mvt
def drE (l : List UInt8) (path : List Nat) : Nat := if l.length ≠ 32 then 2 else if 16 < path.length then 1 else 0
def drS (l lb : List UInt8) (path : List Nat) : List UInt8 := if l.length ≠ 32 then [] else if 16 < path.length then [] else c0S h0N [e0i l path, lb]
def srS (m : Md) (l lb : List UInt8) (path : List Nat) : List UInt8 := if l.length ≠ 32 then [] else if 16 < path.length then [] else b0o (scN m.M (c0S h0N [e0i l path, lb]))
theorem y0D (l : List UInt8) (path : List Nat) (h : l.length ≠ 32 ∨ 16 < path.length) : drE l path = (if l.length ≠ 32 then 2 else 1) := by
 unfold drE
 by_cases h1 : l.length = 32
 ·rw [if_neg (by simpa using h1), if_pos (by omega), if_neg (by simpa using h1)]
 ·rw [if_pos h1, if_pos h1]
theorem w0R (m : Md) (l lb : List UInt8) (path : List Nat) (h : l.length ≠ 32 ∨ 16 < path.length) : drS l lb path = [] ∧ srS m l lb path = [] := by
 unfold drS srS
 by_cases h1 : l.length = 32
 ·rw [if_neg (by simpa using h1), if_pos (by omega), if_neg (by simpa using h1), if_pos (by omega)]; exact ⟨rfl, rfl⟩
 ·rw [if_pos h1, if_pos h1]; exact ⟨rfl, rfl⟩
theorem w0S (m : Md) (l lb : List UInt8) (path : List Nat) (h1 : l.length = 32) (h2 : ¬ 16 < path.length) : drE l path = 0 ∧ drS l lb path = c0S h0N [e0i l path, lb] ∧ srS m l lb path = b0o (scN m.M (c0S h0N [e0i l path, lb])) := by
 unfold drE drS srS
 refine ⟨?_, ?_, ?_⟩ <;> rw [if_neg (by simpa using h1), if_neg h2]
theorem l0q (m : Md) (hk : KindOf 1 m) (l : List UInt8) (s : ByteArray) (p : Option Addr) (d : Nat) (path : List Nat) (w : World) (hs : s.size ≤ 50000) (hx : ∀ x ∈ path, x < 4294967296) (hr : Rd w p path.length (o0L path)) :
  Calls Tryz.prog 12 #[.string (mkS l), .string s, .slice p path.length d] w fun e w' => e = .returned (.tuple #[.string (mkS (srS m l s.data.toList path)), .int .i64 (drE l path : Nat)]) ∧ Fr Nob w w' := by
 by_cases hb : l.length ≠ 32 ∨ 16 < path.length
 ·refine (l0p (mkS l) _ p path.length d w (by rw [a0w]; exact hb)).mono fun e w' h => ?_
  obtain ⟨h3, rfl⟩ := h
  refine ⟨?_, Fr.refl _ _⟩
  rw [h3, y0D _ _ hb, (w0R m _ _ _ hb).2, a0w]
  by_cases h1 : l.length = 32
  ·rw [if_neg (by simpa using h1), if_neg (by simpa using h1)]; rfl
  ·rw [if_pos h1, if_pos h1]; rfl
 ·refine (m0A m hk l s p d path w (by omega) hs (by omega) hx hr).mono fun e w' h => ?_
  refine ⟨?_, h.2⟩
  rw [h.1, (w0S m l s.data.toList path (by omega) (by omega)).1, (w0S m l s.data.toList path (by omega) (by omega)).2.2]; rfl
attribute [local irreducible] a0J lw mix cw b0t b0G b0q a0P a0u beN laid b0o b0H a0M a0V elN mdL b0R b0l b0B toB a0v a0I b0m c0h a0C c0i b0k a0G c0S e0i scN h0g drE drS srS
end Go.Proofs.YtemcankmggmgoaaGreatDoor
namespace Mvq
open Mvp
def frc {α : Type} (n : Nat) (f : Nat → α) : α := Nat.rec (f 0) (fun k _ => f (k + 1)) n
theorem y0E {α : Type} (n : Nat) (f : Nat → α) : frc n f = f n := by cases n <;> rfl
def hX : Nat := 0x79BE667EF9DCBBAC55A06295CE870B07029BFCDB2DCE28D959F2815B16F81798
def hY : Nat := 0x483ADA7726A3C4655DA4FBFC0E1108A8FD17B448A68554199C47D08FFB10D4B8
def hP : Pt := .A (kc hX) (kc hY)
theorem f0r : onC hP := by
 show kc hY * kc hY = kc hX * kc hX * kc hX + 7
 decide
abbrev qN : Nat := 115792089237316195423570985008687907852837564279074904382605163141518161494337
def i0B (e : Nat) : Nat → Nat → Nat → Nat → Bool
 | 0, X, Y, Z => !(Z % fP == 0) && X % fP == hX * Z % fP && (Y + hY * Z) % fP == 0
 | k + 1, X, Y, Z =>
  !(Z % fP == 0) &&
  frc (3 * (X * X) % fP) fun d => frc (2 * Y * Z % fP) fun u => frc (u * u % fP) fun uu => frc (uu * u % fP) fun uuu => frc ((d * d * Z + (fP - 2 * X * uu % fP)) % fP) fun t =>
  frc (u * t % fP) fun X' => frc ((d * (X * uu + (fP - t % fP)) + (fP - Y * uuu % fP)) % fP) fun Y' => frc (uuu * Z % fP) fun Z' =>
  if e / 2 ^ k % 2 = 1 then
   !(Z' % fP == 0) && 
   frc ((hY * Z' + (fP - Y' % fP)) % fP) fun d => frc ((hX * Z' + (fP - X' % fP)) % fP) fun u => !(u % fP == 0) && frc (u * u % fP) fun uu => frc (uu * u % fP) fun uuu => frc ((d * d * Z' + (fP - uuu % fP) + (fP - 2 * X' * uu % fP)) % fP) fun t =>
   frc (u * t % fP) fun X2 => frc ((d * (X' * uu + (fP - t % fP)) + (fP - Y' * uuu % fP)) % fP) fun Y2 => frc (uuu * Z' % fP) fun Z2 => i0B e k X2 Y2 Z2
  else i0B e k X' Y' Z'
theorem w0T : i0B (qN - 1) 255 hX hY 1 = true := by decide +kernel
theorem y0F (a b : Nat) (h : a % fP = b % fP) : kc a = kc b := by rw [← e0j a, h, e0j]
theorem u0d (a : Nat) (h : a % fP ≠ 0) : kc a ≠ 0 := by
 intro e
 have := r0j a
 rw [e, decide_eq_true rfl] at this
 exact h (by simpa using this)
theorem l0B (a : Nat) : kc (a % fP) = kc a := e0j a
theorem j0H (e : Nat) : ∀ (k X Y Z : Nat), i0B e k X Y Z = true → nm (kc X) (kc Y) (kc Z) = b0D (e / 2 ^ k) hP → b0D e hP = o0U hP
 | 0, X, Y, Z, h, hp => by
  simp only [i0B, Bool.and_eq_true, Bool.not_eq_true', beq_iff_eq, beq_eq_false_iff_ne, ne_eq] at h
  obtain ⟨⟨hz, hx⟩, hy⟩ := h
  rw [Nat.pow_zero, Nat.div_one] at hp
  rw [← hp]
  have hx' := y0F _ _ hx
  rw [a0E] at hx'
  have hy' : kc (Y + hY * Z) = 0 := by
   have := r0j (Y + hY * Z)
   rw [hy] at this
   simpa using this
  rw [f0E, a0E] at hy'
  exact o0V (u0d _ hz) hx' (by grind -lia -linarith)
 | k + 1, X, Y, Z, h, hp => by
  have hon : onC (nm (kc X) (kc Y) (kc Z)) := by rw [hp]; exact b0x f0r _
  simp only [i0B, y0E, Bool.and_eq_true, Bool.not_eq_true', beq_eq_false_iff_ne, ne_eq] at h
  obtain ⟨hz, h⟩ := h
  have hd := k0W hon (u0d _ hz) _ _ _ _ _ _ rfl rfl rfl rfl rfl rfl
  rw [hp] at hd
  have hbit := n0E f0r e k
  generalize hd0 : 3 * (X * X) % fP = d at h
  generalize hu0 : 2 * Y * Z % fP = u at h
  generalize huu : u * u % fP = uu at h
  generalize huuu : uu * u % fP = uuu at h
  generalize ht : (d * d * Z + (fP - 2 * X * uu % fP)) % fP = t at h
  generalize hX' : u * t % fP = X' at h
  generalize hY' : (d * (X * uu + (fP - t % fP)) + (fP - Y * uuu % fP)) % fP = Y' at h
  generalize hZ' : uuu * Z % fP = Z' at h
  have k2 : kc 2 = 2 := by decide
  have k3' : kc 3 = 3 := by decide
  have d1 : kc d = 3 * (kc X * kc X) := by rw [← hd0, l0B, a0E, a0E, k3']
  have u1 : kc u = 2 * kc Y * kc Z := by rw [← hu0, l0B, a0E, a0E, k2]
  have uu1 : kc uu = kc u * kc u := by rw [← huu, l0B, a0E]
  have uuu1 : kc uuu = kc uu * kc u := by rw [← huuu, l0B, a0E]
  have t1 : kc t = kc d * kc d * kc Z - 2 * kc X * kc uu := by rw [← ht, l0B, c0v, a0E, a0E, a0E, a0E, k2]
  have X1 : kc X' = kc u * kc t := by rw [← hX', l0B, a0E]
  have Y1 : kc Y' = kc d * (kc X * kc uu - kc t) - kc Y * kc uuu := by rw [← hY', l0B, c0v, a0E, c0v, a0E, a0E]
  have Z1 : kc Z' = kc uuu * kc Z := by rw [← hZ', l0B, a0E]
  rw [← d1, ← u1, ← uu1, ← uuu1, ← t1, ← X1, ← Y1, ← Z1] at hd
  rw [← hd] at hbit
  clear d1 u1 uu1 uuu1 t1 X1 Y1 Z1 hd0 hu0 huu huuu ht hX' hY' hZ'
  have hon' : onC (nm (kc X') (kc Y') (kc Z')) := by rw [hd]; exact c0u (b0x f0r _) (b0x f0r _)
  by_cases hb : e / 2 ^ k % 2 = 1
  ·rw [if_pos hb] at h hbit
   simp only [Bool.and_eq_true, Bool.not_eq_true', beq_eq_false_iff_ne, ne_eq] at h
   obtain ⟨hz', hu', h⟩ := h
   have one : kc 1 = 1 := by decide
   have hnP : nm (kc hX) (kc hY) (kc 1) = hP := o0V (by decide) (by rw [one]; grind -lia -linarith) (by rw [one]; grind -lia -linarith)
   have hs := r0k (X2 := kc hX) (Y2 := kc hY) (Z2 := kc 1) hon' (by rw [hnP]; exact f0r) (u0d _ hz') (by decide) (kc (hY * Z')) (kc (hX * Z')) (kc Y') (kc X') (kc (hY * Z') - kc Y') (kc (hX * Z') - kc X') (kc Z') _ _ _ (a0E _ _) (a0E _ _) (by rw [one]; grind -lia -linarith) (by rw [one]; grind -lia -linarith) rfl rfl
    (by rw [← c0v]; exact u0d _ (by rw [Nat.mod_mod] at hu'; exact hu')) (by rw [one]; grind -lia -linarith) rfl rfl rfl
   rw [hnP] at hs
   generalize hd0 : (hY * Z' + (fP - Y' % fP)) % fP = d at h
   generalize hu0 : (hX * Z' + (fP - X' % fP)) % fP = u at h
   generalize huu : u * u % fP = uu at h
   generalize huuu : uu * u % fP = uuu at h
   generalize ht : (d * d * Z' + (fP - uuu % fP) + (fP - 2 * X' * uu % fP)) % fP = t at h
   have d1 : kc d = kc (hY * Z') - kc Y' := by rw [← hd0, l0B, c0v]
   have u1 : kc u = kc (hX * Z') - kc X' := by rw [← hu0, l0B, c0v]
   have uu1 : kc uu = kc u * kc u := by rw [← huu, l0B, a0E]
   have uuu1 : kc uuu = kc uu * kc u := by rw [← huuu, l0B, a0E]
   have t1 : kc t = kc d * kc d * kc Z' - kc uuu - 2 * kc X' * kc uu := by rw [← ht, l0B, c0v, c0v, a0E, a0E, a0E, a0E, k2]
   rw [← d1, ← u1, ← uu1, ← uuu1, ← t1] at hs
   refine j0H e k _ _ _ h ?_
   rw [hbit, ← hs, l0B, l0B, l0B, a0E, c0v, a0E, c0v, a0E, a0E, a0E]
  ·rw [if_neg hb] at h hbit
   rw [b0U] at hbit
   exact j0H e k _ _ _ h hbit.symm
theorem y0G : b0D qN hP = .O := by
 have one : kc 1 = 1 := by decide
 have hnP : nm (kc hX) (kc hY) (kc 1) = hP := o0V (by decide) (by rw [one]; grind -lia -linarith) (by rw [one]; grind -lia -linarith)
 have h := j0H (qN - 1) 255 hX hY 1 w0T (by rw [hnP, show (qN - 1) / 2 ^ 255 = 1 by decide]; rfl)
 have e : qN = (qN - 1) + 1 := by decide
 rw [e]
 show b0d (b0D (qN - 1) hP) hP = .O
 rw [h, c0B]
 exact d0S
theorem h0G {a b c : Pt} (ha : onC a) (hb : onC b) (hc : onC c) (h : b0d a b = b0d a c) : b = c := by
 have h1 : b0d (o0U a) (b0d a b) = b0d (o0U a) (b0d a c) := by rw [h]
 rw [← a0R (d0n ha) ha hb, ← a0R (d0n ha) ha hc, c0B (o0U a) a, d0S] at h1
 exact h1
theorem l0r {a b : Pt} (ha : onC a) (hb : onC b) (h : b0d a b = .O) : b = o0U a := h0G ha hb (d0n ha) (by rw [h, d0S])
theorem y0H {p : Pt} (hp : onC p) (h : b0d p p = .O) : p = .O := by
 have e := l0r hp hp h
 cases p with
 | O => rfl
 | A x y =>
  exfalso
  have hy : y = -y := by
   have : Pt.A x y = Pt.A x (-y) := e
   injection this
  have h2 : (2 : K) * y = 0 := by grind -lia -linarith
  exact (a0x h2).elim i0t (t0A hp)
theorem l0s {a b c d : Pt} (ha : onC a) (hb : onC b) (hc : onC c) (hd : onC d) : b0d (b0d a b) (b0d c d) = b0d (b0d a c) (b0d b d) := by
 rw [a0R ha hb (c0u hc hd), ← a0R hb hc hd, c0B b c, a0R hc hb hd, ← a0R ha hc (c0u hb hd)]
def InH (p : Pt) : Prop := ∃ n, p = b0D n hP
theorem InH.on {p : Pt} (h : InH p) : onC p := by obtain ⟨n, rfl⟩ := h; exact b0x f0r n
theorem InH.add {p q : Pt} (h : InH p) (k : InH q) : InH (b0d p q) := by
 obtain ⟨m, rfl⟩ := h
 obtain ⟨n, rfl⟩ := k
 exact ⟨m + n, (b0V f0r m n).symm⟩
theorem y0I (n : Nat) : b0D (qN * n) hP = .O := by rw [j0t f0r, y0G, r0g]
theorem InH.neg {p : Pt} (h : InH p) : InH (o0U p) := by
 obtain ⟨n, rfl⟩ := h
 refine ⟨(qN - 1) * n, (l0r (b0x f0r n) (b0x f0r _) ?_).symm⟩
 rw [← b0V f0r, show n + (qN - 1) * n = qN * n by have h := Nat.add_mul 1 (qN - 1) n; rw [Nat.one_mul, show 1 + (qN - 1) = qN by decide] at h; exact h.symm, y0I]
theorem InH.half {p : Pt} (hp : onC p) (h : InH (b0d p p)) : InH p := by
 obtain ⟨n, hn⟩ := h
 have hm : onC (b0D (n * ((qN + 1) / 2)) hP) := b0x f0r _
 have e : b0d (b0D (n * ((qN + 1) / 2)) hP) (b0D (n * ((qN + 1) / 2)) hP) = b0D n hP := by
  rw [← b0V f0r, ← Nat.mul_add, show (qN + 1) / 2 + (qN + 1) / 2 = qN + 1 by decide, Nat.mul_add, Nat.mul_one, b0V f0r, Nat.mul_comm n, y0I]
  rfl
 refine ⟨n * ((qN + 1) / 2), ?_⟩
 have h2 : b0d (b0d p (o0U (b0D (n * ((qN + 1) / 2)) hP))) (b0d p (o0U (b0D (n * ((qN + 1) / 2)) hP))) = .O := by
  rw [l0s hp (d0n hm) hp (d0n hm), hn, ← e, l0s hm hm (d0n hm) (d0n hm), d0S]
  rfl
 have h3 := y0H (c0u hp (d0n hm)) h2
 have h4 : b0d (o0U (b0D (n * ((qN + 1) / 2)) hP)) p = b0d (o0U (b0D (n * ((qN + 1) / 2)) hP)) (b0D (n * ((qN + 1) / 2)) hP) := by
  rw [c0B, h3, c0B, d0S]
 exact h0G (d0n hm) hp hm h4
def enc : Pt → Nat
 | .O => 0
 | .A x y => 1 + 2 * x.val + y.val % 2
end Mvq
namespace Mvp
end Mvp
namespace Mvq
open Mvp
end Mvq
namespace Mvp
theorem w0U (Q : Nat) (h : lw Q 0 + 1 < 18446744073709551616) : (a0J 4 Q).set 0 (lw Q 0 + 1) = a0J 4 (Q + 1) := by
 rw [u0F, u0F]
 have e0 : lw (Q + 1) 0 = lw Q 0 + 1 := by rw [o0b] at h ⊢; rw [o0b]; omega
 have e : (Q + 1) / 18446744073709551616 = Q / 18446744073709551616 := by rw [o0b] at h; omega
 have ed : ∀ i, lw (Q + 1) (1 + i) = lw Q (1 + i) := by
  intro i
  rw [← b0Z, ← b0Z, Nat.pow_one, show B64 = 18446744073709551616 from rfl, e]
 have e1 := ed 0
 have e2 := ed 1
 have e3 := ed 2
 simp only [Nat.add_zero] at e1
 rw [e0, e1, show (2 : Nat) = 1 + 1 from rfl, show (3 : Nat) = 1 + 2 from rfl, e2, e3]
 rfl
theorem h0H (p : Nat) (h : p < B64 ^ 4) : p / 4 % 2 ^ 254 = p / 4 := Nat.mod_eq_of_lt (by
 rw [show B64 ^ 4 = 2 ^ 254 * 4 from rfl] at h
 generalize 2 ^ 254 = z at *
 omega)
end Mvp
namespace Go.Proofs.YtemcankmggmgoaaGreatDoor
section
open Go.RowKit Go.Mv Mvp
theorem n0T (q b k q' : Nat) (hb : b < 2) (hs : (a0J 4 q).set (k / 64) (lw q (k / 64) ||| b * 2 ^ (k % 64)) = a0J 4 q') :
  (cw 4 q).set (k / 64) (.int .u64 (bits .or .u64 (lw q (k / 64) : Nat) (IntKind.u64.wrap ((b : Int) * 2 ^ (k % 64))))) = cw 4 q' := by
 have h1 : b * 2 ^ (k % 64) < 18446744073709551616 := by
  have h2 : 2 ^ (k % 64) ≤ 2 ^ 63 := Nat.pow_le_pow_right (by decide) (by omega)
  have h3 := Nat.mul_le_mul_right (2 ^ (k % 64)) (show b ≤ 1 by omega)
  rw [Nat.one_mul] at h3
  have h4 : (2 : Nat) ^ 63 = 9223372036854775808 := by decide
  rw [h4] at h2
  generalize 2 ^ (k % 64) = z at *
  generalize b * z = y at *
  omega
 have h := bits_or_u64_nat (lw q (k / 64)) (b * 2 ^ (k % 64)) (c0n _ _) h1
 have hw : IntKind.u64.wrap ((b : Int) * 2 ^ (k % 64)) = ((b * 2 ^ (k % 64) : Nat) : Int) := by
  rw [show ((b : Int) * 2 ^ (k % 64)) = ((b * 2 ^ (k % 64) : Nat) : Int) by rw [Int.natCast_mul, Int.natCast_pow]; rfl, IntKind.wrap_u64]
  exact congrArg Int.ofNat (Nat.mod_eq_of_lt h1)
 rw [hw, h, cw, j0U, hs, cw]
theorem l0t (Q : Nat) (h : lw Q 0 + 1 < 18446744073709551616) : (cw 4 Q).set 0 (.int .u64 ((lw Q 0 : Int) + 1)) = cw 4 (Q + 1) := by
 show (us (a0J 4 Q)).set 0 (.int .u64 ((lw Q 0 + 1 : Nat) : Int)) = us (a0J 4 (Q + 1))
 rw [j0U, w0U Q h]
theorem r0R (x y : Nat) (hx : x < B64 ^ 4) (hy : y < B64 ^ 4) (ty : TypeId) (hu : Tryz.prog.underlying ty = some (.array 4 23)) (hg : Tryz.prog.eqGuardType Tryz.prog.depth ty = false) {o : Oper} {a : Act} {w : World} {K : Act → World → Prop} {Q : Exit → Act → World → Prop} {p q : Operand} {T : TypeId}
  (ho : o.op = .binOp .neq ty p q T) (hp : a.eval p = i4 x) (hq : a.eval q = .agg (cw 4 y).toArray) {b : Bool} (hb : decide (x = y) = b) (hk : K (a.put o.dst (.bool !b)) w) : o.wp Tryz.prog a w K Q := by
 have h1 := n0f x y ty hg p q w
 have h2 : (binOp .neq ty (i4 x) (.agg (cw 4 y).toArray)).run Tryz.prog w = .ok (.bool !b) w := by
  show (do pure (Value.bool (!(← Op.equal ty (.agg (cw 4 x).toArray) (.agg (cw 4 y).toArray))))).run Tryz.prog w = _
  simp only [Sem.run_bind, j0a hu Tryz.underlying23 c0x x y w, Result.andThen_ok]
  rw [Nat.mod_eq_of_lt hx, Nat.mod_eq_of_lt hy, hb]
  rfl
 unfold Oper.wp execOp
 simp only [ho, hp, hq, Sem.run_bind, h1, h2, Result.andThen_ok, Sem.run_pure]
 exact hk
attribute [local irreducible] a0J lw mix cw b0t b0G b0q a0P a0u beN laid b0o b0H
theorem p0j (p a n R : Nat) (w : World) (hp0 : 0 < p) (hp : p < B64 ^ 4) (hn : p / 4 + 1 = n) (hn4 : n < B64 ^ 4) (ha : a < B64 ^ 4) (hlow : lw (p / 4) 0 + 1 < 18446744073709551616) (hR : R < p) (hpow : ∀ wx, Calls Tryz.prog 87 #[fv p, i4 a, i4 n] wx fun e w' => e = .returned (i4 R) ∧ Fr Nob wx w') (hb : decide (R * R % p = a) = true) (hpar : R % 2 = 0) :
  Calls Tryz.prog 114 #[fv p, i4 a] w fun e w' => e = .returned (.tuple #[i4 R, .bool true]) ∧ Fr Nob w w' := by
 have HP0 := qH hp0
 have HP := qH hp
 have HN4 := qH hn4
 have HA := qH ha
 have HLOW := qH hlow
 have HPOW := qH hpow
 have HB := qH hb
 have HR4 := qH (Nat.lt_trans hR hp)
 have HRP := qH (Nat.le_of_lt hR)
 have HRR := qH (show R * R % p < B64 ^ 4 from Nat.lt_trans (Nat.mod_lt _ hp0) hp)
 have hlc := l0t (p / 4) hlow
 rw [hn] at hlc
 have HLC := qH hlc
 have HNE := qH hn
 have HPAR := qH hpar
 clear hp0 hp hn4 ha hlow hpow hb hR hlc hn hpar
 have st0 := St.start Nob w
 go_enter Tryz.func114, Tryz.ntmps114
 go_wp2_with (with_reducible refine wSk 2 ?_)
 refine a0m st0 rfl rfl rfl (cw 4 p ++ cw 4 (B64 ^ 4 - p)) rfl ?_
 intro g2 w1 st1
 clear st0
 go_wp2_with (with_reducible refine wSk 3 ?_)
 refine a0m st1 rfl rfl rfl (cw 4 a) rfl ?_
 intro g3 w2 st2
 clear st1
 go_wp2_with (with_reducible refine wSk 4 ?_)
 refine a0b st2 rfl rfl (z := zAd) (by kernel_rfl) (cw 4 0) (by rw [a0f]; rfl) ?_
 intro g4 w3 st3
 clear st2
 go_wp2_with (with_reducible refine wSk 6 ?_)
 refine a0b st3 rfl rfl (z := zAd) (by kernel_rfl) (cw 4 0) (by rw [a0f]; rfl) ?_
 intro g6 w4 st4
 clear st3
 go_wp2
 go_loopw [7] (fun i wr => ∃ k : Nat, k ≤ 254 ∧ i = .int .i64 (k : Int) ∧ St Nob w wr [(g2, cw 4 p ++ cw 4 (B64 ^ 4 - p), 66), (g3, cw 4 a, 50), (g4, cw 4 0, 50), (g6, cw 4 (p / 4 % 2 ^ k), 50)]) (fun i _ => 254 - (intOf i).toNat)
 case atStart => exact ⟨0, by omega, rfl, by rw [Nat.pow_zero, Nat.mod_one]; exact st4⟩
 case round =>
  obtain ⟨k, hk, rfl, st⟩ := hrel
  clear st4
  by_cases hlt : k < 254
  ·have hltI : (k : Int) < 254 := by omega
   have hstep := n0e 4 (p / 4 % 2 ^ k) k (p / 2 ^ (k + 2) % 2) (Nat.mod_lt _ (Nat.pow_pos (by decide))) (Nat.mod_lt _ (by decide)) (by omega)
   rw [← f0O] at hstep
   have hbit := fun wx => g0d p (k + 2) wx (by omega)
   have hb2 : p / 2 ^ (k + 2) % 2 < 2 := Nat.mod_lt _ (by decide)
   generalize p / 2 ^ (k + 2) % 2 = b at *
   generalize hq' : p / 4 % 2 ^ (k + 1) = q' at *
   have HQ := qH hq'
   clear hq'
   generalize p / 4 % 2 ^ k = q at *
   have HCELL := qH (n0T q b k q' hb2 hstep)
   have HBIT := qH hbit
   clear hstep hbit hb2
   have hlo : (0 : Int) ≤ (k : Int) / 64 ∧ (k : Int) / 64 < 4 := by omega
   have hlo2 : (0 : Int) ≤ (k : Int) % 64 ∧ (k : Int) % 64 < 64 := by omega
   have e1 : IntKind.i64.wrap ((k : Int) / 64) = (k : Int) / 64 := IntWalk.i64_in _ (by omega)
   have e2 : (k : Int).tmod 64 = (k : Int) % 64 := Int.tmod_eq_emod_of_nonneg (by omega)
   have e3 : IntKind.i64.wrap ((k : Int) + 2) = (k : Int) + 2 := IntWalk.i64_in _ (by omega)
   have e4 : ((k : Int) / 64).toNat = k / 64 := by omega
   have e5 : ((k : Int) % 64).toNat = k % 64 := by omega
   go_wp2_with fail
   refine wp_region_noPanic ?_
   refine a0p (fun wx => St Nob w wx [(g2, cw 4 p ++ cw 4 (B64 ^ 4 - p), 66), (g3, cw 4 a, 50), (g4, cw 4 0, 50), (g6, cw 4 q, 50)]) 16 (.w 0 (.w 1 (.w 2 (.w 3 (.w 4 (.t 5 (.w 6 (.t 7 (.w 8 (.w 9 (.w 11 (.w 12 (.r 10 (.w 13 (.w 14 (.w 15 (.m 16 .nil))))))))))))))))) (by kernel_rfl) (by kernel_rfl) st.drew (fun _ _ _ _ _ h => h) ?_
   have hd4 := st.drew
   clear st
   refine a0l (v := ?_) rfl rfl (fun wx => ?_) ?_
   rotate_left 1
   ·(go_simp; with_reducible rfl)
   try simp only [clL]
   refine a0l (v := ?_) rfl rfl (fun wx => ?_) ?_
   rotate_left 1
   ·(go_simp; with_reducible rfl)
   try simp only [clL]
   refine a0l (v := ?_) rfl rfl (fun wx => ?_) ?_
   rotate_left 1
   ·(go_simp; with_reducible rfl)
   try simp only [clL]
   refine a0l (v := ?_) rfl rfl (fun wx => ?_) ?_
   rotate_left 1
   ·(go_simp; with_reducible rfl)
   try simp only [clL]
   refine a0l (v := ?_) rfl rfl (fun wx => ?_) ?_
   rotate_left 1
   ·(go_simp; with_reducible rfl)
   try simp only [clL]
   refine d0i (v := ?_) rfl rfl (fun wx hS => ?_) ?_
   rotate_left 1
   ·(have hc := (St.at hS 3 rfl).cell (a0D 4 q (k / 64) (by omega)); clear hS; go_simp; with_reducible rfl)
   try simp only [clL]
   refine a0l (v := ?_) rfl rfl (fun wx => ?_) ?_
   rotate_left 1
   ·(go_simp; with_reducible rfl)
   try simp only [clL]
   refine a0s rfl rfl rfl rfl (cw 4 p) (fun wx hS => St.rangeL hS 0 rfl 0 _ (f0u 4 4 _ _)) Tryz.underlying50 rfl (by first | (rw [a0a]; kernel_rfl) | (simp only [List.length_append, a0a]; kernel_rfl)) ?_
   try simp only [clL]
   refine a0l (v := ?_) rfl rfl (fun wx => ?_) ?_
   rotate_left 1
   ·(go_simp; with_reducible rfl)
   try simp only [clL]
   refine a0l (v := ?_) rfl rfl (fun wx => ?_) ?_
   rotate_left 1
   ·(go_simp; with_reducible rfl)
   try simp only [clL]
   refine a0l (v := ?_) rfl rfl (fun wx => ?_) ?_
   rotate_left 1
   ·(go_simp; with_reducible rfl)
   try simp only [clL]
   refine a0l (v := ?_) rfl rfl (fun wx => ?_) ?_
   rotate_left 1
   ·(go_simp; with_reducible rfl)
   try simp only [clL]
   refine a0A rfl rfl ?_
   go_simp
   refine (HBIT.out _).mono ?_
   rintro e' w5 ⟨rfl, hf5⟩
   have st5 := hd4.keep hf5
   clear hf5
   clear hd4
   refine ⟨st5, ?_⟩
   try simp only [clL]
   refine a0l (v := ?_) rfl rfl (fun wx => ?_) ?_
   rotate_left 1
   ·(go_simp; with_reducible rfl)
   try simp only [clL]
   refine a0l (v := ?_) rfl rfl (fun wx => ?_) ?_
   rotate_left 1
   ·(go_simp; with_reducible rfl)
   try simp only [clL]
   refine a0l (v := ?_) rfl rfl (fun wx => ?_) ?_
   rotate_left 1
   ·(go_simp; with_reducible rfl)
   try simp only [clL]
   refine a0r rfl rfl ?_
   have f1 := (st5.at 3 rfl).free (k / 64) (by rw [a0a]; omega)
   have c1 := (st5.at 3 rfl).cell (a0D 4 q (k / 64) (by omega))
   go_simp
   have st6 := st5.set 3 rfl (k / 64) (.int .u64 (bits .or .u64 (lw q (k / 64) : Nat) (IntKind.u64.wrap ((b : Int) * 2 ^ (k % 64)))))
   simp only [List.set_cons_zero, List.set_cons_succ] at st6
   rw [HCELL.out] at st6
   clear f1 c1 st5
   try simp only [clL]
   refine a0k ?_
   refine NoPanic.normal ?_
   go_wp2
   go_roundw
   case rel => exact ⟨k + 1, by omega, by go_num, by rw [HQ.out]; exact st6⟩
   case measure => simp [intOf]; omega
  ·have hge : ¬ ((k : Int) < 254) := by omega
   have hk2 : k = 254 := by omega
   rw [hk2, h0H p HP.out] at st
   clear hk2
   generalize p / 4 = Q at *
   have c1 := (st.at 3 rfl).cell (a0D 4 Q 0 (by decide))
   have f1 := (st.at 3 rfl).free 0 (by rw [a0a]; decide)
   have st9 := st.set 3 rfl 0 (.int .u64 ((lw Q 0 : Int) + 1))
   have hlow := HLOW.out
   have e1 : IntKind.u64.wrap ((lw Q 0 : Int) + 1) = (lw Q 0 : Int) + 1 := IntWalk.u64_in _ (by omega)
   clear st
   go_wp2_with (with_reducible refine wSk 33 ?_)
   simp only [List.set_cons_zero, List.set_cons_succ] at st9
   rw [HLC.out] at st9
   clear c1 f1 hlow e1
   refine a0o st9 0 rfl rfl rfl Tryz.underlying66 rfl rfl (by first | (rw [a0a]; kernel_rfl) | (simp only [List.length_append, a0a]; kernel_rfl)) ?_
   go_wp2_with (with_reducible refine wSk 34 ?_)
   refine a0h st9 1 rfl rfl rfl Tryz.underlying50 rfl (by first | (rw [a0a]; kernel_rfl) | (simp only [List.length_append, a0a]; kernel_rfl)) ?_
   go_wp2_with (with_reducible refine wSk 35 ?_)
   refine a0h st9 3 rfl rfl rfl Tryz.underlying50 rfl (by first | (rw [a0a]; kernel_rfl) | (simp only [List.length_append, a0a]; kernel_rfl)) ?_
   go_wp2_with fail
   refine (HPOW.out _).mono ?_
   rintro e' w10 ⟨rfl, hf10⟩
   have st10 := st9.keep hf10
   clear st9 hf10
   go_wp2_with (with_reducible refine wSk 8 ?_)
   refine a0b st10 rfl rfl (z := zAd) (by kernel_rfl) (cw 4 0) (by rw [a0f]; rfl) ?_
   intro g8 w11 st11
   clear st10
   go_wp2_with (with_reducible refine wSn ?_)
   refine a0d st11 4 rfl rfl rfl rfl rfl (by first | (simp only [a0a]; done) | (simp only [List.length_append, a0a]; done)) (by first | (rw [a0a]; kernel_rfl) | (simp only [List.length_append, a0a]; kernel_rfl)) (a0i _ _) ?_
   intro w12 st12
   clear st11
   go_wp2_with fail
   refine wp_region_noPanic ?_
   refine a0p (fun wx => St Nob w wx [(g2, cw 4 p ++ cw 4 (B64 ^ 4 - p), 66), (g3, cw 4 a, 50), (g4, cw 4 0, 50), (g6, cw 4 n, 50), (g8, cw 4 R, 50)]) 5 (.t 0 (.t 1 (.t 2 (.t 4 (.r 3 (.m 5 .nil)))))) (by kernel_rfl) (by kernel_rfl) st12.drew (fun _ _ _ _ _ h => h) ?_
   have hd12 := st12.drew
   clear st12
   refine a0s rfl rfl rfl rfl (cw 4 p ++ cw 4 (B64 ^ 4 - p)) (fun wx hS => St.rangeL hS 0 rfl 0 _ dZl) Tryz.underlying66 rfl (by first | (rw [a0a]; kernel_rfl) | (simp only [List.length_append, a0a]; kernel_rfl)) ?_
   try simp only [clL]
   refine a0s rfl rfl rfl rfl (cw 4 R) (fun wx hS => St.rangeL hS 4 rfl 0 _ dZl) Tryz.underlying50 rfl (by first | (rw [a0a]; kernel_rfl) | (simp only [List.length_append, a0a]; kernel_rfl)) ?_
   try simp only [clL]
   refine a0s rfl rfl rfl rfl (cw 4 R) (fun wx hS => St.rangeL hS 4 rfl 0 _ dZl) Tryz.underlying50 rfl (by first | (rw [a0a]; kernel_rfl) | (simp only [List.length_append, a0a]; kernel_rfl)) ?_
   try simp only [clL]
   refine a0s rfl rfl rfl rfl (cw 4 a) (fun wx hS => St.rangeL hS 1 rfl 0 _ dZl) Tryz.underlying50 rfl (by first | (rw [a0a]; kernel_rfl) | (simp only [List.length_append, a0a]; kernel_rfl)) ?_
   try simp only [clL]
   refine a0A rfl rfl ?_
   go_simp
   refine (g0H p R R _ HP0.out HP.out HR4.out HR4.out).mono ?_
   rintro e' w13 ⟨rfl, hf13⟩
   have st13 := hd12.keep hf13
   clear hf13
   clear hd12
   refine ⟨st13, ?_⟩
   try simp only [clL]
   refine a0r rfl rfl ?_
   refine r0R (R * R % p) a HRR.out HA.out 50 Tryz.underlying50 Tryz.eqGuardType50 rfl rfl rfl HB.out ?_
   try simp only [clL]
   refine a0k ?_
   refine NoPanic.normal ?_
   have c1 := (st13.at 4 rfl).cell (a0D 4 R 0 (by decide))
   have hla := f0x R
   rw [HPAR.out] at hla
   go_wp2_with (with_reducible refine wSk 51 ?_)
   refine a0h st13 4 rfl rfl rfl Tryz.underlying50 rfl (by first | (rw [a0a]; kernel_rfl) | (simp only [List.length_append, a0a]; kernel_rfl)) ?_
   go_wp2_with (with_reducible refine wSn ?_)
   refine a0d st13 2 rfl rfl rfl rfl rfl (by first | (simp only [a0a]; done) | (simp only [List.length_append, a0a]; done)) (by first | (rw [a0a]; kernel_rfl) | (simp only [List.length_append, a0a]; kernel_rfl)) (a0i _ _) ?_
   intro w14 st14
   clear st13
   have hr := st14.at 2 rfl
   have hfr := st14.fr
   clear st14
   go_wp2_with fail
   exact bodyPost_ret (a0Q rfl rfl hr Tryz.underlying50 (by first | (rw [a0a]; kernel_rfl) | (simp only [List.length_append, a0a]; kernel_rfl)) rfl) rfl ⟨rfl, hfr⟩
theorem r0S (p a n R : Nat) (w : World) (hp0 : 0 < p) (hp : p < B64 ^ 4) (hn : p / 4 + 1 = n) (hn4 : n < B64 ^ 4) (ha : a < B64 ^ 4) (hlow : lw (p / 4) 0 + 1 < 18446744073709551616) (hR : R < p) (hpow : ∀ wx, Calls Tryz.prog 87 #[fv p, i4 a, i4 n] wx fun e w' => e = .returned (i4 R) ∧ Fr Nob wx w') (hb : decide (R * R % p = a) = true) (hpar : R % 2 = 1) :
  Calls Tryz.prog 114 #[fv p, i4 a] w fun e w' => e = .returned (.tuple #[i4 ((p - R) % p), .bool true]) ∧ Fr Nob w w' := by
 have HP0 := qH hp0
 have HP := qH hp
 have HN4 := qH hn4
 have HA := qH ha
 have HLOW := qH hlow
 have HPOW := qH hpow
 have HB := qH hb
 have HR4 := qH (Nat.lt_trans hR hp)
 have HRP := qH (Nat.le_of_lt hR)
 have HRR := qH (show R * R % p < B64 ^ 4 from Nat.lt_trans (Nat.mod_lt _ hp0) hp)
 have hlc := l0t (p / 4) hlow
 rw [hn] at hlc
 have HLC := qH hlc
 have HNE := qH hn
 have HPAR := qH hpar
 clear hp0 hp hn4 ha hlow hpow hb hR hlc hn hpar
 have st0 := St.start Nob w
 go_enter Tryz.func114, Tryz.ntmps114
 go_wp2_with (with_reducible refine wSk 2 ?_)
 refine a0m st0 rfl rfl rfl (cw 4 p ++ cw 4 (B64 ^ 4 - p)) rfl ?_
 intro g2 w1 st1
 clear st0
 go_wp2_with (with_reducible refine wSk 3 ?_)
 refine a0m st1 rfl rfl rfl (cw 4 a) rfl ?_
 intro g3 w2 st2
 clear st1
 go_wp2_with (with_reducible refine wSk 4 ?_)
 refine a0b st2 rfl rfl (z := zAd) (by kernel_rfl) (cw 4 0) (by rw [a0f]; rfl) ?_
 intro g4 w3 st3
 clear st2
 go_wp2_with (with_reducible refine wSk 6 ?_)
 refine a0b st3 rfl rfl (z := zAd) (by kernel_rfl) (cw 4 0) (by rw [a0f]; rfl) ?_
 intro g6 w4 st4
 clear st3
 go_wp2
 go_loopw [7] (fun i wr => ∃ k : Nat, k ≤ 254 ∧ i = .int .i64 (k : Int) ∧ St Nob w wr [(g2, cw 4 p ++ cw 4 (B64 ^ 4 - p), 66), (g3, cw 4 a, 50), (g4, cw 4 0, 50), (g6, cw 4 (p / 4 % 2 ^ k), 50)]) (fun i _ => 254 - (intOf i).toNat)
 case atStart => exact ⟨0, by omega, rfl, by rw [Nat.pow_zero, Nat.mod_one]; exact st4⟩
 case round =>
  obtain ⟨k, hk, rfl, st⟩ := hrel
  clear st4
  by_cases hlt : k < 254
  ·have hltI : (k : Int) < 254 := by omega
   have hstep := n0e 4 (p / 4 % 2 ^ k) k (p / 2 ^ (k + 2) % 2) (Nat.mod_lt _ (Nat.pow_pos (by decide))) (Nat.mod_lt _ (by decide)) (by omega)
   rw [← f0O] at hstep
   have hbit := fun wx => g0d p (k + 2) wx (by omega)
   have hb2 : p / 2 ^ (k + 2) % 2 < 2 := Nat.mod_lt _ (by decide)
   generalize p / 2 ^ (k + 2) % 2 = b at *
   generalize hq' : p / 4 % 2 ^ (k + 1) = q' at *
   have HQ := qH hq'
   clear hq'
   generalize p / 4 % 2 ^ k = q at *
   have HCELL := qH (n0T q b k q' hb2 hstep)
   have HBIT := qH hbit
   clear hstep hbit hb2
   have hlo : (0 : Int) ≤ (k : Int) / 64 ∧ (k : Int) / 64 < 4 := by omega
   have hlo2 : (0 : Int) ≤ (k : Int) % 64 ∧ (k : Int) % 64 < 64 := by omega
   have e1 : IntKind.i64.wrap ((k : Int) / 64) = (k : Int) / 64 := IntWalk.i64_in _ (by omega)
   have e2 : (k : Int).tmod 64 = (k : Int) % 64 := Int.tmod_eq_emod_of_nonneg (by omega)
   have e3 : IntKind.i64.wrap ((k : Int) + 2) = (k : Int) + 2 := IntWalk.i64_in _ (by omega)
   have e4 : ((k : Int) / 64).toNat = k / 64 := by omega
   have e5 : ((k : Int) % 64).toNat = k % 64 := by omega
   go_wp2_with fail
   refine wp_region_noPanic ?_
   refine a0p (fun wx => St Nob w wx [(g2, cw 4 p ++ cw 4 (B64 ^ 4 - p), 66), (g3, cw 4 a, 50), (g4, cw 4 0, 50), (g6, cw 4 q, 50)]) 16 (.w 0 (.w 1 (.w 2 (.w 3 (.w 4 (.t 5 (.w 6 (.t 7 (.w 8 (.w 9 (.w 11 (.w 12 (.r 10 (.w 13 (.w 14 (.w 15 (.m 16 .nil))))))))))))))))) (by kernel_rfl) (by kernel_rfl) st.drew (fun _ _ _ _ _ h => h) ?_
   have hd4 := st.drew
   clear st
   refine a0l (v := ?_) rfl rfl (fun wx => ?_) ?_
   rotate_left 1
   ·(go_simp; with_reducible rfl)
   try simp only [clL]
   refine a0l (v := ?_) rfl rfl (fun wx => ?_) ?_
   rotate_left 1
   ·(go_simp; with_reducible rfl)
   try simp only [clL]
   refine a0l (v := ?_) rfl rfl (fun wx => ?_) ?_
   rotate_left 1
   ·(go_simp; with_reducible rfl)
   try simp only [clL]
   refine a0l (v := ?_) rfl rfl (fun wx => ?_) ?_
   rotate_left 1
   ·(go_simp; with_reducible rfl)
   try simp only [clL]
   refine a0l (v := ?_) rfl rfl (fun wx => ?_) ?_
   rotate_left 1
   ·(go_simp; with_reducible rfl)
   try simp only [clL]
   refine d0i (v := ?_) rfl rfl (fun wx hS => ?_) ?_
   rotate_left 1
   ·(have hc := (St.at hS 3 rfl).cell (a0D 4 q (k / 64) (by omega)); clear hS; go_simp; with_reducible rfl)
   try simp only [clL]
   refine a0l (v := ?_) rfl rfl (fun wx => ?_) ?_
   rotate_left 1
   ·(go_simp; with_reducible rfl)
   try simp only [clL]
   refine a0s rfl rfl rfl rfl (cw 4 p) (fun wx hS => St.rangeL hS 0 rfl 0 _ (f0u 4 4 _ _)) Tryz.underlying50 rfl (by first | (rw [a0a]; kernel_rfl) | (simp only [List.length_append, a0a]; kernel_rfl)) ?_
   try simp only [clL]
   refine a0l (v := ?_) rfl rfl (fun wx => ?_) ?_
   rotate_left 1
   ·(go_simp; with_reducible rfl)
   try simp only [clL]
   refine a0l (v := ?_) rfl rfl (fun wx => ?_) ?_
   rotate_left 1
   ·(go_simp; with_reducible rfl)
   try simp only [clL]
   refine a0l (v := ?_) rfl rfl (fun wx => ?_) ?_
   rotate_left 1
   ·(go_simp; with_reducible rfl)
   try simp only [clL]
   refine a0l (v := ?_) rfl rfl (fun wx => ?_) ?_
   rotate_left 1
   ·(go_simp; with_reducible rfl)
   try simp only [clL]
   refine a0A rfl rfl ?_
   go_simp
   refine (HBIT.out _).mono ?_
   rintro e' w5 ⟨rfl, hf5⟩
   have st5 := hd4.keep hf5
   clear hf5
   clear hd4
   refine ⟨st5, ?_⟩
   try simp only [clL]
   refine a0l (v := ?_) rfl rfl (fun wx => ?_) ?_
   rotate_left 1
   ·(go_simp; with_reducible rfl)
   try simp only [clL]
   refine a0l (v := ?_) rfl rfl (fun wx => ?_) ?_
   rotate_left 1
   ·(go_simp; with_reducible rfl)
   try simp only [clL]
   refine a0l (v := ?_) rfl rfl (fun wx => ?_) ?_
   rotate_left 1
   ·(go_simp; with_reducible rfl)
   try simp only [clL]
   refine a0r rfl rfl ?_
   have f1 := (st5.at 3 rfl).free (k / 64) (by rw [a0a]; omega)
   have c1 := (st5.at 3 rfl).cell (a0D 4 q (k / 64) (by omega))
   go_simp
   have st6 := st5.set 3 rfl (k / 64) (.int .u64 (bits .or .u64 (lw q (k / 64) : Nat) (IntKind.u64.wrap ((b : Int) * 2 ^ (k % 64)))))
   simp only [List.set_cons_zero, List.set_cons_succ] at st6
   rw [HCELL.out] at st6
   clear f1 c1 st5
   try simp only [clL]
   refine a0k ?_
   refine NoPanic.normal ?_
   go_wp2
   go_roundw
   case rel => exact ⟨k + 1, by omega, by go_num, by rw [HQ.out]; exact st6⟩
   case measure => simp [intOf]; omega
  ·have hge : ¬ ((k : Int) < 254) := by omega
   have hk2 : k = 254 := by omega
   rw [hk2, h0H p HP.out] at st
   clear hk2
   generalize p / 4 = Q at *
   have c1 := (st.at 3 rfl).cell (a0D 4 Q 0 (by decide))
   have f1 := (st.at 3 rfl).free 0 (by rw [a0a]; decide)
   have st9 := st.set 3 rfl 0 (.int .u64 ((lw Q 0 : Int) + 1))
   have hlow := HLOW.out
   have e1 : IntKind.u64.wrap ((lw Q 0 : Int) + 1) = (lw Q 0 : Int) + 1 := IntWalk.u64_in _ (by omega)
   clear st
   go_wp2_with (with_reducible refine wSk 33 ?_)
   simp only [List.set_cons_zero, List.set_cons_succ] at st9
   rw [HLC.out] at st9
   clear c1 f1 hlow e1
   refine a0o st9 0 rfl rfl rfl Tryz.underlying66 rfl rfl (by first | (rw [a0a]; kernel_rfl) | (simp only [List.length_append, a0a]; kernel_rfl)) ?_
   go_wp2_with (with_reducible refine wSk 34 ?_)
   refine a0h st9 1 rfl rfl rfl Tryz.underlying50 rfl (by first | (rw [a0a]; kernel_rfl) | (simp only [List.length_append, a0a]; kernel_rfl)) ?_
   go_wp2_with (with_reducible refine wSk 35 ?_)
   refine a0h st9 3 rfl rfl rfl Tryz.underlying50 rfl (by first | (rw [a0a]; kernel_rfl) | (simp only [List.length_append, a0a]; kernel_rfl)) ?_
   go_wp2_with fail
   refine (HPOW.out _).mono ?_
   rintro e' w10 ⟨rfl, hf10⟩
   have st10 := st9.keep hf10
   clear st9 hf10
   go_wp2_with (with_reducible refine wSk 8 ?_)
   refine a0b st10 rfl rfl (z := zAd) (by kernel_rfl) (cw 4 0) (by rw [a0f]; rfl) ?_
   intro g8 w11 st11
   clear st10
   go_wp2_with (with_reducible refine wSn ?_)
   refine a0d st11 4 rfl rfl rfl rfl rfl (by first | (simp only [a0a]; done) | (simp only [List.length_append, a0a]; done)) (by first | (rw [a0a]; kernel_rfl) | (simp only [List.length_append, a0a]; kernel_rfl)) (a0i _ _) ?_
   intro w12 st12
   clear st11
   go_wp2_with fail
   refine wp_region_noPanic ?_
   refine a0p (fun wx => St Nob w wx [(g2, cw 4 p ++ cw 4 (B64 ^ 4 - p), 66), (g3, cw 4 a, 50), (g4, cw 4 0, 50), (g6, cw 4 n, 50), (g8, cw 4 R, 50)]) 5 (.t 0 (.t 1 (.t 2 (.t 4 (.r 3 (.m 5 .nil)))))) (by kernel_rfl) (by kernel_rfl) st12.drew (fun _ _ _ _ _ h => h) ?_
   have hd12 := st12.drew
   clear st12
   refine a0s rfl rfl rfl rfl (cw 4 p ++ cw 4 (B64 ^ 4 - p)) (fun wx hS => St.rangeL hS 0 rfl 0 _ dZl) Tryz.underlying66 rfl (by first | (rw [a0a]; kernel_rfl) | (simp only [List.length_append, a0a]; kernel_rfl)) ?_
   try simp only [clL]
   refine a0s rfl rfl rfl rfl (cw 4 R) (fun wx hS => St.rangeL hS 4 rfl 0 _ dZl) Tryz.underlying50 rfl (by first | (rw [a0a]; kernel_rfl) | (simp only [List.length_append, a0a]; kernel_rfl)) ?_
   try simp only [clL]
   refine a0s rfl rfl rfl rfl (cw 4 R) (fun wx hS => St.rangeL hS 4 rfl 0 _ dZl) Tryz.underlying50 rfl (by first | (rw [a0a]; kernel_rfl) | (simp only [List.length_append, a0a]; kernel_rfl)) ?_
   try simp only [clL]
   refine a0s rfl rfl rfl rfl (cw 4 a) (fun wx hS => St.rangeL hS 1 rfl 0 _ dZl) Tryz.underlying50 rfl (by first | (rw [a0a]; kernel_rfl) | (simp only [List.length_append, a0a]; kernel_rfl)) ?_
   try simp only [clL]
   refine a0A rfl rfl ?_
   go_simp
   refine (g0H p R R _ HP0.out HP.out HR4.out HR4.out).mono ?_
   rintro e' w13 ⟨rfl, hf13⟩
   have st13 := hd12.keep hf13
   clear hf13
   clear hd12
   refine ⟨st13, ?_⟩
   try simp only [clL]
   refine a0r rfl rfl ?_
   refine r0R (R * R % p) a HRR.out HA.out 50 Tryz.underlying50 Tryz.eqGuardType50 rfl rfl rfl HB.out ?_
   try simp only [clL]
   refine a0k ?_
   refine NoPanic.normal ?_
   have c1 := (st13.at 4 rfl).cell (a0D 4 R 0 (by decide))
   have hla := f0x R
   rw [HPAR.out] at hla
   go_wp2_with (with_reducible refine wSk 48 ?_)
   refine a0o st13 0 rfl rfl rfl Tryz.underlying66 rfl rfl (by first | (rw [a0a]; kernel_rfl) | (simp only [List.length_append, a0a]; kernel_rfl)) ?_
   go_wp2_with (with_reducible refine wSk 49 ?_)
   refine a0h st13 4 rfl rfl rfl Tryz.underlying50 rfl (by first | (rw [a0a]; kernel_rfl) | (simp only [List.length_append, a0a]; kernel_rfl)) ?_
   go_wp2_with fail
   refine (p0P p R _ HRP.out HP.out HR4.out).mono ?_
   rintro e' w14 ⟨rfl, hf14⟩
   have st14 := st13.keep hf14
   clear st13 hf14
   go_wp2_with (with_reducible refine wSn ?_)
   refine a0d st14 4 rfl rfl rfl rfl rfl (by first | (simp only [a0a]; done) | (simp only [List.length_append, a0a]; done)) (by first | (rw [a0a]; kernel_rfl) | (simp only [List.length_append, a0a]; kernel_rfl)) (a0i _ _) ?_
   intro w15 st15
   clear st14
   go_wp2_with (with_reducible refine wSk 51 ?_)
   refine a0h st15 4 rfl rfl rfl Tryz.underlying50 rfl (by first | (rw [a0a]; kernel_rfl) | (simp only [List.length_append, a0a]; kernel_rfl)) ?_
   go_wp2_with (with_reducible refine wSn ?_)
   refine a0d st15 2 rfl rfl rfl rfl rfl (by first | (simp only [a0a]; done) | (simp only [List.length_append, a0a]; done)) (by first | (rw [a0a]; kernel_rfl) | (simp only [List.length_append, a0a]; kernel_rfl)) (a0i _ _) ?_
   intro w16 st16
   clear st15
   have hr := st16.at 2 rfl
   have hfr := st16.fr
   clear st16
   go_wp2_with fail
   exact bodyPost_ret (a0Q rfl rfl hr Tryz.underlying50 (by first | (rw [a0a]; kernel_rfl) | (simp only [List.length_append, a0a]; kernel_rfl)) rfl) rfl ⟨rfl, hfr⟩
end
section
open Go.RowKit Go.Mv Mvp
theorem z0A {k : Int} {m : Md} (h : KindOf k m) : lw (m.M / 4) 0 + 1 < 18446744073709551616 := by
 cases h
 ·decide
 ·decide
theorem u0e (p a : Nat) (w : World) (hp1 : 1 < p) (hp : p < B64 ^ 4) (ha : a < p) (hlow : lw (p / 4) 0 + 1 < 18446744073709551616) (hr : c0E p a = true) :
  Calls Tryz.prog 114 #[fv p, i4 a] w fun e w' => e = .returned (.tuple #[i4 (rtV p a % p), .bool true]) ∧ Fr Nob w w' := by
 unfold c0E at hr
 unfold rtV
 unfold rtN at *
 have hn4 : p / 4 + 1 < B64 ^ 4 := by omega
 generalize hn : p / 4 + 1 = n at *
 have hpow := fun wx => p0V p a n wx hp1 hp (Nat.lt_trans ha hp) hn4
 have hR : a ^ n % p < p := Nat.mod_lt _ (by omega)
 rw [Nat.mul_mod, Nat.mod_eq_of_lt ha] at hr
 have hsame : a ^ n % p = a ^ n % p % p := (Nat.mod_mod _ _).symm
 generalize hRR : a ^ n % p = R at *
 have hb : decide (R * R % p = a) = true := by simpa using hr
 by_cases hpar : R % 2 = 1
 ·rw [if_pos hpar]
  exact r0S p a n R w (by omega) hp hn hn4 (Nat.lt_trans ha hp) hlow hR hpow hb hpar
 ·rw [if_neg hpar, hRR]
  exact p0j p a n R w (by omega) hp hn hn4 (Nat.lt_trans ha hp) hlow hR hpow hb (by omega)
attribute [local irreducible] a0J lw mix cw b0t b0G b0q a0P a0u beN laid b0o b0H a0M a0V elN mdL b0R rtN c0E rtV
end
section
open Go.RowKit Go.Mv Mvp Mvq
def kN (a : K) : Nat := a.val
theorem mPM : mP.M = fP := r0h
theorem u0f (a : K) : kN a < mP.M := by rw [mPM]; exact a.isLt
theorem e0B (a : K) : kN a < B64 ^ 4 := Nat.lt_trans (u0f a) c0a.lt
theorem p0k (n : Nat) : kN (kc n) = n % fP := rfl
theorem p0l (a : K) : kc (kN a) = a := by
 apply Fin.ext
 show a.val % fP = a.val
 exact Nat.mod_eq_of_lt a.isLt
theorem v0i {a b : K} (h : kN a = kN b) : a = b := Fin.ext h
theorem hK0 : KindOf 0 mP := .zero
theorem a0K (w : World) : Calls Tryz.prog 45 #[] w fun e w' => e = .returned (fv mP.M) ∧ Fr Nob w w' := by
 go_enter Tryz.func45, Tryz.ntmps45
 have st0 := St.start Nob w
 go_wp2_with (with_reducible refine wSk 0 ?_)
 refine a0b st0 rfl rfl (z := .agg #[.int .u64 0, .int .u64 0, .int .u64 0, .int .u64 0, .int .u64 0, .int .u64 0, .int .u64 0, .int .u64 0]) (by kernel_rfl) (cw 8 0) (by rw [a0f]; rfl) ?_
 intro g0 w1 st1
 clear st0
 go_wp2_with fail
 refine (x0M hK0 _).mono ?_
 rintro e' w2 ⟨rfl, hf2⟩
 have st2 := st1.keep hf2
 clear st1 hf2
 go_wp2_with (with_reducible refine wSn ?_)
 refine a0d st2 0 rfl rfl rfl rfl (cs := cw 4 mP.M ++ cw 4 (B64 ^ 4 - mP.M)) rfl (by first | (simp only [a0a]; done) | (simp only [List.length_append, a0a]; done)) (by first | (rw [a0a]; kernel_rfl) | (simp only [List.length_append, a0a]; kernel_rfl)) (i0U _ _ _ _) ?_
 intro w3 st3
 clear st2
 have hr := st3.at 0 rfl
 have hfr := st3.fr
 clear st3
 go_wp2_with fail
 exact bodyPost_ret (a0F rfl rfl hr Tryz.underlying66 rfl (by first | (rw [a0a]; kernel_rfl) | (simp only [List.length_append, a0a]; kernel_rfl))) rfl ⟨rfl, hfr⟩
theorem d0T (a b r : K) (hr : a * b = r) (w : World) : Calls Tryz.prog 47 #[fv mP.M, i4 (kN a), i4 (kN b)] w fun e w' => e = .returned (i4 (kN r)) ∧ Fr Nob w w' := by
 have h := g0H mP.M (kN a) (kN b) w (by have := c0a.one; omega) c0a.lt (e0B a) (e0B b)
 have e : kN a * kN b % mP.M = kN r := by rw [mPM, ← p0k, a0E, p0l, p0l, hr]
 rwa [e] at h
theorem x0p (a b r : K) (hr : a + b = r) (w : World) : Calls Tryz.prog 113 #[fv mP.M, i4 (kN a), i4 (kN b)] w fun e w' => e = .returned (i4 (kN r)) ∧ Fr Nob w w' := by
 have h := p0O mP.M (kN a) (kN b) w (by have := c0a.one; omega) c0a.lt (e0B a) (e0B b)
 have e : (kN a + kN b) % mP.M = kN r := by rw [mPM, ← p0k, f0E, p0l, p0l, hr]
 rwa [e] at h
theorem u0g (a b r : K) (hr : a - b = r) (w : World) : Calls Tryz.prog 112 #[fv mP.M, i4 (kN a), i4 (kN b)] w fun e w' => e = .returned (i4 (kN r)) ∧ Fr Nob w w' := by
 have hb := Nat.mod_eq_of_lt (u0f b)
 refine z0f mP.M (kN a) (kN b) (kN r) w (by have := c0a.one; omega) c0a.lt (e0B a) (e0B b) (Nat.le_of_lt (u0f b)) ?_
 rw [← hb, mPM, ← p0k, c0v, p0l, p0l, hr]
theorem z0Z (a r : K) (hr : c0k a = r) (w : World) : Calls Tryz.prog 46 #[fv mP.M, i4 (kN a)] w fun e w' => e = .returned (i4 (kN r)) ∧ Fr Nob w w' := by
 refine z0g mP.M (kN a) (kN r) w c0a.one c0a.lt (e0B a) ?_
 rw [← hr, mPM]
 unfold c0k
 rw [p0k]
 unfold kN
 generalize fP - 2 = z
 rfl
theorem y0J (a : K) (b : Bool) (hb : decide (a = 0) = b) (w : World) : Calls Tryz.prog 32 #[i4 (kN a)] w fun e w' => e = .returned (.bool b) ∧ Fr Nob w w' := by
 have h := i0M (kN a) w (e0B a)
 have e : decide (kN a = 0) = b := by
  rw [← hb, Bool.eq_iff_iff, decide_eq_true_eq, decide_eq_true_eq]
  exact ⟨fun h => v0i (h.trans rfl), fun h => by rw [h]; rfl⟩
 rwa [e] at h
theorem r0T (w : World) : Calls Tryz.prog 110 #[.int .u64 1] w fun e w' => e = .returned (i4 (kN 1)) ∧ Fr Nob w w' := g0I 1 w (by decide)
theorem w0V (w : World) : Calls Tryz.prog 110 #[.int .u64 7] w fun e w' => e = .returned (i4 (kN 7)) ∧ Fr Nob w w' := g0I 7 w (by decide)
theorem r0U (x y : K) {b : Bool} (hb : decide (x = y) = b) (w : World) : (Op.equal 50 (.agg (cw 4 (kN x)).toArray) (.agg (cw 4 (kN y)).toArray)).run Tryz.prog w = .ok b w := by
 rw [w0e (kN x) (kN y) (e0B x) (e0B y) w]
 congr 1
 rw [← hb, Bool.eq_iff_iff, beq_iff_eq, decide_eq_true_eq]
 exact ⟨v0i, fun h => by rw [h]⟩
theorem h0I (x y : K) {o : Oper} {a : Act} {p q : Operand} {T : TypeId} (ho : o.op = .binOp .eql 50 p q T) (hp : a.eval p = i4 (kN x)) (hq : a.eval q = i4 (kN y)) {b : Bool} (hb : decide (x = y) = b) (w : World) :
  (execOp a.eval o).run Tryz.prog w = .ok (.value (.bool b)) w :=
 d0w ho hp hq w (run_eqGuard_agg w .eql 50 p q _ _ Tryz.eqGuardType50) (e0f w (r0U x y hb w))
theorem w0W (n : Nat) (hn : n < mP.M) (hr : c0E fP n = true) (w : World) : Calls Tryz.prog 114 #[fv mP.M, i4 n] w fun e w' => e = .returned (.tuple #[i4 (kN (kc (rtV fP n))), .bool true]) ∧ Fr Nob w w' := by
 have h := u0e mP.M n w c0a.one c0a.lt hn (z0A hK0) (by rw [mPM]; exact hr)
 rw [mPM, ← p0k, ← mPM] at h
 exact h
end
end Go.Proofs.YtemcankmggmgoaaGreatDoor
