/- ; ; ; ; ; ; . -/
import Derived.Test.YtpfimiajoifjaaaGreatMgSpanHalvesProof8
import Derived.Test.YtpfimiajoifjaaaGreatMgSpanHalvesProof7
set_option maxHeartbeats 16000000
set_option maxRecDepth 1000000

namespace Go.Mv
open Go.RowKit
theorem Sy.nil0 {X : Nat → Prop} {w0 w : World} {bl : List (Nat × List Value × TypeId)} {l : List Ox} (h : Sy X w0 w bl l) (T : TypeId) (sz : Nat) : Sy X w0 w bl (⟨.slice none 0 0, T, sz, 0, []⟩ :: l) := by
 refine ⟨h.st, ⟨fun x hx => ?_, fun x hx k hk => ?_, List.pairwise_cons.2 ⟨fun x hx k hk => ?_, h.os.sep⟩, h.os.lt⟩, fun x hx k hk => ?_⟩
 ·rcases List.mem_cons.1 hx with rfl | hx
  ·exact Own.nil _ _ _ _
  ·exact h.os.own x hx
 ·rcases List.mem_cons.1 hx with rfl | hx
  ·simp [b0g, Value.ownBlock] at hk
  ·exact h.os.off x hx k hk
 ·simp [b0g, Value.ownBlock] at hk
 ·rcases List.mem_cons.1 hx with rfl | hx
  ·simp [b0g, Value.ownBlock] at hk
  ·exact h.inX x hx k hk
theorem Own.newer {w1 w2 : World} {b1 b2 s1 s2 n1 n2 : Nat} {T U : TypeId} {v1 v2 : Value} {L1 L2 : List Value} (h1 : Own w1 b1 T s1 v1 n1 L1) (h2 : Own w2 b2 U s2 v2 n2 L2) (hb : w1.heap.size ≤ b2) : ∀ k, b0g v1 k → ¬ b0g v2 k := fun k hk hk2 => by
 have e1 := (Own.lt h1 hk).2
 have e2 := (Own.lt h2 hk2).1
 omega
end Go.Mv
namespace Go.Proofs.YtpfimiajoifjaaaGreat
section
open Go.RowKit Go.Mv Mvp Mvq
theorem Sy.log {X : Nat → Prop} {w0 w w' : World} {bl : List (Nat × List Value × TypeId)} {l : List Ox} {base g : Nat} {st : List UInt8} (h : Sy X w0 w bl l) (hl : LogAt w base g st) (hf : Fr (One g) w w') (hX : X g) (hb : (bl.all fun x => x.2.2 != 293) = true) (ho : (l.all fun x => x.T != 293) = true) : Sy X w0 w' bl l :=
 h.keepT hf (fun k hk => by have e : k = g := hk; rw [e]; exact hX) (fun x hx => LogAt.offT hl (by simpa using List.all_eq_true.1 hb x hx)) (fun x hx => LogAt.offT hl (by simpa using List.all_eq_true.1 ho x hx))
structure PvB (X : Nat → Prop) (w : World) (base gl : Nat) (wz : World) (st : List UInt8) (ug uh uL uR : List Value) (vu : Value) (g h : List Zq) (u : Zq) (sL sR : List Zq) (bl : List (Nat × List Value × TypeId)) (l : List Ox) : Prop where
 y : Sy X w wz bl l
 p : PtS wz w.heap.size ug uh uL uR vu g h u sL sR
 lg : LogAt wz base gl st
 hb : base ≤ wz.heap.size
section
variable {X : Nat → Prop} {w : World} {base gl : Nat} {w1 w2 : World} {st st' : List UInt8} {ug uh uL uR : List Value} {vu : Value} {g h : List Zq} {u : Zq} {sL sR : List Zq} {bl bl' : List (Nat × List Value × TypeId)} {l l' : List Ox}
theorem PvB.of {S : Nat → Prop} (k : PvB X w base gl w1 st ug uh uL uR vu g h u sL sR bl l) (hy : Sy X w w2 bl' l') (hf : Fr S w1 w2) (h1 : OffT 5 w1 S) (h2 : OffT 293 w1 S) : PvB X w base gl w2 st ug uh uL uR vu g h u sL sR bl' l' :=
 ⟨hy, k.p.keepT hf h1, k.lg.keepT hf h1 h2, Nat.le_trans k.hb hf.size⟩
theorem PvB.nob (k : PvB X w base gl w1 st ug uh uL uR vu g h u sL sR bl l) (hy : Sy X w w2 bl' l') (hf : Fr Nob w1 w2) : PvB X w base gl w2 st ug uh uL uR vu g h u sL sR bl' l' := k.of hy hf (fun _ _ t => t.elim) (fun _ _ t => t.elim)
theorem PvB.still (k : PvB X w base gl w1 st ug uh uL uR vu g h u sL sR bl l) (hf : Fr Nob w1 w2) : PvB X w base gl w2 st ug uh uL uR vu g h u sL sR bl l := k.nob (k.y.keep hf) hf
theorem PvB.drew (k : PvB X w base gl w1 st ug uh uL uR vu g h u sL sR bl l) : PvB X w base gl w1.drew st ug uh uL uR vu g h u sL sR bl l := k.still (Fr.refl Nob _).drew
theorem PvB.less (k : PvB X w base gl w1 st ug uh uL uR vu g h u sL sR bl l) (hs : bl'.Sublist bl) (hl : l'.Sublist l) : PvB X w base gl w1 st ug uh uL uR vu g h u sL sR bl' l' := ⟨k.y.less hs hl, k.p, k.lg, k.hb⟩
theorem PvB.add (k : PvB X w base gl w1 st ug uh uL uR vu g h u sL sR bl l) (hf : Fr Nob w1 w2) {v : Value} {T : TypeId} {sz n : Nat} {L : List Value} (ho : Go.Mv.Own w2 w1.heap.size T sz v n L) : PvB X w base gl w2 st ug uh uL uR vu g h u sL sR bl (l ++ [⟨v, T, sz, n, L⟩]) := k.nob (k.y.add hf ho) hf
theorem PvB.log (k : PvB X w base gl w1 st ug uh uL uR vu g h u sL sR bl l) (hl : LogAt w2 base gl st') (hf : Fr (One gl) w1 w2) (hX : X gl) (hb : (bl.all fun x => x.2.2 != 293) = true) (ho : (l.all fun x => x.T != 293) = true) : PvB X w base gl w2 st' ug uh uL uR vu g h u sL sR bl l :=
 ⟨Sy.log k.y k.lg hf hX hb ho, k.p.keepT hf (k.lg.offT ap2), hl, Nat.le_trans k.hb hf.size⟩
end
theorem PtS.snoc {w : World} {b0 : Nat} {ug uh uL uR : List Value} {vu : Value} {g h : List Zq} {u l r : Zq} {d : List (Zq × Zq)} {vl vr : Value} (k : PtS w b0 ug uh uL uR vu g h u (d.map (·.1)) (d.map (·.2))) (hl : Go.Mv.Own w b0 5 1 vl 33 (bs (wrQ l))) (hr : Go.Mv.Own w b0 5 1 vr 33 (bs (wrQ r)))
  (nl : (∀ x ∈ uL, ∀ k, b0g x k → ¬ b0g vl k) ∧ (∀ x ∈ uR, ∀ k, b0g x k → ¬ b0g vl k)) (nr : (∀ x ∈ uL, ∀ k, b0g x k → ¬ b0g vr k) ∧ (∀ x ∈ uR, ∀ k, b0g x k → ¬ b0g vr k)) (nlr : ∀ k, b0g vl k → ¬ b0g vr k) :
  PtS w b0 ug uh (uL ++ [vl]) (uR ++ [vr]) vu g h u ((d ++ [(l, r)]).map (·.1)) ((d ++ [(l, r)]).map (·.2)) := by
 refine ⟨k.pg, k.ph, k.pu, ?_, ?_, Sep.snoc2 k.sep (fun v hv => ?_) (fun v hv => ?_)⟩
 ·rw [List.map_append, List.map_append]
  exact POwn.snoc (by rw [d0U]; exact hl) k.pl
 ·rw [List.map_append, List.map_append]
  exact POwn.snoc (by rw [d0U]; exact hr) k.pr
 ·exact (List.mem_append.1 hv).elim (nl.1 v) (nl.2 v)
 ·rcases List.mem_append.1 hv with hv | hv
  ·exact (List.mem_append.1 hv).elim (nr.1 v) (nr.2 v)
  ·rw [List.mem_singleton.1 hv]; exact nlr
theorem v0h (va : Value) (a : List Zq) (x y : Zq) (n : Nat) (w : World) (ha : RZ w va a) (hl : a.length = n + n) (h0 : 0 < n) (hn : n ≤ 1000) :
  Calls Tryz.prog 141 #[va, i4 (eQ x), i4 (eQ y)] w fun e w' => ∃ z : Option Addr × Nat, e = .returned (.slice z.1 n z.2) ∧ Go.Mv.Own w' w.heap.size 125 4 (.slice z.1 n z.2) n (qC (b0I x (a.take n) y (a.drop n))) ∧ Fr Nob w w' := by
 refine (z0D va a x y n w ha hl h0 hn).mono ?_
 rintro e w' ⟨v, rfl, ho, hf⟩
 obtain ⟨a', c', rfl, -⟩ := Go.Mv.Own.form ho
 exact ⟨(a', c'), rfl, ho, hf⟩
theorem g0t (va : Value) (a : List Zq) (x y : Zq) (n : Nat) (w : World) (ha : RP w va a) (hl : a.length = n + n) (h0 : 0 < n) (hn : n ≤ 1000) :
  Calls Tryz.prog 142 #[va, i4 (eQ x), i4 (eQ y)] w fun e w' => ∃ (z : Option Addr × Nat) (us : List Value), e = .returned (.slice z.1 n z.2) ∧ Go.Mv.Own w' w.heap.size 23 1 (.slice z.1 n z.2) n us ∧ POwn w' w.heap.size us ((b0I x (a.take n) y (a.drop n)).map wrQ) ∧ Fr Nob w w' := by
 refine (l0m va a x y n w ha hl h0 hn).mono ?_
 rintro e w' ⟨v, rfl, ⟨us, ho, hp, -⟩, hf⟩
 rw [List.length_map, e0u _ _ _ _ hl] at ho
 obtain ⟨a', c', rfl, -⟩ := Go.Mv.Own.form ho
 exact ⟨(a', c'), us, rfl, ho, hp, hf⟩
theorem f0M {w : World} {base sz n : Nat} {T : TypeId} {v : Value} {L : List Value} (h : Go.Mv.Own w base T sz v n L) (hn : 0 < n * sz) : ∃ b o c, v = .slice (some ⟨b, o, none⟩) n c := by
 obtain ⟨a, c, rfl, -, hr, -⟩ := Go.Mv.Own.form h
 obtain ⟨b, o, rfl, -⟩ := hr.at hn
 exact ⟨b, o, c, rfl⟩
theorem b0R {w : World} {base sz n b o c : Nat} {T : TypeId} {L : List Value} (h : Go.Mv.Own w base T sz (.slice (some ⟨b, o, none⟩) n c) n L) : Rd w (some ⟨b, o, none⟩) (n * sz) L := by
 obtain ⟨a, c, e, -, hr, -⟩ := Go.Mv.Own.form h
 cases e
 exact hr
theorem z0E (x : Zq) : ((qC [x]).drop 0).take (cw 4 (eQ x)).length = cw 4 (eQ x) := by
 rw [h0T, List.drop_zero, List.take_of_length_le (Nat.le_refl _)]
theorem r0X (x : Zq) (w : World) : Calls Tryz.prog 119 #[i4 (eQ x)] w fun e w' => ∃ z : Option Addr × Nat, e = .returned (.slice z.1 32 z.2) ∧ Go.Mv.Own w' w.heap.size 5 1 (.slice z.1 32 z.2) 32 (bs (bZ x)) ∧ Fr Nob w w' := by
 refine (x0a x w).mono ?_
 rintro e w' ⟨v, rfl, ho, hf⟩
 have ho2 : Go.Mv.Own w' w.heap.size 5 1 v 32 (bs (bZ x)) := by
  have h2 := ho
  unfold OwnB1 at h2
  rwa [i0Q] at h2
 obtain ⟨a', c', rfl, -⟩ := Go.Mv.Own.form ho2
 exact ⟨(a', c'), rfl, ho2, hf⟩
def z0F (w : World) (P : List (Zq × Zq) × Zq × Zq) (k : Nat) (X : Nat → Prop) (e : Ending) (w' : World) : Prop :=
 ∃ vL vR vA vB uL uR, e = .returned (.agg #[vL, vR, vA, vB]) ∧ Go.Mv.Own w' 0 23 1 vL k uL ∧ Go.Mv.Own w' 0 23 1 vR k uR ∧
   POwn w' w.heap.size (uL ++ uR ++ [vA, vB]) (P.1.map (fun p => wrQ p.1) ++ P.1.map (fun p => wrQ p.2) ++ [bZ P.2.1, bZ P.2.2]) ∧ Sep (uL ++ uR ++ [vA, vB]) ∧ Fr X w w'
theorem POwn.app3 {w : World} {base : Nat} : ∀ {va vb : List Value} {la lb : List (List UInt8)}, POwn w base va la → POwn w base vb lb → POwn w base (va ++ vb) (la ++ lb)
 | [], _, [], _, _, h => h
 | _ :: _, _, _ :: _, _, h, h2 => ⟨h.1, POwn.app3 h.2 h2⟩
 | [], _, _ :: _, _, h, _ => h.elim
 | _ :: _, _, [], _, h, _ => h.elim
theorem r0Y {w w' : World} {X : Nat → Prop} {ug uh uL uR : List Value} {vu vL vR vA vB : Value} {g h : List Zq} {u a0 b0 : Zq} {d : List (Zq × Zq)} (hp : PtS w' w.heap.size ug uh uL uR vu g h u (d.map (·.1)) (d.map (·.2))) (hL : Go.Mv.Own w' 0 23 1 vL d.length uL) (hR : Go.Mv.Own w' 0 23 1 vR d.length uR)
  (hA : Go.Mv.Own w' w.heap.size 5 1 vA 32 (bs (bZ a0))) (hB : Go.Mv.Own w' w.heap.size 5 1 vB 32 (bs (bZ b0))) (nA : (∀ x ∈ uL, ∀ k, b0g x k → ¬ b0g vA k) ∧ (∀ x ∈ uR, ∀ k, b0g x k → ¬ b0g vA k)) (nB : (∀ x ∈ uL, ∀ k, b0g x k → ¬ b0g vB k) ∧ (∀ x ∈ uR, ∀ k, b0g x k → ¬ b0g vB k)) (nAB : ∀ k, b0g vA k → ¬ b0g vB k) (hf : Fr X w w') :
  z0F w (d, a0, b0) d.length X (.returned (.agg #[vL, vR, vA, vB])) w' := by
 refine ⟨vL, vR, vA, vB, uL, uR, rfl, hL, hR, ?_, ?_, hf⟩
 ·have h1 := hp.pl
  have h2 := hp.pr
  rw [List.map_map] at h1 h2
  refine POwn.app3 (POwn.app3 h1 h2) ⟨by rw [i0Q]; exact hA, by rw [i0Q]; exact hB, trivial⟩
 ·refine List.pairwise_append.2 ⟨hp.sep, ?_, fun v hv x hx => ?_⟩
  ·exact List.pairwise_cons.2 ⟨fun x hx => by rw [List.mem_singleton.1 hx]; exact nAB, List.pairwise_singleton _ _⟩
  ·rcases List.mem_cons.1 hx with rfl | hx
   ·exact (List.mem_append.1 hv).elim (nA.1 v) (nA.2 v)
   ·rw [List.mem_singleton.1 hx]
    exact (List.mem_append.1 hv).elim (nB.1 v) (nB.2 v)
theorem m0H : (Tryz.prog.info? 26).map (·.zero) = some (some (.agg #[.slice none 0 0, .slice none 0 0, .slice none 0 0, .slice none 0 0])) := by kernel_rfl
theorem c0j (a b c d : Value) : (Tryz.prog.info? 26).map (·.size) = some ([a, b, c, d]).length := by kernel_rfl
theorem v0i : (Tryz.prog.info? 23).map (·.size) = some 1 := by kernel_rfl
theorem j0R (a b c d : Option Addr) (m1 m2 m3 m4 n1 n2 n3 n4 : Nat) : ∀ v ∈ [Value.slice a m1 n1, .slice b m2 n2, .slice c m3 n3, .slice d m4 n4], v.oneCell' = true := by
 intro v hv
 simp only [List.mem_cons, List.not_mem_nil, or_false] at hv
 rcases hv with rfl | rfl | rfl | rfl <;> rfl
theorem r0Z (va vb vg vh vu : Value) (a b g h : List Zq) (u : Zq) (w : World) (ha : RZ w va a) (hb : RZ w vb b) (hg : RP w vg g) (hh : RP w vh h) (hu : BPart w vu (wrQ u)) (n : Nat) (hn : 0 < n) (hn2 : n ≤ 200) (la : a.length = n) (lb : b.length = n) (lg : g.length = n) (lh : h.length = n) :
  Calls Tryz.prog 48 #[va, vb, vg, vh, vu] w fun e w' => ∃ y : Option Addr × Nat, e = .returned (.slice y.1 33 y.2) ∧ Go.Mv.Own w' w.heap.size 5 1 (.slice y.1 33 y.2) 33 (bs (wrQ (d0w a b g h u))) ∧ Fr Nob w w' := by
 refine (z0B va vb vg vh vu a b g h u w ha hb hg hh hu n hn hn2 la lb lg lh).mono ?_
 rintro e w' ⟨v, rfl, ho, hf⟩
 have ho2 : Go.Mv.Own w' w.heap.size 5 1 v 33 (bs (wrQ (d0w a b g h u))) := by
  have h2 := ho
  unfold OwnB1 at h2
  rwa [d0U] at h2
 obtain ⟨a', c', rfl, -⟩ := Go.Mv.Own.form ho2
 exact ⟨(a', c'), rfl, ho2, hf⟩
theorem POwn.new {w w' : World} {b0 n : Nat} {vs : List Value} {ls : List (List UInt8)} {T : TypeId} {v : Value} {L : List Value} (h : POwn w b0 vs ls) (hv : Go.Mv.Own w' w.heap.size T 1 v n L) : ∀ x ∈ vs, ∀ k, b0g x k → ¬ b0g v k := fun x hx k hk hk2 => by
 obtain ⟨l, -, ho⟩ := POwn.mem h hx
 have h1 := (Go.Mv.Own.lt ho hk).2
 have h2 := (Go.Mv.Own.lt hv hk2).1
 omega
theorem p0k (i : Nat) (st : List UInt8) (a b g h : List Zq) (u l r x y : Zq) (n : Nat) (hn : 2 ^ i = n) (hl : d0w (a.take n) (b.drop n) (g.drop n) (h.take n) u = l) (hr : d0w (a.drop n) (b.take n) (g.take n) (h.drop n) u = r) (hx : d0W (b0D st (wrQ l) (wrQ r)) = x) (hy : ivZ x = y) (d : List (Zq × Zq)) :
  (d ++ (b0d chP ivZ (i + 1) st a b g h u).1, (b0d chP ivZ (i + 1) st a b g h u).2) = ((d ++ [(l, r)]) ++ (b0d chP ivZ i (e0d (b0D st (wrQ l) (wrQ r))) (b0I x (a.take n) y (a.drop n)) (b0I y (b.take n) x (b.drop n)) (b0I y (g.take n) x (g.drop n)) (b0I x (h.take n) y (h.drop n)) u).1,
   (b0d chP ivZ i (e0d (b0D st (wrQ l) (wrQ r))) (b0I x (a.take n) y (a.drop n)) (b0I y (b.take n) x (b.drop n)) (b0I y (g.take n) x (g.drop n)) (b0I x (h.take n) y (h.drop n)) u).2) := by
 have hp : b0d chP ivZ (i + 1) st a b g h u = ((l, r) :: (b0d chP ivZ i (e0d (b0D st (wrQ l) (wrQ r))) (b0I x (a.take n) y (a.drop n)) (b0I y (b.take n) x (b.drop n)) (b0I y (g.take n) x (g.drop n)) (b0I x (h.take n) y (h.drop n)) u).1,
   (b0d chP ivZ i (e0d (b0D st (wrQ l) (wrQ r))) (b0I x (a.take n) y (a.drop n)) (b0I y (b.take n) x (b.drop n)) (b0I y (g.take n) x (g.drop n)) (b0I x (h.take n) y (h.drop n)) u).2) := by
  show ((_, _) :: _, _) = _
  rw [hn, hl, hr]
  unfold chP
  rw [hx, hy]
 rw [hp, List.append_assoc]
 rfl
attribute [local irreducible] a0v lw mix cw b0e b0f b0a beN b0l b0b a0z a0F elN mdL b0m rtV b0J c0m b0s c0Q a0D c0z e0H e0I a0R a0T b0c toB a0u a0w a0Y a0E b0Z a0S a0x c0n b0t c0G e0U wrQ qC eQ bZ
theorem BPart.ofOwnU {w : World} {base n : Nat} {v : Value} {l : List UInt8} (h : Go.Mv.Own w base 5 1 v n (bs l)) : BPart w v l := by
 obtain ⟨a, c, rfl, hc, hr, -⟩ := Go.Mv.Own.form h
 exact ⟨a, n, c, rfl, hc, by rw [Nat.mul_one] at hr; exact hr⟩
theorem x0x (X : Nat → Prop) (k : Nat) (hk : k ≤ 6) (gs gl base : Nat) (st : List UInt8) (a b g h : List Zq) (u : Zq) (va vb vg vh vu : Value) (ug uh : List Value) (w : World)
  (hY : Sy X w w [(gs, [va, vb, vg, vh, vu], 91)] [⟨va, 125, 4, 2 ^ k, qC a⟩, ⟨vb, 125, 4, 2 ^ k, qC b⟩, ⟨vg, 23, 1, 2 ^ k, ug⟩, ⟨vh, 23, 1, 2 ^ k, uh⟩])
  (hX : X gl) (hl : LogAt w base gl st) (hb : base ≤ w.heap.size) (hg : POwn w 0 ug (g.map wrQ)) (hh : POwn w 0 uh (h.map wrQ)) (hu : Go.Mv.Own w 0 5 1 vu 33 (bs (wrQ u))) (la : a.length = 2 ^ k) (lb : b.length = 2 ^ k) (lg : g.length = 2 ^ k) (lh : h.length = 2 ^ k)
  (P : List (Zq × Zq) × Zq × Zq) (hP : b0d chP ivZ k st a b g h u = P) :
  Calls Tryz.prog 49 #[.pointer (some ⟨gs, 0, none⟩), tkV gl] w (z0F w P P.1.length X) := by
 have HL := qH hl
 have HB := qH hb
 have HP := qH (show PtS w w.heap.size ug uh [] [] vu g h u [] [] from ⟨hg, hh, hu, trivial, trivial, List.Pairwise.nil⟩)
 have HXG := qH hX
 have HPP := qH (show P = ([] ++ (b0d chP ivZ k st a b g h u).1, (b0d chP ivZ k st a b g h u).2) by rw [hP]; rfl)
 have LA := qH la
 have LB := qH lb
 have LG := qH lg
 have LH := qH lh
 obtain ⟨m, hm⟩ : ∃ m, 2 ^ k = m := ⟨_, rfl⟩
 obtain ⟨q, hq2⟩ : ∃ q, m / 2 = q := ⟨_, rfl⟩
 have hq : (m : Int) / 2 = (q : Int) := by omega
 rw [hm] at hY
 have HM := qH hm
 have HQ := qH (show 2 ^ k / 2 = q by rw [hm, hq2])
 obtain ⟨aa, ca, rfl, hca⟩ := hY.sl 0 rfl
 have hq32 : (q : Int) ≤ 32 := by have := (d0x k hk).2; omega
 clear hl hb hg hh hu hX hP la lb lg lh hm hq2 hca
 go_enter Tryz.func49, Tryz.ntmps49
 have y0 := (hY.nil0 23 1).nil0 23 1
 clear hY
 go_wp2_with (with_reducible refine wSk 3 ?_)
 refine b0N rfl (l0M y0 rfl rfl [.pointer (some ⟨gl, 0, none⟩)] rfl ?_)
 intro g3 w1 y1 hf1
 have HL1 := qH (HL.out.still hf1)
 have HP1 := qH (PtS.still HP.out hf1)
 have HB1 := qH (Nat.le_trans HB.out hf1.size)
 clear y0 hf1 HL HP HB
 go_wp2_with (with_reducible refine wSk 4 ?_)
 refine b0N rfl (d0B y1 rfl m0H _ rfl ?_)
 intro g4 w2 y2 hf2
 have HL2 := qH (HL1.out.still hf2)
 have HP2 := qH (PtS.still HP1.out hf2)
 have HB2 := qH (Nat.le_trans HB1.out hf2.size)
 clear y1 hf2 HL1 HP1 HB1
 have hc := (y2.at 0 rfl).cell (i := 0) rfl
 go_wp2_with fail
 clear hc
 go_loopw [5] (fun nv wr => PvR X w base gs gl g3 g4 P u vu nv wr) (fun nv _ => (intOf nv).toNat)
 case atStart => exact ⟨k, st, a, b, g, h, _, _, _, _, _, _, ug, uh, [], [], [], hk, congrArg (fun (z : Nat) => Value.int .i64 (z : Int)) HQ.out.symm, LA.out, LB.out, LG.out, LH.out, by simpa using hk, HPP.out, HL2.out, HB2.out, by rw [HM.out]; exact y2, HP2.out⟩
 case round =>
  obtain ⟨i, st, a, b, g, h, va, vb, vg, vh, vL, vR, ug, uh, uL, uR, d, hi, rfl, la, lb, lg, lh, hd, hP, hL, hB, y, hPt⟩ := hrel
  clear y2 HL2 HP2 HB2
  rcases i with _ | i
  ·skip
   have e0 : (((2 ^ 0 / 2 : Nat)) : Int) = 0 := rfl
   rw [e0]
   rw [show 2 ^ 0 = 1 from rfl] at la lb lg lh y
   obtain ⟨a0, rfl⟩ := List.length_eq_one_iff.1 la
   obtain ⟨b0, rfl⟩ := List.length_eq_one_iff.1 lb
   obtain ⟨ba, oa, ca, rfl⟩ := f0M (y.own 2 rfl) ap2
   obtain ⟨bb, ob, cb, rfl⟩ := f0M (y.own 3 rfl) ap2
   obtain ⟨aL, cL, rfl, -⟩ := y.sl 0 rfl
   obtain ⟨aR, cR, rfl, -⟩ := y.sl 1 rfl
   have HPE := qH (show P = (d, a0, b0) by rw [hP]; show (d ++ [], _) = _; rw [List.append_nil]; rfl)
   have HDK := qH hd
   clear e0 la lb lg lh hP hd
   have B0 := qH (show PvB X w base gl wr st ug uh uL uR vu g h u (d.map (·.1)) (d.map (·.2)) [(gs, [.slice (some ⟨ba, oa, none⟩) 1 ca, .slice (some ⟨bb, ob, none⟩) 1 cb, vg, vh, vu], 91), (g3, [.pointer (some ⟨gl, 0, none⟩)], 98), (g4, [.slice aL d.length cL, .slice aR d.length cR, .slice none 0 0, .slice none 0 0], 26)] [⟨.slice aL d.length cL, 23, 1, d.length, uL⟩, ⟨.slice aR d.length cR, 23, 1, d.length, uR⟩, ⟨.slice (some ⟨ba, oa, none⟩) 1 ca, 125, 4, 1, qC [a0]⟩, ⟨.slice (some ⟨bb, ob, none⟩) 1 cb, 125, 4, 1, qC [b0]⟩, ⟨vg, 23, 1, 1, ug⟩, ⟨vh, 23, 1, 1, uh⟩] from ⟨y, hPt, hL, hB⟩)
   clear y hPt hL hB
   go_wp2_with fail
   refine wp_region_noPanic ?_
   refine a0d (fun wz => PvB X w base gl wz st ug uh uL uR vu g h u (d.map (·.1)) (d.map (·.2)) [(gs, [.slice (some ⟨ba, oa, none⟩) 1 ca, .slice (some ⟨bb, ob, none⟩) 1 cb, vg, vh, vu], 91), (g3, [.pointer (some ⟨gl, 0, none⟩)], 98), (g4, [.slice aL d.length cL, .slice aR d.length cR, .slice none 0 0, .slice none 0 0], 26)] [⟨.slice aL d.length cL, 23, 1, d.length, uL⟩, ⟨.slice aR d.length cR, 23, 1, d.length, uR⟩, ⟨.slice (some ⟨ba, oa, none⟩) 1 ca, 125, 4, 1, qC [a0]⟩, ⟨.slice (some ⟨bb, ob, none⟩) 1 cb, 125, 4, 1, qC [b0]⟩, ⟨vg, 23, 1, 1, ug⟩, ⟨vh, 23, 1, 1, uh⟩]) 13 (.w 0 (.w 1 (.w 2 (.t 3 (.w 4 (.t 5 (.w 7 (.w 8 (.w 9 (.t 10 (.w 11 (.t 12 (.r 6 (.w 14 (.m 13 (.m 15 (.w 16 (.m 17 .nil)))))))))))))))))) ap0 ap0 (B0.out.drew) (fun _ _ _ _ _ h => h) ?_
   have Bd := B0.out.drew
   clear B0
   iterate 3 (refine a0a rfl rfl apW ?_; try simp only [clL])
   refine a0L (v := ?_) rfl rfl (fun wx hS => ?_) ?_
   rotate_left 1
   ·(have hc := (hS.y.at 0 rfl).cell (i := 0) rfl; clear hS; go_simp; with_reducible rfl)
   try simp only [clL]
   refine a0a rfl rfl apW ?_
   try simp only [clL]
   refine a0h rfl rfl rfl rfl (cw 4 (eQ a0)) (fun wx hS => b0y (b0R (hS.y.own 2 rfl)) 0 _ (z0E a0)) Tryz.underlying125 rfl (a0G _) ?_
   try simp only [clL]
   iterate 3 (refine a0a rfl rfl apW ?_; try simp only [clL])
   refine a0L (v := ?_) rfl rfl (fun wx hS => ?_) ?_
   rotate_left 1
   ·(have hc := (hS.y.at 0 rfl).cell (i := 1) rfl; clear hS; go_simp; with_reducible rfl)
   try simp only [clL]
   refine a0a rfl rfl apW ?_
   try simp only [clL]
   refine a0h rfl rfl rfl rfl (cw 4 (eQ b0)) (fun wx hS => b0y (b0R (hS.y.own 3 rfl)) 0 _ (z0E b0)) Tryz.underlying125 rfl (a0G _) ?_
   try simp only [clL]
   refine a0q rfl rfl ?_
   go_simp
   refine (r0X a0 _).mono ?_
   rintro e' w5 ⟨fa, rfl, ho, hf⟩
   have Be := Bd.still hf
   have Hfa := ho
   refine ⟨Be, ?_⟩
   have NFA := qH (And.intro (POwn.new Bd.p.pl ho) (POwn.new Bd.p.pr ho))
   clear ho hf
   try simp only [clL]
   refine a0a rfl rfl apW ?_
   try simp only [clL]
   refine a0o rfl rfl ?_
   go_simp
   refine (r0X b0 _).mono ?_
   rintro e' w6 ⟨fb, rfl, ho, hf⟩
   have Bf := Be.still hf
   have Hfb := ho
   have NFB := qH (And.intro (POwn.new Be.p.pl ho) (POwn.new Be.p.pr ho))
   have NAB := qH (Go.Mv.Own.newer Hfa Hfb (Nat.le_refl _))
   replace Hfa := Go.Mv.Own.still Hfa hf
   replace Hfa := Go.Mv.Own.mono Hfa Bd.y.st.fr.size
   replace Hfb := Go.Mv.Own.mono Hfb Be.y.st.fr.size
   clear ho hf Bd Be
   try simp only []
   refine a0o rfl rfl ?_
   refine c0h Bf.y 2 rfl 2 rfl rfl rfl ap4 v0i rfl rfl ?_
   intro w7 yy hf
   have Bg := Bf.of yy hf (OffT.one (Bf.y.at 2 rfl) ap2) (OffT.one (Bf.y.at 2 rfl) ap2)
   replace Hfa := Go.Mv.Own.keepT Hfa hf (OffT.one (Bf.y.at 2 rfl) ap2)
   replace Hfb := Go.Mv.Own.keepT Hfb hf (OffT.one (Bf.y.at 2 rfl) ap2)
   clear yy hf Bf
   try simp only [clL]
   refine a0a rfl rfl apW ?_
   try simp only [clL]
   refine a0o rfl rfl ?_
   refine c0h Bg.y 2 rfl 3 rfl rfl rfl ap4 v0i rfl rfl ?_
   intro w8 yy hf
   have Bh := Bg.of yy hf (OffT.one (Bg.y.at 2 rfl) ap2) (OffT.one (Bg.y.at 2 rfl) ap2)
   replace Hfa := Go.Mv.Own.keepT Hfa hf (OffT.one (Bg.y.at 2 rfl) ap2)
   replace Hfb := Go.Mv.Own.keepT Hfb hf (OffT.one (Bg.y.at 2 rfl) ap2)
   clear yy hf Bg
   try simp only [clL]
   refine a0e ?_
   refine NoPanic.normal ?_
   have HFA := qH Hfa
   have HFB := qH Hfb
   have B1 := qH Bh
   clear Hfa Hfb Bh
   go_wp2_with (with_reducible refine wSk 160 ?_)
   refine a0s B1.out.y.st 2 rfl rfl rfl Tryz.underlying26 rfl rfl (c0j _ _ _ _) ?_
   go_wp2_with (with_reducible refine wSn ?_)
   refine b0N rfl (d0C B1.out.y 2 rfl rfl rfl rfl rfl (c0j _ _ _ _) (j0R _ _ _ _ _ _ _ _ _ _ _ _) ?_)
   intro w9 yy hf
   have B2 := qH (B1.out.of yy hf (OffT.one (B1.out.y.at 2 rfl) ap2) (OffT.one (B1.out.y.at 2 rfl) ap2))
   replace HFA := qH (Go.Mv.Own.keepT HFA.out hf (OffT.one (B1.out.y.at 2 rfl) ap2))
   replace HFB := qH (Go.Mv.Own.keepT HFB.out hf (OffT.one (B1.out.y.at 2 rfl) ap2))
   clear yy hf B1
   have hr := B2.out.y.at 2 rfl
   have hown := And.intro (B2.out.y.own 0 rfl) (B2.out.y.own 1 rfl)
   have hfr := B2.out.y.st.fr
   have hpp := B2.out.p
   clear B2
   have HR := qH (And.intro hown (And.intro hfr hpp))
   clear hown hfr hpp
   go_wp2_with fail
   exact bodyPost_ret (a0y rfl rfl hr Tryz.underlying26 rfl (c0j _ _ _ _)) rfl (by
    rw [HPE.out]
    exact r0Y HR.out.2.2 HR.out.1.1 HR.out.1.2 HFA.out HFB.out NFA.out NFB.out NAB.out HR.out.2.1)
  ·obtain ⟨n, hn⟩ : ∃ n, 2 ^ i = n := ⟨_, rfl⟩
   have hm : 2 ^ (i + 1) = n + n := by rw [Nat.pow_succ, hn]; omega
   have h0 : 0 < n := by rw [← hn]; exact Nat.pow_pos ap2
   have h64 : n ≤ 32 := by rw [← hn]; exact Nat.pow_le_pow_right (n := 2) ap2 (show i ≤ 5 by omega)
   rw [hm] at la lb lg lh y ⊢
   obtain ⟨m, hmm⟩ : ∃ m, n + n = m := ⟨_, rfl⟩
   rw [hmm] at la lb lg lh y ⊢
   rw [show m / 2 = n by omega]
   obtain ⟨aa, ca, rfl, hca⟩ := y.sl 2 rfl
   obtain ⟨ab, cb, rfl, hcb⟩ := y.sl 3 rfl
   obtain ⟨ag, cg, rfl, hcg⟩ := y.sl 4 rfl
   obtain ⟨ah, ch, rfl, hch⟩ := y.sl 5 rfl
   obtain ⟨aL, cL, rfl, -⟩ := y.sl 0 rfl
   obtain ⟨aR, cR, rfl, -⟩ := y.sl 1 rfl
   have LA := qH la
   have LB := qH lb
   have LG := qH lg
   have LH := qH lh
   have HM := qH hmm
   have HN := qH hn
   have HD := qH hd
   have HPP := qH hP
   have HL := qH hL
   have HB := qH hB
   have HP := qH hPt
   have HI := qH hi
   have HC := qH (And.intro (And.intro hca hcb) (And.intro hcg hch))
   have hnI : (0 : Int) < (n : Int) := by omega
   have hnI2 : (n : Int) ≤ 32 := by omega
   clear la lb lg lh hmm hm hn hd hP hL hB hPt hca hcb hcg hch hi
   have HW0 := qH y.st.fr.size
   have B0 := qH (show PvB X w base gl wr st ug uh uL uR vu g h u (d.map (·.1)) (d.map (·.2)) [(gs, [.slice aa m ca, .slice ab m cb, .slice ag m cg, .slice ah m ch, vu], 91), (g3, [.pointer (some ⟨gl, 0, none⟩)], 98), (g4, [.slice aL d.length cL, .slice aR d.length cR, .slice none 0 0, .slice none 0 0], 26)] [⟨.slice aL d.length cL, 23, 1, d.length, uL⟩, ⟨.slice aR d.length cR, 23, 1, d.length, uR⟩, ⟨.slice aa m ca, 125, 4, m, qC a⟩, ⟨.slice ab m cb, 125, 4, m, qC b⟩, ⟨.slice ag m cg, 23, 1, m, ug⟩, ⟨.slice ah m ch, 23, 1, m, uh⟩] from ⟨y, HP.out, HL.out, HB.out⟩)
   clear y HP HL HB
   go_wp2_with fail
   refine wp_region_noPanic ?_
   refine a0d (fun wz => PvB X w base gl wz st ug uh uL uR vu g h u (d.map (·.1)) (d.map (·.2)) [(gs, [.slice aa m ca, .slice ab m cb, .slice ag m cg, .slice ah m ch, vu], 91), (g3, [.pointer (some ⟨gl, 0, none⟩)], 98), (g4, [.slice aL d.length cL, .slice aR d.length cR, .slice none 0 0, .slice none 0 0], 26)] [⟨.slice aL d.length cL, 23, 1, d.length, uL⟩, ⟨.slice aR d.length cR, 23, 1, d.length, uR⟩, ⟨.slice aa m ca, 125, 4, m, qC a⟩, ⟨.slice ab m cb, 125, 4, m, qC b⟩, ⟨.slice ag m cg, 23, 1, m, ug⟩, ⟨.slice ah m ch, 23, 1, m, uh⟩]) 28 (.w 0 (.w 1 (.w 2 (.t 3 (.w 4 (.w 5 (.w 6 (.w 7 (.w 8 (.t 9 (.w 10 (.w 11 (.w 12 (.w 13 (.w 14 (.t 15 (.w 16 (.w 17 (.w 18 (.w 19 (.w 20 (.t 21 (.w 22 (.w 23 (.w 24 (.w 25 (.w 26 (.t 27 (.m 28 (.w 29 .nil)))))))))))))))))))))))))))))) ap0 ap0 (B0.out.drew) (fun _ _ _ _ _ h => h) ?_
   have B0d := B0.out.drew
   clear B0
   iterate 3 (refine a0a rfl rfl apW ?_; try simp only [clL])
   refine a0L (v := ?_) rfl rfl (fun wx hS => ?_) ?_
   rotate_left 1
   ·(have hc := (hS.y.at 0 rfl).cell (i := 0) rfl; clear hS; go_simp; with_reducible rfl)
   try simp only [clL]
   refine a0a rfl rfl apW ?_
   try simp only [clL]
   refine a0a rfl rfl (fun _ => f0K rfl Tryz.underlying89 n0Q rfl rfl (by have := HC.out.1.1; have := HM.out; omega) _) ?_
   try simp only [clL]
   iterate 3 (refine a0a rfl rfl apW ?_; try simp only [clL])
   refine a0L (v := ?_) rfl rfl (fun wx hS => ?_) ?_
   rotate_left 1
   ·(have hc := (hS.y.at 0 rfl).cell (i := 1) rfl; clear hS; go_simp; with_reducible rfl)
   try simp only [clL]
   refine a0a rfl rfl apW ?_
   try simp only [clL]
   refine a0a rfl rfl (fun _ => f0L (r := n) rfl Tryz.underlying89 n0Q rfl rfl (by have := HM.out; omega) HC.out.1.2 (by have := HM.out; omega) _) ?_
   try simp only [clL]
   iterate 3 (refine a0a rfl rfl apW ?_; try simp only [clL])
   refine a0L (v := ?_) rfl rfl (fun wx hS => ?_) ?_
   rotate_left 1
   ·(have hc := (hS.y.at 0 rfl).cell (i := 2) rfl; clear hS; go_simp; with_reducible rfl)
   try simp only [clL]
   refine a0a rfl rfl apW ?_
   try simp only [clL]
   refine a0a rfl rfl (fun _ => f0L (r := n) rfl Tryz.underlying24 n0R rfl rfl (by have := HM.out; omega) HC.out.2.1 (by have := HM.out; omega) _) ?_
   try simp only [clL]
   iterate 3 (refine a0a rfl rfl apW ?_; try simp only [clL])
   refine a0L (v := ?_) rfl rfl (fun wx hS => ?_) ?_
   rotate_left 1
   ·(have hc := (hS.y.at 0 rfl).cell (i := 3) rfl; clear hS; go_simp; with_reducible rfl)
   try simp only [clL]
   refine a0a rfl rfl apW ?_
   try simp only [clL]
   refine a0a rfl rfl (fun _ => f0K rfl Tryz.underlying24 n0R rfl rfl (by have := HC.out.2.2; have := HM.out; omega) _) ?_
   try simp only [clL]
   iterate 3 (refine a0a rfl rfl apW ?_; try simp only [clL])
   refine a0L (v := ?_) rfl rfl (fun wx hS => ?_) ?_
   rotate_left 1
   ·(have hc := (hS.y.at 0 rfl).cell (i := 4) rfl; clear hS; go_simp; with_reducible rfl)
   try simp only [clL]
   refine a0o rfl rfl ?_
   go_simp
   refine (r0Z _ _ _ _ _ (a.take n) (b.drop n) (g.drop n) (h.take n) u _ (RZ.hi (RZ.ofOwn (B0d.y.own 2 rfl) LA.out.symm) n (by have := HM.out; omega)) (RZ.lo (RZ.ofOwn (B0d.y.own 3 rfl) LB.out.symm) n n (by have := HM.out; omega) (by have := HM.out; omega)) (RP.lo (RP.of2 (B0d.y.own 4 rfl) B0d.p.pg LG.out.symm) n n (by have := HM.out; omega) (by have := HM.out; omega)) (RP.hi (RP.of2 (B0d.y.own 5 rfl) B0d.p.ph LH.out.symm) n (by have := HM.out; omega)) (BPart.ofOwnU B0d.p.pu) n h0 ap1 (by have h1 := LA.out; have := HM.out; simp only [List.length_take]; omega) (by have h1 := LB.out; have := HM.out; simp only [List.length_drop]; omega) (by have h1 := LG.out; have := HM.out; simp only [List.length_drop]; omega) (by have h1 := LH.out; have := HM.out; simp only [List.length_take]; omega)).mono ?_
   rintro e' w5 ⟨fl, rfl, ho, hf⟩
   have Hfl := qH (show Go.Mv.Own w5 _ 5 1 (.slice fl.1 33 fl.2) 33 _ from ho)
   have B1 := qH (B0d.still hf)
   have Nfl := qH (And.intro (POwn.new B0d.p.pl ho) (POwn.new B0d.p.pr ho))
   have HFfl := qH ((Fr.refl Nob _).drew.then hf)
   clear ho hf B0d
   try simp only []
   refine a0a rfl rfl apW ?_
   try simp only [clL]
   refine a0e ?_
   refine NoPanic.normal ?_
   obtain ⟨l, hl⟩ : ∃ l, d0w (a.take n) (b.drop n) (g.drop n) (h.take n) u = l := ⟨_, rfl⟩
   rw [hl] at Hfl
   have HSL := qH hl
   clear hl HFfl
   have HW1 := qH B1.out.y.st.fr.size
   go_wp2_with fail
   refine wp_region_noPanic ?_
   refine a0d (fun wz => PvB X w base gl wz st ug uh uL uR vu g h u (d.map (·.1)) (d.map (·.2)) [(gs, [.slice aa m ca, .slice ab m cb, .slice ag m cg, .slice ah m ch, vu], 91), (g3, [.pointer (some ⟨gl, 0, none⟩)], 98), (g4, [.slice aL d.length cL, .slice aR d.length cR, .slice none 0 0, .slice none 0 0], 26)] [⟨.slice aL d.length cL, 23, 1, d.length, uL⟩, ⟨.slice aR d.length cR, 23, 1, d.length, uR⟩, ⟨.slice aa m ca, 125, 4, m, qC a⟩, ⟨.slice ab m cb, 125, 4, m, qC b⟩, ⟨.slice ag m cg, 23, 1, m, ug⟩, ⟨.slice ah m ch, 23, 1, m, uh⟩]) 28 (.w 0 (.w 1 (.w 2 (.t 3 (.w 4 (.w 5 (.w 6 (.w 7 (.w 8 (.t 9 (.w 10 (.w 11 (.w 12 (.w 13 (.w 14 (.t 15 (.w 16 (.w 17 (.w 18 (.w 19 (.w 20 (.t 21 (.w 22 (.w 23 (.w 24 (.w 25 (.w 26 (.t 27 (.m 28 (.w 29 .nil)))))))))))))))))))))))))))))) ap0 ap0 (B1.out.drew) (fun _ _ _ _ _ h => h) ?_
   have B1d := B1.out.drew
   clear B1
   iterate 3 (refine a0a rfl rfl apW ?_; try simp only [clL])
   refine a0L (v := ?_) rfl rfl (fun wx hS => ?_) ?_
   rotate_left 1
   ·(have hc := (hS.y.at 0 rfl).cell (i := 0) rfl; clear hS; go_simp; with_reducible rfl)
   try simp only [clL]
   refine a0a rfl rfl apW ?_
   try simp only [clL]
   refine a0a rfl rfl (fun _ => f0L (r := n) rfl Tryz.underlying89 n0Q rfl rfl (by have := HM.out; omega) HC.out.1.1 (by have := HM.out; omega) _) ?_
   try simp only [clL]
   iterate 3 (refine a0a rfl rfl apW ?_; try simp only [clL])
   refine a0L (v := ?_) rfl rfl (fun wx hS => ?_) ?_
   rotate_left 1
   ·(have hc := (hS.y.at 0 rfl).cell (i := 1) rfl; clear hS; go_simp; with_reducible rfl)
   try simp only [clL]
   refine a0a rfl rfl apW ?_
   try simp only [clL]
   refine a0a rfl rfl (fun _ => f0K rfl Tryz.underlying89 n0Q rfl rfl (by have := HC.out.1.2; have := HM.out; omega) _) ?_
   try simp only [clL]
   iterate 3 (refine a0a rfl rfl apW ?_; try simp only [clL])
   refine a0L (v := ?_) rfl rfl (fun wx hS => ?_) ?_
   rotate_left 1
   ·(have hc := (hS.y.at 0 rfl).cell (i := 2) rfl; clear hS; go_simp; with_reducible rfl)
   try simp only [clL]
   refine a0a rfl rfl apW ?_
   try simp only [clL]
   refine a0a rfl rfl (fun _ => f0K rfl Tryz.underlying24 n0R rfl rfl (by have := HC.out.2.1; have := HM.out; omega) _) ?_
   try simp only [clL]
   iterate 3 (refine a0a rfl rfl apW ?_; try simp only [clL])
   refine a0L (v := ?_) rfl rfl (fun wx hS => ?_) ?_
   rotate_left 1
   ·(have hc := (hS.y.at 0 rfl).cell (i := 3) rfl; clear hS; go_simp; with_reducible rfl)
   try simp only [clL]
   refine a0a rfl rfl apW ?_
   try simp only [clL]
   refine a0a rfl rfl (fun _ => f0L (r := n) rfl Tryz.underlying24 n0R rfl rfl (by have := HM.out; omega) HC.out.2.2 (by have := HM.out; omega) _) ?_
   try simp only [clL]
   iterate 3 (refine a0a rfl rfl apW ?_; try simp only [clL])
   refine a0L (v := ?_) rfl rfl (fun wx hS => ?_) ?_
   rotate_left 1
   ·(have hc := (hS.y.at 0 rfl).cell (i := 4) rfl; clear hS; go_simp; with_reducible rfl)
   try simp only [clL]
   refine a0o rfl rfl ?_
   go_simp
   refine (r0Z _ _ _ _ _ (a.drop n) (b.take n) (g.take n) (h.drop n) u _ (RZ.lo (RZ.ofOwn (B1d.y.own 2 rfl) LA.out.symm) n n (by have := HM.out; omega) (by have := HM.out; omega)) (RZ.hi (RZ.ofOwn (B1d.y.own 3 rfl) LB.out.symm) n (by have := HM.out; omega)) (RP.hi (RP.of2 (B1d.y.own 4 rfl) B1d.p.pg LG.out.symm) n (by have := HM.out; omega)) (RP.lo (RP.of2 (B1d.y.own 5 rfl) B1d.p.ph LH.out.symm) n n (by have := HM.out; omega) (by have := HM.out; omega)) (BPart.ofOwnU B1d.p.pu) n h0 ap1 (by have h1 := LA.out; have := HM.out; simp only [List.length_drop]; omega) (by have h1 := LB.out; have := HM.out; simp only [List.length_take]; omega) (by have h1 := LG.out; have := HM.out; simp only [List.length_take]; omega) (by have h1 := LH.out; have := HM.out; simp only [List.length_drop]; omega)).mono ?_
   rintro e' w6 ⟨fr, rfl, ho, hf⟩
   have Hfr := qH (show Go.Mv.Own w6 _ 5 1 (.slice fr.1 33 fr.2) 33 _ from ho)
   have B2 := qH (B1d.still hf)
   have Nfr := qH (And.intro (POwn.new B1d.p.pl ho) (POwn.new B1d.p.pr ho))
   have HFfr := qH ((Fr.refl Nob _).drew.then hf)
   clear ho hf B1d
   try simp only []
   refine a0a rfl rfl apW ?_
   try simp only [clL]
   refine a0e ?_
   refine NoPanic.normal ?_
   obtain ⟨r, hr⟩ : ∃ r, d0w (a.drop n) (b.take n) (g.take n) (h.drop n) u = r := ⟨_, rfl⟩
   rw [hr] at Hfr
   have HSR := qH hr
   clear hr
   have NLR := qH (Go.Mv.Own.newer Hfl.out Hfr.out (Nat.le_refl _))
   replace Hfl := qH (Go.Mv.Own.still Hfl.out HFfr.out)
   clear HFfr
   replace Hfl := qH (Go.Mv.Own.mono Hfl.out HW0.out)
   replace Hfr := qH (Go.Mv.Own.mono Hfr.out HW1.out)
   clear HW0 HW1
   have hc := (B2.out.y.at 1 rfl).cell (i := 0) rfl
   go_wp2_with fail
   refine (h0k base gl _ ⟨#[108, 101, 102, 116]⟩ fl.1 33 fl.2 _ _ ap2 B2.out.lg (b0G Hfl.out ap2) B2.out.hb).mono ?_
   rintro e' w7 ⟨rfl, hl, hf⟩
   have B3 := qH (B2.out.log hl hf HXG.out rfl rfl)
   have HOF := qH (show OffT 5 _ (One gl) from B2.out.lg.offT ap2)
   replace Hfl := qH (Go.Mv.Own.keepT Hfl.out hf HOF.out)
   replace Hfr := qH (Go.Mv.Own.keepT Hfr.out hf HOF.out)
   clear hl hf hc HOF B2
   have hc := (B3.out.y.at 1 rfl).cell (i := 0) rfl
   go_wp2_with fail
   refine (h0k base gl _ ⟨#[114, 105, 103, 104, 116]⟩ fr.1 33 fr.2 _ _ ap2 B3.out.lg (b0G Hfr.out ap2) B3.out.hb).mono ?_
   rintro e' w8 ⟨rfl, hl, hf⟩
   have B4 := qH (show PvB X w base gl w8 (b0D st (wrQ l) (wrQ r)) ug uh uL uR vu g h u (d.map (·.1)) (d.map (·.2)) [(gs, [.slice aa m ca, .slice ab m cb, .slice ag m cg, .slice ah m ch, vu], 91), (g3, [.pointer (some ⟨gl, 0, none⟩)], 98), (g4, [.slice aL d.length cL, .slice aR d.length cR, .slice none 0 0, .slice none 0 0], 26)] [⟨.slice aL d.length cL, 23, 1, d.length, uL⟩, ⟨.slice aR d.length cR, 23, 1, d.length, uR⟩, ⟨.slice aa m ca, 125, 4, m, qC a⟩, ⟨.slice ab m cb, 125, 4, m, qC b⟩, ⟨.slice ag m cg, 23, 1, m, ug⟩, ⟨.slice ah m ch, 23, 1, m, uh⟩] from B3.out.log hl hf HXG.out rfl rfl)
   have HOF := qH (show OffT 5 _ (One gl) from B3.out.lg.offT ap2)
   replace Hfl := qH (Go.Mv.Own.keepT Hfl.out hf HOF.out)
   replace Hfr := qH (Go.Mv.Own.keepT Hfr.out hf HOF.out)
   clear hl hf hc HOF B3
   obtain ⟨d2, hd2⟩ : ∃ d2, d ++ [(l, r)] = d2 := ⟨_, rfl⟩
   have HD2 := qH hd2
   have B5 := qH (show PvB X w base gl w8 (b0D st (wrQ l) (wrQ r)) ug uh (uL ++ [.slice fl.1 33 fl.2]) (uR ++ [.slice fr.1 33 fr.2]) vu g h u (d2.map (·.1)) (d2.map (·.2)) [(gs, [.slice aa m ca, .slice ab m cb, .slice ag m cg, .slice ah m ch, vu], 91), (g3, [.pointer (some ⟨gl, 0, none⟩)], 98), (g4, [.slice aL d.length cL, .slice aR d.length cR, .slice none 0 0, .slice none 0 0], 26)] [⟨.slice aL d.length cL, 23, 1, d.length, uL⟩, ⟨.slice aR d.length cR, 23, 1, d.length, uR⟩, ⟨.slice aa m ca, 125, 4, m, qC a⟩, ⟨.slice ab m cb, 125, 4, m, qC b⟩, ⟨.slice ag m cg, 23, 1, m, ug⟩, ⟨.slice ah m ch, 23, 1, m, uh⟩] from ⟨B4.out.y, hd2 ▸ PtS.snoc B4.out.p Hfl.out Hfr.out Nfl.out Nfr.out NLR.out, B4.out.lg, B4.out.hb⟩)
   clear B4 Hfl Hfr Nfl Nfr NLR hd2
   go_wp2_with (with_reducible refine wSk 88 ?_)
   refine a0s B5.out.y.st 1 rfl rfl rfl Tryz.underlying98 rfl rfl (g0s gl) ?_
   go_wp2_with fail
   refine (r0V base gl _ _ B5.out.lg B5.out.hb).mono ?_
   rintro e' w9 ⟨rfl, hl, hf⟩
   have B6 := qH (B5.out.log hl hf HXG.out rfl rfl)
   clear hl hf B5
   obtain ⟨x, hx⟩ : ∃ x, d0W (b0D st (wrQ l) (wrQ r)) = x := ⟨_, rfl⟩
   rw [hx]
   have HXX := qH hx
   clear hx
   obtain ⟨sn, hsn⟩ : ∃ sn, e0d (b0D st (wrQ l) (wrQ r)) = sn := ⟨_, rfl⟩
   rw [hsn] at B6
   have HSN := qH hsn
   clear hsn
   go_wp2_with (with_reducible refine wSk 8 ?_)
   refine b0N rfl (d0B B6.out.y rfl m0x _ g0v ?_)
   intro g8 w10 yy hf
   have B7 := qH (B6.out.nob yy hf)
   clear yy hf B6
   go_wp2_with (with_reducible refine wSn ?_)
   refine b0N rfl (d0C B7.out.y 3 rfl rfl rfl rfl (e0c _ _) (a0G _) (a0f _ _) ?_)
   intro w11 yy hf
   have B8 := qH (B7.out.of yy hf (OffT.one (B7.out.y.at 3 rfl) ap2) (OffT.one (B7.out.y.at 3 rfl) ap2))
   clear yy hf B7
   go_wp2_with (with_reducible refine wSk 90 ?_)
   refine a0s B8.out.y.st 3 rfl rfl rfl Tryz.underlying125 rfl rfl (a0G _) ?_
   go_wp2_with fail
   refine (z0k x _).mono ?_
   rintro e' w12 ⟨rfl, hf⟩
   have B9 := qH (B8.out.still hf)
   clear hf B8
   obtain ⟨y, hy⟩ : ∃ y, ivZ x = y := ⟨_, rfl⟩
   rw [hy]
   have HYY := qH hy
   clear hy
   go_wp2_with (with_reducible refine wSk 9 ?_)
   refine b0N rfl (d0B B9.out.y rfl m0x _ g0v ?_)
   intro g9 w13 yy hf
   have B10 := qH (B9.out.nob yy hf)
   clear yy hf B9
   go_wp2_with (with_reducible refine wSn ?_)
   refine b0N rfl (d0C B10.out.y 4 rfl rfl rfl rfl (e0c _ _) (a0G _) (a0f _ _) ?_)
   intro w14 yy hf
   have B11 := qH (B10.out.of yy hf (OffT.one (B10.out.y.at 4 rfl) ap2) (OffT.one (B10.out.y.at 4 rfl) ap2))
   clear yy hf B10
   have B12 := qH (show PvB X w base gl w14 sn ug uh (uL ++ [.slice fl.1 33 fl.2]) (uR ++ [.slice fr.1 33 fr.2]) vu g h u (d2.map (·.1)) (d2.map (·.2)) [(gs, [.slice aa m ca, .slice ab m cb, .slice ag m cg, .slice ah m ch, vu], 91), (g3, [.pointer (some ⟨gl, 0, none⟩)], 98), (g4, [.slice aL d.length cL, .slice aR d.length cR, .slice none 0 0, .slice none 0 0], 26), (g8, cw 4 (eQ x), 125), (g9, cw 4 (eQ y), 125)] [⟨.slice aL d.length cL, 23, 1, d.length, uL⟩, ⟨.slice aR d.length cR, 23, 1, d.length, uR⟩, ⟨.slice aa m ca, 125, 4, m, qC a⟩, ⟨.slice ab m cb, 125, 4, m, qC b⟩, ⟨.slice ag m cg, 23, 1, m, ug⟩, ⟨.slice ah m ch, 23, 1, m, uh⟩] from B11.out)
   clear B11
   go_wp2_with fail
   refine wp_region_noPanic ?_
   refine a0d (fun wz => PvB X w base gl wz sn ug uh (uL ++ [.slice fl.1 33 fl.2]) (uR ++ [.slice fr.1 33 fr.2]) vu g h u (d2.map (·.1)) (d2.map (·.2)) [(gs, [.slice aa m ca, .slice ab m cb, .slice ag m cg, .slice ah m ch, vu], 91), (g3, [.pointer (some ⟨gl, 0, none⟩)], 98), (g4, [.slice aL d.length cL, .slice aR d.length cR, .slice none 0 0, .slice none 0 0], 26), (g8, cw 4 (eQ x), 125), (g9, cw 4 (eQ y), 125)] [⟨.slice aL d.length cL, 23, 1, d.length, uL⟩, ⟨.slice aR d.length cR, 23, 1, d.length, uR⟩, ⟨.slice aa m ca, 125, 4, m, qC a⟩, ⟨.slice ab m cb, 125, 4, m, qC b⟩, ⟨.slice ag m cg, 23, 1, m, ug⟩, ⟨.slice ah m ch, 23, 1, m, uh⟩]) 15 (.w 0 (.w 1 (.w 2 (.w 3 (.w 4 (.t 5 (.t 6 (.t 7 (.w 9 (.w 10 (.w 11 (.t 12 (.t 13 (.t 14 (.r 8 (.m 15 (.w 16 (.w 17 (.m 18 (.w 19 (.w 20 (.m 21 .nil)))))))))))))))))))))) ap0 ap0 (B12.out.drew) (fun _ _ _ _ _ h => h) ?_
   have Bd := B12.out.drew
   clear B12
   iterate 5 (refine a0a rfl rfl apW ?_; try simp only [clL])
   refine a0L (v := ?_) rfl rfl (fun wx hS => ?_) ?_
   rotate_left 1
   ·(have hc := (hS.y.at 0 rfl).cell (i := 0) rfl; clear hS; go_simp; with_reducible rfl)
   try simp only [clL]
   refine a0h rfl rfl rfl rfl (cw 4 (eQ x)) (fun wx hS => (hS.y.at 3 rfl).range 0 _ dZl) Tryz.underlying125 rfl (a0G _) ?_
   try simp only [clL]
   refine a0h rfl rfl rfl rfl (cw 4 (eQ y)) (fun wx hS => (hS.y.at 4 rfl).range 0 _ dZl) Tryz.underlying125 rfl (a0G _) ?_
   try simp only [clL]
   iterate 3 (refine a0a rfl rfl apW ?_; try simp only [clL])
   refine a0L (v := ?_) rfl rfl (fun wx hS => ?_) ?_
   rotate_left 1
   ·(have hc := (hS.y.at 0 rfl).cell (i := 1) rfl; clear hS; go_simp; with_reducible rfl)
   try simp only [clL]
   refine a0h rfl rfl rfl rfl (cw 4 (eQ y)) (fun wx hS => (hS.y.at 4 rfl).range 0 _ dZl) Tryz.underlying125 rfl (a0G _) ?_
   try simp only [clL]
   refine a0h rfl rfl rfl rfl (cw 4 (eQ x)) (fun wx hS => (hS.y.at 3 rfl).range 0 _ dZl) Tryz.underlying125 rfl (a0G _) ?_
   try simp only [clL]
   refine a0q rfl rfl ?_
   go_simp
   refine (v0h _ a x y n _ (RZ.ofOwn (Bd.y.own 2 rfl) LA.out.symm) (LA.out.trans HM.out.symm) h0 ap1).mono ?_
   rintro e' w15 ⟨fa, rfl, ho, hf⟩
   have Be := Bd.add hf ho
   refine ⟨Bd.still hf, ?_⟩
   clear ho hf Bd
   try simp only [clL]
   refine a0o rfl rfl ?_
   go_simp
   refine (v0h _ b y x n _ (RZ.ofOwn (Be.y.own 3 rfl) LB.out.symm) (LB.out.trans HM.out.symm) h0 ap1).mono ?_
   rintro e' w16 ⟨fb, rfl, ho, hf⟩
   have Bf := Be.add hf ho
   clear ho hf Be
   try simp only []
   iterate 2 (refine a0a rfl rfl apW ?_; try simp only [clL])
   refine a0o rfl rfl ?_
   refine c0h Bf.y 0 rfl 0 rfl rfl rfl ap4 x0m rfl rfl ?_
   intro w17 yy hf
   have Bg := Bf.of yy hf (OffT.one (Bf.y.at 0 rfl) ap2) (OffT.one (Bf.y.at 0 rfl) ap2)
   clear yy hf Bf
   try simp only [clL]
   iterate 2 (refine a0a rfl rfl apW ?_; try simp only [clL])
   refine a0o rfl rfl ?_
   refine c0h Bg.y 0 rfl 1 rfl rfl rfl ap4 x0m rfl rfl ?_
   intro w18 yy hf
   have Bh := Bg.of yy hf (OffT.one (Bg.y.at 0 rfl) ap2) (OffT.one (Bg.y.at 0 rfl) ap2)
   clear yy hf Bg
   try simp only [clL]
   refine a0e ?_
   refine NoPanic.normal ?_
   have B13 := qH (show PvB X w base gl w18 sn ug uh (uL ++ [.slice fl.1 33 fl.2]) (uR ++ [.slice fr.1 33 fr.2]) vu g h u (d2.map (·.1)) (d2.map (·.2)) [(gs, [.slice fa.1 n fa.2, .slice fb.1 n fb.2, .slice ag m cg, .slice ah m ch, vu], 91), (g3, [.pointer (some ⟨gl, 0, none⟩)], 98), (g4, [.slice aL d.length cL, .slice aR d.length cR, .slice none 0 0, .slice none 0 0], 26), (g8, cw 4 (eQ x), 125), (g9, cw 4 (eQ y), 125)] [⟨.slice aL d.length cL, 23, 1, d.length, uL⟩, ⟨.slice aR d.length cR, 23, 1, d.length, uR⟩, ⟨.slice aa m ca, 125, 4, m, qC a⟩, ⟨.slice ab m cb, 125, 4, m, qC b⟩, ⟨.slice ag m cg, 23, 1, m, ug⟩, ⟨.slice ah m ch, 23, 1, m, uh⟩, ⟨.slice fa.1 n fa.2, 125, 4, n, qC (b0I x (a.take n) y (a.drop n))⟩, ⟨.slice fb.1 n fb.2, 125, 4, n, qC (b0I y (b.take n) x (b.drop n))⟩] from Bh)
   clear Bh
   go_wp2_with fail
   refine wp_region_noPanic ?_
   refine a0d (fun wz => PvB X w base gl wz sn ug uh (uL ++ [.slice fl.1 33 fl.2]) (uR ++ [.slice fr.1 33 fr.2]) vu g h u (d2.map (·.1)) (d2.map (·.2)) [(gs, [.slice fa.1 n fa.2, .slice fb.1 n fb.2, .slice ag m cg, .slice ah m ch, vu], 91), (g3, [.pointer (some ⟨gl, 0, none⟩)], 98), (g4, [.slice aL d.length cL, .slice aR d.length cR, .slice none 0 0, .slice none 0 0], 26), (g8, cw 4 (eQ x), 125), (g9, cw 4 (eQ y), 125)] [⟨.slice aL d.length cL, 23, 1, d.length, uL⟩, ⟨.slice aR d.length cR, 23, 1, d.length, uR⟩, ⟨.slice aa m ca, 125, 4, m, qC a⟩, ⟨.slice ab m cb, 125, 4, m, qC b⟩, ⟨.slice ag m cg, 23, 1, m, ug⟩, ⟨.slice ah m ch, 23, 1, m, uh⟩, ⟨.slice fa.1 n fa.2, 125, 4, n, qC (b0I x (a.take n) y (a.drop n))⟩, ⟨.slice fb.1 n fb.2, 125, 4, n, qC (b0I y (b.take n) x (b.drop n))⟩]) 15 (.w 0 (.w 1 (.w 2 (.w 3 (.w 4 (.t 5 (.t 6 (.t 7 (.w 9 (.w 10 (.w 11 (.t 12 (.t 13 (.t 14 (.r 8 (.m 15 (.w 16 (.w 17 (.m 18 (.w 19 (.w 20 (.m 21 .nil)))))))))))))))))))))) ap0 ap0 (B13.out.drew) (fun _ _ _ _ _ h => h) ?_
   have Bd := B13.out.drew
   clear B13
   iterate 5 (refine a0a rfl rfl apW ?_; try simp only [clL])
   refine a0L (v := ?_) rfl rfl (fun wx hS => ?_) ?_
   rotate_left 1
   ·(have hc := (hS.y.at 0 rfl).cell (i := 2) rfl; clear hS; go_simp; with_reducible rfl)
   try simp only [clL]
   refine a0h rfl rfl rfl rfl (cw 4 (eQ y)) (fun wx hS => (hS.y.at 4 rfl).range 0 _ dZl) Tryz.underlying125 rfl (a0G _) ?_
   try simp only [clL]
   refine a0h rfl rfl rfl rfl (cw 4 (eQ x)) (fun wx hS => (hS.y.at 3 rfl).range 0 _ dZl) Tryz.underlying125 rfl (a0G _) ?_
   try simp only [clL]
   iterate 3 (refine a0a rfl rfl apW ?_; try simp only [clL])
   refine a0L (v := ?_) rfl rfl (fun wx hS => ?_) ?_
   rotate_left 1
   ·(have hc := (hS.y.at 0 rfl).cell (i := 3) rfl; clear hS; go_simp; with_reducible rfl)
   try simp only [clL]
   refine a0h rfl rfl rfl rfl (cw 4 (eQ x)) (fun wx hS => (hS.y.at 3 rfl).range 0 _ dZl) Tryz.underlying125 rfl (a0G _) ?_
   try simp only [clL]
   refine a0h rfl rfl rfl rfl (cw 4 (eQ y)) (fun wx hS => (hS.y.at 4 rfl).range 0 _ dZl) Tryz.underlying125 rfl (a0G _) ?_
   try simp only [clL]
   refine a0q rfl rfl ?_
   go_simp
   refine (g0t _ g y x n _ (RP.of2 (Bd.y.own 4 rfl) Bd.p.pg LG.out.symm) (LG.out.trans HM.out.symm) h0 ap1).mono ?_
   rintro e' w19 ⟨fg, ufg, rfl, ho, hp, hf⟩
   have Be := Bd.add hf ho
   have hp1 := hp
   refine ⟨Bd.still hf, ?_⟩
   clear ho hf Bd hp
   try simp only [clL]
   refine a0o rfl rfl ?_
   go_simp
   refine (g0t _ h x y n _ (RP.of2 (Be.y.own 5 rfl) Be.p.ph LH.out.symm) (LH.out.trans HM.out.symm) h0 ap1).mono ?_
   rintro e' w20 ⟨fh, ufh, rfl, ho, hp, hf⟩
   have Bf := Be.add hf ho
   have hp2 := hp
   replace hp1 := POwn.still hp1 hf
   clear ho hf Be hp
   try simp only []
   iterate 2 (refine a0a rfl rfl apW ?_; try simp only [clL])
   refine a0o rfl rfl ?_
   refine c0h Bf.y 0 rfl 2 rfl rfl rfl ap4 l0l rfl rfl ?_
   intro w21 yy hf
   have Bg := Bf.of yy hf (OffT.one (Bf.y.at 0 rfl) ap2) (OffT.one (Bf.y.at 0 rfl) ap2)
   replace hp1 := POwn.keepT hf (OffT.one (Bf.y.at 0 rfl) ap2) hp1
   replace hp2 := POwn.keepT hf (OffT.one (Bf.y.at 0 rfl) ap2) hp2
   clear yy hf Bf
   try simp only [clL]
   iterate 2 (refine a0a rfl rfl apW ?_; try simp only [clL])
   refine a0o rfl rfl ?_
   refine c0h Bg.y 0 rfl 3 rfl rfl rfl ap4 l0l rfl rfl ?_
   intro w22 yy hf
   have Bh := Bg.of yy hf (OffT.one (Bg.y.at 0 rfl) ap2) (OffT.one (Bg.y.at 0 rfl) ap2)
   replace hp1 := POwn.keepT hf (OffT.one (Bg.y.at 0 rfl) ap2) hp1
   replace hp2 := POwn.keepT hf (OffT.one (Bg.y.at 0 rfl) ap2) hp2
   clear yy hf Bg
   try simp only [clL]
   refine a0e ?_
   refine NoPanic.normal ?_
   have B14 := qH (show PvB X w base gl w22 sn ufg ufh (uL ++ [.slice fl.1 33 fl.2]) (uR ++ [.slice fr.1 33 fr.2]) vu (b0I y (g.take n) x (g.drop n)) (b0I x (h.take n) y (h.drop n)) u (d2.map (·.1)) (d2.map (·.2)) [(gs, [.slice fa.1 n fa.2, .slice fb.1 n fb.2, .slice fg.1 n fg.2, .slice fh.1 n fh.2, vu], 91), (g3, [.pointer (some ⟨gl, 0, none⟩)], 98), (g4, [.slice aL d.length cL, .slice aR d.length cR, .slice none 0 0, .slice none 0 0], 26)] [⟨.slice aL d.length cL, 23, 1, d.length, uL⟩, ⟨.slice aR d.length cR, 23, 1, d.length, uR⟩, ⟨.slice fa.1 n fa.2, 125, 4, n, qC (b0I x (a.take n) y (a.drop n))⟩, ⟨.slice fb.1 n fb.2, 125, 4, n, qC (b0I y (b.take n) x (b.drop n))⟩, ⟨.slice fg.1 n fg.2, 23, 1, n, ufg⟩, ⟨.slice fh.1 n fh.2, 23, 1, n, ufh⟩] from ⟨Sy.less Bh.y (List.cons_sublist_cons.2 (List.cons_sublist_cons.2 (List.cons_sublist_cons.2 (List.nil_sublist _)))) (List.cons_sublist_cons.2 (List.cons_sublist_cons.2 (.cons _ (.cons _ (.cons _ (.cons _ (List.Sublist.refl _))))))), ⟨POwn.mono (Nat.zero_le _) hp1, POwn.mono (Nat.zero_le _) hp2, Bh.p.pu, Bh.p.pl, Bh.p.pr, Bh.p.sep⟩, Bh.lg, Bh.hb⟩)
   clear Bh hp1 hp2
   go_wp2_with fail
   refine wp_region_noPanic ?_
   refine a0d (fun wx => Has wx g4 [.slice aL d.length cL, .slice aR d.length cR, .slice none 0 0, .slice none 0 0] 26) 9 (.w 0 (.t 1 (.w 2 (.w 5 (.t 6 (.w 7 (.b 3 8 (.b 4 8 (.w 10 (.r 8 (.m 9 (.m 11 (.w 12 (.m 13 .nil)))))) (.r 4 (.w 10 (.m 9 (.m 11 (.w 12 (.m 13 .nil))))))) (.r 3 (.r 4 (.w 10 (.m 9 (.m 11 (.w 12 (.m 13 .nil)))))))))))))) ap0 ap0 (B14.out.drew.y.at 2 rfl) (fun _ _ _ _ _ h => h) ?_
   have Bd := B14.out.drew
   clear B14
   refine a0a rfl rfl apW ?_
   try simp only [clL]
   refine a0L (v := ?_) rfl rfl (fun wx hS => ?_) ?_
   rotate_left 1
   ·(have hc := hS.cell (i := 0) rfl; clear hS; go_simp; with_reducible rfl)
   try simp only [clL]
   iterate 2 (refine a0a rfl rfl apW ?_; try simp only [clL])
   refine a0L (v := ?_) rfl rfl (fun wx hS => ?_) ?_
   rotate_left 1
   ·(have hc := hS.cell (i := 1) rfl; clear hS; go_simp; with_reducible rfl)
   try simp only [clL]
   refine a0a rfl rfl apW ?_
   try simp only [clL]
   refine l0k (C := fun ga gb q wz => PvB X w base gl wz sn ufg ufh (uL ++ [.slice fl.1 33 fl.2]) (uR ++ [.slice fr.1 33 fr.2]) vu (b0I y (g.take n) x (g.drop n)) (b0I x (h.take n) y (h.drop n)) u (d2.map (·.1)) (d2.map (·.2)) [(gs, [.slice fa.1 n fa.2, .slice fb.1 n fb.2, .slice fg.1 n fg.2, .slice fh.1 n fh.2, vu], 91), (g3, [.pointer (some ⟨gl, 0, none⟩)], 98), (g4, [.slice aL d.length cL, .slice aR d.length cR, .slice none 0 0, .slice none 0 0], 26)] [⟨q, 23, 1, d.length + 1, uL ++ [.slice fl.1 33 fl.2]⟩, ⟨.slice aR d.length cR, 23, 1, d.length, uR⟩, ⟨.slice fa.1 n fa.2, 125, 4, n, qC (b0I x (a.take n) y (a.drop n))⟩, ⟨.slice fb.1 n fb.2, 125, 4, n, qC (b0I y (b.take n) x (b.drop n))⟩, ⟨.slice fg.1 n fg.2, 23, 1, n, ufg⟩, ⟨.slice fh.1 n fh.2, 23, 1, n, ufh⟩] ∧ Has wz gb [.slice fr.1 33 fr.2] 23) (F := ?_) (fun key => ?_) ?_
   rotate_left 1
   ·skip
    refine c0C rfl rfl rfl rfl ?_ ?_
    ·skip
     refine c0g Bd.y rfl Tryz.underlying24 a0M [.slice fl.1 33 fl.2] rfl (c0f _ _ _) rfl [.slice fl.1 33 fl.2] rfl ?_
     intro ga w23 yy hf
     have Be := Bd.nob yy hf
     clear yy hf
     refine ⟨Be.y.at 2 rfl, ?_⟩
     try simp only [clL]
     refine c0C rfl rfl rfl rfl ?_ ?_
     ·skip
      refine b0B Be.y 0 rfl rfl Tryz.underlying24 a0M rfl ap2 rfl rfl (Rd.whole (Be.y.at 3 rfl)) (d0V _ _ _) (by unfold maxLen; have := HD.out; omega) (by have := HD.out; omega) ?_
      intro q w24 yy hf
      have Bf := Be.of yy hf (OffT.own (Be.y.own 0 rfl) ap2) (OffT.own (Be.y.own 0 rfl) ap2)
      clear yy hf
      refine ⟨Bf.y.at 2 rfl, ?_⟩
      try simp only [clL]
      refine a0a rfl rfl apW ?_
      try simp only [clL]
      refine a0q rfl rfl ?_
      refine c0g Bf.y rfl Tryz.underlying24 a0M [.slice fr.1 33 fr.2] rfl (c0f _ _ _) rfl [.slice fr.1 33 fr.2] rfl ?_
      intro gb w25 yy hf
      have Bg := Bf.nob yy hf
      clear yy hf
      refine ⟨Bg.y.at 2 rfl, ?_⟩
      try simp only [clL]
      exact key ga gb q _ ⟨Bg.less (List.cons_sublist_cons.2 (List.cons_sublist_cons.2 (List.cons_sublist_cons.2 (List.nil_sublist _)))) (List.Sublist.refl _), Bg.y.at 4 rfl⟩
     ·skip
      refine c0g Be.y rfl Tryz.underlying24 a0M [.slice fr.1 33 fr.2] rfl (c0f _ _ _) rfl [.slice fr.1 33 fr.2] rfl ?_
      intro gb w24 yy hf
      have Bf := Be.nob yy hf
      clear yy hf
      refine ⟨Bf.y.at 2 rfl, ?_⟩
      try simp only [clL]
      refine a0q rfl rfl ?_
      refine b0B Bf.y 0 rfl rfl Tryz.underlying24 a0M rfl ap2 rfl rfl (Rd.whole (Bf.y.at 3 rfl)) (d0V _ _ _) (by unfold maxLen; have := HD.out; omega) (by have := HD.out; omega) ?_
      intro q w25 yy hf
      have Bg := Bf.of yy hf (OffT.own (Bf.y.own 0 rfl) ap2) (OffT.own (Bf.y.own 0 rfl) ap2)
      clear yy hf
      refine ⟨Bg.y.at 2 rfl, ?_⟩
      try simp only [clL]
      refine a0a rfl rfl apW ?_
      try simp only [clL]
      exact key ga gb q _ ⟨Bg.less (List.cons_sublist_cons.2 (List.cons_sublist_cons.2 (List.cons_sublist_cons.2 (List.nil_sublist _)))) (List.Sublist.refl _), Bg.y.at 4 rfl⟩
    ·skip
     refine c0g Bd.y rfl Tryz.underlying24 a0M [.slice fr.1 33 fr.2] rfl (c0f _ _ _) rfl [.slice fr.1 33 fr.2] rfl ?_
     intro gb w23 yy hf
     have Be := Bd.nob yy hf
     clear yy hf
     refine ⟨Be.y.at 2 rfl, ?_⟩
     try simp only [clL]
     refine a0q rfl rfl ?_
     refine c0g Be.y rfl Tryz.underlying24 a0M [.slice fl.1 33 fl.2] rfl (c0f _ _ _) rfl [.slice fl.1 33 fl.2] rfl ?_
     intro ga w24 yy hf
     have Bf := Be.nob yy hf
     clear yy hf
     refine ⟨Bf.y.at 2 rfl, ?_⟩
     try simp only [clL]
     refine a0q rfl rfl ?_
     refine b0B Bf.y 0 rfl rfl Tryz.underlying24 a0M rfl ap2 rfl rfl (Rd.whole (Bf.y.at 4 rfl)) (d0V _ _ _) (by unfold maxLen; have := HD.out; omega) (by have := HD.out; omega) ?_
     intro q w25 yy hf
     have Bg := Bf.of yy hf (OffT.own (Bf.y.own 0 rfl) ap2) (OffT.own (Bf.y.own 0 rfl) ap2)
     clear yy hf
     refine ⟨Bg.y.at 2 rfl, ?_⟩
     try simp only [clL]
     refine a0a rfl rfl apW ?_
     try simp only [clL]
     exact key ga gb q _ ⟨Bg.less (List.cons_sublist_cons.2 (List.cons_sublist_cons.2 (List.cons_sublist_cons.2 (List.nil_sublist _)))) (List.Sublist.refl _), Bg.y.at 3 rfl⟩
   intro ga gb q w25 hk
   obtain ⟨Be, hh⟩ := hk
   clear Bd
   obtain ⟨aq, cq, rfl, -⟩ := Be.y.sl 0 rfl
   refine a0o rfl rfl ?_
   refine b0B Be.y 1 rfl rfl Tryz.underlying24 a0M rfl ap2 rfl rfl (Rd.whole hh) (d0V _ _ _) (by unfold maxLen; have := HD.out; omega) (by have := HD.out; omega) ?_
   intro q2 w26 yy hf
   have Bf := Be.of yy hf (OffT.own (Be.y.own 1 rfl) ap2) (OffT.own (Be.y.own 1 rfl) ap2)
   clear yy hf
   clear hh Be
   obtain ⟨aq2, cq2, rfl, -⟩ := Bf.y.sl 1 rfl
   try simp only [clL]
   refine a0o rfl rfl ?_
   refine c0h Bf.y 2 rfl 0 rfl rfl rfl ap4 l0l rfl rfl ?_
   intro w27 yy hf
   have Bg := Bf.of yy hf (OffT.one (Bf.y.at 2 rfl) ap2) (OffT.one (Bf.y.at 2 rfl) ap2)
   clear yy hf Bf
   try simp only [clL]
   refine a0a rfl rfl apW ?_
   try simp only [clL]
   refine a0o rfl rfl ?_
   refine c0h Bg.y 2 rfl 1 rfl rfl rfl ap4 l0l rfl rfl ?_
   intro w28 yy hf
   have Bh := Bg.of yy hf (OffT.one (Bg.y.at 2 rfl) ap2) (OffT.one (Bg.y.at 2 rfl) ap2)
   clear yy hf Bg
   try simp only [clL]
   refine a0e ?_
   refine NoPanic.normal ?_
   have B15 := qH Bh
   clear Bh
   have hq2 : (n : Int) / 2 = ((n / 2 : Nat) : Int) := by omega
   generalize hqq : n / 2 = q2 at hq2
   have HQ2 := qH hqq
   clear hqq
   have hq3 : (q2 : Int) ≤ 16 := by have := HQ2.out; omega
   go_wp2_with fail
   go_roundw
   case rel =>
    have e2 : d2.length = d.length + 1 := by rw [← HD2.out, List.length_append, List.length_singleton]
    exact ⟨i, sn, (b0I x (a.take n) y (a.drop n)), (b0I y (b.take n) x (b.drop n)), (b0I y (g.take n) x (g.drop n)), (b0I x (h.take n) y (h.drop n)), _, _, _, _, _, _, ufg, ufh, _, _, d2, by have := HI.out; omega, congrArg (fun (z : Nat) => Value.int .i64 (z : Int)) (by rw [HN.out, HQ2.out]), (e0u _ _ _ _ (LA.out.trans HM.out.symm)).trans HN.out.symm, (e0u _ _ _ _ (LB.out.trans HM.out.symm)).trans HN.out.symm, (e0u _ _ _ _ (LG.out.trans HM.out.symm)).trans HN.out.symm, (e0u _ _ _ _ (LH.out.trans HM.out.symm)).trans HN.out.symm, by rw [e2]; have := HD.out; omega, by rw [HPP.out, p0k i st a b g h u l r x y n HN.out HSL.out HSR.out HXX.out HYY.out d, HD2.out, HSN.out], B15.out.lg, B15.out.hb, by rw [e2, HN.out]; exact B15.out.y.less (List.cons_sublist_cons.2 (List.cons_sublist_cons.2 (List.cons_sublist_cons.2 (List.nil_sublist _)))) (List.Sublist.refl _), B15.out.p⟩
   case measure => simp [intOf]; have := HQ2.out; omega
end
section
open Go.RowKit Go.Mv Mvp Mvq
noncomputable def zqB (l : List UInt8) : Zq := zq (beN l)
section
attribute [local irreducible] elN beN eQ cw
theorem z0G (l : List UInt8) : cw 4 (elN mQ (beN l)) = cw 4 (eQ (zqB l)) := by rw [m0A, zqB]
theorem A0y (ls : List (List UInt8)) : a0I mQ ls = qC (ls.map zqB) := by
 unfold a0I qC
 rw [List.flatMap_map]
 exact congrArg (fun f => ls.flatMap f) (funext z0G)
end
theorem m0I {P : Program} {fn : Func} {p : Tmp} {ty : TypeId} {s r : Tmp} (h : fn.results = #[.tmp s, .cell p ty, .tmp r]) {tmps : Array Value} {w : World} {g : Nat} {L : List Value} {T : TypeId}
  (hp : tmps.getD p undef = .pointer (some ⟨g, 0, none⟩)) (hg : Has w g L T) {d : TypeDesc} (hu : P.underlying ty = some d) (hd : (match d with | .struct _ | .array _ _ => true | _ => false) = true) (hi : (P.info? ty).map (·.size) = some L.length) {u v : Value} (hsu : tmps.getD s undef = u) (hv : tmps.getD r undef = v) :
  (results fn tmps).run P w = .ok (.tuple #[u, .agg L.toArray, v]) w := by
 obtain ⟨lo, hi', hh, -⟩ := hg
 have hp' : tmps[p]?.getD undef = .pointer (some ⟨g, 0, none⟩) := by simpa using hp
 have hs' : tmps[s]?.getD undef = u := by simpa using hsu
 have hv' : tmps[r]?.getD undef = v := by simpa using hv
 simp [results, h, hp', hs', hv', asAddr, run_loadVar_row w g T ty L.toArray _ _ hh hu (by cases d <;> first | rfl | (simp at hd)) (by simpa using hi)]
def XH (gs gl : Nat) (l : List Ox) : Nat → Prop := fun j => j = gs ∨ j = gl ∨ ∃ x ∈ l, b0g x.v j
theorem OffT.xh {T : TypeId} {w : World} {gs gl base : Nat} {st : List UInt8} {X : Nat → Prop} {w0 : World} {L : List Value} {l : List Ox} {bl : List (Nat × List Value × TypeId)} (hy : Sy X w0 w bl l) (hg : Has w gs L 91) (hl : LogAt w base gl st) (h1 : T ≠ 91) (h2 : T ≠ 293) (h3 : (l.all fun x => x.T != T) = true) : OffT T w (XH gs gl l) := by
 intro k hlt hk
 rcases hk with rfl | rfl | ⟨x, hx, hk⟩
 ·exact ⟨L, _, hg, h1⟩
 ·obtain ⟨v, hv⟩ := hl.has
  exact ⟨_, _, hv, h2⟩
 ·have h4 := OffT.own (T := T) (hy.os.own x hx) (by have := List.all_eq_true.1 h3 x hx; simp only [bne_iff_ne] at this; exact this.symm)
  exact h4 k hlt hk
theorem Sy.toXH {w w' : World} {bl : List (Nat × List Value × TypeId)} {l : List Ox} {gs gl : Nat} {L : List Value} {T : TypeId} (h : Sy Nob w w' bl l) (i : Nat) (hi : bl[i]? = some (gs, L, T)) : Sy (XH gs gl l) w' w' [(gs, L, T)] l := by
 have hm := List.mem_of_getElem? hi
 refine ⟨⟨Fr.refl _ _, fun x hx => .inr (.inl (by rw [List.mem_singleton.1 hx])), fun x hx => by rw [List.mem_singleton.1 hx]; exact h.at i hi, List.pairwise_singleton _ _⟩, h.os.mono fun k hk => ?_, fun x hx k hk => .inl (.inr (.inr ⟨x, hx, hk⟩))⟩
 simp only [List.map_cons, List.map_nil, List.mem_singleton] at hk
 rw [hk]
 exact List.mem_map.2 ⟨_, hm, rfl⟩
theorem Has.keepT {w w' : World} {S : Nat → Prop} {g : Nat} {L : List Value} {T : TypeId} (h : Has w g L T) (hf : Fr S w w') (hS : OffT T w S) : Has w' g L T := h.keep hf fun hk => by
 obtain ⟨L2, U, h2, hT⟩ := hS g h.lt hk
 obtain ⟨_, _, e1, _⟩ := h
 obtain ⟨_, _, e2, _⟩ := h2
 rw [e1] at e2
 simp only [Option.some.injEq, Obj.cells.injEq] at e2
 exact hT e2.2.1
theorem l0n (a b c d e : Option Addr) (m1 m2 m3 m4 m5 n1 n2 n3 n4 n5 : Nat) : Tryz.prog.built 91 [(0, .slice a m1 n1), (1, .slice b m2 n2), (2, .slice c m3 n3), (3, .slice d m4 n4), (4, .slice e m5 n5)] = some ([Value.slice a m1 n1, .slice b m2 n2, .slice c m3 n3, .slice d m4 n4, .slice e m5 n5]).toArray := by kernel_rfl
theorem s0a (n : Nat) (hn : n ≤ 1000) (w : World) : Calls Tryz.prog 45 #[.int .i64 (n : Int)] w fun e w' => ∃ (z : Option Addr × Nat) (us : List Value), e = .returned (.slice z.1 n z.2) ∧ Go.Mv.Own w' w.heap.size 23 1 (.slice z.1 n z.2) n us ∧ POwn w' w.heap.size us ((lsZ n gLQ).map wrQ) ∧ Fr Nob w w' := by
 refine (x0k n hn w).mono ?_
 rintro e w' ⟨v, rfl, ⟨us, ho, hp, -⟩, hf⟩
 rw [List.length_map, a0O] at ho
 obtain ⟨a', c', rfl, -⟩ := Go.Mv.Own.form ho
 exact ⟨(a', c'), us, rfl, ho, hp, hf⟩
theorem n0S (n : Nat) (hn : n ≤ 1000) (w : World) : Calls Tryz.prog 46 #[.int .i64 (n : Int)] w fun e w' => ∃ (z : Option Addr × Nat) (us : List Value), e = .returned (.slice z.1 n z.2) ∧ Go.Mv.Own w' w.heap.size 23 1 (.slice z.1 n z.2) n us ∧ POwn w' w.heap.size us ((lsZ n gRQ).map wrQ) ∧ Fr Nob w w' := by
 refine (t0U n hn w).mono ?_
 rintro e w' ⟨v, rfl, ⟨us, ho, hp, -⟩, hf⟩
 rw [List.length_map, a0O] at ho
 obtain ⟨a', c', rfl, -⟩ := Go.Mv.Own.form ho
 exact ⟨(a', c'), us, rfl, ho, hp, hf⟩
theorem n0T (w : World) : Calls Tryz.prog 47 #[] w fun e w' => ∃ z : Option Addr × Nat, e = .returned (.slice z.1 33 z.2) ∧ Go.Mv.Own w' w.heap.size 5 1 (.slice z.1 33 z.2) 33 (bs (wrQ f0H)) ∧ Fr Nob w w' := by
 refine (t0V w).mono ?_
 rintro e w' ⟨v, rfl, ho, hf⟩
 have ho2 : Go.Mv.Own w' w.heap.size 5 1 v 33 (bs (wrQ f0H)) := by
  have h2 := ho
  unfold OwnB1 at h2
  rwa [d0U] at h2
 obtain ⟨a', c', rfl, -⟩ := Go.Mv.Own.form ho2
 exact ⟨(a', c'), rfl, ho2, hf⟩
theorem u0c (al : Option Addr) (n cl : Nat) (vs : List Value) (ls : List (List UInt8)) (w : World) (hv : Rd w al n vs) (hp : BParts w vs ls) (hn : n ≤ 100000) (h : a0D mQ ls = true) :
  Calls Tryz.prog 44 #[.slice al n cl] w fun e w' => ∃ z : Option Addr × Nat, e = .returned (.tuple #[.slice z.1 n z.2, .bool true]) ∧ Go.Mv.Own w' w.heap.size 125 4 (.slice z.1 n z.2) n (qC (ls.map zqB)) ∧ Fr Nob w w' := by
 refine (A0t al n cl vs ls w hv hp hn h).mono ?_
 rintro e w' ⟨v, rfl, ho, hf⟩
 rw [A0y, ← hp.1, hv.len] at ho
 obtain ⟨a', c', rfl, -⟩ := Go.Mv.Own.form ho
 exact ⟨(a', c'), rfl, ho, hf⟩
noncomputable def d0p (n : Nat) (xs ys : List Zq) : Zq := d0w xs ys (lsZ n gLQ) (lsZ n gRQ) f0H
noncomputable def c0y (k : Nat) (lab : List UInt8) (xs ys : List Zq) : List (Zq × Zq) × Zq × Zq := b0d chP ivZ k (prodL lab (wrQ (d0p (2 ^ k) xs ys))) xs ys (lsZ (2 ^ k) gLQ) (lsZ (2 ^ k) gRQ) f0H
def A0z (w : World) (D : Zq) (P : List (Zq × Zq) × Zq × Zq) (k : Nat) (e : Ending) (w' : World) : Prop :=
 ∃ vp vL vR vA vB uL uR, e = .returned (.tuple #[vp, .agg #[vL, vR, vA, vB], .int .i64 0]) ∧ Go.Mv.Own w' 0 23 1 vL k uL ∧ Go.Mv.Own w' 0 23 1 vR k uR ∧
   POwn w' w.heap.size (uL ++ uR ++ [vA, vB] ++ [vp]) (P.1.map (fun p => wrQ p.1) ++ P.1.map (fun p => wrQ p.2) ++ [bZ P.2.1, bZ P.2.2] ++ [wrQ D]) ∧ Sep (uL ++ uR ++ [vA, vB] ++ [vp]) ∧ Fr Nob w w'
attribute [local irreducible] a0v lw mix cw b0e b0f b0a beN b0l b0b a0z a0F elN mdL b0m rtV b0J c0m b0s c0Q a0D c0z e0H e0I a0R a0T b0c toB a0u a0w a0Y a0E b0Z a0S a0x c0n b0t c0G e0U wrQ qC eQ bZ a0I zqB gLQ gRQ f0H b0d d0w lsZ
theorem POwn.older {w1 w2 : World} {b n : Nat} {T : TypeId} {v : Value} {L : List Value} {vs : List Value} {ls : List (List UInt8)} (hv : Go.Mv.Own w1 b T 1 v n L) (h : POwn w2 w1.heap.size vs ls) : ∀ x ∈ vs, ∀ k, b0g x k → ¬ b0g v k := fun x hx k hk hk2 => by
 obtain ⟨l, -, ho⟩ := POwn.mem h hx
 have h1 := (Go.Mv.Own.lt ho hk).1
 have h2 := (Go.Mv.Own.lt hv hk2).2
 omega
theorem POwn.last2 {w : World} {b : Nat} {vs : List Value} {ls : List (List UInt8)} {vA vB : Value} (h : POwn w b (vs ++ [vA, vB]) ls) : ∃ a1 n1 c1 a2 n2 c2, vA = .slice a1 n1 c1 ∧ vB = .slice a2 n2 c2 := by
 obtain ⟨l1, -, h1⟩ := POwn.mem h (v := vA) ap4
 obtain ⟨l2, -, h2⟩ := POwn.mem h (v := vB) ap4
 obtain ⟨a1, c1, e1, -⟩ := Go.Mv.Own.form h1
 obtain ⟨a2, c2, e2, -⟩ := Go.Mv.Own.form h2
 exact ⟨a1, _, c1, a2, _, c2, e1, e2⟩
theorem j0S (lab : ByteArray) (hlab : lab.size ≤ 1000000) (k : Nat) (hk : k ≤ 6) (aa : Option Addr) (ca : Nat) (ua : List Value) (la : List (List UInt8)) (ab : Option Addr) (cb : Nat) (ub : List Value) (lb : List (List UInt8)) (w : World)
  (ha : Rd w aa (2 ^ k) ua) (hpa : BParts w ua la) (hb : Rd w ab (2 ^ k) ub) (hpb : BParts w ub lb) (hna : a0D mQ la = true) (hnb : a0D mQ lb = true) :
  Calls Tryz.prog 12 #[.string lab, .slice aa ((2 ^ k : Nat)) ca, .slice ab ((2 ^ k : Nat)) cb] w (A0z w (d0p (2 ^ k) (la.map zqB) (lb.map zqB)) (c0y k lab.data.toList (la.map zqB) (lb.map zqB)) (c0y k lab.data.toList (la.map zqB) (lb.map zqB)).1.length) := by
 have hlen := d0x k hk
 have HXL0 : (la.map zqB).length = 2 ^ k := by rw [List.length_map, ← hpa.1, ha.len]
 have HYL0 : (lb.map zqB).length = 2 ^ k := by rw [List.length_map, ← hpb.1, hb.len]
 obtain ⟨D, hD⟩ : ∃ D, d0p (2 ^ k) (la.map zqB) (lb.map zqB) = D := ⟨_, rfl⟩
 obtain ⟨P, hP⟩ : ∃ P, c0y k lab.data.toList (la.map zqB) (lb.map zqB) = P := ⟨_, rfl⟩
 rw [hD, hP]
 unfold c0y at hP
 rw [hD] at hP
 unfold d0p at hD
 obtain ⟨xs, hxs⟩ : ∃ xs, la.map zqB = xs := ⟨_, rfl⟩
 obtain ⟨ys, hys⟩ : ∃ ys, lb.map zqB = ys := ⟨_, rfl⟩
 have HFT := qH (f0J k hk)
 rw [hxs, hys] at hP hD
 rw [hxs] at HXL0
 rw [hys] at HYL0
 obtain ⟨n, hn⟩ : ∃ n, 2 ^ k = n := ⟨_, rfl⟩
 rw [hn] at HFT hlen HXL0 HYL0 hP hD ha hb ⊢
 obtain ⟨h0, h64⟩ := hlen
 have HN := qH hn
 have HXL := qH HXL0
 have HYL := qH HYL0
 have HDD := qH hD
 have HPR := qH hP
 have HXS := qH hxs
 have HYS := qH hys
 have HRA := qH ha
 have HRB := qH hb
 have HPA := qH hpa
 have HPB := qH hpb
 have HNA := qH hna
 have HNB := qH hnb
 have HLB := qH hlab
 have hnI : (n : Int) ≤ 64 := by omega
 clear hn HXL0 HYL0 hD hP hxs hys ha hb hpa hpb hna hnb hlab
 have y0 := Sy.start Nob w
 go_enter Tryz.func12, Tryz.ntmps12
 go_wp2_with (with_reducible refine wSk 7 ?_)
 refine b0N rfl (d0B y0 rfl m0H _ rfl ?_)
 intro g7 w1 y1 hf1
 clear y0 hf1
 go_wp2_with fail
 refine (HFT.out _).mono ?_
 rintro e' w2 ⟨rfl, rfl⟩
 go_wp2_with fail
 refine (u0c aa n ca ua la _ (HRA.out.still y1.st.fr) (BParts.still HPA.out y1.st.fr) ap1 HNA.out).mono ?_
 rintro e' w3 ⟨fa, rfl, ho, hf⟩
 rw [HXS.out] at ho
 have y3 := y1.add hf ho
 clear ho hf y1
 go_wp2_with fail
 refine (u0c ab n cb ub lb _ (HRB.out.still y3.st.fr) (BParts.still HPB.out y3.st.fr) ap1 HNB.out).mono ?_
 rintro e' w4 ⟨fb, rfl, ho, hf⟩
 rw [HYS.out] at ho
 have y4 := y3.add hf ho
 clear ho hf y3
 go_wp2_with fail
 refine (s0a n ap1 _).mono ?_
 rintro e' w5 ⟨fg, ug, rfl, ho, hp, hf⟩
 have y5 := y4.add hf ho
 have HPG := qH (POwn.mono (Nat.zero_le _) hp)
 clear ho hf y4 hp
 go_wp2_with fail
 refine (n0S n ap1 _).mono ?_
 rintro e' w6 ⟨fh, uh, rfl, ho, hp, hf⟩
 have y6 := y5.add hf ho
 replace HPG := qH (POwn.still HPG.out hf)
 have HPH := qH (POwn.mono (Nat.zero_le _) hp)
 clear ho hf y5 hp
 go_wp2_with fail
 refine (n0T _).mono ?_
 rintro e' w7 ⟨fu, rfl, ho, hf⟩
 have y7 := y6.keep hf
 replace HPG := qH (POwn.still HPG.out hf)
 replace HPH := qH (POwn.still HPH.out hf)
 have HPU := qH (Go.Mv.Own.mono ho (Nat.zero_le _))
 clear ho hf y6
 go_wp2_with (with_reducible refine wSk 57 ?_)
 refine b0M rfl rfl _ (l0n _ _ _ _ _ n n n n 33 _ _ _ _ _) ?_
 go_wp2_with (with_reducible refine wSk 58 ?_)
 refine b0N rfl (l0M y7 rfl rfl [.slice fa.1 n fa.2, .slice fb.1 n fb.2, .slice fg.1 n fg.2, .slice fh.1 n fh.2, .slice fu.1 33 fu.2] rfl ?_)
 intro gs w8 y8 hf
 have B0 := qH (show Sy Nob w w8 [(g7, [.slice none 0 0, .slice none 0 0, .slice none 0 0, .slice none 0 0], 26), (gs, [.slice fa.1 n fa.2, .slice fb.1 n fb.2, .slice fg.1 n fg.2, .slice fh.1 n fh.2, .slice fu.1 33 fu.2], 91)] [⟨.slice fa.1 n fa.2, 125, 4, n, qC xs⟩, ⟨.slice fb.1 n fb.2, 125, 4, n, qC ys⟩, ⟨.slice fg.1 n fg.2, 23, 1, n, ug⟩, ⟨.slice fh.1 n fh.2, 23, 1, n, uh⟩] ∧ POwn w8 0 ug ((lsZ n gLQ).map wrQ) ∧ POwn w8 0 uh ((lsZ n gRQ).map wrQ) ∧ Go.Mv.Own w8 0 5 1 (.slice fu.1 33 fu.2) 33 (bs (wrQ f0H)) from ⟨y8, POwn.still HPG.out hf, POwn.still HPH.out hf, Go.Mv.Own.still HPU.out hf⟩)
 clear y7 y8 hf HPG HPH HPU
 go_wp2_with fail
 refine wp_region_noPanic ?_
 refine a0d (fun wz => Sy Nob w wz [(g7, [.slice none 0 0, .slice none 0 0, .slice none 0 0, .slice none 0 0], 26), (gs, [.slice fa.1 n fa.2, .slice fb.1 n fb.2, .slice fg.1 n fg.2, .slice fh.1 n fh.2, .slice fu.1 33 fu.2], 91)] [⟨.slice fa.1 n fa.2, 125, 4, n, qC xs⟩, ⟨.slice fb.1 n fb.2, 125, 4, n, qC ys⟩, ⟨.slice fg.1 n fg.2, 23, 1, n, ug⟩, ⟨.slice fh.1 n fh.2, 23, 1, n, uh⟩] ∧ POwn wz 0 ug ((lsZ n gLQ).map wrQ) ∧ POwn wz 0 uh ((lsZ n gRQ).map wrQ) ∧ Go.Mv.Own wz 0 5 1 (.slice fu.1 33 fu.2) 33 (bs (wrQ f0H))) 20 (.w 0 (.w 1 (.w 2 (.t 3 (.w 4 (.w 5 (.w 6 (.t 7 (.w 8 (.w 9 (.w 10 (.t 11 (.w 12 (.w 13 (.w 14 (.t 15 (.w 16 (.w 17 (.w 18 (.t 19 (.m 20 (.w 21 .nil)))))))))))))))))))))) ap0 ap0 (And.intro B0.out.1.drew (And.intro (POwn.still B0.out.2.1 (Fr.refl Nob _).drew) (And.intro (POwn.still B0.out.2.2.1 (Fr.refl Nob _).drew) (Go.Mv.Own.still B0.out.2.2.2 (Fr.refl Nob _).drew)))) (fun _ _ _ _ _ h => h) ?_
 have B1 := And.intro B0.out.1.drew (And.intro (POwn.still B0.out.2.1 (Fr.refl Nob _).drew) (And.intro (POwn.still B0.out.2.2.1 (Fr.refl Nob _).drew) (Go.Mv.Own.still B0.out.2.2.2 (Fr.refl Nob _).drew)))
 clear B0
 iterate 3 (refine a0a rfl rfl apW ?_; try simp only [clL])
 refine a0L (v := ?_) rfl rfl (fun wx hS => ?_) ?_
 rotate_left 1
 ·(have hc := (hS.1.at 1 rfl).cell (i := 0) rfl; clear hS; go_simp; with_reducible rfl)
 try simp only [clL]
 iterate 3 (refine a0a rfl rfl apW ?_; try simp only [clL])
 refine a0L (v := ?_) rfl rfl (fun wx hS => ?_) ?_
 rotate_left 1
 ·(have hc := (hS.1.at 1 rfl).cell (i := 1) rfl; clear hS; go_simp; with_reducible rfl)
 try simp only [clL]
 iterate 3 (refine a0a rfl rfl apW ?_; try simp only [clL])
 refine a0L (v := ?_) rfl rfl (fun wx hS => ?_) ?_
 rotate_left 1
 ·(have hc := (hS.1.at 1 rfl).cell (i := 2) rfl; clear hS; go_simp; with_reducible rfl)
 try simp only [clL]
 iterate 3 (refine a0a rfl rfl apW ?_; try simp only [clL])
 refine a0L (v := ?_) rfl rfl (fun wx hS => ?_) ?_
 rotate_left 1
 ·(have hc := (hS.1.at 1 rfl).cell (i := 3) rfl; clear hS; go_simp; with_reducible rfl)
 try simp only [clL]
 iterate 3 (refine a0a rfl rfl apW ?_; try simp only [clL])
 refine a0L (v := ?_) rfl rfl (fun wx hS => ?_) ?_
 rotate_left 1
 ·(have hc := (hS.1.at 1 rfl).cell (i := 4) rfl; clear hS; go_simp; with_reducible rfl)
 try simp only [clL]
 refine a0o rfl rfl ?_
 go_simp
 refine (r0Z _ _ _ _ _ xs ys (lsZ n gLQ) (lsZ n gRQ) f0H _ (RZ.ofOwn (B1.1.own 0 rfl) HXL.out.symm) (RZ.ofOwn (B1.1.own 1 rfl) HYL.out.symm) (RP.of2 (B1.1.own 2 rfl) B1.2.1 (a0O _ _).symm) (RP.of2 (B1.1.own 3 rfl) B1.2.2.1 (a0O _ _).symm) (BPart.ofOwnU B1.2.2.2) n h0 ap1 HXL.out HYL.out (a0O _ _) (a0O _ _)).mono ?_
 rintro e' w9 ⟨fp, rfl, ho, hf⟩
 have B2 := qH (And.intro (B1.1.keep hf) (And.intro (POwn.still B1.2.1 hf) (And.intro (POwn.still B1.2.2.1 hf) (Go.Mv.Own.still B1.2.2.2 hf))))
 rw [HDD.out] at ho
 have HPT := qH (Go.Mv.Own.mono ho B1.1.st.fr.size)
 clear ho hf B1
 try simp only []
 refine a0a rfl rfl apW ?_
 try simp only [clL]
 refine a0e ?_
 refine NoPanic.normal ?_
 go_wp2_with fail
 refine (h0V lab _ (wrQ D) _ HLB.out (b0G HPT.out ap2)).mono ?_
 rintro e' w10 ⟨gl, rfl, hgl, hl, hf⟩
 have HPT2 := qH (Go.Mv.Own.still HPT.out hf)
 have hy := B2.out.1.keep hf
 have HGL := qH (Nat.le_trans B2.out.1.st.fr.size hgl)
 have HY := qH hy
 have HLG := qH (hl.mono (Nat.zero_le _))
 have HQ1 := qH (POwn.still B2.out.2.1 hf)
 have HQ2 := qH (POwn.still B2.out.2.2.1 hf)
 have HQ3 := qH (Go.Mv.Own.still B2.out.2.2.2 hf)
 have HFB := qH (Fr.trans (S := Nob) B2.out.1.st.fr hf (fun _ _ t => t))
 clear hl hf hy B2 HPT hgl
 go_wp2_with fail
 refine (x0x (XH gs gl [⟨.slice fa.1 n fa.2, 125, 4, n, qC xs⟩, ⟨.slice fb.1 n fb.2, 125, 4, n, qC ys⟩, ⟨.slice fg.1 n fg.2, 23, 1, n, ug⟩, ⟨.slice fh.1 n fh.2, 23, 1, n, uh⟩]) k hk gs gl 0 _ xs ys (lsZ n gLQ) (lsZ n gRQ) f0H _ _ _ _ _ ug uh _ (by rw [HN.out]; exact Sy.toXH HY.out 1 rfl) (.inr (.inl rfl)) HLG.out (Nat.zero_le _) HQ1.out HQ2.out HQ3.out (by rw [HN.out]; exact HXL.out) (by rw [HN.out]; exact HYL.out) (by rw [HN.out]; exact a0O _ _) (by rw [HN.out]; exact a0O _ _) P HPR.out).mono ?_
 rintro e' w11 ⟨vL, vR, vA, vB, uL, uR, rfl, hL, hR, hP, hS, hf⟩
 have HPT3 := qH (Go.Mv.Own.keepT HPT2.out hf (OffT.xh HY.out (HY.out.at 1 rfl) HLG.out ap2 ap2 rfl))
 have HG7 := qH (Has.keepT (HY.out.at 0 rfl) hf (OffT.xh HY.out (HY.out.at 1 rfl) HLG.out ap2 ap2 rfl))
 have HG7S := qH (HY.out.st.fresh0 0 rfl)
 have HFR := qH (show Fr Nob w w11 from HFB.out.trans hf fun i hi hx => by
  rcases hx with rfl | rfl | ⟨x, hx, hk⟩
  ·have := HY.out.st.fresh0 1 rfl; omega
  ·have := HGL.out; omega
  ·have := (HY.out.inX x hx i hk).resolve_left id; omega)
 have HNW := qH (fun v (hv : v ∈ uL ++ uR ++ [vA, vB]) => POwn.older HPT2.out hP v hv)
 have HPA2 := qH (POwn.mono HFB.out.size hP)
 have HLR := qH (And.intro hL hR)
 have HSP := qH hS
 have fL := Go.Mv.Own.form hL
 have fR := Go.Mv.Own.form hR
 have fAB := POwn.last2 hP
 clear hL hR hP hS hf HPT2 HY HLG HQ1 HQ2 HQ3 HFB HGL
 obtain ⟨_, _, rfl, -⟩ := fL
 obtain ⟨_, _, rfl, -⟩ := fR
 obtain ⟨a1, n1, c1, a2, n2, c2, rfl, rfl⟩ := fAB
 go_wp2_with (with_reducible refine wSn ?_)
 refine d0z rfl rfl rfl rfl HG7.out ap4 (c0j _ _ _ _) (j0R _ _ _ _ _ _ _ _ _ _ _ _) ?_
 intro w12 hg hf hz
 clear hz
 have hg' : Has w12 g7 _ 26 := hg
 have HOF := qH (show OffT 5 w11 (One g7) from OffT.one HG7.out ap2)
 have HOG := qH (show OffT 23 w11 (One g7) from OffT.one HG7.out ap2)
 have HE := qH (show Go.Mv.Own w12 0 23 1 _ P.1.length uL ∧ Go.Mv.Own w12 0 23 1 _ P.1.length uR ∧ POwn w12 w.heap.size (uL ++ uR ++ [.slice a1 n1 c1, .slice a2 n2 c2] ++ [.slice fp.1 33 fp.2]) (P.1.map (fun p => wrQ p.1) ++ P.1.map (fun p => wrQ p.2) ++ [bZ P.2.1, bZ P.2.2] ++ [wrQ D]) ∧ Sep (uL ++ uR ++ [.slice a1 n1 c1, .slice a2 n2 c2] ++ [.slice fp.1 33 fp.2]) ∧ Fr Nob w w12 from ⟨Go.Mv.Own.keepT HLR.out.1 hf HOG.out, Go.Mv.Own.keepT HLR.out.2 hf HOG.out, POwn.app3 (POwn.keepT hf HOF.out HPA2.out) ⟨by rw [d0U]; exact Go.Mv.Own.keepT HPT3.out hf HOF.out, trivial⟩, List.pairwise_append.2 ⟨HSP.out, List.pairwise_singleton _ _, fun v hv x hx => by rw [List.mem_singleton.1 hx]; exact HNW.out v hv⟩, HFR.out.new hf HG7S.out⟩)
 clear hf HOF HOG HLR HPA2 HSP HNW HPT3 HG7 HFR
 have hr := hg'
 clear hg hg'
 go_wp2_with fail
 exact bodyPost_ret (m0I rfl rfl hr Tryz.underlying26 rfl (c0j _ _ _ _) rfl rfl) rfl ⟨_, _, _, _, _, uL, uR, rfl, HE.out⟩
end
section
open Go.RowKit Go.Mv Mvp Mvq
theorem A0A (al : Option Addr) (n cl : Nat) (vs : List Value) (ls : List (List UInt8)) (w : World) (hv : Rd w al n vs) (hp : BParts w vs ls) (hn : n ≤ 100000) (b : Bool) (h : a0D mQ ls = b) :
  Calls Tryz.prog 44 #[.slice al n cl] w fun e w' => ∃ (a : Option Addr) (m c : Nat), e = .returned (.tuple #[.slice a m c, .bool b]) ∧ Fr Nob w w' := by
 cases b
 ·exact (A0u al n cl vs ls w hv hp hn h).mono fun e w' ⟨h1, h2⟩ => ⟨none, 0, 0, h1, h2⟩
 ·exact (u0c al n cl vs ls w hv hp hn h).mono fun e w' ⟨z, h1, _, h2⟩ => ⟨z.1, n, z.2, h1, h2⟩
attribute [local irreducible] a0v lw mix cw b0e b0f b0a beN b0l b0b a0z a0F elN mdL b0m rtV b0J c0m b0s c0Q a0D c0z e0H e0I a0R a0T b0c toB a0u a0w a0Y a0E b0Z a0S a0x c0n b0t c0G e0U wrQ qC eQ bZ a0I zqB gLQ gRQ f0H b0d d0w lsZ
end
section
open Go.RowKit Go.Mv Mvp Mvq
def e0e (k : Nat) (lL lR : List (List UInt8)) : Bool := decide (lL.length = k) && (decide (lR.length = k) && (lL.all b0s && lR.all b0s))
theorem s0b {w : World} {ug : List Value} {ls : List (List UInt8)} (h : BParts w ug ls) {j : Nat} {z : List UInt8} (hz : ls[j]? = some z) : ∃ v, ug[j]? = some v ∧ BPart w v z := by
 have hl : j < ls.length := (List.getElem?_eq_some_iff.1 hz).1
 have hu : j < ug.length := by rw [h.1]; exact hl
 refine ⟨ug[j], List.getElem?_eq_getElem hu, ?_⟩
 have h2 := h.2 j _ (List.getElem?_eq_getElem hu)
 rwa [List.getD_eq_getElem?_getD, hz] at h2
theorem v0j {ls : List (List UInt8)} {j : Nat} {z : List UInt8} (hz : ls[j]? = some z) (h : b0s z = false) : ls.all b0s = false := by
 rw [List.all_eq_false]
 exact ⟨z, List.mem_of_getElem? hz, by rw [h]; decide⟩
theorem n0U {ls : List (List UInt8)} {j : Nat} {z : List UInt8} (hz : ls[j]? = some z) (h : (ls.take j).all b0s = true) (h2 : b0s z = true) : (ls.take (j + 1)).all b0s = true := by
 rw [f0I ls j z hz, List.all_append, h]
 simp [h2]
attribute [local irreducible] a0v lw mix cw b0e b0f b0a beN b0l b0b a0z a0F elN mdL b0m rtV b0J c0m b0s c0Q a0D c0z e0H e0I a0R a0T b0c toB a0u a0w a0Y a0E b0Z a0S a0x c0n b0t c0G e0U wrQ qC eQ bZ a0I zqB gLQ gRQ f0H b0d d0w lsZ e0e
theorem u0d (aL : Option Addr) (nL cL : Nat) (aR : Option Addr) (nR cR : Nat) (aA : Option Addr) (nA cA : Nat) (aB : Option Addr) (nB cB : Nat) (k : Nat) (w : World) (h : nL ≠ k) : Calls Tryz.prog 156 #[.agg #[.slice aL nL cL, .slice aR nR cR, .slice aA nA cA, .slice aB nB cB], .int .i64 (k : Int)] w fun e w' => e = .returned (.bool false) ∧ Fr Nob w w' := by
 have hne : ((nL : Int) != (k : Int)) = true := by simp; omega
 clear h
 go_enter Tryz.func156, Tryz.ntmps156
 go_wp2_with (with_reducible refine wSk 2 ?_)
 refine a0r (St.start Nob w) rfl rfl rfl [.slice aL nL cL, .slice aR nR cR, .slice aA nA cA, .slice aB nB cB] rfl ?_
 intro g2 w1 st1
 have hcl := (st1.at 0 rfl).cell (i := 0) rfl
 have hcr := (st1.at 0 rfl).cell (i := 1) rfl
 have HF := qH st1.fr
 clear st1
 go_wp2_with fail
 go_ret
 exact ⟨rfl, HF.out⟩
theorem u0e (aL : Option Addr) (nL cL : Nat) (aR : Option Addr) (nR cR : Nat) (aA : Option Addr) (nA cA : Nat) (aB : Option Addr) (nB cB : Nat) (k : Nat) (w : World) (hl : nL = k) (h : nR ≠ k) : Calls Tryz.prog 156 #[.agg #[.slice aL nL cL, .slice aR nR cR, .slice aA nA cA, .slice aB nB cB], .int .i64 (k : Int)] w fun e w' => e = .returned (.bool false) ∧ Fr Nob w w' := by
 subst hl
 have hne : ((nR : Int) != (nL : Int)) = true := by simp; omega
 clear h
 go_enter Tryz.func156, Tryz.ntmps156
 go_wp2_with (with_reducible refine wSk 2 ?_)
 refine a0r (St.start Nob w) rfl rfl rfl [.slice aL nL cL, .slice aR nR cR, .slice aA nA cA, .slice aB nB cB] rfl ?_
 intro g2 w1 st1
 have hcl := (st1.at 0 rfl).cell (i := 0) rfl
 have hcr := (st1.at 0 rfl).cell (i := 1) rfl
 have HF := qH st1.fr
 clear st1
 go_wp2_with fail
 go_ret
 exact ⟨rfl, HF.out⟩
theorem u0f (aL : Option Addr) (cL : Nat) (uL : List Value) (lL : List (List UInt8)) (aR : Option Addr) (cR : Nat) (uR : List Value) (lR : List (List UInt8)) (aA : Option Addr) (nA cA : Nat) (aB : Option Addr) (nB cB : Nat) (k : Nat) (w : World) (hk : k ≤ 1000) (hl : Rd w aL k uL) (hpl : BParts w uL lL) (hr : Rd w aR k uR) (hpr : BParts w uR lR) (b : Bool) (hb : (lL.all b0s && lR.all b0s) = b) :
  Calls Tryz.prog 156 #[.agg #[.slice aL k cL, .slice aR k cR, .slice aA nA cA, .slice aB nB cB], .int .i64 (k : Int)] w fun e w' => e = .returned (.bool b) ∧ Fr Nob w w' := by
 have ll : lL.length = k := by rw [← hpl.1, hl.len]
 have lr : lR.length = k := by rw [← hpr.1, hr.len]
 have HLL := qH ll
 have HLR := qH lr
 have HL := qH hl
 have HR := qH hr
 have HPL := qH hpl
 have HPR := qH hpr
 have HB := qH hb
 have hkI : (k : Int) ≤ 1000 := by omega
 clear hl hpl hr hpr ll lr hb
 go_enter Tryz.func156, Tryz.ntmps156
 go_wp2_with (with_reducible refine wSk 2 ?_)
 refine a0r (St.start Nob w) rfl rfl rfl [.slice aL k cL, .slice aR k cR, .slice aA nA cA, .slice aB nB cB] rfl ?_
 intro g2 w1 st1
 have hcl := (st1.at 0 rfl).cell (i := 0) rfl
 have hcr := (st1.at 0 rfl).cell (i := 1) rfl
 have ST1 := qH st1
 clear st1
 go_wp2_with fail
 clear hcl hcr
 go_loopw [21] (fun i wr => ∃ j : Nat, j ≤ k ∧ i = .int .i64 (j : Int) ∧ St Nob w wr [(g2, [.slice aL k cL, .slice aR k cR, .slice aA nA cA, .slice aB nB cB], 26)] ∧ (lL.take j).all b0s = true ∧ (lR.take j).all b0s = true) (fun i _ => (k - intOf i).toNat)
 case atStart => exact ⟨0, by omega, rfl, ST1.out, rfl, rfl⟩
 case round =>
  obtain ⟨j, hj, rfl, st, al, ar⟩ := hrel
  have HAL := qH al
  have HAR := qH ar
  clear al ar ST1
  by_cases hlt : j < k
  ·have hltI : (j : Int) < (k : Int) := by omega
   obtain ⟨x, hx⟩ : ∃ x, lL[j]? = some x := ⟨_, List.getElem?_eq_getElem (by have := HLL.out; omega)⟩
   obtain ⟨y, hy⟩ : ∃ y, lR[j]? = some y := ⟨_, List.getElem?_eq_getElem (by have := HLR.out; omega)⟩
   obtain ⟨u, hu, bu⟩ := s0b HPL.out hx
   obtain ⟨v, hv, bv⟩ := s0b HPR.out hy
   have HL1 := HL.out
   have HR1 := HR.out
   obtain ⟨bL, oL, rfl, -⟩ := HL1.at ap1
   obtain ⟨bR, oR, rfl, -⟩ := HR1.at ap1
   have HX := qH hx
   have HY := qH hy
   have HU := qH hu
   have HV := qH hv
   have BU := qH bu
   have BV := qH bv
   have hcl := (st.at 0 rfl).cell (i := 0) rfl
   have hcu := c0S (HL.out.still st.fr) j u hu
   have ST := qH st
   clear hx hy hu hv bu bv st HL1 HR1
   obtain ⟨a1, n1, c1, rfl, -⟩ := id BU.out
   obtain ⟨a2, n2, c2, rfl, -⟩ := id BV.out
   go_wp2_with fail
   refine (g0I _ x _ (BPart.still BU.out ST.out.fr)).mono ?_
   rintro e' w2 ⟨rfl, hf⟩
   have st2 := ST.out.keep hf
   clear hf ST hcl hcu
   cases ho : b0s x
   ·have HE := qH (show b = false by rw [← HB.out, v0j HX.out ho]; rfl)
    have HF := qH st2.fr
    clear ho st2
    go_wp2_with fail
    go_ret
    exact ⟨by rw [HE.out]; rfl, HF.out⟩
   ·have HAL2 := qH (n0U HX.out HAL.out ho)
    clear ho
    have hcr := (st2.at 0 rfl).cell (i := 1) rfl
    have hcv := c0S (HR.out.still st2.fr) j _ HV.out
    have ST2 := qH st2
    clear st2
    go_wp2_with fail
    refine (g0I _ y _ (BPart.still BV.out ST2.out.fr)).mono ?_
    rintro e' w3 ⟨rfl, hf⟩
    have st3 := ST2.out.keep hf
    clear hf ST2 hcr hcv
    cases ho : b0s y
    ·have HE := qH (show b = false by rw [← HB.out, v0j HY.out ho, Bool.and_false])
     have HF := qH st3.fr
     clear ho st3
     go_wp2_with fail
     go_ret
     exact ⟨by rw [HE.out]; rfl, HF.out⟩
    ·have HAR2 := qH (n0U HY.out HAR.out ho)
     have ST3 := qH st3
     clear ho st3
     go_wp2_with fail
     go_roundw
     case rel => exact ⟨j + 1, by omega, by go_num, ST3.out, HAL2.out, HAR2.out⟩
     case measure => simp [intOf]; omega
  ·have hge : ¬ ((j : Int) < (k : Int)) := by omega
   have e : j = k := by omega
   have HE := qH (show b = true by
    have h1 := HAL.out
    have h2 := HAR.out
    rw [e, List.take_of_length_le (by rw [HLL.out]; exact Nat.le_refl _)] at h1
    rw [e, List.take_of_length_le (by rw [HLR.out]; exact Nat.le_refl _)] at h2
    rw [← HB.out, h1, h2]; rfl)
   have HF := qH st.fr
   have hcl := (st.at 0 rfl).cell (i := 0) rfl
   clear e st hlt
   go_wp2_with fail
   go_ret
   exact ⟨by rw [HE.out]; rfl, HF.out⟩
theorem n0V (aL : Option Addr) (nL cL : Nat) (uL : List Value) (lL : List (List UInt8)) (aR : Option Addr) (nR cR : Nat) (uR : List Value) (lR : List (List UInt8)) (aA : Option Addr) (nA cA : Nat) (aB : Option Addr) (nB cB : Nat) (k : Nat) (w : World) (hk : k ≤ 1000) (hl : Rd w aL nL uL) (hpl : BParts w uL lL) (hr : Rd w aR nR uR) (hpr : BParts w uR lR) :
  Calls Tryz.prog 156 #[.agg #[.slice aL nL cL, .slice aR nR cR, .slice aA nA cA, .slice aB nB cB], .int .i64 (k : Int)] w fun e w' => e = .returned (.bool (e0e k lL lR)) ∧ Fr Nob w w' := by
 have ll : lL.length = nL := by rw [← hpl.1, hl.len]
 have lr : lR.length = nR := by rw [← hpr.1, hr.len]
 unfold e0e
 by_cases h1 : nL = k
 ·by_cases h2 : nR = k
  ·subst h1
   subst h2
   rw [ll, lr, decide_eq_true rfl]
   exact u0f aL cL uL lL aR cR uR lR aA nA cA aB nB cB nR w hk hl hpl hr hpr _ rfl
  ·rw [lr, decide_eq_false h2, Bool.false_and, Bool.and_false]
   exact u0e aL nL cL aR nR cR aA nA cA aB nB cB k w h1 h2
 ·rw [ll, decide_eq_false h1, Bool.false_and]
  exact u0d aL nL cL aR nR cR aA nA cA aB nB cB k w h1
end
end Go.Proofs.YtpfimiajoifjaaaGreat
namespace Go.Mv
open Go.RowKit
theorem d0H {P : Program} {X : Nat → Prop} {w0 w : World} {bl : List (Nat × List Value × TypeId)} {l : List Ox} {o : Oper} {a : Act} {K : Act → World → Prop} {Q : Exit → Act → World → Prop} (h : Sy X w0 w bl l) (i : Nat) {g o' n cap : Nat} {e : TypeId} {sz : Nat} {L : List Value} (hi : l[i]? = some ⟨.slice (some ⟨g, o', none⟩) n cap, e, sz, n, L⟩) {ty : TypeId} {x y : Operand} (ho : o.op = .store ty x y) {k : Nat} (hx : a.eval x = .pointer (some ⟨g, o' + k, none⟩)) {cs : List Value} (hy : a.eval y = .agg cs.toArray)
  (hk : k + cs.length ≤ n * sz) (hsi : (P.info? ty).map (·.size) = some cs.length) (h1 : ∀ v ∈ cs, v.oneCell' = true)
  (hh : ∀ w', Sy X w0 w' bl (l.set i ⟨.slice (some ⟨g, o', none⟩) n cap, e, sz, n, splice L k cs⟩) → Fr (One g) w w' → K (a.put o.dst undef) w') : o.wp P a w K Q := by
 have how : Own w 0 e sz (.slice (some ⟨g, o', none⟩) n cap) n L := h.own i hi
 have h2 : ∃ B, Has w g B e ∧ o' + n * sz ≤ B.length := by
  rcases how.2 with ⟨h2, -⟩ | ⟨g', o2, cap', B, h2, hb, hh, hn, hm, hl, ht⟩
  ·cases h2
  ·cases h2
   have hle : n * sz ≤ cap * sz := Nat.mul_le_mul_right _ hn
   exact ⟨B, hh, by omega⟩
 obtain ⟨B, hB, hlB⟩ := h2
 obtain ⟨k1, k2, _⟩ := Has.setCells cs (o' + k) B w hB ap1
 refine wp_store_mid ty x y ho g (o' + k) cs.toArray hx hy (by simpa using hB.there (o' + k) cs.length ap1) (by simpa using hsi) (all_oneCell_toArray h1) ?_
 rw [List.toList_toArray]
 have hf2 : Fr (b0g (.slice (some ⟨g, o', none⟩) n cap)) w (w.setCells g (o' + k) cs) := k2.mono fun j _ e => by
  have e2 : j = g := e
  subst e2; rfl
 refine hh _ (h.app i hi hf2 (how.wrote hk fun B' hB' => ?_) (.inl rfl)) k2
 have h3 : B' = B := by
  obtain ⟨_, _, e1, _⟩ := hB
  obtain ⟨_, _, e2, _⟩ := hB'
  rw [e1] at e2
  simp only [Option.some.injEq, Obj.cells.injEq] at e2
  have := congrArg Array.toList e2.1
  simpa using this.symm
 rw [h3]; exact k1
end Go.Mv
namespace Go.Proofs.YtpfimiajoifjaaaGreat
open Go.RowKit Go.Mv Mvp Mvq
def z0H (U : TypeId) : Prop := U = 121 ∨ U = 125 ∨ U = 23
theorem Has.same {w : World} {g : Nat} {L L' : List Value} {T U : TypeId} (h : Has w g L T) (h2 : Has w g L' U) : T = U := by
 obtain ⟨_, _, e1, _⟩ := h
 obtain ⟨_, _, e2, _⟩ := h2
 rw [e1] at e2
 simp only [Option.some.injEq, Obj.cells.injEq] at e2
 exact e2.2.1
structure CkS (Y : Nat → Prop) (w : World) (base gl gs : Nat) (wz : World) (st : List UInt8) (XS : List Zq) (LP : List (List UInt8)) (bl : List (Nat × List Value × TypeId)) (l : List Ox) : Prop where
 y : Sy Y w wz bl l
 s : ∃ X, SumA wz X Y gs XS LP ∧ ∀ j, X j → j < wz.heap.size → (j ∉ bl.map (·.1)) ∧ (∀ x ∈ l, ¬ b0g x.v j) ∧ ∃ L U, Has wz j L U ∧ z0H U
 lg : LogAt wz base gl st
 hb : base ≤ wz.heap.size
 up : ∀ j, w.heap.size ≤ j → Y j
 ygl : Y gl
section
variable {Y : Nat → Prop} {w : World} {base gl gs : Nat} {w1 w2 : World} {st st' : List UInt8} {XS : List Zq} {LP : List (List UInt8)} {bl bl' : List (Nat × List Value × TypeId)} {l l' : List Ox}
theorem CkS.of {S : Nat → Prop} (k : CkS Y w base gl gs w1 st XS LP bl l) (hy : Sy Y w w2 bl' l') (hf : Fr S w1 w2) (hY : ∀ j, S j → Y j) (hS : ∀ j, j < w1.heap.size → S j → j ∈ bl.map (·.1) ∨ (∃ x ∈ l, b0g x.v j) ∨ j = gl)
  (hb : ∀ x ∈ bl', x.1 ∈ bl.map (·.1) ∨ w1.heap.size ≤ x.1) (ho : ∀ x ∈ l', ∀ j, b0g x.v j → (∃ z ∈ l, b0g z.v j) ∨ w1.heap.size ≤ j) (hl : LogAt w2 base gl st') : CkS Y w base gl gs w2 st' XS LP bl' l' := by
 obtain ⟨X, hs, hd⟩ := k.s
 have hXS : ∀ j, S j → Y j ∧ (j < w1.heap.size → ¬ X j) := fun j hj => ⟨hY j hj, fun hlt hx => by
  obtain ⟨d1, d2, L, U, d3, d4⟩ := hd j hx hlt
  rcases hS j hlt hj with e | ⟨x, hx2, e⟩ | rfl
  ·exact d1 e
  ·exact d2 x hx2 e
  ·obtain ⟨v, hv⟩ := k.lg.has
   have := Has.same hv d3
   subst this
   unfold z0H at d4
   revert d4; decide⟩
 refine ⟨hy, ⟨_, hs.rebase hf hXS, fun j hj hlt => ?_⟩, hl, Nat.le_trans k.hb hf.size, k.up, k.ygl⟩
 have hj2 : X j ∧ j < w1.heap.size := hj.resolve_right ap1
 obtain ⟨d1, d2, L, U, d3, d4⟩ := hd j hj2.1 hj2.2
 refine ⟨fun e => ?_, fun x hx e => ?_, L, U, d3.keep hf fun hs => (hXS j hs).2 hj2.2 hj2.1, d4⟩
 ·obtain ⟨x, hx, rfl⟩ := List.mem_map.1 e
  rcases hb x hx with e | e
  ·exact d1 e
  ·have := hj2.2; omega
 ·rcases ho x hx j e with ⟨z, hz, e⟩ | e
  ·exact d2 z hz e
  ·have := hj2.2; omega
theorem CkS.nob (k : CkS Y w base gl gs w1 st XS LP bl l) (hy : Sy Y w w2 bl' l') (hf : Fr Nob w1 w2) (hb : ∀ x ∈ bl', x.1 ∈ bl.map (·.1) ∨ w1.heap.size ≤ x.1) (ho : ∀ x ∈ l', ∀ j, b0g x.v j → (∃ z ∈ l, b0g z.v j) ∨ w1.heap.size ≤ j) : CkS Y w base gl gs w2 st XS LP bl' l' :=
 k.of hy hf (fun _ t => t.elim) (fun _ _ t => t.elim) hb ho (k.lg.still hf)
theorem CkS.still (k : CkS Y w base gl gs w1 st XS LP bl l) (hf : Fr Nob w1 w2) : CkS Y w base gl gs w2 st XS LP bl l :=
 k.nob (k.y.keep hf) hf (fun x hx => .inl (List.mem_map.2 ⟨x, hx, rfl⟩)) (fun x hx _ hj => .inl ⟨x, hx, hj⟩)
theorem CkS.drew (k : CkS Y w base gl gs w1 st XS LP bl l) : CkS Y w base gl gs w1.drew st XS LP bl l := k.still (Fr.refl Nob _).drew
theorem CkS.less (k : CkS Y w base gl gs w1 st XS LP bl l) (hs : bl'.Sublist bl) (hl : l'.Sublist l) : CkS Y w base gl gs w1 st XS LP bl' l' := by
 refine ⟨k.y.less hs hl, ?_, k.lg, k.hb, k.up, k.ygl⟩
 obtain ⟨X, h1, h2⟩ := k.s
 exact ⟨X, h1, fun j hj hlt => ⟨fun e => (h2 j hj hlt).1 ((hs.map _).subset e), fun x hx => (h2 j hj hlt).2.1 x (hl.subset hx), (h2 j hj hlt).2.2⟩⟩
theorem CkS.new (k : CkS Y w base gl gs w1 st XS LP bl l) {g : Nat} {L : List Value} {T : TypeId} (hy : Sy Y w w2 (bl ++ [(g, L, T)]) l) (hf : Fr Nob w1 w2) (hg : w1.heap.size ≤ g) : CkS Y w base gl gs w2 st XS LP (bl ++ [(g, L, T)]) l :=
 k.nob hy hf (fun x hx => by
  rcases List.mem_append.1 hx with hx | hx
  ·exact .inl (List.mem_map.2 ⟨x, hx, rfl⟩)
  ·rw [List.mem_singleton.1 hx]; exact .inr hg) (fun x hx _ hj => .inl ⟨x, hx, hj⟩)
theorem CkS.own (k : CkS Y w base gl gs w1 st XS LP bl l) (hf : Fr Nob w1 w2) {v : Value} {T : TypeId} {sz n : Nat} {L : List Value} (ho : Go.Mv.Own w2 w1.heap.size T sz v n L) : CkS Y w base gl gs w2 st XS LP bl (l ++ [⟨v, T, sz, n, L⟩]) :=
 k.nob (k.y.add hf ho) hf (fun x hx => .inl (List.mem_map.2 ⟨x, hx, rfl⟩)) (fun x hx j hj => by
  rcases List.mem_append.1 hx with hx | hx
  ·exact .inl ⟨x, hx, hj⟩
  ·rw [List.mem_singleton.1 hx] at hj; exact .inr (Go.Mv.Own.lt ho hj).1)
theorem CkS.put (k : CkS Y w base gl gs w1 st XS LP bl l) (i : Nat) {g : Nat} {L L' : List Value} {T : TypeId} (hi : bl[i]? = some (g, L, T)) (hy : Sy Y w w2 (bl.set i (g, L', T)) l) (hf : Fr (One g) w1 w2) (h1 : 5 ≠ T) (h2 : 293 ≠ T) (hg : w.heap.size ≤ g) : CkS Y w base gl gs w2 st XS LP (bl.set i (g, L', T)) l := by
 have hm := List.mem_of_getElem? hi
 refine k.of hy hf (fun j hj => by have e : j = g := hj; rw [e]; exact k.up _ hg) (fun j _ hj => .inl (by have e : j = g := hj; rw [e]; exact List.mem_map.2 ⟨_, hm, rfl⟩)) (fun x hx => ?_) (fun x hx _ hj => .inl ⟨x, hx, hj⟩) (k.lg.keepT hf (OffT.one (k.y.at i hi) h1) (OffT.one (k.y.at i hi) h2))
 rcases List.mem_or_eq_of_mem_set hx with hx | rfl
 ·exact .inl (List.mem_map.2 ⟨x, hx, rfl⟩)
 ·exact .inl (List.mem_map.2 ⟨_, hm, rfl⟩)
theorem CkS.elem (k : CkS Y w base gl gs w1 st XS LP bl l) (i : Nat) {g o n c : Nat} {T : TypeId} {sz : Nat} {L L' : List Value} (hi : l[i]? = some ⟨.slice (some ⟨g, o, none⟩) n c, T, sz, n, L⟩) (hy : Sy Y w w2 bl (l.set i ⟨.slice (some ⟨g, o, none⟩) n c, T, sz, n, L'⟩)) (hf : Fr (One g) w1 w2) (h1 : 5 ≠ T) (h2 : 293 ≠ T) : CkS Y w base gl gs w2 st XS LP bl (l.set i ⟨.slice (some ⟨g, o, none⟩) n c, T, sz, n, L'⟩) := by
 have hm := List.mem_of_getElem? hi
 have hown : b0g (.slice (some ⟨g, o, none⟩) n c) g := rfl
 have hf2 : Fr (b0g (.slice (some ⟨g, o, none⟩) n c)) w1 w2 := hf.mono fun j _ hj => by have e : j = g := hj; rw [e]; rfl
 refine k.of hy hf (fun j hj => ?_) (fun j _ hj => .inr (.inl ⟨_, hm, by have e : j = g := hj; rw [e]; exact hown⟩)) (fun x hx => .inl (List.mem_map.2 ⟨x, hx, rfl⟩)) (fun x hx j hj => ?_) (k.lg.keepT hf2 (OffT.own (k.y.own i hi) h1) (OffT.own (k.y.own i hi) h2))
 ·have e : j = g := hj
  rw [e]
  exact (k.y.inX _ hm g hown).elim id (fun h => k.up _ h)
 ·rcases List.mem_or_eq_of_mem_set hx with hx | rfl
  ·exact .inl ⟨x, hx, hj⟩
  ·exact .inl ⟨_, hm, hj⟩
theorem CkS.log (k : CkS Y w base gl gs w1 st XS LP bl l) (hl : LogAt w2 base gl st') (hf : Fr (One gl) w1 w2) (hb : (bl.all fun x => x.2.2 != 293) = true) (ho : (l.all fun x => x.T != 293) = true) : CkS Y w base gl gs w2 st' XS LP bl l :=
 k.of (Sy.log k.y k.lg hf k.ygl hb ho) hf (fun j hj => by have e : j = gl := hj; rw [e]; exact k.ygl) (fun j _ hj => .inr (.inr hj)) (fun x hx => .inl (List.mem_map.2 ⟨x, hx, rfl⟩)) (fun x hx _ hj => .inl ⟨x, hx, hj⟩) hl
end
theorem l0o {Y : Nat → Prop} {w : World} {base gl gs : Nat} {w1 : World} {st : List UInt8} {XS : List Zq} {LP : List (List UInt8)} {bl : List (Nat × List Value × TypeId)} {l : List Ox} (k : CkS Y w base gl gs w1 st XS LP bl l) (z : Zq) (v : Value) (b : List UInt8) (hv : PartO w1 Y v b) (hn : XS.length ≤ 100000) (hm : LP.length ≤ 100000) :
  Calls Tryz.prog 63 #[.pointer (some ⟨gs, 0, none⟩), i4 (eQ z), v] w1 fun e w' => e = .returned (.tuple #[]) ∧ CkS Y w base gl gs w' st (XS ++ [z]) (LP ++ [b]) bl l := by
 obtain ⟨X, hs, hd⟩ := k.s
 refine (r0P X Y gs XS LP z v b w1 hs hv hn hm).mono ?_
 rintro e w' ⟨rfl, hs2, hf⟩
 refine ⟨rfl, ?_⟩
 obtain ⟨X', t1, t2, t3⟩ := hs2.tight
 have offT : ∀ T : TypeId, ¬ z0H T → OffT T w1 X := fun T hT j hlt hj => by
  obtain ⟨-, -, L, U, d3, d4⟩ := hd j hj hlt
  exact ⟨L, U, d3, fun e => hT (e ▸ d4)⟩
 have hy : Sy Y w w' bl l := by
  refine ⟨⟨k.y.st.fr.trans hf fun j _ hj => hs.sub j hj, k.y.st.own, fun x hx => (k.y.st.has x hx).keep hf fun hj => ?_, k.y.st.ne⟩, ⟨fun x hx => (k.y.os.own x hx).keep hf fun j hj hx2 => ?_, k.y.os.off, k.y.os.sep, fun j hj => Nat.lt_of_lt_of_le (k.y.os.lt j hj) hf.size⟩, k.y.inX⟩
  ·exact (hd _ hj (k.y.st.has x hx).lt).1 (List.mem_map.2 ⟨x, hx, rfl⟩)
  ·exact (hd j hx2 ((k.y.os.own x hx).lt hj).2).2.1 x hx hj
 refine ⟨hy, ⟨X', t1, fun j hj hlt => ?_⟩, k.lg.keepT hf (offT _ (by unfold z0H; decide)) (offT _ (by unfold z0H; decide)), Nat.le_trans k.hb hf.size, k.up, k.ygl⟩
 have hX := t2 j hj hlt
 refine ⟨fun e => ?_, fun x hx e => ?_, t3 j hj hlt⟩
 ·obtain ⟨x, hx, rfl⟩ := List.mem_map.1 e
  exact (hd _ hX (k.y.st.has x hx).lt).1 e
 ·exact (hd j hX ((k.y.os.own x hx).lt e).2).2.1 x hx e
end Go.Proofs.YtpfimiajoifjaaaGreat
namespace Go.Mv
open Go.RowKit
section
variable {P : Program} {X : Nat → Prop} {w0 w : World} {bl : List (Nat × List Value × TypeId)} {l : List Ox} {o : Oper} {a : Act} {K : Act → World → Prop} {Q : Exit → Act → World → Prop}
theorem v0k {e : Sem Next} {v : Nat → Value} {L : List Value} {T : TypeId} (h : Sy X w0 w bl l) (hm : Mk P e v L T) (he : execOp a.eval o = e) (k : ∀ g w', Sy X w0 w' (bl ++ [(g, L, T)]) l → Fr Nob w w' → w.heap.size ≤ g → K (a.put o.dst (v g)) w') : o.wp P a w K Q := by
 obtain ⟨g, w', hr, hf, hle, hg⟩ := hm w
 unfold Oper.wp
 rw [he, hr]
 exact k g w' (h.new hf hg hle) hf hle
theorem l0p (h : Sy X w0 w bl l) {e : TypeId} (ho : o.op = .alloc e) {z : Value} (hi : (P.info? e).map (·.zero) = some (some z)) (L : List Value) (hL : z.cells.toList = L)
  (k : ∀ g w', Sy X w0 w' (bl ++ [(g, L, e)]) l → Fr Nob w w' → w.heap.size ≤ g → K (a.put o.dst (.pointer (some ⟨g, 0, none⟩))) w') : o.wp P a w K Q :=
 v0k (v := fun g => .pointer (some ⟨g, 0, none⟩)) h (j0a hi ho L hL) rfl k
theorem n0W (h : Sy X w0 w bl l) {t e : TypeId} {m : Nat} {parts : Array (Nat × Operand)} (hop : o.op = .buildSlice t m parts) (hu : P.underlying t = some (.slice e)) {z : Value} {sz by_ : Nat} (hi0 : (P.info? e).map (fun i => (i.zero, i.size, i.bytes)) = some (some z, sz, by_))
  (vs : List Value) (hp : (parts.toList.map fun p => (p.1, a.eval p.2)) = (vs.zipIdx 0).map fun x => (x.2, x.1)) (hv : ∀ v ∈ vs, v.cells.size = sz) (hk : vs.length = m) (L : List Value) (hL : (vs.flatMap fun v => v.cells.toList) = L)
  (k : ∀ g w', Sy X w0 w' (bl ++ [(g, L, e)]) l → Fr Nob w w' → w.heap.size ≤ g → K (a.put o.dst (.slice (some ⟨g, 0, none⟩) m m)) w') (hk0 : 0 < m * sz := by decide) (hk24 : m * sz ≤ 16777216 := by decide) : o.wp P a w K Q :=
 v0k (v := fun g => .slice (some ⟨g, 0, none⟩) m m) h (l0L hu hi0 vs rfl hv hk L hL hk0 hk24) (by unfold execOp; simp only [hop]; rw [h0b hp]) k
theorem d0X (h : Sy X w0 w bl l) {e : TypeId} {x : Operand} (ho : o.op = .box e x) {v : Value} (hx : a.eval x = v) (L : List Value) (hL : v.cells.toList = L)
  (k : ∀ g w', Sy X w0 w' (bl ++ [(g, L, e)]) l → Fr Nob w w' → w.heap.size ≤ g → K (a.put o.dst (.pointer (some ⟨g, 0, none⟩))) w') : o.wp P a w K Q := by
 have hr : (Instr.box e v).run P w = .ok (.pointer (some ⟨w.heap.size, 0, none⟩)) (w.alloc (.cells v.cells e)) := by
  simp [Instr.box, newVar, newRow]
 have hg := Has.new w v.cells e
 rw [hL] at hg
 unfold Oper.wp execOp
 simp only [ho, hx, Sem.run_bind, Sem.run_pure, Result.andThen_ok, hr]
 have hf := (Fr.refl Nob w).alloc (.cells v.cells e)
 exact k _ _ (h.new hf hg (Nat.le_refl _)) hf (Nat.le_refl _)
end
theorem Rd.keepY {S : Nat → Prop} {w w' : World} {a : Option Addr} {n : Nat} {vs : List Value} (h : Rd w a n vs) (hf : Fr S w w') (hs : n = 0 ∨ Off S a) : Rd w' a n vs := by
 rcases hs with h0 | hs
 ·exact ⟨h.1, .inl h0⟩
 ·exact h.keep hf hs
theorem s0c {P : Program} {ops : Array Oper} {Q : Exit → Act → World → Prop} {a : Act} {w : World} {rest : List Oper} {d : Option Tmp} {op : Op} {ty : TypeId} {ps : String} {af : Array _} {gd : Option (Nat × Bool)}
  (hw : Region.wanted (⟨d, op, ty, ps, af, gd⟩ : Oper) (yielded ops a.tmps) = true) (h : wpList P ops Q (⟨d, op, ty, ps, af, none⟩ :: rest) a w) : wpList P ops Q (⟨d, op, ty, ps, af, gd⟩ :: rest) a w := by
 have h0 : Region.wanted (⟨d, op, ty, ps, af, none⟩ : Oper) (yielded ops a.tmps) = true := rfl
 simp only [wpList, hw, h0, if_true] at h ⊢
 exact h
end Go.Mv
namespace Mvq
def e0N : Nat → List (Zq × Zq) → Nat → Zq → Zq
 | _, [], _, acc => acc
 | k, (x, y) :: t, i, acc => e0N (k - 1) t i (acc * (if i / 2 ^ (k - 1) % 2 = 0 then y else x))
theorem h0W (x y : Zq) : ∀ (cs : List (Zq × Zq)) (k i : Nat) (acc : Zq), e0N k (cs ++ [(x, y)]) i acc = e0N k cs i acc * (if i / 2 ^ (k - 1 - cs.length) % 2 = 0 then y else x)
 | [], k, i, acc => rfl
 | (a, b) :: t, k, i, acc => by
  show e0N (k - 1) (t ++ [(x, y)]) i _ = e0N (k - 1) t i _ * _
  rw [h0W x y t (k - 1) i]
  have e : k - 1 - 1 - t.length = k - 1 - ((a, b) :: t).length := by simp only [List.length_cons]; omega
  rw [e]
theorem n0X : ∀ (cs : List (Zq × Zq)) (i : Nat) (acc : Zq), e0N cs.length cs i acc = z0e cs i acc
 | [], _, _ => rfl
 | (x, y) :: t, i, acc => by
  show e0N (t.length + 1 - 1) t i (acc * (if i / 2 ^ (t.length + 1 - 1) % 2 = 0 then y else x)) = z0e t i (acc * (if i / 2 ^ t.length % 2 = 0 then y else x))
  rw [Nat.add_sub_cancel, n0X t i]
theorem s0d (cs : List (Zq × Zq)) (x y : Zq) : b0X (cs ++ [(x, y)]) = b0X cs ++ [(y, x)] := by simp [b0X]
end Mvq
namespace Go.Proofs.YtpfimiajoifjaaaGreat
section
open Go.RowKit Go.Mv Mvp Mvq
noncomputable def d0e : List UInt8 → List (List UInt8 × List UInt8) → List (Zq × Zq)
 | _, [] => []
 | st, (l, r) :: t => (d0W (b0D st l r), ivZ (d0W (b0D st l r))) :: d0e (e0d (b0D st l r)) t
noncomputable def i0k : List UInt8 → List (List UInt8 × List UInt8) → List UInt8
 | st, [] => st
 | st, (l, r) :: t => i0k (e0d (b0D st l r)) t
theorem l0q (l r : List UInt8) : ∀ (T : List (List UInt8 × List UInt8)) (st : List UInt8), d0e st (T ++ [(l, r)]) = d0e st T ++ [(d0W (b0D (i0k st T) l r), ivZ (d0W (b0D (i0k st T) l r)))]
 | [], st => rfl
 | (a, b) :: T, st => by
  show _ :: d0e _ (T ++ [(l, r)]) = _ :: (d0e _ T ++ _)
  rw [l0q l r T]; rfl
theorem l0r (l r : List UInt8) : ∀ (T : List (List UInt8 × List UInt8)) (st : List UInt8), i0k st (T ++ [(l, r)]) = e0d (b0D (i0k st T) l r)
 | [], st => rfl
 | (a, b) :: T, st => by
  show i0k _ (T ++ [(l, r)]) = _
  rw [l0r l r T]; rfl
theorem f0N : ∀ (T : List (List UInt8 × List UInt8)) (st : List UInt8), (d0e st T).length = T.length
 | [], st => rfl
 | (a, b) :: T, st => by
  show (d0e _ T).length + 1 = T.length + 1
  rw [f0N]
theorem l0s (xs : List Zq) (i : Nat) (v : Zq) (h : i < xs.length) : splice (qC xs) (i * 4) (cw 4 (eQ v)) = qC (xs.set i v) := by
 have e : xs = xs.take i ++ [xs[i]'h] ++ xs.drop (i + 1) := by rw [← List.take_succ_eq_append_getElem h, List.take_append_drop]
 have e1 : xs.set i v = xs.take i ++ [v] ++ xs.drop (i + 1) := by
  rw [List.set_eq_take_append_cons_drop, if_pos h, List.append_assoc]; rfl
 have qa : ∀ a b : List Zq, qC (a ++ b) = qC a ++ qC b := fun a b => by unfold qC; rw [List.flatMap_append]
 rw [e1, qa, qa, h0T, ← m0F, ← m0E]
 unfold splice
 rw [a0g, show (i + 1) * 4 = i * 4 + 4 by omega, List.append_assoc]
theorem u0g (n : Nat) : List.replicate (n * 4) (Value.int .u64 0) = qC (List.replicate n 0) := by
 induction n with
 | zero => rfl
 | succ n ih => rw [List.replicate_succ, g0d, ← ih, r0F, e0l, List.replicate_append_replicate]; congr 1; omega
theorem u0h (n j : Nat) (h : j < n) : (List.replicate j (1 : Zq) ++ List.replicate (n - j) 0).set j 1 = List.replicate (j + 1) 1 ++ List.replicate (n - (j + 1)) 0 := by
 obtain ⟨m, rfl⟩ : ∃ m, n = j + 1 + m := ⟨n - (j + 1), by omega⟩
 rw [show j + 1 + m - j = m + 1 by omega, show j + 1 + m - (j + 1) = m by omega, List.set_append_right _ _ ap4, List.length_replicate, Nat.sub_self, List.replicate_succ, List.set_cons_zero, List.replicate_succ', List.append_assoc]
 rfl
theorem A0B : (Value.agg #[.int .u64 0, .int .u64 0, .int .u64 0, .int .u64 0]).cells = (List.replicate 4 (Value.int .u64 0)).toArray := rfl
theorem v0l {Y : Nat → Prop} {w : World} {base gl gs : Nat} {w1 : World} {st : List UInt8} {XS : List Zq} {LP : List (List UInt8)} {bl : List (Nat × List Value × TypeId)} {l : List Ox} (k : CkS Y w base gl gs w1 st XS LP bl l) (s : ByteArray) (hs : s.size ≤ 1000000) (a : Option Addr) (n c : Nat) (b : List UInt8) (hb : PartIs w1 (.slice a n c) b)
  (h1 : (bl.all fun x => x.2.2 != 293) = true) (h2 : (l.all fun x => x.T != 293) = true) :
  Calls Tryz.prog 139 #[.pointer (some ⟨gl, 0, none⟩), .string s, .slice a n c] w1 fun e w' => e = .returned (.tuple #[]) ∧ CkS Y w base gl gs w' (c0n p0Y [st, s.data.toList, b]) XS LP bl l :=
 (h0k base gl st s a n c b w1 hs k.lg hb k.hb).mono fun _ _ ⟨e, hl, hf⟩ => ⟨e, k.log hl hf h1 h2⟩
theorem x0y {Y : Nat → Prop} {w : World} {base gl gs : Nat} {w1 : World} {st : List UInt8} {XS : List Zq} {LP : List (List UInt8)} {bl : List (Nat × List Value × TypeId)} {l : List Ox} (k : CkS Y w base gl gs w1 st XS LP bl l) (h1 : (bl.all fun x => x.2.2 != 293) = true) (h2 : (l.all fun x => x.T != 293) = true) :
  Calls Tryz.prog 140 #[tkV gl] w1 fun e w' => e = .returned (i4 (eQ (d0W st))) ∧ CkS Y w base gl gs w' (e0d st) XS LP bl l :=
 (r0V base gl st w1 k.lg k.hb).mono fun _ _ ⟨e, hl, hf⟩ => ⟨e, k.log hl hf h1 h2⟩
theorem PartO.part {w : World} {Y : Nat → Prop} {v : Value} {b : List UInt8} (h : PartO w Y v b) (hb : b.length = 33) : PartIs w v b := by
 obtain ⟨a, n, c, rfl, hc, hr, -⟩ := h
 have hn : n = 33 := by rw [← hb]; exact hr.len.symm
 subst hn
 refine ⟨a, 33, c, rfl, hc, by decide, hr, fun x hx => ?_⟩
 obtain ⟨bb, o, rfl, -⟩ := hr.at ap2
 cases hx
 exact Rd.lt hr ap2
end
section
open Go.RowKit Go.Mv Mvp Mvq
def rdB (z : List (List UInt8 × List UInt8)) : List (List UInt8) := z.flatMap fun p => [p.1, p.2]
theorem u0i (z : List (List UInt8 × List UInt8)) (l r : List UInt8) : rdB (z ++ [(l, r)]) = rdB z ++ [l] ++ [r] := by unfold rdB; rw [List.flatMap_append]; simp
theorem m0J (z : List (List UInt8 × List UInt8)) : (rdB z).length = 2 * z.length := by
 induction z with
 | nil => rfl
 | cons x z ih => unfold rdB at *; rw [List.flatMap_cons, List.length_append, ih]; simp only [List.length_cons, List.length_nil]; omega
theorem u0j (z : List (Zq × Zq)) (x y : Zq) : rdN (z ++ [(x, y)]) = rdN z ++ [x * x] ++ [y * y] := by unfold rdN; rw [List.flatMap_append]; simp
theorem v0m (n : Nat) : List.replicate n (1 : Zq) = lsZ n (fun _ => 1) := by
 unfold lsZ
 rw [List.map_const', List.length_range]
def g0P (n : Nat) (f g : Nat → Zq) (i : Nat) : List Zq := lsZ n fun q => if q < i then f q else g q
theorem v0n (n : Nat) (f g : Nat → Zq) : g0P n f g 0 = lsZ n g := by unfold g0P; exact h0J fun i _ => by rw [if_neg ap1]
theorem v0o (n : Nat) (f g : Nat → Zq) : g0P n f g n = lsZ n f := by unfold g0P; exact h0J fun i hi => by rw [if_pos hi]
theorem g0Q (n : Nat) (f g : Nat → Zq) (i : Nat) : (g0P n f g i).length = n := a0O _ _
theorem j0T (n : Nat) (f g : Nat → Zq) (i : Nat) (h : i < n) : (g0P n f g i)[i]? = some (g i) := by unfold g0P; rw [g0a _ _ _ h, if_neg ap1]
theorem g0R (n : Nat) (f g : Nat → Zq) (i : Nat) (h : i < n) (v : Zq) (hv : v = f i) : (g0P n f g i).set i v = g0P n f g (i + 1) := by
 subst hv
 unfold g0P
 apply List.ext_getElem?
 intro q
 rw [List.getElem?_set]
 by_cases hq : q < n
 ·rw [g0a _ _ _ hq, g0a _ _ _ hq, a0O]
  by_cases e : i = q
  ·subst e
   rw [if_pos rfl, if_pos h, if_pos ap1]
  ·rw [if_neg e]
   by_cases k : q < i
   ·rw [if_pos k, if_pos ap1]
   ·rw [if_neg k, if_neg ap1]
 ·rw [List.getElem?_eq_none (by rw [a0O]; omega), List.getElem?_eq_none (by rw [a0O]; omega), a0O]
  by_cases e : i = q
  ·omega
  ·rw [if_neg e]
theorem v0p (k : Nat) (cs : List (Zq × Zq)) (h : cs.length = k) (i : Nat) : e0N k cs i 1 = c0a cs i := by
 subst h
 rw [n0X, r0D]
 generalize c0a cs i = x
 grind -lia -linarith
theorem s0e {k : Nat} {lL lR : List (List UInt8)} (h : e0e k lL lR = true) : lL.length = k ∧ lR.length = k ∧ (∀ l ∈ lL, b0s l = true) ∧ ∀ l ∈ lR, b0s l = true := by
 unfold e0e at h
 simp only [Bool.and_eq_true, decide_eq_true_eq, List.all_eq_true] at h
 exact ⟨h.1, h.2.1, h.2.2.1, h.2.2.2⟩
theorem z0I {lL lR : List (List UInt8)} {j : Nat} {a b : List UInt8} (h1 : lL[j]? = some a) (h2 : lR[j]? = some b) : (lL.zip lR).take (j + 1) = (lL.zip lR).take j ++ [(a, b)] := by
 have h : (lL.zip lR)[j]? = some (a, b) := by
  rw [List.zip, List.getElem?_zipWith, h1, h2]
 rw [List.take_add_one, h]; rfl
attribute [local irreducible] a0v lw mix cw b0e b0f b0a beN b0l b0b a0z a0F elN mdL b0m rtV b0J c0m b0s c0Q a0D c0z e0H e0I a0R a0T b0c toB a0u a0w a0Y a0E b0Z a0S a0x c0n b0t c0G e0U wrQ qC eQ bZ a0I zqB gLQ gRQ f0H b0d d0w lsZ e0e d0W e0d b0D i0k d0e rdB rdN e0N b0X g0P chP
theorem BParts.keepO {w w' : World} {Y : Nat → Prop} {vs : List Value} {ls : List (List UInt8)} (h : PartsO w Y vs ls) (hf : Fr Y w w') : BParts w' vs ls := PartsO.bps (h.keep hf fun _ t => t)
theorem u0k (Y : Nat → Prop) (X : Nat → Prop) (gs gl base : Nat) (st : List UInt8) (XS : List Zq) (LP : List (List UInt8)) (k : Nat) (hk : k ≤ 6) (ao : Option Addr) (co : Nat) (os : List Zq) (u : Zq) (aL : Option Addr) (nL cL : Nat) (uL : List Value) (lL : List (List UInt8)) (aR : Option Addr) (nR cR : Nat) (uR : List Value) (lR : List (List UInt8)) (aA : Option Addr) (nA cA : Nat) (lA : List UInt8) (aB : Option Addr) (nB cB : Nat) (lB : List UInt8) (w : World) (hs : SumA w X Y gs XS LP) (hygl : Y gl) (hl : LogAt w base gl st) (hb : base ≤ w.heap.size) (ho : Rd w ao (2 ^ k * 4) (qC os)) (hlo : os.length = 2 ^ k) (oO : Off Y ao) (hL : Rd w aL nL uL) (oL : nL = 0 ∨ Off Y aL) (pL : PartsO w Y uL lL) (hR : Rd w aR nR uR) (oR : nR = 0 ∨ Off Y aR) (pR : PartsO w Y uR lR) (pA : PartO w Y (.slice aA nA cA) lA) (pB : PartO w Y (.slice aB nB cB) lB) 
  (hbad : (a0D mQ [lA, lB] && e0e k lL lR) = false) :
  Calls Tryz.prog 66 #[.pointer (some ⟨gs, 0, none⟩), tkV gl, .int .i64 ((2 ^ k : Nat) : Int), .slice ao (2 ^ k) co, i4 (eQ u), .agg #[.slice aL nL cL, .slice aR nR cR, .slice aA nA cA, .slice aB nB cB]] w fun e w' => e = .returned (.bool false) ∧ Fr Y w w' := by
 obtain ⟨b1, hb1⟩ : ∃ b, a0D mQ [lA, lB] = b := ⟨_, rfl⟩
 rw [hb1] at hbad
 have HB1 := qH hb1
 have HBB := qH hbad
 clear hb1 hbad
 obtain ⟨X', t1, -, t3⟩ := hs.tight
 have C0 := qH (show CkS Y w base gl gs w st XS LP [] [] from ⟨Sy.start Y w, ⟨X', t1, fun j hj hlt => ⟨by simp, by simp, t3 j hj hlt⟩⟩, hl, hb, fun j hj => hs.sub j (hs.up j hj), hygl⟩)
 have HFT := qH (f0J k hk)
 have hlen := d0x k hk
 obtain ⟨n, hn⟩ : ∃ n, 2 ^ k = n := ⟨_, rfl⟩
 rw [hn] at HFT hlen ho hlo ⊢
 obtain ⟨h0, h64⟩ := hlen
 have HN := qH hn
 have HO := qH ho
 have HLO := qH hlo
 have OO := qH oO
 have HL := qH hL
 have OL := qH oL
 have PL := qH pL
 have HR := qH hR
 have OR := qH oR
 have PR := qH pR
 have PA := qH pA
 have PB := qH pB
 clear t1 t3 hs hl hb hygl hn ho hlo oO hL oL pL hR oR pR pA pB
 go_enter Tryz.func66, Tryz.ntmps66
 go_wp2_with (with_reducible refine wSk 7 ?_)
 refine b0N rfl (d0X C0.out.y rfl rfl [.pointer (some ⟨gl, 0, none⟩)] rfl ?_)
 intro g7 w1 yy hf hg
 have C1 := qH (C0.out.new yy hf hg)
 have HG7 := qH (Nat.le_trans C0.out.y.st.fr.size hg)
 clear yy hf hg C0
 go_wp2_with (with_reducible refine wSk 10 ?_)
 refine b0N rfl (d0X C1.out.y rfl rfl (cw 4 (eQ u)) rfl ?_)
 intro g10 w2 yy hf hg
 have C2 := qH (C1.out.new yy hf hg)
 have HG10 := qH (Nat.le_trans C1.out.y.st.fr.size hg)
 clear yy hf hg C1
 go_wp2_with (with_reducible refine wSk 11 ?_)
 refine b0N rfl (d0X C2.out.y rfl rfl [.slice aL nL cL, .slice aR nR cR, .slice aA nA cA, .slice aB nB cB] rfl ?_)
 intro g11 w3 yy hf hg
 have C3 := qH (C2.out.new yy hf hg)
 have HG11 := qH (Nat.le_trans C2.out.y.st.fr.size hg)
 clear yy hf hg C2
 have hc2 := (C3.out.y.at 2 rfl).cell (i := 2) rfl
 have hc3 := (C3.out.y.at 2 rfl).cell (i := 3) rfl
 go_wp2_with fail
 refine (HFT.out _).mono ?_
 rintro e' w4 ⟨rfl, rfl⟩
 go_wp2_with (with_reducible refine wSk 38 ?_)
 refine b0N rfl (n0W C3.out.y rfl Tryz.underlying24 a0M [.slice aA nA cA, .slice aB nB cB] rfl (h0U _ _ _ _ _ _) rfl [.slice aA nA cA, .slice aB nB cB] rfl ?_)
 intro g38 w5 yy hf hg
 have C4 := qH (C3.out.new yy hf hg)
 clear yy hf hg hc2 hc3 C3
 go_wp2_with fail
 refine (A0A (some ⟨g38, 0, none⟩) 2 2 _ [lA, lB] _ (Rd.whole (C4.out.y.at 3 rfl)) (BParts.two (PartO.bp (PartO.keep PA.out C4.out.y.st.fr fun _ t => t)) (PartO.bp (PartO.keep PB.out C4.out.y.st.fr fun _ t => t))) ap2 b1 HB1.out).mono ?_
 rintro e' w6 ⟨xa, xn, xc, rfl, hf⟩
 have C5 := qH (C4.out.still hf)
 clear hf C4
 cases b1
 ·have HF := qH C5.out.y.st.fr
  clear C5
  go_wp2_with fail
  go_ret
  exact ⟨rfl, HF.out⟩
 ·have HFM := qH (show e0e k lL lR = false by have h := HBB.out; simpa using h)
  go_wp2_with (with_reducible refine wSk 45 ?_)
  refine s0c (by first | rfl | go_simp) ?_
  refine a0s C5.out.y.st 2 rfl rfl rfl Tryz.underlying26 rfl rfl (c0j _ _ _ _) ?_
  have hfq := n0V aL nL cL uL lL aR nR cR uR lR aA nA cA aB nB cB k w6 ap1 (HL.out.keepY C5.out.y.st.fr OL.out) (BParts.keepO PL.out C5.out.y.st.fr) (HR.out.keepY C5.out.y.st.fr OR.out) (BParts.keepO PR.out C5.out.y.st.fr)
  rw [HFM.out] at hfq
  have HFQ := qH hfq
  clear hfq
  go_wp2_with fail
  refine HFQ.out.mono ?_
  rintro e' w7 ⟨rfl, hf⟩
  have HF := qH (C5.out.still hf).y.st.fr
  clear hf C5
  go_wp2_with fail
  go_ret
  exact ⟨rfl, HF.out⟩
end
end Go.Proofs.YtpfimiajoifjaaaGreat
