/- ; ; ; ; . -/
import Derived.Test.YtpfimiajoifjaaaGreatMgSpanHalvesProof9
import Derived.Test.YtpfimiajoifjaaaGreatMgSpanHalvesProof6
import Derived.Test.YtpfimiajoifjaaaGreatMgSpanHalvesProof7
set_option maxHeartbeats 16000000
set_option maxRecDepth 1000000

namespace Go.Proofs.YtpfimiajoifjaaaGreat
open Go.RowKit Go.Mv Mvp Mvq
theorem x0z {Y : Nat → Prop} {w : World} {base gl gs : Nat} {wr : World} {st l r : List UInt8} {XS : List Zq} {LP : List (List UInt8)} {bl : List (Nat × List Value × TypeId)} {ol : List Ox}
  (h : CkS Y w base gl gs wr (c0n p0Y [c0n p0Y [st, (⟨#[108, 101, 102, 116]⟩ : ByteArray).data.toList, l], (⟨#[114, 105, 103, 104, 116]⟩ : ByteArray).data.toList, r]) XS LP bl ol) : CkS Y w base gl gs wr (b0D st l r) XS LP bl ol := h
attribute [local irreducible] a0v lw mix cw b0e b0f b0a beN b0l b0b a0z a0F elN mdL b0m rtV b0J c0m b0s c0Q a0D c0z e0H e0I a0R a0T b0c toB a0u a0w a0Y a0E b0Z a0S a0x c0n b0t c0G e0U wrQ qC eQ bZ a0I zqB gLQ gRQ f0H b0d d0w lsZ e0e d0W e0d b0D i0k d0e rdB rdN e0N b0X g0P chP
def p0l (Y : Nat → Prop) (w1 w2 : World) : Nat → Prop := fun j => Y j ∧ (j < w1.heap.size ∨ w2.heap.size ≤ j)
theorem SumA.lessY {w : World} {X Y Y2 : Nat → Prop} {g : Nat} {xs : List Zq} {lp : List (List UInt8)} (h : SumA w X Y g xs lp) (h1 : ∀ j, X j → Y2 j) (h2 : ∀ j, Y2 j → Y j) : SumA w X Y2 g xs lp := by
 obtain ⟨v1, v2, vs, e1, e2, -, e4⟩ := h
 exact ⟨v1, v2, vs, e1, e2, h1, e4.less fun j _ hj => h2 j hj⟩
theorem CkS.part {Y : Nat → Prop} {w : World} {base gl gs : Nat} {w1 w2 : World} {st : List UInt8} {XS : List Zq} {LP : List (List UInt8)} {bl : List (Nat × List Value × TypeId)} {l : List Ox} (k : CkS Y w base gl gs w1 st XS LP bl l) (hf : Fr Nob w1 w2) : CkS (p0l Y w1 w2) w2 base gl gs w2 st XS LP bl l := by
 obtain ⟨X, h1, h2⟩ := k.s
 have h := k.y.keep hf
 obtain ⟨vl, hvl⟩ := k.lg.has
 refine ⟨⟨⟨Fr.refl _ _, fun x hx => .inr ⟨(h.st.own x hx).elim (fun e => k.up _ e) id, .inl (k.y.st.has x hx).lt⟩, h.st.has, h.st.ne⟩, h.os, fun x hx j hj => .inl ⟨(h.inX x hx j hj).elim id (k.up _), .inl ((k.y.os.own x hx).lt hj).2⟩⟩, ?_, k.lg.still hf, Nat.le_trans k.hb hf.size, fun j hj => ⟨k.up j (Nat.le_trans k.y.st.fr.size (Nat.le_trans hf.size hj)), .inr hj⟩, ⟨k.ygl, .inl hvl.lt⟩⟩
 have r := h1.rebase (S := Nob) hf fun _ t => t.elim
 refine ⟨_, r.lessY (fun j hj => ?_) (fun j hj => hj.1), fun j hj hlt => ?_⟩
 ·rcases hj with hj | hj
  ·exact ⟨h1.sub j hj.1, .inl hj.2⟩
  ·exact ⟨h1.sub j (h1.up j (Nat.le_trans hf.size hj)), .inr hj⟩
 ·have hj2 : X j ∧ j < w1.heap.size := hj.resolve_right ap1
  obtain ⟨d1, d2, L, U, d3, d4⟩ := h2 j hj2.1 hj2.2
  exact ⟨d1, d2, L, U, d3.keep hf id, d4⟩
theorem h0X {Y : Nat → Prop} {w1 w2 : World} {T : TypeId} {sz n : Nat} {v : Value} {L : List Value} (h : Go.Mv.Own w2 w1.heap.size T sz v n L) : ∀ j, b0g v j → ¬ p0l Y w1 w2 j := fun j hj hy => by
 have := Go.Mv.Own.lt h hj
 rcases hy.2 with h | h
 ·omega
 ·omega
theorem l0t {Y : Nat → Prop} {w1 w2 : World} {n : Nat} {v : Value} {l : List UInt8} (h : Go.Mv.Own w2 w1.heap.size 5 1 v n (bs l)) (hn : n = l.length) : PartO w2 (p0l Y w1 w2) v l := by
 subst hn
 obtain ⟨a, c, rfl, hc, hr, -⟩ := Go.Mv.Own.form h
 rw [Nat.mul_one] at hr
 refine ⟨a, _, c, rfl, hc, hr, .inr fun x hx => ?_⟩
 subst hx
 exact h0X h x.block rfl
theorem g0e {Y : Nat → Prop} {w1 w2 : World} : ∀ {vs : List Value} {ls : List (List UInt8)}, POwn w2 w1.heap.size vs ls → PartsO w2 (p0l Y w1 w2) vs ls
 | [], [], _ => trivial
 | _ :: _, _ :: _, h => ⟨l0t h.1 rfl, g0e h.2⟩
 | [], _ :: _, h => h
 | _ :: _, [], h => h
theorem x0A {Y : Nat → Prop} {w : World} {base gl gs : Nat} {wr : World} {st : List UInt8} {XS : List Zq} {LP : List (List UInt8)} {bl : List (Nat × List Value × TypeId)} {v1 v2 v3 : Value} {L1 : List Value} {n k : Nat} {zs : List (List UInt8 × List UInt8)} (hz : zs.length = k)
  (h : CkS Y w base gl gs wr (i0k st (zs.take k)) (XS ++ rdN (d0e st (zs.take k))) (LP ++ rdB (zs.take k)) bl [⟨v1, 125, 4, 2, L1⟩, ⟨v2, 125, 4, n, qC (lsZ n fun i => e0N k (d0e st (zs.take k)) i 1)⟩, ⟨v3, 125, 4, n, qC (lsZ n fun i => e0N k (b0X (d0e st (zs.take k))) i 1)⟩]) :
  CkS Y w base gl gs wr (i0k st zs) (XS ++ rdN (d0e st zs)) (LP ++ rdB zs) bl [⟨v1, 125, 4, 2, L1⟩, ⟨v2, 125, 4, n, qC (lsZ n (c0a (d0e st zs)))⟩, ⟨v3, 125, 4, n, qC (lsZ n (c0a (b0X (d0e st zs))))⟩] := by
 rw [List.take_of_length_le ap1] at h
 have hc : (d0e st zs).length = k := by rw [f0N, hz]
 have e1 : (fun i => e0N k (d0e st zs) i 1) = c0a (d0e st zs) := by funext i; exact v0p k _ hc i
 have e2 : (fun i => e0N k (b0X (d0e st zs)) i 1) = c0a (b0X (d0e st zs)) := by funext i; exact v0p k _ (by rw [h0K, hc]) i
 rw [e1, e2] at h
 exact h
theorem A0M (f : Nat → Zq) : lsZ 0 f = [] := by unfold lsZ; rfl
theorem z0J {Y Y2 : Nat → Prop} {w wx wy w2 : World} {base gl gs : Nat} {st : List UInt8} {XS : List Zq} {LP : List (List UInt8)} {bl : List (Nat × List Value × TypeId)} {l : List Ox} (k : CkS (p0l Y2 wx wy) wy base gl gs w2 st XS LP bl l) (hY : ∀ j, Y2 j → Y j) (hf : Fr Y w wy) :
  (∃ X' Y', SumA w2 X' Y' gs XS LP ∧ ∀ j, Y' j → Y j) ∧ Fr Y w w2 := by
 obtain ⟨X, h1, -⟩ := k.s
 exact ⟨⟨X, _, h1, fun j hj => hY j hj.1⟩, hf.trans k.y.st.fr fun j _ hj => hY j hj.1⟩
theorem u0l {XS X0 X1 X2 : List Zq} {n : Nat} {a b u : Zq} {cs : List (Zq × Zq)} {fG fH F1 F2 ow : Nat → Zq} (h0 : XS ++ rdN cs = X0) (hG : c0a cs = fG) (hH : c0a (b0X cs) = fH) (h1 : (fun i => - (a * fG i)) = F1) (h2 : (fun i => - (b * fH i * ow i)) = F2) (e1 : X0 ++ lsZ n F1 = X1) (e2 : X1 ++ lsZ n F2 = X2) :
  X2 ++ [- (a * b * u)] = XS ++ ckN n a b u cs ow := by
 subst h0 hG hH h1 h2 e1 e2
 unfold ckN
 simp only [List.append_assoc]
theorem z0K (os : List Zq) (j : Nat) (h : j < os.length) : os[j]? = some (os.getD j 0) := by rw [List.getD_eq_getElem?_getD, List.getElem?_eq_getElem h]; rfl
theorem l0u {α : Type} (l : List α) (j : Nat) (b : α) (h : l[j]? = some b) : l.take (j + 1) = l.take j ++ [b] := by rw [List.take_add_one, h]; rfl
theorem x0B (q s : Nat) (h : q < 9223372036854775808) : (q / 2 ^ s % 2 = 0 ∧ bits .and .i64 ((q : Int) / 2 ^ s) 1 = 0) ∨ (q / 2 ^ s % 2 = 1 ∧ bits .and .i64 ((q : Int) / 2 ^ s) 1 = 1) := by
 have e : (q : Int) / 2 ^ s = ((q / 2 ^ s : Nat) : Int) := by rw [Int.natCast_ediv, Int.natCast_pow]; rfl
 have h2 : bits .and .i64 ((q / 2 ^ s : Nat) : Int) 1 = ((q / 2 ^ s % 2 : Nat) : Int) := by
  have := v0z (q / 2 ^ s) 1 (Nat.lt_of_le_of_lt (Nat.div_le_self _ _) h) ap2
  rw [show ((1 : Nat) : Int) = 1 from rfl, Nat.and_one_is_mod] at this
  exact this
 rw [e, h2]
 rcases Nat.mod_two_eq_zero_or_one (q / 2 ^ s) with h3 | h3
 ·exact .inl ⟨h3, by rw [h3]; rfl⟩
 ·exact .inr ⟨h3, by rw [h3]; rfl⟩
theorem A0N {G0 G1 : Nat → Zq} {s q : Nat} {x y : Zq} (h : (fun i => G0 i * (if i / 2 ^ s % 2 = 0 then y else x)) = G1) (hb : q / 2 ^ s % 2 = 0) : G0 q * y = G1 q := by
 rw [← h]; show _ = G0 q * (if q / 2 ^ s % 2 = 0 then y else x); rw [if_pos hb]
theorem A0O {G0 G1 : Nat → Zq} {s q : Nat} {x y : Zq} (h : (fun i => G0 i * (if i / 2 ^ s % 2 = 0 then y else x)) = G1) (hb : q / 2 ^ s % 2 = 1) : G0 q * x = G1 q := by
 rw [← h]; show _ = G0 q * (if q / 2 ^ s % 2 = 0 then y else x); rw [if_neg ap1]
theorem x0C {Y : Nat → Prop} {w : World} {base gl gs : Nat} {wr : World} {st sr sn : List UInt8} {XS X0 X1 X2 : List Zq} {LP P0 P1 P2 : List (List UInt8)} {bl : List (Nat × List Value × TypeId)} {v1 v2 v3 : Value} {L1 : List Value} {n k r s : Nat} {zs zt : List (List UInt8 × List UInt8)} {b1 b2 : List UInt8} {cs : List (Zq × Zq)} {G0 G1 H0 H1 : Nat → Zq} {x y : Zq}
  (hz : zs.take (r + 1) = zs.take r ++ [(b1, b2)]) (nm : zs.take r = zt ∧ d0e st zt = cs ∧ cs.length = r ∧ i0k st zt = sr ∧ XS ++ rdN cs = X0 ∧ LP ++ rdB zt = P0 ∧ (fun i => e0N k cs i 1) = G0 ∧ (fun i => e0N k (b0X cs) i 1) = H0)
  (hsn : e0d (b0D sr b1 b2) = sn) (hx : d0W (b0D sr b1 b2) = x) (hy : ivZ x = y) (hX1 : X0 ++ [x * x] = X1) (hX2 : X1 ++ [y * y] = X2) (hP1 : P0 ++ [b1] = P1) (hP2 : P1 ++ [b2] = P2) (hs : k - 1 - r = s)
  (hG : (fun i => G0 i * (if i / 2 ^ s % 2 = 0 then y else x)) = G1) (hH : (fun i => H0 i * (if i / 2 ^ s % 2 = 0 then x else y)) = H1)
  (h : CkS Y w base gl gs wr sn X2 P2 bl [⟨v1, 125, 4, 2, L1⟩, ⟨v2, 125, 4, n, qC (lsZ n G1)⟩, ⟨v3, 125, 4, n, qC (lsZ n H1)⟩]) :
  CkS Y w base gl gs wr (i0k st (zs.take (r + 1))) (XS ++ rdN (d0e st (zs.take (r + 1)))) (LP ++ rdB (zs.take (r + 1))) bl [⟨v1, 125, 4, 2, L1⟩, ⟨v2, 125, 4, n, qC (lsZ n fun i => e0N k (d0e st (zs.take (r + 1))) i 1)⟩, ⟨v3, 125, 4, n, qC (lsZ n fun i => e0N k (b0X (d0e st (zs.take (r + 1)))) i 1)⟩] := by
 obtain ⟨n1, n2, n3, n4, n5, n6, n7, n8⟩ := nm
 have ec : d0e st (zt ++ [(b1, b2)]) = cs ++ [(x, y)] := by rw [l0q, n2, n4, hx, hy]
 have ee : i0k st (zt ++ [(b1, b2)]) = sn := by rw [l0r, n4, hsn]
 have eg : (fun i => e0N k (cs ++ [(x, y)]) i 1) = G1 := by
  rw [← hG, ← n7]; funext i; rw [h0W, n3, hs]
 have eh : (fun i => e0N k (b0X cs ++ [(y, x)]) i 1) = H1 := by
  rw [← hH, ← n8]; funext i; rw [h0W, h0K, n3, hs]
 have ex : XS ++ rdN (cs ++ [(x, y)]) = X2 := by rw [u0j, ← List.append_assoc, ← List.append_assoc, n5, hX1, hX2]
 have ep : LP ++ rdB (zt ++ [(b1, b2)]) = P2 := by rw [u0i, ← List.append_assoc, ← List.append_assoc, n6, hP1, hP2]
 rw [hz, n1, ec, ee, ex, ep, s0d, eg, eh]
 exact h
theorem Fr.ofNilOwn {w w' : World} (hf : Fr (b0g (.slice none 0 0)) w w') : Fr Nob w w' := hf.mono fun k _ hk => by simp [b0g, Value.ownBlock] at hk
theorem u0m {Y : Nat → Prop} {w : World} {base gl gs : Nat} {wr : World} {st : List UInt8} {XS : List Zq} {LP : List (List UInt8)} {bl : List (Nat × List Value × TypeId)} {v1 v2 v3 : Value} {L1 : List Value} {n k : Nat} {z : List (List UInt8 × List UInt8)}
  (h : CkS Y w base gl gs wr st XS LP bl [⟨v1, 125, 4, 2, L1⟩, ⟨v2, 125, 4, n, qC (List.replicate n 1)⟩, ⟨v3, 125, 4, n, qC (List.replicate n 1)⟩]) :
  CkS Y w base gl gs wr (i0k st (z.take 0)) (XS ++ rdN (d0e st (z.take 0))) (LP ++ rdB (z.take 0)) bl [⟨v1, 125, 4, 2, L1⟩, ⟨v2, 125, 4, n, qC (lsZ n fun i => e0N k (d0e st (z.take 0)) i 1)⟩, ⟨v3, 125, 4, n, qC (lsZ n fun i => e0N k (b0X (d0e st (z.take 0))) i 1)⟩] := by
 rw [List.take_zero]
 have e1 : XS ++ rdN (d0e st []) = XS := by unfold d0e rdN; rw [List.flatMap_nil, List.append_nil]
 have e2 : LP ++ rdB [] = LP := by unfold rdB; rw [List.flatMap_nil, List.append_nil]
 have e3 : (lsZ n fun i => e0N k (d0e st []) i 1) = List.replicate n 1 := by rw [v0m]; unfold d0e e0N; rfl
 have e4 : (lsZ n fun i => e0N k (b0X (d0e st [])) i 1) = List.replicate n 1 := by rw [v0m]; unfold d0e b0X; rw [List.map_nil]; unfold e0N; rfl
 have e5 : i0k st [] = st := by unfold i0k; rfl
 rw [e1, e2, e3, e4, e5]
 exact h
theorem u0n (Y : Nat → Prop) (X : Nat → Prop) (gs gl base : Nat) (st : List UInt8) (XS : List Zq) (LP : List (List UInt8)) (k : Nat) (hk : k ≤ 6) (ao : Option Addr) (co : Nat) (os : List Zq) (u : Zq) (aL : Option Addr) (cL : Nat) (uL : List Value) (lL : List (List UInt8)) (aR : Option Addr) (cR : Nat) (uR : List Value) (lR : List (List UInt8)) (aA : Option Addr) (nA cA : Nat) (lA : List UInt8) (aB : Option Addr) (nB cB : Nat) (lB : List UInt8) (w : World) (hs : SumA w X Y gs XS LP) (hygl : Y gl) (hl : LogAt w base gl st) (hb : base ≤ w.heap.size) (ho : Rd w ao (2 ^ k * 4) (qC os)) (hlo : os.length = 2 ^ k) (oO : Off Y ao) (hL : Rd w aL k uL) (oL : k = 0 ∨ Off Y aL) (pL : PartsO w Y uL lL) (hR : Rd w aR k uR) (oR : k = 0 ∨ Off Y aR) (pR : PartsO w Y uR lR) (pA : PartO w Y (.slice aA nA cA) lA) (pB : PartO w Y (.slice aB nB cB) lB) (hna : a0D mQ [lA, lB] = true) (hfm : e0e k lL lR = true) (hx : XS.length ≤ 1000) (hlp : LP.length ≤ 1000) :
  Calls Tryz.prog 66 #[.pointer (some ⟨gs, 0, none⟩), tkV gl, .int .i64 ((2 ^ k : Nat) : Int), .slice ao (2 ^ k) co, i4 (eQ u), .agg #[.slice aL k cL, .slice aR k cR, .slice aA nA cA, .slice aB nB cB]] w fun e w' => e = .returned (.bool true) ∧ (∃ X' Y', SumA w' X' Y' gs (XS ++ ckN (2 ^ k) (zqB lA) (zqB lB) u (d0e st (lL.zip lR)) (fun i => os.getD i 0)) (LP ++ (rdB (lL.zip lR) ++ ((lsZ (2 ^ k) gLQ).map wrQ ++ ((lsZ (2 ^ k) gRQ).map wrQ ++ [wrQ f0H])))) ∧ ∀ j, Y' j → Y j) ∧ Fr Y w w' := by
 have HNA := qH hna
 have HFM := qH hfm
 have H33 := qH (s0e hfm)
 have HX := qH hx
 have HLP := qH hlp
 clear hna hfm hx hlp
 obtain ⟨X', t1, -, t3⟩ := hs.tight
 have C0 := qH (show CkS Y w base gl gs w st XS LP [] [] from ⟨Sy.start Y w, ⟨X', t1, fun j hj hlt => ⟨by simp, by simp, t3 j hj hlt⟩⟩, hl, hb, fun j hj => hs.sub j (hs.up j hj), hygl⟩)
 have HFT := qH (f0J k hk)
 have hlen := d0x k hk
 obtain ⟨n, hn⟩ : ∃ n, 2 ^ k = n := ⟨_, rfl⟩
 rw [hn] at HFT hlen ho hlo ⊢
 obtain ⟨h0, h64⟩ := hlen
 have HN := qH hn
 have HO := qH ho
 have HLO := qH hlo
 have OO := qH oO
 have HL := qH hL
 have OL := qH oL
 have PL := qH pL
 have HR := qH hR
 have OR := qH oR
 have PR := qH pR
 have PA := qH pA
 have PB := qH pB
 clear t1 t3 hs hl hb hygl hn ho hlo oO hL oL pL hR oR pR pA pB
 go_enter Tryz.func66, Tryz.ntmps66
 go_wp2_with (with_reducible refine wSk 7 ?_)
 refine b0N rfl (d0X C0.out.y rfl rfl [.pointer (some ⟨gl, 0, none⟩)] rfl ?_)
 intro g7 w1 yy hf hg
 have C1 := qH (C0.out.new yy hf hg)
 have HG7 := qH (Nat.le_trans C0.out.y.st.fr.size hg)
 clear yy hf hg C0
 go_wp2_with (with_reducible refine wSk 10 ?_)
 refine b0N rfl (d0X C1.out.y rfl rfl (cw 4 (eQ u)) rfl ?_)
 intro g10 w2 yy hf hg
 have C2 := qH (C1.out.new yy hf hg)
 have HG10 := qH (Nat.le_trans C1.out.y.st.fr.size hg)
 clear yy hf hg C1
 go_wp2_with (with_reducible refine wSk 11 ?_)
 refine b0N rfl (d0X C2.out.y rfl rfl [.slice aL k cL, .slice aR k cR, .slice aA nA cA, .slice aB nB cB] rfl ?_)
 intro g11 w3 yy hf hg
 have C3 := qH (C2.out.new yy hf hg)
 have HG11 := qH (Nat.le_trans C2.out.y.st.fr.size hg)
 clear yy hf hg C2
 have hc2 := (C3.out.y.at 2 rfl).cell (i := 2) rfl
 have hc3 := (C3.out.y.at 2 rfl).cell (i := 3) rfl
 go_wp2_with fail
 refine (HFT.out _).mono ?_
 rintro e' w4 ⟨rfl, rfl⟩
 go_wp2_with (with_reducible refine wSk 38 ?_)
 refine b0N rfl (n0W C3.out.y rfl Tryz.underlying24 a0M [.slice aA nA cA, .slice aB nB cB] rfl (h0U _ _ _ _ _ _) rfl [.slice aA nA cA, .slice aB nB cB] rfl ?_)
 intro g38 w5 yy hf hg
 have C4 := qH (C3.out.new yy hf hg)
 clear yy hf hg hc2 hc3 C3
 go_wp2_with fail
 refine (u0c (some ⟨g38, 0, none⟩) 2 2 _ [lA, lB] _ (Rd.whole (C4.out.y.at 3 rfl)) (BParts.two (PartO.bp (PartO.keep PA.out C4.out.y.st.fr fun _ t => t)) (PartO.bp (PartO.keep PB.out C4.out.y.st.fr fun _ t => t))) ap2 HNA.out).mono ?_
 rintro e' w6 ⟨⟨al, cl⟩, rfl, ho, hf⟩
 have C5 := qH (C4.out.own hf ho)
 have HVL := qH (f0M ho ap2)
 clear ho hf C4
 obtain ⟨bv, ov, cl', e⟩ := HVL.out
 cases e
 clear HVL
 go_wp2_with (with_reducible refine wSk 45 ?_)
 refine s0c (by first | rfl | go_simp) ?_
 refine a0s C5.out.y.st 2 rfl rfl rfl Tryz.underlying26 rfl rfl (c0j _ _ _ _) ?_
 have hfq := n0V aL k cL uL lL aR k cR uR lR aA nA cA aB nB cB k w6 ap1 (HL.out.keepY C5.out.y.st.fr OL.out) (BParts.keepO PL.out C5.out.y.st.fr) (HR.out.keepY C5.out.y.st.fr OR.out) (BParts.keepO PR.out C5.out.y.st.fr)
 rw [HFM.out] at hfq
 have HFQ := qH hfq
 clear hfq
 go_wp2_with fail
 refine HFQ.out.mono ?_
 rintro e' w7 ⟨rfl, hf⟩
 clear HFQ
 have C6 := qH (C5.out.still hf)
 clear hf C5
 go_wp2_with (with_reducible refine wSk 51 ?_)
 refine g0K rfl rfl Tryz.underlying89 d0s A0B ap2 rfl rfl n n rfl rfl (Nat.le_refl _) ap1 ap9 ?_
 intro w8 hg hf
 rw [u0g] at hg
 have ho : Go.Mv.Own w8 w7.heap.size 125 4 (.slice (some ⟨w7.heap.size, 0, none⟩) n n) n (qC (List.replicate n 0)) := by
  have h := Go.Mv.Own.made hg w7.heap.size (Nat.le_refl _) 4 n n (Nat.le_refl _) ap9 (by rw [l0d, List.length_replicate]; exact Nat.le_refl _)
  rwa [List.take_of_length_le (by rw [l0d, List.length_replicate]; exact Nat.le_refl _)] at h
 have HF8 := qH hf
 clear hg hf
 generalize Value.slice (some ⟨w7.heap.size, 0, none⟩) n n = vg at ho ⊢
 have C7 := qH (C6.out.own HF8.out ho)
 obtain ⟨bg, og, cg, rfl⟩ := f0M ho ap1
 clear ho HF8 C6
 go_wp2_with fail
 go_loopw [54] (fun i wr => ∃ j : Nat, j ≤ n ∧ i = .int .i64 (j : Int) ∧ CkS Y w base gl gs wr st (XS) (LP) [(g7, [.pointer (some ⟨gl, 0, none⟩)], 98), (g10, cw 4 (eQ u), 125), (g11, [.slice aL k cL, .slice aR k cR, .slice aA nA cA, .slice aB nB cB], 26), (g38, [.slice aA nA cA, .slice aB nB cB], 23)] [⟨.slice (some ⟨bv, ov, none⟩) 2 cl, 125, 4, 2, qC [zqB lA, zqB lB]⟩, ⟨.slice (some ⟨bg, og, none⟩) n cg, 125, 4, n, qC (List.replicate j (1 : Zq) ++ List.replicate (n - j) 0)⟩]) (fun i _ => (n - intOf i).toNat)
 case atStart => exact ⟨0, by omega, rfl, by rw [Nat.sub_zero]; exact C7.out⟩
 case round =>
  obtain ⟨j, hj, rfl, ck⟩ := hrel
  clear C7
  have C1 := qH ck
  clear ck
  by_cases hlt : j < n
  ·have hltI : (j : Int) < (n : Int) := by omega
   go_wp2_with fail
   refine (d0d _).mono ?_
   rintro e' w9 ⟨rfl, hf⟩
   have C2 := qH (C1.out.still hf)
   clear hf C1
   go_wp2_with (with_reducible refine wSn ?_)
   refine b0N rfl (d0H C2.out.y 1 rfl rfl (k := j * 4) rfl rfl (by rw [a0g]; omega) (a0G _) (a0f _ _) ?_)
   intro w10 yy hf
   rw [l0s _ _ _ (by rw [List.length_append, List.length_replicate, List.length_replicate]; omega), u0h n j hlt] at yy
   have C3 := qH (C2.out.elem 1 rfl yy hf ap2 ap2)
   clear yy hf C2
   go_wp2_with fail
   go_roundw
   case rel => exact ⟨j + 1, by omega, by go_num, C3.out⟩
   case measure => simp [intOf]; omega
  ·have hge : ¬ ((j : Int) < (n : Int)) := by omega
   have e : j = n := by omega
   have C2 := qH (show CkS Y w base gl gs wr st (XS) (LP) [(g7, [.pointer (some ⟨gl, 0, none⟩)], 98), (g10, cw 4 (eQ u), 125), (g11, [.slice aL k cL, .slice aR k cR, .slice aA nA cA, .slice aB nB cB], 26), (g38, [.slice aA nA cA, .slice aB nB cB], 23)] [⟨.slice (some ⟨bv, ov, none⟩) 2 cl, 125, 4, 2, qC [zqB lA, zqB lB]⟩, ⟨.slice (some ⟨bg, og, none⟩) n cg, 125, 4, n, qC (List.replicate n (1 : Zq))⟩] by
    have h := C1.out
    rw [e, Nat.sub_self, List.replicate_zero, List.append_nil] at h
    exact h)
   clear e hlt C1
   go_wp2_with (with_reducible refine wSk 63 ?_)
   refine c0p (base := wr.heap.size) rfl rfl Tryz.underlying89 d0s rfl ap2 (Go.Mv.Own.nil wr wr.heap.size _ 4) rfl rfl (b0R (C2.out.y.own 1 rfl)) (i0T _) ap9 ap1 (Nat.le_refl _) ?_
   intro vh w11 ho hf hb
   rw [List.nil_append, Nat.zero_add] at ho
   clear hb
   have C3 := qH (C2.out.own (Fr.ofNilOwn hf) ho)
   obtain ⟨bh, oh, ch, rfl⟩ := f0M ho ap1
   clear ho hf C2
   go_wp2_with fail
   go_loopw [65] (fun i wr => ∃ r : Nat, r ≤ k ∧ i = .int .i64 (r : Int) ∧ CkS Y w base gl gs wr (i0k st ((lL.zip lR).take r)) (XS ++ rdN (d0e st ((lL.zip lR).take r))) (LP ++ rdB ((lL.zip lR).take r)) [(g7, [.pointer (some ⟨gl, 0, none⟩)], 98), (g10, cw 4 (eQ u), 125), (g11, [.slice aL k cL, .slice aR k cR, .slice aA nA cA, .slice aB nB cB], 26), (g38, [.slice aA nA cA, .slice aB nB cB], 23)] [⟨.slice (some ⟨bv, ov, none⟩) 2 cl, 125, 4, 2, qC [zqB lA, zqB lB]⟩, ⟨.slice (some ⟨bg, og, none⟩) n cg, 125, 4, n, qC (lsZ n fun i => e0N k (d0e st ((lL.zip lR).take r)) i 1)⟩, ⟨.slice (some ⟨bh, oh, none⟩) n ch, 125, 4, n, qC (lsZ n fun i => e0N k (b0X (d0e st ((lL.zip lR).take r))) i 1)⟩]) (fun i _ => (k - intOf i).toNat)
   case atStart => exact ⟨0, by omega, rfl, u0m C3.out⟩
   case round =>
    obtain ⟨r, hr, rfl, ck⟩ := hrel
    clear C3
    by_cases hlt : r < k
    ·obtain ⟨b1, hb1⟩ : ∃ x, lL[r]? = some x := ⟨_, List.getElem?_eq_getElem (by have := H33.out.1; omega)⟩
     obtain ⟨b2, hb2⟩ : ∃ x, lR[r]? = some x := ⟨_, List.getElem?_eq_getElem (by have := H33.out.2.1; omega)⟩
     obtain ⟨u1, hu1, pu1⟩ := PartsO.get r b1 PL.out hb1
     obtain ⟨u2, hu2, pu2⟩ := PartsO.get r b2 PR.out hb2
     have HB1 := qH (g0L (H33.out.2.2.1 b1 (List.mem_of_getElem? hb1)))
     have HB2 := qH (g0L (H33.out.2.2.2 b2 (List.mem_of_getElem? hb2)))
     have HZ := qH (z0I hb1 hb2)
     have hzl : ((lL.zip lR).take r).length = r := by rw [List.length_take, List.length_zip]; have := H33.out.1; have := H33.out.2.1; omega
     obtain ⟨zt, hzt⟩ : ∃ zt, (lL.zip lR).take r = zt := ⟨_, rfl⟩
     rw [hzt] at ck hzl
     obtain ⟨cs, hcs⟩ : ∃ cs, d0e st zt = cs := ⟨_, rfl⟩
     have hcl : cs.length = r := by rw [← hcs, f0N, hzl]
     rw [hcs] at ck
     obtain ⟨sr, hsr⟩ : ∃ sr, i0k st zt = sr := ⟨_, rfl⟩
     obtain ⟨X0, hX0⟩ : ∃ z, XS ++ rdN cs = z := ⟨_, rfl⟩
     obtain ⟨P0, hP0⟩ : ∃ z, LP ++ rdB zt = z := ⟨_, rfl⟩
     obtain ⟨G0, hG0⟩ : ∃ z : Nat → Zq, (fun i => e0N k cs i 1) = z := ⟨_, rfl⟩
     obtain ⟨H0, hH0⟩ : ∃ z : Nat → Zq, (fun i => e0N k (b0X cs) i 1) = z := ⟨_, rfl⟩
     rw [hsr, hX0, hP0, hG0, hH0] at ck
     have HXL := qH (show X0.length ≤ 2000 by rw [← hX0, List.length_append, h0L, hcl]; have := HX.out; omega)
     have HPL := qH (show P0.length ≤ 2000 by rw [← hP0, List.length_append, m0J, hzl]; have := HLP.out; omega)
     have hltI : (r : Int) < (k : Int) := by omega
     have HU1 := qH hu1
     have HU2 := qH hu2
     have PU1 := qH pu1
     have PU2 := qH pu2
     have HNM := qH (And.intro hzt (And.intro hcs (And.intro hcl (And.intro hsr (And.intro hX0 (And.intro hP0 (And.intro hG0 hH0)))))))
     have HL1 := HL.out
     have HR1 := HR.out
     obtain ⟨bL, pL, rfl, -⟩ := HL1.at ap1
     obtain ⟨bR, pR, rfl, -⟩ := HR1.at ap1
     obtain ⟨a1, n1, c1, rfl⟩ := PartO.sl pu1
     obtain ⟨a2, n2, c2, rfl⟩ := PartO.sl pu2
     have D0 := qH ck
     clear ck hb1 hb2 hu1 hu2 pu1 pu2 hzt hcs hcl hsr hX0 hP0 hG0 hH0 hzl HL1 HR1
     go_wp2_with fail
     refine wp_region_noPanic ?_
     refine a0d (fun wz => CkS Y w base gl gs wz sr (X0) (P0) [(g7, [.pointer (some ⟨gl, 0, none⟩)], 98), (g10, cw 4 (eQ u), 125), (g11, [.slice (some ⟨bL, pL, none⟩) k cL, .slice (some ⟨bR, pR, none⟩) k cR, .slice aA nA cA, .slice aB nB cB], 26), (g38, [.slice aA nA cA, .slice aB nB cB], 23)] [⟨.slice (some ⟨bv, ov, none⟩) 2 cl, 125, 4, 2, qC [zqB lA, zqB lB]⟩, ⟨.slice (some ⟨bg, og, none⟩) n cg, 125, 4, n, qC (lsZ n G0)⟩, ⟨.slice (some ⟨bh, oh, none⟩) n ch, 125, 4, n, qC (lsZ n H0)⟩]) 8 (.w 0 (.w 1 (.t 2 (.w 3 (.t 4 (.w 5 (.w 6 (.t 7 (.m 8 .nil))))))))) ap0 ap0 (D0.out.drew) (fun _ _ _ _ _ h => h) ?_
     have Dd := D0.out.drew
     clear D0
     iterate 2 (refine a0a rfl rfl apW ?_; try simp only [clL])
     refine a0L (v := ?_) rfl rfl (fun wx hS => ?_) ?_
     rotate_left 1
     ·(have hc := (hS.y.at 0 rfl).cell (i := 0) rfl; clear hS; go_simp; with_reducible rfl)
     try simp only [clL]
     refine a0a rfl rfl apW ?_
     try simp only [clL]
     refine a0L (v := ?_) rfl rfl (fun wx hS => ?_) ?_
     rotate_left 1
     ·(have hc := (hS.y.at 2 rfl).cell (i := 0) rfl; clear hS; go_simp; with_reducible rfl)
     try simp only [clL]
     iterate 2 (refine a0a rfl rfl apW ?_; try simp only [clL])
     refine a0L (v := ?_) rfl rfl (fun wx hS => ?_) ?_
     rotate_left 1
     ·(have hc := c0S (HL.out.keepY hS.y.st.fr OL.out) r _ HU1.out; clear hS; go_simp; with_reducible rfl)
     try simp only [clL]
     refine a0o rfl rfl ?_
     go_simp
     refine (v0l Dd ⟨#[108, 101, 102, 116]⟩ ap2 _ _ _ b1 (PartO.part (PartO.keep PU1.out Dd.y.st.fr fun _ t => t) HB1.out) rfl rfl).mono ?_
     rintro e' w12 ⟨rfl, De⟩
     have D1 := qH De
     clear De Dd
     try simp only []
     refine a0e ?_
     refine NoPanic.normal ?_
     go_wp2_with fail
     refine wp_region_noPanic ?_
     refine a0d (fun wz => CkS Y w base gl gs wz (c0n p0Y [sr, (⟨#[108, 101, 102, 116]⟩ : ByteArray).data.toList, b1]) (X0) (P0) [(g7, [.pointer (some ⟨gl, 0, none⟩)], 98), (g10, cw 4 (eQ u), 125), (g11, [.slice (some ⟨bL, pL, none⟩) k cL, .slice (some ⟨bR, pR, none⟩) k cR, .slice aA nA cA, .slice aB nB cB], 26), (g38, [.slice aA nA cA, .slice aB nB cB], 23)] [⟨.slice (some ⟨bv, ov, none⟩) 2 cl, 125, 4, 2, qC [zqB lA, zqB lB]⟩, ⟨.slice (some ⟨bg, og, none⟩) n cg, 125, 4, n, qC (lsZ n G0)⟩, ⟨.slice (some ⟨bh, oh, none⟩) n ch, 125, 4, n, qC (lsZ n H0)⟩]) 8 (.w 0 (.w 1 (.t 2 (.w 3 (.t 4 (.w 5 (.w 6 (.t 7 (.m 8 .nil))))))))) ap0 ap0 (D1.out.drew) (fun _ _ _ _ _ h => h) ?_
     have Dd := D1.out.drew
     clear D1
     iterate 2 (refine a0a rfl rfl apW ?_; try simp only [clL])
     refine a0L (v := ?_) rfl rfl (fun wx hS => ?_) ?_
     rotate_left 1
     ·(have hc := (hS.y.at 0 rfl).cell (i := 0) rfl; clear hS; go_simp; with_reducible rfl)
     try simp only [clL]
     refine a0a rfl rfl apW ?_
     try simp only [clL]
     refine a0L (v := ?_) rfl rfl (fun wx hS => ?_) ?_
     rotate_left 1
     ·(have hc := (hS.y.at 2 rfl).cell (i := 1) rfl; clear hS; go_simp; with_reducible rfl)
     try simp only [clL]
     iterate 2 (refine a0a rfl rfl apW ?_; try simp only [clL])
     refine a0L (v := ?_) rfl rfl (fun wx hS => ?_) ?_
     rotate_left 1
     ·(have hc := c0S (HR.out.keepY hS.y.st.fr OR.out) r _ HU2.out; clear hS; go_simp; with_reducible rfl)
     try simp only [clL]
     refine a0o rfl rfl ?_
     go_simp
     refine (v0l Dd ⟨#[114, 105, 103, 104, 116]⟩ ap2 _ _ _ b2 (PartO.part (PartO.keep PU2.out Dd.y.st.fr fun _ t => t) HB2.out) rfl rfl).mono ?_
     rintro e' w13 ⟨rfl, De⟩
     have D2 := qH De
     clear De Dd
     try simp only []
     refine a0e ?_
     refine NoPanic.normal ?_
     replace D2 := qH (x0z D2.out)
     go_wp2_with (with_reducible refine wSk 86 ?_)
     refine a0s D2.out.y.st 0 rfl rfl rfl Tryz.underlying98 rfl rfl (g0s gl) ?_
     go_wp2_with fail
     refine (x0y D2.out rfl rfl).mono ?_
     rintro e' w14 ⟨rfl, De⟩
     obtain ⟨sn, hsn⟩ : ∃ z, e0d (b0D sr b1 b2) = z := ⟨_, rfl⟩
     obtain ⟨x, hx⟩ : ∃ z, d0W (b0D sr b1 b2) = z := ⟨_, rfl⟩
     rw [hsn] at De
     rw [hx]
     have D3 := qH De
     have HSN := qH hsn
     have HXX := qH hx
     clear De hsn hx D2
     go_wp2_with (with_reducible refine wSk 21 ?_)
     refine b0N rfl (l0p D3.out.y rfl m0x _ g0v ?_)
     intro g21 w15 yy hf hg
     have De := qH (D3.out.new yy hf hg)
     have HG21 := qH (Nat.le_trans D3.out.y.st.fr.size hg)
     clear yy hf hg D3
     go_wp2_with (with_reducible refine wSn ?_)
     refine b0N rfl (d0C De.out.y 4 rfl rfl rfl rfl (e0c _ _) (a0G _) (a0f _ _) ?_)
     intro w16 yy hf
     have D4 := qH (De.out.put 4 rfl yy hf ap2 ap2 HG21.out)
     clear yy hf De
     go_wp2_with (with_reducible refine wSk 88 ?_)
     refine a0s D4.out.y.st 4 rfl rfl rfl Tryz.underlying125 rfl rfl (a0G _) ?_
     go_wp2_with fail
     refine (z0k x _).mono ?_
     rintro e' w17 ⟨rfl, hf⟩
     have D5 := qH (D4.out.still hf)
     clear hf D4
     obtain ⟨y, hy⟩ : ∃ z, ivZ x = z := ⟨_, rfl⟩
     rw [hy]
     have HYY := qH hy
     clear hy
     go_wp2_with (with_reducible refine wSk 22 ?_)
     refine b0N rfl (l0p D5.out.y rfl m0x _ g0v ?_)
     intro g22 w18 yy hf hg
     have De := qH (D5.out.new yy hf hg)
     have HG22 := qH (Nat.le_trans D5.out.y.st.fr.size hg)
     clear yy hf hg D5
     go_wp2_with (with_reducible refine wSn ?_)
     refine b0N rfl (d0C De.out.y 5 rfl rfl rfl rfl (e0c _ _) (a0G _) (a0f _ _) ?_)
     intro w19 yy hf
     have D6 := qH (De.out.put 5 rfl yy hf ap2 ap2 HG22.out)
     clear yy hf De
     have D7 := qH (show CkS Y w base gl gs w19 sn (X0) (P0) [(g7, [.pointer (some ⟨gl, 0, none⟩)], 98), (g10, cw 4 (eQ u), 125), (g11, [.slice (some ⟨bL, pL, none⟩) k cL, .slice (some ⟨bR, pR, none⟩) k cR, .slice aA nA cA, .slice aB nB cB], 26), (g38, [.slice aA nA cA, .slice aB nB cB], 23), (g21, cw 4 (eQ x), 125), (g22, cw 4 (eQ y), 125)] [⟨.slice (some ⟨bv, ov, none⟩) 2 cl, 125, 4, 2, qC [zqB lA, zqB lB]⟩, ⟨.slice (some ⟨bg, og, none⟩) n cg, 125, 4, n, qC (lsZ n G0)⟩, ⟨.slice (some ⟨bh, oh, none⟩) n ch, 125, 4, n, qC (lsZ n H0)⟩] from D6.out)
     clear D6
     go_wp2_with fail
     refine wp_region_noPanic ?_
     refine a0d (fun wz => CkS Y w base gl gs wz sn (X0) (P0) [(g7, [.pointer (some ⟨gl, 0, none⟩)], 98), (g10, cw 4 (eQ u), 125), (g11, [.slice (some ⟨bL, pL, none⟩) k cL, .slice (some ⟨bR, pR, none⟩) k cR, .slice aA nA cA, .slice aB nB cB], 26), (g38, [.slice aA nA cA, .slice aB nB cB], 23), (g21, cw 4 (eQ x), 125), (g22, cw 4 (eQ y), 125)] [⟨.slice (some ⟨bv, ov, none⟩) 2 cl, 125, 4, 2, qC [zqB lA, zqB lB]⟩, ⟨.slice (some ⟨bg, og, none⟩) n cg, 125, 4, n, qC (lsZ n G0)⟩, ⟨.slice (some ⟨bh, oh, none⟩) n ch, 125, 4, n, qC (lsZ n H0)⟩]) 9 (.w 0 (.t 1 (.t 2 (.w 4 (.t 5 (.w 6 (.w 7 (.t 8 (.r 3 (.m 9 .nil)))))))))) ap0 ap0 (D7.out.drew) (fun _ _ _ _ _ h => h) ?_
     have Dd := D7.out.drew
     clear D7
     refine a0a rfl rfl apW ?_
     try simp only [clL]
     refine a0h rfl rfl rfl rfl (cw 4 (eQ x)) (fun wx hS => (hS.y.at 4 rfl).range 0 _ dZl) Tryz.underlying125 rfl (a0G _) ?_
     try simp only [clL]
     refine a0h rfl rfl rfl rfl (cw 4 (eQ x)) (fun wx hS => (hS.y.at 4 rfl).range 0 _ dZl) Tryz.underlying125 rfl (a0G _) ?_
     try simp only [clL]
     refine a0a rfl rfl apW ?_
     try simp only [clL]
     refine a0L (v := ?_) rfl rfl (fun wx hS => ?_) ?_
     rotate_left 1
     ·(have hc := (hS.y.at 2 rfl).cell (i := 0) rfl; clear hS; go_simp; with_reducible rfl)
     try simp only [clL]
     iterate 2 (refine a0a rfl rfl apW ?_; try simp only [clL])
     refine a0L (v := ?_) rfl rfl (fun wx hS => ?_) ?_
     rotate_left 1
     ·(have hc := c0S (HL.out.keepY hS.y.st.fr OL.out) r _ HU1.out; clear hS; go_simp; with_reducible rfl)
     try simp only [clL]
     refine a0q rfl rfl ?_
     go_simp
     refine (g0b x x _).mono ?_
     rintro e' w20 ⟨rfl, hf⟩
     have De := Dd.still hf
     refine ⟨De, ?_⟩
     clear hf Dd
     try simp only [clL]
     refine a0o rfl rfl ?_
     go_simp
     refine (l0o De (x * x) _ b1 (PartO.keep PU1.out De.y.st.fr fun _ t => t) (by have := HXL.out; omega) (by have := HPL.out; omega)).mono ?_
     rintro e' w21 ⟨rfl, Df⟩
     have D8 := qH Df
     clear Df De
     try simp only []
     refine a0e ?_
     refine NoPanic.normal ?_
     obtain ⟨X1, hX1⟩ : ∃ z, X0 ++ [x * x] = z := ⟨_, rfl⟩
     obtain ⟨P1, hP1⟩ : ∃ z, P0 ++ [b1] = z := ⟨_, rfl⟩
     rw [hX1, hP1] at D8
     have HX1 := qH hX1
     have HP1 := qH hP1
     have HXL1 := qH (show X1.length ≤ 2001 by rw [← hX1, List.length_append, List.length_singleton]; have := HXL.out; omega)
     have HPL1 := qH (show P1.length ≤ 2001 by rw [← hP1, List.length_append, List.length_singleton]; have := HPL.out; omega)
     clear hX1 hP1
     go_wp2_with fail
     refine wp_region_noPanic ?_
     refine a0d (fun wz => CkS Y w base gl gs wz sn (X1) (P1) [(g7, [.pointer (some ⟨gl, 0, none⟩)], 98), (g10, cw 4 (eQ u), 125), (g11, [.slice (some ⟨bL, pL, none⟩) k cL, .slice (some ⟨bR, pR, none⟩) k cR, .slice aA nA cA, .slice aB nB cB], 26), (g38, [.slice aA nA cA, .slice aB nB cB], 23), (g21, cw 4 (eQ x), 125), (g22, cw 4 (eQ y), 125)] [⟨.slice (some ⟨bv, ov, none⟩) 2 cl, 125, 4, 2, qC [zqB lA, zqB lB]⟩, ⟨.slice (some ⟨bg, og, none⟩) n cg, 125, 4, n, qC (lsZ n G0)⟩, ⟨.slice (some ⟨bh, oh, none⟩) n ch, 125, 4, n, qC (lsZ n H0)⟩]) 9 (.w 0 (.t 1 (.t 2 (.w 4 (.t 5 (.w 6 (.w 7 (.t 8 (.r 3 (.m 9 .nil)))))))))) ap0 ap0 (D8.out.drew) (fun _ _ _ _ _ h => h) ?_
     have Dd := D8.out.drew
     clear D8
     refine a0a rfl rfl apW ?_
     try simp only [clL]
     refine a0h rfl rfl rfl rfl (cw 4 (eQ y)) (fun wx hS => (hS.y.at 5 rfl).range 0 _ dZl) Tryz.underlying125 rfl (a0G _) ?_
     try simp only [clL]
     refine a0h rfl rfl rfl rfl (cw 4 (eQ y)) (fun wx hS => (hS.y.at 5 rfl).range 0 _ dZl) Tryz.underlying125 rfl (a0G _) ?_
     try simp only [clL]
     refine a0a rfl rfl apW ?_
     try simp only [clL]
     refine a0L (v := ?_) rfl rfl (fun wx hS => ?_) ?_
     rotate_left 1
     ·(have hc := (hS.y.at 2 rfl).cell (i := 1) rfl; clear hS; go_simp; with_reducible rfl)
     try simp only [clL]
     iterate 2 (refine a0a rfl rfl apW ?_; try simp only [clL])
     refine a0L (v := ?_) rfl rfl (fun wx hS => ?_) ?_
     rotate_left 1
     ·(have hc := c0S (HR.out.keepY hS.y.st.fr OR.out) r _ HU2.out; clear hS; go_simp; with_reducible rfl)
     try simp only [clL]
     refine a0q rfl rfl ?_
     go_simp
     refine (g0b y y _).mono ?_
     rintro e' w22 ⟨rfl, hf⟩
     have De := Dd.still hf
     refine ⟨De, ?_⟩
     clear hf Dd
     try simp only [clL]
     refine a0o rfl rfl ?_
     go_simp
     refine (l0o De (y * y) _ b2 (PartO.keep PU2.out De.y.st.fr fun _ t => t) (by have := HXL1.out; omega) (by have := HPL1.out; omega)).mono ?_
     rintro e' w23 ⟨rfl, Df⟩
     have D9 := qH Df
     clear Df De
     try simp only []
     refine a0e ?_
     refine NoPanic.normal ?_
     obtain ⟨X2, hX2⟩ : ∃ z, X1 ++ [y * y] = z := ⟨_, rfl⟩
     obtain ⟨P2, hP2⟩ : ∃ z, P1 ++ [b2] = z := ⟨_, rfl⟩
     rw [hX2, hP2] at D9
     have HX2 := qH hX2
     have HP2 := qH hP2
     clear hX2 hP2
     obtain ⟨s, hs⟩ : ∃ s, k - 1 - r = s := ⟨_, rfl⟩
     have HS := qH hs
     obtain ⟨k1, hk1⟩ : ∃ k1, k = k1 + 1 := ⟨k - 1, by omega⟩
     have hq1 : (k : Int) - 1 = (k1 : Int) := by omega
     have hq2 : (k1 : Int) - (r : Int) = (s : Int) := by omega
     have hs6 : (s : Int) ≤ 6 := by omega
     clear hs
     have HK1 := qH hk1
     clear hk1
     go_wp2_with fail
     obtain ⟨G1, hG1⟩ : ∃ z : Nat → Zq, (fun i => G0 i * (if i / 2 ^ s % 2 = 0 then y else x)) = z := ⟨_, rfl⟩
     obtain ⟨H1, hH1⟩ : ∃ z : Nat → Zq, (fun i => H0 i * (if i / 2 ^ s % 2 = 0 then x else y)) = z := ⟨_, rfl⟩
     have HG1 := qH hG1
     have HH1 := qH hH1
     clear hG1 hH1
     go_loopw [111] (fun i wq => ∃ q : Nat, q ≤ n ∧ i = .int .i64 (q : Int) ∧ CkS Y w base gl gs wq sn (X2) (P2) [(g7, [.pointer (some ⟨gl, 0, none⟩)], 98), (g10, cw 4 (eQ u), 125), (g11, [.slice (some ⟨bL, pL, none⟩) k cL, .slice (some ⟨bR, pR, none⟩) k cR, .slice aA nA cA, .slice aB nB cB], 26), (g38, [.slice aA nA cA, .slice aB nB cB], 23), (g21, cw 4 (eQ x), 125), (g22, cw 4 (eQ y), 125)] [⟨.slice (some ⟨bv, ov, none⟩) 2 cl, 125, 4, 2, qC [zqB lA, zqB lB]⟩, ⟨.slice (some ⟨bg, og, none⟩) n cg, 125, 4, n, qC (g0P n G1 G0 q)⟩, ⟨.slice (some ⟨bh, oh, none⟩) n ch, 125, 4, n, qC (g0P n H1 H0 q)⟩]) (fun i _ => (n - intOf i).toNat)
     case atStart => exact ⟨0, by omega, rfl, by rw [v0n, v0n]; exact D9.out⟩
     case round =>
      obtain ⟨q, hq, rfl, ck⟩ := hrel
      clear D9
      have E0 := qH ck
      clear ck
      by_cases hlq : q < n
      ·have hlqI : (q : Int) < (n : Int) := by omega
       rcases x0B q s ap1 with ⟨hb0, hbit⟩ | ⟨hb0, hbit⟩
       ·have HB0 := qH hb0
        clear hb0
        go_wp2_with fail
        go_wp2_with fail
        refine wp_region_noPanic ?_
        refine a0d (fun wz => CkS Y w base gl gs wz sn (X2) (P2) [(g7, [.pointer (some ⟨gl, 0, none⟩)], 98), (g10, cw 4 (eQ u), 125), (g11, [.slice (some ⟨bL, pL, none⟩) k cL, .slice (some ⟨bR, pR, none⟩) k cR, .slice aA nA cA, .slice aB nB cB], 26), (g38, [.slice aA nA cA, .slice aB nB cB], 23), (g21, cw 4 (eQ x), 125), (g22, cw 4 (eQ y), 125)] [⟨.slice (some ⟨bv, ov, none⟩) 2 cl, 125, 4, 2, qC [zqB lA, zqB lB]⟩, ⟨.slice (some ⟨bg, og, none⟩) n cg, 125, 4, n, qC (g0P n G1 G0 q)⟩, ⟨.slice (some ⟨bh, oh, none⟩) n ch, 125, 4, n, qC (g0P n H1 H0 q)⟩]) 17 (.w 0 (.w 1 (.w 2 (.w 3 (.w 4 (.w 5 (.w 6 (.t 7 (.t 8 (.w 10 (.w 11 (.w 12 (.t 13 (.t 14 (.r 9 (.r 15 (.w 16 (.m 17 (.w 18 (.m 19 .nil)))))))))))))))))))) ap0 ap0 (E0.out.drew) (fun _ _ _ _ _ h => h) ?_
        have Dd := E0.out.drew
        clear E0
        iterate 7 (refine a0a rfl rfl apW ?_; try simp only [clL])
        refine a0h rfl rfl rfl rfl (cw 4 (eQ (G0 q))) (fun wx hS => b0y (b0R (hS.y.own 1 rfl)) (q * 4) _ (e0J _ q _ (j0T n _ _ q hlq))) Tryz.underlying125 rfl (a0G _) ?_
        try simp only [clL]
        refine a0h rfl rfl rfl rfl (cw 4 (eQ y)) (fun wx hS => (hS.y.at 5 rfl).range 0 _ dZl) Tryz.underlying125 rfl (a0G _) ?_
        try simp only [clL]
        iterate 3 (refine a0a rfl rfl apW ?_; try simp only [clL])
        refine a0h rfl rfl rfl rfl (cw 4 (eQ (H0 q))) (fun wx hS => b0y (b0R (hS.y.own 2 rfl)) (q * 4) _ (e0J _ q _ (j0T n _ _ q hlq))) Tryz.underlying125 rfl (a0G _) ?_
        try simp only [clL]
        refine a0h rfl rfl rfl rfl (cw 4 (eQ x)) (fun wx hS => (hS.y.at 4 rfl).range 0 _ dZl) Tryz.underlying125 rfl (a0G _) ?_
        try simp only [clL]
        refine a0q rfl rfl ?_
        go_simp
        refine (g0b (G0 q) y _).mono ?_
        rintro e' w24 ⟨rfl, hf⟩
        have De := Dd.still hf
        refine ⟨De, ?_⟩
        clear hf Dd
        try simp only [clL]
        refine a0q rfl rfl ?_
        go_simp
        refine (g0b (H0 q) x _).mono ?_
        rintro e' w25 ⟨rfl, hf⟩
        have Df := De.still hf
        refine ⟨Df, ?_⟩
        clear hf De
        try simp only [clL]
        refine a0a rfl rfl apW ?_
        try simp only [clL]
        refine a0o rfl rfl ?_
        refine d0H Df.y 1 rfl rfl (k := q * 4) rfl rfl (by rw [a0g]; omega) (a0G _) (a0f _ _) ?_
        intro w26 yy hf
        rw [l0s _ _ _ (by rw [g0Q]; exact hlq), g0R n G1 G0 q hlq _ (A0N HG1.out HB0.out)] at yy
        have Dg := Df.elem 1 rfl yy hf ap2 ap2
        clear yy hf Df
        try simp only [clL]
        refine a0a rfl rfl apW ?_
        try simp only [clL]
        refine a0o rfl rfl ?_
        refine d0H Dg.y 2 rfl rfl (k := q * 4) rfl rfl (by rw [a0g]; omega) (a0G _) (a0f _ _) ?_
        intro w27 yy hf
        rw [l0s _ _ _ (by rw [g0Q]; exact hlq), g0R n H1 H0 q hlq _ (A0N HH1.out HB0.out)] at yy
        have E1 := qH (show CkS Y w base gl gs w27 sn (X2) (P2) [(g7, [.pointer (some ⟨gl, 0, none⟩)], 98), (g10, cw 4 (eQ u), 125), (g11, [.slice (some ⟨bL, pL, none⟩) k cL, .slice (some ⟨bR, pR, none⟩) k cR, .slice aA nA cA, .slice aB nB cB], 26), (g38, [.slice aA nA cA, .slice aB nB cB], 23), (g21, cw 4 (eQ x), 125), (g22, cw 4 (eQ y), 125)] [⟨.slice (some ⟨bv, ov, none⟩) 2 cl, 125, 4, 2, qC [zqB lA, zqB lB]⟩, ⟨.slice (some ⟨bg, og, none⟩) n cg, 125, 4, n, qC (g0P n G1 G0 (q + 1))⟩, ⟨.slice (some ⟨bh, oh, none⟩) n ch, 125, 4, n, qC (g0P n H1 H0 (q + 1))⟩] from Dg.elem 2 rfl yy hf ap2 ap2)
        clear yy hf Dg
        try simp only [clL]
        refine a0e ?_
        refine NoPanic.normal ?_
        go_wp2_with fail
        go_roundw
        case rel => exact ⟨q + 1, by omega, by go_num, E1.out⟩
        case measure => simp [intOf]; omega
       ·have HB0 := qH hb0
        clear hb0
        go_wp2_with fail
        go_wp2_with fail
        refine wp_region_noPanic ?_
        refine a0d (fun wz => CkS Y w base gl gs wz sn (X2) (P2) [(g7, [.pointer (some ⟨gl, 0, none⟩)], 98), (g10, cw 4 (eQ u), 125), (g11, [.slice (some ⟨bL, pL, none⟩) k cL, .slice (some ⟨bR, pR, none⟩) k cR, .slice aA nA cA, .slice aB nB cB], 26), (g38, [.slice aA nA cA, .slice aB nB cB], 23), (g21, cw 4 (eQ x), 125), (g22, cw 4 (eQ y), 125)] [⟨.slice (some ⟨bv, ov, none⟩) 2 cl, 125, 4, 2, qC [zqB lA, zqB lB]⟩, ⟨.slice (some ⟨bg, og, none⟩) n cg, 125, 4, n, qC (g0P n G1 G0 q)⟩, ⟨.slice (some ⟨bh, oh, none⟩) n ch, 125, 4, n, qC (g0P n H1 H0 q)⟩]) 17 (.w 0 (.w 1 (.w 2 (.w 3 (.w 4 (.w 5 (.w 6 (.t 7 (.t 8 (.w 10 (.w 11 (.w 12 (.t 13 (.t 14 (.r 9 (.r 15 (.w 16 (.m 17 (.w 18 (.m 19 .nil)))))))))))))))))))) ap0 ap0 (E0.out.drew) (fun _ _ _ _ _ h => h) ?_
        have Dd := E0.out.drew
        clear E0
        iterate 7 (refine a0a rfl rfl apW ?_; try simp only [clL])
        refine a0h rfl rfl rfl rfl (cw 4 (eQ (G0 q))) (fun wx hS => b0y (b0R (hS.y.own 1 rfl)) (q * 4) _ (e0J _ q _ (j0T n _ _ q hlq))) Tryz.underlying125 rfl (a0G _) ?_
        try simp only [clL]
        refine a0h rfl rfl rfl rfl (cw 4 (eQ x)) (fun wx hS => (hS.y.at 4 rfl).range 0 _ dZl) Tryz.underlying125 rfl (a0G _) ?_
        try simp only [clL]
        iterate 3 (refine a0a rfl rfl apW ?_; try simp only [clL])
        refine a0h rfl rfl rfl rfl (cw 4 (eQ (H0 q))) (fun wx hS => b0y (b0R (hS.y.own 2 rfl)) (q * 4) _ (e0J _ q _ (j0T n _ _ q hlq))) Tryz.underlying125 rfl (a0G _) ?_
        try simp only [clL]
        refine a0h rfl rfl rfl rfl (cw 4 (eQ y)) (fun wx hS => (hS.y.at 5 rfl).range 0 _ dZl) Tryz.underlying125 rfl (a0G _) ?_
        try simp only [clL]
        refine a0q rfl rfl ?_
        go_simp
        refine (g0b (G0 q) x _).mono ?_
        rintro e' w24 ⟨rfl, hf⟩
        have De := Dd.still hf
        refine ⟨De, ?_⟩
        clear hf Dd
        try simp only [clL]
        refine a0q rfl rfl ?_
        go_simp
        refine (g0b (H0 q) y _).mono ?_
        rintro e' w25 ⟨rfl, hf⟩
        have Df := De.still hf
        refine ⟨Df, ?_⟩
        clear hf De
        try simp only [clL]
        refine a0a rfl rfl apW ?_
        try simp only [clL]
        refine a0o rfl rfl ?_
        refine d0H Df.y 1 rfl rfl (k := q * 4) rfl rfl (by rw [a0g]; omega) (a0G _) (a0f _ _) ?_
        intro w26 yy hf
        rw [l0s _ _ _ (by rw [g0Q]; exact hlq), g0R n G1 G0 q hlq _ (A0O HG1.out HB0.out)] at yy
        have Dg := Df.elem 1 rfl yy hf ap2 ap2
        clear yy hf Df
        try simp only [clL]
        refine a0a rfl rfl apW ?_
        try simp only [clL]
        refine a0o rfl rfl ?_
        refine d0H Dg.y 2 rfl rfl (k := q * 4) rfl rfl (by rw [a0g]; omega) (a0G _) (a0f _ _) ?_
        intro w27 yy hf
        rw [l0s _ _ _ (by rw [g0Q]; exact hlq), g0R n H1 H0 q hlq _ (A0O HH1.out HB0.out)] at yy
        have E1 := qH (show CkS Y w base gl gs w27 sn (X2) (P2) [(g7, [.pointer (some ⟨gl, 0, none⟩)], 98), (g10, cw 4 (eQ u), 125), (g11, [.slice (some ⟨bL, pL, none⟩) k cL, .slice (some ⟨bR, pR, none⟩) k cR, .slice aA nA cA, .slice aB nB cB], 26), (g38, [.slice aA nA cA, .slice aB nB cB], 23), (g21, cw 4 (eQ x), 125), (g22, cw 4 (eQ y), 125)] [⟨.slice (some ⟨bv, ov, none⟩) 2 cl, 125, 4, 2, qC [zqB lA, zqB lB]⟩, ⟨.slice (some ⟨bg, og, none⟩) n cg, 125, 4, n, qC (g0P n G1 G0 (q + 1))⟩, ⟨.slice (some ⟨bh, oh, none⟩) n ch, 125, 4, n, qC (g0P n H1 H0 (q + 1))⟩] from Dg.elem 2 rfl yy hf ap2 ap2)
        clear yy hf Dg
        try simp only [clL]
        refine a0e ?_
        refine NoPanic.normal ?_
        go_wp2_with fail
        go_roundw
        case rel => exact ⟨q + 1, by omega, by go_num, E1.out⟩
        case measure => simp [intOf]; omega
      ·obtain rfl : n = q := by omega
       have E1 := qH (show CkS Y w base gl gs wr sn (X2) (P2) [(g7, [.pointer (some ⟨gl, 0, none⟩)], 98), (g10, cw 4 (eQ u), 125), (g11, [.slice (some ⟨bL, pL, none⟩) k cL, .slice (some ⟨bR, pR, none⟩) k cR, .slice aA nA cA, .slice aB nB cB], 26), (g38, [.slice aA nA cA, .slice aB nB cB], 23)] [⟨.slice (some ⟨bv, ov, none⟩) 2 cl, 125, 4, 2, qC [zqB lA, zqB lB]⟩, ⟨.slice (some ⟨bg, og, none⟩) n cg, 125, 4, n, qC (lsZ n G1)⟩, ⟨.slice (some ⟨bh, oh, none⟩) n ch, 125, 4, n, qC (lsZ n H1)⟩] by
        have h := E0.out
        rw [v0o, v0o] at h
        exact h.less (.cons_cons _ (.cons_cons _ (.cons_cons _ (.cons_cons _ (.cons _ (.cons _ .slnil)))))) (.refl _))
       clear E0 hlq
       go_wp2_with fail
       go_roundw
       case rel => exact ⟨r + 1, by omega, by go_num, x0C HZ.out HNM.out HSN.out HXX.out HYY.out HX1.out HX2.out HP1.out HP2.out HS.out HG1.out HH1.out E1.out⟩
       case measure => simp [intOf]; omega
    ·obtain rfl : k = r := by omega
     have D0 := qH (x0A (by rw [List.length_zip]; have := H33.out.1; have := H33.out.2.1; omega) ck)
     clear ck hlt
     have HCL := qH (show (d0e st (lL.zip lR)).length ≤ 6 by rw [f0N, List.length_zip]; have := H33.out.1; have := H33.out.2.1; omega)
     have HBL := qH (show (rdB (lL.zip lR)).length ≤ 12 by rw [m0J, List.length_zip]; have := H33.out.1; omega)
     obtain ⟨cs, hcs⟩ : ∃ z, d0e st (lL.zip lR) = z := ⟨_, rfl⟩
     rw [hcs] at D0 HCL
     obtain ⟨sn, hsn⟩ : ∃ z, i0k st (lL.zip lR) = z := ⟨_, rfl⟩
     rw [hsn] at D0
     obtain ⟨X0, hX0⟩ : ∃ z, XS ++ rdN cs = z := ⟨_, rfl⟩
     rw [hX0] at D0
     obtain ⟨P0, hP0⟩ : ∃ z, LP ++ rdB (lL.zip lR) = z := ⟨_, rfl⟩
     rw [hP0] at D0
     obtain ⟨fG, hfG⟩ : ∃ z, c0a cs = z := ⟨_, rfl⟩
     rw [hfG] at D0
     obtain ⟨fH, hfH⟩ : ∃ z, c0a (b0X cs) = z := ⟨_, rfl⟩
     rw [hfH] at D0
     have HXL := qH (show X0.length ≤ 1012 by rw [← hX0, List.length_append, h0L]; have := HX.out; have := HCL.out; omega)
     have HPL := qH (show P0.length ≤ 1012 by rw [← hP0, List.length_append]; have := HLP.out; have := HBL.out; omega)
     have HNM := qH (And.intro hcs (And.intro hX0 (And.intro hP0 (And.intro hfG hfH))))
     clear hcs hsn hX0 hP0 hfG hfH
     go_wp2_with fail
     refine (s0a n ap1 _).mono ?_
     rintro e' w30 ⟨⟨zl1, zl2⟩, ul, rfl, ho, hp, hf⟩
     have E0 := qH (D0.out.part hf)
     have HPl := qH (g0e (Y := Y) hp)
     have HOFl := qH (h0X (Y := Y) ho)
     obtain ⟨bl, ol, cl, e⟩ := f0M ho ap1
     cases e
     have HRl := qH (show Rd w30 (some ⟨bl, ol, none⟩) n ul by have h := b0R ho; rwa [Nat.mul_one] at h)
     have HOl := qH (show n = 0 ∨ Off _ (some ⟨bl, ol, none⟩) from .inr fun x hx => by cases hx; exact HOFl.out _ rfl)
     clear ho hp HOFl
     have HF1 := qH (D0.out.y.st.fr.trans hf fun _ _ t => t.elim)
     clear hf D0
     obtain ⟨Y1, hY1⟩ : ∃ z, p0l Y wr w30 = z := ⟨_, rfl⟩
     have HY1 := qH (show ∀ j, Y1 j → Y j by rw [← hY1]; exact fun _ h => h.1)
     rw [hY1] at E0 HPl HOl
     clear hY1
     obtain ⟨TL, hTL⟩ : ∃ z, (lsZ n gLQ).map wrQ = z := ⟨_, rfl⟩
     rw [hTL] at HPl
     have HTL := qH (show TL.length = n by rw [← hTL, List.length_map, a0O])
     have HTLe := qH hTL
     clear hTL
     obtain ⟨F1, hF1⟩ : ∃ z : Nat → Zq, (fun i => - (zqB lA * fG i)) = z := ⟨_, rfl⟩
     have HF1e := qH hF1
     clear hF1
     go_wp2_with fail
     go_loopw [163] (fun i wr => ∃ j : Nat, j ≤ n ∧ i = .int .i64 (j : Int) ∧ CkS Y1 w30 base gl gs wr sn (X0 ++ lsZ j F1) (P0 ++ TL.take j) [(g7, [.pointer (some ⟨gl, 0, none⟩)], 98), (g10, cw 4 (eQ u), 125), (g11, [.slice aL k cL, .slice aR k cR, .slice aA nA cA, .slice aB nB cB], 26), (g38, [.slice aA nA cA, .slice aB nB cB], 23)] [⟨.slice (some ⟨bv, ov, none⟩) 2 cl, 125, 4, 2, qC [zqB lA, zqB lB]⟩, ⟨.slice (some ⟨bg, og, none⟩) n cg, 125, 4, n, qC (lsZ n fG)⟩, ⟨.slice (some ⟨bh, oh, none⟩) n ch, 125, 4, n, qC (lsZ n fH)⟩]) (fun i _ => (n - intOf i).toNat)
     case atStart => exact ⟨0, by omega, rfl, by rw [List.take_zero, List.append_nil, A0M, List.append_nil]; exact E0.out⟩
     case round =>
      obtain ⟨j, hj, rfl, ck⟩ := hrel
      clear E0
      have D1 := qH ck
      clear ck
      by_cases hlt : j < n
      ·have hltI : (j : Int) < (n : Int) := by omega
       obtain ⟨m, hm⟩ : ∃ m, TL[j]? = some m := ⟨_, List.getElem?_eq_getElem (by have := HTL.out; omega)⟩
       obtain ⟨uj, hu, hpu⟩ := PartsO.get j m HPl.out hm
       obtain ⟨a1, n1, c1, rfl⟩ := PartO.sl hpu
       have HPU := qH hpu
       have HTK := qH (l0u TL j m hm)
       have HLX := qH (show (X0 ++ lsZ j F1).length ≤ 100000 by rw [List.length_append, a0O]; have := HXL.out; omega)
       have HLQ := qH (show (P0 ++ TL.take j).length ≤ 100000 by rw [List.length_append, List.length_take]; have := HPL.out; omega)
       have hc := c0S (HRl.out.keepY D1.out.y.st.fr HOl.out) j _ hu
       clear hm hu hpu
       go_wp2_with fail
       refine wp_region_noPanic ?_
       refine a0d (fun wz => CkS Y1 w30 base gl gs wz sn (X0 ++ lsZ j F1) (P0 ++ TL.take j) [(g7, [.pointer (some ⟨gl, 0, none⟩)], 98), (g10, cw 4 (eQ u), 125), (g11, [.slice aL k cL, .slice aR k cR, .slice aA nA cA, .slice aB nB cB], 26), (g38, [.slice aA nA cA, .slice aB nB cB], 23)] [⟨.slice (some ⟨bv, ov, none⟩) 2 cl, 125, 4, 2, qC [zqB lA, zqB lB]⟩, ⟨.slice (some ⟨bg, og, none⟩) n cg, 125, 4, n, qC (lsZ n fG)⟩, ⟨.slice (some ⟨bh, oh, none⟩) n ch, 125, 4, n, qC (lsZ n fH)⟩]) 11 (.w 0 (.w 1 (.w 2 (.t 3 (.w 4 (.w 5 (.w 6 (.t 7 (.w 10 (.r 8 (.r 9 (.m 11 .nil)))))))))))) ap0 ap0 (D1.out.drew) (fun _ _ _ _ _ h => h) ?_
       have Da := D1.out.drew
       clear D1 hc
       iterate 3 (refine a0a rfl rfl apW ?_; try simp only [clL])
       refine a0h rfl rfl rfl rfl (cw 4 (eQ (zqB lA))) (fun wx hS => b0y (b0R (hS.y.own 0 rfl)) 0 _ (e0J _ 0 _ rfl)) Tryz.underlying125 rfl (a0G _) ?_
       try simp only [clL]
       iterate 3 (refine a0a rfl rfl apW ?_; try simp only [clL])
       refine a0h rfl rfl rfl rfl (cw 4 (eQ (fG j))) (fun wx hS => b0y (b0R (hS.y.own 1 rfl)) (j * 4) _ (e0J _ j _ (g0a n fG j hlt))) Tryz.underlying125 rfl (a0G _) ?_
       try simp only [clL]
       refine a0a rfl rfl apW ?_
       try simp only [clL]
       refine a0q rfl rfl ?_
       go_simp
       refine (g0b (zqB lA) (fG j) _).mono ?_
       rintro e' wk0 ⟨rfl, hf⟩
       have Db := Da.still hf
       refine ⟨Db, ?_⟩
       clear hf Da
       try simp only [clL]
       refine a0q rfl rfl ?_
       go_simp
       refine (w0Y (zqB lA * fG j) _).mono ?_
       rintro e' wk1 ⟨rfl, hf⟩
       have Dc := Db.still hf
       refine ⟨Dc, ?_⟩
       clear hf Db
       try simp only [clL]
       refine a0o rfl rfl ?_
       go_simp
       refine (l0o Dc (- (zqB lA * fG j)) _ m (PartO.keep HPU.out Dc.y.st.fr fun _ t => t) HLX.out HLQ.out).mono ?_
       rintro e' wl ⟨rfl, De⟩
       have D2 := qH De
       clear De Dc
       try simp only []
       refine a0e ?_
       refine NoPanic.normal ?_
       go_wp2_with fail
       go_roundw
       case rel => exact ⟨j + 1, by omega, by go_num, by rw [HTK.out, e0D, ← List.append_assoc, ← List.append_assoc, ← HF1e.out]; rw [← HF1e.out] at D2; exact D2.out⟩
       case measure => simp [intOf]; omega
      ·obtain rfl : n = j := by omega
       have D2 := qH (show CkS Y1 w30 base gl gs wr sn (X0 ++ lsZ n F1) (P0 ++ TL) [(g7, [.pointer (some ⟨gl, 0, none⟩)], 98), (g10, cw 4 (eQ u), 125), (g11, [.slice aL k cL, .slice aR k cR, .slice aA nA cA, .slice aB nB cB], 26), (g38, [.slice aA nA cA, .slice aB nB cB], 23)] [⟨.slice (some ⟨bv, ov, none⟩) 2 cl, 125, 4, 2, qC [zqB lA, zqB lB]⟩, ⟨.slice (some ⟨bg, og, none⟩) n cg, 125, 4, n, qC (lsZ n fG)⟩, ⟨.slice (some ⟨bh, oh, none⟩) n ch, 125, 4, n, qC (lsZ n fH)⟩] by
        have h := D1.out
        rw [List.take_of_length_le (by have := HTL.out; omega)] at h
        exact h)
       clear hlt D1
       obtain ⟨X1, hX1⟩ : ∃ z, X0 ++ lsZ n F1 = z := ⟨_, rfl⟩
       obtain ⟨P1, hP1⟩ : ∃ z, P0 ++ TL = z := ⟨_, rfl⟩
       rw [hX1, hP1] at D2
       replace HXL := qH (show X1.length ≤ 1100 by rw [← hX1, List.length_append, a0O]; have := HXL.out; omega)
       replace HPL := qH (show P1.length ≤ 1100 by rw [← hP1, List.length_append]; have := HPL.out; have := HTL.out; omega)
       have HX1 := qH hX1
       have HP1 := qH hP1
       clear hX1 hP1
       go_wp2_with fail
       refine (n0S n ap1 _).mono ?_
       rintro e' w40 ⟨⟨zl1, zl2⟩, ur, rfl, ho, hp, hf⟩
       have E1 := qH (D2.out.part hf)
       have HPr := qH (g0e (Y := Y1) hp)
       have HOFr := qH (h0X (Y := Y1) ho)
       obtain ⟨br, or, cr, e⟩ := f0M ho ap1
       cases e
       have HRr := qH (show Rd w40 (some ⟨br, or, none⟩) n ur by have h := b0R ho; rwa [Nat.mul_one] at h)
       have HOr := qH (show n = 0 ∨ Off _ (some ⟨br, or, none⟩) from .inr fun x hx => by cases hx; exact HOFr.out _ rfl)
       clear ho hp HOFr
       have HF2 := qH ((HF1.out.trans D2.out.y.st.fr fun j _ hj => HY1.out j hj).trans hf fun _ _ t => t.elim)
       clear hf D2
       obtain ⟨Y2, hY2⟩ : ∃ z, p0l Y1 wr w40 = z := ⟨_, rfl⟩
       have HY2 := qH (show ∀ j, Y2 j → Y j by rw [← hY2]; exact fun j h => HY1.out j h.1)
       rw [hY2] at E1 HPr HOr
       clear hY2
       have OO2 := qH (show n * 4 = 0 ∨ Off Y2 ao from .inr fun x hx hy => OO.out x hx (HY2.out _ hy))
       have HOS := qH (HO.out.keepY HF2.out (.inr OO.out))
       obtain ⟨TR, hTR⟩ : ∃ z, (lsZ n gRQ).map wrQ = z := ⟨_, rfl⟩
       rw [hTR] at HPr
       have HTR := qH (show TR.length = n by rw [← hTR, List.length_map, a0O])
       have HTRe := qH hTR
       clear hTR
       obtain ⟨F2, hF2⟩ : ∃ z : Nat → Zq, (fun i => - (zqB lB * fH i * os.getD i 0)) = z := ⟨_, rfl⟩
       have HF2e := qH hF2
       clear hF2
       go_wp2_with fail
       go_loopw [184] (fun i wr => ∃ j : Nat, j ≤ n ∧ i = .int .i64 (j : Int) ∧ CkS Y2 w40 base gl gs wr sn (X1 ++ lsZ j F2) (P1 ++ TR.take j) [(g7, [.pointer (some ⟨gl, 0, none⟩)], 98), (g10, cw 4 (eQ u), 125), (g11, [.slice aL k cL, .slice aR k cR, .slice aA nA cA, .slice aB nB cB], 26), (g38, [.slice aA nA cA, .slice aB nB cB], 23)] [⟨.slice (some ⟨bv, ov, none⟩) 2 cl, 125, 4, 2, qC [zqB lA, zqB lB]⟩, ⟨.slice (some ⟨bg, og, none⟩) n cg, 125, 4, n, qC (lsZ n fG)⟩, ⟨.slice (some ⟨bh, oh, none⟩) n ch, 125, 4, n, qC (lsZ n fH)⟩]) (fun i _ => (n - intOf i).toNat)
       case atStart => exact ⟨0, by omega, rfl, by rw [List.take_zero, List.append_nil, A0M, List.append_nil]; exact E1.out⟩
       case round =>
        obtain ⟨j, hj, rfl, ck⟩ := hrel
        clear E1
        have D1 := qH ck
        clear ck
        by_cases hlt : j < n
        ·have hltI : (j : Int) < (n : Int) := by omega
         obtain ⟨m, hm⟩ : ∃ m, TR[j]? = some m := ⟨_, List.getElem?_eq_getElem (by have := HTR.out; omega)⟩
         obtain ⟨uj, hu, hpu⟩ := PartsO.get j m HPr.out hm
         obtain ⟨a1, n1, c1, rfl⟩ := PartO.sl hpu
         have HPU := qH hpu
         have HTK := qH (l0u TR j m hm)
         have HLX := qH (show (X1 ++ lsZ j F2).length ≤ 100000 by rw [List.length_append, a0O]; have := HXL.out; omega)
         have HLQ := qH (show (P1 ++ TR.take j).length ≤ 100000 by rw [List.length_append, List.length_take]; have := HPL.out; omega)
         have hc := c0S (HRr.out.keepY D1.out.y.st.fr HOr.out) j _ hu
         clear hm hu hpu
         have HO1 := HOS.out
         obtain ⟨bo, po, rfl, -⟩ := HO1.at ap1
         clear HO1
         go_wp2_with fail
         refine wp_region_noPanic ?_
         refine a0d (fun wz => CkS Y2 w40 base gl gs wz sn (X1 ++ lsZ j F2) (P1 ++ TR.take j) [(g7, [.pointer (some ⟨gl, 0, none⟩)], 98), (g10, cw 4 (eQ u), 125), (g11, [.slice aL k cL, .slice aR k cR, .slice aA nA cA, .slice aB nB cB], 26), (g38, [.slice aA nA cA, .slice aB nB cB], 23)] [⟨.slice (some ⟨bv, ov, none⟩) 2 cl, 125, 4, 2, qC [zqB lA, zqB lB]⟩, ⟨.slice (some ⟨bg, og, none⟩) n cg, 125, 4, n, qC (lsZ n fG)⟩, ⟨.slice (some ⟨bh, oh, none⟩) n ch, 125, 4, n, qC (lsZ n fH)⟩]) 16 (.w 0 (.w 1 (.w 2 (.t 3 (.w 4 (.w 5 (.w 6 (.t 7 (.w 9 (.w 10 (.w 11 (.t 12 (.w 15 (.r 8 (.r 13 (.r 14 (.m 16 .nil))))))))))))))))) ap0 ap0 (D1.out.drew) (fun _ _ _ _ _ h => h) ?_
         have Da := D1.out.drew
         clear D1 hc
         iterate 3 (refine a0a rfl rfl apW ?_; try simp only [clL])
         refine a0h rfl rfl rfl rfl (cw 4 (eQ (zqB lB))) (fun wx hS => b0y (b0R (hS.y.own 0 rfl)) 4 _ (e0J _ 1 _ rfl)) Tryz.underlying125 rfl (a0G _) ?_
         try simp only [clL]
         iterate 3 (refine a0a rfl rfl apW ?_; try simp only [clL])
         refine a0h rfl rfl rfl rfl (cw 4 (eQ (fH j))) (fun wx hS => b0y (b0R (hS.y.own 2 rfl)) (j * 4) _ (e0J _ j _ (g0a n fH j hlt))) Tryz.underlying125 rfl (a0G _) ?_
         try simp only [clL]
         iterate 3 (refine a0a rfl rfl apW ?_; try simp only [clL])
         refine a0h rfl rfl rfl rfl (cw 4 (eQ (os.getD j 0))) (fun wx hS => b0y (HOS.out.keepY hS.y.st.fr OO2.out) (j * 4) _ (e0J os j _ (z0K os j (by rw [HLO.out]; exact hlt)))) Tryz.underlying125 rfl (a0G _) ?_
         try simp only [clL]
         refine a0a rfl rfl apW ?_
         try simp only [clL]
         refine a0q rfl rfl ?_
         go_simp
         refine (g0b (zqB lB) (fH j) _).mono ?_
         rintro e' wk0 ⟨rfl, hf⟩
         have Db := Da.still hf
         refine ⟨Db, ?_⟩
         clear hf Da
         try simp only [clL]
         refine a0q rfl rfl ?_
         go_simp
         refine (g0b (zqB lB * fH j) (os.getD j 0) _).mono ?_
         rintro e' wk1 ⟨rfl, hf⟩
         have Dc := Db.still hf
         refine ⟨Dc, ?_⟩
         clear hf Db
         try simp only [clL]
         refine a0q rfl rfl ?_
         go_simp
         refine (w0Y (zqB lB * fH j * os.getD j 0) _).mono ?_
         rintro e' wk2 ⟨rfl, hf⟩
         have Dd := Dc.still hf
         refine ⟨Dd, ?_⟩
         clear hf Dc
         try simp only [clL]
         refine a0o rfl rfl ?_
         go_simp
         refine (l0o Dd (- (zqB lB * fH j * os.getD j 0)) _ m (PartO.keep HPU.out Dd.y.st.fr fun _ t => t) HLX.out HLQ.out).mono ?_
         rintro e' wl ⟨rfl, De⟩
         have D2 := qH De
         clear De Dd
         try simp only []
         refine a0e ?_
         refine NoPanic.normal ?_
         go_wp2_with fail
         go_roundw
         case rel => exact ⟨j + 1, by omega, by go_num, by rw [HTK.out, e0D, ← List.append_assoc, ← List.append_assoc, ← HF2e.out]; rw [← HF2e.out] at D2; exact D2.out⟩
         case measure => simp [intOf]; omega
        ·obtain rfl : n = j := by omega
         have D2 := qH (show CkS Y2 w40 base gl gs wr sn (X1 ++ lsZ n F2) (P1 ++ TR) [(g7, [.pointer (some ⟨gl, 0, none⟩)], 98), (g10, cw 4 (eQ u), 125), (g11, [.slice aL k cL, .slice aR k cR, .slice aA nA cA, .slice aB nB cB], 26), (g38, [.slice aA nA cA, .slice aB nB cB], 23)] [⟨.slice (some ⟨bv, ov, none⟩) 2 cl, 125, 4, 2, qC [zqB lA, zqB lB]⟩, ⟨.slice (some ⟨bg, og, none⟩) n cg, 125, 4, n, qC (lsZ n fG)⟩, ⟨.slice (some ⟨bh, oh, none⟩) n ch, 125, 4, n, qC (lsZ n fH)⟩] by
          have h := D1.out
          rw [List.take_of_length_le (by have := HTR.out; omega)] at h
          exact h)
         clear hlt D1
         obtain ⟨X2, hX2⟩ : ∃ z, X1 ++ lsZ n F2 = z := ⟨_, rfl⟩
         obtain ⟨P2, hP2⟩ : ∃ z, P1 ++ TR = z := ⟨_, rfl⟩
         rw [hX2, hP2] at D2
         replace HXL := qH (show X2.length ≤ 1200 by rw [← hX2, List.length_append, a0O]; have := HXL.out; omega)
         replace HPL := qH (show P2.length ≤ 1200 by rw [← hP2, List.length_append]; have := HPL.out; have := HTR.out; omega)
         have HX2 := qH hX2
         have HP2 := qH hP2
         have HF3 := qH (HF2.out.trans D2.out.y.st.fr fun j _ hj => HY2.out j hj)
         clear hX2 hP2
         have HMD := qH (show 33 = (wrQ f0H).length from (d0U _).symm)
         go_wp2_with fail
         refine wp_region_noPanic ?_
         refine a0d (fun wz => CkS Y2 w40 base gl gs wz sn (X2) (P2) [(g7, [.pointer (some ⟨gl, 0, none⟩)], 98), (g10, cw 4 (eQ u), 125), (g11, [.slice aL k cL, .slice aR k cR, .slice aA nA cA, .slice aB nB cB], 26), (g38, [.slice aA nA cA, .slice aB nB cB], 23)] [⟨.slice (some ⟨bv, ov, none⟩) 2 cl, 125, 4, 2, qC [zqB lA, zqB lB]⟩, ⟨.slice (some ⟨bg, og, none⟩) n cg, 125, 4, n, qC (lsZ n fG)⟩, ⟨.slice (some ⟨bh, oh, none⟩) n ch, 125, 4, n, qC (lsZ n fH)⟩] ∧ Fr Y w wz) 11 (.w 0 (.w 1 (.w 2 (.t 3 (.w 4 (.w 5 (.t 6 (.t 8 (.r 7 (.r 9 (.r 10 (.m 11 (.m 12 .nil))))))))))))) ap0 ap0 (⟨D2.out.drew, HF3.out.drew⟩) (fun _ _ _ _ _ h => h) ?_
         have Da : _ ∧ _ := ⟨D2.out.drew, HF3.out.drew⟩
         clear D2 HF3
         iterate 3 (refine a0a rfl rfl apW ?_; try simp only [clL])
         refine a0h rfl rfl rfl rfl (cw 4 (eQ (zqB lA))) (fun wx hS => b0y (b0R (hS.1.y.own 0 rfl)) 0 _ (e0J _ 0 _ rfl)) Tryz.underlying125 rfl (a0G _) ?_
         try simp only [clL]
         iterate 2 (refine a0a rfl rfl apW ?_; try simp only [clL])
         refine a0h rfl rfl rfl rfl (cw 4 (eQ (zqB lB))) (fun wx hS => b0y (b0R (hS.1.y.own 0 rfl)) 4 _ (e0J _ 1 _ rfl)) Tryz.underlying125 rfl (a0G _) ?_
         try simp only [clL]
         refine a0h rfl rfl rfl rfl (cw 4 (eQ u)) (fun wx hS => (hS.1.y.at 1 rfl).range 0 _ dZl) Tryz.underlying125 rfl (a0G _) ?_
         try simp only [clL]
         refine a0q rfl rfl ?_
         go_simp
         refine (g0b (zqB lA) (zqB lB) _).mono ?_
         rintro e' wk0 ⟨rfl, hf⟩
         have Db := And.intro (Da.1.still hf) (Da.2.trans hf fun _ _ t => t.elim)
         refine ⟨Db, ?_⟩
         clear hf Da
         try simp only [clL]
         refine a0q rfl rfl ?_
         go_simp
         refine (g0b (zqB lA * zqB lB) u _).mono ?_
         rintro e' wk1 ⟨rfl, hf⟩
         have Dc := And.intro (Db.1.still hf) (Db.2.trans hf fun _ _ t => t.elim)
         refine ⟨Dc, ?_⟩
         clear hf Db
         try simp only [clL]
         refine a0q rfl rfl ?_
         go_simp
         refine (w0Y (zqB lA * zqB lB * u) _).mono ?_
         rintro e' wk2 ⟨rfl, hf⟩
         have Dd := And.intro (Dc.1.still hf) (Dc.2.trans hf fun _ _ t => t.elim)
         refine ⟨Dd, ?_⟩
         clear hf Dc
         try simp only [clL]
         refine a0o rfl rfl ?_
         go_simp
         refine (n0T _).mono ?_
         rintro e' wm ⟨⟨zm1, zm2⟩, rfl, ho, hf⟩
         have De := Dd.1.part hf
         have hfm := Dd.2.trans hf fun _ _ t => t.elim
         have hpm := l0t (Y := Y2) ho HMD.out
         clear ho hf Dd
         try simp only []
         refine a0o rfl rfl ?_
         go_simp
         refine (l0o De (- (zqB lA * zqB lB * u)) _ _ hpm (by have := HXL.out; omega) (by have := HPL.out; omega)).mono ?_
         rintro e' wl ⟨rfl, Df⟩
         have D3 := qH (z0J Df HY2.out hfm)
         clear Df De hpm hfm
         try simp only []
         refine a0e ?_
         refine NoPanic.normal ?_
         go_wp2_with fail
         go_ret
         have D4 := D3.out
         rw [u0l HNM.out.2.1 HNM.out.2.2.2.1 HNM.out.2.2.2.2 HF1e.out HF2e.out HX1.out HX2.out] at D4
         obtain ⟨⟨X', Y', h1, h2⟩, h3⟩ := D4
         refine ⟨rfl, ⟨X', Y', ?_, h2⟩, h3⟩
         rw [HNM.out.1, HTLe.out, HTRe.out]
         have e : P2 ++ [wrQ f0H] = LP ++ (rdB (lL.zip lR) ++ (TL ++ (TR ++ [wrQ f0H]))) := by
          rw [← HP2.out, ← HP1.out, ← HNM.out.2.2.1]
          simp only [List.append_assoc]
         rw [← e]
         exact h1
end Go.Proofs.YtpfimiajoifjaaaGreat
namespace Go.Mv
open Go.RowKit
theorem m0K {P : Program} {Q : Exit → Act → World → Prop} {S : World → Prop} {l : List Oper} {i : Nat} {o : Oper} {a : Act} {w : World} {s : Pl} (ho : l[i]? = some o) (hg : Region.wanted o (yielded l.toArray a.tmps) = false) (h : b0j P l.toArray Q S s (a.put o.dst undef) w) : b0j P l.toArray Q S (.m i s) a w := by
 have ho' : l.toArray[i]? = some o := by simpa using ho
 show wpOp _ _ _ _ _ _ _
 unfold wpOp
 simp only [ho']
 rw [if_neg (by rw [hg]; decide)]
 exact h
end Go.Mv
namespace Go.Proofs.YtpfimiajoifjaaaGreat
section
open Go.RowKit Go.Mv Mvp Mvq
theorem l0v {w1 w2 : World} {X Y : Nat → Prop} {g : Nat} {xs : List Zq} {lp : List (List UInt8)} (h : SumA w1 X Y g xs lp) (hf : Fr Nob w1 w2) : ∃ X', SumA w2 X' (p0l Y w1 w2) g xs lp ∧ ∀ j, X' j → (X j ∧ j < w1.heap.size) ∨ w2.heap.size ≤ j := by
 have r := h.rebase (S := Nob) hf fun _ t => t.elim
 refine ⟨_, r.lessY (fun j hj => ?_) (fun j hj => hj.1), fun j hj => hj⟩
 rcases hj with hj | hj
 ·exact ⟨h.sub j hj.1, .inl hj.2⟩
 ·exact ⟨h.sub j (h.up j (Nat.le_trans hf.size hj)), .inr hj⟩
theorem n0Y {Y : Nat → Prop} {w1 w2 : World} {j : Nat} (h : p0l Y w1 w2 j) : Y j := h.1
theorem a0Z {w w' : World} {g : Nat} {L : List Value} {T : TypeId} (h : Has w g L T) (hf : Fr Nob w w') : Has w' g L T := h.keep hf id
theorem z0L {n : Nat} {a b u : Zq} {cs : List (Zq × Zq)} {ow : Nat → Zq} {z : List (List UInt8 × List UInt8)} {lp m : List UInt8} {f g : Nat → Zq} (hc : cs.length = z.length) : ((([] : List Zq) ++ [1]) ++ ckN n a b u cs ow).length = (([] ++ [lp]) ++ (rdB z ++ ((lsZ n f).map wrQ ++ ((lsZ n g).map wrQ ++ [m])))).length := by
 unfold ckN
 simp only [List.length_append, a0O, h0L, m0J, List.length_singleton, List.length_nil, List.length_map, hc]
theorem A0C {n : Nat} {a b u : Zq} {cs : List (Zq × Zq)} {ow : Nat → Zq} (hc : cs.length ≤ 6) (hn : n ≤ 64) : ((([] : List Zq) ++ [1]) ++ ckN n a b u cs ow).length ≤ 512 := by
 unfold ckN
 simp only [List.length_append, a0O, h0L, List.length_singleton, List.length_nil]
 omega
theorem A0D {n : Nat} {lL lR : List (List UInt8)} {lp : List UInt8} {f g : Nat → Zq} {m : Zq} (h0 : b0s lp = true) (h1 : ∀ l ∈ lL, b0s l = true) (h2 : ∀ l ∈ lR, b0s l = true) : ∀ l ∈ ([] ++ [lp]) ++ (rdB (lL.zip lR) ++ ((lsZ n f).map wrQ ++ ((lsZ n g).map wrQ ++ [wrQ m]))), b0s l = true := by
 intro l hl
 simp only [List.nil_append, List.mem_append, List.mem_singleton, List.mem_map] at hl
 rcases hl with rfl | hl | ⟨x, -, rfl⟩ | ⟨x, -, rfl⟩ | rfl
 ·exact h0
 ·unfold rdB at hl
  obtain ⟨p, hp, hl⟩ := List.mem_flatMap.1 hl
  simp only [List.mem_cons, List.not_mem_nil, or_false] at hl
  have hz := List.of_mem_zip (a := p.1) (b := p.2) hp
  rcases hl with rfl | rfl
  ·exact h1 _ hz.1
  ·exact h2 _ hz.2
 ·exact f0F x
 ·exact f0F x
 ·exact f0F m
attribute [local irreducible] a0v lw mix cw b0e b0f b0a beN b0l b0b a0z a0F elN mdL b0m rtV b0J c0m b0s c0Q a0D c0z e0H e0I a0R a0T b0c toB a0u a0w a0Y a0E b0Z a0S a0x c0n b0t c0G e0U wrQ qC eQ bZ a0I zqB gLQ gRQ f0H b0d d0w lsZ e0e d0W e0d b0D i0k d0e rdB rdN e0N b0X g0P chP ckN prodL p0l
theorem h0Y (lab : ByteArray) (_hlab : lab.size ≤ 1000000) (vp : Value) (lp : List UInt8) (aL : Option Addr) (nL cL : Nat) (uL : List Value) (lL : List (List UInt8)) (aR : Option Addr) (nR cR : Nat) (uR : List Value) (lR : List (List UInt8)) (aA : Option Addr) (nA cA : Nat) (lA : List UInt8) (aB : Option Addr) (nB cB : Nat) (lB : List UInt8) (w : World) (hp : BPart w vp lp) (_hL : Rd w aL nL uL) (_pL : BParts w uL lL) (_hR : Rd w aR nR uR) (_pR : BParts w uR lR) (_pA : BPart w (.slice aA nA cA) lA) (_pB : BPart w (.slice aB nB cB) lB) (n : Int) (hn : ¬ ∃ k, k < 7 ∧ n = ((2 ^ k : Nat) : Int)) : Calls Tryz.prog 19 #[.string lab, .int .i64 n, vp, .agg #[.slice aL nL cL, .slice aR nR cR, .slice aA nA cA, .slice aB nB cB]] w fun e w' => e = .returned (.bool false) ∧ Fr Nob w w' := by
 have HFN := qH (x0v n hn)
 clear hn
 obtain ⟨ap, np, cp, rfl, -⟩ := hp
 go_enter Tryz.func19, Tryz.ntmps19
 go_wp2_with (with_reducible refine wSk 7 ?_)
 refine b0N rfl (d0X (Sy.start Nob w) rfl rfl [.slice aL nL cL, .slice aR nR cR, .slice aA nA cA, .slice aB nB cB] rfl ?_)
 intro g7 w1 yy hf hg
 have HG7 := qH (yy.at 0 rfl)
 have HF1 := qH hf
 clear yy hf hg
 go_wp2_with fail
 refine (HFN.out _).mono ?_
 rintro e' w2 ⟨rfl, rfl⟩
 go_wp2_with fail
 go_ret
 exact ⟨rfl, HF1.out⟩
theorem h0Z (lab : ByteArray) (hlab : lab.size ≤ 1000000) (vp : Value) (lp : List UInt8) (aL : Option Addr) (nL cL : Nat) (uL : List Value) (lL : List (List UInt8)) (aR : Option Addr) (nR cR : Nat) (uR : List Value) (lR : List (List UInt8)) (aA : Option Addr) (nA cA : Nat) (lA : List UInt8) (aB : Option Addr) (nB cB : Nat) (lB : List UInt8) (w : World) (hp : BPart w vp lp) (hL : Rd w aL nL uL) (pL : BParts w uL lL) (hR : Rd w aR nR uR) (pR : BParts w uR lR) (pA : BPart w (.slice aA nA cA) lA) (pB : BPart w (.slice aB nB cB) lB) (k : Nat) (hk : k ≤ 6) (hrd : b0s lp = true) (hbad : (a0D mQ [lA, lB] && e0e k lL lR) = false) : Calls Tryz.prog 19 #[.string lab, .int .i64 ((2 ^ k : Nat) : Int), vp, .agg #[.slice aL nL cL, .slice aR nR cR, .slice aA nA cA, .slice aB nB cB]] w fun e w' => e = .returned (.bool false) ∧ Fr Nob w w' := by
 have HRD := qH hrd
 have HBAD := qH hbad
 clear hrd hbad
 have HFT := qH (f0J k hk)
 obtain ⟨n, hn⟩ : ∃ n, 2 ^ k = n := ⟨_, rfl⟩
 have HN := qH hn
 rw [hn] at HFT ⊢
 have HP := qH hp
 obtain ⟨ap, np, cp, rfl, -⟩ := HP.out
 obtain ⟨h0, h64⟩ := d0x k hk
 rw [hn] at h0 h64
 have HL := qH hL
 have PL := qH pL
 have HR := qH hR
 have PR := qH pR
 have PA := qH pA
 have PB := qH pB
 clear hp hL pL hR pR pA pB hn
 go_enter Tryz.func19, Tryz.ntmps19
 go_wp2_with (with_reducible refine wSk 7 ?_)
 refine b0N rfl (d0X (Sy.start Nob w) rfl rfl [.slice aL nL cL, .slice aR nR cR, .slice aA nA cA, .slice aB nB cB] rfl ?_)
 intro g7 w1 yy hf hg
 have HG7 := qH (yy.at 0 rfl)
 have HF1 := qH hf
 clear yy hf hg
 go_wp2_with fail
 refine (HFT.out _).mono ?_
 rintro e' w2 ⟨rfl, rfl⟩
 go_wp2_with fail
 refine (g0I _ lp _ (HP.out.still HF1.out)).mono ?_
 rintro e' w2 ⟨rfl, hf⟩
 rw [HRD.out]
 have HF2 := qH (HF1.out.trans hf fun _ _ t => t.elim)
 have HF12 := qH (Nat.lt_of_lt_of_le HG7.out.lt hf.size)
 replace HG7 := qH (a0Z HG7.out hf)
 clear hf HF1
 go_wp2_with fail
 generalize hw3 : w2.alloc (Obj.cells #[Value.slice none 0 0, Value.slice none 0 0] 121) = w3
 have hf : Fr Nob w2 w3 := by rw [← hw3]; exact (Fr.refl Nob w2).alloc _
 have hgs : Has w3 w2.heap.size [.slice none 0 0, .slice none 0 0] 121 := by rw [← hw3]; exact Has.new w2 _ _
 have hs0 := SumA.zero hgs (Nat.le_refl _) hf.size
 clear hw3
 have HB := qH (Nat.le_trans HF2.out.size (Nat.le_refl _))
 have HG := qH (show ¬ w2.heap.size ≤ g7 by have := HF12.out; omega)
 have HF3 := qH (HF2.out.trans hf fun _ _ t => t.elim)
 replace HG7 := qH (a0Z HG7.out hf)
 obtain ⟨Y, hY⟩ : ∃ z : Nat → Prop, (fun j => w2.heap.size ≤ j) = z := ⟨_, rfl⟩
 rw [hY] at hs0
 have HY := qH (show ∀ j, Y j → w.heap.size ≤ j by rw [← hY]; exact fun j hj => Nat.le_trans HB.out hj)
 have HY7 := qH (show ¬ Y g7 by rw [← hY]; exact HG.out)
 obtain ⟨gs, hgz⟩ : ∃ z, w2.heap.size = z := ⟨_, rfl⟩
 rw [hgz] at hs0 ⊢
 have HS0 := qH hs0
 clear hs0 hY hf hgs hgz HG HB HF2 HF12
 refine (d0d _).mono ?_
 rintro e' w4 ⟨rfl, hf⟩
 have HS1 := qH (HS0.out.still hf)
 have HF4 := qH (HF3.out.trans hf fun _ _ t => t.elim)
 replace HG7 := qH (a0Z HG7.out hf)
 clear hf HS0 HF3
 go_wp2_with fail
 refine (r0P Y Y gs [] [] 1 _ lp _ HS1.out (PartO.keep (PartO.old HP.out HY.out) HF4.out fun _ t => t.elim) ap2 ap2).mono ?_
 rintro e' w5 ⟨rfl, hs, hf⟩
 have HS2 := qH hs
 have HF5 := qH (HF4.out.trans hf fun j hj t => absurd (HY.out j t) ap1)
 replace HG7 := qH (Go.Mv.Has.keep HG7.out hf HY7.out)
 clear hs hf HS1 HF4
 go_wp2_with fail
 refine (d0d _).mono ?_
 rintro e' w6 ⟨rfl, hf⟩
 have HS3 := qH (HS2.out.still hf)
 have HF6 := qH (HF5.out.trans hf fun _ _ t => t.elim)
 replace HG7 := qH (a0Z HG7.out hf)
 clear hf HS2 HF5
 go_wp2_with fail
 refine (n0O 1 n ap1 _).mono ?_
 rintro e' w7 ⟨vo, rfl, ho, hf⟩
 obtain ⟨X7, hs7, -⟩ := l0v HS3.out hf
 have HS7 := qH hs7
 have HF7 := qH (HF6.out.trans hf fun _ _ t => t.elim)
 replace HG7 := qH (a0Z HG7.out hf)
 have HOY := qH (h0X (Y := Y) ho)
 obtain ⟨bo, oo, co, rfl⟩ := f0M ho ap1
 have HO := qH (b0R ho)
 obtain ⟨Y1, hY1⟩ : ∃ z, p0l Y w6 w7 = z := ⟨_, rfl⟩
 rw [hY1] at HS7 HOY
 have HY1 := qH (show ∀ j, Y1 j → w.heap.size ≤ j by rw [← hY1]; exact fun j hj => HY.out j (n0Y hj))
 clear hs7 ho hf hY1 HS3 HF6
 obtain ⟨os, hos⟩ : ∃ z, lsZ n (pwZ 1) = z := ⟨_, rfl⟩
 rw [hos] at HO
 have HOS := qH hos
 have HOL := qH (show os.length = n by rw [← hos, a0O])
 clear hos
 have HOFL := qH (show nL = 0 ∨ Off Y1 aL from (Nat.eq_zero_or_pos nL).imp id fun h => Off.old HL.out h HY1.out)
 have HOFR := qH (show nR = 0 ∨ Off Y1 aR from (Nat.eq_zero_or_pos nR).imp id fun h => Off.old HR.out h HY1.out)
 have HOO := qH (show Off Y1 (some ⟨bo, oo, none⟩) from fun x hx => by cases hx; exact HOY.out _ rfl)
 have HYG := qH (show ∀ j, w7.heap.size ≤ j → Y1 j from fun j hj => HS7.out.sub j (HS7.out.up j hj))
 have HPI := qH (PartO.part (PartO.old HP.out HY1.out) (g0L HRD.out))
 go_wp2_with fail
 refine wp_region_noPanic ?_
 refine b0q (fun wz => SumA wz X7 Y1 gs ([] ++ [1]) ([] ++ [lp]) ∧ Has wz g7 [.slice aL nL cL, .slice aR nR cR, .slice aA nA cA, .slice aB nB cB] 26 ∧ Fr Nob w wz ∧ Fr Nob w7 wz) 8 (.w 0 (.w 1 (.w 2 (.w 4 (.w 5 (.t 7 (.r 3 (.r 6 (.m 8 (.w 9 (.w 10 (.m 11 (.w 12 (.w 13 .nil)))))))))))))) ap0 ap0 (⟨HS7.out.still (Fr.refl Nob _).drew, a0Z HG7.out (Fr.refl Nob _).drew, HF7.out.drew, (Fr.refl Nob w7).drew⟩) (fun _ _ _ _ _ h => h) ?_
 have Da : _ ∧ _ ∧ _ ∧ _ := ⟨HS7.out.still (Fr.refl Nob _).drew, a0Z HG7.out (Fr.refl Nob _).drew, HF7.out.drew, (Fr.refl Nob w7).drew⟩
 clear HS7 HG7 HF7
 iterate 5 (refine a0p rfl rfl apW ?_; try simp only [clL])
 refine c0e rfl rfl rfl rfl ([.slice aL nL cL, .slice aR nR cR, .slice aA nA cA, .slice aB nB cB]) (fun wx hS => hS.2.1.range 0 _ (by rfl)) Tryz.underlying26 rfl (c0j _ _ _ _) ?_
 try simp only [clL]
 refine e0r rfl rfl ?_
 go_simp
 refine (h0V lab _ lp _ hlab (HPI.out.still Da.2.2.1)).mono ?_
 rintro e' w8 ⟨gl, rfl, hgl, hl, hf⟩
 have Db := And.intro (Da.1.still hf) (And.intro (a0Z Da.2.1 hf) (And.intro (Da.2.2.1.trans hf fun _ _ t => t.elim) (Da.2.2.2.trans hf fun _ _ t => t.elim)))
 have HL8 := qH hl
 have HGL := qH (Nat.le_trans Da.2.2.2.size hgl)
 have HBS := qH hf.size
 refine ⟨Db, ?_⟩
 clear hf hl hgl Da
 try simp only [clL]
 refine e0r rfl rfl ?_
 go_simp
 refine (d0d _).mono ?_
 rintro e' w9 ⟨rfl, hf⟩
 have Dc := And.intro (Db.1.still hf) (And.intro (a0Z Db.2.1 hf) (And.intro (Db.2.2.1.trans hf fun _ _ t => t.elim) (Db.2.2.2.trans hf fun _ _ t => t.elim)))
 replace HL8 := qH (HL8.out.still hf)
 replace HBS := qH (Nat.le_trans HBS.out hf.size)
 refine ⟨Dc, ?_⟩
 clear hf Db
 try simp only [clL]
 refine e0s rfl rfl ?_
 go_simp
 have hck := u0k Y1 X7 gs gl _ _ ([] ++ [1]) ([] ++ [lp]) k hk (some ⟨bo, oo, none⟩) co os 1 aL nL cL uL lL aR nR cR uR lR aA nA cA lA aB nB cB lB _ Dc.1 (HYG.out gl HGL.out) HL8.out HBS.out (by rw [HN.out]; exact HO.out.still Dc.2.2.2) (by rw [HN.out]; exact HOL.out) HOO.out (HL.out.still Dc.2.2.1) HOFL.out (PartsO.keep Dc.2.2.1 (fun _ t => t.elim) (PartsO.old HY1.out PL.out)) (HR.out.still Dc.2.2.1) HOFR.out (PartsO.keep Dc.2.2.1 (fun _ t => t.elim) (PartsO.old HY1.out PR.out)) (PartO.keep (PartO.old PA.out HY1.out) Dc.2.2.1 fun _ t => t.elim) (PartO.keep (PartO.old PB.out HY1.out) Dc.2.2.1 fun _ t => t.elim) HBAD.out
 rw [HN.out] at hck
 refine hck.mono ?_
 rintro e' w10 ⟨rfl, hf⟩
 have HF10 := qH (Dc.2.2.1.trans hf fun j hj t => absurd (HY1.out j t) ap1)
 clear hck hf Dc
 try simp only []
 refine a0p rfl rfl apW ?_
 try simp only [clL]
 refine b0o rfl rfl ?_
 try simp only [clL]
 refine m0K rfl rfl ?_
 try simp only [clL]
 iterate 2 (refine a0p rfl rfl apW ?_; try simp only [clL])
 refine d0l ?_
 refine NoPanic.normal ?_
 go_wp2_with fail
 go_ret
 exact ⟨rfl, HF10.out⟩
theorem g0w (k : Nat) (hk : k ≤ 6) (lab : ByteArray) (hlab : lab.size ≤ 1000000) (vp : Value) (lp : List UInt8) (aL : Option Addr) (cL : Nat) (uL : List Value) (lL : List (List UInt8)) (aR : Option Addr) (cR : Nat) (uR : List Value) (lR : List (List UInt8)) (aA : Option Addr) (nA cA : Nat) (lA : List UInt8) (aB : Option Addr) (nB cB : Nat) (lB : List UInt8) (w : World) (hp : BPart w vp lp) (hL : Rd w aL k uL) (pL : BParts w uL lL) (hR : Rd w aR k uR) (pR : BParts w uR lR) (pA : BPart w (.slice aA nA cA) lA) (pB : BPart w (.slice aB nB cB) lB) (hrd : b0s lp = true) (hna : a0D mQ [lA, lB] = true) (hfm : e0e k lL lR = true) (D : Zq) (hD : b0n (([] ++ [1]) ++ ckN (2 ^ k) (zqB lA) (zqB lB) 1 (d0e (prodL lab.data.toList lp) (lL.zip lR)) (fun i => (lsZ (2 ^ k) (pwZ 1)).getD i 0)) ((([] ++ [lp]) ++ (rdB (lL.zip lR) ++ ((lsZ (2 ^ k) gLQ).map wrQ ++ ((lsZ (2 ^ k) gRQ).map wrQ ++ [wrQ f0H])))).map ptQ) = D) : Calls Tryz.prog 19 #[.string lab, .int .i64 ((2 ^ k : Nat) : Int), vp, .agg #[.slice aL k cL, .slice aR k cR, .slice aA nA cA, .slice aB nB cB]] w fun e w' => e = .returned (.bool (decide (D = 0))) ∧ Fr Nob w w' := by
 have HRD := qH hrd
 have HNA := qH hna
 have HFMB := qH hfm
 have H33 := s0e hfm
 have hc : (d0e (prodL lab.data.toList lp) (lL.zip lR)).length = (lL.zip lR).length := f0N _ _
 have hc6 : (d0e (prodL lab.data.toList lp) (lL.zip lR)).length ≤ 6 := by rw [hc, List.length_zip, H33.1, H33.2.1]; omega
 have HAL := qH (A0D (n := 2 ^ k) (f := gLQ) (g := gRQ) (m := f0H) hrd H33.2.2.1 H33.2.2.2)
 have HEQ := qH (z0L (n := 2 ^ k) (a := zqB lA) (b := zqB lB) (u := 1) (ow := fun i => (lsZ (2 ^ k) (pwZ 1)).getD i 0) (lp := lp) (m := wrQ f0H) (f := gLQ) (g := gRQ) hc)
 have HLE := qH (A0C (n := 2 ^ k) (a := zqB lA) (b := zqB lB) (u := 1) (ow := fun i => (lsZ (2 ^ k) (pwZ 1)).getD i 0) hc6 (d0x k hk).2)
 have HD := qH hD
 clear hrd hna hfm hc hc6 H33 hD
 have HFT := qH (f0J k hk)
 obtain ⟨n, hn⟩ : ∃ n, 2 ^ k = n := ⟨_, rfl⟩
 have HN := qH hn
 rw [hn] at HFT HAL HEQ HLE HD ⊢
 have HP := qH hp
 obtain ⟨ap, np, cp, rfl, -⟩ := HP.out
 obtain ⟨h0, h64⟩ := d0x k hk
 rw [hn] at h0 h64
 have HL := qH hL
 have PL := qH pL
 have HR := qH hR
 have PR := qH pR
 have PA := qH pA
 have PB := qH pB
 clear hp hL pL hR pR pA pB hn
 go_enter Tryz.func19, Tryz.ntmps19
 go_wp2_with (with_reducible refine wSk 7 ?_)
 refine b0N rfl (d0X (Sy.start Nob w) rfl rfl [.slice aL k cL, .slice aR k cR, .slice aA nA cA, .slice aB nB cB] rfl ?_)
 intro g7 w1 yy hf hg
 have HG7 := qH (yy.at 0 rfl)
 have HF1 := qH hf
 clear yy hf hg
 go_wp2_with fail
 refine (HFT.out _).mono ?_
 rintro e' w2 ⟨rfl, rfl⟩
 go_wp2_with fail
 refine (g0I _ lp _ (HP.out.still HF1.out)).mono ?_
 rintro e' w2 ⟨rfl, hf⟩
 rw [HRD.out]
 have HF2 := qH (HF1.out.trans hf fun _ _ t => t.elim)
 have HF12 := qH (Nat.lt_of_lt_of_le HG7.out.lt hf.size)
 replace HG7 := qH (a0Z HG7.out hf)
 clear hf HF1
 go_wp2_with fail
 generalize hw3 : w2.alloc (Obj.cells #[Value.slice none 0 0, Value.slice none 0 0] 121) = w3
 have hf : Fr Nob w2 w3 := by rw [← hw3]; exact (Fr.refl Nob w2).alloc _
 have hgs : Has w3 w2.heap.size [.slice none 0 0, .slice none 0 0] 121 := by rw [← hw3]; exact Has.new w2 _ _
 have hs0 := SumA.zero hgs (Nat.le_refl _) hf.size
 clear hw3
 have HB := qH (Nat.le_trans HF2.out.size (Nat.le_refl _))
 have HG := qH (show ¬ w2.heap.size ≤ g7 by have := HF12.out; omega)
 have HF3 := qH (HF2.out.trans hf fun _ _ t => t.elim)
 replace HG7 := qH (a0Z HG7.out hf)
 obtain ⟨Y, hY⟩ : ∃ z : Nat → Prop, (fun j => w2.heap.size ≤ j) = z := ⟨_, rfl⟩
 rw [hY] at hs0
 have HY := qH (show ∀ j, Y j → w.heap.size ≤ j by rw [← hY]; exact fun j hj => Nat.le_trans HB.out hj)
 have HY7 := qH (show ¬ Y g7 by rw [← hY]; exact HG.out)
 obtain ⟨gs, hgz⟩ : ∃ z, w2.heap.size = z := ⟨_, rfl⟩
 rw [hgz] at hs0 ⊢
 have HS0 := qH hs0
 clear hs0 hY hf hgs hgz HG HB HF2 HF12
 refine (d0d _).mono ?_
 rintro e' w4 ⟨rfl, hf⟩
 have HS1 := qH (HS0.out.still hf)
 have HF4 := qH (HF3.out.trans hf fun _ _ t => t.elim)
 replace HG7 := qH (a0Z HG7.out hf)
 clear hf HS0 HF3
 go_wp2_with fail
 refine (r0P Y Y gs [] [] 1 _ lp _ HS1.out (PartO.keep (PartO.old HP.out HY.out) HF4.out fun _ t => t.elim) ap2 ap2).mono ?_
 rintro e' w5 ⟨rfl, hs, hf⟩
 have HS2 := qH hs
 have HF5 := qH (HF4.out.trans hf fun j hj t => absurd (HY.out j t) ap1)
 replace HG7 := qH (Go.Mv.Has.keep HG7.out hf HY7.out)
 clear hs hf HS1 HF4
 go_wp2_with fail
 refine (d0d _).mono ?_
 rintro e' w6 ⟨rfl, hf⟩
 have HS3 := qH (HS2.out.still hf)
 have HF6 := qH (HF5.out.trans hf fun _ _ t => t.elim)
 replace HG7 := qH (a0Z HG7.out hf)
 clear hf HS2 HF5
 go_wp2_with fail
 refine (n0O 1 n ap1 _).mono ?_
 rintro e' w7 ⟨vo, rfl, ho, hf⟩
 obtain ⟨X7, hs7, -⟩ := l0v HS3.out hf
 have HS7 := qH hs7
 have HF7 := qH (HF6.out.trans hf fun _ _ t => t.elim)
 replace HG7 := qH (a0Z HG7.out hf)
 have HOY := qH (h0X (Y := Y) ho)
 obtain ⟨bo, oo, co, rfl⟩ := f0M ho ap1
 have HO := qH (b0R ho)
 obtain ⟨Y1, hY1⟩ : ∃ z, p0l Y w6 w7 = z := ⟨_, rfl⟩
 rw [hY1] at HS7 HOY
 have HY1 := qH (show ∀ j, Y1 j → w.heap.size ≤ j by rw [← hY1]; exact fun j hj => HY.out j (n0Y hj))
 clear hs7 ho hf hY1 HS3 HF6
 obtain ⟨os, hos⟩ : ∃ z, lsZ n (pwZ 1) = z := ⟨_, rfl⟩
 rw [hos] at HO
 have HOS := qH hos
 have HOL := qH (show os.length = n by rw [← hos, a0O])
 rw [hos] at HEQ HLE HD
 clear hos
 have HOFL := qH (show k = 0 ∨ Off Y1 aL from (Nat.eq_zero_or_pos k).imp id fun h => Off.old HL.out h HY1.out)
 have HOFR := qH (show k = 0 ∨ Off Y1 aR from (Nat.eq_zero_or_pos k).imp id fun h => Off.old HR.out h HY1.out)
 have HOO := qH (show Off Y1 (some ⟨bo, oo, none⟩) from fun x hx => by cases hx; exact HOY.out _ rfl)
 have HYG := qH (show ∀ j, w7.heap.size ≤ j → Y1 j from fun j hj => HS7.out.sub j (HS7.out.up j hj))
 have HPI := qH (PartO.part (PartO.old HP.out HY1.out) (g0L HRD.out))
 go_wp2_with fail
 refine wp_region_noPanic ?_
 refine b0q (fun wz => SumA wz X7 Y1 gs ([] ++ [1]) ([] ++ [lp]) ∧ Has wz g7 [.slice aL k cL, .slice aR k cR, .slice aA nA cA, .slice aB nB cB] 26 ∧ Fr Nob w wz ∧ Fr Nob w7 wz) 8 (.w 0 (.w 1 (.w 2 (.w 4 (.w 5 (.t 7 (.r 3 (.r 6 (.m 8 (.w 9 (.w 10 (.m 11 (.w 12 (.w 13 .nil)))))))))))))) ap0 ap0 (⟨HS7.out.still (Fr.refl Nob _).drew, a0Z HG7.out (Fr.refl Nob _).drew, HF7.out.drew, (Fr.refl Nob w7).drew⟩) (fun _ _ _ _ _ h => h) ?_
 have Da : _ ∧ _ ∧ _ ∧ _ := ⟨HS7.out.still (Fr.refl Nob _).drew, a0Z HG7.out (Fr.refl Nob _).drew, HF7.out.drew, (Fr.refl Nob w7).drew⟩
 clear HS7 HG7 HF7
 iterate 5 (refine a0p rfl rfl apW ?_; try simp only [clL])
 refine c0e rfl rfl rfl rfl ([.slice aL k cL, .slice aR k cR, .slice aA nA cA, .slice aB nB cB]) (fun wx hS => hS.2.1.range 0 _ (by rfl)) Tryz.underlying26 rfl (c0j _ _ _ _) ?_
 try simp only [clL]
 refine e0r rfl rfl ?_
 go_simp
 refine (h0V lab _ lp _ hlab (HPI.out.still Da.2.2.1)).mono ?_
 rintro e' w8 ⟨gl, rfl, hgl, hl, hf⟩
 have Db := And.intro (Da.1.still hf) (And.intro (a0Z Da.2.1 hf) (And.intro (Da.2.2.1.trans hf fun _ _ t => t.elim) (Da.2.2.2.trans hf fun _ _ t => t.elim)))
 have HL8 := qH hl
 have HGL := qH (Nat.le_trans Da.2.2.2.size hgl)
 have HBS := qH hf.size
 refine ⟨Db, ?_⟩
 clear hf hl hgl Da
 try simp only [clL]
 refine e0r rfl rfl ?_
 go_simp
 refine (d0d _).mono ?_
 rintro e' w9 ⟨rfl, hf⟩
 have Dc := And.intro (Db.1.still hf) (And.intro (a0Z Db.2.1 hf) (And.intro (Db.2.2.1.trans hf fun _ _ t => t.elim) (Db.2.2.2.trans hf fun _ _ t => t.elim)))
 replace HL8 := qH (HL8.out.still hf)
 replace HBS := qH (Nat.le_trans HBS.out hf.size)
 refine ⟨Dc, ?_⟩
 clear hf Db
 try simp only [clL]
 refine e0s rfl rfl ?_
 go_simp
 have hck := u0n Y1 X7 gs gl _ _ ([] ++ [1]) ([] ++ [lp]) k hk (some ⟨bo, oo, none⟩) co os 1 aL cL uL lL aR cR uR lR aA nA cA lA aB nB cB lB _ Dc.1 (HYG.out gl HGL.out) HL8.out HBS.out (by rw [HN.out]; exact HO.out.still Dc.2.2.2) (by rw [HN.out]; exact HOL.out) HOO.out (HL.out.still Dc.2.2.1) HOFL.out (PartsO.keep Dc.2.2.1 (fun _ t => t.elim) (PartsO.old HY1.out PL.out)) (HR.out.still Dc.2.2.1) HOFR.out (PartsO.keep Dc.2.2.1 (fun _ t => t.elim) (PartsO.old HY1.out PR.out)) (PartO.keep (PartO.old PA.out HY1.out) Dc.2.2.1 fun _ t => t.elim) (PartO.keep (PartO.old PB.out HY1.out) Dc.2.2.1 fun _ t => t.elim) HNA.out HFMB.out ap2 (Nat.le_of_ble_eq_true rfl)
 rw [HN.out] at hck
 refine hck.mono ?_
 rintro e' w10 ⟨rfl, ⟨X', Y', hs, -⟩, hf⟩
 have HS9 := qH hs
 have HF9 := qH (Dc.2.2.1.trans hf fun j hj t => absurd (HY1.out j t) ap1)
 clear hck hs hf Dc
 try simp only []
 iterate 2 (refine a0p rfl rfl apW ?_; try simp only [clL])
 refine e0s rfl rfl ?_
 go_simp
 refine (r0Q X' Y' gs _ _ _ HS9.out HEQ.out HLE.out HAL.out D HD.out).mono ?_
 rintro e' w11 ⟨rfl, hf⟩
 have HF10 := qH (HF9.out.trans hf fun _ _ t => t.elim)
 clear hf HF9
 try simp only []
 iterate 2 (refine a0p rfl rfl apW ?_; try simp only [clL])
 refine d0l ?_
 refine NoPanic.normal ?_
 go_wp2_with fail
 go_ret
 exact ⟨rfl, HF10.out⟩
end
section
open Go.RowKit Go.Mv Mvp Mvq
theorem v0q (x : Zq) : zqB (bZ x) = x := by
 unfold zqB bZ
 rw [j0l _ (Nat.lt_trans x.isLt ap2)]
 exact e0Z x
theorem g0S (x : Zq) : 1 * x = x := by grind -lia -linarith
theorem v0r : ∀ i, pwZ 1 i = 1
 | 0 => rfl
 | i + 1 => by
  show pwZ 1 i * 1 = 1
  rw [v0r i]; rfl
def u0o (P : List (Zq × Zq)) : List (List UInt8 × List UInt8) := P.map fun p => (wrQ p.1, wrQ p.2)
theorem u0p (P : List (Zq × Zq)) : (P.map fun p => wrQ p.1).zip (P.map fun p => wrQ p.2) = u0o P := by
 unfold u0o
 rw [List.zip_map']
theorem l0w : ∀ (P : List (Zq × Zq)) (st : List UInt8), d0e st (u0o P) = i0N chP ivZ st P
 | [], _ => rfl
 | (l, r) :: t, st => by
  show _ :: d0e _ (u0o t) = _ :: i0N chP ivZ _ t
  rw [l0w t]
  rfl
theorem u0q (P : List (Zq × Zq)) : (rdB (u0o P)).map ptQ = rdP P := by
 unfold rdB u0o rdP
 induction P with
 | nil => rfl
 | cons p t ih =>
  rw [List.map_cons, List.flatMap_cons, List.map_append, ih, List.flatMap_cons, List.map_cons, List.map_cons, i0R, i0R]
  rfl
theorem z0M (l : List Zq) : (l.map wrQ).map ptQ = l := by
 rw [List.map_map]
 have : (ptQ ∘ wrQ) = id := by funext x; exact i0R x
 rw [this, List.map_id]
theorem m0L (k : Nat) (lab : List UInt8) (xs ys : List Zq) (hx : xs.length = 2 ^ k) (hy : ys.length = 2 ^ k) :
  b0n (([] ++ [1]) ++ ckN (2 ^ k) (zqB (bZ (c0y k lab xs ys).2.1)) (zqB (bZ (c0y k lab xs ys).2.2)) 1 (d0e (prodL lab (wrQ (d0p (2 ^ k) xs ys))) (u0o (c0y k lab xs ys).1)) (fun i => (lsZ (2 ^ k) (pwZ 1)).getD i 0))
   ((([] ++ [wrQ (d0p (2 ^ k) xs ys)]) ++ (rdB (u0o (c0y k lab xs ys).1) ++ ((lsZ (2 ^ k) gLQ).map wrQ ++ ((lsZ (2 ^ k) gRQ).map wrQ ++ [wrQ f0H])))).map ptQ) = 0 := by
 obtain ⟨X, hX⟩ : ∃ z, d0p (2 ^ k) xs ys = z := ⟨_, rfl⟩
 obtain ⟨P, hP⟩ : ∃ z, c0y k lab xs ys = z := ⟨_, rfl⟩
 rw [hX, hP, v0q, v0q, l0w]
 unfold c0y at hP
 rw [hX] at hP
 obtain ⟨ow, how⟩ : ∃ z : Nat → Zq, (fun i => (lsZ (2 ^ k) (pwZ 1)).getD i 0) = z := ⟨_, rfl⟩
 rw [how]
 have hone : ∀ i, i < 2 ^ k → ow i = 1 := fun i hi => by
  rw [← how]
  show (lsZ (2 ^ k) (pwZ 1)).getD i 0 = 1
  rw [List.getD_eq_getElem?_getD, g0a _ _ _ hi]
  exact v0r i
 have hR : lsZ (2 ^ k) (fun i => ow i * gRQ i) = lsZ (2 ^ k) gRQ := h0J fun i hi => by rw [hone i hi]; exact g0S _
 have hc := l0e chP ivZ x0w k (prodL lab (wrQ X)) xs ys gLQ gRQ ow 1 f0H hx hy P (by rw [hR, g0S]; exact hP)
 rw [hR, g0S] at hc
 have e : (([] ++ [wrQ X]) ++ (rdB (u0o P.1) ++ ((lsZ (2 ^ k) gLQ).map wrQ ++ ((lsZ (2 ^ k) gRQ).map wrQ ++ [wrQ f0H])))).map ptQ = X :: ckP (2 ^ k) P.1 gLQ gRQ f0H := by
  simp only [List.map_append, z0M, u0q, List.map_cons, List.map_nil, i0R, List.nil_append, List.cons_append]
  rfl
 rw [e]
 show 1 * X + b0n (ckN (2 ^ k) P.2.1 P.2.2 1 (i0N chP ivZ (prodL lab (wrQ X)) P.1) ow) (ckP (2 ^ k) P.1 gLQ gRQ f0H) = 0
 rw [z0r _ _ _ _ _ _ _ _ _ _ (g0N _ _ _ _), g0S]
 rw [show j0K xs ys (lsZ (2 ^ k) gLQ) (lsZ (2 ^ k) gRQ) f0H = X from hX] at hc
 exact hc
end
section
open Go.RowKit Go.Mv Mvp Mvq
def nuB (l : List UInt8) (i : Nat) : List UInt8 := [0, 0] ++ l.take 28 ++ List.replicate (28 - l.length) 0 ++ [UInt8.ofNat i, UInt8.ofNat l.length]
theorem f0a (l : List UInt8) (i : Nat) : (nuB l i).length = 32 := by
 unfold nuB
 simp only [List.length_append, List.length_take, List.length_replicate, List.length_cons, List.length_nil]
 omega
theorem z0N (l : List UInt8) (i : Nat) : beN (nuB l i) < 256 ^ 30 := by
 have h : nuB l i = 0 :: 0 :: (l.take 28 ++ List.replicate (28 - l.length) 0 ++ [UInt8.ofNat i, UInt8.ofNat l.length]) := by unfold nuB; simp
 have h2 := f0a l i
 rw [h] at h2 ⊢
 obtain ⟨t, ht⟩ : ∃ t, l.take 28 ++ List.replicate (28 - l.length) 0 ++ [UInt8.ofNat i, UInt8.ofNat l.length] = t := ⟨_, rfl⟩
 rw [ht] at h2 ⊢
 have h3 : t.length = 30 := by simpa using h2
 have h4 := u0G t
 rw [h3] at h4
 rw [beN_cons, beN_cons]
 simpa using h4
theorem B0g : 256 ^ 30 < mQ.M := by decide
theorem x0D (l : List UInt8) (i : Nat) : b0m mQ (nuB l i) = true := by
 unfold b0m
 rw [f0a, decide_eq_true rfl, decide_eq_true (Nat.lt_trans (z0N l i) B0g)]
 rfl
theorem u0r (l : List UInt8) (i : Nat) : ((splice (List.replicate 32 (Value.int .u8 0)) 2 (bs (l.take (min l.length 28)))).set 30 (.int .u8 ((UInt8.ofNat i).toNat : Int))).set 31 (.int .u8 ((UInt8.ofNat l.length).toNat : Int)) = bs (nuB l i) := by
 have e : l.take (min l.length 28) = l.take 28 := by
  rcases Nat.le_total l.length 28 with h | h
  ·rw [Nat.min_eq_left h, List.take_of_length_le (Nat.le_refl _), List.take_of_length_le h]
  ·rw [Nat.min_eq_right h]
 rw [e]
 unfold splice nuB
 rw [a0C, List.length_take]
 have h1 : List.drop (2 + min 28 l.length) (List.replicate 32 (Value.int .u8 0)) = bs (List.replicate (28 - l.length) 0) ++ [.int .u8 0, .int .u8 0] := by
  rw [List.drop_replicate, show 32 - (2 + min 28 l.length) = (28 - l.length) + 1 + 1 by omega, List.replicate_succ', List.replicate_succ']; simp [bs]
 rw [h1]
 have h2 : (List.take 2 (List.replicate 32 (Value.int .u8 0)) ++ (bs (l.take 28) ++ (bs (List.replicate (28 - l.length) 0) ++ [Value.int .u8 0, Value.int .u8 0]))) = (([Value.int .u8 0, Value.int .u8 0] ++ bs (l.take 28) ++ bs (List.replicate (28 - l.length) 0))) ++ [Value.int .u8 0, Value.int .u8 0] := by simp
 have h3 : ([Value.int .u8 0, Value.int .u8 0] ++ bs (l.take 28) ++ bs (List.replicate (28 - l.length) 0)).length = 30 := by simp [a0C]; omega
 rw [h2, List.set_append_right _ _ (by rw [h3]; exact Nat.le_refl _), h3, List.set_append_right _ _ (by rw [h3]; decide), h3]
 simp [bs]
theorem s0f (l : List UInt8) (i : Nat) (x y : Int) (hx : x = (i : Int) % 256) (hy : y = (l.length : Int) % 256) : ((splice (List.replicate 32 (Value.int .u8 0)) 2 (bs (l.take (min l.length 28)))).set 30 (.int .u8 x)).set 31 (.int .u8 y) = bs (nuB l i) := by
 rw [← u0r]
 have e1 : ((UInt8.ofNat i).toNat : Int) = x := by rw [hx]; simp
 have e2 : ((UInt8.ofNat l.length).toNat : Int) = y := by rw [hy]; simp
 rw [e1, e2]
theorem v0s : (Tryz.prog.info? 5).map (·.size) = some 1 := by kernel_rfl
attribute [local irreducible] nuB
theorem v0t (s : ByteArray) (i : Nat) (_hi : i ≤ 1000) (w : World) : Calls Tryz.prog 21 #[.string s, .int .i64 (i : Int)] w fun e w' => ∃ v, e = .returned v ∧ OwnB1 w w' v (nuB s.data.toList i) ∧ Fr Nob w w' := by
 go_enter Tryz.func21, Tryz.ntmps21
 go_wp2_with (first
  | (at_make; refine g0W rfl rfl Tryz.underlying23 d0g rfl rfl rfl 32 32 ap4 ap4 ap1 ap1 ap9 ?_; intro w1 hw1 hf1 hz1)
  | (with_reducible refine wSk 8 ?_))
 clear hz1
 generalize hg0 : w.heap.size = g at hw1 ⊢
 have HG0 := qH hg0
 clear hg0
 refine g0f rfl rfl Tryz.underlying23 c0E rfl 2 30 ⟨_, rfl⟩ ⟨_, rfl⟩ ap2 ap2 ?_
 rw [show c0q (some ⟨g, 0, none⟩) 2 32 = some ⟨g, 2, none⟩ from rfl]
 go_wp2_with (with_reducible refine wSk 10 ?_)
 refine l0f rfl rfl Tryz.underlying23 c0E rfl rfl hw1 (by simp; omega) ?_
 intro w2 hw2 hf2 hz2
 clear hz2 hw1
 have hsz : s.size = s.data.toList.length := by simp
 have hy := (Sy.start Nob w).new (hf1.new hf2 (by rw [HG0.out]; exact Nat.le_refl _)) hw2 (by rw [HG0.out]; exact Nat.le_refl _)
 rw [List.nil_append] at hy
 rw [hsz] at hy
 have HY := qH hy
 clear hy hw2 hf1 hf2 hsz
 have hln : (splice (List.replicate 32 (Value.int .u8 0)) 2 (bs (s.data.toList.take (min s.data.toList.length 28)))).length = 32 := by simp [splice, a0C]; omega
 have HLN := qH hln
 clear hln
 go_wp2_with (with_reducible refine wSn ?_)
 refine b0N rfl ?_
 refine c0h HY.out 0 rfl 30 rfl rfl rfl (by rw [HLN.out]; decide) v0s rfl rfl ?_
 intro w3 y3 hf3
 have HY3 := qH y3
 clear y3 hf3 HY
 go_wp2_with (with_reducible refine wSn ?_)
 refine b0N rfl ?_
 refine c0h HY3.out 0 rfl 31 rfl rfl rfl (by rw [List.length_set, HLN.out]; decide) v0s rfl rfl ?_
 intro w4 y4 hf4
 have hfr := y4.st.fr
 have hh : Has w4 g (bs (nuB s.data.toList i)) 5 := by
  rw [← s0f s.data.toList i ((i : Int) % 256) ((s.size : Int) % 256) rfl ap4]
  exact y4.at 0 rfl
 have HH := qH hh
 have HFR := qH hfr
 clear y4 hf4 HY3 hh hfr
 go_wp2_with fail
 go_ret
 exact ⟨_, rfl, OwnB1.of (w := w) (Go.Mv.Own.made HH.out w.heap.size (by rw [HG0.out]; exact Nat.le_refl _) 1 32 32 (Nat.le_refl _) ap2 (by rw [a0C, f0a]; decide) |> fun h => by rwa [show (bs (nuB s.data.toList i)).take (32 * 1) = bs (nuB s.data.toList i) from List.take_of_length_le (by rw [a0C, f0a]; decide)] at h) (f0a _ _), HFR.out⟩
end
section
open Go.RowKit Go.Mv Mvp Mvq
def nuL (l : List UInt8) (n : Nat) : List (List UInt8) := (List.range n).map (nuB l)
theorem s0g (l : List UInt8) (n : Nat) : (nuL l n).length = n := by unfold nuL; rw [List.length_map, List.length_range]
theorem n0Z (l : List UInt8) (n : Nat) : nuL l (n + 1) = nuL l n ++ [nuB l n] := by unfold nuL; rw [List.range_succ, List.map_append]; rfl
theorem s0h (l : List UInt8) (n : Nat) : a0D mQ (nuL l n) = true := by
 unfold a0D nuL
 rw [List.all_eq_true]
 intro x hx
 obtain ⟨i, -, rfl⟩ := List.mem_map.1 hx
 exact x0D l i
theorem z0O (x : Zq) : b0m mQ (bZ x) = true := by
 have h := j0I x.val
 unfold bZ
 rwa [show x.val % mQ.M = x.val from Nat.mod_eq_of_lt x.isLt] at h
theorem x0E (x y : Zq) : a0D mQ [bZ x, bZ y] = true := by unfold a0D; simp [z0O]
theorem s0i (P : List (Zq × Zq)) (k : Nat) (h : P.length = k) : e0e k (P.map fun p => wrQ p.1) (P.map fun p => wrQ p.2) = true := by
 unfold e0e
 rw [List.length_map, List.length_map, h, decide_eq_true rfl, Bool.true_and, Bool.true_and, Bool.and_eq_true, List.all_eq_true, List.all_eq_true]
 exact ⟨fun x hx => by obtain ⟨p, -, rfl⟩ := List.mem_map.1 hx; exact f0F _, fun x hx => by obtain ⟨p, -, rfl⟩ := List.mem_map.1 hx; exact f0F _⟩
theorem u0s (P : List (Zq × Zq)) (k : Nat) (h : P.length = k) (R : List (List UInt8)) : e0e (k + 1) (P.map fun p => wrQ p.1) R = false := by
 unfold e0e
 rw [List.length_map, h, decide_eq_false ap1]
 rfl
theorem x0F : ¬ ∃ k, k < 7 ∧ (128 : Int) = ((2 ^ k : Nat) : Int) := by
 rintro ⟨k, hk, h⟩
 have h2 : 2 ^ k ≤ 2 ^ 6 := Nat.pow_le_pow_right ap2 ap1
 have h3 : 2 ^ k = 128 := by omega
 omega
theorem f0b (k : Nat) (lab : List UInt8) (xs ys : List Zq) : (c0y k lab xs ys).1.length = k := e0C _ _ _ _ _ _ _ _ _
theorem POwn.split {w : World} {base : Nat} : ∀ {va vb : List Value} {la lb : List (List UInt8)}, va.length = la.length → POwn w base (va ++ vb) (la ++ lb) → POwn w base va la ∧ POwn w base vb lb
 | [], _, [], _, _, h => ⟨trivial, h⟩
 | [], _, _ :: _, _, e, _ => by cases e
 | _ :: _, _, [], _, e, _ => by cases e
 | _ :: va, _, _ :: la, _, e, h => by
  have k := POwn.split (va := va) (la := la) (by simpa using e) h.2
  exact ⟨⟨h.1, k.1⟩, k.2⟩
theorem i0a {w : World} {base n : Nat} {v : Value} {l : List UInt8} (h : Go.Mv.Own w base 5 1 v l.length (bs l)) (hl : l.length = n) : ∃ a c, v = .slice a n c ∧ BPart w (.slice a n c) l := by
 subst hl
 obtain ⟨a, c, rfl, -⟩ := Go.Mv.Own.form h
 exact ⟨a, c, rfl, Go.Proofs.YtpfimiajoifjaaaGreat.Own.part h⟩
theorem s0j (l : List UInt8) : nuL l 0 = [] := rfl
theorem o0a {w : World} {base n : Nat} {T : TypeId} {v : Value} {L : List Value} (h : Go.Mv.Own w base T 1 v n L) : ∃ a c, v = .slice a n c ∧ Rd w a n L := by
 obtain ⟨a, c, rfl, -, hr, -⟩ := Go.Mv.Own.form h
 rw [Nat.mul_one] at hr
 exact ⟨a, c, rfl, hr⟩
attribute [local irreducible] nuB nuL
attribute [local irreducible] a0v lw mix cw b0e b0f b0a beN b0l b0b a0z a0F elN mdL b0m rtV b0J c0m b0s c0Q a0D c0z e0H e0I a0R a0T b0c toB a0u a0w a0Y a0E b0Z a0S a0x c0n b0t c0G e0U wrQ qC eQ bZ a0I zqB gLQ gRQ f0H b0d d0w lsZ e0e d0W e0d b0D i0k d0e rdB rdN e0N b0X g0P chP ckN prodL p0l d0p c0y
theorem l0x (k : Nat) (hk : k ≤ 6) (lab : ByteArray) (hlab : lab.size ≤ 1000000) (vp : Value) (lp : List UInt8) (P : List (Zq × Zq)) (hP : P.length = k) (aL : Option Addr) (cL : Nat) (uL : List Value) (aR : Option Addr) (cR : Nat) (uR : List Value) (aA : Option Addr) (nA cA : Nat) (lA : List UInt8) (aB : Option Addr) (nB cB : Nat) (lB : List UInt8) (w : World) (hp : BPart w vp lp) (hL : Rd w aL k uL) (pL : BParts w uL (P.map fun p => wrQ p.1)) (hR : Rd w aR k uR) (pR : BParts w uR (P.map fun p => wrQ p.2)) (pA : BPart w (.slice aA nA cA) lA) (pB : BPart w (.slice aB nB cB) lB) (hrd : b0s lp = true) (m : Nat) (hm : 2 ^ k = m) : Calls Tryz.prog 19 #[.string lab, .int .i64 (2 * (m : Int)), vp, .agg #[.slice aL k cL, .slice aR k cR, .slice aA nA cA, .slice aB nB cB]] w fun e w' => e = .returned (.bool false) ∧ Fr Nob w w' := by
 by_cases h6 : k = 6
 ·subst h6
  have e : (2 : Int) * (m : Int) = 128 := by rw [← hm]; rfl
  rw [e]
  exact h0Y lab hlab vp lp aL 6 cL uL _ aR 6 cR uR _ aA nA cA lA aB nB cB lB w hp hL pL hR pR pA pB 128 x0F
 ·have e : (2 : Int) * (m : Int) = ((2 ^ (k + 1) : Nat) : Int) := by rw [← hm, Nat.pow_succ]; push_cast; omega
  rw [e]
  exact h0Z lab hlab vp lp aL k cL uL _ aR k cR uR _ aA nA cA lA aB nB cB lB w hp hL pL hR pR pA pB (k + 1) ap1 hrd (by rw [u0s P k hP, Bool.and_false])
theorem l0y (k : Nat) (hk : k ≤ 6) (lab : ByteArray) (hlab : lab.size ≤ 1000000) (xs ys : List Zq) (hx : xs.length = 2 ^ k) (hy : ys.length = 2 ^ k) (P : List (Zq × Zq) × Zq × Zq) (hP : c0y k lab.data.toList xs ys = P) (D : Zq) (hD : d0p (2 ^ k) xs ys = D) (vp : Value) (aL : Option Addr) (cL : Nat) (uL : List Value) (aR : Option Addr) (cR : Nat) (uR : List Value) (aA : Option Addr) (nA cA : Nat) (aB : Option Addr) (nB cB : Nat) (w : World) (hp : BPart w vp (wrQ D)) (hL : Rd w aL k uL) (pL : BParts w uL (P.1.map fun p => wrQ p.1)) (hR : Rd w aR k uR) (pR : BParts w uR (P.1.map fun p => wrQ p.2)) (pA : BPart w (.slice aA nA cA) (bZ P.2.1)) (pB : BPart w (.slice aB nB cB) (bZ P.2.2)) (m : Nat) (hm : 2 ^ k = m) : Calls Tryz.prog 19 #[.string lab, .int .i64 (m : Int), vp, .agg #[.slice aL k cL, .slice aR k cR, .slice aA nA cA, .slice aB nB cB]] w fun e w' => e = .returned (.bool true) ∧ Fr Nob w w' := by
 have hlen : P.1.length = k := by rw [← hP]; exact f0b _ _ _ _
 have h := m0L k lab.data.toList xs ys hx hy
 rw [hP, hD, ← u0p] at h
 rw [← hm]
 exact g0w k hk lab hlab vp (wrQ D) aL cL uL _ aR cR uR _ aA nA cA _ aB nB cB _ w hp hL pL hR pR pA pB (f0F D) (x0E _ _) (s0i P.1 k hlen) 0 h
theorem i0l (lab : ByteArray) (size : Int) (s t : ByteArray) (w : World) (hsize : -9223372036854775808 ≤ size ∧ size ≤ 9223372036854775807) : Calls Tryz.prog 5 #[.string lab, .int .i64 size, .string s, .string t] w fun e w' => e = .returned (.bool true) ∧ Fr Nob w w' := by
 obtain ⟨hz1, hz2⟩ := hsize
 go_enter Tryz.func5, Tryz.ntmps5
 by_cases h0 : 4096 < lab.size
 ·have hJ : (4096 : Int) < (lab.size : Int) := by omega
  go_wp2_with fail
  go_ret
  exact ⟨rfl, Fr.refl _ _⟩
 have hI0 : ¬ ((4096 : Int) < (lab.size : Int)) := by omega
 have HLB := qH (show lab.size ≤ 1000000 by omega)
 clear h0
 by_cases h1 : 4096 < s.size
 ·have hJ : (4096 : Int) < (s.size : Int) := by omega
  go_wp2_with fail
  go_ret
  exact ⟨rfl, Fr.refl _ _⟩
 have hI1 : ¬ ((4096 : Int) < (s.size : Int)) := by omega
 clear h1
 by_cases h2 : 4096 < t.size
 ·have hJ : (4096 : Int) < (t.size : Int) := by omega
  go_wp2_with fail
  go_ret
  exact ⟨rfl, Fr.refl _ _⟩
 have hI2 : ¬ ((4096 : Int) < (t.size : Int)) := by omega
 clear h2
 go_upto_if 32 with fail
 clear hI0 hI1 hI2
 go_cut [1] (fun a wx => (∃ k : Nat, k ≤ 9223372036854775807 ∧ a = .int .i64 (k : Int)) ∧ w = wx)
 case first =>
  by_cases h0 : size < 0
  ·go_wp2_with fail
   go_meet
   exact ⟨⟨(-(size + 1)).toNat, by omega, by congr 1; omega⟩, rfl⟩
  ·go_wp2_with fail
   go_meet
   exact ⟨⟨size.toNat, by omega, by congr 1; omega⟩, rfl⟩
 case rest =>
 obtain ⟨⟨k1, hk1, rfl⟩, rfl⟩ := hcut
 clear hz1 hz2
 obtain ⟨k, hk⟩ : ∃ k : Nat, (k1 : Int) % 7 = (k : Int) := ⟨k1 % 7, by omega⟩
 have hkI : (k : Int) < 7 := by omega
 have HK := qH (show k ≤ 6 by omega)
 obtain ⟨n, hn⟩ : ∃ n, 2 ^ k = n := ⟨_, rfl⟩
 have hxI : (2 : Int) ^ k = (n : Int) := by rw [← hn]; simp
 have hnI : (n : Int) ≤ 64 := by have := (d0x k HK.out).2; omega
 have HN := qH hn
 clear hn hk1
 go_wp2_with fail
 clear hk hkI hxI
 go_loopw [10, 11, 12] (fun va vb i wr => ∃ (j : Nat) (ua ub : List Value), j ≤ n ∧ i = .int .i64 (j : Int) ∧ Sy Nob w wr [] [⟨va, 23, 1, j, ua⟩, ⟨vb, 23, 1, j, ub⟩] ∧ POwn wr w.heap.size ua (nuL s.data.toList j) ∧ POwn wr w.heap.size ub (nuL t.data.toList j)) (fun _ _ i _ => n - (intOf i).toNat)
 case atStart => exact ⟨0, [], [], Nat.zero_le _, rfl, ((Sy.start Nob w).nil _ _).nil _ _, by rw [s0j]; trivial, by rw [s0j]; trivial⟩
 case round =>
  obtain ⟨j, ua, ub, hj, rfl, hy, hpa, hpb⟩ := hrel
  have HY := qH hy
  have HPA := qH hpa
  have HPB := qH hpb
  clear hy hpa hpb
  by_cases hlt : j < n
  ·have hltI : (j : Int) < (n : Int) := by omega
   go_wp2_with fail
   refine (v0t s j ap1 _).mono ?_
   rintro e' w1 ⟨v1, rfl, ho, hf⟩
   have ho1 := Go.Mv.Own.mono ho HY.out.st.fr.size
   obtain ⟨a1, c1, rfl, -⟩ := i0a ho1 (f0a _ _)
   have HO := qH ho1
   replace HY := qH (HY.out.keep hf)
   replace HPA := qH (HPA.out.still hf)
   replace HPB := qH (HPB.out.still hf)
   clear ho ho1 hf
   go_wp2_with (with_reducible refine wSk 48 ?_)
   refine b0N rfl (c0g HY.out rfl Tryz.underlying24 a0M [.slice a1 32 c1] rfl (c0f _ _ _) rfl [.slice a1 32 c1] rfl ?_)
   intro g2 w2 y2 hf
   have HY2 := qH y2
   replace HO := qH (Go.Mv.Own.still HO.out hf)
   replace HPA := qH (HPA.out.still hf)
   replace HPB := qH (HPB.out.still hf)
   clear y2 hf HY
   go_wp2_with (with_reducible refine wSk 49 ?_)
   refine b0N rfl (b0B HY2.out 0 rfl rfl Tryz.underlying24 a0M rfl ap2 rfl rfl (Rd.whole (HY2.out.at 0 rfl)) (d0V _ _ _) ap9 ap1 ?_)
   intro q3 w3 y3 hf
   have hoff := OffT.own (T := 5) (HY2.out.own 0 rfl) ap2
   have HY3 := qH (y3.less (List.nil_sublist _) (List.Sublist.refl _))
   replace HPA := qH (show POwn w3 w.heap.size (ua ++ [.slice a1 32 c1]) (nuL s.data.toList (j + 1)) by rw [n0Z]; exact POwn.snoc (Go.Mv.Own.keepT HO.out hf hoff) (POwn.keepT hf hoff HPA.out))
   replace HPB := qH (POwn.keepT hf hoff HPB.out)
   clear y3 hf hoff HY2 HO
   go_wp2_with fail
   refine (v0t t j ap1 _).mono ?_
   rintro e' w4 ⟨v4, rfl, ho, hf⟩
   have ho1 := Go.Mv.Own.mono ho HY3.out.st.fr.size
   obtain ⟨a4, c4, rfl, -⟩ := i0a ho1 (f0a _ _)
   have HO := qH ho1
   have HY4 := qH (HY3.out.keep hf)
   replace HPA := qH (HPA.out.still hf)
   replace HPB := qH (HPB.out.still hf)
   clear ho ho1 hf HY3
   go_wp2_with (with_reducible refine wSk 54 ?_)
   refine b0N rfl (c0g HY4.out rfl Tryz.underlying24 a0M [.slice a4 32 c4] rfl (c0f _ _ _) rfl [.slice a4 32 c4] rfl ?_)
   intro g5 w5 y5 hf
   have HY5 := qH y5
   replace HO := qH (Go.Mv.Own.still HO.out hf)
   replace HPA := qH (HPA.out.still hf)
   replace HPB := qH (HPB.out.still hf)
   clear y5 hf HY4
   go_wp2_with (with_reducible refine wSk 55 ?_)
   refine b0N rfl (b0B HY5.out 1 rfl rfl Tryz.underlying24 a0M rfl ap2 rfl rfl (Rd.whole (HY5.out.at 0 rfl)) (d0V _ _ _) ap9 ap1 ?_)
   intro q6 w6 y6 hf
   have hoff := OffT.own (T := 5) (HY5.out.own 1 rfl) ap2
   have HY6 := qH (show Sy Nob w w6 [] [⟨q3, 23, 1, j + 1, ua ++ [.slice a1 32 c1]⟩, ⟨q6, 23, 1, j + 1, ub ++ [.slice a4 32 c4]⟩] from y6.less (List.nil_sublist _) (List.Sublist.refl _))
   replace HPB := qH (show POwn w6 w.heap.size (ub ++ [.slice a4 32 c4]) (nuL t.data.toList (j + 1)) by rw [n0Z]; exact POwn.snoc (Go.Mv.Own.keepT HO.out hf hoff) (POwn.keepT hf hoff HPB.out))
   replace HPA := qH (POwn.keepT hf hoff HPA.out)
   clear y6 hf hoff HY5 HO
   go_wp2_with fail
   go_roundw
   case rel => exact ⟨j + 1, _, _, by omega, by go_num, HY6.out, HPA.out, HPB.out⟩
   case measure => simp [intOf]; omega
  ·have hge : ¬ ((j : Int) < (n : Int)) := by omega
   have e : j = n := by omega
   subst e
   have HYF := qH HY.out.st.fr
   obtain ⟨aa, ca, rfl, hra⟩ := o0a (HY.out.own 0 rfl)
   obtain ⟨ab, cb, rfl, hrb⟩ := o0a (HY.out.own 1 rfl)
   have h := j0S lab HLB.out k HK.out aa ca ua (nuL s.data.toList j) ab cb ub (nuL t.data.toList j) wr (by rw [HN.out]; exact hra) (POwn.bpartsT HPA.out) (by rw [HN.out]; exact hrb) (POwn.bpartsT HPB.out) (s0h _ _) (s0h _ _)
   rw [HN.out] at h
   have hxl : ((nuL s.data.toList j).map zqB).length = 2 ^ k := by rw [List.length_map, s0g, HN.out]
   have hyl : ((nuL t.data.toList j).map zqB).length = 2 ^ k := by rw [List.length_map, s0g, HN.out]
   obtain ⟨xs, hxs⟩ : ∃ z, (nuL s.data.toList j).map zqB = z := ⟨_, rfl⟩
   obtain ⟨ys, hys⟩ : ∃ z, (nuL t.data.toList j).map zqB = z := ⟨_, rfl⟩
   rw [hxs, hys] at h
   rw [hxs] at hxl
   rw [hys] at hyl
   obtain ⟨D, hD⟩ : ∃ z, d0p j xs ys = z := ⟨_, rfl⟩
   obtain ⟨P, hP⟩ : ∃ z, c0y k lab.data.toList xs ys = z := ⟨_, rfl⟩
   rw [hD, hP, show P.1.length = k by rw [← hP]; exact f0b _ _ _ _] at h
   have HPI := qH h
   have HXL := qH hxl
   have HYL := qH hyl
   have HD := qH (show d0p (2 ^ k) xs ys = D by rw [HN.out]; exact hD)
   have HP := qH hP
   have HPL := qH (show P.1.length = k by rw [← hP]; exact f0b _ _ _ _)
   clear h hxl hyl hxs hys hD hP hra hrb HY HPA HPB
   go_wp2_with fail
   refine HPI.out.mono ?_
   rintro e' w7 ⟨vp, vL, vR, vA, vB, uL, uR, rfl, hoL, hoR, hpo, -, hf⟩
   obtain ⟨aL, cL, rfl, hrL⟩ := o0a hoL
   obtain ⟨aR, cR, rfl, hrR⟩ := o0a hoR
   obtain ⟨h1, h2⟩ := POwn.split (by simp only [List.length_append, List.length_map, hrL.len, hrR.len, HPL.out, List.length_cons, List.length_nil]) hpo
   obtain ⟨h3, h4⟩ := POwn.split (by simp only [List.length_append, List.length_map, hrL.len, hrR.len, HPL.out]) h1
   obtain ⟨h5, h6⟩ := POwn.split (by rw [List.length_map, hrL.len, HPL.out]) h3
   obtain ⟨ap, cp, rfl, hbp⟩ := i0a h2.1 (d0U _)
   obtain ⟨aA, cA, rfl, hbA⟩ := i0a h4.1 (i0Q _)
   obtain ⟨aB, cB, rfl, hbB⟩ := i0a h4.2.1 (i0Q _)
   have HRL := qH hrL
   have HRR := qH hrR
   have HBL := qH (POwn.bpartsT h5)
   have HBR := qH (POwn.bpartsT h6)
   have HBP := qH hbp
   have HBA := qH hbA
   have HBB := qH hbB
   have HF7 := qH (HYF.out.then hf)
   clear hoL hoR hpo h1 h2 h3 h4 h5 h6 hrL hrR hbp hbA hbB hf HPI HYF
   have y0 := Sy.start Nob w7
   go_wp2_with (with_reducible refine wSk 14 ?_)
   refine b0N rfl (d0B y0 rfl m0H _ rfl ?_)
   intro g8 w8 y8 hf8
   have HY8 := qH y8
   clear y0 y8 hf8
   go_wp2_with (with_reducible refine wSn ?_)
   refine b0N rfl (d0C HY8.out 0 rfl rfl rfl rfl rfl (c0j _ _ _ _) (j0R _ _ _ _ _ _ _ _ _ _ _ _) ?_)
   intro w9 y9 hf9
   have HY9 := qH y9
   clear y9 hf9 HY8
   go_wp2_with (with_reducible refine wSk 67 ?_)
   refine a0s HY9.out.st 0 rfl rfl rfl Tryz.underlying26 rfl rfl (c0j _ _ _ _) ?_
   go_wp2_with fail
   refine (l0y k HK.out lab HLB.out xs ys HXL.out HYL.out P HP.out D HD.out _ aL cL uL aR cR uR aA 32 cA aB 32 cB _ (HBP.out.still HY9.out.st.fr) (HRL.out.still HY9.out.st.fr) (HBL.out.still HY9.out.st.fr) (HRR.out.still HY9.out.st.fr) (HBR.out.still HY9.out.st.fr) (HBA.out.still HY9.out.st.fr) (HBB.out.still HY9.out.st.fr) j HN.out).mono ?_
   rintro e' w10 ⟨rfl, hf⟩
   have HYA := qH (HY9.out.keep hf)
   clear hf HY9
   go_wp2_with (with_reducible refine wSk 73 ?_)
   refine a0s HYA.out.st 0 rfl rfl rfl Tryz.underlying26 rfl rfl (c0j _ _ _ _) ?_
   go_wp2_with fail
   refine (l0x k HK.out lab HLB.out _ (wrQ D) P.1 HPL.out aL cL uL aR cR uR aA 32 cA _ aB 32 cB _ _ (HBP.out.still HYA.out.st.fr) (HRL.out.still HYA.out.st.fr) (HBL.out.still HYA.out.st.fr) (HRR.out.still HYA.out.st.fr) (HBR.out.still HYA.out.st.fr) (HBA.out.still HYA.out.st.fr) (HBB.out.still HYA.out.st.fr) (f0F D) j HN.out).mono ?_
   rintro e' w11 ⟨rfl, hf⟩
   have HF := qH (HF7.out.then (HYA.out.keep hf).st.fr)
   clear hf HYA
   go_wp2_with fail
   go_ret
   exact ⟨rfl, HF.out⟩
end
end Go.Proofs.YtpfimiajoifjaaaGreat
