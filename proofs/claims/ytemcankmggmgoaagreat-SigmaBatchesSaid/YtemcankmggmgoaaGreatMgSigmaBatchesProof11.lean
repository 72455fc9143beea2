/- ; ; ; ; ; ; ; ; ; ; ; ; ; ; ; ; ; ; ; ; ; ; ; ; ; ; ; . -/
import Derived.Test.YtemcankmggmgoaaGreatMgSigmaBatchesProof8
import Derived.RangeFuncNested
import Derived.RangeFuncBound
import Derived.RangeFuncCalls
import Derived.RangeFuncLeaves
import Derived.Test.YtemcankmggmgoaaGreatMgSigmaBatchesProof9
import Derived.Deep.DeepCutAuto
import Derived.Test.YtemcankmggmgoaaGreatMgSigmaBatchesProof7
import Derived.IntWalk
import Derived.Test.YtemcankmggmgoaaGreatMgSigmaBatchesProof1
import Derived.Test.YtemcankmggmgoaaGreatMgSigmaBatchesProof10
import Derived.Test.YtemcankmggmgoaaGreatMgSigmaBatchesProof6
set_option maxHeartbeats 16000000
set_option maxRecDepth 1000000
open Go.Proofs.Tryz

namespace Go.Mv
open Go.RowKit
variable {P : Program} {ops : Array Oper} {Q : Exit → Act → World → Prop} {a : Act} {w : World} {rest : List Oper} {o : Oper} {n l : Nat}
end Go.Mv
namespace Go.Mv
open Go.RowKit
theorem Fr.grown {a b : World} (h : Fr Nob a b) : a.grownBy b none := ⟨h.os, h.tape, h.output, h.size, fun k hk _ => h.block k hk id⟩
end Go.Mv
namespace Go.Proofs.YtemcankmggmgoaaGreat
open Go.RowKit Go.Mv Mvp Mvq
attribute [local irreducible] bI lw mix cw cT dG cS bQ aO beN dO cI dI bM bT elN mdL cL rtN rtV dW gXn gYn PT.L a0A zU nK tbL tmR tmL dbN sK rL uY dig rdT dM fD ptL mA gY cK cO dD toB aW bG cR eD bH eU cA bD dX hB hN wH wI atY lN i0I
end Go.Proofs.YtemcankmggmgoaaGreat
namespace Go.Mv
open Go.RowKit
end Go.Mv
namespace Go.Proofs.YtemcankmggmgoaaGreat
section
open Go.RowKit Go.Mv Mvp Mvq
attribute [local irreducible] bI lw mix cw cT dG cS bQ aO beN dO cI dI bM bT elN mdL cL rtN rtV dW gXn gYn PT.L a0A zU nK tbL tmR tmL dbN sK rL uY dig rdT dM fD ptL mA gY cK dX hB hN wH wI c0h atY lN i0I
end
section
open Go.RowKit Go.Mv Mvp Mvq
def r0W : List UInt8 := [118, 97, 108, 117, 101]
attribute [local irreducible] bI lw mix cw cT dG cS bQ aO beN dO cI dI bM bT elN mdL cL rtN rtV dW gXn gYn PT.L a0A zU nK tbL tmR tmL dbN sK rL uY dig rdT dM fD ptL mA gY cK dX hB hN wH wI c0h atY lN i0I
end
section
open Go.RowKit Go.Mv Mvp Mvq
noncomputable def aR : (p : Pt) → onC p → RT
 | .A x y, h => r0x x y h
 | .O, _ => noR
noncomputable def m0v (lab l : List UInt8) : RT := aR (c0h lab l).pt (c0h lab l).onP
theorem iD (x y z : K) : ∀ v ∈ rpL x y z, v.oneCell' = true := by unfold rpL; exact bX _ _ _
attribute [local irreducible] bI lw mix cw cT dG cS bQ aO beN dO cI dI bM bT elN mdL cL rtV dW kN kc gE cK kC noR dB oH RT.L dX hB hN wH wI c0h atY lN i0I rpL mkS
attribute [local irreducible] m0v
noncomputable def hRR : RT := m0v r0W []
end
section
open Go.RowKit Go.Mv Mvp Mvq
attribute [local irreducible] hRR c0h m0v PT.pt zX
attribute [local irreducible] bI lw mix cw cT dG cS bQ aO beN dO cI dI bM bT elN mdL cL rtV dW kN kc gE cK kC noR dB oH RT.L gXn gYn rpL dM fD dX hB hN wH wI mkS
end
end Go.Proofs.YtemcankmggmgoaaGreat
namespace Go.Mv
open Go.RowKit
end Go.Mv
namespace Go.Proofs.YtemcankmggmgoaaGreat
section
open Go.RowKit Go.Mv Mvp Mvq
attribute [local irreducible] hRR c0h m0v PT.pt zX
attribute [local irreducible] bI lw mix cw cT dG cS bQ aO beN dO cI dI bM bT elN mdL cL rtV dW cK dM fD dE gY xV rO bV cO dD toB aW bG cR eD bH eU cA bD dX fZ cM oD sgF sgZ chN dS eM tS kA
end
section
open Go.RowKit Go.Mv Mvp Mvq
attribute [local irreducible] bI lw mix cw cT dG cS bQ aO beN dO cI dI bM bT elN mdL cL rtV dW cK dM fD dE gY xV rO bV cO dD toB aW bG cR eD bH eU cA bD dX fZ cM oD sgF sgZ chN dS eM tS kA
end
end Go.Proofs.YtemcankmggmgoaaGreat
namespace Go.Mv
open Go.RowKit
variable {P : Program}
theorem g0H {w w0 : World} {o : Oper} {a : Act} {K : Act → World → Prop} {Q : Exit → Act → World → Prop} {S : Nat → Prop} {bl : List (Nat × List Value × TypeId)} (hst : St S w0 w bl) (i : Nat) {g : Nat} {L : List Value} {T : TypeId} (hb : bl[i]? = some (g, L, T)) {ty : TypeId} {x y : Operand} (ho : o.op = .store ty x y) (hx : a.eval x = .pointer (some ⟨g, 0, none⟩)) {cs : List Value} (hy : a.eval y = .agg cs.toArray)
  (hn : cs.length = L.length) (hi : (P.info? ty).map (·.size) = some cs.length) (h1 : ∀ v ∈ cs, v.oneCell' = true)
  (h : ∀ w', St S w0 w' (bl.set i (g, cs, T)) → Fr (One g) w w' → K (a.put o.dst undef) w') : o.wp P a w K Q := by
 obtain ⟨k1, k2, _⟩ := Has.setCells cs 0 L w (hst.at i hb) Ab
 rw [gC _ _ hn] at k1
 exact wp_store_mid ty x y ho g 0 cs.toArray hx hy (by simpa using (hst.at i hb).there 0 cs.length Ab) (by simpa using hi) (all_oneCell_toArray h1) (by simpa using h _ (hst.put i hb k2 k1) k2)
theorem Own.oneF {w w' : World} {base : Nat} {T : TypeId} {sz : Nat} {g o n cap : Nat} {L : List Value} (_h : Own w base T sz (.slice (some ⟨g, o, none⟩) n cap) n L) (hf : Fr (kH (.slice (some ⟨g, o, none⟩) n cap)) w w') : Fr (One g) w w' :=
 hf.mono fun j _ e => by
  have e2 : some g = some j := e
  exact (Option.some.inj e2).symm
theorem Own.hasB {w : World} {base : Nat} {T : TypeId} {sz : Nat} {g o n cap : Nat} {L : List Value} (h : Own w base T sz (.slice (some ⟨g, o, none⟩) n cap) n L) : base ≤ g ∧ ∃ B, Has w g B T := by
 rcases h.2 with ⟨h2, -⟩ | ⟨g', o2, cap', B, h2, hb, hh, -⟩
 ·cases h2
 ·cases h2; exact ⟨hb, B, hh⟩
end Go.Mv
namespace Go.Proofs.YtemcankmggmgoaaGreat
section
open Go.RowKit Go.Mv Mvp Mvq
theorem LogAt.offO {w w' : World} {base base' g : Nat} {l : List UInt8} (h : LogAt w base g l) {T : TypeId} {sz : Nat} {gb o n cap : Nat} {L : List Value} (ho : Go.Mv.Own w base' T sz (.slice (some ⟨gb, o, none⟩) n cap) n L) (hf : Fr (One gb) w w') (hT : 5 ≠ T) (hT2 : 228 ≠ T) : LogAt w' base g l := by
 obtain ⟨-, B, hB⟩ := ho.hasB
 exact h.off hf hB hT hT2
theorem t0H : elN mQ 0 = 0 := by unfold elN; rw [Nat.zero_mul, Nat.zero_mod]
theorem m0w : prog.built 68 [] = some (cw 4 (elN mQ 0)).toArray := by rw [t0H, mG]; kernel_rfl
theorem gB (x : Nat) (xs : List Nat) : cM (x :: xs) = cw 4 (elN mQ x) ++ cM xs := by unfold cM; rw [List.flatMap_cons]
theorem g0I (xs ys : List Nat) : cM (xs ++ ys) = cM xs ++ cM ys := by unfold cM; rw [List.flatMap_append]
theorem g0J : cM [] = [] := rfl
theorem yA (x : Nat) : cM [x] = cw 4 (elN mQ x) := by rw [gB, g0J, List.append_nil]
theorem g0K (x y : Nat) : cM [x, y] = cw 4 (elN mQ x) ++ cw 4 (elN mQ y) := by rw [gB, yA]
theorem g0L (x y : Nat) (xs : List Nat) : splice (cM (x :: xs)) 0 (cw 4 (elN mQ y)) = cM (y :: xs) := by
 rw [gB, gB]
 unfold splice
 rw [List.take_zero, List.nil_append, Nat.zero_add, aT, List.drop_left' (aT _ _)]
theorem g0M (x : Nat) (xs : List Nat) (a b : Nat) : cM (x :: xs) ++ cM [a, b] = cM (x :: (xs ++ [a, b])) := by
 rw [gB x xs, gB x (xs ++ [a, b]), g0I xs [a, b], List.append_assoc]
theorem c0k (x : Nat) (xs : List Nat) : ((cM (x :: xs)).drop 0).take (cw 4 (elN mQ x)).length = cw 4 (elN mQ x) := by
 rw [gB, List.drop_zero, List.take_left' rfl]
theorem g0N (xs : List Nat) : ∀ u ∈ cM xs, u.oneCell' = true := by
 unfold cM
 intro u hu
 obtain ⟨x, _, hx⟩ := List.mem_flatMap.1 hu
 exact aF _ _ u hx
theorem BParts.snoc2 {w : World} {us : List Value} {ps : List (List UInt8)} (h : BParts w us ps) {u v : Value} {a b : List UInt8} (hu : BPart w u a) (hv : BPart w v b) : BParts w (us ++ [u, v]) (ps ++ [a, b]) := by
 refine ⟨by simp [h.1], fun i x hx => ?_⟩
 rcases Nat.lt_or_ge i us.length with k | k
 ·rw [List.getElem?_append_left k] at hx
  have := h.2 i x hx
  rwa [List.getD_eq_getElem?_getD, List.getElem?_append_left (by rw [← h.1]; exact k), ← List.getD_eq_getElem?_getD]
 ·rw [List.getElem?_append_right k] at hx
  rw [List.getD_eq_getElem?_getD, List.getElem?_append_right (by rw [← h.1]; exact k), ← h.1]
  match i - us.length, hx with
  | 0, hx => simp at hx; subst hx; exact hu
  | 1, hx => simp at hx; subst hx; exact hv
  | n + 2, hx => simp at hx
theorem BParts.cons {w : World} {us : List Value} {ps : List (List UInt8)} (h : BParts w us ps) {u : Value} {a : List UInt8} (hu : BPart w u a) : BParts w (u :: us) (a :: ps) := by
 refine ⟨by simp [h.1], fun i x hx => ?_⟩
 match i, hx with
 | 0, hx => simp at hx; subst hx; exact hu
 | i + 1, hx => exact h.2 i x (by simpa using hx)
theorem n0s (st : List UInt8) (l : List Trp) {j : Nat} {x : Trp} (hj : l[j]? = some x) (h : okT x = false) : btB st l = false := by
 unfold btB
 have h2 : l.all okT = false := by
  rw [List.all_eq_false]
  exact ⟨x, List.mem_of_getElem? hj, by rw [h]; decide⟩
 rw [h2, Bool.false_and]
theorem f0n (p t s : List UInt8) : okT (p, t, s) = rdG p s := rfl
theorem r0X (st : List UInt8) : wSt st 0 = st := rfl
theorem p0K (st : List UInt8) (j : Nat) : wSt st (j + 1) = dX nR [wSt st j, pA] := rfl
theorem s0Z (st : List UInt8) (j : Nat) : wN st j = a0e (wSt st j) pA := rfl
theorem t0a (st : List UInt8) : bA st [] = ⟨0, 0, [], []⟩ := rfl
theorem BParts.nil (w : World) : BParts w [] [] := ⟨rfl, by intro i v hv; simp at hv⟩
def SgK (B : Bool) (aap : Option Addr) (nnp ccp : Nat) (aas : Option Addr) (ccs : Nat) (p t s : List UInt8) (cells : List Value) : Prop := cells.length = 10 ∧ (∀ v ∈ cells, v.oneCell' = true) ∧ (B = true → ∃ b o, aas = some ⟨b, o, none⟩ ∧ cells = sgC (.slice aap nnp ccp) (.slice (some ⟨b, o, none⟩) 33 ccs) (elN mQ (cU p (s.take 33) t)) (elN mQ (beN (s.drop 33))))
noncomputable def bOx (vf vb vp : Value) (n : Nat) (X : Nat) (xs : List Nat) (us : List Value) : List Ox := [⟨vf, 68, 4, n, cM (X :: xs)⟩, ⟨vb, 5, 1, 33, bs (cK gP)⟩, ⟨vp, 22, 1, n, vb :: us⟩]
end
section
open Go.RowKit Go.Mv Mvp Mvq
theorem p0L (st : List UInt8) : btL st [] = st := rfl
theorem Rd.cellAt {w : World} {b o n : Nat} {vs : List Value} (h : Rd w (some ⟨b, o, none⟩) n vs) {j : Nat} {v : Value} (hj : vs[j]? = some v) : w.cell? ⟨b, o + j, none⟩ = some v := by
 have hl := h.len
 have hlt : j < vs.length := by
  by_cases h2 : j < vs.length
  ·exact h2
  ·rw [List.getElem?_eq_none Ab] at hj; cases hj
 obtain ⟨b', o', he, ha⟩ := h.at Ab
 cases he
 first | exact ha j v hj | (have := ha j; simp_all)
theorem g0O {w : World} {base : Nat} {T : TypeId} {sz g o' n cap : Nat} {L : List Value} (hw : Go.Mv.Own w base T sz (.slice (some ⟨g, o', none⟩) n cap) n L) {o : Oper} {a : Act} {ty : TypeId} {x : Operand} (ho : o.op = .load ty x) {k : Nat} (hx : a.eval x = .pointer (some ⟨g, o' + k, none⟩)) (cs : List Value) (hc : (L.drop k).take cs.length = cs)
  {d : TypeDesc} (hu : prog.underlying ty = some d) (hd : d.isRow = true) (hi : (prog.info? ty).map (·.size) = some cs.length) : (execOp a.eval o).run prog w = .ok (.value (.agg cs.toArray)) w := by
 obtain ⟨a2, c2, he, -, hr, -⟩ := hw.form
 cases he
 unfold execOp
 simp only [ho, hx, Instr.loadAt, Instr.sureAddr, Sem.run_bind, Sem.run_pure, Result.andThen_ok, run_loadVar_mid w g (o' + k) ty cs d (sJ hr k cs hc) hu hd hi]
theorem r0Y (ap : Option Addr) (np cp : Nat) (pub : List UInt8) (at_ : Option Addr) (nt ct : Nat) (text : List UInt8) (as_ : Option Addr) (ns cs : Nat) (s : List UInt8) (w : World) (hp : PartIs w (.slice ap np cp) pub) (ht : PartIs w (.slice at_ nt ct) text) (hs : PartIs w (.slice as_ ns cs) s) :
  Calls prog 60 #[.slice ap np cp, .slice at_ nt ct, .slice as_ ns cs] w fun e w' => ∃ cells : List Value, e = .returned (.tuple #[.agg cells.toArray, .bool (rdG pub s)]) ∧ cells.length = 10 ∧ (∀ v ∈ cells, v.oneCell' = true) ∧ (rdG pub s = true → ∃ b o, as_ = some ⟨b, o, none⟩ ∧ cells = sgC (.slice ap np cp) (.slice (some ⟨b, o, none⟩) 33 cs) (elN mQ (cU pub (s.take 33) text)) (elN mQ (beN (s.drop 33)))) ∧ Fr Nob w w' := by
 cases h : rdG pub s with
 | false => exact (p0H ap np cp pub at_ nt ct text as_ ns cs s w hp ht hs h).mono fun e w' ⟨cells, k1, k2, k3, k4⟩ => ⟨cells, k1, k2, k3, fun h => (by cases h), k4⟩
 | true => exact (m0t ap np cp pub at_ nt ct text as_ ns cs s w hp ht hs h).mono fun e w' ⟨b, o, k1, k2, k3⟩ => ⟨_, k2, fH _ _ _ _, kG _ _ _ _ _ _ _ _, fun _ => ⟨b, o, k1, rfl⟩, k3⟩
theorem r0Z (n : Nat) (al : Option Addr) (c : Nat) (xs : List Nat) (bl : Option Addr) (d : Nat) (us : List Value) (lp : List (List UInt8)) (w : World) (h1 : xs.length = n) (h2 : lp.length = n) (hv : Rd w al (n * 4) (cM xs)) (hn : n ≤ 100000) (hu : Rd w bl n us) (hq : BParts w us lp) :
  Calls prog 62 #[.slice al n c, .slice bl n d] w fun e w' => ∃ v, e = .returned v ∧ OwnB1 w w' v (rO (zB xs) lp) ∧ Fr Nob w w' := by
 subst h1
 have h := s0S al c xs bl d us lp w hv hn (by rw [h2]; exact hu) hq
 rwa [h2] at h
attribute [local irreducible] bI lw mix cw cT dG cS bQ aO beN dO cI dI bM bT elN mdL cL rtV dW cK dM fD dE gY xV rO bV cO dD toB aW bG cR eD bH eU cA bD dX fZ cM oD sgF sgZ chN dS eM tS kA bA bR btL wSt wN okT btB
theorem vO (ap : Option Addr) (np cp : Nat) (at_ : Option Addr) (nt ct : Nat) (as_ : Option Addr) (ns cs : Nat) (w : World) (h : nt ≠ np) : Calls prog 30 #[.slice ap np cp, .slice at_ nt ct, .slice as_ ns cs] w fun e w' => e = .returned (.tuple #[.bool false, .int .i64 2]) ∧ Fr Nob w w' := by
 have hJ : ((nt : Int) != (np : Int)) = true := by simp; omega
 clear h
 have st0 := qH (Fr.refl Nob w)
 go_enter func30, ntmps30
 go_wp2_with fail
 go_ret2
 exact ⟨rfl, st0.out⟩
theorem d0I (ap : Option Addr) (np cp : Nat) (at_ : Option Addr) (nt ct : Nat) (as_ : Option Addr) (ns cs : Nat) (w : World) (h : ns ≠ np) : Calls prog 30 #[.slice ap np cp, .slice at_ nt ct, .slice as_ ns cs] w fun e w' => e = .returned (.tuple #[.bool false, .int .i64 2]) ∧ Fr Nob w w' := by
 by_cases h2 : nt = np
 ·subst h2
  have hJ : ((ns : Int) != (nt : Int)) = true := by simp; omega
  clear h
  have st0 := qH (Fr.refl Nob w)
  go_enter func30, ntmps30
  go_wp2_with fail
  go_ret2
  exact ⟨rfl, st0.out⟩
 ·exact vO ap np cp at_ nt ct as_ ns cs w h2
theorem g0P (ap : Option Addr) (np cp : Nat) (at_ : Option Addr) (ct : Nat) (as_ : Option Addr) (cs : Nat) (w : World) (h : 64 < np) : Calls prog 30 #[.slice ap np cp, .slice at_ np ct, .slice as_ np cs] w fun e w' => e = .returned (.tuple #[.bool false, .int .i64 1]) ∧ Fr Nob w w' := by
 have hJ : (64 : Int) < (np : Int) := by omega
 clear h
 have st0 := qH (Fr.refl Nob w)
 go_enter func30, ntmps30
 go_wp2_with fail
 go_ret2
 exact ⟨rfl, st0.out⟩
theorem _root_.Ba {p : Prop} (h : p := by clear hG; go_simp; try with_reducible rfl) : p := h
theorem _root_.Ak {p : Prop} (h : p := by go_simp; try with_reducible rfl) : p := h
theorem j0T (ap : Option Addr) (cp : Nat) (at_ : Option Addr) (ct : Nat) (as_ : Option Addr) (n cs : Nat) (vp vt vs : List Value) (lp lt ls : List (List UInt8)) (w : World) (hn : n ≤ 64) (rp : Rd w ap n vp) (rt : Rd w at_ n vt) (rs : Rd w as_ n vs) (pp : Parts w vp lp) (pt : Parts w vt lt) (ps : Parts w vs ls) (T : List Trp) (ST : List UInt8) (hT : lp.zip (lt.zip ls) = T) (hST : btL (b0l gR) T = ST) : Calls prog 30 #[.slice ap n cp, .slice at_ n ct, .slice as_ n cs] w fun e w' => e = .returned (.tuple #[.bool (btB ST T), .int .i64 0]) ∧ Fr Nob w w' := by
 have HN := qH hn
 have HRP := qH rp
 have HRT := qH rt
 have HRS := qH rs
 have HPP := qH pp
 have HPT := qH pt
 have HPS := qH ps
 have hI : ¬ ((64 : Int) < (n : Int)) := by omega
 have HZL := qH (show T.length = n by rw [← hT, List.length_zip, List.length_zip, ← pp.len, ← pt.len, ← ps.len, rp.len, rt.len, rs.len]; simp)
 have HT := qH hT
 have HST := qH hST
 clear hn rp rt rs pp pt ps hT hST
 have st0 := St.start Nob w
 go_enter func30, ntmps30
 go_wp2_with fail
 refine (b0q ⟨#[98, 97, 116, 99, 104]⟩ _ Ac).mono ?_
 rintro e' w1 ⟨g, rfl, hle, hl, hf1⟩
 have HG := qH hle
 have HL := qH hl
 have HBS := qH hf1.size
 have st1 := st0.keep hf1
 clear st0 hle hl hf1
 go_wp2_with (with_reducible refine AA 9 ?_)
 refine fK st1 rfl rfl s0B [.pointer none] rfl ?_
 intro g9 w2 st2 hf2 hs2
 have HL2 := qH (HL.out.still hf2)
 clear st1 hf2 hs2 HL
 go_wp2_with (with_reducible refine AB ?_)
 refine gS st2 0 rfl rfl rfl rfl rfl (cs := [.pointer (some ⟨g, 0, none⟩)]) rfl rfl (by simp [Value.oneCell']) ?_
 intro w3 st3 hf3
 have HL3 := qH (HL2.out.off hf3 (st2.at 0 rfl) Ac Ac)
 have ST := qH st3
 clear st2 st3 hf3 HL2
 go_wp2_with fail
 go_loopw [36] (fun i wr => ∃ j : Nat, j ≤ n ∧ i = .int .i64 (j : Int) ∧ LogAt wr w.heap.size g (btL (b0l gR) (T.take j)) ∧ St Nob w wr [(g9, [.pointer (some ⟨g, 0, none⟩)], 128)]) (fun i _ => n - (intOf i).toNat)
 case atStart => exact ⟨0, Nat.zero_le _, rfl, by rw [List.take_zero, p0L]; exact HL3.out, ST.out⟩
 case round =>
  clear HL3 ST
  obtain ⟨j, hj, rfl, hlj, hst⟩ := hrel
  by_cases hlt : j < n
  ·skip
   have hltI : (j : Int) < (n : Int) := by omega
   obtain ⟨bp, op, rfl, -⟩ := HRP.out.at Ab
   obtain ⟨vpj, hgp⟩ : ∃ v, vp[j]? = some v := ⟨_, List.getElem?_eq_getElem (by rw [HRP.out.len]; exact hlt)⟩
   obtain ⟨lpj, hlp, hpp⟩ := HPP.out.get j vpj hgp
   obtain ⟨aap, nnp, ccp, rfl, kp⟩ := hpp
   have HQp := qH (show PartIs w (.slice aap nnp ccp) lpj from ⟨aap, nnp, ccp, rfl, kp⟩)
   have HGp := qH hgp
   have HLp := qH hlp
   clear kp hgp hlp
   obtain ⟨bt, ot, rfl, -⟩ := HRT.out.at Ab
   obtain ⟨vtj, hgt⟩ : ∃ v, vt[j]? = some v := ⟨_, List.getElem?_eq_getElem (by rw [HRT.out.len]; exact hlt)⟩
   obtain ⟨ltj, hlt, hpt⟩ := HPT.out.get j vtj hgt
   obtain ⟨aat, nnt, cct, rfl, kt⟩ := hpt
   have HQt := qH (show PartIs w (.slice aat nnt cct) ltj from ⟨aat, nnt, cct, rfl, kt⟩)
   have HGt := qH hgt
   have HLt := qH hlt
   clear kt hgt hlt
   obtain ⟨bs_, os, rfl, -⟩ := HRS.out.at Ab
   obtain ⟨vsj, hgs⟩ : ∃ v, vs[j]? = some v := ⟨_, List.getElem?_eq_getElem (by rw [HRS.out.len]; exact hlt)⟩
   obtain ⟨lsj, hls, hps⟩ := HPS.out.get j vsj hgs
   obtain ⟨aas, nns, ccs, rfl, ks⟩ := hps
   have HQs := qH (show PartIs w (.slice aas nns ccs) lsj from ⟨aas, nns, ccs, rfl, ks⟩)
   have HGs := qH hgs
   have HLs := qH hls
   clear ks hgs hls
   have HLJ := qH hlj
   clear hlj hj
   go_wp2_with fail
   refine wp_region_noPanic ?_
   have hd10 := hst.drew
   clear hst
   refine fU (fun wx => St Nob w wx [(g9, [.pointer (some ⟨g, 0, none⟩)], 128)] ∧ Fr Nob (World.drew _) wx) [0, 1, 2, 3, 4, 5, 6, 7, 8, 9, 10, 11, 12, 13, 14, 15, 16] [] (fun i => match i with | 0 => [] | 1 => [] | 2 => [] | 3 => [1, 2] | 4 => [3] | 5 => [4] | 6 => [] | 7 => [] | 8 => [6, 7] | 9 => [8] | 10 => [9] | 11 => [] | 12 => [] | 13 => [11, 12] | 14 => [13] | 15 => [14] | 16 => [5, 10, 15] | _ => []) (fun i x wx => match i with | 0 => x 0 = tkV g | 1 => x 1 = .slice (some ⟨bp, op, none⟩) n cp | 2 => x 2 = .int .i64 (j : Int) | 3 => x 3 = .pointer (some ⟨bp, op + j, none⟩) | 4 => x 4 = .slice aap nnp ccp | 5 => x 5 = .agg #[.string ⟨#[112, 117, 98, 108, 105, 99]⟩, .slice aap nnp ccp] | 6 => x 6 = .slice (some ⟨bt, ot, none⟩) n ct | 7 => x 7 = .int .i64 (j : Int) | 8 => x 8 = .pointer (some ⟨bt, ot + j, none⟩) | 9 => x 9 = .slice aat nnt cct | 10 => x 10 = .agg #[.string ⟨#[116, 101, 120, 116]⟩, .slice aat nnt cct] | 11 => x 11 = .slice (some ⟨bs_, os, none⟩) n cs | 12 => x 12 = .int .i64 (j : Int) | 13 => x 13 = .pointer (some ⟨bs_, os + j, none⟩) | 14 => x 14 = .slice aas nns ccs | 15 => x 15 = .agg #[.string ⟨#[115, 105, 103, 110]⟩, .slice aas nns ccs] | 16 => ∃ g : Nat, x 16 = .slice (some ⟨g, 0, none⟩) 3 3 ∧ Has wx g (sdC [(⟨#[112, 117, 98, 108, 105, 99]⟩, .slice aap nnp ccp), (⟨#[116, 101, 120, 116]⟩, .slice aat nnt cct), (⟨#[115, 105, 103, 110]⟩, .slice aas nns ccs)]) 132 | _ => True) 17 (.m 17 .nil) ?_ (fun x => ?_) Aa Aa (fun _ _ _ _ _ h => h) ⟨hd10, Fr.refl _ _⟩ (fun _ _ h k => ⟨h.1.keep k, h.2.then k⟩) ?_ ?_
   rotate_left 1
   ·simp only [qC, k0h, Act.put, List.getElem?_toArray, List.getElem?_cons_zero, List.getElem?_cons_succ, List.setIfInBounds_toArray, List.set_cons_zero, List.set_cons_succ]
    exact rfl
   refine aN rfl rfl (fun x wx hG hp => ?_) (fun y _ _ h k => h) ?_
   ·try dsimp only
    clear hp
    exact dF (v := tkV g) (jE (hG.1.at 0 rfl) (x := .tmp 9) (p := 0) rfl rfl [.pointer (some ⟨g, 0, none⟩)] rfl underlying128 rfl Aa) rfl
   refine aN rfl rfl (fun x wx hG hp => ?_) (fun y _ _ h k => h) ?_
   ·try dsimp only
    clear hp
    exact dF (v := .slice (some ⟨bp, op, none⟩) n cp) Ak rfl
   refine aN rfl rfl (fun x wx hG hp => ?_) (fun y _ _ h k => h) ?_
   ·try dsimp only
    clear hp
    exact dF (v := .int .i64 (j : Int)) Ak rfl
   refine aN rfl rfl (fun x wx hG hp => ?_) (fun y _ _ h k => h) ?_
   ·try dsimp only
    have e1 : x 1 = .slice (some ⟨bp, op, none⟩) n cp := hp 1 Ac
    generalize x 1 = v1 at e1 ⊢
    subst e1
    have e2 : x 2 = .int .i64 (j : Int) := hp 2 Ac
    generalize x 2 = v2 at e2 ⊢
    subst e2
    clear hp
    exact dF (v := .pointer (some ⟨bp, op + j, none⟩)) Ak rfl
   refine aN rfl rfl (fun x wx hG hp => ?_) (fun y _ _ h k => h) ?_
   ·try dsimp only
    have e3 : x 3 = .pointer (some ⟨bp, op + j, none⟩) := hp 3 Ac
    generalize x 3 = v3 at e3 ⊢
    subst e3
    clear hp
    have hc := Rd.cellAt (HRP.out.still hG.1.fr) HGp.out
    exact dF (v := .slice aap nnp ccp) Ba rfl
   refine aN rfl rfl (fun x wx hG hp => ?_) (fun y _ _ h k => h) ?_
   ·try dsimp only
    have e4 : x 4 = .slice aap nnp ccp := hp 4 Ac
    generalize x 4 = v4 at e4 ⊢
    subst e4
    clear hp
    exact dF (v := .agg #[.string ⟨#[112, 117, 98, 108, 105, 99]⟩, .slice aap nnp ccp]) (cC rfl _ (jD _ _ _ _) _) rfl
   refine aN rfl rfl (fun x wx hG hp => ?_) (fun y _ _ h k => h) ?_
   ·try dsimp only
    clear hp
    exact dF (v := .slice (some ⟨bt, ot, none⟩) n ct) Ak rfl
   refine aN rfl rfl (fun x wx hG hp => ?_) (fun y _ _ h k => h) ?_
   ·try dsimp only
    clear hp
    exact dF (v := .int .i64 (j : Int)) Ak rfl
   refine aN rfl rfl (fun x wx hG hp => ?_) (fun y _ _ h k => h) ?_
   ·try dsimp only
    have e6 : x 6 = .slice (some ⟨bt, ot, none⟩) n ct := hp 6 Ac
    generalize x 6 = v6 at e6 ⊢
    subst e6
    have e7 : x 7 = .int .i64 (j : Int) := hp 7 Ac
    generalize x 7 = v7 at e7 ⊢
    subst e7
    clear hp
    exact dF (v := .pointer (some ⟨bt, ot + j, none⟩)) Ak rfl
   refine aN rfl rfl (fun x wx hG hp => ?_) (fun y _ _ h k => h) ?_
   ·try dsimp only
    have e8 : x 8 = .pointer (some ⟨bt, ot + j, none⟩) := hp 8 Ac
    generalize x 8 = v8 at e8 ⊢
    subst e8
    clear hp
    have hc := Rd.cellAt (HRT.out.still hG.1.fr) HGt.out
    exact dF (v := .slice aat nnt cct) Ba rfl
   refine aN rfl rfl (fun x wx hG hp => ?_) (fun y _ _ h k => h) ?_
   ·try dsimp only
    have e9 : x 9 = .slice aat nnt cct := hp 9 Ac
    generalize x 9 = v9 at e9 ⊢
    subst e9
    clear hp
    exact dF (v := .agg #[.string ⟨#[116, 101, 120, 116]⟩, .slice aat nnt cct]) (cC rfl _ (jD _ _ _ _) _) rfl
   refine aN rfl rfl (fun x wx hG hp => ?_) (fun y _ _ h k => h) ?_
   ·try dsimp only
    clear hp
    exact dF (v := .slice (some ⟨bs_, os, none⟩) n cs) Ak rfl
   refine aN rfl rfl (fun x wx hG hp => ?_) (fun y _ _ h k => h) ?_
   ·try dsimp only
    clear hp
    exact dF (v := .int .i64 (j : Int)) Ak rfl
   refine aN rfl rfl (fun x wx hG hp => ?_) (fun y _ _ h k => h) ?_
   ·try dsimp only
    have e11 : x 11 = .slice (some ⟨bs_, os, none⟩) n cs := hp 11 Ac
    generalize x 11 = v11 at e11 ⊢
    subst e11
    have e12 : x 12 = .int .i64 (j : Int) := hp 12 Ac
    generalize x 12 = v12 at e12 ⊢
    subst e12
    clear hp
    exact dF (v := .pointer (some ⟨bs_, os + j, none⟩)) Ak rfl
   refine aN rfl rfl (fun x wx hG hp => ?_) (fun y _ _ h k => h) ?_
   ·try dsimp only
    have e13 : x 13 = .pointer (some ⟨bs_, os + j, none⟩) := hp 13 Ac
    generalize x 13 = v13 at e13 ⊢
    subst e13
    clear hp
    have hc := Rd.cellAt (HRS.out.still hG.1.fr) HGs.out
    exact dF (v := .slice aas nns ccs) Ba rfl
   refine aN rfl rfl (fun x wx hG hp => ?_) (fun y _ _ h k => h) ?_
   ·try dsimp only
    have e14 : x 14 = .slice aas nns ccs := hp 14 Ac
    generalize x 14 = v14 at e14 ⊢
    subst e14
    clear hp
    exact dF (v := .agg #[.string ⟨#[115, 105, 103, 110]⟩, .slice aas nns ccs]) (cC rfl _ (jD _ _ _ _) _) rfl
   refine aN rfl rfl (fun x wx hG hp => ?_) (fun y _ _ h k => by obtain ⟨g, h1, h2⟩ := h; exact ⟨g, h1, h2.keep k id⟩) ?_
   ·try dsimp only
    have e5 : x 5 = .agg #[.string ⟨#[112, 117, 98, 108, 105, 99]⟩, .slice aap nnp ccp] := hp 5 Ac
    generalize x 5 = v5 at e5 ⊢
    subst e5
    have e10 : x 10 = .agg #[.string ⟨#[116, 101, 120, 116]⟩, .slice aat nnt cct] := hp 10 Ac
    generalize x 10 = v10 at e10 ⊢
    subst e10
    have e15 : x 15 = .agg #[.string ⟨#[115, 105, 103, 110]⟩, .slice aas nns ccs] := hp 15 Ac
    generalize x 15 = v15 at e15 ⊢
    subst e15
    clear hp
    refine f0l rfl underlying193 xT [.agg #[.string ⟨#[112, 117, 98, 108, 105, 99]⟩, .slice aap nnp ccp], .agg #[.string ⟨#[116, 101, 120, 116]⟩, .slice aat nnt cct], .agg #[.string ⟨#[115, 105, 103, 110]⟩, .slice aas nns ccs]] rfl Ay rfl (sdC [(⟨#[112, 117, 98, 108, 105, 99]⟩, .slice aap nnp ccp), (⟨#[116, 101, 120, 116]⟩, .slice aat nnt cct), (⟨#[115, 105, 103, 110]⟩, .slice aas nns ccs)]) (by unfold sdC; simp [Value.cells]) (fun g w' hf _ hg => ⟨g, rfl, hg⟩)
   exact trivial
   intro x w11 hG hp
   try dsimp only
   have e0 : x 0 = tkV g := hp 0 Ac
   generalize x 0 = v0 at e0 ⊢
   subst e0
   have e16 : ∃ g : Nat, x 16 = .slice (some ⟨g, 0, none⟩) 3 3 ∧ Has w11 g (sdC [(⟨#[112, 117, 98, 108, 105, 99]⟩, .slice aap nnp ccp), (⟨#[116, 101, 120, 116]⟩, .slice aat nnt cct), (⟨#[115, 105, 103, 110]⟩, .slice aas nns ccs)]) 132 := hp 16 Ac
   obtain ⟨gl, e16, HGL⟩ := e16
   generalize x 16 = v16 at e16 ⊢
   subst e16
   clear hp
   generalize x 1 = v1
   generalize x 2 = v2
   generalize x 3 = v3
   generalize x 4 = v4
   generalize x 5 = v5
   generalize x 6 = v6
   generalize x 7 = v7
   generalize x 8 = v8
   generalize x 9 = v9
   generalize x 10 = v10
   generalize x 11 = v11
   generalize x 12 = v12
   generalize x 13 = v13
   generalize x 14 = v14
   generalize x 15 = v15
   have st11 := hG.1
   have HLX := qH (HLJ.out.still ((Fr.refl Nob _).drew.then hG.2))
   clear hG hd10
   refine aU rfl rfl ?_
   go_simp
   refine (e0r w _ g _ gl 3 [(⟨#[112, 117, 98, 108, 105, 99]⟩, .slice aap nnp ccp), (⟨#[116, 101, 120, 116]⟩, .slice aat nnt cct), (⟨#[115, 105, 103, 110]⟩, .slice aas nns ccs)] [lpj, ltj, lsj] _ HG.out st11.fr st11.fr.size HLX.out HGL Ae (by intro x hx; simp only [List.mem_cons, List.not_mem_nil, or_false] at hx; rcases hx with rfl | rfl | rfl <;> simp <;> decide) ⟨HQp.out, HQt.out, HQs.out, trivial⟩).mono ?_
   rintro e' w12 ⟨rfl, hl6, hf6⟩
   have st12 := st11.keep1 hf6 (.inl HG.out) (HLX.out.notIn st11.has (by intro x hx; simp only [List.mem_cons, List.not_mem_nil, or_false] at hx; subst hx; dsimp only; decide))
   have HL6 := qH hl6
   clear hl6 hf6 HGL HLX HLJ
   clear st11
   try simp only []
   refine aH ?_
   refine NoPanic.normal ?_
   have HZ := qH (show T.take (j + 1) = T.take j ++ [(lpj, ltj, lsj)] by
    rw [List.take_add_one, show T[j]? = some (lpj, ltj, lsj) from HT.out ▸ List.getElem?_zip_eq_some.2 ⟨HLp.out, List.getElem?_zip_eq_some.2 ⟨HLt.out, HLs.out⟩⟩]
    rfl)
   have STE := qH st12
   clear st12
   go_wp2_with fail
   go_roundw
   case rel => exact ⟨j + 1, by omega, by go_num, by rw [HZ.out, a0q]; exact HL6.out, STE.out⟩
   case measure => simp [intOf]; omega
  ·skip
   have hge : ¬ ((j : Int) < (n : Int)) := by omega
   rw [List.take_of_length_le (by have := HZL.out; omega), HST.out] at hlj
   have HLJ := qH hlj
   clear hlj hlt hj
   go_wp2_with (with_reducible refine AA 58 ?_)
   refine cD rfl rfl _ m0w ?_
   go_wp2_with (with_reducible refine AA 59 ?_)
   refine nD rfl rfl underlying93 i0k [i4 (elN mQ 0)] rfl (by intro u hu; rw [List.mem_singleton.1 hu]; exact r0N _) rfl (cM [0]) (by rw [yA, List.flatMap_cons, List.flatMap_nil, List.append_nil]; rfl) ?_
   intro w5 hh5 hf5 hz5
   have hos5 := OwS.new (OwS.nil (w := wr) (base := w.heap.size) (X := fun k => k ∈ [g9, g]) (by intro k hk; exact (List.mem_cons.1 hk).elim (fun e => by rw [e]; exact (hst.at 0 rfl).lt) (fun e => by rw [List.mem_singleton.1 e]; exact HLJ.out.lt))) hf5 (x := ⟨.slice (some ⟨wr.heap.size, 0, none⟩) 1 1, 68, 4, 1, cM [0]⟩) (by have h := Go.Mv.Own.made hh5 wr.heap.size (Nat.le_refl _) 4 1 1 (Nat.le_refl _) Ac (by rw [qX]; decide); rwa [List.take_of_length_le (by rw [qX]; decide)] at h) hst.fr.size
   have st5 := hst.keep hf5
   have HL5 := qH (HLJ.out.still hf5)
   clear hst HLJ hh5 hf5 hz5
   generalize wr.heap.size = gf at *
   have HO5 := qH hos5
   clear hos5
   go_wp2_with fail
   refine (vD _).mono ?_
   rintro e' w6 ⟨vb, rfl, hob, hf6⟩
   have hob2 : Go.Mv.Own w6 w5.heap.size 5 1 vb 33 (bs (cK gP)) := by have h : Go.Mv.Own w6 w5.heap.size 5 1 vb (cK gP).length (bs (cK gP)) := hob; rwa [eI] at h
   obtain ⟨ab, cb, rfl, -, -, -⟩ := hob2.form
   have hos6 := OwS.new HO5.out hf6 (x := ⟨.slice ab 33 cb, 5, 1, 33, bs (cK gP)⟩) hob2 st5.fr.size
   have st6 := st5.keep hf6
   have HL6 := qH (HL5.out.still hf6)
   clear st5 HL5 HO5 hob hob2 hf6
   have HO6 := qH hos6
   clear hos6
   go_wp2_with (with_reducible refine AA 61 ?_)
   refine dH rfl rfl underlying39 dV [.slice ab 33 cb] rfl Au rfl rfl ?_
   intro w7 hh7 hf7 hz7
   have hos7 := OwS.new HO6.out hf7 (x := ⟨.slice (some ⟨w6.heap.size, 0, none⟩) 1 1, 22, 1, 1, [.slice ab 33 cb]⟩) (Go.Mv.Own.made hh7 w6.heap.size (Nat.le_refl _) 1 1 1 (Nat.le_refl _) Ac Ae) st6.fr.size
   have st7 := st6.keep hf7
   have HL7 := qH (HL6.out.still hf7)
   clear st6 HL6 HO6 hh7 hf7 hz7
   generalize w6.heap.size = gp at *
   have HO7 := qH (show OwS w7 w.heap.size (fun k => k ∈ [g9, g]) (bOx (.slice (some ⟨gf, 0, none⟩) 1 1) (.slice ab 33 cb) (.slice (some ⟨gp, 0, none⟩) 1 1) 1 0 [] []) from hos7)
   have ST7 := qH st7
   clear hos7 st7 hge
   go_wp2_with fail
   go_loopw [64, 11, 12] (fun i vf vp wr => ∃ (j nf : Nat) (us : List Value), j ≤ n ∧ i = .int .i64 (j : Int) ∧ nf = 1 + 2 * j ∧ (∀ x ∈ T.take j, okT x = true) ∧ LogAt wr w.heap.size g (wSt ST j) ∧ St Nob w wr [(g9, [.pointer (some ⟨g, 0, none⟩)], 128)] ∧ OwS wr w.heap.size (fun k => k ∈ [g9, g]) (bOx vf (.slice ab 33 cb) vp nf (bA ST (T.take j)).X (bA ST (T.take j)).xs us) ∧ BParts w us (bA ST (T.take j)).ps) (fun i _ _ _ => n - (intOf i).toNat)
   case atStart => exact ⟨0, 1, [], Nat.zero_le _, rfl, rfl, fun x hx => (by rw [List.take_zero] at hx; cases hx), (by rw [r0X]; exact HL7.out), ST7.out, (by rw [List.take_zero, t0a]; exact HO7.out), (by rw [List.take_zero, t0a]; exact BParts.nil w)⟩
   case round =>
    clear HL7 HO7 ST7
    obtain ⟨j, nf, us, hj, rfl, hnf, hok, hlj, hst, hos, hbp⟩ := hrel
    have how0 := hos.at 0 rfl
    have how2 := hos.at 2 rfl
    dsimp only at how0 how2
    obtain ⟨af, cf, rfl, -, hrf, -⟩ := Go.Mv.Own.form how0
    obtain ⟨bf, of_, rfl, -⟩ := hrf.at Ab
    obtain ⟨aq, cq, rfl, -, hrq, -⟩ := Go.Mv.Own.form how2
    obtain ⟨bq, oq, rfl, -⟩ := hrq.at Ab
    clear hrf hrq how0 how2
    have HOK := qH hok
    have HNF := qH hnf
    have HBP := qH hbp
    have HO := qH hos
    clear hok hbp hos
    by_cases hlt : j < n
    ·skip
     have hltI : (j : Int) < (n : Int) := by omega
     obtain ⟨bp, op, rfl, -⟩ := HRP.out.at Ab
     obtain ⟨vpj, hgp⟩ : ∃ v, vp[j]? = some v := ⟨_, List.getElem?_eq_getElem (by rw [HRP.out.len]; exact hlt)⟩
     obtain ⟨lpj, hlp, hpp⟩ := HPP.out.get j vpj hgp
     obtain ⟨aap, nnp, ccp, rfl, kp⟩ := hpp
     have HQp := qH (show PartIs w (.slice aap nnp ccp) lpj from ⟨aap, nnp, ccp, rfl, kp⟩)
     have HGp := qH hgp
     have HLp := qH hlp
     clear kp hgp hlp
     obtain ⟨bt, ot, rfl, -⟩ := HRT.out.at Ab
     obtain ⟨vtj, hgt⟩ : ∃ v, vt[j]? = some v := ⟨_, List.getElem?_eq_getElem (by rw [HRT.out.len]; exact hlt)⟩
     obtain ⟨ltj, hlt, hpt⟩ := HPT.out.get j vtj hgt
     obtain ⟨aat, nnt, cct, rfl, kt⟩ := hpt
     have HQt := qH (show PartIs w (.slice aat nnt cct) ltj from ⟨aat, nnt, cct, rfl, kt⟩)
     have HGt := qH hgt
     have HLt := qH hlt
     clear kt hgt hlt
     obtain ⟨bs_, os, rfl, -⟩ := HRS.out.at Ab
     obtain ⟨vsj, hgs⟩ : ∃ v, vs[j]? = some v := ⟨_, List.getElem?_eq_getElem (by rw [HRS.out.len]; exact hlt)⟩
     obtain ⟨lsj, hls, hps⟩ := HPS.out.get j vsj hgs
     obtain ⟨aas, nns, ccs, rfl, ks⟩ := hps
     have HQs := qH (show PartIs w (.slice aas nns ccs) lsj from ⟨aas, nns, ccs, rfl, ks⟩)
     have HGs := qH hgs
     have HLs := qH hls
     clear ks hgs hls
     have HNX := qH (show T[j]? = some (lpj, ltj, lsj) from HT.out ▸ List.getElem?_zip_eq_some.2 ⟨HLp.out, List.getElem?_zip_eq_some.2 ⟨HLt.out, HLs.out⟩⟩)
     have hI0 : ¬ nf = 0 := by omega
     have HLT := qH hlt
     have HLJ := qH hlj
     clear hlj hj hnf hlt
     obtain ⟨B, hB⟩ : ∃ B, rdG lpj lsj = B := ⟨_, rfl⟩
     have HB := qH hB
     clear hB
     go_wp2_with fail
     refine wp_region_noPanic ?_
     have hd30 := hst.drew
     clear hst
     refine fU (fun wx => St Nob w wx [(g9, [.pointer (some ⟨g, 0, none⟩)], 128)] ∧ Fr Nob (World.drew _) wx) [0, 1, 2, 3, 4, 5, 6, 7, 8, 9, 10, 11, 12, 13, 14, 15, 16] [15] (fun i => match i with | 0 => [] | 1 => [] | 2 => [0, 1] | 3 => [2] | 4 => [] | 5 => [] | 6 => [4, 5] | 7 => [6] | 8 => [] | 9 => [] | 10 => [8, 9] | 11 => [10] | 12 => [3, 7, 11] | 13 => [12] | 14 => [13] | 15 => [13] | 16 => [] | _ => []) (fun i x wx => match i with | 0 => x 0 = .slice (some ⟨bp, op, none⟩) n cp | 1 => x 1 = .int .i64 (j : Int) | 2 => x 2 = .pointer (some ⟨bp, op + j, none⟩) | 3 => x 3 = .slice aap nnp ccp | 4 => x 4 = .slice (some ⟨bt, ot, none⟩) n ct | 5 => x 5 = .int .i64 (j : Int) | 6 => x 6 = .pointer (some ⟨bt, ot + j, none⟩) | 7 => x 7 = .slice aat nnt cct | 8 => x 8 = .slice (some ⟨bs_, os, none⟩) n cs | 9 => x 9 = .int .i64 (j : Int) | 10 => x 10 = .pointer (some ⟨bs_, os + j, none⟩) | 11 => x 11 = .slice aas nns ccs | 12 => ∃ cells : List Value, x 12 = .tuple #[.agg cells.toArray, .bool B] ∧ SgK B aap nnp ccp aas ccs lpj ltj lsj cells | 13 => ∃ cells : List Value, x 13 = .tuple #[.agg cells.toArray, .bool B] ∧ SgK B aap nnp ccp aas ccs lpj ltj lsj cells | 14 => ∃ cells : List Value, x 14 = .agg cells.toArray ∧ SgK B aap nnp ccp aas ccs lpj ltj lsj cells | 15 => x 15 = .bool B | 16 => ∃ g, x 16 = .pointer (some ⟨g, 0, none⟩) ∧ Has wx g (sgC (.slice none 0 0) (.slice none 0 0) 0 0) 85 ∧ wr.heap.size ≤ g | _ => True) 18 (.r 17 (.m 18 .nil)) ?_ (fun x => ?_) Aa Aa (fun _ _ _ _ _ h => h) ⟨hd30, Fr.refl _ _⟩ (fun _ _ h k => ⟨h.1.keep k, h.2.then k⟩) ?_ ?_
     rotate_left 1
     ·simp only [qC, k0h, Act.put, List.getElem?_toArray, List.getElem?_cons_zero, List.getElem?_cons_succ, List.setIfInBounds_toArray, List.set_cons_zero, List.set_cons_succ]
      exact rfl
     refine aN rfl rfl (fun x wx hG hp => ?_) (fun y _ _ h k => h) ?_
     ·try dsimp only
      clear hp
      exact dF (v := .slice (some ⟨bp, op, none⟩) n cp) Ak rfl
     refine aN rfl rfl (fun x wx hG hp => ?_) (fun y _ _ h k => h) ?_
     ·try dsimp only
      clear hp
      exact dF (v := .int .i64 (j : Int)) Ak rfl
     refine aN rfl rfl (fun x wx hG hp => ?_) (fun y _ _ h k => h) ?_
     ·try dsimp only
      have e0 : x 0 = .slice (some ⟨bp, op, none⟩) n cp := hp 0 Ac
      generalize x 0 = v0 at e0 ⊢
      subst e0
      have e1 : x 1 = .int .i64 (j : Int) := hp 1 Ac
      generalize x 1 = v1 at e1 ⊢
      subst e1
      clear hp
      exact dF (v := .pointer (some ⟨bp, op + j, none⟩)) Ak rfl
     refine aN rfl rfl (fun x wx hG hp => ?_) (fun y _ _ h k => h) ?_
     ·try dsimp only
      have e2 : x 2 = .pointer (some ⟨bp, op + j, none⟩) := hp 2 Ac
      generalize x 2 = v2 at e2 ⊢
      subst e2
      clear hp
      have hc := Rd.cellAt (HRP.out.still hG.1.fr) HGp.out
      exact dF (v := .slice aap nnp ccp) Ba rfl
     refine aN rfl rfl (fun x wx hG hp => ?_) (fun y _ _ h k => h) ?_
     ·try dsimp only
      clear hp
      exact dF (v := .slice (some ⟨bt, ot, none⟩) n ct) Ak rfl
     refine aN rfl rfl (fun x wx hG hp => ?_) (fun y _ _ h k => h) ?_
     ·try dsimp only
      clear hp
      exact dF (v := .int .i64 (j : Int)) Ak rfl
     refine aN rfl rfl (fun x wx hG hp => ?_) (fun y _ _ h k => h) ?_
     ·try dsimp only
      have e4 : x 4 = .slice (some ⟨bt, ot, none⟩) n ct := hp 4 Ac
      generalize x 4 = v4 at e4 ⊢
      subst e4
      have e5 : x 5 = .int .i64 (j : Int) := hp 5 Ac
      generalize x 5 = v5 at e5 ⊢
      subst e5
      clear hp
      exact dF (v := .pointer (some ⟨bt, ot + j, none⟩)) Ak rfl
     refine aN rfl rfl (fun x wx hG hp => ?_) (fun y _ _ h k => h) ?_
     ·try dsimp only
      have e6 : x 6 = .pointer (some ⟨bt, ot + j, none⟩) := hp 6 Ac
      generalize x 6 = v6 at e6 ⊢
      subst e6
      clear hp
      have hc := Rd.cellAt (HRT.out.still hG.1.fr) HGt.out
      exact dF (v := .slice aat nnt cct) Ba rfl
     refine aN rfl rfl (fun x wx hG hp => ?_) (fun y _ _ h k => h) ?_
     ·try dsimp only
      clear hp
      exact dF (v := .slice (some ⟨bs_, os, none⟩) n cs) Ak rfl
     refine aN rfl rfl (fun x wx hG hp => ?_) (fun y _ _ h k => h) ?_
     ·try dsimp only
      clear hp
      exact dF (v := .int .i64 (j : Int)) Ak rfl
     refine aN rfl rfl (fun x wx hG hp => ?_) (fun y _ _ h k => h) ?_
     ·try dsimp only
      have e8 : x 8 = .slice (some ⟨bs_, os, none⟩) n cs := hp 8 Ac
      generalize x 8 = v8 at e8 ⊢
      subst e8
      have e9 : x 9 = .int .i64 (j : Int) := hp 9 Ac
      generalize x 9 = v9 at e9 ⊢
      subst e9
      clear hp
      exact dF (v := .pointer (some ⟨bs_, os + j, none⟩)) Ak rfl
     refine aN rfl rfl (fun x wx hG hp => ?_) (fun y _ _ h k => h) ?_
     ·try dsimp only
      have e10 : x 10 = .pointer (some ⟨bs_, os + j, none⟩) := hp 10 Ac
      generalize x 10 = v10 at e10 ⊢
      subst e10
      clear hp
      have hc := Rd.cellAt (HRS.out.still hG.1.fr) HGs.out
      exact dF (v := .slice aas nns ccs) Ba rfl
     refine aN rfl rfl (fun x wx hG hp => ?_) (fun y _ _ h k => h) ?_
     ·try dsimp only
      have e3 : x 3 = .slice aap nnp ccp := hp 3 Ac
      generalize x 3 = v3 at e3 ⊢
      subst e3
      have e7 : x 7 = .slice aat nnt cct := hp 7 Ac
      generalize x 7 = v7 at e7 ⊢
      subst e7
      have e11 : x 11 = .slice aas nns ccs := hp 11 Ac
      generalize x 11 = v11 at e11 ⊢
      subst e11
      clear hp
      refine xY rfl call60 (vs := [.slice aap nnp ccp, .slice aat nnt cct, .slice aas nns ccs]) rfl ?_
      refine (r0Y aap nnp ccp lpj aat nnt cct ltj aas nns ccs lsj _ (HQp.out.still hG.1.fr) (HQt.out.still hG.1.fr) (HQs.out.still hG.1.fr)).mono ?_
      rintro e w' ⟨cells, rfl, hcl, hco, hcs, hf⟩
      rw [HB.out] at hcs ⊢
      exact ⟨_, rfl, hf, cells, rfl, hcl, hco, hcs⟩
     refine aN rfl rfl (fun x wx hG hp => ?_) (fun y _ _ h k => h) ?_
     ·try dsimp only
      have e12 : ∃ cells : List Value, x 12 = .tuple #[.agg cells.toArray, .bool B] ∧ SgK B aap nnp ccp aas ccs lpj ltj lsj cells := hp 12 Ac
      obtain ⟨cells, e12, hcl⟩ := e12
      generalize x 12 = v12 at e12 ⊢
      subst e12
      clear hp
      exact dF (v := .tuple #[.agg cells.toArray, .bool B]) (by clear hG hcl; go_simp; try with_reducible rfl) ⟨cells, rfl, hcl⟩
     refine aN rfl rfl (fun x wx hG hp => ?_) (fun y _ _ h k => h) ?_
     ·try dsimp only
      have e13 : ∃ cells : List Value, x 13 = .tuple #[.agg cells.toArray, .bool B] ∧ SgK B aap nnp ccp aas ccs lpj ltj lsj cells := hp 13 Ac
      obtain ⟨cells, e13, hcl⟩ := e13
      generalize x 13 = v13 at e13 ⊢
      subst e13
      clear hp
      exact dF (v := .agg cells.toArray) (by clear hG hcl; go_simp; try with_reducible rfl) ⟨cells, rfl, hcl⟩
     refine g0D rfl rfl (fun x wx hG hp => ?_) (fun y _ _ h k => h) ?_
     ·try dsimp only
      have e13 : ∃ cells : List Value, x 13 = .tuple #[.agg cells.toArray, .bool B] ∧ SgK B aap nnp ccp aas ccs lpj ltj lsj cells := hp 13 Ac
      obtain ⟨cells, e13, hcl⟩ := e13
      generalize x 13 = v13 at e13 ⊢
      subst e13
      clear hp
      exact ⟨.bool B, fun wx => by clear hcl; go_simp; try with_reducible rfl, rfl⟩
     refine aN rfl rfl (fun x wx hG hp => ?_) (fun y _ _ h k => by obtain ⟨g, h1, h2, h3⟩ := h; exact ⟨g, h1, h2.keep k id, h3⟩) ?_
     ·try dsimp only
      clear hp
      exact c0g rfl g0E (sgC (.slice none 0 0) (.slice none 0 0) 0 0) rfl (fun g w' _ hle hg => ⟨g, rfl, hg, Nat.le_trans hG.2.size hle⟩)
     exact trivial
     intro x w31 hG hp
     try dsimp only
     have e16 : ∃ g, x 16 = .pointer (some ⟨g, 0, none⟩) ∧ Has w31 g (sgC (.slice none 0 0) (.slice none 0 0) 0 0) 85 ∧ wr.heap.size ≤ g := hp 16 Ac
     obtain ⟨ga16, e16, HG16, HL16⟩ := e16
     generalize x 16 = v16 at e16 ⊢
     subst e16
     have e14 : ∃ cells : List Value, x 14 = .agg cells.toArray ∧ SgK B aap nnp ccp aas ccs lpj ltj lsj cells := hp 14 Ac
     obtain ⟨cells, e14, hcl⟩ := e14
     generalize x 14 = v14 at e14 ⊢
     subst e14
     have e15 : x 15 = .bool B := hp 15 Ac
     generalize x 15 = v15 at e15 ⊢
     subst e15
     clear hp
     generalize x 0 = v0
     generalize x 1 = v1
     generalize x 2 = v2
     generalize x 3 = v3
     generalize x 4 = v4
     generalize x 5 = v5
     generalize x 6 = v6
     generalize x 7 = v7
     generalize x 8 = v8
     generalize x 9 = v9
     generalize x 10 = v10
     generalize x 11 = v11
     generalize x 12 = v12
     generalize x 13 = v13
     have st31 := hd30.new hG.2 HG16 HL16
     try simp only [List.cons_append, List.nil_append] at st31
     have HO16 := qH (OwS.grow HO.out ((Fr.refl Nob _).drew.then hG.2) HL16 HG16.lt)
     have HL17 := qH (HLJ.out.still ((Fr.refl Nob _).drew.then hG.2))
     have HCL := qH hcl
     clear hcl
     clear HL16 HG16
     clear hG hd30
     refine bC rfl rfl ?_
     refine g0H (cs := cells) st31 1 rfl rfl rfl rfl (by rw [HCL.out.1, fH]) (by rw [HCL.out.1]; kernel_rfl) HCL.out.2.1 ?_
     intro w32 st32 hfs
     simp only [List.set_cons_zero, List.set_cons_succ] at st32
     have HO18 := qH (HO16.out.keep hfs (by intro k hk; have e : k = ga16 := hk; rw [e]; exact List.mem_cons_self))
     have HL18 := qH (HL17.out.off hfs (st31.at 1 rfl) Ac Ac)
     clear HO16 HL17 hfs
     clear st31
     refine ⟨trivial, ?_⟩
     try simp only [Act.put]
     refine aU rfl rfl ?_
     go_simp
     try simp only [J]
     refine aH ?_
     refine NoPanic.normal ?_
     rcases B with _ | _
     ·skip
      have hfr := st32.fr
      clear st32
      clear hltI hI0
      go_wp2_with fail
      go_ret2
      exact ⟨by rw [n0s ST T HNX.out (by rw [f0n]; exact HB.out)]; rfl, hfr⟩
     have HGD := HB
     obtain ⟨bz, oz, rfl, rfl⟩ := HCL.out.2.2 rfl
     obtain rfl : nns = 65 := by have h := HGD.out; have h2 := qD HQs.out; unfold rdG at h; simp only [Bool.and_eq_true, decide_eq_true_eq] at h; omega
     clear HO HLJ
     go_wp2_with (with_reducible refine AA 85 ?_)
     refine e0q rfl rfl underlying128 rfl rfl (st32.at 0 rfl) [.pointer (some ⟨g, 0, none⟩)] rfl Aa ?_
     go_wp2_with fail
     refine (b0X w.heap.size g (wSt ST j) ⟨#[119, 101, 105, 103, 104, 116]⟩ _ Ac HL18.out st32.fr.size).mono ?_
     rintro e' w40 ⟨rfl, hl40, hf40⟩
     have st40 := st32.keep1 hf40 (.inl HG.out) (HL18.out.notIn st32.has (by intro x hx; simp only [List.mem_cons, List.not_mem_nil, or_false] at hx; rcases hx with rfl | rfl <;> (dsimp only; decide)))
     have HO40 := qH (HO18.out.keep hf40 (by intro k hk; have e : k = g := hk; rw [e]; show g ∈ [ga16, g9, g]; simp))
     have HL40 := qH (show LogAt w40 w.heap.size g (wSt ST (j + 1)) from by rw [p0K]; exact hl40)
     clear st32 hl40 hf40 HO18 HL18
     generalize hW : a0e (wSt ST j) (⟨#[119, 101, 105, 103, 104, 116]⟩ : ByteArray).data.toList = W at *
     have HW := qH (show wN ST j = W by rw [s0Z]; exact hW)
     clear hW
     go_wp2_with (with_reducible refine AA 16 ?_)
     refine fK st40 rfl rfl q0d (cw 4 0) Af ?_
     intro g16 w41 st41 hf41 hs41
     have HO41 := qH (OwS.grow HO40.out hf41 hs41 (st41.at 2 rfl).lt)
     have HL41 := qH (HL40.out.still hf41)
     clear st40 HO40 HL40 hf41 hs41
     go_wp2_with (with_reducible refine AB ?_)
     refine gS st41 2 rfl rfl rfl rfl rfl (cs := cw 4 (elN mQ W)) (vE _ _) (jQ _) (aF _ _) ?_
     intro w42 st42 hf42
     have HO42 := qH (HO41.out.keep hf42 (by intro k hk; have e : k = g16 := hk; rw [e]; exact List.mem_cons_self))
     have HL42 := qH (HL41.out.off hf42 (st41.at 2 rfl) Ac Ac)
     clear st41 HO41 HL41 hf42
     obtain ⟨A, hA⟩ : ∃ A, bA ST (T.take j) = A := ⟨_, rfl⟩
     have HA := qH hA
     replace HO42 := qH (show OwS _ _ _ (bOx _ _ _ _ A.X A.xs us) from hA ▸ HO42.out)
     replace HBP := qH (show BParts w us A.ps from hA ▸ HBP.out)
     clear hA
     go_wp2_with fail
     refine wp_region_noPanic ?_
     have hd42 := st42.drew
     clear st42
     refine fU (fun wx => St Nob w wx [(g9, [.pointer (some ⟨g, 0, none⟩)], 128), (ga16, sgC (.slice aap nnp ccp) (.slice (some ⟨bz, oz, none⟩) 33 ccs) (elN mQ (cU lpj (lsj.take 33) ltj)) (elN mQ (beN (lsj.drop 33))), 85), (g16, cw 4 (elN mQ W), 68)] ∧ Fr Nob (World.drew _) wx) [0, 1, 2, 3, 4, 5, 6, 7, 8] [] (fun i => match i with | 0 => [] | 1 => [] | 2 => [1] | 3 => [2] | 4 => [] | 5 => [] | 6 => [5] | 7 => [3, 4, 6] | 8 => [0] | _ => []) (fun i x wx => match i with | 0 => x 0 = .slice (some ⟨bf, of_, none⟩) nf cf | 1 => x 1 = .slice (some ⟨bf, of_, none⟩) nf cf | 2 => x 2 = .pointer (some ⟨bf, of_, none⟩) | 3 => x 3 = i4 (elN mQ A.X) | 4 => x 4 = i4 (elN mQ W) | 5 => x 5 = .pointer (some ⟨ga16, 6, none⟩) | 6 => x 6 = i4 (elN mQ (beN (lsj.drop 33))) | 7 => x 7 = i4 (elN mQ (A.X + W * (beN (lsj.drop 33)))) | 8 => x 8 = .pointer (some ⟨bf, of_, none⟩) | _ => True) 9 (.m 9 .nil) ?_ (fun x => ?_) Aa Aa (fun _ _ _ _ _ h => h) ⟨hd42, Fr.refl _ _⟩ (fun _ _ h k => ⟨h.1.keep k, h.2.then k⟩) ?_ ?_
     rotate_left 1
     ·simp only [qC, k0h, Act.put, List.getElem?_toArray, List.getElem?_cons_zero, List.getElem?_cons_succ, List.setIfInBounds_toArray, List.set_cons_zero, List.set_cons_succ]
      exact rfl
     refine aN rfl rfl (fun x wx hG hp => ?_) (fun y _ _ h k => h) ?_
     ·try dsimp only
      clear hp
      exact dF (v := .slice (some ⟨bf, of_, none⟩) nf cf) Ak rfl
     refine aN rfl rfl (fun x wx hG hp => ?_) (fun y _ _ h k => h) ?_
     ·try dsimp only
      clear hp
      exact dF (v := .slice (some ⟨bf, of_, none⟩) nf cf) Ak rfl
     refine aN rfl rfl (fun x wx hG hp => ?_) (fun y _ _ h k => h) ?_
     ·try dsimp only
      have e1 : x 1 = .slice (some ⟨bf, of_, none⟩) nf cf := hp 1 Ac
      generalize x 1 = v1 at e1 ⊢
      subst e1
      clear hp
      exact dF (v := .pointer (some ⟨bf, of_, none⟩)) Ak rfl
     refine aN rfl rfl (fun x wx hG hp => ?_) (fun y _ _ h k => h) ?_
     ·try dsimp only
      have e2 : x 2 = .pointer (some ⟨bf, of_, none⟩) := hp 2 Ac
      generalize x 2 = v2 at e2 ⊢
      subst e2
      clear hp
      exact dF (v := i4 (elN mQ A.X)) (g0O (OwS.at (HO42.out.still ((Fr.refl Nob _).drew.then hG.2)) 0 rfl) (x := .tmp 89) (k := 0) rfl rfl (cw 4 (elN mQ A.X)) (c0k _ _) underlying68 rfl (jQ _)) rfl
     refine aN rfl rfl (fun x wx hG hp => ?_) (fun y _ _ h k => h) ?_
     ·try dsimp only
      clear hp
      exact dF (v := i4 (elN mQ W)) (jE (hG.1.at 2 rfl) (x := .tmp 16) (p := 0) rfl rfl (cw 4 (elN mQ W)) dZl underlying68 rfl (jQ _)) rfl
     refine aN rfl rfl (fun x wx hG hp => ?_) (fun y _ _ h k => h) ?_
     ·try dsimp only
      clear hp
      exact dF (v := .pointer (some ⟨ga16, 6, none⟩)) Ak rfl
     refine aN rfl rfl (fun x wx hG hp => ?_) (fun y _ _ h k => h) ?_
     ·try dsimp only
      have e5 : x 5 = .pointer (some ⟨ga16, 6, none⟩) := hp 5 Ac
      generalize x 5 = v5 at e5 ⊢
      subst e5
      clear hp
      exact dF (v := i4 (elN mQ (beN (lsj.drop 33)))) (jE (hG.1.at 1 rfl) (x := .tmp 92) (p := 6) rfl rfl (cw 4 (elN mQ (beN (lsj.drop 33)))) (s0V _ _ _ _) underlying68 rfl (jQ _)) rfl
     refine aN rfl rfl (fun x wx hG hp => ?_) (fun y _ _ h k => h) ?_
     ·try dsimp only
      have e3 : x 3 = i4 (elN mQ A.X) := hp 3 Ac
      generalize x 3 = v3 at e3 ⊢
      subst e3
      have e4 : x 4 = i4 (elN mQ W) := hp 4 Ac
      generalize x 4 = v4 at e4 ⊢
      subst e4
      have e6 : x 6 = i4 (elN mQ (beN (lsj.drop 33))) := hp 6 Ac
      generalize x 6 = v6 at e6 ⊢
      subst e6
      clear hp
      refine xY rfl call49 (vs := [i4 (elN mQ A.X), i4 (elN mQ W), i4 (elN mQ (beN (lsj.drop 33)))]) rfl ?_
      refine (r0E A.X W (beN (lsj.drop 33)) _).mono ?_
      rintro e w' ⟨rfl, hf⟩
      exact ⟨_, rfl, hf, rfl⟩
     refine aN rfl rfl (fun x wx hG hp => ?_) (fun y _ _ h k => h) ?_
     ·try dsimp only
      have e0 : x 0 = .slice (some ⟨bf, of_, none⟩) nf cf := hp 0 Ac
      generalize x 0 = v0 at e0 ⊢
      subst e0
      clear hp
      exact dF (v := .pointer (some ⟨bf, of_, none⟩)) Ak rfl
     exact trivial
     intro x w43 hG hp
     try dsimp only
     have e7 : x 7 = i4 (elN mQ (A.X + W * (beN (lsj.drop 33)))) := hp 7 Ac
     generalize x 7 = v7 at e7 ⊢
     subst e7
     have e8 : x 8 = .pointer (some ⟨bf, of_, none⟩) := hp 8 Ac
     generalize x 8 = v8 at e8 ⊢
     subst e8
     clear hp
     generalize x 0 = v0
     generalize x 1 = v1
     generalize x 2 = v2
     generalize x 3 = v3
     generalize x 4 = v4
     generalize x 5 = v5
     generalize x 6 = v6
     have st43 := hG.1
     have HO43 := qH (HO42.out.still ((Fr.refl Nob _).drew.then hG.2))
     have HL43 := qH (HL42.out.still ((Fr.refl Nob _).drew.then hG.2))
     clear HO42 HL42
     clear hG hd42
     refine aU rfl rfl ?_
     refine j0R HO43.out 0 rfl rfl (k := 0) rfl rfl (cs := cw 4 (elN mQ (A.X + W * (beN (lsj.drop 33))))) (by rw [aT]; have := HNF.out; omega) (jQ _) (aF _ _) ?_
     intro w44 hos2 hfo
     have HO44 := qH (show OwS w44 w.heap.size _ (bOx _ _ _ nf (A.X + W * (beN (lsj.drop 33))) A.xs us) by have h := hos2; rw [g0L] at h; exact h)
     have st44 := st43.keep1 hfo (.inl (Go.Mv.Own.hasB (HO43.out.at 0 rfl)).1) (by intro x hx e; have hk : kH (.slice (some ⟨bf, of_, none⟩) nf cf) x.1 := (by rw [e]; rfl); simp only [List.mem_cons, List.not_mem_nil, or_false] at hx; rcases hx with rfl | rfl | rfl <;> exact (HO43.out.ne 0 rfl (by show _ ∈ (_ : List Nat); simp)) hk)
     have HL44 := qH (LogAt.offO HL43.out (show Go.Mv.Own _ _ 68 _ (.slice (some ⟨bf, of_, none⟩) nf cf) nf _ from HO43.out.at 0 rfl) hfo Ac Ac)
     clear HO43 HL43 hos2 hfo
     clear st43
     try simp only [J]
     refine aH ?_
     refine NoPanic.normal ?_
     go_wp2_with fail
     refine wp_region_noPanic ?_
     have hd44 := st44.drew
     clear st44
     refine fU (fun wx => St Nob w wx [(g9, [.pointer (some ⟨g, 0, none⟩)], 128), (ga16, sgC (.slice aap nnp ccp) (.slice (some ⟨bz, oz, none⟩) 33 ccs) (elN mQ (cU lpj (lsj.take 33) ltj)) (elN mQ (beN (lsj.drop 33))), 85), (g16, cw 4 (elN mQ W), 68)] ∧ Fr Nob (World.drew _) wx) [0, 1, 2, 3, 4, 5, 6, 7, 8] [] (fun i => match i with | 0 => [] | 1 => [] | 2 => [1] | 3 => [] | 4 => [] | 5 => [4] | 6 => [3, 5] | 7 => [6] | 8 => [2, 7] | _ => []) (fun i x wx => match i with | 0 => x 0 = .slice (some ⟨bf, of_, none⟩) nf cf | 1 => x 1 = i4 (elN mQ W) | 2 => x 2 = i4 (elN mQ (mQ.M - W % mQ.M)) | 3 => x 3 = i4 (elN mQ W) | 4 => x 4 = .pointer (some ⟨ga16, 2, none⟩) | 5 => x 5 = i4 (elN mQ (cU lpj (lsj.take 33) ltj)) | 6 => x 6 = i4 (elN mQ (W * (cU lpj (lsj.take 33) ltj))) | 7 => x 7 = i4 (elN mQ (mQ.M - W * (cU lpj (lsj.take 33) ltj) % mQ.M)) | 8 => ∃ g, x 8 = .slice (some ⟨g, 0, none⟩) 2 2 ∧ Has wx g (cM [(mQ.M - W % mQ.M), (mQ.M - W * (cU lpj (lsj.take 33) ltj) % mQ.M)]) 68 | _ => True) 10 (.r 9 (.m 10 .nil)) ?_ (fun x => ?_) Aa Aa (fun _ _ _ _ _ h => h) ⟨hd44, Fr.refl _ _⟩ (fun _ _ h k => ⟨h.1.keep k, h.2.then k⟩) ?_ ?_
     rotate_left 1
     ·simp only [qC, k0h, Act.put, List.getElem?_toArray, List.getElem?_cons_zero, List.getElem?_cons_succ, List.setIfInBounds_toArray, List.set_cons_zero, List.set_cons_succ]
      exact rfl
     refine aN rfl rfl (fun x wx hG hp => ?_) (fun y _ _ h k => h) ?_
     ·try dsimp only
      clear hp
      exact dF (v := .slice (some ⟨bf, of_, none⟩) nf cf) Ak rfl
     refine aN rfl rfl (fun x wx hG hp => ?_) (fun y _ _ h k => h) ?_
     ·try dsimp only
      clear hp
      exact dF (v := i4 (elN mQ W)) (jE (hG.1.at 2 rfl) (x := .tmp 16) (p := 0) rfl rfl (cw 4 (elN mQ W)) dZl underlying68 rfl (jQ _)) rfl
     refine aN rfl rfl (fun x wx hG hp => ?_) (fun y _ _ h k => h) ?_
     ·try dsimp only
      have e1 : x 1 = i4 (elN mQ W) := hp 1 Ac
      generalize x 1 = v1 at e1 ⊢
      subst e1
      clear hp
      refine xY rfl call64 (vs := [i4 (elN mQ W)]) rfl ?_
      refine (f0f mQ .one W _).mono ?_
      rintro e w' ⟨rfl, hf⟩
      exact ⟨_, rfl, hf, rfl⟩
     refine aN rfl rfl (fun x wx hG hp => ?_) (fun y _ _ h k => h) ?_
     ·try dsimp only
      clear hp
      exact dF (v := i4 (elN mQ W)) (jE (hG.1.at 2 rfl) (x := .tmp 16) (p := 0) rfl rfl (cw 4 (elN mQ W)) dZl underlying68 rfl (jQ _)) rfl
     refine aN rfl rfl (fun x wx hG hp => ?_) (fun y _ _ h k => h) ?_
     ·try dsimp only
      clear hp
      exact dF (v := .pointer (some ⟨ga16, 2, none⟩)) Ak rfl
     refine aN rfl rfl (fun x wx hG hp => ?_) (fun y _ _ h k => h) ?_
     ·try dsimp only
      have e4 : x 4 = .pointer (some ⟨ga16, 2, none⟩) := hp 4 Ac
      generalize x 4 = v4 at e4 ⊢
      subst e4
      clear hp
      exact dF (v := i4 (elN mQ (cU lpj (lsj.take 33) ltj))) (jE (hG.1.at 1 rfl) (x := .tmp 100) (p := 2) rfl rfl (cw 4 (elN mQ (cU lpj (lsj.take 33) ltj))) (s0U _ _ _ _) underlying68 rfl (jQ _)) rfl
     refine aN rfl rfl (fun x wx hG hp => ?_) (fun y _ _ h k => h) ?_
     ·try dsimp only
      have e3 : x 3 = i4 (elN mQ W) := hp 3 Ac
      generalize x 3 = v3 at e3 ⊢
      subst e3
      have e5 : x 5 = i4 (elN mQ (cU lpj (lsj.take 33) ltj)) := hp 5 Ac
      generalize x 5 = v5 at e5 ⊢
      subst e5
      clear hp
      refine xY rfl call92 (vs := [i4 (elN mQ W), i4 (elN mQ (cU lpj (lsj.take 33) ltj))]) rfl ?_
      refine (e0x mQ .one W (cU lpj (lsj.take 33) ltj) _).mono ?_
      rintro e w' ⟨rfl, hf⟩
      exact ⟨_, rfl, hf, rfl⟩
     refine aN rfl rfl (fun x wx hG hp => ?_) (fun y _ _ h k => h) ?_
     ·try dsimp only
      have e6 : x 6 = i4 (elN mQ (W * (cU lpj (lsj.take 33) ltj))) := hp 6 Ac
      generalize x 6 = v6 at e6 ⊢
      subst e6
      clear hp
      refine xY rfl call64 (vs := [i4 (elN mQ (W * (cU lpj (lsj.take 33) ltj)))]) rfl ?_
      refine (f0f mQ .one (W * (cU lpj (lsj.take 33) ltj)) _).mono ?_
      rintro e w' ⟨rfl, hf⟩
      exact ⟨_, rfl, hf, rfl⟩
     refine aN rfl rfl (fun x wx hG hp => ?_) (fun y _ _ h k => by obtain ⟨g, h1, h2⟩ := h; exact ⟨g, h1, h2.keep k id⟩) ?_
     ·try dsimp only
      have e2 : x 2 = i4 (elN mQ (mQ.M - W % mQ.M)) := hp 2 Ac
      generalize x 2 = v2 at e2 ⊢
      subst e2
      have e7 : x 7 = i4 (elN mQ (mQ.M - W * (cU lpj (lsj.take 33) ltj) % mQ.M)) := hp 7 Ac
      generalize x 7 = v7 at e7 ⊢
      subst e7
      clear hp
      refine f0l rfl underlying93 i0k [i4 (elN mQ (mQ.M - W % mQ.M)), i4 (elN mQ (mQ.M - W * (cU lpj (lsj.take 33) ltj) % mQ.M))] rfl (by intro u hu; simp only [List.mem_cons, List.not_mem_nil, or_false] at hu; rcases hu with rfl | rfl <;> exact r0N _) rfl (cM [(mQ.M - W % mQ.M), (mQ.M - W * (cU lpj (lsj.take 33) ltj) % mQ.M)]) (by rw [g0K]; simp [k0L]) (fun g w' _ _ hg => ⟨g, rfl, hg⟩)
     exact trivial
     intro x w45 hG hp
     try dsimp only
     have e0 : x 0 = .slice (some ⟨bf, of_, none⟩) nf cf := hp 0 Ac
     generalize x 0 = v0 at e0 ⊢
     subst e0
     have e8 : ∃ g, x 8 = .slice (some ⟨g, 0, none⟩) 2 2 ∧ Has w45 g (cM [(mQ.M - W % mQ.M), (mQ.M - W * (cU lpj (lsj.take 33) ltj) % mQ.M)]) 68 := hp 8 Ac
     obtain ⟨gl, e8, HGL⟩ := e8
     generalize x 8 = v8 at e8 ⊢
     subst e8
     clear hp
     generalize x 1 = v1
     generalize x 2 = v2
     generalize x 3 = v3
     generalize x 4 = v4
     generalize x 5 = v5
     generalize x 6 = v6
     generalize x 7 = v7
     have st45 := hG.1
     have HO45 := qH (HO44.out.still ((Fr.refl Nob _).drew.then hG.2))
     have HL45 := qH (HL44.out.still ((Fr.refl Nob _).drew.then hG.2))
     clear HO44 HL44
     clear hG hd44
     refine bC rfl rfl ?_
     refine g0F HO45.out 0 rfl rfl underlying93 i0k rfl Ac rfl rfl (by have h := Rd.whole HGL; rwa [qX] at h) (g0N _) (by unfold maxLen; have := HNF.out; have := HN.out; have := HLT.out; omega) (by have := HNF.out; have := HN.out; have := HLT.out; omega) st45.fr.size ?_
     intro vf2 w46 hos2 hfo
     have HO46 := qH (show OwS w46 w.heap.size _ [⟨vf2, 68, 4, nf + 2, cM ((A.X + W * (beN (lsj.drop 33))) :: (A.xs ++ [(mQ.M - W % mQ.M), (mQ.M - W * (cU lpj (lsj.take 33) ltj) % mQ.M)]))⟩, ⟨.slice ab 33 cb, 5, 1, 33, bs (cK gP)⟩, ⟨.slice (some ⟨bq, oq, none⟩) nf cq, 22, 1, nf, .slice ab 33 cb :: us⟩] by have h := hos2; rw [g0M] at h; exact h)
     have st46 := st45.keepOs (HO45.out.at 0 rfl) (Nat.le_refl _) hfo (by intro x hx hk; simp only [List.mem_cons, List.not_mem_nil, or_false] at hx; rcases hx with rfl | rfl | rfl <;> exact (HO45.out.ne 0 rfl (by show _ ∈ (_ : List Nat); simp)) hk)
     have HL46 := qH (LogAt.offO HL45.out (show Go.Mv.Own _ _ 68 _ (.slice (some ⟨bf, of_, none⟩) nf cf) nf _ from HO45.out.at 0 rfl) (Go.Mv.Own.oneF (HO45.out.at 0 rfl) hfo) Ac Ac)
     clear HO45 HL45 hos2 hfo HGL
     clear st45
     refine ⟨trivial, ?_⟩
     try simp only [J]
     refine aU rfl rfl ?_
     go_simp
     try simp only [J]
     refine aH ?_
     refine NoPanic.normal ?_
     have hc1 := (st46.at 1 rfl).cell (i := 1) (v := .slice (some ⟨bz, oz, none⟩) 33 ccs) Bk
     have hc0 := (st46.at 1 rfl).cell (i := 0) (v := .slice aap nnp ccp) Bk
     go_wp2_with (with_reducible refine AA 111 ?_)
     refine dH rfl rfl underlying39 dV [.slice (some ⟨bz, oz, none⟩) 33 ccs, .slice aap nnp ccp] rfl (by intro u hu; simp only [List.mem_cons, List.not_mem_nil, or_false] at hu; rcases hu with rfl | rfl <;> rfl) rfl rfl ?_
     intro w50 hh50 hf50 hz50
     have st50 := st46.keep hf50
     have HO50 := qH (HO46.out.still hf50)
     have HL50 := qH (HL46.out.still hf50)
     clear st46 HO46 HL46 hf50 hz50 hc1 hc0
     go_wp2_with (with_reducible refine AA 112 ?_)
     refine fM HO50.out 2 rfl rfl rfl underlying39 dV rfl Ac rfl rfl (Rd.whole hh50) (by intro u hu; simp only [List.mem_cons, List.not_mem_nil, or_false] at hu; rcases hu with rfl | rfl <;> rfl) (by unfold maxLen; have := HNF.out; have := HN.out; have := HLT.out; first | omega | (simp only [List.length_cons, List.length_nil]; omega)) (by have := HNF.out; have := HN.out; have := HLT.out; first | omega | (simp only [List.length_cons, List.length_nil]; omega)) st50.fr.size ?_
     intro vq2 w51 hos51 hf51
     have HO51 := qH (show OwS w51 w.heap.size _ (bOx vf2 (.slice ab 33 cb) vq2 (nf + 2) (A.X + W * (beN (lsj.drop 33))) (A.xs ++ [(mQ.M - W % mQ.M), (mQ.M - W * (cU lpj (lsj.take 33) ltj) % mQ.M)]) (us ++ [.slice (some ⟨bz, oz, none⟩) 33 ccs, .slice aap nnp ccp])) from hos51)
     have STE := qH ((st50.keepOs (HO50.out.at 2 rfl) (Nat.le_refl _) hf51 (by intro x hx hk; simp only [List.mem_cons, List.not_mem_nil, or_false] at hx; rcases hx with rfl | rfl | rfl <;> exact (HO50.out.ne 2 rfl (by show _ ∈ (_ : List Nat); simp)) hk)).less (bl' := [(g9, [.pointer (some ⟨g, 0, none⟩)], 128)]) Ae)
     have HLE := qH (LogAt.offO HL50.out (show Go.Mv.Own _ _ 22 _ (.slice (some ⟨bq, oq, none⟩) nf cq) nf _ from HO50.out.at 2 rfl) (Go.Mv.Own.oneF (HO50.out.at 2 rfl) hf51) Ac Ac)
     clear st50 HO50 HL50 hos51 hf51 hh50
     have HTK := qH (show T.take (j + 1) = T.take j ++ [(lpj, ltj, lsj)] by
      rw [List.take_add_one, HNX.out]
      rfl)
     have HBA := qH (show bA ST (T.take (j + 1)) = ⟨A.i + 1, (A.X + W * (beN (lsj.drop 33))), A.xs ++ [(mQ.M - W % mQ.M), (mQ.M - W * (cU lpj (lsj.take 33) ltj) % mQ.M)], A.ps ++ [lsj.take 33, lpj]⟩ by
      have hi : A.i = j := by rw [← HA.out, s0q, List.length_take]; have := HZL.out; have := HLT.out; omega
      rw [HTK.out, oG, HA.out]
      unfold a0r
      rw [hi, HW.out]
      rfl)
     go_wp2_with fail
     go_roundw
     case rel => exact ⟨j + 1, nf + 2, us ++ [.slice (some ⟨bz, oz, none⟩) 33 ccs, .slice aap nnp ccp], by have := HLT.out; omega, by go_num, by have := HNF.out; omega, by rw [HTK.out]; intro x hx; exact (List.mem_append.1 hx).elim (fun h => HOK.out x h) (fun h => by rw [List.mem_singleton.1 h, f0n]; exact HGD.out), HLE.out, STE.out, (by rw [HBA.out]; exact HO51.out.mono (by intro k hk; exact (List.mem_cons.1 hk).elim (fun e => by rw [e]; simp) (fun e => by rw [List.mem_singleton.1 e]; simp))), (by rw [HBA.out]; exact BParts.snoc2 HBP.out (jT (nI HQs.out 33 Ac)) (jT HQp.out))⟩
     case measure => simp [intOf]; have := HLT.out; omega
    ·skip
     have hge : ¬ ((j : Int) < (n : Int)) := by omega
     rw [List.take_of_length_le (by have := HZL.out; omega)] at HO HBP HOK
     have HLA := qH (xZ ST T)
     have HB := qH (r0T ST T HOK.out)
     have HVS := qH (r0S ST T HOK.out (by have := HZL.out; have := HN.out; omega))
     have HNN := qH (show nf = 1 + 2 * n by omega)
     clear hnf hlt hj hlj
     go_wp2_with fail
     refine (r0Z nf (some ⟨bf, of_, none⟩) cf ((bA ST T).X :: (bA ST T).xs) (some ⟨bq, oq, none⟩) cq (.slice ab 33 cb :: us) (cK gP :: (bA ST T).ps) _ (by have := HLA.out.1; have := HNN.out; have := HZL.out; simp only [List.length_cons]; omega) (by have := HLA.out.2; have := HNN.out; have := HZL.out; simp only [List.length_cons]; omega) (by obtain ⟨a, c, e, -, hr, -⟩ := Go.Mv.Own.form (HO.out.at 0 rfl); cases e; exact hr) (by have := HNN.out; have := HN.out; omega) (by obtain ⟨a, c, e, -, hr, -⟩ := Go.Mv.Own.form (HO.out.at 2 rfl); cases e; rw [Nat.mul_one] at hr; exact hr) (BParts.cons (BParts.still HBP.out hst.fr) (BPart.ofOwn (HO.out.at 1 rfl)))).mono ?_
     rintro e' w60 ⟨v, rfl, ho, hf60⟩
     rw [HVS.out] at ho
     have hw : ∃ a c, v = .slice a 33 c ∧ RdB w60 a 33 (cK (cE (bV (bA ST T).X gP) (lW (bR ST T).2))) := by
      obtain ⟨a, c, rfl, hc, hr, -⟩ := Go.Mv.Own.form ho
      rw [eI, Nat.mul_one] at hr
      rw [eI]
      exact ⟨a, c, rfl, hr⟩
     obtain ⟨a60, c60, rfl, hr60⟩ := hw
     have st60 := hst.keep hf60
     have HR60 := qH hr60
     clear hst hf60 ho hr60 hge
     go_wp2_with fail
     refine (d0F a60 c60 _ (eI _) _ HR60.out _ HB.out).mono ?_
     rintro e' w61 ⟨rfl, rfl⟩
     have hfr := st60.fr
     clear st60
     go_wp2_with fail
     go_ret2
     exact ⟨rfl, hfr⟩
end
section
open Go.RowKit Go.Mv Mvp Mvq
attribute [local irreducible] c0h
attribute [local irreducible] bI lw mix cw cT dG cS bQ aO beN dO cI dI bM bT elN mdL cL rtV dW cK dM fD dE gY xV rO bV dX hB hN wH wI
end
section
open Go.RowKit Go.Mv Mvp Mvq
attribute [local irreducible] bI lw mix cw cT dG cS bQ aO beN dO cI dI bM bT elN mdL cL rtV dW cK dM fD dE gY xV rO bV dX hB hN wH wI tC tS
end
section
open Go.RowKit Go.Mv Mvp Mvq
attribute [local irreducible] bI lw mix cw cT dG cS bQ aO beN dO cI dI bM bT elN mdL cL rtV dW kN kc gE cK kC noR dB oH RT.L dX hB hN wH wI rpL mkS
end
section
open Go.RowKit Go.Mv Mvp Mvq
theorem g0Q : (prog.info? 60).map (·.zero) = some (some (.agg (cw 4 0).toArray)) := nL
theorem wJ (x : Nat) : (prog.info? 60).map (·.size) = some (cw 4 x).length := by rw [aT]; kernel_rfl
theorem RLogAt.notIn {w : World} {g : Nat} {l : List UInt8} (h : RLogAt w g l) {bl : List (Nat × List Value × TypeId)} (hh : ∀ x ∈ bl, Has w x.1 x.2.1 x.2.2) (hT : ∀ x ∈ bl, 197 ≠ x.2.2) : ∀ x ∈ bl, x.1 ≠ g := by
 rintro x hx rfl
 obtain ⟨_, _, h1, _⟩ := h
 obtain ⟨_, _, h2, _⟩ := hh x hx
 rw [h1] at h2
 simp only [Option.some.injEq, Obj.cells.injEq] at h2
 exact hT x hx h2.2.1
theorem mQ0 : 0 < mQ.M := by decide
theorem p0M (x0 x1 x2 : List UInt8) : cU x0 x1 x2 = lV (dX tP [dX tP [dX tP [dX k0e [[115, 105, 103, 110]], [112, 117, 98, 108, 105, 99], x0], [102, 105, 114, 115, 116], x1], [116, 101, 120, 116], x2]) := rfl
theorem iK : (prog.info? 9).map (fun i => (i.zero, i.size, i.bytes)) = some (some (.string ⟨#[]⟩), 1, 16) := by kernel_rfl
attribute [local irreducible] bI lw mix cw cT dG cS bQ aO beN dO cI dI bM bT elN mdL cL rtV dW cK dM fD bV cO dD toB aW bG cR eD bH eU cA bD dX fZ kC noR dB RT.L rdR kN kc oD sgF sgZ cU chN lV a0e dS rpL
theorem p0N (g : Nat) (st : List UInt8) (w : World) (hst : st.length = 32) (hl : RLogAt w g st) :
  Calls prog 128 #[.pointer (some ⟨g, 0, none⟩)] w fun e w' => e = .returned (i4 (lV st)) ∧ Fr (One g) w w' := by
 have HST := qH hst
 have HL := qH hl
 clear hst hl
 have st0 := St.start (One g) w
 go_enter func128, ntmps128
 go_wp2_with (with_reducible refine AA 2 ?_)
 refine fK st0 rfl rfl g0Q (cw 4 0) rfl ?_
 intro g4 w2 st2 hf2 hs2
 have HL2 := qH (show RLogAt w2 g st from Has.keep HL.out hf2 id)
 clear st0 hf2 hs2 HL
 go_wp2_with fail
 refine (t0p _).mono ?_
 rintro e' w3 ⟨rfl, hf3⟩
 have st3 := st2.keep hf3
 have HL3 := qH (show RLogAt w3 g st from Has.keep HL2.out hf3 id)
 clear st2 hf3 HL2
 go_wp2_with fail
 refine (yW g st ⟨#[99, 104, 97, 108, 108, 101, 110, 103, 101]⟩ 64 _ HST.out Ac Ac HL3.out).mono ?_
 rintro e' w4 ⟨rfl, hl4, hf4⟩
 have st4 := st3.keep1 hf4 (.inr rfl) (HL3.out.notIn st3.has (by intro x hx; simp only [List.mem_cons, List.not_mem_nil, or_false, List.nil_append] at hx; subst hx; dsimp only; decide))
 clear st3 hf4 HL3 hl4
 have HV := qH (show beN (bH (dX a0y [st, (⟨#[99, 104, 97, 108, 108, 101, 110, 103, 101]⟩ : ByteArray).data.toList]) 31 64) % mQ.M = lV st by unfold lV a0e; rfl)
 generalize dX a0y [st, (⟨#[99, 104, 97, 108, 108, 101, 110, 103, 101]⟩ : ByteArray).data.toList] = T at *
 go_wp2_with fail
 refine (s0r mQ.M T _ mQ0 lT.lt).mono ?_
 rintro e' w6 ⟨rfl, hf6⟩
 have st6 := st4.keep hf6
 clear st4 hf6
 rw [HV.out]
 go_wp2_with (with_reducible refine AB ?_)
 refine aB st6 0 rfl rfl rfl rfl rfl (vE _ _) (wJ _) (aF _ _) ?_
 intro wz stz
 clear st6
 have hr := stz.at 0 rfl
 have hfr := stz.fr
 clear stz
 go_wp2_with fail
 exact bodyPost_ret (aY rfl rfl hr underlying60 rfl (wJ _)) rfl ⟨rfl, hfr⟩
theorem m0x (s0 : ByteArray) (s1 : ByteArray) (s2 : ByteArray) (w : World) (h0 : s0.size ≤ 40000) (h1 : s1.size ≤ 40000) (h2 : s2.size ≤ 40000) :
  Calls prog 56 #[.string s0, .string s1, .string s2] w fun e w' => e = .returned (i4 (cU s0.data.toList s1.data.toList s2.data.toList)) ∧ Fr Nob w w' := by
 have H0 := qH h0
 have H1 := qH h1
 have H2 := qH h2
 clear h0 h1 h2
 have st0 := St.start Nob w
 go_enter func56, ntmps56
 go_wp2_with (with_reducible refine AA 6 ?_)
 refine aA st0 rfl rfl g0Q (cw 4 0) rfl ?_
 intro g4 w2 st2
 clear st0
 have HSZ := qH st2.fr.size
 go_wp2_with fail
 refine (d0Z ⟨#[115, 105, 103, 110]⟩ _ Ac).mono ?_
 rintro e' w3 ⟨g, rfl, hle, hl, hf3⟩
 have st3 := st2.keep hf3
 have HL := qH hl
 have HG := qH (Nat.le_trans HSZ.out hle)
 clear st2 hf3 hl hle HSZ
 go_wp2_with fail
 refine (nB g _ ⟨#[112, 117, 98, 108, 105, 99]⟩ s0 _ (hZ _ _) Ac H0.out HL.out).mono ?_
 rintro e' w4 ⟨rfl, hl4, hf4⟩
 have st4 := st3.keep1 hf4 (.inl HG.out) (HL.out.notIn st3.has (by intro x hx; simp only [List.mem_cons, List.not_mem_nil, or_false, List.nil_append] at hx; subst hx; dsimp only; decide))
 replace HL := qH hl4
 clear st3 hf4 hl4
 go_wp2_with fail
 refine (nB g _ ⟨#[102, 105, 114, 115, 116]⟩ s1 _ (hZ _ _) Ac H1.out HL.out).mono ?_
 rintro e' w5 ⟨rfl, hl5, hf5⟩
 have st5 := st4.keep1 hf5 (.inl HG.out) (HL.out.notIn st4.has (by intro x hx; simp only [List.mem_cons, List.not_mem_nil, or_false, List.nil_append] at hx; subst hx; dsimp only; decide))
 replace HL := qH hl5
 clear st4 hf5 hl5
 go_wp2_with fail
 refine (nB g _ ⟨#[116, 101, 120, 116]⟩ s2 _ (hZ _ _) Ac H2.out HL.out).mono ?_
 rintro e' w6 ⟨rfl, hl6, hf6⟩
 have st6 := st5.keep1 hf6 (.inl HG.out) (HL.out.notIn st5.has (by intro x hx; simp only [List.mem_cons, List.not_mem_nil, or_false, List.nil_append] at hx; subst hx; dsimp only; decide))
 replace HL := qH hl6
 clear st5 hf6 hl6
 go_wp2_with fail
 refine (p0N g _ _ (hZ _ _) HL.out).mono ?_
 rintro e' wy ⟨rfl, hfy⟩
 have sty := st6.keep1 hfy (.inl HG.out) (HL.out.notIn st6.has (by intro x hx; simp only [List.mem_cons, List.not_mem_nil, or_false, List.nil_append] at hx; subst hx; dsimp only; decide))
 clear st6 hfy HL HG
 go_wp2_with (with_reducible refine AB ?_)
 refine aB sty 0 rfl rfl rfl rfl rfl (vE _ _) (wJ _) (aF _ _) ?_
 intro wz stz
 clear sty
 have hr := stz.at 0 rfl
 have hfr := stz.fr
 clear stz
 go_wp2_with fail
 exact bodyPost_ret (aY rfl rfl hr underlying60 rfl (wJ _)) rfl ⟨by rw [p0M]; rfl, hfr⟩
theorem s0a (p a b r : Nat) (w : World) (hp0 : 0 < p) (hp : p < B64 ^ 4) (ha : a < B64 ^ 4) (hb : b < B64 ^ 4) (hr : (a + b) % p = r) :
  Calls prog 57 #[fv p, i4 a, i4 b] w fun e w' => e = .returned (i4 r) ∧ Fr Nob w w' := by
 subst hr; exact c0R p a b w hp0 hp ha hb
end
section
open Go.RowKit Go.Mv Mvp Mvq
def wK (s : List UInt8) : Bool := decide (s.length = 65) && (dM (s.take 33) && cL mQ (s.drop 33))
theorem nA {P : Program} {fn : Func} {p q : Tmp} {ty ty2 : TypeId} {s : Tmp} (h : fn.results = #[.cell p ty, .cell q ty2, .tmp s]) {tmps : Array Value} {w : World} {g g2 : Nat} {L L2 : List Value} {T T2 : TypeId}
  (hp : tmps.getD p undef = .pointer (some ⟨g, 0, none⟩)) (hg : Has w g L T) {d : TypeDesc} (hu : P.underlying ty = some d) (hd : (match d with | .struct _ | .array _ _ => true | _ => false) = true) (hi : (P.info? ty).map (·.size) = some L.length)
  (hp2 : tmps.getD q undef = .pointer (some ⟨g2, 0, none⟩)) (hg2 : Has w g2 L2 T2) {d2 : TypeDesc} (hu2 : P.underlying ty2 = some d2) (hd2 : (match d2 with | .struct _ | .array _ _ => true | _ => false) = true) (hi2 : (P.info? ty2).map (·.size) = some L2.length) {v : Value} (hv : tmps.getD s undef = v) :
  (results fn tmps).run P w = .ok (.tuple #[.agg L.toArray, .agg L2.toArray, v]) w := by
 obtain ⟨lo, hi', hh, -⟩ := hg
 obtain ⟨lo2, hi2', hh2, -⟩ := hg2
 have hp' : tmps[p]?.getD undef = .pointer (some ⟨g, 0, none⟩) := by simpa using hp
 have hp2' : tmps[q]?.getD undef = .pointer (some ⟨g2, 0, none⟩) := by simpa using hp2
 have hv' : tmps[s]?.getD undef = v := by simpa using hv
 simp [results, h, hp', hp2', hv', asAddr, run_loadVar_row w g T ty L.toArray _ _ hh hu (by cases d <;> first | rfl | (simp at hd)) (by simpa using hi), run_loadVar_row w g2 T2 ty2 L2.toArray _ _ hh2 hu2 (by cases d2 <;> first | rfl | (simp at hd2)) (by simpa using hi2)]
theorem m0y (s : List UInt8) (w : World) : Calls prog 77 #[.string (mkS s)] w fun e w' => ∃ X Y Z : K, e = .returned (.tuple #[rpV X Y Z, .bool (dM s)]) ∧ (dM s = true → rpL X Y Z = (rdR s).L) ∧ Fr Nob w w' := by
 have h := p0w (mkS s) w
 rwa [bS] at h
theorem g0R (s : List UInt8) (w : World) : Calls prog 72 #[.string (mkS s)] w fun e w' => ∃ N : Nat, e = .returned (.tuple #[i4 N, .bool (cL mQ s)]) ∧ (cL mQ s = true → N = beN s) ∧ Fr Nob w w' := by
 have h := j0H (mkS s) w
 rwa [bS] at h
theorem m0z {l : List UInt8} (h : dM l = true) : dS l = !decide ((rdR l).z = 0) := by
 have h2 := j0E h
 have h3 : (rdR l).pt = nm (rdR l).x (rdR l).y (rdR l).z := rfl
 unfold dS
 rw [h, Bool.true_and]
 by_cases hz : (rdR l).z = 0
 ·rw [h3, k0g hz] at h2
  have h4 : l.getD 0 0 = 0 := by
   unfold fD at h2
   by_cases h5 : l.getD 0 0 = 0
   ·exact h5
   ·rw [if_neg h5] at h2; cases h2
  rw [decide_eq_true hz, decide_eq_true h4]
 ·rw [h3, b0K hz] at h2
  have h4 : ¬ l.getD 0 0 = 0 := by
   intro h5
   unfold fD at h2
   rw [if_pos h5] at h2
   cases h2
  rw [decide_eq_false hz, decide_eq_false h4]
theorem s0b (l : List UInt8) : (rdR l).L = rpL (rdR l).x (rdR l).y (rdR l).z := rfl
theorem m0A : cw 4 0 ++ (cw 4 0 ++ cw 4 0) = rpL 0 0 0 := rfl
theorem n0t (s : List UInt8) (k : Nat) (_hk : k ≤ s.length) : (mkS s).extract 0 k = mkS (s.take k) := by
 apply ByteArray.ext
 apply Array.toList_inj.1
 simp [mkS]
theorem n0u (s : List UInt8) (k : Nat) : (mkS s).extract k (mkS s).size = mkS (s.drop k) := by
 apply ByteArray.ext
 apply Array.toList_inj.1
 rw [aZ]
 simp [mkS, List.take_of_length_le]
attribute [local irreducible] bI lw mix cw cT dG cS bQ aO beN dO cI dI bM bT elN mdL cL rtV dW cK dM fD bV cO dD toB aW bG cR eD bH eU cA bD dX fZ kC noR dB RT.L rdR kN kc oD sgF sgZ cU chN lV a0e dS rpL veB rdG kA wK
theorem p0O (s : List UInt8) (h : dM s = false) (w : World) : Calls prog 65 #[.string (mkS s)] w fun e w' => (∃ X Y Z : K, e = .returned (.tuple #[rpV X Y Z, .bool false])) ∧ Fr Nob w w' := by
 have H := qH h
 clear h
 have st0 := St.start Nob w
 go_enter func65, ntmps65
 go_wp2_with (with_reducible refine AA 2 ?_)
 refine aA st0 rfl rfl (z := zAc) Aa (cw 12 0) Af ?_
 intro g2 w1 st1
 clear st0
 go_wp2_with fail
 refine (f0e s H.out _).mono ?_
 rintro e' w2 ⟨X, Y, Z, rfl, hf2⟩
 have st2 := st1.keep hf2
 clear st1 hf2
 go_wp2_with (with_reducible refine AA 4 ?_)
 refine aA st2 rfl rfl (z := zAc) Aa (cw 12 0) Af ?_
 intro g4 w3 st3
 clear st2
 go_wp2_with (with_reducible refine AB ?_)
 refine aB st3 1 rfl rfl rfl rfl rfl Aq Aj (iD _ _ _) ?_
 intro w4 st4
 clear st3
 go_wp2_with (with_reducible refine AA 12 ?_)
 refine aM st4 1 rfl rfl rfl underlying62 rfl rfl Aj ?_
 go_wp2_with fail
 refine (eG X Y Z _ rfl _).mono ?_
 rintro e' w5 ⟨rfl, hf5⟩
 have st5 := st4.keep hf5
 clear st4 hf5
 generalize decide (Z = 0) = b
 go_wp2_with (with_reducible refine AA 14 ?_)
 refine aM st5 1 rfl rfl rfl underlying62 rfl rfl Aj ?_
 go_wp2_with (with_reducible refine AB ?_)
 refine aB st5 0 rfl rfl rfl rfl rfl Aq Aj (iD _ _ _) ?_
 intro w6 st6
 clear st5
 have hr := st6.at 0 rfl
 have hfr := st6.fr
 clear st6
 go_wp2_with fail
 exact bodyPost_ret (bF rfl rfl hr underlying62 rfl Aj rfl) rfl ⟨⟨X, Y, Z, rfl⟩, hfr⟩
theorem p0P (s : List UInt8) (h : dM s = true) (w : World) : Calls prog 65 #[.string (mkS s)] w fun e w' => e = .returned (.tuple #[rpV (rdR s).x (rdR s).y (rdR s).z, .bool (!decide ((rdR s).z = 0))]) ∧ Fr Nob w w' := by
 have H := qH h
 clear h
 have st0 := St.start Nob w
 go_enter func65, ntmps65
 go_wp2_with (with_reducible refine AA 2 ?_)
 refine aA st0 rfl rfl (z := zAc) Aa (cw 12 0) Af ?_
 intro g2 w1 st1
 clear st0
 go_wp2_with fail
 refine (f0d s H.out _).mono ?_
 rintro e' w2 ⟨rfl, hf2⟩
 have st2 := st1.keep hf2
 clear st1 hf2
 go_wp2_with (with_reducible refine AA 4 ?_)
 refine aA st2 rfl rfl (z := zAc) Aa (cw 12 0) Af ?_
 intro g4 w3 st3
 clear st2
 go_wp2_with (with_reducible refine AB ?_)
 refine aB st3 1 rfl rfl rfl rfl rfl Aq Aj (RT.one _) ?_
 intro w4 st4
 clear st3
 rw [s0b] at st4
 generalize hb : decide ((rdR s).z = 0) = b
 have HB := qH hb
 clear hb
 go_wp2_with (with_reducible refine AA 12 ?_)
 refine aM st4 1 rfl rfl rfl underlying62 rfl rfl Aj ?_
 go_wp2_with fail
 refine (eG (rdR s).x (rdR s).y (rdR s).z b HB.out _).mono ?_
 rintro e' w5 ⟨rfl, hf5⟩
 have st5 := st4.keep hf5
 clear st4 hf5
 rcases b with _ | _
 ·skip
  go_wp2_with (with_reducible refine AA 14 ?_)
  refine aM st5 1 rfl rfl rfl underlying62 rfl rfl Aj ?_
  go_wp2_with (with_reducible refine AB ?_)
  refine aB st5 0 rfl rfl rfl rfl rfl Aq Aj (iD _ _ _) ?_
  intro w6 st6
  clear st5
  have hr := st6.at 0 rfl
  have hfr := st6.fr
  clear st6
  go_wp2_with fail
  exact bodyPost_ret (bF rfl rfl hr underlying62 rfl Aj rfl) rfl ⟨by rw [HB.out]; rfl, hfr⟩
 ·skip
  go_wp2_with (with_reducible refine AA 14 ?_)
  refine aM st5 1 rfl rfl rfl underlying62 rfl rfl Aj ?_
  go_wp2_with (with_reducible refine AB ?_)
  refine aB st5 0 rfl rfl rfl rfl rfl Aq Aj (iD _ _ _) ?_
  intro w6 st6
  clear st5
  have hr := st6.at 0 rfl
  have hfr := st6.fr
  clear st6
  go_wp2_with fail
  exact bodyPost_ret (bF rfl rfl hr underlying62 rfl Aj rfl) rfl ⟨by rw [HB.out]; rfl, hfr⟩
theorem p0Q (s : List UInt8) (w : World) : Calls prog 65 #[.string (mkS s)] w fun e w' => ∃ X Y Z : K, e = .returned (.tuple #[rpV X Y Z, .bool (dS s)]) ∧ (dM s = true → rpL X Y Z = (rdR s).L) ∧ Fr Nob w w' := by
 cases h : dM s with
 | false =>
  refine (p0O s h w).mono ?_
  rintro e w' ⟨⟨X, Y, Z, rfl⟩, hf⟩
  exact ⟨X, Y, Z, by rw [j0I h], fun h => (by cases h), hf⟩
 | true =>
  refine (p0P s h w).mono ?_
  rintro e w' ⟨rfl, hf⟩
  exact ⟨_, _, _, by rw [m0z h], fun _ => (s0b s).symm, hf⟩
theorem j0U : prog.built 60 [] = some (cw 4 0).toArray := by kernel_rfl
theorem s0c (s : List UInt8) (hl : s.length ≠ 65) (w : World) : Calls prog 66 #[.string (mkS s)] w fun e w' => ∃ (X Y Z : K) (N : Nat), e = .returned (.tuple #[rpV X Y Z, i4 N, .bool (wK s)]) ∧ (wK s = true → rpL X Y Z = (rdR (s.take 33)).L ∧ N = beN (s.drop 33)) ∧ Fr Nob w w' := by
 have hne : (((mkS s).size : Int) != 65) = true := by rw [aZ]; simp; omega
 have HF := qH (show wK s = false by unfold wK; rw [decide_eq_false hl]; rfl)
 clear hl
 have st0 := St.start Nob w
 go_enter func66, ntmps66
 go_wp2_with (with_reducible refine AA 2 ?_)
 refine aA st0 rfl rfl (z := zAc) Aa (cw 12 0) Af ?_
 intro g2 w1 st1
 clear st0
 go_wp2_with (with_reducible refine AA 3 ?_)
 refine aA st1 rfl rfl (z := zAd) Aa (cw 4 0) Af ?_
 intro g3 w2 st2
 clear st1
 go_wp2_with (with_reducible refine AA 12 ?_)
 refine cD rfl rfl _ mX ?_
 rw [m0A]
 go_wp2_with (with_reducible refine AA 13 ?_)
 refine cD rfl rfl _ j0U ?_
 go_wp2_with (with_reducible refine AB ?_)
 refine aB st2 0 rfl rfl rfl rfl rfl Aq Aj (iD _ _ _) ?_
 intro w3 st3
 clear st2
 go_wp2_with (with_reducible refine AB ?_)
 refine aB st3 1 rfl rfl rfl rfl rfl Aq Aj (aF _ _) ?_
 intro w4 st4
 clear st3
 have hr := st4.at 0 rfl
 have hr2 := st4.at 1 rfl
 have hfr := st4.fr
 clear st4
 go_wp2_with fail
 exact bodyPost_ret (nA rfl rfl hr underlying62 rfl Aj rfl hr2 underlying60 rfl (wJ _) rfl) rfl ⟨0, 0, 0, 0, by rw [HF.out]; rfl, fun h => (by rw [HF.out] at h; cases h), hfr⟩
theorem s0d (s : List UInt8) (hl : s.length = 65) (w : World) : Calls prog 66 #[.string (mkS s)] w fun e w' => ∃ (X Y Z : K) (N : Nat), e = .returned (.tuple #[rpV X Y Z, i4 N, .bool (wK s)]) ∧ (wK s = true → rpL X Y Z = (rdR (s.take 33)).L ∧ N = beN (s.drop 33)) ∧ Fr Nob w w' := by
 have hne : (((mkS s).size : Int) != 65) = false := by rw [aZ, hl]; rfl
 have hI1 : (33 : Int) ≤ ((mkS s).size : Int) := by rw [aZ]; omega
 have hI2 : 33 ≤ (mkS s).size := by rw [aZ]; omega
 have HF := qH (show wK s = (dM (s.take 33) && cL mQ (s.drop 33)) by unfold wK; rw [decide_eq_true hl]; rfl)
 have HE1 := qH (n0t s 33 Ab)
 have HE2 := qH (n0u s 33)
 clear hl
 have st0 := St.start Nob w
 go_enter func66, ntmps66
 go_wp2_with (with_reducible refine AA 2 ?_)
 refine aA st0 rfl rfl (z := zAc) Aa (cw 12 0) Af ?_
 intro g2 w1 st1
 clear st0
 go_wp2_with (with_reducible refine AA 3 ?_)
 refine aA st1 rfl rfl (z := zAd) Aa (cw 4 0) Af ?_
 intro g3 w2 st2
 clear st1
 go_wp2_with fail
 rw [HE1.out]
 refine (m0y (s.take 33) _).mono ?_
 rintro e' w3 ⟨X, Y, Z, rfl, hx, hf⟩
 have st3 := st2.keep hf
 have HX := qH hx
 clear st2 hf hx
 generalize hb1 : dM (s.take 33) = b1 at *
 have HB1 := qH hb1
 clear hb1
 go_wp2_with (with_reducible refine AA 5 ?_)
 refine aA st3 rfl rfl (z := zAc) Aa (cw 12 0) Af ?_
 intro g5 w4 st4
 clear st3
 go_wp2_with (with_reducible refine AB ?_)
 refine aB st4 2 rfl rfl rfl rfl rfl Aq Aj (iD _ _ _) ?_
 intro w5 st5
 clear st4
 go_wp2_with fail
 rw [HE2.out]
 refine (g0R (s.drop 33) _).mono ?_
 rintro e' w6 ⟨N, rfl, hx, hf⟩
 have st6 := st5.keep hf
 have HN := qH hx
 clear st5 hf hx
 generalize hb2 : cL mQ (s.drop 33) = b2 at *
 have HB2 := qH hb2
 clear hb2
 go_wp2_with (with_reducible refine AA 7 ?_)
 refine aA st6 rfl rfl (z := zAd) Aa (cw 4 0) Af ?_
 intro g7 w7 st7
 clear st6
 go_wp2_with (with_reducible refine AB ?_)
 refine aB st7 3 rfl rfl rfl rfl rfl Aq Aj (aF _ _) ?_
 intro w8 st8
 clear st7
 clear hI1 hI2 hne
 rcases b1 with _ | _
 ·skip
  go_wp2_with fail
  refine wp_region_noPanic ?_
  refine cW (fun wx => St Nob w wx [(g5, rpL X Y Z, 62), (g7, cw 4 N, 60)]) 7 (.t 0 (.t 1 (.w 2 (.w 3 (.w 4 (.w 5 (.r 6 (.m 7 (.w 8 .nil))))))))) Aa Aa (St.less st8.drew Ae) (fun _ _ _ _ _ h => h) ?_
  have hd8 := st8.drew
  clear st8
  refine bY rfl rfl rfl rfl (rpL X Y Z) (fun wx hS => St.rangeL hS 0 rfl 0 _ dZl) underlying62 rfl Aj ?_
  try simp only [J]
  refine bY rfl rfl rfl rfl (cw 4 N) (fun wx hS => St.rangeL hS 1 rfl 0 _ dZl) underlying60 rfl Aj ?_
  try simp only [J]
  refine aQ rfl rfl apW ?_
  try simp only [J]
  refine aQ rfl rfl apW ?_
  try simp only [J]
  refine cG rfl rfl ?_
  try simp only [J]
  refine aQ rfl rfl apW ?_
  try simp only [J]
  refine eV rfl rfl ?_
  refine aG hd8 0 rfl rfl rfl rfl Aq Aj (iD _ _ _) ?_
  intro w9 st9
  clear hd8
  refine ⟨St.less st9 Ae, ?_⟩
  try simp only [Act.put]
  refine lP rfl rfl ?_
  refine aG st9 1 rfl rfl rfl rfl Aq Aj (aF _ _) ?_
  intro w10 st10
  clear st9
  try simp only [Act.put]
  refine aQ rfl rfl apW ?_
  try simp only [J]
  refine gN ?_
  refine NoPanic.normal ?_
  have hr := st10.at 0 rfl
  have hr2 := st10.at 1 rfl
  have hfr := st10.fr
  clear st10
  go_wp2_with fail
  exact bodyPost_ret (nA rfl rfl hr underlying62 rfl Aj rfl hr2 underlying60 rfl (wJ _) rfl) rfl ⟨X, Y, Z, N, by rw [HF.out]; rfl, fun h => (by rw [HF.out] at h; cases h), hfr⟩
 ·skip
  go_wp2_with fail
  refine wp_region_noPanic ?_
  refine cW (fun wx => St Nob w wx [(g5, rpL X Y Z, 62), (g7, cw 4 N, 60)]) 7 (.t 0 (.t 1 (.w 2 (.w 3 (.w 4 (.w 5 (.r 6 (.m 7 (.w 8 .nil))))))))) Aa Aa (St.less st8.drew Ae) (fun _ _ _ _ _ h => h) ?_
  have hd8 := st8.drew
  clear st8
  refine bY rfl rfl rfl rfl (rpL X Y Z) (fun wx hS => St.rangeL hS 0 rfl 0 _ dZl) underlying62 rfl Aj ?_
  try simp only [J]
  refine bY rfl rfl rfl rfl (cw 4 N) (fun wx hS => St.rangeL hS 1 rfl 0 _ dZl) underlying60 rfl Aj ?_
  try simp only [J]
  refine aQ rfl rfl apW ?_
  try simp only [J]
  refine aQ rfl rfl apW ?_
  try simp only [J]
  refine aQ rfl rfl apW ?_
  try simp only [J]
  refine aQ rfl rfl apW ?_
  try simp only [J]
  refine eV rfl rfl ?_
  refine aG hd8 0 rfl rfl rfl rfl Aq Aj (iD _ _ _) ?_
  intro w9 st9
  clear hd8
  refine ⟨St.less st9 Ae, ?_⟩
  try simp only [Act.put]
  refine lP rfl rfl ?_
  refine aG st9 1 rfl rfl rfl rfl Aq Aj (aF _ _) ?_
  intro w10 st10
  clear st9
  try simp only [Act.put]
  refine aQ rfl rfl apW ?_
  try simp only [J]
  refine gN ?_
  refine NoPanic.normal ?_
  have hr := st10.at 0 rfl
  have hr2 := st10.at 1 rfl
  have hfr := st10.fr
  clear st10
  go_wp2_with fail
  exact bodyPost_ret (nA rfl rfl hr underlying62 rfl Aj rfl hr2 underlying60 rfl (wJ _) rfl) rfl ⟨X, Y, Z, N, by rw [HF.out]; rfl, fun h => (by rw [HF.out] at h; exact ⟨HX.out (by trivial), HN.out h⟩), hfr⟩
theorem s0e (s : List UInt8) (w : World) : Calls prog 66 #[.string (mkS s)] w fun e w' => ∃ (X Y Z : K) (N : Nat), e = .returned (.tuple #[rpV X Y Z, i4 N, .bool (wK s)]) ∧ (wK s = true → rpL X Y Z = (rdR (s.take 33)).L ∧ N = beN (s.drop 33)) ∧ Fr Nob w w' := by
 by_cases h : s.length = 65
 ·exact s0d s h w
 ·exact s0c s h w
theorem p0R (pub s : List UInt8) : rdG pub s = (dS pub && wK s) := by unfold rdG wK; rfl
end
section
open Go.RowKit Go.Mv Mvp Mvq
noncomputable def bRR (st : List UInt8) (l : List Trp) : Nat × RT := l.foldl (fun r x => (r.1 + 1, kC r.2 (kC (dB (wN st r.1) (rdR (x.2.2.take 33))) (dB (wN st r.1 * cN x % mQ.M) (rdR x.1))))) (0, noR)
theorem a0s (st : List UInt8) (l : List Trp) (x : Trp) : bRR st (l ++ [x]) = ((bRR st l).1 + 1, kC (bRR st l).2 (kC (dB (wN st (bRR st l).1) (rdR (x.2.2.take 33))) (dB (wN st (bRR st l).1 * cN x % mQ.M) (rdR x.1)))) := by unfold bRR; rw [List.foldl_append]; rfl
theorem s0f (st : List UInt8) (l : List Trp) : (bRR st l).1 = l.length := by
 induction l using iC with
 | nil => rfl
 | snoc l x ih => rw [a0s]; simp [ih]
theorem s0g (st : List UInt8) (l : List Trp) (h : ∀ x ∈ l, okT x = true) : (bRR st l).2.pt = (bR st l).2 := by
 induction l using iC with
 | nil => exact j0w
 | snoc l x ih =>
  have hx := c0i (h x Ae)
  rw [a0s, vL, s0f, s0X, vJ, vJ, ih fun y hy => h y (by simp [hy]), vK _ (Nat.lt_trans (r0O _ _) lT.lt), vK _ (Nat.lt_trans (Nat.mod_lt _ mQ0) lT.lt), j0E hx.1, j0E hx.2]
  rw [d0E, lQ (qU hx.2)]
open Classical in
theorem p0S (st : List UInt8) (l : List Trp) (h : ∀ x ∈ l, okT x = true) : decide ((dB ((bA st l).X % mQ.M) d0D).pt = (bRR st l).2.pt) = btB st l := by
 unfold btB
 rw [List.all_eq_true.2 h, Bool.true_and, s0g st l h, vK _ (Nat.lt_trans (Nat.mod_lt _ mQ0) lT.lt), m0i, d0E, show Pt.A (kc gXn) (kc gYn) = gP from rfl, lQ pZ]
theorem p0T (st : List UInt8) (l : List Trp) (x : Trp) : (bA st (l ++ [x])).X = (bA st l).X + wN st l.length * zN x := by rw [oG]; simp only [a0r, s0q]
end
section
open Go.RowKit Go.Mv Mvp Mvq
theorem t0b (st : List UInt8) (T : List Trp) (j : Nat) (p t s : List UInt8) (h : T[j]? = some (p, t, s)) : btL st (T.take (j + 1)) = dX tP [dX tP [dX tP [btL st (T.take j), sE, p], e0g, t], e0f, s] := by
 rw [List.take_add_one, h]
 exact a0q _ _ _
theorem j0V (l : List UInt8) (T : List Trp) : (btL (b0l l) T).length = 32 := by
 induction T using iC with
 | nil => exact hZ _ _
 | snoc l x ih => rw [a0q]; exact hZ _ _
theorem j0W (st : List UInt8) (h : st.length = 32) (j : Nat) : (wSt st j).length = 32 := by
 cases j with
 | zero => exact h
 | succ j => exact hZ _ _
theorem j0X (st : List UInt8) (j : Nat) : beN (bH (dX a0y [wSt st j, pA]) 31 64) % mQ.M = wN st j := rfl
theorem t0c (st : List UInt8) : (bRR st []).2 = noR := rfl
theorem t0d (st : List UInt8) : btL st [] = st := rfl
theorem s0h (l : List UInt8) : b0l l = dX k0e [l] := rfl
theorem t0e (st : List UInt8) (T : List Trp) (j : Nat) (p t s : List UInt8) (h : T[j]? = some (p, t, s)) (W : Nat) (hW : wN st j = W) : (bRR st (T.take (j + 1))).2 = kC (bRR st (T.take j)).2 (kC (dB W (rdR (s.take 33))) (dB (W * cU p (s.take 33) t % mQ.M) (rdR p))) := by
 have hj : j < T.length := by
  by_cases h2 : j < T.length
  ·exact h2
  ·rw [List.getElem?_eq_none Ab] at h; cases h
 rw [List.take_add_one, h, show T.take j ++ (some (p, t, s)).toList = T.take j ++ [(p, t, s)] from rfl, a0s, s0f, List.length_take, Nat.min_eq_left Ab, hW]
 rfl
theorem t0I (st : List UInt8) (T : List Trp) (j : Nat) (p t s : List UInt8) (h : T[j]? = some (p, t, s)) (W : Nat) (hW : wN st j = W) : (bA st (T.take (j + 1))).X % mQ.M = ((bA st (T.take j)).X % mQ.M + W * beN (s.drop 33) % mQ.M) % mQ.M := by
 have hj : j < T.length := by
  by_cases h2 : j < T.length
  ·exact h2
  ·rw [List.getElem?_eq_none Ab] at h; cases h
 rw [List.take_add_one, h, show T.take j ++ (some (p, t, s)).toList = T.take j ++ [(p, t, s)] from rfl, p0T, List.length_take, Nat.min_eq_left Ab, hW, ← Nat.add_mod]
 rfl
theorem a0t (l : List (List UInt8)) (i : Nat) (x : List UInt8) (h : l[i]? = some x) : (ss l)[i]? = some (.string (mkS x)) := by simp [ss, h]
attribute [local irreducible] bI lw mix cw cT dG cS bQ aO beN dO cI dI bM bT elN mdL cL rtV dW cK dM fD bV cO dD toB aW bG cR eD bH eU cA bD dX fZ kC noR dB RT.L rdR kN kc oD sgF sgZ cU chN lV a0e dS rpL veB rdG kA wK btL bA bRR wSt wN okT btB
theorem rN (ap : Option Addr) (np cp : Nat) (at_ : Option Addr) (nt ct : Nat) (as_ : Option Addr) (ns cs : Nat) (w : World) (h : nt ≠ np) : Calls prog 31 #[.slice ap np cp, .slice at_ nt ct, .slice as_ ns cs] w fun e w' => e = .returned (.tuple #[.bool false, .int .i64 2]) ∧ Fr Nob w w' := by
 have hJ : ((nt : Int) != (np : Int)) = true := by simp; omega
 clear h
 have st0 := qH (Fr.refl Nob w)
 go_enter func31, ntmps31
 go_wp2_with fail
 go_ret2
 exact ⟨rfl, st0.out⟩
theorem c0l (ap : Option Addr) (np cp : Nat) (at_ : Option Addr) (nt ct : Nat) (as_ : Option Addr) (ns cs : Nat) (w : World) (h : ns ≠ np) : Calls prog 31 #[.slice ap np cp, .slice at_ nt ct, .slice as_ ns cs] w fun e w' => e = .returned (.tuple #[.bool false, .int .i64 2]) ∧ Fr Nob w w' := by
 by_cases h2 : nt = np
 ·subst h2
  have hJ : ((ns : Int) != (nt : Int)) = true := by simp; omega
  clear h
  have st0 := qH (Fr.refl Nob w)
  go_enter func31, ntmps31
  go_wp2_with fail
  go_ret2
  exact ⟨rfl, st0.out⟩
 ·exact rN ap np cp at_ nt ct as_ ns cs w h2
theorem d0J (ap : Option Addr) (np cp : Nat) (at_ : Option Addr) (ct : Nat) (as_ : Option Addr) (cs : Nat) (w : World) (h : 64 < np) : Calls prog 31 #[.slice ap np cp, .slice at_ np ct, .slice as_ np cs] w fun e w' => e = .returned (.tuple #[.bool false, .int .i64 1]) ∧ Fr Nob w w' := by
 have hJ : (64 : Int) < (np : Int) := by omega
 clear h
 have st0 := qH (Fr.refl Nob w)
 go_enter func31, ntmps31
 go_wp2_with fail
 go_ret2
 exact ⟨rfl, st0.out⟩
open Classical in
theorem g0S (ap : Option Addr) (cp : Nat) (at_ : Option Addr) (ct : Nat) (as_ : Option Addr) (n cs : Nat) (lp lt ls : List (List UInt8)) (w : World) (hn : n ≤ 64) (h1 : lp.length = n) (h2 : lt.length = n) (h3 : ls.length = n) (rp : Rd w ap n (ss lp)) (rt : Rd w at_ n (ss lt)) (rs : Rd w as_ n (ss ls)) (zp : ∀ x ∈ lp, x.length ≤ 4096) (zt : ∀ x ∈ lt, x.length ≤ 4096) (zs : ∀ x ∈ ls, x.length ≤ 4096) (T : List Trp) (ST : List UInt8) (hT : lp.zip (lt.zip ls) = T) (hST : btL (b0l gR) T = ST) : Calls prog 31 #[.slice ap n cp, .slice at_ n ct, .slice as_ n cs] w fun e w' => e = .returned (.tuple #[.bool (btB ST T), .int .i64 0]) ∧ Fr Nob w w' := by
 have HN := qH hn
 have H1 := qH h1
 have H2 := qH h2
 have H3 := qH h3
 have HRP := qH rp
 have HRT := qH rt
 have HRS := qH rs
 have HZP := qH zp
 have HZT := qH zt
 have HZS := qH zs
 have HT := qH hT
 have HST := qH hST
 have HZL := qH (show T.length = n by rw [← hT, List.length_zip, List.length_zip, h1, h2, h3]; simp)
 have HLS := qH (show ST.length = 32 by rw [← hST]; exact j0V _ _)
 have hI : ¬ ((64 : Int) < (n : Int)) := by omega
 clear hn h1 h2 h3 rp rt rs zp zt zs hT hST
 have st0 := St.start Nob w
 go_enter func31, ntmps31
 go_wp2_with fail
 refine (d0Z ⟨#[98, 97, 116, 99, 104]⟩ _ Ac).mono ?_
 rintro e' w1 ⟨g, rfl, hle, hl, hf1⟩
 have st1 : St Nob w w1 [(g, [.string (mkS (btL (b0l gR) []))], 197)] := by rw [t0d, s0h]; exact st0.new hf1 hl hle
 have STA := qH st1
 clear st0 st1 hle hl hf1
 go_wp2_with fail
 go_loopw [10] (fun i wr => ∃ j : Nat, j ≤ n ∧ i = .int .i64 (j : Int) ∧ St Nob w wr [(g, [.string (mkS (btL (b0l gR) (T.take j)))], 197)]) (fun i _ => n - (intOf i).toNat)
 case atStart => exact ⟨0, Nat.zero_le _, rfl, by rw [List.take_zero]; exact STA.out⟩
 case round =>
  clear STA
  obtain ⟨j, hj, rfl, hst⟩ := hrel
  by_cases hlt : j < n
  ·skip
   have hltI : (j : Int) < (n : Int) := by omega
   obtain ⟨bp, op, rfl, -⟩ := HRP.out.at Ab
   obtain ⟨lpj, hlp⟩ : ∃ v, lp[j]? = some v := ⟨_, List.getElem?_eq_getElem (by rw [H1.out]; exact hlt)⟩
   have hzp : lpj.length ≤ 4096 := HZP.out _ (List.mem_of_getElem? hlp)
   have HLp := qH hlp
   have HYp := qH hzp
   clear hlp hzp
   obtain ⟨bt, ot, rfl, -⟩ := HRT.out.at Ab
   obtain ⟨ltj, hlt⟩ : ∃ v, lt[j]? = some v := ⟨_, List.getElem?_eq_getElem (by rw [H2.out]; exact hlt)⟩
   have hzt : ltj.length ≤ 4096 := HZT.out _ (List.mem_of_getElem? hlt)
   have HLt := qH hlt
   have HYt := qH hzt
   clear hlt hzt
   obtain ⟨bs_, os, rfl, -⟩ := HRS.out.at Ab
   obtain ⟨lsj, hls⟩ : ∃ v, ls[j]? = some v := ⟨_, List.getElem?_eq_getElem (by rw [H3.out]; exact hlt)⟩
   have hzs : lsj.length ≤ 4096 := HZS.out _ (List.mem_of_getElem? hls)
   have HLs := qH hls
   have HYs := qH hzs
   clear hls hzs
   have HNX := qH (show T[j]? = some (lpj, ltj, lsj) from HT.out ▸ List.getElem?_zip_eq_some.2 ⟨HLp.out, List.getElem?_zip_eq_some.2 ⟨HLt.out, HLs.out⟩⟩)
   have HLT := qH hlt
   clear hj hlt
   have hc := fS (HRP.out.still hst.fr) j _ (a0t _ _ _ HLp.out)
   go_wp2_with fail
   refine (nB g (btL (b0l gR) (T.take j)) ⟨#[112, 117, 98, 108, 105, 99]⟩ (mkS lpj) _ (j0V _ _) Ac (by rw [aZ]; have := HYp.out; omega) (hst.at 0 rfl)).mono ?_
   rintro e' w10 ⟨rfl, hl10, hf10⟩
   have st10 : St Nob w w10 [(g, [.string (mkS (dX tP [(btL (b0l gR) (T.take j)), [112, 117, 98, 108, 105, 99], lpj]))], 197)] := hst.put 0 rfl hf10 (by rw [bS] at hl10; exact hl10)
   clear hst hl10 hf10 hc
   have hc := fS (HRT.out.still st10.fr) j _ (a0t _ _ _ HLt.out)
   go_wp2_with fail
   refine (nB g (dX tP [(btL (b0l gR) (T.take j)), [112, 117, 98, 108, 105, 99], lpj]) ⟨#[116, 101, 120, 116]⟩ (mkS ltj) _ (hZ _ _) Ac (by rw [aZ]; have := HYt.out; omega) (st10.at 0 rfl)).mono ?_
   rintro e' w11 ⟨rfl, hl11, hf11⟩
   have st11 : St Nob w w11 [(g, [.string (mkS (dX tP [(dX tP [(btL (b0l gR) (T.take j)), [112, 117, 98, 108, 105, 99], lpj]), [116, 101, 120, 116], ltj]))], 197)] := st10.put 0 rfl hf11 (by rw [bS] at hl11; exact hl11)
   clear st10 hl11 hf11 hc
   have hc := fS (HRS.out.still st11.fr) j _ (a0t _ _ _ HLs.out)
   go_wp2_with fail
   refine (nB g (dX tP [(dX tP [(btL (b0l gR) (T.take j)), [112, 117, 98, 108, 105, 99], lpj]), [116, 101, 120, 116], ltj]) ⟨#[115, 105, 103, 110]⟩ (mkS lsj) _ (hZ _ _) Ac (by rw [aZ]; have := HYs.out; omega) (st11.at 0 rfl)).mono ?_
   rintro e' w12 ⟨rfl, hl12, hf12⟩
   have st12 : St Nob w w12 [(g, [.string (mkS (dX tP [(dX tP [(dX tP [(btL (b0l gR) (T.take j)), [112, 117, 98, 108, 105, 99], lpj]), [116, 101, 120, 116], ltj]), [115, 105, 103, 110], lsj]))], 197)] := st11.put 0 rfl hf12 (by rw [bS] at hl12; exact hl12)
   clear st11 hl12 hf12 hc
   have STE := qH (show St Nob w w12 [(g, [.string (mkS (btL (b0l gR) (T.take (j + 1))))], 197)] by rw [t0b _ _ _ _ _ _ HNX.out]; exact st12)
   clear st12
   go_wp2_with fail
   go_roundw
   case rel => exact ⟨j + 1, by have := HLT.out; omega, by go_num, STE.out⟩
   case measure => simp [intOf]; have := HLT.out; omega
  ·skip
   have hge : ¬ ((j : Int) < (n : Int)) := by omega
   rw [List.take_of_length_le (by have := HZL.out; omega), HST.out] at hst
   clear hlt hj
   go_wp2_with fail
   refine (t0p _).mono ?_
   rintro e' w21 ⟨rfl, hf21⟩
   have st21 := hst.keep hf21
   clear hst hf21
   go_wp2_with (with_reducible refine AA 11 ?_)
   refine aA st21 rfl rfl (z := .agg #[.int .u64 0, .int .u64 0, .int .u64 0, .int .u64 0, .int .u64 0, .int .u64 0, .int .u64 0, .int .u64 0]) Aa (cw 8 0) Af ?_
   intro g11 w22 st22
   clear st21
   go_wp2_with (with_reducible refine AB ?_)
   refine aB st22 1 rfl rfl rfl rfl rfl Aq Aj (uE _ _ _ _) ?_
   intro w23 st23
   clear st22
   go_wp2_with (with_reducible refine AA 12 ?_)
   refine aA st23 rfl rfl (z := zAd) Aa (cw 4 0) Af ?_
   intro g12 w24 st24
   clear st23
   go_wp2_with fail
   refine (d0A _).mono ?_
   rintro e' w25 ⟨rfl, hf25⟩
   have st25 := st24.keep hf25
   clear st24 hf25
   go_wp2_with (with_reducible refine AA 13 ?_)
   refine aA st25 rfl rfl (z := zAc) Aa (cw 12 0) Af ?_
   intro g13 w26 st26
   clear st25
   go_wp2_with (with_reducible refine AB ?_)
   refine aB st26 3 rfl rfl rfl rfl rfl Aq Aj (RT.one _) ?_
   intro w27 st27
   clear st26
   have STB := qH st27
   clear st27 hge
   go_wp2_with fail
   go_loopw [14] (fun i wr => ∃ j : Nat, j ≤ n ∧ i = .int .i64 (j : Int) ∧ (∀ x ∈ T.take j, okT x = true) ∧ St Nob w wr [(g, [.string (mkS (wSt ST j))], 197), (g11, cw 4 mQ.M ++ cw 4 (B64 ^ 4 - mQ.M), 78), (g12, cw 4 ((bA ST (T.take j)).X % mQ.M), 60), (g13, (bRR ST (T.take j)).2.L, 62)]) (fun i _ => n - (intOf i).toNat)
   case atStart => exact ⟨0, Nat.zero_le _, rfl, fun x hx => (by rw [List.take_zero] at hx; cases hx), by rw [List.take_zero, t0a, t0c, r0X]; exact STB.out⟩
   case round =>
    clear STB
    obtain ⟨j, hj, rfl, hok, hst⟩ := hrel
    have HOK := qH hok
    clear hok
    obtain ⟨X, hX⟩ : ∃ x, (bA ST (T.take j)).X % mQ.M = x := ⟨_, rfl⟩
    obtain ⟨R, hR⟩ : ∃ x, (bRR ST (T.take j)).2 = x := ⟨_, rfl⟩
    rw [hX, hR] at hst
    have HX := qH hX
    have HR := qH hR
    have HXL := qH (show X < B64 ^ 4 by rw [← hX]; exact Nat.lt_trans (Nat.mod_lt _ mQ0) lT.lt)
    clear hX hR
    by_cases hlt : j < n
    ·skip
     have hltI : (j : Int) < (n : Int) := by omega
     obtain ⟨bp, op, rfl, -⟩ := HRP.out.at Ab
     obtain ⟨lpj, hlp⟩ : ∃ v, lp[j]? = some v := ⟨_, List.getElem?_eq_getElem (by rw [H1.out]; exact hlt)⟩
     have hzp : lpj.length ≤ 4096 := HZP.out _ (List.mem_of_getElem? hlp)
     have HLp := qH hlp
     have HYp := qH hzp
     clear hlp hzp
     obtain ⟨bt, ot, rfl, -⟩ := HRT.out.at Ab
     obtain ⟨ltj, hlt⟩ : ∃ v, lt[j]? = some v := ⟨_, List.getElem?_eq_getElem (by rw [H2.out]; exact hlt)⟩
     have hzt : ltj.length ≤ 4096 := HZT.out _ (List.mem_of_getElem? hlt)
     have HLt := qH hlt
     have HYt := qH hzt
     clear hlt hzt
     obtain ⟨bs_, os, rfl, -⟩ := HRS.out.at Ab
     obtain ⟨lsj, hls⟩ : ∃ v, ls[j]? = some v := ⟨_, List.getElem?_eq_getElem (by rw [H3.out]; exact hlt)⟩
     have hzs : lsj.length ≤ 4096 := HZS.out _ (List.mem_of_getElem? hls)
     have HLs := qH hls
     have HYs := qH hzs
     clear hls hzs
     have HNX := qH (show T[j]? = some (lpj, ltj, lsj) from HT.out ▸ List.getElem?_zip_eq_some.2 ⟨HLp.out, List.getElem?_zip_eq_some.2 ⟨HLt.out, HLs.out⟩⟩)
     have HLT := qH hlt
     clear hj hlt
     have hc := fS (HRP.out.still hst.fr) j _ (a0t _ _ _ HLp.out)
     go_wp2_with fail
     refine (p0Q lpj _).mono ?_
     rintro e' w31 ⟨X1, Y1, Z1, rfl, hx, hf31⟩
     have st31 := hst.keep hf31
     have HP1 := qH hx
     clear hx
     clear hst hf31
     go_wp2_with (with_reducible refine AA 15 ?_)
     refine aA st31 rfl rfl (z := zAc) Aa (cw 12 0) Af ?_
     intro g15 w32 st32
     clear st31
     go_wp2_with (with_reducible refine AB ?_)
     refine aB st32 4 rfl rfl rfl rfl rfl Aq Aj (iD _ _ _) ?_
     intro w33 st33
     clear st32
     generalize hb1 : dS lpj = b1 at *
     have HB1 := qH hb1
     clear hb1 hc
     have hc := fS (HRS.out.still st33.fr) j _ (a0t _ _ _ HLs.out)
     go_wp2_with fail
     refine (s0e lsj _).mono ?_
     rintro e' w34 ⟨X2, Y2, Z2, N, rfl, hx, hf34⟩
     have st34 := st33.keep hf34
     have HS1 := qH hx
     clear hx
     clear st33 hf34
     go_wp2_with (with_reducible refine AA 17 ?_)
     refine aA st34 rfl rfl (z := zAc) Aa (cw 12 0) Af ?_
     intro g17 w35 st35
     clear st34
     go_wp2_with (with_reducible refine AA 18 ?_)
     refine aA st35 rfl rfl (z := zAd) Aa (cw 4 0) Af ?_
     intro g18 w36 st36
     clear st35
     go_wp2_with (with_reducible refine AB ?_)
     refine aB st36 5 rfl rfl rfl rfl rfl Aq Aj (iD _ _ _) ?_
     intro w37 st37
     clear st36
     go_wp2_with (with_reducible refine AB ?_)
     refine aB st37 6 rfl rfl rfl rfl rfl Aq Aj (aF _ _) ?_
     intro w38 st38
     clear st37
     generalize hb2 : wK lsj = b2 at *
     have HB2 := qH hb2
     clear hb2 hc
     by_cases hg : rdG lpj lsj = true
     ·skip
      have HGD := qH hg
      clear hg
      have hb12 : b1 = true ∧ b2 = true := by have h := HGD.out; rw [p0R, HB1.out, HB2.out, Bool.and_eq_true] at h; exact h
      obtain ⟨rfl, rfl⟩ := hb12
      have hy := HS1.out (by trivial)
      obtain ⟨hy1, rfl⟩ := hy
      rw [hy1, HP1.out (j0Q HB1.out)] at st38
      clear hy1 HP1 HS1
      obtain ⟨W, hW⟩ : ∃ x, wN ST j = x := ⟨_, rfl⟩
      have HW := qH hW
      have HWL := qH (show W < B64 ^ 4 by rw [← hW]; exact Nat.lt_trans (r0O _ _) lT.lt)
      clear hW
      go_wp2_with fail
      refine wp_region_noPanic ?_
      refine aP (fun wx => St Nob w wx [(g11, cw 4 mQ.M ++ cw 4 (B64 ^ 4 - mQ.M), 78), (g12, cw 4 X, 60), (g13, R.L, 62), (g15, (rdR lpj).L, 62), (g17, (rdR (lsj.take 33)).L, 62), (g18, cw 4 (beN (lsj.drop 33)), 60)]) 5 (.t 0 (.w 1 (.b 2 4 (.b 3 4 (.r 4 (.m 5 .nil)) (.r 3 (.m 5 .nil))) (.r 2 (.r 3 (.m 5 .nil)))))) Aa Aa (st38.drew.less Ae) (fun _ _ _ _ _ h => h) ?_
      have std := st38.drew
      clear st38
      refine aV rfl rfl rfl rfl (cw 4 mQ.M ++ cw 4 (B64 ^ 4 - mQ.M)) (fun wx hS => St.rangeL hS 0 rfl 0 _ dZl) underlying78 rfl Aj ?_
      try simp only [J]
      refine aJ rfl rfl apW ?_
      try simp only [J]
      refine i0h (C := fun g20 wz => St Nob w wz [(g, [.string (mkS (wSt ST (j + 1)))], 197), (g11, cw 4 mQ.M ++ cw 4 (B64 ^ 4 - mQ.M), 78), (g12, cw 4 X, 60), (g13, R.L, 62), (g15, (rdR lpj).L, 62), (g17, (rdR (lsj.take 33)).L, 62), (g18, cw 4 (beN (lsj.drop 33)), 60), (g20, cw 4 W, 60)]) (F := ?_) rfl rfl rfl rfl (fun key => ?_) (fun key => ?_) ?_
      rotate_left 1
      ·skip
       go_simp
       refine (yW g (wSt ST j) ⟨#[119, 101, 105, 103, 104, 116]⟩ 64 _ (j0W _ HLS.out _) Ac Ac (St.at std 0 rfl)).mono ?_
       rintro e' wa ⟨rfl, hl, hf⟩
       have was : St Nob w wa [(g, [.string (mkS (wSt ST (j + 1)))], 197), (g11, cw 4 mQ.M ++ cw 4 (B64 ^ 4 - mQ.M), 78), (g12, cw 4 X, 60), (g13, R.L, 62), (g15, (rdR lpj).L, 62), (g17, (rdR (lsj.take 33)).L, 62), (g18, cw 4 (beN (lsj.drop 33)), 60)] := St.put std 0 rfl hf (by rw [p0K]; exact hl)
       clear hl hf
       refine ⟨St.less was Ae, ?_⟩
       try simp only []
       refine i0h (C := fun _ _ => True) (F := fun _ _ => True) rfl rfl rfl rfl (fun _ => ?_) (fun _ => ?_) (fun _ _ h => h)
       ·skip
        go_simp
        refine (s0r mQ.M (dX a0y [wSt ST j, [119, 101, 105, 103, 104, 116]]) _ mQ0 lT.lt).mono ?_
        rintro e' wb ⟨rfl, hf⟩
        have wbs := St.keep was hf
        clear hf
        rw [show beN (bH (dX a0y [wSt ST j, [119, 101, 105, 103, 104, 116]]) 31 64) % mQ.M = W by rw [← HW.out]; exact j0X _ _]
        refine ⟨St.less wbs Ae, ?_⟩
        try simp only [J]
        refine bC rfl rfl ?_
        refine cH wbs rfl g0Q (cw 4 0) rfl ?_
        intro g20 wc wcs
        simp only [List.cons_append, List.nil_append] at wcs
        refine ⟨St.less wcs Ae, ?_⟩
        try simp only [J]
        refine aU rfl rfl ?_
        refine aG wcs 7 rfl rfl rfl rfl (vE _ _) (wJ _) (aF _ _) ?_
        intro wd wds
        try simp only [Act.put]
        refine aH ?_
        exact key g20 _ wds
       ·skip
        refine cH was rfl g0Q (cw 4 0) rfl ?_
        intro g20 wb wbs
        simp only [List.cons_append, List.nil_append] at wbs
        refine ⟨St.less wbs Ae, ?_⟩
        try simp only [J]
        refine bC rfl rfl ?_
        go_simp
        refine (s0r mQ.M (dX a0y [wSt ST j, [119, 101, 105, 103, 104, 116]]) _ mQ0 lT.lt).mono ?_
        rintro e' wc ⟨rfl, hf⟩
        have wcs := St.keep wbs hf
        clear hf
        rw [show beN (bH (dX a0y [wSt ST j, [119, 101, 105, 103, 104, 116]]) 31 64) % mQ.M = W by rw [← HW.out]; exact j0X _ _]
        refine ⟨St.less wcs Ae, ?_⟩
        try simp only [J]
        refine aU rfl rfl ?_
        refine aG wcs 7 rfl rfl rfl rfl (vE _ _) (wJ _) (aF _ _) ?_
        intro wd wds
        try simp only [Act.put]
        refine aH ?_
        exact key g20 _ wds
      ·skip
       refine cH std rfl g0Q (cw 4 0) rfl ?_
       intro g20 wa was
       simp only [List.cons_append, List.nil_append] at was
       refine ⟨St.less was Ae, ?_⟩
       try simp only [J]
       refine bC rfl rfl ?_
       go_simp
       refine (yW g (wSt ST j) ⟨#[119, 101, 105, 103, 104, 116]⟩ 64 _ (j0W _ HLS.out _) Ac Ac (St.at was 0 rfl)).mono ?_
       rintro e' wb ⟨rfl, hl, hf⟩
       have wbs : St Nob w wb [(g, [.string (mkS (wSt ST (j + 1)))], 197), (g11, cw 4 mQ.M ++ cw 4 (B64 ^ 4 - mQ.M), 78), (g12, cw 4 X, 60), (g13, R.L, 62), (g15, (rdR lpj).L, 62), (g17, (rdR (lsj.take 33)).L, 62), (g18, cw 4 (beN (lsj.drop 33)), 60), (g20, cw 4 0, 60)] := St.put was 0 rfl hf (by rw [p0K]; exact hl)
       clear hl hf
       refine ⟨St.less wbs Ae, ?_⟩
       try simp only []
       refine bC rfl rfl ?_
       go_simp
       refine (s0r mQ.M (dX a0y [wSt ST j, [119, 101, 105, 103, 104, 116]]) _ mQ0 lT.lt).mono ?_
       rintro e' wc ⟨rfl, hf⟩
       have wcs := St.keep wbs hf
       clear hf
       rw [show beN (bH (dX a0y [wSt ST j, [119, 101, 105, 103, 104, 116]]) 31 64) % mQ.M = W by rw [← HW.out]; exact j0X _ _]
       refine ⟨St.less wcs Ae, ?_⟩
       try simp only [J]
       refine aU rfl rfl ?_
       refine aG wcs 7 rfl rfl rfl rfl (vE _ _) (wJ _) (aF _ _) ?_
       intro wd wds
       try simp only [Act.put]
       refine aH ?_
       exact key g20 _ wds
      intro g20 w60 st60
      clear std
      refine NoPanic.normal ?_
      have hls : lsj.length = 65 := by have h := HGD.out; rw [p0R] at h; unfold wK at h; simp only [Bool.and_eq_true, decide_eq_true_eq] at h; exact h.2.1
      have hI1 : (33 : Int) ≤ ((mkS lsj).size : Int) := by rw [aZ, hls]; decide
      have HE1 := qH (n0t lsj 33 Ab)
      clear hls
      go_wp2_with fail
      refine wp_region_noPanic ?_
      have hd60 := st60.drew
      clear st60
      refine fU (fun wx => St Nob w wx [(g, [.string (mkS (wSt ST (j + 1)))], 197), (g11, cw 4 mQ.M ++ cw 4 (B64 ^ 4 - mQ.M), 78), (g12, cw 4 X, 60), (g13, R.L, 62), (g15, (rdR lpj).L, 62), (g17, (rdR (lsj.take 33)).L, 62), (g18, cw 4 (beN (lsj.drop 33)), 60), (g20, cw 4 W, 60)] ∧ Fr Nob (World.drew _) wx) [0, 1, 2, 3, 4, 5, 6, 7, 8, 9, 10, 11, 12, 13, 14] [] (fun i => match i with | 0 => [] | 1 => [] | 2 => [0, 1] | 3 => [2] | 4 => [] | 5 => [] | 6 => [4, 5] | 7 => [6] | 8 => [7] | 9 => [] | 10 => [] | 11 => [9, 10] | 12 => [11] | 13 => [3, 8, 12] | 14 => [] | _ => []) (fun i x wx => match i with | 0 => x 0 = .slice (some ⟨bp, op, none⟩) n cp | 1 => x 1 = .int .i64 (j : Int) | 2 => x 2 = .pointer (some ⟨bp, op + j, none⟩) | 3 => x 3 = .string (mkS lpj) | 4 => x 4 = .slice (some ⟨bs_, os, none⟩) n cs | 5 => x 5 = .int .i64 (j : Int) | 6 => x 6 = .pointer (some ⟨bs_, os + j, none⟩) | 7 => x 7 = .string (mkS lsj) | 8 => x 8 = .string ((mkS lsj).extract 0 33) | 9 => x 9 = .slice (some ⟨bt, ot, none⟩) n ct | 10 => x 10 = .int .i64 (j : Int) | 11 => x 11 = .pointer (some ⟨bt, ot + j, none⟩) | 12 => x 12 = .string (mkS ltj) | 13 => x 13 = i4 (cU lpj (lsj.take 33) ltj) | 14 => ∃ g, x 14 = .pointer (some ⟨g, 0, none⟩) ∧ Has wx g (cw 4 0) 60 ∧ w60.heap.size ≤ g | _ => True) 15 (.m 15 .nil) ?_ (fun x => ?_) Aa Aa (fun _ _ _ _ _ h => h) ⟨hd60, Fr.refl _ _⟩ (fun _ _ h k => ⟨h.1.keep k, h.2.then k⟩) ?_ ?_
      rotate_left 1
      ·simp only [qC, k0h, Act.put, List.getElem?_toArray, List.getElem?_cons_zero, List.getElem?_cons_succ, List.setIfInBounds_toArray, List.set_cons_zero, List.set_cons_succ]
       exact rfl
      refine aN rfl rfl (fun x wx hG hp => ?_) (fun y _ _ h k => h) ?_
      ·try dsimp only
       clear hp
       exact dF (v := .slice (some ⟨bp, op, none⟩) n cp) Ak rfl
      refine aN rfl rfl (fun x wx hG hp => ?_) (fun y _ _ h k => h) ?_
      ·try dsimp only
       clear hp
       exact dF (v := .int .i64 (j : Int)) Ak rfl
      refine aN rfl rfl (fun x wx hG hp => ?_) (fun y _ _ h k => h) ?_
      ·try dsimp only
       have e0 : x 0 = .slice (some ⟨bp, op, none⟩) n cp := hp 0 Ac
       generalize x 0 = v0 at e0 ⊢
       subst e0
       have e1 : x 1 = .int .i64 (j : Int) := hp 1 Ac
       generalize x 1 = v1 at e1 ⊢
       subst e1
       clear hp
       exact dF (v := .pointer (some ⟨bp, op + j, none⟩)) Ak rfl
      refine aN rfl rfl (fun x wx hG hp => ?_) (fun y _ _ h k => h) ?_
      ·try dsimp only
       have e2 : x 2 = .pointer (some ⟨bp, op + j, none⟩) := hp 2 Ac
       generalize x 2 = v2 at e2 ⊢
       subst e2
       clear hp
       have hc := fS (HRP.out.still hG.1.fr) j _ (a0t _ _ _ HLp.out)
       exact dF (v := .string (mkS lpj)) Ba rfl
      refine aN rfl rfl (fun x wx hG hp => ?_) (fun y _ _ h k => h) ?_
      ·try dsimp only
       clear hp
       exact dF (v := .slice (some ⟨bs_, os, none⟩) n cs) Ak rfl
      refine aN rfl rfl (fun x wx hG hp => ?_) (fun y _ _ h k => h) ?_
      ·try dsimp only
       clear hp
       exact dF (v := .int .i64 (j : Int)) Ak rfl
      refine aN rfl rfl (fun x wx hG hp => ?_) (fun y _ _ h k => h) ?_
      ·try dsimp only
       have e4 : x 4 = .slice (some ⟨bs_, os, none⟩) n cs := hp 4 Ac
       generalize x 4 = v4 at e4 ⊢
       subst e4
       have e5 : x 5 = .int .i64 (j : Int) := hp 5 Ac
       generalize x 5 = v5 at e5 ⊢
       subst e5
       clear hp
       exact dF (v := .pointer (some ⟨bs_, os + j, none⟩)) Ak rfl
      refine aN rfl rfl (fun x wx hG hp => ?_) (fun y _ _ h k => h) ?_
      ·try dsimp only
       have e6 : x 6 = .pointer (some ⟨bs_, os + j, none⟩) := hp 6 Ac
       generalize x 6 = v6 at e6 ⊢
       subst e6
       clear hp
       have hc := fS (HRS.out.still hG.1.fr) j _ (a0t _ _ _ HLs.out)
       exact dF (v := .string (mkS lsj)) Ba rfl
      refine aN rfl rfl (fun x wx hG hp => ?_) (fun y _ _ h k => h) ?_
      ·try dsimp only
       have e7 : x 7 = .string (mkS lsj) := hp 7 Ac
       generalize x 7 = v7 at e7 ⊢
       subst e7
       clear hp
       exact dF (v := .string ((mkS lsj).extract 0 33)) Ak rfl
      refine aN rfl rfl (fun x wx hG hp => ?_) (fun y _ _ h k => h) ?_
      ·try dsimp only
       clear hp
       exact dF (v := .slice (some ⟨bt, ot, none⟩) n ct) Ak rfl
      refine aN rfl rfl (fun x wx hG hp => ?_) (fun y _ _ h k => h) ?_
      ·try dsimp only
       clear hp
       exact dF (v := .int .i64 (j : Int)) Ak rfl
      refine aN rfl rfl (fun x wx hG hp => ?_) (fun y _ _ h k => h) ?_
      ·try dsimp only
       have e9 : x 9 = .slice (some ⟨bt, ot, none⟩) n ct := hp 9 Ac
       generalize x 9 = v9 at e9 ⊢
       subst e9
       have e10 : x 10 = .int .i64 (j : Int) := hp 10 Ac
       generalize x 10 = v10 at e10 ⊢
       subst e10
       clear hp
       exact dF (v := .pointer (some ⟨bt, ot + j, none⟩)) Ak rfl
      refine aN rfl rfl (fun x wx hG hp => ?_) (fun y _ _ h k => h) ?_
      ·try dsimp only
       have e11 : x 11 = .pointer (some ⟨bt, ot + j, none⟩) := hp 11 Ac
       generalize x 11 = v11 at e11 ⊢
       subst e11
       clear hp
       have hc := fS (HRT.out.still hG.1.fr) j _ (a0t _ _ _ HLt.out)
       exact dF (v := .string (mkS ltj)) Ba rfl
      refine aN rfl rfl (fun x wx hG hp => ?_) (fun y _ _ h k => h) ?_
      ·try dsimp only
       have e3 : x 3 = .string (mkS lpj) := hp 3 Ac
       generalize x 3 = v3 at e3 ⊢
       subst e3
       have e8 : x 8 = .string ((mkS lsj).extract 0 33) := hp 8 Ac
       generalize x 8 = v8 at e8 ⊢
       subst e8
       have e12 : x 12 = .string (mkS ltj) := hp 12 Ac
       generalize x 12 = v12 at e12 ⊢
       subst e12
       clear hp
       refine xY rfl call56 (vs := [.string (mkS lpj), .string ((mkS lsj).extract 0 33), .string (mkS ltj)]) rfl ?_
       rw [HE1.out]
       refine (m0x (mkS lpj) (mkS (lsj.take 33)) (mkS ltj) _ (by rw [aZ]; have := HYp.out; omega) (by rw [aZ, List.length_take]; omega) (by rw [aZ]; have := HYt.out; omega)).mono ?_
       rintro e w' ⟨rfl, hf⟩
       rw [bS, bS, bS]
       exact ⟨_, rfl, hf, rfl⟩
      refine aN rfl rfl (fun x wx hG hp => ?_) (fun y _ _ h k => by obtain ⟨g, h1, h2, h3⟩ := h; exact ⟨g, h1, h2.keep k id, h3⟩) ?_
      ·try dsimp only
       clear hp
       exact c0g rfl g0Q (cw 4 0) rfl (fun g w' _ hle hg => ⟨g, rfl, hg, Nat.le_trans hG.2.size hle⟩)
      exact trivial
      intro x w61 hG hp
      try dsimp only
      have e13 : x 13 = i4 (cU lpj (lsj.take 33) ltj) := hp 13 Ac
      generalize x 13 = v13 at e13 ⊢
      subst e13
      have e14 : ∃ g, x 14 = .pointer (some ⟨g, 0, none⟩) ∧ Has w61 g (cw 4 0) 60 ∧ w60.heap.size ≤ g := hp 14 Ac
      obtain ⟨ga14, e14, HG14, HL14⟩ := e14
      generalize x 14 = v14 at e14 ⊢
      subst e14
      clear hp
      generalize x 0 = v0
      generalize x 1 = v1
      generalize x 2 = v2
      generalize x 3 = v3
      generalize x 4 = v4
      generalize x 5 = v5
      generalize x 6 = v6
      generalize x 7 = v7
      generalize x 8 = v8
      generalize x 9 = v9
      generalize x 10 = v10
      generalize x 11 = v11
      generalize x 12 = v12
      have st61 := hd60.new hG.2 HG14 HL14
      try simp only [List.cons_append, List.nil_append] at st61
      clear HL14 HG14
      clear hG hd60
      refine aU rfl rfl ?_
      refine aG st61 8 rfl rfl rfl rfl Aq Aj (aF _ _) ?_
      intro w62 st62
      repeat (first | simp only [List.cons_append] at st62 | simp only [List.nil_append] at st62 | simp only [List.set_cons_succ] at st62 | simp only [List.set_cons_zero] at st62)
      clear st61
      try simp only [Act.put]
      refine aH ?_
      refine NoPanic.normal ?_
      clear hI1 HE1
      obtain ⟨r1, h1⟩ : ∃ r, W * (beN (lsj.drop 33)) % mQ.M = r := ⟨_, rfl⟩
      obtain ⟨r2, h2⟩ : ∃ r, (X + r1) % mQ.M = r := ⟨_, rfl⟩
      obtain ⟨r3, h3⟩ : ∃ r, W * (cU lpj (lsj.take 33) ltj) % mQ.M = r := ⟨_, rfl⟩
      have HR1 := qH h1
      have HR2 := qH h2
      have HR3 := qH h3
      have HL1 := qH (show r1 < B64 ^ 4 by rw [← h1]; exact Nat.lt_trans (Nat.mod_lt _ mQ0) lT.lt)
      have HLZ := qH (show (beN (lsj.drop 33)) < B64 ^ 4 from Nat.lt_trans (pY (by have h := HGD.out; unfold rdG at h; simp only [Bool.and_eq_true] at h; exact h.2.2.2)) lT.lt)
      have HLC := qH (show (cU lpj (lsj.take 33) ltj) < B64 ^ 4 by unfold cU lV; exact Nat.lt_trans (j0g _ _) lT.lt)
      clear h1 h2 h3
      go_wp2_with fail
      refine wp_region_noPanic ?_
      refine aE st62 7 [.t 0, .t 1, .t 2, .t 3, .t 4, .c 5, .c 6] (.m 7 .nil) Aa Aa (fun _ _ _ _ _ h => h) ?_
      clear st62
      refine aD rfl rfl rfl (fun _ => rfl) (cw 4 mQ.M ++ cw 4 (B64 ^ 4 - mQ.M)) (fun wx hS => St.rangeL hS 1 rfl 0 _ dZl) underlying78 rfl Aj ?_
      try simp only [J]
      refine aD rfl rfl rfl (fun _ => rfl) (cw 4 X) (fun wx hS => St.rangeL hS 2 rfl 0 _ dZl) underlying60 rfl Aj ?_
      try simp only [J]
      refine aD rfl rfl rfl (fun _ => rfl) (cw 4 mQ.M ++ cw 4 (B64 ^ 4 - mQ.M)) (fun wx hS => St.rangeL hS 1 rfl 0 _ dZl) underlying78 rfl Aj ?_
      try simp only [J]
      refine aD rfl rfl rfl (fun _ => rfl) (cw 4 W) (fun wx hS => St.rangeL hS 7 rfl 0 _ dZl) underlying60 rfl Aj ?_
      try simp only [J]
      refine aD rfl rfl rfl (fun _ => rfl) (cw 4 (beN (lsj.drop 33))) (fun wx hS => St.rangeL hS 6 rfl 0 _ dZl) underlying60 rfl Aj ?_
      try simp only [J]
      refine aC rfl rfl rfl call58 (fun w hS hR => r0q mQ.M W (beN (lsj.drop 33)) r1 _ mQ0 lT.lt HWL.out HLZ.out HR1.out) (fun _ => rfl) ?_
      try simp only [J]
      refine aC rfl rfl rfl call57 (fun w hS hR => s0a mQ.M X r1 r2 _ mQ0 lT.lt HXL.out HL1.out HR2.out) (fun _ => rfl) ?_
      try simp only [J]
      refine bB fun xq w63 st63 hR => ?_
      try dsimp only
      clear hR xq
      refine aU rfl rfl ?_
      refine aG st63 2 rfl rfl rfl rfl Aq Aj (aF _ _) ?_
      intro w64 st64
      repeat (first | simp only [List.cons_append] at st64 | simp only [List.nil_append] at st64 | simp only [List.set_cons_succ] at st64 | simp only [List.set_cons_zero] at st64)
      clear st63
      try simp only [Act.put]
      refine aH ?_
      refine NoPanic.normal ?_
      go_wp2_with fail
      refine wp_region_noPanic ?_
      refine aE st64 12 [.t 0, .t 1, .t 2, .t 4, .t 5, .t 6, .t 8, .c 3, .c 7, .c 9, .c 10, .c 11] (.m 12 .nil) Aa Aa (fun _ _ _ _ _ h => h) ?_
      clear st64
      refine aD rfl rfl rfl (fun _ => rfl) (R.L) (fun wx hS => St.rangeL hS 3 rfl 0 _ dZl) underlying62 rfl Aj ?_
      try simp only [J]
      refine aD rfl rfl rfl (fun _ => rfl) (cw 4 W) (fun wx hS => St.rangeL hS 7 rfl 0 _ dZl) underlying60 rfl Aj ?_
      try simp only [J]
      refine aD rfl rfl rfl (fun _ => rfl) ((rdR (lsj.take 33)).L) (fun wx hS => St.rangeL hS 5 rfl 0 _ dZl) underlying62 rfl Aj ?_
      try simp only [J]
      refine aD rfl rfl rfl (fun _ => rfl) (cw 4 mQ.M ++ cw 4 (B64 ^ 4 - mQ.M)) (fun wx hS => St.rangeL hS 1 rfl 0 _ dZl) underlying78 rfl Aj ?_
      try simp only [J]
      refine aD rfl rfl rfl (fun _ => rfl) (cw 4 W) (fun wx hS => St.rangeL hS 7 rfl 0 _ dZl) underlying60 rfl Aj ?_
      try simp only [J]
      refine aD rfl rfl rfl (fun _ => rfl) (cw 4 (cU lpj (lsj.take 33) ltj)) (fun wx hS => St.rangeL hS 8 rfl 0 _ dZl) underlying60 rfl Aj ?_
      try simp only [J]
      refine aD rfl rfl rfl (fun _ => rfl) ((rdR lpj).L) (fun wx hS => St.rangeL hS 4 rfl 0 _ dZl) underlying62 rfl Aj ?_
      try simp only [J]
      refine aC rfl rfl rfl call69 (fun w hS hR => a0l W (rdR (lsj.take 33)) _) (fun _ => rfl) ?_
      try simp only [J]
      refine aC rfl rfl rfl call58 (fun w hS hR => r0q mQ.M W (cU lpj (lsj.take 33) ltj) r3 _ mQ0 lT.lt HWL.out HLC.out HR3.out) (fun _ => rfl) ?_
      try simp only [J]
      refine aC rfl rfl rfl call69 (fun w hS hR => a0l r3 (rdR lpj) _) (fun _ => rfl) ?_
      try simp only [J]
      refine aC rfl rfl rfl call68 (fun w hS hR => a0k (dB W (rdR (lsj.take 33))) (dB r3 (rdR lpj)) _) (fun _ => rfl) ?_
      try simp only [J]
      refine aC rfl rfl rfl call68 (fun w hS hR => a0k R (kC (dB W (rdR (lsj.take 33))) (dB r3 (rdR lpj))) _) (fun _ => rfl) ?_
      try simp only [J]
      refine bB fun xq w65 st65 hR => ?_
      try dsimp only
      clear hR xq
      refine aU rfl rfl ?_
      refine aG st65 3 rfl rfl rfl rfl Aq Aj (RT.one _) ?_
      intro w66 st66
      repeat (first | simp only [List.cons_append] at st66 | simp only [List.nil_append] at st66 | simp only [List.set_cons_succ] at st66 | simp only [List.set_cons_zero] at st66)
      clear st65
      try simp only [Act.put]
      refine aH ?_
      refine NoPanic.normal ?_
      have STE := qH (show St Nob w _ [(g, [.string (mkS (wSt ST (j + 1)))], 197), (g11, cw 4 mQ.M ++ cw 4 (B64 ^ 4 - mQ.M), 78), (g12, cw 4 ((bA ST (T.take (j + 1))).X % mQ.M), 60), (g13, (bRR ST (T.take (j + 1))).2.L, 62)] by
       rw [t0I _ _ _ _ _ _ HNX.out W HW.out, t0e _ _ _ _ _ _ HNX.out W HW.out, HX.out, HR.out, HR1.out, HR2.out, HR3.out]
       exact st66.less Ae)
      clear st66
      have HTK := qH (show T.take (j + 1) = T.take j ++ [(lpj, ltj, lsj)] by
       rw [List.take_add_one, HNX.out]
       rfl)
      go_wp2_with fail
      go_roundw
      case rel => exact ⟨j + 1, by have := HLT.out; omega, by go_num, by rw [HTK.out]; intro x hx; exact (List.mem_append.1 hx).elim (fun h => HOK.out x h) (fun h => by rw [List.mem_singleton.1 h, f0n]; exact HGD.out), STE.out⟩
      case measure => simp [intOf]; have := HLT.out; omega
     ·skip
      have hfr := st38.fr
      clear st38
      have HG0 := qH (show rdG lpj lsj = false by cases h : rdG lpj lsj with | false => rfl | true => exact absurd h hg)
      have HG1 := qH (show (b1 && b2) = false by have h := HG0.out; rw [p0R, HB1.out, HB2.out] at h; exact h)
      have HE := qH (show btB ST T = false from n0s ST T HNX.out (by rw [f0n]; exact HG0.out))
      clear hg HP1 HS1 HB1 HB2 hltI
      rcases b1 with _ | _
      ·go_wp2_with fail
       go_ret2
       exact ⟨by rw [HE.out]; rfl, hfr⟩
      ·rcases b2 with _ | _
       ·go_wp2_with fail
        go_ret2
        exact ⟨by rw [HE.out]; rfl, hfr⟩
       ·exact absurd HG1.out Ac
    ·skip
     have hge : ¬ ((j : Int) < (n : Int)) := by omega
     rw [List.take_of_length_le (by have := HZL.out; omega)] at HX HR HOK
     have HD := qH (p0S ST T HOK.out)
     clear hlt hj
     go_wp2_with fail
     refine wp_region_noPanic ?_
     refine aE hst 5 [.t 0, .t 2, .c 1, .c 3, .w 4] (.m 5 .nil) Aa Aa (fun _ _ _ _ _ h => h) ?_
     clear hst
     refine aD rfl rfl rfl (fun _ => rfl) (cw 4 X) (fun wx hS => St.rangeL hS 2 rfl 0 _ dZl) underlying60 rfl Aj ?_
     try simp only [J]
     refine aD rfl rfl rfl (fun _ => rfl) (R.L) (fun wx hS => St.rangeL hS 3 rfl 0 _ dZl) underlying62 rfl Aj ?_
     try simp only [J]
     refine aC rfl rfl rfl call55 (fun w hS hR => m0l X _) (fun _ => rfl) ?_
     try simp only [J]
     refine aC rfl rfl rfl call67 (fun w hS hR => p0z (dB X d0D) R _) (fun _ => rfl) ?_
     try simp only [J]
     refine aS rfl rfl apX ?_
     try simp only [J]
     refine bB fun xq w81 st81 hR => ?_
     try dsimp only
     clear hR xq
     refine aU rfl rfl ?_
     go_simp
     try simp only [J]
     refine aH ?_
     refine NoPanic.normal ?_
     have hfr := st81.fr
     clear st81 hge
     go_wp2_with fail
     go_ret2
     exact ⟨by rw [← HD.out, HX.out, HR.out]; rfl, hfr⟩
end
section
open Go.RowKit Go.Mv Mvp Mvq
attribute [local irreducible] bI lw mix cw cT dG cS bQ aO beN dO cI dI bM bT elN mdL cL rtV dW kN kc gE cK kC noR dB oH RT.L dX hB hN wH wI rpL mkS
end
section
open Go.RowKit Go.Mv Mvp Mvq
attribute [local irreducible] bI lw mix cw cT dG cS bQ aO beN dO cI dI bM bT elN mdL cL rtV dW cK dM fD bV cO dD toB aW bG cR eD bH eU cA bD dX fZ kC noR dB RT.L rdR kN kc oD sgF sgZ cU chN lV a0e dS rpL
end
section
open Go.RowKit Go.Mv Mvp Mvq
attribute [local irreducible] bI lw mix cw cT dG cS bQ aO beN dO cI dI bM bT elN mdL cL rtV dW cK dM fD bV cO dD toB aW bG cR eD bH eU cA bD dX fZ kC noR dB RT.L rdR kN kc oD sgF sgZ cU chN lV a0e dS rpL veB rdG kA wK hRR dE
end
section
open Go.RowKit Go.Mv Mvp Mvq
attribute [local irreducible] bI lw mix cw cT dG cS bQ aO beN dO cI dI bM bT elN mdL cL rtV dW cK dM fD bV cO dD toB aW bG cR eD bH eU cA bD dX fZ kC noR dB RT.L rdR kN kc oD sgF sgZ cU chN lV a0e dS rpL
end
section
open Go.RowKit Go.Mv Mvp Mvq
attribute [local irreducible] bI lw mix cw cT dG cS bQ aO beN dO cI dI bM bT elN mdL cL rtV dW cK dM fD bV cO dD toB aW bG cR eD bH eU cA bD dX fZ kC noR dB RT.L rdR kN kc oD sgF sgZ cU chN lV a0e dS rpL veB rdG kA wK dE eM
end
section
open Go.RowKit Go.Mv Mvp Mvq
attribute [local irreducible] bI lw mix cw cT dG cS bQ aO beN dO cI dI bM bT elN mdL cL rtV dW cK dM fD bV cO dD toB aW bG cR eD bH eU cA bD dX fZ kC noR dB RT.L rdR kN kc oD sgF sgZ cU chN lV a0e dS rpL
end
section
open Go.RowKit Go.Mv Mvp Mvq
theorem n0v (key text : List UInt8) : sgZ key text < mQ.M := Nat.mod_lt _ mQ0
theorem t0f {z : Nat} (h : z < mQ.M) : beN (cI z) = z := by
 have h2 := f0h z
 rwa [Nat.mod_eq_of_lt h] at h2
theorem s0i {z : Nat} (h : z < mQ.M) : cL mQ (cI z) = true := by
 have h2 := a0n z
 rwa [Nat.mod_eq_of_lt h] at h2
theorem j0Y (key text : List UInt8) : (sgF key text ++ cI (sgZ key text)).take 33 = sgF key text := List.take_left' (eI _)
theorem j0Z (key text : List UInt8) : (sgF key text ++ cI (sgZ key text)).drop 33 = cI (sgZ key text) := List.drop_left' (eI _)
theorem n0w (key text : List UInt8) : (sgF key text ++ cI (sgZ key text)).length = 65 := by rw [List.length_append, eH]; unfold sgF; rw [eI]
theorem n0x (key text : List UInt8) : dM (sgF key text) = true ∧ fD (sgF key text) = bV (chN eS [key, text]) gP := b0Q (bU pZ _)
theorem m0B {key text : List UInt8} (hr : dS (cK (bV (beN key) gP)) = true) : rdG (cK (bV (beN key) gP)) (sgF key text ++ cI (sgZ key text)) = true := by
 unfold rdG
 rw [hr, n0w, j0Y, j0Z, (n0x key text).1, s0i (n0v _ _)]
 rfl
open Classical in
theorem p0U {key text : List UInt8} (hr : dS (cK (bV (beN key) gP)) = true) : veB (cK (bV (beN key) gP)) text (sgF key text ++ cI (sgZ key text)) = true := by
 rw [n0r (m0B hr), j0Y, j0Z, t0f (n0v _ _), (n0x key text).2, (b0Q (bU pZ _)).2]
 unfold sgZ
 rw [d0E, p0d pZ, decide_eq_true rfl]
attribute [local irreducible] bI lw mix cw cT dG cS bQ aO beN dO cI dI bM bT elN mdL cL rtV dW cK dM fD bV cO dD toB aW bG cR eD bH eU cA bD dX fZ kC noR dB RT.L rdR kN kc oD sgF sgZ cU chN lV a0e dS rpL veB rdG wK kA
end
section
open Go.RowKit Go.Mv Mvp Mvq
attribute [local irreducible] bI lw mix cw cT dG cS bQ aO beN dO cI dI bM bT elN mdL cL rtV dW cK dM fD bV cO dD toB aW bG cR eD bH eU cA bD dX fZ kC noR dB RT.L rdR kN kc oD sgF sgZ cU chN lV a0e dS rpL veB rdG kA wK dE eM
end
section
open Go.RowKit Go.Mv Mvp Mvq
theorem p0V {p : Pt} (hp : onC p) (hO : p ≠ .O) {k : Nat} (h0 : 0 < k) (hk : k < qN) : bV k p ≠ .O := by
 intro h
 have hq := r0l
 have hinv := FP.inv t0m (a := k) Ab Ab
 have e1 : bV (k * (k ^ (pQ - 2) % pQ)) p = .O := by rw [iB hp, h, xM]
 generalize k * (k ^ (pQ - 2) % pQ) = m at *
 rw [← hq] at hinv
 rw [← lQ hp, hinv, r0D] at e1
 exact hO e1
open Classical in
theorem p0W {p : Pt} (hp : onC p) (h : p ≠ .O) : dS (cK p) = true := by
 have h2 := t0r (p := p)
 rw [decide_eq_false h] at h2
 unfold dS
 rw [(b0Q hp).1, decide_eq_false (fun h3 => by rw [h3] at h2; exact absurd h2 Ac)]
 rfl
theorem t0g : gP ≠ .O := by unfold gP; intro h; cases h
attribute [local irreducible] bV cK fD beN chN cI gP
end
section
open Go.RowKit Go.Mv Mvp Mvq
noncomputable def btO (lp lt ls : List (List UInt8)) : Bool × Nat :=
 if lt.length = lp.length ∧ ls.length = lp.length then (if lp.length ≤ 64 then (btB (btL (b0l gR) (lp.zip (lt.zip ls))) (lp.zip (lt.zip ls)), 0) else (false, 1)) else (false, 2)
theorem a0u (ap : Option Addr) (np cp : Nat) (at_ : Option Addr) (nt ct : Nat) (as_ : Option Addr) (ns cs : Nat) (vp vt vs : List Value) (lp lt ls : List (List UInt8)) (w : World) (rp : Rd w ap np vp) (rt : Rd w at_ nt vt) (rs : Rd w as_ ns vs) (pp : Parts w vp lp) (pt : Parts w vt lt) (ps : Parts w vs ls) :
  Calls prog 30 #[.slice ap np cp, .slice at_ nt ct, .slice as_ ns cs] w fun e w' => e = .returned (.tuple #[.bool (btO lp lt ls).1, .int .i64 ((btO lp lt ls).2 : Int)]) ∧ Fr Nob w w' := by
 have e1 : lp.length = np := by rw [← pp.len, rp.len]
 have e2 : lt.length = nt := by rw [← pt.len, rt.len]
 have e3 : ls.length = ns := by rw [← ps.len, rs.len]
 unfold btO
 rw [e1, e2, e3]
 by_cases h2 : nt = np
 ·by_cases h3 : ns = np
  ·rw [if_pos ⟨h2, h3⟩]
   subst h2
   subst h3
   by_cases h4 : ns ≤ 64
   ·rw [if_pos h4]
    exact j0T ap cp at_ ct as_ ns cs vp vt vs lp lt ls w h4 rp rt rs pp pt ps _ _ rfl rfl
   ·rw [if_neg h4]
    exact g0P ap ns cp at_ ct as_ cs w Ab
  ·rw [if_neg (fun h => h3 h.2)]
   exact d0I ap np cp at_ nt ct as_ ns cs w h3
 ·rw [if_neg (fun h => h2 h.1)]
  exact vO ap np cp at_ nt ct as_ ns cs w h2
theorem sO (ap : Option Addr) (np cp : Nat) (at_ : Option Addr) (nt ct : Nat) (as_ : Option Addr) (ns cs : Nat) (lp lt ls : List (List UInt8)) (w : World) (rp : Rd w ap np (ss lp)) (rt : Rd w at_ nt (ss lt)) (rs : Rd w as_ ns (ss ls)) (zp : ∀ x ∈ lp, x.length ≤ 4096) (zt : ∀ x ∈ lt, x.length ≤ 4096) (zs : ∀ x ∈ ls, x.length ≤ 4096) :
  Calls prog 31 #[.slice ap np cp, .slice at_ nt ct, .slice as_ ns cs] w fun e w' => e = .returned (.tuple #[.bool (btO lp lt ls).1, .int .i64 ((btO lp lt ls).2 : Int)]) ∧ Fr Nob w w' := by
 have e1 : lp.length = np := by rw [← rp.len, d0X]
 have e2 : lt.length = nt := by rw [← rt.len, d0X]
 have e3 : ls.length = ns := by rw [← rs.len, d0X]
 unfold btO
 rw [e1, e2, e3]
 by_cases h2 : nt = np
 ·by_cases h3 : ns = np
  ·rw [if_pos ⟨h2, h3⟩]
   subst h2
   subst h3
   by_cases h4 : ns ≤ 64
   ·rw [if_pos h4]
    exact g0S ap cp at_ ct as_ ns cs lp lt ls w h4 e1 e2 e3 rp rt rs zp zt zs _ _ rfl rfl
   ·rw [if_neg h4]
    exact d0J ap ns cp at_ ct as_ cs w Ab
  ·rw [if_neg (fun h => h3 h.2)]
   exact c0l ap np cp at_ nt ct as_ ns cs w h3
 ·rw [if_neg (fun h => h2 h.1)]
  exact rN ap np cp at_ nt ct as_ ns cs w h2
theorem p0X (lp lt ls : List (List UInt8)) (h : ∀ x ∈ lp.zip (lt.zip ls), veB x.1 x.2.1 x.2.2 = true) : (btO lp lt ls).2 = 0 → (btO lp lt ls).1 = true := by
 unfold btO
 split
 ·split
  ·intro _; exact r0U _ _ h
  ·intro h2; cases h2
 ·intro h2; cases h2
theorem s0j {l : List UInt8} (h : l.length = 32) (h0 : l[0]? = some 0) (h1 : l[20]? = some 1) : oD l = true := by
 match l, h, h0 with
 | a :: r, h, h0 =>
  simp only [List.getElem?_cons_zero, Option.some.injEq] at h0
  subst h0
  have hr : r.length = 31 := by simpa using h
  have hlt : beN (0 :: r) < 256 ^ 31 := by
   rw [e0Z]
   have h := h0Y r
   rw [hr] at h
   simpa using h
  have hm : (1 : UInt8) ∈ (0 :: r) := List.mem_of_getElem? h1
  have hne : beN (0 :: r) ≠ 0 := fun h5 => by
   have h2 : (0 :: r) = List.replicate (0 :: r).length 0 := by first | exact sN h5 | exact sN _ h5
   rw [h2] at hm
   exact absurd (List.eq_of_mem_replicate hm) Ac
  unfold oD cL
  rw [h, decide_eq_true rfl, decide_eq_true (Nat.lt_trans hlt t0z), decide_eq_false hne]
  rfl
theorem bs_set (l : List UInt8) (k : Nat) (x : UInt8) : (bs l).set k (.int .u8 (x.toNat : Int)) = bs (l.set k x) := by unfold bs; rw [List.map_set]
theorem m0C (n : Nat) : List.replicate n (Value.int .u8 0) = bs (List.replicate n 0) := by simp [bs]
theorem t0h {v : Int} (h0 : 0 ≤ v) (h : v < 256) : ∃ x : UInt8, v = (x.toNat : Int) := ⟨UInt8.ofNat v.toNat, by rw [UInt8.toNat_ofNat', Nat.mod_eq_of_lt Ab]; omega⟩
theorem k0a (n : Int) (w : World) : Calls prog 27 #[.int .i64 n] w fun e w' => ∃ l : List UInt8, e = .returned (.string (mkS l)) ∧ l.length = 32 ∧ oD l = true ∧ Fr Nob w w' := by
 go_enter func27, ntmps27
 go_wp2_with (first
  | (at_make; refine eP rfl rfl underlying22 dT rfl rfl rfl 32 32 Ae Ae Ab Ab Al ?_; intro w1 hw1 hf1 hz1)
  | (with_reducible refine AA 4 ?_))
 clear hz1
 have st1 : St Nob w w1 [(w.heap.size, bs (List.replicate 32 0), 5)] := by rw [← m0C]; exact (St.start Nob w).new hf1 hw1 (Nat.le_refl _)
 generalize w.heap.size = g at *
 have ST1 := qH st1
 clear hw1 hf1 st1
 go_wp2_with fail
 go_loopw [4] (fun i wr => ∃ (j : Nat) (l : List UInt8), j ≤ 8 ∧ i = .int .i64 (j : Int) ∧ l.length = 32 ∧ l[0]? = some 0 ∧ St Nob w wr [(g, bs l, 5)]) (fun i _ => 8 - (intOf i).toNat)
 case atStart => exact ⟨0, List.replicate 32 0, by omega, rfl, by simp, by rfl, ST1.out⟩
 case round =>
  clear ST1
  obtain ⟨j, l, hj, rfl, hl, h0, hst⟩ := hrel
  have HL := qH hl
  have H0 := qH h0
  clear h0
  by_cases hlt : j < 8
  ·have hltI : (j : Int) < 8 := by omega
   obtain ⟨k, hk, hk1⟩ : ∃ k : Nat, (31 : Int) - (j : Int) = (k : Int) ∧ 0 < k ∧ k < 32 := ⟨31 - j, by omega, by omega, by omega⟩
   have hkI : (k : Int) < 32 := by omega
   obtain ⟨v, hc, hfz⟩ := (hst.at 0 rfl).ready (i := k) (by rw [bP]; omega)
   have HST := qH hst
   have HJ := qH hlt
   clear hst hl hlt hj
   go_wp2_with fail
   go_roundw
   case rel =>
    obtain ⟨x, hx⟩ := t0h (v := n / 2 ^ (8 * j) % 256) (Int.emod_nonneg _ Ac) (Int.emod_lt_of_pos _ Ac)
    have st2 := HST.out.set 0 rfl k (.int .u8 (x.toNat : Int))
    have e2 : (bs l).set k (.int .u8 (x.toNat : Int)) = bs (l.set k x) := bs_set l k x
    rw [e2] at st2
    exact ⟨j + 1, l.set k x, by have := HJ.out; omega, by go_num, by rw [List.length_set]; exact HL.out, by rw [List.getElem?_set_ne Ab]; exact H0.out, by rw [hx]; exact st2⟩
   case measure => simp [intOf]; have := HJ.out; omega
  ·have hge : ¬ ((j : Int) < 8) := by omega
   obtain ⟨v, hc, hfz⟩ := (hst.at 0 rfl).ready (i := 20) (by rw [bP]; omega)
   have st2 := hst.set 0 rfl 20 (.int .u8 1)
   have e20 : (bs l).set 20 (.int .u8 1) = bs (l.set 20 1) := bs_set l 20 1
   rw [e20] at st2
   have hl2 : (l.set 20 1).length = 32 := by rw [List.length_set]; exact hl
   have hr := Rd.whole (st2.at 0 rfl)
   rw [bP, hl2] at hr
   have x1 := jA (P := prog) (show RdB _ (some ⟨g, 0, none⟩) 32 (l.set 20 1) from hr) 32 underlying22 underlying5 underlying9
   have ST2 := qH st2
   have HSEC := qH (show oD (l.set 20 1) = true from s0j hl2 (by rw [List.getElem?_set_ne Ac]; exact H0.out) (by rw [List.getElem?_set_self Ab]))
   have HL2 := qH hl2
   clear hr st2 e20 hl2 hst hl hlt hj
   go_wp2_with fail
   go_ret
   exact ⟨_, rfl, HL2.out, HSEC.out, ST2.out.fr⟩
end
section
open Go.RowKit Go.Mv Mvp Mvq Go.ChangeShapes Go.WideShapes
abbrev En : Type := Int × Int × List UInt8
def enC (s : En) : List Value := [.int .i64 s.1, .int .i64 s.2.1, .string (mkS s.2.2)]
theorem d0K (s : En) : (enC s).length = 3 := rfl
def k0b (l : List En) : List Value := l.flatMap enC
theorem sP : ∀ (l : List En) (j : Nat) (x : En), l[j]? = some x → ∀ i, i < 3 → (k0b l)[j * 3 + i]? = (enC x)[i]?
 | [], j, x, h, i, _ => by simp at h
 | a :: l, 0, x, h, i, hi => by
  simp only [List.getElem?_cons_zero, Option.some.injEq] at h
  subst h
  rw [Nat.zero_mul, Nat.zero_add]
  unfold k0b
  rw [List.flatMap_cons, List.getElem?_append_left (by rw [d0K]; exact hi)]
 | a :: l, j + 1, x, h, i, hi => by
  have ih := sP l j x (by simpa using h) i hi
  unfold k0b at *
  rw [List.flatMap_cons, List.getElem?_append_right (by rw [d0K]; omega), ← ih, d0K, show (j + 1) * 3 + i - 3 = j * 3 + i by omega]
theorem c0m : prog.cellsOf 42 = 3 := by kernel_rfl
theorem yB : prog.cellsOf 3 = 1 := by kernel_rfl
theorem g0T : prog.cellsOf 9 = 1 := by kernel_rfl
theorem c0n {H : Type} {enc : TypeId × Value → H} {w : World} {base : Nat} {held : Bool} {spare : Nat → Bool} {v : Value} {d : DataW H} {ps : List MemPlace} (hv : Value.okWide prog w .any base 38 v) (h : DataW.Trod enc prog w 0 spare held 38 v d ps) (hfit : r0V prog 38 d) :
  ∃ (a : Option Addr) (c : Nat) (l : List En), v = .slice a l.length c ∧ Rd w a (l.length * 3) (k0b l) := by
 obtain ⟨a, c, css, rfl, hr, hx, -, -, -⟩ := j0S underlying38 c0m Ac hv h hfit
 have hs : ∀ x ∈ css, ∃ s, x = enC s := by
  intro x hxm
  obtain ⟨hl, hrd⟩ := hx x hxm
  obtain ⟨-, hf⟩ := hrd.struct underlying42
  match x, hl with
  | [x0, x1, x2], _ =>
   obtain ⟨n0, e0, -⟩ := Reads.int underlying3 (hf 0 _ rfl _ 0 1 rfl rfl yB)
   obtain ⟨n1, e1, -⟩ := Reads.int underlying3 (hf 1 _ rfl _ 1 1 rfl rfl yB)
   obtain ⟨l2, e2, -⟩ := Reads.string underlying9 (hf 2 _ rfl _ 2 1 rfl rfl g0T)
   simp only [List.drop_zero, List.take_succ_cons, List.take_zero, List.drop_succ_cons, List.cons.injEq, and_true] at e0 e1 e2
   subst e0 e1 e2
   exact ⟨(n0, n1, l2), rfl⟩
 obtain ⟨l, rfl⟩ := vN hs
 refine ⟨a, c, l, by rw [List.length_map], ?_⟩
 rw [List.length_map] at hr
 exact hr
def ox (v : Value) (l : List UInt8) : Ox := ⟨v, 5, 1, l.length, bs l⟩
def EP (es : List Ox) (vs : List Value) (ls : List (List UInt8)) : Prop := vs.length = ls.length ∧ ∀ (i : Nat) (v : Value), vs[i]? = some v → ∃ l : List UInt8, ls[i]? = some l ∧ ox v l ∈ es
theorem EP.nil (es : List Ox) : EP es [] [] := ⟨rfl, by intro i v h; simp at h⟩
theorem EP.mono {es es' : List Ox} {vs : List Value} {ls : List (List UInt8)} (h : EP es vs ls) (hs : ∀ x ∈ es, x ∈ es') : EP es' vs ls :=
 ⟨h.1, fun i v hv => by obtain ⟨l, h1, h2⟩ := h.2 i v hv; exact ⟨l, h1, hs _ h2⟩⟩
theorem EP.snoc {es : List Ox} {vs : List Value} {ls : List (List UInt8)} (h : EP es vs ls) {v : Value} {l : List UInt8} (hm : ox v l ∈ es) : EP es (vs ++ [v]) (ls ++ [l]) := by
 refine ⟨by simp [h.1], fun i x hx => ?_⟩
 rcases Nat.lt_or_ge i vs.length with k | k
 ·rw [List.getElem?_append_left k] at hx
  rw [List.getElem?_append_left (by rw [← h.1]; exact k)]
  exact h.2 i x hx
 ·rw [List.getElem?_append_right k] at hx
  rw [List.getElem?_append_right (by rw [← h.1]; exact k), ← h.1]
  match i - vs.length, hx with
  | 0, hx => simp at hx; subst hx; exact ⟨l, rfl, hm⟩
  | n + 1, hx => simp at hx
theorem Parts.ofAt {w : World} : ∀ {vs : List Value} {ls : List (List UInt8)}, vs.length = ls.length → (∀ (i : Nat) (v : Value), vs[i]? = some v → ∃ l : List UInt8, ls[i]? = some l ∧ PartIs w v l) → Parts w vs ls
 | [], [], _, _ => trivial
 | [], _ :: _, h, _ => by cases h
 | _ :: _, [], h, _ => by cases h
 | v :: vs, l :: ls, h, k => by
  refine ⟨?_, Parts.ofAt (by simpa using h) fun i x hx => ?_⟩
  ·obtain ⟨l', h1, h2⟩ := k 0 v rfl
   simp only [List.getElem?_cons_zero, Option.some.injEq] at h1
   subst h1; exact h2
  ·obtain ⟨l', h1, h2⟩ := k (i + 1) x (by simpa using hx)
   exact ⟨l', by simpa using h1, h2⟩
theorem vP {w : World} {base : Nat} {v : Value} {l : List UInt8} (h : Go.Mv.Own w base (ox v l).T (ox v l).sz (ox v l).v (ox v l).n (ox v l).L) (hz : l.length ≤ 1000000) : PartIs w v l := fB (T := 5) h hz
theorem EP.parts {w : World} {base : Nat} {es : List Ox} {vs : List Value} {ls : List (List UInt8)} (h : EP es vs ls) (ho : ∀ x ∈ es, Go.Mv.Own w base x.T x.sz x.v x.n x.L) (hz : ∀ l ∈ ls, l.length ≤ 1000000) : Parts w vs ls :=
 Parts.ofAt h.1 fun i v hv => by
  obtain ⟨l, h1, h2⟩ := h.2 i v hv
  exact ⟨l, h1, vP (ho _ h2) (hz l (List.mem_of_getElem? h1))⟩
structure LQ (all : Bool) (j : Nat) (lp lt ls : List (List UInt8)) : Prop where
 n1 : lp.length = j
 n2 : lt.length = j
 n3 : ls.length = j
 z1 : ∀ x ∈ lp, x.length ≤ 4096
 z2 : ∀ x ∈ lt, x.length ≤ 4096
 z3 : ∀ x ∈ ls, x.length = 65
 v : all = true → ∀ x ∈ lp.zip (lt.zip ls), veB x.1 x.2.1 x.2.2 = true
theorem LQ.nil (all : Bool) : LQ all 0 [] [] [] := ⟨rfl, rfl, rfl, by simp, by simp, by simp, by simp⟩
theorem LQ.snoc {all all' : Bool} {j : Nat} {lp lt ls : List (List UInt8)} (h : LQ all j lp lt ls) {p t s : List UInt8} (hp : p.length ≤ 4096) (ht : t.length ≤ 4096) (hs : s.length = 65) (hv : all' = true → all = true ∧ veB p t s = true) : LQ all' (j + 1) (lp ++ [p]) (lt ++ [t]) (ls ++ [s]) := by
 refine ⟨by simp [h.n1], by simp [h.n2], by simp [h.n3], ?_, ?_, ?_, ?_⟩
 ·intro x hx; rcases List.mem_append.1 hx with k | k
  ·exact h.z1 x k
  ·rw [List.mem_singleton.1 k]; exact hp
 ·intro x hx; rcases List.mem_append.1 hx with k | k
  ·exact h.z2 x k
  ·rw [List.mem_singleton.1 k]; exact ht
 ·intro x hx; rcases List.mem_append.1 hx with k | k
  ·exact h.z3 x k
  ·rw [List.mem_singleton.1 k]; exact hs
 ·intro ha x hx
  rw [List.zip_append (by rw [h.n2, h.n3]), List.zip_append (by rw [h.n1, List.length_zip, h.n2, h.n3, Nat.min_self])] at hx
  rcases List.mem_append.1 hx with k | k
  ·exact h.v (hv ha).1 x k
  ·simp only [List.zip_cons_cons, List.zip_nil_right, List.mem_singleton] at k
   rw [k]; exact (hv ha).2
theorem LQ.z3' {all : Bool} {j : Nat} {lp lt ls : List (List UInt8)} (h : LQ all j lp lt ls) : ∀ x ∈ ls, x.length ≤ 4096 := fun x hx => by rw [h.z3 x hx]; decide
theorem LQ.most {all : Bool} {j : Nat} {lp lt ls : List (List UInt8)} (h : LQ all j lp lt ls) : all = true → (btO lp lt ls).2 = 0 → (btO lp lt ls).1 = true := fun ha => p0X _ _ _ (h.v ha)
theorem LQ.more {all : Bool} {j : Nat} {lp lt ls : List (List UInt8)} (h : LQ all j lp lt ls) (p : List UInt8) : (btO (lp ++ [p]) lt ls).2 ≠ 0 := by
 unfold btO
 rw [if_neg (by rw [List.length_append, h.n1, h.n2]; simp)]
 decide
def BL6 (q5 q6 q7 q8 q9 q10 : Value) (j5 j6 j7 j8 j9 j10 : Nat) (vp vt vs lp lt ls : List Value) : List Ox := [⟨q5, 22, 1, j5, vp⟩, ⟨q6, 22, 1, j6, vt⟩, ⟨q7, 22, 1, j7, vs⟩, ⟨q8, 9, 1, j8, lp⟩, ⟨q9, 9, 1, j9, lt⟩, ⟨q10, 9, 1, j10, ls⟩]
theorem a0v (l : List (List UInt8)) (x : List UInt8) : ss l ++ [.string (mkS x)] = ss (l ++ [x]) := by simp [ss]
theorem a0w {k : List UInt8} (h : oD k = true) : cL mQ k = true := by unfold oD at h; rw [Bool.and_eq_true] at h; exact h.1
theorem p0Y {k : List UInt8} (h : oD k = true) : 0 < beN k := by unfold oD at h; simp only [Bool.and_eq_true, Bool.not_eq_true', decide_eq_false_iff_not] at h; omega
theorem t0i {k : List UInt8} (h : oD k = true) : tS k (cK gP) = cK (bV (beN k) gP) ∧ tC k (cK gP) = 0 ∧ dS (cK (bV (beN k) gP)) = true := by
 have hg := b0Q pZ
 refine ⟨?_, ?_, p0W (bU pZ _) (p0V pZ t0g (p0Y h) (by have := pY (a0w h); rw [← d0E]; exact this))⟩
 ·unfold tS; rw [a0w h, hg.1, hg.2]; rfl
 ·unfold tC; rw [a0w h, hg.1]; rfl
theorem yC (B : List Value) (k : Nat) (v : Value) (h : k < B.length) : splice B k [v] = B.set k v := by
 unfold splice
 rw [List.set_eq_take_append_cons_drop, if_pos h]
 rfl
theorem a0x {w : World} {base : Nat} {T : TypeId} {g o n cap : Nat} {L : List Value} (h : Go.Mv.Own w base T 1 (.slice (some ⟨g, o, none⟩) n cap) n L) {k : Nat} (hk : k < n) (v : Value) :
  (∃ u, w.cell? ⟨g, o + k, none⟩ = some u ∧ w.frozen? ⟨g, o + k, none⟩ = false) ∧ Go.Mv.Own (w.setCell ⟨g, o + k, none⟩ v) base T 1 (.slice (some ⟨g, o, none⟩) n cap) n (L.set k v) := by
 have h0 := h
 rcases h.2 with ⟨h2, -⟩ | ⟨g', o', cap', B, h2, hb, hh, hn, hm, hl, ht⟩
 ·cases h2
 ·cases h2
  rw [Nat.mul_one] at hl
  refine ⟨hh.ready Ab, ?_⟩
  have hL : L.length = n := by rw [h.1, Nat.mul_one]
  rw [← yC L k v Ab]
  refine h0.wrote Ao fun B' hB' => ?_
  have h3 : B' = B := by
   obtain ⟨_, _, e1, _⟩ := hh
   obtain ⟨_, _, e2, _⟩ := hB'
   rw [e1] at e2
   simp only [Option.some.injEq, Obj.cells.injEq] at e2
   have := congrArg Array.toList e2.1
   simpa using this.symm
  subst h3
  rw [yC _ _ _ Ab]
  exact hB'.set (o + k) v
end
end Go.Proofs.YtemcankmggmgoaaGreat
