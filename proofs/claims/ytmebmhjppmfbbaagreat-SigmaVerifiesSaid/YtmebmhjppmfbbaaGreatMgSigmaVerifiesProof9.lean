/- ; ; ; ; ; ; ; ; ; ; ; ; ; . -/
import Derived.Test.YtmebmhjppmfbbaaGreatMgSigmaVerifiesProof7
import Derived.RangeFuncNested
import Derived.RangeFuncBound
import Derived.RangeFuncCalls
import Derived.RangeFuncLeaves
import Derived.Test.YtmebmhjppmfbbaaGreatMgSigmaVerifiesProof8
import Derived.Deep.DeepCutAuto
import Derived.Test.YtmebmhjppmfbbaaGreatMgSigmaVerifiesProof5
import Derived.IntWalk
import Derived.Test.YtmebmhjppmfbbaaGreatMgSigmaVerifiesProof1
import Derived.Test.YtmebmhjppmfbbaaGreatMgSigmaVerifiesProof6

namespace Go.Mv
open Go.RowKit
variable {P : Program} {ops : Array Oper} {Q : Exit → Act → World → Prop} {a : Act} {w : World} {rest : List Oper} {o : Oper} {n l : Nat}
end Go.Mv


set_option maxHeartbeats 16000000
set_option maxRecDepth 1000000
namespace Go.Mv
open Go.RowKit
theorem Fr.grown {a b : World} (h : Fr Nob a b) : a.grownBy b none := ⟨h.os, h.tape, h.output, h.size, fun k hk _ => h.block k hk id⟩
end Go.Mv
namespace Go.Proofs.YtmebmhjppmfbbaaGreat
open Go.RowKit Go.Mv Mvp Mvq
attribute [local irreducible] a0E lw mix cw b0o b0x b0l a0L a0q beN b0F b0c b0z a0J a0N elN mdL b0e rtN rtV b0Q gXn gYn PT.L l0r k0V f0v tbL tmR tmL dbN h0H h0q i0N dig rdT b0D c0r ptL e0N d0q b0C b0t b0K toB a0w a0I b0u c0v a0K c0B b0n a0G c0G hB hN j0k j0l atY e0I t0d
end Go.Proofs.YtmebmhjppmfbbaaGreat


namespace Go.Mv
open Go.RowKit
end Go.Mv
namespace Go.Proofs.YtmebmhjppmfbbaaGreat
open Go.RowKit Go.Mv Mvp Mvq
attribute [local irreducible] a0E lw mix cw b0o b0x b0l a0L a0q beN b0F b0c b0z a0J a0N elN mdL b0e rtN rtV b0Q gXn gYn PT.L l0r k0V f0v tbL tmR tmL dbN h0H h0q i0N dig rdT b0D c0r ptL e0N d0q b0C c0G hB hN j0k j0l o0w atY e0I t0d
end Go.Proofs.YtmebmhjppmfbbaaGreat


namespace Go.Proofs.YtmebmhjppmfbbaaGreat
open Go.RowKit Go.Mv Mvp Mvq
def C0j : List UInt8 := [118, 97, 108, 117, 101]
attribute [local irreducible] a0E lw mix cw b0o b0x b0l a0L a0q beN b0F b0c b0z a0J a0N elN mdL b0e rtN rtV b0Q gXn gYn PT.L l0r k0V f0v tbL tmR tmL dbN h0H h0q i0N dig rdT b0D c0r ptL e0N d0q b0C c0G hB hN j0k j0l o0w atY e0I t0d
end Go.Proofs.YtmebmhjppmfbbaaGreat


namespace Go.Proofs.YtmebmhjppmfbbaaGreat
open Go.RowKit Go.Mv Mvp Mvq
attribute [local irreducible] o0w
attribute [local irreducible] a0E lw mix cw b0o b0x b0l a0L a0q beN b0F b0c b0z a0J a0N elN mdL b0e rtV b0Q b0C b0D c0r b0B d0q o0t j0W a0P c0G hB hN j0k j0l
end Go.Proofs.YtmebmhjppmfbbaaGreat


namespace Go.Proofs.YtmebmhjppmfbbaaGreat
open Go.RowKit Go.Mv Mvp Mvq
attribute [local irreducible] a0E lw mix cw b0o b0x b0l a0L a0q beN b0F b0c b0z a0J a0N elN mdL b0e rtV b0Q b0C b0D c0r b0B d0q o0t j0W a0P c0G hB hN j0k j0l tC tS
end Go.Proofs.YtmebmhjppmfbbaaGreat


set_option maxHeartbeats 16000000
set_option maxRecDepth 1000000
namespace Go.Proofs.YtmebmhjppmfbbaaGreat
open Go.RowKit Go.Mv Mvp Mvq
noncomputable def aR : (p : Pt) → onC p → RT
 | .A x y, h => B0S x y h
 | .O, _ => noR
noncomputable def A0l (lab l : List UInt8) : RT := aR (o0w lab l).pt (o0w lab l).onP
theorem c0z (x y z : K) : ∀ v ∈ rpL x y z, v.oneCell' = true := by unfold rpL; exact a0Q _ _ _
attribute [local irreducible] a0E lw mix cw b0o b0x b0l a0L a0q beN b0F b0c b0z a0J a0N elN mdL b0e rtV b0Q kN kc c0E b0C f0E noR c0k f0P RT.L c0G hB hN j0k j0l o0w atY e0I t0d rpL mkS
attribute [local irreducible] A0l
noncomputable def hRR : RT := A0l C0j []
end Go.Proofs.YtmebmhjppmfbbaaGreat


namespace Go.Proofs.YtmebmhjppmfbbaaGreat
open Go.RowKit Go.Mv Mvp Mvq
attribute [local irreducible] hRR o0w A0l PT.pt m0K
attribute [local irreducible] a0E lw mix cw b0o b0x b0l a0L a0q beN b0F b0c b0z a0J a0N elN mdL b0e rtV b0Q kN kc c0E b0C f0E noR c0k f0P RT.L gXn gYn rpL b0D c0r c0G hB hN j0k j0l mkS
end Go.Proofs.YtmebmhjppmfbbaaGreat


namespace Go.Proofs.YtmebmhjppmfbbaaGreat
open Go.RowKit Go.Mv Mvp Mvq
attribute [local irreducible] a0E lw mix cw b0o b0x b0l a0L a0q beN b0F b0c b0z a0J a0N elN mdL b0e rtV b0Q kN kc c0E b0C f0E noR c0k f0P RT.L c0G hB hN j0k j0l rpL mkS
end Go.Proofs.YtmebmhjppmfbbaaGreat


set_option maxHeartbeats 16000000
set_option maxRecDepth 1000000
namespace Go.Proofs.YtmebmhjppmfbbaaGreat
open Go.RowKit Go.Mv Mvp Mvq
theorem C0k : (Tryz.prog.info? 68).map (·.zero) = some (some (.agg (cw 4 0).toArray)) := f0w
theorem o0y (x : Nat) : (Tryz.prog.info? 68).map (·.size) = some (cw 4 x).length := by rw [a0e]; kernel_rfl
theorem RLogAt.notIn {w : World} {g : Nat} {l : List UInt8} (h : RLogAt w g l) {bl : List (Nat × List Value × TypeId)} (hh : ∀ x ∈ bl, Has w x.1 x.2.1 x.2.2) (hT : ∀ x ∈ bl, 195 ≠ x.2.2) : ∀ x ∈ bl, x.1 ≠ g := by
 rintro x hx rfl
 obtain ⟨_, _, h1, _⟩ := h
 obtain ⟨_, _, h2, _⟩ := hh x hx
 rw [h1] at h2
 simp only [Option.some.injEq, Obj.cells.injEq] at h2
 exact hT x hx h2.2.1
theorem mQ0 : 0 < mQ.M := by decide
theorem A0m (x0 x1 x2 : List UInt8) : b0I x0 x1 x2 = i0R (c0G s0d [c0G s0d [c0G s0d [c0G u0X [[115, 105, 103, 110]], [112, 117, 98, 108, 105, 99], x0], [102, 105, 114, 115, 116], x1], [116, 101, 120, 116], x2]) := rfl
attribute [local irreducible] a0E lw mix cw b0o b0x b0l a0L a0q beN b0F b0c b0z a0J a0N elN mdL b0e rtV b0Q b0C b0D c0r a0P b0t b0K toB a0w a0I b0u c0v a0K c0B b0n a0G c0G e0U f0E noR c0k RT.L rdR kN kc j0T sgF sgZ b0I chN i0R w0t c0c rpL
theorem A0n (g : Nat) (st : List UInt8) (w : World) (hst : st.length = 32) (hl : RLogAt w g st) :
  Calls Tryz.prog 124 #[.pointer (some ⟨g, 0, none⟩)] w fun e w' => e = .returned (i4 (i0R st)) ∧ Fr (One g) w w' := by
 have HST := Lib.hid hst
 have HL := Lib.hid hl
 clear hst hl
 have st0 := St.start (One g) w
 go_enter Tryz.func124, Tryz.ntmps124
 go_wp2_with (with_reducible refine wSk 2 ?_)
 refine c0V st0 rfl rfl C0k (cw 4 0) rfl ?_
 intro g4 w2 st2 hf2 hs2
 have HL2 := Lib.hid (show RLogAt w2 g st from Has.keep HL.out hf2 id)
 clear st0 hf2 hs2 HL
 go_wp2_with fail
 refine (D0A _).mono ?_
 rintro e' w3 ⟨rfl, hf3⟩
 have st3 := st2.keep hf3
 have HL3 := Lib.hid (show RLogAt w3 g st from Has.keep HL2.out hf3 id)
 clear st2 hf3 HL2
 go_wp2_with fail
 refine (u0Z g st ⟨#[99, 104, 97, 108, 108, 101, 110, 103, 101]⟩ 64 _ HST.out ap12 ap12 HL3.out).mono ?_
 rintro e' w4 ⟨rfl, hl4, hf4⟩
 have st4 := st3.keep1 hf4 (.inr rfl) (HL3.out.notIn st3.has (by intro x hx; simp only [List.mem_cons, List.not_mem_nil, or_false, List.cons_append, List.nil_append] at hx; subst hx; dsimp only; decide))
 clear st3 hf4 HL3 hl4
 have HV := Lib.hid (show beN (a0K (c0G s0e [st, (⟨#[99, 104, 97, 108, 108, 101, 110, 103, 101]⟩ : ByteArray).data.toList]) 31 64) % mQ.M = i0R st by unfold i0R w0t; rfl)
 generalize c0G s0e [st, (⟨#[99, 104, 97, 108, 108, 101, 110, 103, 101]⟩ : ByteArray).data.toList] = T at *
 go_wp2_with fail
 refine (D0E mQ.M T _ mQ0 n0D.lt).mono ?_
 rintro e' w6 ⟨rfl, hf6⟩
 have st6 := st4.keep hf6
 clear st4 hf6
 rw [HV.out]
 go_wp2_with (with_reducible refine wSn ?_)
 refine a0b st6 0 rfl rfl rfl rfl rfl (o0f _ _) (o0y _) (a0g _ _) ?_
 intro wz stz
 clear st6
 have hr := stz.at 0 rfl
 have hfr := stz.fr
 clear stz
 go_wp2_with fail
 exact bodyPost_ret (a0t rfl rfl hr Tryz.underlying68 rfl (o0y _)) rfl ⟨rfl, hfr⟩
theorem x0b (s0 : ByteArray) (s1 : ByteArray) (s2 : ByteArray) (w : World) (h0 : s0.size ≤ 40000) (h1 : s1.size ≤ 40000) (h2 : s2.size ≤ 40000) :
  Calls Tryz.prog 52 #[.string s0, .string s1, .string s2] w fun e w' => e = .returned (i4 (b0I s0.data.toList s1.data.toList s2.data.toList)) ∧ Fr Nob w w' := by
 have H0 := Lib.hid h0
 have H1 := Lib.hid h1
 have H2 := Lib.hid h2
 clear h0 h1 h2
 have st0 := St.start Nob w
 go_enter Tryz.func52, Tryz.ntmps52
 go_wp2_with (with_reducible refine wSk 6 ?_)
 refine a0a st0 rfl rfl C0k (cw 4 0) rfl ?_
 intro g4 w2 st2
 clear st0
 have HSZ := Lib.hid st2.fr.size
 go_wp2_with fail
 refine (u0Y ⟨#[115, 105, 103, 110]⟩ _ ap12).mono ?_
 rintro e' w3 ⟨g, rfl, hle, hl, hf3⟩
 have st3 := st2.keep hf3
 have HL := Lib.hid hl
 have HG := Lib.hid (Nat.le_trans HSZ.out hle)
 clear st2 hf3 hl hle HSZ
 go_wp2_with fail
 refine (k0w g _ ⟨#[112, 117, 98, 108, 105, 99]⟩ s0 _ (g0f _ _) ap12 H0.out HL.out).mono ?_
 rintro e' w4 ⟨rfl, hl4, hf4⟩
 have st4 := st3.keep1 hf4 (.inl HG.out) (HL.out.notIn st3.has (by intro x hx; simp only [List.mem_cons, List.not_mem_nil, or_false, List.cons_append, List.nil_append] at hx; subst hx; dsimp only; decide))
 replace HL := Lib.hid hl4
 clear st3 hf4 hl4
 go_wp2_with fail
 refine (k0w g _ ⟨#[102, 105, 114, 115, 116]⟩ s1 _ (g0f _ _) ap12 H1.out HL.out).mono ?_
 rintro e' w5 ⟨rfl, hl5, hf5⟩
 have st5 := st4.keep1 hf5 (.inl HG.out) (HL.out.notIn st4.has (by intro x hx; simp only [List.mem_cons, List.not_mem_nil, or_false, List.cons_append, List.nil_append] at hx; subst hx; dsimp only; decide))
 replace HL := Lib.hid hl5
 clear st4 hf5 hl5
 go_wp2_with fail
 refine (k0w g _ ⟨#[116, 101, 120, 116]⟩ s2 _ (g0f _ _) ap12 H2.out HL.out).mono ?_
 rintro e' w6 ⟨rfl, hl6, hf6⟩
 have st6 := st5.keep1 hf6 (.inl HG.out) (HL.out.notIn st5.has (by intro x hx; simp only [List.mem_cons, List.not_mem_nil, or_false, List.cons_append, List.nil_append] at hx; subst hx; dsimp only; decide))
 replace HL := Lib.hid hl6
 clear st5 hf6 hl6
 go_wp2_with fail
 refine (A0n g _ _ (g0f _ _) HL.out).mono ?_
 rintro e' wy ⟨rfl, hfy⟩
 have sty := st6.keep1 hfy (.inl HG.out) (HL.out.notIn st6.has (by intro x hx; simp only [List.mem_cons, List.not_mem_nil, or_false, List.cons_append, List.nil_append] at hx; subst hx; dsimp only; decide))
 clear st6 hfy HL HG
 go_wp2_with (with_reducible refine wSn ?_)
 refine a0b sty 0 rfl rfl rfl rfl rfl (o0f _ _) (o0y _) (a0g _ _) ?_
 intro wz stz
 clear sty
 have hr := stz.at 0 rfl
 have hfr := stz.fr
 clear stz
 go_wp2_with fail
 exact bodyPost_ret (a0t rfl rfl hr Tryz.underlying68 rfl (o0y _)) rfl ⟨by rw [A0m]; rfl, hfr⟩
end Go.Proofs.YtmebmhjppmfbbaaGreat


set_option maxHeartbeats 16000000
set_option maxRecDepth 1000000
namespace Go.Proofs.YtmebmhjppmfbbaaGreat
open Go.RowKit Go.Mv Mvp Mvq
def r0s : List UInt8 := List.replicate 31 0 ++ [1]
theorem A0o : (List.replicate 32 (Value.int .u8 0)).set 31 (.int .u8 1) = bs r0s := rfl
theorem o0z : b0e mQ r0s = true ∧ beN r0s = 1 := by decide
attribute [local irreducible] a0E lw mix cw b0o b0x b0l a0L a0q beN b0F b0c b0z a0J a0N elN mdL b0e rtV b0Q kN kc c0E b0C f0E noR c0k f0P RT.L c0G hB hN j0k j0l rpL mkS
end Go.Proofs.YtmebmhjppmfbbaaGreat


set_option maxHeartbeats 16000000
set_option maxRecDepth 1000000
namespace Go.Proofs.YtmebmhjppmfbbaaGreat
open Go.RowKit Go.Mv Mvp Mvq
theorem x0c {k t : List UInt8} (h : j0T k = true) : sgE k = 0 ∧ sgS k t = sgF k t ++ b0c (sgZ k t) := by unfold sgE sgS; rw [if_pos h, if_pos h]; exact ⟨rfl, rfl⟩
theorem C0l {k t : List UInt8} (h : j0T k = false) : sgE k = 3 ∧ sgS k t = [] := by unfold sgE sgS; rw [h]; exact ⟨rfl, rfl⟩
attribute [local irreducible] a0E lw mix cw b0o b0x b0l a0L a0q beN b0F b0c b0z a0J a0N elN mdL b0e rtV b0Q b0C b0D c0r a0P b0t b0K toB a0w a0I b0u c0v a0K c0B b0n a0G c0G e0U f0E noR c0k RT.L rdR kN kc j0T sgF sgZ sgE sgS b0I chN i0R w0t c0c rpL
theorem C0m (ak : Option Addr) (nk ck : Nat) (key : List UInt8) (at_ : Option Addr) (nt ct : Nat) (text : List UInt8) (w : World) (hkey : PartIs w (.slice ak nk ck) key) (htext : PartIs w (.slice at_ nt ct) text) :
  Calls Tryz.prog 12 #[.slice ak nk ck, .slice at_ nt ct] w fun e w' => ∃ v, e = .returned (.tuple #[v, .int .i64 (sgE key)]) ∧ OwnB1 w w' v (sgS key text) ∧ Fr Nob w w' := by
 cases h : j0T key with
 | false => rw [(C0l (t := text) h).1, (C0l (t := text) h).2]; exact (A0e ak nk ck key at_ nt ct text w hkey htext h).mono fun e w' k => ⟨_, k.1, OwnB1.nil _ _, k.2⟩
 | true => rw [(x0c (t := text) h).1, (x0c (t := text) h).2]; exact A0f ak nk ck key at_ nt ct text w hkey htext h
end Go.Proofs.YtmebmhjppmfbbaaGreat


set_option maxHeartbeats 16000000
set_option maxRecDepth 1000000
namespace Go.Proofs.YtmebmhjppmfbbaaGreat
open Go.RowKit Go.Mv Mvp Mvq
def n0a (s : List UInt8) : Bool := decide (s.length = 65) && (b0D (s.take 33) && b0e mQ (s.drop 33))
theorem f0m {P : Program} {fn : Func} {p q : Tmp} {ty ty2 : TypeId} {s : Tmp} (h : fn.results = #[.cell p ty, .cell q ty2, .tmp s]) {tmps : Array Value} {w : World} {g g2 : Nat} {L L2 : List Value} {T T2 : TypeId}
  (hp : tmps.getD p undef = .pointer (some ⟨g, 0, none⟩)) (hg : Has w g L T) {d : TypeDesc} (hu : P.underlying ty = some d) (hd : (match d with | .struct _ | .array _ _ => true | _ => false) = true) (hi : (P.info? ty).map (·.size) = some L.length)
  (hp2 : tmps.getD q undef = .pointer (some ⟨g2, 0, none⟩)) (hg2 : Has w g2 L2 T2) {d2 : TypeDesc} (hu2 : P.underlying ty2 = some d2) (hd2 : (match d2 with | .struct _ | .array _ _ => true | _ => false) = true) (hi2 : (P.info? ty2).map (·.size) = some L2.length) {v : Value} (hv : tmps.getD s undef = v) :
  (results fn tmps).run P w = .ok (.tuple #[.agg L.toArray, .agg L2.toArray, v]) w := by
 obtain ⟨lo, hi', hh, -⟩ := hg
 obtain ⟨lo2, hi2', hh2, -⟩ := hg2
 have hp' : tmps[p]?.getD undef = .pointer (some ⟨g, 0, none⟩) := by simpa using hp
 have hp2' : tmps[q]?.getD undef = .pointer (some ⟨g2, 0, none⟩) := by simpa using hp2
 have hv' : tmps[s]?.getD undef = v := by simpa using hv
 simp [results, h, hp', hp2', hv', asAddr, run_loadVar_row w g T ty L.toArray _ _ hh hu (by cases d <;> first | rfl | (simp at hd)) (by simpa using hi), run_loadVar_row w g2 T2 ty2 L2.toArray _ _ hh2 hu2 (by cases d2 <;> first | rfl | (simp at hd2)) (by simpa using hi2)]
theorem x0d (s : List UInt8) (w : World) : Calls Tryz.prog 73 #[.string (mkS s)] w fun e w' => ∃ X Y Z : K, e = .returned (.tuple #[rpV X Y Z, .bool (b0D s)]) ∧ (b0D s = true → rpL X Y Z = (rdR s).L) ∧ Fr Nob w w' := by
 have h := z0V (mkS s) w
 rwa [a0T] at h
theorem r0o (s : List UInt8) (w : World) : Calls Tryz.prog 68 #[.string (mkS s)] w fun e w' => ∃ N : Nat, e = .returned (.tuple #[i4 N, .bool (b0e mQ s)]) ∧ (b0e mQ s = true → N = beN s) ∧ Fr Nob w w' := by
 have h := u0f (mkS s) w
 rwa [a0T] at h
theorem x0e {l : List UInt8} (h : b0D l = true) : c0c l = !decide ((rdR l).z = 0) := by
 have h2 := u0b h
 have h3 : (rdR l).pt = nm (rdR l).x (rdR l).y (rdR l).z := rfl
 unfold c0c
 rw [h, Bool.true_and]
 by_cases hz : (rdR l).z = 0
 ·rw [h3, s0V hz] at h2
  have h4 : l.getD 0 0 = 0 := by
   unfold c0r at h2
   by_cases h5 : l.getD 0 0 = 0
   ·exact h5
   ·rw [if_neg h5] at h2; cases h2
  rw [decide_eq_true hz, decide_eq_true h4]
 ·rw [h3, m0C hz] at h2
  have h4 : ¬ l.getD 0 0 = 0 := by
   intro h5
   unfold c0r at h2
   rw [if_pos h5] at h2
   cases h2
  rw [decide_eq_false hz, decide_eq_false h4]
theorem C0n (l : List UInt8) : (rdR l).L = rpL (rdR l).x (rdR l).y (rdR l).z := rfl
theorem x0f : cw 4 0 ++ (cw 4 0 ++ cw 4 0) = rpL 0 0 0 := rfl
theorem x0V (s : List UInt8) (k : Nat) (hk : k ≤ s.length) : (mkS s).extract 0 k = mkS (s.take k) := by
 apply ByteArray.ext
 apply Array.toList_inj.1
 simp [mkS]
theorem C0o (s : List UInt8) (k : Nat) : (mkS s).extract k (mkS s).size = mkS (s.drop k) := by
 apply ByteArray.ext
 apply Array.toList_inj.1
 rw [a0A]
 simp [mkS, List.take_of_length_le]
attribute [local irreducible] a0E lw mix cw b0o b0x b0l a0L a0q beN b0F b0c b0z a0J a0N elN mdL b0e rtV b0Q b0C b0D c0r a0P b0t b0K toB a0w a0I b0u c0v a0K c0B b0n a0G c0G e0U f0E noR c0k RT.L rdR kN kc j0T sgF sgZ b0I chN i0R w0t c0c rpL veB rdG f0u n0a
theorem A0p (s : List UInt8) (h : b0D s = false) (w : World) : Calls Tryz.prog 61 #[.string (mkS s)] w fun e w' => (∃ X Y Z : K, e = .returned (.tuple #[rpV X Y Z, .bool false])) ∧ Fr Nob w w' := by
 have H := Lib.hid h
 clear h
 have st0 := St.start Nob w
 go_enter Tryz.func61, Tryz.ntmps61
 go_wp2_with (with_reducible refine wSk 2 ?_)
 refine a0a st0 rfl rfl (z := zAc) ap11 (cw 12 0) ap9 ?_
 intro g2 w1 st1
 clear st0
 go_wp2_with fail
 refine (p0L s H.out _).mono ?_
 rintro e' w2 ⟨X, Y, Z, rfl, hf2⟩
 have st2 := st1.keep hf2
 clear st1 hf2
 go_wp2_with (with_reducible refine wSk 4 ?_)
 refine a0a st2 rfl rfl (z := zAc) ap11 (cw 12 0) ap9 ?_
 intro g4 w3 st3
 clear st2
 go_wp2_with (with_reducible refine wSn ?_)
 refine a0b st3 1 rfl rfl rfl rfl rfl ap3 ap1 (c0z _ _ _) ?_
 intro w4 st4
 clear st3
 go_wp2_with (with_reducible refine wSk 12 ?_)
 refine a0m st4 1 rfl rfl rfl Tryz.underlying76 rfl rfl ap1 ?_
 go_wp2_with fail
 refine (b0N X Y Z _ rfl _).mono ?_
 rintro e' w5 ⟨rfl, hf5⟩
 have st5 := st4.keep hf5
 clear st4 hf5
 generalize decide (Z = 0) = b
 go_wp2_with (with_reducible refine wSk 14 ?_)
 refine a0m st5 1 rfl rfl rfl Tryz.underlying76 rfl rfl ap1 ?_
 go_wp2_with (with_reducible refine wSn ?_)
 refine a0b st5 0 rfl rfl rfl rfl rfl ap3 ap1 (c0z _ _ _) ?_
 intro w6 st6
 clear st5
 have hr := st6.at 0 rfl
 have hfr := st6.fr
 clear st6
 go_wp2_with fail
 exact bodyPost_ret (a0x rfl rfl hr Tryz.underlying76 rfl ap1 rfl) rfl ⟨⟨X, Y, Z, rfl⟩, hfr⟩
theorem A0q (s : List UInt8) (h : b0D s = true) (w : World) : Calls Tryz.prog 61 #[.string (mkS s)] w fun e w' => e = .returned (.tuple #[rpV (rdR s).x (rdR s).y (rdR s).z, .bool (!decide ((rdR s).z = 0))]) ∧ Fr Nob w w' := by
 have H := Lib.hid h
 clear h
 have st0 := St.start Nob w
 go_enter Tryz.func61, Tryz.ntmps61
 go_wp2_with (with_reducible refine wSk 2 ?_)
 refine a0a st0 rfl rfl (z := zAc) ap11 (cw 12 0) ap9 ?_
 intro g2 w1 st1
 clear st0
 go_wp2_with fail
 refine (p0K s H.out _).mono ?_
 rintro e' w2 ⟨rfl, hf2⟩
 have st2 := st1.keep hf2
 clear st1 hf2
 go_wp2_with (with_reducible refine wSk 4 ?_)
 refine a0a st2 rfl rfl (z := zAc) ap11 (cw 12 0) ap9 ?_
 intro g4 w3 st3
 clear st2
 go_wp2_with (with_reducible refine wSn ?_)
 refine a0b st3 1 rfl rfl rfl rfl rfl ap3 ap1 (RT.one _) ?_
 intro w4 st4
 clear st3
 rw [C0n] at st4
 generalize hb : decide ((rdR s).z = 0) = b
 have HB := Lib.hid hb
 clear hb
 go_wp2_with (with_reducible refine wSk 12 ?_)
 refine a0m st4 1 rfl rfl rfl Tryz.underlying76 rfl rfl ap1 ?_
 go_wp2_with fail
 refine (b0N (rdR s).x (rdR s).y (rdR s).z b HB.out _).mono ?_
 rintro e' w5 ⟨rfl, hf5⟩
 have st5 := st4.keep hf5
 clear st4 hf5
 rcases b with _ | _
 ·skip
  go_wp2_with (with_reducible refine wSk 14 ?_)
  refine a0m st5 1 rfl rfl rfl Tryz.underlying76 rfl rfl ap1 ?_
  go_wp2_with (with_reducible refine wSn ?_)
  refine a0b st5 0 rfl rfl rfl rfl rfl ap3 ap1 (c0z _ _ _) ?_
  intro w6 st6
  clear st5
  have hr := st6.at 0 rfl
  have hfr := st6.fr
  clear st6
  go_wp2_with fail
  exact bodyPost_ret (a0x rfl rfl hr Tryz.underlying76 rfl ap1 rfl) rfl ⟨by rw [HB.out]; rfl, hfr⟩
 ·skip
  go_wp2_with (with_reducible refine wSk 14 ?_)
  refine a0m st5 1 rfl rfl rfl Tryz.underlying76 rfl rfl ap1 ?_
  go_wp2_with (with_reducible refine wSn ?_)
  refine a0b st5 0 rfl rfl rfl rfl rfl ap3 ap1 (c0z _ _ _) ?_
  intro w6 st6
  clear st5
  have hr := st6.at 0 rfl
  have hfr := st6.fr
  clear st6
  go_wp2_with fail
  exact bodyPost_ret (a0x rfl rfl hr Tryz.underlying76 rfl ap1 rfl) rfl ⟨by rw [HB.out]; rfl, hfr⟩
theorem u0s (s : List UInt8) (w : World) : Calls Tryz.prog 61 #[.string (mkS s)] w fun e w' => ∃ X Y Z : K, e = .returned (.tuple #[rpV X Y Z, .bool (c0c s)]) ∧ (b0D s = true → rpL X Y Z = (rdR s).L) ∧ Fr Nob w w' := by
 cases h : b0D s with
 | false =>
  refine (A0p s h w).mono ?_
  rintro e w' ⟨⟨X, Y, Z, rfl⟩, hf⟩
  exact ⟨X, Y, Z, by rw [u0h h], fun h => (by cases h), hf⟩
 | true =>
  refine (A0q s h w).mono ?_
  rintro e w' ⟨rfl, hf⟩
  exact ⟨_, _, _, by rw [x0e h], fun _ => (C0n s).symm, hf⟩
theorem u0t : Tryz.prog.built 68 [] = some (cw 4 0).toArray := by kernel_rfl
theorem C0p (s : List UInt8) (hl : s.length ≠ 65) (w : World) : Calls Tryz.prog 62 #[.string (mkS s)] w fun e w' => ∃ (X Y Z : K) (N : Nat), e = .returned (.tuple #[rpV X Y Z, i4 N, .bool (n0a s)]) ∧ (n0a s = true → rpL X Y Z = (rdR (s.take 33)).L ∧ N = beN (s.drop 33)) ∧ Fr Nob w w' := by
 have hne : (((mkS s).size : Int) != 65) = true := by rw [a0A]; simp; omega
 have HF := Lib.hid (show n0a s = false by unfold n0a; rw [decide_eq_false hl]; rfl)
 clear hl
 have st0 := St.start Nob w
 go_enter Tryz.func62, Tryz.ntmps62
 go_wp2_with (with_reducible refine wSk 2 ?_)
 refine a0a st0 rfl rfl (z := zAc) ap11 (cw 12 0) ap9 ?_
 intro g2 w1 st1
 clear st0
 go_wp2_with (with_reducible refine wSk 3 ?_)
 refine a0a st1 rfl rfl (z := zAd) ap11 (cw 4 0) ap9 ?_
 intro g3 w2 st2
 clear st1
 go_wp2_with (with_reducible refine wSk 12 ?_)
 refine a0X rfl rfl _ f0j ?_
 rw [x0f]
 go_wp2_with (with_reducible refine wSk 13 ?_)
 refine a0X rfl rfl _ u0t ?_
 go_wp2_with (with_reducible refine wSn ?_)
 refine a0b st2 0 rfl rfl rfl rfl rfl ap3 ap1 (c0z _ _ _) ?_
 intro w3 st3
 clear st2
 go_wp2_with (with_reducible refine wSn ?_)
 refine a0b st3 1 rfl rfl rfl rfl rfl ap3 ap1 (a0g _ _) ?_
 intro w4 st4
 clear st3
 have hr := st4.at 0 rfl
 have hr2 := st4.at 1 rfl
 have hfr := st4.fr
 clear st4
 go_wp2_with fail
 exact bodyPost_ret (f0m rfl rfl hr Tryz.underlying76 rfl ap1 rfl hr2 Tryz.underlying68 rfl (o0y _) rfl) rfl ⟨0, 0, 0, 0, by rw [HF.out]; rfl, fun h => (by rw [HF.out] at h; cases h), hfr⟩
theorem C0q (s : List UInt8) (hl : s.length = 65) (w : World) : Calls Tryz.prog 62 #[.string (mkS s)] w fun e w' => ∃ (X Y Z : K) (N : Nat), e = .returned (.tuple #[rpV X Y Z, i4 N, .bool (n0a s)]) ∧ (n0a s = true → rpL X Y Z = (rdR (s.take 33)).L ∧ N = beN (s.drop 33)) ∧ Fr Nob w w' := by
 have hne : (((mkS s).size : Int) != 65) = false := by rw [a0A, hl]; rfl
 have hI1 : (33 : Int) ≤ ((mkS s).size : Int) := by rw [a0A]; omega
 have hI2 : 33 ≤ (mkS s).size := by rw [a0A]; omega
 have HF := Lib.hid (show n0a s = (b0D (s.take 33) && b0e mQ (s.drop 33)) by unfold n0a; rw [decide_eq_true hl]; rfl)
 have HE1 := Lib.hid (x0V s 33 ap13)
 have HE2 := Lib.hid (C0o s 33)
 clear hl
 have st0 := St.start Nob w
 go_enter Tryz.func62, Tryz.ntmps62
 go_wp2_with (with_reducible refine wSk 2 ?_)
 refine a0a st0 rfl rfl (z := zAc) ap11 (cw 12 0) ap9 ?_
 intro g2 w1 st1
 clear st0
 go_wp2_with (with_reducible refine wSk 3 ?_)
 refine a0a st1 rfl rfl (z := zAd) ap11 (cw 4 0) ap9 ?_
 intro g3 w2 st2
 clear st1
 go_wp2_with fail
 rw [HE1.out]
 refine (x0d (s.take 33) _).mono ?_
 rintro e' w3 ⟨X, Y, Z, rfl, hx, hf⟩
 have st3 := st2.keep hf
 have HX := Lib.hid hx
 clear st2 hf hx
 generalize hb1 : b0D (s.take 33) = b1 at *
 have HB1 := Lib.hid hb1
 clear hb1
 go_wp2_with (with_reducible refine wSk 5 ?_)
 refine a0a st3 rfl rfl (z := zAc) ap11 (cw 12 0) ap9 ?_
 intro g5 w4 st4
 clear st3
 go_wp2_with (with_reducible refine wSn ?_)
 refine a0b st4 2 rfl rfl rfl rfl rfl ap3 ap1 (c0z _ _ _) ?_
 intro w5 st5
 clear st4
 go_wp2_with fail
 rw [HE2.out]
 refine (r0o (s.drop 33) _).mono ?_
 rintro e' w6 ⟨N, rfl, hx, hf⟩
 have st6 := st5.keep hf
 have HN := Lib.hid hx
 clear st5 hf hx
 generalize hb2 : b0e mQ (s.drop 33) = b2 at *
 have HB2 := Lib.hid hb2
 clear hb2
 go_wp2_with (with_reducible refine wSk 7 ?_)
 refine a0a st6 rfl rfl (z := zAd) ap11 (cw 4 0) ap9 ?_
 intro g7 w7 st7
 clear st6
 go_wp2_with (with_reducible refine wSn ?_)
 refine a0b st7 3 rfl rfl rfl rfl rfl ap3 ap1 (a0g _ _) ?_
 intro w8 st8
 clear st7
 clear hI1 hI2 hne
 rcases b1 with _ | _
 ·skip
  go_wp2_with fail
  refine wp_region_noPanic ?_
  refine b0d (fun wx => St Nob w wx [(g5, rpL X Y Z, 76), (g7, cw 4 N, 68)]) 7 (.t 0 (.t 1 (.w 2 (.w 3 (.w 4 (.w 5 (.r 6 (.m 7 (.w 8 .nil))))))))) ap11 ap11 (St.less st8.drew ap14) (fun _ _ _ _ _ h => h) ?_
  have hd8 := st8.drew
  clear st8
  refine a0R rfl rfl rfl rfl (rpL X Y Z) (fun wx hS => St.rangeL hS 0 rfl 0 _ dZl) Tryz.underlying76 rfl ap1 ?_
  try simp only [clL]
  refine a0R rfl rfl rfl rfl (cw 4 N) (fun wx hS => St.rangeL hS 1 rfl 0 _ dZl) Tryz.underlying68 rfl ap1 ?_
  try simp only [clL]
  refine a0n rfl rfl apW ?_
  try simp only [clL]
  refine a0n rfl rfl apW ?_
  try simp only [clL]
  refine a0Y rfl rfl ?_
  try simp only [clL]
  refine a0n rfl rfl apW ?_
  try simp only [clL]
  refine c0f rfl rfl ?_
  refine a0h hd8 0 rfl rfl rfl rfl ap3 ap1 (c0z _ _ _) ?_
  intro w9 st9
  clear hd8
  refine ⟨St.less st9 ap14, ?_⟩
  try simp only [Act.put]
  refine e0J rfl rfl ?_
  refine a0h st9 1 rfl rfl rfl rfl ap3 ap1 (a0g _ _) ?_
  intro w10 st10
  clear st9
  try simp only [Act.put]
  refine a0n rfl rfl apW ?_
  try simp only [clL]
  refine c0R ?_
  refine NoPanic.normal ?_
  have hr := st10.at 0 rfl
  have hr2 := st10.at 1 rfl
  have hfr := st10.fr
  clear st10
  go_wp2_with fail
  exact bodyPost_ret (f0m rfl rfl hr Tryz.underlying76 rfl ap1 rfl hr2 Tryz.underlying68 rfl (o0y _) rfl) rfl ⟨X, Y, Z, N, by rw [HF.out]; rfl, fun h => (by rw [HF.out] at h; cases h), hfr⟩
 ·skip
  go_wp2_with fail
  refine wp_region_noPanic ?_
  refine b0d (fun wx => St Nob w wx [(g5, rpL X Y Z, 76), (g7, cw 4 N, 68)]) 7 (.t 0 (.t 1 (.w 2 (.w 3 (.w 4 (.w 5 (.r 6 (.m 7 (.w 8 .nil))))))))) ap11 ap11 (St.less st8.drew ap14) (fun _ _ _ _ _ h => h) ?_
  have hd8 := st8.drew
  clear st8
  refine a0R rfl rfl rfl rfl (rpL X Y Z) (fun wx hS => St.rangeL hS 0 rfl 0 _ dZl) Tryz.underlying76 rfl ap1 ?_
  try simp only [clL]
  refine a0R rfl rfl rfl rfl (cw 4 N) (fun wx hS => St.rangeL hS 1 rfl 0 _ dZl) Tryz.underlying68 rfl ap1 ?_
  try simp only [clL]
  refine a0n rfl rfl apW ?_
  try simp only [clL]
  refine a0n rfl rfl apW ?_
  try simp only [clL]
  refine a0n rfl rfl apW ?_
  try simp only [clL]
  refine a0n rfl rfl apW ?_
  try simp only [clL]
  refine c0f rfl rfl ?_
  refine a0h hd8 0 rfl rfl rfl rfl ap3 ap1 (c0z _ _ _) ?_
  intro w9 st9
  clear hd8
  refine ⟨St.less st9 ap14, ?_⟩
  try simp only [Act.put]
  refine e0J rfl rfl ?_
  refine a0h st9 1 rfl rfl rfl rfl ap3 ap1 (a0g _ _) ?_
  intro w10 st10
  clear st9
  try simp only [Act.put]
  refine a0n rfl rfl apW ?_
  try simp only [clL]
  refine c0R ?_
  refine NoPanic.normal ?_
  have hr := st10.at 0 rfl
  have hr2 := st10.at 1 rfl
  have hfr := st10.fr
  clear st10
  go_wp2_with fail
  exact bodyPost_ret (f0m rfl rfl hr Tryz.underlying76 rfl ap1 rfl hr2 Tryz.underlying68 rfl (o0y _) rfl) rfl ⟨X, Y, Z, N, by rw [HF.out]; rfl, fun h => (by rw [HF.out] at h; exact ⟨HX.out (by trivial), HN.out h⟩), hfr⟩
theorem x0W (s : List UInt8) (w : World) : Calls Tryz.prog 62 #[.string (mkS s)] w fun e w' => ∃ (X Y Z : K) (N : Nat), e = .returned (.tuple #[rpV X Y Z, i4 N, .bool (n0a s)]) ∧ (n0a s = true → rpL X Y Z = (rdR (s.take 33)).L ∧ N = beN (s.drop 33)) ∧ Fr Nob w w' := by
 by_cases h : s.length = 65
 ·exact C0q s h w
 ·exact C0p s h w
theorem A0r (pub s : List UInt8) : rdG pub s = (c0c pub && n0a s) := by unfold rdG n0a; rfl
theorem r0p (pub text s : List UInt8) (h : rdG pub s = false) (w : World) : Calls Tryz.prog 17 #[.string (mkS pub), .string (mkS text), .string (mkS s)] w fun e w' => e = .returned (.bool false) ∧ Fr Nob w w' := by
 have HG := Lib.hid h
 clear h
 have st0 := St.start Nob w
 go_enter Tryz.func17, Tryz.ntmps17
 go_wp2_with fail
 refine (u0s pub _).mono ?_
 rintro e' w1 ⟨X, Y, Z, rfl, hx, hf1⟩
 have st1 := st0.keep hf1
 have HX := Lib.hid hx
 clear hx
 clear st0 hf1
 go_wp2_with (with_reducible refine wSk 7 ?_)
 refine a0a st1 rfl rfl (z := zAc) ap11 (cw 12 0) ap9 ?_
 intro g7 w2 st2
 clear st1
 go_wp2_with (with_reducible refine wSn ?_)
 refine a0b st2 0 rfl rfl rfl rfl rfl ap3 ap1 (c0z _ _ _) ?_
 intro w3 st3
 clear st2
 generalize hb1 : c0c pub = b1 at *
 have HB1 := Lib.hid hb1
 clear hb1
 go_wp2_with fail
 refine (x0W s _).mono ?_
 rintro e' w4 ⟨A, B, C, N, rfl, hx, hf4⟩
 have st4 := st3.keep hf4
 have HY := Lib.hid hx
 clear hx
 clear st3 hf4
 go_wp2_with (with_reducible refine wSk 9 ?_)
 refine a0a st4 rfl rfl (z := zAc) ap11 (cw 12 0) ap9 ?_
 intro g9 w5 st5
 clear st4
 go_wp2_with (with_reducible refine wSk 10 ?_)
 refine a0a st5 rfl rfl (z := zAd) ap11 (cw 4 0) ap9 ?_
 intro g10 w6 st6
 clear st5
 go_wp2_with (with_reducible refine wSn ?_)
 refine a0b st6 1 rfl rfl rfl rfl rfl ap3 ap1 (c0z _ _ _) ?_
 intro w7 st7
 clear st6
 go_wp2_with (with_reducible refine wSn ?_)
 refine a0b st7 2 rfl rfl rfl rfl rfl ap3 ap1 (a0g _ _) ?_
 intro w8 st8
 clear st7
 generalize hb2 : n0a s = b2 at *
 have HB2 := Lib.hid hb2
 clear hb2
 have hfr := st8.fr
 clear st8
 have HG0 := Lib.hid (show (b1 && b2) = false by have h := HG.out; rw [A0r, HB1.out, HB2.out] at h; exact h)
 clear HX HY HB1 HB2 HG
 rcases b1 with _ | _
 ·go_wp2_with fail
  go_ret
  exact ⟨rfl, hfr⟩
 ·rcases b2 with _ | _
  ·go_wp2_with fail
   go_ret
   exact ⟨rfl, hfr⟩
  ·exact absurd HG0.out ap12
open Classical in
theorem o0A (pub text s : List UInt8) (h1 : pub.length ≤ 4096) (h2 : text.length ≤ 4096) (h3 : s.length ≤ 4096) (h : rdG pub s = true) (w : World) : Calls Tryz.prog 17 #[.string (mkS pub), .string (mkS text), .string (mkS s)] w fun e w' => e = .returned (.bool (veB pub text s)) ∧ Fr Nob w w' := by
 have HG := Lib.hid h
 have H1 := Lib.hid h1
 have H2 := Lib.hid h2
 have hl : s.length = 65 := by rw [A0r] at h; unfold n0a at h; simp only [Bool.and_eq_true, decide_eq_true_eq] at h; exact h.2.1
 have hI1 : (33 : Int) ≤ ((mkS s).size : Int) := by rw [a0A]; omega
 have HE1 := Lib.hid (x0V s 33 ap13)
 have HV := Lib.hid (show veB pub text s = decide ((c0k (beN (s.drop 33)) o0s).pt = (f0E (rdR (s.take 33)) (c0k (b0I pub (s.take 33) text) (rdR pub))).pt) by
  have h2 := h
  unfold rdG at h2
  simp only [Bool.and_eq_true, decide_eq_true_eq] at h2
  rw [u0q h, l0k, m0V _ (Nat.lt_trans (g0G h2.2.2.2) n0D.lt), m0V _ (by unfold b0I i0R; exact Nat.lt_trans (z0D _ _) n0D.lt), w0M, u0b h2.2.2.1, u0b (l0p h2.1)]
  rfl)
 clear h h1 h2 h3 hl
 have st0 := St.start Nob w
 go_enter Tryz.func17, Tryz.ntmps17
 go_wp2_with fail
 refine (u0s pub _).mono ?_
 rintro e' w1 ⟨X, Y, Z, rfl, hx, hf1⟩
 have st1 := st0.keep hf1
 have HX := Lib.hid hx
 clear hx
 clear st0 hf1
 go_wp2_with (with_reducible refine wSk 7 ?_)
 refine a0a st1 rfl rfl (z := zAc) ap11 (cw 12 0) ap9 ?_
 intro g7 w2 st2
 clear st1
 go_wp2_with (with_reducible refine wSn ?_)
 refine a0b st2 0 rfl rfl rfl rfl rfl ap3 ap1 (c0z _ _ _) ?_
 intro w3 st3
 clear st2
 generalize hb1 : c0c pub = b1 at *
 have HB1 := Lib.hid hb1
 clear hb1
 go_wp2_with fail
 refine (x0W s _).mono ?_
 rintro e' w4 ⟨A, B, C, N, rfl, hx, hf4⟩
 have st4 := st3.keep hf4
 have HY := Lib.hid hx
 clear hx
 clear st3 hf4
 go_wp2_with (with_reducible refine wSk 9 ?_)
 refine a0a st4 rfl rfl (z := zAc) ap11 (cw 12 0) ap9 ?_
 intro g9 w5 st5
 clear st4
 go_wp2_with (with_reducible refine wSk 10 ?_)
 refine a0a st5 rfl rfl (z := zAd) ap11 (cw 4 0) ap9 ?_
 intro g10 w6 st6
 clear st5
 go_wp2_with (with_reducible refine wSn ?_)
 refine a0b st6 1 rfl rfl rfl rfl rfl ap3 ap1 (c0z _ _ _) ?_
 intro w7 st7
 clear st6
 go_wp2_with (with_reducible refine wSn ?_)
 refine a0b st7 2 rfl rfl rfl rfl rfl ap3 ap1 (a0g _ _) ?_
 intro w8 st8
 clear st7
 generalize hb2 : n0a s = b2 at *
 have HB2 := Lib.hid hb2
 clear hb2
 have hb12 : b1 = true ∧ b2 = true := by have h := HG.out; rw [A0r, HB1.out, HB2.out, Bool.and_eq_true] at h; exact h
 obtain ⟨rfl, rfl⟩ := hb12
 have hy := HY.out (by trivial)
 obtain ⟨hy1, rfl⟩ := hy
 rw [hy1, HX.out (l0p HB1.out)] at st8
 clear hy1
 have HR1 := Lib.hid HB1.out
 have HR2 := Lib.hid HB2.out
 clear HX HY HB1 HB2
 go_wp2_with fail
 rw [HE1.out]
 refine (x0b (mkS pub) (mkS (s.take 33)) (mkS text) _ (by rw [a0A]; have := H1.out; omega) (by rw [a0A, List.length_take]; omega) (by rw [a0A]; have := H2.out; omega)).mono ?_
 rintro e' w9 ⟨rfl, hf⟩
 have st9 := st8.keep hf
 clear st8 hf
 rw [a0T, a0T, a0T]
 go_wp2_with (with_reducible refine wSk 12 ?_)
 refine a0a st9 rfl rfl (z := zAd) ap11 (cw 4 0) ap9 ?_
 intro g12 w10 st10
 clear st9
 go_wp2_with (with_reducible refine wSn ?_)
 refine a0b st10 3 rfl rfl rfl rfl rfl ap3 ap1 (a0g _ _) ?_
 intro w11 st11
 clear st10
 clear hI1
 go_wp2_with fail
 refine wp_region_noPanic ?_
 refine a0f st11 8 [.t 0, .t 2, .t 3, .t 4, .c 1, .c 5, .c 6, .c 7] (.m 8 .nil) ap11 ap11 (fun _ _ _ _ _ h => h) ?_
 clear st11
 refine a0d rfl rfl rfl (fun _ => rfl) (cw 4 (beN (s.drop 33))) (fun wx hS => St.rangeL hS 2 rfl 0 _ dZl) Tryz.underlying68 rfl ap1 ?_
 try simp only [clL]
 refine a0d rfl rfl rfl (fun _ => rfl) ((rdR (s.take 33)).L) (fun wx hS => St.rangeL hS 1 rfl 0 _ dZl) Tryz.underlying76 rfl ap1 ?_
 try simp only [clL]
 refine a0d rfl rfl rfl (fun _ => rfl) (cw 4 (b0I pub (s.take 33) text)) (fun wx hS => St.rangeL hS 3 rfl 0 _ dZl) Tryz.underlying68 rfl ap1 ?_
 try simp only [clL]
 refine a0d rfl rfl rfl (fun _ => rfl) ((rdR pub).L) (fun wx hS => St.rangeL hS 0 rfl 0 _ dZl) Tryz.underlying76 rfl ap1 ?_
 try simp only [clL]
 refine a0c rfl rfl rfl Tryz.call50 (fun w hS hR => w0P (beN (s.drop 33)) _) (fun _ => rfl) ?_
 try simp only [clL]
 refine a0c rfl rfl rfl Tryz.call65 (fun w hS hR => p0G (b0I pub (s.take 33) text) (rdR pub) _) (fun _ => rfl) ?_
 try simp only [clL]
 refine a0c rfl rfl rfl Tryz.call64 (fun w hS hR => o0p (rdR (s.take 33)) (c0k (b0I pub (s.take 33) text) (rdR pub)) _) (fun _ => rfl) ?_
 try simp only [clL]
 refine a0c rfl rfl rfl Tryz.call63 (fun w hS hR => z0Z (c0k (beN (s.drop 33)) o0s) (f0E (rdR (s.take 33)) (c0k (b0I pub (s.take 33) text) (rdR pub))) _) (fun _ => rfl) ?_
 try simp only [clL]
 refine a0v fun xq w12 st12 hR => ?_
 try dsimp only
 clear hR xq
 refine a0r rfl rfl ?_
 go_simp
 try simp only [clL]
 refine a0j ?_
 refine NoPanic.normal ?_
 have hfr := st12.fr
 clear st12
 go_wp2_with fail
 go_ret
 exact ⟨by rw [HV.out]; rfl, hfr⟩
theorem u0u (pub text s : List UInt8) (h1 : pub.length ≤ 4096) (h2 : text.length ≤ 4096) (h3 : s.length ≤ 4096) (w : World) : Calls Tryz.prog 17 #[.string (mkS pub), .string (mkS text), .string (mkS s)] w fun e w' => e = .returned (.bool (veB pub text s)) ∧ Fr Nob w w' := by
 cases h : rdG pub s with
 | false => rw [C0i h]; exact r0p pub text s h w
 | true => exact o0A pub text s h1 h2 h3 h w
end Go.Proofs.YtmebmhjppmfbbaaGreat


set_option maxHeartbeats 16000000
set_option maxRecDepth 1000000
namespace Go.Proofs.YtmebmhjppmfbbaaGreat
open Go.RowKit Go.Mv Mvp Mvq
theorem x0X (key text : List UInt8) : sgZ key text < mQ.M := Nat.mod_lt _ mQ0
theorem D0f {z : Nat} (h : z < mQ.M) : beN (b0c z) = z := by
 have h2 := p0P z
 rwa [Nat.mod_eq_of_lt h] at h2
theorem C0r {z : Nat} (h : z < mQ.M) : b0e mQ (b0c z) = true := by
 have h2 := l0m z
 rwa [Nat.mod_eq_of_lt h] at h2
theorem u0v (key text : List UInt8) : (sgF key text ++ b0c (sgZ key text)).take 33 = sgF key text := List.take_left' (c0j _)
theorem u0w (key text : List UInt8) : (sgF key text ++ b0c (sgZ key text)).drop 33 = b0c (sgZ key text) := List.drop_left' (c0j _)
theorem u0x (key text : List UInt8) : (sgF key text ++ b0c (sgZ key text)).length = 65 := by rw [List.length_append, b0P]; unfold sgF; rw [c0j]
theorem x0Y (key text : List UInt8) : b0D (sgF key text) = true ∧ c0r (sgF key text) = a0P (chN c0a [key, text]) gP := n0V (a0W l0d _)
theorem x0g {key text : List UInt8} (hr : c0c (b0C (a0P (beN key) gP)) = true) : rdG (b0C (a0P (beN key) gP)) (sgF key text ++ b0c (sgZ key text)) = true := by
 unfold rdG
 rw [hr, u0x, u0v, u0w, (x0Y key text).1, C0r (x0X _ _)]
 rfl
open Classical in
theorem A0s {key text : List UInt8} (hr : c0c (b0C (a0P (beN key) gP)) = true) : veB (b0C (a0P (beN key) gP)) text (sgF key text ++ b0c (sgZ key text)) = true := by
 rw [u0q (x0g hr), u0v, u0w, D0f (x0X _ _), (x0Y key text).2, (n0V (a0W l0d _)).2]
 unfold sgZ
 rw [w0T, z0C l0d, decide_eq_true rfl]
theorem A0t : c0c (b0C gP) = true := by
 unfold c0c
 rw [(n0V l0d).1, decide_eq_false (by rw [C0T]; decide)]
 rfl
theorem p0W : j0T r0s = true := by
 unfold j0T
 rw [o0z.1, o0z.2]
 rfl
theorem C0s (text : List UInt8) : veB (b0C gP) text (sgF r0s text ++ b0c (sgZ r0s text)) = true := by
 have h : b0C (a0P (beN r0s) gP) = b0C gP := by rw [o0z.2, B0Y]
 have h2 := A0s (key := r0s) (text := text) (by rw [h]; exact A0t)
 rwa [h] at h2
theorem p0X (w : World) : PartIs w (.slice none 0 0) [] := ⟨none, 0, 0, rfl, Nat.le_refl _, by decide, Rd.nil _ _, fun x hx => by cases hx⟩
attribute [local irreducible] a0E lw mix cw b0o b0x b0l a0L a0q beN b0F b0c b0z a0J a0N elN mdL b0e rtV b0Q b0C b0D c0r a0P b0t b0K toB a0w a0I b0u c0v a0K c0B b0n a0G c0G e0U f0E noR c0k RT.L rdR kN kc j0T sgF sgZ sgE sgS b0I chN i0R w0t c0c rpL veB rdG n0a f0u
theorem A0u (w : World) : Calls Tryz.prog 15 #[] w fun e w' => e = .returned (.bool true) ∧ Fr Nob w w' := by
 go_enter Tryz.func15, Tryz.ntmps15
 go_wp2_with (first | (at_make; refine b0X rfl rfl Tryz.underlying22 b0y rfl rfl rfl 32 32 ap14 ap14 ap13 ap13 ap8 ?_; intro w1 hw1 hf1 hz1) | (with_reducible refine wSk 7 ?_))
 clear hz1
 have hsz : w.heap.size ≤ w.heap.size := Nat.le_refl _
 generalize hg0 : w.heap.size = g at hw1 hsz ⊢
 have HG0 := Lib.hid hg0
 have HF1 := Lib.hid hf1
 clear hg0 hsz hf1
 obtain ⟨v, hc, hfz⟩ := hw1.ready (i := 31) ap14
 have hst := hw1.set 31 (.int .u8 1)
 rw [A0o] at hst
 have HST := Lib.hid hst
 have hfr : Fr Nob w (w1.setCell ⟨g, 31, none⟩ (.int .u8 1)) := HF1.out.setCell g 31 none _ (fun h => absurd h (by rw [HG0.out]; exact Nat.lt_irrefl _))
 have FF := Lib.hid hfr
 clear hst hfr hw1
 unfold A0x
 go_wp2_with (with_reducible refine wSk 9 ?_)
 have HONE : Hid (PartIs (w1.setCell ⟨g, 31, none⟩ (.int .u8 1)) (.slice (some ⟨g, 0, none⟩) 32 32) r0s) := Lib.hid ⟨_, 32, 32, rfl, Nat.le_refl _, by decide, Rd.whole HST.out, fun x hx => by cases hx; exact HST.out.lt⟩
 clear HST hc hfz
 generalize w1.setCell ⟨g, 31, none⟩ (.int .u8 1) = w2 at *
 try unfold A0x
 go_wp2_with fail
 have hv := C0m (some ⟨g, 0, none⟩) 32 32 r0s none 0 0 [] w2 HONE.out (p0X _)
 rw [(x0c (t := []) p0W).1, (x0c (t := []) p0W).2] at hv
 refine hv.mono ?_
 clear hv
 rintro e' w3 ⟨v, rfl, ho, hf⟩
 have HV := Lib.hid (OwnB1.ptb ho (by rw [u0x]; decide))
 replace FF := Lib.hid (FF.out.then hf)
 obtain ⟨a, c, rfl, -⟩ := ho.form
 rw [u0x] at *
 have HV2 := Lib.hid HV.out
 clear ho hf HONE HV
 go_wp2_with fail
 refine (t0B _).mono ?_
 rintro e' w4 ⟨vb, rfl, ho, hf⟩
 have HB := Lib.hid (OwnB1.ptb ho (by rw [c0j]; decide))
 replace FF := Lib.hid (FF.out.then hf)
 replace HV2 := Lib.hid (HV2.out.still hf)
 clear ho hf
 obtain ⟨ab, nb, cb, rfl, kb⟩ := HB.out
 have HB2 := Lib.hid (show PartIs w4 (.slice ab nb cb) (b0C gP) from ⟨ab, nb, cb, rfl, kb⟩)
 clear kb HB
 go_wp2_with fail
 have hv := p0V ab nb cb (b0C gP) none 0 0 [] a 65 c (sgF r0s [] ++ b0c (sgZ r0s [])) w4 HB2.out (p0X _) HV2.out
 rw [C0s] at hv
 refine hv.mono ?_
 clear hv
 rintro e' w5 ⟨rfl, hf⟩
 have hfr := FF.out.then hf
 clear hf FF HB2 HV2
 go_wp2_with fail
 go_ret
 exact ⟨rfl, hfr⟩
theorem u0y (pub text s : ByteArray) (h1 : pub.size ≤ 4096) (h2 : text.size ≤ 4096) (h3 : s.size ≤ 4096) (w : World) :
  Calls Tryz.prog 17 #[.string pub, .string text, .string s] w fun e w' => e = .returned (.bool (veB pub.data.toList text.data.toList s.data.toList)) ∧ Fr Nob w w' := by
 have h := u0u pub.data.toList text.data.toList s.data.toList (by rw [f0R]; exact h1) (by rw [f0R]; exact h2) (by rw [f0R]; exact h3) w
 rwa [c0J, c0J, c0J] at h
theorem h0d (p t s : ByteArray) (w : World) : Calls Tryz.prog 4 #[.string p, .string t, .string s] w fun e w' => e = .returned (.bool true) ∧ Fr Nob w w' := by
 have st0 := St.start Nob w
 go_enter Tryz.func4, Tryz.ntmps4
 go_wp2_with fail
 refine (A0u _).mono ?_
 rintro e' w1 ⟨rfl, hf⟩
 have st1 := st0.keep hf
 clear hf st0
 by_cases hz0 : 4096 < p.size
 ·have hJ : (4096 : Int) < (p.size : Int) := by omega
  have hfr := st1.fr
  clear st1
  go_wp2_with fail
  go_ret
  exact ⟨rfl, hfr⟩
 have hI0 : ¬ ((4096 : Int) < (p.size : Int)) := by omega
 have HSp := Lib.hid (show p.size ≤ 4096 by omega)
 clear hz0
 by_cases hz1 : 4096 < t.size
 ·have hJ : (4096 : Int) < (t.size : Int) := by omega
  have hfr := st1.fr
  clear st1
  go_wp2_with fail
  go_ret
  exact ⟨rfl, hfr⟩
 have hI1 : ¬ ((4096 : Int) < (t.size : Int)) := by omega
 have HSt := Lib.hid (show t.size ≤ 4096 by omega)
 clear hz1
 by_cases hz2 : 4096 < s.size
 ·have hJ : (4096 : Int) < (s.size : Int) := by omega
  have hfr := st1.fr
  clear st1
  go_wp2_with fail
  go_ret
  exact ⟨rfl, hfr⟩
 have hI2 : ¬ ((4096 : Int) < (s.size : Int)) := by omega
 have HSs := Lib.hid (show s.size ≤ 4096 by omega)
 clear hz2
 go_wp2_with (with_reducible refine wSk 27 ?_)
 refine c0K (q := p) rfl rfl Tryz.underlying9 Tryz.underlying22 Tryz.underlying5 rfl (by have := HSp.out; unfold maxLen; omega) 0 (Nat.zero_le _) ?_
 intro capp w2 ho hf hz
 have st2 := st1.keep hf
 clear hz
 have HPp := Lib.hid (b0Y ho (by have := HSp.out; omega))
 clear hf st1
 clear ho
 go_wp2_with (with_reducible refine wSk 29 ?_)
 refine c0K (q := t) rfl rfl Tryz.underlying9 Tryz.underlying22 Tryz.underlying5 rfl (by have := HSt.out; unfold maxLen; omega) 0 (Nat.zero_le _) ?_
 intro capt w3 ho hf hz
 have st3 := st2.keep hf
 replace HPp := Lib.hid (HPp.out.still hf)
 clear hz
 have HPt := Lib.hid (b0Y ho (by have := HSt.out; omega))
 clear hf st2
 clear ho
 go_wp2_with (with_reducible refine wSk 31 ?_)
 refine c0K (q := s) rfl rfl Tryz.underlying9 Tryz.underlying22 Tryz.underlying5 rfl (by have := HSs.out; unfold maxLen; omega) 0 (Nat.zero_le _) ?_
 intro caps w4 ho hf hz
 have st4 := st3.keep hf
 replace HPp := Lib.hid (HPp.out.still hf)
 replace HPt := Lib.hid (HPt.out.still hf)
 clear hz
 have HPs := Lib.hid (b0Y ho (by have := HSs.out; omega))
 clear hf st3
 clear ho
 clear hI0 hI1 hI2
 obtain ⟨aap, nnp, ccp, hep, kp⟩ := HPp.out
 cases hep
 clear kp
 obtain ⟨aat, nnt, cct, het, kt⟩ := HPt.out
 cases het
 clear kt
 obtain ⟨aas, nns, ccs, hes, ks⟩ := HPs.out
 cases hes
 clear ks
 go_wp2_with fail
 refine (p0V _ _ _ p.data.toList _ _ _ t.data.toList _ _ _ s.data.toList _ HPp.out HPt.out HPs.out).mono ?_
 rintro e' w5 ⟨rfl, hf⟩
 have st5 := st4.keep hf
 replace HPp := Lib.hid (HPp.out.still hf)
 replace HPt := Lib.hid (HPt.out.still hf)
 replace HPs := Lib.hid (HPs.out.still hf)
 clear hf st4
 clear HPp HPt HPs
 go_wp2_with fail
 refine (u0y p t s HSp.out HSt.out HSs.out _).mono ?_
 rintro e' w6 ⟨rfl, hf⟩
 have st6 := st5.keep hf
 clear hf st5
 generalize veB p.data.toList t.data.toList s.data.toList = q at *
 have hfr := st6.fr
 clear st6
 cases q <;> (go_wp2_with fail; go_ret; exact ⟨rfl, hfr⟩)
end Go.Proofs.YtmebmhjppmfbbaaGreat
