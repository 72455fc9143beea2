/- ; ; ; ; ; ; ; ; ; ; ; ; ; ; . -/
import Derived.Test.YtemcankmggmgoaaGreatMgSigmaSameProof9
import Derived.RangeFuncNested
import Derived.RangeFuncBound
import Derived.RangeFuncCalls
import Derived.RangeFuncLeaves
import Derived.Deep.DeepCutAuto
import Derived.Test.YtemcankmggmgoaaGreatMgSigmaSameProof7
import Derived.IntWalk
import Derived.Test.YtemcankmggmgoaaGreatMgSigmaSameProof1
import Derived.Test.YtemcankmggmgoaaGreatMgSigmaSameProof10
import Derived.Test.YtemcankmggmgoaaGreatMgSigmaSameProof6
set_option maxHeartbeats 16000000
set_option maxRecDepth 1000000

namespace Go.Mv
open Go.RowKit
variable {P : Program} {ops : Array Oper} {Q : Exit → Act → World → Prop} {a : Act} {w : World} {rest : List Oper} {o : Oper} {n l : Nat}
end Go.Mv
namespace Go.Mv
open Go.RowKit
theorem Fr.grown {a b : World} (h : Fr Nob a b) : a.grownBy b none := ⟨h.os, h.tape, h.output, h.size, fun k hk _ => h.block k hk id⟩
end Go.Mv
namespace Go.Proofs.YtemcankmggmgoaaGreat
open Go.RowKit Go.Mv Mvp Mvq
attribute [local irreducible] a0F lw mix cw b0p b0z b0o a0P a0q beN b0F b0e b0B a0K a0Q elN mdL a0X rtN rtV b0R gXn gYn PT.L l0K l0g f0D tbL tmR tmL dbN h0P h0v i0X dig rdT b0Z b0N ptL e0U d0h b0y b0t b0H toB a0x a0I b0u c0i a0M c0t b0i a0G c0r hB hN j0x j0y atY e0O t0w
end Go.Proofs.YtemcankmggmgoaaGreat
namespace Go.Mv
open Go.RowKit
end Go.Mv
namespace Go.Proofs.YtemcankmggmgoaaGreat
section
open Go.RowKit Go.Mv Mvp Mvq
attribute [local irreducible] a0F lw mix cw b0p b0z b0o a0P a0q beN b0F b0e b0B a0K a0Q elN mdL a0X rtN rtV b0R gXn gYn PT.L l0K l0g f0D tbL tmR tmL dbN h0P h0v i0X dig rdT b0Z b0N ptL e0U d0h b0y c0r hB hN j0x j0y o0S atY e0O t0w
end
section
open Go.RowKit Go.Mv Mvp Mvq
def C0d : List UInt8 := [118, 97, 108, 117, 101]
attribute [local irreducible] a0F lw mix cw b0p b0z b0o a0P a0q beN b0F b0e b0B a0K a0Q elN mdL a0X rtN rtV b0R gXn gYn PT.L l0K l0g f0D tbL tmR tmL dbN h0P h0v i0X dig rdT b0Z b0N ptL e0U d0h b0y c0r hB hN j0x j0y o0S atY e0O t0w
end
section
open Go.RowKit Go.Mv Mvp Mvq
attribute [local irreducible] o0S
attribute [local irreducible] a0F lw mix cw b0p b0z b0o a0P a0q beN b0F b0e b0B a0K a0Q elN mdL a0X rtV b0R b0y b0Z b0N a0U d0h n0q j0w a0W c0r hB hN j0x j0y
end
section
open Go.RowKit Go.Mv Mvp Mvq
attribute [local irreducible] a0F lw mix cw b0p b0z b0o a0P a0q beN b0F b0e b0B a0K a0Q elN mdL a0X rtV b0R b0y b0Z b0N a0U d0h n0q j0w a0W c0r hB hN j0x j0y tC tS
end
section
open Go.RowKit Go.Mv Mvp Mvq
noncomputable def aR : (p : Pt) → onC p → RT
 | .A x y, h => B0P x y h
 | .O, _ => noR
noncomputable def A0j (lab l : List UInt8) : RT := aR (o0S lab l).pt (o0S lab l).onP
theorem b0M (x y z : K) : ∀ v ∈ rpL x y z, v.oneCell' = true := by unfold rpL; exact a0S _ _ _
attribute [local irreducible] a0F lw mix cw b0p b0z b0o a0P a0q beN b0F b0e b0B a0K a0Q elN mdL a0X rtV b0R kN kc c0v b0y e0x noR f0T a0N f0U RT.L c0r hB hN j0x j0y o0S atY e0O t0w rpL mkS
attribute [local irreducible] A0j
noncomputable def hRR : RT := A0j C0d []
end
section
open Go.RowKit Go.Mv Mvp Mvq
attribute [local irreducible] hRR o0S A0j PT.pt n0c
attribute [local irreducible] a0F lw mix cw b0p b0z b0o a0P a0q beN b0F b0e b0B a0K a0Q elN mdL a0X rtV b0R kN kc c0v b0y e0x noR f0T a0N f0U RT.L gXn gYn rpL b0Z b0N c0r hB hN j0x j0y mkS
end
section
open Go.RowKit Go.Mv Mvp Mvq
theorem C0e (N : Nat) (w : World) : Calls Tryz.prog 123 #[i4 N] w fun e w' => e = .returned (.bool (decide (N % B64 ^ 4 = 0))) ∧ Fr Nob w w' := by
 have h := k0L (N % B64 ^ 4) w (Nat.mod_lt _ ap12)
 unfold i4 at h ⊢
 rwa [cw_mod] at h
attribute [local irreducible] a0F lw mix cw b0p b0z b0o a0P a0q beN b0F b0e b0B a0K a0Q elN mdL a0X rtV b0R kN kc c0v b0y e0x noR f0T a0N f0U RT.L c0r hB hN j0x j0y rpL mkS
theorem A0k (s : ByteArray) (hq : a0X mQ s.data.toList = false) (w : World) : Calls Tryz.prog 52 #[.string s] w fun e w' => ∃ N : Nat, e = .returned (.tuple #[i4 N, .bool false]) ∧ (a0X mQ s.data.toList = true → N = beN s.data.toList) ∧ Fr Nob w w' := by
 have HQ := qH hq
 clear hq
 have st0 := St.start Nob w
 go_enter Tryz.func52, Tryz.ntmps52
 go_wp2_with (with_reducible refine wSk 2 ?_)
 refine a0a st0 rfl rfl (z := zAd) ap11 (cw 4 0) ap9 ?_
 intro g2 w1 st1
 clear st0
 go_wp2_with fail
 refine (B0V _).mono ?_
 rintro e' w2 ⟨rfl, hf2⟩
 have st2 := st1.keep hf2
 clear st1 hf2
 go_wp2_with fail
 refine (u0w s _).mono ?_
 rintro e' w3 ⟨N, rfl, hn, hf3⟩
 have st3 := st2.keep hf3
 have HN := qH hn
 clear hn
 clear st2 hf3
 go_wp2_with (with_reducible refine wSk 4 ?_)
 refine a0a st3 rfl rfl (z := zAd) ap11 (cw 4 0) ap9 ?_
 intro g4 w4 st4
 clear st3
 go_wp2_with (with_reducible refine wSn ?_)
 refine a0b st4 1 rfl rfl rfl rfl rfl ap3 ap1 (a0f _ _) ?_
 intro w5 st5
 clear st4
 rw [HQ.out]
 go_wp2_with (with_reducible refine wSk 13 ?_)
 refine a0j st5 1 rfl rfl rfl Tryz.underlying60 rfl ap1 ?_
 go_wp2_with fail
 refine (C0e N _).mono ?_
 rintro e' w6 ⟨rfl, hf6⟩
 have st6 := st5.keep hf6
 clear st5 hf6
 generalize hz : decide (N % B64 ^ 4 = 0) = z at *
 have HZ := qH hz
 clear hz
 go_wp2_with (with_reducible refine wSk 15 ?_)
 refine a0j st6 1 rfl rfl rfl Tryz.underlying60 rfl ap1 ?_
 go_wp2_with (with_reducible refine wSn ?_)
 refine a0b st6 0 rfl rfl rfl rfl rfl ap3 ap1 (a0f _ _) ?_
 intro w7 st7
 clear st6
 have hr := st7.at 0 rfl
 have hfr := st7.fr
 clear st7
 go_wp2_with fail
 exact bodyPost_ret (a0B rfl rfl hr Tryz.underlying60 rfl ap1 rfl) rfl ⟨N, rfl, HN.out, hfr⟩
theorem A0l (s : ByteArray) (hq : a0X mQ s.data.toList = true) (w : World) : Calls Tryz.prog 52 #[.string s] w fun e w' => ∃ N : Nat, e = .returned (.tuple #[i4 N, .bool (!decide (N % B64 ^ 4 = 0))]) ∧ (a0X mQ s.data.toList = true → N = beN s.data.toList) ∧ Fr Nob w w' := by
 have HQ := qH hq
 clear hq
 have st0 := St.start Nob w
 go_enter Tryz.func52, Tryz.ntmps52
 go_wp2_with (with_reducible refine wSk 2 ?_)
 refine a0a st0 rfl rfl (z := zAd) ap11 (cw 4 0) ap9 ?_
 intro g2 w1 st1
 clear st0
 go_wp2_with fail
 refine (B0V _).mono ?_
 rintro e' w2 ⟨rfl, hf2⟩
 have st2 := st1.keep hf2
 clear st1 hf2
 go_wp2_with fail
 refine (u0w s _).mono ?_
 rintro e' w3 ⟨N, rfl, hn, hf3⟩
 have st3 := st2.keep hf3
 have HN := qH hn
 clear hn
 clear st2 hf3
 go_wp2_with (with_reducible refine wSk 4 ?_)
 refine a0a st3 rfl rfl (z := zAd) ap11 (cw 4 0) ap9 ?_
 intro g4 w4 st4
 clear st3
 go_wp2_with (with_reducible refine wSn ?_)
 refine a0b st4 1 rfl rfl rfl rfl rfl ap3 ap1 (a0f _ _) ?_
 intro w5 st5
 clear st4
 rw [HQ.out]
 go_wp2_with (with_reducible refine wSk 13 ?_)
 refine a0j st5 1 rfl rfl rfl Tryz.underlying60 rfl ap1 ?_
 go_wp2_with fail
 refine (C0e N _).mono ?_
 rintro e' w6 ⟨rfl, hf6⟩
 have st6 := st5.keep hf6
 clear st5 hf6
 generalize hz : decide (N % B64 ^ 4 = 0) = z at *
 have HZ := qH hz
 clear hz
 rcases z with _ | _
 ·skip
  go_wp2_with (with_reducible refine wSk 15 ?_)
  refine a0j st6 1 rfl rfl rfl Tryz.underlying60 rfl ap1 ?_
  go_wp2_with (with_reducible refine wSn ?_)
  refine a0b st6 0 rfl rfl rfl rfl rfl ap3 ap1 (a0f _ _) ?_
  intro w7 st7
  clear st6
  have hr := st7.at 0 rfl
  have hfr := st7.fr
  clear st7
  go_wp2_with fail
  exact bodyPost_ret (a0B rfl rfl hr Tryz.underlying60 rfl ap1 rfl) rfl ⟨N, by rw [HZ.out]; rfl, HN.out, hfr⟩
 ·skip
  go_wp2_with (with_reducible refine wSk 15 ?_)
  refine a0j st6 1 rfl rfl rfl Tryz.underlying60 rfl ap1 ?_
  go_wp2_with (with_reducible refine wSn ?_)
  refine a0b st6 0 rfl rfl rfl rfl rfl ap3 ap1 (a0f _ _) ?_
  intro w7 st7
  clear st6
  have hr := st7.at 0 rfl
  have hfr := st7.fr
  clear st7
  go_wp2_with fail
  exact bodyPost_ret (a0B rfl rfl hr Tryz.underlying60 rfl ap1 rfl) rfl ⟨N, by rw [HZ.out]; rfl, HN.out, hfr⟩
theorem A0m (s : ByteArray) (w : World) : Calls Tryz.prog 52 #[.string s] w fun e w' => ∃ N : Nat, e = .returned (.tuple #[i4 N, .bool (a0X mQ s.data.toList && !decide (beN s.data.toList = 0))]) ∧ (a0X mQ s.data.toList = true → N = beN s.data.toList) ∧ Fr Nob w w' := by
 cases hq : a0X mQ s.data.toList with
 | false =>
  refine (A0k s hq w).mono ?_
  rintro e w' ⟨N, rfl, h, hf⟩
  exact ⟨N, rfl, fun h => (by cases h), hf⟩
 | true =>
  refine (A0l s hq w).mono ?_
  rintro e w' ⟨N, rfl, h, hf⟩
  have hN := h hq
  subst hN
  rw [Nat.mod_eq_of_lt (Nat.lt_trans (c0O hq) d0F.lt)]
  exact ⟨_, rfl, fun _ => rfl, hf⟩
end
section
open Go.RowKit Go.Mv Mvp Mvq
theorem A0n : (Tryz.prog.info? 60).map (·.zero) = some (some (.agg (cw 4 0).toArray)) := e0S
theorem r0H (x : Nat) : (Tryz.prog.info? 60).map (·.size) = some (cw 4 x).length := by rw [a0g]; kernel_rfl
theorem RLogAt.notIn {w : World} {g : Nat} {l : List UInt8} (h : RLogAt w g l) {bl : List (Nat × List Value × TypeId)} (hh : ∀ x ∈ bl, Has w x.1 x.2.1 x.2.2) (hT : ∀ x ∈ bl, 197 ≠ x.2.2) : ∀ x ∈ bl, x.1 ≠ g := by
 rintro x hx rfl
 obtain ⟨_, _, h1, _⟩ := h
 obtain ⟨_, _, h2, _⟩ := hh x hx
 rw [h1] at h2
 simp only [Option.some.injEq, Obj.cells.injEq] at h2
 exact hT x hx h2.2.1
theorem mQ0 : 0 < mQ.M := by decide
theorem A0o (x0 x1 x2 x3 x4 : List UInt8) : d0m x0 x1 x2 x3 x4 = h0w (c0r q0N [c0r q0N [c0r q0N [c0r q0N [c0r q0N [c0r v0k [[115, 97, 109, 101]], [98, 97, 115, 101], x0], [97], x1], [98], x2], [102, 105, 114, 115, 116], x3], [115, 101, 99, 111, 110, 100], x4]) := rfl
theorem u0J : (Tryz.prog.info? 9).map (fun i => (i.zero, i.size, i.bytes)) = some (some (.string ⟨#[]⟩), 1, 16) := by kernel_rfl
theorem x0m (a b : List UInt8) : h0G [a, b] = a.length + (b.length + 0) := rfl
attribute [local irreducible] a0F lw mix cw b0p b0z b0o a0P a0q beN b0F b0e b0B a0K a0Q elN mdL a0X rtV b0R b0y b0Z b0N a0W b0t b0H toB a0x a0I b0u c0i a0M c0t b0i a0G c0r e0n e0x noR f0T a0N RT.L rdR kN kc f0S d0m chN h0w u0O b0G rpL
theorem u0K (s : ByteArray) (k : List UInt8) (hk : s.data.toList = k) (gl c : Nat) (ls : List (List UInt8)) (w : World) (hs : s.size + h0G ls ≤ 100000) (hh : Has w gl (ss ls) 9) (hn : ls.length ≤ 1000) :
  Calls Tryz.prog 54 #[.string s, .slice (some ⟨gl, 0, none⟩) ls.length c] w fun e w' => e = .returned (i4 (chN k ls)) ∧ Fr Nob w w' := by
 subst hk
 have HS := qH hs
 have HH := qH (show Rd w (some ⟨gl, 0, none⟩) ls.length (ss ls) by have h := Rd.whole hh; rwa [x0z] at h)
 have HN := qH hn
 clear hs hh hn
 have st0 := St.start Nob w
 go_enter Tryz.func54, Tryz.ntmps54
 go_wp2_with (with_reducible refine wSk 4 ?_)
 refine a0a st0 rfl rfl A0n (cw 4 0) rfl ?_
 intro g4 w2 st2
 clear st0
 go_wp2_with fail
 refine (B0V _).mono ?_
 rintro e' w3 ⟨rfl, hf3⟩
 have st3 := st2.keep hf3
 clear st2 hf3
 go_wp2_with fail
 refine (p0i s (some ⟨gl, 0, none⟩) c ls _ HS.out HN.out (HH.out.still st3.fr)).mono ?_
 rintro e' w4 ⟨rfl, hf4⟩
 have st4 := st3.keep hf4
 have HL := qH (d0T s.data.toList ls)
 clear st3 hf4 HH
 generalize hT : c0r s.data.toList ls = T at *
 have HT := qH hT
 clear hT
 go_wp2_with fail
 refine (i0s (mkS T) 64 _ (by rw [a0u, HL.out]; decide) ap12).mono ?_
 rintro e' w5 ⟨rfl, hf5⟩
 rw [a0J]
 have st5 := st4.keep hf5
 clear st4 hf5
 go_wp2_with fail
 refine (D0k mQ.M T _ mQ0 d0F.lt).mono ?_
 rintro e' w6 ⟨rfl, hf6⟩
 have st6 := st5.keep hf6
 clear st5 hf6
 have HV := qH (show beN (a0M T 31 64) % mQ.M = chN s.data.toList ls by unfold chN; rw [HT.out])
 rw [HV.out]
 go_wp2_with (with_reducible refine wSn ?_)
 refine a0b st6 0 rfl rfl rfl rfl rfl (n0k _ _) (r0H _) (a0f _ _) ?_
 intro wz stz
 clear st6
 have hr := stz.at 0 rfl
 have hfr := stz.fr
 clear stz
 go_wp2_with fail
 exact bodyPost_ret (a0w rfl rfl hr Tryz.underlying60 rfl (r0H _)) rfl ⟨rfl, hfr⟩
theorem A0p (g : Nat) (st : List UInt8) (w : World) (hst : st.length = 32) (hl : RLogAt w g st) :
  Calls Tryz.prog 128 #[.pointer (some ⟨g, 0, none⟩)] w fun e w' => e = .returned (i4 (h0w st)) ∧ Fr (One g) w w' := by
 have HST := qH hst
 have HL := qH hl
 clear hst hl
 have st0 := St.start (One g) w
 go_enter Tryz.func128, Tryz.ntmps128
 go_wp2_with (with_reducible refine wSk 2 ?_)
 refine c0T st0 rfl rfl A0n (cw 4 0) rfl ?_
 intro g4 w2 st2 hf2 hs2
 have HL2 := qH (show RLogAt w2 g st from Has.keep HL.out hf2 id)
 clear st0 hf2 hs2 HL
 go_wp2_with fail
 refine (B0V _).mono ?_
 rintro e' w3 ⟨rfl, hf3⟩
 have st3 := st2.keep hf3
 have HL3 := qH (show RLogAt w3 g st from Has.keep HL2.out hf3 id)
 clear st2 hf3 HL2
 go_wp2_with fail
 refine (v0m g st ⟨#[99, 104, 97, 108, 108, 101, 110, 103, 101]⟩ 64 _ HST.out ap12 ap12 HL3.out).mono ?_
 rintro e' w4 ⟨rfl, hl4, hf4⟩
 have st4 := st3.keep1 hf4 (.inr rfl) (HL3.out.notIn st3.has (by intro x hx; simp only [List.mem_cons, List.not_mem_nil, or_false, List.nil_append] at hx; subst hx; dsimp only; decide))
 clear st3 hf4 HL3 hl4
 have HV := qH (show beN (a0M (c0r s0u [st, (⟨#[99, 104, 97, 108, 108, 101, 110, 103, 101]⟩ : ByteArray).data.toList]) 31 64) % mQ.M = h0w st by unfold h0w u0O; rfl)
 generalize c0r s0u [st, (⟨#[99, 104, 97, 108, 108, 101, 110, 103, 101]⟩ : ByteArray).data.toList] = T at *
 go_wp2_with fail
 refine (D0k mQ.M T _ mQ0 d0F.lt).mono ?_
 rintro e' w6 ⟨rfl, hf6⟩
 have st6 := st4.keep hf6
 clear st4 hf6
 rw [HV.out]
 go_wp2_with (with_reducible refine wSn ?_)
 refine a0b st6 0 rfl rfl rfl rfl rfl (n0k _ _) (r0H _) (a0f _ _) ?_
 intro wz stz
 clear st6
 have hr := stz.at 0 rfl
 have hfr := stz.fr
 clear stz
 go_wp2_with fail
 exact bodyPost_ret (a0w rfl rfl hr Tryz.underlying60 rfl (r0H _)) rfl ⟨rfl, hfr⟩
theorem u0L (s0 : ByteArray) (s1 : ByteArray) (s2 : ByteArray) (s3 : ByteArray) (s4 : ByteArray) (w : World) (h0 : s0.size ≤ 40000) (h1 : s1.size ≤ 40000) (h2 : s2.size ≤ 40000) (h3 : s3.size ≤ 40000) (h4 : s4.size ≤ 40000) :
  Calls Tryz.prog 81 #[.string s0, .string s1, .string s2, .string s3, .string s4] w fun e w' => e = .returned (i4 (d0m s0.data.toList s1.data.toList s2.data.toList s3.data.toList s4.data.toList)) ∧ Fr Nob w w' := by
 have H0 := qH h0
 have H1 := qH h1
 have H2 := qH h2
 have H3 := qH h3
 have H4 := qH h4
 clear h0 h1 h2 h3 h4
 have st0 := St.start Nob w
 go_enter Tryz.func81, Tryz.ntmps81
 go_wp2_with (with_reducible refine wSk 10 ?_)
 refine a0a st0 rfl rfl A0n (cw 4 0) rfl ?_
 intro g4 w2 st2
 clear st0
 have HSZ := qH st2.fr.size
 go_wp2_with fail
 refine (v0l ⟨#[115, 97, 109, 101]⟩ _ ap12).mono ?_
 rintro e' w3 ⟨g, rfl, hle, hl, hf3⟩
 have st3 := st2.keep hf3
 have HL := qH hl
 have HG := qH (Nat.le_trans HSZ.out hle)
 clear st2 hf3 hl hle HSZ
 go_wp2_with fail
 refine (g0k g _ ⟨#[98, 97, 115, 101]⟩ s0 _ (d0T _ _) ap12 H0.out HL.out).mono ?_
 rintro e' w4 ⟨rfl, hl4, hf4⟩
 have st4 := st3.keep1 hf4 (.inl HG.out) (HL.out.notIn st3.has (by intro x hx; simp only [List.mem_cons, List.not_mem_nil, or_false, List.nil_append] at hx; subst hx; dsimp only; decide))
 replace HL := qH hl4
 clear st3 hf4 hl4
 go_wp2_with fail
 refine (g0k g _ ⟨#[97]⟩ s1 _ (d0T _ _) ap12 H1.out HL.out).mono ?_
 rintro e' w5 ⟨rfl, hl5, hf5⟩
 have st5 := st4.keep1 hf5 (.inl HG.out) (HL.out.notIn st4.has (by intro x hx; simp only [List.mem_cons, List.not_mem_nil, or_false, List.nil_append] at hx; subst hx; dsimp only; decide))
 replace HL := qH hl5
 clear st4 hf5 hl5
 go_wp2_with fail
 refine (g0k g _ ⟨#[98]⟩ s2 _ (d0T _ _) ap12 H2.out HL.out).mono ?_
 rintro e' w6 ⟨rfl, hl6, hf6⟩
 have st6 := st5.keep1 hf6 (.inl HG.out) (HL.out.notIn st5.has (by intro x hx; simp only [List.mem_cons, List.not_mem_nil, or_false, List.nil_append] at hx; subst hx; dsimp only; decide))
 replace HL := qH hl6
 clear st5 hf6 hl6
 go_wp2_with fail
 refine (g0k g _ ⟨#[102, 105, 114, 115, 116]⟩ s3 _ (d0T _ _) ap12 H3.out HL.out).mono ?_
 rintro e' w7 ⟨rfl, hl7, hf7⟩
 have st7 := st6.keep1 hf7 (.inl HG.out) (HL.out.notIn st6.has (by intro x hx; simp only [List.mem_cons, List.not_mem_nil, or_false, List.nil_append] at hx; subst hx; dsimp only; decide))
 replace HL := qH hl7
 clear st6 hf7 hl7
 go_wp2_with fail
 refine (g0k g _ ⟨#[115, 101, 99, 111, 110, 100]⟩ s4 _ (d0T _ _) ap12 H4.out HL.out).mono ?_
 rintro e' w8 ⟨rfl, hl8, hf8⟩
 have st8 := st7.keep1 hf8 (.inl HG.out) (HL.out.notIn st7.has (by intro x hx; simp only [List.mem_cons, List.not_mem_nil, or_false, List.nil_append] at hx; subst hx; dsimp only; decide))
 replace HL := qH hl8
 clear st7 hf8 hl8
 go_wp2_with fail
 refine (A0p g _ _ (d0T _ _) HL.out).mono ?_
 rintro e' wy ⟨rfl, hfy⟩
 have sty := st8.keep1 hfy (.inl HG.out) (HL.out.notIn st8.has (by intro x hx; simp only [List.mem_cons, List.not_mem_nil, or_false, List.nil_append] at hx; subst hx; dsimp only; decide))
 clear st8 hfy HL HG
 go_wp2_with (with_reducible refine wSn ?_)
 refine a0b sty 0 rfl rfl rfl rfl rfl (n0k _ _) (r0H _) (a0f _ _) ?_
 intro wz stz
 clear sty
 have hr := stz.at 0 rfl
 have hfr := stz.fr
 clear stz
 go_wp2_with fail
 exact bodyPost_ret (a0w rfl rfl hr Tryz.underlying60 rfl (r0H _)) rfl ⟨by rw [A0o]; rfl, hfr⟩
theorem o0W (k : List UInt8) (w : World) : Calls Tryz.prog 52 #[.string (mkS k)] w fun e w' => ∃ N : Nat, e = .returned (.tuple #[i4 N, .bool (a0X mQ k && !decide (beN k = 0))]) ∧ (a0X mQ k = true → N = beN k) ∧ Fr Nob w w' := by
 have h := A0m (mkS k) w
 rwa [a0J] at h
theorem C0f (p a b r : Nat) (w : World) (hp0 : 0 < p) (hp : p < B64 ^ 4) (ha : a < B64 ^ 4) (hb : b < B64 ^ 4) (hr : (a + b) % p = r) :
  Calls Tryz.prog 57 #[fv p, i4 a, i4 b] w fun e w' => e = .returned (i4 r) ∧ Fr Nob w w' := by
 subst hr; exact o0b p a b w hp0 hp ha hb
end
section
open Go.RowKit Go.Mv Mvp Mvq
attribute [local irreducible] a0F lw mix cw b0p b0z b0o a0P a0q beN b0F b0e b0B a0K a0Q elN mdL a0X rtV b0R kN kc c0v b0y e0x noR f0T a0N f0U RT.L c0r hB hN j0x j0y rpL mkS
end
section
open Go.RowKit Go.Mv Mvp Mvq
attribute [local irreducible] a0F lw mix cw b0p b0z b0o a0P a0q beN b0F b0e b0B a0K a0Q elN mdL a0X rtV b0R b0y b0Z b0N a0W b0t b0H toB a0x a0I b0u c0i a0M c0t b0i a0G c0r e0n e0x noR f0T a0N RT.L rdR kN kc f0S d0m chN h0w u0O b0G rpL
end
section
open Go.RowKit Go.Mv Mvp Mvq
theorem f0A (s : List UInt8) (w : World) : Calls Tryz.prog 72 #[.string (mkS s)] w fun e w' => ∃ N : Nat, e = .returned (.tuple #[i4 N, .bool (a0X mQ s)]) ∧ (a0X mQ s = true → N = beN s) ∧ Fr Nob w w' := by
 have h := u0x (mkS s) w
 rwa [a0J] at h
theorem x0n {l : List UInt8} (h : b0Z l = true) : b0G l = !decide ((rdR l).z = 0) := by
 have h2 := k0h h
 have h3 : (rdR l).pt = nm (rdR l).x (rdR l).y (rdR l).z := rfl
 unfold b0G
 rw [h, Bool.true_and]
 by_cases hz : (rdR l).z = 0
 ·rw [h3, z0s hz] at h2
  have h4 : l.getD 0 0 = 0 := by
   unfold b0N at h2
   by_cases h5 : l.getD 0 0 = 0
   ·exact h5
   ·rw [if_neg h5] at h2; cases h2
  rw [decide_eq_true hz, decide_eq_true h4]
 ·rw [h3, t0n hz] at h2
  have h4 : ¬ l.getD 0 0 = 0 := by
   intro h5
   unfold b0N at h2
   rw [if_pos h5] at h2
   cases h2
  rw [decide_eq_false hz, decide_eq_false h4]
theorem C0g (l : List UInt8) : (rdR l).L = rpL (rdR l).x (rdR l).y (rdR l).z := rfl
theorem y0h (s : List UInt8) (k : Nat) (_hk : k ≤ s.length) : (mkS s).extract 0 k = mkS (s.take k) := by
 apply ByteArray.ext
 apply Array.toList_inj.1
 simp [mkS]
theorem y0i (s : List UInt8) (k : Nat) : (mkS s).extract k (mkS s).size = mkS (s.drop k) := by
 apply ByteArray.ext
 apply Array.toList_inj.1
 rw [a0u]
 simp [mkS, List.take_of_length_le]
attribute [local irreducible] a0F lw mix cw b0p b0z b0o a0P a0q beN b0F b0e b0B a0K a0Q elN mdL a0X rtV b0R b0y b0Z b0N a0W b0t b0H toB a0x a0I b0u c0i a0M c0t b0i a0G c0r e0n e0x noR f0T a0N RT.L rdR kN kc f0S d0m chN h0w u0O b0G rpL f0h
theorem A0q (s : List UInt8) (h : b0Z s = false) (w : World) : Calls Tryz.prog 65 #[.string (mkS s)] w fun e w' => (∃ X Y Z : K, e = .returned (.tuple #[rpV X Y Z, .bool false])) ∧ Fr Nob w w' := by
 have H := qH h
 clear h
 have st0 := St.start Nob w
 go_enter Tryz.func65, Tryz.ntmps65
 go_wp2_with (with_reducible refine wSk 2 ?_)
 refine a0a st0 rfl rfl (z := zAc) ap11 (cw 12 0) ap9 ?_
 intro g2 w1 st1
 clear st0
 go_wp2_with fail
 refine (x0b s H.out _).mono ?_
 rintro e' w2 ⟨X, Y, Z, rfl, hf2⟩
 have st2 := st1.keep hf2
 clear st1 hf2
 go_wp2_with (with_reducible refine wSk 4 ?_)
 refine a0a st2 rfl rfl (z := zAc) ap11 (cw 12 0) ap9 ?_
 intro g4 w3 st3
 clear st2
 go_wp2_with (with_reducible refine wSn ?_)
 refine a0b st3 1 rfl rfl rfl rfl rfl ap3 ap1 (b0M _ _ _) ?_
 intro w4 st4
 clear st3
 go_wp2_with (with_reducible refine wSk 12 ?_)
 refine a0n st4 1 rfl rfl rfl Tryz.underlying62 rfl rfl ap1 ?_
 go_wp2_with fail
 refine (c0Y X Y Z _ rfl _).mono ?_
 rintro e' w5 ⟨rfl, hf5⟩
 have st5 := st4.keep hf5
 clear st4 hf5
 generalize decide (Z = 0) = b
 go_wp2_with (with_reducible refine wSk 14 ?_)
 refine a0n st5 1 rfl rfl rfl Tryz.underlying62 rfl rfl ap1 ?_
 go_wp2_with (with_reducible refine wSn ?_)
 refine a0b st5 0 rfl rfl rfl rfl rfl ap3 ap1 (b0M _ _ _) ?_
 intro w6 st6
 clear st5
 have hr := st6.at 0 rfl
 have hfr := st6.fr
 clear st6
 go_wp2_with fail
 exact bodyPost_ret (a0B rfl rfl hr Tryz.underlying62 rfl ap1 rfl) rfl ⟨⟨X, Y, Z, rfl⟩, hfr⟩
theorem A0r (s : List UInt8) (h : b0Z s = true) (w : World) : Calls Tryz.prog 65 #[.string (mkS s)] w fun e w' => e = .returned (.tuple #[rpV (rdR s).x (rdR s).y (rdR s).z, .bool (!decide ((rdR s).z = 0))]) ∧ Fr Nob w w' := by
 have H := qH h
 clear h
 have st0 := St.start Nob w
 go_enter Tryz.func65, Tryz.ntmps65
 go_wp2_with (with_reducible refine wSk 2 ?_)
 refine a0a st0 rfl rfl (z := zAc) ap11 (cw 12 0) ap9 ?_
 intro g2 w1 st1
 clear st0
 go_wp2_with fail
 refine (x0a s H.out _).mono ?_
 rintro e' w2 ⟨rfl, hf2⟩
 have st2 := st1.keep hf2
 clear st1 hf2
 go_wp2_with (with_reducible refine wSk 4 ?_)
 refine a0a st2 rfl rfl (z := zAc) ap11 (cw 12 0) ap9 ?_
 intro g4 w3 st3
 clear st2
 go_wp2_with (with_reducible refine wSn ?_)
 refine a0b st3 1 rfl rfl rfl rfl rfl ap3 ap1 (RT.one _) ?_
 intro w4 st4
 clear st3
 rw [C0g] at st4
 generalize hb : decide ((rdR s).z = 0) = b
 have HB := qH hb
 clear hb
 go_wp2_with (with_reducible refine wSk 12 ?_)
 refine a0n st4 1 rfl rfl rfl Tryz.underlying62 rfl rfl ap1 ?_
 go_wp2_with fail
 refine (c0Y (rdR s).x (rdR s).y (rdR s).z b HB.out _).mono ?_
 rintro e' w5 ⟨rfl, hf5⟩
 have st5 := st4.keep hf5
 clear st4 hf5
 rcases b with _ | _
 ·skip
  go_wp2_with (with_reducible refine wSk 14 ?_)
  refine a0n st5 1 rfl rfl rfl Tryz.underlying62 rfl rfl ap1 ?_
  go_wp2_with (with_reducible refine wSn ?_)
  refine a0b st5 0 rfl rfl rfl rfl rfl ap3 ap1 (b0M _ _ _) ?_
  intro w6 st6
  clear st5
  have hr := st6.at 0 rfl
  have hfr := st6.fr
  clear st6
  go_wp2_with fail
  exact bodyPost_ret (a0B rfl rfl hr Tryz.underlying62 rfl ap1 rfl) rfl ⟨by rw [HB.out]; rfl, hfr⟩
 ·skip
  go_wp2_with (with_reducible refine wSk 14 ?_)
  refine a0n st5 1 rfl rfl rfl Tryz.underlying62 rfl rfl ap1 ?_
  go_wp2_with (with_reducible refine wSn ?_)
  refine a0b st5 0 rfl rfl rfl rfl rfl ap3 ap1 (b0M _ _ _) ?_
  intro w6 st6
  clear st5
  have hr := st6.at 0 rfl
  have hfr := st6.fr
  clear st6
  go_wp2_with fail
  exact bodyPost_ret (a0B rfl rfl hr Tryz.underlying62 rfl ap1 rfl) rfl ⟨by rw [HB.out]; rfl, hfr⟩
theorem c0P (s : List UInt8) (w : World) : Calls Tryz.prog 65 #[.string (mkS s)] w fun e w' => ∃ X Y Z : K, e = .returned (.tuple #[rpV X Y Z, .bool (b0G s)]) ∧ (b0Z s = true → rpL X Y Z = (rdR s).L) ∧ Fr Nob w w' := by
 cases h : b0Z s with
 | false =>
  refine (A0q s h w).mono ?_
  rintro e w' ⟨⟨X, Y, Z, rfl⟩, hf⟩
  exact ⟨X, Y, Z, by rw [u0B h], fun h => (by cases h), hf⟩
 | true =>
  refine (A0r s h w).mono ?_
  rintro e w' ⟨rfl, hf⟩
  exact ⟨_, _, _, by rw [x0n h], fun _ => (C0g s).symm, hf⟩
end
section
open Go.RowKit Go.Mv Mvp Mvq
attribute [local irreducible] a0F lw mix cw b0p b0z b0o a0P a0q beN b0F b0e b0B a0K a0Q elN mdL a0X rtV b0R b0y b0Z b0N a0W b0t b0H toB a0x a0I b0u c0i a0M c0t b0i a0G c0r e0n e0x noR f0T a0N RT.L rdR kN kc f0S d0m chN h0w u0O b0G rpL f0h smC vsG vsB d0z a0U b0x
theorem C0U (key point : List UInt8) (_hk : key.length ≤ 4096) (_ht : point.length ≤ 4096) (hb : f0S key = false) (w : World) : Calls Tryz.prog 24 #[.string (mkS key), .string (mkS point)] w fun e w' => e = .returned (.tuple #[.string ⟨#[]⟩, .int .i64 3]) ∧ Fr Nob w w' := by
 have HB := qH (show (a0X mQ key && !decide (beN key = 0)) = false by unfold f0S at hb; exact hb)
 clear hb _hk _ht
 have st0 := St.start Nob w
 go_enter Tryz.func24, Tryz.ntmps24
 go_wp2_with fail
 refine (o0W key _).mono ?_
 rintro e' w1 ⟨N, rfl, hn, hf1⟩
 have st1 := st0.keep hf1
 have HN := qH hn
 clear hn
 clear st0 hf1
 go_wp2_with (with_reducible refine wSk 6 ?_)
 refine a0a st1 rfl rfl (z := zAd) ap11 (cw 4 0) ap9 ?_
 intro g6 w2 st2
 clear st1
 go_wp2_with (with_reducible refine wSn ?_)
 refine a0b st2 0 rfl rfl rfl rfl rfl ap3 ap1 (a0f _ _) ?_
 intro w3 st3
 clear st2
 rw [show (a0X mQ key && !decide (beN key = 0)) = false from HB.out]
 have hfr := st3.fr
 clear st3
 go_wp2_with fail
 go_ret2
 exact ⟨rfl, hfr⟩
theorem C0V (key point : List UInt8) (_hk : key.length ≤ 4096) (_ht : point.length ≤ 4096) (hb : f0S key = true) (hr : b0G point = false) (w : World) : Calls Tryz.prog 24 #[.string (mkS key), .string (mkS point)] w fun e w' => e = .returned (.tuple #[.string ⟨#[]⟩, .int .i64 4]) ∧ Fr Nob w w' := by
 have HB := qH (show (a0X mQ key && !decide (beN key = 0)) = true by unfold f0S at hb; exact hb)
 have HQ := qH (show a0X mQ key = true by have h := HB.out; rw [Bool.and_eq_true] at h; exact h.1)
 have HR := qH hr
 clear hb _hk _ht hr
 have st0 := St.start Nob w
 go_enter Tryz.func24, Tryz.ntmps24
 go_wp2_with fail
 refine (o0W key _).mono ?_
 rintro e' w1 ⟨N, rfl, hn, hf1⟩
 have st1 := st0.keep hf1
 have HN := qH hn
 clear hn
 clear st0 hf1
 go_wp2_with (with_reducible refine wSk 6 ?_)
 refine a0a st1 rfl rfl (z := zAd) ap11 (cw 4 0) ap9 ?_
 intro g6 w2 st2
 clear st1
 go_wp2_with (with_reducible refine wSn ?_)
 refine a0b st2 0 rfl rfl rfl rfl rfl ap3 ap1 (a0f _ _) ?_
 intro w3 st3
 clear st2
 rw [show (a0X mQ key && !decide (beN key = 0)) = true from HB.out]
 rw [HN.out HQ.out] at st3
 clear HN HB
 go_wp2_with fail
 refine (c0P point _).mono ?_
 rintro e' w4 ⟨X, Y, Z, rfl, hx, hf4⟩
 have st4 := st3.keep hf4
 have HX := qH hx
 clear hx
 clear st3 hf4
 go_wp2_with (with_reducible refine wSk 8 ?_)
 refine a0a st4 rfl rfl (z := zAc) ap11 (cw 12 0) ap9 ?_
 intro g8 w5 st5
 clear st4
 go_wp2_with (with_reducible refine wSn ?_)
 refine a0b st5 1 rfl rfl rfl rfl rfl ap3 ap1 (b0M _ _ _) ?_
 intro w6 st6
 clear st5
 rw [HR.out]
 have hfr := st6.fr
 clear st6
 go_wp2_with fail
 go_ret2
 exact ⟨rfl, hfr⟩
theorem C0h (key point : List UInt8) (hk : key.length ≤ 4096) (ht : point.length ≤ 4096) (hb : f0S key = true) (hr : b0G point = true) (w : World) : Calls Tryz.prog 24 #[.string (mkS key), .string (mkS point)] w fun e w' => e = .returned (.tuple #[.string (mkS (b0e (smC key point) ++ b0e (((chN a0s [key, point]) + smC key point * beN key) % mQ.M))), .int .i64 0]) ∧ Fr Nob w w' := by
 have HB := qH (show (a0X mQ key && !decide (beN key = 0)) = true by unfold f0S at hb; exact hb)
 have HQ := qH (show a0X mQ key = true by have h := HB.out; rw [Bool.and_eq_true] at h; exact h.1)
 have HR := qH hr
 have HK := qH hk
 have HT := qH ht
 have e1 : (a0N (beN key) e0Q).pt = a0W (beN key) gP := by rw [d0g _ (Nat.lt_trans (c0O HQ.out) d0F.lt), l0B]; rfl
 have e2 : (a0N (beN key) (rdR point)).pt = a0W (beN key) (b0N point) := by rw [d0g _ (Nat.lt_trans (c0O HQ.out) d0F.lt), k0h (c0Z hr)]
 have e3 : (a0N (chN a0s [key, point]) e0Q).pt = a0W (chN a0s [key, point]) gP := by rw [d0g _ (Nat.lt_trans (t0U _ _) d0F.lt), l0B]; rfl
 have e4 : (a0N (chN a0s [key, point]) (rdR point)).pt = a0W (chN a0s [key, point]) (b0N point) := by rw [d0g _ (Nat.lt_trans (t0U _ _) d0F.lt), k0h (c0Z hr)]
 obtain ⟨C, hC⟩ : ∃ C, smC key point = C := ⟨_, rfl⟩
 have HCS := qH hC
 have HC := qH (show d0m point (b0y (a0N (beN key) e0Q).pt) (b0y (a0N (beN key) (rdR point)).pt) (b0y (a0N (chN a0s [key, point]) e0Q).pt) (b0y (a0N (chN a0s [key, point]) (rdR point)).pt) = C by rw [e1, e2, e3, e4, ← hC]; unfold smC; rfl)
 have hCl : C < mQ.M := by rw [← HC.out]; exact h0S _ _ _ _ _
 have HLC := qH (Nat.lt_trans hCl d0F.lt)
 have HLX := qH (show beN key < B64 ^ 4 from Nat.lt_trans (c0O HQ.out) d0F.lt)
 have HLK := qH (show (chN a0s [key, point]) < B64 ^ 4 from Nat.lt_trans (t0U _ _) d0F.lt)
 obtain ⟨r1, h1⟩ : ∃ r, C * beN key % mQ.M = r := ⟨_, rfl⟩
 obtain ⟨r2, h2⟩ : ∃ r, ((chN a0s [key, point]) + r1) % mQ.M = r := ⟨_, rfl⟩
 have HR1 := qH h1
 have HR2 := qH h2
 have HL1 := qH (show r1 < B64 ^ 4 by rw [← h1]; exact Nat.lt_trans (Nat.mod_lt _ mQ0) d0F.lt)
 have HZ := qH (show r2 = ((chN a0s [key, point]) + smC key point * beN key) % mQ.M by rw [← h2, ← h1, hC, Nat.add_mod_mod])
 clear hb hk ht hr hC h1 h2 hCl e1 e2 e3 e4
 have st0 := St.start Nob w
 go_enter Tryz.func24, Tryz.ntmps24
 go_wp2_with fail
 refine (o0W key _).mono ?_
 rintro e' w1 ⟨N, rfl, hn, hf1⟩
 have st1 := st0.keep hf1
 have HN := qH hn
 clear hn
 clear st0 hf1
 go_wp2_with (with_reducible refine wSk 6 ?_)
 refine a0a st1 rfl rfl (z := zAd) ap11 (cw 4 0) ap9 ?_
 intro g6 w2 st2
 clear st1
 go_wp2_with (with_reducible refine wSn ?_)
 refine a0b st2 0 rfl rfl rfl rfl rfl ap3 ap1 (a0f _ _) ?_
 intro w3 st3
 clear st2
 rw [show (a0X mQ key && !decide (beN key = 0)) = true from HB.out]
 rw [HN.out HQ.out] at st3
 clear HN HB
 go_wp2_with fail
 refine (c0P point _).mono ?_
 rintro e' w4 ⟨X, Y, Z, rfl, hx, hf4⟩
 have st4 := st3.keep hf4
 have HX := qH hx
 clear hx
 clear st3 hf4
 go_wp2_with (with_reducible refine wSk 8 ?_)
 refine a0a st4 rfl rfl (z := zAc) ap11 (cw 12 0) ap9 ?_
 intro g8 w5 st5
 clear st4
 go_wp2_with (with_reducible refine wSn ?_)
 refine a0b st5 1 rfl rfl rfl rfl rfl ap3 ap1 (b0M _ _ _) ?_
 intro w6 st6
 clear st5
 rw [HR.out]
 rw [HX.out (c0Z HR.out)] at st6
 clear HX
 go_wp2_with fail
 refine (B0V _).mono ?_
 rintro e' w7 ⟨rfl, hf7⟩
 have st7 := st6.keep hf7
 clear st6 hf7
 go_wp2_with (with_reducible refine wSk 9 ?_)
 refine a0a st7 rfl rfl (z := .agg #[.int .u64 0, .int .u64 0, .int .u64 0, .int .u64 0, .int .u64 0, .int .u64 0, .int .u64 0, .int .u64 0]) ap11 (cw 8 0) ap9 ?_
 intro g9 w8 st8
 clear st7
 go_wp2_with (with_reducible refine wSn ?_)
 refine a0b st8 2 rfl rfl rfl rfl rfl ap3 ap1 (i0F _ _ _ _) ?_
 intro w9 st9
 clear st8
 go_wp2_with (with_reducible refine wSk 30 ?_)
 refine c0c rfl rfl Tryz.underlying40 u0J (ss [key, point]) rfl (by simp [ss]; exact ⟨rfl, rfl⟩) rfl rfl ?_
 intro w10 hh10 hf10 hz10
 have st10 := st9.keep hf10
 have HSL := qH hh10
 clear hh10 hf10 hz10 st9
 go_wp2_with fail
 refine (u0K ⟨#[110, 111, 110, 99, 101, 32, 115, 97, 109, 101]⟩ a0s rfl _ 2 [key, point] _ (by rw [x0m]; have h1 := HK.out; have h2 := HT.out; have h3 : (⟨#[110, 111, 110, 99, 101, 32, 115, 97, 109, 101]⟩ : ByteArray).size = 10 := rfl; omega) HSL.out ap14).mono ?_
 rintro e' w11 ⟨rfl, hf11⟩
 have st11 := st10.keep hf11
 clear st10 hf11
 clear HSL
 go_wp2_with (with_reducible refine wSk 10 ?_)
 refine a0a st11 rfl rfl (z := zAd) ap11 (cw 4 0) ap9 ?_
 intro g10 w12 st12
 clear st11
 go_wp2_with (with_reducible refine wSn ?_)
 refine a0b st12 3 rfl rfl rfl rfl rfl ap3 ap1 (a0f _ _) ?_
 intro w13 st13
 clear st12
 go_wp2_with fail
 refine wp_region_noPanic ?_
 refine a0e st13 17 [.o 16, .w 0, .t 1, .t 4, .t 5, .t 8, .t 11, .t 12, .c 2, .c 3, .c 6, .c 7, .c 9, .c 10, .c 13, .c 14, .c 15, .j 16] (.m 17 .nil) ap11 ap11 (fun _ _ _ _ _ h => h) ?_
 clear st13
 refine b0b rfl rfl rfl e0S (cw 4 0) rfl ?_
 try simp only [clL]
 refine a0m rfl rfl apX ?_
 try simp only [clL]
 refine a0d rfl rfl rfl (fun _ => rfl) (cw 4 (beN key)) (fun wx hS => St.rangeL hS 0 rfl 0 _ dZl) Tryz.underlying60 rfl ap1 ?_
 try simp only [clL]
 refine a0d rfl rfl rfl (fun _ => rfl) (cw 4 (beN key)) (fun wx hS => St.rangeL hS 0 rfl 0 _ dZl) Tryz.underlying60 rfl ap1 ?_
 try simp only [clL]
 refine a0d rfl rfl rfl (fun _ => rfl) ((rdR point).L) (fun wx hS => St.rangeL hS 1 rfl 0 _ dZl) Tryz.underlying62 rfl ap1 ?_
 try simp only [clL]
 refine a0d rfl rfl rfl (fun _ => rfl) (cw 4 (chN a0s [key, point])) (fun wx hS => St.rangeL hS 3 rfl 0 _ dZl) Tryz.underlying60 rfl ap1 ?_
 try simp only [clL]
 refine a0d rfl rfl rfl (fun _ => rfl) (cw 4 (chN a0s [key, point])) (fun wx hS => St.rangeL hS 3 rfl 0 _ dZl) Tryz.underlying60 rfl ap1 ?_
 try simp only [clL]
 refine a0d rfl rfl rfl (fun _ => rfl) ((rdR point).L) (fun wx hS => St.rangeL hS 1 rfl 0 _ dZl) Tryz.underlying62 rfl ap1 ?_
 try simp only [clL]
 refine a0c rfl rfl rfl Tryz.call55 (fun w hS hR => l0E (beN key) _) (fun _ => rfl) ?_
 try simp only [clL]
 refine a0c rfl rfl rfl Tryz.call45 (fun w hS hR => d0C (a0N (beN key) e0Q) _) (fun _ => rfl) ?_
 try simp only [clL]
 refine a0c rfl rfl rfl Tryz.call69 (fun w hS hR => f0y (beN key) (rdR point) _) (fun _ => rfl) ?_
 try simp only [clL]
 refine a0c rfl rfl rfl Tryz.call45 (fun w hS hR => d0C (a0N (beN key) (rdR point)) _) (fun _ => rfl) ?_
 try simp only [clL]
 refine a0c rfl rfl rfl Tryz.call55 (fun w hS hR => l0E (chN a0s [key, point]) _) (fun _ => rfl) ?_
 try simp only [clL]
 refine a0c rfl rfl rfl Tryz.call45 (fun w hS hR => d0C (a0N (chN a0s [key, point]) e0Q) _) (fun _ => rfl) ?_
 try simp only [clL]
 refine a0c rfl rfl rfl Tryz.call69 (fun w hS hR => f0y (chN a0s [key, point]) (rdR point) _) (fun _ => rfl) ?_
 try simp only [clL]
 refine a0c rfl rfl rfl Tryz.call45 (fun w hS hR => d0C (a0N (chN a0s [key, point]) (rdR point)) _) (fun _ => rfl) ?_
 try simp only [clL]
 refine a0c rfl rfl rfl Tryz.call81 (fun w hS hR => (u0L (mkS point) (mkS (b0y (a0N (beN key) e0Q).pt)) (mkS (b0y (a0N (beN key) (rdR point)).pt)) (mkS (b0y (a0N (chN a0s [key, point]) e0Q).pt)) (mkS (b0y (a0N (chN a0s [key, point]) (rdR point)).pt)) _ (by rw [a0u]; have := HT.out; omega) (by rw [a0u, c0e]; decide) (by rw [a0u, c0e]; decide) (by rw [a0u, c0e]; decide) (by rw [a0u, c0e]; decide)).mono fun e w' h => (show e = .returned (i4 C) ∧ Fr Nob _ w' by rw [a0J, a0J, a0J, a0J, a0J, HC.out] at h; exact h)) (fun _ => rfl) ?_
 try simp only [clL]
 refine a0Z List.mem_cons_self fun g11 => ?_
 simp only [upd, reduceIte]
 try simp only [Nat.reduceEqDiff, reduceIte]
 refine a0t fun xq w14 st14 hR => ?_
 try dsimp only
 clear hR xq
 refine a0p rfl rfl ?_
 refine a0h st14 4 rfl rfl rfl rfl ap3 ap1 (a0f _ _) ?_
 intro w15 st15
 repeat (first | simp only [List.cons_append] at st15 | simp only [List.nil_append] at st15 | simp only [List.set_cons_succ] at st15 | simp only [List.set_cons_zero] at st15)
 clear st14
 try simp only [Act.put]
 refine a0i ?_
 refine NoPanic.normal ?_
 go_wp2_with fail
 refine wp_region_noPanic ?_
 refine a0e st15 8 [.o 7, .t 0, .t 1, .t 2, .t 3, .t 4, .c 5, .c 6, .j 7] (.m 8 .nil) ap11 ap11 (fun _ _ _ _ _ h => h) ?_
 clear st15
 refine b0b rfl rfl rfl e0S (cw 4 0) rfl ?_
 try simp only [clL]
 refine a0d rfl rfl rfl (fun _ => rfl) (cw 4 mQ.M ++ cw 4 (B64 ^ 4 - mQ.M)) (fun wx hS => St.rangeL hS 2 rfl 0 _ dZl) Tryz.underlying78 rfl ap1 ?_
 try simp only [clL]
 refine a0d rfl rfl rfl (fun _ => rfl) (cw 4 (chN a0s [key, point])) (fun wx hS => St.rangeL hS 3 rfl 0 _ dZl) Tryz.underlying60 rfl ap1 ?_
 try simp only [clL]
 refine a0d rfl rfl rfl (fun _ => rfl) (cw 4 mQ.M ++ cw 4 (B64 ^ 4 - mQ.M)) (fun wx hS => St.rangeL hS 2 rfl 0 _ dZl) Tryz.underlying78 rfl ap1 ?_
 try simp only [clL]
 refine a0d rfl rfl rfl (fun _ => rfl) (cw 4 C) (fun wx hS => St.rangeL hS 4 rfl 0 _ dZl) Tryz.underlying60 rfl ap1 ?_
 try simp only [clL]
 refine a0d rfl rfl rfl (fun _ => rfl) (cw 4 (beN key)) (fun wx hS => St.rangeL hS 0 rfl 0 _ dZl) Tryz.underlying60 rfl ap1 ?_
 try simp only [clL]
 refine a0c rfl rfl rfl Tryz.call58 (fun w hS hR => C0O mQ.M C (beN key) r1 _ mQ0 d0F.lt HLC.out HLX.out HR1.out) (fun _ => rfl) ?_
 try simp only [clL]
 refine a0c rfl rfl rfl Tryz.call57 (fun w hS hR => C0f mQ.M (chN a0s [key, point]) r1 r2 _ mQ0 d0F.lt HLK.out HL1.out HR2.out) (fun _ => rfl) ?_
 try simp only [clL]
 refine a0Z List.mem_cons_self fun g12 => ?_
 simp only [upd, reduceIte]
 try simp only [Nat.reduceEqDiff, reduceIte]
 refine a0t fun xq w16 st16 hR => ?_
 try dsimp only
 clear hR xq
 refine a0p rfl rfl ?_
 refine a0h st16 5 rfl rfl rfl rfl ap3 ap1 (a0f _ _) ?_
 intro w17 st17
 repeat (first | simp only [List.cons_append] at st17 | simp only [List.nil_append] at st17 | simp only [List.set_cons_succ] at st17 | simp only [List.set_cons_zero] at st17)
 clear st16
 try simp only [Act.put]
 refine a0i ?_
 refine NoPanic.normal ?_
 go_wp2_with fail
 refine wp_region_noPanic ?_
 refine a0e st17 6 [.t 0, .t 2, .c 1, .c 3, .w 4, .w 5] (.m 6 .nil) ap11 ap11 (fun _ _ _ _ _ h => h) ?_
 clear st17
 refine a0d rfl rfl rfl (fun _ => rfl) (cw 4 C) (fun wx hS => St.rangeL hS 4 rfl 0 _ dZl) Tryz.underlying60 rfl ap1 ?_
 try simp only [clL]
 refine a0d rfl rfl rfl (fun _ => rfl) (cw 4 r2) (fun wx hS => St.rangeL hS 5 rfl 0 _ dZl) Tryz.underlying60 rfl ap1 ?_
 try simp only [clL]
 refine a0c rfl rfl rfl Tryz.call59 (fun w hS hR => e0q C _) (fun _ => rfl) ?_
 try simp only [clL]
 refine a0c rfl rfl rfl Tryz.call59 (fun w hS hR => e0q r2 _) (fun _ => rfl) ?_
 try simp only [clL]
 refine a0m rfl rfl (fun _ _ => g0P rfl rfl rfl Tryz.underlying9 (by rw [a0u, a0u, a0Y, a0Y]; decide) (f0p _ _) _) ?_
 try simp only [clL]
 refine a0m rfl rfl apX ?_
 try simp only [clL]
 refine a0t fun xq w18 st18 hR => ?_
 try dsimp only
 clear hR xq
 refine a0p rfl rfl ?_
 go_simp
 try simp only [clL]
 refine a0i ?_
 refine NoPanic.normal ?_
 have hfr := st18.fr
 clear st18
 go_wp2_with fail
 go_ret2
 exact ⟨by rw [← HCS.out, ← HZ.out]; rfl, hfr⟩
theorem n0x (key point : List UInt8) (hk : key.length ≤ 4096) (ht : point.length ≤ 4096) (w : World) : Calls Tryz.prog 24 #[.string (mkS key), .string (mkS point)] w fun e w' => e = .returned (.tuple #[.string (mkS (smS key point)), .int .i64 (smE key point)]) ∧ Fr Nob w w' := by
 cases h : f0S key with
 | false => rw [(C0n (p := point) h).1, (C0n (p := point) h).2]; exact C0U key point hk ht h w
 | true =>
  cases h2 : b0G point with
  | false => rw [(C0m h h2).1, (C0m h h2).2]; exact C0V key point hk ht h h2 w
  | true => rw [(x0k h h2).1, (x0k h h2).2]; exact C0h key point hk ht h h2 w
theorem C0W (a p b s : List UInt8) (_h1 : a.length ≤ 4096) (_h2 : p.length ≤ 4096) (_h3 : b.length ≤ 4096) (hr : b0x [a, p, b] = false) (w : World) : Calls Tryz.prog 26 #[.string (mkS a), .string (mkS p), .string (mkS b), .string (mkS s)] w fun e w' => e = .returned (.bool false) ∧ Fr Nob w w' := by
 have HR := qH (show (b0G a && (b0G p && b0G b)) = false by unfold b0x at hr; simpa using hr)
 clear hr
 have st0 := St.start Nob w
 go_enter Tryz.func26, Tryz.ntmps26
 go_wp2_with fail
 refine (c0P a _).mono ?_
 rintro e' w1 ⟨X1, Y1, Z1, rfl, hx, hf1⟩
 have st1 := st0.keep hf1
 have HX1 := qH hx
 clear hx
 clear st0 hf1
 go_wp2_with (with_reducible refine wSk 9 ?_)
 refine a0a st1 rfl rfl (z := zAc) ap11 (cw 12 0) ap9 ?_
 intro g9 w2 st2
 clear st1
 go_wp2_with (with_reducible refine wSn ?_)
 refine a0b st2 0 rfl rfl rfl rfl rfl ap3 ap1 (b0M _ _ _) ?_
 intro w3 st3
 clear st2
 go_wp2_with fail
 refine (c0P p _).mono ?_
 rintro e' w4 ⟨X2, Y2, Z2, rfl, hx, hf4⟩
 have st4 := st3.keep hf4
 have HX2 := qH hx
 clear hx
 clear st3 hf4
 go_wp2_with (with_reducible refine wSk 11 ?_)
 refine a0a st4 rfl rfl (z := zAc) ap11 (cw 12 0) ap9 ?_
 intro g11 w5 st5
 clear st4
 go_wp2_with (with_reducible refine wSn ?_)
 refine a0b st5 1 rfl rfl rfl rfl rfl ap3 ap1 (b0M _ _ _) ?_
 intro w6 st6
 clear st5
 go_wp2_with fail
 refine (c0P b _).mono ?_
 rintro e' w7 ⟨X3, Y3, Z3, rfl, hx, hf7⟩
 have st7 := st6.keep hf7
 have HX3 := qH hx
 clear hx
 clear st6 hf7
 go_wp2_with (with_reducible refine wSk 13 ?_)
 refine a0a st7 rfl rfl (z := zAc) ap11 (cw 12 0) ap9 ?_
 intro g13 w8 st8
 clear st7
 go_wp2_with (with_reducible refine wSn ?_)
 refine a0b st8 2 rfl rfl rfl rfl rfl ap3 ap1 (b0M _ _ _) ?_
 intro w9 st9
 clear st8
 generalize hb : b0G a = b1 at *
 have HB1 := qH hb
 clear hb
 generalize hb : b0G p = b2 at *
 have HB2 := qH hb
 clear hb
 generalize hb : b0G b = b3 at *
 have HB3 := qH hb
 clear hb
 have hf3 : (b1 && (b2 && b3)) = false := HR.out
 have hfr := st9.fr
 clear st9 HX1 HX2 HX3 HB1 HB2 HB3 HR
 rcases b1 with _ | _
 ·go_wp2_with fail
  go_ret
  exact ⟨rfl, hfr⟩
 rcases b2 with _ | _
 ·go_wp2_with fail
  go_ret
  exact ⟨rfl, hfr⟩
 rcases b3 with _ | _
 ·clear hf3
  go_wp2_with fail
  go_ret
  exact ⟨rfl, hfr⟩
 exact absurd hf3 ap12
theorem C0X (a p b s : List UInt8) (_h1 : a.length ≤ 4096) (_h2 : p.length ≤ 4096) (_h3 : b.length ≤ 4096) (hr : b0x [a, p, b] = true) (hl : s.length ≠ 64) (w : World) : Calls Tryz.prog 26 #[.string (mkS a), .string (mkS p), .string (mkS b), .string (mkS s)] w fun e w' => e = .returned (.bool false) ∧ Fr Nob w w' := by
 have HR1 := qH (e0y hr).1
 have HR2 := qH (e0y hr).2.1
 have HR3 := qH (e0y hr).2.2
 have hne : (((mkS s).size : Int) != 64) = true := by rw [a0u]; simp; omega
 clear hr hl
 have st0 := St.start Nob w
 go_enter Tryz.func26, Tryz.ntmps26
 go_wp2_with fail
 refine (c0P a _).mono ?_
 rintro e' w1 ⟨X1, Y1, Z1, rfl, hx, hf1⟩
 have st1 := st0.keep hf1
 have HX1 := qH hx
 clear hx
 clear st0 hf1
 go_wp2_with (with_reducible refine wSk 9 ?_)
 refine a0a st1 rfl rfl (z := zAc) ap11 (cw 12 0) ap9 ?_
 intro g9 w2 st2
 clear st1
 go_wp2_with (with_reducible refine wSn ?_)
 refine a0b st2 0 rfl rfl rfl rfl rfl ap3 ap1 (b0M _ _ _) ?_
 intro w3 st3
 clear st2
 go_wp2_with fail
 refine (c0P p _).mono ?_
 rintro e' w4 ⟨X2, Y2, Z2, rfl, hx, hf4⟩
 have st4 := st3.keep hf4
 have HX2 := qH hx
 clear hx
 clear st3 hf4
 go_wp2_with (with_reducible refine wSk 11 ?_)
 refine a0a st4 rfl rfl (z := zAc) ap11 (cw 12 0) ap9 ?_
 intro g11 w5 st5
 clear st4
 go_wp2_with (with_reducible refine wSn ?_)
 refine a0b st5 1 rfl rfl rfl rfl rfl ap3 ap1 (b0M _ _ _) ?_
 intro w6 st6
 clear st5
 go_wp2_with fail
 refine (c0P b _).mono ?_
 rintro e' w7 ⟨X3, Y3, Z3, rfl, hx, hf7⟩
 have st7 := st6.keep hf7
 have HX3 := qH hx
 clear hx
 clear st6 hf7
 go_wp2_with (with_reducible refine wSk 13 ?_)
 refine a0a st7 rfl rfl (z := zAc) ap11 (cw 12 0) ap9 ?_
 intro g13 w8 st8
 clear st7
 go_wp2_with (with_reducible refine wSn ?_)
 refine a0b st8 2 rfl rfl rfl rfl rfl ap3 ap1 (b0M _ _ _) ?_
 intro w9 st9
 clear st8
 rw [HR1.out, HR2.out, HR3.out]
 have hfr := st9.fr
 clear st9
 go_wp2_with fail
 go_ret
 exact ⟨rfl, hfr⟩
theorem C0Y (a p b s : List UInt8) (_h1 : a.length ≤ 4096) (_h2 : p.length ≤ 4096) (_h3 : b.length ≤ 4096) (hr : b0x [a, p, b] = true) (hl : s.length = 64) (hn : a0U mQ [s.take 32, s.drop 32] = false) (w : World) : Calls Tryz.prog 26 #[.string (mkS a), .string (mkS p), .string (mkS b), .string (mkS s)] w fun e w' => e = .returned (.bool false) ∧ Fr Nob w w' := by
 have HR1 := qH (e0y hr).1
 have HR2 := qH (e0y hr).2.1
 have HR3 := qH (e0y hr).2.2
 have hne : (((mkS s).size : Int) != 64) = false := by rw [a0u, hl]; rfl
 have hI1 : (32 : Int) ≤ ((mkS s).size : Int) := by rw [a0u]; omega
 have hI2 : 32 ≤ (mkS s).size := by rw [a0u]; omega
 have HE1 := qH (y0h s 32 ap13)
 have HE2 := qH (y0i s 32)
 have HNF := qH (show (a0X mQ (s.take 32) && a0X mQ (s.drop 32)) = false by unfold a0U at hn; simpa using hn)
 clear hr hl hn
 have st0 := St.start Nob w
 go_enter Tryz.func26, Tryz.ntmps26
 go_wp2_with fail
 refine (c0P a _).mono ?_
 rintro e' w1 ⟨X1, Y1, Z1, rfl, hx, hf1⟩
 have st1 := st0.keep hf1
 have HX1 := qH hx
 clear hx
 clear st0 hf1
 go_wp2_with (with_reducible refine wSk 9 ?_)
 refine a0a st1 rfl rfl (z := zAc) ap11 (cw 12 0) ap9 ?_
 intro g9 w2 st2
 clear st1
 go_wp2_with (with_reducible refine wSn ?_)
 refine a0b st2 0 rfl rfl rfl rfl rfl ap3 ap1 (b0M _ _ _) ?_
 intro w3 st3
 clear st2
 go_wp2_with fail
 refine (c0P p _).mono ?_
 rintro e' w4 ⟨X2, Y2, Z2, rfl, hx, hf4⟩
 have st4 := st3.keep hf4
 have HX2 := qH hx
 clear hx
 clear st3 hf4
 go_wp2_with (with_reducible refine wSk 11 ?_)
 refine a0a st4 rfl rfl (z := zAc) ap11 (cw 12 0) ap9 ?_
 intro g11 w5 st5
 clear st4
 go_wp2_with (with_reducible refine wSn ?_)
 refine a0b st5 1 rfl rfl rfl rfl rfl ap3 ap1 (b0M _ _ _) ?_
 intro w6 st6
 clear st5
 go_wp2_with fail
 refine (c0P b _).mono ?_
 rintro e' w7 ⟨X3, Y3, Z3, rfl, hx, hf7⟩
 have st7 := st6.keep hf7
 have HX3 := qH hx
 clear hx
 clear st6 hf7
 go_wp2_with (with_reducible refine wSk 13 ?_)
 refine a0a st7 rfl rfl (z := zAc) ap11 (cw 12 0) ap9 ?_
 intro g13 w8 st8
 clear st7
 go_wp2_with (with_reducible refine wSn ?_)
 refine a0b st8 2 rfl rfl rfl rfl rfl ap3 ap1 (b0M _ _ _) ?_
 intro w9 st9
 clear st8
 rw [HR1.out, HR2.out, HR3.out]
 go_wp2_with fail
 rw [HE1.out]
 refine (f0A (s.take 32) _).mono ?_
 rintro e' w10 ⟨N1, rfl, hx, hf⟩
 have st10 := st9.keep hf
 have HN1 := qH hx
 clear st9 hf hx
 go_wp2_with (with_reducible refine wSk 15 ?_)
 refine a0a st10 rfl rfl (z := zAd) ap11 (cw 4 0) ap9 ?_
 intro g15 w11 st11
 clear st10
 go_wp2_with (with_reducible refine wSn ?_)
 refine a0b st11 3 rfl rfl rfl rfl rfl ap3 ap1 (a0f _ _) ?_
 intro w12 st12
 clear st11
 go_wp2_with fail
 rw [HE2.out]
 refine (f0A (s.drop 32) _).mono ?_
 rintro e' w13 ⟨N2, rfl, hx, hf⟩
 have st13 := st12.keep hf
 have HN2 := qH hx
 clear st12 hf hx
 go_wp2_with (with_reducible refine wSk 17 ?_)
 refine a0a st13 rfl rfl (z := zAd) ap11 (cw 4 0) ap9 ?_
 intro g17 w14 st14
 clear st13
 go_wp2_with (with_reducible refine wSn ?_)
 refine a0b st14 4 rfl rfl rfl rfl rfl ap3 ap1 (a0f _ _) ?_
 intro w15 st15
 clear st14
 generalize hb : a0X mQ (s.take 32) = b1 at *
 have HB1 := qH hb
 clear hb
 generalize hb : a0X mQ (s.drop 32) = b2 at *
 have HB2 := qH hb
 clear hb
 have hf3 : (b1 && b2) = false := HNF.out
 clear hI1 hI2 hne HX1 HX2 HX3 HN1 HN2 HB1 HB2 HNF
 have hfr := st15.fr
 clear st15
 rcases b1 with _ | _
 ·go_wp2_with fail
  go_ret
  exact ⟨rfl, hfr⟩
 rcases b2 with _ | _
 ·clear hf3
  go_wp2_with fail
  go_ret
  exact ⟨rfl, hfr⟩
 exact absurd hf3 ap12
theorem C0Z (a p b s : List UInt8) (h1 : a.length ≤ 4096) (h2 : p.length ≤ 4096) (h3 : b.length ≤ 4096) (h : vsG a p b s = true) (w : World) : Calls Tryz.prog 26 #[.string (mkS a), .string (mkS p), .string (mkS b), .string (mkS s)] w fun e w' => e = .returned (.bool (vsB a p b s)) ∧ Fr Nob w w' := by
 have hr : b0x [a, p, b] = true := by unfold vsG at h; simp only [Bool.and_eq_true] at h; exact h.1
 have hn : a0U mQ [s.take 32, s.drop 32] = true := by unfold vsG at h; simp only [Bool.and_eq_true] at h; exact h.2.2
 have hl : s.length = 64 := by unfold vsG at h; simp only [Bool.and_eq_true, decide_eq_true_eq] at h; exact h.2.1
 have HR1 := qH (e0y hr).1
 have HR2 := qH (e0y hr).2.1
 have HR3 := qH (e0y hr).2.2
 have hne : (((mkS s).size : Int) != 64) = false := by rw [a0u, hl]; rfl
 have hI1 : (32 : Int) ≤ ((mkS s).size : Int) := by rw [a0u]; omega
 have hI2 : 32 ≤ (mkS s).size := by rw [a0u]; omega
 have HE1 := qH (y0h s 32 ap13)
 have HE2 := qH (y0i s 32)
 have HM1 := qH (x0l hn).1
 have HM2 := qH (x0l hn).2
 have H1 := qH h1
 have H2 := qH h2
 have H3 := qH h3
 have hc : (beN (s.take 32)) < B64 ^ 4 := Nat.lt_trans (c0O HM1.out) d0F.lt
 have hz : (beN (s.drop 32)) < B64 ^ 4 := Nat.lt_trans (c0O HM2.out) d0F.lt
 have HLC := qH hc
 have e1 : b0y (e0x (a0N (beN (s.drop 32)) e0Q) (f0T (a0N (beN (s.take 32)) (rdR a)))).pt = d0z (beN (s.drop 32)) (beN (s.take 32)) gP (b0N a) := by rw [j0i, u0o, d0g _ hz, d0g _ hc, l0B, k0h (c0Z HR1.out)]; unfold d0z; rfl
 have e2 : b0y (e0x (a0N (beN (s.drop 32)) (rdR p)) (f0T (a0N (beN (s.take 32)) (rdR b)))).pt = d0z (beN (s.drop 32)) (beN (s.take 32)) (b0N p) (b0N b) := by rw [j0i, u0o, d0g _ hz, d0g _ hc, k0h (c0Z HR2.out), k0h (c0Z HR3.out)]; unfold d0z; rfl
 obtain ⟨D, hD⟩ : ∃ D, d0m p a b (b0y (e0x (a0N (beN (s.drop 32)) e0Q) (f0T (a0N (beN (s.take 32)) (rdR a)))).pt) (b0y (e0x (a0N (beN (s.drop 32)) (rdR p)) (f0T (a0N (beN (s.take 32)) (rdR b)))).pt) = D := ⟨_, rfl⟩
 have HD := qH hD
 have HLD := qH (show D < B64 ^ 4 by rw [← hD]; exact Nat.lt_trans (h0S _ _ _ _ _) d0F.lt)
 have HEQ := qH (show (D == (beN (s.take 32))) = vsB a p b s by rw [y0g h, ← e1, ← e2, hD]; rfl)
 clear h hr hn hl h1 h2 h3 hc hz e1 e2 hD
 have st0 := St.start Nob w
 go_enter Tryz.func26, Tryz.ntmps26
 go_wp2_with fail
 refine (c0P a _).mono ?_
 rintro e' w1 ⟨X1, Y1, Z1, rfl, hx, hf1⟩
 have st1 := st0.keep hf1
 have HX1 := qH hx
 clear hx
 clear st0 hf1
 go_wp2_with (with_reducible refine wSk 9 ?_)
 refine a0a st1 rfl rfl (z := zAc) ap11 (cw 12 0) ap9 ?_
 intro g9 w2 st2
 clear st1
 go_wp2_with (with_reducible refine wSn ?_)
 refine a0b st2 0 rfl rfl rfl rfl rfl ap3 ap1 (b0M _ _ _) ?_
 intro w3 st3
 clear st2
 go_wp2_with fail
 refine (c0P p _).mono ?_
 rintro e' w4 ⟨X2, Y2, Z2, rfl, hx, hf4⟩
 have st4 := st3.keep hf4
 have HX2 := qH hx
 clear hx
 clear st3 hf4
 go_wp2_with (with_reducible refine wSk 11 ?_)
 refine a0a st4 rfl rfl (z := zAc) ap11 (cw 12 0) ap9 ?_
 intro g11 w5 st5
 clear st4
 go_wp2_with (with_reducible refine wSn ?_)
 refine a0b st5 1 rfl rfl rfl rfl rfl ap3 ap1 (b0M _ _ _) ?_
 intro w6 st6
 clear st5
 go_wp2_with fail
 refine (c0P b _).mono ?_
 rintro e' w7 ⟨X3, Y3, Z3, rfl, hx, hf7⟩
 have st7 := st6.keep hf7
 have HX3 := qH hx
 clear hx
 clear st6 hf7
 go_wp2_with (with_reducible refine wSk 13 ?_)
 refine a0a st7 rfl rfl (z := zAc) ap11 (cw 12 0) ap9 ?_
 intro g13 w8 st8
 clear st7
 go_wp2_with (with_reducible refine wSn ?_)
 refine a0b st8 2 rfl rfl rfl rfl rfl ap3 ap1 (b0M _ _ _) ?_
 intro w9 st9
 clear st8
 rw [HR1.out, HR2.out, HR3.out]
 go_wp2_with fail
 rw [HE1.out]
 refine (f0A (s.take 32) _).mono ?_
 rintro e' w10 ⟨N1, rfl, hx, hf⟩
 have st10 := st9.keep hf
 have HN1 := qH hx
 clear st9 hf hx
 go_wp2_with (with_reducible refine wSk 15 ?_)
 refine a0a st10 rfl rfl (z := zAd) ap11 (cw 4 0) ap9 ?_
 intro g15 w11 st11
 clear st10
 go_wp2_with (with_reducible refine wSn ?_)
 refine a0b st11 3 rfl rfl rfl rfl rfl ap3 ap1 (a0f _ _) ?_
 intro w12 st12
 clear st11
 go_wp2_with fail
 rw [HE2.out]
 refine (f0A (s.drop 32) _).mono ?_
 rintro e' w13 ⟨N2, rfl, hx, hf⟩
 have st13 := st12.keep hf
 have HN2 := qH hx
 clear st12 hf hx
 go_wp2_with (with_reducible refine wSk 17 ?_)
 refine a0a st13 rfl rfl (z := zAd) ap11 (cw 4 0) ap9 ?_
 intro g17 w14 st14
 clear st13
 go_wp2_with (with_reducible refine wSn ?_)
 refine a0b st14 4 rfl rfl rfl rfl rfl ap3 ap1 (a0f _ _) ?_
 intro w15 st15
 clear st14
 rw [HM1.out, HM2.out]
 rw [HX1.out (c0Z HR1.out), HX2.out (c0Z HR2.out), HX3.out (c0Z HR3.out), HN1.out HM1.out, HN2.out HM2.out] at st15
 clear HX1 HX2 HX3 HN1 HN2 hI1 hI2 hne
 go_wp2_with fail
 refine wp_region_noPanic ?_
 refine a0e st15 8 [.o 7, .t 0, .t 2, .t 3, .c 1, .c 4, .c 5, .c 6, .j 7] (.m 8 .nil) ap11 ap11 (fun _ _ _ _ _ h => h) ?_
 clear st15
 refine b0b rfl rfl rfl D0g (cw 12 0) rfl ?_
 try simp only [clL]
 refine a0d rfl rfl rfl (fun _ => rfl) (cw 4 (beN (s.drop 32))) (fun wx hS => St.rangeL hS 4 rfl 0 _ dZl) Tryz.underlying60 rfl ap1 ?_
 try simp only [clL]
 refine a0d rfl rfl rfl (fun _ => rfl) (cw 4 (beN (s.take 32))) (fun wx hS => St.rangeL hS 3 rfl 0 _ dZl) Tryz.underlying60 rfl ap1 ?_
 try simp only [clL]
 refine a0d rfl rfl rfl (fun _ => rfl) ((rdR a).L) (fun wx hS => St.rangeL hS 0 rfl 0 _ dZl) Tryz.underlying62 rfl ap1 ?_
 try simp only [clL]
 refine a0c rfl rfl rfl Tryz.call55 (fun w hS hR => l0E (beN (s.drop 32)) _) (fun _ => rfl) ?_
 try simp only [clL]
 refine a0c rfl rfl rfl Tryz.call69 (fun w hS hR => f0y (beN (s.take 32)) (rdR a) _) (fun _ => rfl) ?_
 try simp only [clL]
 refine a0c rfl rfl rfl Tryz.call82 (fun w hS hR => y0b (a0N (beN (s.take 32)) (rdR a)) _) (fun _ => rfl) ?_
 try simp only [clL]
 refine a0c rfl rfl rfl Tryz.call68 (fun w hS hR => l0z (a0N (beN (s.drop 32)) e0Q) (f0T (a0N (beN (s.take 32)) (rdR a))) _) (fun _ => rfl) ?_
 try simp only [clL]
 refine a0Z List.mem_cons_self fun g19 => ?_
 simp only [upd, reduceIte]
 try simp only [Nat.reduceEqDiff, reduceIte]
 refine a0t fun xq w16 st16 hR => ?_
 try dsimp only
 clear hR xq
 refine a0p rfl rfl ?_
 refine a0h st16 5 rfl rfl rfl rfl ap3 ap1 (RT.one _) ?_
 intro w17 st17
 repeat (first | simp only [List.cons_append] at st17 | simp only [List.nil_append] at st17 | simp only [List.set_cons_succ] at st17 | simp only [List.set_cons_zero] at st17)
 clear st16
 try simp only [Act.put]
 refine a0i ?_
 refine NoPanic.normal ?_
 go_wp2_with fail
 refine wp_region_noPanic ?_
 refine a0e st17 9 [.o 8, .t 0, .t 1, .t 3, .t 4, .c 2, .c 5, .c 6, .c 7, .j 8] (.m 9 .nil) ap11 ap11 (fun _ _ _ _ _ h => h) ?_
 clear st17
 refine b0b rfl rfl rfl D0g (cw 12 0) rfl ?_
 try simp only [clL]
 refine a0d rfl rfl rfl (fun _ => rfl) (cw 4 (beN (s.drop 32))) (fun wx hS => St.rangeL hS 4 rfl 0 _ dZl) Tryz.underlying60 rfl ap1 ?_
 try simp only [clL]
 refine a0d rfl rfl rfl (fun _ => rfl) ((rdR p).L) (fun wx hS => St.rangeL hS 1 rfl 0 _ dZl) Tryz.underlying62 rfl ap1 ?_
 try simp only [clL]
 refine a0d rfl rfl rfl (fun _ => rfl) (cw 4 (beN (s.take 32))) (fun wx hS => St.rangeL hS 3 rfl 0 _ dZl) Tryz.underlying60 rfl ap1 ?_
 try simp only [clL]
 refine a0d rfl rfl rfl (fun _ => rfl) ((rdR b).L) (fun wx hS => St.rangeL hS 2 rfl 0 _ dZl) Tryz.underlying62 rfl ap1 ?_
 try simp only [clL]
 refine a0c rfl rfl rfl Tryz.call69 (fun w hS hR => f0y (beN (s.drop 32)) (rdR p) _) (fun _ => rfl) ?_
 try simp only [clL]
 refine a0c rfl rfl rfl Tryz.call69 (fun w hS hR => f0y (beN (s.take 32)) (rdR b) _) (fun _ => rfl) ?_
 try simp only [clL]
 refine a0c rfl rfl rfl Tryz.call82 (fun w hS hR => y0b (a0N (beN (s.take 32)) (rdR b)) _) (fun _ => rfl) ?_
 try simp only [clL]
 refine a0c rfl rfl rfl Tryz.call68 (fun w hS hR => l0z (a0N (beN (s.drop 32)) (rdR p)) (f0T (a0N (beN (s.take 32)) (rdR b))) _) (fun _ => rfl) ?_
 try simp only [clL]
 refine a0Z List.mem_cons_self fun g20 => ?_
 simp only [upd, reduceIte]
 try simp only [Nat.reduceEqDiff, reduceIte]
 refine a0t fun xq w18 st18 hR => ?_
 try dsimp only
 clear hR xq
 refine a0p rfl rfl ?_
 refine a0h st18 6 rfl rfl rfl rfl ap3 ap1 (RT.one _) ?_
 intro w19 st19
 repeat (first | simp only [List.cons_append] at st19 | simp only [List.nil_append] at st19 | simp only [List.set_cons_succ] at st19 | simp only [List.set_cons_zero] at st19)
 clear st18
 try simp only [Act.put]
 refine a0i ?_
 refine NoPanic.normal ?_
 go_wp2_with fail
 refine wp_region_noPanic ?_
 refine a0e st19 10 [.w 0, .w 1, .w 2, .t 3, .t 5, .t 8, .c 4, .c 6, .c 7, .w 9] (.m 10 .nil) ap11 ap11 (fun _ _ _ _ _ h => h) ?_
 clear st19
 refine a0m rfl rfl apX ?_
 try simp only [clL]
 refine a0m rfl rfl apX ?_
 try simp only [clL]
 refine a0m rfl rfl apX ?_
 try simp only [clL]
 refine a0d rfl rfl rfl (fun _ => rfl) ((e0x (a0N (beN (s.drop 32)) e0Q) (f0T (a0N (beN (s.take 32)) (rdR a)))).L) (fun wx hS => St.rangeL hS 5 rfl 0 _ dZl) Tryz.underlying62 rfl ap1 ?_
 try simp only [clL]
 refine a0d rfl rfl rfl (fun _ => rfl) ((e0x (a0N (beN (s.drop 32)) (rdR p)) (f0T (a0N (beN (s.take 32)) (rdR b)))).L) (fun wx hS => St.rangeL hS 6 rfl 0 _ dZl) Tryz.underlying62 rfl ap1 ?_
 try simp only [clL]
 refine a0d rfl rfl rfl (fun _ => rfl) (cw 4 (beN (s.take 32))) (fun wx hS => St.rangeL hS 3 rfl 0 _ dZl) Tryz.underlying60 rfl ap1 ?_
 try simp only [clL]
 refine a0c rfl rfl rfl Tryz.call45 (fun w hS hR => d0C (e0x (a0N (beN (s.drop 32)) e0Q) (f0T (a0N (beN (s.take 32)) (rdR a)))) _) (fun _ => rfl) ?_
 try simp only [clL]
 refine a0c rfl rfl rfl Tryz.call45 (fun w hS hR => d0C (e0x (a0N (beN (s.drop 32)) (rdR p)) (f0T (a0N (beN (s.take 32)) (rdR b)))) _) (fun _ => rfl) ?_
 try simp only [clL]
 refine a0c rfl rfl rfl Tryz.call81 (fun w hS hR => (u0L (mkS p) (mkS a) (mkS b) (mkS (b0y (e0x (a0N (beN (s.drop 32)) e0Q) (f0T (a0N (beN (s.take 32)) (rdR a)))).pt)) (mkS (b0y (e0x (a0N (beN (s.drop 32)) (rdR p)) (f0T (a0N (beN (s.take 32)) (rdR b)))).pt)) _ (by rw [a0u]; have := H2.out; omega) (by rw [a0u]; have := H1.out; omega) (by rw [a0u]; have := H3.out; omega) (by rw [a0u, c0e]; decide) (by rw [a0u, c0e]; decide)).mono fun e w' h => (show e = .returned (i4 D) ∧ Fr Nob _ w' by rw [a0J, a0J, a0J, a0J, a0J, HD.out] at h; exact h)) (fun _ => rfl) ?_
 try simp only [clL]
 refine a0m rfl rfl (fun _ _ => t0Y HLD.out HLC.out rfl rfl rfl HEQ.out _) ?_
 try simp only [clL]
 refine a0t fun xq w20 st20 hR => ?_
 try dsimp only
 clear hR xq
 refine a0p rfl rfl ?_
 go_simp
 try simp only [clL]
 refine a0i ?_
 refine NoPanic.normal ?_
 have hfr := st20.fr
 clear st20
 go_wp2_with fail
 go_ret
 exact ⟨rfl, hfr⟩
theorem l0H (a p b s : List UInt8) (h1 : a.length ≤ 4096) (h2 : p.length ≤ 4096) (h3 : b.length ≤ 4096) (w : World) : Calls Tryz.prog 26 #[.string (mkS a), .string (mkS p), .string (mkS b), .string (mkS s)] w fun e w' => e = .returned (.bool (vsB a p b s)) ∧ Fr Nob w w' := by
 cases h : vsG a p b s with
 | false =>
  rw [C0c h]
  unfold vsG at h
  cases hr : b0x [a, p, b] with
  | false => exact C0W a p b s h1 h2 h3 hr w
  | true =>
   by_cases hl : s.length = 64
   ·rw [hr, decide_eq_true hl, Bool.true_and, Bool.true_and] at h
    exact C0Y a p b s h1 h2 h3 hr hl h w
   ·exact C0X a p b s h1 h2 h3 hr hl w
 | true => exact C0Z a p b s h1 h2 h3 h w
end
section
open Go.RowKit Go.Mv Mvp Mvq
attribute [local irreducible] a0F lw mix cw b0p b0z b0o a0P a0q beN b0F b0e b0B a0K a0Q elN mdL a0X rtV b0R b0y b0Z b0N a0W b0t b0H toB a0x a0I b0u c0i a0M c0t b0i a0G c0r e0n e0x noR f0T a0N RT.L rdR kN kc f0S d0m chN h0w u0O b0G rpL smE smS vsB vsG
theorem n0y (k q : ByteArray) (h1 : k.size ≤ 4096) (h2 : q.size ≤ 4096) (w : World) :
  Calls Tryz.prog 24 #[.string k, .string q] w fun e w' => e = .returned (.tuple #[.string (mkS (smS k.data.toList q.data.toList)), .int .i64 (smE k.data.toList q.data.toList)]) ∧ Fr Nob w w' := by
 have h := n0x k.data.toList q.data.toList (by rw [e0d]; exact h1) (by rw [e0d]; exact h2) w
 rwa [c0w, c0w] at h
theorem l0I (a q b s : ByteArray) (h1 : a.size ≤ 4096) (h2 : q.size ≤ 4096) (h3 : b.size ≤ 4096) (w : World) :
  Calls Tryz.prog 26 #[.string a, .string q, .string b, .string s] w fun e w' => e = .returned (.bool (vsB a.data.toList q.data.toList b.data.toList s.data.toList)) ∧ Fr Nob w w' := by
 have h := l0H a.data.toList q.data.toList b.data.toList s.data.toList (by rw [e0d]; exact h1) (by rw [e0d]; exact h2) (by rw [e0d]; exact h3) w
 rwa [c0w, c0w, c0w, c0w] at h
theorem l0J (k q a b s : ByteArray) (w : World) : Calls Tryz.prog 6 #[.string k, .string q, .string a, .string b, .string s] w fun e w' => e = .returned (.bool true) ∧ Fr Nob w w' := by
 have st0 := St.start Nob w
 go_enter Tryz.func6, Tryz.ntmps6
 by_cases hz0 : 4096 < k.size
 ·have hJ : (4096 : Int) < (k.size : Int) := by omega
  have hfr := st0.fr
  clear st0
  go_wp2_with fail
  go_ret
  exact ⟨rfl, hfr⟩
 have hI0 : ¬ ((4096 : Int) < (k.size : Int)) := by omega
 have HSk := qH (show k.size ≤ 4096 by omega)
 clear hz0
 by_cases hz1 : 4096 < q.size
 ·have hJ : (4096 : Int) < (q.size : Int) := by omega
  have hfr := st0.fr
  clear st0
  go_wp2_with fail
  go_ret
  exact ⟨rfl, hfr⟩
 have hI1 : ¬ ((4096 : Int) < (q.size : Int)) := by omega
 have HSq := qH (show q.size ≤ 4096 by omega)
 clear hz1
 by_cases hz2 : 4096 < a.size
 ·have hJ : (4096 : Int) < (a.size : Int) := by omega
  have hfr := st0.fr
  clear st0
  go_wp2_with fail
  go_ret
  exact ⟨rfl, hfr⟩
 have hI2 : ¬ ((4096 : Int) < (a.size : Int)) := by omega
 have HSa := qH (show a.size ≤ 4096 by omega)
 clear hz2
 by_cases hz3 : 4096 < b.size
 ·have hJ : (4096 : Int) < (b.size : Int) := by omega
  have hfr := st0.fr
  clear st0
  go_wp2_with fail
  go_ret
  exact ⟨rfl, hfr⟩
 have hI3 : ¬ ((4096 : Int) < (b.size : Int)) := by omega
 have HSb := qH (show b.size ≤ 4096 by omega)
 clear hz3
 by_cases hz4 : 4096 < s.size
 ·have hJ : (4096 : Int) < (s.size : Int) := by omega
  have hfr := st0.fr
  clear st0
  go_wp2_with fail
  go_ret
  exact ⟨rfl, hfr⟩
 have hI4 : ¬ ((4096 : Int) < (s.size : Int)) := by omega
 have HSs := qH (show s.size ≤ 4096 by omega)
 clear hz4
 go_wp2_with (with_reducible refine wSk 42 ?_)
 refine c0h (q := k) rfl rfl Tryz.underlying9 Tryz.underlying22 Tryz.underlying5 rfl (by have := HSk.out; unfold maxLen; omega) 0 (Nat.zero_le _) ?_
 intro capk w1 ho hf hz
 have st1 := st0.keep hf
 clear hz
 have HPk := qH (b0L ho (by have := HSk.out; omega))
 clear hf st0
 clear ho
 go_wp2_with (with_reducible refine wSk 44 ?_)
 refine c0h (q := q) rfl rfl Tryz.underlying9 Tryz.underlying22 Tryz.underlying5 rfl (by have := HSq.out; unfold maxLen; omega) 0 (Nat.zero_le _) ?_
 intro capq w2 ho hf hz
 have st2 := st1.keep hf
 replace HPk := qH (HPk.out.still hf)
 clear hz
 have HPq := qH (b0L ho (by have := HSq.out; omega))
 clear hf st1
 clear ho
 clear hI0 hI1 hI2 hI3 hI4
 obtain ⟨aak, nnk, cck, hek, kkk⟩ := HPk.out
 cases hek
 clear kkk
 obtain ⟨aaq, nnq, ccq, heq, kkq⟩ := HPq.out
 cases heq
 clear kkq
 go_wp2_with fail
 refine (o0V _ _ _ k.data.toList _ _ _ q.data.toList _ HPk.out HPq.out).mono ?_
 rintro e' w3 ⟨v1, rfl, ho, hf⟩
 have st3 := st2.keep hf
 replace HPk := qH (HPk.out.still hf)
 replace HPq := qH (HPq.out.still hf)
 have HV1 := qH ho.part
 clear ho
 clear hf st2
 clear HPk HPq
 go_wp2_with fail
 refine (n0y k q HSk.out HSq.out _).mono ?_
 rintro e' w4 ⟨rfl, hf⟩
 have st4 := st3.keep hf
 replace HV1 := qH (HV1.out.still hf)
 clear hf st3
 go_wp2_with (with_reducible refine wSk 55 ?_)
 refine c0h (q := a) rfl rfl Tryz.underlying9 Tryz.underlying22 Tryz.underlying5 rfl (by have := HSa.out; unfold maxLen; omega) 0 (Nat.zero_le _) ?_
 intro capa w5 ho hf hz
 have st5 := st4.keep hf
 replace HV1 := qH (HV1.out.still hf)
 clear hz
 have HPa := qH (b0L ho (by have := HSa.out; omega))
 clear hf st4
 clear ho
 go_wp2_with (with_reducible refine wSk 57 ?_)
 refine c0h (q := q) rfl rfl Tryz.underlying9 Tryz.underlying22 Tryz.underlying5 rfl (by have := HSq.out; unfold maxLen; omega) 0 (Nat.zero_le _) ?_
 intro capq w6 ho hf hz
 have st6 := st5.keep hf
 replace HV1 := qH (HV1.out.still hf)
 replace HPa := qH (HPa.out.still hf)
 clear hz
 have HPr := qH (b0L ho (by have := HSq.out; omega))
 clear hf st5
 clear ho
 go_wp2_with (with_reducible refine wSk 59 ?_)
 refine c0h (q := b) rfl rfl Tryz.underlying9 Tryz.underlying22 Tryz.underlying5 rfl (by have := HSb.out; unfold maxLen; omega) 0 (Nat.zero_le _) ?_
 intro capb w7 ho hf hz
 have st7 := st6.keep hf
 replace HV1 := qH (HV1.out.still hf)
 replace HPa := qH (HPa.out.still hf)
 replace HPr := qH (HPr.out.still hf)
 clear hz
 have HPb := qH (b0L ho (by have := HSb.out; omega))
 clear hf st6
 clear ho
 go_wp2_with (with_reducible refine wSk 61 ?_)
 refine c0h (q := s) rfl rfl Tryz.underlying9 Tryz.underlying22 Tryz.underlying5 rfl (by have := HSs.out; unfold maxLen; omega) 0 (Nat.zero_le _) ?_
 intro caps w8 ho hf hz
 have st8 := st7.keep hf
 replace HV1 := qH (HV1.out.still hf)
 replace HPa := qH (HPa.out.still hf)
 replace HPr := qH (HPr.out.still hf)
 replace HPb := qH (HPb.out.still hf)
 clear hz
 have HPs := qH (b0L ho (by have := HSs.out; omega))
 clear hf st7
 clear ho
 obtain ⟨aaa, nna, cca, hea, kka⟩ := HPa.out
 cases hea
 clear kka
 obtain ⟨aar, nnr, ccr, her, kkr⟩ := HPr.out
 cases her
 clear kkr
 obtain ⟨aab, nnb, ccb, heb, kkb⟩ := HPb.out
 cases heb
 clear kkb
 obtain ⟨aas, nns, ccs, hes, kks⟩ := HPs.out
 cases hes
 clear kks
 go_wp2_with fail
 refine (n0w _ _ _ a.data.toList _ _ _ q.data.toList _ _ _ b.data.toList _ _ _ s.data.toList _ HPa.out HPr.out HPb.out HPs.out).mono ?_
 rintro e' w9 ⟨rfl, hf⟩
 have st9 := st8.keep hf
 replace HV1 := qH (HV1.out.still hf)
 replace HPa := qH (HPa.out.still hf)
 replace HPr := qH (HPr.out.still hf)
 replace HPb := qH (HPb.out.still hf)
 replace HPs := qH (HPs.out.still hf)
 clear hf st8
 clear HPa HPr HPb HPs
 go_wp2_with fail
 refine (l0I a q b s HSa.out HSq.out HSb.out _).mono ?_
 rintro e' w10 ⟨rfl, hf⟩
 have st10 := st9.keep hf
 replace HV1 := qH (HV1.out.still hf)
 clear hf st9
 generalize hb1 : smE k.data.toList q.data.toList = be at *
 generalize hb2 : smS k.data.toList q.data.toList = bz at *
 generalize hb3 : vsB a.data.toList q.data.toList b.data.toList s.data.toList = bq at *
 clear hb1 hb2 hb3
 obtain ⟨a1, n1, c1, rfl, -, hr1⟩ := HV1.out
 have x1 := f0o (P := Tryz.prog) hr1 c1 Tryz.underlying22 Tryz.underlying5 Tryz.underlying9
 clear hr1 HV1
 have hfr := st10.fr
 clear st10
 cases bq <;> (go_wp2_with fail; go_ret; exact ⟨rfl, hfr⟩)
end
end Go.Proofs.YtemcankmggmgoaaGreat
