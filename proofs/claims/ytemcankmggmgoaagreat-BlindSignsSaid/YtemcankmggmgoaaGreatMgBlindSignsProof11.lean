/- ; ; ; ; ; ; ; ; ; ; ; ; ; ; ; ; ; . -/
import Derived.Test.YtemcankmggmgoaaGreatMgBlindSignsProof9
import Derived.RangeFuncNested
import Derived.RangeFuncBound
import Derived.RangeFuncCalls
import Derived.RangeFuncLeaves
import Derived.Deep.DeepCutAuto
import Derived.Test.YtemcankmggmgoaaGreatMgBlindSignsProof7
import Derived.IntWalk
import Derived.Test.YtemcankmggmgoaaGreatMgBlindSignsProof1
import Derived.Test.YtemcankmggmgoaaGreatMgBlindSignsProof10
set_option maxHeartbeats 16000000
set_option maxRecDepth 1000000

namespace Go.Mv
open Go.RowKit
variable {P : Program} {ops : Array Oper} {Q : Exit → Act → World → Prop} {a : Act} {w : World} {rest : List Oper} {o : Oper} {n l : Nat}
end Go.Mv
namespace Go.Mv
open Go.RowKit
theorem Fr.grown {a b : World} (h : Fr Nob a b) : a.grownBy b none := ⟨h.os, h.tape, h.output, h.size, fun k hk _ => h.block k hk id⟩
end Go.Mv
namespace Go.Proofs.YtemcankmggmgoaaGreat
open Go.RowKit Go.Mv Mvp Mvq
attribute [local irreducible] a0E lw mix cw b0t b0C b0r a0O a0r beN b0J b0b b0E a0L a0S elN mdL a0U rtN rtV b0R gXn gYn PT.L m0a l0v f0N tbL tmR tmL dbN i0f h0N j0n dig rdT b0W b0z ptL f0g d0q a0W b0n b0D toB a0x a0F b0o c0a a0I c0n b0e a0C c0m hB hN j0R j0S atY e0Z t0V
end Go.Proofs.YtemcankmggmgoaaGreat
namespace Go.Mv
open Go.RowKit
end Go.Mv
namespace Go.Proofs.YtemcankmggmgoaaGreat
section
open Go.RowKit Go.Mv Mvp Mvq
attribute [local irreducible] a0E lw mix cw b0t b0C b0r a0O a0r beN b0J b0b b0E a0L a0S elN mdL a0U rtN rtV b0R gXn gYn PT.L m0a l0v f0N tbL tmR tmL dbN i0f h0N j0n dig rdT b0W b0z ptL f0g d0q a0W c0m hB hN j0R j0S p0j atY e0Z t0V
end
section
open Go.RowKit Go.Mv Mvp Mvq
def C0W : List UInt8 := [118, 97, 108, 117, 101]
attribute [local irreducible] a0E lw mix cw b0t b0C b0r a0O a0r beN b0J b0b b0E a0L a0S elN mdL a0U rtN rtV b0R gXn gYn PT.L m0a l0v f0N tbL tmR tmL dbN i0f h0N j0n dig rdT b0W b0z ptL f0g d0q a0W c0m hB hN j0R j0S p0j atY e0Z t0V
end
section
open Go.RowKit Go.Mv Mvp Mvq
attribute [local irreducible] p0j
attribute [local irreducible] a0E lw mix cw b0t b0C b0r a0O a0r beN b0J b0b b0E a0L a0S elN mdL a0U rtV b0R a0W b0W b0z a0X d0q n0E j0Q a0R c0m hB hN j0R j0S
end
section
open Go.RowKit Go.Mv Mvp Mvq
attribute [local irreducible] a0E lw mix cw b0t b0C b0r a0O a0r beN b0J b0b b0E a0L a0S elN mdL a0U rtV b0R a0W b0W b0z a0X d0q n0E j0Q a0R c0m hB hN j0R j0S tC tS
end
section
open Go.RowKit Go.Mv Mvp Mvq
noncomputable def aR : (p : Pt) → onC p → RT
 | .A x y, h => C0I x y h
 | .O, _ => noR
noncomputable def B0b (lab l : List UInt8) : RT := aR (p0j lab l).pt (p0j lab l).onP
theorem b0G (x y z : K) : ∀ v ∈ rpL x y z, v.oneCell' = true := by unfold rpL; exact a0Y _ _ _
attribute [local irreducible] a0E lw mix cw b0t b0C b0r a0O a0r beN b0J b0b b0E a0L a0S elN mdL a0U rtV b0R kN kc c0z a0W e0i noR f0O a0M g0f RT.L c0m hB hN j0R j0S p0j atY e0Z t0V rpL mkS
attribute [local irreducible] B0b
noncomputable def hRR : RT := B0b C0W []
end
section
open Go.RowKit Go.Mv Mvp Mvq
attribute [local irreducible] hRR p0j B0b PT.pt n0q
attribute [local irreducible] a0E lw mix cw b0t b0C b0r a0O a0r beN b0J b0b b0E a0L a0S elN mdL a0U rtV b0R kN kc c0z a0W e0i noR f0O a0M g0f RT.L gXn gYn rpL b0W b0z c0m hB hN j0R j0S mkS
end
section
open Go.RowKit Go.Mv Mvp Mvq
theorem C0X (N : Nat) (w : World) : Calls Tryz.prog 123 #[i4 N] w fun e w' => e = .returned (.bool (decide (N % B64 ^ 4 = 0))) ∧ Fr Nob w w' := by
 have h := l0a (N % B64 ^ 4) w (Nat.mod_lt _ ap13)
 unfold i4 at h ⊢
 rwa [cw_mod] at h
attribute [local irreducible] a0E lw mix cw b0t b0C b0r a0O a0r beN b0J b0b b0E a0L a0S elN mdL a0U rtV b0R kN kc c0z a0W e0i noR f0O a0M g0f RT.L c0m hB hN j0R j0S rpL mkS
theorem B0c (s : ByteArray) (hq : a0U mQ s.data.toList = false) (w : World) : Calls Tryz.prog 52 #[.string s] w fun e w' => ∃ N : Nat, e = .returned (.tuple #[i4 N, .bool false]) ∧ (a0U mQ s.data.toList = true → N = beN s.data.toList) ∧ Fr Nob w w' := by
 have HQ := qH hq
 clear hq
 have st0 := St.start Nob w
 go_enter Tryz.func52, Tryz.ntmps52
 go_wp2_with (with_reducible refine wSk 2 ?_)
 refine a0a st0 rfl rfl (z := zAd) ap12 (cw 4 0) ap10 ?_
 intro g2 w1 st1
 clear st0
 go_wp2_with fail
 refine (C0O _).mono ?_
 rintro e' w2 ⟨rfl, hf2⟩
 have st2 := st1.keep hf2
 clear st1 hf2
 go_wp2_with fail
 refine (u0W s _).mono ?_
 rintro e' w3 ⟨N, rfl, hn, hf3⟩
 have st3 := st2.keep hf3
 have HN := qH hn
 clear hn
 clear st2 hf3
 go_wp2_with (with_reducible refine wSk 4 ?_)
 refine a0a st3 rfl rfl (z := zAd) ap12 (cw 4 0) ap10 ?_
 intro g4 w4 st4
 clear st3
 go_wp2_with (with_reducible refine wSn ?_)
 refine a0b st4 1 rfl rfl rfl rfl rfl ap3 ap1 (a0f _ _) ?_
 intro w5 st5
 clear st4
 rw [HQ.out]
 go_wp2_with (with_reducible refine wSk 13 ?_)
 refine a0j st5 1 rfl rfl rfl Tryz.underlying60 rfl ap1 ?_
 go_wp2_with fail
 refine (C0X N _).mono ?_
 rintro e' w6 ⟨rfl, hf6⟩
 have st6 := st5.keep hf6
 clear st5 hf6
 generalize hz : decide (N % B64 ^ 4 = 0) = z at *
 have HZ := qH hz
 clear hz
 go_wp2_with (with_reducible refine wSk 15 ?_)
 refine a0j st6 1 rfl rfl rfl Tryz.underlying60 rfl ap1 ?_
 go_wp2_with (with_reducible refine wSn ?_)
 refine a0b st6 0 rfl rfl rfl rfl rfl ap3 ap1 (a0f _ _) ?_
 intro w7 st7
 clear st6
 have hr := st7.at 0 rfl
 have hfr := st7.fr
 clear st7
 go_wp2_with fail
 exact bodyPost_ret (a0B rfl rfl hr Tryz.underlying60 rfl ap1 rfl) rfl ⟨N, rfl, HN.out, hfr⟩
theorem B0d (s : ByteArray) (hq : a0U mQ s.data.toList = true) (w : World) : Calls Tryz.prog 52 #[.string s] w fun e w' => ∃ N : Nat, e = .returned (.tuple #[i4 N, .bool (!decide (N % B64 ^ 4 = 0))]) ∧ (a0U mQ s.data.toList = true → N = beN s.data.toList) ∧ Fr Nob w w' := by
 have HQ := qH hq
 clear hq
 have st0 := St.start Nob w
 go_enter Tryz.func52, Tryz.ntmps52
 go_wp2_with (with_reducible refine wSk 2 ?_)
 refine a0a st0 rfl rfl (z := zAd) ap12 (cw 4 0) ap10 ?_
 intro g2 w1 st1
 clear st0
 go_wp2_with fail
 refine (C0O _).mono ?_
 rintro e' w2 ⟨rfl, hf2⟩
 have st2 := st1.keep hf2
 clear st1 hf2
 go_wp2_with fail
 refine (u0W s _).mono ?_
 rintro e' w3 ⟨N, rfl, hn, hf3⟩
 have st3 := st2.keep hf3
 have HN := qH hn
 clear hn
 clear st2 hf3
 go_wp2_with (with_reducible refine wSk 4 ?_)
 refine a0a st3 rfl rfl (z := zAd) ap12 (cw 4 0) ap10 ?_
 intro g4 w4 st4
 clear st3
 go_wp2_with (with_reducible refine wSn ?_)
 refine a0b st4 1 rfl rfl rfl rfl rfl ap3 ap1 (a0f _ _) ?_
 intro w5 st5
 clear st4
 rw [HQ.out]
 go_wp2_with (with_reducible refine wSk 13 ?_)
 refine a0j st5 1 rfl rfl rfl Tryz.underlying60 rfl ap1 ?_
 go_wp2_with fail
 refine (C0X N _).mono ?_
 rintro e' w6 ⟨rfl, hf6⟩
 have st6 := st5.keep hf6
 clear st5 hf6
 generalize hz : decide (N % B64 ^ 4 = 0) = z at *
 have HZ := qH hz
 clear hz
 rcases z with _ | _
 ·skip
  go_wp2_with (with_reducible refine wSk 15 ?_)
  refine a0j st6 1 rfl rfl rfl Tryz.underlying60 rfl ap1 ?_
  go_wp2_with (with_reducible refine wSn ?_)
  refine a0b st6 0 rfl rfl rfl rfl rfl ap3 ap1 (a0f _ _) ?_
  intro w7 st7
  clear st6
  have hr := st7.at 0 rfl
  have hfr := st7.fr
  clear st7
  go_wp2_with fail
  exact bodyPost_ret (a0B rfl rfl hr Tryz.underlying60 rfl ap1 rfl) rfl ⟨N, by rw [HZ.out]; rfl, HN.out, hfr⟩
 ·skip
  go_wp2_with (with_reducible refine wSk 15 ?_)
  refine a0j st6 1 rfl rfl rfl Tryz.underlying60 rfl ap1 ?_
  go_wp2_with (with_reducible refine wSn ?_)
  refine a0b st6 0 rfl rfl rfl rfl rfl ap3 ap1 (a0f _ _) ?_
  intro w7 st7
  clear st6
  have hr := st7.at 0 rfl
  have hfr := st7.fr
  clear st7
  go_wp2_with fail
  exact bodyPost_ret (a0B rfl rfl hr Tryz.underlying60 rfl ap1 rfl) rfl ⟨N, by rw [HZ.out]; rfl, HN.out, hfr⟩
theorem B0e (s : ByteArray) (w : World) : Calls Tryz.prog 52 #[.string s] w fun e w' => ∃ N : Nat, e = .returned (.tuple #[i4 N, .bool (a0U mQ s.data.toList && !decide (beN s.data.toList = 0))]) ∧ (a0U mQ s.data.toList = true → N = beN s.data.toList) ∧ Fr Nob w w' := by
 cases hq : a0U mQ s.data.toList with
 | false =>
  refine (B0c s hq w).mono ?_
  rintro e w' ⟨N, rfl, h, hf⟩
  exact ⟨N, rfl, fun h => (by cases h), hf⟩
 | true =>
  refine (B0d s hq w).mono ?_
  rintro e w' ⟨N, rfl, h, hf⟩
  have hN := h hq
  subst hN
  rw [Nat.mod_eq_of_lt (Nat.lt_trans (c0C hq) d0D.lt)]
  exact ⟨_, rfl, fun _ => rfl, hf⟩
end
section
open Go.RowKit Go.Mv Mvp Mvq
theorem B0f : (Tryz.prog.info? 60).map (·.zero) = some (some (.agg (cw 4 0).toArray)) := f0d
theorem s0d (x : Nat) : (Tryz.prog.info? 60).map (·.size) = some (cw 4 x).length := by rw [a0g]; kernel_rfl
theorem RLogAt.notIn {w : World} {g : Nat} {l : List UInt8} (h : RLogAt w g l) {bl : List (Nat × List Value × TypeId)} (hh : ∀ x ∈ bl, Has w x.1 x.2.1 x.2.2) (hT : ∀ x ∈ bl, 197 ≠ x.2.2) : ∀ x ∈ bl, x.1 ≠ g := by
 rintro x hx rfl
 obtain ⟨_, _, h1, _⟩ := h
 obtain ⟨_, _, h2, _⟩ := hh x hx
 rw [h1] at h2
 simp only [Option.some.injEq, Obj.cells.injEq] at h2
 exact hT x hx h2.2.1
theorem mQ0 : 0 < mQ.M := by decide
theorem B0g (x0 x1 x2 x3 x4 : List UInt8) : c0Z x0 x1 x2 x3 x4 = g0b (c0m r0i [c0m r0i [c0m r0i [c0m r0i [c0m r0i [c0m v0P [[115, 97, 109, 101]], [98, 97, 115, 101], x0], [97], x1], [98], x2], [102, 105, 114, 115, 116], x3], [115, 101, 99, 111, 110, 100], x4]) := rfl
theorem v0l : (Tryz.prog.info? 9).map (fun i => (i.zero, i.size, i.bytes)) = some (some (.string ⟨#[]⟩), 1, 16) := by kernel_rfl
theorem x0S (a b : List UInt8) : h0X [a, b] = a.length + (b.length + 0) := rfl
attribute [local irreducible] a0E lw mix cw b0t b0C b0r a0O a0r beN b0J b0b b0E a0L a0S elN mdL a0U rtV b0R a0W b0W b0z a0R b0n b0D toB a0x a0F b0o c0a a0I c0n b0e a0C c0m d0N e0i noR f0O a0M RT.L rdR kN kc d0o c0Z chN g0b r0N b0d rpL
theorem v0m (s : ByteArray) (k : List UInt8) (hk : s.data.toList = k) (gl c : Nat) (ls : List (List UInt8)) (w : World) (hs : s.size + h0X ls ≤ 100000) (hh : Has w gl (ss ls) 9) (hn : ls.length ≤ 1000) :
  Calls Tryz.prog 54 #[.string s, .slice (some ⟨gl, 0, none⟩) ls.length c] w fun e w' => e = .returned (i4 (chN k ls)) ∧ Fr Nob w w' := by
 subst hk
 have HS := qH hs
 have HH := qH (show Rd w (some ⟨gl, 0, none⟩) ls.length (ss ls) by have h := Rd.whole hh; rwa [y0h] at h)
 have HN := qH hn
 clear hs hh hn
 have st0 := St.start Nob w
 go_enter Tryz.func54, Tryz.ntmps54
 go_wp2_with (with_reducible refine wSk 4 ?_)
 refine a0a st0 rfl rfl B0f (cw 4 0) rfl ?_
 intro g4 w2 st2
 clear st0
 go_wp2_with fail
 refine (C0O _).mono ?_
 rintro e' w3 ⟨rfl, hf3⟩
 have st3 := st2.keep hf3
 clear st2 hf3
 go_wp2_with fail
 refine (p0A s (some ⟨gl, 0, none⟩) c ls _ HS.out HN.out (HH.out.still st3.fr)).mono ?_
 rintro e' w4 ⟨rfl, hf4⟩
 have st4 := st3.keep hf4
 have HL := qH (e0d s.data.toList ls)
 clear st3 hf4 HH
 generalize hT : c0m s.data.toList ls = T at *
 have HT := qH hT
 clear hT
 go_wp2_with fail
 refine (i0I (mkS T) 64 _ (by rw [a0u, HL.out]; decide) ap13).mono ?_
 rintro e' w5 ⟨rfl, hf5⟩
 rw [a0K]
 have st5 := st4.keep hf5
 clear st4 hf5
 go_wp2_with fail
 refine (E0g mQ.M T _ mQ0 d0D.lt).mono ?_
 rintro e' w6 ⟨rfl, hf6⟩
 have st6 := st5.keep hf6
 clear st5 hf6
 have HV := qH (show beN (a0I T 31 64) % mQ.M = chN s.data.toList ls by unfold chN; rw [HT.out])
 rw [HV.out]
 go_wp2_with (with_reducible refine wSn ?_)
 refine a0b st6 0 rfl rfl rfl rfl rfl (n0y _ _) (s0d _) (a0f _ _) ?_
 intro wz stz
 clear st6
 have hr := stz.at 0 rfl
 have hfr := stz.fr
 clear stz
 go_wp2_with fail
 exact bodyPost_ret (a0w rfl rfl hr Tryz.underlying60 rfl (s0d _)) rfl ⟨rfl, hfr⟩
theorem B0h (g : Nat) (st : List UInt8) (w : World) (hst : st.length = 32) (hl : RLogAt w g st) :
  Calls Tryz.prog 128 #[.pointer (some ⟨g, 0, none⟩)] w fun e w' => e = .returned (i4 (g0b st)) ∧ Fr (One g) w w' := by
 have HST := qH hst
 have HL := qH hl
 clear hst hl
 have st0 := St.start (One g) w
 go_enter Tryz.func128, Tryz.ntmps128
 go_wp2_with (with_reducible refine wSk 2 ?_)
 refine d0b st0 rfl rfl B0f (cw 4 0) rfl ?_
 intro g4 w2 st2 hf2 hs2
 have HL2 := qH (show RLogAt w2 g st from Has.keep HL.out hf2 id)
 clear st0 hf2 hs2 HL
 go_wp2_with fail
 refine (C0O _).mono ?_
 rintro e' w3 ⟨rfl, hf3⟩
 have st3 := st2.keep hf3
 have HL3 := qH (show RLogAt w3 g st from Has.keep HL2.out hf3 id)
 clear st2 hf3 HL2
 go_wp2_with fail
 refine (v0R g st ⟨#[99, 104, 97, 108, 108, 101, 110, 103, 101]⟩ 64 _ HST.out ap13 ap13 HL3.out).mono ?_
 rintro e' w4 ⟨rfl, hl4, hf4⟩
 have st4 := st3.keep1 hf4 (.inr rfl) (HL3.out.notIn st3.has (by intro x hx; simp only [List.mem_cons, List.not_mem_nil, or_false, List.nil_append] at hx; subst hx; dsimp only; decide))
 clear st3 hf4 HL3 hl4
 have HV := qH (show beN (a0I (c0m s0U [st, (⟨#[99, 104, 97, 108, 108, 101, 110, 103, 101]⟩ : ByteArray).data.toList]) 31 64) % mQ.M = g0b st by unfold g0b r0N; rfl)
 generalize c0m s0U [st, (⟨#[99, 104, 97, 108, 108, 101, 110, 103, 101]⟩ : ByteArray).data.toList] = T at *
 go_wp2_with fail
 refine (E0g mQ.M T _ mQ0 d0D.lt).mono ?_
 rintro e' w6 ⟨rfl, hf6⟩
 have st6 := st4.keep hf6
 clear st4 hf6
 rw [HV.out]
 go_wp2_with (with_reducible refine wSn ?_)
 refine a0b st6 0 rfl rfl rfl rfl rfl (n0y _ _) (s0d _) (a0f _ _) ?_
 intro wz stz
 clear st6
 have hr := stz.at 0 rfl
 have hfr := stz.fr
 clear stz
 go_wp2_with fail
 exact bodyPost_ret (a0w rfl rfl hr Tryz.underlying60 rfl (s0d _)) rfl ⟨rfl, hfr⟩
theorem v0n (s0 : ByteArray) (s1 : ByteArray) (s2 : ByteArray) (s3 : ByteArray) (s4 : ByteArray) (w : World) (h0 : s0.size ≤ 40000) (h1 : s1.size ≤ 40000) (h2 : s2.size ≤ 40000) (h3 : s3.size ≤ 40000) (h4 : s4.size ≤ 40000) :
  Calls Tryz.prog 81 #[.string s0, .string s1, .string s2, .string s3, .string s4] w fun e w' => e = .returned (i4 (c0Z s0.data.toList s1.data.toList s2.data.toList s3.data.toList s4.data.toList)) ∧ Fr Nob w w' := by
 have H0 := qH h0
 have H1 := qH h1
 have H2 := qH h2
 have H3 := qH h3
 have H4 := qH h4
 clear h0 h1 h2 h3 h4
 have st0 := St.start Nob w
 go_enter Tryz.func81, Tryz.ntmps81
 go_wp2_with (with_reducible refine wSk 10 ?_)
 refine a0a st0 rfl rfl B0f (cw 4 0) rfl ?_
 intro g4 w2 st2
 clear st0
 have HSZ := qH st2.fr.size
 go_wp2_with fail
 refine (v0Q ⟨#[115, 97, 109, 101]⟩ _ ap13).mono ?_
 rintro e' w3 ⟨g, rfl, hle, hl, hf3⟩
 have st3 := st2.keep hf3
 have HL := qH hl
 have HG := qH (Nat.le_trans HSZ.out hle)
 clear st2 hf3 hl hle HSZ
 go_wp2_with fail
 refine (g0z g _ ⟨#[98, 97, 115, 101]⟩ s0 _ (e0d _ _) ap13 H0.out HL.out).mono ?_
 rintro e' w4 ⟨rfl, hl4, hf4⟩
 have st4 := st3.keep1 hf4 (.inl HG.out) (HL.out.notIn st3.has (by intro x hx; simp only [List.mem_cons, List.not_mem_nil, or_false, List.nil_append] at hx; subst hx; dsimp only; decide))
 replace HL := qH hl4
 clear st3 hf4 hl4
 go_wp2_with fail
 refine (g0z g _ ⟨#[97]⟩ s1 _ (e0d _ _) ap13 H1.out HL.out).mono ?_
 rintro e' w5 ⟨rfl, hl5, hf5⟩
 have st5 := st4.keep1 hf5 (.inl HG.out) (HL.out.notIn st4.has (by intro x hx; simp only [List.mem_cons, List.not_mem_nil, or_false, List.nil_append] at hx; subst hx; dsimp only; decide))
 replace HL := qH hl5
 clear st4 hf5 hl5
 go_wp2_with fail
 refine (g0z g _ ⟨#[98]⟩ s2 _ (e0d _ _) ap13 H2.out HL.out).mono ?_
 rintro e' w6 ⟨rfl, hl6, hf6⟩
 have st6 := st5.keep1 hf6 (.inl HG.out) (HL.out.notIn st5.has (by intro x hx; simp only [List.mem_cons, List.not_mem_nil, or_false, List.nil_append] at hx; subst hx; dsimp only; decide))
 replace HL := qH hl6
 clear st5 hf6 hl6
 go_wp2_with fail
 refine (g0z g _ ⟨#[102, 105, 114, 115, 116]⟩ s3 _ (e0d _ _) ap13 H3.out HL.out).mono ?_
 rintro e' w7 ⟨rfl, hl7, hf7⟩
 have st7 := st6.keep1 hf7 (.inl HG.out) (HL.out.notIn st6.has (by intro x hx; simp only [List.mem_cons, List.not_mem_nil, or_false, List.nil_append] at hx; subst hx; dsimp only; decide))
 replace HL := qH hl7
 clear st6 hf7 hl7
 go_wp2_with fail
 refine (g0z g _ ⟨#[115, 101, 99, 111, 110, 100]⟩ s4 _ (e0d _ _) ap13 H4.out HL.out).mono ?_
 rintro e' w8 ⟨rfl, hl8, hf8⟩
 have st8 := st7.keep1 hf8 (.inl HG.out) (HL.out.notIn st7.has (by intro x hx; simp only [List.mem_cons, List.not_mem_nil, or_false, List.nil_append] at hx; subst hx; dsimp only; decide))
 replace HL := qH hl8
 clear st7 hf8 hl8
 go_wp2_with fail
 refine (B0h g _ _ (e0d _ _) HL.out).mono ?_
 rintro e' wy ⟨rfl, hfy⟩
 have sty := st8.keep1 hfy (.inl HG.out) (HL.out.notIn st8.has (by intro x hx; simp only [List.mem_cons, List.not_mem_nil, or_false, List.nil_append] at hx; subst hx; dsimp only; decide))
 clear st8 hfy HL HG
 go_wp2_with (with_reducible refine wSn ?_)
 refine a0b sty 0 rfl rfl rfl rfl rfl (n0y _ _) (s0d _) (a0f _ _) ?_
 intro wz stz
 clear sty
 have hr := stz.at 0 rfl
 have hfr := stz.fr
 clear stz
 go_wp2_with fail
 exact bodyPost_ret (a0w rfl rfl hr Tryz.underlying60 rfl (s0d _)) rfl ⟨by rw [B0g]; rfl, hfr⟩
theorem h0y (k : List UInt8) (w : World) : Calls Tryz.prog 52 #[.string (mkS k)] w fun e w' => ∃ N : Nat, e = .returned (.tuple #[i4 N, .bool (a0U mQ k && !decide (beN k = 0))]) ∧ (a0U mQ k = true → N = beN k) ∧ Fr Nob w w' := by
 have h := B0e (mkS k) w
 rwa [a0K] at h
theorem C0Y (p a b r : Nat) (w : World) (hp0 : 0 < p) (hp : p < B64 ^ 4) (ha : a < B64 ^ 4) (hb : b < B64 ^ 4) (hr : (a + b) % p = r) :
  Calls Tryz.prog 57 #[fv p, i4 a, i4 b] w fun e w' => e = .returned (i4 r) ∧ Fr Nob w w' := by
 subst hr; exact o0o p a b w hp0 hp ha hb
end
section
open Go.RowKit Go.Mv Mvp Mvq
def s0e : List UInt8 := List.replicate 31 0 ++ [1]
theorem B0i : (List.replicate 32 (Value.int .u8 0)).set 31 (.int .u8 1) = bs s0e := rfl
theorem l0W : a0U mQ s0e = true ∧ beN s0e = 1 := by decide
attribute [local irreducible] a0E lw mix cw b0t b0C b0r a0O a0r beN b0J b0b b0E a0L a0S elN mdL a0U rtV b0R kN kc c0z a0W e0i noR f0O a0M g0f RT.L c0m hB hN j0R j0S rpL mkS
end
section
open Go.RowKit Go.Mv Mvp Mvq
attribute [local irreducible] a0E lw mix cw b0t b0C b0r a0O a0r beN b0J b0b b0E a0L a0S elN mdL a0U rtV b0R a0W b0W b0z a0R b0n b0D toB a0x a0F b0o c0a a0I c0n b0e a0C c0m d0N e0i noR f0O a0M RT.L rdR kN kc d0o c0Z chN g0b r0N b0d rpL
end
section
open Go.RowKit Go.Mv Mvp Mvq
theorem f0L (s : List UInt8) (w : World) : Calls Tryz.prog 72 #[.string (mkS s)] w fun e w' => ∃ N : Nat, e = .returned (.tuple #[i4 N, .bool (a0U mQ s)]) ∧ (a0U mQ s = true → N = beN s) ∧ Fr Nob w w' := by
 have h := u0Y (mkS s) w
 rwa [a0K] at h
theorem x0T {l : List UInt8} (h : b0W l = true) : b0d l = !decide ((rdR l).z = 0) := by
 have h2 := j0A h
 have h3 : (rdR l).pt = nm (rdR l).x (rdR l).y (rdR l).z := rfl
 unfold b0d
 rw [h, Bool.true_and]
 by_cases hz : (rdR l).z = 0
 ·rw [h3, A0g hz] at h2
  have h4 : l.getD 0 0 = 0 := by
   unfold b0z at h2
   by_cases h5 : l.getD 0 0 = 0
   ·exact h5
   ·rw [if_neg h5] at h2; cases h2
  rw [decide_eq_true hz, decide_eq_true h4]
 ·rw [h3, t0N hz] at h2
  have h4 : ¬ l.getD 0 0 = 0 := by
   intro h5
   unfold b0z at h2
   rw [if_pos h5] at h2
   cases h2
  rw [decide_eq_false hz, decide_eq_false h4]
theorem C0Z (l : List UInt8) : (rdR l).L = rpL (rdR l).x (rdR l).y (rdR l).z := rfl
theorem y0S (s : List UInt8) (k : Nat) (_hk : k ≤ s.length) : (mkS s).extract 0 k = mkS (s.take k) := by
 apply ByteArray.ext
 apply Array.toList_inj.1
 simp [mkS]
theorem y0T (s : List UInt8) (k : Nat) : (mkS s).extract k (mkS s).size = mkS (s.drop k) := by
 apply ByteArray.ext
 apply Array.toList_inj.1
 rw [a0u]
 simp [mkS, List.take_of_length_le]
attribute [local irreducible] a0E lw mix cw b0t b0C b0r a0O a0r beN b0J b0b b0E a0L a0S elN mdL a0U rtV b0R a0W b0W b0z a0R b0n b0D toB a0x a0F b0o c0a a0I c0n b0e a0C c0m d0N e0i noR f0O a0M RT.L rdR kN kc d0o c0Z chN g0b r0N b0d rpL f0f
theorem B0j (s : List UInt8) (h : b0W s = false) (w : World) : Calls Tryz.prog 65 #[.string (mkS s)] w fun e w' => (∃ X Y Z : K, e = .returned (.tuple #[rpV X Y Z, .bool false])) ∧ Fr Nob w w' := by
 have H := qH h
 clear h
 have st0 := St.start Nob w
 go_enter Tryz.func65, Tryz.ntmps65
 go_wp2_with (with_reducible refine wSk 2 ?_)
 refine a0a st0 rfl rfl (z := zAc) ap12 (cw 12 0) ap10 ?_
 intro g2 w1 st1
 clear st0
 go_wp2_with fail
 refine (x0D s H.out _).mono ?_
 rintro e' w2 ⟨X, Y, Z, rfl, hf2⟩
 have st2 := st1.keep hf2
 clear st1 hf2
 go_wp2_with (with_reducible refine wSk 4 ?_)
 refine a0a st2 rfl rfl (z := zAc) ap12 (cw 12 0) ap10 ?_
 intro g4 w3 st3
 clear st2
 go_wp2_with (with_reducible refine wSn ?_)
 refine a0b st3 1 rfl rfl rfl rfl rfl ap3 ap1 (b0G _ _ _) ?_
 intro w4 st4
 clear st3
 go_wp2_with (with_reducible refine wSk 12 ?_)
 refine a0n st4 1 rfl rfl rfl Tryz.underlying62 rfl rfl ap1 ?_
 go_wp2_with fail
 refine (d0g X Y Z _ rfl _).mono ?_
 rintro e' w5 ⟨rfl, hf5⟩
 have st5 := st4.keep hf5
 clear st4 hf5
 generalize decide (Z = 0) = b
 go_wp2_with (with_reducible refine wSk 14 ?_)
 refine a0n st5 1 rfl rfl rfl Tryz.underlying62 rfl rfl ap1 ?_
 go_wp2_with (with_reducible refine wSn ?_)
 refine a0b st5 0 rfl rfl rfl rfl rfl ap3 ap1 (b0G _ _ _) ?_
 intro w6 st6
 clear st5
 have hr := st6.at 0 rfl
 have hfr := st6.fr
 clear st6
 go_wp2_with fail
 exact bodyPost_ret (a0B rfl rfl hr Tryz.underlying62 rfl ap1 rfl) rfl ⟨⟨X, Y, Z, rfl⟩, hfr⟩
theorem B0k (s : List UInt8) (h : b0W s = true) (w : World) : Calls Tryz.prog 65 #[.string (mkS s)] w fun e w' => e = .returned (.tuple #[rpV (rdR s).x (rdR s).y (rdR s).z, .bool (!decide ((rdR s).z = 0))]) ∧ Fr Nob w w' := by
 have H := qH h
 clear h
 have st0 := St.start Nob w
 go_enter Tryz.func65, Tryz.ntmps65
 go_wp2_with (with_reducible refine wSk 2 ?_)
 refine a0a st0 rfl rfl (z := zAc) ap12 (cw 12 0) ap10 ?_
 intro g2 w1 st1
 clear st0
 go_wp2_with fail
 refine (x0C s H.out _).mono ?_
 rintro e' w2 ⟨rfl, hf2⟩
 have st2 := st1.keep hf2
 clear st1 hf2
 go_wp2_with (with_reducible refine wSk 4 ?_)
 refine a0a st2 rfl rfl (z := zAc) ap12 (cw 12 0) ap10 ?_
 intro g4 w3 st3
 clear st2
 go_wp2_with (with_reducible refine wSn ?_)
 refine a0b st3 1 rfl rfl rfl rfl rfl ap3 ap1 (RT.one _) ?_
 intro w4 st4
 clear st3
 rw [C0Z] at st4
 generalize hb : decide ((rdR s).z = 0) = b
 have HB := qH hb
 clear hb
 go_wp2_with (with_reducible refine wSk 12 ?_)
 refine a0n st4 1 rfl rfl rfl Tryz.underlying62 rfl rfl ap1 ?_
 go_wp2_with fail
 refine (d0g (rdR s).x (rdR s).y (rdR s).z b HB.out _).mono ?_
 rintro e' w5 ⟨rfl, hf5⟩
 have st5 := st4.keep hf5
 clear st4 hf5
 rcases b with _ | _
 ·skip
  go_wp2_with (with_reducible refine wSk 14 ?_)
  refine a0n st5 1 rfl rfl rfl Tryz.underlying62 rfl rfl ap1 ?_
  go_wp2_with (with_reducible refine wSn ?_)
  refine a0b st5 0 rfl rfl rfl rfl rfl ap3 ap1 (b0G _ _ _) ?_
  intro w6 st6
  clear st5
  have hr := st6.at 0 rfl
  have hfr := st6.fr
  clear st6
  go_wp2_with fail
  exact bodyPost_ret (a0B rfl rfl hr Tryz.underlying62 rfl ap1 rfl) rfl ⟨by rw [HB.out]; rfl, hfr⟩
 ·skip
  go_wp2_with (with_reducible refine wSk 14 ?_)
  refine a0n st5 1 rfl rfl rfl Tryz.underlying62 rfl rfl ap1 ?_
  go_wp2_with (with_reducible refine wSn ?_)
  refine a0b st5 0 rfl rfl rfl rfl rfl ap3 ap1 (b0G _ _ _) ?_
  intro w6 st6
  clear st5
  have hr := st6.at 0 rfl
  have hfr := st6.fr
  clear st6
  go_wp2_with fail
  exact bodyPost_ret (a0B rfl rfl hr Tryz.underlying62 rfl ap1 rfl) rfl ⟨by rw [HB.out]; rfl, hfr⟩
theorem c0x (s : List UInt8) (w : World) : Calls Tryz.prog 65 #[.string (mkS s)] w fun e w' => ∃ X Y Z : K, e = .returned (.tuple #[rpV X Y Z, .bool (b0d s)]) ∧ (b0W s = true → rpL X Y Z = (rdR s).L) ∧ Fr Nob w w' := by
 cases h : b0W s with
 | false =>
  refine (B0j s h w).mono ?_
  rintro e w' ⟨⟨X, Y, Z, rfl⟩, hf⟩
  exact ⟨X, Y, Z, by rw [v0a h], fun h => (by cases h), hf⟩
 | true =>
  refine (B0k s h w).mono ?_
  rintro e w' ⟨rfl, hf⟩
  exact ⟨_, _, _, by rw [x0T h], fun _ => (C0Z s).symm, hf⟩
end
section
open Go.RowKit Go.Mv Mvp Mvq
attribute [local irreducible] a0E lw mix cw b0t b0C b0r a0O a0r beN b0J b0b b0E a0L a0S elN mdL a0U rtV b0R a0W b0W b0z a0R b0n b0D toB a0x a0F b0o c0a a0I c0n b0e a0C c0m d0N e0i noR f0O a0M RT.L rdR kN kc d0o c0Z chN g0b r0N b0d rpL f0f smC vsG vsB c0W a0X b0x
theorem D0O (key point : List UInt8) (_hk : key.length ≤ 4096) (_ht : point.length ≤ 4096) (hb : d0o key = false) (w : World) : Calls Tryz.prog 24 #[.string (mkS key), .string (mkS point)] w fun e w' => e = .returned (.tuple #[.string ⟨#[]⟩, .int .i64 3]) ∧ Fr Nob w w' := by
 have HB := qH (show (a0U mQ key && !decide (beN key = 0)) = false by unfold d0o at hb; exact hb)
 clear hb _hk _ht
 have st0 := St.start Nob w
 go_enter Tryz.func24, Tryz.ntmps24
 go_wp2_with fail
 refine (h0y key _).mono ?_
 rintro e' w1 ⟨N, rfl, hn, hf1⟩
 have st1 := st0.keep hf1
 have HN := qH hn
 clear hn
 clear st0 hf1
 go_wp2_with (with_reducible refine wSk 6 ?_)
 refine a0a st1 rfl rfl (z := zAd) ap12 (cw 4 0) ap10 ?_
 intro g6 w2 st2
 clear st1
 go_wp2_with (with_reducible refine wSn ?_)
 refine a0b st2 0 rfl rfl rfl rfl rfl ap3 ap1 (a0f _ _) ?_
 intro w3 st3
 clear st2
 rw [show (a0U mQ key && !decide (beN key = 0)) = false from HB.out]
 have hfr := st3.fr
 clear st3
 go_wp2_with fail
 go_ret2
 exact ⟨rfl, hfr⟩
theorem D0P (key point : List UInt8) (_hk : key.length ≤ 4096) (_ht : point.length ≤ 4096) (hb : d0o key = true) (hr : b0d point = false) (w : World) : Calls Tryz.prog 24 #[.string (mkS key), .string (mkS point)] w fun e w' => e = .returned (.tuple #[.string ⟨#[]⟩, .int .i64 4]) ∧ Fr Nob w w' := by
 have HB := qH (show (a0U mQ key && !decide (beN key = 0)) = true by unfold d0o at hb; exact hb)
 have HQ := qH (show a0U mQ key = true by have h := HB.out; rw [Bool.and_eq_true] at h; exact h.1)
 have HR := qH hr
 clear hb _hk _ht hr
 have st0 := St.start Nob w
 go_enter Tryz.func24, Tryz.ntmps24
 go_wp2_with fail
 refine (h0y key _).mono ?_
 rintro e' w1 ⟨N, rfl, hn, hf1⟩
 have st1 := st0.keep hf1
 have HN := qH hn
 clear hn
 clear st0 hf1
 go_wp2_with (with_reducible refine wSk 6 ?_)
 refine a0a st1 rfl rfl (z := zAd) ap12 (cw 4 0) ap10 ?_
 intro g6 w2 st2
 clear st1
 go_wp2_with (with_reducible refine wSn ?_)
 refine a0b st2 0 rfl rfl rfl rfl rfl ap3 ap1 (a0f _ _) ?_
 intro w3 st3
 clear st2
 rw [show (a0U mQ key && !decide (beN key = 0)) = true from HB.out]
 rw [HN.out HQ.out] at st3
 clear HN HB
 go_wp2_with fail
 refine (c0x point _).mono ?_
 rintro e' w4 ⟨X, Y, Z, rfl, hx, hf4⟩
 have st4 := st3.keep hf4
 have HX := qH hx
 clear hx
 clear st3 hf4
 go_wp2_with (with_reducible refine wSk 8 ?_)
 refine a0a st4 rfl rfl (z := zAc) ap12 (cw 12 0) ap10 ?_
 intro g8 w5 st5
 clear st4
 go_wp2_with (with_reducible refine wSn ?_)
 refine a0b st5 1 rfl rfl rfl rfl rfl ap3 ap1 (b0G _ _ _) ?_
 intro w6 st6
 clear st5
 rw [HR.out]
 have hfr := st6.fr
 clear st6
 go_wp2_with fail
 go_ret2
 exact ⟨rfl, hfr⟩
theorem D0a (key point : List UInt8) (hk : key.length ≤ 4096) (ht : point.length ≤ 4096) (hb : d0o key = true) (hr : b0d point = true) (w : World) : Calls Tryz.prog 24 #[.string (mkS key), .string (mkS point)] w fun e w' => e = .returned (.tuple #[.string (mkS (b0b (smC key point) ++ b0b (((chN a0o [key, point]) + smC key point * beN key) % mQ.M))), .int .i64 0]) ∧ Fr Nob w w' := by
 have HB := qH (show (a0U mQ key && !decide (beN key = 0)) = true by unfold d0o at hb; exact hb)
 have HQ := qH (show a0U mQ key = true by have h := HB.out; rw [Bool.and_eq_true] at h; exact h.1)
 have HR := qH hr
 have HK := qH hk
 have HT := qH ht
 have e1 : (a0M (beN key) f0c).pt = a0R (beN key) gP := by rw [c0V _ (Nat.lt_trans (c0C HQ.out) d0D.lt), l0Q]; rfl
 have e2 : (a0M (beN key) (rdR point)).pt = a0R (beN key) (b0z point) := by rw [c0V _ (Nat.lt_trans (c0C HQ.out) d0D.lt), j0A (c0i hr)]
 have e3 : (a0M (chN a0o [key, point]) f0c).pt = a0R (chN a0o [key, point]) gP := by rw [c0V _ (Nat.lt_trans (u0u _ _) d0D.lt), l0Q]; rfl
 have e4 : (a0M (chN a0o [key, point]) (rdR point)).pt = a0R (chN a0o [key, point]) (b0z point) := by rw [c0V _ (Nat.lt_trans (u0u _ _) d0D.lt), j0A (c0i hr)]
 obtain ⟨C, hC⟩ : ∃ C, smC key point = C := ⟨_, rfl⟩
 have HCS := qH hC
 have HC := qH (show c0Z point (a0W (a0M (beN key) f0c).pt) (a0W (a0M (beN key) (rdR point)).pt) (a0W (a0M (chN a0o [key, point]) f0c).pt) (a0W (a0M (chN a0o [key, point]) (rdR point)).pt) = C by rw [e1, e2, e3, e4, ← hC]; unfold smC; rfl)
 have hCl : C < mQ.M := by rw [← HC.out]; exact h0g _ _ _ _ _
 have HLC := qH (Nat.lt_trans hCl d0D.lt)
 have HLX := qH (show beN key < B64 ^ 4 from Nat.lt_trans (c0C HQ.out) d0D.lt)
 have HLK := qH (show (chN a0o [key, point]) < B64 ^ 4 from Nat.lt_trans (u0u _ _) d0D.lt)
 obtain ⟨r1, h1⟩ : ∃ r, C * beN key % mQ.M = r := ⟨_, rfl⟩
 obtain ⟨r2, h2⟩ : ∃ r, ((chN a0o [key, point]) + r1) % mQ.M = r := ⟨_, rfl⟩
 have HR1 := qH h1
 have HR2 := qH h2
 have HL1 := qH (show r1 < B64 ^ 4 by rw [← h1]; exact Nat.lt_trans (Nat.mod_lt _ mQ0) d0D.lt)
 have HZ := qH (show r2 = ((chN a0o [key, point]) + smC key point * beN key) % mQ.M by rw [← h2, ← h1, hC, Nat.add_mod_mod])
 clear hb hk ht hr hC h1 h2 hCl e1 e2 e3 e4
 have st0 := St.start Nob w
 go_enter Tryz.func24, Tryz.ntmps24
 go_wp2_with fail
 refine (h0y key _).mono ?_
 rintro e' w1 ⟨N, rfl, hn, hf1⟩
 have st1 := st0.keep hf1
 have HN := qH hn
 clear hn
 clear st0 hf1
 go_wp2_with (with_reducible refine wSk 6 ?_)
 refine a0a st1 rfl rfl (z := zAd) ap12 (cw 4 0) ap10 ?_
 intro g6 w2 st2
 clear st1
 go_wp2_with (with_reducible refine wSn ?_)
 refine a0b st2 0 rfl rfl rfl rfl rfl ap3 ap1 (a0f _ _) ?_
 intro w3 st3
 clear st2
 rw [show (a0U mQ key && !decide (beN key = 0)) = true from HB.out]
 rw [HN.out HQ.out] at st3
 clear HN HB
 go_wp2_with fail
 refine (c0x point _).mono ?_
 rintro e' w4 ⟨X, Y, Z, rfl, hx, hf4⟩
 have st4 := st3.keep hf4
 have HX := qH hx
 clear hx
 clear st3 hf4
 go_wp2_with (with_reducible refine wSk 8 ?_)
 refine a0a st4 rfl rfl (z := zAc) ap12 (cw 12 0) ap10 ?_
 intro g8 w5 st5
 clear st4
 go_wp2_with (with_reducible refine wSn ?_)
 refine a0b st5 1 rfl rfl rfl rfl rfl ap3 ap1 (b0G _ _ _) ?_
 intro w6 st6
 clear st5
 rw [HR.out]
 rw [HX.out (c0i HR.out)] at st6
 clear HX
 go_wp2_with fail
 refine (C0O _).mono ?_
 rintro e' w7 ⟨rfl, hf7⟩
 have st7 := st6.keep hf7
 clear st6 hf7
 go_wp2_with (with_reducible refine wSk 9 ?_)
 refine a0a st7 rfl rfl (z := .agg #[.int .u64 0, .int .u64 0, .int .u64 0, .int .u64 0, .int .u64 0, .int .u64 0, .int .u64 0, .int .u64 0]) ap12 (cw 8 0) ap10 ?_
 intro g9 w8 st8
 clear st7
 go_wp2_with (with_reducible refine wSn ?_)
 refine a0b st8 2 rfl rfl rfl rfl rfl ap3 ap1 (i0V _ _ _ _) ?_
 intro w9 st9
 clear st8
 go_wp2_with (with_reducible refine wSk 30 ?_)
 refine b0P rfl rfl Tryz.underlying40 v0l (ss [key, point]) rfl (by simp [ss]; exact ⟨rfl, rfl⟩) rfl rfl ?_
 intro w10 hh10 hf10 hz10
 have st10 := st9.keep hf10
 have HSL := qH hh10
 clear hh10 hf10 hz10 st9
 go_wp2_with fail
 refine (v0m ⟨#[110, 111, 110, 99, 101, 32, 115, 97, 109, 101]⟩ a0o rfl _ 2 [key, point] _ (by rw [x0S]; have h1 := HK.out; have h2 := HT.out; have h3 : (⟨#[110, 111, 110, 99, 101, 32, 115, 97, 109, 101]⟩ : ByteArray).size = 10 := rfl; omega) HSL.out ap15).mono ?_
 rintro e' w11 ⟨rfl, hf11⟩
 have st11 := st10.keep hf11
 clear st10 hf11
 clear HSL
 go_wp2_with (with_reducible refine wSk 10 ?_)
 refine a0a st11 rfl rfl (z := zAd) ap12 (cw 4 0) ap10 ?_
 intro g10 w12 st12
 clear st11
 go_wp2_with (with_reducible refine wSn ?_)
 refine a0b st12 3 rfl rfl rfl rfl rfl ap3 ap1 (a0f _ _) ?_
 intro w13 st13
 clear st12
 go_wp2_with fail
 refine wp_region_noPanic ?_
 refine a0e st13 17 [.o 16, .w 0, .t 1, .t 4, .t 5, .t 8, .t 11, .t 12, .c 2, .c 3, .c 6, .c 7, .c 9, .c 10, .c 13, .c 14, .c 15, .j 16] (.m 17 .nil) ap12 ap12 (fun _ _ _ _ _ h => h) ?_
 clear st13
 refine b0j rfl rfl rfl f0d (cw 4 0) rfl ?_
 try simp only [clL]
 refine a0m rfl rfl apX ?_
 try simp only [clL]
 refine a0d rfl rfl rfl (fun _ => rfl) (cw 4 (beN key)) (fun wx hS => St.rangeL hS 0 rfl 0 _ dZl) Tryz.underlying60 rfl ap1 ?_
 try simp only [clL]
 refine a0d rfl rfl rfl (fun _ => rfl) (cw 4 (beN key)) (fun wx hS => St.rangeL hS 0 rfl 0 _ dZl) Tryz.underlying60 rfl ap1 ?_
 try simp only [clL]
 refine a0d rfl rfl rfl (fun _ => rfl) ((rdR point).L) (fun wx hS => St.rangeL hS 1 rfl 0 _ dZl) Tryz.underlying62 rfl ap1 ?_
 try simp only [clL]
 refine a0d rfl rfl rfl (fun _ => rfl) (cw 4 (chN a0o [key, point])) (fun wx hS => St.rangeL hS 3 rfl 0 _ dZl) Tryz.underlying60 rfl ap1 ?_
 try simp only [clL]
 refine a0d rfl rfl rfl (fun _ => rfl) (cw 4 (chN a0o [key, point])) (fun wx hS => St.rangeL hS 3 rfl 0 _ dZl) Tryz.underlying60 rfl ap1 ?_
 try simp only [clL]
 refine a0d rfl rfl rfl (fun _ => rfl) ((rdR point).L) (fun wx hS => St.rangeL hS 1 rfl 0 _ dZl) Tryz.underlying62 rfl ap1 ?_
 try simp only [clL]
 refine a0c rfl rfl rfl Tryz.call55 (fun w hS hR => l0S (beN key) _) (fun _ => rfl) ?_
 try simp only [clL]
 refine a0c rfl rfl rfl Tryz.call45 (fun w hS hR => d0h (a0M (beN key) f0c) _) (fun _ => rfl) ?_
 try simp only [clL]
 refine a0c rfl rfl rfl Tryz.call69 (fun w hS hR => f0b (beN key) (rdR point) _) (fun _ => rfl) ?_
 try simp only [clL]
 refine a0c rfl rfl rfl Tryz.call45 (fun w hS hR => d0h (a0M (beN key) (rdR point)) _) (fun _ => rfl) ?_
 try simp only [clL]
 refine a0c rfl rfl rfl Tryz.call55 (fun w hS hR => l0S (chN a0o [key, point]) _) (fun _ => rfl) ?_
 try simp only [clL]
 refine a0c rfl rfl rfl Tryz.call45 (fun w hS hR => d0h (a0M (chN a0o [key, point]) f0c) _) (fun _ => rfl) ?_
 try simp only [clL]
 refine a0c rfl rfl rfl Tryz.call69 (fun w hS hR => f0b (chN a0o [key, point]) (rdR point) _) (fun _ => rfl) ?_
 try simp only [clL]
 refine a0c rfl rfl rfl Tryz.call45 (fun w hS hR => d0h (a0M (chN a0o [key, point]) (rdR point)) _) (fun _ => rfl) ?_
 try simp only [clL]
 refine a0c rfl rfl rfl Tryz.call81 (fun w hS hR => (v0n (mkS point) (mkS (a0W (a0M (beN key) f0c).pt)) (mkS (a0W (a0M (beN key) (rdR point)).pt)) (mkS (a0W (a0M (chN a0o [key, point]) f0c).pt)) (mkS (a0W (a0M (chN a0o [key, point]) (rdR point)).pt)) _ (by rw [a0u]; have := HT.out; omega) (by rw [a0u, b0F]; decide) (by rw [a0u, b0F]; decide) (by rw [a0u, b0F]; decide) (by rw [a0u, b0F]; decide)).mono fun e w' h => (show e = .returned (i4 C) ∧ Fr Nob _ w' by rw [a0K, a0K, a0K, a0K, a0K, HC.out] at h; exact h)) (fun _ => rfl) ?_
 try simp only [clL]
 refine b0c List.mem_cons_self fun g11 => ?_
 simp only [upd, reduceIte]
 try simp only [Nat.reduceEqDiff, reduceIte]
 refine a0t fun xq w14 st14 hR => ?_
 try dsimp only
 clear hR xq
 refine a0q rfl rfl ?_
 refine a0h st14 4 rfl rfl rfl rfl ap3 ap1 (a0f _ _) ?_
 intro w15 st15
 repeat (first | simp only [List.cons_append] at st15 | simp only [List.nil_append] at st15 | simp only [List.set_cons_succ] at st15 | simp only [List.set_cons_zero] at st15)
 clear st14
 try simp only [Act.put]
 refine a0i ?_
 refine NoPanic.normal ?_
 go_wp2_with fail
 refine wp_region_noPanic ?_
 refine a0e st15 8 [.o 7, .t 0, .t 1, .t 2, .t 3, .t 4, .c 5, .c 6, .j 7] (.m 8 .nil) ap12 ap12 (fun _ _ _ _ _ h => h) ?_
 clear st15
 refine b0j rfl rfl rfl f0d (cw 4 0) rfl ?_
 try simp only [clL]
 refine a0d rfl rfl rfl (fun _ => rfl) (cw 4 mQ.M ++ cw 4 (B64 ^ 4 - mQ.M)) (fun wx hS => St.rangeL hS 2 rfl 0 _ dZl) Tryz.underlying78 rfl ap1 ?_
 try simp only [clL]
 refine a0d rfl rfl rfl (fun _ => rfl) (cw 4 (chN a0o [key, point])) (fun wx hS => St.rangeL hS 3 rfl 0 _ dZl) Tryz.underlying60 rfl ap1 ?_
 try simp only [clL]
 refine a0d rfl rfl rfl (fun _ => rfl) (cw 4 mQ.M ++ cw 4 (B64 ^ 4 - mQ.M)) (fun wx hS => St.rangeL hS 2 rfl 0 _ dZl) Tryz.underlying78 rfl ap1 ?_
 try simp only [clL]
 refine a0d rfl rfl rfl (fun _ => rfl) (cw 4 C) (fun wx hS => St.rangeL hS 4 rfl 0 _ dZl) Tryz.underlying60 rfl ap1 ?_
 try simp only [clL]
 refine a0d rfl rfl rfl (fun _ => rfl) (cw 4 (beN key)) (fun wx hS => St.rangeL hS 0 rfl 0 _ dZl) Tryz.underlying60 rfl ap1 ?_
 try simp only [clL]
 refine a0c rfl rfl rfl Tryz.call58 (fun w hS hR => D0I mQ.M C (beN key) r1 _ mQ0 d0D.lt HLC.out HLX.out HR1.out) (fun _ => rfl) ?_
 try simp only [clL]
 refine a0c rfl rfl rfl Tryz.call57 (fun w hS hR => C0Y mQ.M (chN a0o [key, point]) r1 r2 _ mQ0 d0D.lt HLK.out HL1.out HR2.out) (fun _ => rfl) ?_
 try simp only [clL]
 refine b0c List.mem_cons_self fun g12 => ?_
 simp only [upd, reduceIte]
 try simp only [Nat.reduceEqDiff, reduceIte]
 refine a0t fun xq w16 st16 hR => ?_
 try dsimp only
 clear hR xq
 refine a0q rfl rfl ?_
 refine a0h st16 5 rfl rfl rfl rfl ap3 ap1 (a0f _ _) ?_
 intro w17 st17
 repeat (first | simp only [List.cons_append] at st17 | simp only [List.nil_append] at st17 | simp only [List.set_cons_succ] at st17 | simp only [List.set_cons_zero] at st17)
 clear st16
 try simp only [Act.put]
 refine a0i ?_
 refine NoPanic.normal ?_
 go_wp2_with fail
 refine wp_region_noPanic ?_
 refine a0e st17 6 [.t 0, .t 2, .c 1, .c 3, .w 4, .w 5] (.m 6 .nil) ap12 ap12 (fun _ _ _ _ _ h => h) ?_
 clear st17
 refine a0d rfl rfl rfl (fun _ => rfl) (cw 4 C) (fun wx hS => St.rangeL hS 4 rfl 0 _ dZl) Tryz.underlying60 rfl ap1 ?_
 try simp only [clL]
 refine a0d rfl rfl rfl (fun _ => rfl) (cw 4 r2) (fun wx hS => St.rangeL hS 5 rfl 0 _ dZl) Tryz.underlying60 rfl ap1 ?_
 try simp only [clL]
 refine a0c rfl rfl rfl Tryz.call59 (fun w hS hR => e0B C _) (fun _ => rfl) ?_
 try simp only [clL]
 refine a0c rfl rfl rfl Tryz.call59 (fun w hS hR => e0B r2 _) (fun _ => rfl) ?_
 try simp only [clL]
 refine a0m rfl rfl (fun _ _ => h0e rfl rfl rfl Tryz.underlying9 (by rw [a0u, a0u, a0Q, a0Q]; decide) (f0A _ _) _) ?_
 try simp only [clL]
 refine a0m rfl rfl apX ?_
 try simp only [clL]
 refine a0t fun xq w18 st18 hR => ?_
 try dsimp only
 clear hR xq
 refine a0q rfl rfl ?_
 go_simp
 try simp only [clL]
 refine a0i ?_
 refine NoPanic.normal ?_
 have hfr := st18.fr
 clear st18
 go_wp2_with fail
 go_ret2
 exact ⟨by rw [← HCS.out, ← HZ.out]; rfl, hfr⟩
theorem n0M (key point : List UInt8) (hk : key.length ≤ 4096) (ht : point.length ≤ 4096) (w : World) : Calls Tryz.prog 24 #[.string (mkS key), .string (mkS point)] w fun e w' => e = .returned (.tuple #[.string (mkS (smS key point)), .int .i64 (smE key point)]) ∧ Fr Nob w w' := by
 cases h : d0o key with
 | false => rw [(A0Y (p := point) h).1, (A0Y (p := point) h).2]; exact D0O key point hk ht h w
 | true =>
  cases h2 : b0d point with
  | false => rw [(A0X h h2).1, (A0X h h2).2]; exact D0P key point hk ht h h2 w
  | true => rw [(p0m h h2).1, (p0m h h2).2]; exact D0a key point hk ht h h2 w
theorem D0Q (a p b s : List UInt8) (_h1 : a.length ≤ 4096) (_h2 : p.length ≤ 4096) (_h3 : b.length ≤ 4096) (hr : b0x [a, p, b] = false) (w : World) : Calls Tryz.prog 26 #[.string (mkS a), .string (mkS p), .string (mkS b), .string (mkS s)] w fun e w' => e = .returned (.bool false) ∧ Fr Nob w w' := by
 have HR := qH (show (b0d a && (b0d p && b0d b)) = false by unfold b0x at hr; simpa using hr)
 clear hr
 have st0 := St.start Nob w
 go_enter Tryz.func26, Tryz.ntmps26
 go_wp2_with fail
 refine (c0x a _).mono ?_
 rintro e' w1 ⟨X1, Y1, Z1, rfl, hx, hf1⟩
 have st1 := st0.keep hf1
 have HX1 := qH hx
 clear hx
 clear st0 hf1
 go_wp2_with (with_reducible refine wSk 9 ?_)
 refine a0a st1 rfl rfl (z := zAc) ap12 (cw 12 0) ap10 ?_
 intro g9 w2 st2
 clear st1
 go_wp2_with (with_reducible refine wSn ?_)
 refine a0b st2 0 rfl rfl rfl rfl rfl ap3 ap1 (b0G _ _ _) ?_
 intro w3 st3
 clear st2
 go_wp2_with fail
 refine (c0x p _).mono ?_
 rintro e' w4 ⟨X2, Y2, Z2, rfl, hx, hf4⟩
 have st4 := st3.keep hf4
 have HX2 := qH hx
 clear hx
 clear st3 hf4
 go_wp2_with (with_reducible refine wSk 11 ?_)
 refine a0a st4 rfl rfl (z := zAc) ap12 (cw 12 0) ap10 ?_
 intro g11 w5 st5
 clear st4
 go_wp2_with (with_reducible refine wSn ?_)
 refine a0b st5 1 rfl rfl rfl rfl rfl ap3 ap1 (b0G _ _ _) ?_
 intro w6 st6
 clear st5
 go_wp2_with fail
 refine (c0x b _).mono ?_
 rintro e' w7 ⟨X3, Y3, Z3, rfl, hx, hf7⟩
 have st7 := st6.keep hf7
 have HX3 := qH hx
 clear hx
 clear st6 hf7
 go_wp2_with (with_reducible refine wSk 13 ?_)
 refine a0a st7 rfl rfl (z := zAc) ap12 (cw 12 0) ap10 ?_
 intro g13 w8 st8
 clear st7
 go_wp2_with (with_reducible refine wSn ?_)
 refine a0b st8 2 rfl rfl rfl rfl rfl ap3 ap1 (b0G _ _ _) ?_
 intro w9 st9
 clear st8
 generalize hb : b0d a = b1 at *
 have HB1 := qH hb
 clear hb
 generalize hb : b0d p = b2 at *
 have HB2 := qH hb
 clear hb
 generalize hb : b0d b = b3 at *
 have HB3 := qH hb
 clear hb
 have hf3 : (b1 && (b2 && b3)) = false := HR.out
 have hfr := st9.fr
 clear st9 HX1 HX2 HX3 HB1 HB2 HB3 HR
 rcases b1 with _ | _
 ·go_wp2_with fail
  go_ret
  exact ⟨rfl, hfr⟩
 rcases b2 with _ | _
 ·go_wp2_with fail
  go_ret
  exact ⟨rfl, hfr⟩
 rcases b3 with _ | _
 ·clear hf3
  go_wp2_with fail
  go_ret
  exact ⟨rfl, hfr⟩
 exact absurd hf3 ap13
theorem D0R (a p b s : List UInt8) (_h1 : a.length ≤ 4096) (_h2 : p.length ≤ 4096) (_h3 : b.length ≤ 4096) (hr : b0x [a, p, b] = true) (hl : s.length ≠ 64) (w : World) : Calls Tryz.prog 26 #[.string (mkS a), .string (mkS p), .string (mkS b), .string (mkS s)] w fun e w' => e = .returned (.bool false) ∧ Fr Nob w w' := by
 have HR1 := qH (e0I hr).1
 have HR2 := qH (e0I hr).2.1
 have HR3 := qH (e0I hr).2.2
 have hne : (((mkS s).size : Int) != 64) = true := by rw [a0u]; simp; omega
 clear hr hl
 have st0 := St.start Nob w
 go_enter Tryz.func26, Tryz.ntmps26
 go_wp2_with fail
 refine (c0x a _).mono ?_
 rintro e' w1 ⟨X1, Y1, Z1, rfl, hx, hf1⟩
 have st1 := st0.keep hf1
 have HX1 := qH hx
 clear hx
 clear st0 hf1
 go_wp2_with (with_reducible refine wSk 9 ?_)
 refine a0a st1 rfl rfl (z := zAc) ap12 (cw 12 0) ap10 ?_
 intro g9 w2 st2
 clear st1
 go_wp2_with (with_reducible refine wSn ?_)
 refine a0b st2 0 rfl rfl rfl rfl rfl ap3 ap1 (b0G _ _ _) ?_
 intro w3 st3
 clear st2
 go_wp2_with fail
 refine (c0x p _).mono ?_
 rintro e' w4 ⟨X2, Y2, Z2, rfl, hx, hf4⟩
 have st4 := st3.keep hf4
 have HX2 := qH hx
 clear hx
 clear st3 hf4
 go_wp2_with (with_reducible refine wSk 11 ?_)
 refine a0a st4 rfl rfl (z := zAc) ap12 (cw 12 0) ap10 ?_
 intro g11 w5 st5
 clear st4
 go_wp2_with (with_reducible refine wSn ?_)
 refine a0b st5 1 rfl rfl rfl rfl rfl ap3 ap1 (b0G _ _ _) ?_
 intro w6 st6
 clear st5
 go_wp2_with fail
 refine (c0x b _).mono ?_
 rintro e' w7 ⟨X3, Y3, Z3, rfl, hx, hf7⟩
 have st7 := st6.keep hf7
 have HX3 := qH hx
 clear hx
 clear st6 hf7
 go_wp2_with (with_reducible refine wSk 13 ?_)
 refine a0a st7 rfl rfl (z := zAc) ap12 (cw 12 0) ap10 ?_
 intro g13 w8 st8
 clear st7
 go_wp2_with (with_reducible refine wSn ?_)
 refine a0b st8 2 rfl rfl rfl rfl rfl ap3 ap1 (b0G _ _ _) ?_
 intro w9 st9
 clear st8
 rw [HR1.out, HR2.out, HR3.out]
 have hfr := st9.fr
 clear st9
 go_wp2_with fail
 go_ret
 exact ⟨rfl, hfr⟩
theorem D0S (a p b s : List UInt8) (_h1 : a.length ≤ 4096) (_h2 : p.length ≤ 4096) (_h3 : b.length ≤ 4096) (hr : b0x [a, p, b] = true) (hl : s.length = 64) (hn : a0X mQ [s.take 32, s.drop 32] = false) (w : World) : Calls Tryz.prog 26 #[.string (mkS a), .string (mkS p), .string (mkS b), .string (mkS s)] w fun e w' => e = .returned (.bool false) ∧ Fr Nob w w' := by
 have HR1 := qH (e0I hr).1
 have HR2 := qH (e0I hr).2.1
 have HR3 := qH (e0I hr).2.2
 have hne : (((mkS s).size : Int) != 64) = false := by rw [a0u, hl]; rfl
 have hI1 : (32 : Int) ≤ ((mkS s).size : Int) := by rw [a0u]; omega
 have hI2 : 32 ≤ (mkS s).size := by rw [a0u]; omega
 have HE1 := qH (y0S s 32 ap14)
 have HE2 := qH (y0T s 32)
 have HNF := qH (show (a0U mQ (s.take 32) && a0U mQ (s.drop 32)) = false by unfold a0X at hn; simpa using hn)
 clear hr hl hn
 have st0 := St.start Nob w
 go_enter Tryz.func26, Tryz.ntmps26
 go_wp2_with fail
 refine (c0x a _).mono ?_
 rintro e' w1 ⟨X1, Y1, Z1, rfl, hx, hf1⟩
 have st1 := st0.keep hf1
 have HX1 := qH hx
 clear hx
 clear st0 hf1
 go_wp2_with (with_reducible refine wSk 9 ?_)
 refine a0a st1 rfl rfl (z := zAc) ap12 (cw 12 0) ap10 ?_
 intro g9 w2 st2
 clear st1
 go_wp2_with (with_reducible refine wSn ?_)
 refine a0b st2 0 rfl rfl rfl rfl rfl ap3 ap1 (b0G _ _ _) ?_
 intro w3 st3
 clear st2
 go_wp2_with fail
 refine (c0x p _).mono ?_
 rintro e' w4 ⟨X2, Y2, Z2, rfl, hx, hf4⟩
 have st4 := st3.keep hf4
 have HX2 := qH hx
 clear hx
 clear st3 hf4
 go_wp2_with (with_reducible refine wSk 11 ?_)
 refine a0a st4 rfl rfl (z := zAc) ap12 (cw 12 0) ap10 ?_
 intro g11 w5 st5
 clear st4
 go_wp2_with (with_reducible refine wSn ?_)
 refine a0b st5 1 rfl rfl rfl rfl rfl ap3 ap1 (b0G _ _ _) ?_
 intro w6 st6
 clear st5
 go_wp2_with fail
 refine (c0x b _).mono ?_
 rintro e' w7 ⟨X3, Y3, Z3, rfl, hx, hf7⟩
 have st7 := st6.keep hf7
 have HX3 := qH hx
 clear hx
 clear st6 hf7
 go_wp2_with (with_reducible refine wSk 13 ?_)
 refine a0a st7 rfl rfl (z := zAc) ap12 (cw 12 0) ap10 ?_
 intro g13 w8 st8
 clear st7
 go_wp2_with (with_reducible refine wSn ?_)
 refine a0b st8 2 rfl rfl rfl rfl rfl ap3 ap1 (b0G _ _ _) ?_
 intro w9 st9
 clear st8
 rw [HR1.out, HR2.out, HR3.out]
 go_wp2_with fail
 rw [HE1.out]
 refine (f0L (s.take 32) _).mono ?_
 rintro e' w10 ⟨N1, rfl, hx, hf⟩
 have st10 := st9.keep hf
 have HN1 := qH hx
 clear st9 hf hx
 go_wp2_with (with_reducible refine wSk 15 ?_)
 refine a0a st10 rfl rfl (z := zAd) ap12 (cw 4 0) ap10 ?_
 intro g15 w11 st11
 clear st10
 go_wp2_with (with_reducible refine wSn ?_)
 refine a0b st11 3 rfl rfl rfl rfl rfl ap3 ap1 (a0f _ _) ?_
 intro w12 st12
 clear st11
 go_wp2_with fail
 rw [HE2.out]
 refine (f0L (s.drop 32) _).mono ?_
 rintro e' w13 ⟨N2, rfl, hx, hf⟩
 have st13 := st12.keep hf
 have HN2 := qH hx
 clear st12 hf hx
 go_wp2_with (with_reducible refine wSk 17 ?_)
 refine a0a st13 rfl rfl (z := zAd) ap12 (cw 4 0) ap10 ?_
 intro g17 w14 st14
 clear st13
 go_wp2_with (with_reducible refine wSn ?_)
 refine a0b st14 4 rfl rfl rfl rfl rfl ap3 ap1 (a0f _ _) ?_
 intro w15 st15
 clear st14
 generalize hb : a0U mQ (s.take 32) = b1 at *
 have HB1 := qH hb
 clear hb
 generalize hb : a0U mQ (s.drop 32) = b2 at *
 have HB2 := qH hb
 clear hb
 have hf3 : (b1 && b2) = false := HNF.out
 clear hI1 hI2 hne HX1 HX2 HX3 HN1 HN2 HB1 HB2 HNF
 have hfr := st15.fr
 clear st15
 rcases b1 with _ | _
 ·go_wp2_with fail
  go_ret
  exact ⟨rfl, hfr⟩
 rcases b2 with _ | _
 ·clear hf3
  go_wp2_with fail
  go_ret
  exact ⟨rfl, hfr⟩
 exact absurd hf3 ap13
theorem D0T (a p b s : List UInt8) (h1 : a.length ≤ 4096) (h2 : p.length ≤ 4096) (h3 : b.length ≤ 4096) (h : vsG a p b s = true) (w : World) : Calls Tryz.prog 26 #[.string (mkS a), .string (mkS p), .string (mkS b), .string (mkS s)] w fun e w' => e = .returned (.bool (vsB a p b s)) ∧ Fr Nob w w' := by
 have hr : b0x [a, p, b] = true := by unfold vsG at h; simp only [Bool.and_eq_true] at h; exact h.1
 have hn : a0X mQ [s.take 32, s.drop 32] = true := by unfold vsG at h; simp only [Bool.and_eq_true] at h; exact h.2.2
 have hl : s.length = 64 := by unfold vsG at h; simp only [Bool.and_eq_true, decide_eq_true_eq] at h; exact h.2.1
 have HR1 := qH (e0I hr).1
 have HR2 := qH (e0I hr).2.1
 have HR3 := qH (e0I hr).2.2
 have hne : (((mkS s).size : Int) != 64) = false := by rw [a0u, hl]; rfl
 have hI1 : (32 : Int) ≤ ((mkS s).size : Int) := by rw [a0u]; omega
 have hI2 : 32 ≤ (mkS s).size := by rw [a0u]; omega
 have HE1 := qH (y0S s 32 ap14)
 have HE2 := qH (y0T s 32)
 have HM1 := qH (x0M hn).1
 have HM2 := qH (x0M hn).2
 have H1 := qH h1
 have H2 := qH h2
 have H3 := qH h3
 have hc : (beN (s.take 32)) < B64 ^ 4 := Nat.lt_trans (c0C HM1.out) d0D.lt
 have hz : (beN (s.drop 32)) < B64 ^ 4 := Nat.lt_trans (c0C HM2.out) d0D.lt
 have HLC := qH hc
 have e1 : a0W (e0i (a0M (beN (s.drop 32)) f0c) (f0O (a0M (beN (s.take 32)) (rdR a)))).pt = c0W (beN (s.drop 32)) (beN (s.take 32)) gP (b0z a) := by rw [j0y, u0O, c0V _ hz, c0V _ hc, l0Q, j0A (c0i HR1.out)]; unfold c0W; rfl
 have e2 : a0W (e0i (a0M (beN (s.drop 32)) (rdR p)) (f0O (a0M (beN (s.take 32)) (rdR b)))).pt = c0W (beN (s.drop 32)) (beN (s.take 32)) (b0z p) (b0z b) := by rw [j0y, u0O, c0V _ hz, c0V _ hc, j0A (c0i HR2.out), j0A (c0i HR3.out)]; unfold c0W; rfl
 obtain ⟨D, hD⟩ : ∃ D, c0Z p a b (a0W (e0i (a0M (beN (s.drop 32)) f0c) (f0O (a0M (beN (s.take 32)) (rdR a)))).pt) (a0W (e0i (a0M (beN (s.drop 32)) (rdR p)) (f0O (a0M (beN (s.take 32)) (rdR b)))).pt) = D := ⟨_, rfl⟩
 have HD := qH hD
 have HLD := qH (show D < B64 ^ 4 by rw [← hD]; exact Nat.lt_trans (h0g _ _ _ _ _) d0D.lt)
 have HEQ := qH (show (D == (beN (s.take 32))) = vsB a p b s by rw [v0h h, ← e1, ← e2, hD]; rfl)
 clear h hr hn hl h1 h2 h3 hc hz e1 e2 hD
 have st0 := St.start Nob w
 go_enter Tryz.func26, Tryz.ntmps26
 go_wp2_with fail
 refine (c0x a _).mono ?_
 rintro e' w1 ⟨X1, Y1, Z1, rfl, hx, hf1⟩
 have st1 := st0.keep hf1
 have HX1 := qH hx
 clear hx
 clear st0 hf1
 go_wp2_with (with_reducible refine wSk 9 ?_)
 refine a0a st1 rfl rfl (z := zAc) ap12 (cw 12 0) ap10 ?_
 intro g9 w2 st2
 clear st1
 go_wp2_with (with_reducible refine wSn ?_)
 refine a0b st2 0 rfl rfl rfl rfl rfl ap3 ap1 (b0G _ _ _) ?_
 intro w3 st3
 clear st2
 go_wp2_with fail
 refine (c0x p _).mono ?_
 rintro e' w4 ⟨X2, Y2, Z2, rfl, hx, hf4⟩
 have st4 := st3.keep hf4
 have HX2 := qH hx
 clear hx
 clear st3 hf4
 go_wp2_with (with_reducible refine wSk 11 ?_)
 refine a0a st4 rfl rfl (z := zAc) ap12 (cw 12 0) ap10 ?_
 intro g11 w5 st5
 clear st4
 go_wp2_with (with_reducible refine wSn ?_)
 refine a0b st5 1 rfl rfl rfl rfl rfl ap3 ap1 (b0G _ _ _) ?_
 intro w6 st6
 clear st5
 go_wp2_with fail
 refine (c0x b _).mono ?_
 rintro e' w7 ⟨X3, Y3, Z3, rfl, hx, hf7⟩
 have st7 := st6.keep hf7
 have HX3 := qH hx
 clear hx
 clear st6 hf7
 go_wp2_with (with_reducible refine wSk 13 ?_)
 refine a0a st7 rfl rfl (z := zAc) ap12 (cw 12 0) ap10 ?_
 intro g13 w8 st8
 clear st7
 go_wp2_with (with_reducible refine wSn ?_)
 refine a0b st8 2 rfl rfl rfl rfl rfl ap3 ap1 (b0G _ _ _) ?_
 intro w9 st9
 clear st8
 rw [HR1.out, HR2.out, HR3.out]
 go_wp2_with fail
 rw [HE1.out]
 refine (f0L (s.take 32) _).mono ?_
 rintro e' w10 ⟨N1, rfl, hx, hf⟩
 have st10 := st9.keep hf
 have HN1 := qH hx
 clear st9 hf hx
 go_wp2_with (with_reducible refine wSk 15 ?_)
 refine a0a st10 rfl rfl (z := zAd) ap12 (cw 4 0) ap10 ?_
 intro g15 w11 st11
 clear st10
 go_wp2_with (with_reducible refine wSn ?_)
 refine a0b st11 3 rfl rfl rfl rfl rfl ap3 ap1 (a0f _ _) ?_
 intro w12 st12
 clear st11
 go_wp2_with fail
 rw [HE2.out]
 refine (f0L (s.drop 32) _).mono ?_
 rintro e' w13 ⟨N2, rfl, hx, hf⟩
 have st13 := st12.keep hf
 have HN2 := qH hx
 clear st12 hf hx
 go_wp2_with (with_reducible refine wSk 17 ?_)
 refine a0a st13 rfl rfl (z := zAd) ap12 (cw 4 0) ap10 ?_
 intro g17 w14 st14
 clear st13
 go_wp2_with (with_reducible refine wSn ?_)
 refine a0b st14 4 rfl rfl rfl rfl rfl ap3 ap1 (a0f _ _) ?_
 intro w15 st15
 clear st14
 rw [HM1.out, HM2.out]
 rw [HX1.out (c0i HR1.out), HX2.out (c0i HR2.out), HX3.out (c0i HR3.out), HN1.out HM1.out, HN2.out HM2.out] at st15
 clear HX1 HX2 HX3 HN1 HN2 hI1 hI2 hne
 go_wp2_with fail
 refine wp_region_noPanic ?_
 refine a0e st15 8 [.o 7, .t 0, .t 2, .t 3, .c 1, .c 4, .c 5, .c 6, .j 7] (.m 8 .nil) ap12 ap12 (fun _ _ _ _ _ h => h) ?_
 clear st15
 refine b0j rfl rfl rfl E0c (cw 12 0) rfl ?_
 try simp only [clL]
 refine a0d rfl rfl rfl (fun _ => rfl) (cw 4 (beN (s.drop 32))) (fun wx hS => St.rangeL hS 4 rfl 0 _ dZl) Tryz.underlying60 rfl ap1 ?_
 try simp only [clL]
 refine a0d rfl rfl rfl (fun _ => rfl) (cw 4 (beN (s.take 32))) (fun wx hS => St.rangeL hS 3 rfl 0 _ dZl) Tryz.underlying60 rfl ap1 ?_
 try simp only [clL]
 refine a0d rfl rfl rfl (fun _ => rfl) ((rdR a).L) (fun wx hS => St.rangeL hS 0 rfl 0 _ dZl) Tryz.underlying62 rfl ap1 ?_
 try simp only [clL]
 refine a0c rfl rfl rfl Tryz.call55 (fun w hS hR => l0S (beN (s.drop 32)) _) (fun _ => rfl) ?_
 try simp only [clL]
 refine a0c rfl rfl rfl Tryz.call69 (fun w hS hR => f0b (beN (s.take 32)) (rdR a) _) (fun _ => rfl) ?_
 try simp only [clL]
 refine a0c rfl rfl rfl Tryz.call82 (fun w hS hR => y0K (a0M (beN (s.take 32)) (rdR a)) _) (fun _ => rfl) ?_
 try simp only [clL]
 refine a0c rfl rfl rfl Tryz.call68 (fun w hS hR => l0O (a0M (beN (s.drop 32)) f0c) (f0O (a0M (beN (s.take 32)) (rdR a))) _) (fun _ => rfl) ?_
 try simp only [clL]
 refine b0c List.mem_cons_self fun g19 => ?_
 simp only [upd, reduceIte]
 try simp only [Nat.reduceEqDiff, reduceIte]
 refine a0t fun xq w16 st16 hR => ?_
 try dsimp only
 clear hR xq
 refine a0q rfl rfl ?_
 refine a0h st16 5 rfl rfl rfl rfl ap3 ap1 (RT.one _) ?_
 intro w17 st17
 repeat (first | simp only [List.cons_append] at st17 | simp only [List.nil_append] at st17 | simp only [List.set_cons_succ] at st17 | simp only [List.set_cons_zero] at st17)
 clear st16
 try simp only [Act.put]
 refine a0i ?_
 refine NoPanic.normal ?_
 go_wp2_with fail
 refine wp_region_noPanic ?_
 refine a0e st17 9 [.o 8, .t 0, .t 1, .t 3, .t 4, .c 2, .c 5, .c 6, .c 7, .j 8] (.m 9 .nil) ap12 ap12 (fun _ _ _ _ _ h => h) ?_
 clear st17
 refine b0j rfl rfl rfl E0c (cw 12 0) rfl ?_
 try simp only [clL]
 refine a0d rfl rfl rfl (fun _ => rfl) (cw 4 (beN (s.drop 32))) (fun wx hS => St.rangeL hS 4 rfl 0 _ dZl) Tryz.underlying60 rfl ap1 ?_
 try simp only [clL]
 refine a0d rfl rfl rfl (fun _ => rfl) ((rdR p).L) (fun wx hS => St.rangeL hS 1 rfl 0 _ dZl) Tryz.underlying62 rfl ap1 ?_
 try simp only [clL]
 refine a0d rfl rfl rfl (fun _ => rfl) (cw 4 (beN (s.take 32))) (fun wx hS => St.rangeL hS 3 rfl 0 _ dZl) Tryz.underlying60 rfl ap1 ?_
 try simp only [clL]
 refine a0d rfl rfl rfl (fun _ => rfl) ((rdR b).L) (fun wx hS => St.rangeL hS 2 rfl 0 _ dZl) Tryz.underlying62 rfl ap1 ?_
 try simp only [clL]
 refine a0c rfl rfl rfl Tryz.call69 (fun w hS hR => f0b (beN (s.drop 32)) (rdR p) _) (fun _ => rfl) ?_
 try simp only [clL]
 refine a0c rfl rfl rfl Tryz.call69 (fun w hS hR => f0b (beN (s.take 32)) (rdR b) _) (fun _ => rfl) ?_
 try simp only [clL]
 refine a0c rfl rfl rfl Tryz.call82 (fun w hS hR => y0K (a0M (beN (s.take 32)) (rdR b)) _) (fun _ => rfl) ?_
 try simp only [clL]
 refine a0c rfl rfl rfl Tryz.call68 (fun w hS hR => l0O (a0M (beN (s.drop 32)) (rdR p)) (f0O (a0M (beN (s.take 32)) (rdR b))) _) (fun _ => rfl) ?_
 try simp only [clL]
 refine b0c List.mem_cons_self fun g20 => ?_
 simp only [upd, reduceIte]
 try simp only [Nat.reduceEqDiff, reduceIte]
 refine a0t fun xq w18 st18 hR => ?_
 try dsimp only
 clear hR xq
 refine a0q rfl rfl ?_
 refine a0h st18 6 rfl rfl rfl rfl ap3 ap1 (RT.one _) ?_
 intro w19 st19
 repeat (first | simp only [List.cons_append] at st19 | simp only [List.nil_append] at st19 | simp only [List.set_cons_succ] at st19 | simp only [List.set_cons_zero] at st19)
 clear st18
 try simp only [Act.put]
 refine a0i ?_
 refine NoPanic.normal ?_
 go_wp2_with fail
 refine wp_region_noPanic ?_
 refine a0e st19 10 [.w 0, .w 1, .w 2, .t 3, .t 5, .t 8, .c 4, .c 6, .c 7, .w 9] (.m 10 .nil) ap12 ap12 (fun _ _ _ _ _ h => h) ?_
 clear st19
 refine a0m rfl rfl apX ?_
 try simp only [clL]
 refine a0m rfl rfl apX ?_
 try simp only [clL]
 refine a0m rfl rfl apX ?_
 try simp only [clL]
 refine a0d rfl rfl rfl (fun _ => rfl) ((e0i (a0M (beN (s.drop 32)) f0c) (f0O (a0M (beN (s.take 32)) (rdR a)))).L) (fun wx hS => St.rangeL hS 5 rfl 0 _ dZl) Tryz.underlying62 rfl ap1 ?_
 try simp only [clL]
 refine a0d rfl rfl rfl (fun _ => rfl) ((e0i (a0M (beN (s.drop 32)) (rdR p)) (f0O (a0M (beN (s.take 32)) (rdR b)))).L) (fun wx hS => St.rangeL hS 6 rfl 0 _ dZl) Tryz.underlying62 rfl ap1 ?_
 try simp only [clL]
 refine a0d rfl rfl rfl (fun _ => rfl) (cw 4 (beN (s.take 32))) (fun wx hS => St.rangeL hS 3 rfl 0 _ dZl) Tryz.underlying60 rfl ap1 ?_
 try simp only [clL]
 refine a0c rfl rfl rfl Tryz.call45 (fun w hS hR => d0h (e0i (a0M (beN (s.drop 32)) f0c) (f0O (a0M (beN (s.take 32)) (rdR a)))) _) (fun _ => rfl) ?_
 try simp only [clL]
 refine a0c rfl rfl rfl Tryz.call45 (fun w hS hR => d0h (e0i (a0M (beN (s.drop 32)) (rdR p)) (f0O (a0M (beN (s.take 32)) (rdR b)))) _) (fun _ => rfl) ?_
 try simp only [clL]
 refine a0c rfl rfl rfl Tryz.call81 (fun w hS hR => (v0n (mkS p) (mkS a) (mkS b) (mkS (a0W (e0i (a0M (beN (s.drop 32)) f0c) (f0O (a0M (beN (s.take 32)) (rdR a)))).pt)) (mkS (a0W (e0i (a0M (beN (s.drop 32)) (rdR p)) (f0O (a0M (beN (s.take 32)) (rdR b)))).pt)) _ (by rw [a0u]; have := H2.out; omega) (by rw [a0u]; have := H1.out; omega) (by rw [a0u]; have := H3.out; omega) (by rw [a0u, b0F]; decide) (by rw [a0u, b0F]; decide)).mono fun e w' h => (show e = .returned (i4 D) ∧ Fr Nob _ w' by rw [a0K, a0K, a0K, a0K, a0K, HD.out] at h; exact h)) (fun _ => rfl) ?_
 try simp only [clL]
 refine a0m rfl rfl (fun _ _ => u0y HLD.out HLC.out rfl rfl rfl HEQ.out _) ?_
 try simp only [clL]
 refine a0t fun xq w20 st20 hR => ?_
 try dsimp only
 clear hR xq
 refine a0q rfl rfl ?_
 go_simp
 try simp only [clL]
 refine a0i ?_
 refine NoPanic.normal ?_
 have hfr := st20.fr
 clear st20
 go_wp2_with fail
 go_ret
 exact ⟨rfl, hfr⟩
theorem l0X (a p b s : List UInt8) (h1 : a.length ≤ 4096) (h2 : p.length ≤ 4096) (h3 : b.length ≤ 4096) (w : World) : Calls Tryz.prog 26 #[.string (mkS a), .string (mkS p), .string (mkS b), .string (mkS s)] w fun e w' => e = .returned (.bool (vsB a p b s)) ∧ Fr Nob w w' := by
 cases h : vsG a p b s with
 | false =>
  rw [C0V h]
  unfold vsG at h
  cases hr : b0x [a, p, b] with
  | false => exact D0Q a p b s h1 h2 h3 hr w
  | true =>
   by_cases hl : s.length = 64
   ·rw [hr, decide_eq_true hl, Bool.true_and, Bool.true_and] at h
    exact D0S a p b s h1 h2 h3 hr hl h w
   ·exact D0R a p b s h1 h2 h3 hr hl w
 | true => exact D0T a p b s h1 h2 h3 h w
end
section
open Go.RowKit Go.Mv Mvp Mvq
attribute [local irreducible] a0E lw mix cw b0t b0C b0r a0O a0r beN b0J b0b b0E a0L a0S elN mdL a0U rtV b0R a0W b0W b0z a0R b0n b0D toB a0x a0F b0o c0a a0I c0n b0e a0C c0m d0N e0i noR f0O a0M RT.L rdR kN kc d0o c0Z chN g0b r0N b0d rpL smE smS vsB vsG
theorem l0Y (a q b s : ByteArray) (h1 : a.size ≤ 4096) (h2 : q.size ≤ 4096) (h3 : b.size ≤ 4096) (w : World) :
  Calls Tryz.prog 26 #[.string a, .string q, .string b, .string s] w fun e w' => e = .returned (.bool (vsB a.data.toList q.data.toList b.data.toList s.data.toList)) ∧ Fr Nob w w' := by
 have h := l0X a.data.toList q.data.toList b.data.toList s.data.toList (by rw [e0p]; exact h1) (by rw [e0p]; exact h2) (by rw [e0p]; exact h3) w
 rwa [c0A, c0A, c0A, c0A] at h
end
section
open Go.RowKit Go.Mv Mvp Mvq
theorem D0b {z : Nat} (h : z < mQ.M) : beN (b0b z) = z := by
 have h2 := q0B z
 rwa [Nat.mod_eq_of_lt h] at h2
theorem y0U {z : Nat} (h : z < mQ.M) : a0U mQ (b0b z) = true := by
 have h2 := l0T z
 rwa [Nat.mod_eq_of_lt h] at h2
theorem h0z : b0d (a0W gP) = true := by
 unfold b0d
 rw [(j0M j0O).1, decide_eq_false (by rw [D0D]; decide)]
 rfl
theorem l0Z : d0o s0e = true := by
 unfold d0o
 rw [l0W.1, l0W.2]
 rfl
attribute [local irreducible] a0E lw mix cw b0t b0C b0r a0O a0r beN b0J b0b b0E a0L a0S elN mdL a0U rtV b0R a0W b0W b0z a0R b0n b0D toB a0x a0F b0o c0a a0I c0n b0e a0C c0m d0N e0i noR f0O a0M RT.L rdR kN kc d0o c0Z chN g0b r0N b0d rpL f0f
end
section
open Go.RowKit Go.Mv Mvp Mvq
noncomputable def bsS (key h : List UInt8) : List UInt8 := if (d0o key && b0d h) = true then a0W (a0R (beN key) (b0z h)) else []
theorem s0f {k h : List UInt8} (h1 : d0o k = true) (h2 : b0d h = true) : smE k h = 0 ∧ bsS k h = a0W (a0R (beN k) (b0z h)) := by unfold bsS; rw [h1, h2]; exact ⟨(p0m h1 h2).1, if_pos rfl⟩
theorem p0o {k h : List UInt8} (hn : (d0o k && b0d h) = false) : (smE k h != 0) = true ∧ bsS k h = [] ∧ smS k h = [] := by
 unfold bsS
 rw [hn]
 cases h1 : d0o k with
 | false => rw [(A0Y (p := h) h1).1, (A0Y (p := h) h1).2]; exact ⟨rfl, rfl, rfl⟩
 | true =>
  rw [h1, Bool.true_and] at hn
  rw [(A0X h1 hn).1, (A0X h1 hn).2]
  exact ⟨rfl, rfl, rfl⟩
theorem B0l {k : List UInt8} (h : d0o k = true) : a0U mQ k = true := by unfold d0o at h; rw [Bool.and_eq_true] at h; exact h.1
theorem B0m {key point : List UInt8} (hp : b0d point = true) (ha : b0d (a0W (a0R (beN key) gP)) = true) (hb : b0d (a0W (a0R (beN key) (b0z point))) = true) :
  vsB (a0W (a0R (beN key) gP)) point (a0W (a0R (beN key) (b0z point))) (b0b (smC key point) ++ b0b ((chN a0o [key, point] + smC key point * beN key) % mQ.M)) = true := by
 have hcl : smC key point < mQ.M := by unfold smC; exact h0g _ _ _ _ _
 have hzl : (chN a0o [key, point] + smC key point * beN key) % mQ.M < mQ.M := Nat.mod_lt _ mQ0
 have ht : (b0b (smC key point) ++ b0b ((chN a0o [key, point] + smC key point * beN key) % mQ.M)).take 32 = b0b (smC key point) := List.take_left' (a0Q _)
 have hd : (b0b (smC key point) ++ b0b ((chN a0o [key, point] + smC key point * beN key) % mQ.M)).drop 32 = b0b ((chN a0o [key, point] + smC key point * beN key) % mQ.M) := List.drop_left' (a0Q _)
 have hg : vsG (a0W (a0R (beN key) gP)) point (a0W (a0R (beN key) (b0z point))) (b0b (smC key point) ++ b0b ((chN a0o [key, point] + smC key point * beN key) % mQ.M)) = true := by
  unfold vsG b0x a0X
  rw [ht, hd]
  simp only [List.all_cons, List.all_nil, hp, ha, hb, y0U hcl, y0U hzl, List.length_append, a0Q]
  rfl
 rw [v0h hg, ht, hd, D0b hcl, D0b hzl]
 have e1 : c0W ((chN a0o [key, point] + smC key point * beN key) % mQ.M) (smC key point) gP (b0z (a0W (a0R (beN key) gP))) = a0W (a0R (chN a0o [key, point]) gP) := by
  unfold c0W
  rw [(j0M (a0V j0O _)).2, u0X, u0t j0O]
 have e2 : c0W ((chN a0o [key, point] + smC key point * beN key) % mQ.M) (smC key point) (b0z point) (b0z (a0W (a0R (beN key) (b0z point)))) = a0W (a0R (chN a0o [key, point]) (b0z point)) := by
  unfold c0W
  rw [(j0M (a0V (o0I (c0i hp)) _)).2, u0X, u0t (o0I (c0i hp))]
 rw [e1, e2]
 exact decide_eq_true (by unfold smC; rfl)
theorem D0c : vsB (a0W gP) (a0W gP) (a0W gP) (smS s0e (a0W gP)) = true := by
 have h1 : a0W (a0R (beN s0e) gP) = a0W gP := by rw [l0W.2, y0P]
 have h := B0m (key := s0e) (point := a0W gP) h0z (by rw [h1]; exact h0z) (by rw [(j0M j0O).2, h1]; exact h0z)
 rw [(j0M j0O).2, h1] at h
 rw [(p0m l0Z h0z).2]
 exact h
theorem y0V : smE s0e (a0W gP) = 0 ∧ bsS s0e (a0W gP) = a0W gP := by
 have h := s0f l0Z h0z
 rw [(j0M j0O).2, l0W.2, y0P] at h
 exact h
attribute [local irreducible] a0E lw mix cw b0t b0C b0r a0O a0r beN b0J b0b b0E a0L a0S elN mdL a0U rtV b0R a0W b0W b0z a0R b0n b0D toB a0x a0F b0o c0a a0I c0n b0e a0C c0m d0N e0i noR f0O a0M RT.L rdR kN kc d0o c0Z chN g0b r0N b0d rpL f0f smC smE smS vsG vsB c0W a0X b0x bsS
theorem x0U (ak : Option Addr) (nk ck : Nat) (key : List UInt8) (ap : Option Addr) (np cp : Nat) (h : List UInt8) (w : World) (hkey : PartIs w (.slice ak nk ck) key) (hpt : PartIs w (.slice ap np cp) h) (hn : (d0o key && b0d h) = false) : Calls Tryz.prog 34 #[.slice ak nk ck, .slice ap np cp] w fun e w' => e = .returned (.tuple #[.slice none 0 0, .slice none 0 0, .int .i64 (smE key h)]) ∧ Fr Nob w w' := by
 have HK := qH hkey
 have HP := qH hpt
 have hE := (p0o hn).1
 clear hkey hpt hn
 go_enter Tryz.func34, Tryz.ntmps34
 go_wp2_with fail
 refine (j0B ak nk ck key ap np cp h _ HK.out HP.out).mono ?_
 rintro e' w1 ⟨v, rfl, ho, hf⟩
 clear ho HK HP
 generalize hge : smE key h = e at *
 have HGE := qH hge
 clear hge
 go_wp2_with fail
 go_ret3
 exact ⟨by rw [HGE.out]; rfl, hf⟩
theorem x0V (ak : Option Addr) (nk ck : Nat) (key : List UInt8) (ap : Option Addr) (np cp : Nat) (h : List UInt8) (w : World) (hkey : PartIs w (.slice ak nk ck) key) (hpt : PartIs w (.slice ap np cp) h) (h1 : d0o key = true) (h2 : b0d h = true) : Calls Tryz.prog 34 #[.slice ak nk ck, .slice ap np cp] w fun e w' => ∃ v u, e = .returned (.tuple #[v, u, .int .i64 0]) ∧ OwnB1 w w' v (a0W (a0R (beN key) (b0z h))) ∧ OwnB1 w w' u (smS key h) ∧ Fr Nob w w' := by
 have HK := qH hkey
 have HP := qH hpt
 have HE := qH (s0f h1 h2).1
 have HT := qH (t_ok (lk := key) (la := h) (B0l h1) (c0i h2))
 clear hkey hpt h1 h2
 go_enter Tryz.func34, Tryz.ntmps34
 go_wp2_with fail
 refine (j0B ak nk ck key ap np cp h _ HK.out HP.out).mono ?_
 rintro e' w1 ⟨u, rfl, ho, hf⟩
 rw [HE.out]
 have HU := qH ho
 have HF := qH hf
 clear ho hf
 go_wp2_with fail
 refine (q0q _ _ key h _ (b0I (HK.out.still HF.out)) (b0I (HP.out.still HF.out))).mono ?_
 rintro e' w2 ⟨v, rfl, ho, hf⟩
 rw [HT.out.2] at ho
 have HV := qH (OwnB1.back ho HF.out.size)
 have HU2 := qH (show OwnB1 w w2 u (smS key h) from Own.still HU.out hf)
 have hfr := HF.out.then hf
 clear ho hf HF HU HK HP
 go_wp2_with fail
 go_ret3
 exact ⟨v, u, rfl, HV.out, HU2.out, hfr⟩
theorem v0o (ak : Option Addr) (nk ck : Nat) (key : List UInt8) (ap : Option Addr) (np cp : Nat) (h : List UInt8) (w : World) (hkey : PartIs w (.slice ak nk ck) key) (hpt : PartIs w (.slice ap np cp) h) : Calls Tryz.prog 34 #[.slice ak nk ck, .slice ap np cp] w fun e w' => ∃ v u, e = .returned (.tuple #[v, u, .int .i64 (smE key h)]) ∧ OwnB1 w w' v (bsS key h) ∧ OwnB1 w w' u (smS key h) ∧ Fr Nob w w' := by
 cases hn : (d0o key && b0d h) with
 | false =>
  rw [(p0o hn).2.1, (p0o hn).2.2]
  exact (x0U ak nk ck key ap np cp h w hkey hpt hn).mono fun e w' k => ⟨_, _, k.1, OwnB1.nil _ _, OwnB1.nil _ _, k.2⟩
 | true =>
  rw [Bool.and_eq_true] at hn
  rw [(s0f hn.1 hn.2).1, (s0f hn.1 hn.2).2]
  exact x0V ak nk ck key ap np cp h w hkey hpt hn.1 hn.2
theorem v0p (aa : Option Addr) (na ca : Nat) (a : List UInt8) (ap : Option Addr) (np cp : Nat) (p : List UInt8) (ab : Option Addr) (nb cb : Nat) (b : List UInt8) (as_ : Option Addr) (ns cs : Nat) (s : List UInt8) (w : World) (ha : PartIs w (.slice aa na ca) a) (hp : PartIs w (.slice ap np cp) p) (hb : PartIs w (.slice ab nb cb) b) (hs : PartIs w (.slice as_ ns cs) s) :
  Calls Tryz.prog 35 #[.slice aa na ca, .slice ap np cp, .slice ab nb cb, .slice as_ ns cs] w fun e w' => e = .returned (.bool (vsB a p b s)) ∧ Fr Nob w w' := by
 have HA := qH ha
 have HP := qH hp
 have HB := qH hb
 have HS := qH hs
 clear ha hp hb hs
 go_enter Tryz.func35, Tryz.ntmps35
 go_wp2_with fail
 refine (n0L aa na ca a ap np cp p ab nb cb b as_ ns cs s _ HA.out HP.out HB.out HS.out).mono ?_
 rintro e' w1 ⟨rfl, hf⟩
 go_wp2_with fail
 go_ret
 exact ⟨rfl, hf⟩
theorem D0U (key h : List UInt8) (_hk : key.length ≤ 4096) (_ht : h.length ≤ 4096) (hb : d0o key = false) (w : World) : Calls Tryz.prog 36 #[.string (mkS key), .string (mkS h)] w fun e w' => e = .returned (.tuple #[.string ⟨#[]⟩, .string ⟨#[]⟩, .int .i64 3]) ∧ Fr Nob w w' := by
 have HB := qH (show (a0U mQ key && !decide (beN key = 0)) = false by unfold d0o at hb; exact hb)
 clear hb _hk _ht
 have st0 := St.start Nob w
 go_enter Tryz.func36, Tryz.ntmps36
 go_wp2_with fail
 refine (h0y key _).mono ?_
 rintro e' w1 ⟨N, rfl, hn, hf1⟩
 have st1 := st0.keep hf1
 have HN := qH hn
 clear hn
 clear st0 hf1
 go_wp2_with (with_reducible refine wSk 7 ?_)
 refine a0a st1 rfl rfl (z := zAd) ap12 (cw 4 0) ap10 ?_
 intro g7 w2 st2
 clear st1
 go_wp2_with (with_reducible refine wSn ?_)
 refine a0b st2 0 rfl rfl rfl rfl rfl ap3 ap1 (a0f _ _) ?_
 intro w3 st3
 clear st2
 rw [show (a0U mQ key && !decide (beN key = 0)) = false from HB.out]
 have hfr := st3.fr
 clear st3
 go_wp2_with fail
 go_ret3
 exact ⟨rfl, hfr⟩
theorem D0V (key h : List UInt8) (_hk : key.length ≤ 4096) (_ht : h.length ≤ 4096) (hb : d0o key = true) (hr : b0d h = false) (w : World) : Calls Tryz.prog 36 #[.string (mkS key), .string (mkS h)] w fun e w' => e = .returned (.tuple #[.string ⟨#[]⟩, .string ⟨#[]⟩, .int .i64 4]) ∧ Fr Nob w w' := by
 have HB := qH (show (a0U mQ key && !decide (beN key = 0)) = true by unfold d0o at hb; exact hb)
 have HQ := qH (show a0U mQ key = true by have h := HB.out; rw [Bool.and_eq_true] at h; exact h.1)
 have HR := qH hr
 clear hb _hk _ht hr
 have st0 := St.start Nob w
 go_enter Tryz.func36, Tryz.ntmps36
 go_wp2_with fail
 refine (h0y key _).mono ?_
 rintro e' w1 ⟨N, rfl, hn, hf1⟩
 have st1 := st0.keep hf1
 have HN := qH hn
 clear hn
 clear st0 hf1
 go_wp2_with (with_reducible refine wSk 7 ?_)
 refine a0a st1 rfl rfl (z := zAd) ap12 (cw 4 0) ap10 ?_
 intro g7 w2 st2
 clear st1
 go_wp2_with (with_reducible refine wSn ?_)
 refine a0b st2 0 rfl rfl rfl rfl rfl ap3 ap1 (a0f _ _) ?_
 intro w3 st3
 clear st2
 rw [show (a0U mQ key && !decide (beN key = 0)) = true from HB.out]
 rw [HN.out HQ.out] at st3
 clear HN HB
 go_wp2_with fail
 refine (c0x h _).mono ?_
 rintro e' w4 ⟨X, Y, Z, rfl, hx, hf4⟩
 have st4 := st3.keep hf4
 have HX := qH hx
 clear hx
 clear st3 hf4
 go_wp2_with (with_reducible refine wSk 9 ?_)
 refine a0a st4 rfl rfl (z := zAc) ap12 (cw 12 0) ap10 ?_
 intro g9 w5 st5
 clear st4
 go_wp2_with (with_reducible refine wSn ?_)
 refine a0b st5 1 rfl rfl rfl rfl rfl ap3 ap1 (b0G _ _ _) ?_
 intro w6 st6
 clear st5
 rw [HR.out]
 have hfr := st6.fr
 clear st6
 go_wp2_with fail
 go_ret3
 exact ⟨rfl, hfr⟩
theorem D0d (key h : List UInt8) (hk : key.length ≤ 4096) (ht : h.length ≤ 4096) (hb : d0o key = true) (hr : b0d h = true) (w : World) : Calls Tryz.prog 36 #[.string (mkS key), .string (mkS h)] w fun e w' => e = .returned (.tuple #[.string (mkS (a0W (a0R (beN key) (b0z h)))), .string (mkS (smS key h)), .int .i64 0]) ∧ Fr Nob w w' := by
 have HB := qH (show (a0U mQ key && !decide (beN key = 0)) = true by unfold d0o at hb; exact hb)
 have HQ := qH (show a0U mQ key = true by have h := HB.out; rw [Bool.and_eq_true] at h; exact h.1)
 have HR := qH hr
 have HK := qH hk
 have HT := qH ht
 have HE2 := qH (show (a0M (beN key) (rdR h)).pt = a0R (beN key) (b0z h) by rw [c0V _ (Nat.lt_trans (c0C HQ.out) d0D.lt), j0A (c0i hr)])
 clear hb hk ht hr
 have st0 := St.start Nob w
 go_enter Tryz.func36, Tryz.ntmps36
 go_wp2_with fail
 refine (h0y key _).mono ?_
 rintro e' w1 ⟨N, rfl, hn, hf1⟩
 have st1 := st0.keep hf1
 have HN := qH hn
 clear hn
 clear st0 hf1
 go_wp2_with (with_reducible refine wSk 7 ?_)
 refine a0a st1 rfl rfl (z := zAd) ap12 (cw 4 0) ap10 ?_
 intro g7 w2 st2
 clear st1
 go_wp2_with (with_reducible refine wSn ?_)
 refine a0b st2 0 rfl rfl rfl rfl rfl ap3 ap1 (a0f _ _) ?_
 intro w3 st3
 clear st2
 rw [show (a0U mQ key && !decide (beN key = 0)) = true from HB.out]
 rw [HN.out HQ.out] at st3
 clear HN HB
 go_wp2_with fail
 refine (c0x h _).mono ?_
 rintro e' w4 ⟨X, Y, Z, rfl, hx, hf4⟩
 have st4 := st3.keep hf4
 have HX := qH hx
 clear hx
 clear st3 hf4
 go_wp2_with (with_reducible refine wSk 9 ?_)
 refine a0a st4 rfl rfl (z := zAc) ap12 (cw 12 0) ap10 ?_
 intro g9 w5 st5
 clear st4
 go_wp2_with (with_reducible refine wSn ?_)
 refine a0b st5 1 rfl rfl rfl rfl rfl ap3 ap1 (b0G _ _ _) ?_
 intro w6 st6
 clear st5
 rw [HR.out]
 rw [HX.out (c0i HR.out)] at st6
 clear HX
 go_wp2_with fail
 refine (n0M key h HK.out HT.out _).mono ?_
 rintro e' w7 ⟨rfl, hf7⟩
 have st7 := st6.keep hf7
 clear st6 hf7
 go_wp2_with (with_reducible refine wSk 32 ?_)
 refine a0j st7 0 rfl rfl rfl Tryz.underlying60 rfl ap1 ?_
 go_wp2_with (with_reducible refine wSk 33 ?_)
 refine a0n st7 1 rfl rfl rfl Tryz.underlying62 rfl rfl ap1 ?_
 go_wp2_with fail
 refine (f0b (beN key) (rdR h) _).mono ?_
 rintro e' w8 ⟨rfl, hf8⟩
 have st8 := st7.keep hf8
 clear st7 hf8
 go_wp2_with fail
 refine (d0h (a0M (beN key) (rdR h)) _).mono ?_
 rintro e' w9 ⟨rfl, hf9⟩
 have st9 := st8.keep hf9
 clear st8 hf9
 rw [HE2.out]
 have hfr := st9.fr
 clear st9
 go_wp2_with fail
 go_ret3
 exact ⟨rfl, hfr⟩
theorem x0W (key h : List UInt8) (hk : key.length ≤ 4096) (ht : h.length ≤ 4096) (w : World) : Calls Tryz.prog 36 #[.string (mkS key), .string (mkS h)] w fun e w' => e = .returned (.tuple #[.string (mkS (bsS key h)), .string (mkS (smS key h)), .int .i64 (smE key h)]) ∧ Fr Nob w w' := by
 cases h1 : d0o key with
 | false =>
  have hn : (d0o key && b0d h) = false := by rw [h1]; rfl
  rw [(p0o hn).2.1, (p0o hn).2.2, (A0Y (p := h) h1).1]
  exact D0U key h hk ht h1 w
 | true =>
  cases h2 : b0d h with
  | false =>
   have hn : (d0o key && b0d h) = false := by rw [h1, h2]; rfl
   rw [(p0o hn).2.1, (p0o hn).2.2, (A0X h1 h2).1]
   exact D0V key h hk ht h1 h2 w
  | true =>
   rw [(s0f h1 h2).1, (s0f h1 h2).2]
   exact D0d key h hk ht h1 h2 w
end
section
open Go.RowKit Go.Mv Mvp Mvq
theorem v0q {w0 w w' : World} {v : Value} {l : List UInt8} (h : PartIs w v l) (hf0 : Fr Nob w w0) (hf : Fr (Up w.heap.size) w0 w') : PartIs w' v l := by
 obtain ⟨a, n, c, rfl, hc, hn, hr, ho⟩ := h
 refine ⟨a, n, c, rfl, hc, hn, ?_, ?_⟩
 ·exact (hr.still hf0).keep hf fun x hx hu => by
   have h1 := ho x hx
   have h2 : w.heap.size ≤ x.block := hu
   omega
 ·intro x hx
  have h1 := ho x hx
  have h2 := hf.size
  have h3 := hf0.size
  omega
attribute [local irreducible] a0E lw mix cw b0t b0C b0r a0O a0r beN b0J b0b b0E a0L a0S elN mdL a0U rtV b0R a0W b0W b0z a0R b0n b0D toB a0x a0F b0o c0a a0I c0n b0e a0C c0m d0N e0i noR f0O a0M RT.L rdR kN kc d0o c0Z chN g0b r0N b0d rpL smE smS vsB vsG bsS
theorem bs_len (k h : List UInt8) : (bsS k h).length ≤ 1000000 := by unfold bsS; split; rw [b0F]; decide; decide
theorem y0W (k h : List UInt8) : (smS k h).length ≤ 1000000 := by
 unfold smS
 split
 ·split
  ·rw [List.length_append, a0Q, a0Q]; decide
  ·decide
 ·decide
theorem x0X (k q : ByteArray) (h1 : k.size ≤ 4096) (h2 : q.size ≤ 4096) (w : World) :
  Calls Tryz.prog 36 #[.string k, .string q] w fun e w' => e = .returned (.tuple #[.string (mkS (bsS k.data.toList q.data.toList)), .string (mkS (smS k.data.toList q.data.toList)), .int .i64 (smE k.data.toList q.data.toList)]) ∧ Fr Nob w w' := by
 have h := x0W k.data.toList q.data.toList (by rw [e0p]; exact h1) (by rw [e0p]; exact h2) w
 rwa [c0A, c0A] at h
theorem j0T (k q a b s : ByteArray) (w : World) : Calls Tryz.prog 9 #[.string k, .string q, .string a, .string b, .string s] w fun e w' => e = .returned (.bool true) ∧ Fr Nob w w' := by
 go_enter Tryz.func9, Tryz.ntmps9
 go_wp2_with (first | (at_make; refine b0V rfl rfl Tryz.underlying22 b0g rfl rfl rfl 32 32 ap15 ap15 ap14 ap14 ap9 ?_; intro w1 hw1 hf1 hz1) | (with_reducible refine wSk 27 ?_))
 clear hz1
 have hsz : w.heap.size ≤ w.heap.size := Nat.le_refl _
 generalize hg0 : w.heap.size = g at hw1 hsz ⊢
 have HG0 := qH hg0
 have HF1 := qH hf1
 clear hg0 hsz hf1
 obtain ⟨v, hc, hfz⟩ := hw1.ready (i := 31) ap15
 have hst := hw1.set 31 (.int .u8 1)
 rw [B0i] at hst
 have HST := qH hst
 have hfr : Fr Nob w (w1.setCell ⟨g, 31, none⟩ (.int .u8 1)) := HF1.out.setCell g 31 none _ (fun h => absurd h (by rw [HG0.out]; exact Nat.lt_irrefl _))
 have FF := qH hfr
 clear hst hfr hw1
 unfold s0j
 go_wp2_with (with_reducible refine wSk 29 ?_)
 have HONE : Hid (PartIs (w1.setCell ⟨g, 31, none⟩ (.int .u8 1)) (.slice (some ⟨g, 0, none⟩) 32 32) s0e) := qH ⟨_, 32, 32, rfl, Nat.le_refl _, by decide, Rd.whole HST.out, fun x hx => by cases hx; exact HST.out.lt⟩
 clear HST hc hfz
 generalize w1.setCell ⟨g, 31, none⟩ (.int .u8 1) = w2 at *
 try unfold s0j
 go_wp2_with fail
 refine (l0E _).mono ?_
 rintro e' w3 ⟨vb, rfl, ho, hf⟩
 have HB := qH (OwnB1.ptb ho (by rw [b0F]; decide))
 replace FF := qH (FF.out.then hf)
 replace HONE := qH (HONE.out.still hf)
 clear ho hf
 obtain ⟨a0, n0, c0, he0, k0⟩ := HB.out
 subst he0
 have HB2 := qH (show PartIs _ (.slice a0 n0 c0) (a0W gP) from ⟨a0, n0, c0, rfl, k0⟩)
 clear k0 HB
 go_wp2_with fail
 have hv := v0o (some ⟨g, 0, none⟩) 32 32 s0e a0 n0 c0 (a0W gP) w3 HONE.out HB2.out
 rw [y0V.1, y0V.2] at hv
 refine hv.mono ?_
 clear hv
 rintro e' w4 ⟨v, u, rfl, ho, hu, hf⟩
 have HV := qH (OwnB1.ptb ho (by rw [b0F]; decide))
 have HU := qH (OwnB1.ptb hu (by rw [(p0m l0Z h0z).2, List.length_append, a0Q, a0Q]; decide))
 replace FF := qH (FF.out.then hf)
 clear ho hu hf HONE HB2
 obtain ⟨a1, n1, c1, he1, k1⟩ := HV.out
 subst he1
 have HV2 := qH (show PartIs _ (.slice a1 n1 c1) (a0W gP) from ⟨a1, n1, c1, rfl, k1⟩)
 clear k1 HV
 obtain ⟨a2, n2, c2, he2, k2⟩ := HU.out
 subst he2
 have HU2 := qH (show PartIs _ (.slice a2 n2 c2) (smS s0e (a0W gP)) from ⟨a2, n2, c2, rfl, k2⟩)
 clear k2 HU
 go_wp2_with fail
 refine (l0E _).mono ?_
 rintro e' w5 ⟨vb3, rfl, ho, hf⟩
 have HC := qH (OwnB1.ptb ho (by rw [b0F]; decide))
 replace FF := qH (FF.out.then hf)
 replace HV2 := qH (HV2.out.still hf)
 replace HU2 := qH (HU2.out.still hf)
 clear ho hf
 obtain ⟨a3, n3, c3, he3, k3⟩ := HC.out
 subst he3
 have HC2 := qH (show PartIs _ (.slice a3 n3 c3) (a0W gP) from ⟨a3, n3, c3, rfl, k3⟩)
 clear k3 HC
 go_wp2_with fail
 refine (l0E _).mono ?_
 rintro e' w6 ⟨vb4, rfl, ho, hf⟩
 have HD := qH (OwnB1.ptb ho (by rw [b0F]; decide))
 replace FF := qH (FF.out.then hf)
 replace HV2 := qH (HV2.out.still hf)
 replace HU2 := qH (HU2.out.still hf)
 replace HC2 := qH (HC2.out.still hf)
 clear ho hf
 obtain ⟨a4, n4, c4, he4, k4⟩ := HD.out
 subst he4
 have HD2 := qH (show PartIs _ (.slice a4 n4 c4) (a0W gP) from ⟨a4, n4, c4, rfl, k4⟩)
 clear k4 HD
 go_wp2_with fail
 have hv := v0p a3 n3 c3 (a0W gP) a4 n4 c4 (a0W gP) a1 n1 c1 (a0W gP) a2 n2 c2 (smS s0e (a0W gP)) w6 HC2.out HD2.out HV2.out HU2.out
 rw [D0c] at hv
 refine hv.mono ?_
 clear hv
 rintro e' w7 ⟨rfl, hf⟩
 have FW := qH (FF.out.then hf)
 replace HV2 := qH (HV2.out.still hf)
 clear hf FF HC2 HD2 HU2
 have stA := St.start Nob w7
 go_wp2_with fail
 refine wp_region_noPanic ?_
 have hd7 := stA.drew
 clear stA
 refine f0V (fun wx => St Nob w7 wx [] ∧ Fr Nob (World.drew _) wx) [0, 1, 2, 3, 4, 5, 6, 7, 8, 9, 10, 11] [] (fun i => match i with | 0 => [] | 1 => [0] | 2 => [1] | 3 => [2] | 4 => [3, 2] | 5 => [2] | 6 => [5, 2] | 7 => [4, 6, 2] | 8 => [2, 7] | 9 => [8] | 10 => [9] | 11 => [10, 9] | _ => []) (fun i x wx => match i with | 0 => x 0 = .int .i64 0 | 1 => x 1 = .bool false | 2 => x 2 = .bool false | 3 => x 3 = .slice a1 n1 c1 | 4 => x 4 = .string (mkS (a0W gP)) | 5 => ∃ y : Option Addr × Nat, x 5 = .slice y.1 33 y.2 ∧ BPart wx (.slice y.1 33 y.2) (a0W gP) | 6 => x 6 = .string (mkS (a0W gP)) | 7 => x 7 = .bool false | 8 => x 8 = .bool false | 9 => x 9 = .bool false | 10 => x 10 = .bool true | 11 => x 11 = .bool false | _ => True) 12 (.m 12 .nil) ?_ (fun x => ?_) ap12 ap12 (fun _ _ _ _ _ h => h) ⟨hd7, Fr.refl _ _⟩ (fun _ _ h k => ⟨h.1.keep k, h.2.then k⟩) ?_ ?_
 rotate_left 1
 ·simp only [h0O, A0V, Act.put, List.getElem?_toArray, List.getElem?_cons_zero, List.getElem?_cons_succ, List.setIfInBounds_toArray, List.set_cons_zero, List.set_cons_succ]
  exact rfl
 refine b0i rfl rfl (fun x wx hG hp => ?_) (fun y _ _ h k => h) ?_
 ·try dsimp only
  clear hp
  exact e0m (v := .int .i64 0) ap7 rfl
 refine b0i rfl rfl (fun x wx hG hp => ?_) (fun y _ _ h k => h) ?_
 ·try dsimp only
  have e0 : x 0 = .int .i64 0 := hp 0 ap13
  generalize x 0 = v0 at e0 ⊢
  subst e0
  clear hp
  exact e0m (v := .bool false) ap7 rfl
 refine b0i rfl rfl (fun x wx hG hp => ?_) (fun y _ _ h k => h) ?_
 ·try dsimp only
  have e1 : x 1 = .bool false := hp 1 ap13
  generalize x 1 = v1 at e1 ⊢
  subst e1
  clear hp
  exact e0m (v := .bool false) ap7 rfl
 refine d0i rfl rfl (fun x wx hG hp => ?_) (fun x wx hG hp => ?_) (fun y _ _ h k => h) ?_
 ·try dsimp only
  have e2 : x 2 = .bool false := hp 2 ap13
  generalize x 2 = v2 at e2 ⊢
  subst e2
  clear hp
  rfl
 ·try dsimp only
  have e2 : x 2 = .bool false := hp 2 ap13
  generalize x 2 = v2 at e2 ⊢
  subst e2
  clear hp
  exact e0m (v := .slice a1 n1 c1) ap7 rfl
 refine d0i rfl rfl (fun x wx hG hp => ?_) (fun x wx hG hp => ?_) (fun y _ _ h k => h) ?_
 ·try dsimp only
  have e2 : x 2 = .bool false := hp 2 ap13
  generalize x 2 = v2 at e2 ⊢
  subst e2
  clear hp
  rfl
 ·try dsimp only
  have e3 : x 3 = .slice a1 n1 c1 := hp 3 ap13
  generalize x 3 = v3 at e3 ⊢
  subst e3
  have e2 : x 2 = .bool false := hp 2 ap13
  generalize x 2 = v2 at e2 ⊢
  subst e2
  clear hp
  exact e0m (h0f rfl Tryz.underlying22 Tryz.underlying5 Tryz.underlying9 rfl (d0Y (HV2.out.still hG.1.fr))) rfl
 refine d0i rfl rfl (fun x wx hG hp => ?_) (fun x wx hG hp => ?_) (fun y _ _ h k => by obtain ⟨y, h1, h2⟩ := h; exact ⟨y, h1, h2.still k⟩) ?_
 ·try dsimp only
  have e2 : x 2 = .bool false := hp 2 ap13
  generalize x 2 = v2 at e2 ⊢
  subst e2
  clear hp
  rfl
 ·try dsimp only
  have e2 : x 2 = .bool false := hp 2 ap13
  generalize x 2 = v2 at e2 ⊢
  subst e2
  clear hp
  refine n0I rfl Tryz.call29 (vs := []) rfl ?_
  refine (p0h _).mono ?_
  rintro e w' ⟨y, rfl, hb, hf⟩
  exact ⟨_, rfl, hf, y, rfl, hb⟩
 refine d0i rfl rfl (fun x wx hG hp => ?_) (fun x wx hG hp => ?_) (fun y _ _ h k => h) ?_
 ·try dsimp only
  have e2 : x 2 = .bool false := hp 2 ap13
  generalize x 2 = v2 at e2 ⊢
  subst e2
  clear hp
  rfl
 ·try dsimp only
  have e5 : ∃ y : Option Addr × Nat, x 5 = .slice y.1 33 y.2 ∧ BPart wx (.slice y.1 33 y.2) (a0W gP) := hp 5 ap13
  obtain ⟨yb, e5, HYB⟩ := e5
  generalize x 5 = v5 at e5 ⊢
  subst e5
  have e2 : x 2 = .bool false := hp 2 ap13
  generalize x 2 = v2 at e2 ⊢
  subst e2
  clear hp
  obtain ⟨a0, n0, c0, he0, -, hr0⟩ := HYB
  cases he0
  exact e0m (h0f rfl Tryz.underlying22 Tryz.underlying5 Tryz.underlying9 rfl hr0) rfl
 refine d0i rfl rfl (fun x wx hG hp => ?_) (fun x wx hG hp => ?_) (fun y _ _ h k => h) ?_
 ·try dsimp only
  have e2 : x 2 = .bool false := hp 2 ap13
  generalize x 2 = v2 at e2 ⊢
  subst e2
  clear hp
  rfl
 ·try dsimp only
  have e4 : x 4 = .string (mkS (a0W gP)) := hp 4 ap13
  generalize x 4 = v4 at e4 ⊢
  subst e4
  have e6 : x 6 = .string (mkS (a0W gP)) := hp 6 ap13
  generalize x 6 = v6 at e6 ⊢
  subst e6
  have e2 : x 2 = .bool false := hp 2 ap13
  generalize x 2 = v2 at e2 ⊢
  subst e2
  clear hp
  exact e0m (v := .bool false) (by go_simp; try simp) rfl
 refine b0i rfl rfl (fun x wx hG hp => ?_) (fun y _ _ h k => h) ?_
 ·try dsimp only
  have e2 : x 2 = .bool false := hp 2 ap13
  generalize x 2 = v2 at e2 ⊢
  subst e2
  have e7 : x 7 = .bool false := hp 7 ap13
  generalize x 7 = v7 at e7 ⊢
  subst e7
  clear hp
  exact e0m (v := .bool false) ap7 rfl
 refine b0i rfl rfl (fun x wx hG hp => ?_) (fun y _ _ h k => h) ?_
 ·try dsimp only
  have e8 : x 8 = .bool false := hp 8 ap13
  generalize x 8 = v8 at e8 ⊢
  subst e8
  clear hp
  exact e0m (v := .bool false) ap7 rfl
 refine d0i rfl rfl (fun x wx hG hp => ?_) (fun x wx hG hp => ?_) (fun y _ _ h k => h) ?_
 ·try dsimp only
  have e9 : x 9 = .bool false := hp 9 ap13
  generalize x 9 = v9 at e9 ⊢
  subst e9
  clear hp
  rfl
 ·try dsimp only
  have e9 : x 9 = .bool false := hp 9 ap13
  generalize x 9 = v9 at e9 ⊢
  subst e9
  clear hp
  exact e0m (v := .bool true) ap7 rfl
 refine d0i rfl rfl (fun x wx hG hp => ?_) (fun x wx hG hp => ?_) (fun y _ _ h k => h) ?_
 ·try dsimp only
  have e9 : x 9 = .bool false := hp 9 ap13
  generalize x 9 = v9 at e9 ⊢
  subst e9
  clear hp
  rfl
 ·try dsimp only
  have e10 : x 10 = .bool true := hp 10 ap13
  generalize x 10 = v10 at e10 ⊢
  subst e10
  have e9 : x 9 = .bool false := hp 9 ap13
  generalize x 9 = v9 at e9 ⊢
  subst e9
  clear hp
  exact e0m (v := .bool false) ap7 rfl
 exact trivial
 intro x w8 hG hp
 try dsimp only
 have e9 : x 9 = .bool false := hp 9 ap13
 generalize x 9 = v9 at e9 ⊢
 subst e9
 have e11 : x 11 = .bool false := hp 11 ap13
 generalize x 11 = v11 at e11 ⊢
 subst e11
 clear hp
 generalize x 0 = v0
 generalize x 1 = v1
 generalize x 2 = v2
 generalize x 3 = v3
 generalize x 4 = v4
 generalize x 5 = v5
 generalize x 6 = v6
 generalize x 7 = v7
 generalize x 8 = v8
 generalize x 10 = v10
 have st8 := hG.1
 clear hG hd7
 refine a0q rfl rfl ?_
 go_simp
 try simp only [clL]
 refine a0i ?_
 refine NoPanic.normal ?_
 clear HV2
 by_cases hz0 : 4096 < k.size
 ·have hJ : (4096 : Int) < (k.size : Int) := by omega
  have hfr := FW.out.then st8.fr
  clear st8
  go_wp2_with fail
  go_ret
  exact ⟨rfl, hfr⟩
 have hI0 : ¬ ((4096 : Int) < (k.size : Int)) := by omega
 have HSk := qH (show k.size ≤ 4096 by omega)
 clear hz0
 by_cases hz1 : 4096 < q.size
 ·have hJ : (4096 : Int) < (q.size : Int) := by omega
  have hfr := FW.out.then st8.fr
  clear st8
  go_wp2_with fail
  go_ret
  exact ⟨rfl, hfr⟩
 have hI1 : ¬ ((4096 : Int) < (q.size : Int)) := by omega
 have HSq := qH (show q.size ≤ 4096 by omega)
 clear hz1
 by_cases hz2 : 4096 < a.size
 ·have hJ : (4096 : Int) < (a.size : Int) := by omega
  have hfr := FW.out.then st8.fr
  clear st8
  go_wp2_with fail
  go_ret
  exact ⟨rfl, hfr⟩
 have hI2 : ¬ ((4096 : Int) < (a.size : Int)) := by omega
 have HSa := qH (show a.size ≤ 4096 by omega)
 clear hz2
 by_cases hz3 : 4096 < b.size
 ·have hJ : (4096 : Int) < (b.size : Int) := by omega
  have hfr := FW.out.then st8.fr
  clear st8
  go_wp2_with fail
  go_ret
  exact ⟨rfl, hfr⟩
 have hI3 : ¬ ((4096 : Int) < (b.size : Int)) := by omega
 have HSb := qH (show b.size ≤ 4096 by omega)
 clear hz3
 by_cases hz4 : 4096 < s.size
 ·have hJ : (4096 : Int) < (s.size : Int) := by omega
  have hfr := FW.out.then st8.fr
  clear st8
  go_wp2_with fail
  go_ret
  exact ⟨rfl, hfr⟩
 have hI4 : ¬ ((4096 : Int) < (s.size : Int)) := by omega
 have HSs := qH (show s.size ≤ 4096 by omega)
 clear hz4
 go_wp2_with (with_reducible refine wSk 78 ?_)
 refine c0k (q := k) rfl rfl Tryz.underlying9 Tryz.underlying22 Tryz.underlying5 rfl (by have := HSk.out; unfold maxLen; omega) 0 (Nat.zero_le _) ?_
 intro capk w9 ho hf hz
 have st9 := st8.keep hf
 clear hz
 have HPk := qH (b0O ho (by have := HSk.out; omega))
 clear hf st8
 clear ho
 go_wp2_with (with_reducible refine wSk 80 ?_)
 refine c0k (q := q) rfl rfl Tryz.underlying9 Tryz.underlying22 Tryz.underlying5 rfl (by have := HSq.out; unfold maxLen; omega) 0 (Nat.zero_le _) ?_
 intro capq w10 ho hf hz
 have st10 := st9.keep hf
 replace HPk := qH (HPk.out.still hf)
 clear hz
 have HPq := qH (b0O ho (by have := HSq.out; omega))
 clear hf st9
 clear ho
 clear hI0 hI1 hI2 hI3 hI4
 obtain ⟨aak, nnk, cck, hek, kkk⟩ := HPk.out
 cases hek
 clear kkk
 obtain ⟨aaq, nnq, ccq, heq, kkq⟩ := HPq.out
 cases heq
 clear kkq
 go_wp2_with fail
 refine (v0o _ _ _ k.data.toList _ _ _ q.data.toList _ HPk.out HPq.out).mono ?_
 rintro e' w11 ⟨v1, v2, rfl, ho, hu, hf⟩
 have st11 := st10.keep hf
 replace HPk := qH (HPk.out.still hf)
 replace HPq := qH (HPq.out.still hf)
 have HV1 := qH (OwnB1.ptb ho (bs_len _ _))
 have HV2 := qH (OwnB1.ptb hu (y0W _ _))
 clear ho hu
 clear hf st10
 clear HPk HPq
 go_wp2_with fail
 refine (x0X k q HSk.out HSq.out _).mono ?_
 rintro e' w12 ⟨rfl, hf⟩
 have st12 := st11.keep hf
 replace HV1 := qH (HV1.out.still hf)
 replace HV2 := qH (HV2.out.still hf)
 clear hf st11
 have HL1 := qH (bs_len k.data.toList q.data.toList)
 have HL2 := qH (y0W k.data.toList q.data.toList)
 generalize hb1 : smE k.data.toList q.data.toList = be at *
 generalize hb2 : smS k.data.toList q.data.toList = bz at *
 generalize hb3 : bsS k.data.toList q.data.toList = by_ at *
 clear hb1 hb2 hb3
 obtain ⟨aav, nnv, ccv, hev, kkv⟩ := HV1.out
 cases hev
 clear kkv
 obtain ⟨aau, nnu, ccu, heu, kku⟩ := HV2.out
 cases heu
 clear kku
 have FA := qH (FW.out.then st12.fr)
 clear st12 FW
 go_wp2_with (with_reducible refine wSk 92 ?_)
 refine p0W rfl rfl Tryz.underlying22 b0g ?_
 intro wq1 ho hf hz
 clear hz
 have HO1 := qH ho
 have HBHO1 := qH hf.size
 have F1 := qH hf
 have HVa := qH (HV1.out.still hf)
 clear ho hf
 generalize hbase : w12.heap.size = B0 at *
 have HB0 := qH hbase
 clear hbase
 go_wp2_with (with_reducible refine wSk 94 ?_)
 refine b0Y rfl rfl Tryz.underlying22 b0g rfl ap13 HO1.out rfl rfl (show Rd _ _ (_ * 1) (bs by_) by rw [Nat.mul_one]; exact d0Y HVa.out) (g0i _) (by have h := d0Z HVa.out; have := HL1.out; unfold maxLen; omega) (by have h := d0Z HVa.out; have := HL1.out; omega) HBHO1.out ?_
 intro vq1 wq2 ho hf hb
 clear hb
 rw [List.nil_append, Nat.zero_add, ← d0Z HVa.out] at ho
 have F2 := qH (HO1.out.fr F1.out (Nat.le_of_eq HB0.out) hf)
 have HQ1 := qH ho
 clear ho hf HO1 HBHO1 F1 HVa
 go_wp2_with (with_reducible refine wSk 95 ?_)
 refine p0W rfl rfl Tryz.underlying22 b0g ?_
 intro wq3 ho hf hz
 clear hz
 have HO3 := qH ho
 have HBHO3 := qH hf.size
 have F3 := qH hf
 have HQ3 := qH (HQ1.out.still hf)
 have FB3 := qH (F2.out.then hf)
 have HVb := qH (HV2.out.still (F2.out.then hf))
 have HS2 := qH F2.out.size
 have HQL := qH (fun k hk => (HQ1.out.lt (k := k) hk).2)
 clear ho hf HQ1
 generalize hbase : wq2.heap.size = B1 at *
 have HB1 := qH hbase
 clear hbase
 go_wp2_with (with_reducible refine wSk 97 ?_)
 refine b0Y rfl rfl Tryz.underlying22 b0g rfl ap13 HO3.out rfl rfl (show Rd _ _ (_ * 1) (bs bz) by rw [Nat.mul_one]; exact d0Y HVb.out) (g0i _) (by have h := d0Z HVb.out; have := HL2.out; unfold maxLen; omega) (by have h := d0Z HVb.out; have := HL2.out; omega) HBHO3.out ?_
 intro vq2 wq4 ho hf hb
 clear hb
 rw [List.nil_append, Nat.zero_add, ← d0Z HVb.out] at ho
 have F4 := qH (HO3.out.fr (F3.out) (Nat.le_of_eq HB1.out) hf)
 have HQ4 := qH (HQ3.out.keep hf (fun k hk hk2 => by have h1 := HQL.out k hk; have h2 := (HO3.out.lt (k := k) hk2).1; omega))
 have HQ5 := qH ho
 have FB4 := qH (F2.out.then F4.out)
 clear ho hf HO3 HBHO3 F3 HQ3 FB3 HVb F4
 obtain ⟨ax1, cx1, rfl, -⟩ := HQ4.out.form
 obtain ⟨ax2, cx2, rfl, -⟩ := HQ5.out.form
 go_wp2_with (with_reducible refine wSk 98 ?_)
 refine b0P rfl rfl Tryz.underlying39 c0l [.slice ax1 by_.length cx1, .slice ax2 bz.length cx2] rfl (by simp; exact ⟨rfl, rfl⟩) rfl rfl ?_
 intro wq5 hh hf hz
 clear hz
 have FB5 := qH (FB4.out.then hf)
 have HQ6 := qH (HQ4.out.still hf)
 have HQ7 := qH ((HQ5.out.mono (show B0 ≤ B1 by have h := HS2.out; have h2 := HB0.out; have h3 := HB1.out; omega)).still hf)
 have HSEP := qH (show Sep [.slice ax1 by_.length cx1, .slice ax2 bz.length cx2] from by unfold Sep; refine List.pairwise_cons.2 ⟨?_, List.pairwise_singleton _ _⟩; intro x hx k hk hk2; simp only [List.mem_singleton] at hx; subst hx; have h1 := HQL.out k hk; have h2 := (HQ5.out.lt (k := k) hk2).1; omega)
 have HOL := qH (Own.made hh B0 (by have h := FB4.out.size; have h2 := HB0.out; omega) 1 2 2 (Nat.le_refl _) ap13 ap15)
 have HB5 := qH (show B0 ≤ wq5.heap.size by have h := FB4.out.size; have h1 := hf.size; have h2 := HB0.out; omega)
 clear hh hf HQ4 HQ5 HQL HS2 HB1 FB4
 generalize wq4.heap.size = gl98 at *
 go_wp2_with fail
 refine (v0k (.slice (some ⟨gl98, 0, none⟩) 2 2) B0 2 [.slice ax1 by_.length cx1, .slice ax2 bz.length cx2] [by_, bz] wq5 HOL.out ⟨HQ6.out, HQ7.out, trivial⟩ HSEP.out ap13 (by intro x hx; simp only [List.mem_cons, List.not_mem_nil, or_false] at hx; rcases hx with rfl | rfl; exact HL1.out; exact HL2.out) HB5.out).mono ?_
 rintro e' w90 ⟨rfl, hf⟩
 rw [← HB0.out] at hf
 replace HV1 := qH (v0q HV1.out FB5.out hf)
 replace HV2 := qH (v0q HV2.out FB5.out hf)
 have FZ := qH (FA.out.then (FB5.out.trans hf (fun i hi hu => by have h2 : w12.heap.size ≤ i := hu; omega)))
 clear hf FB5 HQ6 HQ7 HSEP HOL HB5 HB0 FA F2
 have stC := St.start Nob w90
 go_wp2_with (with_reducible refine wSk 101 ?_)
 refine c0k (q := a) rfl rfl Tryz.underlying9 Tryz.underlying22 Tryz.underlying5 rfl (by have := HSa.out; unfold maxLen; omega) 0 (Nat.zero_le _) ?_
 intro capa w91 ho hf hz
 have st91 := stC.keep hf
 replace HV1 := qH (HV1.out.still hf)
 replace HV2 := qH (HV2.out.still hf)
 clear hz
 have HPa := qH (b0O ho (by have := HSa.out; omega))
 clear hf stC
 clear ho
 go_wp2_with (with_reducible refine wSk 103 ?_)
 refine c0k (q := q) rfl rfl Tryz.underlying9 Tryz.underlying22 Tryz.underlying5 rfl (by have := HSq.out; unfold maxLen; omega) 0 (Nat.zero_le _) ?_
 intro capq w92 ho hf hz
 have st92 := st91.keep hf
 replace HV1 := qH (HV1.out.still hf)
 replace HV2 := qH (HV2.out.still hf)
 replace HPa := qH (HPa.out.still hf)
 clear hz
 have HPr := qH (b0O ho (by have := HSq.out; omega))
 clear hf st91
 clear ho
 go_wp2_with (with_reducible refine wSk 105 ?_)
 refine c0k (q := b) rfl rfl Tryz.underlying9 Tryz.underlying22 Tryz.underlying5 rfl (by have := HSb.out; unfold maxLen; omega) 0 (Nat.zero_le _) ?_
 intro capb w93 ho hf hz
 have st93 := st92.keep hf
 replace HV1 := qH (HV1.out.still hf)
 replace HV2 := qH (HV2.out.still hf)
 replace HPa := qH (HPa.out.still hf)
 replace HPr := qH (HPr.out.still hf)
 clear hz
 have HPb := qH (b0O ho (by have := HSb.out; omega))
 clear hf st92
 clear ho
 go_wp2_with (with_reducible refine wSk 107 ?_)
 refine c0k (q := s) rfl rfl Tryz.underlying9 Tryz.underlying22 Tryz.underlying5 rfl (by have := HSs.out; unfold maxLen; omega) 0 (Nat.zero_le _) ?_
 intro caps w94 ho hf hz
 have st94 := st93.keep hf
 replace HV1 := qH (HV1.out.still hf)
 replace HV2 := qH (HV2.out.still hf)
 replace HPa := qH (HPa.out.still hf)
 replace HPr := qH (HPr.out.still hf)
 replace HPb := qH (HPb.out.still hf)
 clear hz
 have HPs := qH (b0O ho (by have := HSs.out; omega))
 clear hf st93
 clear ho
 obtain ⟨aaa, nna, cca, hea, kka⟩ := HPa.out
 cases hea
 clear kka
 obtain ⟨aar, nnr, ccr, her, kkr⟩ := HPr.out
 cases her
 clear kkr
 obtain ⟨aab, nnb, ccb, heb, kkb⟩ := HPb.out
 cases heb
 clear kkb
 obtain ⟨aas, nns, ccs, hes, kks⟩ := HPs.out
 cases hes
 clear kks
 go_wp2_with fail
 refine (v0p _ _ _ a.data.toList _ _ _ q.data.toList _ _ _ b.data.toList _ _ _ s.data.toList _ HPa.out HPr.out HPb.out HPs.out).mono ?_
 rintro e' w95 ⟨rfl, hf⟩
 have st95 := st94.keep hf
 replace HV1 := qH (HV1.out.still hf)
 replace HV2 := qH (HV2.out.still hf)
 replace HPa := qH (HPa.out.still hf)
 replace HPr := qH (HPr.out.still hf)
 replace HPb := qH (HPb.out.still hf)
 replace HPs := qH (HPs.out.still hf)
 clear hf st94
 clear HPa HPr HPb HPs
 go_wp2_with fail
 refine (l0Y a q b s HSa.out HSq.out HSb.out _).mono ?_
 rintro e' w96 ⟨rfl, hf⟩
 have st96 := st95.keep hf
 replace HV1 := qH (HV1.out.still hf)
 replace HV2 := qH (HV2.out.still hf)
 clear hf st95
 generalize hb3 : vsB a.data.toList q.data.toList b.data.toList s.data.toList = bq at *
 clear hb3
 have xv := d0J (P := Tryz.prog) (d0Y HV1.out) ccv Tryz.underlying22 Tryz.underlying5 Tryz.underlying9
 have xu := d0J (P := Tryz.prog) (d0Y HV2.out) ccu Tryz.underlying22 Tryz.underlying5 Tryz.underlying9
 have hfr := FZ.out.then st96.fr
 clear st96 FZ HV1 HV2 HL1 HL2
 cases bq <;> (go_wp2_with fail; go_ret; exact ⟨rfl, hfr⟩)
end
end Go.Proofs.YtemcankmggmgoaaGreat
