/- ; ; ; ; ; ; ; ; ; ; ; . -/
import Derived.Test.YtemcankmggmgoaaGreatMgSigmaSignsProof8
import Derived.RangeFuncNested
import Derived.RangeFuncBound
import Derived.RangeFuncCalls
import Derived.RangeFuncLeaves
import Derived.Test.YtemcankmggmgoaaGreatMgSigmaSignsProof9
import Derived.Deep.DeepCutAuto
import Derived.Test.YtemcankmggmgoaaGreatMgSigmaSignsProof7
import Derived.IntWalk
import Derived.Test.YtemcankmggmgoaaGreatMgSigmaSignsProof1
set_option maxHeartbeats 16000000
set_option maxRecDepth 1000000

namespace Go.Mv
open Go.RowKit
variable {P : Program} {ops : Array Oper} {Q : Exit → Act → World → Prop} {a : Act} {w : World} {rest : List Oper} {o : Oper} {n l : Nat}
end Go.Mv
namespace Go.Mv
open Go.RowKit
theorem Fr.grown {a b : World} (h : Fr Nob a b) : a.grownBy b none := ⟨h.os, h.tape, h.output, h.size, fun k hk _ => h.block k hk id⟩
end Go.Mv
namespace Go.Proofs.YtemcankmggmgoaaGreat
open Go.RowKit Go.Mv Mvp Mvq
attribute [local irreducible] a0F lw mix cw b0n b0v b0k a0M a0q beN b0C b0i b0z a0J a0R elN mdL b0o rtN rtV b0T gXn gYn PT.L k0l j0R e0M tbL tmR tmL dbN g0S g0v j0V dig rdT d0A e0L ptL g0w e0T b0Z b0w b0L toB a0x a0K b0x c0q a0O c0r b0t a0I c0A hB hN i0p i0q atY e0G r0k
end Go.Proofs.YtemcankmggmgoaaGreat
namespace Go.Mv
open Go.RowKit
end Go.Mv
namespace Go.Proofs.YtemcankmggmgoaaGreat
section
open Go.RowKit Go.Mv Mvp Mvq
attribute [local irreducible] a0F lw mix cw b0n b0v b0k a0M a0q beN b0C b0i b0z a0J a0R elN mdL b0o rtN rtV b0T gXn gYn PT.L k0l j0R e0M tbL tmR tmL dbN g0S g0v j0V dig rdT d0A e0L ptL g0w e0T b0Z c0A hB hN i0p i0q m0W atY e0G r0k
end
section
open Go.RowKit Go.Mv Mvp Mvq
def y0T : List UInt8 := [118, 97, 108, 117, 101]
attribute [local irreducible] a0F lw mix cw b0n b0v b0k a0M a0q beN b0C b0i b0z a0J a0R elN mdL b0o rtN rtV b0T gXn gYn PT.L k0l j0R e0M tbL tmR tmL dbN g0S g0v j0V dig rdT d0A e0L ptL g0w e0T b0Z c0A hB hN i0p i0q m0W atY e0G r0k
end
section
open Go.RowKit Go.Mv Mvp Mvq
attribute [local irreducible] m0W
attribute [local irreducible] a0F lw mix cw b0n b0v b0k a0M a0q beN b0C b0i b0z a0J a0R elN mdL b0o rtV b0T b0Z d0A e0L e0T b0b c0A hB hN i0p i0q
end
section
open Go.RowKit Go.Mv Mvp Mvq
attribute [local irreducible] a0F lw mix cw b0n b0v b0k a0M a0q beN b0C b0i b0z a0J a0R elN mdL b0o rtV b0T b0Z d0A e0L e0T b0b c0A hB hN i0p i0q tC tS
end
section
open Go.RowKit Go.Mv Mvp Mvq
noncomputable def aR : (p : Pt) → onC p → RT
 | .A x y, h => z0I x y h
 | .O, _ => noR
noncomputable def x0g (lab l : List UInt8) : RT := aR (m0W lab l).pt (m0W lab l).onP
attribute [local irreducible] a0F lw mix cw b0n b0v b0k a0M a0q beN b0C b0i b0z a0J a0R elN mdL b0o rtV b0T kN kc c0b b0Z f0P noR c0c f0c RT.L c0A hB hN i0p i0q m0W atY e0G r0k rpL mkS
attribute [local irreducible] x0g
noncomputable def hRR : RT := x0g y0T []
end
section
open Go.RowKit Go.Mv Mvp Mvq
attribute [local irreducible] hRR m0W x0g PT.pt l0C
attribute [local irreducible] a0F lw mix cw b0n b0v b0k a0M a0q beN b0C b0i b0z a0J a0R elN mdL b0o rtV b0T kN kc c0b b0Z f0P noR c0c f0c RT.L gXn gYn rpL d0A e0L c0A hB hN i0p i0q mkS
end
section
open Go.RowKit Go.Mv Mvp Mvq
theorem y0U (N : Nat) (w : World) : Calls Tryz.prog 123 #[i4 N] w fun e w' => e = .returned (.bool (decide (N % B64 ^ 4 = 0))) ∧ Fr Nob w w' := by
 have h := j0v (N % B64 ^ 4) w (Nat.mod_lt _ (by decide))
 unfold i4 at h ⊢
 rwa [cw_mod] at h
attribute [local irreducible] a0F lw mix cw b0n b0v b0k a0M a0q beN b0C b0i b0z a0J a0R elN mdL b0o rtV b0T kN kc c0b b0Z f0P noR c0c f0c RT.L c0A hB hN i0p i0q rpL mkS
theorem x0h (s : ByteArray) (hq : b0o mQ s.data.toList = false) (w : World) : Calls Tryz.prog 52 #[.string s] w fun e w' => ∃ N : Nat, e = .returned (.tuple #[i4 N, .bool false]) ∧ (b0o mQ s.data.toList = true → N = beN s.data.toList) ∧ Fr Nob w w' := by
 have HQ := qH hq
 clear hq
 have st0 := St.start Nob w
 go_enter Tryz.func52, Tryz.ntmps52
 go_wp2_with (with_reducible refine wSk 2 ?_)
 refine a0c st0 rfl rfl (z := zAd) (by kernel_rfl) (cw 4 0) (by rw [a0e]; rfl) ?_
 intro g2 w1 st1
 clear st0
 go_wp2_with fail
 refine (y0R _).mono ?_
 rintro e' w2 ⟨rfl, hf2⟩
 have st2 := st1.keep hf2
 clear st1 hf2
 go_wp2_with fail
 refine (r0X s _).mono ?_
 rintro e' w3 ⟨N, rfl, hn, hf3⟩
 have st3 := st2.keep hf3
 have HN := qH hn
 clear hn
 clear st2 hf3
 go_wp2_with (with_reducible refine wSk 4 ?_)
 refine a0c st3 rfl rfl (z := zAd) (by kernel_rfl) (cw 4 0) (by rw [a0e]; rfl) ?_
 intro g4 w4 st4
 clear st3
 go_wp2_with (with_reducible refine wSn ?_)
 refine a0b st4 1 rfl rfl rfl rfl rfl (by first | (simp only [a0a]; done) | (simp only [List.length_append, a0a, RT.len, a0v]; done)) (by first | (rw [a0a]; kernel_rfl) | (rw [RT.len]; kernel_rfl) | (rw [a0v]; kernel_rfl) | (simp only [List.length_append, a0a]; kernel_rfl) | (simp only [List.length_append, a0a, RT.len, a0v]; kernel_rfl)) (a0g _ _) ?_
 intro w5 st5
 clear st4
 rw [HQ.out]
 go_wp2_with (with_reducible refine wSk 13 ?_)
 refine a0i st5 1 rfl rfl rfl Tryz.underlying60 rfl (by first | (rw [a0a]; kernel_rfl) | (rw [RT.len]; kernel_rfl) | (rw [a0v]; kernel_rfl) | (simp only [List.length_append, a0a]; kernel_rfl) | (simp only [List.length_append, a0a, RT.len, a0v]; kernel_rfl)) ?_
 go_wp2_with fail
 refine (y0U N _).mono ?_
 rintro e' w6 ⟨rfl, hf6⟩
 have st6 := st5.keep hf6
 clear st5 hf6
 generalize hz : decide (N % B64 ^ 4 = 0) = z at *
 have HZ := qH hz
 clear hz
 go_wp2_with (with_reducible refine wSk 15 ?_)
 refine a0i st6 1 rfl rfl rfl Tryz.underlying60 rfl (by first | (rw [a0a]; kernel_rfl) | (rw [RT.len]; kernel_rfl) | (rw [a0v]; kernel_rfl) | (simp only [List.length_append, a0a]; kernel_rfl) | (simp only [List.length_append, a0a, RT.len, a0v]; kernel_rfl)) ?_
 go_wp2_with (with_reducible refine wSn ?_)
 refine a0b st6 0 rfl rfl rfl rfl rfl (by first | (simp only [a0a]; done) | (simp only [List.length_append, a0a, RT.len, a0v]; done)) (by first | (rw [a0a]; kernel_rfl) | (rw [RT.len]; kernel_rfl) | (rw [a0v]; kernel_rfl) | (simp only [List.length_append, a0a]; kernel_rfl) | (simp only [List.length_append, a0a, RT.len, a0v]; kernel_rfl)) (a0g _ _) ?_
 intro w7 st7
 clear st6
 have hr := st7.at 0 rfl
 have hfr := st7.fr
 clear st7
 go_wp2_with fail
 exact bodyPost_ret (a0P rfl rfl hr Tryz.underlying60 rfl (by first | (rw [a0a]; kernel_rfl) | (rw [RT.len]; kernel_rfl) | (rw [a0v]; kernel_rfl) | (simp only [List.length_append, a0a]; kernel_rfl) | (simp only [List.length_append, a0a, RT.len, a0v]; kernel_rfl)) rfl) rfl ⟨N, rfl, HN.out, hfr⟩
theorem x0i (s : ByteArray) (hq : b0o mQ s.data.toList = true) (w : World) : Calls Tryz.prog 52 #[.string s] w fun e w' => ∃ N : Nat, e = .returned (.tuple #[i4 N, .bool (!decide (N % B64 ^ 4 = 0))]) ∧ (b0o mQ s.data.toList = true → N = beN s.data.toList) ∧ Fr Nob w w' := by
 have HQ := qH hq
 clear hq
 have st0 := St.start Nob w
 go_enter Tryz.func52, Tryz.ntmps52
 go_wp2_with (with_reducible refine wSk 2 ?_)
 refine a0c st0 rfl rfl (z := zAd) (by kernel_rfl) (cw 4 0) (by rw [a0e]; rfl) ?_
 intro g2 w1 st1
 clear st0
 go_wp2_with fail
 refine (y0R _).mono ?_
 rintro e' w2 ⟨rfl, hf2⟩
 have st2 := st1.keep hf2
 clear st1 hf2
 go_wp2_with fail
 refine (r0X s _).mono ?_
 rintro e' w3 ⟨N, rfl, hn, hf3⟩
 have st3 := st2.keep hf3
 have HN := qH hn
 clear hn
 clear st2 hf3
 go_wp2_with (with_reducible refine wSk 4 ?_)
 refine a0c st3 rfl rfl (z := zAd) (by kernel_rfl) (cw 4 0) (by rw [a0e]; rfl) ?_
 intro g4 w4 st4
 clear st3
 go_wp2_with (with_reducible refine wSn ?_)
 refine a0b st4 1 rfl rfl rfl rfl rfl (by first | (simp only [a0a]; done) | (simp only [List.length_append, a0a, RT.len, a0v]; done)) (by first | (rw [a0a]; kernel_rfl) | (rw [RT.len]; kernel_rfl) | (rw [a0v]; kernel_rfl) | (simp only [List.length_append, a0a]; kernel_rfl) | (simp only [List.length_append, a0a, RT.len, a0v]; kernel_rfl)) (a0g _ _) ?_
 intro w5 st5
 clear st4
 rw [HQ.out]
 go_wp2_with (with_reducible refine wSk 13 ?_)
 refine a0i st5 1 rfl rfl rfl Tryz.underlying60 rfl (by first | (rw [a0a]; kernel_rfl) | (rw [RT.len]; kernel_rfl) | (rw [a0v]; kernel_rfl) | (simp only [List.length_append, a0a]; kernel_rfl) | (simp only [List.length_append, a0a, RT.len, a0v]; kernel_rfl)) ?_
 go_wp2_with fail
 refine (y0U N _).mono ?_
 rintro e' w6 ⟨rfl, hf6⟩
 have st6 := st5.keep hf6
 clear st5 hf6
 generalize hz : decide (N % B64 ^ 4 = 0) = z at *
 have HZ := qH hz
 clear hz
 rcases z with _ | _
 ·skip
  go_wp2_with (with_reducible refine wSk 15 ?_)
  refine a0i st6 1 rfl rfl rfl Tryz.underlying60 rfl (by first | (rw [a0a]; kernel_rfl) | (rw [RT.len]; kernel_rfl) | (rw [a0v]; kernel_rfl) | (simp only [List.length_append, a0a]; kernel_rfl) | (simp only [List.length_append, a0a, RT.len, a0v]; kernel_rfl)) ?_
  go_wp2_with (with_reducible refine wSn ?_)
  refine a0b st6 0 rfl rfl rfl rfl rfl (by first | (simp only [a0a]; done) | (simp only [List.length_append, a0a, RT.len, a0v]; done)) (by first | (rw [a0a]; kernel_rfl) | (rw [RT.len]; kernel_rfl) | (rw [a0v]; kernel_rfl) | (simp only [List.length_append, a0a]; kernel_rfl) | (simp only [List.length_append, a0a, RT.len, a0v]; kernel_rfl)) (a0g _ _) ?_
  intro w7 st7
  clear st6
  have hr := st7.at 0 rfl
  have hfr := st7.fr
  clear st7
  go_wp2_with fail
  exact bodyPost_ret (a0P rfl rfl hr Tryz.underlying60 rfl (by first | (rw [a0a]; kernel_rfl) | (rw [RT.len]; kernel_rfl) | (rw [a0v]; kernel_rfl) | (simp only [List.length_append, a0a]; kernel_rfl) | (simp only [List.length_append, a0a, RT.len, a0v]; kernel_rfl)) rfl) rfl ⟨N, by rw [HZ.out]; rfl, HN.out, hfr⟩
 ·skip
  go_wp2_with (with_reducible refine wSk 15 ?_)
  refine a0i st6 1 rfl rfl rfl Tryz.underlying60 rfl (by first | (rw [a0a]; kernel_rfl) | (rw [RT.len]; kernel_rfl) | (rw [a0v]; kernel_rfl) | (simp only [List.length_append, a0a]; kernel_rfl) | (simp only [List.length_append, a0a, RT.len, a0v]; kernel_rfl)) ?_
  go_wp2_with (with_reducible refine wSn ?_)
  refine a0b st6 0 rfl rfl rfl rfl rfl (by first | (simp only [a0a]; done) | (simp only [List.length_append, a0a, RT.len, a0v]; done)) (by first | (rw [a0a]; kernel_rfl) | (rw [RT.len]; kernel_rfl) | (rw [a0v]; kernel_rfl) | (simp only [List.length_append, a0a]; kernel_rfl) | (simp only [List.length_append, a0a, RT.len, a0v]; kernel_rfl)) (a0g _ _) ?_
  intro w7 st7
  clear st6
  have hr := st7.at 0 rfl
  have hfr := st7.fr
  clear st7
  go_wp2_with fail
  exact bodyPost_ret (a0P rfl rfl hr Tryz.underlying60 rfl (by first | (rw [a0a]; kernel_rfl) | (rw [RT.len]; kernel_rfl) | (rw [a0v]; kernel_rfl) | (simp only [List.length_append, a0a]; kernel_rfl) | (simp only [List.length_append, a0a, RT.len, a0v]; kernel_rfl)) rfl) rfl ⟨N, by rw [HZ.out]; rfl, HN.out, hfr⟩
theorem x0j (s : ByteArray) (w : World) : Calls Tryz.prog 52 #[.string s] w fun e w' => ∃ N : Nat, e = .returned (.tuple #[i4 N, .bool (b0o mQ s.data.toList && !decide (beN s.data.toList = 0))]) ∧ (b0o mQ s.data.toList = true → N = beN s.data.toList) ∧ Fr Nob w w' := by
 cases hq : b0o mQ s.data.toList with
 | false =>
  refine (x0h s hq w).mono ?_
  rintro e w' ⟨N, rfl, h, hf⟩
  exact ⟨N, rfl, fun h => (by cases h), hf⟩
 | true =>
  refine (x0i s hq w).mono ?_
  rintro e w' ⟨N, rfl, h, hf⟩
  have hN := h hq
  subst hN
  rw [Nat.mod_eq_of_lt (Nat.lt_trans (e0J hq) e0q.lt)]
  exact ⟨_, rfl, fun _ => rfl, hf⟩
end
section
open Go.RowKit Go.Mv Mvp Mvq
theorem x0k : (Tryz.prog.info? 60).map (·.zero) = some (some (.agg (cw 4 0).toArray)) := e0V
theorem p0t (x : Nat) : (Tryz.prog.info? 60).map (·.size) = some (cw 4 x).length := by rw [a0a]; kernel_rfl
theorem RLogAt.notIn {w : World} {g : Nat} {l : List UInt8} (h : RLogAt w g l) {bl : List (Nat × List Value × TypeId)} (hh : ∀ x ∈ bl, Has w x.1 x.2.1 x.2.2) (hT : ∀ x ∈ bl, 197 ≠ x.2.2) : ∀ x ∈ bl, x.1 ≠ g := by
 rintro x hx rfl
 obtain ⟨_, _, h1, _⟩ := h
 obtain ⟨_, _, h2, _⟩ := hh x hx
 rw [h1] at h2
 simp only [Option.some.injEq, Obj.cells.injEq] at h2
 exact hT x hx h2.2.1
theorem mQ0 : 0 < mQ.M := by decide
theorem x0l (x0 x1 x2 : List UInt8) : g0x x0 x1 x2 = k0d (c0A q0g [c0A q0g [c0A q0g [c0A s0E [[115, 105, 103, 110]], [112, 117, 98, 108, 105, 99], x0], [102, 105, 114, 115, 116], x1], [116, 101, 120, 116], x2]) := rfl
theorem s0b : (Tryz.prog.info? 9).map (fun i => (i.zero, i.size, i.bytes)) = some (some (.string ⟨#[]⟩), 1, 16) := by kernel_rfl
theorem u0s (a b : List UInt8) : g0H [a, b] = a.length + (b.length + 0) := rfl
attribute [local irreducible] a0F lw mix cw b0n b0v b0k a0M a0q beN b0C b0i b0z a0J a0R elN mdL b0o rtV b0T b0Z d0A e0L b0b b0w b0L toB a0x a0K b0x c0q a0O c0r b0t a0I c0A f0U f0P noR c0c RT.L kN kc k0e sgF sgZ g0x chN k0d w0O rpL
theorem s0c (s : ByteArray) (k : List UInt8) (hk : s.data.toList = k) (gl c : Nat) (ls : List (List UInt8)) (w : World) (hs : s.size + g0H ls ≤ 100000) (hh : Has w gl (ss ls) 9) (hn : ls.length ≤ 1000) :
  Calls Tryz.prog 54 #[.string s, .slice (some ⟨gl, 0, none⟩) ls.length c] w fun e w' => e = .returned (i4 (chN k ls)) ∧ Fr Nob w w' := by
 subst hk
 have HS := qH hs
 have HH := qH (show Rd w (some ⟨gl, 0, none⟩) ls.length (ss ls) by have h := Rd.whole hh; rwa [u0I] at h)
 have HN := qH hn
 clear hs hh hn
 have st0 := St.start Nob w
 go_enter Tryz.func54, Tryz.ntmps54
 go_wp2_with (with_reducible refine wSk 4 ?_)
 refine a0c st0 rfl rfl x0k (cw 4 0) rfl ?_
 intro g4 w2 st2
 clear st0
 go_wp2_with fail
 refine (y0R _).mono ?_
 rintro e' w3 ⟨rfl, hf3⟩
 have st3 := st2.keep hf3
 clear st2 hf3
 go_wp2_with fail
 refine (n0l s (some ⟨gl, 0, none⟩) c ls _ HS.out HN.out (HH.out.still st3.fr)).mono ?_
 rintro e' w4 ⟨rfl, hf4⟩
 have st4 := st3.keep hf4
 have HL := qH (e0B s.data.toList ls)
 clear st3 hf4 HH
 generalize hT : c0A s.data.toList ls = T at *
 have HT := qH hT
 clear hT
 go_wp2_with fail
 refine (h0t (mkS T) 64 _ (by rw [a0H, HL.out]; decide) (by decide)).mono ?_
 rintro e' w5 ⟨rfl, hf5⟩
 rw [a0N]
 have st5 := st4.keep hf5
 clear st4 hf5
 go_wp2_with fail
 refine (z0U mQ.M T _ mQ0 e0q.lt).mono ?_
 rintro e' w6 ⟨rfl, hf6⟩
 have st6 := st5.keep hf6
 clear st5 hf6
 have HV := qH (show beN (a0O T 31 64) % mQ.M = chN s.data.toList ls by unfold chN; rw [HT.out])
 rw [HV.out]
 go_wp2_with (with_reducible refine wSn ?_)
 refine a0b st6 0 rfl rfl rfl rfl rfl (m0P _ _) (p0t _) (a0g _ _) ?_
 intro wz stz
 clear st6
 have hr := stz.at 0 rfl
 have hfr := stz.fr
 clear stz
 go_wp2_with fail
 exact bodyPost_ret (a0u rfl rfl hr Tryz.underlying60 rfl (p0t _)) rfl ⟨rfl, hfr⟩
theorem x0m (g : Nat) (st : List UInt8) (w : World) (hst : st.length = 32) (hl : RLogAt w g st) :
  Calls Tryz.prog 128 #[.pointer (some ⟨g, 0, none⟩)] w fun e w' => e = .returned (i4 (k0d st)) ∧ Fr (One g) w w' := by
 have HST := qH hst
 have HL := qH hl
 clear hst hl
 have st0 := St.start (One g) w
 go_enter Tryz.func128, Tryz.ntmps128
 go_wp2_with (with_reducible refine wSk 2 ?_)
 refine c0F st0 rfl rfl x0k (cw 4 0) rfl ?_
 intro g4 w2 st2 hf2 hs2
 have HL2 := qH (show RLogAt w2 g st from Has.keep HL.out hf2 id)
 clear st0 hf2 hs2 HL
 go_wp2_with fail
 refine (y0R _).mono ?_
 rintro e' w3 ⟨rfl, hf3⟩
 have st3 := st2.keep hf3
 have HL3 := qH (show RLogAt w3 g st from Has.keep HL2.out hf3 id)
 clear st2 hf3 HL2
 go_wp2_with fail
 refine (s0G g st ⟨#[99, 104, 97, 108, 108, 101, 110, 103, 101]⟩ 64 _ HST.out (by decide) (by decide) HL3.out).mono ?_
 rintro e' w4 ⟨rfl, hl4, hf4⟩
 have st4 := st3.keep1 hf4 (.inr rfl) (HL3.out.notIn st3.has (by intro x hx; simp only [List.mem_cons, List.not_mem_nil, or_false, List.nil_append] at hx; subst hx; dsimp only; decide))
 clear st3 hf4 HL3 hl4
 have HV := qH (show beN (a0O (c0A q0h [st, (⟨#[99, 104, 97, 108, 108, 101, 110, 103, 101]⟩ : ByteArray).data.toList]) 31 64) % mQ.M = k0d st by unfold k0d w0O; rfl)
 generalize c0A q0h [st, (⟨#[99, 104, 97, 108, 108, 101, 110, 103, 101]⟩ : ByteArray).data.toList] = T at *
 go_wp2_with fail
 refine (z0U mQ.M T _ mQ0 e0q.lt).mono ?_
 rintro e' w6 ⟨rfl, hf6⟩
 have st6 := st4.keep hf6
 clear st4 hf6
 rw [HV.out]
 go_wp2_with (with_reducible refine wSn ?_)
 refine a0b st6 0 rfl rfl rfl rfl rfl (m0P _ _) (p0t _) (a0g _ _) ?_
 intro wz stz
 clear st6
 have hr := stz.at 0 rfl
 have hfr := stz.fr
 clear stz
 go_wp2_with fail
 exact bodyPost_ret (a0u rfl rfl hr Tryz.underlying60 rfl (p0t _)) rfl ⟨rfl, hfr⟩
theorem u0t (s0 : ByteArray) (s1 : ByteArray) (s2 : ByteArray) (w : World) (h0 : s0.size ≤ 40000) (h1 : s1.size ≤ 40000) (h2 : s2.size ≤ 40000) :
  Calls Tryz.prog 56 #[.string s0, .string s1, .string s2] w fun e w' => e = .returned (i4 (g0x s0.data.toList s1.data.toList s2.data.toList)) ∧ Fr Nob w w' := by
 have H0 := qH h0
 have H1 := qH h1
 have H2 := qH h2
 clear h0 h1 h2
 have st0 := St.start Nob w
 go_enter Tryz.func56, Tryz.ntmps56
 go_wp2_with (with_reducible refine wSk 6 ?_)
 refine a0c st0 rfl rfl x0k (cw 4 0) rfl ?_
 intro g4 w2 st2
 clear st0
 have HSZ := qH st2.fr.size
 go_wp2_with fail
 refine (s0F ⟨#[115, 105, 103, 110]⟩ _ (by decide)).mono ?_
 rintro e' w3 ⟨g, rfl, hle, hl, hf3⟩
 have st3 := st2.keep hf3
 have HL := qH hl
 have HG := qH (Nat.le_trans HSZ.out hle)
 clear st2 hf3 hl hle HSZ
 go_wp2_with fail
 refine (j0s g _ ⟨#[112, 117, 98, 108, 105, 99]⟩ s0 _ (e0B _ _) (by decide) H0.out HL.out).mono ?_
 rintro e' w4 ⟨rfl, hl4, hf4⟩
 have st4 := st3.keep1 hf4 (.inl HG.out) (HL.out.notIn st3.has (by intro x hx; simp only [List.mem_cons, List.not_mem_nil, or_false, List.nil_append] at hx; subst hx; dsimp only; decide))
 replace HL := qH hl4
 clear st3 hf4 hl4
 go_wp2_with fail
 refine (j0s g _ ⟨#[102, 105, 114, 115, 116]⟩ s1 _ (e0B _ _) (by decide) H1.out HL.out).mono ?_
 rintro e' w5 ⟨rfl, hl5, hf5⟩
 have st5 := st4.keep1 hf5 (.inl HG.out) (HL.out.notIn st4.has (by intro x hx; simp only [List.mem_cons, List.not_mem_nil, or_false, List.nil_append] at hx; subst hx; dsimp only; decide))
 replace HL := qH hl5
 clear st4 hf5 hl5
 go_wp2_with fail
 refine (j0s g _ ⟨#[116, 101, 120, 116]⟩ s2 _ (e0B _ _) (by decide) H2.out HL.out).mono ?_
 rintro e' w6 ⟨rfl, hl6, hf6⟩
 have st6 := st5.keep1 hf6 (.inl HG.out) (HL.out.notIn st5.has (by intro x hx; simp only [List.mem_cons, List.not_mem_nil, or_false, List.nil_append] at hx; subst hx; dsimp only; decide))
 replace HL := qH hl6
 clear st5 hf6 hl6
 go_wp2_with fail
 refine (x0m g _ _ (e0B _ _) HL.out).mono ?_
 rintro e' wy ⟨rfl, hfy⟩
 have sty := st6.keep1 hfy (.inl HG.out) (HL.out.notIn st6.has (by intro x hx; simp only [List.mem_cons, List.not_mem_nil, or_false, List.nil_append] at hx; subst hx; dsimp only; decide))
 clear st6 hfy HL HG
 go_wp2_with (with_reducible refine wSn ?_)
 refine a0b sty 0 rfl rfl rfl rfl rfl (m0P _ _) (p0t _) (a0g _ _) ?_
 intro wz stz
 clear sty
 have hr := stz.at 0 rfl
 have hfr := stz.fr
 clear stz
 go_wp2_with fail
 exact bodyPost_ret (a0u rfl rfl hr Tryz.underlying60 rfl (p0t _)) rfl ⟨by rw [x0l]; rfl, hfr⟩
theorem s0d (k : List UInt8) (w : World) : Calls Tryz.prog 52 #[.string (mkS k)] w fun e w' => ∃ N : Nat, e = .returned (.tuple #[i4 N, .bool (b0o mQ k && !decide (beN k = 0))]) ∧ (b0o mQ k = true → N = beN k) ∧ Fr Nob w w' := by
 have h := x0j (mkS k) w
 rwa [a0N] at h
theorem u0u (key text : List UInt8) (_hk : key.length ≤ 4096) (_ht : text.length ≤ 4096) (hb : k0e key = false) (w : World) : Calls Tryz.prog 15 #[.string (mkS key), .string (mkS text)] w fun e w' => e = .returned (.tuple #[.string ⟨#[]⟩, .int .i64 3]) ∧ Fr Nob w w' := by
 have HB := qH (show (b0o mQ key && !decide (beN key = 0)) = false by unfold k0e at hb; exact hb)
 clear hb _hk _ht
 have st0 := St.start Nob w
 go_enter Tryz.func15, Tryz.ntmps15
 go_wp2_with fail
 refine (s0d key _).mono ?_
 rintro e' w1 ⟨N, rfl, hn, hf1⟩
 have st1 := st0.keep hf1
 have HN := qH hn
 clear hn
 clear st0 hf1
 go_wp2_with (with_reducible refine wSk 6 ?_)
 refine a0c st1 rfl rfl (z := zAd) (by kernel_rfl) (cw 4 0) (by rw [a0e]; rfl) ?_
 intro g6 w2 st2
 clear st1
 go_wp2_with (with_reducible refine wSn ?_)
 refine a0b st2 0 rfl rfl rfl rfl rfl (by first | (simp only [a0a]; done) | (simp only [List.length_append, a0a, RT.len, a0v]; done)) (by first | (rw [a0a]; kernel_rfl) | (rw [RT.len]; kernel_rfl) | (rw [a0v]; kernel_rfl) | (simp only [List.length_append, a0a]; kernel_rfl) | (simp only [List.length_append, a0a, RT.len, a0v]; kernel_rfl)) (a0g _ _) ?_
 intro w3 st3
 clear st2
 rw [show (b0o mQ key && !decide (beN key = 0)) = false from HB.out]
 have hfr := st3.fr
 clear st3
 go_wp2_with fail
 go_ret2
 exact ⟨rfl, hfr⟩
theorem y0V (p a b r : Nat) (w : World) (hp0 : 0 < p) (hp : p < B64 ^ 4) (ha : a < B64 ^ 4) (hb : b < B64 ^ 4) (hr : (a + b) % p = r) :
  Calls Tryz.prog 57 #[fv p, i4 a, i4 b] w fun e w' => e = .returned (i4 r) ∧ Fr Nob w w' := by
 subst hr; exact m0s p a b w hp0 hp ha hb
theorem u0v (key text : List UInt8) (hk : key.length ≤ 4096) (ht : text.length ≤ 4096) (hb : k0e key = true) (w : World) : Calls Tryz.prog 15 #[.string (mkS key), .string (mkS text)] w fun e w' => e = .returned (.tuple #[.string (mkS (sgF key text ++ b0i (sgZ key text))), .int .i64 0]) ∧ Fr Nob w w' := by
 have HB := qH (show (b0o mQ key && !decide (beN key = 0)) = true by unfold k0e at hb; exact hb)
 have HQ := qH (show b0o mQ key = true by have h := HB.out; rw [Bool.and_eq_true] at h; exact h.1)
 have HK := qH hk
 have HT := qH ht
 have HP1 := qH (show b0Z (c0c (chN a0U [key, text]) k0h).pt = sgF key text by rw [l0O _ (Nat.lt_trans (v0e _ _) e0q.lt), o0b]; unfold sgF; rfl)
 have HP2 := qH (show b0Z (c0c (beN key) k0h).pt = b0Z (b0b (beN key) gP) by rw [l0O _ (Nat.lt_trans (e0J HQ.out) e0q.lt), o0b]; rfl)
 have HLF := qH (show (sgF key text).length = 33 by unfold sgF; exact d0e _)
 obtain ⟨C, hC⟩ : ∃ C, g0x (b0Z (b0b (beN key) gP)) (sgF key text) text = C := ⟨_, rfl⟩
 have HC := qH hC
 have HLC := qH (show C < B64 ^ 4 by rw [← hC]; unfold g0x k0d; exact Nat.lt_trans (w0P _ _) e0q.lt)
 have HLX := qH (show beN key < B64 ^ 4 from Nat.lt_trans (e0J HQ.out) e0q.lt)
 have HLK := qH (show (chN a0U [key, text]) < B64 ^ 4 from Nat.lt_trans (v0e _ _) e0q.lt)
 obtain ⟨r1, h1⟩ : ∃ r, C * beN key % mQ.M = r := ⟨_, rfl⟩
 obtain ⟨r2, h2⟩ : ∃ r, ((chN a0U [key, text]) + r1) % mQ.M = r := ⟨_, rfl⟩
 have HR1 := qH h1
 have HR2 := qH h2
 have HL1 := qH (show r1 < B64 ^ 4 by rw [← h1]; exact Nat.lt_trans (Nat.mod_lt _ mQ0) e0q.lt)
 have HZ := qH (show r2 = sgZ key text by rw [← h2, ← h1]; unfold sgZ; rw [hC, Nat.add_mod_mod])
 clear hb hk ht hC h1 h2
 have st0 := St.start Nob w
 go_enter Tryz.func15, Tryz.ntmps15
 go_wp2_with fail
 refine (s0d key _).mono ?_
 rintro e' w1 ⟨N, rfl, hn, hf1⟩
 have st1 := st0.keep hf1
 have HN := qH hn
 clear hn
 clear st0 hf1
 go_wp2_with (with_reducible refine wSk 6 ?_)
 refine a0c st1 rfl rfl (z := zAd) (by kernel_rfl) (cw 4 0) (by rw [a0e]; rfl) ?_
 intro g6 w2 st2
 clear st1
 go_wp2_with (with_reducible refine wSn ?_)
 refine a0b st2 0 rfl rfl rfl rfl rfl (by first | (simp only [a0a]; done) | (simp only [List.length_append, a0a, RT.len, a0v]; done)) (by first | (rw [a0a]; kernel_rfl) | (rw [RT.len]; kernel_rfl) | (rw [a0v]; kernel_rfl) | (simp only [List.length_append, a0a]; kernel_rfl) | (simp only [List.length_append, a0a, RT.len, a0v]; kernel_rfl)) (a0g _ _) ?_
 intro w3 st3
 clear st2
 rw [show (b0o mQ key && !decide (beN key = 0)) = true from HB.out]
 rw [HN.out HQ.out] at st3
 clear HN HB
 go_wp2_with fail
 refine (y0R _).mono ?_
 rintro e' w4 ⟨rfl, hf4⟩
 have st4 := st3.keep hf4
 clear st3 hf4
 go_wp2_with (with_reducible refine wSk 8 ?_)
 refine a0c st4 rfl rfl (z := .agg #[.int .u64 0, .int .u64 0, .int .u64 0, .int .u64 0, .int .u64 0, .int .u64 0, .int .u64 0, .int .u64 0]) (by kernel_rfl) (cw 8 0) (by rw [a0e]; rfl) ?_
 intro g8 w5 st5
 clear st4
 go_wp2_with (with_reducible refine wSn ?_)
 refine a0b st5 1 rfl rfl rfl rfl rfl (by first | (simp only [a0a]; done) | (simp only [List.length_append, a0a]; done)) (by first | (rw [a0a]; kernel_rfl) | (rw [RT.len]; kernel_rfl) | (rw [a0v]; kernel_rfl) | (simp only [List.length_append, a0a]; kernel_rfl) | (simp only [List.length_append, a0a, RT.len, a0v]; kernel_rfl)) (h0G _ _ _ _) ?_
 intro w6 st6
 clear st5
 go_wp2_with (with_reducible refine wSk 23 ?_)
 refine c0T rfl rfl Tryz.underlying40 s0b (ss [key, text]) rfl (by simp [ss]; exact ⟨rfl, rfl⟩) rfl rfl ?_
 intro w7 hh7 hf7 hz7
 have st7 := st6.keep hf7
 have HSL := qH hh7
 clear hh7 hf7 hz7 st6
 go_wp2_with fail
 refine (s0c ⟨#[110, 111, 110, 99, 101, 32, 115, 105, 103, 110]⟩ a0U rfl _ 2 [key, text] _ (by rw [u0s]; have h1 := HK.out; have h2 := HT.out; have h3 : (⟨#[110, 111, 110, 99, 101, 32, 115, 105, 103, 110]⟩ : ByteArray).size = 10 := rfl; omega) HSL.out (by simp)).mono ?_
 rintro e' w8 ⟨rfl, hf8⟩
 have st8 := st7.keep hf8
 clear st7 hf8
 clear HSL
 go_wp2_with (with_reducible refine wSk 9 ?_)
 refine a0c st8 rfl rfl (z := zAd) (by kernel_rfl) (cw 4 0) (by rw [a0e]; rfl) ?_
 intro g9 w9 st9
 clear st8
 go_wp2_with (with_reducible refine wSn ?_)
 refine a0b st9 2 rfl rfl rfl rfl rfl (by first | (simp only [a0a]; done) | (simp only [List.length_append, a0a, RT.len, a0v]; done)) (by first | (rw [a0a]; kernel_rfl) | (rw [RT.len]; kernel_rfl) | (rw [a0v]; kernel_rfl) | (simp only [List.length_append, a0a]; kernel_rfl) | (simp only [List.length_append, a0a, RT.len, a0v]; kernel_rfl)) (a0g _ _) ?_
 intro w10 st10
 clear st9
 go_wp2_with (with_reducible refine wSk 25 ?_)
 refine a0i st10 2 rfl rfl rfl Tryz.underlying60 rfl (by first | (rw [a0a]; kernel_rfl) | (rw [RT.len]; kernel_rfl) | (rw [a0v]; kernel_rfl) | (simp only [List.length_append, a0a]; kernel_rfl) | (simp only [List.length_append, a0a, RT.len, a0v]; kernel_rfl)) ?_
 go_wp2_with fail
 refine (o0e (chN a0U [key, text]) _).mono ?_
 rintro e' w11 ⟨rfl, hf11⟩
 have st11 := st10.keep hf11
 clear st10 hf11
 go_wp2_with fail
 refine (i0V (c0c (chN a0U [key, text]) k0h) _).mono ?_
 rintro e' w12 ⟨rfl, hf12⟩
 have st12 := st11.keep hf12
 clear st11 hf12
 rw [HP1.out]
 go_wp2_with (with_reducible refine wSk 28 ?_)
 refine a0i st12 0 rfl rfl rfl Tryz.underlying60 rfl (by first | (rw [a0a]; kernel_rfl) | (rw [RT.len]; kernel_rfl) | (rw [a0v]; kernel_rfl) | (simp only [List.length_append, a0a]; kernel_rfl) | (simp only [List.length_append, a0a, RT.len, a0v]; kernel_rfl)) ?_
 go_wp2_with fail
 refine (o0e (beN key) _).mono ?_
 rintro e' w13 ⟨rfl, hf13⟩
 have st13 := st12.keep hf13
 clear st12 hf13
 go_wp2_with fail
 refine (i0V (c0c (beN key) k0h) _).mono ?_
 rintro e' w14 ⟨rfl, hf14⟩
 have st14 := st13.keep hf14
 clear st13 hf14
 rw [HP2.out]
 go_wp2_with fail
 refine (u0t (mkS (b0Z (b0b (beN key) gP))) (mkS (sgF key text)) (mkS text) _ (by rw [a0H, d0e]; decide) (by rw [a0H, HLF.out]; decide) (by rw [a0H]; have := HT.out; omega)).mono ?_
 rintro e' w15 ⟨rfl, hf15⟩
 rw [a0N, a0N, a0N]
 rw [HC.out]
 have st15 := st14.keep hf15
 clear st14 hf15
 go_wp2_with (with_reducible refine wSk 11 ?_)
 refine a0c st15 rfl rfl (z := zAd) (by kernel_rfl) (cw 4 0) (by rw [a0e]; rfl) ?_
 intro g11 w16 st16
 clear st15
 go_wp2_with (with_reducible refine wSn ?_)
 refine a0b st16 3 rfl rfl rfl rfl rfl (by first | (simp only [a0a]; done) | (simp only [List.length_append, a0a, RT.len, a0v]; done)) (by first | (rw [a0a]; kernel_rfl) | (rw [RT.len]; kernel_rfl) | (rw [a0v]; kernel_rfl) | (simp only [List.length_append, a0a]; kernel_rfl) | (simp only [List.length_append, a0a, RT.len, a0v]; kernel_rfl)) (a0g _ _) ?_
 intro w17 st17
 clear st16
 go_wp2_with fail
 refine wp_region_noPanic ?_
 refine a0h st17 8 [.o 7, .t 0, .t 1, .t 2, .t 3, .t 4, .c 5, .c 6, .j 7] (.m 8 .nil) (by kernel_rfl) (by kernel_rfl) (fun _ _ _ _ _ h => h) ?_
 clear st17
 refine b0l rfl rfl rfl e0V (cw 4 0) rfl ?_
 try simp only [clL]
 refine a0f rfl rfl rfl (fun _ => rfl) (cw 4 mQ.M ++ cw 4 (B64 ^ 4 - mQ.M)) (fun wx hS => St.rangeL hS 1 rfl 0 _ dZl) Tryz.underlying78 rfl (by first | (rw [a0a]; kernel_rfl) | (rw [RT.len]; kernel_rfl) | (rw [a0v]; kernel_rfl) | (simp only [List.length_append, a0a]; kernel_rfl) | (simp only [List.length_append, a0a, RT.len, a0v]; kernel_rfl)) ?_
 try simp only [clL]
 refine a0f rfl rfl rfl (fun _ => rfl) (cw 4 (chN a0U [key, text])) (fun wx hS => St.rangeL hS 2 rfl 0 _ dZl) Tryz.underlying60 rfl (by first | (rw [a0a]; kernel_rfl) | (rw [RT.len]; kernel_rfl) | (rw [a0v]; kernel_rfl) | (simp only [List.length_append, a0a]; kernel_rfl) | (simp only [List.length_append, a0a, RT.len, a0v]; kernel_rfl)) ?_
 try simp only [clL]
 refine a0f rfl rfl rfl (fun _ => rfl) (cw 4 mQ.M ++ cw 4 (B64 ^ 4 - mQ.M)) (fun wx hS => St.rangeL hS 1 rfl 0 _ dZl) Tryz.underlying78 rfl (by first | (rw [a0a]; kernel_rfl) | (rw [RT.len]; kernel_rfl) | (rw [a0v]; kernel_rfl) | (simp only [List.length_append, a0a]; kernel_rfl) | (simp only [List.length_append, a0a, RT.len, a0v]; kernel_rfl)) ?_
 try simp only [clL]
 refine a0f rfl rfl rfl (fun _ => rfl) (cw 4 C) (fun wx hS => St.rangeL hS 3 rfl 0 _ dZl) Tryz.underlying60 rfl (by first | (rw [a0a]; kernel_rfl) | (rw [RT.len]; kernel_rfl) | (rw [a0v]; kernel_rfl) | (simp only [List.length_append, a0a]; kernel_rfl) | (simp only [List.length_append, a0a, RT.len, a0v]; kernel_rfl)) ?_
 try simp only [clL]
 refine a0f rfl rfl rfl (fun _ => rfl) (cw 4 (beN key)) (fun wx hS => St.rangeL hS 0 rfl 0 _ dZl) Tryz.underlying60 rfl (by first | (rw [a0a]; kernel_rfl) | (rw [RT.len]; kernel_rfl) | (rw [a0v]; kernel_rfl) | (simp only [List.length_append, a0a]; kernel_rfl) | (simp only [List.length_append, a0a, RT.len, a0v]; kernel_rfl)) ?_
 try simp only [clL]
 refine a0d rfl rfl rfl Tryz.call58 (fun w hS hR => z0G mQ.M C (beN key) r1 _ mQ0 e0q.lt HLC.out HLX.out HR1.out) (fun _ => rfl) ?_
 try simp only [clL]
 refine a0d rfl rfl rfl Tryz.call57 (fun w hS hR => y0V mQ.M (chN a0U [key, text]) r1 r2 _ mQ0 e0q.lt HLK.out HL1.out HR2.out) (fun _ => rfl) ?_
 try simp only [clL]
 refine b0m List.mem_cons_self fun g12 => ?_
 simp only [upd, reduceIte]
 try simp only [Nat.reduceEqDiff, reduceIte]
 refine a0y fun xq w18 st18 hR => ?_
 try dsimp only
 clear hR xq
 refine a0r rfl rfl ?_
 refine a0j st18 4 rfl rfl rfl rfl (by first | (simp only [a0a]; done) | (simp only [List.length_append, a0a, RT.len, a0v]; done)) (by first | (rw [a0a]; kernel_rfl) | (rw [RT.len]; kernel_rfl) | (rw [a0v]; kernel_rfl) | (simp only [List.length_append, a0a]; kernel_rfl) | (simp only [List.length_append, a0a, RT.len, a0v]; kernel_rfl)) (a0g _ _) ?_
 intro w19 st19
 repeat (first | simp only [List.cons_append] at st19 | simp only [List.nil_append] at st19 | simp only [List.set_cons_succ] at st19 | simp only [List.set_cons_zero] at st19)
 clear st18
 try simp only [Act.put]
 refine a0k ?_
 refine NoPanic.normal ?_
 go_wp2_with (with_reducible refine wSk 42 ?_)
 refine a0i st19 4 rfl rfl rfl Tryz.underlying60 rfl (by first | (rw [a0a]; kernel_rfl) | (rw [RT.len]; kernel_rfl) | (rw [a0v]; kernel_rfl) | (simp only [List.length_append, a0a]; kernel_rfl) | (simp only [List.length_append, a0a, RT.len, a0v]; kernel_rfl)) ?_
 go_wp2_with fail
 refine (e0D r2 _).mono ?_
 rintro e' w20 ⟨rfl, hf20⟩
 have st20 := st19.keep hf20
 clear st19 hf20
 go_wp2_with (with_reducible refine wSk 44 ?_)
 refine e0v rfl (f0O rfl rfl rfl Tryz.underlying9 (by rw [a0H, a0H, HLF.out, a0W]; decide) (e0A _ _) _) ?_
 have hfr := st20.fr
 clear st20
 go_wp2_with fail
 go_ret2
 refine ⟨?_, hfr⟩
 rw [HZ.out]; rfl
end
section
open Go.RowKit Go.Mv Mvp Mvq
theorem i0W {w : World} {g : Nat} {x : List UInt8} (h : Has w g (bs (c0D x)) 5) (hx : x.length ≤ 1000000) : PartIs w (.slice (some ⟨g, 0, none⟩) x.length (x.length + 160)) x := by
 refine ⟨_, _, _, rfl, by omega, hx, ?_, Old.has h 0⟩
 have := Rd.ofHas h 0 (n := x.length) (by rw [a0G, c0p]; omega)
 rw [List.drop_zero, e0i] at this
 unfold c0D at this
 rwa [List.take_left] at this
attribute [local irreducible] a0F lw mix cw b0n b0v b0k a0M a0q beN b0C b0i b0z a0J a0R elN mdL b0o rtV b0T kN kc c0b b0Z f0P noR c0c f0c RT.L c0A hB hN i0p i0q rpL mkS c0D
end
section
open Go.RowKit Go.Mv Mvp Mvq
theorem u0w {k t : List UInt8} (h : k0e k = true) : sgE k = 0 ∧ sgS k t = sgF k t ++ b0i (sgZ k t) := by unfold sgE sgS; rw [if_pos h, if_pos h]; exact ⟨rfl, rfl⟩
theorem u0x {k t : List UInt8} (h : k0e k = false) : sgE k = 3 ∧ sgS k t = [] := by unfold sgE sgS; rw [h]; exact ⟨rfl, rfl⟩
attribute [local irreducible] a0F lw mix cw b0n b0v b0k a0M a0q beN b0C b0i b0z a0J a0R elN mdL b0o rtV b0T b0Z d0A e0L b0b b0w b0L toB a0x a0K b0x c0q a0O c0r b0t a0I c0A f0U f0P noR c0c RT.L kN kc k0e sgF sgZ sgE sgS g0x chN k0d w0O rpL c0D
theorem y0W (ak : Option Addr) (nk ck : Nat) (key : List UInt8) (at_ : Option Addr) (nt ct : Nat) (text : List UInt8) (w : World) (hkey : PartIs w (.slice ak nk ck) key) (htext : PartIs w (.slice at_ nt ct) text) :
  Calls Tryz.prog 13 #[.slice ak nk ck, .slice at_ nt ct] w fun e w' => ∃ v, e = .returned (.tuple #[v, .int .i64 (sgE key)]) ∧ OwnB1 w w' v (sgS key text) ∧ Fr Nob w w' := by
 cases h : k0e key with
 | false => rw [(u0x (t := text) h).1, (u0x (t := text) h).2]; exact (x0e ak nk ck key at_ nt ct text w hkey htext h).mono fun e w' k => ⟨_, k.1, OwnB1.nil _ _, k.2⟩
 | true => rw [(u0w (t := text) h).1, (u0w (t := text) h).2]; exact x0f ak nk ck key at_ nt ct text w hkey htext h
theorem x0n (key text : ByteArray) (hk : key.size ≤ 4096) (ht : text.size ≤ 4096) (w : World) :
  Calls Tryz.prog 15 #[.string key, .string text] w fun e w' => e = .returned (.tuple #[.string (mkS (sgS key.data.toList text.data.toList)), .int .i64 (sgE key.data.toList)]) ∧ Fr Nob w w' := by
 obtain ⟨k, rfl⟩ : ∃ l, key = mkS l := ⟨key.data.toList, (d0r key).symm⟩
 obtain ⟨t, rfl⟩ : ∃ l, text = mkS l := ⟨text.data.toList, (d0r text).symm⟩
 rw [a0H] at hk ht
 rw [a0N, a0N]
 cases h : k0e k with
 | false => rw [(u0x (t := t) h).1, (u0x (t := t) h).2]; exact u0u k t hk ht h w
 | true => rw [(u0w (t := t) h).1, (u0w (t := t) h).2]; exact u0v k t hk ht h w
theorem g0y (k t : ByteArray) (w : World) (h1 : k.size ≤ 4096) (h2 : t.size ≤ 4096) : Calls Tryz.prog 3 #[.string k, .string t] w fun e w' => e = .returned (.bool true) ∧ Fr Nob w w' := by
 have hk := h1
 have ht := h2
 clear h1 h2
 have hIk : ¬ ((4096 : Int) < (k.size : Int)) := by omega
 have hIt : ¬ ((4096 : Int) < (t.size : Int)) := by omega
 have HSk := qH hk
 have HSt := qH ht
 clear hk ht
 have st0 := St.start Nob w
 go_enter Tryz.func3, Tryz.ntmps3
 go_wp2_with fail
 refine (j0b k _ (by have := HSk.out; omega)).mono ?_
 rintro e' w1 ⟨rfl, hgs, hf, hzs⟩
 have st1 := st0.keep hf
 clear hzs st0 hf
 generalize w.heap.size = ga at *
 have HRa : Hid (RdB w1 (some ⟨ga, 0, none⟩) (k.size + 160) (c0D k.data.toList)) := qH (by have := Rd.whole hgs; rwa [a0G, c0p, b0Q] at this)
 have HPa : Hid (PartIs w1 (.slice (some ⟨ga, 0, none⟩) k.size (k.size + 160)) k.data.toList) := qH (by have h := i0W hgs (by rw [b0Q]; have := HSk.out; omega); rwa [b0Q] at h)
 clear hgs
 have kga := fun wx => c0j (P := Tryz.prog) wx Tryz.underlying22 c0e (some ⟨ga, 0, none⟩) (k.size + 160) (k.size + 160) .i64 k.size (by omega)
 have hcga : (k.size : Int) ≤ (k.size : Int) + 160 := by omega
 go_wp2_with fail
 refine (j0b t _ (by have := HSt.out; omega)).mono ?_
 rintro e' w2 ⟨rfl, hgs, hf, hzs⟩
 have st2 := st1.keep hf
 replace HPa := qH (HPa.out.still hf)
 replace HRa := qH (HRa.out.still hf)
 clear hzs st1 hf
 generalize w1.heap.size = gb at *
 have HRb : Hid (RdB w2 (some ⟨gb, 0, none⟩) (t.size + 160) (c0D t.data.toList)) := qH (by have := Rd.whole hgs; rwa [a0G, c0p, b0Q] at this)
 have HPb : Hid (PartIs w2 (.slice (some ⟨gb, 0, none⟩) t.size (t.size + 160)) t.data.toList) := qH (by have h := i0W hgs (by rw [b0Q]; have := HSt.out; omega); rwa [b0Q] at h)
 clear hgs
 have kgb := fun wx => c0j (P := Tryz.prog) wx Tryz.underlying22 c0e (some ⟨gb, 0, none⟩) (t.size + 160) (t.size + 160) .i64 t.size (by omega)
 have hcgb : (t.size : Int) ≤ (t.size : Int) + 160 := by omega
 go_wp2_with fail
 refine wp_region_noPanic ?_
 refine e0W st2 (fun wz => Fr Nob w2 wz) (Fr.refl Nob _).drew (fun _ _ h k => h.then k) 13 [.w 0, .w 1, .w 2, .w 3, .w 4, .w 5, .w 6, .w 7, .c 8, .w 9, .w 10, .w 11, .w 12] (.m 13 .nil) (by kernel_rfl) (by kernel_rfl) (fun _ _ _ _ _ h => h) ?_
 clear st2
 refine a0n (v := ?_) rfl rfl (fun xq wx => ?_) ?_
 rotate_left 1
 ·(go_simp; with_reducible rfl)
 try simp only [clL]
 refine a0n (v := ?_) rfl rfl (fun xq wx => ?_) ?_
 rotate_left 1
 ·(go_simp; with_reducible rfl)
 try simp only [clL]
 refine a0n (v := ?_) rfl rfl (fun xq wx => ?_) ?_
 rotate_left 1
 ·(go_simp; with_reducible rfl)
 try simp only [clL]
 refine a0n (v := ?_) rfl rfl (fun xq wx => ?_) ?_
 rotate_left 1
 ·(go_simp; with_reducible rfl)
 try simp only [clL]
 refine a0n (v := ?_) rfl rfl (fun xq wx => ?_) ?_
 rotate_left 1
 ·(go_simp; with_reducible rfl)
 try simp only [clL]
 refine a0n (v := ?_) rfl rfl (fun xq wx => ?_) ?_
 rotate_left 1
 ·(go_simp; with_reducible rfl)
 try simp only [clL]
 refine a0n (v := ?_) rfl rfl (fun xq wx => ?_) ?_
 rotate_left 1
 ·(go_simp; with_reducible rfl)
 try simp only [clL]
 refine a0n (v := ?_) rfl rfl (fun xq wx => ?_) ?_
 rotate_left 1
 ·(go_simp; with_reducible rfl)
 try simp only [clL]
 refine e0w (X := Value) (fun v => .tuple #[v, .int .i64 (sgE k.data.toList)]) (fun v wx => BPart wx v (sgS k.data.toList t.data.toList)) (fun _ _ _ h k => h.still k) rfl rfl rfl Tryz.call13 (fun w hS hR => (y0W _ _ _ k.data.toList _ _ _ t.data.toList _ (HPa.out.still hR) (HPb.out.still hR)).mono fun e w' ⟨v, k1, k2, k3⟩ => ⟨v, k1, k2.part, k3⟩) (fun _ => rfl) fun v1 => ?_
 try simp only [clL]
 refine a0n (v := ?_) rfl rfl (fun xq wx => ?_) ?_
 rotate_left 1
 ·(go_simp; with_reducible rfl)
 try simp only [clL]
 refine a0n (v := ?_) rfl rfl (fun xq wx => ?_) ?_
 rotate_left 1
 ·(go_simp; with_reducible rfl)
 try simp only [clL]
 refine a0n (v := ?_) rfl rfl (fun xq wx => ?_) ?_
 rotate_left 1
 ·(go_simp; with_reducible rfl)
 try simp only [clL]
 refine a0n (v := ?_) rfl rfl (fun xq wx => ?_) ?_
 rotate_left 1
 ·(go_simp; with_reducible rfl)
 try simp only [clL]
 refine a0y fun xq w3 st3 hR => ?_
 try dsimp only
 have FX := qH hR.1
 have HV1 := qH hR.2
 clear hR xq
 refine a0r rfl rfl ?_
 go_simp
 try simp only [clL]
 refine a0k ?_
 refine NoPanic.normal ?_
 clear HPa HPb kga kgb hcga hcgb
 replace HRa := qH (HRa.out.still FX.out)
 replace HRb := qH (HRb.out.still FX.out)
 clear FX
 go_wp2_with fail
 refine (k0o _ _ _ _ k _ (by have := HSk.out; omega) HRa.out).mono ?_
 rintro e' w4 ⟨rfl, hf⟩
 have st4 := st3.keep hf
 replace HRa := qH (HRa.out.still hf)
 replace HRb := qH (HRb.out.still hf)
 replace HV1 := qH (HV1.out.still hf)
 rw [decide_eq_true rfl]
 clear hf st3
 go_wp2_with fail
 refine (k0o _ _ _ _ t _ (by have := HSt.out; omega) HRb.out).mono ?_
 rintro e' w5 ⟨rfl, hf⟩
 have st5 := st4.keep hf
 replace HRa := qH (HRa.out.still hf)
 replace HRb := qH (HRb.out.still hf)
 replace HV1 := qH (HV1.out.still hf)
 rw [decide_eq_true rfl]
 clear hf st4
 clear HRa HRb
 go_wp2_with fail
 refine (x0n k t HSk.out HSt.out _).mono ?_
 rintro e' w6 ⟨rfl, hf⟩
 have st6 := st5.keep hf
 replace HV1 := qH (HV1.out.still hf)
 clear hf st5
 generalize hbe : sgE k.data.toList = be at *
 generalize hbs : sgS k.data.toList t.data.toList = bz at *
 clear hbe hbs
 obtain ⟨a1, n1, c1, rfl, -, hr1⟩ := HV1.out
 have x1 := e0z (P := Tryz.prog) hr1 c1 Tryz.underlying22 Tryz.underlying5 Tryz.underlying9
 clear hr1 HV1
 have hfr := st6.fr
 clear st6
 go_wp2_with fail
 go_ret
 exact ⟨rfl, hfr⟩
theorem i0r (k t : ByteArray) (w : World) : Calls Tryz.prog 3 #[.string k, .string t] w fun e w' => e = .returned (.bool true) ∧ Fr Nob w w' := by
 by_cases hk : 4096 < k.size
 ·have hJ : (4096 : Int) < (k.size : Int) := by omega
  go_enter Tryz.func3, Tryz.ntmps3
  go_wp2
  go_ret
  exact ⟨rfl, Fr.refl _ _⟩
 by_cases ht : 4096 < t.size
 ·have hIk : ¬ ((4096 : Int) < (k.size : Int)) := by omega
  have hJ : (4096 : Int) < (t.size : Int) := by omega
  go_enter Tryz.func3, Tryz.ntmps3
  go_wp2
  go_ret
  exact ⟨rfl, Fr.refl _ _⟩
 exact g0y k t w (by omega) (by omega)
end
end Go.Proofs.YtemcankmggmgoaaGreat
