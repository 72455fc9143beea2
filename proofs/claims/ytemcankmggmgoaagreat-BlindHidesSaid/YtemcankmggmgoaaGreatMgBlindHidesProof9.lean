/- ; ; ; ; ; ; ; ; ; ; ; ; ; ; ; ; ; ; ; ; ; ; ; ; ; ; ; ; . -/
import Derived.Test.YtemcankmggmgoaaGreatMgBlindHidesProof8
import Derived.Test.YtemcankmggmgoaaGreatMgBlindHidesProof1
import Derived.SliceStrings
import Derived.SizedLaws
import Derived.OpenShut
import Derived.ProofKit
import Derived.Test.YtemcankmggmgoaaGreatMgBlindHidesProof2
import Derived.IntWalk
import Derived.Test.YtemcankmggmgoaaGreatMgBlindHidesProof3
import Derived.Test.YtemcankmggmgoaaGreatMgBlindHidesProof6
import Derived.Test.YtemcankmggmgoaaGreatMgBlindHidesProof7
import Derived.Test.YtemcankmggmgoaaGreatMgBlindHidesProof5
import Derived.Lib.SlBytesConst
import Derived.Carry
set_option maxHeartbeats 16000000
set_option maxRecDepth 1000000

namespace Mvp
def u0W (n : Nat) : List UInt8 := [UInt8.ofNat (n / 16777216), UInt8.ofNat (n / 65536), UInt8.ofNat (n / 256), UInt8.ofNat n]
def c0e (l : List UInt8) : List UInt8 := u0W l.length ++ l
def a0N (ls : List (List UInt8)) : List UInt8 := (ls.map c0e).flatten
theorem n0k : a0N [] = [] := rfl
theorem e0W (a b : List (List UInt8)) : a0N (a ++ b) = a0N a ++ a0N b := by simp [a0N]
theorem e0b (a : List UInt8) : a0N [a] = c0e a := by simp [a0N]
theorem l0L (a : List UInt8) (b : List (List UInt8)) : a0N (a :: b) = c0e a ++ a0N b := by simp [a0N]
end Mvp
namespace Go.Proofs.YtemcankmggmgoaaGreat
section
open Go.RowKit Go.Mv Mvp
attribute [local irreducible] b0S c0t toB a0z a0T b0T e0h c0a
theorem f0V (k : Nat) : ((UInt8.ofNat k).toNat : Int) = ((k % 256 : Nat) : Int) := by simp
theorem w0h (n : Nat) (h : n ≤ 1000000) : Value.int .u8 ((n : Int) / 16777216) = .int .u8 ((UInt8.ofNat (n / 16777216)).toNat : Int) := by
 rw [f0V]; congr 1; omega
theorem w0i (n : Nat) (h : n ≤ 1000000) : Value.int .u8 ((n : Int) / 65536) = .int .u8 ((UInt8.ofNat (n / 65536)).toNat : Int) := by
 rw [f0V]; congr 1; omega
theorem w0j (n : Nat) : Value.int .u8 ((n : Int) / 256 % 256) = .int .u8 ((UInt8.ofNat (n / 256)).toNat : Int) := by
 rw [f0V]; rfl
theorem w0k (n : Nat) : Value.int .u8 ((n : Int) % 256) = .int .u8 ((UInt8.ofNat n).toNat : Int) := by
 rw [f0V]; rfl
theorem k0j (n : Nat) : (u0W n).length = 4 := rfl
theorem l0M (g : Nat) (st : List UInt64 × Nat) (b : Option Addr) (n c : Nat) (l : List UInt8) (w : World) (hS : st.1.length = 25) (hat : st.2 < 136) (hn : n ≤ 1000000) (hnc : n ≤ c) (hg : Has w g (abs st) 234) (hb : RdB w b n l) (hbg : Off (One g) b) :
  Calls Tryz.prog 194 #[.pointer (some ⟨g, 0, none⟩), .slice b n c] w fun e w' => e = .returned (.tuple #[]) ∧ Has w' g (abs (d0s st (c0e l))) 234 ∧ Fr (One g) w w' := by
 go_enter Tryz.func194, Tryz.ntmps194
 go_wp2_with (with_reducible refine wSk 19 ?_)
 refine q0m rfl rfl Tryz.underlying22 b0u _ _ _ _ (w0h n hn) (w0i n hn) (w0j n) (w0k n) ?_
 intro w1 hh1 hf1 hz1
 have hh1' : Has w1 w.heap.size (bs (u0W n)) 5 := hh1
 have hg1 := hg.keep hf1 id
 have hb1 := hb.still hf1
 have hgl := hg.lt
 generalize w.heap.size = g4 at *
 clear hg hb hh1
 have hrd : RdB w1 (some ⟨g4, 0, none⟩) 4 (u0W n) := by
  have := Rd.whole hh1'
  rwa [a0F, k0j] at this
 go_wp2_with fail
 refine (l0H g st _ 4 4 (u0W n) w1 hS hat (by omega) (by omega) hg1 hrd (fun x hx (e : x.block = g) => by simp only [Option.some.injEq] at hx; subst hx; simp at e; omega)).mono ?_
 rintro e w2 ⟨rfl, hg2, hf2⟩
 have hb2 := hb1.keep hf2 hbg
 have hfr2 : Fr (One g) w w2 := ((Fr.refl (One g) w).same hf1).trans hf2 (fun _ _ t => t)
 clear hf1 hz1 hh1' hg1 hb1 hrd hf2
 go_wp2_with fail
 refine (l0H g (d0s st (u0W n)) b n c l w2 (by rw [h0c, hS]) (n0c _ _ hat) hn hnc hg2 hb2 hbg).mono ?_
 rintro e w3 ⟨rfl, hg3, hf3⟩
 go_wp2_with fail
 go_end0
 rw [← d0o, ← hb2.len] at hg3
 exact ⟨rfl, hg3, hfr2.trans hf3 (fun _ _ t => t)⟩
theorem i0Z (s : ByteArray) (w : World) (hs : s.size ≤ 1000000) :
  Calls Tryz.prog 177 #[.string s] w fun r w' => r = .returned (.string (mkS (c0e s.data.toList))) ∧ Fr Nob w w' := by
 go_enter Tryz.func177, Tryz.ntmps177
 go_wp2_with (with_reducible refine wSk 17 ?_)
 refine q0m rfl rfl Tryz.underlying22 b0u _ _ _ _ (w0h s.size hs) (w0i s.size hs) (w0j s.size) (w0k s.size) ?_
 intro w1 hh1 hf1 hz1
 have hrd : RdB w1 (some ⟨w.heap.size, 0, none⟩) 4 (u0W s.size) := Rd.whole hh1
 have e1 := c0y hrd 4 Tryz.underlying22 Tryz.underlying5 Tryz.underlying9
 have hcat : ¬ 9223372036854775807 < (mkS (u0W s.size)).size + s.size := by rw [a0Q, k0j]; omega
 go_wp2_with fail
 go_ret
 refine ⟨?_, hf1⟩
 have : mkS (u0W s.size) ++ s = mkS (c0e s.data.toList) := by
  rw [c0e, ← e0K, g0K]; rfl
 exact congrArg (fun q => Ending.returned (.string q)) this
end
section
open Go.RowKit Go.Mv Mvp
attribute [local irreducible] b0S c0t toB a0z a0T b0T
theorem s0w : Tryz.prog.built 234 [] = some (abs (a0D, 0)).toArray := by unfold abs; kernel_rfl
end
section
open Go.RowKit Go.Mv Mvp
attribute [local irreducible] b0S c0t toB a0z a0T b0T e0h c0a
def PartIs (w : World) (v : Value) (l : List UInt8) : Prop := ∃ a n c, v = .slice a n c ∧ n ≤ c ∧ n ≤ 1000000 ∧ RdB w a n l ∧ Old w a
theorem PartIs.still {w w' : World} {v : Value} {l : List UInt8} (h : PartIs w v l) (hf : Fr Nob w w') : PartIs w' v l := by
 obtain ⟨a, n, c, h1, h2, h3, h4, h5⟩ := h
 exact ⟨a, n, c, h1, h2, h3, h4.still hf, h5.grow hf.size⟩
def PartsAt (w : World) (a : Option Addr) (ls : List (List UInt8)) : Prop := ∃ vs : List Value, Rd w a ls.length vs ∧ ∀ (i : Nat) (v : Value), vs[i]? = some v → ∃ l : List UInt8, ls[i]? = some l ∧ PartIs w v l
theorem PartsAt.get {w : World} {a : Option Addr} {ls : List (List UInt8)} (h : PartsAt w a ls) {j : Nat} (hj : j < ls.length) : ∃ b o v, a = some ⟨b, o, none⟩ ∧ w.cell? ⟨b, o + j, none⟩ = some v ∧ PartIs w v (ls.getD j []) := by
 obtain ⟨vs, hr, hv⟩ := h
 obtain ⟨b, o, rfl, hat⟩ := hr.at (by omega)
 have hl := hr.len
 obtain ⟨l, h1, h2⟩ := hv j (vs[j]'(by omega)) (List.getElem?_eq_getElem (by omega))
 refine ⟨b, o, vs[j]'(by omega), rfl, hat j _ (List.getElem?_eq_getElem (by omega)), ?_⟩
 rwa [List.getD_eq_getElem?_getD, h1]
theorem PartsAt.still {w w' : World} {a : Option Addr} {ls : List (List UInt8)} (h : PartsAt w a ls) (hf : Fr Nob w w') : PartsAt w' a ls := by
 obtain ⟨vs, hr, hv⟩ := h
 refine ⟨vs, hr.still hf, fun i v hi => ?_⟩
 obtain ⟨l, h1, h2⟩ := hv i v hi
 exact ⟨l, h1, h2.still hf⟩
def i0g (s : List UInt8) (ls : List (List UInt8)) : List UInt8 := a0N (s :: ls)
def g0n (s : List UInt8) (ls : List (List UInt8)) : List UInt8 := c0a (i0g s ls) 6 32
theorem z25 : ((a0D, 0) : List UInt64 × Nat).1.length = 25 := rfl
attribute [local irreducible] d0s c0e a0N abs a0D
theorem y0a (s : ByteArray) (a : Option Addr) (c : Nat) (ls : List (List UInt8)) (w : World) (hs : s.size ≤ 1000000) (hm : ls.length ≤ 1000000) (hb : PartsAt w a ls) :
  Calls Tryz.prog 169 #[.string s, .slice a ls.length c] w fun r w' => ∃ v, r = .returned v ∧ Own w' w.heap.size 5 1 v 32 (bs (g0n s.data.toList ls)) ∧ Fr Nob w w' := by
 go_enter Tryz.func169, Tryz.ntmps169
 go_wp2_with (with_reducible refine wSk 8 ?_)
 refine c0H rfl rfl _ s0w ?_
 refine v0A rfl rfl rfl (abs (a0D, 0)) rfl ?_
 intro w1 hg1 hf1 hz1
 clear hz1
 have hst1 := z25
 have hst2 : ((a0D, 0) : List UInt64 × Nat).2 < 136 := Nat.zero_lt_succ _
 obtain ⟨st0, hst0⟩ : ∃ st0 : List UInt64 × Nat, st0 = (a0D, 0) := ⟨_, rfl⟩
 rw [← hst0] at hg1 hst1 hst2
 have HST0 := qH hst0; clear hst0
 generalize hgw : w.heap.size = g at *
 have HG := qH hgw; clear hgw
 go_wp2_with (with_reducible refine wSk 12 ?_)
 refine f0k rfl rfl Tryz.underlying9 Tryz.underlying22 Tryz.underlying5 rfl (by unfold maxLen; omega) w1.heap.size (Nat.le_refl _) ?_
 intro cap w2 hown2 hf2 hz2
 have hg2 := hg1.keep hf2 id
 have hfr2 := hf1.then hf2
 have hgl := hg1.lt
 obtain ⟨a2, c2, hv2, hc2, hrd2, -⟩ := hown2.form
 cases hv2
 rw [Nat.mul_one] at hrd2
 go_wp2_with fail
 have hoff0 : Off (One g) (some (⟨w1.heap.size, 0, none⟩ : Addr)) := fun x hx (e : x.block = g) => by
  cases hx
  exact absurd e (by show ¬ (w1.heap.size = g); omega)
 have hcall := l0M g st0 (some ⟨w1.heap.size, 0, none⟩) s.size cap s.data.toList w2 hst1 hst2 hs hc2 hg2 hrd2 hoff0
 refine hcall.mono ?_
 rintro e w3 ⟨rfl, hg3, hf3⟩
 have hfr3 : Fr Nob w w3 := hfr2.new hf3 (by rw [HG.out]; exact Nat.le_refl _)
 clear hg1 hf1 hown2 hf2 hz2 hg2 hfr2 hrd2 hf3 hgl
 go_wp2_with fail
 go_loopw [16] (fun i wr => ∃ j : Nat, j ≤ ls.length ∧ i = .int .i64 (j : Int) ∧ Has wr g (abs (d0s st0 (a0N (s.data.toList :: ls.take j)))) 234 ∧ Fr Nob w wr) (fun i _ => (ls.length - intOf i).toNat)
 case atStart => exact ⟨0, by omega, rfl, by rw [List.take_zero, e0b]; exact hg3, hfr3⟩
 case round =>
  obtain ⟨j, hj, rfl, hgj, hfj⟩ := hrel
  clear hg3 hfr3
  by_cases hlt : j < ls.length
  ·have hltI : (j : Int) < (ls.length : Int) := by omega
   obtain ⟨b, o, v, rfl, hc, hp⟩ := (hb.still hfj).get hlt
   obtain ⟨b', o', v', hv', hc', hp'⟩ := hb.get hlt
   simp only [Option.some.injEq, Addr.mk.injEq] at hv'
   obtain ⟨rfl, rfl, -⟩ := hv'
   have hvv : v = v' := by
    have := hfj.cell id hc'
    rw [hc] at this; simpa using this
   subst hvv
   obtain ⟨ap, np, cp, rfl, hp1, hp2, hp3, hp4⟩ := hp'
   have hr3 := hp3.still hfj
   clear hp
   have hoff : Off (One g) ap := hp4.off (by rw [HG.out]; exact Nat.le_refl _)
   go_wp2_with fail
   have hSj : (d0s st0 (a0N (s.data.toList :: ls.take j))).1.length = 25 := by rw [h0c, hst1]
   have hkj := n0c (a0N (s.data.toList :: ls.take j)) st0 hst2
   refine (l0M g (d0s st0 (a0N (s.data.toList :: ls.take j))) ap np cp (ls.getD j []) wr hSj hkj hp2 hp1 hgj hr3 hoff).mono ?_
   rintro e w4 ⟨rfl, hg4, hf4⟩
   have hfr4 : Fr Nob w w4 := hfj.new hf4 (by rw [HG.out]; exact Nat.le_refl _)
   rw [← d0o] at hg4
   have hfl : a0N (s.data.toList :: ls.take j) ++ c0e (ls.getD j []) = a0N (s.data.toList :: ls.take (j + 1)) := by
    rw [List.take_succ_eq_append_getElem hlt, ← List.cons_append, e0W, e0b, List.getD_eq_getElem?_getD, List.getElem?_eq_getElem hlt]; rfl
   rw [hfl] at hg4
   clear hSj hkj hr3 hgj hfj hf4 hfl
   go_wp2_with fail
   go_roundw
   case rel => exact ⟨j + 1, by omega, by go_num, hg4, hfr4⟩
   case measure => simp [intOf]; omega
  ·have hge : ¬ ((j : Int) < (ls.length : Int)) := by omega
   have hjn : j = ls.length := by omega
   have hSj : (d0s st0 (a0N (s.data.toList :: ls.take j))).1.length = 25 := by rw [h0c, hst1]
   have hkj := n0c (a0N (s.data.toList :: ls.take j)) st0 hst2
   have hft : a0N (s.data.toList :: ls.take j) = i0g s.data.toList ls := by rw [hjn, List.take_length]; rfl
   rw [hft] at hgj hSj hkj
   generalize hst : d0s st0 (i0g s.data.toList ls) = st at *
   have HST := qH hst; clear hst
   have HJN := qH hjn; clear hjn
   clear hft
   go_wp2_with fail
   refine (x0Z g st.1 st.2 6 32 wr hSj hkj (by omega) hgj).mono ?_
   rintro e w4 ⟨v, rfl, hown, hf4⟩
   go_wp2_with fail
   go_ret
   refine ⟨v, rfl, ?_, hfj.new hf4 (by rw [HG.out]; exact Nat.le_refl _)⟩
   have := hown.mono (base' := g) (by have := hgj.lt; omega)
   rw [HG.out]
   unfold g0n c0a
   rw [← HST0.out, HST.out]
   exact this
theorem y0b (s : ByteArray) (a : Option Addr) (c : Nat) (ls : List (List UInt8)) (w : World) (hs : s.size ≤ 1000000) (hm : ls.length ≤ 1000000) (hb : PartsAt w a ls) :
  Calls Tryz.prog 115 #[.string s, .slice a ls.length c] w fun r w' => ∃ v, r = .returned v ∧ Own w' w.heap.size 5 1 v 32 (bs (g0n s.data.toList ls)) ∧ Fr Nob w w' := by
 go_enter Tryz.func115, Tryz.ntmps115
 go_wp2_with fail
 refine (y0a s a c ls w hs hm hb).mono ?_
 rintro e w4 ⟨v, rfl, hown, hf4⟩
 go_wp2_with fail
 go_ret
 exact ⟨v, rfl, hown, hf4⟩
end
section
open Go.RowKit Go.Mv Mvp
end
section
open Go.RowKit Go.Mv Mvp
attribute [local irreducible] b0S c0t toB a0z a0T b0T e0h c0a
theorem s0x (s : ByteArray) (w : World) (hs : s.size ≤ 1000000) :
  Calls Tryz.prog 178 #[.string s] w fun r w' => r = .returned (.string (mkS (c0a s.data.toList 6 32))) ∧ Fr Nob w w' := by
 go_enter Tryz.func178, Tryz.ntmps178
 go_wp2_with fail
 refine (n0j s 6 32 w hs (by omega)).mono ?_
 rintro e w3 ⟨rfl, hf3⟩
 go_wp2_with fail
 go_ret
 exact ⟨rfl, hf3⟩
end
end Go.Proofs.YtemcankmggmgoaaGreat
namespace Go.Mv
open Go.RowKit Go.ChangeShapes Go.WideShapes
def ss (l : List (List UInt8)) : List Value := l.map fun x => .string (mkS x)
theorem z0F (l : List (List UInt8)) (i : Nat) (hi : i < l.length) : (ss l)[i]? = some (.string (mkS (l.getD i []))) := by
 simp [ss, List.getD_eq_getElem?_getD, hi]
section
variable {H : Type} {enc : TypeId × Value → H} {P : Program} {w : World} {base : Nat} {held : Bool} {spare : Nat → Bool}
end
end Go.Mv
namespace Go.Proofs.YtemcankmggmgoaaGreat
section
open Go.RowKit Go.Mv Mvp
attribute [local irreducible] b0S c0t toB a0z a0T b0T e0h c0a d0s c0e a0N
theorem j0a (l : List UInt8) : (c0e l).length = 4 + l.length := by unfold c0e; simp [k0j]
def k0s (ls : List (List UInt8)) : Nat := (ls.map List.length).foldr (· + ·) 0
theorem i0h (a b : List (List UInt8)) : k0s (a ++ b) = k0s a + k0s b := by
 induction a with
 | nil => simp [k0s]
 | cons x a ih => simp only [k0s, List.cons_append, List.map_cons, List.foldr_cons] at *; omega
theorem n0l (ls : List (List UInt8)) : (a0N ls).length = 4 * ls.length + k0s ls := by
 induction ls with
 | nil => rw [n0k]; rfl
 | cons a b ih => rw [l0L, List.length_append, j0a, ih, List.length_cons]; simp only [k0s, List.map_cons, List.foldr_cons]; omega
theorem s0y (ls : List (List UInt8)) (j : Nat) : k0s (ls.take j) ≤ k0s ls := by
 have := i0h (ls.take j) (ls.drop j)
 rw [List.take_append_drop] at this; omega
theorem u0X (ls : List (List UInt8)) (j : Nat) (hj : j < ls.length) : (ls.getD j []).length ≤ k0s ls := by
 have h1 := i0h (ls.take j) (ls.drop j)
 rw [List.take_append_drop, List.drop_eq_getElem_cons hj] at h1
 have h2 : k0s (ls[j] :: ls.drop (j + 1)) = ls[j].length + k0s (ls.drop (j + 1)) := by simp only [k0s, List.map_cons, List.foldr_cons]
 have h3 : ls.getD j [] = ls[j] := by simp [List.getD_eq_getElem?_getD, hj]
 rw [h3]; omega
theorem u0Y (s : ByteArray) (a : Option Addr) (c : Nat) (ls : List (List UInt8)) (w : World) (hs : s.size + k0s ls ≤ 100000) (hm : ls.length ≤ 1000) (hb : Rd w a ls.length (ss ls)) :
  Calls Tryz.prog 126 #[.string s, .slice a ls.length c] w fun r w' => r = .returned (.string (mkS (g0n s.data.toList ls))) ∧ Fr Nob w w' := by
 go_enter Tryz.func126, Tryz.ntmps126
 go_wp2_with fail
 refine (i0Z s w (by omega)).mono ?_
 rintro e w1 ⟨rfl, hf1⟩
 have hsl : s.data.toList.length = s.size := b0R s
 go_wp2_with fail
 go_loopw [6, 5] (fun i q wr => ∃ j : Nat, j ≤ ls.length ∧ i = .int .i64 (j : Int) ∧ q = .string (mkS (a0N (s.data.toList :: ls.take j))) ∧ Fr Nob w wr) (fun i _ _ => (ls.length - intOf i).toNat)
 case atStart => exact ⟨0, by omega, rfl, by rw [List.take_zero, e0b], hf1⟩
 case round =>
  obtain ⟨j, hj, rfl, rfl, hfj⟩ := hrel
  clear hf1
  have hql : (mkS (a0N (s.data.toList :: ls.take j))).size ≤ 200000 := by
   rw [a0Q, n0l]
   have h1 := s0y ls j
   have h2 : k0s (s.data.toList :: ls.take j) = s.data.toList.length + k0s (ls.take j) := by simp [k0s]
   rw [h2, List.length_cons, List.length_take]; omega
  by_cases hlt : j < ls.length
  ·have hltI : (j : Int) < (ls.length : Int) := by omega
   obtain ⟨b, o, rfl, hat⟩ := (hb.still hfj).at (by omega)
   have hc : wr.cell? ⟨b, o + j, none⟩ = some (.string (mkS (ls.getD j []))) := hat j _ (z0F ls j hlt)
   have hxl := u0X ls j hlt
   have hfl : a0N (s.data.toList :: ls.take j) ++ c0e (ls.getD j []) = a0N (s.data.toList :: ls.take (j + 1)) := by
    rw [List.take_succ_eq_append_getElem hlt, ← List.cons_append, e0W, e0b, List.getD_eq_getElem?_getD, List.getElem?_eq_getElem hlt]; rfl
   have hcat : ¬ 9223372036854775807 < (mkS (a0N (s.data.toList :: ls.take j))).size + (mkS (c0e (ls.getD j []))).size := by
    rw [a0Q (c0e _), j0a]; omega
   generalize hx : ls.getD j [] = x at *
   have HX := qH hx; clear hx
   have hfl2 := hfl
   have HFL := qH hfl2; clear hfl hfl2
   generalize hq : mkS (a0N (s.data.toList :: ls.take j)) = q at *
   have HQ := qH hq; clear hq
   have HQL := qH hql; clear hql
   have HSL := qH hsl; clear hsl
   clear hat
   go_wp2_with fail
   refine (i0Z (mkS x) wr (by rw [a0Q]; omega)).mono ?_
   rintro e w4 ⟨rfl, hf4⟩
   rw [b0n]
   have hfr4 := hfj.then hf4
   clear hfj hf4
   go_wp2_with fail
   go_roundw
   case rel => exact ⟨j + 1, by omega, by go_num, by rw [← HQ.out, e0K, HFL.out], hfr4⟩
   case measure => simp [intOf]; omega
  ·have hge : ¬ ((j : Int) < (ls.length : Int)) := by omega
   have hjn : j = ls.length := by omega
   have hft : a0N (s.data.toList :: ls.take j) = i0g s.data.toList ls := by rw [hjn, List.take_length]; rfl
   rw [hft] at hql ⊢
   have HJN := qH hjn; clear hjn
   clear hft
   go_wp2_with fail
   refine (s0x (mkS (i0g s.data.toList ls)) wr (by omega)).mono ?_
   rintro e w4 ⟨rfl, hf4⟩
   rw [b0n]
   go_wp2_with fail
   go_ret
   exact ⟨rfl, hfj.then hf4⟩
end
section
open Go.RowKit Go.Mv Mvp
attribute [local irreducible] b0S c0t toB a0z a0T b0T e0h c0a d0s c0e a0N g0n
def Parts (w : World) : List Value → List (List UInt8) → Prop
 | [], [] => True
 | v :: vs, l :: ls => PartIs w v l ∧ Parts w vs ls
 | _, _ => False
theorem Parts.len {w : World} : ∀ {vs : List Value} {ls : List (List UInt8)}, Parts w vs ls → vs.length = ls.length
 | [], [], _ => rfl
 | _ :: _, _ :: _, h => by simp only [List.length_cons]; rw [Parts.len h.2]
 | [], _ :: _, h => h.elim
 | _ :: _, [], h => h.elim
theorem Parts.get {w : World} : ∀ {vs : List Value} {ls : List (List UInt8)}, Parts w vs ls → ∀ (i : Nat) (v : Value), vs[i]? = some v → ∃ l : List UInt8, ls[i]? = some l ∧ PartIs w v l
 | [], [], _, i, v, h => by simp at h
 | x :: vs, l :: ls, h, 0, v, hv => by simp only [List.getElem?_cons_zero, Option.some.injEq] at hv; subst hv; exact ⟨l, rfl, h.1⟩
 | x :: vs, l :: ls, h, i + 1, v, hv => by simp only [List.getElem?_cons_succ] at hv ⊢; exact Parts.get h.2 i v hv
 | [], _ :: _, h, _, _, _ => h.elim
 | _ :: _, [], h, _, _, _ => h.elim
theorem Parts.at {w : World} {g : Nat} {T : TypeId} {vs : List Value} {ls : List (List UInt8)} (h : Parts w vs ls) (hg : Has w g vs T) : PartsAt w (some ⟨g, 0, none⟩) ls :=
 ⟨vs, by have := Rd.whole hg; rwa [h.len] at this, h.get⟩
theorem Parts.cells {w : World} : ∀ {vs : List Value} {ls : List (List UInt8)}, Parts w vs ls → ∀ v ∈ vs, v.cells = #[v]
 | [], _, _, v, h => by simp at h
 | x :: vs, l :: ls, h, v, hv => by
  rcases List.mem_cons.1 hv with rfl | hv
  ·obtain ⟨a, n, c, rfl, _⟩ := h.1; rfl
  ·exact Parts.cells h.2 v hv
 | _ :: _, [], h, _, _ => h.elim
theorem u0Z {w : World} {base n : Nat} {T : TypeId} {v : Value} {l : List UInt8} (h : Own w base T 1 v n (bs l)) (hn : n ≤ 1000000) : PartIs w v l := by
 have h0 := h
 obtain ⟨a, c, rfl, hc, hr, -⟩ := h.form
 rw [Nat.mul_one] at hr
 refine ⟨a, n, c, rfl, hc, hn, hr, ?_⟩
 intro x hx
 exact (h0.lt (by rw [hx]; rfl)).2
def LogAt (w : World) (base g : Nat) (l : List UInt8) : Prop := ∃ v, Has w g [v] 228 ∧ Own w base 5 1 v 32 (bs l)
theorem LogAt.still {w w' : World} {base g : Nat} {l : List UInt8} (h : LogAt w base g l) (hf : Fr Nob w w') : LogAt w' base g l := by
 obtain ⟨v, h1, h2⟩ := h; exact ⟨v, h1.keep hf id, h2.still hf⟩
theorem LogAt.other {w w' : World} {base g g' : Nat} {l : List UInt8} (h : LogAt w base g l) (hf : Fr (One g') w w') (hne : g ≠ g') {L : List Value} {T : TypeId} (hg : Has w g' L T) (hT : 5 ≠ T) : LogAt w' base g l := by
 obtain ⟨v, h1, h2⟩ := h
 exact ⟨v, h1.keep hf hne, h2.keep hf (fun k hk (e : k = g') => h2.ne hg hT (e ▸ hk))⟩
theorem LogAt.lt {w : World} {base g : Nat} {l : List UInt8} (h : LogAt w base g l) : g < w.heap.size := by obtain ⟨v, h1, _⟩ := h; exact h1.lt
def RLogAt (w : World) (g : Nat) (l : List UInt8) : Prop := Has w g [.string (mkS l)] 197
theorem v0a (k : List UInt8) (ls : List (List UInt8)) : (g0n k ls).length = 32 := by unfold g0n; exact n0e _ _ _
theorem LogAt.store {w : World} {base g : Nat} {v0 v : Value} {l : List UInt8} (h0 : Has w g [v0] 228) (h : Own w base 5 1 v 32 (bs l)) : LogAt (w.setCell ⟨g, 0, none⟩ v) base g l := by
 refine ⟨v, by simpa using h0.set 0 v, h.keep ((Fr.refl (One g) w).setCell g 0 none v (fun _ => rfl)) (fun k hk (e : k = g) => h.ne h0 (by decide) (e ▸ hk))⟩
theorem RLogAt.store {w : World} {g : Nat} {v0 : Value} {l : List UInt8} (h0 : Has w g [v0] 197) : RLogAt (w.setCell ⟨g, 0, none⟩ (.string (mkS l))) g l := by
 simpa [RLogAt] using h0.set 0 (.string (mkS l))
end
end Go.Proofs.YtemcankmggmgoaaGreat
namespace Mvt
variable {α : Type} (nd : α → α → α)
def half (n : Nat) : Nat := 2 ^ Nat.log2 (n - 1)
def skip (a e : Nat) : Nat × Nat := if a % 2 = 0 ∧ 0 < a then skip (a / 2) (e / 2) else (a, e)
termination_by a
decreasing_by omega
end Mvt
namespace Go.Proofs.YtemcankmggmgoaaGreat
open Go.RowKit Go.Mv Mvp Mvt
attribute [local irreducible] b0S c0t toB a0z a0T b0T e0h c0a d0s c0e a0N g0n
end Go.Proofs.YtemcankmggmgoaaGreat
namespace Go.Mv
open Go.RowKit
theorem Has.ne {w : World} {g g' : Nat} {L L' : List Value} {T T' : TypeId} (h : Has w g L T) (h' : Has w g' L' T') (hT : T ≠ T') : g ≠ g' := by
 rintro rfl
 obtain ⟨_, _, h1, _⟩ := h
 obtain ⟨_, _, h2, _⟩ := h'
 rw [h1] at h2
 simp at h2
 exact hT h2.2.1
end Go.Mv
namespace Go.Proofs.YtemcankmggmgoaaGreat
section
open Go.RowKit Go.Mv Mvp
attribute [local irreducible] b0S c0t toB a0z a0T b0T e0h c0a d0s c0e a0N g0n
theorem LogAt.at' {w : World} {base g : Nat} {l : List UInt8} (h : LogAt w base g l) : ∃ v, Has w g [v] 228 := ⟨h.choose, h.choose_spec.1⟩
theorem LogAt.own {w w' : World} {base g : Nat} {l : List UInt8} {S : Nat → Prop} (h : LogAt w base g l) (hf : Fr S w w') (hg : ¬ S g) (hs : ∀ v, Own w base 5 1 v 32 (bs l) → ∀ k, o0K v k → ¬ S k) : LogAt w' base g l := by
 obtain ⟨v, h1, h2⟩ := h
 exact ⟨v, h1.keep hf hg, h2.keep hf (hs v h2)⟩
abbrev Tri : Type := Nat × Nat × List UInt8
def z0Z (T : List Tri) : List Value := T.map fun t => .pointer (some ⟨t.1, 0, none⟩)
def A0a (T : List Tri) : List Value := T.map fun t => .pointer (some ⟨t.2.1, 0, none⟩)
structure LI (w : World) (base ga gb : Nat) (sa sb : List UInt8) (T : List Tri) (vk : Value) (Lk : List Value) (vw : Value) (Lw : List Value) : Prop where
 la : sa.length = 32
 lb : sb.length = 32
 a : LogAt w base ga sa
 b : RLogAt w gb sb
 each : ∀ t ∈ T, LogAt w base t.1 t.2.2 ∧ RLogAt w t.2.1 t.2.2 ∧ t.2.2.length = 32
 na : (ga :: T.map (·.1)).Nodup
 nb : (gb :: T.map (·.2.1)).Nodup
 k : Own w base 126 1 vk Lk.length Lk
 w : Own w base 135 1 vw Lw.length Lw
 bs : base ≤ ga ∧ base ≤ gb ∧ ∀ t ∈ T, base ≤ t.1 ∧ base ≤ t.2.1
variable {w w' : World} {base ga gb : Nat} {sa sb : List UInt8} {T : List Tri} {vk vw : Value} {Lk Lw : List Value}
theorem LI.still (h : LI w base ga gb sa sb T vk Lk vw Lw) (hf : Fr Nob w w') : LI w' base ga gb sa sb T vk Lk vw Lw :=
 ⟨h.la, h.lb, h.a.still hf, Has.keep h.b hf id, fun t ht => ⟨(h.each t ht).1.still hf, Has.keep (h.each t ht).2.1 hf id, (h.each t ht).2.2⟩, h.na, h.nb, h.k.still hf, h.w.still hf, h.bs⟩
theorem LI.stepB (h : LI w base ga gb sa sb T vk Lk vw Lw) (hf : Fr (One gb) w w') {sb' : List UInt8} (hb : RLogAt w' gb sb') (hl : sb'.length = 32) : LI w' base ga gb sa sb' T vk Lk vw Lw := by
 have hv := h.b
 obtain ⟨v, hav⟩ := h.a.at'
 refine ⟨h.la, hl, h.a.other hf (Has.ne hav hv (by decide)) hv (by decide), hb, fun t ht => ⟨(h.each t ht).1.other hf (Has.ne (h.each t ht).1.at'.choose_spec hv (by decide)) hv (by decide), Has.keep (h.each t ht).2.1 hf ?_, (h.each t ht).2.2⟩, h.na, h.nb,
  h.k.keep hf (fun k hk (e : k = gb) => h.k.ne hv (by decide) (e ▸ hk)), h.w.keep hf (fun k hk (e : k = gb) => h.w.ne hv (by decide) (e ▸ hk)), h.bs⟩
 have hn := (List.nodup_cons.1 h.nb).1
 intro (e : t.2.1 = gb)
 exact hn (e ▸ List.mem_map.2 ⟨t, ht, rfl⟩)
structure LJ (w : World) (base : Nat) (T : List Tri) (j : Nat) (vk vw : Value) : Prop where
 each : ∀ i t, j ≤ i → T[i]? = some t → LogAt w base t.1 t.2.2 ∧ RLogAt w t.2.1 t.2.2 ∧ t.2.2.length = 32
 na : (T.map (·.1)).Nodup
 nb : (T.map (·.2.1)).Nodup
 k : Own w base 126 1 vk T.length (z0Z T)
 w : Own w base 135 1 vw T.length (A0a T)
 bs : ∀ t ∈ T, base ≤ t.1 ∧ base ≤ t.2.1
theorem LI.last (h : LI w base ga gb sa sa T vk (z0Z (T ++ [(ga, gb, sa)])) vw (A0a (T ++ [(ga, gb, sa)]))) : LJ w base (T ++ [(ga, gb, sa)]) 0 vk vw := by
 have h1 := List.nodup_cons.1 h.na
 have h2 := List.nodup_cons.1 h.nb
 have hlk : (z0Z (T ++ [(ga, gb, sa)])).length = (T ++ [(ga, gb, sa)]).length := by simp [z0Z]
 have hlw : (A0a (T ++ [(ga, gb, sa)])).length = (T ++ [(ga, gb, sa)]).length := by simp [A0a]
 refine ⟨?_, ?_, ?_, hlk ▸ h.k, hlw ▸ h.w, ?_⟩
 ·intro i t _ ht
  rcases List.mem_append.1 (List.mem_of_getElem? ht) with ht | ht
  ·exact h.each t ht
  ·simp only [List.mem_singleton] at ht
   subst ht
   exact ⟨h.a, h.b, h.la⟩
 ·rw [List.map_append, List.nodup_append]
  refine ⟨h1.2, by simp, ?_⟩
  intro x hx y hy e
  simp only [List.map_cons, List.map_nil, List.mem_singleton] at hy
  subst hy; subst e
  exact h1.1 hx
 ·rw [List.map_append, List.nodup_append]
  refine ⟨h2.2, by simp, ?_⟩
  intro x hx y hy e
  simp only [List.map_cons, List.map_nil, List.mem_singleton] at hy
  subst hy; subst e
  exact h2.1 hx
 ·intro t ht
  rcases List.mem_append.1 ht with ht | ht
  ·exact h.bs.2.2 t ht
  ·simp only [List.mem_singleton] at ht
   subst ht
   exact ⟨h.bs.1, h.bs.2.1⟩
theorem o0B {α : Type} {l : List α} (h : l.Nodup) {i j : Nat} {x y : α} (hi : l[i]? = some x) (hj : l[j]? = some y) (hne : i ≠ j) : x ≠ y := by
 intro e
 subst e
 have hi' := (List.getElem?_eq_some_iff.1 hi)
 have hj' := (List.getElem?_eq_some_iff.1 hj)
 obtain ⟨a, ha⟩ := hi'
 obtain ⟨b, hb⟩ := hj'
 rcases Nat.lt_or_gt_of_ne hne with k | k
 ·exact (List.pairwise_iff_getElem.1 h) i j a b k (ha.trans hb.symm)
 ·exact (List.pairwise_iff_getElem.1 h) j i b a k (hb.trans ha.symm)
theorem LJ.step {j : Nat} (h : LJ w base T j vk vw) {t : Tri} (ht : T[j]? = some t) {w1 w2 : World} (h1 : Fr (One t.1) w w1) (h2 : Fr (One t.2.1) w1 w2) : LJ w2 base T (j + 1) vk vw := by
 obtain ⟨ha, hb, -⟩ := h.each j t (Nat.le_refl _) ht
 obtain ⟨v, hv⟩ := ha.at'
 have hb1 : RLogAt w1 t.2.1 t.2.2 := Has.keep hb h1 (Has.ne hb hv (by decide))
 have k1 := h.k.keep h1 (fun k hk (e : k = t.1) => h.k.ne hv (by decide) (e ▸ hk))
 have l1 := h.w.keep h1 (fun k hk (e : k = t.1) => h.w.ne hv (by decide) (e ▸ hk))
 refine ⟨?_, h.na, h.nb, k1.keep h2 (fun k hk (e : k = t.2.1) => k1.ne hb1 (by decide) (e ▸ hk)), l1.keep h2 (fun k hk (e : k = t.2.1) => l1.ne hb1 (by decide) (e ▸ hk)), h.bs⟩
 intro i u hi hu
 obtain ⟨c, d, e⟩ := h.each i u (by omega) hu
 have n1 : u.1 ≠ t.1 := o0B h.na (i := i) (j := j) (by simp [List.getElem?_map, hu]) (by simp [List.getElem?_map, ht]) (by omega)
 have n2 : u.2.1 ≠ t.2.1 := o0B h.nb (i := i) (j := j) (by simp [List.getElem?_map, hu]) (by simp [List.getElem?_map, ht]) (by omega)
 have c1 := c.other h1 n1 hv (by decide)
 have d1 : RLogAt w1 u.2.1 u.2.2 := Has.keep d h1 (Has.ne d hv (by decide))
 exact ⟨c1.other h2 (Has.ne c1.at'.choose_spec hb1 (by decide)) hb1 (by decide), Has.keep d1 h2 n2, e⟩
end
section
open Go.RowKit Go.Mv Mvp Mvt
attribute [local irreducible] b0S c0t toB a0z a0T b0T e0h c0a d0s c0e a0N g0n
def POwn (w : World) (base : Nat) : List Value → List (List UInt8) → Prop
 | [], [] => True
 | v :: vs, l :: ls => Own w base 5 1 v l.length (bs l) ∧ POwn w base vs ls
 | _, _ => False
theorem POwn.len {w : World} {base : Nat} : ∀ {vs : List Value} {ls : List (List UInt8)}, POwn w base vs ls → vs.length = ls.length
 | [], [], _ => rfl
 | _ :: _, _ :: _, h => by simp only [List.length_cons]; rw [POwn.len h.2]
 | [], _ :: _, h => h.elim
 | _ :: _, [], h => h.elim
theorem POwn.keep {w w' : World} {base : Nat} {S : Nat → Prop} (hf : Fr S w w') : ∀ {vs : List Value} {ls : List (List UInt8)}, POwn w base vs ls → (∀ v n l, Own w base 5 1 v n (bs l) → ∀ k, o0K v k → ¬ S k) → POwn w' base vs ls
 | [], [], _, _ => trivial
 | _ :: _, _ :: _, h, hs => ⟨h.1.keep hf (hs _ _ _ h.1), POwn.keep hf h.2 hs⟩
 | [], _ :: _, h, _ => h.elim
 | _ :: _, [], h, _ => h.elim
theorem POwn.still {w w' : World} {base : Nat} {vs : List Value} {ls : List (List UInt8)} (h : POwn w base vs ls) (hf : Fr Nob w w') : POwn w' base vs ls := POwn.keep hf h (fun _ _ _ _ _ _ t => t)
theorem POwn.parts {w : World} {base : Nat} : ∀ {vs : List Value} {ls : List (List UInt8)}, POwn w base vs ls → (∀ x ∈ ls, x.length ≤ 1000000) → Parts w vs ls
 | [], [], _, _ => trivial
 | _ :: _, _ :: _, h, hx => ⟨u0Z h.1 (hx _ (by simp)), POwn.parts h.2 (fun x hxm => hx x (by simp [hxm]))⟩
 | [], _ :: _, h, _ => h.elim
 | _ :: _, [], h, _ => h.elim
def LOwn (w : World) (base : Nat) (v : Value) (ls : List (List UInt8)) : Prop := ∃ vs, Own w base 22 1 v ls.length vs ∧ POwn w base vs ls
theorem LOwn.still {w w' : World} {base : Nat} {v : Value} {ls : List (List UInt8)} (h : LOwn w base v ls) (hf : Fr Nob w w') : LOwn w' base v ls := by
 obtain ⟨vs, h1, h2⟩ := h; exact ⟨vs, h1.still hf, h2.still hf⟩
theorem LOwn.parts {w : World} {base : Nat} {v : Value} {ls : List (List UInt8)} (h : LOwn w base v ls) (hx : ∀ x ∈ ls, x.length ≤ 1000000) : ∃ a c, v = .slice a ls.length c ∧ ls.length ≤ c ∧ PartsAt w a ls := by
 obtain ⟨vs, h1, h2⟩ := h
 obtain ⟨a, c, rfl, hc, hr, -⟩ := h1.form
 rw [Nat.mul_one] at hr
 exact ⟨a, c, rfl, hc, vs, hr, (h2.parts hx).get⟩
end
section
open Go.RowKit Go.Mv Mvp Mvt
attribute [local irreducible] b0S c0t toB a0z a0T b0T e0h c0a d0s c0e a0N g0n
def Sep (vs : List Value) : Prop := vs.Pairwise fun a b => ∀ k, o0K a k → ¬ o0K b k
theorem Sep.nil : Sep [] := List.Pairwise.nil
theorem POwn.get {w : World} {base : Nat} : ∀ {vs : List Value} {ls : List (List UInt8)}, POwn w base vs ls → ∀ (i : Nat) (v : Value), vs[i]? = some v → ∃ l, ls[i]? = some l ∧ Own w base 5 1 v l.length (bs l)
 | [], [], _, i, v, hv => by simp at hv
 | a :: vs, l :: ls, h, 0, v, hv => by simp at hv; subst hv; exact ⟨l, rfl, h.1⟩
 | a :: vs, l :: ls, h, i + 1, v, hv => by simp at hv; obtain ⟨l', h1, h2⟩ := POwn.get h.2 i v hv; exact ⟨l', by simpa using h1, h2⟩
 | [], _ :: _, h, _, _, _ => h.elim
 | _ :: _, [], h, _, _, _ => h.elim
theorem POwn.mono {w : World} {base base' : Nat} (hb : base' ≤ base) : ∀ {vs : List Value} {ls : List (List UInt8)}, POwn w base vs ls → POwn w base' vs ls
 | [], [], _ => trivial
 | _ :: _, _ :: _, h => ⟨h.1.mono hb, POwn.mono hb h.2⟩
 | [], _ :: _, h => h.elim
 | _ :: _, [], h => h.elim
def SOwn (w : World) (base : Nat) (v : Value) (ls : List (List UInt8)) : Prop := ∃ vs, Own w base 22 1 v ls.length vs ∧ POwn w base vs ls ∧ Sep vs
theorem SOwn.nil (w : World) (base : Nat) : SOwn w base (.slice none 0 0) [] := ⟨[], Own.nil _ _ _ _, trivial, Sep.nil⟩
theorem SOwn.still {w w' : World} {base : Nat} {v : Value} {ls : List (List UInt8)} (h : SOwn w base v ls) (hf : Fr Nob w w') : SOwn w' base v ls := by
 obtain ⟨vs, h1, h2, h3⟩ := h; exact ⟨vs, h1.still hf, h2.still hf, h3⟩
end
end Go.Proofs.YtemcankmggmgoaaGreat
namespace Mvp
def lenV : Go.Value → Nat
 | .slice _ n _ => n
 | _ => 0
end Mvp
namespace Go.Proofs.YtemcankmggmgoaaGreat
open Go.RowKit Go.Mv Mvp
theorem SOwn.mono {w : World} {base base' : Nat} {v : Value} {ls : List (List UInt8)} (h : SOwn w base v ls) (hb : base' ≤ base) : SOwn w base' v ls := by
 obtain ⟨vs, h1, h2, h3⟩ := h; exact ⟨vs, h1.mono hb, h2.mono hb, h3⟩
attribute [local irreducible] a0G lw mix cw b0q b0y b0p a0K a0r beN b0F a0U b0D a0I a0R elN mdL b0B b0m
end Go.Proofs.YtemcankmggmgoaaGreat
namespace Mvp
end Mvp
namespace Go.Proofs.YtemcankmggmgoaaGreat
section
open Go.RowKit Go.Mv Mvp
attribute [local irreducible] a0G lw mix cw b0q b0y b0p a0K a0r beN b0F a0U b0D a0I a0R elN mdL c0O b0m b0B
end
section
open Go.RowKit Go.Mv Mvp Mvq
noncomputable def smL (ln lp : List (List UInt8)) (k : Nat) : List (Nat × Pt) := (List.range k).map fun i => (beN (ln.getD i []), e0i (lp.getD i []))
def n0m (ln lp : List (List UInt8)) : Nat := if ln.length = lp.length then (if ln.length ≤ 512 then (if b0B mQ ln then (if e0f lp then 0 else 4) else 3) else 1) else 2
noncomputable def m0a (ln lp : List (List UInt8)) : List UInt8 := if ln.length = lp.length then (if ln.length ≤ 512 then (if b0B mQ ln then (if e0f lp then b0g (g0w (smL ln lp lp.length)) else []) else []) else []) else []
theorem v0b {ls : List (List UInt8)} (h : e0f ls = true) (i : Nat) (hi : i < ls.length) : c0N (ls.getD i []) = true := by
 unfold e0f at h
 rw [List.all_eq_true] at h
 refine h _ ?_
 rw [List.getD_eq_getElem?_getD, List.getElem?_eq_getElem hi]
 exact List.getElem_mem hi
theorem p0T {ls : List (List UInt8)} (h : b0B mQ ls = true) (i : Nat) (hi : i < ls.length) : b0m mQ (ls.getD i []) = true := by
 unfold b0B at h
 rw [List.all_eq_true] at h
 refine h _ ?_
 rw [List.getD_eq_getElem?_getD, List.getElem?_eq_getElem hi]
 exact List.getElem_mem hi
theorem z0G {ln lp : List (List UInt8)} (hl : ln.length = lp.length) (hn : b0B mQ ln = true) (hp : e0f lp = true) : (k0r (l0Z (aK ln ln.length) lp)).pt = g0w (smL ln lp lp.length) := by
 have e : l0Y (l0Z (aK ln ln.length) lp) = smL ln lp lp.length := by
  unfold l0Y l0Z smL
  rw [List.map_map]
  refine List.map_congr_left fun i hi => ?_
  have hi := List.mem_range.1 hi
  show (aK ln ln.length i, (rdT (lp.getD i [])).pt) = _
  rw [z0p (v0b hp i hi)]
  unfold aK
  rw [if_pos (by omega)]
 rw [x0x _ ?_, e]
 intro t ht
 unfold l0Z at ht
 obtain ⟨i, hi, rfl⟩ := List.mem_map.1 ht
 have hi := List.mem_range.1 hi
 show aK ln ln.length i < _
 unfold aK
 rw [if_pos (by omega)]
 exact Nat.lt_trans (o0k (p0T hn i (by omega))) q16
theorem y0c (al : Option Addr) (cl : Nat) (vs : List Value) (ln : List (List UInt8)) (bl : Option Addr) (dl : Nat) (us : List Value) (lp : List (List UInt8)) (w : World) (hv : Rd w al ln.length vs) (hp : BParts w vs ln) (hu : Rd w bl lp.length us) (hq : BParts w us lp) :
  Calls Tryz.prog 132 #[.slice al ln.length cl, .slice bl lp.length dl] w fun e w' => ∃ v, e = .returned (.tuple #[v, .int .i64 (n0m ln lp : Nat)]) ∧ OwnB1 w w' v (m0a ln lp) ∧ Fr Nob w w' := by
 by_cases h1 : ln.length = lp.length
 ·rw [← h1] at hu ⊢
  by_cases h2 : ln.length ≤ 512
  ·cases hn : b0B mQ ln
   ·refine (u0r al _ cl vs ln bl dl us lp w hv hp hu hq h2 hn).mono fun e w' k => ⟨.slice none 0 0, ?_, ?_, k.2⟩
    ·rw [k.1]; unfold n0m; rw [if_pos h1, if_pos h2, hn]; rfl
    ·unfold m0a; rw [if_pos h1, if_pos h2, hn]; exact OwnB1.nil _ _
   ·cases hr : e0f lp
    ·refine (u0q al _ cl vs ln bl dl us lp w hv hp hu hq h2 hn hr).mono fun e w' k => ⟨.slice none 0 0, ?_, ?_, k.2⟩
     ·rw [k.1]; unfold n0m; rw [if_pos h1, if_pos h2, hn, hr]; rfl
     ·unfold m0a; rw [if_pos h1, if_pos h2, hn, hr]; exact OwnB1.nil _ _
    ·refine (z0v al _ cl vs ln bl dl us lp w hv hp hu hq h2 hn hr).mono fun e w' k => ?_
     obtain ⟨v, k1, k2, k3⟩ := k
     rw [z0G h1 hn hr] at k2
     refine ⟨v, ?_, ?_, k3⟩
     ·rw [k1]; unfold n0m; rw [if_pos h1, if_pos h2, hn, hr]; rfl
     ·unfold m0a; rw [if_pos h1, if_pos h2, hn, hr]; exact OwnB1.of k2 (f0K _)
  ·refine (u0t al _ cl bl dl w (by omega)).mono fun e w' k => ⟨.slice none 0 0, ?_, ?_, k.2⟩
   ·rw [k.1]; unfold n0m; rw [if_pos h1, if_neg h2]; rfl
   ·unfold m0a; rw [if_pos h1, if_neg h2]; exact OwnB1.nil _ _
 ·refine (u0s al _ cl bl _ dl w h1).mono fun e w' k => ⟨.slice none 0 0, ?_, ?_, k.2⟩
  ·rw [k.1]; unfold n0m; rw [if_neg h1]; rfl
  ·unfold m0a; rw [if_neg h1]; exact OwnB1.nil _ _
attribute [local irreducible] a0G lw mix cw b0q b0y b0p a0K a0r beN b0F a0U b0D a0I a0R elN mdL b0m rtV b0I kN kc c0d b0g f0Y noR c0x f0h RT.L gXn gYn rpL c0N e0i b0B e0f
end
section
open Go.RowKit Go.Mv Mvp Mvq
def chV (a : Option Addr) (n c : Nat) (e : Int) : Value := .agg #[.slice a n c, .int .i64 e]
theorem l0N (a : Option Addr) (n c : Nat) (e : Int) : Tryz.prog.built 153 [(0, .slice a n c), (1, .int .i64 e)] = some ([Value.slice a n c, .int .i64 e]).toArray := by kernel_rfl
theorem l0O (a : Option Addr) (n c : Nat) (e : Int) : ∀ v ∈ [Value.slice a n c, .int .i64 e], v.oneCell' = true := by
 intro v hv
 simp only [List.mem_cons, List.not_mem_nil, or_false] at hv
 rcases hv with rfl | rfl <;> rfl
attribute [local irreducible] a0G lw mix cw b0q b0y b0p a0K a0r beN b0F a0U b0D a0I a0R elN mdL b0m rtV b0I b0g c0N e0i b0B e0f n0m m0a a0V
theorem y0d (x : Nat) (a : Option Addr) (n c : Nat) (w : World) :
  Calls Tryz.prog 109 #[i4 (elN mQ x), .slice a n c] w fun e w' => ∃ g2 g3, e = .returned (.func (.func 165) #[] #[.pointer (some ⟨g2, 0, none⟩), .pointer (some ⟨g3, 0, none⟩)]) ∧ Has w' g2 (cw 4 (elN mQ x)) 68 ∧ Has w' g3 [.slice a n c] 22 ∧ Fr Nob w w' := by
 have st0 := St.start Nob w
 go_enter Tryz.func109, Tryz.ntmps109
 go_wp2_with (with_reducible refine wSk 2 ?_)
 refine a0m st0 rfl rfl rfl (cw 4 (elN mQ x)) rfl ?_
 intro g2 w1 st1
 clear st0
 go_wp2_with (with_reducible refine wSk 3 ?_)
 refine a0m st1 rfl rfl rfl [.slice a n c] rfl ?_
 intro g3 w2 st2
 clear st1
 have H2 := qH (st2.at 0 rfl)
 have H3 := qH (st2.at 1 rfl)
 have HF := qH st2.fr
 clear st2
 go_wp2_with fail
 go_ret
 exact ⟨g2, g3, rfl, H2.out, H3.out, HF.out⟩
theorem o0C (x : Nat) (w : World) : Calls Tryz.prog 51 #[i4 (elN mQ x)] w fun e w' => ∃ y : Option Addr × Nat, e = .returned (.slice y.1 32 y.2) ∧ BPart w' (.slice y.1 32 y.2) (a0U (x % mQ.M)) ∧ Fr Nob w w' := by
 refine (p0f mQ .one x w).mono ?_
 rintro e w' ⟨v, rfl, ho, hf⟩
 obtain ⟨a, c, rfl, hc, hr, -⟩ := ho.form
 rw [Nat.mul_one] at hr
 exact ⟨(a, c), rfl, ⟨a, 32, c, rfl, hc, hr⟩, hf⟩
theorem v0c (x : Nat) (g2 g3 : Nat) (a : Option Addr) (n c : Nat) (l1 : List UInt8) (b : Option Addr) (m d : Nat) (l2 : List UInt8) (w : World) (h2 : Has w g2 (cw 4 (elN mQ x)) 68) (h3 : Has w g3 [.slice b m d] 22) (hp1 : BPart w (.slice a n c) l1) (hp2 : BPart w (.slice b m d) l2) :
  Calls Tryz.prog 165 #[.slice a n c, .pointer (some ⟨g2, 0, none⟩), .pointer (some ⟨g3, 0, none⟩)] w fun e w' => ∃ v, e = .returned (.tuple #[v, .int .i64 (n0m [a0U (1 % mQ.M), a0U (x % mQ.M)] [l1, l2] : Nat)]) ∧ Own w' 0 5 1 v (m0a [a0U (1 % mQ.M), a0U (x % mQ.M)] [l1, l2]).length (bs (m0a [a0U (1 % mQ.M), a0U (x % mQ.M)] [l1, l2])) ∧ Fr Nob w w' := by
 have HG2 := qH h2
 have HG3 := qH h3
 have HP1 := qH hp1
 have HP2 := qH hp2
 clear h2 h3 hp1 hp2
 have st0 := St.start Nob w
 go_enter Tryz.func165, Tryz.ntmps165
 go_wp2_with fail
 refine wp_region_noPanic ?_
 refine a0f st0 12 [.t 2, .w 5, .t 6, .o 7, .c 0, .c 1, .c 3, .o 4, .j 7, .j 4] (.r 8 (.w 9 (.w 10 (.w 11 (.m 12 .nil))))) (by kernel_rfl) (by kernel_rfl) (fun _ _ _ _ _ h => h) ?_
 clear st0
 refine a0e rfl rfl rfl (fun _ => rfl) (cw 4 (elN mQ x)) (fun wx hS => (HG2.out.keep (St.fr hS) id).range 0 _ dZl) Tryz.underlying68 rfl (by first | (rw [a0a]; kernel_rfl) | (simp only [List.length_append, a0a]; kernel_rfl)) ?_
 try simp only [clL]
 refine a0n (v := ?_) rfl rfl (fun xq wx => ?_) ?_
 rotate_left 1
 ·(go_simp; with_reducible rfl)
 try simp only [clL]
 refine a0Z (v := ?_) rfl rfl (fun xq wx hS => ?_) ?_
 rotate_left 1
 ·(have hc := (HG3.out.keep (St.fr hS) id).cell (show [Value.slice b m d][0]? = _ from rfl); clear hS; go_simp; with_reducible rfl)
 try simp only [clL]
 refine o0q rfl rfl rfl Tryz.underlying39 l0k [.slice a n c, .slice b m d] (fun _ => rfl) (by simp [Value.cells]) rfl [.slice a n c, .slice b m d] rfl ?_
 try simp only [clL]
 refine a0b rfl rfl rfl Tryz.call63 (fun w hS hR => p0e mQ .one 1 (by decide) _) (fun _ => rfl) ?_
 try simp only [clL]
 refine c0c (X := Option Addr × Nat) (fun y => .slice y.1 32 y.2) (fun y w => BPart w (.slice y.1 32 y.2) (a0U (1 % mQ.M))) (fun _ _ _ h k => h.still k) rfl rfl rfl Tryz.call51 (fun w hS hR => o0C 1 _) (fun _ => rfl) fun y7 => ?_
 try simp only [clL]
 refine c0c (X := Option Addr × Nat) (fun y => .slice y.1 32 y.2) (fun y w => BPart w (.slice y.1 32 y.2) (a0U (x % mQ.M))) (fun _ _ _ h k => h.still k) rfl rfl rfl Tryz.call51 (fun w hS hR => o0C x _) (fun _ => rfl) fun y9 => ?_
 try simp only [clL]
 refine o0q rfl rfl rfl Tryz.underlying39 l0k [.slice y7.1 32 y7.2, .slice y9.1 32 y9.2] (fun _ => rfl) (by simp [Value.cells]) rfl [.slice y7.1 32 y7.2, .slice y9.1 32 y9.2] rfl ?_
 try simp only [clL]
 refine b0c (List.mem_cons_of_mem _ List.mem_cons_self) fun g13 => ?_
 simp only [upd, reduceIte]
 try simp only [Nat.reduceEqDiff, reduceIte]
 refine b0c List.mem_cons_self fun g10 => ?_
 simp only [upd, reduceIte]
 try simp only [Nat.reduceEqDiff, reduceIte]
 refine a0t fun xq w1 st1 hR => ?_
 try dsimp only
 have H7 := qH hR.1.2
 have H9 := qH hR.2
 clear hR xq
 refine a0A rfl rfl ?_
 go_simp
 refine (y0c (some ⟨g10, 0, none⟩) 2 [.slice y7.1 32 y7.2, .slice y9.1 32 y9.2] [a0U (1 % mQ.M), a0U (x % mQ.M)] (some ⟨g13, 0, none⟩) 2 [.slice a n c, .slice b m d] [l1, l2] _ (Rd.whole (st1.at 1 rfl)) (BParts.two (H7.out.still (Fr.refl _ _)) (H9.out.still (Fr.refl _ _))) (Rd.whole (st1.at 0 rfl)) (BParts.two (HP1.out.still st1.fr) (HP2.out.still st1.fr))).mono ?_
 rintro e' w2 ⟨v, rfl, ho, hf2⟩
 have st2 := st1.keep hf2
 have HV := qH (Own.mono ho (Nat.zero_le _))
 clear ho
 clear hf2
 clear st1
 refine ⟨by first | exact st2 | exact St.less st2 (by simp), ?_⟩
 try simp only [clL]
 refine a0l (v := ?_) rfl rfl (fun wx => ?_) ?_
 rotate_left 1
 ·(go_simp; with_reducible rfl)
 try simp only [clL]
 refine a0l (v := ?_) rfl rfl (fun wx => ?_) ?_
 rotate_left 1
 ·(go_simp; with_reducible rfl)
 try simp only [clL]
 refine a0l (v := ?_) rfl rfl (fun wx => ?_) ?_
 rotate_left 1
 ·(go_simp; with_reducible rfl)
 try simp only [clL]
 refine a0o rfl rfl ?_
 go_simp
 try simp only [clL]
 refine a0i ?_
 refine NoPanic.normal ?_
 have hfr := st2.fr
 clear st2
 go_wp2_with fail
 go_ret2
 exact ⟨v, rfl, HV.out, hfr⟩
end
section
open Go.RowKit Go.Mv Mvp Mvq
theorem z0H : (Tryz.prog.info? 153).map (·.zero) = some (some (.agg #[.slice none 0 0, .int .i64 0])) := by kernel_rfl
def OwnU (w : World) (v : Value) (l : List UInt8) : Prop := Own w 0 5 1 v l.length (bs l)
theorem OwnU.part {w : World} {v : Value} {l : List UInt8} (h : OwnU w v l) : BPart w v l := Own.part h
theorem OwnU.still {w w' : World} {v : Value} {l : List UInt8} (h : OwnU w v l) (hf : Fr Nob w w') : OwnU w' v l := Own.still h hf
theorem OwnU.nil (w : World) : OwnU w (.slice none 0 0) [] := Own.nil _ _ _ _
attribute [local irreducible] a0G lw mix cw b0q b0y b0p a0K a0r beN b0F a0U b0D a0I a0R elN mdL b0m rtV b0I b0g c0N e0i b0B e0f n0m m0a a0V
theorem s0z (g2 g3 : Nat) (a : Option Addr) (n c : Nat) (w : World) (l : List UInt8) (z : Int) (hop : ∀ wx, Fr Nob w wx → Calls Tryz.prog 165 #[.slice a n c, .pointer (some ⟨g2, 0, none⟩), .pointer (some ⟨g3, 0, none⟩)] wx fun e w' => ∃ v, e = .returned (.tuple #[v, .int .i64 z]) ∧ OwnU w' v l ∧ Fr Nob wx w') :
  Calls Tryz.prog 106 #[chV a n c 0, .func (.func 165) #[] #[.pointer (some ⟨g2, 0, none⟩), .pointer (some ⟨g3, 0, none⟩)]] w fun e w' => ∃ a' c', e = .returned (chV a' l.length c' z) ∧ OwnU w' (.slice a' l.length c') l ∧ Fr Nob w w' := by
 have HOP := qH hop
 clear hop
 have st0 := St.start Nob w
 go_enter Tryz.func106, Tryz.ntmps106
 go_wp2_with (with_reducible refine wSk 2 ?_)
 refine a0m st0 rfl rfl rfl [.slice a n c, .int .i64 0] rfl ?_
 intro g2 w1 st1
 clear st0
 go_wp2_with (with_reducible refine wSk 4 ?_)
 refine a0c st1 rfl rfl z0H [.slice none 0 0, .int .i64 0] rfl ?_
 intro g4 w2 st2
 clear st1
 have hc0 := (st2.at 0 rfl).cell (show [Value.slice a n c, .int .i64 0][0]? = _ from rfl)
 have hc1 := (st2.at 0 rfl).cell (show [Value.slice a n c, .int .i64 0][1]? = _ from rfl)
 go_wp2_with fail
 refine (HOP.out _ st2.fr).mono ?_
 rintro e' w3 ⟨v, rfl, ho, hf⟩
 have st3 := st2.keep hf
 clear hf st2 hc0 hc1
 obtain ⟨a', c', hv, -⟩ := Own.form ho
 subst hv
 have h4 := st3.at 1 rfl
 have HNE := qH (Own.ne ho h4 (by decide))
 have HO := qH ho
 have H4 := qH h4
 have HF := qH st3.fr
 have HGE := qH (st3.own _ (List.mem_cons_of_mem _ List.mem_cons_self))
 clear ho h4 st3
 go_wp2_with (with_reducible refine wSk 20 ?_)
 refine b0z rfl rfl _ (l0N a' l.length c' z) ?_
 go_wp2_with (with_reducible refine wSn ?_)
 refine d0f (cs := [.slice a' l.length c', .int .i64 z]) rfl rfl rfl rfl H4.out (by simp) (by kernel_rfl) (l0O _ _ _ _) ?_
 intro w9 hg9 hf9 hz9
 clear hz9
 have ho9 : OwnU w9 (.slice a' l.length c') l := Own.keep HO.out hf9 (fun k hk e => HNE.out (by have e2 : k = g4 := e; rw [← e2]; exact hk))
 have HO9 := qH ho9
 have HF9 := qH (HF.out.new hf9 (HGE.out.resolve_right (fun h => h.elim)))
 clear hf9 ho9
 go_wp2_with fail
 exact bodyPost_ret (a0x rfl rfl hg9 Tryz.underlying153 rfl (by kernel_rfl)) rfl ⟨a', c', rfl, HO9.out, HF9.out⟩
theorem o0D (a : Option Addr) (n c : Nat) (w : World) :
  Calls Tryz.prog 108 #[chV a n c 0] w fun e w' => e = .returned (.tuple #[.slice a n c, .int .i64 0]) ∧ Fr Nob w w' := by
 have st0 := St.start Nob w
 go_enter Tryz.func108, Tryz.ntmps108
 go_wp2_with (with_reducible refine wSk 1 ?_)
 refine a0m st0 rfl rfl rfl [.slice a n c, .int .i64 0] rfl ?_
 intro g1 w1 st1
 clear st0
 have hc0 := (st1.at 0 rfl).cell (show [Value.slice a n c, .int .i64 0][0]? = _ from rfl)
 have hc1 := (st1.at 0 rfl).cell (show [Value.slice a n c, .int .i64 0][1]? = _ from rfl)
 have hfr := st1.fr
 clear st1
 go_wp2_with fail
 go_ret2
 exact ⟨rfl, hfr⟩
theorem s0A (a : Option Addr) (n c : Nat) (z : Int) (hz : (z != 0) = true) (w : World) :
  Calls Tryz.prog 108 #[chV a n c z] w fun e w' => e = .returned (.tuple #[.slice none 0 0, .int .i64 z]) ∧ Fr Nob w w' := by
 have st0 := St.start Nob w
 go_enter Tryz.func108, Tryz.ntmps108
 go_wp2_with (with_reducible refine wSk 1 ?_)
 refine a0m st0 rfl rfl rfl [.slice a n c, .int .i64 z] rfl ?_
 intro g1 w1 st1
 clear st0
 have hc0 := (st1.at 0 rfl).cell (show [Value.slice a n c, .int .i64 z][0]? = _ from rfl)
 have hc1 := (st1.at 0 rfl).cell (show [Value.slice a n c, .int .i64 z][1]? = _ from rfl)
 have hc1d : ∀ q, (w1.drewN q).cell? ⟨g1, 0 + 1, none⟩ = some (.int .i64 z) := fun q => hc1
 have hfr := st1.fr
 clear st1
 go_wp2_with fail
 go_quiet (fail)
 go_wp2_with fail
 go_ret2
 exact ⟨rfl, hfr.drewN _⟩
end
end Go.Proofs.YtemcankmggmgoaaGreat
namespace Mvq
open Mvp
def frc {α : Type} (n : Nat) (f : Nat → α) : α := Nat.rec (f 0) (fun k _ => f (k + 1)) n
theorem z0I {α : Type} (n : Nat) (f : Nat → α) : frc n f = f n := by cases n <;> rfl
def hX : Nat := 0x79BE667EF9DCBBAC55A06295CE870B07029BFCDB2DCE28D959F2815B16F81798
def hY : Nat := 0x483ADA7726A3C4655DA4FBFC0E1108A8FD17B448A68554199C47D08FFB10D4B8
def hP : Pt := .A (kc hX) (kc hY)
theorem c0M : onC hP := by
 show kc hY * kc hY = kc hX * kc hX * kc hX + 7
 decide
abbrev qN : Nat := 115792089237316195423570985008687907852837564279074904382605163141518161494337
theorem A0L : qN = pQ := by decide
def j0b (e : Nat) : Nat → Nat → Nat → Nat → Bool
 | 0, X, Y, Z => !(Z % fP == 0) && X % fP == hX * Z % fP && (Y + hY * Z) % fP == 0
 | k + 1, X, Y, Z =>
  !(Z % fP == 0) &&
  frc (3 * (X * X) % fP) fun d => frc (2 * Y * Z % fP) fun u => frc (u * u % fP) fun uu => frc (uu * u % fP) fun uuu => frc ((d * d * Z + (fP - 2 * X * uu % fP)) % fP) fun t =>
  frc (u * t % fP) fun X' => frc ((d * (X * uu + (fP - t % fP)) + (fP - Y * uuu % fP)) % fP) fun Y' => frc (uuu * Z % fP) fun Z' =>
  if e / 2 ^ k % 2 = 1 then
   !(Z' % fP == 0) && 
   frc ((hY * Z' + (fP - Y' % fP)) % fP) fun d => frc ((hX * Z' + (fP - X' % fP)) % fP) fun u => !(u % fP == 0) && frc (u * u % fP) fun uu => frc (uu * u % fP) fun uuu => frc ((d * d * Z' + (fP - uuu % fP) + (fP - 2 * X' * uu % fP)) % fP) fun t =>
   frc (u * t % fP) fun X2 => frc ((d * (X' * uu + (fP - t % fP)) + (fP - Y' * uuu % fP)) % fP) fun Y2 => frc (uuu * Z' % fP) fun Z2 => j0b e k X2 Y2 Z2
  else j0b e k X' Y' Z'
theorem y0e : j0b (qN - 1) 255 hX hY 1 = true := by decide +kernel
theorem z0J (a b : Nat) (h : a % fP = b % fP) : kc a = kc b := by rw [← d0I a, h, d0I]
theorem v0d (a : Nat) (h : a % fP ≠ 0) : kc a ≠ 0 := by
 intro e
 have := r0b a
 rw [e, decide_eq_true rfl] at this
 exact h (by simpa using this)
theorem m0b (a : Nat) : kc (a % fP) = kc a := d0I a
theorem k0k (e : Nat) : ∀ (k X Y Z : Nat), j0b e k X Y Z = true → nm (kc X) (kc Y) (kc Z) = a0V (e / 2 ^ k) hP → a0V e hP = g0i hP
 | 0, X, Y, Z, h, hp => by
  simp only [j0b, Bool.and_eq_true, Bool.not_eq_true', beq_iff_eq, beq_eq_false_iff_ne, ne_eq] at h
  obtain ⟨⟨hz, hx⟩, hy⟩ := h
  rw [Nat.pow_zero, Nat.div_one] at hp
  rw [← hp]
  have hx' := z0J _ _ hx
  rw [a0C] at hx'
  have hy' : kc (Y + hY * Z) = 0 := by
   have := r0b (Y + hY * Z)
   rw [hy] at this
   simpa using this
  rw [g0j, a0C] at hy'
  exact p0m (v0d _ hz) hx' (by grind -lia -linarith)
 | k + 1, X, Y, Z, h, hp => by
  have hon : onC (nm (kc X) (kc Y) (kc Z)) := by rw [hp]; exact b0b c0M _
  simp only [j0b, z0I, Bool.and_eq_true, Bool.not_eq_true', beq_eq_false_iff_ne, ne_eq] at h
  obtain ⟨hz, h⟩ := h
  have hd := k0Z hon (v0d _ hz) _ _ _ _ _ _ rfl rfl rfl rfl rfl rfl
  rw [hp] at hd
  have hbit := n0Z c0M e k
  generalize hd0 : 3 * (X * X) % fP = d at h
  generalize hu0 : 2 * Y * Z % fP = u at h
  generalize huu : u * u % fP = uu at h
  generalize huuu : uu * u % fP = uuu at h
  generalize ht : (d * d * Z + (fP - 2 * X * uu % fP)) % fP = t at h
  generalize hX' : u * t % fP = X' at h
  generalize hY' : (d * (X * uu + (fP - t % fP)) + (fP - Y * uuu % fP)) % fP = Y' at h
  generalize hZ' : uuu * Z % fP = Z' at h
  have k2 : kc 2 = 2 := by decide
  have k3' : kc 3 = 3 := by decide
  have d1 : kc d = 3 * (kc X * kc X) := by rw [← hd0, m0b, a0C, a0C, k3']
  have u1 : kc u = 2 * kc Y * kc Z := by rw [← hu0, m0b, a0C, a0C, k2]
  have uu1 : kc uu = kc u * kc u := by rw [← huu, m0b, a0C]
  have uuu1 : kc uuu = kc uu * kc u := by rw [← huuu, m0b, a0C]
  have t1 : kc t = kc d * kc d * kc Z - 2 * kc X * kc uu := by rw [← ht, m0b, c0C, a0C, a0C, a0C, a0C, k2]
  have X1 : kc X' = kc u * kc t := by rw [← hX', m0b, a0C]
  have Y1 : kc Y' = kc d * (kc X * kc uu - kc t) - kc Y * kc uuu := by rw [← hY', m0b, c0C, a0C, c0C, a0C, a0C]
  have Z1 : kc Z' = kc uuu * kc Z := by rw [← hZ', m0b, a0C]
  rw [← d1, ← u1, ← uu1, ← uuu1, ← t1, ← X1, ← Y1, ← Z1] at hd
  rw [← hd] at hbit
  clear d1 u1 uu1 uuu1 t1 X1 Y1 Z1 hd0 hu0 huu huuu ht hX' hY' hZ'
  have hon' : onC (nm (kc X') (kc Y') (kc Z')) := by rw [hd]; exact c0g (b0b c0M _) (b0b c0M _)
  by_cases hb : e / 2 ^ k % 2 = 1
  ·rw [if_pos hb] at h hbit
   simp only [Bool.and_eq_true, Bool.not_eq_true', beq_eq_false_iff_ne, ne_eq] at h
   obtain ⟨hz', hu', h⟩ := h
   have one : kc 1 = 1 := by decide
   have hnP : nm (kc hX) (kc hY) (kc 1) = hP := p0m (by decide) (by rw [one]; grind -lia -linarith) (by rw [one]; grind -lia -linarith)
   have hs := r0c (X2 := kc hX) (Y2 := kc hY) (Z2 := kc 1) hon' (by rw [hnP]; exact c0M) (v0d _ hz') (by decide) (kc (hY * Z')) (kc (hX * Z')) (kc Y') (kc X') (kc (hY * Z') - kc Y') (kc (hX * Z') - kc X') (kc Z') _ _ _ (a0C _ _) (a0C _ _) (by rw [one]; grind -lia -linarith) (by rw [one]; grind -lia -linarith) rfl rfl
    (by rw [← c0C]; exact v0d _ (by rw [Nat.mod_mod] at hu'; exact hu')) (by rw [one]; grind -lia -linarith) rfl rfl rfl
   rw [hnP] at hs
   generalize hd0 : (hY * Z' + (fP - Y' % fP)) % fP = d at h
   generalize hu0 : (hX * Z' + (fP - X' % fP)) % fP = u at h
   generalize huu : u * u % fP = uu at h
   generalize huuu : uu * u % fP = uuu at h
   generalize ht : (d * d * Z' + (fP - uuu % fP) + (fP - 2 * X' * uu % fP)) % fP = t at h
   have d1 : kc d = kc (hY * Z') - kc Y' := by rw [← hd0, m0b, c0C]
   have u1 : kc u = kc (hX * Z') - kc X' := by rw [← hu0, m0b, c0C]
   have uu1 : kc uu = kc u * kc u := by rw [← huu, m0b, a0C]
   have uuu1 : kc uuu = kc uu * kc u := by rw [← huuu, m0b, a0C]
   have t1 : kc t = kc d * kc d * kc Z' - kc uuu - 2 * kc X' * kc uu := by rw [← ht, m0b, c0C, c0C, a0C, a0C, a0C, a0C, k2]
   rw [← d1, ← u1, ← uu1, ← uuu1, ← t1] at hs
   refine k0k e k _ _ _ h ?_
   rw [hbit, ← hs, m0b, m0b, m0b, a0C, c0C, a0C, c0C, a0C, a0C, a0C]
  ·rw [if_neg hb] at h hbit
   rw [b0C] at hbit
   exact k0k e k _ _ _ h hbit.symm
theorem z0K : a0V qN hP = .O := by
 have one : kc 1 = 1 := by decide
 have hnP : nm (kc hX) (kc hY) (kc 1) = hP := p0m (by decide) (by rw [one]; grind -lia -linarith) (by rw [one]; grind -lia -linarith)
 have h := k0k (qN - 1) 255 hX hY 1 y0e (by rw [hnP, show (qN - 1) / 2 ^ 255 = 1 by decide]; rfl)
 have e : qN = (qN - 1) + 1 := by decide
 rw [e]
 show a0L (a0V (qN - 1) hP) hP = .O
 rw [h, c0s]
 exact c0E
theorem e0c {a b c : Pt} (ha : onC a) (hb : onC b) (hc : onC c) (h : a0L a b = a0L a c) : b = c := by
 have h1 : a0L (g0i a) (a0L a b) = a0L (g0i a) (a0L a c) := by rw [h]
 rw [← a0Y (c0h ha) ha hb, ← a0Y (c0h ha) ha hc, c0s (g0i a) a, c0E] at h1
 exact h1
theorem i0i {a b : Pt} (ha : onC a) (hb : onC b) (h : a0L a b = .O) : b = g0i a := e0c ha hb (c0h ha) (by rw [h, c0E])
theorem z0L {p : Pt} (hp : onC p) (h : a0L p p = .O) : p = .O := by
 have e := i0i hp hp h
 cases p with
 | O => rfl
 | A x y =>
  exfalso
  have hy : y = -y := by
   have : Pt.A x y = Pt.A x (-y) := e
   injection this
  have h2 : (2 : K) * y = 0 := by grind -lia -linarith
  exact (a0y h2).elim i0N (t0a hp)
theorem f0W {a b c d : Pt} (ha : onC a) (hb : onC b) (hc : onC c) (hd : onC d) : a0L (a0L a b) (a0L c d) = a0L (a0L a c) (a0L b d) := by
 rw [a0Y ha hb (c0g hc hd), ← a0Y hb hc hd, c0s b c, a0Y hc hb hd, ← a0Y ha hc (c0g hb hd)]
def InH (p : Pt) : Prop := ∃ n, p = a0V n hP
theorem InH.on {p : Pt} (h : InH p) : onC p := by obtain ⟨n, rfl⟩ := h; exact b0b c0M n
theorem InH.add {p q : Pt} (h : InH p) (k : InH q) : InH (a0L p q) := by
 obtain ⟨m, rfl⟩ := h
 obtain ⟨n, rfl⟩ := k
 exact ⟨m + n, (b0P c0M m n).symm⟩
theorem v0e (n : Nat) : a0V (qN * n) hP = .O := by rw [e0G c0M, z0K, k0X]
theorem InH.neg {p : Pt} (h : InH p) : InH (g0i p) := by
 obtain ⟨n, rfl⟩ := h
 refine ⟨(qN - 1) * n, (i0i (b0b c0M n) (b0b c0M _) ?_).symm⟩
 rw [← b0P c0M, show n + (qN - 1) * n = qN * n by have h := Nat.add_mul 1 (qN - 1) n; rw [Nat.one_mul, show 1 + (qN - 1) = qN by decide] at h; exact h.symm, v0e]
theorem InH.half {p : Pt} (hp : onC p) (h : InH (a0L p p)) : InH p := by
 obtain ⟨n, hn⟩ := h
 have hm : onC (a0V (n * ((qN + 1) / 2)) hP) := b0b c0M _
 have e : a0L (a0V (n * ((qN + 1) / 2)) hP) (a0V (n * ((qN + 1) / 2)) hP) = a0V n hP := by
  rw [← b0P c0M, ← Nat.mul_add, show (qN + 1) / 2 + (qN + 1) / 2 = qN + 1 by decide, Nat.mul_add, Nat.mul_one, b0P c0M, Nat.mul_comm n, v0e]
  rfl
 refine ⟨n * ((qN + 1) / 2), ?_⟩
 have h2 : a0L (a0L p (g0i (a0V (n * ((qN + 1) / 2)) hP))) (a0L p (g0i (a0V (n * ((qN + 1) / 2)) hP))) = .O := by
  rw [f0W hp (c0h hm) hp (c0h hm), hn, ← e, f0W hm hm (c0h hm) (c0h hm), c0E]
  rfl
 have h3 := z0L (c0g hp (c0h hm)) h2
 have h4 : a0L (g0i (a0V (n * ((qN + 1) / 2)) hP)) p = a0L (g0i (a0V (n * ((qN + 1) / 2)) hP)) (a0V (n * ((qN + 1) / 2)) hP) := by
  rw [c0s, h3, c0s, c0E]
 exact e0c (c0h hm) hp hm h4
theorem v0f {i j : Nat} (hi : i < qN) (hj : j < qN) (h : a0V i hP = a0V j hP) : i = j := by
 have key : ∀ i j : Nat, j < qN → i < j → a0V i hP = a0V j hP → False := by
  intro i j hj hij h
  have hd : a0V (j - i) hP = .O := by
   refine e0c (b0b c0M i) (b0b c0M _) trivial ?_
   rw [← b0P c0M, show i + (j - i) = j by omega, ← h, b0C]
  have hq := A0L
  have hinv := FP.inv B0h (a := j - i) (by omega) (by omega)
  have e1 : a0V ((j - i) * ((j - i) ^ (pQ - 2) % pQ)) hP = .O := by rw [e0G c0M, hd, k0X]
  generalize (j - i) * ((j - i) ^ (pQ - 2) % pQ) = m at *
  rw [← hq] at hinv
  have hm := Nat.div_add_mod m qN
  rw [hinv] at hm
  rw [← hm, b0P c0M, v0e] at e1
  have e2 : a0L (.O) (a0V 1 hP) = hP := rfl
  rw [e2] at e1
  cases e1
 rcases Nat.lt_trichotomy i j with k | k | k
 ·exact (key i j hj k h).elim
 ·exact k
 ·exact (key j i hi k h.symm).elim
theorem pig (N B : Nat) (g : Nat → Nat) (hb : ∀ a, a < N → g a < B) (hi : ∀ a b, a < N → b < N → g a = g b → a = b) : N ≤ B := by
 have hnd : ((List.range N).map g).Nodup := by
  refine List.pairwise_map.2 ?_
  have h0 : (List.range N).Nodup := List.nodup_range
  refine List.Pairwise.imp_of_mem (fun {a b} ha hb' hne => ?_) h0
  exact fun e => hne (hi a b (List.mem_range.1 ha) (List.mem_range.1 hb') e)
 have hs : (List.range N).map g ⊆ List.range B := by
  intro x hx
  obtain ⟨a, ha, rfl⟩ := List.mem_map.1 hx
  exact List.mem_range.2 (hb a (List.mem_range.1 ha))
 have := List.Nodup.length_le_of_subset hnd hs
 simpa using this
def enc : Pt → Nat
 | .O => 0
 | .A x y => 1 + 2 * x.val + y.val % 2
theorem z0M (p : Pt) : enc p < 2 * fP + 1 := by
 cases p with
 | O => show 0 < 2 * fP + 1; omega
 | A x y => have := x.isLt; show 1 + 2 * x.val + y.val % 2 < 2 * fP + 1; omega
theorem y0f {p q : Pt} (hp : onC p) (hq : onC q) (h : enc p = enc q) : p = q := by
 cases p with
 | O => cases q with
  | O => rfl
  | A x y => have h' : 0 = 1 + 2 * x.val + y.val % 2 := h; omega
 | A x y => cases q with
  | O => have h' : 1 + 2 * x.val + y.val % 2 = 0 := h; omega
  | A x' y' =>
   have h' : 1 + 2 * x.val + y.val % 2 = 1 + 2 * x'.val + y'.val % 2 := h
   have hx : x = x' := Fin.ext (by omega)
   have hy : y.val % 2 = y'.val % 2 := by omega
   subst hx
   have hp' : y * y = x * x * x + 7 := hp
   have hq' : y' * y' = x * x * x + 7 := hq
   rcases r0f (hp'.trans hq'.symm) with e | e
   ·rw [e]
   ·exfalso
    rw [e, h0H y' (t0a hq')] at hy
    omega
theorem y0g : ¬ 3 * qN ≤ 2 * fP + 1 := by decide
theorem A0M {p : Pt} (hp : onC p) : InH p := by
 refine Classical.byContradiction fun hn => ?_
 have hnp := c0h hp
 let c : Nat → Pt := fun k => if k = 0 then .O else if k = 1 then p else g0i p
 have hc : ∀ k, onC (c k) := fun k => by
  show onC (if k = 0 then .O else if k = 1 then p else g0i p)
  split
  ·trivial
  ·split
   ·exact hp
   ·exact hnp
 have hsub : ∀ a b : Pt, onC a → onC b → ∀ i j, a0L a (a0V i hP) = a0L b (a0V j hP) → InH (a0L a (g0i b)) := by
  intro a b ha hb i j h
  have hI := b0b c0M i
  have hJ := b0b c0M j
  obtain ⟨m, hm⟩ := InH.add (p := a0V j hP) (q := g0i (a0V i hP)) ⟨j, rfl⟩ (InH.neg ⟨i, rfl⟩)
  refine ⟨m, ?_⟩
  rw [← hm]
  have e1 : a0L (a0L a (a0V i hP)) (a0L (g0i b) (g0i (a0V i hP))) = a0L (a0L b (a0V j hP)) (a0L (g0i b) (g0i (a0V i hP))) := by rw [h]
  rw [f0W ha hI (c0h hb) (c0h hI), f0W hb hJ (c0h hb) (c0h hI), c0E, c0E, b0C] at e1
  exact e1
 have hdiff : ∀ k l, k < 3 → l < 3 → InH (a0L (c k) (g0i (c l))) → k = l := by
  have h0 : c 0 = .O := rfl
  have h1 : c 1 = p := rfl
  have h2 : c 2 = g0i p := rfl
  have nn : g0i (g0i p) = p := (i0i hnp hp (by rw [c0s, c0E])).symm
  have hneg : InH (g0i p) → InH p := fun h => by have := h.neg; rwa [nn] at this
  intro k l hk hl h
  have hk3 : k = 0 ∨ k = 1 ∨ k = 2 := by omega
  have hl3 : l = 0 ∨ l = 1 ∨ l = 2 := by omega
  rcases hk3 with rfl | rfl | rfl <;> rcases hl3 with rfl | rfl | rfl <;> try rfl
  ·rw [h0, h1] at h; exact (hn (hneg h)).elim
  ·rw [h0, h2, nn] at h; exact (hn h).elim
  ·rw [h0, h1] at h; exact (hn (by have h' : InH (a0L p .O) := h; rwa [b0C] at h')).elim
  ·rw [h1, h2, nn] at h; exact (hn (InH.half hp h)).elim
  ·rw [h0, h2] at h; exact (hn (hneg (by have h' : InH (a0L (g0i p) .O) := h; rwa [b0C] at h'))).elim
  ·rw [h1, h2] at h; exact (hn (hneg (InH.half hnp h))).elim
 have hq : 0 < qN := by decide
 have h3 := y0g
 generalize hqn : qN = q at hq h3
 refine h3 (pig (3 * q) (2 * fP + 1) (fun m => enc (a0L (c (m / q)) (a0V (m % q) hP))) (fun a _ => z0M _) ?_)
 intro a b ha hb h
 have ha3 : a / q < 3 := Nat.div_lt_of_lt_mul (by rw [Nat.mul_comm]; exact ha)
 have hb3 : b / q < 3 := Nat.div_lt_of_lt_mul (by rw [Nat.mul_comm]; exact hb)
 have e := y0f (c0g (hc _) (b0b c0M _)) (c0g (hc _) (b0b c0M _)) h
 have ek := hdiff _ _ ha3 hb3 (hsub _ _ (hc _) (hc _) _ _ e)
 rw [ek] at e
 have e2 := e0c (hc _) (b0b c0M _) (b0b c0M _) e
 have hma := Nat.mod_lt a hq
 have hmb := Nat.mod_lt b hq
 rw [← hqn] at hma hmb e2
 have e3 := v0f hma hmb e2
 rw [hqn] at e3
 rw [← Nat.div_add_mod a q, ← Nat.div_add_mod b q, ek, e3]
theorem z0N {p : Pt} (hp : onC p) : a0V qN p = .O := by
 obtain ⟨n, rfl⟩ := A0M hp
 rw [← e0G c0M, Nat.mul_comm, v0e]
theorem o0E {p : Pt} (hp : onC p) (n : Nat) : a0V (n % qN) p = a0V n p := by
 have h := Nat.div_add_mod n qN
 conv => rhs; rw [← h, b0P hp, e0G hp, z0N hp, k0X]
 rfl
end Mvq
namespace Mvp
end Mvp
namespace Mvq
open Mvp
end Mvq
namespace Go.Proofs.YtemcankmggmgoaaGreat
open Go.RowKit Go.Mv Mvp Mvq
attribute [local irreducible] a0G lw mix cw b0q b0y b0p a0K a0r beN b0F a0U b0D a0I a0R elN mdL b0m rtV b0I kN kc c0d b0g f0Y noR c0x f0h RT.L
theorem v0g (n : Nat) (w : World) : Calls Tryz.prog 55 #[i4 n] w fun e w' => e = .returned (.agg (c0x n j0Y).L.toArray) ∧ Fr Nob w w' := by
 have st0 := St.start Nob w
 go_enter Tryz.func55, Tryz.ntmps55
 go_wp2_with (with_reducible refine wSk 1 ?_)
 refine a0m st0 rfl rfl rfl (cw 4 n) rfl ?_
 intro g1 w1 st1
 clear st0
 go_wp2_with (with_reducible refine wSk 2 ?_)
 refine a0c st1 rfl rfl (z := zAc) (by kernel_rfl) (cw 12 0) (by rw [a0g]; rfl) ?_
 intro g2 w2 st2
 clear st1
 go_wp2_with fail
 refine wp_region_noPanic ?_
 refine a0f st2 3 [.t 0, .c 1, .c 2] (.m 3 .nil) (by kernel_rfl) (by kernel_rfl) (fun _ _ _ _ _ h => h) ?_
 clear st2
 refine a0e rfl rfl rfl (fun _ => rfl) (cw 4 n) (fun wx hS => St.rangeL hS 0 rfl 0 _ dZl) Tryz.underlying60 rfl (by first | (rw [a0a]; kernel_rfl) | (rw [RT.len]; kernel_rfl) | (rw [a0W]; kernel_rfl) | (simp only [List.length_append, a0a]; kernel_rfl) | (simp only [List.length_append, a0a, RT.len, a0W]; kernel_rfl)) ?_
 try simp only [clL]
 refine a0b rfl rfl rfl Tryz.call127 (fun w hS hR => A0X _) (fun _ => rfl) ?_
 try simp only [clL]
 refine a0b rfl rfl rfl Tryz.call69 (fun w hS hR => u0B n j0Y _) (fun _ => rfl) ?_
 try simp only [clL]
 refine a0t fun xq w3 st3 hR => ?_
 try dsimp only
 clear hR xq
 refine a0o rfl rfl ?_
 refine a0h st3 1 rfl rfl rfl rfl (by first | (simp only [a0a]; done) | (simp only [a0a, RT.len]; done)) (by first | (rw [a0a]; kernel_rfl) | (simp only [RT.len]; kernel_rfl)) (RT.one _) ?_
 intro w4 st4
 repeat (first | simp only [List.cons_append] at st4 | simp only [List.nil_append] at st4 | simp only [List.set_cons_succ] at st4 | simp only [List.set_cons_zero] at st4)
 clear st3
 try simp only [Act.put]
 refine a0i ?_
 refine NoPanic.normal ?_
 have hr := st4.at 1 rfl
 have hfr := st4.fr
 clear st4
 go_wp2_with fail
 exact bodyPost_ret (a0x rfl rfl hr Tryz.underlying62 rfl (by first | (rw [a0a]; kernel_rfl) | (simp only [RT.len]; kernel_rfl))) rfl ⟨rfl, hfr⟩
end Go.Proofs.YtemcankmggmgoaaGreat
namespace Mvp
end Mvp
namespace Go.Proofs.YtemcankmggmgoaaGreat
open Go.RowKit Go.Mv Mvp
theorem BPart.ofOwn {w : World} {base : Nat} {v : Value} {n : Nat} {l : List UInt8} (h : Own w base 5 1 v n (bs l)) : BPart w v l := by
 obtain ⟨a, c, rfl, hc, hr, -⟩ := h.form
 exact ⟨a, n, c, rfl, hc, by rw [Nat.mul_one] at hr; exact hr⟩
attribute [local irreducible] a0G lw mix cw b0q b0y b0p a0K a0r beN b0F a0U b0D a0I a0R elN mdL b0B b0m
end Go.Proofs.YtemcankmggmgoaaGreat
namespace Mvp
end Mvp
namespace Go.Proofs.YtemcankmggmgoaaGreat
section
open Go.RowKit Go.Mv Mvp Mvq
def PtB (w : World) (a : Option Addr) (c : Nat) (p : Pt) : Prop := BPart w (.slice a 33 c) (b0g p)
theorem PtB.still {w w' : World} {a : Option Addr} {c : Nat} {p : Pt} (h : PtB w a c p) (hf : Fr Nob w w') : PtB w' a c p := BPart.still h hf
theorem PtB.of {w w' : World} {v : Value} {p : Pt} (h : OwnB1 w w' v (b0g p)) : ∃ a c, v = .slice a 33 c ∧ PtB w' a c p := by
 obtain ⟨a, n, c, rfl, hc, hr⟩ := h.part
 have : n = 33 := by have := hr.len; rw [f0K] at this; exact this.symm
 subst this
 exact ⟨a, c, rfl, a, 33, c, rfl, hc, hr⟩
theorem z0O : onC gP := by unfold gP; exact j0K
end
section
open Go.RowKit Go.Mv Mvp Mvq
theorem A0N : mQ.M = qN := by decide
theorem l0P (s : ByteArray) (w : World) : Calls Tryz.prog 72 #[.string s] w fun e w' => ∃ N : Nat, e = .returned (.tuple #[i4 N, .bool (b0m mQ s.data.toList)]) ∧ (b0m mQ s.data.toList = true → N = beN s.data.toList) ∧ Fr Nob w w' := by
 cases h : b0m mQ s.data.toList
 ·exact (u0y mQ .one s w h).mono fun e w' ⟨N, k1, k2⟩ => ⟨N, k1, fun h => (by cases h), k2⟩
 ·exact (u0x mQ .one s w h).mono fun e w' k => ⟨_, k.1, fun _ => rfl, k.2⟩
attribute [local irreducible] a0G lw mix cw b0q b0y b0p a0K a0r beN b0F a0U b0D a0I a0R elN mdL b0m rtV b0I kN kc c0d b0g f0Y noR c0x f0h RT.L gXn gYn rpL c0N e0i
end
section
open Go.RowKit Go.Mv Mvp Mvq
theorem s0B (x : Nat) : beN (a0U (x % mQ.M)) = x % mQ.M := n0D _ (Nat.lt_trans (Nat.mod_lt x (by decide)) (by decide))
theorem o0F (x : Nat) : b0m mQ (a0U (x % mQ.M)) = true := by
 unfold b0m
 rw [b0f, s0B, decide_eq_true rfl, decide_eq_true (Nat.mod_lt x (by decide))]
 rfl
theorem z0P (x y : Nat) (l1 l2 : List UInt8) : n0m [a0U (x % mQ.M), a0U (y % mQ.M)] [l1, l2] = if (c0N l1 && c0N l2) = true then 0 else 4 := by
 have hn : b0B mQ [a0U (x % mQ.M), a0U (y % mQ.M)] = true := by unfold b0B; simp only [List.all_cons, List.all_nil, o0F, Bool.and_self]
 have hr : e0f [l1, l2] = (c0N l1 && c0N l2) := by unfold e0f; simp only [List.all_cons, List.all_nil, Bool.and_true]
 have e1 : [a0U (x % mQ.M), a0U (y % mQ.M)].length = [l1, l2].length := rfl
 have e2 : [a0U (x % mQ.M), a0U (y % mQ.M)].length ≤ 512 := by simp
 unfold n0m
 rw [if_pos e1, if_pos e2, hn, hr]
 rfl
theorem z0Q (x y : Nat) (l1 l2 : List UInt8) : m0a [a0U (x % mQ.M), a0U (y % mQ.M)] [l1, l2] = if (c0N l1 && c0N l2) = true then b0g (a0L (a0V x (e0i l1)) (a0V y (e0i l2))) else [] := by
 have hn : b0B mQ [a0U (x % mQ.M), a0U (y % mQ.M)] = true := by unfold b0B; simp only [List.all_cons, List.all_nil, o0F, Bool.and_self]
 have hr : e0f [l1, l2] = (c0N l1 && c0N l2) := by unfold e0f; simp only [List.all_cons, List.all_nil, Bool.and_true]
 have e1 : [a0U (x % mQ.M), a0U (y % mQ.M)].length = [l1, l2].length := rfl
 have e2 : [a0U (x % mQ.M), a0U (y % mQ.M)].length ≤ 512 := by simp
 unfold m0a
 rw [if_pos e1, if_pos e2, hn, hr]
 show (if (c0N l1 && c0N l2) = true then _ else _) = _
 by_cases h : (c0N l1 && c0N l2) = true
 ·rw [if_pos h, if_pos h]
  simp only [Bool.and_eq_true] at h
  have e : smL [a0U (x % mQ.M), a0U (y % mQ.M)] [l1, l2] 2 = [(x % mQ.M, e0i l1), (y % mQ.M, e0i l2)] := by
   show [(beN (a0U (x % mQ.M)), e0i l1), (beN (a0U (y % mQ.M)), e0i l2)] = _
   rw [s0B, s0B]
  show b0g (g0w (smL [a0U (x % mQ.M), a0U (y % mQ.M)] [l1, l2] 2)) = _
  rw [e]
  show b0g (a0L (a0V (x % mQ.M) (e0i l1)) (a0L (a0V (y % mQ.M) (e0i l2)) .O)) = _
  rw [b0C, A0N, o0E (x0j h.1), o0E (x0j h.2)]
 ·rw [if_neg h, if_neg h]
theorem z0R (p : Pt) : a0V 1 p = p := rfl
attribute [local irreducible] a0G lw mix cw b0q b0y b0p a0K a0r beN b0F a0U b0D a0I a0R elN mdL b0m rtV b0I kN kc c0d b0g f0Y noR c0x f0h RT.L gXn gYn rpL c0N e0i a0V n0m m0a
end
section
open Go.RowKit Go.Mv Mvp Mvq
def d0x : List UInt8 := [112, 111, 105, 110, 116, 32]
def hB (label b : List UInt8) (i : Nat) : List UInt8 := g0n (d0x ++ label) [b, [UInt8.ofNat i]]
def hN (label b : List UInt8) (i : Nat) : Nat := beN (hB label b i)
theorem A0O {n : Nat} (h : b0I mP.M (d0b n) = true) : onC (.A (kc n) (kc (atY mP.M n))) := by
 rw [A0B n h]
 rw [c0w] at h
 exact z0k h
open Classical in
noncomputable def d0t (label b : List UInt8) (i : Nat) : Option PT := if h : hN label b i < mP.M ∧ b0I mP.M (d0b (hN label b i)) = true then some (m0D (hN label b i) (atY mP.M (hN label b i)) (A0O h.2)) else none
theorem h0e {label b : List UInt8} {i n : Nat} (hn : hN label b i = n) (h : ¬ (n < mP.M ∧ b0I mP.M (d0b n) = true)) : d0t label b i = none := by
 subst hn; unfold d0t; rw [dif_neg h]
theorem l0Q {label b : List UInt8} {i n : Nat} (hn : hN label b i = n) (h1 : n < mP.M) (h2 : b0I mP.M (d0b n) = true) : d0t label b i = some (m0D n (atY mP.M n) (A0O h2)) := by
 subst hn; unfold d0t; rw [dif_pos ⟨h1, h2⟩]
noncomputable def c0f (label b : List UInt8) (k : Nat) : List PT := (List.range k).filterMap (d0t label b)
theorem j0c (label b : List UInt8) : c0f label b 0 = [] := rfl
theorem f0X {label b : List UInt8} {k : Nat} (h : d0t label b k = none) : c0f label b (k + 1) = c0f label b k := by
 unfold c0f; rw [List.range_succ, List.filterMap_append]; simp [h]
theorem i0j {label b : List UInt8} {k : Nat} {x : PT} (h : d0t label b k = some x) : c0f label b (k + 1) = c0f label b k ++ [x] := by
 unfold c0f; rw [List.range_succ, List.filterMap_append]; simp [h]
theorem s0C (label b : List UInt8) (k : Nat) : (c0f label b k).length ≤ k := by
 unfold c0f
 exact Nat.le_trans (List.length_filterMap_le _ _) (by simp)
theorem p0U (label b : List UInt8) (k j : Nat) : ∃ l, c0f label b (k + j) = c0f label b k ++ l := by
 induction j with
 | zero => exact ⟨[], by simp⟩
 | succ j ih =>
  obtain ⟨l, hl⟩ := ih
  cases h : d0t label b (k + j) with
  | none => exact ⟨l, by rw [← Nat.add_assoc, f0X h, hl]⟩
  | some x => exact ⟨l ++ [x], by rw [← Nat.add_assoc, i0j h, hl, List.append_assoc]⟩
noncomputable def e0P (label b : List UInt8) : PT := ((c0f label b 256).head?).getD i0w
theorem j0d {label b : List UInt8} (h : c0f label b 256 = []) : e0P label b = i0w := by unfold e0P; rw [h]; rfl
theorem j0e {label b : List UInt8} {k : Nat} {x : PT} (hk : k < 256) (h : d0t label b k = some x) (h0 : c0f label b k = []) : e0P label b = x := by
 obtain ⟨l, hl⟩ := p0U label b (k + 1) (256 - (k + 1))
 rw [show k + 1 + (256 - (k + 1)) = 256 by omega, i0j h, h0] at hl
 unfold e0P
 rw [hl]
 rfl
theorem i0k (w : World) : Calls Tryz.prog 86 #[] w fun e w' => ∃ y : Nat × Nat, e = .returned (.pointer (some ⟨y.1, 0, none⟩)) ∧ (Has w' y.1 (d0A mP y.2 gXn gYn) 125 ∧ Has w' y.2 (mdL mP) 187) ∧ Fr Nob w w' := by
 refine (f0M w).mono ?_
 rintro e w' ⟨gc, k1, _, ⟨gp, h1, h2⟩, k3⟩
 exact ⟨(gc, gp), k1, ⟨h1, h2⟩, k3⟩
theorem e0L {w : World} {g : Nat} {L : List Value} {T : TypeId} (hg : Has w g L T) {o : Oper} {a : Act} {ty : TypeId} {x : Operand} (ho : o.op = .load ty x) {p : Nat} (hx : a.eval x = .pointer (some ⟨g, p, none⟩)) (cs : List Value) (hc : (L.drop p).take cs.length = cs)
  {d : TypeDesc} (hu : Tryz.prog.underlying ty = some d) (hd : d.isRow = true) (hi : (Tryz.prog.info? ty).map (·.size) = some cs.length) : (execOp a.eval o).run Tryz.prog w = .ok (.value (.agg cs.toArray)) w := by
 unfold execOp
 simp only [ho, hx, Instr.loadAt, Instr.sureAddr, Sem.run_bind, Sem.run_pure, Result.andThen_ok, run_loadVar_mid w g p ty cs d (hg.range p cs hc) hu hd hi]
theorem s0D (label : ByteArray) : (⟨#[112, 111, 105, 110, 116, 32]⟩ : ByteArray) ++ label = mkS (d0x ++ label.data.toList) := by
 have : (⟨#[112, 111, 105, 110, 116, 32]⟩ : ByteArray) = mkS d0x := rfl
 rw [this]
 conv => lhs; rw [← g0K label]
 exact e0K _ _
end
end Go.Proofs.YtemcankmggmgoaaGreat
namespace Go.Mv
open Go.RowKit
section
variable {P : Program} {ops : Array Oper} {md : Region.Mode} {Q : Exit → Act → World → Prop} {m : Nat} {S : Nat → Prop} {w0 : World} {tl : Pl}
def c0S (l : List Nat) (x : Nat → Value) : Nat → Value := fun k => if l.contains k then x k else undef
theorem s0E {l : List Nat} {x : Nat → Value} {k : Nat} {v : Value} (h : l.contains k = false) : c0S l (upd x k v) = c0S l x := by
 funext j
 unfold c0S
 by_cases e : l.contains j = true
 ·rw [if_pos e, if_pos e, d0l]
  cases h2 : (j == k) with
  | false => rfl
  | true => rw [eq_of_beq h2, h] at e; cases e
 ·rw [if_neg e, if_neg e]
def y0h (ops : Array Oper) (i : Nat) (a : Act) (v : Value) : Act := match ops[i]? with | some o => a.put o.dst v | none => a
theorem e0B {i : Nat} {o : Oper} (ho : ops[i]? = some o) (a : Act) (v : Value) : y0h ops i a v = a.put o.dst v := by unfold y0h; rw [ho]
def g0E (ops : Array Oper) : List Nat → Act → (Nat → Value) → Act
 | [], a, _ => a
 | i :: s, a, x => g0E ops s (y0h ops i a (x i)) x
theorem l0R {d : Option Tmp} {v : Value} (x : Nat → Value) : ∀ (s : List Nat) (a : Act), (∀ k ∈ s, ∀ ok, ops[k]? = some ok → ok.dst ≠ d ∨ ok.dst = none) → (g0E ops s a x).put d v = g0E ops s (a.put d v) x
 | [], _, _ => rfl
 | i :: s, a, h => by
  unfold g0E
  rw [l0R x s _ fun k hk => h k (List.mem_cons_of_mem _ hk)]
  congr 1
  cases ho : ops[i]? with
  | none => unfold y0h; simp only [ho]
  | some o => rw [e0B ho, e0B ho, j0D _ _ _ _ _ (h i List.mem_cons_self o ho)]
theorem k0l {i : Nat} {v : Value} (x : Nat → Value) : ∀ (s : List Nat) (a : Act), i ∉ s → g0E ops s a (upd x i v) = g0E ops s a x
 | [], _, _ => rfl
 | j :: s, a, h => by
  simp only [List.mem_cons, not_or] at h
  unfold g0E
  rw [k0l x s _ h.2, d0l _ _ _ _ (by simpa using fun e => h.1 e.symm)]
def Apd (ops : Array Oper) (s : List Nat) : Prop := ∀ j ∈ s, ∀ k ∈ s, j ≠ k → ∀ oj ok, ops[j]? = some oj → ops[k]? = some ok → ok.dst ≠ oj.dst ∨ ok.dst = none
theorem Apd.tail {i : Nat} {s : List Nat} (h : Apd ops (i :: s)) : Apd ops s := fun j hj k hk => h j (List.mem_cons_of_mem _ hj) k (List.mem_cons_of_mem _ hk)
theorem o0G {i : Nat} {v : Value} {o : Oper} (ho : ops[i]? = some o) (x : Nat → Value) : ∀ (s : List Nat) (a : Act), i ∈ s → s.Nodup → Apd ops s → (g0E ops s a x).put o.dst v = g0E ops s a (upd x i v)
 | [], _, h, _, _ => by cases h
 | j :: s, a, h, hn, hd => by
  rw [List.nodup_cons] at hn
  by_cases e : i = j
  ·subst e
   unfold g0E
   rw [l0R x s _ fun k hk ok hok => hd i List.mem_cons_self k (List.mem_cons_of_mem _ hk) (fun e => hn.1 (e ▸ hk)) o ok ho hok]
   rw [e0B ho, e0B ho, k0O, k0l x s _ hn.1, f0D]
  ·have hi : i ∈ s := by
    rcases List.mem_cons.1 h with h | h
    ·exact absurd h e
    ·exact h
   unfold g0E
   rw [o0G ho x s _ hi hn.2 hd.tail, d0l _ _ _ _ (by simpa using fun h => e h.symm)]
theorem l0S : ∀ (s : List Nat) (a : Act), s.Nodup → ∃ x, g0E ops s a x = a
 | [], _, _ => ⟨fun _ => undef, rfl⟩
 | i :: s, a, hn => by
  rw [List.nodup_cons] at hn
  obtain ⟨x, hx⟩ := l0S s a hn.2
  cases ho : ops[i]? with
  | none => exact ⟨x, by unfold g0E y0h; simp only [ho]; exact hx⟩
  | some o =>
   obtain ⟨u, hu⟩ := n0T a o.dst
   refine ⟨upd x i u, ?_⟩
   unfold g0E
   rw [e0B ho, f0D, hu, k0l x s _ hn.1, hx]
def A0Z (ops : Array Oper) (s : List Nat) : Bool := s.all fun j => s.all fun k => j == k || match ops[j]?, ops[k]? with | some a, some b => decide (b.dst ≠ a.dst) || decide (b.dst = none) | _, _ => false
theorem s0F {s : List Nat} (h : A0Z ops s = true) : Apd ops s := by
 intro j hj k hk hne oj ok hoj hok
 have := List.all_eq_true.1 (List.all_eq_true.1 h j hj) k hk
 simp only [hoj, hok, Bool.or_eq_true, beq_iff_eq, decide_eq_true_eq] at this
 rcases this with h | h
 ·exact absurd h hne
 ·exact h
def o0H : List Nat → Bool
 | [] => true
 | i :: s => !s.contains i && o0H s
theorem f0g : ∀ {s : List Nat}, o0H s = true → s.Nodup
 | [], _ => List.nodup_nil
 | i :: s, h => by
  simp only [o0H, Bool.and_eq_true, Bool.not_eq_true'] at h
  exact List.nodup_cons.2 ⟨by simpa using h.1, f0g h.2⟩
def s0G (md : Region.Mode) (ops : Array Oper) (m : Nat) (F Lz : List Nat) (pre : Nat → List Nat) (tl : Pl) : Bool :=
 (Lz.all fun i => match ops[i]? with | some o => decide (i ≠ m) && (List.range ops.size).all fun j => j == i || t0y md ops i ops.size j || (match ops[j]? with | some oj => (oj.after.any fun e => Region.binds md e && e.on == i) || o.apart ops oj | none => true) | none => false) && o0H F && A0Z ops F &&
 (F.all fun i => match ops[i]? with | some o => o.after.all fun e => !Region.binds md e || (F.contains e.on && decide (e.on < i)) | none => false) &&
 (F.all fun i => (pre i).all fun j => F.contains j && t0y md ops i ops.size j) &&
 ((List.range ops.size).all fun t => F.contains t || F.all fun i => Lz.contains i || t0y md ops t ops.size i) &&
 b0M md ops m tl (e0e (Array.replicate ops.size false) F)
def Obl (P : Program) (ops : Array Oper) (Q : Exit → Act → World → Prop) (G : World → Prop) (A : (Nat → Value) → Act) (pre : Nat → List Nat) (Φ : Nat → (Nat → Value) → World → Prop) (i : Nat) (o : Oper) : Bool → Prop
 | false => ∀ x w, G w → (∀ j ∈ pre i, Φ j (c0S (j :: pre j) x) w) → (Region.wanted o (yielded ops (A x).tmps) = true ∧ o.wp P (A x) w (fun a' w' => ∃ v, a' = (A x).put o.dst v ∧ Fr Nob w w' ∧ Φ i (c0S (i :: pre i) (upd x i v)) w') Q) ∨ (Region.wanted o (yielded ops (A x).tmps) = false ∧ Φ i (c0S (i :: pre i) (upd x i undef)) w)
 | true => ∀ x w, G w → (∀ j ∈ pre i, Φ j (c0S (j :: pre j) x) w) → Region.wanted o (yielded ops (A x).tmps) = true ∧ ∃ v, (∀ wx, (execOp (A x).eval o).run P wx = .ok (.value v) wx) ∧ Φ i (c0S (i :: pre i) (upd x i v)) w
def Obls (P : Program) (ops : Array Oper) (Q : Exit → Act → World → Prop) (G : World → Prop) (A : (Nat → Value) → Act) (pre : Nat → List Nat) (Φ : Nat → (Nat → Value) → World → Prop) (Lz : List Nat) : List Nat → Prop
 | [] => True
 | i :: s => ((∀ o, ops[i]? = some o → Obl P ops Q G A pre Φ i o (Lz.contains i)) ∧
   ∀ y w w', Φ i (c0S (i :: pre i) y) w → Fr Nob w w' → Φ i (c0S (i :: pre i) y) w') ∧ Obls P ops Q G A pre Φ Lz s
theorem Obls.at {G : World → Prop} {A : (Nat → Value) → Act} {pre : Nat → List Nat} {Φ : Nat → (Nat → Value) → World → Prop} {Lz : List Nat} : ∀ {s : List Nat}, Obls P ops Q G A pre Φ Lz s → ∀ i ∈ s, (∀ o, ops[i]? = some o → Obl P ops Q G A pre Φ i o (Lz.contains i)) ∧
      ∀ y w w', Φ i (c0S (i :: pre i) y) w → Fr Nob w w' → Φ i (c0S (i :: pre i) y) w'
  | [], _, _, h => by cases h
  | _ :: _, h, i, hi => by
    rcases List.mem_cons.1 hi with rfl | hi
    · exact h.1
    · exact Obls.at h.2 i hi
theorem j0f {listed : Array Bool} (inv : Cl md ops listed) {k : Nat} : ∀ (f i : Nat), t0y md ops k f i = true → listed.getD k false = true → listed.getD i true = false → False
 | 0, i, h, _, _ => by cases h
 | f + 1, i, h, hk, hun => by
  obtain ⟨j, hj, hj2⟩ := List.any_eq_true.1 h
  simp only [Bool.and_eq_true, Bool.or_eq_true, decide_eq_true_eq] at hj2
  obtain ⟨oj, hoj, e, he, hb, hon⟩ := Region.waitsFor_spec hj2.1
  have hjl : listed.getD j false = true := by
   rcases hj2.2 with rfl | hja
   ·exact hk
   ·cases hl : listed.getD j false with
    | true => rfl
    | false =>
     have hjs : j < listed.size := by rw [inv.size]; exact (Array.getElem?_eq_some_iff.1 hoj).1
     exact (j0f inv f j hja hk (getD_in hjs hl)).elim
  have h2 := inv.closed j oj hoj hjl e he hb
  rw [hon, getD_both hun] at h2
  cases h2
def unl (F : List Nat) (listed : Array Bool) : List Nat := F.filter fun k => !listed.getD k false
theorem y0i {F : List Nat} {listed : Array Bool} {i : Nat} (hi : i < listed.size) : unl F (listed.setIfInBounds i true) = (unl F listed).filter (· != i) := by
 unfold unl
 rw [List.filter_filter]
 refine List.filter_congr fun k _ => ?_
 by_cases e : i = k
 ·subst e; simp [hi]
 ·rw [getD_set_ne false e]
  have h2 : (k != i) = true := by simpa using fun h => e h.symm
  rw [h2, Bool.true_and]
theorem s0H {i : Nat} {o : Oper} {a : Act} {w : World} {K : Act → World → Prop} (ho : ops[i]? = some o) (hg : Region.wanted o (yielded ops a.tmps) = true) (h : o.wp P a w K Q) : wpOp P ops Q i K a w := by
 unfold wpOp
 simp only [ho]
 rw [if_pos hg]
 exact .inl h
theorem p0V {G : World → Prop} {F Lz : List Nat} {a : Act} {pre : Nat → List Nat} {Φ : Nat → (Nat → Value) → World → Prop} (hsel : Region.noSelect ops = true) (hm : m < ops.size) (hQ : ∀ c (d : Option Tmp) v a w, Q (.panic c) (Act.put a d v) w → Q (.panic c) a w)
  (hok : s0G md ops m F Lz pre tl = true) (hG : ∀ w w', G w → Fr Nob w w' → G w') (hob : Obls P ops Q G (g0E ops F a) pre Φ Lz F)
  (hend : ∀ x w, G w → (∀ i ∈ F, Φ i (c0S (i :: pre i) x) w) → b0o P ops Q (fun _ => True) tl (g0E ops F a x) w) :
  ∀ (N : Nat) (listed : Array Bool) (x : Nat → Value) (w : World), (unl F listed).length = N → listed.size = ops.size → Cl md ops listed → (∀ k, listed.getD k false = true → k ∈ F) → G w → (∀ i ∈ F, listed.getD i false = true → Φ i (c0S (i :: pre i) x) w) →
   wpP P md ops Q (fun _ => True) m (N + tl.len) listed (g0E ops F a x) w := by
 simp only [s0G, Bool.and_eq_true] at hok
 obtain ⟨⟨⟨⟨⟨⟨hlz, hnd⟩, hap⟩, haf⟩, hpre⟩, htl⟩, hpl⟩ := hok
 have hnd := f0g hnd
 have hap := s0F hap
 have hF : ∀ i ∈ F, ∃ o, ops[i]? = some o ∧ True ∧ ∀ e ∈ o.after, Region.binds md e = true → e.on ∈ F ∧ e.on < i := by
  intro i hi
  have := List.all_eq_true.1 haf i hi
  cases ho : ops[i]? with
  | none => simp only [ho] at this; cases this
  | some o =>
   simp only [ho] at this
   refine ⟨o, rfl, trivial, fun e he hb => ?_⟩
   have h2 := Array.all_eq_true'.1 this e he
   simpa [hb] using h2
 have hlt : ∀ i ∈ F, i < ops.size := fun i hi => by obtain ⟨o, ho, _⟩ := hF i hi; exact (Array.getElem?_eq_some_iff.1 ho).1
 intro N
 induction N with
 | zero =>
  intro listed x w hu hsz inv hLF hGw hfacts
  have hall : ∀ i ∈ F, listed.getD i false = true := by
   intro i hi
   cases h : listed.getD i false with
   | true => rfl
   | false =>
    have : i ∈ unl F listed := List.mem_filter.2 ⟨hi, by simp [h]⟩
    rw [List.eq_nil_of_length_eq_zero hu] at this
    cases this
  have he : listed = e0e (Array.replicate ops.size false) F := by
   refine f0a (by simp [b0s, hsz]) fun k hk => ?_
   rw [c0r _ _ _ (by simpa [hsz] using hk)]
   have hk' : k < listed.size := hk
   by_cases hkF : k ∈ F
   ·have h3 : listed.getD k true = true := by
     cases h : listed.getD k true with
     | true => rfl
     | false => have := hall k hkF; rw [getD_both h] at this; cases this
    rw [h3]; simp [hkF]
   ·cases h : listed.getD k true with
    | true =>
     have h2 : listed.getD k false = true := by simpa [hk'] using h
     exact absurd (hLF k h2) hkF
    | false => simp [hkF, hsz ▸ hk']
  have := b0i (md := md) (S := fun _ => True) hsel hm hQ tl listed (g0E ops F a x) w inv (by rw [he]; exact hpl) (fun _ => trivial) (hend x w hGw fun i hi => hfacts i hi (hall i hi))
  simpa using this
 | succ N ih =>
  intro listed x w hu hsz inv hLF hGw hfacts
  have hsome : ∀ (b i : Nat), i < b → i ∈ F → listed.getD i false = false → ∃ k ∈ F, listed.getD k false = false ∧ k ∈ Region.ready md ops listed := by
   intro b
   induction b with
   | zero => intro i h; omega
   | succ b ihb =>
    intro i hib hi hun
    obtain ⟨o, ho, hg, hafter⟩ := hF i hi
    by_cases hall : ∀ e ∈ o.after, Region.binds md e = true → listed.getD e.on false = true
    ·exact ⟨i, hi, hun, mem_ready.2 ⟨getD_in (by rw [hsz]; exact hlt i hi) hun, o, ho, hall⟩⟩
    ·simp only [Classical.not_forall] at hall
     obtain ⟨e, he, hb, hl⟩ := hall
     obtain ⟨h1, h2⟩ := hafter e he hb
     exact ihb e.on (by omega) h1 (by simpa using hl)
  have hex : ∃ i, i ∈ F ∧ listed.getD i false = false := by
   cases h : unl F listed with
   | nil => rw [h] at hu; cases hu
   | cons i s =>
    have : i ∈ unl F listed := by rw [h]; exact List.mem_cons_self
    obtain ⟨h1, h2⟩ := List.mem_filter.1 this
    exact ⟨i, h1, by simpa using h2⟩
  obtain ⟨i00, hi00, hun00⟩ := hex
  obtain ⟨i0, hi0, hun0, hr0⟩ := hsome (i00 + 1) i00 (Nat.lt_succ_self _) hi00 hun00
  have e1 : N + 1 + tl.len = (N + tl.len) + 1 := by omega
  rw [e1]
  have hprel : ∀ i ∈ F, i ∈ Region.ready md ops listed → ∀ j ∈ pre i, j ∈ F ∧ listed.getD j false = true := by
   intro i hiF hi j hj
   have h := List.all_eq_true.1 (List.all_eq_true.1 hpre i hiF) j hj
   simp only [Bool.and_eq_true] at h
   have hjF : j ∈ F := by simpa using h.1
   refine ⟨hjF, ?_⟩
   cases hl : listed.getD j false with
   | true => rfl
   | false => exact absurd hi (e0s inv _ _ h.2 (getD_in (by rw [hsz]; exact hlt j hjF) hl))
  have next : ∀ i ∈ F, i ∈ Region.ready md ops listed → ∀ o, ops[i]? = some o → ∀ v w', Fr Nob w w' → Φ i (c0S (i :: pre i) (upd x i v)) w' →
    wpP P md ops Q (fun _ => True) m (N + tl.len) (listed.setIfInBounds i true) ((g0E ops F a x).put o.dst v) w' := by
   intro i hiF hi o ho v w' hfr hΦ
   obtain ⟨hiun, _⟩ := mem_ready.1 hi
   rw [o0G ho x F a hiF hnd hap]
   have hil : i < listed.size := by rw [hsz]; exact hlt i hiF
   refine ih (listed.setIfInBounds i true) (upd x i v) w' ?_ (by simpa using hsz) (inv.set hi) ?_ (hG w w' hGw hfr) ?_
   ·rw [y0i hil]
    have hmem : i ∈ unl F listed := List.mem_filter.2 ⟨hiF, by
     cases h : listed.getD i false with
     | false => rfl
     | true => rw [getD_both hiun] at h; cases h⟩
    have := g0g (l := unl F listed) (k0P hnd _) hmem
    omega
   ·intro k hk
    by_cases e : i = k
    ·subst e; exact hiF
    ·rw [getD_set_ne false e] at hk; exact hLF k hk
   ·intro k hkF hk
    by_cases e : i = k
    ·subst e; exact hΦ
    ·rw [getD_set_ne false e] at hk
     have h1 := (hob.at k hkF).2 _ _ _ (hfacts k hkF hk) hfr
     rwa [s0E]
     cases h : (k :: pre k).contains i with
     | false => rfl
     | true =>
      exfalso
      have hm : i ∈ k :: pre k := by simpa using h
      rcases List.mem_cons.1 hm with h2 | h2
      ·exact e h2
      ·have h3 := List.all_eq_true.1 (List.all_eq_true.1 hpre k hkF) i h2
       simp only [Bool.and_eq_true] at h3
       exact j0f inv _ _ h3.2 hk hiun
  by_cases hlo : ∃ i ∈ F, i ∈ Region.ready md ops listed ∧ i ∈ Lz
  ·
   obtain ⟨i, hiF, hir, hiL⟩ := hlo
   obtain ⟨o, ho, hg, -⟩ := hF i hiF
   have hO := (hob.at i hiF).1 o ho
   rw [show Lz.contains i = true by simpa using hiL] at hO
   obtain ⟨hg, v, hv, hΦ⟩ := hO x w hGw fun j hj => hfacts j (hprel i hiF hir j hj).1 (hprel i hiF hir j hj).2
   have hl := List.all_eq_true.1 hlz i hiL
   simp only [ho, Bool.and_eq_true, decide_eq_true_eq] at hl
   refine f0z ho (Region.noSelect_spec hsel) (fun c a w => hQ c o.dst v a w) hl.1 hm (N + tl.len) listed (g0E ops F a x) w inv ?_ hir (.inl ⟨hg, fun wx _ => hv wx⟩) (fun _ => trivial) (next i hiF hir o ho v w (Fr.refl _ _) hΦ)
   intro j oj hoj hji hjun hno
   have h := List.all_eq_true.1 hl.2 j (List.mem_range.2 (Array.getElem?_eq_some_iff.1 hoj).1)
   simp only [hoj, Bool.or_eq_true, beq_iff_eq] at h
   rcases h with (h | h) | h | h
   ·exact absurd h hji
   ·exact absurd hir (e0s inv _ _ h hjun)
   ·obtain ⟨k, hk, h2⟩ := Array.any_eq_true.1 h
    simp only [Bool.and_eq_true, beq_iff_eq] at h2
    exact absurd h2.2 (hno _ (Array.getElem_mem hk) h2.1)
   ·exact h
  refine ⟨fun h => (by rw [h] at hr0; cases hr0), fun i hi => ?_⟩
  obtain ⟨hiun, oi, hoi, hiall⟩ := mem_ready.1 hi
  have hisz : i < ops.size := (Array.getElem?_eq_some_iff.1 hoi).1
  have hiF : i ∈ F := by
   have h := List.all_eq_true.1 htl i (List.mem_range.2 hisz)
   simp only [Bool.or_eq_true] at h
   rcases h with h | h
   ·simpa using h
   ·have h2 := List.all_eq_true.1 h i0 hi0
    simp only [Bool.or_eq_true] at h2
    rcases h2 with h2 | h2
    ·exact absurd ⟨i0, hi0, hr0, by simpa using h2⟩ hlo
    ·exact absurd hi (e0s inv _ _ h2 (getD_in (by rw [hsz]; exact hlt i0 hi0) hun0))
  obtain ⟨o, ho, hg, -⟩ := hF i hiF
  have hO := (hob.at i hiF).1 o ho
  have hnl : Lz.contains i = false := by
   cases h : Lz.contains i with
   | false => rfl
   | true => exact absurd ⟨i, hiF, hi, by simpa using h⟩ hlo
  rw [hnl] at hO
  rcases hO x w hGw fun j hj => hfacts j (hprel i hiF hi j hj).1 (hprel i hiF hi j hj).2 with ⟨hgd, hO⟩ | ⟨hgd, hO⟩
  rotate_left 1
  ·unfold wpOp
   simp only [ho]
   rw [if_neg (by rw [hgd]; decide)]
   exact ⟨fun _ _ => trivial, next i hiF hi o ho undef w (Fr.refl _ _) hO⟩
  refine s0H ho hgd (Oper.wp_mono (fun a' w' h' => ?_) hO)
  obtain ⟨v, rfl, hfr, hΦ⟩ := h'
  exact ⟨fun _ _ => trivial, next i hiF hi o ho v w' hfr hΦ⟩
theorem k0m {id : Nat} {a : Act} {w : World} {l : List Oper} (G : World → Prop) (F Lz : List Nat) (pre : Nat → List Nat) (Φ : Nat → (Nat → Value) → World → Prop) (m : Nat) (tl : Pl) (hm : P.follows .mixedOrders = true)
  (hB : (Region.noSelect l.toArray && decide (m < l.toArray.size) && decide (F.length + tl.len = l.toArray.size) && s0G .any l.toArray m F Lz pre tl) = true)
  (hQ : ∀ c (d : Option Tmp) v a w, Q (.panic c) (Act.put a d v) w → Q (.panic c) a w) (hG0 : G w.drew) (hG : ∀ w w', G w → Fr Nob w w' → G w') (hob : Obls P l.toArray Q G (g0E l.toArray F a) pre Φ Lz F)
  (hend : ∀ x w, G w → (∀ i ∈ F, Φ i (c0S (i :: pre i) x) w) → b0o P l.toArray Q (fun _ => True) tl (g0E l.toArray F a x) w) : (Code.region id l.toArray true).wp P Q a w := by
 simp only [Bool.and_eq_true, decide_eq_true_eq] at hB
 obtain ⟨⟨⟨hsel, hms⟩, hlen⟩, hok⟩ := hB
 have inv0 : Cl .any l.toArray (Array.replicate l.toArray.size false) :=
  ⟨by simp, fun j oj _ hl => (by rw [getD_replicate_false] at hl; cases hl)⟩
 have hnd : F.Nodup := by
  have h := hok
  simp only [s0G, Bool.and_eq_true] at h
  exact f0g h.1.1.1.1.1.2
 obtain ⟨x0, hx0⟩ := l0S (ops := l.toArray) F a hnd
 have hul : unl F (Array.replicate l.toArray.size false) = F := by
  unfold unl
  exact List.filter_eq_self.2 fun k _ => by rw [getD_replicate_false]; rfl
 have H := p0V (md := .any) hsel hms hQ hok hG hob hend F.length (Array.replicate l.toArray.size false) x0 w.drew (by rw [hul]) (by simp) inv0 (fun k hk => by rw [getD_replicate_false] at hk; cases hk) hG0 (fun i _ hk => by rw [getD_replicate_false] at hk; cases hk)
 rw [hx0, hlen] at H
 exact wp_region_any hm (d0F _ _ _ _ H)
theorem e0X {id : Nat} {a : Act} {w : World} {l : List Oper} (G : World → Prop) (F Lz : List Nat) (pre : Nat → List Nat) (Φ : Nat → (Nat → Value) → World → Prop) (m : Nat) (tl : Pl) (A : (Nat → Value) → Act) (hA : ∀ x, g0E l.toArray F a x = A x) (hm : P.follows .mixedOrders = true)
  (hB : (Region.noSelect l.toArray && decide (m < l.toArray.size) && decide (F.length + tl.len = l.toArray.size) && s0G .any l.toArray m F Lz pre tl) = true)
  (hQ : ∀ c (d : Option Tmp) v a w, Q (.panic c) (Act.put a d v) w → Q (.panic c) a w) (hG0 : G w.drew) (hG : ∀ w w', G w → Fr Nob w w' → G w') (hob : Obls P l.toArray Q G A pre Φ Lz F)
  (hend : ∀ x w, G w → (∀ i ∈ F, Φ i (c0S (i :: pre i) x) w) → b0o P l.toArray Q (fun _ => True) tl (A x) w) : (Code.region id l.toArray true).wp P Q a w := by
 obtain rfl : (g0E l.toArray F a) = A := funext hA
 exact k0m G F Lz pre Φ m tl hm hB hQ hG0 hG hob hend
theorem a0P {G : World → Prop} {A : (Nat → Value) → Act} {pre : Nat → List Nat} {Φ : Nat → (Nat → Value) → World → Prop} {Lz : List Nat} {i : Nat} {s : List Nat} {o : Oper} (ho : ops[i]? = some o) (hl : Lz.contains i = false)
  (h : ∀ x w, G w → (∀ j ∈ pre i, Φ j (c0S (j :: pre j) x) w) → o.wp P (A x) w (fun a' w' => ∃ v, a' = (A x).put o.dst v ∧ Fr Nob w w' ∧ Φ i (c0S (i :: pre i) (upd x i v)) w') Q)
  (hm : ∀ y w w', Φ i (c0S (i :: pre i) y) w → Fr Nob w w' → Φ i (c0S (i :: pre i) y) w') (hs : Obls P ops Q G A pre Φ Lz s) (hg : o.guard = none := by rfl) : Obls P ops Q G A pre Φ Lz (i :: s) :=
 ⟨⟨fun o' ho' => by
  obtain rfl : o = o' := Option.some.inj (ho.symm.trans ho')
  rw [hl]
  exact fun x w h1 h2 => .inl ⟨by simp [Region.wanted, hg], h x w h1 h2⟩, hm⟩, hs⟩
theorem p0W {G : World → Prop} {A : (Nat → Value) → Act} {pre : Nat → List Nat} {Φ : Nat → (Nat → Value) → World → Prop} {Lz : List Nat} {i : Nat} {s : List Nat} {o : Oper} (ho : ops[i]? = some o) (hl : Lz.contains i = true)
  (h : ∀ x w, G w → (∀ j ∈ pre i, Φ j (c0S (j :: pre j) x) w) → ∃ v, (∀ wx, (execOp (A x).eval o).run P wx = .ok (.value v) wx) ∧ Φ i (c0S (i :: pre i) (upd x i v)) w)
  (hm : ∀ y w w', Φ i (c0S (i :: pre i) y) w → Fr Nob w w' → Φ i (c0S (i :: pre i) y) w') (hs : Obls P ops Q G A pre Φ Lz s) (hg : o.guard = none := by rfl) : Obls P ops Q G A pre Φ Lz (i :: s) :=
 ⟨⟨fun o' ho' => by
  obtain rfl : o = o' := Option.some.inj (ho.symm.trans ho')
  rw [hl]
  exact fun x w h1 h2 => ⟨by simp [Region.wanted, hg], h x w h1 h2⟩, hm⟩, hs⟩
variable {o : Oper} {a : Act} {w : World} {Ψ : Value → World → Prop}
theorem g0I {v : Value} (h : (execOp a.eval o).run P w = .ok (.value v) w) (hΨ : Ψ v w) : o.wp P a w (fun a' w' => ∃ v, a' = a.put o.dst v ∧ Fr Nob w w' ∧ Ψ v w') Q := by
 unfold Oper.wp
 rw [h]
 exact ⟨v, rfl, Fr.refl _ _, hΨ⟩
theorem w0l {v : Nat → Value} {L : List Value} {T : TypeId} (hk : Mk P (execOp a.eval o) v L T) (h : ∀ g w', Fr Nob w w' → w.heap.size ≤ g → Has w' g L T → Ψ (v g) w') : o.wp P a w (fun a' w' => ∃ v, a' = a.put o.dst v ∧ Fr Nob w w' ∧ Ψ v w') Q := by
 obtain ⟨g, w', hr, hf, hle, hg⟩ := hk w
 unfold Oper.wp
 rw [hr]
 exact ⟨v g, rfl, hf, h g w' hf hle hg⟩
theorem o0I {t e : TypeId} {k : Nat} {parts : Array (Nat × Operand)} (hop : o.op = .buildSlice t k parts) (hu : P.underlying t = some (.slice e)) {z : Value} {sz by_ : Nat} (hi0 : (P.info? e).map (fun i => (i.zero, i.size, i.bytes)) = some (some z, sz, by_))
  (vs : List Value) (hp : (parts.toList.map fun p => (p.1, a.eval p.2)) = (vs.zipIdx 0).map fun x => (x.2, x.1)) (hv : ∀ v ∈ vs, v.cells.size = sz) (hk : vs.length = k) (L : List Value) (hL : (vs.flatMap fun v => v.cells.toList) = L)
  (h : ∀ g w', Fr Nob w w' → w.heap.size ≤ g → Has w' g L e → Ψ (.slice (some ⟨g, 0, none⟩) k k) w') (hk0 : 0 < k * sz := by decide) (hk24 : k * sz ≤ 16777216 := by decide) : o.wp P a w (fun a' w' => ∃ v, a' = a.put o.dst v ∧ Fr Nob w w' ∧ Ψ v w') Q :=
 w0l (v := fun g => .slice (some ⟨g, 0, none⟩) k k) (by unfold execOp; simp only [hop]; rw [h0P hp]; exact m0Q hu hi0 vs rfl hv hk L hL hk0 hk24) h
theorem s0I {e : TypeId} {z : Value} (hop : o.op = .alloc e) (hi : (P.info? e).map (·.zero) = some (some z)) (L : List Value) (hL : z.cells.toList = L)
  (h : ∀ g w', Fr Nob w w' → w.heap.size ≤ g → Has w' g L e → Ψ (.pointer (some ⟨g, 0, none⟩)) w') : o.wp P a w (fun a' w' => ∃ v, a' = a.put o.dst v ∧ Fr Nob w w' ∧ Ψ v w') Q :=
 w0l (v := fun g => .pointer (some ⟨g, 0, none⟩)) (n0V hi hop L hL) h
theorem g0F {f : FuncId} {xs : Array Operand} {ats : Array TypeId} (hop : o.op = .call { callee := .value (.func f), args := xs, argTypes := ats }) (hcl : ∀ us w, (callFunc f us).run P w = .ok (.enter f us) w)
  {vs : List Value} (hargs : xs.toList.map a.eval = vs) (h : Calls P f vs.toArray w fun e w' => ∃ v, e = .returned v ∧ Fr Nob w w' ∧ Ψ v w') : o.wp P a w (fun a' w' => ∃ v, a' = a.put o.dst v ∧ Fr Nob w w' ∧ Ψ v w') Q :=
 w0T hop hcl hargs (h.mono fun _ _ ⟨v, h1, h2, h3⟩ => ⟨v, h1, v, rfl, h2, h3⟩)
end
end Go.Mv
namespace Go.Mv
open Go.RowKit
variable {P : Program}
end Go.Mv
namespace Go.Mv
open Go.RowKit Go.ChangeShapes Go.WideShapes
theorem Below.trodAll {H : Type} {enc : TypeId × Value → H} {P : Program} (hl : laidOutB P = true) {W W' : World} (hb : Below W.heap.size W W') :
  ∀ (ts : List TypeId) (vs : List Value) (ds : List (DataW H)) (ps : List MemPlace), (∀ t ∈ ts, P.readableRec t = true ∧ t < P.types.size) → DataW.TrodAll enc P W 0 (fun _ => true) true ts vs ds ps → (∀ x ∈ ps, x.block < W.heap.size) →
   DataW.TrodAll enc P W' 0 (fun b => decide (b < W.heap.size)) true ts vs ds ps
 | [], vs, ds, ps, _, h, _ => by
  obtain ⟨rfl, rfl, rfl⟩ := trodAll_nil h
  exact trodAll_mk0
 | t :: ts, vs, ds, ps, hr, h, hlt => by
  obtain ⟨v, vs', d, ds', p, q, rfl, rfl, rfl, h0, hs⟩ := trodAll_cons h
  have h1 := hr t (by simp)
  exact trodAll_cons_mk (Below.trod hl h1.1 h1.2 h0 hb (fun x hx => hlt x (by simp [hx]))) (Below.trodAll hl hb ts vs' ds' q (fun t ht => hr t (by simp [ht])) hs (fun x hx => hlt x (by simp [hx])))
theorem v0h {H : Type} {enc : TypeId × Value → H} {P : Program} {f : Func} {s : ChangeSpec} {W W' : World} {args : Array Value} {ds gs : List (DataW H)} {before : List MemPlace}
  (hl : laidOutB P = true) (hr : ∀ t ∈ f.params.toList, P.readableRec t = true ∧ t < P.types.size) (hW : DataW.Whole enc P f.params.toList s.vars false W args.toList ds gs before)
  (hv : s.vars = []) (hres : (s.fn H (ds ++ gs)).results = [.lit (.bool true)]) (harg : (s.fn H (ds ++ gs)).args = ds) (hvar : (s.fn H (ds ++ gs)).vars = [])
  {tb : TypeId} (hrt : f.resultTypes = #[tb]) (hu : P.underlying tb = some .bool) (hf : Fr Nob W W') :
  s.post enc P f false true false false W args (.bool true) W' := by
 have hW' := hW
 obtain ⟨p, q, hA, hV, rfl, hfz, hnd⟩ := hW
 rw [hv] at hV
 obtain ⟨rfl, rfl⟩ := trodVars_none hV
 have hlt : ∀ x ∈ p ++ [], x.block < W.heap.size := fun x hx => hW'.lt x hx
 refine ⟨ds, [], p ++ [], [], p, [], hW', ?_, ?_, ?_, World.keptBut_mono (fun x hx => ⟨hx, ?_⟩) (hf.below.frame (· ∈ p ++ [])), fun h => by cases h⟩
 ·rw [hres, hrt]
  exact trodAll_mk1 (shut_bool hu true)
 ·rw [harg]
  exact Below.trodAll hl hf.below _ _ _ _ hr hA (fun x hx => hlt x (by simp [hx]))
 ·rw [hvar, hv]; exact rfl
 ·simp only [List.append_nil] at hx
  exact .inr (.inl hx)
end Go.Mv
