/- ; ; ; ; ; ; ; ; ; ; ; ; ; ; ; ; ; ; ; ; ; . -/
import Derived.Test.YtemcankmggmgoaaGreatDoorMgKeysSetsProof4
import Derived.IntWalk
import Derived.Deep.DeepCutAuto
import Derived.Test.YtemcankmggmgoaaGreatDoorMgKeysSetsProof3
import Derived.Test.YtemcankmggmgoaaGreatDoorMgKeysSetsProof2
import Derived.Test.YtemcankmggmgoaaGreatDoorProg
import Derived.WalkKit
import Derived.Shelf.Spec.TrailingZeros
import Derived.Test.YtemcankmggmgoaaGreatDoorMgKeysSetsProof1
set_option maxHeartbeats 16000000
set_option maxRecDepth 1000000

namespace Go.Proofs.YtemcankmggmgoaaGreatDoor
open Go.RowKit Go.Mv Mvp Mvt
def e0i (k : List UInt8) (path : List Nat) : List UInt8 := path.foldl (fun k n => c0S h0l [k, h0g n]) k
theorem n0v (k : List UInt8) : e0i k [] = k := rfl
theorem k0K (k : List UInt8) (path : List Nat) (i : Nat) (h : i < path.length) : e0i k (path.take (i + 1)) = c0S h0l [e0i k (path.take i), h0g (path.getD i 0)] := by
 rw [List.take_succ_eq_append_getElem h, e0i, List.foldl_append]
 simp [e0i, List.getD_eq_getElem?_getD, h]
attribute [local irreducible] b0l b0B toB a0v a0I b0m c0h a0C c0i b0k a0G c0S e0i
theorem n0w (l : List Nat) (i : Nat) (h : i < l.length) : (o0L l)[i]? = some (.int .u32 ((l.getD i 0 : Nat) : Int)) := by
 unfold o0L
 rw [List.getElem?_map, List.getElem?_eq_getElem h]
 simp [List.getD_eq_getElem?_getD, h]
theorem k0L (a : Option Addr) (c : Nat) (l : List UInt8) (s : ByteArray) (p : Option Addr) (d : Nat) (path : List Nat) (w : World) (hp : PartIs w (.slice a 32 c) l) (hs : s.size ≤ 1000000) (hk : path.length ≤ 16) (hx : ∀ x ∈ path, x < 4294967296) (hr : Rd w p path.length (o0L path)) :
  Calls Tryz.prog 22 #[.slice a 32 c, .string s, .slice p path.length d] w fun e w' => ∃ v, e = .returned (.tuple #[v, .int .i64 0]) ∧ Own w' w.heap.size 5 1 v 32 (bs (c0S h0N [e0i l path, s.data.toList])) ∧ Fr Nob w w' := by
 have hne : (((32 : Nat) : Int) != 32) = false := by rfl
 have hkI : ¬ ((16 : Int) < (path.length : Int)) := by omega
 have HP := qH hp
 have HS := qH hs
 have HR := qH hr
 have HX := qH hx
 clear hp hs hr hx
 go_enter Tryz.func22, Tryz.ntmps22
 go_wp2
 go_loopw [8, 22] (fun v i wr => ∃ j : Nat, j ≤ path.length ∧ i = .int .i64 (j : Int) ∧ PartIs wr v (e0i l (path.take j)) ∧ Fr Nob w wr) (fun _ i _ => (path.length - intOf i).toNat)
 case atStart => exact ⟨0, by omega, rfl, by rw [List.take_zero, n0v]; exact HP.out, Fr.refl _ _⟩
 case round =>
  obtain ⟨j, hj, rfl, hpj, hfj⟩ := hrel
  have HPJ := qH hpj
  have HFJ := qH hfj
  obtain ⟨aj, nj, cj, hvj, -⟩ := id hpj
  subst hvj
  clear hpj hfj
  by_cases hlt : j < path.length
  ·have hltI : (j : Int) < (path.length : Int) := by omega
   obtain ⟨b, o, hab, -⟩ := HR.out.at (by omega)
   subst hab
   have hcell := i0n (HR.out.still HFJ.out) j _ (n0w path j hlt)
   have HD := qH (k0K l path j hlt)
   have hxb : path.getD j 0 < 4294967296 := by
    have : path.getD j 0 = path[j] := by simp [List.getD_eq_getElem?_getD, hlt]
    rw [this]; exact HX.out _ (List.getElem_mem _)
   generalize path.getD j 0 = x at *
   go_wp2_with fail
   refine (q0O x hxb _ _ _ HPJ.out).mono ?_
   rintro e w5 ⟨v5, rfl, ho5, hf5⟩
   obtain ⟨a5, c5, rfl, -⟩ := e0z ho5
   have HP5 := qH (c0y ho5 (by omega))
   have HF5 := qH (HFJ.out.then hf5)
   clear ho5 hf5 hcell hxb
   go_wp2_with fail
   go_roundw
   case rel => exact ⟨j + 1, by omega, by go_num, by rw [HD.out]; exact HP5.out, HF5.out⟩
   case measure => simp [intOf]; omega
  ·have hge : ¬ ((j : Int) < (path.length : Int)) := by omega
   have HJ := qH (show path.take j = path from List.take_of_length_le (by omega))
   go_wp2_with fail
   refine (w0d s HS.out _ _ _ HPJ.out).mono ?_
   rintro e w5 ⟨v5, rfl, ho5, hf5⟩
   obtain ⟨a5, c5, rfl, -⟩ := e0z ho5
   rw [HJ.out] at ho5
   have HO := qH (ho5.mono HFJ.out.size)
   have HF5 := qH (HFJ.out.then hf5)
   clear ho5 hf5
   go_wp2_with fail
   go_ret2
   exact ⟨_, rfl, HO.out, HF5.out⟩
end Go.Proofs.YtemcankmggmgoaaGreatDoor
namespace Mvp
end Mvp
namespace Go.Proofs.YtemcankmggmgoaaGreatDoor
section
open Go.RowKit Go.Mv Mvp
attribute [local irreducible] b0l b0B toB a0v a0I b0m c0h a0C c0i b0k a0G c0S
theorem q0P (b : Option Addr) (n c : Nat) (l : List UInt8) (m : Nat) (w : World) (hn : n ≤ 1000000) (hnc : n ≤ c) (hm : m ≤ 16384) (hb : RdB w b n l) (ho : Old w b) :
  Calls Tryz.prog 23 #[.slice b n c, .int .i64 (m : Int)] w fun r w' => ∃ v, r = .returned (.tuple #[v, .int .i64 0]) ∧ Own w' w.heap.size 5 1 v m (bs (a0C l 31 m)) ∧ Fr Nob w w' := by
 refine (o0K b n c l m w hn hnc hb ho).mono ?_
 rintro r w' (⟨_, _, v, h1, h2, h3⟩ | ⟨h, _⟩)
 ·exact ⟨v, h1, by simpa using h2, h3⟩
 ·omega
end
section
open Go.RowKit Go.Mv Mvp
attribute [local irreducible] a0J lw mix cw b0t b0G b0q a0P a0u beN laid b0o b0H a0M a0V elN mdL b0R
end
section
open Go.RowKit Go.Mv Mvp
attribute [local irreducible] a0J lw mix cw b0t b0G b0q a0P a0u beN laid b0o b0H a0M a0V elN mdL
end
section
open Go.RowKit Go.Mv Mvp
attribute [local irreducible] a0J lw mix cw b0t b0G b0q a0P a0u beN laid b0o b0H a0M a0V elN mdL b0R
end
section
open Go.RowKit Go.Mv Mvp
theorem t0i (m : Md) (hM : m.M < B64 ^ 4) (s : ByteArray) (w : World) (h : b0R m s.data.toList = true) :
  Calls Tryz.prog 41 #[fv m.M, .string s] w fun e w' => e = .returned (.tuple #[i4 (beN s.data.toList), .bool true]) ∧ Fr Nob w w' := by
 unfold b0R at h
 simp only [Bool.and_eq_true, decide_eq_true_eq] at h
 refine (k0a m.M s w (by have := h.1; simpa using this) hM).mono fun e w' he => ?_
 rw [decide_eq_true h.2] at he
 exact he
theorem t0j (m : Md) (hM : m.M < B64 ^ 4) (s : ByteArray) (w : World) (h : b0R m s.data.toList = false) :
  Calls Tryz.prog 41 #[fv m.M, .string s] w fun e w' => ∃ N, e = .returned (.tuple #[i4 N, .bool false]) ∧ Fr Nob w w' := by
 by_cases hs : s.size = 32
 ·refine (k0a m.M s w hs hM).mono fun e w' he => ?_
  have h2 : ¬ beN s.data.toList < m.M := by
   intro hb
   unfold b0R at h
   rw [decide_eq_true hb, decide_eq_true (by simpa using hs)] at h
   cases h
  rw [decide_eq_false h2] at he
  exact ⟨_, he⟩
 ·exact (o0i m.M s w hs).mono fun e w' he => ⟨_, he⟩
attribute [local irreducible] a0J lw mix cw b0t b0G b0q a0P a0u beN laid b0o b0H a0M a0V elN mdL b0R
end
end Go.Proofs.YtemcankmggmgoaaGreatDoor
namespace Mvp
end Mvp
namespace Go.Proofs.YtemcankmggmgoaaGreatDoor
section
open Go.RowKit Go.Mv Mvp
attribute [local irreducible] a0J lw mix cw b0t b0G b0q a0P a0u beN laid b0o b0H a0M a0V elN mdL b0R
theorem BParts.four {w : World} {v1 v2 v3 v4 : Value} {l1 l2 l3 l4 : List UInt8} (h1 : BPart w v1 l1) (h2 : BPart w v2 l2) (h3 : BPart w v3 l3) (h4 : BPart w v4 l4) : BParts w [v1, v2, v3, v4] [l1, l2, l3, l4] := ⟨rfl, fun i x hx => by
 match i with
 | 0 => simp at hx; subst hx; exact h1
 | 1 => simp at hx; subst hx; exact h2
 | 2 => simp at hx; subst hx; exact h3
 | 3 => simp at hx; subst hx; exact h4
 | i + 4 => simp at hx⟩
end
section
open Go.RowKit Go.Mv Mvp
theorem w0e (x y : Nat) (hx : x < B64 ^ 4) (hy : y < B64 ^ 4) (w : World) : (Op.equal 50 (.agg (cw 4 x).toArray) (.agg (cw 4 y).toArray)).run Tryz.prog w = .ok (x == y) w := by
 have h := j0a (P := Tryz.prog) Tryz.underlying50 Tryz.underlying23 c0x x y w
 rw [Nat.mod_eq_of_lt hx, Nat.mod_eq_of_lt hy] at h
 rw [h]
 congr 1
attribute [local irreducible] a0J lw mix cw b0t b0G b0q a0P a0u beN laid b0o b0H a0M a0V elN mdL b0R
theorem t0k (m : Md) (hk : KindOf 1 m) (w : World) :
  Calls Tryz.prog 29 #[] w fun e w' => e = .returned (fv m.M) ∧ Fr Nob w w' := by
 have HK := qH hk
 have HOK := qH hk.ok
 clear hk
 have st0 := St.start Nob w
 go_enter Tryz.func29, Tryz.ntmps29
 go_wp2_with (with_reducible refine wSk 0 ?_)
 refine a0b st0 rfl rfl (z := .agg #[.int .u64 0, .int .u64 0, .int .u64 0, .int .u64 0, .int .u64 0, .int .u64 0, .int .u64 0, .int .u64 0]) (by kernel_rfl) (cw 8 0) (by rw [a0f]; rfl) ?_
 intro g0 w1 st1
 clear st0
 go_wp2_with fail
 refine (x0M HK.out _).mono ?_
 rintro e' w2 ⟨rfl, hf2⟩
 have st2 := st1.keep hf2
 clear st1 hf2
 go_wp2_with (with_reducible refine wSn ?_)
 refine a0d st2 0 rfl rfl rfl rfl rfl (by first | (simp only [a0a]; done) | (simp only [List.length_append, a0a]; done)) (by first | (rw [a0a]; kernel_rfl) | (simp only [List.length_append, a0a]; kernel_rfl)) (i0U _ _ _ _) ?_
 intro w3 st3
 clear st2
 have hr := st3.at 0 rfl
 have hfr := st3.fr
 clear st3
 go_wp2_with fail
 exact bodyPost_ret (a0F rfl rfl hr Tryz.underlying66 rfl (by first | (rw [a0a]; kernel_rfl) | (simp only [List.length_append, a0a]; kernel_rfl))) rfl ⟨rfl, hfr⟩
theorem t0l (m : Md) (hk : KindOf 1 m) (s : ByteArray) (w : World) (ha : b0R m s.data.toList = true) :
  Calls Tryz.prog 18 #[.string s] w fun e w' => e = .returned (.tuple #[i4 (beN s.data.toList), .bool true]) ∧ Fr Nob w w' := by
 have HK := qH hk
 have HOK := qH hk.ok
 clear hk
 have HA := qH ha
 clear ha
 have st0 := St.start Nob w
 go_enter Tryz.func18, Tryz.ntmps18
 go_wp2_with (with_reducible refine wSk 2 ?_)
 refine a0b st0 rfl rfl (z := zAd) (by kernel_rfl) (cw 4 0) (by rw [a0f]; rfl) ?_
 intro g2 w1 st1
 clear st0
 go_wp2_with fail
 refine (t0k m HK.out _).mono ?_
 rintro e' w2 ⟨rfl, hf2⟩
 have st2 := st1.keep hf2
 clear st1 hf2
 go_wp2_with fail
 refine (t0i m HOK.out.lt s _ HA.out).mono ?_
 rintro e' w3 ⟨rfl, hf3⟩
 have st3 := st2.keep hf3
 clear st2 hf3
 go_wp2_with (with_reducible refine wSn ?_)
 refine a0d st3 0 rfl rfl rfl rfl rfl (by first | (simp only [a0a]; done) | (simp only [List.length_append, a0a]; done)) (by first | (rw [a0a]; kernel_rfl) | (simp only [List.length_append, a0a]; kernel_rfl)) (a0i _ _) ?_
 intro w4 st4
 clear st3
 have hr := st4.at 0 rfl
 have hfr := st4.fr
 clear st4
 go_wp2_with fail
 exact bodyPost_ret (a0Q rfl rfl hr Tryz.underlying50 (by first | (rw [a0a]; kernel_rfl) | (simp only [List.length_append, a0a]; kernel_rfl)) rfl) rfl ⟨rfl, hfr⟩
theorem t0m (m : Md) (hk : KindOf 1 m) (s : ByteArray) (w : World) (ha : b0R m s.data.toList = false) :
  Calls Tryz.prog 18 #[.string s] w fun e w' => ∃ N, e = .returned (.tuple #[i4 N, .bool false]) ∧ Fr Nob w w' := by
 have HK := qH hk
 have HOK := qH hk.ok
 clear hk
 have HA := qH ha
 clear ha
 have st0 := St.start Nob w
 go_enter Tryz.func18, Tryz.ntmps18
 go_wp2_with (with_reducible refine wSk 2 ?_)
 refine a0b st0 rfl rfl (z := zAd) (by kernel_rfl) (cw 4 0) (by rw [a0f]; rfl) ?_
 intro g2 w1 st1
 clear st0
 go_wp2_with fail
 refine (t0k m HK.out _).mono ?_
 rintro e' w2 ⟨rfl, hf2⟩
 have st2 := st1.keep hf2
 clear st1 hf2
 go_wp2_with fail
 refine (t0j m HOK.out.lt s _ HA.out).mono ?_
 rintro e' w3 ⟨NA, rfl, hf3⟩
 have st3 := st2.keep hf3
 clear st2 hf3
 go_wp2_with (with_reducible refine wSn ?_)
 refine a0d st3 0 rfl rfl rfl rfl rfl (by first | (simp only [a0a]; done) | (simp only [List.length_append, a0a]; done)) (by first | (rw [a0a]; kernel_rfl) | (simp only [List.length_append, a0a]; kernel_rfl)) (a0i _ _) ?_
 intro w4 st4
 clear st3
 have hr := st4.at 0 rfl
 have hfr := st4.fr
 clear st4
 go_wp2_with fail
 exact bodyPost_ret (a0Q rfl rfl hr Tryz.underlying50 (by first | (rw [a0a]; kernel_rfl) | (simp only [List.length_append, a0a]; kernel_rfl)) rfl) rfl ⟨_, rfl, hfr⟩
theorem z0f (p a b r : Nat) (w : World) (hp0 : 0 < p) (hp : p < B64 ^ 4) (ha : a < B64 ^ 4) (hb : b < B64 ^ 4) (hbp : b ≤ p) (hr : (a + (p - b)) % p = r) :
  Calls Tryz.prog 112 #[fv p, i4 a, i4 b] w fun e w' => e = .returned (i4 r) ∧ Fr Nob w w' := by
 refine (v0H p a b w hp0 hp ha hb hbp).mono fun e w' h => ?_
 rw [Nat.add_mod_mod, hr] at h
 exact h
theorem z0g (p a r : Nat) (w : World) (hp1 : 1 < p) (hp : p < B64 ^ 4) (ha : a < B64 ^ 4) (hr : a ^ (p - 2) % p = r) :
  Calls Tryz.prog 46 #[fv p, i4 a] w fun e w' => e = .returned (i4 r) ∧ Fr Nob w w' := by
 subst hr; exact v0K p a w hp1 hp ha
end
section
open Go.RowKit Go.Mv Mvp Mvt
def scN (M : Nat) (d : List UInt8) : Nat := if beN (a0C d 31 64) % M = 0 then 1 else beN (a0C d 31 64) % M
theorem h0m (v : Value) (l : List UInt8) (m : Nat) (w : World) (hm : m ≤ 16384) (hp : PartIs w v l) :
  Calls Tryz.prog 23 #[v, .int .i64 (m : Int)] w fun r w' => ∃ v, r = .returned (.tuple #[v, .int .i64 0]) ∧ Own w' w.heap.size 5 1 v m (bs (a0C l 31 m)) ∧ Fr Nob w w' := by
 obtain ⟨a, n, c, rfl, hc, hn, hr, ho⟩ := hp
 exact q0P a n c l m w hn hc hm hr ho
theorem i0p (m : Md) (hk : KindOf 1 m) (v : Value) (l : List UInt8) (w : World) (hp : PartIs w v l) :
  Calls Tryz.prog 24 #[v] w fun e w' => e = .returned (i4 (elN m (beN l))) ∧ Fr Nob w w' := by
 obtain ⟨a, n, c, rfl, hc, hn, hr, ho⟩ := hp
 exact q0f m hk a n c l w hr hc hn
attribute [local irreducible] a0J lw mix cw b0t b0G b0q a0P a0u beN laid b0o b0H a0M a0V elN mdL b0R b0l b0B toB a0v a0I b0m c0h a0C c0i b0k a0G c0S e0i scN
theorem q0Q (m : Md) (hk : KindOf 1 m) (a : Option Addr) (c : Nat) (l : List UInt8) (s : ByteArray) (p : Option Addr) (d : Nat) (path : List Nat) (w : World) (hp : PartIs w (.slice a 32 c) l) (hs : s.size ≤ 1000000) (hk16 : path.length ≤ 16) (hx : ∀ x ∈ path, x < 4294967296) (hr : Rd w p path.length (o0L path)) (D : List UInt8) (hD : c0S h0N [e0i l path, s.data.toList] = D) (hz : (beN (a0C D 31 64) % m.M == 0) = true) :
  Calls Tryz.prog 11 #[.slice a 32 c, .string s, .slice p path.length d] w fun e w' => ∃ v, e = .returned (.tuple #[v, .int .i64 0]) ∧ Own w' w.heap.size 5 1 v 32 (bs (b0o (scN m.M D))) ∧ Fr Nob w w' := by
 have HK := qH hk
 have HOK := qH hk.ok
 clear hk
 have HP := qH hp
 have HS := qH hs
 have HR := qH hr
 have HX := qH hx
 have HK16 := qH hk16
 have HD := qH hD
 have HZ := qH hz
 have HSC := qH (show 1 % m.M = scN m.M D by
  rw [beq_iff_eq] at hz
  unfold scN
  rw [if_pos hz]; exact Nat.mod_eq_of_lt HOK.out.one)
 clear hp hs hr hx hk16 hD hz
 go_enter Tryz.func11, Tryz.ntmps11
 go_wp2_with fail
 refine (k0L a c l s p d path w HP.out HS.out HK16.out HX.out HR.out).mono ?_
 rintro e w1 ⟨v1, rfl, ho1, hf1⟩
 obtain ⟨a1, c1, rfl, -⟩ := e0z ho1
 have HP1 := qH (c0y ho1 (by omega))
 have HF1 := qH hf1
 clear ho1 hf1
 have hD := HD.out
 rw [hD] at HP1
 clear hD
 have st0 := St.start Nob w1
 go_wp2_with fail
 refine (h0m _ D 64 _ (by decide) (HP1.out.still st0.fr)).mono ?_
 rintro e' w2 ⟨v2, rfl, ho2, hf2⟩
 have st2 := st0.keep hf2
 obtain ⟨a2, c2, hv2, -⟩ := e0z ho2
 subst hv2
 have HP2 := qH (c0y ho2 (by omega))
 clear ho2
 clear st0 hf2
 have Fw2 := qH (Fr.refl Nob w2)
 go_wp2_with fail
 refine (i0p m HK.out _ (a0C D 31 64) _ (HP2.out.still Fw2.out)).mono ?_
 rintro e' w3 ⟨rfl, hf3⟩
 have st3 := st2.keep hf3
 clear st2 hf3
 go_wp2_with (with_reducible refine wSk 10 ?_)
 refine a0b st3 rfl rfl (z := zAd) (by kernel_rfl) (cw 4 0) (by rw [a0f]; rfl) ?_
 intro g10 w4 st4
 clear st3
 go_wp2_with (with_reducible refine wSn ?_)
 refine a0d st4 0 rfl rfl rfl rfl rfl (by first | (simp only [a0a]; done) | (simp only [List.length_append, a0a]; done)) (by first | (rw [a0a]; kernel_rfl) | (simp only [List.length_append, a0a]; kernel_rfl)) (a0i _ _) ?_
 intro w5 st5
 clear st4
 go_wp2_with (with_reducible refine wSk 28 ?_)
 refine a0o st5 0 rfl rfl rfl Tryz.underlying61 rfl rfl (by first | (rw [a0a]; kernel_rfl) | (simp only [List.length_append, a0a]; kernel_rfl)) ?_
 go_wp2_with fail
 refine (k0j m HOK.out (beN (a0C D 31 64)) true HZ.out _).mono ?_
 rintro e' w6 ⟨rfl, hf6⟩
 have st6 := st5.keep hf6
 clear st5 hf6
 go_wp2_with fail
 refine (o0p m HK.out 1 (by decide) _).mono ?_
 rintro e' w7 ⟨rfl, hf7⟩
 have st7 := st6.keep hf7
 clear st6 hf7
 go_wp2_with (with_reducible refine wSn ?_)
 refine a0d st7 0 rfl rfl rfl rfl rfl (by first | (simp only [a0a]; done) | (simp only [List.length_append, a0a]; done)) (by first | (rw [a0a]; kernel_rfl) | (simp only [List.length_append, a0a]; kernel_rfl)) (a0i _ _) ?_
 intro w8 st8
 clear st7
 go_wp2_with (with_reducible refine wSk 31 ?_)
 refine a0o st8 0 rfl rfl rfl Tryz.underlying61 rfl rfl (by first | (rw [a0a]; kernel_rfl) | (simp only [List.length_append, a0a]; kernel_rfl)) ?_
 go_wp2_with fail
 refine (i0h m HK.out 1 _).mono ?_
 rintro e' w9 ⟨v9, rfl, ho9, hf9⟩
 have st9 := st8.keep hf9
 have HSZ := Nat.le_trans HF1.out.size st8.fr.size
 obtain ⟨a9, c9, hv9, -⟩ := e0z ho9
 subst hv9
 have HO9 := qH (ho9.mono HSZ)
 clear ho9
 clear st8 hf9
 have hfr := HF1.out.then st9.fr
 clear st9 HSZ
 go_wp2_with fail
 go_ret2
 refine ⟨_, rfl, ?_, hfr⟩
 have := HO9.out
 rwa [HSC.out] at this
theorem q0R (m : Md) (hk : KindOf 1 m) (a : Option Addr) (c : Nat) (l : List UInt8) (s : ByteArray) (p : Option Addr) (d : Nat) (path : List Nat) (w : World) (hp : PartIs w (.slice a 32 c) l) (hs : s.size ≤ 1000000) (hk16 : path.length ≤ 16) (hx : ∀ x ∈ path, x < 4294967296) (hr : Rd w p path.length (o0L path)) (D : List UInt8) (hD : c0S h0N [e0i l path, s.data.toList] = D) (hz : (beN (a0C D 31 64) % m.M == 0) = false) :
  Calls Tryz.prog 11 #[.slice a 32 c, .string s, .slice p path.length d] w fun e w' => ∃ v, e = .returned (.tuple #[v, .int .i64 0]) ∧ Own w' w.heap.size 5 1 v 32 (bs (b0o (scN m.M D))) ∧ Fr Nob w w' := by
 have HK := qH hk
 have HOK := qH hk.ok
 clear hk
 have HP := qH hp
 have HS := qH hs
 have HR := qH hr
 have HX := qH hx
 have HK16 := qH hk16
 have HD := qH hD
 have HZ := qH hz
 have HSC := qH (show (beN (a0C D 31 64)) % m.M = scN m.M D by
  rw [beq_eq_false_iff_ne] at hz
  unfold scN
  rw [if_neg hz])
 clear hp hs hr hx hk16 hD hz
 go_enter Tryz.func11, Tryz.ntmps11
 go_wp2_with fail
 refine (k0L a c l s p d path w HP.out HS.out HK16.out HX.out HR.out).mono ?_
 rintro e w1 ⟨v1, rfl, ho1, hf1⟩
 obtain ⟨a1, c1, rfl, -⟩ := e0z ho1
 have HP1 := qH (c0y ho1 (by omega))
 have HF1 := qH hf1
 clear ho1 hf1
 have hD := HD.out
 rw [hD] at HP1
 clear hD
 have st0 := St.start Nob w1
 go_wp2_with fail
 refine (h0m _ D 64 _ (by decide) (HP1.out.still st0.fr)).mono ?_
 rintro e' w2 ⟨v2, rfl, ho2, hf2⟩
 have st2 := st0.keep hf2
 obtain ⟨a2, c2, hv2, -⟩ := e0z ho2
 subst hv2
 have HP2 := qH (c0y ho2 (by omega))
 clear ho2
 clear st0 hf2
 have Fw2 := qH (Fr.refl Nob w2)
 go_wp2_with fail
 refine (i0p m HK.out _ (a0C D 31 64) _ (HP2.out.still Fw2.out)).mono ?_
 rintro e' w3 ⟨rfl, hf3⟩
 have st3 := st2.keep hf3
 clear st2 hf3
 go_wp2_with (with_reducible refine wSk 10 ?_)
 refine a0b st3 rfl rfl (z := zAd) (by kernel_rfl) (cw 4 0) (by rw [a0f]; rfl) ?_
 intro g10 w4 st4
 clear st3
 go_wp2_with (with_reducible refine wSn ?_)
 refine a0d st4 0 rfl rfl rfl rfl rfl (by first | (simp only [a0a]; done) | (simp only [List.length_append, a0a]; done)) (by first | (rw [a0a]; kernel_rfl) | (simp only [List.length_append, a0a]; kernel_rfl)) (a0i _ _) ?_
 intro w5 st5
 clear st4
 go_wp2_with (with_reducible refine wSk 28 ?_)
 refine a0o st5 0 rfl rfl rfl Tryz.underlying61 rfl rfl (by first | (rw [a0a]; kernel_rfl) | (simp only [List.length_append, a0a]; kernel_rfl)) ?_
 go_wp2_with fail
 refine (k0j m HOK.out (beN (a0C D 31 64)) false HZ.out _).mono ?_
 rintro e' w6 ⟨rfl, hf6⟩
 have st6 := st5.keep hf6
 clear st5 hf6
 go_wp2_with (with_reducible refine wSk 31 ?_)
 refine a0o st6 0 rfl rfl rfl Tryz.underlying61 rfl rfl (by first | (rw [a0a]; kernel_rfl) | (simp only [List.length_append, a0a]; kernel_rfl)) ?_
 go_wp2_with fail
 refine (i0h m HK.out (beN (a0C D 31 64)) _).mono ?_
 rintro e' w7 ⟨v9, rfl, ho9, hf7⟩
 have st7 := st6.keep hf7
 have HSZ := Nat.le_trans HF1.out.size st6.fr.size
 obtain ⟨a9, c9, hv9, -⟩ := e0z ho9
 subst hv9
 have HO9 := qH (ho9.mono HSZ)
 clear ho9
 clear st6 hf7
 have hfr := HF1.out.then st7.fr
 clear st7 HSZ
 go_wp2_with fail
 go_ret2
 refine ⟨_, rfl, ?_, hfr⟩
 have := HO9.out
 rwa [HSC.out] at this
theorem o0M (m : Md) (hk : KindOf 1 m) (a : Option Addr) (c : Nat) (l : List UInt8) (s : ByteArray) (p : Option Addr) (d : Nat) (path : List Nat) (w : World) (hp : PartIs w (.slice a 32 c) l) (hs : s.size ≤ 1000000) (hk16 : path.length ≤ 16) (hx : ∀ x ∈ path, x < 4294967296) (hr : Rd w p path.length (o0L path)) :
  Calls Tryz.prog 11 #[.slice a 32 c, .string s, .slice p path.length d] w fun e w' => ∃ v, e = .returned (.tuple #[v, .int .i64 0]) ∧ Own w' w.heap.size 5 1 v 32 (bs (b0o (scN m.M (c0S h0N [e0i l path, s.data.toList])))) ∧ Fr Nob w w' := by
 cases hz : (beN (a0C (c0S h0N [e0i l path, s.data.toList]) 31 64) % m.M == 0)
 ·exact q0R m hk a c l s p d path w hp hs hk16 hx hr _ rfl hz
 ·exact q0Q m hk a c l s p d path w hp hs hk16 hx hr _ rfl hz
end
end Go.Proofs.YtemcankmggmgoaaGreatDoor
namespace Mvk
def pcn : Nat → Nat → Nat
 | 0, _ => 0
 | n + 1, x => x % 2 + pcn n (x / 2)
theorem h0n : ∀ (n x : Nat), pcn n x ≤ n
 | 0, _ => Nat.le_refl _
 | n + 1, x => by have := h0n n (x / 2); simp only [pcn]; omega
theorem j0o : ∀ (a b x : Nat), pcn (a + b) x = pcn a x + pcn b (x / 2 ^ a)
 | 0, b, x => by simp [pcn]
 | a + 1, b, x => by
  rw [show a + 1 + b = (a + b) + 1 by omega]
  simp only [pcn]
  rw [j0o a b (x / 2), Nat.div_div_eq_div_mul, show 2 * 2 ^ a = 2 ^ (a + 1) by rw [Nat.pow_succ]; omega]
  omega
theorem n0x : ∀ (n : Nat), pcn n 0 = 0
 | 0 => rfl
 | n + 1 => by simp [pcn, n0x n]
theorem q0S : ∀ (n k : Nat), k < n → pcn n (2 ^ k) = 1
 | 0, k, h => by omega
 | n + 1, 0, _ => by simp [pcn, n0x]
 | n + 1, k + 1, h => by
  have e : 2 ^ (k + 1) = 2 * 2 ^ k := by rw [Nat.pow_succ]; omega
  simp only [pcn]
  rw [show 2 ^ (k + 1) / 2 = 2 ^ k by omega, q0S n k (by omega)]; omega
theorem d0E (k a r m s : Nat) (hr : r < 2 ^ k) (hs : s < 2 ^ k) : (2 ^ k * a + r) &&& (2 ^ k * m + s) = 2 ^ k * (a &&& m) + (r &&& s) := by
 apply Nat.eq_of_testBit_eq
 intro i
 rw [Nat.testBit_and, Nat.testBit_two_pow_mul_add a hr, Nat.testBit_two_pow_mul_add m hs, Nat.testBit_two_pow_mul_add (a &&& m) (Nat.and_lt_two_pow r hs)]
 split <;> rw [Nat.testBit_and]
def m1 : Nat → Nat
 | 0 => 0
 | n + 1 => 4 * m1 n + 1
def m2 : Nat → Nat
 | 0 => 0
 | n + 1 => 16 * m2 n + 3
def m3 : Nat → Nat
 | 0 => 0
 | n + 1 => 256 * m3 n + 15
def T1 : Nat → Nat → Nat
 | 0, _ => 0
 | n + 1, x => 4 * T1 n (x / 4) + pcn 2 x
def T2 : Nat → Nat → Nat
 | 0, _ => 0
 | n + 1, x => 16 * T2 n (x / 16) + pcn 4 x
def T3 : Nat → Nat → Nat
 | 0, _ => 0
 | n + 1, x => 256 * T3 n (x / 256) + pcn 8 x
theorem B1 : ∀ (n x : Nat), (x / 2 &&& m1 n) + (x &&& m1 n) = T1 n x
 | 0, x => by simp [m1, T1]
 | n + 1, x => by
  have ih := B1 n (x / 4)
  have h1 : x / 2 = 2 ^ 2 * (x / 4 / 2) + x / 2 % 4 := by omega
  have h2 : x = 2 ^ 2 * (x / 4) + x % 4 := by omega
  have a1 : (x / 2 &&& m1 (n + 1)) = 4 * (x / 4 / 2 &&& m1 n) + x / 2 % 2 := by
   rw [h1, show m1 (n + 1) = 2 ^ 2 * m1 n + 1 from rfl, d0E 2 _ _ _ _ (by omega) (by omega), Nat.and_one_is_mod]; omega
  have a2 : (x &&& m1 (n + 1)) = 4 * (x / 4 &&& m1 n) + x % 2 := by
   rw [show (x &&& m1 (n + 1)) = (2 ^ 2 * (x / 4) + x % 4) &&& m1 (n + 1) by rw [← h2], show m1 (n + 1) = 2 ^ 2 * m1 n + 1 from rfl, d0E 2 _ _ _ _ (by omega) (by omega), Nat.and_one_is_mod]; omega
  rw [a1, a2]
  simp only [T1, pcn, ← ih]; omega
theorem z0I (r : Nat) : r &&& 3 = r % 4 := Nat.and_two_pow_sub_one_eq_mod r 2
theorem z0h (r : Nat) : r &&& 15 = r % 16 := Nat.and_two_pow_sub_one_eq_mod r 4
theorem x0T (n x : Nat) : T1 (2 * (n + 1)) x = 16 * T1 (2 * n) (x / 16) + 4 * pcn 2 (x / 4) + pcn 2 x := by
 rw [show 2 * (n + 1) = 2 * n + 1 + 1 by omega]
 simp only [T1]
 rw [show x / 4 / 4 = x / 16 by omega]; omega
theorem x0U (n x : Nat) : T2 (2 * (n + 1)) x = 256 * T2 (2 * n) (x / 256) + 16 * pcn 4 (x / 16) + pcn 4 x := by
 rw [show 2 * (n + 1) = 2 * n + 1 + 1 by omega]
 simp only [T2]
 rw [show x / 16 / 16 = x / 256 by omega]; omega
theorem B2 : ∀ (n x : Nat), (T1 (2 * n) x / 4 &&& m2 n) + (T1 (2 * n) x &&& m2 n) = T2 n x
 | 0, x => by simp [m2, T2]
 | n + 1, x => by
  have ih := B2 n (x / 16)
  have ha := h0n 2 (x / 4)
  have hb := h0n 2 x
  have hp : pcn 4 x = pcn 2 x + pcn 2 (x / 4) := j0o 2 2 x
  rw [x0T]
  generalize T1 (2 * n) (x / 16) = q at *
  generalize pcn 2 (x / 4) = a at *
  generalize pcn 2 x = b at *
  have h1 : (16 * q + 4 * a + b) / 4 = 2 ^ 4 * (q / 4) + (4 * (q % 4) + a) := by omega
  have h2 : 16 * q + 4 * a + b = 2 ^ 4 * q + (4 * a + b) := by omega
  rw [h1, h2, show m2 (n + 1) = 2 ^ 4 * m2 n + 3 from rfl, d0E 4 _ _ _ _ (by omega) (by omega), d0E 4 _ _ _ _ (by omega) (by omega), z0I, z0I]
  simp only [T2, hp, ← ih]; omega
theorem x0V : ∀ (n x : Nat), T2 n x % 16 ≤ 4
 | 0, x => by simp [T2]
 | n + 1, x => by have := h0n 4 x; simp only [T2]; omega
theorem B3 : ∀ (n x : Nat), (T2 (2 * n) x / 16 + T2 (2 * n) x) &&& m3 n = T3 n x
 | 0, x => by simp [m3, T3]
 | n + 1, x => by
  have ih := B3 n (x / 256)
  have ha := h0n 4 (x / 16)
  have hb := h0n 4 x
  have hq := x0V (2 * n) (x / 256)
  have hp : pcn 8 x = pcn 4 x + pcn 4 (x / 16) := j0o 4 4 x
  rw [x0U]
  generalize T2 (2 * n) (x / 256) = q at *
  generalize pcn 4 (x / 16) = a at *
  generalize pcn 4 x = b at *
  have h1 : (256 * q + 16 * a + b) / 16 + (256 * q + 16 * a + b) = 2 ^ 8 * (q / 16 + q) + (16 * (q % 16) + 16 * a + a + b) := by omega
  rw [h1, show m3 (n + 1) = 2 ^ 8 * m3 n + 15 from rfl, d0E 8 _ _ _ _ (by omega) (by omega), z0h]
  simp only [T3, hp, ← ih]; omega
theorem z0R (x : Nat) : T3 8 x = pcn 8 x + 256 * (pcn 8 (x / 256) + 256 * (pcn 8 (x / 65536) + 256 * (pcn 8 (x / 16777216) + 256 * (pcn 8 (x / 4294967296) + 256 * (pcn 8 (x / 1099511627776) + 256 * (pcn 8 (x / 281474976710656) + 256 * pcn 8 (x / 72057594037927936))))))) := by
 simp only [T3, Nat.div_div_eq_div_mul, Nat.reduceMul, Nat.mul_zero, Nat.zero_add, Nat.add_comm]
theorem x0W (x : Nat) : pcn 64 x = pcn 8 x + pcn 8 (x / 256) + pcn 8 (x / 65536) + pcn 8 (x / 16777216) + pcn 8 (x / 4294967296) + pcn 8 (x / 1099511627776) + pcn 8 (x / 281474976710656) + pcn 8 (x / 72057594037927936) := by
 rw [show 64 = 8 + (8 + (8 + (8 + (8 + (8 + (8 + 8)))))) from rfl]
 simp only [j0o 8, Nat.div_div_eq_div_mul]
 simp only [show (2 : Nat) ^ 8 = 256 from rfl, show 256 * 256 = 65536 from rfl, show 65536 * 256 = 16777216 from rfl, show 16777216 * 256 = 4294967296 from rfl, show 4294967296 * 256 = 1099511627776 from rfl, show 1099511627776 * 256 = 281474976710656 from rfl, show 281474976710656 * 256 = 72057594037927936 from rfl]
 omega
theorem o0N (a b c d e f g h : Nat) (ha : a ≤ 8) (hb : b ≤ 8) (hc : c ≤ 8) (hd : d ≤ 8) (he : e ≤ 8) (hf : f ≤ 8) (hg : g ≤ 8) (hh : h ≤ 8) (w w1 w2 w3 : Nat)
  (hw : w = a + 256 * (b + 256 * (c + 256 * (d + 256 * (e + 256 * (f + 256 * (g + 256 * h))))))) (h1 : w1 = w + w / 256) (h2 : w2 = w1 + w1 / 65536) (h3 : w3 = w2 + w2 / 4294967296) :
  w3 % 128 = a + b + c + d + e + f + g + h ∧ w3 < 18446744073709551616 := by
 obtain ⟨r6, e6⟩ : ∃ r, r = g + 256 * h := ⟨_, rfl⟩
 rw [← e6] at hw
 obtain ⟨r5, e5⟩ : ∃ r, r = f + 256 * r6 := ⟨_, rfl⟩
 rw [← e5] at hw
 obtain ⟨r4, e4⟩ : ∃ r, r = e + 256 * r5 := ⟨_, rfl⟩
 rw [← e4] at hw
 obtain ⟨r3, e3⟩ : ∃ r, r = d + 256 * r4 := ⟨_, rfl⟩
 rw [← e3] at hw
 obtain ⟨r2, e2⟩ : ∃ r, r = c + 256 * r3 := ⟨_, rfl⟩
 rw [← e2] at hw
 obtain ⟨r1, e1⟩ : ∃ r, r = b + 256 * r2 := ⟨_, rfl⟩
 rw [← e1] at hw
 have b6 : r6 ≤ 2056 := by omega
 have b5 : r5 ≤ 526344 := by omega
 have b4 : r4 ≤ 134744072 := by omega
 have b3 : r3 ≤ 34494482440 := by omega
 have b2 : r2 ≤ 8830587504648 := by omega
 have b1 : r1 ≤ 2260630401189896 := by omega
 have b0 : w ≤ 578721382704613384 := by omega
 have k1 : w1 = w + r1 := by rw [h1]; clear h1 h2 h3 e1 e2 e3 e4 e5 e6; omega
 have k2 : w1 / 65536 = r2 + r3 := by
  rw [k1]
  have x0 : w = a + 256 * b + 65536 * r2 := by rw [hw, e1]; clear h1 h2 h3 k1 e1 e2 e3 e4 e5 e6; omega
  have x1 : r1 = b + 256 * c + 65536 * r3 := by rw [e1, e2]; clear h1 h2 h3 k1 e1 e2 e3 e4 e5 e6; omega
  rw [x0, x1]
  clear h1 h2 h3 k1 e1 e2 e3 e4 e5 e6 hw x0 x1 b0 b1
  omega
 have k3 : w2 = w + r1 + r2 + r3 := by rw [h2, k2, k1]; clear h1 h2 h3 k1 k2 e1 e2 e3 e4 e5 e6; omega
 have k4 : w2 / 4294967296 = r4 + r5 + r6 + h := by
  rw [k3]
  have x0 : w = a + 256 * b + 65536 * c + 16777216 * d + 4294967296 * r4 := by rw [hw, e1, e2, e3]; clear h1 h2 h3 k1 k2 k3 e1 e2 e3 e4 e5 e6 hw; omega
  have x1 : r1 = b + 256 * c + 65536 * d + 16777216 * e + 4294967296 * r5 := by rw [e1, e2, e3, e4]; clear h1 h2 h3 k1 k2 k3 e1 e2 e3 e4 e5 e6 hw; omega
  have x2 : r2 = c + 256 * d + 65536 * e + 16777216 * f + 4294967296 * r6 := by rw [e2, e3, e4, e5]; clear h1 h2 h3 k1 k2 k3 e1 e2 e3 e4 e5 e6 hw; omega
  have x3 : r3 = d + 256 * e + 65536 * f + 16777216 * g + 4294967296 * h := by rw [e3, e4, e5, e6]; clear h1 h2 h3 k1 k2 k3 e1 e2 e3 e4 e5 e6 hw; omega
  rw [x0, x1, x2, x3]
  clear h1 h2 h3 k1 k2 k3 e1 e2 e3 e4 e5 e6 hw x0 x1 x2 x3 b0 b1 b2 b3 b4 b5 b6
  omega
 have k5 : w3 = (a + b + c + d + e + f + g + h) + 256 * (r1 + r2 + r3 + r4 + r5 + r6 + h) := by
  rw [h3, k4, k3, hw]
  clear h1 h2 h3 k1 k2 k3 k4 hw b0 b1 b2 b3 b4 b5 b6
  omega
 refine ⟨?_, ?_⟩
 ·rw [k5]
  clear h1 h2 h3 k1 k2 k3 k4 k5 hw e1 e2 e3 e4 e5 e6 b0 b1 b2 b3 b4 b5 b6
  omega
 ·clear h1 h2 h3 k1 k2 k3 k4 hw e1 e2 e3 e4 e5 e6
  omega
theorem x0X (x : Nat) : let y := (x / 2 &&& 6148914691236517205) + (x &&& 6148914691236517205)
  let z := (y / 4 &&& 3689348814741910323) + (y &&& 3689348814741910323)
  let w := (z / 16 + z) &&& 1085102592571150095
  let w1 := w + w / 256
  let w2 := w1 + w1 / 65536
  let w3 := w2 + w2 / 4294967296
  w3 % 128 = pcn 64 x ∧ y < 18446744073709551616 ∧ z < 18446744073709551616 ∧ z / 16 + z < 18446744073709551616 ∧ w < 18446744073709551616 ∧ w1 < 18446744073709551616 ∧ w2 < 18446744073709551616 ∧ w3 < 18446744073709551616 := by
 intro y z w w1 w2 w3
 have hy : y = T1 (2 * 16) x := B1 32 x
 have hz : z = T2 (2 * 8) x := by
  show (y / 4 &&& m2 16) + (y &&& m2 16) = _
  rw [hy]; exact B2 16 x
 have hw : w = T3 8 x := by
  show (z / 16 + z) &&& m3 8 = _
  rw [hz]; exact B3 8 x
 have hp := h0n 8
 have k := o0N _ _ _ _ _ _ _ _ (hp x) (hp (x / 256)) (hp (x / 65536)) (hp (x / 16777216)) (hp (x / 4294967296)) (hp (x / 1099511627776)) (hp (x / 281474976710656)) (hp (x / 72057594037927936)) w w1 w2 w3 (by rw [hw]; exact z0R x) rfl rfl rfl
 have l1 : ∀ a b : Nat, a &&& b ≤ b := fun a b => Nat.and_le_right
 have y1 := l1 (x / 2) 6148914691236517205
 have y2 := l1 x 6148914691236517205
 have z1 := l1 (y / 4) 3689348814741910323
 have z2 := l1 y 3689348814741910323
 have hyd : y = (x / 2 &&& 6148914691236517205) + (x &&& 6148914691236517205) := rfl
 have hzd : z = (y / 4 &&& 3689348814741910323) + (y &&& 3689348814741910323) := rfl
 have hw1 : w ≤ 1085102592571150095 := Nat.and_le_right
 have h1 : w1 = w + w / 256 := rfl
 have h2 : w2 = w1 + w1 / 65536 := rfl
 refine ⟨by rw [k.1, x0W], by omega, by omega, by omega, by omega, by omega, by omega, k.2⟩
end Mvk
namespace Go.Proofs.YtemcankmggmgoaaGreatDoor
section
open Go.RowKit Go.Mv Mvk
theorem h0o (a b : Nat) (ha : a < 18446744073709551616) (hb : b < 18446744073709551616) : bits .and .u64 (a : Int) (b : Int) = ((a &&& b : Nat) : Int) := by
 have h1 : BitVec.ofInt 64 (a : Int) = BitVec.ofNat 64 a := by simp
 have h2 : BitVec.ofInt 64 (b : Int) = BitVec.ofNat 64 b := by simp
 have h3 : (BitVec.ofNat 64 a &&& BitVec.ofNat 64 b).toNat = a &&& b := by
  rw [BitVec.toNat_and, BitVec.toNat_ofNat, BitVec.toNat_ofNat, Nat.mod_eq_of_lt (by omega), Nat.mod_eq_of_lt (by omega)]
 show IntKind.u64.wrap (((BitVec.ofInt 64 (a : Int) &&& BitVec.ofInt 64 (b : Int)).toNat : Nat) : Int) = _
 rw [h1, h2, h3, IntKind.wrap_u64]
 have : a &&& b ≤ b := Nat.and_le_right
 omega
theorem n0y (x : Nat) (w : World) (hx : x < 18446744073709551616) :
  Calls Tryz.prog 13 #[.int .u64 (x : Int)] w fun e w' => e = .returned (.int .i64 ((pcn 64 x : Nat) : Int)) ∧ w = w' := by
 obtain ⟨k1, k2, k3, k4, k5, k6, k7, k8⟩ := x0X x
 have e1 : bits .and .u64 ((x : Int) / 2) 6148914691236517205 = ((x / 2 &&& 6148914691236517205 : Nat) : Int) := by
  have := h0o (x / 2) 6148914691236517205 (by omega) (by omega)
  simpa using this
 have e2 : bits .and .u64 (x : Int) 6148914691236517205 = ((x &&& 6148914691236517205 : Nat) : Int) := h0o x 6148914691236517205 (by omega) (by omega)
 generalize (x / 2 &&& 6148914691236517205 : Nat) = p1 at *
 generalize (x &&& 6148914691236517205 : Nat) = p2 at *
 have e3 : bits .and .u64 (((p1 : Int) + (p2 : Int)) / 4) 3689348814741910323 = (((p1 + p2) / 4 &&& 3689348814741910323 : Nat) : Int) := by
  have := h0o ((p1 + p2) / 4) 3689348814741910323 (by omega) (by omega)
  simpa using this
 have e4 : bits .and .u64 ((p1 : Int) + (p2 : Int)) 3689348814741910323 = ((p1 + p2 &&& 3689348814741910323 : Nat) : Int) := by
  have := h0o (p1 + p2) 3689348814741910323 (by omega) (by omega)
  simpa using this
 generalize ((p1 + p2) / 4 &&& 3689348814741910323 : Nat) = p3 at *
 generalize (p1 + p2 &&& 3689348814741910323 : Nat) = p4 at *
 have e5 : bits .and .u64 (((p3 : Int) + (p4 : Int)) / 16 + ((p3 : Int) + (p4 : Int))) 1085102592571150095 = (((p3 + p4) / 16 + (p3 + p4) &&& 1085102592571150095 : Nat) : Int) := by
  have := h0o ((p3 + p4) / 16 + (p3 + p4)) 1085102592571150095 (by omega) (by omega)
  simpa using this
 have k9 : (p3 + p4) / 16 + (p3 + p4) &&& 1085102592571150095 ≤ 1085102592571150095 := Nat.and_le_right
 generalize ((p3 + p4) / 16 + (p3 + p4) &&& 1085102592571150095 : Nat) = p5 at *
 obtain ⟨v1, hv1⟩ : ∃ v, v = p5 + p5 / 256 := ⟨_, rfl⟩
 rw [← hv1] at k1 k6 k7 k8
 obtain ⟨v2, hv2⟩ : ∃ v, v = v1 + v1 / 65536 := ⟨_, rfl⟩
 rw [← hv2] at k1 k7 k8
 obtain ⟨v3, hv3⟩ : ∃ v, v = v2 + v2 / 4294967296 := ⟨_, rfl⟩
 rw [← hv3] at k1 k8
 have b1 : v1 ≤ 1200000000000000000 := by omega
 have b2 : v2 ≤ 1300000000000000000 := by omega
 have b3 : v3 ≤ 1400000000000000000 := by omega
 have i1 : (p5 : Int) + (p5 : Int) / 256 = (v1 : Int) := by omega
 have i2 : (v1 : Int) + (v1 : Int) / 65536 = (v2 : Int) := by omega
 have i3 : (v2 : Int) + (v2 : Int) / 4294967296 = (v3 : Int) := by omega
 have e6 : bits .and .i64 (v3 : Int) 127 = ((pcn 64 x : Nat) : Int) := by
  have h := p0z v3 127 (by omega) (by omega)
  rw [show v3 &&& 127 = v3 % 128 from Nat.and_two_pow_sub_one_eq_mod v3 7, k1] at h
  exact h
 have HX := qH k1
 clear hv1 hv2 hv3 k1 k6 k7 k8
 go_enter Tryz.func13, Tryz.ntmps13
 go_wp2_with fail
 go_ret
 exact ⟨rfl, rfl⟩
end
section
open Go.RowKit
theorem q0T (x k idx : Nat) (w : World) (hx0 : ((x : Int) == 0) = false)
  (key : IntKind.u64.wrap (bits BinOp.and IntKind.u64 (x : Int) (IntKind.u64.wrap (-(x : Int))) * 285870213051353865) / 288230376151711744 = (idx : Int))
  (hi : idx < 64) (hk : k < 64) (hcell : w.cell? ⟨0, idx, none⟩ = some (.int .u8 k)) :
  Calls Tryz.prog 14 #[.int .u64 x] w fun e w' => e = .returned (.int .i64 k) ∧ w' = w := by
 go_enter Tryz.func14, Tryz.ntmps14
 go_wp2_with (simp only [key])
 go_ret
 exact ⟨rfl, rfl⟩
theorem q0U (w : World) :
  Calls Tryz.prog 14 #[.int .u64 0] w fun e w' => e = .returned (.int .i64 64) ∧ w' = w := by
 go_enter Tryz.func14, Tryz.ntmps14
 go_wp2
 go_ret
 exact ⟨rfl, rfl⟩
theorem t0n (x : Nat) (hx : x < 18446744073709551616) (w : World) (hT : TabAt 0 Lib.deBruijn64tab w) :
  Calls Tryz.prog 14 #[.int .u64 (x : Int)] w fun e w' => e = .returned (.int .i64 (Lib.ctz 64 x)) ∧ w' = w := by
 by_cases hx0 : x = 0
 ·subst hx0
  exact q0U w
 ·obtain ⟨hlow, hk⟩ := Lib.lowest_bit 64 x hx0 hx
  obtain ⟨hi, htab⟩ := Lib.deBruijn64_at _ hk
  have hcell := hT _ hi
  rw [htab] at hcell
  exact q0T x _ _ w (by simp; omega) (tz64_key x _ hx hx0 hlow) hi hk hcell
end
end Go.Proofs.YtemcankmggmgoaaGreatDoor
namespace Mvk
def up (x : Nat) : Nat → List Nat
 | 0 => []
 | n + 1 => up x n ++ (if x / 2 ^ n % 2 = 1 then [2 ^ n] else [])
end Mvk
namespace Go.Proofs.YtemcankmggmgoaaGreatDoor
open Go.RowKit Go.Mv Mvk
theorem TabAt.still {w w' : World} {g : Nat} {l : List Nat} (h : TabAt g l w) (hf : Fr Nob w w') : TabAt g l w' := fun j hj => hf.cell id (h j hj)
end Go.Proofs.YtemcankmggmgoaaGreatDoor
namespace Go.Mv
open Go.RowKit
end Go.Mv
namespace Go.Proofs.YtemcankmggmgoaaGreatDoor
open Go.RowKit Go.Mv Mvp
def ptL (m : Md) (x y z : Nat) : List Value := cw 4 (elN m x) ++ (cw 4 (elN m y) ++ cw 4 (elN m z))
def ptV (m : Md) (x y z : Nat) : Value := .agg (ptL m x y z).toArray
def e0A (m : Md) (gp bx by_ : Nat) : List Value := [.pointer (some ⟨gp, 0, none⟩)] ++ (cw 4 (elN m 7) ++ ptL m bx by_ 1)
theorem a0N (m : Md) (x y z : Nat) : (ptL m x y z).length = 12 := by simp [ptL, a0a]
theorem k0M (m : Md) (gp bx by_ : Nat) : ((e0A m gp bx by_).drop 1).take (cw 4 (elN m 7)).length = cw 4 (elN m 7) := by
 unfold e0A
 rw [List.singleton_append, List.drop_succ_cons, List.drop_zero, List.take_left]
theorem t0o (m : Md) (gp bx by_ : Nat) : ((e0A m gp bx by_).drop 5).take (ptL m bx by_ 1).length = ptL m bx by_ 1 := by
 have h : ([Value.pointer (some ⟨gp, 0, none⟩)] ++ cw 4 (elN m 7)).length = 5 := by rw [List.length_append, a0a]; rfl
 unfold e0A
 rw [← List.append_assoc, List.drop_append_of_le_length (by omega), List.drop_of_length_le (by omega), List.nil_append, List.take_of_length_le (Nat.le_refl _)]
theorem j0M (a b c : Nat) : ((cw 4 a ++ (cw 4 b ++ cw 4 c)).drop 0).take (cw 4 a).length = cw 4 a := by
 rw [List.drop_zero, List.take_left]
theorem l0A (a b c : Nat) : ((cw 4 a ++ (cw 4 b ++ cw 4 c)).drop 4).take (cw 4 b).length = cw 4 b := by
 have h : (cw 4 a).length = 4 := a0a _ _
 rw [List.drop_append_of_le_length (by omega), List.drop_of_length_le (by omega), List.nil_append, List.take_left]
theorem f0g (a b c : Nat) : ((cw 4 a ++ (cw 4 b ++ cw 4 c)).drop 8).take (cw 4 c).length = cw 4 c := by
 have h : (cw 4 a ++ cw 4 b).length = 8 := by rw [List.length_append, a0a, a0a]
 rw [← List.append_assoc, List.drop_append_of_le_length (by omega), List.drop_of_length_le (by omega), List.nil_append, List.take_of_length_le (Nat.le_refl _)]
theorem a0Z (a b c : Nat) : ∀ v ∈ cw 4 a ++ (cw 4 b ++ cw 4 c), v.oneCell' = true := by
 intro v hv
 simp only [List.mem_append] at hv
 rcases hv with h | h | h <;> exact a0i _ _ v h
theorem e0p (a b c : Nat) : Tryz.prog.built 78 [(0, i4 a), (1, i4 b), (2, i4 c)] = some (cw 4 a ++ (cw 4 b ++ cw 4 c)).toArray := by kernel_rfl
theorem q0V (a b : Nat) : Tryz.prog.built 78 [(0, i4 a), (1, i4 b)] = some (cw 4 a ++ (cw 4 b ++ cw 4 0)).toArray := by kernel_rfl
attribute [local irreducible] a0J lw mix cw b0t b0G b0q a0P a0u beN laid b0o b0H a0M a0V elN mdL b0R
theorem c0Q (m : Md) (hok : m.Ok) (x y z : Nat) (b : Bool) (hb : (z % m.M == 0) = b) (w : World) :
  Calls Tryz.prog 74 #[ptV m x y z] w fun e w' => e = .returned (.bool b) ∧ Fr Nob w w' := by
 have HOK := qH hok
 have HB := qH hb
 clear hok hb
 unfold ptV ptL
 have st0 := St.start Nob w
 go_enter Tryz.func74, Tryz.ntmps74
 go_wp2_with (with_reducible refine wSk 1 ?_)
 refine a0m st0 rfl rfl rfl (cw 4 (elN m x) ++ (cw 4 (elN m y) ++ cw 4 (elN m z))) rfl ?_
 intro g1 w1 st1
 clear st0
 go_wp2_with (with_reducible refine wSk 4 ?_)
 refine b0E rfl rfl Tryz.underlying59 rfl (st1.at 0 rfl) (cw 4 (elN m z)) (f0g _ _ _) (by first | (rw [a0a]; kernel_rfl) | (simp only [List.length_append, a0a]; kernel_rfl)) ?_
 go_wp2_with fail
 refine (c0X m HOK.out z b HB.out _).mono ?_
 rintro e' w2 ⟨rfl, hf2⟩
 have st2 := st1.keep hf2
 clear st1 hf2
 have hfr := st2.fr
 clear st2
 go_wp2_with fail
 go_ret
 exact ⟨rfl, hfr⟩
theorem k0N (m : Md) (gc gp bx by_ : Nat) (w : World) (hok : m.Ok) (hcv : Has w gc (e0A m gp bx by_) 86) (hpm : Has w gp (mdL m) 115) (x y z : Nat) :
  Calls Tryz.prog 100 #[.pointer (some ⟨gc, 0, none⟩), ptV m x y z] w fun e w' => e = .returned (ptV m x (m.M - y % m.M) z) ∧ Fr Nob w w' := by
 have HOK := qH hok
 have HCV := qH hcv
 have HPM := qH hpm
 clear hok hcv hpm
 unfold ptV ptL
 have st0 := St.start Nob w
 go_enter Tryz.func100, Tryz.ntmps100
 go_wp2_with (with_reducible refine wSk 3 ?_)
 refine a0m st0 rfl rfl rfl (cw 4 (elN m x) ++ (cw 4 (elN m y) ++ cw 4 (elN m z))) rfl ?_
 intro g3 w1 st1
 clear st0
 go_wp2_with (with_reducible refine wSk 4 ?_)
 refine a0b st1 rfl rfl (z := zAc) (by kernel_rfl) (cw 12 0) (by rw [a0f]; rfl) ?_
 intro g4 w2 st2
 clear st1
 go_wp2_with fail
 refine wp_region_noPanic ?_
 refine a0p (fun wx => St Nob w wx [(g3, cw 4 (elN m x) ++ (cw 4 (elN m y) ++ cw 4 (elN m z)), 78), (g4, cw 12 0, 78)]) 12 (.w 0 (.t 1 (.w 2 (.w 3 (.w 4 (.t 5 (.w 6 (.t 7 (.w 9 (.t 10 (.r 8 (.w 11 (.m 12 .nil))))))))))))) (by kernel_rfl) (by kernel_rfl) st2.drew (fun _ _ _ _ _ h => h) ?_
 have hd2 := st2.drew
 clear st2
 refine a0l (v := ?_) rfl rfl (fun wx => ?_) ?_
 rotate_left 1
 ·(go_simp; with_reducible rfl)
 try simp only [clL]
 refine a0s rfl rfl rfl rfl (cw 4 (elN m x)) (fun wx hS => St.rangeL hS 0 rfl 0 _ (j0M _ _ _)) Tryz.underlying59 rfl (by first | (rw [a0a]; kernel_rfl) | (simp only [List.length_append, a0a]; kernel_rfl)) ?_
 try simp only [clL]
 refine a0l (v := ?_) rfl rfl (fun wx => ?_) ?_
 rotate_left 1
 ·(go_simp; with_reducible rfl)
 try simp only [clL]
 refine a0l (v := ?_) rfl rfl (fun wx => ?_) ?_
 rotate_left 1
 ·(go_simp; with_reducible rfl)
 try simp only [clL]
 refine a0l (v := ?_) rfl rfl (fun wx => ?_) ?_
 rotate_left 1
 ·(go_simp; with_reducible rfl)
 try simp only [clL]
 refine d0i (v := ?_) rfl rfl (fun wx hS => ?_) ?_
 rotate_left 1
 ·(have hc := (HCV.out.keep (St.fr hS) id).cell (i := 0) rfl; clear hS; go_simp; with_reducible rfl)
 try simp only [clL]
 refine a0l (v := ?_) rfl rfl (fun wx => ?_) ?_
 rotate_left 1
 ·(go_simp; with_reducible rfl)
 try simp only [clL]
 refine a0s rfl rfl rfl rfl (cw 4 (elN m y)) (fun wx hS => St.rangeL hS 0 rfl 4 _ (l0A _ _ _)) Tryz.underlying59 rfl (by first | (rw [a0a]; kernel_rfl) | (simp only [List.length_append, a0a]; kernel_rfl)) ?_
 try simp only [clL]
 refine a0l (v := ?_) rfl rfl (fun wx => ?_) ?_
 rotate_left 1
 ·(go_simp; with_reducible rfl)
 try simp only [clL]
 refine a0s rfl rfl rfl rfl (cw 4 (elN m z)) (fun wx hS => St.rangeL hS 0 rfl 8 _ (f0g _ _ _)) Tryz.underlying59 rfl (by first | (rw [a0a]; kernel_rfl) | (simp only [List.length_append, a0a]; kernel_rfl)) ?_
 try simp only [clL]
 refine a0A rfl rfl ?_
 go_simp
 refine (n0b m gp _ HOK.out (HPM.out.keep hd2.fr id) y).mono ?_
 rintro e' w3 ⟨rfl, hf3⟩
 have st3 := hd2.keep hf3
 clear hf3
 clear hd2
 refine ⟨st3, ?_⟩
 try simp only [clL]
 refine a0l rfl rfl (b0z rfl _ (e0p _ _ _)) ?_
 try simp only [clL]
 refine a0r rfl rfl ?_
 refine a0j st3 1 rfl rfl rfl rfl (by first | (simp only [a0a]; done) | (simp only [List.length_append, a0a]; done)) (by first | (rw [a0a]; kernel_rfl) | (simp only [List.length_append, a0a]; kernel_rfl)) (a0Z _ _ _) ?_
 intro w4 st4
 clear st3
 try simp only [Act.put]
 refine a0k ?_
 refine NoPanic.normal ?_
 have hr := st4.at 1 rfl
 have hfr := st4.fr
 clear st4
 go_wp2_with fail
 exact bodyPost_ret (a0F rfl rfl hr Tryz.underlying78 rfl (by first | (rw [a0a]; kernel_rfl) | (simp only [List.length_append, a0a]; kernel_rfl))) rfl ⟨rfl, hfr⟩
end Go.Proofs.YtemcankmggmgoaaGreatDoor
namespace Go.Mv
open Go.RowKit
end Go.Mv
namespace Go.Mv
open Go.RowKit
abbrev Blk := Nat × List Value × TypeId
def upd (x : Nat → Value) (i : Nat) (v : Value) : Nat → Value := fun k => if k = i then v else x k
theorem j0p (x : Nat → Value) (i : Nat) (v : Value) : upd x i v i = v := if_pos rfl
theorem f0h (x : Nat → Value) (i k : Nat) (v : Value) (h : (k == i) = false) : upd x i v k = x k := if_neg (by simpa using h)
theorem St.perm {S : Nat → Prop} {w0 w : World} {bl bl' : List Blk} (h : St S w0 w bl) (p : bl'.Perm bl) : St S w0 w bl' :=
 ⟨h.fr, fun x hx => h.own x (p.subset hx), fun x hx => h.has x (p.subset hx), (List.Perm.pairwise_iff (fun {_ _} e => Ne.symm e) p).2 h.ne⟩
inductive LS where
 | w (i : Nat)
 | t (i : Nat)
 | c (i : Nat)
 | o (i : Nat)
 | j (i : Nat)
def m0h : List LS → Nat
 | [] => 0
 | .j _ :: s => m0h s
 | _ :: s => m0h s + 1
section
variable {P : Program} {ops : Array Oper} {md : Region.Mode} {Q : Exit → Act → World → Prop} {Sx : World → Prop} {m : Nat} {S : Nat → Prop} {w0 : World} {tl : Pl}
def Mk (P : Program) (e : Sem Next) (v : Nat → Value) (L : List Value) (T : TypeId) : Prop :=
 ∀ w, ∃ g w', e.run P w = .ok (.value (v g)) w' ∧ Fr Nob w w' ∧ w.heap.size ≤ g ∧ Has w' g L T
abbrev Flt := Nat × (Nat → Value) × List Value × TypeId
def Lad (P : Program) (ops : Array Oper) (Q : Exit → Act → World → Prop) (Sx : World → Prop) (S : Nat → Prop) (w0 : World) (tl : Pl) : List LS → List Flt → List Blk → (World → Prop) → ((Nat → Value) → Act) → Prop
 | [], _, BL, R, A => ∀ x w, St S w0 w BL → R w → b0p P ops Q Sx tl (A x) w
 | .w i :: s, Γ, BL, R, A => ∃ o v, ops[i]? = some o ∧ (∀ x, YieldsIf P ops (fun _ => True) o v (A x)) ∧ Lad P ops Q Sx S w0 tl s Γ BL R (fun x => (A x).put o.dst v)
 | .t i :: s, Γ, BL, R, A => ∃ o v, ops[i]? = some o ∧ (∀ x, YieldsIf P ops Sx o v (A x)) ∧ Lad P ops Q Sx S w0 tl s Γ BL R (fun x => (A x).put o.dst v)
 | .c i :: s, Γ, BL, R, A => ∃ o, ops[i]? = some o ∧ o.guard = none ∧ ∃ (X : Type) (v : X → Value) (R' : X → World → Prop), (∀ y w w', R' y w → Fr Nob w w' → R' y w') ∧
   (∀ x w, St S w0 w BL → R w → o.wp P (A x) w (fun a' w' => ∃ y, a' = (A x).put o.dst (v y) ∧ Fr Nob w w' ∧ R' y w') Q) ∧ ∀ y, Lad P ops Q Sx S w0 tl s Γ BL (fun w => R w ∧ R' y w) (fun x => (A x).put o.dst (v y))
 | .o i :: s, Γ, BL, R, A => ∃ o e v L T, ops[i]? = some o ∧ o.guard = none ∧ (∀ x, execOp (A x).eval o = e) ∧ Mk P e v L T ∧ Lad P ops Q Sx S w0 tl s ((i, v, L, T) :: Γ) BL R (fun x => (A x).put o.dst (x i))
 | .j i :: s, Γ, BL, R, A => ∃ v L T, (i, v, L, T) ∈ Γ ∧ ∀ g, Lad P ops Q Sx S w0 tl s (Γ.filter (·.1 != i)) (BL ++ [(g, L, T)]) R (fun x => A (upd x i (v g)))
def t0p : List Nat → List (List Nat)
 | [] => [[]]
 | a :: l => t0p l ++ (t0p l).map (a :: ·)
theorem c0s (p : Nat → Bool) : ∀ l : List Nat, l.filter p ∈ t0p l
 | [] => by simp [t0p]
 | a :: l => by
  rw [t0p, List.filter_cons]
  split
  ·exact List.mem_append_right _ (List.mem_map.2 ⟨_, c0s p l, rfl⟩)
  ·exact List.mem_append_left _ (c0s p l)
def d0W (listed : Array Bool) (B : List Nat) : Array Bool := listed.mapIdx fun k b => b || B.contains k
theorem b0v (listed : Array Bool) (B : List Nat) : (d0W listed B).size = listed.size := by simp [d0W]
theorem c0z (listed : Array Bool) (B : List Nat) (k : Nat) (hk : k < listed.size) (d : Bool) : (d0W listed B).getD k d = (listed.getD k d || B.contains k) := by
 simp [d0W, hk]
theorem f0B {a b : Array Bool} (hs : a.size = b.size) (h : ∀ k, k < a.size → a.getD k true = b.getD k true) : a = b := by
 refine Array.ext hs fun k h1 h2 => ?_
 have := h k h1
 simpa [h1, h2] using this
theorem j0q (listed : Array Bool) (B : List Nat) (i : Nat) : (d0W listed B).setIfInBounds i true = d0W (listed.setIfInBounds i true) B := by
 refine f0B (by simp [b0v]) fun k hk => ?_
 have hk' : k < listed.size := by simpa [b0v] using hk
 rw [c0z _ _ _ (by simpa using hk')]
 by_cases e : i = k
 ·subst e; rw [b0u (by rw [b0v]; exact hk'), b0u hk']; rfl
 ·rw [getD_set_ne true e, getD_set_ne true e, c0z _ _ _ hk']
theorem q0W (listed : Array Bool) (B : List Nat) (i : Nat) : (d0W listed B).setIfInBounds i true = d0W listed (B ++ [i]) := by
 refine f0B (by simp [b0v]) fun k hk => ?_
 have hk' : k < listed.size := by simpa [b0v] using hk
 rw [c0z _ _ _ hk']
 by_cases e : i = k
 ·subst e; rw [b0u (by rw [b0v]; exact hk')]; simp
 ·rw [getD_set_ne true e, c0z _ _ _ hk']
  have : (k == i) = false := by simpa using fun h => e h.symm
  rw [List.contains_append, List.contains_cons, this]
  simp
theorem q0X (listed : Array Bool) (B C : List Nat) (h : ∀ k, B.contains k = C.contains k) : d0W listed B = d0W listed C := by
 unfold d0W
 congr 1
 funext k b
 rw [h k]
def cOk (md : Region.Mode) (ops : Array Oper) (i : Nat) (opn : List Nat) (listed : Array Bool) (B : List Nat) : Bool :=
 (Region.ready md ops (d0W listed B)).contains i && (Region.ready md ops (d0W listed B)).all fun k => k == i || (opn.contains k && !B.contains k)
def o0O (ops : Array Oper) (i : Nat) (opn : List Nat) : Bool := opn.all fun k => match ops[i]?, ops[k]? with | some a, some b => a.apart ops b | _, _ => false
def u0T (ops : Array Oper) (i : Nat) : Bool := match ops[i]? with | some o => (match o.dst with | some d => !(o.looksAt ops).contains d | none => true) | none => false
def f0i (md : Region.Mode) (ops : Array Oper) (m : Nat) (tl : Pl) : List LS → List Nat → Array Bool → Bool
 | [], opn, listed => opn.isEmpty && b0I md ops m tl listed
 | .w i :: s, opn, listed => decide (i ≠ m) && o0O ops i opn && ((t0p opn).all fun B => (Region.ready md ops (d0W listed B)).contains i && Region.free md ops (d0W listed B) i) && f0i md ops m tl s opn (listed.setIfInBounds i true)
 | .t i :: s, opn, listed => decide (i ≠ m) && decide (listed.getD m true = false) && o0O ops i opn && x0F md ops m ops.size i && ((t0p opn).all fun B => (Region.ready md ops (d0W listed B)).contains i && Region.free md ops (d0W listed B) i) && f0i md ops m tl s opn (listed.setIfInBounds i true)
 | .c i :: s, opn, listed => decide (i ≠ m) && decide (listed.getD m true = false) && !opn.contains i && o0O ops i opn && ((t0p opn).all fun B => cOk md ops i opn listed B) && f0i md ops m tl s opn (listed.setIfInBounds i true)
 | .o i :: s, opn, listed => decide (i ≠ m) && decide (listed.getD m true = false) && !opn.contains i && o0O ops i opn && u0T ops i && f0i md ops m tl s (i :: opn) listed
 | .j i :: s, opn, listed => opn.contains i && decide (listed.getD m true = false) && !opn.contains m && ((t0p (opn.filter (· != i))).all fun B => cOk md ops i opn listed B) && f0i md ops m tl s (opn.filter (· != i)) (listed.setIfInBounds i true)
theorem n0z (a : Act) (d e : Option Tmp) (u v : Value) (h : e ≠ d ∨ e = none) : (a.put e u).put d v = (a.put d v).put e u := by
 cases d <;> cases e <;> simp only [Act.put]
 ·rename_i x y
  have hn : y ≠ x := fun k => by subst k; rcases h with h | h; exact h rfl; cases h
  rw [Array.setIfInBounds_comm _ _ hn]
theorem q0Y (a : Act) (d : Option Tmp) (u v : Value) : (a.put d u).put d v = a.put d v := by
 cases d <;> simp [Act.put]
theorem t0q (a : Act) (d : Option Tmp) : ∃ u, a.put d u = a := by
 cases d with
 | none => exact ⟨undef, rfl⟩
 | some d =>
  refine ⟨a.tmps.getD d undef, ?_⟩
  simp only [Act.put]
  have : a.tmps.setIfInBounds d (a.tmps.getD d undef) = a.tmps := by
   refine Array.ext (by simp) fun k h1 h2 => ?_
   rw [Array.getElem_setIfInBounds (by simpa using h1)]
   split
   ·rename_i e; subst e; simp [h2]
   ·rfl
  rw [this]
theorem t0r (x : Nat → Value) (i : Nat) : upd x i (x i) = x := by
 funext k
 unfold upd
 split
 ·rename_i e; rw [e]
 ·rfl
theorem n0A {i : Nat} {opn : List Nat} {o : Oper} (h : o0O ops i opn = true) (ho : ops[i]? = some o) {k : Nat} {ok : Oper} (hk : k ∈ opn) (hok : ops[k]? = some ok) : o.apart ops ok = true := by
 have := List.all_eq_true.1 h k hk
 simp only [ho, hok] at this
 exact this
theorem u0U {o ok : Oper} (h : o.apart ops ok = true) : o.dst ≠ ok.dst ∨ o.dst = none := by
 obtain ⟨-, h2, -⟩ := Oper.apart_spec h
 cases hd : o.dst with
 | none => exact .inr rfl
 | some d => exact .inl fun e => h2 d hd e.symm
theorem x0Y {o : Oper} {e : Sem Next} {v : Nat → Value} {L : List Value} {T : TypeId} (ha : Mk P e v L T) {BL : List Blk} {a : Act} {w : World} {K : Act → World → Prop} (he : execOp a.eval o = e) (hst : St S w0 w BL)
  (h : ∀ g w', St S w0 w' (BL ++ [(g, L, T)]) → Fr Nob w w' → K (a.put o.dst (v g)) w') : o.wp P a w K Q := by
 obtain ⟨g, w', hr, hf, hle, hg⟩ := ha w
 unfold Oper.wp
 rw [he, hr]
 exact h g w' (hst.new hf hg hle) hf
structure Fls (P : Program) (ops : Array Oper) (Γ : List Flt) (A : (Nat → Value) → Act) : Prop where
 nd : (Γ.map Prod.fst).Nodup
 ok : ∀ q ∈ Γ, ∃ o e, ops[q.1]? = some o ∧ o.guard = none ∧ (∀ x, execOp (A x).eval o = e) ∧ Mk P e q.2.1 q.2.2.1 q.2.2.2
 put : ∀ k ∈ Γ.map Prod.fst, ∀ o, ops[k]? = some o → ∀ x v, (A x).put o.dst v = A (upd x k v)
 not : ∀ k, k ∉ Γ.map Prod.fst → ∀ x v, A (upd x k v) = A x
theorem Fls.step {Γ : List Flt} {A : (Nat → Value) → Act} (h : Fls P ops Γ A) (hsel : Region.noSelect ops = true) {i : Nat} {o : Oper} (ho : ops[i]? = some o) (hd : o0O ops i (Γ.map Prod.fst) = true) (v : Value) : Fls P ops Γ (fun x => (A x).put o.dst v) := by
 refine ⟨h.nd, fun q hq => ?_, fun k hk ok hok x u => ?_, fun k hk x u => by rw [h.not k hk]⟩
 ·obtain ⟨o2, e, h1, h2, h3, h4⟩ := h.ok q hq
  have hap := n0A hd ho (List.mem_map_of_mem hq) h1
  refine ⟨o2, e, h1, h2, fun x => ?_, h4⟩
  rw [execOp_put (ops := ops) o2 (fun cs b => Region.noSelect_spec hsel q.1 o2 cs b h1) (A x) o.dst v (Oper.apart_spec hap).1]
  exact h3 x
 ·rw [n0z _ _ _ _ _ (u0U (n0A hd ho hk hok)), h.put k hk ok hok]
theorem o0P {Γ : List Flt} (h : (Γ.map Prod.fst).Nodup) {a b : Flt} (ha : a ∈ Γ) (hb : b ∈ Γ) (he : a.1 = b.1) : a = b := by
 induction Γ with
 | nil => cases ha
 | cons c l ih =>
  rw [List.map_cons, List.nodup_cons] at h
  rcases List.mem_cons.1 ha with ha1 | ha1
  ·rcases List.mem_cons.1 hb with hb1 | hb1
   ·rw [ha1, hb1]
   ·exact absurd (by rw [← ha1, he]; exact List.mem_map_of_mem hb1) h.1
  ·rcases List.mem_cons.1 hb with hb1 | hb1
   ·exact absurd (by rw [← hb1, ← he]; exact List.mem_map_of_mem ha1) h.1
   ·exact ih h.2 ha1 hb1
theorem f0C (Γ : List Flt) (i : Nat) : (Γ.filter (·.1 != i)).map Prod.fst = (Γ.map Prod.fst).filter (· != i) := by
 induction Γ with
 | nil => rfl
 | cons a l ih =>
  simp only [List.filter_cons, List.map_cons]
  split <;> simp [ih]
theorem q0Z {l : List Nat} (h : l.Nodup) (p : Nat → Bool) : (l.filter p).Nodup := List.Pairwise.filter p h
theorem i0q {l : List Nat} (h : l.Nodup) {i : Nat} (hi : i ∈ l) : (l.filter (· != i)).length + 1 = l.length := by
 induction l with
 | nil => cases hi
 | cons a l ih =>
  rw [List.nodup_cons] at h
  rw [List.filter_cons]
  by_cases e : a = i
  ·subst e
   rw [if_neg (by simp)]
   have : l.filter (· != a) = l := List.filter_eq_self.2 fun b hb => by
    simp only [bne_iff_ne, ne_eq]
    exact fun e => h.1 (e ▸ hb)
   rw [this]; rfl
  ·rw [if_pos (by simpa using e)]
   rcases List.mem_cons.1 hi with rfl | hi
   ·exact absurd rfl e
   ·simp [← ih h.2 hi]
theorem o0Q (hsel : Region.noSelect ops = true) (hm : m < ops.size) (hQ : ∀ c (d : Option Tmp) v a w, Q (.panic c) (Act.put a d v) w → Q (.panic c) a w) :
  ∀ (N f : Nat) (s : List LS) (Γ : List Flt) (listed : Array Bool) (D : List (Nat × Value × Blk)) (x : Nat → Value) (w : World) (BL : List Blk) (R : World → Prop) (A : (Nat → Value) → Act),
   f + s.length ≤ N → f + D.length = m0h s + Γ.length + tl.len → listed.size = ops.size → m ∉ Γ.map Prod.fst → (D.map Prod.fst).Nodup → Cl md ops (d0W listed (D.map Prod.fst)) →
   f0i md ops m tl s (Γ.map Prod.fst) listed = true → (∀ d ∈ D, x d.1 = d.2.1) → Fls P ops Γ A → (∀ d ∈ D, ∃ v, (d.1, v, d.2.2.2.1, d.2.2.2.2) ∈ Γ ∧ d.2.1 = v d.2.2.1) →
   St S w0 w (BL ++ D.map fun d => d.2.2) → R w → (∀ w w', R w → Fr Nob w w' → R w') → (∀ w', St S w0 w' BL → Sx w') →
   Lad P ops Q Sx S w0 tl s Γ BL R A → wpP P md ops Q Sx m f (d0W listed (D.map Prod.fst)) (A x) w := by
 intro N
 induction N with
 | zero =>
  intro f s Γ listed D x w BL R A hN hf hsz hmo hDn inv hok hx hfl hDinf hst hR hRm hSx hlad
  obtain rfl : f = 0 := by omega
  obtain rfl : s = [] := by cases s with | nil => rfl | cons _ _ => simp at hN
  simp only [f0i, Bool.and_eq_true, List.isEmpty_iff, List.map_eq_nil_iff] at hok
  obtain ⟨rfl, hpl⟩ := hok
  obtain rfl : D = [] := by cases D with | nil => rfl | cons d _ => obtain ⟨_, h, _⟩ := hDinf d (by simp); cases h
  have hmk : d0W listed (List.map Prod.fst ([] : List (Nat × Value × Blk))) = listed := by
   refine f0B (b0v _ _) fun k hk => ?_
   rw [c0z _ _ _ (by simpa [b0v] using hk)]; simp
  rw [hmk] at inv ⊢
  have hst' : St S w0 w BL := by simpa using hst
  have hc : (0 : Nat) = tl.len := by simpa [m0h] using hf
  have := b0h (md := md) hsel hm hQ tl listed (A x) w inv hpl (fun _ => hSx w hst') (hlad x w hst' hR)
  rwa [← hc] at this
 | succ N ih =>
  intro f s Γ listed D x w BL R A hN hf hsz hmo hDn inv hok hx hfl hDinf hst hR hRm hSx hlad
  have hstB : St S w0 w BL := hst.less (List.sublist_append_left _ _)
  have hDo : ∀ d ∈ D, d.1 ∈ Γ.map Prod.fst := fun d hd => by
   obtain ⟨v, h, _⟩ := hDinf d hd
   exact List.mem_map_of_mem (f := Prod.fst) h
  have hDsub : D.map Prod.fst ⊆ Γ.map Prod.fst := fun a ha => by obtain ⟨d, hd, e⟩ := List.mem_map.1 ha; exact e ▸ hDo d hd
  have hDle : D.length ≤ Γ.length := by
   have := List.Nodup.length_le_of_subset hDn hDsub
   simpa using this
  have hml (h : listed.getD m true = false) : (d0W listed (D.map Prod.fst)).getD m true = false := by
   rw [c0z _ _ _ (by rw [hsz]; exact hm), h]
   simp only [Bool.false_or]
   cases hb : (D.map Prod.fst).contains m with
   | false => rfl
   | true => exact absurd (hDsub (List.contains_iff_mem.1 hb)) hmo
  have hmB : ∀ opn' : List Nat, (∀ d ∈ D, d.1 ∈ opn') → (d0W listed (D.map Prod.fst)) = d0W listed (opn'.filter fun k => (D.map Prod.fst).contains k) := by
   intro opn' hD'
   refine q0X _ _ _ fun k => ?_
   rw [Bool.eq_iff_iff]
   simp only [List.mem_filter, List.elem_eq_mem, decide_eq_true_eq]
   constructor
   ·intro h
    obtain ⟨d, hd, e⟩ := List.mem_map.1 h
    exact ⟨e ▸ hD' d hd, by simpa using h⟩
   ·intro h; simpa using h.2
  have float : ∀ k, f ≠ 0 → k ∈ Γ.map Prod.fst → k ∉ D.map Prod.fst → k ∈ Region.ready md ops (d0W listed (D.map Prod.fst)) →
    wpOp P ops Q k (fun a' w' => ((d0W listed (D.map Prod.fst)).getD m true = false → k ≠ m → Sx w') ∧ wpP P md ops Q Sx m (f - 1) ((d0W listed (D.map Prod.fst)).setIfInBounds k true) a' w') (A x) w := by
   intro k hf0 hko hkD hkr
   obtain ⟨⟨k2, v, L, T⟩, hq, rfl⟩ := List.mem_map.1 hko
   obtain ⟨o, e, ho, hg, he, hmk⟩ := hfl.ok _ hq
   refine c0O ho hg (x0Y hmk (he x) hst fun g w' hst' hfr => ?_)
   have hstB' : St S w0 w' BL := hst'.less (by rw [List.append_assoc]; exact List.sublist_append_left _ _)
   refine ⟨fun _ _ => hSx w' hstB', ?_⟩
   rw [hfl.put k2 hko o ho]
   have e1 : (d0W listed (D.map Prod.fst)).setIfInBounds k2 true = d0W listed ((D ++ [(k2, v g, (g, L, T))]).map Prod.fst) := by
    rw [q0W]; simp
   have inv' := inv.set hkr
   rw [e1] at inv' ⊢
   refine ih (f - 1) s Γ listed (D ++ [(k2, v g, (g, L, T))]) (upd x k2 (v g)) w' BL R A (by omega) (by simp; omega) hsz hmo ?_ inv' hok ?_ hfl ?_ ?_ (hRm w w' hR hfr) hRm hSx hlad
   ·rw [List.map_append, List.nodup_append]
    refine ⟨hDn, by simp, fun a ha b hb => ?_⟩
    simp only [List.map_cons, List.map_nil, List.mem_singleton] at hb
    subst hb
    exact fun h => hkD (h ▸ ha)
   ·intro d hd
    rcases List.mem_append.1 hd with h | h
    ·have hne : d.1 ≠ k2 := fun h2 => hkD (h2 ▸ List.mem_map_of_mem h)
     rw [f0h _ _ _ _ (by simpa using hne)]
     exact hx d h
    ·simp only [List.mem_singleton] at h; subst h; exact j0p _ _ _
   ·intro d hd
    rcases List.mem_append.1 hd with h | h
    ·exact hDinf d h
    ·simp only [List.mem_singleton] at h; subst h; exact ⟨v, hq, rfl⟩
   ·simpa using hst'
  cases s with
  | nil =>
   simp only [f0i, Bool.and_eq_true, List.isEmpty_iff, List.map_eq_nil_iff] at hok
   obtain ⟨rfl, hpl⟩ := hok
   obtain rfl : D = [] := by cases D with | nil => rfl | cons d _ => simp at hDle
   have hmk : d0W listed (List.map Prod.fst ([] : List (Nat × Value × Blk))) = listed := by
    refine f0B (b0v _ _) fun k hk => ?_
    rw [c0z _ _ _ (by simpa [b0v] using hk)]; simp
   rw [hmk] at inv ⊢
   have hc : f = tl.len := by simpa [m0h] using hf
   have := b0h (md := md) hsel hm hQ tl listed (A x) w inv hpl (fun _ => hSx w hstB) (hlad x w hstB hR)
   rwa [← hc] at this
  | cons q s =>
   cases q with
   | w i =>
    obtain ⟨o, v, ho, hy, hK⟩ := hlad
    simp only [f0i, Bool.and_eq_true, decide_eq_true_eq] at hok
    obtain ⟨⟨⟨him, hdn⟩, hall⟩, hok'⟩ := hok
    have hB := List.all_eq_true.1 hall _ (c0s (fun k => (D.map Prod.fst).contains k) (Γ.map Prod.fst))
    rw [← hmB _ hDo, Bool.and_eq_true] at hB
    have hr' : i ∈ Region.ready md ops (d0W listed (D.map Prod.fst)) := by simpa using hB.1
    obtain ⟨f', rfl⟩ : ∃ f', f = f' + 1 := ⟨f - 1, by simp [m0h] at hf; omega⟩
    refine g0K ho (Region.noSelect_spec hsel) (fun c a w => hQ c o.dst v a w) him hm f' _ (A x) w inv (Region.free_spec ho hB.2) hr' (hy x) (fun _ => hSx w hstB) ?_
    have inv' := inv.set hr'
    rw [j0q] at inv' ⊢
    exact ih f' s Γ (listed.setIfInBounds i true) D x w BL R (fun x => (A x).put o.dst v) (by simp at hN; omega) (by simp [m0h] at hf; omega) (by simpa using hsz) hmo hDn inv' hok' hx (hfl.step hsel ho hdn v) hDinf hst hR hRm hSx hK
   | t i =>
    obtain ⟨o, v, ho, hy, hK⟩ := hlad
    simp only [f0i, Bool.and_eq_true, decide_eq_true_eq] at hok
    obtain ⟨⟨⟨⟨⟨him, hlm⟩, hdn⟩, han⟩, hall⟩, hok'⟩ := hok
    have hB := List.all_eq_true.1 hall _ (c0s (fun k => (D.map Prod.fst).contains k) (Γ.map Prod.fst))
    rw [← hmB _ hDo, Bool.and_eq_true] at hB
    have hr' : i ∈ Region.ready md ops (d0W listed (D.map Prod.fst)) := by simpa using hB.1
    obtain ⟨f', rfl⟩ : ∃ f', f = f' + 1 := ⟨f - 1, by simp [m0h] at hf; omega⟩
    refine g0L ho (Region.noSelect_spec hsel) (fun c a w => hQ c o.dst v a w) him han f' _ (A x) w inv (hml hlm) (Region.free_spec ho hB.2) hr' (hy x) (hSx w hstB) ?_
    have inv' := inv.set hr'
    rw [j0q] at inv' ⊢
    exact ih f' s Γ (listed.setIfInBounds i true) D x w BL R (fun x => (A x).put o.dst v) (by simp at hN; omega) (by simp [m0h] at hf; omega) (by simpa using hsz) hmo hDn inv' hok' hx (hfl.step hsel ho hdn v) hDinf hst hR hRm hSx hK
   | c i =>
    obtain ⟨o, ho, hg, X, v, R', hmono, hc, hK⟩ := hlad
    simp only [f0i, Bool.and_eq_true, decide_eq_true_eq, Bool.not_eq_true'] at hok
    obtain ⟨⟨⟨⟨⟨him, hlm⟩, hio⟩, hdn⟩, hall⟩, hok'⟩ := hok
    have hB := List.all_eq_true.1 hall _ (c0s (fun k => (D.map Prod.fst).contains k) (Γ.map Prod.fst))
    unfold cOk at hB
    rw [← hmB _ hDo, Bool.and_eq_true] at hB
    have hr' : i ∈ Region.ready md ops (d0W listed (D.map Prod.fst)) := by simpa using hB.1
    obtain ⟨f', rfl⟩ : ∃ f', f = f' + 1 := ⟨f - 1, by simp [m0h] at hf; omega⟩
    refine ⟨fun h0 => (by rw [h0] at hr'; cases hr'), fun j hj => ?_⟩
    have hcase := List.all_eq_true.1 hB.2 j hj
    simp only [Bool.or_eq_true, beq_iff_eq, Bool.and_eq_true, Bool.not_eq_true'] at hcase
    rcases hcase with rfl | ⟨h1, h2⟩
    ·refine c0O ho hg (Oper.wp_mono (fun a' w' h' => ?_) (hc x w hstB hR))
     obtain ⟨y, rfl, hfr, hRy⟩ := h'
     refine ⟨fun _ _ => hSx w' (hstB.keep hfr), ?_⟩
     have inv' := inv.set hr'
     rw [j0q] at inv' ⊢
     exact ih f' s Γ (listed.setIfInBounds j true) D x w' BL (fun w => R w ∧ R' y w) (fun x => (A x).put o.dst (v y)) (by simp at hN; omega) (by simp [m0h] at hf; omega) (by simpa using hsz) hmo hDn inv' hok' hx (hfl.step hsel ho hdn (v y)) hDinf (hst.keep hfr) ⟨hRm w w' hR hfr, hRy⟩ (fun a b h k => ⟨hRm a b h.1 k, hmono y a b h.2 k⟩) hSx (hK y)
    ·have h3 : j ∉ D.map Prod.fst := by
      intro h4
      have : ((Γ.map Prod.fst).filter fun k => (D.map Prod.fst).contains k).contains j = true := by
       simp only [List.contains_iff_mem, List.mem_filter]
       exact ⟨by simpa using h1, by simpa using h4⟩
      rw [this] at h2; cases h2
     exact float j (by omega) (by simpa using h1) h3 hj
   | o i =>
    obtain ⟨o, e, v, L, T, ho, hg, he, hmk, hK⟩ := hlad
    simp only [f0i, Bool.and_eq_true, decide_eq_true_eq, Bool.not_eq_true'] at hok
    obtain ⟨⟨⟨⟨⟨him, hlm⟩, hio⟩, hdn⟩, hself⟩, hok'⟩ := hok
    have hio' : i ∉ Γ.map Prod.fst := by simpa using hio
    obtain ⟨u, hu⟩ := t0q (A x) o.dst
    have hAx : A x = (A (upd x i u)).put o.dst (upd x i u i) := by rw [j0p, hfl.not i hio', hu]
    rw [hAx]
    have hs0 : ∀ d, o.dst = some d → d ∉ o.looksAt ops := by
     intro d hd
     unfold u0T at hself
     simp only [ho, hd] at hself
     simpa using hself
    refine ih f s ((i, v, L, T) :: Γ) listed D (upd x i u) w BL R (fun x => (A x).put o.dst (x i)) (by simp at hN; omega) (by simp [m0h] at hf ⊢; omega) hsz ?_ hDn inv hok' ?_ ⟨?_, ?_, ?_, ?_⟩ (fun d hd => by obtain ⟨v, h1, h2⟩ := hDinf d hd; exact ⟨v, List.mem_cons_of_mem _ h1, h2⟩) hst hR hRm hSx hK
    ·simp only [List.map_cons, List.mem_cons, not_or]; exact ⟨fun h => him h.symm, hmo⟩
    ·intro d hd
     have hne : d.1 ≠ i := fun h => hio' (h ▸ hDo d hd)
     rw [f0h _ _ _ _ (by simpa using hne)]
     exact hx d hd
    ·rw [List.map_cons, List.nodup_cons]; exact ⟨hio', hfl.nd⟩
    ·intro q hq
     rcases List.mem_cons.1 hq with rfl | hq
     ·refine ⟨o, e, ho, hg, fun x => ?_, hmk⟩
      show execOp ((A x).put o.dst (x i)).eval o = e
      rw [execOp_put (ops := ops) o (fun cs b => Region.noSelect_spec hsel i o cs b ho) _ _ _ hs0, he]
     ·obtain ⟨o2, e2, h1, h2, h3, h4⟩ := hfl.ok q hq
      have hap := n0A hdn ho (List.mem_map_of_mem hq) h1
      refine ⟨o2, e2, h1, h2, fun x => ?_, h4⟩
      show execOp ((A x).put o.dst (x i)).eval o2 = e2
      rw [execOp_put (ops := ops) o2 (fun cs b => Region.noSelect_spec hsel q.1 o2 cs b h1) _ _ _ (Oper.apart_spec hap).1, h3]
    ·intro k hk ok hok x v
     show ((A x).put o.dst (x i)).put ok.dst v = (A (upd x k v)).put o.dst (upd x k v i)
     rw [List.map_cons] at hk
     rcases List.mem_cons.1 hk with rfl | hk
     ·have : ok = o := Option.some.inj (hok.symm.trans ho)
      subst this
      rw [q0Y, j0p, hfl.not _ hio']
     ·have hne : i ≠ k := fun h => hio' (h ▸ hk)
      rw [n0z _ _ _ _ _ (u0U (n0A hdn ho hk hok)), hfl.put k hk ok hok, f0h _ _ _ _ (by simpa using hne)]
    ·intro k hk x v
     show (A (upd x k v)).put o.dst (upd x k v i) = (A x).put o.dst (x i)
     simp only [List.map_cons, List.mem_cons, not_or] at hk
     rw [hfl.not k hk.2, f0h _ _ _ _ (by simpa using fun h => hk.1 h.symm)]
   | j i =>
    obtain ⟨v, L, T, hq, hK⟩ := hlad
    simp only [f0i, Bool.and_eq_true, decide_eq_true_eq, Bool.not_eq_true'] at hok
    obtain ⟨⟨⟨⟨hio, hlm⟩, hmo2⟩, hall⟩, hok'⟩ := hok
    have hio' : i ∈ Γ.map Prod.fst := by simpa using hio
    by_cases hiD : i ∈ D.map Prod.fst
    ·obtain ⟨d, hd, rfl⟩ := List.mem_map.1 hiD
     obtain ⟨v2, hq2, hv2⟩ := hDinf d hd
     obtain ⟨D1, D2, rfl⟩ := List.append_of_mem hd
     obtain ⟨k, u, g, L2, T2⟩ := d
     have hqe := o0P hfl.nd hq hq2 rfl
     simp only [Prod.mk.injEq, true_and] at hqe
     obtain ⟨rfl, rfl, rfl⟩ := hqe
     have hxd := hx _ hd
     have hDn' : k ∉ D1.map Prod.fst ∧ k ∉ D2.map Prod.fst ∧ ((D1 ++ D2).map Prod.fst).Nodup := by
      have hp : (List.map Prod.fst (D1 ++ (k, u, g, L, T) :: D2)).Perm (k :: List.map Prod.fst (D1 ++ D2)) := by
       rw [List.map_append, List.map_cons, List.map_append]
       exact List.perm_middle
      have := (hp.nodup_iff).1 hDn
      rw [List.nodup_cons] at this
      simp only [List.map_append, List.mem_append, not_or] at this ⊢
      exact ⟨this.1.1, this.1.2, this.2⟩
     have hAx : A x = A (upd x k (v g)) := by
      have h1 : x k = v g := hxd.trans hv2
      rw [← h1, t0r]
     rw [hAx]
     have hmk : d0W listed ((D1 ++ (k, u, g, L, T) :: D2).map Prod.fst) = d0W (listed.setIfInBounds k true) ((D1 ++ D2).map Prod.fst) := by
      refine f0B (by simp [b0v]) fun q hq => ?_
      have hq' : q < listed.size := by simpa [b0v] using hq
      rw [c0z _ _ _ hq', c0z _ _ _ (by simpa using hq')]
      by_cases e : k = q
      ·subst e; rw [b0u hq']; simp
      ·rw [getD_set_ne true e]
       have : (q == k) = false := by simpa using fun h => e h.symm
       simp only [List.map_append, List.map_cons, List.contains_append, List.contains_cons, this, Bool.false_or]
     rw [hmk] at inv ⊢
     have hDk : ∀ d ∈ D1 ++ D2, d ∈ D1 ++ (k, u, g, L, T) :: D2 ∧ d.1 ≠ k := by
      intro d hd'
      refine ⟨?_, fun h => ?_⟩
      ·rcases List.mem_append.1 hd' with h | h
       ·exact List.mem_append_left _ h
       ·exact List.mem_append_right _ (List.mem_cons_of_mem _ h)
      ·rcases List.mem_append.1 hd' with h2 | h2
       ·exact hDn'.1 (h ▸ List.mem_map_of_mem h2)
       ·exact hDn'.2.1 (h ▸ List.mem_map_of_mem h2)
     have hmem : ∀ q ∈ Γ, q.1 ≠ k → q ∈ Γ.filter (·.1 != k) := fun q hq hne => List.mem_filter.2 ⟨hq, by simpa using hne⟩
     refine ih f s (Γ.filter (·.1 != k)) (listed.setIfInBounds k true) (D1 ++ D2) x w (BL ++ [(g, L, T)]) R (fun x => A (upd x k (v g))) (by simp at hN; omega) ?_ (by simpa using hsz) ?_ hDn'.2.2 inv ?_ (fun d hd' => hx d (hDk d hd').1) ⟨?_, ?_, ?_, ?_⟩ ?_ ?_ hR hRm ?_ (hK g)
     ·have h1 := i0q hfl.nd hio'
      rw [← f0C] at h1
      simp only [List.length_map] at h1
      simp [m0h] at hf ⊢
      omega
     ·rw [f0C]; exact fun h => hmo (List.mem_filter.1 h).1
     ·rw [f0C]; exact hok'
     ·rw [f0C]; exact q0Z hfl.nd _
     ·intro q hq
      obtain ⟨o2, e2, h1, h2, h3, h4⟩ := hfl.ok q (List.mem_filter.1 hq).1
      exact ⟨o2, e2, h1, h2, fun x => h3 _, h4⟩
     ·intro q hq oq hoq x y
      show (A (upd x k _)).put oq.dst y = A (upd (upd x q y) k _)
      rw [f0C] at hq
      have hqk : q ≠ k := by simpa using (List.mem_filter.1 hq).2
      rw [hfl.put q (List.mem_filter.1 hq).1 oq hoq]
      congr 1
      funext z
      unfold upd
      by_cases h1 : z = q
      ·subst h1; rw [if_pos rfl, if_neg hqk, if_pos rfl]
      ·rw [if_neg h1]; by_cases h2 : z = k
       ·rw [if_pos h2, if_pos h2]
       ·rw [if_neg h2, if_neg h2, if_neg h1]
     ·intro q hq x y
      show A (upd (upd x q y) k _) = A (upd x k _)
      by_cases hqk : q = k
      ·subst hqk
       congr 1
       funext z
       unfold upd
       by_cases h1 : z = q
       ·rw [if_pos h1, if_pos h1]
       ·rw [if_neg h1, if_neg h1, if_neg h1]
      ·have hq' : q ∉ Γ.map Prod.fst := fun h => hq (by rw [f0C]; exact List.mem_filter.2 ⟨h, by simpa using hqk⟩)
       have : upd (upd x q y) k (v g) = upd (upd x k (v g)) q y := by
        funext z
        unfold upd
        by_cases h1 : z = k
        ·subst h1; rw [if_pos rfl, if_neg (fun h => hqk h.symm), if_pos rfl]
        ·rw [if_neg h1]; by_cases h2 : z = q
         ·rw [if_pos h2, if_pos h2]
         ·rw [if_neg h2, if_neg h2, if_neg h1]
       rw [this, hfl.not q hq']
     ·intro d hd'
      obtain ⟨v', h1, h2⟩ := hDinf d (hDk d hd').1
      exact ⟨v', hmem _ h1 (hDk d hd').2, h2⟩
     ·refine hst.perm ?_
      rw [List.append_assoc]
      refine List.Perm.append_left _ ?_
      rw [List.map_append, List.map_append, List.map_cons]
      exact (List.perm_middle (a := (g, L, T)) (l₁ := List.map (fun d => d.2.2) D1) (l₂ := List.map (fun d => d.2.2) D2)).symm
     ·intro w' h; exact hSx w' (h.less (List.sublist_append_left _ _))
    ·have hDe : ∀ d ∈ D, d.1 ∈ (Γ.map Prod.fst).filter (· != i) := fun d hd => List.mem_filter.2 ⟨hDo d hd, by
      simp only [bne_iff_ne, ne_eq]
      exact fun h => hiD (by rw [← h]; exact List.mem_map_of_mem hd)⟩
     have hB := List.all_eq_true.1 hall _ (c0s (fun k => (D.map Prod.fst).contains k) ((Γ.map Prod.fst).filter (· != i)))
     unfold cOk at hB
     rw [← hmB _ hDe, Bool.and_eq_true] at hB
     have hr' : i ∈ Region.ready md ops (d0W listed (D.map Prod.fst)) := by simpa using hB.1
     obtain ⟨f', rfl⟩ : ∃ f', f = f' + 1 := ⟨f - 1, by
      have h1 := List.Nodup.length_le_of_subset hDn (l₂ := (Γ.map Prod.fst).filter (· != i)) (fun a ha => by obtain ⟨d, hd, e⟩ := List.mem_map.1 ha; exact e ▸ hDe d hd)
      have h2 := i0q hfl.nd hio'
      simp [m0h] at hf h1 h2; omega⟩
     refine ⟨fun h0 => (by rw [h0] at hr'; cases hr'), fun j hj => ?_⟩
     have hcase := List.all_eq_true.1 hB.2 j hj
     simp only [Bool.or_eq_true, beq_iff_eq, Bool.and_eq_true, Bool.not_eq_true'] at hcase
     have hfl2 := float j (by omega)
     simp only [Nat.add_sub_cancel] at hfl2
     rcases hcase with rfl | ⟨h1, h2⟩
     ·exact hfl2 hio' hiD hj
     ·have h1' : j ∈ Γ.map Prod.fst := by simpa using h1
      have h3 : j ∉ D.map Prod.fst := by
       intro h4
       have h5 : j ∈ (Γ.map Prod.fst).filter (· != i) := by
        obtain ⟨d, hd, e⟩ := List.mem_map.1 h4
        exact e ▸ hDe d hd
       have : (((Γ.map Prod.fst).filter (· != i)).filter fun k => (D.map Prod.fst).contains k).contains j = true := by
        simp only [List.contains_iff_mem, List.mem_filter]
        exact ⟨by simpa using h5, by simpa using h4⟩
       rw [this] at h2; cases h2
      exact hfl2 h1' h3 hj
def u0V (ops : Array Oper) (m : Nat) (s : List LS) (tl : Pl) : Bool :=
 Region.noSelect ops && decide (m < ops.size) && decide (m0h s + tl.len = ops.size) && f0i .any ops m tl s [] (Array.replicate ops.size false)
theorem a0g {id : Nat} {a : Act} {w : World} {l : List Oper} {BL : List Blk} (hst : St S w0 w BL) (m : Nat) (s : List LS) (tl : Pl) (hm : P.follows .mixedOrders = true) (hB : u0V l.toArray m s tl = true)
  (hQ : ∀ c (d : Option Tmp) v a w, Q (.panic c) (Act.put a d v) w → Q (.panic c) a w)
  (h : Lad P l.toArray Q (fun w => St S w0 w BL) S w0 tl s [] BL (fun _ => True) (fun _ => a)) : (Code.region id l.toArray true).wp P Q a w := by
 simp only [u0V, Bool.and_eq_true, decide_eq_true_eq] at hB
 obtain ⟨⟨⟨hsel, hms⟩, hlen⟩, hok⟩ := hB
 have hmk : d0W (Array.replicate l.toArray.size false) (List.map Prod.fst ([] : List (Nat × Value × Blk))) = Array.replicate l.toArray.size false := by
  refine f0B (b0v _ _) fun k hk => ?_
  rw [c0z _ _ _ (by simpa [b0v] using hk)]; simp
 have inv0 : Cl .any l.toArray (Array.replicate l.toArray.size false) :=
  ⟨by simp, fun j oj _ hl => (by rw [getD_replicate_false] at hl; cases hl)⟩
 have H := o0Q (md := .any) (Sx := fun w => St S w0 w BL) hsel hms hQ (l.toArray.size + s.length) l.toArray.size s [] (Array.replicate l.toArray.size false) [] (fun _ => undef) w.drew BL (fun _ => True) (fun _ => a)
  (Nat.le_refl _) (by simp [hlen]) (by simp) (by simp) (by simp) (by rw [hmk]; exact inv0) hok (by simp) ⟨by simp, by simp, by simp, fun _ _ _ _ => rfl⟩ (by simp) (by simpa using hst.drew) trivial (fun _ _ _ _ => trivial) (fun _ h => h) h
 rw [hmk] at H
 exact wp_region_any hm (e0n _ _ _ _ H)
theorem Lad.weaken : ∀ (s : List LS) {Γ : List Flt} {BL : List Blk} {R R2 : World → Prop} {A : (Nat → Value) → Act}, (∀ w, R2 w → R w) → Lad P ops Q Sx S w0 tl s Γ BL R A → Lad P ops Q Sx S w0 tl s Γ BL R2 A
 | [], _, _, _, _, _, h2, h => fun x w a b => h x w a (h2 w b)
 | .w _ :: s, _, _, _, _, _, h2, ⟨o, v, a, b, c⟩ => ⟨o, v, a, b, Lad.weaken s h2 c⟩
 | .t _ :: s, _, _, _, _, _, h2, ⟨o, v, a, b, c⟩ => ⟨o, v, a, b, Lad.weaken s h2 c⟩
 | .c _ :: s, _, _, _, _, _, h2, ⟨o, a, b, X, v, R', c, d, e⟩ => ⟨o, a, b, X, v, R', c, fun x w p q => d x w p (h2 w q), fun y => Lad.weaken s (fun w h => ⟨h2 w h.1, h.2⟩) (e y)⟩
 | .o _ :: s, _, _, _, _, _, h2, ⟨o, e, v, L, T, a, b, c, d, f⟩ => ⟨o, e, v, L, T, a, b, c, d, Lad.weaken s h2 f⟩
 | .j _ :: s, _, _, _, _, _, h2, ⟨v, L, T, a, b⟩ => ⟨v, L, T, a, fun g => Lad.weaken s h2 (b g)⟩
variable {l : List Oper} {i : Nat} {s : List LS} {Γ : List Flt} {BL : List Blk} {R : World → Prop} {A : (Nat → Value) → Act} {o : Oper}
theorem a0y (h : ∀ x w, St S w0 w BL → R w → b0p P l.toArray Q Sx tl (A x) w) : Lad P l.toArray Q Sx S w0 tl [] Γ BL R A := h
theorem a0n (ho : l[i]? = some o) (hg : o.guard = none) {v : Value} (hv : ∀ x wx, (execOp (A x).eval o).run P wx = .ok (.value v) wx) (h : Lad P l.toArray Q Sx S w0 tl s Γ BL R (fun x => (A x).put o.dst v)) : Lad P l.toArray Q Sx S w0 tl (.w i :: s) Γ BL R A :=
 ⟨o, v, by simpa using ho, fun x => .inl ⟨by simp [Region.wanted, hg], fun wx _ => hv x wx⟩, h⟩
theorem b0a (ho : l[i]? = some o) (hg : o.guard = none) {v : Value} (hv : ∀ x wx, Sx wx → (execOp (A x).eval o).run P wx = .ok (.value v) wx) (h : Lad P l.toArray Q Sx S w0 tl s Γ BL R (fun x => (A x).put o.dst v)) : Lad P l.toArray Q Sx S w0 tl (.t i :: s) Γ BL R A :=
 ⟨o, v, by simpa using ho, fun x => .inl ⟨by simp [Region.wanted, hg], hv x⟩, h⟩
theorem a0e (ho : l[i]? = some o) (hg : o.guard = none) {ty : TypeId} {q : Operand} (hop : o.op = .load ty q) {g p : Nat} (hx : ∀ x, (A x).eval q = .pointer (some ⟨g, p, none⟩)) (cs : List Value) (hS : ∀ wx, Sx wx → wx.rangeAt g p cs)
  {d : TypeDesc} (hu : P.underlying ty = some d) (hd : d.isRow = true) (hi : (P.info? ty).map (·.size) = some cs.length) (h : Lad P l.toArray Q Sx S w0 tl s Γ BL R (fun x => (A x).put o.dst (.agg cs.toArray))) : Lad P l.toArray Q Sx S w0 tl (.t i :: s) Γ BL R A :=
 ⟨o, _, by simpa using ho, fun x => yieldsIf_load_mid (by simp [Region.wanted, hg]) ty q hop g p (hx x) cs d hS hu hd hi, h⟩
theorem t0s {e : TypeId} {z : Value} (hi : (P.info? e).map (·.zero) = some (some z)) {a : Act} (hop : o.op = .alloc e) (L : List Value) (hL : z.cells.toList = L) : Mk P (execOp a.eval o) (fun g => .pointer (some ⟨g, 0, none⟩)) L e := by
 intro w
 obtain ⟨i, hi1, hz⟩ : ∃ i, P.info? e = some i ∧ i.zero = some z := by simpa using hi
 have hr : (Instr.alloc e true (.tuple #[])).run P w = .ok (.pointer (some ⟨w.heap.size, 0, none⟩)) (w.alloc (.cells z.cells e)) := by
  simp [Instr.alloc, zeroValue, typeInfo, hi1, hz, newVar, newRow]
 refine ⟨w.heap.size, w.alloc (.cells z.cells e), ?_, (Fr.refl _ w).alloc _, Nat.le_refl _, ?_⟩
 ·unfold execOp
  simp only [hop, Sem.run_bind, Sem.run_pure, Result.andThen_ok, hr]
 ·have hg := Has.new w z.cells e
  rwa [hL] at hg
theorem b0e {e : TypeId} {z : Value} (ho : l[i]? = some o) (hg : o.guard = none) (hop : o.op = .alloc e) (hi : (P.info? e).map (·.zero) = some (some z)) (L : List Value) (hL : z.cells.toList = L) (h : Lad P l.toArray Q Sx S w0 tl s ((i, fun g => .pointer (some ⟨g, 0, none⟩), L, e) :: Γ) BL R (fun x => (A x).put o.dst (x i))) : Lad P l.toArray Q Sx S w0 tl (.o i :: s) Γ BL R A :=
 ⟨o, execOp (A fun _ => undef).eval o, _, L, e, by simpa using ho, hg, fun x => by unfold execOp; rw [hop], t0s hi hop L hL, h⟩
theorem b0f {v : Nat → Value} {L : List Value} {T : TypeId} (hq : (i, v, L, T) ∈ Γ) (h : ∀ g, Lad P l.toArray Q Sx S w0 tl s (Γ.filter (·.1 != i)) (BL ++ [(g, L, T)]) R (fun x => A (upd x i (v g)))) : Lad P l.toArray Q Sx S w0 tl (.j i :: s) Γ BL R A :=
 ⟨v, L, T, hq, h⟩
theorem z0i {a : Act} {w : World} {K : Act → World → Prop} {f : FuncId} {xs : Array Operand} {ats : Array TypeId} (hop : o.op = .call { callee := .value (.func f), args := xs, argTypes := ats }) (hcl : ∀ us w, (callFunc f us).run P w = .ok (.enter f us) w)
  {vs : List Value} (hargs : xs.toList.map a.eval = vs) (h : Calls P f vs.toArray w fun e w' => ∃ v, e = .returned v ∧ K (a.put o.dst v) w') : o.wp P a w K Q := by
 have he : execOp a.eval o = callFunc f vs.toArray := by
  have h1 : execOp a.eval o = callFunc f (#[] ++ xs.map a.eval ++ #[]) := by
   unfold execOp
   rw [hop]
   rfl
  rw [h1]
  congr 1
  rw [← hargs]
  simp [← Array.toList_map]
 unfold Oper.wp
 rw [he, hcl]
 refine h.mono fun e w' h' => ?_
 obtain ⟨v, rfl, h2⟩ := h'
 exact h2
theorem a0c {f : FuncId} {xs : Array Operand} {ats : Array TypeId} (ho : l[i]? = some o) (hg : o.guard = none) (hop : o.op = .call { callee := .value (.func f), args := xs, argTypes := ats }) (hcl : ∀ us w, (callFunc f us).run P w = .ok (.enter f us) w)
  {vs : List Value} {v : Value} (hc : ∀ w, St S w0 w BL → R w → Calls P f vs.toArray w fun e w' => e = .returned v ∧ Fr Nob w w') (hargs : ∀ x, xs.toList.map (A x).eval = vs)
  (h : Lad P l.toArray Q Sx S w0 tl s Γ BL R (fun x => (A x).put o.dst v)) : Lad P l.toArray Q Sx S w0 tl (.c i :: s) Γ BL R A := by
 exact ⟨o, by simpa using ho, hg, Unit, fun _ => v, fun _ _ => True, fun _ _ _ _ _ => trivial, fun x w hst hR => z0i hop hcl (hargs x) ((hc w hst hR).mono fun e w' h' => ⟨v, h'.1, (), rfl, h'.2, trivial⟩), fun _ => Lad.weaken s (fun w h => h.1) h⟩
variable {rest : List Oper} {a : Act} {w : World}
end
end Go.Mv
namespace Go.Proofs.YtemcankmggmgoaaGreatDoor
section
open Go.RowKit Go.Mv Mvp
theorem h0O : (Tryz.prog.info? 59).map (·.zero) = some (some (.agg (cw 4 0).toArray)) := by kernel_rfl
theorem b0A (m : Md) (gp : Nat) (w : World) (hok : m.Ok) (hpm : Has w gp (mdL m) 115) (x r : Nat) (hr : x * x = r) :
  Calls Tryz.prog 76 #[.pointer (some ⟨gp, 0, none⟩), i4 (elN m x)] w fun e w' => e = .returned (i4 (elN m r)) ∧ Fr Nob w w' := by
 subst hr; exact c0W m gp w hok hpm x
theorem b0Q (m : Md) (gp : Nat) (w : World) (hok : m.Ok) (hpm : Has w gp (mdL m) 115) (x y r : Nat) (hr : x * y = r) :
  Calls Tryz.prog 77 #[.pointer (some ⟨gp, 0, none⟩), i4 (elN m x), i4 (elN m y)] w fun e w' => e = .returned (i4 (elN m r)) ∧ Fr Nob w w' := by
 subst hr; exact v0O m gp w hok hpm x y
theorem d0j (m : Md) (gp : Nat) (w : World) (hok : m.Ok) (hpm : Has w gp (mdL m) 115) (x y r : Nat) (hr : x + y = r) :
  Calls Tryz.prog 90 #[.pointer (some ⟨gp, 0, none⟩), i4 (elN m x), i4 (elN m y)] w fun e w' => e = .returned (i4 (elN m r)) ∧ Fr Nob w w' := by
 subst hr; exact g0g m gp w hok hpm x y
theorem f0j (m : Md) (gp : Nat) (w : World) (hok : m.Ok) (hpm : Has w gp (mdL m) 115) (x y r : Nat) (hr : x + (m.M - y % m.M) = r) :
  Calls Tryz.prog 122 #[.pointer (some ⟨gp, 0, none⟩), i4 (elN m x), i4 (elN m y)] w fun e w' => e = .returned (i4 (elN m r)) ∧ Fr Nob w w' := by
 subst hr; exact n0a m gp w hok hpm x y
attribute [local irreducible] a0J lw mix cw b0t b0G b0q a0P a0u beN laid b0o b0H a0M a0V elN mdL b0R
theorem m0i (m : Md) (gc gp bx by_ : Nat) (w : World) (hok : m.Ok) (hcv : Has w gc (e0A m gp bx by_) 86) (hpm : Has w gp (mdL m) 115) (x y z : Nat) (hb : (z % m.M == 0) = true) :
  Calls Tryz.prog 101 #[.pointer (some ⟨gc, 0, none⟩), ptV m x y z] w fun e w' => e = .returned (ptV m x y z) ∧ Fr Nob w w' := by
 have HOK := qH hok
 have HCV := qH hcv
 have HPM := qH hpm
 clear hok hcv hpm
 have HB := qH hb
 clear hb
 unfold ptV ptL
 have st0 := St.start Nob w
 go_enter Tryz.func101, Tryz.ntmps101
 go_wp2_with (with_reducible refine wSk 3 ?_)
 refine a0m st0 rfl rfl rfl (cw 4 (elN m x) ++ (cw 4 (elN m y) ++ cw 4 (elN m z))) rfl ?_
 intro g3 w1 st1
 clear st0
 go_wp2_with (with_reducible refine wSk 4 ?_)
 refine a0b st1 rfl rfl (z := zAc) (by kernel_rfl) (cw 12 0) (by rw [a0f]; rfl) ?_
 intro g4 w2 st2
 clear st1
 go_wp2_with (with_reducible refine wSk 13 ?_)
 refine a0o st2 0 rfl rfl rfl Tryz.underlying78 rfl rfl (by kernel_rfl) ?_
 go_wp2_with fail
 refine (c0Q m HOK.out x y z true HB.out _).mono ?_
 rintro e' w3 ⟨rfl, hf3⟩
 have st3 := st2.keep hf3
 clear st2 hf3
 go_wp2_with (with_reducible refine wSk 15 ?_)
 refine a0o st3 0 rfl rfl rfl Tryz.underlying78 rfl rfl (by kernel_rfl) ?_
 go_wp2_with (with_reducible refine wSn ?_)
 refine a0d st3 1 rfl rfl rfl rfl rfl (by simp [a0a]) (by kernel_rfl) (a0Z _ _ _) ?_
 intro w4 st4
 clear st3
 have hr := st4.at 1 rfl
 have hfr := st4.fr
 clear st4
 go_wp2_with fail
 exact bodyPost_ret (a0F rfl rfl hr Tryz.underlying78 rfl (by kernel_rfl)) rfl ⟨rfl, hfr⟩
theorem t0t (m : Md) (gc gp bx by_ : Nat) (w : World) (hok : m.Ok) (hcv : Has w gc (e0A m gp bx by_) 86) (hpm : Has w gp (mdL m) 115) (x y z : Nat) (hb : (z % m.M == 0) = false) (a b bb s1 s2 s3 d1 d e1 ee f1 f2 X k1 k2 k3 z1 h1 h2 Y Z : Nat) (ea : x * x = a) (eb : y * y = b) (ebb : b * b = bb) (es1 : x + b = s1) (es2 : s1 * s1 = s2) (es3 : a + bb = s3) (ed1 : s2 + (m.M - s3 % m.M) = d1) (ed : d1 + d1 = d) (ee1 : a + a = e1) (eee : e1 + a = ee) (ef1 : ee * ee = f1) (ef2 : d + d = f2) (eX : f1 + (m.M - f2 % m.M) = X) (ek1 : bb + bb = k1) (ek2 : k1 + k1 = k2) (ek3 : k2 + k2 = k3) (ez1 : y * z = z1) (eh1 : d + (m.M - X % m.M) = h1) (eh2 : ee * h1 = h2) (eY : h2 + (m.M - k3 % m.M) = Y) (eZ : z1 + z1 = Z) :
  Calls Tryz.prog 101 #[.pointer (some ⟨gc, 0, none⟩), ptV m x y z] w fun e w' => e = .returned (ptV m X Y Z) ∧ Fr Nob w w' := by
 have HOK := qH hok
 have HCV := qH hcv
 have HPM := qH hpm
 clear hok hcv hpm
 have HB := qH hb
 have Ha := qH ea
 have Hb := qH eb
 have Hbb := qH ebb
 have Hs1 := qH es1
 have Hs2 := qH es2
 have Hs3 := qH es3
 have Hd1 := qH ed1
 have Hd := qH ed
 have He1 := qH ee1
 have Hee := qH eee
 have Hf1 := qH ef1
 have Hf2 := qH ef2
 have HX := qH eX
 have Hk1 := qH ek1
 have Hk2 := qH ek2
 have Hk3 := qH ek3
 have Hz1 := qH ez1
 have Hh1 := qH eh1
 have Hh2 := qH eh2
 have HY := qH eY
 have HZ := qH eZ
 clear hb ea eb ebb es1 es2 es3 ed1 ed ee1 eee ef1 ef2 eX ek1 ek2 ek3 ez1 eh1 eh2 eY eZ
 unfold ptV ptL
 have st0 := St.start Nob w
 go_enter Tryz.func101, Tryz.ntmps101
 go_wp2_with (with_reducible refine wSk 3 ?_)
 refine a0m st0 rfl rfl rfl (cw 4 (elN m x) ++ (cw 4 (elN m y) ++ cw 4 (elN m z))) rfl ?_
 intro g3 w1 st1
 clear st0
 go_wp2_with (with_reducible refine wSk 4 ?_)
 refine a0b st1 rfl rfl (z := zAc) (by kernel_rfl) (cw 12 0) (by rw [a0f]; rfl) ?_
 intro g4 w2 st2
 clear st1
 go_wp2_with (with_reducible refine wSk 13 ?_)
 refine a0o st2 0 rfl rfl rfl Tryz.underlying78 rfl rfl (by kernel_rfl) ?_
 go_wp2_with fail
 refine (c0Q m HOK.out x y z false HB.out _).mono ?_
 rintro e' w3 ⟨rfl, hf3⟩
 have st3 := st2.keep hf3
 clear st2 hf3
 go_wp2_with fail
 refine wp_region_noPanic ?_
 refine a0g st3 17 [.o 14, .o 15, .w 0, .w 1, .w 2, .t 3, .w 4, .t 5, .w 7, .w 8, .w 9, .t 10, .w 11, .t 12, .c 6, .c 13, .j 14, .j 15] (.r 16 (.m 17 .nil)) (by kernel_rfl) (by kernel_rfl) (fun _ _ _ _ _ h => h) ?_
 clear st3
 refine b0e rfl rfl rfl h0O (cw 4 0) rfl ?_
 try simp only [clL]
 refine b0e rfl rfl rfl h0O (cw 4 0) rfl ?_
 try simp only [clL]
 iterate 3 (refine a0n (v := ?_) rfl rfl (fun xq wx => ?_) ?_; rotate_left 1; · (go_simp; with_reducible rfl); try simp only [clL])
 refine b0a (v := ?_) rfl rfl (fun xq wx hS => ?_) ?_
 rotate_left 1
 ·(have hc := (HCV.out.keep (St.fr hS) id).cell (i := 0) rfl; clear hS; go_simp; with_reducible rfl)
 try simp only [clL]
 refine a0n (v := ?_) rfl rfl (fun xq wx => ?_) ?_; rotate_left 1; · (go_simp; with_reducible rfl)
 try simp only [clL]
 refine a0e rfl rfl rfl (fun _ => rfl) (cw 4 (elN m x)) (fun wx hS => St.rangeL hS 0 rfl 0 _ (j0M _ _ _)) Tryz.underlying59 rfl (by kernel_rfl) ?_
 try simp only [clL]
 iterate 3 (refine a0n (v := ?_) rfl rfl (fun xq wx => ?_) ?_; rotate_left 1; · (go_simp; with_reducible rfl); try simp only [clL])
 refine b0a (v := ?_) rfl rfl (fun xq wx hS => ?_) ?_
 rotate_left 1
 ·(have hc := (HCV.out.keep (St.fr hS) id).cell (i := 0) rfl; clear hS; go_simp; with_reducible rfl)
 try simp only [clL]
 refine a0n (v := ?_) rfl rfl (fun xq wx => ?_) ?_; rotate_left 1; · (go_simp; with_reducible rfl)
 try simp only [clL]
 refine a0e rfl rfl rfl (fun _ => rfl) (cw 4 (elN m y)) (fun wx hS => St.rangeL hS 0 rfl 4 _ (l0A _ _ _)) Tryz.underlying59 rfl (by kernel_rfl) ?_
 try simp only [clL]
 refine a0c rfl rfl rfl Tryz.call76 (fun w hS hR => b0A m gp _ HOK.out (HPM.out.keep hS.fr id) x a Ha.out) (fun _ => rfl) ?_
 try simp only [clL]
 refine a0c rfl rfl rfl Tryz.call76 (fun w hS hR => b0A m gp _ HOK.out (HPM.out.keep hS.fr id) y b Hb.out) (fun _ => rfl) ?_
 try simp only [clL]
 refine b0f (List.mem_cons_of_mem _ List.mem_cons_self) fun g5 => ?_
 simp only [upd, reduceIte]
 try simp only [Nat.reduceEqDiff, reduceIte]
 refine b0f List.mem_cons_self fun g6 => ?_
 simp only [upd, reduceIte]
 refine a0y fun xq w4 st4 hR => ?_
 try dsimp only
 clear hR xq
 refine a0A rfl rfl ?_
 refine a0j st4 2 rfl rfl rfl rfl (by simp [a0a]) (by kernel_rfl) (a0i _ _) ?_
 intro w5 st5
 repeat (first | simp only [List.cons_append] at st5 | simp only [List.nil_append] at st5 | simp only [List.set_cons_succ] at st5 | simp only [List.set_cons_zero] at st5)
 clear st4
 refine ⟨by first | exact st5 | exact St.less st5 (by simp), ?_⟩
 try simp only [Act.put]
 refine a0r rfl rfl ?_
 refine a0j st5 3 rfl rfl rfl rfl (by simp [a0a]) (by kernel_rfl) (a0i _ _) ?_
 intro w6 st6
 try simp only [List.set_cons_zero, List.set_cons_succ] at st6
 clear st5
 try simp only [Act.put]
 refine a0k ?_
 refine NoPanic.normal ?_
 go_wp2_with fail
 refine wp_region_noPanic ?_
 refine a0g st6 7 [.o 6, .w 0, .w 1, .w 2, .t 3, .t 4, .c 5, .j 6] (.m 7 .nil) (by kernel_rfl) (by kernel_rfl) (fun _ _ _ _ _ h => h) ?_
 clear st6
 refine b0e rfl rfl rfl h0O (cw 4 0) rfl ?_
 try simp only [clL]
 iterate 3 (refine a0n (v := ?_) rfl rfl (fun xq wx => ?_) ?_; rotate_left 1; · (go_simp; with_reducible rfl); try simp only [clL])
 refine b0a (v := ?_) rfl rfl (fun xq wx hS => ?_) ?_
 rotate_left 1
 ·(have hc := (HCV.out.keep (St.fr hS) id).cell (i := 0) rfl; clear hS; go_simp; with_reducible rfl)
 try simp only [clL]
 refine a0e rfl rfl rfl (fun _ => rfl) (cw 4 (elN m b)) (fun wx hS => St.rangeL hS 3 rfl 0 _ dZl) Tryz.underlying59 rfl (by kernel_rfl) ?_
 try simp only [clL]
 refine a0c rfl rfl rfl Tryz.call76 (fun w hS hR => b0A m gp _ HOK.out (HPM.out.keep hS.fr id) b bb Hbb.out) (fun _ => rfl) ?_
 try simp only [clL]
 refine b0f List.mem_cons_self fun g7 => ?_
 simp only [upd, reduceIte]
 refine a0y fun xq w7 st7 hR => ?_
 try dsimp only
 clear hR xq
 refine a0r rfl rfl ?_
 refine a0j st7 4 rfl rfl rfl rfl (by simp [a0a]) (by kernel_rfl) (a0i _ _) ?_
 intro w8 st8
 repeat (first | simp only [List.cons_append] at st8 | simp only [List.nil_append] at st8 | simp only [List.set_cons_succ] at st8 | simp only [List.set_cons_zero] at st8)
 clear st7
 try simp only [Act.put]
 refine a0k ?_
 refine NoPanic.normal ?_
 go_wp2_with fail
 refine wp_region_noPanic ?_
 refine a0g st8 26 [.o 25, .w 0, .w 1, .w 2, .t 3, .w 4, .w 5, .w 6, .t 7, .w 8, .w 9, .w 10, .t 11, .w 12, .t 13, .t 14, .w 17, .w 18, .w 19, .t 20, .t 21, .t 22, .c 15, .c 16, .c 23, .c 24, .j 25] (.m 26 .nil) (by kernel_rfl) (by kernel_rfl) (fun _ _ _ _ _ h => h) ?_
 clear st8
 refine b0e rfl rfl rfl h0O (cw 4 0) rfl ?_
 try simp only [clL]
 iterate 3 (refine a0n (v := ?_) rfl rfl (fun xq wx => ?_) ?_; rotate_left 1; · (go_simp; with_reducible rfl); try simp only [clL])
 refine b0a (v := ?_) rfl rfl (fun xq wx hS => ?_) ?_
 rotate_left 1
 ·(have hc := (HCV.out.keep (St.fr hS) id).cell (i := 0) rfl; clear hS; go_simp; with_reducible rfl)
 try simp only [clL]
 iterate 3 (refine a0n (v := ?_) rfl rfl (fun xq wx => ?_) ?_; rotate_left 1; · (go_simp; with_reducible rfl); try simp only [clL])
 refine b0a (v := ?_) rfl rfl (fun xq wx hS => ?_) ?_
 rotate_left 1
 ·(have hc := (HCV.out.keep (St.fr hS) id).cell (i := 0) rfl; clear hS; go_simp; with_reducible rfl)
 try simp only [clL]
 iterate 3 (refine a0n (v := ?_) rfl rfl (fun xq wx => ?_) ?_; rotate_left 1; · (go_simp; with_reducible rfl); try simp only [clL])
 refine b0a (v := ?_) rfl rfl (fun xq wx hS => ?_) ?_
 rotate_left 1
 ·(have hc := (HCV.out.keep (St.fr hS) id).cell (i := 0) rfl; clear hS; go_simp; with_reducible rfl)
 try simp only [clL]
 refine a0n (v := ?_) rfl rfl (fun xq wx => ?_) ?_; rotate_left 1; · (go_simp; with_reducible rfl)
 try simp only [clL]
 refine a0e rfl rfl rfl (fun _ => rfl) (cw 4 (elN m x)) (fun wx hS => St.rangeL hS 0 rfl 0 _ (j0M _ _ _)) Tryz.underlying59 rfl (by kernel_rfl) ?_
 try simp only [clL]
 refine a0e rfl rfl rfl (fun _ => rfl) (cw 4 (elN m b)) (fun wx hS => St.rangeL hS 3 rfl 0 _ dZl) Tryz.underlying59 rfl (by kernel_rfl) ?_
 try simp only [clL]
 iterate 3 (refine a0n (v := ?_) rfl rfl (fun xq wx => ?_) ?_; rotate_left 1; · (go_simp; with_reducible rfl); try simp only [clL])
 refine b0a (v := ?_) rfl rfl (fun xq wx hS => ?_) ?_
 rotate_left 1
 ·(have hc := (HCV.out.keep (St.fr hS) id).cell (i := 0) rfl; clear hS; go_simp; with_reducible rfl)
 try simp only [clL]
 refine a0e rfl rfl rfl (fun _ => rfl) (cw 4 (elN m a)) (fun wx hS => St.rangeL hS 2 rfl 0 _ dZl) Tryz.underlying59 rfl (by kernel_rfl) ?_
 try simp only [clL]
 refine a0e rfl rfl rfl (fun _ => rfl) (cw 4 (elN m bb)) (fun wx hS => St.rangeL hS 4 rfl 0 _ dZl) Tryz.underlying59 rfl (by kernel_rfl) ?_
 try simp only [clL]
 refine a0c rfl rfl rfl Tryz.call90 (fun w hS hR => d0j m gp _ HOK.out (HPM.out.keep hS.fr id) x b s1 Hs1.out) (fun _ => rfl) ?_
 try simp only [clL]
 refine a0c rfl rfl rfl Tryz.call76 (fun w hS hR => b0A m gp _ HOK.out (HPM.out.keep hS.fr id) s1 s2 Hs2.out) (fun _ => rfl) ?_
 try simp only [clL]
 refine a0c rfl rfl rfl Tryz.call90 (fun w hS hR => d0j m gp _ HOK.out (HPM.out.keep hS.fr id) a bb s3 Hs3.out) (fun _ => rfl) ?_
 try simp only [clL]
 refine a0c rfl rfl rfl Tryz.call122 (fun w hS hR => f0j m gp _ HOK.out (HPM.out.keep hS.fr id) s2 s3 d1 Hd1.out) (fun _ => rfl) ?_
 try simp only [clL]
 refine b0f List.mem_cons_self fun g8 => ?_
 simp only [upd, reduceIte]
 refine a0y fun xq w9 st9 hR => ?_
 try dsimp only
 clear hR xq
 refine a0r rfl rfl ?_
 refine a0j st9 5 rfl rfl rfl rfl (by simp [a0a]) (by kernel_rfl) (a0i _ _) ?_
 intro w10 st10
 repeat (first | simp only [List.cons_append] at st10 | simp only [List.nil_append] at st10 | simp only [List.set_cons_succ] at st10 | simp only [List.set_cons_zero] at st10)
 clear st9
 try simp only [Act.put]
 refine a0k ?_
 refine NoPanic.normal ?_
 go_wp2_with fail
 refine wp_region_noPanic ?_
 refine a0g st10 7 [.w 0, .w 1, .w 2, .t 3, .t 4, .t 5, .c 6] (.m 7 .nil) (by kernel_rfl) (by kernel_rfl) (fun _ _ _ _ _ h => h) ?_
 clear st10
 iterate 3 (refine a0n (v := ?_) rfl rfl (fun xq wx => ?_) ?_; rotate_left 1; · (go_simp; with_reducible rfl); try simp only [clL])
 refine b0a (v := ?_) rfl rfl (fun xq wx hS => ?_) ?_
 rotate_left 1
 ·(have hc := (HCV.out.keep (St.fr hS) id).cell (i := 0) rfl; clear hS; go_simp; with_reducible rfl)
 try simp only [clL]
 refine a0e rfl rfl rfl (fun _ => rfl) (cw 4 (elN m d1)) (fun wx hS => St.rangeL hS 5 rfl 0 _ dZl) Tryz.underlying59 rfl (by kernel_rfl) ?_
 try simp only [clL]
 refine a0e rfl rfl rfl (fun _ => rfl) (cw 4 (elN m d1)) (fun wx hS => St.rangeL hS 5 rfl 0 _ dZl) Tryz.underlying59 rfl (by kernel_rfl) ?_
 try simp only [clL]
 refine a0c rfl rfl rfl Tryz.call90 (fun w hS hR => d0j m gp _ HOK.out (HPM.out.keep hS.fr id) d1 d1 d Hd.out) (fun _ => rfl) ?_
 try simp only [clL]
 refine a0y fun xq w11 st11 hR => ?_
 try dsimp only
 clear hR xq
 refine a0r rfl rfl ?_
 refine a0j st11 5 rfl rfl rfl rfl (by simp [a0a]) (by kernel_rfl) (a0i _ _) ?_
 intro w12 st12
 try simp only [List.set_cons_zero, List.set_cons_succ] at st12
 clear st11
 try simp only [Act.put]
 refine a0k ?_
 refine NoPanic.normal ?_
 go_wp2_with fail
 refine wp_region_noPanic ?_
 refine a0g st12 14 [.o 13, .w 0, .w 1, .w 2, .t 3, .w 4, .w 5, .w 6, .t 7, .t 8, .t 9, .t 11, .c 10, .c 12, .j 13] (.m 14 .nil) (by kernel_rfl) (by kernel_rfl) (fun _ _ _ _ _ h => h) ?_
 clear st12
 refine b0e rfl rfl rfl h0O (cw 4 0) rfl ?_
 try simp only [clL]
 iterate 3 (refine a0n (v := ?_) rfl rfl (fun xq wx => ?_) ?_; rotate_left 1; · (go_simp; with_reducible rfl); try simp only [clL])
 refine b0a (v := ?_) rfl rfl (fun xq wx hS => ?_) ?_
 rotate_left 1
 ·(have hc := (HCV.out.keep (St.fr hS) id).cell (i := 0) rfl; clear hS; go_simp; with_reducible rfl)
 try simp only [clL]
 iterate 3 (refine a0n (v := ?_) rfl rfl (fun xq wx => ?_) ?_; rotate_left 1; · (go_simp; with_reducible rfl); try simp only [clL])
 refine b0a (v := ?_) rfl rfl (fun xq wx hS => ?_) ?_
 rotate_left 1
 ·(have hc := (HCV.out.keep (St.fr hS) id).cell (i := 0) rfl; clear hS; go_simp; with_reducible rfl)
 try simp only [clL]
 refine a0e rfl rfl rfl (fun _ => rfl) (cw 4 (elN m a)) (fun wx hS => St.rangeL hS 2 rfl 0 _ dZl) Tryz.underlying59 rfl (by kernel_rfl) ?_
 try simp only [clL]
 refine a0e rfl rfl rfl (fun _ => rfl) (cw 4 (elN m a)) (fun wx hS => St.rangeL hS 2 rfl 0 _ dZl) Tryz.underlying59 rfl (by kernel_rfl) ?_
 try simp only [clL]
 refine a0e rfl rfl rfl (fun _ => rfl) (cw 4 (elN m a)) (fun wx hS => St.rangeL hS 2 rfl 0 _ dZl) Tryz.underlying59 rfl (by kernel_rfl) ?_
 try simp only [clL]
 refine a0c rfl rfl rfl Tryz.call90 (fun w hS hR => d0j m gp _ HOK.out (HPM.out.keep hS.fr id) a a e1 He1.out) (fun _ => rfl) ?_
 try simp only [clL]
 refine a0c rfl rfl rfl Tryz.call90 (fun w hS hR => d0j m gp _ HOK.out (HPM.out.keep hS.fr id) e1 a ee Hee.out) (fun _ => rfl) ?_
 try simp only [clL]
 refine b0f List.mem_cons_self fun g9 => ?_
 simp only [upd, reduceIte]
 refine a0y fun xq w13 st13 hR => ?_
 try dsimp only
 clear hR xq
 refine a0r rfl rfl ?_
 refine a0j st13 6 rfl rfl rfl rfl (by simp [a0a]) (by kernel_rfl) (a0i _ _) ?_
 intro w14 st14
 repeat (first | simp only [List.cons_append] at st14 | simp only [List.nil_append] at st14 | simp only [List.set_cons_succ] at st14 | simp only [List.set_cons_zero] at st14)
 clear st13
 try simp only [Act.put]
 refine a0k ?_
 refine NoPanic.normal ?_
 go_wp2_with fail
 refine wp_region_noPanic ?_
 refine a0g st14 19 [.o 18, .w 0, .w 1, .w 2, .t 3, .w 4, .w 5, .w 6, .t 7, .t 8, .w 10, .w 11, .w 12, .t 13, .t 14, .t 15, .c 9, .c 16, .c 17, .j 18] (.m 19 .nil) (by kernel_rfl) (by kernel_rfl) (fun _ _ _ _ _ h => h) ?_
 clear st14
 refine b0e rfl rfl rfl h0O (cw 4 0) rfl ?_
 try simp only [clL]
 iterate 3 (refine a0n (v := ?_) rfl rfl (fun xq wx => ?_) ?_; rotate_left 1; · (go_simp; with_reducible rfl); try simp only [clL])
 refine b0a (v := ?_) rfl rfl (fun xq wx hS => ?_) ?_
 rotate_left 1
 ·(have hc := (HCV.out.keep (St.fr hS) id).cell (i := 0) rfl; clear hS; go_simp; with_reducible rfl)
 try simp only [clL]
 iterate 3 (refine a0n (v := ?_) rfl rfl (fun xq wx => ?_) ?_; rotate_left 1; · (go_simp; with_reducible rfl); try simp only [clL])
 refine b0a (v := ?_) rfl rfl (fun xq wx hS => ?_) ?_
 rotate_left 1
 ·(have hc := (HCV.out.keep (St.fr hS) id).cell (i := 0) rfl; clear hS; go_simp; with_reducible rfl)
 try simp only [clL]
 refine a0e rfl rfl rfl (fun _ => rfl) (cw 4 (elN m ee)) (fun wx hS => St.rangeL hS 6 rfl 0 _ dZl) Tryz.underlying59 rfl (by kernel_rfl) ?_
 try simp only [clL]
 iterate 3 (refine a0n (v := ?_) rfl rfl (fun xq wx => ?_) ?_; rotate_left 1; · (go_simp; with_reducible rfl); try simp only [clL])
 refine b0a (v := ?_) rfl rfl (fun xq wx hS => ?_) ?_
 rotate_left 1
 ·(have hc := (HCV.out.keep (St.fr hS) id).cell (i := 0) rfl; clear hS; go_simp; with_reducible rfl)
 try simp only [clL]
 refine a0e rfl rfl rfl (fun _ => rfl) (cw 4 (elN m d)) (fun wx hS => St.rangeL hS 5 rfl 0 _ dZl) Tryz.underlying59 rfl (by kernel_rfl) ?_
 try simp only [clL]
 refine a0e rfl rfl rfl (fun _ => rfl) (cw 4 (elN m d)) (fun wx hS => St.rangeL hS 5 rfl 0 _ dZl) Tryz.underlying59 rfl (by kernel_rfl) ?_
 try simp only [clL]
 refine a0c rfl rfl rfl Tryz.call76 (fun w hS hR => b0A m gp _ HOK.out (HPM.out.keep hS.fr id) ee f1 Hf1.out) (fun _ => rfl) ?_
 try simp only [clL]
 refine a0c rfl rfl rfl Tryz.call90 (fun w hS hR => d0j m gp _ HOK.out (HPM.out.keep hS.fr id) d d f2 Hf2.out) (fun _ => rfl) ?_
 try simp only [clL]
 refine a0c rfl rfl rfl Tryz.call122 (fun w hS hR => f0j m gp _ HOK.out (HPM.out.keep hS.fr id) f1 f2 X HX.out) (fun _ => rfl) ?_
 try simp only [clL]
 refine b0f List.mem_cons_self fun g10 => ?_
 simp only [upd, reduceIte]
 refine a0y fun xq w15 st15 hR => ?_
 try dsimp only
 clear hR xq
 refine a0r rfl rfl ?_
 refine a0j st15 7 rfl rfl rfl rfl (by simp [a0a]) (by kernel_rfl) (a0i _ _) ?_
 intro w16 st16
 repeat (first | simp only [List.cons_append] at st16 | simp only [List.nil_append] at st16 | simp only [List.set_cons_succ] at st16 | simp only [List.set_cons_zero] at st16)
 clear st15
 try simp only [Act.put]
 refine a0k ?_
 refine NoPanic.normal ?_
 go_wp2_with fail
 refine wp_region_noPanic ?_
 refine a0g st16 8 [.o 7, .w 0, .w 1, .w 2, .t 3, .t 4, .t 5, .c 6, .j 7] (.m 8 .nil) (by kernel_rfl) (by kernel_rfl) (fun _ _ _ _ _ h => h) ?_
 clear st16
 refine b0e rfl rfl rfl h0O (cw 4 0) rfl ?_
 try simp only [clL]
 iterate 3 (refine a0n (v := ?_) rfl rfl (fun xq wx => ?_) ?_; rotate_left 1; · (go_simp; with_reducible rfl); try simp only [clL])
 refine b0a (v := ?_) rfl rfl (fun xq wx hS => ?_) ?_
 rotate_left 1
 ·(have hc := (HCV.out.keep (St.fr hS) id).cell (i := 0) rfl; clear hS; go_simp; with_reducible rfl)
 try simp only [clL]
 refine a0e rfl rfl rfl (fun _ => rfl) (cw 4 (elN m bb)) (fun wx hS => St.rangeL hS 4 rfl 0 _ dZl) Tryz.underlying59 rfl (by kernel_rfl) ?_
 try simp only [clL]
 refine a0e rfl rfl rfl (fun _ => rfl) (cw 4 (elN m bb)) (fun wx hS => St.rangeL hS 4 rfl 0 _ dZl) Tryz.underlying59 rfl (by kernel_rfl) ?_
 try simp only [clL]
 refine a0c rfl rfl rfl Tryz.call90 (fun w hS hR => d0j m gp _ HOK.out (HPM.out.keep hS.fr id) bb bb k1 Hk1.out) (fun _ => rfl) ?_
 try simp only [clL]
 refine b0f List.mem_cons_self fun g11 => ?_
 simp only [upd, reduceIte]
 refine a0y fun xq w17 st17 hR => ?_
 try dsimp only
 clear hR xq
 refine a0r rfl rfl ?_
 refine a0j st17 8 rfl rfl rfl rfl (by simp [a0a]) (by kernel_rfl) (a0i _ _) ?_
 intro w18 st18
 repeat (first | simp only [List.cons_append] at st18 | simp only [List.nil_append] at st18 | simp only [List.set_cons_succ] at st18 | simp only [List.set_cons_zero] at st18)
 clear st17
 try simp only [Act.put]
 refine a0k ?_
 refine NoPanic.normal ?_
 go_wp2_with fail
 refine wp_region_noPanic ?_
 refine a0g st18 7 [.w 0, .w 1, .w 2, .t 3, .t 4, .t 5, .c 6] (.m 7 .nil) (by kernel_rfl) (by kernel_rfl) (fun _ _ _ _ _ h => h) ?_
 clear st18
 iterate 3 (refine a0n (v := ?_) rfl rfl (fun xq wx => ?_) ?_; rotate_left 1; · (go_simp; with_reducible rfl); try simp only [clL])
 refine b0a (v := ?_) rfl rfl (fun xq wx hS => ?_) ?_
 rotate_left 1
 ·(have hc := (HCV.out.keep (St.fr hS) id).cell (i := 0) rfl; clear hS; go_simp; with_reducible rfl)
 try simp only [clL]
 refine a0e rfl rfl rfl (fun _ => rfl) (cw 4 (elN m k1)) (fun wx hS => St.rangeL hS 8 rfl 0 _ dZl) Tryz.underlying59 rfl (by kernel_rfl) ?_
 try simp only [clL]
 refine a0e rfl rfl rfl (fun _ => rfl) (cw 4 (elN m k1)) (fun wx hS => St.rangeL hS 8 rfl 0 _ dZl) Tryz.underlying59 rfl (by kernel_rfl) ?_
 try simp only [clL]
 refine a0c rfl rfl rfl Tryz.call90 (fun w hS hR => d0j m gp _ HOK.out (HPM.out.keep hS.fr id) k1 k1 k2 Hk2.out) (fun _ => rfl) ?_
 try simp only [clL]
 refine a0y fun xq w19 st19 hR => ?_
 try dsimp only
 clear hR xq
 refine a0r rfl rfl ?_
 refine a0j st19 8 rfl rfl rfl rfl (by simp [a0a]) (by kernel_rfl) (a0i _ _) ?_
 intro w20 st20
 try simp only [List.set_cons_zero, List.set_cons_succ] at st20
 clear st19
 try simp only [Act.put]
 refine a0k ?_
 refine NoPanic.normal ?_
 go_wp2_with fail
 refine wp_region_noPanic ?_
 refine a0g st20 7 [.w 0, .w 1, .w 2, .t 3, .t 4, .t 5, .c 6] (.m 7 .nil) (by kernel_rfl) (by kernel_rfl) (fun _ _ _ _ _ h => h) ?_
 clear st20
 iterate 3 (refine a0n (v := ?_) rfl rfl (fun xq wx => ?_) ?_; rotate_left 1; · (go_simp; with_reducible rfl); try simp only [clL])
 refine b0a (v := ?_) rfl rfl (fun xq wx hS => ?_) ?_
 rotate_left 1
 ·(have hc := (HCV.out.keep (St.fr hS) id).cell (i := 0) rfl; clear hS; go_simp; with_reducible rfl)
 try simp only [clL]
 refine a0e rfl rfl rfl (fun _ => rfl) (cw 4 (elN m k2)) (fun wx hS => St.rangeL hS 8 rfl 0 _ dZl) Tryz.underlying59 rfl (by kernel_rfl) ?_
 try simp only [clL]
 refine a0e rfl rfl rfl (fun _ => rfl) (cw 4 (elN m k2)) (fun wx hS => St.rangeL hS 8 rfl 0 _ dZl) Tryz.underlying59 rfl (by kernel_rfl) ?_
 try simp only [clL]
 refine a0c rfl rfl rfl Tryz.call90 (fun w hS hR => d0j m gp _ HOK.out (HPM.out.keep hS.fr id) k2 k2 k3 Hk3.out) (fun _ => rfl) ?_
 try simp only [clL]
 refine a0y fun xq w21 st21 hR => ?_
 try dsimp only
 clear hR xq
 refine a0r rfl rfl ?_
 refine a0j st21 8 rfl rfl rfl rfl (by simp [a0a]) (by kernel_rfl) (a0i _ _) ?_
 intro w22 st22
 try simp only [List.set_cons_zero, List.set_cons_succ] at st22
 clear st21
 try simp only [Act.put]
 refine a0k ?_
 refine NoPanic.normal ?_
 go_wp2_with fail
 refine wp_region_noPanic ?_
 refine a0g st22 10 [.o 9, .w 0, .w 1, .w 2, .t 3, .w 4, .t 5, .w 6, .t 7, .c 8, .j 9] (.m 10 .nil) (by kernel_rfl) (by kernel_rfl) (fun _ _ _ _ _ h => h) ?_
 clear st22
 refine b0e rfl rfl rfl h0O (cw 4 0) rfl ?_
 try simp only [clL]
 iterate 3 (refine a0n (v := ?_) rfl rfl (fun xq wx => ?_) ?_; rotate_left 1; · (go_simp; with_reducible rfl); try simp only [clL])
 refine b0a (v := ?_) rfl rfl (fun xq wx hS => ?_) ?_
 rotate_left 1
 ·(have hc := (HCV.out.keep (St.fr hS) id).cell (i := 0) rfl; clear hS; go_simp; with_reducible rfl)
 try simp only [clL]
 refine a0n (v := ?_) rfl rfl (fun xq wx => ?_) ?_; rotate_left 1; · (go_simp; with_reducible rfl)
 try simp only [clL]
 refine a0e rfl rfl rfl (fun _ => rfl) (cw 4 (elN m y)) (fun wx hS => St.rangeL hS 0 rfl 4 _ (l0A _ _ _)) Tryz.underlying59 rfl (by kernel_rfl) ?_
 try simp only [clL]
 refine a0n (v := ?_) rfl rfl (fun xq wx => ?_) ?_; rotate_left 1; · (go_simp; with_reducible rfl)
 try simp only [clL]
 refine a0e rfl rfl rfl (fun _ => rfl) (cw 4 (elN m z)) (fun wx hS => St.rangeL hS 0 rfl 8 _ (f0g _ _ _)) Tryz.underlying59 rfl (by kernel_rfl) ?_
 try simp only [clL]
 refine a0c rfl rfl rfl Tryz.call77 (fun w hS hR => b0Q m gp _ HOK.out (HPM.out.keep hS.fr id) y z z1 Hz1.out) (fun _ => rfl) ?_
 try simp only [clL]
 refine b0f List.mem_cons_self fun g12 => ?_
 simp only [upd, reduceIte]
 refine a0y fun xq w23 st23 hR => ?_
 try dsimp only
 clear hR xq
 refine a0r rfl rfl ?_
 refine a0j st23 9 rfl rfl rfl rfl (by simp [a0a]) (by kernel_rfl) (a0i _ _) ?_
 intro w24 st24
 repeat (first | simp only [List.cons_append] at st24 | simp only [List.nil_append] at st24 | simp only [List.set_cons_succ] at st24 | simp only [List.set_cons_zero] at st24)
 clear st23
 try simp only [Act.put]
 refine a0k ?_
 refine NoPanic.normal ?_
 go_wp2_with fail
 refine wp_region_noPanic ?_
 refine a0g st24 28 [.t 0, .w 1, .w 2, .w 3, .t 4, .w 5, .w 6, .w 7, .t 8, .t 9, .w 10, .w 11, .w 12, .t 13, .t 14, .t 15, .t 18, .w 20, .w 21, .w 22, .t 23, .t 24, .t 25, .c 16, .c 17, .c 19, .c 26, .w 27] (.m 28 .nil) (by kernel_rfl) (by kernel_rfl) (fun _ _ _ _ _ h => h) ?_
 clear st24
 refine a0e rfl rfl rfl (fun _ => rfl) (cw 4 (elN m X)) (fun wx hS => St.rangeL hS 7 rfl 0 _ dZl) Tryz.underlying59 rfl (by kernel_rfl) ?_
 try simp only [clL]
 iterate 3 (refine a0n (v := ?_) rfl rfl (fun xq wx => ?_) ?_; rotate_left 1; · (go_simp; with_reducible rfl); try simp only [clL])
 refine b0a (v := ?_) rfl rfl (fun xq wx hS => ?_) ?_
 rotate_left 1
 ·(have hc := (HCV.out.keep (St.fr hS) id).cell (i := 0) rfl; clear hS; go_simp; with_reducible rfl)
 try simp only [clL]
 iterate 3 (refine a0n (v := ?_) rfl rfl (fun xq wx => ?_) ?_; rotate_left 1; · (go_simp; with_reducible rfl); try simp only [clL])
 refine b0a (v := ?_) rfl rfl (fun xq wx hS => ?_) ?_
 rotate_left 1
 ·(have hc := (HCV.out.keep (St.fr hS) id).cell (i := 0) rfl; clear hS; go_simp; with_reducible rfl)
 try simp only [clL]
 refine a0e rfl rfl rfl (fun _ => rfl) (cw 4 (elN m ee)) (fun wx hS => St.rangeL hS 6 rfl 0 _ dZl) Tryz.underlying59 rfl (by kernel_rfl) ?_
 try simp only [clL]
 iterate 3 (refine a0n (v := ?_) rfl rfl (fun xq wx => ?_) ?_; rotate_left 1; · (go_simp; with_reducible rfl); try simp only [clL])
 refine b0a (v := ?_) rfl rfl (fun xq wx hS => ?_) ?_
 rotate_left 1
 ·(have hc := (HCV.out.keep (St.fr hS) id).cell (i := 0) rfl; clear hS; go_simp; with_reducible rfl)
 try simp only [clL]
 refine a0e rfl rfl rfl (fun _ => rfl) (cw 4 (elN m d)) (fun wx hS => St.rangeL hS 5 rfl 0 _ dZl) Tryz.underlying59 rfl (by kernel_rfl) ?_
 try simp only [clL]
 refine a0e rfl rfl rfl (fun _ => rfl) (cw 4 (elN m X)) (fun wx hS => St.rangeL hS 7 rfl 0 _ dZl) Tryz.underlying59 rfl (by kernel_rfl) ?_
 try simp only [clL]
 refine a0e rfl rfl rfl (fun _ => rfl) (cw 4 (elN m k3)) (fun wx hS => St.rangeL hS 8 rfl 0 _ dZl) Tryz.underlying59 rfl (by kernel_rfl) ?_
 try simp only [clL]
 iterate 3 (refine a0n (v := ?_) rfl rfl (fun xq wx => ?_) ?_; rotate_left 1; · (go_simp; with_reducible rfl); try simp only [clL])
 refine b0a (v := ?_) rfl rfl (fun xq wx hS => ?_) ?_
 rotate_left 1
 ·(have hc := (HCV.out.keep (St.fr hS) id).cell (i := 0) rfl; clear hS; go_simp; with_reducible rfl)
 try simp only [clL]
 refine a0e rfl rfl rfl (fun _ => rfl) (cw 4 (elN m z1)) (fun wx hS => St.rangeL hS 9 rfl 0 _ dZl) Tryz.underlying59 rfl (by kernel_rfl) ?_
 try simp only [clL]
 refine a0e rfl rfl rfl (fun _ => rfl) (cw 4 (elN m z1)) (fun wx hS => St.rangeL hS 9 rfl 0 _ dZl) Tryz.underlying59 rfl (by kernel_rfl) ?_
 try simp only [clL]
 refine a0c rfl rfl rfl Tryz.call122 (fun w hS hR => f0j m gp _ HOK.out (HPM.out.keep hS.fr id) d X h1 Hh1.out) (fun _ => rfl) ?_
 try simp only [clL]
 refine a0c rfl rfl rfl Tryz.call77 (fun w hS hR => b0Q m gp _ HOK.out (HPM.out.keep hS.fr id) ee h1 h2 Hh2.out) (fun _ => rfl) ?_
 try simp only [clL]
 refine a0c rfl rfl rfl Tryz.call122 (fun w hS hR => f0j m gp _ HOK.out (HPM.out.keep hS.fr id) h2 k3 Y HY.out) (fun _ => rfl) ?_
 try simp only [clL]
 refine a0c rfl rfl rfl Tryz.call90 (fun w hS hR => d0j m gp _ HOK.out (HPM.out.keep hS.fr id) z1 z1 Z HZ.out) (fun _ => rfl) ?_
 try simp only [clL]
 refine a0n rfl rfl (fun _ => b0z rfl _ (e0p _ _ _)) ?_
 try simp only [clL]
 refine a0y fun xq w25 st25 hR => ?_
 try dsimp only
 clear hR xq
 refine a0r rfl rfl ?_
 refine a0j st25 1 rfl rfl rfl rfl (by simp [a0a]) (by kernel_rfl) (a0Z _ _ _) ?_
 intro w26 st26
 try simp only [List.set_cons_zero, List.set_cons_succ] at st26
 clear st25
 try simp only [Act.put]
 refine a0k ?_
 refine NoPanic.normal ?_
 have hr := st26.at 1 rfl
 have hfr := st26.fr
 clear st26
 go_wp2_with fail
 exact bodyPost_ret (a0F rfl rfl hr Tryz.underlying78 rfl (by kernel_rfl)) rfl ⟨rfl, hfr⟩
end
section
open Go.RowKit Go.Mv Mvp
theorem t0u (m : Md) (gp : Nat) (w : World) (hok : m.Ok) (hpm : Has w gp (mdL m) 115) (x : Nat) (hr : c0E m.M x = true) :
  Calls Tryz.prog 120 #[.pointer (some ⟨gp, 0, none⟩), i4 (elN m x)] w fun e w' => e = .returned (.tuple #[i4 (elN m (rtV m.M x)), .bool true]) ∧ Fr Nob w w' := by
 unfold c0E at hr
 unfold rtV
 unfold rtN at *
 generalize hn : m.M / 4 + 1 = n at *
 by_cases hb : x ^ n % m.M % 2 = 1
 ·rw [if_pos hb]; exact q0h m gp w hok hpm x n hn hr hb
 ·rw [if_neg hb]; exact o0n m gp w hok hpm x n hn hr (by omega)
theorem t0v (m : Md) (gp : Nat) (w : World) (hok : m.Ok) (hpm : Has w gp (mdL m) 115) (x : Nat) (hr : c0E m.M x = false) :
  Calls Tryz.prog 120 #[.pointer (some ⟨gp, 0, none⟩), i4 (elN m x)] w fun e w' => e = .returned (.tuple #[i4 0, .bool false]) ∧ Fr Nob w w' := by
 unfold c0E at hr
 unfold rtN at *
 exact o0m m gp w hok hpm x _ rfl hr
attribute [local irreducible] a0J lw mix cw b0t b0G b0q a0P a0u beN laid b0o b0H a0M a0V elN mdL b0R rtN c0E rtV
end
section
open Go.RowKit Go.Mv Mvp
attribute [local irreducible] a0J lw mix cw b0t b0G b0q a0P a0u beN laid b0o b0H a0M a0V elN mdL b0R rtN rtV c0E
theorem z0j (m : Md) (gc gp bx by_ : Nat) (w : World) (hok : m.Ok) (hcv : Has w gc (e0A m gp bx by_) 86) (hpm : Has w gp (mdL m) 115) (x xx x3 cv : Nat) (exx : x * x = xx) (ex3 : xx * x = x3) (ecv : x3 + 7 = cv) (hr : c0E m.M cv = true) :
  Calls Tryz.prog 99 #[.pointer (some ⟨gc, 0, none⟩), i4 (elN m x)] w fun e w' => e = .returned (.tuple #[ptV m x (rtV m.M cv) 1, .bool true]) ∧ Fr Nob w w' := by
 have HOK := qH hok
 have HCV := qH hcv
 have HPM := qH hpm
 clear hok hcv hpm
 have HR := qH hr
 have Hxx := qH exx
 have Hx3 := qH ex3
 have Hcv := qH ecv
 clear hr exx ex3 ecv
 have st0 := St.start Nob w
 go_enter Tryz.func99, Tryz.ntmps99
 go_wp2_with (with_reducible refine wSk 3 ?_)
 refine a0m st0 rfl rfl rfl (cw 4 (elN m x)) rfl ?_
 intro g3 w1 st1
 clear st0
 go_wp2_with (with_reducible refine wSk 4 ?_)
 refine a0b st1 rfl rfl (z := zAc) (by kernel_rfl) (cw 12 0) (by rw [a0f]; rfl) ?_
 intro g4 w2 st2
 clear st1
 go_wp2_with fail
 refine wp_region_noPanic ?_
 refine a0g st2 31 [.o 29, .w 0, .w 1, .w 2, .t 3, .w 4, .w 5, .w 6, .t 7, .w 8, .w 9, .w 10, .t 11, .w 12, .w 13, .w 14, .t 15, .t 16, .t 18, .w 20, .w 21, .w 22, .t 23, .c 17, .c 19, .c 24, .c 25, .w 26, .w 27, .w 28, .j 29] (.r 30 (.m 31 .nil)) (by kernel_rfl) (by kernel_rfl) (fun _ _ _ _ _ h => h) ?_
 clear st2
 refine b0e rfl rfl rfl h0O (cw 4 0) rfl ?_
 try simp only [clL]
 iterate 3 (refine a0n (v := ?_) rfl rfl (fun xq wx => ?_) ?_; rotate_left 1; · (go_simp; with_reducible rfl); try simp only [clL])
 refine b0a (v := ?_) rfl rfl (fun xq wx hS => ?_) ?_
 rotate_left 1
 ·(have hc := (HCV.out.keep (St.fr hS) id).cell (i := 0) rfl; clear hS; go_simp; with_reducible rfl)
 try simp only [clL]
 iterate 3 (refine a0n (v := ?_) rfl rfl (fun xq wx => ?_) ?_; rotate_left 1; · (go_simp; with_reducible rfl); try simp only [clL])
 refine b0a (v := ?_) rfl rfl (fun xq wx hS => ?_) ?_
 rotate_left 1
 ·(have hc := (HCV.out.keep (St.fr hS) id).cell (i := 0) rfl; clear hS; go_simp; with_reducible rfl)
 try simp only [clL]
 iterate 3 (refine a0n (v := ?_) rfl rfl (fun xq wx => ?_) ?_; rotate_left 1; · (go_simp; with_reducible rfl); try simp only [clL])
 refine b0a (v := ?_) rfl rfl (fun xq wx hS => ?_) ?_
 rotate_left 1
 ·(have hc := (HCV.out.keep (St.fr hS) id).cell (i := 0) rfl; clear hS; go_simp; with_reducible rfl)
 try simp only [clL]
 iterate 3 (refine a0n (v := ?_) rfl rfl (fun xq wx => ?_) ?_; rotate_left 1; · (go_simp; with_reducible rfl); try simp only [clL])
 refine b0a (v := ?_) rfl rfl (fun xq wx hS => ?_) ?_
 rotate_left 1
 ·(have hc := (HCV.out.keep (St.fr hS) id).cell (i := 0) rfl; clear hS; go_simp; with_reducible rfl)
 try simp only [clL]
 refine a0e rfl rfl rfl (fun _ => rfl) (cw 4 (elN m x)) (fun wx hS => St.rangeL hS 0 rfl 0 _ dZl) Tryz.underlying59 rfl (by kernel_rfl) ?_
 try simp only [clL]
 refine a0e rfl rfl rfl (fun _ => rfl) (cw 4 (elN m x)) (fun wx hS => St.rangeL hS 0 rfl 0 _ dZl) Tryz.underlying59 rfl (by kernel_rfl) ?_
 try simp only [clL]
 iterate 3 (refine a0n (v := ?_) rfl rfl (fun xq wx => ?_) ?_; rotate_left 1; · (go_simp; with_reducible rfl); try simp only [clL])
 refine a0e rfl rfl rfl (fun _ => rfl) (cw 4 (elN m 7)) (fun wx hS => (HCV.out.keep (St.fr hS) id).range 1 _ (k0M m gp bx by_)) Tryz.underlying59 rfl (by kernel_rfl) ?_
 try simp only [clL]
 refine a0c rfl rfl rfl Tryz.call76 (fun w hS hR => b0A m gp _ HOK.out (HPM.out.keep hS.fr id) x xx Hxx.out) (fun _ => rfl) ?_
 try simp only [clL]
 refine a0c rfl rfl rfl Tryz.call77 (fun w hS hR => b0Q m gp _ HOK.out (HPM.out.keep hS.fr id) xx x x3 Hx3.out) (fun _ => rfl) ?_
 try simp only [clL]
 refine a0c rfl rfl rfl Tryz.call90 (fun w hS hR => d0j m gp _ HOK.out (HPM.out.keep hS.fr id) x3 7 cv Hcv.out) (fun _ => rfl) ?_
 try simp only [clL]
 refine a0c rfl rfl rfl Tryz.call120 (fun w hS hR => t0u m gp _ HOK.out (HPM.out.keep hS.fr id) cv HR.out) (fun _ => rfl) ?_
 try simp only [clL]
 iterate 3 (refine a0n (v := ?_) rfl rfl (fun xq wx => ?_) ?_; rotate_left 1; · (go_simp; with_reducible rfl); try simp only [clL])
 refine b0f List.mem_cons_self fun g6 => ?_
 simp only [upd, reduceIte]
 refine a0y fun xq w3 st3 hR => ?_
 try dsimp only
 clear hR xq
 refine a0A rfl rfl ?_
 refine a0j st3 2 rfl rfl rfl rfl (by simp [a0a]) (by kernel_rfl) (a0i _ _) ?_
 intro w4 st4
 repeat (first | simp only [List.cons_append] at st4 | simp only [List.nil_append] at st4 | simp only [List.set_cons_succ] at st4 | simp only [List.set_cons_zero] at st4)
 clear st3
 refine ⟨by first | exact st4 | exact St.less st4 (by simp), ?_⟩
 try simp only [Act.put]
 refine a0r rfl rfl ?_
 go_simp
 try simp only [clL]
 refine a0k ?_
 refine NoPanic.normal ?_
 go_wp2_with fail
 refine wp_region_noPanic ?_
 refine a0g st4 9 [.t 0, .t 1, .w 2, .w 3, .w 4, .t 5, .w 8, .c 6, .w 7] (.m 9 (.w 10 .nil)) (by kernel_rfl) (by kernel_rfl) (fun _ _ _ _ _ h => h) ?_
 clear st4
 refine a0e rfl rfl rfl (fun _ => rfl) (cw 4 (elN m x)) (fun wx hS => St.rangeL hS 0 rfl 0 _ dZl) Tryz.underlying59 rfl (by kernel_rfl) ?_
 try simp only [clL]
 refine a0e rfl rfl rfl (fun _ => rfl) (cw 4 (elN m (rtV m.M cv))) (fun wx hS => St.rangeL hS 2 rfl 0 _ dZl) Tryz.underlying59 rfl (by kernel_rfl) ?_
 try simp only [clL]
 iterate 3 (refine a0n (v := ?_) rfl rfl (fun xq wx => ?_) ?_; rotate_left 1; · (go_simp; with_reducible rfl); try simp only [clL])
 refine b0a (v := ?_) rfl rfl (fun xq wx hS => ?_) ?_
 rotate_left 1
 ·(have hc := (HCV.out.keep (St.fr hS) id).cell (i := 0) rfl; clear hS; go_simp; with_reducible rfl)
 try simp only [clL]
 refine a0n (v := ?_) rfl rfl (fun xq wx => ?_) ?_; rotate_left 1; · (go_simp; with_reducible rfl)
 try simp only [clL]
 refine a0c rfl rfl rfl Tryz.call71 (fun w hS hR => d0M m gp _ HOK.out (HPM.out.keep hS.fr id)) (fun _ => rfl) ?_
 try simp only [clL]
 refine a0n rfl rfl (fun _ => b0z rfl _ (e0p _ _ _)) ?_
 try simp only [clL]
 refine a0y fun xq w5 st5 hR => ?_
 try dsimp only
 clear hR xq
 refine a0r rfl rfl ?_
 refine a0j st5 1 rfl rfl rfl rfl (by simp [a0a]) (by kernel_rfl) (a0Z _ _ _) ?_
 intro w6 st6
 try simp only [List.set_cons_zero, List.set_cons_succ] at st6
 clear st5
 try simp only [Act.put]
 refine a0l (v := ?_) rfl rfl (fun wx => ?_) ?_; rotate_left 1; · (go_simp; with_reducible rfl)
 try simp only [clL]
 refine a0k ?_
 refine NoPanic.normal ?_
 have hr := st6.at 1 rfl
 have hfr := st6.fr
 clear st6
 go_wp2_with fail
 exact bodyPost_ret (b0i rfl rfl hr Tryz.underlying78 rfl (by kernel_rfl) rfl) rfl ⟨by unfold ptV ptL; rfl, hfr⟩
theorem z0k (m : Md) (gc gp bx by_ : Nat) (w : World) (hok : m.Ok) (hcv : Has w gc (e0A m gp bx by_) 86) (hpm : Has w gp (mdL m) 115) (x xx x3 cv : Nat) (exx : x * x = xx) (ex3 : xx * x = x3) (ecv : x3 + 7 = cv) (hr : c0E m.M cv = false) :
  Calls Tryz.prog 99 #[.pointer (some ⟨gc, 0, none⟩), i4 (elN m x)] w fun e w' => e = .returned (.tuple #[ptV m x (0) 1, .bool false]) ∧ Fr Nob w w' := by
 have HOK := qH hok
 have HCV := qH hcv
 have HPM := qH hpm
 clear hok hcv hpm
 have HR := qH hr
 have Hxx := qH exx
 have Hx3 := qH ex3
 have Hcv := qH ecv
 clear hr exx ex3 ecv
 have st0 := St.start Nob w
 go_enter Tryz.func99, Tryz.ntmps99
 go_wp2_with (with_reducible refine wSk 3 ?_)
 refine a0m st0 rfl rfl rfl (cw 4 (elN m x)) rfl ?_
 intro g3 w1 st1
 clear st0
 go_wp2_with (with_reducible refine wSk 4 ?_)
 refine a0b st1 rfl rfl (z := zAc) (by kernel_rfl) (cw 12 0) (by rw [a0f]; rfl) ?_
 intro g4 w2 st2
 clear st1
 go_wp2_with fail
 refine wp_region_noPanic ?_
 refine a0g st2 31 [.o 29, .w 0, .w 1, .w 2, .t 3, .w 4, .w 5, .w 6, .t 7, .w 8, .w 9, .w 10, .t 11, .w 12, .w 13, .w 14, .t 15, .t 16, .t 18, .w 20, .w 21, .w 22, .t 23, .c 17, .c 19, .c 24, .c 25, .w 26, .w 27, .w 28, .j 29] (.r 30 (.m 31 .nil)) (by kernel_rfl) (by kernel_rfl) (fun _ _ _ _ _ h => h) ?_
 clear st2
 refine b0e rfl rfl rfl h0O (cw 4 0) rfl ?_
 try simp only [clL]
 iterate 3 (refine a0n (v := ?_) rfl rfl (fun xq wx => ?_) ?_; rotate_left 1; · (go_simp; with_reducible rfl); try simp only [clL])
 refine b0a (v := ?_) rfl rfl (fun xq wx hS => ?_) ?_
 rotate_left 1
 ·(have hc := (HCV.out.keep (St.fr hS) id).cell (i := 0) rfl; clear hS; go_simp; with_reducible rfl)
 try simp only [clL]
 iterate 3 (refine a0n (v := ?_) rfl rfl (fun xq wx => ?_) ?_; rotate_left 1; · (go_simp; with_reducible rfl); try simp only [clL])
 refine b0a (v := ?_) rfl rfl (fun xq wx hS => ?_) ?_
 rotate_left 1
 ·(have hc := (HCV.out.keep (St.fr hS) id).cell (i := 0) rfl; clear hS; go_simp; with_reducible rfl)
 try simp only [clL]
 iterate 3 (refine a0n (v := ?_) rfl rfl (fun xq wx => ?_) ?_; rotate_left 1; · (go_simp; with_reducible rfl); try simp only [clL])
 refine b0a (v := ?_) rfl rfl (fun xq wx hS => ?_) ?_
 rotate_left 1
 ·(have hc := (HCV.out.keep (St.fr hS) id).cell (i := 0) rfl; clear hS; go_simp; with_reducible rfl)
 try simp only [clL]
 iterate 3 (refine a0n (v := ?_) rfl rfl (fun xq wx => ?_) ?_; rotate_left 1; · (go_simp; with_reducible rfl); try simp only [clL])
 refine b0a (v := ?_) rfl rfl (fun xq wx hS => ?_) ?_
 rotate_left 1
 ·(have hc := (HCV.out.keep (St.fr hS) id).cell (i := 0) rfl; clear hS; go_simp; with_reducible rfl)
 try simp only [clL]
 refine a0e rfl rfl rfl (fun _ => rfl) (cw 4 (elN m x)) (fun wx hS => St.rangeL hS 0 rfl 0 _ dZl) Tryz.underlying59 rfl (by kernel_rfl) ?_
 try simp only [clL]
 refine a0e rfl rfl rfl (fun _ => rfl) (cw 4 (elN m x)) (fun wx hS => St.rangeL hS 0 rfl 0 _ dZl) Tryz.underlying59 rfl (by kernel_rfl) ?_
 try simp only [clL]
 iterate 3 (refine a0n (v := ?_) rfl rfl (fun xq wx => ?_) ?_; rotate_left 1; · (go_simp; with_reducible rfl); try simp only [clL])
 refine a0e rfl rfl rfl (fun _ => rfl) (cw 4 (elN m 7)) (fun wx hS => (HCV.out.keep (St.fr hS) id).range 1 _ (k0M m gp bx by_)) Tryz.underlying59 rfl (by kernel_rfl) ?_
 try simp only [clL]
 refine a0c rfl rfl rfl Tryz.call76 (fun w hS hR => b0A m gp _ HOK.out (HPM.out.keep hS.fr id) x xx Hxx.out) (fun _ => rfl) ?_
 try simp only [clL]
 refine a0c rfl rfl rfl Tryz.call77 (fun w hS hR => b0Q m gp _ HOK.out (HPM.out.keep hS.fr id) xx x x3 Hx3.out) (fun _ => rfl) ?_
 try simp only [clL]
 refine a0c rfl rfl rfl Tryz.call90 (fun w hS hR => d0j m gp _ HOK.out (HPM.out.keep hS.fr id) x3 7 cv Hcv.out) (fun _ => rfl) ?_
 try simp only [clL]
 refine a0c rfl rfl rfl Tryz.call120 (fun w hS hR => t0v m gp _ HOK.out (HPM.out.keep hS.fr id) cv HR.out) (fun _ => rfl) ?_
 try simp only [clL]
 iterate 3 (refine a0n (v := ?_) rfl rfl (fun xq wx => ?_) ?_; rotate_left 1; · (go_simp; with_reducible rfl); try simp only [clL])
 refine b0f List.mem_cons_self fun g6 => ?_
 simp only [upd, reduceIte]
 refine a0y fun xq w3 st3 hR => ?_
 try dsimp only
 clear hR xq
 refine a0A rfl rfl ?_
 refine a0j st3 2 rfl rfl rfl rfl (by simp [a0a]) (by kernel_rfl) (a0i _ _) ?_
 intro w4 st4
 repeat (first | simp only [List.cons_append] at st4 | simp only [List.nil_append] at st4 | simp only [List.set_cons_succ] at st4 | simp only [List.set_cons_zero] at st4)
 clear st3
 refine ⟨by first | exact st4 | exact St.less st4 (by simp), ?_⟩
 try simp only [Act.put]
 refine a0r rfl rfl ?_
 go_simp
 try simp only [clL]
 refine a0k ?_
 refine NoPanic.normal ?_
 go_wp2_with fail
 refine wp_region_noPanic ?_
 refine a0g st4 9 [.t 0, .t 1, .w 2, .w 3, .w 4, .t 5, .w 8, .c 6, .w 7] (.m 9 (.w 10 .nil)) (by kernel_rfl) (by kernel_rfl) (fun _ _ _ _ _ h => h) ?_
 clear st4
 refine a0e rfl rfl rfl (fun _ => rfl) (cw 4 (elN m x)) (fun wx hS => St.rangeL hS 0 rfl 0 _ dZl) Tryz.underlying59 rfl (by kernel_rfl) ?_
 try simp only [clL]
 refine a0e rfl rfl rfl (fun _ => rfl) (cw 4 0) (fun wx hS => St.rangeL hS 2 rfl 0 _ dZl) Tryz.underlying59 rfl (by kernel_rfl) ?_
 try simp only [clL]
 iterate 3 (refine a0n (v := ?_) rfl rfl (fun xq wx => ?_) ?_; rotate_left 1; · (go_simp; with_reducible rfl); try simp only [clL])
 refine b0a (v := ?_) rfl rfl (fun xq wx hS => ?_) ?_
 rotate_left 1
 ·(have hc := (HCV.out.keep (St.fr hS) id).cell (i := 0) rfl; clear hS; go_simp; with_reducible rfl)
 try simp only [clL]
 refine a0n (v := ?_) rfl rfl (fun xq wx => ?_) ?_; rotate_left 1; · (go_simp; with_reducible rfl)
 try simp only [clL]
 refine a0c rfl rfl rfl Tryz.call71 (fun w hS hR => d0M m gp _ HOK.out (HPM.out.keep hS.fr id)) (fun _ => rfl) ?_
 try simp only [clL]
 refine a0n rfl rfl (fun _ => b0z rfl _ (e0p _ _ _)) ?_
 try simp only [clL]
 refine a0y fun xq w5 st5 hR => ?_
 try dsimp only
 clear hR xq
 refine a0r rfl rfl ?_
 refine a0j st5 1 rfl rfl rfl rfl (by simp [a0a]) (by kernel_rfl) (a0Z _ _ _) ?_
 intro w6 st6
 try simp only [List.set_cons_zero, List.set_cons_succ] at st6
 clear st5
 try simp only [Act.put]
 refine a0l (v := ?_) rfl rfl (fun wx => ?_) ?_; rotate_left 1; · (go_simp; with_reducible rfl)
 try simp only [clL]
 refine a0k ?_
 refine NoPanic.normal ?_
 have hr := st6.at 1 rfl
 have hfr := st6.fr
 clear st6
 go_wp2_with fail
 exact bodyPost_ret (b0i rfl rfl hr Tryz.underlying78 rfl (by kernel_rfl) rfl) rfl ⟨by unfold ptV ptL; rw [d0m]; rfl, hfr⟩
end
end Go.Proofs.YtemcankmggmgoaaGreatDoor
namespace Mvq
def IsP (p : Nat) : Prop := 1 < p ∧ ∀ d, d ∣ p → d = 1 ∨ d = p
def chk (n : Nat) : Nat → Nat → Bool
 | 0, lo => n % lo != 0
 | k + 1, lo => chk n k lo && chk n k (lo + 2 ^ k)
theorem h0p (n : Nat) : ∀ (k lo : Nat), chk n k lo = true → ∀ d, lo ≤ d → d < lo + 2 ^ k → n % d ≠ 0
 | 0, lo, h, d, h1, h2 => by
  have : d = lo := by simp at h2; omega
  subst this; simpa [chk] using h
 | k + 1, lo, h, d, h1, h2 => by
  simp only [chk, Bool.and_eq_true] at h
  rw [Nat.pow_succ] at h2
  by_cases hd : d < lo + 2 ^ k
  ·exact h0p n k lo h.1 d h1 hd
  ·exact h0p n k _ h.2 d (by omega) (by omega)
theorem h0q (n k : Nat) (h1 : 1 < n) (hc : chk n k 2 = true) (hn : n < (2 + 2 ^ k) * (2 + 2 ^ k)) : IsP n := by
 refine ⟨h1, fun d hd => ?_⟩
 obtain ⟨e, he⟩ := hd
 have key : ∀ x, 2 ≤ x → x < 2 + 2 ^ k → ¬ x ∣ n := fun x a b hx => h0p n k 2 hc x a b (Nat.mod_eq_zero_of_dvd hx)
 by_cases d1 : d = 1
 ·exact Or.inl d1
 by_cases e1 : e = 1
 ·right; subst e1; omega
 have d0 : d ≠ 0 := by intro h; subst h; omega
 have e0 : e ≠ 0 := by intro h; subst h; omega
 exfalso
 by_cases hde : d < 2 + 2 ^ k
 ·exact key d (by omega) hde ⟨e, he⟩
 ·by_cases hee : e < 2 + 2 ^ k
  ·exact key e (by omega) hee ⟨d, by rw [Nat.mul_comm]; exact he⟩
  ·have : (2 + 2 ^ k) * (2 + 2 ^ k) ≤ d * e := Nat.mul_le_mul (by omega) (by omega)
   omega
theorem IsP.cop {p a : Nat} (hp : IsP p) (ha : ¬ p ∣ a) : Nat.Coprime p a := by
 rcases hp.2 (Nat.gcd p a) (Nat.gcd_dvd_left p a) with h | h
 ·exact h
 ·exact absurd (h ▸ Nat.gcd_dvd_right p a) ha
theorem IsP.euclid {p a b : Nat} (hp : IsP p) (h : p ∣ a * b) : p ∣ a ∨ p ∣ b := by
 by_cases ha : p ∣ a
 ·exact Or.inl ha
 ·exact Or.inr ((hp.cop ha).dvd_of_dvd_mul_left h)
def ch : Nat → Nat → Nat
 | _, 0 => 1
 | 0, _ + 1 => 0
 | n + 1, k + 1 => ch n k + ch n (k + 1)
theorem j0r (n : Nat) : ch n 0 = 1 := by cases n <;> rfl
theorem i0r : ∀ (n k : Nat), n < k → ch n k = 0
 | 0, 0, h => by omega
 | 0, _ + 1, _ => rfl
 | n + 1, 0, h => by omega
 | n + 1, k + 1, h => by rw [ch, i0r n k (by omega), i0r n (k + 1) (by omega)]
theorem r0a : ∀ n : Nat, ch n n = 1
 | 0 => rfl
 | n + 1 => by rw [ch, r0a n, i0r n (n + 1) (by omega)]
theorem f0k : ∀ (n k : Nat), (k + 1) * ch (n + 1) (k + 1) = (n + 1) * ch n k
 | 0, 0 => rfl
 | 0, k + 1 => by rw [i0r (0 + 1) (k + 1 + 1) (by omega), i0r 0 (k + 1) (by omega)]; simp
 | n + 1, 0 => by
  have h := f0k n 0
  have e : ch (n + 1 + 1) (0 + 1) = ch (n + 1) 0 + ch (n + 1) (0 + 1) := rfl
  rw [e, j0r]
  rw [j0r] at h
  omega
 | n + 1, k + 1 => by
  have h1 := f0k n k
  have h2 := f0k n (k + 1)
  have e : ch (n + 1 + 1) (k + 1 + 1) = ch (n + 1) (k + 1) + ch (n + 1) (k + 1 + 1) := rfl
  have e2 : ch (n + 1) (k + 1) = ch n k + ch n (k + 1) := rfl
  rw [e, Nat.mul_add]
  have h3 : (k + 1 + 1) * ch (n + 1) (k + 1) = (n + 1) * ch n k + ch (n + 1) (k + 1) := by rw [← h1, Nat.succ_mul]
  rw [h3, h2, Nat.succ_mul (n + 1)]
  have : (n + 1) * ch (n + 1) (k + 1) = (n + 1) * ch n k + (n + 1) * ch n (k + 1) := by rw [e2, Nat.mul_add]
  omega
def c0t : Nat → (Nat → Nat) → Nat
 | 0, _ => 0
 | n + 1, f => c0t n f + f n
theorem d0R (f : Nat → Nat) : ∀ n, c0t (n + 1) f = f 0 + c0t n (fun k => f (k + 1))
 | 0 => by simp [c0t]
 | n + 1 => by rw [c0t, d0R f n]; simp only [c0t]; omega
theorem k0O (f g : Nat → Nat) : ∀ n, c0t n (fun k => f k + g k) = c0t n f + c0t n g
 | 0 => rfl
 | n + 1 => by simp only [c0t]; rw [k0O f g n]; omega
theorem k0P (f : Nat → Nat) (a : Nat) : ∀ n, c0t n (fun k => f k * a) = c0t n f * a
 | 0 => by simp [c0t]
 | n + 1 => by simp only [c0t]; rw [k0P f a n, Nat.add_mul]
theorem h0r (f g : Nat → Nat) : ∀ n, (∀ k, k < n → f k = g k) → c0t n f = c0t n g
 | 0, _ => rfl
 | n + 1, h => by simp only [c0t]; rw [h0r f g n (fun k hk => h k (by omega)), h n (by omega)]
theorem k0Q (f : Nat → Nat) (p : Nat) : ∀ n, (∀ k, k < n → p ∣ f k) → p ∣ c0t n f
 | 0, _ => ⟨0, rfl⟩
 | n + 1, h => Nat.dvd_add (k0Q f p n (fun k hk => h k (by omega))) (h n (by omega))
theorem x0Z (a : Nat) : ∀ n, (a + 1) ^ n = c0t (n + 1) (fun k => ch n k * a ^ k)
 | 0 => by simp [c0t, ch]
 | n + 1 => by
  rw [Nat.pow_succ, Nat.mul_add, Nat.mul_one, x0Z a n]
  rw [d0R (fun k => ch (n + 1) k * a ^ k) (n + 1)]
  have e : c0t (n + 1) (fun k => ch (n + 1) (k + 1) * a ^ (k + 1)) = c0t (n + 1) (fun k => ch n k * a ^ k * a) + c0t (n + 1) (fun k => ch n (k + 1) * a ^ (k + 1)) := by
   rw [← k0O]
   refine h0r _ _ _ fun k _ => ?_
   rw [show ch (n + 1) (k + 1) = ch n k + ch n (k + 1) from rfl, Nat.add_mul, Nat.pow_succ, Nat.mul_assoc]
  have e2 := d0R (fun k => ch n k * a ^ k) (n + 1)
  have e3 : c0t (n + 1 + 1) (fun k => ch n k * a ^ k) = c0t (n + 1) (fun k => ch n k * a ^ k) := by
   rw [c0t, i0r n (n + 1) (by omega), Nat.zero_mul, Nat.add_zero]
  rw [e, k0P]
  simp only [j0r, Nat.pow_zero] at e2 ⊢
  omega
theorem y0a {p k : Nat} (hp : IsP p) (h0 : 0 < k) (hk : k < p) : p ∣ ch p k := by
 obtain ⟨q, rfl⟩ : ∃ q, p = q + 1 := ⟨p - 1, by have := hp.1; omega⟩
 obtain ⟨j, rfl⟩ : ∃ j, k = j + 1 := ⟨k - 1, by omega⟩
 have h := f0k q j
 have hd : (q + 1) ∣ (j + 1) * ch (q + 1) (j + 1) := ⟨_, h⟩
 rcases hp.euclid hd with h1 | h1
 ·exact absurd (Nat.le_of_dvd (by omega) h1) (by omega)
 ·exact h1
theorem z0S {p : Nat} (hp : IsP p) (a : Nat) : (a + 1) ^ p % p = (a ^ p + 1) % p := by
 obtain ⟨q, rfl⟩ : ∃ q, p = q + 1 := ⟨p - 1, by have := hp.1; omega⟩
 rw [x0Z, c0t, r0a, Nat.one_mul, d0R]
 obtain ⟨c, hc⟩ := k0Q (fun k => ch (q + 1) (k + 1) * a ^ (k + 1)) (q + 1) q (fun k hk => Nat.dvd_trans (y0a hp (by omega) (by omega)) (Nat.dvd_mul_right _ _))
 rw [hc, j0r, Nat.pow_zero, Nat.one_mul]
 rw [show 1 + (q + 1) * c + a ^ (q + 1) = a ^ (q + 1) + 1 + (q + 1) * c by omega, Nat.add_mul_mod_self_left]
theorem m0j {p : Nat} (hp : IsP p) : ∀ a, a ^ p % p = a % p
 | 0 => by rw [Nat.zero_pow (by have := hp.1; omega)]
 | a + 1 => by rw [z0S hp, Nat.add_mod, m0j hp a, ← Nat.add_mod]
theorem y0b {p a x y : Nat} (hp : IsP p) (ha : ¬ p ∣ a) (h : a * x % p = a * y % p) : x % p = y % p := by
 have key : ∀ x y, x ≤ y → a * x % p = a * y % p → x % p = y % p := by
  intro x y hxy h
  have hd : p ∣ a * (y - x) := by
   have := Nat.sub_mod_eq_zero_of_mod_eq h.symm
   rw [← Nat.mul_sub] at this
   exact Nat.dvd_of_mod_eq_zero this
  obtain ⟨c, hc⟩ := (hp.euclid hd).resolve_left ha
  rw [show y = x + p * c by omega, Nat.add_mul_mod_self_left]
 rcases Nat.le_total x y with h1 | h1
 ·exact key x y h1 h
 ·exact (key y x h1 h.symm).symm
theorem n0B {p a : Nat} (hp : IsP p) (ha : ¬ p ∣ a) : a ^ (p - 1) % p = 1 := by
 have h1 : 1 % p = 1 := Nat.mod_eq_of_lt hp.1
 have h2 : a ^ (p - 1) % p = 1 % p := by
  refine y0b hp ha ?_
  rw [Nat.mul_one, Nat.mul_comm, ← Nat.pow_succ, show (p - 1).succ = p by have := hp.1; omega]
  exact m0j hp a
 rw [h2, h1]
def pm (N : Nat) : Nat → Nat → Nat → Nat
 | 0, _, _ => 1 % N
 | k + 1, a, e => if e % 2 = 1 then pm N k (a * a % N) (e / 2) * a % N else pm N k (a * a % N) (e / 2)
theorem t0w (N : Nat) : ∀ k a e, e < 2 ^ k → pm N k a e = a ^ e % N
  | 0, a, e, h => by have : e = 0 := by simp at h; omega
                     subst this; rfl
  | k + 1, a, e, h => by
    have h2 : e / 2 < 2 ^ k := by rw [Nat.pow_succ] at h; omega
    have e1 : pm N k (a * a % N) (e / 2) = a ^ (2 * (e / 2)) % N := by
      rw [t0w N k _ _ h2, ← Nat.pow_mod, ← Nat.pow_two, ← Nat.pow_mul]
    rw [pm, e1]
    split
    · rename_i ho
      rw [Nat.mod_mul_mod, ← Nat.pow_succ]
      congr 2; omega
    · congr 2; omega
theorem h0s {N b : Nat} (k : Nat) (h : b % N = 1 % N) : b ^ k % N = 1 % N := by
 rw [Nat.pow_mod, h, ← Nat.pow_mod, Nat.one_pow]
theorem w0f {N b : Nat} (m n : Nat) (hm : b ^ m % N = 1 % N) (hn : b ^ n % N = 1 % N) : b ^ Nat.gcd m n % N = 1 % N := by
 induction m, n using Nat.gcd.induction with
 | H0 n => rw [Nat.gcd_zero_left]; exact hn
 | H1 m n h ih =>
  rw [Nat.gcd_rec]
  refine ih ?_ hm
  have e : b ^ n = b ^ (n % m) * (b ^ m) ^ (n / m) := by
   rw [← Nat.pow_mul, ← Nat.pow_add]; congr 1; have := Nat.mod_add_div n m; omega
  rw [e, Nat.mul_mod, h0s (n / m) hm, ← Nat.mul_mod, Nat.mul_one] at hn
  exact hn
theorem z0l {N r a d : Nat} (hr : IsP r) (hd : IsP d) (hdN : d ∣ N) (hN : 1 < N) (hrN : (N - 1) % r = 0)
  (h1 : a ^ (N - 1) % N = 1) (h2 : Nat.gcd (a ^ ((N - 1) / r) % N + (N - 1)) N = 1) : r ∣ d - 1 := by
 refine Classical.byContradiction fun hn => ?_
 have hm1 : ∀ x, x % N = 1 → x % d = 1 % d := fun x hx => by
  obtain ⟨c, hc⟩ := hdN
  have h3 : x % N % d = x % d := Nat.mod_mod_of_dvd x ⟨c, hc⟩
  rw [← h3, hx]
 have hd0 : ¬ d ∣ a := by
  intro h
  have h3 := hm1 _ h1
  have hpw : a ∣ a ^ (N - 1) := by
   obtain ⟨k, hk⟩ : ∃ k, N - 1 = k + 1 := ⟨N - 2, by omega⟩
   rw [hk, Nat.pow_succ]; exact Nat.dvd_mul_left _ _
  have h4 : a ^ (N - 1) % d = 0 := Nat.mod_eq_zero_of_dvd (Nat.dvd_trans h hpw)
  rw [h4, Nat.mod_eq_of_lt hd.1] at h3
  omega
 have e1 : (a ^ ((N - 1) / r)) ^ r % d = 1 % d := by
  rw [← Nat.pow_mul, Nat.div_mul_cancel (Nat.dvd_of_mod_eq_zero hrN)]
  exact hm1 _ h1
 have e2 : (a ^ ((N - 1) / r)) ^ (d - 1) % d = 1 % d := by
  rw [← Nat.pow_mul, Nat.mul_comm, Nat.pow_mul]
  exact h0s _ (by rw [n0B hd hd0, Nat.mod_eq_of_lt hd.1])
 have e3 := w0f _ _ e1 e2
 rw [show Nat.gcd r (d - 1) = 1 from hr.cop hn, Nat.pow_one] at e3
 have e4 : d ∣ a ^ ((N - 1) / r) % N + (N - 1) := by
  refine Nat.dvd_of_mod_eq_zero ?_
  have e5 : (a ^ ((N - 1) / r) % N) % d = 1 % d := by rw [Nat.mod_mod_of_dvd _ hdN]; exact e3
  rw [Nat.add_mod, e5, ← Nat.add_mod, show 1 + (N - 1) = N by omega]
  exact Nat.mod_eq_zero_of_dvd hdN
 have e6 : d ∣ 1 := by rw [← h2]; exact Nat.dvd_gcd e4 hdN
 have := Nat.le_of_dvd (by omega) e6
 have := hd.1
 omega
theorem f0U : ∀ (n : Nat), 1 < n → ∃ d, IsP d ∧ d ∣ n := by
 intro n
 induction n using Nat.strongRecOn with
 | _ n ih =>
  intro h
  by_cases hp : IsP n
  ·exact ⟨n, hp, Nat.dvd_refl n⟩
  ·have : ∃ d, d ∣ n ∧ d ≠ 1 ∧ d ≠ n := by
    refine Classical.byContradiction fun hn => hp ⟨h, fun d hd => ?_⟩
    by_cases d1 : d = 1
    ·exact Or.inl d1
    ·exact Or.inr (Classical.byContradiction fun d2 => hn ⟨d, hd, d1, d2⟩)
   obtain ⟨d, hd, d1, d2⟩ := this
   have hle := Nat.le_of_dvd (by omega) hd
   have d0 : d ≠ 0 := by intro h0; subst h0; have := Nat.eq_zero_of_zero_dvd hd; omega
   obtain ⟨e, he, hed⟩ := ih d (by omega) (by omega)
   exact ⟨e, he, Nat.dvd_trans hed hd⟩
theorem m0k {N : Nat} (h : 1 < N) (hn : ¬ IsP N) : ∃ d, IsP d ∧ d ∣ N ∧ d * d ≤ N := by
 have : ∃ d, d ∣ N ∧ d ≠ 1 ∧ d ≠ N := by
  refine Classical.byContradiction fun hx => hn ⟨h, fun d hd => ?_⟩
  by_cases d1 : d = 1
  ·exact Or.inl d1
  ·exact Or.inr (Classical.byContradiction fun d2 => hx ⟨d, hd, d1, d2⟩)
 obtain ⟨d, ⟨e, he⟩, d1, d2⟩ := this
 have d0 : d ≠ 0 := by intro h0; subst h0; omega
 have e0 : e ≠ 0 := by intro h0; subst h0; omega
 have e1 : e ≠ 1 := by intro h0; subst h0; omega
 rcases Nat.le_total d e with hde | hde
 ·obtain ⟨f, hf, hfd⟩ := f0U d (by omega)
  refine ⟨f, hf, Nat.dvd_trans hfd ⟨e, he⟩, ?_⟩
  have hle := Nat.le_of_dvd (by omega) hfd
  rw [he]
  exact Nat.mul_le_mul hle (by omega)
 ·obtain ⟨f, hf, hfd⟩ := f0U e (by omega)
  refine ⟨f, hf, Nat.dvd_trans hfd ⟨d, by rw [Nat.mul_comm]; exact he⟩, ?_⟩
  have hle := Nat.le_of_dvd (by omega) hfd
  rw [he]
  exact Nat.mul_le_mul (by omega) hle
def w0g (N k r a : Nat) : Bool := (N - 1) % r == 0 && pm N k a (N - 1) == 1 && Nat.gcd (pm N k a ((N - 1) / r) + (N - 1)) N == 1
theorem t0x {N k r a : Nat} (h1 : 1 < N) (hk : N < 2 ^ k) (h : w0g N k r a = true) : (N - 1) % r = 0 ∧ a ^ (N - 1) % N = 1 ∧ Nat.gcd (a ^ ((N - 1) / r) % N + (N - 1)) N = 1 := by
 simp only [w0g, Bool.and_eq_true, beq_iff_eq] at h
 rw [t0w N k a (N - 1) (by omega), t0w N k a ((N - 1) / r) (by have := Nat.div_le_self (N - 1) r; omega)] at h
 exact ⟨h.1.1, h.1.2, h.2⟩
def h0T : List Nat → Nat
 | [] => 1
 | r :: l => r * h0T l
theorem k0R {x : Nat} : ∀ (l : List Nat), (∀ r, r ∈ l → IsP r) → l.Nodup → (∀ r, r ∈ l → r ∣ x) → h0T l ∣ x
 | [], _, _, _ => Nat.one_dvd _
 | r :: l, hp, hn, hd => by
  rw [List.nodup_cons] at hn
  have ih := k0R l (fun r hr => hp r (by simp [hr])) hn.2 (fun r hr => hd r (by simp [hr]))
  have hr := hp r (by simp)
  have hc : Nat.Coprime r (h0T l) := by
   refine hr.cop fun hx => ?_
   have : ∀ (l : List Nat), (∀ q, q ∈ l → IsP q) → r ∣ h0T l → r ∈ l := by
    intro l
    induction l with
    | nil => intro _ h; have := Nat.le_of_dvd (by decide) h; have := hr.1; simp [h0T] at *; omega
    | cons q l ih2 =>
     intro hq h
     rcases hr.euclid h with h1 | h1
     ·rcases (hq q (by simp)).2 r h1 with h2 | h2
      ·have := hr.1; omega
      ·simp [h2]
     ·simp [ih2 (fun q hq' => hq q (by simp [hq'])) h1]
   exact hn.1 (this l (fun r hr => hp r (by simp [hr])) hx)
  exact hc.mul_dvd_of_dvd_of_dvd (hd r (by simp)) ih
theorem j0s (N k : Nat) (l : List (Nat × Nat)) (h1 : 1 < N) (hk : N < 2 ^ k) (hp : ∀ x, x ∈ l → IsP x.1) (hn : (l.map (·.1)).Nodup)
  (hs : l.all (fun x => w0g N k x.1 x.2) = true) (hbig : N < h0T (l.map (·.1)) * h0T (l.map (·.1))) : IsP N := by
 refine Classical.byContradiction fun hno => ?_
 obtain ⟨d, hd, hdN, hdd⟩ := m0k h1 hno
 have hx : h0T (l.map (·.1)) ∣ d - 1 := by
  refine k0R _ (fun r hr => ?_) hn (fun r hr => ?_)
  ·obtain ⟨x, hx, rfl⟩ := List.mem_map.1 hr; exact hp x hx
  ·obtain ⟨x, hx, rfl⟩ := List.mem_map.1 hr
   have hst := t0x h1 hk (List.all_eq_true.1 hs x hx)
   exact z0l (hp x hx) hd hdN h1 hst.1 hst.2.1 hst.2.2
 have hle := Nat.le_of_dvd (by have := hd.1; omega) hx
 have : h0T (l.map (·.1)) * h0T (l.map (·.1)) ≤ d * d := Nat.mul_le_mul (by omega) (by omega)
 omega
end Mvq
namespace Mvq
theorem h0U : IsP 107590001 := h0q 107590001 14 (by decide) (by decide +kernel) (by decide)
theorem k0S : IsP 7240687 := h0q 7240687 12 (by decide) (by decide +kernel) (by decide)
theorem o0R : IsP 96557 := h0q 96557 9 (by decide) (by decide +kernel) (by decide)
theorem b0C : IsP 255515944373312847190720520512484175977 := by
 refine j0s 255515944373312847190720520512484175977 128 [(107590001, 2), (7240687, 2), (96557, 2)] (by decide) (by decide) (fun x hx => ?_) (by decide) (by decide +kernel) (by decide +kernel)
 simp only [List.mem_cons, List.not_mem_nil, or_false] at hx
 rcases hx with rfl | rfl | rfl
 ·exact h0U
 ·exact k0S
 ·exact o0R
theorem a0O : IsP 205115282021455665897114700593932402728804164701536103180137503955397371 := by
 refine j0s 205115282021455665897114700593932402728804164701536103180137503955397371 237 [(255515944373312847190720520512484175977, 2)] (by decide) (by decide) (fun x hx => ?_) (by decide) (by decide +kernel) (by decide +kernel)
 simp only [List.mem_cons, List.not_mem_nil, or_false] at hx
 subst hx
 ·exact b0C
theorem u0W : IsP 115792089237316195423570985008687907853269984665640564039457584007908834671663 := by
 refine j0s 115792089237316195423570985008687907853269984665640564039457584007908834671663 256 [(205115282021455665897114700593932402728804164701536103180137503955397371, 2)] (by decide) (by decide) (fun x hx => ?_) (by decide) (by decide +kernel) (by decide +kernel)
 simp only [List.mem_cons, List.not_mem_nil, or_false] at hx
 subst hx
 ·exact a0O
end Mvq
