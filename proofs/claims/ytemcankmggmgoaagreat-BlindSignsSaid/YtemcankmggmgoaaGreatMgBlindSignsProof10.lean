/- ; ; ; ; ; . -/
import Derived.Test.YtemcankmggmgoaaGreatMgBlindSignsProof9
import Derived.Test.YtemcankmggmgoaaGreatMgBlindSignsProof1
import Derived.Test.YtemcankmggmgoaaGreatMgBlindSignsProof7
import Derived.IntWalk
import Derived.Deep.DeepCutAuto
import Derived.Deep.RegionHeld3
import Derived.BigQuiet
set_option maxHeartbeats 16000000
set_option maxRecDepth 1000000

namespace Go.Proofs.YtemcankmggmgoaaGreat
section
open Go.RowKit Go.Mv Mvp Mvq
theorem k0C {w : World} {a : Option Addr} {n c : Nat} {l : List UInt8} (h : PartIs w (.slice a n c) l) (k : Nat) (hk : k ≤ n) : PartIs w (.slice a k c) (l.take k) := by
 obtain ⟨a', n', c', he, hc, hn, hr, ho⟩ := h
 cases he
 have h2 := Rd.take (show Rd w a n (bs l) from hr) k hk
 rw [f0h] at h2
 exact ⟨a, k, c, rfl, by omega, by omega, h2, ho⟩
theorem k0D {w : World} {b o n c : Nat} {l : List UInt8} (h : PartIs w (.slice (some ⟨b, o, none⟩) n c) l) (k : Nat) (hk : k ≤ n) : PartIs w (.slice (some ⟨b, o + k, none⟩) (n - k) (c - k)) (l.drop k) := by
 obtain ⟨a', n', c', he, hc, hn, hr, ho⟩ := h
 cases he
 have hlen := hr.len
 refine ⟨_, _, _, rfl, by omega, by omega, ?_, ?_⟩
 ·refine ⟨by rw [a0P, List.length_drop]; omega, ?_⟩
  by_cases hz : n - k = 0
  ·exact .inl hz
  ·obtain ⟨b', o', e, hat⟩ := Rd.at hr ap14
   cases e
   refine .inr ⟨_, _, rfl, ?_⟩
   have h2 := hat.sub k (n - k)
   have e2 : ((bs l).drop k).take (n - k) = bs (l.drop k) := by
    rw [List.take_of_length_le (by rw [List.length_drop, a0P]; omega)]
    simp [bs, List.map_drop]
   rwa [e2] at h2
 ·intro x hx
  cases hx
  exact ho ⟨b, o, none⟩ rfl
theorem k0E (l : List UInt8) : b0x [l] = b0d l := by unfold b0x; simp
theorem b0I {w : World} {v : Value} {l : List UInt8} (h : PartIs w v l) : BPart w v l := h.bpart
attribute [local irreducible] a0E lw mix cw b0t b0C b0r a0O a0r beN b0J b0b b0E a0L a0S elN mdL a0U rtV b0R a0W b0W b0z a0X d0q n0E j0Q a0R b0n b0D toB a0x a0F b0o c0a a0I c0n b0e a0C c0m d0N d0z d0o c0Z chN b0d b0x tS
end
section
open Go.RowKit Go.Mv Mvp Mvq
theorem q0G : ∀ (xs : List Nat) (lp : List (List UInt8)), (∀ l ∈ lp, b0W l = true) → f0f (List.zipWith (fun x l => (x % mQ.M, b0z l)) xs lp) = f0f (List.zipWith (fun x l => (x, b0z l)) xs lp)
 | [], _, _ => rfl
 | _ :: _, [], _ => rfl
 | x :: xs, l :: lp, h => by
  simp only [List.zipWith_cons_cons, f0f]
  rw [q0G xs lp fun k hk => h k (List.mem_cons_of_mem _ hk), u0X, i0i (o0I (h l List.mem_cons_self))]
theorem C0U (xs : List Nat) (lp : List (List UInt8)) (hl : xs.length = lp.length) (h5 : xs.length ≤ 512) (hr : ∀ l ∈ lp, b0W l = true) : j0Q (zB xs) lp = a0W (f0f (List.zipWith (fun x l => (x, b0z l)) xs lp)) := by
 have hn : a0X mQ (zB xs) = true := by
  unfold a0X zB
  rw [List.all_eq_true]
  intro y hy
  obtain ⟨x, _, rfl⟩ := List.mem_map.1 hy
  exact l0T x
 have hr2 : d0q lp = true := by unfold d0q; rw [List.all_eq_true]; exact hr
 unfold j0Q
 rw [if_pos (by rw [q0C]; exact hl), if_pos (by rw [q0C]; exact h5), hn, hr2, if_pos rfl, if_pos rfl, ← q0G xs lp hr]
 congr 2
 apply List.ext_getElem (by simp [smL, hl])
 intro i h1 h2
 simp only [smL, List.length_map, List.length_range] at h1
 have h3 : i < xs.length := by omega
 simp [smL, zB, List.getD_eq_getElem?_getD, h1, h3, q0B]
theorem c0i {l : List UInt8} (h : b0d l = true) : b0W l = true := by unfold b0d at h; rw [Bool.and_eq_true] at h; exact h.1
theorem d0Z {w : World} {a : Option Addr} {n c : Nat} {b : List UInt8} (hb : PartIs w (.slice a n c) b) : b.length = n := (d0Y hb).len
theorem D0L (x : Nat) : (i4 x).cells.size = 4 := by simp [i4, Value.cells, a0g]
attribute [local irreducible] a0E lw mix cw b0t b0C b0r a0O a0r beN b0J b0b b0E a0L a0S elN mdL a0U rtV b0R a0W b0W b0z a0X d0q n0E j0Q a0R b0n b0D toB a0x a0F b0o c0a a0I c0n b0e a0C c0m d0N d0z d0o c0Z chN b0d b0x tS f0f
theorem BParts.three {w : World} {v1 v2 v3 : Value} {l1 l2 l3 : List UInt8} (h1 : BPart w v1 l1) (h2 : BPart w v2 l2) (h3 : BPart w v3 l3) : BParts w [v1, v2, v3] [l1, l2, l3] := ⟨rfl, fun i x hx => by
 match i with
 | 0 => simp at hx; subst hx; exact h1
 | 1 => simp at hx; subst hx; exact h2
 | 2 => simp at hx; subst hx; exact h3
 | i + 3 => simp at hx⟩
end
section
open Go.RowKit Go.Mv Mvp Mvq
theorem v0g (x : Nat) (w : World) : Calls Tryz.prog 48 #[i4 (elN mQ x)] w fun e w' => ∃ v, e = .returned v ∧ PartIs w' v (a0W (a0R x gP)) ∧ Fr Nob w w' :=
 (C0Q x w).mono fun e w' ⟨v, h1, h2, h3⟩ => ⟨v, h1, OwnB1.ptb h2 (by rw [b0F]; decide), h3⟩
theorem q0H (x : Nat) (va : Value) (l : List UInt8) (w : World) (hp : BPart w va l) (hr : b0W l = true) : Calls Tryz.prog 80 #[i4 (elN mQ x), va] w fun e w' => ∃ v, e = .returned v ∧ PartIs w' v (a0W (a0R x (b0z l))) ∧ Fr Nob w w' := by
 refine (u0Z x va l w hp).mono ?_
 rintro e w' ⟨v, h1, h2, h3⟩
 rw [E0e x hr] at h2
 exact ⟨v, h1, OwnB1.ptb h2 (by rw [b0F]; decide), h3⟩
theorem h0g (a b c d e : List UInt8) : c0Z a b c d e < mQ.M := by unfold c0Z g0b; exact A0C _ _
attribute [local irreducible] a0E lw mix cw b0t b0C b0r a0O a0r beN b0J b0b b0E a0L a0S elN mdL a0U rtV b0R a0W b0W b0z a0X d0q n0E j0Q a0R b0n b0D toB a0x a0F b0o c0a a0I c0n b0e a0C c0m d0N d0z d0o c0Z chN b0d b0x tS smC f0f
theorem p0k (ak : Option Addr) (nk ck : Nat) (key : List UInt8) (ap : Option Addr) (np cp : Nat) (point : List UInt8) (w : World) (hkey : PartIs w (.slice ak nk ck) key) (hpt : PartIs w (.slice ap np cp) point) (hq : d0o key = false) : Calls Tryz.prog 23 #[.slice ak nk ck, .slice ap np cp] w fun e w' => e = .returned (.tuple #[.slice none 0 0, .int .i64 3]) ∧ Fr Nob w w' := by
 have HPK := qH hkey
 have HPP := qH hpt
 have HKY := qH (d0Y hkey)
 have HQ := qH hq
 clear hkey hpt hq
 clear HPK HPP
 have st0 := St.start Nob w
 go_enter Tryz.func23, Tryz.ntmps23
 go_wp2_with fail
 refine (v0b ak nk ck key _ (HKY.out.still st0.fr) HQ.out).mono ?_
 rintro e' w1 ⟨⟨N, rfl⟩, hf1⟩
 have st1 := st0.keep hf1
 clear st0 hf1
 go_wp2_with (with_reducible refine wSk 6 ?_)
 refine a0a st1 rfl rfl (z := zAd) ap12 (cw 4 0) ap10 ?_
 intro g6 w2 st2
 clear st1
 go_wp2_with (with_reducible refine wSn ?_)
 refine a0b st2 0 rfl rfl rfl rfl rfl ap5 ap4 (a0f _ _) ?_
 intro w3 st3
 clear st2
 have hfr := st3.fr
 clear st3
 go_wp2_with fail
 go_ret2
 exact ⟨rfl, hfr⟩
theorem p0l (ak : Option Addr) (nk ck : Nat) (key : List UInt8) (ap : Option Addr) (np cp : Nat) (point : List UInt8) (w : World) (hkey : PartIs w (.slice ak nk ck) key) (hpt : PartIs w (.slice ap np cp) point) (hq : d0o key = true) (hr : b0d point = false) : Calls Tryz.prog 23 #[.slice ak nk ck, .slice ap np cp] w fun e w' => e = .returned (.tuple #[.slice none 0 0, .int .i64 4]) ∧ Fr Nob w w' := by
 have HPK := qH hkey
 have HPP := qH hpt
 have HKY := qH (d0Y hkey)
 have HQ := qH hq
 clear hkey hpt hq
 have HR := qH (show b0x [point] = false by rw [k0E]; exact hr)
 clear HPK hr
 have st0 := St.start Nob w
 go_enter Tryz.func23, Tryz.ntmps23
 go_wp2_with fail
 refine (n0F ak nk ck key _ (HKY.out.still st0.fr) HQ.out).mono ?_
 rintro e' w1 ⟨rfl, hf1⟩
 have st1 := st0.keep hf1
 clear st0 hf1
 go_wp2_with (with_reducible refine wSk 6 ?_)
 refine a0a st1 rfl rfl (z := zAd) ap12 (cw 4 0) ap10 ?_
 intro g6 w2 st2
 clear st1
 go_wp2_with (with_reducible refine wSn ?_)
 refine a0b st2 0 rfl rfl rfl rfl rfl ap5 ap4 (a0f _ _) ?_
 intro w3 st3
 clear st2
 go_wp2_with (with_reducible refine wSk 21 ?_)
 refine b0P rfl rfl Tryz.underlying39 c0l [.slice ap np cp] rfl (by simp; rfl) rfl rfl ?_
 intro w4 hh4 hf4 hz4
 have st4 := st3.keep hf4
 have HSL := qH hh4
 clear hh4 hf4 hz4 st3
 generalize w3.heap.size = gl21 at *
 go_wp2_with fail
 refine (f0K _ 1 1 [.slice ap np cp] [point] _ (Rd.whole HSL.out) (BParts.one (b0I (HPP.out.still st4.fr))) ap13).mono ?_
 rintro e' w5 ⟨rfl, hf5⟩
 have st5 := st4.keep hf5
 clear st4 hf5
 clear HSL
 rw [HR.out]
 have hfr := st5.fr
 clear st5
 go_wp2_with fail
 go_ret2
 exact ⟨rfl, hfr⟩
theorem n0J (ak : Option Addr) (nk ck : Nat) (key : List UInt8) (ap : Option Addr) (np cp : Nat) (point : List UInt8) (w : World) (hkey : PartIs w (.slice ak nk ck) key) (hpt : PartIs w (.slice ap np cp) point) (hq : d0o key = true) (hr : b0d point = true) : Calls Tryz.prog 23 #[.slice ak nk ck, .slice ap np cp] w fun e w' => ∃ v, e = .returned (.tuple #[v, .int .i64 0]) ∧ OwnB1 w w' v (b0b (smC key point) ++ b0b (((chN a0o [key, point]) + (smC key point) * beN key) % mQ.M)) ∧ Fr Nob w w' := by
 have HPK := qH hkey
 have HPP := qH hpt
 have HKY := qH (d0Y hkey)
 have HQ := qH hq
 clear hkey hpt hq
 have HR := qH (show b0x [point] = true by rw [k0E]; exact hr)
 have HRD := qH (c0i hr)
 have HC := qH (show smC key point = c0Z point (a0W (a0R (beN key) gP)) (a0W (a0R (beN key) (b0z point))) (a0W (a0R (chN a0o [key, point]) gP)) (a0W (a0R (chN a0o [key, point]) (b0z point))) by unfold smC; rfl)
 have HLC := qH (show smC key point < mQ.M by rw [HC.out]; exact h0g _ _ _ _ _)
 clear hr
 have st0 := St.start Nob w
 go_enter Tryz.func23, Tryz.ntmps23
 go_wp2_with fail
 refine (n0F ak nk ck key _ (HKY.out.still st0.fr) HQ.out).mono ?_
 rintro e' w1 ⟨rfl, hf1⟩
 have st1 := st0.keep hf1
 clear st0 hf1
 go_wp2_with (with_reducible refine wSk 6 ?_)
 refine a0a st1 rfl rfl (z := zAd) ap12 (cw 4 0) ap10 ?_
 intro g6 w2 st2
 clear st1
 go_wp2_with (with_reducible refine wSn ?_)
 refine a0b st2 0 rfl rfl rfl rfl rfl ap5 ap4 (a0f _ _) ?_
 intro w3 st3
 clear st2
 go_wp2_with (with_reducible refine wSk 21 ?_)
 refine b0P rfl rfl Tryz.underlying39 c0l [.slice ap np cp] rfl (by simp; rfl) rfl rfl ?_
 intro w4 hh4 hf4 hz4
 have st4 := st3.keep hf4
 have HSL := qH hh4
 clear hh4 hf4 hz4 st3
 generalize w3.heap.size = gl21 at *
 go_wp2_with fail
 refine (f0K _ 1 1 [.slice ap np cp] [point] _ (Rd.whole HSL.out) (BParts.one (b0I (HPP.out.still st4.fr))) ap13).mono ?_
 rintro e' w5 ⟨rfl, hf5⟩
 have st5 := st4.keep hf5
 clear st4 hf5
 clear HSL
 rw [HR.out]
 go_wp2_with (with_reducible refine wSk 26 ?_)
 refine b0P rfl rfl Tryz.underlying39 c0l [.slice ak nk ck, .slice ap np cp] rfl (by simp; exact ⟨rfl, rfl⟩) rfl rfl ?_
 intro w6 hh6 hf6 hz6
 have st6 := st5.keep hf6
 have HSL := qH hh6
 clear hh6 hf6 hz6 st5
 generalize w5.heap.size = gl26 at *
 go_wp2_with fail
 refine (x0k ⟨#[110, 111, 110, 99, 101, 32, 115, 97, 109, 101]⟩ a0o rfl _ 2 [.slice ak nk ck, .slice ap np cp] [key, point] _ ap13 HSL.out ⟨HPK.out.still st6.fr, HPP.out.still st6.fr, trivial⟩ ap15).mono ?_
 rintro e' w7 ⟨rfl, hf7⟩
 have st7 := st6.keep hf7
 clear st6 hf7
 clear HSL
 go_wp2_with (with_reducible refine wSk 8 ?_)
 refine a0a st7 rfl rfl (z := zAd) ap12 (cw 4 0) ap10 ?_
 intro g8 w8 st8
 clear st7
 go_wp2_with (with_reducible refine wSn ?_)
 refine a0b st8 1 rfl rfl rfl rfl rfl ap5 ap4 (a0f _ _) ?_
 intro w9 st9
 clear st8
 have HP2 := qH (HPP.out.still st9.fr)
 clear HPP HPK HKY
 go_wp2_with fail
 refine wp_region_noPanic ?_
 refine j0P st9 (fun wz => Fr Nob w9 wz) (Fr.refl Nob _).drew (fun _ _ h k => h.then k) 13 [.o 12, .w 0, .t 1, .t 3, .w 4, .t 6, .t 8, .w 9, .c 2, .c 5, .c 7, .c 10, .c 11, .j 12] (.m 13 .nil) ap12 ap12 (fun _ _ _ _ _ h => h) ?_
 clear st9
 refine b0j rfl rfl rfl (z := zAd) ap12 (cw 4 0) ap10 ?_
 try simp only [clL]
 refine a0m rfl rfl apX ?_
 try simp only [clL]
 refine a0d rfl rfl rfl (fun _ => rfl) (cw 4 (elN mQ (beN key))) (fun wx hS => St.rangeL hS 0 rfl 0 _ dZl) Tryz.underlying68 rfl ap4 ?_
 try simp only [clL]
 refine a0d rfl rfl rfl (fun _ => rfl) (cw 4 (elN mQ (beN key))) (fun wx hS => St.rangeL hS 0 rfl 0 _ dZl) Tryz.underlying68 rfl ap4 ?_
 try simp only [clL]
 refine a0m rfl rfl apX ?_
 try simp only [clL]
 refine a0d rfl rfl rfl (fun _ => rfl) (cw 4 (elN mQ (chN a0o [key, point]))) (fun wx hS => St.rangeL hS 1 rfl 0 _ dZl) Tryz.underlying68 rfl ap4 ?_
 try simp only [clL]
 refine a0d rfl rfl rfl (fun _ => rfl) (cw 4 (elN mQ (chN a0o [key, point]))) (fun wx hS => St.rangeL hS 1 rfl 0 _ dZl) Tryz.underlying68 rfl ap4 ?_
 try simp only [clL]
 refine a0m rfl rfl apX ?_
 try simp only [clL]
 refine c0h (X := Value) (fun v => v) (fun v wx => PartIs wx v (a0W (a0R (beN key) gP))) (fun _ _ _ h k => h.still k) rfl rfl rfl Tryz.call48 (fun w hS hR => v0g (beN key) _) (fun _ => rfl) fun v1 => ?_
 try simp only [clL]
 refine c0h (X := Value) (fun v => v) (fun v wx => PartIs wx v (a0W (a0R (beN key) (b0z point)))) (fun _ _ _ h k => h.still k) rfl rfl rfl Tryz.call80 (fun w hS hR => q0H (beN key) _ point _ (b0I (HP2.out.still hR.1)) HRD.out) (fun _ => rfl) fun v2 => ?_
 try simp only [clL]
 refine c0h (X := Value) (fun v => v) (fun v wx => PartIs wx v (a0W (a0R (chN a0o [key, point]) gP))) (fun _ _ _ h k => h.still k) rfl rfl rfl Tryz.call48 (fun w hS hR => v0g (chN a0o [key, point]) _) (fun _ => rfl) fun v3 => ?_
 try simp only [clL]
 refine c0h (X := Value) (fun v => v) (fun v wx => PartIs wx v (a0W (a0R (chN a0o [key, point]) (b0z point)))) (fun _ _ _ h k => h.still k) rfl rfl rfl Tryz.call80 (fun w hS hR => q0H (chN a0o [key, point]) _ point _ (b0I (HP2.out.still hR.1.1.1)) HRD.out) (fun _ => rfl) fun v4 => ?_
 try simp only [clL]
 refine a0c rfl rfl rfl Tryz.call79 (fun w hS hR => (j0t (.slice ap np cp) point v1 (a0W (a0R (beN key) gP)) v2 (a0W (a0R (beN key) (b0z point))) v3 (a0W (a0R (chN a0o [key, point]) gP)) v4 (a0W (a0R (chN a0o [key, point]) (b0z point))) _ (HP2.out.still hR.1.1.1.1) hR.1.1.1.2 hR.1.1.2 hR.1.2 hR.2).mono fun e w' h => (show e = .returned (i4 (elN mQ (smC key point))) ∧ Fr Nob _ w' by rw [HC.out]; exact h)) (fun _ => rfl) ?_
 try simp only [clL]
 refine b0c List.mem_cons_self fun g9 => ?_
 simp only [upd, reduceIte]
 try simp only [Nat.reduceEqDiff, reduceIte]
 refine a0t fun xq w10 st10 hR => ?_
 try dsimp only
 clear hR xq
 refine a0q rfl rfl ?_
 refine a0h st10 2 rfl rfl rfl rfl ap5 ap4 (a0f _ _) ?_
 intro w11 st11
 repeat (first | simp only [List.cons_append] at st11 | simp only [List.nil_append] at st11 | simp only [List.set_cons_succ] at st11 | simp only [List.set_cons_zero] at st11)
 clear st10
 try simp only [Act.put]
 refine a0i ?_
 refine NoPanic.normal ?_
 clear HP2
 go_wp2_with fail
 refine wp_region_noPanic ?_
 refine a0e st11 7 [.t 0, .t 2, .t 3, .t 4, .c 1, .c 5, .c 6] (.m 7 (.w 8 (.w 9 .nil))) ap12 ap12 (fun _ _ _ _ _ h => h) ?_
 clear st11
 refine a0d rfl rfl rfl (fun _ => rfl) (cw 4 (elN mQ (smC key point))) (fun wx hS => St.rangeL hS 2 rfl 0 _ dZl) Tryz.underlying68 rfl ap4 ?_
 try simp only [clL]
 refine a0d rfl rfl rfl (fun _ => rfl) (cw 4 (elN mQ (chN a0o [key, point]))) (fun wx hS => St.rangeL hS 1 rfl 0 _ dZl) Tryz.underlying68 rfl ap4 ?_
 try simp only [clL]
 refine a0d rfl rfl rfl (fun _ => rfl) (cw 4 (elN mQ (smC key point))) (fun wx hS => St.rangeL hS 2 rfl 0 _ dZl) Tryz.underlying68 rfl ap4 ?_
 try simp only [clL]
 refine a0d rfl rfl rfl (fun _ => rfl) (cw 4 (elN mQ (beN key))) (fun wx hS => St.rangeL hS 0 rfl 0 _ dZl) Tryz.underlying68 rfl ap4 ?_
 try simp only [clL]
 refine c0h (X := Value) (fun v => v) (fun v wx => Own wx w.heap.size 5 1 v 32 (bs (b0b ((smC key point) % mQ.M)))) (fun _ _ _ h k => h.still k) rfl rfl rfl Tryz.call51 (fun w hS hR => (h0q mQ .one (smC key point) _).mono fun e w' ⟨v, h1, h2, h3⟩ => ⟨v, h1, Own.mono h2 hS.fr.size, h3⟩) (fun _ => rfl) fun vc => ?_
 try simp only [clL]
 refine a0c rfl rfl rfl Tryz.call49 (fun w hS hR => D0K (chN a0o [key, point]) (smC key point) (beN key) _) (fun _ => rfl) ?_
 try simp only [clL]
 refine c0h (X := Option Addr × Nat) (fun y => .slice y.1 32 y.2) (fun y wx => BPart wx (.slice y.1 32 y.2) (b0b (((chN a0o [key, point]) + (smC key point) * beN key) % mQ.M))) (fun _ _ _ h k => h.still k) rfl rfl rfl Tryz.call51 (fun w hS hR => q0A ((chN a0o [key, point]) + (smC key point) * beN key) _) (fun _ => rfl) fun yb => ?_
 try simp only [clL]
 refine a0t fun xq w12 st12 hR => ?_
 try dsimp only
 have HOC := qH hR.1.2
 obtain ⟨ay, ny, cy, hey, -, hry⟩ := hR.2
 cases hey
 have HRB := qH (show RdB _ yb.1 32 _ from hry)
 clear hry
 clear hR xq
 refine a0q rfl rfl ?_
 refine s0a rfl Tryz.underlying22 b0g rfl ap13 HOC.out rfl rfl HRB.out (g0i _) ap13 ap13 st12.fr.size ?_
 intro va wa hown hfa
 have st13 := St.ofFr ((HOC.out).fr st12.fr (Nat.le_refl _) hfa)
 have HOWN := qH hown
 clear hown hfa
 clear st12
 try simp only [clL]
 refine a0k rfl rfl apW ?_
 try simp only [clL]
 refine a0k rfl rfl apW ?_
 try simp only [clL]
 refine a0i ?_
 refine NoPanic.normal ?_
 clear HOC HRB
 have hfr := st13.fr
 clear st13
 go_wp2_with fail
 go_ret2
 refine ⟨va, rfl, ?_, hfr⟩
 have h := HOWN.out
 rw [← c0K, Nat.mod_eq_of_lt HLC.out] at h
 exact OwnB1.of h (by rw [List.length_append, a0Q, a0Q])
theorem p0m {k p : List UInt8} (h : d0o k = true) (h2 : b0d p = true) : smE k p = 0 ∧ smS k p = b0b (smC k p) ++ b0b ((chN a0o [k, p] + smC k p * beN k) % mQ.M) := by unfold smE smS; rw [if_pos h, if_pos h, if_pos h2, if_pos h2]; exact ⟨rfl, rfl⟩
theorem A0X {k p : List UInt8} (h : d0o k = true) (h2 : b0d p = false) : smE k p = 4 ∧ smS k p = [] := by unfold smE smS; rw [if_pos h, if_pos h, h2]; exact ⟨rfl, rfl⟩
theorem A0Y {k p : List UInt8} (h : d0o k = false) : smE k p = 3 ∧ smS k p = [] := by unfold smE smS; rw [h]; exact ⟨rfl, rfl⟩
theorem j0B (ak : Option Addr) (nk ck : Nat) (key : List UInt8) (ap : Option Addr) (np cp : Nat) (point : List UInt8) (w : World) (hkey : PartIs w (.slice ak nk ck) key) (hpt : PartIs w (.slice ap np cp) point) : Calls Tryz.prog 23 #[.slice ak nk ck, .slice ap np cp] w fun e w' => ∃ v, e = .returned (.tuple #[v, .int .i64 (smE key point)]) ∧ OwnB1 w w' v (smS key point) ∧ Fr Nob w w' := by
 cases h : d0o key with
 | false => rw [(A0Y (p := point) h).1, (A0Y (p := point) h).2]; exact (p0k ak nk ck key ap np cp point w hkey hpt h).mono fun e w' k => ⟨_, k.1, OwnB1.nil _ _, k.2⟩
 | true =>
  cases h2 : b0d point with
  | false => rw [(A0X h h2).1, (A0X h h2).2]; exact (p0l ak nk ck key ap np cp point w hkey hpt h h2).mono fun e w' k => ⟨_, k.1, OwnB1.nil _ _, k.2⟩
  | true => rw [(p0m h h2).1, (p0m h h2).2]; exact n0J ak nk ck key ap np cp point w hkey hpt h h2
end
section
open Go.RowKit Go.Mv Mvp Mvq
def vsG (a p b s : List UInt8) : Bool := b0x [a, p, b] && (decide (s.length = 64) && a0X mQ [s.take 32, s.drop 32])
noncomputable def c0W (z c : Nat) (p a : Pt) : List UInt8 := a0W (b0l (a0R z p) (f0G (a0R c a)))
theorem q0I {P A : List UInt8} (z c : Nat) (hP : b0W P = true) (hA : b0W A = true) : j0Q (zB [z, mQ.M - c % mQ.M]) [P, A] = c0W z c (b0z P) (b0z A) := by
 rw [C0U _ _ rfl ap15 (by intro l hl; simp only [List.mem_cons, List.not_mem_nil, or_false] at hl; rcases hl with rfl | rfl <;> assumption)]
 simp only [List.zipWith_cons_cons, List.zipWith_nil_left, f0f]
 rw [b0L, u0X, x0h (o0I hA)]
 rfl
theorem n0K (z c : Nat) (p a : Pt) : (c0W z c p a).length = 33 := b0F _
theorem e0I {a p b : List UInt8} (h : b0x [a, p, b] = true) : b0d a = true ∧ b0d p = true ∧ b0d b = true := by
 unfold b0x at h
 simpa [and_assoc] using h
theorem x0M {x y : List UInt8} (h : a0X mQ [x, y] = true) : a0U mQ x = true ∧ a0U mQ y = true := by
 unfold a0X at h
 simpa using h
theorem C0V {a p b s : List UInt8} (h : vsG a p b s = false) : vsB a p b s = false := by
 unfold vsB
 unfold vsG b0x a0X at h
 simp only [List.all_cons, List.all_nil, Bool.and_true, Bool.and_assoc] at *
 have e : ∀ a b c d e f g : Bool, (a && (b && (c && (d && (e && f))))) = false → (a && (b && (c && (d && (e && (f && g)))))) = false := by decide
 exact e _ _ _ _ _ _ _ h
theorem v0h {a p b s : List UInt8} (h : vsG a p b s = true) : vsB a p b s = decide (c0Z p a b (c0W (beN (s.drop 32)) (beN (s.take 32)) gP (b0z a)) (c0W (beN (s.drop 32)) (beN (s.take 32)) (b0z p) (b0z b)) = beN (s.take 32)) := by
 unfold vsB c0W
 unfold vsG at h
 simp only [Bool.and_eq_true] at h
 obtain ⟨h1, h2, h3⟩ := h
 obtain ⟨r1, r2, r3⟩ := e0I h1
 obtain ⟨n1, n2⟩ := x0M h3
 simp only [r1, r2, r3, h2, n1, n2, Bool.true_and]
theorem D0M (al : Option Addr) (n cl : Nat) (vs : List Value) (ls : List (List UInt8)) (w : World) (hv : Rd w al n vs) (hp : BParts w vs ls) (hn : n ≤ 100000) (h : a0X mQ ls = true) :
  Calls Tryz.prog 70 #[.slice al n cl] w fun e w' => ∃ v, e = .returned (.tuple #[v, .bool true]) ∧ Own w' w.heap.size 68 4 v ls.length (b0k mQ ls) ∧ Fr Nob w w' :=
 (u0w mQ .one al n cl vs ls w hv hp hn).mono fun e w' k => by obtain ⟨v, h1, h2⟩ := k.1 h; exact ⟨v, h1, h2, k.2.2⟩
theorem D0N (al : Option Addr) (n cl : Nat) (vs : List Value) (ls : List (List UInt8)) (w : World) (hv : Rd w al n vs) (hp : BParts w vs ls) (hn : n ≤ 100000) (h : a0X mQ ls = false) :
  Calls Tryz.prog 70 #[.slice al n cl] w fun e w' => e = .returned (.tuple #[.slice none 0 0, .bool false]) ∧ Fr Nob w w' :=
 (u0w mQ .one al n cl vs ls w hv hp hn).mono fun _ _ k => ⟨k.2.1 h, k.2.2⟩
theorem E0x (x y : List UInt8) : b0k mQ [x, y] = cw 4 (elN mQ (beN x)) ++ cw 4 (elN mQ (beN y)) := by simp [b0k]
attribute [local irreducible] a0E lw mix cw b0t b0C b0r a0O a0r beN b0J b0b b0E a0L a0S elN mdL a0U rtV b0R a0W b0W b0z a0X d0q n0E j0Q a0R b0n b0D toB a0x a0F b0o c0a a0I c0n b0e a0C c0m d0N d0z d0o c0Z chN b0d b0x tS smC f0f b0k vsG
theorem E0y (aa : Option Addr) (na ca : Nat) (a : List UInt8) (ap : Option Addr) (np cp : Nat) (p : List UInt8) (ab : Option Addr) (nb cb : Nat) (b : List UInt8) (as_ : Option Addr) (ns cs : Nat) (s : List UInt8) (w : World) (ha : PartIs w (.slice aa na ca) a) (hp : PartIs w (.slice ap np cp) p) (hb : PartIs w (.slice ab nb cb) b) (_hs : PartIs w (.slice as_ ns cs) s) (hr : b0x [a, p, b] = false) : Calls Tryz.prog 25 #[.slice aa na ca, .slice ap np cp, .slice ab nb cb, .slice as_ ns cs] w fun e w' => e = .returned (.bool false) ∧ Fr Nob w w' := by
 have HA := qH ha
 have HP := qH hp
 have HB := qH hb
 have HR := qH hr
 clear ha hp hb _hs hr
 have st0 := St.start Nob w
 go_enter Tryz.func25, Tryz.ntmps25
 go_wp2_with (with_reducible refine wSk 17 ?_)
 refine b0P rfl rfl Tryz.underlying39 c0l [.slice aa na ca, .slice ap np cp, .slice ab nb cb] rfl (by simp; exact ⟨rfl, rfl, rfl⟩) rfl rfl ?_
 intro w1 hh1 hf1 hz1
 have st1 := st0.keep hf1
 have HSL := qH hh1
 clear hh1 hf1 hz1 st0
 generalize w.heap.size = gl17 at *
 go_wp2_with fail
 refine (f0K _ 3 3 [.slice aa na ca, .slice ap np cp, .slice ab nb cb] [a, p, b] _ (Rd.whole HSL.out) (BParts.three (b0I (HA.out.still st1.fr)) (b0I (HP.out.still st1.fr)) (b0I (HB.out.still st1.fr))) ap13).mono ?_
 rintro e' w2 ⟨rfl, hf2⟩
 have st2 := st1.keep hf2
 clear st1 hf2
 clear HSL
 rw [HR.out]
 have hfr := st2.fr
 clear st2
 go_wp2_with fail
 go_ret
 exact ⟨rfl, hfr⟩
theorem E0z (aa : Option Addr) (na ca : Nat) (a : List UInt8) (ap : Option Addr) (np cp : Nat) (p : List UInt8) (ab : Option Addr) (nb cb : Nat) (b : List UInt8) (as_ : Option Addr) (ns cs : Nat) (s : List UInt8) (w : World) (ha : PartIs w (.slice aa na ca) a) (hp : PartIs w (.slice ap np cp) p) (hb : PartIs w (.slice ab nb cb) b) (_hs : PartIs w (.slice as_ ns cs) s) (hr : b0x [a, p, b] = true) (hl : ns ≠ 64) : Calls Tryz.prog 25 #[.slice aa na ca, .slice ap np cp, .slice ab nb cb, .slice as_ ns cs] w fun e w' => e = .returned (.bool false) ∧ Fr Nob w w' := by
 have HA := qH ha
 have HP := qH hp
 have HB := qH hb
 have HR := qH hr
 have hne : ((ns : Int) != 64) = true := by simp; omega
 clear ha hp hb _hs hr hl
 have st0 := St.start Nob w
 go_enter Tryz.func25, Tryz.ntmps25
 go_wp2_with (with_reducible refine wSk 17 ?_)
 refine b0P rfl rfl Tryz.underlying39 c0l [.slice aa na ca, .slice ap np cp, .slice ab nb cb] rfl (by simp; exact ⟨rfl, rfl, rfl⟩) rfl rfl ?_
 intro w1 hh1 hf1 hz1
 have st1 := st0.keep hf1
 have HSL := qH hh1
 clear hh1 hf1 hz1 st0
 generalize w.heap.size = gl17 at *
 go_wp2_with fail
 refine (f0K _ 3 3 [.slice aa na ca, .slice ap np cp, .slice ab nb cb] [a, p, b] _ (Rd.whole HSL.out) (BParts.three (b0I (HA.out.still st1.fr)) (b0I (HP.out.still st1.fr)) (b0I (HB.out.still st1.fr))) ap13).mono ?_
 rintro e' w2 ⟨rfl, hf2⟩
 have st2 := st1.keep hf2
 clear st1 hf2
 clear HSL
 rw [HR.out]
 have hfr := st2.fr
 clear st2
 go_wp2_with fail
 go_ret
 exact ⟨rfl, hfr⟩
theorem E0A (aa : Option Addr) (na ca : Nat) (a : List UInt8) (ap : Option Addr) (np cp : Nat) (p : List UInt8) (ab : Option Addr) (nb cb : Nat) (b : List UInt8) (bs_ os cs : Nat) (s : List UInt8) (w : World) (ha : PartIs w (.slice aa na ca) a) (hp : PartIs w (.slice ap np cp) p) (hb : PartIs w (.slice ab nb cb) b) (hs : PartIs w (.slice (some ⟨bs_, os, none⟩) 64 cs) s) (hr : b0x [a, p, b] = true) (hn : a0X mQ [s.take 32, s.drop 32] = false) : Calls Tryz.prog 25 #[.slice aa na ca, .slice ap np cp, .slice ab nb cb, .slice (some ⟨bs_, os, none⟩) 64 cs] w fun e w' => e = .returned (.bool false) ∧ Fr Nob w w' := by
 have HA := qH ha
 have HP := qH hp
 have HB := qH hb
 have hcs : 64 ≤ cs := by obtain ⟨a', n', c', he, hc, -⟩ := hs; cases he; exact hc
 have HSC := qH (b0I (k0C hs 32 ap13))
 have HSZ := qH (b0I (k0D hs 32 ap13))
 have hcI : (32 : Int) ≤ (cs : Int) := by omega
 have hcN : ¬ (cs = 32) := by omega
 have HR := qH hr
 have HN := qH hn
 clear ha hp hb hs hr hn hcs
 have st0 := St.start Nob w
 go_enter Tryz.func25, Tryz.ntmps25
 go_wp2_with (with_reducible refine wSk 17 ?_)
 refine b0P rfl rfl Tryz.underlying39 c0l [.slice aa na ca, .slice ap np cp, .slice ab nb cb] rfl (by simp; exact ⟨rfl, rfl, rfl⟩) rfl rfl ?_
 intro w1 hh1 hf1 hz1
 have st1 := st0.keep hf1
 have HSL := qH hh1
 clear hh1 hf1 hz1 st0
 generalize w.heap.size = gl17 at *
 go_wp2_with fail
 refine (f0K _ 3 3 [.slice aa na ca, .slice ap np cp, .slice ab nb cb] [a, p, b] _ (Rd.whole HSL.out) (BParts.three (b0I (HA.out.still st1.fr)) (b0I (HP.out.still st1.fr)) (b0I (HB.out.still st1.fr))) ap13).mono ?_
 rintro e' w2 ⟨rfl, hf2⟩
 have st2 := st1.keep hf2
 clear st1 hf2
 clear HSL
 rw [HR.out]
 go_wp2_with fail
 refine wp_region_noPanic ?_
 refine a0e st2 10 [.w 0, .w 1, .w 2, .w 3, .o 4, .j 4] (.r 5 (.w 6 (.w 7 (.w 8 (.w 9 (.m 10 .nil)))))) ap12 ap12 (fun _ _ _ _ _ h => h) ?_
 clear st2
 refine a0m rfl rfl apX ?_
 try simp only [clL]
 refine a0m rfl rfl apX ?_
 try simp only [clL]
 refine a0m rfl rfl apX ?_
 try simp only [clL]
 refine a0m rfl rfl apX ?_
 try simp only [clL]
 refine l0P rfl rfl rfl Tryz.underlying39 c0l [.slice (some ⟨bs_, os, none⟩) 32 cs, .slice (some ⟨bs_, os + 32, none⟩) (64 - 32) (cs - 32)] (fun _ => rfl) (by simp [Value.cells]) rfl [.slice (some ⟨bs_, os, none⟩) 32 cs, .slice (some ⟨bs_, os + 32, none⟩) (64 - 32) (cs - 32)] rfl ?_
 try simp only [clL]
 refine b0c List.mem_cons_self fun g30 => ?_
 simp only [upd, reduceIte]
 try simp only [Nat.reduceEqDiff, reduceIte]
 refine a0t fun xq w3 st3 hR => ?_
 try dsimp only
 clear hR xq
 refine a0y rfl rfl ?_
 go_simp
 refine (D0N (some ⟨g30, 0, none⟩) 2 2 [.slice (some ⟨bs_, os, none⟩) 32 cs, .slice (some ⟨bs_, os + 32, none⟩) (64 - 32) (cs - 32)] [s.take 32, s.drop 32] _ (Rd.whole (st3.at 0 rfl)) (BParts.two (HSC.out.still st3.fr) (HSZ.out.still st3.fr)) ap13 HN.out).mono ?_
 rintro e' w4 ⟨rfl, hf4⟩
 have st4 := st3.keep hf4
 clear hf4
 clear st3
 refine ⟨by first | exact st4 | exact St.less st4 ap15, ?_⟩
 try simp only [clL]
 refine a0k rfl rfl apW ?_
 try simp only [clL]
 refine a0k rfl rfl apW ?_
 try simp only [clL]
 refine a0k rfl rfl apW ?_
 try simp only [clL]
 refine a0k rfl rfl apW ?_
 try simp only [clL]
 refine a0q rfl rfl ?_
 go_simp
 try simp only [clL]
 refine a0i ?_
 refine NoPanic.normal ?_
 have hfr := st4.fr
 clear st4
 go_wp2_with fail
 go_ret
 exact ⟨rfl, hfr⟩
theorem _root_.ap7 {p : Prop} (h : p := by go_simp; try with_reducible rfl) : p := h
theorem E0B (aa : Option Addr) (na ca : Nat) (a : List UInt8) (ap : Option Addr) (np cp : Nat) (p : List UInt8) (ab : Option Addr) (nb cb : Nat) (b : List UInt8) (bs_ os cs : Nat) (s : List UInt8) (w : World) (ha : PartIs w (.slice aa na ca) a) (hp : PartIs w (.slice ap np cp) p) (hb : PartIs w (.slice ab nb cb) b) (hs : PartIs w (.slice (some ⟨bs_, os, none⟩) 64 cs) s) (h : vsG a p b s = true) : Calls Tryz.prog 25 #[.slice aa na ca, .slice ap np cp, .slice ab nb cb, .slice (some ⟨bs_, os, none⟩) 64 cs] w fun e w' => e = .returned (.bool (vsB a p b s)) ∧ Fr Nob w w' := by
 have hr : b0x [a, p, b] = true := by unfold vsG at h; simp only [Bool.and_eq_true] at h; exact h.1
 have hn : a0X mQ [s.take 32, s.drop 32] = true := by unfold vsG at h; simp only [Bool.and_eq_true] at h; exact h.2.2
 have HS1 := qH (q0I (beN (s.drop 32)) (beN (s.take 32)) (j0M j0O).1 (c0i (e0I hr).1))
 rw [(j0M j0O).2] at HS1
 have HS2 := qH (q0I (beN (s.drop 32)) (beN (s.take 32)) (c0i (e0I hr).2.1) (c0i (e0I hr).2.2))
 have HEQ := qH (show ((c0Z p a b (c0W (beN (s.drop 32)) (beN (s.take 32)) gP (b0z a)) (c0W (beN (s.drop 32)) (beN (s.take 32)) (b0z p) (b0z b))) % mQ.M == (beN (s.take 32)) % mQ.M) = vsB a p b s by
  rw [v0h h, Nat.mod_eq_of_lt (h0g _ _ _ _ _), Nat.mod_eq_of_lt (c0C (x0M hn).1)]
  rfl)
 have HA := qH ha
 have HP := qH hp
 have HB := qH hb
 have hcs : 64 ≤ cs := by obtain ⟨a', n', c', he, hc, -⟩ := hs; cases he; exact hc
 have HSC := qH (b0I (k0C hs 32 ap13))
 have HSZ := qH (b0I (k0D hs 32 ap13))
 have hcI : (32 : Int) ≤ (cs : Int) := by omega
 have hcN : ¬ (cs = 32) := by omega
 have HR := qH hr
 have HN := qH hn
 clear ha hp hb hs hr hn hcs h
 have st0 := St.start Nob w
 go_enter Tryz.func25, Tryz.ntmps25
 go_wp2_with (with_reducible refine wSk 17 ?_)
 refine b0P rfl rfl Tryz.underlying39 c0l [.slice aa na ca, .slice ap np cp, .slice ab nb cb] rfl (by simp; exact ⟨rfl, rfl, rfl⟩) rfl rfl ?_
 intro w1 hh1 hf1 hz1
 have st1 := st0.keep hf1
 have HSL := qH hh1
 clear hh1 hf1 hz1 st0
 generalize w.heap.size = gl17 at *
 go_wp2_with fail
 refine (f0K _ 3 3 [.slice aa na ca, .slice ap np cp, .slice ab nb cb] [a, p, b] _ (Rd.whole HSL.out) (BParts.three (b0I (HA.out.still st1.fr)) (b0I (HP.out.still st1.fr)) (b0I (HB.out.still st1.fr))) ap13).mono ?_
 rintro e' w2 ⟨rfl, hf2⟩
 have st2 := st1.keep hf2
 clear st1 hf2
 clear HSL
 rw [HR.out]
 go_wp2_with fail
 refine wp_region_noPanic ?_
 refine a0e st2 10 [.w 0, .w 1, .w 2, .w 3, .o 4, .j 4] (.r 5 (.w 6 (.w 7 (.w 8 (.w 9 (.m 10 .nil)))))) ap12 ap12 (fun _ _ _ _ _ h => h) ?_
 clear st2
 refine a0m rfl rfl apX ?_
 try simp only [clL]
 refine a0m rfl rfl apX ?_
 try simp only [clL]
 refine a0m rfl rfl apX ?_
 try simp only [clL]
 refine a0m rfl rfl apX ?_
 try simp only [clL]
 refine l0P rfl rfl rfl Tryz.underlying39 c0l [.slice (some ⟨bs_, os, none⟩) 32 cs, .slice (some ⟨bs_, os + 32, none⟩) (64 - 32) (cs - 32)] (fun _ => rfl) (by simp [Value.cells]) rfl [.slice (some ⟨bs_, os, none⟩) 32 cs, .slice (some ⟨bs_, os + 32, none⟩) (64 - 32) (cs - 32)] rfl ?_
 try simp only [clL]
 refine b0c List.mem_cons_self fun g30 => ?_
 simp only [upd, reduceIte]
 try simp only [Nat.reduceEqDiff, reduceIte]
 refine a0t fun xq w3 st3 hR => ?_
 try dsimp only
 clear hR xq
 refine a0y rfl rfl ?_
 go_simp
 refine (D0M (some ⟨g30, 0, none⟩) 2 2 [.slice (some ⟨bs_, os, none⟩) 32 cs, .slice (some ⟨bs_, os + 32, none⟩) (64 - 32) (cs - 32)] [s.take 32, s.drop 32] _ (Rd.whole (st3.at 0 rfl)) (BParts.two (HSC.out.still st3.fr) (HSZ.out.still st3.fr)) ap13 HN.out).mono ?_
 rintro e' w4 ⟨v, rfl, ho, hf4⟩
 have st4 := st3.keep hf4
 have HV := qH ho
 clear ho
 clear hf4
 clear st3
 refine ⟨by first | exact st4 | exact St.less st4 ap15, ?_⟩
 try simp only [clL]
 refine a0k rfl rfl apW ?_
 try simp only [clL]
 refine a0k rfl rfl apW ?_
 try simp only [clL]
 refine a0k rfl rfl apW ?_
 try simp only [clL]
 refine a0k rfl rfl apW ?_
 try simp only [clL]
 refine a0q rfl rfl ?_
 go_simp
 try simp only [clL]
 refine a0i ?_
 refine NoPanic.normal ?_
 have HV2 := HV.out
 obtain ⟨av, cv, rfl, -, hrv, -⟩ := HV2.form
 rw [E0x] at hrv
 obtain ⟨bv, ov, rfl, -⟩ := hrv.at ap15
 have HRV := qH hrv
 clear hrv HV HV2
 have FW := qH st4.fr
 clear st4
 have stB := St.start Nob w4
 clear hcI hcN
 go_wp2_with fail
 refine wp_region_noPanic ?_
 refine a0e stB 9 [.o 6, .o 7, .w 0, .w 1, .t 2, .w 3, .w 4, .t 5, .j 6, .j 7] (.r 8 (.m 9 .nil)) ap12 ap12 (fun _ _ _ _ _ h => h) ?_
 clear stB
 refine b0j rfl rfl rfl (z := zAd) ap12 (cw 4 0) ap10 ?_
 try simp only [clL]
 refine b0j rfl rfl rfl (z := zAd) ap12 (cw 4 0) ap10 ?_
 try simp only [clL]
 refine a0m rfl rfl apX ?_
 try simp only [clL]
 refine a0m rfl rfl apX ?_
 try simp only [clL]
 refine a0d rfl rfl rfl (fun _ => rfl) (cw 4 (elN mQ (beN (s.take 32)))) (fun wx hS => (g0O (HRV.out.still (St.fr hS)) 0 _ (f0n 4 4 _ _))) Tryz.underlying68 rfl ap4 ?_
 try simp only [clL]
 refine a0m rfl rfl apX ?_
 try simp only [clL]
 refine a0m rfl rfl apX ?_
 try simp only [clL]
 refine a0d rfl rfl rfl (fun _ => rfl) (cw 4 (elN mQ (beN (s.drop 32)))) (fun wx hS => (g0O (HRV.out.still (St.fr hS)) 4 _ (p0I 4 4 _ _))) Tryz.underlying68 rfl ap4 ?_
 try simp only [clL]
 refine b0c (List.mem_cons_of_mem _ List.mem_cons_self) fun g11 => ?_
 simp only [upd, reduceIte]
 try simp only [Nat.reduceEqDiff, reduceIte]
 refine b0c List.mem_cons_self fun g12 => ?_
 simp only [upd, reduceIte]
 try simp only [Nat.reduceEqDiff, reduceIte]
 refine a0t fun xq w5 st5 hR => ?_
 try dsimp only
 clear hR xq
 refine a0y rfl rfl ?_
 refine a0h st5 0 rfl rfl rfl rfl ap5 ap4 (a0f _ _) ?_
 intro w6 st6
 repeat (first | simp only [List.cons_append] at st6 | simp only [List.nil_append] at st6 | simp only [List.set_cons_succ] at st6 | simp only [List.set_cons_zero] at st6)
 clear st5
 refine ⟨by first | exact st6 | exact St.less st6 ap15, ?_⟩
 try simp only [Act.put]
 refine a0q rfl rfl ?_
 refine a0h st6 1 rfl rfl rfl rfl ap5 ap4 (a0f _ _) ?_
 intro w7 st7
 repeat (first | simp only [List.cons_append] at st7 | simp only [List.nil_append] at st7 | simp only [List.set_cons_succ] at st7 | simp only [List.set_cons_zero] at st7)
 clear st6
 try simp only [Act.put]
 refine a0i ?_
 refine NoPanic.normal ?_
 clear HRV
 go_wp2_with fail
 refine wp_region_noPanic ?_
 refine a0e st7 4 [.t 0, .t 1, .c 2, .o 3, .j 3] (.m 4 .nil) ap12 ap12 (fun _ _ _ _ _ h => h) ?_
 clear st7
 refine a0d rfl rfl rfl (fun _ => rfl) (cw 4 (elN mQ (beN (s.drop 32)))) (fun wx hS => St.rangeL hS 1 rfl 0 _ dZl) Tryz.underlying68 rfl ap4 ?_
 try simp only [clL]
 refine a0d rfl rfl rfl (fun _ => rfl) (cw 4 (elN mQ (beN (s.take 32)))) (fun wx hS => St.rangeL hS 0 rfl 0 _ dZl) Tryz.underlying68 rfl ap4 ?_
 try simp only [clL]
 refine a0c rfl rfl rfl Tryz.call64 (fun w hS hR => x0F mQ .one (beN (s.take 32)) _) (fun _ => rfl) ?_
 try simp only [clL]
 refine l0P rfl rfl rfl Tryz.underlying93 t0v [i4 (elN mQ (beN (s.drop 32))), i4 (elN mQ (mQ.M - (beN (s.take 32)) % mQ.M))] (fun _ => rfl) (by intro u hu; simp only [List.mem_cons, List.not_mem_nil, or_false] at hu; rcases hu with rfl | rfl <;> exact D0L _) rfl (d0z [(beN (s.drop 32)), (mQ.M - (beN (s.take 32)) % mQ.M)]) (by unfold d0z; simp [p0F]) ?_
 try simp only [clL]
 refine b0c List.mem_cons_self fun g45 => ?_
 simp only [upd, reduceIte]
 try simp only [Nat.reduceEqDiff, reduceIte]
 refine a0t fun xq w8 st8 hR => ?_
 try dsimp only
 clear hR xq
 refine a0q rfl rfl ?_
 go_simp
 try simp only [clL]
 refine a0i ?_
 refine NoPanic.normal ?_
 have HBK := qH (st8.at 2 rfl)
 have FA := qH (FW.out.then st8.fr)
 have HA2 := qH (HA.out.still FA.out)
 have HP2 := qH (HP.out.still FA.out)
 have HB2 := qH (HB.out.still FA.out)
 clear FA HA HP HB
 have hb15 : ((c0Z p a b (c0W (beN (s.drop 32)) (beN (s.take 32)) gP (b0z a)) (c0W (beN (s.drop 32)) (beN (s.take 32)) (b0z p) (b0z b))) % mQ.M == (beN (s.take 32)) % mQ.M) = vsB a p b s := HEQ.out
 have HB15 := qH hb15
 clear hb15
 go_wp2_with fail
 refine wp_region_noPanic ?_
 have hd8 := st8.drew
 clear st8
 refine f0V (fun wx => St Nob w4 wx [(g11, cw 4 (elN mQ (beN (s.take 32))), 68), (g12, cw 4 (elN mQ (beN (s.drop 32))), 68), (g45, (d0z [(beN (s.drop 32)), (mQ.M - (beN (s.take 32)) % mQ.M)]), 68)] ∧ Fr Nob (World.drew _) wx) [0, 1, 2, 3, 4, 5, 6, 7, 8, 9, 10, 11, 12, 13, 14, 15] [] (fun i => match i with | 0 => [] | 1 => [] | 2 => [] | 3 => [] | 4 => [] | 5 => [] | 6 => [4, 5] | 7 => [3, 6] | 8 => [] | 9 => [] | 10 => [] | 11 => [9, 10] | 12 => [8, 11] | 13 => [0, 1, 2, 7, 12] | 14 => [] | 15 => [13, 14] | _ => []) (fun i x wx => match i with | 0 => x 0 = .slice ap np cp | 1 => x 1 = .slice aa na ca | 2 => x 2 = .slice ab nb cb | 3 => x 3 = .slice (some ⟨g45, 0, none⟩) 2 2 | 4 => ∃ y : Option Addr × Nat, x 4 = .slice y.1 33 y.2 ∧ BPart wx (.slice y.1 33 y.2) (a0W gP) | 5 => x 5 = .slice aa na ca | 6 => ∃ (g : Nat) (y : Option Addr × Nat), x 6 = .slice (some ⟨g, 0, none⟩) 2 2 ∧ Has wx g [.slice y.1 33 y.2, .slice aa na ca] 22 ∧ BPart wx (.slice y.1 33 y.2) (a0W gP) | 7 => ∃ v, x 7 = v ∧ PartIs wx v (c0W (beN (s.drop 32)) (beN (s.take 32)) gP (b0z a)) | 8 => x 8 = .slice (some ⟨g45, 0, none⟩) 2 2 | 9 => x 9 = .slice ap np cp | 10 => x 10 = .slice ab nb cb | 11 => ∃ g : Nat, x 11 = .slice (some ⟨g, 0, none⟩) 2 2 ∧ Has wx g [.slice ap np cp, .slice ab nb cb] 22 | 12 => ∃ v, x 12 = v ∧ PartIs wx v (c0W (beN (s.drop 32)) (beN (s.take 32)) (b0z p) (b0z b)) | 13 => x 13 = i4 (elN mQ (c0Z p a b (c0W (beN (s.drop 32)) (beN (s.take 32)) gP (b0z a)) (c0W (beN (s.drop 32)) (beN (s.take 32)) (b0z p) (b0z b)))) | 14 => x 14 = i4 (elN mQ (beN (s.take 32))) | 15 => x 15 = .bool (vsB a p b s) | _ => True) 16 (.m 16 .nil) ?_ (fun x => ?_) ap12 ap12 (fun _ _ _ _ _ h => h) ⟨hd8, Fr.refl _ _⟩ (fun _ _ h k => ⟨h.1.keep k, h.2.then k⟩) ?_ ?_
 rotate_left 1
 ·simp only [h0O, A0V, Act.put, List.getElem?_toArray, List.getElem?_cons_zero, List.getElem?_cons_succ, List.setIfInBounds_toArray, List.set_cons_zero, List.set_cons_succ]
  exact rfl
 refine b0i rfl rfl (fun x wx hG hp => ?_) (fun y _ _ h k => h) ?_
 ·try dsimp only
  clear hp
  exact e0m (v := .slice ap np cp) ap7 rfl
 refine b0i rfl rfl (fun x wx hG hp => ?_) (fun y _ _ h k => h) ?_
 ·try dsimp only
  clear hp
  exact e0m (v := .slice aa na ca) ap7 rfl
 refine b0i rfl rfl (fun x wx hG hp => ?_) (fun y _ _ h k => h) ?_
 ·try dsimp only
  clear hp
  exact e0m (v := .slice ab nb cb) ap7 rfl
 refine b0i rfl rfl (fun x wx hG hp => ?_) (fun y _ _ h k => h) ?_
 ·try dsimp only
  clear hp
  exact e0m (v := .slice (some ⟨g45, 0, none⟩) 2 2) ap7 rfl
 refine b0i rfl rfl (fun x wx hG hp => ?_) (fun y _ _ h k => by obtain ⟨y, h1, h2⟩ := h; exact ⟨y, h1, h2.still k⟩) ?_
 ·try dsimp only
  clear hp
  refine n0I rfl Tryz.call29 (vs := []) rfl ?_
  refine (p0h _).mono ?_
  rintro e w' ⟨y, rfl, hb, hf⟩
  exact ⟨_, rfl, hf, y, rfl, hb⟩
 refine b0i rfl rfl (fun x wx hG hp => ?_) (fun y _ _ h k => h) ?_
 ·try dsimp only
  clear hp
  exact e0m (v := .slice aa na ca) ap7 rfl
 refine b0i rfl rfl (fun x wx hG hp => ?_) (fun y _ _ h k => by obtain ⟨g, y, h1, h2, h3⟩ := h; exact ⟨g, y, h1, h2.keep k id, h3.still k⟩) ?_
 ·try dsimp only
  have e4 : ∃ y : Option Addr × Nat, x 4 = .slice y.1 33 y.2 ∧ BPart wx (.slice y.1 33 y.2) (a0W gP) := hp 4 ap13
  obtain ⟨yb, e4, HYB⟩ := e4
  generalize x 4 = v4 at e4 ⊢
  subst e4
  have e5 : x 5 = .slice aa na ca := hp 5 ap13
  generalize x 5 = v5 at e5 ⊢
  subst e5
  clear hp
  refine q0F rfl Tryz.underlying39 c0l [.slice yb.1 33 yb.2, .slice aa na ca] rfl (by intro u hu; simp only [List.mem_cons, List.not_mem_nil, or_false] at hu; rcases hu with rfl | rfl <;> rfl) rfl [.slice yb.1 33 yb.2, .slice aa na ca] rfl (fun g w' hf _ hg => ⟨g, yb, rfl, hg, HYB.still hf⟩)
 refine b0i rfl rfl (fun x wx hG hp => ?_) (fun y _ _ h k => by obtain ⟨y, h1, h2⟩ := h; exact ⟨y, h1, h2.still k⟩) ?_
 ·try dsimp only
  have e3 : x 3 = .slice (some ⟨g45, 0, none⟩) 2 2 := hp 3 ap13
  generalize x 3 = v3 at e3 ⊢
  subst e3
  have e6 : ∃ (g : Nat) (y : Option Addr × Nat), x 6 = .slice (some ⟨g, 0, none⟩) 2 2 ∧ Has wx g [.slice y.1 33 y.2, .slice aa na ca] 22 ∧ BPart wx (.slice y.1 33 y.2) (a0W gP) := hp 6 ap13
  obtain ⟨ga, yc, e6, HGA, HYC⟩ := e6
  generalize x 6 = v6 at e6 ⊢
  subst e6
  clear hp
  refine n0I rfl Tryz.call62 (vs := [.slice (some ⟨g45, 0, none⟩) 2 2, .slice (some ⟨ga, 0, none⟩) 2 2]) rfl ?_
  refine (C0R (some ⟨g45, 0, none⟩) 2 [(beN (s.drop 32)), (mQ.M - (beN (s.take 32)) % mQ.M)] (some ⟨ga, 0, none⟩) 2 [.slice yc.1 33 yc.2, .slice aa na ca] [a0W gP, a] _ (by have h := Rd.whole (HBK.out.keep ((Fr.refl Nob _).drew.then hG.2) id); rwa [k0A] at h) ap15 (Rd.whole HGA) (BParts.two HYC (b0I (HA2.out.still ((Fr.refl Nob _).drew.then hG.2))))).mono ?_
  rintro e w' ⟨v, rfl, ho, hf⟩
  rw [HS1.out] at ho
  exact ⟨_, rfl, hf, v, rfl, OwnB1.ptb ho (by rw [n0K]; decide)⟩
 refine b0i rfl rfl (fun x wx hG hp => ?_) (fun y _ _ h k => h) ?_
 ·try dsimp only
  clear hp
  exact e0m (v := .slice (some ⟨g45, 0, none⟩) 2 2) ap7 rfl
 refine b0i rfl rfl (fun x wx hG hp => ?_) (fun y _ _ h k => h) ?_
 ·try dsimp only
  clear hp
  exact e0m (v := .slice ap np cp) ap7 rfl
 refine b0i rfl rfl (fun x wx hG hp => ?_) (fun y _ _ h k => h) ?_
 ·try dsimp only
  clear hp
  exact e0m (v := .slice ab nb cb) ap7 rfl
 refine b0i rfl rfl (fun x wx hG hp => ?_) (fun y _ _ h k => by obtain ⟨g, h1, h2⟩ := h; exact ⟨g, h1, h2.keep k id⟩) ?_
 ·try dsimp only
  have e9 : x 9 = .slice ap np cp := hp 9 ap13
  generalize x 9 = v9 at e9 ⊢
  subst e9
  have e10 : x 10 = .slice ab nb cb := hp 10 ap13
  generalize x 10 = v10 at e10 ⊢
  subst e10
  clear hp
  refine q0F rfl Tryz.underlying39 c0l [.slice ap np cp, .slice ab nb cb] rfl (by intro u hu; simp only [List.mem_cons, List.not_mem_nil, or_false] at hu; rcases hu with rfl | rfl <;> rfl) rfl [.slice ap np cp, .slice ab nb cb] rfl (fun g w' hf _ hg => ⟨g, rfl, hg⟩)
 refine b0i rfl rfl (fun x wx hG hp => ?_) (fun y _ _ h k => by obtain ⟨y, h1, h2⟩ := h; exact ⟨y, h1, h2.still k⟩) ?_
 ·try dsimp only
  have e8 : x 8 = .slice (some ⟨g45, 0, none⟩) 2 2 := hp 8 ap13
  generalize x 8 = v8 at e8 ⊢
  subst e8
  have e11 : ∃ g : Nat, x 11 = .slice (some ⟨g, 0, none⟩) 2 2 ∧ Has wx g [.slice ap np cp, .slice ab nb cb] 22 := hp 11 ap13
  obtain ⟨gb, e11, HGB⟩ := e11
  generalize x 11 = v11 at e11 ⊢
  subst e11
  clear hp
  refine n0I rfl Tryz.call62 (vs := [.slice (some ⟨g45, 0, none⟩) 2 2, .slice (some ⟨gb, 0, none⟩) 2 2]) rfl ?_
  refine (C0R (some ⟨g45, 0, none⟩) 2 [(beN (s.drop 32)), (mQ.M - (beN (s.take 32)) % mQ.M)] (some ⟨gb, 0, none⟩) 2 [.slice ap np cp, .slice ab nb cb] [p, b] _ (by have h := Rd.whole (HBK.out.keep ((Fr.refl Nob _).drew.then hG.2) id); rwa [k0A] at h) ap15 (Rd.whole HGB) (BParts.two (b0I (HP2.out.still ((Fr.refl Nob _).drew.then hG.2))) (b0I (HB2.out.still ((Fr.refl Nob _).drew.then hG.2))))).mono ?_
  rintro e w' ⟨v, rfl, ho, hf⟩
  rw [HS2.out] at ho
  exact ⟨_, rfl, hf, v, rfl, OwnB1.ptb ho (by rw [n0K]; decide)⟩
 refine b0i rfl rfl (fun x wx hG hp => ?_) (fun y _ _ h k => h) ?_
 ·try dsimp only
  have e0 : x 0 = .slice ap np cp := hp 0 ap13
  generalize x 0 = v0 at e0 ⊢
  subst e0
  have e1 : x 1 = .slice aa na ca := hp 1 ap13
  generalize x 1 = v1 at e1 ⊢
  subst e1
  have e2 : x 2 = .slice ab nb cb := hp 2 ap13
  generalize x 2 = v2 at e2 ⊢
  subst e2
  have e7 : ∃ v, x 7 = v ∧ PartIs wx v (c0W (beN (s.drop 32)) (beN (s.take 32)) gP (b0z a)) := hp 7 ap13
  obtain ⟨vs7, e7, HV7⟩ := e7
  generalize x 7 = v7 at e7 ⊢
  subst e7
  have e12 : ∃ v, x 12 = v ∧ PartIs wx v (c0W (beN (s.drop 32)) (beN (s.take 32)) (b0z p) (b0z b)) := hp 12 ap13
  obtain ⟨vs12, e12, HV12⟩ := e12
  generalize x 12 = v12 at e12 ⊢
  subst e12
  clear hp
  refine n0I rfl Tryz.call79 (vs := [.slice ap np cp, .slice aa na ca, .slice ab nb cb, v7, v12]) rfl ?_
  refine (j0t (.slice ap np cp) p (.slice aa na ca) a (.slice ab nb cb) b v7 (c0W (beN (s.drop 32)) (beN (s.take 32)) gP (b0z a)) v12 (c0W (beN (s.drop 32)) (beN (s.take 32)) (b0z p) (b0z b)) _ (HP2.out.still ((Fr.refl Nob _).drew.then hG.2)) (HA2.out.still ((Fr.refl Nob _).drew.then hG.2)) (HB2.out.still ((Fr.refl Nob _).drew.then hG.2)) HV7 HV12).mono ?_
  rintro e w' ⟨rfl, hf⟩
  exact ⟨_, rfl, hf, rfl⟩
 refine b0i rfl rfl (fun x wx hG hp => ?_) (fun y _ _ h k => h) ?_
 ·try dsimp only
  clear hp
  exact e0m (v := i4 (elN mQ (beN (s.take 32)))) (s0b (hG.1.at 0 rfl) (x := .tmp 11) (p := 0) rfl rfl (cw 4 (elN mQ (beN (s.take 32)))) dZl Tryz.underlying68 rfl (h0w _)) rfl
 refine b0i rfl rfl (fun x wx hG hp => ?_) (fun y _ _ h k => h) ?_
 ·try dsimp only
  have e13 : x 13 = i4 (elN mQ (c0Z p a b (c0W (beN (s.drop 32)) (beN (s.take 32)) gP (b0z a)) (c0W (beN (s.drop 32)) (beN (s.take 32)) (b0z p) (b0z b)))) := hp 13 ap13
  generalize x 13 = v13 at e13 ⊢
  subst e13
  have e14 : x 14 = i4 (elN mQ (beN (s.take 32))) := hp 14 ap13
  generalize x 14 = v14 at e14 ⊢
  subst e14
  clear hp
  exact e0m (t0A mQ d0D _ _ rfl rfl rfl HB15.out _) rfl
 exact trivial
 intro x w9 hG hp
 try dsimp only
 have e15 : x 15 = .bool (vsB a p b s) := hp 15 ap13
 generalize x 15 = v15 at e15 ⊢
 subst e15
 clear hp
 generalize x 0 = v0
 generalize x 1 = v1
 generalize x 2 = v2
 generalize x 3 = v3
 generalize x 4 = v4
 generalize x 5 = v5
 generalize x 6 = v6
 generalize x 7 = v7
 generalize x 8 = v8
 generalize x 9 = v9
 generalize x 10 = v10
 generalize x 11 = v11
 generalize x 12 = v12
 generalize x 13 = v13
 generalize x 14 = v14
 have st9 := hG.1
 clear hG hd8
 refine a0q rfl rfl ?_
 go_simp
 try simp only [clL]
 refine a0i ?_
 refine NoPanic.normal ?_
 have hfr := FW.out.then st9.fr
 clear st9
 go_wp2_with fail
 go_ret
 exact ⟨rfl, hfr⟩
theorem n0L (aa : Option Addr) (na ca : Nat) (a : List UInt8) (ap : Option Addr) (np cp : Nat) (p : List UInt8) (ab : Option Addr) (nb cb : Nat) (b : List UInt8) (as_ : Option Addr) (ns cs : Nat) (s : List UInt8) (w : World) (ha : PartIs w (.slice aa na ca) a) (hp : PartIs w (.slice ap np cp) p) (hb : PartIs w (.slice ab nb cb) b) (hs : PartIs w (.slice as_ ns cs) s) : Calls Tryz.prog 25 #[.slice aa na ca, .slice ap np cp, .slice ab nb cb, .slice as_ ns cs] w fun e w' => e = .returned (.bool (vsB a p b s)) ∧ Fr Nob w w' := by
 have hl := d0Z hs
 cases h : vsG a p b s with
 | false =>
  rw [C0V h]
  unfold vsG at h
  cases h1 : b0x [a, p, b] with
  | false => exact E0y aa na ca a ap np cp p ab nb cb b as_ ns cs s w ha hp hb hs h1
  | true =>
   by_cases h2 : ns = 64
   ·subst h2
    obtain ⟨bs_, os, rfl, -⟩ := (d0Y hs).at ap13
    rw [h1, decide_eq_true hl, Bool.true_and, Bool.true_and] at h
    exact E0A aa na ca a ap np cp p ab nb cb b bs_ os cs s w ha hp hb hs h1 h
   ·exact E0z aa na ca a ap np cp p ab nb cb b as_ ns cs s w ha hp hb hs h1 h2
 | true =>
  have h2 := h
  unfold vsG at h2
  simp only [Bool.and_eq_true, decide_eq_true_eq] at h2
  obtain rfl : ns = 64 := by omega
  obtain ⟨bs_, os, rfl, -⟩ := (d0Y hs).at ap13
  exact E0B aa na ca a ap np cp p ab nb cb b bs_ os cs s w ha hp hb hs h
end
section
open Go.RowKit Go.Mv Mvp
attribute [local irreducible] b0n b0D toB a0x a0F b0o c0a a0I c0n b0e a0C c0m
def inc (l : List UInt8) : List UInt8 := l.map (· + 1)
theorem c0r (l : List UInt8) : (inc l).length = l.length := by simp [inc]
def p0n (ls : List (List UInt8)) (i j : Nat) : List (List UInt8) := (ls.take i).map inc ++ ((fill (inc (ls.getD i [])) (ls.getD i []) j) :: ls.drop (i + 1)).take (ls.length - i)
theorem v0i (ls : List (List UInt8)) : p0n ls 0 0 = ls := by
 cases ls with
 | nil => rfl
 | cons a l => simp [p0n, g0j]
theorem v0j (ls : List (List UInt8)) (i : Nat) (hi : i < ls.length) : p0n ls i (ls.getD i []).length = p0n ls (i + 1) 0 := by
 unfold p0n
 rw [g0k _ _ _ (c0r _) (by rw [c0r]; exact Nat.le_refl _), g0j, List.take_succ_eq_append_getElem hi, List.map_append, List.append_assoc]
 congr 1
 have e : ls.getD i [] = ls[i] := by simp [List.getD_eq_getElem?_getD, hi]
 rw [e, show ls.length - i = (ls.length - i - 1) + 1 by omega, List.take_succ_cons]
 simp only [List.map_cons, List.map_nil, List.singleton_append]
 congr 1
 rw [List.take_of_length_le (by rw [List.length_drop]; omega)]
 rcases Nat.lt_or_ge (i + 1) ls.length with h | h
 ·have e2 : ls.getD (i + 1) [] = ls[i + 1] := by simp [List.getD_eq_getElem?_getD, h]
  rw [e2, ← List.drop_eq_getElem_cons h, List.take_of_length_le (by rw [List.length_drop]; omega)]
 ·rw [List.drop_eq_nil_of_le h, show ls.length - (i + 1) = 0 by omega]; rfl
theorem x0N (ls : List (List UInt8)) : p0n ls ls.length 0 = ls.map inc := by
 unfold p0n
 rw [Nat.sub_self, List.take_zero, List.append_nil, List.take_length]
theorem x0O (ls : List (List UInt8)) (i j : Nat) (hi : i < ls.length) (hj : j < (ls.getD i []).length) : (p0n ls i j).set i ((fill (inc (ls.getD i [])) (ls.getD i []) j).set j ((inc (ls.getD i [])).getD j 0)) = p0n ls i (j + 1) := by
 unfold p0n
 rw [h0P _ _ _ (c0r _) (by rw [c0r]; exact hj)]
 have e : ((ls.take i).map inc).length = i := by rw [List.length_map, List.length_take]; omega
 rw [List.set_append_right _ _ ap14, e, Nat.sub_self, show ls.length - i = (ls.length - i - 1) + 1 by omega, List.take_succ_cons, List.take_succ_cons, List.set_cons_zero]
theorem x0P (ls : List (List UInt8)) (i j : Nat) (hi : i < ls.length) : (p0n ls i j)[i]? = some (fill (inc (ls.getD i [])) (ls.getD i []) j) := by
 unfold p0n
 have e : ((ls.take i).map inc).length = i := by rw [List.length_map, List.length_take]; omega
 rw [List.getElem?_append_right ap14, e, Nat.sub_self, show ls.length - i = (ls.length - i - 1) + 1 by omega, List.take_succ_cons]
 rfl
theorem Sep.ne {vs : List Value} (h : Sep vs) {i j : Nat} {a b : Value} (hi : vs[i]? = some a) (hj : vs[j]? = some b) (hij : i ≠ j) (k : Nat) (hk : e0n a k) : ¬ e0n b k := by
 unfold Sep at h
 rw [List.pairwise_iff_getElem] at h
 obtain ⟨h1, rfl⟩ := List.getElem?_eq_some_iff.1 hi
 obtain ⟨h2, rfl⟩ := List.getElem?_eq_some_iff.1 hj
 rcases Nat.lt_or_gt_of_ne hij with h3 | h3
 ·exact h i j h1 h2 h3 k hk
 ·exact fun hk' => h j i h2 h1 h3 k hk' hk
theorem POwn.keepAt {w w' : World} {base : Nat} {S : Nat → Prop} (hf : Fr S w w') : ∀ {vs : List Value} {ls : List (List UInt8)}, POwn w base vs ls → (∀ (j : Nat) (v : Value), vs[j]? = some v → ∀ k, e0n v k → ¬ S k) → POwn w' base vs ls
 | [], [], _, _ => trivial
 | v :: vs, l :: ls, h, hs => ⟨h.1.keep hf (hs 0 v rfl), POwn.keepAt hf h.2 (fun j u hu => hs (j + 1) u (by simpa using hu))⟩
 | [], _ :: _, h, _ => h.elim
 | _ :: _, [], h, _ => h.elim
theorem POwn.upd {w w' : World} {base : Nat} {S : Nat → Prop} (hf : Fr S w w') : ∀ {vs : List Value} {ls : List (List UInt8)} (i : Nat) (l' : List UInt8), POwn w base vs ls → (∀ v, vs[i]? = some v → Own w' base 5 1 v l'.length (bs l')) → (∀ (j : Nat) (v : Value), j ≠ i → vs[j]? = some v → ∀ k, e0n v k → ¬ S k) → POwn w' base vs (ls.set i l')
 | [], [], i, l', _, _, _ => trivial
 | v :: vs, l :: ls, 0, l', h, hv, hs => ⟨hv v rfl, POwn.keepAt hf h.2 (fun j u hu => hs (j + 1) u ap14 (by simpa using hu))⟩
 | v :: vs, l :: ls, i + 1, l', h, hv, hs => ⟨h.1.keep hf (hs 0 v ap14 rfl), POwn.upd hf i l' h.2 (fun u hu => hv u (by simpa using hu)) (fun j u hj hu => hs (j + 1) u ap14 (by simpa using hu))⟩
 | [], _ :: _, _, _, h, _, _ => h.elim
 | _ :: _, [], _, _, h, _, _ => h.elim
end
section
open Go.RowKit Go.Mv Mvp
attribute [local irreducible] b0n b0D toB a0x a0F b0o c0a a0I c0n b0e a0C c0m
def Up (base : Nat) : Nat → Prop := fun k => base ≤ k
theorem q0J (y : UInt8) : ((y.toNat : Int) + 1) % 256 = ((y + 1).toNat : Int) := by simp
structure ApAt (w0 : World) (base n : Nat) (lv : Value) (vs : List Value) (st : List (List UInt8)) (w : World) : Prop where
 l : Own w base 22 1 lv n vs
 p : POwn w base vs st
 f : Fr (Up base) w0 w
theorem ApAt.still {w0 w w' : World} {base n : Nat} {lv : Value} {vs : List Value} {st : List (List UInt8)} (h : ApAt w0 base n lv vs st w) (hf : Fr Nob w w') : ApAt w0 base n lv vs st w' :=
 ⟨h.l.still hf, h.p.still hf, h.f.same hf⟩
theorem ApAt.at {w0 w : World} {base n : Nat} {lv : Value} {vs : List Value} {st : List (List UInt8)} (h : ApAt w0 base n lv vs st w) {i : Nat} (hi : i < n) :
  ∃ g o c x, lv = .slice (some ⟨g, o, none⟩) n c ∧ vs[i]? = some x ∧ w.cell? ⟨g, o + i, none⟩ = some x ∧ Own w base 5 1 x (st.getD i []).length (bs (st.getD i [])) := by
 obtain ⟨a, c, rfl, _, hr, -⟩ := h.l.form
 rw [Nat.mul_one] at hr
 have hvl := hr.len
 obtain ⟨b, o, rfl, hat⟩ := hr.at ap14
 obtain ⟨l, h3, h4⟩ := h.p.get i vs[i] (List.getElem?_eq_getElem ap14)
 have e : st.getD i [] = l := by rw [List.getD_eq_getElem?_getD, h3]; rfl
 rw [e]
 exact ⟨b, o, c, vs[i], rfl, List.getElem?_eq_getElem ap14, hat i _ (List.getElem?_eq_getElem ap14), h4⟩
theorem ApAt.upd {w0 w w' : World} {base n : Nat} {lv : Value} {vs : List Value} {st : List (List UInt8)} (h : ApAt w0 base n lv vs st w) (hs : Sep vs) {i : Nat} {x : Value} (hx : vs[i]? = some x) {l l' : List UInt8} (ho : Own w base 5 1 x l.length (bs l)) (hf : Fr (e0n x) w w') (ho' : Own w' base 5 1 x l'.length (bs l')) :
  ApAt w0 base n lv vs (st.set i l') w' := by
 refine ⟨h.l.keep hf (fun k hk hk' => h.l.ne2 ho ap13 k hk hk'), POwn.upd hf i l' h.p (fun v hv => by rw [hx] at hv; cases hv; exact ho') (fun j v hj hv k hk hk' => hs.ne hv hx hj k hk hk'), h.f.trans hf (fun k _ t => (ho.lt t).1)⟩
def tl (i : Nat) : List UInt8 := (List.range 80).map fun j => UInt8.ofNat ((i * 37 + j) % 253) ^^^ 90
theorem k0F (i : Nat) : (tl i).length = 80 := by simp [tl]
theorem y0Q (i j : Nat) (h : j < 80) : (tl i).getD j 0 = UInt8.ofNat ((i * 37 + j) % 253) ^^^ 90 := by simp [tl, List.getD_eq_getElem?_getD, h]
theorem A0Z (i j : Nat) (h : j < 80) : (tl i).take (j + 1) = (tl i).take j ++ [UInt8.ofNat ((i * 37 + j) % 253) ^^^ 90] := by
 rw [List.take_succ_eq_append_getElem (by rw [k0F]; exact h), ← y0Q i j h]
 simp [List.getD_eq_getElem?_getD, k0F, h]
theorem y0R (k j : Nat) : bits BinOp.xor IntKind.u8 (((k : Int) * 37 + (j : Int)) % 253) 90 = (((k * 37 + j) % 253 % 256 ^^^ 90 : Nat) : Int) := by
 have e1 : (((k : Int) * 37 + (j : Int)) % 253) = (((k * 37 + j) % 253 : Nat) : Int) := by omega
 have h := Nat.mod_lt (k * 37 + j) (show 0 < 253 by decide)
 rw [e1]
 generalize (k * 37 + j) % 253 = z at *
 have e2 := u8_xor_nat z 90 ap14 ap14
 rw [show (90 : Int) = ((90 : Nat) : Int) from rfl, e2, Nat.mod_eq_of_lt (show z < 256 by omega)]
def grw (ls : List (List UInt8)) (i : Nat) : List (List UInt8) := (List.range i).map fun k => inc (ls.getD k []) ++ tl k
theorem x0Q (ls : List (List UInt8)) (i : Nat) : grw ls (i + 1) = grw ls i ++ [inc (ls.getD i []) ++ tl i] := by simp [grw, List.range_succ]
theorem B0a (ls : List (List UInt8)) (i k : Nat) (h : k < i) : (grw ls i).getD k [] = inc (ls.getD k []) ++ tl k := by simp [grw, List.getD_eq_getElem?_getD, h]
theorem Own.front {w : World} {base : Nat} {T : TypeId} {g o n m cap : Nat} {L M : List Value} (h : Own w base T 1 (.slice (some ⟨g, o, none⟩) (n + m) cap) (n + m) (L ++ M)) (hL : L.length = n) : Own w base T 1 (.slice (some ⟨g, o, none⟩) n cap) n L := by
 obtain ⟨h1, h | ⟨g', o', cap', B, hv, h2, h3, h4, h5, h6, h7⟩⟩ := h
 ·cases h.1
 ·simp only [Value.slice.injEq, Option.some.injEq, Addr.mk.injEq, and_true, true_and] at hv
  obtain ⟨⟨rfl, rfl⟩, rfl⟩ := hv
  refine ⟨by omega, .inr ⟨g, o, cap, B, rfl, h2, h3, by omega, h5, h6, ?_⟩⟩
  have := congrArg (fun l => l.take n) h7
  simp only [List.take_take] at this
  rw [List.take_left' hL, Nat.mul_one, Nat.min_eq_left ap14] at this
  rw [Nat.mul_one]; exact this
def Grows (w : World) (x gv : Value) (n j : Nat) : Prop := (∃ g o cap, x = .slice (some ⟨g, o, none⟩) n cap ∧ gv = .slice (some ⟨g, o, none⟩) (n + j) cap) ∨ (∀ b, e0n gv b → w.heap.size ≤ b)
theorem Grows.start (w : World) (x : Value) (a : Option Addr) (n c : Nat) (h : x = .slice a n c) (ha : ∀ y, a = some y → y.spot = none) : Grows w x x n 0 := by
 subst h
 cases a with
 | none => exact .inr (fun b hb => by cases hb)
 | some y =>
  obtain ⟨g, o, sp⟩ := y
  have : sp = none := ha _ rfl
  subst this
  exact .inl ⟨g, o, c, rfl, rfl⟩
theorem Grows.blk {w : World} {x gv : Value} {n j : Nat} (h : Grows w x gv n j) (b : Nat) (hb : e0n gv b) : e0n x b ∨ w.heap.size ≤ b := by
 rcases h with ⟨g, o, cap, rfl, rfl⟩ | h
 ·exact .inl hb
 ·exact .inr (h b hb)
theorem Grows.step {wi w w' : World} {base n j : Nat} {x gv v' : Value} {L M : List UInt8} (h : Grows wi x gv n j) (hx : Own w base 5 1 x n (bs L)) (hxi : ∀ b, e0n x b → b < wi.heap.size) (hf0 : Fr (e0n x) wi w)
  (ho' : Own w' base 5 1 v' (n + j + 1) (bs (L ++ M))) (hf : Fr (e0n gv) w w')
  (hc : ((∃ x o cap, gv = .slice (some ⟨x, o, none⟩) (n + j) cap ∧ v' = .slice (some ⟨x, o, none⟩) (n + j + 1) cap) ∨ ((1 : Nat) = 0 ∧ v' = gv)) ∨ (v'.ownBlock = some w.heap.size ∧ Fr Nob w w')) :
  Grows wi x v' n (j + 1) ∧ Own w' base 5 1 x n (bs L) ∧ Fr (e0n x) wi w' := by
 rw [c0K] at ho'
 have hfr : Fr (e0n x) wi w' := hf0.trans hf (fun i hi t => (h.blk i t).resolve_right ap14)
 have hsz := hf0.size
 have hLn : (bs L).length = n := by have := hx.1; omega
 rcases hc with (⟨g, o, cap, rfl, rfl⟩ | ⟨h0, -⟩) | ⟨h1, h2⟩
 ·rcases h with ⟨g', o', cap', rfl, hv⟩ | h
  ·simp only [Value.slice.injEq, Option.some.injEq, Addr.mk.injEq, and_true, true_and] at hv
   obtain ⟨⟨rfl, rfl⟩, rfl⟩ := hv
   exact ⟨.inl ⟨_, _, _, rfl, rfl⟩, Own.front (m := j + 1) ho' hLn, hfr⟩
  ·refine ⟨.inr h, hx.keep hf (fun k hk hk' => ?_), hfr⟩
   have h3 := h k hk'
   have h4 := hxi k hk
   omega
 ·omega
 ·refine ⟨.inr (fun b hb => ?_), hx.still h2, hfr⟩
  have : w.heap.size = b := by
   have hb' : v'.ownBlock = some b := hb
   rw [h1] at hb'
   exact Option.some.inj hb'
  omega
theorem x0R {P : Program} {t : TypeId} (ht : P.underlying t = some .string) (q : ByteArray) (k : Nat) (hk : k < q.size) (y : UInt8) (hy : q.data.toList.getD k 0 = y) (w : World) : (Instr.index t (.string q) (.int .i64 (k : Int))).run P w = .ok (.int .u8 (y.toNat : Int)) w := by
 have he : q[k]? = some y := by
  have h1 : q[k]? = some q[k] := getElem?_pos q k hk
  rw [h1]
  congr 1
  rw [← hy, List.getD_eq_getElem?_getD, List.getElem?_eq_getElem (by simpa using hk)]
  simp
  rfl
 simp [Instr.index, asIntOf, run_underlying ht, he]
theorem v0k (lv : Value) (base n : Nat) (vs : List Value) (ls : List (List UInt8)) (w : World) (hown : Own w base 22 1 lv n vs) (hpo : POwn w base vs ls) (hsep : Sep vs) (hn : n ≤ 100000) (hx : ∀ x ∈ ls, x.length ≤ 1000000) (hbase : base ≤ w.heap.size) :
  Calls Tryz.prog 37 #[lv] w fun e w' => e = .returned (.bool true) ∧ Fr (Up base) w w' := by
 have hln : ls.length = n := by
  have h1 := hpo.len
  have h2 := hown.1
  omega
 have hA0 : ApAt w base n lv vs ls w := ⟨hown, hpo, Fr.refl _ _⟩
 have HLB := qH (fun b (hb : e0n lv b) => (hown.lt hb).2)
 obtain ⟨a0, c0, rfl, hc0, -⟩ := id hown.form
 have hxg : ∀ i, i < n → (ls.getD i []).length ≤ 1000000 := fun i hi => by
  rw [List.getD_eq_getElem?_getD, List.getElem?_eq_getElem ap14]
  exact hx _ (List.getElem_mem _)
 have HXG := qH hxg
 have HLN := qH hln
 have HSEP := qH hsep
 clear hown hpo hx hxg hln hsep
 go_enter Tryz.func37, Tryz.ntmps37
 go_wp2_with fail
 go_loopw [4, 3] (fun i q wr => ∃ j : Nat, j ≤ n ∧ i = .int .i64 (j : Int) ∧ Own wr w.heap.size 9 1 q j (ss (ls.take j)) ∧ Fr Nob w wr) (fun i _ _ => (n - intOf i).toNat)
 case atStart => exact ⟨0, by omega, rfl, Own.nil _ _ _ _, Fr.refl _ _⟩
 case round =>
  obtain ⟨j, hj, rfl, hown, hfr⟩ := hrel
  by_cases hlt : j < n
  ·have hltI : (j : Int) < (n : Int) := by omega
   obtain ⟨g, o, cc, x, hv, hvx, hc, hox⟩ := (hA0.still hfr).at hlt
   simp only [Value.slice.injEq] at hv
   obtain ⟨rfl, -, rfl⟩ := hv
   have htk : ss (ls.take (j + 1)) = ss (ls.take j) ++ [.string (mkS (ls.getD j []))] := by
    have h := HLN.out
    unfold ss
    rw [List.take_succ_eq_append_getElem ap14, List.map_append]
    congr 1
    simp [List.getD_eq_getElem?_getD, show j < ls.length by omega]
   have HTK := qH htk; clear htk
   generalize ls.getD j [] = l at *
   obtain ⟨ax, cx, rfl, -, hrx, -⟩ := id hox.form
   rw [Nat.mul_one] at hrx
   have hrb : RdB wr ax l.length l := hrx
   have x1 := d0J (P := Tryz.prog) hrb cx Tryz.underlying22 Tryz.underlying5 Tryz.underlying9
   clear hox hrx hvx
   go_wp2_with (with_reducible refine wSk 26 ?_)
   unfold s0j
   refine b0P rfl rfl Tryz.underlying40 f0B [.string (mkS l)] rfl (by simp; rfl) rfl rfl ?_
   intro w2 hh2 hf2 hz2
   clear hz2
   have hown2 := hown.still hf2
   have hfr2 := hfr.then hf2
   clear hown hfr hf2 hrb x1 hc
   generalize wr.heap.size = g1 at *
   go_wp2_with (with_reducible refine wSk 27 ?_)
   unfold s0j
   refine b0Y rfl rfl Tryz.underlying40 f0B rfl ap13 hown2 rfl rfl (Rd.whole hh2) (fun u hu => by simp only [List.mem_singleton] at hu; subst hu; rfl) ap9 ap14 hfr2.size ?_
   intro v3 w3 hown3 hf3 hb3
   clear hb3
   have hfr3 := hown2.fr hfr2 (Nat.le_refl _) hf3
   have hown4 : Own w3 w.heap.size 9 1 v3 (j + 1) (ss (ls.take (j + 1))) := by rw [HTK.out]; exact hown3
   clear hown2 hfr2 hf3 hown3 hh2
   go_wp2_with fail
   go_roundw
   case rel => exact ⟨j + 1, by omega, by go_num, hown4, hfr3⟩
   case measure => simp [intOf]; omega
  ·have hge : ¬ (j : Int) < (n : Int) := by omega
   obtain rfl : j = n := by omega
   rw [List.take_of_length_le (by rw [HLN.out]; exact Nat.le_refl _)] at hown
   have hA1 := hA0.still hfr
   have hbw := hfr.size
   rw [← v0i ls] at hA1
   clear hA0 hfr
   obtain ⟨w1, hw1⟩ : ∃ w1, w1 = wr := ⟨_, rfl⟩
   subst hw1
   go_wp2_with fail
   go_loopw [5, 6] (fun i z wr => ∃ i' : Nat, i' ≤ j ∧ i = .int .i64 (i' : Int) ∧ ApAt w base j (.slice a0 j c0) vs (p0n ls i' 0) wr ∧ Own wr w.heap.size 9 1 u3 j (ss ls)) (fun i _ _ => (j - intOf i).toNat)
   case atStart => exact ⟨0, by omega, rfl, hA1, hown⟩
   case round =>
    clear hA1 hown
    obtain ⟨i, hi, rfl, hA, hws⟩ := hrel
    by_cases hin : i < j
    ·have hinI : (i : Int) < (j : Int) := by omega
     have hwi : ∃ w2, w2 = wr := ⟨_, rfl⟩
     obtain ⟨w2, hw2⟩ := hwi
     subst hw2
     have hl1 := HLN.out
     have hxl := HXG.out i hin
     have hinc := c0r (ls.getD i [])
     have hnext := v0j ls i ap14
     have hset := fun k h => x0O ls i k ap14 h
     have hget := fun k => x0P ls i k ap14
     generalize hli : ls.getD i [] = li at *
     have HLI := qH hli; clear hli
     have HINC := qH hinc; clear hinc
     have HNEXT := qH hnext; clear hnext
     have HSET := qH hset; clear hset
     have HGET := qH hget; clear hget
     clear hl1
     go_wp2_with fail
     go_loopw [6] (fun z wr => ∃ k : Nat, k ≤ li.length ∧ z = .int .i64 (k : Int) ∧ ApAt w base j (.slice a0 j c0) vs (p0n ls i k) wr ∧ Own wr w.heap.size 9 1 u3 j (ss ls)) (fun z _ => (li.length - intOf z).toNat)
     case atStart => exact ⟨0, by omega, rfl, hA, hws⟩
     case round =>
      clear hA hws
      obtain ⟨k, hk, rfl, hA, hws⟩ := hrel
      obtain ⟨g, o, cc, x, hv, hvx, hc, hox⟩ := hA.at hin
      simp only [Value.slice.injEq] at hv
      obtain ⟨rfl, -, rfl⟩ := hv
      have hg := HGET.out k
      have hge : (p0n ls i k).getD i [] = fill (inc li) li k := by rw [List.getD_eq_getElem?_getD, hg]; rfl
      rw [hge] at hox
      have hfl := c0D (inc li) li k HINC.out
      rw [hfl] at hox
      clear hg hge
      obtain ⟨ax, cx, rfl, -⟩ := id hox.form
      by_cases hkl : k < li.length
      ·have hklI : (k : Int) < (li.length : Int) := by omega
       obtain ⟨g', o', cap', hv', hbg, hgw, hncap, hcm, hcell, hfro, hupd⟩ := hox.cells ap14
       simp only [Value.slice.injEq] at hv'
       obtain ⟨rfl, -, rfl⟩ := hv'
       have hfk : (bs (fill (inc li) li k))[k]? = some (.int .u8 ((li.getD k 0).toNat : Int)) := by
        have h1 := v0t (inc li) li k k HINC.out (Nat.le_refl _)
        rw [g0g _ _ (by rw [hfl]; exact hkl), List.getD_eq_getElem?_getD, h1, ← List.getD_eq_getElem?_getD]
       have hcb := hcell k _ hfk
       have hfz := hfro k hkl
       have hnew : (inc li).getD k 0 = li.getD k 0 + 1 := by
        simp [inc, List.getD_eq_getElem?_getD, hkl]
       have hs2 := HSET.out k hkl
       rw [hnew] at hs2
       have hup2 := hupd k (.int .u8 ((li.getD k 0 + 1).toNat : Int)) hkl
       rw [g0h] at hup2
       have hby := q0J (li.getD k 0)
       generalize li.getD k 0 = y at *
       have HS2 := qH hs2; clear hs2 hnew hfk
       have HCELL := qH hcell; clear hcell hfro
       have HUP := qH hup2; clear hup2 hupd
       have HBY := qH hby; clear hby hfl
       go_wp2_with fail
       refine wp_region_still_tail 14 ap12 ap12 ?_
       simp only [List.take_succ_cons, List.take_zero, List.drop_succ_cons, List.drop_zero]
       repeat still_step
       refine wpStill_nil ?_
       go_wp2_with fail
       rw [HBY.out]
       have hfS : Fr (e0n (.slice (some ⟨g', o', none⟩) li.length cx)) wr (wr.setCell ⟨g', o' + k, none⟩ (.int .u8 ((y + 1).toNat : Int))) := (Fr.refl _ wr).setCell g' (o' + k) none _ (fun _ => rfl)
       have hA2 := (hA.upd HSEP.out hvx (l := fill (inc li) li k) (by rw [c0D _ _ _ HINC.out]; exact hox) hfS (l' := (fill (inc li) li k).set k (y + 1)) (by rw [List.length_set, c0D _ _ _ HINC.out]; exact HUP.out)).still ((Fr.refl Nob _).drew)
       rw [HS2.out] at hA2
       have hws2 := (hws.keep hfS (fun b hb hb' => hws.ne2 hox ap13 b hb hb')).still ((Fr.refl Nob _).drew)
       clear hA hws hox hfS hcb hfz hc hvx
       generalize (wr.setCell ⟨g', o' + k, none⟩ (.int .u8 ((y + 1).toNat : Int))).drew = w9 at *
       go_roundw
       case rel => exact ⟨k + 1, by omega, by go_num, hA2, hws2⟩
       case measure => simp [intOf]; omega
      ·have hklI : ¬ (k : Int) < (li.length : Int) := by omega
       obtain rfl : k = li.length := by omega
       rw [HNEXT.out] at hA
       go_wp2_with fail
       go_roundw
       case rel => exact ⟨i + 1, by omega, by go_num, hA, hws⟩
       case measure => simp [intOf]; omega
    ·have hinI : ¬ (i : Int) < (j : Int) := by omega
     obtain rfl : i = j := by omega
     have hall := x0N ls
     rw [HLN.out] at hall
     rw [hall] at hA
     clear hall
     obtain ⟨w4, hw4⟩ : ∃ w4, w4 = wr := ⟨_, rfl⟩
     subst hw4
     have hws4 := hws
     have hw04 := hA.f.size
     go_wp2_with fail
     go_loopw [8, 7, 9, 10] (fun z q g9 j9 wr => ∃ (k : Nat) (gs : List Value), k ≤ i ∧ z = .int .i64 (k : Int) ∧ Own wr w4.heap.size 22 1 q k gs ∧ POwn wr base gs (grw ls k) ∧ (∀ (s m : Nat) (g u : Value), s ≠ m → gs[s]? = some g → vs[m]? = some u → ∀ b, e0n g b → ¬ e0n u b) ∧ ApAt w base i (.slice a0 i c0) vs (ls.map inc) wr ∧ Own wr w.heap.size 9 1 u3 i (ss ls) ∧ w4.heap.size ≤ wr.heap.size) (fun z _ _ _ _ => (i - intOf z).toNat)
     case atStart => exact ⟨0, [], by omega, rfl, Own.nil _ _ _ _, trivial, by simp, hA, hws, Nat.le_refl _⟩
     case round =>
      clear hA hws hws4
      obtain ⟨k, gs, hk, rfl, hq, hpg, hcr, hA, hws, hsz4⟩ := hrel
      have HCR := qH hcr; clear hcr
      by_cases hlt4 : k < i
      ·have hltI : (k : Int) < (i : Int) := by omega
       obtain ⟨g, o, cc, x, hv, hvx, hc, hox⟩ := hA.at hlt4
       simp only [Value.slice.injEq] at hv
       obtain ⟨rfl, -, rfl⟩ := hv
       have hl1 := HLN.out
       have hxl := HXG.out k hlt4
       have hmg : (ls.map inc).getD k [] = inc (ls.getD k []) := by simp [List.getD_eq_getElem?_getD, show k < ls.length by omega]
       rw [hmg, c0r] at hox
       have hmk : (ls.map inc)[k]? = some (inc (ls.getD k [])) := by simp [List.getD_eq_getElem?_getD, show k < ls.length by omega]
       have hgs := x0Q ls k
       generalize ls.getD k [] = li at *
       have HGS := qH hgs; clear hgs hmg hl1
       have HMK := qH hmk; clear hmk
       obtain ⟨wi, hwi⟩ : ∃ wi, wi = wr := ⟨_, rfl⟩
       subst hwi
       have hgstart : Grows wi x x li.length 0 := by
        rcases hox.2 with ⟨h1, h2⟩ | ⟨g', o', cap', B, h1, -⟩
        ·exact Grows.start wi x none _ _ (by rw [h1, h2]) ap15
        ·exact Grows.start wi x (some ⟨g', o', none⟩) _ _ h1 (fun y hy => by cases hy; rfl)
       have hxi : ∀ b, e0n x b → b < wi.heap.size := fun b hb => (hox.lt hb).2
       have HXI := qH hxi; clear hxi
       have hbz := hA.f.size
       go_wp2_with fail
       go_loopw [10, 9] (fun z gv wr => ∃ j : Nat, j ≤ 80 ∧ z = .int .i64 (j : Int) ∧ Own wr base 5 1 gv (li.length + j) (bs (inc li ++ (tl k).take j)) ∧ Grows wi x gv li.length j ∧ Own wr base 5 1 x li.length (bs (inc li)) ∧ Fr (e0n x) wi wr) (fun z _ _ => (80 - intOf z).toNat)
       case atStart => exact ⟨0, by omega, rfl, by rw [List.take_zero, List.append_nil]; exact hox, hgstart, hox, Fr.refl _ _⟩
       case round =>
        clear hgstart
        obtain ⟨j, hj80, rfl, hog, hgr, hoxr, hfx⟩ := hrel
        by_cases hj : j < 80
        ·have hjI : (j : Int) < 80 := by omega
         have htk := A0Z k j hj
         have HTK := qH htk; clear htk
         go_wp2_with (with_reducible refine wSk 79 ?_)
         unfold s0j
         refine s0K rfl rfl Tryz.underlying22 q0z (UInt8.ofNat ((k * 37 + j) % 253) ^^^ 90) ?hy ?_
         case hy =>
          simp [Act.eval]
          exact y0R k j
         intro w5 hh5 hf5 hz5
         clear hz5
         have hog5 := hog.still hf5
         have hox5 := hoxr.still hf5
         have hfx5 := hfx.same hf5
         have hsz5 := hf5.size
         have hb5 : base ≤ w5.heap.size := Nat.le_trans (Nat.le_trans hbase hbz) (hfx5.size)
         clear hog hoxr hfx hf5
         generalize UInt8.ofNat ((k * 37 + j) % 253) ^^^ 90 = yb at *
         go_wp2_with (with_reducible refine wSk 80 ?_)
         unfold s0j
         refine o0w rfl rfl Tryz.underlying22 q0z rfl ap13 hog5 rfl rfl (Rd.whole hh5) (g0i _) ap9 ap14 hb5 ?_
         intro v6 w6 hog6 hf6 _ hcase6
         have hog7 : Own w6 base 5 1 v6 (li.length + (j + 1)) (bs (inc li ++ (tl k).take (j + 1))) := by
          rw [HTK.out, ← List.append_assoc, c0K]; exact hog6
         obtain ⟨hgr7, hox7, hfx7⟩ := hgr.step hox5 HXI.out hfx5 (M := (tl k).take (j + 1)) hog7 hf6 hcase6
         clear hog5 hox5 hfx5 hog6 hf6 hcase6 hgr hh5
         go_wp2_with fail
         go_roundw
         case rel => exact ⟨j + 1, by omega, by go_num, hog7, hgr7, hox7, hfx7⟩
         case measure => simp [intOf]; omega
        ·have hjI : ¬ (j : Int) < 80 := by omega
         obtain rfl : j = 80 := by omega
         rw [List.take_of_length_le (by rw [k0F]; exact Nat.le_refl _)] at hog
         have hAx : ApAt w base i (.slice (some ⟨g, o, none⟩) i c0) vs (ls.map inc) wr := by
          have h1 := hA.upd HSEP.out hvx (l := inc li) (by rw [c0r]; exact hox) hfx (l' := inc li) (by rw [c0r]; exact hoxr)
          have e : (ls.map inc).set k (inc li) = ls.map inc := by
           obtain ⟨h3, h4⟩ := List.getElem?_eq_some_iff.1 HMK.out
           rw [← h4, List.set_getElem_self]
          rw [e] at h1; exact h1
         have hgl : gs.length = k := by have := hq.1; omega
         have hq1 := hq.keep hfx (fun b hb hb' => hq.ne2 hox ap13 b hb hb')
         have hws1 := hws.keep hfx (fun b hb hb' => hws.ne2 hox ap13 b hb hb')
         have hpg1 : POwn wr base gs (grw ls k) := POwn.keepAt hfx hpg (fun s g2 hg2 b hb hb' => HCR.out s k g2 x (by
          have : s < gs.length := by
           rcases Nat.lt_or_ge s gs.length with h | h
           ·exact h
           ·rw [List.getElem?_eq_none h] at hg2; cases hg2
          omega) hg2 hvx b hb hb')
         have hcr2 : ∀ (s m : Nat) (g2 u : Value), s ≠ m → (gs ++ [u9])[s]? = some g2 → vs[m]? = some u → ∀ b, e0n g2 b → ¬ e0n u b := by
          intro s m g2 u hsm hg2 hu b hb hb'
          rcases Nat.lt_or_ge s gs.length with h | h
          ·rw [List.getElem?_append_left h] at hg2
           exact HCR.out s m g2 u hsm hg2 hu b hb hb'
          ·rw [List.getElem?_append_right h] at hg2
           have h0 : s = k := by
            rcases Nat.eq_or_lt_of_le h with h | h
            ·omega
            ·rw [List.getElem?_eq_none (by rw [List.length_singleton]; omega)] at hg2; cases hg2
           subst h0
           rw [hgl, Nat.sub_self] at hg2
           simp only [List.getElem?_cons_zero, Option.some.injEq] at hg2
           subst hg2
           rcases hgr.blk b hb with h2 | h2
           ·exact HSEP.out.ne hvx hu hsm b h2 hb'
           ·obtain ⟨l3, _, ho3⟩ := hA.p.get m u hu
            have := (ho3.lt hb').2
            omega
         have HCR2 := qH hcr2; clear hcr2
         have hsz6 := hfx.size
         obtain ⟨ag, cg, rfl, -⟩ := id hog.form
         clear hq hws hpg hA hfx hox hoxr hgr hc hvx
         go_wp2_with (with_reducible refine wSk 83 ?_)
         unfold s0j
         refine b0P rfl rfl Tryz.underlying39 h0l [.slice ag (li.length + 80) cg] rfl (by simp; rfl) rfl rfl ?_
         intro w8 hh8 hf8 hz8
         clear hz8
         have hq8 := hq1.still hf8
         have hws8 := hws1.still hf8
         have hpg8 := hpg1.still hf8
         have hA8 := hAx.still hf8
         have hog8 := hog.still hf8
         have hsz8 := hf8.size
         clear hq1 hws1 hpg1 hAx hog hf8
         go_wp2_with (with_reducible refine wSk 84 ?_)
         unfold s0j
         refine b0Y rfl rfl Tryz.underlying39 h0l rfl ap13 hq8 rfl rfl (Rd.whole hh8) (fun u hu => by simp only [List.mem_singleton] at hu; subst hu; rfl) ap9 ap14 ap14 ?_
         intro v9 w9 hq9 hf9 hb9
         clear hb9
         have hws9 := hws8.keep hf9 (fun b hb hb' => hws8.ne2 hq8 ap13 b hb hb')
         have hog9 := hog8.keep hf9 (fun b hb hb' => hog8.ne2 hq8 ap13 b hb hb')
         have hpg9 : POwn w9 base (gs ++ [.slice ag (li.length + 80) cg]) (grw ls (k + 1)) := by
          rw [HGS.out]
          refine (hpg8.app hq8 ap13 hf9).snoc ?_
          rw [List.length_append, c0r, k0F]; exact hog9
         have hsz9 := hf9.size
         have hA9 : ApAt w base i (.slice (some ⟨g, o, none⟩) i c0) vs (ls.map inc) w9 := by
          refine ⟨hA8.l.keep hf9 (fun b hb hb' => ?_), hA8.p.app hq8 ap13 hf9, hA8.f.trans hf9 (fun b _ hb => ?_)⟩
          ·have h1 := HLB.out b hb
           have h2 := (hq8.lt hb').1
           omega
          ·have h2 := (hq8.lt hb).1
           show base ≤ b
           omega
         clear hq8 hws8 hpg8 hA8 hog8 hf9 hh8 hog9
         go_wp2_with fail
         go_roundw
         case rel => exact ⟨k + 1, _, by omega, by go_num, hq9, hpg9, HCR2.out, hA9, hws9, by omega⟩
         case measure => simp [intOf]; omega
      ·have hltI : ¬ (k : Int) < (i : Int) := by omega
       obtain rfl : k = i := by omega
       obtain ⟨w5, hw5⟩ : ∃ w5, w5 = wr := ⟨_, rfl⟩
       subst hw5
       obtain ⟨aq, cq, rfl, hcq, hrq, -⟩ := id hq.form
       rw [Nat.mul_one] at hrq
       go_wp2_with fail
       go_loopw [11, 12, 13] (fun z _ _ wr => ∃ m : Nat, m ≤ k ∧ z = .int .i64 (m : Int) ∧ Fr Nob w5 wr) (fun z _ _ _ => (k - intOf z).toNat)
       case atStart => exact ⟨0, by omega, rfl, Fr.refl _ _⟩
       case round =>
        obtain ⟨m, hm, rfl, hfw⟩ := hrel
        by_cases hmk : m < k
        ·have hmI : (m : Int) < (k : Int) := by omega
         have hl1 := HLN.out
         have hxl := HXG.out m hmk
         obtain ⟨g, o, cc, x, hv, hvx, hc, hox⟩ := hA.at hmk
         simp only [Value.slice.injEq] at hv
         obtain ⟨rfl, -, rfl⟩ := hv
         have hmg : (ls.map inc).getD m [] = inc (ls.getD m []) := by simp [List.getD_eq_getElem?_getD, show m < ls.length by omega]
         rw [hmg, c0r] at hox
         obtain ⟨bq, oq, rfl, hatq⟩ := hrq.at ap14
         have hgl : gs.length = k := hrq.len
         obtain ⟨lg, hg1, hg2⟩ := hpg.get m gs[m] (List.getElem?_eq_getElem ap14)
         have hcq2 := hatq m _ (List.getElem?_eq_getElem (show m < gs.length by omega))
         have hlg : lg = inc (ls.getD m []) ++ tl m := by
          have h1 := B0a ls k m hmk
          rw [List.getD_eq_getElem?_getD, hg1] at h1
          exact h1
         subst hlg
         generalize gs[m] = gv at *
         rw [List.length_append, c0r, k0F] at hg2
         obtain ⟨aw, cw, rfl, _, hrw, -⟩ := id hws.form
         rw [Nat.mul_one] at hrw
         obtain ⟨bw, ow, rfl, hatw⟩ := hrw.at ap14
         have hcw := hatw m _ (y0i ls m ap14)
         generalize ls.getD m [] = li at *
         obtain ⟨ag, cg, rfl, -, hrg, -⟩ := id hg2.form
         rw [Nat.mul_one] at hrg
         obtain ⟨bg, og, rfl, hatg⟩ := hrg.at ap14
         obtain ⟨ax, cx, rfl, -, hrx, -⟩ := id hox.form
         rw [Nat.mul_one] at hrx
         have hqs : (mkS li).size = li.length := a0u li
         have hqd : (mkS li).data.toList = li := a0K li
         generalize mkS li = qs at *
         have HQD := qH hqd; clear hqd
         have HQS := qH hqs; clear hqs
         have hzz : (qs.size : Int) = (li.length : Int) := by rw [HQS.out]
         have HX := qH hrx
         have HG := qH hatg
         have HA := qH hA
         have HREST := qH (And.intro hws (And.intro hpg (And.intro hq hrq)))
         clear hrx hatg hatq hatw hrw hrg hg2 hox hvx hg1 hgl hmg hA hws hpg hq hrq hl1
         have hc1 := hfw.cell id hc
         have hq1 := hfw.cell id hcq2
         have hw1' := hfw.cell id hcw
         have hwrap : IntKind.i64.wrap ((li.length : Int) + 80) = (li.length : Int) + 80 := IntWalk.i64_in _ ap14
         go_wp2_with fail
         go_quiet (fail)
         have hf6 := hfw.drewN nq
         clear hc1 hq1 hw1' hfw
         generalize wr.drewN nq = w6 at *
         go_wp2_with fail
         go_loopw [12] (fun z wr => ∃ j : Nat, j ≤ li.length ∧ z = .int .i64 (j : Int) ∧ Fr Nob w5 wr) (fun z _ => (li.length - intOf z).toNat)
         case atStart => exact ⟨0, by omega, rfl, hf6⟩
         case round =>
          clear hf6
          obtain ⟨j, hj, rfl, hfw⟩ := hrel
          have hc1 := hfw.cell id hc
          have hq1 := hfw.cell id hcq2
          have hw1' := hfw.cell id hcw
          by_cases hjl : j < li.length
          ·have hjI : (j : Int) < (li.length : Int) := by omega
           obtain ⟨bx, ox, rfl, hatx⟩ := HX.out.at ap14
           have hby := q0J (li.getD j 0)
           have hnew : (inc li).getD j 0 = li.getD j 0 + 1 := by simp [inc, List.getD_eq_getElem?_getD, hjl]
           have hcx := hfw.cell id (hatx j _ (g0g (inc li) j (by rw [c0r]; exact hjl)))
           have hcg := hfw.cell id (HG.out j _ (g0g (inc li ++ tl m) j (by rw [List.length_append, c0r]; omega)))
           have hgj : (inc li ++ tl m).getD j 0 = (inc li).getD j 0 := by
            rw [List.getD_eq_getElem?_getD, List.getElem?_append_left (by rw [c0r]; exact hjl), ← List.getD_eq_getElem?_getD]
           rw [hgj] at hcg
           rw [hnew, ← hby] at hcx hcg
           have eidx := x0R (P := Tryz.prog) Tryz.underlying9 qs j (by rw [HQS.out]; exact hjl) (li.getD j 0) (by rw [HQD.out])
           have hjg : (j : Int) < (li.length : Int) + 80 := by omega
           clear hatx hby hnew hgj
           generalize li.getD j 0 = y at *
           go_wp2_with fail
           go_quiet (fail)
           have hf7 := hfw.drewN nq
           clear hc1 hq1 hw1' hfw hcx hcg eidx
           generalize wr.drewN nq = w7 at *
           go_wp2_with fail
           go_roundw
           case rel => exact ⟨j + 1, by omega, by go_num, hf7⟩
           case measure => simp [intOf]; omega
          ·have hjI : ¬ (j : Int) < (li.length : Int) := by omega
           obtain ⟨w8, hw8⟩ : ∃ w8, w8 = wr := ⟨_, rfl⟩
           subst hw8
           clear hc1 hq1
           go_wp2_with fail
           clear hw1'
           go_loopw [13] (fun z wr => ∃ j : Nat, j ≤ 80 ∧ z = .int .i64 (j : Int) ∧ Fr Nob w5 wr) (fun z _ => (80 - intOf z).toNat)
           case atStart => exact ⟨0, by omega, rfl, hfw⟩
           case round =>
            clear hfw
            obtain ⟨j, hj, rfl, hfw⟩ := hrel
            by_cases hj80 : j < 80
            ·have hjI : (j : Int) < 80 := by omega
             have hq1 := hfw.cell id hcq2
             have hw1' := hfw.cell id hcw
             have hcg := hfw.cell id (HG.out (li.length + j) _ (g0g (inc li ++ tl m) (li.length + j) (by rw [List.length_append, c0r, k0F]; omega)))
             have hgj : (inc li ++ tl m).getD (li.length + j) 0 = UInt8.ofNat ((m * 37 + j) % 253) ^^^ 90 := by
              rw [List.getD_eq_getElem?_getD, List.getElem?_append_right (by rw [c0r]; omega), c0r, Nat.add_sub_cancel_left, ← List.getD_eq_getElem?_getD]
              exact y0Q m j hj80
             have hval : (((UInt8.ofNat ((m * 37 + j) % 253) ^^^ 90).toNat : Nat) : Int) = bits BinOp.xor IntKind.u8 (((m : Int) * 37 + (j : Int)) % 253) 90 := by
              rw [y0R]; simp
             rw [hgj, hval] at hcg
             have hw2 : IntKind.i64.wrap ((li.length : Int) + (j : Int)) = ((li.length + j : Nat) : Int) := by rw [IntWalk.i64_in _ ap14]; omega
             have hw3 : IntKind.i64.wrap ((m : Int) * 37) = (m : Int) * 37 := IntWalk.i64_in _ ap14
             have hw4' : IntKind.i64.wrap ((m : Int) * 37 + (j : Int)) = (m : Int) * 37 + (j : Int) := IntWalk.i64_in _ ap14
             have hlt9 : (li.length : Int) + (j : Int) < (li.length : Int) + 80 := by omega
             have ht9 : ((li.length : Int) + (j : Int)).toNat = li.length + j := by omega
             have hp9 : (0 : Int) ≤ (li.length : Int) + (j : Int) := by omega
             clear hval hgj
             go_wp2_with fail
             go_quiet (fail)
             have hf7 := hfw.drewN nq
             clear hq1 hw1' hfw hcg hw2 hw3 hw4' hlt9 ht9 hp9
             generalize wr.drewN nq = w7 at *
             go_wp2_with fail
             go_roundw
             case rel => exact ⟨j + 1, by omega, by go_num, hf7⟩
             case measure => simp [intOf]; omega
            ·have hjI : ¬ (j : Int) < 80 := by omega
             go_wp2_with fail
             go_roundw
             case rel => exact ⟨m + 1, by omega, by go_num, hfw⟩
             case measure => simp [intOf]; omega
        ·have hmI : ¬ (m : Int) < (k : Int) := by omega
         have hfin := hA.f.same hfw
         clear hA hws hpg hq hrq HCR
         go_wp2_with fail
         go_ret
         exact ⟨rfl, hfin⟩
end
end Go.Proofs.YtemcankmggmgoaaGreat
