/- ; ; ; . -/
import Derived.Test.YtemcankmggmgoaaGreatMgSigmaSameProof9
import Derived.Test.YtemcankmggmgoaaGreatMgSigmaSameProof1
import Derived.Test.YtemcankmggmgoaaGreatMgSigmaSameProof7
set_option maxHeartbeats 16000000
set_option maxRecDepth 1000000

namespace Go.Proofs.YtemcankmggmgoaaGreat
section
open Go.RowKit Go.Mv Mvp Mvq
theorem k0l {w : World} {a : Option Addr} {n c : Nat} {l : List UInt8} (h : PartIs w (.slice a n c) l) (k : Nat) (hk : k ≤ n) : PartIs w (.slice a k c) (l.take k) := by
 obtain ⟨a', n', c', he, hc, hn, hr, ho⟩ := h
 cases he
 have h2 := Rd.take (show Rd w a n (bs l) from hr) k hk
 rw [e0V] at h2
 exact ⟨a, k, c, rfl, by omega, by omega, h2, ho⟩
theorem k0m {w : World} {b o n c : Nat} {l : List UInt8} (h : PartIs w (.slice (some ⟨b, o, none⟩) n c) l) (k : Nat) (hk : k ≤ n) : PartIs w (.slice (some ⟨b, o + k, none⟩) (n - k) (c - k)) (l.drop k) := by
 obtain ⟨a', n', c', he, hc, hn, hr, ho⟩ := h
 cases he
 have hlen := hr.len
 refine ⟨_, _, _, rfl, by omega, by omega, ?_, ?_⟩
 ·refine ⟨by rw [a0O, List.length_drop]; omega, ?_⟩
  by_cases hz : n - k = 0
  ·exact .inl hz
  ·obtain ⟨b', o', e, hat⟩ := Rd.at hr ap13
   cases e
   refine .inr ⟨_, _, rfl, ?_⟩
   have h2 := hat.sub k (n - k)
   have e2 : ((bs l).drop k).take (n - k) = bs (l.drop k) := by
    rw [List.take_of_length_le (by rw [List.length_drop, a0O]; omega)]
    simp [bs, List.map_drop]
   rwa [e2] at h2
 ·intro x hx
  cases hx
  exact ho ⟨b, o, none⟩ rfl
theorem k0n (l : List UInt8) : b0x [l] = b0G l := by unfold b0x; simp
theorem b0K {w : World} {v : Value} {l : List UInt8} (h : PartIs w v l) : BPart w v l := h.bpart
attribute [local irreducible] a0F lw mix cw b0p b0z b0o a0P a0q beN b0F b0e b0B a0K a0Q elN mdL a0X rtV b0R b0y b0Z b0N a0U d0h n0q j0w a0W b0t b0H toB a0x a0I b0u c0i a0M c0t b0i a0G c0r e0n d0q f0S d0m chN b0G b0x tS
end
section
open Go.RowKit Go.Mv Mvp Mvq
theorem q0m : ∀ (xs : List Nat) (lp : List (List UInt8)), (∀ l ∈ lp, b0Z l = true) → f0h (List.zipWith (fun x l => (x % mQ.M, b0N l)) xs lp) = f0h (List.zipWith (fun x l => (x, b0N l)) xs lp)
 | [], _, _ => rfl
 | _ :: _, [], _ => rfl
 | x :: xs, l :: lp, h => by
  simp only [List.zipWith_cons_cons, f0h]
  rw [q0m xs lp fun k hk => h k (List.mem_cons_of_mem _ hk), A0e, l0q (t0r (h l List.mem_cons_self))]
theorem C0b (xs : List Nat) (lp : List (List UInt8)) (hl : xs.length = lp.length) (h5 : xs.length ≤ 512) (hr : ∀ l ∈ lp, b0Z l = true) : j0w (zB xs) lp = b0y (f0h (List.zipWith (fun x l => (x, b0N l)) xs lp)) := by
 have hn : a0U mQ (zB xs) = true := by
  unfold a0U zB
  rw [List.all_eq_true]
  intro y hy
  obtain ⟨x, _, rfl⟩ := List.mem_map.1 hy
  exact q0g x
 have hr2 : d0h lp = true := by unfold d0h; rw [List.all_eq_true]; exact hr
 unfold j0w
 rw [if_pos (by rw [q0h]; exact hl), if_pos (by rw [q0h]; exact h5), hn, hr2, if_pos rfl, if_pos rfl, ← q0m xs lp hr]
 congr 2
 apply List.ext_getElem (by simp [smL, hl])
 intro i h1 h2
 simp only [smL, List.length_map, List.length_range] at h1
 have h3 : i < xs.length := by omega
 simp [smL, zB, List.getD_eq_getElem?_getD, h1, h3, u0y]
theorem c0Z {l : List UInt8} (h : b0G l = true) : b0Z l = true := by unfold b0G at h; rw [Bool.and_eq_true] at h; exact h.1
theorem u0H {w : World} {a : Option Addr} {n c : Nat} {b : List UInt8} (hb : PartIs w (.slice a n c) b) : b.length = n := (h0g hb).len
theorem C0R (x : Nat) : (i4 x).cells.size = 4 := by simp [i4, Value.cells, a0g]
attribute [local irreducible] a0F lw mix cw b0p b0z b0o a0P a0q beN b0F b0e b0B a0K a0Q elN mdL a0X rtV b0R b0y b0Z b0N a0U d0h n0q j0w a0W b0t b0H toB a0x a0I b0u c0i a0M c0t b0i a0G c0r e0n d0q f0S d0m chN b0G b0x tS f0h
theorem BParts.three {w : World} {v1 v2 v3 : Value} {l1 l2 l3 : List UInt8} (h1 : BPart w v1 l1) (h2 : BPart w v2 l2) (h3 : BPart w v3 l3) : BParts w [v1, v2, v3] [l1, l2, l3] := ⟨rfl, fun i x hx => by
 match i with
 | 0 => simp at hx; subst hx; exact h1
 | 1 => simp at hx; subst hx; exact h2
 | 2 => simp at hx; subst hx; exact h3
 | i + 3 => simp at hx⟩
end
section
open Go.RowKit Go.Mv Mvp Mvq
theorem u0I (x : Nat) (w : World) : Calls Tryz.prog 48 #[i4 (elN mQ x)] w fun e w' => ∃ v, e = .returned v ∧ PartIs w' v (b0y (a0W x gP)) ∧ Fr Nob w w' :=
 (B0X x w).mono fun e w' ⟨v, h1, h2, h3⟩ => ⟨v, h1, OwnB1.ptb h2 (by rw [c0e]; decide), h3⟩
theorem q0n (x : Nat) (va : Value) (l : List UInt8) (w : World) (hp : BPart w va l) (hr : b0Z l = true) : Calls Tryz.prog 80 #[i4 (elN mQ x), va] w fun e w' => ∃ v, e = .returned v ∧ PartIs w' v (b0y (a0W x (b0N l))) ∧ Fr Nob w w' := by
 refine (u0z x va l w hp).mono ?_
 rintro e w' ⟨v, h1, h2, h3⟩
 rw [D0i x hr] at h2
 exact ⟨v, h1, OwnB1.ptb h2 (by rw [c0e]; decide), h3⟩
theorem h0S (a b c d e : List UInt8) : d0m a b c d e < mQ.M := by unfold d0m h0w; exact z0O _ _
attribute [local irreducible] a0F lw mix cw b0p b0z b0o a0P a0q beN b0F b0e b0B a0K a0Q elN mdL a0X rtV b0R b0y b0Z b0N a0U d0h n0q j0w a0W b0t b0H toB a0x a0I b0u c0i a0M c0t b0i a0G c0r e0n d0q f0S d0m chN b0G b0x tS smC f0h
theorem o0T (ak : Option Addr) (nk ck : Nat) (key : List UInt8) (ap : Option Addr) (np cp : Nat) (point : List UInt8) (w : World) (hkey : PartIs w (.slice ak nk ck) key) (hpt : PartIs w (.slice ap np cp) point) (hq : f0S key = false) : Calls Tryz.prog 23 #[.slice ak nk ck, .slice ap np cp] w fun e w' => e = .returned (.tuple #[.slice none 0 0, .int .i64 3]) ∧ Fr Nob w w' := by
 have HPK := qH hkey
 have HPP := qH hpt
 have HKY := qH (h0g hkey)
 have HQ := qH hq
 clear hkey hpt hq
 clear HPK HPP
 have st0 := St.start Nob w
 go_enter Tryz.func23, Tryz.ntmps23
 go_wp2_with fail
 refine (u0C ak nk ck key _ (HKY.out.still st0.fr) HQ.out).mono ?_
 rintro e' w1 ⟨⟨N, rfl⟩, hf1⟩
 have st1 := st0.keep hf1
 clear st0 hf1
 go_wp2_with (with_reducible refine wSk 6 ?_)
 refine a0a st1 rfl rfl (z := zAd) ap11 (cw 4 0) ap9 ?_
 intro g6 w2 st2
 clear st1
 go_wp2_with (with_reducible refine wSn ?_)
 refine a0b st2 0 rfl rfl rfl rfl rfl ap5 ap4 (a0f _ _) ?_
 intro w3 st3
 clear st2
 have hfr := st3.fr
 clear st3
 go_wp2_with fail
 go_ret2
 exact ⟨rfl, hfr⟩
theorem o0U (ak : Option Addr) (nk ck : Nat) (key : List UInt8) (ap : Option Addr) (np cp : Nat) (point : List UInt8) (w : World) (hkey : PartIs w (.slice ak nk ck) key) (hpt : PartIs w (.slice ap np cp) point) (hq : f0S key = true) (hr : b0G point = false) : Calls Tryz.prog 23 #[.slice ak nk ck, .slice ap np cp] w fun e w' => e = .returned (.tuple #[.slice none 0 0, .int .i64 4]) ∧ Fr Nob w w' := by
 have HPK := qH hkey
 have HPP := qH hpt
 have HKY := qH (h0g hkey)
 have HQ := qH hq
 clear hkey hpt hq
 have HR := qH (show b0x [point] = false by rw [k0n]; exact hr)
 clear HPK hr
 have st0 := St.start Nob w
 go_enter Tryz.func23, Tryz.ntmps23
 go_wp2_with fail
 refine (n0r ak nk ck key _ (HKY.out.still st0.fr) HQ.out).mono ?_
 rintro e' w1 ⟨rfl, hf1⟩
 have st1 := st0.keep hf1
 clear st0 hf1
 go_wp2_with (with_reducible refine wSk 6 ?_)
 refine a0a st1 rfl rfl (z := zAd) ap11 (cw 4 0) ap9 ?_
 intro g6 w2 st2
 clear st1
 go_wp2_with (with_reducible refine wSn ?_)
 refine a0b st2 0 rfl rfl rfl rfl rfl ap5 ap4 (a0f _ _) ?_
 intro w3 st3
 clear st2
 go_wp2_with (with_reducible refine wSk 21 ?_)
 refine c0c rfl rfl Tryz.underlying39 c0n [.slice ap np cp] rfl (by simp; rfl) rfl rfl ?_
 intro w4 hh4 hf4 hz4
 have st4 := st3.keep hf4
 have HSL := qH hh4
 clear hh4 hf4 hz4 st3
 generalize w3.heap.size = gl21 at *
 go_wp2_with fail
 refine (f0z _ 1 1 [.slice ap np cp] [point] _ (Rd.whole HSL.out) (BParts.one (b0K (HPP.out.still st4.fr))) ap12).mono ?_
 rintro e' w5 ⟨rfl, hf5⟩
 have st5 := st4.keep hf5
 clear st4 hf5
 clear HSL
 rw [HR.out]
 have hfr := st5.fr
 clear st5
 go_wp2_with fail
 go_ret2
 exact ⟨rfl, hfr⟩
theorem n0u (ak : Option Addr) (nk ck : Nat) (key : List UInt8) (ap : Option Addr) (np cp : Nat) (point : List UInt8) (w : World) (hkey : PartIs w (.slice ak nk ck) key) (hpt : PartIs w (.slice ap np cp) point) (hq : f0S key = true) (hr : b0G point = true) : Calls Tryz.prog 23 #[.slice ak nk ck, .slice ap np cp] w fun e w' => ∃ v, e = .returned (.tuple #[v, .int .i64 0]) ∧ OwnB1 w w' v (b0e (smC key point) ++ b0e (((chN a0s [key, point]) + (smC key point) * beN key) % mQ.M)) ∧ Fr Nob w w' := by
 have HPK := qH hkey
 have HPP := qH hpt
 have HKY := qH (h0g hkey)
 have HQ := qH hq
 clear hkey hpt hq
 have HR := qH (show b0x [point] = true by rw [k0n]; exact hr)
 have HRD := qH (c0Z hr)
 have HC := qH (show smC key point = d0m point (b0y (a0W (beN key) gP)) (b0y (a0W (beN key) (b0N point))) (b0y (a0W (chN a0s [key, point]) gP)) (b0y (a0W (chN a0s [key, point]) (b0N point))) by unfold smC; rfl)
 have HLC := qH (show smC key point < mQ.M by rw [HC.out]; exact h0S _ _ _ _ _)
 clear hr
 have st0 := St.start Nob w
 go_enter Tryz.func23, Tryz.ntmps23
 go_wp2_with fail
 refine (n0r ak nk ck key _ (HKY.out.still st0.fr) HQ.out).mono ?_
 rintro e' w1 ⟨rfl, hf1⟩
 have st1 := st0.keep hf1
 clear st0 hf1
 go_wp2_with (with_reducible refine wSk 6 ?_)
 refine a0a st1 rfl rfl (z := zAd) ap11 (cw 4 0) ap9 ?_
 intro g6 w2 st2
 clear st1
 go_wp2_with (with_reducible refine wSn ?_)
 refine a0b st2 0 rfl rfl rfl rfl rfl ap5 ap4 (a0f _ _) ?_
 intro w3 st3
 clear st2
 go_wp2_with (with_reducible refine wSk 21 ?_)
 refine c0c rfl rfl Tryz.underlying39 c0n [.slice ap np cp] rfl (by simp; rfl) rfl rfl ?_
 intro w4 hh4 hf4 hz4
 have st4 := st3.keep hf4
 have HSL := qH hh4
 clear hh4 hf4 hz4 st3
 generalize w3.heap.size = gl21 at *
 go_wp2_with fail
 refine (f0z _ 1 1 [.slice ap np cp] [point] _ (Rd.whole HSL.out) (BParts.one (b0K (HPP.out.still st4.fr))) ap12).mono ?_
 rintro e' w5 ⟨rfl, hf5⟩
 have st5 := st4.keep hf5
 clear st4 hf5
 clear HSL
 rw [HR.out]
 go_wp2_with (with_reducible refine wSk 26 ?_)
 refine c0c rfl rfl Tryz.underlying39 c0n [.slice ak nk ck, .slice ap np cp] rfl (by simp; exact ⟨rfl, rfl⟩) rfl rfl ?_
 intro w6 hh6 hf6 hz6
 have st6 := st5.keep hf6
 have HSL := qH hh6
 clear hh6 hf6 hz6 st5
 generalize w5.heap.size = gl26 at *
 go_wp2_with fail
 refine (w0I ⟨#[110, 111, 110, 99, 101, 32, 115, 97, 109, 101]⟩ a0s rfl _ 2 [.slice ak nk ck, .slice ap np cp] [key, point] _ ap12 HSL.out ⟨HPK.out.still st6.fr, HPP.out.still st6.fr, trivial⟩ ap14).mono ?_
 rintro e' w7 ⟨rfl, hf7⟩
 have st7 := st6.keep hf7
 clear st6 hf7
 clear HSL
 go_wp2_with (with_reducible refine wSk 8 ?_)
 refine a0a st7 rfl rfl (z := zAd) ap11 (cw 4 0) ap9 ?_
 intro g8 w8 st8
 clear st7
 go_wp2_with (with_reducible refine wSn ?_)
 refine a0b st8 1 rfl rfl rfl rfl rfl ap5 ap4 (a0f _ _) ?_
 intro w9 st9
 clear st8
 have HP2 := qH (HPP.out.still st9.fr)
 clear HPP HPK HKY
 go_wp2_with fail
 refine wp_region_noPanic ?_
 refine j0v st9 (fun wz => Fr Nob w9 wz) (Fr.refl Nob _).drew (fun _ _ h k => h.then k) 13 [.o 12, .w 0, .t 1, .t 3, .w 4, .t 6, .t 8, .w 9, .c 2, .c 5, .c 7, .c 10, .c 11, .j 12] (.m 13 .nil) ap11 ap11 (fun _ _ _ _ _ h => h) ?_
 clear st9
 refine b0b rfl rfl rfl (z := zAd) ap11 (cw 4 0) ap9 ?_
 try simp only [clL]
 refine a0m rfl rfl apX ?_
 try simp only [clL]
 refine a0d rfl rfl rfl (fun _ => rfl) (cw 4 (elN mQ (beN key))) (fun wx hS => St.rangeL hS 0 rfl 0 _ dZl) Tryz.underlying68 rfl ap4 ?_
 try simp only [clL]
 refine a0d rfl rfl rfl (fun _ => rfl) (cw 4 (elN mQ (beN key))) (fun wx hS => St.rangeL hS 0 rfl 0 _ dZl) Tryz.underlying68 rfl ap4 ?_
 try simp only [clL]
 refine a0m rfl rfl apX ?_
 try simp only [clL]
 refine a0d rfl rfl rfl (fun _ => rfl) (cw 4 (elN mQ (chN a0s [key, point]))) (fun wx hS => St.rangeL hS 1 rfl 0 _ dZl) Tryz.underlying68 rfl ap4 ?_
 try simp only [clL]
 refine a0d rfl rfl rfl (fun _ => rfl) (cw 4 (elN mQ (chN a0s [key, point]))) (fun wx hS => St.rangeL hS 1 rfl 0 _ dZl) Tryz.underlying68 rfl ap4 ?_
 try simp only [clL]
 refine a0m rfl rfl apX ?_
 try simp only [clL]
 refine c0f (X := Value) (fun v => v) (fun v wx => PartIs wx v (b0y (a0W (beN key) gP))) (fun _ _ _ h k => h.still k) rfl rfl rfl Tryz.call48 (fun w hS hR => u0I (beN key) _) (fun _ => rfl) fun v1 => ?_
 try simp only [clL]
 refine c0f (X := Value) (fun v => v) (fun v wx => PartIs wx v (b0y (a0W (beN key) (b0N point)))) (fun _ _ _ h k => h.still k) rfl rfl rfl Tryz.call80 (fun w hS hR => q0n (beN key) _ point _ (b0K (HP2.out.still hR.1)) HRD.out) (fun _ => rfl) fun v2 => ?_
 try simp only [clL]
 refine c0f (X := Value) (fun v => v) (fun v wx => PartIs wx v (b0y (a0W (chN a0s [key, point]) gP))) (fun _ _ _ h k => h.still k) rfl rfl rfl Tryz.call48 (fun w hS hR => u0I (chN a0s [key, point]) _) (fun _ => rfl) fun v3 => ?_
 try simp only [clL]
 refine c0f (X := Value) (fun v => v) (fun v wx => PartIs wx v (b0y (a0W (chN a0s [key, point]) (b0N point)))) (fun _ _ _ h k => h.still k) rfl rfl rfl Tryz.call80 (fun w hS hR => q0n (chN a0s [key, point]) _ point _ (b0K (HP2.out.still hR.1.1.1)) HRD.out) (fun _ => rfl) fun v4 => ?_
 try simp only [clL]
 refine a0c rfl rfl rfl Tryz.call79 (fun w hS hR => (j0d (.slice ap np cp) point v1 (b0y (a0W (beN key) gP)) v2 (b0y (a0W (beN key) (b0N point))) v3 (b0y (a0W (chN a0s [key, point]) gP)) v4 (b0y (a0W (chN a0s [key, point]) (b0N point))) _ (HP2.out.still hR.1.1.1.1) hR.1.1.1.2 hR.1.1.2 hR.1.2 hR.2).mono fun e w' h => (show e = .returned (i4 (elN mQ (smC key point))) ∧ Fr Nob _ w' by rw [HC.out]; exact h)) (fun _ => rfl) ?_
 try simp only [clL]
 refine a0Z List.mem_cons_self fun g9 => ?_
 simp only [upd, reduceIte]
 try simp only [Nat.reduceEqDiff, reduceIte]
 refine a0t fun xq w10 st10 hR => ?_
 try dsimp only
 clear hR xq
 refine a0p rfl rfl ?_
 refine a0h st10 2 rfl rfl rfl rfl ap5 ap4 (a0f _ _) ?_
 intro w11 st11
 repeat (first | simp only [List.cons_append] at st11 | simp only [List.nil_append] at st11 | simp only [List.set_cons_succ] at st11 | simp only [List.set_cons_zero] at st11)
 clear st10
 try simp only [Act.put]
 refine a0i ?_
 refine NoPanic.normal ?_
 clear HP2
 go_wp2_with fail
 refine wp_region_noPanic ?_
 refine a0e st11 7 [.t 0, .t 2, .t 3, .t 4, .c 1, .c 5, .c 6] (.m 7 (.w 8 (.w 9 .nil))) ap11 ap11 (fun _ _ _ _ _ h => h) ?_
 clear st11
 refine a0d rfl rfl rfl (fun _ => rfl) (cw 4 (elN mQ (smC key point))) (fun wx hS => St.rangeL hS 2 rfl 0 _ dZl) Tryz.underlying68 rfl ap4 ?_
 try simp only [clL]
 refine a0d rfl rfl rfl (fun _ => rfl) (cw 4 (elN mQ (chN a0s [key, point]))) (fun wx hS => St.rangeL hS 1 rfl 0 _ dZl) Tryz.underlying68 rfl ap4 ?_
 try simp only [clL]
 refine a0d rfl rfl rfl (fun _ => rfl) (cw 4 (elN mQ (smC key point))) (fun wx hS => St.rangeL hS 2 rfl 0 _ dZl) Tryz.underlying68 rfl ap4 ?_
 try simp only [clL]
 refine a0d rfl rfl rfl (fun _ => rfl) (cw 4 (elN mQ (beN key))) (fun wx hS => St.rangeL hS 0 rfl 0 _ dZl) Tryz.underlying68 rfl ap4 ?_
 try simp only [clL]
 refine c0f (X := Value) (fun v => v) (fun v wx => Own wx w.heap.size 5 1 v 32 (bs (b0e ((smC key point) % mQ.M)))) (fun _ _ _ h k => h.still k) rfl rfl rfl Tryz.call51 (fun w hS hR => (g0Y mQ .one (smC key point) _).mono fun e w' ⟨v, h1, h2, h3⟩ => ⟨v, h1, Own.mono h2 hS.fr.size, h3⟩) (fun _ => rfl) fun vc => ?_
 try simp only [clL]
 refine a0c rfl rfl rfl Tryz.call49 (fun w hS hR => C0Q (chN a0s [key, point]) (smC key point) (beN key) _) (fun _ => rfl) ?_
 try simp only [clL]
 refine c0f (X := Option Addr × Nat) (fun y => .slice y.1 32 y.2) (fun y wx => BPart wx (.slice y.1 32 y.2) (b0e (((chN a0s [key, point]) + (smC key point) * beN key) % mQ.M))) (fun _ _ _ h k => h.still k) rfl rfl rfl Tryz.call51 (fun w hS hR => q0f ((chN a0s [key, point]) + (smC key point) * beN key) _) (fun _ => rfl) fun yb => ?_
 try simp only [clL]
 refine a0t fun xq w12 st12 hR => ?_
 try dsimp only
 have HOC := qH hR.1.2
 obtain ⟨ay, ny, cy, hey, -, hry⟩ := hR.2
 cases hey
 have HRB := qH (show RdB _ yb.1 32 _ from hry)
 clear hry
 clear hR xq
 refine a0p rfl rfl ?_
 refine r0E rfl Tryz.underlying22 b0r rfl ap12 HOC.out rfl rfl HRB.out (j0B _) ap12 ap12 st12.fr.size ?_
 intro va wa hown hfa
 have st13 := St.ofFr ((HOC.out).fr st12.fr (Nat.le_refl _) hfa)
 have HOWN := qH hown
 clear hown hfa
 clear st12
 try simp only [clL]
 refine a0k rfl rfl apW ?_
 try simp only [clL]
 refine a0k rfl rfl apW ?_
 try simp only [clL]
 refine a0i ?_
 refine NoPanic.normal ?_
 clear HOC HRB
 have hfr := st13.fr
 clear st13
 go_wp2_with fail
 go_ret2
 refine ⟨va, rfl, ?_, hfr⟩
 have h := HOWN.out
 rw [← d0D, Nat.mod_eq_of_lt HLC.out] at h
 exact OwnB1.of h (by rw [List.length_append, a0Y, a0Y])
theorem x0k {k p : List UInt8} (h : f0S k = true) (h2 : b0G p = true) : smE k p = 0 ∧ smS k p = b0e (smC k p) ++ b0e ((chN a0s [k, p] + smC k p * beN k) % mQ.M) := by unfold smE smS; rw [if_pos h, if_pos h, if_pos h2, if_pos h2]; exact ⟨rfl, rfl⟩
theorem C0m {k p : List UInt8} (h : f0S k = true) (h2 : b0G p = false) : smE k p = 4 ∧ smS k p = [] := by unfold smE smS; rw [if_pos h, if_pos h, h2]; exact ⟨rfl, rfl⟩
theorem C0n {k p : List UInt8} (h : f0S k = false) : smE k p = 3 ∧ smS k p = [] := by unfold smE smS; rw [h]; exact ⟨rfl, rfl⟩
theorem o0V (ak : Option Addr) (nk ck : Nat) (key : List UInt8) (ap : Option Addr) (np cp : Nat) (point : List UInt8) (w : World) (hkey : PartIs w (.slice ak nk ck) key) (hpt : PartIs w (.slice ap np cp) point) : Calls Tryz.prog 23 #[.slice ak nk ck, .slice ap np cp] w fun e w' => ∃ v, e = .returned (.tuple #[v, .int .i64 (smE key point)]) ∧ OwnB1 w w' v (smS key point) ∧ Fr Nob w w' := by
 cases h : f0S key with
 | false => rw [(C0n (p := point) h).1, (C0n (p := point) h).2]; exact (o0T ak nk ck key ap np cp point w hkey hpt h).mono fun e w' k => ⟨_, k.1, OwnB1.nil _ _, k.2⟩
 | true =>
  cases h2 : b0G point with
  | false => rw [(C0m h h2).1, (C0m h h2).2]; exact (o0U ak nk ck key ap np cp point w hkey hpt h h2).mono fun e w' k => ⟨_, k.1, OwnB1.nil _ _, k.2⟩
  | true => rw [(x0k h h2).1, (x0k h h2).2]; exact n0u ak nk ck key ap np cp point w hkey hpt h h2
end
section
open Go.RowKit Go.Mv Mvp Mvq
def vsG (a p b s : List UInt8) : Bool := b0x [a, p, b] && (decide (s.length = 64) && a0U mQ [s.take 32, s.drop 32])
noncomputable def d0z (z c : Nat) (p a : Pt) : List UInt8 := b0y (b0g (a0W z p) (f0C (a0W c a)))
theorem q0o {P A : List UInt8} (z c : Nat) (hP : b0Z P = true) (hA : b0Z A = true) : j0w (zB [z, mQ.M - c % mQ.M]) [P, A] = d0z z c (b0N P) (b0N A) := by
 rw [C0b _ _ rfl ap14 (by intro l hl; simp only [List.mem_cons, List.not_mem_nil, or_false] at hl; rcases hl with rfl | rfl <;> assumption)]
 simp only [List.zipWith_cons_cons, List.zipWith_nil_left, f0h]
 rw [b0I, A0e, w0F (t0r hA)]
 rfl
theorem n0v (z c : Nat) (p a : Pt) : (d0z z c p a).length = 33 := c0e _
theorem e0y {a p b : List UInt8} (h : b0x [a, p, b] = true) : b0G a = true ∧ b0G p = true ∧ b0G b = true := by
 unfold b0x at h
 simpa [and_assoc] using h
theorem x0l {x y : List UInt8} (h : a0U mQ [x, y] = true) : a0X mQ x = true ∧ a0X mQ y = true := by
 unfold a0U at h
 simpa using h
theorem C0c {a p b s : List UInt8} (h : vsG a p b s = false) : vsB a p b s = false := by
 unfold vsB
 unfold vsG b0x a0U at h
 simp only [List.all_cons, List.all_nil, Bool.and_true, Bool.and_assoc] at *
 have e : ∀ a b c d e f g : Bool, (a && (b && (c && (d && (e && f))))) = false → (a && (b && (c && (d && (e && (f && g)))))) = false := by decide
 exact e _ _ _ _ _ _ _ h
theorem y0g {a p b s : List UInt8} (h : vsG a p b s = true) : vsB a p b s = decide (d0m p a b (d0z (beN (s.drop 32)) (beN (s.take 32)) gP (b0N a)) (d0z (beN (s.drop 32)) (beN (s.take 32)) (b0N p) (b0N b)) = beN (s.take 32)) := by
 unfold vsB d0z
 unfold vsG at h
 simp only [Bool.and_eq_true] at h
 obtain ⟨h1, h2, h3⟩ := h
 obtain ⟨r1, r2, r3⟩ := e0y h1
 obtain ⟨n1, n2⟩ := x0l h3
 simp only [r1, r2, r3, h2, n1, n2, Bool.true_and]
theorem C0S (al : Option Addr) (n cl : Nat) (vs : List Value) (ls : List (List UInt8)) (w : World) (hv : Rd w al n vs) (hp : BParts w vs ls) (hn : n ≤ 100000) (h : a0U mQ ls = true) :
  Calls Tryz.prog 70 #[.slice al n cl] w fun e w' => ∃ v, e = .returned (.tuple #[v, .bool true]) ∧ Own w' w.heap.size 68 4 v ls.length (b0c mQ ls) ∧ Fr Nob w w' :=
 (t0W mQ .one al n cl vs ls w hv hp hn).mono fun e w' k => by obtain ⟨v, h1, h2⟩ := k.1 h; exact ⟨v, h1, h2, k.2.2⟩
theorem C0T (al : Option Addr) (n cl : Nat) (vs : List Value) (ls : List (List UInt8)) (w : World) (hv : Rd w al n vs) (hp : BParts w vs ls) (hn : n ≤ 100000) (h : a0U mQ ls = false) :
  Calls Tryz.prog 70 #[.slice al n cl] w fun e w' => e = .returned (.tuple #[.slice none 0 0, .bool false]) ∧ Fr Nob w w' :=
 (t0W mQ .one al n cl vs ls w hv hp hn).mono fun _ _ k => ⟨k.2.1 h, k.2.2⟩
theorem D0B (x y : List UInt8) : b0c mQ [x, y] = cw 4 (elN mQ (beN x)) ++ cw 4 (elN mQ (beN y)) := by simp [b0c]
attribute [local irreducible] a0F lw mix cw b0p b0z b0o a0P a0q beN b0F b0e b0B a0K a0Q elN mdL a0X rtV b0R b0y b0Z b0N a0U d0h n0q j0w a0W b0t b0H toB a0x a0I b0u c0i a0M c0t b0i a0G c0r e0n d0q f0S d0m chN b0G b0x tS smC f0h b0c vsG
theorem D0C (aa : Option Addr) (na ca : Nat) (a : List UInt8) (ap : Option Addr) (np cp : Nat) (p : List UInt8) (ab : Option Addr) (nb cb : Nat) (b : List UInt8) (as_ : Option Addr) (ns cs : Nat) (s : List UInt8) (w : World) (ha : PartIs w (.slice aa na ca) a) (hp : PartIs w (.slice ap np cp) p) (hb : PartIs w (.slice ab nb cb) b) (_hs : PartIs w (.slice as_ ns cs) s) (hr : b0x [a, p, b] = false) : Calls Tryz.prog 25 #[.slice aa na ca, .slice ap np cp, .slice ab nb cb, .slice as_ ns cs] w fun e w' => e = .returned (.bool false) ∧ Fr Nob w w' := by
 have HA := qH ha
 have HP := qH hp
 have HB := qH hb
 have HR := qH hr
 clear ha hp hb _hs hr
 have st0 := St.start Nob w
 go_enter Tryz.func25, Tryz.ntmps25
 go_wp2_with (with_reducible refine wSk 17 ?_)
 refine c0c rfl rfl Tryz.underlying39 c0n [.slice aa na ca, .slice ap np cp, .slice ab nb cb] rfl (by simp; exact ⟨rfl, rfl, rfl⟩) rfl rfl ?_
 intro w1 hh1 hf1 hz1
 have st1 := st0.keep hf1
 have HSL := qH hh1
 clear hh1 hf1 hz1 st0
 generalize w.heap.size = gl17 at *
 go_wp2_with fail
 refine (f0z _ 3 3 [.slice aa na ca, .slice ap np cp, .slice ab nb cb] [a, p, b] _ (Rd.whole HSL.out) (BParts.three (b0K (HA.out.still st1.fr)) (b0K (HP.out.still st1.fr)) (b0K (HB.out.still st1.fr))) ap12).mono ?_
 rintro e' w2 ⟨rfl, hf2⟩
 have st2 := st1.keep hf2
 clear st1 hf2
 clear HSL
 rw [HR.out]
 have hfr := st2.fr
 clear st2
 go_wp2_with fail
 go_ret
 exact ⟨rfl, hfr⟩
theorem D0D (aa : Option Addr) (na ca : Nat) (a : List UInt8) (ap : Option Addr) (np cp : Nat) (p : List UInt8) (ab : Option Addr) (nb cb : Nat) (b : List UInt8) (as_ : Option Addr) (ns cs : Nat) (s : List UInt8) (w : World) (ha : PartIs w (.slice aa na ca) a) (hp : PartIs w (.slice ap np cp) p) (hb : PartIs w (.slice ab nb cb) b) (_hs : PartIs w (.slice as_ ns cs) s) (hr : b0x [a, p, b] = true) (hl : ns ≠ 64) : Calls Tryz.prog 25 #[.slice aa na ca, .slice ap np cp, .slice ab nb cb, .slice as_ ns cs] w fun e w' => e = .returned (.bool false) ∧ Fr Nob w w' := by
 have HA := qH ha
 have HP := qH hp
 have HB := qH hb
 have HR := qH hr
 have hne : ((ns : Int) != 64) = true := by simp; omega
 clear ha hp hb _hs hr hl
 have st0 := St.start Nob w
 go_enter Tryz.func25, Tryz.ntmps25
 go_wp2_with (with_reducible refine wSk 17 ?_)
 refine c0c rfl rfl Tryz.underlying39 c0n [.slice aa na ca, .slice ap np cp, .slice ab nb cb] rfl (by simp; exact ⟨rfl, rfl, rfl⟩) rfl rfl ?_
 intro w1 hh1 hf1 hz1
 have st1 := st0.keep hf1
 have HSL := qH hh1
 clear hh1 hf1 hz1 st0
 generalize w.heap.size = gl17 at *
 go_wp2_with fail
 refine (f0z _ 3 3 [.slice aa na ca, .slice ap np cp, .slice ab nb cb] [a, p, b] _ (Rd.whole HSL.out) (BParts.three (b0K (HA.out.still st1.fr)) (b0K (HP.out.still st1.fr)) (b0K (HB.out.still st1.fr))) ap12).mono ?_
 rintro e' w2 ⟨rfl, hf2⟩
 have st2 := st1.keep hf2
 clear st1 hf2
 clear HSL
 rw [HR.out]
 have hfr := st2.fr
 clear st2
 go_wp2_with fail
 go_ret
 exact ⟨rfl, hfr⟩
theorem D0E (aa : Option Addr) (na ca : Nat) (a : List UInt8) (ap : Option Addr) (np cp : Nat) (p : List UInt8) (ab : Option Addr) (nb cb : Nat) (b : List UInt8) (bs_ os cs : Nat) (s : List UInt8) (w : World) (ha : PartIs w (.slice aa na ca) a) (hp : PartIs w (.slice ap np cp) p) (hb : PartIs w (.slice ab nb cb) b) (hs : PartIs w (.slice (some ⟨bs_, os, none⟩) 64 cs) s) (hr : b0x [a, p, b] = true) (hn : a0U mQ [s.take 32, s.drop 32] = false) : Calls Tryz.prog 25 #[.slice aa na ca, .slice ap np cp, .slice ab nb cb, .slice (some ⟨bs_, os, none⟩) 64 cs] w fun e w' => e = .returned (.bool false) ∧ Fr Nob w w' := by
 have HA := qH ha
 have HP := qH hp
 have HB := qH hb
 have hcs : 64 ≤ cs := by obtain ⟨a', n', c', he, hc, -⟩ := hs; cases he; exact hc
 have HSC := qH (b0K (k0l hs 32 ap12))
 have HSZ := qH (b0K (k0m hs 32 ap12))
 have hcI : (32 : Int) ≤ (cs : Int) := by omega
 have hcN : ¬ (cs = 32) := by omega
 have HR := qH hr
 have HN := qH hn
 clear ha hp hb hs hr hn hcs
 have st0 := St.start Nob w
 go_enter Tryz.func25, Tryz.ntmps25
 go_wp2_with (with_reducible refine wSk 17 ?_)
 refine c0c rfl rfl Tryz.underlying39 c0n [.slice aa na ca, .slice ap np cp, .slice ab nb cb] rfl (by simp; exact ⟨rfl, rfl, rfl⟩) rfl rfl ?_
 intro w1 hh1 hf1 hz1
 have st1 := st0.keep hf1
 have HSL := qH hh1
 clear hh1 hf1 hz1 st0
 generalize w.heap.size = gl17 at *
 go_wp2_with fail
 refine (f0z _ 3 3 [.slice aa na ca, .slice ap np cp, .slice ab nb cb] [a, p, b] _ (Rd.whole HSL.out) (BParts.three (b0K (HA.out.still st1.fr)) (b0K (HP.out.still st1.fr)) (b0K (HB.out.still st1.fr))) ap12).mono ?_
 rintro e' w2 ⟨rfl, hf2⟩
 have st2 := st1.keep hf2
 clear st1 hf2
 clear HSL
 rw [HR.out]
 go_wp2_with fail
 refine wp_region_noPanic ?_
 refine a0e st2 10 [.w 0, .w 1, .w 2, .w 3, .o 4, .j 4] (.r 5 (.w 6 (.w 7 (.w 8 (.w 9 (.m 10 .nil)))))) ap11 ap11 (fun _ _ _ _ _ h => h) ?_
 clear st2
 refine a0m rfl rfl apX ?_
 try simp only [clL]
 refine a0m rfl rfl apX ?_
 try simp only [clL]
 refine a0m rfl rfl apX ?_
 try simp only [clL]
 refine a0m rfl rfl apX ?_
 try simp only [clL]
 refine l0A rfl rfl rfl Tryz.underlying39 c0n [.slice (some ⟨bs_, os, none⟩) 32 cs, .slice (some ⟨bs_, os + 32, none⟩) (64 - 32) (cs - 32)] (fun _ => rfl) (by simp [Value.cells]) rfl [.slice (some ⟨bs_, os, none⟩) 32 cs, .slice (some ⟨bs_, os + 32, none⟩) (64 - 32) (cs - 32)] rfl ?_
 try simp only [clL]
 refine a0Z List.mem_cons_self fun g30 => ?_
 simp only [upd, reduceIte]
 try simp only [Nat.reduceEqDiff, reduceIte]
 refine a0t fun xq w3 st3 hR => ?_
 try dsimp only
 clear hR xq
 refine a0y rfl rfl ?_
 go_simp
 refine (C0T (some ⟨g30, 0, none⟩) 2 2 [.slice (some ⟨bs_, os, none⟩) 32 cs, .slice (some ⟨bs_, os + 32, none⟩) (64 - 32) (cs - 32)] [s.take 32, s.drop 32] _ (Rd.whole (st3.at 0 rfl)) (BParts.two (HSC.out.still st3.fr) (HSZ.out.still st3.fr)) ap12 HN.out).mono ?_
 rintro e' w4 ⟨rfl, hf4⟩
 have st4 := st3.keep hf4
 clear hf4
 clear st3
 refine ⟨by first | exact st4 | exact St.less st4 ap14, ?_⟩
 try simp only [clL]
 refine a0k rfl rfl apW ?_
 try simp only [clL]
 refine a0k rfl rfl apW ?_
 try simp only [clL]
 refine a0k rfl rfl apW ?_
 try simp only [clL]
 refine a0k rfl rfl apW ?_
 try simp only [clL]
 refine a0p rfl rfl ?_
 go_simp
 try simp only [clL]
 refine a0i ?_
 refine NoPanic.normal ?_
 have hfr := st4.fr
 clear st4
 go_wp2_with fail
 go_ret
 exact ⟨rfl, hfr⟩
theorem D0F (aa : Option Addr) (na ca : Nat) (a : List UInt8) (ap : Option Addr) (np cp : Nat) (p : List UInt8) (ab : Option Addr) (nb cb : Nat) (b : List UInt8) (bs_ os cs : Nat) (s : List UInt8) (w : World) (ha : PartIs w (.slice aa na ca) a) (hp : PartIs w (.slice ap np cp) p) (hb : PartIs w (.slice ab nb cb) b) (hs : PartIs w (.slice (some ⟨bs_, os, none⟩) 64 cs) s) (h : vsG a p b s = true) : Calls Tryz.prog 25 #[.slice aa na ca, .slice ap np cp, .slice ab nb cb, .slice (some ⟨bs_, os, none⟩) 64 cs] w fun e w' => e = .returned (.bool (vsB a p b s)) ∧ Fr Nob w w' := by
 have hr : b0x [a, p, b] = true := by unfold vsG at h; simp only [Bool.and_eq_true] at h; exact h.1
 have hn : a0U mQ [s.take 32, s.drop 32] = true := by unfold vsG at h; simp only [Bool.and_eq_true] at h; exact h.2.2
 have HS1 := qH (q0o (beN (s.drop 32)) (beN (s.take 32)) (w0h w0B).1 (c0Z (e0y hr).1))
 rw [(w0h w0B).2] at HS1
 have HS2 := qH (q0o (beN (s.drop 32)) (beN (s.take 32)) (c0Z (e0y hr).2.1) (c0Z (e0y hr).2.2))
 have HEQ := qH (show ((d0m p a b (d0z (beN (s.drop 32)) (beN (s.take 32)) gP (b0N a)) (d0z (beN (s.drop 32)) (beN (s.take 32)) (b0N p) (b0N b))) % mQ.M == (beN (s.take 32)) % mQ.M) = vsB a p b s by
  rw [y0g h, Nat.mod_eq_of_lt (h0S _ _ _ _ _), Nat.mod_eq_of_lt (c0O (x0l hn).1)]
  rfl)
 have HA := qH ha
 have HP := qH hp
 have HB := qH hb
 have hcs : 64 ≤ cs := by obtain ⟨a', n', c', he, hc, -⟩ := hs; cases he; exact hc
 have HSC := qH (b0K (k0l hs 32 ap12))
 have HSZ := qH (b0K (k0m hs 32 ap12))
 have hcI : (32 : Int) ≤ (cs : Int) := by omega
 have hcN : ¬ (cs = 32) := by omega
 have HR := qH hr
 have HN := qH hn
 clear ha hp hb hs hr hn hcs h
 have st0 := St.start Nob w
 go_enter Tryz.func25, Tryz.ntmps25
 go_wp2_with (with_reducible refine wSk 17 ?_)
 refine c0c rfl rfl Tryz.underlying39 c0n [.slice aa na ca, .slice ap np cp, .slice ab nb cb] rfl (by simp; exact ⟨rfl, rfl, rfl⟩) rfl rfl ?_
 intro w1 hh1 hf1 hz1
 have st1 := st0.keep hf1
 have HSL := qH hh1
 clear hh1 hf1 hz1 st0
 generalize w.heap.size = gl17 at *
 go_wp2_with fail
 refine (f0z _ 3 3 [.slice aa na ca, .slice ap np cp, .slice ab nb cb] [a, p, b] _ (Rd.whole HSL.out) (BParts.three (b0K (HA.out.still st1.fr)) (b0K (HP.out.still st1.fr)) (b0K (HB.out.still st1.fr))) ap12).mono ?_
 rintro e' w2 ⟨rfl, hf2⟩
 have st2 := st1.keep hf2
 clear st1 hf2
 clear HSL
 rw [HR.out]
 go_wp2_with fail
 refine wp_region_noPanic ?_
 refine a0e st2 10 [.w 0, .w 1, .w 2, .w 3, .o 4, .j 4] (.r 5 (.w 6 (.w 7 (.w 8 (.w 9 (.m 10 .nil)))))) ap11 ap11 (fun _ _ _ _ _ h => h) ?_
 clear st2
 refine a0m rfl rfl apX ?_
 try simp only [clL]
 refine a0m rfl rfl apX ?_
 try simp only [clL]
 refine a0m rfl rfl apX ?_
 try simp only [clL]
 refine a0m rfl rfl apX ?_
 try simp only [clL]
 refine l0A rfl rfl rfl Tryz.underlying39 c0n [.slice (some ⟨bs_, os, none⟩) 32 cs, .slice (some ⟨bs_, os + 32, none⟩) (64 - 32) (cs - 32)] (fun _ => rfl) (by simp [Value.cells]) rfl [.slice (some ⟨bs_, os, none⟩) 32 cs, .slice (some ⟨bs_, os + 32, none⟩) (64 - 32) (cs - 32)] rfl ?_
 try simp only [clL]
 refine a0Z List.mem_cons_self fun g30 => ?_
 simp only [upd, reduceIte]
 try simp only [Nat.reduceEqDiff, reduceIte]
 refine a0t fun xq w3 st3 hR => ?_
 try dsimp only
 clear hR xq
 refine a0y rfl rfl ?_
 go_simp
 refine (C0S (some ⟨g30, 0, none⟩) 2 2 [.slice (some ⟨bs_, os, none⟩) 32 cs, .slice (some ⟨bs_, os + 32, none⟩) (64 - 32) (cs - 32)] [s.take 32, s.drop 32] _ (Rd.whole (st3.at 0 rfl)) (BParts.two (HSC.out.still st3.fr) (HSZ.out.still st3.fr)) ap12 HN.out).mono ?_
 rintro e' w4 ⟨v, rfl, ho, hf4⟩
 have st4 := st3.keep hf4
 have HV := qH ho
 clear ho
 clear hf4
 clear st3
 refine ⟨by first | exact st4 | exact St.less st4 ap14, ?_⟩
 try simp only [clL]
 refine a0k rfl rfl apW ?_
 try simp only [clL]
 refine a0k rfl rfl apW ?_
 try simp only [clL]
 refine a0k rfl rfl apW ?_
 try simp only [clL]
 refine a0k rfl rfl apW ?_
 try simp only [clL]
 refine a0p rfl rfl ?_
 go_simp
 try simp only [clL]
 refine a0i ?_
 refine NoPanic.normal ?_
 have HV2 := HV.out
 obtain ⟨av, cv, rfl, -, hrv, -⟩ := HV2.form
 rw [D0B] at hrv
 obtain ⟨bv, ov, rfl, -⟩ := hrv.at ap14
 have HRV := qH hrv
 clear hrv HV HV2
 have FW := qH st4.fr
 clear st4
 have stB := St.start Nob w4
 clear hcI hcN
 go_wp2_with fail
 refine wp_region_noPanic ?_
 refine a0e stB 9 [.o 6, .o 7, .w 0, .w 1, .t 2, .w 3, .w 4, .t 5, .j 6, .j 7] (.r 8 (.m 9 .nil)) ap11 ap11 (fun _ _ _ _ _ h => h) ?_
 clear stB
 refine b0b rfl rfl rfl (z := zAd) ap11 (cw 4 0) ap9 ?_
 try simp only [clL]
 refine b0b rfl rfl rfl (z := zAd) ap11 (cw 4 0) ap9 ?_
 try simp only [clL]
 refine a0m rfl rfl apX ?_
 try simp only [clL]
 refine a0m rfl rfl apX ?_
 try simp only [clL]
 refine a0d rfl rfl rfl (fun _ => rfl) (cw 4 (elN mQ (beN (s.take 32)))) (fun wx hS => (g0z (HRV.out.still (St.fr hS)) 0 _ (f0a 4 4 _ _))) Tryz.underlying68 rfl ap4 ?_
 try simp only [clL]
 refine a0m rfl rfl apX ?_
 try simp only [clL]
 refine a0m rfl rfl apX ?_
 try simp only [clL]
 refine a0d rfl rfl rfl (fun _ => rfl) (cw 4 (elN mQ (beN (s.drop 32)))) (fun wx hS => (g0z (HRV.out.still (St.fr hS)) 4 _ (p0q 4 4 _ _))) Tryz.underlying68 rfl ap4 ?_
 try simp only [clL]
 refine a0Z (List.mem_cons_of_mem _ List.mem_cons_self) fun g11 => ?_
 simp only [upd, reduceIte]
 try simp only [Nat.reduceEqDiff, reduceIte]
 refine a0Z List.mem_cons_self fun g12 => ?_
 simp only [upd, reduceIte]
 try simp only [Nat.reduceEqDiff, reduceIte]
 refine a0t fun xq w5 st5 hR => ?_
 try dsimp only
 clear hR xq
 refine a0y rfl rfl ?_
 refine a0h st5 0 rfl rfl rfl rfl ap5 ap4 (a0f _ _) ?_
 intro w6 st6
 repeat (first | simp only [List.cons_append] at st6 | simp only [List.nil_append] at st6 | simp only [List.set_cons_succ] at st6 | simp only [List.set_cons_zero] at st6)
 clear st5
 refine ⟨by first | exact st6 | exact St.less st6 ap14, ?_⟩
 try simp only [Act.put]
 refine a0p rfl rfl ?_
 refine a0h st6 1 rfl rfl rfl rfl ap5 ap4 (a0f _ _) ?_
 intro w7 st7
 repeat (first | simp only [List.cons_append] at st7 | simp only [List.nil_append] at st7 | simp only [List.set_cons_succ] at st7 | simp only [List.set_cons_zero] at st7)
 clear st6
 try simp only [Act.put]
 refine a0i ?_
 refine NoPanic.normal ?_
 clear HRV
 go_wp2_with fail
 refine wp_region_noPanic ?_
 refine a0e st7 4 [.t 0, .t 1, .c 2, .o 3, .j 3] (.m 4 .nil) ap11 ap11 (fun _ _ _ _ _ h => h) ?_
 clear st7
 refine a0d rfl rfl rfl (fun _ => rfl) (cw 4 (elN mQ (beN (s.drop 32)))) (fun wx hS => St.rangeL hS 1 rfl 0 _ dZl) Tryz.underlying68 rfl ap4 ?_
 try simp only [clL]
 refine a0d rfl rfl rfl (fun _ => rfl) (cw 4 (elN mQ (beN (s.take 32)))) (fun wx hS => St.rangeL hS 0 rfl 0 _ dZl) Tryz.underlying68 rfl ap4 ?_
 try simp only [clL]
 refine a0c rfl rfl rfl Tryz.call64 (fun w hS hR => x0d mQ .one (beN (s.take 32)) _) (fun _ => rfl) ?_
 try simp only [clL]
 refine l0A rfl rfl rfl Tryz.underlying93 s0V [i4 (elN mQ (beN (s.drop 32))), i4 (elN mQ (mQ.M - (beN (s.take 32)) % mQ.M))] (fun _ => rfl) (by intro u hu; simp only [List.mem_cons, List.not_mem_nil, or_false] at hu; rcases hu with rfl | rfl <;> exact C0R _) rfl (d0q [(beN (s.drop 32)), (mQ.M - (beN (s.take 32)) % mQ.M)]) (by unfold d0q; simp [p0n]) ?_
 try simp only [clL]
 refine a0Z List.mem_cons_self fun g45 => ?_
 simp only [upd, reduceIte]
 try simp only [Nat.reduceEqDiff, reduceIte]
 refine a0t fun xq w8 st8 hR => ?_
 try dsimp only
 clear hR xq
 refine a0p rfl rfl ?_
 go_simp
 try simp only [clL]
 refine a0i ?_
 refine NoPanic.normal ?_
 have HBK := qH (st8.at 2 rfl)
 have FA := qH (FW.out.then st8.fr)
 have HA2 := qH (HA.out.still FA.out)
 have HP2 := qH (HP.out.still FA.out)
 have HB2 := qH (HB.out.still FA.out)
 clear FA HA HP HB
 have hb15 : ((d0m p a b (d0z (beN (s.drop 32)) (beN (s.take 32)) gP (b0N a)) (d0z (beN (s.drop 32)) (beN (s.take 32)) (b0N p) (b0N b))) % mQ.M == (beN (s.take 32)) % mQ.M) = vsB a p b s := HEQ.out
 have HB15 := qH hb15
 clear hb15
 go_wp2_with fail
 refine wp_region_noPanic ?_
 have hd8 := st8.drew
 clear st8
 refine j0z (fun wx => St Nob w4 wx [(g11, cw 4 (elN mQ (beN (s.take 32))), 68), (g12, cw 4 (elN mQ (beN (s.drop 32))), 68), (g45, (d0q [(beN (s.drop 32)), (mQ.M - (beN (s.take 32)) % mQ.M)]), 68)] ∧ Fr Nob (World.drew _) wx) [0, 1, 2, 3, 4, 5, 6, 7, 8, 9, 10, 11, 12, 13, 14, 15] [] (fun i => match i with | 0 => [] | 1 => [] | 2 => [] | 3 => [] | 4 => [] | 5 => [] | 6 => [4, 5] | 7 => [3, 6] | 8 => [] | 9 => [] | 10 => [] | 11 => [9, 10] | 12 => [8, 11] | 13 => [0, 1, 2, 7, 12] | 14 => [] | 15 => [13, 14] | _ => []) (fun i x wx => match i with | 0 => x 0 = .slice ap np cp | 1 => x 1 = .slice aa na ca | 2 => x 2 = .slice ab nb cb | 3 => x 3 = .slice (some ⟨g45, 0, none⟩) 2 2 | 4 => ∃ y : Option Addr × Nat, x 4 = .slice y.1 33 y.2 ∧ BPart wx (.slice y.1 33 y.2) (b0y gP) | 5 => x 5 = .slice aa na ca | 6 => ∃ (g : Nat) (y : Option Addr × Nat), x 6 = .slice (some ⟨g, 0, none⟩) 2 2 ∧ Has wx g [.slice y.1 33 y.2, .slice aa na ca] 22 ∧ BPart wx (.slice y.1 33 y.2) (b0y gP) | 7 => ∃ v, x 7 = v ∧ PartIs wx v (d0z (beN (s.drop 32)) (beN (s.take 32)) gP (b0N a)) | 8 => x 8 = .slice (some ⟨g45, 0, none⟩) 2 2 | 9 => x 9 = .slice ap np cp | 10 => x 10 = .slice ab nb cb | 11 => ∃ g : Nat, x 11 = .slice (some ⟨g, 0, none⟩) 2 2 ∧ Has wx g [.slice ap np cp, .slice ab nb cb] 22 | 12 => ∃ v, x 12 = v ∧ PartIs wx v (d0z (beN (s.drop 32)) (beN (s.take 32)) (b0N p) (b0N b)) | 13 => x 13 = i4 (elN mQ (d0m p a b (d0z (beN (s.drop 32)) (beN (s.take 32)) gP (b0N a)) (d0z (beN (s.drop 32)) (beN (s.take 32)) (b0N p) (b0N b)))) | 14 => x 14 = i4 (elN mQ (beN (s.take 32))) | 15 => x 15 = .bool (vsB a p b s) | _ => True) 16 (.m 16 .nil) ?_ (fun x => ?_) ap11 ap11 (fun _ _ _ _ _ h => h) ⟨hd8, Fr.refl _ _⟩ (fun _ _ h k => ⟨h.1.keep k, h.2.then k⟩) ?_ ?_
 rotate_left 1
 ·simp only [h0x, A0u, Act.put, List.getElem?_toArray, List.getElem?_cons_zero, List.getElem?_cons_succ, List.setIfInBounds_toArray, List.set_cons_zero, List.set_cons_succ]
  exact rfl
 refine b0D rfl rfl (fun x wx hG hp => ?_) (fun y _ _ h k => h) ?_
 ·try dsimp only
  clear hp
  exact j0A (v := .slice ap np cp) (by go_simp; try with_reducible rfl) rfl
 refine b0D rfl rfl (fun x wx hG hp => ?_) (fun y _ _ h k => h) ?_
 ·try dsimp only
  clear hp
  exact j0A (v := .slice aa na ca) (by go_simp; try with_reducible rfl) rfl
 refine b0D rfl rfl (fun x wx hG hp => ?_) (fun y _ _ h k => h) ?_
 ·try dsimp only
  clear hp
  exact j0A (v := .slice ab nb cb) (by go_simp; try with_reducible rfl) rfl
 refine b0D rfl rfl (fun x wx hG hp => ?_) (fun y _ _ h k => h) ?_
 ·try dsimp only
  clear hp
  exact j0A (v := .slice (some ⟨g45, 0, none⟩) 2 2) (by go_simp; try with_reducible rfl) rfl
 refine b0D rfl rfl (fun x wx hG hp => ?_) (fun y _ _ h k => by obtain ⟨y, h1, h2⟩ := h; exact ⟨y, h1, h2.still k⟩) ?_
 ·try dsimp only
  clear hp
  refine q0l rfl Tryz.call29 (vs := []) rfl ?_
  refine (u0A _).mono ?_
  rintro e w' ⟨y, rfl, hb, hf⟩
  exact ⟨_, rfl, hf, y, rfl, hb⟩
 refine b0D rfl rfl (fun x wx hG hp => ?_) (fun y _ _ h k => h) ?_
 ·try dsimp only
  clear hp
  exact j0A (v := .slice aa na ca) (by go_simp; try with_reducible rfl) rfl
 refine b0D rfl rfl (fun x wx hG hp => ?_) (fun y _ _ h k => by obtain ⟨g, y, h1, h2, h3⟩ := h; exact ⟨g, y, h1, h2.keep k id, h3.still k⟩) ?_
 ·try dsimp only
  have e4 : ∃ y : Option Addr × Nat, x 4 = .slice y.1 33 y.2 ∧ BPart wx (.slice y.1 33 y.2) (b0y gP) := hp 4 ap12
  obtain ⟨yb, e4, HYB⟩ := e4
  generalize x 4 = v4 at e4 ⊢
  subst e4
  have e5 : x 5 = .slice aa na ca := hp 5 ap12
  generalize x 5 = v5 at e5 ⊢
  subst e5
  clear hp
  refine q0k rfl Tryz.underlying39 c0n [.slice yb.1 33 yb.2, .slice aa na ca] rfl (by intro u hu; simp only [List.mem_cons, List.not_mem_nil, or_false] at hu; rcases hu with rfl | rfl <;> rfl) rfl [.slice yb.1 33 yb.2, .slice aa na ca] rfl (fun g w' hf _ hg => ⟨g, yb, rfl, hg, HYB.still hf⟩)
 refine b0D rfl rfl (fun x wx hG hp => ?_) (fun y _ _ h k => by obtain ⟨y, h1, h2⟩ := h; exact ⟨y, h1, h2.still k⟩) ?_
 ·try dsimp only
  have e3 : x 3 = .slice (some ⟨g45, 0, none⟩) 2 2 := hp 3 ap12
  generalize x 3 = v3 at e3 ⊢
  subst e3
  have e6 : ∃ (g : Nat) (y : Option Addr × Nat), x 6 = .slice (some ⟨g, 0, none⟩) 2 2 ∧ Has wx g [.slice y.1 33 y.2, .slice aa na ca] 22 ∧ BPart wx (.slice y.1 33 y.2) (b0y gP) := hp 6 ap12
  obtain ⟨ga, yc, e6, HGA, HYC⟩ := e6
  generalize x 6 = v6 at e6 ⊢
  subst e6
  clear hp
  refine q0l rfl Tryz.call62 (vs := [.slice (some ⟨g45, 0, none⟩) 2 2, .slice (some ⟨ga, 0, none⟩) 2 2]) rfl ?_
  refine (B0Y (some ⟨g45, 0, none⟩) 2 [(beN (s.drop 32)), (mQ.M - (beN (s.take 32)) % mQ.M)] (some ⟨ga, 0, none⟩) 2 [.slice yc.1 33 yc.2, .slice aa na ca] [b0y gP, a] _ (by have h := Rd.whole (HBK.out.keep ((Fr.refl Nob _).drew.then hG.2) id); rwa [k0j] at h) ap14 (Rd.whole HGA) (BParts.two HYC (b0K (HA2.out.still ((Fr.refl Nob _).drew.then hG.2))))).mono ?_
  rintro e w' ⟨v, rfl, ho, hf⟩
  rw [HS1.out] at ho
  exact ⟨_, rfl, hf, v, rfl, OwnB1.ptb ho (by rw [n0v]; decide)⟩
 refine b0D rfl rfl (fun x wx hG hp => ?_) (fun y _ _ h k => h) ?_
 ·try dsimp only
  clear hp
  exact j0A (v := .slice (some ⟨g45, 0, none⟩) 2 2) (by go_simp; try with_reducible rfl) rfl
 refine b0D rfl rfl (fun x wx hG hp => ?_) (fun y _ _ h k => h) ?_
 ·try dsimp only
  clear hp
  exact j0A (v := .slice ap np cp) (by go_simp; try with_reducible rfl) rfl
 refine b0D rfl rfl (fun x wx hG hp => ?_) (fun y _ _ h k => h) ?_
 ·try dsimp only
  clear hp
  exact j0A (v := .slice ab nb cb) (by go_simp; try with_reducible rfl) rfl
 refine b0D rfl rfl (fun x wx hG hp => ?_) (fun y _ _ h k => by obtain ⟨g, h1, h2⟩ := h; exact ⟨g, h1, h2.keep k id⟩) ?_
 ·try dsimp only
  have e9 : x 9 = .slice ap np cp := hp 9 ap12
  generalize x 9 = v9 at e9 ⊢
  subst e9
  have e10 : x 10 = .slice ab nb cb := hp 10 ap12
  generalize x 10 = v10 at e10 ⊢
  subst e10
  clear hp
  refine q0k rfl Tryz.underlying39 c0n [.slice ap np cp, .slice ab nb cb] rfl (by intro u hu; simp only [List.mem_cons, List.not_mem_nil, or_false] at hu; rcases hu with rfl | rfl <;> rfl) rfl [.slice ap np cp, .slice ab nb cb] rfl (fun g w' hf _ hg => ⟨g, rfl, hg⟩)
 refine b0D rfl rfl (fun x wx hG hp => ?_) (fun y _ _ h k => by obtain ⟨y, h1, h2⟩ := h; exact ⟨y, h1, h2.still k⟩) ?_
 ·try dsimp only
  have e8 : x 8 = .slice (some ⟨g45, 0, none⟩) 2 2 := hp 8 ap12
  generalize x 8 = v8 at e8 ⊢
  subst e8
  have e11 : ∃ g : Nat, x 11 = .slice (some ⟨g, 0, none⟩) 2 2 ∧ Has wx g [.slice ap np cp, .slice ab nb cb] 22 := hp 11 ap12
  obtain ⟨gb, e11, HGB⟩ := e11
  generalize x 11 = v11 at e11 ⊢
  subst e11
  clear hp
  refine q0l rfl Tryz.call62 (vs := [.slice (some ⟨g45, 0, none⟩) 2 2, .slice (some ⟨gb, 0, none⟩) 2 2]) rfl ?_
  refine (B0Y (some ⟨g45, 0, none⟩) 2 [(beN (s.drop 32)), (mQ.M - (beN (s.take 32)) % mQ.M)] (some ⟨gb, 0, none⟩) 2 [.slice ap np cp, .slice ab nb cb] [p, b] _ (by have h := Rd.whole (HBK.out.keep ((Fr.refl Nob _).drew.then hG.2) id); rwa [k0j] at h) ap14 (Rd.whole HGB) (BParts.two (b0K (HP2.out.still ((Fr.refl Nob _).drew.then hG.2))) (b0K (HB2.out.still ((Fr.refl Nob _).drew.then hG.2))))).mono ?_
  rintro e w' ⟨v, rfl, ho, hf⟩
  rw [HS2.out] at ho
  exact ⟨_, rfl, hf, v, rfl, OwnB1.ptb ho (by rw [n0v]; decide)⟩
 refine b0D rfl rfl (fun x wx hG hp => ?_) (fun y _ _ h k => h) ?_
 ·try dsimp only
  have e0 : x 0 = .slice ap np cp := hp 0 ap12
  generalize x 0 = v0 at e0 ⊢
  subst e0
  have e1 : x 1 = .slice aa na ca := hp 1 ap12
  generalize x 1 = v1 at e1 ⊢
  subst e1
  have e2 : x 2 = .slice ab nb cb := hp 2 ap12
  generalize x 2 = v2 at e2 ⊢
  subst e2
  have e7 : ∃ v, x 7 = v ∧ PartIs wx v (d0z (beN (s.drop 32)) (beN (s.take 32)) gP (b0N a)) := hp 7 ap12
  obtain ⟨vs7, e7, HV7⟩ := e7
  generalize x 7 = v7 at e7 ⊢
  subst e7
  have e12 : ∃ v, x 12 = v ∧ PartIs wx v (d0z (beN (s.drop 32)) (beN (s.take 32)) (b0N p) (b0N b)) := hp 12 ap12
  obtain ⟨vs12, e12, HV12⟩ := e12
  generalize x 12 = v12 at e12 ⊢
  subst e12
  clear hp
  refine q0l rfl Tryz.call79 (vs := [.slice ap np cp, .slice aa na ca, .slice ab nb cb, v7, v12]) rfl ?_
  refine (j0d (.slice ap np cp) p (.slice aa na ca) a (.slice ab nb cb) b v7 (d0z (beN (s.drop 32)) (beN (s.take 32)) gP (b0N a)) v12 (d0z (beN (s.drop 32)) (beN (s.take 32)) (b0N p) (b0N b)) _ (HP2.out.still ((Fr.refl Nob _).drew.then hG.2)) (HA2.out.still ((Fr.refl Nob _).drew.then hG.2)) (HB2.out.still ((Fr.refl Nob _).drew.then hG.2)) HV7 HV12).mono ?_
  rintro e w' ⟨rfl, hf⟩
  exact ⟨_, rfl, hf, rfl⟩
 refine b0D rfl rfl (fun x wx hG hp => ?_) (fun y _ _ h k => h) ?_
 ·try dsimp only
  clear hp
  exact j0A (v := i4 (elN mQ (beN (s.take 32)))) (r0F (hG.1.at 0 rfl) (x := .tmp 11) (p := 0) rfl rfl (cw 4 (elN mQ (beN (s.take 32)))) dZl Tryz.underlying68 rfl (h0e _)) rfl
 refine b0D rfl rfl (fun x wx hG hp => ?_) (fun y _ _ h k => h) ?_
 ·try dsimp only
  have e13 : x 13 = i4 (elN mQ (d0m p a b (d0z (beN (s.drop 32)) (beN (s.take 32)) gP (b0N a)) (d0z (beN (s.drop 32)) (beN (s.take 32)) (b0N p) (b0N b)))) := hp 13 ap12
  generalize x 13 = v13 at e13 ⊢
  subst e13
  have e14 : x 14 = i4 (elN mQ (beN (s.take 32))) := hp 14 ap12
  generalize x 14 = v14 at e14 ⊢
  subst e14
  clear hp
  exact j0A (t0a mQ d0F _ _ rfl rfl rfl HB15.out _) rfl
 exact trivial
 intro x w9 hG hp
 try dsimp only
 have e15 : x 15 = .bool (vsB a p b s) := hp 15 ap12
 generalize x 15 = v15 at e15 ⊢
 subst e15
 clear hp
 generalize x 0 = v0
 generalize x 1 = v1
 generalize x 2 = v2
 generalize x 3 = v3
 generalize x 4 = v4
 generalize x 5 = v5
 generalize x 6 = v6
 generalize x 7 = v7
 generalize x 8 = v8
 generalize x 9 = v9
 generalize x 10 = v10
 generalize x 11 = v11
 generalize x 12 = v12
 generalize x 13 = v13
 generalize x 14 = v14
 have st9 := hG.1
 clear hG hd8
 refine a0p rfl rfl ?_
 go_simp
 try simp only [clL]
 refine a0i ?_
 refine NoPanic.normal ?_
 have hfr := FW.out.then st9.fr
 clear st9
 go_wp2_with fail
 go_ret
 exact ⟨rfl, hfr⟩
theorem n0w (aa : Option Addr) (na ca : Nat) (a : List UInt8) (ap : Option Addr) (np cp : Nat) (p : List UInt8) (ab : Option Addr) (nb cb : Nat) (b : List UInt8) (as_ : Option Addr) (ns cs : Nat) (s : List UInt8) (w : World) (ha : PartIs w (.slice aa na ca) a) (hp : PartIs w (.slice ap np cp) p) (hb : PartIs w (.slice ab nb cb) b) (hs : PartIs w (.slice as_ ns cs) s) : Calls Tryz.prog 25 #[.slice aa na ca, .slice ap np cp, .slice ab nb cb, .slice as_ ns cs] w fun e w' => e = .returned (.bool (vsB a p b s)) ∧ Fr Nob w w' := by
 have hl := u0H hs
 cases h : vsG a p b s with
 | false =>
  rw [C0c h]
  unfold vsG at h
  cases h1 : b0x [a, p, b] with
  | false => exact D0C aa na ca a ap np cp p ab nb cb b as_ ns cs s w ha hp hb hs h1
  | true =>
   by_cases h2 : ns = 64
   ·subst h2
    obtain ⟨bs_, os, rfl, -⟩ := (h0g hs).at ap12
    rw [h1, decide_eq_true hl, Bool.true_and, Bool.true_and] at h
    exact D0E aa na ca a ap np cp p ab nb cb b bs_ os cs s w ha hp hb hs h1 h
   ·exact D0D aa na ca a ap np cp p ab nb cb b as_ ns cs s w ha hp hb hs h1 h2
 | true =>
  have h2 := h
  unfold vsG at h2
  simp only [Bool.and_eq_true, decide_eq_true_eq] at h2
  obtain rfl : ns = 64 := by omega
  obtain ⟨bs_, os, rfl, -⟩ := (h0g hs).at ap12
  exact D0F aa na ca a ap np cp p ab nb cb b bs_ os cs s w ha hp hb hs h
end
end Go.Proofs.YtemcankmggmgoaaGreat
