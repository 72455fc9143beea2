/- ; ; ; ; . -/
import Derived.Test.YtemcankmggmgoaaGreatMgSigmaCompleteProof7
import Derived.Test.YtemcankmggmgoaaGreatMgSigmaCompleteProof1
import Derived.Test.YtemcankmggmgoaaGreatMgSigmaCompleteProof6
set_option maxHeartbeats 16000000
set_option maxRecDepth 1000000

namespace Go.Proofs.YtemcankmggmgoaaGreat
section
open Go.RowKit Go.Mv Mvp Mvq
def sgC (vp vf : Value) (c z : Nat) : List Value := [vp, vf] ++ (cw 4 c ++ cw 4 z)
theorem b0M (vp vf : Value) (c z : Nat) : (sgC vp vf c z).length = 10 := by simp [sgC, a0e]
theorem d0U (p f : Option Addr) (a b c d : Nat) (x y : Nat) : ∀ v ∈ sgC (.slice p a b) (.slice f c d) x y, v.oneCell' = true := by
 intro v hv
 unfold sgC at hv
 rcases List.mem_append.1 hv with h | h
 ·simp only [List.mem_cons, List.not_mem_nil, or_false] at h
  rcases h with rfl | rfl <;> rfl
 ·rcases List.mem_append.1 h with h | h
  ·exact a0d _ _ v h
  ·exact a0d _ _ v h
theorem m0h : (Tryz.prog.info? 85).map (·.zero) = some (some (.agg (sgC (.slice none 0 0) (.slice none 0 0) 0 0).toArray)) := by unfold sgC; rw [f0h]; kernel_rfl
theorem d0k (vp vf : Value) (c z : Nat) : (Tryz.prog.info? 85).map (·.size) = some (sgC vp vf c z).length := by rw [b0M]; kernel_rfl
theorem y0F (vp vf : Value) (c z : Nat) : ((sgC vp vf c z).drop 2).take (cw 4 c).length = cw 4 c := by
 unfold sgC
 rw [List.drop_append, List.drop_of_length_le ap14, List.nil_append]
 simp only [List.length_cons, List.length_nil, Nat.sub_self, List.drop_zero]
 exact List.take_left
theorem y0G (vp vf : Value) (c z : Nat) : ((sgC vp vf c z).drop 6).take (cw 4 z).length = cw 4 z := by
 unfold sgC
 rw [← List.append_assoc, List.drop_append, List.drop_of_length_le ap10, List.nil_append]
 simp only [List.length_append, List.length_cons, List.length_nil, a0e]
 rw [List.drop_zero, List.take_of_length_le (by rw [a0e]; exact Nat.le_refl _)]
theorem u0c (vp vf : Value) (c z x : Nat) : splice (sgC vp vf c z) 6 (cw 4 x) = sgC vp vf c x := by
 unfold sgC splice
 rw [a0e, ← List.append_assoc, List.take_append, List.take_of_length_le ap10, List.drop_of_length_le ap10]
 simp [a0e]
theorem x0N (vp vf : Value) (c z x : Nat) : splice (sgC vp vf c z) 2 (cw 4 x) = sgC vp vf x z := by
 have h : sgC vp vf c z = [vp, vf] ++ (cw 4 c ++ cw 4 z) := rfl
 unfold splice
 rw [h, a0e, List.take_append, List.drop_append]
 have e1 : List.drop (2 + 4) [vp, vf] = [] := rfl
 rw [e1]
 simp only [List.length_cons, List.length_nil, Nat.sub_self, List.take_zero, List.append_nil]
 rw [List.drop_append, List.drop_of_length_le (by rw [a0e]; omega), a0e]
 simp [sgC]
theorem r0c {w w4 : World} {g6 : Nat} {up uf : Value} {c z : Nat} {T : TypeId} (h : St Nob w w4 [(g6, sgC up uf c z, T)]) (vp vf : Value) : St Nob w ((w4.setCell ⟨g6, 0, none⟩ vp).setCell ⟨g6, 1, none⟩ vf).drew [(g6, sgC vp vf c z, T)] := ((h.set 0 rfl 0 vp).set 0 rfl 1 vf).drew
theorem r0d {w w4 : World} {g6 : Nat} {up uf : Value} {c z : Nat} {T : TypeId} (h : St Nob w w4 [(g6, sgC up uf c z, T)]) (vp vf : Value) : St Nob w ((w4.setCell ⟨g6, 1, none⟩ vf).setCell ⟨g6, 0, none⟩ vp).drew [(g6, sgC vp vf c z, T)] := ((h.set 0 rfl 1 vf).set 0 rfl 0 vp).drew
def rdG (pub s : List UInt8) : Bool := b0g pub && (decide (s.length = 65) && (b0w (s.take 33) && a0N mQ (s.drop 33)))
theorem b0Y {w : World} {a : Option Addr} {n c : Nat} {l : List UInt8} (h : PartIs w (.slice a n c) l) (k : Nat) (hk : k ≤ n) : PartIs w (.slice a k c) (l.take k) := by
 obtain ⟨a', n', c', he, hc, hn, hr, ho⟩ := h
 cases he
 have h2 := Rd.take (show Rd w a n (bs l) from hr) k hk
 rw [e0w] at h2
 exact ⟨a, k, c, rfl, by omega, by omega, h2, ho⟩
theorem c0j {w : World} {b o n c : Nat} {l : List UInt8} (h : PartIs w (.slice (some ⟨b, o, none⟩) n c) l) (k : Nat) (hk : k ≤ n) : PartIs w (.slice (some ⟨b, o + k, none⟩) (n - k) (c - k)) (l.drop k) := by
 obtain ⟨a', n', c', he, hc, hn, hr, ho⟩ := h
 cases he
 have hlen := hr.len
 refine ⟨_, _, _, rfl, by omega, by omega, ?_, ?_⟩
 ·refine ⟨by rw [a0G, List.length_drop]; omega, ?_⟩
  by_cases hz : n - k = 0
  ·exact .inl hz
  ·obtain ⟨b', o', e, hat⟩ := Rd.at hr ap13
   cases e
   refine .inr ⟨_, _, rfl, ?_⟩
   have h2 := hat.sub k (n - k)
   have e2 : ((bs l).drop k).take (n - k) = bs (l.drop k) := by
    rw [List.take_of_length_le (by rw [List.length_drop, a0G]; omega)]
    simp [bs, List.map_drop]
   rwa [e2] at h2
 ·intro x hx
  cases hx
  exact ho ⟨b, o, none⟩ rfl
theorem c0N (l : List UInt8) : b0h [l] = b0g l := by unfold b0h; simp
theorem a0s {w : World} {v : Value} {l : List UInt8} (h : PartIs w v l) : BPart w v l := h.bpart
attribute [local irreducible] a0y lw mix cw b0q b0r b0i beN b0x a0Q a0A a0J elN mdL a0N rtV b0S a0O b0w a0W a0L c0P j0w g0u a0v b0k b0u toB a0z a0E b0s a0H c0n b0l a0F c0z c0B c0b d0H sgF sgZ b0E c0Y c0E chN b0g b0h tS sgC rdG
theorem x0O (ap : Option Addr) (np cp : Nat) (pub : List UInt8) (at_ : Option Addr) (nt ct : Nat) (text : List UInt8) (as_ : Option Addr) (ns cs : Nat) (s : List UInt8) (w : World) (hp : PartIs w (.slice ap np cp) pub) (ht : PartIs w (.slice at_ nt ct) text) (hs : PartIs w (.slice as_ ns cs) s) (hq : b0g pub = false) : Calls Tryz.prog 60 #[.slice ap np cp, .slice at_ nt ct, .slice as_ ns cs] w fun e w' => ∃ cells : List Value, e = .returned (.tuple #[.agg cells.toArray, .bool false]) ∧ cells.length = 10 ∧ (∀ v ∈ cells, v.oneCell' = true) ∧ Fr Nob w w' := by
 have HP := qH hp
 have HT := qH ht
 have HS := qH hs
 have HR := qH (show b0h [pub] = false by rw [c0N]; exact hq)
 clear hp ht hs hq
 have st0 := St.start Nob w
 go_enter Tryz.func60, Tryz.ntmps60
 go_wp2_with (with_reducible refine wSk 6 ?_)
 refine a0a st0 rfl rfl m0h (sgC (.slice none 0 0) (.slice none 0 0) 0 0) rfl ?_
 intro g6 w1 st1
 clear st0
 go_wp2_with (with_reducible refine wSk 9 ?_)
 refine b0o rfl rfl Tryz.underlying39 a0Z [.slice ap np cp] rfl (by simp; rfl) rfl rfl ?_
 intro w2 hh2 hf2 hz2
 have st2 := st1.keep hf2
 have HSL := qH hh2
 clear hh2 hf2 hz2 st1
 generalize w1.heap.size = gl9 at *
 go_wp2_with fail
 refine (c0G _ 1 1 [.slice ap np cp] [pub] _ (Rd.whole HSL.out) (BParts.one (a0s (HP.out.still st2.fr))) ap12).mono ?_
 rintro e' w3 ⟨rfl, hf3⟩
 have st3 := st2.keep hf3
 clear st2 hf3
 clear HSL
 rw [HR.out]
 go_wp2_with (with_reducible refine wSk 23 ?_)
 refine a0u st3 0 rfl rfl rfl Tryz.underlying85 rfl rfl (d0k _ _ _ _) ?_
 go_wp2_with (with_reducible refine wSn ?_)
 refine a0b st3 0 rfl rfl rfl rfl rfl (by simp only [b0M]) (d0k _ _ _ _) (d0U _ _ _ _ _ _ _ _) ?_
 intro w4 st4
 clear st3
 have hr := st4.at 0 rfl
 have hfr := st4.fr
 clear st4
 go_wp2_with fail
 exact bodyPost_ret (a0M rfl rfl hr Tryz.underlying85 rfl (d0k _ _ _ _) rfl) rfl ⟨_, rfl, b0M _ _ _ _, d0U _ _ _ _ _ _ _ _, hfr⟩
theorem x0P (ap : Option Addr) (np cp : Nat) (pub : List UInt8) (at_ : Option Addr) (nt ct : Nat) (text : List UInt8) (as_ : Option Addr) (ns cs : Nat) (s : List UInt8) (w : World) (hp : PartIs w (.slice ap np cp) pub) (ht : PartIs w (.slice at_ nt ct) text) (hs : PartIs w (.slice as_ ns cs) s) (hq : b0g pub = true) (hl : ns ≠ 65) : Calls Tryz.prog 60 #[.slice ap np cp, .slice at_ nt ct, .slice as_ ns cs] w fun e w' => ∃ cells : List Value, e = .returned (.tuple #[.agg cells.toArray, .bool false]) ∧ cells.length = 10 ∧ (∀ v ∈ cells, v.oneCell' = true) ∧ Fr Nob w w' := by
 have HP := qH hp
 have HT := qH ht
 have HS := qH hs
 have HR := qH (show b0h [pub] = true by rw [c0N]; exact hq)
 have hne : ((ns : Int) != 65) = true := by simp; omega
 clear hp ht hs hq hl
 have st0 := St.start Nob w
 go_enter Tryz.func60, Tryz.ntmps60
 go_wp2_with (with_reducible refine wSk 6 ?_)
 refine a0a st0 rfl rfl m0h (sgC (.slice none 0 0) (.slice none 0 0) 0 0) rfl ?_
 intro g6 w1 st1
 clear st0
 go_wp2_with (with_reducible refine wSk 9 ?_)
 refine b0o rfl rfl Tryz.underlying39 a0Z [.slice ap np cp] rfl (by simp; rfl) rfl rfl ?_
 intro w2 hh2 hf2 hz2
 have st2 := st1.keep hf2
 have HSL := qH hh2
 clear hh2 hf2 hz2 st1
 generalize w1.heap.size = gl9 at *
 go_wp2_with fail
 refine (c0G _ 1 1 [.slice ap np cp] [pub] _ (Rd.whole HSL.out) (BParts.one (a0s (HP.out.still st2.fr))) ap12).mono ?_
 rintro e' w3 ⟨rfl, hf3⟩
 have st3 := st2.keep hf3
 clear st2 hf3
 clear HSL
 rw [HR.out]
 go_wp2_with (with_reducible refine wSk 23 ?_)
 refine a0u st3 0 rfl rfl rfl Tryz.underlying85 rfl rfl (d0k _ _ _ _) ?_
 go_wp2_with (with_reducible refine wSn ?_)
 refine a0b st3 0 rfl rfl rfl rfl rfl (by simp only [b0M]) (d0k _ _ _ _) (d0U _ _ _ _ _ _ _ _) ?_
 intro w4 st4
 clear st3
 have hr := st4.at 0 rfl
 have hfr := st4.fr
 clear st4
 go_wp2_with fail
 exact bodyPost_ret (a0M rfl rfl hr Tryz.underlying85 rfl (d0k _ _ _ _) rfl) rfl ⟨_, rfl, b0M _ _ _ _, d0U _ _ _ _ _ _ _ _, hfr⟩
theorem x0Q (ap : Option Addr) (np cp : Nat) (pub : List UInt8) (at_ : Option Addr) (nt ct : Nat) (text : List UInt8) (b o cs : Nat) (s : List UInt8) (w : World) (hp : PartIs w (.slice ap np cp) pub) (ht : PartIs w (.slice at_ nt ct) text) (hs : PartIs w (.slice (some ⟨b, o, none⟩) 65 cs) s) (hq : b0g pub = true) (ho : b0w (s.take 33) = false) : Calls Tryz.prog 60 #[.slice ap np cp, .slice at_ nt ct, .slice (some ⟨b, o, none⟩) 65 cs] w fun e w' => ∃ cells : List Value, e = .returned (.tuple #[.agg cells.toArray, .bool false]) ∧ cells.length = 10 ∧ (∀ v ∈ cells, v.oneCell' = true) ∧ Fr Nob w w' := by
 have HP := qH hp
 have HT := qH ht
 have HS := qH hs
 have HR := qH (show b0h [pub] = true by rw [c0N]; exact hq)
 have hcs : 65 ≤ cs := by obtain ⟨a', n', c', he, hc, -⟩ := hs; cases he; exact hc
 have HSF := qH (b0Y hs 33 ap12)
 have HSZ := qH (c0j hs 33 ap12)
 have k1 := fun wx => b0I (P := Tryz.prog) wx Tryz.underlying22 b0v (some ⟨b, o, none⟩) 65 cs .i64 33 ap13
 have k2 := fun wx => c0R (P := Tryz.prog) wx Tryz.underlying22 b0v (some ⟨b, o, none⟩) 65 cs .i64 33 ap13
 have hcI : (33 : Int) ≤ (cs : Int) := by omega
 have hcN : ¬ (cs = 33) := by omega
 have HO := qH ho
 clear hp ht hs hq ho hcs
 have st0 := St.start Nob w
 go_enter Tryz.func60, Tryz.ntmps60
 go_wp2_with (with_reducible refine wSk 6 ?_)
 refine a0a st0 rfl rfl m0h (sgC (.slice none 0 0) (.slice none 0 0) 0 0) rfl ?_
 intro g6 w1 st1
 clear st0
 go_wp2_with (with_reducible refine wSk 9 ?_)
 refine b0o rfl rfl Tryz.underlying39 a0Z [.slice ap np cp] rfl (by simp; rfl) rfl rfl ?_
 intro w2 hh2 hf2 hz2
 have st2 := st1.keep hf2
 have HSL := qH hh2
 clear hh2 hf2 hz2 st1
 generalize w1.heap.size = gl9 at *
 go_wp2_with fail
 refine (c0G _ 1 1 [.slice ap np cp] [pub] _ (Rd.whole HSL.out) (BParts.one (a0s (HP.out.still st2.fr))) ap12).mono ?_
 rintro e' w3 ⟨rfl, hf3⟩
 have st3 := st2.keep hf3
 clear st2 hf3
 clear HSL
 rw [HR.out]
 go_wp2_with fail
 refine (d0Q _ (s.take 33) _ (a0s (HSF.out.still st3.fr)) HO.out).mono ?_
 rintro e' w4 ⟨rfl, hf4⟩
 have st4 := st3.keep hf4
 clear st3 hf4
 go_wp2_with (with_reducible refine wSk 23 ?_)
 refine a0u st4 0 rfl rfl rfl Tryz.underlying85 rfl rfl (d0k _ _ _ _) ?_
 go_wp2_with (with_reducible refine wSn ?_)
 refine a0b st4 0 rfl rfl rfl rfl rfl (by simp only [b0M]) (d0k _ _ _ _) (d0U _ _ _ _ _ _ _ _) ?_
 intro w5 st5
 clear st4
 have hr := st5.at 0 rfl
 have hfr := st5.fr
 clear st5
 go_wp2_with fail
 exact bodyPost_ret (a0M rfl rfl hr Tryz.underlying85 rfl (d0k _ _ _ _) rfl) rfl ⟨_, rfl, b0M _ _ _ _, d0U _ _ _ _ _ _ _ _, hfr⟩
theorem x0R (ap : Option Addr) (np cp : Nat) (pub : List UInt8) (at_ : Option Addr) (nt ct : Nat) (text : List UInt8) (b o cs : Nat) (s : List UInt8) (w : World) (hp : PartIs w (.slice ap np cp) pub) (ht : PartIs w (.slice at_ nt ct) text) (hs : PartIs w (.slice (some ⟨b, o, none⟩) 65 cs) s) (hq : b0g pub = true) (ho : b0w (s.take 33) = true) (hn : a0N mQ (s.drop 33) = false) : Calls Tryz.prog 60 #[.slice ap np cp, .slice at_ nt ct, .slice (some ⟨b, o, none⟩) 65 cs] w fun e w' => ∃ cells : List Value, e = .returned (.tuple #[.agg cells.toArray, .bool false]) ∧ cells.length = 10 ∧ (∀ v ∈ cells, v.oneCell' = true) ∧ Fr Nob w w' := by
 have HP := qH hp
 have HT := qH ht
 have HS := qH hs
 have HR := qH (show b0h [pub] = true by rw [c0N]; exact hq)
 have hcs : 65 ≤ cs := by obtain ⟨a', n', c', he, hc, -⟩ := hs; cases he; exact hc
 have HSF := qH (b0Y hs 33 ap12)
 have HSZ := qH (c0j hs 33 ap12)
 have k1 := fun wx => b0I (P := Tryz.prog) wx Tryz.underlying22 b0v (some ⟨b, o, none⟩) 65 cs .i64 33 ap13
 have k2 := fun wx => c0R (P := Tryz.prog) wx Tryz.underlying22 b0v (some ⟨b, o, none⟩) 65 cs .i64 33 ap13
 have hcI : (33 : Int) ≤ (cs : Int) := by omega
 have hcN : ¬ (cs = 33) := by omega
 have HO := qH ho
 have HN := qH hn
 clear hp ht hs hq ho hn hcs
 have st0 := St.start Nob w
 go_enter Tryz.func60, Tryz.ntmps60
 go_wp2_with (with_reducible refine wSk 6 ?_)
 refine a0a st0 rfl rfl m0h (sgC (.slice none 0 0) (.slice none 0 0) 0 0) rfl ?_
 intro g6 w1 st1
 clear st0
 go_wp2_with (with_reducible refine wSk 9 ?_)
 refine b0o rfl rfl Tryz.underlying39 a0Z [.slice ap np cp] rfl (by simp; rfl) rfl rfl ?_
 intro w2 hh2 hf2 hz2
 have st2 := st1.keep hf2
 have HSL := qH hh2
 clear hh2 hf2 hz2 st1
 generalize w1.heap.size = gl9 at *
 go_wp2_with fail
 refine (c0G _ 1 1 [.slice ap np cp] [pub] _ (Rd.whole HSL.out) (BParts.one (a0s (HP.out.still st2.fr))) ap12).mono ?_
 rintro e' w3 ⟨rfl, hf3⟩
 have st3 := st2.keep hf3
 clear st2 hf3
 clear HSL
 rw [HR.out]
 go_wp2_with fail
 refine (b0W _ (s.take 33) _ (a0s (HSF.out.still st3.fr)) HO.out).mono ?_
 rintro e' w4 ⟨rfl, hf4⟩
 have st4 := st3.keep hf4
 clear st3 hf4
 have hz0 := (st4.at 0 rfl).free 0 (by rw [b0M]; decide)
 have hz1 := (st4.at 0 rfl).free 1 (by rw [b0M]; decide)
 have hd0 := (st4.at 0 rfl).cell (i := 0) (v := .slice none 0 0) (by unfold sgC; rfl)
 have hd1 := (st4.at 0 rfl).cell (i := 1) (v := .slice none 0 0) (by unfold sgC; rfl)
 go_wp2_with fail
 go_region
 all_goals
  clear hz0 hz1 hd0 hd1
  go_wp2_with fail
  first
   | (have stn := r0c st4 (.slice ap np cp) (.slice (some ⟨b, o, none⟩) 33 cs); refine (s0h mQ .one _ _ _ (s.drop 33) _ (c0r (HSZ.out.still stn.fr)) HN.out).mono ?_)
   | (have stn := r0d st4 (.slice ap np cp) (.slice (some ⟨b, o, none⟩) 33 cs); refine (s0h mQ .one _ _ _ (s.drop 33) _ (c0r (HSZ.out.still stn.fr)) HN.out).mono ?_)
  all_goals clear st4
  rintro e' w5 ⟨rfl, hf5⟩
  have st5 := stn.keep hf5
  clear stn hf5
  go_wp2_with (with_reducible refine wSn ?_)
  refine c0Q (cs := cw 4 0) rfl rfl rfl rfl (st5.at 0 rfl) (by rw [a0e, b0M]; decide) (d0I _) (a0d _ _) ?_
  intro w6 hg6 hf6 hz6
  rw [u0c] at hg6
  have st6 := st5.put 0 rfl hf6 hg6
  clear st5 hf6 hg6 hz6
  go_wp2_with (with_reducible refine wSk 43 ?_)
  refine a0u st6 0 rfl rfl rfl Tryz.underlying85 rfl rfl (d0k _ _ _ _) ?_
  go_wp2_with (with_reducible refine wSn ?_)
  refine a0b st6 0 rfl rfl rfl rfl rfl (by simp only [b0M]) (d0k _ _ _ _) (d0U _ _ _ _ _ _ _ _) ?_
  intro w7 st7
  clear st6
  have hr := st7.at 0 rfl
  have hfr := st7.fr
  clear st7
  go_wp2_with fail
  exact bodyPost_ret (a0M rfl rfl hr Tryz.underlying85 rfl (d0k _ _ _ _) rfl) rfl ⟨_, rfl, b0M _ _ _ _, d0U _ _ _ _ _ _ _ _, hfr⟩
theorem x0S (ap : Option Addr) (np cp : Nat) (pub : List UInt8) (at_ : Option Addr) (nt ct : Nat) (text : List UInt8) (b o cs : Nat) (s : List UInt8) (w : World) (hp : PartIs w (.slice ap np cp) pub) (ht : PartIs w (.slice at_ nt ct) text) (hs : PartIs w (.slice (some ⟨b, o, none⟩) 65 cs) s) (hq : b0g pub = true) (ho : b0w (s.take 33) = true) (hn : a0N mQ (s.drop 33) = true) : Calls Tryz.prog 60 #[.slice ap np cp, .slice at_ nt ct, .slice (some ⟨b, o, none⟩) 65 cs] w fun e w' => e = .returned (.tuple #[.agg (sgC (.slice ap np cp) (.slice (some ⟨b, o, none⟩) 33 cs) (elN mQ (b0E pub (s.take 33) text)) (elN mQ (beN (s.drop 33)))).toArray, .bool true]) ∧ Fr Nob w w' := by
 have HP := qH hp
 have HT := qH ht
 have HS := qH hs
 have HR := qH (show b0h [pub] = true by rw [c0N]; exact hq)
 have hcs : 65 ≤ cs := by obtain ⟨a', n', c', he, hc, -⟩ := hs; cases he; exact hc
 have HSF := qH (b0Y hs 33 ap12)
 have HSZ := qH (c0j hs 33 ap12)
 have k1 := fun wx => b0I (P := Tryz.prog) wx Tryz.underlying22 b0v (some ⟨b, o, none⟩) 65 cs .i64 33 ap13
 have k2 := fun wx => c0R (P := Tryz.prog) wx Tryz.underlying22 b0v (some ⟨b, o, none⟩) 65 cs .i64 33 ap13
 have hcI : (33 : Int) ≤ (cs : Int) := by omega
 have hcN : ¬ (cs = 33) := by omega
 have HO := qH ho
 have HN := qH hn
 clear hp ht hs hq ho hn hcs
 have st0 := St.start Nob w
 go_enter Tryz.func60, Tryz.ntmps60
 go_wp2_with (with_reducible refine wSk 6 ?_)
 refine a0a st0 rfl rfl m0h (sgC (.slice none 0 0) (.slice none 0 0) 0 0) rfl ?_
 intro g6 w1 st1
 clear st0
 go_wp2_with (with_reducible refine wSk 9 ?_)
 refine b0o rfl rfl Tryz.underlying39 a0Z [.slice ap np cp] rfl (by simp; rfl) rfl rfl ?_
 intro w2 hh2 hf2 hz2
 have st2 := st1.keep hf2
 have HSL := qH hh2
 clear hh2 hf2 hz2 st1
 generalize w1.heap.size = gl9 at *
 go_wp2_with fail
 refine (c0G _ 1 1 [.slice ap np cp] [pub] _ (Rd.whole HSL.out) (BParts.one (a0s (HP.out.still st2.fr))) ap12).mono ?_
 rintro e' w3 ⟨rfl, hf3⟩
 have st3 := st2.keep hf3
 clear st2 hf3
 clear HSL
 rw [HR.out]
 go_wp2_with fail
 refine (b0W _ (s.take 33) _ (a0s (HSF.out.still st3.fr)) HO.out).mono ?_
 rintro e' w4 ⟨rfl, hf4⟩
 have st4 := st3.keep hf4
 clear st3 hf4
 have hz0 := (st4.at 0 rfl).free 0 (by rw [b0M]; decide)
 have hz1 := (st4.at 0 rfl).free 1 (by rw [b0M]; decide)
 have hd0 := (st4.at 0 rfl).cell (i := 0) (v := .slice none 0 0) (by unfold sgC; rfl)
 have hd1 := (st4.at 0 rfl).cell (i := 1) (v := .slice none 0 0) (by unfold sgC; rfl)
 go_wp2_with fail
 go_region
 all_goals
  clear hz0 hz1 hd0 hd1
  go_wp2_with fail
  first
   | (have stn := r0c st4 (.slice ap np cp) (.slice (some ⟨b, o, none⟩) 33 cs); refine (p0G mQ .one _ _ _ (s.drop 33) _ (c0r (HSZ.out.still stn.fr)) HN.out).mono ?_)
   | (have stn := r0d st4 (.slice ap np cp) (.slice (some ⟨b, o, none⟩) 33 cs); refine (p0G mQ .one _ _ _ (s.drop 33) _ (c0r (HSZ.out.still stn.fr)) HN.out).mono ?_)
  all_goals clear st4
  rintro e' w5 ⟨rfl, hf5⟩
  have st5 := stn.keep hf5
  clear stn hf5
  go_wp2_with (with_reducible refine wSn ?_)
  refine c0Q (cs := cw 4 (elN mQ (beN (s.drop 33)))) rfl rfl rfl rfl (st5.at 0 rfl) (by rw [a0e, b0M]; decide) (d0I _) (a0d _ _) ?_
  intro w6 hg6 hf6 hz6
  rw [u0c] at hg6
  have st6 := st5.put 0 rfl hf6 hg6
  clear st5 hf6 hg6 hz6
  have hc1 := (st6.at 0 rfl).cell (i := 1) (v := .slice (some ⟨b, o, none⟩) 33 cs) (by unfold sgC; rfl)
  go_wp2_with fail
  refine (q0M (.slice ap np cp) pub (.slice (some ⟨b, o, none⟩) 33 cs) (s.take 33) (.slice at_ nt ct) text _ (HP.out.still st6.fr) (HSF.out.still st6.fr) (HT.out.still st6.fr)).mono ?_
  rintro e' w7 ⟨rfl, hf7⟩
  have st7 := st6.keep hf7
  clear st6 hf7 hc1
  go_wp2_with (with_reducible refine wSn ?_)
  refine c0Q (cs := cw 4 (elN mQ (b0E pub (s.take 33) text))) rfl rfl rfl rfl (st7.at 0 rfl) (by first | (simp [a0e]; done) | (simp [b0M]; done) | (simp [a0e, b0M]; done) | simp [a0e, b0M]) (d0I _) (a0d _ _) ?_
  intro w8 hg8 hf8 hz8
  rw [x0N] at hg8
  have st8 := st7.put 0 rfl hf8 hg8
  clear st7 hf8 hg8 hz8
  go_wp2_with (with_reducible refine wSk 43 ?_)
  refine a0u st8 0 rfl rfl rfl Tryz.underlying85 rfl rfl (d0k _ _ _ _) ?_
  go_wp2_with (with_reducible refine wSn ?_)
  refine a0b st8 0 rfl rfl rfl rfl rfl (by simp only [b0M]) (d0k _ _ _ _) (d0U _ _ _ _ _ _ _ _) ?_
  intro w9 st9
  clear st8
  have hr := st9.at 0 rfl
  have hfr := st9.fr
  clear st9
  go_wp2_with fail
  exact bodyPost_ret (a0M rfl rfl hr Tryz.underlying85 rfl (d0k _ _ _ _) rfl) rfl ⟨rfl, hfr⟩
end
section
open Go.RowKit Go.Mv Mvp Mvq
theorem n0p : ∀ (xs : List Nat) (lp : List (List UInt8)), (∀ l ∈ lp, b0w l = true) → d0V (List.zipWith (fun x l => (x % mQ.M, a0W l)) xs lp) = d0V (List.zipWith (fun x l => (x, a0W l)) xs lp)
 | [], _, _ => rfl
 | _ :: _, [], _ => rfl
 | x :: xs, l :: lp, h => by
  simp only [List.zipWith_cons_cons, d0V]
  rw [n0p xs lp fun k hk => h k (List.mem_cons_of_mem _ hk), m0e, f0Q (h0U (h l List.mem_cons_self))]
theorem r0e (xs : List Nat) (lp : List (List UInt8)) (hl : xs.length = lp.length) (h5 : xs.length ≤ 512) (hr : ∀ l ∈ lp, b0w l = true) : g0u (zB xs) lp = a0O (d0V (List.zipWith (fun x l => (x, a0W l)) xs lp)) := by
 have hn : a0L mQ (zB xs) = true := by
  unfold a0L zB
  rw [List.all_eq_true]
  intro y hy
  obtain ⟨x, _, rfl⟩ := List.mem_map.1 hy
  exact c0F x
 have hr2 : c0P lp = true := by unfold c0P; rw [List.all_eq_true]; exact hr
 unfold g0u
 rw [if_pos (by rw [n0l]; exact hl), if_pos (by rw [n0l]; exact h5), hn, hr2, if_pos rfl, if_pos rfl, ← n0p xs lp hr]
 congr 2
 apply List.ext_getElem (by simp [smL, hl])
 intro i h1 h2
 simp only [smL, List.length_map, List.length_range] at h1
 have h3 : i < xs.length := by omega
 simp [smL, zB, List.getD_eq_getElem?_getD, h1, h3, g0v]
open Classical in
theorem y0T {p : Pt} : ((((a0O p).getD 0 0).toNat : Int) == 0) = decide (p = .O) := by
 cases p with
 | O => rw [decide_eq_true rfl, wrO]; rfl
 | A x y =>
  have h : (a0O (.A x y)).getD 0 0 = UInt8.ofNat (2 + y.val % 2) := rfl
  have h2 : (UInt8.ofNat (2 + y.val % 2)).toNat = 2 + y.val % 2 := by rw [UInt8.toNat_ofNat']; omega
  rw [h, h2, decide_eq_false (by intro h; cases h)]
  simp
  omega
theorem v0Y {P F : List UInt8} (z c : Nat) (hF : b0w F = true) (hP : b0w P = true) :
  g0u (zB [z, mQ.M - 1 % mQ.M, mQ.M - c % mQ.M]) [a0O gP, F, P] = a0O (a0P (a0v z gP) (a0P (c0U (a0W F)) (c0U (a0v c (a0W P))))) := by
 have hO : b0w (a0O gP) = true := (e0H d0F).1
 rw [r0e _ _ rfl ap14 (by intro l hl; simp only [List.mem_cons, List.not_mem_nil, or_false] at hl; rcases hl with rfl | rfl | rfl <;> assumption)]
 simp only [List.zipWith_cons_cons, List.zipWith_nil_left, d0V]
 rw [(e0H d0F).2, b0n, m0e, q0H (h0U hF), j0r (h0U hP)]
open Classical in
theorem v0Z {P F : List UInt8} (z c : Nat) (hF : b0w F = true) (hP : b0w P = true) :
  ((((a0O (a0P (a0v z gP) (a0P (c0U (a0W F)) (c0U (a0v c (a0W P)))))).getD 0 0).toNat : Int) == 0) = decide (a0v z gP = a0P (a0W F) (a0v c (a0W P))) := by
 rw [y0T]
 have h := v0I (a0w d0F z) (h0U hF) (a0w (h0U hP) c)
 by_cases h2 : a0v z gP = a0P (a0W F) (a0v c (a0W P))
 ·rw [decide_eq_true h2, decide_eq_true (h.2 h2)]
 ·rw [decide_eq_false h2, decide_eq_false (fun h3 => h2 (h.1 h3))]
open Classical in
theorem u0d {pub text s : List UInt8} (h : rdG pub s = true) : veB pub text s = decide (a0v (beN (s.drop 33)) gP = a0P (a0W (s.take 33)) (a0v (b0E pub (s.take 33) text) (a0W pub))) := by
 unfold veB
 unfold rdG at h
 simp only [Bool.and_eq_true] at h
 rw [h.1, h.2.1, h.2.2.1, h.2.2.2]
 rfl
theorem y0H {pub text s : List UInt8} (h : rdG pub s = false) : veB pub text s = false := by
 unfold veB
 unfold rdG at h
 rw [Bool.and_assoc, Bool.and_assoc] at *
 have e : ∀ a b c d e : Bool, (a && (b && (c && d))) = false → (a && (b && (c && (d && e)))) = false := by decide
 simp only [Bool.and_assoc] at *
 exact e _ _ _ _ _ h
theorem e0N {l : List UInt8} (h : b0g l = true) : b0w l = true := by unfold b0g at h; rw [Bool.and_eq_true] at h; exact h.1
theorem e0c {w : World} {a : Option Addr} {n c : Nat} {b : List UInt8} (hb : PartIs w (.slice a n c) b) : b.length = n := (c0r hb).len
theorem w0a (x : Nat) : (i4 x).cells.size = 4 := by simp [i4, Value.cells, a0e]
attribute [local irreducible] a0y lw mix cw b0q b0r b0i beN b0x a0Q a0A a0J elN mdL a0N rtV b0S a0O b0w a0W a0L c0P j0w g0u a0v b0k b0u toB a0z a0E b0s a0H c0n b0l a0F c0z c0B c0b d0H sgF sgZ b0E c0Y c0E chN b0g b0h tS sgC rdG d0V
theorem w0b (ap : Option Addr) (np cp : Nat) (pub : List UInt8) (at_ : Option Addr) (nt ct : Nat) (text : List UInt8) (as_ : Option Addr) (ns cs : Nat) (s : List UInt8) (w : World) (hp : PartIs w (.slice ap np cp) pub) (ht : PartIs w (.slice at_ nt ct) text) (hs : PartIs w (.slice as_ ns cs) s) (h : rdG pub s = false) : Calls Tryz.prog 60 #[.slice ap np cp, .slice at_ nt ct, .slice as_ ns cs] w fun e w' => ∃ cells : List Value, e = .returned (.tuple #[.agg cells.toArray, .bool false]) ∧ cells.length = 10 ∧ (∀ v ∈ cells, v.oneCell' = true) ∧ Fr Nob w w' := by
 have hl := e0c hs
 unfold rdG at h
 cases h1 : b0g pub with
 | false => exact x0O ap np cp pub at_ nt ct text as_ ns cs s w hp ht hs h1
 | true =>
  by_cases h2 : ns = 65
  ·subst h2
   obtain ⟨b, o, rfl, -⟩ := (c0r hs).at ap12
   rw [h1, decide_eq_true hl, Bool.true_and, Bool.true_and] at h
   cases h3 : b0w (s.take 33) with
   | false => exact x0Q ap np cp pub at_ nt ct text b o cs s w hp ht hs h1 h3
   | true =>
    rw [h3, Bool.true_and] at h
    exact x0R ap np cp pub at_ nt ct text b o cs s w hp ht hs h1 h3 h
  ·exact x0P ap np cp pub at_ nt ct text as_ ns cs s w hp ht hs h1 h2
theorem t0q (ap : Option Addr) (np cp : Nat) (pub : List UInt8) (at_ : Option Addr) (nt ct : Nat) (text : List UInt8) (as_ : Option Addr) (ns cs : Nat) (s : List UInt8) (w : World) (hp : PartIs w (.slice ap np cp) pub) (ht : PartIs w (.slice at_ nt ct) text) (hs : PartIs w (.slice as_ ns cs) s) (h : rdG pub s = true) : Calls Tryz.prog 60 #[.slice ap np cp, .slice at_ nt ct, .slice as_ ns cs] w fun e w' => ∃ b o, as_ = some ⟨b, o, none⟩ ∧ e = .returned (.tuple #[.agg (sgC (.slice ap np cp) (.slice (some ⟨b, o, none⟩) 33 cs) (elN mQ (b0E pub (s.take 33) text)) (elN mQ (beN (s.drop 33)))).toArray, .bool true]) ∧ Fr Nob w w' := by
 have hl := e0c hs
 unfold rdG at h
 simp only [Bool.and_eq_true, decide_eq_true_eq] at h
 obtain rfl : ns = 65 := by omega
 obtain ⟨b, o, rfl, -⟩ := (c0r hs).at ap12
 exact (x0S ap np cp pub at_ nt ct text b o cs s w hp ht hs h.1 h.2.2.1 h.2.2.2).mono fun e w' k => ⟨b, o, rfl, k⟩
theorem _root_.ap7 {p : Prop} (h : p := by go_simp; try with_reducible rfl) : p := h
theorem r0f (ap : Option Addr) (np cp : Nat) (pub : List UInt8) (at_ : Option Addr) (nt ct : Nat) (text : List UInt8) (as_ : Option Addr) (ns cs : Nat) (s : List UInt8) (w : World) (hp : PartIs w (.slice ap np cp) pub) (ht : PartIs w (.slice at_ nt ct) text) (hs : PartIs w (.slice as_ ns cs) s) (h : rdG pub s = false) : Calls Tryz.prog 17 #[.slice ap np cp, .slice at_ nt ct, .slice as_ ns cs] w fun e w' => e = .returned (.bool false) ∧ Fr Nob w w' := by
 have HP := qH hp
 have HT := qH ht
 have HS := qH hs
 have HG := qH h
 clear hp ht hs h
 have st0 := St.start Nob w
 go_enter Tryz.func17, Tryz.ntmps17
 go_wp2_with fail
 refine (w0b ap np cp pub at_ nt ct text as_ ns cs s _ HP.out HT.out HS.out HG.out).mono ?_
 rintro e' w1 ⟨cells, rfl, hl, hone, hf1⟩
 have st1 := st0.keep hf1
 clear st0 hf1
 have HL := qH hl
 have HONE := qH hone
 clear hl hone
 go_wp2_with (with_reducible refine wSk 7 ?_)
 refine a0a st1 rfl rfl m0h (sgC (.slice none 0 0) (.slice none 0 0) 0 0) rfl ?_
 intro g7 w2 st2
 clear st1
 go_wp2_with (with_reducible refine wSn ?_)
 refine a0b (cs := cells) st2 0 rfl rfl rfl rfl rfl (by rw [HL.out, b0M]) (by rw [HL.out]; kernel_rfl) HONE.out ?_
 intro w3 st3
 clear st2
 go_wp2_with fail
 refine wp_region_noPanic ?_
 have hd3 := st3.drew
 clear st3
 refine d0T (fun wx => St Nob w wx [(g7, cells, 85)] ∧ Fr Nob (World.drew _) wx) [0, 1, 2, 3, 4, 5, 6, 7, 8, 9, 10, 11, 12, 13, 14, 15, 16, 17] [] (fun i => match i with | 0 => [] | 1 => [0] | 2 => [1] | 3 => [1] | 4 => [1] | 5 => [1] | 6 => [1] | 7 => [1] | 8 => [1] | 9 => [1] | 10 => [1] | 11 => [1] | 12 => [1] | 13 => [1] | 14 => [1] | 15 => [1] | 16 => [1] | 17 => [1] | _ => []) (fun i x wx => match i with | 0 => x 0 = .bool false | 1 => x 1 = .bool false | 2 => True | 3 => True | 4 => True | 5 => True | 6 => True | 7 => True | 8 => True | 9 => True | 10 => True | 11 => True | 12 => True | 13 => True | 14 => True | 15 => True | 16 => True | 17 => True | _ => True) 19 (.w 18 (.m 19 .nil)) ?_ (fun x => ?_) ap11 ap11 (fun _ _ _ _ _ h => h) ⟨hd3, Fr.refl _ _⟩ (fun _ _ h k => ⟨h.1.keep k, h.2.then k⟩) ?_ ?_
 rotate_left 1
 ·simp only [g0g, u0b, Act.put, List.getElem?_toArray, List.getElem?_cons_zero, List.getElem?_cons_succ, List.setIfInBounds_toArray, List.set_cons_zero, List.set_cons_succ]
  exact rfl
 refine b0a rfl rfl (fun x wx hG hp => ?_) (fun y _ _ h k => h) ?_
 ·try dsimp only
  clear hp
  exact d0L (v := .bool false) ap7 rfl
 refine b0a rfl rfl (fun x wx hG hp => ?_) (fun y _ _ h k => h) ?_
 ·try dsimp only
  have e0 : x 0 = .bool false := hp 0 ap12
  generalize x 0 = v0 at e0 ⊢
  subst e0
  clear hp
  exact d0L (v := .bool false) ap7 rfl
 refine b0z rfl rfl (fun x wx hG hp => ?_) (fun _ _ => trivial) ?_
 ·try dsimp only
  have e1 : x 1 = .bool false := hp 1 ap12
  generalize x 1 = v1 at e1 ⊢
  subst e1
  clear hp
  rfl
 refine b0z rfl rfl (fun x wx hG hp => ?_) (fun _ _ => trivial) ?_
 ·try dsimp only
  have e1 : x 1 = .bool false := hp 1 ap12
  generalize x 1 = v1 at e1 ⊢
  subst e1
  clear hp
  rfl
 refine b0z rfl rfl (fun x wx hG hp => ?_) (fun _ _ => trivial) ?_
 ·try dsimp only
  have e1 : x 1 = .bool false := hp 1 ap12
  generalize x 1 = v1 at e1 ⊢
  subst e1
  clear hp
  rfl
 refine b0z rfl rfl (fun x wx hG hp => ?_) (fun _ _ => trivial) ?_
 ·try dsimp only
  have e1 : x 1 = .bool false := hp 1 ap12
  generalize x 1 = v1 at e1 ⊢
  subst e1
  clear hp
  rfl
 refine b0z rfl rfl (fun x wx hG hp => ?_) (fun _ _ => trivial) ?_
 ·try dsimp only
  have e1 : x 1 = .bool false := hp 1 ap12
  generalize x 1 = v1 at e1 ⊢
  subst e1
  clear hp
  rfl
 refine b0z rfl rfl (fun x wx hG hp => ?_) (fun _ _ => trivial) ?_
 ·try dsimp only
  have e1 : x 1 = .bool false := hp 1 ap12
  generalize x 1 = v1 at e1 ⊢
  subst e1
  clear hp
  rfl
 refine b0z rfl rfl (fun x wx hG hp => ?_) (fun _ _ => trivial) ?_
 ·try dsimp only
  have e1 : x 1 = .bool false := hp 1 ap12
  generalize x 1 = v1 at e1 ⊢
  subst e1
  clear hp
  rfl
 refine b0z rfl rfl (fun x wx hG hp => ?_) (fun _ _ => trivial) ?_
 ·try dsimp only
  have e1 : x 1 = .bool false := hp 1 ap12
  generalize x 1 = v1 at e1 ⊢
  subst e1
  clear hp
  rfl
 refine b0z rfl rfl (fun x wx hG hp => ?_) (fun _ _ => trivial) ?_
 ·try dsimp only
  have e1 : x 1 = .bool false := hp 1 ap12
  generalize x 1 = v1 at e1 ⊢
  subst e1
  clear hp
  rfl
 refine b0z rfl rfl (fun x wx hG hp => ?_) (fun _ _ => trivial) ?_
 ·try dsimp only
  have e1 : x 1 = .bool false := hp 1 ap12
  generalize x 1 = v1 at e1 ⊢
  subst e1
  clear hp
  rfl
 refine b0z rfl rfl (fun x wx hG hp => ?_) (fun _ _ => trivial) ?_
 ·try dsimp only
  have e1 : x 1 = .bool false := hp 1 ap12
  generalize x 1 = v1 at e1 ⊢
  subst e1
  clear hp
  rfl
 refine b0z rfl rfl (fun x wx hG hp => ?_) (fun _ _ => trivial) ?_
 ·try dsimp only
  have e1 : x 1 = .bool false := hp 1 ap12
  generalize x 1 = v1 at e1 ⊢
  subst e1
  clear hp
  rfl
 refine b0z rfl rfl (fun x wx hG hp => ?_) (fun _ _ => trivial) ?_
 ·try dsimp only
  have e1 : x 1 = .bool false := hp 1 ap12
  generalize x 1 = v1 at e1 ⊢
  subst e1
  clear hp
  rfl
 refine b0z rfl rfl (fun x wx hG hp => ?_) (fun _ _ => trivial) ?_
 ·try dsimp only
  have e1 : x 1 = .bool false := hp 1 ap12
  generalize x 1 = v1 at e1 ⊢
  subst e1
  clear hp
  rfl
 refine b0z rfl rfl (fun x wx hG hp => ?_) (fun _ _ => trivial) ?_
 ·try dsimp only
  have e1 : x 1 = .bool false := hp 1 ap12
  generalize x 1 = v1 at e1 ⊢
  subst e1
  clear hp
  rfl
 refine b0z rfl rfl (fun x wx hG hp => ?_) (fun _ _ => trivial) ?_
 ·try dsimp only
  have e1 : x 1 = .bool false := hp 1 ap12
  generalize x 1 = v1 at e1 ⊢
  subst e1
  clear hp
  rfl
 exact trivial
 intro x w4 hG hp
 try dsimp only
 have e1 : x 1 = .bool false := hp 1 ap12
 generalize x 1 = v1 at e1 ⊢
 subst e1
 clear hp
 generalize x 0 = v0
 generalize x 2 = v2
 generalize x 3 = v3
 generalize x 4 = v4
 generalize x 5 = v5
 generalize x 6 = v6
 generalize x 7 = v7
 generalize x 8 = v8
 generalize x 9 = v9
 generalize x 10 = v10
 generalize x 11 = v11
 generalize x 12 = v12
 generalize x 13 = v13
 generalize x 14 = v14
 generalize x 15 = v15
 generalize x 16 = v16
 generalize x 17 = v17
 have st4 := hG.1
 clear hG hd3
 refine a0c rfl rfl apW ?_
 try simp only [clL]
 refine a0p rfl rfl ?_
 go_simp
 try simp only [clL]
 refine a0f ?_
 refine NoPanic.normal ?_
 have hfr := st4.fr
 clear st4
 go_wp2_with fail
 go_ret
 exact ⟨rfl, hfr⟩
theorem BParts.three {w : World} {v1 v2 v3 : Value} {l1 l2 l3 : List UInt8} (h1 : BPart w v1 l1) (h2 : BPart w v2 l2) (h3 : BPart w v3 l3) : BParts w [v1, v2, v3] [l1, l2, l3] := ⟨rfl, fun i x hx => by
 match i with
 | 0 => simp at hx; subst hx; exact h1
 | 1 => simp at hx; subst hx; exact h2
 | 2 => simp at hx; subst hx; exact h3
 | i + 3 => simp at hx⟩
theorem o0r (ap : Option Addr) (np cp : Nat) (pub : List UInt8) (at_ : Option Addr) (nt ct : Nat) (text : List UInt8) (as_ : Option Addr) (ns cs : Nat) (s : List UInt8) (w : World) (hp : PartIs w (.slice ap np cp) pub) (ht : PartIs w (.slice at_ nt ct) text) (hs : PartIs w (.slice as_ ns cs) s) (h : rdG pub s = true) : Calls Tryz.prog 17 #[.slice ap np cp, .slice at_ nt ct, .slice as_ ns cs] w fun e w' => e = .returned (.bool (veB pub text s)) ∧ Fr Nob w w' := by
 have HP := qH hp
 have HT := qH ht
 have HS := qH hs
 have HG := qH h
 clear hp ht hs h
 have st0 := St.start Nob w
 go_enter Tryz.func17, Tryz.ntmps17
 go_wp2_with fail
 refine (t0q ap np cp pub at_ nt ct text as_ ns cs s _ HP.out HT.out HS.out HG.out).mono ?_
 rintro e' w1 ⟨b, o, rfl, rfl, hf1⟩
 have st1 := st0.keep hf1
 clear st0 hf1
 go_wp2_with (with_reducible refine wSk 7 ?_)
 refine a0a st1 rfl rfl m0h (sgC (.slice none 0 0) (.slice none 0 0) 0 0) rfl ?_
 intro g7 w2 st2
 clear st1
 go_wp2_with (with_reducible refine wSn ?_)
 refine a0b (cs := sgC (.slice ap np cp) (.slice (some ⟨b, o, none⟩) 33 cs) (elN mQ (b0E pub (s.take 33) text)) (elN mQ (beN (s.drop 33)))) st2 0 rfl rfl rfl rfl rfl (by simp only [b0M]) (d0k _ _ _ _) (d0U _ _ _ _ _ _ _ _) ?_
 intro w3 st3
 clear st2
 have HSF := qH (b0Y HS.out 33 (by have h := HG.out; have h2 := e0c HS.out; unfold rdG at h; simp only [Bool.and_eq_true, decide_eq_true_eq] at h; omega))
 obtain ⟨B, hB⟩ : ∃ B, (((((a0O (a0P (a0v (beN (s.drop 33)) gP) (a0P (c0U (a0W (s.take 33))) (c0U (a0v (b0E pub (s.take 33) text) (a0W pub))))))).getD 0 0).toNat : Int) == 0) = B := ⟨_, rfl⟩
 have HB := qH hB
 clear hB HT HS
 have HVS := qH (show g0u (zB [beN (s.drop 33), (mQ.M - 1 % mQ.M), (mQ.M - (b0E pub (s.take 33) text) % mQ.M)]) [a0O gP, s.take 33, pub] = (a0O (a0P (a0v (beN (s.drop 33)) gP) (a0P (c0U (a0W (s.take 33))) (c0U (a0v (b0E pub (s.take 33) text) (a0W pub)))))) from v0Y _ _ (by have h := HG.out; unfold rdG at h; simp only [Bool.and_eq_true] at h; exact h.2.2.1) (by have h := HG.out; unfold rdG at h; simp only [Bool.and_eq_true] at h; exact e0N h.1))
 have HDB := qH (show B = veB pub text s by rw [← HB.out, u0d HG.out]; exact v0Z _ _ (by have h := HG.out; unfold rdG at h; simp only [Bool.and_eq_true] at h; exact h.2.2.1) (by have h := HG.out; unfold rdG at h; simp only [Bool.and_eq_true] at h; exact e0N h.1))
 go_wp2_with fail
 refine wp_region_noPanic ?_
 have hd3 := st3.drew
 clear st3
 refine d0T (fun wx => St Nob w wx [(g7, sgC (.slice ap np cp) (.slice (some ⟨b, o, none⟩) 33 cs) (elN mQ (b0E pub (s.take 33) text)) (elN mQ (beN (s.drop 33))), 85)] ∧ Fr Nob (World.drew _) wx) [0, 1, 2, 3, 4, 5, 6, 7, 8, 9, 10, 11, 12, 13, 14, 15, 16, 17] [] (fun i => match i with | 0 => [] | 1 => [0] | 2 => [1] | 3 => [2, 1] | 4 => [1] | 5 => [4, 1] | 6 => [1] | 7 => [6, 1] | 8 => [7, 1] | 9 => [3, 5, 8, 1] | 10 => [1] | 11 => [1] | 12 => [11, 1] | 13 => [1] | 14 => [13, 1] | 15 => [10, 12, 14, 1] | 16 => [9, 15, 1] | 17 => [16, 1] | _ => []) (fun i x wx => match i with | 0 => x 0 = .bool true | 1 => x 1 = .bool true | 2 => x 2 = .pointer (some ⟨g7, 6, none⟩) | 3 => x 3 = i4 (elN mQ (beN (s.drop 33))) | 4 => x 4 = i4 (elN mQ 1) | 5 => x 5 = i4 (elN mQ (mQ.M - 1 % mQ.M)) | 6 => x 6 = .pointer (some ⟨g7, 2, none⟩) | 7 => x 7 = i4 (elN mQ (b0E pub (s.take 33) text)) | 8 => x 8 = i4 (elN mQ (mQ.M - (b0E pub (s.take 33) text) % mQ.M)) | 9 => ∃ g, x 9 = .slice (some ⟨g, 0, none⟩) 3 3 ∧ Has wx g (c0b [beN (s.drop 33), (mQ.M - 1 % mQ.M), (mQ.M - (b0E pub (s.take 33) text) % mQ.M)]) 68 | 10 => ∃ y : Option Addr × Nat, x 10 = .slice y.1 33 y.2 ∧ BPart wx (.slice y.1 33 y.2) (a0O gP) | 11 => x 11 = .pointer (some ⟨g7, 1, none⟩) | 12 => x 12 = .slice (some ⟨b, o, none⟩) 33 cs | 13 => x 13 = .pointer (some ⟨g7, 0, none⟩) | 14 => x 14 = .slice ap np cp | 15 => ∃ (g : Nat) (y : Option Addr × Nat), x 15 = .slice (some ⟨g, 0, none⟩) 3 3 ∧ Has wx g [.slice y.1 33 y.2, .slice (some ⟨b, o, none⟩) 33 cs, .slice ap np cp] 22 ∧ BPart wx (.slice y.1 33 y.2) (a0O gP) | 16 => ∃ y : Option Addr × Nat, x 16 = .slice y.1 33 y.2 ∧ RdB wx y.1 33 (a0O (a0P (a0v (beN (s.drop 33)) gP) (a0P (c0U (a0W (s.take 33))) (c0U (a0v (b0E pub (s.take 33) text) (a0W pub)))))) | 17 => x 17 = .bool B | _ => True) 19 (.w 18 (.m 19 .nil)) ?_ (fun x => ?_) ap11 ap11 (fun _ _ _ _ _ h => h) ⟨hd3, Fr.refl _ _⟩ (fun _ _ h k => ⟨h.1.keep k, h.2.then k⟩) ?_ ?_
 rotate_left 1
 ·simp only [g0g, u0b, Act.put, List.getElem?_toArray, List.getElem?_cons_zero, List.getElem?_cons_succ, List.setIfInBounds_toArray, List.set_cons_zero, List.set_cons_succ]
  exact rfl
 refine b0a rfl rfl (fun x wx hG hp => ?_) (fun y _ _ h k => h) ?_
 ·try dsimp only
  clear hp
  exact d0L (v := .bool true) ap7 rfl
 refine b0a rfl rfl (fun x wx hG hp => ?_) (fun y _ _ h k => h) ?_
 ·try dsimp only
  have e0 : x 0 = .bool true := hp 0 ap12
  generalize x 0 = v0 at e0 ⊢
  subst e0
  clear hp
  exact d0L (v := .bool true) ap7 rfl
 refine b0e rfl rfl (fun x wx hG hp => ?_) (fun x wx hG hp => ?_) (fun y _ _ h k => h) ?_
 ·try dsimp only
  have e1 : x 1 = .bool true := hp 1 ap12
  generalize x 1 = v1 at e1 ⊢
  subst e1
  clear hp
  rfl
 ·try dsimp only
  have e1 : x 1 = .bool true := hp 1 ap12
  generalize x 1 = v1 at e1 ⊢
  subst e1
  clear hp
  exact d0L (v := .pointer (some ⟨g7, 6, none⟩)) ap7 rfl
 refine b0e rfl rfl (fun x wx hG hp => ?_) (fun x wx hG hp => ?_) (fun y _ _ h k => h) ?_
 ·try dsimp only
  have e1 : x 1 = .bool true := hp 1 ap12
  generalize x 1 = v1 at e1 ⊢
  subst e1
  clear hp
  rfl
 ·try dsimp only
  have e2 : x 2 = .pointer (some ⟨g7, 6, none⟩) := hp 2 ap12
  generalize x 2 = v2 at e2 ⊢
  subst e2
  have e1 : x 1 = .bool true := hp 1 ap12
  generalize x 1 = v1 at e1 ⊢
  subst e1
  clear hp
  exact d0L (v := i4 (elN mQ (beN (s.drop 33)))) (c0L (hG.1.at 0 rfl) (x := .tmp 18) (p := 6) rfl rfl (cw 4 (elN mQ (beN (s.drop 33)))) (y0G _ _ _ _) Tryz.underlying68 rfl (d0I _)) rfl
 refine b0e rfl rfl (fun x wx hG hp => ?_) (fun x wx hG hp => ?_) (fun y _ _ h k => h) ?_
 ·try dsimp only
  have e1 : x 1 = .bool true := hp 1 ap12
  generalize x 1 = v1 at e1 ⊢
  subst e1
  clear hp
  rfl
 ·try dsimp only
  have e1 : x 1 = .bool true := hp 1 ap12
  generalize x 1 = v1 at e1 ⊢
  subst e1
  clear hp
  refine f0c rfl Tryz.call63 (vs := [.int .u64 1]) rfl ?_
  refine (i0o mQ .one 1 ap12 _).mono ?_
  rintro e w' ⟨rfl, hf⟩
  exact ⟨_, rfl, hf, rfl⟩
 refine b0e rfl rfl (fun x wx hG hp => ?_) (fun x wx hG hp => ?_) (fun y _ _ h k => h) ?_
 ·try dsimp only
  have e1 : x 1 = .bool true := hp 1 ap12
  generalize x 1 = v1 at e1 ⊢
  subst e1
  clear hp
  rfl
 ·try dsimp only
  have e4 : x 4 = i4 (elN mQ 1) := hp 4 ap12
  generalize x 4 = v4 at e4 ⊢
  subst e4
  have e1 : x 1 = .bool true := hp 1 ap12
  generalize x 1 = v1 at e1 ⊢
  subst e1
  clear hp
  refine f0c rfl Tryz.call64 (vs := [i4 (elN mQ 1)]) rfl ?_
  refine (j0x mQ .one 1 _).mono ?_
  rintro e w' ⟨rfl, hf⟩
  exact ⟨_, rfl, hf, rfl⟩
 refine b0e rfl rfl (fun x wx hG hp => ?_) (fun x wx hG hp => ?_) (fun y _ _ h k => h) ?_
 ·try dsimp only
  have e1 : x 1 = .bool true := hp 1 ap12
  generalize x 1 = v1 at e1 ⊢
  subst e1
  clear hp
  rfl
 ·try dsimp only
  have e1 : x 1 = .bool true := hp 1 ap12
  generalize x 1 = v1 at e1 ⊢
  subst e1
  clear hp
  exact d0L (v := .pointer (some ⟨g7, 2, none⟩)) ap7 rfl
 refine b0e rfl rfl (fun x wx hG hp => ?_) (fun x wx hG hp => ?_) (fun y _ _ h k => h) ?_
 ·try dsimp only
  have e1 : x 1 = .bool true := hp 1 ap12
  generalize x 1 = v1 at e1 ⊢
  subst e1
  clear hp
  rfl
 ·try dsimp only
  have e6 : x 6 = .pointer (some ⟨g7, 2, none⟩) := hp 6 ap12
  generalize x 6 = v6 at e6 ⊢
  subst e6
  have e1 : x 1 = .bool true := hp 1 ap12
  generalize x 1 = v1 at e1 ⊢
  subst e1
  clear hp
  exact d0L (v := i4 (elN mQ (b0E pub (s.take 33) text))) (c0L (hG.1.at 0 rfl) (x := .tmp 22) (p := 2) rfl rfl (cw 4 (elN mQ (b0E pub (s.take 33) text))) (y0F _ _ _ _) Tryz.underlying68 rfl (d0I _)) rfl
 refine b0e rfl rfl (fun x wx hG hp => ?_) (fun x wx hG hp => ?_) (fun y _ _ h k => h) ?_
 ·try dsimp only
  have e1 : x 1 = .bool true := hp 1 ap12
  generalize x 1 = v1 at e1 ⊢
  subst e1
  clear hp
  rfl
 ·try dsimp only
  have e7 : x 7 = i4 (elN mQ (b0E pub (s.take 33) text)) := hp 7 ap12
  generalize x 7 = v7 at e7 ⊢
  subst e7
  have e1 : x 1 = .bool true := hp 1 ap12
  generalize x 1 = v1 at e1 ⊢
  subst e1
  clear hp
  refine f0c rfl Tryz.call64 (vs := [i4 (elN mQ (b0E pub (s.take 33) text))]) rfl ?_
  refine (j0x mQ .one (b0E pub (s.take 33) text) _).mono ?_
  rintro e w' ⟨rfl, hf⟩
  exact ⟨_, rfl, hf, rfl⟩
 refine b0e rfl rfl (fun x wx hG hp => ?_) (fun x wx hG hp => ?_) (fun y _ _ h k => by obtain ⟨g, h1, h2⟩ := h; exact ⟨g, h1, h2.keep k id⟩) ?_
 ·try dsimp only
  have e1 : x 1 = .bool true := hp 1 ap12
  generalize x 1 = v1 at e1 ⊢
  subst e1
  clear hp
  rfl
 ·try dsimp only
  have e3 : x 3 = i4 (elN mQ (beN (s.drop 33))) := hp 3 ap12
  generalize x 3 = v3 at e3 ⊢
  subst e3
  have e5 : x 5 = i4 (elN mQ (mQ.M - 1 % mQ.M)) := hp 5 ap12
  generalize x 5 = v5 at e5 ⊢
  subst e5
  have e8 : x 8 = i4 (elN mQ (mQ.M - (b0E pub (s.take 33) text) % mQ.M)) := hp 8 ap12
  generalize x 8 = v8 at e8 ⊢
  subst e8
  have e1 : x 1 = .bool true := hp 1 ap12
  generalize x 1 = v1 at e1 ⊢
  subst e1
  clear hp
  refine g0O rfl Tryz.underlying93 k0l [i4 (elN mQ (beN (s.drop 33))), i4 (elN mQ (mQ.M - 1 % mQ.M)), i4 (elN mQ (mQ.M - (b0E pub (s.take 33) text) % mQ.M))] rfl (by intro u hu; simp only [List.mem_cons, List.not_mem_nil, or_false] at hu; rcases hu with rfl | rfl | rfl <;> exact w0a _) rfl (c0b [beN (s.drop 33), (mQ.M - 1 % mQ.M), (mQ.M - (b0E pub (s.take 33) text) % mQ.M)]) (by unfold c0b; simp [g0D]) (fun g w' _ _ hg => ⟨g, rfl, hg⟩)
 refine b0e rfl rfl (fun x wx hG hp => ?_) (fun x wx hG hp => ?_) (fun y _ _ h k => by obtain ⟨y, h1, h2⟩ := h; exact ⟨y, h1, h2.still k⟩) ?_
 ·try dsimp only
  have e1 : x 1 = .bool true := hp 1 ap12
  generalize x 1 = v1 at e1 ⊢
  subst e1
  clear hp
  rfl
 ·try dsimp only
  have e1 : x 1 = .bool true := hp 1 ap12
  generalize x 1 = v1 at e1 ⊢
  subst e1
  clear hp
  refine f0c rfl Tryz.call29 (vs := []) rfl ?_
  refine (h0F _).mono ?_
  rintro e w' ⟨y, rfl, hb, hf⟩
  exact ⟨_, rfl, hf, y, rfl, hb⟩
 refine b0e rfl rfl (fun x wx hG hp => ?_) (fun x wx hG hp => ?_) (fun y _ _ h k => h) ?_
 ·try dsimp only
  have e1 : x 1 = .bool true := hp 1 ap12
  generalize x 1 = v1 at e1 ⊢
  subst e1
  clear hp
  rfl
 ·try dsimp only
  have e1 : x 1 = .bool true := hp 1 ap12
  generalize x 1 = v1 at e1 ⊢
  subst e1
  clear hp
  exact d0L (v := .pointer (some ⟨g7, 1, none⟩)) ap7 rfl
 refine b0e rfl rfl (fun x wx hG hp => ?_) (fun x wx hG hp => ?_) (fun y _ _ h k => h) ?_
 ·try dsimp only
  have e1 : x 1 = .bool true := hp 1 ap12
  generalize x 1 = v1 at e1 ⊢
  subst e1
  clear hp
  rfl
 ·try dsimp only
  have e11 : x 11 = .pointer (some ⟨g7, 1, none⟩) := hp 11 ap12
  generalize x 11 = v11 at e11 ⊢
  subst e11
  have e1 : x 1 = .bool true := hp 1 ap12
  generalize x 1 = v1 at e1 ⊢
  subst e1
  clear hp
  have hc := (hG.1.at 0 rfl).cell (i := 1) (v := .slice (some ⟨b, o, none⟩) 33 cs) (by unfold sgC; rfl)
  exact d0L (v := .slice (some ⟨b, o, none⟩) 33 cs) (by clear hG; go_simp; try with_reducible rfl) rfl
 refine b0e rfl rfl (fun x wx hG hp => ?_) (fun x wx hG hp => ?_) (fun y _ _ h k => h) ?_
 ·try dsimp only
  have e1 : x 1 = .bool true := hp 1 ap12
  generalize x 1 = v1 at e1 ⊢
  subst e1
  clear hp
  rfl
 ·try dsimp only
  have e1 : x 1 = .bool true := hp 1 ap12
  generalize x 1 = v1 at e1 ⊢
  subst e1
  clear hp
  exact d0L (v := .pointer (some ⟨g7, 0, none⟩)) ap7 rfl
 refine b0e rfl rfl (fun x wx hG hp => ?_) (fun x wx hG hp => ?_) (fun y _ _ h k => h) ?_
 ·try dsimp only
  have e1 : x 1 = .bool true := hp 1 ap12
  generalize x 1 = v1 at e1 ⊢
  subst e1
  clear hp
  rfl
 ·try dsimp only
  have e13 : x 13 = .pointer (some ⟨g7, 0, none⟩) := hp 13 ap12
  generalize x 13 = v13 at e13 ⊢
  subst e13
  have e1 : x 1 = .bool true := hp 1 ap12
  generalize x 1 = v1 at e1 ⊢
  subst e1
  clear hp
  have hc := (hG.1.at 0 rfl).cell (i := 0) (v := .slice ap np cp) (by unfold sgC; rfl)
  exact d0L (v := .slice ap np cp) (by clear hG; go_simp; try with_reducible rfl) rfl
 refine b0e rfl rfl (fun x wx hG hp => ?_) (fun x wx hG hp => ?_) (fun y _ _ h k => by obtain ⟨g, y, h1, h2, h3⟩ := h; exact ⟨g, y, h1, h2.keep k id, h3.still k⟩) ?_
 ·try dsimp only
  have e1 : x 1 = .bool true := hp 1 ap12
  generalize x 1 = v1 at e1 ⊢
  subst e1
  clear hp
  rfl
 ·try dsimp only
  have e10 : ∃ y : Option Addr × Nat, x 10 = .slice y.1 33 y.2 ∧ BPart wx (.slice y.1 33 y.2) (a0O gP) := hp 10 ap12
  obtain ⟨yb, e10, HYB⟩ := e10
  generalize x 10 = v10 at e10 ⊢
  subst e10
  have e12 : x 12 = .slice (some ⟨b, o, none⟩) 33 cs := hp 12 ap12
  generalize x 12 = v12 at e12 ⊢
  subst e12
  have e14 : x 14 = .slice ap np cp := hp 14 ap12
  generalize x 14 = v14 at e14 ⊢
  subst e14
  have e1 : x 1 = .bool true := hp 1 ap12
  generalize x 1 = v1 at e1 ⊢
  subst e1
  clear hp
  refine g0O rfl Tryz.underlying39 a0Z [.slice yb.1 33 yb.2, .slice (some ⟨b, o, none⟩) 33 cs, .slice ap np cp] rfl (by intro u hu; simp only [List.mem_cons, List.not_mem_nil, or_false] at hu; rcases hu with rfl | rfl | rfl <;> rfl) rfl [.slice yb.1 33 yb.2, .slice (some ⟨b, o, none⟩) 33 cs, .slice ap np cp] rfl (fun g w' hf _ hg => ⟨g, yb, rfl, hg, HYB.still hf⟩)
 refine b0e rfl rfl (fun x wx hG hp => ?_) (fun x wx hG hp => ?_) (fun y _ _ h k => by obtain ⟨y, h1, h2⟩ := h; exact ⟨y, h1, h2.still k⟩) ?_
 ·try dsimp only
  have e1 : x 1 = .bool true := hp 1 ap12
  generalize x 1 = v1 at e1 ⊢
  subst e1
  clear hp
  rfl
 ·try dsimp only
  have e9 : ∃ g, x 9 = .slice (some ⟨g, 0, none⟩) 3 3 ∧ Has wx g (c0b [beN (s.drop 33), (mQ.M - 1 % mQ.M), (mQ.M - (b0E pub (s.take 33) text) % mQ.M)]) 68 := hp 9 ap12
  obtain ⟨ga, e9, HGA⟩ := e9
  generalize x 9 = v9 at e9 ⊢
  subst e9
  have e15 : ∃ (g : Nat) (y : Option Addr × Nat), x 15 = .slice (some ⟨g, 0, none⟩) 3 3 ∧ Has wx g [.slice y.1 33 y.2, .slice (some ⟨b, o, none⟩) 33 cs, .slice ap np cp] 22 ∧ BPart wx (.slice y.1 33 y.2) (a0O gP) := hp 15 ap12
  obtain ⟨gb, yc, e15, HGB, HYC⟩ := e15
  generalize x 15 = v15 at e15 ⊢
  subst e15
  have e1 : x 1 = .bool true := hp 1 ap12
  generalize x 1 = v1 at e1 ⊢
  subst e1
  clear hp
  refine f0c rfl Tryz.call62 (vs := [.slice (some ⟨ga, 0, none⟩) 3 3, .slice (some ⟨gb, 0, none⟩) 3 3]) rfl ?_
  refine (t0k (some ⟨ga, 0, none⟩) 3 [beN (s.drop 33), (mQ.M - 1 % mQ.M), (mQ.M - (b0E pub (s.take 33) text) % mQ.M)] (some ⟨gb, 0, none⟩) 3 [.slice yc.1 33 yc.2, .slice (some ⟨b, o, none⟩) 33 cs, .slice ap np cp] [a0O gP, s.take 33, pub] _ (by have h := Rd.whole HGA; rwa [e0W] at h) ap14 (Rd.whole HGB) (BParts.three HYC (a0s (HSF.out.still hG.1.fr)) (a0s (HP.out.still hG.1.fr)))).mono ?_
  rintro e w' ⟨v, rfl, ho, hf⟩
  rw [HVS.out] at ho
  obtain ⟨a, c, rfl, hc, hr, -⟩ := Own.form ho
  rw [b0b] at hr ⊢
  exact ⟨_, rfl, hf, (a, c), rfl, hr⟩
 refine b0e rfl rfl (fun x wx hG hp => ?_) (fun x wx hG hp => ?_) (fun y _ _ h k => h) ?_
 ·try dsimp only
  have e1 : x 1 = .bool true := hp 1 ap12
  generalize x 1 = v1 at e1 ⊢
  subst e1
  clear hp
  rfl
 ·try dsimp only
  have e16 : ∃ y : Option Addr × Nat, x 16 = .slice y.1 33 y.2 ∧ RdB wx y.1 33 (a0O (a0P (a0v (beN (s.drop 33)) gP) (a0P (c0U (a0W (s.take 33))) (c0U (a0v (b0E pub (s.take 33) text) (a0W pub)))))) := hp 16 ap12
  obtain ⟨yd, e16, HYD⟩ := e16
  generalize x 16 = v16 at e16 ⊢
  subst e16
  have e1 : x 1 = .bool true := hp 1 ap12
  generalize x 1 = v1 at e1 ⊢
  subst e1
  clear hp
  refine f0c rfl Tryz.call61 (vs := [.slice yd.1 33 yd.2]) rfl ?_
  refine (m0f yd.1 yd.2 (a0O (a0P (a0v (beN (s.drop 33)) gP) (a0P (c0U (a0W (s.take 33))) (c0U (a0v (b0E pub (s.take 33) text) (a0W pub)))))) (b0b _) _ HYD B HB.out).mono ?_
  rintro e w' ⟨rfl, rfl⟩
  exact ⟨_, rfl, Fr.refl _ _, rfl⟩
 exact trivial
 intro x w4 hG hp
 try dsimp only
 have e1 : x 1 = .bool true := hp 1 ap12
 generalize x 1 = v1 at e1 ⊢
 subst e1
 have e17 : x 17 = .bool B := hp 17 ap12
 generalize x 17 = v17 at e17 ⊢
 subst e17
 clear hp
 generalize x 0 = v0
 generalize x 2 = v2
 generalize x 3 = v3
 generalize x 4 = v4
 generalize x 5 = v5
 generalize x 6 = v6
 generalize x 7 = v7
 generalize x 8 = v8
 generalize x 9 = v9
 generalize x 10 = v10
 generalize x 11 = v11
 generalize x 12 = v12
 generalize x 13 = v13
 generalize x 14 = v14
 generalize x 15 = v15
 generalize x 16 = v16
 have st4 := hG.1
 clear hG hd3
 refine a0c rfl rfl apW ?_
 try simp only [clL]
 refine a0p rfl rfl ?_
 go_simp
 try simp only [clL]
 refine a0f ?_
 refine NoPanic.normal ?_
 have hfr := st4.fr
 clear st4
 go_wp2_with fail
 go_ret
 exact ⟨by rw [← HDB.out]; rfl, hfr⟩
theorem t0r (ap : Option Addr) (np cp : Nat) (pub : List UInt8) (at_ : Option Addr) (nt ct : Nat) (text : List UInt8) (as_ : Option Addr) (ns cs : Nat) (s : List UInt8) (w : World) (hp : PartIs w (.slice ap np cp) pub) (ht : PartIs w (.slice at_ nt ct) text) (hs : PartIs w (.slice as_ ns cs) s) : Calls Tryz.prog 17 #[.slice ap np cp, .slice at_ nt ct, .slice as_ ns cs] w fun e w' => e = .returned (.bool (veB pub text s)) ∧ Fr Nob w w' := by
 cases h : rdG pub s with
 | false => rw [y0H h]; exact r0f ap np cp pub at_ nt ct text as_ ns cs s w hp ht hs h
 | true => exact o0r ap np cp pub at_ nt ct text as_ ns cs s w hp ht hs h
end
section
open Go.RowKit Go.Mv Mvp Mvq
theorem r0g (x : Nat) (w : World) : Calls Tryz.prog 48 #[i4 (elN mQ x)] w fun e w' => ∃ v, e = .returned v ∧ PartIs w' v (a0O (a0v x gP)) ∧ Fr Nob w w' :=
 (q0V x w).mono fun e w' ⟨v, h1, h2, h3⟩ => ⟨v, h1, OwnB1.ptb h2 (by rw [b0b]; decide), h3⟩
theorem n0q (x : Nat) (va : Value) (l : List UInt8) (w : World) (hp : BPart w va l) (hr : b0w l = true) : Calls Tryz.prog 80 #[i4 (elN mQ x), va] w fun e w' => ∃ v, e = .returned v ∧ PartIs w' v (a0O (a0v x (a0W l))) ∧ Fr Nob w w' := by
 refine (q0U x va l w hp).mono ?_
 rintro e w' ⟨v, h1, h2, h3⟩
 rw [y0R x hr] at h2
 exact ⟨v, h1, OwnB1.ptb h2 (by rw [b0b]; decide), h3⟩
theorem j0B (a b c d e : List UInt8) : c0Y a b c d e < mQ.M := by unfold c0Y f0j; exact v0J _ _
attribute [local irreducible] a0y lw mix cw b0q b0r b0i beN b0x a0Q a0A a0J elN mdL a0N rtV b0S a0O b0w a0W a0L c0P j0w g0u a0v b0k b0u toB a0z a0E b0s a0H c0n b0l a0F c0z c0B c0b d0H sgF sgZ b0E c0Y c0E chN b0g b0h tS smC d0V
theorem m0i (ak : Option Addr) (nk ck : Nat) (key : List UInt8) (ap : Option Addr) (np cp : Nat) (point : List UInt8) (w : World) (hkey : PartIs w (.slice ak nk ck) key) (hpt : PartIs w (.slice ap np cp) point) (hq : d0H key = false) : Calls Tryz.prog 23 #[.slice ak nk ck, .slice ap np cp] w fun e w' => e = .returned (.tuple #[.slice none 0 0, .int .i64 3]) ∧ Fr Nob w w' := by
 have HPK := qH hkey
 have HPP := qH hpt
 have HKY := qH (c0r hkey)
 have HQ := qH hq
 clear hkey hpt hq
 clear HPK HPP
 have st0 := St.start Nob w
 go_enter Tryz.func23, Tryz.ntmps23
 go_wp2_with fail
 refine (k0L ak nk ck key _ (HKY.out.still st0.fr) HQ.out).mono ?_
 rintro e' w1 ⟨⟨N, rfl⟩, hf1⟩
 have st1 := st0.keep hf1
 clear st0 hf1
 go_wp2_with (with_reducible refine wSk 6 ?_)
 refine a0a st1 rfl rfl (z := zAd) ap11 (cw 4 0) ap9 ?_
 intro g6 w2 st2
 clear st1
 go_wp2_with (with_reducible refine wSn ?_)
 refine a0b st2 0 rfl rfl rfl rfl rfl ap5 ap4 (a0d _ _) ?_
 intro w3 st3
 clear st2
 have hfr := st3.fr
 clear st3
 go_wp2_with fail
 go_ret2
 exact ⟨rfl, hfr⟩
theorem m0j (ak : Option Addr) (nk ck : Nat) (key : List UInt8) (ap : Option Addr) (np cp : Nat) (point : List UInt8) (w : World) (hkey : PartIs w (.slice ak nk ck) key) (hpt : PartIs w (.slice ap np cp) point) (hq : d0H key = true) (hr : b0g point = false) : Calls Tryz.prog 23 #[.slice ak nk ck, .slice ap np cp] w fun e w' => e = .returned (.tuple #[.slice none 0 0, .int .i64 4]) ∧ Fr Nob w w' := by
 have HPK := qH hkey
 have HPP := qH hpt
 have HKY := qH (c0r hkey)
 have HQ := qH hq
 clear hkey hpt hq
 have HR := qH (show b0h [point] = false by rw [c0N]; exact hr)
 clear HPK hr
 have st0 := St.start Nob w
 go_enter Tryz.func23, Tryz.ntmps23
 go_wp2_with fail
 refine (h0G ak nk ck key _ (HKY.out.still st0.fr) HQ.out).mono ?_
 rintro e' w1 ⟨rfl, hf1⟩
 have st1 := st0.keep hf1
 clear st0 hf1
 go_wp2_with (with_reducible refine wSk 6 ?_)
 refine a0a st1 rfl rfl (z := zAd) ap11 (cw 4 0) ap9 ?_
 intro g6 w2 st2
 clear st1
 go_wp2_with (with_reducible refine wSn ?_)
 refine a0b st2 0 rfl rfl rfl rfl rfl ap5 ap4 (a0d _ _) ?_
 intro w3 st3
 clear st2
 go_wp2_with (with_reducible refine wSk 21 ?_)
 refine b0o rfl rfl Tryz.underlying39 a0Z [.slice ap np cp] rfl (by simp; rfl) rfl rfl ?_
 intro w4 hh4 hf4 hz4
 have st4 := st3.keep hf4
 have HSL := qH hh4
 clear hh4 hf4 hz4 st3
 generalize w3.heap.size = gl21 at *
 go_wp2_with fail
 refine (c0G _ 1 1 [.slice ap np cp] [point] _ (Rd.whole HSL.out) (BParts.one (a0s (HPP.out.still st4.fr))) ap12).mono ?_
 rintro e' w5 ⟨rfl, hf5⟩
 have st5 := st4.keep hf5
 clear st4 hf5
 clear HSL
 rw [HR.out]
 have hfr := st5.fr
 clear st5
 go_wp2_with fail
 go_ret2
 exact ⟨rfl, hfr⟩
theorem k0O (ak : Option Addr) (nk ck : Nat) (key : List UInt8) (ap : Option Addr) (np cp : Nat) (point : List UInt8) (w : World) (hkey : PartIs w (.slice ak nk ck) key) (hpt : PartIs w (.slice ap np cp) point) (hq : d0H key = true) (hr : b0g point = true) : Calls Tryz.prog 23 #[.slice ak nk ck, .slice ap np cp] w fun e w' => ∃ v, e = .returned (.tuple #[v, .int .i64 0]) ∧ OwnB1 w w' v (a0Q (smC key point) ++ a0Q (((chN a0t [key, point]) + (smC key point) * beN key) % mQ.M)) ∧ Fr Nob w w' := by
 have HPK := qH hkey
 have HPP := qH hpt
 have HKY := qH (c0r hkey)
 have HQ := qH hq
 clear hkey hpt hq
 have HR := qH (show b0h [point] = true by rw [c0N]; exact hr)
 have HRD := qH (e0N hr)
 have HC := qH (show smC key point = c0Y point (a0O (a0v (beN key) gP)) (a0O (a0v (beN key) (a0W point))) (a0O (a0v (chN a0t [key, point]) gP)) (a0O (a0v (chN a0t [key, point]) (a0W point))) by unfold smC; rfl)
 have HLC := qH (show smC key point < mQ.M by rw [HC.out]; exact j0B _ _ _ _ _)
 clear hr
 have st0 := St.start Nob w
 go_enter Tryz.func23, Tryz.ntmps23
 go_wp2_with fail
 refine (h0G ak nk ck key _ (HKY.out.still st0.fr) HQ.out).mono ?_
 rintro e' w1 ⟨rfl, hf1⟩
 have st1 := st0.keep hf1
 clear st0 hf1
 go_wp2_with (with_reducible refine wSk 6 ?_)
 refine a0a st1 rfl rfl (z := zAd) ap11 (cw 4 0) ap9 ?_
 intro g6 w2 st2
 clear st1
 go_wp2_with (with_reducible refine wSn ?_)
 refine a0b st2 0 rfl rfl rfl rfl rfl ap5 ap4 (a0d _ _) ?_
 intro w3 st3
 clear st2
 go_wp2_with (with_reducible refine wSk 21 ?_)
 refine b0o rfl rfl Tryz.underlying39 a0Z [.slice ap np cp] rfl (by simp; rfl) rfl rfl ?_
 intro w4 hh4 hf4 hz4
 have st4 := st3.keep hf4
 have HSL := qH hh4
 clear hh4 hf4 hz4 st3
 generalize w3.heap.size = gl21 at *
 go_wp2_with fail
 refine (c0G _ 1 1 [.slice ap np cp] [point] _ (Rd.whole HSL.out) (BParts.one (a0s (HPP.out.still st4.fr))) ap12).mono ?_
 rintro e' w5 ⟨rfl, hf5⟩
 have st5 := st4.keep hf5
 clear st4 hf5
 clear HSL
 rw [HR.out]
 go_wp2_with (with_reducible refine wSk 26 ?_)
 refine b0o rfl rfl Tryz.underlying39 a0Z [.slice ak nk ck, .slice ap np cp] rfl (by simp; exact ⟨rfl, rfl⟩) rfl rfl ?_
 intro w6 hh6 hf6 hz6
 have st6 := st5.keep hf6
 have HSL := qH hh6
 clear hh6 hf6 hz6 st5
 generalize w5.heap.size = gl26 at *
 go_wp2_with fail
 refine (g0M ⟨#[110, 111, 110, 99, 101, 32, 115, 97, 109, 101]⟩ a0t rfl _ 2 [.slice ak nk ck, .slice ap np cp] [key, point] _ ap12 HSL.out ⟨HPK.out.still st6.fr, HPP.out.still st6.fr, trivial⟩ ap14).mono ?_
 rintro e' w7 ⟨rfl, hf7⟩
 have st7 := st6.keep hf7
 clear st6 hf7
 clear HSL
 go_wp2_with (with_reducible refine wSk 8 ?_)
 refine a0a st7 rfl rfl (z := zAd) ap11 (cw 4 0) ap9 ?_
 intro g8 w8 st8
 clear st7
 go_wp2_with (with_reducible refine wSn ?_)
 refine a0b st8 1 rfl rfl rfl rfl rfl ap5 ap4 (a0d _ _) ?_
 intro w9 st9
 clear st8
 have HP2 := qH (HPP.out.still st9.fr)
 clear HPP HPK HKY
 go_wp2_with fail
 refine wp_region_noPanic ?_
 refine d0S st9 (fun wz => Fr Nob w9 wz) (Fr.refl Nob _).drew (fun _ _ h k => h.then k) 13 [.o 12, .w 0, .t 1, .t 3, .w 4, .t 6, .t 8, .w 9, .c 2, .c 5, .c 7, .c 10, .c 11, .j 12] (.m 13 .nil) ap11 ap11 (fun _ _ _ _ _ h => h) ?_
 clear st9
 refine c0J rfl rfl rfl (z := zAd) ap11 (cw 4 0) ap9 ?_
 try simp only [clL]
 refine a0j rfl rfl apX ?_
 try simp only [clL]
 refine a0h rfl rfl rfl (fun _ => rfl) (cw 4 (elN mQ (beN key))) (fun wx hS => St.rangeL hS 0 rfl 0 _ dZl) Tryz.underlying68 rfl ap4 ?_
 try simp only [clL]
 refine a0h rfl rfl rfl (fun _ => rfl) (cw 4 (elN mQ (beN key))) (fun wx hS => St.rangeL hS 0 rfl 0 _ dZl) Tryz.underlying68 rfl ap4 ?_
 try simp only [clL]
 refine a0j rfl rfl apX ?_
 try simp only [clL]
 refine a0h rfl rfl rfl (fun _ => rfl) (cw 4 (elN mQ (chN a0t [key, point]))) (fun wx hS => St.rangeL hS 1 rfl 0 _ dZl) Tryz.underlying68 rfl ap4 ?_
 try simp only [clL]
 refine a0h rfl rfl rfl (fun _ => rfl) (cw 4 (elN mQ (chN a0t [key, point]))) (fun wx hS => St.rangeL hS 1 rfl 0 _ dZl) Tryz.underlying68 rfl ap4 ?_
 try simp only [clL]
 refine a0j rfl rfl apX ?_
 try simp only [clL]
 refine a0K (X := Value) (fun v => v) (fun v wx => PartIs wx v (a0O (a0v (beN key) gP))) (fun _ _ _ h k => h.still k) rfl rfl rfl Tryz.call48 (fun w hS hR => r0g (beN key) _) (fun _ => rfl) fun v1 => ?_
 try simp only [clL]
 refine a0K (X := Value) (fun v => v) (fun v wx => PartIs wx v (a0O (a0v (beN key) (a0W point)))) (fun _ _ _ h k => h.still k) rfl rfl rfl Tryz.call80 (fun w hS hR => n0q (beN key) _ point _ (a0s (HP2.out.still hR.1)) HRD.out) (fun _ => rfl) fun v2 => ?_
 try simp only [clL]
 refine a0K (X := Value) (fun v => v) (fun v wx => PartIs wx v (a0O (a0v (chN a0t [key, point]) gP))) (fun _ _ _ h k => h.still k) rfl rfl rfl Tryz.call48 (fun w hS hR => r0g (chN a0t [key, point]) _) (fun _ => rfl) fun v3 => ?_
 try simp only [clL]
 refine a0K (X := Value) (fun v => v) (fun v wx => PartIs wx v (a0O (a0v (chN a0t [key, point]) (a0W point)))) (fun _ _ _ h k => h.still k) rfl rfl rfl Tryz.call80 (fun w hS hR => n0q (chN a0t [key, point]) _ point _ (a0s (HP2.out.still hR.1.1.1)) HRD.out) (fun _ => rfl) fun v4 => ?_
 try simp only [clL]
 refine a0k rfl rfl rfl Tryz.call79 (fun w hS hR => (h0C (.slice ap np cp) point v1 (a0O (a0v (beN key) gP)) v2 (a0O (a0v (beN key) (a0W point))) v3 (a0O (a0v (chN a0t [key, point]) gP)) v4 (a0O (a0v (chN a0t [key, point]) (a0W point))) _ (HP2.out.still hR.1.1.1.1) hR.1.1.1.2 hR.1.1.2 hR.1.2 hR.2).mono fun e w' h => (show e = .returned (i4 (elN mQ (smC key point))) ∧ Fr Nob _ w' by rw [HC.out]; exact h)) (fun _ => rfl) ?_
 try simp only [clL]
 refine c0q List.mem_cons_self fun g9 => ?_
 simp only [upd, reduceIte]
 try simp only [Nat.reduceEqDiff, reduceIte]
 refine a0I fun xq w10 st10 hR => ?_
 try dsimp only
 clear hR xq
 refine a0p rfl rfl ?_
 refine a0i st10 2 rfl rfl rfl rfl ap5 ap4 (a0d _ _) ?_
 intro w11 st11
 repeat (first | simp only [List.cons_append] at st11 | simp only [List.nil_append] at st11 | simp only [List.set_cons_succ] at st11 | simp only [List.set_cons_zero] at st11)
 clear st10
 try simp only [Act.put]
 refine a0f ?_
 refine NoPanic.normal ?_
 clear HP2
 go_wp2_with fail
 refine wp_region_noPanic ?_
 refine a0g st11 7 [.t 0, .t 2, .t 3, .t 4, .c 1, .c 5, .c 6] (.m 7 (.w 8 (.w 9 .nil))) ap11 ap11 (fun _ _ _ _ _ h => h) ?_
 clear st11
 refine a0h rfl rfl rfl (fun _ => rfl) (cw 4 (elN mQ (smC key point))) (fun wx hS => St.rangeL hS 2 rfl 0 _ dZl) Tryz.underlying68 rfl ap4 ?_
 try simp only [clL]
 refine a0h rfl rfl rfl (fun _ => rfl) (cw 4 (elN mQ (chN a0t [key, point]))) (fun wx hS => St.rangeL hS 1 rfl 0 _ dZl) Tryz.underlying68 rfl ap4 ?_
 try simp only [clL]
 refine a0h rfl rfl rfl (fun _ => rfl) (cw 4 (elN mQ (smC key point))) (fun wx hS => St.rangeL hS 2 rfl 0 _ dZl) Tryz.underlying68 rfl ap4 ?_
 try simp only [clL]
 refine a0h rfl rfl rfl (fun _ => rfl) (cw 4 (elN mQ (beN key))) (fun wx hS => St.rangeL hS 0 rfl 0 _ dZl) Tryz.underlying68 rfl ap4 ?_
 try simp only [clL]
 refine a0K (X := Value) (fun v => v) (fun v wx => Own wx w.heap.size 5 1 v 32 (bs (a0Q ((smC key point) % mQ.M)))) (fun _ _ _ h k => h.still k) rfl rfl rfl Tryz.call51 (fun w hS hR => (f0Y mQ .one (smC key point) _).mono fun e w' ⟨v, h1, h2, h3⟩ => ⟨v, h1, Own.mono h2 hS.fr.size, h3⟩) (fun _ => rfl) fun vc => ?_
 try simp only [clL]
 refine a0k rfl rfl rfl Tryz.call49 (fun w hS hR => t0i (chN a0t [key, point]) (smC key point) (beN key) _) (fun _ => rfl) ?_
 try simp only [clL]
 refine a0K (X := Option Addr × Nat) (fun y => .slice y.1 32 y.2) (fun y wx => BPart wx (.slice y.1 32 y.2) (a0Q (((chN a0t [key, point]) + (smC key point) * beN key) % mQ.M))) (fun _ _ _ h k => h.still k) rfl rfl rfl Tryz.call51 (fun w hS hR => e0q ((chN a0t [key, point]) + (smC key point) * beN key) _) (fun _ => rfl) fun yb => ?_
 try simp only [clL]
 refine a0I fun xq w12 st12 hR => ?_
 try dsimp only
 have HOC := qH hR.1.2
 obtain ⟨ay, ny, cy, hey, -, hry⟩ := hR.2
 cases hey
 have HRB := qH (show RdB _ yb.1 32 _ from hry)
 clear hry
 clear hR xq
 refine a0p rfl rfl ?_
 refine e0X rfl Tryz.underlying22 c0w rfl ap12 HOC.out rfl rfl HRB.out (g0k _) ap12 ap12 st12.fr.size ?_
 intro va wa hown hfa
 have st13 := St.ofFr ((HOC.out).fr st12.fr (Nat.le_refl _) hfa)
 have HOWN := qH hown
 clear hown hfa
 clear st12
 try simp only [clL]
 refine a0c rfl rfl apW ?_
 try simp only [clL]
 refine a0c rfl rfl apW ?_
 try simp only [clL]
 refine a0f ?_
 refine NoPanic.normal ?_
 clear HOC HRB
 have hfr := st13.fr
 clear st13
 go_wp2_with fail
 go_ret2
 refine ⟨va, rfl, ?_, hfr⟩
 have h := HOWN.out
 rw [← c0v, Nat.mod_eq_of_lt HLC.out] at h
 exact OwnB1.of h (by rw [List.length_append, a0U, a0U])
theorem r0h {k p : List UInt8} (h : d0H k = true) (h2 : b0g p = true) : smE k p = 0 ∧ smS k p = a0Q (smC k p) ++ a0Q ((chN a0t [k, p] + smC k p * beN k) % mQ.M) := by unfold smE smS; rw [if_pos h, if_pos h, if_pos h2, if_pos h2]; exact ⟨rfl, rfl⟩
theorem y0U {k p : List UInt8} (h : d0H k = true) (h2 : b0g p = false) : smE k p = 4 ∧ smS k p = [] := by unfold smE smS; rw [if_pos h, if_pos h, h2]; exact ⟨rfl, rfl⟩
theorem y0V {k p : List UInt8} (h : d0H k = false) : smE k p = 3 ∧ smS k p = [] := by unfold smE smS; rw [h]; exact ⟨rfl, rfl⟩
theorem m0k (ak : Option Addr) (nk ck : Nat) (key : List UInt8) (ap : Option Addr) (np cp : Nat) (point : List UInt8) (w : World) (hkey : PartIs w (.slice ak nk ck) key) (hpt : PartIs w (.slice ap np cp) point) : Calls Tryz.prog 23 #[.slice ak nk ck, .slice ap np cp] w fun e w' => ∃ v, e = .returned (.tuple #[v, .int .i64 (smE key point)]) ∧ OwnB1 w w' v (smS key point) ∧ Fr Nob w w' := by
 cases h : d0H key with
 | false => rw [(y0V (p := point) h).1, (y0V (p := point) h).2]; exact (m0i ak nk ck key ap np cp point w hkey hpt h).mono fun e w' k => ⟨_, k.1, OwnB1.nil _ _, k.2⟩
 | true =>
  cases h2 : b0g point with
  | false => rw [(y0U h h2).1, (y0U h h2).2]; exact (m0j ak nk ck key ap np cp point w hkey hpt h h2).mono fun e w' k => ⟨_, k.1, OwnB1.nil _ _, k.2⟩
  | true => rw [(r0h h h2).1, (r0h h h2).2]; exact k0O ak nk ck key ap np cp point w hkey hpt h h2
end
section
open Go.RowKit Go.Mv Mvp Mvq
def vsG (a p b s : List UInt8) : Bool := b0h [a, p, b] && (decide (s.length = 64) && a0L mQ [s.take 32, s.drop 32])
noncomputable def d0g (z c : Nat) (p a : Pt) : List UInt8 := a0O (a0P (a0v z p) (c0U (a0v c a)))
theorem n0r {P A : List UInt8} (z c : Nat) (hP : b0w P = true) (hA : b0w A = true) : g0u (zB [z, mQ.M - c % mQ.M]) [P, A] = d0g z c (a0W P) (a0W A) := by
 rw [r0e _ _ rfl ap14 (by intro l hl; simp only [List.mem_cons, List.not_mem_nil, or_false] at hl; rcases hl with rfl | rfl <;> assumption)]
 simp only [List.zipWith_cons_cons, List.zipWith_nil_left, d0V]
 rw [b0n, m0e, j0r (h0U hA)]
 rfl
theorem k0P (z c : Nat) (p a : Pt) : (d0g z c p a).length = 33 := b0b _
theorem n0s {a p b : List UInt8} (h : b0h [a, p, b] = true) : b0g a = true ∧ b0g p = true ∧ b0g b = true := by
 unfold b0h at h
 simpa [and_assoc] using h
theorem t0s {x y : List UInt8} (h : a0L mQ [x, y] = true) : a0N mQ x = true ∧ a0N mQ y = true := by
 unfold a0L at h
 simpa using h
theorem y0I {a p b s : List UInt8} (h : vsG a p b s = false) : vsB a p b s = false := by
 unfold vsB
 unfold vsG b0h a0L at h
 simp only [List.all_cons, List.all_nil, Bool.and_true, Bool.and_assoc] at *
 have e : ∀ a b c d e f g : Bool, (a && (b && (c && (d && (e && f))))) = false → (a && (b && (c && (d && (e && (f && g)))))) = false := by decide
 exact e _ _ _ _ _ _ _ h
theorem u0e {a p b s : List UInt8} (h : vsG a p b s = true) : vsB a p b s = decide (c0Y p a b (d0g (beN (s.drop 32)) (beN (s.take 32)) gP (a0W a)) (d0g (beN (s.drop 32)) (beN (s.take 32)) (a0W p) (a0W b)) = beN (s.take 32)) := by
 unfold vsB d0g
 unfold vsG at h
 simp only [Bool.and_eq_true] at h
 obtain ⟨h1, h2, h3⟩ := h
 obtain ⟨r1, r2, r3⟩ := n0s h1
 obtain ⟨n1, n2⟩ := t0s h3
 simp only [r1, r2, r3, h2, n1, n2, Bool.true_and]
theorem x0T (al : Option Addr) (n cl : Nat) (vs : List Value) (ls : List (List UInt8)) (w : World) (hv : Rd w al n vs) (hp : BParts w vs ls) (hn : n ≤ 100000) (h : a0L mQ ls = true) :
  Calls Tryz.prog 70 #[.slice al n cl] w fun e w' => ∃ v, e = .returned (.tuple #[v, .bool true]) ∧ Own w' w.heap.size 68 4 v ls.length (a0V mQ ls) ∧ Fr Nob w w' :=
 (q0K mQ .one al n cl vs ls w hv hp hn).mono fun e w' k => by obtain ⟨v, h1, h2⟩ := k.1 h; exact ⟨v, h1, h2, k.2.2⟩
theorem x0U (al : Option Addr) (n cl : Nat) (vs : List Value) (ls : List (List UInt8)) (w : World) (hv : Rd w al n vs) (hp : BParts w vs ls) (hn : n ≤ 100000) (h : a0L mQ ls = false) :
  Calls Tryz.prog 70 #[.slice al n cl] w fun e w' => e = .returned (.tuple #[.slice none 0 0, .bool false]) ∧ Fr Nob w w' :=
 (q0K mQ .one al n cl vs ls w hv hp hn).mono fun _ _ k => ⟨k.2.1 h, k.2.2⟩
theorem y0W (x y : List UInt8) : a0V mQ [x, y] = cw 4 (elN mQ (beN x)) ++ cw 4 (elN mQ (beN y)) := by simp [a0V]
attribute [local irreducible] a0y lw mix cw b0q b0r b0i beN b0x a0Q a0A a0J elN mdL a0N rtV b0S a0O b0w a0W a0L c0P j0w g0u a0v b0k b0u toB a0z a0E b0s a0H c0n b0l a0F c0z c0B c0b d0H sgF sgZ b0E c0Y c0E chN b0g b0h tS smC d0V a0V vsG
theorem z0j (aa : Option Addr) (na ca : Nat) (a : List UInt8) (ap : Option Addr) (np cp : Nat) (p : List UInt8) (ab : Option Addr) (nb cb : Nat) (b : List UInt8) (as_ : Option Addr) (ns cs : Nat) (s : List UInt8) (w : World) (ha : PartIs w (.slice aa na ca) a) (hp : PartIs w (.slice ap np cp) p) (hb : PartIs w (.slice ab nb cb) b) (_hs : PartIs w (.slice as_ ns cs) s) (hr : b0h [a, p, b] = false) : Calls Tryz.prog 25 #[.slice aa na ca, .slice ap np cp, .slice ab nb cb, .slice as_ ns cs] w fun e w' => e = .returned (.bool false) ∧ Fr Nob w w' := by
 have HA := qH ha
 have HP := qH hp
 have HB := qH hb
 have HR := qH hr
 clear ha hp hb _hs hr
 have st0 := St.start Nob w
 go_enter Tryz.func25, Tryz.ntmps25
 go_wp2_with (with_reducible refine wSk 17 ?_)
 refine b0o rfl rfl Tryz.underlying39 a0Z [.slice aa na ca, .slice ap np cp, .slice ab nb cb] rfl (by simp; exact ⟨rfl, rfl, rfl⟩) rfl rfl ?_
 intro w1 hh1 hf1 hz1
 have st1 := st0.keep hf1
 have HSL := qH hh1
 clear hh1 hf1 hz1 st0
 generalize w.heap.size = gl17 at *
 go_wp2_with fail
 refine (c0G _ 3 3 [.slice aa na ca, .slice ap np cp, .slice ab nb cb] [a, p, b] _ (Rd.whole HSL.out) (BParts.three (a0s (HA.out.still st1.fr)) (a0s (HP.out.still st1.fr)) (a0s (HB.out.still st1.fr))) ap12).mono ?_
 rintro e' w2 ⟨rfl, hf2⟩
 have st2 := st1.keep hf2
 clear st1 hf2
 clear HSL
 rw [HR.out]
 have hfr := st2.fr
 clear st2
 go_wp2_with fail
 go_ret
 exact ⟨rfl, hfr⟩
theorem z0k (aa : Option Addr) (na ca : Nat) (a : List UInt8) (ap : Option Addr) (np cp : Nat) (p : List UInt8) (ab : Option Addr) (nb cb : Nat) (b : List UInt8) (as_ : Option Addr) (ns cs : Nat) (s : List UInt8) (w : World) (ha : PartIs w (.slice aa na ca) a) (hp : PartIs w (.slice ap np cp) p) (hb : PartIs w (.slice ab nb cb) b) (_hs : PartIs w (.slice as_ ns cs) s) (hr : b0h [a, p, b] = true) (hl : ns ≠ 64) : Calls Tryz.prog 25 #[.slice aa na ca, .slice ap np cp, .slice ab nb cb, .slice as_ ns cs] w fun e w' => e = .returned (.bool false) ∧ Fr Nob w w' := by
 have HA := qH ha
 have HP := qH hp
 have HB := qH hb
 have HR := qH hr
 have hne : ((ns : Int) != 64) = true := by simp; omega
 clear ha hp hb _hs hr hl
 have st0 := St.start Nob w
 go_enter Tryz.func25, Tryz.ntmps25
 go_wp2_with (with_reducible refine wSk 17 ?_)
 refine b0o rfl rfl Tryz.underlying39 a0Z [.slice aa na ca, .slice ap np cp, .slice ab nb cb] rfl (by simp; exact ⟨rfl, rfl, rfl⟩) rfl rfl ?_
 intro w1 hh1 hf1 hz1
 have st1 := st0.keep hf1
 have HSL := qH hh1
 clear hh1 hf1 hz1 st0
 generalize w.heap.size = gl17 at *
 go_wp2_with fail
 refine (c0G _ 3 3 [.slice aa na ca, .slice ap np cp, .slice ab nb cb] [a, p, b] _ (Rd.whole HSL.out) (BParts.three (a0s (HA.out.still st1.fr)) (a0s (HP.out.still st1.fr)) (a0s (HB.out.still st1.fr))) ap12).mono ?_
 rintro e' w2 ⟨rfl, hf2⟩
 have st2 := st1.keep hf2
 clear st1 hf2
 clear HSL
 rw [HR.out]
 have hfr := st2.fr
 clear st2
 go_wp2_with fail
 go_ret
 exact ⟨rfl, hfr⟩
theorem z0l (aa : Option Addr) (na ca : Nat) (a : List UInt8) (ap : Option Addr) (np cp : Nat) (p : List UInt8) (ab : Option Addr) (nb cb : Nat) (b : List UInt8) (bs_ os cs : Nat) (s : List UInt8) (w : World) (ha : PartIs w (.slice aa na ca) a) (hp : PartIs w (.slice ap np cp) p) (hb : PartIs w (.slice ab nb cb) b) (hs : PartIs w (.slice (some ⟨bs_, os, none⟩) 64 cs) s) (hr : b0h [a, p, b] = true) (hn : a0L mQ [s.take 32, s.drop 32] = false) : Calls Tryz.prog 25 #[.slice aa na ca, .slice ap np cp, .slice ab nb cb, .slice (some ⟨bs_, os, none⟩) 64 cs] w fun e w' => e = .returned (.bool false) ∧ Fr Nob w w' := by
 have HA := qH ha
 have HP := qH hp
 have HB := qH hb
 have hcs : 64 ≤ cs := by obtain ⟨a', n', c', he, hc, -⟩ := hs; cases he; exact hc
 have HSC := qH (a0s (b0Y hs 32 ap12))
 have HSZ := qH (a0s (c0j hs 32 ap12))
 have hcI : (32 : Int) ≤ (cs : Int) := by omega
 have hcN : ¬ (cs = 32) := by omega
 have HR := qH hr
 have HN := qH hn
 clear ha hp hb hs hr hn hcs
 have st0 := St.start Nob w
 go_enter Tryz.func25, Tryz.ntmps25
 go_wp2_with (with_reducible refine wSk 17 ?_)
 refine b0o rfl rfl Tryz.underlying39 a0Z [.slice aa na ca, .slice ap np cp, .slice ab nb cb] rfl (by simp; exact ⟨rfl, rfl, rfl⟩) rfl rfl ?_
 intro w1 hh1 hf1 hz1
 have st1 := st0.keep hf1
 have HSL := qH hh1
 clear hh1 hf1 hz1 st0
 generalize w.heap.size = gl17 at *
 go_wp2_with fail
 refine (c0G _ 3 3 [.slice aa na ca, .slice ap np cp, .slice ab nb cb] [a, p, b] _ (Rd.whole HSL.out) (BParts.three (a0s (HA.out.still st1.fr)) (a0s (HP.out.still st1.fr)) (a0s (HB.out.still st1.fr))) ap12).mono ?_
 rintro e' w2 ⟨rfl, hf2⟩
 have st2 := st1.keep hf2
 clear st1 hf2
 clear HSL
 rw [HR.out]
 go_wp2_with fail
 refine wp_region_noPanic ?_
 refine a0g st2 10 [.w 0, .w 1, .w 2, .w 3, .o 4, .j 4] (.r 5 (.w 6 (.w 7 (.w 8 (.w 9 (.m 10 .nil)))))) ap11 ap11 (fun _ _ _ _ _ h => h) ?_
 clear st2
 refine a0j rfl rfl apX ?_
 try simp only [clL]
 refine a0j rfl rfl apX ?_
 try simp only [clL]
 refine a0j rfl rfl apX ?_
 try simp only [clL]
 refine a0j rfl rfl apX ?_
 try simp only [clL]
 refine g0N rfl rfl rfl Tryz.underlying39 a0Z [.slice (some ⟨bs_, os, none⟩) 32 cs, .slice (some ⟨bs_, os + 32, none⟩) (64 - 32) (cs - 32)] (fun _ => rfl) (by simp [Value.cells]) rfl [.slice (some ⟨bs_, os, none⟩) 32 cs, .slice (some ⟨bs_, os + 32, none⟩) (64 - 32) (cs - 32)] rfl ?_
 try simp only [clL]
 refine c0q List.mem_cons_self fun g30 => ?_
 simp only [upd, reduceIte]
 try simp only [Nat.reduceEqDiff, reduceIte]
 refine a0I fun xq w3 st3 hR => ?_
 try dsimp only
 clear hR xq
 refine a0r rfl rfl ?_
 go_simp
 refine (x0U (some ⟨g30, 0, none⟩) 2 2 [.slice (some ⟨bs_, os, none⟩) 32 cs, .slice (some ⟨bs_, os + 32, none⟩) (64 - 32) (cs - 32)] [s.take 32, s.drop 32] _ (Rd.whole (st3.at 0 rfl)) (BParts.two (HSC.out.still st3.fr) (HSZ.out.still st3.fr)) ap12 HN.out).mono ?_
 rintro e' w4 ⟨rfl, hf4⟩
 have st4 := st3.keep hf4
 clear hf4
 clear st3
 refine ⟨by first | exact st4 | exact St.less st4 ap14, ?_⟩
 try simp only [clL]
 refine a0c rfl rfl apW ?_
 try simp only [clL]
 refine a0c rfl rfl apW ?_
 try simp only [clL]
 refine a0c rfl rfl apW ?_
 try simp only [clL]
 refine a0c rfl rfl apW ?_
 try simp only [clL]
 refine a0p rfl rfl ?_
 go_simp
 try simp only [clL]
 refine a0f ?_
 refine NoPanic.normal ?_
 have hfr := st4.fr
 clear st4
 go_wp2_with fail
 go_ret
 exact ⟨rfl, hfr⟩
theorem z0m (aa : Option Addr) (na ca : Nat) (a : List UInt8) (ap : Option Addr) (np cp : Nat) (p : List UInt8) (ab : Option Addr) (nb cb : Nat) (b : List UInt8) (bs_ os cs : Nat) (s : List UInt8) (w : World) (ha : PartIs w (.slice aa na ca) a) (hp : PartIs w (.slice ap np cp) p) (hb : PartIs w (.slice ab nb cb) b) (hs : PartIs w (.slice (some ⟨bs_, os, none⟩) 64 cs) s) (h : vsG a p b s = true) : Calls Tryz.prog 25 #[.slice aa na ca, .slice ap np cp, .slice ab nb cb, .slice (some ⟨bs_, os, none⟩) 64 cs] w fun e w' => e = .returned (.bool (vsB a p b s)) ∧ Fr Nob w w' := by
 have hr : b0h [a, p, b] = true := by unfold vsG at h; simp only [Bool.and_eq_true] at h; exact h.1
 have hn : a0L mQ [s.take 32, s.drop 32] = true := by unfold vsG at h; simp only [Bool.and_eq_true] at h; exact h.2.2
 have HS1 := qH (n0r (beN (s.drop 32)) (beN (s.take 32)) (e0H d0F).1 (e0N (n0s hr).1))
 rw [(e0H d0F).2] at HS1
 have HS2 := qH (n0r (beN (s.drop 32)) (beN (s.take 32)) (e0N (n0s hr).2.1) (e0N (n0s hr).2.2))
 have HEQ := qH (show ((c0Y p a b (d0g (beN (s.drop 32)) (beN (s.take 32)) gP (a0W a)) (d0g (beN (s.drop 32)) (beN (s.take 32)) (a0W p) (a0W b))) % mQ.M == (beN (s.take 32)) % mQ.M) = vsB a p b s by
  rw [u0e h, Nat.mod_eq_of_lt (j0B _ _ _ _ _), Nat.mod_eq_of_lt (c0D (t0s hn).1)]
  rfl)
 have HA := qH ha
 have HP := qH hp
 have HB := qH hb
 have hcs : 64 ≤ cs := by obtain ⟨a', n', c', he, hc, -⟩ := hs; cases he; exact hc
 have HSC := qH (a0s (b0Y hs 32 ap12))
 have HSZ := qH (a0s (c0j hs 32 ap12))
 have hcI : (32 : Int) ≤ (cs : Int) := by omega
 have hcN : ¬ (cs = 32) := by omega
 have HR := qH hr
 have HN := qH hn
 clear ha hp hb hs hr hn hcs h
 have st0 := St.start Nob w
 go_enter Tryz.func25, Tryz.ntmps25
 go_wp2_with (with_reducible refine wSk 17 ?_)
 refine b0o rfl rfl Tryz.underlying39 a0Z [.slice aa na ca, .slice ap np cp, .slice ab nb cb] rfl (by simp; exact ⟨rfl, rfl, rfl⟩) rfl rfl ?_
 intro w1 hh1 hf1 hz1
 have st1 := st0.keep hf1
 have HSL := qH hh1
 clear hh1 hf1 hz1 st0
 generalize w.heap.size = gl17 at *
 go_wp2_with fail
 refine (c0G _ 3 3 [.slice aa na ca, .slice ap np cp, .slice ab nb cb] [a, p, b] _ (Rd.whole HSL.out) (BParts.three (a0s (HA.out.still st1.fr)) (a0s (HP.out.still st1.fr)) (a0s (HB.out.still st1.fr))) ap12).mono ?_
 rintro e' w2 ⟨rfl, hf2⟩
 have st2 := st1.keep hf2
 clear st1 hf2
 clear HSL
 rw [HR.out]
 go_wp2_with fail
 refine wp_region_noPanic ?_
 refine a0g st2 10 [.w 0, .w 1, .w 2, .w 3, .o 4, .j 4] (.r 5 (.w 6 (.w 7 (.w 8 (.w 9 (.m 10 .nil)))))) ap11 ap11 (fun _ _ _ _ _ h => h) ?_
 clear st2
 refine a0j rfl rfl apX ?_
 try simp only [clL]
 refine a0j rfl rfl apX ?_
 try simp only [clL]
 refine a0j rfl rfl apX ?_
 try simp only [clL]
 refine a0j rfl rfl apX ?_
 try simp only [clL]
 refine g0N rfl rfl rfl Tryz.underlying39 a0Z [.slice (some ⟨bs_, os, none⟩) 32 cs, .slice (some ⟨bs_, os + 32, none⟩) (64 - 32) (cs - 32)] (fun _ => rfl) (by simp [Value.cells]) rfl [.slice (some ⟨bs_, os, none⟩) 32 cs, .slice (some ⟨bs_, os + 32, none⟩) (64 - 32) (cs - 32)] rfl ?_
 try simp only [clL]
 refine c0q List.mem_cons_self fun g30 => ?_
 simp only [upd, reduceIte]
 try simp only [Nat.reduceEqDiff, reduceIte]
 refine a0I fun xq w3 st3 hR => ?_
 try dsimp only
 clear hR xq
 refine a0r rfl rfl ?_
 go_simp
 refine (x0T (some ⟨g30, 0, none⟩) 2 2 [.slice (some ⟨bs_, os, none⟩) 32 cs, .slice (some ⟨bs_, os + 32, none⟩) (64 - 32) (cs - 32)] [s.take 32, s.drop 32] _ (Rd.whole (st3.at 0 rfl)) (BParts.two (HSC.out.still st3.fr) (HSZ.out.still st3.fr)) ap12 HN.out).mono ?_
 rintro e' w4 ⟨v, rfl, ho, hf4⟩
 have st4 := st3.keep hf4
 have HV := qH ho
 clear ho
 clear hf4
 clear st3
 refine ⟨by first | exact st4 | exact St.less st4 ap14, ?_⟩
 try simp only [clL]
 refine a0c rfl rfl apW ?_
 try simp only [clL]
 refine a0c rfl rfl apW ?_
 try simp only [clL]
 refine a0c rfl rfl apW ?_
 try simp only [clL]
 refine a0c rfl rfl apW ?_
 try simp only [clL]
 refine a0p rfl rfl ?_
 go_simp
 try simp only [clL]
 refine a0f ?_
 refine NoPanic.normal ?_
 have HV2 := HV.out
 obtain ⟨av, cv, rfl, -, hrv, -⟩ := HV2.form
 rw [y0W] at hrv
 obtain ⟨bv, ov, rfl, -⟩ := hrv.at ap14
 have HRV := qH hrv
 clear hrv HV HV2
 have FW := qH st4.fr
 clear st4
 have stB := St.start Nob w4
 clear hcI hcN
 go_wp2_with fail
 refine wp_region_noPanic ?_
 refine a0g stB 9 [.o 6, .o 7, .w 0, .w 1, .t 2, .w 3, .w 4, .t 5, .j 6, .j 7] (.r 8 (.m 9 .nil)) ap11 ap11 (fun _ _ _ _ _ h => h) ?_
 clear stB
 refine c0J rfl rfl rfl (z := zAd) ap11 (cw 4 0) ap9 ?_
 try simp only [clL]
 refine c0J rfl rfl rfl (z := zAd) ap11 (cw 4 0) ap9 ?_
 try simp only [clL]
 refine a0j rfl rfl apX ?_
 try simp only [clL]
 refine a0j rfl rfl apX ?_
 try simp only [clL]
 refine a0h rfl rfl rfl (fun _ => rfl) (cw 4 (elN mQ (beN (s.take 32)))) (fun wx hS => (e0l (HRV.out.still (St.fr hS)) 0 _ (p0q 4 4 _ _))) Tryz.underlying68 rfl ap4 ?_
 try simp only [clL]
 refine a0j rfl rfl apX ?_
 try simp only [clL]
 refine a0j rfl rfl apX ?_
 try simp only [clL]
 refine a0h rfl rfl rfl (fun _ => rfl) (cw 4 (elN mQ (beN (s.drop 32)))) (fun wx hS => (e0l (HRV.out.still (St.fr hS)) 4 _ (m0D 4 4 _ _))) Tryz.underlying68 rfl ap4 ?_
 try simp only [clL]
 refine c0q (List.mem_cons_of_mem _ List.mem_cons_self) fun g11 => ?_
 simp only [upd, reduceIte]
 try simp only [Nat.reduceEqDiff, reduceIte]
 refine c0q List.mem_cons_self fun g12 => ?_
 simp only [upd, reduceIte]
 try simp only [Nat.reduceEqDiff, reduceIte]
 refine a0I fun xq w5 st5 hR => ?_
 try dsimp only
 clear hR xq
 refine a0r rfl rfl ?_
 refine a0i st5 0 rfl rfl rfl rfl ap5 ap4 (a0d _ _) ?_
 intro w6 st6
 repeat (first | simp only [List.cons_append] at st6 | simp only [List.nil_append] at st6 | simp only [List.set_cons_succ] at st6 | simp only [List.set_cons_zero] at st6)
 clear st5
 refine ⟨by first | exact st6 | exact St.less st6 ap14, ?_⟩
 try simp only [Act.put]
 refine a0p rfl rfl ?_
 refine a0i st6 1 rfl rfl rfl rfl ap5 ap4 (a0d _ _) ?_
 intro w7 st7
 repeat (first | simp only [List.cons_append] at st7 | simp only [List.nil_append] at st7 | simp only [List.set_cons_succ] at st7 | simp only [List.set_cons_zero] at st7)
 clear st6
 try simp only [Act.put]
 refine a0f ?_
 refine NoPanic.normal ?_
 clear HRV
 go_wp2_with fail
 refine wp_region_noPanic ?_
 refine a0g st7 4 [.t 0, .t 1, .c 2, .o 3, .j 3] (.m 4 .nil) ap11 ap11 (fun _ _ _ _ _ h => h) ?_
 clear st7
 refine a0h rfl rfl rfl (fun _ => rfl) (cw 4 (elN mQ (beN (s.drop 32)))) (fun wx hS => St.rangeL hS 1 rfl 0 _ dZl) Tryz.underlying68 rfl ap4 ?_
 try simp only [clL]
 refine a0h rfl rfl rfl (fun _ => rfl) (cw 4 (elN mQ (beN (s.take 32)))) (fun wx hS => St.rangeL hS 0 rfl 0 _ dZl) Tryz.underlying68 rfl ap4 ?_
 try simp only [clL]
 refine a0k rfl rfl rfl Tryz.call64 (fun w hS hR => j0x mQ .one (beN (s.take 32)) _) (fun _ => rfl) ?_
 try simp only [clL]
 refine g0N rfl rfl rfl Tryz.underlying93 k0l [i4 (elN mQ (beN (s.drop 32))), i4 (elN mQ (mQ.M - (beN (s.take 32)) % mQ.M))] (fun _ => rfl) (by intro u hu; simp only [List.mem_cons, List.not_mem_nil, or_false] at hu; rcases hu with rfl | rfl <;> exact w0a _) rfl (c0b [(beN (s.drop 32)), (mQ.M - (beN (s.take 32)) % mQ.M)]) (by unfold c0b; simp [g0D]) ?_
 try simp only [clL]
 refine c0q List.mem_cons_self fun g45 => ?_
 simp only [upd, reduceIte]
 try simp only [Nat.reduceEqDiff, reduceIte]
 refine a0I fun xq w8 st8 hR => ?_
 try dsimp only
 clear hR xq
 refine a0p rfl rfl ?_
 go_simp
 try simp only [clL]
 refine a0f ?_
 refine NoPanic.normal ?_
 have HBK := qH (st8.at 2 rfl)
 have FA := qH (FW.out.then st8.fr)
 have HA2 := qH (HA.out.still FA.out)
 have HP2 := qH (HP.out.still FA.out)
 have HB2 := qH (HB.out.still FA.out)
 clear FA HA HP HB
 have hb15 : ((c0Y p a b (d0g (beN (s.drop 32)) (beN (s.take 32)) gP (a0W a)) (d0g (beN (s.drop 32)) (beN (s.take 32)) (a0W p) (a0W b))) % mQ.M == (beN (s.take 32)) % mQ.M) = vsB a p b s := HEQ.out
 have HB15 := qH hb15
 clear hb15
 go_wp2_with fail
 refine wp_region_noPanic ?_
 have hd8 := st8.drew
 clear st8
 refine d0T (fun wx => St Nob w4 wx [(g11, cw 4 (elN mQ (beN (s.take 32))), 68), (g12, cw 4 (elN mQ (beN (s.drop 32))), 68), (g45, (c0b [(beN (s.drop 32)), (mQ.M - (beN (s.take 32)) % mQ.M)]), 68)] ∧ Fr Nob (World.drew _) wx) [0, 1, 2, 3, 4, 5, 6, 7, 8, 9, 10, 11, 12, 13, 14, 15] [] (fun i => match i with | 0 => [] | 1 => [] | 2 => [] | 3 => [] | 4 => [] | 5 => [] | 6 => [4, 5] | 7 => [3, 6] | 8 => [] | 9 => [] | 10 => [] | 11 => [9, 10] | 12 => [8, 11] | 13 => [0, 1, 2, 7, 12] | 14 => [] | 15 => [13, 14] | _ => []) (fun i x wx => match i with | 0 => x 0 = .slice ap np cp | 1 => x 1 = .slice aa na ca | 2 => x 2 = .slice ab nb cb | 3 => x 3 = .slice (some ⟨g45, 0, none⟩) 2 2 | 4 => ∃ y : Option Addr × Nat, x 4 = .slice y.1 33 y.2 ∧ BPart wx (.slice y.1 33 y.2) (a0O gP) | 5 => x 5 = .slice aa na ca | 6 => ∃ (g : Nat) (y : Option Addr × Nat), x 6 = .slice (some ⟨g, 0, none⟩) 2 2 ∧ Has wx g [.slice y.1 33 y.2, .slice aa na ca] 22 ∧ BPart wx (.slice y.1 33 y.2) (a0O gP) | 7 => ∃ v, x 7 = v ∧ PartIs wx v (d0g (beN (s.drop 32)) (beN (s.take 32)) gP (a0W a)) | 8 => x 8 = .slice (some ⟨g45, 0, none⟩) 2 2 | 9 => x 9 = .slice ap np cp | 10 => x 10 = .slice ab nb cb | 11 => ∃ g : Nat, x 11 = .slice (some ⟨g, 0, none⟩) 2 2 ∧ Has wx g [.slice ap np cp, .slice ab nb cb] 22 | 12 => ∃ v, x 12 = v ∧ PartIs wx v (d0g (beN (s.drop 32)) (beN (s.take 32)) (a0W p) (a0W b)) | 13 => x 13 = i4 (elN mQ (c0Y p a b (d0g (beN (s.drop 32)) (beN (s.take 32)) gP (a0W a)) (d0g (beN (s.drop 32)) (beN (s.take 32)) (a0W p) (a0W b)))) | 14 => x 14 = i4 (elN mQ (beN (s.take 32))) | 15 => x 15 = .bool (vsB a p b s) | _ => True) 16 (.m 16 .nil) ?_ (fun x => ?_) ap11 ap11 (fun _ _ _ _ _ h => h) ⟨hd8, Fr.refl _ _⟩ (fun _ _ h k => ⟨h.1.keep k, h.2.then k⟩) ?_ ?_
 rotate_left 1
 ·simp only [g0g, u0b, Act.put, List.getElem?_toArray, List.getElem?_cons_zero, List.getElem?_cons_succ, List.setIfInBounds_toArray, List.set_cons_zero, List.set_cons_succ]
  exact rfl
 refine b0a rfl rfl (fun x wx hG hp => ?_) (fun y _ _ h k => h) ?_
 ·try dsimp only
  clear hp
  exact d0L (v := .slice ap np cp) ap7 rfl
 refine b0a rfl rfl (fun x wx hG hp => ?_) (fun y _ _ h k => h) ?_
 ·try dsimp only
  clear hp
  exact d0L (v := .slice aa na ca) ap7 rfl
 refine b0a rfl rfl (fun x wx hG hp => ?_) (fun y _ _ h k => h) ?_
 ·try dsimp only
  clear hp
  exact d0L (v := .slice ab nb cb) ap7 rfl
 refine b0a rfl rfl (fun x wx hG hp => ?_) (fun y _ _ h k => h) ?_
 ·try dsimp only
  clear hp
  exact d0L (v := .slice (some ⟨g45, 0, none⟩) 2 2) ap7 rfl
 refine b0a rfl rfl (fun x wx hG hp => ?_) (fun y _ _ h k => by obtain ⟨y, h1, h2⟩ := h; exact ⟨y, h1, h2.still k⟩) ?_
 ·try dsimp only
  clear hp
  refine f0c rfl Tryz.call29 (vs := []) rfl ?_
  refine (h0F _).mono ?_
  rintro e w' ⟨y, rfl, hb, hf⟩
  exact ⟨_, rfl, hf, y, rfl, hb⟩
 refine b0a rfl rfl (fun x wx hG hp => ?_) (fun y _ _ h k => h) ?_
 ·try dsimp only
  clear hp
  exact d0L (v := .slice aa na ca) ap7 rfl
 refine b0a rfl rfl (fun x wx hG hp => ?_) (fun y _ _ h k => by obtain ⟨g, y, h1, h2, h3⟩ := h; exact ⟨g, y, h1, h2.keep k id, h3.still k⟩) ?_
 ·try dsimp only
  have e4 : ∃ y : Option Addr × Nat, x 4 = .slice y.1 33 y.2 ∧ BPart wx (.slice y.1 33 y.2) (a0O gP) := hp 4 ap12
  obtain ⟨yb, e4, HYB⟩ := e4
  generalize x 4 = v4 at e4 ⊢
  subst e4
  have e5 : x 5 = .slice aa na ca := hp 5 ap12
  generalize x 5 = v5 at e5 ⊢
  subst e5
  clear hp
  refine g0O rfl Tryz.underlying39 a0Z [.slice yb.1 33 yb.2, .slice aa na ca] rfl (by intro u hu; simp only [List.mem_cons, List.not_mem_nil, or_false] at hu; rcases hu with rfl | rfl <;> rfl) rfl [.slice yb.1 33 yb.2, .slice aa na ca] rfl (fun g w' hf _ hg => ⟨g, yb, rfl, hg, HYB.still hf⟩)
 refine b0a rfl rfl (fun x wx hG hp => ?_) (fun y _ _ h k => by obtain ⟨y, h1, h2⟩ := h; exact ⟨y, h1, h2.still k⟩) ?_
 ·try dsimp only
  have e3 : x 3 = .slice (some ⟨g45, 0, none⟩) 2 2 := hp 3 ap12
  generalize x 3 = v3 at e3 ⊢
  subst e3
  have e6 : ∃ (g : Nat) (y : Option Addr × Nat), x 6 = .slice (some ⟨g, 0, none⟩) 2 2 ∧ Has wx g [.slice y.1 33 y.2, .slice aa na ca] 22 ∧ BPart wx (.slice y.1 33 y.2) (a0O gP) := hp 6 ap12
  obtain ⟨ga, yc, e6, HGA, HYC⟩ := e6
  generalize x 6 = v6 at e6 ⊢
  subst e6
  clear hp
  refine f0c rfl Tryz.call62 (vs := [.slice (some ⟨g45, 0, none⟩) 2 2, .slice (some ⟨ga, 0, none⟩) 2 2]) rfl ?_
  refine (t0k (some ⟨g45, 0, none⟩) 2 [(beN (s.drop 32)), (mQ.M - (beN (s.take 32)) % mQ.M)] (some ⟨ga, 0, none⟩) 2 [.slice yc.1 33 yc.2, .slice aa na ca] [a0O gP, a] _ (by have h := Rd.whole (HBK.out.keep ((Fr.refl Nob _).drew.then hG.2) id); rwa [e0W] at h) ap14 (Rd.whole HGA) (BParts.two HYC (a0s (HA2.out.still ((Fr.refl Nob _).drew.then hG.2))))).mono ?_
  rintro e w' ⟨v, rfl, ho, hf⟩
  rw [HS1.out] at ho
  exact ⟨_, rfl, hf, v, rfl, OwnB1.ptb ho (by rw [k0P]; decide)⟩
 refine b0a rfl rfl (fun x wx hG hp => ?_) (fun y _ _ h k => h) ?_
 ·try dsimp only
  clear hp
  exact d0L (v := .slice (some ⟨g45, 0, none⟩) 2 2) ap7 rfl
 refine b0a rfl rfl (fun x wx hG hp => ?_) (fun y _ _ h k => h) ?_
 ·try dsimp only
  clear hp
  exact d0L (v := .slice ap np cp) ap7 rfl
 refine b0a rfl rfl (fun x wx hG hp => ?_) (fun y _ _ h k => h) ?_
 ·try dsimp only
  clear hp
  exact d0L (v := .slice ab nb cb) ap7 rfl
 refine b0a rfl rfl (fun x wx hG hp => ?_) (fun y _ _ h k => by obtain ⟨g, h1, h2⟩ := h; exact ⟨g, h1, h2.keep k id⟩) ?_
 ·try dsimp only
  have e9 : x 9 = .slice ap np cp := hp 9 ap12
  generalize x 9 = v9 at e9 ⊢
  subst e9
  have e10 : x 10 = .slice ab nb cb := hp 10 ap12
  generalize x 10 = v10 at e10 ⊢
  subst e10
  clear hp
  refine g0O rfl Tryz.underlying39 a0Z [.slice ap np cp, .slice ab nb cb] rfl (by intro u hu; simp only [List.mem_cons, List.not_mem_nil, or_false] at hu; rcases hu with rfl | rfl <;> rfl) rfl [.slice ap np cp, .slice ab nb cb] rfl (fun g w' hf _ hg => ⟨g, rfl, hg⟩)
 refine b0a rfl rfl (fun x wx hG hp => ?_) (fun y _ _ h k => by obtain ⟨y, h1, h2⟩ := h; exact ⟨y, h1, h2.still k⟩) ?_
 ·try dsimp only
  have e8 : x 8 = .slice (some ⟨g45, 0, none⟩) 2 2 := hp 8 ap12
  generalize x 8 = v8 at e8 ⊢
  subst e8
  have e11 : ∃ g : Nat, x 11 = .slice (some ⟨g, 0, none⟩) 2 2 ∧ Has wx g [.slice ap np cp, .slice ab nb cb] 22 := hp 11 ap12
  obtain ⟨gb, e11, HGB⟩ := e11
  generalize x 11 = v11 at e11 ⊢
  subst e11
  clear hp
  refine f0c rfl Tryz.call62 (vs := [.slice (some ⟨g45, 0, none⟩) 2 2, .slice (some ⟨gb, 0, none⟩) 2 2]) rfl ?_
  refine (t0k (some ⟨g45, 0, none⟩) 2 [(beN (s.drop 32)), (mQ.M - (beN (s.take 32)) % mQ.M)] (some ⟨gb, 0, none⟩) 2 [.slice ap np cp, .slice ab nb cb] [p, b] _ (by have h := Rd.whole (HBK.out.keep ((Fr.refl Nob _).drew.then hG.2) id); rwa [e0W] at h) ap14 (Rd.whole HGB) (BParts.two (a0s (HP2.out.still ((Fr.refl Nob _).drew.then hG.2))) (a0s (HB2.out.still ((Fr.refl Nob _).drew.then hG.2))))).mono ?_
  rintro e w' ⟨v, rfl, ho, hf⟩
  rw [HS2.out] at ho
  exact ⟨_, rfl, hf, v, rfl, OwnB1.ptb ho (by rw [k0P]; decide)⟩
 refine b0a rfl rfl (fun x wx hG hp => ?_) (fun y _ _ h k => h) ?_
 ·try dsimp only
  have e0 : x 0 = .slice ap np cp := hp 0 ap12
  generalize x 0 = v0 at e0 ⊢
  subst e0
  have e1 : x 1 = .slice aa na ca := hp 1 ap12
  generalize x 1 = v1 at e1 ⊢
  subst e1
  have e2 : x 2 = .slice ab nb cb := hp 2 ap12
  generalize x 2 = v2 at e2 ⊢
  subst e2
  have e7 : ∃ v, x 7 = v ∧ PartIs wx v (d0g (beN (s.drop 32)) (beN (s.take 32)) gP (a0W a)) := hp 7 ap12
  obtain ⟨vs7, e7, HV7⟩ := e7
  generalize x 7 = v7 at e7 ⊢
  subst e7
  have e12 : ∃ v, x 12 = v ∧ PartIs wx v (d0g (beN (s.drop 32)) (beN (s.take 32)) (a0W p) (a0W b)) := hp 12 ap12
  obtain ⟨vs12, e12, HV12⟩ := e12
  generalize x 12 = v12 at e12 ⊢
  subst e12
  clear hp
  refine f0c rfl Tryz.call79 (vs := [.slice ap np cp, .slice aa na ca, .slice ab nb cb, v7, v12]) rfl ?_
  refine (h0C (.slice ap np cp) p (.slice aa na ca) a (.slice ab nb cb) b v7 (d0g (beN (s.drop 32)) (beN (s.take 32)) gP (a0W a)) v12 (d0g (beN (s.drop 32)) (beN (s.take 32)) (a0W p) (a0W b)) _ (HP2.out.still ((Fr.refl Nob _).drew.then hG.2)) (HA2.out.still ((Fr.refl Nob _).drew.then hG.2)) (HB2.out.still ((Fr.refl Nob _).drew.then hG.2)) HV7 HV12).mono ?_
  rintro e w' ⟨rfl, hf⟩
  exact ⟨_, rfl, hf, rfl⟩
 refine b0a rfl rfl (fun x wx hG hp => ?_) (fun y _ _ h k => h) ?_
 ·try dsimp only
  clear hp
  exact d0L (v := i4 (elN mQ (beN (s.take 32)))) (c0L (hG.1.at 0 rfl) (x := .tmp 11) (p := 0) rfl rfl (cw 4 (elN mQ (beN (s.take 32)))) dZl Tryz.underlying68 rfl (d0I _)) rfl
 refine b0a rfl rfl (fun x wx hG hp => ?_) (fun y _ _ h k => h) ?_
 ·try dsimp only
  have e13 : x 13 = i4 (elN mQ (c0Y p a b (d0g (beN (s.drop 32)) (beN (s.take 32)) gP (a0W a)) (d0g (beN (s.drop 32)) (beN (s.take 32)) (a0W p) (a0W b)))) := hp 13 ap12
  generalize x 13 = v13 at e13 ⊢
  subst e13
  have e14 : x 14 = i4 (elN mQ (beN (s.take 32))) := hp 14 ap12
  generalize x 14 = v14 at e14 ⊢
  subst e14
  clear hp
  exact d0L (p0M mQ p0t _ _ rfl rfl rfl HB15.out _) rfl
 exact trivial
 intro x w9 hG hp
 try dsimp only
 have e15 : x 15 = .bool (vsB a p b s) := hp 15 ap12
 generalize x 15 = v15 at e15 ⊢
 subst e15
 clear hp
 generalize x 0 = v0
 generalize x 1 = v1
 generalize x 2 = v2
 generalize x 3 = v3
 generalize x 4 = v4
 generalize x 5 = v5
 generalize x 6 = v6
 generalize x 7 = v7
 generalize x 8 = v8
 generalize x 9 = v9
 generalize x 10 = v10
 generalize x 11 = v11
 generalize x 12 = v12
 generalize x 13 = v13
 generalize x 14 = v14
 have st9 := hG.1
 clear hG hd8
 refine a0p rfl rfl ?_
 go_simp
 try simp only [clL]
 refine a0f ?_
 refine NoPanic.normal ?_
 have hfr := FW.out.then st9.fr
 clear st9
 go_wp2_with fail
 go_ret
 exact ⟨rfl, hfr⟩
theorem k0Q (aa : Option Addr) (na ca : Nat) (a : List UInt8) (ap : Option Addr) (np cp : Nat) (p : List UInt8) (ab : Option Addr) (nb cb : Nat) (b : List UInt8) (as_ : Option Addr) (ns cs : Nat) (s : List UInt8) (w : World) (ha : PartIs w (.slice aa na ca) a) (hp : PartIs w (.slice ap np cp) p) (hb : PartIs w (.slice ab nb cb) b) (hs : PartIs w (.slice as_ ns cs) s) : Calls Tryz.prog 25 #[.slice aa na ca, .slice ap np cp, .slice ab nb cb, .slice as_ ns cs] w fun e w' => e = .returned (.bool (vsB a p b s)) ∧ Fr Nob w w' := by
 have hl := e0c hs
 cases h : vsG a p b s with
 | false =>
  rw [y0I h]
  unfold vsG at h
  cases h1 : b0h [a, p, b] with
  | false => exact z0j aa na ca a ap np cp p ab nb cb b as_ ns cs s w ha hp hb hs h1
  | true =>
   by_cases h2 : ns = 64
   ·subst h2
    obtain ⟨bs_, os, rfl, -⟩ := (c0r hs).at ap12
    rw [h1, decide_eq_true hl, Bool.true_and, Bool.true_and] at h
    exact z0l aa na ca a ap np cp p ab nb cb b bs_ os cs s w ha hp hb hs h1 h
   ·exact z0k aa na ca a ap np cp p ab nb cb b as_ ns cs s w ha hp hb hs h1 h2
 | true =>
  have h2 := h
  unfold vsG at h2
  simp only [Bool.and_eq_true, decide_eq_true_eq] at h2
  obtain rfl : ns = 64 := by omega
  obtain ⟨bs_, os, rfl, -⟩ := (c0r hs).at ap12
  exact z0m aa na ca a ap np cp p ab nb cb b bs_ os cs s w ha hp hb hs h
end
end Go.Proofs.YtemcankmggmgoaaGreat
namespace Go.Mv
open Go.RowKit
variable {P : Program} {ops : Array Oper} {a : Act} {w : World} {rest : List Oper} {Q : Exit → Act → World → Prop} {o : Oper}
theorem k0R {d s : Operand} {t u : TypeId} (hgd : o.guard = none) (ho : o.op = .call { callee := .builtin .copy, args := #[d, s], argTypes := #[t, u] }) {e : TypeId} (ht : P.underlying t = some (.slice e)) (hsz : (P.info? e).map (·.size) = some 1)
  {g off dn dc : Nat} (hd : a.eval d = .slice (some ⟨g, off, none⟩) dn dc) {q : ByteArray} (hs : a.eval s = .string q) {B : List Value} {T : TypeId} (hg : Has w g B T)
  (hfit : off + min q.size dn ≤ B.length)
  (h : ∀ w', Has w' g (splice B off (bs (q.data.toList.take (min q.size dn)))) T → Fr (One g) w w' → w'.heap.size = w.heap.size → wpList P ops Q rest (a.put o.dst (.int .i64 (min q.size dn : Nat))) w') : wpList P ops Q (o :: rest) a w := by
 refine wpList_plain hgd fun K hK => ?_
 obtain ⟨i, hi, hi1⟩ : ∃ i, P.info? e = some i ∧ i.size = 1 := by simpa using hsz
 have hlen : (bs (q.data.toList.take (min q.size dn))).length = min q.size dn := by rw [a0G, List.length_take]; simp
 obtain ⟨w', hst, hh, hf, hz⟩ := b0H (P := P) g off T (bs (q.data.toList.take (min q.size dn))) 0 B w hg (by rw [hlen]; omega) (g0k _)
 simp only [Nat.add_zero] at hh
 have hr : (Builtin.copy_ #[t, u] o.type #[.slice (some ⟨g, off, none⟩) dn dc, .string q]).run P w = .ok (.int .i64 (min q.size dn : Nat)) w' := by
  simp [Builtin.copy_, run_underlying ht, sizeOf, typeInfo, hi, Builtin.lenOf, Builtin.firstCells, w0r, goInt]
  rw [show q.size.min dn = min q.size dn from rfl, e0w, hst]
  rfl
 unfold Oper.wp execOp
 simp only [ho, resolve, invoke, builtin, Sem.run_bind, Sem.run_pure, Result.andThen_ok, List.map_toArray, List.map_cons, List.map_nil, hd, hs, hr]
 exact hK _ _ (h w' hh hf hz)
end Go.Mv
namespace Go.Proofs.YtemcankmggmgoaaGreat
open Go.RowKit Go.Mv Mvp Mvq
end Go.Proofs.YtemcankmggmgoaaGreat
