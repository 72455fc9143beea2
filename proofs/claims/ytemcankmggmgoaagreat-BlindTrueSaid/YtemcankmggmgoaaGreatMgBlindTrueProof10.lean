/- ; . -/
import Derived.Test.YtemcankmggmgoaaGreatMgBlindTrueProof9
import Derived.Test.YtemcankmggmgoaaGreatMgBlindTrueProof7
import Derived.Test.YtemcankmggmgoaaGreatMgBlindTrueProof1
set_option maxHeartbeats 16000000
set_option maxRecDepth 1000000

namespace Go.Proofs.YtemcankmggmgoaaGreat
open Go.RowKit Go.Mv Mvp Mvq
def vsG (a p b s : List UInt8) : Bool := b0I [a, p, b] && (decide (s.length = 64) && a0V mQ [s.take 32, s.drop 32])
noncomputable def d0n (z c : Nat) (p a : Pt) : List UInt8 := a0H (a0T (a0E z p) (f0j (a0E c a)))
theorem q0G {P A : List UInt8} (z c : Nat) (hP : b0J P = true) (hA : b0J A = true) : g0P (zB [z, mQ.M - c % mQ.M]) [P, A] = d0n z c (b0q P) (b0q A) := by
 rw [D0q _ _ rfl ap17 (by intro l hl; simp only [List.mem_cons, List.not_mem_nil, or_false] at hl; rcases hl with rfl | rfl <;> assumption)]
 simp only [List.zipWith_cons_cons, List.zipWith_nil_left, e0u]
 rw [b0w, p0d, q0s (l0q hA)]
 rfl
theorem n0F (z c : Nat) (p a : Pt) : (d0n z c p a).length = 33 := c0h _
theorem q0H {a p b : List UInt8} (h : b0I [a, p, b] = true) : b0B a = true ∧ b0B p = true ∧ b0B b = true := by
 unfold b0I at h
 simpa [and_assoc] using h
theorem D0r {x y : List UInt8} (h : a0V mQ [x, y] = true) : a0S mQ x = true ∧ a0S mQ y = true := by
 unfold a0V at h
 simpa using h
theorem E0r {a p b s : List UInt8} (h : vsG a p b s = false) : vsB a p b s = false := by
 unfold vsB
 unfold vsG b0I a0V at h
 simp only [List.all_cons, List.all_nil, Bool.and_true, Bool.and_assoc] at *
 have e : ∀ a b c d e f g : Bool, (a && (b && (c && (d && (e && f))))) = false → (a && (b && (c && (d && (e && (f && g)))))) = false := by decide
 exact e _ _ _ _ _ _ _ h
theorem z0k {a p b s : List UInt8} (h : vsG a p b s = true) : vsB a p b s = decide (d0a p a b (d0n (beN (s.drop 32)) (beN (s.take 32)) gP (b0q a)) (d0n (beN (s.drop 32)) (beN (s.take 32)) (b0q p) (b0q b)) = beN (s.take 32)) := by
 unfold vsB d0n
 unfold vsG at h
 simp only [Bool.and_eq_true] at h
 obtain ⟨h1, h2, h3⟩ := h
 obtain ⟨r1, r2, r3⟩ := q0H h1
 obtain ⟨n1, n2⟩ := D0r h3
 simp only [r1, r2, r3, h2, n1, n2, Bool.true_and]
theorem E0s (al : Option Addr) (n cl : Nat) (vs : List Value) (ls : List (List UInt8)) (w : World) (hv : Rd w al n vs) (hp : BParts w vs ls) (hn : n ≤ 100000) (h : a0V mQ ls = true) :
  Calls Tryz.prog 70 #[.slice al n cl] w fun e w' => ∃ v, e = .returned (.tuple #[v, .bool true]) ∧ Own w' w.heap.size 68 4 v ls.length (b0e mQ ls) ∧ Fr Nob w w' :=
 (u0x mQ .one al n cl vs ls w hv hp hn).mono fun e w' k => by obtain ⟨v, h1, h2⟩ := k.1 h; exact ⟨v, h1, h2, k.2.2⟩
theorem E0t (al : Option Addr) (n cl : Nat) (vs : List Value) (ls : List (List UInt8)) (w : World) (hv : Rd w al n vs) (hp : BParts w vs ls) (hn : n ≤ 100000) (h : a0V mQ ls = false) :
  Calls Tryz.prog 70 #[.slice al n cl] w fun e w' => e = .returned (.tuple #[.slice none 0 0, .bool false]) ∧ Fr Nob w w' :=
 (u0x mQ .one al n cl vs ls w hv hp hn).mono fun _ _ k => ⟨k.2.1 h, k.2.2⟩
theorem F0f (x y : List UInt8) : b0e mQ [x, y] = cw 4 (elN mQ (beN x)) ++ cw 4 (elN mQ (beN y)) := by simp [b0e]
attribute [local irreducible] a0C lw mix cw b0k b0y b0j a0M a0n beN b0F a0P b0C a0J a0R elN mdL a0S rtV b0G a0H b0J b0q a0V c0P h0Z g0P a0E b0g b0x toB a0u a0B b0h b0R a0L c0g b0b a0y c0s c0R c0T d0B d0a chN b0B b0I tS smC e0u b0e vsG
theorem F0g (aa : Option Addr) (na ca : Nat) (a : List UInt8) (ap : Option Addr) (np cp : Nat) (p : List UInt8) (ab : Option Addr) (nb cb : Nat) (b : List UInt8) (as_ : Option Addr) (ns cs : Nat) (s : List UInt8) (w : World) (ha : PartIs w (.slice aa na ca) a) (hp : PartIs w (.slice ap np cp) p) (hb : PartIs w (.slice ab nb cb) b) (_hs : PartIs w (.slice as_ ns cs) s) (hr : b0I [a, p, b] = false) : Calls Tryz.prog 25 #[.slice aa na ca, .slice ap np cp, .slice ab nb cb, .slice as_ ns cs] w fun e w' => e = .returned (.bool false) ∧ Fr Nob w w' := by
 have HA := qH ha
 have HP := qH hp
 have HB := qH hb
 have HR := qH hr
 clear ha hp hb _hs hr
 have st0 := St.start Nob w
 go_enter Tryz.func25, Tryz.ntmps25
 go_wp2_with (with_reducible refine wSk 17 ?_)
 refine c0q rfl rfl Tryz.underlying39 c0m [.slice aa na ca, .slice ap np cp, .slice ab nb cb] rfl (by simp; exact ⟨rfl, rfl, rfl⟩) rfl rfl ?_
 intro w1 hh1 hf1 hz1
 have st1 := st0.keep hf1
 have HSL := qH hh1
 clear hh1 hf1 hz1 st0
 generalize w.heap.size = gl17 at *
 go_wp2_with fail
 refine (f0A _ 3 3 [.slice aa na ca, .slice ap np cp, .slice ab nb cb] [a, p, b] _ (Rd.whole HSL.out) (BParts.three (b0t (HA.out.still st1.fr)) (b0t (HP.out.still st1.fr)) (b0t (HB.out.still st1.fr))) ap15).mono ?_
 rintro e' w2 ⟨rfl, hf2⟩
 have st2 := st1.keep hf2
 clear st1 hf2
 clear HSL
 rw [HR.out]
 have hfr := st2.fr
 clear st2
 go_wp2_with fail
 go_ret
 exact ⟨rfl, hfr⟩
theorem F0h (aa : Option Addr) (na ca : Nat) (a : List UInt8) (ap : Option Addr) (np cp : Nat) (p : List UInt8) (ab : Option Addr) (nb cb : Nat) (b : List UInt8) (as_ : Option Addr) (ns cs : Nat) (s : List UInt8) (w : World) (ha : PartIs w (.slice aa na ca) a) (hp : PartIs w (.slice ap np cp) p) (hb : PartIs w (.slice ab nb cb) b) (_hs : PartIs w (.slice as_ ns cs) s) (hr : b0I [a, p, b] = true) (hl : ns ≠ 64) : Calls Tryz.prog 25 #[.slice aa na ca, .slice ap np cp, .slice ab nb cb, .slice as_ ns cs] w fun e w' => e = .returned (.bool false) ∧ Fr Nob w w' := by
 have HA := qH ha
 have HP := qH hp
 have HB := qH hb
 have HR := qH hr
 have hne : ((ns : Int) != 64) = true := by simp; omega
 clear ha hp hb _hs hr hl
 have st0 := St.start Nob w
 go_enter Tryz.func25, Tryz.ntmps25
 go_wp2_with (with_reducible refine wSk 17 ?_)
 refine c0q rfl rfl Tryz.underlying39 c0m [.slice aa na ca, .slice ap np cp, .slice ab nb cb] rfl (by simp; exact ⟨rfl, rfl, rfl⟩) rfl rfl ?_
 intro w1 hh1 hf1 hz1
 have st1 := st0.keep hf1
 have HSL := qH hh1
 clear hh1 hf1 hz1 st0
 generalize w.heap.size = gl17 at *
 go_wp2_with fail
 refine (f0A _ 3 3 [.slice aa na ca, .slice ap np cp, .slice ab nb cb] [a, p, b] _ (Rd.whole HSL.out) (BParts.three (b0t (HA.out.still st1.fr)) (b0t (HP.out.still st1.fr)) (b0t (HB.out.still st1.fr))) ap15).mono ?_
 rintro e' w2 ⟨rfl, hf2⟩
 have st2 := st1.keep hf2
 clear st1 hf2
 clear HSL
 rw [HR.out]
 have hfr := st2.fr
 clear st2
 go_wp2_with fail
 go_ret
 exact ⟨rfl, hfr⟩
theorem F0i (aa : Option Addr) (na ca : Nat) (a : List UInt8) (ap : Option Addr) (np cp : Nat) (p : List UInt8) (ab : Option Addr) (nb cb : Nat) (b : List UInt8) (bs_ os cs : Nat) (s : List UInt8) (w : World) (ha : PartIs w (.slice aa na ca) a) (hp : PartIs w (.slice ap np cp) p) (hb : PartIs w (.slice ab nb cb) b) (hs : PartIs w (.slice (some ⟨bs_, os, none⟩) 64 cs) s) (hr : b0I [a, p, b] = true) (hn : a0V mQ [s.take 32, s.drop 32] = false) : Calls Tryz.prog 25 #[.slice aa na ca, .slice ap np cp, .slice ab nb cb, .slice (some ⟨bs_, os, none⟩) 64 cs] w fun e w' => e = .returned (.bool false) ∧ Fr Nob w w' := by
 have HA := qH ha
 have HP := qH hp
 have HB := qH hb
 have hcs : 64 ≤ cs := by obtain ⟨a', n', c', he, hc, -⟩ := hs; cases he; exact hc
 have HSC := qH (b0t (k0y hs 32 ap15))
 have HSZ := qH (b0t (k0z hs 32 ap15))
 have hcI : (32 : Int) ≤ (cs : Int) := by omega
 have hcN : ¬ (cs = 32) := by omega
 have HR := qH hr
 have HN := qH hn
 clear ha hp hb hs hr hn hcs
 have st0 := St.start Nob w
 go_enter Tryz.func25, Tryz.ntmps25
 go_wp2_with (with_reducible refine wSk 17 ?_)
 refine c0q rfl rfl Tryz.underlying39 c0m [.slice aa na ca, .slice ap np cp, .slice ab nb cb] rfl (by simp; exact ⟨rfl, rfl, rfl⟩) rfl rfl ?_
 intro w1 hh1 hf1 hz1
 have st1 := st0.keep hf1
 have HSL := qH hh1
 clear hh1 hf1 hz1 st0
 generalize w.heap.size = gl17 at *
 go_wp2_with fail
 refine (f0A _ 3 3 [.slice aa na ca, .slice ap np cp, .slice ab nb cb] [a, p, b] _ (Rd.whole HSL.out) (BParts.three (b0t (HA.out.still st1.fr)) (b0t (HP.out.still st1.fr)) (b0t (HB.out.still st1.fr))) ap15).mono ?_
 rintro e' w2 ⟨rfl, hf2⟩
 have st2 := st1.keep hf2
 clear st1 hf2
 clear HSL
 rw [HR.out]
 go_wp2_with fail
 refine wp_region_noPanic ?_
 refine a0e st2 10 [.w 0, .w 1, .w 2, .w 3, .o 4, .j 4] (.r 5 (.w 6 (.w 7 (.w 8 (.w 9 (.m 10 .nil)))))) ap14 ap14 (fun _ _ _ _ _ h => h) ?_
 clear st2
 refine a0m rfl rfl apX ?_
 try simp only [clL]
 refine a0m rfl rfl apX ?_
 try simp only [clL]
 refine a0m rfl rfl apX ?_
 try simp only [clL]
 refine a0m rfl rfl apX ?_
 try simp only [clL]
 refine g0O rfl rfl rfl Tryz.underlying39 c0m [.slice (some ⟨bs_, os, none⟩) 32 cs, .slice (some ⟨bs_, os + 32, none⟩) (64 - 32) (cs - 32)] (fun _ => rfl) (by simp [Value.cells]) rfl [.slice (some ⟨bs_, os, none⟩) 32 cs, .slice (some ⟨bs_, os + 32, none⟩) (64 - 32) (cs - 32)] rfl ?_
 try simp only [clL]
 refine b0f List.mem_cons_self fun g30 => ?_
 simp only [upd, reduceIte]
 try simp only [Nat.reduceEqDiff, reduceIte]
 refine a0t fun xq w3 st3 hR => ?_
 try dsimp only
 clear hR xq
 refine a0w rfl rfl ?_
 go_simp
 refine (E0t (some ⟨g30, 0, none⟩) 2 2 [.slice (some ⟨bs_, os, none⟩) 32 cs, .slice (some ⟨bs_, os + 32, none⟩) (64 - 32) (cs - 32)] [s.take 32, s.drop 32] _ (Rd.whole (st3.at 0 rfl)) (BParts.two (HSC.out.still st3.fr) (HSZ.out.still st3.fr)) ap15 HN.out).mono ?_
 rintro e' w4 ⟨rfl, hf4⟩
 have st4 := st3.keep hf4
 clear hf4
 clear st3
 refine ⟨by first | exact st4 | exact St.less st4 ap17, ?_⟩
 try simp only [clL]
 refine a0j rfl rfl apW ?_
 try simp only [clL]
 refine a0j rfl rfl apW ?_
 try simp only [clL]
 refine a0j rfl rfl apW ?_
 try simp only [clL]
 refine a0j rfl rfl apW ?_
 try simp only [clL]
 refine a0q rfl rfl ?_
 go_simp
 try simp only [clL]
 refine a0g ?_
 refine NoPanic.normal ?_
 have hfr := st4.fr
 clear st4
 go_wp2_with fail
 go_ret
 exact ⟨rfl, hfr⟩
theorem _root_.ap8 {p : Prop} (h : p := by go_simp; try with_reducible rfl) : p := h
theorem F0j (aa : Option Addr) (na ca : Nat) (a : List UInt8) (ap : Option Addr) (np cp : Nat) (p : List UInt8) (ab : Option Addr) (nb cb : Nat) (b : List UInt8) (bs_ os cs : Nat) (s : List UInt8) (w : World) (ha : PartIs w (.slice aa na ca) a) (hp : PartIs w (.slice ap np cp) p) (hb : PartIs w (.slice ab nb cb) b) (hs : PartIs w (.slice (some ⟨bs_, os, none⟩) 64 cs) s) (h : vsG a p b s = true) : Calls Tryz.prog 25 #[.slice aa na ca, .slice ap np cp, .slice ab nb cb, .slice (some ⟨bs_, os, none⟩) 64 cs] w fun e w' => e = .returned (.bool (vsB a p b s)) ∧ Fr Nob w w' := by
 have hr : b0I [a, p, b] = true := by unfold vsG at h; simp only [Bool.and_eq_true] at h; exact h.1
 have hn : a0V mQ [s.take 32, s.drop 32] = true := by unfold vsG at h; simp only [Bool.and_eq_true] at h; exact h.2.2
 have HS1 := qH (q0G (beN (s.drop 32)) (beN (s.take 32)) (f0k f0n).1 (f0S (q0H hr).1))
 rw [(f0k f0n).2] at HS1
 have HS2 := qH (q0G (beN (s.drop 32)) (beN (s.take 32)) (f0S (q0H hr).2.1) (f0S (q0H hr).2.2))
 have HEQ := qH (show ((d0a p a b (d0n (beN (s.drop 32)) (beN (s.take 32)) gP (b0q a)) (d0n (beN (s.drop 32)) (beN (s.take 32)) (b0q p) (b0q b))) % mQ.M == (beN (s.take 32)) % mQ.M) = vsB a p b s by
  rw [z0k h, Nat.mod_eq_of_lt (l0N _ _ _ _ _), Nat.mod_eq_of_lt (d0Y (D0r hn).1)]
  rfl)
 have HA := qH ha
 have HP := qH hp
 have HB := qH hb
 have hcs : 64 ≤ cs := by obtain ⟨a', n', c', he, hc, -⟩ := hs; cases he; exact hc
 have HSC := qH (b0t (k0y hs 32 ap15))
 have HSZ := qH (b0t (k0z hs 32 ap15))
 have hcI : (32 : Int) ≤ (cs : Int) := by omega
 have hcN : ¬ (cs = 32) := by omega
 have HR := qH hr
 have HN := qH hn
 clear ha hp hb hs hr hn hcs h
 have st0 := St.start Nob w
 go_enter Tryz.func25, Tryz.ntmps25
 go_wp2_with (with_reducible refine wSk 17 ?_)
 refine c0q rfl rfl Tryz.underlying39 c0m [.slice aa na ca, .slice ap np cp, .slice ab nb cb] rfl (by simp; exact ⟨rfl, rfl, rfl⟩) rfl rfl ?_
 intro w1 hh1 hf1 hz1
 have st1 := st0.keep hf1
 have HSL := qH hh1
 clear hh1 hf1 hz1 st0
 generalize w.heap.size = gl17 at *
 go_wp2_with fail
 refine (f0A _ 3 3 [.slice aa na ca, .slice ap np cp, .slice ab nb cb] [a, p, b] _ (Rd.whole HSL.out) (BParts.three (b0t (HA.out.still st1.fr)) (b0t (HP.out.still st1.fr)) (b0t (HB.out.still st1.fr))) ap15).mono ?_
 rintro e' w2 ⟨rfl, hf2⟩
 have st2 := st1.keep hf2
 clear st1 hf2
 clear HSL
 rw [HR.out]
 go_wp2_with fail
 refine wp_region_noPanic ?_
 refine a0e st2 10 [.w 0, .w 1, .w 2, .w 3, .o 4, .j 4] (.r 5 (.w 6 (.w 7 (.w 8 (.w 9 (.m 10 .nil)))))) ap14 ap14 (fun _ _ _ _ _ h => h) ?_
 clear st2
 refine a0m rfl rfl apX ?_
 try simp only [clL]
 refine a0m rfl rfl apX ?_
 try simp only [clL]
 refine a0m rfl rfl apX ?_
 try simp only [clL]
 refine a0m rfl rfl apX ?_
 try simp only [clL]
 refine g0O rfl rfl rfl Tryz.underlying39 c0m [.slice (some ⟨bs_, os, none⟩) 32 cs, .slice (some ⟨bs_, os + 32, none⟩) (64 - 32) (cs - 32)] (fun _ => rfl) (by simp [Value.cells]) rfl [.slice (some ⟨bs_, os, none⟩) 32 cs, .slice (some ⟨bs_, os + 32, none⟩) (64 - 32) (cs - 32)] rfl ?_
 try simp only [clL]
 refine b0f List.mem_cons_self fun g30 => ?_
 simp only [upd, reduceIte]
 try simp only [Nat.reduceEqDiff, reduceIte]
 refine a0t fun xq w3 st3 hR => ?_
 try dsimp only
 clear hR xq
 refine a0w rfl rfl ?_
 go_simp
 refine (E0s (some ⟨g30, 0, none⟩) 2 2 [.slice (some ⟨bs_, os, none⟩) 32 cs, .slice (some ⟨bs_, os + 32, none⟩) (64 - 32) (cs - 32)] [s.take 32, s.drop 32] _ (Rd.whole (st3.at 0 rfl)) (BParts.two (HSC.out.still st3.fr) (HSZ.out.still st3.fr)) ap15 HN.out).mono ?_
 rintro e' w4 ⟨v, rfl, ho, hf4⟩
 have st4 := st3.keep hf4
 have HV := qH ho
 clear ho
 clear hf4
 clear st3
 refine ⟨by first | exact st4 | exact St.less st4 ap17, ?_⟩
 try simp only [clL]
 refine a0j rfl rfl apW ?_
 try simp only [clL]
 refine a0j rfl rfl apW ?_
 try simp only [clL]
 refine a0j rfl rfl apW ?_
 try simp only [clL]
 refine a0j rfl rfl apW ?_
 try simp only [clL]
 refine a0q rfl rfl ?_
 go_simp
 try simp only [clL]
 refine a0g ?_
 refine NoPanic.normal ?_
 have HV2 := HV.out
 obtain ⟨av, cv, rfl, -, hrv, -⟩ := HV2.form
 rw [F0f] at hrv
 obtain ⟨bv, ov, rfl, -⟩ := hrv.at ap17
 have HRV := qH hrv
 clear hrv HV HV2
 have FW := qH st4.fr
 clear st4
 have stB := St.start Nob w4
 clear hcI hcN
 go_wp2_with fail
 refine wp_region_noPanic ?_
 refine a0e stB 9 [.o 6, .o 7, .w 0, .w 1, .t 2, .w 3, .w 4, .t 5, .j 6, .j 7] (.r 8 (.m 9 .nil)) ap14 ap14 (fun _ _ _ _ _ h => h) ?_
 clear stB
 refine b0p rfl rfl rfl (z := zAd) ap14 (cw 4 0) ap12 ?_
 try simp only [clL]
 refine b0p rfl rfl rfl (z := zAd) ap14 (cw 4 0) ap12 ?_
 try simp only [clL]
 refine a0m rfl rfl apX ?_
 try simp only [clL]
 refine a0m rfl rfl apX ?_
 try simp only [clL]
 refine a0d rfl rfl rfl (fun _ => rfl) (cw 4 (elN mQ (beN (s.take 32)))) (fun wx hS => (g0x (HRV.out.still (St.fr hS)) 0 _ (f0a 4 4 _ _))) Tryz.underlying68 rfl ap4 ?_
 try simp only [clL]
 refine a0m rfl rfl apX ?_
 try simp only [clL]
 refine a0m rfl rfl apX ?_
 try simp only [clL]
 refine a0d rfl rfl rfl (fun _ => rfl) (cw 4 (elN mQ (beN (s.drop 32)))) (fun wx hS => (g0x (HRV.out.still (St.fr hS)) 4 _ (p0G 4 4 _ _))) Tryz.underlying68 rfl ap4 ?_
 try simp only [clL]
 refine b0f (List.mem_cons_of_mem _ List.mem_cons_self) fun g11 => ?_
 simp only [upd, reduceIte]
 try simp only [Nat.reduceEqDiff, reduceIte]
 refine b0f List.mem_cons_self fun g12 => ?_
 simp only [upd, reduceIte]
 try simp only [Nat.reduceEqDiff, reduceIte]
 refine a0t fun xq w5 st5 hR => ?_
 try dsimp only
 clear hR xq
 refine a0w rfl rfl ?_
 refine a0h st5 0 rfl rfl rfl rfl ap5 ap4 (a0f _ _) ?_
 intro w6 st6
 repeat (first | simp only [List.cons_append] at st6 | simp only [List.nil_append] at st6 | simp only [List.set_cons_succ] at st6 | simp only [List.set_cons_zero] at st6)
 clear st5
 refine ⟨by first | exact st6 | exact St.less st6 ap17, ?_⟩
 try simp only [Act.put]
 refine a0q rfl rfl ?_
 refine a0h st6 1 rfl rfl rfl rfl ap5 ap4 (a0f _ _) ?_
 intro w7 st7
 repeat (first | simp only [List.cons_append] at st7 | simp only [List.nil_append] at st7 | simp only [List.set_cons_succ] at st7 | simp only [List.set_cons_zero] at st7)
 clear st6
 try simp only [Act.put]
 refine a0g ?_
 refine NoPanic.normal ?_
 clear HRV
 go_wp2_with fail
 refine wp_region_noPanic ?_
 refine a0e st7 4 [.t 0, .t 1, .c 2, .o 3, .j 3] (.m 4 .nil) ap14 ap14 (fun _ _ _ _ _ h => h) ?_
 clear st7
 refine a0d rfl rfl rfl (fun _ => rfl) (cw 4 (elN mQ (beN (s.drop 32)))) (fun wx hS => St.rangeL hS 1 rfl 0 _ dZl) Tryz.underlying68 rfl ap4 ?_
 try simp only [clL]
 refine a0d rfl rfl rfl (fun _ => rfl) (cw 4 (elN mQ (beN (s.take 32)))) (fun wx hS => St.rangeL hS 0 rfl 0 _ dZl) Tryz.underlying68 rfl ap4 ?_
 try simp only [clL]
 refine a0c rfl rfl rfl Tryz.call64 (fun w hS hR => q0z mQ .one (beN (s.take 32)) _) (fun _ => rfl) ?_
 try simp only [clL]
 refine g0O rfl rfl rfl Tryz.underlying93 t0v [i4 (elN mQ (beN (s.drop 32))), i4 (elN mQ (mQ.M - (beN (s.take 32)) % mQ.M))] (fun _ => rfl) (by intro u hu; simp only [List.mem_cons, List.not_mem_nil, or_false] at hu; rcases hu with rfl | rfl <;> exact E0q _) rfl (c0T [(beN (s.drop 32)), (mQ.M - (beN (s.take 32)) % mQ.M)]) (by unfold c0T; simp [p0E]) ?_
 try simp only [clL]
 refine b0f List.mem_cons_self fun g45 => ?_
 simp only [upd, reduceIte]
 try simp only [Nat.reduceEqDiff, reduceIte]
 refine a0t fun xq w8 st8 hR => ?_
 try dsimp only
 clear hR xq
 refine a0q rfl rfl ?_
 go_simp
 try simp only [clL]
 refine a0g ?_
 refine NoPanic.normal ?_
 have HBK := qH (st8.at 2 rfl)
 have FA := qH (FW.out.then st8.fr)
 have HA2 := qH (HA.out.still FA.out)
 have HP2 := qH (HP.out.still FA.out)
 have HB2 := qH (HB.out.still FA.out)
 clear FA HA HP HB
 have hb15 : ((d0a p a b (d0n (beN (s.drop 32)) (beN (s.take 32)) gP (b0q a)) (d0n (beN (s.drop 32)) (beN (s.take 32)) (b0q p) (b0q b))) % mQ.M == (beN (s.take 32)) % mQ.M) = vsB a p b s := HEQ.out
 have HB15 := qH hb15
 clear hb15
 go_wp2_with fail
 refine wp_region_noPanic ?_
 have hd8 := st8.drew
 clear st8
 refine e0c (fun wx => St Nob w4 wx [(g11, cw 4 (elN mQ (beN (s.take 32))), 68), (g12, cw 4 (elN mQ (beN (s.drop 32))), 68), (g45, (c0T [(beN (s.drop 32)), (mQ.M - (beN (s.take 32)) % mQ.M)]), 68)] ∧ Fr Nob (World.drew _) wx) [0, 1, 2, 3, 4, 5, 6, 7, 8, 9, 10, 11, 12, 13, 14, 15] [] (fun i => match i with | 0 => [] | 1 => [] | 2 => [] | 3 => [] | 4 => [] | 5 => [] | 6 => [4, 5] | 7 => [3, 6] | 8 => [] | 9 => [] | 10 => [] | 11 => [9, 10] | 12 => [8, 11] | 13 => [0, 1, 2, 7, 12] | 14 => [] | 15 => [13, 14] | _ => []) (fun i x wx => match i with | 0 => x 0 = .slice ap np cp | 1 => x 1 = .slice aa na ca | 2 => x 2 = .slice ab nb cb | 3 => x 3 = .slice (some ⟨g45, 0, none⟩) 2 2 | 4 => ∃ y : Option Addr × Nat, x 4 = .slice y.1 33 y.2 ∧ BPart wx (.slice y.1 33 y.2) (a0H gP) | 5 => x 5 = .slice aa na ca | 6 => ∃ (g : Nat) (y : Option Addr × Nat), x 6 = .slice (some ⟨g, 0, none⟩) 2 2 ∧ Has wx g [.slice y.1 33 y.2, .slice aa na ca] 22 ∧ BPart wx (.slice y.1 33 y.2) (a0H gP) | 7 => ∃ v, x 7 = v ∧ PartIs wx v (d0n (beN (s.drop 32)) (beN (s.take 32)) gP (b0q a)) | 8 => x 8 = .slice (some ⟨g45, 0, none⟩) 2 2 | 9 => x 9 = .slice ap np cp | 10 => x 10 = .slice ab nb cb | 11 => ∃ g : Nat, x 11 = .slice (some ⟨g, 0, none⟩) 2 2 ∧ Has wx g [.slice ap np cp, .slice ab nb cb] 22 | 12 => ∃ v, x 12 = v ∧ PartIs wx v (d0n (beN (s.drop 32)) (beN (s.take 32)) (b0q p) (b0q b)) | 13 => x 13 = i4 (elN mQ (d0a p a b (d0n (beN (s.drop 32)) (beN (s.take 32)) gP (b0q a)) (d0n (beN (s.drop 32)) (beN (s.take 32)) (b0q p) (b0q b)))) | 14 => x 14 = i4 (elN mQ (beN (s.take 32))) | 15 => x 15 = .bool (vsB a p b s) | _ => True) 16 (.m 16 .nil) ?_ (fun x => ?_) ap14 ap14 (fun _ _ _ _ _ h => h) ⟨hd8, Fr.refl _ _⟩ (fun _ _ h k => ⟨h.1.keep k, h.2.then k⟩) ?_ ?_
 rotate_left 1
 ·simp only [h0l, z0i, Act.put, List.getElem?_toArray, List.getElem?_cons_zero, List.getElem?_cons_succ, List.setIfInBounds_toArray, List.set_cons_zero, List.set_cons_succ]
  exact rfl
 refine a0D rfl rfl (fun x wx hG hp => ?_) (fun y _ _ h k => h) ?_
 ·try dsimp only
  clear hp
  exact d0R (v := .slice ap np cp) ap8 rfl
 refine a0D rfl rfl (fun x wx hG hp => ?_) (fun y _ _ h k => h) ?_
 ·try dsimp only
  clear hp
  exact d0R (v := .slice aa na ca) ap8 rfl
 refine a0D rfl rfl (fun x wx hG hp => ?_) (fun y _ _ h k => h) ?_
 ·try dsimp only
  clear hp
  exact d0R (v := .slice ab nb cb) ap8 rfl
 refine a0D rfl rfl (fun x wx hG hp => ?_) (fun y _ _ h k => h) ?_
 ·try dsimp only
  clear hp
  exact d0R (v := .slice (some ⟨g45, 0, none⟩) 2 2) ap8 rfl
 refine a0D rfl rfl (fun x wx hG hp => ?_) (fun y _ _ h k => by obtain ⟨y, h1, h2⟩ := h; exact ⟨y, h1, h2.still k⟩) ?_
 ·try dsimp only
  clear hp
  refine e0U rfl Tryz.call29 (vs := []) rfl ?_
  refine (p0f _).mono ?_
  rintro e w' ⟨y, rfl, hb, hf⟩
  exact ⟨_, rfl, hf, y, rfl, hb⟩
 refine a0D rfl rfl (fun x wx hG hp => ?_) (fun y _ _ h k => h) ?_
 ·try dsimp only
  clear hp
  exact d0R (v := .slice aa na ca) ap8 rfl
 refine a0D rfl rfl (fun x wx hG hp => ?_) (fun y _ _ h k => by obtain ⟨g, y, h1, h2, h3⟩ := h; exact ⟨g, y, h1, h2.keep k id, h3.still k⟩) ?_
 ·try dsimp only
  have e4 : ∃ y : Option Addr × Nat, x 4 = .slice y.1 33 y.2 ∧ BPart wx (.slice y.1 33 y.2) (a0H gP) := hp 4 ap15
  obtain ⟨yb, e4, HYB⟩ := e4
  generalize x 4 = v4 at e4 ⊢
  subst e4
  have e5 : x 5 = .slice aa na ca := hp 5 ap15
  generalize x 5 = v5 at e5 ⊢
  subst e5
  clear hp
  refine i0c rfl Tryz.underlying39 c0m [.slice yb.1 33 yb.2, .slice aa na ca] rfl (by intro u hu; simp only [List.mem_cons, List.not_mem_nil, or_false] at hu; rcases hu with rfl | rfl <;> rfl) rfl [.slice yb.1 33 yb.2, .slice aa na ca] rfl (fun g w' hf _ hg => ⟨g, yb, rfl, hg, HYB.still hf⟩)
 refine a0D rfl rfl (fun x wx hG hp => ?_) (fun y _ _ h k => by obtain ⟨y, h1, h2⟩ := h; exact ⟨y, h1, h2.still k⟩) ?_
 ·try dsimp only
  have e3 : x 3 = .slice (some ⟨g45, 0, none⟩) 2 2 := hp 3 ap15
  generalize x 3 = v3 at e3 ⊢
  subst e3
  have e6 : ∃ (g : Nat) (y : Option Addr × Nat), x 6 = .slice (some ⟨g, 0, none⟩) 2 2 ∧ Has wx g [.slice y.1 33 y.2, .slice aa na ca] 22 ∧ BPart wx (.slice y.1 33 y.2) (a0H gP) := hp 6 ap15
  obtain ⟨ga, yc, e6, HGA, HYC⟩ := e6
  generalize x 6 = v6 at e6 ⊢
  subst e6
  clear hp
  refine e0U rfl Tryz.call62 (vs := [.slice (some ⟨g45, 0, none⟩) 2 2, .slice (some ⟨ga, 0, none⟩) 2 2]) rfl ?_
  refine (D0p (some ⟨g45, 0, none⟩) 2 [(beN (s.drop 32)), (mQ.M - (beN (s.take 32)) % mQ.M)] (some ⟨ga, 0, none⟩) 2 [.slice yc.1 33 yc.2, .slice aa na ca] [a0H gP, a] _ (by have h := Rd.whole (HBK.out.keep ((Fr.refl Nob _).drew.then hG.2) id); rwa [k0t] at h) ap17 (Rd.whole HGA) (BParts.two HYC (b0t (HA2.out.still ((Fr.refl Nob _).drew.then hG.2))))).mono ?_
  rintro e w' ⟨v, rfl, ho, hf⟩
  rw [HS1.out] at ho
  exact ⟨_, rfl, hf, v, rfl, OwnB1.ptb ho (by rw [n0F]; decide)⟩
 refine a0D rfl rfl (fun x wx hG hp => ?_) (fun y _ _ h k => h) ?_
 ·try dsimp only
  clear hp
  exact d0R (v := .slice (some ⟨g45, 0, none⟩) 2 2) ap8 rfl
 refine a0D rfl rfl (fun x wx hG hp => ?_) (fun y _ _ h k => h) ?_
 ·try dsimp only
  clear hp
  exact d0R (v := .slice ap np cp) ap8 rfl
 refine a0D rfl rfl (fun x wx hG hp => ?_) (fun y _ _ h k => h) ?_
 ·try dsimp only
  clear hp
  exact d0R (v := .slice ab nb cb) ap8 rfl
 refine a0D rfl rfl (fun x wx hG hp => ?_) (fun y _ _ h k => by obtain ⟨g, h1, h2⟩ := h; exact ⟨g, h1, h2.keep k id⟩) ?_
 ·try dsimp only
  have e9 : x 9 = .slice ap np cp := hp 9 ap15
  generalize x 9 = v9 at e9 ⊢
  subst e9
  have e10 : x 10 = .slice ab nb cb := hp 10 ap15
  generalize x 10 = v10 at e10 ⊢
  subst e10
  clear hp
  refine i0c rfl Tryz.underlying39 c0m [.slice ap np cp, .slice ab nb cb] rfl (by intro u hu; simp only [List.mem_cons, List.not_mem_nil, or_false] at hu; rcases hu with rfl | rfl <;> rfl) rfl [.slice ap np cp, .slice ab nb cb] rfl (fun g w' hf _ hg => ⟨g, rfl, hg⟩)
 refine a0D rfl rfl (fun x wx hG hp => ?_) (fun y _ _ h k => by obtain ⟨y, h1, h2⟩ := h; exact ⟨y, h1, h2.still k⟩) ?_
 ·try dsimp only
  have e8 : x 8 = .slice (some ⟨g45, 0, none⟩) 2 2 := hp 8 ap15
  generalize x 8 = v8 at e8 ⊢
  subst e8
  have e11 : ∃ g : Nat, x 11 = .slice (some ⟨g, 0, none⟩) 2 2 ∧ Has wx g [.slice ap np cp, .slice ab nb cb] 22 := hp 11 ap15
  obtain ⟨gb, e11, HGB⟩ := e11
  generalize x 11 = v11 at e11 ⊢
  subst e11
  clear hp
  refine e0U rfl Tryz.call62 (vs := [.slice (some ⟨g45, 0, none⟩) 2 2, .slice (some ⟨gb, 0, none⟩) 2 2]) rfl ?_
  refine (D0p (some ⟨g45, 0, none⟩) 2 [(beN (s.drop 32)), (mQ.M - (beN (s.take 32)) % mQ.M)] (some ⟨gb, 0, none⟩) 2 [.slice ap np cp, .slice ab nb cb] [p, b] _ (by have h := Rd.whole (HBK.out.keep ((Fr.refl Nob _).drew.then hG.2) id); rwa [k0t] at h) ap17 (Rd.whole HGB) (BParts.two (b0t (HP2.out.still ((Fr.refl Nob _).drew.then hG.2))) (b0t (HB2.out.still ((Fr.refl Nob _).drew.then hG.2))))).mono ?_
  rintro e w' ⟨v, rfl, ho, hf⟩
  rw [HS2.out] at ho
  exact ⟨_, rfl, hf, v, rfl, OwnB1.ptb ho (by rw [n0F]; decide)⟩
 refine a0D rfl rfl (fun x wx hG hp => ?_) (fun y _ _ h k => h) ?_
 ·try dsimp only
  have e0 : x 0 = .slice ap np cp := hp 0 ap15
  generalize x 0 = v0 at e0 ⊢
  subst e0
  have e1 : x 1 = .slice aa na ca := hp 1 ap15
  generalize x 1 = v1 at e1 ⊢
  subst e1
  have e2 : x 2 = .slice ab nb cb := hp 2 ap15
  generalize x 2 = v2 at e2 ⊢
  subst e2
  have e7 : ∃ v, x 7 = v ∧ PartIs wx v (d0n (beN (s.drop 32)) (beN (s.take 32)) gP (b0q a)) := hp 7 ap15
  obtain ⟨vs7, e7, HV7⟩ := e7
  generalize x 7 = v7 at e7 ⊢
  subst e7
  have e12 : ∃ v, x 12 = v ∧ PartIs wx v (d0n (beN (s.drop 32)) (beN (s.take 32)) (b0q p) (b0q b)) := hp 12 ap15
  obtain ⟨vs12, e12, HV12⟩ := e12
  generalize x 12 = v12 at e12 ⊢
  subst e12
  clear hp
  refine e0U rfl Tryz.call79 (vs := [.slice ap np cp, .slice aa na ca, .slice ab nb cb, v7, v12]) rfl ?_
  refine (j0j (.slice ap np cp) p (.slice aa na ca) a (.slice ab nb cb) b v7 (d0n (beN (s.drop 32)) (beN (s.take 32)) gP (b0q a)) v12 (d0n (beN (s.drop 32)) (beN (s.take 32)) (b0q p) (b0q b)) _ (HP2.out.still ((Fr.refl Nob _).drew.then hG.2)) (HA2.out.still ((Fr.refl Nob _).drew.then hG.2)) (HB2.out.still ((Fr.refl Nob _).drew.then hG.2)) HV7 HV12).mono ?_
  rintro e w' ⟨rfl, hf⟩
  exact ⟨_, rfl, hf, rfl⟩
 refine a0D rfl rfl (fun x wx hG hp => ?_) (fun y _ _ h k => h) ?_
 ·try dsimp only
  clear hp
  exact d0R (v := i4 (elN mQ (beN (s.take 32)))) (e0x (hG.1.at 0 rfl) (x := .tmp 11) (p := 0) rfl rfl (cw 4 (elN mQ (beN (s.take 32)))) dZl Tryz.underlying68 rfl (h0k _)) rfl
 refine a0D rfl rfl (fun x wx hG hp => ?_) (fun y _ _ h k => h) ?_
 ·try dsimp only
  have e13 : x 13 = i4 (elN mQ (d0a p a b (d0n (beN (s.drop 32)) (beN (s.take 32)) gP (b0q a)) (d0n (beN (s.drop 32)) (beN (s.take 32)) (b0q p) (b0q b)))) := hp 13 ap15
  generalize x 13 = v13 at e13 ⊢
  subst e13
  have e14 : x 14 = i4 (elN mQ (beN (s.take 32))) := hp 14 ap15
  generalize x 14 = v14 at e14 ⊢
  subst e14
  clear hp
  exact d0R (t0B mQ m0H _ _ rfl rfl rfl HB15.out _) rfl
 exact trivial
 intro x w9 hG hp
 try dsimp only
 have e15 : x 15 = .bool (vsB a p b s) := hp 15 ap15
 generalize x 15 = v15 at e15 ⊢
 subst e15
 clear hp
 generalize x 0 = v0
 generalize x 1 = v1
 generalize x 2 = v2
 generalize x 3 = v3
 generalize x 4 = v4
 generalize x 5 = v5
 generalize x 6 = v6
 generalize x 7 = v7
 generalize x 8 = v8
 generalize x 9 = v9
 generalize x 10 = v10
 generalize x 11 = v11
 generalize x 12 = v12
 generalize x 13 = v13
 generalize x 14 = v14
 have st9 := hG.1
 clear hG hd8
 refine a0q rfl rfl ?_
 go_simp
 try simp only [clL]
 refine a0g ?_
 refine NoPanic.normal ?_
 have hfr := FW.out.then st9.fr
 clear st9
 go_wp2_with fail
 go_ret
 exact ⟨rfl, hfr⟩
theorem n0G (aa : Option Addr) (na ca : Nat) (a : List UInt8) (ap : Option Addr) (np cp : Nat) (p : List UInt8) (ab : Option Addr) (nb cb : Nat) (b : List UInt8) (as_ : Option Addr) (ns cs : Nat) (s : List UInt8) (w : World) (ha : PartIs w (.slice aa na ca) a) (hp : PartIs w (.slice ap np cp) p) (hb : PartIs w (.slice ab nb cb) b) (hs : PartIs w (.slice as_ ns cs) s) : Calls Tryz.prog 25 #[.slice aa na ca, .slice ap np cp, .slice ab nb cb, .slice as_ ns cs] w fun e w' => e = .returned (.bool (vsB a p b s)) ∧ Fr Nob w w' := by
 have hl := v0l hs
 cases h : vsG a p b s with
 | false =>
  rw [E0r h]
  unfold vsG at h
  cases h1 : b0I [a, p, b] with
  | false => exact F0g aa na ca a ap np cp p ab nb cb b as_ ns cs s w ha hp hb hs h1
  | true =>
   by_cases h2 : ns = 64
   ·subst h2
    obtain ⟨bs_, os, rfl, -⟩ := (d0N hs).at ap15
    rw [h1, decide_eq_true hl, Bool.true_and, Bool.true_and] at h
    exact F0i aa na ca a ap np cp p ab nb cb b bs_ os cs s w ha hp hb hs h1 h
   ·exact F0h aa na ca a ap np cp p ab nb cb b as_ ns cs s w ha hp hb hs h1 h2
 | true =>
  have h2 := h
  unfold vsG at h2
  simp only [Bool.and_eq_true, decide_eq_true_eq] at h2
  obtain rfl : ns = 64 := by omega
  obtain ⟨bs_, os, rfl, -⟩ := (d0N hs).at ap15
  exact F0j aa na ca a ap np cp p ab nb cb b bs_ os cs s w ha hp hb hs h
end Go.Proofs.YtemcankmggmgoaaGreat
namespace Go.Mv
open Go.RowKit
variable {P : Program} {ops : Array Oper} {a : Act} {w : World} {rest : List Oper} {Q : Exit → Act → World → Prop} {o : Oper}
theorem n0H {d s : Operand} {t u : TypeId} (hgd : o.guard = none) (ho : o.op = .call { callee := .builtin .copy, args := #[d, s], argTypes := #[t, u] }) {e : TypeId} (ht : P.underlying t = some (.slice e)) (hsz : (P.info? e).map (·.size) = some 1)
  {g off dn dc : Nat} (hd : a.eval d = .slice (some ⟨g, off, none⟩) dn dc) {q : ByteArray} (hs : a.eval s = .string q) {B : List Value} {T : TypeId} (hg : Has w g B T)
  (hfit : off + min q.size dn ≤ B.length)
  (h : ∀ w', Has w' g (splice B off (bs (q.data.toList.take (min q.size dn)))) T → Fr (One g) w w' → w'.heap.size = w.heap.size → wpList P ops Q rest (a.put o.dst (.int .i64 (min q.size dn : Nat))) w') : wpList P ops Q (o :: rest) a w := by
 refine wpList_plain hgd fun K hK => ?_
 obtain ⟨i, hi, hi1⟩ : ∃ i, P.info? e = some i ∧ i.size = 1 := by simpa using hsz
 have hlen : (bs (q.data.toList.take (min q.size dn))).length = min q.size dn := by rw [a0I, List.length_take]; simp
 obtain ⟨w', hst, hh, hf, hz⟩ := b0Q (P := P) g off T (bs (q.data.toList.take (min q.size dn))) 0 B w hg (by rw [hlen]; omega) (i0d _)
 simp only [Nat.add_zero] at hh
 have hr : (Builtin.copy_ #[t, u] o.type #[.slice (some ⟨g, off, none⟩) dn dc, .string q]).run P w = .ok (.int .i64 (min q.size dn : Nat)) w' := by
  simp [Builtin.copy_, run_underlying ht, sizeOf, typeInfo, hi, Builtin.lenOf, Builtin.firstCells, B0N, goInt]
  rw [show q.size.min dn = min q.size dn from rfl, e0y, hst]
  rfl
 unfold Oper.wp execOp
 simp only [ho, resolve, invoke, builtin, Sem.run_bind, Sem.run_pure, Result.andThen_ok, List.map_toArray, List.map_cons, List.map_nil, hd, hs, hr]
 exact hK _ _ (h w' hh hf hz)
end Go.Mv
namespace Go.Proofs.YtemcankmggmgoaaGreat
open Go.RowKit Go.Mv Mvp Mvq
end Go.Proofs.YtemcankmggmgoaaGreat
