/- ; ; ; ; ; ; ; ; ; ; ; ; ; ; ; ; ; ; ; ; ; ; ; . -/
import Derived.Test.YtemcankmggmgoaaGreatMgBlindTrueProof6
import Derived.Test.YtemcankmggmgoaaGreatMgBlindTrueProof4
import Derived.Test.YtemcankmggmgoaaGreatMgBlindTrueProof2
import Derived.IntWalk
import Derived.Deep.DeepCutAuto
import Derived.Test.YtemcankmggmgoaaGreatMgBlindTrueProof1
import Derived.Test.YtemcankmggmgoaaGreatMgBlindTrueProof5
import Derived.Test.YtemcankmggmgoaaGreatMgBlindTrueProof3
set_option maxHeartbeats 16000000
set_option maxRecDepth 1000000

namespace Go.Mv
open Go.RowKit
theorem b0W {w : World} {b o n : Nat} {vs : List Value} (h : Rd w (some ⟨b, o, none⟩) n vs) (v : Value) (hv : vs[0]? = some v) : w.cell? ⟨b, o, none⟩ = some v := by
 have hl : 0 < vs.length := by
  rcases Nat.eq_zero_or_pos vs.length with h0 | h0
  ·rw [List.length_eq_zero_iff.1 h0] at hv; cases hv
  ·exact h0
 obtain ⟨b', o', he, hc⟩ := h.at (by have := h.len; omega)
 simp only [Option.some.injEq, Addr.mk.injEq] at he
 obtain ⟨rfl, rfl, -⟩ := he
 simpa using hc 0 v hv
theorem RdB.tail {w : World} {a : Option Addr} {n : Nat} {l : List UInt8} (h : RdB w a n l) (c : Nat) (h1 : 1 ≤ n) (hc : n ≤ c) : RdB w (c0H a 1 c) (n - 1) (l.drop 1) := by
 have h2 := k0N h 1 n c h1 hc (Nat.le_refl _)
 have hl := h.len
 have e : ((bs l).drop 1).take (n - 1) = bs (l.drop 1) := by
  rw [List.take_of_length_le (by rw [List.length_drop, a0I]; omega)]
  simp [bs]
 rw [e] at h2
 exact h2
end Go.Mv
namespace Go.Proofs.YtemcankmggmgoaaGreat
section
open Go.RowKit Go.Mv Mvp Mvq
theorem q0m : Tryz.prog.built 111 [] = some #[.int .u64 0, .int .u64 0, .int .u64 0, .int .u64 0] := by kernel_rfl
theorem h0U : Tryz.prog.built 117 [] = some (cw 4 0 ++ (cw 4 0 ++ cw 4 0)).toArray := by kernel_rfl
theorem f0z : (Tryz.prog.info? 5).map (·.size) = some 1 := by kernel_rfl
theorem u0i : (Tryz.prog.info? 58).map (·.size) = some 1 := by kernel_rfl
theorem u0j (x y : Nat) {o : Oper} {a : Act} {p q : Operand} {T : TypeId} (ho : o.op = .binOp .eql 111 p q T) (hp : a.eval p = i4 x) (hq : a.eval q = i4 y) {b : Bool} (hb : decide (x % B64 ^ 4 = y % B64 ^ 4) = b) (w : World) :
  (execOp a.eval o).run Tryz.prog w = .ok (.value (.bool b)) w := by
 subst hb
 exact c0V ho hp hq w (run_eqGuard_agg w .eql 111 p q _ _ Tryz.eqGuardType111) (d0W w (l0j Tryz.underlying111 Tryz.underlying58 u0i x y w))
theorem k0l (l : List UInt8) (h : l.length = 33) : tlN l < B64 ^ 4 := f0t (l.drop 1) (by rw [List.length_drop]; omega)
theorem h0j (a : Option Addr) (c : Nat) (l : List UInt8) (w : World) (hb : RdB w a 32 (l.drop 1)) : Calls Tryz.prog 144 #[.slice a 32 c] w fun e w' => e = .returned (i4 (tlN l)) ∧ Fr Nob w w' :=
 c0k a 32 c (l.drop 1) w hb ap15
def atY (M n : Nat) : Nat := if b0G M (d0A n) then rtV M (d0A n) else 0
theorem E0W (m : Md) (gc gp bx by_ : Nat) (w : World) (hok : m.Ok) (hcv : Has w gc (e0b m gp bx by_) 125) (hpm : Has w gp (mdL m) 187) (x : Nat) :
  Calls Tryz.prog 184 #[.pointer (some ⟨gc, 0, none⟩), i4 (elN m x)] w fun e w' => e = .returned (.tuple #[ptV m x (atY m.M x) 1, .bool (b0G m.M (d0A x))]) ∧ Fr Nob w w' := by
 unfold atY
 cases h : b0G m.M (d0A x)
 ·exact D0V m gc gp bx by_ w hok hcv hpm x _ _ _ rfl rfl rfl h
 ·exact D0U m gc gp bx by_ w hok hcv hpm x _ _ _ rfl rfl rfl h
theorem f0P (a b : Nat) (w : World) (ha : a < B64 ^ 4) (hb : b < B64 ^ 4) (r : Bool) (hr : decide (a < b) = r) :
  Calls Tryz.prog 145 #[i4 a, i4 b] w fun e w' => e = .returned (.bool r) ∧ Fr Nob w w' := by
 subst hr; exact g0u a b w ha hb
theorem y0X (m : Md) (gc gp bx by_ : Nat) (w : World) (hok : m.Ok) (hcv : Has w gc (e0b m gp bx by_) 125) (hpm : Has w gp (mdL m) 187) (x : Nat) (r : Bool) (hr : b0G m.M (d0A x) = r) :
  Calls Tryz.prog 184 #[.pointer (some ⟨gc, 0, none⟩), i4 (elN m x)] w fun e w' => e = .returned (.tuple #[.agg (cw 4 (elN m x) ++ (cw 4 (elN m (atY m.M x)) ++ cw 4 (elN m 1))).toArray, .bool r]) ∧ Fr Nob w w' := by
 subst hr; exact E0W m gc gp bx by_ w hok hcv hpm x
theorem r0J (m : Md) (gc gp bx by_ : Nat) (w : World) (hok : m.Ok) (hcv : Has w gc (e0b m gp bx by_) 125) (hpm : Has w gp (mdL m) 187) (x y z : Nat) :
  Calls Tryz.prog 185 #[.pointer (some ⟨gc, 0, none⟩), .agg (cw 4 (elN m x) ++ (cw 4 (elN m y) ++ cw 4 (elN m z))).toArray] w fun e w' => e = .returned (.agg (cw 4 (elN m x) ++ (cw 4 (elN m (m.M - y % m.M)) ++ cw 4 (elN m z))).toArray) ∧ Fr Nob w w' :=
 m0X m gc gp bx by_ w hok hcv hpm x y z
attribute [local irreducible] a0C lw mix cw b0k b0y b0j a0M a0n beN b0F a0P b0C a0J a0R elN mdL a0S rtN rtV b0G gXn gYn tlN atY d0A
theorem q0n : (Value.agg #[.int .u64 0, .int .u64 0, .int .u64 0, .int .u64 0]) = i4 0 := by rw [i4, g0Y]; rfl
theorem u0k (x : Nat) (hx : x < B64 ^ 4) (b : Bool) (hb : (x == 0) = b) (w : World) :
  Calls Tryz.prog 183 #[i4 x] w fun e w' => e = .returned (.bool b) ∧ Fr Nob w w' := by
 subst hb
 have HB := qH (show decide (x % B64 ^ 4 = 0 % B64 ^ 4) = (x == 0) by rw [Nat.mod_eq_of_lt hx, Nat.zero_mod]; rfl)
 clear hx
 have st0 := St.start Nob w
 go_enter Tryz.func183, Tryz.ntmps183
 go_wp2_with (with_reducible refine wSk 1 ?_)
 refine a0l st0 rfl rfl rfl (cw 4 x) rfl ?_
 intro g1 w1 st1
 clear st0
 go_wp2_with (with_reducible refine wSk 3 ?_)
 refine a0k st1 0 rfl rfl rfl Tryz.underlying111 rfl ap4 ?_
 go_wp2_with (with_reducible refine wSk 4 ?_)
 refine c0J rfl rfl _ q0m ?_
 rw [q0n]
 go_wp2_with (with_reducible refine wSk 5 ?_)
 refine f0g rfl (u0j x 0 rfl rfl rfl HB.out _) ?_
 have hfr := st1.fr
 clear st1
 go_wp2_with fail
 go_ret
 exact ⟨rfl, hfr⟩
theorem x0p (m : Md) (gc gp bx by_ : Nat) (w : World) (hok : m.Ok) (hcv : Has w gc (e0b m gp bx by_) 125) (hpm : Has w gp (mdL m) 187) (a : Option Addr) (n c : Nat) (l : List UInt8) (hb : RdB w a n l) (_hc : n ≤ c) (h33 : l.length ≠ 33) :
  Calls Tryz.prog 140 #[.pointer (some ⟨gc, 0, none⟩), .slice a n c] w fun e w' => e = .returned (.tuple #[ptV m 0 0 0, .bool false]) ∧ Fr Nob w w' := by
 have HOK := qH hok
 have HCV := qH hcv
 have HPM := qH hpm
 clear hok hcv hpm
 have HN := qH (show n ≠ 33 by have := hb.len; omega)
 clear hb _hc h33
 have st0 := St.start Nob w
 go_enter Tryz.func140, Tryz.ntmps140
 go_wp2_with (with_reducible refine wSk 4 ?_)
 refine a0a st0 rfl rfl (z := .agg (List.replicate 12 (.int .u64 0)).toArray) ap14 (cw 4 0 ++ (cw 4 0 ++ cw 4 0)) ap12 ?_
 intro g4 w1 st1
 clear st0
 have hne : ((n : Int) != 33) = true := by have := HN.out; simp; omega
 go_wp2_with (with_reducible refine wSk 12 ?_)
 refine c0J rfl rfl _ h0U ?_
 go_wp2_with (with_reducible refine wSn ?_)
 refine a0b st1 0 rfl rfl rfl rfl rfl (by first | (simp only; done) | (simp only [List.length_append, a0i]; done)) ap4 (b0i _ _ _) ?_
 intro w2 st2
 clear st1
 have hr := st2.at 0 rfl
 have hfr := st2.fr
 clear st2
 go_wp2_with fail
 exact bodyPost_ret (a0U rfl rfl hr Tryz.underlying117 rfl ap4 rfl) rfl ⟨by unfold ptV ptL; rw [e0a]; rfl, hfr⟩
theorem n0p (m : Md) (gc gp bx by_ : Nat) (w : World) (hok : m.Ok) (hcv : Has w gc (e0b m gp bx by_) 125) (hpm : Has w gp (mdL m) 187) (a : Option Addr) (n c : Nat) (l : List UInt8) (hb : RdB w a n l) (hc : n ≤ c) (h33 : l.length = 33) (h0 : (bs l)[0]? = some (.int .u8 0)) (b : Bool) (hzb : (tlN l == 0) = b) :
  Calls Tryz.prog 140 #[.pointer (some ⟨gc, 0, none⟩), .slice a n c] w fun e w' => e = .returned (.tuple #[ptV m 1 1 0, .bool b]) ∧ Fr Nob w w' := by
 have HOK := qH hok
 have HCV := qH hcv
 have HPM := qH hpm
 clear hok hcv hpm
 have h33n : n = 33 := by have := hb.len; omega
 subst h33n
 obtain ⟨ba, oa, rfl, -⟩ := Rd.at hb ap15
 have HB := qH hb
 have HC := qH hc
 have HT := qH (RdB.tail hb c ap15 hc)
 have H0 := qH h0
 have HTN := qH (k0l l h33)
 clear hb hc h33 h0
 have HZB := qH hzb
 clear hzb
 have st0 := St.start Nob w
 go_enter Tryz.func140, Tryz.ntmps140
 go_wp2_with (with_reducible refine wSk 4 ?_)
 refine a0a st0 rfl rfl (z := .agg (List.replicate 12 (.int .u64 0)).toArray) ap14 (cw 4 0 ++ (cw 4 0 ++ cw 4 0)) ap12 ?_
 intro g4 w1 st1
 clear st0
 have hne : (((33 : Nat) : Int) != 33) = false := by rfl
 go_wp2_with (with_reducible refine wSk 14 ?_)
 refine h0n rfl rfl Tryz.underlying22 f0z rfl 1 33 ⟨_, rfl⟩ rfl ap15 HC.out ?_
 rw [show (33 : Nat) - 1 = 32 from rfl]
 go_wp2_with fail
 refine (h0j _ _ l _ (HT.out.still st1.fr)).mono ?_
 rintro e' w2 ⟨rfl, hf2⟩
 have st2 := st1.keep hf2
 clear st1 hf2
 go_wp2_with (with_reducible refine wSk 6 ?_)
 refine a0a st2 rfl rfl (z := zAd) ap14 (cw 4 0) ap12 ?_
 intro g6 w3 st3
 clear st2
 go_wp2_with (with_reducible refine wSn ?_)
 refine a0b st3 1 rfl rfl rfl rfl rfl ap5 ap4 (a0f _ _) ?_
 intro w4 st4
 clear st3
 have hcell := b0W (HB.out.still st4.fr) _ H0.out
 go_wp2_with fail
 clear hcell
 go_wp2_with fail
 refine wp_region_noPanic ?_
 refine a0o (fun wx => St Nob w wx [(g4, cw 4 0 ++ (cw 4 0 ++ cw 4 0), 117), (g6, cw 4 (tlN l), 111)]) 4 (.w 0 (.t 2 (.r 1 (.r 3 (.m 4 (.w 5 .nil)))))) ap14 ap14 st4.drew (fun _ _ _ _ _ h => h) ?_
 have hd4 := st4.drew
 clear st4
 refine a0j rfl rfl apW ?_
 try simp only [clL]
 refine a0s rfl rfl rfl rfl (cw 4 (tlN l)) (fun wx hS => St.rangeL hS 1 rfl 0 _ dZl) Tryz.underlying111 rfl ap4 ?_
 try simp only [clL]
 refine a0w rfl rfl ?_
 go_simp
 refine (n0k m gc gp bx by_ _ HOK.out (HCV.out.keep hd4.fr id) (HPM.out.keep hd4.fr id)).mono ?_
 rintro e' w5 ⟨rfl, hf5⟩
 have st5 := hd4.keep hf5
 clear hf5
 clear hd4
 refine ⟨st5, ?_⟩
 try simp only [clL]
 refine a0w rfl rfl ?_
 go_simp
 refine (u0k (tlN l) HTN.out b HZB.out _).mono ?_
 rintro e' w6 ⟨rfl, hf6⟩
 have st6 := st5.keep hf6
 clear hf6
 clear st5
 refine ⟨st6, ?_⟩
 try simp only [clL]
 refine a0q rfl rfl ?_
 refine a0h st6 0 rfl rfl rfl rfl ap5 ap4 (b0i _ _ _) ?_
 intro w7 st7
 clear st6
 try simp only [Act.put]
 refine a0j rfl rfl apW ?_
 try simp only [clL]
 refine a0g ?_
 refine NoPanic.normal ?_
 have hr := st7.at 0 rfl
 have hfr := st7.fr
 clear st7
 go_wp2_with fail
 exact bodyPost_ret (a0U rfl rfl hr Tryz.underlying117 rfl ap4 rfl) rfl ⟨by unfold ptV ptL; rfl, hfr⟩
theorem x0q (m : Md) (gc gp bx by_ : Nat) (w : World) (hok : m.Ok) (hcv : Has w gc (e0b m gp bx by_) 125) (hpm : Has w gp (mdL m) 187) (a : Option Addr) (n c : Nat) (l : List UInt8) (hb : RdB w a n l) (hc : n ≤ c) (h33 : l.length = 33) (q : Nat) (h0 : (bs l)[0]? = some (.int .u8 (q : Int))) (hq0 : ((q : Int) == 0) = false) (hq2 : ((q : Int) != 2) = true) (hq3 : ((q : Int) != 3) = true) :
  Calls Tryz.prog 140 #[.pointer (some ⟨gc, 0, none⟩), .slice a n c] w fun e w' => e = .returned (.tuple #[ptV m 0 0 0, .bool false]) ∧ Fr Nob w w' := by
 have HOK := qH hok
 have HCV := qH hcv
 have HPM := qH hpm
 clear hok hcv hpm
 have h33n : n = 33 := by have := hb.len; omega
 subst h33n
 obtain ⟨ba, oa, rfl, -⟩ := Rd.at hb ap15
 have HB := qH hb
 have HC := qH hc
 have HT := qH (RdB.tail hb c ap15 hc)
 have H0 := qH h0
 have HTN := qH (k0l l h33)
 clear hb hc h33 h0
 have HQ0 := qH hq0
 have HQ2 := qH hq2
 have HQ3 := qH hq3
 clear hq0 hq2 hq3
 have st0 := St.start Nob w
 go_enter Tryz.func140, Tryz.ntmps140
 go_wp2_with (with_reducible refine wSk 4 ?_)
 refine a0a st0 rfl rfl (z := .agg (List.replicate 12 (.int .u64 0)).toArray) ap14 (cw 4 0 ++ (cw 4 0 ++ cw 4 0)) ap12 ?_
 intro g4 w1 st1
 clear st0
 have hne : (((33 : Nat) : Int) != 33) = false := by rfl
 go_wp2_with (with_reducible refine wSk 14 ?_)
 refine h0n rfl rfl Tryz.underlying22 f0z rfl 1 33 ⟨_, rfl⟩ rfl ap15 HC.out ?_
 rw [show (33 : Nat) - 1 = 32 from rfl]
 go_wp2_with fail
 refine (h0j _ _ l _ (HT.out.still st1.fr)).mono ?_
 rintro e' w2 ⟨rfl, hf2⟩
 have st2 := st1.keep hf2
 clear st1 hf2
 go_wp2_with (with_reducible refine wSk 6 ?_)
 refine a0a st2 rfl rfl (z := zAd) ap14 (cw 4 0) ap12 ?_
 intro g6 w3 st3
 clear st2
 go_wp2_with (with_reducible refine wSn ?_)
 refine a0b st3 1 rfl rfl rfl rfl rfl ap5 ap4 (a0f _ _) ?_
 intro w4 st4
 clear st3
 have hq0 := HQ0.out
 have hq2 := HQ2.out
 have hq3 := HQ3.out
 have hcell := b0W (HB.out.still st4.fr) _ H0.out
 go_wp2_with fail
 clear hcell
 go_wp2_with fail
 refine wp_region_noPanic ?_
 refine c0j (fun wx => St Nob w wx [(g4, cw 4 0 ++ (cw 4 0 ++ cw 4 0), 117), (g6, cw 4 (tlN l), 111)]) 22 (.w 0 (.w 1 (.t 2 (.w 3 (.w 4 (.w 5 (.w 6 (.t 7 (.w 8 (.w 9 (.w 10 (.t 11 (.w 12 (.w 13 (.w 14 (.t 15 (.w 16 (.w 17 (.t 18 (.r 19 (.w 20 (.w 21 (.m 22 .nil))))))))))))))))))))))) ap14 ap14 st4.drew (fun _ _ _ _ _ h => h) ?_
 have hd4 := st4.drew
 clear st4
 refine a0x rfl rfl apW ?_
 try simp only [clL]
 refine a0x rfl rfl apW ?_
 try simp only [clL]
 refine d0l (v := ?_) rfl rfl (fun wx hS => ?_) ?_
 rotate_left 1
 ·(have hc := (b0W (HB.out.still (St.fr hS)) _ H0.out); clear hS; go_simp; with_reducible rfl)
 try simp only [clL]
 refine a0x rfl rfl apW ?_
 try simp only [clL]
 refine a0x rfl rfl apW ?_
 try simp only [clL]
 refine a0x rfl rfl apW ?_
 try simp only [clL]
 refine a0x rfl rfl apW ?_
 try simp only [clL]
 refine d0l (v := ?_) rfl rfl (fun wx hS => ?_) ?_
 rotate_left 1
 ·(have hc := (b0W (HB.out.still (St.fr hS)) _ H0.out); clear hS; go_simp; with_reducible rfl)
 try simp only [clL]
 refine a0x rfl rfl apW ?_
 try simp only [clL]
 refine a0x rfl rfl apW ?_
 try simp only [clL]
 refine a0x rfl rfl apW ?_
 try simp only [clL]
 refine d0L rfl rfl ?_
 try simp only [clL]
 refine b0P rfl rfl ?_
 try simp only [clL]
 refine b0P rfl rfl ?_
 try simp only [clL]
 refine b0P rfl rfl ?_
 try simp only [clL]
 refine d0L rfl rfl ?_
 try simp only [clL]
 refine b0P rfl rfl ?_
 try simp only [clL]
 refine b0P rfl rfl ?_
 try simp only [clL]
 refine d0L rfl rfl ?_
 try simp only [clL]
 refine o0K rfl rfl ⟨hd4, ?_⟩
 try simp only [clL]
 refine b0P rfl rfl ?_
 try simp only [clL]
 refine a0x rfl rfl apW ?_
 try simp only [clL]
 refine j0h rfl rfl ?_
 go_simp
 try simp only [clL]
 refine f0l ?_
 have st5 := hd4
 clear hd4
 refine NoPanic.normal ?_
 go_wp2_with (with_reducible refine wSk 48 ?_)
 refine c0J rfl rfl _ h0U ?_
 go_wp2_with (with_reducible refine wSn ?_)
 refine a0b st5 0 rfl rfl rfl rfl rfl (by first | (simp only; done) | (simp only [List.length_append, a0i]; done)) ap4 (b0i _ _ _) ?_
 intro w6 st6
 clear st5
 have hr := st6.at 0 rfl
 have hfr := st6.fr
 clear st6
 go_wp2_with fail
 exact bodyPost_ret (a0U rfl rfl hr Tryz.underlying117 rfl ap4 rfl) rfl ⟨by unfold ptV ptL; rw [e0a]; rfl, hfr⟩
theorem x0r (m : Md) (gc gp bx by_ : Nat) (w : World) (hok : m.Ok) (hcv : Has w gc (e0b m gp bx by_) 125) (hpm : Has w gp (mdL m) 187) (a : Option Addr) (n c : Nat) (l : List UInt8) (hb : RdB w a n l) (hc : n ≤ c) (h33 : l.length = 33) (h0 : (bs l)[0]? = some (.int .u8 2)) (hlt : decide (tlN l < m.M) = false) :
  Calls Tryz.prog 140 #[.pointer (some ⟨gc, 0, none⟩), .slice a n c] w fun e w' => e = .returned (.tuple #[ptV m 0 0 0, .bool false]) ∧ Fr Nob w w' := by
 have HOK := qH hok
 have HCV := qH hcv
 have HPM := qH hpm
 clear hok hcv hpm
 have h33n : n = 33 := by have := hb.len; omega
 subst h33n
 obtain ⟨ba, oa, rfl, -⟩ := Rd.at hb ap15
 have HB := qH hb
 have HC := qH hc
 have HT := qH (RdB.tail hb c ap15 hc)
 have H0 := qH h0
 have HTN := qH (k0l l h33)
 clear hb hc h33 h0
 have HDL := qH hlt
 clear hlt
 have st0 := St.start Nob w
 go_enter Tryz.func140, Tryz.ntmps140
 go_wp2_with (with_reducible refine wSk 4 ?_)
 refine a0a st0 rfl rfl (z := .agg (List.replicate 12 (.int .u64 0)).toArray) ap14 (cw 4 0 ++ (cw 4 0 ++ cw 4 0)) ap12 ?_
 intro g4 w1 st1
 clear st0
 have hne : (((33 : Nat) : Int) != 33) = false := by rfl
 go_wp2_with (with_reducible refine wSk 14 ?_)
 refine h0n rfl rfl Tryz.underlying22 f0z rfl 1 33 ⟨_, rfl⟩ rfl ap15 HC.out ?_
 rw [show (33 : Nat) - 1 = 32 from rfl]
 go_wp2_with fail
 refine (h0j _ _ l _ (HT.out.still st1.fr)).mono ?_
 rintro e' w2 ⟨rfl, hf2⟩
 have st2 := st1.keep hf2
 clear st1 hf2
 go_wp2_with (with_reducible refine wSk 6 ?_)
 refine a0a st2 rfl rfl (z := zAd) ap14 (cw 4 0) ap12 ?_
 intro g6 w3 st3
 clear st2
 go_wp2_with (with_reducible refine wSn ?_)
 refine a0b st3 1 rfl rfl rfl rfl rfl ap5 ap4 (a0f _ _) ?_
 intro w4 st4
 clear st3
 have hcell := b0W (HB.out.still st4.fr) _ H0.out
 go_wp2_with fail
 clear hcell
 go_wp2_with fail
 refine wp_region_noPanic ?_
 refine c0j (fun wx => St Nob w wx [(g4, cw 4 0 ++ (cw 4 0 ++ cw 4 0), 117), (g6, cw 4 (tlN l), 111)]) 22 (.w 0 (.w 1 (.t 2 (.w 3 (.w 4 (.w 5 (.w 6 (.t 7 (.w 8 (.w 9 (.w 10 (.t 11 (.w 12 (.w 13 (.w 14 (.t 15 (.w 16 (.w 17 (.t 18 (.r 19 (.w 20 (.w 21 (.m 22 .nil))))))))))))))))))))))) ap14 ap14 st4.drew (fun _ _ _ _ _ h => h) ?_
 have hd4 := st4.drew
 clear st4
 refine a0x rfl rfl apW ?_
 try simp only [clL]
 refine a0x rfl rfl apW ?_
 try simp only [clL]
 refine d0l (v := ?_) rfl rfl (fun wx hS => ?_) ?_
 rotate_left 1
 ·(have hc := (b0W (HB.out.still (St.fr hS)) _ H0.out); clear hS; go_simp; with_reducible rfl)
 try simp only [clL]
 refine a0x rfl rfl apW ?_
 try simp only [clL]
 refine a0x rfl rfl apW ?_
 try simp only [clL]
 refine b0P rfl rfl ?_
 try simp only [clL]
 refine b0P rfl rfl ?_
 try simp only [clL]
 refine d0L rfl rfl ?_
 try simp only [clL]
 refine b0P rfl rfl ?_
 try simp only [clL]
 refine a0x rfl rfl apW ?_
 try simp only [clL]
 refine a0x rfl rfl apW ?_
 try simp only [clL]
 refine d0g rfl rfl rfl rfl (cw 4 (tlN l)) (fun wx hS => St.rangeL hS 1 rfl 0 _ dZl) Tryz.underlying111 rfl ap4 ?_
 try simp only [clL]
 refine a0x rfl rfl apW ?_
 try simp only [clL]
 refine a0x rfl rfl apW ?_
 try simp only [clL]
 refine a0x rfl rfl apW ?_
 try simp only [clL]
 refine d0l (v := ?_) rfl rfl (fun wx hS => ?_) ?_
 rotate_left 1
 ·(have hc := (HCV.out.keep (St.fr hS) id).cell (i := 0) rfl; clear hS; go_simp; with_reducible rfl)
 try simp only [clL]
 refine a0x rfl rfl apW ?_
 try simp only [clL]
 refine a0x rfl rfl apW ?_
 try simp only [clL]
 refine d0g rfl rfl rfl rfl (cw 4 m.M) (fun wx hS => (HPM.out.keep (St.fr hS) id).range 0 _ (l0T m)) Tryz.underlying111 rfl ap4 ?_
 try simp only [clL]
 refine l0w rfl rfl ?_
 go_simp
 refine (f0P (tlN l) m.M _ HTN.out HOK.out.lt false HDL.out).mono ?_
 rintro e' w5 ⟨rfl, hf5⟩
 have st5 := hd4.keep hf5
 clear hf5
 clear hd4
 refine ⟨st5, ?_⟩
 try simp only [clL]
 refine a0x rfl rfl apW ?_
 try simp only [clL]
 refine a0x rfl rfl apW ?_
 try simp only [clL]
 refine j0h rfl rfl ?_
 go_simp
 try simp only [clL]
 refine f0l ?_
 refine NoPanic.normal ?_
 go_wp2_with (with_reducible refine wSk 48 ?_)
 refine c0J rfl rfl _ h0U ?_
 go_wp2_with (with_reducible refine wSn ?_)
 refine a0b st5 0 rfl rfl rfl rfl rfl (by first | (simp only; done) | (simp only [List.length_append, a0i]; done)) ap4 (b0i _ _ _) ?_
 intro w6 st6
 clear st5
 have hr := st6.at 0 rfl
 have hfr := st6.fr
 clear st6
 go_wp2_with fail
 exact bodyPost_ret (a0U rfl rfl hr Tryz.underlying117 rfl ap4 rfl) rfl ⟨by unfold ptV ptL; rw [e0a]; rfl, hfr⟩
theorem q0o (m : Md) (gc gp bx by_ : Nat) (w : World) (hok : m.Ok) (hcv : Has w gc (e0b m gp bx by_) 125) (hpm : Has w gp (mdL m) 187) (a : Option Addr) (n c : Nat) (l : List UInt8) (hb : RdB w a n l) (hc : n ≤ c) (h33 : l.length = 33) (h0 : (bs l)[0]? = some (.int .u8 2)) (hlt : decide (tlN l < m.M) = true) (r : Bool) (hr : b0G m.M (d0A (tlN l)) = r) :
  Calls Tryz.prog 140 #[.pointer (some ⟨gc, 0, none⟩), .slice a n c] w fun e w' => e = .returned (.tuple #[ptV m (tlN l) (atY m.M (tlN l)) 1, .bool r]) ∧ Fr Nob w w' := by
 have HOK := qH hok
 have HCV := qH hcv
 have HPM := qH hpm
 clear hok hcv hpm
 have h33n : n = 33 := by have := hb.len; omega
 subst h33n
 obtain ⟨ba, oa, rfl, -⟩ := Rd.at hb ap15
 have HB := qH hb
 have HC := qH hc
 have HT := qH (RdB.tail hb c ap15 hc)
 have H0 := qH h0
 have HTN := qH (k0l l h33)
 clear hb hc h33 h0
 have HDL := qH hlt
 clear hlt
 have HR := qH hr
 clear hr
 have st0 := St.start Nob w
 go_enter Tryz.func140, Tryz.ntmps140
 go_wp2_with (with_reducible refine wSk 4 ?_)
 refine a0a st0 rfl rfl (z := .agg (List.replicate 12 (.int .u64 0)).toArray) ap14 (cw 4 0 ++ (cw 4 0 ++ cw 4 0)) ap12 ?_
 intro g4 w1 st1
 clear st0
 have hne : (((33 : Nat) : Int) != 33) = false := by rfl
 go_wp2_with (with_reducible refine wSk 14 ?_)
 refine h0n rfl rfl Tryz.underlying22 f0z rfl 1 33 ⟨_, rfl⟩ rfl ap15 HC.out ?_
 rw [show (33 : Nat) - 1 = 32 from rfl]
 go_wp2_with fail
 refine (h0j _ _ l _ (HT.out.still st1.fr)).mono ?_
 rintro e' w2 ⟨rfl, hf2⟩
 have st2 := st1.keep hf2
 clear st1 hf2
 go_wp2_with (with_reducible refine wSk 6 ?_)
 refine a0a st2 rfl rfl (z := zAd) ap14 (cw 4 0) ap12 ?_
 intro g6 w3 st3
 clear st2
 go_wp2_with (with_reducible refine wSn ?_)
 refine a0b st3 1 rfl rfl rfl rfl rfl ap5 ap4 (a0f _ _) ?_
 intro w4 st4
 clear st3
 have hcell := b0W (HB.out.still st4.fr) _ H0.out
 go_wp2_with fail
 clear hcell
 go_wp2_with fail
 refine wp_region_noPanic ?_
 refine c0j (fun wx => St Nob w wx [(g4, cw 4 0 ++ (cw 4 0 ++ cw 4 0), 117), (g6, cw 4 (tlN l), 111)]) 22 (.w 0 (.w 1 (.t 2 (.w 3 (.w 4 (.w 5 (.w 6 (.t 7 (.w 8 (.w 9 (.w 10 (.t 11 (.w 12 (.w 13 (.w 14 (.t 15 (.w 16 (.w 17 (.t 18 (.r 19 (.w 20 (.w 21 (.m 22 .nil))))))))))))))))))))))) ap14 ap14 st4.drew (fun _ _ _ _ _ h => h) ?_
 have hd4 := st4.drew
 clear st4
 refine a0x rfl rfl apW ?_
 try simp only [clL]
 refine a0x rfl rfl apW ?_
 try simp only [clL]
 refine d0l (v := ?_) rfl rfl (fun wx hS => ?_) ?_
 rotate_left 1
 ·(have hc := (b0W (HB.out.still (St.fr hS)) _ H0.out); clear hS; go_simp; with_reducible rfl)
 try simp only [clL]
 refine a0x rfl rfl apW ?_
 try simp only [clL]
 refine a0x rfl rfl apW ?_
 try simp only [clL]
 refine b0P rfl rfl ?_
 try simp only [clL]
 refine b0P rfl rfl ?_
 try simp only [clL]
 refine d0L rfl rfl ?_
 try simp only [clL]
 refine b0P rfl rfl ?_
 try simp only [clL]
 refine a0x rfl rfl apW ?_
 try simp only [clL]
 refine a0x rfl rfl apW ?_
 try simp only [clL]
 refine d0g rfl rfl rfl rfl (cw 4 (tlN l)) (fun wx hS => St.rangeL hS 1 rfl 0 _ dZl) Tryz.underlying111 rfl ap4 ?_
 try simp only [clL]
 refine a0x rfl rfl apW ?_
 try simp only [clL]
 refine a0x rfl rfl apW ?_
 try simp only [clL]
 refine a0x rfl rfl apW ?_
 try simp only [clL]
 refine d0l (v := ?_) rfl rfl (fun wx hS => ?_) ?_
 rotate_left 1
 ·(have hc := (HCV.out.keep (St.fr hS) id).cell (i := 0) rfl; clear hS; go_simp; with_reducible rfl)
 try simp only [clL]
 refine a0x rfl rfl apW ?_
 try simp only [clL]
 refine a0x rfl rfl apW ?_
 try simp only [clL]
 refine d0g rfl rfl rfl rfl (cw 4 m.M) (fun wx hS => (HPM.out.keep (St.fr hS) id).range 0 _ (l0T m)) Tryz.underlying111 rfl ap4 ?_
 try simp only [clL]
 refine l0w rfl rfl ?_
 go_simp
 refine (f0P (tlN l) m.M _ HTN.out HOK.out.lt true HDL.out).mono ?_
 rintro e' w5 ⟨rfl, hf5⟩
 have st5 := hd4.keep hf5
 clear hf5
 clear hd4
 refine ⟨st5, ?_⟩
 try simp only [clL]
 refine a0x rfl rfl apW ?_
 try simp only [clL]
 refine a0x rfl rfl apW ?_
 try simp only [clL]
 refine j0h rfl rfl ?_
 go_simp
 try simp only [clL]
 refine f0l ?_
 refine NoPanic.normal ?_
 go_wp2_with fail
 refine wp_region_noPanic ?_
 refine a0o (fun wx => St Nob w wx [(g4, cw 4 0 ++ (cw 4 0 ++ cw 4 0), 117), (g6, cw 4 (tlN l), 111)]) 13 (.w 0 (.w 1 (.w 2 (.w 3 (.t 4 (.t 5 (.b 6 11 (.b 7 11 (.w 8 (.w 9 (.w 10 (.r 11 (.r 12 (.m 13 .nil)))))) (.r 7 (.w 8 (.w 9 (.w 10 (.r 12 (.m 13 .nil))))))) (.r 6 (.r 7 (.w 8 (.w 9 (.w 10 (.r 12 (.m 13 .nil)))))))))))))) ap14 ap14 st5.drew (fun _ _ _ _ _ h => h) ?_
 have hd5 := st5.drew
 clear st5
 refine a0j rfl rfl apW ?_
 try simp only [clL]
 refine a0j rfl rfl apW ?_
 try simp only [clL]
 refine a0j rfl rfl apW ?_
 try simp only [clL]
 refine a0j rfl rfl apW ?_
 try simp only [clL]
 refine d0G (v := ?_) rfl rfl (fun wx hS => ?_) ?_
 rotate_left 1
 ·(have hc := (HCV.out.keep (St.fr hS) id).cell (i := 0) rfl; clear hS; go_simp; with_reducible rfl)
 try simp only [clL]
 refine a0s rfl rfl rfl rfl (cw 4 (tlN l)) (fun wx hS => St.rangeL hS 1 rfl 0 _ dZl) Tryz.underlying111 rfl ap4 ?_
 try simp only [clL]
 refine e0s (C := fun g7 wz => St Nob w wz [(g4, cw 4 0 ++ (cw 4 0 ++ cw 4 0), 117), (g6, cw 4 (tlN l), 111), (g7, cw 4 (elN m (tlN l)) ++ (cw 4 (elN m (atY m.M (tlN l))) ++ cw 4 (elN m 1)), 117)]) (F := ?_) (fun key => ?_) ?_
 rotate_left 1
 ·skip
  refine d0H rfl rfl rfl rfl ?_ ?_
  ·skip
   go_simp
   refine (d0k m gp _ HOK.out (HPM.out.keep hd5.fr id) (tlN l) HTN.out).mono ?_
   rintro e' w6 ⟨rfl, hf6⟩
   have st6 := hd5.keep hf6
   clear hf6
   refine ⟨st6, ?_⟩
   try simp only [clL]
   refine d0H rfl rfl rfl rfl ?_ ?_
   ·skip
    go_simp
    refine (y0X m gc gp bx by_ _ HOK.out (HCV.out.keep st6.fr id) (HPM.out.keep st6.fr id) (tlN l) r HR.out).mono ?_
    rintro e' w7 ⟨rfl, hf7⟩
    have st7 := st6.keep hf7
    clear hf7
    refine ⟨st7, ?_⟩
    try simp only [clL]
    refine a0j rfl rfl apW ?_
    try simp only [clL]
    refine a0j rfl rfl apW ?_
    try simp only [clL]
    refine a0j rfl rfl apW ?_
    try simp only [clL]
    refine a0w rfl rfl ?_
    refine b0u st7 rfl (z := zAc) ap14 (cw 12 0) ap12 ?_
    intro g7 w8 st8
    refine ⟨St.less st8 ap17, ?_⟩
    try simp only [clL]
    refine a0w rfl rfl ?_
    refine a0h st8 2 rfl rfl rfl rfl ap5 ap4 (b0i _ _ _) ?_
    intro w9 st9
    refine ⟨St.less st9 ap17, ?_⟩
    try simp only [Act.put]
    refine a0q rfl rfl ?_
    go_simp
    try simp only [clL]
    refine a0g ?_
    exact key g7 _ st9
   ·skip
    refine b0u st6 rfl (z := zAc) ap14 (cw 12 0) ap12 ?_
    intro g7 w10 st10
    refine ⟨St.less st10 ap17, ?_⟩
    try simp only [clL]
    refine a0w rfl rfl ?_
    go_simp
    refine (y0X m gc gp bx by_ _ HOK.out (HCV.out.keep st10.fr id) (HPM.out.keep st10.fr id) (tlN l) r HR.out).mono ?_
    rintro e' w11 ⟨rfl, hf11⟩
    have st11 := st10.keep hf11
    clear hf11
    refine ⟨St.less st11 ap17, ?_⟩
    try simp only [clL]
    refine a0j rfl rfl apW ?_
    try simp only [clL]
    refine a0j rfl rfl apW ?_
    try simp only [clL]
    refine a0j rfl rfl apW ?_
    try simp only [clL]
    refine a0w rfl rfl ?_
    refine a0h st11 2 rfl rfl rfl rfl ap5 ap4 (b0i _ _ _) ?_
    intro w12 st12
    refine ⟨St.less st12 ap17, ?_⟩
    try simp only [Act.put]
    refine a0q rfl rfl ?_
    go_simp
    try simp only [clL]
    refine a0g ?_
    exact key g7 _ st12
  ·skip
   refine b0u hd5 rfl (z := zAc) ap14 (cw 12 0) ap12 ?_
   intro g7 w13 st13
   refine ⟨St.less st13 ap17, ?_⟩
   try simp only [clL]
   refine a0w rfl rfl ?_
   go_simp
   refine (d0k m gp _ HOK.out (HPM.out.keep st13.fr id) (tlN l) HTN.out).mono ?_
   rintro e' w14 ⟨rfl, hf14⟩
   have st14 := st13.keep hf14
   clear hf14
   refine ⟨St.less st14 ap17, ?_⟩
   try simp only [clL]
   refine a0w rfl rfl ?_
   go_simp
   refine (y0X m gc gp bx by_ _ HOK.out (HCV.out.keep st14.fr id) (HPM.out.keep st14.fr id) (tlN l) r HR.out).mono ?_
   rintro e' w15 ⟨rfl, hf15⟩
   have st15 := st14.keep hf15
   clear hf15
   refine ⟨St.less st15 ap17, ?_⟩
   try simp only [clL]
   refine a0j rfl rfl apW ?_
   try simp only [clL]
   refine a0j rfl rfl apW ?_
   try simp only [clL]
   refine a0j rfl rfl apW ?_
   try simp only [clL]
   refine a0w rfl rfl ?_
   refine a0h st15 2 rfl rfl rfl rfl ap5 ap4 (b0i _ _ _) ?_
   intro w16 st16
   refine ⟨St.less st16 ap17, ?_⟩
   try simp only [Act.put]
   refine a0q rfl rfl ?_
   go_simp
   try simp only [clL]
   refine a0g ?_
   exact key g7 _ st16
 intro g7 w17 st17
 have st17 : St Nob w w17 [(g4, cw 4 0 ++ (cw 4 0 ++ cw 4 0), 117), (g6, cw 4 (tlN l), 111), (g7, cw 4 (elN m (tlN l)) ++ (cw 4 (elN m (atY m.M (tlN l))) ++ cw 4 (elN m 1)), 117)] := st17
 clear hd5
 refine NoPanic.normal ?_
 have hcell := b0W (HB.out.still st17.fr) _ H0.out
 go_wp2_with (with_reducible refine wSk 67 ?_)
 refine a0p st17 2 rfl rfl rfl Tryz.underlying117 rfl rfl ap4 ?_
 go_wp2_with (with_reducible refine wSn ?_)
 refine a0b st17 0 rfl rfl rfl rfl rfl ap5 ap4 (b0i _ _ _) ?_
 intro w18 st18
 clear st17
 have hr := st18.at 0 rfl
 have hfr := st18.fr
 clear st18
 go_wp2_with fail
 exact bodyPost_ret (a0U rfl rfl hr Tryz.underlying117 rfl ap4 rfl) rfl ⟨by unfold ptV ptL; rfl, hfr⟩
theorem x0s (m : Md) (gc gp bx by_ : Nat) (w : World) (hok : m.Ok) (hcv : Has w gc (e0b m gp bx by_) 125) (hpm : Has w gp (mdL m) 187) (a : Option Addr) (n c : Nat) (l : List UInt8) (hb : RdB w a n l) (hc : n ≤ c) (h33 : l.length = 33) (h0 : (bs l)[0]? = some (.int .u8 3)) (hlt : decide (tlN l < m.M) = false) :
  Calls Tryz.prog 140 #[.pointer (some ⟨gc, 0, none⟩), .slice a n c] w fun e w' => e = .returned (.tuple #[ptV m 0 0 0, .bool false]) ∧ Fr Nob w w' := by
 have HOK := qH hok
 have HCV := qH hcv
 have HPM := qH hpm
 clear hok hcv hpm
 have h33n : n = 33 := by have := hb.len; omega
 subst h33n
 obtain ⟨ba, oa, rfl, -⟩ := Rd.at hb ap15
 have HB := qH hb
 have HC := qH hc
 have HT := qH (RdB.tail hb c ap15 hc)
 have H0 := qH h0
 have HTN := qH (k0l l h33)
 clear hb hc h33 h0
 have HDL := qH hlt
 clear hlt
 have st0 := St.start Nob w
 go_enter Tryz.func140, Tryz.ntmps140
 go_wp2_with (with_reducible refine wSk 4 ?_)
 refine a0a st0 rfl rfl (z := .agg (List.replicate 12 (.int .u64 0)).toArray) ap14 (cw 4 0 ++ (cw 4 0 ++ cw 4 0)) ap12 ?_
 intro g4 w1 st1
 clear st0
 have hne : (((33 : Nat) : Int) != 33) = false := by rfl
 go_wp2_with (with_reducible refine wSk 14 ?_)
 refine h0n rfl rfl Tryz.underlying22 f0z rfl 1 33 ⟨_, rfl⟩ rfl ap15 HC.out ?_
 rw [show (33 : Nat) - 1 = 32 from rfl]
 go_wp2_with fail
 refine (h0j _ _ l _ (HT.out.still st1.fr)).mono ?_
 rintro e' w2 ⟨rfl, hf2⟩
 have st2 := st1.keep hf2
 clear st1 hf2
 go_wp2_with (with_reducible refine wSk 6 ?_)
 refine a0a st2 rfl rfl (z := zAd) ap14 (cw 4 0) ap12 ?_
 intro g6 w3 st3
 clear st2
 go_wp2_with (with_reducible refine wSn ?_)
 refine a0b st3 1 rfl rfl rfl rfl rfl ap5 ap4 (a0f _ _) ?_
 intro w4 st4
 clear st3
 have hcell := b0W (HB.out.still st4.fr) _ H0.out
 go_wp2_with fail
 clear hcell
 go_wp2_with fail
 refine wp_region_noPanic ?_
 refine c0j (fun wx => St Nob w wx [(g4, cw 4 0 ++ (cw 4 0 ++ cw 4 0), 117), (g6, cw 4 (tlN l), 111)]) 22 (.w 0 (.w 1 (.t 2 (.w 3 (.w 4 (.w 5 (.w 6 (.t 7 (.w 8 (.w 9 (.w 10 (.t 11 (.w 12 (.w 13 (.w 14 (.t 15 (.w 16 (.w 17 (.t 18 (.r 19 (.w 20 (.w 21 (.m 22 .nil))))))))))))))))))))))) ap14 ap14 st4.drew (fun _ _ _ _ _ h => h) ?_
 have hd4 := st4.drew
 clear st4
 refine a0x rfl rfl apW ?_
 try simp only [clL]
 refine a0x rfl rfl apW ?_
 try simp only [clL]
 refine d0l (v := ?_) rfl rfl (fun wx hS => ?_) ?_
 rotate_left 1
 ·(have hc := (b0W (HB.out.still (St.fr hS)) _ H0.out); clear hS; go_simp; with_reducible rfl)
 try simp only [clL]
 refine a0x rfl rfl apW ?_
 try simp only [clL]
 refine a0x rfl rfl apW ?_
 try simp only [clL]
 refine a0x rfl rfl apW ?_
 try simp only [clL]
 refine a0x rfl rfl apW ?_
 try simp only [clL]
 refine d0l (v := ?_) rfl rfl (fun wx hS => ?_) ?_
 rotate_left 1
 ·(have hc := (b0W (HB.out.still (St.fr hS)) _ H0.out); clear hS; go_simp; with_reducible rfl)
 try simp only [clL]
 refine a0x rfl rfl apW ?_
 try simp only [clL]
 refine a0x rfl rfl apW ?_
 try simp only [clL]
 refine a0x rfl rfl apW ?_
 try simp only [clL]
 refine d0g rfl rfl rfl rfl (cw 4 (tlN l)) (fun wx hS => St.rangeL hS 1 rfl 0 _ dZl) Tryz.underlying111 rfl ap4 ?_
 try simp only [clL]
 refine a0x rfl rfl apW ?_
 try simp only [clL]
 refine a0x rfl rfl apW ?_
 try simp only [clL]
 refine a0x rfl rfl apW ?_
 try simp only [clL]
 refine d0l (v := ?_) rfl rfl (fun wx hS => ?_) ?_
 rotate_left 1
 ·(have hc := (HCV.out.keep (St.fr hS) id).cell (i := 0) rfl; clear hS; go_simp; with_reducible rfl)
 try simp only [clL]
 refine a0x rfl rfl apW ?_
 try simp only [clL]
 refine a0x rfl rfl apW ?_
 try simp only [clL]
 refine d0g rfl rfl rfl rfl (cw 4 m.M) (fun wx hS => (HPM.out.keep (St.fr hS) id).range 0 _ (l0T m)) Tryz.underlying111 rfl ap4 ?_
 try simp only [clL]
 refine l0w rfl rfl ?_
 go_simp
 refine (f0P (tlN l) m.M _ HTN.out HOK.out.lt false HDL.out).mono ?_
 rintro e' w5 ⟨rfl, hf5⟩
 have st5 := hd4.keep hf5
 clear hf5
 clear hd4
 refine ⟨st5, ?_⟩
 try simp only [clL]
 refine a0x rfl rfl apW ?_
 try simp only [clL]
 refine a0x rfl rfl apW ?_
 try simp only [clL]
 refine j0h rfl rfl ?_
 go_simp
 try simp only [clL]
 refine f0l ?_
 refine NoPanic.normal ?_
 go_wp2_with (with_reducible refine wSk 48 ?_)
 refine c0J rfl rfl _ h0U ?_
 go_wp2_with (with_reducible refine wSn ?_)
 refine a0b st5 0 rfl rfl rfl rfl rfl (by first | (simp only; done) | (simp only [List.length_append, a0i]; done)) ap4 (b0i _ _ _) ?_
 intro w6 st6
 clear st5
 have hr := st6.at 0 rfl
 have hfr := st6.fr
 clear st6
 go_wp2_with fail
 exact bodyPost_ret (a0U rfl rfl hr Tryz.underlying117 rfl ap4 rfl) rfl ⟨by unfold ptV ptL; rw [e0a]; rfl, hfr⟩
theorem q0p (m : Md) (gc gp bx by_ : Nat) (w : World) (hok : m.Ok) (hcv : Has w gc (e0b m gp bx by_) 125) (hpm : Has w gp (mdL m) 187) (a : Option Addr) (n c : Nat) (l : List UInt8) (hb : RdB w a n l) (hc : n ≤ c) (h33 : l.length = 33) (h0 : (bs l)[0]? = some (.int .u8 3)) (hlt : decide (tlN l < m.M) = true) (r : Bool) (hr : b0G m.M (d0A (tlN l)) = r) :
  Calls Tryz.prog 140 #[.pointer (some ⟨gc, 0, none⟩), .slice a n c] w fun e w' => e = .returned (.tuple #[ptV m (tlN l) (m.M - (atY m.M (tlN l)) % m.M) 1, .bool r]) ∧ Fr Nob w w' := by
 have HOK := qH hok
 have HCV := qH hcv
 have HPM := qH hpm
 clear hok hcv hpm
 have h33n : n = 33 := by have := hb.len; omega
 subst h33n
 obtain ⟨ba, oa, rfl, -⟩ := Rd.at hb ap15
 have HB := qH hb
 have HC := qH hc
 have HT := qH (RdB.tail hb c ap15 hc)
 have H0 := qH h0
 have HTN := qH (k0l l h33)
 clear hb hc h33 h0
 have HDL := qH hlt
 clear hlt
 have HR := qH hr
 clear hr
 have st0 := St.start Nob w
 go_enter Tryz.func140, Tryz.ntmps140
 go_wp2_with (with_reducible refine wSk 4 ?_)
 refine a0a st0 rfl rfl (z := .agg (List.replicate 12 (.int .u64 0)).toArray) ap14 (cw 4 0 ++ (cw 4 0 ++ cw 4 0)) ap12 ?_
 intro g4 w1 st1
 clear st0
 have hne : (((33 : Nat) : Int) != 33) = false := by rfl
 go_wp2_with (with_reducible refine wSk 14 ?_)
 refine h0n rfl rfl Tryz.underlying22 f0z rfl 1 33 ⟨_, rfl⟩ rfl ap15 HC.out ?_
 rw [show (33 : Nat) - 1 = 32 from rfl]
 go_wp2_with fail
 refine (h0j _ _ l _ (HT.out.still st1.fr)).mono ?_
 rintro e' w2 ⟨rfl, hf2⟩
 have st2 := st1.keep hf2
 clear st1 hf2
 go_wp2_with (with_reducible refine wSk 6 ?_)
 refine a0a st2 rfl rfl (z := zAd) ap14 (cw 4 0) ap12 ?_
 intro g6 w3 st3
 clear st2
 go_wp2_with (with_reducible refine wSn ?_)
 refine a0b st3 1 rfl rfl rfl rfl rfl ap5 ap4 (a0f _ _) ?_
 intro w4 st4
 clear st3
 have hcell := b0W (HB.out.still st4.fr) _ H0.out
 go_wp2_with fail
 clear hcell
 go_wp2_with fail
 refine wp_region_noPanic ?_
 refine c0j (fun wx => St Nob w wx [(g4, cw 4 0 ++ (cw 4 0 ++ cw 4 0), 117), (g6, cw 4 (tlN l), 111)]) 22 (.w 0 (.w 1 (.t 2 (.w 3 (.w 4 (.w 5 (.w 6 (.t 7 (.w 8 (.w 9 (.w 10 (.t 11 (.w 12 (.w 13 (.w 14 (.t 15 (.w 16 (.w 17 (.t 18 (.r 19 (.w 20 (.w 21 (.m 22 .nil))))))))))))))))))))))) ap14 ap14 st4.drew (fun _ _ _ _ _ h => h) ?_
 have hd4 := st4.drew
 clear st4
 refine a0x rfl rfl apW ?_
 try simp only [clL]
 refine a0x rfl rfl apW ?_
 try simp only [clL]
 refine d0l (v := ?_) rfl rfl (fun wx hS => ?_) ?_
 rotate_left 1
 ·(have hc := (b0W (HB.out.still (St.fr hS)) _ H0.out); clear hS; go_simp; with_reducible rfl)
 try simp only [clL]
 refine a0x rfl rfl apW ?_
 try simp only [clL]
 refine a0x rfl rfl apW ?_
 try simp only [clL]
 refine a0x rfl rfl apW ?_
 try simp only [clL]
 refine a0x rfl rfl apW ?_
 try simp only [clL]
 refine d0l (v := ?_) rfl rfl (fun wx hS => ?_) ?_
 rotate_left 1
 ·(have hc := (b0W (HB.out.still (St.fr hS)) _ H0.out); clear hS; go_simp; with_reducible rfl)
 try simp only [clL]
 refine a0x rfl rfl apW ?_
 try simp only [clL]
 refine a0x rfl rfl apW ?_
 try simp only [clL]
 refine a0x rfl rfl apW ?_
 try simp only [clL]
 refine d0g rfl rfl rfl rfl (cw 4 (tlN l)) (fun wx hS => St.rangeL hS 1 rfl 0 _ dZl) Tryz.underlying111 rfl ap4 ?_
 try simp only [clL]
 refine a0x rfl rfl apW ?_
 try simp only [clL]
 refine a0x rfl rfl apW ?_
 try simp only [clL]
 refine a0x rfl rfl apW ?_
 try simp only [clL]
 refine d0l (v := ?_) rfl rfl (fun wx hS => ?_) ?_
 rotate_left 1
 ·(have hc := (HCV.out.keep (St.fr hS) id).cell (i := 0) rfl; clear hS; go_simp; with_reducible rfl)
 try simp only [clL]
 refine a0x rfl rfl apW ?_
 try simp only [clL]
 refine a0x rfl rfl apW ?_
 try simp only [clL]
 refine d0g rfl rfl rfl rfl (cw 4 m.M) (fun wx hS => (HPM.out.keep (St.fr hS) id).range 0 _ (l0T m)) Tryz.underlying111 rfl ap4 ?_
 try simp only [clL]
 refine l0w rfl rfl ?_
 go_simp
 refine (f0P (tlN l) m.M _ HTN.out HOK.out.lt true HDL.out).mono ?_
 rintro e' w5 ⟨rfl, hf5⟩
 have st5 := hd4.keep hf5
 clear hf5
 clear hd4
 refine ⟨st5, ?_⟩
 try simp only [clL]
 refine a0x rfl rfl apW ?_
 try simp only [clL]
 refine a0x rfl rfl apW ?_
 try simp only [clL]
 refine j0h rfl rfl ?_
 go_simp
 try simp only [clL]
 refine f0l ?_
 refine NoPanic.normal ?_
 go_wp2_with fail
 refine wp_region_noPanic ?_
 refine a0o (fun wx => St Nob w wx [(g4, cw 4 0 ++ (cw 4 0 ++ cw 4 0), 117), (g6, cw 4 (tlN l), 111)]) 13 (.w 0 (.w 1 (.w 2 (.w 3 (.t 4 (.t 5 (.b 6 11 (.b 7 11 (.w 8 (.w 9 (.w 10 (.r 11 (.r 12 (.m 13 .nil)))))) (.r 7 (.w 8 (.w 9 (.w 10 (.r 12 (.m 13 .nil))))))) (.r 6 (.r 7 (.w 8 (.w 9 (.w 10 (.r 12 (.m 13 .nil)))))))))))))) ap14 ap14 st5.drew (fun _ _ _ _ _ h => h) ?_
 have hd5 := st5.drew
 clear st5
 refine a0j rfl rfl apW ?_
 try simp only [clL]
 refine a0j rfl rfl apW ?_
 try simp only [clL]
 refine a0j rfl rfl apW ?_
 try simp only [clL]
 refine a0j rfl rfl apW ?_
 try simp only [clL]
 refine d0G (v := ?_) rfl rfl (fun wx hS => ?_) ?_
 rotate_left 1
 ·(have hc := (HCV.out.keep (St.fr hS) id).cell (i := 0) rfl; clear hS; go_simp; with_reducible rfl)
 try simp only [clL]
 refine a0s rfl rfl rfl rfl (cw 4 (tlN l)) (fun wx hS => St.rangeL hS 1 rfl 0 _ dZl) Tryz.underlying111 rfl ap4 ?_
 try simp only [clL]
 refine e0s (C := fun g7 wz => St Nob w wz [(g4, cw 4 0 ++ (cw 4 0 ++ cw 4 0), 117), (g6, cw 4 (tlN l), 111), (g7, cw 4 (elN m (tlN l)) ++ (cw 4 (elN m (atY m.M (tlN l))) ++ cw 4 (elN m 1)), 117)]) (F := ?_) (fun key => ?_) ?_
 rotate_left 1
 ·skip
  refine d0H rfl rfl rfl rfl ?_ ?_
  ·skip
   go_simp
   refine (d0k m gp _ HOK.out (HPM.out.keep hd5.fr id) (tlN l) HTN.out).mono ?_
   rintro e' w6 ⟨rfl, hf6⟩
   have st6 := hd5.keep hf6
   clear hf6
   refine ⟨st6, ?_⟩
   try simp only [clL]
   refine d0H rfl rfl rfl rfl ?_ ?_
   ·skip
    go_simp
    refine (y0X m gc gp bx by_ _ HOK.out (HCV.out.keep st6.fr id) (HPM.out.keep st6.fr id) (tlN l) r HR.out).mono ?_
    rintro e' w7 ⟨rfl, hf7⟩
    have st7 := st6.keep hf7
    clear hf7
    refine ⟨st7, ?_⟩
    try simp only [clL]
    refine a0j rfl rfl apW ?_
    try simp only [clL]
    refine a0j rfl rfl apW ?_
    try simp only [clL]
    refine a0j rfl rfl apW ?_
    try simp only [clL]
    refine a0w rfl rfl ?_
    refine b0u st7 rfl (z := zAc) ap14 (cw 12 0) ap12 ?_
    intro g7 w8 st8
    refine ⟨St.less st8 ap17, ?_⟩
    try simp only [clL]
    refine a0w rfl rfl ?_
    refine a0h st8 2 rfl rfl rfl rfl ap5 ap4 (b0i _ _ _) ?_
    intro w9 st9
    refine ⟨St.less st9 ap17, ?_⟩
    try simp only [Act.put]
    refine a0q rfl rfl ?_
    go_simp
    try simp only [clL]
    refine a0g ?_
    exact key g7 _ st9
   ·skip
    refine b0u st6 rfl (z := zAc) ap14 (cw 12 0) ap12 ?_
    intro g7 w10 st10
    refine ⟨St.less st10 ap17, ?_⟩
    try simp only [clL]
    refine a0w rfl rfl ?_
    go_simp
    refine (y0X m gc gp bx by_ _ HOK.out (HCV.out.keep st10.fr id) (HPM.out.keep st10.fr id) (tlN l) r HR.out).mono ?_
    rintro e' w11 ⟨rfl, hf11⟩
    have st11 := st10.keep hf11
    clear hf11
    refine ⟨St.less st11 ap17, ?_⟩
    try simp only [clL]
    refine a0j rfl rfl apW ?_
    try simp only [clL]
    refine a0j rfl rfl apW ?_
    try simp only [clL]
    refine a0j rfl rfl apW ?_
    try simp only [clL]
    refine a0w rfl rfl ?_
    refine a0h st11 2 rfl rfl rfl rfl ap5 ap4 (b0i _ _ _) ?_
    intro w12 st12
    refine ⟨St.less st12 ap17, ?_⟩
    try simp only [Act.put]
    refine a0q rfl rfl ?_
    go_simp
    try simp only [clL]
    refine a0g ?_
    exact key g7 _ st12
  ·skip
   refine b0u hd5 rfl (z := zAc) ap14 (cw 12 0) ap12 ?_
   intro g7 w13 st13
   refine ⟨St.less st13 ap17, ?_⟩
   try simp only [clL]
   refine a0w rfl rfl ?_
   go_simp
   refine (d0k m gp _ HOK.out (HPM.out.keep st13.fr id) (tlN l) HTN.out).mono ?_
   rintro e' w14 ⟨rfl, hf14⟩
   have st14 := st13.keep hf14
   clear hf14
   refine ⟨St.less st14 ap17, ?_⟩
   try simp only [clL]
   refine a0w rfl rfl ?_
   go_simp
   refine (y0X m gc gp bx by_ _ HOK.out (HCV.out.keep st14.fr id) (HPM.out.keep st14.fr id) (tlN l) r HR.out).mono ?_
   rintro e' w15 ⟨rfl, hf15⟩
   have st15 := st14.keep hf15
   clear hf15
   refine ⟨St.less st15 ap17, ?_⟩
   try simp only [clL]
   refine a0j rfl rfl apW ?_
   try simp only [clL]
   refine a0j rfl rfl apW ?_
   try simp only [clL]
   refine a0j rfl rfl apW ?_
   try simp only [clL]
   refine a0w rfl rfl ?_
   refine a0h st15 2 rfl rfl rfl rfl ap5 ap4 (b0i _ _ _) ?_
   intro w16 st16
   refine ⟨St.less st16 ap17, ?_⟩
   try simp only [Act.put]
   refine a0q rfl rfl ?_
   go_simp
   try simp only [clL]
   refine a0g ?_
   exact key g7 _ st16
 intro g7 w17 st17
 have st17 : St Nob w w17 [(g4, cw 4 0 ++ (cw 4 0 ++ cw 4 0), 117), (g6, cw 4 (tlN l), 111), (g7, cw 4 (elN m (tlN l)) ++ (cw 4 (elN m (atY m.M (tlN l))) ++ cw 4 (elN m 1)), 117)] := st17
 clear hd5
 refine NoPanic.normal ?_
 have hcell := b0W (HB.out.still st17.fr) _ H0.out
 go_wp2_with (with_reducible refine wSk 65 ?_)
 refine a0p st17 2 rfl rfl rfl Tryz.underlying117 rfl rfl ap4 ?_
 clear hcell
 go_wp2_with fail
 refine (r0J m gc gp bx by_ _ HOK.out (HCV.out.keep st17.fr id) (HPM.out.keep st17.fr id) (tlN l) (atY m.M (tlN l)) 1).mono ?_
 rintro e' w18 ⟨rfl, hf18⟩
 have st18 := st17.keep hf18
 clear st17 hf18
 go_wp2_with (with_reducible refine wSn ?_)
 refine a0b st18 2 rfl rfl rfl rfl rfl ap5 ap4 (b0i _ _ _) ?_
 intro w19 st19
 clear st18
 go_wp2_with (with_reducible refine wSk 67 ?_)
 refine a0p st19 2 rfl rfl rfl Tryz.underlying117 rfl rfl ap4 ?_
 go_wp2_with (with_reducible refine wSn ?_)
 refine a0b st19 0 rfl rfl rfl rfl rfl ap5 ap4 (b0i _ _ _) ?_
 intro w20 st20
 clear st19
 have hr := st20.at 0 rfl
 have hfr := st20.fr
 clear st20
 go_wp2_with fail
 exact bodyPost_ret (a0U rfl rfl hr Tryz.underlying117 rfl ap4 rfl) rfl ⟨by unfold ptV ptL; rfl, hfr⟩
end
section
open Go.RowKit Go.Mv Mvp Mvq
theorem l0x (l : List UInt8) (h : l.length = 33) (b : UInt8) (hb : l.getD 0 0 = b) : (bs l)[0]? = some (.int .u8 (b.toNat : Int)) := by
 cases l with
 | nil => cases h
 | cons x t =>
  have : x = b := by simpa using hb
  subst this
  rfl
theorem A0L {b : UInt8} {k : Nat} (h : b.toNat = k) : b = UInt8.ofNat k := by rw [← h]; simp
theorem l0y (l : List UInt8) (h : l.length = 33) (hb : l.getD 0 0 = 2) : (bs l)[0]? = some (.int .u8 2) := by rw [l0x l h 2 hb]; rfl
theorem l0z (l : List UInt8) (h : l.length = 33) (hb : l.getD 0 0 = 3) : (bs l)[0]? = some (.int .u8 3) := by rw [l0x l h 3 hb]; rfl
theorem q0q (l : List UInt8) (h : l.length = 33) (hb : l.getD 0 0 = 0) : (bs l)[0]? = some (.int .u8 0) := by rw [l0x l h 0 hb]; rfl
theorem u0l (b : Nat) : kc (mP.M - b % mP.M) = - kc b := by rw [c0S]; exact t0N b
theorem E0f (n : Nat) (hr : b0G mP.M (d0A n) = true) : kc (atY mP.M n) = kc (rtV fP (d0A n)) := by unfold atY; rw [if_pos hr, c0S]
theorem y0Y (x y : Nat) (h : onC (.A (kc x) (kc y))) : (o0J x y h).L = ptL mP x y 1 := rfl
attribute [local irreducible] atY rtV b0G ptL d0A tlN o0J
theorem o0L (l : List UInt8) (h : b0J l = true) : ∃ t : PT, t.pt = b0q l ∧ ∀ (gc : Nat) (a : Option Addr) (n c : Nat) (w : World), Cv w gc → RdB w a n l → n ≤ c →
  Calls Tryz.prog 140 #[.pointer (some ⟨gc, 0, none⟩), .slice a n c] w fun e w' => e = .returned (.tuple #[.agg t.L.toArray, .bool true]) ∧ Fr Nob w w' := by
 have hon := l0q h
 unfold b0J at h
 unfold b0q at *
 simp only [Bool.and_eq_true, decide_eq_true_eq] at h
 obtain ⟨h33, h⟩ := h
 by_cases h0 : l.getD 0 0 = 0
 ·rw [if_pos h0] at h
  refine ⟨noT, by rw [if_pos h0, t0V], ?_⟩
  rintro gc a n c w ⟨gp, h1, h2⟩ hb hc
  exact n0p mP gc gp gXn gYn w b0Z h1 h2 a n c l hb hc h33 (q0q l h33 h0) true h
 ·rw [if_neg h0] at h hon
  simp only [Bool.and_eq_true, decide_eq_true_eq] at h
  obtain ⟨h23, hlt, hr⟩ := h
  rw [← c0S] at hlt hr
  have hy := E0f _ hr
  rcases h23 with h2 | h3
  ·have h3 : ¬ l.getD 0 0 = 3 := by rw [h2]; decide
   rw [if_neg h3, ← hy] at hon
   refine ⟨o0J (tlN l) (atY mP.M (tlN l)) hon, ?_, ?_⟩
   ·rw [l0t, if_neg h0, if_neg h3, hy]
   ·rintro gc a n c w ⟨gp, g1, g2⟩ hb hc
    rw [y0Y]
    exact q0o mP gc gp gXn gYn w b0Z g1 g2 a n c l hb hc h33 (l0y l h33 h2) (decide_eq_true hlt) true hr
  ·rw [if_pos h3, ← hy, ← u0l] at hon
   refine ⟨o0J (tlN l) (mP.M - atY mP.M (tlN l) % mP.M) hon, ?_, ?_⟩
   ·rw [l0t, if_neg h0, if_pos h3, u0l, hy]
   ·rintro gc a n c w ⟨gp, g1, g2⟩ hb hc
    rw [y0Y]
    exact q0p mP gc gp gXn gYn w b0Z g1 g2 a n c l hb hc h33 (l0z l h33 h3) (decide_eq_true hlt) true hr
open Classical in
noncomputable def rdT (l : List UInt8) : PT := if h : b0J l = true then Classical.choose (o0L l h) else noT
theorem y0Z {l : List UInt8} (h : b0J l = true) : (rdT l).pt = b0q l := by unfold rdT; rw [dif_pos h]; exact (Classical.choose_spec (o0L l h)).1
theorem n0q (l : List UInt8) (h : b0J l = true) (gc : Nat) (a : Option Addr) (n c : Nat) (w : World) (hcv : Cv w gc) (hb : RdB w a n l) (hc : n ≤ c) :
  Calls Tryz.prog 140 #[.pointer (some ⟨gc, 0, none⟩), .slice a n c] w fun e w' => e = .returned (.tuple #[.agg (rdT l).L.toArray, .bool true]) ∧ Fr Nob w w' := by
 unfold rdT; rw [dif_pos h]; exact (Classical.choose_spec (o0L l h)).2 gc a n c w hcv hb hc
theorem u0m (l : List UInt8) (h : b0J l = false) (gc : Nat) (a : Option Addr) (n c : Nat) (w : World) (hcv : Cv w gc) (hb : RdB w a n l) (hc : n ≤ c) :
  Calls Tryz.prog 140 #[.pointer (some ⟨gc, 0, none⟩), .slice a n c] w fun e w' => (∃ X Y Z, e = .returned (.tuple #[.agg (ptL mP X Y Z).toArray, .bool false])) ∧ Fr Nob w w' := by
 obtain ⟨gp, g1, g2⟩ := hcv
 unfold b0J at h
 by_cases h33 : l.length = 33
 ·rw [decide_eq_true h33, Bool.true_and] at h
  by_cases h0 : l.getD 0 0 = 0
  ·rw [if_pos h0] at h
   exact (n0p mP gc gp gXn gYn w b0Z g1 g2 a n c l hb hc h33 (q0q l h33 h0) false h).mono fun _ _ t => ⟨⟨_, _, _, t.1⟩, t.2⟩
  ·rw [if_neg h0] at h
   by_cases h2 : l.getD 0 0 = 2
   ·rw [decide_eq_true (Or.inl h2), Bool.true_and] at h
    cases hlt : decide (tlN l < mP.M) with
    | false => exact (x0r mP gc gp gXn gYn w b0Z g1 g2 a n c l hb hc h33 (l0y l h33 h2) hlt).mono fun _ _ t => ⟨⟨_, _, _, t.1⟩, t.2⟩
    | true =>
     rw [← c0S, hlt, Bool.true_and] at h
     exact (q0o mP gc gp gXn gYn w b0Z g1 g2 a n c l hb hc h33 (l0y l h33 h2) hlt false h).mono fun _ _ t => ⟨⟨_, _, _, t.1⟩, t.2⟩
   ·by_cases h3 : l.getD 0 0 = 3
    ·rw [decide_eq_true (Or.inr h3), Bool.true_and] at h
     cases hlt : decide (tlN l < mP.M) with
     | false => exact (x0s mP gc gp gXn gYn w b0Z g1 g2 a n c l hb hc h33 (l0z l h33 h3) hlt).mono fun _ _ t => ⟨⟨_, _, _, t.1⟩, t.2⟩
     | true =>
      rw [← c0S, hlt, Bool.true_and] at h
      exact (q0p mP gc gp gXn gYn w b0Z g1 g2 a n c l hb hc h33 (l0z l h33 h3) hlt false h).mono fun _ _ t => ⟨⟨_, _, _, t.1⟩, t.2⟩
    ·have q0 : (((l.getD 0 0).toNat : Int) == 0) = false := by
      simp only [beq_eq_false_iff_ne, ne_eq]
      intro e
      exact h0 (A0L (k := 0) ap16)
     have q2 : (((l.getD 0 0).toNat : Int) != 2) = true := by
      simp only [bne_iff_ne, ne_eq]
      intro e
      exact h2 (A0L (k := 2) ap16)
     have q3 : (((l.getD 0 0).toNat : Int) != 3) = true := by
      simp only [bne_iff_ne, ne_eq]
      intro e
      exact h3 (A0L (k := 3) ap16)
     exact (x0q mP gc gp gXn gYn w b0Z g1 g2 a n c l hb hc h33 _ (l0x l h33 _ rfl) q0 q2 q3).mono fun _ _ t => ⟨⟨_, _, _, t.1⟩, t.2⟩
 ·exact (x0p mP gc gp gXn gYn w b0Z g1 g2 a n c l hb hc h33).mono fun _ _ t => ⟨⟨_, _, _, t.1⟩, t.2⟩
theorem C0U (z : Nat) : kc (z ^ (mP.M - 2)) = c0u (kc z) := by
 rw [show mP.M - 2 = fP - 2 by rw [c0S]]
 unfold c0u
 rw [f0x]
 generalize fP - 2 = n
 rw [← e0t (z ^ n), ← e0t ((z % fP) ^ n), ← Nat.pow_mod]
theorem C0V (x y : K) : a0H (.A x y) = UInt8.ofNat (2 + y.val % 2) :: a0P x.val := rfl
theorem l0A (s : PT) (gc : Nat) (w : World) (hcv : Cv w gc) :
  Calls Tryz.prog 88 #[.pointer (some ⟨gc, 0, none⟩), .agg s.L.toArray] w fun e w' => ∃ sv, e = .returned sv ∧ Own w' w.heap.size 5 1 sv 33 (bs (a0H s.pt)) ∧ Fr Nob w w' := by
 obtain ⟨gp, g1, g2⟩ := hcv
 cases hz : s.isO with
 | true =>
  rw [PT.isO_t hz]
  exact r0I mP gc gp gXn gYn w b0Z g1 g2 s.x s.y s.z hz
 | false =>
  have hne := PT.isO_f hz
  have e : s.pt = .A (kc (s.x * (s.z ^ (mP.M - 2) * s.z ^ (mP.M - 2)))) (kc (s.y * (s.z ^ (mP.M - 2) * s.z ^ (mP.M - 2) * s.z ^ (mP.M - 2)))) := by
   show jk _ _ _ = _
   rw [w0Y hne]
   simp only [a0K, C0U]
  rw [e]
  have hb := A0K mP gc gp gXn gYn w b0Z g1 g2 s.x s.y s.z hz _ _ _ _ _ _ _ rfl rfl rfl rfl rfl rfl rfl
  refine hb.mono ?_
  rintro e' w' ⟨sv, h1, h2, h3⟩
  refine ⟨sv, h1, ?_, h3⟩
  rw [C0V, f0x, f0x, ← c0S]
  exact h2
end
section
open Go.RowKit Go.Mv Mvp Mvq
def c0P (ls : List (List UInt8)) : Bool := ls.all b0J
noncomputable def e0W (ls : List (List UInt8)) : List Value := ls.flatMap fun l => (rdT l).L
theorem o0M (m : Md) (x y z : Nat) : ∀ v ∈ ptL m x y z, v.oneCell' = true := b0i _ _ _
theorem g0H (ls : List (List UInt8)) (l : List UInt8) : e0W (ls ++ [l]) = e0W ls ++ (rdT l).L := by simp [e0W]
theorem u0n (ls : List (List UInt8)) (i : Nat) (h : i < ls.length) : ((e0W ls).drop (i * 12)).take (rdT (ls.getD i [])).L.length = (rdT (ls.getD i [])).L := by
 rw [PT.len]
 induction ls generalizing i with
 | nil => simp at h
 | cons l ls ih =>
  rw [e0W, List.flatMap_cons, ← e0W]
  cases i with
  | zero =>
   rw [Nat.zero_mul, List.drop_zero, List.take_append_of_le_length (by rw [PT.len]; exact Nat.le_refl _), List.take_of_length_le (by rw [PT.len]; exact Nat.le_refl _)]
   rfl
  | succ i =>
   rw [List.drop_append, PT.len, List.drop_of_length_le (by rw [PT.len]; omega), List.nil_append, show (i + 1) * 12 - 12 = i * 12 by omega, ih i (by simpa using h)]
   rfl
theorem g0I (ls : List (List UInt8)) (k : Nat) (h : k < ls.length) : c0P (ls.take (k + 1)) = (c0P (ls.take k) && b0J (ls.getD k [])) := by
 rw [List.take_succ_eq_append_getElem h, c0P, List.all_append, ← c0P]
 simp [List.getD_eq_getElem?_getD, h]
theorem h0V (ls : List (List UInt8)) (k : Nat) (h : k < ls.length) (hb : b0J (ls.getD k []) = false) : c0P ls = false := by
 rw [c0P, List.all_eq_false]
 refine ⟨ls.getD k [], ?_, by simpa using hb⟩
 rw [List.getD_eq_getElem?_getD, List.getElem?_eq_getElem h]
 exact List.getElem_mem h
theorem f0m : (Tryz.prog.info? 117).map (fun i => (i.zero, i.size, i.bytes)) = some (some (.agg (List.replicate 12 (.int .u64 0)).toArray), 12, 96) := by kernel_rfl
attribute [local irreducible] a0C lw mix cw b0k b0y b0j a0M a0n beN b0F a0P b0C a0J a0R elN mdL a0S rtN rtV b0G gXn gYn PT.L l0V l0r f0D tbL tmR tmL dbN h0T h0B j0e dig rdT b0J b0q ptL e0W c0P a0H
theorem _root_.ap2 {p : Prop} (h : p := by first | (simp only [a0i]; done) | (simp only [List.length_append, a0i, PT.len, e0L]; done)) : p := h
theorem l0B (gk : Nat) (al : Option Addr) (n cl : Nat) (vs : List Value) (ls : List (List UInt8)) (w : World) (hv : Rd w al n vs) (hp : BParts w vs ls) (hn : n ≤ 100000) (hg : c0P ls = true) (t : PT) (hop : ∀ ap cp wx, Fr Nob w wx → Rd wx ap (ls.length * 12) (e0W ls) → Calls Tryz.prog 85 #[.slice ap ls.length cp, .pointer (some ⟨gk, 0, none⟩)] wx fun e w' => e = .returned (.agg t.L.toArray) ∧ Fr Nob wx w') :
  Calls Tryz.prog 84 #[.func (.func 85) #[] #[.pointer (some ⟨gk, 0, none⟩)], .slice al n cl] w fun e w' => ∃ sv, e = .returned (.tuple #[sv, .int .i64 0]) ∧ Own w' w.heap.size 5 1 sv 33 (bs (a0H t.pt)) ∧ Fr Nob w w' := by
 have HV := qH hv
 have HP := qH hp
 have HL := qH (show ls.length = n by rw [← hp.1, hv.len])
 have HN := qH hn
 have hnI : (n : Int) ≤ 100000 := by omega
 clear hv hp
 have HOP := qH hop
 have HGA := qH hg
 clear hop hg
 go_enter Tryz.func84, Tryz.ntmps84
 go_wp2
 go_loopw [6, 13] (fun v i wr => ∃ k : Nat, k ≤ n ∧ i = .int .i64 (k : Int) ∧ c0P (ls.take k) = true ∧ Own wr w.heap.size 117 12 v k (e0W (ls.take k)) ∧ Fr Nob w wr) (fun _ i _ => n - (intOf i).toNat)
 case atStart => exact ⟨0, Nat.zero_le _, rfl, by rw [List.take_zero]; unfold c0P; rfl, by rw [List.take_zero]; unfold e0W; exact Own.nil _ _ _ _, Fr.refl _ _⟩
 case round =>
  obtain ⟨k, hk, rfl, hgood, hown, hf⟩ := hrel
  by_cases hlt : k < n
  ·have hltI : (k : Int) < (n : Int) := by omega
   obtain ⟨b, o, rfl, hat⟩ := (HV.out.still hf).at ap16
   have hvl : k < vs.length := by rw [HV.out.len]; exact hlt
   obtain ⟨a, nn, c, hve, hcc, hrd⟩ := HP.out.2 k (vs[k]'hvl) (List.getElem?_eq_getElem hvl)
   have hc1 := hat k _ (List.getElem?_eq_getElem hvl)
   rw [hve] at hc1
   have hlk : k < ls.length := by rw [HL.out]; exact hlt
   have hts := g0I ls k hlk
   have hcs : e0W (ls.take (k + 1)) = e0W (ls.take k) ++ (rdT (ls.getD k [])).L := by
    rw [List.take_succ_eq_append_getElem hlk, g0H]
    simp [List.getD_eq_getElem?_getD, hlk]
   have hbad := h0V ls k hlk
   generalize hL : ls.getD k [] = l at *
   have HLL := qH hL
   have HRD := qH (hrd.still hf)
   have HTS := qH hts
   have HCS := qH hcs
   have HBAD := qH hbad
   have HG := qH hgood
   have HOWN := qH hown
   have HF := qH hf
   have HCC := qH hcc
   clear hL hrd hts hcs hbad hgood hown hf hat hve hcc
   have st0 := St.start Nob wr
   have HK := qH (show b0J l = true by
    cases hh : b0J l
    ·have := HBAD.out hh
     rw [HGA.out] at this
     cases this
    ·rfl)
   skip
   go_wp2_with fail
   refine (d0q _).mono ?_
   rintro e' w1 ⟨gc, rfl, hle, hcv, hf1⟩
   have st1 := st0.keep hf1
   have HCV := qH hcv
   clear hcv hle
   clear st0 hf1
   go_wp2_with fail
   refine (n0q l HK.out gc a nn c _ HCV.out (HRD.out.still st1.fr) HCC.out).mono ?_
   rintro e' w2 ⟨rfl, hf2⟩
   have st2 := st1.keep hf2
   clear st1 hf2
   go_wp2_with (with_reducible refine wSk 9 ?_)
   refine a0a st2 rfl rfl (z := .agg (List.replicate 12 (.int .u64 0)).toArray) ap14 (cw 12 0) ap12 ?_
   intro g9 w3 st3
   clear st2
   go_wp2_with (with_reducible refine wSn ?_)
   refine a0b st3 0 rfl rfl rfl rfl rfl ap2 ap6 (PT.one _) ?_
   intro w4 st4
   clear st3
   have HFS := qH st4.fr
   go_wp2_with (with_reducible refine wSk 26 ?_)
   refine a0p st4 0 rfl rfl rfl Tryz.underlying117 rfl rfl ap6 ?_
   clear st4
   go_wp2_with (with_reducible refine wSk 27 ?_)
   refine f0u rfl rfl Tryz.underlying115 f0m [.agg (rdT l).L.toArray] rfl (by simp [Value.cells, PT.len]) rfl ((rdT l).L) (by simp [Value.cells]) ?_
   intro wA hgA hfA hzA
   clear hzA
   have hfrA := HFS.out.then hfA
   have hsz := HF.out.size
   have hsz2 := hfrA.size
   have hownA := HOWN.out.still hfrA
   have hrdA : Rd wA (some ⟨w4.heap.size, 0, none⟩) (1 * 12) ((rdT l).L) := by
    have := Rd.whole hgA
    rwa [PT.len] at this
   have HRDA := qH hrdA
   have HOWNA := qH hownA
   have HFRA := qH hfrA
   clear hgA hfA hrdA hownA hfrA
   generalize w4.heap.size = gA at *
   go_wp2_with (with_reducible refine wSk 28 ?_)
   refine c0E rfl rfl Tryz.underlying115 f0m rfl ap15 HOWNA.out rfl rfl HRDA.out (PT.one _) ap11 ap16 ap16 ?_
   intro vB wB hownB hfB hbB
   clear hbB
   have hfrB := HOWNA.out.fr (HF.out.then HFRA.out) (Nat.le_refl _) hfB
   have HFRB := qH hfrB
   rw [← HCS.out] at hownB
   have HOWNB := qH hownB
   clear hfrB hownB hfB
   go_wp2_with fail
   go_roundw
   case rel => exact ⟨k + 1, by omega, by go_num, by rw [HTS.out, HG.out, HK.out]; rfl, HOWNB.out, HFRB.out⟩
   case measure => simp [intOf]; omega
  ·have hge : ¬ ((k : Int) < (n : Int)) := by omega
   have hkn : k = ls.length := by rw [HL.out]; omega
   rw [hkn, List.take_of_length_le (Nat.le_refl _)] at hgood hown
   obtain ⟨ap, cp, rfl, -, hre, -⟩ := hown.form
   have HRE := qH hre
   have HF := qH hf
   clear hkn hgood hown hf hre
   go_wp2_with fail
   refine (d0q _).mono ?_
   rintro e w1 ⟨gc, rfl, hle, hcv, hf1⟩
   have HCV := qH hcv
   have HF1 := qH (HF.out.then hf1)
   have HRE1 := qH (HRE.out.still hf1)
   clear hle hcv hf1 HF HRE
   go_wp2_with fail
   refine (HOP.out ap cp _ HF1.out HRE1.out).mono ?_
   rintro e w2 ⟨rfl, hf2⟩
   have HCV2 := qH (HCV.out.keep hf2)
   have HF2 := qH (HF1.out.then hf2)
   clear hf2 HF1 HRE1 HCV
   go_wp2_with fail
   refine (l0A t gc _ HCV2.out).mono ?_
   rintro e w3 ⟨sv, rfl, hown3, hf3⟩
   have h2 := HF2.out.then hf3
   have ho := hown3.mono HF2.out.size
   clear hown3 hf3 HF2 HCV2
   go_wp2_with fail
   go_ret2
   exact ⟨sv, rfl, ho, h2⟩
theorem j0I (gk : Nat) (al : Option Addr) (n cl : Nat) (vs : List Value) (ls : List (List UInt8)) (w : World) (hv : Rd w al n vs) (hp : BParts w vs ls) (hn : n ≤ 100000) (hg : c0P ls = false) :
  Calls Tryz.prog 84 #[.func (.func 85) #[] #[.pointer (some ⟨gk, 0, none⟩)], .slice al n cl] w fun e w' => e = .returned (.tuple #[.slice none 0 0, .int .i64 4]) ∧ Fr Nob w w' := by
 have HV := qH hv
 have HP := qH hp
 have HL := qH (show ls.length = n by rw [← hp.1, hv.len])
 have HN := qH hn
 have hnI : (n : Int) ≤ 100000 := by omega
 clear hv hp
 have HGA := qH hg
 clear hg
 go_enter Tryz.func84, Tryz.ntmps84
 go_wp2
 go_loopw [6, 13] (fun v i wr => ∃ k : Nat, k ≤ n ∧ i = .int .i64 (k : Int) ∧ c0P (ls.take k) = true ∧ Own wr w.heap.size 117 12 v k (e0W (ls.take k)) ∧ Fr Nob w wr) (fun _ i _ => n - (intOf i).toNat)
 case atStart => exact ⟨0, Nat.zero_le _, rfl, by rw [List.take_zero]; unfold c0P; rfl, by rw [List.take_zero]; unfold e0W; exact Own.nil _ _ _ _, Fr.refl _ _⟩
 case round =>
  obtain ⟨k, hk, rfl, hgood, hown, hf⟩ := hrel
  by_cases hlt : k < n
  ·have hltI : (k : Int) < (n : Int) := by omega
   obtain ⟨b, o, rfl, hat⟩ := (HV.out.still hf).at ap16
   have hvl : k < vs.length := by rw [HV.out.len]; exact hlt
   obtain ⟨a, nn, c, hve, hcc, hrd⟩ := HP.out.2 k (vs[k]'hvl) (List.getElem?_eq_getElem hvl)
   have hc1 := hat k _ (List.getElem?_eq_getElem hvl)
   rw [hve] at hc1
   have hlk : k < ls.length := by rw [HL.out]; exact hlt
   have hts := g0I ls k hlk
   have hcs : e0W (ls.take (k + 1)) = e0W (ls.take k) ++ (rdT (ls.getD k [])).L := by
    rw [List.take_succ_eq_append_getElem hlk, g0H]
    simp [List.getD_eq_getElem?_getD, hlk]
   have hbad := h0V ls k hlk
   generalize hL : ls.getD k [] = l at *
   have HLL := qH hL
   have HRD := qH (hrd.still hf)
   have HTS := qH hts
   have HCS := qH hcs
   have HBAD := qH hbad
   have HG := qH hgood
   have HOWN := qH hown
   have HF := qH hf
   have HCC := qH hcc
   clear hL hrd hts hcs hbad hgood hown hf hat hve hcc
   have st0 := St.start Nob wr
   rcases Bool.eq_false_or_eq_true (b0J l) with hh | hh
   ·have HK := qH hh
    clear hh
    skip
    go_wp2_with fail
    refine (d0q _).mono ?_
    rintro e' w1 ⟨gc, rfl, hle, hcv, hf1⟩
    have st1 := st0.keep hf1
    have HCV := qH hcv
    clear hcv hle
    clear st0 hf1
    go_wp2_with fail
    refine (n0q l HK.out gc a nn c _ HCV.out (HRD.out.still st1.fr) HCC.out).mono ?_
    rintro e' w2 ⟨rfl, hf2⟩
    have st2 := st1.keep hf2
    clear st1 hf2
    go_wp2_with (with_reducible refine wSk 9 ?_)
    refine a0a st2 rfl rfl (z := .agg (List.replicate 12 (.int .u64 0)).toArray) ap14 (cw 12 0) ap12 ?_
    intro g9 w3 st3
    clear st2
    go_wp2_with (with_reducible refine wSn ?_)
    refine a0b st3 0 rfl rfl rfl rfl rfl ap2 ap6 (PT.one _) ?_
    intro w4 st4
    clear st3
    have HFS := qH st4.fr
    go_wp2_with (with_reducible refine wSk 26 ?_)
    refine a0p st4 0 rfl rfl rfl Tryz.underlying117 rfl rfl ap6 ?_
    clear st4
    go_wp2_with (with_reducible refine wSk 27 ?_)
    refine f0u rfl rfl Tryz.underlying115 f0m [.agg (rdT l).L.toArray] rfl (by simp [Value.cells, PT.len]) rfl ((rdT l).L) (by simp [Value.cells]) ?_
    intro wA hgA hfA hzA
    clear hzA
    have hfrA := HFS.out.then hfA
    have hsz := HF.out.size
    have hsz2 := hfrA.size
    have hownA := HOWN.out.still hfrA
    have hrdA : Rd wA (some ⟨w4.heap.size, 0, none⟩) (1 * 12) ((rdT l).L) := by
     have := Rd.whole hgA
     rwa [PT.len] at this
    have HRDA := qH hrdA
    have HOWNA := qH hownA
    have HFRA := qH hfrA
    clear hgA hfA hrdA hownA hfrA
    generalize w4.heap.size = gA at *
    go_wp2_with (with_reducible refine wSk 28 ?_)
    refine c0E rfl rfl Tryz.underlying115 f0m rfl ap15 HOWNA.out rfl rfl HRDA.out (PT.one _) ap11 ap16 ap16 ?_
    intro vB wB hownB hfB hbB
    clear hbB
    have hfrB := HOWNA.out.fr (HF.out.then HFRA.out) (Nat.le_refl _) hfB
    have HFRB := qH hfrB
    rw [← HCS.out] at hownB
    have HOWNB := qH hownB
    clear hfrB hownB hfB
    go_wp2_with fail
    go_roundw
    case rel => exact ⟨k + 1, by omega, by go_num, by rw [HTS.out, HG.out, HK.out]; rfl, HOWNB.out, HFRB.out⟩
    case measure => simp [intOf]; omega
   ·have HK := qH hh
    clear hh
    skip
    go_wp2_with fail
    refine (d0q _).mono ?_
    rintro e' w1 ⟨gc, rfl, hle, hcv, hf1⟩
    have st1 := st0.keep hf1
    have HCV := qH hcv
    clear hcv hle
    clear st0 hf1
    go_wp2_with fail
    refine (u0m l HK.out gc a nn c _ HCV.out (HRD.out.still st1.fr) HCC.out).mono ?_
    rintro e' w2 ⟨⟨X, Y, Z, rfl⟩, hf2⟩
    have st2 := st1.keep hf2
    clear st1 hf2
    go_wp2_with (with_reducible refine wSk 9 ?_)
    refine a0a st2 rfl rfl (z := .agg (List.replicate 12 (.int .u64 0)).toArray) ap14 (cw 12 0) ap12 ?_
    intro g9 w3 st3
    clear st2
    go_wp2_with (with_reducible refine wSn ?_)
    refine a0b st3 0 rfl rfl rfl rfl rfl ap2 (by first | (rw [a0i]; kernel_rfl) | (simp only [e0L]; kernel_rfl)) (o0M _ _ _ _) ?_
    intro w4 st4
    clear st3
    have HFS := qH (HF.out.then st4.fr)
    clear st4
    go_wp2_with fail
    go_ret2
    exact ⟨rfl, HFS.out⟩
  ·exfalso
   have hkn : k = ls.length := by rw [HL.out]; omega
   rw [hkn, List.take_of_length_le (Nat.le_refl _), HGA.out] at hgood
   cases hgood
end
section
open Go.RowKit Go.Mv Mvp Mvq
theorem E0g (la : List UInt8) (ls : List (List UInt8)) : ((e0W (la :: ls)).drop 0).take (rdT la).L.length = (rdT la).L := u0n (la :: ls) 0 ap17
attribute [local irreducible] a0C lw mix cw b0k b0y b0j a0M a0n beN b0F a0P b0C a0J a0R elN mdL a0S rtN rtV b0G gXn gYn PT.L l0V l0r f0D tbL tmR tmL dbN h0T h0B j0e dig rdT b0J b0q ptL e0W c0P a0H
theorem _root_.ap0 {p : Prop} (h : p := by first | (rw [a0i]; kernel_rfl) | (rw [PT.len]; kernel_rfl) | (rw [e0L]; kernel_rfl) | (simp only [List.length_append, a0i]; kernel_rfl) | (simp only [List.length_append, a0i, PT.len, e0L]; kernel_rfl)) : p := h
theorem x0t (la : List UInt8) (w : World) (n : Nat) (gk : Nat) (hkn : Has w gk (cw 4 n) 111) (ap : Option Addr) (cp : Nat) (hre : Rd w ap ([la].length * 12) (e0W [la])) :
  Calls Tryz.prog 85 #[.slice ap 1 cp, .pointer (some ⟨gk, 0, none⟩)] w fun e w' => e = .returned (.agg (j0e [(n, rdT la)]).L.toArray) ∧ Fr Nob w w' := by
 obtain ⟨bb, oo, rfl, -⟩ := hre.at ap17
 have HRE := qH hre
 have HKN := qH hkn
 clear hre hkn
 have st0 := St.start Nob w
 go_enter Tryz.func85, Tryz.ntmps85
 go_wp2_with (with_reducible refine wSk 3 ?_)
 refine a0a st0 rfl rfl (z := .agg (List.replicate 12 (.int .u64 0)).toArray) ap14 (cw 12 0) ap12 ?_
 intro gr w1 st1
 clear st0
 go_wp2_with fail
 refine wp_region_noPanic ?_
 refine a0o (fun wx => St Nob w wx [(gr, cw 12 0, 117)]) 6 (.t 1 (.w 2 (.w 3 (.t 4 (.r 0 (.r 5 (.m 6 .nil))))))) ap14 ap14 st1.drew (fun _ _ _ _ _ h => h) ?_
 have hd1 := st1.drew
 clear st1
 refine a0s rfl rfl rfl rfl (cw 4 n) (fun wx hS => (HKN.out.keep (St.fr hS) id).range 0 _ dZl) Tryz.underlying111 rfl ap0 ?_
 try simp only [clL]
 refine a0j rfl rfl apW ?_
 try simp only [clL]
 refine a0j rfl rfl apW ?_
 try simp only [clL]
 refine a0s rfl rfl rfl rfl ((rdT la).L) (fun wx hS => (g0x (HRE.out.still (St.fr hS)) 0 _ (E0g la []))) Tryz.underlying117 rfl ap6 ?_
 try simp only [clL]
 refine a0w rfl rfl ?_
 go_simp
 refine (d0q _).mono ?_
 rintro e' w2 ⟨gc, rfl, hle, hcv, hf2⟩
 have st2 := hd1.keep hf2
 have HCV := qH hcv
 clear hcv hle
 clear hf2
 clear hd1
 refine ⟨st2, ?_⟩
 try simp only [clL]
 refine a0w rfl rfl ?_
 go_simp
 refine (A0I n (rdT la) gc _ HCV.out).mono ?_
 rintro e' w3 ⟨rfl, hf3⟩
 have st3 := st2.keep hf3
 clear hf3
 clear st2
 refine ⟨st3, ?_⟩
 try simp only [clL]
 refine a0q rfl rfl ?_
 refine a0h st3 0 rfl rfl rfl rfl ap2 ap6 (PT.one _) ?_
 intro w4 st4
 clear st3
 try simp only [Act.put]
 refine a0g ?_
 refine NoPanic.normal ?_
 have hr := st4.at 0 rfl
 have hfr := st4.fr
 clear st4
 go_wp2_with fail
 exact bodyPost_ret (a0r rfl rfl hr Tryz.underlying117 rfl ap6) rfl ⟨rfl, hfr⟩
theorem r0K (m : Md) (hk : KindOf 1 m) (a : Option Addr) (n c : Nat) (l : List UInt8) (w : World) (hb : RdB w a n l) (h32 : l.length ≠ 32) :
  Calls Tryz.prog 83 #[.slice a n c] w fun e w' => e = .returned (.tuple #[i4 0, .bool false]) ∧ Fr Nob w w' := by
 have HK := qH hk
 have HOK := qH hk.ok
 clear hk
 have hne : ((n : Int) != 32) = true := by have := hb.len; simp; omega
 clear h32 hb
 have st0 := St.start Nob w
 go_enter Tryz.func83, Tryz.ntmps83
 go_wp2_with (with_reducible refine wSk 2 ?_)
 refine a0a st0 rfl rfl (z := zAd) ap14 (cw 4 0) ap12 ?_
 intro g2 w1 st1
 clear st0
 go_wp2_with (with_reducible refine wSk 10 ?_)
 refine c0J rfl rfl _ q0m ?_
 rw [q0n]
 go_wp2_with (with_reducible refine wSn ?_)
 refine a0b st1 0 rfl rfl rfl rfl rfl ap2 ap0 (a0f _ _) ?_
 intro w2 st2
 clear st1
 have hr := st2.at 0 rfl
 have hfr := st2.fr
 clear st2
 go_wp2_with fail
 exact bodyPost_ret (b0c rfl rfl hr Tryz.underlying111 ap0 rfl) rfl ⟨rfl, hfr⟩
theorem k0m (m : Md) (hk : KindOf 1 m) (a : Option Addr) (n c : Nat) (l : List UInt8) (w : World) (hb : RdB w a n l) (h32 : l.length = 32) (r : Bool) (hlt : decide (beN l < m.M) = r) :
  Calls Tryz.prog 83 #[.slice a n c] w fun e w' => e = .returned (.tuple #[i4 (beN l), .bool r]) ∧ Fr Nob w w' := by
 have HK := qH hk
 have HOK := qH hk.ok
 clear hk
 have hbl := f0t l ap16
 have HBL := qH hbl
 have h32' : n = 32 := by have := hb.len; omega
 subst h32'
 have HB := qH hb
 have HLT := qH hlt
 have hne : (((32 : Nat) : Int) != 32) = false := by rfl
 clear hb hbl h32 hlt
 have st0 := St.start Nob w
 go_enter Tryz.func83, Tryz.ntmps83
 go_wp2_with (with_reducible refine wSk 2 ?_)
 refine a0a st0 rfl rfl (z := zAd) ap14 (cw 4 0) ap12 ?_
 intro g2 w1 st1
 clear st0
 go_wp2_with fail
 refine (OfK HK.out _).mono ?_
 rintro e' w2 ⟨gp, rfl, hle, hm, hf2⟩
 have st2 : St Nob w w2 [(g2, cw 4 0, 111), (gp, mdL m, 187)] := st1.new hf2 hm hle
 clear st1 hf2 hm hle
 go_wp2_with fail
 refine (c0k a 32 c l _ (HB.out.still st2.fr) ap15).mono ?_
 rintro e' w3 ⟨rfl, hf3⟩
 have st3 := st2.keep hf3
 clear st2 hf3
 go_wp2_with (with_reducible refine wSk 6 ?_)
 refine a0a st3 rfl rfl (z := zAd) ap14 (cw 4 0) ap12 ?_
 intro g6 w4 st4
 clear st3
 go_wp2_with (with_reducible refine wSn ?_)
 refine a0b st4 2 rfl rfl rfl rfl rfl ap2 ap0 (a0f _ _) ?_
 intro w5 st5
 clear st4
 go_wp2_with fail
 refine wp_region_noPanic ?_
 refine a0o (fun wx => St Nob w wx [(g2, cw 4 0, 111), (gp, mdL m, 187), (g6, cw 4 (beN l), 111)]) 7 (.t 0 (.t 1 (.w 2 (.w 3 (.w 4 (.t 5 (.r 6 (.m 7 (.w 8 .nil))))))))) ap14 ap14 st5.drew (fun _ _ _ _ _ h => h) ?_
 have hd5 := st5.drew
 clear st5
 refine a0s rfl rfl rfl rfl (cw 4 (beN l)) (fun wx hS => St.rangeL hS 2 rfl 0 _ dZl) Tryz.underlying111 rfl ap0 ?_
 try simp only [clL]
 refine a0s rfl rfl rfl rfl (cw 4 (beN l)) (fun wx hS => St.rangeL hS 2 rfl 0 _ dZl) Tryz.underlying111 rfl ap0 ?_
 try simp only [clL]
 refine a0j rfl rfl apW ?_
 try simp only [clL]
 refine a0j rfl rfl apW ?_
 try simp only [clL]
 refine a0j rfl rfl apW ?_
 try simp only [clL]
 refine a0s rfl rfl rfl rfl (cw 4 m.M) (fun wx hS => St.rangeL hS 1 rfl 0 _ (l0T m)) Tryz.underlying111 rfl ap0 ?_
 try simp only [clL]
 refine a0w rfl rfl ?_
 go_simp
 refine (f0P (beN l) m.M _ HBL.out HOK.out.lt r HLT.out).mono ?_
 rintro e' w6 ⟨rfl, hf6⟩
 have st6 := hd5.keep hf6
 clear hf6
 clear hd5
 refine ⟨st6, ?_⟩
 try simp only [clL]
 refine a0q rfl rfl ?_
 refine a0h st6 0 rfl rfl rfl rfl ap2 ap0 (a0f _ _) ?_
 intro w7 st7
 clear st6
 try simp only [Act.put]
 refine a0j rfl rfl apW ?_
 try simp only [clL]
 refine a0g ?_
 refine NoPanic.normal ?_
 have hr := st7.at 0 rfl
 have hfr := st7.fr
 clear st7
 go_wp2_with fail
 exact bodyPost_ret (b0c rfl rfl hr Tryz.underlying111 ap0 rfl) rfl ⟨rfl, hfr⟩
theorem g0J {l : List UInt8} (h : a0S mQ l = true) (a : Option Addr) (n c : Nat) (w : World) (hb : RdB w a n l) : Calls Tryz.prog 83 #[.slice a n c] w fun e w' => e = .returned (.tuple #[i4 (beN l), .bool true]) ∧ Fr Nob w w' := by
 unfold a0S at h
 simp only [Bool.and_eq_true, decide_eq_true_eq] at h
 exact k0m mQ .one a n c l w hb h.1 true (decide_eq_true h.2)
theorem q0r {l : List UInt8} (h : a0S mQ l = false) (a : Option Addr) (n c : Nat) (w : World) (hb : RdB w a n l) : Calls Tryz.prog 83 #[.slice a n c] w fun e w' => (∃ N, e = .returned (.tuple #[i4 N, .bool false])) ∧ Fr Nob w w' := by
 unfold a0S at h
 by_cases h32 : l.length = 32
 ·rw [decide_eq_true h32, Bool.true_and] at h
  exact (k0m mQ .one a n c l w hb h32 false h).mono fun _ _ t => ⟨⟨_, t.1⟩, t.2⟩
 ·exact (r0K mQ .one a n c l w hb h32).mono fun _ _ t => ⟨⟨_, t.1⟩, t.2⟩
end
section
open Go.RowKit Go.Mv Mvp Mvq
theorem k0n {gp : Nat} : ((e0b mP gp gXn gYn).drop 5).take j0b.L.length = j0b.L := w0N mP gp gXn gYn
theorem g0K : (Tryz.prog.info? 22).map (fun i => (i.zero, i.size, i.bytes)) = some (some (.slice none 0 0), 1, 24) := by kernel_rfl
attribute [local irreducible] a0C lw mix cw b0k b0y b0j a0M a0n beN b0F a0P b0C a0J a0R elN mdL a0S rtN rtV b0G gXn gYn PT.L l0V l0r f0D tbL tmR tmL dbN h0T h0B j0e dig rdT b0J b0q ptL e0W c0P a0H
theorem u0o (vk va : Value) (lk la : List UInt8) (w : World) (hpk : BPart w vk lk) (hpa : BPart w va la) (hk : a0S mQ lk = true) (hg : c0P [la] = true) :
  Calls Tryz.prog 28 #[vk, va] w fun e w' => ∃ v, e = .returned (.tuple #[v, .int .i64 0]) ∧ Own w' w.heap.size 5 1 v 33 (bs (a0H (j0e [(beN lk, rdT la)]).pt)) ∧ Fr Nob w w' := by
 have HP := qH (BParts.one hpa)
 have HA1 := qH (BPart.one hpa)
 have HK := qH hk
 obtain ⟨ak, nk, ck, rfl, -, hrk⟩ := hpk
 have HRK := qH hrk
 have HG := qH hg
 clear hg hpa hk hrk
 have st0 := St.start Nob w
 go_enter Tryz.func28, Tryz.ntmps28
 go_wp2_with fail
 refine (g0J HK.out ak nk ck _ (HRK.out.still st0.fr)).mono ?_
 rintro e' w1 ⟨rfl, hf1⟩
 have st1 := st0.keep hf1
 clear st0 hf1
 go_wp2_with (with_reducible refine wSk 6 ?_)
 refine a0a st1 rfl rfl (z := zAd) ap14 (cw 4 0) ap12 ?_
 intro gk w2 st2
 clear st1
 go_wp2_with (with_reducible refine wSn ?_)
 refine a0b st2 0 rfl rfl rfl rfl rfl ap2 ap0 (a0f _ _) ?_
 intro w3 st3
 clear st2
 have HKN := qH (st3.at 0 rfl)
 have HF1 := qH st3.fr
 clear st3
 go_wp2_with (with_reducible refine wSk 17 ?_)
 refine c0q (vs := [va]) (hgd := rfl) (ho := rfl) (hu := Tryz.underlying39) (hi0 := g0K) (hp := by rfl) (hv := (fun v hv => by simp at hv; subst hv; exact HA1.out)) (hk := by rfl) (hz := by rfl) (h := ?_)
 intro wS hgS hfS hzS
 clear hzS
 generalize w3.heap.size = gl at *
 have HF2 := qH (HF1.out.then hfS)
 have HKN2 := qH (HKN.out.keep hfS id)
 have HRD := qH (show Rd wS (some ⟨gl, 0, none⟩) 1 [va] from Rd.whole hgS)
 clear hgS hfS HF1 HKN
 go_wp2_with fail
 refine (l0B gk _ 1 1 [va] [la] _ HRD.out (HP.out.still HF2.out) ap15 HG.out (j0e [(beN lk, rdT la)]) (fun ap cp wx hfx hrx => x0t la wx (beN lk) gk (HKN2.out.keep hfx id) ap cp hrx)).mono ?_
 rintro e wE ⟨v, rfl, hown, hfE⟩
 have h3 := HF2.out.then hfE
 have ho := hown.mono HF2.out.size
 clear hown hfE HF2
 go_wp2_with fail
 go_ret2
 exact ⟨v, rfl, ho, h3⟩
theorem o0N (vk va : Value) (lk la : List UInt8) (w : World) (hpk : BPart w vk lk) (hpa : BPart w va la) (hk : a0S mQ lk = true) (hg : c0P [la] = false) :
  Calls Tryz.prog 28 #[vk, va] w fun e w' => e = .returned (.tuple #[.slice none 0 0, .int .i64 4]) ∧ Fr Nob w w' := by
 have HP := qH (BParts.one hpa)
 have HA1 := qH (BPart.one hpa)
 have HK := qH hk
 obtain ⟨ak, nk, ck, rfl, -, hrk⟩ := hpk
 have HRK := qH hrk
 have HG := qH hg
 clear hg hpa hk hrk
 have st0 := St.start Nob w
 go_enter Tryz.func28, Tryz.ntmps28
 go_wp2_with fail
 refine (g0J HK.out ak nk ck _ (HRK.out.still st0.fr)).mono ?_
 rintro e' w1 ⟨rfl, hf1⟩
 have st1 := st0.keep hf1
 clear st0 hf1
 go_wp2_with (with_reducible refine wSk 6 ?_)
 refine a0a st1 rfl rfl (z := zAd) ap14 (cw 4 0) ap12 ?_
 intro gk w2 st2
 clear st1
 go_wp2_with (with_reducible refine wSn ?_)
 refine a0b st2 0 rfl rfl rfl rfl rfl ap2 ap0 (a0f _ _) ?_
 intro w3 st3
 clear st2
 have HKN := qH (st3.at 0 rfl)
 have HF1 := qH st3.fr
 clear st3
 go_wp2_with (with_reducible refine wSk 17 ?_)
 refine c0q (vs := [va]) (hgd := rfl) (ho := rfl) (hu := Tryz.underlying39) (hi0 := g0K) (hp := by rfl) (hv := (fun v hv => by simp at hv; subst hv; exact HA1.out)) (hk := by rfl) (hz := by rfl) (h := ?_)
 intro wS hgS hfS hzS
 clear hzS
 generalize w3.heap.size = gl at *
 have HF2 := qH (HF1.out.then hfS)
 have HKN2 := qH (HKN.out.keep hfS id)
 have HRD := qH (show Rd wS (some ⟨gl, 0, none⟩) 1 [va] from Rd.whole hgS)
 clear hgS hfS HF1 HKN
 go_wp2_with fail
 refine (j0I gk _ 1 1 [va] [la] _ HRD.out (HP.out.still HF2.out) ap15 HG.out).mono ?_
 rintro e wE ⟨rfl, hfE⟩
 have h3 := HF2.out.then hfE
 clear hfE HF2
 go_wp2_with fail
 go_ret2
 exact ⟨rfl, h3⟩
theorem o0O (vk va : Value) (lk la : List UInt8) (w : World) (hpk : BPart w vk lk) (hpa : BPart w va la) (hk : a0S mQ lk = false) :
  Calls Tryz.prog 28 #[vk, va] w fun e w' => e = .returned (.tuple #[.slice none 0 0, .int .i64 3]) ∧ Fr Nob w w' := by
 have HP := qH (BParts.one hpa)
 have HA1 := qH (BPart.one hpa)
 have HK := qH hk
 obtain ⟨ak, nk, ck, rfl, -, hrk⟩ := hpk
 have HRK := qH hrk
 clear hpa hk hrk
 have st0 := St.start Nob w
 go_enter Tryz.func28, Tryz.ntmps28
 go_wp2_with fail
 refine (q0r HK.out ak nk ck _ (HRK.out.still st0.fr)).mono ?_
 rintro e' w1 ⟨⟨N, rfl⟩, hf1⟩
 have st1 := st0.keep hf1
 clear st0 hf1
 go_wp2_with (with_reducible refine wSk 6 ?_)
 refine a0a st1 rfl rfl (z := zAd) ap14 (cw 4 0) ap12 ?_
 intro gk w2 st2
 clear st1
 go_wp2_with (with_reducible refine wSn ?_)
 refine a0b st2 0 rfl rfl rfl rfl rfl ap2 ap0 (a0f _ _) ?_
 intro w3 st3
 clear st2
 have hfr := st3.fr
 clear st3
 go_wp2_with fail
 go_ret2
 exact ⟨rfl, hfr⟩
theorem o0P (va : Value) (l : List UInt8) (w : World) (hpa : BPart w va l) (hk : b0J l = true) :
  Calls Tryz.prog 75 #[va] w fun e w' => e = .returned (.bool true) ∧ Fr Nob w w' := by
 obtain ⟨a, n, c, rfl, hcc, hrd⟩ := hpa
 have HCC := qH hcc
 have HRD := qH hrd
 have HK := qH hk
 clear hcc hrd hk
 have st0 := St.start Nob w
 go_enter Tryz.func75, Tryz.ntmps75
 go_wp2_with fail
 refine (d0q _).mono ?_
 rintro e' w1 ⟨gc, rfl, hle, hcv, hf1⟩
 have st1 := st0.keep hf1
 have HCV := qH hcv
 clear hcv hle
 clear st0 hf1
 go_wp2_with fail
 refine (n0q l HK.out gc a n c _ HCV.out (HRD.out.still st1.fr) HCC.out).mono ?_
 rintro e' w2 ⟨rfl, hf2⟩
 have st2 := st1.keep hf2
 clear st1 hf2
 go_wp2_with (with_reducible refine wSk 3 ?_)
 refine a0a st2 rfl rfl (z := .agg (List.replicate 12 (.int .u64 0)).toArray) ap14 (cw 12 0) ap12 ?_
 intro g3 w3 st3
 clear st2
 go_wp2_with (with_reducible refine wSn ?_)
 refine a0b st3 0 rfl rfl rfl rfl rfl ap2 ap6 (PT.one _) ?_
 intro w4 st4
 clear st3
 have hfr := st4.fr
 clear st4
 go_wp2_with fail
 go_ret
 exact ⟨rfl, hfr⟩
theorem n0r (va : Value) (l : List UInt8) (w : World) (hpa : BPart w va l) (hk : b0J l = false) :
  Calls Tryz.prog 75 #[va] w fun e w' => e = .returned (.bool false) ∧ Fr Nob w w' := by
 obtain ⟨a, n, c, rfl, hcc, hrd⟩ := hpa
 have HCC := qH hcc
 have HRD := qH hrd
 have HK := qH hk
 clear hcc hrd hk
 have st0 := St.start Nob w
 go_enter Tryz.func75, Tryz.ntmps75
 go_wp2_with fail
 refine (d0q _).mono ?_
 rintro e' w1 ⟨gc, rfl, hle, hcv, hf1⟩
 have st1 := st0.keep hf1
 have HCV := qH hcv
 clear hcv hle
 clear st0 hf1
 go_wp2_with fail
 refine (u0m l HK.out gc a n c _ HCV.out (HRD.out.still st1.fr) HCC.out).mono ?_
 rintro e' w2 ⟨⟨X, Y, Z, rfl⟩, hf2⟩
 have st2 := st1.keep hf2
 clear st1 hf2
 go_wp2_with (with_reducible refine wSk 3 ?_)
 refine a0a st2 rfl rfl (z := .agg (List.replicate 12 (.int .u64 0)).toArray) ap14 (cw 12 0) ap12 ?_
 intro g3 w3 st3
 clear st2
 go_wp2_with (with_reducible refine wSn ?_)
 refine a0b st3 0 rfl rfl rfl rfl rfl ap2 (by first | (rw [a0i]; kernel_rfl) | (simp only [e0L]; kernel_rfl)) (o0M _ _ _ _) ?_
 intro w4 st4
 clear st3
 have hfr := st4.fr
 clear st4
 go_wp2_with fail
 go_ret
 exact ⟨rfl, hfr⟩
theorem A0M (w : World) : Calls Tryz.prog 29 #[] w fun e w' => ∃ v, e = .returned v ∧ Own w' w.heap.size 5 1 v 33 (bs (a0H j0b.pt)) ∧ Fr Nob w w' := by
 go_enter Tryz.func29, Tryz.ntmps29
 go_wp2_with fail
 refine (d0q _).mono ?_
 rintro e w1 ⟨gc, rfl, hle, hcv, hf1⟩
 have HCV := qH hcv
 have HF1 := qH hf1
 clear hle hcv hf1
 go_wp2_with fail
 refine (d0q _).mono ?_
 rintro e w2 ⟨gd, rfl, hle, ⟨gq, hc2, hm2⟩, hf2⟩
 have HCV2 := qH (HCV.out.keep hf2)
 have HF2 := qH (HF1.out.then hf2)
 clear hle hm2 hf2 HCV HF1
 go_wp2_with (with_reducible refine wSk 5 ?_)
 refine g0j rfl rfl Tryz.underlying117 rfl rfl (cs := j0b.L) (fun i v hv => hc2.range 5 _ k0n i v hv) (by rw [PT.len]; kernel_rfl) ?_
 clear hc2
 go_wp2_with fail
 refine (l0A j0b gc _ HCV2.out).mono ?_
 rintro e w3 ⟨v, rfl, hown, hf3⟩
 have h3 := HF2.out.then hf3
 have ho := hown.mono HF2.out.size
 clear hown hf3 HF2 HCV2
 go_wp2_with fail
 go_ret
 exact ⟨v, rfl, ho, h3⟩
end
end Go.Proofs.YtemcankmggmgoaaGreat
namespace Mvq
theorem n0s : ∀ (l : List (Nat × Pt)) (n : Nat) (p : Pt), (∀ t ∈ l, onC t.2) → onC p → e0u (l ++ [(n, p)]) = a0T (e0u l) (a0E n p)
 | [], n, p, _, _ => by show a0T (a0E n p) .O = a0T .O (a0E n p); rw [b0w]; rfl
 | (k, q) :: l, n, p, h, hp => by
  have hl : ∀ t ∈ l, onC t.2 := fun t ht => h t (List.mem_cons_of_mem _ ht)
  show a0T (a0E k q) (e0u (l ++ [(n, p)])) = a0T (a0T (a0E k q) (e0u l)) (a0E n p)
  rw [n0s l n p hl hp, b0d (a0O (h (k, q) ap17) k) (i0Y l hl) (a0O hp n)]
end Mvq
namespace Go.Proofs.YtemcankmggmgoaaGreat
open Go.RowKit Go.Mv Mvp Mvq
noncomputable def n0N (l : List (Nat × PT)) : List (Nat × Pt) := l.map fun t => (t.1, t.2.pt)
theorem u0p (l : List (Nat × PT)) : ∀ t ∈ n0N l, onC t.2 := by
 intro t ht
 obtain ⟨u, _, rfl⟩ := List.mem_map.1 ht
 exact u.2.onP
theorem u0q (l : List (Nat × PT)) (i : Nat) (o : PT) : ∀ k, k ≤ l.length → (h0T l i o k).pt = a0T o.pt (e0u ((n0N (l.take k)).map fun t => (dig (63 - i) t.1, t.2)))
 | 0, _ => by show o.pt = a0T o.pt .O; rw [b0w]
 | k + 1, h => by
  have ih := u0q l i o k ap16
  have hk : k < l.length := by omega
  have e : l.take (k + 1) = l.take k ++ [g0U l k] := by
   rw [List.take_succ_eq_append_getElem hk]
   simp [g0U, List.getD_eq_getElem?_getD, hk]
  have hon : ∀ t ∈ (n0N (l.take k)).map (fun t => (dig (63 - i) t.1, t.2)), onC t.2 := by
   intro t ht
   obtain ⟨u, hu, rfl⟩ := List.mem_map.1 ht
   exact u0p _ u hu
  rw [e, n0N, List.map_append, List.map_append, ← n0N]
  show (l0V (h0T l i o k) (f0D (g0U l k).2 (dig (63 - i) (g0U l k).1))).pt = a0T o.pt (e0u ((n0N (l.take k)).map (fun t => (dig (63 - i) t.1, t.2)) ++ [(dig (63 - i) (g0U l k).1, (g0U l k).2.pt)]))
  rw [t0T, t0X, ih, n0s _ _ _ hon (g0U l k).2.onP, b0d o.onP (i0Y _ hon) (a0O (g0U l k).2.onP _)]
theorem u0r (l : List (Nat × PT)) (hn : ∀ t ∈ l, t.1 < 16 ^ 64) : ∀ i, i ≤ 64 → (h0B l i).pt = e0u (s0h (64 - i) (n0N l))
 | 0, _ => by
  show noT.pt = _
  rw [t0V]
  have : ∀ l : List (Nat × PT), (∀ t ∈ l, t.1 < 16 ^ 64) → e0u (s0h 64 (n0N l)) = .O := by
   intro l
   induction l with
   | nil => intro _; rfl
   | cons t l ih =>
    intro h
    show a0T (a0E (t.1 / 16 ^ 64) t.2.pt) (e0u (s0h 64 (n0N l))) = .O
    rw [Nat.div_eq_of_lt (h t ap17), ih fun u hu => h u (List.mem_cons_of_mem _ hu)]
    rfl
  exact (this l hn).symm
 | i + 1, h => by
  have ih := u0r l hn i ap16
  show (h0T l i (dbN (h0B l i) 4) l.length).pt = _
  rw [u0q l i _ l.length (Nat.le_refl _), C0Q _ rfl, ih, List.take_of_length_le (Nat.le_refl _)]
  have := n0i (63 - i) (n0N l) (u0p l)
  rw [show 63 - i + 1 = 64 - i by omega] at this
  rw [show 64 - (i + 1) = 63 - i by omega]
  exact this.symm
theorem u0s (l : List (Nat × PT)) (hn : ∀ t ∈ l, t.1 < 16 ^ 64) : (j0e l).pt = e0u (n0N l) := by
 have h := u0r l hn 64 (Nat.le_refl _)
 rw [Nat.sub_self] at h
 have e : s0h 0 (n0N l) = n0N l := by
  unfold s0h
  conv => rhs; rw [← List.map_id (n0N l)]
  refine List.map_congr_left fun t _ => ?_
  show (t.1 / 16 ^ 0, t.2) = t
  rw [Nat.pow_zero, Nat.div_one]
 rw [e] at h
 exact h
theorem Own.part {w : World} {base : Nat} {v : Value} {l : List UInt8} (h : Own w base 5 1 v l.length (bs l)) : BPart w v l := by
 obtain ⟨a, c, rfl, hc, hr, -⟩ := h.form
 exact ⟨a, _, c, rfl, hc, by rwa [Nat.mul_one] at hr⟩
def OwnB1 (w w' : World) (v : Value) (l : List UInt8) : Prop := Own w' w.heap.size 5 1 v l.length (bs l)
theorem OwnB1.part {w w' : World} {v : Value} {l : List UInt8} (h : OwnB1 w w' v l) : BPart w' v l := Own.part h
theorem OwnB1.nil (w w' : World) : OwnB1 w w' (.slice none 0 0) [] := Own.nil _ _ _ _
theorem OwnB1.of {w w' : World} {v : Value} {l : List UInt8} {n : Nat} (h : Own w' w.heap.size 5 1 v n (bs l)) (hn : l.length = n) : OwnB1 w w' v l := by subst hn; exact h
theorem q16 : mQ.M < 16 ^ 64 := by decide
noncomputable def tS (lk la : List UInt8) : List UInt8 := if a0S mQ lk && b0J la then a0H (a0E (beN lk) (b0q la)) else []
def tC (lk la : List UInt8) : Int := if a0S mQ lk then (if b0J la then 0 else 4) else 3
theorem d0Y {l : List UInt8} (h : a0S mQ l = true) : beN l < mQ.M := by
 unfold a0S at h
 simp only [Bool.and_eq_true, decide_eq_true_eq] at h
 exact h.2
theorem h0W (vk va : Value) (lk la : List UInt8) (w : World) (hpk : BPart w vk lk) (hpa : BPart w va la) :
  Calls Tryz.prog 28 #[vk, va] w fun e w' => ∃ v, e = .returned (.tuple #[v, .int .i64 (tC lk la)]) ∧ OwnB1 w w' v (tS lk la) ∧ Fr Nob w w' := by
 unfold tS tC
 cases hk : a0S mQ lk
 ·exact (o0O vk va lk la w hpk hpa hk).mono fun e w' k => ⟨_, k.1, OwnB1.nil _ _, k.2⟩
 ·cases h : b0J la
  ·exact (o0N vk va lk la w hpk hpa hk (by simpa [c0P] using h)).mono fun e w' k => ⟨_, k.1, OwnB1.nil _ _, k.2⟩
  ·refine (u0o vk va lk la w hpk hpa hk (by simp [c0P, h])).mono fun e w' ⟨v, k1, k2, k3⟩ => ⟨v, k1, ?_, k3⟩
   have e1 : (j0e [(beN lk, rdT la)]).pt = a0E (beN lk) (b0q la) := by
    rw [u0s _ (by intro t ht; simp only [List.mem_singleton] at ht; subst ht; exact Nat.lt_trans (d0Y hk) q16)]
    show a0T (a0E (beN lk) (rdT la).pt) .O = _
    rw [b0w, y0Z h]
   rw [e1] at k2
   exact OwnB1.of k2 (c0h _)
def gP : Pt := .A (kc gXn) (kc gYn)
theorem u0t (w : World) : Calls Tryz.prog 29 #[] w fun e w' => ∃ v, e = .returned v ∧ OwnB1 w w' v (a0H gP) ∧ Fr Nob w w' :=
 (A0M w).mono fun e w' ⟨v, k1, k2, k3⟩ => ⟨v, k1, by rw [q0i] at k2; exact OwnB1.of k2 (c0h _), k3⟩
end Go.Proofs.YtemcankmggmgoaaGreat
namespace Mvp
theorem beN_cons (x : UInt8) (l : List UInt8) : beN (x :: l) = x.toNat * 256 ^ l.length + beN l := by
 have := j0W [x] l
 simpa [beN] using this
end Mvp
namespace Go.Proofs.YtemcankmggmgoaaGreat
open Go.RowKit Go.Mv Mvp Mvq
theorem E0X : 256 ^ 31 < mQ.M := by decide
def PtB (w : World) (a : Option Addr) (c : Nat) (p : Pt) : Prop := BPart w (.slice a 33 c) (a0H p)
theorem PtB.still {w w' : World} {a : Option Addr} {c : Nat} {p : Pt} (h : PtB w a c p) (hf : Fr Nob w w') : PtB w' a c p := BPart.still h hf
theorem PtB.of {w w' : World} {v : Value} {p : Pt} (h : OwnB1 w w' v (a0H p)) : ∃ a c, v = .slice a 33 c ∧ PtB w' a c p := by
 obtain ⟨a, n, c, rfl, hc, hr⟩ := h.part
 have : n = 33 := by have := hr.len; rw [c0h] at this; exact this.symm
 subst this
 exact ⟨a, c, rfl, a, 33, c, rfl, hc, hr⟩
theorem f0n : onC gP := by unfold gP; exact l0u
theorem wrO : a0H .O = List.replicate 33 0 := rfl
end Go.Proofs.YtemcankmggmgoaaGreat
namespace Mvq
open Mvp
def frc {α : Type} (n : Nat) (f : Nat → α) : α := Nat.rec (f 0) (fun k _ => f (k + 1)) n
theorem C0W {α : Type} (n : Nat) (f : Nat → α) : frc n f = f n := by cases n <;> rfl
def hX : Nat := 0x79BE667EF9DCBBAC55A06295CE870B07029BFCDB2DCE28D959F2815B16F81798
def hY : Nat := 0x483ADA7726A3C4655DA4FBFC0E1108A8FD17B448A68554199C47D08FFB10D4B8
def hP : Pt := .A (kc hX) (kc hY)
theorem d0h : onC hP := by
 show kc hY * kc hY = kc hX * kc hX * kc hX + 7
 decide
abbrev qN : Nat := 115792089237316195423570985008687907852837564279074904382605163141518161494337
theorem C0X : qN = pQ := by decide
def k0o (e : Nat) : Nat → Nat → Nat → Nat → Bool
 | 0, X, Y, Z => !(Z % fP == 0) && X % fP == hX * Z % fP && (Y + hY * Z) % fP == 0
 | k + 1, X, Y, Z =>
  !(Z % fP == 0) &&
  frc (3 * (X * X) % fP) fun d => frc (2 * Y * Z % fP) fun u => frc (u * u % fP) fun uu => frc (uu * u % fP) fun uuu => frc ((d * d * Z + (fP - 2 * X * uu % fP)) % fP) fun t =>
  frc (u * t % fP) fun X' => frc ((d * (X * uu + (fP - t % fP)) + (fP - Y * uuu % fP)) % fP) fun Y' => frc (uuu * Z % fP) fun Z' =>
  if e / 2 ^ k % 2 = 1 then
   !(Z' % fP == 0) && 
   frc ((hY * Z' + (fP - Y' % fP)) % fP) fun d => frc ((hX * Z' + (fP - X' % fP)) % fP) fun u => !(u % fP == 0) && frc (u * u % fP) fun uu => frc (uu * u % fP) fun uuu => frc ((d * d * Z' + (fP - uuu % fP) + (fP - 2 * X' * uu % fP)) % fP) fun t =>
   frc (u * t % fP) fun X2 => frc ((d * (X' * uu + (fP - t % fP)) + (fP - Y' * uuu % fP)) % fP) fun Y2 => frc (uuu * Z' % fP) fun Z2 => k0o e k X2 Y2 Z2
  else k0o e k X' Y' Z'
theorem A0N : k0o (qN - 1) 255 hX hY 1 = true := by decide +kernel
theorem C0Y (a b : Nat) (h : a % fP = b % fP) : kc a = kc b := by rw [← e0t a, h, e0t]
theorem x0u (a : Nat) (h : a % fP ≠ 0) : kc a ≠ 0 := by
 intro e
 have := t0O a
 rw [e, decide_eq_true rfl] at this
 exact h (by simpa using this)
theorem n0O (a : Nat) : kc (a % fP) = kc a := e0t a
theorem l0C (e : Nat) : ∀ (k X Y Z : Nat), k0o e k X Y Z = true → nm (kc X) (kc Y) (kc Z) = a0E (e / 2 ^ k) hP → a0E e hP = f0j hP
 | 0, X, Y, Z, h, hp => by
  simp only [k0o, Bool.and_eq_true, Bool.not_eq_true', beq_iff_eq, beq_eq_false_iff_ne, ne_eq] at h
  obtain ⟨⟨hz, hx⟩, hy⟩ := h
  rw [Nat.pow_zero, Nat.div_one] at hp
  rw [← hp]
  have hx' := C0Y _ _ hx
  rw [a0K] at hx'
  have hy' : kc (Y + hY * Z) = 0 := by
   have := t0O (Y + hY * Z)
   rw [hy] at this
   simpa using this
  rw [h0i, a0K] at hy'
  exact r0E (x0u _ hz) hx' (by grind -lia -linarith)
 | k + 1, X, Y, Z, h, hp => by
  have hon : onC (nm (kc X) (kc Y) (kc Z)) := by rw [hp]; exact a0O d0h _
  simp only [k0o, C0W, Bool.and_eq_true, Bool.not_eq_true', beq_eq_false_iff_ne, ne_eq] at h
  obtain ⟨hz, h⟩ := h
  have hd := n0h hon (x0u _ hz) _ _ _ _ _ _ rfl rfl rfl rfl rfl rfl
  rw [hp] at hd
  have hbit := q0h d0h e k
  generalize hd0 : 3 * (X * X) % fP = d at h
  generalize hu0 : 2 * Y * Z % fP = u at h
  generalize huu : u * u % fP = uu at h
  generalize huuu : uu * u % fP = uuu at h
  generalize ht : (d * d * Z + (fP - 2 * X * uu % fP)) % fP = t at h
  generalize hX' : u * t % fP = X' at h
  generalize hY' : (d * (X * uu + (fP - t % fP)) + (fP - Y * uuu % fP)) % fP = Y' at h
  generalize hZ' : uuu * Z % fP = Z' at h
  have k2 : kc 2 = 2 := by decide
  have k3' : kc 3 = 3 := by decide
  have d1 : kc d = 3 * (kc X * kc X) := by rw [← hd0, n0O, a0K, a0K, k3']
  have u1 : kc u = 2 * kc Y * kc Z := by rw [← hu0, n0O, a0K, a0K, k2]
  have uu1 : kc uu = kc u * kc u := by rw [← huu, n0O, a0K]
  have uuu1 : kc uuu = kc uu * kc u := by rw [← huuu, n0O, a0K]
  have t1 : kc t = kc d * kc d * kc Z - 2 * kc X * kc uu := by rw [← ht, n0O, c0Y, a0K, a0K, a0K, a0K, k2]
  have X1 : kc X' = kc u * kc t := by rw [← hX', n0O, a0K]
  have Y1 : kc Y' = kc d * (kc X * kc uu - kc t) - kc Y * kc uuu := by rw [← hY', n0O, c0Y, a0K, c0Y, a0K, a0K]
  have Z1 : kc Z' = kc uuu * kc Z := by rw [← hZ', n0O, a0K]
  rw [← d1, ← u1, ← uu1, ← uuu1, ← t1, ← X1, ← Y1, ← Z1] at hd
  rw [← hd] at hbit
  clear d1 u1 uu1 uuu1 t1 X1 Y1 Z1 hd0 hu0 huu huuu ht hX' hY' hZ'
  have hon' : onC (nm (kc X') (kc Y') (kc Z')) := by rw [hd]; exact c0r (a0O d0h _) (a0O d0h _)
  by_cases hb : e / 2 ^ k % 2 = 1
  ·rw [if_pos hb] at h hbit
   simp only [Bool.and_eq_true, Bool.not_eq_true', beq_eq_false_iff_ne, ne_eq] at h
   obtain ⟨hz', hu', h⟩ := h
   have one : kc 1 = 1 := by decide
   have hnP : nm (kc hX) (kc hY) (kc 1) = hP := r0E ap15 (by rw [one]; grind -lia -linarith) (by rw [one]; grind -lia -linarith)
   have hs := t0P (X2 := kc hX) (Y2 := kc hY) (Z2 := kc 1) hon' (by rw [hnP]; exact d0h) (x0u _ hz') ap15 (kc (hY * Z')) (kc (hX * Z')) (kc Y') (kc X') (kc (hY * Z') - kc Y') (kc (hX * Z') - kc X') (kc Z') _ _ _ (a0K _ _) (a0K _ _) (by rw [one]; grind -lia -linarith) (by rw [one]; grind -lia -linarith) rfl rfl
    (by rw [← c0Y]; exact x0u _ (by rw [Nat.mod_mod] at hu'; exact hu')) (by rw [one]; grind -lia -linarith) rfl rfl rfl
   rw [hnP] at hs
   generalize hd0 : (hY * Z' + (fP - Y' % fP)) % fP = d at h
   generalize hu0 : (hX * Z' + (fP - X' % fP)) % fP = u at h
   generalize huu : u * u % fP = uu at h
   generalize huuu : uu * u % fP = uuu at h
   generalize ht : (d * d * Z' + (fP - uuu % fP) + (fP - 2 * X' * uu % fP)) % fP = t at h
   have d1 : kc d = kc (hY * Z') - kc Y' := by rw [← hd0, n0O, c0Y]
   have u1 : kc u = kc (hX * Z') - kc X' := by rw [← hu0, n0O, c0Y]
   have uu1 : kc uu = kc u * kc u := by rw [← huu, n0O, a0K]
   have uuu1 : kc uuu = kc uu * kc u := by rw [← huuu, n0O, a0K]
   have t1 : kc t = kc d * kc d * kc Z' - kc uuu - 2 * kc X' * kc uu := by rw [← ht, n0O, c0Y, c0Y, a0K, a0K, a0K, a0K, k2]
   rw [← d1, ← u1, ← uu1, ← uuu1, ← t1] at hs
   refine l0C e k _ _ _ h ?_
   rw [hbit, ← hs, n0O, n0O, n0O, a0K, c0Y, a0K, c0Y, a0K, a0K, a0K]
  ·rw [if_neg hb] at h hbit
   rw [b0w] at hbit
   exact l0C e k _ _ _ h hbit.symm
theorem C0Z : a0E qN hP = .O := by
 have one : kc 1 = 1 := by decide
 have hnP : nm (kc hX) (kc hY) (kc 1) = hP := r0E ap15 (by rw [one]; grind -lia -linarith) (by rw [one]; grind -lia -linarith)
 have h := l0C (qN - 1) 255 hX hY 1 A0N (by rw [hnP, show (qN - 1) / 2 ^ 255 = 1 by decide]; rfl)
 have e : qN = (qN - 1) + 1 := by decide
 rw [e]
 show a0T (a0E (qN - 1) hP) hP = .O
 rw [h, c0O]
 exact c0x
theorem e0P {a b c : Pt} (ha : onC a) (hb : onC b) (hc : onC c) (h : a0T a b = a0T a c) : b = c := by
 have h1 : a0T (f0j a) (a0T a b) = a0T (f0j a) (a0T a c) := by rw [h]
 rw [← b0d (c0i ha) ha hb, ← b0d (c0i ha) ha hc, c0O (f0j a) a, c0x] at h1
 exact h1
theorem g0L {a b : Pt} (ha : onC a) (hb : onC b) (h : a0T a b = .O) : b = f0j a := e0P ha hb (c0i ha) (by rw [h, c0x])
theorem D0a {p : Pt} (hp : onC p) (h : a0T p p = .O) : p = .O := by
 have e := g0L hp hp h
 cases p with
 | O => rfl
 | A x y =>
  exfalso
  have hy : y = -y := by
   have : Pt.A x y = Pt.A x (-y) := e
   injection this
  have h2 : (2 : K) * y = 0 := by grind -lia -linarith
  exact (a0z h2).elim k0g (v0J hp)
theorem g0M {a b c d : Pt} (ha : onC a) (hb : onC b) (hc : onC c) (hd : onC d) : a0T (a0T a b) (a0T c d) = a0T (a0T a c) (a0T b d) := by
 rw [b0d ha hb (c0r hc hd), ← b0d hb hc hd, c0O b c, b0d hc hb hd, ← b0d ha hc (c0r hb hd)]
def InH (p : Pt) : Prop := ∃ n, p = a0E n hP
theorem InH.on {p : Pt} (h : InH p) : onC p := by obtain ⟨n, rfl⟩ := h; exact a0O d0h n
theorem InH.add {p q : Pt} (h : InH p) (k : InH q) : InH (a0T p q) := by
 obtain ⟨m, rfl⟩ := h
 obtain ⟨n, rfl⟩ := k
 exact ⟨m + n, (b0T d0h m n).symm⟩
theorem x0v (n : Nat) : a0E (qN * n) hP = .O := by rw [d0c d0h, C0Z, k0i]
theorem InH.neg {p : Pt} (h : InH p) : InH (f0j p) := by
 obtain ⟨n, rfl⟩ := h
 refine ⟨(qN - 1) * n, (g0L (a0O d0h n) (a0O d0h _) ?_).symm⟩
 rw [← b0T d0h, show n + (qN - 1) * n = qN * n by have h := Nat.add_mul 1 (qN - 1) n; rw [Nat.one_mul, show 1 + (qN - 1) = qN by decide] at h; exact h.symm, x0v]
theorem InH.half {p : Pt} (hp : onC p) (h : InH (a0T p p)) : InH p := by
 obtain ⟨n, hn⟩ := h
 have hm : onC (a0E (n * ((qN + 1) / 2)) hP) := a0O d0h _
 have e : a0T (a0E (n * ((qN + 1) / 2)) hP) (a0E (n * ((qN + 1) / 2)) hP) = a0E n hP := by
  rw [← b0T d0h, ← Nat.mul_add, show (qN + 1) / 2 + (qN + 1) / 2 = qN + 1 by decide, Nat.mul_add, Nat.mul_one, b0T d0h, Nat.mul_comm n, x0v]
  rfl
 refine ⟨n * ((qN + 1) / 2), ?_⟩
 have h2 : a0T (a0T p (f0j (a0E (n * ((qN + 1) / 2)) hP))) (a0T p (f0j (a0E (n * ((qN + 1) / 2)) hP))) = .O := by
  rw [g0M hp (c0i hm) hp (c0i hm), hn, ← e, g0M hm hm (c0i hm) (c0i hm), c0x]
  rfl
 have h3 := D0a (c0r hp (c0i hm)) h2
 have h4 : a0T (f0j (a0E (n * ((qN + 1) / 2)) hP)) p = a0T (f0j (a0E (n * ((qN + 1) / 2)) hP)) (a0E (n * ((qN + 1) / 2)) hP) := by
  rw [c0O, h3, c0O, c0x]
 exact e0P (c0i hm) hp hm h4
theorem x0w {i j : Nat} (hi : i < qN) (hj : j < qN) (h : a0E i hP = a0E j hP) : i = j := by
 have key : ∀ i j : Nat, j < qN → i < j → a0E i hP = a0E j hP → False := by
  intro i j hj hij h
  have hd : a0E (j - i) hP = .O := by
   refine e0P (a0O d0h i) (a0O d0h _) trivial ?_
   rw [← b0T d0h, show i + (j - i) = j by omega, ← h, b0w]
  have hq := C0X
  have hinv := FP.inv E0H (a := j - i) ap16 ap16
  have e1 : a0E ((j - i) * ((j - i) ^ (pQ - 2) % pQ)) hP = .O := by rw [d0c d0h, hd, k0i]
  generalize (j - i) * ((j - i) ^ (pQ - 2) % pQ) = m at *
  rw [← hq] at hinv
  have hm := Nat.div_add_mod m qN
  rw [hinv] at hm
  rw [← hm, b0T d0h, x0v] at e1
  have e2 : a0T (.O) (a0E 1 hP) = hP := rfl
  rw [e2] at e1
  cases e1
 rcases Nat.lt_trichotomy i j with k | k | k
 ·exact (key i j hj k h).elim
 ·exact k
 ·exact (key j i hi k h.symm).elim
theorem pig (N B : Nat) (g : Nat → Nat) (hb : ∀ a, a < N → g a < B) (hi : ∀ a b, a < N → b < N → g a = g b → a = b) : N ≤ B := by
 have hnd : ((List.range N).map g).Nodup := by
  refine List.pairwise_map.2 ?_
  have h0 : (List.range N).Nodup := List.nodup_range
  refine List.Pairwise.imp_of_mem (fun {a b} ha hb' hne => ?_) h0
  exact fun e => hne (hi a b (List.mem_range.1 ha) (List.mem_range.1 hb') e)
 have hs : (List.range N).map g ⊆ List.range B := by
  intro x hx
  obtain ⟨a, ha, rfl⟩ := List.mem_map.1 hx
  exact List.mem_range.2 (hb a (List.mem_range.1 ha))
 have := List.Nodup.length_le_of_subset hnd hs
 simpa using this
def enc : Pt → Nat
 | .O => 0
 | .A x y => 1 + 2 * x.val + y.val % 2
theorem D0b (p : Pt) : enc p < 2 * fP + 1 := by
 cases p with
 | O => show 0 < 2 * fP + 1; omega
 | A x y => have := x.isLt; show 1 + 2 * x.val + y.val % 2 < 2 * fP + 1; omega
theorem A0O {p q : Pt} (hp : onC p) (hq : onC q) (h : enc p = enc q) : p = q := by
 cases p with
 | O => cases q with
  | O => rfl
  | A x y => have h' : 0 = 1 + 2 * x.val + y.val % 2 := h; omega
 | A x y => cases q with
  | O => have h' : 1 + 2 * x.val + y.val % 2 = 0 := h; omega
  | A x' y' =>
   have h' : 1 + 2 * x.val + y.val % 2 = 1 + 2 * x'.val + y'.val % 2 := h
   have hx : x = x' := Fin.ext ap16
   have hy : y.val % 2 = y'.val % 2 := by omega
   subst hx
   have hp' : y * y = x * x * x + 7 := hp
   have hq' : y' * y' = x * x * x + 7 := hq
   rcases t0S (hp'.trans hq'.symm) with e | e
   ·rw [e]
   ·exfalso
    rw [e, j0a y' (v0J hq')] at hy
    omega
theorem A0P : ¬ 3 * qN ≤ 2 * fP + 1 := by decide
theorem E0h {p : Pt} (hp : onC p) : InH p := by
 refine Classical.byContradiction fun hn => ?_
 have hnp := c0i hp
 let c : Nat → Pt := fun k => if k = 0 then .O else if k = 1 then p else f0j p
 have hc : ∀ k, onC (c k) := fun k => by
  show onC (if k = 0 then .O else if k = 1 then p else f0j p)
  split
  ·trivial
  ·split
   ·exact hp
   ·exact hnp
 have hsub : ∀ a b : Pt, onC a → onC b → ∀ i j, a0T a (a0E i hP) = a0T b (a0E j hP) → InH (a0T a (f0j b)) := by
  intro a b ha hb i j h
  have hI := a0O d0h i
  have hJ := a0O d0h j
  obtain ⟨m, hm⟩ := InH.add (p := a0E j hP) (q := f0j (a0E i hP)) ⟨j, rfl⟩ (InH.neg ⟨i, rfl⟩)
  refine ⟨m, ?_⟩
  rw [← hm]
  have e1 : a0T (a0T a (a0E i hP)) (a0T (f0j b) (f0j (a0E i hP))) = a0T (a0T b (a0E j hP)) (a0T (f0j b) (f0j (a0E i hP))) := by rw [h]
  rw [g0M ha hI (c0i hb) (c0i hI), g0M hb hJ (c0i hb) (c0i hI), c0x, c0x, b0w] at e1
  exact e1
 have hdiff : ∀ k l, k < 3 → l < 3 → InH (a0T (c k) (f0j (c l))) → k = l := by
  have h0 : c 0 = .O := rfl
  have h1 : c 1 = p := rfl
  have h2 : c 2 = f0j p := rfl
  have nn : f0j (f0j p) = p := (g0L hnp hp (by rw [c0O, c0x])).symm
  have hneg : InH (f0j p) → InH p := fun h => by have := h.neg; rwa [nn] at this
  intro k l hk hl h
  have hk3 : k = 0 ∨ k = 1 ∨ k = 2 := by omega
  have hl3 : l = 0 ∨ l = 1 ∨ l = 2 := by omega
  rcases hk3 with rfl | rfl | rfl <;> rcases hl3 with rfl | rfl | rfl <;> try rfl
  ·rw [h0, h1] at h; exact (hn (hneg h)).elim
  ·rw [h0, h2, nn] at h; exact (hn h).elim
  ·rw [h0, h1] at h; exact (hn (by have h' : InH (a0T p .O) := h; rwa [b0w] at h')).elim
  ·rw [h1, h2, nn] at h; exact (hn (InH.half hp h)).elim
  ·rw [h0, h2] at h; exact (hn (hneg (by have h' : InH (a0T (f0j p) .O) := h; rwa [b0w] at h'))).elim
  ·rw [h1, h2] at h; exact (hn (hneg (InH.half hnp h))).elim
 have hq : 0 < qN := by decide
 have h3 := A0P
 generalize hqn : qN = q at hq h3
 refine h3 (pig (3 * q) (2 * fP + 1) (fun m => enc (a0T (c (m / q)) (a0E (m % q) hP))) (fun a _ => D0b _) ?_)
 intro a b ha hb h
 have ha3 : a / q < 3 := Nat.div_lt_of_lt_mul (by rw [Nat.mul_comm]; exact ha)
 have hb3 : b / q < 3 := Nat.div_lt_of_lt_mul (by rw [Nat.mul_comm]; exact hb)
 have e := A0O (c0r (hc _) (a0O d0h _)) (c0r (hc _) (a0O d0h _)) h
 have ek := hdiff _ _ ha3 hb3 (hsub _ _ (hc _) (hc _) _ _ e)
 rw [ek] at e
 have e2 := e0P (hc _) (a0O d0h _) (a0O d0h _) e
 have hma := Nat.mod_lt a hq
 have hmb := Nat.mod_lt b hq
 rw [← hqn] at hma hmb e2
 have e3 := x0w hma hmb e2
 rw [hqn] at e3
 rw [← Nat.div_add_mod a q, ← Nat.div_add_mod b q, ek, e3]
theorem z0a {p : Pt} (hp : onC p) : a0E qN p = .O := by
 obtain ⟨n, rfl⟩ := E0h hp
 rw [← d0c d0h, Nat.mul_comm, x0v]
theorem e0Q {p : Pt} (hp : onC p) (n : Nat) : a0E (n % qN) p = a0E n p := by
 have h := Nat.div_add_mod n qN
 conv => rhs; rw [← h, b0T hp, d0c hp, z0a hp, k0i]
 rfl
theorem q0s {p : Pt} (hp : onC p) (n : Nat) : a0E (qN - n % qN) p = f0j (a0E n p) := by
 refine g0L (a0O hp n) (a0O hp _) ?_
 rw [← e0Q hp n, ← b0T hp]
 have := Nat.mod_lt n (show 0 < qN by decide)
 rw [show n % qN + (qN - n % qN) = qN by omega, z0a hp]
end Mvq
namespace Mvq
theorem A0Q {p : Pt} (hp : onC p) (k c x : Nat) : a0E ((k + c * x) % qN) p = a0T (a0E k p) (a0E c (a0E x p)) := by
 rw [e0Q hp, b0T hp, Nat.mul_comm c x, d0c hp]
theorem u0u {p : Pt} (hp : onC p) (k c x : Nat) : a0T (a0E ((k + c * x) % qN) p) (f0j (a0E c (a0E x p))) = a0E k p := by
 rw [A0Q hp, b0d (a0O hp k) (a0O (a0O hp x) c) (c0i (a0O (a0O hp x) c)), c0x, b0w]
end Mvq
namespace Go.Proofs.YtemcankmggmgoaaGreat
open Go.RowKit Go.Mv Mvp Mvq
def o0Q (st label : List UInt8) : Nat := beN (a0L (c0s D0E [st, label]) 31 64) % mQ.M
def g0N (st : List UInt8) : Nat := o0Q st i0I
def chN (label : List UInt8) (parts : List (List UInt8)) : Nat := beN (a0L (c0s label parts) 31 64) % mQ.M
theorem A0R (st label : List UInt8) : o0Q st label < mQ.M := Nat.mod_lt _ ap15
def d0a (base a b first second : List UInt8) : Nat := g0N (c0R (E0C C0d) [(C0e, base), (kAS, a), (kBS, b), (z0Z, first), (w0r, second)])
def d0B (l : List UInt8) : Bool := a0S mQ l && !decide (beN l = 0)
def b0B (l : List UInt8) : Bool := b0J l && !decide (l.getD 0 0 = 0)
noncomputable def smC (key point : List UInt8) : Nat := d0a point (a0H (a0E (beN key) gP)) (a0H (a0E (beN key) (b0q point))) (a0H (a0E (chN a0A [key, point]) gP)) (a0H (a0E (chN a0A [key, point]) (b0q point)))
noncomputable def smE (key point : List UInt8) : Int := if d0B key = true then (if b0B point = true then 0 else 4) else 3
noncomputable def smS (key point : List UInt8) : List UInt8 := if d0B key = true then (if b0B point = true then a0P (smC key point) ++ a0P ((chN a0A [key, point] + smC key point * beN key) % mQ.M) else []) else []
noncomputable def vsB (a point b s : List UInt8) : Bool := b0B a && b0B point && b0B b && decide (s.length = 64) && a0S mQ (s.take 32) && a0S mQ (s.drop 32) &&
 decide (d0a point a b (a0H (a0T (a0E (beN (s.drop 32)) gP) (f0j (a0E (beN (s.take 32)) (b0q a))))) (a0H (a0T (a0E (beN (s.drop 32)) (b0q point)) (f0j (a0E (beN (s.take 32)) (b0q b))))) = beN (s.take 32))
end Go.Proofs.YtemcankmggmgoaaGreat
namespace Mvt
variable {α : Type} (nd : α → α → α)
def half (n : Nat) : Nat := 2 ^ Nat.log2 (n - 1)
def skip (a e : Nat) : Nat × Nat := if a % 2 = 0 ∧ 0 < a then skip (a / 2) (e / 2) else (a, e)
termination_by a
decreasing_by omega
end Mvt
namespace Go.Proofs.YtemcankmggmgoaaGreat
open Go.RowKit Go.Mv Mvp Mvt
attribute [local irreducible] b0g b0x toB a0u a0B b0h b0R a0L c0g b0b a0y c0s
theorem u0v (a : Option Addr) (n c : Nat) (l : List UInt8) (a' : Option Addr) (n' c' : Nat) (l' : List UInt8) (w : World) (hb : RdB w a n l) (hb' : RdB w a' n' l') :
  Calls Tryz.prog 76 #[.slice a n c, .slice a' n' c'] w fun r w' => r = .returned (.bool (decide (l = l'))) ∧ w = w' := by
 have x1 := c0f hb c Tryz.underlying22 Tryz.underlying5 Tryz.underlying9
 have x2 := c0f hb' c' Tryz.underlying22 Tryz.underlying5 Tryz.underlying9
 go_enter Tryz.func76, Tryz.ntmps76
 go_wp2_with fail
 go_ret
 exact ⟨v0K (i0h _ _), rfl⟩
end Go.Proofs.YtemcankmggmgoaaGreat
namespace Mvp
end Mvp
namespace Go.Mv
open Mvp
end Go.Mv
namespace Go.Proofs.YtemcankmggmgoaaGreat
section
open Go.RowKit Go.Mv Mvp Mvt
attribute [local irreducible] b0g b0x toB a0u a0B b0h b0R a0L c0g b0b a0y c0s
end
section
open Go.RowKit Go.Mv Mvp Mvt
attribute [local irreducible] b0g b0x toB a0u a0B b0h b0R a0L c0g b0b a0y c0s
end
end Go.Proofs.YtemcankmggmgoaaGreat
namespace Mvp
end Mvp
namespace Go.Proofs.YtemcankmggmgoaaGreat
section
open Go.RowKit Go.Mv Mvp
attribute [local irreducible] b0g b0x toB a0u a0B b0h b0R a0L c0g b0b a0y c0s
theorem u0w (b : Option Addr) (n c : Nat) (l : List UInt8) (m : Nat) (w : World) (hn : n ≤ 1000000) (hnc : n ≤ c) (hm : m ≤ 16384) (hb : RdB w b n l) (ho : Old w b) :
  Calls Tryz.prog 114 #[.slice b n c, .int .i64 (m : Int)] w fun r w' => ∃ v, r = .returned (.tuple #[v, .int .i64 0]) ∧ Own w' w.heap.size 5 1 v m (bs (a0L l 31 m)) ∧ Fr Nob w w' := by
 refine (r0h b n c l m w hn hnc hb ho).mono ?_
 rintro r w' (⟨_, _, v, h1, h2, h3⟩ | ⟨h, _⟩)
 ·exact ⟨v, h1, by simpa using h2, h3⟩
 ·omega
end
section
open Go.RowKit Go.Mv Mvp
def AllPost (m : Md) (ls : List (List UInt8)) (w : World) (e : Ending) (w' : World) : Prop :=
 (a0V m ls = true → ∃ v, e = .returned (.tuple #[v, .bool true]) ∧ Own w' w.heap.size 68 4 v ls.length (b0e m ls)) ∧
 (a0V m ls = false → e = .returned (.tuple #[.slice none 0 0, .bool false])) ∧ Fr Nob w w'
theorem AllPost.bad {m : Md} {ls : List (List UInt8)} {w w' : World} {e : Ending} (h : a0V m ls = false) (he : e = .returned (.tuple #[.slice none 0 0, .bool false])) (hf : Fr Nob w w') : AllPost m ls w e w' :=
 ⟨fun h1 => (by rw [h] at h1; cases h1), fun _ => he, hf⟩
theorem AllPost.good {m : Md} {ls : List (List UInt8)} {w w' : World} {e : Ending} {v : Value} (h : a0V m ls = true) (he : e = .returned (.tuple #[v, .bool true])) (ho : Own w' w.heap.size 68 4 v ls.length (b0e m ls)) (hf : Fr Nob w w') : AllPost m ls w e w' :=
 ⟨fun _ => ⟨v, he, ho⟩, fun h1 => (by rw [h] at h1; cases h1), hf⟩
attribute [local irreducible] a0C lw mix cw b0k b0y b0j a0M a0n beN b0F a0P b0C a0J a0R elN mdL b0e a0V a0S
theorem u0x (m : Md) (hk : KindOf 1 m) (al : Option Addr) (n cl : Nat) (vs : List Value) (ls : List (List UInt8)) (w : World) (hv : Rd w al n vs) (hp : BParts w vs ls) (hn : n ≤ 100000) :
  Calls Tryz.prog 70 #[.slice al n cl] w (AllPost m ls w) := by
 have HK := qH hk
 have HOK := qH hk.ok
 have HV := qH hv
 have HP := qH hp
 have HL := qH (show ls.length = n by rw [← hp.1, hv.len])
 clear hk hv hp
 go_enter Tryz.func70, Tryz.ntmps70
 go_wp2
 go_loopw [4, 11] (fun v i wr => ∃ k : Nat, k ≤ n ∧ i = .int .i64 (k : Int) ∧ a0V m (ls.take k) = true ∧ Own wr w.heap.size 68 4 v k (b0e m (ls.take k)) ∧ Fr Nob w wr) (fun _ i _ => n - (intOf i).toNat)
 case atStart => exact ⟨0, Nat.zero_le _, rfl, by rw [List.take_zero]; unfold a0V; rfl, by rw [List.take_zero]; unfold b0e; exact Own.nil _ _ _ _, Fr.refl _ _⟩
 case round =>
  obtain ⟨k, hk, rfl, hgood, hown, hf⟩ := hrel
  by_cases hlt : k < n
  ·have hltI : (k : Int) < (n : Int) := by omega
   obtain ⟨b, o, rfl, hat⟩ := (HV.out.still hf).at ap16
   have hvl : k < vs.length := by rw [HV.out.len]; exact hlt
   obtain ⟨a, nn, c, hve, hcc, hrd⟩ := HP.out.2 k (vs[k]'hvl) (List.getElem?_eq_getElem hvl)
   have hc1 := hat k _ (List.getElem?_eq_getElem hvl)
   rw [hve] at hc1
   have hlk : k < ls.length := by rw [HL.out]; exact hlt
   have hts := f0v m ls k hlk
   have hcs : b0e m (ls.take (k + 1)) = b0e m (ls.take k) ++ cw 4 (elN m (beN (ls.getD k []))) := by
    rw [List.take_succ_eq_append_getElem hlk, m0U]
    simp [List.getD_eq_getElem?_getD, hlk]
   have hbad := g0w m ls k hlk
   generalize hL : ls.getD k [] = l at *
   have HLL := qH hL
   have HRD := qH (hrd.still hf)
   have HTS := qH hts
   have HCS := qH hcs
   have HBAD := qH hbad
   have HG := qH hgood
   have HOWN := qH hown
   have HF := qH hf
   have hnI : (n : Int) ≤ 100000 := by omega
   clear hL hrd hts hcs hbad hgood hown hf hat hve hcc
   cases hnb : a0S m l
   ·have HNB := qH hnb
    have HNL := qH (HBAD.out hnb)
    clear hnb
    have st0 := St.start Nob wr
    go_wp2_with fail
    refine (t0w m HK.out a nn c l _ (HRD.out.still st0.fr) HNB.out).mono ?_
    rintro e' w1 ⟨rfl, hf1⟩
    have st1 := st0.keep hf1
    clear st0 hf1
    go_wp2_with (with_reducible refine wSk 7 ?_)
    refine a0a st1 rfl rfl (z := zAd) ap14 (cw 4 0) ap12 ?_
    intro g7 w2 st2
    clear st1
    go_wp2_with (with_reducible refine wSn ?_)
    refine a0b st2 0 rfl rfl rfl rfl rfl ap5 ap4 (a0f _ _) ?_
    intro w3 st3
    clear st2
    have HFR := qH (HF.out.then st3.fr)
    clear st3
    go_wp2_with fail
    go_ret2
    exact AllPost.bad HNL.out rfl HFR.out
   ·have HNB := qH hnb
    clear hnb
    have st0 := St.start Nob wr
    go_wp2_with fail
    refine (m0V m HK.out a nn c l _ (HRD.out.still st0.fr) HNB.out).mono ?_
    rintro e' w1 ⟨rfl, hf1⟩
    have st1 := st0.keep hf1
    clear st0 hf1
    go_wp2_with (with_reducible refine wSk 7 ?_)
    refine a0a st1 rfl rfl (z := zAd) ap14 (cw 4 0) ap12 ?_
    intro g7 w2 st2
    clear st1
    go_wp2_with (with_reducible refine wSn ?_)
    refine a0b st2 0 rfl rfl rfl rfl rfl ap5 ap4 (a0f _ _) ?_
    intro w3 st3
    clear st2
    go_wp2_with (with_reducible refine wSk 23 ?_)
    refine a0p st3 0 rfl rfl rfl Tryz.underlying68 rfl rfl ap4 ?_
    go_wp2_with (with_reducible refine wSk 24 ?_)
    refine f0u rfl rfl Tryz.underlying92 t0v [i4 (elN m (beN l))] rfl (by simp [i4, Value.cells, a0i]) rfl (cw 4 (elN m (beN l))) (by simp [p0E]) ?_
    intro wA hgA hfA hzA
    clear hzA
    have hfrA := st3.fr.then hfA
    have hsz := HF.out.size
    have hsz2 := hfrA.size
    have hownA := HOWN.out.still hfrA
    have hrdA : Rd wA (some ⟨w3.heap.size, 0, none⟩) (1 * 4) (cw 4 (elN m (beN l))) := by
     have := Rd.whole hgA
     rwa [a0i] at this
    have HRDA := qH hrdA
    have HOWNA := qH hownA
    have HFRA := qH hfrA
    clear hgA hfA hrdA hownA hfrA st3
    generalize w3.heap.size = gA at *
    go_wp2_with (with_reducible refine wSk 25 ?_)
    refine c0E rfl rfl Tryz.underlying92 t0v rfl ap15 HOWNA.out rfl rfl HRDA.out (a0f _ _) ap11 ap16 ap16 ?_
    intro vB wB hownB hfB hbB
    clear hbB
    have hfrB := HOWNA.out.fr (HF.out.then HFRA.out) (Nat.le_refl _) hfB
    have HFRB := qH hfrB
    rw [← HCS.out] at hownB
    have HOWNB := qH hownB
    clear hfrB hownB hfB
    go_wp2_with fail
    go_roundw
    case rel => exact ⟨k + 1, by omega, by go_num, by rw [HTS.out, HG.out, HNB.out]; rfl, HOWNB.out, HFRB.out⟩
    case measure => simp [intOf]; omega
  ·have hge : ¬ ((k : Int) < (n : Int)) := by omega
   have hkn : k = ls.length := by rw [HL.out]; omega
   rw [hkn, List.take_of_length_le (Nat.le_refl _)] at hgood hown
   have HG := qH hgood
   have HO := qH hown
   have HF := qH hf
   clear hkn hgood hown hf
   go_wp2_with fail
   go_ret2
   exact AllPost.good HG.out rfl HO.out HF.out
end
section
open Go.RowKit Go.Mv Mvp
attribute [local irreducible] a0C lw mix cw b0k b0y b0j a0M a0n beN b0F a0P b0C a0J a0R elN mdL
end
section
open Go.RowKit Go.Mv Mvp
theorem q0t (m : Md) (hM : m.M < B64 ^ 4) (s : ByteArray) (w : World) (h : a0S m s.data.toList = true) :
  Calls Tryz.prog 122 #[fv m.M, .string s] w fun e w' => e = .returned (.tuple #[i4 (beN s.data.toList), .bool true]) ∧ Fr Nob w w' := by
 unfold a0S at h
 simp only [Bool.and_eq_true, decide_eq_true_eq] at h
 refine (m0M m.M s w (by have := h.1; simpa using this) hM).mono fun e w' he => ?_
 rw [decide_eq_true h.2] at he
 exact he
theorem q0u (m : Md) (hM : m.M < B64 ^ 4) (s : ByteArray) (w : World) (h : a0S m s.data.toList = false) :
  Calls Tryz.prog 122 #[fv m.M, .string s] w fun e w' => ∃ N, e = .returned (.tuple #[i4 N, .bool false]) ∧ Fr Nob w w' := by
 by_cases hs : s.size = 32
 ·refine (m0M m.M s w hs hM).mono fun e w' he => ?_
  have h2 : ¬ beN s.data.toList < m.M := by
   intro hb
   unfold a0S at h
   rw [decide_eq_true hb, decide_eq_true (by simpa using hs)] at h
   cases h
  rw [decide_eq_false h2] at he
  exact ⟨_, he⟩
 ·exact (r0t m.M s w hs).mono fun e w' he => ⟨_, he⟩
theorem A0S (m : Md) (l : List UInt8) (h : a0S m l = true) : beN l < m.M := by
 unfold a0S at h
 simp only [Bool.and_eq_true, decide_eq_true_eq] at h
 exact h.2
attribute [local irreducible] a0C lw mix cw b0k b0y b0j a0M a0n beN b0F a0P b0C a0J a0R elN mdL a0S a0V b0e
end
end Go.Proofs.YtemcankmggmgoaaGreat
namespace Mvp
end Mvp
namespace Go.Proofs.YtemcankmggmgoaaGreat
section
open Go.RowKit Go.Mv Mvp
attribute [local irreducible] a0C lw mix cw b0k b0y b0j a0M a0n beN b0F a0P b0C a0J a0R elN mdL b0e a0V a0S
theorem BParts.four {w : World} {v1 v2 v3 v4 : Value} {l1 l2 l3 l4 : List UInt8} (h1 : BPart w v1 l1) (h2 : BPart w v2 l2) (h3 : BPart w v3 l3) (h4 : BPart w v4 l4) : BParts w [v1, v2, v3, v4] [l1, l2, l3, l4] := ⟨rfl, fun i x hx => by
 match i with
 | 0 => simp at hx; subst hx; exact h1
 | 1 => simp at hx; subst hx; exact h2
 | 2 => simp at hx; subst hx; exact h3
 | 3 => simp at hx; subst hx; exact h4
 | i + 4 => simp at hx⟩
end
section
open Go.RowKit Go.Mv Mvp
theorem A0T (x y : Nat) (hx : x < B64 ^ 4) (hy : y < B64 ^ 4) (w : World) : (Op.equal 60 (.agg (cw 4 x).toArray) (.agg (cw 4 y).toArray)).run Tryz.prog w = .ok (x == y) w := by
 have h := l0j (P := Tryz.prog) Tryz.underlying60 Tryz.underlying58 c0L x y w
 rw [Nat.mod_eq_of_lt hx, Nat.mod_eq_of_lt hy] at h
 rw [h]
 congr 1
attribute [local irreducible] a0C lw mix cw b0k b0y b0j a0M a0n beN b0F a0P b0C a0J a0R elN mdL b0e a0V a0S
theorem D0c (m : Md) (hk : KindOf 1 m) (w : World) :
  Calls Tryz.prog 53 #[] w fun e w' => e = .returned (fv m.M) ∧ Fr Nob w w' := by
 have HK := qH hk
 have HOK := qH hk.ok
 clear hk
 have st0 := St.start Nob w
 go_enter Tryz.func53, Tryz.ntmps53
 go_wp2_with (with_reducible refine wSk 0 ?_)
 refine a0a st0 rfl rfl (z := .agg #[.int .u64 0, .int .u64 0, .int .u64 0, .int .u64 0, .int .u64 0, .int .u64 0, .int .u64 0, .int .u64 0]) ap14 (cw 8 0) ap12 ?_
 intro g0 w1 st1
 clear st0
 go_wp2_with fail
 refine (C0r HK.out _).mono ?_
 rintro e' w2 ⟨rfl, hf2⟩
 have st2 := st1.keep hf2
 clear st1 hf2
 go_wp2_with (with_reducible refine wSn ?_)
 refine a0b st2 0 rfl rfl rfl rfl rfl ap5 ap4 (l0c _ _ _ _) ?_
 intro w3 st3
 clear st2
 have hr := st3.at 0 rfl
 have hfr := st3.fr
 clear st3
 go_wp2_with fail
 exact bodyPost_ret (a0r rfl rfl hr Tryz.underlying78 rfl ap4) rfl ⟨rfl, hfr⟩
theorem x0x (m : Md) (hk : KindOf 1 m) (s : ByteArray) (w : World) (ha : a0S m s.data.toList = true) :
  Calls Tryz.prog 72 #[.string s] w fun e w' => e = .returned (.tuple #[i4 (beN s.data.toList), .bool true]) ∧ Fr Nob w w' := by
 have HK := qH hk
 have HOK := qH hk.ok
 clear hk
 have HA := qH ha
 clear ha
 have st0 := St.start Nob w
 go_enter Tryz.func72, Tryz.ntmps72
 go_wp2_with (with_reducible refine wSk 2 ?_)
 refine a0a st0 rfl rfl (z := zAd) ap14 (cw 4 0) ap12 ?_
 intro g2 w1 st1
 clear st0
 go_wp2_with fail
 refine (D0c m HK.out _).mono ?_
 rintro e' w2 ⟨rfl, hf2⟩
 have st2 := st1.keep hf2
 clear st1 hf2
 go_wp2_with fail
 refine (q0t m HOK.out.lt s _ HA.out).mono ?_
 rintro e' w3 ⟨rfl, hf3⟩
 have st3 := st2.keep hf3
 clear st2 hf3
 go_wp2_with (with_reducible refine wSn ?_)
 refine a0b st3 0 rfl rfl rfl rfl rfl ap5 ap4 (a0f _ _) ?_
 intro w4 st4
 clear st3
 have hr := st4.at 0 rfl
 have hfr := st4.fr
 clear st4
 go_wp2_with fail
 exact bodyPost_ret (b0c rfl rfl hr Tryz.underlying60 ap4 rfl) rfl ⟨rfl, hfr⟩
theorem x0y (m : Md) (hk : KindOf 1 m) (s : ByteArray) (w : World) (ha : a0S m s.data.toList = false) :
  Calls Tryz.prog 72 #[.string s] w fun e w' => ∃ N, e = .returned (.tuple #[i4 N, .bool false]) ∧ Fr Nob w w' := by
 have HK := qH hk
 have HOK := qH hk.ok
 clear hk
 have HA := qH ha
 clear ha
 have st0 := St.start Nob w
 go_enter Tryz.func72, Tryz.ntmps72
 go_wp2_with (with_reducible refine wSk 2 ?_)
 refine a0a st0 rfl rfl (z := zAd) ap14 (cw 4 0) ap12 ?_
 intro g2 w1 st1
 clear st0
 go_wp2_with fail
 refine (D0c m HK.out _).mono ?_
 rintro e' w2 ⟨rfl, hf2⟩
 have st2 := st1.keep hf2
 clear st1 hf2
 go_wp2_with fail
 refine (q0u m HOK.out.lt s _ HA.out).mono ?_
 rintro e' w3 ⟨NA, rfl, hf3⟩
 have st3 := st2.keep hf3
 clear st2 hf3
 go_wp2_with (with_reducible refine wSn ?_)
 refine a0b st3 0 rfl rfl rfl rfl rfl ap5 ap4 (a0f _ _) ?_
 intro w4 st4
 clear st3
 have hr := st4.at 0 rfl
 have hfr := st4.fr
 clear st4
 go_wp2_with fail
 exact bodyPost_ret (b0c rfl rfl hr Tryz.underlying60 ap4 rfl) rfl ⟨_, rfl, hfr⟩
theorem E0i (p a b r : Nat) (w : World) (hp0 : 0 < p) (hp : p < B64 ^ 4) (ha : a < B64 ^ 4) (hb : b < B64 ^ 4) (hbp : b ≤ p) (hr : (a + (p - b)) % p = r) :
  Calls Tryz.prog 137 #[fv p, i4 a, i4 b] w fun e w' => e = .returned (i4 r) ∧ Fr Nob w w' := by
 refine (A0a p a b w hp0 hp ha hb hbp).mono fun e w' h => ?_
 rw [Nat.add_mod_mod, hr] at h
 exact h
theorem E0j (p a r : Nat) (w : World) (hp1 : 1 < p) (hp : p < B64 ^ 4) (ha : a < B64 ^ 4) (hr : a ^ (p - 2) % p = r) :
  Calls Tryz.prog 113 #[fv p, i4 a] w fun e w' => e = .returned (i4 r) ∧ Fr Nob w w' := by
 subst hr; exact A0d p a w hp1 hp ha
end
section
open Go.RowKit Go.Mv Mvp Mvt
theorem PartIs.bpart {w : World} {v : Value} {l : List UInt8} (h : PartIs w v l) : BPart w v l := by
 obtain ⟨a, n, c, rfl, hc, -, hr, -⟩ := h; exact ⟨a, n, c, rfl, hc, hr⟩
theorem o0R (v : Value) (l : List UInt8) (m : Nat) (w : World) (hm : m ≤ 16384) (hp : PartIs w v l) :
  Calls Tryz.prog 114 #[v, .int .i64 (m : Int)] w fun r w' => ∃ v, r = .returned (.tuple #[v, .int .i64 0]) ∧ Own w' w.heap.size 5 1 v m (bs (a0L l 31 m)) ∧ Fr Nob w w' := by
 obtain ⟨a, n, c, rfl, hc, hn, hr, ho⟩ := hp
 exact u0w a n c l m w hn hc hm hr ho
theorem k0p (m : Md) (hk : KindOf 1 m) (v : Value) (l : List UInt8) (w : World) (hp : PartIs w v l) :
  Calls Tryz.prog 116 #[v] w fun e w' => e = .returned (i4 (elN m (beN l))) ∧ Fr Nob w w' := by
 obtain ⟨a, n, c, rfl, hc, hn, hr, ho⟩ := hp
 exact t0x m hk a n c l w hr hc hn
attribute [local irreducible] a0C lw mix cw b0k b0y b0j a0M a0n beN b0F a0P b0C a0J a0R elN mdL b0e a0V a0S b0g b0x toB a0u a0B b0h b0R a0L c0g b0b a0y c0s
end
section
open Go.RowKit Go.Mv Mvp Mvq
attribute [local irreducible] a0C lw mix cw b0k b0y b0j a0M a0n beN b0F a0P b0C a0J a0R elN mdL a0S b0g b0x toB a0u a0B b0h b0R a0L c0g b0b a0y c0s
theorem D0d : (Tryz.prog.info? 68).map (·.zero) = some (some (.agg #[.int .u64 0, .int .u64 0, .int .u64 0, .int .u64 0])) := by kernel_rfl
theorem h0k (x : Nat) : (Tryz.prog.info? 68).map (·.size) = some (cw 4 x).length := by rw [a0i]; kernel_rfl
theorem u0y (x y : Nat) : (cw 4 x).length = (cw 4 y).length := by rw [a0i, a0i]
theorem j0i {w : World} {base : Nat} {v : Value} {n : Nat} {l : List UInt8} (h : Own w base 5 1 v n (bs l)) (hn : n ≤ 1000000) : ∃ a c, v = .slice a n c ∧ PartIs w (.slice a n c) l := by
 have h2 := c0d h hn
 obtain ⟨a, c, rfl, -⟩ := g0i h
 exact ⟨a, c, rfl, h2⟩
theorem Parts.stillT {w w' : World} : ∀ {vs : List Value} {ls : List (List UInt8)}, Parts w vs ls → Fr Nob w w' → Parts w' vs ls
 | [], [], _, _ => trivial
 | _ :: _, _ :: _, h, hf => ⟨h.1.still hf, Parts.stillT h.2 hf⟩
 | [], _ :: _, h, _ => h.elim
 | _ :: _, [], h, _ => h.elim
theorem e0v (s : ByteArray) (a : Option Addr) (n c : Nat) : Tryz.prog.built 132 [(0, .string s), (1, .slice a n c)] = some ([Value.string s, .slice a n c]).toArray := by kernel_rfl
theorem r0L : (Tryz.prog.info? 132).map (fun i => (i.zero, i.size, i.bytes)) = some (some (.agg #[.string ByteArray.empty, .slice none 0 0]), 2, 40) := by kernel_rfl
theorem u0z (base g : Nat) (st : List UInt8) (s : ByteArray) (w : World) (hs : s.size ≤ 1000000) (hl : LogAt w base g st) (hbase : base ≤ w.heap.size) :
  Calls Tryz.prog 91 #[tkV g, .string s] w fun e w' => e = .returned (i4 (elN mQ (o0Q st s.data.toList))) ∧ LogAt w' base g (c0s m0A [st, s.data.toList]) ∧ Fr (One g) w w' := by
 have HS := qH hs
 have HL := qH hl
 have HBS := qH hbase
 clear hs hl hbase
 have st0 := St.start (One g) w
 go_enter Tryz.func91, Tryz.ntmps91
 go_wp2_with (with_reducible refine wSk 2 ?_)
 refine l0d st0 rfl rfl rfl [.pointer (some ⟨g, 0, none⟩)] rfl ?_
 intro g2 w1 st1 hf1
 have HL1 := qH (HL.out.still hf1)
 clear st0 hf1 HL
 go_wp2_with (with_reducible refine wSk 4 ?_)
 refine d0y st1 rfl rfl D0d (cw 4 0) ap12 ?_
 intro g4 w2 st2 hf2 hs2
 have HL2 := qH (HL1.out.still hf2)
 clear st1 hf2 hs2 HL1
 have hc0 := (st2.at 0 rfl).cell (i := 0) rfl
 have ST2 := qH st2
 clear st2
 go_wp2_with fail
 refine (z0Q base g st s 64 _ HS.out ap15 HL2.out (Nat.le_trans HBS.out ST2.out.fr.size)).mono ?_
 rintro e' w3 ⟨v, rfl, ho, hl3, hf3⟩
 have st3 := ST2.out.keep1 hf3 (.inr rfl) (HL2.out.notIn ST2.out.has (by intro x hx; simp only [List.mem_cons, List.not_mem_nil, or_false, List.cons_append, List.nil_append] at hx; rcases hx with rfl | rfl <;> (dsimp only; decide)))
 have HL3 := qH hl3
 obtain ⟨a, c, rfl, hp⟩ := j0i ho ap15
 have HP := qH hp
 clear hl3 hf3 ho hp HL2 ST2 hc0
 go_wp2_with fail
 refine (k0p mQ .one _ _ _ HP.out).mono ?_
 rintro e' w4 ⟨rfl, hf4⟩
 have st4 := st3.keep hf4
 have HL4 := qH (HL3.out.still hf4)
 clear st3 hf4 HL3 HP
 go_wp2_with (with_reducible refine wSn ?_)
 refine e0q st4 1 rfl rfl rfl rfl rfl (u0y _ _) (h0k _) (a0f _ _) ?_
 intro w5 st5 hf5
 have HL5 := qH (HL4.out.off hf5 (st4.at 1 rfl) ap15 ap15)
 clear st4 hf5 HL4
 have hr := st5.at 1 rfl
 have hfr := st5.fr
 clear st5
 go_wp2_with fail
 exact bodyPost_ret (a0r rfl rfl hr Tryz.underlying68 rfl (h0k _)) rfl ⟨by unfold o0Q; rw [m0Q]; rfl, HL5.out, hfr⟩
theorem A0U (base g : Nat) (st : List UInt8) (w : World) (hl : LogAt w base g st) (hbase : base ≤ w.heap.size) :
  Calls Tryz.prog 118 #[tkV g] w fun e w' => e = .returned (i4 (elN mQ (g0N st))) ∧ LogAt w' base g (c0s m0A [st, i0I]) ∧ Fr (One g) w w' := by
 have HL := qH hl
 have HBS := qH hbase
 clear hl hbase
 have st0 := St.start (One g) w
 go_enter Tryz.func118, Tryz.ntmps118
 go_wp2_with (with_reducible refine wSk 1 ?_)
 refine l0d st0 rfl rfl rfl [.pointer (some ⟨g, 0, none⟩)] rfl ?_
 intro g2 w1 st1 hf1
 have HL1 := qH (HL.out.still hf1)
 clear st0 hf1 HL
 go_wp2_with (with_reducible refine wSk 2 ?_)
 refine d0y st1 rfl rfl D0d (cw 4 0) ap12 ?_
 intro g4 w2 st2 hf2 hs2
 have HL2 := qH (HL1.out.still hf2)
 clear st1 hf2 hs2 HL1
 go_wp2_with (with_reducible refine wSk 3 ?_)
 refine a0p st2 0 rfl rfl rfl Tryz.underlying128 rfl rfl ap14 ?_
 have ST2 := qH st2
 clear st2
 go_wp2_with fail
 refine (u0z base g st ⟨#[99, 104, 97, 108, 108, 101, 110, 103, 101]⟩ _ ap15 HL2.out (Nat.le_trans HBS.out ST2.out.fr.size)).mono ?_
 rintro e' w3 ⟨rfl, hl3, hf3⟩
 have st3 := ST2.out.keep1 hf3 (.inr rfl) (HL2.out.notIn ST2.out.has (by intro x hx; simp only [List.mem_cons, List.not_mem_nil, or_false, List.cons_append, List.nil_append] at hx; rcases hx with rfl | rfl <;> (dsimp only; decide)))
 have HL3 := qH hl3
 clear hl3 hf3 HL2 ST2
 go_wp2_with (with_reducible refine wSn ?_)
 refine e0q st3 1 rfl rfl rfl rfl rfl (u0y _ _) (h0k _) (a0f _ _) ?_
 intro w5 st5 hf5
 have HL5 := qH (HL3.out.off hf5 (st3.at 1 rfl) ap15 ap15)
 clear st3 hf5 HL3
 have hr := st5.at 1 rfl
 have hfr := st5.fr
 clear st5
 go_wp2_with fail
 exact bodyPost_ret (a0r rfl rfl hr Tryz.underlying68 rfl (h0k _)) rfl ⟨rfl, HL5.out, hfr⟩
theorem x0z (s : ByteArray) (k : List UInt8) (hk : s.data.toList = k) (gl c : Nat) (vs : List Value) (ls : List (List UInt8)) (w : World) (hs : s.size ≤ 1000000) (hh : Has w gl vs 22) (hp : Parts w vs ls) (hn : ls.length ≤ 1000000) :
  Calls Tryz.prog 47 #[.string s, .slice (some ⟨gl, 0, none⟩) ls.length c] w fun e w' => e = .returned (i4 (elN mQ (chN k ls))) ∧ Fr Nob w w' := by
 subst hk
 have HS := qH hs
 have HH := qH hh
 have HP := qH hp
 have HN := qH hn
 clear hs hh hp hn
 have st0 := St.start Nob w
 go_enter Tryz.func47, Tryz.ntmps47
 go_wp2_with (with_reducible refine wSk 4 ?_)
 refine d0y st0 rfl rfl D0d (cw 4 0) ap12 ?_
 intro g4 w2 st2 hf2 hs2
 have HH2 := qH (HH.out.keep hf2 id)
 have HP2 := qH (HP.out.stillT hf2)
 clear st0 hf2 hs2 HH HP
 go_wp2_with fail
 refine (s0Q s (some ⟨gl, 0, none⟩) c ls _ HS.out HN.out (HP2.out.at HH2.out)).mono ?_
 rintro e' w3 ⟨v, rfl, ho, hf3⟩
 have st3 := st2.keep hf3
 obtain ⟨a, c3, rfl, hq⟩ := j0i ho ap15
 have HQ := qH hq
 clear st2 hf3 ho hq HH2 HP2
 go_wp2_with fail
 refine (o0R _ _ 64 _ ap15 HQ.out).mono ?_
 rintro e' w4 ⟨v, rfl, ho, hf4⟩
 have st4 := st3.keep hf4
 obtain ⟨a4, c4, rfl, hq⟩ := j0i ho ap15
 have HQ4 := qH hq
 clear st3 hf4 ho hq HQ
 go_wp2_with fail
 refine (k0p mQ .one _ _ _ HQ4.out).mono ?_
 rintro e' w5 ⟨rfl, hf5⟩
 have st5 := st4.keep hf5
 clear st4 hf5 HQ4
 go_wp2_with (with_reducible refine wSn ?_)
 refine a0b st5 0 rfl rfl rfl rfl rfl (u0y _ _) (h0k _) (a0f _ _) ?_
 intro w6 st6
 clear st5
 have hr := st6.at 0 rfl
 have hfr := st6.fr
 clear st6
 go_wp2_with fail
 exact bodyPost_ret (a0r rfl rfl hr Tryz.underlying68 rfl (h0k _)) rfl ⟨by unfold chN; rw [m0Q]; rfl, hfr⟩
theorem j0j (v0 : Value) (l0 : List UInt8) (v1 : Value) (l1 : List UInt8) (v2 : Value) (l2 : List UInt8) (v3 : Value) (l3 : List UInt8) (v4 : Value) (l4 : List UInt8) (w : World) (h0 : PartIs w v0 l0) (h1 : PartIs w v1 l1) (h2 : PartIs w v2 l2) (h3 : PartIs w v3 l3) (h4 : PartIs w v4 l4) :
  Calls Tryz.prog 79 #[v0, v1, v2, v3, v4] w fun e w' => e = .returned (i4 (elN mQ (d0a l0 l1 l2 l3 l4))) ∧ Fr Nob w w' := by
 obtain ⟨a0, n0, c0, rfl, k0⟩ := h0
 have H0 := qH (show PartIs w (.slice a0 n0 c0) l0 from ⟨a0, n0, c0, rfl, k0⟩)
 clear k0
 obtain ⟨a1, n1, c1, rfl, k1⟩ := h1
 have H1 := qH (show PartIs w (.slice a1 n1 c1) l1 from ⟨a1, n1, c1, rfl, k1⟩)
 clear k1
 obtain ⟨a2, n2, c2, rfl, k2⟩ := h2
 have H2 := qH (show PartIs w (.slice a2 n2 c2) l2 from ⟨a2, n2, c2, rfl, k2⟩)
 clear k2
 obtain ⟨a3, n3, c3, rfl, k3⟩ := h3
 have H3 := qH (show PartIs w (.slice a3 n3 c3) l3 from ⟨a3, n3, c3, rfl, k3⟩)
 clear k3
 obtain ⟨a4, n4, c4, rfl, k4⟩ := h4
 have H4 := qH (show PartIs w (.slice a4 n4 c4) l4 from ⟨a4, n4, c4, rfl, k4⟩)
 clear k4
 have st0 := St.start Nob w
 go_enter Tryz.func79, Tryz.ntmps79
 go_wp2_with (with_reducible refine wSk 10 ?_)
 refine d0y st0 rfl rfl D0d (cw 4 0) ap12 ?_
 intro g4 w2 st2 hf2 hs2
 have HSZ := qH st2.fr.size
 clear st0 hf2 hs2
 go_wp2_with fail
 refine (t0n ⟨#[115, 97, 109, 101]⟩ _ ap15).mono ?_
 rintro e' w3 ⟨g, rfl, hle, hl, hf3⟩
 have st3 := st2.keep hf3
 have HL := qH hl
 have HG := qH (Nat.le_trans HSZ.out hle)
 have HBS := qH hf3.size
 clear st2 hf3 hl hle HSZ
 go_wp2_with (with_reducible refine wSk 13 ?_)
 refine a0Y rfl rfl _ (e0v _ _ _ _) ?_
 go_wp2_with (with_reducible refine wSk 15 ?_)
 refine a0Y rfl rfl _ (e0v _ _ _ _) ?_
 go_wp2_with (with_reducible refine wSk 17 ?_)
 refine a0Y rfl rfl _ (e0v _ _ _ _) ?_
 go_wp2_with (with_reducible refine wSk 19 ?_)
 refine a0Y rfl rfl _ (e0v _ _ _ _) ?_
 go_wp2_with (with_reducible refine wSk 21 ?_)
 refine a0Y rfl rfl _ (e0v _ _ _ _) ?_
 go_wp2_with (with_reducible refine wSk 22 ?_)
 refine f0u rfl rfl Tryz.underlying193 r0L [.agg #[.string ⟨#[98, 97, 115, 101]⟩, .slice a0 n0 c0], .agg #[.string ⟨#[97]⟩, .slice a1 n1 c1], .agg #[.string ⟨#[98]⟩, .slice a2 n2 c2], .agg #[.string ⟨#[102, 105, 114, 115, 116]⟩, .slice a3 n3 c3], .agg #[.string ⟨#[115, 101, 99, 111, 110, 100]⟩, .slice a4 n4 c4]] rfl (by simp [Value.cells]) rfl (sdC [(⟨#[98, 97, 115, 101]⟩, .slice a0 n0 c0), (⟨#[97]⟩, .slice a1 n1 c1), (⟨#[98]⟩, .slice a2 n2 c2), (⟨#[102, 105, 114, 115, 116]⟩, .slice a3 n3 c3), (⟨#[115, 101, 99, 111, 110, 100]⟩, .slice a4 n4 c4)]) (by unfold sdC; simp [Value.cells]) ?_
 intro w5 hh5 hf5 hz5
 have st5 := st3.keep hf5
 have HL5 := qH (HL.out.still hf5)
 have HH5 := qH hh5
 have HBS5 := qH (Nat.le_trans HBS.out hf5.size)
 clear st3 hf5 hz5 HL HBS hh5
 generalize w3.heap.size = gl at *
 have ST5 := qH st5
 clear st5
 go_wp2_with fail
 refine (w0z w _ g _ gl 5 [(⟨#[98, 97, 115, 101]⟩, .slice a0 n0 c0), (⟨#[97]⟩, .slice a1 n1 c1), (⟨#[98]⟩, .slice a2 n2 c2), (⟨#[102, 105, 114, 115, 116]⟩, .slice a3 n3 c3), (⟨#[115, 101, 99, 111, 110, 100]⟩, .slice a4 n4 c4)] [l0, l1, l2, l3, l4] _ HG.out ST5.out.fr HBS5.out HL5.out HH5.out ap17 (by intro x hx; simp only [List.mem_cons, List.not_mem_nil, or_false] at hx; rcases hx with rfl | rfl | rfl | rfl | rfl <;> simp <;> decide) ⟨H0.out, H1.out, H2.out, H3.out, H4.out, trivial⟩).mono ?_
 rintro e' w6 ⟨rfl, hl6, hf6⟩
 have st6 := ST5.out.keep1 hf6 (.inl HG.out) (HL5.out.notIn ST5.out.has (by intro x hx; simp only [List.mem_cons, List.not_mem_nil, or_false, List.nil_append] at hx; subst hx; dsimp only; decide))
 have HL6 := qH hl6
 have HBS6 := qH (Nat.le_trans HBS5.out hf6.size)
 clear ST5 hl6 hf6 HL5 HH5 HBS5 H0 H1 H2 H3 H4
 have ST6 := qH st6
 clear st6
 go_wp2_with fail
 refine (A0U _ g _ _ HL6.out HBS6.out).mono ?_
 rintro e' w7 ⟨rfl, hl7, hf7⟩
 have st7 := ST6.out.keep1 hf7 (.inl HG.out) (HL6.out.notIn ST6.out.has (by intro x hx; simp only [List.mem_cons, List.not_mem_nil, or_false, List.nil_append] at hx; subst hx; dsimp only; decide))
 clear ST6 hl7 hf7 HL6 HBS6 HG
 go_wp2_with (with_reducible refine wSn ?_)
 refine a0b st7 0 rfl rfl rfl rfl rfl (u0y _ _) (h0k _) (a0f _ _) ?_
 intro w8 st8
 clear st7
 have hr := st8.at 0 rfl
 have hfr := st8.fr
 clear st8
 go_wp2_with fail
 exact bodyPost_ret (a0r rfl rfl hr Tryz.underlying68 rfl (h0k _)) rfl ⟨rfl, hfr⟩
end
end Go.Proofs.YtemcankmggmgoaaGreat
namespace Go.Mv
open Go.RowKit
theorem r0M (A F B cs : List Value) (n off : Nat) (hA : A.length = n) (h : off + cs.length ≤ F.length) : splice (A ++ (F ++ B)) (n + off) cs = A ++ (splice F off cs ++ B) := by
 subst hA
 unfold splice
 have h1 : List.take (A.length + off) (A ++ (F ++ B)) = A ++ List.take off F := by
  rw [List.take_length_add_append, List.take_append_of_le_length ap16]
 have h2 : List.drop (A.length + off + cs.length) (A ++ (F ++ B)) = List.drop (off + cs.length) F ++ B := by
  rw [Nat.add_assoc, List.drop_length_add_append, List.drop_append_of_le_length h]
 rw [h1, h2]
 simp [List.append_assoc]
theorem q0v (f f' : Nat → List Value) (k : Nat) (hl : ∀ i, (f i).length = k) (n i off : Nat) (cs : List Value) (h : i < n) (ho : off + cs.length ≤ k) (hi : f' i = splice (f i) off cs) (hv : ∀ j, j ≠ i → f' j = f j) : splice ((List.range n).flatMap f) (i * k + off) cs = (List.range n).flatMap f' := by
 have hlen : (splice (f i) off cs).length = k := by
  unfold splice
  simp only [List.length_append, List.length_take, List.length_drop, hl]
  omega
 have e := q0k f f' k hl n i h (by rw [hi]; exact hlen) hv
 rw [← e, hi, f0y f n i h, r0M _ _ _ cs (i * k) off (by rw [d0w f k hl, Nat.mul_comm]) (by rw [hl]; exact ho), k0k _ _ _ _ (i * k) (by rw [d0w f k hl, Nat.mul_comm]) (by rw [hlen, hl])]
end Go.Mv
namespace Go.Proofs.YtemcankmggmgoaaGreat
section
open Go.RowKit Go.Mv Mvp Mvq
noncomputable def tmF (n : Nat) (a : Nat → Nat) (T : Nat → List Value) : List Value := (List.range n).flatMap fun i => cw 4 (a i) ++ T i
def upN {α : Type} (a : Nat → α) (k : Nat) (x : α) : Nat → α := fun i => if i = k then x else a i
theorem u0A (a : Nat → Nat) (T : Nat → List Value) (hT : ∀ i, (T i).length = 192) (i : Nat) : (cw 4 (a i) ++ T i).length = 196 := by rw [List.length_append, a0i, hT]
theorem u0B (n : Nat) (a : Nat → Nat) (T : Nat → List Value) (hT : ∀ i, (T i).length = 192) : (tmF n a T).length = n * 196 := by
 rw [Nat.mul_comm]; exact d0w _ 196 (u0A a T hT) n
theorem x0A (n : Nat) (a : Nat → Nat) (T : Nat → List Value) (hT : ∀ i, (T i).length = 192) (k x : Nat) (h : k < n) : splice (tmF n a T) (k * 196) (cw 4 x) = tmF n (upN a k x) T := by
 have := q0v (fun i => cw 4 (a i) ++ T i) (fun i => cw 4 (upN a k x i) ++ T i) 196 (u0A a T hT) n k 0 (cw 4 x) h (by rw [a0i]; omega)
  (by
   show cw 4 (upN a k x k) ++ T k = _
   unfold upN splice
   rw [if_pos rfl, Nat.zero_add, a0i, List.drop_append_of_le_length (by rw [a0i]; omega), List.drop_of_length_le (by rw [a0i]; omega)]
   rfl)
  (fun j hj => by show cw 4 (upN a k x j) ++ T j = _; unfold upN; rw [if_neg hj])
 rw [Nat.add_zero] at this
 exact this
theorem x0B (n : Nat) (a : Nat → Nat) (T : Nat → List Value) (hT : ∀ i, (T i).length = 192) (k : Nat) (t : List Value) (ht : t.length = 192) (h : k < n) : splice (tmF n a T) (k * 196 + 4) t = tmF n a (upN T k t) :=
 q0v (fun i => cw 4 (a i) ++ T i) (fun i => cw 4 (a i) ++ upN T k t i) 196 (u0A a T hT) n k 4 t h (by rw [ht]; omega)
  (by
   show cw 4 (a k) ++ upN T k t k = _
   unfold upN splice
   rw [if_pos rfl, List.take_append_of_le_length (by rw [a0i]; omega), List.take_of_length_le (by rw [a0i]; omega), List.drop_of_length_le (by rw [List.length_append, a0i, hT, ht]; omega), List.append_nil])
  (fun j hj => by show cw 4 (a j) ++ upN T k t j = _; unfold upN; rw [if_neg hj])
theorem f0o (n : Nat) (a a' : Nat → Nat) (T T' : Nat → List Value) (h : ∀ i, i < n → a i = a' i ∧ T i = T' i) : tmF n a T = tmF n a' T' := by
 unfold tmF
 rw [List.flatMap_def, List.flatMap_def]
 congr 1
 exact List.map_congr_left fun i hi => by obtain ⟨h1, h2⟩ := h i (List.mem_range.1 hi); rw [h1, h2]
theorem x0C (n : Nat) : List.replicate (n * 196) (Value.int .u64 0) = tmF n (fun _ => 0) (fun _ => cw 192 0) := by
 unfold tmF
 induction n with
 | zero => rfl
 | succ n ih =>
  rw [List.range_succ, List.flatMap_append, ← ih, Nat.succ_mul, ← List.replicate_append_replicate]
  congr 1
  simp only [List.flatMap_cons, List.flatMap_nil, List.append_nil, g0Y]
  rw [List.replicate_append_replicate]
theorem A0V (l : List (Nat × PT)) : tmF l.length (fun i => (g0U l i).1) (fun i => tbL (g0U l i).2 16) = tmL l := rfl
end
section
open Go.RowKit Go.Mv Mvp Mvq
noncomputable def tkT (ls : List (List UInt8)) (k : Nat) : Nat → List Value := fun i => if i < k then tbL (rdT (ls.getD i [])) 16 else cw 192 0
theorem u0C (ls : List (List UInt8)) (k i : Nat) : (tkT ls k i).length = 192 := by
 unfold tkT
 split
 ·exact b0Y _ _
 ·exact a0i _ _
noncomputable def n0P (a : Nat → Nat) (ls : List (List UInt8)) : List (Nat × PT) := (List.range ls.length).map fun i => (a i, rdT (ls.getD i []))
theorem q0w (a : Nat → Nat) (ls : List (List UInt8)) : (n0P a ls).length = ls.length := by simp [n0P]
theorem A0W (a : Nat → Nat) (ls : List (List UInt8)) (i : Nat) (h : i < ls.length) : g0U (n0P a ls) i = (a i, rdT (ls.getD i [])) := by
 unfold g0U n0P
 rw [List.getD_eq_getElem?_getD, List.getElem?_map, List.getElem?_range h]
 rfl
theorem x0D (a : Nat → Nat) (ls : List (List UInt8)) : tmF ls.length a (tkT ls ls.length) = tmL (n0P a ls) := by
 rw [← A0V, q0w]
 refine f0o _ _ _ _ _ fun i hi => ?_
 rw [A0W a ls i hi]
 refine ⟨rfl, ?_⟩
 unfold tkT
 rw [if_pos hi]
theorem x0E (n : Nat) (a : Nat → Nat) (ls : List (List UInt8)) : tmF n a (fun _ => cw 192 0) = tmF n a (tkT ls 0) := f0o _ _ _ _ _ fun i _ => ⟨rfl, by unfold tkT; rw [if_neg (Nat.not_lt_zero _)]⟩
theorem A0X (n : Nat) (a : Nat → Nat) (ls : List (List UInt8)) (k : Nat) (h : k < n) (l : List UInt8) (hl : ls.getD k [] = l) : splice (tmF n a (tkT ls k)) (k * 196 + 4) (tbL (rdT l) 16) = tmF n a (tkT ls (k + 1)) := by
 subst hl
 rw [x0B n a _ (u0C ls k) k _ (b0Y _ _) h]
 refine f0o _ _ _ _ _ fun i _ => ⟨rfl, ?_⟩
 unfold upN tkT
 by_cases e : i = k
 ·rw [if_pos e, if_pos ap16, e]
 ·rw [if_neg e]
  by_cases e2 : i < k
  ·rw [if_pos e2, if_pos ap16]
  ·rw [if_neg e2, if_neg ap16]
theorem D0e {w : World} {gT : Nat} {a : Nat → Nat} {ls : List (List UInt8)} {T : TypeId} (h : Has w gT (tmF ls.length a (tkT ls ls.length)) T) : Rd w (some ⟨gT, 0, none⟩) ((n0P a ls).length * 196) (tmL (n0P a ls)) := by
 rw [x0D] at h
 have := Rd.whole h
 rwa [A0C] at this
theorem z0b (w : World) : Calls Tryz.prog 86 #[] w fun e w' => ∃ gc, e = .returned (.pointer (some ⟨gc, 0, none⟩)) ∧ Cv w' gc ∧ Fr Nob w w' :=
 (d0q w).mono fun _ _ ⟨gc, k1, _, k2, k3⟩ => ⟨gc, k1, k2, k3⟩
attribute [local irreducible] a0C lw mix cw b0k b0y b0j a0M a0n beN b0F a0P b0C a0J a0R elN mdL a0S rtN rtV b0G gXn gYn PT.L l0V l0r f0D tbL tmR tmL dbN h0T h0B j0e dig rdT b0J b0q ptL e0W c0P a0H tmF upN
theorem D0f (n : Nat) (a : Nat → Nat) (ls : List (List UInt8)) (hls : ls.length = n) (hn : n ≤ 100000) (gb gT : Nat) (w : World) (hne : gb ≠ gT) (hgb : Has w gb [.slice (some ⟨gT, 0, none⟩) n n] 199) (hgt : Has w gT (tmF n a fun _ => cw 192 0) 147)
  (ap : Option Addr) (cp : Nat) (hoff : Off (One gT) ap) (hre : Rd w ap (ls.length * 12) (e0W ls)) :
  Calls Tryz.prog 181 #[.slice ap n cp, .pointer (some ⟨gb, 0, none⟩)] w fun e w' => e = .returned (.agg (j0e (n0P a ls)).L.toArray) ∧ Fr (One gT) w w' := by
 rw [x0E n a ls] at hgt
 have HLS := qH hls
 have HN := qH hn
 have hnI : (n : Int) ≤ 100000 := by omega
 have HNE := qH (show ¬ One gT gb from hne)
 have HGB := qH hgb
 have HGT := qH hgt
 have HOFF := qH hoff
 have HRE := qH hre
 clear hls hne hgb hgt hoff hre hn
 have st0 := St.one HGT.out
 go_enter Tryz.func181, Tryz.ntmps181
 go_wp2_with (with_reducible refine wSk 3 ?_)
 refine a0a st0 rfl rfl (z := .agg (List.replicate 12 (.int .u64 0)).toArray) ap14 (cw 12 0) ap12 ?_
 intro g3 w1 st1
 clear st0
 go_wp2
 go_loopw [8] (fun x wr => ∃ k : Nat, k ≤ n ∧ x = .int .i64 (k : Int) ∧ St (One gT) w wr [(gT, tmF n a (tkT ls k), 147), (g3, cw 12 0, 117)]) (fun x _ => n - (intOf x).toNat)
 case atStart => exact ⟨0, Nat.zero_le _, rfl, st1⟩
 case round =>
  obtain ⟨k, hk, rfl, st⟩ := hrel
  clear st1
  by_cases hlt : k < n
  ·have hltI : (k : Int) < (n : Int) := by omega
   obtain ⟨ba, oa, hea, -⟩ := HRE.out.at (by have := HLS.out; omega)
   subst hea
   have hk0 : (0 : Int) ≤ (k : Int) := by omega
   have hpa := u0n ls k (by rw [HLS.out]; exact hlt)
   generalize hl : ls.getD k [] = l at *
   have HLL := qH hl
   have HPA := qH hpa
   clear hl hpa
   have HLT := qH hlt
   have HLK := qH (show k < ls.length by rw [HLS.out]; exact hlt)
   clear hlt
   go_wp2_with (with_reducible refine wSk 12 ?_)
   refine g0j rfl rfl Tryz.underlying117 rfl rfl (A0h (HRE.out.keep st.fr HOFF.out) (k * 12) ((rdT l).L) HPA.out) ap6 ?_
   go_wp2_with (with_reducible refine wSk 5 ?_)
   refine a0a st rfl rfl (z := .agg (List.replicate 12 (.int .u64 0)).toArray) ap14 (cw 12 0) ap12 ?_
   intro g5 w2 st2
   clear st
   go_wp2_with (with_reducible refine wSn ?_)
   refine a0b st2 2 rfl rfl rfl rfl rfl (by first | (simp only [a0i]; done) | (simp only [a0i, PT.len]; done)) ap6 (PT.one _) ?_
   intro w3 st3
   clear st2
   go_wp2_with fail
   refine wp_region_noPanic ?_
   refine a0e st3 7 [.t 0, .w 1, .t 3, .c 2, .c 4, .w 5, .w 6] (.m 7 .nil) ap14 ap14 (fun _ _ _ _ _ h => h) ?_
   clear st3
   refine b0m (v := ?_) rfl rfl (fun xq wx hS => ?_) ?_
   rotate_left 1
   ·(have hc := (HGB.out.keep (St.fr hS) HNE.out).cell (show [Value.slice (some ⟨gT, 0, none⟩) n n][0]? = _ from rfl); clear hS; go_simp; with_reducible rfl)
   try simp only [clL]
   refine a0m rfl rfl apX ?_
   try simp only [clL]
   refine a0d rfl rfl rfl (fun _ => rfl) ((rdT l).L) (fun wx hS => St.rangeL hS 2 rfl 0 _ dZl) Tryz.underlying117 rfl ap6 ?_
   try simp only [clL]
   refine b0v (X := Nat) (fun gc => .pointer (some ⟨gc, 0, none⟩)) (fun gc w => Cv w gc) (fun _ _ _ h k => h.keep k) rfl rfl rfl Tryz.call86 (fun w hS hR => z0b _) (fun _ => rfl) fun gc => ?_
   try simp only [clL]
   refine a0c rfl rfl rfl Tryz.call99 (fun w hS hR => j0d (rdT l) gc _ hR.2) (fun _ => rfl) ?_
   try simp only [clL]
   refine a0m rfl rfl apX ?_
   try simp only [clL]
   refine a0m rfl rfl apX ?_
   try simp only [clL]
   refine a0t fun xq w4 st4 hR => ?_
   try dsimp only
   clear hR xq
   refine a0q rfl rfl ?_
   refine j0c st4 0 rfl rfl rfl rfl (tmF n a (tkT ls (k + 1))) (A0X n a ls k HLT.out l HLL.out) (by rw [u0B n a _ (u0C ls k), b0Y]; have := HLT.out; omega) (by first | (rw [a0i]; kernel_rfl) | (simp only [b0Y]; kernel_rfl)) (t0Y _ _) ?_
   intro w5 st5
   have st5 : St (One gT) w w5 [(gT, tmF n a (tkT ls (k + 1)), 147), (g3, cw 12 0, 117), (g5, (rdT l).L, 117)] := st5
   clear st4
   try simp only [Act.put]
   refine a0g ?_
   refine NoPanic.normal ?_
   go_wp2_with fail
   go_roundw
   case rel => exact ⟨k + 1, by have := HLT.out; omega, by go_num, St.less st5 ap17⟩
   case measure => have := HLT.out; simp [intOf]; omega
  ·have hltI : ¬ ((k : Int) < (n : Int)) := by omega
   have hkn : k = ls.length := by rw [HLS.out]; omega
   have hnl : n = ls.length := HLS.out.symm
   subst hkn
   have HNL := qH hnl
   clear hnl
   have hHT := st.at 0 rfl
   clear hHT
   go_wp2_with fail
   refine wp_region_noPanic ?_
   refine a0e st 3 [.t 1, .c 0, .c 2] (.m 3 .nil) ap14 ap14 (fun _ _ _ _ _ h => h) ?_
   clear st
   refine b0m (v := ?_) rfl rfl (fun xq wx hS => ?_) ?_
   rotate_left 1
   ·(have hc := (HGB.out.keep (St.fr hS) HNE.out).cell (show [Value.slice (some ⟨gT, 0, none⟩) n n][0]? = _ from rfl); clear hS; go_simp; with_reducible rfl)
   try simp only [clL]
   refine b0v (X := Nat) (fun gc => .pointer (some ⟨gc, 0, none⟩)) (fun gc w => Cv w gc) (fun _ _ _ h k => h.keep k) rfl rfl rfl Tryz.call86 (fun w hS hR => z0b _) (fun _ => rfl) fun gc => ?_
   try simp only [clL]
   refine a0c rfl rfl rfl Tryz.call98 (fun w hS hR => C0S (n0P a ls) gc (some ⟨gT, 0, none⟩) n n _ hR.2 (by rw [q0w]; exact HLS.out) HN.out (D0e (by have h := St.at hS 0 rfl; rw [HNL.out] at h; exact h))) (fun _ => rfl) ?_
   try simp only [clL]
   refine a0t fun xq w2 st2 hR => ?_
   try dsimp only
   clear hR xq
   refine a0q rfl rfl ?_
   refine a0h st2 1 rfl rfl rfl rfl (by first | (simp only [a0i]; done) | (simp only [a0i, PT.len]; done)) ap6 (PT.one _) ?_
   intro w3 st3
   try simp only [List.set_cons_zero, List.set_cons_succ] at st3
   clear st2
   try simp only [Act.put]
   refine a0g ?_
   refine NoPanic.normal ?_
   have hr := st3.at 1 rfl
   have hfr := st3.fr
   clear st3
   go_wp2_with fail
   exact bodyPost_ret (a0r rfl rfl hr Tryz.underlying117 rfl ap6) rfl ⟨rfl, hfr⟩
end
end Go.Proofs.YtemcankmggmgoaaGreat
