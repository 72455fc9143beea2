/- ; ; ; ; ; ; ; ; ; ; ; ; ; ; ; ; ; ; ; ; ; ; ; . -/
import Derived.Test.YtemcankmggmgoaaGreatMgSigmaCompleteProof5
import Derived.Test.YtemcankmggmgoaaGreatMgSigmaCompleteProof3
import Derived.Test.YtemcankmggmgoaaGreatMgSigmaCompleteProof2
import Derived.Test.YtemcankmggmgoaaGreatMgSigmaCompleteProof1
import Derived.IntWalk
import Derived.Deep.DeepCutAuto
import Derived.Test.YtemcankmggmgoaaGreatMgSigmaCompleteProof4
set_option maxHeartbeats 16000000
set_option maxRecDepth 1000000

namespace Go.Mv
open Go.RowKit
theorem b0N {w : World} {b o n : Nat} {vs : List Value} (h : Rd w (some ⟨b, o, none⟩) n vs) (v : Value) (hv : vs[0]? = some v) : w.cell? ⟨b, o, none⟩ = some v := by
 have hl : 0 < vs.length := by
  rcases Nat.eq_zero_or_pos vs.length with h0 | h0
  ·rw [List.length_eq_zero_iff.1 h0] at hv; cases hv
  ·exact h0
 obtain ⟨b', o', he, hc⟩ := h.at (by have := h.len; omega)
 simp only [Option.some.injEq, Addr.mk.injEq] at he
 obtain ⟨rfl, rfl, -⟩ := he
 simpa using hc 0 v hv
theorem RdB.tail {w : World} {a : Option Addr} {n : Nat} {l : List UInt8} (h : RdB w a n l) (c : Nat) (h1 : 1 ≤ n) (hc : n ≤ c) : RdB w (c0x a 1 c) (n - 1) (l.drop 1) := by
 have h2 := i0L h 1 n c h1 hc (Nat.le_refl _)
 have hl := h.len
 have e : ((bs l).drop 1).take (n - 1) = bs (l.drop 1) := by
  rw [List.take_of_length_le (by rw [List.length_drop, a0G]; omega)]
  simp [bs]
 rw [e] at h2
 exact h2
end Go.Mv
namespace Go.Proofs.YtemcankmggmgoaaGreat
section
open Go.RowKit Go.Mv Mvp Mvq
theorem n0c : Tryz.prog.built 111 [] = some #[.int .u64 0, .int .u64 0, .int .u64 0, .int .u64 0] := by kernel_rfl
theorem g0J : Tryz.prog.built 117 [] = some (cw 4 0 ++ (cw 4 0 ++ cw 4 0)).toArray := by kernel_rfl
theorem e0U : (Tryz.prog.info? 5).map (·.size) = some 1 := by kernel_rfl
theorem q0w : (Tryz.prog.info? 58).map (·.size) = some 1 := by kernel_rfl
theorem q0x (x y : Nat) {o : Oper} {a : Act} {p q : Operand} {T : TypeId} (ho : o.op = .binOp .eql 111 p q T) (hp : a.eval p = i4 x) (hq : a.eval q = i4 y) {b : Bool} (hb : decide (x % B64 ^ 4 = y % B64 ^ 4) = b) (w : World) :
  (execOp a.eval o).run Tryz.prog w = .ok (.value (.bool b)) w := by
 subst hb
 exact e0Q ho hp hq w (run_eqGuard_agg w .eql 111 p q _ _ Tryz.eqGuardType111) (e0F w (p0J Tryz.underlying111 Tryz.underlying58 q0w x y w))
theorem i0x (l : List UInt8) (h : l.length = 33) : tlN l < B64 ^ 4 := e0O (l.drop 1) (by rw [List.length_drop]; omega)
theorem g0d (a : Option Addr) (c : Nat) (l : List UInt8) (w : World) (hb : RdB w a 32 (l.drop 1)) : Calls Tryz.prog 144 #[.slice a 32 c] w fun e w' => e = .returned (i4 (tlN l)) ∧ Fr Nob w w' :=
 c0g a 32 c (l.drop 1) w hb ap12
def atY (M n : Nat) : Nat := if b0S M (e0u n) then rtV M (e0u n) else 0
theorem z0g (m : Md) (gc gp bx by_ : Nat) (w : World) (hok : m.Ok) (hcv : Has w gc (d0N m gp bx by_) 125) (hpm : Has w gp (mdL m) 187) (x : Nat) :
  Calls Tryz.prog 184 #[.pointer (some ⟨gc, 0, none⟩), i4 (elN m x)] w fun e w' => e = .returned (.tuple #[ptV m x (atY m.M x) 1, .bool (b0S m.M (e0u x))]) ∧ Fr Nob w w' := by
 unfold atY
 cases h : b0S m.M (e0u x)
 ·exact y0r m gc gp bx by_ w hok hcv hpm x _ _ _ rfl rfl rfl h
 ·exact y0q m gc gp bx by_ w hok hcv hpm x _ _ _ rfl rfl rfl h
theorem f0i (a b : Nat) (w : World) (ha : a < B64 ^ 4) (hb : b < B64 ^ 4) (r : Bool) (hr : decide (a < b) = r) :
  Calls Tryz.prog 145 #[i4 a, i4 b] w fun e w' => e = .returned (.bool r) ∧ Fr Nob w w' := by
 subst hr; exact f0D a b w ha hb
theorem t0T (m : Md) (gc gp bx by_ : Nat) (w : World) (hok : m.Ok) (hcv : Has w gc (d0N m gp bx by_) 125) (hpm : Has w gp (mdL m) 187) (x : Nat) (r : Bool) (hr : b0S m.M (e0u x) = r) :
  Calls Tryz.prog 184 #[.pointer (some ⟨gc, 0, none⟩), i4 (elN m x)] w fun e w' => e = .returned (.tuple #[.agg (cw 4 (elN m x) ++ (cw 4 (elN m (atY m.M x)) ++ cw 4 (elN m 1))).toArray, .bool r]) ∧ Fr Nob w w' := by
 subst hr; exact z0g m gc gp bx by_ w hok hcv hpm x
theorem o0h (m : Md) (gc gp bx by_ : Nat) (w : World) (hok : m.Ok) (hcv : Has w gc (d0N m gp bx by_) 125) (hpm : Has w gp (mdL m) 187) (x y z : Nat) :
  Calls Tryz.prog 185 #[.pointer (some ⟨gc, 0, none⟩), .agg (cw 4 (elN m x) ++ (cw 4 (elN m y) ++ cw 4 (elN m z))).toArray] w fun e w' => e = .returned (.agg (cw 4 (elN m x) ++ (cw 4 (elN m (m.M - y % m.M)) ++ cw 4 (elN m z))).toArray) ∧ Fr Nob w w' :=
 k0o m gc gp bx by_ w hok hcv hpm x y z
attribute [local irreducible] a0y lw mix cw b0q b0r b0i beN b0x a0Q a0A a0J elN mdL a0N rtN rtV b0S gXn gYn tlN atY e0u
theorem n0d : (Value.agg #[.int .u64 0, .int .u64 0, .int .u64 0, .int .u64 0]) = i4 0 := by rw [i4, f0h]; rfl
theorem q0y (x : Nat) (hx : x < B64 ^ 4) (b : Bool) (hb : (x == 0) = b) (w : World) :
  Calls Tryz.prog 183 #[i4 x] w fun e w' => e = .returned (.bool b) ∧ Fr Nob w w' := by
 subst hb
 have HB := qH (show decide (x % B64 ^ 4 = 0 % B64 ^ 4) = (x == 0) by rw [Nat.mod_eq_of_lt hx, Nat.zero_mod]; rfl)
 clear hx
 have st0 := St.start Nob w
 go_enter Tryz.func183, Tryz.ntmps183
 go_wp2_with (with_reducible refine wSk 1 ?_)
 refine a0q st0 rfl rfl rfl (cw 4 x) rfl ?_
 intro g1 w1 st1
 clear st0
 go_wp2_with (with_reducible refine wSk 3 ?_)
 refine a0m st1 0 rfl rfl rfl Tryz.underlying111 rfl ap4 ?_
 go_wp2_with (with_reducible refine wSk 4 ?_)
 refine c0y rfl rfl _ n0c ?_
 rw [n0d]
 go_wp2_with (with_reducible refine wSk 5 ?_)
 refine l0G rfl (q0x x 0 rfl rfl rfl HB.out _) ?_
 have hfr := st1.fr
 clear st1
 go_wp2_with fail
 go_ret
 exact ⟨rfl, hfr⟩
theorem s0P (m : Md) (gc gp bx by_ : Nat) (w : World) (hok : m.Ok) (hcv : Has w gc (d0N m gp bx by_) 125) (hpm : Has w gp (mdL m) 187) (a : Option Addr) (n c : Nat) (l : List UInt8) (hb : RdB w a n l) (_hc : n ≤ c) (h33 : l.length ≠ 33) :
  Calls Tryz.prog 140 #[.pointer (some ⟨gc, 0, none⟩), .slice a n c] w fun e w' => e = .returned (.tuple #[ptV m 0 0 0, .bool false]) ∧ Fr Nob w w' := by
 have HOK := qH hok
 have HCV := qH hcv
 have HPM := qH hpm
 clear hok hcv hpm
 have HN := qH (show n ≠ 33 by have := hb.len; omega)
 clear hb _hc h33
 have st0 := St.start Nob w
 go_enter Tryz.func140, Tryz.ntmps140
 go_wp2_with (with_reducible refine wSk 4 ?_)
 refine a0a st0 rfl rfl (z := .agg (List.replicate 12 (.int .u64 0)).toArray) ap11 (cw 4 0 ++ (cw 4 0 ++ cw 4 0)) ap9 ?_
 intro g4 w1 st1
 clear st0
 have hne : ((n : Int) != 33) = true := by have := HN.out; simp; omega
 go_wp2_with (with_reducible refine wSk 12 ?_)
 refine c0y rfl rfl _ g0J ?_
 go_wp2_with (with_reducible refine wSn ?_)
 refine a0b st1 0 rfl rfl rfl rfl rfl (by first | (simp only; done) | (simp only [List.length_append, a0e]; done)) ap4 (b0B _ _ _) ?_
 intro w2 st2
 clear st1
 have hr := st2.at 0 rfl
 have hfr := st2.fr
 clear st2
 go_wp2_with fail
 exact bodyPost_ret (a0M rfl rfl hr Tryz.underlying117 rfl ap4 rfl) rfl ⟨by unfold ptV ptL; rw [d0R]; rfl, hfr⟩
theorem k0E (m : Md) (gc gp bx by_ : Nat) (w : World) (hok : m.Ok) (hcv : Has w gc (d0N m gp bx by_) 125) (hpm : Has w gp (mdL m) 187) (a : Option Addr) (n c : Nat) (l : List UInt8) (hb : RdB w a n l) (hc : n ≤ c) (h33 : l.length = 33) (h0 : (bs l)[0]? = some (.int .u8 0)) (b : Bool) (hzb : (tlN l == 0) = b) :
  Calls Tryz.prog 140 #[.pointer (some ⟨gc, 0, none⟩), .slice a n c] w fun e w' => e = .returned (.tuple #[ptV m 1 1 0, .bool b]) ∧ Fr Nob w w' := by
 have HOK := qH hok
 have HCV := qH hcv
 have HPM := qH hpm
 clear hok hcv hpm
 have h33n : n = 33 := by have := hb.len; omega
 subst h33n
 obtain ⟨ba, oa, rfl, -⟩ := Rd.at hb ap12
 have HB := qH hb
 have HC := qH hc
 have HT := qH (RdB.tail hb c ap12 hc)
 have H0 := qH h0
 have HTN := qH (i0x l h33)
 clear hb hc h33 h0
 have HZB := qH hzb
 clear hzb
 have st0 := St.start Nob w
 go_enter Tryz.func140, Tryz.ntmps140
 go_wp2_with (with_reducible refine wSk 4 ?_)
 refine a0a st0 rfl rfl (z := .agg (List.replicate 12 (.int .u64 0)).toArray) ap11 (cw 4 0 ++ (cw 4 0 ++ cw 4 0)) ap9 ?_
 intro g4 w1 st1
 clear st0
 have hne : (((33 : Nat) : Int) != 33) = false := by rfl
 go_wp2_with (with_reducible refine wSk 14 ?_)
 refine g0l rfl rfl Tryz.underlying22 e0U rfl 1 33 ⟨_, rfl⟩ rfl ap12 HC.out ?_
 rw [show (33 : Nat) - 1 = 32 from rfl]
 go_wp2_with fail
 refine (g0d _ _ l _ (HT.out.still st1.fr)).mono ?_
 rintro e' w2 ⟨rfl, hf2⟩
 have st2 := st1.keep hf2
 clear st1 hf2
 go_wp2_with (with_reducible refine wSk 6 ?_)
 refine a0a st2 rfl rfl (z := zAd) ap11 (cw 4 0) ap9 ?_
 intro g6 w3 st3
 clear st2
 go_wp2_with (with_reducible refine wSn ?_)
 refine a0b st3 1 rfl rfl rfl rfl rfl ap5 ap4 (a0d _ _) ?_
 intro w4 st4
 clear st3
 have hcell := b0N (HB.out.still st4.fr) _ H0.out
 go_wp2_with fail
 clear hcell
 go_wp2_with fail
 refine wp_region_noPanic ?_
 refine a0l (fun wx => St Nob w wx [(g4, cw 4 0 ++ (cw 4 0 ++ cw 4 0), 117), (g6, cw 4 (tlN l), 111)]) 4 (.w 0 (.t 2 (.r 1 (.r 3 (.m 4 (.w 5 .nil)))))) ap11 ap11 st4.drew (fun _ _ _ _ _ h => h) ?_
 have hd4 := st4.drew
 clear st4
 refine a0c rfl rfl apW ?_
 try simp only [clL]
 refine a0n rfl rfl rfl rfl (cw 4 (tlN l)) (fun wx hS => St.rangeL hS 1 rfl 0 _ dZl) Tryz.underlying111 rfl ap4 ?_
 try simp only [clL]
 refine a0r rfl rfl ?_
 go_simp
 refine (k0A m gc gp bx by_ _ HOK.out (HCV.out.keep hd4.fr id) (HPM.out.keep hd4.fr id)).mono ?_
 rintro e' w5 ⟨rfl, hf5⟩
 have st5 := hd4.keep hf5
 clear hf5
 clear hd4
 refine ⟨st5, ?_⟩
 try simp only [clL]
 refine a0r rfl rfl ?_
 go_simp
 refine (q0y (tlN l) HTN.out b HZB.out _).mono ?_
 rintro e' w6 ⟨rfl, hf6⟩
 have st6 := st5.keep hf6
 clear hf6
 clear st5
 refine ⟨st6, ?_⟩
 try simp only [clL]
 refine a0p rfl rfl ?_
 refine a0i st6 0 rfl rfl rfl rfl ap5 ap4 (b0B _ _ _) ?_
 intro w7 st7
 clear st6
 try simp only [Act.put]
 refine a0c rfl rfl apW ?_
 try simp only [clL]
 refine a0f ?_
 refine NoPanic.normal ?_
 have hr := st7.at 0 rfl
 have hfr := st7.fr
 clear st7
 go_wp2_with fail
 exact bodyPost_ret (a0M rfl rfl hr Tryz.underlying117 rfl ap4 rfl) rfl ⟨by unfold ptV ptL; rfl, hfr⟩
theorem s0Q (m : Md) (gc gp bx by_ : Nat) (w : World) (hok : m.Ok) (hcv : Has w gc (d0N m gp bx by_) 125) (hpm : Has w gp (mdL m) 187) (a : Option Addr) (n c : Nat) (l : List UInt8) (hb : RdB w a n l) (hc : n ≤ c) (h33 : l.length = 33) (q : Nat) (h0 : (bs l)[0]? = some (.int .u8 (q : Int))) (hq0 : ((q : Int) == 0) = false) (hq2 : ((q : Int) != 2) = true) (hq3 : ((q : Int) != 3) = true) :
  Calls Tryz.prog 140 #[.pointer (some ⟨gc, 0, none⟩), .slice a n c] w fun e w' => e = .returned (.tuple #[ptV m 0 0 0, .bool false]) ∧ Fr Nob w w' := by
 have HOK := qH hok
 have HCV := qH hcv
 have HPM := qH hpm
 clear hok hcv hpm
 have h33n : n = 33 := by have := hb.len; omega
 subst h33n
 obtain ⟨ba, oa, rfl, -⟩ := Rd.at hb ap12
 have HB := qH hb
 have HC := qH hc
 have HT := qH (RdB.tail hb c ap12 hc)
 have H0 := qH h0
 have HTN := qH (i0x l h33)
 clear hb hc h33 h0
 have HQ0 := qH hq0
 have HQ2 := qH hq2
 have HQ3 := qH hq3
 clear hq0 hq2 hq3
 have st0 := St.start Nob w
 go_enter Tryz.func140, Tryz.ntmps140
 go_wp2_with (with_reducible refine wSk 4 ?_)
 refine a0a st0 rfl rfl (z := .agg (List.replicate 12 (.int .u64 0)).toArray) ap11 (cw 4 0 ++ (cw 4 0 ++ cw 4 0)) ap9 ?_
 intro g4 w1 st1
 clear st0
 have hne : (((33 : Nat) : Int) != 33) = false := by rfl
 go_wp2_with (with_reducible refine wSk 14 ?_)
 refine g0l rfl rfl Tryz.underlying22 e0U rfl 1 33 ⟨_, rfl⟩ rfl ap12 HC.out ?_
 rw [show (33 : Nat) - 1 = 32 from rfl]
 go_wp2_with fail
 refine (g0d _ _ l _ (HT.out.still st1.fr)).mono ?_
 rintro e' w2 ⟨rfl, hf2⟩
 have st2 := st1.keep hf2
 clear st1 hf2
 go_wp2_with (with_reducible refine wSk 6 ?_)
 refine a0a st2 rfl rfl (z := zAd) ap11 (cw 4 0) ap9 ?_
 intro g6 w3 st3
 clear st2
 go_wp2_with (with_reducible refine wSn ?_)
 refine a0b st3 1 rfl rfl rfl rfl rfl ap5 ap4 (a0d _ _) ?_
 intro w4 st4
 clear st3
 have hq0 := HQ0.out
 have hq2 := HQ2.out
 have hq3 := HQ3.out
 have hcell := b0N (HB.out.still st4.fr) _ H0.out
 go_wp2_with fail
 clear hcell
 go_wp2_with fail
 refine wp_region_noPanic ?_
 refine c0e (fun wx => St Nob w wx [(g4, cw 4 0 ++ (cw 4 0 ++ cw 4 0), 117), (g6, cw 4 (tlN l), 111)]) 22 (.w 0 (.w 1 (.t 2 (.w 3 (.w 4 (.w 5 (.w 6 (.t 7 (.w 8 (.w 9 (.w 10 (.t 11 (.w 12 (.w 13 (.w 14 (.t 15 (.w 16 (.w 17 (.t 18 (.r 19 (.w 20 (.w 21 (.m 22 .nil))))))))))))))))))))))) ap11 ap11 st4.drew (fun _ _ _ _ _ h => h) ?_
 have hd4 := st4.drew
 clear st4
 refine a0o rfl rfl apW ?_
 try simp only [clL]
 refine a0o rfl rfl apW ?_
 try simp only [clL]
 refine d0f (v := ?_) rfl rfl (fun wx hS => ?_) ?_
 rotate_left 1
 ·(have hc := (b0N (HB.out.still (St.fr hS)) _ H0.out); clear hS; go_simp; with_reducible rfl)
 try simp only [clL]
 refine a0o rfl rfl apW ?_
 try simp only [clL]
 refine a0o rfl rfl apW ?_
 try simp only [clL]
 refine a0o rfl rfl apW ?_
 try simp only [clL]
 refine a0o rfl rfl apW ?_
 try simp only [clL]
 refine d0f (v := ?_) rfl rfl (fun wx hS => ?_) ?_
 rotate_left 1
 ·(have hc := (b0N (HB.out.still (St.fr hS)) _ H0.out); clear hS; go_simp; with_reducible rfl)
 try simp only [clL]
 refine a0o rfl rfl apW ?_
 try simp only [clL]
 refine a0o rfl rfl apW ?_
 try simp only [clL]
 refine a0o rfl rfl apW ?_
 try simp only [clL]
 refine d0E rfl rfl ?_
 try simp only [clL]
 refine b0G rfl rfl ?_
 try simp only [clL]
 refine b0G rfl rfl ?_
 try simp only [clL]
 refine b0G rfl rfl ?_
 try simp only [clL]
 refine d0E rfl rfl ?_
 try simp only [clL]
 refine b0G rfl rfl ?_
 try simp only [clL]
 refine b0G rfl rfl ?_
 try simp only [clL]
 refine d0E rfl rfl ?_
 try simp only [clL]
 refine l0U rfl rfl ⟨hd4, ?_⟩
 try simp only [clL]
 refine b0G rfl rfl ?_
 try simp only [clL]
 refine a0o rfl rfl apW ?_
 try simp only [clL]
 refine h0A rfl rfl ?_
 go_simp
 try simp only [clL]
 refine e0I ?_
 have st5 := hd4
 clear hd4
 refine NoPanic.normal ?_
 go_wp2_with (with_reducible refine wSk 48 ?_)
 refine c0y rfl rfl _ g0J ?_
 go_wp2_with (with_reducible refine wSn ?_)
 refine a0b st5 0 rfl rfl rfl rfl rfl (by first | (simp only; done) | (simp only [List.length_append, a0e]; done)) ap4 (b0B _ _ _) ?_
 intro w6 st6
 clear st5
 have hr := st6.at 0 rfl
 have hfr := st6.fr
 clear st6
 go_wp2_with fail
 exact bodyPost_ret (a0M rfl rfl hr Tryz.underlying117 rfl ap4 rfl) rfl ⟨by unfold ptV ptL; rw [d0R]; rfl, hfr⟩
theorem s0R (m : Md) (gc gp bx by_ : Nat) (w : World) (hok : m.Ok) (hcv : Has w gc (d0N m gp bx by_) 125) (hpm : Has w gp (mdL m) 187) (a : Option Addr) (n c : Nat) (l : List UInt8) (hb : RdB w a n l) (hc : n ≤ c) (h33 : l.length = 33) (h0 : (bs l)[0]? = some (.int .u8 2)) (hlt : decide (tlN l < m.M) = false) :
  Calls Tryz.prog 140 #[.pointer (some ⟨gc, 0, none⟩), .slice a n c] w fun e w' => e = .returned (.tuple #[ptV m 0 0 0, .bool false]) ∧ Fr Nob w w' := by
 have HOK := qH hok
 have HCV := qH hcv
 have HPM := qH hpm
 clear hok hcv hpm
 have h33n : n = 33 := by have := hb.len; omega
 subst h33n
 obtain ⟨ba, oa, rfl, -⟩ := Rd.at hb ap12
 have HB := qH hb
 have HC := qH hc
 have HT := qH (RdB.tail hb c ap12 hc)
 have H0 := qH h0
 have HTN := qH (i0x l h33)
 clear hb hc h33 h0
 have HDL := qH hlt
 clear hlt
 have st0 := St.start Nob w
 go_enter Tryz.func140, Tryz.ntmps140
 go_wp2_with (with_reducible refine wSk 4 ?_)
 refine a0a st0 rfl rfl (z := .agg (List.replicate 12 (.int .u64 0)).toArray) ap11 (cw 4 0 ++ (cw 4 0 ++ cw 4 0)) ap9 ?_
 intro g4 w1 st1
 clear st0
 have hne : (((33 : Nat) : Int) != 33) = false := by rfl
 go_wp2_with (with_reducible refine wSk 14 ?_)
 refine g0l rfl rfl Tryz.underlying22 e0U rfl 1 33 ⟨_, rfl⟩ rfl ap12 HC.out ?_
 rw [show (33 : Nat) - 1 = 32 from rfl]
 go_wp2_with fail
 refine (g0d _ _ l _ (HT.out.still st1.fr)).mono ?_
 rintro e' w2 ⟨rfl, hf2⟩
 have st2 := st1.keep hf2
 clear st1 hf2
 go_wp2_with (with_reducible refine wSk 6 ?_)
 refine a0a st2 rfl rfl (z := zAd) ap11 (cw 4 0) ap9 ?_
 intro g6 w3 st3
 clear st2
 go_wp2_with (with_reducible refine wSn ?_)
 refine a0b st3 1 rfl rfl rfl rfl rfl ap5 ap4 (a0d _ _) ?_
 intro w4 st4
 clear st3
 have hcell := b0N (HB.out.still st4.fr) _ H0.out
 go_wp2_with fail
 clear hcell
 go_wp2_with fail
 refine wp_region_noPanic ?_
 refine c0e (fun wx => St Nob w wx [(g4, cw 4 0 ++ (cw 4 0 ++ cw 4 0), 117), (g6, cw 4 (tlN l), 111)]) 22 (.w 0 (.w 1 (.t 2 (.w 3 (.w 4 (.w 5 (.w 6 (.t 7 (.w 8 (.w 9 (.w 10 (.t 11 (.w 12 (.w 13 (.w 14 (.t 15 (.w 16 (.w 17 (.t 18 (.r 19 (.w 20 (.w 21 (.m 22 .nil))))))))))))))))))))))) ap11 ap11 st4.drew (fun _ _ _ _ _ h => h) ?_
 have hd4 := st4.drew
 clear st4
 refine a0o rfl rfl apW ?_
 try simp only [clL]
 refine a0o rfl rfl apW ?_
 try simp only [clL]
 refine d0f (v := ?_) rfl rfl (fun wx hS => ?_) ?_
 rotate_left 1
 ·(have hc := (b0N (HB.out.still (St.fr hS)) _ H0.out); clear hS; go_simp; with_reducible rfl)
 try simp only [clL]
 refine a0o rfl rfl apW ?_
 try simp only [clL]
 refine a0o rfl rfl apW ?_
 try simp only [clL]
 refine b0G rfl rfl ?_
 try simp only [clL]
 refine b0G rfl rfl ?_
 try simp only [clL]
 refine d0E rfl rfl ?_
 try simp only [clL]
 refine b0G rfl rfl ?_
 try simp only [clL]
 refine a0o rfl rfl apW ?_
 try simp only [clL]
 refine a0o rfl rfl apW ?_
 try simp only [clL]
 refine c0W rfl rfl rfl rfl (cw 4 (tlN l)) (fun wx hS => St.rangeL hS 1 rfl 0 _ dZl) Tryz.underlying111 rfl ap4 ?_
 try simp only [clL]
 refine a0o rfl rfl apW ?_
 try simp only [clL]
 refine a0o rfl rfl apW ?_
 try simp only [clL]
 refine a0o rfl rfl apW ?_
 try simp only [clL]
 refine d0f (v := ?_) rfl rfl (fun wx hS => ?_) ?_
 rotate_left 1
 ·(have hc := (HCV.out.keep (St.fr hS) id).cell (i := 0) rfl; clear hS; go_simp; with_reducible rfl)
 try simp only [clL]
 refine a0o rfl rfl apW ?_
 try simp only [clL]
 refine a0o rfl rfl apW ?_
 try simp only [clL]
 refine c0W rfl rfl rfl rfl (cw 4 m.M) (fun wx hS => (HPM.out.keep (St.fr hS) id).range 0 _ (j0E m)) Tryz.underlying111 rfl ap4 ?_
 try simp only [clL]
 refine j0j rfl rfl ?_
 go_simp
 refine (f0i (tlN l) m.M _ HTN.out HOK.out.lt false HDL.out).mono ?_
 rintro e' w5 ⟨rfl, hf5⟩
 have st5 := hd4.keep hf5
 clear hf5
 clear hd4
 refine ⟨st5, ?_⟩
 try simp only [clL]
 refine a0o rfl rfl apW ?_
 try simp only [clL]
 refine a0o rfl rfl apW ?_
 try simp only [clL]
 refine h0A rfl rfl ?_
 go_simp
 try simp only [clL]
 refine e0I ?_
 refine NoPanic.normal ?_
 go_wp2_with (with_reducible refine wSk 48 ?_)
 refine c0y rfl rfl _ g0J ?_
 go_wp2_with (with_reducible refine wSn ?_)
 refine a0b st5 0 rfl rfl rfl rfl rfl (by first | (simp only; done) | (simp only [List.length_append, a0e]; done)) ap4 (b0B _ _ _) ?_
 intro w6 st6
 clear st5
 have hr := st6.at 0 rfl
 have hfr := st6.fr
 clear st6
 go_wp2_with fail
 exact bodyPost_ret (a0M rfl rfl hr Tryz.underlying117 rfl ap4 rfl) rfl ⟨by unfold ptV ptL; rw [d0R]; rfl, hfr⟩
theorem n0e (m : Md) (gc gp bx by_ : Nat) (w : World) (hok : m.Ok) (hcv : Has w gc (d0N m gp bx by_) 125) (hpm : Has w gp (mdL m) 187) (a : Option Addr) (n c : Nat) (l : List UInt8) (hb : RdB w a n l) (hc : n ≤ c) (h33 : l.length = 33) (h0 : (bs l)[0]? = some (.int .u8 2)) (hlt : decide (tlN l < m.M) = true) (r : Bool) (hr : b0S m.M (e0u (tlN l)) = r) :
  Calls Tryz.prog 140 #[.pointer (some ⟨gc, 0, none⟩), .slice a n c] w fun e w' => e = .returned (.tuple #[ptV m (tlN l) (atY m.M (tlN l)) 1, .bool r]) ∧ Fr Nob w w' := by
 have HOK := qH hok
 have HCV := qH hcv
 have HPM := qH hpm
 clear hok hcv hpm
 have h33n : n = 33 := by have := hb.len; omega
 subst h33n
 obtain ⟨ba, oa, rfl, -⟩ := Rd.at hb ap12
 have HB := qH hb
 have HC := qH hc
 have HT := qH (RdB.tail hb c ap12 hc)
 have H0 := qH h0
 have HTN := qH (i0x l h33)
 clear hb hc h33 h0
 have HDL := qH hlt
 clear hlt
 have HR := qH hr
 clear hr
 have st0 := St.start Nob w
 go_enter Tryz.func140, Tryz.ntmps140
 go_wp2_with (with_reducible refine wSk 4 ?_)
 refine a0a st0 rfl rfl (z := .agg (List.replicate 12 (.int .u64 0)).toArray) ap11 (cw 4 0 ++ (cw 4 0 ++ cw 4 0)) ap9 ?_
 intro g4 w1 st1
 clear st0
 have hne : (((33 : Nat) : Int) != 33) = false := by rfl
 go_wp2_with (with_reducible refine wSk 14 ?_)
 refine g0l rfl rfl Tryz.underlying22 e0U rfl 1 33 ⟨_, rfl⟩ rfl ap12 HC.out ?_
 rw [show (33 : Nat) - 1 = 32 from rfl]
 go_wp2_with fail
 refine (g0d _ _ l _ (HT.out.still st1.fr)).mono ?_
 rintro e' w2 ⟨rfl, hf2⟩
 have st2 := st1.keep hf2
 clear st1 hf2
 go_wp2_with (with_reducible refine wSk 6 ?_)
 refine a0a st2 rfl rfl (z := zAd) ap11 (cw 4 0) ap9 ?_
 intro g6 w3 st3
 clear st2
 go_wp2_with (with_reducible refine wSn ?_)
 refine a0b st3 1 rfl rfl rfl rfl rfl ap5 ap4 (a0d _ _) ?_
 intro w4 st4
 clear st3
 have hcell := b0N (HB.out.still st4.fr) _ H0.out
 go_wp2_with fail
 clear hcell
 go_wp2_with fail
 refine wp_region_noPanic ?_
 refine c0e (fun wx => St Nob w wx [(g4, cw 4 0 ++ (cw 4 0 ++ cw 4 0), 117), (g6, cw 4 (tlN l), 111)]) 22 (.w 0 (.w 1 (.t 2 (.w 3 (.w 4 (.w 5 (.w 6 (.t 7 (.w 8 (.w 9 (.w 10 (.t 11 (.w 12 (.w 13 (.w 14 (.t 15 (.w 16 (.w 17 (.t 18 (.r 19 (.w 20 (.w 21 (.m 22 .nil))))))))))))))))))))))) ap11 ap11 st4.drew (fun _ _ _ _ _ h => h) ?_
 have hd4 := st4.drew
 clear st4
 refine a0o rfl rfl apW ?_
 try simp only [clL]
 refine a0o rfl rfl apW ?_
 try simp only [clL]
 refine d0f (v := ?_) rfl rfl (fun wx hS => ?_) ?_
 rotate_left 1
 ·(have hc := (b0N (HB.out.still (St.fr hS)) _ H0.out); clear hS; go_simp; with_reducible rfl)
 try simp only [clL]
 refine a0o rfl rfl apW ?_
 try simp only [clL]
 refine a0o rfl rfl apW ?_
 try simp only [clL]
 refine b0G rfl rfl ?_
 try simp only [clL]
 refine b0G rfl rfl ?_
 try simp only [clL]
 refine d0E rfl rfl ?_
 try simp only [clL]
 refine b0G rfl rfl ?_
 try simp only [clL]
 refine a0o rfl rfl apW ?_
 try simp only [clL]
 refine a0o rfl rfl apW ?_
 try simp only [clL]
 refine c0W rfl rfl rfl rfl (cw 4 (tlN l)) (fun wx hS => St.rangeL hS 1 rfl 0 _ dZl) Tryz.underlying111 rfl ap4 ?_
 try simp only [clL]
 refine a0o rfl rfl apW ?_
 try simp only [clL]
 refine a0o rfl rfl apW ?_
 try simp only [clL]
 refine a0o rfl rfl apW ?_
 try simp only [clL]
 refine d0f (v := ?_) rfl rfl (fun wx hS => ?_) ?_
 rotate_left 1
 ·(have hc := (HCV.out.keep (St.fr hS) id).cell (i := 0) rfl; clear hS; go_simp; with_reducible rfl)
 try simp only [clL]
 refine a0o rfl rfl apW ?_
 try simp only [clL]
 refine a0o rfl rfl apW ?_
 try simp only [clL]
 refine c0W rfl rfl rfl rfl (cw 4 m.M) (fun wx hS => (HPM.out.keep (St.fr hS) id).range 0 _ (j0E m)) Tryz.underlying111 rfl ap4 ?_
 try simp only [clL]
 refine j0j rfl rfl ?_
 go_simp
 refine (f0i (tlN l) m.M _ HTN.out HOK.out.lt true HDL.out).mono ?_
 rintro e' w5 ⟨rfl, hf5⟩
 have st5 := hd4.keep hf5
 clear hf5
 clear hd4
 refine ⟨st5, ?_⟩
 try simp only [clL]
 refine a0o rfl rfl apW ?_
 try simp only [clL]
 refine a0o rfl rfl apW ?_
 try simp only [clL]
 refine h0A rfl rfl ?_
 go_simp
 try simp only [clL]
 refine e0I ?_
 refine NoPanic.normal ?_
 go_wp2_with fail
 refine wp_region_noPanic ?_
 refine a0l (fun wx => St Nob w wx [(g4, cw 4 0 ++ (cw 4 0 ++ cw 4 0), 117), (g6, cw 4 (tlN l), 111)]) 13 (.w 0 (.w 1 (.w 2 (.w 3 (.t 4 (.t 5 (.b 6 11 (.b 7 11 (.w 8 (.w 9 (.w 10 (.r 11 (.r 12 (.m 13 .nil)))))) (.r 7 (.w 8 (.w 9 (.w 10 (.r 12 (.m 13 .nil))))))) (.r 6 (.r 7 (.w 8 (.w 9 (.w 10 (.r 12 (.m 13 .nil)))))))))))))) ap11 ap11 st5.drew (fun _ _ _ _ _ h => h) ?_
 have hd5 := st5.drew
 clear st5
 refine a0c rfl rfl apW ?_
 try simp only [clL]
 refine a0c rfl rfl apW ?_
 try simp only [clL]
 refine a0c rfl rfl apW ?_
 try simp only [clL]
 refine a0c rfl rfl apW ?_
 try simp only [clL]
 refine e0C (v := ?_) rfl rfl (fun wx hS => ?_) ?_
 rotate_left 1
 ·(have hc := (HCV.out.keep (St.fr hS) id).cell (i := 0) rfl; clear hS; go_simp; with_reducible rfl)
 try simp only [clL]
 refine a0n rfl rfl rfl rfl (cw 4 (tlN l)) (fun wx hS => St.rangeL hS 1 rfl 0 _ dZl) Tryz.underlying111 rfl ap4 ?_
 try simp only [clL]
 refine e0D (C := fun g7 wz => St Nob w wz [(g4, cw 4 0 ++ (cw 4 0 ++ cw 4 0), 117), (g6, cw 4 (tlN l), 111), (g7, cw 4 (elN m (tlN l)) ++ (cw 4 (elN m (atY m.M (tlN l))) ++ cw 4 (elN m 1)), 117)]) (F := ?_) (fun key => ?_) ?_
 rotate_left 1
 ·skip
  refine e0j rfl rfl rfl rfl ?_ ?_
  ·skip
   go_simp
   refine (d0c m gp _ HOK.out (HPM.out.keep hd5.fr id) (tlN l) HTN.out).mono ?_
   rintro e' w6 ⟨rfl, hf6⟩
   have st6 := hd5.keep hf6
   clear hf6
   refine ⟨st6, ?_⟩
   try simp only [clL]
   refine e0j rfl rfl rfl rfl ?_ ?_
   ·skip
    go_simp
    refine (t0T m gc gp bx by_ _ HOK.out (HCV.out.keep st6.fr id) (HPM.out.keep st6.fr id) (tlN l) r HR.out).mono ?_
    rintro e' w7 ⟨rfl, hf7⟩
    have st7 := st6.keep hf7
    clear hf7
    refine ⟨st7, ?_⟩
    try simp only [clL]
    refine a0c rfl rfl apW ?_
    try simp only [clL]
    refine a0c rfl rfl apW ?_
    try simp only [clL]
    refine a0c rfl rfl apW ?_
    try simp only [clL]
    refine a0r rfl rfl ?_
    refine b0m st7 rfl (z := zAc) ap11 (cw 12 0) ap9 ?_
    intro g7 w8 st8
    refine ⟨St.less st8 ap14, ?_⟩
    try simp only [clL]
    refine a0r rfl rfl ?_
    refine a0i st8 2 rfl rfl rfl rfl ap5 ap4 (b0B _ _ _) ?_
    intro w9 st9
    refine ⟨St.less st9 ap14, ?_⟩
    try simp only [Act.put]
    refine a0p rfl rfl ?_
    go_simp
    try simp only [clL]
    refine a0f ?_
    exact key g7 _ st9
   ·skip
    refine b0m st6 rfl (z := zAc) ap11 (cw 12 0) ap9 ?_
    intro g7 w10 st10
    refine ⟨St.less st10 ap14, ?_⟩
    try simp only [clL]
    refine a0r rfl rfl ?_
    go_simp
    refine (t0T m gc gp bx by_ _ HOK.out (HCV.out.keep st10.fr id) (HPM.out.keep st10.fr id) (tlN l) r HR.out).mono ?_
    rintro e' w11 ⟨rfl, hf11⟩
    have st11 := st10.keep hf11
    clear hf11
    refine ⟨St.less st11 ap14, ?_⟩
    try simp only [clL]
    refine a0c rfl rfl apW ?_
    try simp only [clL]
    refine a0c rfl rfl apW ?_
    try simp only [clL]
    refine a0c rfl rfl apW ?_
    try simp only [clL]
    refine a0r rfl rfl ?_
    refine a0i st11 2 rfl rfl rfl rfl ap5 ap4 (b0B _ _ _) ?_
    intro w12 st12
    refine ⟨St.less st12 ap14, ?_⟩
    try simp only [Act.put]
    refine a0p rfl rfl ?_
    go_simp
    try simp only [clL]
    refine a0f ?_
    exact key g7 _ st12
  ·skip
   refine b0m hd5 rfl (z := zAc) ap11 (cw 12 0) ap9 ?_
   intro g7 w13 st13
   refine ⟨St.less st13 ap14, ?_⟩
   try simp only [clL]
   refine a0r rfl rfl ?_
   go_simp
   refine (d0c m gp _ HOK.out (HPM.out.keep st13.fr id) (tlN l) HTN.out).mono ?_
   rintro e' w14 ⟨rfl, hf14⟩
   have st14 := st13.keep hf14
   clear hf14
   refine ⟨St.less st14 ap14, ?_⟩
   try simp only [clL]
   refine a0r rfl rfl ?_
   go_simp
   refine (t0T m gc gp bx by_ _ HOK.out (HCV.out.keep st14.fr id) (HPM.out.keep st14.fr id) (tlN l) r HR.out).mono ?_
   rintro e' w15 ⟨rfl, hf15⟩
   have st15 := st14.keep hf15
   clear hf15
   refine ⟨St.less st15 ap14, ?_⟩
   try simp only [clL]
   refine a0c rfl rfl apW ?_
   try simp only [clL]
   refine a0c rfl rfl apW ?_
   try simp only [clL]
   refine a0c rfl rfl apW ?_
   try simp only [clL]
   refine a0r rfl rfl ?_
   refine a0i st15 2 rfl rfl rfl rfl ap5 ap4 (b0B _ _ _) ?_
   intro w16 st16
   refine ⟨St.less st16 ap14, ?_⟩
   try simp only [Act.put]
   refine a0p rfl rfl ?_
   go_simp
   try simp only [clL]
   refine a0f ?_
   exact key g7 _ st16
 intro g7 w17 st17
 have st17 : St Nob w w17 [(g4, cw 4 0 ++ (cw 4 0 ++ cw 4 0), 117), (g6, cw 4 (tlN l), 111), (g7, cw 4 (elN m (tlN l)) ++ (cw 4 (elN m (atY m.M (tlN l))) ++ cw 4 (elN m 1)), 117)] := st17
 clear hd5
 refine NoPanic.normal ?_
 have hcell := b0N (HB.out.still st17.fr) _ H0.out
 go_wp2_with (with_reducible refine wSk 67 ?_)
 refine a0u st17 2 rfl rfl rfl Tryz.underlying117 rfl rfl ap4 ?_
 go_wp2_with (with_reducible refine wSn ?_)
 refine a0b st17 0 rfl rfl rfl rfl rfl ap5 ap4 (b0B _ _ _) ?_
 intro w18 st18
 clear st17
 have hr := st18.at 0 rfl
 have hfr := st18.fr
 clear st18
 go_wp2_with fail
 exact bodyPost_ret (a0M rfl rfl hr Tryz.underlying117 rfl ap4 rfl) rfl ⟨by unfold ptV ptL; rfl, hfr⟩
theorem s0S (m : Md) (gc gp bx by_ : Nat) (w : World) (hok : m.Ok) (hcv : Has w gc (d0N m gp bx by_) 125) (hpm : Has w gp (mdL m) 187) (a : Option Addr) (n c : Nat) (l : List UInt8) (hb : RdB w a n l) (hc : n ≤ c) (h33 : l.length = 33) (h0 : (bs l)[0]? = some (.int .u8 3)) (hlt : decide (tlN l < m.M) = false) :
  Calls Tryz.prog 140 #[.pointer (some ⟨gc, 0, none⟩), .slice a n c] w fun e w' => e = .returned (.tuple #[ptV m 0 0 0, .bool false]) ∧ Fr Nob w w' := by
 have HOK := qH hok
 have HCV := qH hcv
 have HPM := qH hpm
 clear hok hcv hpm
 have h33n : n = 33 := by have := hb.len; omega
 subst h33n
 obtain ⟨ba, oa, rfl, -⟩ := Rd.at hb ap12
 have HB := qH hb
 have HC := qH hc
 have HT := qH (RdB.tail hb c ap12 hc)
 have H0 := qH h0
 have HTN := qH (i0x l h33)
 clear hb hc h33 h0
 have HDL := qH hlt
 clear hlt
 have st0 := St.start Nob w
 go_enter Tryz.func140, Tryz.ntmps140
 go_wp2_with (with_reducible refine wSk 4 ?_)
 refine a0a st0 rfl rfl (z := .agg (List.replicate 12 (.int .u64 0)).toArray) ap11 (cw 4 0 ++ (cw 4 0 ++ cw 4 0)) ap9 ?_
 intro g4 w1 st1
 clear st0
 have hne : (((33 : Nat) : Int) != 33) = false := by rfl
 go_wp2_with (with_reducible refine wSk 14 ?_)
 refine g0l rfl rfl Tryz.underlying22 e0U rfl 1 33 ⟨_, rfl⟩ rfl ap12 HC.out ?_
 rw [show (33 : Nat) - 1 = 32 from rfl]
 go_wp2_with fail
 refine (g0d _ _ l _ (HT.out.still st1.fr)).mono ?_
 rintro e' w2 ⟨rfl, hf2⟩
 have st2 := st1.keep hf2
 clear st1 hf2
 go_wp2_with (with_reducible refine wSk 6 ?_)
 refine a0a st2 rfl rfl (z := zAd) ap11 (cw 4 0) ap9 ?_
 intro g6 w3 st3
 clear st2
 go_wp2_with (with_reducible refine wSn ?_)
 refine a0b st3 1 rfl rfl rfl rfl rfl ap5 ap4 (a0d _ _) ?_
 intro w4 st4
 clear st3
 have hcell := b0N (HB.out.still st4.fr) _ H0.out
 go_wp2_with fail
 clear hcell
 go_wp2_with fail
 refine wp_region_noPanic ?_
 refine c0e (fun wx => St Nob w wx [(g4, cw 4 0 ++ (cw 4 0 ++ cw 4 0), 117), (g6, cw 4 (tlN l), 111)]) 22 (.w 0 (.w 1 (.t 2 (.w 3 (.w 4 (.w 5 (.w 6 (.t 7 (.w 8 (.w 9 (.w 10 (.t 11 (.w 12 (.w 13 (.w 14 (.t 15 (.w 16 (.w 17 (.t 18 (.r 19 (.w 20 (.w 21 (.m 22 .nil))))))))))))))))))))))) ap11 ap11 st4.drew (fun _ _ _ _ _ h => h) ?_
 have hd4 := st4.drew
 clear st4
 refine a0o rfl rfl apW ?_
 try simp only [clL]
 refine a0o rfl rfl apW ?_
 try simp only [clL]
 refine d0f (v := ?_) rfl rfl (fun wx hS => ?_) ?_
 rotate_left 1
 ·(have hc := (b0N (HB.out.still (St.fr hS)) _ H0.out); clear hS; go_simp; with_reducible rfl)
 try simp only [clL]
 refine a0o rfl rfl apW ?_
 try simp only [clL]
 refine a0o rfl rfl apW ?_
 try simp only [clL]
 refine a0o rfl rfl apW ?_
 try simp only [clL]
 refine a0o rfl rfl apW ?_
 try simp only [clL]
 refine d0f (v := ?_) rfl rfl (fun wx hS => ?_) ?_
 rotate_left 1
 ·(have hc := (b0N (HB.out.still (St.fr hS)) _ H0.out); clear hS; go_simp; with_reducible rfl)
 try simp only [clL]
 refine a0o rfl rfl apW ?_
 try simp only [clL]
 refine a0o rfl rfl apW ?_
 try simp only [clL]
 refine a0o rfl rfl apW ?_
 try simp only [clL]
 refine c0W rfl rfl rfl rfl (cw 4 (tlN l)) (fun wx hS => St.rangeL hS 1 rfl 0 _ dZl) Tryz.underlying111 rfl ap4 ?_
 try simp only [clL]
 refine a0o rfl rfl apW ?_
 try simp only [clL]
 refine a0o rfl rfl apW ?_
 try simp only [clL]
 refine a0o rfl rfl apW ?_
 try simp only [clL]
 refine d0f (v := ?_) rfl rfl (fun wx hS => ?_) ?_
 rotate_left 1
 ·(have hc := (HCV.out.keep (St.fr hS) id).cell (i := 0) rfl; clear hS; go_simp; with_reducible rfl)
 try simp only [clL]
 refine a0o rfl rfl apW ?_
 try simp only [clL]
 refine a0o rfl rfl apW ?_
 try simp only [clL]
 refine c0W rfl rfl rfl rfl (cw 4 m.M) (fun wx hS => (HPM.out.keep (St.fr hS) id).range 0 _ (j0E m)) Tryz.underlying111 rfl ap4 ?_
 try simp only [clL]
 refine j0j rfl rfl ?_
 go_simp
 refine (f0i (tlN l) m.M _ HTN.out HOK.out.lt false HDL.out).mono ?_
 rintro e' w5 ⟨rfl, hf5⟩
 have st5 := hd4.keep hf5
 clear hf5
 clear hd4
 refine ⟨st5, ?_⟩
 try simp only [clL]
 refine a0o rfl rfl apW ?_
 try simp only [clL]
 refine a0o rfl rfl apW ?_
 try simp only [clL]
 refine h0A rfl rfl ?_
 go_simp
 try simp only [clL]
 refine e0I ?_
 refine NoPanic.normal ?_
 go_wp2_with (with_reducible refine wSk 48 ?_)
 refine c0y rfl rfl _ g0J ?_
 go_wp2_with (with_reducible refine wSn ?_)
 refine a0b st5 0 rfl rfl rfl rfl rfl (by first | (simp only; done) | (simp only [List.length_append, a0e]; done)) ap4 (b0B _ _ _) ?_
 intro w6 st6
 clear st5
 have hr := st6.at 0 rfl
 have hfr := st6.fr
 clear st6
 go_wp2_with fail
 exact bodyPost_ret (a0M rfl rfl hr Tryz.underlying117 rfl ap4 rfl) rfl ⟨by unfold ptV ptL; rw [d0R]; rfl, hfr⟩
theorem n0f (m : Md) (gc gp bx by_ : Nat) (w : World) (hok : m.Ok) (hcv : Has w gc (d0N m gp bx by_) 125) (hpm : Has w gp (mdL m) 187) (a : Option Addr) (n c : Nat) (l : List UInt8) (hb : RdB w a n l) (hc : n ≤ c) (h33 : l.length = 33) (h0 : (bs l)[0]? = some (.int .u8 3)) (hlt : decide (tlN l < m.M) = true) (r : Bool) (hr : b0S m.M (e0u (tlN l)) = r) :
  Calls Tryz.prog 140 #[.pointer (some ⟨gc, 0, none⟩), .slice a n c] w fun e w' => e = .returned (.tuple #[ptV m (tlN l) (m.M - (atY m.M (tlN l)) % m.M) 1, .bool r]) ∧ Fr Nob w w' := by
 have HOK := qH hok
 have HCV := qH hcv
 have HPM := qH hpm
 clear hok hcv hpm
 have h33n : n = 33 := by have := hb.len; omega
 subst h33n
 obtain ⟨ba, oa, rfl, -⟩ := Rd.at hb ap12
 have HB := qH hb
 have HC := qH hc
 have HT := qH (RdB.tail hb c ap12 hc)
 have H0 := qH h0
 have HTN := qH (i0x l h33)
 clear hb hc h33 h0
 have HDL := qH hlt
 clear hlt
 have HR := qH hr
 clear hr
 have st0 := St.start Nob w
 go_enter Tryz.func140, Tryz.ntmps140
 go_wp2_with (with_reducible refine wSk 4 ?_)
 refine a0a st0 rfl rfl (z := .agg (List.replicate 12 (.int .u64 0)).toArray) ap11 (cw 4 0 ++ (cw 4 0 ++ cw 4 0)) ap9 ?_
 intro g4 w1 st1
 clear st0
 have hne : (((33 : Nat) : Int) != 33) = false := by rfl
 go_wp2_with (with_reducible refine wSk 14 ?_)
 refine g0l rfl rfl Tryz.underlying22 e0U rfl 1 33 ⟨_, rfl⟩ rfl ap12 HC.out ?_
 rw [show (33 : Nat) - 1 = 32 from rfl]
 go_wp2_with fail
 refine (g0d _ _ l _ (HT.out.still st1.fr)).mono ?_
 rintro e' w2 ⟨rfl, hf2⟩
 have st2 := st1.keep hf2
 clear st1 hf2
 go_wp2_with (with_reducible refine wSk 6 ?_)
 refine a0a st2 rfl rfl (z := zAd) ap11 (cw 4 0) ap9 ?_
 intro g6 w3 st3
 clear st2
 go_wp2_with (with_reducible refine wSn ?_)
 refine a0b st3 1 rfl rfl rfl rfl rfl ap5 ap4 (a0d _ _) ?_
 intro w4 st4
 clear st3
 have hcell := b0N (HB.out.still st4.fr) _ H0.out
 go_wp2_with fail
 clear hcell
 go_wp2_with fail
 refine wp_region_noPanic ?_
 refine c0e (fun wx => St Nob w wx [(g4, cw 4 0 ++ (cw 4 0 ++ cw 4 0), 117), (g6, cw 4 (tlN l), 111)]) 22 (.w 0 (.w 1 (.t 2 (.w 3 (.w 4 (.w 5 (.w 6 (.t 7 (.w 8 (.w 9 (.w 10 (.t 11 (.w 12 (.w 13 (.w 14 (.t 15 (.w 16 (.w 17 (.t 18 (.r 19 (.w 20 (.w 21 (.m 22 .nil))))))))))))))))))))))) ap11 ap11 st4.drew (fun _ _ _ _ _ h => h) ?_
 have hd4 := st4.drew
 clear st4
 refine a0o rfl rfl apW ?_
 try simp only [clL]
 refine a0o rfl rfl apW ?_
 try simp only [clL]
 refine d0f (v := ?_) rfl rfl (fun wx hS => ?_) ?_
 rotate_left 1
 ·(have hc := (b0N (HB.out.still (St.fr hS)) _ H0.out); clear hS; go_simp; with_reducible rfl)
 try simp only [clL]
 refine a0o rfl rfl apW ?_
 try simp only [clL]
 refine a0o rfl rfl apW ?_
 try simp only [clL]
 refine a0o rfl rfl apW ?_
 try simp only [clL]
 refine a0o rfl rfl apW ?_
 try simp only [clL]
 refine d0f (v := ?_) rfl rfl (fun wx hS => ?_) ?_
 rotate_left 1
 ·(have hc := (b0N (HB.out.still (St.fr hS)) _ H0.out); clear hS; go_simp; with_reducible rfl)
 try simp only [clL]
 refine a0o rfl rfl apW ?_
 try simp only [clL]
 refine a0o rfl rfl apW ?_
 try simp only [clL]
 refine a0o rfl rfl apW ?_
 try simp only [clL]
 refine c0W rfl rfl rfl rfl (cw 4 (tlN l)) (fun wx hS => St.rangeL hS 1 rfl 0 _ dZl) Tryz.underlying111 rfl ap4 ?_
 try simp only [clL]
 refine a0o rfl rfl apW ?_
 try simp only [clL]
 refine a0o rfl rfl apW ?_
 try simp only [clL]
 refine a0o rfl rfl apW ?_
 try simp only [clL]
 refine d0f (v := ?_) rfl rfl (fun wx hS => ?_) ?_
 rotate_left 1
 ·(have hc := (HCV.out.keep (St.fr hS) id).cell (i := 0) rfl; clear hS; go_simp; with_reducible rfl)
 try simp only [clL]
 refine a0o rfl rfl apW ?_
 try simp only [clL]
 refine a0o rfl rfl apW ?_
 try simp only [clL]
 refine c0W rfl rfl rfl rfl (cw 4 m.M) (fun wx hS => (HPM.out.keep (St.fr hS) id).range 0 _ (j0E m)) Tryz.underlying111 rfl ap4 ?_
 try simp only [clL]
 refine j0j rfl rfl ?_
 go_simp
 refine (f0i (tlN l) m.M _ HTN.out HOK.out.lt true HDL.out).mono ?_
 rintro e' w5 ⟨rfl, hf5⟩
 have st5 := hd4.keep hf5
 clear hf5
 clear hd4
 refine ⟨st5, ?_⟩
 try simp only [clL]
 refine a0o rfl rfl apW ?_
 try simp only [clL]
 refine a0o rfl rfl apW ?_
 try simp only [clL]
 refine h0A rfl rfl ?_
 go_simp
 try simp only [clL]
 refine e0I ?_
 refine NoPanic.normal ?_
 go_wp2_with fail
 refine wp_region_noPanic ?_
 refine a0l (fun wx => St Nob w wx [(g4, cw 4 0 ++ (cw 4 0 ++ cw 4 0), 117), (g6, cw 4 (tlN l), 111)]) 13 (.w 0 (.w 1 (.w 2 (.w 3 (.t 4 (.t 5 (.b 6 11 (.b 7 11 (.w 8 (.w 9 (.w 10 (.r 11 (.r 12 (.m 13 .nil)))))) (.r 7 (.w 8 (.w 9 (.w 10 (.r 12 (.m 13 .nil))))))) (.r 6 (.r 7 (.w 8 (.w 9 (.w 10 (.r 12 (.m 13 .nil)))))))))))))) ap11 ap11 st5.drew (fun _ _ _ _ _ h => h) ?_
 have hd5 := st5.drew
 clear st5
 refine a0c rfl rfl apW ?_
 try simp only [clL]
 refine a0c rfl rfl apW ?_
 try simp only [clL]
 refine a0c rfl rfl apW ?_
 try simp only [clL]
 refine a0c rfl rfl apW ?_
 try simp only [clL]
 refine e0C (v := ?_) rfl rfl (fun wx hS => ?_) ?_
 rotate_left 1
 ·(have hc := (HCV.out.keep (St.fr hS) id).cell (i := 0) rfl; clear hS; go_simp; with_reducible rfl)
 try simp only [clL]
 refine a0n rfl rfl rfl rfl (cw 4 (tlN l)) (fun wx hS => St.rangeL hS 1 rfl 0 _ dZl) Tryz.underlying111 rfl ap4 ?_
 try simp only [clL]
 refine e0D (C := fun g7 wz => St Nob w wz [(g4, cw 4 0 ++ (cw 4 0 ++ cw 4 0), 117), (g6, cw 4 (tlN l), 111), (g7, cw 4 (elN m (tlN l)) ++ (cw 4 (elN m (atY m.M (tlN l))) ++ cw 4 (elN m 1)), 117)]) (F := ?_) (fun key => ?_) ?_
 rotate_left 1
 ·skip
  refine e0j rfl rfl rfl rfl ?_ ?_
  ·skip
   go_simp
   refine (d0c m gp _ HOK.out (HPM.out.keep hd5.fr id) (tlN l) HTN.out).mono ?_
   rintro e' w6 ⟨rfl, hf6⟩
   have st6 := hd5.keep hf6
   clear hf6
   refine ⟨st6, ?_⟩
   try simp only [clL]
   refine e0j rfl rfl rfl rfl ?_ ?_
   ·skip
    go_simp
    refine (t0T m gc gp bx by_ _ HOK.out (HCV.out.keep st6.fr id) (HPM.out.keep st6.fr id) (tlN l) r HR.out).mono ?_
    rintro e' w7 ⟨rfl, hf7⟩
    have st7 := st6.keep hf7
    clear hf7
    refine ⟨st7, ?_⟩
    try simp only [clL]
    refine a0c rfl rfl apW ?_
    try simp only [clL]
    refine a0c rfl rfl apW ?_
    try simp only [clL]
    refine a0c rfl rfl apW ?_
    try simp only [clL]
    refine a0r rfl rfl ?_
    refine b0m st7 rfl (z := zAc) ap11 (cw 12 0) ap9 ?_
    intro g7 w8 st8
    refine ⟨St.less st8 ap14, ?_⟩
    try simp only [clL]
    refine a0r rfl rfl ?_
    refine a0i st8 2 rfl rfl rfl rfl ap5 ap4 (b0B _ _ _) ?_
    intro w9 st9
    refine ⟨St.less st9 ap14, ?_⟩
    try simp only [Act.put]
    refine a0p rfl rfl ?_
    go_simp
    try simp only [clL]
    refine a0f ?_
    exact key g7 _ st9
   ·skip
    refine b0m st6 rfl (z := zAc) ap11 (cw 12 0) ap9 ?_
    intro g7 w10 st10
    refine ⟨St.less st10 ap14, ?_⟩
    try simp only [clL]
    refine a0r rfl rfl ?_
    go_simp
    refine (t0T m gc gp bx by_ _ HOK.out (HCV.out.keep st10.fr id) (HPM.out.keep st10.fr id) (tlN l) r HR.out).mono ?_
    rintro e' w11 ⟨rfl, hf11⟩
    have st11 := st10.keep hf11
    clear hf11
    refine ⟨St.less st11 ap14, ?_⟩
    try simp only [clL]
    refine a0c rfl rfl apW ?_
    try simp only [clL]
    refine a0c rfl rfl apW ?_
    try simp only [clL]
    refine a0c rfl rfl apW ?_
    try simp only [clL]
    refine a0r rfl rfl ?_
    refine a0i st11 2 rfl rfl rfl rfl ap5 ap4 (b0B _ _ _) ?_
    intro w12 st12
    refine ⟨St.less st12 ap14, ?_⟩
    try simp only [Act.put]
    refine a0p rfl rfl ?_
    go_simp
    try simp only [clL]
    refine a0f ?_
    exact key g7 _ st12
  ·skip
   refine b0m hd5 rfl (z := zAc) ap11 (cw 12 0) ap9 ?_
   intro g7 w13 st13
   refine ⟨St.less st13 ap14, ?_⟩
   try simp only [clL]
   refine a0r rfl rfl ?_
   go_simp
   refine (d0c m gp _ HOK.out (HPM.out.keep st13.fr id) (tlN l) HTN.out).mono ?_
   rintro e' w14 ⟨rfl, hf14⟩
   have st14 := st13.keep hf14
   clear hf14
   refine ⟨St.less st14 ap14, ?_⟩
   try simp only [clL]
   refine a0r rfl rfl ?_
   go_simp
   refine (t0T m gc gp bx by_ _ HOK.out (HCV.out.keep st14.fr id) (HPM.out.keep st14.fr id) (tlN l) r HR.out).mono ?_
   rintro e' w15 ⟨rfl, hf15⟩
   have st15 := st14.keep hf15
   clear hf15
   refine ⟨St.less st15 ap14, ?_⟩
   try simp only [clL]
   refine a0c rfl rfl apW ?_
   try simp only [clL]
   refine a0c rfl rfl apW ?_
   try simp only [clL]
   refine a0c rfl rfl apW ?_
   try simp only [clL]
   refine a0r rfl rfl ?_
   refine a0i st15 2 rfl rfl rfl rfl ap5 ap4 (b0B _ _ _) ?_
   intro w16 st16
   refine ⟨St.less st16 ap14, ?_⟩
   try simp only [Act.put]
   refine a0p rfl rfl ?_
   go_simp
   try simp only [clL]
   refine a0f ?_
   exact key g7 _ st16
 intro g7 w17 st17
 have st17 : St Nob w w17 [(g4, cw 4 0 ++ (cw 4 0 ++ cw 4 0), 117), (g6, cw 4 (tlN l), 111), (g7, cw 4 (elN m (tlN l)) ++ (cw 4 (elN m (atY m.M (tlN l))) ++ cw 4 (elN m 1)), 117)] := st17
 clear hd5
 refine NoPanic.normal ?_
 have hcell := b0N (HB.out.still st17.fr) _ H0.out
 go_wp2_with (with_reducible refine wSk 65 ?_)
 refine a0u st17 2 rfl rfl rfl Tryz.underlying117 rfl rfl ap4 ?_
 clear hcell
 go_wp2_with fail
 refine (o0h m gc gp bx by_ _ HOK.out (HCV.out.keep st17.fr id) (HPM.out.keep st17.fr id) (tlN l) (atY m.M (tlN l)) 1).mono ?_
 rintro e' w18 ⟨rfl, hf18⟩
 have st18 := st17.keep hf18
 clear st17 hf18
 go_wp2_with (with_reducible refine wSn ?_)
 refine a0b st18 2 rfl rfl rfl rfl rfl ap5 ap4 (b0B _ _ _) ?_
 intro w19 st19
 clear st18
 go_wp2_with (with_reducible refine wSk 67 ?_)
 refine a0u st19 2 rfl rfl rfl Tryz.underlying117 rfl rfl ap4 ?_
 go_wp2_with (with_reducible refine wSn ?_)
 refine a0b st19 0 rfl rfl rfl rfl rfl ap5 ap4 (b0B _ _ _) ?_
 intro w20 st20
 clear st19
 have hr := st20.at 0 rfl
 have hfr := st20.fr
 clear st20
 go_wp2_with fail
 exact bodyPost_ret (a0M rfl rfl hr Tryz.underlying117 rfl ap4 rfl) rfl ⟨by unfold ptV ptL; rfl, hfr⟩
end
section
open Go.RowKit Go.Mv Mvp Mvq
theorem j0k (l : List UInt8) (h : l.length = 33) (b : UInt8) (hb : l.getD 0 0 = b) : (bs l)[0]? = some (.int .u8 (b.toNat : Int)) := by
 cases l with
 | nil => cases h
 | cons x t =>
  have : x = b := by simpa using hb
  subst this
  rfl
theorem v0C {b : UInt8} {k : Nat} (h : b.toNat = k) : b = UInt8.ofNat k := by rw [← h]; simp
theorem j0l (l : List UInt8) (h : l.length = 33) (hb : l.getD 0 0 = 2) : (bs l)[0]? = some (.int .u8 2) := by rw [j0k l h 2 hb]; rfl
theorem j0m (l : List UInt8) (h : l.length = 33) (hb : l.getD 0 0 = 3) : (bs l)[0]? = some (.int .u8 3) := by rw [j0k l h 3 hb]; rfl
theorem n0g (l : List UInt8) (h : l.length = 33) (hb : l.getD 0 0 = 0) : (bs l)[0]? = some (.int .u8 0) := by rw [j0k l h 0 hb]; rfl
theorem q0z (b : Nat) : kc (mP.M - b % mP.M) = - kc b := by rw [d0r]; exact p0X b
theorem y0Q (n : Nat) (hr : b0S mP.M (e0u n) = true) : kc (atY mP.M n) = kc (rtV fP (e0u n)) := by unfold atY; rw [if_pos hr, d0r]
theorem t0U (x y : Nat) (h : onC (.A (kc x) (kc y))) : (l0S x y h).L = ptL mP x y 1 := rfl
attribute [local irreducible] atY rtV b0S ptL e0u tlN l0S
theorem l0V (l : List UInt8) (h : b0w l = true) : ∃ t : PT, t.pt = a0W l ∧ ∀ (gc : Nat) (a : Option Addr) (n c : Nat) (w : World), Cv w gc → RdB w a n l → n ≤ c →
  Calls Tryz.prog 140 #[.pointer (some ⟨gc, 0, none⟩), .slice a n c] w fun e w' => e = .returned (.tuple #[.agg t.L.toArray, .bool true]) ∧ Fr Nob w w' := by
 have hon := h0U h
 unfold b0w at h
 unfold a0W at *
 simp only [Bool.and_eq_true, decide_eq_true_eq] at h
 obtain ⟨h33, h⟩ := h
 by_cases h0 : l.getD 0 0 = 0
 ·rw [if_pos h0] at h
  refine ⟨noT, by rw [if_pos h0, q0h], ?_⟩
  rintro gc a n c w ⟨gp, h1, h2⟩ hb hc
  exact k0E mP gc gp gXn gYn w d0b h1 h2 a n c l hb hc h33 (n0g l h33 h0) true h
 ·rw [if_neg h0] at h hon
  simp only [Bool.and_eq_true, decide_eq_true_eq] at h
  obtain ⟨h23, hlt, hr⟩ := h
  rw [← d0r] at hlt hr
  have hy := y0Q _ hr
  rcases h23 with h2 | h3
  ·have h3 : ¬ l.getD 0 0 = 3 := by rw [h2]; decide
   rw [if_neg h3, ← hy] at hon
   refine ⟨l0S (tlN l) (atY mP.M (tlN l)) hon, ?_, ?_⟩
   ·rw [l0T, if_neg h0, if_neg h3, hy]
   ·rintro gc a n c w ⟨gp, g1, g2⟩ hb hc
    rw [t0U]
    exact n0e mP gc gp gXn gYn w d0b g1 g2 a n c l hb hc h33 (j0l l h33 h2) (decide_eq_true hlt) true hr
  ·rw [if_pos h3, ← hy, ← q0z] at hon
   refine ⟨l0S (tlN l) (mP.M - atY mP.M (tlN l) % mP.M) hon, ?_, ?_⟩
   ·rw [l0T, if_neg h0, if_pos h3, q0z, hy]
   ·rintro gc a n c w ⟨gp, g1, g2⟩ hb hc
    rw [t0U]
    exact n0f mP gc gp gXn gYn w d0b g1 g2 a n c l hb hc h33 (j0m l h33 h3) (decide_eq_true hlt) true hr
open Classical in
noncomputable def rdT (l : List UInt8) : PT := if h : b0w l = true then Classical.choose (l0V l h) else noT
theorem t0V {l : List UInt8} (h : b0w l = true) : (rdT l).pt = a0W l := by unfold rdT; rw [dif_pos h]; exact (Classical.choose_spec (l0V l h)).1
theorem k0F (l : List UInt8) (h : b0w l = true) (gc : Nat) (a : Option Addr) (n c : Nat) (w : World) (hcv : Cv w gc) (hb : RdB w a n l) (hc : n ≤ c) :
  Calls Tryz.prog 140 #[.pointer (some ⟨gc, 0, none⟩), .slice a n c] w fun e w' => e = .returned (.tuple #[.agg (rdT l).L.toArray, .bool true]) ∧ Fr Nob w w' := by
 unfold rdT; rw [dif_pos h]; exact (Classical.choose_spec (l0V l h)).2 gc a n c w hcv hb hc
theorem q0A (l : List UInt8) (h : b0w l = false) (gc : Nat) (a : Option Addr) (n c : Nat) (w : World) (hcv : Cv w gc) (hb : RdB w a n l) (hc : n ≤ c) :
  Calls Tryz.prog 140 #[.pointer (some ⟨gc, 0, none⟩), .slice a n c] w fun e w' => (∃ X Y Z, e = .returned (.tuple #[.agg (ptL mP X Y Z).toArray, .bool false])) ∧ Fr Nob w w' := by
 obtain ⟨gp, g1, g2⟩ := hcv
 unfold b0w at h
 by_cases h33 : l.length = 33
 ·rw [decide_eq_true h33, Bool.true_and] at h
  by_cases h0 : l.getD 0 0 = 0
  ·rw [if_pos h0] at h
   exact (k0E mP gc gp gXn gYn w d0b g1 g2 a n c l hb hc h33 (n0g l h33 h0) false h).mono fun _ _ t => ⟨⟨_, _, _, t.1⟩, t.2⟩
  ·rw [if_neg h0] at h
   by_cases h2 : l.getD 0 0 = 2
   ·rw [decide_eq_true (Or.inl h2), Bool.true_and] at h
    cases hlt : decide (tlN l < mP.M) with
    | false => exact (s0R mP gc gp gXn gYn w d0b g1 g2 a n c l hb hc h33 (j0l l h33 h2) hlt).mono fun _ _ t => ⟨⟨_, _, _, t.1⟩, t.2⟩
    | true =>
     rw [← d0r, hlt, Bool.true_and] at h
     exact (n0e mP gc gp gXn gYn w d0b g1 g2 a n c l hb hc h33 (j0l l h33 h2) hlt false h).mono fun _ _ t => ⟨⟨_, _, _, t.1⟩, t.2⟩
   ·by_cases h3 : l.getD 0 0 = 3
    ·rw [decide_eq_true (Or.inr h3), Bool.true_and] at h
     cases hlt : decide (tlN l < mP.M) with
     | false => exact (s0S mP gc gp gXn gYn w d0b g1 g2 a n c l hb hc h33 (j0m l h33 h3) hlt).mono fun _ _ t => ⟨⟨_, _, _, t.1⟩, t.2⟩
     | true =>
      rw [← d0r, hlt, Bool.true_and] at h
      exact (n0f mP gc gp gXn gYn w d0b g1 g2 a n c l hb hc h33 (j0m l h33 h3) hlt false h).mono fun _ _ t => ⟨⟨_, _, _, t.1⟩, t.2⟩
    ·have q0 : (((l.getD 0 0).toNat : Int) == 0) = false := by
      simp only [beq_eq_false_iff_ne, ne_eq]
      intro e
      exact h0 (v0C (k := 0) ap13)
     have q2 : (((l.getD 0 0).toNat : Int) != 2) = true := by
      simp only [bne_iff_ne, ne_eq]
      intro e
      exact h2 (v0C (k := 2) ap13)
     have q3 : (((l.getD 0 0).toNat : Int) != 3) = true := by
      simp only [bne_iff_ne, ne_eq]
      intro e
      exact h3 (v0C (k := 3) ap13)
     exact (s0Q mP gc gp gXn gYn w d0b g1 g2 a n c l hb hc h33 _ (j0k l h33 _ rfl) q0 q2 q3).mono fun _ _ t => ⟨⟨_, _, _, t.1⟩, t.2⟩
 ·exact (s0P mP gc gp gXn gYn w d0b g1 g2 a n c l hb hc h33).mono fun _ _ t => ⟨⟨_, _, _, t.1⟩, t.2⟩
theorem x0A (z : Nat) : kc (z ^ (mP.M - 2)) = c0u (kc z) := by
 rw [show mP.M - 2 = fP - 2 by rw [d0r]]
 unfold c0u
 rw [e0S]
 generalize fP - 2 = n
 rw [← f0b (z ^ n), ← f0b ((z % fP) ^ n), ← Nat.pow_mod]
theorem x0B (x y : K) : a0O (.A x y) = UInt8.ofNat (2 + y.val % 2) :: a0Q x.val := rfl
theorem j0n (s : PT) (gc : Nat) (w : World) (hcv : Cv w gc) :
  Calls Tryz.prog 88 #[.pointer (some ⟨gc, 0, none⟩), .agg s.L.toArray] w fun e w' => ∃ sv, e = .returned sv ∧ Own w' w.heap.size 5 1 sv 33 (bs (a0O s.pt)) ∧ Fr Nob w w' := by
 obtain ⟨gp, g1, g2⟩ := hcv
 cases hz : s.isO with
 | true =>
  rw [PT.isO_t hz]
  exact o0g mP gc gp gXn gYn w d0b g1 g2 s.x s.y s.z hz
 | false =>
  have hne := PT.isO_f hz
  have e : s.pt = .A (kc (s.x * (s.z ^ (mP.M - 2) * s.z ^ (mP.M - 2)))) (kc (s.y * (s.z ^ (mP.M - 2) * s.z ^ (mP.M - 2) * s.z ^ (mP.M - 2)))) := by
   show jk _ _ _ = _
   rw [s0z hne]
   simp only [a0C, x0A]
  rw [e]
  have hb := v0B mP gc gp gXn gYn w d0b g1 g2 s.x s.y s.z hz _ _ _ _ _ _ _ rfl rfl rfl rfl rfl rfl rfl
  refine hb.mono ?_
  rintro e' w' ⟨sv, h1, h2, h3⟩
  refine ⟨sv, h1, ?_, h3⟩
  rw [x0B, e0S, e0S, ← d0r]
  exact h2
end
section
open Go.RowKit Go.Mv Mvp Mvq
def c0P (ls : List (List UInt8)) : Bool := ls.all b0w
noncomputable def e0v (ls : List (List UInt8)) : List Value := ls.flatMap fun l => (rdT l).L
theorem l0W (m : Md) (x y z : Nat) : ∀ v ∈ ptL m x y z, v.oneCell' = true := b0B _ _ _
theorem f0O (ls : List (List UInt8)) (l : List UInt8) : e0v (ls ++ [l]) = e0v ls ++ (rdT l).L := by simp [e0v]
theorem q0B (ls : List (List UInt8)) (i : Nat) (h : i < ls.length) : ((e0v ls).drop (i * 12)).take (rdT (ls.getD i [])).L.length = (rdT (ls.getD i [])).L := by
 rw [PT.len]
 induction ls generalizing i with
 | nil => simp at h
 | cons l ls ih =>
  rw [e0v, List.flatMap_cons, ← e0v]
  cases i with
  | zero =>
   rw [Nat.zero_mul, List.drop_zero, List.take_append_of_le_length (by rw [PT.len]; exact Nat.le_refl _), List.take_of_length_le (by rw [PT.len]; exact Nat.le_refl _)]
   rfl
  | succ i =>
   rw [List.drop_append, PT.len, List.drop_of_length_le (by rw [PT.len]; omega), List.nil_append, show (i + 1) * 12 - 12 = i * 12 by omega, ih i (by simpa using h)]
   rfl
theorem f0P (ls : List (List UInt8)) (k : Nat) (h : k < ls.length) : c0P (ls.take (k + 1)) = (c0P (ls.take k) && b0w (ls.getD k [])) := by
 rw [List.take_succ_eq_append_getElem h, c0P, List.all_append, ← c0P]
 simp [List.getD_eq_getElem?_getD, h]
theorem g0K (ls : List (List UInt8)) (k : Nat) (h : k < ls.length) (hb : b0w (ls.getD k []) = false) : c0P ls = false := by
 rw [c0P, List.all_eq_false]
 refine ⟨ls.getD k [], ?_, by simpa using hb⟩
 rw [List.getD_eq_getElem?_getD, List.getElem?_eq_getElem h]
 exact List.getElem_mem h
theorem e0J : (Tryz.prog.info? 117).map (fun i => (i.zero, i.size, i.bytes)) = some (some (.agg (List.replicate 12 (.int .u64 0)).toArray), 12, 96) := by kernel_rfl
attribute [local irreducible] a0y lw mix cw b0q b0r b0i beN b0x a0Q a0A a0J elN mdL a0N rtN rtV b0S gXn gYn PT.L j0F j0e e0Z tbL tmR tmL dbN g0I g0t g0c dig rdT b0w a0W ptL e0v c0P a0O
theorem _root_.ap3 {p : Prop} (h : p := by first | (simp only [a0e]; done) | (simp only [List.length_append, a0e, PT.len, d0d]; done)) : p := h
theorem j0o (gk : Nat) (al : Option Addr) (n cl : Nat) (vs : List Value) (ls : List (List UInt8)) (w : World) (hv : Rd w al n vs) (hp : BParts w vs ls) (hn : n ≤ 100000) (hg : c0P ls = true) (t : PT) (hop : ∀ ap cp wx, Fr Nob w wx → Rd wx ap (ls.length * 12) (e0v ls) → Calls Tryz.prog 85 #[.slice ap ls.length cp, .pointer (some ⟨gk, 0, none⟩)] wx fun e w' => e = .returned (.agg t.L.toArray) ∧ Fr Nob wx w') :
  Calls Tryz.prog 84 #[.func (.func 85) #[] #[.pointer (some ⟨gk, 0, none⟩)], .slice al n cl] w fun e w' => ∃ sv, e = .returned (.tuple #[sv, .int .i64 0]) ∧ Own w' w.heap.size 5 1 sv 33 (bs (a0O t.pt)) ∧ Fr Nob w w' := by
 have HV := qH hv
 have HP := qH hp
 have HL := qH (show ls.length = n by rw [← hp.1, hv.len])
 have HN := qH hn
 have hnI : (n : Int) ≤ 100000 := by omega
 clear hv hp
 have HOP := qH hop
 have HGA := qH hg
 clear hop hg
 go_enter Tryz.func84, Tryz.ntmps84
 go_wp2
 go_loopw [6, 13] (fun v i wr => ∃ k : Nat, k ≤ n ∧ i = .int .i64 (k : Int) ∧ c0P (ls.take k) = true ∧ Own wr w.heap.size 117 12 v k (e0v (ls.take k)) ∧ Fr Nob w wr) (fun _ i _ => n - (intOf i).toNat)
 case atStart => exact ⟨0, Nat.zero_le _, rfl, by rw [List.take_zero]; unfold c0P; rfl, by rw [List.take_zero]; unfold e0v; exact Own.nil _ _ _ _, Fr.refl _ _⟩
 case round =>
  obtain ⟨k, hk, rfl, hgood, hown, hf⟩ := hrel
  by_cases hlt : k < n
  ·have hltI : (k : Int) < (n : Int) := by omega
   obtain ⟨b, o, rfl, hat⟩ := (HV.out.still hf).at ap13
   have hvl : k < vs.length := by rw [HV.out.len]; exact hlt
   obtain ⟨a, nn, c, hve, hcc, hrd⟩ := HP.out.2 k (vs[k]'hvl) (List.getElem?_eq_getElem hvl)
   have hc1 := hat k _ (List.getElem?_eq_getElem hvl)
   rw [hve] at hc1
   have hlk : k < ls.length := by rw [HL.out]; exact hlt
   have hts := f0P ls k hlk
   have hcs : e0v (ls.take (k + 1)) = e0v (ls.take k) ++ (rdT (ls.getD k [])).L := by
    rw [List.take_succ_eq_append_getElem hlk, f0O]
    simp [List.getD_eq_getElem?_getD, hlk]
   have hbad := g0K ls k hlk
   generalize hL : ls.getD k [] = l at *
   have HLL := qH hL
   have HRD := qH (hrd.still hf)
   have HTS := qH hts
   have HCS := qH hcs
   have HBAD := qH hbad
   have HG := qH hgood
   have HOWN := qH hown
   have HF := qH hf
   have HCC := qH hcc
   clear hL hrd hts hcs hbad hgood hown hf hat hve hcc
   have st0 := St.start Nob wr
   have HK := qH (show b0w l = true by
    cases hh : b0w l
    ·have := HBAD.out hh
     rw [HGA.out] at this
     cases this
    ·rfl)
   skip
   go_wp2_with fail
   refine (d0j _).mono ?_
   rintro e' w1 ⟨gc, rfl, hle, hcv, hf1⟩
   have st1 := st0.keep hf1
   have HCV := qH hcv
   clear hcv hle
   clear st0 hf1
   go_wp2_with fail
   refine (k0F l HK.out gc a nn c _ HCV.out (HRD.out.still st1.fr) HCC.out).mono ?_
   rintro e' w2 ⟨rfl, hf2⟩
   have st2 := st1.keep hf2
   clear st1 hf2
   go_wp2_with (with_reducible refine wSk 9 ?_)
   refine a0a st2 rfl rfl (z := .agg (List.replicate 12 (.int .u64 0)).toArray) ap11 (cw 12 0) ap9 ?_
   intro g9 w3 st3
   clear st2
   go_wp2_with (with_reducible refine wSn ?_)
   refine a0b st3 0 rfl rfl rfl rfl rfl ap3 ap6 (PT.one _) ?_
   intro w4 st4
   clear st3
   have HFS := qH st4.fr
   go_wp2_with (with_reducible refine wSk 26 ?_)
   refine a0u st4 0 rfl rfl rfl Tryz.underlying117 rfl rfl ap6 ?_
   clear st4
   go_wp2_with (with_reducible refine wSk 27 ?_)
   refine d0p rfl rfl Tryz.underlying115 e0J [.agg (rdT l).L.toArray] rfl (by simp [Value.cells, PT.len]) rfl ((rdT l).L) (by simp [Value.cells]) ?_
   intro wA hgA hfA hzA
   clear hzA
   have hfrA := HFS.out.then hfA
   have hsz := HF.out.size
   have hsz2 := hfrA.size
   have hownA := HOWN.out.still hfrA
   have hrdA : Rd wA (some ⟨w4.heap.size, 0, none⟩) (1 * 12) ((rdT l).L) := by
    have := Rd.whole hgA
    rwa [PT.len] at this
   have HRDA := qH hrdA
   have HOWNA := qH hownA
   have HFRA := qH hfrA
   clear hgA hfA hrdA hownA hfrA
   generalize w4.heap.size = gA at *
   go_wp2_with (with_reducible refine wSk 28 ?_)
   refine d0y rfl rfl Tryz.underlying115 e0J rfl ap12 HOWNA.out rfl rfl HRDA.out (PT.one _) (by unfold maxLen; omega) ap13 ap13 ?_
   intro vB wB hownB hfB hbB
   clear hbB
   have hfrB := HOWNA.out.fr (HF.out.then HFRA.out) (Nat.le_refl _) hfB
   have HFRB := qH hfrB
   rw [← HCS.out] at hownB
   have HOWNB := qH hownB
   clear hfrB hownB hfB
   go_wp2_with fail
   go_roundw
   case rel => exact ⟨k + 1, by omega, by go_num, by rw [HTS.out, HG.out, HK.out]; rfl, HOWNB.out, HFRB.out⟩
   case measure => simp [intOf]; omega
  ·have hge : ¬ ((k : Int) < (n : Int)) := by omega
   have hkn : k = ls.length := by rw [HL.out]; omega
   rw [hkn, List.take_of_length_le (Nat.le_refl _)] at hgood hown
   obtain ⟨ap, cp, rfl, -, hre, -⟩ := hown.form
   have HRE := qH hre
   have HF := qH hf
   clear hkn hgood hown hf hre
   go_wp2_with fail
   refine (d0j _).mono ?_
   rintro e w1 ⟨gc, rfl, hle, hcv, hf1⟩
   have HCV := qH hcv
   have HF1 := qH (HF.out.then hf1)
   have HRE1 := qH (HRE.out.still hf1)
   clear hle hcv hf1 HF HRE
   go_wp2_with fail
   refine (HOP.out ap cp _ HF1.out HRE1.out).mono ?_
   rintro e w2 ⟨rfl, hf2⟩
   have HCV2 := qH (HCV.out.keep hf2)
   have HF2 := qH (HF1.out.then hf2)
   clear hf2 HF1 HRE1 HCV
   go_wp2_with fail
   refine (j0n t gc _ HCV2.out).mono ?_
   rintro e w3 ⟨sv, rfl, hown3, hf3⟩
   have h2 := HF2.out.then hf3
   have ho := hown3.mono HF2.out.size
   clear hown3 hf3 HF2 HCV2
   go_wp2_with fail
   go_ret2
   exact ⟨sv, rfl, ho, h2⟩
theorem h0V (gk : Nat) (al : Option Addr) (n cl : Nat) (vs : List Value) (ls : List (List UInt8)) (w : World) (hv : Rd w al n vs) (hp : BParts w vs ls) (hn : n ≤ 100000) (hg : c0P ls = false) :
  Calls Tryz.prog 84 #[.func (.func 85) #[] #[.pointer (some ⟨gk, 0, none⟩)], .slice al n cl] w fun e w' => e = .returned (.tuple #[.slice none 0 0, .int .i64 4]) ∧ Fr Nob w w' := by
 have HV := qH hv
 have HP := qH hp
 have HL := qH (show ls.length = n by rw [← hp.1, hv.len])
 have HN := qH hn
 have hnI : (n : Int) ≤ 100000 := by omega
 clear hv hp
 have HGA := qH hg
 clear hg
 go_enter Tryz.func84, Tryz.ntmps84
 go_wp2
 go_loopw [6, 13] (fun v i wr => ∃ k : Nat, k ≤ n ∧ i = .int .i64 (k : Int) ∧ c0P (ls.take k) = true ∧ Own wr w.heap.size 117 12 v k (e0v (ls.take k)) ∧ Fr Nob w wr) (fun _ i _ => n - (intOf i).toNat)
 case atStart => exact ⟨0, Nat.zero_le _, rfl, by rw [List.take_zero]; unfold c0P; rfl, by rw [List.take_zero]; unfold e0v; exact Own.nil _ _ _ _, Fr.refl _ _⟩
 case round =>
  obtain ⟨k, hk, rfl, hgood, hown, hf⟩ := hrel
  by_cases hlt : k < n
  ·have hltI : (k : Int) < (n : Int) := by omega
   obtain ⟨b, o, rfl, hat⟩ := (HV.out.still hf).at ap13
   have hvl : k < vs.length := by rw [HV.out.len]; exact hlt
   obtain ⟨a, nn, c, hve, hcc, hrd⟩ := HP.out.2 k (vs[k]'hvl) (List.getElem?_eq_getElem hvl)
   have hc1 := hat k _ (List.getElem?_eq_getElem hvl)
   rw [hve] at hc1
   have hlk : k < ls.length := by rw [HL.out]; exact hlt
   have hts := f0P ls k hlk
   have hcs : e0v (ls.take (k + 1)) = e0v (ls.take k) ++ (rdT (ls.getD k [])).L := by
    rw [List.take_succ_eq_append_getElem hlk, f0O]
    simp [List.getD_eq_getElem?_getD, hlk]
   have hbad := g0K ls k hlk
   generalize hL : ls.getD k [] = l at *
   have HLL := qH hL
   have HRD := qH (hrd.still hf)
   have HTS := qH hts
   have HCS := qH hcs
   have HBAD := qH hbad
   have HG := qH hgood
   have HOWN := qH hown
   have HF := qH hf
   have HCC := qH hcc
   clear hL hrd hts hcs hbad hgood hown hf hat hve hcc
   have st0 := St.start Nob wr
   rcases Bool.eq_false_or_eq_true (b0w l) with hh | hh
   ·have HK := qH hh
    clear hh
    skip
    go_wp2_with fail
    refine (d0j _).mono ?_
    rintro e' w1 ⟨gc, rfl, hle, hcv, hf1⟩
    have st1 := st0.keep hf1
    have HCV := qH hcv
    clear hcv hle
    clear st0 hf1
    go_wp2_with fail
    refine (k0F l HK.out gc a nn c _ HCV.out (HRD.out.still st1.fr) HCC.out).mono ?_
    rintro e' w2 ⟨rfl, hf2⟩
    have st2 := st1.keep hf2
    clear st1 hf2
    go_wp2_with (with_reducible refine wSk 9 ?_)
    refine a0a st2 rfl rfl (z := .agg (List.replicate 12 (.int .u64 0)).toArray) ap11 (cw 12 0) ap9 ?_
    intro g9 w3 st3
    clear st2
    go_wp2_with (with_reducible refine wSn ?_)
    refine a0b st3 0 rfl rfl rfl rfl rfl ap3 ap6 (PT.one _) ?_
    intro w4 st4
    clear st3
    have HFS := qH st4.fr
    go_wp2_with (with_reducible refine wSk 26 ?_)
    refine a0u st4 0 rfl rfl rfl Tryz.underlying117 rfl rfl ap6 ?_
    clear st4
    go_wp2_with (with_reducible refine wSk 27 ?_)
    refine d0p rfl rfl Tryz.underlying115 e0J [.agg (rdT l).L.toArray] rfl (by simp [Value.cells, PT.len]) rfl ((rdT l).L) (by simp [Value.cells]) ?_
    intro wA hgA hfA hzA
    clear hzA
    have hfrA := HFS.out.then hfA
    have hsz := HF.out.size
    have hsz2 := hfrA.size
    have hownA := HOWN.out.still hfrA
    have hrdA : Rd wA (some ⟨w4.heap.size, 0, none⟩) (1 * 12) ((rdT l).L) := by
     have := Rd.whole hgA
     rwa [PT.len] at this
    have HRDA := qH hrdA
    have HOWNA := qH hownA
    have HFRA := qH hfrA
    clear hgA hfA hrdA hownA hfrA
    generalize w4.heap.size = gA at *
    go_wp2_with (with_reducible refine wSk 28 ?_)
    refine d0y rfl rfl Tryz.underlying115 e0J rfl ap12 HOWNA.out rfl rfl HRDA.out (PT.one _) (by unfold maxLen; omega) ap13 ap13 ?_
    intro vB wB hownB hfB hbB
    clear hbB
    have hfrB := HOWNA.out.fr (HF.out.then HFRA.out) (Nat.le_refl _) hfB
    have HFRB := qH hfrB
    rw [← HCS.out] at hownB
    have HOWNB := qH hownB
    clear hfrB hownB hfB
    go_wp2_with fail
    go_roundw
    case rel => exact ⟨k + 1, by omega, by go_num, by rw [HTS.out, HG.out, HK.out]; rfl, HOWNB.out, HFRB.out⟩
    case measure => simp [intOf]; omega
   ·have HK := qH hh
    clear hh
    skip
    go_wp2_with fail
    refine (d0j _).mono ?_
    rintro e' w1 ⟨gc, rfl, hle, hcv, hf1⟩
    have st1 := st0.keep hf1
    have HCV := qH hcv
    clear hcv hle
    clear st0 hf1
    go_wp2_with fail
    refine (q0A l HK.out gc a nn c _ HCV.out (HRD.out.still st1.fr) HCC.out).mono ?_
    rintro e' w2 ⟨⟨X, Y, Z, rfl⟩, hf2⟩
    have st2 := st1.keep hf2
    clear st1 hf2
    go_wp2_with (with_reducible refine wSk 9 ?_)
    refine a0a st2 rfl rfl (z := .agg (List.replicate 12 (.int .u64 0)).toArray) ap11 (cw 12 0) ap9 ?_
    intro g9 w3 st3
    clear st2
    go_wp2_with (with_reducible refine wSn ?_)
    refine a0b st3 0 rfl rfl rfl rfl rfl ap3 (by first | (rw [a0e]; kernel_rfl) | (simp only [d0d]; kernel_rfl)) (l0W _ _ _ _) ?_
    intro w4 st4
    clear st3
    have HFS := qH (HF.out.then st4.fr)
    clear st4
    go_wp2_with fail
    go_ret2
    exact ⟨rfl, HFS.out⟩
  ·exfalso
   have hkn : k = ls.length := by rw [HL.out]; omega
   rw [hkn, List.take_of_length_le (Nat.le_refl _), HGA.out] at hgood
   cases hgood
end
section
open Go.RowKit Go.Mv Mvp Mvq
theorem y0A (la : List UInt8) (ls : List (List UInt8)) : ((e0v (la :: ls)).drop 0).take (rdT la).L.length = (rdT la).L := q0B (la :: ls) 0 ap14
attribute [local irreducible] a0y lw mix cw b0q b0r b0i beN b0x a0Q a0A a0J elN mdL a0N rtN rtV b0S gXn gYn PT.L j0F j0e e0Z tbL tmR tmL dbN g0I g0t g0c dig rdT b0w a0W ptL e0v c0P a0O
theorem _root_.ap1 {p : Prop} (h : p := by first | (rw [a0e]; kernel_rfl) | (rw [PT.len]; kernel_rfl) | (rw [d0d]; kernel_rfl) | (simp only [List.length_append, a0e]; kernel_rfl) | (simp only [List.length_append, a0e, PT.len, d0d]; kernel_rfl)) : p := h
theorem s0T (la : List UInt8) (w : World) (n : Nat) (gk : Nat) (hkn : Has w gk (cw 4 n) 111) (ap : Option Addr) (cp : Nat) (hre : Rd w ap ([la].length * 12) (e0v [la])) :
  Calls Tryz.prog 85 #[.slice ap 1 cp, .pointer (some ⟨gk, 0, none⟩)] w fun e w' => e = .returned (.agg (g0c [(n, rdT la)]).L.toArray) ∧ Fr Nob w w' := by
 obtain ⟨bb, oo, rfl, -⟩ := hre.at ap14
 have HRE := qH hre
 have HKN := qH hkn
 clear hre hkn
 have st0 := St.start Nob w
 go_enter Tryz.func85, Tryz.ntmps85
 go_wp2_with (with_reducible refine wSk 3 ?_)
 refine a0a st0 rfl rfl (z := .agg (List.replicate 12 (.int .u64 0)).toArray) ap11 (cw 12 0) ap9 ?_
 intro gr w1 st1
 clear st0
 go_wp2_with fail
 refine wp_region_noPanic ?_
 refine a0l (fun wx => St Nob w wx [(gr, cw 12 0, 117)]) 6 (.t 1 (.w 2 (.w 3 (.t 4 (.r 0 (.r 5 (.m 6 .nil))))))) ap11 ap11 st1.drew (fun _ _ _ _ _ h => h) ?_
 have hd1 := st1.drew
 clear st1
 refine a0n rfl rfl rfl rfl (cw 4 n) (fun wx hS => (HKN.out.keep (St.fr hS) id).range 0 _ dZl) Tryz.underlying111 rfl ap1 ?_
 try simp only [clL]
 refine a0c rfl rfl apW ?_
 try simp only [clL]
 refine a0c rfl rfl apW ?_
 try simp only [clL]
 refine a0n rfl rfl rfl rfl ((rdT la).L) (fun wx hS => (e0l (HRE.out.still (St.fr hS)) 0 _ (y0A la []))) Tryz.underlying117 rfl ap6 ?_
 try simp only [clL]
 refine a0r rfl rfl ?_
 go_simp
 refine (d0j _).mono ?_
 rintro e' w2 ⟨gc, rfl, hle, hcv, hf2⟩
 have st2 := hd1.keep hf2
 have HCV := qH hcv
 clear hcv hle
 clear hf2
 clear hd1
 refine ⟨st2, ?_⟩
 try simp only [clL]
 refine a0r rfl rfl ?_
 go_simp
 refine (v0z n (rdT la) gc _ HCV.out).mono ?_
 rintro e' w3 ⟨rfl, hf3⟩
 have st3 := st2.keep hf3
 clear hf3
 clear st2
 refine ⟨st3, ?_⟩
 try simp only [clL]
 refine a0p rfl rfl ?_
 refine a0i st3 0 rfl rfl rfl rfl ap3 ap6 (PT.one _) ?_
 intro w4 st4
 clear st3
 try simp only [Act.put]
 refine a0f ?_
 refine NoPanic.normal ?_
 have hr := st4.at 0 rfl
 have hfr := st4.fr
 clear st4
 go_wp2_with fail
 exact bodyPost_ret (a0B rfl rfl hr Tryz.underlying117 rfl ap6) rfl ⟨rfl, hfr⟩
theorem o0i (m : Md) (hk : KindOf 1 m) (a : Option Addr) (n c : Nat) (l : List UInt8) (w : World) (hb : RdB w a n l) (h32 : l.length ≠ 32) :
  Calls Tryz.prog 83 #[.slice a n c] w fun e w' => e = .returned (.tuple #[i4 0, .bool false]) ∧ Fr Nob w w' := by
 have HK := qH hk
 have HOK := qH hk.ok
 clear hk
 have hne : ((n : Int) != 32) = true := by have := hb.len; simp; omega
 clear h32 hb
 have st0 := St.start Nob w
 go_enter Tryz.func83, Tryz.ntmps83
 go_wp2_with (with_reducible refine wSk 2 ?_)
 refine a0a st0 rfl rfl (z := zAd) ap11 (cw 4 0) ap9 ?_
 intro g2 w1 st1
 clear st0
 go_wp2_with (with_reducible refine wSk 10 ?_)
 refine c0y rfl rfl _ n0c ?_
 rw [n0d]
 go_wp2_with (with_reducible refine wSn ?_)
 refine a0b st1 0 rfl rfl rfl rfl rfl ap3 ap1 (a0d _ _) ?_
 intro w2 st2
 clear st1
 have hr := st2.at 0 rfl
 have hfr := st2.fr
 clear st2
 go_wp2_with fail
 exact bodyPost_ret (c0c rfl rfl hr Tryz.underlying111 ap1 rfl) rfl ⟨rfl, hfr⟩
theorem i0y (m : Md) (hk : KindOf 1 m) (a : Option Addr) (n c : Nat) (l : List UInt8) (w : World) (hb : RdB w a n l) (h32 : l.length = 32) (r : Bool) (hlt : decide (beN l < m.M) = r) :
  Calls Tryz.prog 83 #[.slice a n c] w fun e w' => e = .returned (.tuple #[i4 (beN l), .bool r]) ∧ Fr Nob w w' := by
 have HK := qH hk
 have HOK := qH hk.ok
 clear hk
 have hbl := e0O l ap13
 have HBL := qH hbl
 have h32' : n = 32 := by have := hb.len; omega
 subst h32'
 have HB := qH hb
 have HLT := qH hlt
 have hne : (((32 : Nat) : Int) != 32) = false := by rfl
 clear hb hbl h32 hlt
 have st0 := St.start Nob w
 go_enter Tryz.func83, Tryz.ntmps83
 go_wp2_with (with_reducible refine wSk 2 ?_)
 refine a0a st0 rfl rfl (z := zAd) ap11 (cw 4 0) ap9 ?_
 intro g2 w1 st1
 clear st0
 go_wp2_with fail
 refine (OfK HK.out _).mono ?_
 rintro e' w2 ⟨gp, rfl, hle, hm, hf2⟩
 have st2 : St Nob w w2 [(g2, cw 4 0, 111), (gp, mdL m, 187)] := st1.new hf2 hm hle
 clear st1 hf2 hm hle
 go_wp2_with fail
 refine (c0g a 32 c l _ (HB.out.still st2.fr) ap12).mono ?_
 rintro e' w3 ⟨rfl, hf3⟩
 have st3 := st2.keep hf3
 clear st2 hf3
 go_wp2_with (with_reducible refine wSk 6 ?_)
 refine a0a st3 rfl rfl (z := zAd) ap11 (cw 4 0) ap9 ?_
 intro g6 w4 st4
 clear st3
 go_wp2_with (with_reducible refine wSn ?_)
 refine a0b st4 2 rfl rfl rfl rfl rfl ap3 ap1 (a0d _ _) ?_
 intro w5 st5
 clear st4
 go_wp2_with fail
 refine wp_region_noPanic ?_
 refine a0l (fun wx => St Nob w wx [(g2, cw 4 0, 111), (gp, mdL m, 187), (g6, cw 4 (beN l), 111)]) 7 (.t 0 (.t 1 (.w 2 (.w 3 (.w 4 (.t 5 (.r 6 (.m 7 (.w 8 .nil))))))))) ap11 ap11 st5.drew (fun _ _ _ _ _ h => h) ?_
 have hd5 := st5.drew
 clear st5
 refine a0n rfl rfl rfl rfl (cw 4 (beN l)) (fun wx hS => St.rangeL hS 2 rfl 0 _ dZl) Tryz.underlying111 rfl ap1 ?_
 try simp only [clL]
 refine a0n rfl rfl rfl rfl (cw 4 (beN l)) (fun wx hS => St.rangeL hS 2 rfl 0 _ dZl) Tryz.underlying111 rfl ap1 ?_
 try simp only [clL]
 refine a0c rfl rfl apW ?_
 try simp only [clL]
 refine a0c rfl rfl apW ?_
 try simp only [clL]
 refine a0c rfl rfl apW ?_
 try simp only [clL]
 refine a0n rfl rfl rfl rfl (cw 4 m.M) (fun wx hS => St.rangeL hS 1 rfl 0 _ (j0E m)) Tryz.underlying111 rfl ap1 ?_
 try simp only [clL]
 refine a0r rfl rfl ?_
 go_simp
 refine (f0i (beN l) m.M _ HBL.out HOK.out.lt r HLT.out).mono ?_
 rintro e' w6 ⟨rfl, hf6⟩
 have st6 := hd5.keep hf6
 clear hf6
 clear hd5
 refine ⟨st6, ?_⟩
 try simp only [clL]
 refine a0p rfl rfl ?_
 refine a0i st6 0 rfl rfl rfl rfl ap3 ap1 (a0d _ _) ?_
 intro w7 st7
 clear st6
 try simp only [Act.put]
 refine a0c rfl rfl apW ?_
 try simp only [clL]
 refine a0f ?_
 refine NoPanic.normal ?_
 have hr := st7.at 0 rfl
 have hfr := st7.fr
 clear st7
 go_wp2_with fail
 exact bodyPost_ret (c0c rfl rfl hr Tryz.underlying111 ap1 rfl) rfl ⟨rfl, hfr⟩
theorem d0u {l : List UInt8} (h : a0N mQ l = true) (a : Option Addr) (n c : Nat) (w : World) (hb : RdB w a n l) : Calls Tryz.prog 83 #[.slice a n c] w fun e w' => e = .returned (.tuple #[i4 (beN l), .bool true]) ∧ Fr Nob w w' := by
 unfold a0N at h
 simp only [Bool.and_eq_true, decide_eq_true_eq] at h
 exact i0y mQ .one a n c l w hb h.1 true (decide_eq_true h.2)
theorem e0V {l : List UInt8} (h : a0N mQ l = false) (a : Option Addr) (n c : Nat) (w : World) (hb : RdB w a n l) : Calls Tryz.prog 83 #[.slice a n c] w fun e w' => (∃ N, e = .returned (.tuple #[i4 N, .bool false])) ∧ Fr Nob w w' := by
 unfold a0N at h
 by_cases h32 : l.length = 32
 ·rw [decide_eq_true h32, Bool.true_and] at h
  exact (i0y mQ .one a n c l w hb h32 false h).mono fun _ _ t => ⟨⟨_, t.1⟩, t.2⟩
 ·exact (o0i mQ .one a n c l w hb h32).mono fun _ _ t => ⟨⟨_, t.1⟩, t.2⟩
end
section
open Go.RowKit Go.Mv Mvp Mvq
theorem g0e {gp : Nat} : ((d0N mP gp gXn gYn).drop 5).take d0s.L.length = d0s.L := s0m mP gp gXn gYn
theorem k0G : (Tryz.prog.info? 22).map (fun i => (i.zero, i.size, i.bytes)) = some (some (.slice none 0 0), 1, 24) := by kernel_rfl
attribute [local irreducible] a0y lw mix cw b0q b0r b0i beN b0x a0Q a0A a0J elN mdL a0N rtN rtV b0S gXn gYn PT.L j0F j0e e0Z tbL tmR tmL dbN g0I g0t g0c dig rdT b0w a0W ptL e0v c0P a0O
theorem q0C (vk va : Value) (lk la : List UInt8) (w : World) (hpk : BPart w vk lk) (hpa : BPart w va la) (hk : a0N mQ lk = true) (hg : c0P [la] = true) :
  Calls Tryz.prog 28 #[vk, va] w fun e w' => ∃ v, e = .returned (.tuple #[v, .int .i64 0]) ∧ Own w' w.heap.size 5 1 v 33 (bs (a0O (g0c [(beN lk, rdT la)]).pt)) ∧ Fr Nob w w' := by
 have HP := qH (BParts.one hpa)
 have HA1 := qH (BPart.one hpa)
 have HK := qH hk
 obtain ⟨ak, nk, ck, rfl, -, hrk⟩ := hpk
 have HRK := qH hrk
 have HG := qH hg
 clear hg hpa hk hrk
 have st0 := St.start Nob w
 go_enter Tryz.func28, Tryz.ntmps28
 go_wp2_with fail
 refine (d0u HK.out ak nk ck _ (HRK.out.still st0.fr)).mono ?_
 rintro e' w1 ⟨rfl, hf1⟩
 have st1 := st0.keep hf1
 clear st0 hf1
 go_wp2_with (with_reducible refine wSk 6 ?_)
 refine a0a st1 rfl rfl (z := zAd) ap11 (cw 4 0) ap9 ?_
 intro gk w2 st2
 clear st1
 go_wp2_with (with_reducible refine wSn ?_)
 refine a0b st2 0 rfl rfl rfl rfl rfl ap3 ap1 (a0d _ _) ?_
 intro w3 st3
 clear st2
 have HKN := qH (st3.at 0 rfl)
 have HF1 := qH st3.fr
 clear st3
 go_wp2_with (with_reducible refine wSk 17 ?_)
 refine b0o (vs := [va]) (hgd := rfl) (ho := rfl) (hu := Tryz.underlying39) (hi0 := k0G) (hp := by rfl) (hv := (fun v hv => by simp at hv; subst hv; exact HA1.out)) (hk := by rfl) (hz := by rfl) (h := ?_)
 intro wS hgS hfS hzS
 clear hzS
 generalize w3.heap.size = gl at *
 have HF2 := qH (HF1.out.then hfS)
 have HKN2 := qH (HKN.out.keep hfS id)
 have HRD := qH (show Rd wS (some ⟨gl, 0, none⟩) 1 [va] from Rd.whole hgS)
 clear hgS hfS HF1 HKN
 go_wp2_with fail
 refine (j0o gk _ 1 1 [va] [la] _ HRD.out (HP.out.still HF2.out) ap12 HG.out (g0c [(beN lk, rdT la)]) (fun ap cp wx hfx hrx => s0T la wx (beN lk) gk (HKN2.out.keep hfx id) ap cp hrx)).mono ?_
 rintro e wE ⟨v, rfl, hown, hfE⟩
 have h3 := HF2.out.then hfE
 have ho := hown.mono HF2.out.size
 clear hown hfE HF2
 go_wp2_with fail
 go_ret2
 exact ⟨v, rfl, ho, h3⟩
theorem l0X (vk va : Value) (lk la : List UInt8) (w : World) (hpk : BPart w vk lk) (hpa : BPart w va la) (hk : a0N mQ lk = true) (hg : c0P [la] = false) :
  Calls Tryz.prog 28 #[vk, va] w fun e w' => e = .returned (.tuple #[.slice none 0 0, .int .i64 4]) ∧ Fr Nob w w' := by
 have HP := qH (BParts.one hpa)
 have HA1 := qH (BPart.one hpa)
 have HK := qH hk
 obtain ⟨ak, nk, ck, rfl, -, hrk⟩ := hpk
 have HRK := qH hrk
 have HG := qH hg
 clear hg hpa hk hrk
 have st0 := St.start Nob w
 go_enter Tryz.func28, Tryz.ntmps28
 go_wp2_with fail
 refine (d0u HK.out ak nk ck _ (HRK.out.still st0.fr)).mono ?_
 rintro e' w1 ⟨rfl, hf1⟩
 have st1 := st0.keep hf1
 clear st0 hf1
 go_wp2_with (with_reducible refine wSk 6 ?_)
 refine a0a st1 rfl rfl (z := zAd) ap11 (cw 4 0) ap9 ?_
 intro gk w2 st2
 clear st1
 go_wp2_with (with_reducible refine wSn ?_)
 refine a0b st2 0 rfl rfl rfl rfl rfl ap3 ap1 (a0d _ _) ?_
 intro w3 st3
 clear st2
 have HKN := qH (st3.at 0 rfl)
 have HF1 := qH st3.fr
 clear st3
 go_wp2_with (with_reducible refine wSk 17 ?_)
 refine b0o (vs := [va]) (hgd := rfl) (ho := rfl) (hu := Tryz.underlying39) (hi0 := k0G) (hp := by rfl) (hv := (fun v hv => by simp at hv; subst hv; exact HA1.out)) (hk := by rfl) (hz := by rfl) (h := ?_)
 intro wS hgS hfS hzS
 clear hzS
 generalize w3.heap.size = gl at *
 have HF2 := qH (HF1.out.then hfS)
 have HKN2 := qH (HKN.out.keep hfS id)
 have HRD := qH (show Rd wS (some ⟨gl, 0, none⟩) 1 [va] from Rd.whole hgS)
 clear hgS hfS HF1 HKN
 go_wp2_with fail
 refine (h0V gk _ 1 1 [va] [la] _ HRD.out (HP.out.still HF2.out) ap12 HG.out).mono ?_
 rintro e wE ⟨rfl, hfE⟩
 have h3 := HF2.out.then hfE
 clear hfE HF2
 go_wp2_with fail
 go_ret2
 exact ⟨rfl, h3⟩
theorem l0Y (vk va : Value) (lk la : List UInt8) (w : World) (hpk : BPart w vk lk) (hpa : BPart w va la) (hk : a0N mQ lk = false) :
  Calls Tryz.prog 28 #[vk, va] w fun e w' => e = .returned (.tuple #[.slice none 0 0, .int .i64 3]) ∧ Fr Nob w w' := by
 have HP := qH (BParts.one hpa)
 have HA1 := qH (BPart.one hpa)
 have HK := qH hk
 obtain ⟨ak, nk, ck, rfl, -, hrk⟩ := hpk
 have HRK := qH hrk
 clear hpa hk hrk
 have st0 := St.start Nob w
 go_enter Tryz.func28, Tryz.ntmps28
 go_wp2_with fail
 refine (e0V HK.out ak nk ck _ (HRK.out.still st0.fr)).mono ?_
 rintro e' w1 ⟨⟨N, rfl⟩, hf1⟩
 have st1 := st0.keep hf1
 clear st0 hf1
 go_wp2_with (with_reducible refine wSk 6 ?_)
 refine a0a st1 rfl rfl (z := zAd) ap11 (cw 4 0) ap9 ?_
 intro gk w2 st2
 clear st1
 go_wp2_with (with_reducible refine wSn ?_)
 refine a0b st2 0 rfl rfl rfl rfl rfl ap3 ap1 (a0d _ _) ?_
 intro w3 st3
 clear st2
 have hfr := st3.fr
 clear st3
 go_wp2_with fail
 go_ret2
 exact ⟨rfl, hfr⟩
theorem b0W (va : Value) (l : List UInt8) (w : World) (hpa : BPart w va l) (hk : b0w l = true) :
  Calls Tryz.prog 75 #[va] w fun e w' => e = .returned (.bool true) ∧ Fr Nob w w' := by
 obtain ⟨a, n, c, rfl, hcc, hrd⟩ := hpa
 have HCC := qH hcc
 have HRD := qH hrd
 have HK := qH hk
 clear hcc hrd hk
 have st0 := St.start Nob w
 go_enter Tryz.func75, Tryz.ntmps75
 go_wp2_with fail
 refine (d0j _).mono ?_
 rintro e' w1 ⟨gc, rfl, hle, hcv, hf1⟩
 have st1 := st0.keep hf1
 have HCV := qH hcv
 clear hcv hle
 clear st0 hf1
 go_wp2_with fail
 refine (k0F l HK.out gc a n c _ HCV.out (HRD.out.still st1.fr) HCC.out).mono ?_
 rintro e' w2 ⟨rfl, hf2⟩
 have st2 := st1.keep hf2
 clear st1 hf2
 go_wp2_with (with_reducible refine wSk 3 ?_)
 refine a0a st2 rfl rfl (z := .agg (List.replicate 12 (.int .u64 0)).toArray) ap11 (cw 12 0) ap9 ?_
 intro g3 w3 st3
 clear st2
 go_wp2_with (with_reducible refine wSn ?_)
 refine a0b st3 0 rfl rfl rfl rfl rfl ap3 ap6 (PT.one _) ?_
 intro w4 st4
 clear st3
 have hfr := st4.fr
 clear st4
 go_wp2_with fail
 go_ret
 exact ⟨rfl, hfr⟩
theorem d0Q (va : Value) (l : List UInt8) (w : World) (hpa : BPart w va l) (hk : b0w l = false) :
  Calls Tryz.prog 75 #[va] w fun e w' => e = .returned (.bool false) ∧ Fr Nob w w' := by
 obtain ⟨a, n, c, rfl, hcc, hrd⟩ := hpa
 have HCC := qH hcc
 have HRD := qH hrd
 have HK := qH hk
 clear hcc hrd hk
 have st0 := St.start Nob w
 go_enter Tryz.func75, Tryz.ntmps75
 go_wp2_with fail
 refine (d0j _).mono ?_
 rintro e' w1 ⟨gc, rfl, hle, hcv, hf1⟩
 have st1 := st0.keep hf1
 have HCV := qH hcv
 clear hcv hle
 clear st0 hf1
 go_wp2_with fail
 refine (q0A l HK.out gc a n c _ HCV.out (HRD.out.still st1.fr) HCC.out).mono ?_
 rintro e' w2 ⟨⟨X, Y, Z, rfl⟩, hf2⟩
 have st2 := st1.keep hf2
 clear st1 hf2
 go_wp2_with (with_reducible refine wSk 3 ?_)
 refine a0a st2 rfl rfl (z := .agg (List.replicate 12 (.int .u64 0)).toArray) ap11 (cw 12 0) ap9 ?_
 intro g3 w3 st3
 clear st2
 go_wp2_with (with_reducible refine wSn ?_)
 refine a0b st3 0 rfl rfl rfl rfl rfl ap3 (by first | (rw [a0e]; kernel_rfl) | (simp only [d0d]; kernel_rfl)) (l0W _ _ _ _) ?_
 intro w4 st4
 clear st3
 have hfr := st4.fr
 clear st4
 go_wp2_with fail
 go_ret
 exact ⟨rfl, hfr⟩
theorem v0D (w : World) : Calls Tryz.prog 29 #[] w fun e w' => ∃ v, e = .returned v ∧ Own w' w.heap.size 5 1 v 33 (bs (a0O d0s.pt)) ∧ Fr Nob w w' := by
 go_enter Tryz.func29, Tryz.ntmps29
 go_wp2_with fail
 refine (d0j _).mono ?_
 rintro e w1 ⟨gc, rfl, hle, hcv, hf1⟩
 have HCV := qH hcv
 have HF1 := qH hf1
 clear hle hcv hf1
 go_wp2_with fail
 refine (d0j _).mono ?_
 rintro e w2 ⟨gd, rfl, hle, ⟨gq, hc2, hm2⟩, hf2⟩
 have HCV2 := qH (HCV.out.keep hf2)
 have HF2 := qH (HF1.out.then hf2)
 clear hle hm2 hf2 HCV HF1
 go_wp2_with (with_reducible refine wSk 5 ?_)
 refine f0t rfl rfl Tryz.underlying117 rfl rfl (cs := d0s.L) (fun i v hv => hc2.range 5 _ g0e i v hv) (by rw [PT.len]; kernel_rfl) ?_
 clear hc2
 go_wp2_with fail
 refine (j0n d0s gc _ HCV2.out).mono ?_
 rintro e w3 ⟨v, rfl, hown, hf3⟩
 have h3 := HF2.out.then hf3
 have ho := hown.mono HF2.out.size
 clear hown hf3 HF2 HCV2
 go_wp2_with fail
 go_ret
 exact ⟨v, rfl, ho, h3⟩
end
end Go.Proofs.YtemcankmggmgoaaGreat
namespace Mvq
theorem k0H : ∀ (l : List (Nat × Pt)) (n : Nat) (p : Pt), (∀ t ∈ l, onC t.2) → onC p → d0V (l ++ [(n, p)]) = a0P (d0V l) (a0v n p)
 | [], n, p, _, _ => by show a0P (a0v n p) .O = a0P .O (a0v n p); rw [b0n]; rfl
 | (k, q) :: l, n, p, h, hp => by
  have hl : ∀ t ∈ l, onC t.2 := fun t ht => h t (List.mem_cons_of_mem _ ht)
  show a0P (a0v k q) (d0V (l ++ [(n, p)])) = a0P (a0P (a0v k q) (d0V l)) (a0v n p)
  rw [k0H l n p hl hp, a0X (a0w (h (k, q) ap14) k) (h0u l hl) (a0w hp n)]
end Mvq
namespace Go.Proofs.YtemcankmggmgoaaGreat
open Go.RowKit Go.Mv Mvp Mvq
noncomputable def l0a (l : List (Nat × PT)) : List (Nat × Pt) := l.map fun t => (t.1, t.2.pt)
theorem q0D (l : List (Nat × PT)) : ∀ t ∈ l0a l, onC t.2 := by
 intro t ht
 obtain ⟨u, _, rfl⟩ := List.mem_map.1 ht
 exact u.2.onP
theorem q0E (l : List (Nat × PT)) (i : Nat) (o : PT) : ∀ k, k ≤ l.length → (g0I l i o k).pt = a0P o.pt (d0V ((l0a (l.take k)).map fun t => (dig (63 - i) t.1, t.2)))
 | 0, _ => by show o.pt = a0P o.pt .O; rw [b0n]
 | k + 1, h => by
  have ih := q0E l i o k ap13
  have hk : k < l.length := by omega
  have e : l.take (k + 1) = l.take k ++ [f0l l k] := by
   rw [List.take_succ_eq_append_getElem hk]
   simp [f0l, List.getD_eq_getElem?_getD, hk]
  have hon : ∀ t ∈ (l0a (l.take k)).map (fun t => (dig (63 - i) t.1, t.2)), onC t.2 := by
   intro t ht
   obtain ⟨u, hu, rfl⟩ := List.mem_map.1 ht
   exact q0D _ u hu
  rw [e, l0a, List.map_append, List.map_append, ← l0a]
  show (j0F (g0I l i o k) (e0Z (f0l l k).2 (dig (63 - i) (f0l l k).1))).pt = a0P o.pt (d0V ((l0a (l.take k)).map (fun t => (dig (63 - i) t.1, t.2)) ++ [(dig (63 - i) (f0l l k).1, (f0l l k).2.pt)]))
  rw [q0f, q0k, ih, k0H _ _ _ hon (f0l l k).2.onP, a0X o.onP (h0u _ hon) (a0w (f0l l k).2.onP _)]
theorem q0F (l : List (Nat × PT)) (hn : ∀ t ∈ l, t.1 < 16 ^ 64) : ∀ i, i ≤ 64 → (g0t l i).pt = d0V (o0z (64 - i) (l0a l))
 | 0, _ => by
  show noT.pt = _
  rw [q0h]
  have : ∀ l : List (Nat × PT), (∀ t ∈ l, t.1 < 16 ^ 64) → d0V (o0z 64 (l0a l)) = .O := by
   intro l
   induction l with
   | nil => intro _; rfl
   | cons t l ih =>
    intro h
    show a0P (a0v (t.1 / 16 ^ 64) t.2.pt) (d0V (o0z 64 (l0a l))) = .O
    rw [Nat.div_eq_of_lt (h t ap14), ih fun u hu => h u (List.mem_cons_of_mem _ hu)]
    rfl
  exact (this l hn).symm
 | i + 1, h => by
  have ih := q0F l hn i ap13
  show (g0I l i (dbN (g0t l i) 4) l.length).pt = _
  rw [q0E l i _ l.length (Nat.le_refl _), x0x _ rfl, ih, List.take_of_length_le (Nat.le_refl _)]
  have := k0y (63 - i) (l0a l) (q0D l)
  rw [show 63 - i + 1 = 64 - i by omega] at this
  rw [show 64 - (i + 1) = 63 - i by omega]
  exact this.symm
theorem j0p (l : List (Nat × PT)) (hn : ∀ t ∈ l, t.1 < 16 ^ 64) : (g0c l).pt = d0V (l0a l) := by
 have h := q0F l hn 64 (Nat.le_refl _)
 rw [Nat.sub_self] at h
 have e : o0z 0 (l0a l) = l0a l := by
  unfold o0z
  conv => rhs; rw [← List.map_id (l0a l)]
  refine List.map_congr_left fun t _ => ?_
  show (t.1 / 16 ^ 0, t.2) = t
  rw [Nat.pow_zero, Nat.div_one]
 rw [e] at h
 exact h
theorem Own.part {w : World} {base : Nat} {v : Value} {l : List UInt8} (h : Own w base 5 1 v l.length (bs l)) : BPart w v l := by
 obtain ⟨a, c, rfl, hc, hr, -⟩ := h.form
 exact ⟨a, _, c, rfl, hc, by rwa [Nat.mul_one] at hr⟩
def OwnB1 (w w' : World) (v : Value) (l : List UInt8) : Prop := Own w' w.heap.size 5 1 v l.length (bs l)
theorem OwnB1.part {w w' : World} {v : Value} {l : List UInt8} (h : OwnB1 w w' v l) : BPart w' v l := Own.part h
theorem OwnB1.nil (w w' : World) : OwnB1 w w' (.slice none 0 0) [] := Own.nil _ _ _ _
theorem OwnB1.of {w w' : World} {v : Value} {l : List UInt8} {n : Nat} (h : Own w' w.heap.size 5 1 v n (bs l)) (hn : l.length = n) : OwnB1 w w' v l := by subst hn; exact h
theorem q16 : mQ.M < 16 ^ 64 := by decide
noncomputable def tS (lk la : List UInt8) : List UInt8 := if a0N mQ lk && b0w la then a0O (a0v (beN lk) (a0W la)) else []
def tC (lk la : List UInt8) : Int := if a0N mQ lk then (if b0w la then 0 else 4) else 3
theorem c0D {l : List UInt8} (h : a0N mQ l = true) : beN l < mQ.M := by
 unfold a0N at h
 simp only [Bool.and_eq_true, decide_eq_true_eq] at h
 exact h.2
theorem g0L (vk va : Value) (lk la : List UInt8) (w : World) (hpk : BPart w vk lk) (hpa : BPart w va la) :
  Calls Tryz.prog 28 #[vk, va] w fun e w' => ∃ v, e = .returned (.tuple #[v, .int .i64 (tC lk la)]) ∧ OwnB1 w w' v (tS lk la) ∧ Fr Nob w w' := by
 unfold tS tC
 cases hk : a0N mQ lk
 ·exact (l0Y vk va lk la w hpk hpa hk).mono fun e w' k => ⟨_, k.1, OwnB1.nil _ _, k.2⟩
 ·cases h : b0w la
  ·exact (l0X vk va lk la w hpk hpa hk (by simpa [c0P] using h)).mono fun e w' k => ⟨_, k.1, OwnB1.nil _ _, k.2⟩
  ·refine (q0C vk va lk la w hpk hpa hk (by simp [c0P, h])).mono fun e w' ⟨v, k1, k2, k3⟩ => ⟨v, k1, ?_, k3⟩
   have e1 : (g0c [(beN lk, rdT la)]).pt = a0v (beN lk) (a0W la) := by
    rw [j0p _ (by intro t ht; simp only [List.mem_singleton] at ht; subst ht; exact Nat.lt_trans (c0D hk) q16)]
    show a0P (a0v (beN lk) (rdT la).pt) .O = _
    rw [b0n, t0V h]
   rw [e1] at k2
   exact OwnB1.of k2 (b0b _)
def gP : Pt := .A (kc gXn) (kc gYn)
theorem v0E (w : World) : Calls Tryz.prog 29 #[] w fun e w' => ∃ v, e = .returned v ∧ OwnB1 w w' v (a0O gP) ∧ Fr Nob w w' :=
 (v0D w).mono fun e w' ⟨v, k1, k2, k3⟩ => ⟨v, k1, by rw [j0g] at k2; exact OwnB1.of k2 (b0b _), k3⟩
end Go.Proofs.YtemcankmggmgoaaGreat
namespace Mvp
theorem beN_cons (x : UInt8) (l : List UInt8) : beN (x :: l) = x.toNat * 256 ^ l.length + beN l := by
 have := i0h [x] l
 simpa [beN] using this
end Mvp
namespace Go.Proofs.YtemcankmggmgoaaGreat
open Go.RowKit Go.Mv Mvp Mvq
theorem z0h : 256 ^ 31 < mQ.M := by decide
def PtB (w : World) (a : Option Addr) (c : Nat) (p : Pt) : Prop := BPart w (.slice a 33 c) (a0O p)
theorem PtB.still {w w' : World} {a : Option Addr} {c : Nat} {p : Pt} (h : PtB w a c p) (hf : Fr Nob w w') : PtB w' a c p := BPart.still h hf
theorem PtB.of {w w' : World} {v : Value} {p : Pt} (h : OwnB1 w w' v (a0O p)) : ∃ a c, v = .slice a 33 c ∧ PtB w' a c p := by
 obtain ⟨a, n, c, rfl, hc, hr⟩ := h.part
 have : n = 33 := by have := hr.len; rw [b0b] at this; exact this.symm
 subst this
 exact ⟨a, c, rfl, a, 33, c, rfl, hc, hr⟩
theorem d0F : onC gP := by unfold gP; exact q0i
theorem wrO : a0O .O = List.replicate 33 0 := rfl
end Go.Proofs.YtemcankmggmgoaaGreat
namespace Mvq
open Mvp
def frc {α : Type} (n : Nat) (f : Nat → α) : α := Nat.rec (f 0) (fun k _ => f (k + 1)) n
theorem x0C {α : Type} (n : Nat) (f : Nat → α) : frc n f = f n := by cases n <;> rfl
def hX : Nat := 0x79BE667EF9DCBBAC55A06295CE870B07029BFCDB2DCE28D959F2815B16F81798
def hY : Nat := 0x483ADA7726A3C4655DA4FBFC0E1108A8FD17B448A68554199C47D08FFB10D4B8
def hP : Pt := .A (kc hX) (kc hY)
theorem c0X : onC hP := by
 show kc hY * kc hY = kc hX * kc hX * kc hX + 7
 decide
abbrev qN : Nat := 115792089237316195423570985008687907852837564279074904382605163141518161494337
theorem x0D : qN = pQ := by decide
def i0z (e : Nat) : Nat → Nat → Nat → Nat → Bool
 | 0, X, Y, Z => !(Z % fP == 0) && X % fP == hX * Z % fP && (Y + hY * Z) % fP == 0
 | k + 1, X, Y, Z =>
  !(Z % fP == 0) &&
  frc (3 * (X * X) % fP) fun d => frc (2 * Y * Z % fP) fun u => frc (u * u % fP) fun uu => frc (uu * u % fP) fun uuu => frc ((d * d * Z + (fP - 2 * X * uu % fP)) % fP) fun t =>
  frc (u * t % fP) fun X' => frc ((d * (X * uu + (fP - t % fP)) + (fP - Y * uuu % fP)) % fP) fun Y' => frc (uuu * Z % fP) fun Z' =>
  if e / 2 ^ k % 2 = 1 then
   !(Z' % fP == 0) && 
   frc ((hY * Z' + (fP - Y' % fP)) % fP) fun d => frc ((hX * Z' + (fP - X' % fP)) % fP) fun u => !(u % fP == 0) && frc (u * u % fP) fun uu => frc (uu * u % fP) fun uuu => frc ((d * d * Z' + (fP - uuu % fP) + (fP - 2 * X' * uu % fP)) % fP) fun t =>
   frc (u * t % fP) fun X2 => frc ((d * (X' * uu + (fP - t % fP)) + (fP - Y' * uuu % fP)) % fP) fun Y2 => frc (uuu * Z' % fP) fun Z2 => i0z e k X2 Y2 Z2
  else i0z e k X' Y' Z'
theorem v0F : i0z (qN - 1) 255 hX hY 1 = true := by decide +kernel
theorem x0E (a b : Nat) (h : a % fP = b % fP) : kc a = kc b := by rw [← f0b a, h, f0b]
theorem s0U (a : Nat) (h : a % fP ≠ 0) : kc a ≠ 0 := by
 intro e
 have := p0Y a
 rw [e, decide_eq_true rfl] at this
 exact h (by simpa using this)
theorem l0b (a : Nat) : kc (a % fP) = kc a := f0b a
theorem j0q (e : Nat) : ∀ (k X Y Z : Nat), i0z e k X Y Z = true → nm (kc X) (kc Y) (kc Z) = a0v (e / 2 ^ k) hP → a0v e hP = c0U hP
 | 0, X, Y, Z, h, hp => by
  simp only [i0z, Bool.and_eq_true, Bool.not_eq_true', beq_iff_eq, beq_eq_false_iff_ne, ne_eq] at h
  obtain ⟨⟨hz, hx⟩, hy⟩ := h
  rw [Nat.pow_zero, Nat.div_one] at hp
  rw [← hp]
  have hx' := x0E _ _ hx
  rw [a0C] at hx'
  have hy' : kc (Y + hY * Z) = 0 := by
   have := p0Y (Y + hY * Z)
   rw [hy] at this
   simpa using this
  rw [h0t, a0C] at hy'
  exact p0Z (s0U _ hz) hx' (by grind -lia -linarith)
 | k + 1, X, Y, Z, h, hp => by
  have hon : onC (nm (kc X) (kc Y) (kc Z)) := by rw [hp]; exact a0w c0X _
  simp only [i0z, x0C, Bool.and_eq_true, Bool.not_eq_true', beq_eq_false_iff_ne, ne_eq] at h
  obtain ⟨hz, h⟩ := h
  have hd := q0a hon (s0U _ hz) _ _ _ _ _ _ rfl rfl rfl rfl rfl rfl
  rw [hp] at hd
  have hbit := s0A c0X e k
  generalize hd0 : 3 * (X * X) % fP = d at h
  generalize hu0 : 2 * Y * Z % fP = u at h
  generalize huu : u * u % fP = uu at h
  generalize huuu : uu * u % fP = uuu at h
  generalize ht : (d * d * Z + (fP - 2 * X * uu % fP)) % fP = t at h
  generalize hX' : u * t % fP = X' at h
  generalize hY' : (d * (X * uu + (fP - t % fP)) + (fP - Y * uuu % fP)) % fP = Y' at h
  generalize hZ' : uuu * Z % fP = Z' at h
  have k2 : kc 2 = 2 := by decide
  have k3' : kc 3 = 3 := by decide
  have d1 : kc d = 3 * (kc X * kc X) := by rw [← hd0, l0b, a0C, a0C, k3']
  have u1 : kc u = 2 * kc Y * kc Z := by rw [← hu0, l0b, a0C, a0C, k2]
  have uu1 : kc uu = kc u * kc u := by rw [← huu, l0b, a0C]
  have uuu1 : kc uuu = kc uu * kc u := by rw [← huuu, l0b, a0C]
  have t1 : kc t = kc d * kc d * kc Z - 2 * kc X * kc uu := by rw [← ht, l0b, d0e, a0C, a0C, a0C, a0C, k2]
  have X1 : kc X' = kc u * kc t := by rw [← hX', l0b, a0C]
  have Y1 : kc Y' = kc d * (kc X * kc uu - kc t) - kc Y * kc uuu := by rw [← hY', l0b, d0e, a0C, d0e, a0C, a0C]
  have Z1 : kc Z' = kc uuu * kc Z := by rw [← hZ', l0b, a0C]
  rw [← d1, ← u1, ← uu1, ← uuu1, ← t1, ← X1, ← Y1, ← Z1] at hd
  rw [← hd] at hbit
  clear d1 u1 uu1 uuu1 t1 X1 Y1 Z1 hd0 hu0 huu huuu ht hX' hY' hZ'
  have hon' : onC (nm (kc X') (kc Y') (kc Z')) := by rw [hd]; exact b0U (a0w c0X _) (a0w c0X _)
  by_cases hb : e / 2 ^ k % 2 = 1
  ·rw [if_pos hb] at h hbit
   simp only [Bool.and_eq_true, Bool.not_eq_true', beq_eq_false_iff_ne, ne_eq] at h
   obtain ⟨hz', hu', h⟩ := h
   have one : kc 1 = 1 := by decide
   have hnP : nm (kc hX) (kc hY) (kc 1) = hP := p0Z ap12 (by rw [one]; grind -lia -linarith) (by rw [one]; grind -lia -linarith)
   have hs := v0m (X2 := kc hX) (Y2 := kc hY) (Z2 := kc 1) hon' (by rw [hnP]; exact c0X) (s0U _ hz') ap12 (kc (hY * Z')) (kc (hX * Z')) (kc Y') (kc X') (kc (hY * Z') - kc Y') (kc (hX * Z') - kc X') (kc Z') _ _ _ (a0C _ _) (a0C _ _) (by rw [one]; grind -lia -linarith) (by rw [one]; grind -lia -linarith) rfl rfl
    (by rw [← d0e]; exact s0U _ (by rw [Nat.mod_mod] at hu'; exact hu')) (by rw [one]; grind -lia -linarith) rfl rfl rfl
   rw [hnP] at hs
   generalize hd0 : (hY * Z' + (fP - Y' % fP)) % fP = d at h
   generalize hu0 : (hX * Z' + (fP - X' % fP)) % fP = u at h
   generalize huu : u * u % fP = uu at h
   generalize huuu : uu * u % fP = uuu at h
   generalize ht : (d * d * Z' + (fP - uuu % fP) + (fP - 2 * X' * uu % fP)) % fP = t at h
   have d1 : kc d = kc (hY * Z') - kc Y' := by rw [← hd0, l0b, d0e]
   have u1 : kc u = kc (hX * Z') - kc X' := by rw [← hu0, l0b, d0e]
   have uu1 : kc uu = kc u * kc u := by rw [← huu, l0b, a0C]
   have uuu1 : kc uuu = kc uu * kc u := by rw [← huuu, l0b, a0C]
   have t1 : kc t = kc d * kc d * kc Z' - kc uuu - 2 * kc X' * kc uu := by rw [← ht, l0b, d0e, d0e, a0C, a0C, a0C, a0C, k2]
   rw [← d1, ← u1, ← uu1, ← uuu1, ← t1] at hs
   refine j0q e k _ _ _ h ?_
   rw [hbit, ← hs, l0b, l0b, l0b, a0C, d0e, a0C, d0e, a0C, a0C, a0C]
  ·rw [if_neg hb] at h hbit
   rw [b0n] at hbit
   exact j0q e k _ _ _ h hbit.symm
theorem x0F : a0v qN hP = .O := by
 have one : kc 1 = 1 := by decide
 have hnP : nm (kc hX) (kc hY) (kc 1) = hP := p0Z ap12 (by rw [one]; grind -lia -linarith) (by rw [one]; grind -lia -linarith)
 have h := j0q (qN - 1) 255 hX hY 1 v0F (by rw [hnP, show (qN - 1) / 2 ^ 255 = 1 by decide]; rfl)
 have e : qN = (qN - 1) + 1 := by decide
 rw [e]
 show a0P (a0v (qN - 1) hP) hP = .O
 rw [h, c0d]
 exact c0a
theorem d0G {a b c : Pt} (ha : onC a) (hb : onC b) (hc : onC c) (h : a0P a b = a0P a c) : b = c := by
 have h1 : a0P (c0U a) (a0P a b) = a0P (c0U a) (a0P a c) := by rw [h]
 rw [← a0X (b0L ha) ha hb, ← a0X (b0L ha) ha hc, c0d (c0U a) a, c0a] at h1
 exact h1
theorem e0K {a b : Pt} (ha : onC a) (hb : onC b) (h : a0P a b = .O) : b = c0U a := d0G ha hb (b0L ha) (by rw [h, c0a])
theorem x0G {p : Pt} (hp : onC p) (h : a0P p p = .O) : p = .O := by
 have e := e0K hp hp h
 cases p with
 | O => rfl
 | A x y =>
  exfalso
  have hy : y = -y := by
   have : Pt.A x y = Pt.A x (-y) := e
   injection this
  have h2 : (2 : K) * y = 0 := by grind -lia -linarith
  exact (a0x h2).elim i0s (s0y hp)
theorem e0a {a b c d : Pt} (ha : onC a) (hb : onC b) (hc : onC c) (hd : onC d) : a0P (a0P a b) (a0P c d) = a0P (a0P a c) (a0P b d) := by
 rw [a0X ha hb (b0U hc hd), ← a0X hb hc hd, c0d b c, a0X hc hb hd, ← a0X ha hc (b0U hb hd)]
def InH (p : Pt) : Prop := ∃ n, p = a0v n hP
theorem InH.on {p : Pt} (h : InH p) : onC p := by obtain ⟨n, rfl⟩ := h; exact a0w c0X n
theorem InH.add {p q : Pt} (h : InH p) (k : InH q) : InH (a0P p q) := by
 obtain ⟨m, rfl⟩ := h
 obtain ⟨n, rfl⟩ := k
 exact ⟨m + n, (b0K c0X m n).symm⟩
theorem s0V (n : Nat) : a0v (qN * n) hP = .O := by rw [d0P c0X, x0F, i0u]
theorem InH.neg {p : Pt} (h : InH p) : InH (c0U p) := by
 obtain ⟨n, rfl⟩ := h
 refine ⟨(qN - 1) * n, (e0K (a0w c0X n) (a0w c0X _) ?_).symm⟩
 rw [← b0K c0X, show n + (qN - 1) * n = qN * n by have h := Nat.add_mul 1 (qN - 1) n; rw [Nat.one_mul, show 1 + (qN - 1) = qN by decide] at h; exact h.symm, s0V]
theorem InH.half {p : Pt} (hp : onC p) (h : InH (a0P p p)) : InH p := by
 obtain ⟨n, hn⟩ := h
 have hm : onC (a0v (n * ((qN + 1) / 2)) hP) := a0w c0X _
 have e : a0P (a0v (n * ((qN + 1) / 2)) hP) (a0v (n * ((qN + 1) / 2)) hP) = a0v n hP := by
  rw [← b0K c0X, ← Nat.mul_add, show (qN + 1) / 2 + (qN + 1) / 2 = qN + 1 by decide, Nat.mul_add, Nat.mul_one, b0K c0X, Nat.mul_comm n, s0V]
  rfl
 refine ⟨n * ((qN + 1) / 2), ?_⟩
 have h2 : a0P (a0P p (c0U (a0v (n * ((qN + 1) / 2)) hP))) (a0P p (c0U (a0v (n * ((qN + 1) / 2)) hP))) = .O := by
  rw [e0a hp (b0L hm) hp (b0L hm), hn, ← e, e0a hm hm (b0L hm) (b0L hm), c0a]
  rfl
 have h3 := x0G (b0U hp (b0L hm)) h2
 have h4 : a0P (c0U (a0v (n * ((qN + 1) / 2)) hP)) p = a0P (c0U (a0v (n * ((qN + 1) / 2)) hP)) (a0v (n * ((qN + 1) / 2)) hP) := by
  rw [c0d, h3, c0d, c0a]
 exact d0G (b0L hm) hp hm h4
theorem s0W {i j : Nat} (hi : i < qN) (hj : j < qN) (h : a0v i hP = a0v j hP) : i = j := by
 have key : ∀ i j : Nat, j < qN → i < j → a0v i hP = a0v j hP → False := by
  intro i j hj hij h
  have hd : a0v (j - i) hP = .O := by
   refine d0G (a0w c0X i) (a0w c0X _) trivial ?_
   rw [← b0K c0X, show i + (j - i) = j by omega, ← h, b0n]
  have hq := x0D
  have hinv := FP.inv y0P (a := j - i) ap13 ap13
  have e1 : a0v ((j - i) * ((j - i) ^ (pQ - 2) % pQ)) hP = .O := by rw [d0P c0X, hd, i0u]
  generalize (j - i) * ((j - i) ^ (pQ - 2) % pQ) = m at *
  rw [← hq] at hinv
  have hm := Nat.div_add_mod m qN
  rw [hinv] at hm
  rw [← hm, b0K c0X, s0V] at e1
  have e2 : a0P (.O) (a0v 1 hP) = hP := rfl
  rw [e2] at e1
  cases e1
 rcases Nat.lt_trichotomy i j with k | k | k
 ·exact (key i j hj k h).elim
 ·exact k
 ·exact (key j i hi k h.symm).elim
theorem pig (N B : Nat) (g : Nat → Nat) (hb : ∀ a, a < N → g a < B) (hi : ∀ a b, a < N → b < N → g a = g b → a = b) : N ≤ B := by
 have hnd : ((List.range N).map g).Nodup := by
  refine List.pairwise_map.2 ?_
  have h0 : (List.range N).Nodup := List.nodup_range
  refine List.Pairwise.imp_of_mem (fun {a b} ha hb' hne => ?_) h0
  exact fun e => hne (hi a b (List.mem_range.1 ha) (List.mem_range.1 hb') e)
 have hs : (List.range N).map g ⊆ List.range B := by
  intro x hx
  obtain ⟨a, ha, rfl⟩ := List.mem_map.1 hx
  exact List.mem_range.2 (hb a (List.mem_range.1 ha))
 have := List.Nodup.length_le_of_subset hnd hs
 simpa using this
def enc : Pt → Nat
 | .O => 0
 | .A x y => 1 + 2 * x.val + y.val % 2
theorem x0H (p : Pt) : enc p < 2 * fP + 1 := by
 cases p with
 | O => show 0 < 2 * fP + 1; omega
 | A x y => have := x.isLt; show 1 + 2 * x.val + y.val % 2 < 2 * fP + 1; omega
theorem v0G {p q : Pt} (hp : onC p) (hq : onC q) (h : enc p = enc q) : p = q := by
 cases p with
 | O => cases q with
  | O => rfl
  | A x y => have h' : 0 = 1 + 2 * x.val + y.val % 2 := h; omega
 | A x y => cases q with
  | O => have h' : 1 + 2 * x.val + y.val % 2 = 0 := h; omega
  | A x' y' =>
   have h' : 1 + 2 * x.val + y.val % 2 = 1 + 2 * x'.val + y'.val % 2 := h
   have hx : x = x' := Fin.ext ap13
   have hy : y.val % 2 = y'.val % 2 := by omega
   subst hx
   have hp' : y * y = x * x * x + 7 := hp
   have hq' : y' * y' = x * x * x + 7 := hq
   rcases q0e (hp'.trans hq'.symm) with e | e
   ·rw [e]
   ·exfalso
    rw [e, h0w y' (s0y hq')] at hy
    omega
theorem v0H : ¬ 3 * qN ≤ 2 * fP + 1 := by decide
theorem y0B {p : Pt} (hp : onC p) : InH p := by
 refine Classical.byContradiction fun hn => ?_
 have hnp := b0L hp
 let c : Nat → Pt := fun k => if k = 0 then .O else if k = 1 then p else c0U p
 have hc : ∀ k, onC (c k) := fun k => by
  show onC (if k = 0 then .O else if k = 1 then p else c0U p)
  split
  ·trivial
  ·split
   ·exact hp
   ·exact hnp
 have hsub : ∀ a b : Pt, onC a → onC b → ∀ i j, a0P a (a0v i hP) = a0P b (a0v j hP) → InH (a0P a (c0U b)) := by
  intro a b ha hb i j h
  have hI := a0w c0X i
  have hJ := a0w c0X j
  obtain ⟨m, hm⟩ := InH.add (p := a0v j hP) (q := c0U (a0v i hP)) ⟨j, rfl⟩ (InH.neg ⟨i, rfl⟩)
  refine ⟨m, ?_⟩
  rw [← hm]
  have e1 : a0P (a0P a (a0v i hP)) (a0P (c0U b) (c0U (a0v i hP))) = a0P (a0P b (a0v j hP)) (a0P (c0U b) (c0U (a0v i hP))) := by rw [h]
  rw [e0a ha hI (b0L hb) (b0L hI), e0a hb hJ (b0L hb) (b0L hI), c0a, c0a, b0n] at e1
  exact e1
 have hdiff : ∀ k l, k < 3 → l < 3 → InH (a0P (c k) (c0U (c l))) → k = l := by
  have h0 : c 0 = .O := rfl
  have h1 : c 1 = p := rfl
  have h2 : c 2 = c0U p := rfl
  have nn : c0U (c0U p) = p := (e0K hnp hp (by rw [c0d, c0a])).symm
  have hneg : InH (c0U p) → InH p := fun h => by have := h.neg; rwa [nn] at this
  intro k l hk hl h
  have hk3 : k = 0 ∨ k = 1 ∨ k = 2 := by omega
  have hl3 : l = 0 ∨ l = 1 ∨ l = 2 := by omega
  rcases hk3 with rfl | rfl | rfl <;> rcases hl3 with rfl | rfl | rfl <;> try rfl
  ·rw [h0, h1] at h; exact (hn (hneg h)).elim
  ·rw [h0, h2, nn] at h; exact (hn h).elim
  ·rw [h0, h1] at h; exact (hn (by have h' : InH (a0P p .O) := h; rwa [b0n] at h')).elim
  ·rw [h1, h2, nn] at h; exact (hn (InH.half hp h)).elim
  ·rw [h0, h2] at h; exact (hn (hneg (by have h' : InH (a0P (c0U p) .O) := h; rwa [b0n] at h'))).elim
  ·rw [h1, h2] at h; exact (hn (hneg (InH.half hnp h))).elim
 have hq : 0 < qN := by decide
 have h3 := v0H
 generalize hqn : qN = q at hq h3
 refine h3 (pig (3 * q) (2 * fP + 1) (fun m => enc (a0P (c (m / q)) (a0v (m % q) hP))) (fun a _ => x0H _) ?_)
 intro a b ha hb h
 have ha3 : a / q < 3 := Nat.div_lt_of_lt_mul (by rw [Nat.mul_comm]; exact ha)
 have hb3 : b / q < 3 := Nat.div_lt_of_lt_mul (by rw [Nat.mul_comm]; exact hb)
 have e := v0G (b0U (hc _) (a0w c0X _)) (b0U (hc _) (a0w c0X _)) h
 have ek := hdiff _ _ ha3 hb3 (hsub _ _ (hc _) (hc _) _ _ e)
 rw [ek] at e
 have e2 := d0G (hc _) (a0w c0X _) (a0w c0X _) e
 have hma := Nat.mod_lt a hq
 have hmb := Nat.mod_lt b hq
 rw [← hqn] at hma hmb e2
 have e3 := s0W hma hmb e2
 rw [hqn] at e3
 rw [← Nat.div_add_mod a q, ← Nat.div_add_mod b q, ek, e3]
theorem t0W {p : Pt} (hp : onC p) : a0v qN p = .O := by
 obtain ⟨n, rfl⟩ := y0B hp
 rw [← d0P c0X, Nat.mul_comm, s0V]
theorem f0Q {p : Pt} (hp : onC p) (n : Nat) : a0v (n % qN) p = a0v n p := by
 have h := Nat.div_add_mod n qN
 conv => rhs; rw [← h, b0K hp, d0P hp, t0W hp, i0u]
 rfl
theorem j0r {p : Pt} (hp : onC p) (n : Nat) : a0v (qN - n % qN) p = c0U (a0v n p) := by
 refine e0K (a0w hp n) (a0w hp _) ?_
 rw [← f0Q hp n, ← b0K hp]
 have := Nat.mod_lt n (show 0 < qN by decide)
 rw [show n % qN + (qN - n % qN) = qN by omega, t0W hp]
end Mvq
namespace Mvq
theorem s0X {a b : Pt} (ha : onC a) (hb : onC b) : c0U (a0P a b) = a0P (c0U a) (c0U b) := by
 refine (e0K (b0U ha hb) (b0U (b0L ha) (b0L hb)) ?_).symm
 rw [e0a ha hb (b0L ha) (b0L hb), c0a, c0a]
 rfl
theorem y0C {a b : Pt} (ha : onC a) (hb : onC b) : a0P a (c0U b) = .O ↔ a = b := by
 constructor
 ·intro h
  refine d0G (b0L hb) ha hb ?_
  rw [c0d, h, c0d, c0a]
 ·rintro rfl
  exact c0a
theorem v0I {A R C : Pt} (hA : onC A) (hR : onC R) (hC : onC C) : a0P A (a0P (c0U R) (c0U C)) = .O ↔ A = a0P R C := by
 rw [← s0X hR hC]
 exact y0C hA (b0U hR hC)
theorem j0s {p : Pt} (hp : onC p) (k c x : Nat) : a0v ((k + c * x) % qN) p = a0P (a0v k p) (a0v c (a0v x p)) := by
 rw [f0Q hp, b0K hp, Nat.mul_comm c x, d0P hp]
theorem q0G {p : Pt} (hp : onC p) (k c x : Nat) : a0P (a0v ((k + c * x) % qN) p) (c0U (a0v c (a0v x p))) = a0v k p := by
 rw [j0s hp, a0X (a0w hp k) (a0w (a0w hp x) c) (b0L (a0w (a0w hp x) c)), c0a, b0n]
theorem q0H {p : Pt} (hp : onC p) : a0v (qN - 1 % qN) p = c0U p := by
 rw [j0r hp]
 rfl
end Mvq
namespace Go.Proofs.YtemcankmggmgoaaGreat
open Go.RowKit Go.Mv Mvp Mvq
def n0h (st label : List UInt8) : Nat := beN (a0H (c0z y0j [st, label]) 31 64) % mQ.M
def f0j (st : List UInt8) : Nat := n0h st h0g
def chN (label : List UInt8) (parts : List (List UInt8)) : Nat := beN (a0H (c0z label parts) 31 64) % mQ.M
theorem v0J (st label : List UInt8) : n0h st label < mQ.M := Nat.mod_lt _ ap12
theorem t0X (label : List UInt8) (parts : List (List UInt8)) : chN label parts < mQ.M := Nat.mod_lt _ ap12
def b0E (pub first text : List UInt8) : Nat := f0j (c0B (y0k w0J) [(r0P, pub), (l0y, first), (w0K, text)])
def c0Y (base a b first second : List UInt8) : Nat := f0j (c0B (y0k w0L) [(w0M, base), (kAS, a), (kBS, b), (l0y, first), (r0Q, second)])
def c0E (commit first : List UInt8) : Nat := f0j (c0B (y0k w0N) [(r0R, commit), (l0y, first)])
def d0H (l : List UInt8) : Bool := a0N mQ l && !decide (beN l = 0)
noncomputable def sgF (key text : List UInt8) : List UInt8 := a0O (a0v (chN b0T [key, text]) gP)
noncomputable def sgZ (key text : List UInt8) : Nat := (chN b0T [key, text] + b0E (a0O (a0v (beN key) gP)) (sgF key text) text * beN key) % mQ.M
noncomputable def sgE (key : List UInt8) : Int := if d0H key = true then 0 else 3
noncomputable def sgS (key text : List UInt8) : List UInt8 := if d0H key = true then sgF key text ++ a0Q (sgZ key text) else []
def b0g (l : List UInt8) : Bool := b0w l && !decide (l.getD 0 0 = 0)
open Classical in
noncomputable def veB (pub text s : List UInt8) : Bool := b0g pub && decide (s.length = 65) && b0w (s.take 33) && a0N mQ (s.drop 33) && decide (a0v (beN (s.drop 33)) gP = a0P (a0W (s.take 33)) (a0v (b0E pub (s.take 33) text) (a0W pub)))
noncomputable def smC (key point : List UInt8) : Nat := c0Y point (a0O (a0v (beN key) gP)) (a0O (a0v (beN key) (a0W point))) (a0O (a0v (chN a0t [key, point]) gP)) (a0O (a0v (chN a0t [key, point]) (a0W point)))
noncomputable def smE (key point : List UInt8) : Int := if d0H key = true then (if b0g point = true then 0 else 4) else 3
noncomputable def smS (key point : List UInt8) : List UInt8 := if d0H key = true then (if b0g point = true then a0Q (smC key point) ++ a0Q ((chN a0t [key, point] + smC key point * beN key) % mQ.M) else []) else []
noncomputable def vsB (a point b s : List UInt8) : Bool := b0g a && b0g point && b0g b && decide (s.length = 64) && a0N mQ (s.take 32) && a0N mQ (s.drop 32) &&
 decide (c0Y point a b (a0O (a0P (a0v (beN (s.drop 32)) gP) (c0U (a0v (beN (s.take 32)) (a0W a))))) (a0O (a0P (a0v (beN (s.drop 32)) (a0W point)) (c0U (a0v (beN (s.take 32)) (a0W b))))) = beN (s.take 32))
end Go.Proofs.YtemcankmggmgoaaGreat
namespace Mvt
variable {α : Type} (nd : α → α → α)
def half (n : Nat) : Nat := 2 ^ Nat.log2 (n - 1)
def skip (a e : Nat) : Nat × Nat := if a % 2 = 0 ∧ 0 < a then skip (a / 2) (e / 2) else (a, e)
termination_by a
decreasing_by omega
end Mvt
namespace Go.Proofs.YtemcankmggmgoaaGreat
open Go.RowKit Go.Mv Mvp Mvt
attribute [local irreducible] b0k b0u toB a0z a0E b0s a0H c0n b0l a0F c0z
theorem q0I (a : Option Addr) (n c : Nat) (l : List UInt8) (a' : Option Addr) (n' c' : Nat) (l' : List UInt8) (w : World) (hb : RdB w a n l) (hb' : RdB w a' n' l') :
  Calls Tryz.prog 76 #[.slice a n c, .slice a' n' c'] w fun r w' => r = .returned (.bool (decide (l = l'))) ∧ w = w' := by
 have x1 := h0Z hb c Tryz.underlying22 Tryz.underlying5 Tryz.underlying9
 have x2 := h0Z hb' c' Tryz.underlying22 Tryz.underlying5 Tryz.underlying9
 go_enter Tryz.func76, Tryz.ntmps76
 go_wp2_with fail
 go_ret
 exact ⟨r0x (u0l _ _), rfl⟩
end Go.Proofs.YtemcankmggmgoaaGreat
namespace Mvp
end Mvp
namespace Go.Mv
open Mvp
end Go.Mv
namespace Go.Proofs.YtemcankmggmgoaaGreat
section
open Go.RowKit Go.Mv Mvp Mvt
attribute [local irreducible] b0k b0u toB a0z a0E b0s a0H c0n b0l a0F c0z
end
section
open Go.RowKit Go.Mv Mvp Mvt
attribute [local irreducible] b0k b0u toB a0z a0E b0s a0H c0n b0l a0F c0z
end
end Go.Proofs.YtemcankmggmgoaaGreat
namespace Mvp
end Mvp
namespace Go.Proofs.YtemcankmggmgoaaGreat
section
open Go.RowKit Go.Mv Mvp
attribute [local irreducible] b0k b0u toB a0z a0E b0s a0H c0n b0l a0F c0z
theorem q0J (b : Option Addr) (n c : Nat) (l : List UInt8) (m : Nat) (w : World) (hn : n ≤ 1000000) (hnc : n ≤ c) (hm : m ≤ 16384) (hb : RdB w b n l) (ho : Old w b) :
  Calls Tryz.prog 114 #[.slice b n c, .int .i64 (m : Int)] w fun r w' => ∃ v, r = .returned (.tuple #[v, .int .i64 0]) ∧ Own w' w.heap.size 5 1 v m (bs (a0H l 31 m)) ∧ Fr Nob w w' := by
 refine (n0L b n c l m w hn hnc hb ho).mono ?_
 rintro r w' (⟨_, _, v, h1, h2, h3⟩ | ⟨h, _⟩)
 ·exact ⟨v, h1, by simpa using h2, h3⟩
 ·omega
end
section
open Go.RowKit Go.Mv Mvp
def AllPost (m : Md) (ls : List (List UInt8)) (w : World) (e : Ending) (w' : World) : Prop :=
 (a0L m ls = true → ∃ v, e = .returned (.tuple #[v, .bool true]) ∧ Own w' w.heap.size 68 4 v ls.length (a0V m ls)) ∧
 (a0L m ls = false → e = .returned (.tuple #[.slice none 0 0, .bool false])) ∧ Fr Nob w w'
theorem AllPost.bad {m : Md} {ls : List (List UInt8)} {w w' : World} {e : Ending} (h : a0L m ls = false) (he : e = .returned (.tuple #[.slice none 0 0, .bool false])) (hf : Fr Nob w w') : AllPost m ls w e w' :=
 ⟨fun h1 => (by rw [h] at h1; cases h1), fun _ => he, hf⟩
theorem AllPost.good {m : Md} {ls : List (List UInt8)} {w w' : World} {e : Ending} {v : Value} (h : a0L m ls = true) (he : e = .returned (.tuple #[v, .bool true])) (ho : Own w' w.heap.size 68 4 v ls.length (a0V m ls)) (hf : Fr Nob w w') : AllPost m ls w e w' :=
 ⟨fun _ => ⟨v, he, ho⟩, fun h1 => (by rw [h] at h1; cases h1), hf⟩
attribute [local irreducible] a0y lw mix cw b0q b0r b0i beN b0x a0Q a0A a0J elN mdL a0V a0L a0N
theorem q0K (m : Md) (hk : KindOf 1 m) (al : Option Addr) (n cl : Nat) (vs : List Value) (ls : List (List UInt8)) (w : World) (hv : Rd w al n vs) (hp : BParts w vs ls) (hn : n ≤ 100000) :
  Calls Tryz.prog 70 #[.slice al n cl] w (AllPost m ls w) := by
 have HK := qH hk
 have HOK := qH hk.ok
 have HV := qH hv
 have HP := qH hp
 have HL := qH (show ls.length = n by rw [← hp.1, hv.len])
 clear hk hv hp
 go_enter Tryz.func70, Tryz.ntmps70
 go_wp2
 go_loopw [4, 11] (fun v i wr => ∃ k : Nat, k ≤ n ∧ i = .int .i64 (k : Int) ∧ a0L m (ls.take k) = true ∧ Own wr w.heap.size 68 4 v k (a0V m (ls.take k)) ∧ Fr Nob w wr) (fun _ i _ => n - (intOf i).toNat)
 case atStart => exact ⟨0, Nat.zero_le _, rfl, by rw [List.take_zero]; unfold a0L; rfl, by rw [List.take_zero]; unfold a0V; exact Own.nil _ _ _ _, Fr.refl _ _⟩
 case round =>
  obtain ⟨k, hk, rfl, hgood, hown, hf⟩ := hrel
  by_cases hlt : k < n
  ·have hltI : (k : Int) < (n : Int) := by omega
   obtain ⟨b, o, rfl, hat⟩ := (HV.out.still hf).at ap13
   have hvl : k < vs.length := by rw [HV.out.len]; exact hlt
   obtain ⟨a, nn, c, hve, hcc, hrd⟩ := HP.out.2 k (vs[k]'hvl) (List.getElem?_eq_getElem hvl)
   have hc1 := hat k _ (List.getElem?_eq_getElem hvl)
   rw [hve] at hc1
   have hlk : k < ls.length := by rw [HL.out]; exact hlt
   have hts := e0P m ls k hlk
   have hcs : a0V m (ls.take (k + 1)) = a0V m (ls.take k) ++ cw 4 (elN m (beN (ls.getD k []))) := by
    rw [List.take_succ_eq_append_getElem hlk, k0k]
    simp [List.getD_eq_getElem?_getD, hlk]
   have hbad := f0F m ls k hlk
   generalize hL : ls.getD k [] = l at *
   have HLL := qH hL
   have HRD := qH (hrd.still hf)
   have HTS := qH hts
   have HCS := qH hcs
   have HBAD := qH hbad
   have HG := qH hgood
   have HOWN := qH hown
   have HF := qH hf
   have hnI : (n : Int) ≤ 100000 := by omega
   clear hL hrd hts hcs hbad hgood hown hf hat hve hcc
   cases hnb : a0N m l
   ·have HNB := qH hnb
    have HNL := qH (HBAD.out hnb)
    clear hnb
    have st0 := St.start Nob wr
    go_wp2_with fail
    refine (s0h m HK.out a nn c l _ (HRD.out.still st0.fr) HNB.out).mono ?_
    rintro e' w1 ⟨rfl, hf1⟩
    have st1 := st0.keep hf1
    clear st0 hf1
    go_wp2_with (with_reducible refine wSk 7 ?_)
    refine a0a st1 rfl rfl (z := zAd) ap11 (cw 4 0) ap9 ?_
    intro g7 w2 st2
    clear st1
    go_wp2_with (with_reducible refine wSn ?_)
    refine a0b st2 0 rfl rfl rfl rfl rfl ap5 ap4 (a0d _ _) ?_
    intro w3 st3
    clear st2
    have HFR := qH (HF.out.then st3.fr)
    clear st3
    go_wp2_with fail
    go_ret2
    exact AllPost.bad HNL.out rfl HFR.out
   ·have HNB := qH hnb
    clear hnb
    have st0 := St.start Nob wr
    go_wp2_with fail
    refine (p0G m HK.out a nn c l _ (HRD.out.still st0.fr) HNB.out).mono ?_
    rintro e' w1 ⟨rfl, hf1⟩
    have st1 := st0.keep hf1
    clear st0 hf1
    go_wp2_with (with_reducible refine wSk 7 ?_)
    refine a0a st1 rfl rfl (z := zAd) ap11 (cw 4 0) ap9 ?_
    intro g7 w2 st2
    clear st1
    go_wp2_with (with_reducible refine wSn ?_)
    refine a0b st2 0 rfl rfl rfl rfl rfl ap5 ap4 (a0d _ _) ?_
    intro w3 st3
    clear st2
    go_wp2_with (with_reducible refine wSk 23 ?_)
    refine a0u st3 0 rfl rfl rfl Tryz.underlying68 rfl rfl ap4 ?_
    go_wp2_with (with_reducible refine wSk 24 ?_)
    refine d0p rfl rfl Tryz.underlying92 k0l [i4 (elN m (beN l))] rfl (by simp [i4, Value.cells, a0e]) rfl (cw 4 (elN m (beN l))) (by simp [g0D]) ?_
    intro wA hgA hfA hzA
    clear hzA
    have hfrA := st3.fr.then hfA
    have hsz := HF.out.size
    have hsz2 := hfrA.size
    have hownA := HOWN.out.still hfrA
    have hrdA : Rd wA (some ⟨w3.heap.size, 0, none⟩) (1 * 4) (cw 4 (elN m (beN l))) := by
     have := Rd.whole hgA
     rwa [a0e] at this
    have HRDA := qH hrdA
    have HOWNA := qH hownA
    have HFRA := qH hfrA
    clear hgA hfA hrdA hownA hfrA st3
    generalize w3.heap.size = gA at *
    go_wp2_with (with_reducible refine wSk 25 ?_)
    refine d0y rfl rfl Tryz.underlying92 k0l rfl ap12 HOWNA.out rfl rfl HRDA.out (a0d _ _) (by unfold maxLen; omega) ap13 ap13 ?_
    intro vB wB hownB hfB hbB
    clear hbB
    have hfrB := HOWNA.out.fr (HF.out.then HFRA.out) (Nat.le_refl _) hfB
    have HFRB := qH hfrB
    rw [← HCS.out] at hownB
    have HOWNB := qH hownB
    clear hfrB hownB hfB
    go_wp2_with fail
    go_roundw
    case rel => exact ⟨k + 1, by omega, by go_num, by rw [HTS.out, HG.out, HNB.out]; rfl, HOWNB.out, HFRB.out⟩
    case measure => simp [intOf]; omega
  ·have hge : ¬ ((k : Int) < (n : Int)) := by omega
   have hkn : k = ls.length := by rw [HL.out]; omega
   rw [hkn, List.take_of_length_le (Nat.le_refl _)] at hgood hown
   have HG := qH hgood
   have HO := qH hown
   have HF := qH hf
   clear hkn hgood hown hf
   go_wp2_with fail
   go_ret2
   exact AllPost.good HG.out rfl HO.out HF.out
end
section
open Go.RowKit Go.Mv Mvp
attribute [local irreducible] a0y lw mix cw b0q b0r b0i beN b0x a0Q a0A a0J elN mdL
end
section
open Go.RowKit Go.Mv Mvp
attribute [local irreducible] a0y lw mix cw b0q b0r b0i beN b0x a0Q a0A a0J elN mdL a0N a0L a0V
end
end Go.Proofs.YtemcankmggmgoaaGreat
namespace Mvp
end Mvp
namespace Go.Proofs.YtemcankmggmgoaaGreat
section
open Go.RowKit Go.Mv Mvp
attribute [local irreducible] a0y lw mix cw b0q b0r b0i beN b0x a0Q a0A a0J elN mdL a0V a0L a0N
theorem BParts.four {w : World} {v1 v2 v3 v4 : Value} {l1 l2 l3 l4 : List UInt8} (h1 : BPart w v1 l1) (h2 : BPart w v2 l2) (h3 : BPart w v3 l3) (h4 : BPart w v4 l4) : BParts w [v1, v2, v3, v4] [l1, l2, l3, l4] := ⟨rfl, fun i x hx => by
 match i with
 | 0 => simp at hx; subst hx; exact h1
 | 1 => simp at hx; subst hx; exact h2
 | 2 => simp at hx; subst hx; exact h3
 | 3 => simp at hx; subst hx; exact h4
 | i + 4 => simp at hx⟩
end
section
open Go.RowKit Go.Mv Mvp
attribute [local irreducible] a0y lw mix cw b0q b0r b0i beN b0x a0Q a0A a0J elN mdL a0V a0L a0N
end
section
open Go.RowKit Go.Mv Mvp Mvt
theorem PartIs.bpart {w : World} {v : Value} {l : List UInt8} (h : PartIs w v l) : BPart w v l := by
 obtain ⟨a, n, c, rfl, hc, -, hr, -⟩ := h; exact ⟨a, n, c, rfl, hc, hr⟩
theorem l0Z (v : Value) (l : List UInt8) (m : Nat) (w : World) (hm : m ≤ 16384) (hp : PartIs w v l) :
  Calls Tryz.prog 114 #[v, .int .i64 (m : Int)] w fun r w' => ∃ v, r = .returned (.tuple #[v, .int .i64 0]) ∧ Own w' w.heap.size 5 1 v m (bs (a0H l 31 m)) ∧ Fr Nob w w' := by
 obtain ⟨a, n, c, rfl, hc, hn, hr, ho⟩ := hp
 exact q0J a n c l m w hn hc hm hr ho
theorem i0A (m : Md) (hk : KindOf 1 m) (v : Value) (l : List UInt8) (w : World) (hp : PartIs w v l) :
  Calls Tryz.prog 116 #[v] w fun e w' => e = .returned (i4 (elN m (beN l))) ∧ Fr Nob w w' := by
 obtain ⟨a, n, c, rfl, hc, hn, hr, ho⟩ := hp
 exact p0H m hk a n c l w hr hc hn
attribute [local irreducible] a0y lw mix cw b0q b0r b0i beN b0x a0Q a0A a0J elN mdL a0V a0L a0N b0k b0u toB a0z a0E b0s a0H c0n b0l a0F c0z
end
section
open Go.RowKit Go.Mv Mvp Mvq
attribute [local irreducible] a0y lw mix cw b0q b0r b0i beN b0x a0Q a0A a0J elN mdL a0N b0k b0u toB a0z a0E b0s a0H c0n b0l a0F c0z
theorem t0Y : (Tryz.prog.info? 68).map (·.zero) = some (some (.agg #[.int .u64 0, .int .u64 0, .int .u64 0, .int .u64 0])) := by kernel_rfl
theorem d0I (x : Nat) : (Tryz.prog.info? 68).map (·.size) = some (cw 4 x).length := by rw [a0e]; kernel_rfl
theorem k0I (x y : Nat) : (cw 4 x).length = (cw 4 y).length := by rw [a0e, a0e]
theorem h0B {w : World} {base : Nat} {v : Value} {n : Nat} {l : List UInt8} (h : Own w base 5 1 v n (bs l)) (hn : n ≤ 1000000) : ∃ a c, v = .slice a n c ∧ PartIs w (.slice a n c) l := by
 have h2 := b0Z h hn
 obtain ⟨a, c, rfl, -⟩ := f0s h
 exact ⟨a, c, rfl, h2⟩
theorem Parts.stillT {w w' : World} : ∀ {vs : List Value} {ls : List (List UInt8)}, Parts w vs ls → Fr Nob w w' → Parts w' vs ls
 | [], [], _, _ => trivial
 | _ :: _, _ :: _, h, hf => ⟨h.1.still hf, Parts.stillT h.2 hf⟩
 | [], _ :: _, h, _ => h.elim
 | _ :: _, [], h, _ => h.elim
theorem b0X (s : ByteArray) (a : Option Addr) (n c : Nat) : Tryz.prog.built 132 [(0, .string s), (1, .slice a n c)] = some ([Value.string s, .slice a n c]).toArray := by kernel_rfl
theorem g0f : (Tryz.prog.info? 132).map (fun i => (i.zero, i.size, i.bytes)) = some (some (.agg #[.string ByteArray.empty, .slice none 0 0]), 2, 40) := by kernel_rfl
theorem q0L (base g : Nat) (st : List UInt8) (s : ByteArray) (w : World) (hs : s.size ≤ 1000000) (hl : LogAt w base g st) (hbase : base ≤ w.heap.size) :
  Calls Tryz.prog 91 #[tkV g, .string s] w fun e w' => e = .returned (i4 (elN mQ (n0h st s.data.toList))) ∧ LogAt w' base g (c0z j0Z [st, s.data.toList]) ∧ Fr (One g) w w' := by
 have HS := qH hs
 have HL := qH hl
 have HBS := qH hbase
 clear hs hl hbase
 have st0 := St.start (One g) w
 go_enter Tryz.func91, Tryz.ntmps91
 go_wp2_with (with_reducible refine wSk 2 ?_)
 refine i0S st0 rfl rfl rfl [.pointer (some ⟨g, 0, none⟩)] rfl ?_
 intro g2 w1 st1 hf1
 have HL1 := qH (HL.out.still hf1)
 clear st0 hf1 HL
 go_wp2_with (with_reducible refine wSk 4 ?_)
 refine c0h st1 rfl rfl t0Y (cw 4 0) ap9 ?_
 intro g4 w2 st2 hf2 hs2
 have HL2 := qH (HL1.out.still hf2)
 clear st1 hf2 hs2 HL1
 have hc0 := (st2.at 0 rfl).cell (i := 0) rfl
 have ST2 := qH st2
 clear st2
 go_wp2_with fail
 refine (u0H base g st s 64 _ HS.out ap12 HL2.out (Nat.le_trans HBS.out ST2.out.fr.size)).mono ?_
 rintro e' w3 ⟨v, rfl, ho, hl3, hf3⟩
 have st3 := ST2.out.keep1 hf3 (.inr rfl) (HL2.out.notIn ST2.out.has (by intro x hx; simp only [List.mem_cons, List.not_mem_nil, or_false, List.cons_append, List.nil_append] at hx; rcases hx with rfl | rfl <;> (dsimp only; decide)))
 have HL3 := qH hl3
 obtain ⟨a, c, rfl, hp⟩ := h0B ho ap12
 have HP := qH hp
 clear hl3 hf3 ho hp HL2 ST2 hc0
 go_wp2_with fail
 refine (i0A mQ .one _ _ _ HP.out).mono ?_
 rintro e' w4 ⟨rfl, hf4⟩
 have st4 := st3.keep hf4
 have HL4 := qH (HL3.out.still hf4)
 clear st3 hf4 HL3 HP
 go_wp2_with (with_reducible refine wSn ?_)
 refine d0v st4 1 rfl rfl rfl rfl rfl (k0I _ _) (d0I _) (a0d _ _) ?_
 intro w5 st5 hf5
 have HL5 := qH (HL4.out.off hf5 (st4.at 1 rfl) ap12 ap12)
 clear st4 hf5 HL4
 have hr := st5.at 1 rfl
 have hfr := st5.fr
 clear st5
 go_wp2_with fail
 exact bodyPost_ret (a0B rfl rfl hr Tryz.underlying68 rfl (d0I _)) rfl ⟨by unfold n0h; rw [k0g]; rfl, HL5.out, hfr⟩
theorem m0a (base g : Nat) (st : List UInt8) (w : World) (hl : LogAt w base g st) (hbase : base ≤ w.heap.size) :
  Calls Tryz.prog 118 #[tkV g] w fun e w' => e = .returned (i4 (elN mQ (f0j st))) ∧ LogAt w' base g (c0z j0Z [st, h0g]) ∧ Fr (One g) w w' := by
 have HL := qH hl
 have HBS := qH hbase
 clear hl hbase
 have st0 := St.start (One g) w
 go_enter Tryz.func118, Tryz.ntmps118
 go_wp2_with (with_reducible refine wSk 1 ?_)
 refine i0S st0 rfl rfl rfl [.pointer (some ⟨g, 0, none⟩)] rfl ?_
 intro g2 w1 st1 hf1
 have HL1 := qH (HL.out.still hf1)
 clear st0 hf1 HL
 go_wp2_with (with_reducible refine wSk 2 ?_)
 refine c0h st1 rfl rfl t0Y (cw 4 0) ap9 ?_
 intro g4 w2 st2 hf2 hs2
 have HL2 := qH (HL1.out.still hf2)
 clear st1 hf2 hs2 HL1
 go_wp2_with (with_reducible refine wSk 3 ?_)
 refine a0u st2 0 rfl rfl rfl Tryz.underlying128 rfl rfl ap11 ?_
 have ST2 := qH st2
 clear st2
 go_wp2_with fail
 refine (q0L base g st ⟨#[99, 104, 97, 108, 108, 101, 110, 103, 101]⟩ _ ap12 HL2.out (Nat.le_trans HBS.out ST2.out.fr.size)).mono ?_
 rintro e' w3 ⟨rfl, hl3, hf3⟩
 have st3 := ST2.out.keep1 hf3 (.inr rfl) (HL2.out.notIn ST2.out.has (by intro x hx; simp only [List.mem_cons, List.not_mem_nil, or_false, List.cons_append, List.nil_append] at hx; rcases hx with rfl | rfl <;> (dsimp only; decide)))
 have HL3 := qH hl3
 clear hl3 hf3 HL2 ST2
 go_wp2_with (with_reducible refine wSn ?_)
 refine d0v st3 1 rfl rfl rfl rfl rfl (k0I _ _) (d0I _) (a0d _ _) ?_
 intro w5 st5 hf5
 have HL5 := qH (HL3.out.off hf5 (st3.at 1 rfl) ap12 ap12)
 clear st3 hf5 HL3
 have hr := st5.at 1 rfl
 have hfr := st5.fr
 clear st5
 go_wp2_with fail
 exact bodyPost_ret (a0B rfl rfl hr Tryz.underlying68 rfl (d0I _)) rfl ⟨rfl, HL5.out, hfr⟩
theorem g0M (s : ByteArray) (k : List UInt8) (hk : s.data.toList = k) (gl c : Nat) (vs : List Value) (ls : List (List UInt8)) (w : World) (hs : s.size ≤ 1000000) (hh : Has w gl vs 22) (hp : Parts w vs ls) (hn : ls.length ≤ 1000000) :
  Calls Tryz.prog 47 #[.string s, .slice (some ⟨gl, 0, none⟩) ls.length c] w fun e w' => e = .returned (i4 (elN mQ (chN k ls))) ∧ Fr Nob w w' := by
 subst hk
 have HS := qH hs
 have HH := qH hh
 have HP := qH hp
 have HN := qH hn
 clear hs hh hp hn
 have st0 := St.start Nob w
 go_enter Tryz.func47, Tryz.ntmps47
 go_wp2_with (with_reducible refine wSk 4 ?_)
 refine c0h st0 rfl rfl t0Y (cw 4 0) ap9 ?_
 intro g4 w2 st2 hf2 hs2
 have HH2 := qH (HH.out.keep hf2 id)
 have HP2 := qH (HP.out.stillT hf2)
 clear st0 hf2 hs2 HH HP
 go_wp2_with fail
 refine (p0b s (some ⟨gl, 0, none⟩) c ls _ HS.out HN.out (HP2.out.at HH2.out)).mono ?_
 rintro e' w3 ⟨v, rfl, ho, hf3⟩
 have st3 := st2.keep hf3
 obtain ⟨a, c3, rfl, hq⟩ := h0B ho ap12
 have HQ := qH hq
 clear st2 hf3 ho hq HH2 HP2
 go_wp2_with fail
 refine (l0Z _ _ 64 _ ap12 HQ.out).mono ?_
 rintro e' w4 ⟨v, rfl, ho, hf4⟩
 have st4 := st3.keep hf4
 obtain ⟨a4, c4, rfl, hq⟩ := h0B ho ap12
 have HQ4 := qH hq
 clear st3 hf4 ho hq HQ
 go_wp2_with fail
 refine (i0A mQ .one _ _ _ HQ4.out).mono ?_
 rintro e' w5 ⟨rfl, hf5⟩
 have st5 := st4.keep hf5
 clear st4 hf5 HQ4
 go_wp2_with (with_reducible refine wSn ?_)
 refine a0b st5 0 rfl rfl rfl rfl rfl (k0I _ _) (d0I _) (a0d _ _) ?_
 intro w6 st6
 clear st5
 have hr := st6.at 0 rfl
 have hfr := st6.fr
 clear st6
 go_wp2_with fail
 exact bodyPost_ret (a0B rfl rfl hr Tryz.underlying68 rfl (d0I _)) rfl ⟨by unfold chN; rw [k0g]; rfl, hfr⟩
theorem q0M (v0 : Value) (l0 : List UInt8) (v1 : Value) (l1 : List UInt8) (v2 : Value) (l2 : List UInt8) (w : World) (h0 : PartIs w v0 l0) (h1 : PartIs w v1 l1) (h2 : PartIs w v2 l2) :
  Calls Tryz.prog 50 #[v0, v1, v2] w fun e w' => e = .returned (i4 (elN mQ (b0E l0 l1 l2))) ∧ Fr Nob w w' := by
 obtain ⟨a0, n0, c0, rfl, k0⟩ := h0
 have H0 := qH (show PartIs w (.slice a0 n0 c0) l0 from ⟨a0, n0, c0, rfl, k0⟩)
 clear k0
 obtain ⟨a1, n1, c1, rfl, k1⟩ := h1
 have H1 := qH (show PartIs w (.slice a1 n1 c1) l1 from ⟨a1, n1, c1, rfl, k1⟩)
 clear k1
 obtain ⟨a2, n2, c2, rfl, k2⟩ := h2
 have H2 := qH (show PartIs w (.slice a2 n2 c2) l2 from ⟨a2, n2, c2, rfl, k2⟩)
 clear k2
 have st0 := St.start Nob w
 go_enter Tryz.func50, Tryz.ntmps50
 go_wp2_with (with_reducible refine wSk 6 ?_)
 refine c0h st0 rfl rfl t0Y (cw 4 0) ap9 ?_
 intro g4 w2 st2 hf2 hs2
 have HSZ := qH st2.fr.size
 clear st0 hf2 hs2
 go_wp2_with fail
 refine (h0h ⟨#[115, 105, 103, 110]⟩ _ ap12).mono ?_
 rintro e' w3 ⟨g, rfl, hle, hl, hf3⟩
 have st3 := st2.keep hf3
 have HL := qH hl
 have HG := qH (Nat.le_trans HSZ.out hle)
 have HBS := qH hf3.size
 clear st2 hf3 hl hle HSZ
 go_wp2_with (with_reducible refine wSk 9 ?_)
 refine b0c rfl rfl _ (b0X _ _ _ _) ?_
 go_wp2_with (with_reducible refine wSk 11 ?_)
 refine b0c rfl rfl _ (b0X _ _ _ _) ?_
 go_wp2_with (with_reducible refine wSk 13 ?_)
 refine b0c rfl rfl _ (b0X _ _ _ _) ?_
 go_wp2_with (with_reducible refine wSk 14 ?_)
 refine d0p rfl rfl Tryz.underlying193 g0f [.agg #[.string ⟨#[112, 117, 98, 108, 105, 99]⟩, .slice a0 n0 c0], .agg #[.string ⟨#[102, 105, 114, 115, 116]⟩, .slice a1 n1 c1], .agg #[.string ⟨#[116, 101, 120, 116]⟩, .slice a2 n2 c2]] rfl (by simp [Value.cells]) rfl (sdC [(⟨#[112, 117, 98, 108, 105, 99]⟩, .slice a0 n0 c0), (⟨#[102, 105, 114, 115, 116]⟩, .slice a1 n1 c1), (⟨#[116, 101, 120, 116]⟩, .slice a2 n2 c2)]) (by unfold sdC; simp [Value.cells]) ?_
 intro w5 hh5 hf5 hz5
 have st5 := st3.keep hf5
 have HL5 := qH (HL.out.still hf5)
 have HH5 := qH hh5
 have HBS5 := qH (Nat.le_trans HBS.out hf5.size)
 clear st3 hf5 hz5 HL HBS hh5
 generalize w3.heap.size = gl at *
 have ST5 := qH st5
 clear st5
 go_wp2_with fail
 refine (i0T w _ g _ gl 3 [(⟨#[112, 117, 98, 108, 105, 99]⟩, .slice a0 n0 c0), (⟨#[102, 105, 114, 115, 116]⟩, .slice a1 n1 c1), (⟨#[116, 101, 120, 116]⟩, .slice a2 n2 c2)] [l0, l1, l2] _ HG.out ST5.out.fr HBS5.out HL5.out HH5.out ap14 (by intro x hx; simp only [List.mem_cons, List.not_mem_nil, or_false] at hx; rcases hx with rfl | rfl | rfl <;> simp <;> decide) ⟨H0.out, H1.out, H2.out, trivial⟩).mono ?_
 rintro e' w6 ⟨rfl, hl6, hf6⟩
 have st6 := ST5.out.keep1 hf6 (.inl HG.out) (HL5.out.notIn ST5.out.has (by intro x hx; simp only [List.mem_cons, List.not_mem_nil, or_false, List.nil_append] at hx; subst hx; dsimp only; decide))
 have HL6 := qH hl6
 have HBS6 := qH (Nat.le_trans HBS5.out hf6.size)
 clear ST5 hl6 hf6 HL5 HH5 HBS5 H0 H1 H2
 have ST6 := qH st6
 clear st6
 go_wp2_with fail
 refine (m0a _ g _ _ HL6.out HBS6.out).mono ?_
 rintro e' w7 ⟨rfl, hl7, hf7⟩
 have st7 := ST6.out.keep1 hf7 (.inl HG.out) (HL6.out.notIn ST6.out.has (by intro x hx; simp only [List.mem_cons, List.not_mem_nil, or_false, List.nil_append] at hx; subst hx; dsimp only; decide))
 clear ST6 hl7 hf7 HL6 HBS6 HG
 go_wp2_with (with_reducible refine wSn ?_)
 refine a0b st7 0 rfl rfl rfl rfl rfl (k0I _ _) (d0I _) (a0d _ _) ?_
 intro w8 st8
 clear st7
 have hr := st8.at 0 rfl
 have hfr := st8.fr
 clear st8
 go_wp2_with fail
 exact bodyPost_ret (a0B rfl rfl hr Tryz.underlying68 rfl (d0I _)) rfl ⟨rfl, hfr⟩
theorem h0C (v0 : Value) (l0 : List UInt8) (v1 : Value) (l1 : List UInt8) (v2 : Value) (l2 : List UInt8) (v3 : Value) (l3 : List UInt8) (v4 : Value) (l4 : List UInt8) (w : World) (h0 : PartIs w v0 l0) (h1 : PartIs w v1 l1) (h2 : PartIs w v2 l2) (h3 : PartIs w v3 l3) (h4 : PartIs w v4 l4) :
  Calls Tryz.prog 79 #[v0, v1, v2, v3, v4] w fun e w' => e = .returned (i4 (elN mQ (c0Y l0 l1 l2 l3 l4))) ∧ Fr Nob w w' := by
 obtain ⟨a0, n0, c0, rfl, k0⟩ := h0
 have H0 := qH (show PartIs w (.slice a0 n0 c0) l0 from ⟨a0, n0, c0, rfl, k0⟩)
 clear k0
 obtain ⟨a1, n1, c1, rfl, k1⟩ := h1
 have H1 := qH (show PartIs w (.slice a1 n1 c1) l1 from ⟨a1, n1, c1, rfl, k1⟩)
 clear k1
 obtain ⟨a2, n2, c2, rfl, k2⟩ := h2
 have H2 := qH (show PartIs w (.slice a2 n2 c2) l2 from ⟨a2, n2, c2, rfl, k2⟩)
 clear k2
 obtain ⟨a3, n3, c3, rfl, k3⟩ := h3
 have H3 := qH (show PartIs w (.slice a3 n3 c3) l3 from ⟨a3, n3, c3, rfl, k3⟩)
 clear k3
 obtain ⟨a4, n4, c4, rfl, k4⟩ := h4
 have H4 := qH (show PartIs w (.slice a4 n4 c4) l4 from ⟨a4, n4, c4, rfl, k4⟩)
 clear k4
 have st0 := St.start Nob w
 go_enter Tryz.func79, Tryz.ntmps79
 go_wp2_with (with_reducible refine wSk 10 ?_)
 refine c0h st0 rfl rfl t0Y (cw 4 0) ap9 ?_
 intro g4 w2 st2 hf2 hs2
 have HSZ := qH st2.fr.size
 clear st0 hf2 hs2
 go_wp2_with fail
 refine (h0h ⟨#[115, 97, 109, 101]⟩ _ ap12).mono ?_
 rintro e' w3 ⟨g, rfl, hle, hl, hf3⟩
 have st3 := st2.keep hf3
 have HL := qH hl
 have HG := qH (Nat.le_trans HSZ.out hle)
 have HBS := qH hf3.size
 clear st2 hf3 hl hle HSZ
 go_wp2_with (with_reducible refine wSk 13 ?_)
 refine b0c rfl rfl _ (b0X _ _ _ _) ?_
 go_wp2_with (with_reducible refine wSk 15 ?_)
 refine b0c rfl rfl _ (b0X _ _ _ _) ?_
 go_wp2_with (with_reducible refine wSk 17 ?_)
 refine b0c rfl rfl _ (b0X _ _ _ _) ?_
 go_wp2_with (with_reducible refine wSk 19 ?_)
 refine b0c rfl rfl _ (b0X _ _ _ _) ?_
 go_wp2_with (with_reducible refine wSk 21 ?_)
 refine b0c rfl rfl _ (b0X _ _ _ _) ?_
 go_wp2_with (with_reducible refine wSk 22 ?_)
 refine d0p rfl rfl Tryz.underlying193 g0f [.agg #[.string ⟨#[98, 97, 115, 101]⟩, .slice a0 n0 c0], .agg #[.string ⟨#[97]⟩, .slice a1 n1 c1], .agg #[.string ⟨#[98]⟩, .slice a2 n2 c2], .agg #[.string ⟨#[102, 105, 114, 115, 116]⟩, .slice a3 n3 c3], .agg #[.string ⟨#[115, 101, 99, 111, 110, 100]⟩, .slice a4 n4 c4]] rfl (by simp [Value.cells]) rfl (sdC [(⟨#[98, 97, 115, 101]⟩, .slice a0 n0 c0), (⟨#[97]⟩, .slice a1 n1 c1), (⟨#[98]⟩, .slice a2 n2 c2), (⟨#[102, 105, 114, 115, 116]⟩, .slice a3 n3 c3), (⟨#[115, 101, 99, 111, 110, 100]⟩, .slice a4 n4 c4)]) (by unfold sdC; simp [Value.cells]) ?_
 intro w5 hh5 hf5 hz5
 have st5 := st3.keep hf5
 have HL5 := qH (HL.out.still hf5)
 have HH5 := qH hh5
 have HBS5 := qH (Nat.le_trans HBS.out hf5.size)
 clear st3 hf5 hz5 HL HBS hh5
 generalize w3.heap.size = gl at *
 have ST5 := qH st5
 clear st5
 go_wp2_with fail
 refine (i0T w _ g _ gl 5 [(⟨#[98, 97, 115, 101]⟩, .slice a0 n0 c0), (⟨#[97]⟩, .slice a1 n1 c1), (⟨#[98]⟩, .slice a2 n2 c2), (⟨#[102, 105, 114, 115, 116]⟩, .slice a3 n3 c3), (⟨#[115, 101, 99, 111, 110, 100]⟩, .slice a4 n4 c4)] [l0, l1, l2, l3, l4] _ HG.out ST5.out.fr HBS5.out HL5.out HH5.out ap14 (by intro x hx; simp only [List.mem_cons, List.not_mem_nil, or_false] at hx; rcases hx with rfl | rfl | rfl | rfl | rfl <;> simp <;> decide) ⟨H0.out, H1.out, H2.out, H3.out, H4.out, trivial⟩).mono ?_
 rintro e' w6 ⟨rfl, hl6, hf6⟩
 have st6 := ST5.out.keep1 hf6 (.inl HG.out) (HL5.out.notIn ST5.out.has (by intro x hx; simp only [List.mem_cons, List.not_mem_nil, or_false, List.nil_append] at hx; subst hx; dsimp only; decide))
 have HL6 := qH hl6
 have HBS6 := qH (Nat.le_trans HBS5.out hf6.size)
 clear ST5 hl6 hf6 HL5 HH5 HBS5 H0 H1 H2 H3 H4
 have ST6 := qH st6
 clear st6
 go_wp2_with fail
 refine (m0a _ g _ _ HL6.out HBS6.out).mono ?_
 rintro e' w7 ⟨rfl, hl7, hf7⟩
 have st7 := ST6.out.keep1 hf7 (.inl HG.out) (HL6.out.notIn ST6.out.has (by intro x hx; simp only [List.mem_cons, List.not_mem_nil, or_false, List.nil_append] at hx; subst hx; dsimp only; decide))
 clear ST6 hl7 hf7 HL6 HBS6 HG
 go_wp2_with (with_reducible refine wSn ?_)
 refine a0b st7 0 rfl rfl rfl rfl rfl (k0I _ _) (d0I _) (a0d _ _) ?_
 intro w8 st8
 clear st7
 have hr := st8.at 0 rfl
 have hfr := st8.fr
 clear st8
 go_wp2_with fail
 exact bodyPost_ret (a0B rfl rfl hr Tryz.underlying68 rfl (d0I _)) rfl ⟨rfl, hfr⟩
theorem h0D (v0 : Value) (l0 : List UInt8) (v1 : Value) (l1 : List UInt8) (w : World) (h0 : PartIs w v0 l0) (h1 : PartIs w v1 l1) :
  Calls Tryz.prog 71 #[v0, v1] w fun e w' => e = .returned (i4 (elN mQ (c0E l0 l1))) ∧ Fr Nob w w' := by
 obtain ⟨a0, n0, c0, rfl, k0⟩ := h0
 have H0 := qH (show PartIs w (.slice a0 n0 c0) l0 from ⟨a0, n0, c0, rfl, k0⟩)
 clear k0
 obtain ⟨a1, n1, c1, rfl, k1⟩ := h1
 have H1 := qH (show PartIs w (.slice a1 n1 c1) l1 from ⟨a1, n1, c1, rfl, k1⟩)
 clear k1
 have st0 := St.start Nob w
 go_enter Tryz.func71, Tryz.ntmps71
 go_wp2_with (with_reducible refine wSk 4 ?_)
 refine c0h st0 rfl rfl t0Y (cw 4 0) ap9 ?_
 intro g4 w2 st2 hf2 hs2
 have HSZ := qH st2.fr.size
 clear st0 hf2 hs2
 go_wp2_with fail
 refine (h0h ⟨#[111, 112, 101, 110]⟩ _ ap12).mono ?_
 rintro e' w3 ⟨g, rfl, hle, hl, hf3⟩
 have st3 := st2.keep hf3
 have HL := qH hl
 have HG := qH (Nat.le_trans HSZ.out hle)
 have HBS := qH hf3.size
 clear st2 hf3 hl hle HSZ
 go_wp2_with (with_reducible refine wSk 7 ?_)
 refine b0c rfl rfl _ (b0X _ _ _ _) ?_
 go_wp2_with (with_reducible refine wSk 9 ?_)
 refine b0c rfl rfl _ (b0X _ _ _ _) ?_
 go_wp2_with (with_reducible refine wSk 10 ?_)
 refine d0p rfl rfl Tryz.underlying193 g0f [.agg #[.string ⟨#[99, 111, 109, 109, 105, 116]⟩, .slice a0 n0 c0], .agg #[.string ⟨#[102, 105, 114, 115, 116]⟩, .slice a1 n1 c1]] rfl (by simp [Value.cells]) rfl (sdC [(⟨#[99, 111, 109, 109, 105, 116]⟩, .slice a0 n0 c0), (⟨#[102, 105, 114, 115, 116]⟩, .slice a1 n1 c1)]) (by unfold sdC; simp [Value.cells]) ?_
 intro w5 hh5 hf5 hz5
 have st5 := st3.keep hf5
 have HL5 := qH (HL.out.still hf5)
 have HH5 := qH hh5
 have HBS5 := qH (Nat.le_trans HBS.out hf5.size)
 clear st3 hf5 hz5 HL HBS hh5
 generalize w3.heap.size = gl at *
 have ST5 := qH st5
 clear st5
 go_wp2_with fail
 refine (i0T w _ g _ gl 2 [(⟨#[99, 111, 109, 109, 105, 116]⟩, .slice a0 n0 c0), (⟨#[102, 105, 114, 115, 116]⟩, .slice a1 n1 c1)] [l0, l1] _ HG.out ST5.out.fr HBS5.out HL5.out HH5.out ap14 (by intro x hx; simp only [List.mem_cons, List.not_mem_nil, or_false] at hx; rcases hx with rfl | rfl <;> simp <;> decide) ⟨H0.out, H1.out, trivial⟩).mono ?_
 rintro e' w6 ⟨rfl, hl6, hf6⟩
 have st6 := ST5.out.keep1 hf6 (.inl HG.out) (HL5.out.notIn ST5.out.has (by intro x hx; simp only [List.mem_cons, List.not_mem_nil, or_false, List.nil_append] at hx; subst hx; dsimp only; decide))
 have HL6 := qH hl6
 have HBS6 := qH (Nat.le_trans HBS5.out hf6.size)
 clear ST5 hl6 hf6 HL5 HH5 HBS5 H0 H1
 have ST6 := qH st6
 clear st6
 go_wp2_with fail
 refine (m0a _ g _ _ HL6.out HBS6.out).mono ?_
 rintro e' w7 ⟨rfl, hl7, hf7⟩
 have st7 := ST6.out.keep1 hf7 (.inl HG.out) (HL6.out.notIn ST6.out.has (by intro x hx; simp only [List.mem_cons, List.not_mem_nil, or_false, List.nil_append] at hx; subst hx; dsimp only; decide))
 clear ST6 hl7 hf7 HL6 HBS6 HG
 go_wp2_with (with_reducible refine wSn ?_)
 refine a0b st7 0 rfl rfl rfl rfl rfl (k0I _ _) (d0I _) (a0d _ _) ?_
 intro w8 st8
 clear st7
 have hr := st8.at 0 rfl
 have hfr := st8.fr
 clear st8
 go_wp2_with fail
 exact bodyPost_ret (a0B rfl rfl hr Tryz.underlying68 rfl (d0I _)) rfl ⟨rfl, hfr⟩
end
end Go.Proofs.YtemcankmggmgoaaGreat
namespace Go.Mv
open Go.RowKit
theorem o0j (A F B cs : List Value) (n off : Nat) (hA : A.length = n) (h : off + cs.length ≤ F.length) : splice (A ++ (F ++ B)) (n + off) cs = A ++ (splice F off cs ++ B) := by
 subst hA
 unfold splice
 have h1 : List.take (A.length + off) (A ++ (F ++ B)) = A ++ List.take off F := by
  rw [List.take_length_add_append, List.take_append_of_le_length ap13]
 have h2 : List.drop (A.length + off + cs.length) (A ++ (F ++ B)) = List.drop (off + cs.length) F ++ B := by
  rw [Nat.add_assoc, List.drop_length_add_append, List.drop_append_of_le_length h]
 rw [h1, h2]
 simp [List.append_assoc]
theorem n0i (f f' : Nat → List Value) (k : Nat) (hl : ∀ i, (f i).length = k) (n i off : Nat) (cs : List Value) (h : i < n) (ho : off + cs.length ≤ k) (hi : f' i = splice (f i) off cs) (hv : ∀ j, j ≠ i → f' j = f j) : splice ((List.range n).flatMap f) (i * k + off) cs = (List.range n).flatMap f' := by
 have hlen : (splice (f i) off cs).length = k := by
  unfold splice
  simp only [List.length_append, List.length_take, List.length_drop, hl]
  omega
 have e := n0a f f' k hl n i h (by rw [hi]; exact hlen) hv
 rw [← e, hi, e0T f n i h, o0j _ _ _ cs (i * k) off (by rw [d0t f k hl, Nat.mul_comm]) (by rw [hl]; exact ho), i0w _ _ _ _ (i * k) (by rw [d0t f k hl, Nat.mul_comm]) (by rw [hlen, hl])]
end Go.Mv
namespace Go.Proofs.YtemcankmggmgoaaGreat
section
open Go.RowKit Go.Mv Mvp Mvq
noncomputable def tmF (n : Nat) (a : Nat → Nat) (T : Nat → List Value) : List Value := (List.range n).flatMap fun i => cw 4 (a i) ++ T i
def upN {α : Type} (a : Nat → α) (k : Nat) (x : α) : Nat → α := fun i => if i = k then x else a i
theorem q0N (a : Nat → Nat) (T : Nat → List Value) (hT : ∀ i, (T i).length = 192) (i : Nat) : (cw 4 (a i) ++ T i).length = 196 := by rw [List.length_append, a0e, hT]
theorem q0O (n : Nat) (a : Nat → Nat) (T : Nat → List Value) (hT : ∀ i, (T i).length = 192) : (tmF n a T).length = n * 196 := by
 rw [Nat.mul_comm]; exact d0t _ 196 (q0N a T hT) n
theorem s0Y (n : Nat) (a : Nat → Nat) (T : Nat → List Value) (hT : ∀ i, (T i).length = 192) (k x : Nat) (h : k < n) : splice (tmF n a T) (k * 196) (cw 4 x) = tmF n (upN a k x) T := by
 have := n0i (fun i => cw 4 (a i) ++ T i) (fun i => cw 4 (upN a k x i) ++ T i) 196 (q0N a T hT) n k 0 (cw 4 x) h (by rw [a0e]; omega)
  (by
   show cw 4 (upN a k x k) ++ T k = _
   unfold upN splice
   rw [if_pos rfl, Nat.zero_add, a0e, List.drop_append_of_le_length (by rw [a0e]; omega), List.drop_of_length_le (by rw [a0e]; omega)]
   rfl)
  (fun j hj => by show cw 4 (upN a k x j) ++ T j = _; unfold upN; rw [if_neg hj])
 rw [Nat.add_zero] at this
 exact this
theorem s0Z (n : Nat) (a : Nat → Nat) (T : Nat → List Value) (hT : ∀ i, (T i).length = 192) (k : Nat) (t : List Value) (ht : t.length = 192) (h : k < n) : splice (tmF n a T) (k * 196 + 4) t = tmF n a (upN T k t) :=
 n0i (fun i => cw 4 (a i) ++ T i) (fun i => cw 4 (a i) ++ upN T k t i) 196 (q0N a T hT) n k 4 t h (by rw [ht]; omega)
  (by
   show cw 4 (a k) ++ upN T k t k = _
   unfold upN splice
   rw [if_pos rfl, List.take_append_of_le_length (by rw [a0e]; omega), List.take_of_length_le (by rw [a0e]; omega), List.drop_of_length_le (by rw [List.length_append, a0e, hT, ht]; omega), List.append_nil])
  (fun j hj => by show cw 4 (a j) ++ upN T k t j = _; unfold upN; rw [if_neg hj])
theorem e0L (n : Nat) (a a' : Nat → Nat) (T T' : Nat → List Value) (h : ∀ i, i < n → a i = a' i ∧ T i = T' i) : tmF n a T = tmF n a' T' := by
 unfold tmF
 rw [List.flatMap_def, List.flatMap_def]
 congr 1
 exact List.map_congr_left fun i hi => by obtain ⟨h1, h2⟩ := h i (List.mem_range.1 hi); rw [h1, h2]
theorem t0a (n : Nat) : List.replicate (n * 196) (Value.int .u64 0) = tmF n (fun _ => 0) (fun _ => cw 192 0) := by
 unfold tmF
 induction n with
 | zero => rfl
 | succ n ih =>
  rw [List.range_succ, List.flatMap_append, ← ih, Nat.succ_mul, ← List.replicate_append_replicate]
  congr 1
  simp only [List.flatMap_cons, List.flatMap_nil, List.append_nil, f0h]
  rw [List.replicate_append_replicate]
theorem v0K (l : List (Nat × PT)) : tmF l.length (fun i => (f0l l i).1) (fun i => tbL (f0l l i).2 16) = tmL l := rfl
end
section
open Go.RowKit Go.Mv Mvp Mvq
noncomputable def tkT (ls : List (List UInt8)) (k : Nat) : Nat → List Value := fun i => if i < k then tbL (rdT (ls.getD i [])) 16 else cw 192 0
theorem q0P (ls : List (List UInt8)) (k i : Nat) : (tkT ls k i).length = 192 := by
 unfold tkT
 split
 ·exact b0C _ _
 ·exact a0e _ _
noncomputable def l0c (a : Nat → Nat) (ls : List (List UInt8)) : List (Nat × PT) := (List.range ls.length).map fun i => (a i, rdT (ls.getD i []))
theorem n0j (a : Nat → Nat) (ls : List (List UInt8)) : (l0c a ls).length = ls.length := by simp [l0c]
theorem v0L (a : Nat → Nat) (ls : List (List UInt8)) (i : Nat) (h : i < ls.length) : f0l (l0c a ls) i = (a i, rdT (ls.getD i [])) := by
 unfold f0l l0c
 rw [List.getD_eq_getElem?_getD, List.getElem?_map, List.getElem?_range h]
 rfl
theorem t0b (a : Nat → Nat) (ls : List (List UInt8)) : tmF ls.length a (tkT ls ls.length) = tmL (l0c a ls) := by
 rw [← v0K, n0j]
 refine e0L _ _ _ _ _ fun i hi => ?_
 rw [v0L a ls i hi]
 refine ⟨rfl, ?_⟩
 unfold tkT
 rw [if_pos hi]
theorem t0c (n : Nat) (a : Nat → Nat) (ls : List (List UInt8)) : tmF n a (fun _ => cw 192 0) = tmF n a (tkT ls 0) := e0L _ _ _ _ _ fun i _ => ⟨rfl, by unfold tkT; rw [if_neg (Nat.not_lt_zero _)]⟩
theorem v0M (n : Nat) (a : Nat → Nat) (ls : List (List UInt8)) (k : Nat) (h : k < n) (l : List UInt8) (hl : ls.getD k [] = l) : splice (tmF n a (tkT ls k)) (k * 196 + 4) (tbL (rdT l) 16) = tmF n a (tkT ls (k + 1)) := by
 subst hl
 rw [s0Z n a _ (q0P ls k) k _ (b0C _ _) h]
 refine e0L _ _ _ _ _ fun i _ => ⟨rfl, ?_⟩
 unfold upN tkT
 by_cases e : i = k
 ·rw [if_pos e, if_pos ap13, e]
 ·rw [if_neg e]
  by_cases e2 : i < k
  ·rw [if_pos e2, if_pos ap13]
  ·rw [if_neg e2, if_neg ap13]
theorem x0I {w : World} {gT : Nat} {a : Nat → Nat} {ls : List (List UInt8)} {T : TypeId} (h : Has w gT (tmF ls.length a (tkT ls ls.length)) T) : Rd w (some ⟨gT, 0, none⟩) ((l0c a ls).length * 196) (tmL (l0c a ls)) := by
 rw [t0b] at h
 have := Rd.whole h
 rwa [v0t] at this
theorem t0Z (w : World) : Calls Tryz.prog 86 #[] w fun e w' => ∃ gc, e = .returned (.pointer (some ⟨gc, 0, none⟩)) ∧ Cv w' gc ∧ Fr Nob w w' :=
 (d0j w).mono fun _ _ ⟨gc, k1, _, k2, k3⟩ => ⟨gc, k1, k2, k3⟩
attribute [local irreducible] a0y lw mix cw b0q b0r b0i beN b0x a0Q a0A a0J elN mdL a0N rtN rtV b0S gXn gYn PT.L j0F j0e e0Z tbL tmR tmL dbN g0I g0t g0c dig rdT b0w a0W ptL e0v c0P a0O tmF upN
theorem x0J (n : Nat) (a : Nat → Nat) (ls : List (List UInt8)) (hls : ls.length = n) (hn : n ≤ 100000) (gb gT : Nat) (w : World) (hne : gb ≠ gT) (hgb : Has w gb [.slice (some ⟨gT, 0, none⟩) n n] 199) (hgt : Has w gT (tmF n a fun _ => cw 192 0) 147)
  (ap : Option Addr) (cp : Nat) (hoff : Off (One gT) ap) (hre : Rd w ap (ls.length * 12) (e0v ls)) :
  Calls Tryz.prog 181 #[.slice ap n cp, .pointer (some ⟨gb, 0, none⟩)] w fun e w' => e = .returned (.agg (g0c (l0c a ls)).L.toArray) ∧ Fr (One gT) w w' := by
 rw [t0c n a ls] at hgt
 have HLS := qH hls
 have HN := qH hn
 have hnI : (n : Int) ≤ 100000 := by omega
 have HNE := qH (show ¬ One gT gb from hne)
 have HGB := qH hgb
 have HGT := qH hgt
 have HOFF := qH hoff
 have HRE := qH hre
 clear hls hne hgb hgt hoff hre hn
 have st0 := St.one HGT.out
 go_enter Tryz.func181, Tryz.ntmps181
 go_wp2_with (with_reducible refine wSk 3 ?_)
 refine a0a st0 rfl rfl (z := .agg (List.replicate 12 (.int .u64 0)).toArray) ap11 (cw 12 0) ap9 ?_
 intro g3 w1 st1
 clear st0
 go_wp2
 go_loopw [8] (fun x wr => ∃ k : Nat, k ≤ n ∧ x = .int .i64 (k : Int) ∧ St (One gT) w wr [(gT, tmF n a (tkT ls k), 147), (g3, cw 12 0, 117)]) (fun x _ => n - (intOf x).toNat)
 case atStart => exact ⟨0, Nat.zero_le _, rfl, st1⟩
 case round =>
  obtain ⟨k, hk, rfl, st⟩ := hrel
  clear st1
  by_cases hlt : k < n
  ·have hltI : (k : Int) < (n : Int) := by omega
   obtain ⟨ba, oa, hea, -⟩ := HRE.out.at (by have := HLS.out; omega)
   subst hea
   have hk0 : (0 : Int) ≤ (k : Int) := by omega
   have hpa := q0B ls k (by rw [HLS.out]; exact hlt)
   generalize hl : ls.getD k [] = l at *
   have HLL := qH hl
   have HPA := qH hpa
   clear hl hpa
   have HLT := qH hlt
   have HLK := qH (show k < ls.length by rw [HLS.out]; exact hlt)
   clear hlt
   go_wp2_with (with_reducible refine wSk 12 ?_)
   refine f0t rfl rfl Tryz.underlying117 rfl rfl (u0V (HRE.out.keep st.fr HOFF.out) (k * 12) ((rdT l).L) HPA.out) ap6 ?_
   go_wp2_with (with_reducible refine wSk 5 ?_)
   refine a0a st rfl rfl (z := .agg (List.replicate 12 (.int .u64 0)).toArray) ap11 (cw 12 0) ap9 ?_
   intro g5 w2 st2
   clear st
   go_wp2_with (with_reducible refine wSn ?_)
   refine a0b st2 2 rfl rfl rfl rfl rfl (by first | (simp only [a0e]; done) | (simp only [a0e, PT.len]; done)) ap6 (PT.one _) ?_
   intro w3 st3
   clear st2
   go_wp2_with fail
   refine wp_region_noPanic ?_
   refine a0g st3 7 [.t 0, .w 1, .t 3, .c 2, .c 4, .w 5, .w 6] (.m 7 .nil) ap11 ap11 (fun _ _ _ _ _ h => h) ?_
   clear st3
   refine b0f (v := ?_) rfl rfl (fun xq wx hS => ?_) ?_
   rotate_left 1
   ·(have hc := (HGB.out.keep (St.fr hS) HNE.out).cell (show [Value.slice (some ⟨gT, 0, none⟩) n n][0]? = _ from rfl); clear hS; go_simp; with_reducible rfl)
   try simp only [clL]
   refine a0j rfl rfl apX ?_
   try simp only [clL]
   refine a0h rfl rfl rfl (fun _ => rfl) ((rdT l).L) (fun wx hS => St.rangeL hS 2 rfl 0 _ dZl) Tryz.underlying117 rfl ap6 ?_
   try simp only [clL]
   refine a0K (X := Nat) (fun gc => .pointer (some ⟨gc, 0, none⟩)) (fun gc w => Cv w gc) (fun _ _ _ h k => h.keep k) rfl rfl rfl Tryz.call86 (fun w hS hR => t0Z _) (fun _ => rfl) fun gc => ?_
   try simp only [clL]
   refine a0k rfl rfl rfl Tryz.call99 (fun w hS hR => e0p (rdT l) gc _ hR.2) (fun _ => rfl) ?_
   try simp only [clL]
   refine a0j rfl rfl apX ?_
   try simp only [clL]
   refine a0j rfl rfl apX ?_
   try simp only [clL]
   refine a0I fun xq w4 st4 hR => ?_
   try dsimp only
   clear hR xq
   refine a0p rfl rfl ?_
   refine h0x st4 0 rfl rfl rfl rfl (tmF n a (tkT ls (k + 1))) (v0M n a ls k HLT.out l HLL.out) (by rw [q0O n a _ (q0P ls k), b0C]; have := HLT.out; omega) (by first | (rw [a0e]; kernel_rfl) | (simp only [b0C]; kernel_rfl)) (q0l _ _) ?_
   intro w5 st5
   have st5 : St (One gT) w w5 [(gT, tmF n a (tkT ls (k + 1)), 147), (g3, cw 12 0, 117), (g5, (rdT l).L, 117)] := st5
   clear st4
   try simp only [Act.put]
   refine a0f ?_
   refine NoPanic.normal ?_
   go_wp2_with fail
   go_roundw
   case rel => exact ⟨k + 1, by have := HLT.out; omega, by go_num, St.less st5 ap14⟩
   case measure => have := HLT.out; simp [intOf]; omega
  ·have hltI : ¬ ((k : Int) < (n : Int)) := by omega
   have hkn : k = ls.length := by rw [HLS.out]; omega
   have hnl : n = ls.length := HLS.out.symm
   subst hkn
   have HNL := qH hnl
   clear hnl
   have hHT := st.at 0 rfl
   clear hHT
   go_wp2_with fail
   refine wp_region_noPanic ?_
   refine a0g st 3 [.t 1, .c 0, .c 2] (.m 3 .nil) ap11 ap11 (fun _ _ _ _ _ h => h) ?_
   clear st
   refine b0f (v := ?_) rfl rfl (fun xq wx hS => ?_) ?_
   rotate_left 1
   ·(have hc := (HGB.out.keep (St.fr hS) HNE.out).cell (show [Value.slice (some ⟨gT, 0, none⟩) n n][0]? = _ from rfl); clear hS; go_simp; with_reducible rfl)
   try simp only [clL]
   refine a0K (X := Nat) (fun gc => .pointer (some ⟨gc, 0, none⟩)) (fun gc w => Cv w gc) (fun _ _ _ h k => h.keep k) rfl rfl rfl Tryz.call86 (fun w hS hR => t0Z _) (fun _ => rfl) fun gc => ?_
   try simp only [clL]
   refine a0k rfl rfl rfl Tryz.call98 (fun w hS hR => v0x (l0c a ls) gc (some ⟨gT, 0, none⟩) n n _ hR.2 (by rw [n0j]; exact HLS.out) HN.out (x0I (by have h := St.at hS 0 rfl; rw [HNL.out] at h; exact h))) (fun _ => rfl) ?_
   try simp only [clL]
   refine a0I fun xq w2 st2 hR => ?_
   try dsimp only
   clear hR xq
   refine a0p rfl rfl ?_
   refine a0i st2 1 rfl rfl rfl rfl (by first | (simp only [a0e]; done) | (simp only [a0e, PT.len]; done)) ap6 (PT.one _) ?_
   intro w3 st3
   try simp only [List.set_cons_zero, List.set_cons_succ] at st3
   clear st2
   try simp only [Act.put]
   refine a0f ?_
   refine NoPanic.normal ?_
   have hr := st3.at 1 rfl
   have hfr := st3.fr
   clear st3
   go_wp2_with fail
   exact bodyPost_ret (a0B rfl rfl hr Tryz.underlying117 rfl ap6) rfl ⟨rfl, hfr⟩
end
end Go.Proofs.YtemcankmggmgoaaGreat
