/- ; ; ; ; ; ; ; ; ; ; ; ; ; ; ; ; ; ; ; ; ; ; ; ; . -/
import Derived.Test.YtemcankmggmgoaaGreatMgSigmaBatchesProof6
import Derived.Test.YtemcankmggmgoaaGreatMgSigmaBatchesProof4
import Derived.Test.YtemcankmggmgoaaGreatMgSigmaBatchesProof2
import Derived.IntWalk
import Derived.Deep.DeepCutAuto
import Derived.Test.YtemcankmggmgoaaGreatMgSigmaBatchesProof1
import Derived.Test.YtemcankmggmgoaaGreatMgSigmaBatchesProof5
import Derived.Test.YtemcankmggmgoaaGreatMgSigmaBatchesProof3
set_option maxHeartbeats 16000000
set_option maxRecDepth 1000000
open Go.Proofs.Tryz

namespace Go.Mv
open Go.RowKit
theorem eJ {w : World} {b o n : Nat} {vs : List Value} (h : Rd w (some ⟨b, o, none⟩) n vs) (v : Value) (hv : vs[0]? = some v) : w.cell? ⟨b, o, none⟩ = some v := by
 have hl : 0 < vs.length := by
  rcases Nat.eq_zero_or_pos vs.length with h0 | h0
  ·rw [List.length_eq_zero_iff.1 h0] at hv; cases hv
  ·exact h0
 obtain ⟨b', o', he, hc⟩ := h.at (by have := h.len; omega)
 simp only [Option.some.injEq, Addr.mk.injEq] at he
 obtain ⟨rfl, rfl, -⟩ := he
 simpa using hc 0 v hv
theorem RdB.tail {w : World} {a : Option Addr} {n : Nat} {l : List UInt8} (h : RdB w a n l) (c : Nat) (h1 : 1 ≤ n) (hc : n ≤ c) : RdB w (fY a 1 c) (n - 1) (l.drop 1) := by
 have h2 := yK h 1 n c h1 hc (Nat.le_refl _)
 have hl := h.len
 have e : ((bs l).drop 1).take (n - 1) = bs (l.drop 1) := by
  rw [List.take_of_length_le (by rw [List.length_drop, bP]; omega)]
  simp [bs]
 rw [e] at h2
 exact h2
end Go.Mv
namespace Go.Proofs.YtemcankmggmgoaaGreat
section
open Go.RowKit Go.Mv Mvp Mvq
theorem e0L : prog.built 111 [] = some #[.int .u64 0, .int .u64 0, .int .u64 0, .int .u64 0] := by kernel_rfl
theorem sL : prog.built 117 [] = some (cw 4 0 ++ (cw 4 0 ++ cw 4 0)).toArray := by kernel_rfl
theorem nH : (prog.info? 5).map (·.size) = some 1 := by kernel_rfl
theorem i0V : (prog.info? 58).map (·.size) = some 1 := by kernel_rfl
theorem i0W (x y : Nat) {o : Oper} {a : Act} {p q : Operand} {T : TypeId} (ho : o.op = .binOp .eql 111 p q T) (hp : a.eval p = i4 x) (hq : a.eval q = i4 y) {b : Bool} (hb : decide (x % B64 ^ 4 = y % B64 ^ 4) = b) (w : World) :
  (execOp a.eval o).run prog w = .ok (.value (.bool b)) w := by
 subst hb
 exact kU ho hp hq w (run_eqGuard_agg w .eql 111 p q _ _ Tryz.eqGuardType111) (mO w (zM underlying111 underlying58 i0V x y w))
theorem xP (l : List UInt8) (h : l.length = 33) : tlN l < B64 ^ 4 := pD (l.drop 1) (by rw [List.length_drop]; omega)
theorem qV (a : Option Addr) (c : Nat) (l : List UInt8) (w : World) (hb : RdB w a 32 (l.drop 1)) : Calls prog 144 #[.slice a 32 c] w fun e w' => e = .returned (i4 (tlN l)) ∧ Fr Nob w w' :=
 gK a 32 c (l.drop 1) w hb Ac
def atY (M n : Nat) : Nat := if dW M (lN n) then rtV M (lN n) else 0
theorem t0y (m : Md) (gc gp bx by_ : Nat) (w : World) (hok : m.Ok) (hcv : Has w gc (nT m gp bx by_) 125) (hpm : Has w gp (mdL m) 187) (x : Nat) :
  Calls prog 184 #[.pointer (some ⟨gc, 0, none⟩), i4 (elN m x)] w fun e w' => e = .returned (.tuple #[ptV m x (atY m.M x) 1, .bool (dW m.M (lN x))]) ∧ Fr Nob w w' := by
 unfold atY
 cases h : dW m.M (lN x)
 ·exact s0E m gc gp bx by_ w hok hcv hpm x _ _ _ rfl rfl rfl h
 ·exact s0D m gc gp bx by_ w hok hcv hpm x _ _ _ rfl rfl rfl h
theorem vC (a b : Nat) (w : World) (ha : a < B64 ^ 4) (hb : b < B64 ^ 4) (r : Bool) (hr : decide (a < b) = r) :
  Calls prog 145 #[i4 a, i4 b] w fun e w' => e = .returned (.bool r) ∧ Fr Nob w w' := by
 subst hr; exact pI a b w ha hb
theorem q0c (m : Md) (gc gp bx by_ : Nat) (w : World) (hok : m.Ok) (hcv : Has w gc (nT m gp bx by_) 125) (hpm : Has w gp (mdL m) 187) (x : Nat) (r : Bool) (hr : dW m.M (lN x) = r) :
  Calls prog 184 #[.pointer (some ⟨gc, 0, none⟩), i4 (elN m x)] w fun e w' => e = .returned (.tuple #[.agg (cw 4 (elN m x) ++ (cw 4 (elN m (atY m.M x)) ++ cw 4 (elN m 1))).toArray, .bool r]) ∧ Fr Nob w w' := by
 subst hr; exact t0y m gc gp bx by_ w hok hcv hpm x
theorem g0p (m : Md) (gc gp bx by_ : Nat) (w : World) (hok : m.Ok) (hcv : Has w gc (nT m gp bx by_) 125) (hpm : Has w gp (mdL m) 187) (x y z : Nat) :
  Calls prog 185 #[.pointer (some ⟨gc, 0, none⟩), .agg (cw 4 (elN m x) ++ (cw 4 (elN m y) ++ cw 4 (elN m z))).toArray] w fun e w' => e = .returned (.agg (cw 4 (elN m x) ++ (cw 4 (elN m (m.M - y % m.M)) ++ cw 4 (elN m z))).toArray) ∧ Fr Nob w w' :=
 b0A m gc gp bx by_ w hok hcv hpm x y z
attribute [local irreducible] bI lw mix cw cT dG cS bQ aO beN dO cI dI bM bT elN mdL cL rtN rtV dW gXn gYn tlN atY lN
theorem e0M : (Value.agg #[.int .u64 0, .int .u64 0, .int .u64 0, .int .u64 0]) = i4 0 := by rw [i4, mG]; rfl
theorem i0X (x : Nat) (hx : x < B64 ^ 4) (b : Bool) (hb : (x == 0) = b) (w : World) :
  Calls prog 183 #[i4 x] w fun e w' => e = .returned (.bool b) ∧ Fr Nob w w' := by
 subst hb
 have HB := qH (show decide (x % B64 ^ 4 = 0 % B64 ^ 4) = (x == 0) by rw [Nat.mod_eq_of_lt hx, Nat.zero_mod]; rfl)
 clear hx
 have st0 := St.start Nob w
 go_enter func183, ntmps183
 go_wp2_with (with_reducible refine AA 1 ?_)
 refine aL st0 rfl rfl rfl (cw 4 x) rfl ?_
 intro g1 w1 st1
 clear st0
 go_wp2_with (with_reducible refine AA 3 ?_)
 refine aI st1 0 rfl rfl rfl underlying111 rfl Ad ?_
 go_wp2_with (with_reducible refine AA 4 ?_)
 refine gI rfl rfl _ e0L ?_
 rw [e0M]
 go_wp2_with (with_reducible refine AA 5 ?_)
 refine gM rfl (i0W x 0 rfl rfl rfl HB.out _) ?_
 have hfr := st1.fr
 clear st1
 go_wp2_with fail
 go_ret
 exact ⟨rfl, hfr⟩
theorem _root_.Bv {p : Prop} (h : p := by first | (simp only; done) | (simp only [List.length_append, aT]; done)) : p := h
theorem l0I (m : Md) (gc gp bx by_ : Nat) (w : World) (hok : m.Ok) (hcv : Has w gc (nT m gp bx by_) 125) (hpm : Has w gp (mdL m) 187) (a : Option Addr) (n c : Nat) (l : List UInt8) (hb : RdB w a n l) (_hc : n ≤ c) (h33 : l.length ≠ 33) :
  Calls prog 140 #[.pointer (some ⟨gc, 0, none⟩), .slice a n c] w fun e w' => e = .returned (.tuple #[ptV m 0 0 0, .bool false]) ∧ Fr Nob w w' := by
 have HOK := qH hok
 have HCV := qH hcv
 have HPM := qH hpm
 clear hok hcv hpm
 have HN := qH (show n ≠ 33 by have := hb.len; omega)
 clear hb _hc h33
 have st0 := St.start Nob w
 go_enter func140, ntmps140
 go_wp2_with (with_reducible refine AA 4 ?_)
 refine aA st0 rfl rfl (z := .agg (List.replicate 12 (.int .u64 0)).toArray) Aa (cw 4 0 ++ (cw 4 0 ++ cw 4 0)) Af ?_
 intro g4 w1 st1
 clear st0
 have hne : ((n : Int) != 33) = true := by have := HN.out; simp; omega
 go_wp2_with (with_reducible refine AA 12 ?_)
 refine gI rfl rfl _ sL ?_
 go_wp2_with (with_reducible refine AB ?_)
 refine aB st1 0 rfl rfl rfl rfl rfl Bv Ad (bX _ _ _) ?_
 intro w2 st2
 clear st1
 have hr := st2.at 0 rfl
 have hfr := st2.fr
 clear st2
 go_wp2_with fail
 exact bodyPost_ret (bF rfl rfl hr underlying117 rfl Ad rfl) rfl ⟨by unfold ptV ptL; rw [kE]; rfl, hfr⟩
theorem b0U (m : Md) (gc gp bx by_ : Nat) (w : World) (hok : m.Ok) (hcv : Has w gc (nT m gp bx by_) 125) (hpm : Has w gp (mdL m) 187) (a : Option Addr) (n c : Nat) (l : List UInt8) (hb : RdB w a n l) (hc : n ≤ c) (h33 : l.length = 33) (h0 : (bs l)[0]? = some (.int .u8 0)) (b : Bool) (hzb : (tlN l == 0) = b) :
  Calls prog 140 #[.pointer (some ⟨gc, 0, none⟩), .slice a n c] w fun e w' => e = .returned (.tuple #[ptV m 1 1 0, .bool b]) ∧ Fr Nob w w' := by
 have HOK := qH hok
 have HCV := qH hcv
 have HPM := qH hpm
 clear hok hcv hpm
 have h33n : n = 33 := by have := hb.len; omega
 subst h33n
 obtain ⟨ba, oa, rfl, -⟩ := Rd.at hb Ac
 have HB := qH hb
 have HC := qH hc
 have HT := qH (RdB.tail hb c Ac hc)
 have H0 := qH h0
 have HTN := qH (xP l h33)
 clear hb hc h33 h0
 have HZB := qH hzb
 clear hzb
 have st0 := St.start Nob w
 go_enter func140, ntmps140
 go_wp2_with (with_reducible refine AA 4 ?_)
 refine aA st0 rfl rfl (z := .agg (List.replicate 12 (.int .u64 0)).toArray) Aa (cw 4 0 ++ (cw 4 0 ++ cw 4 0)) Af ?_
 intro g4 w1 st1
 clear st0
 have hne : (((33 : Nat) : Int) != 33) = false := by rfl
 go_wp2_with (with_reducible refine AA 14 ?_)
 refine qZ rfl rfl underlying22 nH rfl 1 33 ⟨_, rfl⟩ rfl Ac HC.out ?_
 rw [show (33 : Nat) - 1 = 32 from rfl]
 go_wp2_with fail
 refine (qV _ _ l _ (HT.out.still st1.fr)).mono ?_
 rintro e' w2 ⟨rfl, hf2⟩
 have st2 := st1.keep hf2
 clear st1 hf2
 go_wp2_with (with_reducible refine AA 6 ?_)
 refine aA st2 rfl rfl (z := zAd) Aa (cw 4 0) Af ?_
 intro g6 w3 st3
 clear st2
 go_wp2_with (with_reducible refine AB ?_)
 refine aB st3 1 rfl rfl rfl rfl rfl Ah Ad (aF _ _) ?_
 intro w4 st4
 clear st3
 have hcell := eJ (HB.out.still st4.fr) _ H0.out
 go_wp2_with fail
 clear hcell
 go_wp2_with fail
 refine wp_region_noPanic ?_
 refine aP (fun wx => St Nob w wx [(g4, cw 4 0 ++ (cw 4 0 ++ cw 4 0), 117), (g6, cw 4 (tlN l), 111)]) 4 (.w 0 (.t 2 (.r 1 (.r 3 (.m 4 (.w 5 .nil)))))) Aa Aa st4.drew (fun _ _ _ _ _ h => h) ?_
 have hd4 := st4.drew
 clear st4
 refine aJ rfl rfl apW ?_
 try simp only [J]
 refine aV rfl rfl rfl rfl (cw 4 (tlN l)) (fun wx hS => St.rangeL hS 1 rfl 0 _ dZl) underlying111 rfl Ad ?_
 try simp only [J]
 refine bC rfl rfl ?_
 go_simp
 refine (b0O m gc gp bx by_ _ HOK.out (HCV.out.keep hd4.fr id) (HPM.out.keep hd4.fr id)).mono ?_
 rintro e' w5 ⟨rfl, hf5⟩
 have st5 := hd4.keep hf5
 clear hf5
 clear hd4
 refine ⟨st5, ?_⟩
 try simp only [J]
 refine bC rfl rfl ?_
 go_simp
 refine (i0X (tlN l) HTN.out b HZB.out _).mono ?_
 rintro e' w6 ⟨rfl, hf6⟩
 have st6 := st5.keep hf6
 clear hf6
 clear st5
 refine ⟨st6, ?_⟩
 try simp only [J]
 refine aU rfl rfl ?_
 refine aG st6 0 rfl rfl rfl rfl Ah Ad (bX _ _ _) ?_
 intro w7 st7
 clear st6
 try simp only [Act.put]
 refine aJ rfl rfl apW ?_
 try simp only [J]
 refine aH ?_
 refine NoPanic.normal ?_
 have hr := st7.at 0 rfl
 have hfr := st7.fr
 clear st7
 go_wp2_with fail
 exact bodyPost_ret (bF rfl rfl hr underlying117 rfl Ad rfl) rfl ⟨by unfold ptV ptL; rfl, hfr⟩
theorem l0J (m : Md) (gc gp bx by_ : Nat) (w : World) (hok : m.Ok) (hcv : Has w gc (nT m gp bx by_) 125) (hpm : Has w gp (mdL m) 187) (a : Option Addr) (n c : Nat) (l : List UInt8) (hb : RdB w a n l) (hc : n ≤ c) (h33 : l.length = 33) (q : Nat) (h0 : (bs l)[0]? = some (.int .u8 (q : Int))) (hq0 : ((q : Int) == 0) = false) (hq2 : ((q : Int) != 2) = true) (hq3 : ((q : Int) != 3) = true) :
  Calls prog 140 #[.pointer (some ⟨gc, 0, none⟩), .slice a n c] w fun e w' => e = .returned (.tuple #[ptV m 0 0 0, .bool false]) ∧ Fr Nob w w' := by
 have HOK := qH hok
 have HCV := qH hcv
 have HPM := qH hpm
 clear hok hcv hpm
 have h33n : n = 33 := by have := hb.len; omega
 subst h33n
 obtain ⟨ba, oa, rfl, -⟩ := Rd.at hb Ac
 have HB := qH hb
 have HC := qH hc
 have HT := qH (RdB.tail hb c Ac hc)
 have H0 := qH h0
 have HTN := qH (xP l h33)
 clear hb hc h33 h0
 have HQ0 := qH hq0
 have HQ2 := qH hq2
 have HQ3 := qH hq3
 clear hq0 hq2 hq3
 have st0 := St.start Nob w
 go_enter func140, ntmps140
 go_wp2_with (with_reducible refine AA 4 ?_)
 refine aA st0 rfl rfl (z := .agg (List.replicate 12 (.int .u64 0)).toArray) Aa (cw 4 0 ++ (cw 4 0 ++ cw 4 0)) Af ?_
 intro g4 w1 st1
 clear st0
 have hne : (((33 : Nat) : Int) != 33) = false := by rfl
 go_wp2_with (with_reducible refine AA 14 ?_)
 refine qZ rfl rfl underlying22 nH rfl 1 33 ⟨_, rfl⟩ rfl Ac HC.out ?_
 rw [show (33 : Nat) - 1 = 32 from rfl]
 go_wp2_with fail
 refine (qV _ _ l _ (HT.out.still st1.fr)).mono ?_
 rintro e' w2 ⟨rfl, hf2⟩
 have st2 := st1.keep hf2
 clear st1 hf2
 go_wp2_with (with_reducible refine AA 6 ?_)
 refine aA st2 rfl rfl (z := zAd) Aa (cw 4 0) Af ?_
 intro g6 w3 st3
 clear st2
 go_wp2_with (with_reducible refine AB ?_)
 refine aB st3 1 rfl rfl rfl rfl rfl Ah Ad (aF _ _) ?_
 intro w4 st4
 clear st3
 have hq0 := HQ0.out
 have hq2 := HQ2.out
 have hq3 := HQ3.out
 have hcell := eJ (HB.out.still st4.fr) _ H0.out
 go_wp2_with fail
 clear hcell
 go_wp2_with fail
 refine wp_region_noPanic ?_
 refine cW (fun wx => St Nob w wx [(g4, cw 4 0 ++ (cw 4 0 ++ cw 4 0), 117), (g6, cw 4 (tlN l), 111)]) 22 (.w 0 (.w 1 (.t 2 (.w 3 (.w 4 (.w 5 (.w 6 (.t 7 (.w 8 (.w 9 (.w 10 (.t 11 (.w 12 (.w 13 (.w 14 (.t 15 (.w 16 (.w 17 (.t 18 (.r 19 (.w 20 (.w 21 (.m 22 .nil))))))))))))))))))))))) Aa Aa st4.drew (fun _ _ _ _ _ h => h) ?_
 have hd4 := st4.drew
 clear st4
 refine aQ rfl rfl apW ?_
 try simp only [J]
 refine aQ rfl rfl apW ?_
 try simp only [J]
 refine iN (v := ?_) rfl rfl (fun wx hS => ?_) ?_
 rotate_left 1
 ·(have hc := (eJ (HB.out.still (St.fr hS)) _ H0.out); clear hS; go_simp; with_reducible rfl)
 try simp only [J]
 refine aQ rfl rfl apW ?_
 try simp only [J]
 refine aQ rfl rfl apW ?_
 try simp only [J]
 refine aQ rfl rfl apW ?_
 try simp only [J]
 refine aQ rfl rfl apW ?_
 try simp only [J]
 refine iN (v := ?_) rfl rfl (fun wx hS => ?_) ?_
 rotate_left 1
 ·(have hc := (eJ (HB.out.still (St.fr hS)) _ H0.out); clear hS; go_simp; with_reducible rfl)
 try simp only [J]
 refine aQ rfl rfl apW ?_
 try simp only [J]
 refine aQ rfl rfl apW ?_
 try simp only [J]
 refine aQ rfl rfl apW ?_
 try simp only [J]
 refine eT rfl rfl ?_
 try simp only [J]
 refine cG rfl rfl ?_
 try simp only [J]
 refine cG rfl rfl ?_
 try simp only [J]
 refine cG rfl rfl ?_
 try simp only [J]
 refine eT rfl rfl ?_
 try simp only [J]
 refine cG rfl rfl ?_
 try simp only [J]
 refine cG rfl rfl ?_
 try simp only [J]
 refine eT rfl rfl ?_
 try simp only [J]
 refine jO rfl rfl ⟨hd4, ?_⟩
 try simp only [J]
 refine cG rfl rfl ?_
 try simp only [J]
 refine aQ rfl rfl apW ?_
 try simp only [J]
 refine lP rfl rfl ?_
 go_simp
 try simp only [J]
 refine gN ?_
 have st5 := hd4
 clear hd4
 refine NoPanic.normal ?_
 go_wp2_with (with_reducible refine AA 48 ?_)
 refine gI rfl rfl _ sL ?_
 go_wp2_with (with_reducible refine AB ?_)
 refine aB st5 0 rfl rfl rfl rfl rfl Bv Ad (bX _ _ _) ?_
 intro w6 st6
 clear st5
 have hr := st6.at 0 rfl
 have hfr := st6.fr
 clear st6
 go_wp2_with fail
 exact bodyPost_ret (bF rfl rfl hr underlying117 rfl Ad rfl) rfl ⟨by unfold ptV ptL; rw [kE]; rfl, hfr⟩
theorem l0K (m : Md) (gc gp bx by_ : Nat) (w : World) (hok : m.Ok) (hcv : Has w gc (nT m gp bx by_) 125) (hpm : Has w gp (mdL m) 187) (a : Option Addr) (n c : Nat) (l : List UInt8) (hb : RdB w a n l) (hc : n ≤ c) (h33 : l.length = 33) (h0 : (bs l)[0]? = some (.int .u8 2)) (hlt : decide (tlN l < m.M) = false) :
  Calls prog 140 #[.pointer (some ⟨gc, 0, none⟩), .slice a n c] w fun e w' => e = .returned (.tuple #[ptV m 0 0 0, .bool false]) ∧ Fr Nob w w' := by
 have HOK := qH hok
 have HCV := qH hcv
 have HPM := qH hpm
 clear hok hcv hpm
 have h33n : n = 33 := by have := hb.len; omega
 subst h33n
 obtain ⟨ba, oa, rfl, -⟩ := Rd.at hb Ac
 have HB := qH hb
 have HC := qH hc
 have HT := qH (RdB.tail hb c Ac hc)
 have H0 := qH h0
 have HTN := qH (xP l h33)
 clear hb hc h33 h0
 have HDL := qH hlt
 clear hlt
 have st0 := St.start Nob w
 go_enter func140, ntmps140
 go_wp2_with (with_reducible refine AA 4 ?_)
 refine aA st0 rfl rfl (z := .agg (List.replicate 12 (.int .u64 0)).toArray) Aa (cw 4 0 ++ (cw 4 0 ++ cw 4 0)) Af ?_
 intro g4 w1 st1
 clear st0
 have hne : (((33 : Nat) : Int) != 33) = false := by rfl
 go_wp2_with (with_reducible refine AA 14 ?_)
 refine qZ rfl rfl underlying22 nH rfl 1 33 ⟨_, rfl⟩ rfl Ac HC.out ?_
 rw [show (33 : Nat) - 1 = 32 from rfl]
 go_wp2_with fail
 refine (qV _ _ l _ (HT.out.still st1.fr)).mono ?_
 rintro e' w2 ⟨rfl, hf2⟩
 have st2 := st1.keep hf2
 clear st1 hf2
 go_wp2_with (with_reducible refine AA 6 ?_)
 refine aA st2 rfl rfl (z := zAd) Aa (cw 4 0) Af ?_
 intro g6 w3 st3
 clear st2
 go_wp2_with (with_reducible refine AB ?_)
 refine aB st3 1 rfl rfl rfl rfl rfl Ah Ad (aF _ _) ?_
 intro w4 st4
 clear st3
 have hcell := eJ (HB.out.still st4.fr) _ H0.out
 go_wp2_with fail
 clear hcell
 go_wp2_with fail
 refine wp_region_noPanic ?_
 refine cW (fun wx => St Nob w wx [(g4, cw 4 0 ++ (cw 4 0 ++ cw 4 0), 117), (g6, cw 4 (tlN l), 111)]) 22 (.w 0 (.w 1 (.t 2 (.w 3 (.w 4 (.w 5 (.w 6 (.t 7 (.w 8 (.w 9 (.w 10 (.t 11 (.w 12 (.w 13 (.w 14 (.t 15 (.w 16 (.w 17 (.t 18 (.r 19 (.w 20 (.w 21 (.m 22 .nil))))))))))))))))))))))) Aa Aa st4.drew (fun _ _ _ _ _ h => h) ?_
 have hd4 := st4.drew
 clear st4
 refine aQ rfl rfl apW ?_
 try simp only [J]
 refine aQ rfl rfl apW ?_
 try simp only [J]
 refine iN (v := ?_) rfl rfl (fun wx hS => ?_) ?_
 rotate_left 1
 ·(have hc := (eJ (HB.out.still (St.fr hS)) _ H0.out); clear hS; go_simp; with_reducible rfl)
 try simp only [J]
 refine aQ rfl rfl apW ?_
 try simp only [J]
 refine aQ rfl rfl apW ?_
 try simp only [J]
 refine cG rfl rfl ?_
 try simp only [J]
 refine cG rfl rfl ?_
 try simp only [J]
 refine eT rfl rfl ?_
 try simp only [J]
 refine cG rfl rfl ?_
 try simp only [J]
 refine aQ rfl rfl apW ?_
 try simp only [J]
 refine aQ rfl rfl apW ?_
 try simp only [J]
 refine bY rfl rfl rfl rfl (cw 4 (tlN l)) (fun wx hS => St.rangeL hS 1 rfl 0 _ dZl) underlying111 rfl Ad ?_
 try simp only [J]
 refine aQ rfl rfl apW ?_
 try simp only [J]
 refine aQ rfl rfl apW ?_
 try simp only [J]
 refine aQ rfl rfl apW ?_
 try simp only [J]
 refine iN (v := ?_) rfl rfl (fun wx hS => ?_) ?_
 rotate_left 1
 ·(have hc := (HCV.out.keep (St.fr hS) id).cell (i := 0) rfl; clear hS; go_simp; with_reducible rfl)
 try simp only [J]
 refine aQ rfl rfl apW ?_
 try simp only [J]
 refine aQ rfl rfl apW ?_
 try simp only [J]
 refine bY rfl rfl rfl rfl (cw 4 m.M) (fun wx hS => (HPM.out.keep (St.fr hS) id).range 0 _ (c0o m)) underlying111 rfl Ad ?_
 try simp only [J]
 refine eV rfl rfl ?_
 go_simp
 refine (vC (tlN l) m.M _ HTN.out HOK.out.lt false HDL.out).mono ?_
 rintro e' w5 ⟨rfl, hf5⟩
 have st5 := hd4.keep hf5
 clear hf5
 clear hd4
 refine ⟨st5, ?_⟩
 try simp only [J]
 refine aQ rfl rfl apW ?_
 try simp only [J]
 refine aQ rfl rfl apW ?_
 try simp only [J]
 refine lP rfl rfl ?_
 go_simp
 try simp only [J]
 refine gN ?_
 refine NoPanic.normal ?_
 go_wp2_with (with_reducible refine AA 48 ?_)
 refine gI rfl rfl _ sL ?_
 go_wp2_with (with_reducible refine AB ?_)
 refine aB st5 0 rfl rfl rfl rfl rfl Bv Ad (bX _ _ _) ?_
 intro w6 st6
 clear st5
 have hr := st6.at 0 rfl
 have hfr := st6.fr
 clear st6
 go_wp2_with fail
 exact bodyPost_ret (bF rfl rfl hr underlying117 rfl Ad rfl) rfl ⟨by unfold ptV ptL; rw [kE]; rfl, hfr⟩
theorem e0N (m : Md) (gc gp bx by_ : Nat) (w : World) (hok : m.Ok) (hcv : Has w gc (nT m gp bx by_) 125) (hpm : Has w gp (mdL m) 187) (a : Option Addr) (n c : Nat) (l : List UInt8) (hb : RdB w a n l) (hc : n ≤ c) (h33 : l.length = 33) (h0 : (bs l)[0]? = some (.int .u8 2)) (hlt : decide (tlN l < m.M) = true) (r : Bool) (hr : dW m.M (lN (tlN l)) = r) :
  Calls prog 140 #[.pointer (some ⟨gc, 0, none⟩), .slice a n c] w fun e w' => e = .returned (.tuple #[ptV m (tlN l) (atY m.M (tlN l)) 1, .bool r]) ∧ Fr Nob w w' := by
 have HOK := qH hok
 have HCV := qH hcv
 have HPM := qH hpm
 clear hok hcv hpm
 have h33n : n = 33 := by have := hb.len; omega
 subst h33n
 obtain ⟨ba, oa, rfl, -⟩ := Rd.at hb Ac
 have HB := qH hb
 have HC := qH hc
 have HT := qH (RdB.tail hb c Ac hc)
 have H0 := qH h0
 have HTN := qH (xP l h33)
 clear hb hc h33 h0
 have HDL := qH hlt
 clear hlt
 have HR := qH hr
 clear hr
 have st0 := St.start Nob w
 go_enter func140, ntmps140
 go_wp2_with (with_reducible refine AA 4 ?_)
 refine aA st0 rfl rfl (z := .agg (List.replicate 12 (.int .u64 0)).toArray) Aa (cw 4 0 ++ (cw 4 0 ++ cw 4 0)) Af ?_
 intro g4 w1 st1
 clear st0
 have hne : (((33 : Nat) : Int) != 33) = false := by rfl
 go_wp2_with (with_reducible refine AA 14 ?_)
 refine qZ rfl rfl underlying22 nH rfl 1 33 ⟨_, rfl⟩ rfl Ac HC.out ?_
 rw [show (33 : Nat) - 1 = 32 from rfl]
 go_wp2_with fail
 refine (qV _ _ l _ (HT.out.still st1.fr)).mono ?_
 rintro e' w2 ⟨rfl, hf2⟩
 have st2 := st1.keep hf2
 clear st1 hf2
 go_wp2_with (with_reducible refine AA 6 ?_)
 refine aA st2 rfl rfl (z := zAd) Aa (cw 4 0) Af ?_
 intro g6 w3 st3
 clear st2
 go_wp2_with (with_reducible refine AB ?_)
 refine aB st3 1 rfl rfl rfl rfl rfl Ah Ad (aF _ _) ?_
 intro w4 st4
 clear st3
 have hcell := eJ (HB.out.still st4.fr) _ H0.out
 go_wp2_with fail
 clear hcell
 go_wp2_with fail
 refine wp_region_noPanic ?_
 refine cW (fun wx => St Nob w wx [(g4, cw 4 0 ++ (cw 4 0 ++ cw 4 0), 117), (g6, cw 4 (tlN l), 111)]) 22 (.w 0 (.w 1 (.t 2 (.w 3 (.w 4 (.w 5 (.w 6 (.t 7 (.w 8 (.w 9 (.w 10 (.t 11 (.w 12 (.w 13 (.w 14 (.t 15 (.w 16 (.w 17 (.t 18 (.r 19 (.w 20 (.w 21 (.m 22 .nil))))))))))))))))))))))) Aa Aa st4.drew (fun _ _ _ _ _ h => h) ?_
 have hd4 := st4.drew
 clear st4
 refine aQ rfl rfl apW ?_
 try simp only [J]
 refine aQ rfl rfl apW ?_
 try simp only [J]
 refine iN (v := ?_) rfl rfl (fun wx hS => ?_) ?_
 rotate_left 1
 ·(have hc := (eJ (HB.out.still (St.fr hS)) _ H0.out); clear hS; go_simp; with_reducible rfl)
 try simp only [J]
 refine aQ rfl rfl apW ?_
 try simp only [J]
 refine aQ rfl rfl apW ?_
 try simp only [J]
 refine cG rfl rfl ?_
 try simp only [J]
 refine cG rfl rfl ?_
 try simp only [J]
 refine eT rfl rfl ?_
 try simp only [J]
 refine cG rfl rfl ?_
 try simp only [J]
 refine aQ rfl rfl apW ?_
 try simp only [J]
 refine aQ rfl rfl apW ?_
 try simp only [J]
 refine bY rfl rfl rfl rfl (cw 4 (tlN l)) (fun wx hS => St.rangeL hS 1 rfl 0 _ dZl) underlying111 rfl Ad ?_
 try simp only [J]
 refine aQ rfl rfl apW ?_
 try simp only [J]
 refine aQ rfl rfl apW ?_
 try simp only [J]
 refine aQ rfl rfl apW ?_
 try simp only [J]
 refine iN (v := ?_) rfl rfl (fun wx hS => ?_) ?_
 rotate_left 1
 ·(have hc := (HCV.out.keep (St.fr hS) id).cell (i := 0) rfl; clear hS; go_simp; with_reducible rfl)
 try simp only [J]
 refine aQ rfl rfl apW ?_
 try simp only [J]
 refine aQ rfl rfl apW ?_
 try simp only [J]
 refine bY rfl rfl rfl rfl (cw 4 m.M) (fun wx hS => (HPM.out.keep (St.fr hS) id).range 0 _ (c0o m)) underlying111 rfl Ad ?_
 try simp only [J]
 refine eV rfl rfl ?_
 go_simp
 refine (vC (tlN l) m.M _ HTN.out HOK.out.lt true HDL.out).mono ?_
 rintro e' w5 ⟨rfl, hf5⟩
 have st5 := hd4.keep hf5
 clear hf5
 clear hd4
 refine ⟨st5, ?_⟩
 try simp only [J]
 refine aQ rfl rfl apW ?_
 try simp only [J]
 refine aQ rfl rfl apW ?_
 try simp only [J]
 refine lP rfl rfl ?_
 go_simp
 try simp only [J]
 refine gN ?_
 refine NoPanic.normal ?_
 go_wp2_with fail
 refine wp_region_noPanic ?_
 refine aP (fun wx => St Nob w wx [(g4, cw 4 0 ++ (cw 4 0 ++ cw 4 0), 117), (g6, cw 4 (tlN l), 111)]) 13 (.w 0 (.w 1 (.w 2 (.w 3 (.t 4 (.t 5 (.b 6 11 (.b 7 11 (.w 8 (.w 9 (.w 10 (.r 11 (.r 12 (.m 13 .nil)))))) (.r 7 (.w 8 (.w 9 (.w 10 (.r 12 (.m 13 .nil))))))) (.r 6 (.r 7 (.w 8 (.w 9 (.w 10 (.r 12 (.m 13 .nil)))))))))))))) Aa Aa st5.drew (fun _ _ _ _ _ h => h) ?_
 have hd5 := st5.drew
 clear st5
 refine aJ rfl rfl apW ?_
 try simp only [J]
 refine aJ rfl rfl apW ?_
 try simp only [J]
 refine aJ rfl rfl apW ?_
 try simp only [J]
 refine aJ rfl rfl apW ?_
 try simp only [J]
 refine jY (v := ?_) rfl rfl (fun wx hS => ?_) ?_
 rotate_left 1
 ·(have hc := (HCV.out.keep (St.fr hS) id).cell (i := 0) rfl; clear hS; go_simp; with_reducible rfl)
 try simp only [J]
 refine aV rfl rfl rfl rfl (cw 4 (tlN l)) (fun wx hS => St.rangeL hS 1 rfl 0 _ dZl) underlying111 rfl Ad ?_
 try simp only [J]
 refine mL (C := fun g7 wz => St Nob w wz [(g4, cw 4 0 ++ (cw 4 0 ++ cw 4 0), 117), (g6, cw 4 (tlN l), 111), (g7, cw 4 (elN m (tlN l)) ++ (cw 4 (elN m (atY m.M (tlN l))) ++ cw 4 (elN m 1)), 117)]) (F := ?_) (fun key => ?_) ?_
 rotate_left 1
 ·skip
  refine lH rfl rfl rfl rfl ?_ ?_
  ·skip
   go_simp
   refine (kF m gp _ HOK.out (HPM.out.keep hd5.fr id) (tlN l) HTN.out).mono ?_
   rintro e' w6 ⟨rfl, hf6⟩
   have st6 := hd5.keep hf6
   clear hf6
   refine ⟨st6, ?_⟩
   try simp only [J]
   refine lH rfl rfl rfl rfl ?_ ?_
   ·skip
    go_simp
    refine (q0c m gc gp bx by_ _ HOK.out (HCV.out.keep st6.fr id) (HPM.out.keep st6.fr id) (tlN l) r HR.out).mono ?_
    rintro e' w7 ⟨rfl, hf7⟩
    have st7 := st6.keep hf7
    clear hf7
    refine ⟨st7, ?_⟩
    try simp only [J]
    refine aJ rfl rfl apW ?_
    try simp only [J]
    refine aJ rfl rfl apW ?_
    try simp only [J]
    refine aJ rfl rfl apW ?_
    try simp only [J]
    refine bC rfl rfl ?_
    refine cH st7 rfl (z := zAc) Aa (cw 12 0) Af ?_
    intro g7 w8 st8
    refine ⟨St.less st8 Ae, ?_⟩
    try simp only [J]
    refine bC rfl rfl ?_
    refine aG st8 2 rfl rfl rfl rfl Ah Ad (bX _ _ _) ?_
    intro w9 st9
    refine ⟨St.less st9 Ae, ?_⟩
    try simp only [Act.put]
    refine aU rfl rfl ?_
    go_simp
    try simp only [J]
    refine aH ?_
    exact key g7 _ st9
   ·skip
    refine cH st6 rfl (z := zAc) Aa (cw 12 0) Af ?_
    intro g7 w10 st10
    refine ⟨St.less st10 Ae, ?_⟩
    try simp only [J]
    refine bC rfl rfl ?_
    go_simp
    refine (q0c m gc gp bx by_ _ HOK.out (HCV.out.keep st10.fr id) (HPM.out.keep st10.fr id) (tlN l) r HR.out).mono ?_
    rintro e' w11 ⟨rfl, hf11⟩
    have st11 := st10.keep hf11
    clear hf11
    refine ⟨St.less st11 Ae, ?_⟩
    try simp only [J]
    refine aJ rfl rfl apW ?_
    try simp only [J]
    refine aJ rfl rfl apW ?_
    try simp only [J]
    refine aJ rfl rfl apW ?_
    try simp only [J]
    refine bC rfl rfl ?_
    refine aG st11 2 rfl rfl rfl rfl Ah Ad (bX _ _ _) ?_
    intro w12 st12
    refine ⟨St.less st12 Ae, ?_⟩
    try simp only [Act.put]
    refine aU rfl rfl ?_
    go_simp
    try simp only [J]
    refine aH ?_
    exact key g7 _ st12
  ·skip
   refine cH hd5 rfl (z := zAc) Aa (cw 12 0) Af ?_
   intro g7 w13 st13
   refine ⟨St.less st13 Ae, ?_⟩
   try simp only [J]
   refine bC rfl rfl ?_
   go_simp
   refine (kF m gp _ HOK.out (HPM.out.keep st13.fr id) (tlN l) HTN.out).mono ?_
   rintro e' w14 ⟨rfl, hf14⟩
   have st14 := st13.keep hf14
   clear hf14
   refine ⟨St.less st14 Ae, ?_⟩
   try simp only [J]
   refine bC rfl rfl ?_
   go_simp
   refine (q0c m gc gp bx by_ _ HOK.out (HCV.out.keep st14.fr id) (HPM.out.keep st14.fr id) (tlN l) r HR.out).mono ?_
   rintro e' w15 ⟨rfl, hf15⟩
   have st15 := st14.keep hf15
   clear hf15
   refine ⟨St.less st15 Ae, ?_⟩
   try simp only [J]
   refine aJ rfl rfl apW ?_
   try simp only [J]
   refine aJ rfl rfl apW ?_
   try simp only [J]
   refine aJ rfl rfl apW ?_
   try simp only [J]
   refine bC rfl rfl ?_
   refine aG st15 2 rfl rfl rfl rfl Ah Ad (bX _ _ _) ?_
   intro w16 st16
   refine ⟨St.less st16 Ae, ?_⟩
   try simp only [Act.put]
   refine aU rfl rfl ?_
   go_simp
   try simp only [J]
   refine aH ?_
   exact key g7 _ st16
 intro g7 w17 st17
 have st17 : St Nob w w17 [(g4, cw 4 0 ++ (cw 4 0 ++ cw 4 0), 117), (g6, cw 4 (tlN l), 111), (g7, cw 4 (elN m (tlN l)) ++ (cw 4 (elN m (atY m.M (tlN l))) ++ cw 4 (elN m 1)), 117)] := st17
 clear hd5
 refine NoPanic.normal ?_
 have hcell := eJ (HB.out.still st17.fr) _ H0.out
 go_wp2_with (with_reducible refine AA 67 ?_)
 refine aM st17 2 rfl rfl rfl underlying117 rfl rfl Ad ?_
 go_wp2_with (with_reducible refine AB ?_)
 refine aB st17 0 rfl rfl rfl rfl rfl Ah Ad (bX _ _ _) ?_
 intro w18 st18
 clear st17
 have hr := st18.at 0 rfl
 have hfr := st18.fr
 clear st18
 go_wp2_with fail
 exact bodyPost_ret (bF rfl rfl hr underlying117 rfl Ad rfl) rfl ⟨by unfold ptV ptL; rfl, hfr⟩
theorem l0L (m : Md) (gc gp bx by_ : Nat) (w : World) (hok : m.Ok) (hcv : Has w gc (nT m gp bx by_) 125) (hpm : Has w gp (mdL m) 187) (a : Option Addr) (n c : Nat) (l : List UInt8) (hb : RdB w a n l) (hc : n ≤ c) (h33 : l.length = 33) (h0 : (bs l)[0]? = some (.int .u8 3)) (hlt : decide (tlN l < m.M) = false) :
  Calls prog 140 #[.pointer (some ⟨gc, 0, none⟩), .slice a n c] w fun e w' => e = .returned (.tuple #[ptV m 0 0 0, .bool false]) ∧ Fr Nob w w' := by
 have HOK := qH hok
 have HCV := qH hcv
 have HPM := qH hpm
 clear hok hcv hpm
 have h33n : n = 33 := by have := hb.len; omega
 subst h33n
 obtain ⟨ba, oa, rfl, -⟩ := Rd.at hb Ac
 have HB := qH hb
 have HC := qH hc
 have HT := qH (RdB.tail hb c Ac hc)
 have H0 := qH h0
 have HTN := qH (xP l h33)
 clear hb hc h33 h0
 have HDL := qH hlt
 clear hlt
 have st0 := St.start Nob w
 go_enter func140, ntmps140
 go_wp2_with (with_reducible refine AA 4 ?_)
 refine aA st0 rfl rfl (z := .agg (List.replicate 12 (.int .u64 0)).toArray) Aa (cw 4 0 ++ (cw 4 0 ++ cw 4 0)) Af ?_
 intro g4 w1 st1
 clear st0
 have hne : (((33 : Nat) : Int) != 33) = false := by rfl
 go_wp2_with (with_reducible refine AA 14 ?_)
 refine qZ rfl rfl underlying22 nH rfl 1 33 ⟨_, rfl⟩ rfl Ac HC.out ?_
 rw [show (33 : Nat) - 1 = 32 from rfl]
 go_wp2_with fail
 refine (qV _ _ l _ (HT.out.still st1.fr)).mono ?_
 rintro e' w2 ⟨rfl, hf2⟩
 have st2 := st1.keep hf2
 clear st1 hf2
 go_wp2_with (with_reducible refine AA 6 ?_)
 refine aA st2 rfl rfl (z := zAd) Aa (cw 4 0) Af ?_
 intro g6 w3 st3
 clear st2
 go_wp2_with (with_reducible refine AB ?_)
 refine aB st3 1 rfl rfl rfl rfl rfl Ah Ad (aF _ _) ?_
 intro w4 st4
 clear st3
 have hcell := eJ (HB.out.still st4.fr) _ H0.out
 go_wp2_with fail
 clear hcell
 go_wp2_with fail
 refine wp_region_noPanic ?_
 refine cW (fun wx => St Nob w wx [(g4, cw 4 0 ++ (cw 4 0 ++ cw 4 0), 117), (g6, cw 4 (tlN l), 111)]) 22 (.w 0 (.w 1 (.t 2 (.w 3 (.w 4 (.w 5 (.w 6 (.t 7 (.w 8 (.w 9 (.w 10 (.t 11 (.w 12 (.w 13 (.w 14 (.t 15 (.w 16 (.w 17 (.t 18 (.r 19 (.w 20 (.w 21 (.m 22 .nil))))))))))))))))))))))) Aa Aa st4.drew (fun _ _ _ _ _ h => h) ?_
 have hd4 := st4.drew
 clear st4
 refine aQ rfl rfl apW ?_
 try simp only [J]
 refine aQ rfl rfl apW ?_
 try simp only [J]
 refine iN (v := ?_) rfl rfl (fun wx hS => ?_) ?_
 rotate_left 1
 ·(have hc := (eJ (HB.out.still (St.fr hS)) _ H0.out); clear hS; go_simp; with_reducible rfl)
 try simp only [J]
 refine aQ rfl rfl apW ?_
 try simp only [J]
 refine aQ rfl rfl apW ?_
 try simp only [J]
 refine aQ rfl rfl apW ?_
 try simp only [J]
 refine aQ rfl rfl apW ?_
 try simp only [J]
 refine iN (v := ?_) rfl rfl (fun wx hS => ?_) ?_
 rotate_left 1
 ·(have hc := (eJ (HB.out.still (St.fr hS)) _ H0.out); clear hS; go_simp; with_reducible rfl)
 try simp only [J]
 refine aQ rfl rfl apW ?_
 try simp only [J]
 refine aQ rfl rfl apW ?_
 try simp only [J]
 refine aQ rfl rfl apW ?_
 try simp only [J]
 refine bY rfl rfl rfl rfl (cw 4 (tlN l)) (fun wx hS => St.rangeL hS 1 rfl 0 _ dZl) underlying111 rfl Ad ?_
 try simp only [J]
 refine aQ rfl rfl apW ?_
 try simp only [J]
 refine aQ rfl rfl apW ?_
 try simp only [J]
 refine aQ rfl rfl apW ?_
 try simp only [J]
 refine iN (v := ?_) rfl rfl (fun wx hS => ?_) ?_
 rotate_left 1
 ·(have hc := (HCV.out.keep (St.fr hS) id).cell (i := 0) rfl; clear hS; go_simp; with_reducible rfl)
 try simp only [J]
 refine aQ rfl rfl apW ?_
 try simp only [J]
 refine aQ rfl rfl apW ?_
 try simp only [J]
 refine bY rfl rfl rfl rfl (cw 4 m.M) (fun wx hS => (HPM.out.keep (St.fr hS) id).range 0 _ (c0o m)) underlying111 rfl Ad ?_
 try simp only [J]
 refine eV rfl rfl ?_
 go_simp
 refine (vC (tlN l) m.M _ HTN.out HOK.out.lt false HDL.out).mono ?_
 rintro e' w5 ⟨rfl, hf5⟩
 have st5 := hd4.keep hf5
 clear hf5
 clear hd4
 refine ⟨st5, ?_⟩
 try simp only [J]
 refine aQ rfl rfl apW ?_
 try simp only [J]
 refine aQ rfl rfl apW ?_
 try simp only [J]
 refine lP rfl rfl ?_
 go_simp
 try simp only [J]
 refine gN ?_
 refine NoPanic.normal ?_
 go_wp2_with (with_reducible refine AA 48 ?_)
 refine gI rfl rfl _ sL ?_
 go_wp2_with (with_reducible refine AB ?_)
 refine aB st5 0 rfl rfl rfl rfl rfl Bv Ad (bX _ _ _) ?_
 intro w6 st6
 clear st5
 have hr := st6.at 0 rfl
 have hfr := st6.fr
 clear st6
 go_wp2_with fail
 exact bodyPost_ret (bF rfl rfl hr underlying117 rfl Ad rfl) rfl ⟨by unfold ptV ptL; rw [kE]; rfl, hfr⟩
theorem e0O (m : Md) (gc gp bx by_ : Nat) (w : World) (hok : m.Ok) (hcv : Has w gc (nT m gp bx by_) 125) (hpm : Has w gp (mdL m) 187) (a : Option Addr) (n c : Nat) (l : List UInt8) (hb : RdB w a n l) (hc : n ≤ c) (h33 : l.length = 33) (h0 : (bs l)[0]? = some (.int .u8 3)) (hlt : decide (tlN l < m.M) = true) (r : Bool) (hr : dW m.M (lN (tlN l)) = r) :
  Calls prog 140 #[.pointer (some ⟨gc, 0, none⟩), .slice a n c] w fun e w' => e = .returned (.tuple #[ptV m (tlN l) (m.M - (atY m.M (tlN l)) % m.M) 1, .bool r]) ∧ Fr Nob w w' := by
 have HOK := qH hok
 have HCV := qH hcv
 have HPM := qH hpm
 clear hok hcv hpm
 have h33n : n = 33 := by have := hb.len; omega
 subst h33n
 obtain ⟨ba, oa, rfl, -⟩ := Rd.at hb Ac
 have HB := qH hb
 have HC := qH hc
 have HT := qH (RdB.tail hb c Ac hc)
 have H0 := qH h0
 have HTN := qH (xP l h33)
 clear hb hc h33 h0
 have HDL := qH hlt
 clear hlt
 have HR := qH hr
 clear hr
 have st0 := St.start Nob w
 go_enter func140, ntmps140
 go_wp2_with (with_reducible refine AA 4 ?_)
 refine aA st0 rfl rfl (z := .agg (List.replicate 12 (.int .u64 0)).toArray) Aa (cw 4 0 ++ (cw 4 0 ++ cw 4 0)) Af ?_
 intro g4 w1 st1
 clear st0
 have hne : (((33 : Nat) : Int) != 33) = false := by rfl
 go_wp2_with (with_reducible refine AA 14 ?_)
 refine qZ rfl rfl underlying22 nH rfl 1 33 ⟨_, rfl⟩ rfl Ac HC.out ?_
 rw [show (33 : Nat) - 1 = 32 from rfl]
 go_wp2_with fail
 refine (qV _ _ l _ (HT.out.still st1.fr)).mono ?_
 rintro e' w2 ⟨rfl, hf2⟩
 have st2 := st1.keep hf2
 clear st1 hf2
 go_wp2_with (with_reducible refine AA 6 ?_)
 refine aA st2 rfl rfl (z := zAd) Aa (cw 4 0) Af ?_
 intro g6 w3 st3
 clear st2
 go_wp2_with (with_reducible refine AB ?_)
 refine aB st3 1 rfl rfl rfl rfl rfl Ah Ad (aF _ _) ?_
 intro w4 st4
 clear st3
 have hcell := eJ (HB.out.still st4.fr) _ H0.out
 go_wp2_with fail
 clear hcell
 go_wp2_with fail
 refine wp_region_noPanic ?_
 refine cW (fun wx => St Nob w wx [(g4, cw 4 0 ++ (cw 4 0 ++ cw 4 0), 117), (g6, cw 4 (tlN l), 111)]) 22 (.w 0 (.w 1 (.t 2 (.w 3 (.w 4 (.w 5 (.w 6 (.t 7 (.w 8 (.w 9 (.w 10 (.t 11 (.w 12 (.w 13 (.w 14 (.t 15 (.w 16 (.w 17 (.t 18 (.r 19 (.w 20 (.w 21 (.m 22 .nil))))))))))))))))))))))) Aa Aa st4.drew (fun _ _ _ _ _ h => h) ?_
 have hd4 := st4.drew
 clear st4
 refine aQ rfl rfl apW ?_
 try simp only [J]
 refine aQ rfl rfl apW ?_
 try simp only [J]
 refine iN (v := ?_) rfl rfl (fun wx hS => ?_) ?_
 rotate_left 1
 ·(have hc := (eJ (HB.out.still (St.fr hS)) _ H0.out); clear hS; go_simp; with_reducible rfl)
 try simp only [J]
 refine aQ rfl rfl apW ?_
 try simp only [J]
 refine aQ rfl rfl apW ?_
 try simp only [J]
 refine aQ rfl rfl apW ?_
 try simp only [J]
 refine aQ rfl rfl apW ?_
 try simp only [J]
 refine iN (v := ?_) rfl rfl (fun wx hS => ?_) ?_
 rotate_left 1
 ·(have hc := (eJ (HB.out.still (St.fr hS)) _ H0.out); clear hS; go_simp; with_reducible rfl)
 try simp only [J]
 refine aQ rfl rfl apW ?_
 try simp only [J]
 refine aQ rfl rfl apW ?_
 try simp only [J]
 refine aQ rfl rfl apW ?_
 try simp only [J]
 refine bY rfl rfl rfl rfl (cw 4 (tlN l)) (fun wx hS => St.rangeL hS 1 rfl 0 _ dZl) underlying111 rfl Ad ?_
 try simp only [J]
 refine aQ rfl rfl apW ?_
 try simp only [J]
 refine aQ rfl rfl apW ?_
 try simp only [J]
 refine aQ rfl rfl apW ?_
 try simp only [J]
 refine iN (v := ?_) rfl rfl (fun wx hS => ?_) ?_
 rotate_left 1
 ·(have hc := (HCV.out.keep (St.fr hS) id).cell (i := 0) rfl; clear hS; go_simp; with_reducible rfl)
 try simp only [J]
 refine aQ rfl rfl apW ?_
 try simp only [J]
 refine aQ rfl rfl apW ?_
 try simp only [J]
 refine bY rfl rfl rfl rfl (cw 4 m.M) (fun wx hS => (HPM.out.keep (St.fr hS) id).range 0 _ (c0o m)) underlying111 rfl Ad ?_
 try simp only [J]
 refine eV rfl rfl ?_
 go_simp
 refine (vC (tlN l) m.M _ HTN.out HOK.out.lt true HDL.out).mono ?_
 rintro e' w5 ⟨rfl, hf5⟩
 have st5 := hd4.keep hf5
 clear hf5
 clear hd4
 refine ⟨st5, ?_⟩
 try simp only [J]
 refine aQ rfl rfl apW ?_
 try simp only [J]
 refine aQ rfl rfl apW ?_
 try simp only [J]
 refine lP rfl rfl ?_
 go_simp
 try simp only [J]
 refine gN ?_
 refine NoPanic.normal ?_
 go_wp2_with fail
 refine wp_region_noPanic ?_
 refine aP (fun wx => St Nob w wx [(g4, cw 4 0 ++ (cw 4 0 ++ cw 4 0), 117), (g6, cw 4 (tlN l), 111)]) 13 (.w 0 (.w 1 (.w 2 (.w 3 (.t 4 (.t 5 (.b 6 11 (.b 7 11 (.w 8 (.w 9 (.w 10 (.r 11 (.r 12 (.m 13 .nil)))))) (.r 7 (.w 8 (.w 9 (.w 10 (.r 12 (.m 13 .nil))))))) (.r 6 (.r 7 (.w 8 (.w 9 (.w 10 (.r 12 (.m 13 .nil)))))))))))))) Aa Aa st5.drew (fun _ _ _ _ _ h => h) ?_
 have hd5 := st5.drew
 clear st5
 refine aJ rfl rfl apW ?_
 try simp only [J]
 refine aJ rfl rfl apW ?_
 try simp only [J]
 refine aJ rfl rfl apW ?_
 try simp only [J]
 refine aJ rfl rfl apW ?_
 try simp only [J]
 refine jY (v := ?_) rfl rfl (fun wx hS => ?_) ?_
 rotate_left 1
 ·(have hc := (HCV.out.keep (St.fr hS) id).cell (i := 0) rfl; clear hS; go_simp; with_reducible rfl)
 try simp only [J]
 refine aV rfl rfl rfl rfl (cw 4 (tlN l)) (fun wx hS => St.rangeL hS 1 rfl 0 _ dZl) underlying111 rfl Ad ?_
 try simp only [J]
 refine mL (C := fun g7 wz => St Nob w wz [(g4, cw 4 0 ++ (cw 4 0 ++ cw 4 0), 117), (g6, cw 4 (tlN l), 111), (g7, cw 4 (elN m (tlN l)) ++ (cw 4 (elN m (atY m.M (tlN l))) ++ cw 4 (elN m 1)), 117)]) (F := ?_) (fun key => ?_) ?_
 rotate_left 1
 ·skip
  refine lH rfl rfl rfl rfl ?_ ?_
  ·skip
   go_simp
   refine (kF m gp _ HOK.out (HPM.out.keep hd5.fr id) (tlN l) HTN.out).mono ?_
   rintro e' w6 ⟨rfl, hf6⟩
   have st6 := hd5.keep hf6
   clear hf6
   refine ⟨st6, ?_⟩
   try simp only [J]
   refine lH rfl rfl rfl rfl ?_ ?_
   ·skip
    go_simp
    refine (q0c m gc gp bx by_ _ HOK.out (HCV.out.keep st6.fr id) (HPM.out.keep st6.fr id) (tlN l) r HR.out).mono ?_
    rintro e' w7 ⟨rfl, hf7⟩
    have st7 := st6.keep hf7
    clear hf7
    refine ⟨st7, ?_⟩
    try simp only [J]
    refine aJ rfl rfl apW ?_
    try simp only [J]
    refine aJ rfl rfl apW ?_
    try simp only [J]
    refine aJ rfl rfl apW ?_
    try simp only [J]
    refine bC rfl rfl ?_
    refine cH st7 rfl (z := zAc) Aa (cw 12 0) Af ?_
    intro g7 w8 st8
    refine ⟨St.less st8 Ae, ?_⟩
    try simp only [J]
    refine bC rfl rfl ?_
    refine aG st8 2 rfl rfl rfl rfl Ah Ad (bX _ _ _) ?_
    intro w9 st9
    refine ⟨St.less st9 Ae, ?_⟩
    try simp only [Act.put]
    refine aU rfl rfl ?_
    go_simp
    try simp only [J]
    refine aH ?_
    exact key g7 _ st9
   ·skip
    refine cH st6 rfl (z := zAc) Aa (cw 12 0) Af ?_
    intro g7 w10 st10
    refine ⟨St.less st10 Ae, ?_⟩
    try simp only [J]
    refine bC rfl rfl ?_
    go_simp
    refine (q0c m gc gp bx by_ _ HOK.out (HCV.out.keep st10.fr id) (HPM.out.keep st10.fr id) (tlN l) r HR.out).mono ?_
    rintro e' w11 ⟨rfl, hf11⟩
    have st11 := st10.keep hf11
    clear hf11
    refine ⟨St.less st11 Ae, ?_⟩
    try simp only [J]
    refine aJ rfl rfl apW ?_
    try simp only [J]
    refine aJ rfl rfl apW ?_
    try simp only [J]
    refine aJ rfl rfl apW ?_
    try simp only [J]
    refine bC rfl rfl ?_
    refine aG st11 2 rfl rfl rfl rfl Ah Ad (bX _ _ _) ?_
    intro w12 st12
    refine ⟨St.less st12 Ae, ?_⟩
    try simp only [Act.put]
    refine aU rfl rfl ?_
    go_simp
    try simp only [J]
    refine aH ?_
    exact key g7 _ st12
  ·skip
   refine cH hd5 rfl (z := zAc) Aa (cw 12 0) Af ?_
   intro g7 w13 st13
   refine ⟨St.less st13 Ae, ?_⟩
   try simp only [J]
   refine bC rfl rfl ?_
   go_simp
   refine (kF m gp _ HOK.out (HPM.out.keep st13.fr id) (tlN l) HTN.out).mono ?_
   rintro e' w14 ⟨rfl, hf14⟩
   have st14 := st13.keep hf14
   clear hf14
   refine ⟨St.less st14 Ae, ?_⟩
   try simp only [J]
   refine bC rfl rfl ?_
   go_simp
   refine (q0c m gc gp bx by_ _ HOK.out (HCV.out.keep st14.fr id) (HPM.out.keep st14.fr id) (tlN l) r HR.out).mono ?_
   rintro e' w15 ⟨rfl, hf15⟩
   have st15 := st14.keep hf15
   clear hf15
   refine ⟨St.less st15 Ae, ?_⟩
   try simp only [J]
   refine aJ rfl rfl apW ?_
   try simp only [J]
   refine aJ rfl rfl apW ?_
   try simp only [J]
   refine aJ rfl rfl apW ?_
   try simp only [J]
   refine bC rfl rfl ?_
   refine aG st15 2 rfl rfl rfl rfl Ah Ad (bX _ _ _) ?_
   intro w16 st16
   refine ⟨St.less st16 Ae, ?_⟩
   try simp only [Act.put]
   refine aU rfl rfl ?_
   go_simp
   try simp only [J]
   refine aH ?_
   exact key g7 _ st16
 intro g7 w17 st17
 have st17 : St Nob w w17 [(g4, cw 4 0 ++ (cw 4 0 ++ cw 4 0), 117), (g6, cw 4 (tlN l), 111), (g7, cw 4 (elN m (tlN l)) ++ (cw 4 (elN m (atY m.M (tlN l))) ++ cw 4 (elN m 1)), 117)] := st17
 clear hd5
 refine NoPanic.normal ?_
 have hcell := eJ (HB.out.still st17.fr) _ H0.out
 go_wp2_with (with_reducible refine AA 65 ?_)
 refine aM st17 2 rfl rfl rfl underlying117 rfl rfl Ad ?_
 clear hcell
 go_wp2_with fail
 refine (g0p m gc gp bx by_ _ HOK.out (HCV.out.keep st17.fr id) (HPM.out.keep st17.fr id) (tlN l) (atY m.M (tlN l)) 1).mono ?_
 rintro e' w18 ⟨rfl, hf18⟩
 have st18 := st17.keep hf18
 clear st17 hf18
 go_wp2_with (with_reducible refine AB ?_)
 refine aB st18 2 rfl rfl rfl rfl rfl Ah Ad (bX _ _ _) ?_
 intro w19 st19
 clear st18
 go_wp2_with (with_reducible refine AA 67 ?_)
 refine aM st19 2 rfl rfl rfl underlying117 rfl rfl Ad ?_
 go_wp2_with (with_reducible refine AB ?_)
 refine aB st19 0 rfl rfl rfl rfl rfl Ah Ad (bX _ _ _) ?_
 intro w20 st20
 clear st19
 have hr := st20.at 0 rfl
 have hfr := st20.fr
 clear st20
 go_wp2_with fail
 exact bodyPost_ret (bF rfl rfl hr underlying117 rfl Ad rfl) rfl ⟨by unfold ptV ptL; rfl, hfr⟩
end
section
open Go.RowKit Go.Mv Mvp Mvq
theorem zZ (l : List UInt8) (h : l.length = 33) (b : UInt8) (hb : l.getD 0 0 = b) : (bs l)[0]? = some (.int .u8 (b.toNat : Int)) := by
 cases l with
 | nil => cases h
 | cons x t =>
  have : x = b := by simpa using hb
  subst this
  rfl
theorem o0Y {b : UInt8} {k : Nat} (h : b.toNat = k) : b = UInt8.ofNat k := by rw [← h]; simp
theorem a0a (l : List UInt8) (h : l.length = 33) (hb : l.getD 0 0 = 2) : (bs l)[0]? = some (.int .u8 2) := by rw [zZ l h 2 hb]; rfl
theorem a0b (l : List UInt8) (h : l.length = 33) (hb : l.getD 0 0 = 3) : (bs l)[0]? = some (.int .u8 3) := by rw [zZ l h 3 hb]; rfl
theorem e0P (l : List UInt8) (h : l.length = 33) (hb : l.getD 0 0 = 0) : (bs l)[0]? = some (.int .u8 0) := by rw [zZ l h 0 hb]; rfl
theorem i0Y (b : Nat) : kc (mP.M - b % mP.M) = - kc b := by rw [iX]; exact d0f b
theorem t0n (n : Nat) (hr : dW mP.M (lN n) = true) : kc (atY mP.M n) = kc (rtV fP (lN n)) := by unfold atY; rw [if_pos hr, iX]
theorem n0h (x y : Nat) (h : onC (.A (kc x) (kc y))) : (i0I x y h).L = ptL mP x y 1 := rfl
attribute [local irreducible] atY rtV dW ptL lN tlN i0I
theorem d0l (l : List UInt8) (h : dM l = true) : ∃ t : PT, t.pt = fD l ∧ ∀ (gc : Nat) (a : Option Addr) (n c : Nat) (w : World), Cv w gc → RdB w a n l → n ≤ c →
  Calls prog 140 #[.pointer (some ⟨gc, 0, none⟩), .slice a n c] w fun e w' => e = .returned (.tuple #[.agg t.L.toArray, .bool true]) ∧ Fr Nob w w' := by
 have hon := qU h
 unfold dM at h
 unfold fD at *
 simp only [Bool.and_eq_true, decide_eq_true_eq] at h
 obtain ⟨h33, h⟩ := h
 by_cases h0 : l.getD 0 0 = 0
 ·rw [if_pos h0] at h
  refine ⟨noT, by rw [if_pos h0, i0H], ?_⟩
  rintro gc a n c w ⟨gp, h1, h2⟩ hb hc
  exact b0U mP gc gp gXn gYn w fR h1 h2 a n c l hb hc h33 (e0P l h33 h0) true h
 ·rw [if_neg h0] at h hon
  simp only [Bool.and_eq_true, decide_eq_true_eq] at h
  obtain ⟨h23, hlt, hr⟩ := h
  rw [← iX] at hlt hr
  have hy := t0n _ hr
  rcases h23 with h2 | h3
  ·have h3 : ¬ l.getD 0 0 = 3 := by rw [h2]; decide
   rw [if_neg h3, ← hy] at hon
   refine ⟨i0I (tlN l) (atY mP.M (tlN l)) hon, ?_, ?_⟩
   ·rw [d0k, if_neg h0, if_neg h3, hy]
   ·rintro gc a n c w ⟨gp, g1, g2⟩ hb hc
    rw [n0h]
    exact e0N mP gc gp gXn gYn w fR g1 g2 a n c l hb hc h33 (a0a l h33 h2) (decide_eq_true hlt) true hr
  ·rw [if_pos h3, ← hy, ← i0Y] at hon
   refine ⟨i0I (tlN l) (mP.M - atY mP.M (tlN l) % mP.M) hon, ?_, ?_⟩
   ·rw [d0k, if_neg h0, if_pos h3, i0Y, hy]
   ·rintro gc a n c w ⟨gp, g1, g2⟩ hb hc
    rw [n0h]
    exact e0O mP gc gp gXn gYn w fR g1 g2 a n c l hb hc h33 (a0b l h33 h3) (decide_eq_true hlt) true hr
open Classical in
noncomputable def rdT (l : List UInt8) : PT := if h : dM l = true then Classical.choose (d0l l h) else noT
theorem n0i {l : List UInt8} (h : dM l = true) : (rdT l).pt = fD l := by unfold rdT; rw [dif_pos h]; exact (Classical.choose_spec (d0l l h)).1
theorem b0V (l : List UInt8) (h : dM l = true) (gc : Nat) (a : Option Addr) (n c : Nat) (w : World) (hcv : Cv w gc) (hb : RdB w a n l) (hc : n ≤ c) :
  Calls prog 140 #[.pointer (some ⟨gc, 0, none⟩), .slice a n c] w fun e w' => e = .returned (.tuple #[.agg (rdT l).L.toArray, .bool true]) ∧ Fr Nob w w' := by
 unfold rdT; rw [dif_pos h]; exact (Classical.choose_spec (d0l l h)).2 gc a n c w hcv hb hc
theorem i0Z (l : List UInt8) (h : dM l = false) (gc : Nat) (a : Option Addr) (n c : Nat) (w : World) (hcv : Cv w gc) (hb : RdB w a n l) (hc : n ≤ c) :
  Calls prog 140 #[.pointer (some ⟨gc, 0, none⟩), .slice a n c] w fun e w' => (∃ X Y Z, e = .returned (.tuple #[.agg (ptL mP X Y Z).toArray, .bool false])) ∧ Fr Nob w w' := by
 obtain ⟨gp, g1, g2⟩ := hcv
 unfold dM at h
 by_cases h33 : l.length = 33
 ·rw [decide_eq_true h33, Bool.true_and] at h
  by_cases h0 : l.getD 0 0 = 0
  ·rw [if_pos h0] at h
   exact (b0U mP gc gp gXn gYn w fR g1 g2 a n c l hb hc h33 (e0P l h33 h0) false h).mono fun _ _ t => ⟨⟨_, _, _, t.1⟩, t.2⟩
  ·rw [if_neg h0] at h
   by_cases h2 : l.getD 0 0 = 2
   ·rw [decide_eq_true (Or.inl h2), Bool.true_and] at h
    cases hlt : decide (tlN l < mP.M) with
    | false => exact (l0K mP gc gp gXn gYn w fR g1 g2 a n c l hb hc h33 (a0a l h33 h2) hlt).mono fun _ _ t => ⟨⟨_, _, _, t.1⟩, t.2⟩
    | true =>
     rw [← iX, hlt, Bool.true_and] at h
     exact (e0N mP gc gp gXn gYn w fR g1 g2 a n c l hb hc h33 (a0a l h33 h2) hlt false h).mono fun _ _ t => ⟨⟨_, _, _, t.1⟩, t.2⟩
   ·by_cases h3 : l.getD 0 0 = 3
    ·rw [decide_eq_true (Or.inr h3), Bool.true_and] at h
     cases hlt : decide (tlN l < mP.M) with
     | false => exact (l0L mP gc gp gXn gYn w fR g1 g2 a n c l hb hc h33 (a0b l h33 h3) hlt).mono fun _ _ t => ⟨⟨_, _, _, t.1⟩, t.2⟩
     | true =>
      rw [← iX, hlt, Bool.true_and] at h
      exact (e0O mP gc gp gXn gYn w fR g1 g2 a n c l hb hc h33 (a0b l h33 h3) hlt false h).mono fun _ _ t => ⟨⟨_, _, _, t.1⟩, t.2⟩
    ·have q0 : (((l.getD 0 0).toNat : Int) == 0) = false := by
      simp only [beq_eq_false_iff_ne, ne_eq]
      intro e
      exact h0 (o0Y (k := 0) Ab)
     have q2 : (((l.getD 0 0).toNat : Int) != 2) = true := by
      simp only [bne_iff_ne, ne_eq]
      intro e
      exact h2 (o0Y (k := 2) Ab)
     have q3 : (((l.getD 0 0).toNat : Int) != 3) = true := by
      simp only [bne_iff_ne, ne_eq]
      intro e
      exact h3 (o0Y (k := 3) Ab)
     exact (l0J mP gc gp gXn gYn w fR g1 g2 a n c l hb hc h33 _ (zZ l h33 _ rfl) q0 q2 q3).mono fun _ _ t => ⟨⟨_, _, _, t.1⟩, t.2⟩
 ·exact (l0I mP gc gp gXn gYn w fR g1 g2 a n c l hb hc h33).mono fun _ _ t => ⟨⟨_, _, _, t.1⟩, t.2⟩
theorem r0i (z : Nat) : kc (z ^ (mP.M - 2)) = gE (kc z) := by
 rw [show mP.M - 2 = fP - 2 by rw [iX]]
 unfold gE
 rw [nF]
 generalize fP - 2 = n
 rw [← kV (z ^ n), ← kV ((z % fP) ^ n), ← Nat.pow_mod]
theorem r0j (x y : K) : cK (.A x y) = UInt8.ofNat (2 + y.val % 2) :: cI x.val := rfl
theorem d0m (s : PT) (gc : Nat) (w : World) (hcv : Cv w gc) :
  Calls prog 88 #[.pointer (some ⟨gc, 0, none⟩), .agg s.L.toArray] w fun e w' => ∃ sv, e = .returned sv ∧ Own w' w.heap.size 5 1 sv 33 (bs (cK s.pt)) ∧ Fr Nob w w' := by
 obtain ⟨gp, g1, g2⟩ := hcv
 cases hz : s.isO with
 | true =>
  rw [PT.isO_t hz]
  exact g0o mP gc gp gXn gYn w fR g1 g2 s.x s.y s.z hz
 | false =>
  have hne := PT.isO_f hz
  have e : s.pt = .A (kc (s.x * (s.z ^ (mP.M - 2) * s.z ^ (mP.M - 2)))) (kc (s.y * (s.z ^ (mP.M - 2) * s.z ^ (mP.M - 2) * s.z ^ (mP.M - 2)))) := by
   show jk _ _ _ = _
   rw [l0r hne]
   simp only [bN, r0i]
  rw [e]
  have hb := o0X mP gc gp gXn gYn w fR g1 g2 s.x s.y s.z hz _ _ _ _ _ _ _ rfl rfl rfl rfl rfl rfl rfl
  refine hb.mono ?_
  rintro e' w' ⟨sv, h1, h2, h3⟩
  refine ⟨sv, h1, ?_, h3⟩
  rw [r0j, nF, nF, ← iX]
  exact h2
end
section
open Go.RowKit Go.Mv Mvp Mvq
def gY (ls : List (List UInt8)) : Bool := ls.all dM
noncomputable def mA (ls : List (List UInt8)) : List Value := ls.flatMap fun l => (rdT l).L
theorem d0n (m : Md) (x y z : Nat) : ∀ v ∈ ptL m x y z, v.oneCell' = true := bX _ _ _
theorem pU (ls : List (List UInt8)) (l : List UInt8) : mA (ls ++ [l]) = mA ls ++ (rdT l).L := by simp [mA]
theorem j0a (ls : List (List UInt8)) (i : Nat) (h : i < ls.length) : ((mA ls).drop (i * 12)).take (rdT (ls.getD i [])).L.length = (rdT (ls.getD i [])).L := by
 rw [PT.len]
 induction ls generalizing i with
 | nil => simp at h
 | cons l ls ih =>
  rw [mA, List.flatMap_cons, ← mA]
  cases i with
  | zero =>
   rw [Nat.zero_mul, List.drop_zero, List.take_append_of_le_length (by rw [PT.len]; exact Nat.le_refl _), List.take_of_length_le (by rw [PT.len]; exact Nat.le_refl _)]
   rfl
  | succ i =>
   rw [List.drop_append, PT.len, List.drop_of_length_le (by rw [PT.len]; omega), List.nil_append, show (i + 1) * 12 - 12 = i * 12 by omega, ih i (by simpa using h)]
   rfl
theorem pV (ls : List (List UInt8)) (k : Nat) (h : k < ls.length) : gY (ls.take (k + 1)) = (gY (ls.take k) && dM (ls.getD k [])) := by
 rw [List.take_succ_eq_append_getElem h, gY, List.all_append, ← gY]
 simp [List.getD_eq_getElem?_getD, h]
theorem sM (ls : List (List UInt8)) (k : Nat) (h : k < ls.length) (hb : dM (ls.getD k []) = false) : gY ls = false := by
 rw [gY, List.all_eq_false]
 refine ⟨ls.getD k [], ?_, by simpa using hb⟩
 rw [List.getD_eq_getElem?_getD, List.getElem?_eq_getElem h]
 exact List.getElem_mem h
theorem mT : (prog.info? 117).map (fun i => (i.zero, i.size, i.bytes)) = some (some (.agg (List.replicate 12 (.int .u64 0)).toArray), 12, 96) := by kernel_rfl
attribute [local irreducible] bI lw mix cw cT dG cS bQ aO beN dO cI dI bM bT elN mdL cL rtN rtV dW gXn gYn PT.L a0A zU nK tbL tmR tmL dbN sK rL uY dig rdT dM fD ptL mA gY cK
theorem _root_.Ar {p : Prop} (h : p := by first | (simp only [aT]; done) | (simp only [List.length_append, aT, PT.len, lJ]; done)) : p := h
theorem _root_.Cb {p : Prop} (h : p := by simp [Value.cells, PT.len]) : p := h
theorem a0c (gk : Nat) (al : Option Addr) (n cl : Nat) (vs : List Value) (ls : List (List UInt8)) (w : World) (hv : Rd w al n vs) (hp : BParts w vs ls) (hn : n ≤ 100000) (hg : gY ls = true) (t : PT) (hop : ∀ ap cp wx, Fr Nob w wx → Rd wx ap (ls.length * 12) (mA ls) → Calls prog 85 #[.slice ap ls.length cp, .pointer (some ⟨gk, 0, none⟩)] wx fun e w' => e = .returned (.agg t.L.toArray) ∧ Fr Nob wx w') :
  Calls prog 84 #[.func (.func 85) #[] #[.pointer (some ⟨gk, 0, none⟩)], .slice al n cl] w fun e w' => ∃ sv, e = .returned (.tuple #[sv, .int .i64 0]) ∧ Own w' w.heap.size 5 1 sv 33 (bs (cK t.pt)) ∧ Fr Nob w w' := by
 have HV := qH hv
 have HP := qH hp
 have HL := qH (show ls.length = n by rw [← hp.1, hv.len])
 have HN := qH hn
 have hnI : (n : Int) ≤ 100000 := by omega
 clear hv hp
 have HOP := qH hop
 have HGA := qH hg
 clear hop hg
 go_enter func84, ntmps84
 go_wp2
 go_loopw [6, 13] (fun v i wr => ∃ k : Nat, k ≤ n ∧ i = .int .i64 (k : Int) ∧ gY (ls.take k) = true ∧ Own wr w.heap.size 117 12 v k (mA (ls.take k)) ∧ Fr Nob w wr) (fun _ i _ => n - (intOf i).toNat)
 case atStart => exact ⟨0, Nat.zero_le _, rfl, by rw [List.take_zero]; unfold gY; rfl, by rw [List.take_zero]; unfold mA; exact Own.nil _ _ _ _, Fr.refl _ _⟩
 case round =>
  obtain ⟨k, hk, rfl, hgood, hown, hf⟩ := hrel
  by_cases hlt : k < n
  ·have hltI : (k : Int) < (n : Int) := by omega
   obtain ⟨b, o, rfl, hat⟩ := (HV.out.still hf).at Ab
   have hvl : k < vs.length := by rw [HV.out.len]; exact hlt
   obtain ⟨a, nn, c, hve, hcc, hrd⟩ := HP.out.2 k (vs[k]'hvl) (List.getElem?_eq_getElem hvl)
   have hc1 := hat k _ (List.getElem?_eq_getElem hvl)
   rw [hve] at hc1
   have hlk : k < ls.length := by rw [HL.out]; exact hlt
   have hts := pV ls k hlk
   have hcs : mA (ls.take (k + 1)) = mA (ls.take k) ++ (rdT (ls.getD k [])).L := by
    rw [List.take_succ_eq_append_getElem hlk, pU]
    simp [List.getD_eq_getElem?_getD, hlk]
   have hbad := sM ls k hlk
   generalize hL : ls.getD k [] = l at *
   have HLL := qH hL
   have HRD := qH (hrd.still hf)
   have HTS := qH hts
   have HCS := qH hcs
   have HBAD := qH hbad
   have HG := qH hgood
   have HOWN := qH hown
   have HF := qH hf
   have HCC := qH hcc
   clear hL hrd hts hcs hbad hgood hown hf hat hve hcc
   have st0 := St.start Nob wr
   have HK := qH (show dM l = true by
    cases hh : dM l
    ·have := HBAD.out hh
     rw [HGA.out] at this
     cases this
    ·rfl)
   skip
   go_wp2_with fail
   refine (kB _).mono ?_
   rintro e' w1 ⟨gc, rfl, hle, hcv, hf1⟩
   have st1 := st0.keep hf1
   have HCV := qH hcv
   clear hcv hle
   clear st0 hf1
   go_wp2_with fail
   refine (b0V l HK.out gc a nn c _ HCV.out (HRD.out.still st1.fr) HCC.out).mono ?_
   rintro e' w2 ⟨rfl, hf2⟩
   have st2 := st1.keep hf2
   clear st1 hf2
   go_wp2_with (with_reducible refine AA 9 ?_)
   refine aA st2 rfl rfl (z := .agg (List.replicate 12 (.int .u64 0)).toArray) Aa (cw 12 0) Af ?_
   intro g9 w3 st3
   clear st2
   go_wp2_with (with_reducible refine AB ?_)
   refine aB st3 0 rfl rfl rfl rfl rfl Ar Am (PT.one _) ?_
   intro w4 st4
   clear st3
   have HFS := qH st4.fr
   go_wp2_with (with_reducible refine AA 26 ?_)
   refine aM st4 0 rfl rfl rfl underlying117 rfl rfl Am ?_
   clear st4
   go_wp2_with (with_reducible refine AA 27 ?_)
   refine nD rfl rfl underlying115 mT [.agg (rdT l).L.toArray] rfl Cb rfl ((rdT l).L) Ay ?_
   intro wA hgA hfA hzA
   clear hzA
   have hfrA := HFS.out.then hfA
   have hsz := HF.out.size
   have hsz2 := hfrA.size
   have hownA := HOWN.out.still hfrA
   have hrdA : Rd wA (some ⟨w4.heap.size, 0, none⟩) (1 * 12) ((rdT l).L) := by
    have := Rd.whole hgA
    rwa [PT.len] at this
   have HRDA := qH hrdA
   have HOWNA := qH hownA
   have HFRA := qH hfrA
   clear hgA hfA hrdA hownA hfrA
   generalize w4.heap.size = gA at *
   go_wp2_with (with_reducible refine AA 28 ?_)
   refine gG rfl rfl underlying115 mT rfl Ac HOWNA.out rfl rfl HRDA.out (PT.one _) Al Ab Ab ?_
   intro vB wB hownB hfB hbB
   clear hbB
   have hfrB := HOWNA.out.fr (HF.out.then HFRA.out) (Nat.le_refl _) hfB
   have HFRB := qH hfrB
   rw [← HCS.out] at hownB
   have HOWNB := qH hownB
   clear hfrB hownB hfB
   go_wp2_with fail
   go_roundw
   case rel => exact ⟨k + 1, by omega, by go_num, by rw [HTS.out, HG.out, HK.out]; rfl, HOWNB.out, HFRB.out⟩
   case measure => simp [intOf]; omega
  ·have hge : ¬ ((k : Int) < (n : Int)) := by omega
   have hkn : k = ls.length := by rw [HL.out]; omega
   rw [hkn, List.take_of_length_le (Nat.le_refl _)] at hgood hown
   obtain ⟨ap, cp, rfl, -, hre, -⟩ := hown.form
   have HRE := qH hre
   have HF := qH hf
   clear hkn hgood hown hf hre
   go_wp2_with fail
   refine (kB _).mono ?_
   rintro e w1 ⟨gc, rfl, hle, hcv, hf1⟩
   have HCV := qH hcv
   have HF1 := qH (HF.out.then hf1)
   have HRE1 := qH (HRE.out.still hf1)
   clear hle hcv hf1 HF HRE
   go_wp2_with fail
   refine (HOP.out ap cp _ HF1.out HRE1.out).mono ?_
   rintro e w2 ⟨rfl, hf2⟩
   have HCV2 := qH (HCV.out.keep hf2)
   have HF2 := qH (HF1.out.then hf2)
   clear hf2 HF1 HRE1 HCV
   go_wp2_with fail
   refine (d0m t gc _ HCV2.out).mono ?_
   rintro e w3 ⟨sv, rfl, hown3, hf3⟩
   have h2 := HF2.out.then hf3
   have ho := hown3.mono HF2.out.size
   clear hown3 hf3 HF2 HCV2
   go_wp2_with fail
   go_ret2
   exact ⟨sv, rfl, ho, h2⟩
theorem wF (gk : Nat) (al : Option Addr) (n cl : Nat) (vs : List Value) (ls : List (List UInt8)) (w : World) (hv : Rd w al n vs) (hp : BParts w vs ls) (hn : n ≤ 100000) (hg : gY ls = false) :
  Calls prog 84 #[.func (.func 85) #[] #[.pointer (some ⟨gk, 0, none⟩)], .slice al n cl] w fun e w' => e = .returned (.tuple #[.slice none 0 0, .int .i64 4]) ∧ Fr Nob w w' := by
 have HV := qH hv
 have HP := qH hp
 have HL := qH (show ls.length = n by rw [← hp.1, hv.len])
 have HN := qH hn
 have hnI : (n : Int) ≤ 100000 := by omega
 clear hv hp
 have HGA := qH hg
 clear hg
 go_enter func84, ntmps84
 go_wp2
 go_loopw [6, 13] (fun v i wr => ∃ k : Nat, k ≤ n ∧ i = .int .i64 (k : Int) ∧ gY (ls.take k) = true ∧ Own wr w.heap.size 117 12 v k (mA (ls.take k)) ∧ Fr Nob w wr) (fun _ i _ => n - (intOf i).toNat)
 case atStart => exact ⟨0, Nat.zero_le _, rfl, by rw [List.take_zero]; unfold gY; rfl, by rw [List.take_zero]; unfold mA; exact Own.nil _ _ _ _, Fr.refl _ _⟩
 case round =>
  obtain ⟨k, hk, rfl, hgood, hown, hf⟩ := hrel
  by_cases hlt : k < n
  ·have hltI : (k : Int) < (n : Int) := by omega
   obtain ⟨b, o, rfl, hat⟩ := (HV.out.still hf).at Ab
   have hvl : k < vs.length := by rw [HV.out.len]; exact hlt
   obtain ⟨a, nn, c, hve, hcc, hrd⟩ := HP.out.2 k (vs[k]'hvl) (List.getElem?_eq_getElem hvl)
   have hc1 := hat k _ (List.getElem?_eq_getElem hvl)
   rw [hve] at hc1
   have hlk : k < ls.length := by rw [HL.out]; exact hlt
   have hts := pV ls k hlk
   have hcs : mA (ls.take (k + 1)) = mA (ls.take k) ++ (rdT (ls.getD k [])).L := by
    rw [List.take_succ_eq_append_getElem hlk, pU]
    simp [List.getD_eq_getElem?_getD, hlk]
   have hbad := sM ls k hlk
   generalize hL : ls.getD k [] = l at *
   have HLL := qH hL
   have HRD := qH (hrd.still hf)
   have HTS := qH hts
   have HCS := qH hcs
   have HBAD := qH hbad
   have HG := qH hgood
   have HOWN := qH hown
   have HF := qH hf
   have HCC := qH hcc
   clear hL hrd hts hcs hbad hgood hown hf hat hve hcc
   have st0 := St.start Nob wr
   rcases Bool.eq_false_or_eq_true (dM l) with hh | hh
   ·have HK := qH hh
    clear hh
    skip
    go_wp2_with fail
    refine (kB _).mono ?_
    rintro e' w1 ⟨gc, rfl, hle, hcv, hf1⟩
    have st1 := st0.keep hf1
    have HCV := qH hcv
    clear hcv hle
    clear st0 hf1
    go_wp2_with fail
    refine (b0V l HK.out gc a nn c _ HCV.out (HRD.out.still st1.fr) HCC.out).mono ?_
    rintro e' w2 ⟨rfl, hf2⟩
    have st2 := st1.keep hf2
    clear st1 hf2
    go_wp2_with (with_reducible refine AA 9 ?_)
    refine aA st2 rfl rfl (z := .agg (List.replicate 12 (.int .u64 0)).toArray) Aa (cw 12 0) Af ?_
    intro g9 w3 st3
    clear st2
    go_wp2_with (with_reducible refine AB ?_)
    refine aB st3 0 rfl rfl rfl rfl rfl Ar Am (PT.one _) ?_
    intro w4 st4
    clear st3
    have HFS := qH st4.fr
    go_wp2_with (with_reducible refine AA 26 ?_)
    refine aM st4 0 rfl rfl rfl underlying117 rfl rfl Am ?_
    clear st4
    go_wp2_with (with_reducible refine AA 27 ?_)
    refine nD rfl rfl underlying115 mT [.agg (rdT l).L.toArray] rfl Cb rfl ((rdT l).L) Ay ?_
    intro wA hgA hfA hzA
    clear hzA
    have hfrA := HFS.out.then hfA
    have hsz := HF.out.size
    have hsz2 := hfrA.size
    have hownA := HOWN.out.still hfrA
    have hrdA : Rd wA (some ⟨w4.heap.size, 0, none⟩) (1 * 12) ((rdT l).L) := by
     have := Rd.whole hgA
     rwa [PT.len] at this
    have HRDA := qH hrdA
    have HOWNA := qH hownA
    have HFRA := qH hfrA
    clear hgA hfA hrdA hownA hfrA
    generalize w4.heap.size = gA at *
    go_wp2_with (with_reducible refine AA 28 ?_)
    refine gG rfl rfl underlying115 mT rfl Ac HOWNA.out rfl rfl HRDA.out (PT.one _) Al Ab Ab ?_
    intro vB wB hownB hfB hbB
    clear hbB
    have hfrB := HOWNA.out.fr (HF.out.then HFRA.out) (Nat.le_refl _) hfB
    have HFRB := qH hfrB
    rw [← HCS.out] at hownB
    have HOWNB := qH hownB
    clear hfrB hownB hfB
    go_wp2_with fail
    go_roundw
    case rel => exact ⟨k + 1, by omega, by go_num, by rw [HTS.out, HG.out, HK.out]; rfl, HOWNB.out, HFRB.out⟩
    case measure => simp [intOf]; omega
   ·have HK := qH hh
    clear hh
    skip
    go_wp2_with fail
    refine (kB _).mono ?_
    rintro e' w1 ⟨gc, rfl, hle, hcv, hf1⟩
    have st1 := st0.keep hf1
    have HCV := qH hcv
    clear hcv hle
    clear st0 hf1
    go_wp2_with fail
    refine (i0Z l HK.out gc a nn c _ HCV.out (HRD.out.still st1.fr) HCC.out).mono ?_
    rintro e' w2 ⟨⟨X, Y, Z, rfl⟩, hf2⟩
    have st2 := st1.keep hf2
    clear st1 hf2
    go_wp2_with (with_reducible refine AA 9 ?_)
    refine aA st2 rfl rfl (z := .agg (List.replicate 12 (.int .u64 0)).toArray) Aa (cw 12 0) Af ?_
    intro g9 w3 st3
    clear st2
    go_wp2_with (with_reducible refine AB ?_)
    refine aB st3 0 rfl rfl rfl rfl rfl Ar (by first | (rw [aT]; kernel_rfl) | (simp only [lJ]; kernel_rfl)) (d0n _ _ _ _) ?_
    intro w4 st4
    clear st3
    have HFS := qH (HF.out.then st4.fr)
    clear st4
    go_wp2_with fail
    go_ret2
    exact ⟨rfl, HFS.out⟩
  ·exfalso
   have hkn : k = ls.length := by rw [HL.out]; omega
   rw [hkn, List.take_of_length_le (Nat.le_refl _), HGA.out] at hgood
   cases hgood
end
section
open Go.RowKit Go.Mv Mvp Mvq
theorem s0O (la : List UInt8) (ls : List (List UInt8)) : ((mA (la :: ls)).drop 0).take (rdT la).L.length = (rdT la).L := j0a (la :: ls) 0 Ae
attribute [local irreducible] bI lw mix cw cT dG cS bQ aO beN dO cI dI bM bT elN mdL cL rtN rtV dW gXn gYn PT.L a0A zU nK tbL tmR tmL dbN sK rL uY dig rdT dM fD ptL mA gY cK
theorem _root_.Ap {p : Prop} (h : p := by first | (rw [aT]; kernel_rfl) | (rw [PT.len]; kernel_rfl) | (rw [lJ]; kernel_rfl) | (simp only [List.length_append, aT]; kernel_rfl) | (simp only [List.length_append, aT, PT.len, lJ]; kernel_rfl)) : p := h
theorem l0M (la : List UInt8) (w : World) (n : Nat) (gk : Nat) (hkn : Has w gk (cw 4 n) 111) (ap : Option Addr) (cp : Nat) (hre : Rd w ap ([la].length * 12) (mA [la])) :
  Calls prog 85 #[.slice ap 1 cp, .pointer (some ⟨gk, 0, none⟩)] w fun e w' => e = .returned (.agg (uY [(n, rdT la)]).L.toArray) ∧ Fr Nob w w' := by
 obtain ⟨bb, oo, rfl, -⟩ := hre.at Ae
 have HRE := qH hre
 have HKN := qH hkn
 clear hre hkn
 have st0 := St.start Nob w
 go_enter func85, ntmps85
 go_wp2_with (with_reducible refine AA 3 ?_)
 refine aA st0 rfl rfl (z := .agg (List.replicate 12 (.int .u64 0)).toArray) Aa (cw 12 0) Af ?_
 intro gr w1 st1
 clear st0
 go_wp2_with fail
 refine wp_region_noPanic ?_
 refine aP (fun wx => St Nob w wx [(gr, cw 12 0, 117)]) 6 (.t 1 (.w 2 (.w 3 (.t 4 (.r 0 (.r 5 (.m 6 .nil))))))) Aa Aa st1.drew (fun _ _ _ _ _ h => h) ?_
 have hd1 := st1.drew
 clear st1
 refine aV rfl rfl rfl rfl (cw 4 n) (fun wx hS => (HKN.out.keep (St.fr hS) id).range 0 _ dZl) underlying111 rfl Ap ?_
 try simp only [J]
 refine aJ rfl rfl apW ?_
 try simp only [J]
 refine aJ rfl rfl apW ?_
 try simp only [J]
 refine aV rfl rfl rfl rfl ((rdT la).L) (fun wx hS => (sJ (HRE.out.still (St.fr hS)) 0 _ (s0O la []))) underlying117 rfl Am ?_
 try simp only [J]
 refine bC rfl rfl ?_
 go_simp
 refine (kB _).mono ?_
 rintro e' w2 ⟨gc, rfl, hle, hcv, hf2⟩
 have st2 := hd1.keep hf2
 have HCV := qH hcv
 clear hcv hle
 clear hf2
 clear hd1
 refine ⟨st2, ?_⟩
 try simp only [J]
 refine bC rfl rfl ?_
 go_simp
 refine (o0V n (rdT la) gc _ HCV.out).mono ?_
 rintro e' w3 ⟨rfl, hf3⟩
 have st3 := st2.keep hf3
 clear hf3
 clear st2
 refine ⟨st3, ?_⟩
 try simp only [J]
 refine aU rfl rfl ?_
 refine aG st3 0 rfl rfl rfl rfl Ar Am (PT.one _) ?_
 intro w4 st4
 clear st3
 try simp only [Act.put]
 refine aH ?_
 refine NoPanic.normal ?_
 have hr := st4.at 0 rfl
 have hfr := st4.fr
 clear st4
 go_wp2_with fail
 exact bodyPost_ret (aY rfl rfl hr underlying117 rfl Am) rfl ⟨rfl, hfr⟩
theorem g0q (m : Md) (hk : KindOf 1 m) (a : Option Addr) (n c : Nat) (l : List UInt8) (w : World) (hb : RdB w a n l) (h32 : l.length ≠ 32) :
  Calls prog 83 #[.slice a n c] w fun e w' => e = .returned (.tuple #[i4 0, .bool false]) ∧ Fr Nob w w' := by
 have HK := qH hk
 have HOK := qH hk.ok
 clear hk
 have hne : ((n : Int) != 32) = true := by have := hb.len; simp; omega
 clear h32 hb
 have st0 := St.start Nob w
 go_enter func83, ntmps83
 go_wp2_with (with_reducible refine AA 2 ?_)
 refine aA st0 rfl rfl (z := zAd) Aa (cw 4 0) Af ?_
 intro g2 w1 st1
 clear st0
 go_wp2_with (with_reducible refine AA 10 ?_)
 refine gI rfl rfl _ e0L ?_
 rw [e0M]
 go_wp2_with (with_reducible refine AB ?_)
 refine aB st1 0 rfl rfl rfl rfl rfl Ar Ap (aF _ _) ?_
 intro w2 st2
 clear st1
 have hr := st2.at 0 rfl
 have hfr := st2.fr
 clear st2
 go_wp2_with fail
 exact bodyPost_ret (cB rfl rfl hr underlying111 Ap rfl) rfl ⟨rfl, hfr⟩
theorem xQ (m : Md) (hk : KindOf 1 m) (a : Option Addr) (n c : Nat) (l : List UInt8) (w : World) (hb : RdB w a n l) (h32 : l.length = 32) (r : Bool) (hlt : decide (beN l < m.M) = r) :
  Calls prog 83 #[.slice a n c] w fun e w' => e = .returned (.tuple #[i4 (beN l), .bool r]) ∧ Fr Nob w w' := by
 have HK := qH hk
 have HOK := qH hk.ok
 clear hk
 have hbl := pD l Ab
 have HBL := qH hbl
 have h32' : n = 32 := by have := hb.len; omega
 subst h32'
 have HB := qH hb
 have HLT := qH hlt
 have hne : (((32 : Nat) : Int) != 32) = false := by rfl
 clear hb hbl h32 hlt
 have st0 := St.start Nob w
 go_enter func83, ntmps83
 go_wp2_with (with_reducible refine AA 2 ?_)
 refine aA st0 rfl rfl (z := zAd) Aa (cw 4 0) Af ?_
 intro g2 w1 st1
 clear st0
 go_wp2_with fail
 refine (OfK HK.out _).mono ?_
 rintro e' w2 ⟨gp, rfl, hle, hm, hf2⟩
 have st2 : St Nob w w2 [(g2, cw 4 0, 111), (gp, mdL m, 187)] := st1.new hf2 hm hle
 clear st1 hf2 hm hle
 go_wp2_with fail
 refine (gK a 32 c l _ (HB.out.still st2.fr) Ac).mono ?_
 rintro e' w3 ⟨rfl, hf3⟩
 have st3 := st2.keep hf3
 clear st2 hf3
 go_wp2_with (with_reducible refine AA 6 ?_)
 refine aA st3 rfl rfl (z := zAd) Aa (cw 4 0) Af ?_
 intro g6 w4 st4
 clear st3
 go_wp2_with (with_reducible refine AB ?_)
 refine aB st4 2 rfl rfl rfl rfl rfl Ar Ap (aF _ _) ?_
 intro w5 st5
 clear st4
 go_wp2_with fail
 refine wp_region_noPanic ?_
 refine aP (fun wx => St Nob w wx [(g2, cw 4 0, 111), (gp, mdL m, 187), (g6, cw 4 (beN l), 111)]) 7 (.t 0 (.t 1 (.w 2 (.w 3 (.w 4 (.t 5 (.r 6 (.m 7 (.w 8 .nil))))))))) Aa Aa st5.drew (fun _ _ _ _ _ h => h) ?_
 have hd5 := st5.drew
 clear st5
 refine aV rfl rfl rfl rfl (cw 4 (beN l)) (fun wx hS => St.rangeL hS 2 rfl 0 _ dZl) underlying111 rfl Ap ?_
 try simp only [J]
 refine aV rfl rfl rfl rfl (cw 4 (beN l)) (fun wx hS => St.rangeL hS 2 rfl 0 _ dZl) underlying111 rfl Ap ?_
 try simp only [J]
 refine aJ rfl rfl apW ?_
 try simp only [J]
 refine aJ rfl rfl apW ?_
 try simp only [J]
 refine aJ rfl rfl apW ?_
 try simp only [J]
 refine aV rfl rfl rfl rfl (cw 4 m.M) (fun wx hS => St.rangeL hS 1 rfl 0 _ (c0o m)) underlying111 rfl Ap ?_
 try simp only [J]
 refine bC rfl rfl ?_
 go_simp
 refine (vC (beN l) m.M _ HBL.out HOK.out.lt r HLT.out).mono ?_
 rintro e' w6 ⟨rfl, hf6⟩
 have st6 := hd5.keep hf6
 clear hf6
 clear hd5
 refine ⟨st6, ?_⟩
 try simp only [J]
 refine aU rfl rfl ?_
 refine aG st6 0 rfl rfl rfl rfl Ar Ap (aF _ _) ?_
 intro w7 st7
 clear st6
 try simp only [Act.put]
 refine aJ rfl rfl apW ?_
 try simp only [J]
 refine aH ?_
 refine NoPanic.normal ?_
 have hr := st7.at 0 rfl
 have hfr := st7.fr
 clear st7
 go_wp2_with fail
 exact bodyPost_ret (cB rfl rfl hr underlying111 Ap rfl) rfl ⟨rfl, hfr⟩
theorem pW {l : List UInt8} (h : cL mQ l = true) (a : Option Addr) (n c : Nat) (w : World) (hb : RdB w a n l) : Calls prog 83 #[.slice a n c] w fun e w' => e = .returned (.tuple #[i4 (beN l), .bool true]) ∧ Fr Nob w w' := by
 unfold cL at h
 simp only [Bool.and_eq_true, decide_eq_true_eq] at h
 exact xQ mQ .one a n c l w hb h.1 true (decide_eq_true h.2)
theorem e0Q {l : List UInt8} (h : cL mQ l = false) (a : Option Addr) (n c : Nat) (w : World) (hb : RdB w a n l) : Calls prog 83 #[.slice a n c] w fun e w' => (∃ N, e = .returned (.tuple #[i4 N, .bool false])) ∧ Fr Nob w w' := by
 unfold cL at h
 by_cases h32 : l.length = 32
 ·rw [decide_eq_true h32, Bool.true_and] at h
  exact (xQ mQ .one a n c l w hb h32 false h).mono fun _ _ t => ⟨⟨_, t.1⟩, t.2⟩
 ·exact (g0q mQ .one a n c l w hb h32).mono fun _ _ t => ⟨⟨_, t.1⟩, t.2⟩
end
section
open Go.RowKit Go.Mv Mvp Mvq
theorem g0r {gp : Nat} : ((nT mP gp gXn gYn).drop 5).take zX.L.length = zX.L := l0g mP gp gXn gYn
theorem b0W : (prog.info? 22).map (fun i => (i.zero, i.size, i.bytes)) = some (some (.slice none 0 0), 1, 24) := by kernel_rfl
attribute [local irreducible] bI lw mix cw cT dG cS bQ aO beN dO cI dI bM bT elN mdL cL rtN rtV dW gXn gYn PT.L a0A zU nK tbL tmR tmL dbN sK rL uY dig rdT dM fD ptL mA gY cK
theorem j0b (vk va : Value) (lk la : List UInt8) (w : World) (hpk : BPart w vk lk) (hpa : BPart w va la) (hk : cL mQ lk = true) (hg : gY [la] = true) :
  Calls prog 28 #[vk, va] w fun e w' => ∃ v, e = .returned (.tuple #[v, .int .i64 0]) ∧ Own w' w.heap.size 5 1 v 33 (bs (cK (uY [(beN lk, rdT la)]).pt)) ∧ Fr Nob w w' := by
 have HP := qH (BParts.one hpa)
 have HA1 := qH (BPart.one hpa)
 have HK := qH hk
 obtain ⟨ak, nk, ck, rfl, -, hrk⟩ := hpk
 have HRK := qH hrk
 have HG := qH hg
 clear hg hpa hk hrk
 have st0 := St.start Nob w
 go_enter func28, ntmps28
 go_wp2_with fail
 refine (pW HK.out ak nk ck _ (HRK.out.still st0.fr)).mono ?_
 rintro e' w1 ⟨rfl, hf1⟩
 have st1 := st0.keep hf1
 clear st0 hf1
 go_wp2_with (with_reducible refine AA 6 ?_)
 refine aA st1 rfl rfl (z := zAd) Aa (cw 4 0) Af ?_
 intro gk w2 st2
 clear st1
 go_wp2_with (with_reducible refine AB ?_)
 refine aB st2 0 rfl rfl rfl rfl rfl Ar Ap (aF _ _) ?_
 intro w3 st3
 clear st2
 have HKN := qH (st3.at 0 rfl)
 have HF1 := qH st3.fr
 clear st3
 go_wp2_with (with_reducible refine AA 17 ?_)
 refine dH (vs := [va]) (hgd := rfl) (ho := rfl) (hu := underlying39) (hi0 := b0W) (hp := by rfl) (hv := (fun v hv => by simp at hv; subst hv; exact HA1.out)) (hk := by rfl) (hz := by rfl) (h := ?_)
 intro wS hgS hfS hzS
 clear hzS
 generalize w3.heap.size = gl at *
 have HF2 := qH (HF1.out.then hfS)
 have HKN2 := qH (HKN.out.keep hfS id)
 have HRD := qH (show Rd wS (some ⟨gl, 0, none⟩) 1 [va] from Rd.whole hgS)
 clear hgS hfS HF1 HKN
 go_wp2_with fail
 refine (a0c gk _ 1 1 [va] [la] _ HRD.out (HP.out.still HF2.out) Ac HG.out (uY [(beN lk, rdT la)]) (fun ap cp wx hfx hrx => l0M la wx (beN lk) gk (HKN2.out.keep hfx id) ap cp hrx)).mono ?_
 rintro e wE ⟨v, rfl, hown, hfE⟩
 have h3 := HF2.out.then hfE
 have ho := hown.mono HF2.out.size
 clear hown hfE HF2
 go_wp2_with fail
 go_ret2
 exact ⟨v, rfl, ho, h3⟩
theorem d0o (vk va : Value) (lk la : List UInt8) (w : World) (hpk : BPart w vk lk) (hpa : BPart w va la) (hk : cL mQ lk = true) (hg : gY [la] = false) :
  Calls prog 28 #[vk, va] w fun e w' => e = .returned (.tuple #[.slice none 0 0, .int .i64 4]) ∧ Fr Nob w w' := by
 have HP := qH (BParts.one hpa)
 have HA1 := qH (BPart.one hpa)
 have HK := qH hk
 obtain ⟨ak, nk, ck, rfl, -, hrk⟩ := hpk
 have HRK := qH hrk
 have HG := qH hg
 clear hg hpa hk hrk
 have st0 := St.start Nob w
 go_enter func28, ntmps28
 go_wp2_with fail
 refine (pW HK.out ak nk ck _ (HRK.out.still st0.fr)).mono ?_
 rintro e' w1 ⟨rfl, hf1⟩
 have st1 := st0.keep hf1
 clear st0 hf1
 go_wp2_with (with_reducible refine AA 6 ?_)
 refine aA st1 rfl rfl (z := zAd) Aa (cw 4 0) Af ?_
 intro gk w2 st2
 clear st1
 go_wp2_with (with_reducible refine AB ?_)
 refine aB st2 0 rfl rfl rfl rfl rfl Ar Ap (aF _ _) ?_
 intro w3 st3
 clear st2
 have HKN := qH (st3.at 0 rfl)
 have HF1 := qH st3.fr
 clear st3
 go_wp2_with (with_reducible refine AA 17 ?_)
 refine dH (vs := [va]) (hgd := rfl) (ho := rfl) (hu := underlying39) (hi0 := b0W) (hp := by rfl) (hv := (fun v hv => by simp at hv; subst hv; exact HA1.out)) (hk := by rfl) (hz := by rfl) (h := ?_)
 intro wS hgS hfS hzS
 clear hzS
 generalize w3.heap.size = gl at *
 have HF2 := qH (HF1.out.then hfS)
 have HKN2 := qH (HKN.out.keep hfS id)
 have HRD := qH (show Rd wS (some ⟨gl, 0, none⟩) 1 [va] from Rd.whole hgS)
 clear hgS hfS HF1 HKN
 go_wp2_with fail
 refine (wF gk _ 1 1 [va] [la] _ HRD.out (HP.out.still HF2.out) Ac HG.out).mono ?_
 rintro e wE ⟨rfl, hfE⟩
 have h3 := HF2.out.then hfE
 clear hfE HF2
 go_wp2_with fail
 go_ret2
 exact ⟨rfl, h3⟩
theorem d0p (vk va : Value) (lk la : List UInt8) (w : World) (hpk : BPart w vk lk) (hpa : BPart w va la) (hk : cL mQ lk = false) :
  Calls prog 28 #[vk, va] w fun e w' => e = .returned (.tuple #[.slice none 0 0, .int .i64 3]) ∧ Fr Nob w w' := by
 have HP := qH (BParts.one hpa)
 have HA1 := qH (BPart.one hpa)
 have HK := qH hk
 obtain ⟨ak, nk, ck, rfl, -, hrk⟩ := hpk
 have HRK := qH hrk
 clear hpa hk hrk
 have st0 := St.start Nob w
 go_enter func28, ntmps28
 go_wp2_with fail
 refine (e0Q HK.out ak nk ck _ (HRK.out.still st0.fr)).mono ?_
 rintro e' w1 ⟨⟨N, rfl⟩, hf1⟩
 have st1 := st0.keep hf1
 clear st0 hf1
 go_wp2_with (with_reducible refine AA 6 ?_)
 refine aA st1 rfl rfl (z := zAd) Aa (cw 4 0) Af ?_
 intro gk w2 st2
 clear st1
 go_wp2_with (with_reducible refine AB ?_)
 refine aB st2 0 rfl rfl rfl rfl rfl Ar Ap (aF _ _) ?_
 intro w3 st3
 clear st2
 have hfr := st3.fr
 clear st3
 go_wp2_with fail
 go_ret2
 exact ⟨rfl, hfr⟩
theorem oC (va : Value) (l : List UInt8) (w : World) (hpa : BPart w va l) (hk : dM l = true) :
  Calls prog 75 #[va] w fun e w' => e = .returned (.bool true) ∧ Fr Nob w w' := by
 obtain ⟨a, n, c, rfl, hcc, hrd⟩ := hpa
 have HCC := qH hcc
 have HRD := qH hrd
 have HK := qH hk
 clear hcc hrd hk
 have st0 := St.start Nob w
 go_enter func75, ntmps75
 go_wp2_with fail
 refine (kB _).mono ?_
 rintro e' w1 ⟨gc, rfl, hle, hcv, hf1⟩
 have st1 := st0.keep hf1
 have HCV := qH hcv
 clear hcv hle
 clear st0 hf1
 go_wp2_with fail
 refine (b0V l HK.out gc a n c _ HCV.out (HRD.out.still st1.fr) HCC.out).mono ?_
 rintro e' w2 ⟨rfl, hf2⟩
 have st2 := st1.keep hf2
 clear st1 hf2
 go_wp2_with (with_reducible refine AA 3 ?_)
 refine aA st2 rfl rfl (z := .agg (List.replicate 12 (.int .u64 0)).toArray) Aa (cw 12 0) Af ?_
 intro g3 w3 st3
 clear st2
 go_wp2_with (with_reducible refine AB ?_)
 refine aB st3 0 rfl rfl rfl rfl rfl Ar Am (PT.one _) ?_
 intro w4 st4
 clear st3
 have hfr := st4.fr
 clear st4
 go_wp2_with fail
 go_ret
 exact ⟨rfl, hfr⟩
theorem rM (va : Value) (l : List UInt8) (w : World) (hpa : BPart w va l) (hk : dM l = false) :
  Calls prog 75 #[va] w fun e w' => e = .returned (.bool false) ∧ Fr Nob w w' := by
 obtain ⟨a, n, c, rfl, hcc, hrd⟩ := hpa
 have HCC := qH hcc
 have HRD := qH hrd
 have HK := qH hk
 clear hcc hrd hk
 have st0 := St.start Nob w
 go_enter func75, ntmps75
 go_wp2_with fail
 refine (kB _).mono ?_
 rintro e' w1 ⟨gc, rfl, hle, hcv, hf1⟩
 have st1 := st0.keep hf1
 have HCV := qH hcv
 clear hcv hle
 clear st0 hf1
 go_wp2_with fail
 refine (i0Z l HK.out gc a n c _ HCV.out (HRD.out.still st1.fr) HCC.out).mono ?_
 rintro e' w2 ⟨⟨X, Y, Z, rfl⟩, hf2⟩
 have st2 := st1.keep hf2
 clear st1 hf2
 go_wp2_with (with_reducible refine AA 3 ?_)
 refine aA st2 rfl rfl (z := .agg (List.replicate 12 (.int .u64 0)).toArray) Aa (cw 12 0) Af ?_
 intro g3 w3 st3
 clear st2
 go_wp2_with (with_reducible refine AB ?_)
 refine aB st3 0 rfl rfl rfl rfl rfl Ar (by first | (rw [aT]; kernel_rfl) | (simp only [lJ]; kernel_rfl)) (d0n _ _ _ _) ?_
 intro w4 st4
 clear st3
 have hfr := st4.fr
 clear st4
 go_wp2_with fail
 go_ret
 exact ⟨rfl, hfr⟩
theorem o0Z (w : World) : Calls prog 29 #[] w fun e w' => ∃ v, e = .returned v ∧ Own w' w.heap.size 5 1 v 33 (bs (cK zX.pt)) ∧ Fr Nob w w' := by
 go_enter func29, ntmps29
 go_wp2_with fail
 refine (kB _).mono ?_
 rintro e w1 ⟨gc, rfl, hle, hcv, hf1⟩
 have HCV := qH hcv
 have HF1 := qH hf1
 clear hle hcv hf1
 go_wp2_with fail
 refine (kB _).mono ?_
 rintro e w2 ⟨gd, rfl, hle, ⟨gq, hc2, hm2⟩, hf2⟩
 have HCV2 := qH (HCV.out.keep hf2)
 have HF2 := qH (HF1.out.then hf2)
 clear hle hm2 hf2 HCV HF1
 go_wp2_with (with_reducible refine AA 5 ?_)
 refine yT rfl rfl underlying117 rfl rfl (cs := zX.L) (fun i v hv => hc2.range 5 _ g0r i v hv) (by rw [PT.len]; kernel_rfl) ?_
 clear hc2
 go_wp2_with fail
 refine (d0m zX gc _ HCV2.out).mono ?_
 rintro e w3 ⟨v, rfl, hown, hf3⟩
 have h3 := HF2.out.then hf3
 have ho := hown.mono HF2.out.size
 clear hown hf3 HF2 HCV2
 go_wp2_with fail
 go_ret
 exact ⟨v, rfl, ho, h3⟩
end
end Go.Proofs.YtemcankmggmgoaaGreat
namespace Mvq
theorem pX : ∀ (l : List (Nat × Pt)) (n : Nat) (p : Pt), (∀ t ∈ l, onC t.2) → onC p → kA (l ++ [(n, p)]) = cE (kA l) (bV n p)
 | [], n, p, _, _ => by show cE (bV n p) .O = cE .O (bV n p); rw [eF]; rfl
 | (k, q) :: l, n, p, h, hp => by
  have hl : ∀ t ∈ l, onC t.2 := fun t ht => h t (List.mem_cons_of_mem _ ht)
  show cE (bV k q) (kA (l ++ [(n, p)])) = cE (cE (bV k q) (kA l)) (bV n p)
  rw [pX l n p hl hp, cF (bU (h (k, q) Ae) k) (uT l hl) (bU hp n)]
end Mvq
namespace Go.Proofs.YtemcankmggmgoaaGreat
open Go.RowKit Go.Mv Mvp Mvq
noncomputable def c0p (l : List (Nat × PT)) : List (Nat × Pt) := l.map fun t => (t.1, t.2.pt)
theorem j0c (l : List (Nat × PT)) : ∀ t ∈ c0p l, onC t.2 := by
 intro t ht
 obtain ⟨u, _, rfl⟩ := List.mem_map.1 ht
 exact u.2.onP
theorem j0d (l : List (Nat × PT)) (i : Nat) (o : PT) : ∀ k, k ≤ l.length → (sK l i o k).pt = cE o.pt (kA ((c0p (l.take k)).map fun t => (dig (63 - i) t.1, t.2)))
 | 0, _ => by show o.pt = cE o.pt .O; rw [eF]
 | k + 1, h => by
  have ih := j0d l i o k Ab
  have hk : k < l.length := by omega
  have e : l.take (k + 1) = l.take k ++ [qF l k] := by
   rw [List.take_succ_eq_append_getElem hk]
   simp [qF, List.getD_eq_getElem?_getD, hk]
  have hon : ∀ t ∈ (c0p (l.take k)).map (fun t => (dig (63 - i) t.1, t.2)), onC t.2 := by
   intro t ht
   obtain ⟨u, hu, rfl⟩ := List.mem_map.1 ht
   exact j0c _ u hu
  rw [e, c0p, List.map_append, List.map_append, ← c0p]
  show (a0A (sK l i o k) (nK (qF l k).2 (dig (63 - i) (qF l k).1))).pt = cE o.pt (kA ((c0p (l.take k)).map (fun t => (dig (63 - i) t.1, t.2)) ++ [(dig (63 - i) (qF l k).1, (qF l k).2.pt)]))
  rw [i0F, i0K, ih, pX _ _ _ hon (qF l k).2.onP, cF o.onP (uT _ hon) (bU (qF l k).2.onP _)]
theorem j0e (l : List (Nat × PT)) (hn : ∀ t ∈ l, t.1 < 16 ^ 64) : ∀ i, i ≤ 64 → (rL l i).pt = kA (g0V (64 - i) (c0p l))
 | 0, _ => by
  show noT.pt = _
  rw [i0H]
  have : ∀ l : List (Nat × PT), (∀ t ∈ l, t.1 < 16 ^ 64) → kA (g0V 64 (c0p l)) = .O := by
   intro l
   induction l with
   | nil => intro _; rfl
   | cons t l ih =>
    intro h
    show cE (bV (t.1 / 16 ^ 64) t.2.pt) (kA (g0V 64 (c0p l))) = .O
    rw [Nat.div_eq_of_lt (h t Ae), ih fun u hu => h u (List.mem_cons_of_mem _ hu)]
    rfl
  exact (this l hn).symm
 | i + 1, h => by
  have ih := j0e l hn i Ab
  show (sK l i (dbN (rL l i) 4) l.length).pt = _
  rw [j0d l i _ l.length (Nat.le_refl _), r0e _ rfl, ih, List.take_of_length_le (Nat.le_refl _)]
  have := b0M (63 - i) (c0p l) (j0c l)
  rw [show 63 - i + 1 = 64 - i by omega] at this
  rw [show 64 - (i + 1) = 63 - i by omega]
  exact this.symm
theorem j0f (l : List (Nat × PT)) (hn : ∀ t ∈ l, t.1 < 16 ^ 64) : (uY l).pt = kA (c0p l) := by
 have h := j0e l hn 64 (Nat.le_refl _)
 rw [Nat.sub_self] at h
 have e : g0V 0 (c0p l) = c0p l := by
  unfold g0V
  conv => rhs; rw [← List.map_id (c0p l)]
  refine List.map_congr_left fun t _ => ?_
  show (t.1 / 16 ^ 0, t.2) = t
  rw [Nat.pow_zero, Nat.div_one]
 rw [e] at h
 exact h
theorem Own.part {w : World} {base : Nat} {v : Value} {l : List UInt8} (h : Own w base 5 1 v l.length (bs l)) : BPart w v l := by
 obtain ⟨a, c, rfl, hc, hr, -⟩ := h.form
 exact ⟨a, _, c, rfl, hc, by rwa [Nat.mul_one] at hr⟩
def OwnB1 (w w' : World) (v : Value) (l : List UInt8) : Prop := Own w' w.heap.size 5 1 v l.length (bs l)
theorem OwnB1.part {w w' : World} {v : Value} {l : List UInt8} (h : OwnB1 w w' v l) : BPart w' v l := Own.part h
theorem OwnB1.nil (w w' : World) : OwnB1 w w' (.slice none 0 0) [] := Own.nil _ _ _ _
theorem OwnB1.of {w w' : World} {v : Value} {l : List UInt8} {n : Nat} (h : Own w' w.heap.size 5 1 v n (bs l)) (hn : l.length = n) : OwnB1 w w' v l := by subst hn; exact h
theorem q16 : mQ.M < 16 ^ 64 := by decide
noncomputable def tS (lk la : List UInt8) : List UInt8 := if cL mQ lk && dM la then cK (bV (beN lk) (fD la)) else []
def tC (lk la : List UInt8) : Int := if cL mQ lk then (if dM la then 0 else 4) else 3
theorem pY {l : List UInt8} (h : cL mQ l = true) : beN l < mQ.M := by
 unfold cL at h
 simp only [Bool.and_eq_true, decide_eq_true_eq] at h
 exact h.2
theorem e0R (vk va : Value) (lk la : List UInt8) (w : World) (hpk : BPart w vk lk) (hpa : BPart w va la) :
  Calls prog 28 #[vk, va] w fun e w' => ∃ v, e = .returned (.tuple #[v, .int .i64 (tC lk la)]) ∧ OwnB1 w w' v (tS lk la) ∧ Fr Nob w w' := by
 unfold tS tC
 cases hk : cL mQ lk
 ·exact (d0p vk va lk la w hpk hpa hk).mono fun e w' k => ⟨_, k.1, OwnB1.nil _ _, k.2⟩
 ·cases h : dM la
  ·exact (d0o vk va lk la w hpk hpa hk (by simpa [gY] using h)).mono fun e w' k => ⟨_, k.1, OwnB1.nil _ _, k.2⟩
  ·refine (j0b vk va lk la w hpk hpa hk (by simp [gY, h])).mono fun e w' ⟨v, k1, k2, k3⟩ => ⟨v, k1, ?_, k3⟩
   have e1 : (uY [(beN lk, rdT la)]).pt = bV (beN lk) (fD la) := by
    rw [j0f _ (by intro t ht; simp only [List.mem_singleton] at ht; subst ht; exact Nat.lt_trans (pY hk) q16)]
    show cE (bV (beN lk) (rdT la).pt) .O = _
    rw [eF, n0i h]
   rw [e1] at k2
   exact OwnB1.of k2 (eI _)
def gP : Pt := .A (kc gXn) (kc gYn)
theorem vD (w : World) : Calls prog 29 #[] w fun e w' => ∃ v, e = .returned v ∧ OwnB1 w w' v (cK gP) ∧ Fr Nob w w' :=
 (o0Z w).mono fun e w' ⟨v, k1, k2, k3⟩ => ⟨v, k1, by rw [l0w] at k2; exact OwnB1.of k2 (eI _), k3⟩
end Go.Proofs.YtemcankmggmgoaaGreat
namespace Mvp
end Mvp
namespace Go.Proofs.YtemcankmggmgoaaGreat
open Go.RowKit Go.Mv Mvp Mvq
theorem t0z : 256 ^ 31 < mQ.M := by decide
theorem pZ : onC gP := by unfold gP; exact zW
theorem wrO : cK .O = List.replicate 33 0 := rfl
end Go.Proofs.YtemcankmggmgoaaGreat
namespace Mvq
open Mvp
def frc {α : Type} (n : Nat) (f : Nat → α) : α := Nat.rec (f 0) (fun k _ => f (k + 1)) n
theorem r0k {α : Type} (n : Nat) (f : Nat → α) : frc n f = f n := by cases n <;> rfl
def hX : Nat := 0x79BE667EF9DCBBAC55A06295CE870B07029BFCDB2DCE28D959F2815B16F81798
def hY : Nat := 0x483ADA7726A3C4655DA4FBFC0E1108A8FD17B448A68554199C47D08FFB10D4B8
def hP : Pt := .A (kc hX) (kc hY)
theorem iJ : onC hP := by
 show kc hY * kc hY = kc hX * kc hX * kc hX + 7
 decide
abbrev qN : Nat := 115792089237316195423570985008687907852837564279074904382605163141518161494337
theorem r0l : qN = pQ := by decide
def xR (e : Nat) : Nat → Nat → Nat → Nat → Bool
 | 0, X, Y, Z => !(Z % fP == 0) && X % fP == hX * Z % fP && (Y + hY * Z) % fP == 0
 | k + 1, X, Y, Z =>
  !(Z % fP == 0) &&
  frc (3 * (X * X) % fP) fun d => frc (2 * Y * Z % fP) fun u => frc (u * u % fP) fun uu => frc (uu * u % fP) fun uuu => frc ((d * d * Z + (fP - 2 * X * uu % fP)) % fP) fun t =>
  frc (u * t % fP) fun X' => frc ((d * (X * uu + (fP - t % fP)) + (fP - Y * uuu % fP)) % fP) fun Y' => frc (uuu * Z % fP) fun Z' =>
  if e / 2 ^ k % 2 = 1 then
   !(Z' % fP == 0) && 
   frc ((hY * Z' + (fP - Y' % fP)) % fP) fun d => frc ((hX * Z' + (fP - X' % fP)) % fP) fun u => !(u % fP == 0) && frc (u * u % fP) fun uu => frc (uu * u % fP) fun uuu => frc ((d * d * Z' + (fP - uuu % fP) + (fP - 2 * X' * uu % fP)) % fP) fun t =>
   frc (u * t % fP) fun X2 => frc ((d * (X' * uu + (fP - t % fP)) + (fP - Y' * uuu % fP)) % fP) fun Y2 => frc (uuu * Z' % fP) fun Z2 => xR e k X2 Y2 Z2
  else xR e k X' Y' Z'
theorem p0a : xR (qN - 1) 255 hX hY 1 = true := by decide +kernel
theorem r0m (a b : Nat) (h : a % fP = b % fP) : kc a = kc b := by rw [← kV a, h, kV]
theorem l0N (a : Nat) (h : a % fP ≠ 0) : kc a ≠ 0 := by
 intro e
 have := i0A a
 rw [e, decide_eq_true rfl] at this
 exact h (by simpa using this)
theorem c0q (a : Nat) : kc (a % fP) = kc a := kV a
theorem _root_.Bi {p : Prop} (h : p := by rw [one]; grind -lia -linarith) : p := h
theorem a0d (e : Nat) : ∀ (k X Y Z : Nat), xR e k X Y Z = true → nm (kc X) (kc Y) (kc Z) = bV (e / 2 ^ k) hP → bV e hP = lW hP
 | 0, X, Y, Z, h, hp => by
  simp only [xR, Bool.and_eq_true, Bool.not_eq_true', beq_iff_eq, beq_eq_false_iff_ne, ne_eq] at h
  obtain ⟨⟨hz, hx⟩, hy⟩ := h
  rw [Nat.pow_zero, Nat.div_one] at hp
  rw [← hp]
  have hx' := r0m _ _ hx
  rw [bN] at hx'
  have hy' : kc (Y + hY * Z) = 0 := by
   have := i0A (Y + hY * Z)
   rw [hy] at this
   simpa using this
  rw [qT, bN] at hy'
  exact g0k (l0N _ hz) hx' Bb
 | k + 1, X, Y, Z, h, hp => by
  have hon : onC (nm (kc X) (kc Y) (kc Z)) := by rw [hp]; exact bU iJ _
  simp only [xR, r0k, Bool.and_eq_true, Bool.not_eq_true', beq_eq_false_iff_ne, ne_eq] at h
  obtain ⟨hz, h⟩ := h
  have hd := b0L hon (l0N _ hz) _ _ _ _ _ _ rfl rfl rfl rfl rfl rfl
  rw [hp] at hd
  have hbit := e0H iJ e k
  generalize hd0 : 3 * (X * X) % fP = d at h
  generalize hu0 : 2 * Y * Z % fP = u at h
  generalize huu : u * u % fP = uu at h
  generalize huuu : uu * u % fP = uuu at h
  generalize ht : (d * d * Z + (fP - 2 * X * uu % fP)) % fP = t at h
  generalize hX' : u * t % fP = X' at h
  generalize hY' : (d * (X * uu + (fP - t % fP)) + (fP - Y * uuu % fP)) % fP = Y' at h
  generalize hZ' : uuu * Z % fP = Z' at h
  have k2 : kc 2 = 2 := by decide
  have k3' : kc 3 = 3 := by decide
  have d1 : kc d = 3 * (kc X * kc X) := by rw [← hd0, c0q, bN, bN, k3']
  have u1 : kc u = 2 * kc Y * kc Z := by rw [← hu0, c0q, bN, bN, k2]
  have uu1 : kc uu = kc u * kc u := by rw [← huu, c0q, bN]
  have uuu1 : kc uuu = kc uu * kc u := by rw [← huuu, c0q, bN]
  have t1 : kc t = kc d * kc d * kc Z - 2 * kc X * kc uu := by rw [← ht, c0q, gW, bN, bN, bN, bN, k2]
  have X1 : kc X' = kc u * kc t := by rw [← hX', c0q, bN]
  have Y1 : kc Y' = kc d * (kc X * kc uu - kc t) - kc Y * kc uuu := by rw [← hY', c0q, gW, bN, gW, bN, bN]
  have Z1 : kc Z' = kc uuu * kc Z := by rw [← hZ', c0q, bN]
  rw [← d1, ← u1, ← uu1, ← uuu1, ← t1, ← X1, ← Y1, ← Z1] at hd
  rw [← hd] at hbit
  clear d1 u1 uu1 uuu1 t1 X1 Y1 Z1 hd0 hu0 huu huuu ht hX' hY' hZ'
  have hon' : onC (nm (kc X') (kc Y') (kc Z')) := by rw [hd]; exact eL (bU iJ _) (bU iJ _)
  by_cases hb : e / 2 ^ k % 2 = 1
  ·rw [if_pos hb] at h hbit
   simp only [Bool.and_eq_true, Bool.not_eq_true', beq_eq_false_iff_ne, ne_eq] at h
   obtain ⟨hz', hu', h⟩ := h
   have one : kc 1 = 1 := by decide
   have hnP : nm (kc hX) (kc hY) (kc 1) = hP := g0k Ac Bi Bi
   have hs := i0B (X2 := kc hX) (Y2 := kc hY) (Z2 := kc 1) hon' (by rw [hnP]; exact iJ) (l0N _ hz') Ac (kc (hY * Z')) (kc (hX * Z')) (kc Y') (kc X') (kc (hY * Z') - kc Y') (kc (hX * Z') - kc X') (kc Z') _ _ _ (bN _ _) (bN _ _) Bi Bi rfl rfl
    (by rw [← gW]; exact l0N _ (by rw [Nat.mod_mod] at hu'; exact hu')) Bi rfl rfl rfl
   rw [hnP] at hs
   generalize hd0 : (hY * Z' + (fP - Y' % fP)) % fP = d at h
   generalize hu0 : (hX * Z' + (fP - X' % fP)) % fP = u at h
   generalize huu : u * u % fP = uu at h
   generalize huuu : uu * u % fP = uuu at h
   generalize ht : (d * d * Z' + (fP - uuu % fP) + (fP - 2 * X' * uu % fP)) % fP = t at h
   have d1 : kc d = kc (hY * Z') - kc Y' := by rw [← hd0, c0q, gW]
   have u1 : kc u = kc (hX * Z') - kc X' := by rw [← hu0, c0q, gW]
   have uu1 : kc uu = kc u * kc u := by rw [← huu, c0q, bN]
   have uuu1 : kc uuu = kc uu * kc u := by rw [← huuu, c0q, bN]
   have t1 : kc t = kc d * kc d * kc Z' - kc uuu - 2 * kc X' * kc uu := by rw [← ht, c0q, gW, gW, bN, bN, bN, bN, k2]
   rw [← d1, ← u1, ← uu1, ← uuu1, ← t1] at hs
   refine a0d e k _ _ _ h ?_
   rw [hbit, ← hs, c0q, c0q, c0q, bN, gW, bN, gW, bN, bN, bN]
  ·rw [if_neg hb] at h hbit
   rw [eF] at hbit
   exact a0d e k _ _ _ h hbit.symm
theorem r0n : bV qN hP = .O := by
 have one : kc 1 = 1 := by decide
 have hnP : nm (kc hX) (kc hY) (kc 1) = hP := g0k Ac Bi Bi
 have h := a0d (qN - 1) 255 hX hY 1 p0a (by rw [hnP, show (qN - 1) / 2 ^ 255 = 1 by decide]; rfl)
 have e : qN = (qN - 1) + 1 := by decide
 rw [e]
 show cE (bV (qN - 1) hP) hP = .O
 rw [h, fG]
 exact fC
theorem jP {a b c : Pt} (ha : onC a) (hb : onC b) (hc : onC c) (h : cE a b = cE a c) : b = c := by
 have h1 : cE (lW a) (cE a b) = cE (lW a) (cE a c) := by rw [h]
 rw [← cF (dZ ha) ha hb, ← cF (dZ ha) ha hc, fG (lW a) a, fC] at h1
 exact h1
theorem mU {a b : Pt} (ha : onC a) (hb : onC b) (h : cE a b = .O) : b = lW a := jP ha hb (dZ ha) (by rw [h, fC])
theorem r0o {p : Pt} (hp : onC p) (h : cE p p = .O) : p = .O := by
 have e := mU hp hp h
 cases p with
 | O => rfl
 | A x y =>
  exfalso
  have hy : y = -y := by
   have : Pt.A x y = Pt.A x (-y) := e
   injection this
  have h2 : (2 : K) * y = 0 := by grind -lia -linarith
  exact (bE h2).elim xK (k0f hp)
theorem mV {a b c d : Pt} (ha : onC a) (hb : onC b) (hc : onC c) (hd : onC d) : cE (cE a b) (cE c d) = cE (cE a c) (cE b d) := by
 rw [cF ha hb (eL hc hd), ← cF hb hc hd, fG b c, cF hc hb hd, ← cF ha hc (eL hb hd)]
def InH (p : Pt) : Prop := ∃ n, p = bV n hP
theorem InH.on {p : Pt} (h : InH p) : onC p := by obtain ⟨n, rfl⟩ := h; exact bU iJ n
theorem InH.add {p q : Pt} (h : InH p) (k : InH q) : InH (cE p q) := by
 obtain ⟨m, rfl⟩ := h
 obtain ⟨n, rfl⟩ := k
 exact ⟨m + n, (eB iJ m n).symm⟩
theorem l0O (n : Nat) : bV (qN * n) hP = .O := by rw [iB iJ, r0n, xM]
theorem InH.neg {p : Pt} (h : InH p) : InH (lW p) := by
 obtain ⟨n, rfl⟩ := h
 refine ⟨(qN - 1) * n, (mU (bU iJ n) (bU iJ _) ?_).symm⟩
 rw [← eB iJ, show n + (qN - 1) * n = qN * n by have h := Nat.add_mul 1 (qN - 1) n; rw [Nat.one_mul, show 1 + (qN - 1) = qN by decide] at h; exact h.symm, l0O]
theorem InH.half {p : Pt} (hp : onC p) (h : InH (cE p p)) : InH p := by
 obtain ⟨n, hn⟩ := h
 have hm : onC (bV (n * ((qN + 1) / 2)) hP) := bU iJ _
 have e : cE (bV (n * ((qN + 1) / 2)) hP) (bV (n * ((qN + 1) / 2)) hP) = bV n hP := by
  rw [← eB iJ, ← Nat.mul_add, show (qN + 1) / 2 + (qN + 1) / 2 = qN + 1 by decide, Nat.mul_add, Nat.mul_one, eB iJ, Nat.mul_comm n, l0O]
  rfl
 refine ⟨n * ((qN + 1) / 2), ?_⟩
 have h2 : cE (cE p (lW (bV (n * ((qN + 1) / 2)) hP))) (cE p (lW (bV (n * ((qN + 1) / 2)) hP))) = .O := by
  rw [mV hp (dZ hm) hp (dZ hm), hn, ← e, mV hm hm (dZ hm) (dZ hm), fC]
  rfl
 have h3 := r0o (eL hp (dZ hm)) h2
 have h4 : cE (lW (bV (n * ((qN + 1) / 2)) hP)) p = cE (lW (bV (n * ((qN + 1) / 2)) hP)) (bV (n * ((qN + 1) / 2)) hP) := by
  rw [fG, h3, fG, fC]
 exact jP (dZ hm) hp hm h4
theorem l0P {i j : Nat} (hi : i < qN) (hj : j < qN) (h : bV i hP = bV j hP) : i = j := by
 have key : ∀ i j : Nat, j < qN → i < j → bV i hP = bV j hP → False := by
  intro i j hj hij h
  have hd : bV (j - i) hP = .O := by
   refine jP (bU iJ i) (bU iJ _) trivial ?_
   rw [← eB iJ, show i + (j - i) = j by omega, ← h, eF]
  have hq := r0l
  have hinv := FP.inv t0m (a := j - i) Ab Ab
  have e1 : bV ((j - i) * ((j - i) ^ (pQ - 2) % pQ)) hP = .O := by rw [iB iJ, hd, xM]
  generalize (j - i) * ((j - i) ^ (pQ - 2) % pQ) = m at *
  rw [← hq] at hinv
  have hm := Nat.div_add_mod m qN
  rw [hinv] at hm
  rw [← hm, eB iJ, l0O] at e1
  have e2 : cE (.O) (bV 1 hP) = hP := rfl
  rw [e2] at e1
  cases e1
 rcases Nat.lt_trichotomy i j with k | k | k
 ·exact (key i j hj k h).elim
 ·exact k
 ·exact (key j i hi k h.symm).elim
theorem pig (N B : Nat) (g : Nat → Nat) (hb : ∀ a, a < N → g a < B) (hi : ∀ a b, a < N → b < N → g a = g b → a = b) : N ≤ B := by
 have hnd : ((List.range N).map g).Nodup := by
  refine List.pairwise_map.2 ?_
  have h0 : (List.range N).Nodup := List.nodup_range
  refine List.Pairwise.imp_of_mem (fun {a b} ha hb' hne => ?_) h0
  exact fun e => hne (hi a b (List.mem_range.1 ha) (List.mem_range.1 hb') e)
 have hs : (List.range N).map g ⊆ List.range B := by
  intro x hx
  obtain ⟨a, ha, rfl⟩ := List.mem_map.1 hx
  exact List.mem_range.2 (hb a (List.mem_range.1 ha))
 have := List.Nodup.length_le_of_subset hnd hs
 simpa using this
def enc : Pt → Nat
 | .O => 0
 | .A x y => 1 + 2 * x.val + y.val % 2
theorem r0p (p : Pt) : enc p < 2 * fP + 1 := by
 cases p with
 | O => show 0 < 2 * fP + 1; omega
 | A x y => have := x.isLt; show 1 + 2 * x.val + y.val % 2 < 2 * fP + 1; omega
theorem p0b {p q : Pt} (hp : onC p) (hq : onC q) (h : enc p = enc q) : p = q := by
 cases p with
 | O => cases q with
  | O => rfl
  | A x y => have h' : 0 = 1 + 2 * x.val + y.val % 2 := h; omega
 | A x y => cases q with
  | O => have h' : 1 + 2 * x.val + y.val % 2 = 0 := h; omega
  | A x' y' =>
   have h' : 1 + 2 * x.val + y.val % 2 = 1 + 2 * x'.val + y'.val % 2 := h
   have hx : x = x' := Fin.ext Ab
   have hy : y.val % 2 = y'.val % 2 := by omega
   subst hx
   have hp' : y * y = x * x * x + 7 := hp
   have hq' : y' * y' = x * x * x + 7 := hq
   rcases i0E (hp'.trans hq'.symm) with e | e
   ·rw [e]
   ·exfalso
    rw [e, uV y' (k0f hq')] at hy
    omega
theorem p0c : ¬ 3 * qN ≤ 2 * fP + 1 := by decide
theorem s0P {p : Pt} (hp : onC p) : InH p := by
 refine Classical.byContradiction fun hn => ?_
 have hnp := dZ hp
 let c : Nat → Pt := fun k => if k = 0 then .O else if k = 1 then p else lW p
 have hc : ∀ k, onC (c k) := fun k => by
  show onC (if k = 0 then .O else if k = 1 then p else lW p)
  split
  ·trivial
  ·split
   ·exact hp
   ·exact hnp
 have hsub : ∀ a b : Pt, onC a → onC b → ∀ i j, cE a (bV i hP) = cE b (bV j hP) → InH (cE a (lW b)) := by
  intro a b ha hb i j h
  have hI := bU iJ i
  have hJ := bU iJ j
  obtain ⟨m, hm⟩ := InH.add (p := bV j hP) (q := lW (bV i hP)) ⟨j, rfl⟩ (InH.neg ⟨i, rfl⟩)
  refine ⟨m, ?_⟩
  rw [← hm]
  have e1 : cE (cE a (bV i hP)) (cE (lW b) (lW (bV i hP))) = cE (cE b (bV j hP)) (cE (lW b) (lW (bV i hP))) := by rw [h]
  rw [mV ha hI (dZ hb) (dZ hI), mV hb hJ (dZ hb) (dZ hI), fC, fC, eF] at e1
  exact e1
 have hdiff : ∀ k l, k < 3 → l < 3 → InH (cE (c k) (lW (c l))) → k = l := by
  have h0 : c 0 = .O := rfl
  have h1 : c 1 = p := rfl
  have h2 : c 2 = lW p := rfl
  have nn : lW (lW p) = p := (mU hnp hp (by rw [fG, fC])).symm
  have hneg : InH (lW p) → InH p := fun h => by have := h.neg; rwa [nn] at this
  intro k l hk hl h
  have hk3 : k = 0 ∨ k = 1 ∨ k = 2 := by omega
  have hl3 : l = 0 ∨ l = 1 ∨ l = 2 := by omega
  rcases hk3 with rfl | rfl | rfl <;> rcases hl3 with rfl | rfl | rfl <;> try rfl
  ·rw [h0, h1] at h; exact (hn (hneg h)).elim
  ·rw [h0, h2, nn] at h; exact (hn h).elim
  ·rw [h0, h1] at h; exact (hn (by have h' : InH (cE p .O) := h; rwa [eF] at h')).elim
  ·rw [h1, h2, nn] at h; exact (hn (InH.half hp h)).elim
  ·rw [h0, h2] at h; exact (hn (hneg (by have h' : InH (cE (lW p) .O) := h; rwa [eF] at h'))).elim
  ·rw [h1, h2] at h; exact (hn (hneg (InH.half hnp h))).elim
 have hq : 0 < qN := by decide
 have h3 := p0c
 generalize hqn : qN = q at hq h3
 refine h3 (pig (3 * q) (2 * fP + 1) (fun m => enc (cE (c (m / q)) (bV (m % q) hP))) (fun a _ => r0p _) ?_)
 intro a b ha hb h
 have ha3 : a / q < 3 := Nat.div_lt_of_lt_mul (by rw [Nat.mul_comm]; exact ha)
 have hb3 : b / q < 3 := Nat.div_lt_of_lt_mul (by rw [Nat.mul_comm]; exact hb)
 have e := p0b (eL (hc _) (bU iJ _)) (eL (hc _) (bU iJ _)) h
 have ek := hdiff _ _ ha3 hb3 (hsub _ _ (hc _) (hc _) _ _ e)
 rw [ek] at e
 have e2 := jP (hc _) (bU iJ _) (bU iJ _) e
 have hma := Nat.mod_lt a hq
 have hmb := Nat.mod_lt b hq
 rw [← hqn] at hma hmb e2
 have e3 := l0P hma hmb e2
 rw [hqn] at e3
 rw [← Nat.div_add_mod a q, ← Nat.div_add_mod b q, ek, e3]
theorem n0j {p : Pt} (hp : onC p) : bV qN p = .O := by
 obtain ⟨n, rfl⟩ := s0P hp
 rw [← iB iJ, Nat.mul_comm, l0O]
theorem lQ {p : Pt} (hp : onC p) (n : Nat) : bV (n % qN) p = bV n p := by
 have h := Nat.div_add_mod n qN
 conv => rhs; rw [← h, eB hp, iB hp, n0j hp, xM]
 rfl
theorem e0S {p : Pt} (hp : onC p) (n : Nat) : bV (qN - n % qN) p = lW (bV n p) := by
 refine mU (bU hp n) (bU hp _) ?_
 rw [← lQ hp n, ← eB hp]
 have := Nat.mod_lt n (show 0 < qN by decide)
 rw [show n % qN + (qN - n % qN) = qN by omega, n0j hp]
end Mvq
namespace Mvq
theorem e0T {a b : Pt} (ha : onC a) (hb : onC b) : lW (cE a b) = cE (lW a) (lW b) := by
 refine (mU (eL ha hb) (eL (dZ ha) (dZ hb)) ?_).symm
 rw [mV ha hb (dZ ha) (dZ hb), fC, fC]
 rfl
theorem p0d {p : Pt} (hp : onC p) (k c x : Nat) : bV ((k + c * x) % qN) p = cE (bV k p) (bV c (bV x p)) := by
 rw [lQ hp, eB hp, Nat.mul_comm c x, iB hp]
end Mvq
namespace Go.Proofs.YtemcankmggmgoaaGreat
open Go.RowKit Go.Mv Mvp Mvq
def a0e (st label : List UInt8) : Nat := beN (bH (dX a0y [st, label]) 31 64) % mQ.M
def lV (st : List UInt8) : Nat := a0e st uA
def chN (label : List UInt8) (parts : List (List UInt8)) : Nat := beN (bH (dX label parts) 31 64) % mQ.M
theorem j0g (st label : List UInt8) : a0e st label < mQ.M := Nat.mod_lt _ Ac
def cU (pub first text : List UInt8) : Nat := lV (fZ (b0l e0f) [(sE, pub), (o0j, first), (e0g, text)])
def oD (l : List UInt8) : Bool := cL mQ l && !decide (beN l = 0)
noncomputable def sgF (key text : List UInt8) : List UInt8 := cK (bV (chN eS [key, text]) gP)
noncomputable def sgZ (key text : List UInt8) : Nat := (chN eS [key, text] + cU (cK (bV (beN key) gP)) (sgF key text) text * beN key) % mQ.M
def dS (l : List UInt8) : Bool := dM l && !decide (l.getD 0 0 = 0)
open Classical in
noncomputable def veB (pub text s : List UInt8) : Bool := dS pub && decide (s.length = 65) && dM (s.take 33) && cL mQ (s.drop 33) && decide (bV (beN (s.drop 33)) gP = cE (fD (s.take 33)) (bV (cU pub (s.take 33) text) (fD pub)))
end Go.Proofs.YtemcankmggmgoaaGreat
namespace Mvt
variable {α : Type} (nd : α → α → α)
def skip (a e : Nat) : Nat × Nat := if a % 2 = 0 ∧ 0 < a then skip (a / 2) (e / 2) else (a, e)
termination_by a
decreasing_by omega
end Mvt
namespace Go.Proofs.YtemcankmggmgoaaGreat
open Go.RowKit Go.Mv Mvp Mvt
attribute [local irreducible] cO dD toB aW bG cR eD bH eU cA bD dX
end Go.Proofs.YtemcankmggmgoaaGreat
namespace Mvp
end Mvp
namespace Go.Mv
open Mvp
end Go.Mv
namespace Go.Proofs.YtemcankmggmgoaaGreat
section
open Go.RowKit Go.Mv Mvp Mvt
attribute [local irreducible] cO dD toB aW bG cR eD bH eU cA bD dX
end
section
open Go.RowKit Go.Mv Mvp Mvt
attribute [local irreducible] cO dD toB aW bG cR eD bH eU cA bD dX
end
end Go.Proofs.YtemcankmggmgoaaGreat
namespace Mvp
end Mvp
namespace Go.Proofs.YtemcankmggmgoaaGreat
section
open Go.RowKit Go.Mv Mvp
attribute [local irreducible] cO dD toB aW bG cR eD bH eU cA bD dX
theorem j0h (b : Option Addr) (n c : Nat) (l : List UInt8) (m : Nat) (w : World) (hn : n ≤ 1000000) (hnc : n ≤ c) (hm : m ≤ 16384) (hb : RdB w b n l) (ho : Old w b) :
  Calls prog 114 #[.slice b n c, .int .i64 (m : Int)] w fun r w' => ∃ v, r = .returned (.tuple #[v, .int .i64 0]) ∧ Own w' w.heap.size 5 1 v m (bs (bH l 31 m)) ∧ Fr Nob w w' := by
 refine (f0L b n c l m w hn hnc hb ho).mono ?_
 rintro r w' (⟨_, _, v, h1, h2, h3⟩ | ⟨h, _⟩)
 ·exact ⟨v, h1, by simpa using h2, h3⟩
 ·omega
end
section
open Go.RowKit Go.Mv Mvp
attribute [local irreducible] bI lw mix cw cT dG cS bQ aO beN dO cI dI bM bT elN mdL dE cL
end
section
open Go.RowKit Go.Mv Mvp
attribute [local irreducible] bI lw mix cw cT dG cS bQ aO beN dO cI dI bM bT elN mdL
end
section
open Go.RowKit Go.Mv Mvp
theorem e0U (m : Md) (hM : m.M < B64 ^ 4) (s : ByteArray) (w : World) (h : cL m s.data.toList = true) :
  Calls prog 122 #[fv m.M, .string s] w fun e w' => e = .returned (.tuple #[i4 (beN s.data.toList), .bool true]) ∧ Fr Nob w w' := by
 unfold cL at h
 simp only [Bool.and_eq_true, decide_eq_true_eq] at h
 refine (b0p m.M s w (by have := h.1; simpa using this) hM).mono fun e w' he => ?_
 rw [decide_eq_true h.2] at he
 exact he
theorem e0V (m : Md) (hM : m.M < B64 ^ 4) (s : ByteArray) (w : World) (h : cL m s.data.toList = false) :
  Calls prog 122 #[fv m.M, .string s] w fun e w' => ∃ N, e = .returned (.tuple #[i4 N, .bool false]) ∧ Fr Nob w w' := by
 by_cases hs : s.size = 32
 ·refine (b0p m.M s w hs hM).mono fun e w' he => ?_
  have h2 : ¬ beN s.data.toList < m.M := by
   intro hb
   unfold cL at h
   rw [decide_eq_true hb, decide_eq_true (by simpa using hs)] at h
   cases h
  rw [decide_eq_false h2] at he
  exact ⟨_, he⟩
 ·exact (f0Z m.M s w hs).mono fun e w' he => ⟨_, he⟩
attribute [local irreducible] bI lw mix cw cT dG cS bQ aO beN dO cI dI bM bT elN mdL cL dE
end
end Go.Proofs.YtemcankmggmgoaaGreat
namespace Mvp
end Mvp
namespace Go.Proofs.YtemcankmggmgoaaGreat
section
open Go.RowKit Go.Mv Mvp
attribute [local irreducible] bI lw mix cw cT dG cS bQ aO beN dO cI dI bM bT elN mdL dE cL
theorem BParts.four {w : World} {v1 v2 v3 v4 : Value} {l1 l2 l3 l4 : List UInt8} (h1 : BPart w v1 l1) (h2 : BPart w v2 l2) (h3 : BPart w v3 l3) (h4 : BPart w v4 l4) : BParts w [v1, v2, v3, v4] [l1, l2, l3, l4] := ⟨rfl, fun i x hx => by
 match i with
 | 0 => simp at hx; subst hx; exact h1
 | 1 => simp at hx; subst hx; exact h2
 | 2 => simp at hx; subst hx; exact h3
 | 3 => simp at hx; subst hx; exact h4
 | i + 4 => simp at hx⟩
end
section
open Go.RowKit Go.Mv Mvp
theorem p0e (x y : Nat) (hx : x < B64 ^ 4) (hy : y < B64 ^ 4) (w : World) : (Op.equal 60 (.agg (cw 4 x).toArray) (.agg (cw 4 y).toArray)).run prog w = .ok (x == y) w := by
 have h := zM (P := prog) underlying60 underlying58 iA x y w
 rw [Nat.mod_eq_of_lt hx, Nat.mod_eq_of_lt hy] at h
 rw [h]
 congr 1
attribute [local irreducible] bI lw mix cw cT dG cS bQ aO beN dO cI dI bM bT elN mdL dE cL
theorem p0f (m : Md) (hk : KindOf 1 m) (w : World) :
  Calls prog 53 #[] w fun e w' => e = .returned (fv m.M) ∧ Fr Nob w w' := by
 have HK := qH hk
 have HOK := qH hk.ok
 clear hk
 have st0 := St.start Nob w
 go_enter func53, ntmps53
 go_wp2_with (with_reducible refine AA 0 ?_)
 refine aA st0 rfl rfl (z := .agg #[.int .u64 0, .int .u64 0, .int .u64 0, .int .u64 0, .int .u64 0, .int .u64 0, .int .u64 0, .int .u64 0]) Aa (cw 8 0) Af ?_
 intro g0 w1 st1
 clear st0
 go_wp2_with fail
 refine (q0G HK.out _).mono ?_
 rintro e' w2 ⟨rfl, hf2⟩
 have st2 := st1.keep hf2
 clear st1 hf2
 go_wp2_with (with_reducible refine AB ?_)
 refine aB st2 0 rfl rfl rfl rfl rfl Ah Ad (uE _ _ _ _) ?_
 intro w3 st3
 clear st2
 have hr := st3.at 0 rfl
 have hfr := st3.fr
 clear st3
 go_wp2_with fail
 exact bodyPost_ret (aY rfl rfl hr underlying78 rfl Ad) rfl ⟨rfl, hfr⟩
theorem l0Q (m : Md) (hk : KindOf 1 m) (s : ByteArray) (w : World) (ha : cL m s.data.toList = true) :
  Calls prog 72 #[.string s] w fun e w' => e = .returned (.tuple #[i4 (beN s.data.toList), .bool true]) ∧ Fr Nob w w' := by
 have HK := qH hk
 have HOK := qH hk.ok
 clear hk
 have HA := qH ha
 clear ha
 have st0 := St.start Nob w
 go_enter func72, ntmps72
 go_wp2_with (with_reducible refine AA 2 ?_)
 refine aA st0 rfl rfl (z := zAd) Aa (cw 4 0) Af ?_
 intro g2 w1 st1
 clear st0
 go_wp2_with fail
 refine (p0f m HK.out _).mono ?_
 rintro e' w2 ⟨rfl, hf2⟩
 have st2 := st1.keep hf2
 clear st1 hf2
 go_wp2_with fail
 refine (e0U m HOK.out.lt s _ HA.out).mono ?_
 rintro e' w3 ⟨rfl, hf3⟩
 have st3 := st2.keep hf3
 clear st2 hf3
 go_wp2_with (with_reducible refine AB ?_)
 refine aB st3 0 rfl rfl rfl rfl rfl Ah Ad (aF _ _) ?_
 intro w4 st4
 clear st3
 have hr := st4.at 0 rfl
 have hfr := st4.fr
 clear st4
 go_wp2_with fail
 exact bodyPost_ret (cB rfl rfl hr underlying60 Ad rfl) rfl ⟨rfl, hfr⟩
theorem l0R (m : Md) (hk : KindOf 1 m) (s : ByteArray) (w : World) (ha : cL m s.data.toList = false) :
  Calls prog 72 #[.string s] w fun e w' => ∃ N, e = .returned (.tuple #[i4 N, .bool false]) ∧ Fr Nob w w' := by
 have HK := qH hk
 have HOK := qH hk.ok
 clear hk
 have HA := qH ha
 clear ha
 have st0 := St.start Nob w
 go_enter func72, ntmps72
 go_wp2_with (with_reducible refine AA 2 ?_)
 refine aA st0 rfl rfl (z := zAd) Aa (cw 4 0) Af ?_
 intro g2 w1 st1
 clear st0
 go_wp2_with fail
 refine (p0f m HK.out _).mono ?_
 rintro e' w2 ⟨rfl, hf2⟩
 have st2 := st1.keep hf2
 clear st1 hf2
 go_wp2_with fail
 refine (e0V m HOK.out.lt s _ HA.out).mono ?_
 rintro e' w3 ⟨NA, rfl, hf3⟩
 have st3 := st2.keep hf3
 clear st2 hf3
 go_wp2_with (with_reducible refine AB ?_)
 refine aB st3 0 rfl rfl rfl rfl rfl Ah Ad (aF _ _) ?_
 intro w4 st4
 clear st3
 have hr := st4.at 0 rfl
 have hfr := st4.fr
 clear st4
 go_wp2_with fail
 exact bodyPost_ret (cB rfl rfl hr underlying60 Ad rfl) rfl ⟨_, rfl, hfr⟩
theorem s0Q (p a b r : Nat) (w : World) (hp0 : 0 < p) (hp : p < B64 ^ 4) (ha : a < B64 ^ 4) (hb : b < B64 ^ 4) (hbp : b ≤ p) (hr : (a + (p - b)) % p = r) :
  Calls prog 137 #[fv p, i4 a, i4 b] w fun e w' => e = .returned (i4 r) ∧ Fr Nob w w' := by
 refine (o0k p a b w hp0 hp ha hb hbp).mono fun e w' h => ?_
 rw [Nat.add_mod_mod, hr] at h
 exact h
theorem r0q (p a b r : Nat) (w : World) (hp0 : 0 < p) (hp : p < B64 ^ 4) (ha : a < B64 ^ 4) (hb : b < B64 ^ 4) (hr : a * b % p = r) :
  Calls prog 58 #[fv p, i4 a, i4 b] w fun e w' => e = .returned (i4 r) ∧ Fr Nob w w' := by
 subst hr; exact oB p a b w hp0 hp ha hb
end
section
open Go.RowKit Go.Mv Mvp Mvt
theorem PartIs.bpart {w : World} {v : Value} {l : List UInt8} (h : PartIs w v l) : BPart w v l := by
 obtain ⟨a, n, c, rfl, hc, -, hr, -⟩ := h; exact ⟨a, n, c, rfl, hc, hr⟩
theorem d0q (v : Value) (l : List UInt8) (m : Nat) (w : World) (hm : m ≤ 16384) (hp : PartIs w v l) :
  Calls prog 114 #[v, .int .i64 (m : Int)] w fun r w' => ∃ v, r = .returned (.tuple #[v, .int .i64 0]) ∧ Own w' w.heap.size 5 1 v m (bs (bH l 31 m)) ∧ Fr Nob w w' := by
 obtain ⟨a, n, c, rfl, hc, hn, hr, ho⟩ := hp
 exact j0h a n c l m w hn hc hm hr ho
theorem xS (m : Md) (hk : KindOf 1 m) (v : Value) (l : List UInt8) (w : World) (hp : PartIs w v l) :
  Calls prog 116 #[v] w fun e w' => e = .returned (i4 (elN m (beN l))) ∧ Fr Nob w w' := by
 obtain ⟨a, n, c, rfl, hc, hn, hr, ho⟩ := hp
 exact i0l m hk a n c l w hr hc hn
attribute [local irreducible] bI lw mix cw cT dG cS bQ aO beN dO cI dI bM bT elN mdL dE cL cO dD toB aW bG cR eD bH eU cA bD dX
end
section
open Go.RowKit Go.Mv Mvp Mvq
attribute [local irreducible] bI lw mix cw cT dG cS bQ aO beN dO cI dI bM bT elN mdL cL cO dD toB aW bG cR eD bH eU cA bD dX
theorem q0d : (prog.info? 68).map (·.zero) = some (some (.agg #[.int .u64 0, .int .u64 0, .int .u64 0, .int .u64 0])) := by kernel_rfl
theorem jQ (x : Nat) : (prog.info? 68).map (·.size) = some (cw 4 x).length := by rw [aT]; kernel_rfl
theorem vE (x y : Nat) : (cw 4 x).length = (cw 4 y).length := by rw [aT, aT]
theorem vF {w : World} {base : Nat} {v : Value} {n : Nat} {l : List UInt8} (h : Own w base 5 1 v n (bs l)) (hn : n ≤ 1000000) : ∃ a c, v = .slice a n c ∧ PartIs w (.slice a n c) l := by
 have h2 := fB h hn
 obtain ⟨a, c, rfl, -⟩ := oU h
 exact ⟨a, c, rfl, h2⟩
theorem Parts.stillT {w w' : World} : ∀ {vs : List Value} {ls : List (List UInt8)}, Parts w vs ls → Fr Nob w w' → Parts w' vs ls
 | [], [], _, _ => trivial
 | _ :: _, _ :: _, h, hf => ⟨h.1.still hf, Parts.stillT h.2 hf⟩
 | [], _ :: _, h, _ => h.elim
 | _ :: _, [], h, _ => h.elim
theorem jD (s : ByteArray) (a : Option Addr) (n c : Nat) : prog.built 132 [(0, .string s), (1, .slice a n c)] = some ([Value.string s, .slice a n c]).toArray := by kernel_rfl
theorem xT : (prog.info? 132).map (fun i => (i.zero, i.size, i.bytes)) = some (some (.agg #[.string ByteArray.empty, .slice none 0 0]), 2, 40) := by kernel_rfl
theorem b0X (base g : Nat) (st : List UInt8) (s : ByteArray) (w : World) (hs : s.size ≤ 1000000) (hl : LogAt w base g st) (hbase : base ≤ w.heap.size) :
  Calls prog 91 #[tkV g, .string s] w fun e w' => e = .returned (i4 (elN mQ (a0e st s.data.toList))) ∧ LogAt w' base g (dX nR [st, s.data.toList]) ∧ Fr (One g) w w' := by
 have HS := qH hs
 have HL := qH hl
 have HBS := qH hbase
 clear hs hl hbase
 have st0 := St.start (One g) w
 go_enter func91, ntmps91
 go_wp2_with (with_reducible refine AA 2 ?_)
 refine zF st0 rfl rfl rfl [.pointer (some ⟨g, 0, none⟩)] rfl ?_
 intro g2 w1 st1 hf1
 have HL1 := qH (HL.out.still hf1)
 clear st0 hf1 HL
 go_wp2_with (with_reducible refine AA 4 ?_)
 refine fK st1 rfl rfl q0d (cw 4 0) Af ?_
 intro g4 w2 st2 hf2 hs2
 have HL2 := qH (HL1.out.still hf2)
 clear st1 hf2 hs2 HL1
 have hc0 := (st2.at 0 rfl).cell (i := 0) rfl
 have ST2 := qH st2
 clear st2
 go_wp2_with fail
 refine (o0a base g st s 64 _ HS.out Ac HL2.out (Nat.le_trans HBS.out ST2.out.fr.size)).mono ?_
 rintro e' w3 ⟨v, rfl, ho, hl3, hf3⟩
 have st3 := ST2.out.keep1 hf3 (.inr rfl) (HL2.out.notIn ST2.out.has (by intro x hx; simp only [List.mem_cons, List.not_mem_nil, or_false, List.cons_append, List.nil_append] at hx; rcases hx with rfl | rfl <;> (dsimp only; decide)))
 have HL3 := qH hl3
 obtain ⟨a, c, rfl, hp⟩ := vF ho Ac
 have HP := qH hp
 clear hl3 hf3 ho hp HL2 ST2 hc0
 go_wp2_with fail
 refine (xS mQ .one _ _ _ HP.out).mono ?_
 rintro e' w4 ⟨rfl, hf4⟩
 have st4 := st3.keep hf4
 have HL4 := qH (HL3.out.still hf4)
 clear st3 hf4 HL3 HP
 go_wp2_with (with_reducible refine AB ?_)
 refine gS st4 1 rfl rfl rfl rfl rfl (vE _ _) (jQ _) (aF _ _) ?_
 intro w5 st5 hf5
 have HL5 := qH (HL4.out.off hf5 (st4.at 1 rfl) Ac Ac)
 clear st4 hf5 HL4
 have hr := st5.at 1 rfl
 have hfr := st5.fr
 clear st5
 go_wp2_with fail
 exact bodyPost_ret (aY rfl rfl hr underlying68 rfl (jQ _)) rfl ⟨by unfold a0e; rw [b0v]; rfl, HL5.out, hfr⟩
theorem p0g (base g : Nat) (st : List UInt8) (w : World) (hl : LogAt w base g st) (hbase : base ≤ w.heap.size) :
  Calls prog 118 #[tkV g] w fun e w' => e = .returned (i4 (elN mQ (lV st))) ∧ LogAt w' base g (dX nR [st, uA]) ∧ Fr (One g) w w' := by
 have HL := qH hl
 have HBS := qH hbase
 clear hl hbase
 have st0 := St.start (One g) w
 go_enter func118, ntmps118
 go_wp2_with (with_reducible refine AA 1 ?_)
 refine zF st0 rfl rfl rfl [.pointer (some ⟨g, 0, none⟩)] rfl ?_
 intro g2 w1 st1 hf1
 have HL1 := qH (HL.out.still hf1)
 clear st0 hf1 HL
 go_wp2_with (with_reducible refine AA 2 ?_)
 refine fK st1 rfl rfl q0d (cw 4 0) Af ?_
 intro g4 w2 st2 hf2 hs2
 have HL2 := qH (HL1.out.still hf2)
 clear st1 hf2 hs2 HL1
 go_wp2_with (with_reducible refine AA 3 ?_)
 refine aM st2 0 rfl rfl rfl underlying128 rfl rfl Aa ?_
 have ST2 := qH st2
 clear st2
 go_wp2_with fail
 refine (b0X base g st ⟨#[99, 104, 97, 108, 108, 101, 110, 103, 101]⟩ _ Ac HL2.out (Nat.le_trans HBS.out ST2.out.fr.size)).mono ?_
 rintro e' w3 ⟨rfl, hl3, hf3⟩
 have st3 := ST2.out.keep1 hf3 (.inr rfl) (HL2.out.notIn ST2.out.has (by intro x hx; simp only [List.mem_cons, List.not_mem_nil, or_false, List.cons_append, List.nil_append] at hx; rcases hx with rfl | rfl <;> (dsimp only; decide)))
 have HL3 := qH hl3
 clear hl3 hf3 HL2 ST2
 go_wp2_with (with_reducible refine AB ?_)
 refine gS st3 1 rfl rfl rfl rfl rfl (vE _ _) (jQ _) (aF _ _) ?_
 intro w5 st5 hf5
 have HL5 := qH (HL3.out.off hf5 (st3.at 1 rfl) Ac Ac)
 clear st3 hf5 HL3
 have hr := st5.at 1 rfl
 have hfr := st5.fr
 clear st5
 go_wp2_with fail
 exact bodyPost_ret (aY rfl rfl hr underlying68 rfl (jQ _)) rfl ⟨rfl, HL5.out, hfr⟩
theorem l0S (s : ByteArray) (k : List UInt8) (hk : s.data.toList = k) (gl c : Nat) (vs : List Value) (ls : List (List UInt8)) (w : World) (hs : s.size ≤ 1000000) (hh : Has w gl vs 22) (hp : Parts w vs ls) (hn : ls.length ≤ 1000000) :
  Calls prog 47 #[.string s, .slice (some ⟨gl, 0, none⟩) ls.length c] w fun e w' => e = .returned (i4 (elN mQ (chN k ls))) ∧ Fr Nob w w' := by
 subst hk
 have HS := qH hs
 have HH := qH hh
 have HP := qH hp
 have HN := qH hn
 clear hs hh hp hn
 have st0 := St.start Nob w
 go_enter func47, ntmps47
 go_wp2_with (with_reducible refine AA 4 ?_)
 refine fK st0 rfl rfl q0d (cw 4 0) Af ?_
 intro g4 w2 st2 hf2 hs2
 have HH2 := qH (HH.out.keep hf2 id)
 have HP2 := qH (HP.out.stillT hf2)
 clear st0 hf2 hs2 HH HP
 go_wp2_with fail
 refine (n0Y s (some ⟨gl, 0, none⟩) c ls _ HS.out HN.out (HP2.out.at HH2.out)).mono ?_
 rintro e' w3 ⟨v, rfl, ho, hf3⟩
 have st3 := st2.keep hf3
 obtain ⟨a, c3, rfl, hq⟩ := vF ho Ac
 have HQ := qH hq
 clear st2 hf3 ho hq HH2 HP2
 go_wp2_with fail
 refine (d0q _ _ 64 _ Ac HQ.out).mono ?_
 rintro e' w4 ⟨v, rfl, ho, hf4⟩
 have st4 := st3.keep hf4
 obtain ⟨a4, c4, rfl, hq⟩ := vF ho Ac
 have HQ4 := qH hq
 clear st3 hf4 ho hq HQ
 go_wp2_with fail
 refine (xS mQ .one _ _ _ HQ4.out).mono ?_
 rintro e' w5 ⟨rfl, hf5⟩
 have st5 := st4.keep hf5
 clear st4 hf5 HQ4
 go_wp2_with (with_reducible refine AB ?_)
 refine aB st5 0 rfl rfl rfl rfl rfl (vE _ _) (jQ _) (aF _ _) ?_
 intro w6 st6
 clear st5
 have hr := st6.at 0 rfl
 have hfr := st6.fr
 clear st6
 go_wp2_with fail
 exact bodyPost_ret (aY rfl rfl hr underlying68 rfl (jQ _)) rfl ⟨by unfold chN; rw [b0v]; rfl, hfr⟩
theorem j0i (v0 : Value) (l0 : List UInt8) (v1 : Value) (l1 : List UInt8) (v2 : Value) (l2 : List UInt8) (w : World) (h0 : PartIs w v0 l0) (h1 : PartIs w v1 l1) (h2 : PartIs w v2 l2) :
  Calls prog 50 #[v0, v1, v2] w fun e w' => e = .returned (i4 (elN mQ (cU l0 l1 l2))) ∧ Fr Nob w w' := by
 obtain ⟨a0, n0, c0, rfl, k0⟩ := h0
 have H0 := qH (show PartIs w (.slice a0 n0 c0) l0 from ⟨a0, n0, c0, rfl, k0⟩)
 clear k0
 obtain ⟨a1, n1, c1, rfl, k1⟩ := h1
 have H1 := qH (show PartIs w (.slice a1 n1 c1) l1 from ⟨a1, n1, c1, rfl, k1⟩)
 clear k1
 obtain ⟨a2, n2, c2, rfl, k2⟩ := h2
 have H2 := qH (show PartIs w (.slice a2 n2 c2) l2 from ⟨a2, n2, c2, rfl, k2⟩)
 clear k2
 have st0 := St.start Nob w
 go_enter func50, ntmps50
 go_wp2_with (with_reducible refine AA 6 ?_)
 refine fK st0 rfl rfl q0d (cw 4 0) Af ?_
 intro g4 w2 st2 hf2 hs2
 have HSZ := qH st2.fr.size
 clear st0 hf2 hs2
 go_wp2_with fail
 refine (b0q ⟨#[115, 105, 103, 110]⟩ _ Ac).mono ?_
 rintro e' w3 ⟨g, rfl, hle, hl, hf3⟩
 have st3 := st2.keep hf3
 have HL := qH hl
 have HG := qH (Nat.le_trans HSZ.out hle)
 have HBS := qH hf3.size
 clear st2 hf3 hl hle HSZ
 go_wp2_with (with_reducible refine AA 9 ?_)
 refine cD rfl rfl _ (jD _ _ _ _) ?_
 go_wp2_with (with_reducible refine AA 11 ?_)
 refine cD rfl rfl _ (jD _ _ _ _) ?_
 go_wp2_with (with_reducible refine AA 13 ?_)
 refine cD rfl rfl _ (jD _ _ _ _) ?_
 go_wp2_with (with_reducible refine AA 14 ?_)
 refine nD rfl rfl underlying193 xT [.agg #[.string ⟨#[112, 117, 98, 108, 105, 99]⟩, .slice a0 n0 c0], .agg #[.string ⟨#[102, 105, 114, 115, 116]⟩, .slice a1 n1 c1], .agg #[.string ⟨#[116, 101, 120, 116]⟩, .slice a2 n2 c2]] rfl Ay rfl (sdC [(⟨#[112, 117, 98, 108, 105, 99]⟩, .slice a0 n0 c0), (⟨#[102, 105, 114, 115, 116]⟩, .slice a1 n1 c1), (⟨#[116, 101, 120, 116]⟩, .slice a2 n2 c2)]) (by unfold sdC; simp [Value.cells]) ?_
 intro w5 hh5 hf5 hz5
 have st5 := st3.keep hf5
 have HL5 := qH (HL.out.still hf5)
 have HH5 := qH hh5
 have HBS5 := qH (Nat.le_trans HBS.out hf5.size)
 clear st3 hf5 hz5 HL HBS hh5
 generalize w3.heap.size = gl at *
 have ST5 := qH st5
 clear st5
 go_wp2_with fail
 refine (e0r w _ g _ gl 3 [(⟨#[112, 117, 98, 108, 105, 99]⟩, .slice a0 n0 c0), (⟨#[102, 105, 114, 115, 116]⟩, .slice a1 n1 c1), (⟨#[116, 101, 120, 116]⟩, .slice a2 n2 c2)] [l0, l1, l2] _ HG.out ST5.out.fr HBS5.out HL5.out HH5.out Ae (by intro x hx; simp only [List.mem_cons, List.not_mem_nil, or_false] at hx; rcases hx with rfl | rfl | rfl <;> simp <;> decide) ⟨H0.out, H1.out, H2.out, trivial⟩).mono ?_
 rintro e' w6 ⟨rfl, hl6, hf6⟩
 have st6 := ST5.out.keep1 hf6 (.inl HG.out) (HL5.out.notIn ST5.out.has (by intro x hx; simp only [List.mem_cons, List.not_mem_nil, or_false, List.nil_append] at hx; subst hx; dsimp only; decide))
 have HL6 := qH hl6
 have HBS6 := qH (Nat.le_trans HBS5.out hf6.size)
 clear ST5 hl6 hf6 HL5 HH5 HBS5 H0 H1 H2
 have ST6 := qH st6
 clear st6
 go_wp2_with fail
 refine (p0g _ g _ _ HL6.out HBS6.out).mono ?_
 rintro e' w7 ⟨rfl, hl7, hf7⟩
 have st7 := ST6.out.keep1 hf7 (.inl HG.out) (HL6.out.notIn ST6.out.has (by intro x hx; simp only [List.mem_cons, List.not_mem_nil, or_false, List.nil_append] at hx; subst hx; dsimp only; decide))
 clear ST6 hl7 hf7 HL6 HBS6 HG
 go_wp2_with (with_reducible refine AB ?_)
 refine aB st7 0 rfl rfl rfl rfl rfl (vE _ _) (jQ _) (aF _ _) ?_
 intro w8 st8
 clear st7
 have hr := st8.at 0 rfl
 have hfr := st8.fr
 clear st8
 go_wp2_with fail
 exact bodyPost_ret (aY rfl rfl hr underlying68 rfl (jQ _)) rfl ⟨rfl, hfr⟩
end
end Go.Proofs.YtemcankmggmgoaaGreat
namespace Go.Mv
open Go.RowKit
theorem g0s (A F B cs : List Value) (n off : Nat) (hA : A.length = n) (h : off + cs.length ≤ F.length) : splice (A ++ (F ++ B)) (n + off) cs = A ++ (splice F off cs ++ B) := by
 subst hA
 unfold splice
 have h1 : List.take (A.length + off) (A ++ (F ++ B)) = A ++ List.take off F := by
  rw [List.take_length_add_append, List.take_append_of_le_length Ab]
 have h2 : List.drop (A.length + off + cs.length) (A ++ (F ++ B)) = List.drop (off + cs.length) F ++ B := by
  rw [Nat.add_assoc, List.drop_length_add_append, List.drop_append_of_le_length h]
 rw [h1, h2]
 simp [List.append_assoc]
theorem e0W (f f' : Nat → List Value) (k : Nat) (hl : ∀ i, (f i).length = k) (n i off : Nat) (cs : List Value) (h : i < n) (ho : off + cs.length ≤ k) (hi : f' i = splice (f i) off cs) (hv : ∀ j, j ≠ i → f' j = f j) : splice ((List.range n).flatMap f) (i * k + off) cs = (List.range n).flatMap f' := by
 have hlen : (splice (f i) off cs).length = k := by
  unfold splice
  simp only [List.length_append, List.length_take, List.length_drop, hl]
  omega
 have e := e0J f f' k hl n i h (by rw [hi]; exact hlen) hv
 rw [← e, hi, nG f n i h, g0s _ _ _ cs (i * k) off (by rw [iY f k hl, Nat.mul_comm]) (by rw [hl]; exact ho), xO _ _ _ _ (i * k) (by rw [iY f k hl, Nat.mul_comm]) (by rw [hlen, hl])]
end Go.Mv
namespace Go.Proofs.YtemcankmggmgoaaGreat
section
open Go.RowKit Go.Mv Mvp Mvq
noncomputable def tmF (n : Nat) (a : Nat → Nat) (T : Nat → List Value) : List Value := (List.range n).flatMap fun i => cw 4 (a i) ++ T i
def upN {α : Type} (a : Nat → α) (k : Nat) (x : α) : Nat → α := fun i => if i = k then x else a i
theorem j0j (a : Nat → Nat) (T : Nat → List Value) (hT : ∀ i, (T i).length = 192) (i : Nat) : (cw 4 (a i) ++ T i).length = 196 := by rw [List.length_append, aT, hT]
theorem j0k (n : Nat) (a : Nat → Nat) (T : Nat → List Value) (hT : ∀ i, (T i).length = 192) : (tmF n a T).length = n * 196 := by
 rw [Nat.mul_comm]; exact iY _ 196 (j0j a T hT) n
theorem l0T (n : Nat) (a : Nat → Nat) (T : Nat → List Value) (hT : ∀ i, (T i).length = 192) (k x : Nat) (h : k < n) : splice (tmF n a T) (k * 196) (cw 4 x) = tmF n (upN a k x) T := by
 have := e0W (fun i => cw 4 (a i) ++ T i) (fun i => cw 4 (upN a k x i) ++ T i) 196 (j0j a T hT) n k 0 (cw 4 x) h Av
  (by
   show cw 4 (upN a k x k) ++ T k = _
   unfold upN splice
   rw [if_pos rfl, Nat.zero_add, aT, List.drop_append_of_le_length Av, List.drop_of_length_le Av]
   rfl)
  (fun j hj => by show cw 4 (upN a k x j) ++ T j = _; unfold upN; rw [if_neg hj])
 rw [Nat.add_zero] at this
 exact this
theorem l0U (n : Nat) (a : Nat → Nat) (T : Nat → List Value) (hT : ∀ i, (T i).length = 192) (k : Nat) (t : List Value) (ht : t.length = 192) (h : k < n) : splice (tmF n a T) (k * 196 + 4) t = tmF n a (upN T k t) :=
 e0W (fun i => cw 4 (a i) ++ T i) (fun i => cw 4 (a i) ++ upN T k t i) 196 (j0j a T hT) n k 4 t h (by rw [ht]; omega)
  (by
   show cw 4 (a k) ++ upN T k t k = _
   unfold upN splice
   rw [if_pos rfl, List.take_append_of_le_length Av, List.take_of_length_le Av, List.drop_of_length_le (by rw [List.length_append, aT, hT, ht]; omega), List.append_nil])
  (fun j hj => by show cw 4 (a j) ++ upN T k t j = _; unfold upN; rw [if_neg hj])
theorem mW (n : Nat) (a a' : Nat → Nat) (T T' : Nat → List Value) (h : ∀ i, i < n → a i = a' i ∧ T i = T' i) : tmF n a T = tmF n a' T' := by
 unfold tmF
 rw [List.flatMap_def, List.flatMap_def]
 congr 1
 exact List.map_congr_left fun i hi => by obtain ⟨h1, h2⟩ := h i (List.mem_range.1 hi); rw [h1, h2]
theorem l0V (n : Nat) : List.replicate (n * 196) (Value.int .u64 0) = tmF n (fun _ => 0) (fun _ => cw 192 0) := by
 unfold tmF
 induction n with
 | zero => rfl
 | succ n ih =>
  rw [List.range_succ, List.flatMap_append, ← ih, Nat.succ_mul, ← List.replicate_append_replicate]
  congr 1
  simp only [List.flatMap_cons, List.flatMap_nil, List.append_nil, mG]
  rw [List.replicate_append_replicate]
theorem p0h (l : List (Nat × PT)) : tmF l.length (fun i => (qF l i).1) (fun i => tbL (qF l i).2 16) = tmL l := rfl
end
section
open Go.RowKit Go.Mv Mvp Mvq
noncomputable def tkT (ls : List (List UInt8)) (k : Nat) : Nat → List Value := fun i => if i < k then tbL (rdT (ls.getD i [])) 16 else cw 192 0
theorem j0l (ls : List (List UInt8)) (k i : Nat) : (tkT ls k i).length = 192 := by
 unfold tkT
 split
 ·exact gX _ _
 ·exact aT _ _
noncomputable def c0r (a : Nat → Nat) (ls : List (List UInt8)) : List (Nat × PT) := (List.range ls.length).map fun i => (a i, rdT (ls.getD i []))
theorem e0X (a : Nat → Nat) (ls : List (List UInt8)) : (c0r a ls).length = ls.length := by simp [c0r]
theorem p0i (a : Nat → Nat) (ls : List (List UInt8)) (i : Nat) (h : i < ls.length) : qF (c0r a ls) i = (a i, rdT (ls.getD i [])) := by
 unfold qF c0r
 rw [List.getD_eq_getElem?_getD, List.getElem?_map, List.getElem?_range h]
 rfl
theorem l0W (a : Nat → Nat) (ls : List (List UInt8)) : tmF ls.length a (tkT ls ls.length) = tmL (c0r a ls) := by
 rw [← p0h, e0X]
 refine mW _ _ _ _ _ fun i hi => ?_
 rw [p0i a ls i hi]
 refine ⟨rfl, ?_⟩
 unfold tkT
 rw [if_pos hi]
theorem l0X (n : Nat) (a : Nat → Nat) (ls : List (List UInt8)) : tmF n a (fun _ => cw 192 0) = tmF n a (tkT ls 0) := mW _ _ _ _ _ fun i _ => ⟨rfl, by unfold tkT; rw [if_neg (Nat.not_lt_zero _)]⟩
theorem p0j (n : Nat) (a : Nat → Nat) (ls : List (List UInt8)) (k : Nat) (h : k < n) (l : List UInt8) (hl : ls.getD k [] = l) : splice (tmF n a (tkT ls k)) (k * 196 + 4) (tbL (rdT l) 16) = tmF n a (tkT ls (k + 1)) := by
 subst hl
 rw [l0U n a _ (j0l ls k) k _ (gX _ _) h]
 refine mW _ _ _ _ _ fun i _ => ⟨rfl, ?_⟩
 unfold upN tkT
 by_cases e : i = k
 ·rw [if_pos e, if_pos Ab, e]
 ·rw [if_neg e]
  by_cases e2 : i < k
  ·rw [if_pos e2, if_pos Ab]
  ·rw [if_neg e2, if_neg Ab]
theorem r0r {w : World} {gT : Nat} {a : Nat → Nat} {ls : List (List UInt8)} {T : TypeId} (h : Has w gT (tmF ls.length a (tkT ls ls.length)) T) : Rd w (some ⟨gT, 0, none⟩) ((c0r a ls).length * 196) (tmL (c0r a ls)) := by
 rw [l0W] at h
 have := Rd.whole h
 rwa [o0P] at this
theorem n0k (w : World) : Calls prog 86 #[] w fun e w' => ∃ gc, e = .returned (.pointer (some ⟨gc, 0, none⟩)) ∧ Cv w' gc ∧ Fr Nob w w' :=
 (kB w).mono fun _ _ ⟨gc, k1, _, k2, k3⟩ => ⟨gc, k1, k2, k3⟩
attribute [local irreducible] bI lw mix cw cT dG cS bQ aO beN dO cI dI bM bT elN mdL cL rtN rtV dW gXn gYn PT.L a0A zU nK tbL tmR tmL dbN sK rL uY dig rdT dM fD ptL mA gY cK tmF upN
theorem r0s (n : Nat) (a : Nat → Nat) (ls : List (List UInt8)) (hls : ls.length = n) (hn : n ≤ 100000) (gb gT : Nat) (w : World) (hne : gb ≠ gT) (hgb : Has w gb [.slice (some ⟨gT, 0, none⟩) n n] 199) (hgt : Has w gT (tmF n a fun _ => cw 192 0) 147)
  (ap : Option Addr) (cp : Nat) (hoff : Off (One gT) ap) (hre : Rd w ap (ls.length * 12) (mA ls)) :
  Calls prog 181 #[.slice ap n cp, .pointer (some ⟨gb, 0, none⟩)] w fun e w' => e = .returned (.agg (uY (c0r a ls)).L.toArray) ∧ Fr (One gT) w w' := by
 rw [l0X n a ls] at hgt
 have HLS := qH hls
 have HN := qH hn
 have hnI : (n : Int) ≤ 100000 := by omega
 have HNE := qH (show ¬ One gT gb from hne)
 have HGB := qH hgb
 have HGT := qH hgt
 have HOFF := qH hoff
 have HRE := qH hre
 clear hls hne hgb hgt hoff hre hn
 have st0 := St.one HGT.out
 go_enter func181, ntmps181
 go_wp2_with (with_reducible refine AA 3 ?_)
 refine aA st0 rfl rfl (z := .agg (List.replicate 12 (.int .u64 0)).toArray) Aa (cw 12 0) Af ?_
 intro g3 w1 st1
 clear st0
 go_wp2
 go_loopw [8] (fun x wr => ∃ k : Nat, k ≤ n ∧ x = .int .i64 (k : Int) ∧ St (One gT) w wr [(gT, tmF n a (tkT ls k), 147), (g3, cw 12 0, 117)]) (fun x _ => n - (intOf x).toNat)
 case atStart => exact ⟨0, Nat.zero_le _, rfl, st1⟩
 case round =>
  obtain ⟨k, hk, rfl, st⟩ := hrel
  clear st1
  by_cases hlt : k < n
  ·have hltI : (k : Int) < (n : Int) := by omega
   obtain ⟨ba, oa, hea, -⟩ := HRE.out.at (by have := HLS.out; omega)
   subst hea
   have hk0 : (0 : Int) ≤ (k : Int) := by omega
   have hpa := j0a ls k (by rw [HLS.out]; exact hlt)
   generalize hl : ls.getD k [] = l at *
   have HLL := qH hl
   have HPA := qH hpa
   clear hl hpa
   have HLT := qH hlt
   have HLK := qH (show k < ls.length by rw [HLS.out]; exact hlt)
   clear hlt
   go_wp2_with (with_reducible refine AA 12 ?_)
   refine yT rfl rfl underlying117 rfl rfl (o0u (HRE.out.keep st.fr HOFF.out) (k * 12) ((rdT l).L) HPA.out) Am ?_
   go_wp2_with (with_reducible refine AA 5 ?_)
   refine aA st rfl rfl (z := .agg (List.replicate 12 (.int .u64 0)).toArray) Aa (cw 12 0) Af ?_
   intro g5 w2 st2
   clear st
   go_wp2_with (with_reducible refine AB ?_)
   refine aB st2 2 rfl rfl rfl rfl rfl (by first | (simp only [aT]; done) | (simp only [aT, PT.len]; done)) Am (PT.one _) ?_
   intro w3 st3
   clear st2
   go_wp2_with fail
   refine wp_region_noPanic ?_
   refine aE st3 7 [.t 0, .w 1, .t 3, .c 2, .c 4, .w 5, .w 6] (.m 7 .nil) Aa Aa (fun _ _ _ _ _ h => h) ?_
   clear st3
   refine dA (v := ?_) rfl rfl (fun xq wx hS => ?_) ?_
   rotate_left 1
   ·(have hc := (HGB.out.keep (St.fr hS) HNE.out).cell (show [Value.slice (some ⟨gT, 0, none⟩) n n][0]? = _ from rfl); clear hS; go_simp; with_reducible rfl)
   try simp only [J]
   refine aS rfl rfl apX ?_
   try simp only [J]
   refine aD rfl rfl rfl (fun _ => rfl) ((rdT l).L) (fun wx hS => St.rangeL hS 2 rfl 0 _ dZl) underlying117 rfl Am ?_
   try simp only [J]
   refine iG (X := Nat) (fun gc => .pointer (some ⟨gc, 0, none⟩)) (fun gc w => Cv w gc) (fun _ _ _ h k => h.keep k) rfl rfl rfl call86 (fun w hS hR => n0k _) (fun _ => rfl) fun gc => ?_
   try simp only [J]
   refine aC rfl rfl rfl call99 (fun w hS hR => uX (rdT l) gc _ hR.2) (fun _ => rfl) ?_
   try simp only [J]
   refine aS rfl rfl apX ?_
   try simp only [J]
   refine aS rfl rfl apX ?_
   try simp only [J]
   refine bB fun xq w4 st4 hR => ?_
   try dsimp only
   clear hR xq
   refine aU rfl rfl ?_
   refine uW st4 0 rfl rfl rfl rfl (tmF n a (tkT ls (k + 1))) (p0j n a ls k HLT.out l HLL.out) (by rw [j0k n a _ (j0l ls k), gX]; have := HLT.out; omega) Bw (i0L _ _) ?_
   intro w5 st5
   have st5 : St (One gT) w w5 [(gT, tmF n a (tkT ls (k + 1)), 147), (g3, cw 12 0, 117), (g5, (rdT l).L, 117)] := st5
   clear st4
   try simp only [Act.put]
   refine aH ?_
   refine NoPanic.normal ?_
   go_wp2_with fail
   go_roundw
   case rel => exact ⟨k + 1, by have := HLT.out; omega, by go_num, St.less st5 Ae⟩
   case measure => have := HLT.out; simp [intOf]; omega
  ·have hltI : ¬ ((k : Int) < (n : Int)) := by omega
   have hkn : k = ls.length := by rw [HLS.out]; omega
   have hnl : n = ls.length := HLS.out.symm
   subst hkn
   have HNL := qH hnl
   clear hnl
   have hHT := st.at 0 rfl
   clear hHT
   go_wp2_with fail
   refine wp_region_noPanic ?_
   refine aE st 3 [.t 1, .c 0, .c 2] (.m 3 .nil) Aa Aa (fun _ _ _ _ _ h => h) ?_
   clear st
   refine dA (v := ?_) rfl rfl (fun xq wx hS => ?_) ?_
   rotate_left 1
   ·(have hc := (HGB.out.keep (St.fr hS) HNE.out).cell (show [Value.slice (some ⟨gT, 0, none⟩) n n][0]? = _ from rfl); clear hS; go_simp; with_reducible rfl)
   try simp only [J]
   refine iG (X := Nat) (fun gc => .pointer (some ⟨gc, 0, none⟩)) (fun gc w => Cv w gc) (fun _ _ _ h k => h.keep k) rfl rfl rfl call86 (fun w hS hR => n0k _) (fun _ => rfl) fun gc => ?_
   try simp only [J]
   refine aC rfl rfl rfl call98 (fun w hS hR => r0g (c0r a ls) gc (some ⟨gT, 0, none⟩) n n _ hR.2 (by rw [e0X]; exact HLS.out) HN.out (r0r (by have h := St.at hS 0 rfl; rw [HNL.out] at h; exact h))) (fun _ => rfl) ?_
   try simp only [J]
   refine bB fun xq w2 st2 hR => ?_
   try dsimp only
   clear hR xq
   refine aU rfl rfl ?_
   refine aG st2 1 rfl rfl rfl rfl (by first | (simp only [aT]; done) | (simp only [aT, PT.len]; done)) Am (PT.one _) ?_
   intro w3 st3
   try simp only [List.set_cons_zero, List.set_cons_succ] at st3
   clear st2
   try simp only [Act.put]
   refine aH ?_
   refine NoPanic.normal ?_
   have hr := st3.at 1 rfl
   have hfr := st3.fr
   clear st3
   go_wp2_with fail
   exact bodyPost_ret (aY rfl rfl hr underlying117 rfl Am) rfl ⟨rfl, hfr⟩
end
end Go.Proofs.YtemcankmggmgoaaGreat
namespace Go.Mv
open Go.RowKit
theorem Has.neT {w : World} {g g' : Nat} {L L' : List Value} {T T' : TypeId} (h : Has w g L T) (k : Has w g' L' T') (hT : T ≠ T') : g ≠ g' := by
 rintro rfl
 obtain ⟨_, _, h1, _⟩ := h
 obtain ⟨_, _, h2, _⟩ := k
 rw [h1] at h2
 simp only [Option.some.injEq, Obj.cells.injEq] at h2
 exact hT h2.2.1
end Go.Mv
namespace Go.Proofs.YtemcankmggmgoaaGreat
open Go.RowKit Go.Mv Mvp Mvq
theorem Cv.keepT {w w' : World} {gc gT : Nat} {L : List Value} (h : Cv w gc) (hT : Has w gT L 147) (hf : Fr (One gT) w w') : Cv w' gc := by
 obtain ⟨gp, h1, h2⟩ := h
 exact ⟨gp, h1.keep hf (fun e => h1.neT hT Ac e), h2.keep hf (fun e => h2.neT hT Ac e)⟩
attribute [local irreducible] bI lw mix cw cT dG cS bQ aO beN dO cI dI bM bT elN mdL cL rtN rtV dW gXn gYn PT.L a0A zU nK tbL tmR tmL dbN sK rL uY dig rdT dM fD ptL mA gY cK
theorem d0r (gk : Nat) (al : Option Addr) (n cl : Nat) (vs : List Value) (ls : List (List UInt8)) (w : World) (hv : Rd w al n vs) (hp : BParts w vs ls) (hn : n ≤ 100000) (hg : gY ls = true) (gT : Nat) (LT : List Value) (hgt : Has w gT LT 147) (t : PT) (hop : ∀ ap cp wx, Fr Nob w wx → Off (One gT) ap → Rd wx ap (ls.length * 12) (mA ls) → Calls prog 181 #[.slice ap ls.length cp, .pointer (some ⟨gk, 0, none⟩)] wx fun e w' => e = .returned (.agg t.L.toArray) ∧ Fr (One gT) wx w') :
  Calls prog 84 #[.func (.func 181) #[] #[.pointer (some ⟨gk, 0, none⟩)], .slice al n cl] w fun e w' => ∃ sv, e = .returned (.tuple #[sv, .int .i64 0]) ∧ Own w' w.heap.size 5 1 sv 33 (bs (cK t.pt)) ∧ Fr (One gT) w w' := by
 have HV := qH hv
 have HP := qH hp
 have HL := qH (show ls.length = n by rw [← hp.1, hv.len])
 have HN := qH hn
 have hnI : (n : Int) ≤ 100000 := by omega
 clear hv hp
 have HOP := qH hop
 have HGA := qH hg
 have HGT := qH hgt
 clear hop hg hgt
 go_enter func84, ntmps84
 go_wp2
 go_loopw [6, 13] (fun v i wr => ∃ k : Nat, k ≤ n ∧ i = .int .i64 (k : Int) ∧ gY (ls.take k) = true ∧ Own wr w.heap.size 117 12 v k (mA (ls.take k)) ∧ Fr Nob w wr) (fun _ i _ => n - (intOf i).toNat)
 case atStart => exact ⟨0, Nat.zero_le _, rfl, by rw [List.take_zero]; unfold gY; rfl, by rw [List.take_zero]; unfold mA; exact Own.nil _ _ _ _, Fr.refl _ _⟩
 case round =>
  obtain ⟨k, hk, rfl, hgood, hown, hf⟩ := hrel
  by_cases hlt : k < n
  ·have hltI : (k : Int) < (n : Int) := by omega
   obtain ⟨b, o, rfl, hat⟩ := (HV.out.still hf).at Ab
   have hvl : k < vs.length := by rw [HV.out.len]; exact hlt
   obtain ⟨a, nn, c, hve, hcc, hrd⟩ := HP.out.2 k (vs[k]'hvl) (List.getElem?_eq_getElem hvl)
   have hc1 := hat k _ (List.getElem?_eq_getElem hvl)
   rw [hve] at hc1
   have hlk : k < ls.length := by rw [HL.out]; exact hlt
   have hts := pV ls k hlk
   have hcs : mA (ls.take (k + 1)) = mA (ls.take k) ++ (rdT (ls.getD k [])).L := by
    rw [List.take_succ_eq_append_getElem hlk, pU]
    simp [List.getD_eq_getElem?_getD, hlk]
   have hbad := sM ls k hlk
   generalize hL : ls.getD k [] = l at *
   have HLL := qH hL
   have HRD := qH (hrd.still hf)
   have HTS := qH hts
   have HCS := qH hcs
   have HBAD := qH hbad
   have HG := qH hgood
   have HOWN := qH hown
   have HF := qH hf
   have HCC := qH hcc
   clear hL hrd hts hcs hbad hgood hown hf hat hve hcc
   have st0 := St.start Nob wr
   have HK := qH (show dM l = true by
    cases hh : dM l
    ·have := HBAD.out hh
     rw [HGA.out] at this
     cases this
    ·rfl)
   skip
   go_wp2_with fail
   refine (kB _).mono ?_
   rintro e' w1 ⟨gc, rfl, hle, hcv, hf1⟩
   have st1 := st0.keep hf1
   have HCV := qH hcv
   clear hcv hle
   clear st0 hf1
   go_wp2_with fail
   refine (b0V l HK.out gc a nn c _ HCV.out (HRD.out.still st1.fr) HCC.out).mono ?_
   rintro e' w2 ⟨rfl, hf2⟩
   have st2 := st1.keep hf2
   clear st1 hf2
   go_wp2_with (with_reducible refine AA 9 ?_)
   refine aA st2 rfl rfl (z := .agg (List.replicate 12 (.int .u64 0)).toArray) Aa (cw 12 0) Af ?_
   intro g9 w3 st3
   clear st2
   go_wp2_with (with_reducible refine AB ?_)
   refine aB st3 0 rfl rfl rfl rfl rfl Ar Am (PT.one _) ?_
   intro w4 st4
   clear st3
   have HFS := qH st4.fr
   go_wp2_with (with_reducible refine AA 26 ?_)
   refine aM st4 0 rfl rfl rfl underlying117 rfl rfl Am ?_
   clear st4
   go_wp2_with (with_reducible refine AA 27 ?_)
   refine nD rfl rfl underlying115 mT [.agg (rdT l).L.toArray] rfl Cb rfl ((rdT l).L) Ay ?_
   intro wA hgA hfA hzA
   clear hzA
   have hfrA := HFS.out.then hfA
   have hsz := HF.out.size
   have hsz2 := hfrA.size
   have hownA := HOWN.out.still hfrA
   have hrdA : Rd wA (some ⟨w4.heap.size, 0, none⟩) (1 * 12) ((rdT l).L) := by
    have := Rd.whole hgA
    rwa [PT.len] at this
   have HRDA := qH hrdA
   have HOWNA := qH hownA
   have HFRA := qH hfrA
   clear hgA hfA hrdA hownA hfrA
   generalize w4.heap.size = gA at *
   go_wp2_with (with_reducible refine AA 28 ?_)
   refine gG rfl rfl underlying115 mT rfl Ac HOWNA.out rfl rfl HRDA.out (PT.one _) Al Ab Ab ?_
   intro vB wB hownB hfB hbB
   clear hbB
   have hfrB := HOWNA.out.fr (HF.out.then HFRA.out) (Nat.le_refl _) hfB
   have HFRB := qH hfrB
   rw [← HCS.out] at hownB
   have HOWNB := qH hownB
   clear hfrB hownB hfB
   go_wp2_with fail
   go_roundw
   case rel => exact ⟨k + 1, by omega, by go_num, by rw [HTS.out, HG.out, HK.out]; rfl, HOWNB.out, HFRB.out⟩
   case measure => simp [intOf]; omega
  ·have hge : ¬ ((k : Int) < (n : Int)) := by omega
   have hkn : k = ls.length := by rw [HL.out]; omega
   rw [hkn, List.take_of_length_le (Nat.le_refl _)] at hgood hown
   obtain ⟨ap, cp, rfl, -, hre, hbase⟩ := hown.form
   have HOFF := qH (show Off (One gT) ap from fun x hx he => by have h1 := hbase x hx; have h2 := HGT.out.lt; have h3 : x.block = gT := he; omega)
   clear hbase
   have HRE := qH hre
   have HF := qH hf
   clear hkn hgood hown hf hre
   go_wp2_with fail
   refine (kB _).mono ?_
   rintro e w1 ⟨gc, rfl, hle, hcv, hf1⟩
   have HCV := qH hcv
   have HF1 := qH (HF.out.then hf1)
   have HRE1 := qH (HRE.out.still hf1)
   clear hle hcv hf1 HF HRE
   go_wp2_with fail
   refine (HOP.out ap cp _ HF1.out HOFF.out HRE1.out).mono ?_
   rintro e w2 ⟨rfl, hf2⟩
   have HCV2 := qH (HCV.out.keepT (HGT.out.keep HF1.out id) hf2)
   have HF2 := qH ((HF1.out.mono (fun _ _ t => t.elim)).trans hf2 (fun _ _ t => t))
   clear hf2 HF1 HRE1 HCV
   go_wp2_with fail
   refine (d0m t gc _ HCV2.out).mono ?_
   rintro e w3 ⟨sv, rfl, hown3, hf3⟩
   have h2 := HF2.out.same hf3
   have ho := hown3.mono HF2.out.size
   clear hown3 hf3 HF2 HCV2
   go_wp2_with fail
   go_ret2
   exact ⟨sv, rfl, ho, h2⟩
theorem b0Y (gk : Nat) (al : Option Addr) (n cl : Nat) (vs : List Value) (ls : List (List UInt8)) (w : World) (hv : Rd w al n vs) (hp : BParts w vs ls) (hn : n ≤ 100000) (hg : gY ls = false) :
  Calls prog 84 #[.func (.func 181) #[] #[.pointer (some ⟨gk, 0, none⟩)], .slice al n cl] w fun e w' => e = .returned (.tuple #[.slice none 0 0, .int .i64 4]) ∧ Fr Nob w w' := by
 have HV := qH hv
 have HP := qH hp
 have HL := qH (show ls.length = n by rw [← hp.1, hv.len])
 have HN := qH hn
 have hnI : (n : Int) ≤ 100000 := by omega
 clear hv hp
 have HGA := qH hg
 clear hg
 go_enter func84, ntmps84
 go_wp2
 go_loopw [6, 13] (fun v i wr => ∃ k : Nat, k ≤ n ∧ i = .int .i64 (k : Int) ∧ gY (ls.take k) = true ∧ Own wr w.heap.size 117 12 v k (mA (ls.take k)) ∧ Fr Nob w wr) (fun _ i _ => n - (intOf i).toNat)
 case atStart => exact ⟨0, Nat.zero_le _, rfl, by rw [List.take_zero]; unfold gY; rfl, by rw [List.take_zero]; unfold mA; exact Own.nil _ _ _ _, Fr.refl _ _⟩
 case round =>
  obtain ⟨k, hk, rfl, hgood, hown, hf⟩ := hrel
  by_cases hlt : k < n
  ·have hltI : (k : Int) < (n : Int) := by omega
   obtain ⟨b, o, rfl, hat⟩ := (HV.out.still hf).at Ab
   have hvl : k < vs.length := by rw [HV.out.len]; exact hlt
   obtain ⟨a, nn, c, hve, hcc, hrd⟩ := HP.out.2 k (vs[k]'hvl) (List.getElem?_eq_getElem hvl)
   have hc1 := hat k _ (List.getElem?_eq_getElem hvl)
   rw [hve] at hc1
   have hlk : k < ls.length := by rw [HL.out]; exact hlt
   have hts := pV ls k hlk
   have hcs : mA (ls.take (k + 1)) = mA (ls.take k) ++ (rdT (ls.getD k [])).L := by
    rw [List.take_succ_eq_append_getElem hlk, pU]
    simp [List.getD_eq_getElem?_getD, hlk]
   have hbad := sM ls k hlk
   generalize hL : ls.getD k [] = l at *
   have HLL := qH hL
   have HRD := qH (hrd.still hf)
   have HTS := qH hts
   have HCS := qH hcs
   have HBAD := qH hbad
   have HG := qH hgood
   have HOWN := qH hown
   have HF := qH hf
   have HCC := qH hcc
   clear hL hrd hts hcs hbad hgood hown hf hat hve hcc
   have st0 := St.start Nob wr
   rcases Bool.eq_false_or_eq_true (dM l) with hh | hh
   ·have HK := qH hh
    clear hh
    skip
    go_wp2_with fail
    refine (kB _).mono ?_
    rintro e' w1 ⟨gc, rfl, hle, hcv, hf1⟩
    have st1 := st0.keep hf1
    have HCV := qH hcv
    clear hcv hle
    clear st0 hf1
    go_wp2_with fail
    refine (b0V l HK.out gc a nn c _ HCV.out (HRD.out.still st1.fr) HCC.out).mono ?_
    rintro e' w2 ⟨rfl, hf2⟩
    have st2 := st1.keep hf2
    clear st1 hf2
    go_wp2_with (with_reducible refine AA 9 ?_)
    refine aA st2 rfl rfl (z := .agg (List.replicate 12 (.int .u64 0)).toArray) Aa (cw 12 0) Af ?_
    intro g9 w3 st3
    clear st2
    go_wp2_with (with_reducible refine AB ?_)
    refine aB st3 0 rfl rfl rfl rfl rfl Ar Am (PT.one _) ?_
    intro w4 st4
    clear st3
    have HFS := qH st4.fr
    go_wp2_with (with_reducible refine AA 26 ?_)
    refine aM st4 0 rfl rfl rfl underlying117 rfl rfl Am ?_
    clear st4
    go_wp2_with (with_reducible refine AA 27 ?_)
    refine nD rfl rfl underlying115 mT [.agg (rdT l).L.toArray] rfl Cb rfl ((rdT l).L) Ay ?_
    intro wA hgA hfA hzA
    clear hzA
    have hfrA := HFS.out.then hfA
    have hsz := HF.out.size
    have hsz2 := hfrA.size
    have hownA := HOWN.out.still hfrA
    have hrdA : Rd wA (some ⟨w4.heap.size, 0, none⟩) (1 * 12) ((rdT l).L) := by
     have := Rd.whole hgA
     rwa [PT.len] at this
    have HRDA := qH hrdA
    have HOWNA := qH hownA
    have HFRA := qH hfrA
    clear hgA hfA hrdA hownA hfrA
    generalize w4.heap.size = gA at *
    go_wp2_with (with_reducible refine AA 28 ?_)
    refine gG rfl rfl underlying115 mT rfl Ac HOWNA.out rfl rfl HRDA.out (PT.one _) Al Ab Ab ?_
    intro vB wB hownB hfB hbB
    clear hbB
    have hfrB := HOWNA.out.fr (HF.out.then HFRA.out) (Nat.le_refl _) hfB
    have HFRB := qH hfrB
    rw [← HCS.out] at hownB
    have HOWNB := qH hownB
    clear hfrB hownB hfB
    go_wp2_with fail
    go_roundw
    case rel => exact ⟨k + 1, by omega, by go_num, by rw [HTS.out, HG.out, HK.out]; rfl, HOWNB.out, HFRB.out⟩
    case measure => simp [intOf]; omega
   ·have HK := qH hh
    clear hh
    skip
    go_wp2_with fail
    refine (kB _).mono ?_
    rintro e' w1 ⟨gc, rfl, hle, hcv, hf1⟩
    have st1 := st0.keep hf1
    have HCV := qH hcv
    clear hcv hle
    clear st0 hf1
    go_wp2_with fail
    refine (i0Z l HK.out gc a nn c _ HCV.out (HRD.out.still st1.fr) HCC.out).mono ?_
    rintro e' w2 ⟨⟨X, Y, Z, rfl⟩, hf2⟩
    have st2 := st1.keep hf2
    clear st1 hf2
    go_wp2_with (with_reducible refine AA 9 ?_)
    refine aA st2 rfl rfl (z := .agg (List.replicate 12 (.int .u64 0)).toArray) Aa (cw 12 0) Af ?_
    intro g9 w3 st3
    clear st2
    go_wp2_with (with_reducible refine AB ?_)
    refine aB st3 0 rfl rfl rfl rfl rfl Ar (by first | (rw [aT]; kernel_rfl) | (simp only [lJ]; kernel_rfl)) (d0n _ _ _ _) ?_
    intro w4 st4
    clear st3
    have HFS := qH (HF.out.then st4.fr)
    clear st4
    go_wp2_with fail
    go_ret2
    exact ⟨rfl, HFS.out⟩
  ·exfalso
   have hkn : k = ls.length := by rw [HL.out]; omega
   rw [hkn, List.take_of_length_le (Nat.le_refl _), HGA.out] at hgood
   cases hgood
end Go.Proofs.YtemcankmggmgoaaGreat
