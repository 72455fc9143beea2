/- ; ; ; ; ; ; ; ; ; ; ; ; . -/
import Derived.Test.YtemcankmggmgoaaGreatMgBlindHidesProof5
import Derived.Test.YtemcankmggmgoaaGreatMgBlindHidesProof3
import Derived.Test.YtemcankmggmgoaaGreatMgBlindHidesProof4
import Derived.Test.YtemcankmggmgoaaGreatMgBlindHidesProof2
set_option maxHeartbeats 16000000
set_option maxRecDepth 1000000

namespace Go.Mv
open Go.RowKit
theorem b0G {w : World} {b o n : Nat} {vs : List Value} (h : Rd w (some ⟨b, o, none⟩) n vs) (v : Value) (hv : vs[0]? = some v) : w.cell? ⟨b, o, none⟩ = some v := by
 have hl : 0 < vs.length := by
  rcases Nat.eq_zero_or_pos vs.length with h0 | h0
  ·rw [List.length_eq_zero_iff.1 h0] at hv; cases hv
  ·exact h0
 obtain ⟨b', o', he, hc⟩ := h.at (by have := h.len; omega)
 simp only [Option.some.injEq, Addr.mk.injEq] at he
 obtain ⟨rfl, rfl, -⟩ := he
 simpa using hc 0 v hv
theorem RdB.tail {w : World} {a : Option Addr} {n : Nat} {l : List UInt8} (h : RdB w a n l) (c : Nat) (h1 : 1 ≤ n) (hc : n ≤ c) : RdB w (d0q a 1 c) (n - 1) (l.drop 1) := by
 have h2 := j0m h 1 n c h1 hc (Nat.le_refl _)
 have hl := h.len
 have e : ((bs l).drop 1).take (n - 1) = bs (l.drop 1) := by
  rw [List.take_of_length_le (by rw [List.length_drop, a0F]; omega)]
  simp [bs]
 rw [e] at h2
 exact h2
end Go.Mv
namespace Go.Proofs.YtemcankmggmgoaaGreat
section
open Go.RowKit Go.Mv Mvp Mvq
theorem o0e : Tryz.prog.built 111 [] = some #[.int .u64 0, .int .u64 0, .int .u64 0, .int .u64 0] := by kernel_rfl
theorem g0T : Tryz.prog.built 117 [] = some (cw 4 0 ++ (cw 4 0 ++ cw 4 0)).toArray := by kernel_rfl
theorem e0J : (Tryz.prog.info? 5).map (·.size) = some 1 := by kernel_rfl
theorem r0v : (Tryz.prog.info? 58).map (·.size) = some 1 := by kernel_rfl
theorem r0w (x y : Nat) {o : Oper} {a : Act} {p q : Operand} {T : TypeId} (ho : o.op = .binOp .eql 111 p q T) (hp : a.eval p = i4 x) (hq : a.eval q = i4 y) {b : Bool} (hb : decide (x % B64 ^ 4 = y % B64 ^ 4) = b) (w : World) :
  (execOp a.eval o).run Tryz.prog w = .ok (.value (.bool b)) w := by
 subst hb
 exact d0a ho hp hq w (run_eqGuard_agg w .eql 111 p q _ _ Tryz.eqGuardType111) (e0u w (j0A Tryz.underlying111 Tryz.underlying58 r0v x y w))
theorem i0R (l : List UInt8) (h : l.length = 33) : tlN l < B64 ^ 4 := f0u (l.drop 1) (by rw [List.length_drop]; omega)
theorem g0k (a : Option Addr) (c : Nat) (l : List UInt8) (w : World) (hb : RdB w a 32 (l.drop 1)) : Calls Tryz.prog 144 #[.slice a 32 c] w fun e w' => e = .returned (i4 (tlN l)) ∧ Fr Nob w w' :=
 c0p a 32 c (l.drop 1) w hb (by decide)
def atY (M n : Nat) : Nat := if b0I M (d0b n) then rtV M (d0b n) else 0
theorem B0i (m : Md) (gc gp bx by_ : Nat) (w : World) (hok : m.Ok) (hcv : Has w gc (d0A m gp bx by_) 125) (hpm : Has w gp (mdL m) 187) (x : Nat) :
  Calls Tryz.prog 184 #[.pointer (some ⟨gc, 0, none⟩), i4 (elN m x)] w fun e w' => e = .returned (.tuple #[ptV m x (atY m.M x) 1, .bool (b0I m.M (d0b x))]) ∧ Fr Nob w w' := by
 unfold atY
 cases h : b0I m.M (d0b x)
 ·exact A0q m gc gp bx by_ w hok hcv hpm x _ _ _ rfl rfl rfl h
 ·exact A0p m gc gp bx by_ w hok hcv hpm x _ _ _ rfl rfl rfl h
theorem f0b (a b : Nat) (w : World) (ha : a < B64 ^ 4) (hb : b < B64 ^ 4) (r : Bool) (hr : decide (a < b) = r) :
  Calls Tryz.prog 145 #[i4 a, i4 b] w fun e w' => e = .returned (.bool r) ∧ Fr Nob w w' := by
 subst hr; exact h0v a b w ha hb
theorem v0X (m : Md) (gc gp bx by_ : Nat) (w : World) (hok : m.Ok) (hcv : Has w gc (d0A m gp bx by_) 125) (hpm : Has w gp (mdL m) 187) (x : Nat) (r : Bool) (hr : b0I m.M (d0b x) = r) :
  Calls Tryz.prog 184 #[.pointer (some ⟨gc, 0, none⟩), i4 (elN m x)] w fun e w' => e = .returned (.tuple #[.agg (cw 4 (elN m x) ++ (cw 4 (elN m (atY m.M x)) ++ cw 4 (elN m 1))).toArray, .bool r]) ∧ Fr Nob w w' := by
 subst hr; exact B0i m gc gp bx by_ w hok hcv hpm x
theorem p0r (m : Md) (gc gp bx by_ : Nat) (w : World) (hok : m.Ok) (hcv : Has w gc (d0A m gp bx by_) 125) (hpm : Has w gp (mdL m) 187) (x y z : Nat) :
  Calls Tryz.prog 185 #[.pointer (some ⟨gc, 0, none⟩), .agg (cw 4 (elN m x) ++ (cw 4 (elN m y) ++ cw 4 (elN m z))).toArray] w fun e w' => e = .returned (.agg (cw 4 (elN m x) ++ (cw 4 (elN m (m.M - y % m.M)) ++ cw 4 (elN m z))).toArray) ∧ Fr Nob w w' :=
 k0N m gc gp bx by_ w hok hcv hpm x y z
attribute [local irreducible] a0G lw mix cw b0q b0y b0p a0K a0r beN b0F a0U b0D a0I a0R elN mdL b0m rtN rtV b0I gXn gYn tlN atY d0b
theorem o0f : (Value.agg #[.int .u64 0, .int .u64 0, .int .u64 0, .int .u64 0]) = i4 0 := by rw [i4, a0g]; rfl
theorem r0x (x : Nat) (hx : x < B64 ^ 4) (b : Bool) (hb : (x == 0) = b) (w : World) :
  Calls Tryz.prog 183 #[i4 x] w fun e w' => e = .returned (.bool b) ∧ Fr Nob w w' := by
 subst hb
 have HB := qH (show decide (x % B64 ^ 4 = 0 % B64 ^ 4) = (x == 0) by rw [Nat.mod_eq_of_lt hx, Nat.zero_mod]; rfl)
 clear hx
 have st0 := St.start Nob w
 go_enter Tryz.func183, Tryz.ntmps183
 go_wp2_with (with_reducible refine wSk 1 ?_)
 refine a0m st0 rfl rfl rfl (cw 4 x) rfl ?_
 intro g1 w1 st1
 clear st0
 go_wp2_with (with_reducible refine wSk 3 ?_)
 refine a0k st1 0 rfl rfl rfl Tryz.underlying111 rfl (by first | (rw [a0a]; kernel_rfl) | (simp only [List.length_append, a0a]; kernel_rfl)) ?_
 go_wp2_with (with_reducible refine wSk 4 ?_)
 refine c0H rfl rfl _ o0e ?_
 rw [o0f]
 go_wp2_with (with_reducible refine wSk 5 ?_)
 refine e0v rfl (r0w x 0 rfl rfl rfl HB.out _) ?_
 have hfr := st1.fr
 clear st1
 go_wp2_with fail
 go_ret
 exact ⟨rfl, hfr⟩
theorem u0g (m : Md) (gc gp bx by_ : Nat) (w : World) (hok : m.Ok) (hcv : Has w gc (d0A m gp bx by_) 125) (hpm : Has w gp (mdL m) 187) (a : Option Addr) (n c : Nat) (l : List UInt8) (hb : RdB w a n l) (_hc : n ≤ c) (h33 : l.length ≠ 33) :
  Calls Tryz.prog 140 #[.pointer (some ⟨gc, 0, none⟩), .slice a n c] w fun e w' => e = .returned (.tuple #[ptV m 0 0 0, .bool false]) ∧ Fr Nob w w' := by
 have HOK := qH hok
 have HCV := qH hcv
 have HPM := qH hpm
 clear hok hcv hpm
 have HN := qH (show n ≠ 33 by have := hb.len; omega)
 clear hb _hc h33
 have st0 := St.start Nob w
 go_enter Tryz.func140, Tryz.ntmps140
 go_wp2_with (with_reducible refine wSk 4 ?_)
 refine a0c st0 rfl rfl (z := .agg (List.replicate 12 (.int .u64 0)).toArray) (by kernel_rfl) (cw 4 0 ++ (cw 4 0 ++ cw 4 0)) (by rw [a0g]; rfl) ?_
 intro g4 w1 st1
 clear st0
 have hne : ((n : Int) != 33) = true := by have := HN.out; simp; omega
 go_wp2_with (with_reducible refine wSk 12 ?_)
 refine c0H rfl rfl _ g0T ?_
 go_wp2_with (with_reducible refine wSn ?_)
 refine a0d st1 0 rfl rfl rfl rfl rfl (by first | (simp only; done) | (simp only [List.length_append, a0a]; done)) (by first | (rw [a0a]; kernel_rfl) | (simp only [List.length_append, a0a]; kernel_rfl)) (a0X _ _ _) ?_
 intro w2 st2
 clear st1
 have hr := st2.at 0 rfl
 have hfr := st2.fr
 clear st2
 go_wp2_with fail
 exact bodyPost_ret (a0S rfl rfl hr Tryz.underlying117 rfl (by first | (rw [a0a]; kernel_rfl) | (simp only [List.length_append, a0a]; kernel_rfl)) rfl) rfl ⟨by unfold ptV ptL; rw [e0r]; rfl, hfr⟩
theorem l0h (m : Md) (gc gp bx by_ : Nat) (w : World) (hok : m.Ok) (hcv : Has w gc (d0A m gp bx by_) 125) (hpm : Has w gp (mdL m) 187) (a : Option Addr) (n c : Nat) (l : List UInt8) (hb : RdB w a n l) (hc : n ≤ c) (h33 : l.length = 33) (h0 : (bs l)[0]? = some (.int .u8 0)) (b : Bool) (hzb : (tlN l == 0) = b) :
  Calls Tryz.prog 140 #[.pointer (some ⟨gc, 0, none⟩), .slice a n c] w fun e w' => e = .returned (.tuple #[ptV m 1 1 0, .bool b]) ∧ Fr Nob w w' := by
 have HOK := qH hok
 have HCV := qH hcv
 have HPM := qH hpm
 clear hok hcv hpm
 have h33n : n = 33 := by have := hb.len; omega
 subst h33n
 obtain ⟨ba, oa, rfl, -⟩ := Rd.at hb (by decide)
 have HB := qH hb
 have HC := qH hc
 have HT := qH (RdB.tail hb c (by decide) hc)
 have H0 := qH h0
 have HTN := qH (i0R l h33)
 clear hb hc h33 h0
 have HZB := qH hzb
 clear hzb
 have st0 := St.start Nob w
 go_enter Tryz.func140, Tryz.ntmps140
 go_wp2_with (with_reducible refine wSk 4 ?_)
 refine a0c st0 rfl rfl (z := .agg (List.replicate 12 (.int .u64 0)).toArray) (by kernel_rfl) (cw 4 0 ++ (cw 4 0 ++ cw 4 0)) (by rw [a0g]; rfl) ?_
 intro g4 w1 st1
 clear st0
 have hne : (((33 : Nat) : Int) != 33) = false := by rfl
 go_wp2_with (with_reducible refine wSk 14 ?_)
 refine h0i rfl rfl Tryz.underlying22 e0J rfl 1 33 ⟨_, rfl⟩ rfl (by decide) HC.out ?_
 rw [show (33 : Nat) - 1 = 32 from rfl]
 go_wp2_with fail
 refine (g0k _ _ l _ (HT.out.still st1.fr)).mono ?_
 rintro e' w2 ⟨rfl, hf2⟩
 have st2 := st1.keep hf2
 clear st1 hf2
 go_wp2_with (with_reducible refine wSk 6 ?_)
 refine a0c st2 rfl rfl (z := zAd) (by kernel_rfl) (cw 4 0) (by rw [a0g]; rfl) ?_
 intro g6 w3 st3
 clear st2
 go_wp2_with (with_reducible refine wSn ?_)
 refine a0d st3 1 rfl rfl rfl rfl rfl (by first | (simp only [a0a]; done) | (simp only [List.length_append, a0a]; done)) (by first | (rw [a0a]; kernel_rfl) | (simp only [List.length_append, a0a]; kernel_rfl)) (a0j _ _) ?_
 intro w4 st4
 clear st3
 have hcell := b0G (HB.out.still st4.fr) _ H0.out
 go_wp2_with fail
 clear hcell
 go_wp2_with fail
 refine wp_region_noPanic ?_
 refine a0p (fun wx => St Nob w wx [(g4, cw 4 0 ++ (cw 4 0 ++ cw 4 0), 117), (g6, cw 4 (tlN l), 111)]) 4 (.w 0 (.t 2 (.r 1 (.r 3 (.m 4 (.w 5 .nil)))))) (by kernel_rfl) (by kernel_rfl) st4.drew (fun _ _ _ _ _ h => h) ?_
 have hd4 := st4.drew
 clear st4
 refine a0l (v := ?_) rfl rfl (fun wx => ?_) ?_
 rotate_left 1
 ·(go_simp; with_reducible rfl)
 try simp only [clL]
 refine a0s rfl rfl rfl rfl (cw 4 (tlN l)) (fun wx hS => St.rangeL hS 1 rfl 0 _ dZl) Tryz.underlying111 rfl (by first | (rw [a0a]; kernel_rfl) | (simp only [List.length_append, a0a]; kernel_rfl)) ?_
 try simp only [clL]
 refine a0A rfl rfl ?_
 go_simp
 refine (l0c m gc gp bx by_ _ HOK.out (HCV.out.keep hd4.fr id) (HPM.out.keep hd4.fr id)).mono ?_
 rintro e' w5 ⟨rfl, hf5⟩
 have st5 := hd4.keep hf5
 clear hf5
 clear hd4
 refine ⟨st5, ?_⟩
 try simp only [clL]
 refine a0A rfl rfl ?_
 go_simp
 refine (r0x (tlN l) HTN.out b HZB.out _).mono ?_
 rintro e' w6 ⟨rfl, hf6⟩
 have st6 := st5.keep hf6
 clear hf6
 clear st5
 refine ⟨st6, ?_⟩
 try simp only [clL]
 refine a0o rfl rfl ?_
 refine a0h st6 0 rfl rfl rfl rfl (by first | (simp only [a0a]; done) | (simp only [List.length_append, a0a]; done)) (by first | (rw [a0a]; kernel_rfl) | (simp only [List.length_append, a0a]; kernel_rfl)) (a0X _ _ _) ?_
 intro w7 st7
 clear st6
 try simp only [Act.put]
 refine a0l (v := ?_) rfl rfl (fun wx => ?_) ?_
 rotate_left 1
 ·(go_simp; with_reducible rfl)
 try simp only [clL]
 refine a0i ?_
 refine NoPanic.normal ?_
 have hr := st7.at 0 rfl
 have hfr := st7.fr
 clear st7
 go_wp2_with fail
 exact bodyPost_ret (a0S rfl rfl hr Tryz.underlying117 rfl (by first | (rw [a0a]; kernel_rfl) | (simp only [List.length_append, a0a]; kernel_rfl)) rfl) rfl ⟨by unfold ptV ptL; rfl, hfr⟩
theorem u0h (m : Md) (gc gp bx by_ : Nat) (w : World) (hok : m.Ok) (hcv : Has w gc (d0A m gp bx by_) 125) (hpm : Has w gp (mdL m) 187) (a : Option Addr) (n c : Nat) (l : List UInt8) (hb : RdB w a n l) (hc : n ≤ c) (h33 : l.length = 33) (q : Nat) (h0 : (bs l)[0]? = some (.int .u8 (q : Int))) (hq0 : ((q : Int) == 0) = false) (hq2 : ((q : Int) != 2) = true) (hq3 : ((q : Int) != 3) = true) :
  Calls Tryz.prog 140 #[.pointer (some ⟨gc, 0, none⟩), .slice a n c] w fun e w' => e = .returned (.tuple #[ptV m 0 0 0, .bool false]) ∧ Fr Nob w w' := by
 have HOK := qH hok
 have HCV := qH hcv
 have HPM := qH hpm
 clear hok hcv hpm
 have h33n : n = 33 := by have := hb.len; omega
 subst h33n
 obtain ⟨ba, oa, rfl, -⟩ := Rd.at hb (by decide)
 have HB := qH hb
 have HC := qH hc
 have HT := qH (RdB.tail hb c (by decide) hc)
 have H0 := qH h0
 have HTN := qH (i0R l h33)
 clear hb hc h33 h0
 have HQ0 := qH hq0
 have HQ2 := qH hq2
 have HQ3 := qH hq3
 clear hq0 hq2 hq3
 have st0 := St.start Nob w
 go_enter Tryz.func140, Tryz.ntmps140
 go_wp2_with (with_reducible refine wSk 4 ?_)
 refine a0c st0 rfl rfl (z := .agg (List.replicate 12 (.int .u64 0)).toArray) (by kernel_rfl) (cw 4 0 ++ (cw 4 0 ++ cw 4 0)) (by rw [a0g]; rfl) ?_
 intro g4 w1 st1
 clear st0
 have hne : (((33 : Nat) : Int) != 33) = false := by rfl
 go_wp2_with (with_reducible refine wSk 14 ?_)
 refine h0i rfl rfl Tryz.underlying22 e0J rfl 1 33 ⟨_, rfl⟩ rfl (by decide) HC.out ?_
 rw [show (33 : Nat) - 1 = 32 from rfl]
 go_wp2_with fail
 refine (g0k _ _ l _ (HT.out.still st1.fr)).mono ?_
 rintro e' w2 ⟨rfl, hf2⟩
 have st2 := st1.keep hf2
 clear st1 hf2
 go_wp2_with (with_reducible refine wSk 6 ?_)
 refine a0c st2 rfl rfl (z := zAd) (by kernel_rfl) (cw 4 0) (by rw [a0g]; rfl) ?_
 intro g6 w3 st3
 clear st2
 go_wp2_with (with_reducible refine wSn ?_)
 refine a0d st3 1 rfl rfl rfl rfl rfl (by first | (simp only [a0a]; done) | (simp only [List.length_append, a0a]; done)) (by first | (rw [a0a]; kernel_rfl) | (simp only [List.length_append, a0a]; kernel_rfl)) (a0j _ _) ?_
 intro w4 st4
 clear st3
 have hq0 := HQ0.out
 have hq2 := HQ2.out
 have hq3 := HQ3.out
 have hcell := b0G (HB.out.still st4.fr) _ H0.out
 go_wp2_with fail
 clear hcell
 go_wp2_with fail
 refine wp_region_noPanic ?_
 refine b0V (fun wx => St Nob w wx [(g4, cw 4 0 ++ (cw 4 0 ++ cw 4 0), 117), (g6, cw 4 (tlN l), 111)]) 22 (.w 0 (.w 1 (.t 2 (.w 3 (.w 4 (.w 5 (.w 6 (.t 7 (.w 8 (.w 9 (.w 10 (.t 11 (.w 12 (.w 13 (.w 14 (.t 15 (.w 16 (.w 17 (.t 18 (.r 19 (.w 20 (.w 21 (.m 22 .nil))))))))))))))))))))))) (by kernel_rfl) (by kernel_rfl) st4.drew (fun _ _ _ _ _ h => h) ?_
 have hd4 := st4.drew
 clear st4
 refine a0u (v := ?_) rfl rfl (fun wx => ?_) ?_
 rotate_left 1
 ·(go_simp; with_reducible rfl)
 try simp only [clL]
 refine a0u (v := ?_) rfl rfl (fun wx => ?_) ?_
 rotate_left 1
 ·(go_simp; with_reducible rfl)
 try simp only [clL]
 refine c0P (v := ?_) rfl rfl (fun wx hS => ?_) ?_
 rotate_left 1
 ·(have hc := (b0G (HB.out.still (St.fr hS)) _ H0.out); clear hS; go_simp; with_reducible rfl)
 try simp only [clL]
 refine a0u (v := ?_) rfl rfl (fun wx => ?_) ?_
 rotate_left 1
 ·(go_simp; with_reducible rfl)
 try simp only [clL]
 refine a0u (v := ?_) rfl rfl (fun wx => ?_) ?_
 rotate_left 1
 ·(go_simp; with_reducible rfl)
 try simp only [clL]
 refine a0u (v := ?_) rfl rfl (fun wx => ?_) ?_
 rotate_left 1
 ·(go_simp; with_reducible rfl)
 try simp only [clL]
 refine a0u (v := ?_) rfl rfl (fun wx => ?_) ?_
 rotate_left 1
 ·(go_simp; with_reducible rfl)
 try simp only [clL]
 refine c0P (v := ?_) rfl rfl (fun wx hS => ?_) ?_
 rotate_left 1
 ·(have hc := (b0G (HB.out.still (St.fr hS)) _ H0.out); clear hS; go_simp; with_reducible rfl)
 try simp only [clL]
 refine a0u (v := ?_) rfl rfl (fun wx => ?_) ?_
 rotate_left 1
 ·(go_simp; with_reducible rfl)
 try simp only [clL]
 refine a0u (v := ?_) rfl rfl (fun wx => ?_) ?_
 rotate_left 1
 ·(go_simp; with_reducible rfl)
 try simp only [clL]
 refine a0u (v := ?_) rfl rfl (fun wx => ?_) ?_
 rotate_left 1
 ·(go_simp; with_reducible rfl)
 try simp only [clL]
 refine d0m rfl rfl ?_
 try simp only [clL]
 refine b0v rfl rfl ?_
 try simp only [clL]
 refine b0v rfl rfl ?_
 try simp only [clL]
 refine b0v rfl rfl ?_
 try simp only [clL]
 refine d0m rfl rfl ?_
 try simp only [clL]
 refine b0v rfl rfl ?_
 try simp only [clL]
 refine b0v rfl rfl ?_
 try simp only [clL]
 refine d0m rfl rfl ?_
 try simp only [clL]
 refine m0F rfl rfl ⟨hd4, ?_⟩
 try simp only [clL]
 refine b0v rfl rfl ?_
 try simp only [clL]
 refine a0u (v := ?_) rfl rfl (fun wx => ?_) ?_
 rotate_left 1
 ·(go_simp; with_reducible rfl)
 try simp only [clL]
 refine h0L rfl rfl ?_
 go_simp
 try simp only [clL]
 refine e0x ?_
 have st5 := hd4
 clear hd4
 refine NoPanic.normal ?_
 go_wp2_with (with_reducible refine wSk 48 ?_)
 refine c0H rfl rfl _ g0T ?_
 go_wp2_with (with_reducible refine wSn ?_)
 refine a0d st5 0 rfl rfl rfl rfl rfl (by first | (simp only; done) | (simp only [List.length_append, a0a]; done)) (by first | (rw [a0a]; kernel_rfl) | (simp only [List.length_append, a0a]; kernel_rfl)) (a0X _ _ _) ?_
 intro w6 st6
 clear st5
 have hr := st6.at 0 rfl
 have hfr := st6.fr
 clear st6
 go_wp2_with fail
 exact bodyPost_ret (a0S rfl rfl hr Tryz.underlying117 rfl (by first | (rw [a0a]; kernel_rfl) | (simp only [List.length_append, a0a]; kernel_rfl)) rfl) rfl ⟨by unfold ptV ptL; rw [e0r]; rfl, hfr⟩
theorem u0i (m : Md) (gc gp bx by_ : Nat) (w : World) (hok : m.Ok) (hcv : Has w gc (d0A m gp bx by_) 125) (hpm : Has w gp (mdL m) 187) (a : Option Addr) (n c : Nat) (l : List UInt8) (hb : RdB w a n l) (hc : n ≤ c) (h33 : l.length = 33) (h0 : (bs l)[0]? = some (.int .u8 2)) (hlt : decide (tlN l < m.M) = false) :
  Calls Tryz.prog 140 #[.pointer (some ⟨gc, 0, none⟩), .slice a n c] w fun e w' => e = .returned (.tuple #[ptV m 0 0 0, .bool false]) ∧ Fr Nob w w' := by
 have HOK := qH hok
 have HCV := qH hcv
 have HPM := qH hpm
 clear hok hcv hpm
 have h33n : n = 33 := by have := hb.len; omega
 subst h33n
 obtain ⟨ba, oa, rfl, -⟩ := Rd.at hb (by decide)
 have HB := qH hb
 have HC := qH hc
 have HT := qH (RdB.tail hb c (by decide) hc)
 have H0 := qH h0
 have HTN := qH (i0R l h33)
 clear hb hc h33 h0
 have HDL := qH hlt
 clear hlt
 have st0 := St.start Nob w
 go_enter Tryz.func140, Tryz.ntmps140
 go_wp2_with (with_reducible refine wSk 4 ?_)
 refine a0c st0 rfl rfl (z := .agg (List.replicate 12 (.int .u64 0)).toArray) (by kernel_rfl) (cw 4 0 ++ (cw 4 0 ++ cw 4 0)) (by rw [a0g]; rfl) ?_
 intro g4 w1 st1
 clear st0
 have hne : (((33 : Nat) : Int) != 33) = false := by rfl
 go_wp2_with (with_reducible refine wSk 14 ?_)
 refine h0i rfl rfl Tryz.underlying22 e0J rfl 1 33 ⟨_, rfl⟩ rfl (by decide) HC.out ?_
 rw [show (33 : Nat) - 1 = 32 from rfl]
 go_wp2_with fail
 refine (g0k _ _ l _ (HT.out.still st1.fr)).mono ?_
 rintro e' w2 ⟨rfl, hf2⟩
 have st2 := st1.keep hf2
 clear st1 hf2
 go_wp2_with (with_reducible refine wSk 6 ?_)
 refine a0c st2 rfl rfl (z := zAd) (by kernel_rfl) (cw 4 0) (by rw [a0g]; rfl) ?_
 intro g6 w3 st3
 clear st2
 go_wp2_with (with_reducible refine wSn ?_)
 refine a0d st3 1 rfl rfl rfl rfl rfl (by first | (simp only [a0a]; done) | (simp only [List.length_append, a0a]; done)) (by first | (rw [a0a]; kernel_rfl) | (simp only [List.length_append, a0a]; kernel_rfl)) (a0j _ _) ?_
 intro w4 st4
 clear st3
 have hcell := b0G (HB.out.still st4.fr) _ H0.out
 go_wp2_with fail
 clear hcell
 go_wp2_with fail
 refine wp_region_noPanic ?_
 refine b0V (fun wx => St Nob w wx [(g4, cw 4 0 ++ (cw 4 0 ++ cw 4 0), 117), (g6, cw 4 (tlN l), 111)]) 22 (.w 0 (.w 1 (.t 2 (.w 3 (.w 4 (.w 5 (.w 6 (.t 7 (.w 8 (.w 9 (.w 10 (.t 11 (.w 12 (.w 13 (.w 14 (.t 15 (.w 16 (.w 17 (.t 18 (.r 19 (.w 20 (.w 21 (.m 22 .nil))))))))))))))))))))))) (by kernel_rfl) (by kernel_rfl) st4.drew (fun _ _ _ _ _ h => h) ?_
 have hd4 := st4.drew
 clear st4
 refine a0u (v := ?_) rfl rfl (fun wx => ?_) ?_
 rotate_left 1
 ·(go_simp; with_reducible rfl)
 try simp only [clL]
 refine a0u (v := ?_) rfl rfl (fun wx => ?_) ?_
 rotate_left 1
 ·(go_simp; with_reducible rfl)
 try simp only [clL]
 refine c0P (v := ?_) rfl rfl (fun wx hS => ?_) ?_
 rotate_left 1
 ·(have hc := (b0G (HB.out.still (St.fr hS)) _ H0.out); clear hS; go_simp; with_reducible rfl)
 try simp only [clL]
 refine a0u (v := ?_) rfl rfl (fun wx => ?_) ?_
 rotate_left 1
 ·(go_simp; with_reducible rfl)
 try simp only [clL]
 refine a0u (v := ?_) rfl rfl (fun wx => ?_) ?_
 rotate_left 1
 ·(go_simp; with_reducible rfl)
 try simp only [clL]
 refine b0v rfl rfl ?_
 try simp only [clL]
 refine b0v rfl rfl ?_
 try simp only [clL]
 refine d0m rfl rfl ?_
 try simp only [clL]
 refine b0v rfl rfl ?_
 try simp only [clL]
 refine a0u (v := ?_) rfl rfl (fun wx => ?_) ?_
 rotate_left 1
 ·(go_simp; with_reducible rfl)
 try simp only [clL]
 refine a0u (v := ?_) rfl rfl (fun wx => ?_) ?_
 rotate_left 1
 ·(go_simp; with_reducible rfl)
 try simp only [clL]
 refine c0L rfl rfl rfl rfl (cw 4 (tlN l)) (fun wx hS => St.rangeL hS 1 rfl 0 _ dZl) Tryz.underlying111 rfl (by first | (rw [a0a]; kernel_rfl) | (simp only [List.length_append, a0a]; kernel_rfl)) ?_
 try simp only [clL]
 refine a0u (v := ?_) rfl rfl (fun wx => ?_) ?_
 rotate_left 1
 ·(go_simp; with_reducible rfl)
 try simp only [clL]
 refine a0u (v := ?_) rfl rfl (fun wx => ?_) ?_
 rotate_left 1
 ·(go_simp; with_reducible rfl)
 try simp only [clL]
 refine a0u (v := ?_) rfl rfl (fun wx => ?_) ?_
 rotate_left 1
 ·(go_simp; with_reducible rfl)
 try simp only [clL]
 refine c0P (v := ?_) rfl rfl (fun wx hS => ?_) ?_
 rotate_left 1
 ·(have hc := (HCV.out.keep (St.fr hS) id).cell (i := 0) rfl; clear hS; go_simp; with_reducible rfl)
 try simp only [clL]
 refine a0u (v := ?_) rfl rfl (fun wx => ?_) ?_
 rotate_left 1
 ·(go_simp; with_reducible rfl)
 try simp only [clL]
 refine a0u (v := ?_) rfl rfl (fun wx => ?_) ?_
 rotate_left 1
 ·(go_simp; with_reducible rfl)
 try simp only [clL]
 refine c0L rfl rfl rfl rfl (cw 4 m.M) (fun wx hS => (HPM.out.keep (St.fr hS) id).range 0 _ (k0J m)) Tryz.underlying111 rfl (by first | (rw [a0a]; kernel_rfl) | (simp only [List.length_append, a0a]; kernel_rfl)) ?_
 try simp only [clL]
 refine j0M rfl rfl ?_
 go_simp
 refine (f0b (tlN l) m.M _ HTN.out HOK.out.lt false HDL.out).mono ?_
 rintro e' w5 ⟨rfl, hf5⟩
 have st5 := hd4.keep hf5
 clear hf5
 clear hd4
 refine ⟨st5, ?_⟩
 try simp only [clL]
 refine a0u (v := ?_) rfl rfl (fun wx => ?_) ?_
 rotate_left 1
 ·(go_simp; with_reducible rfl)
 try simp only [clL]
 refine a0u (v := ?_) rfl rfl (fun wx => ?_) ?_
 rotate_left 1
 ·(go_simp; with_reducible rfl)
 try simp only [clL]
 refine h0L rfl rfl ?_
 go_simp
 try simp only [clL]
 refine e0x ?_
 refine NoPanic.normal ?_
 go_wp2_with (with_reducible refine wSk 48 ?_)
 refine c0H rfl rfl _ g0T ?_
 go_wp2_with (with_reducible refine wSn ?_)
 refine a0d st5 0 rfl rfl rfl rfl rfl (by first | (simp only; done) | (simp only [List.length_append, a0a]; done)) (by first | (rw [a0a]; kernel_rfl) | (simp only [List.length_append, a0a]; kernel_rfl)) (a0X _ _ _) ?_
 intro w6 st6
 clear st5
 have hr := st6.at 0 rfl
 have hfr := st6.fr
 clear st6
 go_wp2_with fail
 exact bodyPost_ret (a0S rfl rfl hr Tryz.underlying117 rfl (by first | (rw [a0a]; kernel_rfl) | (simp only [List.length_append, a0a]; kernel_rfl)) rfl) rfl ⟨by unfold ptV ptL; rw [e0r]; rfl, hfr⟩
theorem o0g (m : Md) (gc gp bx by_ : Nat) (w : World) (hok : m.Ok) (hcv : Has w gc (d0A m gp bx by_) 125) (hpm : Has w gp (mdL m) 187) (a : Option Addr) (n c : Nat) (l : List UInt8) (hb : RdB w a n l) (hc : n ≤ c) (h33 : l.length = 33) (h0 : (bs l)[0]? = some (.int .u8 2)) (hlt : decide (tlN l < m.M) = true) (r : Bool) (hr : b0I m.M (d0b (tlN l)) = r) :
  Calls Tryz.prog 140 #[.pointer (some ⟨gc, 0, none⟩), .slice a n c] w fun e w' => e = .returned (.tuple #[ptV m (tlN l) (atY m.M (tlN l)) 1, .bool r]) ∧ Fr Nob w w' := by
 have HOK := qH hok
 have HCV := qH hcv
 have HPM := qH hpm
 clear hok hcv hpm
 have h33n : n = 33 := by have := hb.len; omega
 subst h33n
 obtain ⟨ba, oa, rfl, -⟩ := Rd.at hb (by decide)
 have HB := qH hb
 have HC := qH hc
 have HT := qH (RdB.tail hb c (by decide) hc)
 have H0 := qH h0
 have HTN := qH (i0R l h33)
 clear hb hc h33 h0
 have HDL := qH hlt
 clear hlt
 have HR := qH hr
 clear hr
 have st0 := St.start Nob w
 go_enter Tryz.func140, Tryz.ntmps140
 go_wp2_with (with_reducible refine wSk 4 ?_)
 refine a0c st0 rfl rfl (z := .agg (List.replicate 12 (.int .u64 0)).toArray) (by kernel_rfl) (cw 4 0 ++ (cw 4 0 ++ cw 4 0)) (by rw [a0g]; rfl) ?_
 intro g4 w1 st1
 clear st0
 have hne : (((33 : Nat) : Int) != 33) = false := by rfl
 go_wp2_with (with_reducible refine wSk 14 ?_)
 refine h0i rfl rfl Tryz.underlying22 e0J rfl 1 33 ⟨_, rfl⟩ rfl (by decide) HC.out ?_
 rw [show (33 : Nat) - 1 = 32 from rfl]
 go_wp2_with fail
 refine (g0k _ _ l _ (HT.out.still st1.fr)).mono ?_
 rintro e' w2 ⟨rfl, hf2⟩
 have st2 := st1.keep hf2
 clear st1 hf2
 go_wp2_with (with_reducible refine wSk 6 ?_)
 refine a0c st2 rfl rfl (z := zAd) (by kernel_rfl) (cw 4 0) (by rw [a0g]; rfl) ?_
 intro g6 w3 st3
 clear st2
 go_wp2_with (with_reducible refine wSn ?_)
 refine a0d st3 1 rfl rfl rfl rfl rfl (by first | (simp only [a0a]; done) | (simp only [List.length_append, a0a]; done)) (by first | (rw [a0a]; kernel_rfl) | (simp only [List.length_append, a0a]; kernel_rfl)) (a0j _ _) ?_
 intro w4 st4
 clear st3
 have hcell := b0G (HB.out.still st4.fr) _ H0.out
 go_wp2_with fail
 clear hcell
 go_wp2_with fail
 refine wp_region_noPanic ?_
 refine b0V (fun wx => St Nob w wx [(g4, cw 4 0 ++ (cw 4 0 ++ cw 4 0), 117), (g6, cw 4 (tlN l), 111)]) 22 (.w 0 (.w 1 (.t 2 (.w 3 (.w 4 (.w 5 (.w 6 (.t 7 (.w 8 (.w 9 (.w 10 (.t 11 (.w 12 (.w 13 (.w 14 (.t 15 (.w 16 (.w 17 (.t 18 (.r 19 (.w 20 (.w 21 (.m 22 .nil))))))))))))))))))))))) (by kernel_rfl) (by kernel_rfl) st4.drew (fun _ _ _ _ _ h => h) ?_
 have hd4 := st4.drew
 clear st4
 refine a0u (v := ?_) rfl rfl (fun wx => ?_) ?_
 rotate_left 1
 ·(go_simp; with_reducible rfl)
 try simp only [clL]
 refine a0u (v := ?_) rfl rfl (fun wx => ?_) ?_
 rotate_left 1
 ·(go_simp; with_reducible rfl)
 try simp only [clL]
 refine c0P (v := ?_) rfl rfl (fun wx hS => ?_) ?_
 rotate_left 1
 ·(have hc := (b0G (HB.out.still (St.fr hS)) _ H0.out); clear hS; go_simp; with_reducible rfl)
 try simp only [clL]
 refine a0u (v := ?_) rfl rfl (fun wx => ?_) ?_
 rotate_left 1
 ·(go_simp; with_reducible rfl)
 try simp only [clL]
 refine a0u (v := ?_) rfl rfl (fun wx => ?_) ?_
 rotate_left 1
 ·(go_simp; with_reducible rfl)
 try simp only [clL]
 refine b0v rfl rfl ?_
 try simp only [clL]
 refine b0v rfl rfl ?_
 try simp only [clL]
 refine d0m rfl rfl ?_
 try simp only [clL]
 refine b0v rfl rfl ?_
 try simp only [clL]
 refine a0u (v := ?_) rfl rfl (fun wx => ?_) ?_
 rotate_left 1
 ·(go_simp; with_reducible rfl)
 try simp only [clL]
 refine a0u (v := ?_) rfl rfl (fun wx => ?_) ?_
 rotate_left 1
 ·(go_simp; with_reducible rfl)
 try simp only [clL]
 refine c0L rfl rfl rfl rfl (cw 4 (tlN l)) (fun wx hS => St.rangeL hS 1 rfl 0 _ dZl) Tryz.underlying111 rfl (by first | (rw [a0a]; kernel_rfl) | (simp only [List.length_append, a0a]; kernel_rfl)) ?_
 try simp only [clL]
 refine a0u (v := ?_) rfl rfl (fun wx => ?_) ?_
 rotate_left 1
 ·(go_simp; with_reducible rfl)
 try simp only [clL]
 refine a0u (v := ?_) rfl rfl (fun wx => ?_) ?_
 rotate_left 1
 ·(go_simp; with_reducible rfl)
 try simp only [clL]
 refine a0u (v := ?_) rfl rfl (fun wx => ?_) ?_
 rotate_left 1
 ·(go_simp; with_reducible rfl)
 try simp only [clL]
 refine c0P (v := ?_) rfl rfl (fun wx hS => ?_) ?_
 rotate_left 1
 ·(have hc := (HCV.out.keep (St.fr hS) id).cell (i := 0) rfl; clear hS; go_simp; with_reducible rfl)
 try simp only [clL]
 refine a0u (v := ?_) rfl rfl (fun wx => ?_) ?_
 rotate_left 1
 ·(go_simp; with_reducible rfl)
 try simp only [clL]
 refine a0u (v := ?_) rfl rfl (fun wx => ?_) ?_
 rotate_left 1
 ·(go_simp; with_reducible rfl)
 try simp only [clL]
 refine c0L rfl rfl rfl rfl (cw 4 m.M) (fun wx hS => (HPM.out.keep (St.fr hS) id).range 0 _ (k0J m)) Tryz.underlying111 rfl (by first | (rw [a0a]; kernel_rfl) | (simp only [List.length_append, a0a]; kernel_rfl)) ?_
 try simp only [clL]
 refine j0M rfl rfl ?_
 go_simp
 refine (f0b (tlN l) m.M _ HTN.out HOK.out.lt true HDL.out).mono ?_
 rintro e' w5 ⟨rfl, hf5⟩
 have st5 := hd4.keep hf5
 clear hf5
 clear hd4
 refine ⟨st5, ?_⟩
 try simp only [clL]
 refine a0u (v := ?_) rfl rfl (fun wx => ?_) ?_
 rotate_left 1
 ·(go_simp; with_reducible rfl)
 try simp only [clL]
 refine a0u (v := ?_) rfl rfl (fun wx => ?_) ?_
 rotate_left 1
 ·(go_simp; with_reducible rfl)
 try simp only [clL]
 refine h0L rfl rfl ?_
 go_simp
 try simp only [clL]
 refine e0x ?_
 refine NoPanic.normal ?_
 go_wp2_with fail
 refine wp_region_noPanic ?_
 refine a0p (fun wx => St Nob w wx [(g4, cw 4 0 ++ (cw 4 0 ++ cw 4 0), 117), (g6, cw 4 (tlN l), 111)]) 13 (.w 0 (.w 1 (.w 2 (.w 3 (.t 4 (.t 5 (.b 6 11 (.b 7 11 (.w 8 (.w 9 (.w 10 (.r 11 (.r 12 (.m 13 .nil)))))) (.r 7 (.w 8 (.w 9 (.w 10 (.r 12 (.m 13 .nil))))))) (.r 6 (.r 7 (.w 8 (.w 9 (.w 10 (.r 12 (.m 13 .nil)))))))))))))) (by kernel_rfl) (by kernel_rfl) st5.drew (fun _ _ _ _ _ h => h) ?_
 have hd5 := st5.drew
 clear st5
 refine a0l (v := ?_) rfl rfl (fun wx => ?_) ?_
 rotate_left 1
 ·(go_simp; with_reducible rfl)
 try simp only [clL]
 refine a0l (v := ?_) rfl rfl (fun wx => ?_) ?_
 rotate_left 1
 ·(go_simp; with_reducible rfl)
 try simp only [clL]
 refine a0l (v := ?_) rfl rfl (fun wx => ?_) ?_
 rotate_left 1
 ·(go_simp; with_reducible rfl)
 try simp only [clL]
 refine a0l (v := ?_) rfl rfl (fun wx => ?_) ?_
 rotate_left 1
 ·(go_simp; with_reducible rfl)
 try simp only [clL]
 refine d0i (v := ?_) rfl rfl (fun wx hS => ?_) ?_
 rotate_left 1
 ·(have hc := (HCV.out.keep (St.fr hS) id).cell (i := 0) rfl; clear hS; go_simp; with_reducible rfl)
 try simp only [clL]
 refine a0s rfl rfl rfl rfl (cw 4 (tlN l)) (fun wx hS => St.rangeL hS 1 rfl 0 _ dZl) Tryz.underlying111 rfl (by first | (rw [a0a]; kernel_rfl) | (simp only [List.length_append, a0a]; kernel_rfl)) ?_
 try simp only [clL]
 refine d0G (C := fun g7 wz => St Nob w wz [(g4, cw 4 0 ++ (cw 4 0 ++ cw 4 0), 117), (g6, cw 4 (tlN l), 111), (g7, cw 4 (elN m (tlN l)) ++ (cw 4 (elN m (atY m.M (tlN l))) ++ cw 4 (elN m 1)), 117)]) (F := ?_) (fun key => ?_) ?_
 rotate_left 1
 ·skip
  refine d0j rfl rfl rfl rfl ?_ ?_
  ·skip
   go_simp
   refine (d0z m gp _ HOK.out (HPM.out.keep hd5.fr id) (tlN l) HTN.out).mono ?_
   rintro e' w6 ⟨rfl, hf6⟩
   have st6 := hd5.keep hf6
   clear hf6
   refine ⟨st6, ?_⟩
   try simp only [clL]
   refine d0j rfl rfl rfl rfl ?_ ?_
   ·skip
    go_simp
    refine (v0X m gc gp bx by_ _ HOK.out (HCV.out.keep st6.fr id) (HPM.out.keep st6.fr id) (tlN l) r HR.out).mono ?_
    rintro e' w7 ⟨rfl, hf7⟩
    have st7 := st6.keep hf7
    clear hf7
    refine ⟨st7, ?_⟩
    try simp only [clL]
    refine a0l (v := ?_) rfl rfl (fun wx => ?_) ?_
    rotate_left 1
    ·(go_simp; with_reducible rfl)
    try simp only [clL]
    refine a0l (v := ?_) rfl rfl (fun wx => ?_) ?_
    rotate_left 1
    ·(go_simp; with_reducible rfl)
    try simp only [clL]
    refine a0l (v := ?_) rfl rfl (fun wx => ?_) ?_
    rotate_left 1
    ·(go_simp; with_reducible rfl)
    try simp only [clL]
    refine a0A rfl rfl ?_
    refine b0h st7 rfl (z := zAc) (by kernel_rfl) (cw 12 0) (by rw [a0g]; rfl) ?_
    intro g7 w8 st8
    refine ⟨St.less st8 (by simp), ?_⟩
    try simp only [clL]
    refine a0A rfl rfl ?_
    refine a0h st8 2 rfl rfl rfl rfl (by first | (simp only [a0a]; done) | (simp only [List.length_append, a0a]; done)) (by first | (rw [a0a]; kernel_rfl) | (simp only [List.length_append, a0a]; kernel_rfl)) (a0X _ _ _) ?_
    intro w9 st9
    refine ⟨St.less st9 (by simp), ?_⟩
    try simp only [Act.put]
    refine a0o rfl rfl ?_
    go_simp
    try simp only [clL]
    refine a0i ?_
    exact key g7 _ st9
   ·skip
    refine b0h st6 rfl (z := zAc) (by kernel_rfl) (cw 12 0) (by rw [a0g]; rfl) ?_
    intro g7 w10 st10
    refine ⟨St.less st10 (by simp), ?_⟩
    try simp only [clL]
    refine a0A rfl rfl ?_
    go_simp
    refine (v0X m gc gp bx by_ _ HOK.out (HCV.out.keep st10.fr id) (HPM.out.keep st10.fr id) (tlN l) r HR.out).mono ?_
    rintro e' w11 ⟨rfl, hf11⟩
    have st11 := st10.keep hf11
    clear hf11
    refine ⟨St.less st11 (by simp), ?_⟩
    try simp only [clL]
    refine a0l (v := ?_) rfl rfl (fun wx => ?_) ?_
    rotate_left 1
    ·(go_simp; with_reducible rfl)
    try simp only [clL]
    refine a0l (v := ?_) rfl rfl (fun wx => ?_) ?_
    rotate_left 1
    ·(go_simp; with_reducible rfl)
    try simp only [clL]
    refine a0l (v := ?_) rfl rfl (fun wx => ?_) ?_
    rotate_left 1
    ·(go_simp; with_reducible rfl)
    try simp only [clL]
    refine a0A rfl rfl ?_
    refine a0h st11 2 rfl rfl rfl rfl (by first | (simp only [a0a]; done) | (simp only [List.length_append, a0a]; done)) (by first | (rw [a0a]; kernel_rfl) | (simp only [List.length_append, a0a]; kernel_rfl)) (a0X _ _ _) ?_
    intro w12 st12
    refine ⟨St.less st12 (by simp), ?_⟩
    try simp only [Act.put]
    refine a0o rfl rfl ?_
    go_simp
    try simp only [clL]
    refine a0i ?_
    exact key g7 _ st12
  ·skip
   refine b0h hd5 rfl (z := zAc) (by kernel_rfl) (cw 12 0) (by rw [a0g]; rfl) ?_
   intro g7 w13 st13
   refine ⟨St.less st13 (by simp), ?_⟩
   try simp only [clL]
   refine a0A rfl rfl ?_
   go_simp
   refine (d0z m gp _ HOK.out (HPM.out.keep st13.fr id) (tlN l) HTN.out).mono ?_
   rintro e' w14 ⟨rfl, hf14⟩
   have st14 := st13.keep hf14
   clear hf14
   refine ⟨St.less st14 (by simp), ?_⟩
   try simp only [clL]
   refine a0A rfl rfl ?_
   go_simp
   refine (v0X m gc gp bx by_ _ HOK.out (HCV.out.keep st14.fr id) (HPM.out.keep st14.fr id) (tlN l) r HR.out).mono ?_
   rintro e' w15 ⟨rfl, hf15⟩
   have st15 := st14.keep hf15
   clear hf15
   refine ⟨St.less st15 (by simp), ?_⟩
   try simp only [clL]
   refine a0l (v := ?_) rfl rfl (fun wx => ?_) ?_
   rotate_left 1
   ·(go_simp; with_reducible rfl)
   try simp only [clL]
   refine a0l (v := ?_) rfl rfl (fun wx => ?_) ?_
   rotate_left 1
   ·(go_simp; with_reducible rfl)
   try simp only [clL]
   refine a0l (v := ?_) rfl rfl (fun wx => ?_) ?_
   rotate_left 1
   ·(go_simp; with_reducible rfl)
   try simp only [clL]
   refine a0A rfl rfl ?_
   refine a0h st15 2 rfl rfl rfl rfl (by first | (simp only [a0a]; done) | (simp only [List.length_append, a0a]; done)) (by first | (rw [a0a]; kernel_rfl) | (simp only [List.length_append, a0a]; kernel_rfl)) (a0X _ _ _) ?_
   intro w16 st16
   refine ⟨St.less st16 (by simp), ?_⟩
   try simp only [Act.put]
   refine a0o rfl rfl ?_
   go_simp
   try simp only [clL]
   refine a0i ?_
   exact key g7 _ st16
 intro g7 w17 st17
 have st17 : St Nob w w17 [(g4, cw 4 0 ++ (cw 4 0 ++ cw 4 0), 117), (g6, cw 4 (tlN l), 111), (g7, cw 4 (elN m (tlN l)) ++ (cw 4 (elN m (atY m.M (tlN l))) ++ cw 4 (elN m 1)), 117)] := st17
 clear hd5
 refine NoPanic.normal ?_
 have hcell := b0G (HB.out.still st17.fr) _ H0.out
 go_wp2_with (with_reducible refine wSk 67 ?_)
 refine a0q st17 2 rfl rfl rfl Tryz.underlying117 rfl rfl (by first | (rw [a0a]; kernel_rfl) | (simp only [List.length_append, a0a]; kernel_rfl)) ?_
 go_wp2_with (with_reducible refine wSn ?_)
 refine a0d st17 0 rfl rfl rfl rfl rfl (by first | (simp only [a0a]; done) | (simp only [List.length_append, a0a]; done)) (by first | (rw [a0a]; kernel_rfl) | (simp only [List.length_append, a0a]; kernel_rfl)) (a0X _ _ _) ?_
 intro w18 st18
 clear st17
 have hr := st18.at 0 rfl
 have hfr := st18.fr
 clear st18
 go_wp2_with fail
 exact bodyPost_ret (a0S rfl rfl hr Tryz.underlying117 rfl (by first | (rw [a0a]; kernel_rfl) | (simp only [List.length_append, a0a]; kernel_rfl)) rfl) rfl ⟨by unfold ptV ptL; rfl, hfr⟩
theorem u0j (m : Md) (gc gp bx by_ : Nat) (w : World) (hok : m.Ok) (hcv : Has w gc (d0A m gp bx by_) 125) (hpm : Has w gp (mdL m) 187) (a : Option Addr) (n c : Nat) (l : List UInt8) (hb : RdB w a n l) (hc : n ≤ c) (h33 : l.length = 33) (h0 : (bs l)[0]? = some (.int .u8 3)) (hlt : decide (tlN l < m.M) = false) :
  Calls Tryz.prog 140 #[.pointer (some ⟨gc, 0, none⟩), .slice a n c] w fun e w' => e = .returned (.tuple #[ptV m 0 0 0, .bool false]) ∧ Fr Nob w w' := by
 have HOK := qH hok
 have HCV := qH hcv
 have HPM := qH hpm
 clear hok hcv hpm
 have h33n : n = 33 := by have := hb.len; omega
 subst h33n
 obtain ⟨ba, oa, rfl, -⟩ := Rd.at hb (by decide)
 have HB := qH hb
 have HC := qH hc
 have HT := qH (RdB.tail hb c (by decide) hc)
 have H0 := qH h0
 have HTN := qH (i0R l h33)
 clear hb hc h33 h0
 have HDL := qH hlt
 clear hlt
 have st0 := St.start Nob w
 go_enter Tryz.func140, Tryz.ntmps140
 go_wp2_with (with_reducible refine wSk 4 ?_)
 refine a0c st0 rfl rfl (z := .agg (List.replicate 12 (.int .u64 0)).toArray) (by kernel_rfl) (cw 4 0 ++ (cw 4 0 ++ cw 4 0)) (by rw [a0g]; rfl) ?_
 intro g4 w1 st1
 clear st0
 have hne : (((33 : Nat) : Int) != 33) = false := by rfl
 go_wp2_with (with_reducible refine wSk 14 ?_)
 refine h0i rfl rfl Tryz.underlying22 e0J rfl 1 33 ⟨_, rfl⟩ rfl (by decide) HC.out ?_
 rw [show (33 : Nat) - 1 = 32 from rfl]
 go_wp2_with fail
 refine (g0k _ _ l _ (HT.out.still st1.fr)).mono ?_
 rintro e' w2 ⟨rfl, hf2⟩
 have st2 := st1.keep hf2
 clear st1 hf2
 go_wp2_with (with_reducible refine wSk 6 ?_)
 refine a0c st2 rfl rfl (z := zAd) (by kernel_rfl) (cw 4 0) (by rw [a0g]; rfl) ?_
 intro g6 w3 st3
 clear st2
 go_wp2_with (with_reducible refine wSn ?_)
 refine a0d st3 1 rfl rfl rfl rfl rfl (by first | (simp only [a0a]; done) | (simp only [List.length_append, a0a]; done)) (by first | (rw [a0a]; kernel_rfl) | (simp only [List.length_append, a0a]; kernel_rfl)) (a0j _ _) ?_
 intro w4 st4
 clear st3
 have hcell := b0G (HB.out.still st4.fr) _ H0.out
 go_wp2_with fail
 clear hcell
 go_wp2_with fail
 refine wp_region_noPanic ?_
 refine b0V (fun wx => St Nob w wx [(g4, cw 4 0 ++ (cw 4 0 ++ cw 4 0), 117), (g6, cw 4 (tlN l), 111)]) 22 (.w 0 (.w 1 (.t 2 (.w 3 (.w 4 (.w 5 (.w 6 (.t 7 (.w 8 (.w 9 (.w 10 (.t 11 (.w 12 (.w 13 (.w 14 (.t 15 (.w 16 (.w 17 (.t 18 (.r 19 (.w 20 (.w 21 (.m 22 .nil))))))))))))))))))))))) (by kernel_rfl) (by kernel_rfl) st4.drew (fun _ _ _ _ _ h => h) ?_
 have hd4 := st4.drew
 clear st4
 refine a0u (v := ?_) rfl rfl (fun wx => ?_) ?_
 rotate_left 1
 ·(go_simp; with_reducible rfl)
 try simp only [clL]
 refine a0u (v := ?_) rfl rfl (fun wx => ?_) ?_
 rotate_left 1
 ·(go_simp; with_reducible rfl)
 try simp only [clL]
 refine c0P (v := ?_) rfl rfl (fun wx hS => ?_) ?_
 rotate_left 1
 ·(have hc := (b0G (HB.out.still (St.fr hS)) _ H0.out); clear hS; go_simp; with_reducible rfl)
 try simp only [clL]
 refine a0u (v := ?_) rfl rfl (fun wx => ?_) ?_
 rotate_left 1
 ·(go_simp; with_reducible rfl)
 try simp only [clL]
 refine a0u (v := ?_) rfl rfl (fun wx => ?_) ?_
 rotate_left 1
 ·(go_simp; with_reducible rfl)
 try simp only [clL]
 refine a0u (v := ?_) rfl rfl (fun wx => ?_) ?_
 rotate_left 1
 ·(go_simp; with_reducible rfl)
 try simp only [clL]
 refine a0u (v := ?_) rfl rfl (fun wx => ?_) ?_
 rotate_left 1
 ·(go_simp; with_reducible rfl)
 try simp only [clL]
 refine c0P (v := ?_) rfl rfl (fun wx hS => ?_) ?_
 rotate_left 1
 ·(have hc := (b0G (HB.out.still (St.fr hS)) _ H0.out); clear hS; go_simp; with_reducible rfl)
 try simp only [clL]
 refine a0u (v := ?_) rfl rfl (fun wx => ?_) ?_
 rotate_left 1
 ·(go_simp; with_reducible rfl)
 try simp only [clL]
 refine a0u (v := ?_) rfl rfl (fun wx => ?_) ?_
 rotate_left 1
 ·(go_simp; with_reducible rfl)
 try simp only [clL]
 refine a0u (v := ?_) rfl rfl (fun wx => ?_) ?_
 rotate_left 1
 ·(go_simp; with_reducible rfl)
 try simp only [clL]
 refine c0L rfl rfl rfl rfl (cw 4 (tlN l)) (fun wx hS => St.rangeL hS 1 rfl 0 _ dZl) Tryz.underlying111 rfl (by first | (rw [a0a]; kernel_rfl) | (simp only [List.length_append, a0a]; kernel_rfl)) ?_
 try simp only [clL]
 refine a0u (v := ?_) rfl rfl (fun wx => ?_) ?_
 rotate_left 1
 ·(go_simp; with_reducible rfl)
 try simp only [clL]
 refine a0u (v := ?_) rfl rfl (fun wx => ?_) ?_
 rotate_left 1
 ·(go_simp; with_reducible rfl)
 try simp only [clL]
 refine a0u (v := ?_) rfl rfl (fun wx => ?_) ?_
 rotate_left 1
 ·(go_simp; with_reducible rfl)
 try simp only [clL]
 refine c0P (v := ?_) rfl rfl (fun wx hS => ?_) ?_
 rotate_left 1
 ·(have hc := (HCV.out.keep (St.fr hS) id).cell (i := 0) rfl; clear hS; go_simp; with_reducible rfl)
 try simp only [clL]
 refine a0u (v := ?_) rfl rfl (fun wx => ?_) ?_
 rotate_left 1
 ·(go_simp; with_reducible rfl)
 try simp only [clL]
 refine a0u (v := ?_) rfl rfl (fun wx => ?_) ?_
 rotate_left 1
 ·(go_simp; with_reducible rfl)
 try simp only [clL]
 refine c0L rfl rfl rfl rfl (cw 4 m.M) (fun wx hS => (HPM.out.keep (St.fr hS) id).range 0 _ (k0J m)) Tryz.underlying111 rfl (by first | (rw [a0a]; kernel_rfl) | (simp only [List.length_append, a0a]; kernel_rfl)) ?_
 try simp only [clL]
 refine j0M rfl rfl ?_
 go_simp
 refine (f0b (tlN l) m.M _ HTN.out HOK.out.lt false HDL.out).mono ?_
 rintro e' w5 ⟨rfl, hf5⟩
 have st5 := hd4.keep hf5
 clear hf5
 clear hd4
 refine ⟨st5, ?_⟩
 try simp only [clL]
 refine a0u (v := ?_) rfl rfl (fun wx => ?_) ?_
 rotate_left 1
 ·(go_simp; with_reducible rfl)
 try simp only [clL]
 refine a0u (v := ?_) rfl rfl (fun wx => ?_) ?_
 rotate_left 1
 ·(go_simp; with_reducible rfl)
 try simp only [clL]
 refine h0L rfl rfl ?_
 go_simp
 try simp only [clL]
 refine e0x ?_
 refine NoPanic.normal ?_
 go_wp2_with (with_reducible refine wSk 48 ?_)
 refine c0H rfl rfl _ g0T ?_
 go_wp2_with (with_reducible refine wSn ?_)
 refine a0d st5 0 rfl rfl rfl rfl rfl (by first | (simp only; done) | (simp only [List.length_append, a0a]; done)) (by first | (rw [a0a]; kernel_rfl) | (simp only [List.length_append, a0a]; kernel_rfl)) (a0X _ _ _) ?_
 intro w6 st6
 clear st5
 have hr := st6.at 0 rfl
 have hfr := st6.fr
 clear st6
 go_wp2_with fail
 exact bodyPost_ret (a0S rfl rfl hr Tryz.underlying117 rfl (by first | (rw [a0a]; kernel_rfl) | (simp only [List.length_append, a0a]; kernel_rfl)) rfl) rfl ⟨by unfold ptV ptL; rw [e0r]; rfl, hfr⟩
theorem o0h (m : Md) (gc gp bx by_ : Nat) (w : World) (hok : m.Ok) (hcv : Has w gc (d0A m gp bx by_) 125) (hpm : Has w gp (mdL m) 187) (a : Option Addr) (n c : Nat) (l : List UInt8) (hb : RdB w a n l) (hc : n ≤ c) (h33 : l.length = 33) (h0 : (bs l)[0]? = some (.int .u8 3)) (hlt : decide (tlN l < m.M) = true) (r : Bool) (hr : b0I m.M (d0b (tlN l)) = r) :
  Calls Tryz.prog 140 #[.pointer (some ⟨gc, 0, none⟩), .slice a n c] w fun e w' => e = .returned (.tuple #[ptV m (tlN l) (m.M - (atY m.M (tlN l)) % m.M) 1, .bool r]) ∧ Fr Nob w w' := by
 have HOK := qH hok
 have HCV := qH hcv
 have HPM := qH hpm
 clear hok hcv hpm
 have h33n : n = 33 := by have := hb.len; omega
 subst h33n
 obtain ⟨ba, oa, rfl, -⟩ := Rd.at hb (by decide)
 have HB := qH hb
 have HC := qH hc
 have HT := qH (RdB.tail hb c (by decide) hc)
 have H0 := qH h0
 have HTN := qH (i0R l h33)
 clear hb hc h33 h0
 have HDL := qH hlt
 clear hlt
 have HR := qH hr
 clear hr
 have st0 := St.start Nob w
 go_enter Tryz.func140, Tryz.ntmps140
 go_wp2_with (with_reducible refine wSk 4 ?_)
 refine a0c st0 rfl rfl (z := .agg (List.replicate 12 (.int .u64 0)).toArray) (by kernel_rfl) (cw 4 0 ++ (cw 4 0 ++ cw 4 0)) (by rw [a0g]; rfl) ?_
 intro g4 w1 st1
 clear st0
 have hne : (((33 : Nat) : Int) != 33) = false := by rfl
 go_wp2_with (with_reducible refine wSk 14 ?_)
 refine h0i rfl rfl Tryz.underlying22 e0J rfl 1 33 ⟨_, rfl⟩ rfl (by decide) HC.out ?_
 rw [show (33 : Nat) - 1 = 32 from rfl]
 go_wp2_with fail
 refine (g0k _ _ l _ (HT.out.still st1.fr)).mono ?_
 rintro e' w2 ⟨rfl, hf2⟩
 have st2 := st1.keep hf2
 clear st1 hf2
 go_wp2_with (with_reducible refine wSk 6 ?_)
 refine a0c st2 rfl rfl (z := zAd) (by kernel_rfl) (cw 4 0) (by rw [a0g]; rfl) ?_
 intro g6 w3 st3
 clear st2
 go_wp2_with (with_reducible refine wSn ?_)
 refine a0d st3 1 rfl rfl rfl rfl rfl (by first | (simp only [a0a]; done) | (simp only [List.length_append, a0a]; done)) (by first | (rw [a0a]; kernel_rfl) | (simp only [List.length_append, a0a]; kernel_rfl)) (a0j _ _) ?_
 intro w4 st4
 clear st3
 have hcell := b0G (HB.out.still st4.fr) _ H0.out
 go_wp2_with fail
 clear hcell
 go_wp2_with fail
 refine wp_region_noPanic ?_
 refine b0V (fun wx => St Nob w wx [(g4, cw 4 0 ++ (cw 4 0 ++ cw 4 0), 117), (g6, cw 4 (tlN l), 111)]) 22 (.w 0 (.w 1 (.t 2 (.w 3 (.w 4 (.w 5 (.w 6 (.t 7 (.w 8 (.w 9 (.w 10 (.t 11 (.w 12 (.w 13 (.w 14 (.t 15 (.w 16 (.w 17 (.t 18 (.r 19 (.w 20 (.w 21 (.m 22 .nil))))))))))))))))))))))) (by kernel_rfl) (by kernel_rfl) st4.drew (fun _ _ _ _ _ h => h) ?_
 have hd4 := st4.drew
 clear st4
 refine a0u (v := ?_) rfl rfl (fun wx => ?_) ?_
 rotate_left 1
 ·(go_simp; with_reducible rfl)
 try simp only [clL]
 refine a0u (v := ?_) rfl rfl (fun wx => ?_) ?_
 rotate_left 1
 ·(go_simp; with_reducible rfl)
 try simp only [clL]
 refine c0P (v := ?_) rfl rfl (fun wx hS => ?_) ?_
 rotate_left 1
 ·(have hc := (b0G (HB.out.still (St.fr hS)) _ H0.out); clear hS; go_simp; with_reducible rfl)
 try simp only [clL]
 refine a0u (v := ?_) rfl rfl (fun wx => ?_) ?_
 rotate_left 1
 ·(go_simp; with_reducible rfl)
 try simp only [clL]
 refine a0u (v := ?_) rfl rfl (fun wx => ?_) ?_
 rotate_left 1
 ·(go_simp; with_reducible rfl)
 try simp only [clL]
 refine a0u (v := ?_) rfl rfl (fun wx => ?_) ?_
 rotate_left 1
 ·(go_simp; with_reducible rfl)
 try simp only [clL]
 refine a0u (v := ?_) rfl rfl (fun wx => ?_) ?_
 rotate_left 1
 ·(go_simp; with_reducible rfl)
 try simp only [clL]
 refine c0P (v := ?_) rfl rfl (fun wx hS => ?_) ?_
 rotate_left 1
 ·(have hc := (b0G (HB.out.still (St.fr hS)) _ H0.out); clear hS; go_simp; with_reducible rfl)
 try simp only [clL]
 refine a0u (v := ?_) rfl rfl (fun wx => ?_) ?_
 rotate_left 1
 ·(go_simp; with_reducible rfl)
 try simp only [clL]
 refine a0u (v := ?_) rfl rfl (fun wx => ?_) ?_
 rotate_left 1
 ·(go_simp; with_reducible rfl)
 try simp only [clL]
 refine a0u (v := ?_) rfl rfl (fun wx => ?_) ?_
 rotate_left 1
 ·(go_simp; with_reducible rfl)
 try simp only [clL]
 refine c0L rfl rfl rfl rfl (cw 4 (tlN l)) (fun wx hS => St.rangeL hS 1 rfl 0 _ dZl) Tryz.underlying111 rfl (by first | (rw [a0a]; kernel_rfl) | (simp only [List.length_append, a0a]; kernel_rfl)) ?_
 try simp only [clL]
 refine a0u (v := ?_) rfl rfl (fun wx => ?_) ?_
 rotate_left 1
 ·(go_simp; with_reducible rfl)
 try simp only [clL]
 refine a0u (v := ?_) rfl rfl (fun wx => ?_) ?_
 rotate_left 1
 ·(go_simp; with_reducible rfl)
 try simp only [clL]
 refine a0u (v := ?_) rfl rfl (fun wx => ?_) ?_
 rotate_left 1
 ·(go_simp; with_reducible rfl)
 try simp only [clL]
 refine c0P (v := ?_) rfl rfl (fun wx hS => ?_) ?_
 rotate_left 1
 ·(have hc := (HCV.out.keep (St.fr hS) id).cell (i := 0) rfl; clear hS; go_simp; with_reducible rfl)
 try simp only [clL]
 refine a0u (v := ?_) rfl rfl (fun wx => ?_) ?_
 rotate_left 1
 ·(go_simp; with_reducible rfl)
 try simp only [clL]
 refine a0u (v := ?_) rfl rfl (fun wx => ?_) ?_
 rotate_left 1
 ·(go_simp; with_reducible rfl)
 try simp only [clL]
 refine c0L rfl rfl rfl rfl (cw 4 m.M) (fun wx hS => (HPM.out.keep (St.fr hS) id).range 0 _ (k0J m)) Tryz.underlying111 rfl (by first | (rw [a0a]; kernel_rfl) | (simp only [List.length_append, a0a]; kernel_rfl)) ?_
 try simp only [clL]
 refine j0M rfl rfl ?_
 go_simp
 refine (f0b (tlN l) m.M _ HTN.out HOK.out.lt true HDL.out).mono ?_
 rintro e' w5 ⟨rfl, hf5⟩
 have st5 := hd4.keep hf5
 clear hf5
 clear hd4
 refine ⟨st5, ?_⟩
 try simp only [clL]
 refine a0u (v := ?_) rfl rfl (fun wx => ?_) ?_
 rotate_left 1
 ·(go_simp; with_reducible rfl)
 try simp only [clL]
 refine a0u (v := ?_) rfl rfl (fun wx => ?_) ?_
 rotate_left 1
 ·(go_simp; with_reducible rfl)
 try simp only [clL]
 refine h0L rfl rfl ?_
 go_simp
 try simp only [clL]
 refine e0x ?_
 refine NoPanic.normal ?_
 go_wp2_with fail
 refine wp_region_noPanic ?_
 refine a0p (fun wx => St Nob w wx [(g4, cw 4 0 ++ (cw 4 0 ++ cw 4 0), 117), (g6, cw 4 (tlN l), 111)]) 13 (.w 0 (.w 1 (.w 2 (.w 3 (.t 4 (.t 5 (.b 6 11 (.b 7 11 (.w 8 (.w 9 (.w 10 (.r 11 (.r 12 (.m 13 .nil)))))) (.r 7 (.w 8 (.w 9 (.w 10 (.r 12 (.m 13 .nil))))))) (.r 6 (.r 7 (.w 8 (.w 9 (.w 10 (.r 12 (.m 13 .nil)))))))))))))) (by kernel_rfl) (by kernel_rfl) st5.drew (fun _ _ _ _ _ h => h) ?_
 have hd5 := st5.drew
 clear st5
 refine a0l (v := ?_) rfl rfl (fun wx => ?_) ?_
 rotate_left 1
 ·(go_simp; with_reducible rfl)
 try simp only [clL]
 refine a0l (v := ?_) rfl rfl (fun wx => ?_) ?_
 rotate_left 1
 ·(go_simp; with_reducible rfl)
 try simp only [clL]
 refine a0l (v := ?_) rfl rfl (fun wx => ?_) ?_
 rotate_left 1
 ·(go_simp; with_reducible rfl)
 try simp only [clL]
 refine a0l (v := ?_) rfl rfl (fun wx => ?_) ?_
 rotate_left 1
 ·(go_simp; with_reducible rfl)
 try simp only [clL]
 refine d0i (v := ?_) rfl rfl (fun wx hS => ?_) ?_
 rotate_left 1
 ·(have hc := (HCV.out.keep (St.fr hS) id).cell (i := 0) rfl; clear hS; go_simp; with_reducible rfl)
 try simp only [clL]
 refine a0s rfl rfl rfl rfl (cw 4 (tlN l)) (fun wx hS => St.rangeL hS 1 rfl 0 _ dZl) Tryz.underlying111 rfl (by first | (rw [a0a]; kernel_rfl) | (simp only [List.length_append, a0a]; kernel_rfl)) ?_
 try simp only [clL]
 refine d0G (C := fun g7 wz => St Nob w wz [(g4, cw 4 0 ++ (cw 4 0 ++ cw 4 0), 117), (g6, cw 4 (tlN l), 111), (g7, cw 4 (elN m (tlN l)) ++ (cw 4 (elN m (atY m.M (tlN l))) ++ cw 4 (elN m 1)), 117)]) (F := ?_) (fun key => ?_) ?_
 rotate_left 1
 ·skip
  refine d0j rfl rfl rfl rfl ?_ ?_
  ·skip
   go_simp
   refine (d0z m gp _ HOK.out (HPM.out.keep hd5.fr id) (tlN l) HTN.out).mono ?_
   rintro e' w6 ⟨rfl, hf6⟩
   have st6 := hd5.keep hf6
   clear hf6
   refine ⟨st6, ?_⟩
   try simp only [clL]
   refine d0j rfl rfl rfl rfl ?_ ?_
   ·skip
    go_simp
    refine (v0X m gc gp bx by_ _ HOK.out (HCV.out.keep st6.fr id) (HPM.out.keep st6.fr id) (tlN l) r HR.out).mono ?_
    rintro e' w7 ⟨rfl, hf7⟩
    have st7 := st6.keep hf7
    clear hf7
    refine ⟨st7, ?_⟩
    try simp only [clL]
    refine a0l (v := ?_) rfl rfl (fun wx => ?_) ?_
    rotate_left 1
    ·(go_simp; with_reducible rfl)
    try simp only [clL]
    refine a0l (v := ?_) rfl rfl (fun wx => ?_) ?_
    rotate_left 1
    ·(go_simp; with_reducible rfl)
    try simp only [clL]
    refine a0l (v := ?_) rfl rfl (fun wx => ?_) ?_
    rotate_left 1
    ·(go_simp; with_reducible rfl)
    try simp only [clL]
    refine a0A rfl rfl ?_
    refine b0h st7 rfl (z := zAc) (by kernel_rfl) (cw 12 0) (by rw [a0g]; rfl) ?_
    intro g7 w8 st8
    refine ⟨St.less st8 (by simp), ?_⟩
    try simp only [clL]
    refine a0A rfl rfl ?_
    refine a0h st8 2 rfl rfl rfl rfl (by first | (simp only [a0a]; done) | (simp only [List.length_append, a0a]; done)) (by first | (rw [a0a]; kernel_rfl) | (simp only [List.length_append, a0a]; kernel_rfl)) (a0X _ _ _) ?_
    intro w9 st9
    refine ⟨St.less st9 (by simp), ?_⟩
    try simp only [Act.put]
    refine a0o rfl rfl ?_
    go_simp
    try simp only [clL]
    refine a0i ?_
    exact key g7 _ st9
   ·skip
    refine b0h st6 rfl (z := zAc) (by kernel_rfl) (cw 12 0) (by rw [a0g]; rfl) ?_
    intro g7 w10 st10
    refine ⟨St.less st10 (by simp), ?_⟩
    try simp only [clL]
    refine a0A rfl rfl ?_
    go_simp
    refine (v0X m gc gp bx by_ _ HOK.out (HCV.out.keep st10.fr id) (HPM.out.keep st10.fr id) (tlN l) r HR.out).mono ?_
    rintro e' w11 ⟨rfl, hf11⟩
    have st11 := st10.keep hf11
    clear hf11
    refine ⟨St.less st11 (by simp), ?_⟩
    try simp only [clL]
    refine a0l (v := ?_) rfl rfl (fun wx => ?_) ?_
    rotate_left 1
    ·(go_simp; with_reducible rfl)
    try simp only [clL]
    refine a0l (v := ?_) rfl rfl (fun wx => ?_) ?_
    rotate_left 1
    ·(go_simp; with_reducible rfl)
    try simp only [clL]
    refine a0l (v := ?_) rfl rfl (fun wx => ?_) ?_
    rotate_left 1
    ·(go_simp; with_reducible rfl)
    try simp only [clL]
    refine a0A rfl rfl ?_
    refine a0h st11 2 rfl rfl rfl rfl (by first | (simp only [a0a]; done) | (simp only [List.length_append, a0a]; done)) (by first | (rw [a0a]; kernel_rfl) | (simp only [List.length_append, a0a]; kernel_rfl)) (a0X _ _ _) ?_
    intro w12 st12
    refine ⟨St.less st12 (by simp), ?_⟩
    try simp only [Act.put]
    refine a0o rfl rfl ?_
    go_simp
    try simp only [clL]
    refine a0i ?_
    exact key g7 _ st12
  ·skip
   refine b0h hd5 rfl (z := zAc) (by kernel_rfl) (cw 12 0) (by rw [a0g]; rfl) ?_
   intro g7 w13 st13
   refine ⟨St.less st13 (by simp), ?_⟩
   try simp only [clL]
   refine a0A rfl rfl ?_
   go_simp
   refine (d0z m gp _ HOK.out (HPM.out.keep st13.fr id) (tlN l) HTN.out).mono ?_
   rintro e' w14 ⟨rfl, hf14⟩
   have st14 := st13.keep hf14
   clear hf14
   refine ⟨St.less st14 (by simp), ?_⟩
   try simp only [clL]
   refine a0A rfl rfl ?_
   go_simp
   refine (v0X m gc gp bx by_ _ HOK.out (HCV.out.keep st14.fr id) (HPM.out.keep st14.fr id) (tlN l) r HR.out).mono ?_
   rintro e' w15 ⟨rfl, hf15⟩
   have st15 := st14.keep hf15
   clear hf15
   refine ⟨St.less st15 (by simp), ?_⟩
   try simp only [clL]
   refine a0l (v := ?_) rfl rfl (fun wx => ?_) ?_
   rotate_left 1
   ·(go_simp; with_reducible rfl)
   try simp only [clL]
   refine a0l (v := ?_) rfl rfl (fun wx => ?_) ?_
   rotate_left 1
   ·(go_simp; with_reducible rfl)
   try simp only [clL]
   refine a0l (v := ?_) rfl rfl (fun wx => ?_) ?_
   rotate_left 1
   ·(go_simp; with_reducible rfl)
   try simp only [clL]
   refine a0A rfl rfl ?_
   refine a0h st15 2 rfl rfl rfl rfl (by first | (simp only [a0a]; done) | (simp only [List.length_append, a0a]; done)) (by first | (rw [a0a]; kernel_rfl) | (simp only [List.length_append, a0a]; kernel_rfl)) (a0X _ _ _) ?_
   intro w16 st16
   refine ⟨St.less st16 (by simp), ?_⟩
   try simp only [Act.put]
   refine a0o rfl rfl ?_
   go_simp
   try simp only [clL]
   refine a0i ?_
   exact key g7 _ st16
 intro g7 w17 st17
 have st17 : St Nob w w17 [(g4, cw 4 0 ++ (cw 4 0 ++ cw 4 0), 117), (g6, cw 4 (tlN l), 111), (g7, cw 4 (elN m (tlN l)) ++ (cw 4 (elN m (atY m.M (tlN l))) ++ cw 4 (elN m 1)), 117)] := st17
 clear hd5
 refine NoPanic.normal ?_
 have hcell := b0G (HB.out.still st17.fr) _ H0.out
 go_wp2_with (with_reducible refine wSk 65 ?_)
 refine a0q st17 2 rfl rfl rfl Tryz.underlying117 rfl rfl (by first | (rw [a0a]; kernel_rfl) | (simp only [List.length_append, a0a]; kernel_rfl)) ?_
 clear hcell
 go_wp2_with fail
 refine (p0r m gc gp bx by_ _ HOK.out (HCV.out.keep st17.fr id) (HPM.out.keep st17.fr id) (tlN l) (atY m.M (tlN l)) 1).mono ?_
 rintro e' w18 ⟨rfl, hf18⟩
 have st18 := st17.keep hf18
 clear st17 hf18
 go_wp2_with (with_reducible refine wSn ?_)
 refine a0d st18 2 rfl rfl rfl rfl rfl (by first | (simp only [a0a]; done) | (simp only [List.length_append, a0a]; done)) (by first | (rw [a0a]; kernel_rfl) | (simp only [List.length_append, a0a]; kernel_rfl)) (a0X _ _ _) ?_
 intro w19 st19
 clear st18
 go_wp2_with (with_reducible refine wSk 67 ?_)
 refine a0q st19 2 rfl rfl rfl Tryz.underlying117 rfl rfl (by first | (rw [a0a]; kernel_rfl) | (simp only [List.length_append, a0a]; kernel_rfl)) ?_
 go_wp2_with (with_reducible refine wSn ?_)
 refine a0d st19 0 rfl rfl rfl rfl rfl (by first | (simp only [a0a]; done) | (simp only [List.length_append, a0a]; done)) (by first | (rw [a0a]; kernel_rfl) | (simp only [List.length_append, a0a]; kernel_rfl)) (a0X _ _ _) ?_
 intro w20 st20
 clear st19
 have hr := st20.at 0 rfl
 have hfr := st20.fr
 clear st20
 go_wp2_with fail
 exact bodyPost_ret (a0S rfl rfl hr Tryz.underlying117 rfl (by first | (rw [a0a]; kernel_rfl) | (simp only [List.length_append, a0a]; kernel_rfl)) rfl) rfl ⟨by unfold ptV ptL; rfl, hfr⟩
end
section
open Go.RowKit Go.Mv Mvp Mvq
theorem j0N (l : List UInt8) (h : l.length = 33) (b : UInt8) (hb : l.getD 0 0 = b) : (bs l)[0]? = some (.int .u8 (b.toNat : Int)) := by
 cases l with
 | nil => cases h
 | cons x t =>
  have : x = b := by simpa using hb
  subst this
  rfl
theorem x0t {b : UInt8} {k : Nat} (h : b.toNat = k) : b = UInt8.ofNat k := by rw [← h]; simp
theorem j0O (l : List UInt8) (h : l.length = 33) (hb : l.getD 0 0 = 2) : (bs l)[0]? = some (.int .u8 2) := by rw [j0N l h 2 hb]; rfl
theorem j0P (l : List UInt8) (h : l.length = 33) (hb : l.getD 0 0 = 3) : (bs l)[0]? = some (.int .u8 3) := by rw [j0N l h 3 hb]; rfl
theorem o0i (l : List UInt8) (h : l.length = 33) (hb : l.getD 0 0 = 0) : (bs l)[0]? = some (.int .u8 0) := by rw [j0N l h 0 hb]; rfl
theorem r0y (b : Nat) : kc (mP.M - b % mP.M) = - kc b := by rw [c0w]; exact r0a b
theorem A0B (n : Nat) (hr : b0I mP.M (d0b n) = true) : kc (atY mP.M n) = kc (rtV fP (d0b n)) := by unfold atY; rw [if_pos hr, c0w]
theorem v0Y (x y : Nat) (h : onC (.A (kc x) (kc y))) : (m0D x y h).L = ptL mP x y 1 := rfl
attribute [local irreducible] atY rtV b0I ptL d0b tlN m0D
theorem m0G (l : List UInt8) (h : c0N l = true) : ∃ t : PT, t.pt = e0i l ∧ ∀ (gc : Nat) (a : Option Addr) (n c : Nat) (w : World), Cv w gc → RdB w a n l → n ≤ c →
  Calls Tryz.prog 140 #[.pointer (some ⟨gc, 0, none⟩), .slice a n c] w fun e w' => e = .returned (.tuple #[.agg t.L.toArray, .bool true]) ∧ Fr Nob w w' := by
 have hon := x0j h
 unfold c0N at h
 unfold e0i at *
 simp only [Bool.and_eq_true, decide_eq_true_eq] at h
 obtain ⟨h33, h⟩ := h
 by_cases h0 : l.getD 0 0 = 0
 ·rw [if_pos h0] at h
  refine ⟨noT, by rw [if_pos h0, r0i], ?_⟩
  rintro gc a n c w ⟨gp, h1, h2⟩ hb hc
  exact l0h mP gc gp gXn gYn w b0K h1 h2 a n c l hb hc h33 (o0i l h33 h0) true h
 ·rw [if_neg h0] at h hon
  simp only [Bool.and_eq_true, decide_eq_true_eq] at h
  obtain ⟨h23, hlt, hr⟩ := h
  rw [← c0w] at hlt hr
  have hy := A0B _ hr
  rcases h23 with h2 | h3
  ·have h3 : ¬ l.getD 0 0 = 3 := by rw [h2]; decide
   rw [if_neg h3, ← hy] at hon
   refine ⟨m0D (tlN l) (atY mP.M (tlN l)) hon, ?_, ?_⟩
   ·rw [j0J, if_neg h0, if_neg h3, hy]
   ·rintro gc a n c w ⟨gp, g1, g2⟩ hb hc
    rw [v0Y]
    exact o0g mP gc gp gXn gYn w b0K g1 g2 a n c l hb hc h33 (j0O l h33 h2) (decide_eq_true hlt) true hr
  ·rw [if_pos h3, ← hy, ← r0y] at hon
   refine ⟨m0D (tlN l) (mP.M - atY mP.M (tlN l) % mP.M) hon, ?_, ?_⟩
   ·rw [j0J, if_neg h0, if_pos h3, r0y, hy]
   ·rintro gc a n c w ⟨gp, g1, g2⟩ hb hc
    rw [v0Y]
    exact o0h mP gc gp gXn gYn w b0K g1 g2 a n c l hb hc h33 (j0P l h33 h3) (decide_eq_true hlt) true hr
open Classical in
noncomputable def rdT (l : List UInt8) : PT := if h : c0N l = true then Classical.choose (m0G l h) else noT
theorem z0p {l : List UInt8} (h : c0N l = true) : (rdT l).pt = e0i l := by unfold rdT; rw [dif_pos h]; exact (Classical.choose_spec (m0G l h)).1
theorem v0Z (l : List UInt8) (h : c0N l = true) (gc : Nat) (a : Option Addr) (n c : Nat) (w : World) (hcv : Cv w gc) (hb : RdB w a n l) (hc : n ≤ c) :
  Calls Tryz.prog 140 #[.pointer (some ⟨gc, 0, none⟩), .slice a n c] w fun e w' => e = .returned (.tuple #[.agg (rdT l).L.toArray, .bool true]) ∧ Fr Nob w w' := by
 unfold rdT; rw [dif_pos h]; exact (Classical.choose_spec (m0G l h)).2 gc a n c w hcv hb hc
theorem z0q (l : List UInt8) (h : c0N l = false) (gc : Nat) (a : Option Addr) (n c : Nat) (w : World) (hcv : Cv w gc) (hb : RdB w a n l) (hc : n ≤ c) :
  Calls Tryz.prog 140 #[.pointer (some ⟨gc, 0, none⟩), .slice a n c] w fun e w' => (∃ X Y Z, e = .returned (.tuple #[.agg (ptL mP X Y Z).toArray, .bool false])) ∧ Fr Nob w w' := by
 obtain ⟨gp, g1, g2⟩ := hcv
 unfold c0N at h
 by_cases h33 : l.length = 33
 ·rw [decide_eq_true h33, Bool.true_and] at h
  by_cases h0 : l.getD 0 0 = 0
  ·rw [if_pos h0] at h
   exact (l0h mP gc gp gXn gYn w b0K g1 g2 a n c l hb hc h33 (o0i l h33 h0) false h).mono fun _ _ t => ⟨⟨_, _, _, t.1⟩, t.2⟩
  ·rw [if_neg h0] at h
   by_cases h2 : l.getD 0 0 = 2
   ·rw [decide_eq_true (Or.inl h2), Bool.true_and] at h
    cases hlt : decide (tlN l < mP.M) with
    | false => exact (u0i mP gc gp gXn gYn w b0K g1 g2 a n c l hb hc h33 (j0O l h33 h2) hlt).mono fun _ _ t => ⟨⟨_, _, _, t.1⟩, t.2⟩
    | true =>
     rw [← c0w, hlt, Bool.true_and] at h
     exact (o0g mP gc gp gXn gYn w b0K g1 g2 a n c l hb hc h33 (j0O l h33 h2) hlt false h).mono fun _ _ t => ⟨⟨_, _, _, t.1⟩, t.2⟩
   ·by_cases h3 : l.getD 0 0 = 3
    ·rw [decide_eq_true (Or.inr h3), Bool.true_and] at h
     cases hlt : decide (tlN l < mP.M) with
     | false => exact (u0j mP gc gp gXn gYn w b0K g1 g2 a n c l hb hc h33 (j0P l h33 h3) hlt).mono fun _ _ t => ⟨⟨_, _, _, t.1⟩, t.2⟩
     | true =>
      rw [← c0w, hlt, Bool.true_and] at h
      exact (o0h mP gc gp gXn gYn w b0K g1 g2 a n c l hb hc h33 (j0P l h33 h3) hlt false h).mono fun _ _ t => ⟨⟨_, _, _, t.1⟩, t.2⟩
    ·have q0 : (((l.getD 0 0).toNat : Int) == 0) = false := by
      simp only [beq_eq_false_iff_ne, ne_eq]
      intro e
      exact h0 (x0t (k := 0) (by omega))
     have q2 : (((l.getD 0 0).toNat : Int) != 2) = true := by
      simp only [bne_iff_ne, ne_eq]
      intro e
      exact h2 (x0t (k := 2) (by omega))
     have q3 : (((l.getD 0 0).toNat : Int) != 3) = true := by
      simp only [bne_iff_ne, ne_eq]
      intro e
      exact h3 (x0t (k := 3) (by omega))
     exact (u0h mP gc gp gXn gYn w b0K g1 g2 a n c l hb hc h33 _ (j0N l h33 _ rfl) q0 q2 q3).mono fun _ _ t => ⟨⟨_, _, _, t.1⟩, t.2⟩
 ·exact (u0g mP gc gp gXn gYn w b0K g1 g2 a n c l hb hc h33).mono fun _ _ t => ⟨⟨_, _, _, t.1⟩, t.2⟩
theorem z0r (z : Nat) : kc (z ^ (mP.M - 2)) = c0d (kc z) := by
 rw [show mP.M - 2 = fP - 2 by rw [c0w]]
 unfold c0d
 rw [e0H]
 generalize fP - 2 = n
 rw [← d0I (z ^ n), ← d0I ((z % fP) ^ n), ← Nat.pow_mod]
theorem z0s (x y : K) : b0g (.A x y) = UInt8.ofNat (2 + y.val % 2) :: a0U x.val := rfl
theorem m0H (s : PT) (gc : Nat) (w : World) (hcv : Cv w gc) :
  Calls Tryz.prog 88 #[.pointer (some ⟨gc, 0, none⟩), .agg s.L.toArray] w fun e w' => ∃ sv, e = .returned sv ∧ Own w' w.heap.size 5 1 sv 33 (bs (b0g s.pt)) ∧ Fr Nob w w' := by
 obtain ⟨gp, g1, g2⟩ := hcv
 cases hz : s.isO with
 | true =>
  rw [PT.isO_t hz]
  exact p0q mP gc gp gXn gYn w b0K g1 g2 s.x s.y s.z hz
 | false =>
  have hne := PT.isO_f hz
  have e : s.pt = .A (kc (s.x * (s.z ^ (mP.M - 2) * s.z ^ (mP.M - 2)))) (kc (s.y * (s.z ^ (mP.M - 2) * s.z ^ (mP.M - 2) * s.z ^ (mP.M - 2)))) := by
   show jk _ _ _ = _
   rw [t0Q hne]
   simp only [a0C, z0r]
  rw [e]
  have hb := x0s mP gc gp gXn gYn w b0K g1 g2 s.x s.y s.z hz _ _ _ _ _ _ _ rfl rfl rfl rfl rfl rfl rfl
  refine hb.mono ?_
  rintro e' w' ⟨sv, h1, h2, h3⟩
  refine ⟨sv, h1, ?_, h3⟩
  rw [z0s, e0H, e0H, ← c0w]
  exact h2
end
section
open Go.RowKit Go.Mv Mvp Mvq
def e0f (ls : List (List UInt8)) : Bool := ls.all c0N
noncomputable def g0H (ls : List (List UInt8)) : List Value := ls.flatMap fun l => (rdT l).L
theorem x0u (m : Md) (x y z : Nat) : ∀ v ∈ ptL m x y z, v.oneCell' = true := a0X _ _ _
theorem l0i (ls : List (List UInt8)) (l : List UInt8) : g0H (ls ++ [l]) = g0H ls ++ (rdT l).L := by simp [g0H]
theorem x0v (ls : List (List UInt8)) (i : Nat) (h : i < ls.length) : ((g0H ls).drop (i * 12)).take (rdT (ls.getD i [])).L.length = (rdT (ls.getD i [])).L := by
 rw [PT.len]
 induction ls generalizing i with
 | nil => simp at h
 | cons l ls ih =>
  rw [g0H, List.flatMap_cons, ← g0H]
  cases i with
  | zero =>
   rw [Nat.zero_mul, List.drop_zero, List.take_append_of_le_length (by rw [PT.len]; exact Nat.le_refl _), List.take_of_length_le (by rw [PT.len]; exact Nat.le_refl _)]
   rfl
  | succ i =>
   rw [List.drop_append, PT.len, List.drop_of_length_le (by rw [PT.len]; omega), List.nil_append, show (i + 1) * 12 - 12 = i * 12 by omega, ih i (by simpa using h)]
   rfl
theorem l0j (ls : List (List UInt8)) (k : Nat) (h : k < ls.length) : e0f (ls.take (k + 1)) = (e0f (ls.take k) && c0N (ls.getD k [])) := by
 rw [List.take_succ_eq_append_getElem h, e0f, List.all_append, ← e0f]
 simp [List.getD_eq_getElem?_getD, h]
theorem o0j (ls : List (List UInt8)) (k : Nat) (h : k < ls.length) (hb : c0N (ls.getD k []) = false) : e0f ls = false := by
 rw [e0f, List.all_eq_false]
 refine ⟨ls.getD k [], ?_, by simpa using hb⟩
 rw [List.getD_eq_getElem?_getD, List.getElem?_eq_getElem h]
 exact List.getElem_mem h
theorem j0Q : (Tryz.prog.info? 117).map (fun i => (i.zero, i.size, i.bytes)) = some (some (.agg (List.replicate 12 (.int .u64 0)).toArray), 12, 96) := by kernel_rfl
attribute [local irreducible] a0G lw mix cw b0q b0y b0p a0K a0r beN b0F a0U b0D a0I a0R elN mdL b0m rtN rtV b0I gXn gYn PT.L k0q j0H e0N tbL tmR tmL dbN g0S g0y k0r dig rdT c0N e0i ptL g0H e0f b0g
end
section
open Go.RowKit Go.Mv Mvp Mvq
attribute [local irreducible] a0G lw mix cw b0q b0y b0p a0K a0r beN b0F a0U b0D a0I a0R elN mdL b0m rtN rtV b0I gXn gYn PT.L k0q j0H e0N tbL tmR tmL dbN g0S g0y k0r dig rdT c0N e0i ptL g0H e0f b0g
theorem p0s (m : Md) (hk : KindOf 1 m) (a : Option Addr) (n c : Nat) (l : List UInt8) (w : World) (hb : RdB w a n l) (h32 : l.length ≠ 32) :
  Calls Tryz.prog 83 #[.slice a n c] w fun e w' => e = .returned (.tuple #[i4 0, .bool false]) ∧ Fr Nob w w' := by
 have HK := qH hk
 have HOK := qH hk.ok
 clear hk
 have hne : ((n : Int) != 32) = true := by have := hb.len; simp; omega
 clear h32 hb
 have st0 := St.start Nob w
 go_enter Tryz.func83, Tryz.ntmps83
 go_wp2_with (with_reducible refine wSk 2 ?_)
 refine a0c st0 rfl rfl (z := zAd) (by kernel_rfl) (cw 4 0) (by rw [a0g]; rfl) ?_
 intro g2 w1 st1
 clear st0
 go_wp2_with (with_reducible refine wSk 10 ?_)
 refine c0H rfl rfl _ o0e ?_
 rw [o0f]
 go_wp2_with (with_reducible refine wSn ?_)
 refine a0d st1 0 rfl rfl rfl rfl rfl (by first | (simp only [a0a]; done) | (simp only [List.length_append, a0a, PT.len, a0w]; done)) (by first | (rw [a0a]; kernel_rfl) | (rw [PT.len]; kernel_rfl) | (rw [a0w]; kernel_rfl) | (simp only [List.length_append, a0a]; kernel_rfl) | (simp only [List.length_append, a0a, PT.len, a0w]; kernel_rfl)) (a0j _ _) ?_
 intro w2 st2
 clear st1
 have hr := st2.at 0 rfl
 have hfr := st2.fr
 clear st2
 go_wp2_with fail
 exact bodyPost_ret (a0O rfl rfl hr Tryz.underlying111 (by first | (rw [a0a]; kernel_rfl) | (rw [PT.len]; kernel_rfl) | (rw [a0w]; kernel_rfl) | (simp only [List.length_append, a0a]; kernel_rfl) | (simp only [List.length_append, a0a, PT.len, a0w]; kernel_rfl)) rfl) rfl ⟨rfl, hfr⟩
theorem i0S (m : Md) (hk : KindOf 1 m) (a : Option Addr) (n c : Nat) (l : List UInt8) (w : World) (hb : RdB w a n l) (h32 : l.length = 32) (r : Bool) (hlt : decide (beN l < m.M) = r) :
  Calls Tryz.prog 83 #[.slice a n c] w fun e w' => e = .returned (.tuple #[i4 (beN l), .bool r]) ∧ Fr Nob w w' := by
 have HK := qH hk
 have HOK := qH hk.ok
 clear hk
 have hbl := f0u l (by omega)
 have HBL := qH hbl
 have h32' : n = 32 := by have := hb.len; omega
 subst h32'
 have HB := qH hb
 have HLT := qH hlt
 have hne : (((32 : Nat) : Int) != 32) = false := by rfl
 clear hb hbl h32 hlt
 have st0 := St.start Nob w
 go_enter Tryz.func83, Tryz.ntmps83
 go_wp2_with (with_reducible refine wSk 2 ?_)
 refine a0c st0 rfl rfl (z := zAd) (by kernel_rfl) (cw 4 0) (by rw [a0g]; rfl) ?_
 intro g2 w1 st1
 clear st0
 go_wp2_with fail
 refine (OfK HK.out _).mono ?_
 rintro e' w2 ⟨gp, rfl, hle, hm, hf2⟩
 have st2 : St Nob w w2 [(g2, cw 4 0, 111), (gp, mdL m, 187)] := st1.new hf2 hm hle
 clear st1 hf2 hm hle
 go_wp2_with fail
 refine (c0p a 32 c l _ (HB.out.still st2.fr) (by decide)).mono ?_
 rintro e' w3 ⟨rfl, hf3⟩
 have st3 := st2.keep hf3
 clear st2 hf3
 go_wp2_with (with_reducible refine wSk 6 ?_)
 refine a0c st3 rfl rfl (z := zAd) (by kernel_rfl) (cw 4 0) (by rw [a0g]; rfl) ?_
 intro g6 w4 st4
 clear st3
 go_wp2_with (with_reducible refine wSn ?_)
 refine a0d st4 2 rfl rfl rfl rfl rfl (by first | (simp only [a0a]; done) | (simp only [List.length_append, a0a, PT.len, a0w]; done)) (by first | (rw [a0a]; kernel_rfl) | (rw [PT.len]; kernel_rfl) | (rw [a0w]; kernel_rfl) | (simp only [List.length_append, a0a]; kernel_rfl) | (simp only [List.length_append, a0a, PT.len, a0w]; kernel_rfl)) (a0j _ _) ?_
 intro w5 st5
 clear st4
 go_wp2_with fail
 refine wp_region_noPanic ?_
 refine a0p (fun wx => St Nob w wx [(g2, cw 4 0, 111), (gp, mdL m, 187), (g6, cw 4 (beN l), 111)]) 7 (.t 0 (.t 1 (.w 2 (.w 3 (.w 4 (.t 5 (.r 6 (.m 7 (.w 8 .nil))))))))) (by kernel_rfl) (by kernel_rfl) st5.drew (fun _ _ _ _ _ h => h) ?_
 have hd5 := st5.drew
 clear st5
 refine a0s rfl rfl rfl rfl (cw 4 (beN l)) (fun wx hS => St.rangeL hS 2 rfl 0 _ dZl) Tryz.underlying111 rfl (by first | (rw [a0a]; kernel_rfl) | (rw [PT.len]; kernel_rfl) | (rw [a0w]; kernel_rfl) | (simp only [List.length_append, a0a]; kernel_rfl) | (simp only [List.length_append, a0a, PT.len, a0w]; kernel_rfl)) ?_
 try simp only [clL]
 refine a0s rfl rfl rfl rfl (cw 4 (beN l)) (fun wx hS => St.rangeL hS 2 rfl 0 _ dZl) Tryz.underlying111 rfl (by first | (rw [a0a]; kernel_rfl) | (rw [PT.len]; kernel_rfl) | (rw [a0w]; kernel_rfl) | (simp only [List.length_append, a0a]; kernel_rfl) | (simp only [List.length_append, a0a, PT.len, a0w]; kernel_rfl)) ?_
 try simp only [clL]
 refine a0l (v := ?_) rfl rfl (fun wx => ?_) ?_
 rotate_left 1
 ·(go_simp; with_reducible rfl)
 try simp only [clL]
 refine a0l (v := ?_) rfl rfl (fun wx => ?_) ?_
 rotate_left 1
 ·(go_simp; with_reducible rfl)
 try simp only [clL]
 refine a0l (v := ?_) rfl rfl (fun wx => ?_) ?_
 rotate_left 1
 ·(go_simp; with_reducible rfl)
 try simp only [clL]
 refine a0s rfl rfl rfl rfl (cw 4 m.M) (fun wx hS => St.rangeL hS 1 rfl 0 _ (k0J m)) Tryz.underlying111 rfl (by first | (rw [a0a]; kernel_rfl) | (rw [PT.len]; kernel_rfl) | (rw [a0w]; kernel_rfl) | (simp only [List.length_append, a0a]; kernel_rfl) | (simp only [List.length_append, a0a, PT.len, a0w]; kernel_rfl)) ?_
 try simp only [clL]
 refine a0A rfl rfl ?_
 go_simp
 refine (f0b (beN l) m.M _ HBL.out HOK.out.lt r HLT.out).mono ?_
 rintro e' w6 ⟨rfl, hf6⟩
 have st6 := hd5.keep hf6
 clear hf6
 clear hd5
 refine ⟨st6, ?_⟩
 try simp only [clL]
 refine a0o rfl rfl ?_
 refine a0h st6 0 rfl rfl rfl rfl (by first | (simp only [a0a]; done) | (simp only [List.length_append, a0a, PT.len, a0w]; done)) (by first | (rw [a0a]; kernel_rfl) | (rw [PT.len]; kernel_rfl) | (rw [a0w]; kernel_rfl) | (simp only [List.length_append, a0a]; kernel_rfl) | (simp only [List.length_append, a0a, PT.len, a0w]; kernel_rfl)) (a0j _ _) ?_
 intro w7 st7
 clear st6
 try simp only [Act.put]
 refine a0l (v := ?_) rfl rfl (fun wx => ?_) ?_
 rotate_left 1
 ·(go_simp; with_reducible rfl)
 try simp only [clL]
 refine a0i ?_
 refine NoPanic.normal ?_
 have hr := st7.at 0 rfl
 have hfr := st7.fr
 clear st7
 go_wp2_with fail
 exact bodyPost_ret (a0O rfl rfl hr Tryz.underlying111 (by first | (rw [a0a]; kernel_rfl) | (rw [PT.len]; kernel_rfl) | (rw [a0w]; kernel_rfl) | (simp only [List.length_append, a0a]; kernel_rfl) | (simp only [List.length_append, a0a, PT.len, a0w]; kernel_rfl)) rfl) rfl ⟨rfl, hfr⟩
theorem j0R {l : List UInt8} (h : b0m mQ l = true) (a : Option Addr) (n c : Nat) (w : World) (hb : RdB w a n l) : Calls Tryz.prog 83 #[.slice a n c] w fun e w' => e = .returned (.tuple #[i4 (beN l), .bool true]) ∧ Fr Nob w w' := by
 unfold b0m at h
 simp only [Bool.and_eq_true, decide_eq_true_eq] at h
 exact i0S mQ .one a n c l w hb h.1 true (decide_eq_true h.2)
theorem u0k {l : List UInt8} (h : b0m mQ l = false) (a : Option Addr) (n c : Nat) (w : World) (hb : RdB w a n l) : Calls Tryz.prog 83 #[.slice a n c] w fun e w' => (∃ N, e = .returned (.tuple #[i4 N, .bool false])) ∧ Fr Nob w w' := by
 unfold b0m at h
 by_cases h32 : l.length = 32
 ·rw [decide_eq_true h32, Bool.true_and] at h
  exact (i0S mQ .one a n c l w hb h32 false h).mono fun _ _ t => ⟨⟨_, t.1⟩, t.2⟩
 ·exact (p0s mQ .one a n c l w hb h32).mono fun _ _ t => ⟨⟨_, t.1⟩, t.2⟩
end
section
open Go.RowKit Go.Mv Mvp Mvq
theorem i0T {gp : Nat} : ((d0A mP gp gXn gYn).drop 5).take i0w.L.length = i0w.L := t0F mP gp gXn gYn
theorem l0k : (Tryz.prog.info? 22).map (fun i => (i.zero, i.size, i.bytes)) = some (some (.slice none 0 0), 1, 24) := by kernel_rfl
attribute [local irreducible] a0G lw mix cw b0q b0y b0p a0K a0r beN b0F a0U b0D a0I a0R elN mdL b0m rtN rtV b0I gXn gYn PT.L k0q j0H e0N tbL tmR tmL dbN g0S g0y k0r dig rdT c0N e0i ptL g0H e0f b0g
theorem x0w (w : World) : Calls Tryz.prog 29 #[] w fun e w' => ∃ v, e = .returned v ∧ Own w' w.heap.size 5 1 v 33 (bs (b0g i0w.pt)) ∧ Fr Nob w w' := by
 go_enter Tryz.func29, Tryz.ntmps29
 go_wp2_with fail
 refine (f0M _).mono ?_
 rintro e w1 ⟨gc, rfl, hle, hcv, hf1⟩
 have HCV := qH hcv
 have HF1 := qH hf1
 clear hle hcv hf1
 go_wp2_with fail
 refine (f0M _).mono ?_
 rintro e w2 ⟨gd, rfl, hle, ⟨gq, hc2, hm2⟩, hf2⟩
 have HCV2 := qH (HCV.out.keep hf2)
 have HF2 := qH (HF1.out.then hf2)
 clear hle hm2 hf2 HCV HF1
 go_wp2_with (with_reducible refine wSk 5 ?_)
 refine g0P rfl rfl Tryz.underlying117 rfl rfl (cs := i0w.L) (fun i v hv => hc2.range 5 _ i0T i v hv) (by rw [PT.len]; kernel_rfl) ?_
 clear hc2
 go_wp2_with fail
 refine (m0H i0w gc _ HCV2.out).mono ?_
 rintro e w3 ⟨v, rfl, hown, hf3⟩
 have h3 := HF2.out.then hf3
 have ho := hown.mono HF2.out.size
 clear hown hf3 HF2 HCV2
 go_wp2_with fail
 go_ret
 exact ⟨v, rfl, ho, h3⟩
end
end Go.Proofs.YtemcankmggmgoaaGreat
namespace Mvq
theorem l0l : ∀ (l : List (Nat × Pt)) (n : Nat) (p : Pt), (∀ t ∈ l, onC t.2) → onC p → g0w (l ++ [(n, p)]) = a0L (g0w l) (a0V n p)
 | [], n, p, _, _ => by show a0L (a0V n p) .O = a0L .O (a0V n p); rw [b0C]; rfl
 | (k, q) :: l, n, p, h, hp => by
  have hl : ∀ t ∈ l, onC t.2 := fun t ht => h t (List.mem_cons_of_mem _ ht)
  show a0L (a0V k q) (g0w (l ++ [(n, p)])) = a0L (a0L (a0V k q) (g0w l)) (a0V n p)
  rw [l0l l n p hl hp, a0Y (b0b (h (k, q) (by simp)) k) (h0F l hl) (b0b hp n)]
end Mvq
namespace Go.Proofs.YtemcankmggmgoaaGreat
open Go.RowKit Go.Mv Mvp Mvq
noncomputable def l0Y (l : List (Nat × PT)) : List (Nat × Pt) := l.map fun t => (t.1, t.2.pt)
theorem r0z (l : List (Nat × PT)) : ∀ t ∈ l0Y l, onC t.2 := by
 intro t ht
 obtain ⟨u, _, rfl⟩ := List.mem_map.1 ht
 exact u.2.onP
theorem r0A (l : List (Nat × PT)) (i : Nat) (o : PT) : ∀ k, k ≤ l.length → (g0S l i o k).pt = a0L o.pt (g0w ((l0Y (l.take k)).map fun t => (dig (63 - i) t.1, t.2)))
 | 0, _ => by show o.pt = a0L o.pt .O; rw [b0C]
 | k + 1, h => by
  have ih := r0A l i o k (by omega)
  have hk : k < l.length := by omega
  have e : l.take (k + 1) = l.take k ++ [g0x l k] := by
   rw [List.take_succ_eq_append_getElem hk]
   simp [g0x, List.getD_eq_getElem?_getD, hk]
  have hon : ∀ t ∈ (l0Y (l.take k)).map (fun t => (dig (63 - i) t.1, t.2)), onC t.2 := by
   intro t ht
   obtain ⟨u, hu, rfl⟩ := List.mem_map.1 ht
   exact r0z _ u hu
  rw [e, l0Y, List.map_append, List.map_append, ← l0Y]
  show (k0q (g0S l i o k) (e0N (g0x l k).2 (dig (63 - i) (g0x l k).1))).pt = a0L o.pt (g0w ((l0Y (l.take k)).map (fun t => (dig (63 - i) t.1, t.2)) ++ [(dig (63 - i) (g0x l k).1, (g0x l k).2.pt)]))
  rw [r0g, r0k, ih, l0l _ _ _ hon (g0x l k).2.onP, a0Y o.onP (h0F _ hon) (b0b (g0x l k).2.onP _)]
theorem r0B (l : List (Nat × PT)) (hn : ∀ t ∈ l, t.1 < 16 ^ 64) : ∀ i, i ≤ 64 → (g0y l i).pt = g0w (q0e (64 - i) (l0Y l))
 | 0, _ => by
  show noT.pt = _
  rw [r0i]
  have : ∀ l : List (Nat × PT), (∀ t ∈ l, t.1 < 16 ^ 64) → g0w (q0e 64 (l0Y l)) = .O := by
   intro l
   induction l with
   | nil => intro _; rfl
   | cons t l ih =>
    intro h
    show a0L (a0V (t.1 / 16 ^ 64) t.2.pt) (g0w (q0e 64 (l0Y l))) = .O
    rw [Nat.div_eq_of_lt (h t (by simp)), ih fun u hu => h u (List.mem_cons_of_mem _ hu)]
    rfl
  exact (this l hn).symm
 | i + 1, h => by
  have ih := r0B l hn i (by omega)
  show (g0S l i (dbN (g0y l i) 4) l.length).pt = _
  rw [r0A l i _ l.length (Nat.le_refl _), z0m _ rfl, ih, List.take_of_length_le (Nat.le_refl _)]
  have := l0a (63 - i) (l0Y l) (r0z l)
  rw [show 63 - i + 1 = 64 - i by omega] at this
  rw [show 64 - (i + 1) = 63 - i by omega]
  exact this.symm
theorem x0x (l : List (Nat × PT)) (hn : ∀ t ∈ l, t.1 < 16 ^ 64) : (k0r l).pt = g0w (l0Y l) := by
 have h := r0B l hn 64 (Nat.le_refl _)
 rw [Nat.sub_self] at h
 have e : q0e 0 (l0Y l) = l0Y l := by
  unfold q0e
  conv => rhs; rw [← List.map_id (l0Y l)]
  refine List.map_congr_left fun t _ => ?_
  show (t.1 / 16 ^ 0, t.2) = t
  rw [Nat.pow_zero, Nat.div_one]
 rw [e] at h
 exact h
theorem Own.part {w : World} {base : Nat} {v : Value} {l : List UInt8} (h : Own w base 5 1 v l.length (bs l)) : BPart w v l := by
 obtain ⟨a, c, rfl, hc, hr, -⟩ := h.form
 exact ⟨a, _, c, rfl, hc, by rwa [Nat.mul_one] at hr⟩
def OwnB1 (w w' : World) (v : Value) (l : List UInt8) : Prop := Own w' w.heap.size 5 1 v l.length (bs l)
theorem OwnB1.part {w w' : World} {v : Value} {l : List UInt8} (h : OwnB1 w w' v l) : BPart w' v l := Own.part h
theorem OwnB1.nil (w w' : World) : OwnB1 w w' (.slice none 0 0) [] := Own.nil _ _ _ _
theorem OwnB1.of {w w' : World} {v : Value} {l : List UInt8} {n : Nat} (h : Own w' w.heap.size 5 1 v n (bs l)) (hn : l.length = n) : OwnB1 w w' v l := by subst hn; exact h
theorem q16 : mQ.M < 16 ^ 64 := by decide
noncomputable def tS (lk la : List UInt8) : List UInt8 := if b0m mQ lk && c0N la then b0g (a0V (beN lk) (e0i la)) else []
def tC (lk la : List UInt8) : Int := if b0m mQ lk then (if c0N la then 0 else 4) else 3
theorem o0k {l : List UInt8} (h : b0m mQ l = true) : beN l < mQ.M := by
 unfold b0m at h
 simp only [Bool.and_eq_true, decide_eq_true_eq] at h
 exact h.2
def gP : Pt := .A (kc gXn) (kc gYn)
theorem x0y (w : World) : Calls Tryz.prog 29 #[] w fun e w' => ∃ v, e = .returned v ∧ OwnB1 w w' v (b0g gP) ∧ Fr Nob w w' :=
 (x0w w).mono fun e w' ⟨v, k1, k2, k3⟩ => ⟨v, k1, by rw [o0a] at k2; exact OwnB1.of k2 (f0K _), k3⟩
end Go.Proofs.YtemcankmggmgoaaGreat
namespace Go.Mv
open Go.RowKit
theorem p0t (A F B cs : List Value) (n off : Nat) (hA : A.length = n) (h : off + cs.length ≤ F.length) : splice (A ++ (F ++ B)) (n + off) cs = A ++ (splice F off cs ++ B) := by
 subst hA
 unfold splice
 have h1 : List.take (A.length + off) (A ++ (F ++ B)) = A ++ List.take off F := by
  rw [List.take_length_add_append, List.take_append_of_le_length (by omega)]
 have h2 : List.drop (A.length + off + cs.length) (A ++ (F ++ B)) = List.drop (off + cs.length) F ++ B := by
  rw [Nat.add_assoc, List.drop_length_add_append, List.drop_append_of_le_length h]
 rw [h1, h2]
 simp [List.append_assoc]
theorem o0l (f f' : Nat → List Value) (k : Nat) (hl : ∀ i, (f i).length = k) (n i off : Nat) (cs : List Value) (h : i < n) (ho : off + cs.length ≤ k) (hi : f' i = splice (f i) off cs) (hv : ∀ j, j ≠ i → f' j = f j) : splice ((List.range n).flatMap f) (i * k + off) cs = (List.range n).flatMap f' := by
 have hlen : (splice (f i) off cs).length = k := by
  unfold splice
  simp only [List.length_append, List.length_take, List.length_drop, hl]
  omega
 have e := o0c f f' k hl n i h (by rw [hi]; exact hlen) hv
 rw [← e, hi, e0I f n i h, p0t _ _ _ cs (i * k) off (by rw [c0Y f k hl, Nat.mul_comm]) (by rw [hl]; exact ho), i0Q _ _ _ _ (i * k) (by rw [c0Y f k hl, Nat.mul_comm]) (by rw [hlen, hl])]
end Go.Mv
namespace Go.Proofs.YtemcankmggmgoaaGreat
section
open Go.RowKit Go.Mv Mvp Mvq
noncomputable def tmF (n : Nat) (a : Nat → Nat) (T : Nat → List Value) : List Value := (List.range n).flatMap fun i => cw 4 (a i) ++ T i
def upN {α : Type} (a : Nat → α) (k : Nat) (x : α) : Nat → α := fun i => if i = k then x else a i
theorem r0C (a : Nat → Nat) (T : Nat → List Value) (hT : ∀ i, (T i).length = 192) (i : Nat) : (cw 4 (a i) ++ T i).length = 196 := by rw [List.length_append, a0a, hT]
theorem r0D (n : Nat) (a : Nat → Nat) (T : Nat → List Value) (hT : ∀ i, (T i).length = 192) : (tmF n a T).length = n * 196 := by
 rw [Nat.mul_comm]; exact c0Y _ 196 (r0C a T hT) n
theorem u0l (n : Nat) (a : Nat → Nat) (T : Nat → List Value) (hT : ∀ i, (T i).length = 192) (k x : Nat) (h : k < n) : splice (tmF n a T) (k * 196) (cw 4 x) = tmF n (upN a k x) T := by
 have := o0l (fun i => cw 4 (a i) ++ T i) (fun i => cw 4 (upN a k x i) ++ T i) 196 (r0C a T hT) n k 0 (cw 4 x) h (by rw [a0a]; omega)
  (by
   show cw 4 (upN a k x k) ++ T k = _
   unfold upN splice
   rw [if_pos rfl, Nat.zero_add, a0a, List.drop_append_of_le_length (by rw [a0a]; omega), List.drop_of_length_le (by rw [a0a]; omega)]
   rfl)
  (fun j hj => by show cw 4 (upN a k x j) ++ T j = _; unfold upN; rw [if_neg hj])
 rw [Nat.add_zero] at this
 exact this
theorem u0m (n : Nat) (a : Nat → Nat) (T : Nat → List Value) (hT : ∀ i, (T i).length = 192) (k : Nat) (t : List Value) (ht : t.length = 192) (h : k < n) : splice (tmF n a T) (k * 196 + 4) t = tmF n a (upN T k t) :=
 o0l (fun i => cw 4 (a i) ++ T i) (fun i => cw 4 (a i) ++ upN T k t i) 196 (r0C a T hT) n k 4 t h (by rw [ht]; omega)
  (by
   show cw 4 (a k) ++ upN T k t k = _
   unfold upN splice
   rw [if_pos rfl, List.take_append_of_le_length (by rw [a0a]; omega), List.take_of_length_le (by rw [a0a]; omega), List.drop_of_length_le (by rw [List.length_append, a0a, hT, ht]; omega), List.append_nil])
  (fun j hj => by show cw 4 (a j) ++ upN T k t j = _; unfold upN; rw [if_neg hj])
theorem e0y (n : Nat) (a a' : Nat → Nat) (T T' : Nat → List Value) (h : ∀ i, i < n → a i = a' i ∧ T i = T' i) : tmF n a T = tmF n a' T' := by
 unfold tmF
 rw [List.flatMap_def, List.flatMap_def]
 congr 1
 exact List.map_congr_left fun i hi => by obtain ⟨h1, h2⟩ := h i (List.mem_range.1 hi); rw [h1, h2]
theorem u0n (n : Nat) : List.replicate (n * 196) (Value.int .u64 0) = tmF n (fun _ => 0) (fun _ => cw 192 0) := by
 unfold tmF
 induction n with
 | zero => rfl
 | succ n ih =>
  rw [List.range_succ, List.flatMap_append, ← ih, Nat.succ_mul, ← List.replicate_append_replicate]
  congr 1
  simp only [List.flatMap_cons, List.flatMap_nil, List.append_nil, a0g]
  rw [List.replicate_append_replicate]
theorem x0z (l : List (Nat × PT)) : tmF l.length (fun i => (g0x l i).1) (fun i => tbL (g0x l i).2 16) = tmL l := rfl
end
section
open Go.RowKit Go.Mv Mvp Mvq
noncomputable def tkT (ls : List (List UInt8)) (k : Nat) : Nat → List Value := fun i => if i < k then tbL (rdT (ls.getD i [])) 16 else cw 192 0
theorem r0E (ls : List (List UInt8)) (k i : Nat) : (tkT ls k i).length = 192 := by
 unfold tkT
 split
 ·exact b0U _ _
 ·exact a0a _ _
noncomputable def l0Z (a : Nat → Nat) (ls : List (List UInt8)) : List (Nat × PT) := (List.range ls.length).map fun i => (a i, rdT (ls.getD i []))
theorem o0m (a : Nat → Nat) (ls : List (List UInt8)) : (l0Z a ls).length = ls.length := by simp [l0Z]
theorem x0A (a : Nat → Nat) (ls : List (List UInt8)) (i : Nat) (h : i < ls.length) : g0x (l0Z a ls) i = (a i, rdT (ls.getD i [])) := by
 unfold g0x l0Z
 rw [List.getD_eq_getElem?_getD, List.getElem?_map, List.getElem?_range h]
 rfl
theorem u0o (a : Nat → Nat) (ls : List (List UInt8)) : tmF ls.length a (tkT ls ls.length) = tmL (l0Z a ls) := by
 rw [← x0z, o0m]
 refine e0y _ _ _ _ _ fun i hi => ?_
 rw [x0A a ls i hi]
 refine ⟨rfl, ?_⟩
 unfold tkT
 rw [if_pos hi]
theorem u0p (n : Nat) (a : Nat → Nat) (ls : List (List UInt8)) : tmF n a (fun _ => cw 192 0) = tmF n a (tkT ls 0) := e0y _ _ _ _ _ fun i _ => ⟨rfl, by unfold tkT; rw [if_neg (Nat.not_lt_zero _)]⟩
theorem x0B (n : Nat) (a : Nat → Nat) (ls : List (List UInt8)) (k : Nat) (h : k < n) (l : List UInt8) (hl : ls.getD k [] = l) : splice (tmF n a (tkT ls k)) (k * 196 + 4) (tbL (rdT l) 16) = tmF n a (tkT ls (k + 1)) := by
 subst hl
 rw [u0m n a _ (r0E ls k) k _ (b0U _ _) h]
 refine e0y _ _ _ _ _ fun i _ => ⟨rfl, ?_⟩
 unfold upN tkT
 by_cases e : i = k
 ·rw [if_pos e, if_pos (by omega), e]
 ·rw [if_neg e]
  by_cases e2 : i < k
  ·rw [if_pos e2, if_pos (by omega)]
  ·rw [if_neg e2, if_neg (by omega)]
theorem z0t {w : World} {gT : Nat} {a : Nat → Nat} {ls : List (List UInt8)} {T : TypeId} (h : Has w gT (tmF ls.length a (tkT ls ls.length)) T) : Rd w (some ⟨gT, 0, none⟩) ((l0Z a ls).length * 196) (tmL (l0Z a ls)) := by
 rw [u0o] at h
 have := Rd.whole h
 rwa [x0n] at this
theorem w0a (w : World) : Calls Tryz.prog 86 #[] w fun e w' => ∃ gc, e = .returned (.pointer (some ⟨gc, 0, none⟩)) ∧ Cv w' gc ∧ Fr Nob w w' :=
 (f0M w).mono fun _ _ ⟨gc, k1, _, k2, k3⟩ => ⟨gc, k1, k2, k3⟩
attribute [local irreducible] a0G lw mix cw b0q b0y b0p a0K a0r beN b0F a0U b0D a0I a0R elN mdL b0m rtN rtV b0I gXn gYn PT.L k0q j0H e0N tbL tmR tmL dbN g0S g0y k0r dig rdT c0N e0i ptL g0H e0f b0g tmF upN
theorem z0u (n : Nat) (a : Nat → Nat) (ls : List (List UInt8)) (hls : ls.length = n) (hn : n ≤ 100000) (gb gT : Nat) (w : World) (hne : gb ≠ gT) (hgb : Has w gb [.slice (some ⟨gT, 0, none⟩) n n] 199) (hgt : Has w gT (tmF n a fun _ => cw 192 0) 147)
  (ap : Option Addr) (cp : Nat) (hoff : Off (One gT) ap) (hre : Rd w ap (ls.length * 12) (g0H ls)) :
  Calls Tryz.prog 181 #[.slice ap n cp, .pointer (some ⟨gb, 0, none⟩)] w fun e w' => e = .returned (.agg (k0r (l0Z a ls)).L.toArray) ∧ Fr (One gT) w w' := by
 rw [u0p n a ls] at hgt
 have HLS := qH hls
 have HN := qH hn
 have hnI : (n : Int) ≤ 100000 := by omega
 have HNE := qH (show ¬ One gT gb from hne)
 have HGB := qH hgb
 have HGT := qH hgt
 have HOFF := qH hoff
 have HRE := qH hre
 clear hls hne hgb hgt hoff hre hn
 have st0 := St.one HGT.out
 go_enter Tryz.func181, Tryz.ntmps181
 go_wp2_with (with_reducible refine wSk 3 ?_)
 refine a0c st0 rfl rfl (z := .agg (List.replicate 12 (.int .u64 0)).toArray) (by kernel_rfl) (cw 12 0) (by rw [a0g]; rfl) ?_
 intro g3 w1 st1
 clear st0
 go_wp2
 go_loopw [8] (fun x wr => ∃ k : Nat, k ≤ n ∧ x = .int .i64 (k : Int) ∧ St (One gT) w wr [(gT, tmF n a (tkT ls k), 147), (g3, cw 12 0, 117)]) (fun x _ => n - (intOf x).toNat)
 case atStart => exact ⟨0, Nat.zero_le _, rfl, st1⟩
 case round =>
  obtain ⟨k, hk, rfl, st⟩ := hrel
  clear st1
  by_cases hlt : k < n
  ·have hltI : (k : Int) < (n : Int) := by omega
   obtain ⟨ba, oa, hea, -⟩ := HRE.out.at (by have := HLS.out; omega)
   subst hea
   have hk0 : (0 : Int) ≤ (k : Int) := by omega
   have hpa := x0v ls k (by rw [HLS.out]; exact hlt)
   generalize hl : ls.getD k [] = l at *
   have HLL := qH hl
   have HPA := qH hpa
   clear hl hpa
   have HLT := qH hlt
   have HLK := qH (show k < ls.length by rw [HLS.out]; exact hlt)
   clear hlt
   go_wp2_with (with_reducible refine wSk 12 ?_)
   refine g0P rfl rfl Tryz.underlying117 rfl rfl (y0O (HRE.out.keep st.fr HOFF.out) (k * 12) ((rdT l).L) HPA.out) (by first | (rw [a0a]; kernel_rfl) | (simp only [PT.len]; kernel_rfl)) ?_
   go_wp2_with (with_reducible refine wSk 5 ?_)
   refine a0c st rfl rfl (z := .agg (List.replicate 12 (.int .u64 0)).toArray) (by kernel_rfl) (cw 12 0) (by rw [a0g]; rfl) ?_
   intro g5 w2 st2
   clear st
   go_wp2_with (with_reducible refine wSn ?_)
   refine a0d st2 2 rfl rfl rfl rfl rfl (by first | (simp only [a0a]; done) | (simp only [a0a, PT.len]; done)) (by first | (rw [a0a]; kernel_rfl) | (simp only [PT.len]; kernel_rfl)) (PT.one _) ?_
   intro w3 st3
   clear st2
   go_wp2_with fail
   refine wp_region_noPanic ?_
   refine a0f st3 7 [.t 0, .w 1, .t 3, .c 2, .c 4, .w 5, .w 6] (.m 7 .nil) (by kernel_rfl) (by kernel_rfl) (fun _ _ _ _ _ h => h) ?_
   clear st3
   refine a0Z (v := ?_) rfl rfl (fun xq wx hS => ?_) ?_
   rotate_left 1
   ·(have hc := (HGB.out.keep (St.fr hS) HNE.out).cell (show [Value.slice (some ⟨gT, 0, none⟩) n n][0]? = _ from rfl); clear hS; go_simp; with_reducible rfl)
   try simp only [clL]
   refine a0n (v := ?_) rfl rfl (fun xq wx => ?_) ?_
   rotate_left 1
   ·(go_simp; with_reducible rfl)
   try simp only [clL]
   refine a0e rfl rfl rfl (fun _ => rfl) ((rdT l).L) (fun wx hS => St.rangeL hS 2 rfl 0 _ dZl) Tryz.underlying117 rfl (by first | (rw [a0a]; kernel_rfl) | (simp only [PT.len]; kernel_rfl)) ?_
   try simp only [clL]
   refine c0c (X := Nat) (fun gc => .pointer (some ⟨gc, 0, none⟩)) (fun gc w => Cv w gc) (fun _ _ _ h k => h.keep k) rfl rfl rfl Tryz.call86 (fun w hS hR => w0a _) (fun _ => rfl) fun gc => ?_
   try simp only [clL]
   refine a0b rfl rfl rfl Tryz.call99 (fun w hS hR => m0E (rdT l) gc _ hR.2) (fun _ => rfl) ?_
   try simp only [clL]
   refine a0n (v := ?_) rfl rfl (fun xq wx => ?_) ?_
   rotate_left 1
   ·(go_simp; with_reducible rfl)
   try simp only [clL]
   refine a0n (v := ?_) rfl rfl (fun xq wx => ?_) ?_
   rotate_left 1
   ·(go_simp; with_reducible rfl)
   try simp only [clL]
   refine a0t fun xq w4 st4 hR => ?_
   try dsimp only
   clear hR xq
   refine a0o rfl rfl ?_
   refine h0I st4 0 rfl rfl rfl rfl (tmF n a (tkT ls (k + 1))) (x0B n a ls k HLT.out l HLL.out) (by rw [r0D n a _ (r0E ls k), b0U]; have := HLT.out; omega) (by first | (rw [a0a]; kernel_rfl) | (simp only [b0U]; kernel_rfl)) (r0l _ _) ?_
   intro w5 st5
   have st5 : St (One gT) w w5 [(gT, tmF n a (tkT ls (k + 1)), 147), (g3, cw 12 0, 117), (g5, (rdT l).L, 117)] := st5
   clear st4
   try simp only [Act.put]
   refine a0i ?_
   refine NoPanic.normal ?_
   go_wp2_with fail
   go_roundw
   case rel => exact ⟨k + 1, by have := HLT.out; omega, by go_num, St.less st5 (by simp)⟩
   case measure => have := HLT.out; simp [intOf]; omega
  ·have hltI : ¬ ((k : Int) < (n : Int)) := by omega
   have hkn : k = ls.length := by rw [HLS.out]; omega
   have hnl : n = ls.length := HLS.out.symm
   subst hkn
   have HNL := qH hnl
   clear hnl
   have hHT := st.at 0 rfl
   clear hHT
   go_wp2_with fail
   refine wp_region_noPanic ?_
   refine a0f st 3 [.t 1, .c 0, .c 2] (.m 3 .nil) (by kernel_rfl) (by kernel_rfl) (fun _ _ _ _ _ h => h) ?_
   clear st
   refine a0Z (v := ?_) rfl rfl (fun xq wx hS => ?_) ?_
   rotate_left 1
   ·(have hc := (HGB.out.keep (St.fr hS) HNE.out).cell (show [Value.slice (some ⟨gT, 0, none⟩) n n][0]? = _ from rfl); clear hS; go_simp; with_reducible rfl)
   try simp only [clL]
   refine c0c (X := Nat) (fun gc => .pointer (some ⟨gc, 0, none⟩)) (fun gc w => Cv w gc) (fun _ _ _ h k => h.keep k) rfl rfl rfl Tryz.call86 (fun w hS hR => w0a _) (fun _ => rfl) fun gc => ?_
   try simp only [clL]
   refine a0b rfl rfl rfl Tryz.call98 (fun w hS hR => A0A (l0Z a ls) gc (some ⟨gT, 0, none⟩) n n _ hR.2 (by rw [o0m]; exact HLS.out) HN.out (z0t (by have h := St.at hS 0 rfl; rw [HNL.out] at h; exact h))) (fun _ => rfl) ?_
   try simp only [clL]
   refine a0t fun xq w2 st2 hR => ?_
   try dsimp only
   clear hR xq
   refine a0o rfl rfl ?_
   refine a0h st2 1 rfl rfl rfl rfl (by first | (simp only [a0a]; done) | (simp only [a0a, PT.len]; done)) (by first | (rw [a0a]; kernel_rfl) | (simp only [PT.len]; kernel_rfl)) (PT.one _) ?_
   intro w3 st3
   try simp only [List.set_cons_zero, List.set_cons_succ] at st3
   clear st2
   try simp only [Act.put]
   refine a0i ?_
   refine NoPanic.normal ?_
   have hr := st3.at 1 rfl
   have hfr := st3.fr
   clear st3
   go_wp2_with fail
   exact bodyPost_ret (a0x rfl rfl hr Tryz.underlying117 rfl (by first | (rw [a0a]; kernel_rfl) | (simp only [PT.len]; kernel_rfl))) rfl ⟨rfl, hfr⟩
end
end Go.Proofs.YtemcankmggmgoaaGreat
namespace Go.Mv
open Go.RowKit
theorem Has.neT {w : World} {g g' : Nat} {L L' : List Value} {T T' : TypeId} (h : Has w g L T) (k : Has w g' L' T') (hT : T ≠ T') : g ≠ g' := by
 rintro rfl
 obtain ⟨_, _, h1, _⟩ := h
 obtain ⟨_, _, h2, _⟩ := k
 rw [h1] at h2
 simp only [Option.some.injEq, Obj.cells.injEq] at h2
 exact hT h2.2.1
end Go.Mv
namespace Go.Proofs.YtemcankmggmgoaaGreat
open Go.RowKit Go.Mv Mvp Mvq
theorem Cv.keepT {w w' : World} {gc gT : Nat} {L : List Value} (h : Cv w gc) (hT : Has w gT L 147) (hf : Fr (One gT) w w') : Cv w' gc := by
 obtain ⟨gp, h1, h2⟩ := h
 exact ⟨gp, h1.keep hf (fun e => h1.neT hT (by decide) e), h2.keep hf (fun e => h2.neT hT (by decide) e)⟩
attribute [local irreducible] a0G lw mix cw b0q b0y b0p a0K a0r beN b0F a0U b0D a0I a0R elN mdL b0m rtN rtV b0I gXn gYn PT.L k0q j0H e0N tbL tmR tmL dbN g0S g0y k0r dig rdT c0N e0i ptL g0H e0f b0g
theorem m0I (gk : Nat) (al : Option Addr) (n cl : Nat) (vs : List Value) (ls : List (List UInt8)) (w : World) (hv : Rd w al n vs) (hp : BParts w vs ls) (hn : n ≤ 100000) (hg : e0f ls = true) (gT : Nat) (LT : List Value) (hgt : Has w gT LT 147) (t : PT) (hop : ∀ ap cp wx, Fr Nob w wx → Off (One gT) ap → Rd wx ap (ls.length * 12) (g0H ls) → Calls Tryz.prog 181 #[.slice ap ls.length cp, .pointer (some ⟨gk, 0, none⟩)] wx fun e w' => e = .returned (.agg t.L.toArray) ∧ Fr (One gT) wx w') :
  Calls Tryz.prog 84 #[.func (.func 181) #[] #[.pointer (some ⟨gk, 0, none⟩)], .slice al n cl] w fun e w' => ∃ sv, e = .returned (.tuple #[sv, .int .i64 0]) ∧ Own w' w.heap.size 5 1 sv 33 (bs (b0g t.pt)) ∧ Fr (One gT) w w' := by
 have HV := qH hv
 have HP := qH hp
 have HL := qH (show ls.length = n by rw [← hp.1, hv.len])
 have HN := qH hn
 have hnI : (n : Int) ≤ 100000 := by omega
 clear hv hp
 have HOP := qH hop
 have HGA := qH hg
 have HGT := qH hgt
 clear hop hg hgt
 go_enter Tryz.func84, Tryz.ntmps84
 go_wp2
 go_loopw [6, 13] (fun v i wr => ∃ k : Nat, k ≤ n ∧ i = .int .i64 (k : Int) ∧ e0f (ls.take k) = true ∧ Own wr w.heap.size 117 12 v k (g0H (ls.take k)) ∧ Fr Nob w wr) (fun _ i _ => n - (intOf i).toNat)
 case atStart => exact ⟨0, Nat.zero_le _, rfl, by rw [List.take_zero]; unfold e0f; rfl, by rw [List.take_zero]; unfold g0H; exact Own.nil _ _ _ _, Fr.refl _ _⟩
 case round =>
  obtain ⟨k, hk, rfl, hgood, hown, hf⟩ := hrel
  by_cases hlt : k < n
  ·have hltI : (k : Int) < (n : Int) := by omega
   obtain ⟨b, o, rfl, hat⟩ := (HV.out.still hf).at (by omega)
   have hvl : k < vs.length := by rw [HV.out.len]; exact hlt
   obtain ⟨a, nn, c, hve, hcc, hrd⟩ := HP.out.2 k (vs[k]'hvl) (List.getElem?_eq_getElem hvl)
   have hc1 := hat k _ (List.getElem?_eq_getElem hvl)
   rw [hve] at hc1
   have hlk : k < ls.length := by rw [HL.out]; exact hlt
   have hts := l0j ls k hlk
   have hcs : g0H (ls.take (k + 1)) = g0H (ls.take k) ++ (rdT (ls.getD k [])).L := by
    rw [List.take_succ_eq_append_getElem hlk, l0i]
    simp [List.getD_eq_getElem?_getD, hlk]
   have hbad := o0j ls k hlk
   generalize hL : ls.getD k [] = l at *
   have HLL := qH hL
   have HRD := qH (hrd.still hf)
   have HTS := qH hts
   have HCS := qH hcs
   have HBAD := qH hbad
   have HG := qH hgood
   have HOWN := qH hown
   have HF := qH hf
   have HCC := qH hcc
   clear hL hrd hts hcs hbad hgood hown hf hat hve hcc
   have st0 := St.start Nob wr
   have HK := qH (show c0N l = true by
    cases hh : c0N l
    ·have := HBAD.out hh
     rw [HGA.out] at this
     cases this
    ·rfl)
   skip
   go_wp2_with fail
   refine (f0M _).mono ?_
   rintro e' w1 ⟨gc, rfl, hle, hcv, hf1⟩
   have st1 := st0.keep hf1
   have HCV := qH hcv
   clear hcv hle
   clear st0 hf1
   go_wp2_with fail
   refine (v0Z l HK.out gc a nn c _ HCV.out (HRD.out.still st1.fr) HCC.out).mono ?_
   rintro e' w2 ⟨rfl, hf2⟩
   have st2 := st1.keep hf2
   clear st1 hf2
   go_wp2_with (with_reducible refine wSk 9 ?_)
   refine a0c st2 rfl rfl (z := .agg (List.replicate 12 (.int .u64 0)).toArray) (by kernel_rfl) (cw 12 0) (by rw [a0g]; rfl) ?_
   intro g9 w3 st3
   clear st2
   go_wp2_with (with_reducible refine wSn ?_)
   refine a0d st3 0 rfl rfl rfl rfl rfl (by first | (simp only [a0a]; done) | (simp only [a0a, PT.len]; done)) (by first | (rw [a0a]; kernel_rfl) | (simp only [PT.len]; kernel_rfl)) (PT.one _) ?_
   intro w4 st4
   clear st3
   have HFS := qH st4.fr
   go_wp2_with (with_reducible refine wSk 26 ?_)
   refine a0q st4 0 rfl rfl rfl Tryz.underlying117 rfl rfl (by first | (rw [a0a]; kernel_rfl) | (simp only [PT.len]; kernel_rfl)) ?_
   clear st4
   go_wp2_with (with_reducible refine wSk 27 ?_)
   refine n0P rfl rfl Tryz.underlying115 j0Q [.agg (rdT l).L.toArray] rfl (by simp [Value.cells, PT.len]) rfl ((rdT l).L) (by simp [Value.cells]) ?_
   intro wA hgA hfA hzA
   clear hzA
   have hfrA := HFS.out.then hfA
   have hsz := HF.out.size
   have hsz2 := hfrA.size
   have hownA := HOWN.out.still hfrA
   have hrdA : Rd wA (some ⟨w4.heap.size, 0, none⟩) (1 * 12) ((rdT l).L) := by
    have := Rd.whole hgA
    rwa [PT.len] at this
   have HRDA := qH hrdA
   have HOWNA := qH hownA
   have HFRA := qH hfrA
   clear hgA hfA hrdA hownA hfrA
   generalize w4.heap.size = gA at *
   go_wp2_with (with_reducible refine wSk 28 ?_)
   refine e0k rfl rfl Tryz.underlying115 j0Q rfl (by decide) HOWNA.out rfl rfl HRDA.out (PT.one _) (by unfold maxLen; omega) (by omega) (by omega) ?_
   intro vB wB hownB hfB hbB
   clear hbB
   have hfrB := HOWNA.out.fr (HF.out.then HFRA.out) (Nat.le_refl _) hfB
   have HFRB := qH hfrB
   rw [← HCS.out] at hownB
   have HOWNB := qH hownB
   clear hfrB hownB hfB
   go_wp2_with fail
   go_roundw
   case rel => exact ⟨k + 1, by omega, by go_num, by rw [HTS.out, HG.out, HK.out]; rfl, HOWNB.out, HFRB.out⟩
   case measure => simp [intOf]; omega
  ·have hge : ¬ ((k : Int) < (n : Int)) := by omega
   have hkn : k = ls.length := by rw [HL.out]; omega
   rw [hkn, List.take_of_length_le (Nat.le_refl _)] at hgood hown
   obtain ⟨ap, cp, rfl, -, hre, hbase⟩ := hown.form
   have HOFF := qH (show Off (One gT) ap from fun x hx he => by have h1 := hbase x hx; have h2 := HGT.out.lt; have h3 : x.block = gT := he; omega)
   clear hbase
   have HRE := qH hre
   have HF := qH hf
   clear hkn hgood hown hf hre
   go_wp2_with fail
   refine (f0M _).mono ?_
   rintro e w1 ⟨gc, rfl, hle, hcv, hf1⟩
   have HCV := qH hcv
   have HF1 := qH (HF.out.then hf1)
   have HRE1 := qH (HRE.out.still hf1)
   clear hle hcv hf1 HF HRE
   go_wp2_with fail
   refine (HOP.out ap cp _ HF1.out HOFF.out HRE1.out).mono ?_
   rintro e w2 ⟨rfl, hf2⟩
   have HCV2 := qH (HCV.out.keepT (HGT.out.keep HF1.out id) hf2)
   have HF2 := qH ((HF1.out.mono (fun _ _ t => t.elim)).trans hf2 (fun _ _ t => t))
   clear hf2 HF1 HRE1 HCV
   go_wp2_with fail
   refine (m0H t gc _ HCV2.out).mono ?_
   rintro e w3 ⟨sv, rfl, hown3, hf3⟩
   have h2 := HF2.out.same hf3
   have ho := hown3.mono HF2.out.size
   clear hown3 hf3 HF2 HCV2
   go_wp2_with fail
   go_ret2
   exact ⟨sv, rfl, ho, h2⟩
theorem l0m (gk : Nat) (al : Option Addr) (n cl : Nat) (vs : List Value) (ls : List (List UInt8)) (w : World) (hv : Rd w al n vs) (hp : BParts w vs ls) (hn : n ≤ 100000) (hg : e0f ls = false) :
  Calls Tryz.prog 84 #[.func (.func 181) #[] #[.pointer (some ⟨gk, 0, none⟩)], .slice al n cl] w fun e w' => e = .returned (.tuple #[.slice none 0 0, .int .i64 4]) ∧ Fr Nob w w' := by
 have HV := qH hv
 have HP := qH hp
 have HL := qH (show ls.length = n by rw [← hp.1, hv.len])
 have HN := qH hn
 have hnI : (n : Int) ≤ 100000 := by omega
 clear hv hp
 have HGA := qH hg
 clear hg
 go_enter Tryz.func84, Tryz.ntmps84
 go_wp2
 go_loopw [6, 13] (fun v i wr => ∃ k : Nat, k ≤ n ∧ i = .int .i64 (k : Int) ∧ e0f (ls.take k) = true ∧ Own wr w.heap.size 117 12 v k (g0H (ls.take k)) ∧ Fr Nob w wr) (fun _ i _ => n - (intOf i).toNat)
 case atStart => exact ⟨0, Nat.zero_le _, rfl, by rw [List.take_zero]; unfold e0f; rfl, by rw [List.take_zero]; unfold g0H; exact Own.nil _ _ _ _, Fr.refl _ _⟩
 case round =>
  obtain ⟨k, hk, rfl, hgood, hown, hf⟩ := hrel
  by_cases hlt : k < n
  ·have hltI : (k : Int) < (n : Int) := by omega
   obtain ⟨b, o, rfl, hat⟩ := (HV.out.still hf).at (by omega)
   have hvl : k < vs.length := by rw [HV.out.len]; exact hlt
   obtain ⟨a, nn, c, hve, hcc, hrd⟩ := HP.out.2 k (vs[k]'hvl) (List.getElem?_eq_getElem hvl)
   have hc1 := hat k _ (List.getElem?_eq_getElem hvl)
   rw [hve] at hc1
   have hlk : k < ls.length := by rw [HL.out]; exact hlt
   have hts := l0j ls k hlk
   have hcs : g0H (ls.take (k + 1)) = g0H (ls.take k) ++ (rdT (ls.getD k [])).L := by
    rw [List.take_succ_eq_append_getElem hlk, l0i]
    simp [List.getD_eq_getElem?_getD, hlk]
   have hbad := o0j ls k hlk
   generalize hL : ls.getD k [] = l at *
   have HLL := qH hL
   have HRD := qH (hrd.still hf)
   have HTS := qH hts
   have HCS := qH hcs
   have HBAD := qH hbad
   have HG := qH hgood
   have HOWN := qH hown
   have HF := qH hf
   have HCC := qH hcc
   clear hL hrd hts hcs hbad hgood hown hf hat hve hcc
   have st0 := St.start Nob wr
   rcases Bool.eq_false_or_eq_true (c0N l) with hh | hh
   ·have HK := qH hh
    clear hh
    skip
    go_wp2_with fail
    refine (f0M _).mono ?_
    rintro e' w1 ⟨gc, rfl, hle, hcv, hf1⟩
    have st1 := st0.keep hf1
    have HCV := qH hcv
    clear hcv hle
    clear st0 hf1
    go_wp2_with fail
    refine (v0Z l HK.out gc a nn c _ HCV.out (HRD.out.still st1.fr) HCC.out).mono ?_
    rintro e' w2 ⟨rfl, hf2⟩
    have st2 := st1.keep hf2
    clear st1 hf2
    go_wp2_with (with_reducible refine wSk 9 ?_)
    refine a0c st2 rfl rfl (z := .agg (List.replicate 12 (.int .u64 0)).toArray) (by kernel_rfl) (cw 12 0) (by rw [a0g]; rfl) ?_
    intro g9 w3 st3
    clear st2
    go_wp2_with (with_reducible refine wSn ?_)
    refine a0d st3 0 rfl rfl rfl rfl rfl (by first | (simp only [a0a]; done) | (simp only [a0a, PT.len]; done)) (by first | (rw [a0a]; kernel_rfl) | (simp only [PT.len]; kernel_rfl)) (PT.one _) ?_
    intro w4 st4
    clear st3
    have HFS := qH st4.fr
    go_wp2_with (with_reducible refine wSk 26 ?_)
    refine a0q st4 0 rfl rfl rfl Tryz.underlying117 rfl rfl (by first | (rw [a0a]; kernel_rfl) | (simp only [PT.len]; kernel_rfl)) ?_
    clear st4
    go_wp2_with (with_reducible refine wSk 27 ?_)
    refine n0P rfl rfl Tryz.underlying115 j0Q [.agg (rdT l).L.toArray] rfl (by simp [Value.cells, PT.len]) rfl ((rdT l).L) (by simp [Value.cells]) ?_
    intro wA hgA hfA hzA
    clear hzA
    have hfrA := HFS.out.then hfA
    have hsz := HF.out.size
    have hsz2 := hfrA.size
    have hownA := HOWN.out.still hfrA
    have hrdA : Rd wA (some ⟨w4.heap.size, 0, none⟩) (1 * 12) ((rdT l).L) := by
     have := Rd.whole hgA
     rwa [PT.len] at this
    have HRDA := qH hrdA
    have HOWNA := qH hownA
    have HFRA := qH hfrA
    clear hgA hfA hrdA hownA hfrA
    generalize w4.heap.size = gA at *
    go_wp2_with (with_reducible refine wSk 28 ?_)
    refine e0k rfl rfl Tryz.underlying115 j0Q rfl (by decide) HOWNA.out rfl rfl HRDA.out (PT.one _) (by unfold maxLen; omega) (by omega) (by omega) ?_
    intro vB wB hownB hfB hbB
    clear hbB
    have hfrB := HOWNA.out.fr (HF.out.then HFRA.out) (Nat.le_refl _) hfB
    have HFRB := qH hfrB
    rw [← HCS.out] at hownB
    have HOWNB := qH hownB
    clear hfrB hownB hfB
    go_wp2_with fail
    go_roundw
    case rel => exact ⟨k + 1, by omega, by go_num, by rw [HTS.out, HG.out, HK.out]; rfl, HOWNB.out, HFRB.out⟩
    case measure => simp [intOf]; omega
   ·have HK := qH hh
    clear hh
    skip
    go_wp2_with fail
    refine (f0M _).mono ?_
    rintro e' w1 ⟨gc, rfl, hle, hcv, hf1⟩
    have st1 := st0.keep hf1
    have HCV := qH hcv
    clear hcv hle
    clear st0 hf1
    go_wp2_with fail
    refine (z0q l HK.out gc a nn c _ HCV.out (HRD.out.still st1.fr) HCC.out).mono ?_
    rintro e' w2 ⟨⟨X, Y, Z, rfl⟩, hf2⟩
    have st2 := st1.keep hf2
    clear st1 hf2
    go_wp2_with (with_reducible refine wSk 9 ?_)
    refine a0c st2 rfl rfl (z := .agg (List.replicate 12 (.int .u64 0)).toArray) (by kernel_rfl) (cw 12 0) (by rw [a0g]; rfl) ?_
    intro g9 w3 st3
    clear st2
    go_wp2_with (with_reducible refine wSn ?_)
    refine a0d st3 0 rfl rfl rfl rfl rfl (by first | (simp only [a0a]; done) | (simp only [a0a, a0w]; done)) (by first | (rw [a0a]; kernel_rfl) | (simp only [a0w]; kernel_rfl)) (x0u _ _ _ _) ?_
    intro w4 st4
    clear st3
    have HFS := qH (HF.out.then st4.fr)
    clear st4
    go_wp2_with fail
    go_ret2
    exact ⟨rfl, HFS.out⟩
  ·exfalso
   have hkn : k = ls.length := by rw [HL.out]; omega
   rw [hkn, List.take_of_length_le (Nat.le_refl _), HGA.out] at hgood
   cases hgood
end Go.Proofs.YtemcankmggmgoaaGreat
namespace Go.Mv
open Go.RowKit
variable {P : Program} {ops : Array Oper} {a : Act} {w : World} {rest : List Oper} {Q : Exit → Act → World → Prop} {o : Oper}
theorem j0S (v : Value) (sz m : Nat) (h : 0 < sz) : (madeCells (List.replicate sz v).toArray m).toList = List.replicate m v := by
 apply List.ext_getElem?
 intro j
 by_cases hj : j < m
 ·have : j % sz < sz := Nat.mod_lt _ h
  simp [madeCells, hj, this]
 ·simp [madeCells, hj]
theorem j0T {l c : Operand} {t : TypeId} (hgd : o.guard = none) (ho : o.op = .makeSlice t l c) {e : TypeId} {z v : Value} {sz by_ : Nat} (ht : P.underlying t = some (.slice e))
  (hi0 : (P.info? e).map (fun i => (i.zero, i.size, i.bytes)) = some (some z, sz, by_)) (hzc : z.cells = (List.replicate sz v).toArray) (hsz : 0 < sz) {kl kc : IntKind} {x y : Int} (hl : a.eval l = .int kl x) (hc : a.eval c = .int kc y) (n m : Nat) (hx : x = n) (hy : y = m) (hnm : n ≤ m)
  (hb : by_ * m ≤ 281474976710656) (h63 : m ≤ maxLen)
  (h : ∀ w', Has w' w.heap.size (List.replicate (m * sz) v) e → Fr Nob w w' → wpList P ops Q rest (a.put o.dst (.slice (some ⟨w.heap.size, 0, none⟩) n m)) w') : wpList P ops Q (o :: rest) a w := by
 refine wpList_plain hgd fun K hK => ?_
 obtain ⟨i, hi, hz0⟩ : ∃ i, P.info? e = some i ∧ (i.zero, i.size, i.bytes) = (some z, sz, by_) := by simpa using hi0
 simp only [Prod.mk.injEq] at hz0
 obtain ⟨hz, hsize, hby⟩ := hz0
 subst hx
 subst hy
 have hmx : (m : Int) ≤ 9223372036854775807 := by simp only [maxLen] at h63; omega
 have hbb : (i.bytes : Int) * (m : Int) ≤ 281474976710656 := by
  have k : ((i.bytes * m : Nat) : Int) ≤ 281474976710656 := by rw [hby]; omega
  rwa [Int.natCast_mul] at k
 have hr := run_make (P := P) w t e i z ht hi hz kl kc n m (by omega) (by omega) hbb hmx
 simp only [Int.toNat_natCast, hsize] at hr
 unfold Oper.wp execOp
 simp only [ho, hl, hc, Sem.run_bind, Sem.run_pure, Result.andThen_ok, hr]
 refine hK _ _ (h _ ?_ ((Fr.refl _ w).alloc _))
 have := Has.new w (madeCells z.cells (m * sz)) e
 rw [hzc] at this ⊢
 rwa [j0S v sz _ hsz] at this
end Go.Mv
namespace Go.Proofs.YtemcankmggmgoaaGreat
section
open Go.RowKit Go.Mv Mvp Mvq
theorem h0M : (Tryz.prog.info? 147).map (fun i => (i.zero, i.size, i.bytes)) = some (some (.agg (List.replicate 196 (.int .u64 0)).toArray), 196, 1568) := by kernel_rfl
def aK (ls : List (List UInt8)) (k : Nat) : Nat → Nat := fun i => if i < k then beN (ls.getD i []) else 0
theorem m0J (n : Nat) (ls : List (List UInt8)) : List.replicate (n * 196) (Value.int .u64 0) = tmF n (aK ls 0) (fun _ => cw 192 0) := by
 rw [u0n]
 exact e0y _ _ _ _ _ fun i _ => ⟨by unfold aK; rw [if_neg (Nat.not_lt_zero _)], rfl⟩
theorem r0F (n : Nat) (ls : List (List UInt8)) (k : Nat) (l : List UInt8) (hl : ls.getD k [] = l) (h : k < n) : splice (tmF n (aK ls k) (fun _ => cw 192 0)) (k * 196) (cw 4 (beN l)) = tmF n (aK ls (k + 1)) (fun _ => cw 192 0) := by
 subst hl
 rw [u0l n _ _ (fun _ => a0a _ _) k _ h]
 refine e0y _ _ _ _ _ fun i _ => ⟨?_, rfl⟩
 unfold upN aK
 by_cases e : i = k
 ·rw [if_pos e, if_pos (by omega), e]
 ·rw [if_neg e]
  by_cases e2 : i < k
  ·rw [if_pos e2, if_pos (by omega)]
  ·rw [if_neg e2, if_neg (by omega)]
theorem j0U (n : Nat) (a : Nat → Nat) : (tmF n a (fun _ => cw 192 0)).length = n * 196 := r0D n a _ (fun _ => a0a _ _)
attribute [local irreducible] a0G lw mix cw b0q b0y b0p a0K a0r beN b0F a0U b0D a0I a0R elN mdL b0m rtN rtV b0I gXn gYn PT.L k0q j0H e0N tbL tmR tmL dbN g0S g0y k0r dig rdT c0N e0i ptL g0H e0f b0g tmF tkT l0Z aK
theorem z0v (al : Option Addr) (n cl : Nat) (vs : List Value) (ln : List (List UInt8)) (bl : Option Addr) (dl : Nat) (us : List Value) (lp : List (List UInt8)) (w : World) (hv : Rd w al n vs) (hp : BParts w vs ln) (hu : Rd w bl n us) (hq : BParts w us lp) (hn : n ≤ 512) (hg : b0B mQ ln = true) (hr : e0f lp = true) :
  Calls Tryz.prog 132 #[.slice al n cl, .slice bl n dl] w fun e w' => ∃ sv, e = .returned (.tuple #[sv, .int .i64 0]) ∧ Own w' w.heap.size 5 1 sv 33 (bs (b0g (k0r (l0Z (aK ln n) lp)).pt)) ∧ Fr Nob w w' := by
 have HV := qH hv
 have HP := qH hp
 have HU := qH hu
 have HQ := qH hq
 have HL := qH (show ln.length = n by rw [← hp.1, hv.len])
 have HL2 := qH (show lp.length = n by rw [← hq.1, hu.len])
 have HN := qH hn
 have hnI : ¬ ((512 : Int) < (n : Int)) := by omega
 clear hv hp hu hq
 have HGA := qH hg
 have HRA := qH hr
 clear hg hr hn
 have st0 := St.start Nob w
 go_enter Tryz.func132, Tryz.ntmps132
 go_wp2_with (with_reducible refine wSk 23 ?_)
 refine j0T rfl rfl Tryz.underlying199 h0M rfl (by decide) rfl rfl n n rfl rfl (Nat.le_refl _) (by have := HN.out; omega) (by have := HN.out; unfold maxLen; omega) ?_
 intro w1 hm hf
 rw [m0J n ln] at hm
 have st1 := st0.new hf hm (Nat.le_refl _)
 have hle : w.heap.size ≤ w.heap.size := Nat.le_refl _
 generalize hgT : w.heap.size = gT at st1 hle hm ⊢
 have HGS := qH hgT
 clear hgT hle hm hf st0
 go_wp2_with (with_reducible refine wSk 6 ?_)
 refine a0c st1 rfl rfl (z := .slice none 0 0) (by kernel_rfl) [.slice none 0 0] rfl ?_
 intro gb w2 st2
 clear st1
 obtain ⟨v6, c6, f6⟩ := (st2.at 1 rfl).ready (i := 0) (by decide)
 have st3 := st2.set 1 rfl 0 (.slice (some ⟨gT, 0, none⟩) n n)
 have st3 : St Nob w (w2.setCell ⟨gb, 0, none⟩ (.slice (some ⟨gT, 0, none⟩) n n)) [(gT, tmF n (aK ln (0)) (fun _ => cw 192 0), 147), (gb, [Value.slice (some ⟨gT, 0, none⟩) n n], 199)] := st3
 have ST3 := qH st3
 clear st2 st3
 go_wp2
 try clear c6 f6
 go_loopw [26] (fun i wr => ∃ k : Nat, k ≤ n ∧ i = .int .i64 (k : Int) ∧ b0B mQ (ln.take k) = true ∧ St Nob w wr [(gT, tmF n (aK ln (k)) (fun _ => cw 192 0), 147), (gb, [Value.slice (some ⟨gT, 0, none⟩) n n], 199)]) (fun i _ => n - (intOf i).toNat)
 case atStart => exact ⟨0, Nat.zero_le _, rfl, by rw [List.take_zero]; unfold b0B; rfl, ST3.out⟩
 case round =>
  obtain ⟨k, hk, rfl, hgood, st⟩ := hrel
  clear ST3
  by_cases hlt : k < n
  ·have hltI : (k : Int) < (n : Int) := by omega
   have hk0 : (0 : Int) ≤ (k : Int) := by omega
   have hf := st.fr
   obtain ⟨b, o, rfl, hat⟩ := (HV.out.still hf).at (by omega)
   have hvl : k < vs.length := by rw [HV.out.len]; exact hlt
   obtain ⟨a, nn, c, hve, hcc, hrd⟩ := HP.out.2 k (vs[k]'hvl) (List.getElem?_eq_getElem hvl)
   have hc1 := hat k _ (List.getElem?_eq_getElem hvl)
   rw [hve] at hc1
   have hlk : k < ln.length := by rw [HL.out]; exact hlt
   have hts := g0d mQ ln k hlk
   have hbad := h0w mQ ln k hlk
   generalize hLk : ln.getD k [] = l at *
   have HLL := qH hLk
   have HRD := qH (hrd.still hf)
   have HTS := qH hts
   have HBAD := qH hbad
   have HG := qH hgood
   have HLT := qH hlt
   clear hLk hrd hts hbad hgood hf hat hve hcc hlt hk
   have HK := qH (show b0m mQ l = true by
    cases hh : b0m mQ l
    ·have := HBAD.out hh
     rw [HGA.out] at this
     cases this
    ·rfl)
   go_wp2_with fail
   refine (j0R HK.out a nn c _ (HRD.out)).mono ?_
   rintro e' w3 ⟨rfl, hf3⟩
   have st3 := st.keep hf3
   clear st hf3
   go_wp2_with (with_reducible refine wSk 9 ?_)
   refine a0c st3 rfl rfl (z := zAd) (by kernel_rfl) (cw 4 0) (by rw [a0g]; rfl) ?_
   intro g9 w4 st4
   clear st3
   go_wp2_with (with_reducible refine wSn ?_)
   refine a0d st4 2 rfl rfl rfl rfl rfl (by first | (simp only [a0a]; done) | (simp only [List.length_append, a0a, PT.len, a0w]; done)) (by first | (rw [a0a]; kernel_rfl) | (rw [PT.len]; kernel_rfl) | (rw [a0w]; kernel_rfl) | (simp only [List.length_append, a0a]; kernel_rfl) | (simp only [List.length_append, a0a, PT.len, a0w]; kernel_rfl)) (a0j _ _) ?_
   intro w5 st5
   clear st4
   have hc6 := (st5.at 1 rfl).cell (show [Value.slice (some ⟨gT, 0, none⟩) n n][0]? = _ from rfl)
   go_wp2_with (with_reducible refine wSk 40 ?_)
   refine a0k st5 2 rfl rfl rfl Tryz.underlying111 rfl (by first | (rw [a0a]; kernel_rfl) | (rw [PT.len]; kernel_rfl) | (rw [a0w]; kernel_rfl) | (simp only [List.length_append, a0a]; kernel_rfl) | (simp only [List.length_append, a0a, PT.len, a0w]; kernel_rfl)) ?_
   go_wp2_with (with_reducible refine wSn ?_)
   refine f0L st5 0 rfl rfl rfl rfl rfl (tmF n (aK ln (k + 1)) (fun _ => cw 192 0)) (r0F n ln k l HLL.out HLT.out) (by rw [j0U, a0a]; have := HLT.out; omega) (by first | (rw [a0a]; kernel_rfl) | (rw [PT.len]; kernel_rfl) | (rw [a0w]; kernel_rfl) | (simp only [List.length_append, a0a]; kernel_rfl) | (simp only [List.length_append, a0a, PT.len, a0w]; kernel_rfl)) (a0j _ _) ?_
   intro w6 st6
   clear st5 hc6
   go_wp2_with fail
   go_roundw
   case rel => exact ⟨k + 1, by have := HLT.out; omega, by go_num, by rw [HTS.out, HG.out, HK.out]; rfl, St.less st6 (by simp)⟩
   case measure => have := HLT.out; simp [intOf]; omega
  ·have hge : ¬ ((k : Int) < (n : Int)) := by omega
   have hkn : k = n := by omega
   rw [hkn] at hgood st
   rw [List.take_of_length_le (by rw [HL.out]; exact Nat.le_refl _)] at hgood
   have hgl := (st.at 0 rfl).lt
   have HHT := qH (st.at 0 rfl)
   have HHB := qH (st.at 1 rfl)
   have HNE := qH (show gb ≠ gT from st.neAt (i := 1) (j := 0) rfl rfl (by decide))
   have HF := qH st.fr
   clear hkn hgood st hgl
   go_wp2_with fail
   refine (m0I gb bl n dl us lp _ (HU.out.still HF.out) (HQ.out.still HF.out) (by have := HN.out; omega) HRA.out gT _ HHT.out (k0r (l0Z (aK ln n) lp)) (fun ap cp wx hfx hoff hrd => by rw [HL2.out]; exact z0u n (aK ln n) lp HL2.out (by have := HN.out; omega) gb gT wx HNE.out (HHB.out.keep hfx id) (HHT.out.keep hfx id) ap cp hoff hrd)).mono ?_
   rintro e wE ⟨sv, rfl, hown, hfE⟩
   have ho := hown.mono HF.out.size
   have hfr := HF.out.new hfE (by rw [HGS.out]; exact Nat.le_refl _)
   clear hown hfE HF HHT HHB
   go_wp2_with fail
   go_ret2
   exact ⟨sv, rfl, ho, hfr⟩
theorem u0q (al : Option Addr) (n cl : Nat) (vs : List Value) (ln : List (List UInt8)) (bl : Option Addr) (dl : Nat) (us : List Value) (lp : List (List UInt8)) (w : World) (hv : Rd w al n vs) (hp : BParts w vs ln) (hu : Rd w bl n us) (hq : BParts w us lp) (hn : n ≤ 512) (hg : b0B mQ ln = true) (hr : e0f lp = false) :
  Calls Tryz.prog 132 #[.slice al n cl, .slice bl n dl] w fun e w' => e = .returned (.tuple #[.slice none 0 0, .int .i64 4]) ∧ Fr Nob w w' := by
 have HV := qH hv
 have HP := qH hp
 have HU := qH hu
 have HQ := qH hq
 have HL := qH (show ln.length = n by rw [← hp.1, hv.len])
 have HL2 := qH (show lp.length = n by rw [← hq.1, hu.len])
 have HN := qH hn
 have hnI : ¬ ((512 : Int) < (n : Int)) := by omega
 clear hv hp hu hq
 have HGA := qH hg
 have HRA := qH hr
 clear hg hr hn
 have st0 := St.start Nob w
 go_enter Tryz.func132, Tryz.ntmps132
 go_wp2_with (with_reducible refine wSk 23 ?_)
 refine j0T rfl rfl Tryz.underlying199 h0M rfl (by decide) rfl rfl n n rfl rfl (Nat.le_refl _) (by have := HN.out; omega) (by have := HN.out; unfold maxLen; omega) ?_
 intro w1 hm hf
 rw [m0J n ln] at hm
 have st1 := st0.new hf hm (Nat.le_refl _)
 have hle : w.heap.size ≤ w.heap.size := Nat.le_refl _
 generalize hgT : w.heap.size = gT at st1 hle hm ⊢
 have HGS := qH hgT
 clear hgT hle hm hf st0
 go_wp2_with (with_reducible refine wSk 6 ?_)
 refine a0c st1 rfl rfl (z := .slice none 0 0) (by kernel_rfl) [.slice none 0 0] rfl ?_
 intro gb w2 st2
 clear st1
 obtain ⟨v6, c6, f6⟩ := (st2.at 1 rfl).ready (i := 0) (by decide)
 have st3 := st2.set 1 rfl 0 (.slice (some ⟨gT, 0, none⟩) n n)
 have st3 : St Nob w (w2.setCell ⟨gb, 0, none⟩ (.slice (some ⟨gT, 0, none⟩) n n)) [(gT, tmF n (aK ln (0)) (fun _ => cw 192 0), 147), (gb, [Value.slice (some ⟨gT, 0, none⟩) n n], 199)] := st3
 have ST3 := qH st3
 clear st2 st3
 go_wp2
 try clear c6 f6
 go_loopw [26] (fun i wr => ∃ k : Nat, k ≤ n ∧ i = .int .i64 (k : Int) ∧ b0B mQ (ln.take k) = true ∧ St Nob w wr [(gT, tmF n (aK ln (k)) (fun _ => cw 192 0), 147), (gb, [Value.slice (some ⟨gT, 0, none⟩) n n], 199)]) (fun i _ => n - (intOf i).toNat)
 case atStart => exact ⟨0, Nat.zero_le _, rfl, by rw [List.take_zero]; unfold b0B; rfl, ST3.out⟩
 case round =>
  obtain ⟨k, hk, rfl, hgood, st⟩ := hrel
  clear ST3
  by_cases hlt : k < n
  ·have hltI : (k : Int) < (n : Int) := by omega
   have hk0 : (0 : Int) ≤ (k : Int) := by omega
   have hf := st.fr
   obtain ⟨b, o, rfl, hat⟩ := (HV.out.still hf).at (by omega)
   have hvl : k < vs.length := by rw [HV.out.len]; exact hlt
   obtain ⟨a, nn, c, hve, hcc, hrd⟩ := HP.out.2 k (vs[k]'hvl) (List.getElem?_eq_getElem hvl)
   have hc1 := hat k _ (List.getElem?_eq_getElem hvl)
   rw [hve] at hc1
   have hlk : k < ln.length := by rw [HL.out]; exact hlt
   have hts := g0d mQ ln k hlk
   have hbad := h0w mQ ln k hlk
   generalize hLk : ln.getD k [] = l at *
   have HLL := qH hLk
   have HRD := qH (hrd.still hf)
   have HTS := qH hts
   have HBAD := qH hbad
   have HG := qH hgood
   have HLT := qH hlt
   clear hLk hrd hts hbad hgood hf hat hve hcc hlt hk
   have HK := qH (show b0m mQ l = true by
    cases hh : b0m mQ l
    ·have := HBAD.out hh
     rw [HGA.out] at this
     cases this
    ·rfl)
   go_wp2_with fail
   refine (j0R HK.out a nn c _ (HRD.out)).mono ?_
   rintro e' w3 ⟨rfl, hf3⟩
   have st3 := st.keep hf3
   clear st hf3
   go_wp2_with (with_reducible refine wSk 9 ?_)
   refine a0c st3 rfl rfl (z := zAd) (by kernel_rfl) (cw 4 0) (by rw [a0g]; rfl) ?_
   intro g9 w4 st4
   clear st3
   go_wp2_with (with_reducible refine wSn ?_)
   refine a0d st4 2 rfl rfl rfl rfl rfl (by first | (simp only [a0a]; done) | (simp only [List.length_append, a0a, PT.len, a0w]; done)) (by first | (rw [a0a]; kernel_rfl) | (rw [PT.len]; kernel_rfl) | (rw [a0w]; kernel_rfl) | (simp only [List.length_append, a0a]; kernel_rfl) | (simp only [List.length_append, a0a, PT.len, a0w]; kernel_rfl)) (a0j _ _) ?_
   intro w5 st5
   clear st4
   have hc6 := (st5.at 1 rfl).cell (show [Value.slice (some ⟨gT, 0, none⟩) n n][0]? = _ from rfl)
   go_wp2_with (with_reducible refine wSk 40 ?_)
   refine a0k st5 2 rfl rfl rfl Tryz.underlying111 rfl (by first | (rw [a0a]; kernel_rfl) | (rw [PT.len]; kernel_rfl) | (rw [a0w]; kernel_rfl) | (simp only [List.length_append, a0a]; kernel_rfl) | (simp only [List.length_append, a0a, PT.len, a0w]; kernel_rfl)) ?_
   go_wp2_with (with_reducible refine wSn ?_)
   refine f0L st5 0 rfl rfl rfl rfl rfl (tmF n (aK ln (k + 1)) (fun _ => cw 192 0)) (r0F n ln k l HLL.out HLT.out) (by rw [j0U, a0a]; have := HLT.out; omega) (by first | (rw [a0a]; kernel_rfl) | (rw [PT.len]; kernel_rfl) | (rw [a0w]; kernel_rfl) | (simp only [List.length_append, a0a]; kernel_rfl) | (simp only [List.length_append, a0a, PT.len, a0w]; kernel_rfl)) (a0j _ _) ?_
   intro w6 st6
   clear st5 hc6
   go_wp2_with fail
   go_roundw
   case rel => exact ⟨k + 1, by have := HLT.out; omega, by go_num, by rw [HTS.out, HG.out, HK.out]; rfl, St.less st6 (by simp)⟩
   case measure => have := HLT.out; simp [intOf]; omega
  ·have hge : ¬ ((k : Int) < (n : Int)) := by omega
   have hkn : k = n := by omega
   rw [hkn] at hgood st
   rw [List.take_of_length_le (by rw [HL.out]; exact Nat.le_refl _)] at hgood
   have hgl := (st.at 0 rfl).lt
   have HHT := qH (st.at 0 rfl)
   have HHB := qH (st.at 1 rfl)
   have HNE := qH (show gb ≠ gT from st.neAt (i := 1) (j := 0) rfl rfl (by decide))
   have HF := qH st.fr
   clear hkn hgood st hgl
   go_wp2_with fail
   refine (l0m gb bl n dl us lp _ (HU.out.still HF.out) (HQ.out.still HF.out) (by have := HN.out; omega) HRA.out).mono ?_
   rintro e wE ⟨rfl, hfE⟩
   have hfr := HF.out.then hfE
   clear hfE HF HHT HHB
   go_wp2_with fail
   go_ret2
   exact ⟨rfl, hfr⟩
theorem u0r (al : Option Addr) (n cl : Nat) (vs : List Value) (ln : List (List UInt8)) (bl : Option Addr) (dl : Nat) (us : List Value) (lp : List (List UInt8)) (w : World) (hv : Rd w al n vs) (hp : BParts w vs ln) (hu : Rd w bl n us) (hq : BParts w us lp) (hn : n ≤ 512) (hg : b0B mQ ln = false) :
  Calls Tryz.prog 132 #[.slice al n cl, .slice bl n dl] w fun e w' => e = .returned (.tuple #[.slice none 0 0, .int .i64 3]) ∧ Fr Nob w w' := by
 have HV := qH hv
 have HP := qH hp
 have HU := qH hu
 have HQ := qH hq
 have HL := qH (show ln.length = n by rw [← hp.1, hv.len])
 have HL2 := qH (show lp.length = n by rw [← hq.1, hu.len])
 have HN := qH hn
 have hnI : ¬ ((512 : Int) < (n : Int)) := by omega
 clear hv hp hu hq
 have HGA := qH hg
 clear hg hn
 have st0 := St.start Nob w
 go_enter Tryz.func132, Tryz.ntmps132
 go_wp2_with (with_reducible refine wSk 23 ?_)
 refine j0T rfl rfl Tryz.underlying199 h0M rfl (by decide) rfl rfl n n rfl rfl (Nat.le_refl _) (by have := HN.out; omega) (by have := HN.out; unfold maxLen; omega) ?_
 intro w1 hm hf
 rw [m0J n ln] at hm
 have st1 := st0.new hf hm (Nat.le_refl _)
 have hle : w.heap.size ≤ w.heap.size := Nat.le_refl _
 generalize hgT : w.heap.size = gT at st1 hle hm ⊢
 have HGS := qH hgT
 clear hgT hle hm hf st0
 go_wp2_with (with_reducible refine wSk 6 ?_)
 refine a0c st1 rfl rfl (z := .slice none 0 0) (by kernel_rfl) [.slice none 0 0] rfl ?_
 intro gb w2 st2
 clear st1
 obtain ⟨v6, c6, f6⟩ := (st2.at 1 rfl).ready (i := 0) (by decide)
 have st3 := st2.set 1 rfl 0 (.slice (some ⟨gT, 0, none⟩) n n)
 have st3 : St Nob w (w2.setCell ⟨gb, 0, none⟩ (.slice (some ⟨gT, 0, none⟩) n n)) [(gT, tmF n (aK ln (0)) (fun _ => cw 192 0), 147), (gb, [Value.slice (some ⟨gT, 0, none⟩) n n], 199)] := st3
 have ST3 := qH st3
 clear st2 st3
 go_wp2
 try clear c6 f6
 go_loopw [26] (fun i wr => ∃ k : Nat, k ≤ n ∧ i = .int .i64 (k : Int) ∧ b0B mQ (ln.take k) = true ∧ St Nob w wr [(gT, tmF n (aK ln (k)) (fun _ => cw 192 0), 147), (gb, [Value.slice (some ⟨gT, 0, none⟩) n n], 199)]) (fun i _ => n - (intOf i).toNat)
 case atStart => exact ⟨0, Nat.zero_le _, rfl, by rw [List.take_zero]; unfold b0B; rfl, ST3.out⟩
 case round =>
  obtain ⟨k, hk, rfl, hgood, st⟩ := hrel
  clear ST3
  by_cases hlt : k < n
  ·have hltI : (k : Int) < (n : Int) := by omega
   have hk0 : (0 : Int) ≤ (k : Int) := by omega
   have hf := st.fr
   obtain ⟨b, o, rfl, hat⟩ := (HV.out.still hf).at (by omega)
   have hvl : k < vs.length := by rw [HV.out.len]; exact hlt
   obtain ⟨a, nn, c, hve, hcc, hrd⟩ := HP.out.2 k (vs[k]'hvl) (List.getElem?_eq_getElem hvl)
   have hc1 := hat k _ (List.getElem?_eq_getElem hvl)
   rw [hve] at hc1
   have hlk : k < ln.length := by rw [HL.out]; exact hlt
   have hts := g0d mQ ln k hlk
   have hbad := h0w mQ ln k hlk
   generalize hLk : ln.getD k [] = l at *
   have HLL := qH hLk
   have HRD := qH (hrd.still hf)
   have HTS := qH hts
   have HBAD := qH hbad
   have HG := qH hgood
   have HLT := qH hlt
   clear hLk hrd hts hbad hgood hf hat hve hcc hlt hk
   rcases Bool.eq_false_or_eq_true (b0m mQ l) with hh | hh
   ·have HK := qH hh
    clear hh
    go_wp2_with fail
    refine (j0R HK.out a nn c _ (HRD.out)).mono ?_
    rintro e' w3 ⟨rfl, hf3⟩
    have st3 := st.keep hf3
    clear st hf3
    go_wp2_with (with_reducible refine wSk 9 ?_)
    refine a0c st3 rfl rfl (z := zAd) (by kernel_rfl) (cw 4 0) (by rw [a0g]; rfl) ?_
    intro g9 w4 st4
    clear st3
    go_wp2_with (with_reducible refine wSn ?_)
    refine a0d st4 2 rfl rfl rfl rfl rfl (by first | (simp only [a0a]; done) | (simp only [List.length_append, a0a, PT.len, a0w]; done)) (by first | (rw [a0a]; kernel_rfl) | (rw [PT.len]; kernel_rfl) | (rw [a0w]; kernel_rfl) | (simp only [List.length_append, a0a]; kernel_rfl) | (simp only [List.length_append, a0a, PT.len, a0w]; kernel_rfl)) (a0j _ _) ?_
    intro w5 st5
    clear st4
    have hc6 := (st5.at 1 rfl).cell (show [Value.slice (some ⟨gT, 0, none⟩) n n][0]? = _ from rfl)
    go_wp2_with (with_reducible refine wSk 40 ?_)
    refine a0k st5 2 rfl rfl rfl Tryz.underlying111 rfl (by first | (rw [a0a]; kernel_rfl) | (rw [PT.len]; kernel_rfl) | (rw [a0w]; kernel_rfl) | (simp only [List.length_append, a0a]; kernel_rfl) | (simp only [List.length_append, a0a, PT.len, a0w]; kernel_rfl)) ?_
    go_wp2_with (with_reducible refine wSn ?_)
    refine f0L st5 0 rfl rfl rfl rfl rfl (tmF n (aK ln (k + 1)) (fun _ => cw 192 0)) (r0F n ln k l HLL.out HLT.out) (by rw [j0U, a0a]; have := HLT.out; omega) (by first | (rw [a0a]; kernel_rfl) | (rw [PT.len]; kernel_rfl) | (rw [a0w]; kernel_rfl) | (simp only [List.length_append, a0a]; kernel_rfl) | (simp only [List.length_append, a0a, PT.len, a0w]; kernel_rfl)) (a0j _ _) ?_
    intro w6 st6
    clear st5 hc6
    go_wp2_with fail
    go_roundw
    case rel => exact ⟨k + 1, by have := HLT.out; omega, by go_num, by rw [HTS.out, HG.out, HK.out]; rfl, St.less st6 (by simp)⟩
    case measure => have := HLT.out; simp [intOf]; omega
   ·have HK := qH hh
    clear hh
    go_wp2_with fail
    refine (u0k HK.out a nn c _ (HRD.out)).mono ?_
    rintro e' w3 ⟨⟨N, rfl⟩, hf3⟩
    have st3 := st.keep hf3
    clear st hf3
    go_wp2_with (with_reducible refine wSk 9 ?_)
    refine a0c st3 rfl rfl (z := zAd) (by kernel_rfl) (cw 4 0) (by rw [a0g]; rfl) ?_
    intro g9 w4 st4
    clear st3
    go_wp2_with (with_reducible refine wSn ?_)
    refine a0d st4 2 rfl rfl rfl rfl rfl (by first | (simp only [a0a]; done) | (simp only [List.length_append, a0a, PT.len, a0w]; done)) (by first | (rw [a0a]; kernel_rfl) | (rw [PT.len]; kernel_rfl) | (rw [a0w]; kernel_rfl) | (simp only [List.length_append, a0a]; kernel_rfl) | (simp only [List.length_append, a0a, PT.len, a0w]; kernel_rfl)) (a0j _ _) ?_
    intro w5 st5
    clear st4
    have hfr := st5.fr
    clear st5
    go_wp2_with fail
    go_ret2
    exact ⟨rfl, hfr⟩
  ·exfalso
   have hkn : k = n := by omega
   rw [hkn] at hgood
   rw [List.take_of_length_le (by rw [HL.out]; exact Nat.le_refl _), HGA.out] at hgood
   cases hgood
theorem u0s (al : Option Addr) (n cl : Nat) (bl : Option Addr) (m dl : Nat) (w : World) (h : n ≠ m) :
  Calls Tryz.prog 132 #[.slice al n cl, .slice bl m dl] w fun e w' => e = .returned (.tuple #[.slice none 0 0, .int .i64 2]) ∧ Fr Nob w w' := by
 have h1 : ((n : Int) != (m : Int)) = true := by simp; omega
 have h2 : (n != m) = true := by simpa using h
 go_enter Tryz.func132, Tryz.ntmps132
 go_wp2
 go_ret2
 exact ⟨rfl, Fr.refl _ _⟩
theorem u0t (al : Option Addr) (n cl : Nat) (bl : Option Addr) (dl : Nat) (w : World) (h : 512 < n) :
  Calls Tryz.prog 132 #[.slice al n cl, .slice bl n dl] w fun e w' => e = .returned (.tuple #[.slice none 0 0, .int .i64 1]) ∧ Fr Nob w w' := by
 have h1 : (512 : Int) < (n : Int) := by omega
 go_enter Tryz.func132, Tryz.ntmps132
 go_wp2
 go_ret2
 exact ⟨rfl, Fr.refl _ _⟩
end
section
open Go.RowKit Go.Mv Mvp
theorem u0u {a b : Bool} (h : a = b) : Ending.returned (.bool a) = .returned (.bool b) := by rw [h]
theorem r0G (b : Option Addr) (n c : Nat) (l : List UInt8) (s : ByteArray) (w : World) (hs : s.size ≤ 1000000) (hb : RdB w b n l) :
  Calls Tryz.prog 14 #[.slice b n c, .string s] w fun e w' => e = .returned (.bool (decide (l = c0O s.data.toList))) ∧ Fr Nob w w' := by
 go_enter Tryz.func14, Tryz.ntmps14
 go_wp2_with fail
 refine (n0E s _ hs).mono ?_
 rintro e w1 ⟨rfl, hh, hf, hz⟩
 have hb1 := hb.still hf
 have hc1 : RdB w1 (some ⟨w.heap.size, 0, none⟩) (s.size + 160) (c0O s.data.toList) := by
  have := Rd.whole hh
  rwa [a0F, c0I, b0R] at this
 go_wp2_with (first
  | (with_reducible refine wSk 9 ?_))
 refine c0F rfl rfl Tryz.underlying22 Tryz.underlying5 Tryz.underlying9 rfl hb1 ?_
 go_wp2_with (first
  | (with_reducible refine wSk 11 ?_))
 refine c0F rfl rfl Tryz.underlying22 Tryz.underlying5 Tryz.underlying9 rfl hc1 ?_
 go_wp2_with fail
 go_ret
 exact ⟨u0u (w0q _ _), hf⟩
end
section
open Go.RowKit Go.Mv Mvp
attribute [local irreducible] a0G lw mix cw b0q b0y b0p a0K a0r beN b0F a0U b0D a0I a0R elN mdL c0O
end
section
open Go.RowKit Go.Mv Mvp
theorem o0n (m : Md) (hM : m.M < B64 ^ 4) (s : ByteArray) (w : World) (h : b0m m s.data.toList = true) :
  Calls Tryz.prog 122 #[fv m.M, .string s] w fun e w' => e = .returned (.tuple #[i4 (beN s.data.toList), .bool true]) ∧ Fr Nob w w' := by
 unfold b0m at h
 simp only [Bool.and_eq_true, decide_eq_true_eq] at h
 refine (k0G m.M s w (by have := h.1; simpa using this) hM).mono fun e w' he => ?_
 rw [decide_eq_true h.2] at he
 exact he
theorem o0o (m : Md) (hM : m.M < B64 ^ 4) (s : ByteArray) (w : World) (h : b0m m s.data.toList = false) :
  Calls Tryz.prog 122 #[fv m.M, .string s] w fun e w' => ∃ N, e = .returned (.tuple #[i4 N, .bool false]) ∧ Fr Nob w w' := by
 by_cases hs : s.size = 32
 ·refine (k0G m.M s w hs hM).mono fun e w' he => ?_
  have h2 : ¬ beN s.data.toList < m.M := by
   intro hb
   unfold b0m at h
   rw [decide_eq_true hb, decide_eq_true (by simpa using hs)] at h
   cases h
  rw [decide_eq_false h2] at he
  exact ⟨_, he⟩
 ·exact (o0X m.M s w hs).mono fun e w' he => ⟨_, he⟩
theorem x0C (m : Md) (l : List UInt8) (h : b0m m l = true) : beN l < m.M := by
 unfold b0m at h
 simp only [Bool.and_eq_true, decide_eq_true_eq] at h
 exact h.2
attribute [local irreducible] a0G lw mix cw b0q b0y b0p a0K a0r beN b0F a0U b0D a0I a0R elN mdL c0O b0m b0B
end
end Go.Proofs.YtemcankmggmgoaaGreat
