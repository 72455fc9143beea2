/- group: read; read and bytes of a program's points; group: with, over a closure's contract; the closures of Plus, Minus and Times; group: the closures of Plus, Minus and Times; scalar; group: Plus, Minus, Times, Point, Base: what they answer; group's exported functions, for all bytes: what they answer, told by points; GroupLaw, plain: the law's numbers; contracts at points that are known to be points; num.Dot: what it answers; SpongeLogs: what stays of many logs, step by step; mintvaultlaw8.lists, small: lists of strings as lists of bytes; bytes.Clone; lists of owned slices of bytes that lie apart; num.Powers: what it answers; Slices of the call's own that lie apart: one fact for all of them. -/
import Derived.Test.YtemcankmggmgoaaDoorMgKeysTrueProof6
import Derived.Test.YtemcankmggmgoaaDoorMgKeysTrueProof3
import Derived.Test.YtemcankmggmgoaaDoorMgKeysTrueProof4
import Derived.Test.YtemcankmggmgoaaDoorMgKeysTrueProof1
import Derived.Test.YtemcankmggmgoaaDoorMgKeysTrueProof2
namespace Go.Mv
open Go.RowKit
theorem rd_first {w : World} {b o n : Nat} {vs : List Value} (h : Rd w (some ⟨b, o, none⟩) n vs) (v : Value) (hv : vs[0]? = some v) : w.cell? ⟨b, o, none⟩ = some v := by
  have hl : 0 < vs.length := by
    rcases Nat.eq_zero_or_pos vs.length with h0 | h0
    · rw [List.length_eq_zero_iff.1 h0] at hv; cases hv
    · exact h0
  obtain ⟨b', o', he, hc⟩ := h.at (by have := h.len; omega)
  simp only [Option.some.injEq, Addr.mk.injEq] at he
  obtain ⟨rfl, rfl, -⟩ := he
  simpa using hc 0 v hv
theorem RdB.tail {w : World} {a : Option Addr} {n : Nat} {l : List UInt8} (h : RdB w a n l) (c : Nat) (h1 : 1 ≤ n) (hc : n ≤ c) : RdB w (cutAt a 1 c) (n - 1) (l.drop 1) := by
  have h2 := cutAt_rd h 1 n c h1 hc (Nat.le_refl _)
  have hl := h.len
  have e : ((bs l).drop 1).take (n - 1) = bs (l.drop 1) := by
    rw [List.take_of_length_le (by rw [List.length_drop, length_bs]; omega)]
    simp [bs]
  rw [e] at h2
  exact h2
end Go.Mv
namespace Go.Proofs.YtemcankmggmgoaaDoor
open Go.RowKit Go.Mv Mvp Mvq
theorem built_I0 : Tryd.prog.built 42 [] = some #[.int .u64 0, .int .u64 0, .int .u64 0, .int .u64 0] := by kernel_rfl
theorem built_P0 : Tryd.prog.built 49 [] = some (cw 4 0 ++ (cw 4 0 ++ cw 4 0)).toArray := by kernel_rfl
theorem size_u8g : (Tryd.prog.info? 5).map (·.size) = some 1 := by kernel_rfl
theorem size_u64g : (Tryd.prog.info? 32).map (·.size) = some 1 := by kernel_rfl
theorem exec_eqlI (x y : Nat) {o : Oper} {a : Act} {p q : Operand} {T : TypeId} (ho : o.op = .binOp .eql 42 p q T) (hp : a.eval p = i4 x) (hq : a.eval q = i4 y) {b : Bool} (hb : decide (x % B64 ^ 4 = y % B64 ^ 4) = b) (w : World) :
    (execOp a.eval o).run Tryd.prog w = .ok (.value (.bool b)) w := by
  subst hb
  exact exec_binop ho hp hq w (run_eqGuard_agg w .eql 42 p q _ _ Tryd.eqGuardType42) (eql_of_equal w (run_eq4 Tryd.underlying42 Tryd.underlying32 size_u64g x y w))
theorem tlN_lt (l : List UInt8) (h : l.length = 33) : tlN l < B64 ^ 4 := beN_le32 (l.drop 1) (by rw [List.length_drop]; omega)
theorem fb_tail (a : Option Addr) (c : Nat) (l : List UInt8) (w : World) (hb : RdB w a 32 (l.drop 1)) : Calls Tryd.prog 27 #[.slice a 32 c] w fun e w' => e = .returned (i4 (tlN l)) ∧ Fr Nob w w' :=
  FromBytes_any a 32 c (l.drop 1) w hb (by decide)
/-- the second coordinate that at answers -/
def atY (M n : Nat) : Nat := if rtOk M (crvN n) then rtV M (crvN n) else 0
theorem at_c (m : Md) (gc gp bx by_ : Nat) (w : World) (hok : m.Ok) (hcv : Has w gc (crvL m gp bx by_) 57) (hpm : Has w gp (mdL m) 72) (x : Nat) :
    Calls Tryd.prog 53 #[.pointer (some ⟨gc, 0, none⟩), i4 (elN m x)] w fun e w' => e = .returned (.tuple #[ptV m x (atY m.M x) 1, .bool (rtOk m.M (crvN x))]) ∧ Fr Nob w w' := by
  unfold atY
  cases h : rtOk m.M (crvN x)
  · exact at_no m gc gp bx by_ w hok hcv hpm x _ _ _ rfl rfl rfl h
  · exact at_ok m gc gp bx by_ w hok hcv hpm x _ _ _ rfl rfl rfl h
theorem MLess_v (a b : Nat) (w : World) (ha : a < B64 ^ 4) (hb : b < B64 ^ 4) (r : Bool) (hr : decide (a < b) = r) :
    Calls Tryd.prog 28 #[i4 a, i4 b] w fun e w' => e = .returned (.bool r) ∧ Fr Nob w w' := by
  subst hr; exact MLess_any a b w ha hb
theorem at_u (m : Md) (gc gp bx by_ : Nat) (w : World) (hok : m.Ok) (hcv : Has w gc (crvL m gp bx by_) 57) (hpm : Has w gp (mdL m) 72) (x : Nat) (r : Bool) (hr : rtOk m.M (crvN x) = r) :
    Calls Tryd.prog 53 #[.pointer (some ⟨gc, 0, none⟩), i4 (elN m x)] w fun e w' => e = .returned (.tuple #[.agg (cw 4 (elN m x) ++ (cw 4 (elN m (atY m.M x)) ++ cw 4 (elN m 1))).toArray, .bool r]) ∧ Fr Nob w w' := by
  subst hr; exact at_c m gc gp bx by_ w hok hcv hpm x
theorem opposite_u (m : Md) (gc gp bx by_ : Nat) (w : World) (hok : m.Ok) (hcv : Has w gc (crvL m gp bx by_) 57) (hpm : Has w gp (mdL m) 72) (x y z : Nat) :
    Calls Tryd.prog 54 #[.pointer (some ⟨gc, 0, none⟩), .agg (cw 4 (elN m x) ++ (cw 4 (elN m y) ++ cw 4 (elN m z))).toArray] w fun e w' => e = .returned (.agg (cw 4 (elN m x) ++ (cw 4 (elN m (m.M - y % m.M)) ++ cw 4 (elN m z))).toArray) ∧ Fr Nob w w' :=
  opposite_any m gc gp bx by_ w hok hcv hpm x y z
attribute [local irreducible] limbs lw mix cw cSub cAdd cMul beN laid be32 montT mstep elN mdL numB rtN rtV rtOk gXn gYn tlN atY crvN
theorem words_zI : (Value.agg #[.int .u64 0, .int .u64 0, .int .u64 0, .int .u64 0]) = i4 0 := by rw [i4, cw_zero]; rfl
set_option maxHeartbeats 8000000 in
set_option maxRecDepth 100000 in
theorem IZero_any (x : Nat) (hx : x < B64 ^ 4) (b : Bool) (hb : (x == 0) = b) (w : World) :
    Calls Tryd.prog 52 #[i4 x] w fun e w' => e = .returned (.bool b) ∧ Fr Nob w w' := by
  subst hb
  have HB := Lib.hid (show decide (x % B64 ^ 4 = 0 % B64 ^ 4) = (x == 0) by rw [Nat.mod_eq_of_lt hx, Nat.zero_mod]; rfl)
  clear hx
  have st0 := St.start Nob w
  go_enter Tryd.func52, Tryd.ntmps52
  go_wp2_with (with_reducible refine wl_stop (o := ⟨some 1, _, _, _, _, _⟩) ?_)
  refine wl_boxS st0 rfl rfl rfl (cw 4 x) rfl ?_
  intro g1 w1 st1
  clear st0
  go_wp2_with (with_reducible refine wl_stop (o := ⟨some 3, _, _, _, _, _⟩) ?_)
  refine wl_loadS st1 0 rfl rfl rfl Tryd.underlying42 rfl (by first | (rw [cw_len]; kernel_rfl) | (simp only [List.length_append, cw_len]; kernel_rfl)) ?_
  go_wp2_with (with_reducible refine wl_stop (o := ⟨some 4, _, _, _, _, _⟩) ?_)
  refine wl_build0 rfl rfl _ built_I0 ?_
  rw [words_zI]
  go_wp2_with (with_reducible refine wl_stop (o := ⟨some 5, _, _, _, _, _⟩) ?_)
  refine wl_exec rfl (exec_eqlI x 0 rfl rfl rfl HB.out _) ?_
  have hfr := st1.fr
  clear st1
  go_wp2_with fail
  go_ret
  exact ⟨rfl, hfr⟩

set_option maxHeartbeats 16000000 in
set_option maxRecDepth 1000000 in
theorem read_len (m : Md) (gc gp bx by_ : Nat) (w : World) (hok : m.Ok) (hcv : Has w gc (crvL m gp bx by_) 57) (hpm : Has w gp (mdL m) 72) (a : Option Addr) (n c : Nat) (l : List UInt8) (hb : RdB w a n l) (_hc : n ≤ c) (h33 : l.length ≠ 33) :
    Calls Tryd.prog 29 #[.pointer (some ⟨gc, 0, none⟩), .slice a n c] w fun e w' => e = .returned (.tuple #[ptV m 0 0 0, .bool false]) ∧ Fr Nob w w' := by
  have HOK := Lib.hid hok
  have HCV := Lib.hid hcv
  have HPM := Lib.hid hpm
  clear hok hcv hpm
  have HN := Lib.hid (show n ≠ 33 by have := hb.len; omega)
  clear hb _hc h33
  have st0 := St.start Nob w
  go_enter Tryd.func29, Tryd.ntmps29
  go_wp2_with (with_reducible refine wl_stop (o := ⟨some 4, _, _, _, _, _⟩) ?_)
  refine wl_allocS st0 rfl rfl (z := .agg (List.replicate 12 (.int .u64 0)).toArray) (by kernel_rfl) (cw 4 0 ++ (cw 4 0 ++ cw 4 0)) (by rw [cw_zero]; rfl) ?_
  intro g4 w1 st1
  clear st0
  have hne : ((n : Int) != 33) = true := by have := HN.out; simp; omega
  go_wp2_with (with_reducible refine wl_stop (o := ⟨some 12, _, _, _, _, _⟩) ?_)
  refine wl_build0 rfl rfl _ built_P0 ?_
  go_wp2_with (with_reducible refine wl_stop (o := ⟨none, _, _, _, _, _⟩) ?_)
  refine wl_storeS st1 0 rfl rfl rfl rfl rfl (by first | (simp only; done) | (simp only [List.length_append, cw_len]; done)) (by first | (rw [cw_len]; kernel_rfl) | (simp only [List.length_append, cw_len]; kernel_rfl)) (pt_one _ _ _) ?_
  intro w2 st2
  clear st1
  have hr := st2.at 0 rfl
  have hfr := st2.fr
  clear st2
  go_wp2_with fail
  exact bodyPost_ret (results_st2 rfl rfl hr Tryd.underlying49 rfl (by first | (rw [cw_len]; kernel_rfl) | (simp only [List.length_append, cw_len]; kernel_rfl)) rfl) rfl ⟨by unfold ptV ptL; rw [el_zero]; rfl, hfr⟩

set_option maxHeartbeats 16000000 in
set_option maxRecDepth 1000000 in
theorem read_zero (m : Md) (gc gp bx by_ : Nat) (w : World) (hok : m.Ok) (hcv : Has w gc (crvL m gp bx by_) 57) (hpm : Has w gp (mdL m) 72) (a : Option Addr) (n c : Nat) (l : List UInt8) (hb : RdB w a n l) (hc : n ≤ c) (h33 : l.length = 33) (h0 : (bs l)[0]? = some (.int .u8 0)) (b : Bool) (hzb : (tlN l == 0) = b) :
    Calls Tryd.prog 29 #[.pointer (some ⟨gc, 0, none⟩), .slice a n c] w fun e w' => e = .returned (.tuple #[ptV m 1 1 0, .bool b]) ∧ Fr Nob w w' := by
  have HOK := Lib.hid hok
  have HCV := Lib.hid hcv
  have HPM := Lib.hid hpm
  clear hok hcv hpm
  have h33n : n = 33 := by have := hb.len; omega
  subst h33n
  obtain ⟨ba, oa, rfl, -⟩ := Rd.at hb (by decide)
  have HB := Lib.hid hb
  have HC := Lib.hid hc
  have HT := Lib.hid (RdB.tail hb c (by decide) hc)
  have H0 := Lib.hid h0
  have HTN := Lib.hid (tlN_lt l h33)
  clear hb hc h33 h0
  have HZB := Lib.hid hzb
  clear hzb
  have st0 := St.start Nob w
  go_enter Tryd.func29, Tryd.ntmps29
  go_wp2_with (with_reducible refine wl_stop (o := ⟨some 4, _, _, _, _, _⟩) ?_)
  refine wl_allocS st0 rfl rfl (z := .agg (List.replicate 12 (.int .u64 0)).toArray) (by kernel_rfl) (cw 4 0 ++ (cw 4 0 ++ cw 4 0)) (by rw [cw_zero]; rfl) ?_
  intro g4 w1 st1
  clear st0
  have hne : (((33 : Nat) : Int) != 33) = false := by rfl
  go_wp2_with (with_reducible refine wl_stop (o := ⟨some 14, _, _, _, _, _⟩) ?_)
  refine wl_cut rfl rfl Tryd.underlying23 size_u8g rfl 1 33 ⟨_, rfl⟩ rfl (by decide) HC.out ?_
  rw [show (33 : Nat) - 1 = 32 from rfl]
  go_wp2_with fail
  refine (fb_tail _ _ l _ (HT.out.still st1.fr)).mono ?_
  rintro e' w2 ⟨rfl, hf2⟩
  have st2 := st1.keep hf2
  clear st1 hf2
  go_wp2_with (with_reducible refine wl_stop (o := ⟨some 6, _, _, _, _, _⟩) ?_)
  refine wl_allocS st2 rfl rfl (z := .agg #[.int .u64 0, .int .u64 0, .int .u64 0, .int .u64 0]) (by kernel_rfl) (cw 4 0) (by rw [cw_zero]; rfl) ?_
  intro g6 w3 st3
  clear st2
  go_wp2_with (with_reducible refine wl_stop (o := ⟨none, _, _, _, _, _⟩) ?_)
  refine wl_storeS st3 1 rfl rfl rfl rfl rfl (by first | (simp only [cw_len]; done) | (simp only [List.length_append, cw_len]; done)) (by first | (rw [cw_len]; kernel_rfl) | (simp only [List.length_append, cw_len]; kernel_rfl)) (cw_one _ _) ?_
  intro w4 st4
  clear st3
  have hcell := rd_first (HB.out.still st4.fr) _ H0.out
  go_wp2_with fail
  clear hcell
  go_wp2_with fail
  refine wp_region_noPanic ?_
  refine wp_region_plan (fun wx => St Nob w wx [(g4, cw 4 0 ++ (cw 4 0 ++ cw 4 0), 49), (g6, cw 4 (tlN l), 42)]) 4 (.w 0 (.t 2 (.r 1 (.r 3 (.m 4 (.w 5 .nil)))))) (by kernel_rfl) (by kernel_rfl) st4.drew (fun _ _ _ _ _ h => h) ?_
  have hd4 := st4.drew
  clear st4
  refine plan_w (v := ?_) rfl rfl (fun wx => ?_) ?_
  rotate_left 1
  · (go_simp; with_reducible rfl)
  try simp only [Go.Mv.clL]
  refine plan_arr rfl rfl rfl rfl (cw 4 (tlN l)) (fun wx hS => St.rangeL hS 1 rfl 0 _ (by rw [List.drop_zero, List.take_of_length_le (Nat.le_refl _)])) Tryd.underlying42 rfl (by first | (rw [cw_len]; kernel_rfl) | (simp only [List.length_append, cw_len]; kernel_rfl)) ?_
  try simp only [Go.Mv.clL]
  refine plan_r rfl rfl ?_
  go_simp
  refine (nothing_u m gc gp bx by_ _ HOK.out (HCV.out.keep hd4.fr id) (HPM.out.keep hd4.fr id)).mono ?_
  rintro e' w5 ⟨rfl, hf5⟩
  have st5 := hd4.keep hf5
  clear hf5
  clear hd4
  refine ⟨st5, ?_⟩
  try simp only [Go.Mv.clL]
  refine plan_r rfl rfl ?_
  go_simp
  refine (IZero_any (tlN l) HTN.out b HZB.out _).mono ?_
  rintro e' w6 ⟨rfl, hf6⟩
  have st6 := st5.keep hf6
  clear hf6
  clear st5
  refine ⟨st6, ?_⟩
  try simp only [Go.Mv.clL]
  refine plan_m rfl rfl ?_
  refine wp_storeS st6 0 rfl rfl rfl rfl (by first | (simp only [cw_len]; done) | (simp only [List.length_append, cw_len]; done)) (by first | (rw [cw_len]; kernel_rfl) | (simp only [List.length_append, cw_len]; kernel_rfl)) (pt_one _ _ _) ?_
  intro w7 st7
  clear st6
  try simp only [Act.put]
  refine plan_w (v := ?_) rfl rfl (fun wx => ?_) ?_
  rotate_left 1
  · (go_simp; with_reducible rfl)
  try simp only [Go.Mv.clL]
  refine plan_end ?_
  refine NoPanic.normal ?_
  have hr := st7.at 0 rfl
  have hfr := st7.fr
  clear st7
  go_wp2_with fail
  exact bodyPost_ret (results_st2 rfl rfl hr Tryd.underlying49 rfl (by first | (rw [cw_len]; kernel_rfl) | (simp only [List.length_append, cw_len]; kernel_rfl)) rfl) rfl ⟨by unfold ptV ptL; rfl, hfr⟩

set_option maxHeartbeats 16000000 in
set_option maxRecDepth 1000000 in
theorem read_bad (m : Md) (gc gp bx by_ : Nat) (w : World) (hok : m.Ok) (hcv : Has w gc (crvL m gp bx by_) 57) (hpm : Has w gp (mdL m) 72) (a : Option Addr) (n c : Nat) (l : List UInt8) (hb : RdB w a n l) (hc : n ≤ c) (h33 : l.length = 33) (q : Nat) (h0 : (bs l)[0]? = some (.int .u8 (q : Int))) (hq0 : ((q : Int) == 0) = false) (hq2 : ((q : Int) != 2) = true) (hq3 : ((q : Int) != 3) = true) :
    Calls Tryd.prog 29 #[.pointer (some ⟨gc, 0, none⟩), .slice a n c] w fun e w' => e = .returned (.tuple #[ptV m 0 0 0, .bool false]) ∧ Fr Nob w w' := by
  have HOK := Lib.hid hok
  have HCV := Lib.hid hcv
  have HPM := Lib.hid hpm
  clear hok hcv hpm
  have h33n : n = 33 := by have := hb.len; omega
  subst h33n
  obtain ⟨ba, oa, rfl, -⟩ := Rd.at hb (by decide)
  have HB := Lib.hid hb
  have HC := Lib.hid hc
  have HT := Lib.hid (RdB.tail hb c (by decide) hc)
  have H0 := Lib.hid h0
  have HTN := Lib.hid (tlN_lt l h33)
  clear hb hc h33 h0
  have HQ0 := Lib.hid hq0
  have HQ2 := Lib.hid hq2
  have HQ3 := Lib.hid hq3
  clear hq0 hq2 hq3
  have st0 := St.start Nob w
  go_enter Tryd.func29, Tryd.ntmps29
  go_wp2_with (with_reducible refine wl_stop (o := ⟨some 4, _, _, _, _, _⟩) ?_)
  refine wl_allocS st0 rfl rfl (z := .agg (List.replicate 12 (.int .u64 0)).toArray) (by kernel_rfl) (cw 4 0 ++ (cw 4 0 ++ cw 4 0)) (by rw [cw_zero]; rfl) ?_
  intro g4 w1 st1
  clear st0
  have hne : (((33 : Nat) : Int) != 33) = false := by rfl
  go_wp2_with (with_reducible refine wl_stop (o := ⟨some 14, _, _, _, _, _⟩) ?_)
  refine wl_cut rfl rfl Tryd.underlying23 size_u8g rfl 1 33 ⟨_, rfl⟩ rfl (by decide) HC.out ?_
  rw [show (33 : Nat) - 1 = 32 from rfl]
  go_wp2_with fail
  refine (fb_tail _ _ l _ (HT.out.still st1.fr)).mono ?_
  rintro e' w2 ⟨rfl, hf2⟩
  have st2 := st1.keep hf2
  clear st1 hf2
  go_wp2_with (with_reducible refine wl_stop (o := ⟨some 6, _, _, _, _, _⟩) ?_)
  refine wl_allocS st2 rfl rfl (z := .agg #[.int .u64 0, .int .u64 0, .int .u64 0, .int .u64 0]) (by kernel_rfl) (cw 4 0) (by rw [cw_zero]; rfl) ?_
  intro g6 w3 st3
  clear st2
  go_wp2_with (with_reducible refine wl_stop (o := ⟨none, _, _, _, _, _⟩) ?_)
  refine wl_storeS st3 1 rfl rfl rfl rfl rfl (by first | (simp only [cw_len]; done) | (simp only [List.length_append, cw_len]; done)) (by first | (rw [cw_len]; kernel_rfl) | (simp only [List.length_append, cw_len]; kernel_rfl)) (cw_one _ _) ?_
  intro w4 st4
  clear st3
  have hq0 := HQ0.out
  have hq2 := HQ2.out
  have hq3 := HQ3.out
  have hcell := rd_first (HB.out.still st4.fr) _ H0.out
  go_wp2_with fail
  clear hcell
  go_wp2_with fail
  refine wp_region_noPanic ?_
  refine wp_region_planG (fun wx => St Nob w wx [(g4, cw 4 0 ++ (cw 4 0 ++ cw 4 0), 49), (g6, cw 4 (tlN l), 42)]) 22 (.w 0 (.w 1 (.t 2 (.w 3 (.w 4 (.w 5 (.w 6 (.t 7 (.w 8 (.w 9 (.w 10 (.t 11 (.w 12 (.w 13 (.w 14 (.t 15 (.w 16 (.w 17 (.t 18 (.r 19 (.w 20 (.w 21 (.m 22 .nil))))))))))))))))))))))) (by kernel_rfl) (by kernel_rfl) st4.drew (fun _ _ _ _ _ h => h) ?_
  have hd4 := st4.drew
  clear st4
  refine planG_w (v := ?_) rfl rfl (fun wx => ?_) ?_
  rotate_left 1
  · (go_simp; with_reducible rfl)
  try simp only [Go.Mv.clL]
  refine planG_w (v := ?_) rfl rfl (fun wx => ?_) ?_
  rotate_left 1
  · (go_simp; with_reducible rfl)
  try simp only [Go.Mv.clL]
  refine planG_t (v := ?_) rfl rfl (fun wx hS => ?_) ?_
  rotate_left 1
  · (have hc := (rd_first (HB.out.still (St.fr hS)) _ H0.out); clear hS; go_simp; with_reducible rfl)
  try simp only [Go.Mv.clL]
  refine planG_w (v := ?_) rfl rfl (fun wx => ?_) ?_
  rotate_left 1
  · (go_simp; with_reducible rfl)
  try simp only [Go.Mv.clL]
  refine planG_w (v := ?_) rfl rfl (fun wx => ?_) ?_
  rotate_left 1
  · (go_simp; with_reducible rfl)
  try simp only [Go.Mv.clL]
  refine planG_w (v := ?_) rfl rfl (fun wx => ?_) ?_
  rotate_left 1
  · (go_simp; with_reducible rfl)
  try simp only [Go.Mv.clL]
  refine planG_w (v := ?_) rfl rfl (fun wx => ?_) ?_
  rotate_left 1
  · (go_simp; with_reducible rfl)
  try simp only [Go.Mv.clL]
  refine planG_t (v := ?_) rfl rfl (fun wx hS => ?_) ?_
  rotate_left 1
  · (have hc := (rd_first (HB.out.still (St.fr hS)) _ H0.out); clear hS; go_simp; with_reducible rfl)
  try simp only [Go.Mv.clL]
  refine planG_w (v := ?_) rfl rfl (fun wx => ?_) ?_
  rotate_left 1
  · (go_simp; with_reducible rfl)
  try simp only [Go.Mv.clL]
  refine planG_w (v := ?_) rfl rfl (fun wx => ?_) ?_
  rotate_left 1
  · (go_simp; with_reducible rfl)
  try simp only [Go.Mv.clL]
  refine planG_w (v := ?_) rfl rfl (fun wx => ?_) ?_
  rotate_left 1
  · (go_simp; with_reducible rfl)
  try simp only [Go.Mv.clL]
  refine planG_skipt rfl rfl ?_
  try simp only [Go.Mv.clL]
  refine planG_skip rfl rfl ?_
  try simp only [Go.Mv.clL]
  refine planG_skip rfl rfl ?_
  try simp only [Go.Mv.clL]
  refine planG_skip rfl rfl ?_
  try simp only [Go.Mv.clL]
  refine planG_skipt rfl rfl ?_
  try simp only [Go.Mv.clL]
  refine planG_skip rfl rfl ?_
  try simp only [Go.Mv.clL]
  refine planG_skip rfl rfl ?_
  try simp only [Go.Mv.clL]
  refine planG_skipt rfl rfl ?_
  try simp only [Go.Mv.clL]
  refine planG_rskip rfl rfl ⟨hd4, ?_⟩
  try simp only [Go.Mv.clL]
  refine planG_skip rfl rfl ?_
  try simp only [Go.Mv.clL]
  refine planG_w (v := ?_) rfl rfl (fun wx => ?_) ?_
  rotate_left 1
  · (go_simp; with_reducible rfl)
  try simp only [Go.Mv.clL]
  refine planG_m rfl rfl ?_
  go_simp
  try simp only [Go.Mv.clL]
  refine planG_end ?_
  have st5 := hd4
  clear hd4
  refine NoPanic.normal ?_
  go_wp2_with (with_reducible refine wl_stop (o := ⟨some 48, _, _, _, _, _⟩) ?_)
  refine wl_build0 rfl rfl _ built_P0 ?_
  go_wp2_with (with_reducible refine wl_stop (o := ⟨none, _, _, _, _, _⟩) ?_)
  refine wl_storeS st5 0 rfl rfl rfl rfl rfl (by first | (simp only; done) | (simp only [List.length_append, cw_len]; done)) (by first | (rw [cw_len]; kernel_rfl) | (simp only [List.length_append, cw_len]; kernel_rfl)) (pt_one _ _ _) ?_
  intro w6 st6
  clear st5
  have hr := st6.at 0 rfl
  have hfr := st6.fr
  clear st6
  go_wp2_with fail
  exact bodyPost_ret (results_st2 rfl rfl hr Tryd.underlying49 rfl (by first | (rw [cw_len]; kernel_rfl) | (simp only [List.length_append, cw_len]; kernel_rfl)) rfl) rfl ⟨by unfold ptV ptL; rw [el_zero]; rfl, hfr⟩

set_option maxHeartbeats 16000000 in
set_option maxRecDepth 1000000 in
theorem read_ge2 (m : Md) (gc gp bx by_ : Nat) (w : World) (hok : m.Ok) (hcv : Has w gc (crvL m gp bx by_) 57) (hpm : Has w gp (mdL m) 72) (a : Option Addr) (n c : Nat) (l : List UInt8) (hb : RdB w a n l) (hc : n ≤ c) (h33 : l.length = 33) (h0 : (bs l)[0]? = some (.int .u8 2)) (hlt : decide (tlN l < m.M) = false) :
    Calls Tryd.prog 29 #[.pointer (some ⟨gc, 0, none⟩), .slice a n c] w fun e w' => e = .returned (.tuple #[ptV m 0 0 0, .bool false]) ∧ Fr Nob w w' := by
  have HOK := Lib.hid hok
  have HCV := Lib.hid hcv
  have HPM := Lib.hid hpm
  clear hok hcv hpm
  have h33n : n = 33 := by have := hb.len; omega
  subst h33n
  obtain ⟨ba, oa, rfl, -⟩ := Rd.at hb (by decide)
  have HB := Lib.hid hb
  have HC := Lib.hid hc
  have HT := Lib.hid (RdB.tail hb c (by decide) hc)
  have H0 := Lib.hid h0
  have HTN := Lib.hid (tlN_lt l h33)
  clear hb hc h33 h0
  have HDL := Lib.hid hlt
  clear hlt
  have st0 := St.start Nob w
  go_enter Tryd.func29, Tryd.ntmps29
  go_wp2_with (with_reducible refine wl_stop (o := ⟨some 4, _, _, _, _, _⟩) ?_)
  refine wl_allocS st0 rfl rfl (z := .agg (List.replicate 12 (.int .u64 0)).toArray) (by kernel_rfl) (cw 4 0 ++ (cw 4 0 ++ cw 4 0)) (by rw [cw_zero]; rfl) ?_
  intro g4 w1 st1
  clear st0
  have hne : (((33 : Nat) : Int) != 33) = false := by rfl
  go_wp2_with (with_reducible refine wl_stop (o := ⟨some 14, _, _, _, _, _⟩) ?_)
  refine wl_cut rfl rfl Tryd.underlying23 size_u8g rfl 1 33 ⟨_, rfl⟩ rfl (by decide) HC.out ?_
  rw [show (33 : Nat) - 1 = 32 from rfl]
  go_wp2_with fail
  refine (fb_tail _ _ l _ (HT.out.still st1.fr)).mono ?_
  rintro e' w2 ⟨rfl, hf2⟩
  have st2 := st1.keep hf2
  clear st1 hf2
  go_wp2_with (with_reducible refine wl_stop (o := ⟨some 6, _, _, _, _, _⟩) ?_)
  refine wl_allocS st2 rfl rfl (z := .agg #[.int .u64 0, .int .u64 0, .int .u64 0, .int .u64 0]) (by kernel_rfl) (cw 4 0) (by rw [cw_zero]; rfl) ?_
  intro g6 w3 st3
  clear st2
  go_wp2_with (with_reducible refine wl_stop (o := ⟨none, _, _, _, _, _⟩) ?_)
  refine wl_storeS st3 1 rfl rfl rfl rfl rfl (by first | (simp only [cw_len]; done) | (simp only [List.length_append, cw_len]; done)) (by first | (rw [cw_len]; kernel_rfl) | (simp only [List.length_append, cw_len]; kernel_rfl)) (cw_one _ _) ?_
  intro w4 st4
  clear st3
  have hcell := rd_first (HB.out.still st4.fr) _ H0.out
  go_wp2_with fail
  clear hcell
  go_wp2_with fail
  refine wp_region_noPanic ?_
  refine wp_region_planG (fun wx => St Nob w wx [(g4, cw 4 0 ++ (cw 4 0 ++ cw 4 0), 49), (g6, cw 4 (tlN l), 42)]) 22 (.w 0 (.w 1 (.t 2 (.w 3 (.w 4 (.w 5 (.w 6 (.t 7 (.w 8 (.w 9 (.w 10 (.t 11 (.w 12 (.w 13 (.w 14 (.t 15 (.w 16 (.w 17 (.t 18 (.r 19 (.w 20 (.w 21 (.m 22 .nil))))))))))))))))))))))) (by kernel_rfl) (by kernel_rfl) st4.drew (fun _ _ _ _ _ h => h) ?_
  have hd4 := st4.drew
  clear st4
  refine planG_w (v := ?_) rfl rfl (fun wx => ?_) ?_
  rotate_left 1
  · (go_simp; with_reducible rfl)
  try simp only [Go.Mv.clL]
  refine planG_w (v := ?_) rfl rfl (fun wx => ?_) ?_
  rotate_left 1
  · (go_simp; with_reducible rfl)
  try simp only [Go.Mv.clL]
  refine planG_t (v := ?_) rfl rfl (fun wx hS => ?_) ?_
  rotate_left 1
  · (have hc := (rd_first (HB.out.still (St.fr hS)) _ H0.out); clear hS; go_simp; with_reducible rfl)
  try simp only [Go.Mv.clL]
  refine planG_w (v := ?_) rfl rfl (fun wx => ?_) ?_
  rotate_left 1
  · (go_simp; with_reducible rfl)
  try simp only [Go.Mv.clL]
  refine planG_w (v := ?_) rfl rfl (fun wx => ?_) ?_
  rotate_left 1
  · (go_simp; with_reducible rfl)
  try simp only [Go.Mv.clL]
  refine planG_skip rfl rfl ?_
  try simp only [Go.Mv.clL]
  refine planG_skip rfl rfl ?_
  try simp only [Go.Mv.clL]
  refine planG_skipt rfl rfl ?_
  try simp only [Go.Mv.clL]
  refine planG_skip rfl rfl ?_
  try simp only [Go.Mv.clL]
  refine planG_w (v := ?_) rfl rfl (fun wx => ?_) ?_
  rotate_left 1
  · (go_simp; with_reducible rfl)
  try simp only [Go.Mv.clL]
  refine planG_w (v := ?_) rfl rfl (fun wx => ?_) ?_
  rotate_left 1
  · (go_simp; with_reducible rfl)
  try simp only [Go.Mv.clL]
  refine planG_arr rfl rfl rfl rfl (cw 4 (tlN l)) (fun wx hS => St.rangeL hS 1 rfl 0 _ (by rw [List.drop_zero, List.take_of_length_le (Nat.le_refl _)])) Tryd.underlying42 rfl (by first | (rw [cw_len]; kernel_rfl) | (simp only [List.length_append, cw_len]; kernel_rfl)) ?_
  try simp only [Go.Mv.clL]
  refine planG_w (v := ?_) rfl rfl (fun wx => ?_) ?_
  rotate_left 1
  · (go_simp; with_reducible rfl)
  try simp only [Go.Mv.clL]
  refine planG_w (v := ?_) rfl rfl (fun wx => ?_) ?_
  rotate_left 1
  · (go_simp; with_reducible rfl)
  try simp only [Go.Mv.clL]
  refine planG_w (v := ?_) rfl rfl (fun wx => ?_) ?_
  rotate_left 1
  · (go_simp; with_reducible rfl)
  try simp only [Go.Mv.clL]
  refine planG_t (v := ?_) rfl rfl (fun wx hS => ?_) ?_
  rotate_left 1
  · (have hc := (HCV.out.keep (St.fr hS) id).cell (i := 0) rfl; clear hS; go_simp; with_reducible rfl)
  try simp only [Go.Mv.clL]
  refine planG_w (v := ?_) rfl rfl (fun wx => ?_) ?_
  rotate_left 1
  · (go_simp; with_reducible rfl)
  try simp only [Go.Mv.clL]
  refine planG_w (v := ?_) rfl rfl (fun wx => ?_) ?_
  rotate_left 1
  · (go_simp; with_reducible rfl)
  try simp only [Go.Mv.clL]
  refine planG_arr rfl rfl rfl rfl (cw 4 m.M) (fun wx hS => (HPM.out.keep (St.fr hS) id).range 0 _ (md_M m)) Tryd.underlying42 rfl (by first | (rw [cw_len]; kernel_rfl) | (simp only [List.length_append, cw_len]; kernel_rfl)) ?_
  try simp only [Go.Mv.clL]
  refine planG_r rfl rfl ?_
  go_simp
  refine (MLess_v (tlN l) m.M _ HTN.out HOK.out.lt false HDL.out).mono ?_
  rintro e' w5 ⟨rfl, hf5⟩
  have st5 := hd4.keep hf5
  clear hf5
  clear hd4
  refine ⟨st5, ?_⟩
  try simp only [Go.Mv.clL]
  refine planG_w (v := ?_) rfl rfl (fun wx => ?_) ?_
  rotate_left 1
  · (go_simp; with_reducible rfl)
  try simp only [Go.Mv.clL]
  refine planG_w (v := ?_) rfl rfl (fun wx => ?_) ?_
  rotate_left 1
  · (go_simp; with_reducible rfl)
  try simp only [Go.Mv.clL]
  refine planG_m rfl rfl ?_
  go_simp
  try simp only [Go.Mv.clL]
  refine planG_end ?_
  refine NoPanic.normal ?_
  go_wp2_with (with_reducible refine wl_stop (o := ⟨some 48, _, _, _, _, _⟩) ?_)
  refine wl_build0 rfl rfl _ built_P0 ?_
  go_wp2_with (with_reducible refine wl_stop (o := ⟨none, _, _, _, _, _⟩) ?_)
  refine wl_storeS st5 0 rfl rfl rfl rfl rfl (by first | (simp only; done) | (simp only [List.length_append, cw_len]; done)) (by first | (rw [cw_len]; kernel_rfl) | (simp only [List.length_append, cw_len]; kernel_rfl)) (pt_one _ _ _) ?_
  intro w6 st6
  clear st5
  have hr := st6.at 0 rfl
  have hfr := st6.fr
  clear st6
  go_wp2_with fail
  exact bodyPost_ret (results_st2 rfl rfl hr Tryd.underlying49 rfl (by first | (rw [cw_len]; kernel_rfl) | (simp only [List.length_append, cw_len]; kernel_rfl)) rfl) rfl ⟨by unfold ptV ptL; rw [el_zero]; rfl, hfr⟩

set_option maxHeartbeats 16000000 in
set_option maxRecDepth 1000000 in
theorem read_pt2 (m : Md) (gc gp bx by_ : Nat) (w : World) (hok : m.Ok) (hcv : Has w gc (crvL m gp bx by_) 57) (hpm : Has w gp (mdL m) 72) (a : Option Addr) (n c : Nat) (l : List UInt8) (hb : RdB w a n l) (hc : n ≤ c) (h33 : l.length = 33) (h0 : (bs l)[0]? = some (.int .u8 2)) (hlt : decide (tlN l < m.M) = true) (r : Bool) (hr : rtOk m.M (crvN (tlN l)) = r) :
    Calls Tryd.prog 29 #[.pointer (some ⟨gc, 0, none⟩), .slice a n c] w fun e w' => e = .returned (.tuple #[ptV m (tlN l) (atY m.M (tlN l)) 1, .bool r]) ∧ Fr Nob w w' := by
  have HOK := Lib.hid hok
  have HCV := Lib.hid hcv
  have HPM := Lib.hid hpm
  clear hok hcv hpm
  have h33n : n = 33 := by have := hb.len; omega
  subst h33n
  obtain ⟨ba, oa, rfl, -⟩ := Rd.at hb (by decide)
  have HB := Lib.hid hb
  have HC := Lib.hid hc
  have HT := Lib.hid (RdB.tail hb c (by decide) hc)
  have H0 := Lib.hid h0
  have HTN := Lib.hid (tlN_lt l h33)
  clear hb hc h33 h0
  have HDL := Lib.hid hlt
  clear hlt
  have HR := Lib.hid hr
  clear hr
  have st0 := St.start Nob w
  go_enter Tryd.func29, Tryd.ntmps29
  go_wp2_with (with_reducible refine wl_stop (o := ⟨some 4, _, _, _, _, _⟩) ?_)
  refine wl_allocS st0 rfl rfl (z := .agg (List.replicate 12 (.int .u64 0)).toArray) (by kernel_rfl) (cw 4 0 ++ (cw 4 0 ++ cw 4 0)) (by rw [cw_zero]; rfl) ?_
  intro g4 w1 st1
  clear st0
  have hne : (((33 : Nat) : Int) != 33) = false := by rfl
  go_wp2_with (with_reducible refine wl_stop (o := ⟨some 14, _, _, _, _, _⟩) ?_)
  refine wl_cut rfl rfl Tryd.underlying23 size_u8g rfl 1 33 ⟨_, rfl⟩ rfl (by decide) HC.out ?_
  rw [show (33 : Nat) - 1 = 32 from rfl]
  go_wp2_with fail
  refine (fb_tail _ _ l _ (HT.out.still st1.fr)).mono ?_
  rintro e' w2 ⟨rfl, hf2⟩
  have st2 := st1.keep hf2
  clear st1 hf2
  go_wp2_with (with_reducible refine wl_stop (o := ⟨some 6, _, _, _, _, _⟩) ?_)
  refine wl_allocS st2 rfl rfl (z := .agg #[.int .u64 0, .int .u64 0, .int .u64 0, .int .u64 0]) (by kernel_rfl) (cw 4 0) (by rw [cw_zero]; rfl) ?_
  intro g6 w3 st3
  clear st2
  go_wp2_with (with_reducible refine wl_stop (o := ⟨none, _, _, _, _, _⟩) ?_)
  refine wl_storeS st3 1 rfl rfl rfl rfl rfl (by first | (simp only [cw_len]; done) | (simp only [List.length_append, cw_len]; done)) (by first | (rw [cw_len]; kernel_rfl) | (simp only [List.length_append, cw_len]; kernel_rfl)) (cw_one _ _) ?_
  intro w4 st4
  clear st3
  have hcell := rd_first (HB.out.still st4.fr) _ H0.out
  go_wp2_with fail
  clear hcell
  go_wp2_with fail
  refine wp_region_noPanic ?_
  refine wp_region_planG (fun wx => St Nob w wx [(g4, cw 4 0 ++ (cw 4 0 ++ cw 4 0), 49), (g6, cw 4 (tlN l), 42)]) 22 (.w 0 (.w 1 (.t 2 (.w 3 (.w 4 (.w 5 (.w 6 (.t 7 (.w 8 (.w 9 (.w 10 (.t 11 (.w 12 (.w 13 (.w 14 (.t 15 (.w 16 (.w 17 (.t 18 (.r 19 (.w 20 (.w 21 (.m 22 .nil))))))))))))))))))))))) (by kernel_rfl) (by kernel_rfl) st4.drew (fun _ _ _ _ _ h => h) ?_
  have hd4 := st4.drew
  clear st4
  refine planG_w (v := ?_) rfl rfl (fun wx => ?_) ?_
  rotate_left 1
  · (go_simp; with_reducible rfl)
  try simp only [Go.Mv.clL]
  refine planG_w (v := ?_) rfl rfl (fun wx => ?_) ?_
  rotate_left 1
  · (go_simp; with_reducible rfl)
  try simp only [Go.Mv.clL]
  refine planG_t (v := ?_) rfl rfl (fun wx hS => ?_) ?_
  rotate_left 1
  · (have hc := (rd_first (HB.out.still (St.fr hS)) _ H0.out); clear hS; go_simp; with_reducible rfl)
  try simp only [Go.Mv.clL]
  refine planG_w (v := ?_) rfl rfl (fun wx => ?_) ?_
  rotate_left 1
  · (go_simp; with_reducible rfl)
  try simp only [Go.Mv.clL]
  refine planG_w (v := ?_) rfl rfl (fun wx => ?_) ?_
  rotate_left 1
  · (go_simp; with_reducible rfl)
  try simp only [Go.Mv.clL]
  refine planG_skip rfl rfl ?_
  try simp only [Go.Mv.clL]
  refine planG_skip rfl rfl ?_
  try simp only [Go.Mv.clL]
  refine planG_skipt rfl rfl ?_
  try simp only [Go.Mv.clL]
  refine planG_skip rfl rfl ?_
  try simp only [Go.Mv.clL]
  refine planG_w (v := ?_) rfl rfl (fun wx => ?_) ?_
  rotate_left 1
  · (go_simp; with_reducible rfl)
  try simp only [Go.Mv.clL]
  refine planG_w (v := ?_) rfl rfl (fun wx => ?_) ?_
  rotate_left 1
  · (go_simp; with_reducible rfl)
  try simp only [Go.Mv.clL]
  refine planG_arr rfl rfl rfl rfl (cw 4 (tlN l)) (fun wx hS => St.rangeL hS 1 rfl 0 _ (by rw [List.drop_zero, List.take_of_length_le (Nat.le_refl _)])) Tryd.underlying42 rfl (by first | (rw [cw_len]; kernel_rfl) | (simp only [List.length_append, cw_len]; kernel_rfl)) ?_
  try simp only [Go.Mv.clL]
  refine planG_w (v := ?_) rfl rfl (fun wx => ?_) ?_
  rotate_left 1
  · (go_simp; with_reducible rfl)
  try simp only [Go.Mv.clL]
  refine planG_w (v := ?_) rfl rfl (fun wx => ?_) ?_
  rotate_left 1
  · (go_simp; with_reducible rfl)
  try simp only [Go.Mv.clL]
  refine planG_w (v := ?_) rfl rfl (fun wx => ?_) ?_
  rotate_left 1
  · (go_simp; with_reducible rfl)
  try simp only [Go.Mv.clL]
  refine planG_t (v := ?_) rfl rfl (fun wx hS => ?_) ?_
  rotate_left 1
  · (have hc := (HCV.out.keep (St.fr hS) id).cell (i := 0) rfl; clear hS; go_simp; with_reducible rfl)
  try simp only [Go.Mv.clL]
  refine planG_w (v := ?_) rfl rfl (fun wx => ?_) ?_
  rotate_left 1
  · (go_simp; with_reducible rfl)
  try simp only [Go.Mv.clL]
  refine planG_w (v := ?_) rfl rfl (fun wx => ?_) ?_
  rotate_left 1
  · (go_simp; with_reducible rfl)
  try simp only [Go.Mv.clL]
  refine planG_arr rfl rfl rfl rfl (cw 4 m.M) (fun wx hS => (HPM.out.keep (St.fr hS) id).range 0 _ (md_M m)) Tryd.underlying42 rfl (by first | (rw [cw_len]; kernel_rfl) | (simp only [List.length_append, cw_len]; kernel_rfl)) ?_
  try simp only [Go.Mv.clL]
  refine planG_r rfl rfl ?_
  go_simp
  refine (MLess_v (tlN l) m.M _ HTN.out HOK.out.lt true HDL.out).mono ?_
  rintro e' w5 ⟨rfl, hf5⟩
  have st5 := hd4.keep hf5
  clear hf5
  clear hd4
  refine ⟨st5, ?_⟩
  try simp only [Go.Mv.clL]
  refine planG_w (v := ?_) rfl rfl (fun wx => ?_) ?_
  rotate_left 1
  · (go_simp; with_reducible rfl)
  try simp only [Go.Mv.clL]
  refine planG_w (v := ?_) rfl rfl (fun wx => ?_) ?_
  rotate_left 1
  · (go_simp; with_reducible rfl)
  try simp only [Go.Mv.clL]
  refine planG_m rfl rfl ?_
  go_simp
  try simp only [Go.Mv.clL]
  refine planG_end ?_
  refine NoPanic.normal ?_
  go_wp2_with fail
  refine wp_region_noPanic ?_
  refine wp_region_plan (fun wx => St Nob w wx [(g4, cw 4 0 ++ (cw 4 0 ++ cw 4 0), 49), (g6, cw 4 (tlN l), 42)]) 13 (.w 0 (.w 1 (.w 2 (.w 3 (.t 4 (.t 5 (.b 6 11 (.b 7 11 (.w 8 (.w 9 (.w 10 (.r 11 (.r 12 (.m 13 .nil)))))) (.r 7 (.w 8 (.w 9 (.w 10 (.r 12 (.m 13 .nil))))))) (.r 6 (.r 7 (.w 8 (.w 9 (.w 10 (.r 12 (.m 13 .nil)))))))))))))) (by kernel_rfl) (by kernel_rfl) st5.drew (fun _ _ _ _ _ h => h) ?_
  have hd5 := st5.drew
  clear st5
  refine plan_w (v := ?_) rfl rfl (fun wx => ?_) ?_
  rotate_left 1
  · (go_simp; with_reducible rfl)
  try simp only [Go.Mv.clL]
  refine plan_w (v := ?_) rfl rfl (fun wx => ?_) ?_
  rotate_left 1
  · (go_simp; with_reducible rfl)
  try simp only [Go.Mv.clL]
  refine plan_w (v := ?_) rfl rfl (fun wx => ?_) ?_
  rotate_left 1
  · (go_simp; with_reducible rfl)
  try simp only [Go.Mv.clL]
  refine plan_w (v := ?_) rfl rfl (fun wx => ?_) ?_
  rotate_left 1
  · (go_simp; with_reducible rfl)
  try simp only [Go.Mv.clL]
  refine plan_t (v := ?_) rfl rfl (fun wx hS => ?_) ?_
  rotate_left 1
  · (have hc := (HCV.out.keep (St.fr hS) id).cell (i := 0) rfl; clear hS; go_simp; with_reducible rfl)
  try simp only [Go.Mv.clL]
  refine plan_arr rfl rfl rfl rfl (cw 4 (tlN l)) (fun wx hS => St.rangeL hS 1 rfl 0 _ (by rw [List.drop_zero, List.take_of_length_le (Nat.le_refl _)])) Tryd.underlying42 rfl (by first | (rw [cw_len]; kernel_rfl) | (simp only [List.length_append, cw_len]; kernel_rfl)) ?_
  try simp only [Go.Mv.clL]
  refine plan_key1 (C := fun g7 wz => St Nob w wz [(g4, cw 4 0 ++ (cw 4 0 ++ cw 4 0), 49), (g6, cw 4 (tlN l), 42), (g7, cw 4 (elN m (tlN l)) ++ (cw 4 (elN m (atY m.M (tlN l))) ++ cw 4 (elN m 1)), 49)]) (F := ?_) (fun key => ?_) ?_
  rotate_left 1
  · skip
    refine plan_b0 rfl rfl rfl rfl ?_ ?_
    · skip
      go_simp
      refine (MTo_any m gp _ HOK.out (HPM.out.keep hd5.fr id) (tlN l) HTN.out).mono ?_
      rintro e' w6 ⟨rfl, hf6⟩
      have st6 := hd5.keep hf6
      clear hf6
      refine ⟨st6, ?_⟩
      try simp only [Go.Mv.clL]
      refine plan_b0 rfl rfl rfl rfl ?_ ?_
      · skip
        go_simp
        refine (at_u m gc gp bx by_ _ HOK.out (HCV.out.keep st6.fr id) (HPM.out.keep st6.fr id) (tlN l) r HR.out).mono ?_
        rintro e' w7 ⟨rfl, hf7⟩
        have st7 := st6.keep hf7
        clear hf7
        refine ⟨st7, ?_⟩
        try simp only [Go.Mv.clL]
        refine plan_w (v := ?_) rfl rfl (fun wx => ?_) ?_
        rotate_left 1
        · (go_simp; with_reducible rfl)
        try simp only [Go.Mv.clL]
        refine plan_w (v := ?_) rfl rfl (fun wx => ?_) ?_
        rotate_left 1
        · (go_simp; with_reducible rfl)
        try simp only [Go.Mv.clL]
        refine plan_w (v := ?_) rfl rfl (fun wx => ?_) ?_
        rotate_left 1
        · (go_simp; with_reducible rfl)
        try simp only [Go.Mv.clL]
        refine plan_r rfl rfl ?_
        refine wp_allocS st7 rfl (z := .agg #[.int .u64 0, .int .u64 0, .int .u64 0, .int .u64 0, .int .u64 0, .int .u64 0, .int .u64 0, .int .u64 0, .int .u64 0, .int .u64 0, .int .u64 0, .int .u64 0]) (by kernel_rfl) (cw 12 0) (by rw [cw_zero]; rfl) ?_
        intro g7 w8 st8
        refine ⟨St.less st8 (by simp), ?_⟩
        try simp only [Go.Mv.clL]
        refine plan_r rfl rfl ?_
        refine wp_storeS st8 2 rfl rfl rfl rfl (by first | (simp only [cw_len]; done) | (simp only [List.length_append, cw_len]; done)) (by first | (rw [cw_len]; kernel_rfl) | (simp only [List.length_append, cw_len]; kernel_rfl)) (pt_one _ _ _) ?_
        intro w9 st9
        refine ⟨St.less st9 (by simp), ?_⟩
        try simp only [Act.put]
        refine plan_m rfl rfl ?_
        go_simp
        try simp only [Go.Mv.clL]
        refine plan_end ?_
        exact key g7 _ st9
      · skip
        refine wp_allocS st6 rfl (z := .agg #[.int .u64 0, .int .u64 0, .int .u64 0, .int .u64 0, .int .u64 0, .int .u64 0, .int .u64 0, .int .u64 0, .int .u64 0, .int .u64 0, .int .u64 0, .int .u64 0]) (by kernel_rfl) (cw 12 0) (by rw [cw_zero]; rfl) ?_
        intro g7 w10 st10
        refine ⟨St.less st10 (by simp), ?_⟩
        try simp only [Go.Mv.clL]
        refine plan_r rfl rfl ?_
        go_simp
        refine (at_u m gc gp bx by_ _ HOK.out (HCV.out.keep st10.fr id) (HPM.out.keep st10.fr id) (tlN l) r HR.out).mono ?_
        rintro e' w11 ⟨rfl, hf11⟩
        have st11 := st10.keep hf11
        clear hf11
        refine ⟨St.less st11 (by simp), ?_⟩
        try simp only [Go.Mv.clL]
        refine plan_w (v := ?_) rfl rfl (fun wx => ?_) ?_
        rotate_left 1
        · (go_simp; with_reducible rfl)
        try simp only [Go.Mv.clL]
        refine plan_w (v := ?_) rfl rfl (fun wx => ?_) ?_
        rotate_left 1
        · (go_simp; with_reducible rfl)
        try simp only [Go.Mv.clL]
        refine plan_w (v := ?_) rfl rfl (fun wx => ?_) ?_
        rotate_left 1
        · (go_simp; with_reducible rfl)
        try simp only [Go.Mv.clL]
        refine plan_r rfl rfl ?_
        refine wp_storeS st11 2 rfl rfl rfl rfl (by first | (simp only [cw_len]; done) | (simp only [List.length_append, cw_len]; done)) (by first | (rw [cw_len]; kernel_rfl) | (simp only [List.length_append, cw_len]; kernel_rfl)) (pt_one _ _ _) ?_
        intro w12 st12
        refine ⟨St.less st12 (by simp), ?_⟩
        try simp only [Act.put]
        refine plan_m rfl rfl ?_
        go_simp
        try simp only [Go.Mv.clL]
        refine plan_end ?_
        exact key g7 _ st12
    · skip
      refine wp_allocS hd5 rfl (z := .agg #[.int .u64 0, .int .u64 0, .int .u64 0, .int .u64 0, .int .u64 0, .int .u64 0, .int .u64 0, .int .u64 0, .int .u64 0, .int .u64 0, .int .u64 0, .int .u64 0]) (by kernel_rfl) (cw 12 0) (by rw [cw_zero]; rfl) ?_
      intro g7 w13 st13
      refine ⟨St.less st13 (by simp), ?_⟩
      try simp only [Go.Mv.clL]
      refine plan_r rfl rfl ?_
      go_simp
      refine (MTo_any m gp _ HOK.out (HPM.out.keep st13.fr id) (tlN l) HTN.out).mono ?_
      rintro e' w14 ⟨rfl, hf14⟩
      have st14 := st13.keep hf14
      clear hf14
      refine ⟨St.less st14 (by simp), ?_⟩
      try simp only [Go.Mv.clL]
      refine plan_r rfl rfl ?_
      go_simp
      refine (at_u m gc gp bx by_ _ HOK.out (HCV.out.keep st14.fr id) (HPM.out.keep st14.fr id) (tlN l) r HR.out).mono ?_
      rintro e' w15 ⟨rfl, hf15⟩
      have st15 := st14.keep hf15
      clear hf15
      refine ⟨St.less st15 (by simp), ?_⟩
      try simp only [Go.Mv.clL]
      refine plan_w (v := ?_) rfl rfl (fun wx => ?_) ?_
      rotate_left 1
      · (go_simp; with_reducible rfl)
      try simp only [Go.Mv.clL]
      refine plan_w (v := ?_) rfl rfl (fun wx => ?_) ?_
      rotate_left 1
      · (go_simp; with_reducible rfl)
      try simp only [Go.Mv.clL]
      refine plan_w (v := ?_) rfl rfl (fun wx => ?_) ?_
      rotate_left 1
      · (go_simp; with_reducible rfl)
      try simp only [Go.Mv.clL]
      refine plan_r rfl rfl ?_
      refine wp_storeS st15 2 rfl rfl rfl rfl (by first | (simp only [cw_len]; done) | (simp only [List.length_append, cw_len]; done)) (by first | (rw [cw_len]; kernel_rfl) | (simp only [List.length_append, cw_len]; kernel_rfl)) (pt_one _ _ _) ?_
      intro w16 st16
      refine ⟨St.less st16 (by simp), ?_⟩
      try simp only [Act.put]
      refine plan_m rfl rfl ?_
      go_simp
      try simp only [Go.Mv.clL]
      refine plan_end ?_
      exact key g7 _ st16
  intro g7 w17 st17
  have st17 : St Nob w w17 [(g4, cw 4 0 ++ (cw 4 0 ++ cw 4 0), 49), (g6, cw 4 (tlN l), 42), (g7, cw 4 (elN m (tlN l)) ++ (cw 4 (elN m (atY m.M (tlN l))) ++ cw 4 (elN m 1)), 49)] := st17
  clear hd5
  refine NoPanic.normal ?_
  have hcell := rd_first (HB.out.still st17.fr) _ H0.out
  go_wp2_with (with_reducible refine wl_stop (o := ⟨some 67, _, _, _, _, _⟩) ?_)
  refine wl_loadSt st17 2 rfl rfl rfl Tryd.underlying49 rfl rfl (by first | (rw [cw_len]; kernel_rfl) | (simp only [List.length_append, cw_len]; kernel_rfl)) ?_
  go_wp2_with (with_reducible refine wl_stop (o := ⟨none, _, _, _, _, _⟩) ?_)
  refine wl_storeS st17 0 rfl rfl rfl rfl rfl (by first | (simp only [cw_len]; done) | (simp only [List.length_append, cw_len]; done)) (by first | (rw [cw_len]; kernel_rfl) | (simp only [List.length_append, cw_len]; kernel_rfl)) (pt_one _ _ _) ?_
  intro w18 st18
  clear st17
  have hr := st18.at 0 rfl
  have hfr := st18.fr
  clear st18
  go_wp2_with fail
  exact bodyPost_ret (results_st2 rfl rfl hr Tryd.underlying49 rfl (by first | (rw [cw_len]; kernel_rfl) | (simp only [List.length_append, cw_len]; kernel_rfl)) rfl) rfl ⟨by unfold ptV ptL; rfl, hfr⟩

set_option maxHeartbeats 16000000 in
set_option maxRecDepth 1000000 in
theorem read_ge3 (m : Md) (gc gp bx by_ : Nat) (w : World) (hok : m.Ok) (hcv : Has w gc (crvL m gp bx by_) 57) (hpm : Has w gp (mdL m) 72) (a : Option Addr) (n c : Nat) (l : List UInt8) (hb : RdB w a n l) (hc : n ≤ c) (h33 : l.length = 33) (h0 : (bs l)[0]? = some (.int .u8 3)) (hlt : decide (tlN l < m.M) = false) :
    Calls Tryd.prog 29 #[.pointer (some ⟨gc, 0, none⟩), .slice a n c] w fun e w' => e = .returned (.tuple #[ptV m 0 0 0, .bool false]) ∧ Fr Nob w w' := by
  have HOK := Lib.hid hok
  have HCV := Lib.hid hcv
  have HPM := Lib.hid hpm
  clear hok hcv hpm
  have h33n : n = 33 := by have := hb.len; omega
  subst h33n
  obtain ⟨ba, oa, rfl, -⟩ := Rd.at hb (by decide)
  have HB := Lib.hid hb
  have HC := Lib.hid hc
  have HT := Lib.hid (RdB.tail hb c (by decide) hc)
  have H0 := Lib.hid h0
  have HTN := Lib.hid (tlN_lt l h33)
  clear hb hc h33 h0
  have HDL := Lib.hid hlt
  clear hlt
  have st0 := St.start Nob w
  go_enter Tryd.func29, Tryd.ntmps29
  go_wp2_with (with_reducible refine wl_stop (o := ⟨some 4, _, _, _, _, _⟩) ?_)
  refine wl_allocS st0 rfl rfl (z := .agg (List.replicate 12 (.int .u64 0)).toArray) (by kernel_rfl) (cw 4 0 ++ (cw 4 0 ++ cw 4 0)) (by rw [cw_zero]; rfl) ?_
  intro g4 w1 st1
  clear st0
  have hne : (((33 : Nat) : Int) != 33) = false := by rfl
  go_wp2_with (with_reducible refine wl_stop (o := ⟨some 14, _, _, _, _, _⟩) ?_)
  refine wl_cut rfl rfl Tryd.underlying23 size_u8g rfl 1 33 ⟨_, rfl⟩ rfl (by decide) HC.out ?_
  rw [show (33 : Nat) - 1 = 32 from rfl]
  go_wp2_with fail
  refine (fb_tail _ _ l _ (HT.out.still st1.fr)).mono ?_
  rintro e' w2 ⟨rfl, hf2⟩
  have st2 := st1.keep hf2
  clear st1 hf2
  go_wp2_with (with_reducible refine wl_stop (o := ⟨some 6, _, _, _, _, _⟩) ?_)
  refine wl_allocS st2 rfl rfl (z := .agg #[.int .u64 0, .int .u64 0, .int .u64 0, .int .u64 0]) (by kernel_rfl) (cw 4 0) (by rw [cw_zero]; rfl) ?_
  intro g6 w3 st3
  clear st2
  go_wp2_with (with_reducible refine wl_stop (o := ⟨none, _, _, _, _, _⟩) ?_)
  refine wl_storeS st3 1 rfl rfl rfl rfl rfl (by first | (simp only [cw_len]; done) | (simp only [List.length_append, cw_len]; done)) (by first | (rw [cw_len]; kernel_rfl) | (simp only [List.length_append, cw_len]; kernel_rfl)) (cw_one _ _) ?_
  intro w4 st4
  clear st3
  have hcell := rd_first (HB.out.still st4.fr) _ H0.out
  go_wp2_with fail
  clear hcell
  go_wp2_with fail
  refine wp_region_noPanic ?_
  refine wp_region_planG (fun wx => St Nob w wx [(g4, cw 4 0 ++ (cw 4 0 ++ cw 4 0), 49), (g6, cw 4 (tlN l), 42)]) 22 (.w 0 (.w 1 (.t 2 (.w 3 (.w 4 (.w 5 (.w 6 (.t 7 (.w 8 (.w 9 (.w 10 (.t 11 (.w 12 (.w 13 (.w 14 (.t 15 (.w 16 (.w 17 (.t 18 (.r 19 (.w 20 (.w 21 (.m 22 .nil))))))))))))))))))))))) (by kernel_rfl) (by kernel_rfl) st4.drew (fun _ _ _ _ _ h => h) ?_
  have hd4 := st4.drew
  clear st4
  refine planG_w (v := ?_) rfl rfl (fun wx => ?_) ?_
  rotate_left 1
  · (go_simp; with_reducible rfl)
  try simp only [Go.Mv.clL]
  refine planG_w (v := ?_) rfl rfl (fun wx => ?_) ?_
  rotate_left 1
  · (go_simp; with_reducible rfl)
  try simp only [Go.Mv.clL]
  refine planG_t (v := ?_) rfl rfl (fun wx hS => ?_) ?_
  rotate_left 1
  · (have hc := (rd_first (HB.out.still (St.fr hS)) _ H0.out); clear hS; go_simp; with_reducible rfl)
  try simp only [Go.Mv.clL]
  refine planG_w (v := ?_) rfl rfl (fun wx => ?_) ?_
  rotate_left 1
  · (go_simp; with_reducible rfl)
  try simp only [Go.Mv.clL]
  refine planG_w (v := ?_) rfl rfl (fun wx => ?_) ?_
  rotate_left 1
  · (go_simp; with_reducible rfl)
  try simp only [Go.Mv.clL]
  refine planG_w (v := ?_) rfl rfl (fun wx => ?_) ?_
  rotate_left 1
  · (go_simp; with_reducible rfl)
  try simp only [Go.Mv.clL]
  refine planG_w (v := ?_) rfl rfl (fun wx => ?_) ?_
  rotate_left 1
  · (go_simp; with_reducible rfl)
  try simp only [Go.Mv.clL]
  refine planG_t (v := ?_) rfl rfl (fun wx hS => ?_) ?_
  rotate_left 1
  · (have hc := (rd_first (HB.out.still (St.fr hS)) _ H0.out); clear hS; go_simp; with_reducible rfl)
  try simp only [Go.Mv.clL]
  refine planG_w (v := ?_) rfl rfl (fun wx => ?_) ?_
  rotate_left 1
  · (go_simp; with_reducible rfl)
  try simp only [Go.Mv.clL]
  refine planG_w (v := ?_) rfl rfl (fun wx => ?_) ?_
  rotate_left 1
  · (go_simp; with_reducible rfl)
  try simp only [Go.Mv.clL]
  refine planG_w (v := ?_) rfl rfl (fun wx => ?_) ?_
  rotate_left 1
  · (go_simp; with_reducible rfl)
  try simp only [Go.Mv.clL]
  refine planG_arr rfl rfl rfl rfl (cw 4 (tlN l)) (fun wx hS => St.rangeL hS 1 rfl 0 _ (by rw [List.drop_zero, List.take_of_length_le (Nat.le_refl _)])) Tryd.underlying42 rfl (by first | (rw [cw_len]; kernel_rfl) | (simp only [List.length_append, cw_len]; kernel_rfl)) ?_
  try simp only [Go.Mv.clL]
  refine planG_w (v := ?_) rfl rfl (fun wx => ?_) ?_
  rotate_left 1
  · (go_simp; with_reducible rfl)
  try simp only [Go.Mv.clL]
  refine planG_w (v := ?_) rfl rfl (fun wx => ?_) ?_
  rotate_left 1
  · (go_simp; with_reducible rfl)
  try simp only [Go.Mv.clL]
  refine planG_w (v := ?_) rfl rfl (fun wx => ?_) ?_
  rotate_left 1
  · (go_simp; with_reducible rfl)
  try simp only [Go.Mv.clL]
  refine planG_t (v := ?_) rfl rfl (fun wx hS => ?_) ?_
  rotate_left 1
  · (have hc := (HCV.out.keep (St.fr hS) id).cell (i := 0) rfl; clear hS; go_simp; with_reducible rfl)
  try simp only [Go.Mv.clL]
  refine planG_w (v := ?_) rfl rfl (fun wx => ?_) ?_
  rotate_left 1
  · (go_simp; with_reducible rfl)
  try simp only [Go.Mv.clL]
  refine planG_w (v := ?_) rfl rfl (fun wx => ?_) ?_
  rotate_left 1
  · (go_simp; with_reducible rfl)
  try simp only [Go.Mv.clL]
  refine planG_arr rfl rfl rfl rfl (cw 4 m.M) (fun wx hS => (HPM.out.keep (St.fr hS) id).range 0 _ (md_M m)) Tryd.underlying42 rfl (by first | (rw [cw_len]; kernel_rfl) | (simp only [List.length_append, cw_len]; kernel_rfl)) ?_
  try simp only [Go.Mv.clL]
  refine planG_r rfl rfl ?_
  go_simp
  refine (MLess_v (tlN l) m.M _ HTN.out HOK.out.lt false HDL.out).mono ?_
  rintro e' w5 ⟨rfl, hf5⟩
  have st5 := hd4.keep hf5
  clear hf5
  clear hd4
  refine ⟨st5, ?_⟩
  try simp only [Go.Mv.clL]
  refine planG_w (v := ?_) rfl rfl (fun wx => ?_) ?_
  rotate_left 1
  · (go_simp; with_reducible rfl)
  try simp only [Go.Mv.clL]
  refine planG_w (v := ?_) rfl rfl (fun wx => ?_) ?_
  rotate_left 1
  · (go_simp; with_reducible rfl)
  try simp only [Go.Mv.clL]
  refine planG_m rfl rfl ?_
  go_simp
  try simp only [Go.Mv.clL]
  refine planG_end ?_
  refine NoPanic.normal ?_
  go_wp2_with (with_reducible refine wl_stop (o := ⟨some 48, _, _, _, _, _⟩) ?_)
  refine wl_build0 rfl rfl _ built_P0 ?_
  go_wp2_with (with_reducible refine wl_stop (o := ⟨none, _, _, _, _, _⟩) ?_)
  refine wl_storeS st5 0 rfl rfl rfl rfl rfl (by first | (simp only; done) | (simp only [List.length_append, cw_len]; done)) (by first | (rw [cw_len]; kernel_rfl) | (simp only [List.length_append, cw_len]; kernel_rfl)) (pt_one _ _ _) ?_
  intro w6 st6
  clear st5
  have hr := st6.at 0 rfl
  have hfr := st6.fr
  clear st6
  go_wp2_with fail
  exact bodyPost_ret (results_st2 rfl rfl hr Tryd.underlying49 rfl (by first | (rw [cw_len]; kernel_rfl) | (simp only [List.length_append, cw_len]; kernel_rfl)) rfl) rfl ⟨by unfold ptV ptL; rw [el_zero]; rfl, hfr⟩

set_option maxHeartbeats 16000000 in
set_option maxRecDepth 1000000 in
theorem read_pt3 (m : Md) (gc gp bx by_ : Nat) (w : World) (hok : m.Ok) (hcv : Has w gc (crvL m gp bx by_) 57) (hpm : Has w gp (mdL m) 72) (a : Option Addr) (n c : Nat) (l : List UInt8) (hb : RdB w a n l) (hc : n ≤ c) (h33 : l.length = 33) (h0 : (bs l)[0]? = some (.int .u8 3)) (hlt : decide (tlN l < m.M) = true) (r : Bool) (hr : rtOk m.M (crvN (tlN l)) = r) :
    Calls Tryd.prog 29 #[.pointer (some ⟨gc, 0, none⟩), .slice a n c] w fun e w' => e = .returned (.tuple #[ptV m (tlN l) (m.M - (atY m.M (tlN l)) % m.M) 1, .bool r]) ∧ Fr Nob w w' := by
  have HOK := Lib.hid hok
  have HCV := Lib.hid hcv
  have HPM := Lib.hid hpm
  clear hok hcv hpm
  have h33n : n = 33 := by have := hb.len; omega
  subst h33n
  obtain ⟨ba, oa, rfl, -⟩ := Rd.at hb (by decide)
  have HB := Lib.hid hb
  have HC := Lib.hid hc
  have HT := Lib.hid (RdB.tail hb c (by decide) hc)
  have H0 := Lib.hid h0
  have HTN := Lib.hid (tlN_lt l h33)
  clear hb hc h33 h0
  have HDL := Lib.hid hlt
  clear hlt
  have HR := Lib.hid hr
  clear hr
  have st0 := St.start Nob w
  go_enter Tryd.func29, Tryd.ntmps29
  go_wp2_with (with_reducible refine wl_stop (o := ⟨some 4, _, _, _, _, _⟩) ?_)
  refine wl_allocS st0 rfl rfl (z := .agg (List.replicate 12 (.int .u64 0)).toArray) (by kernel_rfl) (cw 4 0 ++ (cw 4 0 ++ cw 4 0)) (by rw [cw_zero]; rfl) ?_
  intro g4 w1 st1
  clear st0
  have hne : (((33 : Nat) : Int) != 33) = false := by rfl
  go_wp2_with (with_reducible refine wl_stop (o := ⟨some 14, _, _, _, _, _⟩) ?_)
  refine wl_cut rfl rfl Tryd.underlying23 size_u8g rfl 1 33 ⟨_, rfl⟩ rfl (by decide) HC.out ?_
  rw [show (33 : Nat) - 1 = 32 from rfl]
  go_wp2_with fail
  refine (fb_tail _ _ l _ (HT.out.still st1.fr)).mono ?_
  rintro e' w2 ⟨rfl, hf2⟩
  have st2 := st1.keep hf2
  clear st1 hf2
  go_wp2_with (with_reducible refine wl_stop (o := ⟨some 6, _, _, _, _, _⟩) ?_)
  refine wl_allocS st2 rfl rfl (z := .agg #[.int .u64 0, .int .u64 0, .int .u64 0, .int .u64 0]) (by kernel_rfl) (cw 4 0) (by rw [cw_zero]; rfl) ?_
  intro g6 w3 st3
  clear st2
  go_wp2_with (with_reducible refine wl_stop (o := ⟨none, _, _, _, _, _⟩) ?_)
  refine wl_storeS st3 1 rfl rfl rfl rfl rfl (by first | (simp only [cw_len]; done) | (simp only [List.length_append, cw_len]; done)) (by first | (rw [cw_len]; kernel_rfl) | (simp only [List.length_append, cw_len]; kernel_rfl)) (cw_one _ _) ?_
  intro w4 st4
  clear st3
  have hcell := rd_first (HB.out.still st4.fr) _ H0.out
  go_wp2_with fail
  clear hcell
  go_wp2_with fail
  refine wp_region_noPanic ?_
  refine wp_region_planG (fun wx => St Nob w wx [(g4, cw 4 0 ++ (cw 4 0 ++ cw 4 0), 49), (g6, cw 4 (tlN l), 42)]) 22 (.w 0 (.w 1 (.t 2 (.w 3 (.w 4 (.w 5 (.w 6 (.t 7 (.w 8 (.w 9 (.w 10 (.t 11 (.w 12 (.w 13 (.w 14 (.t 15 (.w 16 (.w 17 (.t 18 (.r 19 (.w 20 (.w 21 (.m 22 .nil))))))))))))))))))))))) (by kernel_rfl) (by kernel_rfl) st4.drew (fun _ _ _ _ _ h => h) ?_
  have hd4 := st4.drew
  clear st4
  refine planG_w (v := ?_) rfl rfl (fun wx => ?_) ?_
  rotate_left 1
  · (go_simp; with_reducible rfl)
  try simp only [Go.Mv.clL]
  refine planG_w (v := ?_) rfl rfl (fun wx => ?_) ?_
  rotate_left 1
  · (go_simp; with_reducible rfl)
  try simp only [Go.Mv.clL]
  refine planG_t (v := ?_) rfl rfl (fun wx hS => ?_) ?_
  rotate_left 1
  · (have hc := (rd_first (HB.out.still (St.fr hS)) _ H0.out); clear hS; go_simp; with_reducible rfl)
  try simp only [Go.Mv.clL]
  refine planG_w (v := ?_) rfl rfl (fun wx => ?_) ?_
  rotate_left 1
  · (go_simp; with_reducible rfl)
  try simp only [Go.Mv.clL]
  refine planG_w (v := ?_) rfl rfl (fun wx => ?_) ?_
  rotate_left 1
  · (go_simp; with_reducible rfl)
  try simp only [Go.Mv.clL]
  refine planG_w (v := ?_) rfl rfl (fun wx => ?_) ?_
  rotate_left 1
  · (go_simp; with_reducible rfl)
  try simp only [Go.Mv.clL]
  refine planG_w (v := ?_) rfl rfl (fun wx => ?_) ?_
  rotate_left 1
  · (go_simp; with_reducible rfl)
  try simp only [Go.Mv.clL]
  refine planG_t (v := ?_) rfl rfl (fun wx hS => ?_) ?_
  rotate_left 1
  · (have hc := (rd_first (HB.out.still (St.fr hS)) _ H0.out); clear hS; go_simp; with_reducible rfl)
  try simp only [Go.Mv.clL]
  refine planG_w (v := ?_) rfl rfl (fun wx => ?_) ?_
  rotate_left 1
  · (go_simp; with_reducible rfl)
  try simp only [Go.Mv.clL]
  refine planG_w (v := ?_) rfl rfl (fun wx => ?_) ?_
  rotate_left 1
  · (go_simp; with_reducible rfl)
  try simp only [Go.Mv.clL]
  refine planG_w (v := ?_) rfl rfl (fun wx => ?_) ?_
  rotate_left 1
  · (go_simp; with_reducible rfl)
  try simp only [Go.Mv.clL]
  refine planG_arr rfl rfl rfl rfl (cw 4 (tlN l)) (fun wx hS => St.rangeL hS 1 rfl 0 _ (by rw [List.drop_zero, List.take_of_length_le (Nat.le_refl _)])) Tryd.underlying42 rfl (by first | (rw [cw_len]; kernel_rfl) | (simp only [List.length_append, cw_len]; kernel_rfl)) ?_
  try simp only [Go.Mv.clL]
  refine planG_w (v := ?_) rfl rfl (fun wx => ?_) ?_
  rotate_left 1
  · (go_simp; with_reducible rfl)
  try simp only [Go.Mv.clL]
  refine planG_w (v := ?_) rfl rfl (fun wx => ?_) ?_
  rotate_left 1
  · (go_simp; with_reducible rfl)
  try simp only [Go.Mv.clL]
  refine planG_w (v := ?_) rfl rfl (fun wx => ?_) ?_
  rotate_left 1
  · (go_simp; with_reducible rfl)
  try simp only [Go.Mv.clL]
  refine planG_t (v := ?_) rfl rfl (fun wx hS => ?_) ?_
  rotate_left 1
  · (have hc := (HCV.out.keep (St.fr hS) id).cell (i := 0) rfl; clear hS; go_simp; with_reducible rfl)
  try simp only [Go.Mv.clL]
  refine planG_w (v := ?_) rfl rfl (fun wx => ?_) ?_
  rotate_left 1
  · (go_simp; with_reducible rfl)
  try simp only [Go.Mv.clL]
  refine planG_w (v := ?_) rfl rfl (fun wx => ?_) ?_
  rotate_left 1
  · (go_simp; with_reducible rfl)
  try simp only [Go.Mv.clL]
  refine planG_arr rfl rfl rfl rfl (cw 4 m.M) (fun wx hS => (HPM.out.keep (St.fr hS) id).range 0 _ (md_M m)) Tryd.underlying42 rfl (by first | (rw [cw_len]; kernel_rfl) | (simp only [List.length_append, cw_len]; kernel_rfl)) ?_
  try simp only [Go.Mv.clL]
  refine planG_r rfl rfl ?_
  go_simp
  refine (MLess_v (tlN l) m.M _ HTN.out HOK.out.lt true HDL.out).mono ?_
  rintro e' w5 ⟨rfl, hf5⟩
  have st5 := hd4.keep hf5
  clear hf5
  clear hd4
  refine ⟨st5, ?_⟩
  try simp only [Go.Mv.clL]
  refine planG_w (v := ?_) rfl rfl (fun wx => ?_) ?_
  rotate_left 1
  · (go_simp; with_reducible rfl)
  try simp only [Go.Mv.clL]
  refine planG_w (v := ?_) rfl rfl (fun wx => ?_) ?_
  rotate_left 1
  · (go_simp; with_reducible rfl)
  try simp only [Go.Mv.clL]
  refine planG_m rfl rfl ?_
  go_simp
  try simp only [Go.Mv.clL]
  refine planG_end ?_
  refine NoPanic.normal ?_
  go_wp2_with fail
  refine wp_region_noPanic ?_
  refine wp_region_plan (fun wx => St Nob w wx [(g4, cw 4 0 ++ (cw 4 0 ++ cw 4 0), 49), (g6, cw 4 (tlN l), 42)]) 13 (.w 0 (.w 1 (.w 2 (.w 3 (.t 4 (.t 5 (.b 6 11 (.b 7 11 (.w 8 (.w 9 (.w 10 (.r 11 (.r 12 (.m 13 .nil)))))) (.r 7 (.w 8 (.w 9 (.w 10 (.r 12 (.m 13 .nil))))))) (.r 6 (.r 7 (.w 8 (.w 9 (.w 10 (.r 12 (.m 13 .nil)))))))))))))) (by kernel_rfl) (by kernel_rfl) st5.drew (fun _ _ _ _ _ h => h) ?_
  have hd5 := st5.drew
  clear st5
  refine plan_w (v := ?_) rfl rfl (fun wx => ?_) ?_
  rotate_left 1
  · (go_simp; with_reducible rfl)
  try simp only [Go.Mv.clL]
  refine plan_w (v := ?_) rfl rfl (fun wx => ?_) ?_
  rotate_left 1
  · (go_simp; with_reducible rfl)
  try simp only [Go.Mv.clL]
  refine plan_w (v := ?_) rfl rfl (fun wx => ?_) ?_
  rotate_left 1
  · (go_simp; with_reducible rfl)
  try simp only [Go.Mv.clL]
  refine plan_w (v := ?_) rfl rfl (fun wx => ?_) ?_
  rotate_left 1
  · (go_simp; with_reducible rfl)
  try simp only [Go.Mv.clL]
  refine plan_t (v := ?_) rfl rfl (fun wx hS => ?_) ?_
  rotate_left 1
  · (have hc := (HCV.out.keep (St.fr hS) id).cell (i := 0) rfl; clear hS; go_simp; with_reducible rfl)
  try simp only [Go.Mv.clL]
  refine plan_arr rfl rfl rfl rfl (cw 4 (tlN l)) (fun wx hS => St.rangeL hS 1 rfl 0 _ (by rw [List.drop_zero, List.take_of_length_le (Nat.le_refl _)])) Tryd.underlying42 rfl (by first | (rw [cw_len]; kernel_rfl) | (simp only [List.length_append, cw_len]; kernel_rfl)) ?_
  try simp only [Go.Mv.clL]
  refine plan_key1 (C := fun g7 wz => St Nob w wz [(g4, cw 4 0 ++ (cw 4 0 ++ cw 4 0), 49), (g6, cw 4 (tlN l), 42), (g7, cw 4 (elN m (tlN l)) ++ (cw 4 (elN m (atY m.M (tlN l))) ++ cw 4 (elN m 1)), 49)]) (F := ?_) (fun key => ?_) ?_
  rotate_left 1
  · skip
    refine plan_b0 rfl rfl rfl rfl ?_ ?_
    · skip
      go_simp
      refine (MTo_any m gp _ HOK.out (HPM.out.keep hd5.fr id) (tlN l) HTN.out).mono ?_
      rintro e' w6 ⟨rfl, hf6⟩
      have st6 := hd5.keep hf6
      clear hf6
      refine ⟨st6, ?_⟩
      try simp only [Go.Mv.clL]
      refine plan_b0 rfl rfl rfl rfl ?_ ?_
      · skip
        go_simp
        refine (at_u m gc gp bx by_ _ HOK.out (HCV.out.keep st6.fr id) (HPM.out.keep st6.fr id) (tlN l) r HR.out).mono ?_
        rintro e' w7 ⟨rfl, hf7⟩
        have st7 := st6.keep hf7
        clear hf7
        refine ⟨st7, ?_⟩
        try simp only [Go.Mv.clL]
        refine plan_w (v := ?_) rfl rfl (fun wx => ?_) ?_
        rotate_left 1
        · (go_simp; with_reducible rfl)
        try simp only [Go.Mv.clL]
        refine plan_w (v := ?_) rfl rfl (fun wx => ?_) ?_
        rotate_left 1
        · (go_simp; with_reducible rfl)
        try simp only [Go.Mv.clL]
        refine plan_w (v := ?_) rfl rfl (fun wx => ?_) ?_
        rotate_left 1
        · (go_simp; with_reducible rfl)
        try simp only [Go.Mv.clL]
        refine plan_r rfl rfl ?_
        refine wp_allocS st7 rfl (z := .agg #[.int .u64 0, .int .u64 0, .int .u64 0, .int .u64 0, .int .u64 0, .int .u64 0, .int .u64 0, .int .u64 0, .int .u64 0, .int .u64 0, .int .u64 0, .int .u64 0]) (by kernel_rfl) (cw 12 0) (by rw [cw_zero]; rfl) ?_
        intro g7 w8 st8
        refine ⟨St.less st8 (by simp), ?_⟩
        try simp only [Go.Mv.clL]
        refine plan_r rfl rfl ?_
        refine wp_storeS st8 2 rfl rfl rfl rfl (by first | (simp only [cw_len]; done) | (simp only [List.length_append, cw_len]; done)) (by first | (rw [cw_len]; kernel_rfl) | (simp only [List.length_append, cw_len]; kernel_rfl)) (pt_one _ _ _) ?_
        intro w9 st9
        refine ⟨St.less st9 (by simp), ?_⟩
        try simp only [Act.put]
        refine plan_m rfl rfl ?_
        go_simp
        try simp only [Go.Mv.clL]
        refine plan_end ?_
        exact key g7 _ st9
      · skip
        refine wp_allocS st6 rfl (z := .agg #[.int .u64 0, .int .u64 0, .int .u64 0, .int .u64 0, .int .u64 0, .int .u64 0, .int .u64 0, .int .u64 0, .int .u64 0, .int .u64 0, .int .u64 0, .int .u64 0]) (by kernel_rfl) (cw 12 0) (by rw [cw_zero]; rfl) ?_
        intro g7 w10 st10
        refine ⟨St.less st10 (by simp), ?_⟩
        try simp only [Go.Mv.clL]
        refine plan_r rfl rfl ?_
        go_simp
        refine (at_u m gc gp bx by_ _ HOK.out (HCV.out.keep st10.fr id) (HPM.out.keep st10.fr id) (tlN l) r HR.out).mono ?_
        rintro e' w11 ⟨rfl, hf11⟩
        have st11 := st10.keep hf11
        clear hf11
        refine ⟨St.less st11 (by simp), ?_⟩
        try simp only [Go.Mv.clL]
        refine plan_w (v := ?_) rfl rfl (fun wx => ?_) ?_
        rotate_left 1
        · (go_simp; with_reducible rfl)
        try simp only [Go.Mv.clL]
        refine plan_w (v := ?_) rfl rfl (fun wx => ?_) ?_
        rotate_left 1
        · (go_simp; with_reducible rfl)
        try simp only [Go.Mv.clL]
        refine plan_w (v := ?_) rfl rfl (fun wx => ?_) ?_
        rotate_left 1
        · (go_simp; with_reducible rfl)
        try simp only [Go.Mv.clL]
        refine plan_r rfl rfl ?_
        refine wp_storeS st11 2 rfl rfl rfl rfl (by first | (simp only [cw_len]; done) | (simp only [List.length_append, cw_len]; done)) (by first | (rw [cw_len]; kernel_rfl) | (simp only [List.length_append, cw_len]; kernel_rfl)) (pt_one _ _ _) ?_
        intro w12 st12
        refine ⟨St.less st12 (by simp), ?_⟩
        try simp only [Act.put]
        refine plan_m rfl rfl ?_
        go_simp
        try simp only [Go.Mv.clL]
        refine plan_end ?_
        exact key g7 _ st12
    · skip
      refine wp_allocS hd5 rfl (z := .agg #[.int .u64 0, .int .u64 0, .int .u64 0, .int .u64 0, .int .u64 0, .int .u64 0, .int .u64 0, .int .u64 0, .int .u64 0, .int .u64 0, .int .u64 0, .int .u64 0]) (by kernel_rfl) (cw 12 0) (by rw [cw_zero]; rfl) ?_
      intro g7 w13 st13
      refine ⟨St.less st13 (by simp), ?_⟩
      try simp only [Go.Mv.clL]
      refine plan_r rfl rfl ?_
      go_simp
      refine (MTo_any m gp _ HOK.out (HPM.out.keep st13.fr id) (tlN l) HTN.out).mono ?_
      rintro e' w14 ⟨rfl, hf14⟩
      have st14 := st13.keep hf14
      clear hf14
      refine ⟨St.less st14 (by simp), ?_⟩
      try simp only [Go.Mv.clL]
      refine plan_r rfl rfl ?_
      go_simp
      refine (at_u m gc gp bx by_ _ HOK.out (HCV.out.keep st14.fr id) (HPM.out.keep st14.fr id) (tlN l) r HR.out).mono ?_
      rintro e' w15 ⟨rfl, hf15⟩
      have st15 := st14.keep hf15
      clear hf15
      refine ⟨St.less st15 (by simp), ?_⟩
      try simp only [Go.Mv.clL]
      refine plan_w (v := ?_) rfl rfl (fun wx => ?_) ?_
      rotate_left 1
      · (go_simp; with_reducible rfl)
      try simp only [Go.Mv.clL]
      refine plan_w (v := ?_) rfl rfl (fun wx => ?_) ?_
      rotate_left 1
      · (go_simp; with_reducible rfl)
      try simp only [Go.Mv.clL]
      refine plan_w (v := ?_) rfl rfl (fun wx => ?_) ?_
      rotate_left 1
      · (go_simp; with_reducible rfl)
      try simp only [Go.Mv.clL]
      refine plan_r rfl rfl ?_
      refine wp_storeS st15 2 rfl rfl rfl rfl (by first | (simp only [cw_len]; done) | (simp only [List.length_append, cw_len]; done)) (by first | (rw [cw_len]; kernel_rfl) | (simp only [List.length_append, cw_len]; kernel_rfl)) (pt_one _ _ _) ?_
      intro w16 st16
      refine ⟨St.less st16 (by simp), ?_⟩
      try simp only [Act.put]
      refine plan_m rfl rfl ?_
      go_simp
      try simp only [Go.Mv.clL]
      refine plan_end ?_
      exact key g7 _ st16
  intro g7 w17 st17
  have st17 : St Nob w w17 [(g4, cw 4 0 ++ (cw 4 0 ++ cw 4 0), 49), (g6, cw 4 (tlN l), 42), (g7, cw 4 (elN m (tlN l)) ++ (cw 4 (elN m (atY m.M (tlN l))) ++ cw 4 (elN m 1)), 49)] := st17
  clear hd5
  refine NoPanic.normal ?_
  have hcell := rd_first (HB.out.still st17.fr) _ H0.out
  go_wp2_with (with_reducible refine wl_stop (o := ⟨some 65, _, _, _, _, _⟩) ?_)
  refine wl_loadSt st17 2 rfl rfl rfl Tryd.underlying49 rfl rfl (by first | (rw [cw_len]; kernel_rfl) | (simp only [List.length_append, cw_len]; kernel_rfl)) ?_
  clear hcell
  go_wp2_with fail
  refine (opposite_u m gc gp bx by_ _ HOK.out (HCV.out.keep st17.fr id) (HPM.out.keep st17.fr id) (tlN l) (atY m.M (tlN l)) 1).mono ?_
  rintro e' w18 ⟨rfl, hf18⟩
  have st18 := st17.keep hf18
  clear st17 hf18
  go_wp2_with (with_reducible refine wl_stop (o := ⟨none, _, _, _, _, _⟩) ?_)
  refine wl_storeS st18 2 rfl rfl rfl rfl rfl (by first | (simp only [cw_len]; done) | (simp only [List.length_append, cw_len]; done)) (by first | (rw [cw_len]; kernel_rfl) | (simp only [List.length_append, cw_len]; kernel_rfl)) (pt_one _ _ _) ?_
  intro w19 st19
  clear st18
  go_wp2_with (with_reducible refine wl_stop (o := ⟨some 67, _, _, _, _, _⟩) ?_)
  refine wl_loadSt st19 2 rfl rfl rfl Tryd.underlying49 rfl rfl (by first | (rw [cw_len]; kernel_rfl) | (simp only [List.length_append, cw_len]; kernel_rfl)) ?_
  go_wp2_with (with_reducible refine wl_stop (o := ⟨none, _, _, _, _, _⟩) ?_)
  refine wl_storeS st19 0 rfl rfl rfl rfl rfl (by first | (simp only [cw_len]; done) | (simp only [List.length_append, cw_len]; done)) (by first | (rw [cw_len]; kernel_rfl) | (simp only [List.length_append, cw_len]; kernel_rfl)) (pt_one _ _ _) ?_
  intro w20 st20
  clear st19
  have hr := st20.at 0 rfl
  have hfr := st20.fr
  clear st20
  go_wp2_with fail
  exact bodyPost_ret (results_st2 rfl rfl hr Tryd.underlying49 rfl (by first | (rw [cw_len]; kernel_rfl) | (simp only [List.length_append, cw_len]; kernel_rfl)) rfl) rfl ⟨by unfold ptV ptL; rfl, hfr⟩
end Go.Proofs.YtemcankmggmgoaaDoor

/- read and bytes of a program's points. -/
namespace Go.Proofs.YtemcankmggmgoaaDoor
open Go.RowKit Go.Mv Mvp Mvq
theorem bs_head (l : List UInt8) (h : l.length = 33) (b : UInt8) (hb : l.getD 0 0 = b) : (bs l)[0]? = some (.int .u8 (b.toNat : Int)) := by
  cases l with
  | nil => cases h
  | cons x t =>
    have : x = b := by simpa using hb
    subst this
    rfl
theorem u8_of {b : UInt8} {k : Nat} (h : b.toNat = k) : b = UInt8.ofNat k := by rw [← h]; simp
theorem bs_head2 (l : List UInt8) (h : l.length = 33) (hb : l.getD 0 0 = 2) : (bs l)[0]? = some (.int .u8 2) := by rw [bs_head l h 2 hb]; rfl
theorem bs_head3 (l : List UInt8) (h : l.length = 33) (hb : l.getD 0 0 = 3) : (bs l)[0]? = some (.int .u8 3) := by rw [bs_head l h 3 hb]; rfl
theorem bs_head0 (l : List UInt8) (h : l.length = 33) (hb : l.getD 0 0 = 0) : (bs l)[0]? = some (.int .u8 0) := by rw [bs_head l h 0 hb]; rfl
theorem kc_negM (b : Nat) : kc (mP.M - b % mP.M) = - kc b := by rw [mP_fP]; exact kc_negn b
theorem hatY (n : Nat) (hr : rtOk mP.M (crvN n) = true) : kc (atY mP.M n) = kc (rtV fP (crvN n)) := by unfold atY; rw [if_pos hr, mP_fP]
theorem affT_L (x y : Nat) (h : onC (.A (kc x) (kc y))) : (affT x y h).L = ptL mP x y 1 := rfl
attribute [local irreducible] atY rtV rtOk ptL crvN tlN affT
theorem read_ex (l : List UInt8) (h : rdOk l = true) : ∃ t : PT, t.pt = rdPt l ∧ ∀ (gc : Nat) (a : Option Addr) (n c : Nat) (w : World), Cv w gc → RdB w a n l → n ≤ c →
    Calls Tryd.prog 29 #[.pointer (some ⟨gc, 0, none⟩), .slice a n c] w fun e w' => e = .returned (.tuple #[.agg t.L.toArray, .bool true]) ∧ Fr Nob w w' := by
  have hon := rd_on h
  unfold rdOk at h
  unfold rdPt at *
  simp only [Bool.and_eq_true, decide_eq_true_eq] at h
  obtain ⟨h33, h⟩ := h
  by_cases h0 : l.getD 0 0 = 0
  · rw [if_pos h0] at h
    refine ⟨noT, by rw [if_pos h0, noT_pt], ?_⟩
    rintro gc a n c w ⟨gp, h1, h2⟩ hb hc
    exact read_zero mP gc gp gXn gYn w mP_ok h1 h2 a n c l hb hc h33 (bs_head0 l h33 h0) true h
  · rw [if_neg h0] at h hon
    simp only [Bool.and_eq_true, decide_eq_true_eq] at h
    obtain ⟨h23, hlt, hr⟩ := h
    rw [← mP_fP] at hlt hr
    have hy := hatY _ hr
    rcases h23 with h2 | h3
    · have h3 : ¬ l.getD 0 0 = 3 := by rw [h2]; decide
      rw [if_neg h3, ← hy] at hon
      refine ⟨affT (tlN l) (atY mP.M (tlN l)) hon, ?_, ?_⟩
      · rw [affT_pt, if_neg h0, if_neg h3, hy]
      · rintro gc a n c w ⟨gp, g1, g2⟩ hb hc
        rw [affT_L]
        exact read_pt2 mP gc gp gXn gYn w mP_ok g1 g2 a n c l hb hc h33 (bs_head2 l h33 h2) (decide_eq_true hlt) true hr
    · rw [if_pos h3, ← hy, ← kc_negM] at hon
      refine ⟨affT (tlN l) (mP.M - atY mP.M (tlN l) % mP.M) hon, ?_, ?_⟩
      · rw [affT_pt, if_neg h0, if_pos h3, kc_negM, hy]
      · rintro gc a n c w ⟨gp, g1, g2⟩ hb hc
        rw [affT_L]
        exact read_pt3 mP gc gp gXn gYn w mP_ok g1 g2 a n c l hb hc h33 (bs_head3 l h33 h3) (decide_eq_true hlt) true hr
open Classical in
noncomputable def rdT (l : List UInt8) : PT := if h : rdOk l = true then Classical.choose (read_ex l h) else noT
theorem rdT_pt {l : List UInt8} (h : rdOk l = true) : (rdT l).pt = rdPt l := by unfold rdT; rw [dif_pos h]; exact (Classical.choose_spec (read_ex l h)).1
theorem read_t (l : List UInt8) (h : rdOk l = true) (gc : Nat) (a : Option Addr) (n c : Nat) (w : World) (hcv : Cv w gc) (hb : RdB w a n l) (hc : n ≤ c) :
    Calls Tryd.prog 29 #[.pointer (some ⟨gc, 0, none⟩), .slice a n c] w fun e w' => e = .returned (.tuple #[.agg (rdT l).L.toArray, .bool true]) ∧ Fr Nob w w' := by
  unfold rdT; rw [dif_pos h]; exact (Classical.choose_spec (read_ex l h)).2 gc a n c w hcv hb hc
theorem read_f (l : List UInt8) (h : rdOk l = false) (gc : Nat) (a : Option Addr) (n c : Nat) (w : World) (hcv : Cv w gc) (hb : RdB w a n l) (hc : n ≤ c) :
    Calls Tryd.prog 29 #[.pointer (some ⟨gc, 0, none⟩), .slice a n c] w fun e w' => (∃ X Y Z, e = .returned (.tuple #[.agg (ptL mP X Y Z).toArray, .bool false])) ∧ Fr Nob w w' := by
  obtain ⟨gp, g1, g2⟩ := hcv
  unfold rdOk at h
  by_cases h33 : l.length = 33
  · rw [decide_eq_true h33, Bool.true_and] at h
    by_cases h0 : l.getD 0 0 = 0
    · rw [if_pos h0] at h
      exact (read_zero mP gc gp gXn gYn w mP_ok g1 g2 a n c l hb hc h33 (bs_head0 l h33 h0) false h).mono fun _ _ t => ⟨⟨_, _, _, t.1⟩, t.2⟩
    · rw [if_neg h0] at h
      by_cases h2 : l.getD 0 0 = 2
      · rw [decide_eq_true (Or.inl h2), Bool.true_and] at h
        cases hlt : decide (tlN l < mP.M) with
        | false => exact (read_ge2 mP gc gp gXn gYn w mP_ok g1 g2 a n c l hb hc h33 (bs_head2 l h33 h2) hlt).mono fun _ _ t => ⟨⟨_, _, _, t.1⟩, t.2⟩
        | true =>
          rw [← mP_fP, hlt, Bool.true_and] at h
          exact (read_pt2 mP gc gp gXn gYn w mP_ok g1 g2 a n c l hb hc h33 (bs_head2 l h33 h2) hlt false h).mono fun _ _ t => ⟨⟨_, _, _, t.1⟩, t.2⟩
      · by_cases h3 : l.getD 0 0 = 3
        · rw [decide_eq_true (Or.inr h3), Bool.true_and] at h
          cases hlt : decide (tlN l < mP.M) with
          | false => exact (read_ge3 mP gc gp gXn gYn w mP_ok g1 g2 a n c l hb hc h33 (bs_head3 l h33 h3) hlt).mono fun _ _ t => ⟨⟨_, _, _, t.1⟩, t.2⟩
          | true =>
            rw [← mP_fP, hlt, Bool.true_and] at h
            exact (read_pt3 mP gc gp gXn gYn w mP_ok g1 g2 a n c l hb hc h33 (bs_head3 l h33 h3) hlt false h).mono fun _ _ t => ⟨⟨_, _, _, t.1⟩, t.2⟩
        · have q0 : (((l.getD 0 0).toNat : Int) == 0) = false := by
            simp only [beq_eq_false_iff_ne, ne_eq]
            intro e
            exact h0 (u8_of (k := 0) (by omega))
          have q2 : (((l.getD 0 0).toNat : Int) != 2) = true := by
            simp only [bne_iff_ne, ne_eq]
            intro e
            exact h2 (u8_of (k := 2) (by omega))
          have q3 : (((l.getD 0 0).toNat : Int) != 3) = true := by
            simp only [bne_iff_ne, ne_eq]
            intro e
            exact h3 (u8_of (k := 3) (by omega))
          exact (read_bad mP gc gp gXn gYn w mP_ok g1 g2 a n c l hb hc h33 _ (bs_head l h33 _ rfl) q0 q2 q3).mono fun _ _ t => ⟨⟨_, _, _, t.1⟩, t.2⟩
  · exact (read_len mP gc gp gXn gYn w mP_ok g1 g2 a n c l hb hc h33).mono fun _ _ t => ⟨⟨_, _, _, t.1⟩, t.2⟩
theorem kinv_n (z : Nat) : kc (z ^ (mP.M - 2)) = kinv (kc z) := by
  rw [show mP.M - 2 = fP - 2 by rw [mP_fP]]
  unfold kinv
  rw [kc_val_mod]
  generalize fP - 2 = n
  rw [← kc_mod (z ^ n), ← kc_mod ((z % fP) ^ n), ← Nat.pow_mod]
theorem wrPt_A (x y : K) : wrPt (.A x y) = UInt8.ofNat (2 + y.val % 2) :: be32 x.val := rfl
/-- bytes of a point -/
theorem bytes_c (s : PT) (gc : Nat) (w : World) (hcv : Cv w gc) :
    Calls Tryd.prog 16 #[.pointer (some ⟨gc, 0, none⟩), .agg s.L.toArray] w fun e w' => ∃ sv, e = .returned sv ∧ Own w' w.heap.size 5 1 sv 33 (bs (wrPt s.pt)) ∧ Fr Nob w w' := by
  obtain ⟨gp, g1, g2⟩ := hcv
  cases hz : s.isO with
  | true =>
    rw [PT.isO_t hz]
    exact bytes_none mP gc gp gXn gYn w mP_ok g1 g2 s.x s.y s.z hz
  | false =>
    have hne := PT.isO_f hz
    have e : s.pt = .A (kc (s.x * (s.z ^ (mP.M - 2) * s.z ^ (mP.M - 2)))) (kc (s.y * (s.z ^ (mP.M - 2) * s.z ^ (mP.M - 2) * s.z ^ (mP.M - 2)))) := by
      show jk _ _ _ = _
      rw [jk_nz hne]
      simp only [kc_mul', kinv_n]
    rw [e]
    have hb := bytes_v mP gc gp gXn gYn w mP_ok g1 g2 s.x s.y s.z hz _ _ _ _ _ _ _ rfl rfl rfl rfl rfl rfl rfl
    refine hb.mono ?_
    rintro e' w' ⟨sv, h1, h2, h3⟩
    refine ⟨sv, h1, ?_, h3⟩
    rw [wrPt_A, kc_val_mod, kc_val_mod, ← mP_fP]
    exact h2
end Go.Proofs.YtemcankmggmgoaaDoor

/- group: with, over a closure's contract; the closures of Plus, Minus and Times. -/
namespace Go.Proofs.YtemcankmggmgoaaDoor
open Go.RowKit Go.Mv Mvp Mvq
/-- are all of them points? -/
def rdsB (ls : List (List UInt8)) : Bool := ls.all rdOk
/-- the points' cells -/
noncomputable def ptsL (ls : List (List UInt8)) : List Value := ls.flatMap fun l => (rdT l).L
theorem ptL_one (m : Md) (x y z : Nat) : ∀ v ∈ ptL m x y z, v.oneCell' = true := pt_one _ _ _
theorem ptsL_snoc (ls : List (List UInt8)) (l : List UInt8) : ptsL (ls ++ [l]) = ptsL ls ++ (rdT l).L := by simp [ptsL]
theorem ptsL_at (ls : List (List UInt8)) (i : Nat) (h : i < ls.length) : ((ptsL ls).drop (i * 12)).take (rdT (ls.getD i [])).L.length = (rdT (ls.getD i [])).L := by
  rw [PT.len]
  induction ls generalizing i with
  | nil => simp at h
  | cons l ls ih =>
    rw [ptsL, List.flatMap_cons, ← ptsL]
    cases i with
    | zero =>
      rw [Nat.zero_mul, List.drop_zero, List.take_append_of_le_length (by rw [PT.len]; exact Nat.le_refl _), List.take_of_length_le (by rw [PT.len]; exact Nat.le_refl _)]
      rfl
    | succ i =>
      rw [List.drop_append, PT.len, List.drop_of_length_le (by rw [PT.len]; omega), List.nil_append, show (i + 1) * 12 - 12 = i * 12 by omega, ih i (by simpa using h)]
      rfl
theorem rdsB_take (ls : List (List UInt8)) (k : Nat) (h : k < ls.length) : rdsB (ls.take (k + 1)) = (rdsB (ls.take k) && rdOk (ls.getD k [])) := by
  rw [List.take_succ_eq_append_getElem h, rdsB, List.all_append, ← rdsB]
  simp [List.getD_eq_getElem?_getD, h]
theorem rdsB_bad (ls : List (List UInt8)) (k : Nat) (h : k < ls.length) (hb : rdOk (ls.getD k []) = false) : rdsB ls = false := by
  rw [rdsB, List.all_eq_false]
  refine ⟨ls.getD k [], ?_, by simpa using hb⟩
  rw [List.getD_eq_getElem?_getD, List.getElem?_eq_getElem h]
  exact List.getElem_mem h
theorem info_pt : (Tryd.prog.info? 49).map (fun i => (i.zero, i.size, i.bytes)) = some (some (.agg (List.replicate 12 (.int .u64 0)).toArray), 12, 96) := by kernel_rfl
attribute [local irreducible] limbs lw mix cw cSub cAdd cMul beN laid be32 montT mstep elN mdL numB rtN rtV rtOk gXn gYn PT.L addT dblT mulT tbL tmR tmL dbN innT outT sumT dig rdT rdOk rdPt ptL ptsL rdsB wrPt
set_option maxHeartbeats 8000000 in
set_option maxRecDepth 1000000 in
theorem with_times_ok (gk : Nat) (al : Option Addr) (n cl : Nat) (vs : List Value) (ls : List (List UInt8)) (w : World) (hv : Rd w al n vs) (hp : BParts w vs ls) (hn : n ≤ 100000) (hg : rdsB ls = true) (t : PT) (hop : ∀ ap cp wx, Fr Nob w wx → Rd wx ap (ls.length * 12) (ptsL ls) → Calls Tryd.prog 13 #[.slice ap ls.length cp, .pointer (some ⟨gk, 0, none⟩)] wx fun e w' => e = .returned (.agg t.L.toArray) ∧ Fr Nob wx w') :
    Calls Tryd.prog 12 #[.func (.func 13) #[] #[.pointer (some ⟨gk, 0, none⟩)], .slice al n cl] w fun e w' => ∃ sv, e = .returned (.tuple #[sv, .int .i64 0]) ∧ Own w' w.heap.size 5 1 sv 33 (bs (wrPt t.pt)) ∧ Fr Nob w w' := by
  have HV := Lib.hid hv
  have HP := Lib.hid hp
  have HL := Lib.hid (show ls.length = n by rw [← hp.1, hv.len])
  have HN := Lib.hid hn
  have hnI : (n : Int) ≤ 100000 := by omega
  clear hv hp
  have HOP := Lib.hid hop
  have HGA := Lib.hid hg
  clear hop hg
  go_enter Tryd.func12, Tryd.ntmps12
  go_wp2
  go_loopw [6, 13] (fun v i wr => ∃ k : Nat, k ≤ n ∧ i = .int .i64 (k : Int) ∧ rdsB (ls.take k) = true ∧ Own wr w.heap.size 49 12 v k (ptsL (ls.take k)) ∧ Fr Nob w wr) (fun _ i _ => n - (intOf i).toNat)
  case atStart => exact ⟨0, Nat.zero_le _, rfl, by rw [List.take_zero]; unfold rdsB; rfl, by rw [List.take_zero]; unfold ptsL; exact Own.nil _ _ _ _, Fr.refl _ _⟩
  case round =>
    obtain ⟨k, hk, rfl, hgood, hown, hf⟩ := hrel
    by_cases hlt : k < n
    · have hltI : (k : Int) < (n : Int) := by omega
      obtain ⟨b, o, rfl, hat⟩ := (HV.out.still hf).at (by omega)
      have hvl : k < vs.length := by rw [HV.out.len]; exact hlt
      obtain ⟨a, nn, c, hve, hcc, hrd⟩ := HP.out.2 k (vs[k]'hvl) (List.getElem?_eq_getElem hvl)
      have hc1 := hat k _ (List.getElem?_eq_getElem hvl)
      rw [hve] at hc1
      have hlk : k < ls.length := by rw [HL.out]; exact hlt
      have hts := rdsB_take ls k hlk
      have hcs : ptsL (ls.take (k + 1)) = ptsL (ls.take k) ++ (rdT (ls.getD k [])).L := by
        rw [List.take_succ_eq_append_getElem hlk, ptsL_snoc]
        simp [List.getD_eq_getElem?_getD, hlk]
      have hbad := rdsB_bad ls k hlk
      generalize hL : ls.getD k [] = l at *
      have HLL := Lib.hid hL
      have HRD := Lib.hid (hrd.still hf)
      have HTS := Lib.hid hts
      have HCS := Lib.hid hcs
      have HBAD := Lib.hid hbad
      have HG := Lib.hid hgood
      have HOWN := Lib.hid hown
      have HF := Lib.hid hf
      have HCC := Lib.hid hcc
      clear hL hrd hts hcs hbad hgood hown hf hat hve hcc
      have st0 := St.start Nob wr
      have HK := Lib.hid (show rdOk l = true by
        cases hh : rdOk l
        · have := HBAD.out hh
          rw [HGA.out] at this
          cases this
        · rfl)
      skip
      go_wp2_with fail
      refine (k256_c _).mono ?_
      rintro e' w1 ⟨gc, rfl, hle, hcv, hf1⟩
      have st1 := st0.keep hf1
      have HCV := Lib.hid hcv
      clear hcv hle
      clear st0 hf1
      go_wp2_with fail
      refine (read_t l HK.out gc a nn c _ HCV.out (HRD.out.still st1.fr) HCC.out).mono ?_
      rintro e' w2 ⟨rfl, hf2⟩
      have st2 := st1.keep hf2
      clear st1 hf2
      go_wp2_with (with_reducible refine wl_stop (o := ⟨some 9, _, _, _, _, _⟩) ?_)
      refine wl_allocS st2 rfl rfl (z := .agg (List.replicate 12 (.int .u64 0)).toArray) (by kernel_rfl) (cw 12 0) (by rw [cw_zero]; rfl) ?_
      intro g9 w3 st3
      clear st2
      go_wp2_with (with_reducible refine wl_stop (o := ⟨none, _, _, _, _, _⟩) ?_)
      refine wl_storeS st3 0 rfl rfl rfl rfl rfl (by first | (simp only [cw_len]; done) | (simp only [cw_len, PT.len]; done)) (by first | (rw [cw_len]; kernel_rfl) | (simp only [PT.len]; kernel_rfl)) (PT.one _) ?_
      intro w4 st4
      clear st3
      have HFS := Lib.hid st4.fr
      go_wp2_with (with_reducible refine wl_stop (o := ⟨some 26, _, _, _, _, _⟩) ?_)
      refine wl_loadSt st4 0 rfl rfl rfl Tryd.underlying49 rfl rfl (by first | (rw [cw_len]; kernel_rfl) | (simp only [PT.len]; kernel_rfl)) ?_
      clear st4
      go_wp2_with (with_reducible refine wl_stop (o := ⟨some 27, _, _, _, _, _⟩) ?_)
      refine wl_slitR rfl rfl Tryd.underlying46 info_pt [.agg (rdT l).L.toArray] rfl (by simp [Value.cells, PT.len]) rfl ((rdT l).L) (by simp [Value.cells]) ?_
      intro wA hgA hfA hzA
      clear hzA
      have hfrA := HFS.out.then hfA
      have hsz := HF.out.size
      have hsz2 := hfrA.size
      have hownA := HOWN.out.still hfrA
      have hrdA : Rd wA (some ⟨w4.heap.size, 0, none⟩) (1 * 12) ((rdT l).L) := by
        have := Rd.whole hgA
        rwa [PT.len] at this
      have HRDA := Lib.hid hrdA
      have HOWNA := Lib.hid hownA
      have HFRA := Lib.hid hfrA
      clear hgA hfA hrdA hownA hfrA
      generalize w4.heap.size = gA at *
      go_wp2_with (with_reducible refine wl_stop (o := ⟨some 28, _, _, _, _, _⟩) ?_)
      refine wl_append rfl rfl Tryd.underlying46 info_pt rfl (by decide) HOWNA.out rfl rfl HRDA.out (PT.one _) (by unfold maxLen; omega) (by omega) (by omega) ?_
      intro vB wB hownB hfB hbB
      clear hbB
      have hfrB := HOWNA.out.fr (HF.out.then HFRA.out) (Nat.le_refl _) hfB
      have HFRB := Lib.hid hfrB
      rw [← HCS.out] at hownB
      have HOWNB := Lib.hid hownB
      clear hfrB hownB hfB
      go_wp2_with fail
      go_roundw
      case rel => exact ⟨k + 1, by omega, by go_num, by rw [HTS.out, HG.out, HK.out]; rfl, HOWNB.out, HFRB.out⟩
      case measure => simp [intOf]; omega

    · have hge : ¬ ((k : Int) < (n : Int)) := by omega
      have hkn : k = ls.length := by rw [HL.out]; omega
      rw [hkn, List.take_of_length_le (Nat.le_refl _)] at hgood hown
      obtain ⟨ap, cp, rfl, -, hre, -⟩ := hown.form
      have HRE := Lib.hid hre
      have HF := Lib.hid hf
      clear hkn hgood hown hf hre
      go_wp2_with fail
      refine (k256_c _).mono ?_
      rintro e w1 ⟨gc, rfl, hle, hcv, hf1⟩
      have HCV := Lib.hid hcv
      have HF1 := Lib.hid (HF.out.then hf1)
      have HRE1 := Lib.hid (HRE.out.still hf1)
      clear hle hcv hf1 HF HRE
      go_wp2_with fail
      refine (HOP.out ap cp _ HF1.out HRE1.out).mono ?_
      rintro e w2 ⟨rfl, hf2⟩
      have HCV2 := Lib.hid (HCV.out.keep hf2)
      have HF2 := Lib.hid (HF1.out.then hf2)
      clear hf2 HF1 HRE1 HCV
      go_wp2_with fail
      refine (bytes_c t gc _ HCV2.out).mono ?_
      rintro e w3 ⟨sv, rfl, hown3, hf3⟩
      have h2 := HF2.out.then hf3
      have ho := hown3.mono HF2.out.size
      clear hown3 hf3 HF2 HCV2
      go_wp2_with fail
      go_ret2
      exact ⟨sv, rfl, ho, h2⟩

set_option maxHeartbeats 8000000 in
set_option maxRecDepth 1000000 in
theorem with_times_bad (gk : Nat) (al : Option Addr) (n cl : Nat) (vs : List Value) (ls : List (List UInt8)) (w : World) (hv : Rd w al n vs) (hp : BParts w vs ls) (hn : n ≤ 100000) (hg : rdsB ls = false) :
    Calls Tryd.prog 12 #[.func (.func 13) #[] #[.pointer (some ⟨gk, 0, none⟩)], .slice al n cl] w fun e w' => e = .returned (.tuple #[.slice none 0 0, .int .i64 4]) ∧ Fr Nob w w' := by
  have HV := Lib.hid hv
  have HP := Lib.hid hp
  have HL := Lib.hid (show ls.length = n by rw [← hp.1, hv.len])
  have HN := Lib.hid hn
  have hnI : (n : Int) ≤ 100000 := by omega
  clear hv hp
  have HGA := Lib.hid hg
  clear hg
  go_enter Tryd.func12, Tryd.ntmps12
  go_wp2
  go_loopw [6, 13] (fun v i wr => ∃ k : Nat, k ≤ n ∧ i = .int .i64 (k : Int) ∧ rdsB (ls.take k) = true ∧ Own wr w.heap.size 49 12 v k (ptsL (ls.take k)) ∧ Fr Nob w wr) (fun _ i _ => n - (intOf i).toNat)
  case atStart => exact ⟨0, Nat.zero_le _, rfl, by rw [List.take_zero]; unfold rdsB; rfl, by rw [List.take_zero]; unfold ptsL; exact Own.nil _ _ _ _, Fr.refl _ _⟩
  case round =>
    obtain ⟨k, hk, rfl, hgood, hown, hf⟩ := hrel
    by_cases hlt : k < n
    · have hltI : (k : Int) < (n : Int) := by omega
      obtain ⟨b, o, rfl, hat⟩ := (HV.out.still hf).at (by omega)
      have hvl : k < vs.length := by rw [HV.out.len]; exact hlt
      obtain ⟨a, nn, c, hve, hcc, hrd⟩ := HP.out.2 k (vs[k]'hvl) (List.getElem?_eq_getElem hvl)
      have hc1 := hat k _ (List.getElem?_eq_getElem hvl)
      rw [hve] at hc1
      have hlk : k < ls.length := by rw [HL.out]; exact hlt
      have hts := rdsB_take ls k hlk
      have hcs : ptsL (ls.take (k + 1)) = ptsL (ls.take k) ++ (rdT (ls.getD k [])).L := by
        rw [List.take_succ_eq_append_getElem hlk, ptsL_snoc]
        simp [List.getD_eq_getElem?_getD, hlk]
      have hbad := rdsB_bad ls k hlk
      generalize hL : ls.getD k [] = l at *
      have HLL := Lib.hid hL
      have HRD := Lib.hid (hrd.still hf)
      have HTS := Lib.hid hts
      have HCS := Lib.hid hcs
      have HBAD := Lib.hid hbad
      have HG := Lib.hid hgood
      have HOWN := Lib.hid hown
      have HF := Lib.hid hf
      have HCC := Lib.hid hcc
      clear hL hrd hts hcs hbad hgood hown hf hat hve hcc
      have st0 := St.start Nob wr
      rcases Bool.eq_false_or_eq_true (rdOk l) with hh | hh
      · have HK := Lib.hid hh
        clear hh
        skip
        go_wp2_with fail
        refine (k256_c _).mono ?_
        rintro e' w1 ⟨gc, rfl, hle, hcv, hf1⟩
        have st1 := st0.keep hf1
        have HCV := Lib.hid hcv
        clear hcv hle
        clear st0 hf1
        go_wp2_with fail
        refine (read_t l HK.out gc a nn c _ HCV.out (HRD.out.still st1.fr) HCC.out).mono ?_
        rintro e' w2 ⟨rfl, hf2⟩
        have st2 := st1.keep hf2
        clear st1 hf2
        go_wp2_with (with_reducible refine wl_stop (o := ⟨some 9, _, _, _, _, _⟩) ?_)
        refine wl_allocS st2 rfl rfl (z := .agg (List.replicate 12 (.int .u64 0)).toArray) (by kernel_rfl) (cw 12 0) (by rw [cw_zero]; rfl) ?_
        intro g9 w3 st3
        clear st2
        go_wp2_with (with_reducible refine wl_stop (o := ⟨none, _, _, _, _, _⟩) ?_)
        refine wl_storeS st3 0 rfl rfl rfl rfl rfl (by first | (simp only [cw_len]; done) | (simp only [cw_len, PT.len]; done)) (by first | (rw [cw_len]; kernel_rfl) | (simp only [PT.len]; kernel_rfl)) (PT.one _) ?_
        intro w4 st4
        clear st3
        have HFS := Lib.hid st4.fr
        go_wp2_with (with_reducible refine wl_stop (o := ⟨some 26, _, _, _, _, _⟩) ?_)
        refine wl_loadSt st4 0 rfl rfl rfl Tryd.underlying49 rfl rfl (by first | (rw [cw_len]; kernel_rfl) | (simp only [PT.len]; kernel_rfl)) ?_
        clear st4
        go_wp2_with (with_reducible refine wl_stop (o := ⟨some 27, _, _, _, _, _⟩) ?_)
        refine wl_slitR rfl rfl Tryd.underlying46 info_pt [.agg (rdT l).L.toArray] rfl (by simp [Value.cells, PT.len]) rfl ((rdT l).L) (by simp [Value.cells]) ?_
        intro wA hgA hfA hzA
        clear hzA
        have hfrA := HFS.out.then hfA
        have hsz := HF.out.size
        have hsz2 := hfrA.size
        have hownA := HOWN.out.still hfrA
        have hrdA : Rd wA (some ⟨w4.heap.size, 0, none⟩) (1 * 12) ((rdT l).L) := by
          have := Rd.whole hgA
          rwa [PT.len] at this
        have HRDA := Lib.hid hrdA
        have HOWNA := Lib.hid hownA
        have HFRA := Lib.hid hfrA
        clear hgA hfA hrdA hownA hfrA
        generalize w4.heap.size = gA at *
        go_wp2_with (with_reducible refine wl_stop (o := ⟨some 28, _, _, _, _, _⟩) ?_)
        refine wl_append rfl rfl Tryd.underlying46 info_pt rfl (by decide) HOWNA.out rfl rfl HRDA.out (PT.one _) (by unfold maxLen; omega) (by omega) (by omega) ?_
        intro vB wB hownB hfB hbB
        clear hbB
        have hfrB := HOWNA.out.fr (HF.out.then HFRA.out) (Nat.le_refl _) hfB
        have HFRB := Lib.hid hfrB
        rw [← HCS.out] at hownB
        have HOWNB := Lib.hid hownB
        clear hfrB hownB hfB
        go_wp2_with fail
        go_roundw
        case rel => exact ⟨k + 1, by omega, by go_num, by rw [HTS.out, HG.out, HK.out]; rfl, HOWNB.out, HFRB.out⟩
        case measure => simp [intOf]; omega
      · have HK := Lib.hid hh
        clear hh
        skip
        go_wp2_with fail
        refine (k256_c _).mono ?_
        rintro e' w1 ⟨gc, rfl, hle, hcv, hf1⟩
        have st1 := st0.keep hf1
        have HCV := Lib.hid hcv
        clear hcv hle
        clear st0 hf1
        go_wp2_with fail
        refine (read_f l HK.out gc a nn c _ HCV.out (HRD.out.still st1.fr) HCC.out).mono ?_
        rintro e' w2 ⟨⟨X, Y, Z, rfl⟩, hf2⟩
        have st2 := st1.keep hf2
        clear st1 hf2
        go_wp2_with (with_reducible refine wl_stop (o := ⟨some 9, _, _, _, _, _⟩) ?_)
        refine wl_allocS st2 rfl rfl (z := .agg (List.replicate 12 (.int .u64 0)).toArray) (by kernel_rfl) (cw 12 0) (by rw [cw_zero]; rfl) ?_
        intro g9 w3 st3
        clear st2
        go_wp2_with (with_reducible refine wl_stop (o := ⟨none, _, _, _, _, _⟩) ?_)
        refine wl_storeS st3 0 rfl rfl rfl rfl rfl (by first | (simp only [cw_len]; done) | (simp only [cw_len, ptL_len]; done)) (by first | (rw [cw_len]; kernel_rfl) | (simp only [ptL_len]; kernel_rfl)) (ptL_one _ _ _ _) ?_
        intro w4 st4
        clear st3
        have HFS := Lib.hid (HF.out.then st4.fr)
        clear st4
        go_wp2_with fail
        go_ret2
        exact ⟨rfl, HFS.out⟩
    · exfalso
      have hkn : k = ls.length := by rw [HL.out]; omega
      rw [hkn, List.take_of_length_le (Nat.le_refl _), HGA.out] at hgood
      cases hgood
end Go.Proofs.YtemcankmggmgoaaDoor

/- group: the closures of Plus, Minus and Times; scalar. -/
namespace Go.Proofs.YtemcankmggmgoaaDoor
open Go.RowKit Go.Mv Mvp Mvq
theorem pts_0 (la : List UInt8) (ls : List (List UInt8)) : ((ptsL (la :: ls)).drop 0).take (rdT la).L.length = (rdT la).L := ptsL_at (la :: ls) 0 (by simp)
attribute [local irreducible] limbs lw mix cw cSub cAdd cMul beN laid be32 montT mstep elN mdL numB rtN rtV rtOk gXn gYn PT.L addT dblT mulT tbL tmR tmL dbN innT outT sumT dig rdT rdOk rdPt ptL ptsL rdsB wrPt
set_option maxHeartbeats 8000000 in
set_option maxRecDepth 1000000 in
theorem times1_c (la : List UInt8) (w : World) (n : Nat) (gk : Nat) (hkn : Has w gk (cw 4 n) 42) (ap : Option Addr) (cp : Nat) (hre : Rd w ap ([la].length * 12) (ptsL [la])) :
    Calls Tryd.prog 13 #[.slice ap 1 cp, .pointer (some ⟨gk, 0, none⟩)] w fun e w' => e = .returned (.agg (sumT [(n, rdT la)]).L.toArray) ∧ Fr Nob w w' := by
  obtain ⟨bb, oo, rfl, -⟩ := hre.at (by simp)
  have HRE := Lib.hid hre
  have HKN := Lib.hid hkn
  clear hre hkn
  have st0 := St.start Nob w
  go_enter Tryd.func13, Tryd.ntmps13
  go_wp2_with (with_reducible refine wl_stop (o := ⟨some 3, _, _, _, _, _⟩) ?_)
  refine wl_allocS st0 rfl rfl (z := .agg (List.replicate 12 (.int .u64 0)).toArray) (by kernel_rfl) (cw 12 0) (by rw [cw_zero]; rfl) ?_
  intro gr w1 st1
  clear st0
  go_wp2_with fail
  refine wp_region_noPanic ?_
  refine wp_region_plan (fun wx => St Nob w wx [(gr, cw 12 0, 49)]) 6 (.t 1 (.w 2 (.w 3 (.t 4 (.r 0 (.r 5 (.m 6 .nil))))))) (by kernel_rfl) (by kernel_rfl) st1.drew (fun _ _ _ _ _ h => h) ?_
  have hd1 := st1.drew
  clear st1
  refine plan_arr rfl rfl rfl rfl (cw 4 n) (fun wx hS => (HKN.out.keep (St.fr hS) id).range 0 _ (by rw [List.drop_zero, List.take_of_length_le (Nat.le_refl _)])) Tryd.underlying42 rfl (by first | (rw [cw_len]; kernel_rfl) | (rw [PT.len]; kernel_rfl) | (rw [ptL_len]; kernel_rfl) | (simp only [List.length_append, cw_len]; kernel_rfl) | (simp only [List.length_append, cw_len, PT.len, ptL_len]; kernel_rfl)) ?_
  try simp only [Go.Mv.clL]
  refine plan_w (v := ?_) rfl rfl (fun wx => ?_) ?_
  rotate_left 1
  · (go_simp; with_reducible rfl)
  try simp only [Go.Mv.clL]
  refine plan_w (v := ?_) rfl rfl (fun wx => ?_) ?_
  rotate_left 1
  · (go_simp; with_reducible rfl)
  try simp only [Go.Mv.clL]
  refine plan_arr rfl rfl rfl rfl ((rdT la).L) (fun wx hS => (rd_range (HRE.out.still (St.fr hS)) 0 _ (pts_0 la []))) Tryd.underlying49 rfl (by first | (rw [cw_len]; kernel_rfl) | (simp only [PT.len]; kernel_rfl)) ?_
  try simp only [Go.Mv.clL]
  refine plan_r rfl rfl ?_
  go_simp
  refine (k256_c _).mono ?_
  rintro e' w2 ⟨gc, rfl, hle, hcv, hf2⟩
  have st2 := hd1.keep hf2
  have HCV := Lib.hid hcv
  clear hcv hle
  clear hf2
  clear hd1
  refine ⟨st2, ?_⟩
  try simp only [Go.Mv.clL]
  refine plan_r rfl rfl ?_
  go_simp
  refine (times_c n (rdT la) gc _ HCV.out).mono ?_
  rintro e' w3 ⟨rfl, hf3⟩
  have st3 := st2.keep hf3
  clear hf3
  clear st2
  refine ⟨st3, ?_⟩
  try simp only [Go.Mv.clL]
  refine plan_m rfl rfl ?_
  refine wp_storeS st3 0 rfl rfl rfl rfl (by first | (simp only [cw_len]; done) | (simp only [cw_len, PT.len]; done)) (by first | (rw [cw_len]; kernel_rfl) | (simp only [PT.len]; kernel_rfl)) (PT.one _) ?_
  intro w4 st4
  clear st3
  try simp only [Act.put]
  refine plan_end ?_
  refine NoPanic.normal ?_
  have hr := st4.at 0 rfl
  have hfr := st4.fr
  clear st4
  go_wp2_with fail
  exact bodyPost_ret (results_st rfl rfl hr Tryd.underlying49 rfl (by first | (rw [cw_len]; kernel_rfl) | (simp only [PT.len]; kernel_rfl))) rfl ⟨rfl, hfr⟩

set_option maxHeartbeats 8000000 in
set_option maxRecDepth 1000000 in
theorem scalar_len (m : Md) (hk : KindOf 1 m) (a : Option Addr) (n c : Nat) (l : List UInt8) (w : World) (hb : RdB w a n l) (h32 : l.length ≠ 32) :
    Calls Tryd.prog 11 #[.slice a n c] w fun e w' => e = .returned (.tuple #[i4 0, .bool false]) ∧ Fr Nob w w' := by
  have HK := Lib.hid hk
  have HOK := Lib.hid hk.ok
  clear hk
  have hne : ((n : Int) != 32) = true := by have := hb.len; simp; omega
  clear h32 hb
  have st0 := St.start Nob w
  go_enter Tryd.func11, Tryd.ntmps11
  go_wp2_with (with_reducible refine wl_stop (o := ⟨some 2, _, _, _, _, _⟩) ?_)
  refine wl_allocS st0 rfl rfl (z := .agg #[.int .u64 0, .int .u64 0, .int .u64 0, .int .u64 0]) (by kernel_rfl) (cw 4 0) (by rw [cw_zero]; rfl) ?_
  intro g2 w1 st1
  clear st0
  go_wp2_with (with_reducible refine wl_stop (o := ⟨some 10, _, _, _, _, _⟩) ?_)
  refine wl_build0 rfl rfl _ built_I0 ?_
  rw [words_zI]
  go_wp2_with (with_reducible refine wl_stop (o := ⟨none, _, _, _, _, _⟩) ?_)
  refine wl_storeS st1 0 rfl rfl rfl rfl rfl (by first | (simp only [cw_len]; done) | (simp only [List.length_append, cw_len, PT.len, ptL_len]; done)) (by first | (rw [cw_len]; kernel_rfl) | (rw [PT.len]; kernel_rfl) | (rw [ptL_len]; kernel_rfl) | (simp only [List.length_append, cw_len]; kernel_rfl) | (simp only [List.length_append, cw_len, PT.len, ptL_len]; kernel_rfl)) (cw_one _ _) ?_
  intro w2 st2
  clear st1
  have hr := st2.at 0 rfl
  have hfr := st2.fr
  clear st2
  go_wp2_with fail
  exact bodyPost_ret (results_arr2 rfl rfl hr Tryd.underlying42 (by first | (rw [cw_len]; kernel_rfl) | (rw [PT.len]; kernel_rfl) | (rw [ptL_len]; kernel_rfl) | (simp only [List.length_append, cw_len]; kernel_rfl) | (simp only [List.length_append, cw_len, PT.len, ptL_len]; kernel_rfl)) rfl) rfl ⟨rfl, hfr⟩

set_option maxHeartbeats 8000000 in
set_option maxRecDepth 1000000 in
theorem scalar_num (m : Md) (hk : KindOf 1 m) (a : Option Addr) (n c : Nat) (l : List UInt8) (w : World) (hb : RdB w a n l) (h32 : l.length = 32) (r : Bool) (hlt : decide (beN l < m.M) = r) :
    Calls Tryd.prog 11 #[.slice a n c] w fun e w' => e = .returned (.tuple #[i4 (beN l), .bool r]) ∧ Fr Nob w w' := by
  have HK := Lib.hid hk
  have HOK := Lib.hid hk.ok
  clear hk
  have hbl := beN_le32 l (by omega)
  have HBL := Lib.hid hbl
  have h32' : n = 32 := by have := hb.len; omega
  subst h32'
  have HB := Lib.hid hb
  have HLT := Lib.hid hlt
  have hne : (((32 : Nat) : Int) != 32) = false := by rfl
  clear hb hbl h32 hlt
  have st0 := St.start Nob w
  go_enter Tryd.func11, Tryd.ntmps11
  go_wp2_with (with_reducible refine wl_stop (o := ⟨some 2, _, _, _, _, _⟩) ?_)
  refine wl_allocS st0 rfl rfl (z := .agg #[.int .u64 0, .int .u64 0, .int .u64 0, .int .u64 0]) (by kernel_rfl) (cw 4 0) (by rw [cw_zero]; rfl) ?_
  intro g2 w1 st1
  clear st0
  go_wp2_with fail
  refine (OfK HK.out _).mono ?_
  rintro e' w2 ⟨gp, rfl, hle, hm, hf2⟩
  have st2 : St Nob w w2 [(g2, cw 4 0, 42), (gp, mdL m, 72)] := st1.new hf2 hm hle
  clear st1 hf2 hm hle
  go_wp2_with fail
  refine (FromBytes_any a 32 c l _ (HB.out.still st2.fr) (by decide)).mono ?_
  rintro e' w3 ⟨rfl, hf3⟩
  have st3 := st2.keep hf3
  clear st2 hf3
  go_wp2_with (with_reducible refine wl_stop (o := ⟨some 6, _, _, _, _, _⟩) ?_)
  refine wl_allocS st3 rfl rfl (z := .agg #[.int .u64 0, .int .u64 0, .int .u64 0, .int .u64 0]) (by kernel_rfl) (cw 4 0) (by rw [cw_zero]; rfl) ?_
  intro g6 w4 st4
  clear st3
  go_wp2_with (with_reducible refine wl_stop (o := ⟨none, _, _, _, _, _⟩) ?_)
  refine wl_storeS st4 2 rfl rfl rfl rfl rfl (by first | (simp only [cw_len]; done) | (simp only [List.length_append, cw_len, PT.len, ptL_len]; done)) (by first | (rw [cw_len]; kernel_rfl) | (rw [PT.len]; kernel_rfl) | (rw [ptL_len]; kernel_rfl) | (simp only [List.length_append, cw_len]; kernel_rfl) | (simp only [List.length_append, cw_len, PT.len, ptL_len]; kernel_rfl)) (cw_one _ _) ?_
  intro w5 st5
  clear st4
  go_wp2_with fail
  refine wp_region_noPanic ?_
  refine wp_region_plan (fun wx => St Nob w wx [(g2, cw 4 0, 42), (gp, mdL m, 72), (g6, cw 4 (beN l), 42)]) 7 (.t 0 (.t 1 (.w 2 (.w 3 (.w 4 (.t 5 (.r 6 (.m 7 (.w 8 .nil))))))))) (by kernel_rfl) (by kernel_rfl) st5.drew (fun _ _ _ _ _ h => h) ?_
  have hd5 := st5.drew
  clear st5
  refine plan_arr rfl rfl rfl rfl (cw 4 (beN l)) (fun wx hS => St.rangeL hS 2 rfl 0 _ (by rw [List.drop_zero, List.take_of_length_le (Nat.le_refl _)])) Tryd.underlying42 rfl (by first | (rw [cw_len]; kernel_rfl) | (rw [PT.len]; kernel_rfl) | (rw [ptL_len]; kernel_rfl) | (simp only [List.length_append, cw_len]; kernel_rfl) | (simp only [List.length_append, cw_len, PT.len, ptL_len]; kernel_rfl)) ?_
  try simp only [Go.Mv.clL]
  refine plan_arr rfl rfl rfl rfl (cw 4 (beN l)) (fun wx hS => St.rangeL hS 2 rfl 0 _ (by rw [List.drop_zero, List.take_of_length_le (Nat.le_refl _)])) Tryd.underlying42 rfl (by first | (rw [cw_len]; kernel_rfl) | (rw [PT.len]; kernel_rfl) | (rw [ptL_len]; kernel_rfl) | (simp only [List.length_append, cw_len]; kernel_rfl) | (simp only [List.length_append, cw_len, PT.len, ptL_len]; kernel_rfl)) ?_
  try simp only [Go.Mv.clL]
  refine plan_w (v := ?_) rfl rfl (fun wx => ?_) ?_
  rotate_left 1
  · (go_simp; with_reducible rfl)
  try simp only [Go.Mv.clL]
  refine plan_w (v := ?_) rfl rfl (fun wx => ?_) ?_
  rotate_left 1
  · (go_simp; with_reducible rfl)
  try simp only [Go.Mv.clL]
  refine plan_w (v := ?_) rfl rfl (fun wx => ?_) ?_
  rotate_left 1
  · (go_simp; with_reducible rfl)
  try simp only [Go.Mv.clL]
  refine plan_arr rfl rfl rfl rfl (cw 4 m.M) (fun wx hS => St.rangeL hS 1 rfl 0 _ (md_M m)) Tryd.underlying42 rfl (by first | (rw [cw_len]; kernel_rfl) | (rw [PT.len]; kernel_rfl) | (rw [ptL_len]; kernel_rfl) | (simp only [List.length_append, cw_len]; kernel_rfl) | (simp only [List.length_append, cw_len, PT.len, ptL_len]; kernel_rfl)) ?_
  try simp only [Go.Mv.clL]
  refine plan_r rfl rfl ?_
  go_simp
  refine (MLess_v (beN l) m.M _ HBL.out HOK.out.lt r HLT.out).mono ?_
  rintro e' w6 ⟨rfl, hf6⟩
  have st6 := hd5.keep hf6
  clear hf6
  clear hd5
  refine ⟨st6, ?_⟩
  try simp only [Go.Mv.clL]
  refine plan_m rfl rfl ?_
  refine wp_storeS st6 0 rfl rfl rfl rfl (by first | (simp only [cw_len]; done) | (simp only [List.length_append, cw_len, PT.len, ptL_len]; done)) (by first | (rw [cw_len]; kernel_rfl) | (rw [PT.len]; kernel_rfl) | (rw [ptL_len]; kernel_rfl) | (simp only [List.length_append, cw_len]; kernel_rfl) | (simp only [List.length_append, cw_len, PT.len, ptL_len]; kernel_rfl)) (cw_one _ _) ?_
  intro w7 st7
  clear st6
  try simp only [Act.put]
  refine plan_w (v := ?_) rfl rfl (fun wx => ?_) ?_
  rotate_left 1
  · (go_simp; with_reducible rfl)
  try simp only [Go.Mv.clL]
  refine plan_end ?_
  refine NoPanic.normal ?_
  have hr := st7.at 0 rfl
  have hfr := st7.fr
  clear st7
  go_wp2_with fail
  exact bodyPost_ret (results_arr2 rfl rfl hr Tryd.underlying42 (by first | (rw [cw_len]; kernel_rfl) | (rw [PT.len]; kernel_rfl) | (rw [ptL_len]; kernel_rfl) | (simp only [List.length_append, cw_len]; kernel_rfl) | (simp only [List.length_append, cw_len, PT.len, ptL_len]; kernel_rfl)) rfl) rfl ⟨rfl, hfr⟩

theorem scalar_t {l : List UInt8} (h : numB mQ l = true) (a : Option Addr) (n c : Nat) (w : World) (hb : RdB w a n l) : Calls Tryd.prog 11 #[.slice a n c] w fun e w' => e = .returned (.tuple #[i4 (beN l), .bool true]) ∧ Fr Nob w w' := by
  unfold numB at h
  simp only [Bool.and_eq_true, decide_eq_true_eq] at h
  exact scalar_num mQ .one a n c l w hb h.1 true (decide_eq_true h.2)
theorem scalar_f {l : List UInt8} (h : numB mQ l = false) (a : Option Addr) (n c : Nat) (w : World) (hb : RdB w a n l) : Calls Tryd.prog 11 #[.slice a n c] w fun e w' => (∃ N, e = .returned (.tuple #[i4 N, .bool false])) ∧ Fr Nob w w' := by
  unfold numB at h
  by_cases h32 : l.length = 32
  · rw [decide_eq_true h32, Bool.true_and] at h
    exact (scalar_num mQ .one a n c l w hb h32 false h).mono fun _ _ t => ⟨⟨_, t.1⟩, t.2⟩
  · exact (scalar_len mQ .one a n c l w hb h32).mono fun _ _ t => ⟨⟨_, t.1⟩, t.2⟩
end Go.Proofs.YtemcankmggmgoaaDoor

/- group: Plus, Minus, Times, Point, Base: what they answer. -/
namespace Go.Proofs.YtemcankmggmgoaaDoor
open Go.RowKit Go.Mv Mvp Mvq
theorem base_cells {gp : Nat} : ((crvL mP gp gXn gYn).drop 5).take baseT.L.length = baseT.L := crv_base mP gp gXn gYn
theorem info_bslg : (Tryd.prog.info? 23).map (fun i => (i.zero, i.size, i.bytes)) = some (some (.slice none 0 0), 1, 24) := by kernel_rfl
attribute [local irreducible] limbs lw mix cw cSub cAdd cMul beN laid be32 montT mstep elN mdL numB rtN rtV rtOk gXn gYn PT.L addT dblT mulT tbL tmR tmL dbN innT outT sumT dig rdT rdOk rdPt ptL ptsL rdsB wrPt
set_option maxHeartbeats 8000000 in
set_option maxRecDepth 1000000 in
theorem GTimes_ok (vk va : Value) (lk la : List UInt8) (w : World) (hpk : BPart w vk lk) (hpa : BPart w va la) (hk : numB mQ lk = true) (hg : rdsB [la] = true) :
    Calls Tryd.prog 6 #[vk, va] w fun e w' => ∃ v, e = .returned (.tuple #[v, .int .i64 0]) ∧ Own w' w.heap.size 5 1 v 33 (bs (wrPt (sumT [(beN lk, rdT la)]).pt)) ∧ Fr Nob w w' := by
  have HP := Lib.hid (BParts.one hpa)
  have HA1 := Lib.hid (BPart.one hpa)
  have HK := Lib.hid hk
  obtain ⟨ak, nk, ck, rfl, -, hrk⟩ := hpk
  have HRK := Lib.hid hrk
  have HG := Lib.hid hg
  clear hg hpa hk hrk
  have st0 := St.start Nob w
  go_enter Tryd.func6, Tryd.ntmps6
  go_wp2_with fail
  refine (scalar_t HK.out ak nk ck _ (HRK.out.still st0.fr)).mono ?_
  rintro e' w1 ⟨rfl, hf1⟩
  have st1 := st0.keep hf1
  clear st0 hf1
  go_wp2_with (with_reducible refine wl_stop (o := ⟨some 6, _, _, _, _, _⟩) ?_)
  refine wl_allocS st1 rfl rfl (z := .agg #[.int .u64 0, .int .u64 0, .int .u64 0, .int .u64 0]) (by kernel_rfl) (cw 4 0) (by rw [cw_zero]; rfl) ?_
  intro gk w2 st2
  clear st1
  go_wp2_with (with_reducible refine wl_stop (o := ⟨none, _, _, _, _, _⟩) ?_)
  refine wl_storeS st2 0 rfl rfl rfl rfl rfl (by first | (simp only [cw_len]; done) | (simp only [List.length_append, cw_len, PT.len, ptL_len]; done)) (by first | (rw [cw_len]; kernel_rfl) | (rw [PT.len]; kernel_rfl) | (rw [ptL_len]; kernel_rfl) | (simp only [List.length_append, cw_len]; kernel_rfl) | (simp only [List.length_append, cw_len, PT.len, ptL_len]; kernel_rfl)) (cw_one _ _) ?_
  intro w3 st3
  clear st2
  have HKN := Lib.hid (st3.at 0 rfl)
  have HF1 := Lib.hid st3.fr
  clear st3
  go_wp2_with (with_reducible refine wl_stop (o := ⟨some 17, _, _, _, _, _⟩) ?_)
  refine wl_slit (vs := [va]) (hgd := rfl) (ho := rfl) (hu := Tryd.underlying24) (hi0 := info_bslg) (hp := by rfl) (hv := (fun v hv => by simp at hv; subst hv; exact HA1.out)) (hk := by rfl) (hz := by rfl) (h := ?_)
  intro wS hgS hfS hzS
  clear hzS
  generalize w3.heap.size = gl at *
  have HF2 := Lib.hid (HF1.out.then hfS)
  have HKN2 := Lib.hid (HKN.out.keep hfS id)
  have HRD := Lib.hid (show Rd wS (some ⟨gl, 0, none⟩) 1 [va] from Rd.whole hgS)
  clear hgS hfS HF1 HKN
  go_wp2_with fail
  refine (with_times_ok gk _ 1 1 [va] [la] _ HRD.out (HP.out.still HF2.out) (by decide) HG.out (sumT [(beN lk, rdT la)]) (fun ap cp wx hfx hrx => times1_c la wx (beN lk) gk (HKN2.out.keep hfx id) ap cp hrx)).mono ?_
  rintro e wE ⟨v, rfl, hown, hfE⟩
  have h3 := HF2.out.then hfE
  have ho := hown.mono HF2.out.size
  clear hown hfE HF2
  go_wp2_with fail
  go_ret2
  exact ⟨v, rfl, ho, h3⟩

set_option maxHeartbeats 8000000 in
set_option maxRecDepth 1000000 in
theorem GTimes_badp (vk va : Value) (lk la : List UInt8) (w : World) (hpk : BPart w vk lk) (hpa : BPart w va la) (hk : numB mQ lk = true) (hg : rdsB [la] = false) :
    Calls Tryd.prog 6 #[vk, va] w fun e w' => e = .returned (.tuple #[.slice none 0 0, .int .i64 4]) ∧ Fr Nob w w' := by
  have HP := Lib.hid (BParts.one hpa)
  have HA1 := Lib.hid (BPart.one hpa)
  have HK := Lib.hid hk
  obtain ⟨ak, nk, ck, rfl, -, hrk⟩ := hpk
  have HRK := Lib.hid hrk
  have HG := Lib.hid hg
  clear hg hpa hk hrk
  have st0 := St.start Nob w
  go_enter Tryd.func6, Tryd.ntmps6
  go_wp2_with fail
  refine (scalar_t HK.out ak nk ck _ (HRK.out.still st0.fr)).mono ?_
  rintro e' w1 ⟨rfl, hf1⟩
  have st1 := st0.keep hf1
  clear st0 hf1
  go_wp2_with (with_reducible refine wl_stop (o := ⟨some 6, _, _, _, _, _⟩) ?_)
  refine wl_allocS st1 rfl rfl (z := .agg #[.int .u64 0, .int .u64 0, .int .u64 0, .int .u64 0]) (by kernel_rfl) (cw 4 0) (by rw [cw_zero]; rfl) ?_
  intro gk w2 st2
  clear st1
  go_wp2_with (with_reducible refine wl_stop (o := ⟨none, _, _, _, _, _⟩) ?_)
  refine wl_storeS st2 0 rfl rfl rfl rfl rfl (by first | (simp only [cw_len]; done) | (simp only [List.length_append, cw_len, PT.len, ptL_len]; done)) (by first | (rw [cw_len]; kernel_rfl) | (rw [PT.len]; kernel_rfl) | (rw [ptL_len]; kernel_rfl) | (simp only [List.length_append, cw_len]; kernel_rfl) | (simp only [List.length_append, cw_len, PT.len, ptL_len]; kernel_rfl)) (cw_one _ _) ?_
  intro w3 st3
  clear st2
  have HKN := Lib.hid (st3.at 0 rfl)
  have HF1 := Lib.hid st3.fr
  clear st3
  go_wp2_with (with_reducible refine wl_stop (o := ⟨some 17, _, _, _, _, _⟩) ?_)
  refine wl_slit (vs := [va]) (hgd := rfl) (ho := rfl) (hu := Tryd.underlying24) (hi0 := info_bslg) (hp := by rfl) (hv := (fun v hv => by simp at hv; subst hv; exact HA1.out)) (hk := by rfl) (hz := by rfl) (h := ?_)
  intro wS hgS hfS hzS
  clear hzS
  generalize w3.heap.size = gl at *
  have HF2 := Lib.hid (HF1.out.then hfS)
  have HKN2 := Lib.hid (HKN.out.keep hfS id)
  have HRD := Lib.hid (show Rd wS (some ⟨gl, 0, none⟩) 1 [va] from Rd.whole hgS)
  clear hgS hfS HF1 HKN
  go_wp2_with fail
  refine (with_times_bad gk _ 1 1 [va] [la] _ HRD.out (HP.out.still HF2.out) (by decide) HG.out).mono ?_
  rintro e wE ⟨rfl, hfE⟩
  have h3 := HF2.out.then hfE
  clear hfE HF2
  go_wp2_with fail
  go_ret2
  exact ⟨rfl, h3⟩

set_option maxHeartbeats 8000000 in
set_option maxRecDepth 1000000 in
theorem GTimes_badk (vk va : Value) (lk la : List UInt8) (w : World) (hpk : BPart w vk lk) (hpa : BPart w va la) (hk : numB mQ lk = false) :
    Calls Tryd.prog 6 #[vk, va] w fun e w' => e = .returned (.tuple #[.slice none 0 0, .int .i64 3]) ∧ Fr Nob w w' := by
  have HP := Lib.hid (BParts.one hpa)
  have HA1 := Lib.hid (BPart.one hpa)
  have HK := Lib.hid hk
  obtain ⟨ak, nk, ck, rfl, -, hrk⟩ := hpk
  have HRK := Lib.hid hrk
  clear hpa hk hrk
  have st0 := St.start Nob w
  go_enter Tryd.func6, Tryd.ntmps6
  go_wp2_with fail
  refine (scalar_f HK.out ak nk ck _ (HRK.out.still st0.fr)).mono ?_
  rintro e' w1 ⟨⟨N, rfl⟩, hf1⟩
  have st1 := st0.keep hf1
  clear st0 hf1
  go_wp2_with (with_reducible refine wl_stop (o := ⟨some 6, _, _, _, _, _⟩) ?_)
  refine wl_allocS st1 rfl rfl (z := .agg #[.int .u64 0, .int .u64 0, .int .u64 0, .int .u64 0]) (by kernel_rfl) (cw 4 0) (by rw [cw_zero]; rfl) ?_
  intro gk w2 st2
  clear st1
  go_wp2_with (with_reducible refine wl_stop (o := ⟨none, _, _, _, _, _⟩) ?_)
  refine wl_storeS st2 0 rfl rfl rfl rfl rfl (by first | (simp only [cw_len]; done) | (simp only [List.length_append, cw_len, PT.len, ptL_len]; done)) (by first | (rw [cw_len]; kernel_rfl) | (rw [PT.len]; kernel_rfl) | (rw [ptL_len]; kernel_rfl) | (simp only [List.length_append, cw_len]; kernel_rfl) | (simp only [List.length_append, cw_len, PT.len, ptL_len]; kernel_rfl)) (cw_one _ _) ?_
  intro w3 st3
  clear st2
  have hfr := st3.fr
  clear st3
  go_wp2_with fail
  go_ret2
  exact ⟨rfl, hfr⟩

set_option maxHeartbeats 8000000 in
set_option maxRecDepth 1000000 in
theorem GBase_c (w : World) : Calls Tryd.prog 7 #[] w fun e w' => ∃ v, e = .returned v ∧ Own w' w.heap.size 5 1 v 33 (bs (wrPt baseT.pt)) ∧ Fr Nob w w' := by
  go_enter Tryd.func7, Tryd.ntmps7
  go_wp2_with fail
  refine (k256_c _).mono ?_
  rintro e w1 ⟨gc, rfl, hle, hcv, hf1⟩
  have HCV := Lib.hid hcv
  have HF1 := Lib.hid hf1
  clear hle hcv hf1
  go_wp2_with fail
  refine (k256_c _).mono ?_
  rintro e w2 ⟨gd, rfl, hle, ⟨gq, hc2, hm2⟩, hf2⟩
  have HCV2 := Lib.hid (HCV.out.keep hf2)
  have HF2 := Lib.hid (HF1.out.then hf2)
  clear hle hm2 hf2 HCV HF1
  go_wp2_with (with_reducible refine wl_stop (o := ⟨some 5, _, _, _, _, _⟩) ?_)
  refine wl_loadR rfl rfl Tryd.underlying49 rfl rfl (cs := baseT.L) (fun i v hv => hc2.range 5 _ base_cells i v hv) (by rw [PT.len]; kernel_rfl) ?_
  clear hc2
  go_wp2_with fail
  refine (bytes_c baseT gc _ HCV2.out).mono ?_
  rintro e w3 ⟨v, rfl, hown, hf3⟩
  have h3 := HF2.out.then hf3
  have ho := hown.mono HF2.out.size
  clear hown hf3 HF2 HCV2
  go_wp2_with fail
  go_ret
  exact ⟨v, rfl, ho, h3⟩
end Go.Proofs.YtemcankmggmgoaaDoor

/- group's exported functions, for all bytes: what they answer, told by points. -/
namespace Mvq
theorem psum_snoc : ∀ (l : List (Nat × Pt)) (n : Nat) (p : Pt), (∀ t ∈ l, onC t.2) → onC p → psum (l ++ [(n, p)]) = padd (psum l) (pmul n p)
  | [], n, p, _, _ => by show padd (pmul n p) .O = padd .O (pmul n p); rw [padd_zero]; rfl
  | (k, q) :: l, n, p, h, hp => by
    have hl : ∀ t ∈ l, onC t.2 := fun t ht => h t (List.mem_cons_of_mem _ ht)
    show padd (pmul k q) (psum (l ++ [(n, p)])) = padd (padd (pmul k q) (psum l)) (pmul n p)
    rw [psum_snoc l n p hl hp, padd_assoc (pmul_on (h (k, q) (by simp)) k) (psum_on l hl) (pmul_on hp n)]
end Mvq
namespace Go.Proofs.YtemcankmggmgoaaDoor
open Go.RowKit Go.Mv Mvp Mvq
/-- terms, as numbers and points -/
noncomputable def tpts (l : List (Nat × PT)) : List (Nat × Pt) := l.map fun t => (t.1, t.2.pt)
theorem tpts_on (l : List (Nat × PT)) : ∀ t ∈ tpts l, onC t.2 := by
  intro t ht
  obtain ⟨u, _, rfl⟩ := List.mem_map.1 ht
  exact u.2.onP
theorem innT_pt (l : List (Nat × PT)) (i : Nat) (o : PT) : ∀ k, k ≤ l.length → (innT l i o k).pt = padd o.pt (psum ((tpts (l.take k)).map fun t => (dig (63 - i) t.1, t.2)))
  | 0, _ => by show o.pt = padd o.pt .O; rw [padd_zero]
  | k + 1, h => by
    have ih := innT_pt l i o k (by omega)
    have hk : k < l.length := by omega
    have e : l.take (k + 1) = l.take k ++ [tmAt l k] := by
      rw [List.take_succ_eq_append_getElem hk]
      simp [tmAt, List.getD_eq_getElem?_getD, hk]
    have hon : ∀ t ∈ (tpts (l.take k)).map (fun t => (dig (63 - i) t.1, t.2)), onC t.2 := by
      intro t ht
      obtain ⟨u, hu, rfl⟩ := List.mem_map.1 ht
      exact tpts_on _ u hu
    rw [e, tpts, List.map_append, List.map_append, ← tpts]
    show (addT (innT l i o k) (mulT (tmAt l k).2 (dig (63 - i) (tmAt l k).1))).pt = padd o.pt (psum ((tpts (l.take k)).map (fun t => (dig (63 - i) t.1, t.2)) ++ [(dig (63 - i) (tmAt l k).1, (tmAt l k).2.pt)]))
    rw [addT_pt, mulT_pt, ih, psum_snoc _ _ _ hon (tmAt l k).2.onP, padd_assoc o.onP (psum_on _ hon) (pmul_on (tmAt l k).2.onP _)]
theorem outT_pt (l : List (Nat × PT)) (hn : ∀ t ∈ l, t.1 < 16 ^ 64) : ∀ i, i ≤ 64 → (outT l i).pt = psum (lead (64 - i) (tpts l))
  | 0, _ => by
    show noT.pt = _
    rw [noT_pt]
    have : ∀ l : List (Nat × PT), (∀ t ∈ l, t.1 < 16 ^ 64) → psum (lead 64 (tpts l)) = .O := by
      intro l
      induction l with
      | nil => intro _; rfl
      | cons t l ih =>
        intro h
        show padd (pmul (t.1 / 16 ^ 64) t.2.pt) (psum (lead 64 (tpts l))) = .O
        rw [Nat.div_eq_of_lt (h t (by simp)), ih fun u hu => h u (List.mem_cons_of_mem _ hu)]
        rfl
    exact (this l hn).symm
  | i + 1, h => by
    have ih := outT_pt l hn i (by omega)
    show (innT l i (dbN (outT l i) 4) l.length).pt = _
    rw [innT_pt l i _ l.length (Nat.le_refl _), dbN_pt _ rfl, ih, List.take_of_length_le (Nat.le_refl _)]
    have := lead_next (63 - i) (tpts l) (tpts_on l)
    rw [show 63 - i + 1 = 64 - i by omega] at this
    rw [show 64 - (i + 1) = 63 - i by omega]
    exact this.symm
theorem sumT_pt (l : List (Nat × PT)) (hn : ∀ t ∈ l, t.1 < 16 ^ 64) : (sumT l).pt = psum (tpts l) := by
  have h := outT_pt l hn 64 (Nat.le_refl _)
  rw [Nat.sub_self] at h
  have e : lead 0 (tpts l) = tpts l := by
    unfold lead
    conv => rhs; rw [← List.map_id (tpts l)]
    refine List.map_congr_left fun t _ => ?_
    show (t.1 / 16 ^ 0, t.2) = t
    rw [Nat.pow_zero, Nat.div_one]
  rw [e] at h
  exact h
/-- what is owned reads -/
theorem Own.part {w : World} {base : Nat} {v : Value} {l : List UInt8} (h : Own w base 5 1 v l.length (bs l)) : BPart w v l := by
  obtain ⟨a, c, rfl, hc, hr, -⟩ := h.form
  exact ⟨a, _, c, rfl, hc, by rwa [Nat.mul_one] at hr⟩
/-- a list of bytes of the call's own -/
def OwnB1 (w w' : World) (v : Value) (l : List UInt8) : Prop := Own w' w.heap.size 5 1 v l.length (bs l)
theorem OwnB1.part {w w' : World} {v : Value} {l : List UInt8} (h : OwnB1 w w' v l) : BPart w' v l := Own.part h
theorem OwnB1.nil (w w' : World) : OwnB1 w w' (.slice none 0 0) [] := Own.nil _ _ _ _
theorem OwnB1.of {w w' : World} {v : Value} {l : List UInt8} {n : Nat} (h : Own w' w.heap.size 5 1 v n (bs l)) (hn : l.length = n) : OwnB1 w w' v l := by subst hn; exact h
theorem q16 : mQ.M < 16 ^ 64 := by decide
noncomputable def tS (lk la : List UInt8) : List UInt8 := if numB mQ lk && rdOk la then wrPt (pmul (beN lk) (rdPt la)) else []
def tC (lk la : List UInt8) : Int := if numB mQ lk then (if rdOk la then 0 else 4) else 3
theorem numB_lt2 {l : List UInt8} (h : numB mQ l = true) : beN l < mQ.M := by
  unfold numB at h
  simp only [Bool.and_eq_true, decide_eq_true_eq] at h
  exact h.2
theorem GTimes_u (vk va : Value) (lk la : List UInt8) (w : World) (hpk : BPart w vk lk) (hpa : BPart w va la) :
    Calls Tryd.prog 6 #[vk, va] w fun e w' => ∃ v, e = .returned (.tuple #[v, .int .i64 (tC lk la)]) ∧ OwnB1 w w' v (tS lk la) ∧ Fr Nob w w' := by
  unfold tS tC
  cases hk : numB mQ lk
  · exact (GTimes_badk vk va lk la w hpk hpa hk).mono fun e w' k => ⟨_, k.1, OwnB1.nil _ _, k.2⟩
  · cases h : rdOk la
    · exact (GTimes_badp vk va lk la w hpk hpa hk (by simpa [rdsB] using h)).mono fun e w' k => ⟨_, k.1, OwnB1.nil _ _, k.2⟩
    · refine (GTimes_ok vk va lk la w hpk hpa hk (by simp [rdsB, h])).mono fun e w' ⟨v, k1, k2, k3⟩ => ⟨v, k1, ?_, k3⟩
      have e1 : (sumT [(beN lk, rdT la)]).pt = pmul (beN lk) (rdPt la) := by
        rw [sumT_pt _ (by intro t ht; simp only [List.mem_singleton] at ht; subst ht; exact Nat.lt_trans (numB_lt2 hk) q16)]
        show padd (pmul (beN lk) (rdT la).pt) .O = _
        rw [padd_zero, rdT_pt h]
      rw [e1] at k2
      exact OwnB1.of k2 (wrPt_len _)
/-- the base -/
def gP : Pt := .A (kc gXn) (kc gYn)
theorem GBase_u (w : World) : Calls Tryd.prog 7 #[] w fun e w' => ∃ v, e = .returned v ∧ OwnB1 w w' v (wrPt gP) ∧ Fr Nob w w' :=
  (GBase_c w).mono fun e w' ⟨v, k1, k2, k3⟩ => ⟨v, k1, by rw [baseT_pt] at k2; exact OwnB1.of k2 (wrPt_len _), k3⟩
end Go.Proofs.YtemcankmggmgoaaDoor

/- GroupLaw, plain: the law's numbers; contracts at points that are known to be points. -/
namespace Mvp
end Mvp
namespace Go.Proofs.YtemcankmggmgoaaDoor
open Go.RowKit Go.Mv Mvp Mvq
/-- a slice of the call's own that reads as a point's bytes -/
def PtB (w : World) (a : Option Addr) (c : Nat) (p : Pt) : Prop := BPart w (.slice a 33 c) (wrPt p)
theorem PtB.still {w w' : World} {a : Option Addr} {c : Nat} {p : Pt} (h : PtB w a c p) (hf : Fr Nob w w') : PtB w' a c p := BPart.still h hf
theorem PtB.of {w w' : World} {v : Value} {p : Pt} (h : OwnB1 w w' v (wrPt p)) : ∃ a c, v = .slice a 33 c ∧ PtB w' a c p := by
  obtain ⟨a, n, c, rfl, hc, hr⟩ := h.part
  have : n = 33 := by have := hr.len; rw [wrPt_len] at this; exact this.symm
  subst this
  exact ⟨a, c, rfl, a, 33, c, rfl, hc, hr⟩
theorem gP_on : onC gP := by unfold gP; exact base_on
end Go.Proofs.YtemcankmggmgoaaDoor

/- num.Dot: what it answers. -/
namespace Mvp
end Mvp
namespace Go.Proofs.YtemcankmggmgoaaDoor
open Go.RowKit Go.Mv Mvp
attribute [local irreducible] limbs lw mix cw cSub cAdd cMul beN laid be32 montT mstep elN mdL numB
end Go.Proofs.YtemcankmggmgoaaDoor

/- SpongeLogs: what stays of many logs, step by step. -/
namespace Go.Mv
open Go.RowKit
theorem Has.ne {w : World} {g g' : Nat} {L L' : List Value} {T T' : TypeId} (h : Has w g L T) (h' : Has w g' L' T') (hT : T ≠ T') : g ≠ g' := by
  rintro rfl
  obtain ⟨_, _, h1, _⟩ := h
  obtain ⟨_, _, h2, _⟩ := h'
  rw [h1] at h2
  simp at h2
  exact hT h2.2.1
theorem Own.ne2 {w : World} {base base' sz sz' n n' : Nat} {T T' : TypeId} {v v' : Value} {L L' : List Value} (h : Own w base T sz v n L) (h' : Own w base' T' sz' v' n' L') (hT : T ≠ T') (k : Nat) (hk : OwnB v k) : ¬ OwnB v' k := by
  obtain ⟨_, ⟨rfl, _⟩ | ⟨g, o, cap, B, rfl, _, hg, _⟩⟩ := h'
  · intro t; cases t
  · intro t
    have e : g = k := by simpa [OwnB, Value.ownBlock] using t
    subst e
    exact h.ne hg hT hk
end Go.Mv
namespace Go.Proofs.YtemcankmggmgoaaDoor
open Go.RowKit Go.Mv Mvp
attribute [local irreducible] permS permP toB turnsK squeeze permN spongeB feed frameL framesL tagL
abbrev Tri : Type := Nat × Nat × List UInt8
variable {w w' : World} {base ga gb : Nat} {sa sb : List UInt8} {T : List Tri} {vk vw : Value} {Lk Lw : List Value}
end Go.Proofs.YtemcankmggmgoaaDoor

/- mintvaultlaw8.lists, small: lists of strings as lists of bytes. -/
namespace Go.Proofs.YtemcankmggmgoaaDoor
open Go.RowKit Go.Mv Mvp Mvt
attribute [local irreducible] permS permP toB turnsK squeeze permN spongeB feed frameL framesL tagL
/-- slices of bytes of the call's own -/
def POwn (w : World) (base : Nat) : List Value → List (List UInt8) → Prop
  | [], [] => True
  | v :: vs, l :: ls => Own w base 5 1 v l.length (bs l) ∧ POwn w base vs ls
  | _, _ => False
theorem POwn.len {w : World} {base : Nat} : ∀ {vs : List Value} {ls : List (List UInt8)}, POwn w base vs ls → vs.length = ls.length
  | [], [], _ => rfl
  | _ :: _, _ :: _, h => by simp only [List.length_cons]; rw [POwn.len h.2]
  | [], _ :: _, h => h.elim
  | _ :: _, [], h => h.elim
theorem POwn.keep {w w' : World} {base : Nat} {S : Nat → Prop} (hf : Fr S w w') : ∀ {vs : List Value} {ls : List (List UInt8)}, POwn w base vs ls → (∀ v n l, Own w base 5 1 v n (bs l) → ∀ k, OwnB v k → ¬ S k) → POwn w' base vs ls
  | [], [], _, _ => trivial
  | _ :: _, _ :: _, h, hs => ⟨h.1.keep hf (hs _ _ _ h.1), POwn.keep hf h.2 hs⟩
  | [], _ :: _, h, _ => h.elim
  | _ :: _, [], h, _ => h.elim
theorem POwn.still {w w' : World} {base : Nat} {vs : List Value} {ls : List (List UInt8)} (h : POwn w base vs ls) (hf : Fr Nob w w') : POwn w' base vs ls := POwn.keep hf h (fun _ _ _ _ _ _ t => t)
theorem POwn.app {w w' : World} {base base' sz n : Nat} {vs : List Value} {ls : List (List UInt8)} (h : POwn w base vs ls) {q : Value} {T : TypeId} {L : List Value} (hq : Own w base' T sz q n L) (hT : 5 ≠ T) (hf : Fr (OwnB q) w w') : POwn w' base vs ls :=
  POwn.keep hf h (fun _ _ _ ho k hk hk' => ho.ne2 hq hT k hk hk')
theorem POwn.snoc {w : World} {base : Nat} {v : Value} {l : List UInt8} (hv : Own w base 5 1 v l.length (bs l)) : ∀ {vs : List Value} {ls : List (List UInt8)}, POwn w base vs ls → POwn w base (vs ++ [v]) (ls ++ [l])
  | [], [], _ => ⟨hv, trivial⟩
  | _ :: _, _ :: _, h => ⟨h.1, POwn.snoc hv h.2⟩
  | [], _ :: _, h => h.elim
  | _ :: _, [], h => h.elim
theorem POwn.parts {w : World} {base : Nat} : ∀ {vs : List Value} {ls : List (List UInt8)}, POwn w base vs ls → (∀ x ∈ ls, x.length ≤ 1000000) → Parts w vs ls
  | [], [], _, _ => trivial
  | _ :: _, _ :: _, h, hx => ⟨own_part h.1 (hx _ (by simp)), POwn.parts h.2 (fun x hxm => hx x (by simp [hxm]))⟩
  | [], _ :: _, h, _ => h.elim
  | _ :: _, [], h, _ => h.elim
/-- a list of lists of bytes, all of the call's own -/
def LOwn (w : World) (base : Nat) (v : Value) (ls : List (List UInt8)) : Prop := ∃ vs, Own w base 23 1 v ls.length vs ∧ POwn w base vs ls
theorem LOwn.still {w w' : World} {base : Nat} {v : Value} {ls : List (List UInt8)} (h : LOwn w base v ls) (hf : Fr Nob w w') : LOwn w' base v ls := by
  obtain ⟨vs, h1, h2⟩ := h; exact ⟨vs, h1.still hf, h2.still hf⟩
theorem LOwn.parts {w : World} {base : Nat} {v : Value} {ls : List (List UInt8)} (h : LOwn w base v ls) (hx : ∀ x ∈ ls, x.length ≤ 1000000) : ∃ a c, v = .slice a ls.length c ∧ ls.length ≤ c ∧ PartsAt w a ls := by
  obtain ⟨vs, h1, h2⟩ := h
  obtain ⟨a, c, rfl, hc, hr, -⟩ := h1.form
  rw [Nat.mul_one] at hr
  exact ⟨a, c, rfl, hc, vs, hr, (h2.parts hx).get⟩

end Go.Proofs.YtemcankmggmgoaaDoor

/- bytes.Clone; lists of owned slices of bytes that lie apart. -/
namespace Go.Proofs.YtemcankmggmgoaaDoor
open Go.RowKit Go.Mv Mvp Mvt
attribute [local irreducible] permS permP toB turnsK squeeze permN spongeB feed frameL framesL tagL
/-- no two of them share a block -/
def Sep (vs : List Value) : Prop := vs.Pairwise fun a b => ∀ k, OwnB a k → ¬ OwnB b k
theorem Sep.nil : Sep [] := List.Pairwise.nil
theorem POwn.get {w : World} {base : Nat} : ∀ {vs : List Value} {ls : List (List UInt8)}, POwn w base vs ls → ∀ (i : Nat) (v : Value), vs[i]? = some v → ∃ l, ls[i]? = some l ∧ Own w base 5 1 v l.length (bs l)
  | [], [], _, i, v, hv => by simp at hv
  | a :: vs, l :: ls, h, 0, v, hv => by simp at hv; subst hv; exact ⟨l, rfl, h.1⟩
  | a :: vs, l :: ls, h, i + 1, v, hv => by simp at hv; obtain ⟨l', h1, h2⟩ := POwn.get h.2 i v hv; exact ⟨l', by simpa using h1, h2⟩
  | [], _ :: _, h, _, _, _ => h.elim
  | _ :: _, [], h, _, _, _ => h.elim
theorem POwn.mem {w : World} {base : Nat} {vs : List Value} {ls : List (List UInt8)} (h : POwn w base vs ls) {v : Value} (hv : v ∈ vs) : ∃ l, l ∈ ls ∧ Own w base 5 1 v l.length (bs l) := by
  obtain ⟨i, hi⟩ := List.getElem?_of_mem hv
  obtain ⟨l, h1, h2⟩ := h.get i v hi
  exact ⟨l, List.mem_of_getElem? h1, h2⟩
theorem Sep.snoc {w w' : World} {base : Nat} {vs : List Value} {ls : List (List UInt8)} (h : Sep vs) (hp : POwn w base vs ls) {v : Value} {n : Nat} {L : List Value} {T : TypeId} (hv : Own w' w.heap.size T 1 v n L) : Sep (vs ++ [v]) := by
  unfold Sep at *
  rw [List.pairwise_append]
  refine ⟨h, by simp, fun a ha b hb k hk hk' => ?_⟩
  simp only [List.mem_singleton] at hb
  subst hb
  obtain ⟨l, _, ho⟩ := hp.mem ha
  have h1 := (ho.lt hk).2
  have h2 := (hv.lt hk').1
  omega
theorem POwn.mono {w : World} {base base' : Nat} (hb : base' ≤ base) : ∀ {vs : List Value} {ls : List (List UInt8)}, POwn w base vs ls → POwn w base' vs ls
  | [], [], _ => trivial
  | _ :: _, _ :: _, h => ⟨h.1.mono hb, POwn.mono hb h.2⟩
  | [], _ :: _, h => h.elim
  | _ :: _, [], h => h.elim
/-- a slice of slices of bytes, all of the call's own, apart -/
def SOwn (w : World) (base : Nat) (v : Value) (ls : List (List UInt8)) : Prop := ∃ vs, Own w base 23 1 v ls.length vs ∧ POwn w base vs ls ∧ Sep vs
theorem SOwn.nil (w : World) (base : Nat) : SOwn w base (.slice none 0 0) [] := ⟨[], Own.nil _ _ _ _, trivial, Sep.nil⟩
theorem SOwn.still {w w' : World} {base : Nat} {v : Value} {ls : List (List UInt8)} (h : SOwn w base v ls) (hf : Fr Nob w w') : SOwn w' base v ls := by
  obtain ⟨vs, h1, h2, h3⟩ := h; exact ⟨vs, h1.still hf, h2.still hf, h3⟩
theorem SOwn.lown {w : World} {base : Nat} {v : Value} {ls : List (List UInt8)} (h : SOwn w base v ls) : LOwn w base v ls := by
  obtain ⟨vs, h1, h2, h3⟩ := h; exact ⟨vs, h1, h2⟩
end Go.Proofs.YtemcankmggmgoaaDoor

/- num.Powers: what it answers. -/
namespace Mvp
def lenV : Go.Value → Nat
  | .slice _ n _ => n
  | _ => 0
end Mvp
namespace Go.Proofs.YtemcankmggmgoaaDoor
open Go.RowKit Go.Mv Mvp
theorem SOwn.mono {w : World} {base base' : Nat} {v : Value} {ls : List (List UInt8)} (h : SOwn w base v ls) (hb : base' ≤ base) : SOwn w base' v ls := by
  obtain ⟨vs, h1, h2, h3⟩ := h; exact ⟨vs, h1.mono hb, h2.mono hb, h3⟩
/-- a fresh slice of bytes is appended -/
theorem SOwn.snocF {w w1 w2 w3 : World} {base : Nat} {vs : List Value} {ls : List (List UInt8)} {o v o' : Value} {l : List UInt8}
    (hown : Own w base 23 1 o ls.length vs) (hpo : POwn w base vs ls) (hsep : Sep vs) (hb : base ≤ w.heap.size)
    (hv : Own w1 w.heap.size 5 1 v l.length (bs l)) (hf1 : Fr Nob w w1) (hf2 : Fr Nob w1 w2)
    (ho' : Own w3 base 23 1 o' (ls.length + 1) (vs ++ [v])) (hf3 : Fr (OwnB o) w2 w3) : SOwn w3 base o' (ls ++ [l]) := by
  have h12 := hf1.then hf2
  have hv2 := (hv.still hf2).mono hb
  have ho2 := hown.still h12
  refine ⟨vs ++ [v], by simpa using ho', POwn.snoc (hv2.keep hf3 (fun k hk hk' => hv2.ne2 ho2 (by decide) k hk hk')) ((hpo.still h12).app ho2 (by decide) hf3), hsep.snoc hpo hv⟩
attribute [local irreducible] limbs lw mix cw cSub cAdd cMul beN laid be32 montT mstep elN mdL numB
end Go.Proofs.YtemcankmggmgoaaDoor

/- Slices of the call's own that lie apart: one fact for all of them. -/
namespace Go.Mv
open Go.RowKit
variable {P : Program}
/-- an owned slice: its value, its elements' type, their cells each, how many, the cells -/
structure Ox where
  v : Value
  T : TypeId
  sz : Nat
  n : Nat
  L : List Value
/-- all of l are owned (from base on), no two share a block, none has a block of X -/
structure OwS (w : World) (base : Nat) (X : Nat → Prop) (l : List Ox) : Prop where
  own : ∀ x ∈ l, Own w base x.T x.sz x.v x.n x.L
  off : ∀ x ∈ l, ∀ k, OwnB x.v k → ¬ X k
  sep : l.Pairwise fun a b => ∀ k, OwnB a.v k → ¬ OwnB b.v k
  lt : ∀ k, X k → k < w.heap.size
theorem OwS.nil {w : World} {base : Nat} {X : Nat → Prop} (h : ∀ k, X k → k < w.heap.size) : OwS w base X [] := ⟨by simp, by simp, List.Pairwise.nil, h⟩
theorem OwS.at {w : World} {base : Nat} {X : Nat → Prop} {l : List Ox} (h : OwS w base X l) (i : Nat) {x : Ox} (hi : l[i]? = some x) : Own w base x.T x.sz x.v x.n x.L := h.own x (List.mem_of_getElem? hi)
theorem OwS.keep {w w' : World} {base : Nat} {X : Nat → Prop} {l : List Ox} (h : OwS w base X l) {S : Nat → Prop} (hf : Fr S w w') (hS : ∀ k, S k → X k) : OwS w' base X l :=
  ⟨fun x hx => (h.own x hx).keep hf fun k hk hs => h.off x hx k hk (hS k hs), h.off, h.sep, fun k hk => Nat.lt_of_lt_of_le (h.lt k hk) hf.size⟩
theorem OwS.still {w w' : World} {base : Nat} {X : Nat → Prop} {l : List Ox} (h : OwS w base X l) (hf : Fr Nob w w') : OwS w' base X l := h.keep hf fun _ t => t.elim
/-- one more -/
theorem OwS.new {w w' : World} {base : Nat} {X : Nat → Prop} {l : List Ox} (h : OwS w base X l) (hf : Fr Nob w w') {x : Ox} (ho : Own w' w.heap.size x.T x.sz x.v x.n x.L) (hb : base ≤ w.heap.size) : OwS w' base X (l ++ [x]) := by
  have h2 := h.still hf
  refine ⟨?_, ?_, ?_, h2.lt⟩
  · intro y hy
    rcases List.mem_append.1 hy with hy | hy
    · exact h2.own y hy
    · rw [List.mem_singleton.1 hy]; exact ho.mono hb
  · intro y hy
    rcases List.mem_append.1 hy with hy | hy
    · exact h2.off y hy
    · rw [List.mem_singleton.1 hy]
      intro k hk hx
      have h3 := (ho.lt hk).1
      have h4 := h.lt k hx
      omega
  · rw [List.pairwise_append]
    refine ⟨h.sep, by simp, fun a ha b hb2 k hk hk2 => ?_⟩
    rw [List.mem_singleton.1 hb2] at hk2
    have h3 := (ho.lt hk2).1
    have h4 := ((h.own a ha).lt hk).2
    omega
theorem OwS.sepAt {w : World} {base : Nat} {X : Nat → Prop} {l : List Ox} (h : OwS w base X l) {i j : Nat} {x y : Ox} (hi : l[i]? = some x) (hj : l[j]? = some y) (hij : i ≠ j) : ∀ k, OwnB x.v k → ¬ OwnB y.v k := by
  obtain ⟨hi1, rfl⟩ := List.getElem?_eq_some_iff.1 hi
  obtain ⟨hj1, rfl⟩ := List.getElem?_eq_some_iff.1 hj
  rcases Nat.lt_or_ge i j with k | k
  · exact List.pairwise_iff_getElem.1 h.sep i j hi1 hj1 k
  · exact fun b hb hc => List.pairwise_iff_getElem.1 h.sep j i hj1 hi1 (by omega) b hc hb
/-- the i-th is another -/
theorem OwS.put {w w' : World} {base : Nat} {X : Nat → Prop} {l : List Ox} (h : OwS w base X l) (i : Nat) {x y : Ox} (hi : l[i]? = some x) (hf : Fr (OwnB x.v) w w') (ho : Own w' base y.T y.sz y.v y.n y.L) (hb : y.v.ownBlock = x.v.ownBlock ∨ y.v.ownBlock = some w.heap.size) : OwS w' base X (l.set i y) := by
  obtain ⟨hi1, hi2⟩ := List.getElem?_eq_some_iff.1 hi
  have off : ∀ (z : Ox) (j : Nat), l[j]? = some z → i ≠ j → ∀ k, OwnB y.v k → ¬ OwnB z.v k := by
    intro z j hj hij k hk hz
    rcases hb with hb | hb
    · exact h.sepAt hi hj hij k (by unfold OwnB at *; rw [← hb]; exact hk) hz
    · have h3 := ((h.at j hj).lt hz).2
      have h4 : w.heap.size = k := by unfold OwnB at hk; rw [hb] at hk; exact Option.some.inj hk
      omega
  refine ⟨?_, ?_, ?_, fun k hk => Nat.lt_of_lt_of_le (h.lt k hk) hf.size⟩
  · intro z hz
    obtain ⟨j, hj1, hj2⟩ := List.mem_iff_getElem.1 hz
    rw [List.length_set] at hj1
    rw [List.getElem_set] at hj2
    by_cases e : i = j
    · rw [if_pos e] at hj2; subst hj2; exact ho
    · rw [if_neg e] at hj2
      subst hj2
      exact (h.own _ (List.getElem_mem hj1)).keep hf fun k hk hs => h.sepAt hi (List.getElem?_eq_getElem hj1) e k hs hk
  · intro z hz
    obtain ⟨j, hj1, hj2⟩ := List.mem_iff_getElem.1 hz
    rw [List.length_set] at hj1
    rw [List.getElem_set] at hj2
    by_cases e : i = j
    · rw [if_pos e] at hj2
      subst hj2
      intro k hk hx
      rcases hb with hb | hb
      · exact h.off x (List.mem_of_getElem? hi) k (by unfold OwnB at *; rw [← hb]; exact hk) hx
      · have h3 := h.lt k hx
        have h4 : w.heap.size = k := by unfold OwnB at hk; rw [hb] at hk; exact Option.some.inj hk
        omega
    · rw [if_neg e] at hj2
      subst hj2
      exact h.off _ (List.getElem_mem hj1)
  · rw [List.pairwise_iff_getElem]
    intro j k hj hk hjk
    have e := List.pairwise_iff_getElem.1 h.sep j k (by simpa using hj) (by simpa using hk) hjk
    rw [List.getElem_set, List.getElem_set]
    have hj' : j < l.length := by simpa using hj
    have hk' : k < l.length := by simpa using hk
    by_cases e1 : i = j
    · subst e1
      rw [if_pos rfl, if_neg (by omega)]
      exact off _ k (List.getElem?_eq_getElem hk') (by omega)
    · rw [if_neg e1]
      by_cases e2 : i = k
      · subst e2
        rw [if_pos rfl]
        exact fun b hb2 hc => off _ j (List.getElem?_eq_getElem hj') e1 b hc hb2
      · rw [if_neg e2]; exact e
/-- what lies elsewhere stays where an owned slice is written -/
theorem OwS.ne {w : World} {base : Nat} {X : Nat → Prop} {l : List Ox} (h : OwS w base X l) (i : Nat) {x : Ox} (hi : l[i]? = some x) {g : Nat} (hg : X g) : ¬ OwnB x.v g := fun hk => h.off x (List.mem_of_getElem? hi) g hk hg
theorem OwS.grow {w w' : World} {base : Nat} {ks : List Nat} {l : List Ox} (h : OwS w base (fun k => k ∈ ks) l) (hf : Fr Nob w w') {g : Nat} (hg : w.heap.size ≤ g) (hlt : g < w'.heap.size) : OwS w' base (fun k => k ∈ g :: ks) l := by
  have h2 := h.still hf
  refine ⟨h2.own, fun x hx k hk hks => ?_, h2.sep, fun k hk => ?_⟩
  · rcases List.mem_cons.1 hks with e | e
    · subst e
      have := ((h.own x hx).lt hk).2
      omega
    · exact h2.off x hx k hk e
  · rcases List.mem_cons.1 hk with e | e
    · subst e; exact hlt
    · exact h2.lt k e
theorem OwS.mono {w : World} {base : Nat} {X Y : Nat → Prop} {l : List Ox} (h : OwS w base X l) (hs : ∀ k, Y k → X k) : OwS w base Y l :=
  ⟨h.own, fun x hx k hk hy => h.off x hx k hk (hs k hy), h.sep, fun k hk => h.lt k (hs k hk)⟩
theorem OwS.less {w : World} {base : Nat} {X : Nat → Prop} {l l' : List Ox} (h : OwS w base X l) (hs : l'.Sublist l) : OwS w base X l' :=
  ⟨fun x hx => h.own x (hs.subset hx), fun x hx => h.off x (hs.subset hx), h.sep.sublist hs, h.lt⟩
/-- blocks of the call's own beside a step that wrote to owned slices -/
theorem St.keepOs {S : Nat → Prop} {w0 w w' : World} {bl : List (Nat × List Value × TypeId)} (h : St S w0 w bl) {T : TypeId} {sz base : Nat} {v : Value} {n : Nat} {L : List Value} (ho : Own w base T sz v n L) (hb : w0.heap.size ≤ base) (hf : Fr (OwnB v) w w') (hne : ∀ x ∈ bl, ¬ OwnB v x.1) : St S w0 w' bl :=
  ⟨ho.fr h.fr hb hf, h.own, fun x hx => (h.has x hx).keep hf (hne x hx), h.ne⟩
theorem splice_drop (B : List Value) (o k : Nat) (cs : List Value) (h : o + k + cs.length ≤ B.length) : (splice B (o + k) cs).drop o = splice (B.drop o) k cs := by
  unfold splice
  have h1 : (B.take (o + k)).drop o = (B.drop o).take k := by rw [List.drop_take]; congr 1; omega
  rw [List.drop_append_of_le_length (by simp; omega), h1, List.drop_drop]
  congr 2
  congr 1
  omega
theorem splice_take2 (B : List Value) (k m : Nat) (cs : List Value) (h : k + cs.length ≤ m) (hm : m ≤ B.length) : (splice B k cs).take m = splice (B.take m) k cs := by
  apply List.ext_getElem?
  intro i
  unfold splice
  have e1 : min k B.length = k := by omega
  have e2 : min k (min m B.length) = k := by omega
  simp only [List.getElem?_take, List.getElem?_append, List.length_take, List.getElem?_drop, e1, e2]
  by_cases h1 : i < m
  · by_cases h3 : i < k
    · simp only [h1, h3, if_true]
    · by_cases h2 : i - k < cs.length
      · simp only [h1, h3, h2, if_true, if_false]
      · have h4 : k + cs.length + (i - k - cs.length) < m := by omega
        simp only [h1, h3, h2, h4, if_true, if_false]
  · have h3 : ¬ i < k := by omega
    have h2 : ¬ i - k < cs.length := by omega
    have h4 : ¬ k + cs.length + (i - k - cs.length) < m := by omega
    simp only [h1, h3, h2, h4, if_false]
/-- an element of an owned slice is written -/
theorem Own.wrote {w w' : World} {base : Nat} {T : TypeId} {sz : Nat} {g o n cap : Nat} {L : List Value} (h : Own w base T sz (.slice (some ⟨g, o, none⟩) n cap) n L) {k : Nat} {cs : List Value} (hk : k + cs.length ≤ n * sz)
    (hw : ∀ B, Has w g B T → Has w' g (splice B (o + k) cs) T) : Own w' base T sz (.slice (some ⟨g, o, none⟩) n cap) n (splice L k cs) := by
  refine ⟨by rw [length_splice _ _ _ (by rw [h.1]; exact hk)]; exact h.1, .inr ?_⟩
  rcases h.2 with ⟨h2, -⟩ | ⟨g', o', cap', B, h2, hb, hh, hn, hm, hl, ht⟩
  · cases h2
  · cases h2
    have hle : n * sz ≤ cap * sz := Nat.mul_le_mul_right _ hn
    refine ⟨g, o, cap, _, rfl, hb, hw B hh, hn, hm, by rw [length_splice _ _ _ (by omega)]; exact hl, ?_⟩
    rw [splice_drop _ _ _ _ (by omega), splice_take2 _ _ _ _ hk (by simp; omega), ht]
section
variable {w : World} {ops : Array Oper} {rest : List Oper} {o : Oper} {a : Act} {Q : Exit → Act → World → Prop} {base : Nat} {X : Nat → Prop} {l : List Ox}
end
section
variable {w : World} {o : Oper} {a : Act} {K : Act → World → Prop} {Q : Exit → Act → World → Prop} {base : Nat} {X : Nat → Prop} {l : List Ox}
end
end Go.Mv
