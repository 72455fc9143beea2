/- group: read; read and bytes of a program's points; group: with, over a closure's contract; the closures of Plus, Minus and Times; group: the closures of Plus, Minus and Times; scalar; group: Plus, Minus, Times, Point, Base: what they answer; group's exported functions, for all bytes: what they answer, told by points; The cells of a list of terms, as Sum fills it; group: Sum's closure; group: with, over Sum's closure. -/
import Derived.Test.YtdbgddngapminaaMgBlindUndoesProof6
import Derived.Test.YtdbgddngapminaaMgBlindUndoesProof3
import Derived.Test.YtdbgddngapminaaMgBlindUndoesProof4
namespace Go.Mv
open Go.RowKit
theorem rd_first {w : World} {b o n : Nat} {vs : List Value} (h : Rd w (some ⟨b, o, none⟩) n vs) (v : Value) (hv : vs[0]? = some v) : w.cell? ⟨b, o, none⟩ = some v := by
  have hl : 0 < vs.length := by
    rcases Nat.eq_zero_or_pos vs.length with h0 | h0
    · rw [List.length_eq_zero_iff.1 h0] at hv; cases hv
    · exact h0
  obtain ⟨b', o', he, hc⟩ := h.at (by have := h.len; omega)
  simp only [Option.some.injEq, Addr.mk.injEq] at he
  obtain ⟨rfl, rfl, -⟩ := he
  simpa using hc 0 v hv
theorem RdB.tail {w : World} {a : Option Addr} {n : Nat} {l : List UInt8} (h : RdB w a n l) (c : Nat) (h1 : 1 ≤ n) (hc : n ≤ c) : RdB w (cutAt a 1 c) (n - 1) (l.drop 1) := by
  have h2 := cutAt_rd h 1 n c h1 hc (Nat.le_refl _)
  have hl := h.len
  have e : ((bs l).drop 1).take (n - 1) = bs (l.drop 1) := by
    rw [List.take_of_length_le (by rw [List.length_drop, length_bs]; omega)]
    simp [bs]
  rw [e] at h2
  exact h2
end Go.Mv
namespace Go.Proofs.Ytdbgddngapminaa
open Go.RowKit Go.Mv Mvp Mvq
theorem built_I0 : Try.prog.built 82 [] = some #[.int .u64 0, .int .u64 0, .int .u64 0, .int .u64 0] := by kernel_rfl
theorem built_P0 : Try.prog.built 72 [] = some (cw 4 0 ++ (cw 4 0 ++ cw 4 0)).toArray := by kernel_rfl
theorem size_u8g : (Try.prog.info? 5).map (·.size) = some 1 := by kernel_rfl
theorem size_u64g : (Try.prog.info? 22).map (·.size) = some 1 := by kernel_rfl
theorem exec_eqlI (x y : Nat) {o : Oper} {a : Act} {p q : Operand} {T : TypeId} (ho : o.op = .binOp .eql 82 p q T) (hp : a.eval p = i4 x) (hq : a.eval q = i4 y) {b : Bool} (hb : decide (x % B64 ^ 4 = y % B64 ^ 4) = b) (w : World) :
    (execOp a.eval o).run Try.prog w = .ok (.value (.bool b)) w := by
  subst hb
  exact exec_binop ho hp hq w (run_eqGuard_agg w .eql 82 p q _ _ Try.eqGuardType82) (eql_of_equal w (run_eq4 Try.underlying82 Try.underlying22 size_u64g x y w))
theorem tlN_lt (l : List UInt8) (h : l.length = 33) : tlN l < B64 ^ 4 := beN_le32 (l.drop 1) (by rw [List.length_drop]; omega)
theorem fb_tail (a : Option Addr) (c : Nat) (l : List UInt8) (w : World) (hb : RdB w a 32 (l.drop 1)) : Calls Try.prog 87 #[.slice a 32 c] w fun e w' => e = .returned (i4 (tlN l)) ∧ Fr Nob w w' :=
  FromBytes_any a 32 c (l.drop 1) w hb (by decide)
/-- the second coordinate that at answers -/
def atY (M n : Nat) : Nat := if rtOk M (crvN n) then rtV M (crvN n) else 0
theorem at_c (m : Md) (gc gp bx by_ : Nat) (w : World) (hok : m.Ok) (hcv : Has w gc (crvL m gp bx by_) 93) (hpm : Has w gp (mdL m) 134) (x : Nat) :
    Calls Try.prog 91 #[.pointer (some ⟨gc, 0, none⟩), i4 (elN m x)] w fun e w' => e = .returned (.tuple #[ptV m x (atY m.M x) 1, .bool (rtOk m.M (crvN x))]) ∧ Fr Nob w w' := by
  unfold atY
  cases h : rtOk m.M (crvN x)
  · exact at_no m gc gp bx by_ w hok hcv hpm x _ _ _ rfl rfl rfl h
  · exact at_ok m gc gp bx by_ w hok hcv hpm x _ _ _ rfl rfl rfl h
theorem MLess_v (a b : Nat) (w : World) (ha : a < B64 ^ 4) (hb : b < B64 ^ 4) (r : Bool) (hr : decide (a < b) = r) :
    Calls Try.prog 90 #[i4 a, i4 b] w fun e w' => e = .returned (.bool r) ∧ Fr Nob w w' := by
  subst hr; exact MLess_any a b w ha hb
theorem at_u (m : Md) (gc gp bx by_ : Nat) (w : World) (hok : m.Ok) (hcv : Has w gc (crvL m gp bx by_) 93) (hpm : Has w gp (mdL m) 134) (x : Nat) (r : Bool) (hr : rtOk m.M (crvN x) = r) :
    Calls Try.prog 91 #[.pointer (some ⟨gc, 0, none⟩), i4 (elN m x)] w fun e w' => e = .returned (.tuple #[.agg (cw 4 (elN m x) ++ (cw 4 (elN m (atY m.M x)) ++ cw 4 (elN m 1))).toArray, .bool r]) ∧ Fr Nob w w' := by
  subst hr; exact at_c m gc gp bx by_ w hok hcv hpm x
theorem opposite_u (m : Md) (gc gp bx by_ : Nat) (w : World) (hok : m.Ok) (hcv : Has w gc (crvL m gp bx by_) 93) (hpm : Has w gp (mdL m) 134) (x y z : Nat) :
    Calls Try.prog 47 #[.pointer (some ⟨gc, 0, none⟩), .agg (cw 4 (elN m x) ++ (cw 4 (elN m y) ++ cw 4 (elN m z))).toArray] w fun e w' => e = .returned (.agg (cw 4 (elN m x) ++ (cw 4 (elN m (m.M - y % m.M)) ++ cw 4 (elN m z))).toArray) ∧ Fr Nob w w' :=
  opposite_any m gc gp bx by_ w hok hcv hpm x y z
attribute [local irreducible] limbs lw mix cw cSub cAdd cMul foldC valFrom beN laid be32 powm montT mstep elN mdL numB rtN rtV rtOk gXn gYn tlN atY crvN
theorem words_zI : (Value.agg #[.int .u64 0, .int .u64 0, .int .u64 0, .int .u64 0]) = i4 0 := by rw [i4, cw_zero]; rfl
set_option maxHeartbeats 8000000 in
set_option maxRecDepth 100000 in
theorem IZero_any (x : Nat) (hx : x < B64 ^ 4) (b : Bool) (hb : (x == 0) = b) (w : World) :
    Calls Try.prog 89 #[i4 x] w fun e w' => e = .returned (.bool b) ∧ Fr Nob w w' := by
  subst hb
  have HB := Lib.hid (show decide (x % B64 ^ 4 = 0 % B64 ^ 4) = (x == 0) by rw [Nat.mod_eq_of_lt hx, Nat.zero_mod]; rfl)
  clear hx
  have st0 := St.start Nob w
  go_enter Try.func89, Try.ntmps89
  go_wp2_with (with_reducible refine wl_stop (o := ⟨some 1, _, _, _, _, _⟩) ?_)
  refine wl_boxS st0 rfl rfl rfl (cw 4 x) rfl ?_
  intro g1 w1 st1
  clear st0
  go_wp2_with (with_reducible refine wl_stop (o := ⟨some 3, _, _, _, _, _⟩) ?_)
  refine wl_loadS st1 0 rfl rfl rfl Try.underlying82 rfl (by first | (rw [cw_len]; kernel_rfl) | (simp only [List.length_append, cw_len]; kernel_rfl)) ?_
  go_wp2_with (with_reducible refine wl_stop (o := ⟨some 4, _, _, _, _, _⟩) ?_)
  refine wl_build0 rfl rfl _ built_I0 ?_
  rw [words_zI]
  go_wp2_with (with_reducible refine wl_stop (o := ⟨some 5, _, _, _, _, _⟩) ?_)
  refine wl_exec rfl (exec_eqlI x 0 rfl rfl rfl HB.out _) ?_
  have hfr := st1.fr
  clear st1
  go_wp2_with fail
  go_ret
  exact ⟨rfl, hfr⟩

set_option maxHeartbeats 16000000 in
set_option maxRecDepth 1000000 in
theorem read_len (m : Md) (gc gp bx by_ : Nat) (w : World) (hok : m.Ok) (hcv : Has w gc (crvL m gp bx by_) 93) (hpm : Has w gp (mdL m) 134) (a : Option Addr) (n c : Nat) (l : List UInt8) (hb : RdB w a n l) (_hc : n ≤ c) (h33 : l.length ≠ 33) :
    Calls Try.prog 42 #[.pointer (some ⟨gc, 0, none⟩), .slice a n c] w fun e w' => e = .returned (.tuple #[ptV m 0 0 0, .bool false]) ∧ Fr Nob w w' := by
  have HOK := Lib.hid hok
  have HCV := Lib.hid hcv
  have HPM := Lib.hid hpm
  clear hok hcv hpm
  have HN := Lib.hid (show n ≠ 33 by have := hb.len; omega)
  clear hb _hc h33
  have st0 := St.start Nob w
  go_enter Try.func42, Try.ntmps42
  go_wp2_with (with_reducible refine wl_stop (o := ⟨some 4, _, _, _, _, _⟩) ?_)
  refine wl_allocS st0 rfl rfl (z := .agg (List.replicate 12 (.int .u64 0)).toArray) (by kernel_rfl) (cw 4 0 ++ (cw 4 0 ++ cw 4 0)) (by rw [cw_zero]; rfl) ?_
  intro g4 w1 st1
  clear st0
  have hne : ((n : Int) != 33) = true := by have := HN.out; simp; omega
  go_wp2_with (with_reducible refine wl_stop (o := ⟨some 12, _, _, _, _, _⟩) ?_)
  refine wl_build0 rfl rfl _ built_P0 ?_
  go_wp2_with (with_reducible refine wl_stop (o := ⟨none, _, _, _, _, _⟩) ?_)
  refine wl_storeS st1 0 rfl rfl rfl rfl rfl (by first | (simp only; done) | (simp only [List.length_append, cw_len]; done)) (by first | (rw [cw_len]; kernel_rfl) | (simp only [List.length_append, cw_len]; kernel_rfl)) (pt_one _ _ _) ?_
  intro w2 st2
  clear st1
  have hr := st2.at 0 rfl
  have hfr := st2.fr
  clear st2
  go_wp2_with fail
  exact bodyPost_ret (results_st2 rfl rfl hr Try.underlying72 rfl (by first | (rw [cw_len]; kernel_rfl) | (simp only [List.length_append, cw_len]; kernel_rfl)) rfl) rfl ⟨by unfold ptV ptL; rw [el_zero]; rfl, hfr⟩

set_option maxHeartbeats 16000000 in
set_option maxRecDepth 1000000 in
theorem read_zero (m : Md) (gc gp bx by_ : Nat) (w : World) (hok : m.Ok) (hcv : Has w gc (crvL m gp bx by_) 93) (hpm : Has w gp (mdL m) 134) (a : Option Addr) (n c : Nat) (l : List UInt8) (hb : RdB w a n l) (hc : n ≤ c) (h33 : l.length = 33) (h0 : (bs l)[0]? = some (.int .u8 0)) (b : Bool) (hzb : (tlN l == 0) = b) :
    Calls Try.prog 42 #[.pointer (some ⟨gc, 0, none⟩), .slice a n c] w fun e w' => e = .returned (.tuple #[ptV m 1 1 0, .bool b]) ∧ Fr Nob w w' := by
  have HOK := Lib.hid hok
  have HCV := Lib.hid hcv
  have HPM := Lib.hid hpm
  clear hok hcv hpm
  have h33n : n = 33 := by have := hb.len; omega
  subst h33n
  obtain ⟨ba, oa, rfl, -⟩ := Rd.at hb (by decide)
  have HB := Lib.hid hb
  have HC := Lib.hid hc
  have HT := Lib.hid (RdB.tail hb c (by decide) hc)
  have H0 := Lib.hid h0
  have HTN := Lib.hid (tlN_lt l h33)
  clear hb hc h33 h0
  have HZB := Lib.hid hzb
  clear hzb
  have st0 := St.start Nob w
  go_enter Try.func42, Try.ntmps42
  go_wp2_with (with_reducible refine wl_stop (o := ⟨some 4, _, _, _, _, _⟩) ?_)
  refine wl_allocS st0 rfl rfl (z := .agg (List.replicate 12 (.int .u64 0)).toArray) (by kernel_rfl) (cw 4 0 ++ (cw 4 0 ++ cw 4 0)) (by rw [cw_zero]; rfl) ?_
  intro g4 w1 st1
  clear st0
  have hne : (((33 : Nat) : Int) != 33) = false := by rfl
  go_wp2_with (with_reducible refine wl_stop (o := ⟨some 14, _, _, _, _, _⟩) ?_)
  refine wl_cut rfl rfl Try.underlying34 size_u8g rfl 1 33 ⟨_, rfl⟩ rfl (by decide) HC.out ?_
  rw [show (33 : Nat) - 1 = 32 from rfl]
  go_wp2_with fail
  refine (fb_tail _ _ l _ (HT.out.still st1.fr)).mono ?_
  rintro e' w2 ⟨rfl, hf2⟩
  have st2 := st1.keep hf2
  clear st1 hf2
  go_wp2_with (with_reducible refine wl_stop (o := ⟨some 6, _, _, _, _, _⟩) ?_)
  refine wl_allocS st2 rfl rfl (z := .agg #[.int .u64 0, .int .u64 0, .int .u64 0, .int .u64 0]) (by kernel_rfl) (cw 4 0) (by rw [cw_zero]; rfl) ?_
  intro g6 w3 st3
  clear st2
  go_wp2_with (with_reducible refine wl_stop (o := ⟨none, _, _, _, _, _⟩) ?_)
  refine wl_storeS st3 1 rfl rfl rfl rfl rfl (by first | (simp only [cw_len]; done) | (simp only [List.length_append, cw_len]; done)) (by first | (rw [cw_len]; kernel_rfl) | (simp only [List.length_append, cw_len]; kernel_rfl)) (cw_one _ _) ?_
  intro w4 st4
  clear st3
  have hcell := rd_first (HB.out.still st4.fr) _ H0.out
  go_wp2_with fail
  clear hcell
  go_wp2_with fail
  refine wp_region_noPanic ?_
  refine wp_region_plan (fun wx => St Nob w wx [(g4, cw 4 0 ++ (cw 4 0 ++ cw 4 0), 72), (g6, cw 4 (tlN l), 82)]) 4 (.w 0 (.t 2 (.r 1 (.r 3 (.m 4 (.w 5 .nil)))))) (by kernel_rfl) (by kernel_rfl) st4.drew (fun _ _ _ _ _ h => h) ?_
  have hd4 := st4.drew
  clear st4
  refine plan_w (v := ?_) rfl rfl (fun wx => ?_) ?_
  rotate_left 1
  · (go_simp; with_reducible rfl)
  try simp only [Act.put, List.setIfInBounds_toArray, List.set_cons_zero, List.set_cons_succ]
  refine plan_arr rfl rfl rfl rfl (cw 4 (tlN l)) (fun wx hS => St.rangeL hS 1 rfl 0 _ (by rw [List.drop_zero, List.take_of_length_le (Nat.le_refl _)])) Try.underlying82 rfl (by first | (rw [cw_len]; kernel_rfl) | (simp only [List.length_append, cw_len]; kernel_rfl)) ?_
  try simp only [Act.put, List.setIfInBounds_toArray, List.set_cons_zero, List.set_cons_succ]
  refine plan_r rfl rfl ?_
  go_simp
  refine (nothing_u m gc gp bx by_ _ HOK.out (HCV.out.keep hd4.fr id) (HPM.out.keep hd4.fr id)).mono ?_
  rintro e' w5 ⟨rfl, hf5⟩
  have st5 := hd4.keep hf5
  clear hf5
  clear hd4
  refine ⟨st5, ?_⟩
  try simp only [Act.put, List.setIfInBounds_toArray, List.set_cons_zero, List.set_cons_succ]
  refine plan_r rfl rfl ?_
  go_simp
  refine (IZero_any (tlN l) HTN.out b HZB.out _).mono ?_
  rintro e' w6 ⟨rfl, hf6⟩
  have st6 := st5.keep hf6
  clear hf6
  clear st5
  refine ⟨st6, ?_⟩
  try simp only [Act.put, List.setIfInBounds_toArray, List.set_cons_zero, List.set_cons_succ]
  refine plan_m rfl rfl ?_
  refine wp_storeS st6 0 rfl rfl rfl rfl (by first | (simp only [cw_len]; done) | (simp only [List.length_append, cw_len]; done)) (by first | (rw [cw_len]; kernel_rfl) | (simp only [List.length_append, cw_len]; kernel_rfl)) (pt_one _ _ _) ?_
  intro w7 st7
  clear st6
  try simp only [Act.put]
  refine plan_w (v := ?_) rfl rfl (fun wx => ?_) ?_
  rotate_left 1
  · (go_simp; with_reducible rfl)
  try simp only [Act.put, List.setIfInBounds_toArray, List.set_cons_zero, List.set_cons_succ]
  refine plan_end ?_
  refine NoPanic.normal ?_
  have hr := st7.at 0 rfl
  have hfr := st7.fr
  clear st7
  go_wp2_with fail
  exact bodyPost_ret (results_st2 rfl rfl hr Try.underlying72 rfl (by first | (rw [cw_len]; kernel_rfl) | (simp only [List.length_append, cw_len]; kernel_rfl)) rfl) rfl ⟨by unfold ptV ptL; rfl, hfr⟩

set_option maxHeartbeats 16000000 in
set_option maxRecDepth 1000000 in
theorem read_bad (m : Md) (gc gp bx by_ : Nat) (w : World) (hok : m.Ok) (hcv : Has w gc (crvL m gp bx by_) 93) (hpm : Has w gp (mdL m) 134) (a : Option Addr) (n c : Nat) (l : List UInt8) (hb : RdB w a n l) (hc : n ≤ c) (h33 : l.length = 33) (q : Nat) (h0 : (bs l)[0]? = some (.int .u8 (q : Int))) (hq0 : ((q : Int) == 0) = false) (hq2 : ((q : Int) != 2) = true) (hq3 : ((q : Int) != 3) = true) :
    Calls Try.prog 42 #[.pointer (some ⟨gc, 0, none⟩), .slice a n c] w fun e w' => e = .returned (.tuple #[ptV m 0 0 0, .bool false]) ∧ Fr Nob w w' := by
  have HOK := Lib.hid hok
  have HCV := Lib.hid hcv
  have HPM := Lib.hid hpm
  clear hok hcv hpm
  have h33n : n = 33 := by have := hb.len; omega
  subst h33n
  obtain ⟨ba, oa, rfl, -⟩ := Rd.at hb (by decide)
  have HB := Lib.hid hb
  have HC := Lib.hid hc
  have HT := Lib.hid (RdB.tail hb c (by decide) hc)
  have H0 := Lib.hid h0
  have HTN := Lib.hid (tlN_lt l h33)
  clear hb hc h33 h0
  have HQ0 := Lib.hid hq0
  have HQ2 := Lib.hid hq2
  have HQ3 := Lib.hid hq3
  clear hq0 hq2 hq3
  have st0 := St.start Nob w
  go_enter Try.func42, Try.ntmps42
  go_wp2_with (with_reducible refine wl_stop (o := ⟨some 4, _, _, _, _, _⟩) ?_)
  refine wl_allocS st0 rfl rfl (z := .agg (List.replicate 12 (.int .u64 0)).toArray) (by kernel_rfl) (cw 4 0 ++ (cw 4 0 ++ cw 4 0)) (by rw [cw_zero]; rfl) ?_
  intro g4 w1 st1
  clear st0
  have hne : (((33 : Nat) : Int) != 33) = false := by rfl
  go_wp2_with (with_reducible refine wl_stop (o := ⟨some 14, _, _, _, _, _⟩) ?_)
  refine wl_cut rfl rfl Try.underlying34 size_u8g rfl 1 33 ⟨_, rfl⟩ rfl (by decide) HC.out ?_
  rw [show (33 : Nat) - 1 = 32 from rfl]
  go_wp2_with fail
  refine (fb_tail _ _ l _ (HT.out.still st1.fr)).mono ?_
  rintro e' w2 ⟨rfl, hf2⟩
  have st2 := st1.keep hf2
  clear st1 hf2
  go_wp2_with (with_reducible refine wl_stop (o := ⟨some 6, _, _, _, _, _⟩) ?_)
  refine wl_allocS st2 rfl rfl (z := .agg #[.int .u64 0, .int .u64 0, .int .u64 0, .int .u64 0]) (by kernel_rfl) (cw 4 0) (by rw [cw_zero]; rfl) ?_
  intro g6 w3 st3
  clear st2
  go_wp2_with (with_reducible refine wl_stop (o := ⟨none, _, _, _, _, _⟩) ?_)
  refine wl_storeS st3 1 rfl rfl rfl rfl rfl (by first | (simp only [cw_len]; done) | (simp only [List.length_append, cw_len]; done)) (by first | (rw [cw_len]; kernel_rfl) | (simp only [List.length_append, cw_len]; kernel_rfl)) (cw_one _ _) ?_
  intro w4 st4
  clear st3
  have hq0 := HQ0.out
  have hq2 := HQ2.out
  have hq3 := HQ3.out
  have hcell := rd_first (HB.out.still st4.fr) _ H0.out
  go_wp2_with fail
  clear hcell
  go_wp2_with fail
  refine wp_region_noPanic ?_
  refine wp_region_planG (fun wx => St Nob w wx [(g4, cw 4 0 ++ (cw 4 0 ++ cw 4 0), 72), (g6, cw 4 (tlN l), 82)]) 22 (.w 0 (.w 1 (.t 2 (.w 3 (.w 4 (.w 5 (.w 6 (.t 7 (.w 8 (.w 9 (.w 10 (.t 11 (.w 12 (.w 13 (.w 14 (.t 15 (.w 16 (.w 17 (.t 18 (.r 19 (.w 20 (.w 21 (.m 22 .nil))))))))))))))))))))))) (by kernel_rfl) (by kernel_rfl) st4.drew (fun _ _ _ _ _ h => h) ?_
  have hd4 := st4.drew
  clear st4
  refine planG_w (v := ?_) rfl rfl (fun wx => ?_) ?_
  rotate_left 1
  · (go_simp; with_reducible rfl)
  try simp only [Act.put, List.setIfInBounds_toArray, List.set_cons_zero, List.set_cons_succ]
  refine planG_w (v := ?_) rfl rfl (fun wx => ?_) ?_
  rotate_left 1
  · (go_simp; with_reducible rfl)
  try simp only [Act.put, List.setIfInBounds_toArray, List.set_cons_zero, List.set_cons_succ]
  refine planG_t (v := ?_) rfl rfl (fun wx hS => ?_) ?_
  rotate_left 1
  · (have hc := (rd_first (HB.out.still (St.fr hS)) _ H0.out); clear hS; go_simp; with_reducible rfl)
  try simp only [Act.put, List.setIfInBounds_toArray, List.set_cons_zero, List.set_cons_succ]
  refine planG_w (v := ?_) rfl rfl (fun wx => ?_) ?_
  rotate_left 1
  · (go_simp; with_reducible rfl)
  try simp only [Act.put, List.setIfInBounds_toArray, List.set_cons_zero, List.set_cons_succ]
  refine planG_w (v := ?_) rfl rfl (fun wx => ?_) ?_
  rotate_left 1
  · (go_simp; with_reducible rfl)
  try simp only [Act.put, List.setIfInBounds_toArray, List.set_cons_zero, List.set_cons_succ]
  refine planG_w (v := ?_) rfl rfl (fun wx => ?_) ?_
  rotate_left 1
  · (go_simp; with_reducible rfl)
  try simp only [Act.put, List.setIfInBounds_toArray, List.set_cons_zero, List.set_cons_succ]
  refine planG_w (v := ?_) rfl rfl (fun wx => ?_) ?_
  rotate_left 1
  · (go_simp; with_reducible rfl)
  try simp only [Act.put, List.setIfInBounds_toArray, List.set_cons_zero, List.set_cons_succ]
  refine planG_t (v := ?_) rfl rfl (fun wx hS => ?_) ?_
  rotate_left 1
  · (have hc := (rd_first (HB.out.still (St.fr hS)) _ H0.out); clear hS; go_simp; with_reducible rfl)
  try simp only [Act.put, List.setIfInBounds_toArray, List.set_cons_zero, List.set_cons_succ]
  refine planG_w (v := ?_) rfl rfl (fun wx => ?_) ?_
  rotate_left 1
  · (go_simp; with_reducible rfl)
  try simp only [Act.put, List.setIfInBounds_toArray, List.set_cons_zero, List.set_cons_succ]
  refine planG_w (v := ?_) rfl rfl (fun wx => ?_) ?_
  rotate_left 1
  · (go_simp; with_reducible rfl)
  try simp only [Act.put, List.setIfInBounds_toArray, List.set_cons_zero, List.set_cons_succ]
  refine planG_w (v := ?_) rfl rfl (fun wx => ?_) ?_
  rotate_left 1
  · (go_simp; with_reducible rfl)
  try simp only [Act.put, List.setIfInBounds_toArray, List.set_cons_zero, List.set_cons_succ]
  refine planG_skipt rfl rfl ?_
  try simp only [Act.put, List.setIfInBounds_toArray, List.set_cons_zero, List.set_cons_succ]
  refine planG_skip rfl rfl ?_
  try simp only [Act.put, List.setIfInBounds_toArray, List.set_cons_zero, List.set_cons_succ]
  refine planG_skip rfl rfl ?_
  try simp only [Act.put, List.setIfInBounds_toArray, List.set_cons_zero, List.set_cons_succ]
  refine planG_skip rfl rfl ?_
  try simp only [Act.put, List.setIfInBounds_toArray, List.set_cons_zero, List.set_cons_succ]
  refine planG_skipt rfl rfl ?_
  try simp only [Act.put, List.setIfInBounds_toArray, List.set_cons_zero, List.set_cons_succ]
  refine planG_skip rfl rfl ?_
  try simp only [Act.put, List.setIfInBounds_toArray, List.set_cons_zero, List.set_cons_succ]
  refine planG_skip rfl rfl ?_
  try simp only [Act.put, List.setIfInBounds_toArray, List.set_cons_zero, List.set_cons_succ]
  refine planG_skipt rfl rfl ?_
  try simp only [Act.put, List.setIfInBounds_toArray, List.set_cons_zero, List.set_cons_succ]
  refine planG_rskip rfl rfl ⟨hd4, ?_⟩
  try simp only [Act.put, List.setIfInBounds_toArray, List.set_cons_zero, List.set_cons_succ]
  refine planG_skip rfl rfl ?_
  try simp only [Act.put, List.setIfInBounds_toArray, List.set_cons_zero, List.set_cons_succ]
  refine planG_w (v := ?_) rfl rfl (fun wx => ?_) ?_
  rotate_left 1
  · (go_simp; with_reducible rfl)
  try simp only [Act.put, List.setIfInBounds_toArray, List.set_cons_zero, List.set_cons_succ]
  refine planG_m rfl rfl ?_
  go_simp
  try simp only [Act.put, List.setIfInBounds_toArray, List.set_cons_zero, List.set_cons_succ]
  refine planG_end ?_
  have st5 := hd4
  clear hd4
  refine NoPanic.normal ?_
  go_wp2_with (with_reducible refine wl_stop (o := ⟨some 48, _, _, _, _, _⟩) ?_)
  refine wl_build0 rfl rfl _ built_P0 ?_
  go_wp2_with (with_reducible refine wl_stop (o := ⟨none, _, _, _, _, _⟩) ?_)
  refine wl_storeS st5 0 rfl rfl rfl rfl rfl (by first | (simp only; done) | (simp only [List.length_append, cw_len]; done)) (by first | (rw [cw_len]; kernel_rfl) | (simp only [List.length_append, cw_len]; kernel_rfl)) (pt_one _ _ _) ?_
  intro w6 st6
  clear st5
  have hr := st6.at 0 rfl
  have hfr := st6.fr
  clear st6
  go_wp2_with fail
  exact bodyPost_ret (results_st2 rfl rfl hr Try.underlying72 rfl (by first | (rw [cw_len]; kernel_rfl) | (simp only [List.length_append, cw_len]; kernel_rfl)) rfl) rfl ⟨by unfold ptV ptL; rw [el_zero]; rfl, hfr⟩

set_option maxHeartbeats 16000000 in
set_option maxRecDepth 1000000 in
theorem read_ge2 (m : Md) (gc gp bx by_ : Nat) (w : World) (hok : m.Ok) (hcv : Has w gc (crvL m gp bx by_) 93) (hpm : Has w gp (mdL m) 134) (a : Option Addr) (n c : Nat) (l : List UInt8) (hb : RdB w a n l) (hc : n ≤ c) (h33 : l.length = 33) (h0 : (bs l)[0]? = some (.int .u8 2)) (hlt : decide (tlN l < m.M) = false) :
    Calls Try.prog 42 #[.pointer (some ⟨gc, 0, none⟩), .slice a n c] w fun e w' => e = .returned (.tuple #[ptV m 0 0 0, .bool false]) ∧ Fr Nob w w' := by
  have HOK := Lib.hid hok
  have HCV := Lib.hid hcv
  have HPM := Lib.hid hpm
  clear hok hcv hpm
  have h33n : n = 33 := by have := hb.len; omega
  subst h33n
  obtain ⟨ba, oa, rfl, -⟩ := Rd.at hb (by decide)
  have HB := Lib.hid hb
  have HC := Lib.hid hc
  have HT := Lib.hid (RdB.tail hb c (by decide) hc)
  have H0 := Lib.hid h0
  have HTN := Lib.hid (tlN_lt l h33)
  clear hb hc h33 h0
  have HDL := Lib.hid hlt
  clear hlt
  have st0 := St.start Nob w
  go_enter Try.func42, Try.ntmps42
  go_wp2_with (with_reducible refine wl_stop (o := ⟨some 4, _, _, _, _, _⟩) ?_)
  refine wl_allocS st0 rfl rfl (z := .agg (List.replicate 12 (.int .u64 0)).toArray) (by kernel_rfl) (cw 4 0 ++ (cw 4 0 ++ cw 4 0)) (by rw [cw_zero]; rfl) ?_
  intro g4 w1 st1
  clear st0
  have hne : (((33 : Nat) : Int) != 33) = false := by rfl
  go_wp2_with (with_reducible refine wl_stop (o := ⟨some 14, _, _, _, _, _⟩) ?_)
  refine wl_cut rfl rfl Try.underlying34 size_u8g rfl 1 33 ⟨_, rfl⟩ rfl (by decide) HC.out ?_
  rw [show (33 : Nat) - 1 = 32 from rfl]
  go_wp2_with fail
  refine (fb_tail _ _ l _ (HT.out.still st1.fr)).mono ?_
  rintro e' w2 ⟨rfl, hf2⟩
  have st2 := st1.keep hf2
  clear st1 hf2
  go_wp2_with (with_reducible refine wl_stop (o := ⟨some 6, _, _, _, _, _⟩) ?_)
  refine wl_allocS st2 rfl rfl (z := .agg #[.int .u64 0, .int .u64 0, .int .u64 0, .int .u64 0]) (by kernel_rfl) (cw 4 0) (by rw [cw_zero]; rfl) ?_
  intro g6 w3 st3
  clear st2
  go_wp2_with (with_reducible refine wl_stop (o := ⟨none, _, _, _, _, _⟩) ?_)
  refine wl_storeS st3 1 rfl rfl rfl rfl rfl (by first | (simp only [cw_len]; done) | (simp only [List.length_append, cw_len]; done)) (by first | (rw [cw_len]; kernel_rfl) | (simp only [List.length_append, cw_len]; kernel_rfl)) (cw_one _ _) ?_
  intro w4 st4
  clear st3
  have hcell := rd_first (HB.out.still st4.fr) _ H0.out
  go_wp2_with fail
  clear hcell
  go_wp2_with fail
  refine wp_region_noPanic ?_
  refine wp_region_planG (fun wx => St Nob w wx [(g4, cw 4 0 ++ (cw 4 0 ++ cw 4 0), 72), (g6, cw 4 (tlN l), 82)]) 22 (.w 0 (.w 1 (.t 2 (.w 3 (.w 4 (.w 5 (.w 6 (.t 7 (.w 8 (.w 9 (.w 10 (.t 11 (.w 12 (.w 13 (.w 14 (.t 15 (.w 16 (.w 17 (.t 18 (.r 19 (.w 20 (.w 21 (.m 22 .nil))))))))))))))))))))))) (by kernel_rfl) (by kernel_rfl) st4.drew (fun _ _ _ _ _ h => h) ?_
  have hd4 := st4.drew
  clear st4
  refine planG_w (v := ?_) rfl rfl (fun wx => ?_) ?_
  rotate_left 1
  · (go_simp; with_reducible rfl)
  try simp only [Act.put, List.setIfInBounds_toArray, List.set_cons_zero, List.set_cons_succ]
  refine planG_w (v := ?_) rfl rfl (fun wx => ?_) ?_
  rotate_left 1
  · (go_simp; with_reducible rfl)
  try simp only [Act.put, List.setIfInBounds_toArray, List.set_cons_zero, List.set_cons_succ]
  refine planG_t (v := ?_) rfl rfl (fun wx hS => ?_) ?_
  rotate_left 1
  · (have hc := (rd_first (HB.out.still (St.fr hS)) _ H0.out); clear hS; go_simp; with_reducible rfl)
  try simp only [Act.put, List.setIfInBounds_toArray, List.set_cons_zero, List.set_cons_succ]
  refine planG_w (v := ?_) rfl rfl (fun wx => ?_) ?_
  rotate_left 1
  · (go_simp; with_reducible rfl)
  try simp only [Act.put, List.setIfInBounds_toArray, List.set_cons_zero, List.set_cons_succ]
  refine planG_w (v := ?_) rfl rfl (fun wx => ?_) ?_
  rotate_left 1
  · (go_simp; with_reducible rfl)
  try simp only [Act.put, List.setIfInBounds_toArray, List.set_cons_zero, List.set_cons_succ]
  refine planG_skip rfl rfl ?_
  try simp only [Act.put, List.setIfInBounds_toArray, List.set_cons_zero, List.set_cons_succ]
  refine planG_skip rfl rfl ?_
  try simp only [Act.put, List.setIfInBounds_toArray, List.set_cons_zero, List.set_cons_succ]
  refine planG_skipt rfl rfl ?_
  try simp only [Act.put, List.setIfInBounds_toArray, List.set_cons_zero, List.set_cons_succ]
  refine planG_skip rfl rfl ?_
  try simp only [Act.put, List.setIfInBounds_toArray, List.set_cons_zero, List.set_cons_succ]
  refine planG_w (v := ?_) rfl rfl (fun wx => ?_) ?_
  rotate_left 1
  · (go_simp; with_reducible rfl)
  try simp only [Act.put, List.setIfInBounds_toArray, List.set_cons_zero, List.set_cons_succ]
  refine planG_w (v := ?_) rfl rfl (fun wx => ?_) ?_
  rotate_left 1
  · (go_simp; with_reducible rfl)
  try simp only [Act.put, List.setIfInBounds_toArray, List.set_cons_zero, List.set_cons_succ]
  refine planG_arr rfl rfl rfl rfl (cw 4 (tlN l)) (fun wx hS => St.rangeL hS 1 rfl 0 _ (by rw [List.drop_zero, List.take_of_length_le (Nat.le_refl _)])) Try.underlying82 rfl (by first | (rw [cw_len]; kernel_rfl) | (simp only [List.length_append, cw_len]; kernel_rfl)) ?_
  try simp only [Act.put, List.setIfInBounds_toArray, List.set_cons_zero, List.set_cons_succ]
  refine planG_w (v := ?_) rfl rfl (fun wx => ?_) ?_
  rotate_left 1
  · (go_simp; with_reducible rfl)
  try simp only [Act.put, List.setIfInBounds_toArray, List.set_cons_zero, List.set_cons_succ]
  refine planG_w (v := ?_) rfl rfl (fun wx => ?_) ?_
  rotate_left 1
  · (go_simp; with_reducible rfl)
  try simp only [Act.put, List.setIfInBounds_toArray, List.set_cons_zero, List.set_cons_succ]
  refine planG_w (v := ?_) rfl rfl (fun wx => ?_) ?_
  rotate_left 1
  · (go_simp; with_reducible rfl)
  try simp only [Act.put, List.setIfInBounds_toArray, List.set_cons_zero, List.set_cons_succ]
  refine planG_t (v := ?_) rfl rfl (fun wx hS => ?_) ?_
  rotate_left 1
  · (have hc := (HCV.out.keep (St.fr hS) id).cell (i := 0) rfl; clear hS; go_simp; with_reducible rfl)
  try simp only [Act.put, List.setIfInBounds_toArray, List.set_cons_zero, List.set_cons_succ]
  refine planG_w (v := ?_) rfl rfl (fun wx => ?_) ?_
  rotate_left 1
  · (go_simp; with_reducible rfl)
  try simp only [Act.put, List.setIfInBounds_toArray, List.set_cons_zero, List.set_cons_succ]
  refine planG_w (v := ?_) rfl rfl (fun wx => ?_) ?_
  rotate_left 1
  · (go_simp; with_reducible rfl)
  try simp only [Act.put, List.setIfInBounds_toArray, List.set_cons_zero, List.set_cons_succ]
  refine planG_arr rfl rfl rfl rfl (cw 4 m.M) (fun wx hS => (HPM.out.keep (St.fr hS) id).range 0 _ (md_M m)) Try.underlying82 rfl (by first | (rw [cw_len]; kernel_rfl) | (simp only [List.length_append, cw_len]; kernel_rfl)) ?_
  try simp only [Act.put, List.setIfInBounds_toArray, List.set_cons_zero, List.set_cons_succ]
  refine planG_r rfl rfl ?_
  go_simp
  refine (MLess_v (tlN l) m.M _ HTN.out HOK.out.lt false HDL.out).mono ?_
  rintro e' w5 ⟨rfl, hf5⟩
  have st5 := hd4.keep hf5
  clear hf5
  clear hd4
  refine ⟨st5, ?_⟩
  try simp only [Act.put, List.setIfInBounds_toArray, List.set_cons_zero, List.set_cons_succ]
  refine planG_w (v := ?_) rfl rfl (fun wx => ?_) ?_
  rotate_left 1
  · (go_simp; with_reducible rfl)
  try simp only [Act.put, List.setIfInBounds_toArray, List.set_cons_zero, List.set_cons_succ]
  refine planG_w (v := ?_) rfl rfl (fun wx => ?_) ?_
  rotate_left 1
  · (go_simp; with_reducible rfl)
  try simp only [Act.put, List.setIfInBounds_toArray, List.set_cons_zero, List.set_cons_succ]
  refine planG_m rfl rfl ?_
  go_simp
  try simp only [Act.put, List.setIfInBounds_toArray, List.set_cons_zero, List.set_cons_succ]
  refine planG_end ?_
  refine NoPanic.normal ?_
  go_wp2_with (with_reducible refine wl_stop (o := ⟨some 48, _, _, _, _, _⟩) ?_)
  refine wl_build0 rfl rfl _ built_P0 ?_
  go_wp2_with (with_reducible refine wl_stop (o := ⟨none, _, _, _, _, _⟩) ?_)
  refine wl_storeS st5 0 rfl rfl rfl rfl rfl (by first | (simp only; done) | (simp only [List.length_append, cw_len]; done)) (by first | (rw [cw_len]; kernel_rfl) | (simp only [List.length_append, cw_len]; kernel_rfl)) (pt_one _ _ _) ?_
  intro w6 st6
  clear st5
  have hr := st6.at 0 rfl
  have hfr := st6.fr
  clear st6
  go_wp2_with fail
  exact bodyPost_ret (results_st2 rfl rfl hr Try.underlying72 rfl (by first | (rw [cw_len]; kernel_rfl) | (simp only [List.length_append, cw_len]; kernel_rfl)) rfl) rfl ⟨by unfold ptV ptL; rw [el_zero]; rfl, hfr⟩

set_option maxHeartbeats 16000000 in
set_option maxRecDepth 1000000 in
theorem read_pt2 (m : Md) (gc gp bx by_ : Nat) (w : World) (hok : m.Ok) (hcv : Has w gc (crvL m gp bx by_) 93) (hpm : Has w gp (mdL m) 134) (a : Option Addr) (n c : Nat) (l : List UInt8) (hb : RdB w a n l) (hc : n ≤ c) (h33 : l.length = 33) (h0 : (bs l)[0]? = some (.int .u8 2)) (hlt : decide (tlN l < m.M) = true) (r : Bool) (hr : rtOk m.M (crvN (tlN l)) = r) :
    Calls Try.prog 42 #[.pointer (some ⟨gc, 0, none⟩), .slice a n c] w fun e w' => e = .returned (.tuple #[ptV m (tlN l) (atY m.M (tlN l)) 1, .bool r]) ∧ Fr Nob w w' := by
  have HOK := Lib.hid hok
  have HCV := Lib.hid hcv
  have HPM := Lib.hid hpm
  clear hok hcv hpm
  have h33n : n = 33 := by have := hb.len; omega
  subst h33n
  obtain ⟨ba, oa, rfl, -⟩ := Rd.at hb (by decide)
  have HB := Lib.hid hb
  have HC := Lib.hid hc
  have HT := Lib.hid (RdB.tail hb c (by decide) hc)
  have H0 := Lib.hid h0
  have HTN := Lib.hid (tlN_lt l h33)
  clear hb hc h33 h0
  have HDL := Lib.hid hlt
  clear hlt
  have HR := Lib.hid hr
  clear hr
  have st0 := St.start Nob w
  go_enter Try.func42, Try.ntmps42
  go_wp2_with (with_reducible refine wl_stop (o := ⟨some 4, _, _, _, _, _⟩) ?_)
  refine wl_allocS st0 rfl rfl (z := .agg (List.replicate 12 (.int .u64 0)).toArray) (by kernel_rfl) (cw 4 0 ++ (cw 4 0 ++ cw 4 0)) (by rw [cw_zero]; rfl) ?_
  intro g4 w1 st1
  clear st0
  have hne : (((33 : Nat) : Int) != 33) = false := by rfl
  go_wp2_with (with_reducible refine wl_stop (o := ⟨some 14, _, _, _, _, _⟩) ?_)
  refine wl_cut rfl rfl Try.underlying34 size_u8g rfl 1 33 ⟨_, rfl⟩ rfl (by decide) HC.out ?_
  rw [show (33 : Nat) - 1 = 32 from rfl]
  go_wp2_with fail
  refine (fb_tail _ _ l _ (HT.out.still st1.fr)).mono ?_
  rintro e' w2 ⟨rfl, hf2⟩
  have st2 := st1.keep hf2
  clear st1 hf2
  go_wp2_with (with_reducible refine wl_stop (o := ⟨some 6, _, _, _, _, _⟩) ?_)
  refine wl_allocS st2 rfl rfl (z := .agg #[.int .u64 0, .int .u64 0, .int .u64 0, .int .u64 0]) (by kernel_rfl) (cw 4 0) (by rw [cw_zero]; rfl) ?_
  intro g6 w3 st3
  clear st2
  go_wp2_with (with_reducible refine wl_stop (o := ⟨none, _, _, _, _, _⟩) ?_)
  refine wl_storeS st3 1 rfl rfl rfl rfl rfl (by first | (simp only [cw_len]; done) | (simp only [List.length_append, cw_len]; done)) (by first | (rw [cw_len]; kernel_rfl) | (simp only [List.length_append, cw_len]; kernel_rfl)) (cw_one _ _) ?_
  intro w4 st4
  clear st3
  have hcell := rd_first (HB.out.still st4.fr) _ H0.out
  go_wp2_with fail
  clear hcell
  go_wp2_with fail
  refine wp_region_noPanic ?_
  refine wp_region_planG (fun wx => St Nob w wx [(g4, cw 4 0 ++ (cw 4 0 ++ cw 4 0), 72), (g6, cw 4 (tlN l), 82)]) 22 (.w 0 (.w 1 (.t 2 (.w 3 (.w 4 (.w 5 (.w 6 (.t 7 (.w 8 (.w 9 (.w 10 (.t 11 (.w 12 (.w 13 (.w 14 (.t 15 (.w 16 (.w 17 (.t 18 (.r 19 (.w 20 (.w 21 (.m 22 .nil))))))))))))))))))))))) (by kernel_rfl) (by kernel_rfl) st4.drew (fun _ _ _ _ _ h => h) ?_
  have hd4 := st4.drew
  clear st4
  refine planG_w (v := ?_) rfl rfl (fun wx => ?_) ?_
  rotate_left 1
  · (go_simp; with_reducible rfl)
  try simp only [Act.put, List.setIfInBounds_toArray, List.set_cons_zero, List.set_cons_succ]
  refine planG_w (v := ?_) rfl rfl (fun wx => ?_) ?_
  rotate_left 1
  · (go_simp; with_reducible rfl)
  try simp only [Act.put, List.setIfInBounds_toArray, List.set_cons_zero, List.set_cons_succ]
  refine planG_t (v := ?_) rfl rfl (fun wx hS => ?_) ?_
  rotate_left 1
  · (have hc := (rd_first (HB.out.still (St.fr hS)) _ H0.out); clear hS; go_simp; with_reducible rfl)
  try simp only [Act.put, List.setIfInBounds_toArray, List.set_cons_zero, List.set_cons_succ]
  refine planG_w (v := ?_) rfl rfl (fun wx => ?_) ?_
  rotate_left 1
  · (go_simp; with_reducible rfl)
  try simp only [Act.put, List.setIfInBounds_toArray, List.set_cons_zero, List.set_cons_succ]
  refine planG_w (v := ?_) rfl rfl (fun wx => ?_) ?_
  rotate_left 1
  · (go_simp; with_reducible rfl)
  try simp only [Act.put, List.setIfInBounds_toArray, List.set_cons_zero, List.set_cons_succ]
  refine planG_skip rfl rfl ?_
  try simp only [Act.put, List.setIfInBounds_toArray, List.set_cons_zero, List.set_cons_succ]
  refine planG_skip rfl rfl ?_
  try simp only [Act.put, List.setIfInBounds_toArray, List.set_cons_zero, List.set_cons_succ]
  refine planG_skipt rfl rfl ?_
  try simp only [Act.put, List.setIfInBounds_toArray, List.set_cons_zero, List.set_cons_succ]
  refine planG_skip rfl rfl ?_
  try simp only [Act.put, List.setIfInBounds_toArray, List.set_cons_zero, List.set_cons_succ]
  refine planG_w (v := ?_) rfl rfl (fun wx => ?_) ?_
  rotate_left 1
  · (go_simp; with_reducible rfl)
  try simp only [Act.put, List.setIfInBounds_toArray, List.set_cons_zero, List.set_cons_succ]
  refine planG_w (v := ?_) rfl rfl (fun wx => ?_) ?_
  rotate_left 1
  · (go_simp; with_reducible rfl)
  try simp only [Act.put, List.setIfInBounds_toArray, List.set_cons_zero, List.set_cons_succ]
  refine planG_arr rfl rfl rfl rfl (cw 4 (tlN l)) (fun wx hS => St.rangeL hS 1 rfl 0 _ (by rw [List.drop_zero, List.take_of_length_le (Nat.le_refl _)])) Try.underlying82 rfl (by first | (rw [cw_len]; kernel_rfl) | (simp only [List.length_append, cw_len]; kernel_rfl)) ?_
  try simp only [Act.put, List.setIfInBounds_toArray, List.set_cons_zero, List.set_cons_succ]
  refine planG_w (v := ?_) rfl rfl (fun wx => ?_) ?_
  rotate_left 1
  · (go_simp; with_reducible rfl)
  try simp only [Act.put, List.setIfInBounds_toArray, List.set_cons_zero, List.set_cons_succ]
  refine planG_w (v := ?_) rfl rfl (fun wx => ?_) ?_
  rotate_left 1
  · (go_simp; with_reducible rfl)
  try simp only [Act.put, List.setIfInBounds_toArray, List.set_cons_zero, List.set_cons_succ]
  refine planG_w (v := ?_) rfl rfl (fun wx => ?_) ?_
  rotate_left 1
  · (go_simp; with_reducible rfl)
  try simp only [Act.put, List.setIfInBounds_toArray, List.set_cons_zero, List.set_cons_succ]
  refine planG_t (v := ?_) rfl rfl (fun wx hS => ?_) ?_
  rotate_left 1
  · (have hc := (HCV.out.keep (St.fr hS) id).cell (i := 0) rfl; clear hS; go_simp; with_reducible rfl)
  try simp only [Act.put, List.setIfInBounds_toArray, List.set_cons_zero, List.set_cons_succ]
  refine planG_w (v := ?_) rfl rfl (fun wx => ?_) ?_
  rotate_left 1
  · (go_simp; with_reducible rfl)
  try simp only [Act.put, List.setIfInBounds_toArray, List.set_cons_zero, List.set_cons_succ]
  refine planG_w (v := ?_) rfl rfl (fun wx => ?_) ?_
  rotate_left 1
  · (go_simp; with_reducible rfl)
  try simp only [Act.put, List.setIfInBounds_toArray, List.set_cons_zero, List.set_cons_succ]
  refine planG_arr rfl rfl rfl rfl (cw 4 m.M) (fun wx hS => (HPM.out.keep (St.fr hS) id).range 0 _ (md_M m)) Try.underlying82 rfl (by first | (rw [cw_len]; kernel_rfl) | (simp only [List.length_append, cw_len]; kernel_rfl)) ?_
  try simp only [Act.put, List.setIfInBounds_toArray, List.set_cons_zero, List.set_cons_succ]
  refine planG_r rfl rfl ?_
  go_simp
  refine (MLess_v (tlN l) m.M _ HTN.out HOK.out.lt true HDL.out).mono ?_
  rintro e' w5 ⟨rfl, hf5⟩
  have st5 := hd4.keep hf5
  clear hf5
  clear hd4
  refine ⟨st5, ?_⟩
  try simp only [Act.put, List.setIfInBounds_toArray, List.set_cons_zero, List.set_cons_succ]
  refine planG_w (v := ?_) rfl rfl (fun wx => ?_) ?_
  rotate_left 1
  · (go_simp; with_reducible rfl)
  try simp only [Act.put, List.setIfInBounds_toArray, List.set_cons_zero, List.set_cons_succ]
  refine planG_w (v := ?_) rfl rfl (fun wx => ?_) ?_
  rotate_left 1
  · (go_simp; with_reducible rfl)
  try simp only [Act.put, List.setIfInBounds_toArray, List.set_cons_zero, List.set_cons_succ]
  refine planG_m rfl rfl ?_
  go_simp
  try simp only [Act.put, List.setIfInBounds_toArray, List.set_cons_zero, List.set_cons_succ]
  refine planG_end ?_
  refine NoPanic.normal ?_
  go_wp2_with fail
  refine wp_region_noPanic ?_
  refine wp_region_plan (fun wx => St Nob w wx [(g4, cw 4 0 ++ (cw 4 0 ++ cw 4 0), 72), (g6, cw 4 (tlN l), 82)]) 13 (.w 0 (.w 1 (.w 2 (.w 3 (.t 4 (.t 5 (.b 6 11 (.b 7 11 (.w 8 (.w 9 (.w 10 (.r 11 (.r 12 (.m 13 .nil)))))) (.r 7 (.w 8 (.w 9 (.w 10 (.r 12 (.m 13 .nil))))))) (.r 6 (.r 7 (.w 8 (.w 9 (.w 10 (.r 12 (.m 13 .nil)))))))))))))) (by kernel_rfl) (by kernel_rfl) st5.drew (fun _ _ _ _ _ h => h) ?_
  have hd5 := st5.drew
  clear st5
  refine plan_w (v := ?_) rfl rfl (fun wx => ?_) ?_
  rotate_left 1
  · (go_simp; with_reducible rfl)
  try simp only [Act.put, List.setIfInBounds_toArray, List.set_cons_zero, List.set_cons_succ]
  refine plan_w (v := ?_) rfl rfl (fun wx => ?_) ?_
  rotate_left 1
  · (go_simp; with_reducible rfl)
  try simp only [Act.put, List.setIfInBounds_toArray, List.set_cons_zero, List.set_cons_succ]
  refine plan_w (v := ?_) rfl rfl (fun wx => ?_) ?_
  rotate_left 1
  · (go_simp; with_reducible rfl)
  try simp only [Act.put, List.setIfInBounds_toArray, List.set_cons_zero, List.set_cons_succ]
  refine plan_w (v := ?_) rfl rfl (fun wx => ?_) ?_
  rotate_left 1
  · (go_simp; with_reducible rfl)
  try simp only [Act.put, List.setIfInBounds_toArray, List.set_cons_zero, List.set_cons_succ]
  refine plan_t (v := ?_) rfl rfl (fun wx hS => ?_) ?_
  rotate_left 1
  · (have hc := (HCV.out.keep (St.fr hS) id).cell (i := 0) rfl; clear hS; go_simp; with_reducible rfl)
  try simp only [Act.put, List.setIfInBounds_toArray, List.set_cons_zero, List.set_cons_succ]
  refine plan_arr rfl rfl rfl rfl (cw 4 (tlN l)) (fun wx hS => St.rangeL hS 1 rfl 0 _ (by rw [List.drop_zero, List.take_of_length_le (Nat.le_refl _)])) Try.underlying82 rfl (by first | (rw [cw_len]; kernel_rfl) | (simp only [List.length_append, cw_len]; kernel_rfl)) ?_
  try simp only [Act.put, List.setIfInBounds_toArray, List.set_cons_zero, List.set_cons_succ]
  refine plan_key1 (C := fun g7 wz => St Nob w wz [(g4, cw 4 0 ++ (cw 4 0 ++ cw 4 0), 72), (g6, cw 4 (tlN l), 82), (g7, cw 4 (elN m (tlN l)) ++ (cw 4 (elN m (atY m.M (tlN l))) ++ cw 4 (elN m 1)), 72)]) (F := ?_) (fun key => ?_) ?_
  rotate_left 1
  · skip
    refine plan_b0 rfl rfl rfl rfl ?_ ?_
    · skip
      go_simp
      refine (MTo_any m gp _ HOK.out (HPM.out.keep hd5.fr id) (tlN l) HTN.out).mono ?_
      rintro e' w6 ⟨rfl, hf6⟩
      have st6 := hd5.keep hf6
      clear hf6
      refine ⟨st6, ?_⟩
      try simp only [Act.put, List.setIfInBounds_toArray, List.set_cons_zero, List.set_cons_succ]
      refine plan_b0 rfl rfl rfl rfl ?_ ?_
      · skip
        go_simp
        refine (at_u m gc gp bx by_ _ HOK.out (HCV.out.keep st6.fr id) (HPM.out.keep st6.fr id) (tlN l) r HR.out).mono ?_
        rintro e' w7 ⟨rfl, hf7⟩
        have st7 := st6.keep hf7
        clear hf7
        refine ⟨st7, ?_⟩
        try simp only [Act.put, List.setIfInBounds_toArray, List.set_cons_zero, List.set_cons_succ]
        refine plan_w (v := ?_) rfl rfl (fun wx => ?_) ?_
        rotate_left 1
        · (go_simp; with_reducible rfl)
        try simp only [Act.put, List.setIfInBounds_toArray, List.set_cons_zero, List.set_cons_succ]
        refine plan_w (v := ?_) rfl rfl (fun wx => ?_) ?_
        rotate_left 1
        · (go_simp; with_reducible rfl)
        try simp only [Act.put, List.setIfInBounds_toArray, List.set_cons_zero, List.set_cons_succ]
        refine plan_w (v := ?_) rfl rfl (fun wx => ?_) ?_
        rotate_left 1
        · (go_simp; with_reducible rfl)
        try simp only [Act.put, List.setIfInBounds_toArray, List.set_cons_zero, List.set_cons_succ]
        refine plan_r rfl rfl ?_
        refine wp_allocS st7 rfl (z := .agg #[.int .u64 0, .int .u64 0, .int .u64 0, .int .u64 0, .int .u64 0, .int .u64 0, .int .u64 0, .int .u64 0, .int .u64 0, .int .u64 0, .int .u64 0, .int .u64 0]) (by kernel_rfl) (cw 12 0) (by rw [cw_zero]; rfl) ?_
        intro g7 w8 st8
        refine ⟨St.less st8 (by simp), ?_⟩
        try simp only [Act.put, List.setIfInBounds_toArray, List.set_cons_zero, List.set_cons_succ]
        refine plan_r rfl rfl ?_
        refine wp_storeS st8 2 rfl rfl rfl rfl (by first | (simp only [cw_len]; done) | (simp only [List.length_append, cw_len]; done)) (by first | (rw [cw_len]; kernel_rfl) | (simp only [List.length_append, cw_len]; kernel_rfl)) (pt_one _ _ _) ?_
        intro w9 st9
        refine ⟨St.less st9 (by simp), ?_⟩
        try simp only [Act.put]
        refine plan_m rfl rfl ?_
        go_simp
        try simp only [Act.put, List.setIfInBounds_toArray, List.set_cons_zero, List.set_cons_succ]
        refine plan_end ?_
        exact key g7 _ st9
      · skip
        refine wp_allocS st6 rfl (z := .agg #[.int .u64 0, .int .u64 0, .int .u64 0, .int .u64 0, .int .u64 0, .int .u64 0, .int .u64 0, .int .u64 0, .int .u64 0, .int .u64 0, .int .u64 0, .int .u64 0]) (by kernel_rfl) (cw 12 0) (by rw [cw_zero]; rfl) ?_
        intro g7 w10 st10
        refine ⟨St.less st10 (by simp), ?_⟩
        try simp only [Act.put, List.setIfInBounds_toArray, List.set_cons_zero, List.set_cons_succ]
        refine plan_r rfl rfl ?_
        go_simp
        refine (at_u m gc gp bx by_ _ HOK.out (HCV.out.keep st10.fr id) (HPM.out.keep st10.fr id) (tlN l) r HR.out).mono ?_
        rintro e' w11 ⟨rfl, hf11⟩
        have st11 := st10.keep hf11
        clear hf11
        refine ⟨St.less st11 (by simp), ?_⟩
        try simp only [Act.put, List.setIfInBounds_toArray, List.set_cons_zero, List.set_cons_succ]
        refine plan_w (v := ?_) rfl rfl (fun wx => ?_) ?_
        rotate_left 1
        · (go_simp; with_reducible rfl)
        try simp only [Act.put, List.setIfInBounds_toArray, List.set_cons_zero, List.set_cons_succ]
        refine plan_w (v := ?_) rfl rfl (fun wx => ?_) ?_
        rotate_left 1
        · (go_simp; with_reducible rfl)
        try simp only [Act.put, List.setIfInBounds_toArray, List.set_cons_zero, List.set_cons_succ]
        refine plan_w (v := ?_) rfl rfl (fun wx => ?_) ?_
        rotate_left 1
        · (go_simp; with_reducible rfl)
        try simp only [Act.put, List.setIfInBounds_toArray, List.set_cons_zero, List.set_cons_succ]
        refine plan_r rfl rfl ?_
        refine wp_storeS st11 2 rfl rfl rfl rfl (by first | (simp only [cw_len]; done) | (simp only [List.length_append, cw_len]; done)) (by first | (rw [cw_len]; kernel_rfl) | (simp only [List.length_append, cw_len]; kernel_rfl)) (pt_one _ _ _) ?_
        intro w12 st12
        refine ⟨St.less st12 (by simp), ?_⟩
        try simp only [Act.put]
        refine plan_m rfl rfl ?_
        go_simp
        try simp only [Act.put, List.setIfInBounds_toArray, List.set_cons_zero, List.set_cons_succ]
        refine plan_end ?_
        exact key g7 _ st12
    · skip
      refine wp_allocS hd5 rfl (z := .agg #[.int .u64 0, .int .u64 0, .int .u64 0, .int .u64 0, .int .u64 0, .int .u64 0, .int .u64 0, .int .u64 0, .int .u64 0, .int .u64 0, .int .u64 0, .int .u64 0]) (by kernel_rfl) (cw 12 0) (by rw [cw_zero]; rfl) ?_
      intro g7 w13 st13
      refine ⟨St.less st13 (by simp), ?_⟩
      try simp only [Act.put, List.setIfInBounds_toArray, List.set_cons_zero, List.set_cons_succ]
      refine plan_r rfl rfl ?_
      go_simp
      refine (MTo_any m gp _ HOK.out (HPM.out.keep st13.fr id) (tlN l) HTN.out).mono ?_
      rintro e' w14 ⟨rfl, hf14⟩
      have st14 := st13.keep hf14
      clear hf14
      refine ⟨St.less st14 (by simp), ?_⟩
      try simp only [Act.put, List.setIfInBounds_toArray, List.set_cons_zero, List.set_cons_succ]
      refine plan_r rfl rfl ?_
      go_simp
      refine (at_u m gc gp bx by_ _ HOK.out (HCV.out.keep st14.fr id) (HPM.out.keep st14.fr id) (tlN l) r HR.out).mono ?_
      rintro e' w15 ⟨rfl, hf15⟩
      have st15 := st14.keep hf15
      clear hf15
      refine ⟨St.less st15 (by simp), ?_⟩
      try simp only [Act.put, List.setIfInBounds_toArray, List.set_cons_zero, List.set_cons_succ]
      refine plan_w (v := ?_) rfl rfl (fun wx => ?_) ?_
      rotate_left 1
      · (go_simp; with_reducible rfl)
      try simp only [Act.put, List.setIfInBounds_toArray, List.set_cons_zero, List.set_cons_succ]
      refine plan_w (v := ?_) rfl rfl (fun wx => ?_) ?_
      rotate_left 1
      · (go_simp; with_reducible rfl)
      try simp only [Act.put, List.setIfInBounds_toArray, List.set_cons_zero, List.set_cons_succ]
      refine plan_w (v := ?_) rfl rfl (fun wx => ?_) ?_
      rotate_left 1
      · (go_simp; with_reducible rfl)
      try simp only [Act.put, List.setIfInBounds_toArray, List.set_cons_zero, List.set_cons_succ]
      refine plan_r rfl rfl ?_
      refine wp_storeS st15 2 rfl rfl rfl rfl (by first | (simp only [cw_len]; done) | (simp only [List.length_append, cw_len]; done)) (by first | (rw [cw_len]; kernel_rfl) | (simp only [List.length_append, cw_len]; kernel_rfl)) (pt_one _ _ _) ?_
      intro w16 st16
      refine ⟨St.less st16 (by simp), ?_⟩
      try simp only [Act.put]
      refine plan_m rfl rfl ?_
      go_simp
      try simp only [Act.put, List.setIfInBounds_toArray, List.set_cons_zero, List.set_cons_succ]
      refine plan_end ?_
      exact key g7 _ st16
  intro g7 w17 st17
  have st17 : St Nob w w17 [(g4, cw 4 0 ++ (cw 4 0 ++ cw 4 0), 72), (g6, cw 4 (tlN l), 82), (g7, cw 4 (elN m (tlN l)) ++ (cw 4 (elN m (atY m.M (tlN l))) ++ cw 4 (elN m 1)), 72)] := st17
  clear hd5
  refine NoPanic.normal ?_
  have hcell := rd_first (HB.out.still st17.fr) _ H0.out
  go_wp2_with (with_reducible refine wl_stop (o := ⟨some 67, _, _, _, _, _⟩) ?_)
  refine wl_loadSt st17 2 rfl rfl rfl Try.underlying72 rfl rfl (by first | (rw [cw_len]; kernel_rfl) | (simp only [List.length_append, cw_len]; kernel_rfl)) ?_
  go_wp2_with (with_reducible refine wl_stop (o := ⟨none, _, _, _, _, _⟩) ?_)
  refine wl_storeS st17 0 rfl rfl rfl rfl rfl (by first | (simp only [cw_len]; done) | (simp only [List.length_append, cw_len]; done)) (by first | (rw [cw_len]; kernel_rfl) | (simp only [List.length_append, cw_len]; kernel_rfl)) (pt_one _ _ _) ?_
  intro w18 st18
  clear st17
  have hr := st18.at 0 rfl
  have hfr := st18.fr
  clear st18
  go_wp2_with fail
  exact bodyPost_ret (results_st2 rfl rfl hr Try.underlying72 rfl (by first | (rw [cw_len]; kernel_rfl) | (simp only [List.length_append, cw_len]; kernel_rfl)) rfl) rfl ⟨by unfold ptV ptL; rfl, hfr⟩

set_option maxHeartbeats 16000000 in
set_option maxRecDepth 1000000 in
theorem read_ge3 (m : Md) (gc gp bx by_ : Nat) (w : World) (hok : m.Ok) (hcv : Has w gc (crvL m gp bx by_) 93) (hpm : Has w gp (mdL m) 134) (a : Option Addr) (n c : Nat) (l : List UInt8) (hb : RdB w a n l) (hc : n ≤ c) (h33 : l.length = 33) (h0 : (bs l)[0]? = some (.int .u8 3)) (hlt : decide (tlN l < m.M) = false) :
    Calls Try.prog 42 #[.pointer (some ⟨gc, 0, none⟩), .slice a n c] w fun e w' => e = .returned (.tuple #[ptV m 0 0 0, .bool false]) ∧ Fr Nob w w' := by
  have HOK := Lib.hid hok
  have HCV := Lib.hid hcv
  have HPM := Lib.hid hpm
  clear hok hcv hpm
  have h33n : n = 33 := by have := hb.len; omega
  subst h33n
  obtain ⟨ba, oa, rfl, -⟩ := Rd.at hb (by decide)
  have HB := Lib.hid hb
  have HC := Lib.hid hc
  have HT := Lib.hid (RdB.tail hb c (by decide) hc)
  have H0 := Lib.hid h0
  have HTN := Lib.hid (tlN_lt l h33)
  clear hb hc h33 h0
  have HDL := Lib.hid hlt
  clear hlt
  have st0 := St.start Nob w
  go_enter Try.func42, Try.ntmps42
  go_wp2_with (with_reducible refine wl_stop (o := ⟨some 4, _, _, _, _, _⟩) ?_)
  refine wl_allocS st0 rfl rfl (z := .agg (List.replicate 12 (.int .u64 0)).toArray) (by kernel_rfl) (cw 4 0 ++ (cw 4 0 ++ cw 4 0)) (by rw [cw_zero]; rfl) ?_
  intro g4 w1 st1
  clear st0
  have hne : (((33 : Nat) : Int) != 33) = false := by rfl
  go_wp2_with (with_reducible refine wl_stop (o := ⟨some 14, _, _, _, _, _⟩) ?_)
  refine wl_cut rfl rfl Try.underlying34 size_u8g rfl 1 33 ⟨_, rfl⟩ rfl (by decide) HC.out ?_
  rw [show (33 : Nat) - 1 = 32 from rfl]
  go_wp2_with fail
  refine (fb_tail _ _ l _ (HT.out.still st1.fr)).mono ?_
  rintro e' w2 ⟨rfl, hf2⟩
  have st2 := st1.keep hf2
  clear st1 hf2
  go_wp2_with (with_reducible refine wl_stop (o := ⟨some 6, _, _, _, _, _⟩) ?_)
  refine wl_allocS st2 rfl rfl (z := .agg #[.int .u64 0, .int .u64 0, .int .u64 0, .int .u64 0]) (by kernel_rfl) (cw 4 0) (by rw [cw_zero]; rfl) ?_
  intro g6 w3 st3
  clear st2
  go_wp2_with (with_reducible refine wl_stop (o := ⟨none, _, _, _, _, _⟩) ?_)
  refine wl_storeS st3 1 rfl rfl rfl rfl rfl (by first | (simp only [cw_len]; done) | (simp only [List.length_append, cw_len]; done)) (by first | (rw [cw_len]; kernel_rfl) | (simp only [List.length_append, cw_len]; kernel_rfl)) (cw_one _ _) ?_
  intro w4 st4
  clear st3
  have hcell := rd_first (HB.out.still st4.fr) _ H0.out
  go_wp2_with fail
  clear hcell
  go_wp2_with fail
  refine wp_region_noPanic ?_
  refine wp_region_planG (fun wx => St Nob w wx [(g4, cw 4 0 ++ (cw 4 0 ++ cw 4 0), 72), (g6, cw 4 (tlN l), 82)]) 22 (.w 0 (.w 1 (.t 2 (.w 3 (.w 4 (.w 5 (.w 6 (.t 7 (.w 8 (.w 9 (.w 10 (.t 11 (.w 12 (.w 13 (.w 14 (.t 15 (.w 16 (.w 17 (.t 18 (.r 19 (.w 20 (.w 21 (.m 22 .nil))))))))))))))))))))))) (by kernel_rfl) (by kernel_rfl) st4.drew (fun _ _ _ _ _ h => h) ?_
  have hd4 := st4.drew
  clear st4
  refine planG_w (v := ?_) rfl rfl (fun wx => ?_) ?_
  rotate_left 1
  · (go_simp; with_reducible rfl)
  try simp only [Act.put, List.setIfInBounds_toArray, List.set_cons_zero, List.set_cons_succ]
  refine planG_w (v := ?_) rfl rfl (fun wx => ?_) ?_
  rotate_left 1
  · (go_simp; with_reducible rfl)
  try simp only [Act.put, List.setIfInBounds_toArray, List.set_cons_zero, List.set_cons_succ]
  refine planG_t (v := ?_) rfl rfl (fun wx hS => ?_) ?_
  rotate_left 1
  · (have hc := (rd_first (HB.out.still (St.fr hS)) _ H0.out); clear hS; go_simp; with_reducible rfl)
  try simp only [Act.put, List.setIfInBounds_toArray, List.set_cons_zero, List.set_cons_succ]
  refine planG_w (v := ?_) rfl rfl (fun wx => ?_) ?_
  rotate_left 1
  · (go_simp; with_reducible rfl)
  try simp only [Act.put, List.setIfInBounds_toArray, List.set_cons_zero, List.set_cons_succ]
  refine planG_w (v := ?_) rfl rfl (fun wx => ?_) ?_
  rotate_left 1
  · (go_simp; with_reducible rfl)
  try simp only [Act.put, List.setIfInBounds_toArray, List.set_cons_zero, List.set_cons_succ]
  refine planG_w (v := ?_) rfl rfl (fun wx => ?_) ?_
  rotate_left 1
  · (go_simp; with_reducible rfl)
  try simp only [Act.put, List.setIfInBounds_toArray, List.set_cons_zero, List.set_cons_succ]
  refine planG_w (v := ?_) rfl rfl (fun wx => ?_) ?_
  rotate_left 1
  · (go_simp; with_reducible rfl)
  try simp only [Act.put, List.setIfInBounds_toArray, List.set_cons_zero, List.set_cons_succ]
  refine planG_t (v := ?_) rfl rfl (fun wx hS => ?_) ?_
  rotate_left 1
  · (have hc := (rd_first (HB.out.still (St.fr hS)) _ H0.out); clear hS; go_simp; with_reducible rfl)
  try simp only [Act.put, List.setIfInBounds_toArray, List.set_cons_zero, List.set_cons_succ]
  refine planG_w (v := ?_) rfl rfl (fun wx => ?_) ?_
  rotate_left 1
  · (go_simp; with_reducible rfl)
  try simp only [Act.put, List.setIfInBounds_toArray, List.set_cons_zero, List.set_cons_succ]
  refine planG_w (v := ?_) rfl rfl (fun wx => ?_) ?_
  rotate_left 1
  · (go_simp; with_reducible rfl)
  try simp only [Act.put, List.setIfInBounds_toArray, List.set_cons_zero, List.set_cons_succ]
  refine planG_w (v := ?_) rfl rfl (fun wx => ?_) ?_
  rotate_left 1
  · (go_simp; with_reducible rfl)
  try simp only [Act.put, List.setIfInBounds_toArray, List.set_cons_zero, List.set_cons_succ]
  refine planG_arr rfl rfl rfl rfl (cw 4 (tlN l)) (fun wx hS => St.rangeL hS 1 rfl 0 _ (by rw [List.drop_zero, List.take_of_length_le (Nat.le_refl _)])) Try.underlying82 rfl (by first | (rw [cw_len]; kernel_rfl) | (simp only [List.length_append, cw_len]; kernel_rfl)) ?_
  try simp only [Act.put, List.setIfInBounds_toArray, List.set_cons_zero, List.set_cons_succ]
  refine planG_w (v := ?_) rfl rfl (fun wx => ?_) ?_
  rotate_left 1
  · (go_simp; with_reducible rfl)
  try simp only [Act.put, List.setIfInBounds_toArray, List.set_cons_zero, List.set_cons_succ]
  refine planG_w (v := ?_) rfl rfl (fun wx => ?_) ?_
  rotate_left 1
  · (go_simp; with_reducible rfl)
  try simp only [Act.put, List.setIfInBounds_toArray, List.set_cons_zero, List.set_cons_succ]
  refine planG_w (v := ?_) rfl rfl (fun wx => ?_) ?_
  rotate_left 1
  · (go_simp; with_reducible rfl)
  try simp only [Act.put, List.setIfInBounds_toArray, List.set_cons_zero, List.set_cons_succ]
  refine planG_t (v := ?_) rfl rfl (fun wx hS => ?_) ?_
  rotate_left 1
  · (have hc := (HCV.out.keep (St.fr hS) id).cell (i := 0) rfl; clear hS; go_simp; with_reducible rfl)
  try simp only [Act.put, List.setIfInBounds_toArray, List.set_cons_zero, List.set_cons_succ]
  refine planG_w (v := ?_) rfl rfl (fun wx => ?_) ?_
  rotate_left 1
  · (go_simp; with_reducible rfl)
  try simp only [Act.put, List.setIfInBounds_toArray, List.set_cons_zero, List.set_cons_succ]
  refine planG_w (v := ?_) rfl rfl (fun wx => ?_) ?_
  rotate_left 1
  · (go_simp; with_reducible rfl)
  try simp only [Act.put, List.setIfInBounds_toArray, List.set_cons_zero, List.set_cons_succ]
  refine planG_arr rfl rfl rfl rfl (cw 4 m.M) (fun wx hS => (HPM.out.keep (St.fr hS) id).range 0 _ (md_M m)) Try.underlying82 rfl (by first | (rw [cw_len]; kernel_rfl) | (simp only [List.length_append, cw_len]; kernel_rfl)) ?_
  try simp only [Act.put, List.setIfInBounds_toArray, List.set_cons_zero, List.set_cons_succ]
  refine planG_r rfl rfl ?_
  go_simp
  refine (MLess_v (tlN l) m.M _ HTN.out HOK.out.lt false HDL.out).mono ?_
  rintro e' w5 ⟨rfl, hf5⟩
  have st5 := hd4.keep hf5
  clear hf5
  clear hd4
  refine ⟨st5, ?_⟩
  try simp only [Act.put, List.setIfInBounds_toArray, List.set_cons_zero, List.set_cons_succ]
  refine planG_w (v := ?_) rfl rfl (fun wx => ?_) ?_
  rotate_left 1
  · (go_simp; with_reducible rfl)
  try simp only [Act.put, List.setIfInBounds_toArray, List.set_cons_zero, List.set_cons_succ]
  refine planG_w (v := ?_) rfl rfl (fun wx => ?_) ?_
  rotate_left 1
  · (go_simp; with_reducible rfl)
  try simp only [Act.put, List.setIfInBounds_toArray, List.set_cons_zero, List.set_cons_succ]
  refine planG_m rfl rfl ?_
  go_simp
  try simp only [Act.put, List.setIfInBounds_toArray, List.set_cons_zero, List.set_cons_succ]
  refine planG_end ?_
  refine NoPanic.normal ?_
  go_wp2_with (with_reducible refine wl_stop (o := ⟨some 48, _, _, _, _, _⟩) ?_)
  refine wl_build0 rfl rfl _ built_P0 ?_
  go_wp2_with (with_reducible refine wl_stop (o := ⟨none, _, _, _, _, _⟩) ?_)
  refine wl_storeS st5 0 rfl rfl rfl rfl rfl (by first | (simp only; done) | (simp only [List.length_append, cw_len]; done)) (by first | (rw [cw_len]; kernel_rfl) | (simp only [List.length_append, cw_len]; kernel_rfl)) (pt_one _ _ _) ?_
  intro w6 st6
  clear st5
  have hr := st6.at 0 rfl
  have hfr := st6.fr
  clear st6
  go_wp2_with fail
  exact bodyPost_ret (results_st2 rfl rfl hr Try.underlying72 rfl (by first | (rw [cw_len]; kernel_rfl) | (simp only [List.length_append, cw_len]; kernel_rfl)) rfl) rfl ⟨by unfold ptV ptL; rw [el_zero]; rfl, hfr⟩

set_option maxHeartbeats 16000000 in
set_option maxRecDepth 1000000 in
theorem read_pt3 (m : Md) (gc gp bx by_ : Nat) (w : World) (hok : m.Ok) (hcv : Has w gc (crvL m gp bx by_) 93) (hpm : Has w gp (mdL m) 134) (a : Option Addr) (n c : Nat) (l : List UInt8) (hb : RdB w a n l) (hc : n ≤ c) (h33 : l.length = 33) (h0 : (bs l)[0]? = some (.int .u8 3)) (hlt : decide (tlN l < m.M) = true) (r : Bool) (hr : rtOk m.M (crvN (tlN l)) = r) :
    Calls Try.prog 42 #[.pointer (some ⟨gc, 0, none⟩), .slice a n c] w fun e w' => e = .returned (.tuple #[ptV m (tlN l) (m.M - (atY m.M (tlN l)) % m.M) 1, .bool r]) ∧ Fr Nob w w' := by
  have HOK := Lib.hid hok
  have HCV := Lib.hid hcv
  have HPM := Lib.hid hpm
  clear hok hcv hpm
  have h33n : n = 33 := by have := hb.len; omega
  subst h33n
  obtain ⟨ba, oa, rfl, -⟩ := Rd.at hb (by decide)
  have HB := Lib.hid hb
  have HC := Lib.hid hc
  have HT := Lib.hid (RdB.tail hb c (by decide) hc)
  have H0 := Lib.hid h0
  have HTN := Lib.hid (tlN_lt l h33)
  clear hb hc h33 h0
  have HDL := Lib.hid hlt
  clear hlt
  have HR := Lib.hid hr
  clear hr
  have st0 := St.start Nob w
  go_enter Try.func42, Try.ntmps42
  go_wp2_with (with_reducible refine wl_stop (o := ⟨some 4, _, _, _, _, _⟩) ?_)
  refine wl_allocS st0 rfl rfl (z := .agg (List.replicate 12 (.int .u64 0)).toArray) (by kernel_rfl) (cw 4 0 ++ (cw 4 0 ++ cw 4 0)) (by rw [cw_zero]; rfl) ?_
  intro g4 w1 st1
  clear st0
  have hne : (((33 : Nat) : Int) != 33) = false := by rfl
  go_wp2_with (with_reducible refine wl_stop (o := ⟨some 14, _, _, _, _, _⟩) ?_)
  refine wl_cut rfl rfl Try.underlying34 size_u8g rfl 1 33 ⟨_, rfl⟩ rfl (by decide) HC.out ?_
  rw [show (33 : Nat) - 1 = 32 from rfl]
  go_wp2_with fail
  refine (fb_tail _ _ l _ (HT.out.still st1.fr)).mono ?_
  rintro e' w2 ⟨rfl, hf2⟩
  have st2 := st1.keep hf2
  clear st1 hf2
  go_wp2_with (with_reducible refine wl_stop (o := ⟨some 6, _, _, _, _, _⟩) ?_)
  refine wl_allocS st2 rfl rfl (z := .agg #[.int .u64 0, .int .u64 0, .int .u64 0, .int .u64 0]) (by kernel_rfl) (cw 4 0) (by rw [cw_zero]; rfl) ?_
  intro g6 w3 st3
  clear st2
  go_wp2_with (with_reducible refine wl_stop (o := ⟨none, _, _, _, _, _⟩) ?_)
  refine wl_storeS st3 1 rfl rfl rfl rfl rfl (by first | (simp only [cw_len]; done) | (simp only [List.length_append, cw_len]; done)) (by first | (rw [cw_len]; kernel_rfl) | (simp only [List.length_append, cw_len]; kernel_rfl)) (cw_one _ _) ?_
  intro w4 st4
  clear st3
  have hcell := rd_first (HB.out.still st4.fr) _ H0.out
  go_wp2_with fail
  clear hcell
  go_wp2_with fail
  refine wp_region_noPanic ?_
  refine wp_region_planG (fun wx => St Nob w wx [(g4, cw 4 0 ++ (cw 4 0 ++ cw 4 0), 72), (g6, cw 4 (tlN l), 82)]) 22 (.w 0 (.w 1 (.t 2 (.w 3 (.w 4 (.w 5 (.w 6 (.t 7 (.w 8 (.w 9 (.w 10 (.t 11 (.w 12 (.w 13 (.w 14 (.t 15 (.w 16 (.w 17 (.t 18 (.r 19 (.w 20 (.w 21 (.m 22 .nil))))))))))))))))))))))) (by kernel_rfl) (by kernel_rfl) st4.drew (fun _ _ _ _ _ h => h) ?_
  have hd4 := st4.drew
  clear st4
  refine planG_w (v := ?_) rfl rfl (fun wx => ?_) ?_
  rotate_left 1
  · (go_simp; with_reducible rfl)
  try simp only [Act.put, List.setIfInBounds_toArray, List.set_cons_zero, List.set_cons_succ]
  refine planG_w (v := ?_) rfl rfl (fun wx => ?_) ?_
  rotate_left 1
  · (go_simp; with_reducible rfl)
  try simp only [Act.put, List.setIfInBounds_toArray, List.set_cons_zero, List.set_cons_succ]
  refine planG_t (v := ?_) rfl rfl (fun wx hS => ?_) ?_
  rotate_left 1
  · (have hc := (rd_first (HB.out.still (St.fr hS)) _ H0.out); clear hS; go_simp; with_reducible rfl)
  try simp only [Act.put, List.setIfInBounds_toArray, List.set_cons_zero, List.set_cons_succ]
  refine planG_w (v := ?_) rfl rfl (fun wx => ?_) ?_
  rotate_left 1
  · (go_simp; with_reducible rfl)
  try simp only [Act.put, List.setIfInBounds_toArray, List.set_cons_zero, List.set_cons_succ]
  refine planG_w (v := ?_) rfl rfl (fun wx => ?_) ?_
  rotate_left 1
  · (go_simp; with_reducible rfl)
  try simp only [Act.put, List.setIfInBounds_toArray, List.set_cons_zero, List.set_cons_succ]
  refine planG_w (v := ?_) rfl rfl (fun wx => ?_) ?_
  rotate_left 1
  · (go_simp; with_reducible rfl)
  try simp only [Act.put, List.setIfInBounds_toArray, List.set_cons_zero, List.set_cons_succ]
  refine planG_w (v := ?_) rfl rfl (fun wx => ?_) ?_
  rotate_left 1
  · (go_simp; with_reducible rfl)
  try simp only [Act.put, List.setIfInBounds_toArray, List.set_cons_zero, List.set_cons_succ]
  refine planG_t (v := ?_) rfl rfl (fun wx hS => ?_) ?_
  rotate_left 1
  · (have hc := (rd_first (HB.out.still (St.fr hS)) _ H0.out); clear hS; go_simp; with_reducible rfl)
  try simp only [Act.put, List.setIfInBounds_toArray, List.set_cons_zero, List.set_cons_succ]
  refine planG_w (v := ?_) rfl rfl (fun wx => ?_) ?_
  rotate_left 1
  · (go_simp; with_reducible rfl)
  try simp only [Act.put, List.setIfInBounds_toArray, List.set_cons_zero, List.set_cons_succ]
  refine planG_w (v := ?_) rfl rfl (fun wx => ?_) ?_
  rotate_left 1
  · (go_simp; with_reducible rfl)
  try simp only [Act.put, List.setIfInBounds_toArray, List.set_cons_zero, List.set_cons_succ]
  refine planG_w (v := ?_) rfl rfl (fun wx => ?_) ?_
  rotate_left 1
  · (go_simp; with_reducible rfl)
  try simp only [Act.put, List.setIfInBounds_toArray, List.set_cons_zero, List.set_cons_succ]
  refine planG_arr rfl rfl rfl rfl (cw 4 (tlN l)) (fun wx hS => St.rangeL hS 1 rfl 0 _ (by rw [List.drop_zero, List.take_of_length_le (Nat.le_refl _)])) Try.underlying82 rfl (by first | (rw [cw_len]; kernel_rfl) | (simp only [List.length_append, cw_len]; kernel_rfl)) ?_
  try simp only [Act.put, List.setIfInBounds_toArray, List.set_cons_zero, List.set_cons_succ]
  refine planG_w (v := ?_) rfl rfl (fun wx => ?_) ?_
  rotate_left 1
  · (go_simp; with_reducible rfl)
  try simp only [Act.put, List.setIfInBounds_toArray, List.set_cons_zero, List.set_cons_succ]
  refine planG_w (v := ?_) rfl rfl (fun wx => ?_) ?_
  rotate_left 1
  · (go_simp; with_reducible rfl)
  try simp only [Act.put, List.setIfInBounds_toArray, List.set_cons_zero, List.set_cons_succ]
  refine planG_w (v := ?_) rfl rfl (fun wx => ?_) ?_
  rotate_left 1
  · (go_simp; with_reducible rfl)
  try simp only [Act.put, List.setIfInBounds_toArray, List.set_cons_zero, List.set_cons_succ]
  refine planG_t (v := ?_) rfl rfl (fun wx hS => ?_) ?_
  rotate_left 1
  · (have hc := (HCV.out.keep (St.fr hS) id).cell (i := 0) rfl; clear hS; go_simp; with_reducible rfl)
  try simp only [Act.put, List.setIfInBounds_toArray, List.set_cons_zero, List.set_cons_succ]
  refine planG_w (v := ?_) rfl rfl (fun wx => ?_) ?_
  rotate_left 1
  · (go_simp; with_reducible rfl)
  try simp only [Act.put, List.setIfInBounds_toArray, List.set_cons_zero, List.set_cons_succ]
  refine planG_w (v := ?_) rfl rfl (fun wx => ?_) ?_
  rotate_left 1
  · (go_simp; with_reducible rfl)
  try simp only [Act.put, List.setIfInBounds_toArray, List.set_cons_zero, List.set_cons_succ]
  refine planG_arr rfl rfl rfl rfl (cw 4 m.M) (fun wx hS => (HPM.out.keep (St.fr hS) id).range 0 _ (md_M m)) Try.underlying82 rfl (by first | (rw [cw_len]; kernel_rfl) | (simp only [List.length_append, cw_len]; kernel_rfl)) ?_
  try simp only [Act.put, List.setIfInBounds_toArray, List.set_cons_zero, List.set_cons_succ]
  refine planG_r rfl rfl ?_
  go_simp
  refine (MLess_v (tlN l) m.M _ HTN.out HOK.out.lt true HDL.out).mono ?_
  rintro e' w5 ⟨rfl, hf5⟩
  have st5 := hd4.keep hf5
  clear hf5
  clear hd4
  refine ⟨st5, ?_⟩
  try simp only [Act.put, List.setIfInBounds_toArray, List.set_cons_zero, List.set_cons_succ]
  refine planG_w (v := ?_) rfl rfl (fun wx => ?_) ?_
  rotate_left 1
  · (go_simp; with_reducible rfl)
  try simp only [Act.put, List.setIfInBounds_toArray, List.set_cons_zero, List.set_cons_succ]
  refine planG_w (v := ?_) rfl rfl (fun wx => ?_) ?_
  rotate_left 1
  · (go_simp; with_reducible rfl)
  try simp only [Act.put, List.setIfInBounds_toArray, List.set_cons_zero, List.set_cons_succ]
  refine planG_m rfl rfl ?_
  go_simp
  try simp only [Act.put, List.setIfInBounds_toArray, List.set_cons_zero, List.set_cons_succ]
  refine planG_end ?_
  refine NoPanic.normal ?_
  go_wp2_with fail
  refine wp_region_noPanic ?_
  refine wp_region_plan (fun wx => St Nob w wx [(g4, cw 4 0 ++ (cw 4 0 ++ cw 4 0), 72), (g6, cw 4 (tlN l), 82)]) 13 (.w 0 (.w 1 (.w 2 (.w 3 (.t 4 (.t 5 (.b 6 11 (.b 7 11 (.w 8 (.w 9 (.w 10 (.r 11 (.r 12 (.m 13 .nil)))))) (.r 7 (.w 8 (.w 9 (.w 10 (.r 12 (.m 13 .nil))))))) (.r 6 (.r 7 (.w 8 (.w 9 (.w 10 (.r 12 (.m 13 .nil)))))))))))))) (by kernel_rfl) (by kernel_rfl) st5.drew (fun _ _ _ _ _ h => h) ?_
  have hd5 := st5.drew
  clear st5
  refine plan_w (v := ?_) rfl rfl (fun wx => ?_) ?_
  rotate_left 1
  · (go_simp; with_reducible rfl)
  try simp only [Act.put, List.setIfInBounds_toArray, List.set_cons_zero, List.set_cons_succ]
  refine plan_w (v := ?_) rfl rfl (fun wx => ?_) ?_
  rotate_left 1
  · (go_simp; with_reducible rfl)
  try simp only [Act.put, List.setIfInBounds_toArray, List.set_cons_zero, List.set_cons_succ]
  refine plan_w (v := ?_) rfl rfl (fun wx => ?_) ?_
  rotate_left 1
  · (go_simp; with_reducible rfl)
  try simp only [Act.put, List.setIfInBounds_toArray, List.set_cons_zero, List.set_cons_succ]
  refine plan_w (v := ?_) rfl rfl (fun wx => ?_) ?_
  rotate_left 1
  · (go_simp; with_reducible rfl)
  try simp only [Act.put, List.setIfInBounds_toArray, List.set_cons_zero, List.set_cons_succ]
  refine plan_t (v := ?_) rfl rfl (fun wx hS => ?_) ?_
  rotate_left 1
  · (have hc := (HCV.out.keep (St.fr hS) id).cell (i := 0) rfl; clear hS; go_simp; with_reducible rfl)
  try simp only [Act.put, List.setIfInBounds_toArray, List.set_cons_zero, List.set_cons_succ]
  refine plan_arr rfl rfl rfl rfl (cw 4 (tlN l)) (fun wx hS => St.rangeL hS 1 rfl 0 _ (by rw [List.drop_zero, List.take_of_length_le (Nat.le_refl _)])) Try.underlying82 rfl (by first | (rw [cw_len]; kernel_rfl) | (simp only [List.length_append, cw_len]; kernel_rfl)) ?_
  try simp only [Act.put, List.setIfInBounds_toArray, List.set_cons_zero, List.set_cons_succ]
  refine plan_key1 (C := fun g7 wz => St Nob w wz [(g4, cw 4 0 ++ (cw 4 0 ++ cw 4 0), 72), (g6, cw 4 (tlN l), 82), (g7, cw 4 (elN m (tlN l)) ++ (cw 4 (elN m (atY m.M (tlN l))) ++ cw 4 (elN m 1)), 72)]) (F := ?_) (fun key => ?_) ?_
  rotate_left 1
  · skip
    refine plan_b0 rfl rfl rfl rfl ?_ ?_
    · skip
      go_simp
      refine (MTo_any m gp _ HOK.out (HPM.out.keep hd5.fr id) (tlN l) HTN.out).mono ?_
      rintro e' w6 ⟨rfl, hf6⟩
      have st6 := hd5.keep hf6
      clear hf6
      refine ⟨st6, ?_⟩
      try simp only [Act.put, List.setIfInBounds_toArray, List.set_cons_zero, List.set_cons_succ]
      refine plan_b0 rfl rfl rfl rfl ?_ ?_
      · skip
        go_simp
        refine (at_u m gc gp bx by_ _ HOK.out (HCV.out.keep st6.fr id) (HPM.out.keep st6.fr id) (tlN l) r HR.out).mono ?_
        rintro e' w7 ⟨rfl, hf7⟩
        have st7 := st6.keep hf7
        clear hf7
        refine ⟨st7, ?_⟩
        try simp only [Act.put, List.setIfInBounds_toArray, List.set_cons_zero, List.set_cons_succ]
        refine plan_w (v := ?_) rfl rfl (fun wx => ?_) ?_
        rotate_left 1
        · (go_simp; with_reducible rfl)
        try simp only [Act.put, List.setIfInBounds_toArray, List.set_cons_zero, List.set_cons_succ]
        refine plan_w (v := ?_) rfl rfl (fun wx => ?_) ?_
        rotate_left 1
        · (go_simp; with_reducible rfl)
        try simp only [Act.put, List.setIfInBounds_toArray, List.set_cons_zero, List.set_cons_succ]
        refine plan_w (v := ?_) rfl rfl (fun wx => ?_) ?_
        rotate_left 1
        · (go_simp; with_reducible rfl)
        try simp only [Act.put, List.setIfInBounds_toArray, List.set_cons_zero, List.set_cons_succ]
        refine plan_r rfl rfl ?_
        refine wp_allocS st7 rfl (z := .agg #[.int .u64 0, .int .u64 0, .int .u64 0, .int .u64 0, .int .u64 0, .int .u64 0, .int .u64 0, .int .u64 0, .int .u64 0, .int .u64 0, .int .u64 0, .int .u64 0]) (by kernel_rfl) (cw 12 0) (by rw [cw_zero]; rfl) ?_
        intro g7 w8 st8
        refine ⟨St.less st8 (by simp), ?_⟩
        try simp only [Act.put, List.setIfInBounds_toArray, List.set_cons_zero, List.set_cons_succ]
        refine plan_r rfl rfl ?_
        refine wp_storeS st8 2 rfl rfl rfl rfl (by first | (simp only [cw_len]; done) | (simp only [List.length_append, cw_len]; done)) (by first | (rw [cw_len]; kernel_rfl) | (simp only [List.length_append, cw_len]; kernel_rfl)) (pt_one _ _ _) ?_
        intro w9 st9
        refine ⟨St.less st9 (by simp), ?_⟩
        try simp only [Act.put]
        refine plan_m rfl rfl ?_
        go_simp
        try simp only [Act.put, List.setIfInBounds_toArray, List.set_cons_zero, List.set_cons_succ]
        refine plan_end ?_
        exact key g7 _ st9
      · skip
        refine wp_allocS st6 rfl (z := .agg #[.int .u64 0, .int .u64 0, .int .u64 0, .int .u64 0, .int .u64 0, .int .u64 0, .int .u64 0, .int .u64 0, .int .u64 0, .int .u64 0, .int .u64 0, .int .u64 0]) (by kernel_rfl) (cw 12 0) (by rw [cw_zero]; rfl) ?_
        intro g7 w10 st10
        refine ⟨St.less st10 (by simp), ?_⟩
        try simp only [Act.put, List.setIfInBounds_toArray, List.set_cons_zero, List.set_cons_succ]
        refine plan_r rfl rfl ?_
        go_simp
        refine (at_u m gc gp bx by_ _ HOK.out (HCV.out.keep st10.fr id) (HPM.out.keep st10.fr id) (tlN l) r HR.out).mono ?_
        rintro e' w11 ⟨rfl, hf11⟩
        have st11 := st10.keep hf11
        clear hf11
        refine ⟨St.less st11 (by simp), ?_⟩
        try simp only [Act.put, List.setIfInBounds_toArray, List.set_cons_zero, List.set_cons_succ]
        refine plan_w (v := ?_) rfl rfl (fun wx => ?_) ?_
        rotate_left 1
        · (go_simp; with_reducible rfl)
        try simp only [Act.put, List.setIfInBounds_toArray, List.set_cons_zero, List.set_cons_succ]
        refine plan_w (v := ?_) rfl rfl (fun wx => ?_) ?_
        rotate_left 1
        · (go_simp; with_reducible rfl)
        try simp only [Act.put, List.setIfInBounds_toArray, List.set_cons_zero, List.set_cons_succ]
        refine plan_w (v := ?_) rfl rfl (fun wx => ?_) ?_
        rotate_left 1
        · (go_simp; with_reducible rfl)
        try simp only [Act.put, List.setIfInBounds_toArray, List.set_cons_zero, List.set_cons_succ]
        refine plan_r rfl rfl ?_
        refine wp_storeS st11 2 rfl rfl rfl rfl (by first | (simp only [cw_len]; done) | (simp only [List.length_append, cw_len]; done)) (by first | (rw [cw_len]; kernel_rfl) | (simp only [List.length_append, cw_len]; kernel_rfl)) (pt_one _ _ _) ?_
        intro w12 st12
        refine ⟨St.less st12 (by simp), ?_⟩
        try simp only [Act.put]
        refine plan_m rfl rfl ?_
        go_simp
        try simp only [Act.put, List.setIfInBounds_toArray, List.set_cons_zero, List.set_cons_succ]
        refine plan_end ?_
        exact key g7 _ st12
    · skip
      refine wp_allocS hd5 rfl (z := .agg #[.int .u64 0, .int .u64 0, .int .u64 0, .int .u64 0, .int .u64 0, .int .u64 0, .int .u64 0, .int .u64 0, .int .u64 0, .int .u64 0, .int .u64 0, .int .u64 0]) (by kernel_rfl) (cw 12 0) (by rw [cw_zero]; rfl) ?_
      intro g7 w13 st13
      refine ⟨St.less st13 (by simp), ?_⟩
      try simp only [Act.put, List.setIfInBounds_toArray, List.set_cons_zero, List.set_cons_succ]
      refine plan_r rfl rfl ?_
      go_simp
      refine (MTo_any m gp _ HOK.out (HPM.out.keep st13.fr id) (tlN l) HTN.out).mono ?_
      rintro e' w14 ⟨rfl, hf14⟩
      have st14 := st13.keep hf14
      clear hf14
      refine ⟨St.less st14 (by simp), ?_⟩
      try simp only [Act.put, List.setIfInBounds_toArray, List.set_cons_zero, List.set_cons_succ]
      refine plan_r rfl rfl ?_
      go_simp
      refine (at_u m gc gp bx by_ _ HOK.out (HCV.out.keep st14.fr id) (HPM.out.keep st14.fr id) (tlN l) r HR.out).mono ?_
      rintro e' w15 ⟨rfl, hf15⟩
      have st15 := st14.keep hf15
      clear hf15
      refine ⟨St.less st15 (by simp), ?_⟩
      try simp only [Act.put, List.setIfInBounds_toArray, List.set_cons_zero, List.set_cons_succ]
      refine plan_w (v := ?_) rfl rfl (fun wx => ?_) ?_
      rotate_left 1
      · (go_simp; with_reducible rfl)
      try simp only [Act.put, List.setIfInBounds_toArray, List.set_cons_zero, List.set_cons_succ]
      refine plan_w (v := ?_) rfl rfl (fun wx => ?_) ?_
      rotate_left 1
      · (go_simp; with_reducible rfl)
      try simp only [Act.put, List.setIfInBounds_toArray, List.set_cons_zero, List.set_cons_succ]
      refine plan_w (v := ?_) rfl rfl (fun wx => ?_) ?_
      rotate_left 1
      · (go_simp; with_reducible rfl)
      try simp only [Act.put, List.setIfInBounds_toArray, List.set_cons_zero, List.set_cons_succ]
      refine plan_r rfl rfl ?_
      refine wp_storeS st15 2 rfl rfl rfl rfl (by first | (simp only [cw_len]; done) | (simp only [List.length_append, cw_len]; done)) (by first | (rw [cw_len]; kernel_rfl) | (simp only [List.length_append, cw_len]; kernel_rfl)) (pt_one _ _ _) ?_
      intro w16 st16
      refine ⟨St.less st16 (by simp), ?_⟩
      try simp only [Act.put]
      refine plan_m rfl rfl ?_
      go_simp
      try simp only [Act.put, List.setIfInBounds_toArray, List.set_cons_zero, List.set_cons_succ]
      refine plan_end ?_
      exact key g7 _ st16
  intro g7 w17 st17
  have st17 : St Nob w w17 [(g4, cw 4 0 ++ (cw 4 0 ++ cw 4 0), 72), (g6, cw 4 (tlN l), 82), (g7, cw 4 (elN m (tlN l)) ++ (cw 4 (elN m (atY m.M (tlN l))) ++ cw 4 (elN m 1)), 72)] := st17
  clear hd5
  refine NoPanic.normal ?_
  have hcell := rd_first (HB.out.still st17.fr) _ H0.out
  go_wp2_with (with_reducible refine wl_stop (o := ⟨some 65, _, _, _, _, _⟩) ?_)
  refine wl_loadSt st17 2 rfl rfl rfl Try.underlying72 rfl rfl (by first | (rw [cw_len]; kernel_rfl) | (simp only [List.length_append, cw_len]; kernel_rfl)) ?_
  clear hcell
  go_wp2_with fail
  refine (opposite_u m gc gp bx by_ _ HOK.out (HCV.out.keep st17.fr id) (HPM.out.keep st17.fr id) (tlN l) (atY m.M (tlN l)) 1).mono ?_
  rintro e' w18 ⟨rfl, hf18⟩
  have st18 := st17.keep hf18
  clear st17 hf18
  go_wp2_with (with_reducible refine wl_stop (o := ⟨none, _, _, _, _, _⟩) ?_)
  refine wl_storeS st18 2 rfl rfl rfl rfl rfl (by first | (simp only [cw_len]; done) | (simp only [List.length_append, cw_len]; done)) (by first | (rw [cw_len]; kernel_rfl) | (simp only [List.length_append, cw_len]; kernel_rfl)) (pt_one _ _ _) ?_
  intro w19 st19
  clear st18
  go_wp2_with (with_reducible refine wl_stop (o := ⟨some 67, _, _, _, _, _⟩) ?_)
  refine wl_loadSt st19 2 rfl rfl rfl Try.underlying72 rfl rfl (by first | (rw [cw_len]; kernel_rfl) | (simp only [List.length_append, cw_len]; kernel_rfl)) ?_
  go_wp2_with (with_reducible refine wl_stop (o := ⟨none, _, _, _, _, _⟩) ?_)
  refine wl_storeS st19 0 rfl rfl rfl rfl rfl (by first | (simp only [cw_len]; done) | (simp only [List.length_append, cw_len]; done)) (by first | (rw [cw_len]; kernel_rfl) | (simp only [List.length_append, cw_len]; kernel_rfl)) (pt_one _ _ _) ?_
  intro w20 st20
  clear st19
  have hr := st20.at 0 rfl
  have hfr := st20.fr
  clear st20
  go_wp2_with fail
  exact bodyPost_ret (results_st2 rfl rfl hr Try.underlying72 rfl (by first | (rw [cw_len]; kernel_rfl) | (simp only [List.length_append, cw_len]; kernel_rfl)) rfl) rfl ⟨by unfold ptV ptL; rfl, hfr⟩
end Go.Proofs.Ytdbgddngapminaa

/- read and bytes of a program's points. -/
namespace Go.Proofs.Ytdbgddngapminaa
open Go.RowKit Go.Mv Mvp Mvq
theorem bs_head (l : List UInt8) (h : l.length = 33) (b : UInt8) (hb : l.getD 0 0 = b) : (bs l)[0]? = some (.int .u8 (b.toNat : Int)) := by
  cases l with
  | nil => cases h
  | cons x t =>
    have : x = b := by simpa using hb
    subst this
    rfl
theorem u8_of {b : UInt8} {k : Nat} (h : b.toNat = k) : b = UInt8.ofNat k := by rw [← h]; simp
theorem bs_head2 (l : List UInt8) (h : l.length = 33) (hb : l.getD 0 0 = 2) : (bs l)[0]? = some (.int .u8 2) := by rw [bs_head l h 2 hb]; rfl
theorem bs_head3 (l : List UInt8) (h : l.length = 33) (hb : l.getD 0 0 = 3) : (bs l)[0]? = some (.int .u8 3) := by rw [bs_head l h 3 hb]; rfl
theorem bs_head0 (l : List UInt8) (h : l.length = 33) (hb : l.getD 0 0 = 0) : (bs l)[0]? = some (.int .u8 0) := by rw [bs_head l h 0 hb]; rfl
theorem kc_negM (b : Nat) : kc (mP.M - b % mP.M) = - kc b := by rw [mP_fP]; exact kc_negn b
theorem hatY (n : Nat) (hr : rtOk mP.M (crvN n) = true) : kc (atY mP.M n) = kc (rtV fP (crvN n)) := by unfold atY; rw [if_pos hr, mP_fP]
theorem affT_L (x y : Nat) (h : onC (.A (kc x) (kc y))) : (affT x y h).L = ptL mP x y 1 := rfl
attribute [local irreducible] atY rtV rtOk ptL crvN tlN affT
theorem read_ex (l : List UInt8) (h : rdOk l = true) : ∃ t : PT, t.pt = rdPt l ∧ ∀ (gc : Nat) (a : Option Addr) (n c : Nat) (w : World), Cv w gc → RdB w a n l → n ≤ c →
    Calls Try.prog 42 #[.pointer (some ⟨gc, 0, none⟩), .slice a n c] w fun e w' => e = .returned (.tuple #[.agg t.L.toArray, .bool true]) ∧ Fr Nob w w' := by
  have hon := rd_on h
  unfold rdOk at h
  unfold rdPt at *
  simp only [Bool.and_eq_true, decide_eq_true_eq] at h
  obtain ⟨h33, h⟩ := h
  by_cases h0 : l.getD 0 0 = 0
  · rw [if_pos h0] at h
    refine ⟨noT, by rw [if_pos h0, noT_pt], ?_⟩
    rintro gc a n c w ⟨gp, h1, h2⟩ hb hc
    exact read_zero mP gc gp gXn gYn w mP_ok h1 h2 a n c l hb hc h33 (bs_head0 l h33 h0) true h
  · rw [if_neg h0] at h hon
    simp only [Bool.and_eq_true, decide_eq_true_eq] at h
    obtain ⟨h23, hlt, hr⟩ := h
    rw [← mP_fP] at hlt hr
    have hy := hatY _ hr
    rcases h23 with h2 | h3
    · have h3 : ¬ l.getD 0 0 = 3 := by rw [h2]; decide
      rw [if_neg h3, ← hy] at hon
      refine ⟨affT (tlN l) (atY mP.M (tlN l)) hon, ?_, ?_⟩
      · rw [affT_pt, if_neg h0, if_neg h3, hy]
      · rintro gc a n c w ⟨gp, g1, g2⟩ hb hc
        rw [affT_L]
        exact read_pt2 mP gc gp gXn gYn w mP_ok g1 g2 a n c l hb hc h33 (bs_head2 l h33 h2) (decide_eq_true hlt) true hr
    · rw [if_pos h3, ← hy, ← kc_negM] at hon
      refine ⟨affT (tlN l) (mP.M - atY mP.M (tlN l) % mP.M) hon, ?_, ?_⟩
      · rw [affT_pt, if_neg h0, if_pos h3, kc_negM, hy]
      · rintro gc a n c w ⟨gp, g1, g2⟩ hb hc
        rw [affT_L]
        exact read_pt3 mP gc gp gXn gYn w mP_ok g1 g2 a n c l hb hc h33 (bs_head3 l h33 h3) (decide_eq_true hlt) true hr
open Classical in
noncomputable def rdT (l : List UInt8) : PT := if h : rdOk l = true then Classical.choose (read_ex l h) else noT
theorem rdT_pt {l : List UInt8} (h : rdOk l = true) : (rdT l).pt = rdPt l := by unfold rdT; rw [dif_pos h]; exact (Classical.choose_spec (read_ex l h)).1
theorem read_t (l : List UInt8) (h : rdOk l = true) (gc : Nat) (a : Option Addr) (n c : Nat) (w : World) (hcv : Cv w gc) (hb : RdB w a n l) (hc : n ≤ c) :
    Calls Try.prog 42 #[.pointer (some ⟨gc, 0, none⟩), .slice a n c] w fun e w' => e = .returned (.tuple #[.agg (rdT l).L.toArray, .bool true]) ∧ Fr Nob w w' := by
  unfold rdT; rw [dif_pos h]; exact (Classical.choose_spec (read_ex l h)).2 gc a n c w hcv hb hc
theorem read_f (l : List UInt8) (h : rdOk l = false) (gc : Nat) (a : Option Addr) (n c : Nat) (w : World) (hcv : Cv w gc) (hb : RdB w a n l) (hc : n ≤ c) :
    Calls Try.prog 42 #[.pointer (some ⟨gc, 0, none⟩), .slice a n c] w fun e w' => (∃ X Y Z, e = .returned (.tuple #[.agg (ptL mP X Y Z).toArray, .bool false])) ∧ Fr Nob w w' := by
  obtain ⟨gp, g1, g2⟩ := hcv
  unfold rdOk at h
  by_cases h33 : l.length = 33
  · rw [decide_eq_true h33, Bool.true_and] at h
    by_cases h0 : l.getD 0 0 = 0
    · rw [if_pos h0] at h
      exact (read_zero mP gc gp gXn gYn w mP_ok g1 g2 a n c l hb hc h33 (bs_head0 l h33 h0) false h).mono fun _ _ t => ⟨⟨_, _, _, t.1⟩, t.2⟩
    · rw [if_neg h0] at h
      by_cases h2 : l.getD 0 0 = 2
      · rw [decide_eq_true (Or.inl h2), Bool.true_and] at h
        cases hlt : decide (tlN l < mP.M) with
        | false => exact (read_ge2 mP gc gp gXn gYn w mP_ok g1 g2 a n c l hb hc h33 (bs_head2 l h33 h2) hlt).mono fun _ _ t => ⟨⟨_, _, _, t.1⟩, t.2⟩
        | true =>
          rw [← mP_fP, hlt, Bool.true_and] at h
          exact (read_pt2 mP gc gp gXn gYn w mP_ok g1 g2 a n c l hb hc h33 (bs_head2 l h33 h2) hlt false h).mono fun _ _ t => ⟨⟨_, _, _, t.1⟩, t.2⟩
      · by_cases h3 : l.getD 0 0 = 3
        · rw [decide_eq_true (Or.inr h3), Bool.true_and] at h
          cases hlt : decide (tlN l < mP.M) with
          | false => exact (read_ge3 mP gc gp gXn gYn w mP_ok g1 g2 a n c l hb hc h33 (bs_head3 l h33 h3) hlt).mono fun _ _ t => ⟨⟨_, _, _, t.1⟩, t.2⟩
          | true =>
            rw [← mP_fP, hlt, Bool.true_and] at h
            exact (read_pt3 mP gc gp gXn gYn w mP_ok g1 g2 a n c l hb hc h33 (bs_head3 l h33 h3) hlt false h).mono fun _ _ t => ⟨⟨_, _, _, t.1⟩, t.2⟩
        · have q0 : (((l.getD 0 0).toNat : Int) == 0) = false := by
            simp only [beq_eq_false_iff_ne, ne_eq]
            intro e
            exact h0 (u8_of (k := 0) (by omega))
          have q2 : (((l.getD 0 0).toNat : Int) != 2) = true := by
            simp only [bne_iff_ne, ne_eq]
            intro e
            exact h2 (u8_of (k := 2) (by omega))
          have q3 : (((l.getD 0 0).toNat : Int) != 3) = true := by
            simp only [bne_iff_ne, ne_eq]
            intro e
            exact h3 (u8_of (k := 3) (by omega))
          exact (read_bad mP gc gp gXn gYn w mP_ok g1 g2 a n c l hb hc h33 _ (bs_head l h33 _ rfl) q0 q2 q3).mono fun _ _ t => ⟨⟨_, _, _, t.1⟩, t.2⟩
  · exact (read_len mP gc gp gXn gYn w mP_ok g1 g2 a n c l hb hc h33).mono fun _ _ t => ⟨⟨_, _, _, t.1⟩, t.2⟩
theorem kinv_n (z : Nat) : kc (z ^ (mP.M - 2)) = kinv (kc z) := by
  rw [show mP.M - 2 = fP - 2 by rw [mP_fP]]
  unfold kinv
  rw [kc_val_mod]
  generalize fP - 2 = n
  rw [← kc_mod (z ^ n), ← kc_mod ((z % fP) ^ n), ← Nat.pow_mod]
theorem wrPt_A (x y : K) : wrPt (.A x y) = UInt8.ofNat (2 + y.val % 2) :: be32 x.val := rfl
/-- bytes of a point -/
theorem bytes_c (s : PT) (gc : Nat) (w : World) (hcv : Cv w gc) :
    Calls Try.prog 61 #[.pointer (some ⟨gc, 0, none⟩), .agg s.L.toArray] w fun e w' => ∃ sv, e = .returned sv ∧ Own w' w.heap.size 5 1 sv 33 (bs (wrPt s.pt)) ∧ Fr Nob w w' := by
  obtain ⟨gp, g1, g2⟩ := hcv
  cases hz : s.isO with
  | true =>
    rw [PT.isO_t hz]
    exact bytes_none mP gc gp gXn gYn w mP_ok g1 g2 s.x s.y s.z hz
  | false =>
    have hne := PT.isO_f hz
    have e : s.pt = .A (kc (s.x * (s.z ^ (mP.M - 2) * s.z ^ (mP.M - 2)))) (kc (s.y * (s.z ^ (mP.M - 2) * s.z ^ (mP.M - 2) * s.z ^ (mP.M - 2)))) := by
      show jk _ _ _ = _
      rw [jk_nz hne]
      simp only [kc_mul', kinv_n]
    rw [e]
    have hb := bytes_v mP gc gp gXn gYn w mP_ok g1 g2 s.x s.y s.z hz _ _ _ _ _ _ _ rfl rfl rfl rfl rfl rfl rfl
    refine hb.mono ?_
    rintro e' w' ⟨sv, h1, h2, h3⟩
    refine ⟨sv, h1, ?_, h3⟩
    rw [wrPt_A, kc_val_mod, kc_val_mod, ← mP_fP]
    exact h2
end Go.Proofs.Ytdbgddngapminaa

/- group: with, over a closure's contract; the closures of Plus, Minus and Times. -/
namespace Go.Proofs.Ytdbgddngapminaa
open Go.RowKit Go.Mv Mvp Mvq
/-- are all of them points? -/
def rdsB (ls : List (List UInt8)) : Bool := ls.all rdOk
/-- the points' cells -/
noncomputable def ptsL (ls : List (List UInt8)) : List Value := ls.flatMap fun l => (rdT l).L
theorem ptL_one (m : Md) (x y z : Nat) : ∀ v ∈ ptL m x y z, v.oneCell' = true := pt_one _ _ _
theorem ptsL_snoc (ls : List (List UInt8)) (l : List UInt8) : ptsL (ls ++ [l]) = ptsL ls ++ (rdT l).L := by simp [ptsL]
theorem ptsL_at (ls : List (List UInt8)) (i : Nat) (h : i < ls.length) : ((ptsL ls).drop (i * 12)).take (rdT (ls.getD i [])).L.length = (rdT (ls.getD i [])).L := by
  rw [PT.len]
  induction ls generalizing i with
  | nil => simp at h
  | cons l ls ih =>
    rw [ptsL, List.flatMap_cons, ← ptsL]
    cases i with
    | zero =>
      rw [Nat.zero_mul, List.drop_zero, List.take_append_of_le_length (by rw [PT.len]; exact Nat.le_refl _), List.take_of_length_le (by rw [PT.len]; exact Nat.le_refl _)]
      rfl
    | succ i =>
      rw [List.drop_append, PT.len, List.drop_of_length_le (by rw [PT.len]; omega), List.nil_append, show (i + 1) * 12 - 12 = i * 12 by omega, ih i (by simpa using h)]
      rfl
theorem rdsB_take (ls : List (List UInt8)) (k : Nat) (h : k < ls.length) : rdsB (ls.take (k + 1)) = (rdsB (ls.take k) && rdOk (ls.getD k [])) := by
  rw [List.take_succ_eq_append_getElem h, rdsB, List.all_append, ← rdsB]
  simp [List.getD_eq_getElem?_getD, h]
theorem rdsB_bad (ls : List (List UInt8)) (k : Nat) (h : k < ls.length) (hb : rdOk (ls.getD k []) = false) : rdsB ls = false := by
  rw [rdsB, List.all_eq_false]
  refine ⟨ls.getD k [], ?_, by simpa using hb⟩
  rw [List.getD_eq_getElem?_getD, List.getElem?_eq_getElem h]
  exact List.getElem_mem h
theorem info_pt : (Try.prog.info? 72).map (fun i => (i.zero, i.size, i.bytes)) = some (some (.agg (List.replicate 12 (.int .u64 0)).toArray), 12, 96) := by kernel_rfl
attribute [local irreducible] limbs lw mix cw cSub cAdd cMul foldC valFrom beN laid be32 powm montT mstep elN mdL numB rtN rtV rtOk gXn gYn PT.L addT dblT mulT tbL tmR tmL dbN innT outT sumT dig rdT rdOk rdPt ptL ptsL rdsB wrPt
end Go.Proofs.Ytdbgddngapminaa

/- group: the closures of Plus, Minus and Times; scalar. -/
namespace Go.Proofs.Ytdbgddngapminaa
open Go.RowKit Go.Mv Mvp Mvq
attribute [local irreducible] limbs lw mix cw cSub cAdd cMul foldC valFrom beN laid be32 powm montT mstep elN mdL numB rtN rtV rtOk gXn gYn PT.L addT dblT mulT tbL tmR tmL dbN innT outT sumT dig rdT rdOk rdPt ptL ptsL rdsB wrPt
set_option maxHeartbeats 8000000 in
set_option maxRecDepth 1000000 in
theorem scalar_len (m : Md) (hk : KindOf 1 m) (a : Option Addr) (n c : Nat) (l : List UInt8) (w : World) (hb : RdB w a n l) (h32 : l.length ≠ 32) :
    Calls Try.prog 48 #[.slice a n c] w fun e w' => e = .returned (.tuple #[i4 0, .bool false]) ∧ Fr Nob w w' := by
  have HK := Lib.hid hk
  have HOK := Lib.hid hk.ok
  clear hk
  have hne : ((n : Int) != 32) = true := by have := hb.len; simp; omega
  clear h32 hb
  have st0 := St.start Nob w
  go_enter Try.func48, Try.ntmps48
  go_wp2_with (with_reducible refine wl_stop (o := ⟨some 2, _, _, _, _, _⟩) ?_)
  refine wl_allocS st0 rfl rfl (z := .agg #[.int .u64 0, .int .u64 0, .int .u64 0, .int .u64 0]) (by kernel_rfl) (cw 4 0) (by rw [cw_zero]; rfl) ?_
  intro g2 w1 st1
  clear st0
  go_wp2_with (with_reducible refine wl_stop (o := ⟨some 10, _, _, _, _, _⟩) ?_)
  refine wl_build0 rfl rfl _ built_I0 ?_
  rw [words_zI]
  go_wp2_with (with_reducible refine wl_stop (o := ⟨none, _, _, _, _, _⟩) ?_)
  refine wl_storeS st1 0 rfl rfl rfl rfl rfl (by first | (simp only [cw_len]; done) | (simp only [List.length_append, cw_len, PT.len, ptL_len]; done)) (by first | (rw [cw_len]; kernel_rfl) | (rw [PT.len]; kernel_rfl) | (rw [ptL_len]; kernel_rfl) | (simp only [List.length_append, cw_len]; kernel_rfl) | (simp only [List.length_append, cw_len, PT.len, ptL_len]; kernel_rfl)) (cw_one _ _) ?_
  intro w2 st2
  clear st1
  have hr := st2.at 0 rfl
  have hfr := st2.fr
  clear st2
  go_wp2_with fail
  exact bodyPost_ret (results_arr2 rfl rfl hr Try.underlying82 (by first | (rw [cw_len]; kernel_rfl) | (rw [PT.len]; kernel_rfl) | (rw [ptL_len]; kernel_rfl) | (simp only [List.length_append, cw_len]; kernel_rfl) | (simp only [List.length_append, cw_len, PT.len, ptL_len]; kernel_rfl)) rfl) rfl ⟨rfl, hfr⟩

set_option maxHeartbeats 8000000 in
set_option maxRecDepth 1000000 in
theorem scalar_num (m : Md) (hk : KindOf 1 m) (a : Option Addr) (n c : Nat) (l : List UInt8) (w : World) (hb : RdB w a n l) (h32 : l.length = 32) (r : Bool) (hlt : decide (beN l < m.M) = r) :
    Calls Try.prog 48 #[.slice a n c] w fun e w' => e = .returned (.tuple #[i4 (beN l), .bool r]) ∧ Fr Nob w w' := by
  have HK := Lib.hid hk
  have HOK := Lib.hid hk.ok
  clear hk
  have hbl := beN_le32 l (by omega)
  have HBL := Lib.hid hbl
  have h32' : n = 32 := by have := hb.len; omega
  subst h32'
  have HB := Lib.hid hb
  have HLT := Lib.hid hlt
  have hne : (((32 : Nat) : Int) != 32) = false := by rfl
  clear hb hbl h32 hlt
  have st0 := St.start Nob w
  go_enter Try.func48, Try.ntmps48
  go_wp2_with (with_reducible refine wl_stop (o := ⟨some 2, _, _, _, _, _⟩) ?_)
  refine wl_allocS st0 rfl rfl (z := .agg #[.int .u64 0, .int .u64 0, .int .u64 0, .int .u64 0]) (by kernel_rfl) (cw 4 0) (by rw [cw_zero]; rfl) ?_
  intro g2 w1 st1
  clear st0
  go_wp2_with fail
  refine (OfK HK.out _).mono ?_
  rintro e' w2 ⟨gp, rfl, hle, hm, hf2⟩
  have st2 : St Nob w w2 [(g2, cw 4 0, 82), (gp, mdL m, 134)] := st1.new hf2 hm hle
  clear st1 hf2 hm hle
  go_wp2_with fail
  refine (FromBytes_any a 32 c l _ (HB.out.still st2.fr) (by decide)).mono ?_
  rintro e' w3 ⟨rfl, hf3⟩
  have st3 := st2.keep hf3
  clear st2 hf3
  go_wp2_with (with_reducible refine wl_stop (o := ⟨some 6, _, _, _, _, _⟩) ?_)
  refine wl_allocS st3 rfl rfl (z := .agg #[.int .u64 0, .int .u64 0, .int .u64 0, .int .u64 0]) (by kernel_rfl) (cw 4 0) (by rw [cw_zero]; rfl) ?_
  intro g6 w4 st4
  clear st3
  go_wp2_with (with_reducible refine wl_stop (o := ⟨none, _, _, _, _, _⟩) ?_)
  refine wl_storeS st4 2 rfl rfl rfl rfl rfl (by first | (simp only [cw_len]; done) | (simp only [List.length_append, cw_len, PT.len, ptL_len]; done)) (by first | (rw [cw_len]; kernel_rfl) | (rw [PT.len]; kernel_rfl) | (rw [ptL_len]; kernel_rfl) | (simp only [List.length_append, cw_len]; kernel_rfl) | (simp only [List.length_append, cw_len, PT.len, ptL_len]; kernel_rfl)) (cw_one _ _) ?_
  intro w5 st5
  clear st4
  go_wp2_with fail
  refine wp_region_noPanic ?_
  refine wp_region_plan (fun wx => St Nob w wx [(g2, cw 4 0, 82), (gp, mdL m, 134), (g6, cw 4 (beN l), 82)]) 7 (.t 0 (.t 1 (.w 2 (.w 3 (.w 4 (.t 5 (.r 6 (.m 7 (.w 8 .nil))))))))) (by kernel_rfl) (by kernel_rfl) st5.drew (fun _ _ _ _ _ h => h) ?_
  have hd5 := st5.drew
  clear st5
  refine plan_arr rfl rfl rfl rfl (cw 4 (beN l)) (fun wx hS => St.rangeL hS 2 rfl 0 _ (by rw [List.drop_zero, List.take_of_length_le (Nat.le_refl _)])) Try.underlying82 rfl (by first | (rw [cw_len]; kernel_rfl) | (rw [PT.len]; kernel_rfl) | (rw [ptL_len]; kernel_rfl) | (simp only [List.length_append, cw_len]; kernel_rfl) | (simp only [List.length_append, cw_len, PT.len, ptL_len]; kernel_rfl)) ?_
  try simp only [Act.put, List.setIfInBounds_toArray, List.set_cons_zero, List.set_cons_succ]
  refine plan_arr rfl rfl rfl rfl (cw 4 (beN l)) (fun wx hS => St.rangeL hS 2 rfl 0 _ (by rw [List.drop_zero, List.take_of_length_le (Nat.le_refl _)])) Try.underlying82 rfl (by first | (rw [cw_len]; kernel_rfl) | (rw [PT.len]; kernel_rfl) | (rw [ptL_len]; kernel_rfl) | (simp only [List.length_append, cw_len]; kernel_rfl) | (simp only [List.length_append, cw_len, PT.len, ptL_len]; kernel_rfl)) ?_
  try simp only [Act.put, List.setIfInBounds_toArray, List.set_cons_zero, List.set_cons_succ]
  refine plan_w (v := ?_) rfl rfl (fun wx => ?_) ?_
  rotate_left 1
  · (go_simp; with_reducible rfl)
  try simp only [Act.put, List.setIfInBounds_toArray, List.set_cons_zero, List.set_cons_succ]
  refine plan_w (v := ?_) rfl rfl (fun wx => ?_) ?_
  rotate_left 1
  · (go_simp; with_reducible rfl)
  try simp only [Act.put, List.setIfInBounds_toArray, List.set_cons_zero, List.set_cons_succ]
  refine plan_w (v := ?_) rfl rfl (fun wx => ?_) ?_
  rotate_left 1
  · (go_simp; with_reducible rfl)
  try simp only [Act.put, List.setIfInBounds_toArray, List.set_cons_zero, List.set_cons_succ]
  refine plan_arr rfl rfl rfl rfl (cw 4 m.M) (fun wx hS => St.rangeL hS 1 rfl 0 _ (md_M m)) Try.underlying82 rfl (by first | (rw [cw_len]; kernel_rfl) | (rw [PT.len]; kernel_rfl) | (rw [ptL_len]; kernel_rfl) | (simp only [List.length_append, cw_len]; kernel_rfl) | (simp only [List.length_append, cw_len, PT.len, ptL_len]; kernel_rfl)) ?_
  try simp only [Act.put, List.setIfInBounds_toArray, List.set_cons_zero, List.set_cons_succ]
  refine plan_r rfl rfl ?_
  go_simp
  refine (MLess_v (beN l) m.M _ HBL.out HOK.out.lt r HLT.out).mono ?_
  rintro e' w6 ⟨rfl, hf6⟩
  have st6 := hd5.keep hf6
  clear hf6
  clear hd5
  refine ⟨st6, ?_⟩
  try simp only [Act.put, List.setIfInBounds_toArray, List.set_cons_zero, List.set_cons_succ]
  refine plan_m rfl rfl ?_
  refine wp_storeS st6 0 rfl rfl rfl rfl (by first | (simp only [cw_len]; done) | (simp only [List.length_append, cw_len, PT.len, ptL_len]; done)) (by first | (rw [cw_len]; kernel_rfl) | (rw [PT.len]; kernel_rfl) | (rw [ptL_len]; kernel_rfl) | (simp only [List.length_append, cw_len]; kernel_rfl) | (simp only [List.length_append, cw_len, PT.len, ptL_len]; kernel_rfl)) (cw_one _ _) ?_
  intro w7 st7
  clear st6
  try simp only [Act.put]
  refine plan_w (v := ?_) rfl rfl (fun wx => ?_) ?_
  rotate_left 1
  · (go_simp; with_reducible rfl)
  try simp only [Act.put, List.setIfInBounds_toArray, List.set_cons_zero, List.set_cons_succ]
  refine plan_end ?_
  refine NoPanic.normal ?_
  have hr := st7.at 0 rfl
  have hfr := st7.fr
  clear st7
  go_wp2_with fail
  exact bodyPost_ret (results_arr2 rfl rfl hr Try.underlying82 (by first | (rw [cw_len]; kernel_rfl) | (rw [PT.len]; kernel_rfl) | (rw [ptL_len]; kernel_rfl) | (simp only [List.length_append, cw_len]; kernel_rfl) | (simp only [List.length_append, cw_len, PT.len, ptL_len]; kernel_rfl)) rfl) rfl ⟨rfl, hfr⟩

theorem scalar_t {l : List UInt8} (h : numB mQ l = true) (a : Option Addr) (n c : Nat) (w : World) (hb : RdB w a n l) : Calls Try.prog 48 #[.slice a n c] w fun e w' => e = .returned (.tuple #[i4 (beN l), .bool true]) ∧ Fr Nob w w' := by
  unfold numB at h
  simp only [Bool.and_eq_true, decide_eq_true_eq] at h
  exact scalar_num mQ .one a n c l w hb h.1 true (decide_eq_true h.2)
theorem scalar_f {l : List UInt8} (h : numB mQ l = false) (a : Option Addr) (n c : Nat) (w : World) (hb : RdB w a n l) : Calls Try.prog 48 #[.slice a n c] w fun e w' => (∃ N, e = .returned (.tuple #[i4 N, .bool false])) ∧ Fr Nob w w' := by
  unfold numB at h
  by_cases h32 : l.length = 32
  · rw [decide_eq_true h32, Bool.true_and] at h
    exact (scalar_num mQ .one a n c l w hb h32 false h).mono fun _ _ t => ⟨⟨_, t.1⟩, t.2⟩
  · exact (scalar_len mQ .one a n c l w hb h32).mono fun _ _ t => ⟨⟨_, t.1⟩, t.2⟩
end Go.Proofs.Ytdbgddngapminaa

/- group: Plus, Minus, Times, Point, Base: what they answer. -/
namespace Go.Proofs.Ytdbgddngapminaa
open Go.RowKit Go.Mv Mvp Mvq
theorem info_bslg : (Try.prog.info? 34).map (fun i => (i.zero, i.size, i.bytes)) = some (some (.slice none 0 0), 1, 24) := by kernel_rfl
attribute [local irreducible] limbs lw mix cw cSub cAdd cMul foldC valFrom beN laid be32 powm montT mstep elN mdL numB rtN rtV rtOk gXn gYn PT.L addT dblT mulT tbL tmR tmL dbN innT outT sumT dig rdT rdOk rdPt ptL ptsL rdsB wrPt
end Go.Proofs.Ytdbgddngapminaa

/- group's exported functions, for all bytes: what they answer, told by points. -/
namespace Mvq
theorem psum_snoc : ∀ (l : List (Nat × Pt)) (n : Nat) (p : Pt), (∀ t ∈ l, onC t.2) → onC p → psum (l ++ [(n, p)]) = padd (psum l) (pmul n p)
  | [], n, p, _, _ => by show padd (pmul n p) .O = padd .O (pmul n p); rw [padd_zero]; rfl
  | (k, q) :: l, n, p, h, hp => by
    have hl : ∀ t ∈ l, onC t.2 := fun t ht => h t (List.mem_cons_of_mem _ ht)
    show padd (pmul k q) (psum (l ++ [(n, p)])) = padd (padd (pmul k q) (psum l)) (pmul n p)
    rw [psum_snoc l n p hl hp, padd_assoc (pmul_on (h (k, q) (by simp)) k) (psum_on l hl) (pmul_on hp n)]
end Mvq
namespace Go.Proofs.Ytdbgddngapminaa
open Go.RowKit Go.Mv Mvp Mvq
/-- terms, as numbers and points -/
noncomputable def tpts (l : List (Nat × PT)) : List (Nat × Pt) := l.map fun t => (t.1, t.2.pt)
theorem tpts_on (l : List (Nat × PT)) : ∀ t ∈ tpts l, onC t.2 := by
  intro t ht
  obtain ⟨u, _, rfl⟩ := List.mem_map.1 ht
  exact u.2.onP
theorem innT_pt (l : List (Nat × PT)) (i : Nat) (o : PT) : ∀ k, k ≤ l.length → (innT l i o k).pt = padd o.pt (psum ((tpts (l.take k)).map fun t => (dig (63 - i) t.1, t.2)))
  | 0, _ => by show o.pt = padd o.pt .O; rw [padd_zero]
  | k + 1, h => by
    have ih := innT_pt l i o k (by omega)
    have hk : k < l.length := by omega
    have e : l.take (k + 1) = l.take k ++ [tmAt l k] := by
      rw [List.take_succ_eq_append_getElem hk]
      simp [tmAt, List.getD_eq_getElem?_getD, hk]
    have hon : ∀ t ∈ (tpts (l.take k)).map (fun t => (dig (63 - i) t.1, t.2)), onC t.2 := by
      intro t ht
      obtain ⟨u, hu, rfl⟩ := List.mem_map.1 ht
      exact tpts_on _ u hu
    rw [e, tpts, List.map_append, List.map_append, ← tpts]
    show (addT (innT l i o k) (mulT (tmAt l k).2 (dig (63 - i) (tmAt l k).1))).pt = padd o.pt (psum ((tpts (l.take k)).map (fun t => (dig (63 - i) t.1, t.2)) ++ [(dig (63 - i) (tmAt l k).1, (tmAt l k).2.pt)]))
    rw [addT_pt, mulT_pt, ih, psum_snoc _ _ _ hon (tmAt l k).2.onP, padd_assoc o.onP (psum_on _ hon) (pmul_on (tmAt l k).2.onP _)]
theorem outT_pt (l : List (Nat × PT)) (hn : ∀ t ∈ l, t.1 < 16 ^ 64) : ∀ i, i ≤ 64 → (outT l i).pt = psum (lead (64 - i) (tpts l))
  | 0, _ => by
    show noT.pt = _
    rw [noT_pt]
    have : ∀ l : List (Nat × PT), (∀ t ∈ l, t.1 < 16 ^ 64) → psum (lead 64 (tpts l)) = .O := by
      intro l
      induction l with
      | nil => intro _; rfl
      | cons t l ih =>
        intro h
        show padd (pmul (t.1 / 16 ^ 64) t.2.pt) (psum (lead 64 (tpts l))) = .O
        rw [Nat.div_eq_of_lt (h t (by simp)), ih fun u hu => h u (List.mem_cons_of_mem _ hu)]
        rfl
    exact (this l hn).symm
  | i + 1, h => by
    have ih := outT_pt l hn i (by omega)
    show (innT l i (dbN (outT l i) 4) l.length).pt = _
    rw [innT_pt l i _ l.length (Nat.le_refl _), dbN_pt _ rfl, ih, List.take_of_length_le (Nat.le_refl _)]
    have := lead_next (63 - i) (tpts l) (tpts_on l)
    rw [show 63 - i + 1 = 64 - i by omega] at this
    rw [show 64 - (i + 1) = 63 - i by omega]
    exact this.symm
theorem sumT_pt (l : List (Nat × PT)) (hn : ∀ t ∈ l, t.1 < 16 ^ 64) : (sumT l).pt = psum (tpts l) := by
  have h := outT_pt l hn 64 (Nat.le_refl _)
  rw [Nat.sub_self] at h
  have e : lead 0 (tpts l) = tpts l := by
    unfold lead
    conv => rhs; rw [← List.map_id (tpts l)]
    refine List.map_congr_left fun t _ => ?_
    show (t.1 / 16 ^ 0, t.2) = t
    rw [Nat.pow_zero, Nat.div_one]
  rw [e] at h
  exact h
/-- what is owned reads -/
theorem Own.part {w : World} {base : Nat} {v : Value} {l : List UInt8} (h : Own w base 5 1 v l.length (bs l)) : BPart w v l := by
  obtain ⟨a, c, rfl, hc, hr, -⟩ := h.form
  exact ⟨a, _, c, rfl, hc, by rwa [Nat.mul_one] at hr⟩
/-- a list of bytes of the call's own -/
def OwnB1 (w w' : World) (v : Value) (l : List UInt8) : Prop := Own w' w.heap.size 5 1 v l.length (bs l)
theorem OwnB1.part {w w' : World} {v : Value} {l : List UInt8} (h : OwnB1 w w' v l) : BPart w' v l := Own.part h
theorem OwnB1.nil (w w' : World) : OwnB1 w w' (.slice none 0 0) [] := Own.nil _ _ _ _
theorem OwnB1.of {w w' : World} {v : Value} {l : List UInt8} {n : Nat} (h : Own w' w.heap.size 5 1 v n (bs l)) (hn : l.length = n) : OwnB1 w w' v l := by subst hn; exact h
theorem q16 : mQ.M < 16 ^ 64 := by decide
noncomputable def tS (lk la : List UInt8) : List UInt8 := if numB mQ lk && rdOk la then wrPt (pmul (beN lk) (rdPt la)) else []
def tC (lk la : List UInt8) : Int := if numB mQ lk then (if rdOk la then 0 else 4) else 3
theorem numB_lt2 {l : List UInt8} (h : numB mQ l = true) : beN l < mQ.M := by
  unfold numB at h
  simp only [Bool.and_eq_true, decide_eq_true_eq] at h
  exact h.2
end Go.Proofs.Ytdbgddngapminaa

/- The cells of a list of terms, as Sum fills it. -/
namespace Go.Mv
open Go.RowKit
theorem splice_row (A F B cs : List Value) (n off : Nat) (hA : A.length = n) (h : off + cs.length ≤ F.length) : splice (A ++ (F ++ B)) (n + off) cs = A ++ (splice F off cs ++ B) := by
  subst hA
  unfold splice
  have h1 : List.take (A.length + off) (A ++ (F ++ B)) = A ++ List.take off F := by
    rw [List.take_length_add_append, List.take_append_of_le_length (by omega)]
  have h2 : List.drop (A.length + off + cs.length) (A ++ (F ++ B)) = List.drop (off + cs.length) F ++ B := by
    rw [Nat.add_assoc, List.drop_length_add_append, List.drop_append_of_le_length h]
  rw [h1, h2]
  simp [List.append_assoc]
theorem rows_put (f f' : Nat → List Value) (k : Nat) (hl : ∀ i, (f i).length = k) (n i off : Nat) (cs : List Value) (h : i < n) (ho : off + cs.length ≤ k) (hi : f' i = splice (f i) off cs) (hv : ∀ j, j ≠ i → f' j = f j) : splice ((List.range n).flatMap f) (i * k + off) cs = (List.range n).flatMap f' := by
  have hlen : (splice (f i) off cs).length = k := by
    unfold splice
    simp only [List.length_append, List.length_take, List.length_drop, hl]
    omega
  have e := rows_set f f' k hl n i h (by rw [hi]; exact hlen) hv
  rw [← e, hi, rows_split f n i h, splice_row _ _ _ cs (i * k) off (by rw [rows_len f k hl, Nat.mul_comm]) (by rw [hl]; exact ho), splice_mid _ _ _ _ (i * k) (by rw [rows_len f k hl, Nat.mul_comm]) (by rw [hlen, hl])]
end Go.Mv
namespace Go.Proofs.Ytdbgddngapminaa
open Go.RowKit Go.Mv Mvp Mvq
/-- terms' cells: numbers and tables -/
noncomputable def tmF (n : Nat) (a : Nat → Nat) (T : Nat → List Value) : List Value := (List.range n).flatMap fun i => cw 4 (a i) ++ T i
def upN {α : Type} (a : Nat → α) (k : Nat) (x : α) : Nat → α := fun i => if i = k then x else a i
theorem tm_row (a : Nat → Nat) (T : Nat → List Value) (hT : ∀ i, (T i).length = 192) (i : Nat) : (cw 4 (a i) ++ T i).length = 196 := by rw [List.length_append, cw_len, hT]
theorem tmF_len (n : Nat) (a : Nat → Nat) (T : Nat → List Value) (hT : ∀ i, (T i).length = 192) : (tmF n a T).length = n * 196 := by
  rw [Nat.mul_comm]; exact rows_len _ 196 (tm_row a T hT) n
theorem tmF_setN (n : Nat) (a : Nat → Nat) (T : Nat → List Value) (hT : ∀ i, (T i).length = 192) (k x : Nat) (h : k < n) : splice (tmF n a T) (k * 196) (cw 4 x) = tmF n (upN a k x) T := by
  have := rows_put (fun i => cw 4 (a i) ++ T i) (fun i => cw 4 (upN a k x i) ++ T i) 196 (tm_row a T hT) n k 0 (cw 4 x) h (by rw [cw_len]; omega)
    (by
      show cw 4 (upN a k x k) ++ T k = _
      unfold upN splice
      rw [if_pos rfl, Nat.zero_add, cw_len, List.drop_append_of_le_length (by rw [cw_len]; omega), List.drop_of_length_le (by rw [cw_len]; omega)]
      rfl)
    (fun j hj => by show cw 4 (upN a k x j) ++ T j = _; unfold upN; rw [if_neg hj])
  rw [Nat.add_zero] at this
  exact this
theorem tmF_setT (n : Nat) (a : Nat → Nat) (T : Nat → List Value) (hT : ∀ i, (T i).length = 192) (k : Nat) (t : List Value) (ht : t.length = 192) (h : k < n) : splice (tmF n a T) (k * 196 + 4) t = tmF n a (upN T k t) :=
  rows_put (fun i => cw 4 (a i) ++ T i) (fun i => cw 4 (a i) ++ upN T k t i) 196 (tm_row a T hT) n k 4 t h (by rw [ht]; omega)
    (by
      show cw 4 (a k) ++ upN T k t k = _
      unfold upN splice
      rw [if_pos rfl, List.take_append_of_le_length (by rw [cw_len]; omega), List.take_of_length_le (by rw [cw_len]; omega), List.drop_of_length_le (by rw [List.length_append, cw_len, hT, ht]; omega), List.append_nil])
    (fun j hj => by show cw 4 (a j) ++ upN T k t j = _; unfold upN; rw [if_neg hj])
theorem tmF_congr (n : Nat) (a a' : Nat → Nat) (T T' : Nat → List Value) (h : ∀ i, i < n → a i = a' i ∧ T i = T' i) : tmF n a T = tmF n a' T' := by
  unfold tmF
  rw [List.flatMap_def, List.flatMap_def]
  congr 1
  exact List.map_congr_left fun i hi => by obtain ⟨h1, h2⟩ := h i (List.mem_range.1 hi); rw [h1, h2]
theorem tmF_zero (n : Nat) : List.replicate (n * 196) (Value.int .u64 0) = tmF n (fun _ => 0) (fun _ => cw 192 0) := by
  unfold tmF
  induction n with
  | zero => rfl
  | succ n ih =>
    rw [List.range_succ, List.flatMap_append, ← ih, Nat.succ_mul, ← List.replicate_append_replicate]
    congr 1
    simp only [List.flatMap_cons, List.flatMap_nil, List.append_nil, cw_zero]
    rw [List.replicate_append_replicate]
/-- all filled: the terms of a list -/
theorem tmF_tmL (l : List (Nat × PT)) : tmF l.length (fun i => (tmAt l i).1) (fun i => tbL (tmAt l i).2 16) = tmL l := rfl
end Go.Proofs.Ytdbgddngapminaa

/- group: Sum's closure. -/
namespace Go.Proofs.Ytdbgddngapminaa
open Go.RowKit Go.Mv Mvp Mvq
/-- the tables, as far as they are filled -/
noncomputable def tkT (ls : List (List UInt8)) (k : Nat) : Nat → List Value := fun i => if i < k then tbL (rdT (ls.getD i [])) 16 else cw 192 0
theorem tkT_len (ls : List (List UInt8)) (k i : Nat) : (tkT ls k i).length = 192 := by
  unfold tkT
  split
  · exact tbL_len _ _
  · exact cw_len _ _
/-- the terms of a sum -/
noncomputable def tmsT (a : Nat → Nat) (ls : List (List UInt8)) : List (Nat × PT) := (List.range ls.length).map fun i => (a i, rdT (ls.getD i []))
theorem tmsT_len (a : Nat → Nat) (ls : List (List UInt8)) : (tmsT a ls).length = ls.length := by simp [tmsT]
theorem tmsT_at (a : Nat → Nat) (ls : List (List UInt8)) (i : Nat) (h : i < ls.length) : tmAt (tmsT a ls) i = (a i, rdT (ls.getD i [])) := by
  unfold tmAt tmsT
  rw [List.getD_eq_getElem?_getD, List.getElem?_map, List.getElem?_range h]
  rfl
theorem tms_full (a : Nat → Nat) (ls : List (List UInt8)) : tmF ls.length a (tkT ls ls.length) = tmL (tmsT a ls) := by
  rw [← tmF_tmL, tmsT_len]
  refine tmF_congr _ _ _ _ _ fun i hi => ?_
  rw [tmsT_at a ls i hi]
  refine ⟨rfl, ?_⟩
  unfold tkT
  rw [if_pos hi]
theorem tms_zero (n : Nat) (a : Nat → Nat) (ls : List (List UInt8)) : tmF n a (fun _ => cw 192 0) = tmF n a (tkT ls 0) := tmF_congr _ _ _ _ _ fun i _ => ⟨rfl, by unfold tkT; rw [if_neg (Nat.not_lt_zero _)]⟩
theorem tms_set (n : Nat) (a : Nat → Nat) (ls : List (List UInt8)) (k : Nat) (h : k < n) (l : List UInt8) (hl : ls.getD k [] = l) : splice (tmF n a (tkT ls k)) (k * 196 + 4) (tbL (rdT l) 16) = tmF n a (tkT ls (k + 1)) := by
  subst hl
  rw [tmF_setT n a _ (tkT_len ls k) k _ (tbL_len _ _) h]
  refine tmF_congr _ _ _ _ _ fun i _ => ⟨rfl, ?_⟩
  unfold upN tkT
  by_cases e : i = k
  · rw [if_pos e, if_pos (by omega), e]
  · rw [if_neg e]
    by_cases e2 : i < k
    · rw [if_pos e2, if_pos (by omega)]
    · rw [if_neg e2, if_neg (by omega)]
theorem tms_rd {w : World} {gT : Nat} {a : Nat → Nat} {ls : List (List UInt8)} {T : TypeId} (h : Has w gT (tmF ls.length a (tkT ls ls.length)) T) : Rd w (some ⟨gT, 0, none⟩) ((tmsT a ls).length * 196) (tmL (tmsT a ls)) := by
  rw [tms_full] at h
  have := Rd.whole h
  rwa [tmL_len] at this
theorem k256_x (w : World) : Calls Try.prog 41 #[] w fun e w' => ∃ gc, e = .returned (.pointer (some ⟨gc, 0, none⟩)) ∧ Cv w' gc ∧ Fr Nob w w' :=
  (k256_c w).mono fun _ _ ⟨gc, k1, _, k2, k3⟩ => ⟨gc, k1, k2, k3⟩
attribute [local irreducible] limbs lw mix cw cSub cAdd cMul foldC valFrom beN laid be32 powm montT mstep elN mdL numB rtN rtV rtOk gXn gYn PT.L addT dblT mulT tbL tmR tmL dbN innT outT sumT dig rdT rdOk rdPt ptL ptsL rdsB wrPt tmF upN
set_option maxHeartbeats 8000000 in
set_option maxRecDepth 1000000 in
theorem sum1_c (n : Nat) (a : Nat → Nat) (ls : List (List UInt8)) (hls : ls.length = n) (hn : n ≤ 100000) (gb gT : Nat) (w : World) (hne : gb ≠ gT) (hgb : Has w gb [.slice (some ⟨gT, 0, none⟩) n n] 94) (hgt : Has w gT (tmF n a fun _ => cw 192 0) 98)
    (ap : Option Addr) (cp : Nat) (hoff : Off (One gT) ap) (hre : Rd w ap (ls.length * 12) (ptsL ls)) :
    Calls Try.prog 62 #[.slice ap n cp, .pointer (some ⟨gb, 0, none⟩)] w fun e w' => e = .returned (.agg (sumT (tmsT a ls)).L.toArray) ∧ Fr (One gT) w w' := by
  rw [tms_zero n a ls] at hgt
  have HLS := Lib.hid hls
  have HN := Lib.hid hn
  have hnI : (n : Int) ≤ 100000 := by omega
  have HNE := Lib.hid (show ¬ One gT gb from hne)
  have HGB := Lib.hid hgb
  have HGT := Lib.hid hgt
  have HOFF := Lib.hid hoff
  have HRE := Lib.hid hre
  clear hls hne hgb hgt hoff hre hn
  have st0 := St.one HGT.out
  go_enter Try.func62, Try.ntmps62
  go_wp2_with (with_reducible refine wl_stop (o := ⟨some 3, _, _, _, _, _⟩) ?_)
  refine wl_allocS st0 rfl rfl (z := .agg (List.replicate 12 (.int .u64 0)).toArray) (by kernel_rfl) (cw 12 0) (by rw [cw_zero]; rfl) ?_
  intro g3 w1 st1
  clear st0
  go_wp2
  go_loopw [8] (fun x wr => ∃ k : Nat, k ≤ n ∧ x = .int .i64 (k : Int) ∧ St (One gT) w wr [(gT, tmF n a (tkT ls k), 98), (g3, cw 12 0, 72)]) (fun x _ => n - (intOf x).toNat)
  case atStart => exact ⟨0, Nat.zero_le _, rfl, st1⟩
  case round =>
    obtain ⟨k, hk, rfl, st⟩ := hrel
    clear st1
    by_cases hlt : k < n
    · have hltI : (k : Int) < (n : Int) := by omega
      obtain ⟨ba, oa, hea, -⟩ := HRE.out.at (by have := HLS.out; omega)
      subst hea
      have hk0 : (0 : Int) ≤ (k : Int) := by omega
      have hpa := ptsL_at ls k (by rw [HLS.out]; exact hlt)
      generalize hl : ls.getD k [] = l at *
      have HLL := Lib.hid hl
      have HPA := Lib.hid hpa
      clear hl hpa
      have HLT := Lib.hid hlt
      have HLK := Lib.hid (show k < ls.length by rw [HLS.out]; exact hlt)
      clear hlt
      go_wp2_with (with_reducible refine wl_stop (o := ⟨some 12, _, _, _, _, _⟩) ?_)
      refine wl_loadR rfl rfl Try.underlying72 rfl rfl (rd_at (HRE.out.keep st.fr HOFF.out) (k * 12) ((rdT l).L) HPA.out) (by first | (rw [cw_len]; kernel_rfl) | (simp only [PT.len]; kernel_rfl)) ?_
      go_wp2_with (with_reducible refine wl_stop (o := ⟨some 5, _, _, _, _, _⟩) ?_)
      refine wl_allocS st rfl rfl (z := .agg (List.replicate 12 (.int .u64 0)).toArray) (by kernel_rfl) (cw 12 0) (by rw [cw_zero]; rfl) ?_
      intro g5 w2 st2
      clear st
      go_wp2_with (with_reducible refine wl_stop (o := ⟨none, _, _, _, _, _⟩) ?_)
      refine wl_storeS st2 2 rfl rfl rfl rfl rfl (by first | (simp only [cw_len]; done) | (simp only [List.length_append, cw_len, PT.len, tbL_len, ptL_len]; done)) (by first | (rw [cw_len]; kernel_rfl) | (simp only [PT.len]; kernel_rfl)) (PT.one _) ?_
      intro w3 st3
      clear st2
      go_wp2_with fail
      refine wp_region_noPanic ?_
      refine wp_region_lad st3 7 [.t 0, .w 1, .t 3, .c 2, .c 4, .w 5, .w 6] (.m 7 .nil) (by kernel_rfl) (by kernel_rfl) (fun _ _ _ _ _ h => h) ?_
      clear st3
      refine lad_t (v := ?_) rfl rfl (fun xq wx hS => ?_) ?_
      rotate_left 1
      · (have hc := (HGB.out.keep (St.fr hS) HNE.out).cell (show [Value.slice (some ⟨gT, 0, none⟩) n n][0]? = _ from rfl); clear hS; go_simp; with_reducible rfl)
      try simp only [Act.put, List.setIfInBounds_toArray, List.set_cons_zero, List.set_cons_succ]
      refine lad_w (v := ?_) rfl rfl (fun xq wx => ?_) ?_
      rotate_left 1
      · (go_simp; with_reducible rfl)
      try simp only [Act.put, List.setIfInBounds_toArray, List.set_cons_zero, List.set_cons_succ]
      refine lad_arr rfl rfl rfl (fun _ => rfl) ((rdT l).L) (fun wx hS => St.rangeL hS 2 rfl 0 _ (by rw [List.drop_zero, List.take_of_length_le (Nat.le_refl _)])) Try.underlying72 rfl (by first | (rw [cw_len]; kernel_rfl) | (simp only [PT.len]; kernel_rfl)) ?_
      try simp only [Act.put, List.setIfInBounds_toArray, List.set_cons_zero, List.set_cons_succ]
      refine lad_callX (X := Nat) (fun gc => .pointer (some ⟨gc, 0, none⟩)) (fun gc w => Cv w gc) (fun _ _ _ h k => h.keep k) rfl rfl rfl Try.call41 (fun w hS hR => k256_x _) (fun _ => rfl) fun gc => ?_
      try simp only [Act.put, List.setIfInBounds_toArray, List.set_cons_zero, List.set_cons_succ]
      refine lad_call rfl rfl rfl Try.call63 (fun w hS hR => multiples_c (rdT l) gc _ hR.2) (fun _ => rfl) ?_
      try simp only [Act.put, List.setIfInBounds_toArray, List.set_cons_zero, List.set_cons_succ]
      refine lad_w (v := ?_) rfl rfl (fun xq wx => ?_) ?_
      rotate_left 1
      · (go_simp; with_reducible rfl)
      try simp only [Act.put, List.setIfInBounds_toArray, List.set_cons_zero, List.set_cons_succ]
      refine lad_w (v := ?_) rfl rfl (fun xq wx => ?_) ?_
      rotate_left 1
      · (go_simp; with_reducible rfl)
      try simp only [Act.put, List.setIfInBounds_toArray, List.set_cons_zero, List.set_cons_succ]
      refine lad_end fun xq w4 st4 hR => ?_
      try dsimp only
      clear hR xq
      refine plan_m rfl rfl ?_
      refine wp_storeP st4 0 rfl rfl rfl rfl (tmF n a (tkT ls (k + 1))) (tms_set n a ls k HLT.out l HLL.out) (by rw [tmF_len n a _ (tkT_len ls k), tbL_len]; have := HLT.out; omega) (by first | (rw [cw_len]; kernel_rfl) | (simp only [tbL_len]; kernel_rfl)) (tbL_one _ _) ?_
      intro w5 st5
      have st5 : St (One gT) w w5 [(gT, tmF n a (tkT ls (k + 1)), 98), (g3, cw 12 0, 72), (g5, (rdT l).L, 72)] := st5
      clear st4
      try simp only [Act.put]
      refine plan_end ?_
      refine NoPanic.normal ?_
      go_wp2_with fail
      go_roundw
      case rel => exact ⟨k + 1, by have := HLT.out; omega, by go_num, St.less st5 (by simp)⟩
      case measure => have := HLT.out; simp [intOf]; omega
    · have hltI : ¬ ((k : Int) < (n : Int)) := by omega
      have hkn : k = ls.length := by rw [HLS.out]; omega
      have hnl : n = ls.length := HLS.out.symm
      subst hkn
      have HNL := Lib.hid hnl
      clear hnl
      have hHT := st.at 0 rfl
      clear hHT
      go_wp2_with fail
      refine wp_region_noPanic ?_
      refine wp_region_lad st 3 [.t 1, .c 0, .c 2] (.m 3 .nil) (by kernel_rfl) (by kernel_rfl) (fun _ _ _ _ _ h => h) ?_
      clear st
      refine lad_t (v := ?_) rfl rfl (fun xq wx hS => ?_) ?_
      rotate_left 1
      · (have hc := (HGB.out.keep (St.fr hS) HNE.out).cell (show [Value.slice (some ⟨gT, 0, none⟩) n n][0]? = _ from rfl); clear hS; go_simp; with_reducible rfl)
      try simp only [Act.put, List.setIfInBounds_toArray, List.set_cons_zero, List.set_cons_succ]
      refine lad_callX (X := Nat) (fun gc => .pointer (some ⟨gc, 0, none⟩)) (fun gc w => Cv w gc) (fun _ _ _ h k => h.keep k) rfl rfl rfl Try.call41 (fun w hS hR => k256_x _) (fun _ => rfl) fun gc => ?_
      try simp only [Act.put, List.setIfInBounds_toArray, List.set_cons_zero, List.set_cons_succ]
      refine lad_call rfl rfl rfl Try.call64 (fun w hS hR => sum_c (tmsT a ls) gc (some ⟨gT, 0, none⟩) n n _ hR.2 (by rw [tmsT_len]; exact HLS.out) HN.out (tms_rd (by have h := St.at hS 0 rfl; rw [HNL.out] at h; exact h))) (fun _ => rfl) ?_
      try simp only [Act.put, List.setIfInBounds_toArray, List.set_cons_zero, List.set_cons_succ]
      refine lad_end fun xq w2 st2 hR => ?_
      try dsimp only
      clear hR xq
      refine plan_m rfl rfl ?_
      refine wp_storeS st2 1 rfl rfl rfl rfl (by first | (simp only [cw_len]; done) | (simp only [List.length_append, cw_len, PT.len, tbL_len, ptL_len]; done)) (by first | (rw [cw_len]; kernel_rfl) | (simp only [PT.len]; kernel_rfl)) (PT.one _) ?_
      intro w3 st3
      try simp only [List.set_cons_zero, List.set_cons_succ] at st3
      clear st2
      try simp only [Act.put]
      refine plan_end ?_
      refine NoPanic.normal ?_
      have hr := st3.at 1 rfl
      have hfr := st3.fr
      clear st3
      go_wp2_with fail
      exact bodyPost_ret (results_st rfl rfl hr Try.underlying72 rfl (by first | (rw [cw_len]; kernel_rfl) | (simp only [PT.len]; kernel_rfl))) rfl ⟨rfl, hfr⟩
end Go.Proofs.Ytdbgddngapminaa

/- group: with, over Sum's closure. -/
namespace Go.Mv
open Go.RowKit
theorem Has.neT {w : World} {g g' : Nat} {L L' : List Value} {T T' : TypeId} (h : Has w g L T) (k : Has w g' L' T') (hT : T ≠ T') : g ≠ g' := by
  rintro rfl
  obtain ⟨_, _, h1, _⟩ := h
  obtain ⟨_, _, h2, _⟩ := k
  rw [h1] at h2
  simp only [Option.some.injEq, Obj.cells.injEq] at h2
  exact hT h2.2.1
end Go.Mv
namespace Go.Proofs.Ytdbgddngapminaa
open Go.RowKit Go.Mv Mvp Mvq
theorem Cv.keepT {w w' : World} {gc gT : Nat} {L : List Value} (h : Cv w gc) (hT : Has w gT L 98) (hf : Fr (One gT) w w') : Cv w' gc := by
  obtain ⟨gp, h1, h2⟩ := h
  exact ⟨gp, h1.keep hf (fun e => h1.neT hT (by decide) e), h2.keep hf (fun e => h2.neT hT (by decide) e)⟩
attribute [local irreducible] limbs lw mix cw cSub cAdd cMul foldC valFrom beN laid be32 powm montT mstep elN mdL numB rtN rtV rtOk gXn gYn PT.L addT dblT mulT tbL tmR tmL dbN innT outT sumT dig rdT rdOk rdPt ptL ptsL rdsB wrPt
set_option maxHeartbeats 8000000 in
set_option maxRecDepth 1000000 in
theorem with_sum_ok (gk : Nat) (al : Option Addr) (n cl : Nat) (vs : List Value) (ls : List (List UInt8)) (w : World) (hv : Rd w al n vs) (hp : BParts w vs ls) (hn : n ≤ 100000) (hg : rdsB ls = true) (gT : Nat) (LT : List Value) (hgt : Has w gT LT 98) (t : PT) (hop : ∀ ap cp wx, Fr Nob w wx → Off (One gT) ap → Rd wx ap (ls.length * 12) (ptsL ls) → Calls Try.prog 62 #[.slice ap ls.length cp, .pointer (some ⟨gk, 0, none⟩)] wx fun e w' => e = .returned (.agg t.L.toArray) ∧ Fr (One gT) wx w') :
    Calls Try.prog 43 #[.func (.func 62) #[] #[.pointer (some ⟨gk, 0, none⟩)], .slice al n cl] w fun e w' => ∃ sv, e = .returned (.tuple #[sv, .int .i64 0]) ∧ Own w' w.heap.size 5 1 sv 33 (bs (wrPt t.pt)) ∧ Fr (One gT) w w' := by
  have HV := Lib.hid hv
  have HP := Lib.hid hp
  have HL := Lib.hid (show ls.length = n by rw [← hp.1, hv.len])
  have HN := Lib.hid hn
  have hnI : (n : Int) ≤ 100000 := by omega
  clear hv hp
  have HOP := Lib.hid hop
  have HGA := Lib.hid hg
  have HGT := Lib.hid hgt
  clear hop hg hgt
  go_enter Try.func43, Try.ntmps43
  go_wp2
  go_loopw [6, 13] (fun v i wr => ∃ k : Nat, k ≤ n ∧ i = .int .i64 (k : Int) ∧ rdsB (ls.take k) = true ∧ Own wr w.heap.size 72 12 v k (ptsL (ls.take k)) ∧ Fr Nob w wr) (fun _ i _ => n - (intOf i).toNat)
  case atStart => exact ⟨0, Nat.zero_le _, rfl, by rw [List.take_zero]; unfold rdsB; rfl, by rw [List.take_zero]; unfold ptsL; exact Own.nil _ _ _ _, Fr.refl _ _⟩
  case round =>
    obtain ⟨k, hk, rfl, hgood, hown, hf⟩ := hrel
    by_cases hlt : k < n
    · have hltI : (k : Int) < (n : Int) := by omega
      obtain ⟨b, o, rfl, hat⟩ := (HV.out.still hf).at (by omega)
      have hvl : k < vs.length := by rw [HV.out.len]; exact hlt
      obtain ⟨a, nn, c, hve, hcc, hrd⟩ := HP.out.2 k (vs[k]'hvl) (List.getElem?_eq_getElem hvl)
      have hc1 := hat k _ (List.getElem?_eq_getElem hvl)
      rw [hve] at hc1
      have hlk : k < ls.length := by rw [HL.out]; exact hlt
      have hts := rdsB_take ls k hlk
      have hcs : ptsL (ls.take (k + 1)) = ptsL (ls.take k) ++ (rdT (ls.getD k [])).L := by
        rw [List.take_succ_eq_append_getElem hlk, ptsL_snoc]
        simp [List.getD_eq_getElem?_getD, hlk]
      have hbad := rdsB_bad ls k hlk
      generalize hL : ls.getD k [] = l at *
      have HLL := Lib.hid hL
      have HRD := Lib.hid (hrd.still hf)
      have HTS := Lib.hid hts
      have HCS := Lib.hid hcs
      have HBAD := Lib.hid hbad
      have HG := Lib.hid hgood
      have HOWN := Lib.hid hown
      have HF := Lib.hid hf
      have HCC := Lib.hid hcc
      clear hL hrd hts hcs hbad hgood hown hf hat hve hcc
      have st0 := St.start Nob wr
      have HK := Lib.hid (show rdOk l = true by
        cases hh : rdOk l
        · have := HBAD.out hh
          rw [HGA.out] at this
          cases this
        · rfl)
      skip
      go_wp2_with fail
      refine (k256_c _).mono ?_
      rintro e' w1 ⟨gc, rfl, hle, hcv, hf1⟩
      have st1 := st0.keep hf1
      have HCV := Lib.hid hcv
      clear hcv hle
      clear st0 hf1
      go_wp2_with fail
      refine (read_t l HK.out gc a nn c _ HCV.out (HRD.out.still st1.fr) HCC.out).mono ?_
      rintro e' w2 ⟨rfl, hf2⟩
      have st2 := st1.keep hf2
      clear st1 hf2
      go_wp2_with (with_reducible refine wl_stop (o := ⟨some 9, _, _, _, _, _⟩) ?_)
      refine wl_allocS st2 rfl rfl (z := .agg (List.replicate 12 (.int .u64 0)).toArray) (by kernel_rfl) (cw 12 0) (by rw [cw_zero]; rfl) ?_
      intro g9 w3 st3
      clear st2
      go_wp2_with (with_reducible refine wl_stop (o := ⟨none, _, _, _, _, _⟩) ?_)
      refine wl_storeS st3 0 rfl rfl rfl rfl rfl (by first | (simp only [cw_len]; done) | (simp only [List.length_append, cw_len, PT.len, ptL_len]; done)) (by first | (rw [cw_len]; kernel_rfl) | (simp only [PT.len]; kernel_rfl)) (PT.one _) ?_
      intro w4 st4
      clear st3
      have HFS := Lib.hid st4.fr
      go_wp2_with (with_reducible refine wl_stop (o := ⟨some 26, _, _, _, _, _⟩) ?_)
      refine wl_loadSt st4 0 rfl rfl rfl Try.underlying72 rfl rfl (by first | (rw [cw_len]; kernel_rfl) | (simp only [PT.len]; kernel_rfl)) ?_
      clear st4
      go_wp2_with (with_reducible refine wl_stop (o := ⟨some 27, _, _, _, _, _⟩) ?_)
      refine wl_slitR rfl rfl Try.underlying78 info_pt [.agg (rdT l).L.toArray] rfl (by simp [Value.cells, PT.len]) rfl ((rdT l).L) (by simp [Value.cells]) ?_
      intro wA hgA hfA hzA
      clear hzA
      have hfrA := HFS.out.then hfA
      have hsz := HF.out.size
      have hsz2 := hfrA.size
      have hownA := HOWN.out.still hfrA
      have hrdA : Rd wA (some ⟨w4.heap.size, 0, none⟩) (1 * 12) ((rdT l).L) := by
        have := Rd.whole hgA
        rwa [PT.len] at this
      have HRDA := Lib.hid hrdA
      have HOWNA := Lib.hid hownA
      have HFRA := Lib.hid hfrA
      clear hgA hfA hrdA hownA hfrA
      generalize w4.heap.size = gA at *
      go_wp2_with (with_reducible refine wl_stop (o := ⟨some 28, _, _, _, _, _⟩) ?_)
      refine wl_append rfl rfl Try.underlying78 info_pt rfl (by decide) HOWNA.out rfl rfl HRDA.out (PT.one _) (by unfold maxLen; omega) (by omega) (by omega) ?_
      intro vB wB hownB hfB hbB
      clear hbB
      have hfrB := HOWNA.out.fr (HF.out.then HFRA.out) (Nat.le_refl _) hfB
      have HFRB := Lib.hid hfrB
      rw [← HCS.out] at hownB
      have HOWNB := Lib.hid hownB
      clear hfrB hownB hfB
      go_wp2_with fail
      go_roundw
      case rel => exact ⟨k + 1, by omega, by go_num, by rw [HTS.out, HG.out, HK.out]; rfl, HOWNB.out, HFRB.out⟩
      case measure => simp [intOf]; omega

    · have hge : ¬ ((k : Int) < (n : Int)) := by omega
      have hkn : k = ls.length := by rw [HL.out]; omega
      rw [hkn, List.take_of_length_le (Nat.le_refl _)] at hgood hown
      obtain ⟨ap, cp, rfl, -, hre, hbase⟩ := hown.form
      have HOFF := Lib.hid (show Off (One gT) ap from fun x hx he => by have h1 := hbase x hx; have h2 := HGT.out.lt; have h3 : x.block = gT := he; omega)
      clear hbase
      have HRE := Lib.hid hre
      have HF := Lib.hid hf
      clear hkn hgood hown hf hre
      go_wp2_with fail
      refine (k256_c _).mono ?_
      rintro e w1 ⟨gc, rfl, hle, hcv, hf1⟩
      have HCV := Lib.hid hcv
      have HF1 := Lib.hid (HF.out.then hf1)
      have HRE1 := Lib.hid (HRE.out.still hf1)
      clear hle hcv hf1 HF HRE
      go_wp2_with fail
      refine (HOP.out ap cp _ HF1.out HOFF.out HRE1.out).mono ?_
      rintro e w2 ⟨rfl, hf2⟩
      have HCV2 := Lib.hid (HCV.out.keepT (HGT.out.keep HF1.out id) hf2)
      have HF2 := Lib.hid ((HF1.out.mono (fun _ _ t => t.elim)).trans hf2 (fun _ _ t => t))
      clear hf2 HF1 HRE1 HCV
      go_wp2_with fail
      refine (bytes_c t gc _ HCV2.out).mono ?_
      rintro e w3 ⟨sv, rfl, hown3, hf3⟩
      have h2 := HF2.out.same hf3
      have ho := hown3.mono HF2.out.size
      clear hown3 hf3 HF2 HCV2
      go_wp2_with fail
      go_ret2
      exact ⟨sv, rfl, ho, h2⟩

set_option maxHeartbeats 8000000 in
set_option maxRecDepth 1000000 in
theorem with_sum_bad (gk : Nat) (al : Option Addr) (n cl : Nat) (vs : List Value) (ls : List (List UInt8)) (w : World) (hv : Rd w al n vs) (hp : BParts w vs ls) (hn : n ≤ 100000) (hg : rdsB ls = false) :
    Calls Try.prog 43 #[.func (.func 62) #[] #[.pointer (some ⟨gk, 0, none⟩)], .slice al n cl] w fun e w' => e = .returned (.tuple #[.slice none 0 0, .int .i64 4]) ∧ Fr Nob w w' := by
  have HV := Lib.hid hv
  have HP := Lib.hid hp
  have HL := Lib.hid (show ls.length = n by rw [← hp.1, hv.len])
  have HN := Lib.hid hn
  have hnI : (n : Int) ≤ 100000 := by omega
  clear hv hp
  have HGA := Lib.hid hg
  clear hg
  go_enter Try.func43, Try.ntmps43
  go_wp2
  go_loopw [6, 13] (fun v i wr => ∃ k : Nat, k ≤ n ∧ i = .int .i64 (k : Int) ∧ rdsB (ls.take k) = true ∧ Own wr w.heap.size 72 12 v k (ptsL (ls.take k)) ∧ Fr Nob w wr) (fun _ i _ => n - (intOf i).toNat)
  case atStart => exact ⟨0, Nat.zero_le _, rfl, by rw [List.take_zero]; unfold rdsB; rfl, by rw [List.take_zero]; unfold ptsL; exact Own.nil _ _ _ _, Fr.refl _ _⟩
  case round =>
    obtain ⟨k, hk, rfl, hgood, hown, hf⟩ := hrel
    by_cases hlt : k < n
    · have hltI : (k : Int) < (n : Int) := by omega
      obtain ⟨b, o, rfl, hat⟩ := (HV.out.still hf).at (by omega)
      have hvl : k < vs.length := by rw [HV.out.len]; exact hlt
      obtain ⟨a, nn, c, hve, hcc, hrd⟩ := HP.out.2 k (vs[k]'hvl) (List.getElem?_eq_getElem hvl)
      have hc1 := hat k _ (List.getElem?_eq_getElem hvl)
      rw [hve] at hc1
      have hlk : k < ls.length := by rw [HL.out]; exact hlt
      have hts := rdsB_take ls k hlk
      have hcs : ptsL (ls.take (k + 1)) = ptsL (ls.take k) ++ (rdT (ls.getD k [])).L := by
        rw [List.take_succ_eq_append_getElem hlk, ptsL_snoc]
        simp [List.getD_eq_getElem?_getD, hlk]
      have hbad := rdsB_bad ls k hlk
      generalize hL : ls.getD k [] = l at *
      have HLL := Lib.hid hL
      have HRD := Lib.hid (hrd.still hf)
      have HTS := Lib.hid hts
      have HCS := Lib.hid hcs
      have HBAD := Lib.hid hbad
      have HG := Lib.hid hgood
      have HOWN := Lib.hid hown
      have HF := Lib.hid hf
      have HCC := Lib.hid hcc
      clear hL hrd hts hcs hbad hgood hown hf hat hve hcc
      have st0 := St.start Nob wr
      rcases Bool.eq_false_or_eq_true (rdOk l) with hh | hh
      · have HK := Lib.hid hh
        clear hh
        skip
        go_wp2_with fail
        refine (k256_c _).mono ?_
        rintro e' w1 ⟨gc, rfl, hle, hcv, hf1⟩
        have st1 := st0.keep hf1
        have HCV := Lib.hid hcv
        clear hcv hle
        clear st0 hf1
        go_wp2_with fail
        refine (read_t l HK.out gc a nn c _ HCV.out (HRD.out.still st1.fr) HCC.out).mono ?_
        rintro e' w2 ⟨rfl, hf2⟩
        have st2 := st1.keep hf2
        clear st1 hf2
        go_wp2_with (with_reducible refine wl_stop (o := ⟨some 9, _, _, _, _, _⟩) ?_)
        refine wl_allocS st2 rfl rfl (z := .agg (List.replicate 12 (.int .u64 0)).toArray) (by kernel_rfl) (cw 12 0) (by rw [cw_zero]; rfl) ?_
        intro g9 w3 st3
        clear st2
        go_wp2_with (with_reducible refine wl_stop (o := ⟨none, _, _, _, _, _⟩) ?_)
        refine wl_storeS st3 0 rfl rfl rfl rfl rfl (by first | (simp only [cw_len]; done) | (simp only [List.length_append, cw_len, PT.len, ptL_len]; done)) (by first | (rw [cw_len]; kernel_rfl) | (simp only [PT.len]; kernel_rfl)) (PT.one _) ?_
        intro w4 st4
        clear st3
        have HFS := Lib.hid st4.fr
        go_wp2_with (with_reducible refine wl_stop (o := ⟨some 26, _, _, _, _, _⟩) ?_)
        refine wl_loadSt st4 0 rfl rfl rfl Try.underlying72 rfl rfl (by first | (rw [cw_len]; kernel_rfl) | (simp only [PT.len]; kernel_rfl)) ?_
        clear st4
        go_wp2_with (with_reducible refine wl_stop (o := ⟨some 27, _, _, _, _, _⟩) ?_)
        refine wl_slitR rfl rfl Try.underlying78 info_pt [.agg (rdT l).L.toArray] rfl (by simp [Value.cells, PT.len]) rfl ((rdT l).L) (by simp [Value.cells]) ?_
        intro wA hgA hfA hzA
        clear hzA
        have hfrA := HFS.out.then hfA
        have hsz := HF.out.size
        have hsz2 := hfrA.size
        have hownA := HOWN.out.still hfrA
        have hrdA : Rd wA (some ⟨w4.heap.size, 0, none⟩) (1 * 12) ((rdT l).L) := by
          have := Rd.whole hgA
          rwa [PT.len] at this
        have HRDA := Lib.hid hrdA
        have HOWNA := Lib.hid hownA
        have HFRA := Lib.hid hfrA
        clear hgA hfA hrdA hownA hfrA
        generalize w4.heap.size = gA at *
        go_wp2_with (with_reducible refine wl_stop (o := ⟨some 28, _, _, _, _, _⟩) ?_)
        refine wl_append rfl rfl Try.underlying78 info_pt rfl (by decide) HOWNA.out rfl rfl HRDA.out (PT.one _) (by unfold maxLen; omega) (by omega) (by omega) ?_
        intro vB wB hownB hfB hbB
        clear hbB
        have hfrB := HOWNA.out.fr (HF.out.then HFRA.out) (Nat.le_refl _) hfB
        have HFRB := Lib.hid hfrB
        rw [← HCS.out] at hownB
        have HOWNB := Lib.hid hownB
        clear hfrB hownB hfB
        go_wp2_with fail
        go_roundw
        case rel => exact ⟨k + 1, by omega, by go_num, by rw [HTS.out, HG.out, HK.out]; rfl, HOWNB.out, HFRB.out⟩
        case measure => simp [intOf]; omega
      · have HK := Lib.hid hh
        clear hh
        skip
        go_wp2_with fail
        refine (k256_c _).mono ?_
        rintro e' w1 ⟨gc, rfl, hle, hcv, hf1⟩
        have st1 := st0.keep hf1
        have HCV := Lib.hid hcv
        clear hcv hle
        clear st0 hf1
        go_wp2_with fail
        refine (read_f l HK.out gc a nn c _ HCV.out (HRD.out.still st1.fr) HCC.out).mono ?_
        rintro e' w2 ⟨⟨X, Y, Z, rfl⟩, hf2⟩
        have st2 := st1.keep hf2
        clear st1 hf2
        go_wp2_with (with_reducible refine wl_stop (o := ⟨some 9, _, _, _, _, _⟩) ?_)
        refine wl_allocS st2 rfl rfl (z := .agg (List.replicate 12 (.int .u64 0)).toArray) (by kernel_rfl) (cw 12 0) (by rw [cw_zero]; rfl) ?_
        intro g9 w3 st3
        clear st2
        go_wp2_with (with_reducible refine wl_stop (o := ⟨none, _, _, _, _, _⟩) ?_)
        refine wl_storeS st3 0 rfl rfl rfl rfl rfl (by first | (simp only [cw_len]; done) | (simp only [List.length_append, cw_len, PT.len, ptL_len]; done)) (by first | (rw [cw_len]; kernel_rfl) | (simp only [ptL_len]; kernel_rfl)) (ptL_one _ _ _ _) ?_
        intro w4 st4
        clear st3
        have HFS := Lib.hid (HF.out.then st4.fr)
        clear st4
        go_wp2_with fail
        go_ret2
        exact ⟨rfl, HFS.out⟩
    · exfalso
      have hkn : k = ls.length := by rw [HL.out]; omega
      rw [hkn, List.take_of_length_le (Nat.le_refl _), HGA.out] at hgood
      cases hgood
end Go.Proofs.Ytdbgddngapminaa
