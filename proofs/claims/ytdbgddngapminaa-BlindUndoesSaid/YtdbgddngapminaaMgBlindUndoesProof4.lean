/- mont: Sqrt; num.Sqrt's operation; zn: Zero, Small, Bytes; scalars compared; group: none, nothing, opposite; Two blocks that were made in the other order; A region that draws its order, told as a chain of steps beside fresh blocks (allocs) that may be made at any time between their opening and their joint: each step is shown once; group: double; num.Add, Sub, Mul, Inv: what they answer; num.Sqrt: what it answers; group: at. -/
import Derived.Test.YtdbgddngapminaaMgBlindUndoesProof3
import Derived.Test.YtdbgddngapminaaMgBlindUndoesProof1
import Derived.Test.YtdbgddngapminaaMgBlindUndoesProof2
namespace Mvp
/-- the number whose square is asked for -/
def rtN (M x : Nat) : Nat := x ^ (M / 4 + 1)
def rtOk (M x : Nat) : Bool := rtN M x * rtN M x % M == x % M
def rtV (M x : Nat) : Nat := if rtN M x % M % 2 = 1 then M - rtN M x % M else rtN M x
end Mvp
namespace Go.Proofs.Ytdbgddngapminaa
open Go.RowKit Go.Mv Mvp
theorem el_eq (m : Md) (h : m.Ok) (x y : Nat) (ty : TypeId) (hu : Try.prog.underlying ty = some (.array 4 22)) (w : World) :
    (Op.equal ty (i4 (elN m x)) (.agg (cw 4 (elN m y)).toArray)).run Try.prog w = .ok (x % m.M == y % m.M) w := by
  have hb : decide (elN m x % B64 ^ 4 = elN m y % B64 ^ 4) = (x % m.M == y % m.M) := by
    rw [Nat.mod_eq_of_lt (el_lt4 m h x), Nat.mod_eq_of_lt (el_lt4 m h y), Bool.eq_iff_iff]
    simp only [decide_eq_true_eq, beq_iff_eq]
    exact ⟨el_inj m h, el_congr m⟩
  rw [← hb]
  exact run_eq4 hu Try.underlying22 size_u64 _ _ w
theorem eq_guard (x y : Nat) (ty : TypeId) (hg : Try.prog.eqGuardType Try.prog.depth ty = false) (a b : Operand) (w : World) :
    (eqGuard .neq ty a b (i4 x) (.agg (cw 4 y).toArray)).run Try.prog w = .ok () w := run_eqGuard_agg w .neq ty a b _ _ hg
theorem el_neq (m : Md) (h : m.Ok) (x y : Nat) (ty : TypeId) (hu : Try.prog.underlying ty = some (.array 4 22)) (w : World) :
    (binOp .neq ty (i4 (elN m x)) (.agg (cw 4 (elN m y)).toArray)).run Try.prog w = .ok (.bool !(x % m.M == y % m.M)) w := by
  show (do pure (Value.bool (!(← Op.equal ty (i4 (elN m x)) (.agg (cw 4 (elN m y)).toArray))))).run Try.prog w = _
  simp only [Sem.run_bind, el_eq m h x y ty hu, Result.andThen_ok]
  rfl
theorem wp_elneq (m : Md) (h : m.Ok) (x y : Nat) (ty : TypeId) (hu : Try.prog.underlying ty = some (.array 4 22)) (hg : Try.prog.eqGuardType Try.prog.depth ty = false) {o : Oper} {a : Act} {w : World} {K : Act → World → Prop} {Q : Exit → Act → World → Prop} {p q : Operand} {T : TypeId}
    (ho : o.op = .binOp .neq ty p q T) (hp : a.eval p = i4 (elN m x)) (hq : a.eval q = .agg (cw 4 (elN m y)).toArray) {b : Bool} (hb : (x % m.M == y % m.M) = b) (hk : K (a.put o.dst (.bool !b)) w) : o.wp Try.prog a w K Q := by
  have h1 := eq_guard (elN m x) (elN m y) ty hg p q w
  have h2 := el_neq m h x y ty hu w
  rw [hb] at h2
  unfold Oper.wp execOp
  simp only [ho, hp, hq, Sem.run_bind, h1, h2, Result.andThen_ok, Sem.run_pure]
  exact hk
theorem low_word (v : Nat) (w : World) : (Instr.index 82 (i4 v) (.int .i64 0)).run Try.prog w = .ok (.int .u64 (lw v 0 : Nat)) w :=
  run_index_cw (P := Try.prog) Try.underlying82 Try.underlying22 size_u64 v 0 (by decide) .i64 w
theorem low_and (v : Nat) : bits .and .u64 (lw v 0 : Nat) 1 = ((v % 2 : Nat) : Int) := by
  have ha := bits_and_u64_nat (lw v 0) 1 (lw_lt _ _) (by omega)
  rw [Nat.and_one_is_mod, word0] at ha
  rw [word0]
  refine Eq.trans ha ?_
  congr 1
  omega
attribute [local irreducible] limbs lw mix cw cSub cAdd cMul foldC valFrom beN laid be32 powm montT mstep elN
set_option maxHeartbeats 8000000 in
set_option maxRecDepth 100000 in
theorem MSqrt_none (m : Md) (gp : Nat) (w : World) (hok : m.Ok) (hpm : Has w gp (mdL m) 134) (x n : Nat) (hn : m.M / 4 + 1 = n) (hr : ((x ^ n) * (x ^ n) % m.M == x % m.M) = false) :
    Calls Try.prog 115 #[.pointer (some ⟨gp, 0, none⟩), i4 (elN m x)] w fun e w' => e = .returned (.tuple #[i4 0, .bool false]) ∧ Fr Nob w w' := by
  have HOK := Lib.hid hok
  have HPM := Lib.hid hpm
  clear hok hpm
  have HE4 := Lib.hid (show n < B64 ^ 4 by subst hn; have := HOK.out.lt; have := HOK.out.one; omega)
  have h1p := fun wx => plus_any (m.M / 4) 1 wx
  rw [← small_words 1 (by decide), hn] at h1p
  clear hn
  have H1P := Lib.hid h1p
  clear h1p
  have HR := Lib.hid hr
  clear hr
  have st0 := St.start Nob w
  go_enter Try.func115, Try.ntmps115
  go_wp2_with (with_reducible refine wl_stop (o := ⟨some 3, _, _, _, _, _⟩) ?_)
  refine wl_boxS st0 rfl rfl rfl (cw 4 (elN m x)) rfl ?_
  intro g3 w1 st1
  clear st0
  go_wp2_with (with_reducible refine wl_stop (o := ⟨some 4, _, _, _, _, _⟩) ?_)
  refine wl_allocS st1 rfl rfl (z := .agg #[.int .u64 0, .int .u64 0, .int .u64 0, .int .u64 0]) (by kernel_rfl) (cw 4 0) (by rw [cw_zero]; rfl) ?_
  intro g4 w2 st2
  clear st1
  go_wp2_with (with_reducible refine wl_stop (o := ⟨some 13, _, _, _, _, _⟩) ?_)
  refine wl_loadA rfl rfl Try.underlying82 rfl (HPM.out.keep st2.fr id) (cw 4 m.M) (md_M m) (by first | (rw [cw_len]; kernel_rfl) | (simp only [List.length_append, cw_len]; kernel_rfl)) ?_
  go_wp2_with fail
  refine (Shift_any m.M _ HOK.out.lt).mono ?_
  rintro e' w3 ⟨rfl, hf3⟩
  have st3 := st2.keep hf3
  clear st2 hf3
  go_wp2_with fail
  refine (H1P.out _).mono ?_
  rintro e' w4 ⟨rfl, hf4⟩
  have st4 := st3.keep hf4
  clear st3 hf4
  go_wp2_with (with_reducible refine wl_stop (o := ⟨some 6, _, _, _, _, _⟩) ?_)
  refine wl_allocS st4 rfl rfl (z := .agg #[.int .u64 0, .int .u64 0, .int .u64 0, .int .u64 0]) (by kernel_rfl) (cw 4 0) (by rw [cw_zero]; rfl) ?_
  intro g6 w5 st5
  clear st4
  go_wp2_with (with_reducible refine wl_stop (o := ⟨none, _, _, _, _, _⟩) ?_)
  refine wl_storeS st5 2 rfl rfl rfl rfl rfl (by first | (simp only [cw_len]; done) | (simp only [List.length_append, cw_len]; done)) (by first | (rw [cw_len]; kernel_rfl) | (simp only [List.length_append, cw_len]; kernel_rfl)) (cw_one _ _) ?_
  intro w6 st6
  clear st5
  go_wp2_with (with_reducible refine wl_stop (o := ⟨some 20, _, _, _, _, _⟩) ?_)
  refine wl_loadS st6 0 rfl rfl rfl Try.underlying70 rfl (by first | (rw [cw_len]; kernel_rfl) | (simp only [List.length_append, cw_len]; kernel_rfl)) ?_
  go_wp2_with (with_reducible refine wl_stop (o := ⟨some 21, _, _, _, _, _⟩) ?_)
  refine wl_loadS st6 2 rfl rfl rfl Try.underlying82 rfl (by first | (rw [cw_len]; kernel_rfl) | (simp only [List.length_append, cw_len]; kernel_rfl)) ?_
  go_wp2_with fail
  refine (MPow_any m gp _ HOK.out (HPM.out.keep st6.fr id) x n HE4.out).mono ?_
  rintro e' w7 ⟨rfl, hf7⟩
  have st7 := st6.keep hf7
  clear st6 hf7
  go_wp2_with (with_reducible refine wl_stop (o := ⟨some 8, _, _, _, _, _⟩) ?_)
  refine wl_allocS st7 rfl rfl (z := .agg #[.int .u64 0, .int .u64 0, .int .u64 0, .int .u64 0]) (by kernel_rfl) (cw 4 0) (by rw [cw_zero]; rfl) ?_
  intro g8 w8 st8
  clear st7
  go_wp2_with (with_reducible refine wl_stop (o := ⟨none, _, _, _, _, _⟩) ?_)
  refine wl_storeS st8 3 rfl rfl rfl rfl rfl (by first | (simp only [cw_len]; done) | (simp only [List.length_append, cw_len]; done)) (by first | (rw [cw_len]; kernel_rfl) | (simp only [List.length_append, cw_len]; kernel_rfl)) (cw_one _ _) ?_
  intro w9 st9
  clear st8
  go_wp2_with fail
  refine wp_region_noPanic ?_
  refine wp_region_plan (fun wx => St Nob w wx [(g3, cw 4 (elN m x), 70), (g4, cw 4 0, 70), (g6, cw 4 n, 82), (g8, cw 4 (elN m (x ^ n)), 70)]) 4 (.w 0 (.t 1 (.t 3 (.r 2 (.m 4 .nil))))) (by kernel_rfl) (by kernel_rfl) st9.drew (fun _ _ _ _ _ h => h) ?_
  have hd9 := st9.drew
  clear st9
  refine plan_w (v := ?_) rfl rfl (fun wx => ?_) ?_
  rotate_left 1
  · (go_simp; with_reducible rfl)
  try simp only [Act.put, List.setIfInBounds_toArray, List.set_cons_zero, List.set_cons_succ]
  refine plan_arr rfl rfl rfl rfl (cw 4 (elN m (x ^ n))) (fun wx hS => St.rangeL hS 3 rfl 0 _ (by rw [List.drop_zero, List.take_of_length_le (Nat.le_refl _)])) Try.underlying70 rfl (by first | (rw [cw_len]; kernel_rfl) | (simp only [List.length_append, cw_len]; kernel_rfl)) ?_
  try simp only [Act.put, List.setIfInBounds_toArray, List.set_cons_zero, List.set_cons_succ]
  refine plan_arr rfl rfl rfl rfl (cw 4 (elN m x)) (fun wx hS => St.rangeL hS 0 rfl 0 _ (by rw [List.drop_zero, List.take_of_length_le (Nat.le_refl _)])) Try.underlying70 rfl (by first | (rw [cw_len]; kernel_rfl) | (simp only [List.length_append, cw_len]; kernel_rfl)) ?_
  try simp only [Act.put, List.setIfInBounds_toArray, List.set_cons_zero, List.set_cons_succ]
  refine plan_r rfl rfl ?_
  go_simp
  refine (MSquare_any m gp _ HOK.out (HPM.out.keep hd9.fr id) (x ^ n)).mono ?_
  rintro e' w10 ⟨rfl, hf10⟩
  have st10 := hd9.keep hf10
  clear hf10
  clear hd9
  refine ⟨st10, ?_⟩
  try simp only [Act.put, List.setIfInBounds_toArray, List.set_cons_zero, List.set_cons_succ]
  refine plan_m rfl rfl ?_
  refine wp_elneq m HOK.out ((x ^ n) * (x ^ n)) x 70 Try.underlying70 Try.eqGuardType70 rfl rfl rfl HR.out ?_
  try simp only [Act.put, List.setIfInBounds_toArray, List.set_cons_zero, List.set_cons_succ]
  refine plan_end ?_
  refine NoPanic.normal ?_
  go_wp2_with (with_reducible refine wl_stop (o := ⟨none, _, _, _, _, _⟩) ?_)
  refine wl_storeS st10 1 rfl rfl rfl rfl (cs := cw 4 0) (by rw [cw_zero]; rfl) (by first | (simp only [cw_len]; done) | (simp only [List.length_append, cw_len]; done)) (by first | (rw [cw_len]; kernel_rfl) | (simp only [List.length_append, cw_len]; kernel_rfl)) (cw_one _ _) ?_
  intro w11 st11
  clear st10
  have hr := st11.at 1 rfl
  have hfr := st11.fr
  clear st11
  go_wp2_with fail
  exact bodyPost_ret (results_arr2 rfl rfl hr Try.underlying70 (by first | (rw [cw_len]; kernel_rfl) | (simp only [List.length_append, cw_len]; kernel_rfl)) rfl) rfl ⟨rfl, hfr⟩

set_option maxHeartbeats 8000000 in
set_option maxRecDepth 100000 in
theorem MSqrt_even (m : Md) (gp : Nat) (w : World) (hok : m.Ok) (hpm : Has w gp (mdL m) 134) (x n : Nat) (hn : m.M / 4 + 1 = n) (hr : ((x ^ n) * (x ^ n) % m.M == x % m.M) = true) (hb : (x ^ n) % m.M % 2 = 0) :
    Calls Try.prog 115 #[.pointer (some ⟨gp, 0, none⟩), i4 (elN m x)] w fun e w' => e = .returned (.tuple #[i4 (elN m (x ^ n)), .bool true]) ∧ Fr Nob w w' := by
  have HOK := Lib.hid hok
  have HPM := Lib.hid hpm
  clear hok hpm
  have HB := Lib.hid hb
  have HE4 := Lib.hid (show n < B64 ^ 4 by subst hn; have := HOK.out.lt; have := HOK.out.one; omega)
  have h1p := fun wx => plus_any (m.M / 4) 1 wx
  rw [← small_words 1 (by decide), hn] at h1p
  clear hn
  have H1P := Lib.hid h1p
  clear h1p
  have HR := Lib.hid hr
  clear hr
  clear hb
  have st0 := St.start Nob w
  go_enter Try.func115, Try.ntmps115
  go_wp2_with (with_reducible refine wl_stop (o := ⟨some 3, _, _, _, _, _⟩) ?_)
  refine wl_boxS st0 rfl rfl rfl (cw 4 (elN m x)) rfl ?_
  intro g3 w1 st1
  clear st0
  go_wp2_with (with_reducible refine wl_stop (o := ⟨some 4, _, _, _, _, _⟩) ?_)
  refine wl_allocS st1 rfl rfl (z := .agg #[.int .u64 0, .int .u64 0, .int .u64 0, .int .u64 0]) (by kernel_rfl) (cw 4 0) (by rw [cw_zero]; rfl) ?_
  intro g4 w2 st2
  clear st1
  go_wp2_with (with_reducible refine wl_stop (o := ⟨some 13, _, _, _, _, _⟩) ?_)
  refine wl_loadA rfl rfl Try.underlying82 rfl (HPM.out.keep st2.fr id) (cw 4 m.M) (md_M m) (by first | (rw [cw_len]; kernel_rfl) | (simp only [List.length_append, cw_len]; kernel_rfl)) ?_
  go_wp2_with fail
  refine (Shift_any m.M _ HOK.out.lt).mono ?_
  rintro e' w3 ⟨rfl, hf3⟩
  have st3 := st2.keep hf3
  clear st2 hf3
  go_wp2_with fail
  refine (H1P.out _).mono ?_
  rintro e' w4 ⟨rfl, hf4⟩
  have st4 := st3.keep hf4
  clear st3 hf4
  go_wp2_with (with_reducible refine wl_stop (o := ⟨some 6, _, _, _, _, _⟩) ?_)
  refine wl_allocS st4 rfl rfl (z := .agg #[.int .u64 0, .int .u64 0, .int .u64 0, .int .u64 0]) (by kernel_rfl) (cw 4 0) (by rw [cw_zero]; rfl) ?_
  intro g6 w5 st5
  clear st4
  go_wp2_with (with_reducible refine wl_stop (o := ⟨none, _, _, _, _, _⟩) ?_)
  refine wl_storeS st5 2 rfl rfl rfl rfl rfl (by first | (simp only [cw_len]; done) | (simp only [List.length_append, cw_len]; done)) (by first | (rw [cw_len]; kernel_rfl) | (simp only [List.length_append, cw_len]; kernel_rfl)) (cw_one _ _) ?_
  intro w6 st6
  clear st5
  go_wp2_with (with_reducible refine wl_stop (o := ⟨some 20, _, _, _, _, _⟩) ?_)
  refine wl_loadS st6 0 rfl rfl rfl Try.underlying70 rfl (by first | (rw [cw_len]; kernel_rfl) | (simp only [List.length_append, cw_len]; kernel_rfl)) ?_
  go_wp2_with (with_reducible refine wl_stop (o := ⟨some 21, _, _, _, _, _⟩) ?_)
  refine wl_loadS st6 2 rfl rfl rfl Try.underlying82 rfl (by first | (rw [cw_len]; kernel_rfl) | (simp only [List.length_append, cw_len]; kernel_rfl)) ?_
  go_wp2_with fail
  refine (MPow_any m gp _ HOK.out (HPM.out.keep st6.fr id) x n HE4.out).mono ?_
  rintro e' w7 ⟨rfl, hf7⟩
  have st7 := st6.keep hf7
  clear st6 hf7
  go_wp2_with (with_reducible refine wl_stop (o := ⟨some 8, _, _, _, _, _⟩) ?_)
  refine wl_allocS st7 rfl rfl (z := .agg #[.int .u64 0, .int .u64 0, .int .u64 0, .int .u64 0]) (by kernel_rfl) (cw 4 0) (by rw [cw_zero]; rfl) ?_
  intro g8 w8 st8
  clear st7
  go_wp2_with (with_reducible refine wl_stop (o := ⟨none, _, _, _, _, _⟩) ?_)
  refine wl_storeS st8 3 rfl rfl rfl rfl rfl (by first | (simp only [cw_len]; done) | (simp only [List.length_append, cw_len]; done)) (by first | (rw [cw_len]; kernel_rfl) | (simp only [List.length_append, cw_len]; kernel_rfl)) (cw_one _ _) ?_
  intro w9 st9
  clear st8
  go_wp2_with fail
  refine wp_region_noPanic ?_
  refine wp_region_plan (fun wx => St Nob w wx [(g3, cw 4 (elN m x), 70), (g4, cw 4 0, 70), (g6, cw 4 n, 82), (g8, cw 4 (elN m (x ^ n)), 70)]) 4 (.w 0 (.t 1 (.t 3 (.r 2 (.m 4 .nil))))) (by kernel_rfl) (by kernel_rfl) st9.drew (fun _ _ _ _ _ h => h) ?_
  have hd9 := st9.drew
  clear st9
  refine plan_w (v := ?_) rfl rfl (fun wx => ?_) ?_
  rotate_left 1
  · (go_simp; with_reducible rfl)
  try simp only [Act.put, List.setIfInBounds_toArray, List.set_cons_zero, List.set_cons_succ]
  refine plan_arr rfl rfl rfl rfl (cw 4 (elN m (x ^ n))) (fun wx hS => St.rangeL hS 3 rfl 0 _ (by rw [List.drop_zero, List.take_of_length_le (Nat.le_refl _)])) Try.underlying70 rfl (by first | (rw [cw_len]; kernel_rfl) | (simp only [List.length_append, cw_len]; kernel_rfl)) ?_
  try simp only [Act.put, List.setIfInBounds_toArray, List.set_cons_zero, List.set_cons_succ]
  refine plan_arr rfl rfl rfl rfl (cw 4 (elN m x)) (fun wx hS => St.rangeL hS 0 rfl 0 _ (by rw [List.drop_zero, List.take_of_length_le (Nat.le_refl _)])) Try.underlying70 rfl (by first | (rw [cw_len]; kernel_rfl) | (simp only [List.length_append, cw_len]; kernel_rfl)) ?_
  try simp only [Act.put, List.setIfInBounds_toArray, List.set_cons_zero, List.set_cons_succ]
  refine plan_r rfl rfl ?_
  go_simp
  refine (MSquare_any m gp _ HOK.out (HPM.out.keep hd9.fr id) (x ^ n)).mono ?_
  rintro e' w10 ⟨rfl, hf10⟩
  have st10 := hd9.keep hf10
  clear hf10
  clear hd9
  refine ⟨st10, ?_⟩
  try simp only [Act.put, List.setIfInBounds_toArray, List.set_cons_zero, List.set_cons_succ]
  refine plan_m rfl rfl ?_
  refine wp_elneq m HOK.out ((x ^ n) * (x ^ n)) x 70 Try.underlying70 Try.eqGuardType70 rfl rfl rfl HR.out ?_
  try simp only [Act.put, List.setIfInBounds_toArray, List.set_cons_zero, List.set_cons_succ]
  refine plan_end ?_
  refine NoPanic.normal ?_
  have hix := fun wx => low_word ((x ^ n) % m.M) wx
  have hla := low_and ((x ^ n) % m.M)
  rw [HB.out] at hla
  go_wp2_with (with_reducible refine wl_stop (o := ⟨some 30, _, _, _, _, _⟩) ?_)
  refine wl_loadS st10 3 rfl rfl rfl Try.underlying70 rfl (by first | (rw [cw_len]; kernel_rfl) | (simp only [List.length_append, cw_len]; kernel_rfl)) ?_
  go_wp2_with fail
  refine (MFrom_any m gp _ HOK.out (HPM.out.keep st10.fr id) (x ^ n)).mono ?_
  rintro e' w11 ⟨rfl, hf11⟩
  have st11 := st10.keep hf11
  clear st10 hf11
  go_wp2_with (with_reducible refine wl_stop (o := ⟨some 38, _, _, _, _, _⟩) ?_)
  refine wl_loadS st11 3 rfl rfl rfl Try.underlying70 rfl (by first | (rw [cw_len]; kernel_rfl) | (simp only [List.length_append, cw_len]; kernel_rfl)) ?_
  go_wp2_with (with_reducible refine wl_stop (o := ⟨none, _, _, _, _, _⟩) ?_)
  refine wl_storeS st11 1 rfl rfl rfl rfl rfl (by first | (simp only [cw_len]; done) | (simp only [List.length_append, cw_len]; done)) (by first | (rw [cw_len]; kernel_rfl) | (simp only [List.length_append, cw_len]; kernel_rfl)) (cw_one _ _) ?_
  intro w12 st12
  clear st11
  have hr := st12.at 1 rfl
  have hfr := st12.fr
  clear st12
  go_wp2_with fail
  exact bodyPost_ret (results_arr2 rfl rfl hr Try.underlying70 (by first | (rw [cw_len]; kernel_rfl) | (simp only [List.length_append, cw_len]; kernel_rfl)) rfl) rfl ⟨rfl, hfr⟩

set_option maxHeartbeats 8000000 in
set_option maxRecDepth 100000 in
theorem MSqrt_odd (m : Md) (gp : Nat) (w : World) (hok : m.Ok) (hpm : Has w gp (mdL m) 134) (x n : Nat) (hn : m.M / 4 + 1 = n) (hr : ((x ^ n) * (x ^ n) % m.M == x % m.M) = true) (hb : (x ^ n) % m.M % 2 = 1) :
    Calls Try.prog 115 #[.pointer (some ⟨gp, 0, none⟩), i4 (elN m x)] w fun e w' => e = .returned (.tuple #[i4 (elN m (m.M - (x ^ n) % m.M)), .bool true]) ∧ Fr Nob w w' := by
  have HOK := Lib.hid hok
  have HPM := Lib.hid hpm
  clear hok hpm
  have HB := Lib.hid hb
  have HE4 := Lib.hid (show n < B64 ^ 4 by subst hn; have := HOK.out.lt; have := HOK.out.one; omega)
  have h1p := fun wx => plus_any (m.M / 4) 1 wx
  rw [← small_words 1 (by decide), hn] at h1p
  clear hn
  have H1P := Lib.hid h1p
  clear h1p
  have HR := Lib.hid hr
  clear hr
  clear hb
  have st0 := St.start Nob w
  go_enter Try.func115, Try.ntmps115
  go_wp2_with (with_reducible refine wl_stop (o := ⟨some 3, _, _, _, _, _⟩) ?_)
  refine wl_boxS st0 rfl rfl rfl (cw 4 (elN m x)) rfl ?_
  intro g3 w1 st1
  clear st0
  go_wp2_with (with_reducible refine wl_stop (o := ⟨some 4, _, _, _, _, _⟩) ?_)
  refine wl_allocS st1 rfl rfl (z := .agg #[.int .u64 0, .int .u64 0, .int .u64 0, .int .u64 0]) (by kernel_rfl) (cw 4 0) (by rw [cw_zero]; rfl) ?_
  intro g4 w2 st2
  clear st1
  go_wp2_with (with_reducible refine wl_stop (o := ⟨some 13, _, _, _, _, _⟩) ?_)
  refine wl_loadA rfl rfl Try.underlying82 rfl (HPM.out.keep st2.fr id) (cw 4 m.M) (md_M m) (by first | (rw [cw_len]; kernel_rfl) | (simp only [List.length_append, cw_len]; kernel_rfl)) ?_
  go_wp2_with fail
  refine (Shift_any m.M _ HOK.out.lt).mono ?_
  rintro e' w3 ⟨rfl, hf3⟩
  have st3 := st2.keep hf3
  clear st2 hf3
  go_wp2_with fail
  refine (H1P.out _).mono ?_
  rintro e' w4 ⟨rfl, hf4⟩
  have st4 := st3.keep hf4
  clear st3 hf4
  go_wp2_with (with_reducible refine wl_stop (o := ⟨some 6, _, _, _, _, _⟩) ?_)
  refine wl_allocS st4 rfl rfl (z := .agg #[.int .u64 0, .int .u64 0, .int .u64 0, .int .u64 0]) (by kernel_rfl) (cw 4 0) (by rw [cw_zero]; rfl) ?_
  intro g6 w5 st5
  clear st4
  go_wp2_with (with_reducible refine wl_stop (o := ⟨none, _, _, _, _, _⟩) ?_)
  refine wl_storeS st5 2 rfl rfl rfl rfl rfl (by first | (simp only [cw_len]; done) | (simp only [List.length_append, cw_len]; done)) (by first | (rw [cw_len]; kernel_rfl) | (simp only [List.length_append, cw_len]; kernel_rfl)) (cw_one _ _) ?_
  intro w6 st6
  clear st5
  go_wp2_with (with_reducible refine wl_stop (o := ⟨some 20, _, _, _, _, _⟩) ?_)
  refine wl_loadS st6 0 rfl rfl rfl Try.underlying70 rfl (by first | (rw [cw_len]; kernel_rfl) | (simp only [List.length_append, cw_len]; kernel_rfl)) ?_
  go_wp2_with (with_reducible refine wl_stop (o := ⟨some 21, _, _, _, _, _⟩) ?_)
  refine wl_loadS st6 2 rfl rfl rfl Try.underlying82 rfl (by first | (rw [cw_len]; kernel_rfl) | (simp only [List.length_append, cw_len]; kernel_rfl)) ?_
  go_wp2_with fail
  refine (MPow_any m gp _ HOK.out (HPM.out.keep st6.fr id) x n HE4.out).mono ?_
  rintro e' w7 ⟨rfl, hf7⟩
  have st7 := st6.keep hf7
  clear st6 hf7
  go_wp2_with (with_reducible refine wl_stop (o := ⟨some 8, _, _, _, _, _⟩) ?_)
  refine wl_allocS st7 rfl rfl (z := .agg #[.int .u64 0, .int .u64 0, .int .u64 0, .int .u64 0]) (by kernel_rfl) (cw 4 0) (by rw [cw_zero]; rfl) ?_
  intro g8 w8 st8
  clear st7
  go_wp2_with (with_reducible refine wl_stop (o := ⟨none, _, _, _, _, _⟩) ?_)
  refine wl_storeS st8 3 rfl rfl rfl rfl rfl (by first | (simp only [cw_len]; done) | (simp only [List.length_append, cw_len]; done)) (by first | (rw [cw_len]; kernel_rfl) | (simp only [List.length_append, cw_len]; kernel_rfl)) (cw_one _ _) ?_
  intro w9 st9
  clear st8
  go_wp2_with fail
  refine wp_region_noPanic ?_
  refine wp_region_plan (fun wx => St Nob w wx [(g3, cw 4 (elN m x), 70), (g4, cw 4 0, 70), (g6, cw 4 n, 82), (g8, cw 4 (elN m (x ^ n)), 70)]) 4 (.w 0 (.t 1 (.t 3 (.r 2 (.m 4 .nil))))) (by kernel_rfl) (by kernel_rfl) st9.drew (fun _ _ _ _ _ h => h) ?_
  have hd9 := st9.drew
  clear st9
  refine plan_w (v := ?_) rfl rfl (fun wx => ?_) ?_
  rotate_left 1
  · (go_simp; with_reducible rfl)
  try simp only [Act.put, List.setIfInBounds_toArray, List.set_cons_zero, List.set_cons_succ]
  refine plan_arr rfl rfl rfl rfl (cw 4 (elN m (x ^ n))) (fun wx hS => St.rangeL hS 3 rfl 0 _ (by rw [List.drop_zero, List.take_of_length_le (Nat.le_refl _)])) Try.underlying70 rfl (by first | (rw [cw_len]; kernel_rfl) | (simp only [List.length_append, cw_len]; kernel_rfl)) ?_
  try simp only [Act.put, List.setIfInBounds_toArray, List.set_cons_zero, List.set_cons_succ]
  refine plan_arr rfl rfl rfl rfl (cw 4 (elN m x)) (fun wx hS => St.rangeL hS 0 rfl 0 _ (by rw [List.drop_zero, List.take_of_length_le (Nat.le_refl _)])) Try.underlying70 rfl (by first | (rw [cw_len]; kernel_rfl) | (simp only [List.length_append, cw_len]; kernel_rfl)) ?_
  try simp only [Act.put, List.setIfInBounds_toArray, List.set_cons_zero, List.set_cons_succ]
  refine plan_r rfl rfl ?_
  go_simp
  refine (MSquare_any m gp _ HOK.out (HPM.out.keep hd9.fr id) (x ^ n)).mono ?_
  rintro e' w10 ⟨rfl, hf10⟩
  have st10 := hd9.keep hf10
  clear hf10
  clear hd9
  refine ⟨st10, ?_⟩
  try simp only [Act.put, List.setIfInBounds_toArray, List.set_cons_zero, List.set_cons_succ]
  refine plan_m rfl rfl ?_
  refine wp_elneq m HOK.out ((x ^ n) * (x ^ n)) x 70 Try.underlying70 Try.eqGuardType70 rfl rfl rfl HR.out ?_
  try simp only [Act.put, List.setIfInBounds_toArray, List.set_cons_zero, List.set_cons_succ]
  refine plan_end ?_
  refine NoPanic.normal ?_
  have hix := fun wx => low_word ((x ^ n) % m.M) wx
  have hla := low_and ((x ^ n) % m.M)
  rw [HB.out] at hla
  go_wp2_with (with_reducible refine wl_stop (o := ⟨some 30, _, _, _, _, _⟩) ?_)
  refine wl_loadS st10 3 rfl rfl rfl Try.underlying70 rfl (by first | (rw [cw_len]; kernel_rfl) | (simp only [List.length_append, cw_len]; kernel_rfl)) ?_
  go_wp2_with fail
  refine (MFrom_any m gp _ HOK.out (HPM.out.keep st10.fr id) (x ^ n)).mono ?_
  rintro e' w11 ⟨rfl, hf11⟩
  have st11 := st10.keep hf11
  clear st10 hf11
  go_wp2_with (with_reducible refine wl_stop (o := ⟨some 36, _, _, _, _, _⟩) ?_)
  refine wl_loadS st11 3 rfl rfl rfl Try.underlying70 rfl (by first | (rw [cw_len]; kernel_rfl) | (simp only [List.length_append, cw_len]; kernel_rfl)) ?_
  go_wp2_with fail
  refine (MNeg_any m gp _ HOK.out (HPM.out.keep st11.fr id) (x ^ n)).mono ?_
  rintro e' w12 ⟨rfl, hf12⟩
  have st12 := st11.keep hf12
  clear st11 hf12
  go_wp2_with (with_reducible refine wl_stop (o := ⟨none, _, _, _, _, _⟩) ?_)
  refine wl_storeS st12 3 rfl rfl rfl rfl rfl (by first | (simp only [cw_len]; done) | (simp only [List.length_append, cw_len]; done)) (by first | (rw [cw_len]; kernel_rfl) | (simp only [List.length_append, cw_len]; kernel_rfl)) (cw_one _ _) ?_
  intro w13 st13
  clear st12
  go_wp2_with (with_reducible refine wl_stop (o := ⟨some 38, _, _, _, _, _⟩) ?_)
  refine wl_loadS st13 3 rfl rfl rfl Try.underlying70 rfl (by first | (rw [cw_len]; kernel_rfl) | (simp only [List.length_append, cw_len]; kernel_rfl)) ?_
  go_wp2_with (with_reducible refine wl_stop (o := ⟨none, _, _, _, _, _⟩) ?_)
  refine wl_storeS st13 1 rfl rfl rfl rfl rfl (by first | (simp only [cw_len]; done) | (simp only [List.length_append, cw_len]; done)) (by first | (rw [cw_len]; kernel_rfl) | (simp only [List.length_append, cw_len]; kernel_rfl)) (cw_one _ _) ?_
  intro w14 st14
  clear st13
  have hr := st14.at 1 rfl
  have hfr := st14.fr
  clear st14
  go_wp2_with fail
  exact bodyPost_ret (results_arr2 rfl rfl hr Try.underlying70 (by first | (rw [cw_len]; kernel_rfl) | (simp only [List.length_append, cw_len]; kernel_rfl)) rfl) rfl ⟨rfl, hfr⟩
end Go.Proofs.Ytdbgddngapminaa

/- zn: Zero, Small, Bytes; scalars compared. -/
namespace Go.Mv
open Go.RowKit Mvp
variable {P : Program}
end Go.Mv
namespace Go.Proofs.Ytdbgddngapminaa
open Go.RowKit Go.Mv Mvp
theorem eql_of_equal {P : Program} {ty : TypeId} {xs ys : Array Value} {b : Bool} (w : World) (h : (Op.equal ty (.agg xs) (.agg ys)).run P w = .ok b w) : (binOp .eql ty (.agg xs) (.agg ys)).run P w = .ok (.bool b) w := by
  show (do pure (Value.bool (← Op.equal ty (.agg xs) (.agg ys)))).run P w = _
  simp only [Sem.run_bind, h, Result.andThen_ok]
  rfl
theorem exec_binop {P : Program} {op : BinOp} {ty : TypeId} {o : Oper} {a : Act} {p q : Operand} {T : TypeId} {x y v : Value} (ho : o.op = .binOp op ty p q T) (hp : a.eval p = x) (hq : a.eval q = y) (w : World)
    (h1 : (eqGuard op ty p q x y).run P w = .ok () w) (h2 : (binOp op ty x y).run P w = .ok v w) : (execOp a.eval o).run P w = .ok (.value v) w := by
  subst hp hq
  unfold execOp
  simp only [ho, Sem.run_bind, h1, h2, Result.andThen_ok, Sem.run_pure]
theorem exec_eqlE (m : Md) (h : m.Ok) (x y : Nat) {o : Oper} {a : Act} {p q : Operand} {T ty : TypeId} (hu : Try.prog.underlying ty = some (.array 4 22)) (hg : Try.prog.eqGuardType Try.prog.depth ty = false) (ho : o.op = .binOp .eql ty p q T) (hp : a.eval p = i4 (elN m x)) (hq : a.eval q = i4 (elN m y)) {b : Bool} (hb : (x % m.M == y % m.M) = b) (w : World) :
    (execOp a.eval o).run Try.prog w = .ok (.value (.bool b)) w := by
  subst hb
  exact exec_binop ho hp hq w (run_eqGuard_agg w .eql ty p q _ _ hg) (eql_of_equal w (el_eq m h x y ty hu w))
theorem wl_exec {o : Oper} {a : Act} {w : World} {P : Program} {ops : Array Oper} {rest : List Oper} {Q : Exit → Act → World → Prop} {v : Value} (hgd : o.guard = none) (hx : (execOp a.eval o).run P w = .ok (.value v) w) (h : wpList P ops Q rest (a.put o.dst v) w) : wpList P ops Q (o :: rest) a w := by
  refine wpList_plain hgd fun K hK => ?_
  unfold Oper.wp
  rw [hx]
  exact hK _ _ h
attribute [local irreducible] limbs lw mix cw cSub cAdd cMul foldC valFrom beN laid be32 powm montT mstep elN mdL numB
theorem words_z4 : (Value.agg #[.int .u64 0, .int .u64 0, .int .u64 0, .int .u64 0]) = i4 0 := by rw [i4, cw_zero]; rfl
theorem built_E0 : Try.prog.built 70 [] = some #[.int .u64 0, .int .u64 0, .int .u64 0, .int .u64 0] := by kernel_rfl

set_option maxHeartbeats 8000000 in
set_option maxRecDepth 100000 in
theorem EZero_any (m : Md) (hok : m.Ok) (x : Nat) (b : Bool) (hb : (x % m.M == 0) = b) (w : World) :
    Calls Try.prog 96 #[i4 (elN m x)] w fun e w' => e = .returned (.bool b) ∧ Fr Nob w w' := by
  have HOK := Lib.hid hok
  have HB := Lib.hid (show (x % m.M == 0 % m.M) = b by rw [Nat.zero_mod]; exact hb)
  have HZ := Lib.hid (show i4 0 = i4 (elN m 0) by rw [el_zero])
  clear hok hb
  have st0 := St.start Nob w
  go_enter Try.func96, Try.ntmps96
  go_wp2_with (with_reducible refine wl_stop (o := ⟨some 1, _, _, _, _, _⟩) ?_)
  refine wl_boxS st0 rfl rfl rfl (cw 4 (elN m x)) rfl ?_
  intro g1 w1 st1
  clear st0
  go_wp2_with (with_reducible refine wl_stop (o := ⟨some 3, _, _, _, _, _⟩) ?_)
  refine wl_loadS st1 0 rfl rfl rfl Try.underlying70 rfl (by first | (rw [cw_len]; kernel_rfl) | (simp only [List.length_append, cw_len]; kernel_rfl)) ?_
  go_wp2_with (with_reducible refine wl_stop (o := ⟨some 4, _, _, _, _, _⟩) ?_)
  refine wl_build0 rfl rfl _ built_E0 ?_
  rw [words_z4, HZ.out]
  go_wp2_with (with_reducible refine wl_stop (o := ⟨some 5, _, _, _, _, _⟩) ?_)
  refine wl_exec rfl (exec_eqlE m HOK.out x 0 Try.underlying70 Try.eqGuardType70 rfl rfl rfl HB.out _) ?_
  have hfr := st1.fr
  clear st1
  go_wp2_with fail
  go_ret
  exact ⟨rfl, hfr⟩

theorem built_int1 (v : Int) : Try.prog.built 82 [(0, .int .u64 v)] = some #[.int .u64 v, .int .u64 0, .int .u64 0, .int .u64 0] := by kernel_rfl

set_option maxHeartbeats 8000000 in
set_option maxRecDepth 100000 in
theorem MSmall_any (m : Md) (gp : Nat) (w : World) (hok : m.Ok) (hpm : Has w gp (mdL m) 134) (k : Nat) (hk : k < 18446744073709551616) :
    Calls Try.prog 84 #[.pointer (some ⟨gp, 0, none⟩), .int .u64 (k : Int)] w fun e w' => e = .returned (i4 (elN m k)) ∧ Fr Nob w w' := by
  have HOK := Lib.hid hok
  have HPM := Lib.hid hpm
  have HW := Lib.hid (small_words k hk)
  have HK4 := Lib.hid (show k < B64 ^ 4 by have : (18446744073709551616 : Nat) ≤ B64 ^ 4 := by decide
                                           omega)
  clear hok hpm hk
  have st0 := St.start Nob w
  go_enter Try.func84, Try.ntmps84
  go_wp2_with (with_reducible refine wl_stop (o := ⟨some 4, _, _, _, _, _⟩) ?_)
  refine wl_allocS st0 rfl rfl (z := .agg #[.int .u64 0, .int .u64 0, .int .u64 0, .int .u64 0]) (by kernel_rfl) (cw 4 0) (by rw [cw_zero]; rfl) ?_
  intro g4 w1 st1
  clear st0
  go_wp2_with (with_reducible refine wl_stop (o := ⟨some 7, _, _, _, _, _⟩) ?_)
  refine wl_buildL rfl rfl _ (built_int1 (k : Int)) ?_
  rw [HW.out]
  go_wp2_with fail
  refine (MTo_any m gp _ HOK.out (HPM.out.keep st1.fr id) k HK4.out).mono ?_
  rintro e' w2 ⟨rfl, hf2⟩
  have st2 := st1.keep hf2
  clear st1 hf2
  go_wp2_with (with_reducible refine wl_stop (o := ⟨none, _, _, _, _, _⟩) ?_)
  refine wl_storeS st2 0 rfl rfl rfl rfl rfl (by first | (simp only [cw_len]; done) | (simp only [List.length_append, cw_len]; done)) (by first | (rw [cw_len]; kernel_rfl) | (simp only [List.length_append, cw_len]; kernel_rfl)) (cw_one _ _) ?_
  intro w3 st3
  clear st2
  have hr := st3.at 0 rfl
  have hfr := st3.fr
  clear st3
  go_wp2_with fail
  exact bodyPost_ret (results_arr rfl rfl hr Try.underlying70 (by first | (rw [cw_len]; kernel_rfl) | (simp only [List.length_append, cw_len]; kernel_rfl))) rfl ⟨rfl, hfr⟩

set_option maxHeartbeats 8000000 in
set_option maxRecDepth 100000 in
theorem Zsmall_any (m : Md) (hk : KindOf 1 m) (k : Nat) (hk4 : k < 18446744073709551616) (w : World) :
    Calls Try.prog 113 #[.int .u64 (k : Int)] w fun e w' => e = .returned (i4 (elN m k)) ∧ Fr Nob w w' := by
  have HK := Lib.hid hk
  have HOK := Lib.hid hk.ok
  clear hk
  have HK4 := Lib.hid hk4
  clear hk4
  have st0 := St.start Nob w
  go_enter Try.func113, Try.ntmps113
  go_wp2_with (with_reducible refine wl_stop (o := ⟨some 2, _, _, _, _, _⟩) ?_)
  refine wl_allocS st0 rfl rfl (z := .agg #[.int .u64 0, .int .u64 0, .int .u64 0, .int .u64 0]) (by kernel_rfl) (cw 4 0) (by rw [cw_zero]; rfl) ?_
  intro g2 w1 st1
  clear st0
  go_wp2_with fail
  refine (order_any m HK.out _).mono ?_
  rintro e' w2 ⟨gp, rfl, hle, hm, hf2⟩
  have st2 : St Nob w w2 [(g2, cw 4 0, 107), (gp, mdL m, 134)] := st1.new hf2 hm hle
  clear st1 hf2 hm hle
  go_wp2_with fail
  refine (MSmall_any m gp _ HOK.out (st2.at 1 rfl) k HK4.out).mono ?_
  rintro e' w3 ⟨rfl, hf3⟩
  have st3 := st2.keep hf3
  clear st2 hf3
  go_wp2_with (with_reducible refine wl_stop (o := ⟨some 6, _, _, _, _, _⟩) ?_)
  refine wl_buildL rfl rfl _ (built_Z _) ?_
  go_wp2_with (with_reducible refine wl_stop (o := ⟨none, _, _, _, _, _⟩) ?_)
  refine wl_storeS st3 0 rfl rfl rfl rfl rfl (by first | (simp only [cw_len]; done) | (simp only [List.length_append, cw_len]; done)) (by first | (rw [cw_len]; kernel_rfl) | (simp only [List.length_append, cw_len]; kernel_rfl)) (cw_one _ _) ?_
  intro w4 st4
  clear st3
  have hr := st4.at 0 rfl
  have hfr := st4.fr
  clear st4
  go_wp2_with fail
  exact bodyPost_ret (results_st rfl rfl hr Try.underlying107 rfl (by first | (rw [cw_len]; kernel_rfl) | (simp only [List.length_append, cw_len]; kernel_rfl))) rfl ⟨rfl, hfr⟩

set_option maxHeartbeats 8000000 in
set_option maxRecDepth 100000 in
theorem ZBytes_any (m : Md) (hk : KindOf 1 m) (x : Nat) (w : World) :
    Calls Try.prog 70 #[i4 (elN m x)] w fun e w' => ∃ v, e = .returned v ∧ Own w' w.heap.size 5 1 v 32 (bs (be32 (x % m.M))) ∧ Fr Nob w w' := by
  have HK := Lib.hid hk
  have HOK := Lib.hid hk.ok
  clear hk
  have st0 := St.start Nob w
  go_enter Try.func70, Try.ntmps70
  go_wp2_with (with_reducible refine wl_stop (o := ⟨some 1, _, _, _, _, _⟩) ?_)
  refine wl_boxS st0 rfl rfl rfl (cw 4 (elN m x)) rfl ?_
  intro g1 w1 st1
  clear st0
  go_wp2_with fail
  refine wp_region_noPanic ?_
  refine wp_region_plan (fun wx => St Nob w wx [(g1, cw 4 (elN m x), 107)]) 5 (.w 1 (.t 2 (.r 0 (.r 3 (.r 4 (.m 5 .nil)))))) (by kernel_rfl) (by kernel_rfl) st1.drew (fun _ _ _ _ _ h => h) ?_
  have hd1 := st1.drew
  clear st1
  refine plan_w (v := ?_) rfl rfl (fun wx => ?_) ?_
  rotate_left 1
  · (go_simp; with_reducible rfl)
  try simp only [Act.put, List.setIfInBounds_toArray, List.set_cons_zero, List.set_cons_succ]
  refine plan_arr rfl rfl rfl rfl (cw 4 (elN m x)) (fun wx hS => St.rangeL hS 0 rfl 0 _ (by rw [List.drop_zero, List.take_of_length_le (Nat.le_refl _)])) Try.underlying70 rfl (by first | (rw [cw_len]; kernel_rfl) | (simp only [List.length_append, cw_len]; kernel_rfl)) ?_
  try simp only [Act.put, List.setIfInBounds_toArray, List.set_cons_zero, List.set_cons_succ]
  refine plan_r rfl rfl ?_
  go_simp
  refine (order_any m HK.out _).mono ?_
  rintro e' w2 ⟨gp, rfl, hle, hm, hf2⟩
  have st2 : St Nob w w2 [(g1, cw 4 (elN m x), 107), (gp, mdL m, 134)] := hd1.new hf2 hm hle
  clear hf2 hm hle
  clear hd1
  refine ⟨St.less st2 (by simp), ?_⟩
  try simp only [Act.put, List.setIfInBounds_toArray, List.set_cons_zero, List.set_cons_succ]
  refine plan_r rfl rfl ?_
  go_simp
  refine (MFrom_any m gp _ HOK.out (st2.at 1 rfl) x).mono ?_
  rintro e' w3 ⟨rfl, hf3⟩
  have st3 := st2.keep hf3
  clear hf3
  clear st2
  refine ⟨St.less st3 (by simp), ?_⟩
  try simp only [Act.put, List.setIfInBounds_toArray, List.set_cons_zero, List.set_cons_succ]
  refine plan_r rfl rfl ?_
  go_simp
  refine (MBytes_any (x % m.M) _).mono ?_
  rintro e' w4 ⟨v, rfl, hown, hf4⟩
  have st4 := st3.keep hf4
  have HSZ := st3.fr.size
  obtain ⟨av, cv, hve, hcv, hrv, -⟩ := hown.form
  subst hve
  have HOWN := Lib.hid (hown.mono (HSZ))
  clear hown hrv
  clear hf4
  clear st3
  refine ⟨St.less st4 (by simp), ?_⟩
  try simp only [Act.put, List.setIfInBounds_toArray, List.set_cons_zero, List.set_cons_succ]
  refine plan_m rfl rfl ?_
  go_simp
  try simp only [Act.put, List.setIfInBounds_toArray, List.set_cons_zero, List.set_cons_succ]
  refine plan_end ?_
  refine NoPanic.normal ?_
  have hfr := st4.fr
  clear st4
  go_wp2_with fail
  go_ret
  exact ⟨_, rfl, HOWN.out, hfr⟩
end Go.Proofs.Ytdbgddngapminaa

/- group: none, nothing, opposite. -/
namespace Go.Mv
open Go.RowKit
end Go.Mv
namespace Go.Proofs.Ytdbgddngapminaa
open Go.RowKit Go.Mv Mvp
/-- a point's cells -/
def ptL (m : Md) (x y z : Nat) : List Value := cw 4 (elN m x) ++ (cw 4 (elN m y) ++ cw 4 (elN m z))
def ptV (m : Md) (x y z : Nat) : Value := .agg (ptL m x y z).toArray
/-- the curve's cells -/
def crvL (m : Md) (gp bx by_ : Nat) : List Value := [.pointer (some ⟨gp, 0, none⟩)] ++ (cw 4 (elN m 7) ++ ptL m bx by_ 1)
theorem ptL_len (m : Md) (x y z : Nat) : (ptL m x y z).length = 12 := by simp [ptL, cw_len]
theorem crv_seven (m : Md) (gp bx by_ : Nat) : ((crvL m gp bx by_).drop 1).take (cw 4 (elN m 7)).length = cw 4 (elN m 7) := by
  unfold crvL
  rw [List.singleton_append, List.drop_succ_cons, List.drop_zero, List.take_left]
theorem pt_x (a b c : Nat) : ((cw 4 a ++ (cw 4 b ++ cw 4 c)).drop 0).take (cw 4 a).length = cw 4 a := by
  rw [List.drop_zero, List.take_left]
theorem pt_y (a b c : Nat) : ((cw 4 a ++ (cw 4 b ++ cw 4 c)).drop 4).take (cw 4 b).length = cw 4 b := by
  have h : (cw 4 a).length = 4 := cw_len _ _
  rw [List.drop_append_of_le_length (by omega), List.drop_of_length_le (by omega), List.nil_append, List.take_left]
theorem pt_z (a b c : Nat) : ((cw 4 a ++ (cw 4 b ++ cw 4 c)).drop 8).take (cw 4 c).length = cw 4 c := by
  have h : (cw 4 a ++ cw 4 b).length = 8 := by rw [List.length_append, cw_len, cw_len]
  rw [← List.append_assoc, List.drop_append_of_le_length (by omega), List.drop_of_length_le (by omega), List.nil_append, List.take_of_length_le (Nat.le_refl _)]
theorem pt_one (a b c : Nat) : ∀ v ∈ cw 4 a ++ (cw 4 b ++ cw 4 c), v.oneCell' = true := by
  intro v hv
  simp only [List.mem_append] at hv
  rcases hv with h | h | h <;> exact cw_one _ _ v h
theorem built_pt (a b c : Nat) : Try.prog.built 72 [(0, i4 a), (1, i4 b), (2, i4 c)] = some (cw 4 a ++ (cw 4 b ++ cw 4 c)).toArray := by kernel_rfl
theorem built_pt2 (a b : Nat) : Try.prog.built 72 [(0, i4 a), (1, i4 b)] = some (cw 4 a ++ (cw 4 b ++ cw 4 0)).toArray := by kernel_rfl
attribute [local irreducible] limbs lw mix cw cSub cAdd cMul foldC valFrom beN laid be32 powm montT mstep elN mdL numB
set_option maxHeartbeats 16000000 in
set_option maxRecDepth 1000000 in
theorem none_any (m : Md) (hok : m.Ok) (x y z : Nat) (b : Bool) (hb : (z % m.M == 0) = b) (w : World) :
    Calls Try.prog 92 #[ptV m x y z] w fun e w' => e = .returned (.bool b) ∧ Fr Nob w w' := by
  have HOK := Lib.hid hok
  have HB := Lib.hid hb
  clear hok hb
  unfold ptV ptL
  have st0 := St.start Nob w
  go_enter Try.func92, Try.ntmps92
  go_wp2_with (with_reducible refine wl_stop (o := ⟨some 1, _, _, _, _, _⟩) ?_)
  refine wl_boxS st0 rfl rfl rfl (cw 4 (elN m x) ++ (cw 4 (elN m y) ++ cw 4 (elN m z))) rfl ?_
  intro g1 w1 st1
  clear st0
  go_wp2_with (with_reducible refine wl_stop (o := ⟨some 4, _, _, _, _, _⟩) ?_)
  refine wl_loadA rfl rfl Try.underlying70 rfl (st1.at 0 rfl) (cw 4 (elN m z)) (pt_z _ _ _) (by first | (rw [cw_len]; kernel_rfl) | (simp only [List.length_append, cw_len]; kernel_rfl)) ?_
  go_wp2_with fail
  refine (EZero_any m HOK.out z b HB.out _).mono ?_
  rintro e' w2 ⟨rfl, hf2⟩
  have st2 := st1.keep hf2
  clear st1 hf2
  have hfr := st2.fr
  clear st2
  go_wp2_with fail
  go_ret
  exact ⟨rfl, hfr⟩

set_option maxHeartbeats 16000000 in
set_option maxRecDepth 1000000 in
theorem opposite_any (m : Md) (gc gp bx by_ : Nat) (w : World) (hok : m.Ok) (hcv : Has w gc (crvL m gp bx by_) 93) (hpm : Has w gp (mdL m) 134) (x y z : Nat) :
    Calls Try.prog 47 #[.pointer (some ⟨gc, 0, none⟩), ptV m x y z] w fun e w' => e = .returned (ptV m x (m.M - y % m.M) z) ∧ Fr Nob w w' := by
  have HOK := Lib.hid hok
  have HCV := Lib.hid hcv
  have HPM := Lib.hid hpm
  clear hok hcv hpm
  unfold ptV ptL
  have st0 := St.start Nob w
  go_enter Try.func47, Try.ntmps47
  go_wp2_with (with_reducible refine wl_stop (o := ⟨some 3, _, _, _, _, _⟩) ?_)
  refine wl_boxS st0 rfl rfl rfl (cw 4 (elN m x) ++ (cw 4 (elN m y) ++ cw 4 (elN m z))) rfl ?_
  intro g3 w1 st1
  clear st0
  go_wp2_with (with_reducible refine wl_stop (o := ⟨some 4, _, _, _, _, _⟩) ?_)
  refine wl_allocS st1 rfl rfl (z := .agg #[.int .u64 0, .int .u64 0, .int .u64 0, .int .u64 0, .int .u64 0, .int .u64 0, .int .u64 0, .int .u64 0, .int .u64 0, .int .u64 0, .int .u64 0, .int .u64 0]) (by kernel_rfl) (cw 12 0) (by rw [cw_zero]; rfl) ?_
  intro g4 w2 st2
  clear st1
  go_wp2_with fail
  refine wp_region_noPanic ?_
  refine wp_region_plan (fun wx => St Nob w wx [(g3, cw 4 (elN m x) ++ (cw 4 (elN m y) ++ cw 4 (elN m z)), 72), (g4, cw 12 0, 72)]) 12 (.w 0 (.t 1 (.w 2 (.w 3 (.w 4 (.t 5 (.w 6 (.t 7 (.w 9 (.t 10 (.r 8 (.w 11 (.m 12 .nil))))))))))))) (by kernel_rfl) (by kernel_rfl) st2.drew (fun _ _ _ _ _ h => h) ?_
  have hd2 := st2.drew
  clear st2
  refine plan_w (v := ?_) rfl rfl (fun wx => ?_) ?_
  rotate_left 1
  · (go_simp; with_reducible rfl)
  try simp only [Act.put, List.setIfInBounds_toArray, List.set_cons_zero, List.set_cons_succ]
  refine plan_arr rfl rfl rfl rfl (cw 4 (elN m x)) (fun wx hS => St.rangeL hS 0 rfl 0 _ (pt_x _ _ _)) Try.underlying70 rfl (by first | (rw [cw_len]; kernel_rfl) | (simp only [List.length_append, cw_len]; kernel_rfl)) ?_
  try simp only [Act.put, List.setIfInBounds_toArray, List.set_cons_zero, List.set_cons_succ]
  refine plan_w (v := ?_) rfl rfl (fun wx => ?_) ?_
  rotate_left 1
  · (go_simp; with_reducible rfl)
  try simp only [Act.put, List.setIfInBounds_toArray, List.set_cons_zero, List.set_cons_succ]
  refine plan_w (v := ?_) rfl rfl (fun wx => ?_) ?_
  rotate_left 1
  · (go_simp; with_reducible rfl)
  try simp only [Act.put, List.setIfInBounds_toArray, List.set_cons_zero, List.set_cons_succ]
  refine plan_w (v := ?_) rfl rfl (fun wx => ?_) ?_
  rotate_left 1
  · (go_simp; with_reducible rfl)
  try simp only [Act.put, List.setIfInBounds_toArray, List.set_cons_zero, List.set_cons_succ]
  refine plan_t (v := ?_) rfl rfl (fun wx hS => ?_) ?_
  rotate_left 1
  · (have hc := (HCV.out.keep (St.fr hS) id).cell (i := 0) rfl; clear hS; go_simp; with_reducible rfl)
  try simp only [Act.put, List.setIfInBounds_toArray, List.set_cons_zero, List.set_cons_succ]
  refine plan_w (v := ?_) rfl rfl (fun wx => ?_) ?_
  rotate_left 1
  · (go_simp; with_reducible rfl)
  try simp only [Act.put, List.setIfInBounds_toArray, List.set_cons_zero, List.set_cons_succ]
  refine plan_arr rfl rfl rfl rfl (cw 4 (elN m y)) (fun wx hS => St.rangeL hS 0 rfl 4 _ (pt_y _ _ _)) Try.underlying70 rfl (by first | (rw [cw_len]; kernel_rfl) | (simp only [List.length_append, cw_len]; kernel_rfl)) ?_
  try simp only [Act.put, List.setIfInBounds_toArray, List.set_cons_zero, List.set_cons_succ]
  refine plan_w (v := ?_) rfl rfl (fun wx => ?_) ?_
  rotate_left 1
  · (go_simp; with_reducible rfl)
  try simp only [Act.put, List.setIfInBounds_toArray, List.set_cons_zero, List.set_cons_succ]
  refine plan_arr rfl rfl rfl rfl (cw 4 (elN m z)) (fun wx hS => St.rangeL hS 0 rfl 8 _ (pt_z _ _ _)) Try.underlying70 rfl (by first | (rw [cw_len]; kernel_rfl) | (simp only [List.length_append, cw_len]; kernel_rfl)) ?_
  try simp only [Act.put, List.setIfInBounds_toArray, List.set_cons_zero, List.set_cons_succ]
  refine plan_r rfl rfl ?_
  go_simp
  refine (MNeg_any m gp _ HOK.out (HPM.out.keep hd2.fr id) y).mono ?_
  rintro e' w3 ⟨rfl, hf3⟩
  have st3 := hd2.keep hf3
  clear hf3
  clear hd2
  refine ⟨st3, ?_⟩
  try simp only [Act.put, List.setIfInBounds_toArray, List.set_cons_zero, List.set_cons_succ]
  refine plan_w rfl rfl (exec_build rfl _ (built_pt _ _ _)) ?_
  try simp only [Act.put, List.setIfInBounds_toArray, List.set_cons_zero, List.set_cons_succ]
  refine plan_m rfl rfl ?_
  refine wp_storeS st3 1 rfl rfl rfl rfl (by first | (simp only [cw_len]; done) | (simp only [List.length_append, cw_len]; done)) (by first | (rw [cw_len]; kernel_rfl) | (simp only [List.length_append, cw_len]; kernel_rfl)) (pt_one _ _ _) ?_
  intro w4 st4
  clear st3
  try simp only [Act.put]
  refine plan_end ?_
  refine NoPanic.normal ?_
  have hr := st4.at 1 rfl
  have hfr := st4.fr
  clear st4
  go_wp2_with fail
  exact bodyPost_ret (results_st rfl rfl hr Try.underlying72 rfl (by first | (rw [cw_len]; kernel_rfl) | (simp only [List.length_append, cw_len]; kernel_rfl))) rfl ⟨rfl, hfr⟩
end Go.Proofs.Ytdbgddngapminaa

/- Two blocks that were made in the other order. -/
namespace Go.Mv
open Go.RowKit
end Go.Mv

/- A region that draws its order, told as a chain of steps beside fresh blocks (allocs) that may be made at any time between their opening and their joint: each step is shown once. -/
namespace Go.Mv
open Go.RowKit
abbrev Blk := Nat × List Value × TypeId
/-- one place of a function turned -/
def upd (x : Nat → Value) (i : Nat) (v : Value) : Nat → Value := fun k => if k = i then v else x k
theorem upd_same (x : Nat → Value) (i : Nat) (v : Value) : upd x i v i = v := if_pos rfl
theorem upd_other (x : Nat → Value) (i k : Nat) (v : Value) (h : (k == i) = false) : upd x i v k = x k := if_neg (by simpa using h)
theorem St.perm {S : Nat → Prop} {w0 w : World} {bl bl' : List Blk} (h : St S w0 w bl) (p : bl'.Perm bl) : St S w0 w bl' :=
  ⟨h.fr, fun x hx => h.own x (p.subset hx), fun x hx => h.has x (p.subset hx), (List.Perm.pairwise_iff (fun {_ _} e => Ne.symm e) p).2 h.ne⟩
/-- w, t: taken ahead; c: carried out; o: from here on a block may be made; j: by here it is made -/
inductive LS where
  | w (i : Nat)
  | t (i : Nat)
  | c (i : Nat)
  | o (i : Nat)
  | j (i : Nat)
def lcnt : List LS → Nat
  | [] => 0
  | .j _ :: s => lcnt s
  | _ :: s => lcnt s + 1
section
variable {P : Program} {ops : Array Oper} {md : Region.Mode} {Q : Exit → Act → World → Prop} {Sx : World → Prop} {m : Nat} {S : Nat → Prop} {w0 : World} {tl : Pl}
/-- what makes one block of its own, in whatever world -/
def Mk (P : Program) (e : Sem Next) (v : Nat → Value) (L : List Value) (T : TypeId) : Prop :=
  ∀ w, ∃ g w', e.run P w = .ok (.value (v g)) w' ∧ Fr Nob w w' ∧ w.heap.size ≤ g ∧ Has w' g L T
/-- an open block: the operation, its value, its cells -/
abbrev Flt := Nat × (Nat → Value) × List Value × TypeId
def Lad (P : Program) (ops : Array Oper) (Q : Exit → Act → World → Prop) (Sx : World → Prop) (S : Nat → Prop) (w0 : World) (tl : Pl) : List LS → List Flt → List Blk → (World → Prop) → ((Nat → Value) → Act) → Prop
  | [], _, BL, R, A => ∀ x w, St S w0 w BL → R w → wpPlan P ops Q Sx tl (A x) w
  | .w i :: s, Γ, BL, R, A => ∃ o v, ops[i]? = some o ∧ (∀ x, YieldsIf P ops (fun _ => True) o v (A x)) ∧ Lad P ops Q Sx S w0 tl s Γ BL R (fun x => (A x).put o.dst v)
  | .t i :: s, Γ, BL, R, A => ∃ o v, ops[i]? = some o ∧ (∀ x, YieldsIf P ops Sx o v (A x)) ∧ Lad P ops Q Sx S w0 tl s Γ BL R (fun x => (A x).put o.dst v)
  | .c i :: s, Γ, BL, R, A => ∃ o, ops[i]? = some o ∧ o.guard = none ∧ ∃ (X : Type) (v : X → Value) (R' : X → World → Prop), (∀ y w w', R' y w → Fr Nob w w' → R' y w') ∧
      (∀ x w, St S w0 w BL → R w → o.wp P (A x) w (fun a' w' => ∃ y, a' = (A x).put o.dst (v y) ∧ Fr Nob w w' ∧ R' y w') Q) ∧ ∀ y, Lad P ops Q Sx S w0 tl s Γ BL (fun w => R w ∧ R' y w) (fun x => (A x).put o.dst (v y))
  | .o i :: s, Γ, BL, R, A => ∃ o e v L T, ops[i]? = some o ∧ o.guard = none ∧ (∀ x, execOp (A x).eval o = e) ∧ Mk P e v L T ∧ Lad P ops Q Sx S w0 tl s ((i, v, L, T) :: Γ) BL R (fun x => (A x).put o.dst (x i))
  | .j i :: s, Γ, BL, R, A => ∃ v L T, (i, v, L, T) ∈ Γ ∧ ∀ g, Lad P ops Q Sx S w0 tl s (Γ.filter (·.1 != i)) (BL ++ [(g, L, T)]) R (fun x => A (upd x i (v g)))

def subs : List Nat → List (List Nat)
  | [] => [[]]
  | a :: l => subs l ++ (subs l).map (a :: ·)
theorem filter_subs (p : Nat → Bool) : ∀ l : List Nat, l.filter p ∈ subs l
  | [] => by simp [subs]
  | a :: l => by
    rw [subs, List.filter_cons]
    split
    · exact List.mem_append_right _ (List.mem_map.2 ⟨_, filter_subs p l, rfl⟩)
    · exact List.mem_append_left _ (filter_subs p l)
/-- the open blocks of B are made -/
def mark (listed : Array Bool) (B : List Nat) : Array Bool := listed.mapIdx fun k b => b || B.contains k
theorem mark_size (listed : Array Bool) (B : List Nat) : (mark listed B).size = listed.size := by simp [mark]
theorem mark_get (listed : Array Bool) (B : List Nat) (k : Nat) (hk : k < listed.size) (d : Bool) : (mark listed B).getD k d = (listed.getD k d || B.contains k) := by
  simp [mark, hk]
theorem arr_ext {a b : Array Bool} (hs : a.size = b.size) (h : ∀ k, k < a.size → a.getD k true = b.getD k true) : a = b := by
  refine Array.ext hs fun k h1 h2 => ?_
  have := h k h1
  simpa [h1, h2] using this
theorem mark_set (listed : Array Bool) (B : List Nat) (i : Nat) : (mark listed B).setIfInBounds i true = mark (listed.setIfInBounds i true) B := by
  refine arr_ext (by simp [mark_size]) fun k hk => ?_
  have hk' : k < listed.size := by simpa [mark_size] using hk
  rw [mark_get _ _ _ (by simpa using hk')]
  by_cases e : i = k
  · subst e; rw [getD_set_self (by rw [mark_size]; exact hk'), getD_set_self hk']; rfl
  · rw [getD_set_ne true e, getD_set_ne true e, mark_get _ _ _ hk']
theorem mark_more (listed : Array Bool) (B : List Nat) (i : Nat) : (mark listed B).setIfInBounds i true = mark listed (B ++ [i]) := by
  refine arr_ext (by simp [mark_size]) fun k hk => ?_
  have hk' : k < listed.size := by simpa [mark_size] using hk
  rw [mark_get _ _ _ hk']
  by_cases e : i = k
  · subst e; rw [getD_set_self (by rw [mark_size]; exact hk')]; simp
  · rw [getD_set_ne true e, mark_get _ _ _ hk']
    have : (k == i) = false := by simpa using fun h => e h.symm
    rw [List.contains_append, List.contains_cons, this]
    simp
theorem mark_same (listed : Array Bool) (B C : List Nat) (h : ∀ k, B.contains k = C.contains k) : mark listed B = mark listed C := by
  unfold mark
  congr 1
  funext k b
  rw [h k]
/-- what can come is i, or an open block that is not made -/
def cOk (md : Region.Mode) (ops : Array Oper) (i : Nat) (opn : List Nat) (listed : Array Bool) (B : List Nat) : Bool :=
  (Region.ready md ops (mark listed B)).contains i && (Region.ready md ops (mark listed B)).all fun k => k == i || (opn.contains k && !B.contains k)
def dstNe (ops : Array Oper) (i : Nat) (opn : List Nat) : Bool := opn.all fun k => match ops[i]?, ops[k]? with | some a, some b => a.apart ops b | _, _ => false
def selfOk (ops : Array Oper) (i : Nat) : Bool := match ops[i]? with | some o => (match o.dst with | some d => !(o.looksAt ops).contains d | none => true) | none => false
def ladOk (md : Region.Mode) (ops : Array Oper) (m : Nat) (tl : Pl) : List LS → List Nat → Array Bool → Bool
  | [], opn, listed => opn.isEmpty && planOk md ops m tl listed
  | .w i :: s, opn, listed => decide (i ≠ m) && dstNe ops i opn && ((subs opn).all fun B => (Region.ready md ops (mark listed B)).contains i && Region.free md ops (mark listed B) i) && ladOk md ops m tl s opn (listed.setIfInBounds i true)
  | .t i :: s, opn, listed => decide (i ≠ m) && decide (listed.getD m true = false) && dstNe ops i opn && ancB md ops m ops.size i && ((subs opn).all fun B => (Region.ready md ops (mark listed B)).contains i && Region.free md ops (mark listed B) i) && ladOk md ops m tl s opn (listed.setIfInBounds i true)
  | .c i :: s, opn, listed => decide (i ≠ m) && decide (listed.getD m true = false) && !opn.contains i && dstNe ops i opn && ((subs opn).all fun B => cOk md ops i opn listed B) && ladOk md ops m tl s opn (listed.setIfInBounds i true)
  | .o i :: s, opn, listed => decide (i ≠ m) && decide (listed.getD m true = false) && !opn.contains i && dstNe ops i opn && selfOk ops i && ladOk md ops m tl s (i :: opn) listed
  | .j i :: s, opn, listed => opn.contains i && decide (listed.getD m true = false) && !opn.contains m && ((subs (opn.filter (· != i))).all fun B => cOk md ops i opn listed B) && ladOk md ops m tl s (opn.filter (· != i)) (listed.setIfInBounds i true)

theorem put_comm (a : Act) (d e : Option Tmp) (u v : Value) (h : e ≠ d ∨ e = none) : (a.put e u).put d v = (a.put d v).put e u := by
  cases d <;> cases e <;> simp only [Act.put]
  · rename_i x y
    have hn : y ≠ x := fun k => by subst k; rcases h with h | h; exact h rfl; cases h
    rw [Array.setIfInBounds_comm _ _ hn]
theorem put_twice (a : Act) (d : Option Tmp) (u v : Value) : (a.put d u).put d v = a.put d v := by
  cases d <;> simp [Act.put]
theorem put_back (a : Act) (d : Option Tmp) : ∃ u, a.put d u = a := by
  cases d with
  | none => exact ⟨undef, rfl⟩
  | some d =>
    refine ⟨a.tmps.getD d undef, ?_⟩
    simp only [Act.put]
    have : a.tmps.setIfInBounds d (a.tmps.getD d undef) = a.tmps := by
      refine Array.ext (by simp) fun k h1 h2 => ?_
      rw [Array.getElem_setIfInBounds (by simpa using h1)]
      split
      · rename_i e; subst e; simp [h2]
      · rfl
    rw [this]
theorem upd_self (x : Nat → Value) (i : Nat) : upd x i (x i) = x := by
  funext k
  unfold upd
  split
  · rename_i e; rw [e]
  · rfl
theorem dst_ap {i : Nat} {opn : List Nat} {o : Oper} (h : dstNe ops i opn = true) (ho : ops[i]? = some o) {k : Nat} {ok : Oper} (hk : k ∈ opn) (hok : ops[k]? = some ok) : o.apart ops ok = true := by
  have := List.all_eq_true.1 h k hk
  simp only [ho, hok] at this
  exact this
theorem ap_dst {o ok : Oper} (h : o.apart ops ok = true) : o.dst ≠ ok.dst ∨ o.dst = none := by
  obtain ⟨-, h2, -⟩ := Oper.apart_spec h
  cases hd : o.dst with
  | none => exact .inr rfl
  | some d => exact .inl fun e => h2 d hd e.symm
theorem wp_mk {o : Oper} {e : Sem Next} {v : Nat → Value} {L : List Value} {T : TypeId} (ha : Mk P e v L T) {BL : List Blk} {a : Act} {w : World} {K : Act → World → Prop} (he : execOp a.eval o = e) (hst : St S w0 w BL)
    (h : ∀ g w', St S w0 w' (BL ++ [(g, L, T)]) → Fr Nob w w' → K (a.put o.dst (v g)) w') : o.wp P a w K Q := by
  obtain ⟨g, w', hr, hf, hle, hg⟩ := ha w
  unfold Oper.wp
  rw [he, hr]
  exact h g w' (hst.new hf hg hle) hf
structure Fls (P : Program) (ops : Array Oper) (Γ : List Flt) (A : (Nat → Value) → Act) : Prop where
  nd : (Γ.map Prod.fst).Nodup
  ok : ∀ q ∈ Γ, ∃ o e, ops[q.1]? = some o ∧ o.guard = none ∧ (∀ x, execOp (A x).eval o = e) ∧ Mk P e q.2.1 q.2.2.1 q.2.2.2
  put : ∀ k ∈ Γ.map Prod.fst, ∀ o, ops[k]? = some o → ∀ x v, (A x).put o.dst v = A (upd x k v)
  not : ∀ k, k ∉ Γ.map Prod.fst → ∀ x v, A (upd x k v) = A x
theorem Fls.step {Γ : List Flt} {A : (Nat → Value) → Act} (h : Fls P ops Γ A) (hsel : Region.noSelect ops = true) {i : Nat} {o : Oper} (ho : ops[i]? = some o) (hd : dstNe ops i (Γ.map Prod.fst) = true) (v : Value) : Fls P ops Γ (fun x => (A x).put o.dst v) := by
  refine ⟨h.nd, fun q hq => ?_, fun k hk ok hok x u => ?_, fun k hk x u => by rw [h.not k hk]⟩
  · obtain ⟨o2, e, h1, h2, h3, h4⟩ := h.ok q hq
    have hap := dst_ap hd ho (List.mem_map_of_mem hq) h1
    refine ⟨o2, e, h1, h2, fun x => ?_, h4⟩
    rw [execOp_put (ops := ops) o2 (fun cs b => Region.noSelect_spec hsel q.1 o2 cs b h1) (A x) o.dst v (Oper.apart_spec hap).1]
    exact h3 x
  · rw [put_comm _ _ _ _ _ (ap_dst (dst_ap hd ho hk hok)), h.put k hk ok hok]
theorem flt_unique {Γ : List Flt} (h : (Γ.map Prod.fst).Nodup) {a b : Flt} (ha : a ∈ Γ) (hb : b ∈ Γ) (he : a.1 = b.1) : a = b := by
  induction Γ with
  | nil => cases ha
  | cons c l ih =>
    rw [List.map_cons, List.nodup_cons] at h
    rcases List.mem_cons.1 ha with ha1 | ha1
    · rcases List.mem_cons.1 hb with hb1 | hb1
      · rw [ha1, hb1]
      · exact absurd (by rw [← ha1, he]; exact List.mem_map_of_mem hb1) h.1
    · rcases List.mem_cons.1 hb with hb1 | hb1
      · exact absurd (by rw [← hb1, ← he]; exact List.mem_map_of_mem ha1) h.1
      · exact ih h.2 ha1 hb1
theorem flt_map (Γ : List Flt) (i : Nat) : (Γ.filter (·.1 != i)).map Prod.fst = (Γ.map Prod.fst).filter (· != i) := by
  induction Γ with
  | nil => rfl
  | cons a l ih =>
    simp only [List.filter_cons, List.map_cons]
    split <;> simp [ih]
theorem nd_filter {l : List Nat} (h : l.Nodup) (p : Nat → Bool) : (l.filter p).Nodup := List.Pairwise.filter p h
theorem len_filter {l : List Nat} (h : l.Nodup) {i : Nat} (hi : i ∈ l) : (l.filter (· != i)).length + 1 = l.length := by
  induction l with
  | nil => cases hi
  | cons a l ih =>
    rw [List.nodup_cons] at h
    rw [List.filter_cons]
    by_cases e : a = i
    · subst e
      rw [if_neg (by simp)]
      have : l.filter (· != a) = l := List.filter_eq_self.2 fun b hb => by
        simp only [bne_iff_ne, ne_eq]
        exact fun e => h.1 (e ▸ hb)
      rw [this]; rfl
    · rw [if_pos (by simpa using e)]
      rcases List.mem_cons.1 hi with rfl | hi
      · exact absurd rfl e
      · simp [← ih h.2 hi]
theorem wpP_of_lad (hsel : Region.noSelect ops = true) (hm : m < ops.size) (hQ : ∀ c (d : Option Tmp) v a w, Q (.panic c) (Act.put a d v) w → Q (.panic c) a w) :
    ∀ (N f : Nat) (s : List LS) (Γ : List Flt) (listed : Array Bool) (D : List (Nat × Value × Blk)) (x : Nat → Value) (w : World) (BL : List Blk) (R : World → Prop) (A : (Nat → Value) → Act),
      f + s.length ≤ N → f + D.length = lcnt s + Γ.length + tl.len → listed.size = ops.size → m ∉ Γ.map Prod.fst → (D.map Prod.fst).Nodup → Cl md ops (mark listed (D.map Prod.fst)) →
      ladOk md ops m tl s (Γ.map Prod.fst) listed = true → (∀ d ∈ D, x d.1 = d.2.1) → Fls P ops Γ A → (∀ d ∈ D, ∃ v, (d.1, v, d.2.2.2.1, d.2.2.2.2) ∈ Γ ∧ d.2.1 = v d.2.2.1) →
      St S w0 w (BL ++ D.map fun d => d.2.2) → R w → (∀ w w', R w → Fr Nob w w' → R w') → (∀ w', St S w0 w' BL → Sx w') →
      Lad P ops Q Sx S w0 tl s Γ BL R A → wpP P md ops Q Sx m f (mark listed (D.map Prod.fst)) (A x) w := by
  intro N
  induction N with
  | zero =>
    intro f s Γ listed D x w BL R A hN hf hsz hmo hDn inv hok hx hfl hDinf hst hR hRm hSx hlad
    obtain rfl : f = 0 := by omega
    obtain rfl : s = [] := by cases s with | nil => rfl | cons _ _ => simp at hN
    simp only [ladOk, Bool.and_eq_true, List.isEmpty_iff, List.map_eq_nil_iff] at hok
    obtain ⟨rfl, hpl⟩ := hok
    obtain rfl : D = [] := by cases D with | nil => rfl | cons d _ => obtain ⟨_, h, _⟩ := hDinf d (by simp); cases h
    have hmk : mark listed (List.map Prod.fst ([] : List (Nat × Value × Blk))) = listed := by
      refine arr_ext (mark_size _ _) fun k hk => ?_
      rw [mark_get _ _ _ (by simpa [mark_size] using hk)]; simp
    rw [hmk] at inv ⊢
    have hst' : St S w0 w BL := by simpa using hst
    have hc : (0 : Nat) = tl.len := by simpa [lcnt] using hf
    have := wpP_of_plan (md := md) hsel hm hQ tl listed (A x) w inv hpl (fun _ => hSx w hst') (hlad x w hst' hR)
    rwa [← hc] at this
  | succ N ih =>
    intro f s Γ listed D x w BL R A hN hf hsz hmo hDn inv hok hx hfl hDinf hst hR hRm hSx hlad
    have hstB : St S w0 w BL := hst.less (List.sublist_append_left _ _)
    have hDo : ∀ d ∈ D, d.1 ∈ Γ.map Prod.fst := fun d hd => by
      obtain ⟨v, h, _⟩ := hDinf d hd
      exact List.mem_map_of_mem (f := Prod.fst) h
    have hDsub : D.map Prod.fst ⊆ Γ.map Prod.fst := fun a ha => by obtain ⟨d, hd, e⟩ := List.mem_map.1 ha; exact e ▸ hDo d hd
    have hDle : D.length ≤ Γ.length := by
      have := List.Nodup.length_le_of_subset hDn hDsub
      simpa using this
    have hml (h : listed.getD m true = false) : (mark listed (D.map Prod.fst)).getD m true = false := by
      rw [mark_get _ _ _ (by rw [hsz]; exact hm), h]
      simp only [Bool.false_or]
      cases hb : (D.map Prod.fst).contains m with
      | false => rfl
      | true => exact absurd (hDsub (List.contains_iff_mem.1 hb)) hmo
    have hmB : ∀ opn' : List Nat, (∀ d ∈ D, d.1 ∈ opn') → (mark listed (D.map Prod.fst)) = mark listed (opn'.filter fun k => (D.map Prod.fst).contains k) := by
      intro opn' hD'
      refine mark_same _ _ _ fun k => ?_
      rw [Bool.eq_iff_iff]
      simp only [List.mem_filter, List.elem_eq_mem, decide_eq_true_eq]
      constructor
      · intro h
        obtain ⟨d, hd, e⟩ := List.mem_map.1 h
        exact ⟨e ▸ hD' d hd, by simpa using h⟩
      · intro h; simpa using h.2
    -- one more of the open blocks is made
    have float : ∀ k, f ≠ 0 → k ∈ Γ.map Prod.fst → k ∉ D.map Prod.fst → k ∈ Region.ready md ops (mark listed (D.map Prod.fst)) →
        wpOp P ops Q k (fun a' w' => ((mark listed (D.map Prod.fst)).getD m true = false → k ≠ m → Sx w') ∧ wpP P md ops Q Sx m (f - 1) ((mark listed (D.map Prod.fst)).setIfInBounds k true) a' w') (A x) w := by
      intro k hf0 hko hkD hkr
      obtain ⟨⟨k2, v, L, T⟩, hq, rfl⟩ := List.mem_map.1 hko
      obtain ⟨o, e, ho, hg, he, hmk⟩ := hfl.ok _ hq
      refine wpOp_one ho hg (wp_mk hmk (he x) hst fun g w' hst' hfr => ?_)
      have hstB' : St S w0 w' BL := hst'.less (by rw [List.append_assoc]; exact List.sublist_append_left _ _)
      refine ⟨fun _ _ => hSx w' hstB', ?_⟩
      rw [hfl.put k2 hko o ho]
      have e1 : (mark listed (D.map Prod.fst)).setIfInBounds k2 true = mark listed ((D ++ [(k2, v g, (g, L, T))]).map Prod.fst) := by
        rw [mark_more]; simp
      have inv' := inv.set hkr
      rw [e1] at inv' ⊢
      refine ih (f - 1) s Γ listed (D ++ [(k2, v g, (g, L, T))]) (upd x k2 (v g)) w' BL R A (by omega) (by simp; omega) hsz hmo ?_ inv' hok ?_ hfl ?_ ?_ (hRm w w' hR hfr) hRm hSx hlad
      · rw [List.map_append, List.nodup_append]
        refine ⟨hDn, by simp, fun a ha b hb => ?_⟩
        simp only [List.map_cons, List.map_nil, List.mem_singleton] at hb
        subst hb
        exact fun h => hkD (h ▸ ha)
      · intro d hd
        rcases List.mem_append.1 hd with h | h
        · have hne : d.1 ≠ k2 := fun h2 => hkD (h2 ▸ List.mem_map_of_mem h)
          rw [upd_other _ _ _ _ (by simpa using hne)]
          exact hx d h
        · simp only [List.mem_singleton] at h; subst h; exact upd_same _ _ _
      · intro d hd
        rcases List.mem_append.1 hd with h | h
        · exact hDinf d h
        · simp only [List.mem_singleton] at h; subst h; exact ⟨v, hq, rfl⟩
      · simpa using hst'
    cases s with
    | nil =>
      simp only [ladOk, Bool.and_eq_true, List.isEmpty_iff, List.map_eq_nil_iff] at hok
      obtain ⟨rfl, hpl⟩ := hok
      obtain rfl : D = [] := by cases D with | nil => rfl | cons d _ => simp at hDle
      have hmk : mark listed (List.map Prod.fst ([] : List (Nat × Value × Blk))) = listed := by
        refine arr_ext (mark_size _ _) fun k hk => ?_
        rw [mark_get _ _ _ (by simpa [mark_size] using hk)]; simp
      rw [hmk] at inv ⊢
      have hc : f = tl.len := by simpa [lcnt] using hf
      have := wpP_of_plan (md := md) hsel hm hQ tl listed (A x) w inv hpl (fun _ => hSx w hstB) (hlad x w hstB hR)
      rwa [← hc] at this
    | cons q s =>
      cases q with
      | w i =>
        obtain ⟨o, v, ho, hy, hK⟩ := hlad
        simp only [ladOk, Bool.and_eq_true, decide_eq_true_eq] at hok
        obtain ⟨⟨⟨him, hdn⟩, hall⟩, hok'⟩ := hok
        have hB := List.all_eq_true.1 hall _ (filter_subs (fun k => (D.map Prod.fst).contains k) (Γ.map Prod.fst))
        rw [← hmB _ hDo, Bool.and_eq_true] at hB
        have hr' : i ∈ Region.ready md ops (mark listed (D.map Prod.fst)) := by simpa using hB.1
        obtain ⟨f', rfl⟩ : ∃ f', f = f' + 1 := ⟨f - 1, by simp [lcnt] at hf; omega⟩
        refine wpP_takeW ho (Region.noSelect_spec hsel) (fun c a w => hQ c o.dst v a w) him hm f' _ (A x) w inv (Region.free_spec ho hB.2) hr' (hy x) (fun _ => hSx w hstB) ?_
        have inv' := inv.set hr'
        rw [mark_set] at inv' ⊢
        exact ih f' s Γ (listed.setIfInBounds i true) D x w BL R (fun x => (A x).put o.dst v) (by simp at hN; omega) (by simp [lcnt] at hf; omega) (by simpa using hsz) hmo hDn inv' hok' hx (hfl.step hsel ho hdn v) hDinf hst hR hRm hSx hK
      | t i =>
        obtain ⟨o, v, ho, hy, hK⟩ := hlad
        simp only [ladOk, Bool.and_eq_true, decide_eq_true_eq] at hok
        obtain ⟨⟨⟨⟨⟨him, hlm⟩, hdn⟩, han⟩, hall⟩, hok'⟩ := hok
        have hB := List.all_eq_true.1 hall _ (filter_subs (fun k => (D.map Prod.fst).contains k) (Γ.map Prod.fst))
        rw [← hmB _ hDo, Bool.and_eq_true] at hB
        have hr' : i ∈ Region.ready md ops (mark listed (D.map Prod.fst)) := by simpa using hB.1
        obtain ⟨f', rfl⟩ : ∃ f', f = f' + 1 := ⟨f - 1, by simp [lcnt] at hf; omega⟩
        refine wpP_takeS ho (Region.noSelect_spec hsel) (fun c a w => hQ c o.dst v a w) him han f' _ (A x) w inv (hml hlm) (Region.free_spec ho hB.2) hr' (hy x) (hSx w hstB) ?_
        have inv' := inv.set hr'
        rw [mark_set] at inv' ⊢
        exact ih f' s Γ (listed.setIfInBounds i true) D x w BL R (fun x => (A x).put o.dst v) (by simp at hN; omega) (by simp [lcnt] at hf; omega) (by simpa using hsz) hmo hDn inv' hok' hx (hfl.step hsel ho hdn v) hDinf hst hR hRm hSx hK
      | c i =>
        obtain ⟨o, ho, hg, X, v, R', hmono, hc, hK⟩ := hlad
        simp only [ladOk, Bool.and_eq_true, decide_eq_true_eq, Bool.not_eq_true'] at hok
        obtain ⟨⟨⟨⟨⟨him, hlm⟩, hio⟩, hdn⟩, hall⟩, hok'⟩ := hok
        have hB := List.all_eq_true.1 hall _ (filter_subs (fun k => (D.map Prod.fst).contains k) (Γ.map Prod.fst))
        unfold cOk at hB
        rw [← hmB _ hDo, Bool.and_eq_true] at hB
        have hr' : i ∈ Region.ready md ops (mark listed (D.map Prod.fst)) := by simpa using hB.1
        obtain ⟨f', rfl⟩ : ∃ f', f = f' + 1 := ⟨f - 1, by simp [lcnt] at hf; omega⟩
        refine ⟨fun h0 => (by rw [h0] at hr'; cases hr'), fun j hj => ?_⟩
        have hcase := List.all_eq_true.1 hB.2 j hj
        simp only [Bool.or_eq_true, beq_iff_eq, Bool.and_eq_true, Bool.not_eq_true'] at hcase
        rcases hcase with rfl | ⟨h1, h2⟩
        · refine wpOp_one ho hg (Oper.wp_mono (fun a' w' h' => ?_) (hc x w hstB hR))
          obtain ⟨y, rfl, hfr, hRy⟩ := h'
          refine ⟨fun _ _ => hSx w' (hstB.keep hfr), ?_⟩
          have inv' := inv.set hr'
          rw [mark_set] at inv' ⊢
          exact ih f' s Γ (listed.setIfInBounds j true) D x w' BL (fun w => R w ∧ R' y w) (fun x => (A x).put o.dst (v y)) (by simp at hN; omega) (by simp [lcnt] at hf; omega) (by simpa using hsz) hmo hDn inv' hok' hx (hfl.step hsel ho hdn (v y)) hDinf (hst.keep hfr) ⟨hRm w w' hR hfr, hRy⟩ (fun a b h k => ⟨hRm a b h.1 k, hmono y a b h.2 k⟩) hSx (hK y)
        · have h3 : j ∉ D.map Prod.fst := by
            intro h4
            have : ((Γ.map Prod.fst).filter fun k => (D.map Prod.fst).contains k).contains j = true := by
              simp only [List.contains_iff_mem, List.mem_filter]
              exact ⟨by simpa using h1, by simpa using h4⟩
            rw [this] at h2; cases h2
          exact float j (by omega) (by simpa using h1) h3 hj
      | o i =>
        obtain ⟨o, e, v, L, T, ho, hg, he, hmk, hK⟩ := hlad
        simp only [ladOk, Bool.and_eq_true, decide_eq_true_eq, Bool.not_eq_true'] at hok
        obtain ⟨⟨⟨⟨⟨him, hlm⟩, hio⟩, hdn⟩, hself⟩, hok'⟩ := hok
        have hio' : i ∉ Γ.map Prod.fst := by simpa using hio
        obtain ⟨u, hu⟩ := put_back (A x) o.dst
        have hAx : A x = (A (upd x i u)).put o.dst (upd x i u i) := by rw [upd_same, hfl.not i hio', hu]
        rw [hAx]
        have hs0 : ∀ d, o.dst = some d → d ∉ o.looksAt ops := by
          intro d hd
          unfold selfOk at hself
          simp only [ho, hd] at hself
          simpa using hself
        refine ih f s ((i, v, L, T) :: Γ) listed D (upd x i u) w BL R (fun x => (A x).put o.dst (x i)) (by simp at hN; omega) (by simp [lcnt] at hf ⊢; omega) hsz ?_ hDn inv hok' ?_ ⟨?_, ?_, ?_, ?_⟩ (fun d hd => by obtain ⟨v, h1, h2⟩ := hDinf d hd; exact ⟨v, List.mem_cons_of_mem _ h1, h2⟩) hst hR hRm hSx hK
        · simp only [List.map_cons, List.mem_cons, not_or]; exact ⟨fun h => him h.symm, hmo⟩
        · intro d hd
          have hne : d.1 ≠ i := fun h => hio' (h ▸ hDo d hd)
          rw [upd_other _ _ _ _ (by simpa using hne)]
          exact hx d hd
        · rw [List.map_cons, List.nodup_cons]; exact ⟨hio', hfl.nd⟩
        · intro q hq
          rcases List.mem_cons.1 hq with rfl | hq
          · refine ⟨o, e, ho, hg, fun x => ?_, hmk⟩
            show execOp ((A x).put o.dst (x i)).eval o = e
            rw [execOp_put (ops := ops) o (fun cs b => Region.noSelect_spec hsel i o cs b ho) _ _ _ hs0, he]
          · obtain ⟨o2, e2, h1, h2, h3, h4⟩ := hfl.ok q hq
            have hap := dst_ap hdn ho (List.mem_map_of_mem hq) h1
            refine ⟨o2, e2, h1, h2, fun x => ?_, h4⟩
            show execOp ((A x).put o.dst (x i)).eval o2 = e2
            rw [execOp_put (ops := ops) o2 (fun cs b => Region.noSelect_spec hsel q.1 o2 cs b h1) _ _ _ (Oper.apart_spec hap).1, h3]
        · intro k hk ok hok x v
          show ((A x).put o.dst (x i)).put ok.dst v = (A (upd x k v)).put o.dst (upd x k v i)
          rw [List.map_cons] at hk
          rcases List.mem_cons.1 hk with rfl | hk
          · have : ok = o := Option.some.inj (hok.symm.trans ho)
            subst this
            rw [put_twice, upd_same, hfl.not _ hio']
          · have hne : i ≠ k := fun h => hio' (h ▸ hk)
            rw [put_comm _ _ _ _ _ (ap_dst (dst_ap hdn ho hk hok)), hfl.put k hk ok hok, upd_other _ _ _ _ (by simpa using hne)]
        · intro k hk x v
          show (A (upd x k v)).put o.dst (upd x k v i) = (A x).put o.dst (x i)
          simp only [List.map_cons, List.mem_cons, not_or] at hk
          rw [hfl.not k hk.2, upd_other _ _ _ _ (by simpa using fun h => hk.1 h.symm)]
      | j i =>
        obtain ⟨v, L, T, hq, hK⟩ := hlad
        simp only [ladOk, Bool.and_eq_true, decide_eq_true_eq, Bool.not_eq_true'] at hok
        obtain ⟨⟨⟨⟨hio, hlm⟩, hmo2⟩, hall⟩, hok'⟩ := hok
        have hio' : i ∈ Γ.map Prod.fst := by simpa using hio
        by_cases hiD : i ∈ D.map Prod.fst
        · obtain ⟨d, hd, rfl⟩ := List.mem_map.1 hiD
          obtain ⟨v2, hq2, hv2⟩ := hDinf d hd
          obtain ⟨D1, D2, rfl⟩ := List.append_of_mem hd
          obtain ⟨k, u, g, L2, T2⟩ := d
          have hqe := flt_unique hfl.nd hq hq2 rfl
          simp only [Prod.mk.injEq, true_and] at hqe
          obtain ⟨rfl, rfl, rfl⟩ := hqe
          have hxd := hx _ hd
          have hDn' : k ∉ D1.map Prod.fst ∧ k ∉ D2.map Prod.fst ∧ ((D1 ++ D2).map Prod.fst).Nodup := by
            have hp : (List.map Prod.fst (D1 ++ (k, u, g, L, T) :: D2)).Perm (k :: List.map Prod.fst (D1 ++ D2)) := by
              rw [List.map_append, List.map_cons, List.map_append]
              exact List.perm_middle
            have := (hp.nodup_iff).1 hDn
            rw [List.nodup_cons] at this
            simp only [List.map_append, List.mem_append, not_or] at this ⊢
            exact ⟨this.1.1, this.1.2, this.2⟩
          have hAx : A x = A (upd x k (v g)) := by
            have h1 : x k = v g := hxd.trans hv2
            rw [← h1, upd_self]
          rw [hAx]
          have hmk : mark listed ((D1 ++ (k, u, g, L, T) :: D2).map Prod.fst) = mark (listed.setIfInBounds k true) ((D1 ++ D2).map Prod.fst) := by
            refine arr_ext (by simp [mark_size]) fun q hq => ?_
            have hq' : q < listed.size := by simpa [mark_size] using hq
            rw [mark_get _ _ _ hq', mark_get _ _ _ (by simpa using hq')]
            by_cases e : k = q
            · subst e; rw [getD_set_self hq']; simp
            · rw [getD_set_ne true e]
              have : (q == k) = false := by simpa using fun h => e h.symm
              simp only [List.map_append, List.map_cons, List.contains_append, List.contains_cons, this, Bool.false_or]
          rw [hmk] at inv ⊢
          have hDk : ∀ d ∈ D1 ++ D2, d ∈ D1 ++ (k, u, g, L, T) :: D2 ∧ d.1 ≠ k := by
            intro d hd'
            refine ⟨?_, fun h => ?_⟩
            · rcases List.mem_append.1 hd' with h | h
              · exact List.mem_append_left _ h
              · exact List.mem_append_right _ (List.mem_cons_of_mem _ h)
            · rcases List.mem_append.1 hd' with h2 | h2
              · exact hDn'.1 (h ▸ List.mem_map_of_mem h2)
              · exact hDn'.2.1 (h ▸ List.mem_map_of_mem h2)
          have hmem : ∀ q ∈ Γ, q.1 ≠ k → q ∈ Γ.filter (·.1 != k) := fun q hq hne => List.mem_filter.2 ⟨hq, by simpa using hne⟩
          refine ih f s (Γ.filter (·.1 != k)) (listed.setIfInBounds k true) (D1 ++ D2) x w (BL ++ [(g, L, T)]) R (fun x => A (upd x k (v g))) (by simp at hN; omega) ?_ (by simpa using hsz) ?_ hDn'.2.2 inv ?_ (fun d hd' => hx d (hDk d hd').1) ⟨?_, ?_, ?_, ?_⟩ ?_ ?_ hR hRm ?_ (hK g)
          · have h1 := len_filter hfl.nd hio'
            rw [← flt_map] at h1
            simp only [List.length_map] at h1
            simp [lcnt] at hf ⊢
            omega
          · rw [flt_map]; exact fun h => hmo (List.mem_filter.1 h).1
          · rw [flt_map]; exact hok'
          · rw [flt_map]; exact nd_filter hfl.nd _
          · intro q hq
            obtain ⟨o2, e2, h1, h2, h3, h4⟩ := hfl.ok q (List.mem_filter.1 hq).1
            exact ⟨o2, e2, h1, h2, fun x => h3 _, h4⟩
          · intro q hq oq hoq x y
            show (A (upd x k _)).put oq.dst y = A (upd (upd x q y) k _)
            rw [flt_map] at hq
            have hqk : q ≠ k := by simpa using (List.mem_filter.1 hq).2
            rw [hfl.put q (List.mem_filter.1 hq).1 oq hoq]
            congr 1
            funext z
            unfold upd
            by_cases h1 : z = q
            · subst h1; rw [if_pos rfl, if_neg hqk, if_pos rfl]
            · rw [if_neg h1]; by_cases h2 : z = k
              · rw [if_pos h2, if_pos h2]
              · rw [if_neg h2, if_neg h2, if_neg h1]
          · intro q hq x y
            show A (upd (upd x q y) k _) = A (upd x k _)
            by_cases hqk : q = k
            · subst hqk
              congr 1
              funext z
              unfold upd
              by_cases h1 : z = q
              · rw [if_pos h1, if_pos h1]
              · rw [if_neg h1, if_neg h1, if_neg h1]
            · have hq' : q ∉ Γ.map Prod.fst := fun h => hq (by rw [flt_map]; exact List.mem_filter.2 ⟨h, by simpa using hqk⟩)
              have : upd (upd x q y) k (v g) = upd (upd x k (v g)) q y := by
                funext z
                unfold upd
                by_cases h1 : z = k
                · subst h1; rw [if_pos rfl, if_neg (fun h => hqk h.symm), if_pos rfl]
                · rw [if_neg h1]; by_cases h2 : z = q
                  · rw [if_pos h2, if_pos h2]
                  · rw [if_neg h2, if_neg h2, if_neg h1]
              rw [this, hfl.not q hq']
          · intro d hd'
            obtain ⟨v', h1, h2⟩ := hDinf d (hDk d hd').1
            exact ⟨v', hmem _ h1 (hDk d hd').2, h2⟩
          · refine hst.perm ?_
            rw [List.append_assoc]
            refine List.Perm.append_left _ ?_
            rw [List.map_append, List.map_append, List.map_cons]
            exact (List.perm_middle (a := (g, L, T)) (l₁ := List.map (fun d => d.2.2) D1) (l₂ := List.map (fun d => d.2.2) D2)).symm
          · intro w' h; exact hSx w' (h.less (List.sublist_append_left _ _))
        · have hDe : ∀ d ∈ D, d.1 ∈ (Γ.map Prod.fst).filter (· != i) := fun d hd => List.mem_filter.2 ⟨hDo d hd, by
            simp only [bne_iff_ne, ne_eq]
            exact fun h => hiD (by rw [← h]; exact List.mem_map_of_mem hd)⟩
          have hB := List.all_eq_true.1 hall _ (filter_subs (fun k => (D.map Prod.fst).contains k) ((Γ.map Prod.fst).filter (· != i)))
          unfold cOk at hB
          rw [← hmB _ hDe, Bool.and_eq_true] at hB
          have hr' : i ∈ Region.ready md ops (mark listed (D.map Prod.fst)) := by simpa using hB.1
          obtain ⟨f', rfl⟩ : ∃ f', f = f' + 1 := ⟨f - 1, by
            have h1 := List.Nodup.length_le_of_subset hDn (l₂ := (Γ.map Prod.fst).filter (· != i)) (fun a ha => by obtain ⟨d, hd, e⟩ := List.mem_map.1 ha; exact e ▸ hDe d hd)
            have h2 := len_filter hfl.nd hio'
            simp [lcnt] at hf h1 h2; omega⟩
          refine ⟨fun h0 => (by rw [h0] at hr'; cases hr'), fun j hj => ?_⟩
          have hcase := List.all_eq_true.1 hB.2 j hj
          simp only [Bool.or_eq_true, beq_iff_eq, Bool.and_eq_true, Bool.not_eq_true'] at hcase
          have hfl2 := float j (by omega)
          simp only [Nat.add_sub_cancel] at hfl2
          rcases hcase with rfl | ⟨h1, h2⟩
          · exact hfl2 hio' hiD hj
          · have h1' : j ∈ Γ.map Prod.fst := by simpa using h1
            have h3 : j ∉ D.map Prod.fst := by
              intro h4
              have h5 : j ∈ (Γ.map Prod.fst).filter (· != i) := by
                obtain ⟨d, hd, e⟩ := List.mem_map.1 h4
                exact e ▸ hDe d hd
              have : (((Γ.map Prod.fst).filter (· != i)).filter fun k => (D.map Prod.fst).contains k).contains j = true := by
                simp only [List.contains_iff_mem, List.mem_filter]
                exact ⟨by simpa using h5, by simpa using h4⟩
              rw [this] at h2; cases h2
            exact hfl2 h1' h3 hj

def ladAll (ops : Array Oper) (m : Nat) (s : List LS) (tl : Pl) : Bool :=
  Region.noSelect ops && decide (m < ops.size) && decide (lcnt s + tl.len = ops.size) && ladOk .any ops m tl s [] (Array.replicate ops.size false)
/-- THE BEGINNING -/
theorem wp_region_lad {id : Nat} {a : Act} {w : World} {l : List Oper} {BL : List Blk} (hst : St S w0 w BL) (m : Nat) (s : List LS) (tl : Pl) (hm : P.follows .mixedOrders = true) (hB : ladAll l.toArray m s tl = true)
    (hQ : ∀ c (d : Option Tmp) v a w, Q (.panic c) (Act.put a d v) w → Q (.panic c) a w)
    (h : Lad P l.toArray Q (fun w => St S w0 w BL) S w0 tl s [] BL (fun _ => True) (fun _ => a)) : (Code.region id l.toArray true).wp P Q a w := by
  simp only [ladAll, Bool.and_eq_true, decide_eq_true_eq] at hB
  obtain ⟨⟨⟨hsel, hms⟩, hlen⟩, hok⟩ := hB
  have hmk : mark (Array.replicate l.toArray.size false) (List.map Prod.fst ([] : List (Nat × Value × Blk))) = Array.replicate l.toArray.size false := by
    refine arr_ext (mark_size _ _) fun k hk => ?_
    rw [mark_get _ _ _ (by simpa [mark_size] using hk)]; simp
  have inv0 : Cl .any l.toArray (Array.replicate l.toArray.size false) :=
    ⟨by simp, fun j oj _ hl => (by rw [getD_replicate_false] at hl; cases hl)⟩
  have H := wpP_of_lad (md := .any) (Sx := fun w => St S w0 w BL) hsel hms hQ (l.toArray.size + s.length) l.toArray.size s [] (Array.replicate l.toArray.size false) [] (fun _ => undef) w.drew BL (fun _ => True) (fun _ => a)
    (Nat.le_refl _) (by simp [hlen]) (by simp) (by simp) (by simp) (by rw [hmk]; exact inv0) hok (by simp) ⟨by simp, by simp, by simp, fun _ _ _ _ => rfl⟩ (by simp) (by simpa using hst.drew) trivial (fun _ _ _ _ => trivial) (fun _ h => h) h
  rw [hmk] at H
  exact wp_region_any hm (wpAny_of_P _ _ _ _ H)

theorem Lad.weaken : ∀ (s : List LS) {Γ : List Flt} {BL : List Blk} {R R2 : World → Prop} {A : (Nat → Value) → Act}, (∀ w, R2 w → R w) → Lad P ops Q Sx S w0 tl s Γ BL R A → Lad P ops Q Sx S w0 tl s Γ BL R2 A
  | [], _, _, _, _, _, h2, h => fun x w a b => h x w a (h2 w b)
  | .w _ :: s, _, _, _, _, _, h2, ⟨o, v, a, b, c⟩ => ⟨o, v, a, b, Lad.weaken s h2 c⟩
  | .t _ :: s, _, _, _, _, _, h2, ⟨o, v, a, b, c⟩ => ⟨o, v, a, b, Lad.weaken s h2 c⟩
  | .c _ :: s, _, _, _, _, _, h2, ⟨o, a, b, X, v, R', c, d, e⟩ => ⟨o, a, b, X, v, R', c, fun x w p q => d x w p (h2 w q), fun y => Lad.weaken s (fun w h => ⟨h2 w h.1, h.2⟩) (e y)⟩
  | .o _ :: s, _, _, _, _, _, h2, ⟨o, e, v, L, T, a, b, c, d, f⟩ => ⟨o, e, v, L, T, a, b, c, d, Lad.weaken s h2 f⟩
  | .j _ :: s, _, _, _, _, _, h2, ⟨v, L, T, a, b⟩ => ⟨v, L, T, a, fun g => Lad.weaken s h2 (b g)⟩

/- the steps -/
variable {l : List Oper} {i : Nat} {s : List LS} {Γ : List Flt} {BL : List Blk} {R : World → Prop} {A : (Nat → Value) → Act} {o : Oper}
theorem lad_end (h : ∀ x w, St S w0 w BL → R w → wpPlan P l.toArray Q Sx tl (A x) w) : Lad P l.toArray Q Sx S w0 tl [] Γ BL R A := h
theorem lad_w (ho : l[i]? = some o) (hg : o.guard = none) {v : Value} (hv : ∀ x wx, (execOp (A x).eval o).run P wx = .ok (.value v) wx) (h : Lad P l.toArray Q Sx S w0 tl s Γ BL R (fun x => (A x).put o.dst v)) : Lad P l.toArray Q Sx S w0 tl (.w i :: s) Γ BL R A :=
  ⟨o, v, by simpa using ho, fun x => .inl ⟨by simp [Region.wanted, hg], fun wx _ => hv x wx⟩, h⟩
theorem lad_t (ho : l[i]? = some o) (hg : o.guard = none) {v : Value} (hv : ∀ x wx, Sx wx → (execOp (A x).eval o).run P wx = .ok (.value v) wx) (h : Lad P l.toArray Q Sx S w0 tl s Γ BL R (fun x => (A x).put o.dst v)) : Lad P l.toArray Q Sx S w0 tl (.t i :: s) Γ BL R A :=
  ⟨o, v, by simpa using ho, fun x => .inl ⟨by simp [Region.wanted, hg], hv x⟩, h⟩
theorem lad_arr (ho : l[i]? = some o) (hg : o.guard = none) {ty : TypeId} {q : Operand} (hop : o.op = .load ty q) {g p : Nat} (hx : ∀ x, (A x).eval q = .pointer (some ⟨g, p, none⟩)) (cs : List Value) (hS : ∀ wx, Sx wx → wx.rangeAt g p cs)
    {d : TypeDesc} (hu : P.underlying ty = some d) (hd : d.isRow = true) (hi : (P.info? ty).map (·.size) = some cs.length) (h : Lad P l.toArray Q Sx S w0 tl s Γ BL R (fun x => (A x).put o.dst (.agg cs.toArray))) : Lad P l.toArray Q Sx S w0 tl (.t i :: s) Γ BL R A :=
  ⟨o, _, by simpa using ho, fun x => yieldsIf_load_mid (by simp [Region.wanted, hg]) ty q hop g p (hx x) cs d hS hu hd hi, h⟩
theorem mk_alloc {e : TypeId} {z : Value} (hi : (P.info? e).map (·.zero) = some (some z)) {a : Act} (hop : o.op = .alloc e) (L : List Value) (hL : z.cells.toList = L) : Mk P (execOp a.eval o) (fun g => .pointer (some ⟨g, 0, none⟩)) L e := by
  intro w
  obtain ⟨i, hi1, hz⟩ : ∃ i, P.info? e = some i ∧ i.zero = some z := by simpa using hi
  have hr : (Instr.alloc e true (.tuple #[])).run P w = .ok (.pointer (some ⟨w.heap.size, 0, none⟩)) (w.alloc (.cells z.cells e)) := by
    simp [Instr.alloc, zeroValue, typeInfo, hi1, hz, newVar, newRow]
  refine ⟨w.heap.size, w.alloc (.cells z.cells e), ?_, (Fr.refl _ w).alloc _, Nat.le_refl _, ?_⟩
  · unfold execOp
    simp only [hop, Sem.run_bind, Sem.run_pure, Result.andThen_ok, hr]
  · have hg := Has.new w z.cells e
    rwa [hL] at hg
theorem lad_o {e : TypeId} {z : Value} (ho : l[i]? = some o) (hg : o.guard = none) (hop : o.op = .alloc e) (hi : (P.info? e).map (·.zero) = some (some z)) (L : List Value) (hL : z.cells.toList = L) (h : Lad P l.toArray Q Sx S w0 tl s ((i, fun g => .pointer (some ⟨g, 0, none⟩), L, e) :: Γ) BL R (fun x => (A x).put o.dst (x i))) : Lad P l.toArray Q Sx S w0 tl (.o i :: s) Γ BL R A :=
  ⟨o, execOp (A fun _ => undef).eval o, _, L, e, by simpa using ho, hg, fun x => by unfold execOp; rw [hop], mk_alloc hi hop L hL, h⟩
/-- a maker of any kind -/
theorem lad_mk {e : Sem Next} {v : Nat → Value} {L : List Value} {T : TypeId} (ho : l[i]? = some o) (hg : o.guard = none) (he : ∀ x, execOp (A x).eval o = e) (hm : Mk P e v L T) (h : Lad P l.toArray Q Sx S w0 tl s ((i, v, L, T) :: Γ) BL R (fun x => (A x).put o.dst (x i))) : Lad P l.toArray Q Sx S w0 tl (.o i :: s) Γ BL R A :=
  ⟨o, e, v, L, T, by simpa using ho, hg, he, hm, h⟩
theorem lad_j {v : Nat → Value} {L : List Value} {T : TypeId} (hq : (i, v, L, T) ∈ Γ) (h : ∀ g, Lad P l.toArray Q Sx S w0 tl s (Γ.filter (·.1 != i)) (BL ++ [(g, L, T)]) R (fun x => A (upd x i (v g)))) : Lad P l.toArray Q Sx S w0 tl (.j i :: s) Γ BL R A :=
  ⟨v, L, T, hq, h⟩
theorem wp_go {a : Act} {w : World} {K : Act → World → Prop} {f : FuncId} {xs : Array Operand} {ats : Array TypeId} (hop : o.op = .call { callee := .value (.func f), args := xs, argTypes := ats }) (hcl : ∀ us w, (callFunc f us).run P w = .ok (.enter f us) w)
    {vs : List Value} (hargs : xs.toList.map a.eval = vs) (h : Calls P f vs.toArray w fun e w' => ∃ v, e = .returned v ∧ K (a.put o.dst v) w') : o.wp P a w K Q := by
  have he : execOp a.eval o = callFunc f vs.toArray := by
    have h1 : execOp a.eval o = callFunc f (#[] ++ xs.map a.eval ++ #[]) := by
      unfold execOp
      rw [hop]
      rfl
    rw [h1]
    congr 1
    rw [← hargs]
    simp [← Array.toList_map]
  unfold Oper.wp
  rw [he, hcl]
  refine h.mono fun e w' h' => ?_
  obtain ⟨v, rfl, h2⟩ := h'
  exact h2
/-- a call that turns nothing, of one answer -/
theorem lad_call {f : FuncId} {xs : Array Operand} {ats : Array TypeId} (ho : l[i]? = some o) (hg : o.guard = none) (hop : o.op = .call { callee := .value (.func f), args := xs, argTypes := ats }) (hcl : ∀ us w, (callFunc f us).run P w = .ok (.enter f us) w)
    {vs : List Value} {v : Value} (hc : ∀ w, St S w0 w BL → R w → Calls P f vs.toArray w fun e w' => e = .returned v ∧ Fr Nob w w') (hargs : ∀ x, xs.toList.map (A x).eval = vs)
    (h : Lad P l.toArray Q Sx S w0 tl s Γ BL R (fun x => (A x).put o.dst v)) : Lad P l.toArray Q Sx S w0 tl (.c i :: s) Γ BL R A := by
  exact ⟨o, by simpa using ho, hg, Unit, fun _ => v, fun _ _ => True, fun _ _ _ _ _ => trivial, fun x w hst hR => wp_go hop hcl (hargs x) ((hc w hst hR).mono fun e w' h' => ⟨v, h'.1, (), rfl, h'.2, trivial⟩), fun _ => Lad.weaken s (fun w h => h.1) h⟩
/-- a call whose answer is told by some y, with what stays true of it -/
theorem lad_callX {X : Type} (v : X → Value) (R' : X → World → Prop) (hm : ∀ y w w', R' y w → Fr Nob w w' → R' y w') {f : FuncId} {xs : Array Operand} {ats : Array TypeId} (ho : l[i]? = some o) (hg : o.guard = none) (hop : o.op = .call { callee := .value (.func f), args := xs, argTypes := ats }) (hcl : ∀ us w, (callFunc f us).run P w = .ok (.enter f us) w)
    {vs : List Value} (hc : ∀ w, St S w0 w BL → R w → Calls P f vs.toArray w fun e w' => ∃ y, e = .returned (v y) ∧ R' y w' ∧ Fr Nob w w') (hargs : ∀ x, xs.toList.map (A x).eval = vs)
    (h : ∀ y, Lad P l.toArray Q Sx S w0 tl s Γ BL (fun w => R w ∧ R' y w) (fun x => (A x).put o.dst (v y))) : Lad P l.toArray Q Sx S w0 tl (.c i :: s) Γ BL R A :=
  ⟨o, by simpa using ho, hg, X, v, R', hm, fun x w hst hR => wp_go hop hcl (hargs x) ((hc w hst hR).mono fun e w' h' => by obtain ⟨y, h1, h2, h3⟩ := h'; exact ⟨v y, h1, y, rfl, h3, h2⟩), h⟩
variable {rest : List Oper} {a : Act} {w : World}
end
end Go.Mv

/- group: double. -/
namespace Go.Proofs.Ytdbgddngapminaa
open Go.RowKit Go.Mv Mvp
theorem z_ge : (Try.prog.info? 70).map (·.zero) = some (some (.agg (cw 4 0).toArray)) := by kernel_rfl
theorem MSquare_v (m : Md) (gp : Nat) (w : World) (hok : m.Ok) (hpm : Has w gp (mdL m) 134) (x r : Nat) (hr : x * x = r) :
    Calls Try.prog 93 #[.pointer (some ⟨gp, 0, none⟩), i4 (elN m x)] w fun e w' => e = .returned (i4 (elN m r)) ∧ Fr Nob w w' := by
  subst hr; exact MSquare_any m gp w hok hpm x
theorem MMul_v (m : Md) (gp : Nat) (w : World) (hok : m.Ok) (hpm : Has w gp (mdL m) 134) (x y r : Nat) (hr : x * y = r) :
    Calls Try.prog 94 #[.pointer (some ⟨gp, 0, none⟩), i4 (elN m x), i4 (elN m y)] w fun e w' => e = .returned (i4 (elN m r)) ∧ Fr Nob w w' := by
  subst hr; exact MMulE m gp w hok hpm x y
theorem MAdd_v (m : Md) (gp : Nat) (w : World) (hok : m.Ok) (hpm : Has w gp (mdL m) 134) (x y r : Nat) (hr : x + y = r) :
    Calls Try.prog 98 #[.pointer (some ⟨gp, 0, none⟩), i4 (elN m x), i4 (elN m y)] w fun e w' => e = .returned (i4 (elN m r)) ∧ Fr Nob w w' := by
  subst hr; exact MAdd_any m gp w hok hpm x y
theorem MSub_v (m : Md) (gp : Nat) (w : World) (hok : m.Ok) (hpm : Has w gp (mdL m) 134) (x y r : Nat) (hr : x + (m.M - y % m.M) = r) :
    Calls Try.prog 95 #[.pointer (some ⟨gp, 0, none⟩), i4 (elN m x), i4 (elN m y)] w fun e w' => e = .returned (i4 (elN m r)) ∧ Fr Nob w w' := by
  subst hr; exact MSub_any m gp w hok hpm x y
attribute [local irreducible] limbs lw mix cw cSub cAdd cMul foldC valFrom beN laid be32 powm montT mstep elN mdL numB
set_option maxHeartbeats 16000000 in
set_option maxRecDepth 1000000 in
theorem double_none (m : Md) (gc gp bx by_ : Nat) (w : World) (hok : m.Ok) (hcv : Has w gc (crvL m gp bx by_) 93) (hpm : Has w gp (mdL m) 134) (x y z : Nat) (hb : (z % m.M == 0) = true) :
    Calls Try.prog 97 #[.pointer (some ⟨gc, 0, none⟩), ptV m x y z] w fun e w' => e = .returned (ptV m x y z) ∧ Fr Nob w w' := by
  have HOK := Lib.hid hok
  have HCV := Lib.hid hcv
  have HPM := Lib.hid hpm
  clear hok hcv hpm
  have HB := Lib.hid hb
  clear hb
  unfold ptV ptL
  have st0 := St.start Nob w
  go_enter Try.func97, Try.ntmps97
  go_wp2_with (with_reducible refine wl_stop (o := ⟨some 3, _, _, _, _, _⟩) ?_)
  refine wl_boxS st0 rfl rfl rfl (cw 4 (elN m x) ++ (cw 4 (elN m y) ++ cw 4 (elN m z))) rfl ?_
  intro g3 w1 st1
  clear st0
  go_wp2_with (with_reducible refine wl_stop (o := ⟨some 4, _, _, _, _, _⟩) ?_)
  refine wl_allocS st1 rfl rfl (z := .agg #[.int .u64 0, .int .u64 0, .int .u64 0, .int .u64 0, .int .u64 0, .int .u64 0, .int .u64 0, .int .u64 0, .int .u64 0, .int .u64 0, .int .u64 0, .int .u64 0]) (by kernel_rfl) (cw 12 0) (by rw [cw_zero]; rfl) ?_
  intro g4 w2 st2
  clear st1
  go_wp2_with (with_reducible refine wl_stop (o := ⟨some 13, _, _, _, _, _⟩) ?_)
  refine wl_loadSt st2 0 rfl rfl rfl Try.underlying72 rfl rfl (by kernel_rfl) ?_
  go_wp2_with fail
  refine (none_any m HOK.out x y z true HB.out _).mono ?_
  rintro e' w3 ⟨rfl, hf3⟩
  have st3 := st2.keep hf3
  clear st2 hf3
  go_wp2_with (with_reducible refine wl_stop (o := ⟨some 15, _, _, _, _, _⟩) ?_)
  refine wl_loadSt st3 0 rfl rfl rfl Try.underlying72 rfl rfl (by kernel_rfl) ?_
  go_wp2_with (with_reducible refine wl_stop (o := ⟨none, _, _, _, _, _⟩) ?_)
  refine wl_storeS st3 1 rfl rfl rfl rfl rfl (by simp [cw_len]) (by kernel_rfl) (pt_one _ _ _) ?_
  intro w4 st4
  clear st3
  have hr := st4.at 1 rfl
  have hfr := st4.fr
  clear st4
  go_wp2_with fail
  exact bodyPost_ret (results_st rfl rfl hr Try.underlying72 rfl (by kernel_rfl)) rfl ⟨rfl, hfr⟩

set_option maxHeartbeats 16000000 in
set_option maxRecDepth 1000000 in
theorem double_v (m : Md) (gc gp bx by_ : Nat) (w : World) (hok : m.Ok) (hcv : Has w gc (crvL m gp bx by_) 93) (hpm : Has w gp (mdL m) 134) (x y z : Nat) (hb : (z % m.M == 0) = false) (a b bb s1 s2 s3 d1 d e1 ee f1 f2 X k1 k2 k3 z1 h1 h2 Y Z : Nat) (ea : x * x = a) (eb : y * y = b) (ebb : b * b = bb) (es1 : x + b = s1) (es2 : s1 * s1 = s2) (es3 : a + bb = s3) (ed1 : s2 + (m.M - s3 % m.M) = d1) (ed : d1 + d1 = d) (ee1 : a + a = e1) (eee : e1 + a = ee) (ef1 : ee * ee = f1) (ef2 : d + d = f2) (eX : f1 + (m.M - f2 % m.M) = X) (ek1 : bb + bb = k1) (ek2 : k1 + k1 = k2) (ek3 : k2 + k2 = k3) (ez1 : y * z = z1) (eh1 : d + (m.M - X % m.M) = h1) (eh2 : ee * h1 = h2) (eY : h2 + (m.M - k3 % m.M) = Y) (eZ : z1 + z1 = Z) :
    Calls Try.prog 97 #[.pointer (some ⟨gc, 0, none⟩), ptV m x y z] w fun e w' => e = .returned (ptV m X Y Z) ∧ Fr Nob w w' := by
  have HOK := Lib.hid hok
  have HCV := Lib.hid hcv
  have HPM := Lib.hid hpm
  clear hok hcv hpm
  have HB := Lib.hid hb
  have Ha := Lib.hid ea
  have Hb := Lib.hid eb
  have Hbb := Lib.hid ebb
  have Hs1 := Lib.hid es1
  have Hs2 := Lib.hid es2
  have Hs3 := Lib.hid es3
  have Hd1 := Lib.hid ed1
  have Hd := Lib.hid ed
  have He1 := Lib.hid ee1
  have Hee := Lib.hid eee
  have Hf1 := Lib.hid ef1
  have Hf2 := Lib.hid ef2
  have HX := Lib.hid eX
  have Hk1 := Lib.hid ek1
  have Hk2 := Lib.hid ek2
  have Hk3 := Lib.hid ek3
  have Hz1 := Lib.hid ez1
  have Hh1 := Lib.hid eh1
  have Hh2 := Lib.hid eh2
  have HY := Lib.hid eY
  have HZ := Lib.hid eZ
  clear hb ea eb ebb es1 es2 es3 ed1 ed ee1 eee ef1 ef2 eX ek1 ek2 ek3 ez1 eh1 eh2 eY eZ
  unfold ptV ptL
  have st0 := St.start Nob w
  go_enter Try.func97, Try.ntmps97
  go_wp2_with (with_reducible refine wl_stop (o := ⟨some 3, _, _, _, _, _⟩) ?_)
  refine wl_boxS st0 rfl rfl rfl (cw 4 (elN m x) ++ (cw 4 (elN m y) ++ cw 4 (elN m z))) rfl ?_
  intro g3 w1 st1
  clear st0
  go_wp2_with (with_reducible refine wl_stop (o := ⟨some 4, _, _, _, _, _⟩) ?_)
  refine wl_allocS st1 rfl rfl (z := .agg #[.int .u64 0, .int .u64 0, .int .u64 0, .int .u64 0, .int .u64 0, .int .u64 0, .int .u64 0, .int .u64 0, .int .u64 0, .int .u64 0, .int .u64 0, .int .u64 0]) (by kernel_rfl) (cw 12 0) (by rw [cw_zero]; rfl) ?_
  intro g4 w2 st2
  clear st1
  go_wp2_with (with_reducible refine wl_stop (o := ⟨some 13, _, _, _, _, _⟩) ?_)
  refine wl_loadSt st2 0 rfl rfl rfl Try.underlying72 rfl rfl (by kernel_rfl) ?_
  go_wp2_with fail
  refine (none_any m HOK.out x y z false HB.out _).mono ?_
  rintro e' w3 ⟨rfl, hf3⟩
  have st3 := st2.keep hf3
  clear st2 hf3
  go_wp2_with fail
  refine wp_region_noPanic ?_
  refine wp_region_lad st3 17 [.o 14, .o 15, .w 0, .w 1, .w 2, .t 3, .w 4, .t 5, .w 7, .w 8, .w 9, .t 10, .w 11, .t 12, .c 6, .c 13, .j 14, .j 15] (.r 16 (.m 17 .nil)) (by kernel_rfl) (by kernel_rfl) (fun _ _ _ _ _ h => h) ?_
  clear st3
  refine lad_o rfl rfl rfl z_ge (cw 4 0) rfl ?_
  try simp only [Act.put, List.setIfInBounds_toArray, List.set_cons_zero, List.set_cons_succ]
  refine lad_o rfl rfl rfl z_ge (cw 4 0) rfl ?_
  try simp only [Act.put, List.setIfInBounds_toArray, List.set_cons_zero, List.set_cons_succ]
  iterate 3 (refine lad_w (v := ?_) rfl rfl (fun xq wx => ?_) ?_; rotate_left 1; · (go_simp; with_reducible rfl); try simp only [Act.put, List.setIfInBounds_toArray, List.set_cons_zero, List.set_cons_succ])
  refine lad_t (v := ?_) rfl rfl (fun xq wx hS => ?_) ?_
  rotate_left 1
  · (have hc := (HCV.out.keep (St.fr hS) id).cell (i := 0) rfl; clear hS; go_simp; with_reducible rfl)
  try simp only [Act.put, List.setIfInBounds_toArray, List.set_cons_zero, List.set_cons_succ]
  refine lad_w (v := ?_) rfl rfl (fun xq wx => ?_) ?_; rotate_left 1; · (go_simp; with_reducible rfl)
  try simp only [Act.put, List.setIfInBounds_toArray, List.set_cons_zero, List.set_cons_succ]
  refine lad_arr rfl rfl rfl (fun _ => rfl) (cw 4 (elN m x)) (fun wx hS => St.rangeL hS 0 rfl 0 _ (pt_x _ _ _)) Try.underlying70 rfl (by kernel_rfl) ?_
  try simp only [Act.put, List.setIfInBounds_toArray, List.set_cons_zero, List.set_cons_succ]
  iterate 3 (refine lad_w (v := ?_) rfl rfl (fun xq wx => ?_) ?_; rotate_left 1; · (go_simp; with_reducible rfl); try simp only [Act.put, List.setIfInBounds_toArray, List.set_cons_zero, List.set_cons_succ])
  refine lad_t (v := ?_) rfl rfl (fun xq wx hS => ?_) ?_
  rotate_left 1
  · (have hc := (HCV.out.keep (St.fr hS) id).cell (i := 0) rfl; clear hS; go_simp; with_reducible rfl)
  try simp only [Act.put, List.setIfInBounds_toArray, List.set_cons_zero, List.set_cons_succ]
  refine lad_w (v := ?_) rfl rfl (fun xq wx => ?_) ?_; rotate_left 1; · (go_simp; with_reducible rfl)
  try simp only [Act.put, List.setIfInBounds_toArray, List.set_cons_zero, List.set_cons_succ]
  refine lad_arr rfl rfl rfl (fun _ => rfl) (cw 4 (elN m y)) (fun wx hS => St.rangeL hS 0 rfl 4 _ (pt_y _ _ _)) Try.underlying70 rfl (by kernel_rfl) ?_
  try simp only [Act.put, List.setIfInBounds_toArray, List.set_cons_zero, List.set_cons_succ]
  refine lad_call rfl rfl rfl Try.call93 (fun w hS hR => MSquare_v m gp _ HOK.out (HPM.out.keep hS.fr id) x a Ha.out) (fun _ => rfl) ?_
  try simp only [Act.put, List.setIfInBounds_toArray, List.set_cons_zero, List.set_cons_succ]
  refine lad_call rfl rfl rfl Try.call93 (fun w hS hR => MSquare_v m gp _ HOK.out (HPM.out.keep hS.fr id) y b Hb.out) (fun _ => rfl) ?_
  try simp only [Act.put, List.setIfInBounds_toArray, List.set_cons_zero, List.set_cons_succ]
  refine lad_j (List.mem_cons_of_mem _ List.mem_cons_self) fun g5 => ?_
  simp only [upd, reduceIte]
  try simp only [Nat.reduceEqDiff, reduceIte]
  refine lad_j List.mem_cons_self fun g6 => ?_
  simp only [upd, reduceIte]
  refine lad_end fun xq w4 st4 hR => ?_
  try dsimp only
  clear hR xq
  refine plan_r rfl rfl ?_
  refine wp_storeS st4 2 rfl rfl rfl rfl (by simp [cw_len]) (by kernel_rfl) (cw_one _ _) ?_
  intro w5 st5
  repeat (first | simp only [List.cons_append] at st5 | simp only [List.nil_append] at st5 | simp only [List.set_cons_succ] at st5 | simp only [List.set_cons_zero] at st5)
  clear st4
  refine ⟨by first | exact st5 | exact St.less st5 (by simp), ?_⟩
  try simp only [Act.put]
  refine plan_m rfl rfl ?_
  refine wp_storeS st5 3 rfl rfl rfl rfl (by simp [cw_len]) (by kernel_rfl) (cw_one _ _) ?_
  intro w6 st6
  try simp only [List.set_cons_zero, List.set_cons_succ] at st6
  clear st5
  try simp only [Act.put]
  refine plan_end ?_
  refine NoPanic.normal ?_
  go_wp2_with fail
  refine wp_region_noPanic ?_
  refine wp_region_lad st6 7 [.o 6, .w 0, .w 1, .w 2, .t 3, .t 4, .c 5, .j 6] (.m 7 .nil) (by kernel_rfl) (by kernel_rfl) (fun _ _ _ _ _ h => h) ?_
  clear st6
  refine lad_o rfl rfl rfl z_ge (cw 4 0) rfl ?_
  try simp only [Act.put, List.setIfInBounds_toArray, List.set_cons_zero, List.set_cons_succ]
  iterate 3 (refine lad_w (v := ?_) rfl rfl (fun xq wx => ?_) ?_; rotate_left 1; · (go_simp; with_reducible rfl); try simp only [Act.put, List.setIfInBounds_toArray, List.set_cons_zero, List.set_cons_succ])
  refine lad_t (v := ?_) rfl rfl (fun xq wx hS => ?_) ?_
  rotate_left 1
  · (have hc := (HCV.out.keep (St.fr hS) id).cell (i := 0) rfl; clear hS; go_simp; with_reducible rfl)
  try simp only [Act.put, List.setIfInBounds_toArray, List.set_cons_zero, List.set_cons_succ]
  refine lad_arr rfl rfl rfl (fun _ => rfl) (cw 4 (elN m b)) (fun wx hS => St.rangeL hS 3 rfl 0 _ (by rw [List.drop_zero, List.take_of_length_le (Nat.le_refl _)])) Try.underlying70 rfl (by kernel_rfl) ?_
  try simp only [Act.put, List.setIfInBounds_toArray, List.set_cons_zero, List.set_cons_succ]
  refine lad_call rfl rfl rfl Try.call93 (fun w hS hR => MSquare_v m gp _ HOK.out (HPM.out.keep hS.fr id) b bb Hbb.out) (fun _ => rfl) ?_
  try simp only [Act.put, List.setIfInBounds_toArray, List.set_cons_zero, List.set_cons_succ]
  refine lad_j List.mem_cons_self fun g7 => ?_
  simp only [upd, reduceIte]
  refine lad_end fun xq w7 st7 hR => ?_
  try dsimp only
  clear hR xq
  refine plan_m rfl rfl ?_
  refine wp_storeS st7 4 rfl rfl rfl rfl (by simp [cw_len]) (by kernel_rfl) (cw_one _ _) ?_
  intro w8 st8
  repeat (first | simp only [List.cons_append] at st8 | simp only [List.nil_append] at st8 | simp only [List.set_cons_succ] at st8 | simp only [List.set_cons_zero] at st8)
  clear st7
  try simp only [Act.put]
  refine plan_end ?_
  refine NoPanic.normal ?_
  go_wp2_with fail
  refine wp_region_noPanic ?_
  refine wp_region_lad st8 26 [.o 25, .w 0, .w 1, .w 2, .t 3, .w 4, .w 5, .w 6, .t 7, .w 8, .w 9, .w 10, .t 11, .w 12, .t 13, .t 14, .w 17, .w 18, .w 19, .t 20, .t 21, .t 22, .c 15, .c 16, .c 23, .c 24, .j 25] (.m 26 .nil) (by kernel_rfl) (by kernel_rfl) (fun _ _ _ _ _ h => h) ?_
  clear st8
  refine lad_o rfl rfl rfl z_ge (cw 4 0) rfl ?_
  try simp only [Act.put, List.setIfInBounds_toArray, List.set_cons_zero, List.set_cons_succ]
  iterate 3 (refine lad_w (v := ?_) rfl rfl (fun xq wx => ?_) ?_; rotate_left 1; · (go_simp; with_reducible rfl); try simp only [Act.put, List.setIfInBounds_toArray, List.set_cons_zero, List.set_cons_succ])
  refine lad_t (v := ?_) rfl rfl (fun xq wx hS => ?_) ?_
  rotate_left 1
  · (have hc := (HCV.out.keep (St.fr hS) id).cell (i := 0) rfl; clear hS; go_simp; with_reducible rfl)
  try simp only [Act.put, List.setIfInBounds_toArray, List.set_cons_zero, List.set_cons_succ]
  iterate 3 (refine lad_w (v := ?_) rfl rfl (fun xq wx => ?_) ?_; rotate_left 1; · (go_simp; with_reducible rfl); try simp only [Act.put, List.setIfInBounds_toArray, List.set_cons_zero, List.set_cons_succ])
  refine lad_t (v := ?_) rfl rfl (fun xq wx hS => ?_) ?_
  rotate_left 1
  · (have hc := (HCV.out.keep (St.fr hS) id).cell (i := 0) rfl; clear hS; go_simp; with_reducible rfl)
  try simp only [Act.put, List.setIfInBounds_toArray, List.set_cons_zero, List.set_cons_succ]
  iterate 3 (refine lad_w (v := ?_) rfl rfl (fun xq wx => ?_) ?_; rotate_left 1; · (go_simp; with_reducible rfl); try simp only [Act.put, List.setIfInBounds_toArray, List.set_cons_zero, List.set_cons_succ])
  refine lad_t (v := ?_) rfl rfl (fun xq wx hS => ?_) ?_
  rotate_left 1
  · (have hc := (HCV.out.keep (St.fr hS) id).cell (i := 0) rfl; clear hS; go_simp; with_reducible rfl)
  try simp only [Act.put, List.setIfInBounds_toArray, List.set_cons_zero, List.set_cons_succ]
  refine lad_w (v := ?_) rfl rfl (fun xq wx => ?_) ?_; rotate_left 1; · (go_simp; with_reducible rfl)
  try simp only [Act.put, List.setIfInBounds_toArray, List.set_cons_zero, List.set_cons_succ]
  refine lad_arr rfl rfl rfl (fun _ => rfl) (cw 4 (elN m x)) (fun wx hS => St.rangeL hS 0 rfl 0 _ (pt_x _ _ _)) Try.underlying70 rfl (by kernel_rfl) ?_
  try simp only [Act.put, List.setIfInBounds_toArray, List.set_cons_zero, List.set_cons_succ]
  refine lad_arr rfl rfl rfl (fun _ => rfl) (cw 4 (elN m b)) (fun wx hS => St.rangeL hS 3 rfl 0 _ (by rw [List.drop_zero, List.take_of_length_le (Nat.le_refl _)])) Try.underlying70 rfl (by kernel_rfl) ?_
  try simp only [Act.put, List.setIfInBounds_toArray, List.set_cons_zero, List.set_cons_succ]
  iterate 3 (refine lad_w (v := ?_) rfl rfl (fun xq wx => ?_) ?_; rotate_left 1; · (go_simp; with_reducible rfl); try simp only [Act.put, List.setIfInBounds_toArray, List.set_cons_zero, List.set_cons_succ])
  refine lad_t (v := ?_) rfl rfl (fun xq wx hS => ?_) ?_
  rotate_left 1
  · (have hc := (HCV.out.keep (St.fr hS) id).cell (i := 0) rfl; clear hS; go_simp; with_reducible rfl)
  try simp only [Act.put, List.setIfInBounds_toArray, List.set_cons_zero, List.set_cons_succ]
  refine lad_arr rfl rfl rfl (fun _ => rfl) (cw 4 (elN m a)) (fun wx hS => St.rangeL hS 2 rfl 0 _ (by rw [List.drop_zero, List.take_of_length_le (Nat.le_refl _)])) Try.underlying70 rfl (by kernel_rfl) ?_
  try simp only [Act.put, List.setIfInBounds_toArray, List.set_cons_zero, List.set_cons_succ]
  refine lad_arr rfl rfl rfl (fun _ => rfl) (cw 4 (elN m bb)) (fun wx hS => St.rangeL hS 4 rfl 0 _ (by rw [List.drop_zero, List.take_of_length_le (Nat.le_refl _)])) Try.underlying70 rfl (by kernel_rfl) ?_
  try simp only [Act.put, List.setIfInBounds_toArray, List.set_cons_zero, List.set_cons_succ]
  refine lad_call rfl rfl rfl Try.call98 (fun w hS hR => MAdd_v m gp _ HOK.out (HPM.out.keep hS.fr id) x b s1 Hs1.out) (fun _ => rfl) ?_
  try simp only [Act.put, List.setIfInBounds_toArray, List.set_cons_zero, List.set_cons_succ]
  refine lad_call rfl rfl rfl Try.call93 (fun w hS hR => MSquare_v m gp _ HOK.out (HPM.out.keep hS.fr id) s1 s2 Hs2.out) (fun _ => rfl) ?_
  try simp only [Act.put, List.setIfInBounds_toArray, List.set_cons_zero, List.set_cons_succ]
  refine lad_call rfl rfl rfl Try.call98 (fun w hS hR => MAdd_v m gp _ HOK.out (HPM.out.keep hS.fr id) a bb s3 Hs3.out) (fun _ => rfl) ?_
  try simp only [Act.put, List.setIfInBounds_toArray, List.set_cons_zero, List.set_cons_succ]
  refine lad_call rfl rfl rfl Try.call95 (fun w hS hR => MSub_v m gp _ HOK.out (HPM.out.keep hS.fr id) s2 s3 d1 Hd1.out) (fun _ => rfl) ?_
  try simp only [Act.put, List.setIfInBounds_toArray, List.set_cons_zero, List.set_cons_succ]
  refine lad_j List.mem_cons_self fun g8 => ?_
  simp only [upd, reduceIte]
  refine lad_end fun xq w9 st9 hR => ?_
  try dsimp only
  clear hR xq
  refine plan_m rfl rfl ?_
  refine wp_storeS st9 5 rfl rfl rfl rfl (by simp [cw_len]) (by kernel_rfl) (cw_one _ _) ?_
  intro w10 st10
  repeat (first | simp only [List.cons_append] at st10 | simp only [List.nil_append] at st10 | simp only [List.set_cons_succ] at st10 | simp only [List.set_cons_zero] at st10)
  clear st9
  try simp only [Act.put]
  refine plan_end ?_
  refine NoPanic.normal ?_
  go_wp2_with fail
  refine wp_region_noPanic ?_
  refine wp_region_lad st10 7 [.w 0, .w 1, .w 2, .t 3, .t 4, .t 5, .c 6] (.m 7 .nil) (by kernel_rfl) (by kernel_rfl) (fun _ _ _ _ _ h => h) ?_
  clear st10
  iterate 3 (refine lad_w (v := ?_) rfl rfl (fun xq wx => ?_) ?_; rotate_left 1; · (go_simp; with_reducible rfl); try simp only [Act.put, List.setIfInBounds_toArray, List.set_cons_zero, List.set_cons_succ])
  refine lad_t (v := ?_) rfl rfl (fun xq wx hS => ?_) ?_
  rotate_left 1
  · (have hc := (HCV.out.keep (St.fr hS) id).cell (i := 0) rfl; clear hS; go_simp; with_reducible rfl)
  try simp only [Act.put, List.setIfInBounds_toArray, List.set_cons_zero, List.set_cons_succ]
  refine lad_arr rfl rfl rfl (fun _ => rfl) (cw 4 (elN m d1)) (fun wx hS => St.rangeL hS 5 rfl 0 _ (by rw [List.drop_zero, List.take_of_length_le (Nat.le_refl _)])) Try.underlying70 rfl (by kernel_rfl) ?_
  try simp only [Act.put, List.setIfInBounds_toArray, List.set_cons_zero, List.set_cons_succ]
  refine lad_arr rfl rfl rfl (fun _ => rfl) (cw 4 (elN m d1)) (fun wx hS => St.rangeL hS 5 rfl 0 _ (by rw [List.drop_zero, List.take_of_length_le (Nat.le_refl _)])) Try.underlying70 rfl (by kernel_rfl) ?_
  try simp only [Act.put, List.setIfInBounds_toArray, List.set_cons_zero, List.set_cons_succ]
  refine lad_call rfl rfl rfl Try.call98 (fun w hS hR => MAdd_v m gp _ HOK.out (HPM.out.keep hS.fr id) d1 d1 d Hd.out) (fun _ => rfl) ?_
  try simp only [Act.put, List.setIfInBounds_toArray, List.set_cons_zero, List.set_cons_succ]
  refine lad_end fun xq w11 st11 hR => ?_
  try dsimp only
  clear hR xq
  refine plan_m rfl rfl ?_
  refine wp_storeS st11 5 rfl rfl rfl rfl (by simp [cw_len]) (by kernel_rfl) (cw_one _ _) ?_
  intro w12 st12
  try simp only [List.set_cons_zero, List.set_cons_succ] at st12
  clear st11
  try simp only [Act.put]
  refine plan_end ?_
  refine NoPanic.normal ?_
  go_wp2_with fail
  refine wp_region_noPanic ?_
  refine wp_region_lad st12 14 [.o 13, .w 0, .w 1, .w 2, .t 3, .w 4, .w 5, .w 6, .t 7, .t 8, .t 9, .t 11, .c 10, .c 12, .j 13] (.m 14 .nil) (by kernel_rfl) (by kernel_rfl) (fun _ _ _ _ _ h => h) ?_
  clear st12
  refine lad_o rfl rfl rfl z_ge (cw 4 0) rfl ?_
  try simp only [Act.put, List.setIfInBounds_toArray, List.set_cons_zero, List.set_cons_succ]
  iterate 3 (refine lad_w (v := ?_) rfl rfl (fun xq wx => ?_) ?_; rotate_left 1; · (go_simp; with_reducible rfl); try simp only [Act.put, List.setIfInBounds_toArray, List.set_cons_zero, List.set_cons_succ])
  refine lad_t (v := ?_) rfl rfl (fun xq wx hS => ?_) ?_
  rotate_left 1
  · (have hc := (HCV.out.keep (St.fr hS) id).cell (i := 0) rfl; clear hS; go_simp; with_reducible rfl)
  try simp only [Act.put, List.setIfInBounds_toArray, List.set_cons_zero, List.set_cons_succ]
  iterate 3 (refine lad_w (v := ?_) rfl rfl (fun xq wx => ?_) ?_; rotate_left 1; · (go_simp; with_reducible rfl); try simp only [Act.put, List.setIfInBounds_toArray, List.set_cons_zero, List.set_cons_succ])
  refine lad_t (v := ?_) rfl rfl (fun xq wx hS => ?_) ?_
  rotate_left 1
  · (have hc := (HCV.out.keep (St.fr hS) id).cell (i := 0) rfl; clear hS; go_simp; with_reducible rfl)
  try simp only [Act.put, List.setIfInBounds_toArray, List.set_cons_zero, List.set_cons_succ]
  refine lad_arr rfl rfl rfl (fun _ => rfl) (cw 4 (elN m a)) (fun wx hS => St.rangeL hS 2 rfl 0 _ (by rw [List.drop_zero, List.take_of_length_le (Nat.le_refl _)])) Try.underlying70 rfl (by kernel_rfl) ?_
  try simp only [Act.put, List.setIfInBounds_toArray, List.set_cons_zero, List.set_cons_succ]
  refine lad_arr rfl rfl rfl (fun _ => rfl) (cw 4 (elN m a)) (fun wx hS => St.rangeL hS 2 rfl 0 _ (by rw [List.drop_zero, List.take_of_length_le (Nat.le_refl _)])) Try.underlying70 rfl (by kernel_rfl) ?_
  try simp only [Act.put, List.setIfInBounds_toArray, List.set_cons_zero, List.set_cons_succ]
  refine lad_arr rfl rfl rfl (fun _ => rfl) (cw 4 (elN m a)) (fun wx hS => St.rangeL hS 2 rfl 0 _ (by rw [List.drop_zero, List.take_of_length_le (Nat.le_refl _)])) Try.underlying70 rfl (by kernel_rfl) ?_
  try simp only [Act.put, List.setIfInBounds_toArray, List.set_cons_zero, List.set_cons_succ]
  refine lad_call rfl rfl rfl Try.call98 (fun w hS hR => MAdd_v m gp _ HOK.out (HPM.out.keep hS.fr id) a a e1 He1.out) (fun _ => rfl) ?_
  try simp only [Act.put, List.setIfInBounds_toArray, List.set_cons_zero, List.set_cons_succ]
  refine lad_call rfl rfl rfl Try.call98 (fun w hS hR => MAdd_v m gp _ HOK.out (HPM.out.keep hS.fr id) e1 a ee Hee.out) (fun _ => rfl) ?_
  try simp only [Act.put, List.setIfInBounds_toArray, List.set_cons_zero, List.set_cons_succ]
  refine lad_j List.mem_cons_self fun g9 => ?_
  simp only [upd, reduceIte]
  refine lad_end fun xq w13 st13 hR => ?_
  try dsimp only
  clear hR xq
  refine plan_m rfl rfl ?_
  refine wp_storeS st13 6 rfl rfl rfl rfl (by simp [cw_len]) (by kernel_rfl) (cw_one _ _) ?_
  intro w14 st14
  repeat (first | simp only [List.cons_append] at st14 | simp only [List.nil_append] at st14 | simp only [List.set_cons_succ] at st14 | simp only [List.set_cons_zero] at st14)
  clear st13
  try simp only [Act.put]
  refine plan_end ?_
  refine NoPanic.normal ?_
  go_wp2_with fail
  refine wp_region_noPanic ?_
  refine wp_region_lad st14 19 [.o 18, .w 0, .w 1, .w 2, .t 3, .w 4, .w 5, .w 6, .t 7, .t 8, .w 10, .w 11, .w 12, .t 13, .t 14, .t 15, .c 9, .c 16, .c 17, .j 18] (.m 19 .nil) (by kernel_rfl) (by kernel_rfl) (fun _ _ _ _ _ h => h) ?_
  clear st14
  refine lad_o rfl rfl rfl z_ge (cw 4 0) rfl ?_
  try simp only [Act.put, List.setIfInBounds_toArray, List.set_cons_zero, List.set_cons_succ]
  iterate 3 (refine lad_w (v := ?_) rfl rfl (fun xq wx => ?_) ?_; rotate_left 1; · (go_simp; with_reducible rfl); try simp only [Act.put, List.setIfInBounds_toArray, List.set_cons_zero, List.set_cons_succ])
  refine lad_t (v := ?_) rfl rfl (fun xq wx hS => ?_) ?_
  rotate_left 1
  · (have hc := (HCV.out.keep (St.fr hS) id).cell (i := 0) rfl; clear hS; go_simp; with_reducible rfl)
  try simp only [Act.put, List.setIfInBounds_toArray, List.set_cons_zero, List.set_cons_succ]
  iterate 3 (refine lad_w (v := ?_) rfl rfl (fun xq wx => ?_) ?_; rotate_left 1; · (go_simp; with_reducible rfl); try simp only [Act.put, List.setIfInBounds_toArray, List.set_cons_zero, List.set_cons_succ])
  refine lad_t (v := ?_) rfl rfl (fun xq wx hS => ?_) ?_
  rotate_left 1
  · (have hc := (HCV.out.keep (St.fr hS) id).cell (i := 0) rfl; clear hS; go_simp; with_reducible rfl)
  try simp only [Act.put, List.setIfInBounds_toArray, List.set_cons_zero, List.set_cons_succ]
  refine lad_arr rfl rfl rfl (fun _ => rfl) (cw 4 (elN m ee)) (fun wx hS => St.rangeL hS 6 rfl 0 _ (by rw [List.drop_zero, List.take_of_length_le (Nat.le_refl _)])) Try.underlying70 rfl (by kernel_rfl) ?_
  try simp only [Act.put, List.setIfInBounds_toArray, List.set_cons_zero, List.set_cons_succ]
  iterate 3 (refine lad_w (v := ?_) rfl rfl (fun xq wx => ?_) ?_; rotate_left 1; · (go_simp; with_reducible rfl); try simp only [Act.put, List.setIfInBounds_toArray, List.set_cons_zero, List.set_cons_succ])
  refine lad_t (v := ?_) rfl rfl (fun xq wx hS => ?_) ?_
  rotate_left 1
  · (have hc := (HCV.out.keep (St.fr hS) id).cell (i := 0) rfl; clear hS; go_simp; with_reducible rfl)
  try simp only [Act.put, List.setIfInBounds_toArray, List.set_cons_zero, List.set_cons_succ]
  refine lad_arr rfl rfl rfl (fun _ => rfl) (cw 4 (elN m d)) (fun wx hS => St.rangeL hS 5 rfl 0 _ (by rw [List.drop_zero, List.take_of_length_le (Nat.le_refl _)])) Try.underlying70 rfl (by kernel_rfl) ?_
  try simp only [Act.put, List.setIfInBounds_toArray, List.set_cons_zero, List.set_cons_succ]
  refine lad_arr rfl rfl rfl (fun _ => rfl) (cw 4 (elN m d)) (fun wx hS => St.rangeL hS 5 rfl 0 _ (by rw [List.drop_zero, List.take_of_length_le (Nat.le_refl _)])) Try.underlying70 rfl (by kernel_rfl) ?_
  try simp only [Act.put, List.setIfInBounds_toArray, List.set_cons_zero, List.set_cons_succ]
  refine lad_call rfl rfl rfl Try.call93 (fun w hS hR => MSquare_v m gp _ HOK.out (HPM.out.keep hS.fr id) ee f1 Hf1.out) (fun _ => rfl) ?_
  try simp only [Act.put, List.setIfInBounds_toArray, List.set_cons_zero, List.set_cons_succ]
  refine lad_call rfl rfl rfl Try.call98 (fun w hS hR => MAdd_v m gp _ HOK.out (HPM.out.keep hS.fr id) d d f2 Hf2.out) (fun _ => rfl) ?_
  try simp only [Act.put, List.setIfInBounds_toArray, List.set_cons_zero, List.set_cons_succ]
  refine lad_call rfl rfl rfl Try.call95 (fun w hS hR => MSub_v m gp _ HOK.out (HPM.out.keep hS.fr id) f1 f2 X HX.out) (fun _ => rfl) ?_
  try simp only [Act.put, List.setIfInBounds_toArray, List.set_cons_zero, List.set_cons_succ]
  refine lad_j List.mem_cons_self fun g10 => ?_
  simp only [upd, reduceIte]
  refine lad_end fun xq w15 st15 hR => ?_
  try dsimp only
  clear hR xq
  refine plan_m rfl rfl ?_
  refine wp_storeS st15 7 rfl rfl rfl rfl (by simp [cw_len]) (by kernel_rfl) (cw_one _ _) ?_
  intro w16 st16
  repeat (first | simp only [List.cons_append] at st16 | simp only [List.nil_append] at st16 | simp only [List.set_cons_succ] at st16 | simp only [List.set_cons_zero] at st16)
  clear st15
  try simp only [Act.put]
  refine plan_end ?_
  refine NoPanic.normal ?_
  go_wp2_with fail
  refine wp_region_noPanic ?_
  refine wp_region_lad st16 8 [.o 7, .w 0, .w 1, .w 2, .t 3, .t 4, .t 5, .c 6, .j 7] (.m 8 .nil) (by kernel_rfl) (by kernel_rfl) (fun _ _ _ _ _ h => h) ?_
  clear st16
  refine lad_o rfl rfl rfl z_ge (cw 4 0) rfl ?_
  try simp only [Act.put, List.setIfInBounds_toArray, List.set_cons_zero, List.set_cons_succ]
  iterate 3 (refine lad_w (v := ?_) rfl rfl (fun xq wx => ?_) ?_; rotate_left 1; · (go_simp; with_reducible rfl); try simp only [Act.put, List.setIfInBounds_toArray, List.set_cons_zero, List.set_cons_succ])
  refine lad_t (v := ?_) rfl rfl (fun xq wx hS => ?_) ?_
  rotate_left 1
  · (have hc := (HCV.out.keep (St.fr hS) id).cell (i := 0) rfl; clear hS; go_simp; with_reducible rfl)
  try simp only [Act.put, List.setIfInBounds_toArray, List.set_cons_zero, List.set_cons_succ]
  refine lad_arr rfl rfl rfl (fun _ => rfl) (cw 4 (elN m bb)) (fun wx hS => St.rangeL hS 4 rfl 0 _ (by rw [List.drop_zero, List.take_of_length_le (Nat.le_refl _)])) Try.underlying70 rfl (by kernel_rfl) ?_
  try simp only [Act.put, List.setIfInBounds_toArray, List.set_cons_zero, List.set_cons_succ]
  refine lad_arr rfl rfl rfl (fun _ => rfl) (cw 4 (elN m bb)) (fun wx hS => St.rangeL hS 4 rfl 0 _ (by rw [List.drop_zero, List.take_of_length_le (Nat.le_refl _)])) Try.underlying70 rfl (by kernel_rfl) ?_
  try simp only [Act.put, List.setIfInBounds_toArray, List.set_cons_zero, List.set_cons_succ]
  refine lad_call rfl rfl rfl Try.call98 (fun w hS hR => MAdd_v m gp _ HOK.out (HPM.out.keep hS.fr id) bb bb k1 Hk1.out) (fun _ => rfl) ?_
  try simp only [Act.put, List.setIfInBounds_toArray, List.set_cons_zero, List.set_cons_succ]
  refine lad_j List.mem_cons_self fun g11 => ?_
  simp only [upd, reduceIte]
  refine lad_end fun xq w17 st17 hR => ?_
  try dsimp only
  clear hR xq
  refine plan_m rfl rfl ?_
  refine wp_storeS st17 8 rfl rfl rfl rfl (by simp [cw_len]) (by kernel_rfl) (cw_one _ _) ?_
  intro w18 st18
  repeat (first | simp only [List.cons_append] at st18 | simp only [List.nil_append] at st18 | simp only [List.set_cons_succ] at st18 | simp only [List.set_cons_zero] at st18)
  clear st17
  try simp only [Act.put]
  refine plan_end ?_
  refine NoPanic.normal ?_
  go_wp2_with fail
  refine wp_region_noPanic ?_
  refine wp_region_lad st18 7 [.w 0, .w 1, .w 2, .t 3, .t 4, .t 5, .c 6] (.m 7 .nil) (by kernel_rfl) (by kernel_rfl) (fun _ _ _ _ _ h => h) ?_
  clear st18
  iterate 3 (refine lad_w (v := ?_) rfl rfl (fun xq wx => ?_) ?_; rotate_left 1; · (go_simp; with_reducible rfl); try simp only [Act.put, List.setIfInBounds_toArray, List.set_cons_zero, List.set_cons_succ])
  refine lad_t (v := ?_) rfl rfl (fun xq wx hS => ?_) ?_
  rotate_left 1
  · (have hc := (HCV.out.keep (St.fr hS) id).cell (i := 0) rfl; clear hS; go_simp; with_reducible rfl)
  try simp only [Act.put, List.setIfInBounds_toArray, List.set_cons_zero, List.set_cons_succ]
  refine lad_arr rfl rfl rfl (fun _ => rfl) (cw 4 (elN m k1)) (fun wx hS => St.rangeL hS 8 rfl 0 _ (by rw [List.drop_zero, List.take_of_length_le (Nat.le_refl _)])) Try.underlying70 rfl (by kernel_rfl) ?_
  try simp only [Act.put, List.setIfInBounds_toArray, List.set_cons_zero, List.set_cons_succ]
  refine lad_arr rfl rfl rfl (fun _ => rfl) (cw 4 (elN m k1)) (fun wx hS => St.rangeL hS 8 rfl 0 _ (by rw [List.drop_zero, List.take_of_length_le (Nat.le_refl _)])) Try.underlying70 rfl (by kernel_rfl) ?_
  try simp only [Act.put, List.setIfInBounds_toArray, List.set_cons_zero, List.set_cons_succ]
  refine lad_call rfl rfl rfl Try.call98 (fun w hS hR => MAdd_v m gp _ HOK.out (HPM.out.keep hS.fr id) k1 k1 k2 Hk2.out) (fun _ => rfl) ?_
  try simp only [Act.put, List.setIfInBounds_toArray, List.set_cons_zero, List.set_cons_succ]
  refine lad_end fun xq w19 st19 hR => ?_
  try dsimp only
  clear hR xq
  refine plan_m rfl rfl ?_
  refine wp_storeS st19 8 rfl rfl rfl rfl (by simp [cw_len]) (by kernel_rfl) (cw_one _ _) ?_
  intro w20 st20
  try simp only [List.set_cons_zero, List.set_cons_succ] at st20
  clear st19
  try simp only [Act.put]
  refine plan_end ?_
  refine NoPanic.normal ?_
  go_wp2_with fail
  refine wp_region_noPanic ?_
  refine wp_region_lad st20 7 [.w 0, .w 1, .w 2, .t 3, .t 4, .t 5, .c 6] (.m 7 .nil) (by kernel_rfl) (by kernel_rfl) (fun _ _ _ _ _ h => h) ?_
  clear st20
  iterate 3 (refine lad_w (v := ?_) rfl rfl (fun xq wx => ?_) ?_; rotate_left 1; · (go_simp; with_reducible rfl); try simp only [Act.put, List.setIfInBounds_toArray, List.set_cons_zero, List.set_cons_succ])
  refine lad_t (v := ?_) rfl rfl (fun xq wx hS => ?_) ?_
  rotate_left 1
  · (have hc := (HCV.out.keep (St.fr hS) id).cell (i := 0) rfl; clear hS; go_simp; with_reducible rfl)
  try simp only [Act.put, List.setIfInBounds_toArray, List.set_cons_zero, List.set_cons_succ]
  refine lad_arr rfl rfl rfl (fun _ => rfl) (cw 4 (elN m k2)) (fun wx hS => St.rangeL hS 8 rfl 0 _ (by rw [List.drop_zero, List.take_of_length_le (Nat.le_refl _)])) Try.underlying70 rfl (by kernel_rfl) ?_
  try simp only [Act.put, List.setIfInBounds_toArray, List.set_cons_zero, List.set_cons_succ]
  refine lad_arr rfl rfl rfl (fun _ => rfl) (cw 4 (elN m k2)) (fun wx hS => St.rangeL hS 8 rfl 0 _ (by rw [List.drop_zero, List.take_of_length_le (Nat.le_refl _)])) Try.underlying70 rfl (by kernel_rfl) ?_
  try simp only [Act.put, List.setIfInBounds_toArray, List.set_cons_zero, List.set_cons_succ]
  refine lad_call rfl rfl rfl Try.call98 (fun w hS hR => MAdd_v m gp _ HOK.out (HPM.out.keep hS.fr id) k2 k2 k3 Hk3.out) (fun _ => rfl) ?_
  try simp only [Act.put, List.setIfInBounds_toArray, List.set_cons_zero, List.set_cons_succ]
  refine lad_end fun xq w21 st21 hR => ?_
  try dsimp only
  clear hR xq
  refine plan_m rfl rfl ?_
  refine wp_storeS st21 8 rfl rfl rfl rfl (by simp [cw_len]) (by kernel_rfl) (cw_one _ _) ?_
  intro w22 st22
  try simp only [List.set_cons_zero, List.set_cons_succ] at st22
  clear st21
  try simp only [Act.put]
  refine plan_end ?_
  refine NoPanic.normal ?_
  go_wp2_with fail
  refine wp_region_noPanic ?_
  refine wp_region_lad st22 10 [.o 9, .w 0, .w 1, .w 2, .t 3, .w 4, .t 5, .w 6, .t 7, .c 8, .j 9] (.m 10 .nil) (by kernel_rfl) (by kernel_rfl) (fun _ _ _ _ _ h => h) ?_
  clear st22
  refine lad_o rfl rfl rfl z_ge (cw 4 0) rfl ?_
  try simp only [Act.put, List.setIfInBounds_toArray, List.set_cons_zero, List.set_cons_succ]
  iterate 3 (refine lad_w (v := ?_) rfl rfl (fun xq wx => ?_) ?_; rotate_left 1; · (go_simp; with_reducible rfl); try simp only [Act.put, List.setIfInBounds_toArray, List.set_cons_zero, List.set_cons_succ])
  refine lad_t (v := ?_) rfl rfl (fun xq wx hS => ?_) ?_
  rotate_left 1
  · (have hc := (HCV.out.keep (St.fr hS) id).cell (i := 0) rfl; clear hS; go_simp; with_reducible rfl)
  try simp only [Act.put, List.setIfInBounds_toArray, List.set_cons_zero, List.set_cons_succ]
  refine lad_w (v := ?_) rfl rfl (fun xq wx => ?_) ?_; rotate_left 1; · (go_simp; with_reducible rfl)
  try simp only [Act.put, List.setIfInBounds_toArray, List.set_cons_zero, List.set_cons_succ]
  refine lad_arr rfl rfl rfl (fun _ => rfl) (cw 4 (elN m y)) (fun wx hS => St.rangeL hS 0 rfl 4 _ (pt_y _ _ _)) Try.underlying70 rfl (by kernel_rfl) ?_
  try simp only [Act.put, List.setIfInBounds_toArray, List.set_cons_zero, List.set_cons_succ]
  refine lad_w (v := ?_) rfl rfl (fun xq wx => ?_) ?_; rotate_left 1; · (go_simp; with_reducible rfl)
  try simp only [Act.put, List.setIfInBounds_toArray, List.set_cons_zero, List.set_cons_succ]
  refine lad_arr rfl rfl rfl (fun _ => rfl) (cw 4 (elN m z)) (fun wx hS => St.rangeL hS 0 rfl 8 _ (pt_z _ _ _)) Try.underlying70 rfl (by kernel_rfl) ?_
  try simp only [Act.put, List.setIfInBounds_toArray, List.set_cons_zero, List.set_cons_succ]
  refine lad_call rfl rfl rfl Try.call94 (fun w hS hR => MMul_v m gp _ HOK.out (HPM.out.keep hS.fr id) y z z1 Hz1.out) (fun _ => rfl) ?_
  try simp only [Act.put, List.setIfInBounds_toArray, List.set_cons_zero, List.set_cons_succ]
  refine lad_j List.mem_cons_self fun g12 => ?_
  simp only [upd, reduceIte]
  refine lad_end fun xq w23 st23 hR => ?_
  try dsimp only
  clear hR xq
  refine plan_m rfl rfl ?_
  refine wp_storeS st23 9 rfl rfl rfl rfl (by simp [cw_len]) (by kernel_rfl) (cw_one _ _) ?_
  intro w24 st24
  repeat (first | simp only [List.cons_append] at st24 | simp only [List.nil_append] at st24 | simp only [List.set_cons_succ] at st24 | simp only [List.set_cons_zero] at st24)
  clear st23
  try simp only [Act.put]
  refine plan_end ?_
  refine NoPanic.normal ?_
  go_wp2_with fail
  refine wp_region_noPanic ?_
  refine wp_region_lad st24 28 [.t 0, .w 1, .w 2, .w 3, .t 4, .w 5, .w 6, .w 7, .t 8, .t 9, .w 10, .w 11, .w 12, .t 13, .t 14, .t 15, .t 18, .w 20, .w 21, .w 22, .t 23, .t 24, .t 25, .c 16, .c 17, .c 19, .c 26, .w 27] (.m 28 .nil) (by kernel_rfl) (by kernel_rfl) (fun _ _ _ _ _ h => h) ?_
  clear st24
  refine lad_arr rfl rfl rfl (fun _ => rfl) (cw 4 (elN m X)) (fun wx hS => St.rangeL hS 7 rfl 0 _ (by rw [List.drop_zero, List.take_of_length_le (Nat.le_refl _)])) Try.underlying70 rfl (by kernel_rfl) ?_
  try simp only [Act.put, List.setIfInBounds_toArray, List.set_cons_zero, List.set_cons_succ]
  iterate 3 (refine lad_w (v := ?_) rfl rfl (fun xq wx => ?_) ?_; rotate_left 1; · (go_simp; with_reducible rfl); try simp only [Act.put, List.setIfInBounds_toArray, List.set_cons_zero, List.set_cons_succ])
  refine lad_t (v := ?_) rfl rfl (fun xq wx hS => ?_) ?_
  rotate_left 1
  · (have hc := (HCV.out.keep (St.fr hS) id).cell (i := 0) rfl; clear hS; go_simp; with_reducible rfl)
  try simp only [Act.put, List.setIfInBounds_toArray, List.set_cons_zero, List.set_cons_succ]
  iterate 3 (refine lad_w (v := ?_) rfl rfl (fun xq wx => ?_) ?_; rotate_left 1; · (go_simp; with_reducible rfl); try simp only [Act.put, List.setIfInBounds_toArray, List.set_cons_zero, List.set_cons_succ])
  refine lad_t (v := ?_) rfl rfl (fun xq wx hS => ?_) ?_
  rotate_left 1
  · (have hc := (HCV.out.keep (St.fr hS) id).cell (i := 0) rfl; clear hS; go_simp; with_reducible rfl)
  try simp only [Act.put, List.setIfInBounds_toArray, List.set_cons_zero, List.set_cons_succ]
  refine lad_arr rfl rfl rfl (fun _ => rfl) (cw 4 (elN m ee)) (fun wx hS => St.rangeL hS 6 rfl 0 _ (by rw [List.drop_zero, List.take_of_length_le (Nat.le_refl _)])) Try.underlying70 rfl (by kernel_rfl) ?_
  try simp only [Act.put, List.setIfInBounds_toArray, List.set_cons_zero, List.set_cons_succ]
  iterate 3 (refine lad_w (v := ?_) rfl rfl (fun xq wx => ?_) ?_; rotate_left 1; · (go_simp; with_reducible rfl); try simp only [Act.put, List.setIfInBounds_toArray, List.set_cons_zero, List.set_cons_succ])
  refine lad_t (v := ?_) rfl rfl (fun xq wx hS => ?_) ?_
  rotate_left 1
  · (have hc := (HCV.out.keep (St.fr hS) id).cell (i := 0) rfl; clear hS; go_simp; with_reducible rfl)
  try simp only [Act.put, List.setIfInBounds_toArray, List.set_cons_zero, List.set_cons_succ]
  refine lad_arr rfl rfl rfl (fun _ => rfl) (cw 4 (elN m d)) (fun wx hS => St.rangeL hS 5 rfl 0 _ (by rw [List.drop_zero, List.take_of_length_le (Nat.le_refl _)])) Try.underlying70 rfl (by kernel_rfl) ?_
  try simp only [Act.put, List.setIfInBounds_toArray, List.set_cons_zero, List.set_cons_succ]
  refine lad_arr rfl rfl rfl (fun _ => rfl) (cw 4 (elN m X)) (fun wx hS => St.rangeL hS 7 rfl 0 _ (by rw [List.drop_zero, List.take_of_length_le (Nat.le_refl _)])) Try.underlying70 rfl (by kernel_rfl) ?_
  try simp only [Act.put, List.setIfInBounds_toArray, List.set_cons_zero, List.set_cons_succ]
  refine lad_arr rfl rfl rfl (fun _ => rfl) (cw 4 (elN m k3)) (fun wx hS => St.rangeL hS 8 rfl 0 _ (by rw [List.drop_zero, List.take_of_length_le (Nat.le_refl _)])) Try.underlying70 rfl (by kernel_rfl) ?_
  try simp only [Act.put, List.setIfInBounds_toArray, List.set_cons_zero, List.set_cons_succ]
  iterate 3 (refine lad_w (v := ?_) rfl rfl (fun xq wx => ?_) ?_; rotate_left 1; · (go_simp; with_reducible rfl); try simp only [Act.put, List.setIfInBounds_toArray, List.set_cons_zero, List.set_cons_succ])
  refine lad_t (v := ?_) rfl rfl (fun xq wx hS => ?_) ?_
  rotate_left 1
  · (have hc := (HCV.out.keep (St.fr hS) id).cell (i := 0) rfl; clear hS; go_simp; with_reducible rfl)
  try simp only [Act.put, List.setIfInBounds_toArray, List.set_cons_zero, List.set_cons_succ]
  refine lad_arr rfl rfl rfl (fun _ => rfl) (cw 4 (elN m z1)) (fun wx hS => St.rangeL hS 9 rfl 0 _ (by rw [List.drop_zero, List.take_of_length_le (Nat.le_refl _)])) Try.underlying70 rfl (by kernel_rfl) ?_
  try simp only [Act.put, List.setIfInBounds_toArray, List.set_cons_zero, List.set_cons_succ]
  refine lad_arr rfl rfl rfl (fun _ => rfl) (cw 4 (elN m z1)) (fun wx hS => St.rangeL hS 9 rfl 0 _ (by rw [List.drop_zero, List.take_of_length_le (Nat.le_refl _)])) Try.underlying70 rfl (by kernel_rfl) ?_
  try simp only [Act.put, List.setIfInBounds_toArray, List.set_cons_zero, List.set_cons_succ]
  refine lad_call rfl rfl rfl Try.call95 (fun w hS hR => MSub_v m gp _ HOK.out (HPM.out.keep hS.fr id) d X h1 Hh1.out) (fun _ => rfl) ?_
  try simp only [Act.put, List.setIfInBounds_toArray, List.set_cons_zero, List.set_cons_succ]
  refine lad_call rfl rfl rfl Try.call94 (fun w hS hR => MMul_v m gp _ HOK.out (HPM.out.keep hS.fr id) ee h1 h2 Hh2.out) (fun _ => rfl) ?_
  try simp only [Act.put, List.setIfInBounds_toArray, List.set_cons_zero, List.set_cons_succ]
  refine lad_call rfl rfl rfl Try.call95 (fun w hS hR => MSub_v m gp _ HOK.out (HPM.out.keep hS.fr id) h2 k3 Y HY.out) (fun _ => rfl) ?_
  try simp only [Act.put, List.setIfInBounds_toArray, List.set_cons_zero, List.set_cons_succ]
  refine lad_call rfl rfl rfl Try.call98 (fun w hS hR => MAdd_v m gp _ HOK.out (HPM.out.keep hS.fr id) z1 z1 Z HZ.out) (fun _ => rfl) ?_
  try simp only [Act.put, List.setIfInBounds_toArray, List.set_cons_zero, List.set_cons_succ]
  refine lad_w rfl rfl (fun _ => exec_build rfl _ (built_pt _ _ _)) ?_
  try simp only [Act.put, List.setIfInBounds_toArray, List.set_cons_zero, List.set_cons_succ]
  refine lad_end fun xq w25 st25 hR => ?_
  try dsimp only
  clear hR xq
  refine plan_m rfl rfl ?_
  refine wp_storeS st25 1 rfl rfl rfl rfl (by simp [cw_len]) (by kernel_rfl) (pt_one _ _ _) ?_
  intro w26 st26
  try simp only [List.set_cons_zero, List.set_cons_succ] at st26
  clear st25
  try simp only [Act.put]
  refine plan_end ?_
  refine NoPanic.normal ?_
  have hr := st26.at 1 rfl
  have hfr := st26.fr
  clear st26
  go_wp2_with fail
  exact bodyPost_ret (results_st rfl rfl hr Try.underlying72 rfl (by kernel_rfl)) rfl ⟨rfl, hfr⟩
end Go.Proofs.Ytdbgddngapminaa

/- num.Add, Sub, Mul, Inv: what they answer. -/
namespace Go.Proofs.Ytdbgddngapminaa
open Go.RowKit Go.Mv Mvp
attribute [local irreducible] limbs lw mix cw cSub cAdd cMul foldC valFrom beN laid be32 powm montT mstep elN mdL numsB numB
end Go.Proofs.Ytdbgddngapminaa

/- num.Sqrt: what it answers. -/
namespace Go.Proofs.Ytdbgddngapminaa
open Go.RowKit Go.Mv Mvp
theorem MSqrt_ok (m : Md) (gp : Nat) (w : World) (hok : m.Ok) (hpm : Has w gp (mdL m) 134) (x : Nat) (hr : rtOk m.M x = true) :
    Calls Try.prog 115 #[.pointer (some ⟨gp, 0, none⟩), i4 (elN m x)] w fun e w' => e = .returned (.tuple #[i4 (elN m (rtV m.M x)), .bool true]) ∧ Fr Nob w w' := by
  unfold rtOk at hr
  unfold rtV
  unfold rtN at *
  generalize hn : m.M / 4 + 1 = n at *
  by_cases hb : x ^ n % m.M % 2 = 1
  · rw [if_pos hb]; exact MSqrt_odd m gp w hok hpm x n hn hr hb
  · rw [if_neg hb]; exact MSqrt_even m gp w hok hpm x n hn hr (by omega)
theorem MSqrt_no (m : Md) (gp : Nat) (w : World) (hok : m.Ok) (hpm : Has w gp (mdL m) 134) (x : Nat) (hr : rtOk m.M x = false) :
    Calls Try.prog 115 #[.pointer (some ⟨gp, 0, none⟩), i4 (elN m x)] w fun e w' => e = .returned (.tuple #[i4 0, .bool false]) ∧ Fr Nob w w' := by
  unfold rtOk at hr
  unfold rtN at *
  exact MSqrt_none m gp w hok hpm x _ rfl hr
attribute [local irreducible] limbs lw mix cw cSub cAdd cMul foldC valFrom beN laid be32 powm montT mstep elN mdL numsB numB rtN rtOk rtV
end Go.Proofs.Ytdbgddngapminaa

/- group: at. -/
namespace Go.Proofs.Ytdbgddngapminaa
open Go.RowKit Go.Mv Mvp
attribute [local irreducible] limbs lw mix cw cSub cAdd cMul foldC valFrom beN laid be32 powm montT mstep elN mdL numB rtN rtV rtOk
set_option maxHeartbeats 16000000 in
set_option maxRecDepth 1000000 in
theorem at_ok (m : Md) (gc gp bx by_ : Nat) (w : World) (hok : m.Ok) (hcv : Has w gc (crvL m gp bx by_) 93) (hpm : Has w gp (mdL m) 134) (x xx x3 cv : Nat) (exx : x * x = xx) (ex3 : xx * x = x3) (ecv : x3 + 7 = cv) (hr : rtOk m.M cv = true) :
    Calls Try.prog 91 #[.pointer (some ⟨gc, 0, none⟩), i4 (elN m x)] w fun e w' => e = .returned (.tuple #[ptV m x (rtV m.M cv) 1, .bool true]) ∧ Fr Nob w w' := by
  have HOK := Lib.hid hok
  have HCV := Lib.hid hcv
  have HPM := Lib.hid hpm
  clear hok hcv hpm
  have HR := Lib.hid hr
  have Hxx := Lib.hid exx
  have Hx3 := Lib.hid ex3
  have Hcv := Lib.hid ecv
  clear hr exx ex3 ecv
  have st0 := St.start Nob w
  go_enter Try.func91, Try.ntmps91
  go_wp2_with (with_reducible refine wl_stop (o := ⟨some 3, _, _, _, _, _⟩) ?_)
  refine wl_boxS st0 rfl rfl rfl (cw 4 (elN m x)) rfl ?_
  intro g3 w1 st1
  clear st0
  go_wp2_with (with_reducible refine wl_stop (o := ⟨some 4, _, _, _, _, _⟩) ?_)
  refine wl_allocS st1 rfl rfl (z := .agg #[.int .u64 0, .int .u64 0, .int .u64 0, .int .u64 0, .int .u64 0, .int .u64 0, .int .u64 0, .int .u64 0, .int .u64 0, .int .u64 0, .int .u64 0, .int .u64 0]) (by kernel_rfl) (cw 12 0) (by rw [cw_zero]; rfl) ?_
  intro g4 w2 st2
  clear st1
  go_wp2_with fail
  refine wp_region_noPanic ?_
  refine wp_region_lad st2 31 [.o 29, .w 0, .w 1, .w 2, .t 3, .w 4, .w 5, .w 6, .t 7, .w 8, .w 9, .w 10, .t 11, .w 12, .w 13, .w 14, .t 15, .t 16, .t 18, .w 20, .w 21, .w 22, .t 23, .c 17, .c 19, .c 24, .c 25, .w 26, .w 27, .w 28, .j 29] (.r 30 (.m 31 .nil)) (by kernel_rfl) (by kernel_rfl) (fun _ _ _ _ _ h => h) ?_
  clear st2
  refine lad_o rfl rfl rfl z_ge (cw 4 0) rfl ?_
  try simp only [Act.put, List.setIfInBounds_toArray, List.set_cons_zero, List.set_cons_succ]
  iterate 3 (refine lad_w (v := ?_) rfl rfl (fun xq wx => ?_) ?_; rotate_left 1; · (go_simp; with_reducible rfl); try simp only [Act.put, List.setIfInBounds_toArray, List.set_cons_zero, List.set_cons_succ])
  refine lad_t (v := ?_) rfl rfl (fun xq wx hS => ?_) ?_
  rotate_left 1
  · (have hc := (HCV.out.keep (St.fr hS) id).cell (i := 0) rfl; clear hS; go_simp; with_reducible rfl)
  try simp only [Act.put, List.setIfInBounds_toArray, List.set_cons_zero, List.set_cons_succ]
  iterate 3 (refine lad_w (v := ?_) rfl rfl (fun xq wx => ?_) ?_; rotate_left 1; · (go_simp; with_reducible rfl); try simp only [Act.put, List.setIfInBounds_toArray, List.set_cons_zero, List.set_cons_succ])
  refine lad_t (v := ?_) rfl rfl (fun xq wx hS => ?_) ?_
  rotate_left 1
  · (have hc := (HCV.out.keep (St.fr hS) id).cell (i := 0) rfl; clear hS; go_simp; with_reducible rfl)
  try simp only [Act.put, List.setIfInBounds_toArray, List.set_cons_zero, List.set_cons_succ]
  iterate 3 (refine lad_w (v := ?_) rfl rfl (fun xq wx => ?_) ?_; rotate_left 1; · (go_simp; with_reducible rfl); try simp only [Act.put, List.setIfInBounds_toArray, List.set_cons_zero, List.set_cons_succ])
  refine lad_t (v := ?_) rfl rfl (fun xq wx hS => ?_) ?_
  rotate_left 1
  · (have hc := (HCV.out.keep (St.fr hS) id).cell (i := 0) rfl; clear hS; go_simp; with_reducible rfl)
  try simp only [Act.put, List.setIfInBounds_toArray, List.set_cons_zero, List.set_cons_succ]
  iterate 3 (refine lad_w (v := ?_) rfl rfl (fun xq wx => ?_) ?_; rotate_left 1; · (go_simp; with_reducible rfl); try simp only [Act.put, List.setIfInBounds_toArray, List.set_cons_zero, List.set_cons_succ])
  refine lad_t (v := ?_) rfl rfl (fun xq wx hS => ?_) ?_
  rotate_left 1
  · (have hc := (HCV.out.keep (St.fr hS) id).cell (i := 0) rfl; clear hS; go_simp; with_reducible rfl)
  try simp only [Act.put, List.setIfInBounds_toArray, List.set_cons_zero, List.set_cons_succ]
  refine lad_arr rfl rfl rfl (fun _ => rfl) (cw 4 (elN m x)) (fun wx hS => St.rangeL hS 0 rfl 0 _ (by rw [List.drop_zero, List.take_of_length_le (Nat.le_refl _)])) Try.underlying70 rfl (by kernel_rfl) ?_
  try simp only [Act.put, List.setIfInBounds_toArray, List.set_cons_zero, List.set_cons_succ]
  refine lad_arr rfl rfl rfl (fun _ => rfl) (cw 4 (elN m x)) (fun wx hS => St.rangeL hS 0 rfl 0 _ (by rw [List.drop_zero, List.take_of_length_le (Nat.le_refl _)])) Try.underlying70 rfl (by kernel_rfl) ?_
  try simp only [Act.put, List.setIfInBounds_toArray, List.set_cons_zero, List.set_cons_succ]
  iterate 3 (refine lad_w (v := ?_) rfl rfl (fun xq wx => ?_) ?_; rotate_left 1; · (go_simp; with_reducible rfl); try simp only [Act.put, List.setIfInBounds_toArray, List.set_cons_zero, List.set_cons_succ])
  refine lad_arr rfl rfl rfl (fun _ => rfl) (cw 4 (elN m 7)) (fun wx hS => (HCV.out.keep (St.fr hS) id).range 1 _ (crv_seven m gp bx by_)) Try.underlying70 rfl (by kernel_rfl) ?_
  try simp only [Act.put, List.setIfInBounds_toArray, List.set_cons_zero, List.set_cons_succ]
  refine lad_call rfl rfl rfl Try.call93 (fun w hS hR => MSquare_v m gp _ HOK.out (HPM.out.keep hS.fr id) x xx Hxx.out) (fun _ => rfl) ?_
  try simp only [Act.put, List.setIfInBounds_toArray, List.set_cons_zero, List.set_cons_succ]
  refine lad_call rfl rfl rfl Try.call94 (fun w hS hR => MMul_v m gp _ HOK.out (HPM.out.keep hS.fr id) xx x x3 Hx3.out) (fun _ => rfl) ?_
  try simp only [Act.put, List.setIfInBounds_toArray, List.set_cons_zero, List.set_cons_succ]
  refine lad_call rfl rfl rfl Try.call98 (fun w hS hR => MAdd_v m gp _ HOK.out (HPM.out.keep hS.fr id) x3 7 cv Hcv.out) (fun _ => rfl) ?_
  try simp only [Act.put, List.setIfInBounds_toArray, List.set_cons_zero, List.set_cons_succ]
  refine lad_call rfl rfl rfl Try.call115 (fun w hS hR => MSqrt_ok m gp _ HOK.out (HPM.out.keep hS.fr id) cv HR.out) (fun _ => rfl) ?_
  try simp only [Act.put, List.setIfInBounds_toArray, List.set_cons_zero, List.set_cons_succ]
  iterate 3 (refine lad_w (v := ?_) rfl rfl (fun xq wx => ?_) ?_; rotate_left 1; · (go_simp; with_reducible rfl); try simp only [Act.put, List.setIfInBounds_toArray, List.set_cons_zero, List.set_cons_succ])
  refine lad_j List.mem_cons_self fun g6 => ?_
  simp only [upd, reduceIte]
  refine lad_end fun xq w3 st3 hR => ?_
  try dsimp only
  clear hR xq
  refine plan_r rfl rfl ?_
  refine wp_storeS st3 2 rfl rfl rfl rfl (by simp [cw_len]) (by kernel_rfl) (cw_one _ _) ?_
  intro w4 st4
  repeat (first | simp only [List.cons_append] at st4 | simp only [List.nil_append] at st4 | simp only [List.set_cons_succ] at st4 | simp only [List.set_cons_zero] at st4)
  clear st3
  refine ⟨by first | exact st4 | exact St.less st4 (by simp), ?_⟩
  try simp only [Act.put]
  refine plan_m rfl rfl ?_
  go_simp
  try simp only [Act.put, List.setIfInBounds_toArray, List.set_cons_zero, List.set_cons_succ]
  refine plan_end ?_
  refine NoPanic.normal ?_
  go_wp2_with fail
  refine wp_region_noPanic ?_
  refine wp_region_lad st4 9 [.t 0, .t 1, .w 2, .w 3, .w 4, .t 5, .w 8, .c 6, .w 7] (.m 9 (.w 10 .nil)) (by kernel_rfl) (by kernel_rfl) (fun _ _ _ _ _ h => h) ?_
  clear st4
  refine lad_arr rfl rfl rfl (fun _ => rfl) (cw 4 (elN m x)) (fun wx hS => St.rangeL hS 0 rfl 0 _ (by rw [List.drop_zero, List.take_of_length_le (Nat.le_refl _)])) Try.underlying70 rfl (by kernel_rfl) ?_
  try simp only [Act.put, List.setIfInBounds_toArray, List.set_cons_zero, List.set_cons_succ]
  refine lad_arr rfl rfl rfl (fun _ => rfl) (cw 4 (elN m (rtV m.M cv))) (fun wx hS => St.rangeL hS 2 rfl 0 _ (by rw [List.drop_zero, List.take_of_length_le (Nat.le_refl _)])) Try.underlying70 rfl (by kernel_rfl) ?_
  try simp only [Act.put, List.setIfInBounds_toArray, List.set_cons_zero, List.set_cons_succ]
  iterate 3 (refine lad_w (v := ?_) rfl rfl (fun xq wx => ?_) ?_; rotate_left 1; · (go_simp; with_reducible rfl); try simp only [Act.put, List.setIfInBounds_toArray, List.set_cons_zero, List.set_cons_succ])
  refine lad_t (v := ?_) rfl rfl (fun xq wx hS => ?_) ?_
  rotate_left 1
  · (have hc := (HCV.out.keep (St.fr hS) id).cell (i := 0) rfl; clear hS; go_simp; with_reducible rfl)
  try simp only [Act.put, List.setIfInBounds_toArray, List.set_cons_zero, List.set_cons_succ]
  refine lad_w (v := ?_) rfl rfl (fun xq wx => ?_) ?_; rotate_left 1; · (go_simp; with_reducible rfl)
  try simp only [Act.put, List.setIfInBounds_toArray, List.set_cons_zero, List.set_cons_succ]
  refine lad_call rfl rfl rfl Try.call86 (fun w hS hR => MOne_any m gp _ HOK.out (HPM.out.keep hS.fr id)) (fun _ => rfl) ?_
  try simp only [Act.put, List.setIfInBounds_toArray, List.set_cons_zero, List.set_cons_succ]
  refine lad_w rfl rfl (fun _ => exec_build rfl _ (built_pt _ _ _)) ?_
  try simp only [Act.put, List.setIfInBounds_toArray, List.set_cons_zero, List.set_cons_succ]
  refine lad_end fun xq w5 st5 hR => ?_
  try dsimp only
  clear hR xq
  refine plan_m rfl rfl ?_
  refine wp_storeS st5 1 rfl rfl rfl rfl (by simp [cw_len]) (by kernel_rfl) (pt_one _ _ _) ?_
  intro w6 st6
  try simp only [List.set_cons_zero, List.set_cons_succ] at st6
  clear st5
  try simp only [Act.put]
  refine plan_w (v := ?_) rfl rfl (fun wx => ?_) ?_; rotate_left 1; · (go_simp; with_reducible rfl)
  try simp only [Act.put, List.setIfInBounds_toArray, List.set_cons_zero, List.set_cons_succ]
  refine plan_end ?_
  refine NoPanic.normal ?_
  have hr := st6.at 1 rfl
  have hfr := st6.fr
  clear st6
  go_wp2_with fail
  exact bodyPost_ret (results_st2 rfl rfl hr Try.underlying72 rfl (by kernel_rfl) rfl) rfl ⟨by unfold ptV ptL; rfl, hfr⟩

set_option maxHeartbeats 16000000 in
set_option maxRecDepth 1000000 in
theorem at_no (m : Md) (gc gp bx by_ : Nat) (w : World) (hok : m.Ok) (hcv : Has w gc (crvL m gp bx by_) 93) (hpm : Has w gp (mdL m) 134) (x xx x3 cv : Nat) (exx : x * x = xx) (ex3 : xx * x = x3) (ecv : x3 + 7 = cv) (hr : rtOk m.M cv = false) :
    Calls Try.prog 91 #[.pointer (some ⟨gc, 0, none⟩), i4 (elN m x)] w fun e w' => e = .returned (.tuple #[ptV m x (0) 1, .bool false]) ∧ Fr Nob w w' := by
  have HOK := Lib.hid hok
  have HCV := Lib.hid hcv
  have HPM := Lib.hid hpm
  clear hok hcv hpm
  have HR := Lib.hid hr
  have Hxx := Lib.hid exx
  have Hx3 := Lib.hid ex3
  have Hcv := Lib.hid ecv
  clear hr exx ex3 ecv
  have st0 := St.start Nob w
  go_enter Try.func91, Try.ntmps91
  go_wp2_with (with_reducible refine wl_stop (o := ⟨some 3, _, _, _, _, _⟩) ?_)
  refine wl_boxS st0 rfl rfl rfl (cw 4 (elN m x)) rfl ?_
  intro g3 w1 st1
  clear st0
  go_wp2_with (with_reducible refine wl_stop (o := ⟨some 4, _, _, _, _, _⟩) ?_)
  refine wl_allocS st1 rfl rfl (z := .agg #[.int .u64 0, .int .u64 0, .int .u64 0, .int .u64 0, .int .u64 0, .int .u64 0, .int .u64 0, .int .u64 0, .int .u64 0, .int .u64 0, .int .u64 0, .int .u64 0]) (by kernel_rfl) (cw 12 0) (by rw [cw_zero]; rfl) ?_
  intro g4 w2 st2
  clear st1
  go_wp2_with fail
  refine wp_region_noPanic ?_
  refine wp_region_lad st2 31 [.o 29, .w 0, .w 1, .w 2, .t 3, .w 4, .w 5, .w 6, .t 7, .w 8, .w 9, .w 10, .t 11, .w 12, .w 13, .w 14, .t 15, .t 16, .t 18, .w 20, .w 21, .w 22, .t 23, .c 17, .c 19, .c 24, .c 25, .w 26, .w 27, .w 28, .j 29] (.r 30 (.m 31 .nil)) (by kernel_rfl) (by kernel_rfl) (fun _ _ _ _ _ h => h) ?_
  clear st2
  refine lad_o rfl rfl rfl z_ge (cw 4 0) rfl ?_
  try simp only [Act.put, List.setIfInBounds_toArray, List.set_cons_zero, List.set_cons_succ]
  iterate 3 (refine lad_w (v := ?_) rfl rfl (fun xq wx => ?_) ?_; rotate_left 1; · (go_simp; with_reducible rfl); try simp only [Act.put, List.setIfInBounds_toArray, List.set_cons_zero, List.set_cons_succ])
  refine lad_t (v := ?_) rfl rfl (fun xq wx hS => ?_) ?_
  rotate_left 1
  · (have hc := (HCV.out.keep (St.fr hS) id).cell (i := 0) rfl; clear hS; go_simp; with_reducible rfl)
  try simp only [Act.put, List.setIfInBounds_toArray, List.set_cons_zero, List.set_cons_succ]
  iterate 3 (refine lad_w (v := ?_) rfl rfl (fun xq wx => ?_) ?_; rotate_left 1; · (go_simp; with_reducible rfl); try simp only [Act.put, List.setIfInBounds_toArray, List.set_cons_zero, List.set_cons_succ])
  refine lad_t (v := ?_) rfl rfl (fun xq wx hS => ?_) ?_
  rotate_left 1
  · (have hc := (HCV.out.keep (St.fr hS) id).cell (i := 0) rfl; clear hS; go_simp; with_reducible rfl)
  try simp only [Act.put, List.setIfInBounds_toArray, List.set_cons_zero, List.set_cons_succ]
  iterate 3 (refine lad_w (v := ?_) rfl rfl (fun xq wx => ?_) ?_; rotate_left 1; · (go_simp; with_reducible rfl); try simp only [Act.put, List.setIfInBounds_toArray, List.set_cons_zero, List.set_cons_succ])
  refine lad_t (v := ?_) rfl rfl (fun xq wx hS => ?_) ?_
  rotate_left 1
  · (have hc := (HCV.out.keep (St.fr hS) id).cell (i := 0) rfl; clear hS; go_simp; with_reducible rfl)
  try simp only [Act.put, List.setIfInBounds_toArray, List.set_cons_zero, List.set_cons_succ]
  iterate 3 (refine lad_w (v := ?_) rfl rfl (fun xq wx => ?_) ?_; rotate_left 1; · (go_simp; with_reducible rfl); try simp only [Act.put, List.setIfInBounds_toArray, List.set_cons_zero, List.set_cons_succ])
  refine lad_t (v := ?_) rfl rfl (fun xq wx hS => ?_) ?_
  rotate_left 1
  · (have hc := (HCV.out.keep (St.fr hS) id).cell (i := 0) rfl; clear hS; go_simp; with_reducible rfl)
  try simp only [Act.put, List.setIfInBounds_toArray, List.set_cons_zero, List.set_cons_succ]
  refine lad_arr rfl rfl rfl (fun _ => rfl) (cw 4 (elN m x)) (fun wx hS => St.rangeL hS 0 rfl 0 _ (by rw [List.drop_zero, List.take_of_length_le (Nat.le_refl _)])) Try.underlying70 rfl (by kernel_rfl) ?_
  try simp only [Act.put, List.setIfInBounds_toArray, List.set_cons_zero, List.set_cons_succ]
  refine lad_arr rfl rfl rfl (fun _ => rfl) (cw 4 (elN m x)) (fun wx hS => St.rangeL hS 0 rfl 0 _ (by rw [List.drop_zero, List.take_of_length_le (Nat.le_refl _)])) Try.underlying70 rfl (by kernel_rfl) ?_
  try simp only [Act.put, List.setIfInBounds_toArray, List.set_cons_zero, List.set_cons_succ]
  iterate 3 (refine lad_w (v := ?_) rfl rfl (fun xq wx => ?_) ?_; rotate_left 1; · (go_simp; with_reducible rfl); try simp only [Act.put, List.setIfInBounds_toArray, List.set_cons_zero, List.set_cons_succ])
  refine lad_arr rfl rfl rfl (fun _ => rfl) (cw 4 (elN m 7)) (fun wx hS => (HCV.out.keep (St.fr hS) id).range 1 _ (crv_seven m gp bx by_)) Try.underlying70 rfl (by kernel_rfl) ?_
  try simp only [Act.put, List.setIfInBounds_toArray, List.set_cons_zero, List.set_cons_succ]
  refine lad_call rfl rfl rfl Try.call93 (fun w hS hR => MSquare_v m gp _ HOK.out (HPM.out.keep hS.fr id) x xx Hxx.out) (fun _ => rfl) ?_
  try simp only [Act.put, List.setIfInBounds_toArray, List.set_cons_zero, List.set_cons_succ]
  refine lad_call rfl rfl rfl Try.call94 (fun w hS hR => MMul_v m gp _ HOK.out (HPM.out.keep hS.fr id) xx x x3 Hx3.out) (fun _ => rfl) ?_
  try simp only [Act.put, List.setIfInBounds_toArray, List.set_cons_zero, List.set_cons_succ]
  refine lad_call rfl rfl rfl Try.call98 (fun w hS hR => MAdd_v m gp _ HOK.out (HPM.out.keep hS.fr id) x3 7 cv Hcv.out) (fun _ => rfl) ?_
  try simp only [Act.put, List.setIfInBounds_toArray, List.set_cons_zero, List.set_cons_succ]
  refine lad_call rfl rfl rfl Try.call115 (fun w hS hR => MSqrt_no m gp _ HOK.out (HPM.out.keep hS.fr id) cv HR.out) (fun _ => rfl) ?_
  try simp only [Act.put, List.setIfInBounds_toArray, List.set_cons_zero, List.set_cons_succ]
  iterate 3 (refine lad_w (v := ?_) rfl rfl (fun xq wx => ?_) ?_; rotate_left 1; · (go_simp; with_reducible rfl); try simp only [Act.put, List.setIfInBounds_toArray, List.set_cons_zero, List.set_cons_succ])
  refine lad_j List.mem_cons_self fun g6 => ?_
  simp only [upd, reduceIte]
  refine lad_end fun xq w3 st3 hR => ?_
  try dsimp only
  clear hR xq
  refine plan_r rfl rfl ?_
  refine wp_storeS st3 2 rfl rfl rfl rfl (by simp [cw_len]) (by kernel_rfl) (cw_one _ _) ?_
  intro w4 st4
  repeat (first | simp only [List.cons_append] at st4 | simp only [List.nil_append] at st4 | simp only [List.set_cons_succ] at st4 | simp only [List.set_cons_zero] at st4)
  clear st3
  refine ⟨by first | exact st4 | exact St.less st4 (by simp), ?_⟩
  try simp only [Act.put]
  refine plan_m rfl rfl ?_
  go_simp
  try simp only [Act.put, List.setIfInBounds_toArray, List.set_cons_zero, List.set_cons_succ]
  refine plan_end ?_
  refine NoPanic.normal ?_
  go_wp2_with fail
  refine wp_region_noPanic ?_
  refine wp_region_lad st4 9 [.t 0, .t 1, .w 2, .w 3, .w 4, .t 5, .w 8, .c 6, .w 7] (.m 9 (.w 10 .nil)) (by kernel_rfl) (by kernel_rfl) (fun _ _ _ _ _ h => h) ?_
  clear st4
  refine lad_arr rfl rfl rfl (fun _ => rfl) (cw 4 (elN m x)) (fun wx hS => St.rangeL hS 0 rfl 0 _ (by rw [List.drop_zero, List.take_of_length_le (Nat.le_refl _)])) Try.underlying70 rfl (by kernel_rfl) ?_
  try simp only [Act.put, List.setIfInBounds_toArray, List.set_cons_zero, List.set_cons_succ]
  refine lad_arr rfl rfl rfl (fun _ => rfl) (cw 4 0) (fun wx hS => St.rangeL hS 2 rfl 0 _ (by rw [List.drop_zero, List.take_of_length_le (Nat.le_refl _)])) Try.underlying70 rfl (by kernel_rfl) ?_
  try simp only [Act.put, List.setIfInBounds_toArray, List.set_cons_zero, List.set_cons_succ]
  iterate 3 (refine lad_w (v := ?_) rfl rfl (fun xq wx => ?_) ?_; rotate_left 1; · (go_simp; with_reducible rfl); try simp only [Act.put, List.setIfInBounds_toArray, List.set_cons_zero, List.set_cons_succ])
  refine lad_t (v := ?_) rfl rfl (fun xq wx hS => ?_) ?_
  rotate_left 1
  · (have hc := (HCV.out.keep (St.fr hS) id).cell (i := 0) rfl; clear hS; go_simp; with_reducible rfl)
  try simp only [Act.put, List.setIfInBounds_toArray, List.set_cons_zero, List.set_cons_succ]
  refine lad_w (v := ?_) rfl rfl (fun xq wx => ?_) ?_; rotate_left 1; · (go_simp; with_reducible rfl)
  try simp only [Act.put, List.setIfInBounds_toArray, List.set_cons_zero, List.set_cons_succ]
  refine lad_call rfl rfl rfl Try.call86 (fun w hS hR => MOne_any m gp _ HOK.out (HPM.out.keep hS.fr id)) (fun _ => rfl) ?_
  try simp only [Act.put, List.setIfInBounds_toArray, List.set_cons_zero, List.set_cons_succ]
  refine lad_w rfl rfl (fun _ => exec_build rfl _ (built_pt _ _ _)) ?_
  try simp only [Act.put, List.setIfInBounds_toArray, List.set_cons_zero, List.set_cons_succ]
  refine lad_end fun xq w5 st5 hR => ?_
  try dsimp only
  clear hR xq
  refine plan_m rfl rfl ?_
  refine wp_storeS st5 1 rfl rfl rfl rfl (by simp [cw_len]) (by kernel_rfl) (pt_one _ _ _) ?_
  intro w6 st6
  try simp only [List.set_cons_zero, List.set_cons_succ] at st6
  clear st5
  try simp only [Act.put]
  refine plan_w (v := ?_) rfl rfl (fun wx => ?_) ?_; rotate_left 1; · (go_simp; with_reducible rfl)
  try simp only [Act.put, List.setIfInBounds_toArray, List.set_cons_zero, List.set_cons_succ]
  refine plan_end ?_
  refine NoPanic.normal ?_
  have hr := st6.at 1 rfl
  have hfr := st6.fr
  clear st6
  go_wp2_with fail
  exact bodyPost_ret (results_st2 rfl rfl hr Try.underlying72 rfl (by kernel_rfl) rfl) rfl ⟨by unfold ptV ptL; rw [el_zero]; rfl, hfr⟩
end Go.Proofs.Ytdbgddngapminaa
