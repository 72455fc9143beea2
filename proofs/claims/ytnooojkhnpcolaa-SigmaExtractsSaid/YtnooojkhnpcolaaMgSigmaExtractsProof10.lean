/- zn: scalars: order, Of, the methods, Wide, Small; num.reckon, over an operation's contract; num: Add, Sub, Mul, Inv; Arrays of words compared; a number shifted down; bits laid one by one; mont.Int.shift by two bits; mont: Sqrt; num.Sqrt's operation; zn: Zero, Small, Bytes; scalars compared. -/
import Derived.Test.YtnooojkhnpcolaaMgSigmaExtractsProof9
import Derived.ChangeKeysEq
import Derived.StillTailTactics
namespace Go.Proofs.Ytnooojkhnpcolaa
open Go.RowKit Go.Mv Mvp
attribute [local irreducible] limbs lw mix cw cSub cAdd cMul foldC valFrom beN laid be32 powm montT mstep elN mdL numB
theorem exec_build {P : Program} {o : Oper} {a : Act} {t : TypeId} {parts : Array (Nat × Operand)} (ho : o.op = .build t parts) (cells : Array Value)
    (hb : P.built t (parts.toList.map fun p => (p.1, a.eval p.2)) = some cells) (w : World) : (execOp a.eval o).run P w = .ok (.value (.agg cells)) w := by
  have hr := run_build (P := P) w t (parts.map fun (i, x) => (i, a.eval x)) cells (by
    have : (parts.map fun (i, x) => (i, a.eval x)).toList = (parts.toList.map fun p => (p.1, a.eval p.2)) := by simp
    rw [this]; exact hb)
  unfold execOp
  simp only [ho, Sem.run_bind, Sem.run_pure, Result.andThen_ok, hr]
theorem results_st2 {P : Program} {fn : Func} {p : Tmp} {ty : TypeId} {s : Tmp} (h : fn.results = #[.cell p ty, .tmp s]) {tmps : Array Value} {w : World} {g : Nat} {L : List Value} {T : TypeId}
    (hp : tmps.getD p undef = .pointer (some ⟨g, 0, none⟩)) (hg : Has w g L T) {d : TypeDesc} (hu : P.underlying ty = some d) (hd : (match d with | .struct _ | .array _ _ => true | _ => false) = true) (hi : (P.info? ty).map (·.size) = some L.length) {v : Value} (hv : tmps.getD s undef = v) :
    (results fn tmps).run P w = .ok (.tuple #[.agg L.toArray, v]) w := by
  obtain ⟨lo, hi', hh, -⟩ := hg
  have hp' : tmps[p]?.getD undef = .pointer (some ⟨g, 0, none⟩) := by simpa using hp
  have hv' : tmps[s]?.getD undef = v := by simpa using hv
  simp [results, h, hp', hv', asAddr, run_loadVar_row w g T ty L.toArray _ _ hh hu (by cases d <;> first | rfl | (simp at hd)) (by simpa using hi)]
theorem info_Z : (Try.prog.info? 94).map (fun i => (i.zero, i.size, i.bytes)) = some (some (.agg #[.int .u64 0, .int .u64 0, .int .u64 0, .int .u64 0]), 4, 32) := by kernel_rfl
theorem built_Z (a : Nat) : Try.prog.built 94 [(0, i4 a)] = some (cw 4 a).toArray := by kernel_rfl
theorem order_any (m : Md) (hk : KindOf 1 m) (w : World) : Calls Try.prog 70 #[] w fun e w' => ∃ gp, e = .returned (.pointer (some ⟨gp, 0, none⟩)) ∧ w.heap.size ≤ gp ∧ Has w' gp (mdL m) 159 ∧ Fr Nob w w' := by
  have HK := Lib.hid hk
  clear hk
  go_enter Try.func70, Try.ntmps70
  go_wp2_with fail
  refine (OfK HK.out _).mono ?_
  rintro e w1 ⟨gp, rfl, hle, hm, hf⟩
  have HL := Lib.hid hle
  have HM := Lib.hid hm
  have HF := Lib.hid hf
  clear hm hf hle
  go_wp2_with fail
  go_ret
  exact ⟨gp, rfl, HL.out, HM.out, HF.out⟩

set_option maxHeartbeats 8000000 in
set_option maxRecDepth 100000 in
theorem ZSub_any (m : Md) (hk : KindOf 1 m) (x y : Nat) (w : World) :
    Calls Try.prog 44 #[i4 (elN m x), i4 (elN m y)] w fun e w' => e = .returned (i4 (elN m (x + (m.M - y % m.M)))) ∧ Fr Nob w w' := by
  have HK := Lib.hid hk
  have HOK := Lib.hid hk.ok
  clear hk
  have st0 := St.start Nob w
  go_enter Try.func44, Try.ntmps44
  go_wp2_with (with_reducible refine wl_stop (o := ⟨some 2, _, _, _, _, _⟩) ?_)
  refine wl_boxS st0 rfl rfl rfl (cw 4 (elN m x)) rfl ?_
  intro g2 w1 st1
  clear st0
  go_wp2_with (with_reducible refine wl_stop (o := ⟨some 3, _, _, _, _, _⟩) ?_)
  refine wl_boxS st1 rfl rfl rfl (cw 4 (elN m y)) rfl ?_
  intro g3 w2 st2
  clear st1
  go_wp2_with (with_reducible refine wl_stop (o := ⟨some 4, _, _, _, _, _⟩) ?_)
  refine wl_allocS st2 rfl rfl (z := .agg #[.int .u64 0, .int .u64 0, .int .u64 0, .int .u64 0]) (by kernel_rfl) (cw 4 0) (by rw [cw_zero]; rfl) ?_
  intro g4 w3 st3
  clear st2
  go_wp2_with fail
  refine wp_region_noPanic ?_
  refine wp_region_plan (fun wx => St Nob w wx [(g2, cw 4 (elN m x), 94), (g3, cw 4 (elN m y), 94), (g4, cw 4 0, 94)]) 7 (.w 1 (.t 2 (.w 3 (.t 4 (.r 0 (.r 5 (.w 6 (.m 7 .nil)))))))) (by kernel_rfl) (by kernel_rfl) st3.drew (fun _ _ _ _ _ h => h) ?_
  have hd3 := st3.drew
  clear st3
  refine plan_w (v := ?_) rfl rfl (fun wx => ?_) ?_
  rotate_left 1
  · (go_simp; with_reducible rfl)
  try simp only [Act.put, List.setIfInBounds_toArray, List.set_cons_zero, List.set_cons_succ]
  refine plan_arr rfl rfl rfl rfl (cw 4 (elN m x)) (fun wx hS => St.rangeL hS 0 rfl 0 _ (by rw [List.drop_zero, List.take_of_length_le (Nat.le_refl _)])) Try.underlying92 rfl (by first | (rw [cw_len]; kernel_rfl) | (simp only [List.length_append, cw_len]; kernel_rfl)) ?_
  try simp only [Act.put, List.setIfInBounds_toArray, List.set_cons_zero, List.set_cons_succ]
  refine plan_w (v := ?_) rfl rfl (fun wx => ?_) ?_
  rotate_left 1
  · (go_simp; with_reducible rfl)
  try simp only [Act.put, List.setIfInBounds_toArray, List.set_cons_zero, List.set_cons_succ]
  refine plan_arr rfl rfl rfl rfl (cw 4 (elN m y)) (fun wx hS => St.rangeL hS 1 rfl 0 _ (by rw [List.drop_zero, List.take_of_length_le (Nat.le_refl _)])) Try.underlying92 rfl (by first | (rw [cw_len]; kernel_rfl) | (simp only [List.length_append, cw_len]; kernel_rfl)) ?_
  try simp only [Act.put, List.setIfInBounds_toArray, List.set_cons_zero, List.set_cons_succ]
  refine plan_r rfl rfl ?_
  go_simp
  refine (order_any m HK.out _).mono ?_
  rintro e' w4 ⟨gp, rfl, hle, hm, hf4⟩
  have st4 : St Nob w w4 [(g2, cw 4 (elN m x), 94), (g3, cw 4 (elN m y), 94), (g4, cw 4 0, 94), (gp, mdL m, 159)] := hd3.new hf4 hm hle
  clear hf4 hm hle
  clear hd3
  refine ⟨St.less st4 (by simp), ?_⟩
  try simp only [Act.put, List.setIfInBounds_toArray, List.set_cons_zero, List.set_cons_succ]
  refine plan_r rfl rfl ?_
  go_simp
  refine (MSub_any m gp _ HOK.out (st4.at 3 rfl) x y).mono ?_
  rintro e' w5 ⟨rfl, hf5⟩
  have st5 := st4.keep hf5
  clear hf5
  clear st4
  refine ⟨St.less st5 (by simp), ?_⟩
  try simp only [Act.put, List.setIfInBounds_toArray, List.set_cons_zero, List.set_cons_succ]
  refine plan_w rfl rfl (exec_build rfl _ (built_Z _)) ?_
  try simp only [Act.put, List.setIfInBounds_toArray, List.set_cons_zero, List.set_cons_succ]
  refine plan_m rfl rfl ?_
  refine wp_storeS st5 2 rfl rfl rfl rfl (by first | (simp only [cw_len]; done) | (simp only [List.length_append, cw_len]; done)) (by first | (rw [cw_len]; kernel_rfl) | (simp only [List.length_append, cw_len]; kernel_rfl)) (cw_one _ _) ?_
  intro w6 st6
  clear st5
  try simp only [Act.put]
  refine plan_end ?_
  refine NoPanic.normal ?_
  have hr := st6.at 2 rfl
  have hfr := st6.fr
  clear st6
  go_wp2_with fail
  exact bodyPost_ret (results_st rfl rfl hr Try.underlying94 rfl (by first | (rw [cw_len]; kernel_rfl) | (simp only [List.length_append, cw_len]; kernel_rfl))) rfl ⟨rfl, hfr⟩

set_option maxHeartbeats 8000000 in
set_option maxRecDepth 100000 in
theorem ZMul_any (m : Md) (hk : KindOf 1 m) (x y : Nat) (w : World) :
    Calls Try.prog 45 #[i4 (elN m x), i4 (elN m y)] w fun e w' => e = .returned (i4 (elN m (x * y))) ∧ Fr Nob w w' := by
  have HK := Lib.hid hk
  have HOK := Lib.hid hk.ok
  clear hk
  have st0 := St.start Nob w
  go_enter Try.func45, Try.ntmps45
  go_wp2_with (with_reducible refine wl_stop (o := ⟨some 2, _, _, _, _, _⟩) ?_)
  refine wl_boxS st0 rfl rfl rfl (cw 4 (elN m x)) rfl ?_
  intro g2 w1 st1
  clear st0
  go_wp2_with (with_reducible refine wl_stop (o := ⟨some 3, _, _, _, _, _⟩) ?_)
  refine wl_boxS st1 rfl rfl rfl (cw 4 (elN m y)) rfl ?_
  intro g3 w2 st2
  clear st1
  go_wp2_with (with_reducible refine wl_stop (o := ⟨some 4, _, _, _, _, _⟩) ?_)
  refine wl_allocS st2 rfl rfl (z := .agg #[.int .u64 0, .int .u64 0, .int .u64 0, .int .u64 0]) (by kernel_rfl) (cw 4 0) (by rw [cw_zero]; rfl) ?_
  intro g4 w3 st3
  clear st2
  go_wp2_with fail
  refine wp_region_noPanic ?_
  refine wp_region_plan (fun wx => St Nob w wx [(g2, cw 4 (elN m x), 94), (g3, cw 4 (elN m y), 94), (g4, cw 4 0, 94)]) 7 (.w 1 (.t 2 (.w 3 (.t 4 (.r 0 (.r 5 (.w 6 (.m 7 .nil)))))))) (by kernel_rfl) (by kernel_rfl) st3.drew (fun _ _ _ _ _ h => h) ?_
  have hd3 := st3.drew
  clear st3
  refine plan_w (v := ?_) rfl rfl (fun wx => ?_) ?_
  rotate_left 1
  · (go_simp; with_reducible rfl)
  try simp only [Act.put, List.setIfInBounds_toArray, List.set_cons_zero, List.set_cons_succ]
  refine plan_arr rfl rfl rfl rfl (cw 4 (elN m x)) (fun wx hS => St.rangeL hS 0 rfl 0 _ (by rw [List.drop_zero, List.take_of_length_le (Nat.le_refl _)])) Try.underlying92 rfl (by first | (rw [cw_len]; kernel_rfl) | (simp only [List.length_append, cw_len]; kernel_rfl)) ?_
  try simp only [Act.put, List.setIfInBounds_toArray, List.set_cons_zero, List.set_cons_succ]
  refine plan_w (v := ?_) rfl rfl (fun wx => ?_) ?_
  rotate_left 1
  · (go_simp; with_reducible rfl)
  try simp only [Act.put, List.setIfInBounds_toArray, List.set_cons_zero, List.set_cons_succ]
  refine plan_arr rfl rfl rfl rfl (cw 4 (elN m y)) (fun wx hS => St.rangeL hS 1 rfl 0 _ (by rw [List.drop_zero, List.take_of_length_le (Nat.le_refl _)])) Try.underlying92 rfl (by first | (rw [cw_len]; kernel_rfl) | (simp only [List.length_append, cw_len]; kernel_rfl)) ?_
  try simp only [Act.put, List.setIfInBounds_toArray, List.set_cons_zero, List.set_cons_succ]
  refine plan_r rfl rfl ?_
  go_simp
  refine (order_any m HK.out _).mono ?_
  rintro e' w4 ⟨gp, rfl, hle, hm, hf4⟩
  have st4 : St Nob w w4 [(g2, cw 4 (elN m x), 94), (g3, cw 4 (elN m y), 94), (g4, cw 4 0, 94), (gp, mdL m, 159)] := hd3.new hf4 hm hle
  clear hf4 hm hle
  clear hd3
  refine ⟨St.less st4 (by simp), ?_⟩
  try simp only [Act.put, List.setIfInBounds_toArray, List.set_cons_zero, List.set_cons_succ]
  refine plan_r rfl rfl ?_
  go_simp
  refine (MMulE m gp _ HOK.out (st4.at 3 rfl) x y).mono ?_
  rintro e' w5 ⟨rfl, hf5⟩
  have st5 := st4.keep hf5
  clear hf5
  clear st4
  refine ⟨St.less st5 (by simp), ?_⟩
  try simp only [Act.put, List.setIfInBounds_toArray, List.set_cons_zero, List.set_cons_succ]
  refine plan_w rfl rfl (exec_build rfl _ (built_Z _)) ?_
  try simp only [Act.put, List.setIfInBounds_toArray, List.set_cons_zero, List.set_cons_succ]
  refine plan_m rfl rfl ?_
  refine wp_storeS st5 2 rfl rfl rfl rfl (by first | (simp only [cw_len]; done) | (simp only [List.length_append, cw_len]; done)) (by first | (rw [cw_len]; kernel_rfl) | (simp only [List.length_append, cw_len]; kernel_rfl)) (cw_one _ _) ?_
  intro w6 st6
  clear st5
  try simp only [Act.put]
  refine plan_end ?_
  refine NoPanic.normal ?_
  have hr := st6.at 2 rfl
  have hfr := st6.fr
  clear st6
  go_wp2_with fail
  exact bodyPost_ret (results_st rfl rfl hr Try.underlying94 rfl (by first | (rw [cw_len]; kernel_rfl) | (simp only [List.length_append, cw_len]; kernel_rfl))) rfl ⟨rfl, hfr⟩

set_option maxHeartbeats 8000000 in
set_option maxRecDepth 100000 in
theorem ZInv_any (m : Md) (hk : KindOf 1 m) (x : Nat) (w : World) :
    Calls Try.prog 46 #[i4 (elN m x)] w fun e w' => e = .returned (i4 (elN m (x ^ (m.M - 2)))) ∧ Fr Nob w w' := by
  have HK := Lib.hid hk
  have HOK := Lib.hid hk.ok
  clear hk
  have st0 := St.start Nob w
  go_enter Try.func46, Try.ntmps46
  go_wp2_with (with_reducible refine wl_stop (o := ⟨some 1, _, _, _, _, _⟩) ?_)
  refine wl_boxS st0 rfl rfl rfl (cw 4 (elN m x)) rfl ?_
  intro g1 w1 st1
  clear st0
  go_wp2_with (with_reducible refine wl_stop (o := ⟨some 2, _, _, _, _, _⟩) ?_)
  refine wl_allocS st1 rfl rfl (z := .agg #[.int .u64 0, .int .u64 0, .int .u64 0, .int .u64 0]) (by kernel_rfl) (cw 4 0) (by rw [cw_zero]; rfl) ?_
  intro g2 w2 st2
  clear st1
  go_wp2_with fail
  refine wp_region_noPanic ?_
  refine wp_region_plan (fun wx => St Nob w wx [(g1, cw 4 (elN m x), 94), (g2, cw 4 0, 94)]) 5 (.w 1 (.t 2 (.r 0 (.r 3 (.w 4 (.m 5 .nil)))))) (by kernel_rfl) (by kernel_rfl) st2.drew (fun _ _ _ _ _ h => h) ?_
  have hd2 := st2.drew
  clear st2
  refine plan_w (v := ?_) rfl rfl (fun wx => ?_) ?_
  rotate_left 1
  · (go_simp; with_reducible rfl)
  try simp only [Act.put, List.setIfInBounds_toArray, List.set_cons_zero, List.set_cons_succ]
  refine plan_arr rfl rfl rfl rfl (cw 4 (elN m x)) (fun wx hS => St.rangeL hS 0 rfl 0 _ (by rw [List.drop_zero, List.take_of_length_le (Nat.le_refl _)])) Try.underlying92 rfl (by first | (rw [cw_len]; kernel_rfl) | (simp only [List.length_append, cw_len]; kernel_rfl)) ?_
  try simp only [Act.put, List.setIfInBounds_toArray, List.set_cons_zero, List.set_cons_succ]
  refine plan_r rfl rfl ?_
  go_simp
  refine (order_any m HK.out _).mono ?_
  rintro e' w3 ⟨gp, rfl, hle, hm, hf3⟩
  have st3 : St Nob w w3 [(g1, cw 4 (elN m x), 94), (g2, cw 4 0, 94), (gp, mdL m, 159)] := hd2.new hf3 hm hle
  clear hf3 hm hle
  clear hd2
  refine ⟨St.less st3 (by simp), ?_⟩
  try simp only [Act.put, List.setIfInBounds_toArray, List.set_cons_zero, List.set_cons_succ]
  refine plan_r rfl rfl ?_
  go_simp
  refine (MInv_any m gp _ HOK.out (st3.at 2 rfl) x).mono ?_
  rintro e' w4 ⟨rfl, hf4⟩
  have st4 := st3.keep hf4
  clear hf4
  clear st3
  refine ⟨St.less st4 (by simp), ?_⟩
  try simp only [Act.put, List.setIfInBounds_toArray, List.set_cons_zero, List.set_cons_succ]
  refine plan_w rfl rfl (exec_build rfl _ (built_Z _)) ?_
  try simp only [Act.put, List.setIfInBounds_toArray, List.set_cons_zero, List.set_cons_succ]
  refine plan_m rfl rfl ?_
  refine wp_storeS st4 1 rfl rfl rfl rfl (by first | (simp only [cw_len]; done) | (simp only [List.length_append, cw_len]; done)) (by first | (rw [cw_len]; kernel_rfl) | (simp only [List.length_append, cw_len]; kernel_rfl)) (cw_one _ _) ?_
  intro w5 st5
  clear st4
  try simp only [Act.put]
  refine plan_end ?_
  refine NoPanic.normal ?_
  have hr := st5.at 1 rfl
  have hfr := st5.fr
  clear st5
  go_wp2_with fail
  exact bodyPost_ret (results_st rfl rfl hr Try.underlying94 rfl (by first | (rw [cw_len]; kernel_rfl) | (simp only [List.length_append, cw_len]; kernel_rfl))) rfl ⟨rfl, hfr⟩

set_option maxHeartbeats 8000000 in
set_option maxRecDepth 100000 in
theorem Zof_len (m : Md) (hk : KindOf 1 m) (a : Option Addr) (n c : Nat) (l : List UInt8) (w : World) (hb : RdB w a n l) (h32 : l.length ≠ 32) :
    Calls Try.prog 69 #[.slice a n c] w fun e w' => e = .returned (.tuple #[i4 0, .bool false]) ∧ Fr Nob w w' := by
  have HK := Lib.hid hk
  have HOK := Lib.hid hk.ok
  clear hk
  have HB := Lib.hid hb
  have HN := Lib.hid (show l.length = n from hb.len)
  clear hb
  have hne : ((n : Int) != 32) = true := by have := HN.out; simp; omega
  clear h32
  have st0 := St.start Nob w
  go_enter Try.func69, Try.ntmps69
  go_wp2_with (with_reducible refine wl_stop (o := ⟨some 2, _, _, _, _, _⟩) ?_)
  refine wl_allocS st0 rfl rfl (z := .agg #[.int .u64 0, .int .u64 0, .int .u64 0, .int .u64 0]) (by kernel_rfl) (cw 4 0) (by rw [cw_zero]; rfl) ?_
  intro g2 w1 st1
  clear st0
  go_wp2_with (with_reducible refine wl_stop (o := ⟨some 9, _, _, _, _, _⟩) ?_)
  refine wl_loadSt st1 0 rfl rfl rfl Try.underlying94 rfl rfl (by first | (rw [cw_len]; kernel_rfl) | (simp only [List.length_append, cw_len]; kernel_rfl)) ?_
  go_wp2_with (with_reducible refine wl_stop (o := ⟨none, _, _, _, _, _⟩) ?_)
  refine wl_storeS st1 0 rfl rfl rfl rfl rfl (by first | (simp only [cw_len]; done) | (simp only [List.length_append, cw_len]; done)) (by first | (rw [cw_len]; kernel_rfl) | (simp only [List.length_append, cw_len]; kernel_rfl)) (cw_one _ _) ?_
  intro w2 st2
  clear st1
  have hr := st2.at 0 rfl
  have hfr := st2.fr
  clear st2
  go_wp2_with fail
  exact bodyPost_ret (results_st2 rfl rfl hr Try.underlying94 rfl (by first | (rw [cw_len]; kernel_rfl) | (simp only [List.length_append, cw_len]; kernel_rfl)) rfl) rfl ⟨rfl, hfr⟩

set_option maxHeartbeats 8000000 in
set_option maxRecDepth 100000 in
theorem Zof_ok (m : Md) (hk : KindOf 1 m) (a : Option Addr) (n c : Nat) (l : List UInt8) (w : World) (hb : RdB w a n l) (h32 : l.length = 32) (hlt : beN l < m.M) :
    Calls Try.prog 69 #[.slice a n c] w fun e w' => e = .returned (.tuple #[i4 (elN m (beN l)), .bool true]) ∧ Fr Nob w w' := by
  have HK := Lib.hid hk
  have HOK := Lib.hid hk.ok
  clear hk
  have hbl := beN_le32 l (by omega)
  have HBL := Lib.hid hbl
  have h32' : n = 32 := by have := hb.len; omega
  subst h32'
  have HB := Lib.hid hb
  have hne : (((32 : Nat) : Int) != 32) = false := by rfl
  clear hb hbl h32
  have HLT := Lib.hid hlt
  clear hlt
  have st0 := St.start Nob w
  go_enter Try.func69, Try.ntmps69
  go_wp2_with (with_reducible refine wl_stop (o := ⟨some 2, _, _, _, _, _⟩) ?_)
  refine wl_allocS st0 rfl rfl (z := .agg #[.int .u64 0, .int .u64 0, .int .u64 0, .int .u64 0]) (by kernel_rfl) (cw 4 0) (by rw [cw_zero]; rfl) ?_
  intro g2 w1 st1
  clear st0
  go_wp2_with fail
  refine (order_any m HK.out _).mono ?_
  rintro e' w2 ⟨gp, rfl, hle, hm, hf2⟩
  have st2 : St Nob w w2 [(g2, cw 4 0, 94), (gp, mdL m, 159)] := st1.new hf2 hm hle
  clear st1 hf2 hm hle
  go_wp2_with fail
  refine (FromBytes_any a 32 c l _ (HB.out.still st2.fr) (by decide)).mono ?_
  rintro e' w3 ⟨rfl, hf3⟩
  have st3 := st2.keep hf3
  clear st2 hf3
  go_wp2_with (with_reducible refine wl_stop (o := ⟨some 5, _, _, _, _, _⟩) ?_)
  refine wl_allocS st3 rfl rfl (z := .agg #[.int .u64 0, .int .u64 0, .int .u64 0, .int .u64 0]) (by kernel_rfl) (cw 4 0) (by rw [cw_zero]; rfl) ?_
  intro g5 w4 st4
  clear st3
  go_wp2_with (with_reducible refine wl_stop (o := ⟨none, _, _, _, _, _⟩) ?_)
  refine wl_storeS st4 2 rfl rfl rfl rfl rfl (by first | (simp only [cw_len]; done) | (simp only [List.length_append, cw_len]; done)) (by first | (rw [cw_len]; kernel_rfl) | (simp only [List.length_append, cw_len]; kernel_rfl)) (cw_one _ _) ?_
  intro w5 st5
  clear st4
  go_wp2_with fail
  refine wp_region_noPanic ?_
  refine wp_region_plan (fun wx => St Nob w wx [(g2, cw 4 0, 94), (gp, mdL m, 159), (g5, cw 4 (beN l), 135)]) 6 (.t 0 (.w 1 (.w 2 (.w 3 (.t 4 (.r 5 (.m 6 .nil))))))) (by kernel_rfl) (by kernel_rfl) st5.drew (fun _ _ _ _ _ h => h) ?_
  have hd5 := st5.drew
  clear st5
  refine plan_arr rfl rfl rfl rfl (cw 4 (beN l)) (fun wx hS => St.rangeL hS 2 rfl 0 _ (by rw [List.drop_zero, List.take_of_length_le (Nat.le_refl _)])) Try.underlying135 rfl (by first | (rw [cw_len]; kernel_rfl) | (simp only [List.length_append, cw_len]; kernel_rfl)) ?_
  try simp only [Act.put, List.setIfInBounds_toArray, List.set_cons_zero, List.set_cons_succ]
  refine plan_w (v := ?_) rfl rfl (fun wx => ?_) ?_
  rotate_left 1
  · (go_simp; with_reducible rfl)
  try simp only [Act.put, List.setIfInBounds_toArray, List.set_cons_zero, List.set_cons_succ]
  refine plan_w (v := ?_) rfl rfl (fun wx => ?_) ?_
  rotate_left 1
  · (go_simp; with_reducible rfl)
  try simp only [Act.put, List.setIfInBounds_toArray, List.set_cons_zero, List.set_cons_succ]
  refine plan_w (v := ?_) rfl rfl (fun wx => ?_) ?_
  rotate_left 1
  · (go_simp; with_reducible rfl)
  try simp only [Act.put, List.setIfInBounds_toArray, List.set_cons_zero, List.set_cons_succ]
  refine plan_arr rfl rfl rfl rfl (cw 4 m.M) (fun wx hS => St.rangeL hS 1 rfl 0 _ (md_M m)) Try.underlying135 rfl (by first | (rw [cw_len]; kernel_rfl) | (simp only [List.length_append, cw_len]; kernel_rfl)) ?_
  try simp only [Act.put, List.setIfInBounds_toArray, List.set_cons_zero, List.set_cons_succ]
  refine plan_r rfl rfl ?_
  go_simp
  refine (MLess_any (beN l) m.M _ HBL.out HOK.out.lt).mono ?_
  rintro e' w6 ⟨rfl, hf6⟩
  have st6 := hd5.keep hf6
  clear hf6
  clear hd5
  refine ⟨st6, ?_⟩
  try simp only [Act.put, List.setIfInBounds_toArray, List.set_cons_zero, List.set_cons_succ]
  refine plan_m rfl rfl ?_
  go_simp
  try simp only [Act.put, List.setIfInBounds_toArray, List.set_cons_zero, List.set_cons_succ]
  refine plan_end ?_
  refine NoPanic.normal ?_
  rw [decide_eq_true HLT.out]
  go_wp2_with (with_reducible refine wl_stop (o := ⟨some 22, _, _, _, _, _⟩) ?_)
  refine wl_loadS st6 2 rfl rfl rfl Try.underlying135 rfl (by first | (rw [cw_len]; kernel_rfl) | (simp only [List.length_append, cw_len]; kernel_rfl)) ?_
  go_wp2_with fail
  refine (MTo_any m gp _ HOK.out (st6.at 1 rfl) (beN l) HBL.out).mono ?_
  rintro e' w7 ⟨rfl, hf7⟩
  have st7 := st6.keep hf7
  clear st6 hf7
  go_wp2_with (with_reducible refine wl_stop (o := ⟨some 24, _, _, _, _, _⟩) ?_)
  refine wl_buildL rfl rfl _ (built_Z _) ?_
  go_wp2_with (with_reducible refine wl_stop (o := ⟨none, _, _, _, _, _⟩) ?_)
  refine wl_storeS st7 0 rfl rfl rfl rfl rfl (by first | (simp only [cw_len]; done) | (simp only [List.length_append, cw_len]; done)) (by first | (rw [cw_len]; kernel_rfl) | (simp only [List.length_append, cw_len]; kernel_rfl)) (cw_one _ _) ?_
  intro w8 st8
  clear st7
  have hr := st8.at 0 rfl
  have hfr := st8.fr
  clear st8
  go_wp2_with fail
  exact bodyPost_ret (results_st2 rfl rfl hr Try.underlying94 rfl (by first | (rw [cw_len]; kernel_rfl) | (simp only [List.length_append, cw_len]; kernel_rfl)) rfl) rfl ⟨rfl, hfr⟩

set_option maxHeartbeats 8000000 in
set_option maxRecDepth 100000 in
theorem Zof_big (m : Md) (hk : KindOf 1 m) (a : Option Addr) (n c : Nat) (l : List UInt8) (w : World) (hb : RdB w a n l) (h32 : l.length = 32) (hlt : ¬ beN l < m.M) :
    Calls Try.prog 69 #[.slice a n c] w fun e w' => e = .returned (.tuple #[i4 0, .bool false]) ∧ Fr Nob w w' := by
  have HK := Lib.hid hk
  have HOK := Lib.hid hk.ok
  clear hk
  have hbl := beN_le32 l (by omega)
  have HBL := Lib.hid hbl
  have h32' : n = 32 := by have := hb.len; omega
  subst h32'
  have HB := Lib.hid hb
  have hne : (((32 : Nat) : Int) != 32) = false := by rfl
  clear hb hbl h32
  have HLT := Lib.hid hlt
  clear hlt
  have st0 := St.start Nob w
  go_enter Try.func69, Try.ntmps69
  go_wp2_with (with_reducible refine wl_stop (o := ⟨some 2, _, _, _, _, _⟩) ?_)
  refine wl_allocS st0 rfl rfl (z := .agg #[.int .u64 0, .int .u64 0, .int .u64 0, .int .u64 0]) (by kernel_rfl) (cw 4 0) (by rw [cw_zero]; rfl) ?_
  intro g2 w1 st1
  clear st0
  go_wp2_with fail
  refine (order_any m HK.out _).mono ?_
  rintro e' w2 ⟨gp, rfl, hle, hm, hf2⟩
  have st2 : St Nob w w2 [(g2, cw 4 0, 94), (gp, mdL m, 159)] := st1.new hf2 hm hle
  clear st1 hf2 hm hle
  go_wp2_with fail
  refine (FromBytes_any a 32 c l _ (HB.out.still st2.fr) (by decide)).mono ?_
  rintro e' w3 ⟨rfl, hf3⟩
  have st3 := st2.keep hf3
  clear st2 hf3
  go_wp2_with (with_reducible refine wl_stop (o := ⟨some 5, _, _, _, _, _⟩) ?_)
  refine wl_allocS st3 rfl rfl (z := .agg #[.int .u64 0, .int .u64 0, .int .u64 0, .int .u64 0]) (by kernel_rfl) (cw 4 0) (by rw [cw_zero]; rfl) ?_
  intro g5 w4 st4
  clear st3
  go_wp2_with (with_reducible refine wl_stop (o := ⟨none, _, _, _, _, _⟩) ?_)
  refine wl_storeS st4 2 rfl rfl rfl rfl rfl (by first | (simp only [cw_len]; done) | (simp only [List.length_append, cw_len]; done)) (by first | (rw [cw_len]; kernel_rfl) | (simp only [List.length_append, cw_len]; kernel_rfl)) (cw_one _ _) ?_
  intro w5 st5
  clear st4
  go_wp2_with fail
  refine wp_region_noPanic ?_
  refine wp_region_plan (fun wx => St Nob w wx [(g2, cw 4 0, 94), (gp, mdL m, 159), (g5, cw 4 (beN l), 135)]) 6 (.t 0 (.w 1 (.w 2 (.w 3 (.t 4 (.r 5 (.m 6 .nil))))))) (by kernel_rfl) (by kernel_rfl) st5.drew (fun _ _ _ _ _ h => h) ?_
  have hd5 := st5.drew
  clear st5
  refine plan_arr rfl rfl rfl rfl (cw 4 (beN l)) (fun wx hS => St.rangeL hS 2 rfl 0 _ (by rw [List.drop_zero, List.take_of_length_le (Nat.le_refl _)])) Try.underlying135 rfl (by first | (rw [cw_len]; kernel_rfl) | (simp only [List.length_append, cw_len]; kernel_rfl)) ?_
  try simp only [Act.put, List.setIfInBounds_toArray, List.set_cons_zero, List.set_cons_succ]
  refine plan_w (v := ?_) rfl rfl (fun wx => ?_) ?_
  rotate_left 1
  · (go_simp; with_reducible rfl)
  try simp only [Act.put, List.setIfInBounds_toArray, List.set_cons_zero, List.set_cons_succ]
  refine plan_w (v := ?_) rfl rfl (fun wx => ?_) ?_
  rotate_left 1
  · (go_simp; with_reducible rfl)
  try simp only [Act.put, List.setIfInBounds_toArray, List.set_cons_zero, List.set_cons_succ]
  refine plan_w (v := ?_) rfl rfl (fun wx => ?_) ?_
  rotate_left 1
  · (go_simp; with_reducible rfl)
  try simp only [Act.put, List.setIfInBounds_toArray, List.set_cons_zero, List.set_cons_succ]
  refine plan_arr rfl rfl rfl rfl (cw 4 m.M) (fun wx hS => St.rangeL hS 1 rfl 0 _ (md_M m)) Try.underlying135 rfl (by first | (rw [cw_len]; kernel_rfl) | (simp only [List.length_append, cw_len]; kernel_rfl)) ?_
  try simp only [Act.put, List.setIfInBounds_toArray, List.set_cons_zero, List.set_cons_succ]
  refine plan_r rfl rfl ?_
  go_simp
  refine (MLess_any (beN l) m.M _ HBL.out HOK.out.lt).mono ?_
  rintro e' w6 ⟨rfl, hf6⟩
  have st6 := hd5.keep hf6
  clear hf6
  clear hd5
  refine ⟨st6, ?_⟩
  try simp only [Act.put, List.setIfInBounds_toArray, List.set_cons_zero, List.set_cons_succ]
  refine plan_m rfl rfl ?_
  go_simp
  try simp only [Act.put, List.setIfInBounds_toArray, List.set_cons_zero, List.set_cons_succ]
  refine plan_end ?_
  refine NoPanic.normal ?_
  rw [decide_eq_false HLT.out]
  go_wp2_with (with_reducible refine wl_stop (o := ⟨some 20, _, _, _, _, _⟩) ?_)
  refine wl_loadSt st6 0 rfl rfl rfl Try.underlying94 rfl rfl (by first | (rw [cw_len]; kernel_rfl) | (simp only [List.length_append, cw_len]; kernel_rfl)) ?_
  go_wp2_with (with_reducible refine wl_stop (o := ⟨none, _, _, _, _, _⟩) ?_)
  refine wl_storeS st6 0 rfl rfl rfl rfl rfl (by first | (simp only [cw_len]; done) | (simp only [List.length_append, cw_len]; done)) (by first | (rw [cw_len]; kernel_rfl) | (simp only [List.length_append, cw_len]; kernel_rfl)) (cw_one _ _) ?_
  intro w7 st7
  clear st6
  have hr := st7.at 0 rfl
  have hfr := st7.fr
  clear st7
  go_wp2_with fail
  exact bodyPost_ret (results_st2 rfl rfl hr Try.underlying94 rfl (by first | (rw [cw_len]; kernel_rfl) | (simp only [List.length_append, cw_len]; kernel_rfl)) rfl) rfl ⟨rfl, hfr⟩

theorem Zof_t (m : Md) (hk : KindOf 1 m) (a : Option Addr) (n c : Nat) (l : List UInt8) (w : World) (hb : RdB w a n l) (h : numB m l = true) :
    Calls Try.prog 69 #[.slice a n c] w fun e w' => e = .returned (.tuple #[i4 (elN m (beN l)), .bool true]) ∧ Fr Nob w w' := by
  unfold numB at h
  simp only [Bool.and_eq_true, decide_eq_true_eq] at h
  exact Zof_ok m hk a n c l w hb h.1 h.2
theorem Zof_f (m : Md) (hk : KindOf 1 m) (a : Option Addr) (n c : Nat) (l : List UInt8) (w : World) (hb : RdB w a n l) (h : numB m l = false) :
    Calls Try.prog 69 #[.slice a n c] w fun e w' => e = .returned (.tuple #[i4 0, .bool false]) ∧ Fr Nob w w' := by
  unfold numB at h
  simp only [Bool.and_eq_false_iff, decide_eq_false_iff_not] at h
  by_cases h32 : l.length = 32
  · exact Zof_big m hk a n c l w hb h32 (by rcases h with h | h; exact absurd h32 h; exact h)
  · exact Zof_len m hk a n c l w hb h32

set_option maxHeartbeats 8000000 in
set_option maxRecDepth 100000 in
theorem Zwide_any (m : Md) (hk : KindOf 1 m) (a : Option Addr) (n c : Nat) (l : List UInt8) (w : World) (hb : RdB w a n l) (hc : n ≤ c) (hn : n ≤ 1000000) :
    Calls Try.prog 57 #[.slice a n c] w fun e w' => e = .returned (i4 (elN m (beN l))) ∧ Fr Nob w w' := by
  have HK := Lib.hid hk
  have HOK := Lib.hid hk.ok
  clear hk
  have HB := Lib.hid hb
  have HN := Lib.hid (show l.length = n from hb.len)
  clear hb
  have HC := Lib.hid hc
  have HNN := Lib.hid hn
  have HLM := Lib.hid (Nat.lt_trans (Nat.mod_lt (beN l) (by have := HOK.out.one; omega)) HOK.out.lt)
  clear hc hn
  have st0 := St.start Nob w
  go_enter Try.func57, Try.ntmps57
  go_wp2_with (with_reducible refine wl_stop (o := ⟨some 2, _, _, _, _, _⟩) ?_)
  refine wl_allocS st0 rfl rfl (z := .agg #[.int .u64 0, .int .u64 0, .int .u64 0, .int .u64 0]) (by kernel_rfl) (cw 4 0) (by rw [cw_zero]; rfl) ?_
  intro g2 w1 st1
  clear st0
  go_wp2_with fail
  refine (order_any m HK.out _).mono ?_
  rintro e' w2 ⟨gp, rfl, hle, hm, hf2⟩
  have st2 : St Nob w w2 [(g2, cw 4 0, 94), (gp, mdL m, 159)] := st1.new hf2 hm hle
  clear st1 hf2 hm hle
  go_wp2_with fail
  refine (MReduce_any m gp _ HOK.out (st2.at 1 rfl) a n c l (HB.out.still st2.fr) HC.out HNN.out).mono ?_
  rintro e' w3 ⟨rfl, hf3⟩
  have st3 := st2.keep hf3
  clear st2 hf3
  go_wp2_with fail
  refine (MTo_any m gp _ HOK.out (st3.at 1 rfl) (beN l % m.M) HLM.out).mono ?_
  rintro e' w4 ⟨rfl, hf4⟩
  have st4 := st3.keep hf4
  clear st3 hf4
  go_wp2_with (with_reducible refine wl_stop (o := ⟨some 10, _, _, _, _, _⟩) ?_)
  refine wl_buildL rfl rfl _ (built_Z _) ?_
  go_wp2_with (with_reducible refine wl_stop (o := ⟨none, _, _, _, _, _⟩) ?_)
  refine wl_storeS st4 0 rfl rfl rfl rfl rfl (by first | (simp only [cw_len]; done) | (simp only [List.length_append, cw_len]; done)) (by first | (rw [cw_len]; kernel_rfl) | (simp only [List.length_append, cw_len]; kernel_rfl)) (cw_one _ _) ?_
  intro w5 st5
  clear st4
  have hr := st5.at 0 rfl
  have hfr := st5.fr
  clear st5
  go_wp2_with fail
  exact bodyPost_ret (results_st rfl rfl hr Try.underlying94 rfl (by first | (rw [cw_len]; kernel_rfl) | (simp only [List.length_append, cw_len]; kernel_rfl))) rfl ⟨by rw [el_mod]; rfl, hfr⟩
end Go.Proofs.Ytnooojkhnpcolaa

/- num.reckon, over an operation's contract. -/
namespace Go.Proofs.Ytnooojkhnpcolaa
open Go.RowKit Go.Mv Mvp
attribute [local irreducible] limbs lw mix cw cSub cAdd cMul foldC valFrom beN laid be32 powm montT mstep elN mdL elCells numsB numB

end Go.Proofs.Ytnooojkhnpcolaa

/- num: Add, Sub, Mul, Inv. -/
namespace Go.Mv
open Go.RowKit
theorem rd_at {w : World} {b o n : Nat} {vs : List Value} (h : Rd w (some ⟨b, o, none⟩) n vs) (k : Nat) (cs : List Value) (hcs : (vs.drop k).take cs.length = cs) : At w b (o + k) cs := by
  intro i v hv
  rcases h.2 with h0 | ⟨b', o', he, hc⟩
  · have hl := h.len
    rw [h0] at hl
    rw [List.length_eq_zero_iff.1 hl] at hcs
    simp at hcs
    subst hcs
    simp at hv
  · simp only [Option.some.injEq, Addr.mk.injEq] at he
    obtain ⟨rfl, rfl, -⟩ := he
    have := hc.sub k cs.length
    rw [hcs] at this
    exact this i v hv
theorem rd_range {w : World} {b o n : Nat} {vs : List Value} (h : Rd w (some ⟨b, o, none⟩) n vs) (k : Nat) (cs : List Value) (hcs : (vs.drop k).take cs.length = cs) : w.rangeAt b (o + k) cs :=
  fun i v hv => rd_at h k cs hcs i v hv
end Go.Mv
namespace Go.Proofs.Ytnooojkhnpcolaa
open Go.RowKit Go.Mv Mvp
theorem el_first (m : Md) (l : List UInt8) (ls : List (List UInt8)) : ((elCells m (l :: ls)).drop 0).take (cw 4 (elN m (beN l))).length = cw 4 (elN m (beN l)) := by
  rw [cw_len]; exact elCells_at m (l :: ls) 0 (by simp)
theorem el_second (m : Md) (l k : List UInt8) (ls : List (List UInt8)) : ((elCells m (l :: k :: ls)).drop 4).take (cw 4 (elN m (beN k))).length = cw 4 (elN m (beN k)) := by
  rw [cw_len]; exact elCells_at m (l :: k :: ls) 1 (by simp)
attribute [local irreducible] limbs lw mix cw cSub cAdd cMul foldC valFrom beN laid be32 powm montT mstep elN mdL elCells numsB numB

end Go.Proofs.Ytnooojkhnpcolaa

/- Arrays of words compared; a number shifted down; bits laid one by one. -/
namespace Mvp
theorem half_word (N i : Nat) : lw (N / 2) i = lw N i / 2 ||| (lw N (i + 1) * 9223372036854775808 % 18446744073709551616) := by
  have h1 : lw N (i + 1) * 9223372036854775808 % 18446744073709551616 = 2 ^ 63 * (lw N (i + 1) % 2) := by
    have : (18446744073709551616 : Nat) = 9223372036854775808 * 2 := by decide
    rw [this, Nat.mul_comm, Nat.mul_mod_mul_left]
  have h2 : lw N i / 2 < 2 ^ 63 := by have := lw_lt N i; omega
  rw [h1, Nat.or_comm, ← Nat.two_pow_add_eq_or_of_lt h2]
  have e1 : lw N (i + 1) = N / B64 ^ i / 18446744073709551616 % 18446744073709551616 := by
    unfold lw
    rw [Nat.pow_succ, ← Nat.div_div_eq_div_mul]
  have e2 : lw (N / 2) i = N / B64 ^ i / 2 % 18446744073709551616 := by
    unfold lw
    rw [Nat.div_div_eq_div_mul, Nat.mul_comm, ← Nat.div_div_eq_div_mul]
  have e3 : lw N i = N / B64 ^ i % 18446744073709551616 := rfl
  rw [e1, e2, e3]
  generalize N / B64 ^ i = x
  omega
/-- a bit is laid -/
theorem bit_step (n q k b : Nat) (hq : q < 2 ^ k) (hb : b < 2) (hk : k / 64 < n) : (limbs n q).set (k / 64) (lw q (k / 64) ||| b * 2 ^ (k % 64)) = limbs n (q + b * 2 ^ k) := by
  have e0 : 2 ^ k = B64 ^ (k / 64) * 2 ^ (k % 64) := by
    rw [show B64 = 2 ^ 64 from rfl, ← Nat.pow_mul, ← Nat.pow_add]
    congr 1; omega
  have hj : q / B64 ^ (k / 64) < 2 ^ (k % 64) := Nat.div_lt_of_lt_mul (by rw [← e0]; exact hq)
  have hr : 2 ^ (k % 64) * 2 ≤ B64 := by
    rw [← Nat.pow_succ, show B64 = 2 ^ 64 from rfl]
    exact Nat.pow_le_pow_right (by decide) (by omega)
  have hy : b * 2 ^ (k % 64) ≤ 2 ^ (k % 64) := by
    have := Nat.mul_le_mul_right (2 ^ (k % 64)) (show b ≤ 1 by omega)
    rwa [Nat.one_mul] at this
  rw [e0, Nat.mul_left_comm b]
  apply List.ext_getElem?
  intro i
  rw [List.getElem?_set, limbs_length]
  rcases Nat.lt_or_ge i n with hi | hi
  · rw [limbs_get _ _ _ hi, limbs_get _ _ _ hi]
    rcases Nat.lt_trichotomy i (k / 64) with h | h | h
    · rw [if_neg (by omega), lw_shift_lo _ _ _ _ h]
    · subst h
      rw [if_pos rfl, if_pos hi]
      congr 1
      have h2 := lw_shift_hi q (b * 2 ^ (k % 64)) (k / 64) 0
      rw [Nat.add_zero] at h2
      rw [h2]
      rw [Nat.mul_comm b] at hy h2 ⊢
      have h3 : lw q (k / 64) = q / B64 ^ (k / 64) := Nat.mod_eq_of_lt (by generalize q / B64 ^ (k / 64) = y at *; generalize 2 ^ (k % 64) = z at *; omega)
      rw [h3, Nat.or_comm, ← Nat.two_pow_add_eq_or_of_lt hj]
      simp only [lw, Nat.pow_zero, Nat.div_one]
      generalize q / B64 ^ (k / 64) = y at *
      generalize 2 ^ (k % 64) * b = u at *
      generalize 2 ^ (k % 64) = z at *
      rw [Nat.add_comm]
      exact (Nat.mod_eq_of_lt (by omega)).symm
    · rw [if_neg (by omega)]
      congr 1
      obtain ⟨j, rfl⟩ : ∃ j, i = k / 64 + (1 + j) := ⟨i - k / 64 - 1, by omega⟩
      rw [lw_shift_hi, ← lw_div q]
      rw [lw_top (q / B64 ^ (k / 64)) 1 _ (by rw [Nat.pow_one]; omega) (by omega), lw_top _ 1 _ (by rw [Nat.pow_one]; omega) (by omega)]
  · rw [if_neg (by omega), List.getElem?_eq_none (by rw [limbs_length]; exact hi), List.getElem?_eq_none (by rw [limbs_length]; exact hi)]
theorem quarter_step (P k : Nat) : P / 4 % 2 ^ (k + 1) = P / 4 % 2 ^ k + (P / 2 ^ (k + 2) % 2) * 2 ^ k := by
  have e : P / 2 ^ (k + 2) = P / 4 / 2 ^ k := by
    rw [Nat.div_div_eq_div_mul, Nat.pow_add, Nat.mul_comm]
  rw [e, Nat.pow_succ, Nat.mod_mul, Nat.mul_comm (2 ^ k)]
end Mvp
namespace Go.Mv
open Go.RowKit Mvp
variable {P : Program}
theorem run_eq4 {t e : TypeId} (hu : P.underlying t = some (.array 4 e)) (he : P.underlying e = some (.int .u64)) (hi0 : (P.info? e).map (·.size) = some 1) (a b : Nat) (w : World) :
    (Op.equal t (.agg (cw 4 a).toArray) (.agg (cw 4 b).toArray)).run P w = .ok (decide (a % B64 ^ 4 = b % B64 ^ 4)) w := by
  obtain ⟨j, hj, hsz⟩ : ∃ j, P.info? e = some j ∧ j.size = 1 := by simpa using hi0
  have hc : P.cellsOf e = 1 := by simp [Program.cellsOf, hj, hsz]
  have hp : ∀ (x k : Nat), k < 4 → (part e (cw 4 x).toArray k).run P w = .ok (.int .u64 (lw x k : Nat)) w := by
    intro x k hk
    have hv := cw_get 4 x k hk
    simp [part, isAgg, run_underlying he, sizeOf, typeInfo, hj, hsz, hv]
  have hq0 : ∀ (d : Nat) (x y : Int), (Op.equalIn (d + 1) e (.int .u64 x) (.int .u64 y)).run P w = .ok (x == y) w := fun d x y => by
    simp [Op.equalIn, run_underlying he]
  have hq : ∀ x y : Int, (Op.equalIn 9999 e (.int .u64 x) (.int .u64 y)).run P w = .ok (x == y) w := hq0 9998
  have hbe : ∀ k, ((lw a k : Int) == (lw b k : Int)) = decide (lw a k = lw b k) := by
    intro k
    rw [Bool.eq_iff_iff]; simp; omega
  show (Op.equalIn (9999 + 1) t _ _).run P w = _
  rw [run_equalIn_array w 9999 _ _ hu hj, hc]
  have hfin : decide (a % B64 ^ 4 = b % B64 ^ 4) = (decide (lw a 0 = lw b 0) && (decide (lw a 1 = lw b 1) && (decide (lw a 2 = lw b 2) && decide (lw a 3 = lw b 3)))) := by
    rw [Bool.eq_iff_iff]
    simp only [decide_eq_true_eq, Bool.and_eq_true]
    constructor
    · intro h
      refine ⟨?_, ?_, ?_, ?_⟩ <;> (rw [← lw_mod a _ 4 (by decide), h, lw_mod b _ 4 (by decide)])
    · rintro ⟨h0, h1, h2, h3⟩
      refine limbs_mod_inj (limbs_ext fun i hi => ?_)
      have : i = 0 ∨ i = 1 ∨ i = 2 ∨ i = 3 := by omega
      rcases this with rfl | rfl | rfl | rfl <;> assumption
  rw [hfin]
  show (Op.eqItems 9999 e 1 _ _ [0, 1, 2, 3]).run P w = _
  have p0 := fun x => hp x 0 (by decide)
  have p1 := fun x => hp x 1 (by decide)
  have p2 := fun x => hp x 2 (by decide)
  have p3 := fun x => hp x 3 (by decide)
  clear hp hq0 hfin
  by_cases h0 : lw a 0 = lw b 0 <;> by_cases h1 : lw a 1 = lw b 1 <;> by_cases h2 : lw a 2 = lw b 2 <;> by_cases h3 : lw a 3 = lw b 3 <;> simp [Op.eqItems, p0, p1, p2, p3, hq, hbe, h0, h1, h2, h3, -beq_iff_eq]
end Go.Mv

/- mont.Int.shift by two bits. -/
namespace Go.Proofs.Ytnooojkhnpcolaa
open Go.RowKit Go.Mv Mvp
attribute [local irreducible] limbs lw mix cw cSub cAdd cMul foldC valFrom beN laid be32 powm montT mstep elN

end Go.Proofs.Ytnooojkhnpcolaa

/- mont: Sqrt; num.Sqrt's operation. -/
namespace Mvp
/-- the number whose square is asked for -/
def rtN (M x : Nat) : Nat := x ^ (M / 4 + 1)
def rtOk (M x : Nat) : Bool := rtN M x * rtN M x % M == x % M
def rtV (M x : Nat) : Nat := if rtN M x % M % 2 = 1 then M - rtN M x % M else rtN M x
end Mvp
namespace Go.Proofs.Ytnooojkhnpcolaa
open Go.RowKit Go.Mv Mvp
theorem el_eq (m : Md) (h : m.Ok) (x y : Nat) (ty : TypeId) (hu : Try.prog.underlying ty = some (.array 4 90)) (w : World) :
    (Op.equal ty (i4 (elN m x)) (.agg (cw 4 (elN m y)).toArray)).run Try.prog w = .ok (x % m.M == y % m.M) w := by
  have hb : decide (elN m x % B64 ^ 4 = elN m y % B64 ^ 4) = (x % m.M == y % m.M) := by
    rw [Nat.mod_eq_of_lt (el_lt4 m h x), Nat.mod_eq_of_lt (el_lt4 m h y), Bool.eq_iff_iff]
    simp only [decide_eq_true_eq, beq_iff_eq]
    exact ⟨el_inj m h, el_congr m⟩
  rw [← hb]
  exact run_eq4 hu Try.underlying90 size_u64 _ _ w
theorem eq_guard (x y : Nat) (ty : TypeId) (hg : Try.prog.eqGuardType Try.prog.depth ty = false) (a b : Operand) (w : World) :
    (eqGuard .neq ty a b (i4 x) (.agg (cw 4 y).toArray)).run Try.prog w = .ok () w := run_eqGuard_agg w .neq ty a b _ _ hg
theorem el_neq (m : Md) (h : m.Ok) (x y : Nat) (ty : TypeId) (hu : Try.prog.underlying ty = some (.array 4 90)) (w : World) :
    (binOp .neq ty (i4 (elN m x)) (.agg (cw 4 (elN m y)).toArray)).run Try.prog w = .ok (.bool !(x % m.M == y % m.M)) w := by
  show (do pure (Value.bool (!(← Op.equal ty (i4 (elN m x)) (.agg (cw 4 (elN m y)).toArray))))).run Try.prog w = _
  simp only [Sem.run_bind, el_eq m h x y ty hu, Result.andThen_ok]
  rfl
theorem wp_elneq (m : Md) (h : m.Ok) (x y : Nat) (ty : TypeId) (hu : Try.prog.underlying ty = some (.array 4 90)) (hg : Try.prog.eqGuardType Try.prog.depth ty = false) {o : Oper} {a : Act} {w : World} {K : Act → World → Prop} {Q : Exit → Act → World → Prop} {p q : Operand} {T : TypeId}
    (ho : o.op = .binOp .neq ty p q T) (hp : a.eval p = i4 (elN m x)) (hq : a.eval q = .agg (cw 4 (elN m y)).toArray) {b : Bool} (hb : (x % m.M == y % m.M) = b) (hk : K (a.put o.dst (.bool !b)) w) : o.wp Try.prog a w K Q := by
  have h1 := eq_guard (elN m x) (elN m y) ty hg p q w
  have h2 := el_neq m h x y ty hu w
  rw [hb] at h2
  unfold Oper.wp execOp
  simp only [ho, hp, hq, Sem.run_bind, h1, h2, Result.andThen_ok, Sem.run_pure]
  exact hk
theorem low_word (v : Nat) (w : World) : (Instr.index 135 (i4 v) (.int .i64 0)).run Try.prog w = .ok (.int .u64 (lw v 0 : Nat)) w :=
  run_index_cw (P := Try.prog) Try.underlying135 Try.underlying90 size_u64 v 0 (by decide) .i64 w
theorem low_and (v : Nat) : bits .and .u64 (lw v 0 : Nat) 1 = ((v % 2 : Nat) : Int) := by
  have ha := bits_and_u64_nat (lw v 0) 1 (lw_lt _ _) (by omega)
  rw [Nat.and_one_is_mod, word0] at ha
  rw [word0]
  refine Eq.trans ha ?_
  congr 1
  omega
attribute [local irreducible] limbs lw mix cw cSub cAdd cMul foldC valFrom beN laid be32 powm montT mstep elN

end Go.Proofs.Ytnooojkhnpcolaa

/- zn: Zero, Small, Bytes; scalars compared. -/
namespace Go.Mv
open Go.RowKit Mvp
variable {P : Program}
/-- arrays of four words compared, at any depth -/
theorem run_eq4d {t e : TypeId} (hu : P.underlying t = some (.array 4 e)) (he : P.underlying e = some (.int .u64)) (hi0 : (P.info? e).map (·.size) = some 1) (d : Nat) (a b : Nat) (w : World) :
    (Op.equalIn (d + 2) t (.agg (cw 4 a).toArray) (.agg (cw 4 b).toArray)).run P w = .ok (decide (a % B64 ^ 4 = b % B64 ^ 4)) w := by
  obtain ⟨j, hj, hsz⟩ : ∃ j, P.info? e = some j ∧ j.size = 1 := by simpa using hi0
  have hc : P.cellsOf e = 1 := by simp [Program.cellsOf, hj, hsz]
  have hp : ∀ (x k : Nat), k < 4 → (part e (cw 4 x).toArray k).run P w = .ok (.int .u64 (lw x k : Nat)) w := by
    intro x k hk
    have hv := cw_get 4 x k hk
    simp [part, isAgg, run_underlying he, sizeOf, typeInfo, hj, hsz, hv]
  have hq : ∀ (x y : Int), (Op.equalIn (d + 1) e (.int .u64 x) (.int .u64 y)).run P w = .ok (x == y) w := fun x y => by
    simp [Op.equalIn, run_underlying he]
  have hbe : ∀ k, ((lw a k : Int) == (lw b k : Int)) = decide (lw a k = lw b k) := by
    intro k
    rw [Bool.eq_iff_iff]; simp; omega
  show (Op.equalIn (d + 1 + 1) t _ _).run P w = _
  rw [run_equalIn_array w (d + 1) _ _ hu hj, hc]
  have hfin : decide (a % B64 ^ 4 = b % B64 ^ 4) = (decide (lw a 0 = lw b 0) && (decide (lw a 1 = lw b 1) && (decide (lw a 2 = lw b 2) && decide (lw a 3 = lw b 3)))) := by
    rw [Bool.eq_iff_iff]
    simp only [decide_eq_true_eq, Bool.and_eq_true]
    constructor
    · intro h
      refine ⟨?_, ?_, ?_, ?_⟩ <;> (rw [← lw_mod a _ 4 (by decide), h, lw_mod b _ 4 (by decide)])
    · rintro ⟨h0, h1, h2, h3⟩
      refine limbs_mod_inj (limbs_ext fun i hi => ?_)
      have : i = 0 ∨ i = 1 ∨ i = 2 ∨ i = 3 := by omega
      rcases this with rfl | rfl | rfl | rfl <;> assumption
  rw [hfin]
  show (Op.eqItems (d + 1) e 1 _ _ [0, 1, 2, 3]).run P w = _
  have p0 := fun x => hp x 0 (by decide)
  have p1 := fun x => hp x 1 (by decide)
  have p2 := fun x => hp x 2 (by decide)
  have p3 := fun x => hp x 3 (by decide)
  clear hp hfin
  by_cases h0 : lw a 0 = lw b 0 <;> by_cases h1 : lw a 1 = lw b 1 <;> by_cases h2 : lw a 2 = lw b 2 <;> by_cases h3 : lw a 3 = lw b 3 <;> simp [Op.eqItems, p0, p1, p2, p3, hq, hbe, h0, h1, h2, h3, -beq_iff_eq]
/-- a whole row, taken as a part of itself -/
theorem run_part_whole {t : TypeId} {d : TypeDesc} (hu : P.underlying t = some d) (hd : (match d with | .struct _ | .array _ _ => true | _ => false) = true) (cs : List Value) (hi : (P.info? t).map (·.size) = some cs.length) (w : World) :
    (part t cs.toArray 0).run P w = .ok (.agg cs.toArray) w := by
  obtain ⟨j, hj, hsz⟩ : ∃ j, P.info? t = some j ∧ j.size = cs.length := by simpa using hi
  cases d <;> simp at hd <;> simp [part, isAgg, run_underlying hu, sizeOf, typeInfo, hj, hsz]
end Go.Mv
namespace Go.Proofs.Ytnooojkhnpcolaa
open Go.RowKit Go.Mv Mvp
theorem fields_Z : Try.prog.fieldsOf 94 = #[{ name := "e", type := 92, offset := 0, embedded := false, tag := "", pkgPath := "mintvault/zn", byteOffset := 0 }] := by kernel_rfl
/-- scalars compared -/
theorem run_eqZ (m : Md) (h : m.Ok) (x y : Nat) (d : Nat) (w : World) : (Op.equalIn (d + 3) 94 (i4 (elN m x)) (i4 (elN m y))).run Try.prog w = .ok (x % m.M == y % m.M) w := by
  have hb : decide (elN m x % B64 ^ 4 = elN m y % B64 ^ 4) = (x % m.M == y % m.M) := by
    rw [Nat.mod_eq_of_lt (el_lt4 m h x), Nat.mod_eq_of_lt (el_lt4 m h y), Bool.eq_iff_iff]
    simp only [decide_eq_true_eq, beq_iff_eq]
    exact ⟨el_inj m h, el_congr m⟩
  have h1 : ∀ v, (part 92 (cw 4 v).toArray 0).run Try.prog w = .ok (i4 v) w := fun v => run_part_whole Try.underlying92 rfl (cw 4 v) (by rw [cw_len]; kernel_rfl) w
  have h2 := run_eq4d (P := Try.prog) Try.underlying92 Try.underlying90 size_u64 d (elN m x) (elN m y) w
  rw [hb] at h2
  have h2' : (Op.equalIn (d + 2) 92 (i4 (elN m x)) (i4 (elN m y))).run Try.prog w = .ok (x % m.M == y % m.M) w := h2
  show (Op.equalIn (d + 2 + 1) 94 (.agg (cw 4 (elN m x)).toArray) (.agg (cw 4 (elN m y)).toArray)).run Try.prog w = _
  rw [run_equalIn_struct w (d + 2) 94 _ _ (by rw [fields_Z]; exact Try.underlying94) (by kernel_rfl), fields_Z]
  generalize (x % m.M == y % m.M) = b at *
  have h3 := h1 (elN m x)
  have h4 := h1 (elN m y)
  generalize (cw 4 (elN m x)).toArray = xs at *
  generalize (cw 4 (elN m y)).toArray = ys at *
  have hne : ("e" : String) ≠ "_" := by decide
  show (Op.eqFields (d + 2) xs ys [_]).run _ w = _
  unfold Op.eqFields
  rw [if_pos hne]
  simp only [Sem.run_bind]
  rw [h3, Result.andThen_ok, h4, Result.andThen_ok, h2', Result.andThen_ok]
  cases b <;> simp [Op.eqFields]
theorem eqZ_guard (op : BinOp) (a b : Operand) (x y : Nat) (w : World) : (eqGuard op 94 a b (i4 x) (i4 y)).run Try.prog w = .ok () w := run_eqGuard_agg w op 94 a b _ _ Try.eqGuardType94
theorem eql_of_equal {P : Program} {ty : TypeId} {xs ys : Array Value} {b : Bool} (w : World) (h : (Op.equal ty (.agg xs) (.agg ys)).run P w = .ok b w) : (binOp .eql ty (.agg xs) (.agg ys)).run P w = .ok (.bool b) w := by
  show (do pure (Value.bool (← Op.equal ty (.agg xs) (.agg ys)))).run P w = _
  simp only [Sem.run_bind, h, Result.andThen_ok]
  rfl
theorem eqlZ (m : Md) (h : m.Ok) (x y : Nat) (w : World) : (binOp .eql 94 (i4 (elN m x)) (i4 (elN m y))).run Try.prog w = .ok (.bool (x % m.M == y % m.M)) w := by
  have h1 := run_eqZ m h x y 9997 w
  exact eql_of_equal w h1
theorem exec_binop {P : Program} {op : BinOp} {ty : TypeId} {o : Oper} {a : Act} {p q : Operand} {T : TypeId} {x y v : Value} (ho : o.op = .binOp op ty p q T) (hp : a.eval p = x) (hq : a.eval q = y) (w : World)
    (h1 : (eqGuard op ty p q x y).run P w = .ok () w) (h2 : (binOp op ty x y).run P w = .ok v w) : (execOp a.eval o).run P w = .ok (.value v) w := by
  subst hp hq
  unfold execOp
  simp only [ho, Sem.run_bind, h1, h2, Result.andThen_ok, Sem.run_pure]
theorem exec_eqlZ (m : Md) (h : m.Ok) (x y : Nat) {o : Oper} {a : Act} {p q : Operand} {T : TypeId} (ho : o.op = .binOp .eql 94 p q T) (hp : a.eval p = i4 (elN m x)) (hq : a.eval q = i4 (elN m y)) {b : Bool} (hb : (x % m.M == y % m.M) = b) (w : World) :
    (execOp a.eval o).run Try.prog w = .ok (.value (.bool b)) w := by
  subst hb
  exact exec_binop ho hp hq w (eqZ_guard .eql p q (elN m x) (elN m y) w) (eqlZ m h x y w)
theorem exec_eqlE (m : Md) (h : m.Ok) (x y : Nat) {o : Oper} {a : Act} {p q : Operand} {T ty : TypeId} (hu : Try.prog.underlying ty = some (.array 4 90)) (hg : Try.prog.eqGuardType Try.prog.depth ty = false) (ho : o.op = .binOp .eql ty p q T) (hp : a.eval p = i4 (elN m x)) (hq : a.eval q = i4 (elN m y)) {b : Bool} (hb : (x % m.M == y % m.M) = b) (w : World) :
    (execOp a.eval o).run Try.prog w = .ok (.value (.bool b)) w := by
  subst hb
  exact exec_binop ho hp hq w (run_eqGuard_agg w .eql ty p q _ _ hg) (eql_of_equal w (el_eq m h x y ty hu w))
theorem wl_exec {o : Oper} {a : Act} {w : World} {P : Program} {ops : Array Oper} {rest : List Oper} {Q : Exit → Act → World → Prop} {v : Value} (hgd : o.guard = none) (hx : (execOp a.eval o).run P w = .ok (.value v) w) (h : wpList P ops Q rest (a.put o.dst v) w) : wpList P ops Q (o :: rest) a w := by
  refine wpList_plain hgd fun K hK => ?_
  unfold Oper.wp
  rw [hx]
  exact hK _ _ h
attribute [local irreducible] limbs lw mix cw cSub cAdd cMul foldC valFrom beN laid be32 powm montT mstep elN mdL numB
theorem words_z4 : (Value.agg #[.int .u64 0, .int .u64 0, .int .u64 0, .int .u64 0]) = i4 0 := by rw [i4, cw_zero]; rfl
theorem built_E0 : Try.prog.built 92 [] = some #[.int .u64 0, .int .u64 0, .int .u64 0, .int .u64 0] := by kernel_rfl

set_option maxHeartbeats 8000000 in
set_option maxRecDepth 100000 in
theorem EZero_any (m : Md) (hok : m.Ok) (x : Nat) (b : Bool) (hb : (x % m.M == 0) = b) (w : World) :
    Calls Try.prog 88 #[i4 (elN m x)] w fun e w' => e = .returned (.bool b) ∧ Fr Nob w w' := by
  have HOK := Lib.hid hok
  have HB := Lib.hid (show (x % m.M == 0 % m.M) = b by rw [Nat.zero_mod]; exact hb)
  have HZ := Lib.hid (show i4 0 = i4 (elN m 0) by rw [el_zero])
  clear hok hb
  have st0 := St.start Nob w
  go_enter Try.func88, Try.ntmps88
  go_wp2_with (with_reducible refine wl_stop (o := ⟨some 1, _, _, _, _, _⟩) ?_)
  refine wl_boxS st0 rfl rfl rfl (cw 4 (elN m x)) rfl ?_
  intro g1 w1 st1
  clear st0
  go_wp2_with (with_reducible refine wl_stop (o := ⟨some 3, _, _, _, _, _⟩) ?_)
  refine wl_loadS st1 0 rfl rfl rfl Try.underlying92 rfl (by first | (rw [cw_len]; kernel_rfl) | (simp only [List.length_append, cw_len]; kernel_rfl)) ?_
  go_wp2_with (with_reducible refine wl_stop (o := ⟨some 4, _, _, _, _, _⟩) ?_)
  refine wl_build0 rfl rfl _ built_E0 ?_
  rw [words_z4, HZ.out]
  go_wp2_with (with_reducible refine wl_stop (o := ⟨some 5, _, _, _, _, _⟩) ?_)
  refine wl_exec rfl (exec_eqlE m HOK.out x 0 Try.underlying92 Try.eqGuardType92 rfl rfl rfl HB.out _) ?_
  have hfr := st1.fr
  clear st1
  go_wp2_with fail
  go_ret
  exact ⟨rfl, hfr⟩

set_option maxHeartbeats 8000000 in
set_option maxRecDepth 100000 in
theorem ZZero_any (m : Md) (hok : m.Ok) (x : Nat) (b : Bool) (hb : (x % m.M == 0) = b) (w : World) :
    Calls Try.prog 58 #[i4 (elN m x)] w fun e w' => e = .returned (.bool b) ∧ Fr Nob w w' := by
  have HOK := Lib.hid hok
  have HB := Lib.hid hb
  clear hok hb
  have st0 := St.start Nob w
  go_enter Try.func58, Try.ntmps58
  go_wp2_with (with_reducible refine wl_stop (o := ⟨some 1, _, _, _, _, _⟩) ?_)
  refine wl_boxS st0 rfl rfl rfl (cw 4 (elN m x)) rfl ?_
  intro g1 w1 st1
  clear st0
  go_wp2_with (with_reducible refine wl_stop (o := ⟨some 4, _, _, _, _, _⟩) ?_)
  refine wl_loadS st1 0 rfl rfl rfl Try.underlying92 rfl (by first | (rw [cw_len]; kernel_rfl) | (simp only [List.length_append, cw_len]; kernel_rfl)) ?_
  go_wp2_with fail
  refine (EZero_any m HOK.out x b HB.out _).mono ?_
  rintro e' w2 ⟨rfl, hf2⟩
  have st2 := st1.keep hf2
  clear st1 hf2
  have hfr := st2.fr
  clear st2
  go_wp2_with fail
  go_ret
  exact ⟨rfl, hfr⟩

theorem built_int1 (v : Int) : Try.prog.built 135 [(0, .int .u64 v)] = some #[.int .u64 v, .int .u64 0, .int .u64 0, .int .u64 0] := by kernel_rfl

set_option maxHeartbeats 8000000 in
set_option maxRecDepth 100000 in
theorem MSmall_any (m : Md) (gp : Nat) (w : World) (hok : m.Ok) (hpm : Has w gp (mdL m) 159) (k : Nat) (hk : k < 18446744073709551616) :
    Calls Try.prog 89 #[.pointer (some ⟨gp, 0, none⟩), .int .u64 (k : Int)] w fun e w' => e = .returned (i4 (elN m k)) ∧ Fr Nob w w' := by
  have HOK := Lib.hid hok
  have HPM := Lib.hid hpm
  have HW := Lib.hid (small_words k hk)
  have HK4 := Lib.hid (show k < B64 ^ 4 by have : (18446744073709551616 : Nat) ≤ B64 ^ 4 := by decide
                                           omega)
  clear hok hpm hk
  have st0 := St.start Nob w
  go_enter Try.func89, Try.ntmps89
  go_wp2_with (with_reducible refine wl_stop (o := ⟨some 4, _, _, _, _, _⟩) ?_)
  refine wl_allocS st0 rfl rfl (z := .agg #[.int .u64 0, .int .u64 0, .int .u64 0, .int .u64 0]) (by kernel_rfl) (cw 4 0) (by rw [cw_zero]; rfl) ?_
  intro g4 w1 st1
  clear st0
  go_wp2_with (with_reducible refine wl_stop (o := ⟨some 7, _, _, _, _, _⟩) ?_)
  refine wl_buildL rfl rfl _ (built_int1 (k : Int)) ?_
  rw [HW.out]
  go_wp2_with fail
  refine (MTo_any m gp _ HOK.out (HPM.out.keep st1.fr id) k HK4.out).mono ?_
  rintro e' w2 ⟨rfl, hf2⟩
  have st2 := st1.keep hf2
  clear st1 hf2
  go_wp2_with (with_reducible refine wl_stop (o := ⟨none, _, _, _, _, _⟩) ?_)
  refine wl_storeS st2 0 rfl rfl rfl rfl rfl (by first | (simp only [cw_len]; done) | (simp only [List.length_append, cw_len]; done)) (by first | (rw [cw_len]; kernel_rfl) | (simp only [List.length_append, cw_len]; kernel_rfl)) (cw_one _ _) ?_
  intro w3 st3
  clear st2
  have hr := st3.at 0 rfl
  have hfr := st3.fr
  clear st3
  go_wp2_with fail
  exact bodyPost_ret (results_arr rfl rfl hr Try.underlying92 (by first | (rw [cw_len]; kernel_rfl) | (simp only [List.length_append, cw_len]; kernel_rfl))) rfl ⟨rfl, hfr⟩

set_option maxHeartbeats 8000000 in
set_option maxRecDepth 100000 in
theorem Zsmall_any (m : Md) (hk : KindOf 1 m) (k : Nat) (hk4 : k < 18446744073709551616) (w : World) :
    Calls Try.prog 59 #[.int .u64 (k : Int)] w fun e w' => e = .returned (i4 (elN m k)) ∧ Fr Nob w w' := by
  have HK := Lib.hid hk
  have HOK := Lib.hid hk.ok
  clear hk
  have HK4 := Lib.hid hk4
  clear hk4
  have st0 := St.start Nob w
  go_enter Try.func59, Try.ntmps59
  go_wp2_with (with_reducible refine wl_stop (o := ⟨some 2, _, _, _, _, _⟩) ?_)
  refine wl_allocS st0 rfl rfl (z := .agg #[.int .u64 0, .int .u64 0, .int .u64 0, .int .u64 0]) (by kernel_rfl) (cw 4 0) (by rw [cw_zero]; rfl) ?_
  intro g2 w1 st1
  clear st0
  go_wp2_with fail
  refine (order_any m HK.out _).mono ?_
  rintro e' w2 ⟨gp, rfl, hle, hm, hf2⟩
  have st2 : St Nob w w2 [(g2, cw 4 0, 94), (gp, mdL m, 159)] := st1.new hf2 hm hle
  clear st1 hf2 hm hle
  go_wp2_with fail
  refine (MSmall_any m gp _ HOK.out (st2.at 1 rfl) k HK4.out).mono ?_
  rintro e' w3 ⟨rfl, hf3⟩
  have st3 := st2.keep hf3
  clear st2 hf3
  go_wp2_with (with_reducible refine wl_stop (o := ⟨some 6, _, _, _, _, _⟩) ?_)
  refine wl_buildL rfl rfl _ (built_Z _) ?_
  go_wp2_with (with_reducible refine wl_stop (o := ⟨none, _, _, _, _, _⟩) ?_)
  refine wl_storeS st3 0 rfl rfl rfl rfl rfl (by first | (simp only [cw_len]; done) | (simp only [List.length_append, cw_len]; done)) (by first | (rw [cw_len]; kernel_rfl) | (simp only [List.length_append, cw_len]; kernel_rfl)) (cw_one _ _) ?_
  intro w4 st4
  clear st3
  have hr := st4.at 0 rfl
  have hfr := st4.fr
  clear st4
  go_wp2_with fail
  exact bodyPost_ret (results_st rfl rfl hr Try.underlying94 rfl (by first | (rw [cw_len]; kernel_rfl) | (simp only [List.length_append, cw_len]; kernel_rfl))) rfl ⟨rfl, hfr⟩

set_option maxHeartbeats 8000000 in
set_option maxRecDepth 100000 in
theorem ZBytes_any (m : Md) (hk : KindOf 1 m) (x : Nat) (w : World) :
    Calls Try.prog 47 #[i4 (elN m x)] w fun e w' => ∃ v, e = .returned v ∧ Own w' w.heap.size 5 1 v 32 (bs (be32 (x % m.M))) ∧ Fr Nob w w' := by
  have HK := Lib.hid hk
  have HOK := Lib.hid hk.ok
  clear hk
  have st0 := St.start Nob w
  go_enter Try.func47, Try.ntmps47
  go_wp2_with (with_reducible refine wl_stop (o := ⟨some 1, _, _, _, _, _⟩) ?_)
  refine wl_boxS st0 rfl rfl rfl (cw 4 (elN m x)) rfl ?_
  intro g1 w1 st1
  clear st0
  go_wp2_with fail
  refine wp_region_noPanic ?_
  refine wp_region_plan (fun wx => St Nob w wx [(g1, cw 4 (elN m x), 94)]) 5 (.w 1 (.t 2 (.r 0 (.r 3 (.r 4 (.m 5 .nil)))))) (by kernel_rfl) (by kernel_rfl) st1.drew (fun _ _ _ _ _ h => h) ?_
  have hd1 := st1.drew
  clear st1
  refine plan_w (v := ?_) rfl rfl (fun wx => ?_) ?_
  rotate_left 1
  · (go_simp; with_reducible rfl)
  try simp only [Act.put, List.setIfInBounds_toArray, List.set_cons_zero, List.set_cons_succ]
  refine plan_arr rfl rfl rfl rfl (cw 4 (elN m x)) (fun wx hS => St.rangeL hS 0 rfl 0 _ (by rw [List.drop_zero, List.take_of_length_le (Nat.le_refl _)])) Try.underlying92 rfl (by first | (rw [cw_len]; kernel_rfl) | (simp only [List.length_append, cw_len]; kernel_rfl)) ?_
  try simp only [Act.put, List.setIfInBounds_toArray, List.set_cons_zero, List.set_cons_succ]
  refine plan_r rfl rfl ?_
  go_simp
  refine (order_any m HK.out _).mono ?_
  rintro e' w2 ⟨gp, rfl, hle, hm, hf2⟩
  have st2 : St Nob w w2 [(g1, cw 4 (elN m x), 94), (gp, mdL m, 159)] := hd1.new hf2 hm hle
  clear hf2 hm hle
  clear hd1
  refine ⟨St.less st2 (by simp), ?_⟩
  try simp only [Act.put, List.setIfInBounds_toArray, List.set_cons_zero, List.set_cons_succ]
  refine plan_r rfl rfl ?_
  go_simp
  refine (MFrom_any m gp _ HOK.out (st2.at 1 rfl) x).mono ?_
  rintro e' w3 ⟨rfl, hf3⟩
  have st3 := st2.keep hf3
  clear hf3
  clear st2
  refine ⟨St.less st3 (by simp), ?_⟩
  try simp only [Act.put, List.setIfInBounds_toArray, List.set_cons_zero, List.set_cons_succ]
  refine plan_r rfl rfl ?_
  go_simp
  refine (MBytes_any (x % m.M) _).mono ?_
  rintro e' w4 ⟨v, rfl, hown, hf4⟩
  have st4 := st3.keep hf4
  have HSZ := st3.fr.size
  obtain ⟨av, cv, hve, hcv, hrv, -⟩ := hown.form
  subst hve
  have HOWN := Lib.hid (hown.mono (HSZ))
  clear hown hrv
  clear hf4
  clear st3
  refine ⟨St.less st4 (by simp), ?_⟩
  try simp only [Act.put, List.setIfInBounds_toArray, List.set_cons_zero, List.set_cons_succ]
  refine plan_m rfl rfl ?_
  go_simp
  try simp only [Act.put, List.setIfInBounds_toArray, List.set_cons_zero, List.set_cons_succ]
  refine plan_end ?_
  refine NoPanic.normal ?_
  have hfr := st4.fr
  clear st4
  go_wp2_with fail
  go_ret
  exact ⟨_, rfl, HOWN.out, hfr⟩
end Go.Proofs.Ytnooojkhnpcolaa
