/- num.Modulus, num.Reduce; the law's told. -/
import Derived.Test.YtmegaegedlbckaaNm18
namespace Go.Proofs.Ytmegaegedlbckaa
open Go.RowKit Go.Mv Mvp

/-- the known kinds -/
inductive KindOf : Int → Md → Prop where
  | zero : KindOf 0 mP
  | one : KindOf 1 mQ
theorem KindOf.ok {k : Int} {m : Md} (h : KindOf k m) : m.Ok := by cases h; exact mP_ok; exact mQ_ok
theorem kind_cases (k : Int) : (∃ m, KindOf k m) ∨ ((k == 0) = false ∧ (k == 1) = false) := by
  by_cases h0 : k = 0
  · subst h0; exact .inl ⟨_, .zero⟩
  · by_cases h1 : k = 1
    · subst h1; exact .inl ⟨_, .one⟩
    · exact .inr ⟨by simpa using h0, by simpa using h1⟩
theorem OfK {k : Int} {m : Md} (hk : KindOf k m) (w : World) : Calls Try.prog 36 #[.int .i64 k] w fun e w' => ∃ g, e = .returned (.tuple #[.pointer (some ⟨g, 0, none⟩), .bool true]) ∧ w.heap.size ≤ g ∧ Has w' g (mdL m) 68 ∧ Fr Nob w w' := by
  cases hk
  · exact Of0 w
  · exact Of1 w
theorem MakeK {k : Int} {m : Md} (hk : KindOf k m) (w : World) : Calls Try.prog 16 #[.int .i64 k] w fun e w' => e = .returned (fv m.M) ∧ Fr Nob w w' := by
  cases hk
  · exact Make0 w
  · exact Make1 w
attribute [local irreducible] limbs lw mix cw cSub cAdd cMul foldC valFrom beN laid be32 powm montT mstep elN mdL

set_option maxHeartbeats 8000000 in
set_option maxRecDepth 100000 in
theorem NModulus_k (k : Int) (m : Md) (hk : KindOf k m) (w : World) :
    Calls Try.prog 12 #[.int .i64 k] w fun e w' => ∃ v, e = .returned (.tuple #[v, .int .i64 0]) ∧ Own w' w.heap.size 5 1 v 32 (bs (be32 m.M)) ∧ Fr Nob w w' := by
  have HK := Lib.hid hk; clear hk
  go_enter Try.func12, Try.ntmps12
  go_wp2_with fail
  refine (OfK HK.out _).mono ?_
  rintro e w1 ⟨g, rfl, hg, hm, hf⟩
  clear hg
  have HF := Lib.hid hf; clear hf
  go_wp2_with (with_reducible refine wl_stop (o := ⟨some 16, _, _, _, _, _⟩) ?_)
  refine wl_loadA rfl rfl Try.underlying66 rfl hm (cw 4 m.M) (md_M m) (by simp only [cw_len]; kernel_rfl) ?_
  clear hm
  go_wp2_with fail
  refine (MBytes_any m.M _).mono ?_
  rintro e w2 ⟨v, rfl, hown, hf2⟩
  have h2 := HF.out.then hf2
  have ho := hown.mono HF.out.size
  clear hown hf2 HF
  go_wp2_with fail
  go_ret2
  exact ⟨v, rfl, ho, h2⟩
set_option maxHeartbeats 8000000 in
set_option maxRecDepth 100000 in
theorem NModulus_x (k : Int) (w : World) (h0 : (k == 0) = false) (h1 : (k == 1) = false) :
    Calls Try.prog 12 #[.int .i64 k] w fun e w' => e = .returned (.tuple #[.slice none 0 0, .int .i64 2]) ∧ w = w' := by
  have H0 := Lib.hid h0
  have H1 := Lib.hid h1
  clear h0 h1
  go_enter Try.func12, Try.ntmps12
  go_wp2_with fail
  refine (Of2 k _ H0.out H1.out).mono ?_
  rintro e w1 ⟨rfl, rfl⟩
  go_wp2_with fail
  go_ret2
  exact ⟨rfl, rfl⟩
set_option maxHeartbeats 8000000 in
set_option maxRecDepth 100000 in
theorem NReduce_k (k : Int) (m : Md) (hk : KindOf k m) (a : Option Addr) (n c : Nat) (l : List UInt8) (w : World) (hb : RdB w a n l) (hc : n ≤ c) (hn : n ≤ 1024) :
    Calls Try.prog 13 #[.int .i64 k, .slice a n c] w fun e w' => ∃ v, e = .returned (.tuple #[v, .int .i64 0]) ∧ Own w' w.heap.size 5 1 v 32 (bs (be32 (beN l % m.M))) ∧ Fr Nob w w' := by
  have HK := Lib.hid hk
  have HB := Lib.hid hb
  have HC := Lib.hid hc
  have hn2 : (n : Int) ≤ 1024 := by omega
  clear hk hb hc
  go_enter Try.func13, Try.ntmps13
  go_wp2_with fail
  refine (OfK HK.out _).mono ?_
  rintro e w1 ⟨g, rfl, hg, hm, hf⟩
  clear hg
  have HF := Lib.hid hf; clear hf
  have HM := Lib.hid hm; clear hm
  go_wp2_with fail
  refine (MReduce_any m g _ HK.out.ok HM.out a n c l (HB.out.still HF.out) HC.out (by omega)).mono ?_
  rintro e w2 ⟨rfl, hf2⟩
  have HF2 := Lib.hid (HF.out.then hf2); clear hf2
  go_wp2_with fail
  refine (MBytes_any (beN l % m.M) _).mono ?_
  rintro e w3 ⟨v, rfl, hown, hf3⟩
  have h2 := HF2.out.then hf3
  have ho := hown.mono HF2.out.size
  clear hown hf3 HF2 HM HF
  go_wp2_with fail
  go_ret2
  exact ⟨v, rfl, ho, h2⟩
set_option maxHeartbeats 8000000 in
set_option maxRecDepth 100000 in
theorem NReduce_x (k : Int) (v : Value) (w : World) (h0 : (k == 0) = false) (h1 : (k == 1) = false) :
    Calls Try.prog 13 #[.int .i64 k, v] w fun e w' => e = .returned (.tuple #[.slice none 0 0, .int .i64 2]) ∧ w = w' := by
  have H0 := Lib.hid h0
  have H1 := Lib.hid h1
  clear h0 h1
  go_enter Try.func13, Try.ntmps13
  go_wp2_with fail
  refine (Of2 k _ H0.out H1.out).mono ?_
  rintro e w1 ⟨rfl, rfl⟩
  go_wp2_with fail
  go_ret2
  exact ⟨rfl, rfl⟩
set_option maxHeartbeats 8000000 in
set_option maxRecDepth 100000 in
theorem NReduce_l (k : Int) (m : Md) (hk : KindOf k m) (a : Option Addr) (n c : Nat) (w : World) (hn : 1024 < n) :
    Calls Try.prog 13 #[.int .i64 k, .slice a n c] w fun e w' => e = .returned (.tuple #[.slice none 0 0, .int .i64 1]) ∧ Fr Nob w w' := by
  have HK := Lib.hid hk
  have hn2 : 1024 < (n : Int) := by omega
  clear hk
  go_enter Try.func13, Try.ntmps13
  go_wp2_with fail
  refine (OfK HK.out _).mono ?_
  rintro e w1 ⟨g, rfl, hg, hm, hf⟩
  clear hg hm
  go_wp2_with fail
  go_ret2
  exact ⟨rfl, hf⟩

set_option maxHeartbeats 8000000 in
set_option maxRecDepth 100000 in
theorem told_ok (a : Option Addr) (n c N : Nat) (w : World) (hrd : RdB w a n (be32 N)) :
    Calls Try.prog 19 #[.slice a n c, .int .i64 0, .int .i64 0, i4 N] w fun e w' => e = .returned (.bool true) ∧ Fr Nob w w' := by
  have HRD := Lib.hid hrd; clear hrd
  have st0 := St.start Nob w
  go_enter Try.func19, Try.ntmps19
  go_wp2_with (with_reducible refine wl_stop (o := ⟨some 7, _, _, _, _, _⟩) ?_)
  refine wl_boxS st0 rfl rfl rfl (cw 4 N) rfl ?_
  intro g7 w1 st1
  clear st0
  go_wp2_with fail
  refine wp_region_noPanic ?_
  refine wp_region_plan (fun wx => St Nob w wx [(g7, cw 4 N, 38)]) 9 (.w 0 (.t 1 (.t 2 (.r 3 (.w 4 (.w 5 (.w 6 (.w 7 (.w 8 (.m 9 .nil)))))))))) (by kernel_rfl) (by kernel_rfl) st1.drew (fun _ _ _ _ _ h => h) ?_
  have hd1 := st1.drew
  clear st1
  refine plan_w (v := ?_) rfl rfl (fun wx => ?_) ?_
  rotate_left 1
  · (go_simp; with_reducible rfl)
  try simp only [Act.put, List.setIfInBounds_toArray, List.set_cons_zero, List.set_cons_succ]
  refine plan_t (v := ?_) rfl rfl (fun wx hS => ?_) ?_
  rotate_left 1
  · (have hc := run_string (P := Try.prog) (HRD.out.still (St.fr hS)) c Try.underlying29 Try.underlying5 Try.underlying9; clear hS; go_simp; with_reducible rfl)
  try simp only [Act.put, List.setIfInBounds_toArray, List.set_cons_zero, List.set_cons_succ]
  refine plan_arr rfl rfl rfl rfl (cw 4 N) (fun wx hS => St.rangeL hS 0 rfl 0 _ (by rw [List.drop_zero, List.take_of_length_le (Nat.le_refl _)])) Try.underlying38 rfl (by simp only [List.length_append, cw_len]; kernel_rfl) ?_
  try simp only [Act.put, List.setIfInBounds_toArray, List.set_cons_zero, List.set_cons_succ]
  refine plan_r rfl rfl ?_
  go_simp
  refine (RBytes_any N _).mono ?_
  rintro e' w2 ⟨rfl, hf2⟩
  have st2 := hd1.keep hf2
  clear hf2
  clear hd1
  refine ⟨st2, ?_⟩
  try simp only [Act.put, List.setIfInBounds_toArray, List.set_cons_zero, List.set_cons_succ]
  refine plan_w (v := ?_) rfl rfl (fun wx => ?_) ?_
  rotate_left 1
  · (go_simp; with_reducible rfl)
  try simp only [Act.put, List.setIfInBounds_toArray, List.set_cons_zero, List.set_cons_succ]
  refine plan_w (v := ?_) rfl rfl (fun wx => ?_) ?_
  rotate_left 1
  · (go_simp; with_reducible rfl)
  try simp only [Act.put, List.setIfInBounds_toArray, List.set_cons_zero, List.set_cons_succ]
  refine plan_g (v := ?_) rfl (by rfl) (fun wx => ?_) ?_
  rotate_left 1
  · (go_simp; with_reducible rfl)
  try simp only [Act.put, List.setIfInBounds_toArray, List.set_cons_zero, List.set_cons_succ]
  refine plan_g (v := ?_) rfl (by rfl) (fun wx => ?_) ?_
  rotate_left 1
  · (go_simp; with_reducible rfl)
  try simp only [Act.put, List.setIfInBounds_toArray, List.set_cons_zero, List.set_cons_succ]
  refine plan_w (v := ?_) rfl rfl (fun wx => ?_) ?_
  rotate_left 1
  · (go_simp; with_reducible rfl)
  try simp only [Act.put, List.setIfInBounds_toArray, List.set_cons_zero, List.set_cons_succ]
  refine plan_m rfl rfl ?_
  go_simp
  try simp only [Act.put, List.setIfInBounds_toArray, List.set_cons_zero, List.set_cons_succ]
  refine plan_end ?_
  refine NoPanic.normal ?_
  have hfr := st2.fr
  clear st2
  go_wp2_with fail
  go_ret
  exact ⟨rfl, hfr⟩

set_option maxHeartbeats 8000000 in
set_option maxRecDepth 100000 in
theorem told_bad (e0 : Int) (N : Nat) (w : World) (h1 : (e0 != 0) = true) :
    Calls Try.prog 19 #[.slice none 0 0, .int .i64 e0, .int .i64 e0, i4 N] w fun e w' => e = .returned (.bool true) ∧ Fr Nob w w' := by
  have st0 := St.start Nob w
  go_enter Try.func19, Try.ntmps19
  go_wp2_with (with_reducible refine wl_stop (o := ⟨some 7, _, _, _, _, _⟩) ?_)
  refine wl_boxS st0 rfl rfl rfl (cw 4 N) rfl ?_
  intro g7 w1 st1
  clear st0
  have hfr := st1.fr
  clear st1
  go_wp2_with fail
  go_ret
  exact ⟨rfl, hfr⟩
end Go.Proofs.Ytmegaegedlbckaa
