/- num: Add, Sub, Mul, Inv. -/
import Derived.Test.YtmegaegedlbckaaNm21
namespace Go.Mv
open Go.RowKit
theorem rd_at {w : World} {b o n : Nat} {vs : List Value} (h : Rd w (some ⟨b, o, none⟩) n vs) (k : Nat) (cs : List Value) (hcs : (vs.drop k).take cs.length = cs) : At w b (o + k) cs := by
  intro i v hv
  rcases h.2 with h0 | ⟨b', o', he, hc⟩
  · have hl := h.len
    rw [h0] at hl
    rw [List.length_eq_zero_iff.1 hl] at hcs
    simp at hcs
    subst hcs
    simp at hv
  · simp only [Option.some.injEq, Addr.mk.injEq] at he
    obtain ⟨rfl, rfl, -⟩ := he
    have := hc.sub k cs.length
    rw [hcs] at this
    exact this i v hv
theorem rd_range {w : World} {b o n : Nat} {vs : List Value} (h : Rd w (some ⟨b, o, none⟩) n vs) (k : Nat) (cs : List Value) (hcs : (vs.drop k).take cs.length = cs) : w.rangeAt b (o + k) cs :=
  fun i v hv => rd_at h k cs hcs i v hv
end Go.Mv
namespace Go.Proofs.Ytmegaegedlbckaa
open Go.RowKit Go.Mv Mvp
theorem el_first (m : Md) (l : List UInt8) (ls : List (List UInt8)) : ((elCells m (l :: ls)).drop 0).take (cw 4 (elN m (beN l))).length = cw 4 (elN m (beN l)) := by
  rw [cw_len]; exact elCells_at m (l :: ls) 0 (by simp)
theorem el_second (m : Md) (l k : List UInt8) (ls : List (List UInt8)) : ((elCells m (l :: k :: ls)).drop 4).take (cw 4 (elN m (beN k))).length = cw 4 (elN m (beN k)) := by
  rw [cw_len]; exact elCells_at m (l :: k :: ls) 1 (by simp)
attribute [local irreducible] limbs lw mix cw cSub cAdd cMul foldC valFrom beN laid be32 powm montT mstep elN mdL elCells numsB numB

set_option maxHeartbeats 8000000 in
set_option maxRecDepth 1000000 in
theorem two_any (f : Value) (w : World) :
    Calls Try.prog 50 #[f] w fun e w' => ∃ g, e = .returned (.func (.func 73) #[] #[.pointer (some ⟨g, 0, none⟩)]) ∧ Has w' g f.cells.toList 90 ∧ Fr Nob w w' := by
  have st0 := St.start Nob w
  go_enter Try.func50, Try.ntmps50
  go_wp2_with (with_reducible refine wl_stop (o := ⟨some 1, _, _, _, _, _⟩) ?_)
  refine wl_boxS st0 rfl rfl rfl f.cells.toList rfl ?_
  intro g w1 st1
  have hg := st1.at 0 rfl
  have hf := st1.fr
  clear st0 st1
  go_wp2_with fail
  go_ret
  exact ⟨g, rfl, hg, hf⟩

set_option maxHeartbeats 8000000 in
set_option maxRecDepth 1000000 in
theorem twoAdd_any (m : Md) (gp : Nat) (w : World) (hok : m.Ok) (hpm : Has w gp (mdL m) 68) (gc : Nat) (hc : Has w gc [.func (.func 47) #[] #[]] 90) (ae : Option Addr) (ce : Nat) (la lb : List UInt8) (hre : Rd w ae (2 * 4) (elCells m [la, lb])) :
    Calls Try.prog 73 #[.pointer (some ⟨gp, 0, none⟩), .slice ae 2 ce, .pointer (some ⟨gc, 0, none⟩)] w fun e w' => e = .returned (.tuple #[i4 (elN m (beN la + beN lb)), .bool true]) ∧ Fr Nob w w' := by
  obtain ⟨b, o, rfl, -⟩ := hre.at (by omega)
  have HOK := Lib.hid hok
  have HPM := Lib.hid hpm
  have HCP := Lib.hid hc
  have HRE := Lib.hid hre
  clear hok hpm hc hre
  have st0 := St.start Nob w
  go_enter Try.func73, Try.ntmps73
  go_wp2_with (with_reducible refine wl_stop (o := ⟨some 5, _, _, _, _, _⟩) ?_)
  refine wl_allocS st0 rfl rfl (z := .agg #[.int .u64 0, .int .u64 0, .int .u64 0, .int .u64 0]) (by kernel_rfl) (cw 4 0) (by rw [cw_zero]; rfl) ?_
  intro g5 w1 st1
  clear st0
  go_wp2_with fail
  refine wp_region_noPanic ?_
  refine wp_region_plan (fun wx => St Nob w wx [(g5, cw 4 0, 81)]) 9 (.t 0 (.w 1 (.w 2 (.w 3 (.t 4 (.w 5 (.w 6 (.t 7 (.r 8 (.m 9 (.w 10 .nil))))))))))) (by kernel_rfl) (by kernel_rfl) st1.drew (fun _ _ _ _ _ h => h) ?_
  have hd1 := st1.drew
  clear st1
  refine plan_t (v := ?_) rfl rfl (fun wx hS => ?_) ?_
  rotate_left 1
  · (have hc := (HCP.out.keep (St.fr hS) id).cell (i := 0) rfl; clear hS; go_simp; with_reducible rfl)
  try simp only [Act.put, List.setIfInBounds_toArray, List.set_cons_zero, List.set_cons_succ]
  refine plan_w (v := ?_) rfl rfl (fun wx => ?_) ?_
  rotate_left 1
  · (go_simp; with_reducible rfl)
  try simp only [Act.put, List.setIfInBounds_toArray, List.set_cons_zero, List.set_cons_succ]
  refine plan_w (v := ?_) rfl rfl (fun wx => ?_) ?_
  rotate_left 1
  · (go_simp; with_reducible rfl)
  try simp only [Act.put, List.setIfInBounds_toArray, List.set_cons_zero, List.set_cons_succ]
  refine plan_w (v := ?_) rfl rfl (fun wx => ?_) ?_
  rotate_left 1
  · (go_simp; with_reducible rfl)
  try simp only [Act.put, List.setIfInBounds_toArray, List.set_cons_zero, List.set_cons_succ]
  refine plan_arr rfl rfl rfl rfl (cw 4 (elN m (beN la))) (fun wx hS => (rd_range (HRE.out.still (St.fr hS)) 0 _ (el_first m la [lb]))) Try.underlying81 rfl (by first | (rw [cw_len]; kernel_rfl) | (simp only [List.length_append, cw_len]; kernel_rfl)) ?_
  try simp only [Act.put, List.setIfInBounds_toArray, List.set_cons_zero, List.set_cons_succ]
  refine plan_w (v := ?_) rfl rfl (fun wx => ?_) ?_
  rotate_left 1
  · (go_simp; with_reducible rfl)
  try simp only [Act.put, List.setIfInBounds_toArray, List.set_cons_zero, List.set_cons_succ]
  refine plan_w (v := ?_) rfl rfl (fun wx => ?_) ?_
  rotate_left 1
  · (go_simp; with_reducible rfl)
  try simp only [Act.put, List.setIfInBounds_toArray, List.set_cons_zero, List.set_cons_succ]
  refine plan_arr rfl rfl rfl rfl (cw 4 (elN m (beN lb))) (fun wx hS => (rd_range (HRE.out.still (St.fr hS)) 4 _ (el_second m la lb []))) Try.underlying81 rfl (by first | (rw [cw_len]; kernel_rfl) | (simp only [List.length_append, cw_len]; kernel_rfl)) ?_
  try simp only [Act.put, List.setIfInBounds_toArray, List.set_cons_zero, List.set_cons_succ]
  refine plan_r rfl rfl ?_
  go_simp
  refine (MAdd_any m gp _ HOK.out (HPM.out.keep hd1.fr id) (beN la) (beN lb)).mono ?_
  rintro e' w2 ⟨rfl, hf2⟩
  have st2 := hd1.keep hf2
  clear hf2
  clear hd1
  refine ⟨st2, ?_⟩
  try simp only [Act.put, List.setIfInBounds_toArray, List.set_cons_zero, List.set_cons_succ]
  refine plan_m rfl rfl ?_
  refine wp_storeS st2 0 rfl rfl rfl rfl (by first | (simp only [cw_len]; done) | (simp only [List.length_append, cw_len]; done)) (by first | (rw [cw_len]; kernel_rfl) | (simp only [List.length_append, cw_len]; kernel_rfl)) (cw_one _ _) ?_
  intro w3 st3
  clear st2
  try simp only [Act.put, List.setIfInBounds_toArray, List.set_cons_zero, List.set_cons_succ]
  refine plan_w (v := ?_) rfl rfl (fun wx => ?_) ?_
  rotate_left 1
  · (go_simp; with_reducible rfl)
  try simp only [Act.put, List.setIfInBounds_toArray, List.set_cons_zero, List.set_cons_succ]
  refine plan_end ?_
  refine NoPanic.normal ?_
  have hr := st3.at 0 rfl
  have hfr := st3.fr
  clear st3
  go_wp2_with fail
  exact bodyPost_ret (results_arr2 rfl rfl hr Try.underlying81 (by first | (rw [cw_len]; kernel_rfl) | (simp only [List.length_append, cw_len]; kernel_rfl)) rfl) rfl ⟨rfl, hfr⟩

set_option maxHeartbeats 8000000 in
set_option maxRecDepth 1000000 in
theorem twoSub_any (m : Md) (gp : Nat) (w : World) (hok : m.Ok) (hpm : Has w gp (mdL m) 68) (gc : Nat) (hc : Has w gc [.func (.func 51) #[] #[]] 90) (ae : Option Addr) (ce : Nat) (la lb : List UInt8) (hre : Rd w ae (2 * 4) (elCells m [la, lb])) :
    Calls Try.prog 73 #[.pointer (some ⟨gp, 0, none⟩), .slice ae 2 ce, .pointer (some ⟨gc, 0, none⟩)] w fun e w' => e = .returned (.tuple #[i4 (elN m (beN la + (m.M - beN lb % m.M))), .bool true]) ∧ Fr Nob w w' := by
  obtain ⟨b, o, rfl, -⟩ := hre.at (by omega)
  have HOK := Lib.hid hok
  have HPM := Lib.hid hpm
  have HCP := Lib.hid hc
  have HRE := Lib.hid hre
  clear hok hpm hc hre
  have st0 := St.start Nob w
  go_enter Try.func73, Try.ntmps73
  go_wp2_with (with_reducible refine wl_stop (o := ⟨some 5, _, _, _, _, _⟩) ?_)
  refine wl_allocS st0 rfl rfl (z := .agg #[.int .u64 0, .int .u64 0, .int .u64 0, .int .u64 0]) (by kernel_rfl) (cw 4 0) (by rw [cw_zero]; rfl) ?_
  intro g5 w1 st1
  clear st0
  go_wp2_with fail
  refine wp_region_noPanic ?_
  refine wp_region_plan (fun wx => St Nob w wx [(g5, cw 4 0, 81)]) 9 (.t 0 (.w 1 (.w 2 (.w 3 (.t 4 (.w 5 (.w 6 (.t 7 (.r 8 (.m 9 (.w 10 .nil))))))))))) (by kernel_rfl) (by kernel_rfl) st1.drew (fun _ _ _ _ _ h => h) ?_
  have hd1 := st1.drew
  clear st1
  refine plan_t (v := ?_) rfl rfl (fun wx hS => ?_) ?_
  rotate_left 1
  · (have hc := (HCP.out.keep (St.fr hS) id).cell (i := 0) rfl; clear hS; go_simp; with_reducible rfl)
  try simp only [Act.put, List.setIfInBounds_toArray, List.set_cons_zero, List.set_cons_succ]
  refine plan_w (v := ?_) rfl rfl (fun wx => ?_) ?_
  rotate_left 1
  · (go_simp; with_reducible rfl)
  try simp only [Act.put, List.setIfInBounds_toArray, List.set_cons_zero, List.set_cons_succ]
  refine plan_w (v := ?_) rfl rfl (fun wx => ?_) ?_
  rotate_left 1
  · (go_simp; with_reducible rfl)
  try simp only [Act.put, List.setIfInBounds_toArray, List.set_cons_zero, List.set_cons_succ]
  refine plan_w (v := ?_) rfl rfl (fun wx => ?_) ?_
  rotate_left 1
  · (go_simp; with_reducible rfl)
  try simp only [Act.put, List.setIfInBounds_toArray, List.set_cons_zero, List.set_cons_succ]
  refine plan_arr rfl rfl rfl rfl (cw 4 (elN m (beN la))) (fun wx hS => (rd_range (HRE.out.still (St.fr hS)) 0 _ (el_first m la [lb]))) Try.underlying81 rfl (by first | (rw [cw_len]; kernel_rfl) | (simp only [List.length_append, cw_len]; kernel_rfl)) ?_
  try simp only [Act.put, List.setIfInBounds_toArray, List.set_cons_zero, List.set_cons_succ]
  refine plan_w (v := ?_) rfl rfl (fun wx => ?_) ?_
  rotate_left 1
  · (go_simp; with_reducible rfl)
  try simp only [Act.put, List.setIfInBounds_toArray, List.set_cons_zero, List.set_cons_succ]
  refine plan_w (v := ?_) rfl rfl (fun wx => ?_) ?_
  rotate_left 1
  · (go_simp; with_reducible rfl)
  try simp only [Act.put, List.setIfInBounds_toArray, List.set_cons_zero, List.set_cons_succ]
  refine plan_arr rfl rfl rfl rfl (cw 4 (elN m (beN lb))) (fun wx hS => (rd_range (HRE.out.still (St.fr hS)) 4 _ (el_second m la lb []))) Try.underlying81 rfl (by first | (rw [cw_len]; kernel_rfl) | (simp only [List.length_append, cw_len]; kernel_rfl)) ?_
  try simp only [Act.put, List.setIfInBounds_toArray, List.set_cons_zero, List.set_cons_succ]
  refine plan_r rfl rfl ?_
  go_simp
  refine (MSub_any m gp _ HOK.out (HPM.out.keep hd1.fr id) (beN la) (beN lb)).mono ?_
  rintro e' w2 ⟨rfl, hf2⟩
  have st2 := hd1.keep hf2
  clear hf2
  clear hd1
  refine ⟨st2, ?_⟩
  try simp only [Act.put, List.setIfInBounds_toArray, List.set_cons_zero, List.set_cons_succ]
  refine plan_m rfl rfl ?_
  refine wp_storeS st2 0 rfl rfl rfl rfl (by first | (simp only [cw_len]; done) | (simp only [List.length_append, cw_len]; done)) (by first | (rw [cw_len]; kernel_rfl) | (simp only [List.length_append, cw_len]; kernel_rfl)) (cw_one _ _) ?_
  intro w3 st3
  clear st2
  try simp only [Act.put, List.setIfInBounds_toArray, List.set_cons_zero, List.set_cons_succ]
  refine plan_w (v := ?_) rfl rfl (fun wx => ?_) ?_
  rotate_left 1
  · (go_simp; with_reducible rfl)
  try simp only [Act.put, List.setIfInBounds_toArray, List.set_cons_zero, List.set_cons_succ]
  refine plan_end ?_
  refine NoPanic.normal ?_
  have hr := st3.at 0 rfl
  have hfr := st3.fr
  clear st3
  go_wp2_with fail
  exact bodyPost_ret (results_arr2 rfl rfl hr Try.underlying81 (by first | (rw [cw_len]; kernel_rfl) | (simp only [List.length_append, cw_len]; kernel_rfl)) rfl) rfl ⟨rfl, hfr⟩

set_option maxHeartbeats 8000000 in
set_option maxRecDepth 1000000 in
theorem twoMul_any (m : Md) (gp : Nat) (w : World) (hok : m.Ok) (hpm : Has w gp (mdL m) 68) (gc : Nat) (hc : Has w gc [.func (.func 45) #[] #[]] 90) (ae : Option Addr) (ce : Nat) (la lb : List UInt8) (hre : Rd w ae (2 * 4) (elCells m [la, lb])) :
    Calls Try.prog 73 #[.pointer (some ⟨gp, 0, none⟩), .slice ae 2 ce, .pointer (some ⟨gc, 0, none⟩)] w fun e w' => e = .returned (.tuple #[i4 (elN m (beN la * beN lb)), .bool true]) ∧ Fr Nob w w' := by
  obtain ⟨b, o, rfl, -⟩ := hre.at (by omega)
  have HOK := Lib.hid hok
  have HPM := Lib.hid hpm
  have HCP := Lib.hid hc
  have HRE := Lib.hid hre
  clear hok hpm hc hre
  have st0 := St.start Nob w
  go_enter Try.func73, Try.ntmps73
  go_wp2_with (with_reducible refine wl_stop (o := ⟨some 5, _, _, _, _, _⟩) ?_)
  refine wl_allocS st0 rfl rfl (z := .agg #[.int .u64 0, .int .u64 0, .int .u64 0, .int .u64 0]) (by kernel_rfl) (cw 4 0) (by rw [cw_zero]; rfl) ?_
  intro g5 w1 st1
  clear st0
  go_wp2_with fail
  refine wp_region_noPanic ?_
  refine wp_region_plan (fun wx => St Nob w wx [(g5, cw 4 0, 81)]) 9 (.t 0 (.w 1 (.w 2 (.w 3 (.t 4 (.w 5 (.w 6 (.t 7 (.r 8 (.m 9 (.w 10 .nil))))))))))) (by kernel_rfl) (by kernel_rfl) st1.drew (fun _ _ _ _ _ h => h) ?_
  have hd1 := st1.drew
  clear st1
  refine plan_t (v := ?_) rfl rfl (fun wx hS => ?_) ?_
  rotate_left 1
  · (have hc := (HCP.out.keep (St.fr hS) id).cell (i := 0) rfl; clear hS; go_simp; with_reducible rfl)
  try simp only [Act.put, List.setIfInBounds_toArray, List.set_cons_zero, List.set_cons_succ]
  refine plan_w (v := ?_) rfl rfl (fun wx => ?_) ?_
  rotate_left 1
  · (go_simp; with_reducible rfl)
  try simp only [Act.put, List.setIfInBounds_toArray, List.set_cons_zero, List.set_cons_succ]
  refine plan_w (v := ?_) rfl rfl (fun wx => ?_) ?_
  rotate_left 1
  · (go_simp; with_reducible rfl)
  try simp only [Act.put, List.setIfInBounds_toArray, List.set_cons_zero, List.set_cons_succ]
  refine plan_w (v := ?_) rfl rfl (fun wx => ?_) ?_
  rotate_left 1
  · (go_simp; with_reducible rfl)
  try simp only [Act.put, List.setIfInBounds_toArray, List.set_cons_zero, List.set_cons_succ]
  refine plan_arr rfl rfl rfl rfl (cw 4 (elN m (beN la))) (fun wx hS => (rd_range (HRE.out.still (St.fr hS)) 0 _ (el_first m la [lb]))) Try.underlying81 rfl (by first | (rw [cw_len]; kernel_rfl) | (simp only [List.length_append, cw_len]; kernel_rfl)) ?_
  try simp only [Act.put, List.setIfInBounds_toArray, List.set_cons_zero, List.set_cons_succ]
  refine plan_w (v := ?_) rfl rfl (fun wx => ?_) ?_
  rotate_left 1
  · (go_simp; with_reducible rfl)
  try simp only [Act.put, List.setIfInBounds_toArray, List.set_cons_zero, List.set_cons_succ]
  refine plan_w (v := ?_) rfl rfl (fun wx => ?_) ?_
  rotate_left 1
  · (go_simp; with_reducible rfl)
  try simp only [Act.put, List.setIfInBounds_toArray, List.set_cons_zero, List.set_cons_succ]
  refine plan_arr rfl rfl rfl rfl (cw 4 (elN m (beN lb))) (fun wx hS => (rd_range (HRE.out.still (St.fr hS)) 4 _ (el_second m la lb []))) Try.underlying81 rfl (by first | (rw [cw_len]; kernel_rfl) | (simp only [List.length_append, cw_len]; kernel_rfl)) ?_
  try simp only [Act.put, List.setIfInBounds_toArray, List.set_cons_zero, List.set_cons_succ]
  refine plan_r rfl rfl ?_
  go_simp
  refine (MMulE m gp _ HOK.out (HPM.out.keep hd1.fr id) (beN la) (beN lb)).mono ?_
  rintro e' w2 ⟨rfl, hf2⟩
  have st2 := hd1.keep hf2
  clear hf2
  clear hd1
  refine ⟨st2, ?_⟩
  try simp only [Act.put, List.setIfInBounds_toArray, List.set_cons_zero, List.set_cons_succ]
  refine plan_m rfl rfl ?_
  refine wp_storeS st2 0 rfl rfl rfl rfl (by first | (simp only [cw_len]; done) | (simp only [List.length_append, cw_len]; done)) (by first | (rw [cw_len]; kernel_rfl) | (simp only [List.length_append, cw_len]; kernel_rfl)) (cw_one _ _) ?_
  intro w3 st3
  clear st2
  try simp only [Act.put, List.setIfInBounds_toArray, List.set_cons_zero, List.set_cons_succ]
  refine plan_w (v := ?_) rfl rfl (fun wx => ?_) ?_
  rotate_left 1
  · (go_simp; with_reducible rfl)
  try simp only [Act.put, List.setIfInBounds_toArray, List.set_cons_zero, List.set_cons_succ]
  refine plan_end ?_
  refine NoPanic.normal ?_
  have hr := st3.at 0 rfl
  have hfr := st3.fr
  clear st3
  go_wp2_with fail
  exact bodyPost_ret (results_arr2 rfl rfl hr Try.underlying81 (by first | (rw [cw_len]; kernel_rfl) | (simp only [List.length_append, cw_len]; kernel_rfl)) rfl) rfl ⟨rfl, hfr⟩

set_option maxHeartbeats 8000000 in
set_option maxRecDepth 1000000 in
theorem inv1_any (m : Md) (gp : Nat) (w : World) (hok : m.Ok) (hpm : Has w gp (mdL m) 68) (ae : Option Addr) (ce : Nat) (la : List UInt8) (hre : Rd w ae (1 * 4) (elCells m [la])) :
    Calls Try.prog 52 #[.pointer (some ⟨gp, 0, none⟩), .slice ae 1 ce] w fun e w' => e = .returned (.tuple #[i4 (elN m (beN la ^ (m.M - 2))), .bool true]) ∧ Fr Nob w w' := by
  obtain ⟨b, o, rfl, -⟩ := hre.at (by omega)
  have HOK := Lib.hid hok
  have HPM := Lib.hid hpm
  have HRE := Lib.hid hre
  clear hok hpm hre
  have st0 := St.start Nob w
  go_enter Try.func52, Try.ntmps52
  go_wp2_with (with_reducible refine wl_stop (o := ⟨some 4, _, _, _, _, _⟩) ?_)
  refine wl_allocS st0 rfl rfl (z := .agg #[.int .u64 0, .int .u64 0, .int .u64 0, .int .u64 0]) (by kernel_rfl) (cw 4 0) (by rw [cw_zero]; rfl) ?_
  intro g4 w1 st1
  clear st0
  go_wp2_with (with_reducible refine wl_stop (o := ⟨some 9, _, _, _, _, _⟩) ?_)
  refine wl_loadR rfl rfl Try.underlying81 rfl rfl (rd_at (HRE.out.still st1.fr) 0 (cw 4 (elN m (beN la))) (el_first m la [])) (by first | (rw [cw_len]; kernel_rfl) | (simp only [List.length_append, cw_len]; kernel_rfl)) ?_
  go_wp2_with fail
  refine (MInv_any m gp _ HOK.out (HPM.out.keep st1.fr id) (beN la)).mono ?_
  rintro e' w2 ⟨rfl, hf2⟩
  have st2 := st1.keep hf2
  clear st1 hf2
  go_wp2_with (with_reducible refine wl_stop (o := ⟨none, _, _, _, _, _⟩) ?_)
  refine wl_storeS st2 0 rfl rfl rfl rfl rfl (by first | (simp only [cw_len]; done) | (simp only [List.length_append, cw_len]; done)) (by first | (rw [cw_len]; kernel_rfl) | (simp only [List.length_append, cw_len]; kernel_rfl)) (cw_one _ _) ?_
  intro w3 st3
  clear st2
  have hr := st3.at 0 rfl
  have hfr := st3.fr
  clear st3
  go_wp2_with fail
  exact bodyPost_ret (results_arr2 rfl rfl hr Try.underlying81 (by first | (rw [cw_len]; kernel_rfl) | (simp only [List.length_append, cw_len]; kernel_rfl)) rfl) rfl ⟨rfl, hfr⟩
end Go.Proofs.Ytmegaegedlbckaa
