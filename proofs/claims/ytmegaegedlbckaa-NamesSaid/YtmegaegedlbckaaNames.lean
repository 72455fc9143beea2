/- mintvaulttop.Names: each constant has its value. -/
import Derived.Test.YtmegaegedlbckaaBox3
import Derived.Test.YtmegaegedlbckaaProg
import Derived.IntWalk
namespace Go.Proofs.Ytmegaegedlbckaa
open Go.RowKit Go.Mv Mvp

theorem info_i64 : (Try.prog.info? 3).map (fun i => (i.zero, i.size, i.bytes)) = some (some (.int .i64 0), 1, 8) := by kernel_rfl
theorem info_errno : (Try.prog.info? 22).map (fun i => (i.zero, i.size, i.bytes)) = some (some (.int .i64 0), 1, 8) := by kernel_rfl
theorem ret_boolN {a b : Bool} (h : a = b) : Ending.returned (.bool a) = .returned (.bool b) := by rw [h]

set_option maxRecDepth 100000 in
theorem numbers_same (a b : Option Addr) (n c d : Nat) (l : List Nat) (w : World) (hn : n ≤ 1000) (ha : Rd w a n (is l)) (hb : Rd w b n (is l)) :
    Calls Try.prog 9 #[.slice a n c, .slice b n d] w fun e w' => e = .returned (.bool true) ∧ Fr Nob w w' := by
  go_enter Try.func9, Try.ntmps9
  go_wp2_with fail
  go_loopw [5] (fun i wr => ∃ j : Nat, j ≤ n ∧ i = .int .i64 (j : Int) ∧ Fr Nob w wr) (fun i _ => (n - intOf i).toNat)
  case atStart => exact ⟨0, by omega, rfl, Fr.refl _ _⟩
  case round =>
    obtain ⟨j, hj, rfl, hf⟩ := hrel
    have ha' := ha.still hf
    have hb' := hb.still hf
    clear ha hb
    by_cases hlt : j < n
    · have hltI : (j : Int) < (n : Int) := by omega
      have hl := ha'.len
      rw [length_is] at hl
      obtain ⟨ab, ao, rfl, hac⟩ := ha'.at (by omega)
      obtain ⟨bb, bo, rfl, hbc⟩ := hb'.at (by omega)
      have h1 := hac j _ (is_get l j (by omega))
      have h2 := hbc j _ (is_get l j (by omega))
      clear hac hbc hl
      generalize l.getD j 0 = z at *
      go_wp2_with fail
      go_quiet (fail)
      go_wp2_with fail
      go_roundw
      case rel => exact ⟨j + 1, by omega, by go_num, hf.then ((Fr.refl Nob wr).drewN nq)⟩
      case measure => simp [intOf]; omega
    · have hge : ¬ ((j : Int) < (n : Int)) := by omega
      go_wp2_with fail
      go_ret
      exact ⟨rfl, hf⟩

theorem dens (w : World) : Calls Try.prog 10 #[] w fun e w' => e = .returned (.int .i64 20) ∧ w = w' := by
  go_enter Try.func10, Try.ntmps10
  go_wp2_with fail
  go_ret
  exact ⟨rfl, rfl⟩

def nE : List Nat := List.range 17
def nA : List Nat := [0, 1, 0, 1, 2, 3, 4, 5, 7, 20, 21, 22, 65536, 16, 4096]
def nB : List Nat := [20, 64, 1, 2, 3, 64, 1099511627776, 1048576]
def nC : List Nat := [1, 2, 3, 4, 5, 6, 7, 8, 9, 10, 11, 12, 13, 14, 15, 16]
theorem is_cells (l : List Nat) : ∀ v ∈ is l, v.cells = #[v] := by
  intro v hv
  simp only [is, List.mem_map] at hv
  obtain ⟨x, _, rfl⟩ := hv
  rfl
theorem nE_get (j : Nat) (h : j < 17) : (is nE)[j]? = some (.int .i64 (j : Int)) := by
  simp [is, nE, List.getElem?_range h]

set_option maxHeartbeats 1000000 in
set_option maxRecDepth 1000000 in
theorem law_Names (w : World) : Calls Try.prog 3 #[] w fun e w' => e = .returned (.bool true) ∧ Fr Nob w w' := by
  go_enter Try.func3, Try.ntmps3
  go_wp2_with (with_reducible refine wl_stop (o := ⟨some 6, _, _, _, _, _⟩) ?_)
  refine wl_slit rfl rfl Try.underlying23 info_errno (is nE) rfl (is_cells _) rfl rfl ?_
  intro w1 hh1 hf1 hz1
  clear hz1
  generalize w.heap.size = g1 at *
  go_wp2_with fail
  go_loop [2] (fun i => ∃ j : Nat, j ≤ 17 ∧ i = .int .i64 (j : Int)) (fun i => (17 - intOf i).toNat)
  case atStart => exact ⟨0, by omega, rfl⟩
  case round =>
    obtain ⟨j, hj, rfl⟩ := hrel
    by_cases hlt : j < 17
    · have hltI : (j : Int) < 17 := by omega
      have hc : w1.cell? ⟨g1, j, none⟩ = some (.int .i64 (j : Int)) := hh1.cell (nE_get j hlt)
      go_wp2_with fail
      go_round
      case rel => exact ⟨j + 1, by omega, by go_num⟩
      case measure => simp [intOf]; omega
    · have hge : ¬ ((j : Int) < 17) := by omega
      go_wp2_with (with_reducible refine wl_stop (o := ⟨some 19, _, _, _, _, _⟩) ?_)
      refine wl_slit rfl rfl Try.underlying25 info_i64 (is nA) rfl (is_cells _) rfl rfl ?_
      intro w2 hh2 hf2 hz2
      clear hz2 hh1
      go_wp2_with (with_reducible refine wl_stop (o := ⟨some 20, _, _, _, _, _⟩) ?_)
      refine wl_slit rfl rfl Try.underlying25 info_i64 (is nA) rfl (is_cells _) rfl rfl ?_
      intro w3 hh3 hf3 hz3
      clear hz3
      have hh23 := hh2.keep hf3 id
      have hfr3 := (hf1.then hf2).then hf3
      clear hf1 hf2 hf3 hh2
      generalize w1.heap.size = g2 at *
      generalize w2.heap.size = g3 at *
      go_wp2_with fail
      refine (numbers_same _ _ 15 _ _ nA w3 (by decide) (Rd.whole hh23) (Rd.whole hh3)).mono ?_
      rintro e w4 ⟨rfl, hf4⟩
      have hfr4 := hfr3.then hf4
      clear hfr3 hf4 hh23 hh3
      go_wp2_with (with_reducible refine wl_stop (o := ⟨some 22, _, _, _, _, _⟩) ?_)
      refine wl_slit rfl rfl Try.underlying25 info_i64 (is nB) rfl (is_cells _) rfl rfl ?_
      intro w5 hh5 hf5 hz5
      clear hz5
      go_wp2_with (with_reducible refine wl_stop (o := ⟨some 23, _, _, _, _, _⟩) ?_)
      refine wl_slit rfl rfl Try.underlying25 info_i64 (is nB) rfl (is_cells _) rfl rfl ?_
      intro w6 hh6 hf6 hz6
      clear hz6
      have hh56 := hh5.keep hf6 id
      have hfr6 := (hfr4.then hf5).then hf6
      clear hfr4 hf5 hf6 hh5
      generalize w4.heap.size = g4 at *
      generalize w5.heap.size = g5 at *
      go_wp2_with fail
      refine (numbers_same _ _ 8 _ _ nB w6 (by decide) (Rd.whole hh56) (Rd.whole hh6)).mono ?_
      rintro e w7 ⟨rfl, hf7⟩
      have hfr7 := hfr6.then hf7
      clear hfr6 hf7 hh56 hh6
      go_wp2_with (with_reducible refine wl_stop (o := ⟨some 25, _, _, _, _, _⟩) ?_)
      refine wl_slit rfl rfl Try.underlying25 info_i64 (is nC) rfl (is_cells _) rfl rfl ?_
      intro w8 hh8 hf8 hz8
      clear hz8
      go_wp2_with (with_reducible refine wl_stop (o := ⟨some 26, _, _, _, _, _⟩) ?_)
      refine wl_slit rfl rfl Try.underlying25 info_i64 (is nC) rfl (is_cells _) rfl rfl ?_
      intro w9 hh9 hf9 hz9
      clear hz9
      have hh89 := hh8.keep hf9 id
      have hfr9 := (hfr7.then hf8).then hf9
      clear hfr7 hf8 hf9 hh8
      generalize w7.heap.size = g7 at *
      generalize w8.heap.size = g8 at *
      go_wp2_with fail
      refine (numbers_same _ _ 16 _ _ nC w9 (by decide) (Rd.whole hh89) (Rd.whole hh9)).mono ?_
      rintro e w10 ⟨rfl, hf10⟩
      have hfr10 := hfr9.then hf10
      clear hfr9 hf10 hh89 hh9
      go_wp2_with fail
      refine (dens w10).mono ?_
      rintro e w11 ⟨rfl, rfl⟩
      go_wp2_with fail
      go_ret
      exact ⟨rfl, hfr10⟩
end Go.Proofs.Ytmegaegedlbckaa
