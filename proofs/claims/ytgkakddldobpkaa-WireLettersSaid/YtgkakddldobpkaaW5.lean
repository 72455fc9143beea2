/- the state's bytes; Permute -/
import Derived.Test.YtgkakddldobpkaaW4
namespace Go.Proofs.Ytgkakddldobpkaa
open Go.RowKit Go.Mv Mvp

theorem toB_at (S : List UInt64) (n i : Nat) (h : i < n) : (toB S n).getD i 0 = sByte S i := by
  simp [toB, List.getD_eq_getElem?_getD, List.getElem?_range h]

set_option maxHeartbeats 800000 in
theorem bytes_any (g : Nat) (S : List UInt64) (tail : List Value) (T : TypeId) (n : Nat) (w : World) (hS : S.length = 25) (hn : n ≤ 200) (hg : Has w g (ws S ++ tail) T) :
    Calls Try.prog 49 #[.pointer (some ⟨g, 0, none⟩), .int .i64 (n : Int)] w fun e w' => e = .returned (.slice (some ⟨w.heap.size, 0, none⟩) n n) ∧ Has w' w.heap.size (bs (toB S n)) 5 ∧ Fr Nob w w' ∧ w'.heap.size = w.heap.size + 1 := by
  go_enter Try.func49, Try.ntmps49
  go_wp2_with (at_make; refine wl_make rfl rfl Try.underlying22 info_u8 rfl rfl rfl n n rfl rfl (by omega) (by omega) (by unfold maxLen; omega) ?_; intro w1 hw1 hf1 hz1)
  have hgl := hg.lt
  go_loopw [11] (fun i wr => ∃ k : Nat, k ≤ n ∧ i = .int .i64 k ∧ Has wr w.heap.size (bs (fill (toB S n) (List.replicate n 0) k)) 5 ∧ Has wr g (ws S ++ tail) T ∧ Fr Nob w wr ∧ wr.heap.size = w.heap.size + 1) (fun i _ => (n - intOf i).toNat)
  case atStart =>
    refine ⟨0, by omega, rfl, ?_, hg.keep hf1 id, hf1, hz1⟩
    rw [fill_zero]; simpa [bs] using hw1
  case round =>
    obtain ⟨k, hk, rfl, hh, hg2, hf, hz⟩ := hrel
    by_cases hlt : k < n
    · obtain ⟨v0, hc0, hfr0⟩ := hh.ready (i := k) (by rw [length_bs, fill_length _ _ _ (by simp [toB_len])]; simpa using hlt)
      have hi8 : k / 8 < (ws S).length := by rw [length_ws, hS]; omega
      have hc : wr.cell? ⟨g, k / 8, none⟩ = some (.int .u64 ((S.getD (k / 8) 0).toNat : Int)) := hg2.cell (by rw [List.getElem?_append_left hi8]; exact ws_get _ _ (by rw [hS]; omega))
      have hlo : (0 : Int) ≤ (k : Int) / 8 ∧ (k : Int) / 8 < 25 := by omega
      generalize hy : S.getD (k / 8) 0 = y at hc
      have HY := Lib.hid hy; clear hy
      have HS := Lib.hid hS; clear hS hi8
      have HZ := Lib.hid hz; clear hz hz1 hw1
      go_wp2
      go_roundw
      case rel =>
        have e : (toB S n).getD k 0 = lo8 (shr y (8 * (k % 8))) := by rw [toB_at S n k hlt, sByte, HY.out]
        refine ⟨k + 1, by omega, by go_num, ?_, hg2.other _ _ _ (by omega), hf.setCell _ _ _ _ (fun h => absurd h (Nat.lt_irrefl _)), by have := HZ.out; simpa [World.setCell] using this⟩
        rw [← e]
        exact hh.fillB (by simp [toB_len]) (by simpa [toB_len] using hlt)
      case measure => simp [intOf]; omega
    · go_wp2
      go_ret
      obtain rfl : k = n := by omega
      rw [fill_all _ _ _ (by simp [toB_len]) (by simp [toB_len])] at hh
      exact ⟨rfl, hh, hf, hz⟩
end Go.Proofs.Ytgkakddldobpkaa
