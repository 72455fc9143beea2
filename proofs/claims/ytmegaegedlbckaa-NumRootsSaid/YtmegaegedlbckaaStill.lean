/- mintvaultref1.Still: is a list all as it was lent? -/
import Derived.Test.YtmegaegedlbckaaLent
namespace Go.Proofs.Ytmegaegedlbckaa
open Go.RowKit Go.Mv Mvp

theorem ret_bool {a b : Bool} (h : a = b) : Ending.returned (.bool a) = .returned (.bool b) := by rw [h]

set_option maxHeartbeats 400000 in
set_option maxRecDepth 100000 in
theorem still_any (b : Option Addr) (n c : Nat) (l : List UInt8) (s : ByteArray) (w : World) (hs : s.size ≤ 1000000) (hb : RdB w b n l) :
    Calls Try.prog 14 #[.slice b n c, .string s] w fun e w' => e = .returned (.bool (decide (l = lentL s.data.toList))) ∧ Fr Nob w w' := by
  go_enter Try.func14, Try.ntmps14
  go_wp2_with fail
  refine (lent_any s _ hs).mono ?_
  rintro e w1 ⟨rfl, hh, hf, hz⟩
  have hb1 := hb.still hf
  have hc1 : RdB w1 (some ⟨w.heap.size, 0, none⟩) (s.size + 160) (lentL s.data.toList) := by
    have := Rd.whole hh
    rwa [length_bs, lentL_len, size_list] at this
  go_wp2_with (first
    | (with_reducible refine wl_stop (o := ⟨some 9, _, _, _, _, _⟩) ?_))
  refine wl_string rfl rfl Try.underlying29 Try.underlying5 Try.underlying9 rfl hb1 ?_
  go_wp2_with (first
    | (with_reducible refine wl_stop (o := ⟨some 11, _, _, _, _, _⟩) ?_))
  refine wl_string rfl rfl Try.underlying29 Try.underlying5 Try.underlying9 rfl hc1 ?_
  go_wp2_with fail
  go_ret
  exact ⟨ret_bool (beq_mkS _ _), hf⟩
end Go.Proofs.Ytmegaegedlbckaa
