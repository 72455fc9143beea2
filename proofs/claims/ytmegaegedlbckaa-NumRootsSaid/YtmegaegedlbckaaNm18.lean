/- mont.Of. -/
import Derived.Test.YtmegaegedlbckaaNm17
namespace Go.Proofs.Ytmegaegedlbckaa
open Go.RowKit Go.Mv Mvp
theorem cells_mP : [Value.int .u64 18446744069414583343, .int .u64 18446744073709551615, .int .u64 18446744073709551615, .int .u64 18446744073709551615, .int .u64 15580212934572586289, .int .u64 4294968273, .int .u64 0, .int .u64 0, .int .u64 0, .int .u64 8392367050913, .int .u64 1, .int .u64 0, .int .u64 0] = mdL mP := by kernel_rfl
theorem cells_mQ : [Value.int .u64 13822214165235122497, .int .u64 13451932020343611451, .int .u64 18446744073709551614, .int .u64 18446744073709551615, .int .u64 5408259542528602431, .int .u64 4624529908474429119, .int .u64 4994812053365940164, .int .u64 1, .int .u64 0, .int .u64 9902555850136342848, .int .u64 8364476168144746616, .int .u64 16616019711348246470, .int .u64 11342065889886772165] = mdL mQ := by kernel_rfl

set_option maxHeartbeats 2000000 in
set_option maxRecDepth 100000 in
theorem Of0 (w : World) : Calls Try.prog 36 #[.int .i64 0] w fun e w' => ∃ g, e = .returned (.tuple #[.pointer (some ⟨g, 0, none⟩), .bool true]) ∧ w.heap.size ≤ g ∧ Has w' g (mdL mP) 68 ∧ Fr Nob w w' := by
  go_enter Try.func36, Try.ntmps36
  go_wp2
  go_ret2
  exact ⟨_, rfl, Nat.le_refl _, by rw [← cells_mP]; exact Has.new w _ _, (Fr.refl Nob w).alloc _⟩
set_option maxHeartbeats 2000000 in
set_option maxRecDepth 100000 in
theorem Of1 (w : World) : Calls Try.prog 36 #[.int .i64 1] w fun e w' => ∃ g, e = .returned (.tuple #[.pointer (some ⟨g, 0, none⟩), .bool true]) ∧ w.heap.size ≤ g ∧ Has w' g (mdL mQ) 68 ∧ Fr Nob w w' := by
  go_enter Try.func36, Try.ntmps36
  go_wp2
  go_ret2
  exact ⟨_, rfl, Nat.le_refl _, by rw [← cells_mQ]; exact Has.new w _ _, (Fr.refl Nob w).alloc _⟩
set_option maxHeartbeats 2000000 in
set_option maxRecDepth 100000 in
theorem Of2 (k : Int) (w : World) (h0 : (k == 0) = false) (h1 : (k == 1) = false) : Calls Try.prog 36 #[.int .i64 k] w fun e w' => e = .returned (.tuple #[.pointer none, .bool false]) ∧ w = w' := by
  go_enter Try.func36, Try.ntmps36
  go_wp2
  go_ret2
  exact ⟨rfl, rfl⟩
end Go.Proofs.Ytmegaegedlbckaa
