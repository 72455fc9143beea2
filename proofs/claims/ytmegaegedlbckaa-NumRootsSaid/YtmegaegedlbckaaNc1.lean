/- Plain: the two primes. -/
import Derived.Test.YtmegaegedlbckaaNm1
import Derived.KernelRfl
namespace Mvp
/-- 2^256 less the primes -/
def cP : Nat := 4294968273
def cQ : Nat := 4624529908474429119 + 4994812053365940164 * B64 + B64 ^ 2
def pP : Nat := B64 ^ 4 - cP
def pQ : Nat := B64 ^ 4 - cQ
theorem cP_lt : cP < B64 ^ 4 := by decide
theorem cQ_lt : cQ < B64 ^ 4 := by decide
theorem pP_lt : pP < B64 ^ 4 := by decide
theorem pQ_lt : pQ < B64 ^ 4 := by decide
theorem pP_pos : 0 < pP := by decide
theorem pQ_pos : 0 < pQ := by decide
theorem pP_c : B64 ^ 4 - pP = cP := by decide
theorem pQ_c : B64 ^ 4 - pQ = cQ := by decide
end Mvp
