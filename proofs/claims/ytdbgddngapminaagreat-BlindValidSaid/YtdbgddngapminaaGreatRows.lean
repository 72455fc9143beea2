/-
  No cell of these rows narrows 'for every input' (looked for: loops, veiled, ifaces, maps, wideKeys, modest, calm, conditions, laid).
  DERIVED. THE GIVEN ROWS OF THIS SEAT. 3 by the template 'for every input the law returns true; each argument reads behind the call as it read before'; 0 by the template 'total and deterministic' (their statements: YtdbgddngapminaaGreatTotals.lean).
  GIVEN WITH THE SEED: the statements are not yours to turn. If you find one false, say at which input.
  Laid BY PROGRAM, IN A SANDBOX (cutbox-rows.mjs): the forced cells as the released guide's own fill.sh prints them over the translation 84175c0770af9630… (all of the seat's roots in one cut). By AI agents, Wed Nov 11 2026. No macro, syntax, notation, axiom, sorry.
-/
import Derived.Test.YtdbgddngapminaaGreatChecked
import GoSem.Claim
import GoSem.ClaimJoined
import GoSem.ClaimMapViews
import Derived.JoinedTies
import Derived.KernelRfl
namespace Go.Proofs.YtdbgddngapminaaGreat
/- THE CELL 'sum', in the pinned program and in every row, IS THE sha256 OF THE DUMP (.gsa) THAT YtdbgddngapminaaGreatProg.lean LOADS. Nothing in Lean hashes anything: it is a label: what it is worth is what the hold of that sum in a sandbox is worth. -/
noncomputable def Tryz.pinned : Pinned := { name := "ytdbgddngapminaagreat", sum := "84175c0770af96301e38d94124a0e10e72a00e3275d8002b87a12c960c8f0c32", checked := Tryz.checked }
namespace Rows
def none {H : Type} : Left H := { results := [], args := [] }

/-- 'mintvaultlaw3.GroupHides': WHATEVER THE INPUT: true; the input reads as it did. -/
def groupHidesSpec : ChangeSpec := { name := "groupHides", fn := fun _ => fun
  | [d1, d2, d3, d4] => { results := [.lit (.bool true)], args := [d1, d2, d3, d4] }
  | _ => none }
def groupHidesRow : OpenClaim := { program := "ytdbgddngapminaagreat", sum := "84175c0770af96301e38d94124a0e10e72a00e3275d8002b87a12c960c8f0c32", func := "mintvault/mintvaultlaw3.GroupHides", spec := "groupHides", inPlace := ["math/bits.Add64", "math/bits.Sub64"], unfollowed := true, recurses := true, apart := false }
def GroupHidesSaid : Prop := groupHidesRow.holds Tryz.pinned (OpenSpec.ofChange groupHidesSpec)

/-- ITS FALSE NEIGHBOUR: 'it returns false'. Refute it at one input. -/
def groupHidesWrong : ChangeSpec := { name := "groupHides", fn := fun _ => fun
  | [d1, d2, d3, d4] => { results := [.lit (.bool false)], args := [d1, d2, d3, d4] }
  | _ => none }
def GroupHidesWrongFalsely : Prop := groupHidesRow.holds Tryz.pinned (OpenSpec.ofChange groupHidesWrong)

/-- 'mintvaultlaw7.BlindValid': WHATEVER THE INPUT: true; the input reads as it did. -/
def blindValidSpec : ChangeSpec := { name := "blindValid", fn := fun _ => fun
  | [d1, d2, d3] => { results := [.lit (.bool true)], args := [d1, d2, d3] }
  | _ => none }
def blindValidRow : OpenClaim := { program := "ytdbgddngapminaagreat", sum := "84175c0770af96301e38d94124a0e10e72a00e3275d8002b87a12c960c8f0c32", func := "mintvault/mintvaultlaw7.BlindValid", spec := "blindValid", inPlace := ["math/bits.Add64", "math/bits.Sub64"], unfollowed := true, recurses := true, apart := false }
def BlindValidSaid : Prop := blindValidRow.holds Tryz.pinned (OpenSpec.ofChange blindValidSpec)

/-- ITS FALSE NEIGHBOUR: 'it returns false'. Refute it at one input. -/
def blindValidWrong : ChangeSpec := { name := "blindValid", fn := fun _ => fun
  | [d1, d2, d3] => { results := [.lit (.bool false)], args := [d1, d2, d3] }
  | _ => none }
def BlindValidWrongFalsely : Prop := blindValidRow.holds Tryz.pinned (OpenSpec.ofChange blindValidWrong)

/-- 'mintvaultlaw7.BlindHides': WHATEVER THE INPUT: true; the input reads as it did. -/
def blindHidesSpec : ChangeSpec := { name := "blindHides", fn := fun _ => fun
  | [d1, d2] => { results := [.lit (.bool true)], args := [d1, d2] }
  | _ => none }
def blindHidesRow : OpenClaim := { program := "ytdbgddngapminaagreat", sum := "84175c0770af96301e38d94124a0e10e72a00e3275d8002b87a12c960c8f0c32", func := "mintvault/mintvaultlaw7.BlindHides", spec := "blindHides", inPlace := ["math/bits.Add64", "math/bits.Sub64"], unfollowed := true, recurses := true, apart := false }
def BlindHidesSaid : Prop := blindHidesRow.holds Tryz.pinned (OpenSpec.ofChange blindHidesSpec)

/-- ITS FALSE NEIGHBOUR: 'it returns false'. Refute it at one input. -/
def blindHidesWrong : ChangeSpec := { name := "blindHides", fn := fun _ => fun
  | [d1, d2] => { results := [.lit (.bool false)], args := [d1, d2] }
  | _ => none }
def BlindHidesWrongFalsely : Prop := blindHidesRow.holds Tryz.pinned (OpenSpec.ofChange blindHidesWrong)

/- THE SECOND FORM. 'bulk': how many values and letters a reading holds, each counted each time it is reached (what is shared counts as often as it is met; a slice's spare places count too). A statement '..UptoSaid' is the law's where the arguments, and the package variables that the reading takes, are together of bulk at most 1048576: NARROWER than '..Said'. Prove '..Said' where nothing that the law and all that it calls make is longer than what came in: it says more and counts as full. Else prove '..UptoSaid'. A law counts once. -/
mutual
def uptoBulk {H : Type} : DataW H → Nat
  | .lit (.string bytes) => bytes.length + 1
  | .lit _ => 1
  | .nil => 1
  | .ptr d => uptoBulk d + 1
  | .slice elems spare => uptoBulkAll elems + uptoBulkAll spare + 1
  | .agg parts => uptoBulkAll parts + 1
  | .iface _ d => uptoBulk d + 1
  | .map entries => uptoBulkEntries entries + 1
  | .held _ => 1
def uptoBulkAll {H : Type} : List (DataW H) → Nat
  | [] => 0
  | d :: r => uptoBulk d + uptoBulkAll r
def uptoBulkEntries {H : Type} : List (Lit × DataW H) → Nat
  | [] => 0
  | x :: r => uptoBulkEntry x + uptoBulkEntries r
def uptoBulkEntry {H : Type} : Lit × DataW H → Nat
  | (.string bytes, d) => bytes.length + uptoBulk d + 1
  | (_, d) => uptoBulk d + 1
 end
def uptoSmall : (H : Type) → List (DataW H) → Bool := fun _ ds => decide (uptoBulkAll ds ≤ 1048576)
def OpenSpec.upto (s : _root_.Go.ChangeSpec) : _root_.Go.OpenSpec := { _root_.Go.OpenSpec.ofChange s with cond := some uptoSmall }

/-- 'mintvaultlaw3.GroupHides', WHERE WHAT IT READS IS OF BULK AT MOST 1048576: true; the input reads as it did. -/
def groupHidesUptoRow : OpenClaim := { program := "ytdbgddngapminaagreat", sum := "84175c0770af96301e38d94124a0e10e72a00e3275d8002b87a12c960c8f0c32", func := "mintvault/mintvaultlaw3.GroupHides", spec := "groupHides", inPlace := ["math/bits.Add64", "math/bits.Sub64"], unfollowed := true, recurses := true, apart := false, narrowed := true }
def GroupHidesUptoSaid : Prop := groupHidesUptoRow.holds Tryz.pinned (OpenSpec.upto groupHidesSpec)

/-- 'mintvaultlaw7.BlindValid', WHERE WHAT IT READS IS OF BULK AT MOST 1048576: true; the input reads as it did. -/
def blindValidUptoRow : OpenClaim := { program := "ytdbgddngapminaagreat", sum := "84175c0770af96301e38d94124a0e10e72a00e3275d8002b87a12c960c8f0c32", func := "mintvault/mintvaultlaw7.BlindValid", spec := "blindValid", inPlace := ["math/bits.Add64", "math/bits.Sub64"], unfollowed := true, recurses := true, apart := false, narrowed := true }
def BlindValidUptoSaid : Prop := blindValidUptoRow.holds Tryz.pinned (OpenSpec.upto blindValidSpec)

/-- 'mintvaultlaw7.BlindHides', WHERE WHAT IT READS IS OF BULK AT MOST 1048576: true; the input reads as it did. -/
def blindHidesUptoRow : OpenClaim := { program := "ytdbgddngapminaagreat", sum := "84175c0770af96301e38d94124a0e10e72a00e3275d8002b87a12c960c8f0c32", func := "mintvault/mintvaultlaw7.BlindHides", spec := "blindHides", inPlace := ["math/bits.Add64", "math/bits.Sub64"], unfollowed := true, recurses := true, apart := false, narrowed := true }
def BlindHidesUptoSaid : Prop := blindHidesUptoRow.holds Tryz.pinned (OpenSpec.upto blindHidesSpec)

end Rows
end Go.Proofs.YtdbgddngapminaaGreat
