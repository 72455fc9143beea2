/-
  No cell of these rows narrows 'for every input' (looked for: loops, veiled, ifaces, maps, wideKeys, modest, calm, conditions, laid).
  DERIVED. THE GIVEN ROWS OF THIS SEAT. 6 by the template 'for every input the law returns true; each argument reads behind the call as it read before'; 0 by the template 'total and deterministic' (their statements: YtmegaegedlbckaaTotals.lean).
  GIVEN WITH THE SEED: the statements are not yours to turn. If you find one false, say at which input.
  Laid BY PROGRAM, IN A SANDBOX (cutbox-rows.mjs): the forced cells as the released guide's own fill.sh prints them over the translation 021e00f20a9dab65… (all of the seat's roots in one cut). By AI agents, Wed Nov 11 2026. No macro, syntax, notation, axiom, sorry.
-/
import Derived.Test.YtmegaegedlbckaaChecked
import GoSem.Claim
import GoSem.ClaimJoined
import GoSem.ClaimMapViews
import Derived.JoinedTies
import Derived.KernelRfl
namespace Go.Proofs.Ytmegaegedlbckaa
/- THE CELL 'sum', in the pinned program and in every row, IS THE sha256 OF THE DUMP (.gsa) THAT YtmegaegedlbckaaProg.lean LOADS. Nothing in Lean hashes anything: it is a label: what it is worth is what the hold of that sum in a sandbox is worth. -/
noncomputable def Try.pinned : Pinned := { name := "ytmegaegedlbckaa", sum := "021e00f20a9dab65716b61acc936697629642e7289b40adade1f3a60df500d18", checked := Try.checked }
namespace Rows
def none {H : Type} : Left H := { results := [], args := [] }

/-- 'mintvaulttop.Names': WHATEVER THE INPUT: true; the input reads as it did. -/
def namesSpec : ChangeSpec := { name := "names", fn := fun _ => fun
  | [] => { results := [.lit (.bool true)], args := [] }
  | _ => none }
def namesRow : OpenClaim := { program := "ytmegaegedlbckaa", sum := "021e00f20a9dab65716b61acc936697629642e7289b40adade1f3a60df500d18", func := "mintvault/mintvaulttop.Names", spec := "names", apart := false }
def NamesSaid : Prop := namesRow.holds Try.pinned (OpenSpec.ofChange namesSpec)

/-- ITS FALSE NEIGHBOUR: 'it returns false'. Refute it at one input. -/
def namesWrong : ChangeSpec := { name := "names", fn := fun _ => fun
  | [] => { results := [.lit (.bool false)], args := [] }
  | _ => none }
def NamesWrongFalsely : Prop := namesRow.holds Try.pinned (OpenSpec.ofChange namesWrong)

/-- 'mintvaultlaw2.NumReduces': WHATEVER THE INPUT: true; the input reads as it did. -/
def numReducesSpec : ChangeSpec := { name := "numReduces", fn := fun _ => fun
  | [d1, d2] => { results := [.lit (.bool true)], args := [d1, d2] }
  | _ => none }
def numReducesRow : OpenClaim := { program := "ytmegaegedlbckaa", sum := "021e00f20a9dab65716b61acc936697629642e7289b40adade1f3a60df500d18", func := "mintvault/mintvaultlaw2.NumReduces", spec := "numReduces", inPlace := ["math/bits.Sub64", "math/bits.Add64"], apart := false }
def NumReducesSaid : Prop := numReducesRow.holds Try.pinned (OpenSpec.ofChange numReducesSpec)

/-- ITS FALSE NEIGHBOUR: 'it returns false'. Refute it at one input. -/
def numReducesWrong : ChangeSpec := { name := "numReduces", fn := fun _ => fun
  | [d1, d2] => { results := [.lit (.bool false)], args := [d1, d2] }
  | _ => none }
def NumReducesWrongFalsely : Prop := numReducesRow.holds Try.pinned (OpenSpec.ofChange numReducesWrong)

/-- 'mintvaultlaw2.NumLists': WHATEVER THE INPUT: true; the input reads as it did. -/
def numListsSpec : ChangeSpec := { name := "numLists", fn := fun _ => fun
  | [d1, d2, d3, d4, d5] => { results := [.lit (.bool true)], args := [d1, d2, d3, d4, d5] }
  | _ => none }
def numListsRow : OpenClaim := { program := "ytmegaegedlbckaa", sum := "021e00f20a9dab65716b61acc936697629642e7289b40adade1f3a60df500d18", func := "mintvault/mintvaultlaw2.NumLists", spec := "numLists", inPlace := ["math/bits.Sub64", "math/bits.Add64"], apart := false }
def NumListsSaid : Prop := numListsRow.holds Try.pinned (OpenSpec.ofChange numListsSpec)

/-- ITS FALSE NEIGHBOUR: 'it returns false'. Refute it at one input. -/
def numListsWrong : ChangeSpec := { name := "numLists", fn := fun _ => fun
  | [d1, d2, d3, d4, d5] => { results := [.lit (.bool false)], args := [d1, d2, d3, d4, d5] }
  | _ => none }
def NumListsWrongFalsely : Prop := numListsRow.holds Try.pinned (OpenSpec.ofChange numListsWrong)

/-- 'mintvaultlaw2.NumReckons': WHATEVER THE INPUT: true; the input reads as it did. -/
def numReckonsSpec : ChangeSpec := { name := "numReckons", fn := fun _ => fun
  | [d1, d2, d3] => { results := [.lit (.bool true)], args := [d1, d2, d3] }
  | _ => none }
def numReckonsRow : OpenClaim := { program := "ytmegaegedlbckaa", sum := "021e00f20a9dab65716b61acc936697629642e7289b40adade1f3a60df500d18", func := "mintvault/mintvaultlaw2.NumReckons", spec := "numReckons", inPlace := ["math/bits.Add64", "math/bits.Sub64"], unfollowed := true, recurses := true, apart := false }
def NumReckonsSaid : Prop := numReckonsRow.holds Try.pinned (OpenSpec.ofChange numReckonsSpec)

/-- ITS FALSE NEIGHBOUR: 'it returns false'. Refute it at one input. -/
def numReckonsWrong : ChangeSpec := { name := "numReckons", fn := fun _ => fun
  | [d1, d2, d3] => { results := [.lit (.bool false)], args := [d1, d2, d3] }
  | _ => none }
def NumReckonsWrongFalsely : Prop := numReckonsRow.holds Try.pinned (OpenSpec.ofChange numReckonsWrong)

/-- 'mintvaultlaw2.NumRoots': WHATEVER THE INPUT: true; the input reads as it did. -/
def numRootsSpec : ChangeSpec := { name := "numRoots", fn := fun _ => fun
  | [d1, d2] => { results := [.lit (.bool true)], args := [d1, d2] }
  | _ => none }
def numRootsRow : OpenClaim := { program := "ytmegaegedlbckaa", sum := "021e00f20a9dab65716b61acc936697629642e7289b40adade1f3a60df500d18", func := "mintvault/mintvaultlaw2.NumRoots", spec := "numRoots", inPlace := ["math/bits.Sub64", "math/bits.Add64"], unfollowed := true, recurses := true, apart := false }
def NumRootsSaid : Prop := numRootsRow.holds Try.pinned (OpenSpec.ofChange numRootsSpec)

/-- ITS FALSE NEIGHBOUR: 'it returns false'. Refute it at one input. -/
def numRootsWrong : ChangeSpec := { name := "numRoots", fn := fun _ => fun
  | [d1, d2] => { results := [.lit (.bool false)], args := [d1, d2] }
  | _ => none }
def NumRootsWrongFalsely : Prop := numRootsRow.holds Try.pinned (OpenSpec.ofChange numRootsWrong)

/-- 'mintvaultlaw2.NumLaws': WHATEVER THE INPUT: true; the input reads as it did. -/
def numLawsSpec : ChangeSpec := { name := "numLaws", fn := fun _ => fun
  | [d1, d2, d3, d4] => { results := [.lit (.bool true)], args := [d1, d2, d3, d4] }
  | _ => none }
def numLawsRow : OpenClaim := { program := "ytmegaegedlbckaa", sum := "021e00f20a9dab65716b61acc936697629642e7289b40adade1f3a60df500d18", func := "mintvault/mintvaultlaw2.NumLaws", spec := "numLaws", inPlace := ["math/bits.Sub64", "math/bits.Add64"], unfollowed := true, recurses := true, apart := false }
def NumLawsSaid : Prop := numLawsRow.holds Try.pinned (OpenSpec.ofChange numLawsSpec)

/-- ITS FALSE NEIGHBOUR: 'it returns false'. Refute it at one input. -/
def numLawsWrong : ChangeSpec := { name := "numLaws", fn := fun _ => fun
  | [d1, d2, d3, d4] => { results := [.lit (.bool false)], args := [d1, d2, d3, d4] }
  | _ => none }
def NumLawsWrongFalsely : Prop := numLawsRow.holds Try.pinned (OpenSpec.ofChange numLawsWrong)

/- THE SECOND FORM. 'bulk': how many values and letters a reading holds, each counted each time it is reached (what is shared counts as often as it is met; a slice's spare places count too). A statement '..UptoSaid' is the law's where the arguments, and the package variables that the reading takes, are together of bulk at most 1048576: NARROWER than '..Said'. Prove '..Said' where nothing that the law and all that it calls make is longer than what came in: it says more and counts as full. Else prove '..UptoSaid'. A law counts once. -/
mutual
def uptoBulk {H : Type} : DataW H → Nat
  | .lit (.string bytes) => bytes.length + 1
  | .lit _ => 1
  | .nil => 1
  | .ptr d => uptoBulk d + 1
  | .slice elems spare => uptoBulkAll elems + uptoBulkAll spare + 1
  | .agg parts => uptoBulkAll parts + 1
  | .iface _ d => uptoBulk d + 1
  | .map entries => uptoBulkEntries entries + 1
  | .held _ => 1
def uptoBulkAll {H : Type} : List (DataW H) → Nat
  | [] => 0
  | d :: r => uptoBulk d + uptoBulkAll r
def uptoBulkEntries {H : Type} : List (Lit × DataW H) → Nat
  | [] => 0
  | x :: r => uptoBulkEntry x + uptoBulkEntries r
def uptoBulkEntry {H : Type} : Lit × DataW H → Nat
  | (.string bytes, d) => bytes.length + uptoBulk d + 1
  | (_, d) => uptoBulk d + 1
 end
def uptoSmall : (H : Type) → List (DataW H) → Bool := fun _ ds => decide (uptoBulkAll ds ≤ 1048576)
def OpenSpec.upto (s : _root_.Go.ChangeSpec) : _root_.Go.OpenSpec := { _root_.Go.OpenSpec.ofChange s with cond := some uptoSmall }

/-- 'mintvaulttop.Names', WHERE WHAT IT READS IS OF BULK AT MOST 1048576: true; the input reads as it did. -/
def namesUptoRow : OpenClaim := { program := "ytmegaegedlbckaa", sum := "021e00f20a9dab65716b61acc936697629642e7289b40adade1f3a60df500d18", func := "mintvault/mintvaulttop.Names", spec := "names", apart := false, narrowed := true }
def NamesUptoSaid : Prop := namesUptoRow.holds Try.pinned (OpenSpec.upto namesSpec)

/-- 'mintvaultlaw2.NumReduces', WHERE WHAT IT READS IS OF BULK AT MOST 1048576: true; the input reads as it did. -/
def numReducesUptoRow : OpenClaim := { program := "ytmegaegedlbckaa", sum := "021e00f20a9dab65716b61acc936697629642e7289b40adade1f3a60df500d18", func := "mintvault/mintvaultlaw2.NumReduces", spec := "numReduces", inPlace := ["math/bits.Sub64", "math/bits.Add64"], apart := false, narrowed := true }
def NumReducesUptoSaid : Prop := numReducesUptoRow.holds Try.pinned (OpenSpec.upto numReducesSpec)

/-- 'mintvaultlaw2.NumLists', WHERE WHAT IT READS IS OF BULK AT MOST 1048576: true; the input reads as it did. -/
def numListsUptoRow : OpenClaim := { program := "ytmegaegedlbckaa", sum := "021e00f20a9dab65716b61acc936697629642e7289b40adade1f3a60df500d18", func := "mintvault/mintvaultlaw2.NumLists", spec := "numLists", inPlace := ["math/bits.Sub64", "math/bits.Add64"], apart := false, narrowed := true }
def NumListsUptoSaid : Prop := numListsUptoRow.holds Try.pinned (OpenSpec.upto numListsSpec)

/-- 'mintvaultlaw2.NumReckons', WHERE WHAT IT READS IS OF BULK AT MOST 1048576: true; the input reads as it did. -/
def numReckonsUptoRow : OpenClaim := { program := "ytmegaegedlbckaa", sum := "021e00f20a9dab65716b61acc936697629642e7289b40adade1f3a60df500d18", func := "mintvault/mintvaultlaw2.NumReckons", spec := "numReckons", inPlace := ["math/bits.Add64", "math/bits.Sub64"], unfollowed := true, recurses := true, apart := false, narrowed := true }
def NumReckonsUptoSaid : Prop := numReckonsUptoRow.holds Try.pinned (OpenSpec.upto numReckonsSpec)

/-- 'mintvaultlaw2.NumRoots', WHERE WHAT IT READS IS OF BULK AT MOST 1048576: true; the input reads as it did. -/
def numRootsUptoRow : OpenClaim := { program := "ytmegaegedlbckaa", sum := "021e00f20a9dab65716b61acc936697629642e7289b40adade1f3a60df500d18", func := "mintvault/mintvaultlaw2.NumRoots", spec := "numRoots", inPlace := ["math/bits.Sub64", "math/bits.Add64"], unfollowed := true, recurses := true, apart := false, narrowed := true }
def NumRootsUptoSaid : Prop := numRootsUptoRow.holds Try.pinned (OpenSpec.upto numRootsSpec)

/-- 'mintvaultlaw2.NumLaws', WHERE WHAT IT READS IS OF BULK AT MOST 1048576: true; the input reads as it did. -/
def numLawsUptoRow : OpenClaim := { program := "ytmegaegedlbckaa", sum := "021e00f20a9dab65716b61acc936697629642e7289b40adade1f3a60df500d18", func := "mintvault/mintvaultlaw2.NumLaws", spec := "numLaws", inPlace := ["math/bits.Sub64", "math/bits.Add64"], unfollowed := true, recurses := true, apart := false, narrowed := true }
def NumLawsUptoSaid : Prop := numLawsUptoRow.holds Try.pinned (OpenSpec.upto numLawsSpec)

end Rows
end Go.Proofs.Ytmegaegedlbckaa
