/-
  No cell of these rows narrows 'for every input' (looked for: loops, veiled, ifaces, maps, wideKeys, modest, calm, conditions, laid).
  DERIVED. THE GIVEN ROWS OF THIS SEAT. 9 by the template 'for every input the law returns true; each argument reads behind the call as it read before'; 0 by the template 'total and deterministic' (their statements: YtgkakddldobpkaaTotals.lean).
  GIVEN WITH THE SEED: the statements are not yours to turn. If you find one false, say at which input.
  Laid BY PROGRAM, IN A SANDBOX (cutbox-rows.mjs): the forced cells as the released guide's own fill.sh prints them over the translation 0c9277b370a2e42a… (all of the seat's roots in one cut). By AI agents, Wed Nov 11 2026. No macro, syntax, notation, axiom, sorry.
-/
import Derived.Test.YtgkakddldobpkaaChecked
import GoSem.Claim
import GoSem.ClaimJoined
import GoSem.ClaimMapViews
import Derived.JoinedTies
import Derived.KernelRfl
namespace Go.Proofs.Ytgkakddldobpkaa
/- THE CELL 'sum', in the pinned program and in every row, IS THE sha256 OF THE DUMP (.gsa) THAT YtgkakddldobpkaaProg.lean LOADS. Nothing in Lean hashes anything: it is a label: what it is worth is what the hold of that sum in a sandbox is worth. -/
noncomputable def Try.pinned : Pinned := { name := "ytgkakddldobpkaa", sum := "0c9277b370a2e42ab8a9940dea052b1fec4a1dace91b325283c3e1ed5c083bfa", checked := Try.checked }
namespace Rows
def none {H : Type} : Left H := { results := [], args := [] }

/-- 'mintvaultlaw1.SpongeTurns': WHATEVER THE INPUT: true; the input reads as it did. -/
def spongeTurnsSpec : ChangeSpec := { name := "spongeTurns", fn := fun _ => fun
  | [d] => { results := [.lit (.bool true)], args := [d] }
  | _ => none }
def spongeTurnsRow : OpenClaim := { program := "ytgkakddldobpkaa", sum := "0c9277b370a2e42ab8a9940dea052b1fec4a1dace91b325283c3e1ed5c083bfa", func := "mintvault/mintvaultlaw1.SpongeTurns", spec := "spongeTurns", apart := false }
def SpongeTurnsSaid : Prop := spongeTurnsRow.holds Try.pinned (OpenSpec.ofChange spongeTurnsSpec)

/-- ITS FALSE NEIGHBOUR: 'it returns false'. Refute it at one input. -/
def spongeTurnsWrong : ChangeSpec := { name := "spongeTurns", fn := fun _ => fun
  | [d] => { results := [.lit (.bool false)], args := [d] }
  | _ => none }
def SpongeTurnsWrongFalsely : Prop := spongeTurnsRow.holds Try.pinned (OpenSpec.ofChange spongeTurnsWrong)

/-- 'mintvaultlaw1.SpongeTags': WHATEVER THE INPUT: true; the input reads as it did. -/
def spongeTagsSpec : ChangeSpec := { name := "spongeTags", fn := fun _ => fun
  | [d1, d2] => { results := [.lit (.bool true)], args := [d1, d2] }
  | _ => none }
def spongeTagsRow : OpenClaim := { program := "ytgkakddldobpkaa", sum := "0c9277b370a2e42ab8a9940dea052b1fec4a1dace91b325283c3e1ed5c083bfa", func := "mintvault/mintvaultlaw1.SpongeTags", spec := "spongeTags", apart := false }
def SpongeTagsSaid : Prop := spongeTagsRow.holds Try.pinned (OpenSpec.ofChange spongeTagsSpec)

/-- ITS FALSE NEIGHBOUR: 'it returns false'. Refute it at one input. -/
def spongeTagsWrong : ChangeSpec := { name := "spongeTags", fn := fun _ => fun
  | [d1, d2] => { results := [.lit (.bool false)], args := [d1, d2] }
  | _ => none }
def SpongeTagsWrongFalsely : Prop := spongeTagsRow.holds Try.pinned (OpenSpec.ofChange spongeTagsWrong)

/-- 'mintvaultlaw1.SpongeHashes': WHATEVER THE INPUT: true; the input reads as it did. -/
def spongeHashesSpec : ChangeSpec := { name := "spongeHashes", fn := fun _ => fun
  | [d1, d2] => { results := [.lit (.bool true)], args := [d1, d2] }
  | _ => none }
def spongeHashesRow : OpenClaim := { program := "ytgkakddldobpkaa", sum := "0c9277b370a2e42ab8a9940dea052b1fec4a1dace91b325283c3e1ed5c083bfa", func := "mintvault/mintvaultlaw1.SpongeHashes", spec := "spongeHashes", apart := false }
def SpongeHashesSaid : Prop := spongeHashesRow.holds Try.pinned (OpenSpec.ofChange spongeHashesSpec)

/-- ITS FALSE NEIGHBOUR: 'it returns false'. Refute it at one input. -/
def spongeHashesWrong : ChangeSpec := { name := "spongeHashes", fn := fun _ => fun
  | [d1, d2] => { results := [.lit (.bool false)], args := [d1, d2] }
  | _ => none }
def SpongeHashesWrongFalsely : Prop := spongeHashesRow.holds Try.pinned (OpenSpec.ofChange spongeHashesWrong)

/-- 'mintvaultlaw1.SpongeLogs': WHATEVER THE INPUT: true; the input reads as it did. -/
def spongeLogsSpec : ChangeSpec := { name := "spongeLogs", fn := fun _ => fun
  | [d1, d2] => { results := [.lit (.bool true)], args := [d1, d2] }
  | _ => none }
def spongeLogsRow : OpenClaim := { program := "ytgkakddldobpkaa", sum := "0c9277b370a2e42ab8a9940dea052b1fec4a1dace91b325283c3e1ed5c083bfa", func := "mintvault/mintvaultlaw1.SpongeLogs", spec := "spongeLogs", apart := false }
def SpongeLogsSaid : Prop := spongeLogsRow.holds Try.pinned (OpenSpec.ofChange spongeLogsSpec)

/-- ITS FALSE NEIGHBOUR: 'it returns false'. Refute it at one input. -/
def spongeLogsWrong : ChangeSpec := { name := "spongeLogs", fn := fun _ => fun
  | [d1, d2] => { results := [.lit (.bool false)], args := [d1, d2] }
  | _ => none }
def SpongeLogsWrongFalsely : Prop := spongeLogsRow.holds Try.pinned (OpenSpec.ofChange spongeLogsWrong)

/-- 'mintvaultlaw1.SpongeBegins': WHATEVER THE INPUT: true; the input reads as it did. -/
def spongeBeginsSpec : ChangeSpec := { name := "spongeBegins", fn := fun _ => fun
  | [d1, d2, d3, d4, d5] => { results := [.lit (.bool true)], args := [d1, d2, d3, d4, d5] }
  | _ => none }
def spongeBeginsRow : OpenClaim := { program := "ytgkakddldobpkaa", sum := "0c9277b370a2e42ab8a9940dea052b1fec4a1dace91b325283c3e1ed5c083bfa", func := "mintvault/mintvaultlaw1.SpongeBegins", spec := "spongeBegins", apart := false }
def SpongeBeginsSaid : Prop := spongeBeginsRow.holds Try.pinned (OpenSpec.ofChange spongeBeginsSpec)

/-- ITS FALSE NEIGHBOUR: 'it returns false'. Refute it at one input. -/
def spongeBeginsWrong : ChangeSpec := { name := "spongeBegins", fn := fun _ => fun
  | [d1, d2, d3, d4, d5] => { results := [.lit (.bool false)], args := [d1, d2, d3, d4, d5] }
  | _ => none }
def SpongeBeginsWrongFalsely : Prop := spongeBeginsRow.holds Try.pinned (OpenSpec.ofChange spongeBeginsWrong)

/-- 'mintvaultlaw8.TreeLies': WHATEVER THE INPUT: true; the input reads as it did. -/
def treeLiesSpec : ChangeSpec := { name := "treeLies", fn := fun _ => fun
  | [d1, d2, d3, d4, d5] => { results := [.lit (.bool true)], args := [d1, d2, d3, d4, d5] }
  | _ => none }
def treeLiesRow : OpenClaim := { program := "ytgkakddldobpkaa", sum := "0c9277b370a2e42ab8a9940dea052b1fec4a1dace91b325283c3e1ed5c083bfa", func := "mintvault/mintvaultlaw8.TreeLies", spec := "treeLies", recurses := true, apart := false }
def TreeLiesSaid : Prop := treeLiesRow.holds Try.pinned (OpenSpec.ofChange treeLiesSpec)

/-- ITS FALSE NEIGHBOUR: 'it returns false'. Refute it at one input. -/
def treeLiesWrong : ChangeSpec := { name := "treeLies", fn := fun _ => fun
  | [d1, d2, d3, d4, d5] => { results := [.lit (.bool false)], args := [d1, d2, d3, d4, d5] }
  | _ => none }
def TreeLiesWrongFalsely : Prop := treeLiesRow.holds Try.pinned (OpenSpec.ofChange treeLiesWrong)

/-- 'mintvaultlaw8.TreeGrew': WHATEVER THE INPUT: true; the input reads as it did. -/
def treeGrewSpec : ChangeSpec := { name := "treeGrew", fn := fun _ => fun
  | [d1, d2, d3, d4, d5] => { results := [.lit (.bool true)], args := [d1, d2, d3, d4, d5] }
  | _ => none }
def treeGrewRow : OpenClaim := { program := "ytgkakddldobpkaa", sum := "0c9277b370a2e42ab8a9940dea052b1fec4a1dace91b325283c3e1ed5c083bfa", func := "mintvault/mintvaultlaw8.TreeGrew", spec := "treeGrew", recurses := true, apart := false }
def TreeGrewSaid : Prop := treeGrewRow.holds Try.pinned (OpenSpec.ofChange treeGrewSpec)

/-- ITS FALSE NEIGHBOUR: 'it returns false'. Refute it at one input. -/
def treeGrewWrong : ChangeSpec := { name := "treeGrew", fn := fun _ => fun
  | [d1, d2, d3, d4, d5] => { results := [.lit (.bool false)], args := [d1, d2, d3, d4, d5] }
  | _ => none }
def TreeGrewWrongFalsely : Prop := treeGrewRow.holds Try.pinned (OpenSpec.ofChange treeGrewWrong)

/-- 'mintvaultlaw4.WireLetters': WHATEVER THE INPUT: true; the input reads as it did. -/
def wireLettersSpec : ChangeSpec := { name := "wireLetters", fn := fun _ => fun
  | [d1, d2] => { results := [.lit (.bool true)], args := [d1, d2] }
  | _ => none }
def wireLettersRow : OpenClaim := { program := "ytgkakddldobpkaa", sum := "0c9277b370a2e42ab8a9940dea052b1fec4a1dace91b325283c3e1ed5c083bfa", func := "mintvault/mintvaultlaw4.WireLetters", spec := "wireLetters", inPlace := ["internal/abi.NoEscape", "internal/bytealg.IndexByteString"], apart := false }
def WireLettersSaid : Prop := wireLettersRow.holds Try.pinned (OpenSpec.ofChange wireLettersSpec)

/-- ITS FALSE NEIGHBOUR: 'it returns false'. Refute it at one input. -/
def wireLettersWrong : ChangeSpec := { name := "wireLetters", fn := fun _ => fun
  | [d1, d2] => { results := [.lit (.bool false)], args := [d1, d2] }
  | _ => none }
def WireLettersWrongFalsely : Prop := wireLettersRow.holds Try.pinned (OpenSpec.ofChange wireLettersWrong)

/-- 'mintvaultlaw6.SpanPuts': WHATEVER THE INPUT: true; the input reads as it did. -/
def spanPutsSpec : ChangeSpec := { name := "spanPuts", fn := fun _ => fun
  | [d1, d2] => { results := [.lit (.bool true)], args := [d1, d2] }
  | _ => none }
def spanPutsRow : OpenClaim := { program := "ytgkakddldobpkaa", sum := "0c9277b370a2e42ab8a9940dea052b1fec4a1dace91b325283c3e1ed5c083bfa", func := "mintvault/mintvaultlaw6.SpanPuts", spec := "spanPuts", unfollowed := true, recurses := true, apart := false }
def SpanPutsSaid : Prop := spanPutsRow.holds Try.pinned (OpenSpec.ofChange spanPutsSpec)

/-- ITS FALSE NEIGHBOUR: 'it returns false'. Refute it at one input. -/
def spanPutsWrong : ChangeSpec := { name := "spanPuts", fn := fun _ => fun
  | [d1, d2] => { results := [.lit (.bool false)], args := [d1, d2] }
  | _ => none }
def SpanPutsWrongFalsely : Prop := spanPutsRow.holds Try.pinned (OpenSpec.ofChange spanPutsWrong)

/- THE SECOND FORM. 'bulk': how many values and letters a reading holds, each counted each time it is reached (what is shared counts as often as it is met; a slice's spare places count too). A statement '..UptoSaid' is the law's where the arguments, and the package variables that the reading takes, are together of bulk at most 1048576: NARROWER than '..Said'. Prove '..Said' where nothing that the law and all that it calls make is longer than what came in: it says more and counts as full. Else prove '..UptoSaid'. A law counts once. -/
mutual
def uptoBulk {H : Type} : DataW H → Nat
  | .lit (.string bytes) => bytes.length + 1
  | .lit _ => 1
  | .nil => 1
  | .ptr d => uptoBulk d + 1
  | .slice elems spare => uptoBulkAll elems + uptoBulkAll spare + 1
  | .agg parts => uptoBulkAll parts + 1
  | .iface _ d => uptoBulk d + 1
  | .map entries => uptoBulkEntries entries + 1
  | .held _ => 1
def uptoBulkAll {H : Type} : List (DataW H) → Nat
  | [] => 0
  | d :: r => uptoBulk d + uptoBulkAll r
def uptoBulkEntries {H : Type} : List (Lit × DataW H) → Nat
  | [] => 0
  | x :: r => uptoBulkEntry x + uptoBulkEntries r
def uptoBulkEntry {H : Type} : Lit × DataW H → Nat
  | (.string bytes, d) => bytes.length + uptoBulk d + 1
  | (_, d) => uptoBulk d + 1
 end
def uptoSmall : (H : Type) → List (DataW H) → Bool := fun _ ds => decide (uptoBulkAll ds ≤ 1048576)
def OpenSpec.upto (s : _root_.Go.ChangeSpec) : _root_.Go.OpenSpec := { _root_.Go.OpenSpec.ofChange s with cond := some uptoSmall }

/-- 'mintvaultlaw1.SpongeTurns', WHERE WHAT IT READS IS OF BULK AT MOST 1048576: true; the input reads as it did. -/
def spongeTurnsUptoRow : OpenClaim := { program := "ytgkakddldobpkaa", sum := "0c9277b370a2e42ab8a9940dea052b1fec4a1dace91b325283c3e1ed5c083bfa", func := "mintvault/mintvaultlaw1.SpongeTurns", spec := "spongeTurns", apart := false, narrowed := true }
def SpongeTurnsUptoSaid : Prop := spongeTurnsUptoRow.holds Try.pinned (OpenSpec.upto spongeTurnsSpec)

/-- 'mintvaultlaw1.SpongeTags', WHERE WHAT IT READS IS OF BULK AT MOST 1048576: true; the input reads as it did. -/
def spongeTagsUptoRow : OpenClaim := { program := "ytgkakddldobpkaa", sum := "0c9277b370a2e42ab8a9940dea052b1fec4a1dace91b325283c3e1ed5c083bfa", func := "mintvault/mintvaultlaw1.SpongeTags", spec := "spongeTags", apart := false, narrowed := true }
def SpongeTagsUptoSaid : Prop := spongeTagsUptoRow.holds Try.pinned (OpenSpec.upto spongeTagsSpec)

/-- 'mintvaultlaw1.SpongeHashes', WHERE WHAT IT READS IS OF BULK AT MOST 1048576: true; the input reads as it did. -/
def spongeHashesUptoRow : OpenClaim := { program := "ytgkakddldobpkaa", sum := "0c9277b370a2e42ab8a9940dea052b1fec4a1dace91b325283c3e1ed5c083bfa", func := "mintvault/mintvaultlaw1.SpongeHashes", spec := "spongeHashes", apart := false, narrowed := true }
def SpongeHashesUptoSaid : Prop := spongeHashesUptoRow.holds Try.pinned (OpenSpec.upto spongeHashesSpec)

/-- 'mintvaultlaw1.SpongeLogs', WHERE WHAT IT READS IS OF BULK AT MOST 1048576: true; the input reads as it did. -/
def spongeLogsUptoRow : OpenClaim := { program := "ytgkakddldobpkaa", sum := "0c9277b370a2e42ab8a9940dea052b1fec4a1dace91b325283c3e1ed5c083bfa", func := "mintvault/mintvaultlaw1.SpongeLogs", spec := "spongeLogs", apart := false, narrowed := true }
def SpongeLogsUptoSaid : Prop := spongeLogsUptoRow.holds Try.pinned (OpenSpec.upto spongeLogsSpec)

/-- 'mintvaultlaw1.SpongeBegins', WHERE WHAT IT READS IS OF BULK AT MOST 1048576: true; the input reads as it did. -/
def spongeBeginsUptoRow : OpenClaim := { program := "ytgkakddldobpkaa", sum := "0c9277b370a2e42ab8a9940dea052b1fec4a1dace91b325283c3e1ed5c083bfa", func := "mintvault/mintvaultlaw1.SpongeBegins", spec := "spongeBegins", apart := false, narrowed := true }
def SpongeBeginsUptoSaid : Prop := spongeBeginsUptoRow.holds Try.pinned (OpenSpec.upto spongeBeginsSpec)

/-- 'mintvaultlaw8.TreeLies', WHERE WHAT IT READS IS OF BULK AT MOST 1048576: true; the input reads as it did. -/
def treeLiesUptoRow : OpenClaim := { program := "ytgkakddldobpkaa", sum := "0c9277b370a2e42ab8a9940dea052b1fec4a1dace91b325283c3e1ed5c083bfa", func := "mintvault/mintvaultlaw8.TreeLies", spec := "treeLies", recurses := true, apart := false, narrowed := true }
def TreeLiesUptoSaid : Prop := treeLiesUptoRow.holds Try.pinned (OpenSpec.upto treeLiesSpec)

/-- 'mintvaultlaw8.TreeGrew', WHERE WHAT IT READS IS OF BULK AT MOST 1048576: true; the input reads as it did. -/
def treeGrewUptoRow : OpenClaim := { program := "ytgkakddldobpkaa", sum := "0c9277b370a2e42ab8a9940dea052b1fec4a1dace91b325283c3e1ed5c083bfa", func := "mintvault/mintvaultlaw8.TreeGrew", spec := "treeGrew", recurses := true, apart := false, narrowed := true }
def TreeGrewUptoSaid : Prop := treeGrewUptoRow.holds Try.pinned (OpenSpec.upto treeGrewSpec)

/-- 'mintvaultlaw4.WireLetters', WHERE WHAT IT READS IS OF BULK AT MOST 1048576: true; the input reads as it did. -/
def wireLettersUptoRow : OpenClaim := { program := "ytgkakddldobpkaa", sum := "0c9277b370a2e42ab8a9940dea052b1fec4a1dace91b325283c3e1ed5c083bfa", func := "mintvault/mintvaultlaw4.WireLetters", spec := "wireLetters", inPlace := ["internal/abi.NoEscape", "internal/bytealg.IndexByteString"], apart := false, narrowed := true }
def WireLettersUptoSaid : Prop := wireLettersUptoRow.holds Try.pinned (OpenSpec.upto wireLettersSpec)

/-- 'mintvaultlaw6.SpanPuts', WHERE WHAT IT READS IS OF BULK AT MOST 1048576: true; the input reads as it did. -/
def spanPutsUptoRow : OpenClaim := { program := "ytgkakddldobpkaa", sum := "0c9277b370a2e42ab8a9940dea052b1fec4a1dace91b325283c3e1ed5c083bfa", func := "mintvault/mintvaultlaw6.SpanPuts", spec := "spanPuts", unfollowed := true, recurses := true, apart := false, narrowed := true }
def SpanPutsUptoSaid : Prop := spanPutsUptoRow.holds Try.pinned (OpenSpec.upto spanPutsSpec)

end Rows
end Go.Proofs.Ytgkakddldobpkaa
