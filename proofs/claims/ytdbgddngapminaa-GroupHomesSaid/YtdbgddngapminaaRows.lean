/-
  No cell of these rows narrows 'for every input' (looked for: loops, veiled, ifaces, maps, wideKeys, modest, calm, conditions, laid).
  DERIVED. THE GIVEN ROWS OF THIS SEAT. 6 by the template 'for every input the law returns true; each argument reads behind the call as it read before'; 0 by the template 'total and deterministic' (their statements: YtdbgddngapminaaTotals.lean).
  GIVEN WITH THE SEED: the statements are not yours to turn. If you find one false, say at which input.
  Laid BY PROGRAM, IN A SANDBOX (cutbox-rows.mjs): the forced cells as the released guide's own fill.sh prints them over the translation 69951cf5b882661c… (all of the seat's roots in one cut). By AI agents, Wed Nov 11 2026. No macro, syntax, notation, axiom, sorry.
-/
import Derived.Test.YtdbgddngapminaaChecked
import GoSem.Claim
import GoSem.ClaimJoined
import GoSem.ClaimMapViews
import Derived.JoinedTies
import Derived.KernelRfl
namespace Go.Proofs.Ytdbgddngapminaa
/- THE CELL 'sum', in the pinned program and in every row, IS THE sha256 OF THE DUMP (.gsa) THAT YtdbgddngapminaaProg.lean LOADS. Nothing in Lean hashes anything: it is a label: what it is worth is what the hold of that sum in a sandbox is worth. -/
noncomputable def Try.pinned : Pinned := { name := "ytdbgddngapminaa", sum := "69951cf5b882661ca2725bf96bcaee838d7c1654986b0932a3edbb60433d4798", checked := Try.checked }
namespace Rows
def none {H : Type} : Left H := { results := [], args := [] }

/-- 'mintvaultlaw3.GroupPoints': WHATEVER THE INPUT: true; the input reads as it did. -/
def groupPointsSpec : ChangeSpec := { name := "groupPoints", fn := fun _ => fun
  | [d1, d2, d3] => { results := [.lit (.bool true)], args := [d1, d2, d3] }
  | _ => none }
def groupPointsRow : OpenClaim := { program := "ytdbgddngapminaa", sum := "69951cf5b882661ca2725bf96bcaee838d7c1654986b0932a3edbb60433d4798", func := "mintvault/mintvaultlaw3.GroupPoints", spec := "groupPoints", inPlace := ["math/bits.Sub64", "math/bits.Add64"], unfollowed := true, recurses := true, apart := false }
def GroupPointsSaid : Prop := groupPointsRow.holds Try.pinned (OpenSpec.ofChange groupPointsSpec)

/-- ITS FALSE NEIGHBOUR: 'it returns false'. Refute it at one input. -/
def groupPointsWrong : ChangeSpec := { name := "groupPoints", fn := fun _ => fun
  | [d1, d2, d3] => { results := [.lit (.bool false)], args := [d1, d2, d3] }
  | _ => none }
def GroupPointsWrongFalsely : Prop := groupPointsRow.holds Try.pinned (OpenSpec.ofChange groupPointsWrong)

/-- 'mintvaultlaw3.GroupLaw': WHATEVER THE INPUT: true; the input reads as it did. -/
def groupLawSpec : ChangeSpec := { name := "groupLaw", fn := fun _ => fun
  | [d1, d2, d3] => { results := [.lit (.bool true)], args := [d1, d2, d3] }
  | _ => none }
def groupLawRow : OpenClaim := { program := "ytdbgddngapminaa", sum := "69951cf5b882661ca2725bf96bcaee838d7c1654986b0932a3edbb60433d4798", func := "mintvault/mintvaultlaw3.GroupLaw", spec := "groupLaw", inPlace := ["math/bits.Add64", "math/bits.Sub64"], unfollowed := true, recurses := true, apart := false }
def GroupLawSaid : Prop := groupLawRow.holds Try.pinned (OpenSpec.ofChange groupLawSpec)

/-- ITS FALSE NEIGHBOUR: 'it returns false'. Refute it at one input. -/
def groupLawWrong : ChangeSpec := { name := "groupLaw", fn := fun _ => fun
  | [d1, d2, d3] => { results := [.lit (.bool false)], args := [d1, d2, d3] }
  | _ => none }
def GroupLawWrongFalsely : Prop := groupLawRow.holds Try.pinned (OpenSpec.ofChange groupLawWrong)

/-- 'mintvaultlaw3.GroupSums': WHATEVER THE INPUT: true; the input reads as it did. -/
def groupSumsSpec : ChangeSpec := { name := "groupSums", fn := fun _ => fun
  | [d1, d2] => { results := [.lit (.bool true)], args := [d1, d2] }
  | _ => none }
def groupSumsRow : OpenClaim := { program := "ytdbgddngapminaa", sum := "69951cf5b882661ca2725bf96bcaee838d7c1654986b0932a3edbb60433d4798", func := "mintvault/mintvaultlaw3.GroupSums", spec := "groupSums", inPlace := ["math/bits.Sub64", "math/bits.Add64"], unfollowed := true, recurses := true, apart := false }
def GroupSumsSaid : Prop := groupSumsRow.holds Try.pinned (OpenSpec.ofChange groupSumsSpec)

/-- ITS FALSE NEIGHBOUR: 'it returns false'. Refute it at one input. -/
def groupSumsWrong : ChangeSpec := { name := "groupSums", fn := fun _ => fun
  | [d1, d2] => { results := [.lit (.bool false)], args := [d1, d2] }
  | _ => none }
def GroupSumsWrongFalsely : Prop := groupSumsRow.holds Try.pinned (OpenSpec.ofChange groupSumsWrong)

/-- 'mintvaultlaw3.GroupHomes': WHATEVER THE INPUT: true; the input reads as it did. -/
def groupHomesSpec : ChangeSpec := { name := "groupHomes", fn := fun _ => fun
  | [d1, d2, d3, d4] => { results := [.lit (.bool true)], args := [d1, d2, d3, d4] }
  | _ => none }
def groupHomesRow : OpenClaim := { program := "ytdbgddngapminaa", sum := "69951cf5b882661ca2725bf96bcaee838d7c1654986b0932a3edbb60433d4798", func := "mintvault/mintvaultlaw3.GroupHomes", spec := "groupHomes", inPlace := ["math/bits.Sub64", "math/bits.Add64"], unfollowed := true, recurses := true, apart := false }
def GroupHomesSaid : Prop := groupHomesRow.holds Try.pinned (OpenSpec.ofChange groupHomesSpec)

/-- ITS FALSE NEIGHBOUR: 'it returns false'. Refute it at one input. -/
def groupHomesWrong : ChangeSpec := { name := "groupHomes", fn := fun _ => fun
  | [d1, d2, d3, d4] => { results := [.lit (.bool false)], args := [d1, d2, d3, d4] }
  | _ => none }
def GroupHomesWrongFalsely : Prop := groupHomesRow.holds Try.pinned (OpenSpec.ofChange groupHomesWrong)

/-- 'mintvaultlaw5.SigmaSound': WHATEVER THE INPUT: true; the input reads as it did. -/
def sigmaSoundSpec : ChangeSpec := { name := "sigmaSound", fn := fun _ => fun
  | [d1, d2, d3, d4, d5, d6] => { results := [.lit (.bool true)], args := [d1, d2, d3, d4, d5, d6] }
  | _ => none }
def sigmaSoundRow : OpenClaim := { program := "ytdbgddngapminaa", sum := "69951cf5b882661ca2725bf96bcaee838d7c1654986b0932a3edbb60433d4798", func := "mintvault/mintvaultlaw5.SigmaSound", spec := "sigmaSound", inPlace := ["math/bits.Sub64", "math/bits.Add64"], unfollowed := true, recurses := true, apart := false }
def SigmaSoundSaid : Prop := sigmaSoundRow.holds Try.pinned (OpenSpec.ofChange sigmaSoundSpec)

/-- ITS FALSE NEIGHBOUR: 'it returns false'. Refute it at one input. -/
def sigmaSoundWrong : ChangeSpec := { name := "sigmaSound", fn := fun _ => fun
  | [d1, d2, d3, d4, d5, d6] => { results := [.lit (.bool false)], args := [d1, d2, d3, d4, d5, d6] }
  | _ => none }
def SigmaSoundWrongFalsely : Prop := sigmaSoundRow.holds Try.pinned (OpenSpec.ofChange sigmaSoundWrong)

/-- 'mintvaultlaw7.BlindUndoes': WHATEVER THE INPUT: true; the input reads as it did. -/
def blindUndoesSpec : ChangeSpec := { name := "blindUndoes", fn := fun _ => fun
  | [d1, d2, d3] => { results := [.lit (.bool true)], args := [d1, d2, d3] }
  | _ => none }
def blindUndoesRow : OpenClaim := { program := "ytdbgddngapminaa", sum := "69951cf5b882661ca2725bf96bcaee838d7c1654986b0932a3edbb60433d4798", func := "mintvault/mintvaultlaw7.BlindUndoes", spec := "blindUndoes", inPlace := ["math/bits.Sub64", "math/bits.Add64"], unfollowed := true, recurses := true, apart := false }
def BlindUndoesSaid : Prop := blindUndoesRow.holds Try.pinned (OpenSpec.ofChange blindUndoesSpec)

/-- ITS FALSE NEIGHBOUR: 'it returns false'. Refute it at one input. -/
def blindUndoesWrong : ChangeSpec := { name := "blindUndoes", fn := fun _ => fun
  | [d1, d2, d3] => { results := [.lit (.bool false)], args := [d1, d2, d3] }
  | _ => none }
def BlindUndoesWrongFalsely : Prop := blindUndoesRow.holds Try.pinned (OpenSpec.ofChange blindUndoesWrong)

/- THE SECOND FORM. 'bulk': how many values and letters a reading holds, each counted each time it is reached (what is shared counts as often as it is met; a slice's spare places count too). A statement '..UptoSaid' is the law's where the arguments, and the package variables that the reading takes, are together of bulk at most 1048576: NARROWER than '..Said'. Prove '..Said' where nothing that the law and all that it calls make is longer than what came in: it says more and counts as full. Else prove '..UptoSaid'. A law counts once. -/
mutual
def uptoBulk {H : Type} : DataW H → Nat
  | .lit (.string bytes) => bytes.length + 1
  | .lit _ => 1
  | .nil => 1
  | .ptr d => uptoBulk d + 1
  | .slice elems spare => uptoBulkAll elems + uptoBulkAll spare + 1
  | .agg parts => uptoBulkAll parts + 1
  | .iface _ d => uptoBulk d + 1
  | .map entries => uptoBulkEntries entries + 1
  | .held _ => 1
def uptoBulkAll {H : Type} : List (DataW H) → Nat
  | [] => 0
  | d :: r => uptoBulk d + uptoBulkAll r
def uptoBulkEntries {H : Type} : List (Lit × DataW H) → Nat
  | [] => 0
  | x :: r => uptoBulkEntry x + uptoBulkEntries r
def uptoBulkEntry {H : Type} : Lit × DataW H → Nat
  | (.string bytes, d) => bytes.length + uptoBulk d + 1
  | (_, d) => uptoBulk d + 1
 end
def uptoSmall : (H : Type) → List (DataW H) → Bool := fun _ ds => decide (uptoBulkAll ds ≤ 1048576)
def OpenSpec.upto (s : _root_.Go.ChangeSpec) : _root_.Go.OpenSpec := { _root_.Go.OpenSpec.ofChange s with cond := some uptoSmall }

/-- 'mintvaultlaw3.GroupPoints', WHERE WHAT IT READS IS OF BULK AT MOST 1048576: true; the input reads as it did. -/
def groupPointsUptoRow : OpenClaim := { program := "ytdbgddngapminaa", sum := "69951cf5b882661ca2725bf96bcaee838d7c1654986b0932a3edbb60433d4798", func := "mintvault/mintvaultlaw3.GroupPoints", spec := "groupPoints", inPlace := ["math/bits.Sub64", "math/bits.Add64"], unfollowed := true, recurses := true, apart := false, narrowed := true }
def GroupPointsUptoSaid : Prop := groupPointsUptoRow.holds Try.pinned (OpenSpec.upto groupPointsSpec)

/-- 'mintvaultlaw3.GroupLaw', WHERE WHAT IT READS IS OF BULK AT MOST 1048576: true; the input reads as it did. -/
def groupLawUptoRow : OpenClaim := { program := "ytdbgddngapminaa", sum := "69951cf5b882661ca2725bf96bcaee838d7c1654986b0932a3edbb60433d4798", func := "mintvault/mintvaultlaw3.GroupLaw", spec := "groupLaw", inPlace := ["math/bits.Add64", "math/bits.Sub64"], unfollowed := true, recurses := true, apart := false, narrowed := true }
def GroupLawUptoSaid : Prop := groupLawUptoRow.holds Try.pinned (OpenSpec.upto groupLawSpec)

/-- 'mintvaultlaw3.GroupSums', WHERE WHAT IT READS IS OF BULK AT MOST 1048576: true; the input reads as it did. -/
def groupSumsUptoRow : OpenClaim := { program := "ytdbgddngapminaa", sum := "69951cf5b882661ca2725bf96bcaee838d7c1654986b0932a3edbb60433d4798", func := "mintvault/mintvaultlaw3.GroupSums", spec := "groupSums", inPlace := ["math/bits.Sub64", "math/bits.Add64"], unfollowed := true, recurses := true, apart := false, narrowed := true }
def GroupSumsUptoSaid : Prop := groupSumsUptoRow.holds Try.pinned (OpenSpec.upto groupSumsSpec)

/-- 'mintvaultlaw3.GroupHomes', WHERE WHAT IT READS IS OF BULK AT MOST 1048576: true; the input reads as it did. -/
def groupHomesUptoRow : OpenClaim := { program := "ytdbgddngapminaa", sum := "69951cf5b882661ca2725bf96bcaee838d7c1654986b0932a3edbb60433d4798", func := "mintvault/mintvaultlaw3.GroupHomes", spec := "groupHomes", inPlace := ["math/bits.Sub64", "math/bits.Add64"], unfollowed := true, recurses := true, apart := false, narrowed := true }
def GroupHomesUptoSaid : Prop := groupHomesUptoRow.holds Try.pinned (OpenSpec.upto groupHomesSpec)

/-- 'mintvaultlaw5.SigmaSound', WHERE WHAT IT READS IS OF BULK AT MOST 1048576: true; the input reads as it did. -/
def sigmaSoundUptoRow : OpenClaim := { program := "ytdbgddngapminaa", sum := "69951cf5b882661ca2725bf96bcaee838d7c1654986b0932a3edbb60433d4798", func := "mintvault/mintvaultlaw5.SigmaSound", spec := "sigmaSound", inPlace := ["math/bits.Sub64", "math/bits.Add64"], unfollowed := true, recurses := true, apart := false, narrowed := true }
def SigmaSoundUptoSaid : Prop := sigmaSoundUptoRow.holds Try.pinned (OpenSpec.upto sigmaSoundSpec)

/-- 'mintvaultlaw7.BlindUndoes', WHERE WHAT IT READS IS OF BULK AT MOST 1048576: true; the input reads as it did. -/
def blindUndoesUptoRow : OpenClaim := { program := "ytdbgddngapminaa", sum := "69951cf5b882661ca2725bf96bcaee838d7c1654986b0932a3edbb60433d4798", func := "mintvault/mintvaultlaw7.BlindUndoes", spec := "blindUndoes", inPlace := ["math/bits.Sub64", "math/bits.Add64"], unfollowed := true, recurses := true, apart := false, narrowed := true }
def BlindUndoesUptoSaid : Prop := blindUndoesUptoRow.holds Try.pinned (OpenSpec.upto blindUndoesSpec)

end Rows
end Go.Proofs.Ytdbgddngapminaa
