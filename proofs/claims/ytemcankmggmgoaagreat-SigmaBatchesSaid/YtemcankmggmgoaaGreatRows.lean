/-
  No cell of these rows narrows 'for every input' (looked for: loops, veiled, ifaces, maps, wideKeys, modest, calm, conditions, laid).
  DERIVED. THE GIVEN ROWS OF THIS SEAT. 9 by the template 'for every input the law returns true; each argument reads behind the call as it read before'; 0 by the template 'total and deterministic' (their statements: YtemcankmggmgoaaGreatTotals.lean).
  GIVEN WITH THE SEED: the statements are not yours to turn. If you find one false, say at which input.
  Laid BY PROGRAM, IN A SANDBOX (cutbox-rows.mjs): the forced cells as the released guide's own fill.sh prints them over the translation 0630bd1553d80840… (all of the seat's roots in one cut). By AI agents, Wed Nov 11 2026. No macro, syntax, notation, axiom, sorry.
-/
import Derived.Test.YtemcankmggmgoaaGreatChecked
import GoSem.Claim
import GoSem.ClaimJoined
import GoSem.ClaimMapViews
import Derived.JoinedTies
import Derived.KernelRfl
namespace Go.Proofs.YtemcankmggmgoaaGreat
/- THE CELL 'sum', in the pinned program and in every row, IS THE sha256 OF THE DUMP (.gsa) THAT YtemcankmggmgoaaGreatProg.lean LOADS. Nothing in Lean hashes anything: it is a label: what it is worth is what the hold of that sum in a sandbox is worth. -/
noncomputable def Tryz.pinned : Pinned := { name := "ytemcankmggmgoaagreat", sum := "0630bd1553d80840df5db9141635be1ad02efb3465eedb7c51503801b9c7db21", checked := Tryz.checked }
namespace Rows
def none {H : Type} : Left H := { results := [], args := [] }

/-- 'mintvaultlaw5.SigmaSigns': WHATEVER THE INPUT: true; the input reads as it did. -/
def sigmaSignsSpec : ChangeSpec := { name := "sigmaSigns", fn := fun _ => fun
  | [d1, d2] => { results := [.lit (.bool true)], args := [d1, d2] }
  | _ => none }
def sigmaSignsRow : OpenClaim := { program := "ytemcankmggmgoaagreat", sum := "0630bd1553d80840df5db9141635be1ad02efb3465eedb7c51503801b9c7db21", func := "mintvault/mintvaultlaw5.SigmaSigns", spec := "sigmaSigns", inPlace := ["math/bits.Sub64", "math/bits.Add64"], unfollowed := true, recurses := true, apart := false }
def SigmaSignsSaid : Prop := sigmaSignsRow.holds Tryz.pinned (OpenSpec.ofChange sigmaSignsSpec)

/-- ITS FALSE NEIGHBOUR: 'it returns false'. Refute it at one input. -/
def sigmaSignsWrong : ChangeSpec := { name := "sigmaSigns", fn := fun _ => fun
  | [d1, d2] => { results := [.lit (.bool false)], args := [d1, d2] }
  | _ => none }
def SigmaSignsWrongFalsely : Prop := sigmaSignsRow.holds Tryz.pinned (OpenSpec.ofChange sigmaSignsWrong)

/-- 'mintvaultlaw5.SigmaVerifies': WHATEVER THE INPUT: true; the input reads as it did. -/
def sigmaVerifiesSpec : ChangeSpec := { name := "sigmaVerifies", fn := fun _ => fun
  | [d1, d2, d3] => { results := [.lit (.bool true)], args := [d1, d2, d3] }
  | _ => none }
def sigmaVerifiesRow : OpenClaim := { program := "ytemcankmggmgoaagreat", sum := "0630bd1553d80840df5db9141635be1ad02efb3465eedb7c51503801b9c7db21", func := "mintvault/mintvaultlaw5.SigmaVerifies", spec := "sigmaVerifies", inPlace := ["math/bits.Sub64", "math/bits.Add64"], unfollowed := true, recurses := true, apart := false }
def SigmaVerifiesSaid : Prop := sigmaVerifiesRow.holds Tryz.pinned (OpenSpec.ofChange sigmaVerifiesSpec)

/-- ITS FALSE NEIGHBOUR: 'it returns false'. Refute it at one input. -/
def sigmaVerifiesWrong : ChangeSpec := { name := "sigmaVerifies", fn := fun _ => fun
  | [d1, d2, d3] => { results := [.lit (.bool false)], args := [d1, d2, d3] }
  | _ => none }
def SigmaVerifiesWrongFalsely : Prop := sigmaVerifiesRow.holds Tryz.pinned (OpenSpec.ofChange sigmaVerifiesWrong)

/-- 'mintvaultlaw5.SigmaOpens': WHATEVER THE INPUT: true; the input reads as it did. -/
def sigmaOpensSpec : ChangeSpec := { name := "sigmaOpens", fn := fun _ => fun
  | [d1, d2, d3, d4] => { results := [.lit (.bool true)], args := [d1, d2, d3, d4] }
  | _ => none }
def sigmaOpensRow : OpenClaim := { program := "ytemcankmggmgoaagreat", sum := "0630bd1553d80840df5db9141635be1ad02efb3465eedb7c51503801b9c7db21", func := "mintvault/mintvaultlaw5.SigmaOpens", spec := "sigmaOpens", inPlace := ["math/bits.Sub64", "math/bits.Add64"], unfollowed := true, recurses := true, apart := false }
def SigmaOpensSaid : Prop := sigmaOpensRow.holds Tryz.pinned (OpenSpec.ofChange sigmaOpensSpec)

/-- ITS FALSE NEIGHBOUR: 'it returns false'. Refute it at one input. -/
def sigmaOpensWrong : ChangeSpec := { name := "sigmaOpens", fn := fun _ => fun
  | [d1, d2, d3, d4] => { results := [.lit (.bool false)], args := [d1, d2, d3, d4] }
  | _ => none }
def SigmaOpensWrongFalsely : Prop := sigmaOpensRow.holds Tryz.pinned (OpenSpec.ofChange sigmaOpensWrong)

/-- 'mintvaultlaw5.SigmaSame': WHATEVER THE INPUT: true; the input reads as it did. -/
def sigmaSameSpec : ChangeSpec := { name := "sigmaSame", fn := fun _ => fun
  | [d1, d2, d3, d4, d5] => { results := [.lit (.bool true)], args := [d1, d2, d3, d4, d5] }
  | _ => none }
def sigmaSameRow : OpenClaim := { program := "ytemcankmggmgoaagreat", sum := "0630bd1553d80840df5db9141635be1ad02efb3465eedb7c51503801b9c7db21", func := "mintvault/mintvaultlaw5.SigmaSame", spec := "sigmaSame", inPlace := ["math/bits.Sub64", "math/bits.Add64"], unfollowed := true, recurses := true, apart := false }
def SigmaSameSaid : Prop := sigmaSameRow.holds Tryz.pinned (OpenSpec.ofChange sigmaSameSpec)

/-- ITS FALSE NEIGHBOUR: 'it returns false'. Refute it at one input. -/
def sigmaSameWrong : ChangeSpec := { name := "sigmaSame", fn := fun _ => fun
  | [d1, d2, d3, d4, d5] => { results := [.lit (.bool false)], args := [d1, d2, d3, d4, d5] }
  | _ => none }
def SigmaSameWrongFalsely : Prop := sigmaSameRow.holds Tryz.pinned (OpenSpec.ofChange sigmaSameWrong)

/-- 'mintvaultlaw5.SigmaBatches': WHATEVER THE INPUT: true; the input reads as it did. -/
def sigmaBatchesSpec : ChangeSpec := { name := "sigmaBatches", fn := fun _ => fun
  | [d1, d2] => { results := [.lit (.bool true)], args := [d1, d2] }
  | _ => none }
def sigmaBatchesRow : OpenClaim := { program := "ytemcankmggmgoaagreat", sum := "0630bd1553d80840df5db9141635be1ad02efb3465eedb7c51503801b9c7db21", func := "mintvault/mintvaultlaw5.SigmaBatches", spec := "sigmaBatches", inPlace := ["math/bits.Add64", "math/bits.Sub64"], unfollowed := true, recurses := true, apart := false }
def SigmaBatchesSaid : Prop := sigmaBatchesRow.holds Tryz.pinned (OpenSpec.ofChange sigmaBatchesSpec)

/-- ITS FALSE NEIGHBOUR: 'it returns false'. Refute it at one input. -/
def sigmaBatchesWrong : ChangeSpec := { name := "sigmaBatches", fn := fun _ => fun
  | [d1, d2] => { results := [.lit (.bool false)], args := [d1, d2] }
  | _ => none }
def SigmaBatchesWrongFalsely : Prop := sigmaBatchesRow.holds Tryz.pinned (OpenSpec.ofChange sigmaBatchesWrong)

/-- 'mintvaultlaw5.SigmaComplete': WHATEVER THE INPUT: true; the input reads as it did. -/
def sigmaCompleteSpec : ChangeSpec := { name := "sigmaComplete", fn := fun _ => fun
  | [d1, d2, d3] => { results := [.lit (.bool true)], args := [d1, d2, d3] }
  | _ => none }
def sigmaCompleteRow : OpenClaim := { program := "ytemcankmggmgoaagreat", sum := "0630bd1553d80840df5db9141635be1ad02efb3465eedb7c51503801b9c7db21", func := "mintvault/mintvaultlaw5.SigmaComplete", spec := "sigmaComplete", inPlace := ["math/bits.Add64", "math/bits.Sub64"], unfollowed := true, recurses := true, apart := false }
def SigmaCompleteSaid : Prop := sigmaCompleteRow.holds Tryz.pinned (OpenSpec.ofChange sigmaCompleteSpec)

/-- ITS FALSE NEIGHBOUR: 'it returns false'. Refute it at one input. -/
def sigmaCompleteWrong : ChangeSpec := { name := "sigmaComplete", fn := fun _ => fun
  | [d1, d2, d3] => { results := [.lit (.bool false)], args := [d1, d2, d3] }
  | _ => none }
def SigmaCompleteWrongFalsely : Prop := sigmaCompleteRow.holds Tryz.pinned (OpenSpec.ofChange sigmaCompleteWrong)

/-- 'mintvaultlaw7.BlindSigns': WHATEVER THE INPUT: true; the input reads as it did. -/
def blindSignsSpec : ChangeSpec := { name := "blindSigns", fn := fun _ => fun
  | [d1, d2, d3, d4, d5] => { results := [.lit (.bool true)], args := [d1, d2, d3, d4, d5] }
  | _ => none }
def blindSignsRow : OpenClaim := { program := "ytemcankmggmgoaagreat", sum := "0630bd1553d80840df5db9141635be1ad02efb3465eedb7c51503801b9c7db21", func := "mintvault/mintvaultlaw7.BlindSigns", spec := "blindSigns", inPlace := ["math/bits.Add64", "math/bits.Sub64"], unfollowed := true, recurses := true, apart := false }
def BlindSignsSaid : Prop := blindSignsRow.holds Tryz.pinned (OpenSpec.ofChange blindSignsSpec)

/-- ITS FALSE NEIGHBOUR: 'it returns false'. Refute it at one input. -/
def blindSignsWrong : ChangeSpec := { name := "blindSigns", fn := fun _ => fun
  | [d1, d2, d3, d4, d5] => { results := [.lit (.bool false)], args := [d1, d2, d3, d4, d5] }
  | _ => none }
def BlindSignsWrongFalsely : Prop := blindSignsRow.holds Tryz.pinned (OpenSpec.ofChange blindSignsWrong)

/-- 'mintvaultlaw7.BlindTrue': WHATEVER THE INPUT: true; the input reads as it did. -/
def blindTrueSpec : ChangeSpec := { name := "blindTrue", fn := fun _ => fun
  | [d1, d2, d3, d4] => { results := [.lit (.bool true)], args := [d1, d2, d3, d4] }
  | _ => none }
def blindTrueRow : OpenClaim := { program := "ytemcankmggmgoaagreat", sum := "0630bd1553d80840df5db9141635be1ad02efb3465eedb7c51503801b9c7db21", func := "mintvault/mintvaultlaw7.BlindTrue", spec := "blindTrue", inPlace := ["math/bits.Sub64", "math/bits.Add64"], unfollowed := true, recurses := true, apart := false }
def BlindTrueSaid : Prop := blindTrueRow.holds Tryz.pinned (OpenSpec.ofChange blindTrueSpec)

/-- ITS FALSE NEIGHBOUR: 'it returns false'. Refute it at one input. -/
def blindTrueWrong : ChangeSpec := { name := "blindTrue", fn := fun _ => fun
  | [d1, d2, d3, d4] => { results := [.lit (.bool false)], args := [d1, d2, d3, d4] }
  | _ => none }
def BlindTrueWrongFalsely : Prop := blindTrueRow.holds Tryz.pinned (OpenSpec.ofChange blindTrueWrong)

/-- 'mintvaultlaw7.BlindHides': WHATEVER THE INPUT: true; the input reads as it did. -/
def blindHidesSpec : ChangeSpec := { name := "blindHides", fn := fun _ => fun
  | [d1, d2] => { results := [.lit (.bool true)], args := [d1, d2] }
  | _ => none }
def blindHidesRow : OpenClaim := { program := "ytemcankmggmgoaagreat", sum := "0630bd1553d80840df5db9141635be1ad02efb3465eedb7c51503801b9c7db21", func := "mintvault/mintvaultlaw7.BlindHides", spec := "blindHides", inPlace := ["math/bits.Add64", "math/bits.Sub64"], unfollowed := true, recurses := true, apart := false }
def BlindHidesSaid : Prop := blindHidesRow.holds Tryz.pinned (OpenSpec.ofChange blindHidesSpec)

/-- ITS FALSE NEIGHBOUR: 'it returns false'. Refute it at one input. -/
def blindHidesWrong : ChangeSpec := { name := "blindHides", fn := fun _ => fun
  | [d1, d2] => { results := [.lit (.bool false)], args := [d1, d2] }
  | _ => none }
def BlindHidesWrongFalsely : Prop := blindHidesRow.holds Tryz.pinned (OpenSpec.ofChange blindHidesWrong)

/- THE SECOND FORM. 'bulk': how many values and letters a reading holds, each counted each time it is reached (what is shared counts as often as it is met; a slice's spare places count too). A statement '..UptoSaid' is the law's where the arguments, and the package variables that the reading takes, are together of bulk at most 1048576: NARROWER than '..Said'. Prove '..Said' where nothing that the law and all that it calls make is longer than what came in: it says more and counts as full. Else prove '..UptoSaid'. A law counts once. -/
mutual
def uptoBulk {H : Type} : DataW H → Nat
  | .lit (.string bytes) => bytes.length + 1
  | .lit _ => 1
  | .nil => 1
  | .ptr d => uptoBulk d + 1
  | .slice elems spare => uptoBulkAll elems + uptoBulkAll spare + 1
  | .agg parts => uptoBulkAll parts + 1
  | .iface _ d => uptoBulk d + 1
  | .map entries => uptoBulkEntries entries + 1
  | .held _ => 1
def uptoBulkAll {H : Type} : List (DataW H) → Nat
  | [] => 0
  | d :: r => uptoBulk d + uptoBulkAll r
def uptoBulkEntries {H : Type} : List (Lit × DataW H) → Nat
  | [] => 0
  | x :: r => uptoBulkEntry x + uptoBulkEntries r
def uptoBulkEntry {H : Type} : Lit × DataW H → Nat
  | (.string bytes, d) => bytes.length + uptoBulk d + 1
  | (_, d) => uptoBulk d + 1
 end
def uptoSmall : (H : Type) → List (DataW H) → Bool := fun _ ds => decide (uptoBulkAll ds ≤ 1048576)
def OpenSpec.upto (s : _root_.Go.ChangeSpec) : _root_.Go.OpenSpec := { _root_.Go.OpenSpec.ofChange s with cond := some uptoSmall }

/-- 'mintvaultlaw5.SigmaSigns', WHERE WHAT IT READS IS OF BULK AT MOST 1048576: true; the input reads as it did. -/
def sigmaSignsUptoRow : OpenClaim := { program := "ytemcankmggmgoaagreat", sum := "0630bd1553d80840df5db9141635be1ad02efb3465eedb7c51503801b9c7db21", func := "mintvault/mintvaultlaw5.SigmaSigns", spec := "sigmaSigns", inPlace := ["math/bits.Sub64", "math/bits.Add64"], unfollowed := true, recurses := true, apart := false, narrowed := true }
def SigmaSignsUptoSaid : Prop := sigmaSignsUptoRow.holds Tryz.pinned (OpenSpec.upto sigmaSignsSpec)

/-- 'mintvaultlaw5.SigmaVerifies', WHERE WHAT IT READS IS OF BULK AT MOST 1048576: true; the input reads as it did. -/
def sigmaVerifiesUptoRow : OpenClaim := { program := "ytemcankmggmgoaagreat", sum := "0630bd1553d80840df5db9141635be1ad02efb3465eedb7c51503801b9c7db21", func := "mintvault/mintvaultlaw5.SigmaVerifies", spec := "sigmaVerifies", inPlace := ["math/bits.Sub64", "math/bits.Add64"], unfollowed := true, recurses := true, apart := false, narrowed := true }
def SigmaVerifiesUptoSaid : Prop := sigmaVerifiesUptoRow.holds Tryz.pinned (OpenSpec.upto sigmaVerifiesSpec)

/-- 'mintvaultlaw5.SigmaOpens', WHERE WHAT IT READS IS OF BULK AT MOST 1048576: true; the input reads as it did. -/
def sigmaOpensUptoRow : OpenClaim := { program := "ytemcankmggmgoaagreat", sum := "0630bd1553d80840df5db9141635be1ad02efb3465eedb7c51503801b9c7db21", func := "mintvault/mintvaultlaw5.SigmaOpens", spec := "sigmaOpens", inPlace := ["math/bits.Sub64", "math/bits.Add64"], unfollowed := true, recurses := true, apart := false, narrowed := true }
def SigmaOpensUptoSaid : Prop := sigmaOpensUptoRow.holds Tryz.pinned (OpenSpec.upto sigmaOpensSpec)

/-- 'mintvaultlaw5.SigmaSame', WHERE WHAT IT READS IS OF BULK AT MOST 1048576: true; the input reads as it did. -/
def sigmaSameUptoRow : OpenClaim := { program := "ytemcankmggmgoaagreat", sum := "0630bd1553d80840df5db9141635be1ad02efb3465eedb7c51503801b9c7db21", func := "mintvault/mintvaultlaw5.SigmaSame", spec := "sigmaSame", inPlace := ["math/bits.Sub64", "math/bits.Add64"], unfollowed := true, recurses := true, apart := false, narrowed := true }
def SigmaSameUptoSaid : Prop := sigmaSameUptoRow.holds Tryz.pinned (OpenSpec.upto sigmaSameSpec)

/-- 'mintvaultlaw5.SigmaBatches', WHERE WHAT IT READS IS OF BULK AT MOST 1048576: true; the input reads as it did. -/
def sigmaBatchesUptoRow : OpenClaim := { program := "ytemcankmggmgoaagreat", sum := "0630bd1553d80840df5db9141635be1ad02efb3465eedb7c51503801b9c7db21", func := "mintvault/mintvaultlaw5.SigmaBatches", spec := "sigmaBatches", inPlace := ["math/bits.Add64", "math/bits.Sub64"], unfollowed := true, recurses := true, apart := false, narrowed := true }
def SigmaBatchesUptoSaid : Prop := sigmaBatchesUptoRow.holds Tryz.pinned (OpenSpec.upto sigmaBatchesSpec)

/-- 'mintvaultlaw5.SigmaComplete', WHERE WHAT IT READS IS OF BULK AT MOST 1048576: true; the input reads as it did. -/
def sigmaCompleteUptoRow : OpenClaim := { program := "ytemcankmggmgoaagreat", sum := "0630bd1553d80840df5db9141635be1ad02efb3465eedb7c51503801b9c7db21", func := "mintvault/mintvaultlaw5.SigmaComplete", spec := "sigmaComplete", inPlace := ["math/bits.Add64", "math/bits.Sub64"], unfollowed := true, recurses := true, apart := false, narrowed := true }
def SigmaCompleteUptoSaid : Prop := sigmaCompleteUptoRow.holds Tryz.pinned (OpenSpec.upto sigmaCompleteSpec)

/-- 'mintvaultlaw7.BlindSigns', WHERE WHAT IT READS IS OF BULK AT MOST 1048576: true; the input reads as it did. -/
def blindSignsUptoRow : OpenClaim := { program := "ytemcankmggmgoaagreat", sum := "0630bd1553d80840df5db9141635be1ad02efb3465eedb7c51503801b9c7db21", func := "mintvault/mintvaultlaw7.BlindSigns", spec := "blindSigns", inPlace := ["math/bits.Add64", "math/bits.Sub64"], unfollowed := true, recurses := true, apart := false, narrowed := true }
def BlindSignsUptoSaid : Prop := blindSignsUptoRow.holds Tryz.pinned (OpenSpec.upto blindSignsSpec)

/-- 'mintvaultlaw7.BlindTrue', WHERE WHAT IT READS IS OF BULK AT MOST 1048576: true; the input reads as it did. -/
def blindTrueUptoRow : OpenClaim := { program := "ytemcankmggmgoaagreat", sum := "0630bd1553d80840df5db9141635be1ad02efb3465eedb7c51503801b9c7db21", func := "mintvault/mintvaultlaw7.BlindTrue", spec := "blindTrue", inPlace := ["math/bits.Sub64", "math/bits.Add64"], unfollowed := true, recurses := true, apart := false, narrowed := true }
def BlindTrueUptoSaid : Prop := blindTrueUptoRow.holds Tryz.pinned (OpenSpec.upto blindTrueSpec)

/-- 'mintvaultlaw7.BlindHides', WHERE WHAT IT READS IS OF BULK AT MOST 1048576: true; the input reads as it did. -/
def blindHidesUptoRow : OpenClaim := { program := "ytemcankmggmgoaagreat", sum := "0630bd1553d80840df5db9141635be1ad02efb3465eedb7c51503801b9c7db21", func := "mintvault/mintvaultlaw7.BlindHides", spec := "blindHides", inPlace := ["math/bits.Add64", "math/bits.Sub64"], unfollowed := true, recurses := true, apart := false, narrowed := true }
def BlindHidesUptoSaid : Prop := blindHidesUptoRow.holds Tryz.pinned (OpenSpec.upto blindHidesSpec)

end Rows
end Go.Proofs.YtemcankmggmgoaaGreat
