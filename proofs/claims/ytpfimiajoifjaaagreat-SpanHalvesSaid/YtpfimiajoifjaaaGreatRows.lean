/-
  No cell of these rows narrows 'for every input' (looked for: loops, veiled, ifaces, maps, wideKeys, modest, calm, conditions, laid).
  DERIVED. THE GIVEN ROWS OF THIS SEAT. 9 by the template 'for every input the law returns true; each argument reads behind the call as it read before'; 0 by the template 'total and deterministic' (their statements: YtpfimiajoifjaaaGreatTotals.lean).
  GIVEN WITH THE SEED: the statements are not yours to turn. If you find one false, say at which input.
  Laid BY PROGRAM, IN A SANDBOX (cutbox-rows.mjs): the forced cells as the released guide's own fill.sh prints them over the translation af9667868a953b27… (all of the seat's roots in one cut). By AI agents, Wed Nov 11 2026. No macro, syntax, notation, axiom, sorry.
-/
import Derived.Test.YtpfimiajoifjaaaGreatChecked
import GoSem.Claim
import GoSem.ClaimJoined
import GoSem.ClaimMapViews
import Derived.JoinedTies
import Derived.KernelRfl
namespace Go.Proofs.YtpfimiajoifjaaaGreat
/- THE CELL 'sum', in the pinned program and in every row, IS THE sha256 OF THE DUMP (.gsa) THAT YtpfimiajoifjaaaGreatProg.lean LOADS. Nothing in Lean hashes anything: it is a label: what it is worth is what the hold of that sum in a sandbox is worth. -/
noncomputable def Tryz.pinned : Pinned := { name := "ytpfimiajoifjaaagreat", sum := "af9667868a953b275b2326a5625e000050a1c8b4475b4e4642116d8892fb38d4", checked := Tryz.checked }
namespace Rows
def none {H : Type} : Left H := { results := [], args := [] }

/-- 'mintvaultlaw6.SpanProducts': WHATEVER THE INPUT: true; the input reads as it did. -/
def spanProductsSpec : ChangeSpec := { name := "spanProducts", fn := fun _ => fun
  | [d1, d2, d3] => { results := [.lit (.bool true)], args := [d1, d2, d3] }
  | _ => none }
def spanProductsRow : OpenClaim := { program := "ytpfimiajoifjaaagreat", sum := "af9667868a953b275b2326a5625e000050a1c8b4475b4e4642116d8892fb38d4", func := "mintvault/mintvaultlaw6.SpanProducts", spec := "spanProducts", inPlace := ["math/bits.Sub64", "math/bits.Add64"], unfollowed := true, recurses := true, apart := false }
def SpanProductsSaid : Prop := spanProductsRow.holds Tryz.pinned (OpenSpec.ofChange spanProductsSpec)

/-- ITS FALSE NEIGHBOUR: 'it returns false'. Refute it at one input. -/
def spanProductsWrong : ChangeSpec := { name := "spanProducts", fn := fun _ => fun
  | [d1, d2, d3] => { results := [.lit (.bool false)], args := [d1, d2, d3] }
  | _ => none }
def SpanProductsWrongFalsely : Prop := spanProductsRow.holds Tryz.pinned (OpenSpec.ofChange spanProductsWrong)

/-- 'mintvaultlaw6.SpanLooks': WHATEVER THE INPUT: true; the input reads as it did. -/
def spanLooksSpec : ChangeSpec := { name := "spanLooks", fn := fun _ => fun
  | [d1, d2, d3, d4] => { results := [.lit (.bool true)], args := [d1, d2, d3, d4] }
  | _ => none }
def spanLooksRow : OpenClaim := { program := "ytpfimiajoifjaaagreat", sum := "af9667868a953b275b2326a5625e000050a1c8b4475b4e4642116d8892fb38d4", func := "mintvault/mintvaultlaw6.SpanLooks", spec := "spanLooks", inPlace := ["math/bits.Add64", "math/bits.Sub64"], unfollowed := true, recurses := true, apart := false }
def SpanLooksSaid : Prop := spanLooksRow.holds Tryz.pinned (OpenSpec.ofChange spanLooksSpec)

/-- ITS FALSE NEIGHBOUR: 'it returns false'. Refute it at one input. -/
def spanLooksWrong : ChangeSpec := { name := "spanLooks", fn := fun _ => fun
  | [d1, d2, d3, d4] => { results := [.lit (.bool false)], args := [d1, d2, d3, d4] }
  | _ => none }
def SpanLooksWrongFalsely : Prop := spanLooksRow.holds Tryz.pinned (OpenSpec.ofChange spanLooksWrong)

/-- 'mintvaultlaw6.SpanHalves': WHATEVER THE INPUT: true; the input reads as it did. -/
def spanHalvesSpec : ChangeSpec := { name := "spanHalves", fn := fun _ => fun
  | [d1, d2, d3, d4] => { results := [.lit (.bool true)], args := [d1, d2, d3, d4] }
  | _ => none }
def spanHalvesRow : OpenClaim := { program := "ytpfimiajoifjaaagreat", sum := "af9667868a953b275b2326a5625e000050a1c8b4475b4e4642116d8892fb38d4", func := "mintvault/mintvaultlaw6.SpanHalves", spec := "spanHalves", inPlace := ["math/bits.Sub64", "math/bits.Add64"], unfollowed := true, recurses := true, apart := false }
def SpanHalvesSaid : Prop := spanHalvesRow.holds Tryz.pinned (OpenSpec.ofChange spanHalvesSpec)

/-- ITS FALSE NEIGHBOUR: 'it returns false'. Refute it at one input. -/
def spanHalvesWrong : ChangeSpec := { name := "spanHalves", fn := fun _ => fun
  | [d1, d2, d3, d4] => { results := [.lit (.bool false)], args := [d1, d2, d3, d4] }
  | _ => none }
def SpanHalvesWrongFalsely : Prop := spanHalvesRow.holds Tryz.pinned (OpenSpec.ofChange spanHalvesWrong)

/-- 'mintvaultlaw6.SpanProves': WHATEVER THE INPUT: true; the input reads as it did. -/
def spanProvesSpec : ChangeSpec := { name := "spanProves", fn := fun _ => fun
  | [d1, d2, d3, d4] => { results := [.lit (.bool true)], args := [d1, d2, d3, d4] }
  | _ => none }
def spanProvesRow : OpenClaim := { program := "ytpfimiajoifjaaagreat", sum := "af9667868a953b275b2326a5625e000050a1c8b4475b4e4642116d8892fb38d4", func := "mintvault/mintvaultlaw6.SpanProves", spec := "spanProves", inPlace := ["math/bits.Sub64", "math/bits.Add64"], unfollowed := true, recurses := true, apart := false }
def SpanProvesSaid : Prop := spanProvesRow.holds Tryz.pinned (OpenSpec.ofChange spanProvesSpec)

/-- ITS FALSE NEIGHBOUR: 'it returns false'. Refute it at one input. -/
def spanProvesWrong : ChangeSpec := { name := "spanProves", fn := fun _ => fun
  | [d1, d2, d3, d4] => { results := [.lit (.bool false)], args := [d1, d2, d3, d4] }
  | _ => none }
def SpanProvesWrongFalsely : Prop := spanProvesRow.holds Tryz.pinned (OpenSpec.ofChange spanProvesWrong)

/-- 'mintvaultlaw6.SpanVerifies': WHATEVER THE INPUT: true; the input reads as it did. -/
def spanVerifiesSpec : ChangeSpec := { name := "spanVerifies", fn := fun _ => fun
  | [d1, d2, d3] => { results := [.lit (.bool true)], args := [d1, d2, d3] }
  | _ => none }
def spanVerifiesRow : OpenClaim := { program := "ytpfimiajoifjaaagreat", sum := "af9667868a953b275b2326a5625e000050a1c8b4475b4e4642116d8892fb38d4", func := "mintvault/mintvaultlaw6.SpanVerifies", spec := "spanVerifies", inPlace := ["math/bits.Sub64", "math/bits.Add64"], unfollowed := true, recurses := true, apart := false }
def SpanVerifiesSaid : Prop := spanVerifiesRow.holds Tryz.pinned (OpenSpec.ofChange spanVerifiesSpec)

/-- ITS FALSE NEIGHBOUR: 'it returns false'. Refute it at one input. -/
def spanVerifiesWrong : ChangeSpec := { name := "spanVerifies", fn := fun _ => fun
  | [d1, d2, d3] => { results := [.lit (.bool false)], args := [d1, d2, d3] }
  | _ => none }
def SpanVerifiesWrongFalsely : Prop := spanVerifiesRow.holds Tryz.pinned (OpenSpec.ofChange spanVerifiesWrong)

/-- 'mintvaultlaw6.SpanTrue': WHATEVER THE INPUT: true; the input reads as it did. -/
def spanTrueSpec : ChangeSpec := { name := "spanTrue", fn := fun _ => fun
  | [d1, d2, d3, d4] => { results := [.lit (.bool true)], args := [d1, d2, d3, d4] }
  | _ => none }
def spanTrueRow : OpenClaim := { program := "ytpfimiajoifjaaagreat", sum := "af9667868a953b275b2326a5625e000050a1c8b4475b4e4642116d8892fb38d4", func := "mintvault/mintvaultlaw6.SpanTrue", spec := "spanTrue", inPlace := ["math/bits.Sub64", "math/bits.Add64"], unfollowed := true, recurses := true, apart := false }
def SpanTrueSaid : Prop := spanTrueRow.holds Tryz.pinned (OpenSpec.ofChange spanTrueSpec)

/-- ITS FALSE NEIGHBOUR: 'it returns false'. Refute it at one input. -/
def spanTrueWrong : ChangeSpec := { name := "spanTrue", fn := fun _ => fun
  | [d1, d2, d3, d4] => { results := [.lit (.bool false)], args := [d1, d2, d3, d4] }
  | _ => none }
def SpanTrueWrongFalsely : Prop := spanTrueRow.holds Tryz.pinned (OpenSpec.ofChange spanTrueWrong)

/-- 'mintvaultlaw13.AuditChecks': WHATEVER THE INPUT: true; the input reads as it did. -/
def auditChecksSpec : ChangeSpec := { name := "auditChecks", fn := fun _ => fun
  | [d1, d2] => { results := [.lit (.bool true)], args := [d1, d2] }
  | _ => none }
def auditChecksRow : OpenClaim := { program := "ytpfimiajoifjaaagreat", sum := "af9667868a953b275b2326a5625e000050a1c8b4475b4e4642116d8892fb38d4", func := "mintvault/mintvaultlaw13.AuditChecks", spec := "auditChecks", inPlace := ["math/bits.Sub64", "math/bits.Add64"], unfollowed := true, recurses := true, apart := false }
def AuditChecksSaid : Prop := auditChecksRow.holds Tryz.pinned (OpenSpec.ofChange auditChecksSpec)

/-- ITS FALSE NEIGHBOUR: 'it returns false'. Refute it at one input. -/
def auditChecksWrong : ChangeSpec := { name := "auditChecks", fn := fun _ => fun
  | [d1, d2] => { results := [.lit (.bool false)], args := [d1, d2] }
  | _ => none }
def AuditChecksWrongFalsely : Prop := auditChecksRow.holds Tryz.pinned (OpenSpec.ofChange auditChecksWrong)

/-- 'mintvaultlaw13.AuditCloses': WHATEVER THE INPUT: true; the input reads as it did. -/
def auditClosesSpec : ChangeSpec := { name := "auditCloses", fn := fun _ => fun
  | [d1, d2] => { results := [.lit (.bool true)], args := [d1, d2] }
  | _ => none }
def auditClosesRow : OpenClaim := { program := "ytpfimiajoifjaaagreat", sum := "af9667868a953b275b2326a5625e000050a1c8b4475b4e4642116d8892fb38d4", func := "mintvault/mintvaultlaw13.AuditCloses", spec := "auditCloses", inPlace := ["math/bits.Sub64", "math/bits.Add64"], unfollowed := true, recurses := true, apart := false }
def AuditClosesSaid : Prop := auditClosesRow.holds Tryz.pinned (OpenSpec.ofChange auditClosesSpec)

/-- ITS FALSE NEIGHBOUR: 'it returns false'. Refute it at one input. -/
def auditClosesWrong : ChangeSpec := { name := "auditCloses", fn := fun _ => fun
  | [d1, d2] => { results := [.lit (.bool false)], args := [d1, d2] }
  | _ => none }
def AuditClosesWrongFalsely : Prop := auditClosesRow.holds Tryz.pinned (OpenSpec.ofChange auditClosesWrong)

/-- 'mintvaultlaw13.AuditEntries': WHATEVER THE INPUT: true; the input reads as it did. -/
def auditEntriesSpec : ChangeSpec := { name := "auditEntries", fn := fun _ => fun
  | [d1, d2, d3, d4] => { results := [.lit (.bool true)], args := [d1, d2, d3, d4] }
  | _ => none }
def auditEntriesRow : OpenClaim := { program := "ytpfimiajoifjaaagreat", sum := "af9667868a953b275b2326a5625e000050a1c8b4475b4e4642116d8892fb38d4", func := "mintvault/mintvaultlaw13.AuditEntries", spec := "auditEntries", inPlace := ["math/bits.Sub64", "math/bits.Add64"], unfollowed := true, recurses := true, apart := false }
def AuditEntriesSaid : Prop := auditEntriesRow.holds Tryz.pinned (OpenSpec.ofChange auditEntriesSpec)

/-- ITS FALSE NEIGHBOUR: 'it returns false'. Refute it at one input. -/
def auditEntriesWrong : ChangeSpec := { name := "auditEntries", fn := fun _ => fun
  | [d1, d2, d3, d4] => { results := [.lit (.bool false)], args := [d1, d2, d3, d4] }
  | _ => none }
def AuditEntriesWrongFalsely : Prop := auditEntriesRow.holds Tryz.pinned (OpenSpec.ofChange auditEntriesWrong)

/- THE SECOND FORM. 'bulk': how many values and letters a reading holds, each counted each time it is reached (what is shared counts as often as it is met; a slice's spare places count too). A statement '..UptoSaid' is the law's where the arguments, and the package variables that the reading takes, are together of bulk at most 1048576: NARROWER than '..Said'. Prove '..Said' where nothing that the law and all that it calls make is longer than what came in: it says more and counts as full. Else prove '..UptoSaid'. A law counts once. -/
mutual
def uptoBulk {H : Type} : DataW H → Nat
  | .lit (.string bytes) => bytes.length + 1
  | .lit _ => 1
  | .nil => 1
  | .ptr d => uptoBulk d + 1
  | .slice elems spare => uptoBulkAll elems + uptoBulkAll spare + 1
  | .agg parts => uptoBulkAll parts + 1
  | .iface _ d => uptoBulk d + 1
  | .map entries => uptoBulkEntries entries + 1
  | .held _ => 1
def uptoBulkAll {H : Type} : List (DataW H) → Nat
  | [] => 0
  | d :: r => uptoBulk d + uptoBulkAll r
def uptoBulkEntries {H : Type} : List (Lit × DataW H) → Nat
  | [] => 0
  | x :: r => uptoBulkEntry x + uptoBulkEntries r
def uptoBulkEntry {H : Type} : Lit × DataW H → Nat
  | (.string bytes, d) => bytes.length + uptoBulk d + 1
  | (_, d) => uptoBulk d + 1
 end
def uptoSmall : (H : Type) → List (DataW H) → Bool := fun _ ds => decide (uptoBulkAll ds ≤ 1048576)
def OpenSpec.upto (s : _root_.Go.ChangeSpec) : _root_.Go.OpenSpec := { _root_.Go.OpenSpec.ofChange s with cond := some uptoSmall }

/-- 'mintvaultlaw6.SpanProducts', WHERE WHAT IT READS IS OF BULK AT MOST 1048576: true; the input reads as it did. -/
def spanProductsUptoRow : OpenClaim := { program := "ytpfimiajoifjaaagreat", sum := "af9667868a953b275b2326a5625e000050a1c8b4475b4e4642116d8892fb38d4", func := "mintvault/mintvaultlaw6.SpanProducts", spec := "spanProducts", inPlace := ["math/bits.Sub64", "math/bits.Add64"], unfollowed := true, recurses := true, apart := false, narrowed := true }
def SpanProductsUptoSaid : Prop := spanProductsUptoRow.holds Tryz.pinned (OpenSpec.upto spanProductsSpec)

/-- 'mintvaultlaw6.SpanLooks', WHERE WHAT IT READS IS OF BULK AT MOST 1048576: true; the input reads as it did. -/
def spanLooksUptoRow : OpenClaim := { program := "ytpfimiajoifjaaagreat", sum := "af9667868a953b275b2326a5625e000050a1c8b4475b4e4642116d8892fb38d4", func := "mintvault/mintvaultlaw6.SpanLooks", spec := "spanLooks", inPlace := ["math/bits.Add64", "math/bits.Sub64"], unfollowed := true, recurses := true, apart := false, narrowed := true }
def SpanLooksUptoSaid : Prop := spanLooksUptoRow.holds Tryz.pinned (OpenSpec.upto spanLooksSpec)

/-- 'mintvaultlaw6.SpanHalves', WHERE WHAT IT READS IS OF BULK AT MOST 1048576: true; the input reads as it did. -/
def spanHalvesUptoRow : OpenClaim := { program := "ytpfimiajoifjaaagreat", sum := "af9667868a953b275b2326a5625e000050a1c8b4475b4e4642116d8892fb38d4", func := "mintvault/mintvaultlaw6.SpanHalves", spec := "spanHalves", inPlace := ["math/bits.Sub64", "math/bits.Add64"], unfollowed := true, recurses := true, apart := false, narrowed := true }
def SpanHalvesUptoSaid : Prop := spanHalvesUptoRow.holds Tryz.pinned (OpenSpec.upto spanHalvesSpec)

/-- 'mintvaultlaw6.SpanProves', WHERE WHAT IT READS IS OF BULK AT MOST 1048576: true; the input reads as it did. -/
def spanProvesUptoRow : OpenClaim := { program := "ytpfimiajoifjaaagreat", sum := "af9667868a953b275b2326a5625e000050a1c8b4475b4e4642116d8892fb38d4", func := "mintvault/mintvaultlaw6.SpanProves", spec := "spanProves", inPlace := ["math/bits.Sub64", "math/bits.Add64"], unfollowed := true, recurses := true, apart := false, narrowed := true }
def SpanProvesUptoSaid : Prop := spanProvesUptoRow.holds Tryz.pinned (OpenSpec.upto spanProvesSpec)

/-- 'mintvaultlaw6.SpanVerifies', WHERE WHAT IT READS IS OF BULK AT MOST 1048576: true; the input reads as it did. -/
def spanVerifiesUptoRow : OpenClaim := { program := "ytpfimiajoifjaaagreat", sum := "af9667868a953b275b2326a5625e000050a1c8b4475b4e4642116d8892fb38d4", func := "mintvault/mintvaultlaw6.SpanVerifies", spec := "spanVerifies", inPlace := ["math/bits.Sub64", "math/bits.Add64"], unfollowed := true, recurses := true, apart := false, narrowed := true }
def SpanVerifiesUptoSaid : Prop := spanVerifiesUptoRow.holds Tryz.pinned (OpenSpec.upto spanVerifiesSpec)

/-- 'mintvaultlaw6.SpanTrue', WHERE WHAT IT READS IS OF BULK AT MOST 1048576: true; the input reads as it did. -/
def spanTrueUptoRow : OpenClaim := { program := "ytpfimiajoifjaaagreat", sum := "af9667868a953b275b2326a5625e000050a1c8b4475b4e4642116d8892fb38d4", func := "mintvault/mintvaultlaw6.SpanTrue", spec := "spanTrue", inPlace := ["math/bits.Sub64", "math/bits.Add64"], unfollowed := true, recurses := true, apart := false, narrowed := true }
def SpanTrueUptoSaid : Prop := spanTrueUptoRow.holds Tryz.pinned (OpenSpec.upto spanTrueSpec)

/-- 'mintvaultlaw13.AuditChecks', WHERE WHAT IT READS IS OF BULK AT MOST 1048576: true; the input reads as it did. -/
def auditChecksUptoRow : OpenClaim := { program := "ytpfimiajoifjaaagreat", sum := "af9667868a953b275b2326a5625e000050a1c8b4475b4e4642116d8892fb38d4", func := "mintvault/mintvaultlaw13.AuditChecks", spec := "auditChecks", inPlace := ["math/bits.Sub64", "math/bits.Add64"], unfollowed := true, recurses := true, apart := false, narrowed := true }
def AuditChecksUptoSaid : Prop := auditChecksUptoRow.holds Tryz.pinned (OpenSpec.upto auditChecksSpec)

/-- 'mintvaultlaw13.AuditCloses', WHERE WHAT IT READS IS OF BULK AT MOST 1048576: true; the input reads as it did. -/
def auditClosesUptoRow : OpenClaim := { program := "ytpfimiajoifjaaagreat", sum := "af9667868a953b275b2326a5625e000050a1c8b4475b4e4642116d8892fb38d4", func := "mintvault/mintvaultlaw13.AuditCloses", spec := "auditCloses", inPlace := ["math/bits.Sub64", "math/bits.Add64"], unfollowed := true, recurses := true, apart := false, narrowed := true }
def AuditClosesUptoSaid : Prop := auditClosesUptoRow.holds Tryz.pinned (OpenSpec.upto auditClosesSpec)

/-- 'mintvaultlaw13.AuditEntries', WHERE WHAT IT READS IS OF BULK AT MOST 1048576: true; the input reads as it did. -/
def auditEntriesUptoRow : OpenClaim := { program := "ytpfimiajoifjaaagreat", sum := "af9667868a953b275b2326a5625e000050a1c8b4475b4e4642116d8892fb38d4", func := "mintvault/mintvaultlaw13.AuditEntries", spec := "auditEntries", inPlace := ["math/bits.Sub64", "math/bits.Add64"], unfollowed := true, recurses := true, apart := false, narrowed := true }
def AuditEntriesUptoSaid : Prop := auditEntriesUptoRow.holds Tryz.pinned (OpenSpec.upto auditEntriesSpec)

end Rows
end Go.Proofs.YtpfimiajoifjaaaGreat
