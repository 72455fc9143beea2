/-
  No cell of these rows narrows 'for every input' (looked for: loops, veiled, ifaces, maps, wideKeys, modest, calm, conditions, laid).
  DERIVED. THE GIVEN ROWS OF THIS SEAT. 5 by the template 'for every input the law returns true; each argument reads behind the call as it read before'; 0 by the template 'total and deterministic' (their statements: YtnooojkhnpcolaaTotals.lean).
  GIVEN WITH THE SEED: the statements are not yours to turn. If you find one false, say at which input.
  Laid BY PROGRAM, IN A SANDBOX (cutbox-rows.mjs): the forced cells as the released guide's own fill.sh prints them over the translation 60c0897c08003f59… (all of the seat's roots in one cut). By AI agents, Wed Nov 11 2026. No macro, syntax, notation, axiom, sorry.
-/
import Derived.Test.YtnooojkhnpcolaaChecked
import GoSem.Claim
import GoSem.ClaimJoined
import GoSem.ClaimMapViews
import Derived.JoinedTies
import Derived.KernelRfl
namespace Go.Proofs.Ytnooojkhnpcolaa
/- THE CELL 'sum', in the pinned program and in every row, IS THE sha256 OF THE DUMP (.gsa) THAT YtnooojkhnpcolaaProg.lean LOADS. Nothing in Lean hashes anything: it is a label: what it is worth is what the hold of that sum in a sandbox is worth. -/
noncomputable def Try.pinned : Pinned := { name := "ytnooojkhnpcolaa", sum := "60c0897c08003f599d3c96603e4f3a33d98d0d283326bfdad0d86b9b51dee1c0", checked := Try.checked }
namespace Rows
def none {H : Type} : Left H := { results := [], args := [] }

/-- 'mintvaultlaw6.SpanPuts': WHATEVER THE INPUT: true; the input reads as it did. -/
def spanPutsSpec : ChangeSpec := { name := "spanPuts", fn := fun _ => fun
  | [d1, d2] => { results := [.lit (.bool true)], args := [d1, d2] }
  | _ => none }
def spanPutsRow : OpenClaim := { program := "ytnooojkhnpcolaa", sum := "60c0897c08003f599d3c96603e4f3a33d98d0d283326bfdad0d86b9b51dee1c0", func := "mintvault/mintvaultlaw6.SpanPuts", spec := "spanPuts", unfollowed := true, recurses := true, apart := false }
def SpanPutsSaid : Prop := spanPutsRow.holds Try.pinned (OpenSpec.ofChange spanPutsSpec)

/-- ITS FALSE NEIGHBOUR: 'it returns false'. Refute it at one input. -/
def spanPutsWrong : ChangeSpec := { name := "spanPuts", fn := fun _ => fun
  | [d1, d2] => { results := [.lit (.bool false)], args := [d1, d2] }
  | _ => none }
def SpanPutsWrongFalsely : Prop := spanPutsRow.holds Try.pinned (OpenSpec.ofChange spanPutsWrong)

/-- 'mintvaultlaw5.SigmaExtracts': WHATEVER THE INPUT: true; the input reads as it did. -/
def sigmaExtractsSpec : ChangeSpec := { name := "sigmaExtracts", fn := fun _ => fun
  | [d1, d2, d3, d4] => { results := [.lit (.bool true)], args := [d1, d2, d3, d4] }
  | _ => none }
def sigmaExtractsRow : OpenClaim := { program := "ytnooojkhnpcolaa", sum := "60c0897c08003f599d3c96603e4f3a33d98d0d283326bfdad0d86b9b51dee1c0", func := "mintvault/mintvaultlaw5.SigmaExtracts", spec := "sigmaExtracts", inPlace := ["math/bits.Sub64", "math/bits.Add64"], apart := false }
def SigmaExtractsSaid : Prop := sigmaExtractsRow.holds Try.pinned (OpenSpec.ofChange sigmaExtractsSpec)

/-- ITS FALSE NEIGHBOUR: 'it returns false'. Refute it at one input. -/
def sigmaExtractsWrong : ChangeSpec := { name := "sigmaExtracts", fn := fun _ => fun
  | [d1, d2, d3, d4] => { results := [.lit (.bool false)], args := [d1, d2, d3, d4] }
  | _ => none }
def SigmaExtractsWrongFalsely : Prop := sigmaExtractsRow.holds Try.pinned (OpenSpec.ofChange sigmaExtractsWrong)

/-- 'mintvaultlaw9.KeysDerive': WHATEVER THE INPUT: true; the input reads as it did. -/
def keysDeriveSpec : ChangeSpec := { name := "keysDerive", fn := fun _ => fun
  | [d1, d2, d3] => { results := [.lit (.bool true)], args := [d1, d2, d3] }
  | _ => none }
def keysDeriveRow : OpenClaim := { program := "ytnooojkhnpcolaa", sum := "60c0897c08003f599d3c96603e4f3a33d98d0d283326bfdad0d86b9b51dee1c0", func := "mintvault/mintvaultlaw9.KeysDerive", spec := "keysDerive", inPlace := ["math/bits.Sub64", "math/bits.Add64"], apart := false }
def KeysDeriveSaid : Prop := keysDeriveRow.holds Try.pinned (OpenSpec.ofChange keysDeriveSpec)

/-- ITS FALSE NEIGHBOUR: 'it returns false'. Refute it at one input. -/
def keysDeriveWrong : ChangeSpec := { name := "keysDerive", fn := fun _ => fun
  | [d1, d2, d3] => { results := [.lit (.bool false)], args := [d1, d2, d3] }
  | _ => none }
def KeysDeriveWrongFalsely : Prop := keysDeriveRow.holds Try.pinned (OpenSpec.ofChange keysDeriveWrong)

/-- 'mintvaultlaw10.StorePlays': WHATEVER THE INPUT: true; the input reads as it did. -/
def storePlaysSpec : ChangeSpec := { name := "storePlays", fn := fun _ => fun
  | [d1, d2] => { results := [.lit (.bool true)], args := [d1, d2] }
  | _ => none }
def storePlaysRow : OpenClaim := { program := "ytnooojkhnpcolaa", sum := "60c0897c08003f599d3c96603e4f3a33d98d0d283326bfdad0d86b9b51dee1c0", func := "mintvault/mintvaultlaw10.StorePlays", spec := "storePlays", unfollowed := true, recurses := true, apart := false }
def StorePlaysSaid : Prop := storePlaysRow.holds Try.pinned (OpenSpec.ofChange storePlaysSpec)

/-- ITS FALSE NEIGHBOUR: 'it returns false'. Refute it at one input. -/
def storePlaysWrong : ChangeSpec := { name := "storePlays", fn := fun _ => fun
  | [d1, d2] => { results := [.lit (.bool false)], args := [d1, d2] }
  | _ => none }
def StorePlaysWrongFalsely : Prop := storePlaysRow.holds Try.pinned (OpenSpec.ofChange storePlaysWrong)

/-- 'mintvaultlaw10.StoreTrue': WHATEVER THE INPUT: true; the input reads as it did. -/
def storeTrueSpec : ChangeSpec := { name := "storeTrue", fn := fun _ => fun
  | [d1, d2, d3] => { results := [.lit (.bool true)], args := [d1, d2, d3] }
  | _ => none }
def storeTrueRow : OpenClaim := { program := "ytnooojkhnpcolaa", sum := "60c0897c08003f599d3c96603e4f3a33d98d0d283326bfdad0d86b9b51dee1c0", func := "mintvault/mintvaultlaw10.StoreTrue", spec := "storeTrue", unfollowed := true, recurses := true, apart := false }
def StoreTrueSaid : Prop := storeTrueRow.holds Try.pinned (OpenSpec.ofChange storeTrueSpec)

/-- ITS FALSE NEIGHBOUR: 'it returns false'. Refute it at one input. -/
def storeTrueWrong : ChangeSpec := { name := "storeTrue", fn := fun _ => fun
  | [d1, d2, d3] => { results := [.lit (.bool false)], args := [d1, d2, d3] }
  | _ => none }
def StoreTrueWrongFalsely : Prop := storeTrueRow.holds Try.pinned (OpenSpec.ofChange storeTrueWrong)

/- THE SECOND FORM. 'bulk': how many values and letters a reading holds, each counted each time it is reached (what is shared counts as often as it is met; a slice's spare places count too). A statement '..UptoSaid' is the law's where the arguments, and the package variables that the reading takes, are together of bulk at most 1048576: NARROWER than '..Said'. Prove '..Said' where nothing that the law and all that it calls make is longer than what came in: it says more and counts as full. Else prove '..UptoSaid'. A law counts once. -/
mutual
def uptoBulk {H : Type} : DataW H → Nat
  | .lit (.string bytes) => bytes.length + 1
  | .lit _ => 1
  | .nil => 1
  | .ptr d => uptoBulk d + 1
  | .slice elems spare => uptoBulkAll elems + uptoBulkAll spare + 1
  | .agg parts => uptoBulkAll parts + 1
  | .iface _ d => uptoBulk d + 1
  | .map entries => uptoBulkEntries entries + 1
  | .held _ => 1
def uptoBulkAll {H : Type} : List (DataW H) → Nat
  | [] => 0
  | d :: r => uptoBulk d + uptoBulkAll r
def uptoBulkEntries {H : Type} : List (Lit × DataW H) → Nat
  | [] => 0
  | x :: r => uptoBulkEntry x + uptoBulkEntries r
def uptoBulkEntry {H : Type} : Lit × DataW H → Nat
  | (.string bytes, d) => bytes.length + uptoBulk d + 1
  | (_, d) => uptoBulk d + 1
 end
def uptoSmall : (H : Type) → List (DataW H) → Bool := fun _ ds => decide (uptoBulkAll ds ≤ 1048576)
def OpenSpec.upto (s : _root_.Go.ChangeSpec) : _root_.Go.OpenSpec := { _root_.Go.OpenSpec.ofChange s with cond := some uptoSmall }

/-- 'mintvaultlaw6.SpanPuts', WHERE WHAT IT READS IS OF BULK AT MOST 1048576: true; the input reads as it did. -/
def spanPutsUptoRow : OpenClaim := { program := "ytnooojkhnpcolaa", sum := "60c0897c08003f599d3c96603e4f3a33d98d0d283326bfdad0d86b9b51dee1c0", func := "mintvault/mintvaultlaw6.SpanPuts", spec := "spanPuts", unfollowed := true, recurses := true, apart := false, narrowed := true }
def SpanPutsUptoSaid : Prop := spanPutsUptoRow.holds Try.pinned (OpenSpec.upto spanPutsSpec)

/-- 'mintvaultlaw5.SigmaExtracts', WHERE WHAT IT READS IS OF BULK AT MOST 1048576: true; the input reads as it did. -/
def sigmaExtractsUptoRow : OpenClaim := { program := "ytnooojkhnpcolaa", sum := "60c0897c08003f599d3c96603e4f3a33d98d0d283326bfdad0d86b9b51dee1c0", func := "mintvault/mintvaultlaw5.SigmaExtracts", spec := "sigmaExtracts", inPlace := ["math/bits.Sub64", "math/bits.Add64"], apart := false, narrowed := true }
def SigmaExtractsUptoSaid : Prop := sigmaExtractsUptoRow.holds Try.pinned (OpenSpec.upto sigmaExtractsSpec)

/-- 'mintvaultlaw9.KeysDerive', WHERE WHAT IT READS IS OF BULK AT MOST 1048576: true; the input reads as it did. -/
def keysDeriveUptoRow : OpenClaim := { program := "ytnooojkhnpcolaa", sum := "60c0897c08003f599d3c96603e4f3a33d98d0d283326bfdad0d86b9b51dee1c0", func := "mintvault/mintvaultlaw9.KeysDerive", spec := "keysDerive", inPlace := ["math/bits.Sub64", "math/bits.Add64"], apart := false, narrowed := true }
def KeysDeriveUptoSaid : Prop := keysDeriveUptoRow.holds Try.pinned (OpenSpec.upto keysDeriveSpec)

/-- 'mintvaultlaw10.StorePlays', WHERE WHAT IT READS IS OF BULK AT MOST 1048576: true; the input reads as it did. -/
def storePlaysUptoRow : OpenClaim := { program := "ytnooojkhnpcolaa", sum := "60c0897c08003f599d3c96603e4f3a33d98d0d283326bfdad0d86b9b51dee1c0", func := "mintvault/mintvaultlaw10.StorePlays", spec := "storePlays", unfollowed := true, recurses := true, apart := false, narrowed := true }
def StorePlaysUptoSaid : Prop := storePlaysUptoRow.holds Try.pinned (OpenSpec.upto storePlaysSpec)

/-- 'mintvaultlaw10.StoreTrue', WHERE WHAT IT READS IS OF BULK AT MOST 1048576: true; the input reads as it did. -/
def storeTrueUptoRow : OpenClaim := { program := "ytnooojkhnpcolaa", sum := "60c0897c08003f599d3c96603e4f3a33d98d0d283326bfdad0d86b9b51dee1c0", func := "mintvault/mintvaultlaw10.StoreTrue", spec := "storeTrue", unfollowed := true, recurses := true, apart := false, narrowed := true }
def StoreTrueUptoSaid : Prop := storeTrueUptoRow.holds Try.pinned (OpenSpec.upto storeTrueSpec)

end Rows
end Go.Proofs.Ytnooojkhnpcolaa
