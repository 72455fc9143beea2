/- texts put together -/
import Derived.Test.YtemcankmggmgoaaGreatDoorCards
import Derived.Test.YtemcankmggmgoaaGreatDoorTie
import Derived.Test.YtemcankmggmgoaaGreatDoorMgKeysSetsProof10
import Derived.Test.YtemcankmggmgoaaGreatDoorMgKeysSetsProof4
import Derived.Deep.DeepHandedRow
import Derived.Lib.LaidTab
set_option maxHeartbeats 16000000
set_option maxRecDepth 1000000

namespace Go.Proofs.YtemcankmggmgoaaGreatDoor.keysSets
open Go.ChangeShapes Go.WideShapes Go.ChangeAt Go.RowKit Go.Mv
open Go.ChangeMaps (open_string)
theorem own : ownKnob Tryz.prog.godebug = none := by kernel_rfl
theorem x0k : laidOutB Tryz.prog = true := by kernel_rfl
theorem z0O : Tryz.prog.globalNamed "math/bits.deBruijn64tab" = some 0 := by kernel_rfl
theorem u0y : (Tryz.prog.globals[0]?).map (·.type) = some 71 := by kernel_rfl
theorem y0R : Tryz.prog.cellsOf 71 = 64 := by kernel_rfl
theorem y0S : Tryz.prog.cellsOf 5 = 1 := by kernel_rfl
theorem z0E {W : World} (h : laidMetH Tryz.prog Rows.keysSetsRow.laid W) : Lib.TabIs Tryz.prog W "math/bits.deBruijn64tab" .u8 (Lib.deBruijn64tab.map fun (n : Nat) => (n : Int)) :=
 Lib.tabIs_of_head (rest := []) z0O u0y Tryz.underlying71 Tryz.underlying5 y0S y0R h
theorem z0F {W : World} (h : laidMetH Tryz.prog Rows.keysSetsRow.laid W) : TabAt 0 Lib.deBruijn64tab W := fun j hj => by
 have := (z0E h).cell z0O j (by simpa using hj)
 rw [this]
 simp [List.getD_eq_getElem?_getD, List.getElem?_eq_getElem hj]
theorem u0z (H : Type) (enc : TypeId × Value → H) (W : World) (base : Nat) (args : Array Value) (ds gs : List (DataW H)) (before : List MemPlace)
  (hval : ∀ (j : Nat) t v, Tryz.f3.params[j]? = some t → args[j]? = some v → Value.okWide Tryz.prog W .any base t v)
  (hW : DataW.Whole enc Tryz.prog Tryz.f3.params.toList Rows.keysSetsSpec.vars false W args.toList ds gs before)
  (hz0 : (DataW.weightsEach Tryz.prog (Tryz.f3.params.toList ++ (OpenSpec.ofChange Rows.keysSetsSpec).bare.plain.varTypes Tryz.prog) (ds ++ gs)).all (· ≤ reachBytes) = true) (hL : laidMetH Tryz.prog Rows.keysSetsRow.laid W) :
  Calls Tryz.prog 3 args W fun e W' => ∃ v, e = .returned v ∧ Rows.keysSetsSpec.post enc Tryz.prog Tryz.f3 false true false false W args v W' := by
 have hW' := hW
 obtain ⟨p, q, hA0, hV, rfl, hfz, hnd⟩ := hW
 have hA : DataW.TrodAll enc Tryz.prog W 0 (fun _ => true) true Tryz.f3.params.toList args.toList ds p := hA0
 rw [Tryz.params3] at hA hval
 obtain ⟨v0, vs0, d0, ds0, p0, q0, hargs0, rfl, rfl, h0, r0⟩ := trodAll_cons hA
 obtain ⟨v1, vs1, d1, ds1, p1, q1, rfl, rfl, rfl, h1, r1⟩ := trodAll_cons r0
 obtain ⟨v2, vs2, d2, ds2, p2, q2, rfl, rfl, rfl, h2, r2⟩ := trodAll_cons r1
 obtain ⟨rfl, rfl, rfl⟩ := trodAll_nil r2
 obtain rfl : args = #[v0, v1, v2] := by cases args; simp_all
 obtain ⟨rfl, rfl⟩ := trodVars_none hV
 have hz : (DataW.weightsEach Tryz.prog [9, 22, 23] [d0, d1, d2]).all (· ≤ reachBytes) = true := hz0
 obtain ⟨s0, rfl, rfl, rfl, hs0⟩ := open_string Tryz.underlying9 (hval 0 9 v0 rfl rfl) h0
 have hz10 := k0I hz (j := 0) rfl rfl
 obtain ⟨n1, rfl, rfl, rfl, hn1⟩ := open_int Tryz.underlying22 (hval 1 22 v1 rfl rfl) h1
 have hb1 : 0 ≤ n1 ∧ n1 ≤ 4294967295 := by simpa [Lit.wf, IntKind.min, IntKind.max, IntKind.signed, IntKind.bits] using hn1
 obtain ⟨x1, rfl⟩ : ∃ x : Nat, n1 = x := ⟨n1.toNat, by omega⟩
 obtain ⟨n2, rfl, rfl, rfl, hn2⟩ := open_int Tryz.underlying23 (hval 2 23 v2 rfl rfl) h2
 have hb2 : 0 ≤ n2 ∧ n2 ≤ 18446744073709551615 := by simpa [Lit.wf, IntKind.min, IntKind.max, IntKind.signed, IntKind.bits] using hn2
 obtain ⟨x2, rfl⟩ : ∃ x : Nat, n2 = x := ⟨n2.toNat, by omega⟩
 clear hA0
 refine (l0z s0 x1 x2 W hz10 (show x1 ≤ 4294967295 by omega) (show x2 ≤ 18446744073709551615 by omega) (z0F hL)).mono fun e W' ⟨he, hf⟩ => ?_
 subst he
 exact ⟨_, rfl, u0x x0k (by rw [Tryz.params3]; decide +kernel) hW' rfl rfl rfl rfl rfl Tryz.underlying4 hf⟩
noncomputable def h0L (os : Os) : World :=
 { World.holding Tryz.prog os ⟨#[], #[], []⟩ with heap := (World.holding Tryz.prog os ⟨#[], #[], []⟩).heap.modify 0 fun
   | .cells _ t frozen => .cells (Lib.deBruijn64tab.map fun (n : Nat) => Value.int .u8 (n : Int)).toArray t frozen
   | o => o }
theorem u0A (os : Os) : laidMet Tryz.prog Rows.keysSetsRow.laid ((h0L os).forCall (fun _ _ => 0) ⟨#[], #[.string ByteArray.empty, .int .u32 0, .int .u64 0], []⟩).memory :=
 laidMet_of_run' 8 (by kernel_rfl) (by kernel_rfl)
theorem z0G (os : Os) {H : Type} (enc : TypeId × Value → H) : ∃ places, DataW.whole enc Tryz.prog ((h0L os).forCall (fun _ _ => 0) ⟨#[], #[.string ByteArray.empty, .int .u32 0, .int .u64 0], []⟩).memory Tryz.f3.params.toList Rows.keysSetsSpec.vars false #[Value.string ByteArray.empty, Value.int .u32 0, Value.int .u64 0].toList 8 = some ([.lit (.string []), .lit (.int .u32 0), .lit (.int .u64 0)], [], places) :=
 ⟨[], by kernel_rfl⟩
theorem y0T (os : Os) (started : os.Started) (H : Type) (enc : TypeId × Value → H) (F : Stop.Interp) :
  ReturnsInHanded {} Tryz.checked os 3 .any ((OpenSpec.ofChange Rows.keysSetsSpec).preRow enc Tryz.prog Tryz.f3 Rows.keysSetsRow.domain false Rows.keysSetsRow.laid) (((OpenSpec.ofChange Rows.keysSetsSpec).at F).post enc Tryz.prog Tryz.f3 false true false false) := by
 obtain ⟨places, hx⟩ := z0G os enc
 refine returnsInHanded_of_row (C := Tryz.checked) (s := OpenSpec.ofChange Rows.keysSetsSpec) own started (by kernel_rfl) Tryz.func3
  (witness_row_at (enc := enc) (C := Tryz.checked) false (h0L os) #[.string ByteArray.empty, .int .u32 0, .int .u64 0] rfl (by kernel_rfl) (by kernel_rfl) (by kernel_rfl)
   (OpenSpec.preRow_of_cond 8 hx (by kernel_rfl) (fun k hk => by cases hk) (by kernel_rfl) (u0A os))) ?_
 intro W base args ds gs before hval hW _ _ hz hL _ _
 exact u0z H enc W base args ds gs before hval hW hz hL
theorem A0e : Rows.KeysSetsSaid :=
 OpenClaim.holds_of_cond 3 Tryz.f3 rfl rfl rfl rfl rfl rfl rfl ⟨rfl, rfl, rfl, rfl, rfl⟩ rfl rfl rfl rfl rfl (by kernel_rfl) Tryz.func3 (by kernel_rfl)
  (of_decide_eq_true (by kernel_rfl)) (by unfold Func.isWrapper; first | (rw [if_pos (by decide +kernel)]; kernel_rfl) | (rw [if_neg (by decide +kernel)]; exact ⟨rfl, rfl⟩))
  (fun os started H enc _ F => by rw [OpenClaim.pre_eq_preRow]; exact y0T os started H enc F)
theorem plain (f : FuncId) (fn : Func) (hf : Tryz.pinned.checked.prog.funcNamed "mintvault/mintvaultlaw9.KeysSets" = some f) (hfn : Tryz.pinned.checked.prog.funcs[f]? = some fn) :
  false = Tryz.pinned.checked.prog.looks [] ∧ ∀ (j : Nat) t, fn.params[j]? = some t → Tryz.pinned.checked.prog.wantsStandIn t = false := by
 obtain rfl : f = 3 := Option.some.inj ((show Tryz.prog.funcNamed "mintvault/mintvaultlaw9.KeysSets" = some 3 by kernel_rfl).symm.trans hf) |>.symm
 obtain rfl : fn = Tryz.f3 := (Option.some.inj (Tryz.func3.symm.trans hfn)).symm
 refine ⟨by kernel_rfl, fun j t ht => ?_⟩
 rw [Tryz.params3] at ht
 have ht' : t = 9 ∨ t = 22 ∨ t = 23 := by simpa using Array.mem_of_getElem? ht
 rcases ht' with rfl | rfl | rfl
 ·exact (show Tryz.prog.wantsStandIn 9 = false by kernel_rfl)
 ·exact (show Tryz.prog.wantsStandIn 22 = false by kernel_rfl)
 ·exact (show Tryz.prog.wantsStandIn 23 = false by kernel_rfl)
theorem proved : Rows.KeysSetsCardSaid :=
 Claim7.holds_tied_plain_at .later [] _ _ _ _ A0e (fun _ h => by cases h) (by kernel_rfl) (fun _ h => by cases h) keysSets_row_tie rfl ⟨rfl, rfl⟩ (by kernel_rfl) rfl plain (by kernel_rfl)
#print axioms proved
end Go.Proofs.YtemcankmggmgoaaGreatDoor.keysSets
