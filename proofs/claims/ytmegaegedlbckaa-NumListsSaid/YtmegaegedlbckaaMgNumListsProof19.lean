/- NumLists: for every input the law returns true, and the input reads as it did. No condition. -/
import Derived.Test.YtmegaegedlbckaaRows
import Derived.Test.YtmegaegedlbckaaMgNumListsProof18
import Derived.Test.YtmegaegedlbckaaMgNumListsProof12
namespace Go.Proofs.Ytmegaegedlbckaa.numLists
open Go.ChangeShapes Go.WideShapes Go.ChangeAt Go.RowKit Go.Mv
open Go.ChangeMaps (open_string)

theorem own : ownKnob Try.prog.godebug = none := by kernel_rfl
theorem laidOut : laidOutB Try.prog = true := by kernel_rfl
theorem cellsS : Try.prog.cellsOf 9 = 1 := by kernel_rfl
theorem bytesS : Try.prog.bytesOf 9 = 16 := by kernel_rfl

set_option maxRecDepth 100000 in
theorem lifted (os : Os) (started : os.Started) (H : Type) (enc : TypeId × Value → H) :
    ReturnsInHanded {} Try.checked os 5 .any (Rows.numListsSpec.pre6 enc Try.prog Try.f5 Rows.numListsRow.domain false) (Rows.numListsSpec.post enc Try.prog Try.f5 false true false false) := by
  refine returnsInHanded_of_change_sized (C := Try.checked) own started (by kernel_rfl) Try.func5
    (ChangeSpec.witness6 (enc := enc) (C := Try.checked) false ⟨#[], #[.int .i64 0, .string ByteArray.empty, .int .i64 0, .slice none 0 0, .slice none 0 0], []⟩ 8 (by kernel_rfl) (by kernel_rfl) (by kernel_rfl) (by kernel_rfl)) ?_
  intro W base args ds gs before hval0 hW hcnd hz0 _
  have hval : ∀ (j : Nat) t v, Try.f5.params[j]? = some t → args[j]? = some v → Value.okWide Try.prog W .any base t v := hval0
  have hW' := hW
  obtain ⟨p, q, hA0, hV, rfl, hfz, hnd⟩ := hW
  have hA : DataW.TrodAll enc Try.prog W 0 (fun _ => true) true Try.f5.params.toList args.toList ds p := hA0
  rw [Try.params5] at hA hval
  obtain ⟨v0, vs0, d0, ds0, p0, q0, hargs0, rfl, rfl, h0, r0⟩ := trodAll_cons hA
  obtain ⟨v1, vs1, d1, ds1, p1, q1, rfl, rfl, rfl, h1, r1⟩ := trodAll_cons r0
  obtain ⟨v2, vs2, d2, ds2, p2, q2, rfl, rfl, rfl, h2, r2⟩ := trodAll_cons r1
  obtain ⟨v3, vs3, d3, ds3, p3, q3, rfl, rfl, rfl, h3, r3⟩ := trodAll_cons r2
  obtain ⟨v4, vs4, d4, ds4, p4, q4, rfl, rfl, rfl, h4, r4⟩ := trodAll_cons r3
  obtain ⟨rfl, rfl, rfl⟩ := trodAll_nil r4
  obtain rfl : args = #[v0, v1, v2, v3, v4] := by cases args; simp_all
  obtain ⟨rfl, rfl⟩ := trodVars_none hV
  have hz : (DataW.weightsEach Try.prog [3, 9, 3, 46, 46] [d0, d1, d2, d3, d4]).all (· ≤ reachBytes) = true := hz0
  obtain ⟨n0, rfl, rfl, rfl, hn0⟩ := open_int Try.underlying3 (hval 0 3 v0 rfl rfl) h0
  obtain ⟨s1, rfl, rfl, rfl, hs1⟩ := open_string Try.underlying9 (hval 1 9 v1 rfl rfl) h1
  have hz20 := reach_string hz (j := 1) rfl rfl
  obtain ⟨n2, rfl, rfl, rfl, hn2⟩ := open_int Try.underlying3 (hval 2 3 v2 rfl rfl) h2
  obtain ⟨a3, c3, l3, rfl, hr3, hx3, hm3, hb3, hc3⟩ := open_ss Try.underlying46 Try.underlying9 cellsS bytesS (hval 3 46 v3 rfl rfl) h3 hz (j := 3) rfl rfl
  obtain ⟨a4, c4, l4, rfl, hr4, hx4, hm4, hb4, hc4⟩ := open_ss Try.underlying46 Try.underlying9 cellsS bytesS (hval 4 46 v4 rfl rfl) h4 hz (j := 4) rfl rfl
  clear hA0 hval0 hcnd
  refine (law_NumLists n0 s1 n2 a3 c3 l3 a4 c4 l4 W hr3 hr4).mono fun e W' ⟨he, hf⟩ => ?_
  subst he
  exact ⟨_, rfl, law_post laidOut (by rw [Try.params5]; decide +kernel) hW' rfl rfl rfl rfl rfl Try.underlying4 hf⟩

theorem proved : Rows.NumListsSaid :=
  OpenClaim.holds_of_wide 5 Try.f5 rfl rfl rfl rfl rfl rfl rfl ⟨rfl, rfl, rfl, rfl, rfl⟩ rfl rfl rfl rfl rfl (by kernel_rfl) Try.func5 (by kernel_rfl)
    (of_decide_eq_true (by kernel_rfl)) (by unfold Func.isWrapper; first | (rw [if_pos (by decide +kernel)]; kernel_rfl) | (rw [if_neg (by decide +kernel)]; exact ⟨rfl, rfl⟩))
    (fun os started H enc _ => lifted os started H enc)
#print axioms proved
end Go.Proofs.Ytmegaegedlbckaa.numLists
