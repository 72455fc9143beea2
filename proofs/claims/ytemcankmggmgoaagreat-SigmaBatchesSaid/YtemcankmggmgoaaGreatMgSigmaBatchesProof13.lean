/- texts put together -/
import Derived.Test.YtemcankmggmgoaaGreatRows
import Derived.Test.YtemcankmggmgoaaGreatMgSigmaBatchesProof12
import Derived.Test.YtemcankmggmgoaaGreatMgSigmaBatchesProof9
import Derived.Test.YtemcankmggmgoaaGreatMgSigmaBatchesProof2
set_option maxHeartbeats 16000000
set_option maxRecDepth 1000000
open Go.Proofs.Tryz

namespace Go.Proofs.YtemcankmggmgoaaGreat.sigmaBatches
open Go.ChangeShapes Go.WideShapes Go.ChangeAt Go.RowKit Go.Mv
open Go.ChangeMaps (open_string)
theorem own : ownKnob prog.godebug = none := by kernel_rfl
theorem q0b : laidOutB prog = true := by kernel_rfl
theorem s0m (os : Os) (started : os.Started) (H : Type) (enc : TypeId × Value → H) :
  ReturnsInHanded {} Tryz.checked os 7 .any (Rows.sigmaBatchesSpec.pre6 enc prog Tryz.f7 Rows.sigmaBatchesRow.domain false) (Rows.sigmaBatchesSpec.post enc prog Tryz.f7 false true false false) := by
 refine returnsInHanded_of_change_sized (C := Tryz.checked) own started Aa func7
  (ChangeSpec.witness6 (enc := enc) (C := Tryz.checked) false ⟨#[], #[.slice none 0 0, .int .i64 0], []⟩ 8 Aa Aa Aa Aa) ?_
 intro W base args ds gs before hval0 hW hcnd hz0 _
 have hval : ∀ (j : Nat) t v, Tryz.f7.params[j]? = some t → args[j]? = some v → Value.okWide prog W .any base t v := hval0
 have hW' := hW
 obtain ⟨p, q, hA0, hV, rfl, hfz, hnd⟩ := hW
 have hA : DataW.TrodAll enc prog W 0 (fun _ => true) true Tryz.f7.params.toList args.toList ds p := hA0
 rw [params7] at hA hval
 obtain ⟨v0, vs0, d0, ds0, p0, q0, hargs0, rfl, rfl, h0, r0⟩ := trodAll_cons hA
 obtain ⟨v1, vs1, d1, ds1, p1, q1, rfl, rfl, rfl, h1, r1⟩ := trodAll_cons r0
 obtain ⟨rfl, rfl, rfl⟩ := trodAll_nil r1
 obtain rfl : args = #[v0, v1] := by cases args; simp_all
 obtain ⟨rfl, rfl⟩ := trodVars_none hV
 have hz : (DataW.weightsEach prog [38, 3] [d0, d1]).all (· ≤ reachBytes) = true := hz0
 obtain ⟨a0, c0, l0, rfl, hr0⟩ := c0n (hval 0 38 v0 rfl rfl) h0 (p0J hz (j := 0) rfl rfl)
 obtain ⟨n1, rfl, rfl, rfl, hn1⟩ := open_int underlying3 (hval 1 3 v1 rfl rfl) h1
 clear hA0 hval0 hcnd
 refine (rP a0 c0 l0 n1 W hr0).mono fun e W' ⟨he, hf⟩ => ?_
 subst he
 exact ⟨_, rfl, m0s q0b (by rw [params7]; decide +kernel) hW' rfl rfl rfl rfl rfl underlying4 hf⟩
theorem proved : Rows.SigmaBatchesSaid :=
 OpenClaim.holds_of_wide 7 Tryz.f7 rfl rfl rfl rfl rfl rfl rfl ⟨rfl, rfl, rfl, rfl, rfl⟩ rfl rfl rfl rfl rfl Aa func7 Aa
  (of_decide_eq_true Aa) (by unfold Func.isWrapper; first | (rw [if_pos An]; kernel_rfl) | (rw [if_neg An]; exact ⟨rfl, rfl⟩))
  (fun os started H enc _ => s0m os started H enc)
#print axioms proved
end Go.Proofs.YtemcankmggmgoaaGreat.sigmaBatches
