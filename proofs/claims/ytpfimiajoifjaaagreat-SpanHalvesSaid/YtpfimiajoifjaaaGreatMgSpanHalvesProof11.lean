/- texts put together -/
import Derived.Test.YtpfimiajoifjaaaGreatRows
import Derived.Test.YtpfimiajoifjaaaGreatMgSpanHalvesProof10
import Derived.Test.YtpfimiajoifjaaaGreatMgSpanHalvesProof7
import Derived.Test.YtpfimiajoifjaaaGreatMgSpanHalvesProof2
set_option maxHeartbeats 16000000
set_option maxRecDepth 1000000

namespace Go.Proofs.YtpfimiajoifjaaaGreat.spanHalves
open Go.ChangeShapes Go.WideShapes Go.ChangeAt Go.RowKit Go.Mv
open Go.ChangeMaps (open_string)
theorem own : ownKnob Tryz.prog.godebug = none := by kernel_rfl
theorem x0G : laidOutB Tryz.prog = true := by kernel_rfl
theorem z0P (os : Os) (started : os.Started) (H : Type) (enc : TypeId × Value → H) :
  ReturnsInHanded {} Tryz.checked os 5 .any (Rows.spanHalvesSpec.pre6 enc Tryz.prog Tryz.f5 Rows.spanHalvesRow.domain false) (Rows.spanHalvesSpec.post enc Tryz.prog Tryz.f5 false true false false) := by
 refine returnsInHanded_of_change (C := Tryz.checked) own started ap0 Tryz.func5
  (ChangeSpec.witness6 (enc := enc) (C := Tryz.checked) false ⟨#[], #[.string ByteArray.empty, .int .i64 0, .string ByteArray.empty, .string ByteArray.empty], []⟩ 8 ap0 ap0 ap0 ap0) ?_
 intro W base args ds gs before hval0 hW hcnd _
 have hval : ∀ (j : Nat) t v, Tryz.f5.params[j]? = some t → args[j]? = some v → Value.okWide Tryz.prog W .any base t v := hval0
 have hW' := hW
 obtain ⟨p, q, hA0, hV, rfl, hfz, hnd⟩ := hW
 have hA : DataW.TrodAll enc Tryz.prog W 0 (fun _ => true) true Tryz.f5.params.toList args.toList ds p := hA0
 rw [Tryz.params5] at hA hval
 obtain ⟨v0, vs0, d0, ds0, p0, q0, hargs0, rfl, rfl, h0, r0⟩ := trodAll_cons hA
 obtain ⟨v1, vs1, d1, ds1, p1, q1, rfl, rfl, rfl, h1, r1⟩ := trodAll_cons r0
 obtain ⟨v2, vs2, d2, ds2, p2, q2, rfl, rfl, rfl, h2, r2⟩ := trodAll_cons r1
 obtain ⟨v3, vs3, d3, ds3, p3, q3, rfl, rfl, rfl, h3, r3⟩ := trodAll_cons r2
 obtain ⟨rfl, rfl, rfl⟩ := trodAll_nil r3
 obtain rfl : args = #[v0, v1, v2, v3] := by cases args; simp_all
 obtain ⟨rfl, rfl⟩ := trodVars_none hV
 obtain ⟨s0, rfl, rfl, rfl, hs0⟩ := open_string Tryz.underlying9 (hval 0 9 v0 rfl rfl) h0
 obtain ⟨n1, rfl, rfl, rfl, hn1⟩ := open_int Tryz.underlying3 (hval 1 3 v1 rfl rfl) h1
 obtain ⟨s2, rfl, rfl, rfl, hs2⟩ := open_string Tryz.underlying9 (hval 2 9 v2 rfl rfl) h2
 obtain ⟨s3, rfl, rfl, rfl, hs3⟩ := open_string Tryz.underlying9 (hval 3 9 v3 rfl rfl) h3
 clear hA0 hval0 hcnd
 refine (i0l s0 n1 s2 s3 W (x0T hn1)).mono fun e W' ⟨he, hf⟩ => ?_
 subst he
 exact ⟨_, rfl, t0P x0G (by rw [Tryz.params5]; decide +kernel) hW' rfl rfl rfl rfl rfl Tryz.underlying4 hf⟩
theorem proved : Rows.SpanHalvesSaid :=
 OpenClaim.holds_of_wide 5 Tryz.f5 rfl rfl rfl rfl rfl rfl rfl ⟨rfl, rfl, rfl, rfl, rfl⟩ rfl rfl rfl rfl rfl ap0 Tryz.func5 ap0
  (of_decide_eq_true ap0) (by unfold Func.isWrapper; first | (rw [if_pos (by decide +kernel)]; kernel_rfl) | (rw [if_neg (by decide +kernel)]; exact ⟨rfl, rfl⟩))
  (fun os started H enc _ => z0P os started H enc)
#print axioms proved
end Go.Proofs.YtpfimiajoifjaaaGreat.spanHalves
