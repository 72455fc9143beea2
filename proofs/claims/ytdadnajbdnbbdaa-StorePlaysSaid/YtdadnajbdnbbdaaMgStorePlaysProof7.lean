/- StorePlays: for every input the law returns true, and the input reads as it did. No condition. -/
import Derived.Test.YtdadnajbdnbbdaaRows
import Derived.Test.YtdadnajbdnbbdaaMgStorePlaysProof6
import Derived.Test.YtdadnajbdnbbdaaMgStorePlaysProof4
import Derived.Test.YtdadnajbdnbbdaaMgStorePlaysProof2
namespace Go.Proofs.Ytdadnajbdnbbdaa.storePlays
open Go.ChangeShapes Go.WideShapes Go.ChangeAt Go.RowKit Go.Mv
open Go.ChangeMaps (open_string)

theorem own : ownKnob Try.prog.godebug = none := by kernel_rfl
theorem laidOut : laidOutB Try.prog = true := by kernel_rfl

set_option maxRecDepth 100000 in
theorem lifted (os : Os) (started : os.Started) (H : Type) (enc : TypeId × Value → H) :
    ReturnsInHanded {} Try.checked os 4 .any (Rows.storePlaysSpec.pre6 enc Try.prog Try.f4 Rows.storePlaysRow.domain false) (Rows.storePlaysSpec.post enc Try.prog Try.f4 false true false false) := by
  refine returnsInHanded_of_change_sized (C := Try.checked) own started (by kernel_rfl) Try.func4
    (ChangeSpec.witness6 (enc := enc) (C := Try.checked) false ⟨#[], #[.int .i64 0, .slice none 0 0], []⟩ 8 (by kernel_rfl) (by kernel_rfl) (by kernel_rfl) (by kernel_rfl)) ?_
  intro W base args ds gs before hval0 hW hcnd hz0 _
  have hval : ∀ (j : Nat) t v, Try.f4.params[j]? = some t → args[j]? = some v → Value.okWide Try.prog W .any base t v := hval0
  have hW' := hW
  obtain ⟨p, q, hA0, hV, rfl, hfz, hnd⟩ := hW
  have hA : DataW.TrodAll enc Try.prog W 0 (fun _ => true) true Try.f4.params.toList args.toList ds p := hA0
  rw [Try.params4] at hA hval
  obtain ⟨v0, vs0, d0, ds0, p0, q0, hargs0, rfl, rfl, h0, r0⟩ := trodAll_cons hA
  obtain ⟨v1, vs1, d1, ds1, p1, q1, rfl, rfl, rfl, h1, r1⟩ := trodAll_cons r0
  obtain ⟨rfl, rfl, rfl⟩ := trodAll_nil r1
  obtain rfl : args = #[v0, v1] := by cases args; simp_all
  obtain ⟨rfl, rfl⟩ := trodVars_none hV
  have hz : (DataW.weightsEach Try.prog [3, 44] [d0, d1]).all (· ≤ reachBytes) = true := hz0
  obtain ⟨n0, rfl, rfl, rfl, hn0⟩ := open_int Try.underlying3 (hval 0 3 v0 rfl rfl) h0
  obtain ⟨a1, c1, l1, rfl, hr1, hx1⟩ := open_sns (hval 1 44 v1 rfl rfl) h1 (fits_of hz (j := 1) rfl rfl)
  clear hA0 hval0 hcnd
  refine (law_StorePlays n0 a1 c1 l1 W hr1 hx1).mono fun e W' ⟨he, hf⟩ => ?_
  subst he
  exact ⟨_, rfl, law_post laidOut (by rw [Try.params4]; decide +kernel) hW' rfl rfl rfl rfl rfl Try.underlying4 hf⟩

theorem proved : Rows.StorePlaysSaid :=
  OpenClaim.holds_of_wide 4 Try.f4 rfl rfl rfl rfl rfl rfl rfl ⟨rfl, rfl, rfl, rfl, rfl⟩ rfl rfl rfl rfl rfl (by kernel_rfl) Try.func4 (by kernel_rfl)
    (of_decide_eq_true (by kernel_rfl)) (by unfold Func.isWrapper; first | (rw [if_pos (by decide +kernel)]; kernel_rfl) | (rw [if_neg (by decide +kernel)]; exact ⟨rfl, rfl⟩))
    (fun os started H enc _ => lifted os started H enc)
#print axioms proved
end Go.Proofs.Ytdadnajbdnbbdaa.storePlays
