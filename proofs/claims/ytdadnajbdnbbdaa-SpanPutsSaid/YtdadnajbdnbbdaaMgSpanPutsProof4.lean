/- SpanPuts: for every input the law returns true, and the input reads as it did. No condition. -/
import Derived.Test.YtdadnajbdnbbdaaRows
import Derived.Test.YtdadnajbdnbbdaaMgSpanPutsProof3
import Derived.Test.YtdadnajbdnbbdaaMgSpanPutsProof1
namespace Go.Proofs.Ytdadnajbdnbbdaa.spanPuts
open Go.ChangeShapes Go.WideShapes Go.ChangeAt Go.RowKit Go.Mv
open Go.ChangeMaps (open_string)

theorem own : ownKnob Try.prog.godebug = none := by kernel_rfl
theorem laidOut : laidOutB Try.prog = true := by kernel_rfl

set_option maxRecDepth 100000 in
theorem lifted (os : Os) (started : os.Started) (H : Type) (enc : TypeId × Value → H) :
    ReturnsInHanded {} Try.checked os 3 .any (Rows.spanPutsSpec.pre6 enc Try.prog Try.f3 Rows.spanPutsRow.domain false) (Rows.spanPutsSpec.post enc Try.prog Try.f3 false true false false) := by
  refine returnsInHanded_of_change_sized (C := Try.checked) own started (by kernel_rfl) Try.func3
    (ChangeSpec.witness6 (enc := enc) (C := Try.checked) false ⟨#[], #[.agg #[.slice none 0 0, .slice none 0 0, .slice none 0 0, .slice none 0 0, .slice none 0 0, .slice none 0 0, .slice none 0 0, .slice none 0 0, .slice none 0 0, .slice none 0 0, .slice none 0 0], .string ByteArray.empty], []⟩ 8 (by kernel_rfl) (by kernel_rfl) (by kernel_rfl) (by kernel_rfl)) ?_
  intro W base args ds gs before hval0 hW hcnd hz0 _
  have hval : ∀ (j : Nat) t v, Try.f3.params[j]? = some t → args[j]? = some v → Value.okWide Try.prog W .any base t v := hval0
  have hW' := hW
  obtain ⟨p, q, hA0, hV, rfl, hfz, hnd⟩ := hW
  have hA : DataW.TrodAll enc Try.prog W 0 (fun _ => true) true Try.f3.params.toList args.toList ds p := hA0
  rw [Try.params3] at hA hval
  obtain ⟨v0, vs0, d0, ds0, p0, q0, hargs0, rfl, rfl, h0, r0⟩ := trodAll_cons hA
  obtain ⟨v1, vs1, d1, ds1, p1, q1, rfl, rfl, rfl, h1, r1⟩ := trodAll_cons r0
  obtain ⟨rfl, rfl, rfl⟩ := trodAll_nil r1
  obtain rfl : args = #[v0, v1] := by cases args; simp_all
  obtain ⟨rfl, rfl⟩ := trodVars_none hV
  have hz : (DataW.weightsEach Try.prog [27, 9] [d0, d1]).all (· ≤ reachBytes) = true := hz0
  obtain ⟨A0, S0, T10, T20, Tau0, Mu0, T0, aL0, n0, cL0, aR0, m0, cR0, IA0, IB0, vL0, vR0, ls0, rfl, hL0, hR0, hp0⟩ := open_range (hval 0 27 v0 rfl rfl) h0 (fits_of hz (j := 0) rfl rfl)
  obtain ⟨s1, rfl, rfl, rfl, hs1⟩ := open_string Try.underlying9 (hval 1 9 v1 rfl rfl) h1
  clear hA0 hval0 hcnd
  refine (law_SpanPuts A0 S0 T10 T20 Tau0 Mu0 T0 aL0 n0 cL0 aR0 m0 cR0 IA0 IB0 vL0 vR0 ls0 s1 W hL0 hR0 hp0).mono fun e W' ⟨he, hf⟩ => ?_
  subst he
  exact ⟨_, rfl, law_post laidOut (by rw [Try.params3]; decide +kernel) hW' rfl rfl rfl rfl rfl Try.underlying4 hf⟩

theorem proved : Rows.SpanPutsSaid :=
  OpenClaim.holds_of_wide 3 Try.f3 rfl rfl rfl rfl rfl rfl rfl ⟨rfl, rfl, rfl, rfl, rfl⟩ rfl rfl rfl rfl rfl (by kernel_rfl) Try.func3 (by kernel_rfl)
    (of_decide_eq_true (by kernel_rfl)) (by unfold Func.isWrapper; first | (rw [if_pos (by decide +kernel)]; kernel_rfl) | (rw [if_neg (by decide +kernel)]; exact ⟨rfl, rfl⟩))
    (fun os started H enc _ => lifted os started H enc)
#print axioms proved
end Go.Proofs.Ytdadnajbdnbbdaa.spanPuts
