/- Arguments that were handed in, opened into the words of Mem. -/
import Derived.Test.YtmegaegedlbckaaOps
import Derived.SliceStrings
import Derived.SizedLaws
import Derived.OpenShut
import Derived.ProofKit
namespace Go.Mv
open Go.RowKit Go.ChangeShapes Go.WideShapes

/-- strings as values -/
def ss (l : List (List UInt8)) : List Value := l.map fun x => .string (mkS x)
theorem ss_len (l : List (List UInt8)) : (ss l).length = l.length := by simp [ss]
theorem ss_get (l : List (List UInt8)) (i : Nat) (hi : i < l.length) : (ss l)[i]? = some (.string (mkS (l.getD i []))) := by
  simp [ss, List.getD_eq_getElem?_getD, hi]

section
variable {H : Type} {enc : TypeId × Value → H} {P : Program} {w : World} {base : Nat} {held : Bool} {spare : Nat → Bool}
theorem weightsAll_mem {e : TypeId} : ∀ {ds : List (DataW H)} {d : DataW H}, d ∈ ds → ∀ n ∈ d.weights P e, n ∈ DataW.weightsAll P e ds
  | [], _, h, _, _ => by simp at h
  | d0 :: ds, d, h, n, hn => by
    simp only [DataW.weightsAll, List.mem_append]
    rcases List.mem_cons.1 h with rfl | h
    · exact .inl hn
    · exact .inr (weightsAll_mem h n hn)
theorem reach_string {ts : List TypeId} {ds : List (DataW H)} (h : (DataW.weightsEach P ts ds).all (· ≤ reachBytes) = true) {j : Nat} {t : TypeId} {s : ByteArray} (ht : ts[j]? = some t) (hd : ds[j]? = some (.lit (.string s.data.toList))) : s.size ≤ 140737488351232 := by
  have := sized_string h ht hd
  have e : s.data.toList.length = s.size := by simp
  have hr : reachBytes = 140737488351232 := rfl
  omega

theorem i64_wf {n : Int} (h : (Lit.int .i64 n).wf = true) : -9223372036854775808 ≤ n ∧ n ≤ 9223372036854775807 := by
  simpa [Lit.wf, IntKind.min, IntKind.max, IntKind.signed, IntKind.bits] using h
/-- a slice of strings that came in -/
theorem open_ss {ts : List TypeId} {ds : List (DataW H)} {j : Nat} {t e : TypeId} {v : Value} {d : DataW H} {ps : List MemPlace} (ht : P.underlying t = some (.slice e)) (he : P.underlying e = some .string) (hc : P.cellsOf e = 1) (hby : P.bytesOf e = 16)
    (hv : Value.okWide P w .any base t v) (h : DataW.Trod enc P w 0 spare held t v d ps) (hz : (DataW.weightsEach P ts ds).all (· ≤ reachBytes) = true) (htj : ts[j]? = some t) (hdj : ds[j]? = some d) :
    ∃ a c ls, v = .slice a ls.length c ∧ Rd w a ls.length (ss ls) ∧ (∀ x ∈ ls, x.length ≤ 140737488351232) ∧ ls.length ≤ 9223372036854775807 ∧ ls.length * 16 ≤ 140737488351232 ∧ ls.length ≤ c := by
  obtain ⟨a0, len, cap, rfl⟩ := okWide_slice ht hv
  obtain ⟨fuel, hf⟩ := h
  have hr : reachBytes = 140737488351232 := rfl
  rcases open_strings ht he hc hf with ⟨hcs, hx⟩ | ⟨a, len', cap', sl, hcs, _, hl, hm, hzl, hx, hcell, hsz⟩
  · simp only [Value.cells] at hcs
    simp only [List.cons.injEq, and_true, Value.slice.injEq] at hcs
    obtain ⟨rfl, rfl, rfl⟩ := hcs
    exact ⟨none, 0, [], rfl, Rd.nil _ _, by simp, by simp, by simp, by simp⟩
  · simp only [Value.cells] at hcs
    simp only [List.cons.injEq, and_true, Value.slice.injEq] at hcs
    obtain ⟨rfl, rfl, rfl⟩ := hcs
    simp only [Prod.mk.injEq] at hx
    obtain ⟨rfl, -⟩ := hx
    have hlen : (sl.take len).length = len := by
      rw [List.length_take, hzl]; split <;> omega
    have hlsl : len ≤ sl.length := by rw [hzl]; split <;> omega
    have hW := sized_slice hz htj hdj ht
    rw [hby, strs, strs, List.length_map, List.length_map, hr] at hW
    refine ⟨some a, cap, (sl.take len).map fun s => s.data.toList, by rw [List.length_map, hlen], ⟨by simp [ss], ?_⟩, ?_, ?_, ?_, ?_⟩
    · rcases Nat.eq_zero_or_pos len with h0 | h0
      · exact .inl (by simp [hlen, h0])
      · right
        obtain ⟨b, o, spot⟩ := a
        have hspot : spot = none := by simpa [Addr.add] using World.cell?_spot (hcell 0 (by omega))
        subst hspot
        refine ⟨b, o, rfl, ?_⟩
        intro i v hv
        have hi : i < len := by
          rcases Nat.lt_or_ge i len with k | k
          · exact k
          · rw [List.getElem?_eq_none (by simp [ss]; omega)] at hv; cases hv
        have h1 := hcell i (by omega)
        rw [addr_add] at h1
        have h2 : (ss ((sl.take len).map fun s => s.data.toList))[i]? = some (.string (sl.getD i ByteArray.empty)) := by
          have : i < sl.length := by omega
          simp [ss, List.getElem?_take, hi, List.getD_eq_getElem?_getD, List.getElem?_eq_getElem this, mkS_data]
        rw [h2] at hv
        cases hv
        exact h1
    · intro x hx
      simp only [List.mem_map] at hx
      obtain ⟨s, hs, rfl⟩ := hx
      have hmem : (DataW.lit (.string s.data.toList) : DataW H) ∈ strs (H := H) (sl.take len) := by
        simp only [strs, List.mem_map]; exact ⟨s, hs, rfl⟩
      have hn : s.data.toList.length ∈ DataW.weightsEach P ts ds := by
        refine DataW.weights_mem_each htj hdj _ ?_
        simp only [DataW.weights, ht, List.mem_cons, List.mem_append]
        exact .inr (.inl (weightsAll_mem hmem _ (by simp [DataW.weights])))
      have := List.all_eq_true.1 hz _ hn
      rw [hr] at this
      simpa using this
    · simp only [maxLen] at hm; simp; omega
    · simp only [List.length_map]; omega
    · simp only [List.length_map]; omega
end
end Go.Mv
