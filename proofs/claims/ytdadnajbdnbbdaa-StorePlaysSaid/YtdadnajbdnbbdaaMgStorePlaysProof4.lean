/- Slices and structs that were handed in, of any element type, opened; From a walk that turns nothing (Fr Nob) to what a law's row asks behind the call. -/
import Derived.Test.YtdadnajbdnbbdaaMgStorePlaysProof2
import Derived.Test.YtdadnajbdnbbdaaMgStorePlaysProof1
import Derived.ProofKit
import Derived.OpenShut
import Derived.Carry
namespace Go.Mv
open Go.RowKit Go.ChangeShapes Go.WideShapes
section
variable {H : Type} {enc : TypeId × Value → H} {P : Program} {w : World} {base : Nat} {held : Bool} {spare : Nat → Bool}
/-- what was read takes no more room than a machine has -/
def Fits (P : Program) (t : TypeId) (d : DataW H) : Prop := ∀ k ∈ d.weights P t, k ≤ 140737488351232
theorem fits_of {ts : List TypeId} {ds : List (DataW H)} (hz : (DataW.weightsEach P ts ds).all (· ≤ reachBytes) = true) {j : Nat} {t : TypeId} {d : DataW H} (ht : ts[j]? = some t) (hd : ds[j]? = some d) : Fits P t d := by
  intro k hk
  have := List.all_eq_true.1 hz k (DataW.weights_mem_each ht hd k hk)
  have hr : reachBytes = 140737488351232 := rfl
  rw [hr] at this
  simpa using this
/-- cells that read as a value of type t -/
def Reads (enc : TypeId × Value → H) (P : Program) (w : World) (spare : Nat → Bool) (held : Bool) (t : TypeId) (cs : List Value) : Prop := ∃ n y, DataW.trod enc P w 0 spare held n t cs = some y ∧ Fits P t y.1

theorem open_cells {t e : TypeId} {sz : Nat} {cs : List Value} (ht : P.underlying t = some (.slice e)) (hsz : P.cellsOf e = sz) (hpos : 0 < sz) (h : Reads enc P w spare held t cs) :
    ∃ a c css, cs = [.slice a (List.length css) c] ∧ Rd w a (css.length * sz) css.flatten ∧ (∀ x ∈ css, x.length = sz ∧ Reads enc P w spare held e x) ∧ css.length ≤ c ∧ c ≤ 9223372036854775807 ∧ css.length * P.bytesOf e ≤ 140737488351232 := by
  obtain ⟨fuel, y, hf, hfit⟩ := h
  rcases DataW.trod_slice ht hf with ⟨hcs, hx⟩ | ⟨a, len, cap, elems, rest, n, _, rfl, rfl, hb, hl, hm, hlen, hel, hsp, hns⟩
  · exact ⟨none, 0, [], hcs, by simpa using Rd.nil w none, by simp, by simp, by simp, by simp⟩
  · have hget : ∀ i, (hi : i < len) → ∃ x : List Value, w.cells? 0 (a.add (i * P.cellsOf e)) (P.cellsOf e) = some x ∧ DataW.trod enc P w 0 spare held n e x = some (elems[i]'(by omega)) := fun i hi => by
      have := hel i hi
      rw [List.getElem?_eq_getElem (by omega), Option.bind_eq_some_iff] at this
      exact this
    have hall : ∀ d ∈ elems.map (·.1), ∀ k ∈ d.weights P e, k ≤ 140737488351232 := fun d hd k hk => by
      refine hfit k ?_
      simp only [DataW.weights, ht, List.mem_cons, List.mem_append]
      exact .inr (.inl (weightsAll_mem hd k hk))
    have hone : (elems.map (·.1)).length * P.bytesOf e ≤ 140737488351232 := by
      have h1 := hfit (((elems.map (·.1)).length + (rest.map (·.1)).length) * P.bytesOf e) (by simp [DataW.weights, ht])
      have h2 : (elems.map (·.1)).length * P.bytesOf e ≤ ((elems.map (·.1)).length + (rest.map (·.1)).length) * P.bytesOf e := Nat.mul_le_mul_right _ (by omega)
      omega
    -- the cells of each
    let f : Nat → List Value := fun i => if hi : i < len then (hget i hi).choose else []
    have hf' : ∀ i, (hi : i < len) → w.cells? 0 (a.add (i * P.cellsOf e)) (P.cellsOf e) = some (f i) ∧ DataW.trod enc P w 0 spare held n e (f i) = some (elems[i]'(by omega)) := fun i hi => by
      have := (hget i hi).choose_spec
      simp only [f, dif_pos hi]
      exact this
    have hfl : ∀ i, (hi : i < len) → (f i).length = sz := fun i hi => by
      have := (World.cells?_some (hf' i hi).1).2.1
      rw [hsz] at this; exact this
    refine ⟨some a, cap, (List.range len).map f, by simp, ?_, ?_, by simpa using hl, by simpa [maxLen] using hm, by simpa [hlen] using hone⟩
    · have hflat : ((List.range len).map f).flatten.length = len * sz := by
        have : ∀ m, m ≤ len → ((List.range m).map f).flatten.length = m * sz := by
          intro m
          induction m with
          | zero => intro _; simp
          | succ m ih =>
            intro hm
            rw [List.range_succ, List.map_append, List.flatten_append, List.length_append, ih (by omega)]
            simp only [List.map_cons, List.map_nil, List.flatten_cons, List.flatten_nil, List.append_nil]
            rw [hfl m (by omega), Nat.succ_mul]
        exact this len (Nat.le_refl _)
      refine ⟨by rw [hflat]; simp, ?_⟩
      rcases Nat.eq_zero_or_pos len with h0 | h0
      · left; simp [h0]
      · right
        obtain ⟨b, o, spot⟩ := a
        have hspot : spot = none := by
          have h1 := (World.cells?_some (hf' 0 h0).1).2.2 0 (by omega)
          have h2 : (f 0)[0]? = some ((f 0)[0]'(by rw [hfl 0 h0]; exact hpos)) := List.getElem?_eq_getElem _
          rw [h2] at h1
          simpa [Addr.add] using World.cell?_spot h1
        subst hspot
        refine ⟨b, o, rfl, ?_⟩
        intro i v hv
        -- the element that place i lies in
        have hi : i < len * sz := by
          rcases Nat.lt_or_ge i (len * sz) with k | k
          · exact k
          · rw [List.getElem?_eq_none (by rw [hflat]; exact k)] at hv; cases hv
        have key : ∀ m, m ≤ len → ∀ i v, i < m * sz → ((List.range m).map f).flatten[i]? = some v → w.cell? ⟨b, o + i, none⟩ = some v := by
          intro m
          induction m with
          | zero => intro _ i v hi; omega
          | succ m ih =>
            intro hm i v hi hv
            rw [List.range_succ, List.map_append, List.flatten_append] at hv
            have hml : ((List.range m).map f).flatten.length = m * sz := by
              have : ∀ m, m ≤ len → ((List.range m).map f).flatten.length = m * sz := by
                intro m
                induction m with
                | zero => intro _; simp
                | succ m ih =>
                  intro hm
                  rw [List.range_succ, List.map_append, List.flatten_append, List.length_append, ih (by omega)]
                  simp only [List.map_cons, List.map_nil, List.flatten_cons, List.flatten_nil, List.append_nil]
                  rw [hfl m (by omega), Nat.succ_mul]
              exact this m (by omega)
            by_cases hlt : i < m * sz
            · rw [List.getElem?_append_left (by omega)] at hv
              exact ih (by omega) i v hlt hv
            · rw [List.getElem?_append_right (by omega), hml] at hv
              simp only [List.map_cons, List.map_nil, List.flatten_cons, List.flatten_nil, List.append_nil] at hv
              rw [Nat.succ_mul] at hi
              have h1 := (World.cells?_some (hf' m (by omega)).1).2.2 (i - m * sz) (by omega)
              rw [hv, hsz, addr_add, addr_add] at h1
              rwa [show o + m * sz + (i - m * sz) = o + i by omega] at h1
        exact key len (Nat.le_refl _) i v hi hv
    · intro x hx
      simp only [List.mem_map, List.mem_range] at hx
      obtain ⟨i, hi, rfl⟩ := hx
      refine ⟨hfl i hi, n, _, (hf' i hi).2, ?_⟩
      exact hall _ (List.mem_map.2 ⟨elems[i]'(by omega), List.getElem_mem _, rfl⟩)
theorem reads_of {t : TypeId} {v : Value} {d : DataW H} {ps : List MemPlace} (h : DataW.Trod enc P w 0 spare held t v d ps) (hf : Fits P t d) : Reads enc P w spare held t v.cells.toList := by
  obtain ⟨n, h⟩ := h
  exact ⟨n, _, h, hf⟩
/-- a slice that came in -/
theorem open_list {t e : TypeId} {sz : Nat} {v : Value} {d : DataW H} {ps : List MemPlace} (ht : P.underlying t = some (.slice e)) (hsz : P.cellsOf e = sz) (hpos : 0 < sz) (hv : Value.okWide P w .any base t v) (h : DataW.Trod enc P w 0 spare held t v d ps) (hfit : Fits P t d) :
    ∃ a c css, v = .slice a (List.length css) c ∧ Rd w a (css.length * sz) css.flatten ∧ (∀ x ∈ css, x.length = sz ∧ Reads enc P w spare held e x) ∧ css.length ≤ c ∧ c ≤ 9223372036854775807 ∧ css.length * P.bytesOf e ≤ 140737488351232 := by
  obtain ⟨a0, len, cap, rfl⟩ := okWide_slice ht hv
  obtain ⟨a, c, css, h1, h2⟩ := open_cells ht hsz hpos (reads_of h hfit)
  simp only [Value.cells, List.cons.injEq, and_true] at h1
  exact ⟨a, c, css, h1, h2⟩
/-- a string in cells -/
theorem Reads.string {t : TypeId} {cs : List Value} (ht : P.underlying t = some .string) (h : Reads enc P w spare held t cs) : ∃ l : List UInt8, cs = [.string (mkS l)] ∧ l.length ≤ 140737488351232 := by
  obtain ⟨n, y, h, hf⟩ := h
  obtain ⟨s, h1, h2, h3⟩ := DataW.trod_string ht h
  refine ⟨s.data.toList, by rw [h1, mkS_data], ?_⟩
  rw [h2] at hf
  have := hf s.data.toList.length (by simp [DataW.weights])
  simpa using this
theorem Reads.int {t : TypeId} {k : IntKind} {cs : List Value} (ht : P.underlying t = some (.int k)) (h : Reads enc P w spare held t cs) : ∃ n : Int, cs = [.int k n] ∧ (Lit.int k n).wf = true := by
  obtain ⟨n, y, h, hf⟩ := h
  obtain ⟨s, h1, h2, h3⟩ := DataW.trod_int ht h
  exact ⟨s, h1, h3⟩
theorem weightsEach_get {ts : List TypeId} {ds : List (DataW H)} {j : Nat} {t : TypeId} {d : DataW H} (ht : ts[j]? = some t) (hd : ds[j]? = some d) : ∀ n ∈ d.weights P t, n ∈ DataW.weightsEach P ts ds := DataW.weights_mem_each ht hd
/-- a struct in cells: its fields -/
theorem Reads.struct {t : TypeId} {fs : Array Field} {cs : List Value} (ht : P.underlying t = some (.struct fs)) (h : Reads enc P w spare held t cs) : cs.length = P.cellsOf t ∧ ∀ (i : Nat) (f : Field), fs[i]? = some f → ∀ (u : TypeId) (o k : Nat), f.type = u → f.offset = o → P.cellsOf u = k → Reads enc P w spare held u ((cs.drop o).take k) := by
  obtain ⟨n, y, h, hf⟩ := h
  obtain ⟨xs, m, -, hx, hl, hxl, hi⟩ := DataW.trod_struct ht h
  refine ⟨hl, fun i f hfi u o k hu ho hk => ?_⟩
  subst hu ho hk
  have h1 := hi i f hfi
  have hlt : i < xs.length := by
    rw [hxl]; exact (Array.getElem?_eq_some_iff.1 hfi).1
  rw [List.getElem?_eq_getElem hlt] at h1
  refine ⟨m, _, h1, ?_⟩
  intro k hk
  refine hf k ?_
  rw [hx]
  simp only [DataW.weights, ht]
  exact weightsEach_get (j := i) (by simp [hfi]) (by simp [List.getElem?_eq_getElem hlt]) k hk
theorem map_of_each {α : Type} {f : α → List Value} : ∀ {css : List (List Value)}, (∀ x ∈ css, ∃ s, x = f s) → ∃ l : List α, css = l.map f
  | [], _ => ⟨[], rfl⟩
  | x :: css, h => by
    obtain ⟨s, hs⟩ := h x (by simp)
    obtain ⟨l, hl⟩ := map_of_each (css := css) (fun y hy => h y (by simp [hy]))
    exact ⟨s :: l, by rw [hs, hl]; rfl⟩
end
end Go.Mv

/- From a walk that turns nothing (Fr Nob) to what a law's row asks behind the call. -/
namespace Go.Mv
open Go.RowKit Go.ChangeShapes Go.WideShapes

/-- the arguments read behind the call as they read before -/
theorem Below.trodAll {H : Type} {enc : TypeId × Value → H} {P : Program} (hl : laidOutB P = true) {W W' : World} (hb : Below W.heap.size W W') :
    ∀ (ts : List TypeId) (vs : List Value) (ds : List (DataW H)) (ps : List MemPlace), (∀ t ∈ ts, P.readableRec t = true ∧ t < P.types.size) → DataW.TrodAll enc P W 0 (fun _ => true) true ts vs ds ps → (∀ x ∈ ps, x.block < W.heap.size) →
      DataW.TrodAll enc P W' 0 (fun b => decide (b < W.heap.size)) true ts vs ds ps
  | [], vs, ds, ps, _, h, _ => by
    obtain ⟨rfl, rfl, rfl⟩ := trodAll_nil h
    exact trodAll_mk0
  | t :: ts, vs, ds, ps, hr, h, hlt => by
    obtain ⟨v, vs', d, ds', p, q, rfl, rfl, rfl, h0, hs⟩ := trodAll_cons h
    have h1 := hr t (by simp)
    exact trodAll_cons_mk (Below.trod hl h1.1 h1.2 h0 hb (fun x hx => hlt x (by simp [hx]))) (Below.trodAll hl hb ts vs' ds' q (fun t ht => hr t (by simp [ht])) hs (fun x hx => hlt x (by simp [hx])))

/-- what a law's row asks behind the call -/
theorem law_post {H : Type} {enc : TypeId × Value → H} {P : Program} {f : Func} {s : ChangeSpec} {W W' : World} {args : Array Value} {ds gs : List (DataW H)} {before : List MemPlace}
    (hl : laidOutB P = true) (hr : ∀ t ∈ f.params.toList, P.readableRec t = true ∧ t < P.types.size) (hW : DataW.Whole enc P f.params.toList s.vars false W args.toList ds gs before)
    (hv : s.vars = []) (hres : (s.fn H (ds ++ gs)).results = [.lit (.bool true)]) (harg : (s.fn H (ds ++ gs)).args = ds) (hvar : (s.fn H (ds ++ gs)).vars = [])
    {tb : TypeId} (hrt : f.resultTypes = #[tb]) (hu : P.underlying tb = some .bool) (hf : Fr Nob W W') :
    s.post enc P f false true false false W args (.bool true) W' := by
  have hW' := hW
  obtain ⟨p, q, hA, hV, rfl, hfz, hnd⟩ := hW
  rw [hv] at hV
  obtain ⟨rfl, rfl⟩ := trodVars_none hV
  have hlt : ∀ x ∈ p ++ [], x.block < W.heap.size := fun x hx => hW'.lt x hx
  refine ⟨ds, [], p ++ [], [], p, [], hW', ?_, ?_, ?_, World.keptBut_mono (fun x hx => ⟨hx, ?_⟩) (hf.below.frame (· ∈ p ++ [])), fun h => by cases h⟩
  · rw [hres, hrt]
    exact trodAll_mk1 (shut_bool hu true)
  · rw [harg]
    exact Below.trodAll hl hf.below _ _ _ _ hr hA (fun x hx => hlt x (by simp [hx]))
  · rw [hvar, hv]; exact rfl
  · simp only [List.append_nil] at hx
    exact .inr (.inl hx)
end Go.Mv
