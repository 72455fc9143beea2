/- Whole arrays in memory: load, store, result, over the words of Mem; Literals of structs and of slices, boxes; One-cell literals of any kind; owned slices and other blocks; What a call knows of the blocks that are its own: one fact for all of them; Plain numbers: a number as words of 64 bits; sums, differences and products word by word. -/
import Derived.Test.YtmegaegedlbckaaMgNumListsProof1
import Derived.Deep.MidRow
import Derived.Laws.Tables
import Derived.Great.BuildSlice
namespace Go.Mv
open Go.RowKit
variable {P : Program}

theorem Has.setCells {g : Nat} {T : TypeId} : ∀ (cs : List Value) (o : Nat) (L : List Value) (w : World), Has w g L T → o + cs.length ≤ L.length → Has (w.setCells g o cs) g (splice L o cs) T ∧ Fr (One g) w (w.setCells g o cs) ∧ (w.setCells g o cs).heap.size = w.heap.size
  | [], o, L, w, h, _ => ⟨by rw [splice_nil]; exact h, Fr.refl _ _, rfl⟩
  | v :: cs, o, L, w, h, hl => by
    simp only [List.length_cons] at hl
    obtain ⟨h1, h2, h3⟩ := Has.setCells cs (o + 1) (L.set o v) (w.setCell ⟨g, o, none⟩ v) (h.set o v) (by simp; omega)
    rw [splice_cons L o v cs (by omega)] at h1
    refine ⟨h1, ((Fr.refl (One g) w).setCell g o none v (fun _ => rfl)).trans h2 (fun _ _ t => t), ?_⟩
    show ((w.setCell ⟨g, o, none⟩ v).setCells g (o + 1) cs).heap.size = _
    rw [h3]; simp [World.setCell]

theorem Has.range {w : World} {g : Nat} {L : List Value} {T : TypeId} (h : Has w g L T) (o : Nat) (cs : List Value) (hcs : (L.drop o).take cs.length = cs) : w.rangeAt g o cs := by
  intro j v hv
  rw [h.get]
  have : j < cs.length := by
    rcases Nat.lt_or_ge j cs.length with k | k
    · exact k
    · simp [List.getElem?_eq_none k] at hv
  rw [← hcs, List.getElem?_take, if_pos this, List.getElem?_drop] at hv
  exact hv
theorem Has.there {w : World} {g : Nat} {L : List Value} {T : TypeId} (h : Has w g L T) (o n : Nat) (hn : o + n ≤ L.length) : w.there g o n := by
  intro j hj
  obtain ⟨v, h1, h2⟩ := h.ready (i := o + j) (by omega)
  exact ⟨by rw [h1]; rfl, h2⟩

section
variable {w : World} {ops : Array Oper} {rest : List Oper} {o : Oper} {a : Act} {Q : Exit → Act → World → Prop}
/-- a whole array is read -/
theorem wl_loadA {ty : TypeId} {x : Operand} (hgd : o.guard = none) (ho : o.op = .load ty x) {n : Nat} {e : TypeId} (hu : P.underlying ty = some (.array n e)) {g p : Nat} (hx : a.eval x = .pointer (some ⟨g, p, none⟩))
    {L : List Value} {T : TypeId} (hg : Has w g L T) (cs : List Value) (hcs : (L.drop p).take cs.length = cs) (hi : (P.info? ty).map (·.size) = some cs.length)
    (h : wpList P ops Q rest (a.put o.dst (.agg cs.toArray)) w) : wpList P ops Q (o :: rest) a w :=
  wpList_load_mid hgd ty x ho g p hx cs _ (hg.range p cs hcs) hu rfl hi h
/-- a whole array is stored -/
theorem wl_storeA {ty : TypeId} {x y : Operand} (hgd : o.guard = none) (ho : o.op = .store ty x y) {g p : Nat} (hx : a.eval x = .pointer (some ⟨g, p, none⟩)) {cs : List Value} (hy : a.eval y = .agg cs.toArray)
    {L : List Value} {T : TypeId} (hg : Has w g L T) (hn : p + cs.length ≤ L.length) (hi : (P.info? ty).map (·.size) = some cs.length) (h1 : ∀ v ∈ cs, v.oneCell' = true)
    (h : ∀ w', Has w' g (splice L p cs) T → Fr (One g) w w' → w'.heap.size = w.heap.size → wpList P ops Q rest (a.put o.dst undef) w') : wpList P ops Q (o :: rest) a w := by
  obtain ⟨k1, k2, k3⟩ := Has.setCells cs p L w hg hn
  exact wpList_store_mid hgd ty x y ho g p cs.toArray hx hy (by simpa using hg.there p cs.length hn) (by simpa using hi) (all_oneCell_toArray h1) (by simpa using h _ k1 k2 k3)
end

theorem splice_whole (L cs : List Value) (h : cs.length = L.length) : splice L 0 cs = cs := by
  simp [splice, h]

/-- the result is an array in memory -/
theorem results_arr {fn : Func} {p : Tmp} {ty : TypeId} (h : fn.results = #[.cell p ty]) {tmps : Array Value} {w : World} {g : Nat} {L : List Value} {T : TypeId}
    (hp : tmps.getD p undef = .pointer (some ⟨g, 0, none⟩)) (hg : Has w g L T) {n : Nat} {e : TypeId} (hu : P.underlying ty = some (.array n e)) (hi : (P.info? ty).map (·.size) = some L.length) :
    (results fn tmps).run P w = .ok (.agg L.toArray) w := by
  obtain ⟨lo, hi', hh, -⟩ := hg
  exact results_cell_row h tmps w g T L.toArray _ _ hp hh hu rfl (by simpa using hi)

open Mvp in
/-- a row of bytes that is filled from the left -/
theorem Has.fillB {w : World} {g : Nat} {T : TypeId} {F I : List UInt8} {k : Nat} (h : Has w g (bs (fill F I k)) T) (hl : F.length = I.length) (hk : k < F.length) : Has (w.setCell ⟨g, k, none⟩ (.int .u8 ((F.getD k 0).toNat : Int))) g (bs (fill F I (k + 1))) T := by
  have := h.set k (.int .u8 ((F.getD k 0).toNat : Int))
  rwa [bs_set, fill_set _ _ _ hl hk] at this

section
variable {w : World} {ops : Array Oper} {rest : List Oper} {o : Oper} {a : Act} {Q : Exit → Act → World → Prop}
/-- a new variable -/
theorem wl_alloc {e : TypeId} (hgd : o.guard = none) (ho : o.op = .alloc e) {z : Value} (hi : (P.info? e).map (·.zero) = some (some z)) (L : List Value) (hL : z.cells.toList = L)
    (h : ∀ w', Has w' w.heap.size L e → Fr Nob w w' → w'.heap.size = w.heap.size + 1 → wpList P ops Q rest (a.put o.dst (.pointer (some ⟨w.heap.size, 0, none⟩))) w') : wpList P ops Q (o :: rest) a w := by
  refine wpList_plain hgd fun K hK => ?_
  obtain ⟨i, hi1, hz⟩ : ∃ i, P.info? e = some i ∧ i.zero = some z := by simpa using hi
  have hr : (Instr.alloc e true (.tuple #[])).run P w = .ok (.pointer (some ⟨w.heap.size, 0, none⟩)) (w.alloc (.cells z.cells e)) := by
    simp [Instr.alloc, zeroValue, typeInfo, hi1, hz, newVar, newRow]
  unfold Oper.wp execOp
  simp only [ho, Sem.run_bind, Sem.run_pure, Result.andThen_ok, hr]
  refine hK _ _ (h _ ?_ ((Fr.refl _ w).alloc _) (by simp))
  have := Has.new w z.cells e
  rwa [hL] at this
end

section
variable {w : World} {ops : Array Oper} {rest : List Oper} {o : Oper} {a : Act} {Q : Exit → Act → World → Prop}
theorem run_sliceBound (k : IntKind) (n y : Nat) (code : BoundsCode) (h : n ≤ y) : (Instr.sliceBound (.int k (n : Int)) y code).run P w = .ok n w := by
  have : ((n : Int) ≤ (y : Int)) := by omega
  simp [Instr.sliceBound, asIntOf, this]

/-- an array in memory, cut: x[l:h:m] -/
theorem wl_cutA {ty : TypeId} {x lo hi mx : Operand} (hgd : o.guard = none) (ho : o.op = .slice ty x (some lo) (some hi) (some mx)) {n : Nat} {e : TypeId} (hu : P.underlying ty = some (.array n e)) (hsz : (P.info? e).map (·.size) = some 1)
    {g p : Nat} (hx : a.eval x = .pointer (some ⟨g, p, none⟩)) {kl kh km : IntKind} {il ih im : Int} (hl : a.eval lo = .int kl il) (hh : a.eval hi = .int kh ih) (hm : a.eval mx = .int km im)
    (l h m : Nat) (el : il = l) (eh : ih = h) (em : im = m) (h1 : l < m) (h2 : l ≤ h) (h3 : h ≤ m) (h4 : m ≤ n)
    (hK : wpList P ops Q rest (a.put o.dst (.slice (some ⟨g, p + l, none⟩) (h - l) (m - l))) w) : wpList P ops Q (o :: rest) a w := by
  refine wpList_plain hgd fun K hK' => ?_
  obtain ⟨i, hi1, hi2⟩ : ∃ i, P.info? e = some i ∧ i.size = 1 := by simpa using hsz
  subst el eh em
  have hr : (Instr.sliceAt ty (.pointer (some ⟨g, p, none⟩)) (some (.int kl (l : Int))) (some (.int kh (h : Int))) (some (.int km (m : Int)))).run P w = .ok (.slice (some ⟨g, p + l, none⟩) (h - l) (m - l)) w := by
    have hne : ¬ m = l := by omega
    simp [Instr.sliceAt, run_underlying hu, Instr.sliceBounds, run_sliceBound, h2, h3, h4, sizeOf, typeInfo, hi1, hi2, hne, addr_add, Instr.sureAddr]
  unfold Oper.wp execOp
  simp only [ho, hx, hl, hh, hm, Option.map_some, Sem.run_bind, Sem.run_pure, Result.andThen_ok, hr]
  exact hK' _ _ hK

/-- where a cut of a slice lies -/
def cutAt (p : Option Addr) (l m : Nat) : Option Addr := if m = l then p else p.map (·.add l)
theorem cutAt_rd {w : World} {p : Option Addr} {n : Nat} {vs : List Value} (hr : Rd w p n vs) (l h m : Nat) (h2 : l ≤ h) (h3 : h ≤ m) (h4 : h ≤ n) : Rd w (cutAt p l m) (h - l) ((vs.drop l).take (h - l)) := by
  have hlen := hr.len
  refine ⟨by simp; omega, ?_⟩
  rcases Nat.eq_zero_or_pos (h - l) with h0 | h0
  · exact .inl h0
  · obtain ⟨b, o, rfl, hc⟩ := hr.at (by omega)
    refine .inr ⟨b, o + l, ?_, hc.sub l (h - l)⟩
    simp [cutAt, show ¬ m = l by omega, addr_add]
theorem cutAt_block {p : Option Addr} {l m : Nat} {x : Addr} (h : cutAt p l m = some x) : ∃ y, p = some y ∧ y.block = x.block := by
  unfold cutAt at h
  split at h
  · exact ⟨x, h, rfl⟩
  · cases p with
    | none => cases h
    | some y =>
      refine ⟨y, rfl, ?_⟩
      simp only [Option.map_some, Option.some.injEq] at h
      subst h
      unfold Addr.add
      split <;> rfl
theorem cutAt_off {S : Nat → Prop} {p : Option Addr} (h : Off S p) (l m : Nat) : Off S (cutAt p l m) := by
  intro x hx
  obtain ⟨y, hy, e⟩ := cutAt_block hx
  rw [← e]; exact h y hy

/-- a slice of one-cell elements, cut: x[l:h] -/
theorem wl_cut {ty : TypeId} {x : Operand} {lo hi : Option Operand} (hgd : o.guard = none) (ho : o.op = .slice ty x lo hi none) {e : TypeId} (hu : P.underlying ty = some (.slice e)) (hsz : (P.info? e).map (·.size) = some 1)
    {p : Option Addr} {n c : Nat} (hx : a.eval x = .slice p n c) (l h : Nat) (hl : lo.elim (l = 0) (fun y => ∃ k, a.eval y = .int k (l : Int))) (hh : hi.elim (h = n) (fun y => ∃ k, a.eval y = .int k (h : Int))) (h2 : l ≤ h) (h3 : h ≤ c)
    (hK : wpList P ops Q rest (a.put o.dst (.slice (cutAt p l c) (h - l) (c - l))) w) : wpList P ops Q (o :: rest) a w := by
  refine wpList_plain hgd fun K hK' => ?_
  obtain ⟨i, hi1, hi2⟩ : ∃ i, P.info? e = some i ∧ i.size = 1 := by simpa using hsz
  have hr : (Instr.sliceAt ty (.slice p n c) (lo.map a.eval) (hi.map a.eval) none).run P w = .ok (.slice (cutAt p l c) (h - l) (c - l)) w := by
    cases lo with
    | none =>
      simp only [Option.elim] at hl
      subst hl
      cases hi with
      | none =>
        simp only [Option.elim] at hh
        subst hh
        simp [Instr.sliceAt, Instr.slice, run_underlying hu, Instr.sliceBounds, sizeOf, typeInfo, hi1, cutAt]
      | some y =>
        obtain ⟨k, hk⟩ := hh
        simp [Instr.sliceAt, Instr.slice, run_underlying hu, Instr.sliceBounds, run_sliceBound, h3, sizeOf, typeInfo, hi1, cutAt, hk]
    | some z =>
      obtain ⟨kz, hkz⟩ := hl
      cases hi with
      | none =>
        simp only [Option.elim] at hh
        subst hh
        simp [Instr.sliceAt, Instr.slice, run_underlying hu, Instr.sliceBounds, run_sliceBound, h2, sizeOf, typeInfo, hi1, hi2, cutAt, hkz]
      | some y =>
        obtain ⟨k, hk⟩ := hh
        simp [Instr.sliceAt, Instr.slice, run_underlying hu, Instr.sliceBounds, run_sliceBound, h2, h3, sizeOf, typeInfo, hi1, hi2, cutAt, hk, hkz]
  unfold Oper.wp execOp
  simp only [ho, hx, Option.map_none, Sem.run_bind, Sem.run_pure, Result.andThen_ok, hr]
  exact hK' _ _ hK
/-- a slice of one-cell elements, cut: x[l:h:m] -/
theorem wl_cut3 {ty : TypeId} {x : Operand} {lo : Option Operand} {hi mx : Operand} (hgd : o.guard = none) (ho : o.op = .slice ty x lo (some hi) (some mx)) {e : TypeId} (hu : P.underlying ty = some (.slice e)) (hsz : (P.info? e).map (·.size) = some 1)
    {p : Option Addr} {n c : Nat} (hx : a.eval x = .slice p n c) (l h m : Nat) (hl : lo.elim (l = 0) (fun y => ∃ k, a.eval y = .int k (l : Int))) {kh km : IntKind} {ih im : Int} (hh : a.eval hi = .int kh ih) (hm : a.eval mx = .int km im) (eh : ih = h) (em : im = m) (h2 : l ≤ h) (h3 : h ≤ m) (h4 : m ≤ c)
    (hK : wpList P ops Q rest (a.put o.dst (.slice (cutAt p l m) (h - l) (m - l))) w) : wpList P ops Q (o :: rest) a w := by
  refine wpList_plain hgd fun K hK' => ?_
  obtain ⟨i, hi1, hi2⟩ : ∃ i, P.info? e = some i ∧ i.size = 1 := by simpa using hsz
  subst eh em
  have hr : (Instr.sliceAt ty (.slice p n c) (lo.map a.eval) (some (a.eval hi)) (some (a.eval mx))).run P w = .ok (.slice (cutAt p l m) (h - l) (m - l)) w := by
    cases lo with
    | none =>
      simp only [Option.elim] at hl
      subst hl
      simp [Instr.sliceAt, Instr.slice, run_underlying hu, Instr.sliceBounds, run_sliceBound, h3, h4, sizeOf, typeInfo, hi1, cutAt, hh, hm]
    | some z =>
      obtain ⟨kz, hkz⟩ := hl
      simp [Instr.sliceAt, Instr.slice, run_underlying hu, Instr.sliceBounds, run_sliceBound, h2, h3, h4, sizeOf, typeInfo, hi1, hi2, cutAt, hkz, hh, hm]
  unfold Oper.wp execOp
  simp only [ho, hx, Option.map_some, Sem.run_bind, Sem.run_pure, Result.andThen_ok, hr]
  exact hK' _ _ hK
end

theorem Rd.lt {w : World} {b o n : Nat} {vs : List Value} (h : Rd w (some ⟨b, o, none⟩) n vs) (hn : 0 < n) : b < w.heap.size := by
  obtain ⟨b', o', he, hc⟩ := h.at hn
  simp only [Option.some.injEq, Addr.mk.injEq] at he
  obtain ⟨rfl, rfl, -⟩ := he
  have := hc.cell (i := 0) (by rw [h.len]; exact hn)
  exact block_lt_of_cell this
theorem cell_other (w : World) (g i : Nat) (v : Value) (b j : Nat) (h : b ≠ g) : (w.setCell ⟨g, i, none⟩ v).cell? ⟨b, j, none⟩ = w.cell? ⟨b, j, none⟩ :=
  World.cell?_of_block (a := ⟨b, j, none⟩) (heap_setCell_other w ⟨g, i, none⟩ b v h)
end Go.Mv

/- Literals of structs and of slices, boxes. -/
namespace Go.Mv
open Go.RowKit
variable {P : Program}

theorem wl_build {w : World} {ops : Array Oper} {rest : List Oper} {o : Oper} {a : Act} {Q : Exit → Act → World → Prop} {t : TypeId} {parts : Array (Nat × Operand)} (hgd : o.guard = none) (ho : o.op = .build t parts) (cells : Array Value)
    (hb : P.built t (parts.map fun (i, x) => (i, a.eval x)).toList = some cells) (h : wpList P ops Q rest (a.put o.dst (.agg cells)) w) : wpList P ops Q (o :: rest) a w := by
  refine wpList_plain hgd fun K hK => ?_
  have hr := run_build (P := P) w t (parts.map fun (i, x) => (i, a.eval x)) cells hb
  unfold Oper.wp execOp
  simp only [ho, Sem.run_bind, Sem.run_pure, Result.andThen_ok, hr]
  exact hK _ _ h
theorem wl_build0 {w : World} {ops : Array Oper} {rest : List Oper} {o : Oper} {a : Act} {Q : Exit → Act → World → Prop} {t : TypeId} (hgd : o.guard = none) (ho : o.op = .build t #[]) (cells : Array Value)
    (hb : P.built t [] = some cells) (h : wpList P ops Q rest (a.put o.dst (.agg cells)) w) : wpList P ops Q (o :: rest) a w :=
  wl_build hgd ho cells (by simpa using hb) h
/-- a slice's block is there already -/
def Old (w : World) (a : Option Addr) : Prop := ∀ x, a = some x → x.block < w.heap.size
theorem Old.grow {w w' : World} {a : Option Addr} (h : Old w a) (hs : w.heap.size ≤ w'.heap.size) : Old w' a := fun x hx => Nat.lt_of_lt_of_le (h x hx) hs
theorem Old.off {w : World} {a : Option Addr} (h : Old w a) {g : Nat} (hg : w.heap.size ≤ g) : Off (One g) a := fun x hx (e : x.block = g) => by have := h x hx; omega
theorem Old.none (w : World) : Old w .none := fun _ h => by cases h
theorem Old.has {w : World} {g : Nat} {L : List Value} {T : TypeId} (h : Has w g L T) (o : Nat) : Old w (some ⟨g, o, .none⟩) := fun x hx => by cases hx; exact h.lt
theorem wl_box {w : World} {ops : Array Oper} {rest : List Oper} {o : Oper} {a : Act} {Q : Exit → Act → World → Prop} {e : TypeId} {x : Operand} (hgd : o.guard = none) (ho : o.op = .box e x) {v : Value} (hx : a.eval x = v) (L : List Value) (hL : v.cells.toList = L)
    (h : ∀ w', Has w' w.heap.size L e → Fr Nob w w' → w'.heap.size = w.heap.size + 1 → wpList P ops Q rest (a.put o.dst (.pointer (some ⟨w.heap.size, 0, none⟩))) w') : wpList P ops Q (o :: rest) a w := by
  refine wpList_plain hgd fun K hK => ?_
  have hr : (Instr.box e v).run P w = .ok (.pointer (some ⟨w.heap.size, 0, none⟩)) (w.alloc (.cells v.cells e)) := by
    simp [Instr.box, newVar, newRow]
  unfold Oper.wp execOp
  simp only [ho, hx, Sem.run_bind, Sem.run_pure, Result.andThen_ok, hr]
  refine hK _ _ (h _ ?_ ((Fr.refl _ w).alloc _) (by simp))
  have := Has.new w v.cells e
  rwa [hL] at this
/-- four bytes in a row -/
theorem wl_four {w : World} {ops : Array Oper} {rest : List Oper} {o : Oper} {a : Act} {Q : Exit → Act → World → Prop} {t e : TypeId} {y0 y1 y2 y3 : Operand} (hgd : o.guard = none) (ho : o.op = .buildSlice t 4 #[(0, y0), (1, y1), (2, y2), (3, y3)])
    (hu : P.underlying t = some (.slice e)) (hi0 : (P.info? e).map (fun i => (i.zero, i.size, i.bytes)) = some (some (.int .u8 0), 1, 1)) (x0 x1 x2 x3 : UInt8)
    (h0 : a.eval y0 = .int .u8 (x0.toNat : Int)) (h1 : a.eval y1 = .int .u8 (x1.toNat : Int)) (h2 : a.eval y2 = .int .u8 (x2.toNat : Int)) (h3 : a.eval y3 = .int .u8 (x3.toNat : Int))
    (h : ∀ w', Has w' w.heap.size (bs [x0, x1, x2, x3]) e → Fr Nob w w' → w'.heap.size = w.heap.size + 1 → wpList P ops Q rest (a.put o.dst (.slice (some ⟨w.heap.size, 0, none⟩) 4 4)) w') : wpList P ops Q (o :: rest) a w := by
  obtain ⟨i, hi, hz⟩ : ∃ i, P.info? e = some i ∧ (i.zero, i.size, i.bytes) = (some (.int .u8 0), 1, 1) := by simpa using hi0
  simp only [Prod.mk.injEq] at hz
  obtain ⟨hz, hsz, hby⟩ := hz
  have hp : ((#[(0, y0), (1, y1), (2, y2), (3, y3)] : Array (Nat × Operand)).map fun (i, x) => (i, a.eval x)).toList = [(0, .int .u8 (x0.toNat : Int)), (1, .int .u8 (x1.toNat : Int)), (2, .int .u8 (x2.toNat : Int)), (3, .int .u8 (x3.toNat : Int))] := by simp [h0, h1, h2, h3]
  have hf : Instr.fill (fun j => some (j * i.size, i.size)) ((Array.range (4 * i.size)).map ((Value.int .u8 0).cells[· % (Value.int .u8 0).cells.size]!)) ((#[(0, y0), (1, y1), (2, y2), (3, y3)] : Array (Nat × Operand)).map fun (i, x) => (i, a.eval x)).toList = some (bs [x0, x1, x2, x3]).toArray := by
    rw [hp, hsz]
    exact Great.fill_flat (bs [x0, x1, x2, x3]) _ (fun v hv => by simp [bs] at hv; rcases hv with rfl | rfl | rfl | rfl <;> rfl) (by simp [bs])
  exact wpList_buildSlice hgd t e 4 _ ho _ i _ hu hi hz (by rw [hsz]; decide) (by rw [hsz]; decide) hf (h _ (Has.new w (bs [x0, x1, x2, x3]).toArray e) ((Fr.refl _ w).alloc _) (by simp))
/-- one byte in a row -/
theorem wl_one {w : World} {ops : Array Oper} {rest : List Oper} {o : Oper} {a : Act} {Q : Exit → Act → World → Prop} {t e : TypeId} {y : Operand} (hgd : o.guard = none) (ho : o.op = .buildSlice t 1 #[(0, y)])
    (hu : P.underlying t = some (.slice e)) (hi0 : (P.info? e).map (fun i => (i.zero, i.size, i.bytes)) = some (some (.int .u8 0), 1, 1)) (x0 : UInt8)
    (hy : a.eval y = .int .u8 (x0.toNat : Int))
    (h : ∀ w', Has w' w.heap.size (bs [x0]) e → Fr Nob w w' → w'.heap.size = w.heap.size + 1 → wpList P ops Q rest (a.put o.dst (.slice (some ⟨w.heap.size, 0, none⟩) 1 1)) w') : wpList P ops Q (o :: rest) a w := by
  obtain ⟨i, hi, hz⟩ : ∃ i, P.info? e = some i ∧ (i.zero, i.size, i.bytes) = (some (.int .u8 0), 1, 1) := by simpa using hi0
  simp only [Prod.mk.injEq] at hz
  obtain ⟨hz, hsz, hby⟩ := hz
  have hp : ((#[(0, y)] : Array (Nat × Operand)).map fun (i, x) => (i, a.eval x)).toList = [(0, .int .u8 (x0.toNat : Int))] := by simp [hy]
  have hf : Instr.fill (fun j => some (j * i.size, i.size)) ((Array.range (1 * i.size)).map ((Value.int .u8 0).cells[· % (Value.int .u8 0).cells.size]!)) ((#[(0, y)] : Array (Nat × Operand)).map fun (i, x) => (i, a.eval x)).toList = some (bs [x0]).toArray := by
    rw [hp, hsz]
    exact Great.fill_flat (bs [x0]) _ (fun v hv => by simp [bs] at hv; subst hv; rfl) (by simp [bs])
  exact wpList_buildSlice hgd t e 1 _ ho _ i _ hu hi hz (by rw [hsz]; decide) (by rw [hsz]; decide) hf (h _ (Has.new w (bs [x0]).toArray e) ((Fr.refl _ w).alloc _) (by simp))
/-- an owned slice's cells: read and written -/
theorem Own.cells {w : World} {base : Nat} {T : TypeId} {v : Value} {n : Nat} {L : List Value} (h : Own w base T 1 v n L) (hn : 0 < n) :
    ∃ g o cap, v = .slice (some ⟨g, o, none⟩) n cap ∧ base ≤ g ∧ g < w.heap.size ∧ n ≤ cap ∧ cap ≤ maxLen ∧ (∀ i x, L[i]? = some x → w.cell? ⟨g, o + i, none⟩ = some x) ∧ (∀ i, i < n → w.frozen? ⟨g, o + i, none⟩ = false) ∧
      (∀ i x, i < n → Own (w.setCell ⟨g, o + i, none⟩ x) base T 1 v n (L.set i x)) := by
  obtain ⟨hl, h | ⟨g, o, cap, B, rfl, hb, hg, h1, h2, h3, h4⟩⟩ := h
  · obtain ⟨_, h0⟩ := h; omega
  · rw [Nat.mul_one] at h3 h4 hl
    refine ⟨g, o, cap, rfl, hb, hg.lt, h1, h2, ?_, ?_, ?_⟩
    · intro i x hx
      rw [← h4, List.getElem?_take] at hx
      split at hx
      · rw [List.getElem?_drop] at hx; exact hg.cell hx
      · cases hx
    · intro i hi; exact hg.free _ (by omega)
    · intro i x hi
      refine ⟨by rw [List.length_set, hl, Nat.mul_one], .inr ⟨g, o, cap, B.set (o + i) x, rfl, hb, hg.set (o + i) x, h1, h2, by rw [List.length_set]; omega, ?_⟩⟩
      rw [Nat.mul_one, ← h4]
      apply List.ext_getElem?
      intro j
      simp only [List.getElem?_take, List.getElem?_drop, List.getElem?_set]
      by_cases hj : j < n
      · rw [if_pos hj]
        by_cases e : i = j
        · subst e
          rw [if_pos rfl, if_pos rfl, if_pos (by omega), if_pos (by rw [List.length_take, List.length_drop]; omega)]
        · rw [if_neg (by omega), if_neg e, if_pos hj]
      · rw [if_neg hj]
        by_cases e : i = j
        · omega
        · rw [if_neg e, if_neg hj]
end Go.Mv

/- One-cell literals of any kind; owned slices and other blocks. -/
namespace Go.Mv
open Go.RowKit
variable {P : Program}
/-- one cell in a row -/
theorem wl_one1 {w : World} {ops : Array Oper} {rest : List Oper} {o : Oper} {a : Act} {Q : Exit → Act → World → Prop} {t e : TypeId} {y : Operand} (hgd : o.guard = none) (ho : o.op = .buildSlice t 1 #[(0, y)])
    (hu : P.underlying t = some (.slice e)) {z : Value} {by_ : Nat} (hi0 : (P.info? e).map (fun i => (i.zero, i.size, i.bytes)) = some (some z, 1, by_)) {v : Value} (hv : v.cells = #[v])
    (hy : a.eval y = v)
    (h : ∀ w', Has w' w.heap.size [v] e → Fr Nob w w' → w'.heap.size = w.heap.size + 1 → wpList P ops Q rest (a.put o.dst (.slice (some ⟨w.heap.size, 0, none⟩) 1 1)) w') : wpList P ops Q (o :: rest) a w := by
  obtain ⟨i, hi, hz⟩ : ∃ i, P.info? e = some i ∧ (i.zero, i.size, i.bytes) = (some z, 1, by_) := by simpa using hi0
  simp only [Prod.mk.injEq] at hz
  obtain ⟨hz, hsz, hby⟩ := hz
  have hp : ((#[(0, y)] : Array (Nat × Operand)).map fun (i, x) => (i, a.eval x)).toList = [(0, v)] := by simp [hy]
  have hf : Instr.fill (fun j => some (j * i.size, i.size)) ((Array.range (1 * i.size)).map (z.cells[· % z.cells.size]!)) ((#[(0, y)] : Array (Nat × Operand)).map fun (i, x) => (i, a.eval x)).toList = some [v].toArray := by
    rw [hp, hsz]
    exact Great.fill_flat [v] _ (fun u hu => by simp at hu; subst hu; exact hv) (by simp)
  exact wpList_buildSlice hgd t e 1 _ ho _ i _ hu hi hz (by rw [hsz]; decide) (by rw [hsz]; decide) hf (h _ (Has.new w [v].toArray e) ((Fr.refl _ w).alloc _) (by simp))
/-- a block of another type is not the slice's own -/
theorem Own.ne {w : World} {base sz n g : Nat} {T T' : TypeId} {v : Value} {L L' : List Value} (h : Own w base T sz v n L) (hg : Has w g L' T') (hT : T ≠ T') : ¬ OwnB v g := by
  intro hv
  obtain ⟨_, ⟨rfl, _⟩ | ⟨g', o, cap, B, rfl, _, hg', _⟩⟩ := h
  · cases hv
  · have : g' = g := by simpa [OwnB, Value.ownBlock] using hv
    subst this
    obtain ⟨_, _, h1, _⟩ := hg
    obtain ⟨_, _, h2, _⟩ := hg'
    rw [h1] at h2
    simp at h2
    exact hT h2.2.1.symm
end Go.Mv

/- What a call knows of the blocks that are its own: one fact for all of them. -/
namespace Go.Mv
open Go.RowKit
variable {P : Program}

/-- the blocks of bl hold what is told; each is new since w0, or may be written (S); no other block that was there at w0 has turned, but those of S -/
structure St (S : Nat → Prop) (w0 w : World) (bl : List (Nat × List Value × TypeId)) : Prop where
  fr : Fr S w0 w
  own : ∀ x ∈ bl, w0.heap.size ≤ x.1 ∨ S x.1
  has : ∀ x ∈ bl, Has w x.1 x.2.1 x.2.2
  ne : bl.Pairwise fun x y => x.1 ≠ y.1

theorem St.start (S : Nat → Prop) (w : World) : St S w w [] := ⟨Fr.refl _ _, by simp, by simp, List.Pairwise.nil⟩
theorem St.at {S : Nat → Prop} {w0 w : World} {bl : List (Nat × List Value × TypeId)} (h : St S w0 w bl) (i : Nat) {g : Nat} {L : List Value} {T : TypeId} (hi : bl[i]? = some (g, L, T)) : Has w g L T :=
  h.has _ (List.mem_of_getElem? hi)
theorem St.neAt {S : Nat → Prop} {w0 w : World} {bl : List (Nat × List Value × TypeId)} (h : St S w0 w bl) {i j : Nat} {x y : Nat × List Value × TypeId} (hi : bl[i]? = some x) (hj : bl[j]? = some y) (hij : i ≠ j) : x.1 ≠ y.1 := by
  obtain ⟨hi1, rfl⟩ := List.getElem?_eq_some_iff.1 hi
  obtain ⟨hj1, rfl⟩ := List.getElem?_eq_some_iff.1 hj
  rcases Nat.lt_or_ge i j with k | k
  · exact List.pairwise_iff_getElem.1 h.ne i j hi1 hj1 k
  · exact (List.pairwise_iff_getElem.1 h.ne j i hj1 hi1 (by omega)).symm
theorem St.keep {S : Nat → Prop} {w0 w w' : World} {bl : List (Nat × List Value × TypeId)} (h : St S w0 w bl) (hf : Fr Nob w w') : St S w0 w' bl :=
  ⟨h.fr.same hf, h.own, fun x hx => (h.has x hx).keep hf id, h.ne⟩
theorem St.drew {S : Nat → Prop} {w0 w : World} {bl : List (Nat × List Value × TypeId)} (h : St S w0 w bl) : St S w0 w.drew bl := ⟨h.fr.drew, h.own, h.has, h.ne⟩
theorem St.drewN {S : Nat → Prop} {w0 w : World} {bl : List (Nat × List Value × TypeId)} (h : St S w0 w bl) (n : Nat) : St S w0 (w.drewN n) bl := ⟨h.fr.drewN n, h.own, h.has, h.ne⟩
theorem St.less {S : Nat → Prop} {w0 w : World} {bl bl' : List (Nat × List Value × TypeId)} (h : St S w0 w bl) (hs : bl'.Sublist bl) : St S w0 w bl' :=
  ⟨h.fr, fun x hx => h.own x (hs.subset hx), fun x hx => h.has x (hs.subset hx), h.ne.sublist hs⟩
theorem St.new {S : Nat → Prop} {w0 w w' : World} {bl : List (Nat × List Value × TypeId)} (h : St S w0 w bl) (hf : Fr Nob w w') {g : Nat} {L : List Value} {T : TypeId} (hg : Has w' g L T) (hn : w.heap.size ≤ g) : St S w0 w' (bl ++ [(g, L, T)]) := by
  refine ⟨h.fr.same hf, ?_, ?_, ?_⟩
  · intro x hx
    rcases List.mem_append.1 hx with hx | hx
    · exact h.own x hx
    · simp only [List.mem_singleton] at hx
      subst hx
      exact .inl (Nat.le_trans h.fr.size hn)
  · intro x hx
    rcases List.mem_append.1 hx with hx | hx
    · exact (h.has x hx).keep hf id
    · simp only [List.mem_singleton] at hx
      subst hx
      exact hg
  · rw [List.pairwise_append]
    refine ⟨h.ne, List.pairwise_singleton _ _, ?_⟩
    intro x hx y hy
    simp only [List.mem_singleton] at hy
    subst hy
    have := (h.has x hx).lt
    show x.1 ≠ g
    omega
theorem St.put {S : Nat → Prop} {w0 w w' : World} {bl : List (Nat × List Value × TypeId)} (h : St S w0 w bl) (i : Nat) {g : Nat} {L L' : List Value} {T : TypeId} (hi : bl[i]? = some (g, L, T)) (hf : Fr (One g) w w') (hg : Has w' g L' T) : St S w0 w' (bl.set i (g, L', T)) := by
  obtain ⟨hi1, hi2⟩ := List.getElem?_eq_some_iff.1 hi
  refine ⟨?_, ?_, ?_, ?_⟩
  · refine h.fr.trans hf fun j hj hjg => ?_
    have hjg' : j = g := hjg
    subst hjg'
    rcases h.own _ (List.mem_of_getElem? hi) with k | k
    · have k' : w0.heap.size ≤ j := k
      omega
    · exact k
  · intro x hx
    rcases List.mem_or_eq_of_mem_set hx with hx | rfl
    · exact h.own x hx
    · exact h.own (g, L, T) (List.mem_of_getElem? hi)
  · intro x hx
    obtain ⟨j, hj1, hj2⟩ := List.mem_iff_getElem.1 hx
    rw [List.length_set] at hj1
    rw [List.getElem_set] at hj2
    by_cases e : i = j
    · rw [if_pos e] at hj2; subst hj2; exact hg
    · rw [if_neg e] at hj2
      subst hj2
      refine (h.has _ (List.getElem_mem hj1)).keep hf fun t => ?_
      exact h.neAt hi (List.getElem?_eq_getElem hj1) e (Eq.symm t)
  · rw [List.pairwise_iff_getElem]
    intro j k hj hk hjk
    have e := List.pairwise_iff_getElem.1 h.ne j k (by simpa using hj) (by simpa using hk) hjk
    rw [List.getElem_set, List.getElem_set]
    split
    · rename_i e1; subst e1
      rw [hi2] at e
      split
      · omega
      · exact e
    · split
      · rename_i e2; subst e2; rw [hi2] at e; exact e
      · exact e
/-- one cell of a block is written -/
theorem St.set {S : Nat → Prop} {w0 w : World} {bl : List (Nat × List Value × TypeId)} (h : St S w0 w bl) (i : Nat) {g : Nat} {L : List Value} {T : TypeId} (hi : bl[i]? = some (g, L, T)) (k : Nat) (v : Value) : St S w0 (w.setCell ⟨g, k, none⟩ v) (bl.set i (g, L.set k v, T)) :=
  h.put i hi ((Fr.refl (One g) w).setCell g k none v (fun _ => rfl)) ((h.at i hi).set k v)
/-- a block that came in is taken in -/
theorem St.take {S : Nat → Prop} {w0 w : World} {bl : List (Nat × List Value × TypeId)} (h : St S w0 w bl) {g : Nat} {L : List Value} {T : TypeId} (hg : Has w g L T) (hS : S g) (hn : ∀ x ∈ bl, x.1 ≠ g) : St S w0 w (bl ++ [(g, L, T)]) := by
  refine ⟨h.fr, ?_, ?_, ?_⟩
  · intro x hx
    rcases List.mem_append.1 hx with hx | hx
    · exact h.own x hx
    · simp only [List.mem_singleton] at hx; subst hx; exact .inr hS
  · intro x hx
    rcases List.mem_append.1 hx with hx | hx
    · exact h.has x hx
    · simp only [List.mem_singleton] at hx; subst hx; exact hg
  · rw [List.pairwise_append]
    refine ⟨h.ne, List.pairwise_singleton _ _, ?_⟩
    intro x hx y hy
    simp only [List.mem_singleton] at hy
    subst hy
    exact hn x hx
theorem St.one {w : World} {g : Nat} {L : List Value} {T : TypeId} (hg : Has w g L T) : St (One g) w w [(g, L, T)] := (St.start (One g) w).take hg rfl (by simp)

section
variable {w w0 : World} {ops : Array Oper} {rest : List Oper} {o : Oper} {a : Act} {Q : Exit → Act → World → Prop} {S : Nat → Prop} {bl : List (Nat × List Value × TypeId)}
theorem wl_boxS (hst : St S w0 w bl) {e : TypeId} {x : Operand} (hgd : o.guard = none) (ho : o.op = .box e x) {v : Value} (hx : a.eval x = v) (L : List Value) (hL : v.cells.toList = L)
    (h : ∀ g w', St S w0 w' (bl ++ [(g, L, e)]) → wpList P ops Q rest (a.put o.dst (.pointer (some ⟨g, 0, none⟩))) w') : wpList P ops Q (o :: rest) a w :=
  wl_box hgd ho hx L hL fun w' hg hf _ => h _ w' (hst.new hf hg (Nat.le_refl _))
theorem wl_allocS (hst : St S w0 w bl) {e : TypeId} (hgd : o.guard = none) (ho : o.op = .alloc e) {z : Value} (hi : (P.info? e).map (·.zero) = some (some z)) (L : List Value) (hL : z.cells.toList = L)
    (h : ∀ g w', St S w0 w' (bl ++ [(g, L, e)]) → wpList P ops Q rest (a.put o.dst (.pointer (some ⟨g, 0, none⟩))) w') : wpList P ops Q (o :: rest) a w :=
  wl_alloc hgd ho hi L hL fun w' hg hf _ => h _ w' (hst.new hf hg (Nat.le_refl _))
/-- a whole array is read -/
theorem wl_loadS (hst : St S w0 w bl) (i : Nat) {g : Nat} {L : List Value} {T : TypeId} (hb : bl[i]? = some (g, L, T)) {ty : TypeId} {x : Operand} (hgd : o.guard = none) (ho : o.op = .load ty x) {n : Nat} {e : TypeId} (hu : P.underlying ty = some (.array n e)) (hx : a.eval x = .pointer (some ⟨g, 0, none⟩))
    (hi : (P.info? ty).map (·.size) = some L.length) (h : wpList P ops Q rest (a.put o.dst (.agg L.toArray)) w) : wpList P ops Q (o :: rest) a w :=
  wl_loadA hgd ho hu hx (hst.at i hb) L (by rw [List.drop_zero, List.take_of_length_le (Nat.le_refl _)]) hi h
/-- a whole struct (or array) is read -/
theorem wl_loadSt (hst : St S w0 w bl) (i : Nat) {g : Nat} {L : List Value} {T : TypeId} (hb : bl[i]? = some (g, L, T)) {ty : TypeId} {x : Operand} (hgd : o.guard = none) (ho : o.op = .load ty x) {d : TypeDesc} (hu : P.underlying ty = some d) (hd : d.isRow = true) (hx : a.eval x = .pointer (some ⟨g, 0, none⟩))
    (hi : (P.info? ty).map (·.size) = some L.length) (h : wpList P ops Q rest (a.put o.dst (.agg L.toArray)) w) : wpList P ops Q (o :: rest) a w :=
  wpList_load_mid hgd ty x ho g 0 hx L _ ((hst.at i hb).range 0 L (by rw [List.drop_zero, List.take_of_length_le (Nat.le_refl _)])) hu hd hi h
/-- a whole array is stored -/
theorem wl_storeS (hst : St S w0 w bl) (i : Nat) {g : Nat} {L : List Value} {T : TypeId} (hb : bl[i]? = some (g, L, T)) {ty : TypeId} {x y : Operand} (hgd : o.guard = none) (ho : o.op = .store ty x y) (hx : a.eval x = .pointer (some ⟨g, 0, none⟩)) {cs : List Value} (hy : a.eval y = .agg cs.toArray)
    (hn : cs.length = L.length) (hi : (P.info? ty).map (·.size) = some cs.length) (h1 : ∀ v ∈ cs, v.oneCell' = true)
    (h : ∀ w', St S w0 w' (bl.set i (g, cs, T)) → wpList P ops Q rest (a.put o.dst undef) w') : wpList P ops Q (o :: rest) a w :=
  wl_storeA hgd ho hx hy (hst.at i hb) (by omega) hi h1 fun w' hg hf _ => h w' (hst.put i hb hf (by rwa [splice_whole _ _ hn] at hg))
end
end Go.Mv

/- Plain numbers: a number as words of 64 bits; sums, differences and products word by word. -/
namespace Mvp

/-- 2^64 -/
abbrev B64 : Nat := 18446744073709551616
/-- the i-th word -/
def lw (a i : Nat) : Nat := a / B64 ^ i % B64
def limbs (n a : Nat) : List Nat := (List.range n).map (lw a)
/-- the k lowest words of A, above them those of B -/
def mix (A B k : Nat) : Nat := A % B64 ^ k + B / B64 ^ k * B64 ^ k

theorem b64_pos (k : Nat) : 0 < B64 ^ k := Nat.pow_pos (by decide)
theorem lw_lt (a i : Nat) : lw a i < 18446744073709551616 := Nat.mod_lt _ (by decide)
theorem limbs_length (n a : Nat) : (limbs n a).length = n := by simp [limbs]
theorem limbs_get (n a i : Nat) (h : i < n) : (limbs n a)[i]? = some (lw a i) := by simp [limbs, h]
theorem limbs_getD (n a i : Nat) (h : i < n) : (limbs n a).getD i 0 = lw a i := by simp [limbs, List.getD_eq_getElem?_getD, h]
theorem limbs4 (a : Nat) : limbs 4 a = [lw a 0, lw a 1, lw a 2, lw a 3] := rfl

theorem lw_mod (a i k : Nat) (h : i < k) : lw (a % B64 ^ k) i = lw a i := by
  unfold lw
  obtain ⟨j, rfl⟩ : ∃ j, k = i + (1 + j) := ⟨k - i - 1, by omega⟩
  rw [Nat.pow_add, Nat.mod_mul_right_div_self, Nat.pow_add, Nat.pow_one, Nat.mod_mul_right_mod]
theorem lw_div (a k i : Nat) : lw (a / B64 ^ k) i = lw a (k + i) := by
  unfold lw
  rw [Nat.div_div_eq_div_mul, ← Nat.pow_add]
theorem mix_mod (A B k : Nat) : mix A B k % B64 ^ k = A % B64 ^ k := by
  unfold mix
  rw [Nat.add_mul_mod_self_right, Nat.mod_mod]
theorem mix_div (A B k : Nat) : mix A B k / B64 ^ k = B / B64 ^ k := by
  unfold mix
  rw [Nat.add_mul_div_right _ _ (b64_pos k), Nat.div_eq_of_lt (Nat.mod_lt _ (b64_pos k)), Nat.zero_add]
theorem lw_mix (A B k i : Nat) : lw (mix A B k) i = if i < k then lw A i else lw B i := by
  split
  · rename_i h
    rw [← lw_mod _ i k h, mix_mod, lw_mod _ i k h]
  · rename_i h
    obtain ⟨j, rfl⟩ : ∃ j, i = k + j := ⟨i - k, by omega⟩
    rw [← lw_div, ← lw_div, mix_div]
theorem limbs_ext {n a b : Nat} (h : ∀ i, i < n → lw a i = lw b i) : limbs n a = limbs n b := by
  unfold limbs
  apply List.map_congr_left
  intro i hi
  exact h i (List.mem_range.1 hi)
theorem limbs_set (n A B k : Nat) (h : k < n) : (limbs n (mix A B k)).set k (lw A k) = limbs n (mix A B (k + 1)) := by
  have _h := h
  apply List.ext_getElem?
  intro i
  rw [List.getElem?_set]
  rcases Nat.lt_or_ge i n with hi | hi
  · rw [limbs_get _ _ _ hi, limbs_get _ _ _ hi, lw_mix, lw_mix, limbs_length]
    by_cases e : k = i
    · subst e; simp [h]
    · rw [if_neg e]
      congr 1
      by_cases h2 : i < k
      · rw [if_pos h2, if_pos (by omega)]
      · rw [if_neg h2, if_neg (by omega)]
  · rw [List.getElem?_eq_none (by rw [limbs_length]; exact hi), List.getElem?_eq_none (by rw [limbs_length]; exact hi)]
    split
    · rw [limbs_length, if_neg (by omega)]
    · rfl
theorem mix_zero (A B : Nat) : mix A B 0 = B := by simp [mix, Nat.mod_one]
theorem mix_all (A B k : Nat) (ha : A < B64 ^ k) (hb : B < B64 ^ k) : mix A B k = A := by
  unfold mix
  rw [Nat.mod_eq_of_lt ha, Nat.div_eq_of_lt hb, Nat.zero_mul, Nat.add_zero]
theorem mix_top (A B k : Nat) (h : B < B64 ^ k) : mix A B k = A % B64 ^ k := by
  unfold mix
  rw [Nat.div_eq_of_lt h, Nat.zero_mul, Nat.add_zero]
theorem limbs_mod (n a : Nat) : limbs n (a % B64 ^ n) = limbs n a := limbs_ext fun i hi => lw_mod a i n hi
theorem mod_succ (a k : Nat) : a % B64 ^ (k + 1) = a % B64 ^ k + B64 ^ k * lw a k := by
  unfold lw
  rw [Nat.pow_succ, Nat.mod_mul]
/-- numbers of n words are the same if their words are -/
theorem limbs_mod_inj {n a b : Nat} (h : limbs n a = limbs n b) : a % B64 ^ n = b % B64 ^ n := by
  have hw : ∀ i, i < n → lw a i = lw b i := fun i hi => by
    have h1 := limbs_get n a i hi
    rw [h, limbs_get n b i hi] at h1
    exact (Option.some.inj h1).symm
  clear h
  induction n with
  | zero => simp [Nat.mod_one]
  | succ k ih => rw [mod_succ, mod_succ, ih (fun i hi => hw i (by omega)), hw k (by omega)]
theorem limbs_inj {n a b : Nat} (ha : a < B64 ^ n) (hb : b < B64 ^ n) (h : limbs n a = limbs n b) : a = b := by
  have := limbs_mod_inj h
  rwa [Nat.mod_eq_of_lt ha, Nat.mod_eq_of_lt hb] at this

/-- the carry behind k words of a sum -/
def cAdd (a b k : Nat) : Nat := (a % B64 ^ k + b % B64 ^ k) / B64 ^ k
theorem cAdd_zero (a b : Nat) : cAdd a b 0 = 0 := by simp [cAdd, Nat.mod_one]
theorem cAdd_le (a b k : Nat) : cAdd a b k ≤ 1 := by
  unfold cAdd
  have h := b64_pos k
  have h1 := Nat.mod_lt a h
  have h2 := Nat.mod_lt b h
  generalize B64 ^ k = W at *
  exact Nat.le_of_lt_succ (Nat.div_lt_of_lt_mul (by omega))
theorem cAdd_succ (a b k : Nat) : cAdd a b (k + 1) = (lw a k + lw b k + cAdd a b k) / 18446744073709551616 := by
  unfold cAdd
  rw [mod_succ, mod_succ, Nat.pow_succ, ← Nat.div_div_eq_div_mul]
  congr 1
  have e : a % B64 ^ k + B64 ^ k * lw a k + (b % B64 ^ k + B64 ^ k * lw b k) = (a % B64 ^ k + b % B64 ^ k) + B64 ^ k * (lw a k + lw b k) := by rw [Nat.mul_add]; omega
  rw [e, Nat.add_mul_div_left _ _ (b64_pos k)]
  omega
theorem lw_add (a b k : Nat) : lw (a + b) k = (lw a k + lw b k + cAdd a b k) % 18446744073709551616 := by
  unfold lw cAdd
  have h := b64_pos k
  have e : a + b = (a % B64 ^ k + b % B64 ^ k) + B64 ^ k * (a / B64 ^ k + b / B64 ^ k) := by
    have h1 := Nat.div_add_mod a (B64 ^ k)
    have h2 := Nat.div_add_mod b (B64 ^ k)
    rw [Nat.mul_add]; omega
  have e2 : (a + b) / B64 ^ k = (a % B64 ^ k + b % B64 ^ k) / B64 ^ k + (a / B64 ^ k + b / B64 ^ k) := by
    conv => lhs; rw [e]
    rw [Nat.add_mul_div_left _ _ h]
  rw [e2]
  generalize (a % B64 ^ k + b % B64 ^ k) / B64 ^ k = x
  generalize a / B64 ^ k = y
  generalize b / B64 ^ k = z
  show (x + (y + z)) % 18446744073709551616 = (y % 18446744073709551616 + z % 18446744073709551616 + x) % 18446744073709551616
  omega
theorem cAdd_all (a b k : Nat) (ha : a < B64 ^ k) (hb : b < B64 ^ k) : cAdd a b k = (a + b) / B64 ^ k := by
  unfold cAdd; rw [Nat.mod_eq_of_lt ha, Nat.mod_eq_of_lt hb]

/-- the borrow behind k words of a difference -/
def cSub (a b k : Nat) : Nat := if a % B64 ^ k < b % B64 ^ k then 1 else 0
theorem cSub_zero (a b : Nat) : cSub a b 0 = 0 := by simp [cSub, Nat.mod_one]
theorem cSub_le (a b k : Nat) : cSub a b k ≤ 1 := by unfold cSub; split <;> omega
theorem cSub_succ (a b k : Nat) : cSub a b (k + 1) = if lw a k < lw b k + cSub a b k then 1 else 0 := by
  unfold cSub
  rw [mod_succ, mod_succ]
  have h := b64_pos k
  have h1 := Nat.mod_lt a h
  have h2 := Nat.mod_lt b h
  generalize lw a k = x
  generalize lw b k = y
  generalize a % B64 ^ k = p at *
  generalize b % B64 ^ k = q at *
  generalize B64 ^ k = W at *
  rcases Nat.lt_trichotomy x y with hxy | hxy | hxy
  · obtain ⟨d, rfl⟩ : ∃ d, y = x + 1 + d := ⟨y - x - 1, by omega⟩
    have e : W * (x + 1 + d) = W * x + W + W * d := by rw [Nat.mul_add, Nat.mul_add, Nat.mul_one]
    rw [e]
    rw [if_pos (by omega), if_pos (by omega)]
  · subst hxy
    by_cases hpq : p < q
    · rw [if_pos hpq, if_pos (by omega), if_pos (by omega)]
    · rw [if_neg hpq, if_neg (by omega), if_neg (by omega)]
  · obtain ⟨d, rfl⟩ : ∃ d, x = y + 1 + d := ⟨x - y - 1, by omega⟩
    have e : W * (y + 1 + d) = W * y + W + W * d := by rw [Nat.mul_add, Nat.mul_add, Nat.mul_one]
    rw [e]
    rw [if_neg (by omega), if_neg (by split <;> omega)]
/-- a difference of n words: D = a + 2^(64 n) - b -/
theorem lw_sub (n a b k : Nat) (hb : b < B64 ^ n) (hk : k < n) : lw (a + B64 ^ n - b) k = (lw a k + 18446744073709551616 - lw b k - cSub a b k) % 18446744073709551616 := by
  obtain ⟨j, rfl⟩ : ∃ j, n = k + (1 + j) := ⟨n - k - 1, by omega⟩
  have hW := b64_pos k
  have hT := b64_pos j
  have hN : B64 ^ (k + (1 + j)) = B64 ^ k * (B64 * B64 ^ j) := by rw [Nat.pow_add, Nat.pow_add, Nat.pow_one]
  rw [hN] at hb ⊢
  have ha1 := Nat.div_add_mod a (B64 ^ k)
  have hb1 := Nat.div_add_mod b (B64 ^ k)
  have ha2 := Nat.mod_lt a hW
  have hb2 := Nat.mod_lt b hW
  have hbh : b / B64 ^ k < B64 * B64 ^ j := Nat.div_lt_of_lt_mul hb
  unfold lw cSub
  generalize a / B64 ^ k = x at *
  generalize b / B64 ^ k = y at *
  generalize a % B64 ^ k = p at *
  generalize b % B64 ^ k = q at *
  generalize B64 ^ j = T at *
  generalize B64 ^ k = W at *
  have hq : ∃ c, c ≤ 1 ∧ (c = if p < q then 1 else 0) ∧ p + c * W < q + W ∧ q ≤ p + c * W := by
    by_cases h : p < q
    · exact ⟨1, by omega, by rw [if_pos h], by omega, by omega⟩
    · exact ⟨0, by omega, by rw [if_neg h], by omega, by omega⟩
  obtain ⟨c, hc1, hc2, hc3, hc4⟩ := hq
  rw [← hc2]
  have hyc : y + c ≤ x + B64 * T := by omega
  have e : (a + W * (B64 * T) - b) / W = x + B64 * T - y - c := by
    have h1 : a + W * (B64 * T) - b = W * (x + B64 * T - y - c) + (p + c * W - q) := by
      have h2 : W * (x + B64 * T - y - c) + W * (y + c) = W * x + W * (B64 * T) := by
        rw [← Nat.mul_add, ← Nat.mul_add]; congr 1; omega
      have h3 : W * (y + c) = W * y + c * W := by rw [Nat.mul_add, Nat.mul_comm W c]
      generalize W * (x + B64 * T - y - c) = u at *
      generalize W * (B64 * T) = v at *
      generalize W * (y + c) = z at *
      omega
    rw [h1, Nat.mul_add_div hW, Nat.div_eq_of_lt (by omega), Nat.add_zero]
  rw [e]
  show (x + 18446744073709551616 * T - y - c) % 18446744073709551616 = (x % 18446744073709551616 + 18446744073709551616 - y % 18446744073709551616 - c) % 18446744073709551616
  have hyc' : y + c ≤ x + 18446744073709551616 * T := hyc
  omega
theorem cSub_all (a b k : Nat) (ha : a < B64 ^ k) (hb : b < B64 ^ k) : cSub a b k = if a < b then 1 else 0 := by
  unfold cSub; rw [Nat.mod_eq_of_lt ha, Nat.mod_eq_of_lt hb]

/-- the carry behind k words of L + x n -/
def cMul (L x n k : Nat) : Nat := (L % B64 ^ k + x * (n % B64 ^ k)) / B64 ^ k
theorem cMul_zero (L x n : Nat) : cMul L x n 0 = 0 := by simp [cMul, Nat.mod_one]
theorem cMul_lt (L x n k : Nat) (hx : x < 18446744073709551616) : cMul L x n k < 18446744073709551616 := by
  unfold cMul
  have h := b64_pos k
  have h1 := Nat.mod_lt L h
  have h2 := Nat.mod_lt n h
  have h3 : x * (n % B64 ^ k) ≤ 18446744073709551615 * (n % B64 ^ k) := Nat.mul_le_mul_right _ (by omega)
  generalize B64 ^ k = W at *
  refine Nat.div_lt_of_lt_mul ?_
  omega
theorem cMul_succ (L x n k : Nat) : cMul L x n (k + 1) = (lw L k + x * lw n k + cMul L x n k) / 18446744073709551616 := by
  unfold cMul
  rw [mod_succ, mod_succ, Nat.pow_succ, ← Nat.div_div_eq_div_mul]
  congr 1
  have e : L % B64 ^ k + B64 ^ k * lw L k + x * (n % B64 ^ k + B64 ^ k * lw n k) = (L % B64 ^ k + x * (n % B64 ^ k)) + B64 ^ k * (lw L k + x * lw n k) := by
    rw [Nat.mul_add, Nat.mul_add, Nat.mul_left_comm x]; omega
  rw [e, Nat.add_mul_div_left _ _ (b64_pos k)]
  omega
theorem lw_madd (L x n k : Nat) : lw (L + x * n) k = (lw L k + x * lw n k + cMul L x n k) % 18446744073709551616 := by
  unfold lw cMul
  have h := b64_pos k
  have e : L + x * n = (L % B64 ^ k + x * (n % B64 ^ k)) + B64 ^ k * (L / B64 ^ k + x * (n / B64 ^ k)) := by
    have h1 := Nat.div_add_mod L (B64 ^ k)
    have h2 := Nat.div_add_mod n (B64 ^ k)
    have h3 : x * n = x * (B64 ^ k * (n / B64 ^ k)) + x * (n % B64 ^ k) := by rw [← Nat.mul_add, h2]
    have h4 : x * (B64 ^ k * (n / B64 ^ k)) = B64 ^ k * (x * (n / B64 ^ k)) := Nat.mul_left_comm _ _ _
    rw [Nat.mul_add]; omega
  have e2 : (L + x * n) / B64 ^ k = (L % B64 ^ k + x * (n % B64 ^ k)) / B64 ^ k + (L / B64 ^ k + x * (n / B64 ^ k)) := by
    conv => lhs; rw [e]
    rw [Nat.add_mul_div_left _ _ h]
  rw [e2]
  generalize (L % B64 ^ k + x * (n % B64 ^ k)) / B64 ^ k = u
  generalize L / B64 ^ k = y
  generalize n / B64 ^ k = z
  show (u + (y + x * z)) % 18446744073709551616 = (y % 18446744073709551616 + x * (z % 18446744073709551616) + u) % 18446744073709551616
  have e3 : x * (z % 18446744073709551616) % 18446744073709551616 = x * z % 18446744073709551616 := Nat.mul_mod_mod _ _ _
  generalize x * (z % 18446744073709551616) = s at *
  generalize x * z = t at *
  omega
theorem cMul_all (L x n k : Nat) (hL : L < B64 ^ k) (hn : n < B64 ^ k) : cMul L x n k = (L + x * n) / B64 ^ k := by
  unfold cMul; rw [Nat.mod_eq_of_lt hL, Nat.mod_eq_of_lt hn]
/-- one round of a line: what is told by Mul64 and two times Add64 -/
theorem line_round (p t c : Nat) (hp : p ≤ 18446744073709551615 * 18446744073709551615) (hc : c < 18446744073709551616) :
    (t + (p % 18446744073709551616 + c) % 18446744073709551616) % 18446744073709551616 = (t + p + c) % 18446744073709551616 ∧
    p / 18446744073709551616 + (p % 18446744073709551616 + c) / 18446744073709551616 < 18446744073709551616 ∧
    p / 18446744073709551616 + (p % 18446744073709551616 + c) / 18446744073709551616 + (t + (p % 18446744073709551616 + c) % 18446744073709551616) / 18446744073709551616 = (t + p + c) / 18446744073709551616 := by
  omega
/-- the same with a name for each word -/
theorem line_names (p t c : Nat) (hp : p ≤ 18446744073709551615 * 18446744073709551615) (hc : c < 18446744073709551616) :
    ∃ hi lo lo2 c1 t2 c2 : Nat, p / 18446744073709551616 = hi ∧ p % 18446744073709551616 = lo ∧ (lo + c) % 18446744073709551616 = lo2 ∧ (lo + c) / 18446744073709551616 = c1 ∧ hi + c1 < 18446744073709551616 ∧
      (t + lo2) % 18446744073709551616 = t2 ∧ (t + lo2) / 18446744073709551616 = c2 ∧ t2 = (t + p + c) % 18446744073709551616 ∧ hi + c1 + c2 = (t + p + c) / 18446744073709551616 := by
  obtain ⟨h1, h2, h3⟩ := line_round p t c hp hc
  exact ⟨_, _, _, _, _, _, rfl, rfl, rfl, rfl, h2, rfl, rfl, h1, h3⟩
theorem word_mul_le {x y : Nat} (hx : x < 18446744073709551616) (hy : y < 18446744073709551616) : x * y ≤ 18446744073709551615 * 18446744073709551615 :=
  Nat.mul_le_mul (by omega) (by omega)

/- the words of a product that begins at word i -/
theorem lw_shift_lo (P Q i j : Nat) (h : j < i) : lw (P + B64 ^ i * Q) j = lw P j := by
  rw [← lw_mod _ j i h, Nat.add_mul_mod_self_left, lw_mod _ j i h]
theorem lw_shift_hi (P Q i k : Nat) : lw (P + B64 ^ i * Q) (i + k) = lw (P / B64 ^ i + Q) k := by
  rw [← lw_div, Nat.add_mul_div_left _ _ (b64_pos i)]
theorem lw_top (a n i : Nat) (h : a < B64 ^ n) (hi : n ≤ i) : lw a i = 0 := by
  unfold lw
  rw [Nat.div_eq_of_lt (Nat.lt_of_lt_of_le h (Nat.pow_le_pow_right (by decide) hi)), Nat.zero_mod]
/- a product row by row -/
theorem row_next (a b i : Nat) : a % B64 ^ i * b + B64 ^ i * (lw a i * b) = a % B64 ^ (i + 1) * b := by
  rw [mod_succ, Nat.add_mul, Nat.mul_assoc]
theorem row_lt (a b i : Nat) (hb : b < B64 ^ 4) : a % B64 ^ i * b < B64 ^ (i + 4) := by
  have h := Nat.mod_lt a (b64_pos i)
  rw [Nat.pow_add]
  exact Nat.mul_lt_mul'' h hb
theorem row_top (a b i : Nat) (hb : b < B64 ^ 4) : lw (a % B64 ^ (i + 1) * b) (i + 4) = cMul (a % B64 ^ i * b / B64 ^ i) (lw a i) b 4 := by
  rw [← row_next, lw_shift_hi, lw_madd, lw_top b 4 4 hb (Nat.le_refl _), lw_div, lw_top _ _ _ (row_lt a b i hb) (Nat.le_refl _), Nat.mul_zero, Nat.zero_add]
  exact Nat.mod_eq_of_lt (cMul_lt _ _ _ _ (lw_lt a i))
theorem row_all (a b i : Nat) (hb : b < B64 ^ 4) : mix (a % B64 ^ (i + 1) * b) (a % B64 ^ i * b) (i + 4 + 1) = a % B64 ^ (i + 1) * b := by
  refine mix_all _ _ _ ?_ ?_
  · have := row_lt a b (i + 1) hb
    rwa [show i + 1 + 4 = i + 4 + 1 by omega] at this
  · refine Nat.lt_trans (row_lt a b i hb) (Nat.pow_lt_pow_right (by decide) (by omega))
theorem row_word (a b i k : Nat) : lw (a % B64 ^ i * b) (i + k) = lw (a % B64 ^ i * b / B64 ^ i) k := by rw [lw_div]
theorem row_new (a b i k : Nat) : lw (a % B64 ^ (i + 1) * b) (i + k) = lw (a % B64 ^ i * b / B64 ^ i + lw a i * b) k := by
  rw [← row_next, lw_shift_hi]
theorem row_start (a b i : Nat) : mix (a % B64 ^ (i + 1) * b) (a % B64 ^ i * b) (i + 0) = a % B64 ^ i * b := by
  rw [← row_next, Nat.add_zero]
  generalize a % B64 ^ i * b = V
  unfold mix
  rw [Nat.add_mul_mod_self_left, Nat.mul_comm, Nat.mod_add_div]
theorem row_zero (b : Nat) (a : Nat) : a % B64 ^ 0 * b = 0 := by simp [Nat.mod_one]
/- what stands above 2^256 comes back -/
def foldC (C V : Nat) : Nat := V / B64 ^ 4 * C + V % B64 ^ 4
theorem foldC_mod (P C V : Nat) (h : P + C = B64 ^ 4) : foldC C V % P = V % P := by
  have e : V = foldC C V + P * (V / B64 ^ 4) := by
    have h1 := Nat.div_add_mod V (B64 ^ 4)
    unfold foldC
    rw [← h] at h1 ⊢
    generalize V / (P + C) = q at *
    rw [Nat.add_mul] at h1
    rw [Nat.mul_comm q C]
    omega
  conv => rhs; rw [e]
  rw [Nat.add_mul_mod_self_left]
theorem foldC_lt (C V : Nat) (hC : C < B64 ^ 4) (h : V / B64 ^ 4 ≠ 0) : foldC C V < V := by
  have h1 := Nat.div_add_mod V (B64 ^ 4)
  unfold foldC
  generalize V / B64 ^ 4 = q at *
  have h2 : q * C < B64 ^ 4 * q := by
    rw [Nat.mul_comm]
    exact Nat.mul_lt_mul_of_pos_right hC (by omega)
  omega
theorem or_ne (a b c d : Nat) : (a ||| b ||| c ||| d = 0) ↔ (a = 0 ∧ b = 0 ∧ c = 0 ∧ d = 0) := by
  simp [Nat.or_eq_zero_iff, and_assoc]
theorem top_zero (V : Nat) (h : V < B64 ^ 8) : (lw V 4 ||| lw V 5 ||| lw V 6 ||| lw V 7 = 0) ↔ V / B64 ^ 4 = 0 := by
  rw [or_ne]
  have e : V / B64 ^ 4 < B64 ^ 4 := Nat.div_lt_of_lt_mul (by rw [← Nat.pow_add]; exact h)
  have k0 := lw_div V 4 0
  have k1 := lw_div V 4 1
  have k2 := lw_div V 4 2
  have k3 := lw_div V 4 3
  rw [show 4 + 0 = 4 from rfl] at k0
  rw [show 4 + 1 = 5 from rfl] at k1
  rw [show 4 + 2 = 6 from rfl] at k2
  rw [show 4 + 3 = 7 from rfl] at k3
  rw [← k0, ← k1, ← k2, ← k3]
  generalize V / B64 ^ 4 = D at *
  constructor
  · rintro ⟨h0, h1, h2, h3⟩
    have hm : D % B64 ^ 4 = 0 % B64 ^ 4 := limbs_mod_inj (limbs_ext fun i hi => by
      have : i = 0 ∨ i = 1 ∨ i = 2 ∨ i = 3 := by omega
      rcases this with rfl | rfl | rfl | rfl
      · rw [h0]; decide
      · rw [h1]; decide
      · rw [h2]; decide
      · rw [h3]; decide)
    rw [Nat.mod_eq_of_lt e] at hm
    simpa using hm
  · rintro rfl; decide
theorem words_zero (D : Nat) (e : D < B64 ^ 4) : (lw D 0 ||| lw D 1 ||| lw D 2 ||| lw D 3 = 0) ↔ D = 0 := by
  rw [or_ne]
  constructor
  · rintro ⟨h0, h1, h2, h3⟩
    have hm : D % B64 ^ 4 = 0 % B64 ^ 4 := limbs_mod_inj (limbs_ext fun i hi => by
      have : i = 0 ∨ i = 1 ∨ i = 2 ∨ i = 3 := by omega
      rcases this with rfl | rfl | rfl | rfl
      · rw [h0]; decide
      · rw [h1]; decide
      · rw [h2]; decide
      · rw [h3]; decide)
    rw [Nat.mod_eq_of_lt e] at hm
    simpa using hm
  · rintro rfl; decide
/- the two words above a line -/
theorem line_top (V x n : Nat) (hn : n < B64 ^ 4) (hV : V + x * n < B64 ^ 6) (hVV : V < B64 ^ 6) :
    (lw V 4 + cMul V x n 4) % 18446744073709551616 = lw (V + x * n) 4 ∧ lw V 5 + (lw V 4 + cMul V x n 4) / 18446744073709551616 = lw (V + x * n) 5 ∧ lw V 5 + (lw V 4 + cMul V x n 4) / 18446744073709551616 < 18446744073709551616 := by
  have z4 : lw n 4 = 0 := lw_top n 4 4 hn (by decide)
  have z5 : lw n 5 = 0 := lw_top n 4 5 hn (by decide)
  have h4 := lw_madd V x n 4
  have h5 := lw_madd V x n 5
  have c5 := cMul_succ V x n 4
  have c6 := cMul_succ V x n 5
  rw [z4, Nat.mul_zero, Nat.add_zero] at h4 c5
  rw [z5, Nat.mul_zero, Nat.add_zero] at h5 c6
  have hc6 : cMul V x n 6 = 0 := by
    rw [cMul_all V x n 6 hVV (Nat.lt_trans hn (by decide))]
    exact Nat.div_eq_of_lt hV
  rw [hc6] at c6
  rw [c5] at h5 c6
  try rw [Nat.add_zero] at h5
  try rw [Nat.add_zero] at c6
  have : lw V 5 + (lw V 4 + cMul V x n 4) / 18446744073709551616 < 18446744073709551616 := by omega
  exact ⟨h4.symm, by rw [h5, Nat.mod_eq_of_lt this], this⟩
theorem word0 (V : Nat) : lw V 0 = V % 18446744073709551616 := by simp [lw]

/-- a step of Montgomery's product -/
def mstep (M neg b T x : Nat) : Nat := (T + x * b + ((T + x * b) % 18446744073709551616 * neg % 18446744073709551616) * M) / 18446744073709551616
def montT (M neg b a : Nat) : Nat → Nat
  | 0 => 0
  | k + 1 => mstep M neg b (montT M neg b a k) (lw a k)
theorem mstep_exact (M neg b T x : Nat) (hneg : (M * neg + 1) % 18446744073709551616 = 0) :
    mstep M neg b T x * 18446744073709551616 = T + x * b + ((T + x * b) % 18446744073709551616 * neg % 18446744073709551616) * M := by
  unfold mstep
  generalize hV : T + x * b = V
  generalize hm : V % 18446744073709551616 * neg % 18446744073709551616 = m
  have key : (V + m * M) % 18446744073709551616 = 0 := by
    have h1 : (m * M) % 18446744073709551616 = (V * neg * M) % 18446744073709551616 := by
      rw [← hm, Nat.mod_mul_mod, Nat.mul_assoc, Nat.mod_mul_mod, ← Nat.mul_assoc]
    have h2 : V + V * neg * M = V * (M * neg + 1) := by rw [Nat.mul_add, Nat.mul_one, Nat.mul_assoc, Nat.mul_comm neg, Nat.add_comm]
    rw [Nat.add_mod, h1, ← Nat.add_mod, h2, Nat.mul_mod, hneg, Nat.mul_zero, Nat.zero_mod]
  have := Nat.div_add_mod (V + m * M) 18446744073709551616
  rw [key, Nat.add_zero, Nat.mul_comm] at this
  exact this
theorem mstep_lt (M neg b T x : Nat) (hM : 0 < M) (hT : T < b + M) (hx : x < 18446744073709551616) : mstep M neg b T x < b + M := by
  unfold mstep
  refine Nat.div_lt_of_lt_mul ?_
  generalize hm : (T + x * b) % 18446744073709551616 * neg % 18446744073709551616 = m
  have hm' : m < 18446744073709551616 := by rw [← hm]; exact Nat.mod_lt _ (by decide)
  have h1 : x * b ≤ 18446744073709551615 * b := Nat.mul_le_mul_right _ (by omega)
  have h2 : m * M ≤ 18446744073709551615 * M := Nat.mul_le_mul_right _ (by omega)
  omega
theorem montT_lt (M neg b a k : Nat) (hM : 0 < M) : montT M neg b a k < b + M := by
  induction k with
  | zero => show 0 < _; omega
  | succ k ih => exact mstep_lt _ _ _ _ _ hM ih (lw_lt a k)
theorem montT_mod (M neg b a k : Nat) (hneg : (M * neg + 1) % 18446744073709551616 = 0) : montT M neg b a k * B64 ^ k % M = a % B64 ^ k * b % M := by
  induction k with
  | zero => simp [montT, Nat.mod_one]
  | succ k ih =>
    show mstep _ _ _ _ _ * B64 ^ (k + 1) % M = _
    rw [← row_next, Nat.pow_succ, Nat.mul_comm (B64 ^ k), ← Nat.mul_assoc, mstep_exact M neg b _ _ hneg]
    generalize (montT M neg b a k + lw a k * b) % 18446744073709551616 * neg % 18446744073709551616 = m
    have e : (montT M neg b a k + lw a k * b + m * M) * B64 ^ k = montT M neg b a k * B64 ^ k + B64 ^ k * (lw a k * b) + M * (m * B64 ^ k) := by
      rw [Nat.add_mul, Nat.add_mul, Nat.mul_comm (lw a k * b), Nat.mul_right_comm m, Nat.mul_comm (m * B64 ^ k)]
    rw [e, Nat.add_mul_mod_self_left, Nat.add_mod, ih, ← Nat.add_mod]
/-- what a product of Montgomery's is -/
theorem mont_value (M neg Ri a b : Nat) (hM : 0 < M) (ha : a < B64 ^ 4) (hneg : (M * neg + 1) % 18446744073709551616 = 0) (hRi : B64 ^ 4 * Ri % M = 1 % M) :
    montT M neg b a 4 % M = a * b * Ri % M := by
  have h := montT_mod M neg b a 4 hneg
  rw [Nat.mod_eq_of_lt ha] at h
  generalize montT M neg b a 4 = T at *
  have h1 : T * B64 ^ 4 * Ri % M = a * b * Ri % M := by rw [Nat.mul_mod, h, ← Nat.mul_mod]
  rw [← h1, Nat.mul_assoc, Nat.mul_mod, hRi, ← Nat.mul_mod, Nat.mul_one]
theorem mod_of_lt2 (T M : Nat) (h : T < 2 * M) : T % M = if T < M then T else T - M := by
  split
  · rename_i h'; exact Nat.mod_eq_of_lt h'
  · rename_i h'; rw [Nat.mod_eq_sub_mod (by omega), Nat.mod_eq_of_lt (by omega)]
end Mvp
