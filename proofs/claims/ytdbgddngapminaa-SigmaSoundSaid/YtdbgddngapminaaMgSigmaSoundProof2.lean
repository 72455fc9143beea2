/- Rules of the walk for words: what Go's operators on 64-bit words and on bytes are on UInt64 and UInt8; Whole arrays in memory: load, store, result, over the words of Mem; Literals of structs and of slices, boxes; One-cell literals of any kind; owned slices and other blocks; What a call knows of the blocks that are its own: one fact for all of them; Words of 64 bits in memory, as natural numbers; math/bits.Add64, Sub64, Mul64; Sums and differences of words: mont.Int.minus, plus; the reference's less, plus; mont.line: a word times a number, added to the lowest words; mintvaultref2.product: the product of two numbers of four words; A region that draws its order, under a condition S on the world that holds till the last operations begin: the head (reads, calls) in an order of the prover's choice, behind it the tail (a store, as a rule) in the text's order; (mintvaultref2.F).Less: a number of eight words modulo the prime; The reference's F: Mul, Add, Neg, Sub; N: Zero, Below, Bit, Small; Bytes and bits of numbers: the reference's Of, Bytes, Bit; mont's FromBytes, Bytes, Bit; mintvaultref1.Lent: the bytes of a text, at the front of a longer list; mont's and the reference's Bytes; Bit; The reference's Pow, Inv, Number, Mod; The reference's Number, Mod, Make. -/
import Derived.Test.YtdbgddngapminaaMgSigmaSoundProof1
import Derived.Deep.MidRow
import Derived.Laws.Tables
import Derived.Great.BuildSlice
import Derived.Shelf.Spec.BitsCarry
import Derived.Shelf.Bits.Mul64
import Derived.Test.YtdbgddngapminaaProg
import Derived.RegionTactic
import Derived.Deep.QuietTactic
import Derived.BigQuiet
import Derived.OrdersHeld
import Derived.StillTail
import Derived.Deep.RegionHeld3
import Derived.StillTailTactics
namespace Go.Mv
open Go.RowKit Mvp

theorem u64_lt (x : UInt64) : x.toNat < 18446744073709551616 := x.toNat_lt
theorem shr_toNat (x : UInt64) (k : Nat) : (shr x k).toNat = x.toNat / 2 ^ k := by
  have := u64_lt x
  have h := Nat.div_le_self x.toNat (2 ^ k)
  simp only [shr, UInt64.toNat_ofNat']
  exact Nat.mod_eq_of_lt (Nat.lt_of_le_of_lt h this)
theorem shl_toNat (x : UInt64) (k : Nat) : (shl x k).toNat = x.toNat * 2 ^ k % 18446744073709551616 := by simp [shl]

theorem shl_run (x : UInt64) (yk : IntKind) (k : Nat) : Op.shift .shl .u64 (x.toNat : Int) yk (k : Int) = pure (.int .u64 ((shl x k).toNat : Int)) := by
  rw [shift_shl_any _ _ _ _ (by omega), shl_toNat]
  congr 2
  rw [IntKind.wrap_u64]
  simp only [Int.toNat_natCast, IntKind.bits]
  rcases Nat.lt_or_ge k 64 with h | h
  · rw [Nat.min_eq_left (by omega)]
    simp
  · rw [Nat.min_eq_right (by omega)]
    obtain ⟨j, rfl⟩ : ∃ j, k = 64 + j := ⟨k - 64, by omega⟩
    have e : x.toNat * 2 ^ (64 + j) = x.toNat * 2 ^ j * 18446744073709551616 := by
      have e64 : (2 : Nat) ^ 64 = 18446744073709551616 := by decide
      rw [Nat.pow_add, e64]; ac_rfl
    rw [e, Nat.mul_mod_left]
    have e2 : (2 : Int) ^ 64 = 18446744073709551616 := by decide
    rw [e2]
    omega
theorem shr_run (x : UInt64) (yk : IntKind) (k : Nat) : Op.shift .shr .u64 (x.toNat : Int) yk (k : Int) = pure (.int .u64 ((shr x k).toNat : Int)) := by
  rw [shift_shr_any _ _ _ _ (by omega), shr_toNat]
  congr 2
  simp only [Int.toNat_natCast, IntKind.bits]
  rcases Nat.lt_or_ge k 64 with h | h
  · rw [Nat.min_eq_left (by omega)]
    simp
  · rw [Nat.min_eq_right (by omega)]
    have hx := u64_lt x
    have e2 : (2 : Int) ^ 64 = 18446744073709551616 := by decide
    have h3 : x.toNat / 2 ^ k = 0 := Nat.div_eq_of_lt (Nat.lt_of_lt_of_le hx (by have := Nat.pow_le_pow_right (show 0 < 2 by omega) h; simpa using this))
    rw [e2, h3]
    omega
theorem shl_lit (x : UInt64) (yk : IntKind) (n : Nat) : Op.shift .shl .u64 (x.toNat : Int) yk (no_index (OfNat.ofNat n)) = pure (.int .u64 ((shl x n).toNat : Int)) := shl_run x yk n
theorem shr_lit (x : UInt64) (yk : IntKind) (n : Nat) : Op.shift .shr .u64 (x.toNat : Int) yk (no_index (OfNat.ofNat n)) = pure (.int .u64 ((shr x n).toNat : Int)) := shr_run x yk n
theorem xor_run (x y : UInt64) : bits .xor .u64 (x.toNat : Int) (y.toNat : Int) = ((wx x y).toNat : Int) := by
  have := bits_xor_u64_nat x.toNat y.toNat (u64_lt x) (u64_lt y)
  rw [this]; simp [wx]
theorem or_run (x y : UInt64) : bits .or .u64 (x.toNat : Int) (y.toNat : Int) = ((wo x y).toNat : Int) := by
  have := bits_or_u64_nat x.toNat y.toNat (u64_lt x) (u64_lt y)
  rw [this]; simp [wo]
theorem and_run (x y : UInt64) : bits .and .u64 (x.toNat : Int) (y.toNat : Int) = ((wa x y).toNat : Int) := by
  have := bits_and_u64_nat x.toNat y.toNat (u64_lt x) (u64_lt y)
  rw [this]; simp [wa]
theorem not_run (x : UInt64) : bits .xor .u64 18446744073709551615 (x.toNat : Int) = ((wn x).toNat : Int) := by
  have e : (18446744073709551615 : Int) = (((18446744073709551615 : UInt64).toNat : Nat) : Int) := by decide
  have e1 : (18446744073709551615 : UInt64) = -1 := by decide
  rw [e, xor_run, e1, wx, UInt64.neg_one_xor, wn]
theorem not_run2 (x : UInt64) : bits .xor .u64 (if IntKind.u64.signed = true then -1 else IntKind.u64.max) (x.toNat : Int) = ((wn x).toNat : Int) := not_run x
theorem and63_run (k : Nat) : bits .and .u64 (k : Int) 63 = ((k % 64 : Nat) : Int) := by
  have h1 : BitVec.ofInt 64 (k : Int) = BitVec.ofNat 64 k := by simp
  have h2 : (BitVec.ofNat 64 k &&& BitVec.ofInt 64 63).toNat = k % 64 := by
    have e : (BitVec.ofInt 64 63).toNat = 2 ^ 6 - 1 := by decide
    rw [BitVec.toNat_and, e, Nat.and_two_pow_sub_one_eq_mod, BitVec.toNat_ofNat]
    omega
  show IntKind.u64.wrap (((BitVec.ofInt 64 (k : Int) &&& BitVec.ofInt 64 63).toNat : Nat) : Int) = _
  rw [h1, h2, IntKind.wrap_u64]
  omega
theorem widen_run (x : UInt8) : IntKind.u64.wrap (x.toNat : Int) = ((wid x).toNat : Int) := by
  have := x.toNat_lt
  rw [IntKind.wrap_u64]; simp [wid]; omega
theorem narrow_run (x : UInt64) : IntKind.u8.wrap (x.toNat : Int) = ((lo8 x).toNat : Int) := by
  rw [IntKind.wrap_u8']; simp [lo8]
theorem xor8_run (x y : UInt8) : bits .xor .u8 (x.toNat : Int) (y.toNat : Int) = ((bx x y).toNat : Int) := by
  rw [u8_xor_nat _ _ x.toNat_lt y.toNat_lt]; simp [bx]
theorem and8_run (x y : UInt8) : bits .and .u8 (x.toNat : Int) (y.toNat : Int) = ((ba x y).toNat : Int) := by
  rw [u8_and_nat _ _ x.toNat_lt y.toNat_lt]; simp [ba]
theorem or8_run (x y : UInt8) : bits .or .u8 (x.toNat : Int) (y.toNat : Int) = ((bo x y).toNat : Int) := by
  rw [u8_or_nat _ _ x.toNat_lt y.toNat_lt]; simp [bo]
theorem wid_toNat (y : UInt8) : (wid y).toNat = y.toNat := by simp [wid]
theorem or_mix (x : UInt64) (y : UInt8) : bits .or .u64 (x.toNat : Int) (y.toNat : Int) = ((wo x (wid y)).toNat : Int) := by rw [← or_run, wid_toNat]
theorem xor_mix (x : UInt64) (y : UInt8) : bits .xor .u64 (x.toNat : Int) (y.toNat : Int) = ((wx x (wid y)).toNat : Int) := by rw [← xor_run, wid_toNat]
theorem shl_mix (x : UInt8) (yk : IntKind) (k : Nat) : Op.shift .shl .u64 (x.toNat : Int) yk (k : Int) = pure (.int .u64 ((shl (wid x) k).toNat : Int)) := by rw [← shl_run, wid_toNat]
theorem shl_wrap (x : UInt64) (k : Nat) : IntKind.u64.wrap ((x.toNat : Int) * 2 ^ k) = ((shl x k).toNat : Int) := by
  rw [IntKind.wrap_u64, shl_toNat]; simp
theorem shr_div (x : UInt64) (k : Nat) : (x.toNat : Int) / 2 ^ k = ((shr x k).toNat : Int) := by
  rw [shr_toNat]; simp
attribute [go_sem high] shl_wrap shr_div or_mix xor_mix shl_mix shl_lit shr_lit shl_run shr_run xor_run or_run and_run not_run not_run2 and63_run widen_run narrow_run xor8_run and8_run or8_run

section
variable {P : Program} {w : World} {ops : Array Oper} {rest : List Oper} {o : Oper} {a : Act} {Q : Exit → Act → World → Prop}
end

end Go.Mv

/- Whole arrays in memory: load, store, result, over the words of Mem. -/
namespace Go.Mv
open Go.RowKit
variable {P : Program}

theorem Has.setCells {g : Nat} {T : TypeId} : ∀ (cs : List Value) (o : Nat) (L : List Value) (w : World), Has w g L T → o + cs.length ≤ L.length → Has (w.setCells g o cs) g (splice L o cs) T ∧ Fr (One g) w (w.setCells g o cs) ∧ (w.setCells g o cs).heap.size = w.heap.size
  | [], o, L, w, h, _ => ⟨by rw [splice_nil]; exact h, Fr.refl _ _, rfl⟩
  | v :: cs, o, L, w, h, hl => by
    simp only [List.length_cons] at hl
    obtain ⟨h1, h2, h3⟩ := Has.setCells cs (o + 1) (L.set o v) (w.setCell ⟨g, o, none⟩ v) (h.set o v) (by simp; omega)
    rw [splice_cons L o v cs (by omega)] at h1
    refine ⟨h1, ((Fr.refl (One g) w).setCell g o none v (fun _ => rfl)).trans h2 (fun _ _ t => t), ?_⟩
    show ((w.setCell ⟨g, o, none⟩ v).setCells g (o + 1) cs).heap.size = _
    rw [h3]; simp [World.setCell]

theorem Has.range {w : World} {g : Nat} {L : List Value} {T : TypeId} (h : Has w g L T) (o : Nat) (cs : List Value) (hcs : (L.drop o).take cs.length = cs) : w.rangeAt g o cs := by
  intro j v hv
  rw [h.get]
  have : j < cs.length := by
    rcases Nat.lt_or_ge j cs.length with k | k
    · exact k
    · simp [List.getElem?_eq_none k] at hv
  rw [← hcs, List.getElem?_take, if_pos this, List.getElem?_drop] at hv
  exact hv
theorem Has.there {w : World} {g : Nat} {L : List Value} {T : TypeId} (h : Has w g L T) (o n : Nat) (hn : o + n ≤ L.length) : w.there g o n := by
  intro j hj
  obtain ⟨v, h1, h2⟩ := h.ready (i := o + j) (by omega)
  exact ⟨by rw [h1]; rfl, h2⟩

section
variable {w : World} {ops : Array Oper} {rest : List Oper} {o : Oper} {a : Act} {Q : Exit → Act → World → Prop}
/-- a whole array is read -/
theorem wl_loadA {ty : TypeId} {x : Operand} (hgd : o.guard = none) (ho : o.op = .load ty x) {n : Nat} {e : TypeId} (hu : P.underlying ty = some (.array n e)) {g p : Nat} (hx : a.eval x = .pointer (some ⟨g, p, none⟩))
    {L : List Value} {T : TypeId} (hg : Has w g L T) (cs : List Value) (hcs : (L.drop p).take cs.length = cs) (hi : (P.info? ty).map (·.size) = some cs.length)
    (h : wpList P ops Q rest (a.put o.dst (.agg cs.toArray)) w) : wpList P ops Q (o :: rest) a w :=
  wpList_load_mid hgd ty x ho g p hx cs _ (hg.range p cs hcs) hu rfl hi h
/-- a whole array is stored -/
theorem wl_storeA {ty : TypeId} {x y : Operand} (hgd : o.guard = none) (ho : o.op = .store ty x y) {g p : Nat} (hx : a.eval x = .pointer (some ⟨g, p, none⟩)) {cs : List Value} (hy : a.eval y = .agg cs.toArray)
    {L : List Value} {T : TypeId} (hg : Has w g L T) (hn : p + cs.length ≤ L.length) (hi : (P.info? ty).map (·.size) = some cs.length) (h1 : ∀ v ∈ cs, v.oneCell' = true)
    (h : ∀ w', Has w' g (splice L p cs) T → Fr (One g) w w' → w'.heap.size = w.heap.size → wpList P ops Q rest (a.put o.dst undef) w') : wpList P ops Q (o :: rest) a w := by
  obtain ⟨k1, k2, k3⟩ := Has.setCells cs p L w hg hn
  exact wpList_store_mid hgd ty x y ho g p cs.toArray hx hy (by simpa using hg.there p cs.length hn) (by simpa using hi) (all_oneCell_toArray h1) (by simpa using h _ k1 k2 k3)
end

theorem splice_whole (L cs : List Value) (h : cs.length = L.length) : splice L 0 cs = cs := by
  simp [splice, h]

/-- the result is an array in memory -/
theorem results_arr {fn : Func} {p : Tmp} {ty : TypeId} (h : fn.results = #[.cell p ty]) {tmps : Array Value} {w : World} {g : Nat} {L : List Value} {T : TypeId}
    (hp : tmps.getD p undef = .pointer (some ⟨g, 0, none⟩)) (hg : Has w g L T) {n : Nat} {e : TypeId} (hu : P.underlying ty = some (.array n e)) (hi : (P.info? ty).map (·.size) = some L.length) :
    (results fn tmps).run P w = .ok (.agg L.toArray) w := by
  obtain ⟨lo, hi', hh, -⟩ := hg
  exact results_cell_row h tmps w g T L.toArray _ _ hp hh hu rfl (by simpa using hi)

section
variable {w : World} {ops : Array Oper} {rest : List Oper} {o : Oper} {a : Act} {Q : Exit → Act → World → Prop}
/-- a new variable -/
theorem wl_alloc {e : TypeId} (hgd : o.guard = none) (ho : o.op = .alloc e) {z : Value} (hi : (P.info? e).map (·.zero) = some (some z)) (L : List Value) (hL : z.cells.toList = L)
    (h : ∀ w', Has w' w.heap.size L e → Fr Nob w w' → w'.heap.size = w.heap.size + 1 → wpList P ops Q rest (a.put o.dst (.pointer (some ⟨w.heap.size, 0, none⟩))) w') : wpList P ops Q (o :: rest) a w := by
  refine wpList_plain hgd fun K hK => ?_
  obtain ⟨i, hi1, hz⟩ : ∃ i, P.info? e = some i ∧ i.zero = some z := by simpa using hi
  have hr : (Instr.alloc e true (.tuple #[])).run P w = .ok (.pointer (some ⟨w.heap.size, 0, none⟩)) (w.alloc (.cells z.cells e)) := by
    simp [Instr.alloc, zeroValue, typeInfo, hi1, hz, newVar, newRow]
  unfold Oper.wp execOp
  simp only [ho, Sem.run_bind, Sem.run_pure, Result.andThen_ok, hr]
  refine hK _ _ (h _ ?_ ((Fr.refl _ w).alloc _) (by simp))
  have := Has.new w z.cells e
  rwa [hL] at this
end

section
variable {w : World} {ops : Array Oper} {rest : List Oper} {o : Oper} {a : Act} {Q : Exit → Act → World → Prop}
theorem run_sliceBound (k : IntKind) (n y : Nat) (code : BoundsCode) (h : n ≤ y) : (Instr.sliceBound (.int k (n : Int)) y code).run P w = .ok n w := by
  have : ((n : Int) ≤ (y : Int)) := by omega
  simp [Instr.sliceBound, asIntOf, this]

/-- where a cut of a slice lies -/
def cutAt (p : Option Addr) (l m : Nat) : Option Addr := if m = l then p else p.map (·.add l)
theorem cutAt_rd {w : World} {p : Option Addr} {n : Nat} {vs : List Value} (hr : Rd w p n vs) (l h m : Nat) (h2 : l ≤ h) (h3 : h ≤ m) (h4 : h ≤ n) : Rd w (cutAt p l m) (h - l) ((vs.drop l).take (h - l)) := by
  have hlen := hr.len
  refine ⟨by simp; omega, ?_⟩
  rcases Nat.eq_zero_or_pos (h - l) with h0 | h0
  · exact .inl h0
  · obtain ⟨b, o, rfl, hc⟩ := hr.at (by omega)
    refine .inr ⟨b, o + l, ?_, hc.sub l (h - l)⟩
    simp [cutAt, show ¬ m = l by omega, addr_add]
/-- a slice of one-cell elements, cut: x[l:h] -/
theorem wl_cut {ty : TypeId} {x : Operand} {lo hi : Option Operand} (hgd : o.guard = none) (ho : o.op = .slice ty x lo hi none) {e : TypeId} (hu : P.underlying ty = some (.slice e)) (hsz : (P.info? e).map (·.size) = some 1)
    {p : Option Addr} {n c : Nat} (hx : a.eval x = .slice p n c) (l h : Nat) (hl : lo.elim (l = 0) (fun y => ∃ k, a.eval y = .int k (l : Int))) (hh : hi.elim (h = n) (fun y => ∃ k, a.eval y = .int k (h : Int))) (h2 : l ≤ h) (h3 : h ≤ c)
    (hK : wpList P ops Q rest (a.put o.dst (.slice (cutAt p l c) (h - l) (c - l))) w) : wpList P ops Q (o :: rest) a w := by
  refine wpList_plain hgd fun K hK' => ?_
  obtain ⟨i, hi1, hi2⟩ : ∃ i, P.info? e = some i ∧ i.size = 1 := by simpa using hsz
  have hr : (Instr.sliceAt ty (.slice p n c) (lo.map a.eval) (hi.map a.eval) none).run P w = .ok (.slice (cutAt p l c) (h - l) (c - l)) w := by
    cases lo with
    | none =>
      simp only [Option.elim] at hl
      subst hl
      cases hi with
      | none =>
        simp only [Option.elim] at hh
        subst hh
        simp [Instr.sliceAt, Instr.slice, run_underlying hu, Instr.sliceBounds, sizeOf, typeInfo, hi1, cutAt]
      | some y =>
        obtain ⟨k, hk⟩ := hh
        simp [Instr.sliceAt, Instr.slice, run_underlying hu, Instr.sliceBounds, run_sliceBound, h3, sizeOf, typeInfo, hi1, cutAt, hk]
    | some z =>
      obtain ⟨kz, hkz⟩ := hl
      cases hi with
      | none =>
        simp only [Option.elim] at hh
        subst hh
        simp [Instr.sliceAt, Instr.slice, run_underlying hu, Instr.sliceBounds, run_sliceBound, h2, sizeOf, typeInfo, hi1, hi2, cutAt, hkz]
      | some y =>
        obtain ⟨k, hk⟩ := hh
        simp [Instr.sliceAt, Instr.slice, run_underlying hu, Instr.sliceBounds, run_sliceBound, h2, h3, sizeOf, typeInfo, hi1, hi2, cutAt, hk, hkz]
  unfold Oper.wp execOp
  simp only [ho, hx, Option.map_none, Sem.run_bind, Sem.run_pure, Result.andThen_ok, hr]
  exact hK' _ _ hK
end

theorem Rd.lt {w : World} {b o n : Nat} {vs : List Value} (h : Rd w (some ⟨b, o, none⟩) n vs) (hn : 0 < n) : b < w.heap.size := by
  obtain ⟨b', o', he, hc⟩ := h.at hn
  simp only [Option.some.injEq, Addr.mk.injEq] at he
  obtain ⟨rfl, rfl, -⟩ := he
  have := hc.cell (i := 0) (by rw [h.len]; exact hn)
  exact block_lt_of_cell this
end Go.Mv

/- Literals of structs and of slices, boxes. -/
namespace Go.Mv
open Go.RowKit
variable {P : Program}

theorem wl_build {w : World} {ops : Array Oper} {rest : List Oper} {o : Oper} {a : Act} {Q : Exit → Act → World → Prop} {t : TypeId} {parts : Array (Nat × Operand)} (hgd : o.guard = none) (ho : o.op = .build t parts) (cells : Array Value)
    (hb : P.built t (parts.map fun (i, x) => (i, a.eval x)).toList = some cells) (h : wpList P ops Q rest (a.put o.dst (.agg cells)) w) : wpList P ops Q (o :: rest) a w := by
  refine wpList_plain hgd fun K hK => ?_
  have hr := run_build (P := P) w t (parts.map fun (i, x) => (i, a.eval x)) cells hb
  unfold Oper.wp execOp
  simp only [ho, Sem.run_bind, Sem.run_pure, Result.andThen_ok, hr]
  exact hK _ _ h
theorem wl_build0 {w : World} {ops : Array Oper} {rest : List Oper} {o : Oper} {a : Act} {Q : Exit → Act → World → Prop} {t : TypeId} (hgd : o.guard = none) (ho : o.op = .build t #[]) (cells : Array Value)
    (hb : P.built t [] = some cells) (h : wpList P ops Q rest (a.put o.dst (.agg cells)) w) : wpList P ops Q (o :: rest) a w :=
  wl_build hgd ho cells (by simpa using hb) h
/-- a slice's block is there already -/
def Old (w : World) (a : Option Addr) : Prop := ∀ x, a = some x → x.block < w.heap.size
theorem Old.off {w : World} {a : Option Addr} (h : Old w a) {g : Nat} (hg : w.heap.size ≤ g) : Off (One g) a := fun x hx (e : x.block = g) => by have := h x hx; omega
theorem Old.none (w : World) : Old w .none := fun _ h => by cases h
theorem Old.has {w : World} {g : Nat} {L : List Value} {T : TypeId} (h : Has w g L T) (o : Nat) : Old w (some ⟨g, o, .none⟩) := fun x hx => by cases hx; exact h.lt
theorem wl_box {w : World} {ops : Array Oper} {rest : List Oper} {o : Oper} {a : Act} {Q : Exit → Act → World → Prop} {e : TypeId} {x : Operand} (hgd : o.guard = none) (ho : o.op = .box e x) {v : Value} (hx : a.eval x = v) (L : List Value) (hL : v.cells.toList = L)
    (h : ∀ w', Has w' w.heap.size L e → Fr Nob w w' → w'.heap.size = w.heap.size + 1 → wpList P ops Q rest (a.put o.dst (.pointer (some ⟨w.heap.size, 0, none⟩))) w') : wpList P ops Q (o :: rest) a w := by
  refine wpList_plain hgd fun K hK => ?_
  have hr : (Instr.box e v).run P w = .ok (.pointer (some ⟨w.heap.size, 0, none⟩)) (w.alloc (.cells v.cells e)) := by
    simp [Instr.box, newVar, newRow]
  unfold Oper.wp execOp
  simp only [ho, hx, Sem.run_bind, Sem.run_pure, Result.andThen_ok, hr]
  refine hK _ _ (h _ ?_ ((Fr.refl _ w).alloc _) (by simp))
  have := Has.new w v.cells e
  rwa [hL] at this
/-- an owned slice's cells: read and written -/
theorem Own.cells {w : World} {base : Nat} {T : TypeId} {v : Value} {n : Nat} {L : List Value} (h : Own w base T 1 v n L) (hn : 0 < n) :
    ∃ g o cap, v = .slice (some ⟨g, o, none⟩) n cap ∧ base ≤ g ∧ g < w.heap.size ∧ n ≤ cap ∧ cap ≤ maxLen ∧ (∀ i x, L[i]? = some x → w.cell? ⟨g, o + i, none⟩ = some x) ∧ (∀ i, i < n → w.frozen? ⟨g, o + i, none⟩ = false) ∧
      (∀ i x, i < n → Own (w.setCell ⟨g, o + i, none⟩ x) base T 1 v n (L.set i x)) := by
  obtain ⟨hl, h | ⟨g, o, cap, B, rfl, hb, hg, h1, h2, h3, h4⟩⟩ := h
  · obtain ⟨_, h0⟩ := h; omega
  · rw [Nat.mul_one] at h3 h4 hl
    refine ⟨g, o, cap, rfl, hb, hg.lt, h1, h2, ?_, ?_, ?_⟩
    · intro i x hx
      rw [← h4, List.getElem?_take] at hx
      split at hx
      · rw [List.getElem?_drop] at hx; exact hg.cell hx
      · cases hx
    · intro i hi; exact hg.free _ (by omega)
    · intro i x hi
      refine ⟨by rw [List.length_set, hl, Nat.mul_one], .inr ⟨g, o, cap, B.set (o + i) x, rfl, hb, hg.set (o + i) x, h1, h2, by rw [List.length_set]; omega, ?_⟩⟩
      rw [Nat.mul_one, ← h4]
      apply List.ext_getElem?
      intro j
      simp only [List.getElem?_take, List.getElem?_drop, List.getElem?_set]
      by_cases hj : j < n
      · rw [if_pos hj]
        by_cases e : i = j
        · subst e
          rw [if_pos rfl, if_pos rfl, if_pos (by omega), if_pos (by rw [List.length_take, List.length_drop]; omega)]
        · rw [if_neg (by omega), if_neg e, if_pos hj]
      · rw [if_neg hj]
        by_cases e : i = j
        · omega
        · rw [if_neg e, if_neg hj]
end Go.Mv

/- One-cell literals of any kind; owned slices and other blocks. -/
namespace Go.Mv
open Go.RowKit
variable {P : Program}
/-- a block of another type is not the slice's own -/
theorem Own.ne {w : World} {base sz n g : Nat} {T T' : TypeId} {v : Value} {L L' : List Value} (h : Own w base T sz v n L) (hg : Has w g L' T') (hT : T ≠ T') : ¬ OwnB v g := by
  intro hv
  obtain ⟨_, ⟨rfl, _⟩ | ⟨g', o, cap, B, rfl, _, hg', _⟩⟩ := h
  · cases hv
  · have : g' = g := by simpa [OwnB, Value.ownBlock] using hv
    subst this
    obtain ⟨_, _, h1, _⟩ := hg
    obtain ⟨_, _, h2, _⟩ := hg'
    rw [h1] at h2
    simp at h2
    exact hT h2.2.1.symm
end Go.Mv

/- What a call knows of the blocks that are its own: one fact for all of them. -/
namespace Go.Mv
open Go.RowKit
variable {P : Program}

/-- the blocks of bl hold what is told; each is new since w0, or may be written (S); no other block that was there at w0 has turned, but those of S -/
structure St (S : Nat → Prop) (w0 w : World) (bl : List (Nat × List Value × TypeId)) : Prop where
  fr : Fr S w0 w
  own : ∀ x ∈ bl, w0.heap.size ≤ x.1 ∨ S x.1
  has : ∀ x ∈ bl, Has w x.1 x.2.1 x.2.2
  ne : bl.Pairwise fun x y => x.1 ≠ y.1

theorem St.start (S : Nat → Prop) (w : World) : St S w w [] := ⟨Fr.refl _ _, by simp, by simp, List.Pairwise.nil⟩
theorem St.at {S : Nat → Prop} {w0 w : World} {bl : List (Nat × List Value × TypeId)} (h : St S w0 w bl) (i : Nat) {g : Nat} {L : List Value} {T : TypeId} (hi : bl[i]? = some (g, L, T)) : Has w g L T :=
  h.has _ (List.mem_of_getElem? hi)
theorem St.neAt {S : Nat → Prop} {w0 w : World} {bl : List (Nat × List Value × TypeId)} (h : St S w0 w bl) {i j : Nat} {x y : Nat × List Value × TypeId} (hi : bl[i]? = some x) (hj : bl[j]? = some y) (hij : i ≠ j) : x.1 ≠ y.1 := by
  obtain ⟨hi1, rfl⟩ := List.getElem?_eq_some_iff.1 hi
  obtain ⟨hj1, rfl⟩ := List.getElem?_eq_some_iff.1 hj
  rcases Nat.lt_or_ge i j with k | k
  · exact List.pairwise_iff_getElem.1 h.ne i j hi1 hj1 k
  · exact (List.pairwise_iff_getElem.1 h.ne j i hj1 hi1 (by omega)).symm
theorem St.keep {S : Nat → Prop} {w0 w w' : World} {bl : List (Nat × List Value × TypeId)} (h : St S w0 w bl) (hf : Fr Nob w w') : St S w0 w' bl :=
  ⟨h.fr.same hf, h.own, fun x hx => (h.has x hx).keep hf id, h.ne⟩
theorem St.drew {S : Nat → Prop} {w0 w : World} {bl : List (Nat × List Value × TypeId)} (h : St S w0 w bl) : St S w0 w.drew bl := ⟨h.fr.drew, h.own, h.has, h.ne⟩
theorem St.drewN {S : Nat → Prop} {w0 w : World} {bl : List (Nat × List Value × TypeId)} (h : St S w0 w bl) (n : Nat) : St S w0 (w.drewN n) bl := ⟨h.fr.drewN n, h.own, h.has, h.ne⟩
theorem St.less {S : Nat → Prop} {w0 w : World} {bl bl' : List (Nat × List Value × TypeId)} (h : St S w0 w bl) (hs : bl'.Sublist bl) : St S w0 w bl' :=
  ⟨h.fr, fun x hx => h.own x (hs.subset hx), fun x hx => h.has x (hs.subset hx), h.ne.sublist hs⟩
theorem St.new {S : Nat → Prop} {w0 w w' : World} {bl : List (Nat × List Value × TypeId)} (h : St S w0 w bl) (hf : Fr Nob w w') {g : Nat} {L : List Value} {T : TypeId} (hg : Has w' g L T) (hn : w.heap.size ≤ g) : St S w0 w' (bl ++ [(g, L, T)]) := by
  refine ⟨h.fr.same hf, ?_, ?_, ?_⟩
  · intro x hx
    rcases List.mem_append.1 hx with hx | hx
    · exact h.own x hx
    · simp only [List.mem_singleton] at hx
      subst hx
      exact .inl (Nat.le_trans h.fr.size hn)
  · intro x hx
    rcases List.mem_append.1 hx with hx | hx
    · exact (h.has x hx).keep hf id
    · simp only [List.mem_singleton] at hx
      subst hx
      exact hg
  · rw [List.pairwise_append]
    refine ⟨h.ne, List.pairwise_singleton _ _, ?_⟩
    intro x hx y hy
    simp only [List.mem_singleton] at hy
    subst hy
    have := (h.has x hx).lt
    show x.1 ≠ g
    omega
theorem St.put {S : Nat → Prop} {w0 w w' : World} {bl : List (Nat × List Value × TypeId)} (h : St S w0 w bl) (i : Nat) {g : Nat} {L L' : List Value} {T : TypeId} (hi : bl[i]? = some (g, L, T)) (hf : Fr (One g) w w') (hg : Has w' g L' T) : St S w0 w' (bl.set i (g, L', T)) := by
  obtain ⟨hi1, hi2⟩ := List.getElem?_eq_some_iff.1 hi
  refine ⟨?_, ?_, ?_, ?_⟩
  · refine h.fr.trans hf fun j hj hjg => ?_
    have hjg' : j = g := hjg
    subst hjg'
    rcases h.own _ (List.mem_of_getElem? hi) with k | k
    · have k' : w0.heap.size ≤ j := k
      omega
    · exact k
  · intro x hx
    rcases List.mem_or_eq_of_mem_set hx with hx | rfl
    · exact h.own x hx
    · exact h.own (g, L, T) (List.mem_of_getElem? hi)
  · intro x hx
    obtain ⟨j, hj1, hj2⟩ := List.mem_iff_getElem.1 hx
    rw [List.length_set] at hj1
    rw [List.getElem_set] at hj2
    by_cases e : i = j
    · rw [if_pos e] at hj2; subst hj2; exact hg
    · rw [if_neg e] at hj2
      subst hj2
      refine (h.has _ (List.getElem_mem hj1)).keep hf fun t => ?_
      exact h.neAt hi (List.getElem?_eq_getElem hj1) e (Eq.symm t)
  · rw [List.pairwise_iff_getElem]
    intro j k hj hk hjk
    have e := List.pairwise_iff_getElem.1 h.ne j k (by simpa using hj) (by simpa using hk) hjk
    rw [List.getElem_set, List.getElem_set]
    split
    · rename_i e1; subst e1
      rw [hi2] at e
      split
      · omega
      · exact e
    · split
      · rename_i e2; subst e2; rw [hi2] at e; exact e
      · exact e
/-- one cell of a block is written -/
theorem St.set {S : Nat → Prop} {w0 w : World} {bl : List (Nat × List Value × TypeId)} (h : St S w0 w bl) (i : Nat) {g : Nat} {L : List Value} {T : TypeId} (hi : bl[i]? = some (g, L, T)) (k : Nat) (v : Value) : St S w0 (w.setCell ⟨g, k, none⟩ v) (bl.set i (g, L.set k v, T)) :=
  h.put i hi ((Fr.refl (One g) w).setCell g k none v (fun _ => rfl)) ((h.at i hi).set k v)
/-- a block that came in is taken in -/
theorem St.take {S : Nat → Prop} {w0 w : World} {bl : List (Nat × List Value × TypeId)} (h : St S w0 w bl) {g : Nat} {L : List Value} {T : TypeId} (hg : Has w g L T) (hS : S g) (hn : ∀ x ∈ bl, x.1 ≠ g) : St S w0 w (bl ++ [(g, L, T)]) := by
  refine ⟨h.fr, ?_, ?_, ?_⟩
  · intro x hx
    rcases List.mem_append.1 hx with hx | hx
    · exact h.own x hx
    · simp only [List.mem_singleton] at hx; subst hx; exact .inr hS
  · intro x hx
    rcases List.mem_append.1 hx with hx | hx
    · exact h.has x hx
    · simp only [List.mem_singleton] at hx; subst hx; exact hg
  · rw [List.pairwise_append]
    refine ⟨h.ne, List.pairwise_singleton _ _, ?_⟩
    intro x hx y hy
    simp only [List.mem_singleton] at hy
    subst hy
    exact hn x hx
theorem St.one {w : World} {g : Nat} {L : List Value} {T : TypeId} (hg : Has w g L T) : St (One g) w w [(g, L, T)] := (St.start (One g) w).take hg rfl (by simp)

section
variable {w w0 : World} {ops : Array Oper} {rest : List Oper} {o : Oper} {a : Act} {Q : Exit → Act → World → Prop} {S : Nat → Prop} {bl : List (Nat × List Value × TypeId)}
theorem wl_boxS (hst : St S w0 w bl) {e : TypeId} {x : Operand} (hgd : o.guard = none) (ho : o.op = .box e x) {v : Value} (hx : a.eval x = v) (L : List Value) (hL : v.cells.toList = L)
    (h : ∀ g w', St S w0 w' (bl ++ [(g, L, e)]) → wpList P ops Q rest (a.put o.dst (.pointer (some ⟨g, 0, none⟩))) w') : wpList P ops Q (o :: rest) a w :=
  wl_box hgd ho hx L hL fun w' hg hf _ => h _ w' (hst.new hf hg (Nat.le_refl _))
theorem wl_allocS (hst : St S w0 w bl) {e : TypeId} (hgd : o.guard = none) (ho : o.op = .alloc e) {z : Value} (hi : (P.info? e).map (·.zero) = some (some z)) (L : List Value) (hL : z.cells.toList = L)
    (h : ∀ g w', St S w0 w' (bl ++ [(g, L, e)]) → wpList P ops Q rest (a.put o.dst (.pointer (some ⟨g, 0, none⟩))) w') : wpList P ops Q (o :: rest) a w :=
  wl_alloc hgd ho hi L hL fun w' hg hf _ => h _ w' (hst.new hf hg (Nat.le_refl _))
/-- a whole array is read -/
theorem wl_loadS (hst : St S w0 w bl) (i : Nat) {g : Nat} {L : List Value} {T : TypeId} (hb : bl[i]? = some (g, L, T)) {ty : TypeId} {x : Operand} (hgd : o.guard = none) (ho : o.op = .load ty x) {n : Nat} {e : TypeId} (hu : P.underlying ty = some (.array n e)) (hx : a.eval x = .pointer (some ⟨g, 0, none⟩))
    (hi : (P.info? ty).map (·.size) = some L.length) (h : wpList P ops Q rest (a.put o.dst (.agg L.toArray)) w) : wpList P ops Q (o :: rest) a w :=
  wl_loadA hgd ho hu hx (hst.at i hb) L (by rw [List.drop_zero, List.take_of_length_le (Nat.le_refl _)]) hi h
/-- a whole struct (or array) is read -/
theorem wl_loadSt (hst : St S w0 w bl) (i : Nat) {g : Nat} {L : List Value} {T : TypeId} (hb : bl[i]? = some (g, L, T)) {ty : TypeId} {x : Operand} (hgd : o.guard = none) (ho : o.op = .load ty x) {d : TypeDesc} (hu : P.underlying ty = some d) (hd : d.isRow = true) (hx : a.eval x = .pointer (some ⟨g, 0, none⟩))
    (hi : (P.info? ty).map (·.size) = some L.length) (h : wpList P ops Q rest (a.put o.dst (.agg L.toArray)) w) : wpList P ops Q (o :: rest) a w :=
  wpList_load_mid hgd ty x ho g 0 hx L _ ((hst.at i hb).range 0 L (by rw [List.drop_zero, List.take_of_length_le (Nat.le_refl _)])) hu hd hi h
/-- a whole array is stored -/
theorem wl_storeS (hst : St S w0 w bl) (i : Nat) {g : Nat} {L : List Value} {T : TypeId} (hb : bl[i]? = some (g, L, T)) {ty : TypeId} {x y : Operand} (hgd : o.guard = none) (ho : o.op = .store ty x y) (hx : a.eval x = .pointer (some ⟨g, 0, none⟩)) {cs : List Value} (hy : a.eval y = .agg cs.toArray)
    (hn : cs.length = L.length) (hi : (P.info? ty).map (·.size) = some cs.length) (h1 : ∀ v ∈ cs, v.oneCell' = true)
    (h : ∀ w', St S w0 w' (bl.set i (g, cs, T)) → wpList P ops Q rest (a.put o.dst undef) w') : wpList P ops Q (o :: rest) a w :=
  wl_storeA hgd ho hx hy (hst.at i hb) (by omega) hi h1 fun w' hg hf _ => h w' (hst.put i hb hf (by rwa [splice_whole _ _ hn] at hg))
end
end Go.Mv

/- Words of 64 bits in memory, as natural numbers; math/bits.Add64, Sub64, Mul64. -/
namespace Go.Mv
open Go.RowKit Mvp
variable {P : Program}

/-- words, as cells -/
def us (l : List Nat) : List Value := l.map fun (x : Nat) => .int .u64 (x : Int)
theorem length_us (l : List Nat) : (us l).length = l.length := by simp [us]
theorem us_get (l : List Nat) (i x : Nat) (h : l[i]? = some x) : (us l)[i]? = some (.int .u64 (x : Int)) := by simp [us, h]
theorem us_set (l : List Nat) (i : Nat) (x : Nat) : (us l).set i (.int .u64 (x : Int)) = us (l.set i x) := by simp [us]
theorem us_one (l : List Nat) : ∀ v ∈ us l, v.oneCell' = true := by intro v hv; simp [us] at hv; obtain ⟨x, _, rfl⟩ := hv; rfl
/-- n words -/
def cw (n a : Nat) : List Value := us (limbs n a)
theorem cw_len (n a : Nat) : (cw n a).length = n := by rw [cw, length_us, limbs_length]
theorem cw_get (n a i : Nat) (h : i < n) : (cw n a)[i]? = some (.int .u64 (lw a i : Nat)) := us_get _ _ _ (limbs_get n a i h)
theorem cw_set (n A B k : Nat) (h : k < n) : (cw n (mix A B k)).set k (.int .u64 (lw A k : Nat)) = cw n (mix A B (k + 1)) := by
  rw [cw, us_set, limbs_set n A B k h, cw]
theorem cw_one (n a : Nat) : ∀ v ∈ cw n a, v.oneCell' = true := us_one _
theorem cw_mod (n a : Nat) : cw n (a % B64 ^ n) = cw n a := by rw [cw, limbs_mod, cw]
/-- four words by value -/
def i4 (a : Nat) : Value := .agg (cw 4 a).toArray
/-- eight words by value -/
def i8 (a : Nat) : Value := .agg (cw 8 a).toArray
theorem cw_ext {n a b : Nat} (h : ∀ i, i < n → lw a i = lw b i) : cw n a = cw n b := by rw [cw, limbs_ext h, cw]
theorem mix_full (A B n : Nat) : cw n (mix A B n) = cw n A := cw_ext fun i hi => by rw [lw_mix, if_pos hi]
theorem i4_cells (a : Nat) : (i4 a).cells.toList = cw 4 a := rfl
theorem cw_zero (n : Nat) : cw n 0 = List.replicate n (.int .u64 0) := by
  apply List.ext_getElem?
  intro i
  rcases Nat.lt_or_ge i n with h | h
  · rw [cw_get _ _ _ h, List.getElem?_replicate, if_pos h]; simp [lw]
  · rw [List.getElem?_eq_none (by rw [cw_len]; exact h), List.getElem?_replicate, if_neg (by omega)]

theorem run_index_cw {t e : TypeId} {m : Nat} (ht : P.underlying t = some (.array m e)) (he : P.underlying e = some (.int .u64)) (hi0 : (P.info? e).map (·.size) = some 1) (a k : Nat) (hk : k < m) (ki : IntKind) (w : World) :
    (Instr.index t (.agg (cw m a).toArray) (.int ki (k : Int))).run P w = .ok (.int .u64 (lw a k : Nat)) w := by
  obtain ⟨j, hj, hsz⟩ : ∃ j, P.info? e = some j ∧ j.size = 1 := by simpa using hi0
  have h1 : (0 : Int) ≤ (k : Int) ∧ (k : Int) < (m : Int) := by omega
  have hv := cw_get m a k hk
  simp [Instr.index, asIntOf, run_underlying ht, sizeOf, typeInfo, hj, hsz, part, isAgg, run_underlying he, h1, hv]
  intro h; omega
/-- the results are an array in memory and a slot -/
theorem results_arr2 {fn : Func} {p : Tmp} {ty : TypeId} {s : Tmp} (h : fn.results = #[.cell p ty, .tmp s]) {tmps : Array Value} {w : World} {g : Nat} {L : List Value} {T : TypeId}
    (hp : tmps.getD p undef = .pointer (some ⟨g, 0, none⟩)) (hg : Has w g L T) {n : Nat} {e : TypeId} (hu : P.underlying ty = some (.array n e)) (hi : (P.info? ty).map (·.size) = some L.length) {v : Value} (hv : tmps.getD s undef = v) :
    (results fn tmps).run P w = .ok (.tuple #[.agg L.toArray, v]) w := by
  obtain ⟨lo, hi', hh, -⟩ := hg
  have hp' : tmps[p]?.getD undef = .pointer (some ⟨g, 0, none⟩) := by simpa using hp
  have hv' : tmps[s]?.getD undef = v := by simpa using hv
  simp [results, h, hp', hv', asAddr, run_loadVar_row w g T ty L.toArray _ _ hh hu rfl (by simpa using hi)]
theorem i4_words (a : Nat) : i4 a = .agg #[.int .u64 (lw a 0 : Nat), .int .u64 (lw a 1 : Nat), .int .u64 (lw a 2 : Nat), .int .u64 (lw a 3 : Nat)] := rfl
theorem i4_high (V : Nat) : i4 (V / B64 ^ 4) = .agg #[.int .u64 (lw V 4 : Nat), .int .u64 (lw V 5 : Nat), .int .u64 (lw V 6 : Nat), .int .u64 (lw V 7 : Nat)] := by
  rw [i4_words, lw_div, lw_div, lw_div, lw_div]
theorem i4_mod (V : Nat) : i4 (V % B64 ^ 4) = i4 V := by rw [i4, cw_mod, ← i4]
theorem i8_words (a : Nat) : i8 a = .agg #[.int .u64 (lw a 0 : Nat), .int .u64 (lw a 1 : Nat), .int .u64 (lw a 2 : Nat), .int .u64 (lw a 3 : Nat), .int .u64 (lw a 4 : Nat), .int .u64 (lw a 5 : Nat), .int .u64 (lw a 6 : Nat), .int .u64 (lw a 7 : Nat)] := rfl
theorem i8_low (V : Nat) : i8 (V % B64 ^ 4) = .agg #[.int .u64 (lw V 0 : Nat), .int .u64 (lw V 1 : Nat), .int .u64 (lw V 2 : Nat), .int .u64 (lw V 3 : Nat), .int .u64 0, .int .u64 0, .int .u64 0, .int .u64 0] := by
  have ht := fun i (hi : 4 ≤ i) => lw_top (V % B64 ^ 4) 4 i (Nat.mod_lt _ (b64_pos 4)) hi
  rw [i8_words, lw_mod _ _ _ (by decide), lw_mod _ _ _ (by decide), lw_mod _ _ _ (by decide), lw_mod _ _ _ (by decide), ht 4 (by decide), ht 5 (by decide), ht 6 (by decide), ht 7 (by decide)]
  rfl
/-- the number that lies in memory -/
def valFrom (w : World) (g : Nat) : Nat → Nat → Nat
  | _, 0 => 0
  | i, n + 1 => (intOf ((w.cell? ⟨g, i, none⟩).getD undef)).toNat + B64 * valFrom w g (i + 1) n
theorem valFrom_cw {w : World} {g V m : Nat} {T : TypeId} (h : Has w g (cw m V) T) : ∀ (n i : Nat), i + n ≤ m → valFrom w g i n = V / B64 ^ i % B64 ^ n
  | 0, i, _ => by simp [valFrom, Nat.mod_one]
  | n + 1, i, hi => by
    rw [valFrom, valFrom_cw h n (i + 1) (by omega), h.cell (cw_get m V i (by omega))]
    show lw V i + B64 * _ = _
    have e1 : B64 ^ (n + 1) = B64 * B64 ^ n := by rw [Nat.pow_succ, Nat.mul_comm]
    rw [e1, Nat.mod_mul, Nat.pow_succ, ← Nat.div_div_eq_div_mul]
    rfl
theorem valFrom_all {w : World} {g V m : Nat} {T : TypeId} (h : Has w g (cw m V) T) (hV : V < B64 ^ m) : valFrom w g 0 m = V := by
  rw [valFrom_cw h m 0 (by omega), Nat.pow_zero, Nat.div_one, Nat.mod_eq_of_lt hV]
theorem St.setCells {S : Nat → Prop} {w0 w : World} {bl : List (Nat × List Value × TypeId)} (h : St S w0 w bl) (i : Nat) {g : Nat} {L : List Value} {T : TypeId} (hb : bl[i]? = some (g, L, T)) (cs : List Value) (hn : cs.length = L.length) : St S w0 (w.setCells g 0 cs) (bl.set i (g, cs, T)) := by
  obtain ⟨k1, k2, _⟩ := Has.setCells cs 0 L w (h.at i hb) (by omega)
  rw [splice_whole _ _ hn] at k1
  exact h.put i hb k2 k1
theorem has_new4 (w : World) (a : Nat) (T : TypeId) : Has (w.alloc (.cells #[.int .u64 (lw a 0 : Nat), .int .u64 (lw a 1 : Nat), .int .u64 (lw a 2 : Nat), .int .u64 (lw a 3 : Nat)] T)) w.heap.size (cw 4 a) T := Has.new w _ T
theorem neg_words (p a : Nat) (h : a ≤ p) : i4 (p + B64 ^ 4 - a) = i4 (p - a) := by
  rw [← i4_mod, show p + B64 ^ 4 - a = (p - a) + B64 ^ 4 by omega, Nat.add_mod_right, i4_mod]
theorem small_words (n : Nat) (h : n < 18446744073709551616) : .agg #[.int .u64 (n : Int), .int .u64 0, .int .u64 0, .int .u64 0] = i4 n := by
  have h0 : lw n 0 = n := by simp only [lw, Nat.pow_zero, Nat.div_one]; exact Nat.mod_eq_of_lt h
  have ht := fun i (hi : 1 ≤ i) => lw_top n 1 i (by rw [Nat.pow_one]; exact h) hi
  rw [i4_words, h0, ht 1 (by decide), ht 2 (by decide), ht 3 (by decide)]
  rfl
theorem cw_left (m n a b : Nat) : ((cw m a ++ cw n b).drop 0).take (cw m a).length = cw m a := by simp
theorem cw_right (m n a b : Nat) : ((cw m a ++ cw n b).drop m).take (cw n b).length = cw n b := by
  rw [List.drop_append, cw_len, cw_len, Nat.sub_self, List.drop_of_length_le (by rw [cw_len]; exact Nat.le_refl _), List.nil_append, List.drop_zero, List.take_of_length_le (by rw [cw_len]; exact Nat.le_refl _)]
end Go.Mv
namespace Go.Proofs.Ytdbgddngapminaa
open Go.RowKit Go.Mv Mvp
def Try.lays264_ren : Go.Shelf.Ren := ⟨fun | 264 => 119 | n => n, fun | 46 => 102 | 53 => 22 | n => n, fun | n => n⟩
theorem Try.lays264 : Go.Proofs.Lays.n264 Try.prog Try.lays264_ren := {
  mixed := by kernel_rfl
  f264 := Try.func119.trans (congrArg some (by kernel_rfl))
  t46 := Try.underlying102
  a46 := Try.isAgg102
  z46 := Try.sizeOf102
  v46 := Try.zeroValue102
  t53 := Try.underlying22
  a53 := Try.isAgg22
  z53 := Try.sizeOf22
  v53 := Try.zeroValue22 }
theorem add64_run (x y c : Nat) (hc : c ≤ 1) (w : World) : (callFunc 120 #[.int .u64 x, .int .u64 y, .int .u64 c]).run Try.prog w =
      .ok (.value (.tuple #[.int .u64 (((x + y + c) % 18446744073709551616 : Nat) : Int), .int .u64 (((x + y + c) / 18446744073709551616 : Nat) : Int)])) w := by
  rw [run_callFunc_extern Try.func120 (by kernel_rfl) (by kernel_rfl) (by kernel_rfl) (e := add64Entry) (by kernel_rfl), run_add64 x y c (by omega) (by omega) (by omega) (by omega)]
  simp only [Result.andThen]
  congr 5 <;> omega
theorem add64_run0 (x y s c : Nat) (h1 : (x + y) % 18446744073709551616 = s) (h2 : (x + y) / 18446744073709551616 = c) (w : World) : (callFunc 120 #[.int .u64 x, .int .u64 y, .int .u64 0]).run Try.prog w =
      .ok (.value (.tuple #[.int .u64 (s : Int), .int .u64 (c : Int)])) w := by
  have h := add64_run x y 0 (by omega) w
  rw [Nat.add_zero, h1, h2] at h
  exact h
theorem sub64_run (x y b : Nat) (hb : b ≤ 1) (w : World) : (callFunc 81 #[.int .u64 x, .int .u64 y, .int .u64 b]).run Try.prog w =
      .ok (.value (.tuple #[.int .u64 (((x + 18446744073709551616 - y - b) % 18446744073709551616 : Nat) : Int), .int .u64 ((if x < y + b then 1 else 0 : Nat) : Int)])) w := by
  rw [run_callFunc_extern Try.func81 (by kernel_rfl) (by kernel_rfl) (by kernel_rfl) (e := sub64Entry) (by kernel_rfl), run_sub64 x y b hb]
  rfl
/-- two results in slots -/
theorem mul64_any (x y : Nat) (hx : x < 18446744073709551616) (hy : y < 18446744073709551616) (w : World) :
    Calls Try.prog 119 #[.int .u64 x, .int .u64 y] w fun e w' => e = .returned (.tuple #[.int .u64 ((x * y / 18446744073709551616 : Nat) : Int), .int .u64 ((x * y % 18446744073709551616 : Nat) : Int)]) ∧ w = w' :=
  (Any.bits_Mul64 Try.lays264 x y hx hy w).mono fun _ _ h => ⟨h.1, h.2.symm⟩
theorem size_u64 : (Try.prog.info? 22).map (·.size) = some 1 := by kernel_rfl
end Go.Proofs.Ytdbgddngapminaa

/- Sums and differences of words: mont.Int.minus, plus; the reference's less, plus. -/
namespace Go.Proofs.Ytdbgddngapminaa
open Go.RowKit Go.Mv Mvp
attribute [local irreducible] limbs lw mix cw cSub cAdd cMul
set_option maxHeartbeats 2000000 in
set_option maxRecDepth 100000 in
theorem minus_any (a b : Nat) (w : World) (hb : b < B64 ^ 4) :
    Calls Try.prog 114 #[i4 a, i4 b] w fun e w' => e = .returned (.tuple #[i4 (a + B64 ^ 4 - b), .int .u64 (cSub a b 4 : Nat)]) ∧ Fr Nob w w' := by
  have HB := Lib.hid hb; clear hb
  have st0 := St.start Nob w
  go_enter Try.func114, Try.ntmps114
  go_wp2_with (with_reducible refine wl_stop (o := ⟨some 2, _, _, _, _, _⟩) ?_)
  refine wl_boxS st0 rfl rfl rfl (cw 4 a) rfl ?_
  intro g2 w1 st1
  clear st0
  go_wp2_with (with_reducible refine wl_stop (o := ⟨some 3, _, _, _, _, _⟩) ?_)
  refine wl_boxS st1 rfl rfl rfl (cw 4 b) rfl ?_
  intro g3 w2 st2
  clear st1
  go_wp2_with (with_reducible refine wl_stop (o := ⟨some 4, _, _, _, _, _⟩) ?_)
  refine wl_allocS st2 rfl rfl (z := .agg #[.int .u64 0, .int .u64 0, .int .u64 0, .int .u64 0]) (by kernel_rfl) (cw 4 0) (by rw [cw_zero]; rfl) ?_
  intro g4 w3 st3
  clear st2
  go_wp2
  go_loopw [5, 7] (fun c i wr => ∃ k : Nat, k ≤ 4 ∧ i = .int .i64 (k : Int) ∧ c = .int .u64 (cSub a b k : Nat) ∧ St Nob w wr [(g2, cw 4 a, 82), (g3, cw 4 b, 82), (g4, cw 4 (mix (a + B64 ^ 4 - b) 0 k), 82)]) (fun _ i _ => 4 - (intOf i).toNat)
  case atStart => exact ⟨0, by omega, rfl, by rw [cSub_zero]; rfl, by rw [mix_zero]; exact st3⟩
  case round =>
    obtain ⟨k, hk, rfl, rfl, st⟩ := hrel
    clear st3
    by_cases hlt : k < 4
    · have hltI : (k : Int) < 4 := by omega
      have c1 := (st.at 0 rfl).cell (cw_get 4 a k hlt)
      have c2 := (st.at 1 rfl).cell (cw_get 4 b k hlt)
      obtain ⟨v3, c3, f3⟩ := (st.at 2 rfl).ready (i := k) (by rw [cw_len]; exact hlt)
      have e1 := fun wx => sub64_run (lw a k) (lw b k) (cSub a b k) (cSub_le a b k) wx
      go_wp2
      go_region
      all_goals
        go_wp2
        go_roundw
        case rel =>
          have h1 := st.set 2 rfl k (.int .u64 (lw (a + B64 ^ 4 - b) k : Nat))
          rw [cw_set _ _ _ _ hlt, lw_sub 4 a b k HB.out hlt] at h1
          exact ⟨k + 1, by omega, by go_num, by rw [cSub_succ], h1.drew⟩
        case measure => simp [intOf]; omega
    · have hge : ¬ ((k : Int) < 4) := by omega
      have hk4 : k = 4 := by omega
      have HK := Lib.hid hk4; clear hk4
      go_wp2_with (with_reducible refine wl_stop (o := ⟨some 24, _, _, _, _, _⟩) ?_)
      refine wl_loadS st 2 rfl rfl rfl Try.underlying82 rfl (by rw [cw_len]; kernel_rfl) ?_
      go_wp2_with (with_reducible refine wl_stop (o := ⟨none, _, _, _, _, _⟩) ?_)
      refine wl_storeS st 2 rfl rfl rfl rfl rfl (by simp only [cw_len]) (by rw [cw_len]; kernel_rfl) (cw_one _ _) ?_
      intro w5 st5
      clear st
      have hd5 := st5.at 2 rfl
      rw [HK.out, mix_top _ _ _ (by first | decide | assumption | exact HA.out), cw_mod] at hd5
      have hf5 := st5.fr
      clear st5
      go_wp2
      exact bodyPost_ret (results_arr2 rfl rfl hd5 Try.underlying82 (by rw [cw_len]; kernel_rfl) rfl) rfl ⟨by rw [HK.out]; rfl, hf5⟩

set_option maxHeartbeats 2000000 in
set_option maxRecDepth 100000 in
theorem plus_any (a b : Nat) (w : World) :
    Calls Try.prog 118 #[i4 a, i4 b] w fun e w' => e = .returned (.tuple #[i4 (a + b), .int .u64 (cAdd a b 4 : Nat)]) ∧ Fr Nob w w' := by
  have st0 := St.start Nob w
  go_enter Try.func118, Try.ntmps118
  go_wp2_with (with_reducible refine wl_stop (o := ⟨some 2, _, _, _, _, _⟩) ?_)
  refine wl_boxS st0 rfl rfl rfl (cw 4 a) rfl ?_
  intro g2 w1 st1
  clear st0
  go_wp2_with (with_reducible refine wl_stop (o := ⟨some 3, _, _, _, _, _⟩) ?_)
  refine wl_boxS st1 rfl rfl rfl (cw 4 b) rfl ?_
  intro g3 w2 st2
  clear st1
  go_wp2_with (with_reducible refine wl_stop (o := ⟨some 4, _, _, _, _, _⟩) ?_)
  refine wl_allocS st2 rfl rfl (z := .agg #[.int .u64 0, .int .u64 0, .int .u64 0, .int .u64 0]) (by kernel_rfl) (cw 4 0) (by rw [cw_zero]; rfl) ?_
  intro g4 w3 st3
  clear st2
  go_wp2
  go_loopw [5, 7] (fun c i wr => ∃ k : Nat, k ≤ 4 ∧ i = .int .i64 (k : Int) ∧ c = .int .u64 (cAdd a b k : Nat) ∧ St Nob w wr [(g2, cw 4 a, 82), (g3, cw 4 b, 82), (g4, cw 4 (mix (a + b) 0 k), 82)]) (fun _ i _ => 4 - (intOf i).toNat)
  case atStart => exact ⟨0, by omega, rfl, by rw [cAdd_zero]; rfl, by rw [mix_zero]; exact st3⟩
  case round =>
    obtain ⟨k, hk, rfl, rfl, st⟩ := hrel
    clear st3
    by_cases hlt : k < 4
    · have hltI : (k : Int) < 4 := by omega
      have c1 := (st.at 0 rfl).cell (cw_get 4 a k hlt)
      have c2 := (st.at 1 rfl).cell (cw_get 4 b k hlt)
      obtain ⟨v3, c3, f3⟩ := (st.at 2 rfl).ready (i := k) (by rw [cw_len]; exact hlt)
      have e1 := fun wx => add64_run (lw a k) (lw b k) (cAdd a b k) (cAdd_le a b k) wx
      go_wp2
      go_region
      all_goals
        go_wp2
        go_roundw
        case rel =>
          have h1 := st.set 2 rfl k (.int .u64 (lw (a + b) k : Nat))
          rw [cw_set _ _ _ _ hlt, lw_add a b k] at h1
          exact ⟨k + 1, by omega, by go_num, by rw [cAdd_succ]; go_num, h1.drew⟩
        case measure => simp [intOf]; omega
    · have hge : ¬ ((k : Int) < 4) := by omega
      have hk4 : k = 4 := by omega
      have HK := Lib.hid hk4; clear hk4
      go_wp2_with (with_reducible refine wl_stop (o := ⟨some 24, _, _, _, _, _⟩) ?_)
      refine wl_loadS st 2 rfl rfl rfl Try.underlying82 rfl (by rw [cw_len]; kernel_rfl) ?_
      go_wp2_with (with_reducible refine wl_stop (o := ⟨none, _, _, _, _, _⟩) ?_)
      refine wl_storeS st 2 rfl rfl rfl rfl rfl (by simp only [cw_len]) (by rw [cw_len]; kernel_rfl) (cw_one _ _) ?_
      intro w5 st5
      clear st
      have hd5 := st5.at 2 rfl
      rw [HK.out, mix_top _ _ _ (by first | decide | assumption | exact HA.out), cw_mod] at hd5
      have hf5 := st5.fr
      clear st5
      go_wp2
      exact bodyPost_ret (results_arr2 rfl rfl hd5 Try.underlying82 (by rw [cw_len]; kernel_rfl) rfl) rfl ⟨by rw [HK.out]; rfl, hf5⟩

set_option maxHeartbeats 2000000 in
set_option maxRecDepth 100000 in
theorem less_any (a b : Nat) (w : World) (hb : b < B64 ^ 4) :
    Calls Try.prog 82 #[i4 a, i4 b] w fun e w' => e = .returned (.tuple #[i4 (a + B64 ^ 4 - b), .int .u64 (cSub a b 4 : Nat)]) ∧ Fr Nob w w' := by
  have HB := Lib.hid hb; clear hb
  have st0 := St.start Nob w
  go_enter Try.func82, Try.ntmps82
  go_wp2_with (with_reducible refine wl_stop (o := ⟨some 2, _, _, _, _, _⟩) ?_)
  refine wl_boxS st0 rfl rfl rfl (cw 4 a) rfl ?_
  intro g2 w1 st1
  clear st0
  go_wp2_with (with_reducible refine wl_stop (o := ⟨some 3, _, _, _, _, _⟩) ?_)
  refine wl_boxS st1 rfl rfl rfl (cw 4 b) rfl ?_
  intro g3 w2 st2
  clear st1
  go_wp2_with (with_reducible refine wl_stop (o := ⟨some 4, _, _, _, _, _⟩) ?_)
  refine wl_allocS st2 rfl rfl (z := .agg #[.int .u64 0, .int .u64 0, .int .u64 0, .int .u64 0]) (by kernel_rfl) (cw 4 0) (by rw [cw_zero]; rfl) ?_
  intro g4 w3 st3
  clear st2
  go_wp2_with (with_reducible refine wl_stop (o := ⟨some 6, _, _, _, _, _⟩) ?_)
  refine wl_allocS st3 rfl rfl (z := .agg #[.int .u64 0, .int .u64 0, .int .u64 0, .int .u64 0]) (by kernel_rfl) (cw 4 0) (by rw [cw_zero]; rfl) ?_
  intro g6 w4 st4
  clear st3
  go_wp2
  go_loopw [7, 8] (fun c i wr => ∃ k : Nat, k ≤ 4 ∧ i = .int .i64 (k : Int) ∧ c = .int .u64 (cSub a b k : Nat) ∧ St Nob w wr [(g2, cw 4 a, 24), (g3, cw 4 b, 24), (g4, cw 4 0, 24), (g6, cw 4 (mix (a + B64 ^ 4 - b) 0 k), 24)]) (fun _ i _ => 4 - (intOf i).toNat)
  case atStart => exact ⟨0, by omega, rfl, by rw [cSub_zero]; rfl, by rw [mix_zero]; exact st4⟩
  case round =>
    obtain ⟨k, hk, rfl, rfl, st⟩ := hrel
    clear st4
    by_cases hlt : k < 4
    · have hltI : (k : Int) < 4 := by omega
      have c1 := (st.at 0 rfl).cell (cw_get 4 a k hlt)
      have c2 := (st.at 1 rfl).cell (cw_get 4 b k hlt)
      obtain ⟨v3, c3, f3⟩ := (st.at 3 rfl).ready (i := k) (by rw [cw_len]; exact hlt)
      have e1 := fun wx => sub64_run (lw a k) (lw b k) (cSub a b k) (cSub_le a b k) wx
      go_wp2
      go_region
      all_goals
        go_wp2
        go_roundw
        case rel =>
          have h1 := st.set 3 rfl k (.int .u64 (lw (a + B64 ^ 4 - b) k : Nat))
          rw [cw_set _ _ _ _ hlt, lw_sub 4 a b k HB.out hlt] at h1
          exact ⟨k + 1, by omega, by go_num, by rw [cSub_succ], h1.drew⟩
        case measure => simp [intOf]; omega
    · have hge : ¬ ((k : Int) < 4) := by omega
      have hk4 : k = 4 := by omega
      have HK := Lib.hid hk4; clear hk4
      go_wp2_with (with_reducible refine wl_stop (o := ⟨some 26, _, _, _, _, _⟩) ?_)
      refine wl_loadS st 3 rfl rfl rfl Try.underlying24 rfl (by rw [cw_len]; kernel_rfl) ?_
      go_wp2_with (with_reducible refine wl_stop (o := ⟨none, _, _, _, _, _⟩) ?_)
      refine wl_storeS st 2 rfl rfl rfl rfl rfl (by simp only [cw_len]) (by rw [cw_len]; kernel_rfl) (cw_one _ _) ?_
      intro w5 st5
      clear st
      have hd5 := st5.at 2 rfl
      rw [HK.out, mix_top _ _ _ (by first | decide | assumption | exact HA.out), cw_mod] at hd5
      have hf5 := st5.fr
      clear st5
      go_wp2
      exact bodyPost_ret (results_arr2 rfl rfl hd5 Try.underlying24 (by rw [cw_len]; kernel_rfl) rfl) rfl ⟨by rw [HK.out]; rfl, hf5⟩

set_option maxHeartbeats 2000000 in
set_option maxRecDepth 100000 in
theorem plusR_any (a b : Nat) (w : World) :
    Calls Try.prog 104 #[i8 a, i8 b] w fun e w' => e = .returned (i8 (a + b)) ∧ Fr Nob w w' := by
  have st0 := St.start Nob w
  go_enter Try.func104, Try.ntmps104
  go_wp2_with (with_reducible refine wl_stop (o := ⟨some 2, _, _, _, _, _⟩) ?_)
  refine wl_boxS st0 rfl rfl rfl (cw 8 a) rfl ?_
  intro g2 w1 st1
  clear st0
  go_wp2_with (with_reducible refine wl_stop (o := ⟨some 3, _, _, _, _, _⟩) ?_)
  refine wl_boxS st1 rfl rfl rfl (cw 8 b) rfl ?_
  intro g3 w2 st2
  clear st1
  go_wp2_with (with_reducible refine wl_stop (o := ⟨some 4, _, _, _, _, _⟩) ?_)
  refine wl_allocS st2 rfl rfl (z := .agg #[.int .u64 0, .int .u64 0, .int .u64 0, .int .u64 0, .int .u64 0, .int .u64 0, .int .u64 0, .int .u64 0]) (by kernel_rfl) (cw 8 0) (by rw [cw_zero]; rfl) ?_
  intro g4 w3 st3
  clear st2
  go_wp2
  go_loopw [5, 6] (fun c i wr => ∃ k : Nat, k ≤ 8 ∧ i = .int .i64 (k : Int) ∧ c = .int .u64 (cAdd a b k : Nat) ∧ St Nob w wr [(g2, cw 8 (mix (a + b) a k), 141), (g3, cw 8 b, 141), (g4, cw 8 0, 141)]) (fun _ i _ => 8 - (intOf i).toNat)
  case atStart => exact ⟨0, by omega, rfl, by rw [cAdd_zero]; rfl, by rw [mix_zero]; exact st3⟩
  case round =>
    obtain ⟨k, hk, rfl, rfl, st⟩ := hrel
    clear st3
    by_cases hlt : k < 8
    · have hltI : (k : Int) < 8 := by omega
      have c1 : wr.cell? ⟨g2, k, none⟩ = some (.int .u64 (lw a k : Nat)) := by have h := (st.at 0 rfl).cell (cw_get 8 (mix (a + b) a k) k hlt); rwa [lw_mix, if_neg (Nat.lt_irrefl k)] at h
      have c2 := (st.at 1 rfl).cell (cw_get 8 b k hlt)
      have f3 := (st.at 0 rfl).free k (by rw [cw_len]; exact hlt)
      have e1 := fun wx => add64_run (lw a k) (lw b k) (cAdd a b k) (cAdd_le a b k) wx
      go_wp2
      go_region
      all_goals
        go_wp2
        go_roundw
        case rel =>
          have h1 := st.set 0 rfl k (.int .u64 (lw (a + b) k : Nat))
          rw [cw_set _ _ _ _ hlt, lw_add a b k] at h1
          exact ⟨k + 1, by omega, by go_num, by rw [cAdd_succ]; go_num, h1.drew⟩
        case measure => simp [intOf]; omega
    · have hge : ¬ ((k : Int) < 8) := by omega
      have hk4 : k = 8 := by omega
      have HK := Lib.hid hk4; clear hk4
      go_wp2_with (with_reducible refine wl_stop (o := ⟨some 24, _, _, _, _, _⟩) ?_)
      refine wl_loadS st 0 rfl rfl rfl Try.underlying141 rfl (by rw [cw_len]; kernel_rfl) ?_
      go_wp2_with (with_reducible refine wl_stop (o := ⟨none, _, _, _, _, _⟩) ?_)
      refine wl_storeS st 2 rfl rfl rfl rfl rfl (by simp only [cw_len]) (by rw [cw_len]; kernel_rfl) (cw_one _ _) ?_
      intro w5 st5
      clear st
      have hd5 := st5.at 2 rfl
      rw [HK.out, mix_full] at hd5
      have hf5 := st5.fr
      clear st5
      go_wp2
      exact bodyPost_ret (results_arr rfl rfl hd5 Try.underlying141 (by rw [cw_len]; kernel_rfl)) rfl ⟨rfl, hf5⟩

end Go.Proofs.Ytdbgddngapminaa

/- mont.line: a word times a number, added to the lowest words. -/
namespace Go.Proofs.Ytdbgddngapminaa
open Go.RowKit Go.Mv Mvp
attribute [local irreducible] limbs lw mix cw cSub cAdd cMul
set_option maxHeartbeats 4000000 in
set_option maxRecDepth 100000 in
theorem line_any (gt V x n top : Nat) (T : TypeId) (w : World) (ht : Has w gt (cw 6 V) T) (hx : x < 18446744073709551616) (htop : top < 18446744073709551616) :
    Calls Try.prog 116 #[.pointer (some ⟨gt, 0, none⟩), .int .u64 (x : Int), i4 n, .int .u64 (top : Int)] w fun e w' =>
      e = .returned (.tuple #[.int .u64 (((top + cMul V x n 4) % 18446744073709551616 : Nat) : Int), .int .u64 (((top + cMul V x n 4) / 18446744073709551616 : Nat) : Int)]) ∧
      Has w' gt (cw 6 (mix (V + x * n) V 4)) T ∧ Fr (One gt) w w' := by
  have st0 := St.one ht
  clear ht
  have HX := Lib.hid hx
  go_enter Try.func116, Try.ntmps116
  go_wp2_with (with_reducible refine wl_stop (o := ⟨some 6, _, _, _, _, _⟩) ?_)
  refine wl_boxS st0 rfl rfl rfl (cw 4 n) rfl ?_
  intro gn w1 st1
  clear st0
  go_wp2_with (with_reducible refine wl_stop (o := ⟨some 16, _, _, _, _, _⟩) ?_)
  refine wl_loadS st1 1 rfl rfl rfl Try.underlying82 rfl (by rw [cw_len]; kernel_rfl) ?_
  go_wp2
  go_loopw [10, 17] (fun c i wr => ∃ k : Nat, k ≤ 4 ∧ i = .int .i64 (k : Int) ∧ c = .int .u64 (cMul V x n k : Nat) ∧ St (One gt) w wr [(gt, cw 6 (mix (V + x * n) V k), T)]) (fun _ i _ => 4 - (intOf i).toNat)
  case atStart => exact ⟨0, by omega, rfl, by rw [cMul_zero]; rfl, by rw [mix_zero]; exact st1.less (by simp)⟩
  case round =>
    obtain ⟨k, hk, rfl, rfl, st⟩ := hrel
    clear st1
    have hcm := cMul_lt V x n k HX.out
    by_cases hlt : k < 4
    · have hltI : (k : Int) < 4 := by omega
      have e0 := fun wx => run_index_cw (P := Try.prog) Try.underlying82 Try.underlying22 size_u64 n k hlt .i64 wx
      have hp := word_mul_le HX.out (lw_lt n k)
      have hms := cMul_succ V x n k
      have hlm := lw_madd V x n k
      have hms2 := cMul_lt V x n (k + 1) HX.out
      obtain ⟨hi, lo, lo2, c1, t2, c2, r1, r2, r3, r4, r5, r6, r7, r8, r9⟩ := line_names (x * lw n k) (lw V k) (cMul V x n k) hp hcm
      rw [← r8] at hlm
      rw [← r9] at hms
      rw [hms] at hms2
      have hmul := fun wx => mul64_any x (lw n k) HX.out (lw_lt n k) wx
      rw [r1, r2] at hmul
      have e2 := fun wx => add64_run0 lo (cMul V x n k) lo2 c1 r3 r4 wx
      have e3 := fun wx => add64_run0 (lw V k) lo2 t2 c2 r6 r7 wx
      obtain ⟨v3, c3, f3⟩ := (st.at 0 rfl).ready (i := k) (by rw [cw_len]; omega)
      have c1' : wr.cell? ⟨gt, k, none⟩ = some (.int .u64 (lw V k : Nat)) := by have h := (st.at 0 rfl).cell (cw_get 6 (mix (V + x * n) V k) k (by omega)); rwa [lw_mix, if_neg (Nat.lt_irrefl k)] at h
      clear c3 hp r1 r2 r3 r4 r6 r7 r8 r9
      have HMUL := Lib.hid hmul; clear hmul
      have HMS := Lib.hid hms; clear hms
      have HLM := Lib.hid hlm; clear hlm
      go_wp2_with fail
      refine (HMUL.out _).mono ?_
      rintro e' w' ⟨rfl, rfl⟩
      go_wp2_with fail
      go_region
      all_goals
        go_wp2
        go_roundw
        case rel =>
          have h1 := st.set 0 rfl k (.int .u64 (lw (V + x * n) k : Nat))
          rw [cw_set _ _ _ _ (by omega), HLM.out] at h1
          exact ⟨k + 1, by omega, by go_num, by rw [HMS.out]; go_num, h1.drew⟩
        case measure => simp [intOf]; omega
    · have hge : ¬ ((k : Int) < 4) := by omega
      have hk4 : k = 4 := by omega
      have HK := Lib.hid hk4; clear hk4
      have e2 := fun wx => add64_run0 top (cMul V x n k) _ _ rfl rfl wx
      go_wp2
      go_ret2
      rw [← HK.out]
      exact ⟨rfl, st.at 0 rfl, st.fr⟩
end Go.Proofs.Ytdbgddngapminaa

/- mintvaultref2.product: the product of two numbers of four words. -/
namespace Go.Proofs.Ytdbgddngapminaa
open Go.RowKit Go.Mv Mvp
attribute [local irreducible] limbs lw mix cw cSub cAdd cMul
set_option maxHeartbeats 4000000 in
set_option maxRecDepth 100000 in
theorem productR_any (a b : Nat) (w : World) (ha : a < B64 ^ 4) (hb : b < B64 ^ 4) :
    Calls Try.prog 103 #[i4 a, i4 b] w fun e w' => e = .returned (i8 (a * b)) ∧ Fr Nob w w' := by
  have HA := Lib.hid ha; clear ha
  have HB := Lib.hid hb; clear hb
  have st0 := St.start Nob w
  go_enter Try.func103, Try.ntmps103
  go_wp2_with (with_reducible refine wl_stop (o := ⟨some 2, _, _, _, _, _⟩) ?_)
  refine wl_boxS st0 rfl rfl rfl (cw 4 a) rfl ?_
  intro g2 w1 st1
  clear st0
  go_wp2_with (with_reducible refine wl_stop (o := ⟨some 3, _, _, _, _, _⟩) ?_)
  refine wl_boxS st1 rfl rfl rfl (cw 4 b) rfl ?_
  intro g3 w2 st2
  clear st1
  go_wp2_with (with_reducible refine wl_stop (o := ⟨some 4, _, _, _, _, _⟩) ?_)
  refine wl_allocS st2 rfl rfl (z := .agg #[.int .u64 0, .int .u64 0, .int .u64 0, .int .u64 0, .int .u64 0, .int .u64 0, .int .u64 0, .int .u64 0]) (by kernel_rfl) (cw 8 0) (by rw [cw_zero]; rfl) ?_
  intro g4 w3 st3
  clear st2
  go_wp2_with (with_reducible refine wl_stop (o := ⟨some 5, _, _, _, _, _⟩) ?_)
  refine wl_allocS st3 rfl rfl (z := .agg #[.int .u64 0, .int .u64 0, .int .u64 0, .int .u64 0, .int .u64 0, .int .u64 0, .int .u64 0, .int .u64 0]) (by kernel_rfl) (cw 8 0) (by rw [cw_zero]; rfl) ?_
  intro g5 w4 st4
  clear st3
  go_wp2
  go_loopw [6] (fun i wr => ∃ I : Nat, I ≤ 4 ∧ i = .int .i64 (I : Int) ∧ St Nob w wr [(g2, cw 4 a, 24), (g3, cw 4 b, 24), (g4, cw 8 0, 141), (g5, cw 8 (a % B64 ^ I * b), 141)]) (fun i _ => 4 - (intOf i).toNat)
  case atStart => exact ⟨0, by omega, rfl, by rw [row_zero]; exact st4⟩
  case round =>
    obtain ⟨I, hI, rfl, st⟩ := hrel
    clear st4
    by_cases hlt : I < 4
    · have hltI : (I : Int) < 4 := by omega
      obtain ⟨wo, rfl⟩ : ∃ wo : World, wo = wr := ⟨_, rfl⟩
      have htop := row_top a b I HB.out
      have hall := row_all a b I HB.out
      have hnew := row_new a b I
      have hst := row_start a b I
      have hword := row_word a b I
      generalize hP : a % B64 ^ I * b = V at *
      have HP := Lib.hid hP; clear hP
      have HTOP := Lib.hid htop; clear htop
      have HALL := Lib.hid hall; clear hall
      have HST := Lib.hid hst; clear hst
      have HNEW := Lib.hid hnew; clear hnew
      have HWORD := Lib.hid hword; clear hword
      go_wp2
      go_loopw [7, 8] (fun c i wr => ∃ k : Nat, k ≤ 4 ∧ i = .int .i64 (k : Int) ∧ c = .int .u64 (cMul (V / B64 ^ I) (lw a I) b k : Nat) ∧ St Nob w wr [(g2, cw 4 a, 24), (g3, cw 4 b, 24), (g4, cw 8 0, 141), (g5, cw 8 (mix (a % B64 ^ (I + 1) * b) V (I + k)), 141)]) (fun _ i _ => 4 - (intOf i).toNat)
      case atStart =>
        exact ⟨0, by omega, rfl, by rw [cMul_zero]; rfl, by rw [HST.out]; exact st⟩
      case round =>
        obtain ⟨k, hk, rfl, rfl, stk⟩ := hrel
        clear st
        have hx := lw_lt a I
        have hcm := cMul_lt (V / B64 ^ I) (lw a I) b k hx
        by_cases hltk : k < 4
        · have hltK : (k : Int) < 4 := by omega
          have hp := word_mul_le hx (lw_lt b k)
          have hms := cMul_succ (V / B64 ^ I) (lw a I) b k
          have hlm := lw_madd (V / B64 ^ I) (lw a I) b k
          have hms2 := cMul_lt (V / B64 ^ I) (lw a I) b (k + 1) hx
          obtain ⟨hi, lo, lo2, c1, t2, c2, r1, r2, r3, r4, r5, r6, r7, r8, r9⟩ := line_names (lw a I * lw b k) (lw (V / B64 ^ I) k) (cMul (V / B64 ^ I) (lw a I) b k) hp hcm
          rw [← r8, ← HNEW.out] at hlm
          rw [← r9] at hms
          rw [hms] at hms2
          have hmul := fun wx => mul64_any (lw a I) (lw b k) hx (lw_lt b k) wx
          rw [r1, r2] at hmul
          have e2 := fun wx => add64_run0 lo (cMul (V / B64 ^ I) (lw a I) b k) lo2 c1 r3 r4 wx
          have e3 := fun wx => add64_run0 (lw (V / B64 ^ I) k) lo2 t2 c2 r6 r7 wx
          have ca := (stk.at 0 rfl).cell (cw_get 4 a I hlt)
          have cb := (stk.at 1 rfl).cell (cw_get 4 b k hltk)
          obtain ⟨v3, c3, f3⟩ := (stk.at 3 rfl).ready (i := I + k) (by rw [cw_len]; omega)
          have c1' : wr.cell? ⟨g5, I + k, none⟩ = some (.int .u64 (lw (V / B64 ^ I) k : Nat)) := by
            have h := (stk.at 3 rfl).cell (cw_get 8 (mix (a % B64 ^ (I + 1) * b) V (I + k)) (I + k) (by omega)); rwa [lw_mix, if_neg (Nat.lt_irrefl _), HWORD.out] at h
          clear c3 hp r1 r2 r3 r4 r6 r7 r8 r9
          have HMUL := Lib.hid hmul; clear hmul
          have HMS := Lib.hid hms; clear hms
          have HLM := Lib.hid hlm; clear hlm
          go_wp2_with fail
          go_quiet ((go_at_call 119; refine Calls.quiet_of_same ((HMUL.out _).mono fun _ _ h => ⟨h.1, h.2.symm⟩)))
          go_wp2_with fail
          go_roundw
          case rel =>
            have h1 := (stk.drewN nq).set 3 rfl (I + k) (.int .u64 (lw (a % B64 ^ (I + 1) * b) (I + k) : Nat))
            rw [cw_set _ _ _ _ (by omega), HLM.out] at h1
            exact ⟨k + 1, by omega, by go_num, by rw [HMS.out]; go_num, h1⟩
          case measure => simp [intOf]; omega
        · have hge : ¬ ((k : Int) < 4) := by omega
          have hk4 : k = 4 := by omega
          have HK := Lib.hid hk4; clear hk4
          obtain ⟨v3, c3, f3⟩ := (stk.at 3 rfl).ready (i := I + 4) (by rw [cw_len]; omega)
          go_wp2
          go_roundw
          case rel =>
            have h1 := stk.set 3 rfl (I + 4) (.int .u64 (cMul (V / B64 ^ I) (lw a I) b k : Nat))
            have h2 : (cw 8 (mix (a % B64 ^ (I + 1) * b) V (I + k))).set (I + 4) (.int .u64 (cMul (V / B64 ^ I) (lw a I) b k : Nat)) = cw 8 (a % B64 ^ (I + 1) * b) := by
              rw [HK.out, ← HTOP.out, cw_set _ _ _ _ (by omega), HALL.out]
            rw [h2] at h1
            exact ⟨I + 1, by omega, by go_num, h1⟩
          case measure => simp [intOf]; omega
    · have hge : ¬ ((I : Int) < 4) := by omega
      have hk4 : I = 4 := by omega
      have HK := Lib.hid hk4; clear hk4
      go_wp2_with (with_reducible refine wl_stop (o := ⟨some 60, _, _, _, _, _⟩) ?_)
      refine wl_loadS st 3 rfl rfl rfl Try.underlying141 rfl (by rw [cw_len]; kernel_rfl) ?_
      go_wp2_with (with_reducible refine wl_stop (o := ⟨none, _, _, _, _, _⟩) ?_)
      refine wl_storeS st 2 rfl rfl rfl rfl rfl (by simp only [cw_len]) (by rw [cw_len]; kernel_rfl) (cw_one _ _) ?_
      intro w5 st5
      clear st
      have hd5 := st5.at 2 rfl
      rw [HK.out, Nat.mod_eq_of_lt HA.out] at hd5
      have hf5 := st5.fr
      clear st5
      go_wp2
      exact bodyPost_ret (results_arr rfl rfl hd5 Try.underlying141 (by rw [cw_len]; kernel_rfl)) rfl ⟨rfl, hf5⟩
end Go.Proofs.Ytdbgddngapminaa

/- A region that draws its order, under a condition S on the world that holds till the last operations begin: the head (reads, calls) in an order of the prover's choice, behind it the tail (a store, as a rule) in the text's order. -/
namespace Go.Mv
open Go.RowKit
section
variable {P : Program} {ops : Array Oper} {md : Region.Mode} {Q : Exit → Act → World → Prop} {S : World → Prop}

def wpAnyT (P : Program) (md : Region.Mode) (ops : Array Oper) (Q : Exit → Act → World → Prop) (S : World → Prop) (n g : Nat) (tl : List Oper) : Nat → Array Bool → Act → World → Prop
  | 0, listed, a, w => Region.seqB md ops g n listed = true ∧ wpList P ops Q tl a w
  | f + 1, listed, a, w =>
    Region.ready md ops listed ≠ [] ∧ ∀ i ∈ Region.ready md ops listed, i < n ∧ wpOp P ops Q i (fun a' w' => S w' ∧ wpAnyT P md ops Q S n g tl f (listed.setIfInBounds i true) a' w') a w

theorem wpAny_of_T {n : Nat} {tl : List Oper} (hl : ∀ j, tl[j]? = ops[n + j]?) : ∀ (f : Nat) (listed : Array Bool) (a : Act) (w : World), wpAnyT P md ops Q S n tl.length tl f listed a w → wpAny P md ops Q (f + tl.length) listed a w
  | 0, listed, a, w, h => by rw [Nat.zero_add]; exact wpAny_of_seq tl n listed a w hl h.1 h.2
  | f + 1, listed, a, w, h => by
    rw [show f + 1 + tl.length = (f + tl.length) + 1 by omega]
    exact ⟨fun h0 => absurd h0 h.1, fun i hi => wpOp_mono (fun a' w' h' => wpAny_of_T hl f _ a' w' h'.2) (h.2 i hi).2⟩

theorem wpAnyT_first {n g i : Nat} {oi : Oper} {v : Value} {tl : List Oper} (hi : ops[i]? = some oi) (hsel : ∀ (j : Nat) (o : Oper) cs b, ops[j]? = some o → o.op ≠ .select cs b)
    (hQ : ∀ c a w, Q (.panic c) (a.put oi.dst v) w → Q (.panic c) a w)
    (hs : Region.sinkB md ops n = true) (hc : Region.chainB md ops n = true) (hn : n < ops.size) (hin : i < n) :
    ∀ (f : Nat) (listed : Array Bool) (a : Act) (w : World), HeadInv md ops n listed →
      (∀ j oj, ops[j]? = some oj → j ≠ i → listed.getD j true = false → (∀ e ∈ oj.after, Region.binds md e = true → e.on ≠ i) → oi.apart ops oj = true) →
      i ∈ Region.ready md ops listed → YieldsIf P ops S oi v a → S w →
      wpAnyT P md ops Q S n g tl f (listed.setIfInBounds i true) (a.put oi.dst v) w → wpAnyT P md ops Q S n g tl (f + 1) listed a w := by
  intro f
  induction f with
  | zero =>
    intro listed a w inv _ hr hy hS H
    have hun := (mem_ready.1 hr).1
    refine ⟨fun h => (by rw [h] at hr; cases hr), fun j hj => ?_⟩
    have hjn : j < n := by
      rcases Nat.lt_or_ge j n with h | h
      · exact h
      · exact absurd hj (tail_waits hs hc hn inv _ i rfl hin hun j h)
    refine ⟨hjn, ?_⟩
    by_cases hji : j = i
    · subst hji; exact hy.wpOp hi hS ⟨hS, H⟩
    · have := seqB_ready H.1 j (ready_mono hj hji)
      omega
  | succ f ih =>
    intro listed a w inv hfree hr hy hS H
    have hun := (mem_ready.1 hr).1
    refine ⟨fun h => (by rw [h] at hr; cases hr), fun j hj => ?_⟩
    have hjn : j < n := by
      rcases Nat.lt_or_ge j n with h | h
      · exact h
      · exact absurd hj (tail_waits hs hc hn inv _ i rfl hin hun j h)
    refine ⟨hjn, ?_⟩
    by_cases hji : j = i
    · subst hji; exact hy.wpOp hi hS ⟨hS, H⟩
    · have h1 := (H.2 j (ready_mono hj hji)).2
      obtain ⟨hjun, oj, hoj, hall⟩ := mem_ready.1 hj
      have hnot : ∀ e ∈ oj.after, Region.binds md e = true → e.on ≠ i := fun e he hb heq => by
        have h1 := hall e he hb
        rw [heq, getD_both hun] at h1
        cases h1
      have h2 := wpOp_putIf hoj (hfree j oj hoj hji hjun hnot) (fun cs b => hsel i oi cs b hi) (fun cs b => hsel j oj cs b hoj) hQ hy h1
      have hfree' : ∀ k ok, ops[k]? = some ok → k ≠ i → (listed.setIfInBounds j true).getD k true = false →
          (∀ e ∈ ok.after, Region.binds md e = true → e.on ≠ i) → oi.apart ops ok = true := fun k ok hk hki hun hno => by
        refine hfree k ok hk hki ?_ hno
        by_cases hjk : j = k
        · subst hjk; exact hjun
        · rw [getD_set_ne true hjk] at hun; exact hun
      refine wpOp_mono (fun a' w' h3 => ⟨h3.2.1, ih (listed.setIfInBounds j true) a' w' (inv.set hj hjn) hfree' (ready_mono hr (Ne.symm hji)) h3.1 h3.2.1 ?_⟩) h2
      rw [Array.setIfInBounds_comm _ _ hji]
      exact h3.2.2

/-- the head, in the order s (true: it only yields a value; false: it is carried out), then the tail -/
def wpSeq (P : Program) (ops : Array Oper) (Q : Exit → Act → World → Prop) (S : World → Prop) (tl : List Oper) : List (Nat × Bool) → Act → World → Prop
  | [], a, w => wpList P ops Q tl a w
  | (i, true) :: r, a, w => ∃ o v, ops[i]? = some o ∧ YieldsIf P ops S o v a ∧ wpSeq P ops Q S tl r (a.put o.dst v) w
  | (i, false) :: r, a, w => ∃ o, ops[i]? = some o ∧ o.guard = none ∧ o.wp P a w (fun a' w' => S w' ∧ wpSeq P ops Q S tl r a' w') Q

/-- is the order s one that serves? -/
def seqOk (md : Region.Mode) (ops : Array Oper) (n g : Nat) : List (Nat × Bool) → Array Bool → Bool
  | [], listed => Region.seqB md ops g n listed
  | (i, true) :: r, listed => decide (i < n) && (Region.ready md ops listed).contains i && Region.free md ops listed i && seqOk md ops n g r (listed.setIfInBounds i true)
  | (i, false) :: r, listed => decide (i < n) && decide (Region.ready md ops listed = [i]) && seqOk md ops n g r (listed.setIfInBounds i true)

theorem wpAnyT_of_seq {n g : Nat} {tl : List Oper} (hsel : Region.noSelect ops = true) (hs : Region.sinkB md ops n = true) (hc : Region.chainB md ops n = true) (hn : n < ops.size)
    (hQ : ∀ c (d : Option Tmp) v a w, Q (.panic c) (Act.put a d v) w → Q (.panic c) a w) :
    ∀ (s : List (Nat × Bool)) (listed : Array Bool) (a : Act) (w : World), HeadInv md ops n listed → seqOk md ops n g s listed = true → S w → wpSeq P ops Q S tl s a w → wpAnyT P md ops Q S n g tl s.length listed a w
  | [], listed, a, w, _, hB, _, h => ⟨hB, h⟩
  | (i, true) :: r, listed, a, w, inv, hB, hS, h => by
    obtain ⟨o, v, ho, hy, hK⟩ := h
    simp only [seqOk, Bool.and_eq_true, decide_eq_true_eq] at hB
    obtain ⟨⟨⟨hin, hr⟩, hf⟩, hB'⟩ := hB
    have hr' : i ∈ Region.ready md ops listed := by simpa using hr
    exact wpAnyT_first ho (Region.noSelect_spec hsel) (fun c a w => hQ c o.dst v a w) hs hc hn hin r.length listed a w inv (Region.free_spec ho hf) hr' hy hS
      (wpAnyT_of_seq hsel hs hc hn hQ r _ _ w (inv.set hr' hin) hB' hS hK)
  | (i, false) :: r, listed, a, w, inv, hB, hS, h => by
    obtain ⟨o, ho, hg, hK⟩ := h
    simp only [seqOk, Bool.and_eq_true, decide_eq_true_eq] at hB
    obtain ⟨⟨hin, hr⟩, hB'⟩ := hB
    have hr' : i ∈ Region.ready md ops listed := by rw [hr]; simp
    refine ⟨by rw [hr]; simp, fun j hj => ?_⟩
    rw [hr] at hj
    have hj' : j = i := by simpa using hj
    subst hj'
    refine ⟨hin, ?_⟩
    unfold wpOp
    simp only [ho]
    rw [if_pos (by simp [Region.wanted, hg])]
    exact .inl (Oper.wp_mono (fun a' w' h' => ⟨h'.1, wpAnyT_of_seq hsel hs hc hn hQ r _ a' w' (inv.set hr' hin) hB' h'.1 h'.2⟩) hK)

def tailOk (ops : Array Oper) (n : Nat) (s : List (Nat × Bool)) : Bool :=
  Region.noSelect ops && decide (n < ops.size) && decide (s.length = n) && Region.sinkB .any ops n && Region.chainB .any ops n && seqOk .any ops n (ops.size - n) s (Array.replicate ops.size false)

/-- THE BEGINNING -/
theorem wp_region_seq {id : Nat} {a : Act} {w : World} {l : List Oper} (S : World → Prop) (n : Nat) (s : List (Nat × Bool)) (hm : P.follows .mixedOrders = true) (hB : tailOk l.toArray n s = true)
    (hS : S w.drew) (hQ : ∀ c (d : Option Tmp) v a w, Q (.panic c) (Act.put a d v) w → Q (.panic c) a w)
    (h : wpSeq P l.toArray Q S (l.drop n) s a w.drew) : (Code.region id l.toArray true).wp P Q a w := by
  simp only [tailOk, Bool.and_eq_true, decide_eq_true_eq] at hB
  obtain ⟨⟨⟨⟨⟨hsel, hn⟩, hlen⟩, hs⟩, hc⟩, hseq⟩ := hB
  have inv0 : HeadInv .any l.toArray n (Array.replicate l.toArray.size false) :=
    ⟨by simp, fun j oj _ hl => (by rw [getD_replicate_false] at hl; cases hl), fun t _ ht => getD_in (by simpa using ht) (getD_replicate_false _ _)⟩
  have hdl : (l.drop n).length = l.toArray.size - n := by simp
  rw [← hdl] at hseq
  have H := wpAnyT_of_seq (md := .any) (g := (l.drop n).length) (tl := l.drop n) hsel hs hc hn hQ s _ a w.drew inv0 hseq hS h
  refine wp_region_any hm ?_
  have := wpAny_of_T (md := .any) (n := n) (tl := l.drop n) (fun j => by simp [List.getElem?_drop]) _ _ _ _ H
  rw [hlen, hdl, show n + (l.toArray.size - n) = l.toArray.size by omega] at this
  exact this

/- the steps -/
variable {l tl : List Oper} {i : Nat} {r : List (Nat × Bool)} {a : Act} {w : World} {o : Oper}
theorem seq_end (h : wpList P ops Q tl a w) : wpSeq P ops Q S tl [] a w := h
theorem seq_pure (ho : l[i]? = some o) (hg : o.guard = none) {v : Value} (hv : ∀ wx, S wx → (execOp a.eval o).run P wx = .ok (.value v) wx) (h : wpSeq P l.toArray Q S tl r (a.put o.dst v) w) : wpSeq P l.toArray Q S tl ((i, true) :: r) a w :=
  ⟨o, v, by simpa using ho, .inl ⟨by simp [Region.wanted, hg], hv⟩, h⟩
theorem seq_run (ho : l[i]? = some o) (hg : o.guard = none) (h : o.wp P a w (fun a' w' => S w' ∧ wpSeq P l.toArray Q S tl r a' w') Q) : wpSeq P l.toArray Q S tl ((i, false) :: r) a w :=
  ⟨o, by simpa using ho, hg, h⟩
/-- a whole array is read -/
theorem seq_arr (ho : l[i]? = some o) (hg : o.guard = none) {ty : TypeId} {x : Operand} (hop : o.op = .load ty x) {g p : Nat} (hx : a.eval x = .pointer (some ⟨g, p, none⟩)) (cs : List Value) (hS : ∀ wx, S wx → wx.rangeAt g p cs)
    {d : TypeDesc} (hu : P.underlying ty = some d) (hd : d.isRow = true) (hi : (P.info? ty).map (·.size) = some cs.length) (h : wpSeq P l.toArray Q S tl r (a.put o.dst (.agg cs.toArray)) w) : wpSeq P l.toArray Q S tl ((i, true) :: r) a w :=
  ⟨o, _, by simpa using ho, yieldsIf_load_mid (by simp [Region.wanted, hg]) ty x hop g p hx cs d hS hu hd hi, h⟩
end

theorem St.rangeL {S : Nat → Prop} {w0 w : World} {bl : List (Nat × List Value × TypeId)} (h : St S w0 w bl) (i : Nat) {g : Nat} {L : List Value} {T : TypeId} (hb : bl[i]? = some (g, L, T)) (o : Nat) (cs : List Value) (hcs : (L.drop o).take cs.length = cs) : w.rangeAt g o cs := (h.at i hb).range o cs hcs
end Go.Mv

/- (mintvaultref2.F).Less: a number of eight words modulo the prime. -/
namespace Go.Proofs.Ytdbgddngapminaa
open Go.RowKit Go.Mv Mvp
attribute [local irreducible] limbs lw mix cw cSub cAdd cMul foldC valFrom
/-- the prime and what it is less than 2^256, by value -/
def fv (p : Nat) : Value := .agg (cw 4 p ++ cw 4 (B64 ^ 4 - p)).toArray
theorem size_n : (Try.prog.info? 24).map (·.size) = some 4 := by kernel_rfl
theorem size_wide : (Try.prog.info? 141).map (·.size) = some 8 := by kernel_rfl

set_option maxHeartbeats 4000000 in
set_option maxRecDepth 100000 in
theorem Less_any (p V0 : Nat) (w : World) (hp0 : 0 < p) (hp : p < B64 ^ 4) (hV0 : V0 < B64 ^ 8) :
    Calls Try.prog 102 #[fv p, i8 V0] w fun e w' => e = .returned (i4 (V0 % p)) ∧ Fr Nob w w' := by
  have HP := Lib.hid hp; clear hp
  have HP0 := Lib.hid hp0; clear hp0
  have HV0 := Lib.hid hV0; clear hV0
  have st0 := St.start Nob w
  go_enter Try.func102, Try.ntmps102
  go_wp2_with (with_reducible refine wl_stop (o := ⟨some 2, _, _, _, _, _⟩) ?_)
  refine wl_boxS st0 rfl rfl rfl (cw 4 p ++ cw 4 (B64 ^ 4 - p)) rfl ?_
  intro g2 w1 st1
  clear st0
  go_wp2_with (with_reducible refine wl_stop (o := ⟨some 3, _, _, _, _, _⟩) ?_)
  refine wl_boxS st1 rfl rfl rfl (cw 8 V0) rfl ?_
  intro g3 w2 st2
  clear st1
  go_wp2_with (with_reducible refine wl_stop (o := ⟨some 4, _, _, _, _, _⟩) ?_)
  refine wl_allocS st2 rfl rfl (z := .agg #[.int .u64 0, .int .u64 0, .int .u64 0, .int .u64 0]) (by kernel_rfl) (cw 4 0) (by rw [cw_zero]; rfl) ?_
  intro g4 w3 st3
  clear st2
  go_wp2
  go_frame
  go_loopw [8] (fun _ wr => ∃ V : Nat, V < B64 ^ 8 ∧ V % p = V0 % p ∧ St Nob w wr [(g2, cw 4 p ++ cw 4 (B64 ^ 4 - p), 31), (g3, cw 8 V, 141), (g4, cw 4 0, 24)]) (fun _ wr => valFrom wr g3 0 8)
  case atStart => exact ⟨V0, HV0.out, rfl, st3⟩
  case round =>
    obtain ⟨V, hV, hVm, st⟩ := hrel
    clear st3
    have HV := Lib.hid hV; clear hV
    have HVM := Lib.hid hVm; clear hVm
    have c0 := (st.at 1 rfl).cell (cw_get 8 V 0 (by decide))
    have c1 := (st.at 1 rfl).cell (cw_get 8 V 1 (by decide))
    have c2 := (st.at 1 rfl).cell (cw_get 8 V 2 (by decide))
    have c3 := (st.at 1 rfl).cell (cw_get 8 V 3 (by decide))
    have c4 := (st.at 1 rfl).cell (cw_get 8 V 4 (by decide))
    have c5 := (st.at 1 rfl).cell (cw_get 8 V 5 (by decide))
    have c6 := (st.at 1 rfl).cell (cw_get 8 V 6 (by decide))
    have c7 := (st.at 1 rfl).cell (cw_get 8 V 7 (by decide))
    have l4 := lw_lt V 4
    have l5 := lw_lt V 5
    have l6 := lw_lt V 6
    have l7 := lw_lt V 7
    have o1 := bits_or_u64_nat _ _ l4 l5
    have o2 := bits_or_u64_nat _ _ (Nat.or_lt_two_pow (n := 64) l4 l5) l6
    have o3 := bits_or_u64_nat _ _ (Nat.or_lt_two_pow (n := 64) (Nat.or_lt_two_pow (n := 64) l4 l5) l6) l7
    have htz := top_zero V HV.out
    generalize hor : (lw V 4 ||| lw V 5 ||| lw V 6 ||| lw V 7) = o at *
    have HOR := Lib.hid hor; clear hor
    clear l4 l5 l6 l7
    by_cases hz : o = 0
    · have hb : ((o : Int) != 0) = false := by subst hz; rfl
      have hD := htz.1 hz
      clear htz hz
      have HD := Lib.hid hD; clear hD
      have hV4 : V < B64 ^ 4 := by
        have h1 := Nat.div_add_mod V (B64 ^ 4)
        rw [HD.out, Nat.mul_zero, Nat.zero_add] at h1
        rw [← h1]; exact Nat.mod_lt _ (b64_pos 4)
      have HV4 := Lib.hid hV4; clear hV4
      go_wp2_with fail
      clear c0 c1 c2 c3 c4 c5 c6 c7 o1 o2 o3 hb
      have st5 := st.new ((Fr.refl Nob wr).alloc (Obj.cells #[Value.int IntKind.u64 ↑(lw V 0), Value.int IntKind.u64 ↑(lw V 1), Value.int IntKind.u64 ↑(lw V 2), Value.int IntKind.u64 ↑(lw V 3)] 24)) (has_new4 wr V 24) (Nat.le_refl _)
      clear st
      generalize wr.alloc (Obj.cells #[Value.int IntKind.u64 ↑(lw V 0), Value.int IntKind.u64 ↑(lw V 1), Value.int IntKind.u64 ↑(lw V 2), Value.int IntKind.u64 ↑(lw V 3)] 24) = w5 at *
      generalize wr.heap.size = g5 at *
      go_loopw [52] (fun _ wx => ∃ U : Nat, U < B64 ^ 4 ∧ U % p = V0 % p ∧ St Nob w wx [(g2, cw 4 p ++ cw 4 (B64 ^ 4 - p), 31), (g4, cw 4 0, 24), (g5, cw 4 U, 24)]) (fun _ wx => valFrom wx g5 0 4)
      case atStart => exact ⟨V, HV4.out, HVM.out, st5.less (by simp)⟩
      case round =>
        obtain ⟨U, hU, hUm, st⟩ := hrel
        clear st5
        have HU := Lib.hid hU; clear hU
        have HUM := Lib.hid hUm; clear hUm
        have hvu := valFrom_all (st.at 2 rfl) HU.out
        have HVU := Lib.hid hvu; clear hvu
        go_wp2_with (with_reducible refine wl_stop (o := ⟨some 52, _, _, _, _, _⟩) ?_)
        refine wl_loadS st 2 rfl rfl rfl Try.underlying24 rfl (by rw [cw_len]; exact size_n) ?_
        go_wp2_with (with_reducible refine wl_stop (o := ⟨some 54, _, _, _, _, _⟩) ?_)
        refine wl_loadA rfl rfl Try.underlying24 rfl (st.at 0 rfl) (cw 4 p) (cw_left 4 4 _ _) (by rw [cw_len]; exact size_n) ?_
        go_wp2_with fail
        have hcs := cSub_all U p 4 HU.out HP.out
        refine (less_any U p _ HP.out).mono ?_
        rintro e' w6 ⟨rfl, hf6⟩
        have st6 := st.keep hf6
        clear st hf6
        by_cases hlt : U < p
        · rw [if_pos hlt] at hcs
          rw [hcs]
          have hm : U = V0 % p := by rw [← HUM.out, Nat.mod_eq_of_lt hlt]
          have HM := Lib.hid hm
          clear hm hcs hlt
          go_wp2_with (with_reducible refine wl_stop (o := ⟨some 6, _, _, _, _, _⟩) ?_)
          refine wl_allocS st6 rfl rfl (z := .agg #[.int .u64 0, .int .u64 0, .int .u64 0, .int .u64 0]) (by kernel_rfl) (cw 4 0) (by rw [cw_zero]; rfl) ?_
          intro g6 w7 st7
          clear st6
          go_wp2_with (with_reducible refine wl_stop (o := ⟨none, _, _, _, _, _⟩) ?_)
          refine wl_storeS st7 3 rfl rfl rfl rfl rfl (by rw [cw_len, cw_len]) (by rw [cw_len]; exact size_n) (cw_one _ _) ?_
          intro w8 st8
          clear st7
          go_wp2_with (with_reducible refine wl_stop (o := ⟨some 60, _, _, _, _, _⟩) ?_)
          refine wl_loadS st8 2 rfl rfl rfl Try.underlying24 rfl (by rw [cw_len]; exact size_n) ?_
          go_wp2_with (with_reducible refine wl_stop (o := ⟨none, _, _, _, _, _⟩) ?_)
          refine wl_storeS st8 1 rfl rfl rfl rfl rfl (by rw [cw_len, cw_len]) (by rw [cw_len]; exact size_n) (cw_one _ _) ?_
          intro w9 st9
          clear st8
          have hd9 := st9.at 1 rfl
          rw [HM.out] at hd9
          have hf9 := st9.fr
          clear st9
          go_wp2
          exact bodyPost_ret (results_arr rfl rfl hd9 Try.underlying24 (by rw [cw_len]; exact size_n)) rfl ⟨rfl, hf9⟩
        · rw [if_neg hlt] at hcs
          rw [hcs]
          have e1 : cw 4 (U + B64 ^ 4 - p) = cw 4 (U - p) := by
            rw [← cw_mod, show U + B64 ^ 4 - p = (U - p) + B64 ^ 4 by omega, Nat.add_mod_right, cw_mod]
          have hm : (U - p) % p = V0 % p := by rw [← HUM.out, ← Nat.mod_eq_sub_mod (by omega)]
          have HM := Lib.hid hm
          have HE := Lib.hid e1
          have hltU : U - p < U := by have := HP0.out; omega
          have hbU : U - p < B64 ^ 4 := by have := HU.out; omega
          have HLTU := Lib.hid hltU
          have HBU := Lib.hid hbU
          clear hm hcs hlt e1 hltU hbU
          go_wp2_with (with_reducible refine wl_stop (o := ⟨some 6, _, _, _, _, _⟩) ?_)
          refine wl_allocS st6 rfl rfl (z := .agg #[.int .u64 0, .int .u64 0, .int .u64 0, .int .u64 0]) (by kernel_rfl) (cw 4 0) (by rw [cw_zero]; rfl) ?_
          intro g6 w7 st7
          clear st6
          go_wp2_with (with_reducible refine wl_stop (o := ⟨none, _, _, _, _, _⟩) ?_)
          refine wl_storeS st7 3 rfl rfl rfl rfl rfl (by rw [cw_len, cw_len]) (by rw [cw_len]; exact size_n) (cw_one _ _) ?_
          intro w8 st8
          clear st7
          rw [HE.out] at st8
          go_wp2_with (with_reducible refine wl_stop (o := ⟨some 61, _, _, _, _, _⟩) ?_)
          refine wl_loadS st8 3 rfl rfl rfl Try.underlying24 rfl (by rw [cw_len]; exact size_n) ?_
          go_wp2_with (with_reducible refine wl_stop (o := ⟨none, _, _, _, _, _⟩) ?_)
          refine wl_storeS st8 2 rfl rfl rfl rfl rfl (by rw [cw_len, cw_len]) (by rw [cw_len]; exact size_n) (cw_one _ _) ?_
          intro w9 st9
          clear st8
          have hv9 := valFrom_all (st9.at 2 rfl) HBU.out
          have HV9 := Lib.hid hv9; clear hv9
          go_wp2
          refine ⟨?_, ?_⟩
          · ((repeat apply Exists.intro); exact ⟨⟨U - p, HBU.out, HM.out, st9.less (by simp)⟩, rfl⟩)
          · rw [HV9.out, HVU.out]; exact HLTU.out
    · have hb : ((o : Int) != 0) = true := by simp; omega
      have hD := fun h => hz (htz.2 h)
      clear htz hz
      have HD := Lib.hid hD; clear hD
      have hD' : V / B64 ^ 4 ≠ 0 := HD.out
      have hprod := fun wx => productR_any (V / B64 ^ 4) (B64 ^ 4 - p) wx (Nat.div_lt_of_lt_mul (by rw [← Nat.pow_add]; exact HV.out)) (by have := HP0.out; have := b64_pos 4; omega)
      rw [i4_high] at hprod
      have hplus := fun wx => plusR_any (V / B64 ^ 4 * (B64 ^ 4 - p)) (V % B64 ^ 4) wx
      rw [i8_low] at hplus
      have hlt := foldC_lt (B64 ^ 4 - p) V (by have := HP0.out; have := b64_pos 4; omega) hD'
      have hmod := foldC_mod p (B64 ^ 4 - p) V (by have := HP.out; omega)
      have e : V / B64 ^ 4 * (B64 ^ 4 - p) + V % B64 ^ 4 = foldC (B64 ^ 4 - p) V := by unfold foldC; rfl
      rw [e] at hplus
      generalize foldC (B64 ^ 4 - p) V = V' at *
      clear e hD'
      have mks : ∀ wx, St Nob w wx [(g2, cw 4 p ++ cw 4 (B64 ^ 4 - p), 31), (g3, cw 8 V, 141), (g4, cw 4 0, 24)] →
          wx.cell? ⟨g3, 0, none⟩ = some (.int .u64 (lw V 0 : Nat)) ∧ wx.cell? ⟨g3, 1, none⟩ = some (.int .u64 (lw V 1 : Nat)) ∧ wx.cell? ⟨g3, 2, none⟩ = some (.int .u64 (lw V 2 : Nat)) ∧ wx.cell? ⟨g3, 3, none⟩ = some (.int .u64 (lw V 3 : Nat)) ∧
          wx.cell? ⟨g3, 4, none⟩ = some (.int .u64 (lw V 4 : Nat)) ∧ wx.cell? ⟨g3, 5, none⟩ = some (.int .u64 (lw V 5 : Nat)) ∧ wx.cell? ⟨g3, 6, none⟩ = some (.int .u64 (lw V 6 : Nat)) ∧ wx.cell? ⟨g3, 7, none⟩ = some (.int .u64 (lw V 7 : Nat)) := fun wx h =>
        ⟨(h.at 1 rfl).cell (cw_get 8 V 0 (by decide)), (h.at 1 rfl).cell (cw_get 8 V 1 (by decide)), (h.at 1 rfl).cell (cw_get 8 V 2 (by decide)), (h.at 1 rfl).cell (cw_get 8 V 3 (by decide)),
          (h.at 1 rfl).cell (cw_get 8 V 4 (by decide)), (h.at 1 rfl).cell (cw_get 8 V 5 (by decide)), (h.at 1 rfl).cell (cw_get 8 V 6 (by decide)), (h.at 1 rfl).cell (cw_get 8 V 7 (by decide))⟩
      have hvv := valFrom_all (st.at 1 rfl) HV.out
      have HVV := Lib.hid hvv
      clear hvv
      have MKS := Lib.hid mks
      have HPROD := Lib.hid hprod
      have HPLUS := Lib.hid hplus
      have HLT := Lib.hid hlt
      have HMOD := Lib.hid hmod
      clear mks hprod hplus hlt hmod
      go_wp2_with fail
      clear c0 c1 c2 c3 c4 c5 c6 c7 o1 o2 o3 hb
      refine wp_region_noPanic ?_
      refine wp_region_seq (fun wx => St Nob w wx [(g2, cw 4 p ++ cw 4 (B64 ^ 4 - p), 31), (g3, cw 8 V, 141), (g4, cw 4 0, 24)]) 22 [(0, true), (1, true), (2, true), (3, true), (4, true), (5, true), (6, true), (7, true), (8, true), (9, true), (10, true), (12, true), (13, true), (14, true), (15, true), (16, true), (17, true), (18, true), (19, true), (20, true), (11, false), (21, false)] (by kernel_rfl) (by kernel_rfl) st.drew (fun _ _ _ _ _ h => h) ?_
      refine seq_pure (v := ?_) rfl rfl (fun wx hS => ?_) ?_
      rotate_left 1
      · (have hc := MKS.out wx hS; obtain ⟨d0, d1, d2, d3, d4, d5, d6, d7⟩ := hc; clear hS; go_simp; with_reducible rfl)
      try simp only [Act.put, List.setIfInBounds_toArray, List.set_cons_zero, List.set_cons_succ]
      refine seq_pure (v := ?_) rfl rfl (fun wx hS => ?_) ?_
      rotate_left 1
      · (have hc := MKS.out wx hS; obtain ⟨d0, d1, d2, d3, d4, d5, d6, d7⟩ := hc; clear hS; go_simp; with_reducible rfl)
      try simp only [Act.put, List.setIfInBounds_toArray, List.set_cons_zero, List.set_cons_succ]
      refine seq_pure (v := ?_) rfl rfl (fun wx hS => ?_) ?_
      rotate_left 1
      · (have hc := MKS.out wx hS; obtain ⟨d0, d1, d2, d3, d4, d5, d6, d7⟩ := hc; clear hS; go_simp; with_reducible rfl)
      try simp only [Act.put, List.setIfInBounds_toArray, List.set_cons_zero, List.set_cons_succ]
      refine seq_pure (v := ?_) rfl rfl (fun wx hS => ?_) ?_
      rotate_left 1
      · (have hc := MKS.out wx hS; obtain ⟨d0, d1, d2, d3, d4, d5, d6, d7⟩ := hc; clear hS; go_simp; with_reducible rfl)
      try simp only [Act.put, List.setIfInBounds_toArray, List.set_cons_zero, List.set_cons_succ]
      refine seq_pure (v := ?_) rfl rfl (fun wx hS => ?_) ?_
      rotate_left 1
      · (have hc := MKS.out wx hS; obtain ⟨d0, d1, d2, d3, d4, d5, d6, d7⟩ := hc; clear hS; go_simp; with_reducible rfl)
      try simp only [Act.put, List.setIfInBounds_toArray, List.set_cons_zero, List.set_cons_succ]
      refine seq_pure (v := ?_) rfl rfl (fun wx hS => ?_) ?_
      rotate_left 1
      · (have hc := MKS.out wx hS; obtain ⟨d0, d1, d2, d3, d4, d5, d6, d7⟩ := hc; clear hS; go_simp; with_reducible rfl)
      try simp only [Act.put, List.setIfInBounds_toArray, List.set_cons_zero, List.set_cons_succ]
      refine seq_pure (v := ?_) rfl rfl (fun wx hS => ?_) ?_
      rotate_left 1
      · (have hc := MKS.out wx hS; obtain ⟨d0, d1, d2, d3, d4, d5, d6, d7⟩ := hc; clear hS; go_simp; with_reducible rfl)
      try simp only [Act.put, List.setIfInBounds_toArray, List.set_cons_zero, List.set_cons_succ]
      refine seq_pure (v := ?_) rfl rfl (fun wx hS => ?_) ?_
      rotate_left 1
      · (have hc := MKS.out wx hS; obtain ⟨d0, d1, d2, d3, d4, d5, d6, d7⟩ := hc; clear hS; go_simp; with_reducible rfl)
      try simp only [Act.put, List.setIfInBounds_toArray, List.set_cons_zero, List.set_cons_succ]
      refine seq_pure (v := ?_) rfl rfl (fun wx hS => ?_) ?_
      rotate_left 1
      · (have hc := MKS.out wx hS; obtain ⟨d0, d1, d2, d3, d4, d5, d6, d7⟩ := hc; clear hS; go_simp; with_reducible rfl)
      try simp only [Act.put, List.setIfInBounds_toArray, List.set_cons_zero, List.set_cons_succ]
      refine seq_pure (v := ?_) rfl rfl (fun wx hS => ?_) ?_
      rotate_left 1
      · (have hc := MKS.out wx hS; obtain ⟨d0, d1, d2, d3, d4, d5, d6, d7⟩ := hc; clear hS; go_simp; with_reducible rfl)
      try simp only [Act.put, List.setIfInBounds_toArray, List.set_cons_zero, List.set_cons_succ]
      refine seq_arr rfl rfl rfl rfl (cw 4 (B64 ^ 4 - p)) (fun wx hS => St.rangeL hS 0 rfl 4 _ (cw_right 4 4 _ _)) Try.underlying24 rfl (by rw [cw_len]; exact size_n) ?_
      try simp only [Act.put, List.setIfInBounds_toArray, List.set_cons_zero, List.set_cons_succ]
      refine seq_pure (v := ?_) rfl rfl (fun wx hS => ?_) ?_
      rotate_left 1
      · (have hc := MKS.out wx hS; obtain ⟨d0, d1, d2, d3, d4, d5, d6, d7⟩ := hc; clear hS; go_simp; with_reducible rfl)
      try simp only [Act.put, List.setIfInBounds_toArray, List.set_cons_zero, List.set_cons_succ]
      refine seq_pure (v := ?_) rfl rfl (fun wx hS => ?_) ?_
      rotate_left 1
      · (have hc := MKS.out wx hS; obtain ⟨d0, d1, d2, d3, d4, d5, d6, d7⟩ := hc; clear hS; go_simp; with_reducible rfl)
      try simp only [Act.put, List.setIfInBounds_toArray, List.set_cons_zero, List.set_cons_succ]
      refine seq_pure (v := ?_) rfl rfl (fun wx hS => ?_) ?_
      rotate_left 1
      · (have hc := MKS.out wx hS; obtain ⟨d0, d1, d2, d3, d4, d5, d6, d7⟩ := hc; clear hS; go_simp; with_reducible rfl)
      try simp only [Act.put, List.setIfInBounds_toArray, List.set_cons_zero, List.set_cons_succ]
      refine seq_pure (v := ?_) rfl rfl (fun wx hS => ?_) ?_
      rotate_left 1
      · (have hc := MKS.out wx hS; obtain ⟨d0, d1, d2, d3, d4, d5, d6, d7⟩ := hc; clear hS; go_simp; with_reducible rfl)
      try simp only [Act.put, List.setIfInBounds_toArray, List.set_cons_zero, List.set_cons_succ]
      refine seq_pure (v := ?_) rfl rfl (fun wx hS => ?_) ?_
      rotate_left 1
      · (have hc := MKS.out wx hS; obtain ⟨d0, d1, d2, d3, d4, d5, d6, d7⟩ := hc; clear hS; go_simp; with_reducible rfl)
      try simp only [Act.put, List.setIfInBounds_toArray, List.set_cons_zero, List.set_cons_succ]
      refine seq_pure (v := ?_) rfl rfl (fun wx hS => ?_) ?_
      rotate_left 1
      · (have hc := MKS.out wx hS; obtain ⟨d0, d1, d2, d3, d4, d5, d6, d7⟩ := hc; clear hS; go_simp; with_reducible rfl)
      try simp only [Act.put, List.setIfInBounds_toArray, List.set_cons_zero, List.set_cons_succ]
      refine seq_pure (v := ?_) rfl rfl (fun wx hS => ?_) ?_
      rotate_left 1
      · (have hc := MKS.out wx hS; obtain ⟨d0, d1, d2, d3, d4, d5, d6, d7⟩ := hc; clear hS; go_simp; with_reducible rfl)
      try simp only [Act.put, List.setIfInBounds_toArray, List.set_cons_zero, List.set_cons_succ]
      refine seq_pure (v := ?_) rfl rfl (fun wx hS => ?_) ?_
      rotate_left 1
      · (have hc := MKS.out wx hS; obtain ⟨d0, d1, d2, d3, d4, d5, d6, d7⟩ := hc; clear hS; go_simp; with_reducible rfl)
      try simp only [Act.put, List.setIfInBounds_toArray, List.set_cons_zero, List.set_cons_succ]
      refine seq_pure (v := ?_) rfl rfl (fun wx hS => ?_) ?_
      rotate_left 1
      · (have hc := MKS.out wx hS; obtain ⟨d0, d1, d2, d3, d4, d5, d6, d7⟩ := hc; clear hS; go_simp; with_reducible rfl)
      try simp only [Act.put, List.setIfInBounds_toArray, List.set_cons_zero, List.set_cons_succ]
      refine seq_run rfl rfl ?_
      go_simp
      refine (HPROD.out _).mono ?_
      rintro e' w9 ⟨rfl, hf9⟩
      refine ⟨st.drew.keep hf9, ?_⟩
      try simp only [Act.put, List.setIfInBounds_toArray, List.set_cons_zero, List.set_cons_succ]
      refine seq_run rfl rfl ?_
      go_simp
      refine (HPLUS.out _).mono ?_
      rintro e' w10 ⟨rfl, hf10⟩
      refine ⟨(st.drew.keep hf9).keep hf10, ?_⟩
      try simp only [Act.put, List.setIfInBounds_toArray, List.set_cons_zero, List.set_cons_succ]
      refine seq_end ?_
      try simp only [List.drop_succ_cons, List.drop_zero]
      have st10 := (st.drew.keep hf9).keep hf10
      clear st hf9 hf10
      refine wl_storeS st10 1 rfl rfl rfl rfl rfl (by rw [cw_len, cw_len]) (by rw [cw_len]; exact size_wide) (cw_one _ _) ?_
      intro w11 st11
      have hv11 := valFrom_all (st11.at 1 rfl) (Nat.lt_trans HLT.out HV.out)
      clear st10
      go_wp2
      refine NoPanic.normal ?_
      refine ⟨?_, ?_⟩
      · ((repeat apply Exists.intro); exact ⟨⟨V', Nat.lt_trans HLT.out HV.out, HMOD.out.trans HVM.out, st11⟩, rfl⟩)
      · rw [hv11, HVV.out]; exact HLT.out
end Go.Proofs.Ytdbgddngapminaa

/- The reference's F: Mul, Add, Neg, Sub; N: Zero, Below, Bit, Small. -/
namespace Go.Proofs.Ytdbgddngapminaa
open Go.RowKit Go.Mv Mvp
attribute [local irreducible] limbs lw mix cw cSub cAdd cMul foldC valFrom
set_option maxHeartbeats 4000000 in
set_option maxRecDepth 100000 in
theorem Mul_any (p a b : Nat) (w : World) (hp0 : 0 < p) (hp : p < B64 ^ 4) (ha : a < B64 ^ 4) (hb : b < B64 ^ 4) :
    Calls Try.prog 54 #[fv p, i4 a, i4 b] w fun e w' => e = .returned (i4 (a * b % p)) ∧ Fr Nob w w' := by
  have HP0 := Lib.hid hp0
  have HP := Lib.hid hp
  have HA := Lib.hid ha
  have HB := Lib.hid hb
  have HAB := Lib.hid (show a * b < B64 ^ 8 from Nat.lt_of_lt_of_le (Nat.mul_lt_mul'' ha hb) (by decide))
  clear hp0 hp ha hb
  have st0 := St.start Nob w
  go_enter Try.func54, Try.ntmps54
  go_wp2_with (with_reducible refine wl_stop (o := ⟨some 3, _, _, _, _, _⟩) ?_)
  refine wl_boxS st0 rfl rfl rfl (cw 4 p ++ cw 4 (B64 ^ 4 - p)) rfl ?_
  intro g3 w1 st1
  clear st0
  go_wp2_with (with_reducible refine wl_stop (o := ⟨some 4, _, _, _, _, _⟩) ?_)
  refine wl_boxS st1 rfl rfl rfl (cw 4 a) rfl ?_
  intro g4 w2 st2
  clear st1
  go_wp2_with (with_reducible refine wl_stop (o := ⟨some 5, _, _, _, _, _⟩) ?_)
  refine wl_boxS st2 rfl rfl rfl (cw 4 b) rfl ?_
  intro g5 w3 st3
  clear st2
  go_wp2_with (with_reducible refine wl_stop (o := ⟨some 6, _, _, _, _, _⟩) ?_)
  refine wl_allocS st3 rfl rfl (z := .agg #[.int .u64 0, .int .u64 0, .int .u64 0, .int .u64 0]) (by kernel_rfl) (cw 4 0) (by rw [cw_zero]; rfl) ?_
  intro g6 w4 st4
  clear st3
  go_wp2_with fail
  refine wp_region_noPanic ?_
  refine wp_region_seq (fun wx => St Nob w wx [(g3, cw 4 p ++ cw 4 (B64 ^ 4 - p), 31), (g4, cw 4 a, 24), (g5, cw 4 b, 24), (g6, cw 4 0, 24)]) 5 [(0, true), (1, true), (2, true), (3, false), (4, false)] (by kernel_rfl) (by kernel_rfl) st4.drew (fun _ _ _ _ _ h => h) ?_
  have hd4 := st4.drew
  refine seq_arr rfl rfl rfl rfl (cw 4 p ++ cw 4 (B64 ^ 4 - p)) (fun wx hS => St.rangeL hS 0 rfl 0 _ (by rw [List.drop_zero, List.take_of_length_le (Nat.le_refl _)])) Try.underlying31 rfl (by first | (rw [cw_len]; kernel_rfl) | (simp only [List.length_append, cw_len]; kernel_rfl)) ?_
  try simp only [Act.put, List.setIfInBounds_toArray, List.set_cons_zero, List.set_cons_succ]
  refine seq_arr rfl rfl rfl rfl (cw 4 a) (fun wx hS => St.rangeL hS 1 rfl 0 _ (by rw [List.drop_zero, List.take_of_length_le (Nat.le_refl _)])) Try.underlying24 rfl (by first | (rw [cw_len]; kernel_rfl) | (simp only [List.length_append, cw_len]; kernel_rfl)) ?_
  try simp only [Act.put, List.setIfInBounds_toArray, List.set_cons_zero, List.set_cons_succ]
  refine seq_arr rfl rfl rfl rfl (cw 4 b) (fun wx hS => St.rangeL hS 2 rfl 0 _ (by rw [List.drop_zero, List.take_of_length_le (Nat.le_refl _)])) Try.underlying24 rfl (by first | (rw [cw_len]; kernel_rfl) | (simp only [List.length_append, cw_len]; kernel_rfl)) ?_
  try simp only [Act.put, List.setIfInBounds_toArray, List.set_cons_zero, List.set_cons_succ]
  refine seq_run rfl rfl ?_
  go_simp
  refine (productR_any a b _ HA.out HB.out).mono ?_
  rintro e' w5 ⟨rfl, hf5⟩
  have st5 := hd4.keep hf5
  clear hd4 hf5
  refine ⟨st5, ?_⟩
  try simp only [Act.put, List.setIfInBounds_toArray, List.set_cons_zero, List.set_cons_succ]
  refine seq_run rfl rfl ?_
  go_simp
  refine (Less_any p (a * b) _ HP0.out HP.out HAB.out).mono ?_
  rintro e' w6 ⟨rfl, hf6⟩
  have st6 := st5.keep hf6
  clear st5 hf6
  refine ⟨st6, ?_⟩
  try simp only [Act.put, List.setIfInBounds_toArray, List.set_cons_zero, List.set_cons_succ]
  refine seq_end ?_
  try simp only [List.drop_succ_cons, List.drop_zero]
  refine wl_storeS st6 3 rfl rfl rfl rfl rfl (by first | (simp only [cw_len]; done) | (simp only [List.length_append, cw_len]; done)) (by first | (rw [cw_len]; kernel_rfl) | (simp only [List.length_append, cw_len]; kernel_rfl)) (cw_one _ _) ?_
  intro w7 st7
  clear st6
  go_wp2_with fail
  refine NoPanic.normal ?_
  have hr := st7.at 3 rfl
  have hfr := st7.fr
  clear st7
  go_wp2_with fail
  exact bodyPost_ret (results_arr rfl rfl hr Try.underlying24 (by first | (rw [cw_len]; kernel_rfl) | (simp only [List.length_append, cw_len]; kernel_rfl))) rfl ⟨rfl, hfr⟩

set_option maxHeartbeats 4000000 in
set_option maxRecDepth 100000 in
theorem Add_any (p a b : Nat) (w : World) (hp0 : 0 < p) (hp : p < B64 ^ 4) (ha : a < B64 ^ 4) (hb : b < B64 ^ 4) :
    Calls Try.prog 59 #[fv p, i4 a, i4 b] w fun e w' => e = .returned (i4 ((a + b) % p)) ∧ Fr Nob w w' := by
  have HP0 := Lib.hid hp0
  have HP := Lib.hid hp
  have HA := Lib.hid ha
  have HB := Lib.hid hb
  have HAB := Lib.hid (show a + b < B64 ^ 8 from Nat.lt_of_lt_of_le (Nat.add_lt_add ha hb) (by decide))
  have hplus := fun wx => plusR_any (a % B64 ^ 4) (b % B64 ^ 4) wx
  rw [i8_low, i8_low, Nat.mod_eq_of_lt ha, Nat.mod_eq_of_lt hb] at hplus
  have HPLUS := Lib.hid hplus
  clear hplus
  clear hp0 hp ha hb
  have st0 := St.start Nob w
  go_enter Try.func59, Try.ntmps59
  go_wp2_with (with_reducible refine wl_stop (o := ⟨some 3, _, _, _, _, _⟩) ?_)
  refine wl_boxS st0 rfl rfl rfl (cw 4 p ++ cw 4 (B64 ^ 4 - p)) rfl ?_
  intro g3 w1 st1
  clear st0
  go_wp2_with (with_reducible refine wl_stop (o := ⟨some 4, _, _, _, _, _⟩) ?_)
  refine wl_boxS st1 rfl rfl rfl (cw 4 a) rfl ?_
  intro g4 w2 st2
  clear st1
  go_wp2_with (with_reducible refine wl_stop (o := ⟨some 5, _, _, _, _, _⟩) ?_)
  refine wl_boxS st2 rfl rfl rfl (cw 4 b) rfl ?_
  intro g5 w3 st3
  clear st2
  go_wp2_with (with_reducible refine wl_stop (o := ⟨some 6, _, _, _, _, _⟩) ?_)
  refine wl_allocS st3 rfl rfl (z := .agg #[.int .u64 0, .int .u64 0, .int .u64 0, .int .u64 0]) (by kernel_rfl) (cw 4 0) (by rw [cw_zero]; rfl) ?_
  intro g6 w4 st4
  clear st3
  go_wp2_with fail
  refine wp_region_noPanic ?_
  refine wp_region_seq (fun wx => St Nob w wx [(g3, cw 4 p ++ cw 4 (B64 ^ 4 - p), 31), (g4, cw 4 a, 24), (g5, cw 4 b, 24), (g6, cw 4 0, 24)]) 21 [(0, true), (1, true), (2, true), (3, true), (4, true), (5, true), (6, true), (7, true), (8, true), (9, true), (10, true), (11, true), (12, true), (13, true), (14, true), (15, true), (16, true), (17, true), (18, true), (19, false), (20, false)] (by kernel_rfl) (by kernel_rfl) st4.drew (fun _ _ _ _ _ h => h) ?_
  have hd4 := st4.drew
  refine seq_arr rfl rfl rfl rfl (cw 4 p ++ cw 4 (B64 ^ 4 - p)) (fun wx hS => St.rangeL hS 0 rfl 0 _ (by rw [List.drop_zero, List.take_of_length_le (Nat.le_refl _)])) Try.underlying31 rfl (by first | (rw [cw_len]; kernel_rfl) | (simp only [List.length_append, cw_len]; kernel_rfl)) ?_
  try simp only [Act.put, List.setIfInBounds_toArray, List.set_cons_zero, List.set_cons_succ]
  refine seq_pure (v := ?_) rfl rfl (fun wx hS => ?_) ?_
  rotate_left 1
  · (clear hS; go_simp; with_reducible rfl)
  try simp only [Act.put, List.setIfInBounds_toArray, List.set_cons_zero, List.set_cons_succ]
  refine seq_pure (v := ?_) rfl rfl (fun wx hS => ?_) ?_
  rotate_left 1
  · (have hc := (St.at hS 1 rfl).cell (cw_get 4 a 0 (by decide)); clear hS; go_simp; with_reducible rfl)
  try simp only [Act.put, List.setIfInBounds_toArray, List.set_cons_zero, List.set_cons_succ]
  refine seq_pure (v := ?_) rfl rfl (fun wx hS => ?_) ?_
  rotate_left 1
  · (clear hS; go_simp; with_reducible rfl)
  try simp only [Act.put, List.setIfInBounds_toArray, List.set_cons_zero, List.set_cons_succ]
  refine seq_pure (v := ?_) rfl rfl (fun wx hS => ?_) ?_
  rotate_left 1
  · (have hc := (St.at hS 1 rfl).cell (cw_get 4 a 1 (by decide)); clear hS; go_simp; with_reducible rfl)
  try simp only [Act.put, List.setIfInBounds_toArray, List.set_cons_zero, List.set_cons_succ]
  refine seq_pure (v := ?_) rfl rfl (fun wx hS => ?_) ?_
  rotate_left 1
  · (clear hS; go_simp; with_reducible rfl)
  try simp only [Act.put, List.setIfInBounds_toArray, List.set_cons_zero, List.set_cons_succ]
  refine seq_pure (v := ?_) rfl rfl (fun wx hS => ?_) ?_
  rotate_left 1
  · (have hc := (St.at hS 1 rfl).cell (cw_get 4 a 2 (by decide)); clear hS; go_simp; with_reducible rfl)
  try simp only [Act.put, List.setIfInBounds_toArray, List.set_cons_zero, List.set_cons_succ]
  refine seq_pure (v := ?_) rfl rfl (fun wx hS => ?_) ?_
  rotate_left 1
  · (clear hS; go_simp; with_reducible rfl)
  try simp only [Act.put, List.setIfInBounds_toArray, List.set_cons_zero, List.set_cons_succ]
  refine seq_pure (v := ?_) rfl rfl (fun wx hS => ?_) ?_
  rotate_left 1
  · (have hc := (St.at hS 1 rfl).cell (cw_get 4 a 3 (by decide)); clear hS; go_simp; with_reducible rfl)
  try simp only [Act.put, List.setIfInBounds_toArray, List.set_cons_zero, List.set_cons_succ]
  refine seq_pure (v := ?_) rfl rfl (fun wx hS => ?_) ?_
  rotate_left 1
  · (clear hS; go_simp; with_reducible rfl)
  try simp only [Act.put, List.setIfInBounds_toArray, List.set_cons_zero, List.set_cons_succ]
  refine seq_pure (v := ?_) rfl rfl (fun wx hS => ?_) ?_
  rotate_left 1
  · (clear hS; go_simp; with_reducible rfl)
  try simp only [Act.put, List.setIfInBounds_toArray, List.set_cons_zero, List.set_cons_succ]
  refine seq_pure (v := ?_) rfl rfl (fun wx hS => ?_) ?_
  rotate_left 1
  · (have hc := (St.at hS 2 rfl).cell (cw_get 4 b 0 (by decide)); clear hS; go_simp; with_reducible rfl)
  try simp only [Act.put, List.setIfInBounds_toArray, List.set_cons_zero, List.set_cons_succ]
  refine seq_pure (v := ?_) rfl rfl (fun wx hS => ?_) ?_
  rotate_left 1
  · (clear hS; go_simp; with_reducible rfl)
  try simp only [Act.put, List.setIfInBounds_toArray, List.set_cons_zero, List.set_cons_succ]
  refine seq_pure (v := ?_) rfl rfl (fun wx hS => ?_) ?_
  rotate_left 1
  · (have hc := (St.at hS 2 rfl).cell (cw_get 4 b 1 (by decide)); clear hS; go_simp; with_reducible rfl)
  try simp only [Act.put, List.setIfInBounds_toArray, List.set_cons_zero, List.set_cons_succ]
  refine seq_pure (v := ?_) rfl rfl (fun wx hS => ?_) ?_
  rotate_left 1
  · (clear hS; go_simp; with_reducible rfl)
  try simp only [Act.put, List.setIfInBounds_toArray, List.set_cons_zero, List.set_cons_succ]
  refine seq_pure (v := ?_) rfl rfl (fun wx hS => ?_) ?_
  rotate_left 1
  · (have hc := (St.at hS 2 rfl).cell (cw_get 4 b 2 (by decide)); clear hS; go_simp; with_reducible rfl)
  try simp only [Act.put, List.setIfInBounds_toArray, List.set_cons_zero, List.set_cons_succ]
  refine seq_pure (v := ?_) rfl rfl (fun wx hS => ?_) ?_
  rotate_left 1
  · (clear hS; go_simp; with_reducible rfl)
  try simp only [Act.put, List.setIfInBounds_toArray, List.set_cons_zero, List.set_cons_succ]
  refine seq_pure (v := ?_) rfl rfl (fun wx hS => ?_) ?_
  rotate_left 1
  · (have hc := (St.at hS 2 rfl).cell (cw_get 4 b 3 (by decide)); clear hS; go_simp; with_reducible rfl)
  try simp only [Act.put, List.setIfInBounds_toArray, List.set_cons_zero, List.set_cons_succ]
  refine seq_pure (v := ?_) rfl rfl (fun wx hS => ?_) ?_
  rotate_left 1
  · (clear hS; go_simp; with_reducible rfl)
  try simp only [Act.put, List.setIfInBounds_toArray, List.set_cons_zero, List.set_cons_succ]
  refine seq_run rfl rfl ?_
  go_simp
  refine (HPLUS.out _).mono ?_
  rintro e' w5 ⟨rfl, hf5⟩
  have st5 := hd4.keep hf5
  clear hd4 hf5
  refine ⟨st5, ?_⟩
  try simp only [Act.put, List.setIfInBounds_toArray, List.set_cons_zero, List.set_cons_succ]
  refine seq_run rfl rfl ?_
  go_simp
  refine (Less_any p (a + b) _ HP0.out HP.out HAB.out).mono ?_
  rintro e' w6 ⟨rfl, hf6⟩
  have st6 := st5.keep hf6
  clear st5 hf6
  refine ⟨st6, ?_⟩
  try simp only [Act.put, List.setIfInBounds_toArray, List.set_cons_zero, List.set_cons_succ]
  refine seq_end ?_
  try simp only [List.drop_succ_cons, List.drop_zero]
  refine wl_storeS st6 3 rfl rfl rfl rfl rfl (by first | (simp only [cw_len]; done) | (simp only [List.length_append, cw_len]; done)) (by first | (rw [cw_len]; kernel_rfl) | (simp only [List.length_append, cw_len]; kernel_rfl)) (cw_one _ _) ?_
  intro w7 st7
  clear st6
  go_wp2_with fail
  refine NoPanic.normal ?_
  have hr := st7.at 3 rfl
  have hfr := st7.fr
  clear st7
  go_wp2_with fail
  exact bodyPost_ret (results_arr rfl rfl hr Try.underlying24 (by first | (rw [cw_len]; kernel_rfl) | (simp only [List.length_append, cw_len]; kernel_rfl))) rfl ⟨rfl, hfr⟩

set_option maxHeartbeats 4000000 in
set_option maxRecDepth 100000 in
theorem Zero_any (a : Nat) (w : World) (ha : a < B64 ^ 4) :
    Calls Try.prog 56 #[i4 a] w fun e w' => e = .returned (.bool (decide (a = 0))) ∧ Fr Nob w w' := by
  have HA := Lib.hid ha
  clear ha
  have st0 := St.start Nob w
  go_enter Try.func56, Try.ntmps56
  go_wp2_with (with_reducible refine wl_stop (o := ⟨some 1, _, _, _, _, _⟩) ?_)
  refine wl_boxS st0 rfl rfl rfl (cw 4 a) rfl ?_
  intro g1 w1 st1
  clear st0
  have c0 := (st1.at 0 rfl).cell (cw_get 4 a 0 (by decide))
  have c1 := (st1.at 0 rfl).cell (cw_get 4 a 1 (by decide))
  have c2 := (st1.at 0 rfl).cell (cw_get 4 a 2 (by decide))
  have c3 := (st1.at 0 rfl).cell (cw_get 4 a 3 (by decide))
  have hfr := st1.fr
  clear st1
  have l4 := lw_lt a 0
  have l5 := lw_lt a 1
  have l6 := lw_lt a 2
  have l7 := lw_lt a 3
  have o1 := bits_or_u64_nat _ _ l4 l5
  have o2 := bits_or_u64_nat _ _ (Nat.or_lt_two_pow (n := 64) l4 l5) l6
  have o3 := bits_or_u64_nat _ _ (Nat.or_lt_two_pow (n := 64) (Nat.or_lt_two_pow (n := 64) l4 l5) l6) l7
  have htz := words_zero a HA.out
  generalize hor : (lw a 0 ||| lw a 1 ||| lw a 2 ||| lw a 3) = o at *
  have hoo : ((o : Int) == 0) = decide (a = 0) := by
    rw [show ((o : Int) == 0) = decide (o = 0) by rw [Bool.eq_iff_iff]; simp]
    exact decide_eq_decide.2 htz
  have HOR := Lib.hid hor
  clear hor l4 l5 l6 l7 htz
  go_wp2_with fail
  go_ret
  exact ⟨rfl, hfr⟩

set_option maxHeartbeats 4000000 in
set_option maxRecDepth 100000 in
theorem Neg_any (p a : Nat) (w : World) (hap : a ≤ p) (hp : p < B64 ^ 4) (ha : a < B64 ^ 4) :
    Calls Try.prog 51 #[fv p, i4 a] w fun e w' => e = .returned (i4 ((p - a) % p)) ∧ Fr Nob w w' := by
  have HAP := Lib.hid hap
  have HP := Lib.hid hp
  have HA := Lib.hid ha
  clear hap hp ha
  have st0 := St.start Nob w
  go_enter Try.func51, Try.ntmps51
  go_wp2_with (with_reducible refine wl_stop (o := ⟨some 2, _, _, _, _, _⟩) ?_)
  refine wl_boxS st0 rfl rfl rfl (cw 4 p ++ cw 4 (B64 ^ 4 - p)) rfl ?_
  intro g2 w1 st1
  clear st0
  go_wp2_with (with_reducible refine wl_stop (o := ⟨some 3, _, _, _, _, _⟩) ?_)
  refine wl_boxS st1 rfl rfl rfl (cw 4 a) rfl ?_
  intro g3 w2 st2
  clear st1
  go_wp2_with (with_reducible refine wl_stop (o := ⟨some 4, _, _, _, _, _⟩) ?_)
  refine wl_allocS st2 rfl rfl (z := .agg #[.int .u64 0, .int .u64 0, .int .u64 0, .int .u64 0]) (by kernel_rfl) (cw 4 0) (by rw [cw_zero]; rfl) ?_
  intro g4 w3 st3
  clear st2
  go_wp2_with (with_reducible refine wl_stop (o := ⟨some 8, _, _, _, _, _⟩) ?_)
  refine wl_loadS st3 1 rfl rfl rfl Try.underlying24 rfl (by first | (rw [cw_len]; kernel_rfl) | (simp only [List.length_append, cw_len]; kernel_rfl)) ?_
  go_wp2_with fail
  refine (Zero_any a _ HA.out).mono ?_
  rintro e' w4 ⟨rfl, hf4⟩
  have st4 := st3.keep hf4
  clear st3 hf4
  by_cases h0 : a = 0
  · rw [decide_eq_true h0]
    have H0 := Lib.hid h0
    clear h0
    go_wp2_with (with_reducible refine wl_stop (o := ⟨some 11, _, _, _, _, _⟩) ?_)
    refine wl_loadS st4 1 rfl rfl rfl Try.underlying24 rfl (by first | (rw [cw_len]; kernel_rfl) | (simp only [List.length_append, cw_len]; kernel_rfl)) ?_
    go_wp2_with (with_reducible refine wl_stop (o := ⟨none, _, _, _, _, _⟩) ?_)
    refine wl_storeS st4 2 rfl rfl rfl rfl rfl (by first | (simp only [cw_len]; done) | (simp only [List.length_append, cw_len]; done)) (by first | (rw [cw_len]; kernel_rfl) | (simp only [List.length_append, cw_len]; kernel_rfl)) (cw_one _ _) ?_
    intro w5 st5
    clear st4
    have hr := st5.at 2 rfl
    have hfr := st5.fr
    clear st5
    go_wp2_with fail
    exact bodyPost_ret (results_arr rfl rfl hr Try.underlying24 (by first | (rw [cw_len]; kernel_rfl) | (simp only [List.length_append, cw_len]; kernel_rfl))) rfl ⟨by rw [H0.out, Nat.sub_zero, Nat.mod_self]; rfl, hfr⟩
  · rw [decide_eq_false h0]
    have H0 := Lib.hid h0
    clear h0
    go_wp2_with (with_reducible refine wl_stop (o := ⟨some 14, _, _, _, _, _⟩) ?_)
    refine wl_loadA rfl rfl Try.underlying24 rfl (st4.at 0 rfl) (cw 4 p) (cw_left 4 4 _ _) (by first | (rw [cw_len]; kernel_rfl) | (simp only [List.length_append, cw_len]; kernel_rfl)) ?_
    go_wp2_with (with_reducible refine wl_stop (o := ⟨some 15, _, _, _, _, _⟩) ?_)
    refine wl_loadS st4 1 rfl rfl rfl Try.underlying24 rfl (by first | (rw [cw_len]; kernel_rfl) | (simp only [List.length_append, cw_len]; kernel_rfl)) ?_
    go_wp2_with fail
    refine (less_any p a _ HA.out).mono ?_
    rintro e' w5 ⟨rfl, hf5⟩
    have st5 := st4.keep hf5
    clear st4 hf5
    go_wp2_with (with_reducible refine wl_stop (o := ⟨some 6, _, _, _, _, _⟩) ?_)
    refine wl_allocS st5 rfl rfl (z := .agg #[.int .u64 0, .int .u64 0, .int .u64 0, .int .u64 0]) (by kernel_rfl) (cw 4 0) (by rw [cw_zero]; rfl) ?_
    intro g6 w6 st6
    clear st5
    go_wp2_with (with_reducible refine wl_stop (o := ⟨none, _, _, _, _, _⟩) ?_)
    refine wl_storeS st6 3 rfl rfl rfl rfl rfl (by first | (simp only [cw_len]; done) | (simp only [List.length_append, cw_len]; done)) (by first | (rw [cw_len]; kernel_rfl) | (simp only [List.length_append, cw_len]; kernel_rfl)) (cw_one _ _) ?_
    intro w7 st7
    clear st6
    go_wp2_with (with_reducible refine wl_stop (o := ⟨some 19, _, _, _, _, _⟩) ?_)
    refine wl_loadS st7 3 rfl rfl rfl Try.underlying24 rfl (by first | (rw [cw_len]; kernel_rfl) | (simp only [List.length_append, cw_len]; kernel_rfl)) ?_
    go_wp2_with (with_reducible refine wl_stop (o := ⟨none, _, _, _, _, _⟩) ?_)
    refine wl_storeS st7 2 rfl rfl rfl rfl rfl (by first | (simp only [cw_len]; done) | (simp only [List.length_append, cw_len]; done)) (by first | (rw [cw_len]; kernel_rfl) | (simp only [List.length_append, cw_len]; kernel_rfl)) (cw_one _ _) ?_
    intro w8 st8
    clear st7
    have hr := st8.at 2 rfl
    have hfr := st8.fr
    clear st8
    go_wp2_with fail
    exact bodyPost_ret (results_arr rfl rfl hr Try.underlying24 (by first | (rw [cw_len]; kernel_rfl) | (simp only [List.length_append, cw_len]; kernel_rfl))) rfl ⟨by rw [Nat.mod_eq_of_lt (by have := H0.out; have := HAP.out; omega), ← neg_words p a HAP.out]; rfl, hfr⟩

set_option maxHeartbeats 4000000 in
set_option maxRecDepth 100000 in
theorem Sub_any (p a b : Nat) (w : World) (hp0 : 0 < p) (hp : p < B64 ^ 4) (ha : a < B64 ^ 4) (hb : b < B64 ^ 4) (hbp : b ≤ p) :
    Calls Try.prog 58 #[fv p, i4 a, i4 b] w fun e w' => e = .returned (i4 ((a + (p - b) % p) % p)) ∧ Fr Nob w w' := by
  have HP0 := Lib.hid hp0
  have HP := Lib.hid hp
  have HA := Lib.hid ha
  have HB := Lib.hid hb
  have HBP := Lib.hid hbp
  have HN := Lib.hid (show (p - b) % p < B64 ^ 4 from Nat.lt_trans (Nat.mod_lt _ hp0) hp)
  clear hp0 hp ha hb hbp
  have st0 := St.start Nob w
  go_enter Try.func58, Try.ntmps58
  go_wp2_with (with_reducible refine wl_stop (o := ⟨some 3, _, _, _, _, _⟩) ?_)
  refine wl_boxS st0 rfl rfl rfl (cw 4 p ++ cw 4 (B64 ^ 4 - p)) rfl ?_
  intro g3 w1 st1
  clear st0
  go_wp2_with (with_reducible refine wl_stop (o := ⟨some 4, _, _, _, _, _⟩) ?_)
  refine wl_boxS st1 rfl rfl rfl (cw 4 a) rfl ?_
  intro g4 w2 st2
  clear st1
  go_wp2_with (with_reducible refine wl_stop (o := ⟨some 5, _, _, _, _, _⟩) ?_)
  refine wl_boxS st2 rfl rfl rfl (cw 4 b) rfl ?_
  intro g5 w3 st3
  clear st2
  go_wp2_with (with_reducible refine wl_stop (o := ⟨some 6, _, _, _, _, _⟩) ?_)
  refine wl_allocS st3 rfl rfl (z := .agg #[.int .u64 0, .int .u64 0, .int .u64 0, .int .u64 0]) (by kernel_rfl) (cw 4 0) (by rw [cw_zero]; rfl) ?_
  intro g6 w4 st4
  clear st3
  go_wp2_with fail
  refine wp_region_noPanic ?_
  refine wp_region_seq (fun wx => St Nob w wx [(g3, cw 4 p ++ cw 4 (B64 ^ 4 - p), 31), (g4, cw 4 a, 24), (g5, cw 4 b, 24), (g6, cw 4 0, 24)]) 6 [(0, true), (1, true), (2, true), (3, true), (4, false), (5, false)] (by kernel_rfl) (by kernel_rfl) st4.drew (fun _ _ _ _ _ h => h) ?_
  have hd4 := st4.drew
  refine seq_arr rfl rfl rfl rfl (cw 4 p ++ cw 4 (B64 ^ 4 - p)) (fun wx hS => St.rangeL hS 0 rfl 0 _ (by rw [List.drop_zero, List.take_of_length_le (Nat.le_refl _)])) Try.underlying31 rfl (by first | (rw [cw_len]; kernel_rfl) | (simp only [List.length_append, cw_len]; kernel_rfl)) ?_
  try simp only [Act.put, List.setIfInBounds_toArray, List.set_cons_zero, List.set_cons_succ]
  refine seq_arr rfl rfl rfl rfl (cw 4 a) (fun wx hS => St.rangeL hS 1 rfl 0 _ (by rw [List.drop_zero, List.take_of_length_le (Nat.le_refl _)])) Try.underlying24 rfl (by first | (rw [cw_len]; kernel_rfl) | (simp only [List.length_append, cw_len]; kernel_rfl)) ?_
  try simp only [Act.put, List.setIfInBounds_toArray, List.set_cons_zero, List.set_cons_succ]
  refine seq_arr rfl rfl rfl rfl (cw 4 p ++ cw 4 (B64 ^ 4 - p)) (fun wx hS => St.rangeL hS 0 rfl 0 _ (by rw [List.drop_zero, List.take_of_length_le (Nat.le_refl _)])) Try.underlying31 rfl (by first | (rw [cw_len]; kernel_rfl) | (simp only [List.length_append, cw_len]; kernel_rfl)) ?_
  try simp only [Act.put, List.setIfInBounds_toArray, List.set_cons_zero, List.set_cons_succ]
  refine seq_arr rfl rfl rfl rfl (cw 4 b) (fun wx hS => St.rangeL hS 2 rfl 0 _ (by rw [List.drop_zero, List.take_of_length_le (Nat.le_refl _)])) Try.underlying24 rfl (by first | (rw [cw_len]; kernel_rfl) | (simp only [List.length_append, cw_len]; kernel_rfl)) ?_
  try simp only [Act.put, List.setIfInBounds_toArray, List.set_cons_zero, List.set_cons_succ]
  refine seq_run rfl rfl ?_
  go_simp
  refine (Neg_any p b _ HBP.out HP.out HB.out).mono ?_
  rintro e' w5 ⟨rfl, hf5⟩
  have st5 := hd4.keep hf5
  clear hd4 hf5
  refine ⟨st5, ?_⟩
  try simp only [Act.put, List.setIfInBounds_toArray, List.set_cons_zero, List.set_cons_succ]
  refine seq_run rfl rfl ?_
  go_simp
  refine (Add_any p a ((p - b) % p) _ HP0.out HP.out HA.out HN.out).mono ?_
  rintro e' w6 ⟨rfl, hf6⟩
  have st6 := st5.keep hf6
  clear st5 hf6
  refine ⟨st6, ?_⟩
  try simp only [Act.put, List.setIfInBounds_toArray, List.set_cons_zero, List.set_cons_succ]
  refine seq_end ?_
  try simp only [List.drop_succ_cons, List.drop_zero]
  refine wl_storeS st6 3 rfl rfl rfl rfl rfl (by first | (simp only [cw_len]; done) | (simp only [List.length_append, cw_len]; done)) (by first | (rw [cw_len]; kernel_rfl) | (simp only [List.length_append, cw_len]; kernel_rfl)) (cw_one _ _) ?_
  intro w7 st7
  clear st6
  go_wp2_with fail
  refine NoPanic.normal ?_
  have hr := st7.at 3 rfl
  have hfr := st7.fr
  clear st7
  go_wp2_with fail
  exact bodyPost_ret (results_arr rfl rfl hr Try.underlying24 (by first | (rw [cw_len]; kernel_rfl) | (simp only [List.length_append, cw_len]; kernel_rfl))) rfl ⟨rfl, hfr⟩

set_option maxHeartbeats 4000000 in
set_option maxRecDepth 100000 in
theorem Small_any (n : Nat) (w : World) (hn : n < 18446744073709551616) :
    Calls Try.prog 79 #[.int .u64 (n : Int)] w fun e w' => e = .returned (i4 n) ∧ Fr Nob w w' := by
  have HN := Lib.hid hn
  have HW := Lib.hid (small_words n hn)
  clear hn
  have st0 := St.start Nob w
  go_enter Try.func79, Try.ntmps79
  go_wp2_with (with_reducible refine wl_stop (o := ⟨some 2, _, _, _, _, _⟩) ?_)
  refine wl_allocS st0 rfl rfl (z := .agg #[.int .u64 0, .int .u64 0, .int .u64 0, .int .u64 0]) (by kernel_rfl) (cw 4 0) (by rw [cw_zero]; rfl) ?_
  intro g2 w1 st1
  clear st0
  go_wp2_with (with_reducible refine wl_stop (o := ⟨none, _, _, _, _, _⟩) ?_)
  refine wl_storeS st1 0 rfl rfl rfl rfl (cs := cw 4 n) HW.out (by simp only [cw_len]) (by simp only [cw_len]; kernel_rfl) (cw_one _ _) ?_
  intro w2 st2
  clear st1
  have hr := st2.at 0 rfl
  have hfr := st2.fr
  clear st2
  go_wp2_with fail
  exact bodyPost_ret (results_arr rfl rfl hr Try.underlying24 (by first | (rw [cw_len]; kernel_rfl) | (simp only [List.length_append, cw_len]; kernel_rfl))) rfl ⟨rfl, hfr⟩

set_option maxHeartbeats 4000000 in
set_option maxRecDepth 100000 in
theorem Below_any (a b : Nat) (w : World) (ha : a < B64 ^ 4) (hb : b < B64 ^ 4) :
    Calls Try.prog 40 #[i4 a, i4 b] w fun e w' => e = .returned (.bool (decide (a < b))) ∧ Fr Nob w w' := by
  have HA := Lib.hid ha
  have HB := Lib.hid hb
  clear ha hb
  have st0 := St.start Nob w
  go_enter Try.func40, Try.ntmps40
  go_wp2_with (with_reducible refine wl_stop (o := ⟨some 2, _, _, _, _, _⟩) ?_)
  refine wl_boxS st0 rfl rfl rfl (cw 4 a) rfl ?_
  intro g2 w1 st1
  clear st0
  go_wp2_with (with_reducible refine wl_stop (o := ⟨some 3, _, _, _, _, _⟩) ?_)
  refine wl_boxS st1 rfl rfl rfl (cw 4 b) rfl ?_
  intro g3 w2 st2
  clear st1
  have HCS := Lib.hid (cSub_all a b 4 HA.out HB.out)
  go_wp2_with (with_reducible refine wl_stop (o := ⟨some 8, _, _, _, _, _⟩) ?_)
  refine wl_loadS st2 0 rfl rfl rfl Try.underlying24 rfl (by first | (rw [cw_len]; kernel_rfl) | (simp only [List.length_append, cw_len]; kernel_rfl)) ?_
  go_wp2_with (with_reducible refine wl_stop (o := ⟨some 9, _, _, _, _, _⟩) ?_)
  refine wl_loadS st2 1 rfl rfl rfl Try.underlying24 rfl (by first | (rw [cw_len]; kernel_rfl) | (simp only [List.length_append, cw_len]; kernel_rfl)) ?_
  go_wp2_with fail
  refine (less_any a b _ HB.out).mono ?_
  rintro e' w3 ⟨rfl, hf3⟩
  have st3 := st2.keep hf3
  clear st2 hf3
  go_wp2_with (with_reducible refine wl_stop (o := ⟨some 5, _, _, _, _, _⟩) ?_)
  refine wl_allocS st3 rfl rfl (z := .agg #[.int .u64 0, .int .u64 0, .int .u64 0, .int .u64 0]) (by kernel_rfl) (cw 4 0) (by rw [cw_zero]; rfl) ?_
  intro g5 w4 st4
  clear st3
  go_wp2_with (with_reducible refine wl_stop (o := ⟨none, _, _, _, _, _⟩) ?_)
  refine wl_storeS st4 2 rfl rfl rfl rfl rfl (by first | (simp only [cw_len]; done) | (simp only [List.length_append, cw_len]; done)) (by first | (rw [cw_len]; kernel_rfl) | (simp only [List.length_append, cw_len]; kernel_rfl)) (cw_one _ _) ?_
  intro w5 st5
  clear st4
  have hfr := st5.fr
  clear st5
  have hcs := HCS.out
  clear HCS
  by_cases hlt : a < b
  · rw [if_pos hlt] at hcs
    rw [hcs]
    have HLT := Lib.hid hlt
    clear hlt hcs
    go_wp2_with fail
    go_ret
    exact ⟨by rw [decide_eq_true HLT.out]; rfl, hfr⟩
  · rw [if_neg hlt] at hcs
    rw [hcs]
    have HLT := Lib.hid hlt
    clear hlt hcs
    go_wp2_with fail
    go_ret
    exact ⟨by rw [decide_eq_false HLT.out]; rfl, hfr⟩
end Go.Proofs.Ytdbgddngapminaa

/- Bytes and bits of numbers: the reference's Of, Bytes, Bit; mont's FromBytes, Bytes, Bit. -/
namespace Go.Proofs.Ytdbgddngapminaa
open Go.RowKit Go.Mv Mvp
attribute [local irreducible] limbs lw mix cw cSub cAdd cMul foldC valFrom beN laid be32
theorem wid_shl (x : UInt8) (r : Nat) (hr : r + 8 ≤ 64) : (shl (wid x) r).toNat = x.toNat * 2 ^ r := by
  have hx := x.toNat_lt
  have h1 : x.toNat * 2 ^ r < 2 ^ (r + 8) := byte_shift_lt x.toNat r hx
  have h2 : 2 ^ (r + 8) ≤ 2 ^ 64 := Nat.pow_le_pow_right (by omega) hr
  simp only [shl, wid, UInt64.toNat_ofNat', UInt8.toNat_toUInt64]
  exact Nat.mod_eq_of_lt (Nat.lt_of_lt_of_le h1 h2)

set_option maxHeartbeats 2000000 in
set_option maxRecDepth 100000 in
theorem Of_any (s : ByteArray) (w : World) (hs : s.size ≤ 32) :
    Calls Try.prog 39 #[.string s] w fun e w' => e = .returned (i4 (beN s.data.toList)) ∧ Fr Nob w w' := by
  have HS := Lib.hid hs
  have hsz : s.data.toList.length = s.size := by simp
  have HSZ := Lib.hid hsz
  clear hs hsz
  have st0 := St.start Nob w
  go_enter Try.func39, Try.ntmps39
  go_wp2_with (with_reducible refine wl_stop (o := ⟨some 2, _, _, _, _, _⟩) ?_)
  refine wl_allocS st0 rfl rfl (z := .agg #[.int .u64 0, .int .u64 0, .int .u64 0, .int .u64 0]) (by kernel_rfl) (cw 4 0) (by rw [cw_zero]; rfl) ?_
  intro g2 w1 st1
  clear st0
  go_wp2_with (with_reducible refine wl_stop (o := ⟨some 3, _, _, _, _, _⟩) ?_)
  refine wl_allocS st1 rfl rfl (z := .agg #[.int .u64 0, .int .u64 0, .int .u64 0, .int .u64 0]) (by kernel_rfl) (cw 4 0) (by rw [cw_zero]; rfl) ?_
  intro g3 w2 st2
  clear st1
  have hmx : s.size ≤ 32 := HS.out
  go_wp2
  go_loopw [4] (fun i wr => ∃ k : Nat, k ≤ s.size ∧ i = .int .i64 (k : Int) ∧ St Nob w wr [(g2, cw 4 0, 24), (g3, cw 4 (laid s.data.toList k), 24)]) (fun i _ => s.size - (intOf i).toNat)
  case atStart => exact ⟨0, by omega, rfl, by rw [laid_zero]; exact st2⟩
  case round =>
    obtain ⟨i, hi, rfl, st⟩ := hrel
    clear st2
    by_cases hlt : i < s.size
    · have hltI : (i : Int) < (s.size : Int) := by omega
      have hll : i < s.data.toList.length := by rw [HSZ.out]; exact hlt
      have hstep := of_step 4 (laid s.data.toList i) (s.size - 1 - i) (s.data.toList.getD i 0).toNat (UInt8.toNat_lt _) (by have := laid_mod s.data.toList i hll; rwa [HSZ.out] at this) (by omega)
      have hsucc := laid_succ s.data.toList i hll
      rw [HSZ.out] at hsucc
      rw [← hsucc] at hstep
      have hx : ∀ h1 : i < s.size, s[i]'h1 = s.data.toList.getD i 0 := by
        intro h1
        rw [List.getD_eq_getElem?_getD, List.getElem?_eq_getElem (by simpa using h1)]
        simp
        rfl
      have hd1 : (s.size : Int) - 1 - (i : Int) = ((s.size - 1 - i : Nat) : Int) := by omega
      generalize hN' : laid s.data.toList (i + 1) = N' at *
      have HN' := Lib.hid hN'; clear hN'
      generalize hN : laid s.data.toList i = N at *
      generalize s.data.toList.getD i 0 = x at *
      have hk32 : s.size - 1 - i < 32 := by omega
      generalize hk : s.size - 1 - i = k at *
      have HN := Lib.hid hN; clear hN
      have HK := Lib.hid hk; clear hk
      have HSTEP := Lib.hid hstep; clear hstep
      have HD := Lib.hid hd1; clear hd1 hsucc hll
      have c1 := (st.at 1 rfl).cell (cw_get 4 N (k / 8) (by omega))
      have f1 := (st.at 1 rfl).free (k / 8) (by rw [cw_len]; omega)
      have hlo : (0 : Int) ≤ (k : Int) / 8 ∧ (k : Int) / 8 < 4 := by omega
      have hor := bits_or_u64_nat (lw N (k / 8)) ((shl (wid x) (8 * (k % 8))).toNat) (lw_lt _ _) (u64_lt _)
      rw [wid_shl x (8 * (k % 8)) (by omega)] at hor
      simp only [Int.natCast_mul, Int.natCast_pow, Int.cast_ofNat_Int] at hor
      have HSH := Lib.hid (wid_shl x (8 * (k % 8)) (by omega))
      go_wp2_with fail
      rw [HD.out]
      have e1 : IntKind.i64.wrap ((k : Int) / 8) = (k : Int) / 8 := IntWalk.i64_in _ (by omega)
      have e2 : (k : Int).tmod 8 = (k : Int) % 8 := Int.tmod_eq_emod_of_nonneg (by omega)
      have e3 : IntKind.i64.wrap (8 * ((k : Int) % 8)) = 8 * ((k : Int) % 8) := IntWalk.i64_in _ (by omega)
      have e4 : ((k : Int) / 8).toNat = k / 8 := by omega
      refine wp_region_still_tail 16 (by kernel_rfl) (by kernel_rfl) ?_
      simp only [List.take_succ_cons, List.take_zero, List.drop_succ_cons, List.drop_zero]
      repeat still_step
      refine wpStill_nil ?_
      have hsh := HSH.out
      have hst := (st.set 1 rfl (k / 8) (.int .u64 ((lw N (k / 8) ||| x.toNat * 2 ^ (8 * (k % 8)) : Nat) : Int))).drew
      have hS : (cw 4 N).set (k / 8) (.int .u64 ((lw N (k / 8) ||| x.toNat * 2 ^ (8 * (k % 8)) : Nat) : Int)) = cw 4 N' := by
        rw [cw, us_set, HSTEP.out, cw]
      rw [hS] at hst
      have HST := Lib.hid hst
      clear hst hS
      go_wp2
      go_roundw
      case rel => exact ⟨i + 1, by omega, by go_num, by rw [HN'.out]; exact HST.out⟩
      case measure => simp [intOf]; omega
    · have hge : ¬ ((i : Int) < (s.size : Int)) := by omega
      have hi2 : i = s.data.toList.length := by rw [HSZ.out]; omega
      rw [hi2, laid_all] at st
      clear hi2
      go_wp2_with (with_reducible refine wl_stop (o := ⟨some 33, _, _, _, _, _⟩) ?_)
      refine wl_loadS st 1 rfl rfl rfl Try.underlying24 rfl (by rw [cw_len]; exact size_n) ?_
      go_wp2_with (with_reducible refine wl_stop (o := ⟨none, _, _, _, _, _⟩) ?_)
      refine wl_storeS st 0 rfl rfl rfl rfl rfl (by rw [cw_len, cw_len]) (by rw [cw_len]; exact size_n) (cw_one _ _) ?_
      intro w9 st9
      clear st
      have hr := st9.at 0 rfl
      have hfr := st9.fr
      clear st9
      go_wp2
      exact bodyPost_ret (results_arr rfl rfl hr Try.underlying24 (by rw [cw_len]; exact size_n)) rfl ⟨rfl, hfr⟩
theorem size_mi : (Try.prog.info? 82).map (·.size) = some 4 := by kernel_rfl
set_option maxHeartbeats 2000000 in
set_option maxRecDepth 100000 in
theorem FromBytes_any (a : Option Addr) (n c : Nat) (l : List UInt8) (w : World) (hb : RdB w a n l) (hs : n ≤ 32) :
    Calls Try.prog 87 #[.slice a n c] w fun e w' => e = .returned (i4 (beN l)) ∧ Fr Nob w w' := by
  have HS := Lib.hid hs
  have hsz : l.length = n := hb.len
  have HBB := Lib.hid hb; clear hb
  have HSZ := Lib.hid hsz
  clear hs hsz
  have st0 := St.start Nob w
  go_enter Try.func87, Try.ntmps87
  go_wp2_with (with_reducible refine wl_stop (o := ⟨some 2, _, _, _, _, _⟩) ?_)
  refine wl_allocS st0 rfl rfl (z := .agg #[.int .u64 0, .int .u64 0, .int .u64 0, .int .u64 0]) (by kernel_rfl) (cw 4 0) (by rw [cw_zero]; rfl) ?_
  intro g2 w1 st1
  clear st0
  have hmx : n ≤ 32 := HS.out
  go_wp2
  go_loopw [8] (fun i wr => ∃ k : Nat, k ≤ n ∧ i = .int .i64 (k : Int) ∧ St Nob w wr [(g2, cw 4 (laid l k), 82)]) (fun i _ => n - (intOf i).toNat)
  case atStart => exact ⟨0, by omega, rfl, by rw [laid_zero]; exact st1⟩
  case round =>
    obtain ⟨i, hi, rfl, st⟩ := hrel
    clear st1
    by_cases hlt : i < n
    · have hltI : (i : Int) < (n : Int) := by omega
      have hll : i < l.length := by rw [HSZ.out]; exact hlt
      have hstep := of_step 4 (laid l i) (n - 1 - i) (l.getD i 0).toNat (UInt8.toNat_lt _) (by have := laid_mod l i hll; rwa [HSZ.out] at this) (by omega)
      have hsucc := laid_succ l i hll
      rw [HSZ.out] at hsucc
      rw [← hsucc] at hstep
      obtain ⟨gb, ob, rfl, hcx⟩ := (HBB.out.still st.fr).at (by omega)
      have hx := hcx i hlt
      clear hcx
      have hd1 : (n : Int) - 1 - (i : Int) = ((n - 1 - i : Nat) : Int) := by omega
      generalize hN' : laid l (i + 1) = N' at *
      have HN' := Lib.hid hN'; clear hN'
      generalize hN : laid l i = N at *
      generalize l.getD i 0 = x at *
      have hk32 : n - 1 - i < 32 := by omega
      generalize hk : n - 1 - i = k at *
      have HN := Lib.hid hN; clear hN
      have HK := Lib.hid hk; clear hk
      have HSTEP := Lib.hid hstep; clear hstep
      have HD := Lib.hid hd1; clear hd1 hsucc hll
      have c1 := (st.at 0 rfl).cell (cw_get 4 N (k / 8) (by omega))
      have f1 := (st.at 0 rfl).free (k / 8) (by rw [cw_len]; omega)
      have hlo : (0 : Int) ≤ (k : Int) / 8 ∧ (k : Int) / 8 < 4 := by omega
      have hor := bits_or_u64_nat (lw N (k / 8)) ((shl (wid x) (8 * (k % 8))).toNat) (lw_lt _ _) (u64_lt _)
      rw [wid_shl x (8 * (k % 8)) (by omega)] at hor
      simp only [Int.natCast_mul, Int.natCast_pow, Int.cast_ofNat_Int] at hor
      have HSH := Lib.hid (wid_shl x (8 * (k % 8)) (by omega))
      go_wp2_with fail
      rw [HD.out]
      have e1 : IntKind.i64.wrap ((k : Int) / 8) = (k : Int) / 8 := IntWalk.i64_in _ (by omega)
      have e2 : (k : Int).tmod 8 = (k : Int) % 8 := Int.tmod_eq_emod_of_nonneg (by omega)
      have e3 : IntKind.i64.wrap (8 * ((k : Int) % 8)) = 8 * ((k : Int) % 8) := IntWalk.i64_in _ (by omega)
      have e4 : ((k : Int) / 8).toNat = k / 8 := by omega
      refine wp_region_still_tail 12 (by kernel_rfl) (by kernel_rfl) ?_
      simp only [List.take_succ_cons, List.take_zero, List.drop_succ_cons, List.drop_zero]
      repeat still_step
      refine wpStill_nil ?_
      have hsh := HSH.out
      have hst := (st.set 0 rfl (k / 8) (.int .u64 ((lw N (k / 8) ||| x.toNat * 2 ^ (8 * (k % 8)) : Nat) : Int))).drew
      have hS : (cw 4 N).set (k / 8) (.int .u64 ((lw N (k / 8) ||| x.toNat * 2 ^ (8 * (k % 8)) : Nat) : Int)) = cw 4 N' := by
        rw [cw, us_set, HSTEP.out, cw]
      rw [hS] at hst
      have HST := Lib.hid hst
      clear hst hS
      go_wp2
      go_roundw
      case rel => exact ⟨i + 1, by omega, by go_num, by rw [HN'.out]; exact HST.out⟩
      case measure => simp [intOf]; omega
    · have hge : ¬ ((i : Int) < (n : Int)) := by omega
      have hi2 : i = l.length := by rw [HSZ.out]; omega
      rw [hi2, laid_all] at st
      clear hi2
      go_wp2_with (with_reducible refine wl_stop (o := ⟨some 31, _, _, _, _, _⟩) ?_)
      refine wl_loadS st 0 rfl rfl rfl Try.underlying82 rfl (by rw [cw_len]; exact size_mi) ?_
      go_wp2_with (with_reducible refine wl_stop (o := ⟨none, _, _, _, _, _⟩) ?_)
      refine wl_storeS st 0 rfl rfl rfl rfl rfl (by rw [cw_len]) (by rw [cw_len]; exact size_mi) (cw_one _ _) ?_
      intro w9 st9
      clear st
      have hr := st9.at 0 rfl
      have hfr := st9.fr
      clear st9
      go_wp2
      exact bodyPost_ret (results_arr rfl rfl hr Try.underlying82 (by rw [cw_len]; exact size_mi)) rfl ⟨rfl, hfr⟩
end Go.Proofs.Ytdbgddngapminaa

/- mintvaultref1.Lent: the bytes of a text, at the front of a longer list. -/
namespace Go.Proofs.Ytdbgddngapminaa
open Go.RowKit Go.Mv Mvp

theorem info_u8 : (Try.prog.info? 5).map (fun i => (i.zero, i.size, i.bytes)) = some (some (.int .u8 0), 1, 1) := by kernel_rfl
end Go.Proofs.Ytdbgddngapminaa

/- mont's and the reference's Bytes; Bit. -/
namespace Go.Proofs.Ytdbgddngapminaa
open Go.RowKit Go.Mv Mvp
theorem ret_intN {k : IntKind} {a b : Int} (h : a = b) : Ending.returned (.int k a) = .returned (.int k b) := by rw [h]
attribute [local irreducible] limbs lw mix cw cSub cAdd cMul foldC valFrom beN laid be32
set_option maxHeartbeats 2000000 in
set_option maxRecDepth 100000 in
theorem MBytes_any (N : Nat) (w : World) :
    Calls Try.prog 107 #[i4 N] w fun e w' => ∃ v, e = .returned v ∧ Own w' w.heap.size 5 1 v 32 (bs (be32 N)) ∧ Fr Nob w w' := by
  have st0 := St.start Nob w
  go_enter Try.func107, Try.ntmps107
  go_wp2_with (with_reducible refine wl_stop (o := ⟨some 1, _, _, _, _, _⟩) ?_)
  refine wl_boxS st0 rfl rfl rfl (cw 4 N) rfl ?_
  intro g1 w1 st1
  clear st0
  go_wp2_with (with_reducible refine wl_stop (o := ⟨some 6, _, _, _, _, _⟩) ?_)
  refine wl_make rfl rfl Try.underlying34 info_u8 rfl rfl rfl 32 32 (by simp) (by simp) (by omega) (by omega) (by unfold maxLen; omega) ?_
  intro w2 hg2 hf2 hz2
  clear hz2
  have hb2 : w.heap.size ≤ w1.heap.size := st1.fr.size
  have st2 := st1.new hf2 hg2 (Nat.le_refl _)
  clear st1 hg2 hf2
  generalize w1.heap.size = gb at *
  have HBB := Lib.hid hb2; clear hb2
  go_wp2
  go_loopw [9] (fun i wr => ∃ k : Nat, k ≤ 32 ∧ i = .int .i64 (k : Int) ∧ St Nob w wr [(g1, cw 4 N, 82), (gb, bs (fill (be32 N) (List.replicate 32 0) k), 5)]) (fun i _ => 32 - (intOf i).toNat)
  case atStart => exact ⟨0, by omega, rfl, st2⟩
  case round =>
    obtain ⟨i, hi, rfl, st⟩ := hrel
    clear st2
    by_cases hlt : i < 32
    · have hltI : (i : Int) < 32 := by omega
      have hd1 : (31 : Int) - (i : Int) = ((31 - i : Nat) : Int) := by omega
      have hgl := be32_get N i hlt
      have hgb := byte_of N (31 - i)
      have hk32 : 31 - i < 32 := by omega
      generalize hk : 31 - i = k at *
      have HK := Lib.hid hk; clear hk
      have HGL := Lib.hid hgl; clear hgl
      have HGB := Lib.hid hgb; clear hgb
      have c1 := (st.at 0 rfl).cell (cw_get 4 N (k / 8) (by omega))
      obtain ⟨v3, c3, f3⟩ := (st.at 1 rfl).ready (i := i) (by rw [length_bs, fill_length _ _ _ (by rw [be32_len]; simp)]; simpa using hlt)
      have hlo : (0 : Int) ≤ (k : Int) / 8 ∧ (k : Int) / 8 < 4 := by omega
      have e4 : ((k : Int) / 8).toNat = k / 8 := by omega
      go_wp2
      go_roundw
      case rel =>
        have h1 := st.set 1 rfl i (.int .u8 (((be32 N).getD i 0).toNat : Int))
        rw [bs_set, fill_set _ _ _ (by rw [be32_len]; simp) (by rw [be32_len]; omega)] at h1
        have e : (((be32 N).getD i 0).toNat : Int) = (lw N (k / 8) : Int) / 2 ^ (8 * (k % 8)) % 256 := by
          rw [HGL.out, UInt8.toNat_ofNat']
          have := HGB.out
          rw [show (2 : Nat) ^ 8 = 256 from rfl, ← this]
          simp
        rw [e] at h1
        exact ⟨i + 1, by omega, by go_num, h1⟩
      case measure => simp [intOf]; omega
    · have hge : ¬ ((i : Int) < 32) := by omega
      have hi32 : i = 32 := by omega
      have hown : Own wr w.heap.size 5 1 (.slice (some ⟨gb, 0, none⟩) 32 32) 32 (bs (be32 N)) := by
        have h := st.at 1 rfl
        rw [hi32, fill_all _ _ _ (by rw [be32_len]; simp) (by rw [be32_len]; exact Nat.le_refl _)] at h
        have := Own.made h w.heap.size HBB.out 1 32 32 (Nat.le_refl _) (by unfold maxLen; omega) (by rw [length_bs, be32_len]; omega)
        rwa [List.take_of_length_le (by rw [length_bs, be32_len]; exact Nat.le_refl _)] at this
      have hfr := st.fr
      clear st hi32
      go_wp2
      go_ret
      exact ⟨_, rfl, hown, hfr⟩
set_option maxHeartbeats 2000000 in
set_option maxRecDepth 100000 in
theorem RBit_any (N i : Nat) (w : World) (hi : i < 256) :
    Calls Try.prog 60 #[i4 N, .int .i64 (i : Int)] w fun e w' => e = .returned (.int .u64 ((N / 2 ^ i % 2 : Nat) : Int)) ∧ Fr Nob w w' := by
  have hb := bit_of N i
  have HB := Lib.hid hb; clear hb
  have st0 := St.start Nob w
  go_enter Try.func60, Try.ntmps60
  go_wp2_with (with_reducible refine wl_stop (o := ⟨some 2, _, _, _, _, _⟩) ?_)
  refine wl_boxS st0 rfl rfl rfl (cw 4 N) rfl ?_
  intro g1 w1 st1
  clear st0
  have c1 := (st1.at 0 rfl).cell (cw_get 4 N (i / 64) (by omega))
  have hlo : (0 : Int) ≤ (i : Int) / 64 ∧ (i : Int) / 64 < 4 := by omega
  have hlo2 : (0 : Int) ≤ (i : Int) % 64 ∧ (i : Int) % 64 < 64 := by omega
  have e4 : ((i : Int) / 64).toNat = i / 64 := by omega
  have e5 : ((i : Int) % 64).toNat = i % 64 := by omega
  have hfr := st1.fr
  clear st1
  have hw : lw N (i / 64) / 2 ^ (i % 64) < 18446744073709551616 := Nat.lt_of_le_of_lt (Nat.div_le_self _ _) (lw_lt _ _)
  have ha := bits_and_u64_nat (lw N (i / 64) / 2 ^ (i % 64)) 1 hw (by omega)
  rw [Nat.and_one_is_mod] at ha
  simp only [Int.natCast_ediv, Int.natCast_pow, Int.cast_ofNat_Int, Int.natCast_one] at ha
  go_wp2
  go_ret
  refine ⟨ret_intN ?_, hfr⟩
  rw [← HB.out]
  simp

set_option maxHeartbeats 2000000 in
set_option maxRecDepth 100000 in
theorem MBit_any (N i : Nat) (w : World) (hi : i < 256) :
    Calls Try.prog 126 #[i4 N, .int .i64 (i : Int)] w fun e w' => e = .returned (.int .u64 ((N / 2 ^ i % 2 : Nat) : Int)) ∧ Fr Nob w w' := by
  have hb := bit_of N i
  have HB := Lib.hid hb; clear hb
  have st0 := St.start Nob w
  go_enter Try.func126, Try.ntmps126
  go_wp2_with (with_reducible refine wl_stop (o := ⟨some 2, _, _, _, _, _⟩) ?_)
  refine wl_boxS st0 rfl rfl rfl (cw 4 N) rfl ?_
  intro g1 w1 st1
  clear st0
  have c1 := (st1.at 0 rfl).cell (cw_get 4 N (i / 64) (by omega))
  have hlo : (0 : Int) ≤ (i : Int) / 64 ∧ (i : Int) / 64 < 4 := by omega
  have hlo2 : (0 : Int) ≤ (i : Int) % 64 ∧ (i : Int) % 64 < 64 := by omega
  have e4 : ((i : Int) / 64).toNat = i / 64 := by omega
  have e5 : ((i : Int) % 64).toNat = i % 64 := by omega
  have hfr := st1.fr
  clear st1
  have hw : lw N (i / 64) / 2 ^ (i % 64) < 18446744073709551616 := Nat.lt_of_le_of_lt (Nat.div_le_self _ _) (lw_lt _ _)
  have ha := bits_and_u64_nat (lw N (i / 64) / 2 ^ (i % 64)) 1 hw (by omega)
  rw [Nat.and_one_is_mod] at ha
  simp only [Int.natCast_ediv, Int.natCast_pow, Int.cast_ofNat_Int, Int.natCast_one] at ha
  go_wp2
  go_ret
  refine ⟨ret_intN ?_, hfr⟩
  rw [← HB.out]
  simp
end Go.Proofs.Ytdbgddngapminaa

/- The reference's Pow, Inv, Number, Mod. -/
namespace Go.Proofs.Ytdbgddngapminaa
open Go.RowKit Go.Mv Mvp
attribute [local irreducible] limbs lw mix cw cSub cAdd cMul foldC valFrom beN laid be32 powm
theorem powm_lt (a n p i : Nat) (hp : 0 < p) : powm a n p i < p := by unfold powm; exact Nat.mod_lt _ hp

set_option maxHeartbeats 4000000 in
set_option maxRecDepth 100000 in
theorem Pow_any (p a n : Nat) (w : World) (hp1 : 1 < p) (hp : p < B64 ^ 4) (ha : a < B64 ^ 4) (hn : n < B64 ^ 4) :
    Calls Try.prog 101 #[fv p, i4 a, i4 n] w fun e w' => e = .returned (i4 (a ^ n % p)) ∧ Fr Nob w w' := by
  have HP1 := Lib.hid hp1
  have HP := Lib.hid hp
  have HA := Lib.hid ha
  have HN := Lib.hid hn
  have HP0 := Lib.hid (show 0 < p by omega)
  have H1 := Lib.hid (show (1 : Nat) = powm a n p 256 from (powm_top a n p hp1 hn).symm)
  clear hp1 hp ha hn
  have st0 := St.start Nob w
  go_enter Try.func101, Try.ntmps101
  go_wp2_with (with_reducible refine wl_stop (o := ⟨some 3, _, _, _, _, _⟩) ?_)
  refine wl_boxS st0 rfl rfl rfl (cw 4 p ++ cw 4 (B64 ^ 4 - p)) rfl ?_
  intro g3 w1 st1
  clear st0
  go_wp2_with (with_reducible refine wl_stop (o := ⟨some 4, _, _, _, _, _⟩) ?_)
  refine wl_boxS st1 rfl rfl rfl (cw 4 a) rfl ?_
  intro g4 w2 st2
  clear st1
  go_wp2_with (with_reducible refine wl_stop (o := ⟨some 5, _, _, _, _, _⟩) ?_)
  refine wl_boxS st2 rfl rfl rfl (cw 4 n) rfl ?_
  intro g5 w3 st3
  clear st2
  go_wp2_with (with_reducible refine wl_stop (o := ⟨some 6, _, _, _, _, _⟩) ?_)
  refine wl_allocS st3 rfl rfl (z := .agg #[.int .u64 0, .int .u64 0, .int .u64 0, .int .u64 0]) (by kernel_rfl) (cw 4 0) (by rw [cw_zero]; rfl) ?_
  intro g6 w4 st4
  clear st3
  go_wp2_with fail
  refine (Small_any 1 _ (by decide)).mono ?_
  rintro e' w5 ⟨rfl, hf5⟩
  have st5 := st4.keep hf5
  clear st4 hf5
  go_wp2_with (with_reducible refine wl_stop (o := ⟨some 7, _, _, _, _, _⟩) ?_)
  refine wl_allocS st5 rfl rfl (z := .agg #[.int .u64 0, .int .u64 0, .int .u64 0, .int .u64 0]) (by kernel_rfl) (cw 4 0) (by rw [cw_zero]; rfl) ?_
  intro g7 w6 st6
  clear st5
  go_wp2_with (with_reducible refine wl_stop (o := ⟨none, _, _, _, _, _⟩) ?_)
  refine wl_storeS st6 4 rfl rfl rfl rfl rfl (by first | (simp only [cw_len]; done) | (simp only [List.length_append, cw_len]; done)) (by first | (rw [cw_len]; kernel_rfl) | (simp only [List.length_append, cw_len]; kernel_rfl)) (cw_one _ _) ?_
  intro w7 st7
  clear st6
  rw [show (1 : Nat) = powm a n p 256 from H1.out] at st7
  go_wp2
  go_loopw [8] (fun i wr => ∃ j : Nat, j ≤ 256 ∧ i = .int .i64 ((j : Int) - 1) ∧ St Nob w wr [(g3, cw 4 p ++ cw 4 (B64 ^ 4 - p), 31), (g4, cw 4 a, 24), (g5, cw 4 n, 24), (g6, cw 4 0, 24), (g7, cw 4 (powm a n p j), 24)]) (fun i _ => (intOf i + 1).toNat)
  case atStart => exact ⟨256, by omega, rfl, st7⟩
  case round =>
    obtain ⟨j, hj, rfl, st⟩ := hrel
    clear st7
    cases j with
    | succ i =>
      rw [show (((i + 1 : Nat) : Int)) - 1 = (i : Int) by omega]
      have hge : (0 : Int) ≤ (i : Int) := by omega
      have hlt := powm_lt a n p (i + 1) HP0.out
      have HLT := Lib.hid (Nat.lt_trans hlt HP.out)
      clear hlt
      go_wp2_with (with_reducible refine wl_stop (o := ⟨some 14, _, _, _, _, _⟩) ?_)
      refine wl_loadSt st 0 rfl rfl rfl Try.underlying31 rfl rfl (by first | (rw [cw_len]; kernel_rfl) | (simp only [List.length_append, cw_len]; kernel_rfl)) ?_
      go_wp2_with (with_reducible refine wl_stop (o := ⟨some 15, _, _, _, _, _⟩) ?_)
      refine wl_loadS st 4 rfl rfl rfl Try.underlying24 rfl (by first | (rw [cw_len]; kernel_rfl) | (simp only [List.length_append, cw_len]; kernel_rfl)) ?_
      go_wp2_with (with_reducible refine wl_stop (o := ⟨some 16, _, _, _, _, _⟩) ?_)
      refine wl_loadS st 4 rfl rfl rfl Try.underlying24 rfl (by first | (rw [cw_len]; kernel_rfl) | (simp only [List.length_append, cw_len]; kernel_rfl)) ?_
      go_wp2_with fail
      refine (Mul_any p (powm a n p (i + 1)) (powm a n p (i + 1)) _ HP0.out HP.out HLT.out HLT.out).mono ?_
      rintro e' w8 ⟨rfl, hf8⟩
      have st8 := st.keep hf8
      clear st hf8
      go_wp2_with (with_reducible refine wl_stop (o := ⟨none, _, _, _, _, _⟩) ?_)
      refine wl_storeS st8 4 rfl rfl rfl rfl rfl (by first | (simp only [cw_len]; done) | (simp only [List.length_append, cw_len]; done)) (by first | (rw [cw_len]; kernel_rfl) | (simp only [List.length_append, cw_len]; kernel_rfl)) (cw_one _ _) ?_
      intro w9 st9
      clear st8
      go_wp2_with (with_reducible refine wl_stop (o := ⟨some 18, _, _, _, _, _⟩) ?_)
      refine wl_loadS st9 2 rfl rfl rfl Try.underlying24 rfl (by first | (rw [cw_len]; kernel_rfl) | (simp only [List.length_append, cw_len]; kernel_rfl)) ?_
      go_wp2_with fail
      refine (RBit_any n i _ (by omega)).mono ?_
      rintro e' w10 ⟨rfl, hf10⟩
      have st10 := st9.keep hf10
      clear st9 hf10
      have hbt : n / 2 ^ i % 2 = 0 ∨ n / 2 ^ i % 2 = 1 := by omega
      have HS0 := Lib.hid (powm_step0 a n p i)
      have HS1 := Lib.hid (powm_step1 a n p i)
      generalize hbb : n / 2 ^ i % 2 = bt at *
      have HBB := Lib.hid hbb
      clear hbb
      rcases hbt with rfl | rfl
      · have hst := st10
        rw [HS0.out (by first | rfl | trivial)] at hst
        clear st10
        go_wp2
        go_roundw
        case rel => exact ⟨i, by omega, rfl, hst⟩
        case measure => simp [intOf]
      · have HLQ := Lib.hid (show (powm a n p (i + 1) * powm a n p (i + 1) % p) < B64 ^ 4 from Nat.lt_trans (Nat.mod_lt _ HP0.out) HP.out)
        go_wp2_with (with_reducible refine wl_stop (o := ⟨some 22, _, _, _, _, _⟩) ?_)
        refine wl_loadSt st10 0 rfl rfl rfl Try.underlying31 rfl rfl (by first | (rw [cw_len]; kernel_rfl) | (simp only [List.length_append, cw_len]; kernel_rfl)) ?_
        go_wp2_with (with_reducible refine wl_stop (o := ⟨some 23, _, _, _, _, _⟩) ?_)
        refine wl_loadS st10 4 rfl rfl rfl Try.underlying24 rfl (by first | (rw [cw_len]; kernel_rfl) | (simp only [List.length_append, cw_len]; kernel_rfl)) ?_
        go_wp2_with (with_reducible refine wl_stop (o := ⟨some 24, _, _, _, _, _⟩) ?_)
        refine wl_loadS st10 1 rfl rfl rfl Try.underlying24 rfl (by first | (rw [cw_len]; kernel_rfl) | (simp only [List.length_append, cw_len]; kernel_rfl)) ?_
        go_wp2_with fail
        refine (Mul_any p (powm a n p (i + 1) * powm a n p (i + 1) % p) a _ HP0.out HP.out HLQ.out HA.out).mono ?_
        rintro e' w11 ⟨rfl, hf11⟩
        have st11 := st10.keep hf11
        clear st10 hf11
        go_wp2_with (with_reducible refine wl_stop (o := ⟨none, _, _, _, _, _⟩) ?_)
        refine wl_storeS st11 4 rfl rfl rfl rfl rfl (by first | (simp only [cw_len]; done) | (simp only [List.length_append, cw_len]; done)) (by first | (rw [cw_len]; kernel_rfl) | (simp only [List.length_append, cw_len]; kernel_rfl)) (cw_one _ _) ?_
        intro w12 st12
        clear st11
        have hst := st12
        rw [HS1.out (by first | rfl | trivial)] at hst
        clear st12
        go_wp2
        go_roundw
        case rel => exact ⟨i, by omega, rfl, hst⟩
        case measure => simp [intOf]
    | zero =>
      rw [show (((0 : Nat) : Int)) - 1 = -1 by omega]
      go_wp2_with (with_reducible refine wl_stop (o := ⟨some 26, _, _, _, _, _⟩) ?_)
      refine wl_loadS st 4 rfl rfl rfl Try.underlying24 rfl (by first | (rw [cw_len]; kernel_rfl) | (simp only [List.length_append, cw_len]; kernel_rfl)) ?_
      go_wp2_with (with_reducible refine wl_stop (o := ⟨none, _, _, _, _, _⟩) ?_)
      refine wl_storeS st 3 rfl rfl rfl rfl rfl (by first | (simp only [cw_len]; done) | (simp only [List.length_append, cw_len]; done)) (by first | (rw [cw_len]; kernel_rfl) | (simp only [List.length_append, cw_len]; kernel_rfl)) (cw_one _ _) ?_
      intro w8 st8
      clear st
      have hr := st8.at 3 rfl
      have hfr := st8.fr
      clear st8
      go_wp2_with fail
      exact bodyPost_ret (results_arr rfl rfl hr Try.underlying24 (by first | (rw [cw_len]; kernel_rfl) | (simp only [List.length_append, cw_len]; kernel_rfl))) rfl ⟨by rw [powm_all]; rfl, hfr⟩

end Go.Proofs.Ytdbgddngapminaa

/- The reference's Number, Mod, Make. -/
namespace Go.Proofs.Ytdbgddngapminaa
open Go.RowKit Go.Mv Mvp
attribute [local irreducible] limbs lw mix cw cSub cAdd cMul foldC valFrom beN laid be32 powm
set_option maxHeartbeats 4000000 in
set_option maxRecDepth 100000 in
theorem Number_bad (p : Nat) (s : ByteArray) (w : World) (hs : s.size ≠ 32) :
    Calls Try.prog 11 #[fv p, .string s] w fun e w' => e = .returned (.tuple #[i4 0, .bool false]) ∧ Fr Nob w w' := by
  have HS := Lib.hid hs
  have HZ := Lib.hid (small_words 0 (by decide))
  clear hs
  have st0 := St.start Nob w
  go_enter Try.func11, Try.ntmps11
  go_wp2_with (with_reducible refine wl_stop (o := ⟨some 2, _, _, _, _, _⟩) ?_)
  refine wl_boxS st0 rfl rfl rfl (cw 4 p ++ cw 4 (B64 ^ 4 - p)) rfl ?_
  intro g2 w1 st1
  clear st0
  go_wp2_with (with_reducible refine wl_stop (o := ⟨some 4, _, _, _, _, _⟩) ?_)
  refine wl_allocS st1 rfl rfl (z := .agg #[.int .u64 0, .int .u64 0, .int .u64 0, .int .u64 0]) (by kernel_rfl) (cw 4 0) (by rw [cw_zero]; rfl) ?_
  intro g4 w2 st2
  clear st1
  have hne : ((s.size : Int) != 32) = true := by have := HS.out; simp; omega
  go_wp2_with (with_reducible refine wl_stop (o := ⟨none, _, _, _, _, _⟩) ?_)
  refine wl_storeS st2 1 rfl rfl rfl rfl (cs := cw 4 0) HZ.out (by simp only [cw_len]) (by simp only [cw_len]; kernel_rfl) (cw_one _ _) ?_
  intro w9 st9
  clear st2
  have hr := st9.at 1 rfl
  have hfr := st9.fr
  clear st9
  go_wp2_with fail
  exact bodyPost_ret (results_arr2 rfl rfl hr Try.underlying24 (by first | (rw [cw_len]; kernel_rfl) | (simp only [List.length_append, cw_len]; kernel_rfl)) rfl) rfl ⟨rfl, hfr⟩

set_option maxHeartbeats 4000000 in
set_option maxRecDepth 100000 in
theorem Number_ok (p : Nat) (s : ByteArray) (w : World) (hs : s.size = 32) (hp : p < B64 ^ 4) :
    Calls Try.prog 11 #[fv p, .string s] w fun e w' => e = .returned (.tuple #[i4 (beN s.data.toList), .bool (decide (beN s.data.toList < p))]) ∧ Fr Nob w w' := by
  have HS := Lib.hid hs
  have HP := Lib.hid hp
  have HN := Lib.hid (beN_lt32 s hs)
  clear hs hp
  have st0 := St.start Nob w
  go_enter Try.func11, Try.ntmps11
  go_wp2_with (with_reducible refine wl_stop (o := ⟨some 2, _, _, _, _, _⟩) ?_)
  refine wl_boxS st0 rfl rfl rfl (cw 4 p ++ cw 4 (B64 ^ 4 - p)) rfl ?_
  intro g2 w1 st1
  clear st0
  go_wp2_with (with_reducible refine wl_stop (o := ⟨some 4, _, _, _, _, _⟩) ?_)
  refine wl_allocS st1 rfl rfl (z := .agg #[.int .u64 0, .int .u64 0, .int .u64 0, .int .u64 0]) (by kernel_rfl) (cw 4 0) (by rw [cw_zero]; rfl) ?_
  intro g4 w2 st2
  clear st1
  have hne : ((s.size : Int) != 32) = false := by have := HS.out; simp; omega
  go_wp2_with fail
  refine (Of_any s _ (by have := HS.out; omega)).mono ?_
  rintro e' w3 ⟨rfl, hf3⟩
  have st3 := st2.keep hf3
  clear st2 hf3
  go_wp2_with (with_reducible refine wl_stop (o := ⟨some 6, _, _, _, _, _⟩) ?_)
  refine wl_allocS st3 rfl rfl (z := .agg #[.int .u64 0, .int .u64 0, .int .u64 0, .int .u64 0]) (by kernel_rfl) (cw 4 0) (by rw [cw_zero]; rfl) ?_
  intro g6 w4 st4
  clear st3
  go_wp2_with (with_reducible refine wl_stop (o := ⟨none, _, _, _, _, _⟩) ?_)
  refine wl_storeS st4 2 rfl rfl rfl rfl rfl (by first | (simp only [cw_len]; done) | (simp only [List.length_append, cw_len]; done)) (by first | (rw [cw_len]; kernel_rfl) | (simp only [List.length_append, cw_len]; kernel_rfl)) (cw_one _ _) ?_
  intro w5 st5
  clear st4
  go_wp2_with (with_reducible refine wl_stop (o := ⟨some 14, _, _, _, _, _⟩) ?_)
  refine wl_loadS st5 2 rfl rfl rfl Try.underlying24 rfl (by first | (rw [cw_len]; kernel_rfl) | (simp only [List.length_append, cw_len]; kernel_rfl)) ?_
  go_wp2_with (with_reducible refine wl_stop (o := ⟨some 16, _, _, _, _, _⟩) ?_)
  refine wl_loadA rfl rfl Try.underlying24 rfl (st5.at 0 rfl) (cw 4 p) (cw_left 4 4 _ _) (by first | (rw [cw_len]; kernel_rfl) | (simp only [List.length_append, cw_len]; kernel_rfl)) ?_
  go_wp2_with fail
  refine (Below_any (beN s.data.toList) p _ HN.out HP.out).mono ?_
  rintro e' w6 ⟨rfl, hf6⟩
  have st6 := st5.keep hf6
  clear st5 hf6
  go_wp2_with (with_reducible refine wl_stop (o := ⟨some 18, _, _, _, _, _⟩) ?_)
  refine wl_loadS st6 2 rfl rfl rfl Try.underlying24 rfl (by first | (rw [cw_len]; kernel_rfl) | (simp only [List.length_append, cw_len]; kernel_rfl)) ?_
  go_wp2_with (with_reducible refine wl_stop (o := ⟨none, _, _, _, _, _⟩) ?_)
  refine wl_storeS st6 1 rfl rfl rfl rfl rfl (by first | (simp only [cw_len]; done) | (simp only [List.length_append, cw_len]; done)) (by first | (rw [cw_len]; kernel_rfl) | (simp only [List.length_append, cw_len]; kernel_rfl)) (cw_one _ _) ?_
  intro w7 st7
  clear st6
  have hr := st7.at 1 rfl
  have hfr := st7.fr
  clear st7
  go_wp2_with fail
  exact bodyPost_ret (results_arr2 rfl rfl hr Try.underlying24 (by first | (rw [cw_len]; kernel_rfl) | (simp only [List.length_append, cw_len]; kernel_rfl)) rfl) rfl ⟨rfl, hfr⟩

end Go.Proofs.Ytdbgddngapminaa
