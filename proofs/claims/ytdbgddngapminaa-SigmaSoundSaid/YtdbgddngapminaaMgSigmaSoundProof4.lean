/- append onto an owned slice, once more: what lay ahead of the new cells is kept, in the old block too; An empty slice literal; num.read: lists of numbers; num.reckon, over an operation's contract; num: Add, Sub, Mul, Inv; Arrays of words compared; a number shifted down; bits laid one by one; mont.Int.shift by two bits; mont: Sqrt; num.Sqrt's operation; A field's laws, plainly: inverses, roots of squares; Points and their bytes, plain; The curve has as many points as the second prime tells: each point, so many times, is nothing. (What lies beside the base's multiples would make three times as many points, and there are at most two for each first coordinate.); zn: scalars: order, Of, the methods, Wide, Small; zn: Zero, Small, Bytes; scalars compared; zn.All; sigma.Extract; mintvaultref1.Still: is a list all as it was lent?; The law NumReduces; num.Add, Sub, Mul, Inv: what they answer; The law NumReckons; sigma.Extract; the reference's Scalar, Q, Extract; SigmaSound, plain: bytes that are a point are written so; two answers to two challenges give the secret; num.Sqrt: what it answers. -/
import Derived.Test.YtdbgddngapminaaMgSigmaSoundProof1
import Derived.Test.YtdbgddngapminaaMgSigmaSoundProof3
import Derived.ChangeKeysEq
import Derived.StillTailTactics
import Derived.Test.YtdbgddngapminaaMgSigmaSoundProof2
namespace Go.Mv
open Go.RowKit
variable {P : Program}

/-- all cells of old blocks are as they were, but those of v's block behind its n elements -/
def Kept (v : Value) (n sz : Nat) (w w' : World) : Prop :=
  ∀ b i, b < w.heap.size → (∀ o cap, v = .slice (some ⟨b, o, none⟩) n cap → i < o + n * sz) → w'.cell? ⟨b, i, none⟩ = w.cell? ⟨b, i, none⟩

theorem Kept.refl (v : Value) (n sz : Nat) (w : World) : Kept v n sz w w := fun _ _ _ _ => rfl
theorem Kept.rd {v : Value} {n sz : Nat} {w w' : World} (h : Kept v n sz w w') {a : Option Addr} {m : Nat} {L : List Value} (hr : Rd w a m L) (ha : ∀ b o o' cap, a = some ⟨b, o, none⟩ → v = .slice (some ⟨b, o', none⟩) n cap → o + m ≤ o' + n * sz) : Rd w' a m L := by
  refine ⟨hr.1, hr.2.imp id ?_⟩
  rintro ⟨b, o, rfl, hat⟩
  refine ⟨b, o, rfl, fun i u hu => ?_⟩
  have hc := hat i u hu
  have hi : i < m := by
    rcases Nat.lt_or_ge i m with k | k
    · exact k
    · rw [List.getElem?_eq_none (by rw [hr.1]; exact k)] at hu; cases hu
  rw [h b (o + i) (block_lt_of_cell hc) (fun o' cap hv => by have := ha b o o' cap rfl hv; omega)]
  exact hc

section
variable {w : World} {ops : Array Oper} {rest : List Oper} {o : Oper} {a : Act} {Q : Exit → Act → World → Prop}
end
end Go.Mv
namespace Go.Mv
open Go.RowKit
section
variable {P : Program} {w : World} {ops : Array Oper} {o : Oper} {a : Act} {K : Act → World → Prop} {Q : Exit → Act → World → Prop} {E : Prop}
end
end Go.Mv

/- An empty slice literal. -/
namespace Go.Mv
open Go.RowKit
variable {P : Program}
end Go.Mv
namespace Go.Mv
open Go.RowKit
variable {P : Program}
/-- n rows in a row: a slice literal of structs -/
theorem wl_slitR {w : World} {ops : Array Oper} {rest : List Oper} {o : Oper} {a : Act} {Q : Exit → Act → World → Prop} {t e : TypeId} {k : Nat} {parts : Array (Nat × Operand)} (hgd : o.guard = none) (ho : o.op = .buildSlice t k parts)
    (hu : P.underlying t = some (.slice e)) {z : Value} {sz by_ : Nat} (hi0 : (P.info? e).map (fun i => (i.zero, i.size, i.bytes)) = some (some z, sz, by_)) (vs : List Value) (hp : (parts.toList.map fun p => (p.1, a.eval p.2)) = (vs.zipIdx 0).map fun x => (x.2, x.1))
    (hv : ∀ v ∈ vs, v.cells.size = sz) (hk : vs.length = k) (L : List Value) (hL : (vs.flatMap fun v => v.cells.toList) = L)
    (h : ∀ w', Has w' w.heap.size L e → Fr Nob w w' → w'.heap.size = w.heap.size + 1 → wpList P ops Q rest (a.put o.dst (.slice (some ⟨w.heap.size, 0, none⟩) k k)) w') (hk0 : 0 < k * sz := by decide) (hk24 : k * sz ≤ 16777216 := by decide) : wpList P ops Q (o :: rest) a w := by
  obtain ⟨i, hi, hz0⟩ : ∃ i, P.info? e = some i ∧ (i.zero, i.size, i.bytes) = (some z, sz, by_) := by simpa using hi0
  simp only [Prod.mk.injEq] at hz0
  obtain ⟨hz1, hsz, hby⟩ := hz0
  have hs0 : 0 < sz := Nat.pos_of_mul_pos_left hk0
  have hf : Instr.fill (fun j => some (j * i.size, i.size)) ((Array.range (k * i.size)).map (z.cells[· % z.cells.size]!)) (parts.map fun (i, x) => (i, a.eval x)).toList = some L.toArray := by
    rw [show (parts.map fun (i, x) => (i, a.eval x)).toList = (parts.toList.map fun p => (p.1, a.eval p.2)) by simp, hp, hsz, ← hL]
    exact Great.fill_whole hs0 vs _ hv (by simp [hk])
  exact wpList_buildSlice hgd t e k _ ho _ i _ hu hi hz1 (by rw [hsz]; omega) (by rw [hsz]; omega) hf (h _ (Has.new w L.toArray e) ((Fr.refl _ w).alloc _) (by simp))
end Go.Mv
namespace Go.Mv
open Go.RowKit
variable {P : Program}
end Go.Mv

/- num.read: lists of numbers. -/
namespace Go.Mv
open Go.RowKit Mvp
/-- a slice of bytes, and what it reads as -/
def BPart (w : World) (v : Value) (l : List UInt8) : Prop := ∃ a n c, v = .slice a n c ∧ n ≤ c ∧ RdB w a n l
def BParts (w : World) (vs : List Value) (ls : List (List UInt8)) : Prop := vs.length = ls.length ∧ ∀ i v, vs[i]? = some v → BPart w v (ls.getD i [])
theorem BPart.still {w w' : World} {v : Value} {l : List UInt8} (h : BPart w v l) (hf : Fr Nob w w') : BPart w' v l := by
  obtain ⟨a, n, c, e, hc, hr⟩ := h
  exact ⟨a, n, c, e, hc, hr.still hf⟩
theorem BPart.one {w : World} {v : Value} {l : List UInt8} (h : BPart w v l) : v.cells = #[v] := by
  obtain ⟨a, n, c, rfl, -, -⟩ := h
  rfl
theorem BParts.still {w w' : World} {vs : List Value} {ls : List (List UInt8)} (h : BParts w vs ls) (hf : Fr Nob w w') : BParts w' vs ls := ⟨h.1, fun i v hv => (h.2 i v hv).still hf⟩
theorem BParts.one {w : World} {v : Value} {l : List UInt8} (h : BPart w v l) : BParts w [v] [l] := ⟨rfl, fun i u hu => by
  cases i with
  | zero => simp at hu; subst hu; exact h
  | succ i => simp at hu⟩
theorem BParts.two {w : World} {v u : Value} {l k : List UInt8} (h : BPart w v l) (h2 : BPart w u k) : BParts w [v, u] [l, k] := ⟨rfl, fun i x hx => by
  match i with
  | 0 => simp at hx; subst hx; exact h
  | 1 => simp at hx; subst hx; exact h2
  | i + 2 => simp at hx⟩
end Go.Mv
namespace Mvp
/-- is it a number of the modulus? -/
def numB (m : Md) (l : List UInt8) : Bool := decide (l.length = 32) && decide (beN l < m.M)
def numsB (m : Md) (ls : List (List UInt8)) : Bool := ls.all (numB m)
/-- the elements of a list of numbers, as cells -/
def elCells (m : Md) (ls : List (List UInt8)) : List Go.Value := ls.flatMap fun l => Go.Mv.cw 4 (elN m (beN l))
theorem elCells_snoc (m : Md) (ls : List (List UInt8)) (l : List UInt8) : elCells m (ls ++ [l]) = elCells m ls ++ Go.Mv.cw 4 (elN m (beN l)) := by
  simp [elCells]
theorem elCells_at (m : Md) (ls : List (List UInt8)) (i : Nat) (h : i < ls.length) : ((elCells m ls).drop (i * 4)).take 4 = Go.Mv.cw 4 (elN m (beN (ls.getD i []))) := by
  induction ls generalizing i with
  | nil => simp at h
  | cons l ls ih =>
    rw [elCells, List.flatMap_cons, ← elCells]
    cases i with
    | zero =>
      rw [Nat.zero_mul, List.drop_zero, List.take_append_of_le_length (by rw [Go.Mv.cw_len]; exact Nat.le_refl _), List.take_of_length_le (by rw [Go.Mv.cw_len]; exact Nat.le_refl _)]
      rfl
    | succ i =>
      rw [List.drop_append, Go.Mv.cw_len, List.drop_of_length_le (by rw [Go.Mv.cw_len]; omega), List.nil_append, show (i + 1) * 4 - 4 = i * 4 by omega, ih i (by simpa using h)]
      rfl
theorem numsB_take (m : Md) (ls : List (List UInt8)) (k : Nat) (h : k < ls.length) : numsB m (ls.take (k + 1)) = (numsB m (ls.take k) && numB m (ls.getD k [])) := by
  rw [List.take_succ_eq_append_getElem h, numsB, List.all_append, ← numsB]
  simp [List.getD_eq_getElem?_getD, h]
theorem numsB_bad (m : Md) (ls : List (List UInt8)) (k : Nat) (h : k < ls.length) (hb : numB m (ls.getD k []) = false) : numsB m ls = false := by
  rw [numsB, List.all_eq_false]
  refine ⟨ls.getD k [], ?_, by simpa using hb⟩
  rw [List.getD_eq_getElem?_getD, List.getElem?_eq_getElem h]
  exact List.getElem_mem h
end Mvp
namespace Go.Proofs.Ytdbgddngapminaa
open Go.RowKit Go.Mv Mvp
/-- how num.read answers -/
def ReadPost (m : Md) (ls : List (List UInt8)) (w : World) (e : Ending) (w' : World) : Prop :=
  (numsB m ls = true → ∃ v, e = .returned (.tuple #[v, .bool true]) ∧ Own w' w.heap.size 70 4 v ls.length (elCells m ls)) ∧
  (numsB m ls = false → e = .returned (.tuple #[.slice none 0 0, .bool false])) ∧ Fr Nob w w'
theorem ReadPost.bad {m : Md} {ls : List (List UInt8)} {w w' : World} {e : Ending} (h : numsB m ls = false) (he : e = .returned (.tuple #[.slice none 0 0, .bool false])) (hf : Fr Nob w w') : ReadPost m ls w e w' :=
  ⟨fun h1 => (by rw [h] at h1; cases h1), fun _ => he, hf⟩
theorem ReadPost.good {m : Md} {ls : List (List UInt8)} {w w' : World} {e : Ending} {v : Value} (h : numsB m ls = true) (he : e = .returned (.tuple #[v, .bool true])) (ho : Own w' w.heap.size 70 4 v ls.length (elCells m ls)) (hf : Fr Nob w w') : ReadPost m ls w e w' :=
  ⟨fun _ => ⟨v, he, ho⟩, fun h1 => (by rw [h] at h1; cases h1), hf⟩
attribute [local irreducible] limbs lw mix cw cSub cAdd cMul foldC valFrom beN laid be32 powm montT mstep elN mdL elCells numsB numB
end Go.Proofs.Ytdbgddngapminaa

/- num.reckon, over an operation's contract. -/
namespace Go.Proofs.Ytdbgddngapminaa
open Go.RowKit Go.Mv Mvp
attribute [local irreducible] limbs lw mix cw cSub cAdd cMul foldC valFrom beN laid be32 powm montT mstep elN mdL elCells numsB numB
end Go.Proofs.Ytdbgddngapminaa

/- num: Add, Sub, Mul, Inv. -/
namespace Go.Mv
open Go.RowKit
theorem rd_at {w : World} {b o n : Nat} {vs : List Value} (h : Rd w (some ⟨b, o, none⟩) n vs) (k : Nat) (cs : List Value) (hcs : (vs.drop k).take cs.length = cs) : At w b (o + k) cs := by
  intro i v hv
  rcases h.2 with h0 | ⟨b', o', he, hc⟩
  · have hl := h.len
    rw [h0] at hl
    rw [List.length_eq_zero_iff.1 hl] at hcs
    simp at hcs
    subst hcs
    simp at hv
  · simp only [Option.some.injEq, Addr.mk.injEq] at he
    obtain ⟨rfl, rfl, -⟩ := he
    have := hc.sub k cs.length
    rw [hcs] at this
    exact this i v hv
theorem rd_range {w : World} {b o n : Nat} {vs : List Value} (h : Rd w (some ⟨b, o, none⟩) n vs) (k : Nat) (cs : List Value) (hcs : (vs.drop k).take cs.length = cs) : w.rangeAt b (o + k) cs :=
  fun i v hv => rd_at h k cs hcs i v hv
end Go.Mv
namespace Go.Proofs.Ytdbgddngapminaa
open Go.RowKit Go.Mv Mvp
attribute [local irreducible] limbs lw mix cw cSub cAdd cMul foldC valFrom beN laid be32 powm montT mstep elN mdL elCells numsB numB
end Go.Proofs.Ytdbgddngapminaa

/- Arrays of words compared; a number shifted down; bits laid one by one. -/
namespace Mvp
theorem half_word (N i : Nat) : lw (N / 2) i = lw N i / 2 ||| (lw N (i + 1) * 9223372036854775808 % 18446744073709551616) := by
  have h1 : lw N (i + 1) * 9223372036854775808 % 18446744073709551616 = 2 ^ 63 * (lw N (i + 1) % 2) := by
    have : (18446744073709551616 : Nat) = 9223372036854775808 * 2 := by decide
    rw [this, Nat.mul_comm, Nat.mul_mod_mul_left]
  have h2 : lw N i / 2 < 2 ^ 63 := by have := lw_lt N i; omega
  rw [h1, Nat.or_comm, ← Nat.two_pow_add_eq_or_of_lt h2]
  have e1 : lw N (i + 1) = N / B64 ^ i / 18446744073709551616 % 18446744073709551616 := by
    unfold lw
    rw [Nat.pow_succ, ← Nat.div_div_eq_div_mul]
  have e2 : lw (N / 2) i = N / B64 ^ i / 2 % 18446744073709551616 := by
    unfold lw
    rw [Nat.div_div_eq_div_mul, Nat.mul_comm, ← Nat.div_div_eq_div_mul]
  have e3 : lw N i = N / B64 ^ i % 18446744073709551616 := rfl
  rw [e1, e2, e3]
  generalize N / B64 ^ i = x
  omega
/-- a bit is laid -/
theorem bit_step (n q k b : Nat) (hq : q < 2 ^ k) (hb : b < 2) (hk : k / 64 < n) : (limbs n q).set (k / 64) (lw q (k / 64) ||| b * 2 ^ (k % 64)) = limbs n (q + b * 2 ^ k) := by
  have e0 : 2 ^ k = B64 ^ (k / 64) * 2 ^ (k % 64) := by
    rw [show B64 = 2 ^ 64 from rfl, ← Nat.pow_mul, ← Nat.pow_add]
    congr 1; omega
  have hj : q / B64 ^ (k / 64) < 2 ^ (k % 64) := Nat.div_lt_of_lt_mul (by rw [← e0]; exact hq)
  have hr : 2 ^ (k % 64) * 2 ≤ B64 := by
    rw [← Nat.pow_succ, show B64 = 2 ^ 64 from rfl]
    exact Nat.pow_le_pow_right (by decide) (by omega)
  have hy : b * 2 ^ (k % 64) ≤ 2 ^ (k % 64) := by
    have := Nat.mul_le_mul_right (2 ^ (k % 64)) (show b ≤ 1 by omega)
    rwa [Nat.one_mul] at this
  rw [e0, Nat.mul_left_comm b]
  apply List.ext_getElem?
  intro i
  rw [List.getElem?_set, limbs_length]
  rcases Nat.lt_or_ge i n with hi | hi
  · rw [limbs_get _ _ _ hi, limbs_get _ _ _ hi]
    rcases Nat.lt_trichotomy i (k / 64) with h | h | h
    · rw [if_neg (by omega), lw_shift_lo _ _ _ _ h]
    · subst h
      rw [if_pos rfl, if_pos hi]
      congr 1
      have h2 := lw_shift_hi q (b * 2 ^ (k % 64)) (k / 64) 0
      rw [Nat.add_zero] at h2
      rw [h2]
      rw [Nat.mul_comm b] at hy h2 ⊢
      have h3 : lw q (k / 64) = q / B64 ^ (k / 64) := Nat.mod_eq_of_lt (by generalize q / B64 ^ (k / 64) = y at *; generalize 2 ^ (k % 64) = z at *; omega)
      rw [h3, Nat.or_comm, ← Nat.two_pow_add_eq_or_of_lt hj]
      simp only [lw, Nat.pow_zero, Nat.div_one]
      generalize q / B64 ^ (k / 64) = y at *
      generalize 2 ^ (k % 64) * b = u at *
      generalize 2 ^ (k % 64) = z at *
      rw [Nat.add_comm]
      exact (Nat.mod_eq_of_lt (by omega)).symm
    · rw [if_neg (by omega)]
      congr 1
      obtain ⟨j, rfl⟩ : ∃ j, i = k / 64 + (1 + j) := ⟨i - k / 64 - 1, by omega⟩
      rw [lw_shift_hi, ← lw_div q]
      rw [lw_top (q / B64 ^ (k / 64)) 1 _ (by rw [Nat.pow_one]; omega) (by omega), lw_top _ 1 _ (by rw [Nat.pow_one]; omega) (by omega)]
  · rw [if_neg (by omega), List.getElem?_eq_none (by rw [limbs_length]; exact hi), List.getElem?_eq_none (by rw [limbs_length]; exact hi)]
theorem quarter_step (P k : Nat) : P / 4 % 2 ^ (k + 1) = P / 4 % 2 ^ k + (P / 2 ^ (k + 2) % 2) * 2 ^ k := by
  have e : P / 2 ^ (k + 2) = P / 4 / 2 ^ k := by
    rw [Nat.div_div_eq_div_mul, Nat.pow_add, Nat.mul_comm]
  rw [e, Nat.pow_succ, Nat.mod_mul, Nat.mul_comm (2 ^ k)]
end Mvp
namespace Go.Mv
open Go.RowKit Mvp
variable {P : Program}
theorem run_eq4 {t e : TypeId} (hu : P.underlying t = some (.array 4 e)) (he : P.underlying e = some (.int .u64)) (hi0 : (P.info? e).map (·.size) = some 1) (a b : Nat) (w : World) :
    (Op.equal t (.agg (cw 4 a).toArray) (.agg (cw 4 b).toArray)).run P w = .ok (decide (a % B64 ^ 4 = b % B64 ^ 4)) w := by
  obtain ⟨j, hj, hsz⟩ : ∃ j, P.info? e = some j ∧ j.size = 1 := by simpa using hi0
  have hc : P.cellsOf e = 1 := by simp [Program.cellsOf, hj, hsz]
  have hp : ∀ (x k : Nat), k < 4 → (part e (cw 4 x).toArray k).run P w = .ok (.int .u64 (lw x k : Nat)) w := by
    intro x k hk
    have hv := cw_get 4 x k hk
    simp [part, isAgg, run_underlying he, sizeOf, typeInfo, hj, hsz, hv]
  have hq0 : ∀ (d : Nat) (x y : Int), (Op.equalIn (d + 1) e (.int .u64 x) (.int .u64 y)).run P w = .ok (x == y) w := fun d x y => by
    simp [Op.equalIn, run_underlying he]
  have hq : ∀ x y : Int, (Op.equalIn 9999 e (.int .u64 x) (.int .u64 y)).run P w = .ok (x == y) w := hq0 9998
  have hbe : ∀ k, ((lw a k : Int) == (lw b k : Int)) = decide (lw a k = lw b k) := by
    intro k
    rw [Bool.eq_iff_iff]; simp; omega
  show (Op.equalIn (9999 + 1) t _ _).run P w = _
  rw [run_equalIn_array w 9999 _ _ hu hj, hc]
  have hfin : decide (a % B64 ^ 4 = b % B64 ^ 4) = (decide (lw a 0 = lw b 0) && (decide (lw a 1 = lw b 1) && (decide (lw a 2 = lw b 2) && decide (lw a 3 = lw b 3)))) := by
    rw [Bool.eq_iff_iff]
    simp only [decide_eq_true_eq, Bool.and_eq_true]
    constructor
    · intro h
      refine ⟨?_, ?_, ?_, ?_⟩ <;> (rw [← lw_mod a _ 4 (by decide), h, lw_mod b _ 4 (by decide)])
    · rintro ⟨h0, h1, h2, h3⟩
      refine limbs_mod_inj (limbs_ext fun i hi => ?_)
      have : i = 0 ∨ i = 1 ∨ i = 2 ∨ i = 3 := by omega
      rcases this with rfl | rfl | rfl | rfl <;> assumption
  rw [hfin]
  show (Op.eqItems 9999 e 1 _ _ [0, 1, 2, 3]).run P w = _
  have p0 := fun x => hp x 0 (by decide)
  have p1 := fun x => hp x 1 (by decide)
  have p2 := fun x => hp x 2 (by decide)
  have p3 := fun x => hp x 3 (by decide)
  clear hp hq0 hfin
  by_cases h0 : lw a 0 = lw b 0 <;> by_cases h1 : lw a 1 = lw b 1 <;> by_cases h2 : lw a 2 = lw b 2 <;> by_cases h3 : lw a 3 = lw b 3 <;> simp [Op.eqItems, p0, p1, p2, p3, hq, hbe, h0, h1, h2, h3, -beq_iff_eq]
end Go.Mv

/- mont.Int.shift by two bits. -/
namespace Go.Proofs.Ytdbgddngapminaa
open Go.RowKit Go.Mv Mvp
attribute [local irreducible] limbs lw mix cw cSub cAdd cMul foldC valFrom beN laid be32 powm montT mstep elN
set_option maxHeartbeats 4000000 in
set_option maxRecDepth 100000 in
theorem Shift_any (N : Nat) (w : World) (hN : N < B64 ^ 4) :
    Calls Try.prog 125 #[i4 N, .int .i64 2] w fun e w' => e = .returned (i4 (N / 4)) ∧ Fr Nob w w' := by
  have HN := Lib.hid hN; clear hN
  have st0 := St.start Nob w
  go_enter Try.func125, Try.ntmps125
  go_wp2_with (with_reducible refine wl_stop (o := ⟨some 2, _, _, _, _, _⟩) ?_)
  refine wl_boxS st0 rfl rfl rfl (cw 4 N) rfl ?_
  intro g2 w1 st1
  clear st0
  go_wp2_with (with_reducible refine wl_stop (o := ⟨some 4, _, _, _, _, _⟩) ?_)
  refine wl_allocS st1 rfl rfl (z := .agg #[.int .u64 0, .int .u64 0, .int .u64 0, .int .u64 0]) (by kernel_rfl) (cw 4 0) (by rw [cw_zero]; rfl) ?_
  intro g4 w2 st2
  clear st1
  go_wp2
  go_loopw [7] (fun i wr => ∃ j : Nat, j ≤ 2 ∧ i = .int .i64 (j : Int) ∧ St Nob w wr [(g2, cw 4 (N / 2 ^ j), 82), (g4, cw 4 0, 82)]) (fun i _ => 2 - (intOf i).toNat)
  case atStart => exact ⟨0, by omega, rfl, by rw [Nat.pow_zero, Nat.div_one]; exact st2⟩
  case round =>
    obtain ⟨j, hj, rfl, st⟩ := hrel
    clear st2
    by_cases hlt : j < 2
    · have hltJ : (j : Int) < 2 := by omega
      have hV : N / 2 ^ j < B64 ^ 4 := Nat.lt_of_le_of_lt (Nat.div_le_self _ _) HN.out
      have hnext : N / 2 ^ (j + 1) = N / 2 ^ j / 2 := by rw [Nat.pow_succ, Nat.div_div_eq_div_mul]
      generalize hVe : N / 2 ^ j = V at *
      have HNEXT := Lib.hid hnext; have HV := Lib.hid hV; clear hnext hV hVe
      go_wp2
      go_loopw [9] (fun i wr => ∃ k : Nat, k ≤ 4 ∧ i = .int .i64 (k : Int) ∧ St Nob w wr [(g2, cw 4 (mix (V / 2) V k), 82), (g4, cw 4 0, 82)]) (fun i _ => 4 - (intOf i).toNat)
      case atStart => exact ⟨0, by omega, rfl, by rw [mix_zero]; exact st⟩
      case round =>
        obtain ⟨k, hk, rfl, stk⟩ := hrel
        clear st
        by_cases hltk : k < 4
        · have hltK : (k : Int) < 4 := by omega
          have c1 : wr.cell? ⟨g2, k, none⟩ = some (.int .u64 (lw V k : Nat)) := by have h := (stk.at 0 rfl).cell (cw_get 4 (mix (V / 2) V k) k hltk); rwa [lw_mix, if_neg (Nat.lt_irrefl k)] at h
          have f1 := (stk.at 0 rfl).free k (by rw [cw_len]; exact hltk)
          have stm := stk.set 0 rfl k (.int .u64 ((lw V k : Int) / 2))
          have hhw := half_word V k
          have hor : bits .or .u64 ((lw V k : Int) / 2) (IntKind.u64.wrap ((lw V (k + 1) : Int) * 9223372036854775808)) = ((lw (V / 2) k : Nat) : Int) := by
            have h := bits_or_u64_nat (lw V k / 2) (lw V (k + 1) * 9223372036854775808 % 18446744073709551616) (Nat.lt_of_le_of_lt (Nat.div_le_self _ _) (lw_lt _ _)) (Nat.mod_lt _ (by decide))
            rw [hhw, ← h, IntKind.wrap_u64]
            rfl
          have HOR := Lib.hid hor
          clear hor
          have STM := Lib.hid stm
          have HSET := Lib.hid (cw_set 4 (V / 2) V k hltk)
          by_cases h3 : k < 3
          · have h3I : (k : Int) < 3 := by omega
            have c2 := (stm.at 0 rfl).cell (i := k) (v := .int .u64 ((lw V k : Int) / 2)) (by rw [List.getElem?_set_self (by rw [cw_len]; exact hltk)])
            have c3 := (stm.at 0 rfl).cell (i := k + 1) (v := .int .u64 (lw V (k + 1) : Nat)) (by rw [List.getElem?_set_ne (by omega), cw_get 4 _ (k + 1) (by omega), lw_mix, if_neg (by omega)])
            have f2 := (stm.at 0 rfl).free k (by rw [List.length_set, cw_len]; exact hltk)
            have e1 : IntKind.i64.wrap ((k : Int) + 1) = (k : Int) + 1 := IntWalk.i64_in _ (by omega)
            have e4 : ((k : Int) + 1).toNat = k + 1 := by omega
            have hlo : (0 : Int) ≤ (k : Int) + 1 ∧ (k : Int) + 1 < 4 := by omega
            clear stm stk
            go_wp2_with fail
            generalize hwm : wr.setCell ⟨g2, k, none⟩ (.int .u64 ((lw V k : Int) / 2)) = wm at *
            clear hwm c1 f1
            refine wp_region_still_tail 10 (by kernel_rfl) (by kernel_rfl) ?_
            simp only [List.take_succ_cons, List.take_zero, List.drop_succ_cons, List.drop_zero]
            repeat still_step
            refine wpStill_nil ?_
            have hst := (STM.out.set 0 rfl k (.int .u64 (bits .or .u64 ((lw V k : Int) / 2) (IntKind.u64.wrap ((lw V (k + 1) : Int) * 9223372036854775808))))).drew
            rw [HOR.out] at hst
            simp only [List.set_cons_zero, List.set_set] at hst
            rw [HSET.out] at hst
            have HST := Lib.hid hst
            clear hst
            go_wp2
            go_roundw
            case rel => exact ⟨k + 1, by omega, by go_num, by rw [HOR.out]; exact HST.out⟩
            case measure => simp [intOf]; omega
          · have h3I : ¬ ((k : Int) < 3) := by omega
            have hk3 : k = 3 := by omega
            have hz : lw V (k + 1) = 0 := lw_top V 4 _ HV.out (by omega)
            have hst := STM.out
            rw [hz, Nat.zero_mul, Nat.zero_mod, Nat.or_zero] at hhw
            rw [show ((lw V k : Int) / 2) = ((lw (V / 2) k : Nat) : Int) by rw [hhw]; rfl] at hst
            simp only [List.set_cons_zero] at hst
            rw [HSET.out] at hst
            rw [show ((lw (V / 2) k : Nat) : Int) = ((lw V k : Int) / 2) by rw [hhw]; rfl] at hst
            have HST := Lib.hid hst
            clear hst stm hhw hz hk3 stk
            go_wp2
            go_roundw
            case rel => exact ⟨k + 1, by omega, by go_num, HST.out⟩
            case measure => simp [intOf]; omega
        · have hge : ¬ ((k : Int) < 4) := by omega
          have hk4 : k = 4 := by omega
          rw [hk4, mix_full, ← HNEXT.out] at stk
          clear hk4
          go_wp2
          go_roundw
          case rel => exact ⟨j + 1, by omega, by go_num, stk⟩
          case measure => simp [intOf]; omega
    · have hge : ¬ ((j : Int) < 2) := by omega
      have hj2 : j = 2 := by omega
      rw [hj2] at st
      clear hj2
      go_wp2_with (with_reducible refine wl_stop (o := ⟨some 31, _, _, _, _, _⟩) ?_)
      refine wl_loadS st 0 rfl rfl rfl Try.underlying82 rfl (by rw [cw_len]; kernel_rfl) ?_
      go_wp2_with (with_reducible refine wl_stop (o := ⟨none, _, _, _, _, _⟩) ?_)
      refine wl_storeS st 1 rfl rfl rfl rfl rfl (by rw [cw_len, cw_len]) (by rw [cw_len]; kernel_rfl) (cw_one _ _) ?_
      intro w9 st9
      clear st
      have hr := st9.at 1 rfl
      have hfr := st9.fr
      clear st9
      go_wp2
      exact bodyPost_ret (results_arr rfl rfl hr Try.underlying82 (by rw [cw_len]; kernel_rfl)) rfl ⟨rfl, hfr⟩
end Go.Proofs.Ytdbgddngapminaa

/- mont: Sqrt; num.Sqrt's operation. -/
namespace Mvp
/-- the number whose square is asked for -/
def rtN (M x : Nat) : Nat := x ^ (M / 4 + 1)
def rtOk (M x : Nat) : Bool := rtN M x * rtN M x % M == x % M
def rtV (M x : Nat) : Nat := if rtN M x % M % 2 = 1 then M - rtN M x % M else rtN M x
end Mvp
namespace Go.Proofs.Ytdbgddngapminaa
open Go.RowKit Go.Mv Mvp
theorem el_eq (m : Md) (h : m.Ok) (x y : Nat) (ty : TypeId) (hu : Try.prog.underlying ty = some (.array 4 22)) (w : World) :
    (Op.equal ty (i4 (elN m x)) (.agg (cw 4 (elN m y)).toArray)).run Try.prog w = .ok (x % m.M == y % m.M) w := by
  have hb : decide (elN m x % B64 ^ 4 = elN m y % B64 ^ 4) = (x % m.M == y % m.M) := by
    rw [Nat.mod_eq_of_lt (el_lt4 m h x), Nat.mod_eq_of_lt (el_lt4 m h y), Bool.eq_iff_iff]
    simp only [decide_eq_true_eq, beq_iff_eq]
    exact ⟨el_inj m h, el_congr m⟩
  rw [← hb]
  exact run_eq4 hu Try.underlying22 size_u64 _ _ w
theorem eq_guard (x y : Nat) (ty : TypeId) (hg : Try.prog.eqGuardType Try.prog.depth ty = false) (a b : Operand) (w : World) :
    (eqGuard .neq ty a b (i4 x) (.agg (cw 4 y).toArray)).run Try.prog w = .ok () w := run_eqGuard_agg w .neq ty a b _ _ hg
theorem el_neq (m : Md) (h : m.Ok) (x y : Nat) (ty : TypeId) (hu : Try.prog.underlying ty = some (.array 4 22)) (w : World) :
    (binOp .neq ty (i4 (elN m x)) (.agg (cw 4 (elN m y)).toArray)).run Try.prog w = .ok (.bool !(x % m.M == y % m.M)) w := by
  show (do pure (Value.bool (!(← Op.equal ty (i4 (elN m x)) (.agg (cw 4 (elN m y)).toArray))))).run Try.prog w = _
  simp only [Sem.run_bind, el_eq m h x y ty hu, Result.andThen_ok]
  rfl
theorem wp_elneq (m : Md) (h : m.Ok) (x y : Nat) (ty : TypeId) (hu : Try.prog.underlying ty = some (.array 4 22)) (hg : Try.prog.eqGuardType Try.prog.depth ty = false) {o : Oper} {a : Act} {w : World} {K : Act → World → Prop} {Q : Exit → Act → World → Prop} {p q : Operand} {T : TypeId}
    (ho : o.op = .binOp .neq ty p q T) (hp : a.eval p = i4 (elN m x)) (hq : a.eval q = .agg (cw 4 (elN m y)).toArray) {b : Bool} (hb : (x % m.M == y % m.M) = b) (hk : K (a.put o.dst (.bool !b)) w) : o.wp Try.prog a w K Q := by
  have h1 := eq_guard (elN m x) (elN m y) ty hg p q w
  have h2 := el_neq m h x y ty hu w
  rw [hb] at h2
  unfold Oper.wp execOp
  simp only [ho, hp, hq, Sem.run_bind, h1, h2, Result.andThen_ok, Sem.run_pure]
  exact hk
theorem low_word (v : Nat) (w : World) : (Instr.index 82 (i4 v) (.int .i64 0)).run Try.prog w = .ok (.int .u64 (lw v 0 : Nat)) w :=
  run_index_cw (P := Try.prog) Try.underlying82 Try.underlying22 size_u64 v 0 (by decide) .i64 w
theorem low_and (v : Nat) : bits .and .u64 (lw v 0 : Nat) 1 = ((v % 2 : Nat) : Int) := by
  have ha := bits_and_u64_nat (lw v 0) 1 (lw_lt _ _) (by omega)
  rw [Nat.and_one_is_mod, word0] at ha
  rw [word0]
  refine Eq.trans ha ?_
  congr 1
  omega
attribute [local irreducible] limbs lw mix cw cSub cAdd cMul foldC valFrom beN laid be32 powm montT mstep elN
set_option maxHeartbeats 8000000 in
set_option maxRecDepth 100000 in
theorem MSqrt_none (m : Md) (gp : Nat) (w : World) (hok : m.Ok) (hpm : Has w gp (mdL m) 134) (x n : Nat) (hn : m.M / 4 + 1 = n) (hr : ((x ^ n) * (x ^ n) % m.M == x % m.M) = false) :
    Calls Try.prog 115 #[.pointer (some ⟨gp, 0, none⟩), i4 (elN m x)] w fun e w' => e = .returned (.tuple #[i4 0, .bool false]) ∧ Fr Nob w w' := by
  have HOK := Lib.hid hok
  have HPM := Lib.hid hpm
  clear hok hpm
  have HE4 := Lib.hid (show n < B64 ^ 4 by subst hn; have := HOK.out.lt; have := HOK.out.one; omega)
  have h1p := fun wx => plus_any (m.M / 4) 1 wx
  rw [← small_words 1 (by decide), hn] at h1p
  clear hn
  have H1P := Lib.hid h1p
  clear h1p
  have HR := Lib.hid hr
  clear hr
  have st0 := St.start Nob w
  go_enter Try.func115, Try.ntmps115
  go_wp2_with (with_reducible refine wl_stop (o := ⟨some 3, _, _, _, _, _⟩) ?_)
  refine wl_boxS st0 rfl rfl rfl (cw 4 (elN m x)) rfl ?_
  intro g3 w1 st1
  clear st0
  go_wp2_with (with_reducible refine wl_stop (o := ⟨some 4, _, _, _, _, _⟩) ?_)
  refine wl_allocS st1 rfl rfl (z := .agg #[.int .u64 0, .int .u64 0, .int .u64 0, .int .u64 0]) (by kernel_rfl) (cw 4 0) (by rw [cw_zero]; rfl) ?_
  intro g4 w2 st2
  clear st1
  go_wp2_with (with_reducible refine wl_stop (o := ⟨some 13, _, _, _, _, _⟩) ?_)
  refine wl_loadA rfl rfl Try.underlying82 rfl (HPM.out.keep st2.fr id) (cw 4 m.M) (md_M m) (by first | (rw [cw_len]; kernel_rfl) | (simp only [List.length_append, cw_len]; kernel_rfl)) ?_
  go_wp2_with fail
  refine (Shift_any m.M _ HOK.out.lt).mono ?_
  rintro e' w3 ⟨rfl, hf3⟩
  have st3 := st2.keep hf3
  clear st2 hf3
  go_wp2_with fail
  refine (H1P.out _).mono ?_
  rintro e' w4 ⟨rfl, hf4⟩
  have st4 := st3.keep hf4
  clear st3 hf4
  go_wp2_with (with_reducible refine wl_stop (o := ⟨some 6, _, _, _, _, _⟩) ?_)
  refine wl_allocS st4 rfl rfl (z := .agg #[.int .u64 0, .int .u64 0, .int .u64 0, .int .u64 0]) (by kernel_rfl) (cw 4 0) (by rw [cw_zero]; rfl) ?_
  intro g6 w5 st5
  clear st4
  go_wp2_with (with_reducible refine wl_stop (o := ⟨none, _, _, _, _, _⟩) ?_)
  refine wl_storeS st5 2 rfl rfl rfl rfl rfl (by first | (simp only [cw_len]; done) | (simp only [List.length_append, cw_len]; done)) (by first | (rw [cw_len]; kernel_rfl) | (simp only [List.length_append, cw_len]; kernel_rfl)) (cw_one _ _) ?_
  intro w6 st6
  clear st5
  go_wp2_with (with_reducible refine wl_stop (o := ⟨some 20, _, _, _, _, _⟩) ?_)
  refine wl_loadS st6 0 rfl rfl rfl Try.underlying70 rfl (by first | (rw [cw_len]; kernel_rfl) | (simp only [List.length_append, cw_len]; kernel_rfl)) ?_
  go_wp2_with (with_reducible refine wl_stop (o := ⟨some 21, _, _, _, _, _⟩) ?_)
  refine wl_loadS st6 2 rfl rfl rfl Try.underlying82 rfl (by first | (rw [cw_len]; kernel_rfl) | (simp only [List.length_append, cw_len]; kernel_rfl)) ?_
  go_wp2_with fail
  refine (MPow_any m gp _ HOK.out (HPM.out.keep st6.fr id) x n HE4.out).mono ?_
  rintro e' w7 ⟨rfl, hf7⟩
  have st7 := st6.keep hf7
  clear st6 hf7
  go_wp2_with (with_reducible refine wl_stop (o := ⟨some 8, _, _, _, _, _⟩) ?_)
  refine wl_allocS st7 rfl rfl (z := .agg #[.int .u64 0, .int .u64 0, .int .u64 0, .int .u64 0]) (by kernel_rfl) (cw 4 0) (by rw [cw_zero]; rfl) ?_
  intro g8 w8 st8
  clear st7
  go_wp2_with (with_reducible refine wl_stop (o := ⟨none, _, _, _, _, _⟩) ?_)
  refine wl_storeS st8 3 rfl rfl rfl rfl rfl (by first | (simp only [cw_len]; done) | (simp only [List.length_append, cw_len]; done)) (by first | (rw [cw_len]; kernel_rfl) | (simp only [List.length_append, cw_len]; kernel_rfl)) (cw_one _ _) ?_
  intro w9 st9
  clear st8
  go_wp2_with fail
  refine wp_region_noPanic ?_
  refine wp_region_plan (fun wx => St Nob w wx [(g3, cw 4 (elN m x), 70), (g4, cw 4 0, 70), (g6, cw 4 n, 82), (g8, cw 4 (elN m (x ^ n)), 70)]) 4 (.w 0 (.t 1 (.t 3 (.r 2 (.m 4 .nil))))) (by kernel_rfl) (by kernel_rfl) st9.drew (fun _ _ _ _ _ h => h) ?_
  have hd9 := st9.drew
  clear st9
  refine plan_w (v := ?_) rfl rfl (fun wx => ?_) ?_
  rotate_left 1
  · (go_simp; with_reducible rfl)
  try simp only [Act.put, List.setIfInBounds_toArray, List.set_cons_zero, List.set_cons_succ]
  refine plan_arr rfl rfl rfl rfl (cw 4 (elN m (x ^ n))) (fun wx hS => St.rangeL hS 3 rfl 0 _ (by rw [List.drop_zero, List.take_of_length_le (Nat.le_refl _)])) Try.underlying70 rfl (by first | (rw [cw_len]; kernel_rfl) | (simp only [List.length_append, cw_len]; kernel_rfl)) ?_
  try simp only [Act.put, List.setIfInBounds_toArray, List.set_cons_zero, List.set_cons_succ]
  refine plan_arr rfl rfl rfl rfl (cw 4 (elN m x)) (fun wx hS => St.rangeL hS 0 rfl 0 _ (by rw [List.drop_zero, List.take_of_length_le (Nat.le_refl _)])) Try.underlying70 rfl (by first | (rw [cw_len]; kernel_rfl) | (simp only [List.length_append, cw_len]; kernel_rfl)) ?_
  try simp only [Act.put, List.setIfInBounds_toArray, List.set_cons_zero, List.set_cons_succ]
  refine plan_r rfl rfl ?_
  go_simp
  refine (MSquare_any m gp _ HOK.out (HPM.out.keep hd9.fr id) (x ^ n)).mono ?_
  rintro e' w10 ⟨rfl, hf10⟩
  have st10 := hd9.keep hf10
  clear hf10
  clear hd9
  refine ⟨st10, ?_⟩
  try simp only [Act.put, List.setIfInBounds_toArray, List.set_cons_zero, List.set_cons_succ]
  refine plan_m rfl rfl ?_
  refine wp_elneq m HOK.out ((x ^ n) * (x ^ n)) x 70 Try.underlying70 Try.eqGuardType70 rfl rfl rfl HR.out ?_
  try simp only [Act.put, List.setIfInBounds_toArray, List.set_cons_zero, List.set_cons_succ]
  refine plan_end ?_
  refine NoPanic.normal ?_
  go_wp2_with (with_reducible refine wl_stop (o := ⟨none, _, _, _, _, _⟩) ?_)
  refine wl_storeS st10 1 rfl rfl rfl rfl (cs := cw 4 0) (by rw [cw_zero]; rfl) (by first | (simp only [cw_len]; done) | (simp only [List.length_append, cw_len]; done)) (by first | (rw [cw_len]; kernel_rfl) | (simp only [List.length_append, cw_len]; kernel_rfl)) (cw_one _ _) ?_
  intro w11 st11
  clear st10
  have hr := st11.at 1 rfl
  have hfr := st11.fr
  clear st11
  go_wp2_with fail
  exact bodyPost_ret (results_arr2 rfl rfl hr Try.underlying70 (by first | (rw [cw_len]; kernel_rfl) | (simp only [List.length_append, cw_len]; kernel_rfl)) rfl) rfl ⟨rfl, hfr⟩

set_option maxHeartbeats 8000000 in
set_option maxRecDepth 100000 in
theorem MSqrt_even (m : Md) (gp : Nat) (w : World) (hok : m.Ok) (hpm : Has w gp (mdL m) 134) (x n : Nat) (hn : m.M / 4 + 1 = n) (hr : ((x ^ n) * (x ^ n) % m.M == x % m.M) = true) (hb : (x ^ n) % m.M % 2 = 0) :
    Calls Try.prog 115 #[.pointer (some ⟨gp, 0, none⟩), i4 (elN m x)] w fun e w' => e = .returned (.tuple #[i4 (elN m (x ^ n)), .bool true]) ∧ Fr Nob w w' := by
  have HOK := Lib.hid hok
  have HPM := Lib.hid hpm
  clear hok hpm
  have HB := Lib.hid hb
  have HE4 := Lib.hid (show n < B64 ^ 4 by subst hn; have := HOK.out.lt; have := HOK.out.one; omega)
  have h1p := fun wx => plus_any (m.M / 4) 1 wx
  rw [← small_words 1 (by decide), hn] at h1p
  clear hn
  have H1P := Lib.hid h1p
  clear h1p
  have HR := Lib.hid hr
  clear hr
  clear hb
  have st0 := St.start Nob w
  go_enter Try.func115, Try.ntmps115
  go_wp2_with (with_reducible refine wl_stop (o := ⟨some 3, _, _, _, _, _⟩) ?_)
  refine wl_boxS st0 rfl rfl rfl (cw 4 (elN m x)) rfl ?_
  intro g3 w1 st1
  clear st0
  go_wp2_with (with_reducible refine wl_stop (o := ⟨some 4, _, _, _, _, _⟩) ?_)
  refine wl_allocS st1 rfl rfl (z := .agg #[.int .u64 0, .int .u64 0, .int .u64 0, .int .u64 0]) (by kernel_rfl) (cw 4 0) (by rw [cw_zero]; rfl) ?_
  intro g4 w2 st2
  clear st1
  go_wp2_with (with_reducible refine wl_stop (o := ⟨some 13, _, _, _, _, _⟩) ?_)
  refine wl_loadA rfl rfl Try.underlying82 rfl (HPM.out.keep st2.fr id) (cw 4 m.M) (md_M m) (by first | (rw [cw_len]; kernel_rfl) | (simp only [List.length_append, cw_len]; kernel_rfl)) ?_
  go_wp2_with fail
  refine (Shift_any m.M _ HOK.out.lt).mono ?_
  rintro e' w3 ⟨rfl, hf3⟩
  have st3 := st2.keep hf3
  clear st2 hf3
  go_wp2_with fail
  refine (H1P.out _).mono ?_
  rintro e' w4 ⟨rfl, hf4⟩
  have st4 := st3.keep hf4
  clear st3 hf4
  go_wp2_with (with_reducible refine wl_stop (o := ⟨some 6, _, _, _, _, _⟩) ?_)
  refine wl_allocS st4 rfl rfl (z := .agg #[.int .u64 0, .int .u64 0, .int .u64 0, .int .u64 0]) (by kernel_rfl) (cw 4 0) (by rw [cw_zero]; rfl) ?_
  intro g6 w5 st5
  clear st4
  go_wp2_with (with_reducible refine wl_stop (o := ⟨none, _, _, _, _, _⟩) ?_)
  refine wl_storeS st5 2 rfl rfl rfl rfl rfl (by first | (simp only [cw_len]; done) | (simp only [List.length_append, cw_len]; done)) (by first | (rw [cw_len]; kernel_rfl) | (simp only [List.length_append, cw_len]; kernel_rfl)) (cw_one _ _) ?_
  intro w6 st6
  clear st5
  go_wp2_with (with_reducible refine wl_stop (o := ⟨some 20, _, _, _, _, _⟩) ?_)
  refine wl_loadS st6 0 rfl rfl rfl Try.underlying70 rfl (by first | (rw [cw_len]; kernel_rfl) | (simp only [List.length_append, cw_len]; kernel_rfl)) ?_
  go_wp2_with (with_reducible refine wl_stop (o := ⟨some 21, _, _, _, _, _⟩) ?_)
  refine wl_loadS st6 2 rfl rfl rfl Try.underlying82 rfl (by first | (rw [cw_len]; kernel_rfl) | (simp only [List.length_append, cw_len]; kernel_rfl)) ?_
  go_wp2_with fail
  refine (MPow_any m gp _ HOK.out (HPM.out.keep st6.fr id) x n HE4.out).mono ?_
  rintro e' w7 ⟨rfl, hf7⟩
  have st7 := st6.keep hf7
  clear st6 hf7
  go_wp2_with (with_reducible refine wl_stop (o := ⟨some 8, _, _, _, _, _⟩) ?_)
  refine wl_allocS st7 rfl rfl (z := .agg #[.int .u64 0, .int .u64 0, .int .u64 0, .int .u64 0]) (by kernel_rfl) (cw 4 0) (by rw [cw_zero]; rfl) ?_
  intro g8 w8 st8
  clear st7
  go_wp2_with (with_reducible refine wl_stop (o := ⟨none, _, _, _, _, _⟩) ?_)
  refine wl_storeS st8 3 rfl rfl rfl rfl rfl (by first | (simp only [cw_len]; done) | (simp only [List.length_append, cw_len]; done)) (by first | (rw [cw_len]; kernel_rfl) | (simp only [List.length_append, cw_len]; kernel_rfl)) (cw_one _ _) ?_
  intro w9 st9
  clear st8
  go_wp2_with fail
  refine wp_region_noPanic ?_
  refine wp_region_plan (fun wx => St Nob w wx [(g3, cw 4 (elN m x), 70), (g4, cw 4 0, 70), (g6, cw 4 n, 82), (g8, cw 4 (elN m (x ^ n)), 70)]) 4 (.w 0 (.t 1 (.t 3 (.r 2 (.m 4 .nil))))) (by kernel_rfl) (by kernel_rfl) st9.drew (fun _ _ _ _ _ h => h) ?_
  have hd9 := st9.drew
  clear st9
  refine plan_w (v := ?_) rfl rfl (fun wx => ?_) ?_
  rotate_left 1
  · (go_simp; with_reducible rfl)
  try simp only [Act.put, List.setIfInBounds_toArray, List.set_cons_zero, List.set_cons_succ]
  refine plan_arr rfl rfl rfl rfl (cw 4 (elN m (x ^ n))) (fun wx hS => St.rangeL hS 3 rfl 0 _ (by rw [List.drop_zero, List.take_of_length_le (Nat.le_refl _)])) Try.underlying70 rfl (by first | (rw [cw_len]; kernel_rfl) | (simp only [List.length_append, cw_len]; kernel_rfl)) ?_
  try simp only [Act.put, List.setIfInBounds_toArray, List.set_cons_zero, List.set_cons_succ]
  refine plan_arr rfl rfl rfl rfl (cw 4 (elN m x)) (fun wx hS => St.rangeL hS 0 rfl 0 _ (by rw [List.drop_zero, List.take_of_length_le (Nat.le_refl _)])) Try.underlying70 rfl (by first | (rw [cw_len]; kernel_rfl) | (simp only [List.length_append, cw_len]; kernel_rfl)) ?_
  try simp only [Act.put, List.setIfInBounds_toArray, List.set_cons_zero, List.set_cons_succ]
  refine plan_r rfl rfl ?_
  go_simp
  refine (MSquare_any m gp _ HOK.out (HPM.out.keep hd9.fr id) (x ^ n)).mono ?_
  rintro e' w10 ⟨rfl, hf10⟩
  have st10 := hd9.keep hf10
  clear hf10
  clear hd9
  refine ⟨st10, ?_⟩
  try simp only [Act.put, List.setIfInBounds_toArray, List.set_cons_zero, List.set_cons_succ]
  refine plan_m rfl rfl ?_
  refine wp_elneq m HOK.out ((x ^ n) * (x ^ n)) x 70 Try.underlying70 Try.eqGuardType70 rfl rfl rfl HR.out ?_
  try simp only [Act.put, List.setIfInBounds_toArray, List.set_cons_zero, List.set_cons_succ]
  refine plan_end ?_
  refine NoPanic.normal ?_
  have hix := fun wx => low_word ((x ^ n) % m.M) wx
  have hla := low_and ((x ^ n) % m.M)
  rw [HB.out] at hla
  go_wp2_with (with_reducible refine wl_stop (o := ⟨some 30, _, _, _, _, _⟩) ?_)
  refine wl_loadS st10 3 rfl rfl rfl Try.underlying70 rfl (by first | (rw [cw_len]; kernel_rfl) | (simp only [List.length_append, cw_len]; kernel_rfl)) ?_
  go_wp2_with fail
  refine (MFrom_any m gp _ HOK.out (HPM.out.keep st10.fr id) (x ^ n)).mono ?_
  rintro e' w11 ⟨rfl, hf11⟩
  have st11 := st10.keep hf11
  clear st10 hf11
  go_wp2_with (with_reducible refine wl_stop (o := ⟨some 38, _, _, _, _, _⟩) ?_)
  refine wl_loadS st11 3 rfl rfl rfl Try.underlying70 rfl (by first | (rw [cw_len]; kernel_rfl) | (simp only [List.length_append, cw_len]; kernel_rfl)) ?_
  go_wp2_with (with_reducible refine wl_stop (o := ⟨none, _, _, _, _, _⟩) ?_)
  refine wl_storeS st11 1 rfl rfl rfl rfl rfl (by first | (simp only [cw_len]; done) | (simp only [List.length_append, cw_len]; done)) (by first | (rw [cw_len]; kernel_rfl) | (simp only [List.length_append, cw_len]; kernel_rfl)) (cw_one _ _) ?_
  intro w12 st12
  clear st11
  have hr := st12.at 1 rfl
  have hfr := st12.fr
  clear st12
  go_wp2_with fail
  exact bodyPost_ret (results_arr2 rfl rfl hr Try.underlying70 (by first | (rw [cw_len]; kernel_rfl) | (simp only [List.length_append, cw_len]; kernel_rfl)) rfl) rfl ⟨rfl, hfr⟩

set_option maxHeartbeats 8000000 in
set_option maxRecDepth 100000 in
theorem MSqrt_odd (m : Md) (gp : Nat) (w : World) (hok : m.Ok) (hpm : Has w gp (mdL m) 134) (x n : Nat) (hn : m.M / 4 + 1 = n) (hr : ((x ^ n) * (x ^ n) % m.M == x % m.M) = true) (hb : (x ^ n) % m.M % 2 = 1) :
    Calls Try.prog 115 #[.pointer (some ⟨gp, 0, none⟩), i4 (elN m x)] w fun e w' => e = .returned (.tuple #[i4 (elN m (m.M - (x ^ n) % m.M)), .bool true]) ∧ Fr Nob w w' := by
  have HOK := Lib.hid hok
  have HPM := Lib.hid hpm
  clear hok hpm
  have HB := Lib.hid hb
  have HE4 := Lib.hid (show n < B64 ^ 4 by subst hn; have := HOK.out.lt; have := HOK.out.one; omega)
  have h1p := fun wx => plus_any (m.M / 4) 1 wx
  rw [← small_words 1 (by decide), hn] at h1p
  clear hn
  have H1P := Lib.hid h1p
  clear h1p
  have HR := Lib.hid hr
  clear hr
  clear hb
  have st0 := St.start Nob w
  go_enter Try.func115, Try.ntmps115
  go_wp2_with (with_reducible refine wl_stop (o := ⟨some 3, _, _, _, _, _⟩) ?_)
  refine wl_boxS st0 rfl rfl rfl (cw 4 (elN m x)) rfl ?_
  intro g3 w1 st1
  clear st0
  go_wp2_with (with_reducible refine wl_stop (o := ⟨some 4, _, _, _, _, _⟩) ?_)
  refine wl_allocS st1 rfl rfl (z := .agg #[.int .u64 0, .int .u64 0, .int .u64 0, .int .u64 0]) (by kernel_rfl) (cw 4 0) (by rw [cw_zero]; rfl) ?_
  intro g4 w2 st2
  clear st1
  go_wp2_with (with_reducible refine wl_stop (o := ⟨some 13, _, _, _, _, _⟩) ?_)
  refine wl_loadA rfl rfl Try.underlying82 rfl (HPM.out.keep st2.fr id) (cw 4 m.M) (md_M m) (by first | (rw [cw_len]; kernel_rfl) | (simp only [List.length_append, cw_len]; kernel_rfl)) ?_
  go_wp2_with fail
  refine (Shift_any m.M _ HOK.out.lt).mono ?_
  rintro e' w3 ⟨rfl, hf3⟩
  have st3 := st2.keep hf3
  clear st2 hf3
  go_wp2_with fail
  refine (H1P.out _).mono ?_
  rintro e' w4 ⟨rfl, hf4⟩
  have st4 := st3.keep hf4
  clear st3 hf4
  go_wp2_with (with_reducible refine wl_stop (o := ⟨some 6, _, _, _, _, _⟩) ?_)
  refine wl_allocS st4 rfl rfl (z := .agg #[.int .u64 0, .int .u64 0, .int .u64 0, .int .u64 0]) (by kernel_rfl) (cw 4 0) (by rw [cw_zero]; rfl) ?_
  intro g6 w5 st5
  clear st4
  go_wp2_with (with_reducible refine wl_stop (o := ⟨none, _, _, _, _, _⟩) ?_)
  refine wl_storeS st5 2 rfl rfl rfl rfl rfl (by first | (simp only [cw_len]; done) | (simp only [List.length_append, cw_len]; done)) (by first | (rw [cw_len]; kernel_rfl) | (simp only [List.length_append, cw_len]; kernel_rfl)) (cw_one _ _) ?_
  intro w6 st6
  clear st5
  go_wp2_with (with_reducible refine wl_stop (o := ⟨some 20, _, _, _, _, _⟩) ?_)
  refine wl_loadS st6 0 rfl rfl rfl Try.underlying70 rfl (by first | (rw [cw_len]; kernel_rfl) | (simp only [List.length_append, cw_len]; kernel_rfl)) ?_
  go_wp2_with (with_reducible refine wl_stop (o := ⟨some 21, _, _, _, _, _⟩) ?_)
  refine wl_loadS st6 2 rfl rfl rfl Try.underlying82 rfl (by first | (rw [cw_len]; kernel_rfl) | (simp only [List.length_append, cw_len]; kernel_rfl)) ?_
  go_wp2_with fail
  refine (MPow_any m gp _ HOK.out (HPM.out.keep st6.fr id) x n HE4.out).mono ?_
  rintro e' w7 ⟨rfl, hf7⟩
  have st7 := st6.keep hf7
  clear st6 hf7
  go_wp2_with (with_reducible refine wl_stop (o := ⟨some 8, _, _, _, _, _⟩) ?_)
  refine wl_allocS st7 rfl rfl (z := .agg #[.int .u64 0, .int .u64 0, .int .u64 0, .int .u64 0]) (by kernel_rfl) (cw 4 0) (by rw [cw_zero]; rfl) ?_
  intro g8 w8 st8
  clear st7
  go_wp2_with (with_reducible refine wl_stop (o := ⟨none, _, _, _, _, _⟩) ?_)
  refine wl_storeS st8 3 rfl rfl rfl rfl rfl (by first | (simp only [cw_len]; done) | (simp only [List.length_append, cw_len]; done)) (by first | (rw [cw_len]; kernel_rfl) | (simp only [List.length_append, cw_len]; kernel_rfl)) (cw_one _ _) ?_
  intro w9 st9
  clear st8
  go_wp2_with fail
  refine wp_region_noPanic ?_
  refine wp_region_plan (fun wx => St Nob w wx [(g3, cw 4 (elN m x), 70), (g4, cw 4 0, 70), (g6, cw 4 n, 82), (g8, cw 4 (elN m (x ^ n)), 70)]) 4 (.w 0 (.t 1 (.t 3 (.r 2 (.m 4 .nil))))) (by kernel_rfl) (by kernel_rfl) st9.drew (fun _ _ _ _ _ h => h) ?_
  have hd9 := st9.drew
  clear st9
  refine plan_w (v := ?_) rfl rfl (fun wx => ?_) ?_
  rotate_left 1
  · (go_simp; with_reducible rfl)
  try simp only [Act.put, List.setIfInBounds_toArray, List.set_cons_zero, List.set_cons_succ]
  refine plan_arr rfl rfl rfl rfl (cw 4 (elN m (x ^ n))) (fun wx hS => St.rangeL hS 3 rfl 0 _ (by rw [List.drop_zero, List.take_of_length_le (Nat.le_refl _)])) Try.underlying70 rfl (by first | (rw [cw_len]; kernel_rfl) | (simp only [List.length_append, cw_len]; kernel_rfl)) ?_
  try simp only [Act.put, List.setIfInBounds_toArray, List.set_cons_zero, List.set_cons_succ]
  refine plan_arr rfl rfl rfl rfl (cw 4 (elN m x)) (fun wx hS => St.rangeL hS 0 rfl 0 _ (by rw [List.drop_zero, List.take_of_length_le (Nat.le_refl _)])) Try.underlying70 rfl (by first | (rw [cw_len]; kernel_rfl) | (simp only [List.length_append, cw_len]; kernel_rfl)) ?_
  try simp only [Act.put, List.setIfInBounds_toArray, List.set_cons_zero, List.set_cons_succ]
  refine plan_r rfl rfl ?_
  go_simp
  refine (MSquare_any m gp _ HOK.out (HPM.out.keep hd9.fr id) (x ^ n)).mono ?_
  rintro e' w10 ⟨rfl, hf10⟩
  have st10 := hd9.keep hf10
  clear hf10
  clear hd9
  refine ⟨st10, ?_⟩
  try simp only [Act.put, List.setIfInBounds_toArray, List.set_cons_zero, List.set_cons_succ]
  refine plan_m rfl rfl ?_
  refine wp_elneq m HOK.out ((x ^ n) * (x ^ n)) x 70 Try.underlying70 Try.eqGuardType70 rfl rfl rfl HR.out ?_
  try simp only [Act.put, List.setIfInBounds_toArray, List.set_cons_zero, List.set_cons_succ]
  refine plan_end ?_
  refine NoPanic.normal ?_
  have hix := fun wx => low_word ((x ^ n) % m.M) wx
  have hla := low_and ((x ^ n) % m.M)
  rw [HB.out] at hla
  go_wp2_with (with_reducible refine wl_stop (o := ⟨some 30, _, _, _, _, _⟩) ?_)
  refine wl_loadS st10 3 rfl rfl rfl Try.underlying70 rfl (by first | (rw [cw_len]; kernel_rfl) | (simp only [List.length_append, cw_len]; kernel_rfl)) ?_
  go_wp2_with fail
  refine (MFrom_any m gp _ HOK.out (HPM.out.keep st10.fr id) (x ^ n)).mono ?_
  rintro e' w11 ⟨rfl, hf11⟩
  have st11 := st10.keep hf11
  clear st10 hf11
  go_wp2_with (with_reducible refine wl_stop (o := ⟨some 36, _, _, _, _, _⟩) ?_)
  refine wl_loadS st11 3 rfl rfl rfl Try.underlying70 rfl (by first | (rw [cw_len]; kernel_rfl) | (simp only [List.length_append, cw_len]; kernel_rfl)) ?_
  go_wp2_with fail
  refine (MNeg_any m gp _ HOK.out (HPM.out.keep st11.fr id) (x ^ n)).mono ?_
  rintro e' w12 ⟨rfl, hf12⟩
  have st12 := st11.keep hf12
  clear st11 hf12
  go_wp2_with (with_reducible refine wl_stop (o := ⟨none, _, _, _, _, _⟩) ?_)
  refine wl_storeS st12 3 rfl rfl rfl rfl rfl (by first | (simp only [cw_len]; done) | (simp only [List.length_append, cw_len]; done)) (by first | (rw [cw_len]; kernel_rfl) | (simp only [List.length_append, cw_len]; kernel_rfl)) (cw_one _ _) ?_
  intro w13 st13
  clear st12
  go_wp2_with (with_reducible refine wl_stop (o := ⟨some 38, _, _, _, _, _⟩) ?_)
  refine wl_loadS st13 3 rfl rfl rfl Try.underlying70 rfl (by first | (rw [cw_len]; kernel_rfl) | (simp only [List.length_append, cw_len]; kernel_rfl)) ?_
  go_wp2_with (with_reducible refine wl_stop (o := ⟨none, _, _, _, _, _⟩) ?_)
  refine wl_storeS st13 1 rfl rfl rfl rfl rfl (by first | (simp only [cw_len]; done) | (simp only [List.length_append, cw_len]; done)) (by first | (rw [cw_len]; kernel_rfl) | (simp only [List.length_append, cw_len]; kernel_rfl)) (cw_one _ _) ?_
  intro w14 st14
  clear st13
  have hr := st14.at 1 rfl
  have hfr := st14.fr
  clear st14
  go_wp2_with fail
  exact bodyPost_ret (results_arr2 rfl rfl hr Try.underlying70 (by first | (rw [cw_len]; kernel_rfl) | (simp only [List.length_append, cw_len]; kernel_rfl)) rfl) rfl ⟨rfl, hfr⟩
end Go.Proofs.Ytdbgddngapminaa

/- A field's laws, plainly: inverses, roots of squares. -/
namespace Mvq
open Mvp
/-- the prime of the points, of the scalars -/
structure FP (M : Nat) : Prop where
  prime : IsP M
  odd : M % 2 = 1
  big : 3 < M
theorem FP.inv {M a : Nat} (h : FP M) (ha : a < M) (h0 : a ≠ 0) : a * (a ^ (M - 2) % M) % M = 1 := by
  have hd : ¬ M ∣ a := fun hx => by have := Nat.le_of_dvd (by omega) hx; omega
  have hb := h.big
  rw [Nat.mul_mod_mod, Nat.mul_comm, ← Nat.pow_succ, show (M - 2).succ = M - 1 by omega]
  exact fermat h.prime hd
theorem FP.inv0 {M : Nat} (h : FP M) : 0 ^ (M - 2) % M = 0 := by
  have hb := h.big
  rw [Nat.zero_pow (by omega), Nat.zero_mod]
theorem sq_two {M a w : Nat} (h : IsP M) (ha : a < M) (hw : w < M) (hs : w * w % M = a * a % M) : w = a ∨ w = (M - a) % M := by
  have key : ∀ a w, a < M → w < M → a ≤ w → w * w % M = a * a % M → w = a ∨ w = (M - a) % M := by
    intro a w ha hw hle hs
    have hd : M ∣ (w - a) * (w + a) := by
      have h1 : M ∣ w * w - a * a := Nat.dvd_of_mod_eq_zero (Nat.sub_mod_eq_zero_of_mod_eq hs)
      rwa [Nat.mul_self_sub_mul_self_eq, Nat.mul_comm] at h1
    rcases h.euclid hd with h1 | h1
    · left
      rcases Nat.eq_zero_or_pos (w - a) with h2 | h2
      · omega
      · have := Nat.le_of_dvd h2 h1; omega
    · obtain ⟨c, hc⟩ := h1
      have h1 := h.1
      have hc2 : c = 0 ∨ c = 1 := by
        rcases Nat.lt_or_ge c 2 with h2 | h2
        · omega
        · have : M * 2 ≤ M * c := Nat.mul_le_mul_left _ h2
          omega
      rcases hc2 with rfl | rfl
      · left; omega
      · rcases Nat.eq_zero_or_pos a with h3 | h3
        · subst h3; omega
        · right; rw [Nat.mod_eq_of_lt (by omega)]; omega
  rcases Nat.le_total a w with h1 | h1
  · exact key a w ha hw h1 hs
  · rcases key w a hw ha h1 hs.symm with h2 | h2
    · exact Or.inl h2.symm
    · rcases Nat.eq_zero_or_pos w with h3 | h3
      · subst h3; rw [Nat.sub_zero, Nat.mod_self] at h2; exact Or.inl h2.symm
      · rw [Nat.mod_eq_of_lt (by omega)] at h2
        right
        rw [Nat.mod_eq_of_lt (by omega)]; omega
/-- the square of the root of a square -/
theorem root_sq {M a : Nat} (h : FP M) (h4 : M % 4 = 3) (ha : a < M) : rtOk M (a * a % M) = true := by
  unfold rtOk rtN
  rw [beq_iff_eq]
  have hb := h.big
  generalize hk : M / 4 + 1 = k
  have h2 : 4 * k = M + 1 := by omega
  rw [Nat.mul_mod ((a * a % M) ^ k), ← Nat.pow_mod, ← Nat.mul_mod, ← Nat.pow_two a, ← Nat.pow_mul, ← Nat.pow_add, show 2 * k + 2 * k = M + 1 by omega, Nat.mod_mod]
  rw [Nat.pow_succ, Nat.mul_mod, fermat1 h.prime, ← Nat.mul_mod, Nat.pow_two]
theorem root_even {M x : Nat} (h : FP M) : rtV M x % M % 2 = 0 := by
  unfold rtV
  have hb := h.big
  have ho := h.odd
  have hl : rtN M x % M < M := Nat.mod_lt _ (by omega)
  generalize hr : rtN M x % M = r at *
  split
  · rename_i h1
    rw [Nat.mod_eq_of_lt (show M - r < M by omega)]; omega
  · rw [hr]; omega
theorem root_square {M x : Nat} (h : FP M) (hx : x < M) (hr : rtOk M x = true) : (rtV M x % M) * (rtV M x % M) % M = x := by
  unfold rtOk at hr
  rw [beq_iff_eq, Nat.mul_mod, Nat.mod_eq_of_lt hx] at hr
  unfold rtV
  have hb := h.big
  have hl : rtN M x % M < M := Nat.mod_lt _ (by omega)
  generalize hq : rtN M x % M = r at *
  split
  · rename_i h1
    rw [Nat.mod_eq_of_lt (show M - r < M by omega)]
    have e : (M - r) * (M - r) + M * (2 * r) = r * r + M * M := by
      obtain ⟨d, rfl⟩ : ∃ d, M = r + d := ⟨M - r, by omega⟩
      rw [Nat.add_sub_cancel_left]
      clear hb hl hq hr hx h
      grind
    have e2 : ((M - r) * (M - r) + M * (2 * r)) % M = (r * r + M * M) % M := by rw [e]
    rw [Nat.add_mul_mod_self_left, Nat.add_mul_mod_self_left, hr] at e2
    exact e2
  · rw [hq, hr]
theorem FP_P : FP pP := ⟨by rw [show pP = 115792089237316195423570985008687907853269984665640564039457584007908834671663 by decide]; exact isP_pP, by decide, by decide⟩
theorem FP_Q : FP pQ := ⟨by rw [show pQ = 115792089237316195423570985008687907852837564279074904382605163141518161494337 by decide]; exact isP_pQ, by decide, by decide⟩
end Mvq

/- Points and their bytes, plain. -/
namespace Mvq
open Mvp
/-- a point's bytes -/
def wrPt : Pt → List UInt8
  | .O => List.replicate 33 0
  | .A x y => UInt8.ofNat (2 + y.val % 2) :: be32 x.val
theorem wrPt_len (p : Pt) : (wrPt p).length = 33 := by
  cases p
  · simp [wrPt]
  · simp [wrPt, be32_len]
/-- the number behind the first byte -/
def tlN (l : List UInt8) : Nat := beN (l.drop 1)
def crvN (n : Nat) : Nat := n * n * n + 7
/-- are bytes a point? -/
def rdOk (l : List UInt8) : Bool :=
  decide (l.length = 33) && (if l.getD 0 0 = 0 then tlN l == 0 else decide (l.getD 0 0 = 2 ∨ l.getD 0 0 = 3) && (decide (tlN l < fP) && rtOk fP (crvN (tlN l))))
/-- the point that bytes are -/
def rdPt (l : List UInt8) : Pt :=
  if l.getD 0 0 = 0 then .O else .A (kc (tlN l)) (if l.getD 0 0 = 3 then - kc (rtV fP (crvN (tlN l))) else kc (rtV fP (crvN (tlN l))))
theorem kc_sq_of {a x : Nat} (h : (a * a % fP == x % fP) = true) : kc a * kc a = kc x := by
  rw [kc_eq] at h
  rw [← kc_mul']; simpa using h
theorem rtV_sq {x : Nat} (h : rtOk fP x = true) : kc (rtV fP x) * kc (rtV fP x) = kc x := by
  unfold rtOk at h
  have h1 := kc_sq_of h
  unfold rtV
  split
  · rw [kc_negn, ← h1]; grind -lia -linarith
  · exact h1
theorem crvN_kc (n : Nat) : kc (crvN n) = kc n * kc n * kc n + 7 := by
  unfold crvN
  rw [kc_addn, kc_mul', kc_mul', show kc 7 = 7 by decide]
theorem at_on {n : Nat} (h : rtOk fP (crvN n) = true) : onC (.A (kc n) (kc (rtV fP (crvN n)))) := by
  show kc (rtV fP (crvN n)) * kc (rtV fP (crvN n)) = kc n * kc n * kc n + 7
  rw [rtV_sq h, crvN_kc]
theorem rd_on {l : List UInt8} (h : rdOk l = true) : onC (rdPt l) := by
  unfold rdOk at h
  unfold rdPt
  by_cases h0 : l.getD 0 0 = 0
  · rw [if_pos h0]; trivial
  · rw [if_neg h0]
    simp only [Bool.and_eq_true, decide_eq_true_eq, if_neg h0] at h
    obtain ⟨-, -, -, h4⟩ := h
    have := at_on h4
    by_cases h3 : l.getD 0 0 = 3
    · rw [if_pos h3]; exact pneg_on this
    · rw [if_neg h3]; exact this
theorem kc_val_mod (n : Nat) : (kc n).val = n % fP := by simp [kc, Fin.ofNat]
theorem beN_tail (n : Nat) (h : n < fP) : beN (be32 n) = n := by
  have h2 : fP < 256 ^ 32 := by decide
  exact beN_be32 n (Nat.lt_trans h h2)
theorem neg_val_par (y : K) (h : y ≠ 0) : (-y).val % 2 = (1 + y.val) % 2 := by
  have h0 : y.val ≠ 0 := fun e => h (Fin.ext e)
  have h1 : (-y).val = fP - y.val := by
    rw [Fin.val_neg]
    have hne : ¬ y = 0 := h
    simp [hne]
  have h2 : fP % 2 = 1 := by decide
  have h3 := y.isLt
  omega
theorem sq_same {a b : K} (h : a * a = b * b) : a = b ∨ a = -b := by
  have : (a - b) * (a + b) = 0 := by grind -lia -linarith
  rcases mul_zero' this with e | e
  · left; grind -lia -linarith
  · right; grind -lia -linarith
/-- what was written is read -/
theorem rd_wr {p : Pt} (h : onC p) : rdOk (wrPt p) = true ∧ rdPt (wrPt p) = p := by
  cases p with
  | O =>
    have : (wrPt .O) = List.replicate 33 0 := rfl
    rw [this]
    constructor
    · decide
    · unfold rdPt; rw [if_pos (by decide)]
  | A x y =>
    have hc : y * y = x * x * x + 7 := h
    have hy := y_ne hc
    have e0 : (wrPt (.A x y)).getD 0 0 = UInt8.ofNat (2 + y.val % 2) := rfl
    have e1 : tlN (wrPt (.A x y)) = x.val := by
      show beN (be32 x.val) = x.val
      exact beN_tail _ x.isLt
    have hl := wrPt_len (.A x y)
    have hk : kc (crvN x.val) = y * y := by rw [crvN_kc, kc_val, hc]
    have hr : rtOk fP (crvN x.val) = true := by
      have hh := root_sq (M := fP) (a := y.val) (by have := FP_P; rwa [pP_fP] at this) (by decide) y.isLt
      have e : kc (crvN x.val) = kc (y.val * y.val % fP) := by rw [kc_mod, kc_mul', kc_val, hk]
      have e2 : crvN x.val % fP = y.val * y.val % fP % fP := by
        have := kc_eq (crvN x.val) (y.val * y.val % fP)
        rw [e] at this
        simpa using this
      unfold rtOk rtN at *
      rw [Nat.mul_mod, Nat.pow_mod, e2, ← Nat.pow_mod, ← Nat.mul_mod]
      simpa using hh
    have hev : (kc (rtV fP (crvN x.val))).val % 2 = 0 := by
      rw [kc_val_mod]
      exact root_even (by have := FP_P; rwa [pP_fP] at this)
    have hv := rtV_sq hr
    rw [hk] at hv
    generalize hz : kc (rtV fP (crvN x.val)) = z at *
    unfold rdOk rdPt
    rw [hl, e1, e0, hr, hz]
    have hx := x.isLt
    have hcase : y.val % 2 = 0 ∨ y.val % 2 = 1 := by omega
    have hzy : z = (if y.val % 2 = 0 then y else -y) := by
      rcases sq_same hv with e | e
      · subst e; rw [if_pos hev]
      · have hp := neg_val_par y hy
        rw [← e] at hp
        rw [if_neg (by omega)]; exact e
    have hlt : decide (x.val < fP) = true := decide_eq_true hx
    rcases hcase with e | e
    · have hb : UInt8.ofNat (2 + y.val % 2) = 2 := by rw [e]; rfl
      rw [if_pos e] at hzy
      rw [hb, hzy, hlt]
      refine ⟨?_, ?_⟩
      · rw [if_neg (by decide)]; decide
      · rw [if_neg (by decide), if_neg (by decide), kc_val]
    · have hb : UInt8.ofNat (2 + y.val % 2) = 3 := by rw [e]; rfl
      rw [if_neg (by omega)] at hzy
      rw [hb, hzy, hlt]
      refine ⟨?_, ?_⟩
      · rw [if_neg (by decide)]; decide
      · have hn : - -y = y := by grind -lia -linarith
        rw [if_neg (by decide), if_pos rfl, kc_val, hn]
end Mvq

/- The curve has as many points as the second prime tells: each point, so many times, is nothing. (What lies beside the base's multiples would make three times as many points, and there are at most two for each first coordinate.) -/
namespace Mvq
open Mvp
/-- forces a number -/
def frc {α : Type} (n : Nat) (f : Nat → α) : α := Nat.rec (f 0) (fun k _ => f (k + 1)) n
theorem frc_eq {α : Type} (n : Nat) (f : Nat → α) : frc n f = f n := by cases n <;> rfl
def hX : Nat := 0x79BE667EF9DCBBAC55A06295CE870B07029BFCDB2DCE28D959F2815B16F81798
def hY : Nat := 0x483ADA7726A3C4655DA4FBFC0E1108A8FD17B448A68554199C47D08FFB10D4B8
def hP : Pt := .A (kc hX) (kc hY)
theorem hP_on : onC hP := by
  show kc hY * kc hY = kc hX * kc hX * kc hX + 7
  decide
abbrev qN : Nat := 115792089237316195423570985008687907852837564279074904382605163141518161494337
theorem qN_pQ : qN = pQ := by decide
/-- up the exponent's bits, in fractions -/
def climbB (e : Nat) : Nat → Nat → Nat → Nat → Bool
  | 0, X, Y, Z => !(Z % fP == 0) && X % fP == hX * Z % fP && (Y + hY * Z) % fP == 0
  | k + 1, X, Y, Z =>
    !(Z % fP == 0) &&
    frc (3 * (X * X) % fP) fun d => frc (2 * Y * Z % fP) fun u => frc (u * u % fP) fun uu => frc (uu * u % fP) fun uuu => frc ((d * d * Z + (fP - 2 * X * uu % fP)) % fP) fun t =>
    frc (u * t % fP) fun X' => frc ((d * (X * uu + (fP - t % fP)) + (fP - Y * uuu % fP)) % fP) fun Y' => frc (uuu * Z % fP) fun Z' =>
    if e / 2 ^ k % 2 = 1 then
      !(Z' % fP == 0) && 
      frc ((hY * Z' + (fP - Y' % fP)) % fP) fun d => frc ((hX * Z' + (fP - X' % fP)) % fP) fun u => !(u % fP == 0) && frc (u * u % fP) fun uu => frc (uu * u % fP) fun uuu => frc ((d * d * Z' + (fP - uuu % fP) + (fP - 2 * X' * uu % fP)) % fP) fun t =>
      frc (u * t % fP) fun X2 => frc ((d * (X' * uu + (fP - t % fP)) + (fP - Y' * uuu % fP)) % fP) fun Y2 => frc (uuu * Z' % fP) fun Z2 => climbB e k X2 Y2 Z2
    else climbB e k X' Y' Z'
theorem climbed : climbB (qN - 1) 255 hX hY 1 = true := by decide +kernel
theorem kc_eqb (a b : Nat) (h : a % fP = b % fP) : kc a = kc b := by rw [← kc_mod a, h, kc_mod]
theorem kc_ne (a : Nat) (h : a % fP ≠ 0) : kc a ≠ 0 := by
  intro e
  have := kc_eqz a
  rw [e, decide_eq_true rfl] at this
  exact h (by simpa using this)
theorem kc_m (a : Nat) : kc (a % fP) = kc a := kc_mod a
theorem climb_ok (e : Nat) : ∀ (k X Y Z : Nat), climbB e k X Y Z = true → nm (kc X) (kc Y) (kc Z) = pmul (e / 2 ^ k) hP → pmul e hP = pneg hP
  | 0, X, Y, Z, h, hp => by
    simp only [climbB, Bool.and_eq_true, Bool.not_eq_true', beq_iff_eq, beq_eq_false_iff_ne, ne_eq] at h
    obtain ⟨⟨hz, hx⟩, hy⟩ := h
    rw [Nat.pow_zero, Nat.div_one] at hp
    rw [← hp]
    have hx' := kc_eqb _ _ hx
    rw [kc_mul'] at hx'
    have hy' : kc (Y + hY * Z) = 0 := by
      have := kc_eqz (Y + hY * Z)
      rw [hy] at this
      simpa using this
    rw [kc_addn, kc_mul'] at hy'
    exact nm_is (kc_ne _ hz) hx' (by grind -lia -linarith)
  | k + 1, X, Y, Z, h, hp => by
    have hon : onC (nm (kc X) (kc Y) (kc Z)) := by rw [hp]; exact pmul_on hP_on _
    simp only [climbB, frc_eq, Bool.and_eq_true, Bool.not_eq_true', beq_eq_false_iff_ne, ne_eq] at h
    obtain ⟨hz, h⟩ := h
    have hd := rk_double hon (kc_ne _ hz) _ _ _ _ _ _ rfl rfl rfl rfl rfl rfl
    rw [hp] at hd
    have hbit := pmul_bit hP_on e k
    generalize hd0 : 3 * (X * X) % fP = d at h
    generalize hu0 : 2 * Y * Z % fP = u at h
    generalize huu : u * u % fP = uu at h
    generalize huuu : uu * u % fP = uuu at h
    generalize ht : (d * d * Z + (fP - 2 * X * uu % fP)) % fP = t at h
    generalize hX' : u * t % fP = X' at h
    generalize hY' : (d * (X * uu + (fP - t % fP)) + (fP - Y * uuu % fP)) % fP = Y' at h
    generalize hZ' : uuu * Z % fP = Z' at h
    have k2 : kc 2 = 2 := by decide
    have k3' : kc 3 = 3 := by decide
    have d1 : kc d = 3 * (kc X * kc X) := by rw [← hd0, kc_m, kc_mul', kc_mul', k3']
    have u1 : kc u = 2 * kc Y * kc Z := by rw [← hu0, kc_m, kc_mul', kc_mul', k2]
    have uu1 : kc uu = kc u * kc u := by rw [← huu, kc_m, kc_mul']
    have uuu1 : kc uuu = kc uu * kc u := by rw [← huuu, kc_m, kc_mul']
    have t1 : kc t = kc d * kc d * kc Z - 2 * kc X * kc uu := by rw [← ht, kc_m, kc_subn, kc_mul', kc_mul', kc_mul', kc_mul', k2]
    have X1 : kc X' = kc u * kc t := by rw [← hX', kc_m, kc_mul']
    have Y1 : kc Y' = kc d * (kc X * kc uu - kc t) - kc Y * kc uuu := by rw [← hY', kc_m, kc_subn, kc_mul', kc_subn, kc_mul', kc_mul']
    have Z1 : kc Z' = kc uuu * kc Z := by rw [← hZ', kc_m, kc_mul']
    rw [← d1, ← u1, ← uu1, ← uuu1, ← t1, ← X1, ← Y1, ← Z1] at hd
    rw [← hd] at hbit
    clear d1 u1 uu1 uuu1 t1 X1 Y1 Z1 hd0 hu0 huu huuu ht hX' hY' hZ'
    have hon' : onC (nm (kc X') (kc Y') (kc Z')) := by rw [hd]; exact padd_on (pmul_on hP_on _) (pmul_on hP_on _)
    by_cases hb : e / 2 ^ k % 2 = 1
    · rw [if_pos hb] at h hbit
      simp only [Bool.and_eq_true, Bool.not_eq_true', beq_eq_false_iff_ne, ne_eq] at h
      obtain ⟨hz', hu', h⟩ := h
      have one : kc 1 = 1 := by decide
      have hnP : nm (kc hX) (kc hY) (kc 1) = hP := nm_is (by decide) (by rw [one]; grind -lia -linarith) (by rw [one]; grind -lia -linarith)
      have hs := rk_plus (X2 := kc hX) (Y2 := kc hY) (Z2 := kc 1) hon' (by rw [hnP]; exact hP_on) (kc_ne _ hz') (by decide) (kc (hY * Z')) (kc (hX * Z')) (kc Y') (kc X') (kc (hY * Z') - kc Y') (kc (hX * Z') - kc X') (kc Z') _ _ _ (kc_mul' _ _) (kc_mul' _ _) (by rw [one]; grind -lia -linarith) (by rw [one]; grind -lia -linarith) rfl rfl
        (by rw [← kc_subn]; exact kc_ne _ (by rw [Nat.mod_mod] at hu'; exact hu')) (by rw [one]; grind -lia -linarith) rfl rfl rfl
      rw [hnP] at hs
      generalize hd0 : (hY * Z' + (fP - Y' % fP)) % fP = d at h
      generalize hu0 : (hX * Z' + (fP - X' % fP)) % fP = u at h
      generalize huu : u * u % fP = uu at h
      generalize huuu : uu * u % fP = uuu at h
      generalize ht : (d * d * Z' + (fP - uuu % fP) + (fP - 2 * X' * uu % fP)) % fP = t at h
      have d1 : kc d = kc (hY * Z') - kc Y' := by rw [← hd0, kc_m, kc_subn]
      have u1 : kc u = kc (hX * Z') - kc X' := by rw [← hu0, kc_m, kc_subn]
      have uu1 : kc uu = kc u * kc u := by rw [← huu, kc_m, kc_mul']
      have uuu1 : kc uuu = kc uu * kc u := by rw [← huuu, kc_m, kc_mul']
      have t1 : kc t = kc d * kc d * kc Z' - kc uuu - 2 * kc X' * kc uu := by rw [← ht, kc_m, kc_subn, kc_subn, kc_mul', kc_mul', kc_mul', kc_mul', k2]
      rw [← d1, ← u1, ← uu1, ← uuu1, ← t1] at hs
      refine climb_ok e k _ _ _ h ?_
      rw [hbit, ← hs, kc_m, kc_m, kc_m, kc_mul', kc_subn, kc_mul', kc_subn, kc_mul', kc_mul', kc_mul']
    · rw [if_neg hb] at h hbit
      rw [padd_zero] at hbit
      exact climb_ok e k _ _ _ h hbit.symm
theorem q_base : pmul qN hP = .O := by
  have one : kc 1 = 1 := by decide
  have hnP : nm (kc hX) (kc hY) (kc 1) = hP := nm_is (by decide) (by rw [one]; grind -lia -linarith) (by rw [one]; grind -lia -linarith)
  have h := climb_ok (qN - 1) 255 hX hY 1 climbed (by rw [hnP, show (qN - 1) / 2 ^ 255 = 1 by decide]; rfl)
  have e : qN = (qN - 1) + 1 := by decide
  rw [e]
  show padd (pmul (qN - 1) hP) hP = .O
  rw [h, padd_comm]
  exact padd_neg
/- the group's plain laws -/
theorem padd_cancel {a b c : Pt} (ha : onC a) (hb : onC b) (hc : onC c) (h : padd a b = padd a c) : b = c := by
  have h1 : padd (pneg a) (padd a b) = padd (pneg a) (padd a c) := by rw [h]
  rw [← padd_assoc (pneg_on ha) ha hb, ← padd_assoc (pneg_on ha) ha hc, padd_comm (pneg a) a, padd_neg] at h1
  exact h1
theorem pneg_uniq {a b : Pt} (ha : onC a) (hb : onC b) (h : padd a b = .O) : b = pneg a := padd_cancel ha hb (pneg_on ha) (by rw [h, padd_neg])
theorem no_two {p : Pt} (hp : onC p) (h : padd p p = .O) : p = .O := by
  have e := pneg_uniq hp hp h
  cases p with
  | O => rfl
  | A x y =>
    exfalso
    have hy : y = -y := by
      have : Pt.A x y = Pt.A x (-y) := e
      injection this
    have h2 : (2 : K) * y = 0 := by grind -lia -linarith
    exact (mul_zero' h2).elim two_ne (y_ne hp)
theorem padd_swap {a b c d : Pt} (ha : onC a) (hb : onC b) (hc : onC c) (hd : onC d) : padd (padd a b) (padd c d) = padd (padd a c) (padd b d) := by
  rw [padd_assoc ha hb (padd_on hc hd), ← padd_assoc hb hc hd, padd_comm b c, padd_assoc hc hb hd, ← padd_assoc ha hc (padd_on hb hd)]
/-- a multiple of the base -/
def InH (p : Pt) : Prop := ∃ n, p = pmul n hP
theorem InH.on {p : Pt} (h : InH p) : onC p := by obtain ⟨n, rfl⟩ := h; exact pmul_on hP_on n
theorem InH.add {p q : Pt} (h : InH p) (k : InH q) : InH (padd p q) := by
  obtain ⟨m, rfl⟩ := h
  obtain ⟨n, rfl⟩ := k
  exact ⟨m + n, (pmul_add hP_on m n).symm⟩
theorem q_mul (n : Nat) : pmul (qN * n) hP = .O := by rw [pmul_mul hP_on, q_base, pmul_O]
theorem InH.neg {p : Pt} (h : InH p) : InH (pneg p) := by
  obtain ⟨n, rfl⟩ := h
  refine ⟨(qN - 1) * n, (pneg_uniq (pmul_on hP_on n) (pmul_on hP_on _) ?_).symm⟩
  rw [← pmul_add hP_on, show n + (qN - 1) * n = qN * n by have h := Nat.add_mul 1 (qN - 1) n; rw [Nat.one_mul, show 1 + (qN - 1) = qN by decide] at h; exact h.symm, q_mul]
theorem InH.half {p : Pt} (hp : onC p) (h : InH (padd p p)) : InH p := by
  obtain ⟨n, hn⟩ := h
  have hm : onC (pmul (n * ((qN + 1) / 2)) hP) := pmul_on hP_on _
  have e : padd (pmul (n * ((qN + 1) / 2)) hP) (pmul (n * ((qN + 1) / 2)) hP) = pmul n hP := by
    rw [← pmul_add hP_on, ← Nat.mul_add, show (qN + 1) / 2 + (qN + 1) / 2 = qN + 1 by decide, Nat.mul_add, Nat.mul_one, pmul_add hP_on, Nat.mul_comm n, q_mul]
    rfl
  refine ⟨n * ((qN + 1) / 2), ?_⟩
  have h2 : padd (padd p (pneg (pmul (n * ((qN + 1) / 2)) hP))) (padd p (pneg (pmul (n * ((qN + 1) / 2)) hP))) = .O := by
    rw [padd_swap hp (pneg_on hm) hp (pneg_on hm), hn, ← e, padd_swap hm hm (pneg_on hm) (pneg_on hm), padd_neg]
    rfl
  have h3 := no_two (padd_on hp (pneg_on hm)) h2
  have h4 : padd (pneg (pmul (n * ((qN + 1) / 2)) hP)) p = padd (pneg (pmul (n * ((qN + 1) / 2)) hP)) (pmul (n * ((qN + 1) / 2)) hP) := by
    rw [padd_comm, h3, padd_comm, padd_neg]
  exact padd_cancel (pneg_on hm) hp hm h4
theorem base_inj {i j : Nat} (hi : i < qN) (hj : j < qN) (h : pmul i hP = pmul j hP) : i = j := by
  have key : ∀ i j : Nat, j < qN → i < j → pmul i hP = pmul j hP → False := by
    intro i j hj hij h
    have hd : pmul (j - i) hP = .O := by
      refine padd_cancel (pmul_on hP_on i) (pmul_on hP_on _) trivial ?_
      rw [← pmul_add hP_on, show i + (j - i) = j by omega, ← h, padd_zero]
    have hq := qN_pQ
    have hinv := FP.inv FP_Q (a := j - i) (by omega) (by omega)
    have e1 : pmul ((j - i) * ((j - i) ^ (pQ - 2) % pQ)) hP = .O := by rw [pmul_mul hP_on, hd, pmul_O]
    generalize (j - i) * ((j - i) ^ (pQ - 2) % pQ) = m at *
    rw [← hq] at hinv
    have hm := Nat.div_add_mod m qN
    rw [hinv] at hm
    rw [← hm, pmul_add hP_on, q_mul] at e1
    have e2 : padd (.O) (pmul 1 hP) = hP := rfl
    rw [e2] at e1
    cases e1
  rcases Nat.lt_trichotomy i j with k | k | k
  · exact (key i j hj k h).elim
  · exact k
  · exact (key j i hi k h.symm).elim
/-- no two in one place -/
theorem pig (N B : Nat) (g : Nat → Nat) (hb : ∀ a, a < N → g a < B) (hi : ∀ a b, a < N → b < N → g a = g b → a = b) : N ≤ B := by
  have hnd : ((List.range N).map g).Nodup := by
    refine List.pairwise_map.2 ?_
    have h0 : (List.range N).Nodup := List.nodup_range
    refine List.Pairwise.imp_of_mem (fun {a b} ha hb' hne => ?_) h0
    exact fun e => hne (hi a b (List.mem_range.1 ha) (List.mem_range.1 hb') e)
  have hs : (List.range N).map g ⊆ List.range B := by
    intro x hx
    obtain ⟨a, ha, rfl⟩ := List.mem_map.1 hx
    exact List.mem_range.2 (hb a (List.mem_range.1 ha))
  have := List.Nodup.length_le_of_subset hnd hs
  simpa using this
/-- a point's number -/
def enc : Pt → Nat
  | .O => 0
  | .A x y => 1 + 2 * x.val + y.val % 2
theorem enc_lt (p : Pt) : enc p < 2 * fP + 1 := by
  cases p with
  | O => show 0 < 2 * fP + 1; omega
  | A x y => have := x.isLt; show 1 + 2 * x.val + y.val % 2 < 2 * fP + 1; omega
theorem enc_inj {p q : Pt} (hp : onC p) (hq : onC q) (h : enc p = enc q) : p = q := by
  cases p with
  | O => cases q with
    | O => rfl
    | A x y => have h' : 0 = 1 + 2 * x.val + y.val % 2 := h; omega
  | A x y => cases q with
    | O => have h' : 1 + 2 * x.val + y.val % 2 = 0 := h; omega
    | A x' y' =>
      have h' : 1 + 2 * x.val + y.val % 2 = 1 + 2 * x'.val + y'.val % 2 := h
      have hx : x = x' := Fin.ext (by omega)
      have hy : y.val % 2 = y'.val % 2 := by omega
      subst hx
      have hp' : y * y = x * x * x + 7 := hp
      have hq' : y' * y' = x * x * x + 7 := hq
      rcases sq_same (hp'.trans hq'.symm) with e | e
      · rw [e]
      · exfalso
        rw [e, neg_val_par y' (y_ne hq')] at hy
        omega
theorem three_q : ¬ 3 * qN ≤ 2 * fP + 1 := by decide
/-- each point is a multiple of the base -/
theorem all_H {p : Pt} (hp : onC p) : InH p := by
  refine Classical.byContradiction fun hn => ?_
  have hnp := pneg_on hp
  let c : Nat → Pt := fun k => if k = 0 then .O else if k = 1 then p else pneg p
  have hc : ∀ k, onC (c k) := fun k => by
    show onC (if k = 0 then .O else if k = 1 then p else pneg p)
    split
    · trivial
    · split
      · exact hp
      · exact hnp
  -- two of the three lie apart by no multiple of the base
  have hsub : ∀ a b : Pt, onC a → onC b → ∀ i j, padd a (pmul i hP) = padd b (pmul j hP) → InH (padd a (pneg b)) := by
    intro a b ha hb i j h
    have hI := pmul_on hP_on i
    have hJ := pmul_on hP_on j
    obtain ⟨m, hm⟩ := InH.add (p := pmul j hP) (q := pneg (pmul i hP)) ⟨j, rfl⟩ (InH.neg ⟨i, rfl⟩)
    refine ⟨m, ?_⟩
    rw [← hm]
    have e1 : padd (padd a (pmul i hP)) (padd (pneg b) (pneg (pmul i hP))) = padd (padd b (pmul j hP)) (padd (pneg b) (pneg (pmul i hP))) := by rw [h]
    rw [padd_swap ha hI (pneg_on hb) (pneg_on hI), padd_swap hb hJ (pneg_on hb) (pneg_on hI), padd_neg, padd_neg, padd_zero] at e1
    exact e1
  have hdiff : ∀ k l, k < 3 → l < 3 → InH (padd (c k) (pneg (c l))) → k = l := by
    have h0 : c 0 = .O := rfl
    have h1 : c 1 = p := rfl
    have h2 : c 2 = pneg p := rfl
    have nn : pneg (pneg p) = p := (pneg_uniq hnp hp (by rw [padd_comm, padd_neg])).symm
    have hneg : InH (pneg p) → InH p := fun h => by have := h.neg; rwa [nn] at this
    intro k l hk hl h
    have hk3 : k = 0 ∨ k = 1 ∨ k = 2 := by omega
    have hl3 : l = 0 ∨ l = 1 ∨ l = 2 := by omega
    rcases hk3 with rfl | rfl | rfl <;> rcases hl3 with rfl | rfl | rfl <;> try rfl
    · rw [h0, h1] at h; exact (hn (hneg h)).elim
    · rw [h0, h2, nn] at h; exact (hn h).elim
    · rw [h0, h1] at h; exact (hn (by have h' : InH (padd p .O) := h; rwa [padd_zero] at h')).elim
    · rw [h1, h2, nn] at h; exact (hn (InH.half hp h)).elim
    · rw [h0, h2] at h; exact (hn (hneg (by have h' : InH (padd (pneg p) .O) := h; rwa [padd_zero] at h'))).elim
    · rw [h1, h2] at h; exact (hn (hneg (InH.half hnp h))).elim
  have hq : 0 < qN := by decide
  have h3 := three_q
  generalize hqn : qN = q at hq h3
  refine h3 (pig (3 * q) (2 * fP + 1) (fun m => enc (padd (c (m / q)) (pmul (m % q) hP))) (fun a _ => enc_lt _) ?_)
  intro a b ha hb h
  have ha3 : a / q < 3 := Nat.div_lt_of_lt_mul (by rw [Nat.mul_comm]; exact ha)
  have hb3 : b / q < 3 := Nat.div_lt_of_lt_mul (by rw [Nat.mul_comm]; exact hb)
  have e := enc_inj (padd_on (hc _) (pmul_on hP_on _)) (padd_on (hc _) (pmul_on hP_on _)) h
  have ek := hdiff _ _ ha3 hb3 (hsub _ _ (hc _) (hc _) _ _ e)
  rw [ek] at e
  have e2 := padd_cancel (hc _) (pmul_on hP_on _) (pmul_on hP_on _) e
  have hma := Nat.mod_lt a hq
  have hmb := Nat.mod_lt b hq
  rw [← hqn] at hma hmb e2
  have e3 := base_inj hma hmb e2
  rw [hqn] at e3
  rw [← Nat.div_add_mod a q, ← Nat.div_add_mod b q, ek, e3]
/-- each point, so many times, is nothing -/
theorem pmul_q {p : Pt} (hp : onC p) : pmul qN p = .O := by
  obtain ⟨n, rfl⟩ := all_H hp
  rw [← pmul_mul hP_on, Nat.mul_comm, q_mul]
theorem pmul_mod {p : Pt} (hp : onC p) (n : Nat) : pmul (n % qN) p = pmul n p := by
  have h := Nat.div_add_mod n qN
  conv => rhs; rw [← h, pmul_add hp, pmul_mul hp, pmul_q hp, pmul_O]
  rfl
theorem pmul_neg {p : Pt} (hp : onC p) (n : Nat) : pmul (qN - n % qN) p = pneg (pmul n p) := by
  refine pneg_uniq (pmul_on hp n) (pmul_on hp _) ?_
  rw [← pmul_mod hp n, ← pmul_add hp]
  have := Nat.mod_lt n (show 0 < qN by decide)
  rw [show n % qN + (qN - n % qN) = qN by omega, pmul_q hp]
end Mvq

/- zn: scalars: order, Of, the methods, Wide, Small. -/
namespace Go.Proofs.Ytdbgddngapminaa
open Go.RowKit Go.Mv Mvp
attribute [local irreducible] limbs lw mix cw cSub cAdd cMul foldC valFrom beN laid be32 powm montT mstep elN mdL numB
theorem exec_build {P : Program} {o : Oper} {a : Act} {t : TypeId} {parts : Array (Nat × Operand)} (ho : o.op = .build t parts) (cells : Array Value)
    (hb : P.built t (parts.toList.map fun p => (p.1, a.eval p.2)) = some cells) (w : World) : (execOp a.eval o).run P w = .ok (.value (.agg cells)) w := by
  have hr := run_build (P := P) w t (parts.map fun (i, x) => (i, a.eval x)) cells (by
    have : (parts.map fun (i, x) => (i, a.eval x)).toList = (parts.toList.map fun p => (p.1, a.eval p.2)) := by simp
    rw [this]; exact hb)
  unfold execOp
  simp only [ho, Sem.run_bind, Sem.run_pure, Result.andThen_ok, hr]
theorem results_st2 {P : Program} {fn : Func} {p : Tmp} {ty : TypeId} {s : Tmp} (h : fn.results = #[.cell p ty, .tmp s]) {tmps : Array Value} {w : World} {g : Nat} {L : List Value} {T : TypeId}
    (hp : tmps.getD p undef = .pointer (some ⟨g, 0, none⟩)) (hg : Has w g L T) {d : TypeDesc} (hu : P.underlying ty = some d) (hd : (match d with | .struct _ | .array _ _ => true | _ => false) = true) (hi : (P.info? ty).map (·.size) = some L.length) {v : Value} (hv : tmps.getD s undef = v) :
    (results fn tmps).run P w = .ok (.tuple #[.agg L.toArray, v]) w := by
  obtain ⟨lo, hi', hh, -⟩ := hg
  have hp' : tmps[p]?.getD undef = .pointer (some ⟨g, 0, none⟩) := by simpa using hp
  have hv' : tmps[s]?.getD undef = v := by simpa using hv
  simp [results, h, hp', hv', asAddr, run_loadVar_row w g T ty L.toArray _ _ hh hu (by cases d <;> first | rfl | (simp at hd)) (by simpa using hi)]
theorem info_Z : (Try.prog.info? 107).map (fun i => (i.zero, i.size, i.bytes)) = some (some (.agg #[.int .u64 0, .int .u64 0, .int .u64 0, .int .u64 0]), 4, 32) := by kernel_rfl
theorem built_Z (a : Nat) : Try.prog.built 107 [(0, i4 a)] = some (cw 4 a).toArray := by kernel_rfl
theorem order_any (m : Md) (hk : KindOf 1 m) (w : World) : Calls Try.prog 110 #[] w fun e w' => ∃ gp, e = .returned (.pointer (some ⟨gp, 0, none⟩)) ∧ w.heap.size ≤ gp ∧ Has w' gp (mdL m) 134 ∧ Fr Nob w w' := by
  have HK := Lib.hid hk
  clear hk
  go_enter Try.func110, Try.ntmps110
  go_wp2_with fail
  refine (OfK HK.out _).mono ?_
  rintro e w1 ⟨gp, rfl, hle, hm, hf⟩
  have HL := Lib.hid hle
  have HM := Lib.hid hm
  have HF := Lib.hid hf
  clear hm hf hle
  go_wp2_with fail
  go_ret
  exact ⟨gp, rfl, HL.out, HM.out, HF.out⟩

set_option maxHeartbeats 8000000 in
set_option maxRecDepth 100000 in
theorem ZSub_any (m : Md) (hk : KindOf 1 m) (x y : Nat) (w : World) :
    Calls Try.prog 67 #[i4 (elN m x), i4 (elN m y)] w fun e w' => e = .returned (i4 (elN m (x + (m.M - y % m.M)))) ∧ Fr Nob w w' := by
  have HK := Lib.hid hk
  have HOK := Lib.hid hk.ok
  clear hk
  have st0 := St.start Nob w
  go_enter Try.func67, Try.ntmps67
  go_wp2_with (with_reducible refine wl_stop (o := ⟨some 2, _, _, _, _, _⟩) ?_)
  refine wl_boxS st0 rfl rfl rfl (cw 4 (elN m x)) rfl ?_
  intro g2 w1 st1
  clear st0
  go_wp2_with (with_reducible refine wl_stop (o := ⟨some 3, _, _, _, _, _⟩) ?_)
  refine wl_boxS st1 rfl rfl rfl (cw 4 (elN m y)) rfl ?_
  intro g3 w2 st2
  clear st1
  go_wp2_with (with_reducible refine wl_stop (o := ⟨some 4, _, _, _, _, _⟩) ?_)
  refine wl_allocS st2 rfl rfl (z := .agg #[.int .u64 0, .int .u64 0, .int .u64 0, .int .u64 0]) (by kernel_rfl) (cw 4 0) (by rw [cw_zero]; rfl) ?_
  intro g4 w3 st3
  clear st2
  go_wp2_with fail
  refine wp_region_noPanic ?_
  refine wp_region_plan (fun wx => St Nob w wx [(g2, cw 4 (elN m x), 107), (g3, cw 4 (elN m y), 107), (g4, cw 4 0, 107)]) 7 (.w 1 (.t 2 (.w 3 (.t 4 (.r 0 (.r 5 (.w 6 (.m 7 .nil)))))))) (by kernel_rfl) (by kernel_rfl) st3.drew (fun _ _ _ _ _ h => h) ?_
  have hd3 := st3.drew
  clear st3
  refine plan_w (v := ?_) rfl rfl (fun wx => ?_) ?_
  rotate_left 1
  · (go_simp; with_reducible rfl)
  try simp only [Act.put, List.setIfInBounds_toArray, List.set_cons_zero, List.set_cons_succ]
  refine plan_arr rfl rfl rfl rfl (cw 4 (elN m x)) (fun wx hS => St.rangeL hS 0 rfl 0 _ (by rw [List.drop_zero, List.take_of_length_le (Nat.le_refl _)])) Try.underlying70 rfl (by first | (rw [cw_len]; kernel_rfl) | (simp only [List.length_append, cw_len]; kernel_rfl)) ?_
  try simp only [Act.put, List.setIfInBounds_toArray, List.set_cons_zero, List.set_cons_succ]
  refine plan_w (v := ?_) rfl rfl (fun wx => ?_) ?_
  rotate_left 1
  · (go_simp; with_reducible rfl)
  try simp only [Act.put, List.setIfInBounds_toArray, List.set_cons_zero, List.set_cons_succ]
  refine plan_arr rfl rfl rfl rfl (cw 4 (elN m y)) (fun wx hS => St.rangeL hS 1 rfl 0 _ (by rw [List.drop_zero, List.take_of_length_le (Nat.le_refl _)])) Try.underlying70 rfl (by first | (rw [cw_len]; kernel_rfl) | (simp only [List.length_append, cw_len]; kernel_rfl)) ?_
  try simp only [Act.put, List.setIfInBounds_toArray, List.set_cons_zero, List.set_cons_succ]
  refine plan_r rfl rfl ?_
  go_simp
  refine (order_any m HK.out _).mono ?_
  rintro e' w4 ⟨gp, rfl, hle, hm, hf4⟩
  have st4 : St Nob w w4 [(g2, cw 4 (elN m x), 107), (g3, cw 4 (elN m y), 107), (g4, cw 4 0, 107), (gp, mdL m, 134)] := hd3.new hf4 hm hle
  clear hf4 hm hle
  clear hd3
  refine ⟨St.less st4 (by simp), ?_⟩
  try simp only [Act.put, List.setIfInBounds_toArray, List.set_cons_zero, List.set_cons_succ]
  refine plan_r rfl rfl ?_
  go_simp
  refine (MSub_any m gp _ HOK.out (st4.at 3 rfl) x y).mono ?_
  rintro e' w5 ⟨rfl, hf5⟩
  have st5 := st4.keep hf5
  clear hf5
  clear st4
  refine ⟨St.less st5 (by simp), ?_⟩
  try simp only [Act.put, List.setIfInBounds_toArray, List.set_cons_zero, List.set_cons_succ]
  refine plan_w rfl rfl (exec_build rfl _ (built_Z _)) ?_
  try simp only [Act.put, List.setIfInBounds_toArray, List.set_cons_zero, List.set_cons_succ]
  refine plan_m rfl rfl ?_
  refine wp_storeS st5 2 rfl rfl rfl rfl (by first | (simp only [cw_len]; done) | (simp only [List.length_append, cw_len]; done)) (by first | (rw [cw_len]; kernel_rfl) | (simp only [List.length_append, cw_len]; kernel_rfl)) (cw_one _ _) ?_
  intro w6 st6
  clear st5
  try simp only [Act.put]
  refine plan_end ?_
  refine NoPanic.normal ?_
  have hr := st6.at 2 rfl
  have hfr := st6.fr
  clear st6
  go_wp2_with fail
  exact bodyPost_ret (results_st rfl rfl hr Try.underlying107 rfl (by first | (rw [cw_len]; kernel_rfl) | (simp only [List.length_append, cw_len]; kernel_rfl))) rfl ⟨rfl, hfr⟩

set_option maxHeartbeats 8000000 in
set_option maxRecDepth 100000 in
theorem ZMul_any (m : Md) (hk : KindOf 1 m) (x y : Nat) (w : World) :
    Calls Try.prog 68 #[i4 (elN m x), i4 (elN m y)] w fun e w' => e = .returned (i4 (elN m (x * y))) ∧ Fr Nob w w' := by
  have HK := Lib.hid hk
  have HOK := Lib.hid hk.ok
  clear hk
  have st0 := St.start Nob w
  go_enter Try.func68, Try.ntmps68
  go_wp2_with (with_reducible refine wl_stop (o := ⟨some 2, _, _, _, _, _⟩) ?_)
  refine wl_boxS st0 rfl rfl rfl (cw 4 (elN m x)) rfl ?_
  intro g2 w1 st1
  clear st0
  go_wp2_with (with_reducible refine wl_stop (o := ⟨some 3, _, _, _, _, _⟩) ?_)
  refine wl_boxS st1 rfl rfl rfl (cw 4 (elN m y)) rfl ?_
  intro g3 w2 st2
  clear st1
  go_wp2_with (with_reducible refine wl_stop (o := ⟨some 4, _, _, _, _, _⟩) ?_)
  refine wl_allocS st2 rfl rfl (z := .agg #[.int .u64 0, .int .u64 0, .int .u64 0, .int .u64 0]) (by kernel_rfl) (cw 4 0) (by rw [cw_zero]; rfl) ?_
  intro g4 w3 st3
  clear st2
  go_wp2_with fail
  refine wp_region_noPanic ?_
  refine wp_region_plan (fun wx => St Nob w wx [(g2, cw 4 (elN m x), 107), (g3, cw 4 (elN m y), 107), (g4, cw 4 0, 107)]) 7 (.w 1 (.t 2 (.w 3 (.t 4 (.r 0 (.r 5 (.w 6 (.m 7 .nil)))))))) (by kernel_rfl) (by kernel_rfl) st3.drew (fun _ _ _ _ _ h => h) ?_
  have hd3 := st3.drew
  clear st3
  refine plan_w (v := ?_) rfl rfl (fun wx => ?_) ?_
  rotate_left 1
  · (go_simp; with_reducible rfl)
  try simp only [Act.put, List.setIfInBounds_toArray, List.set_cons_zero, List.set_cons_succ]
  refine plan_arr rfl rfl rfl rfl (cw 4 (elN m x)) (fun wx hS => St.rangeL hS 0 rfl 0 _ (by rw [List.drop_zero, List.take_of_length_le (Nat.le_refl _)])) Try.underlying70 rfl (by first | (rw [cw_len]; kernel_rfl) | (simp only [List.length_append, cw_len]; kernel_rfl)) ?_
  try simp only [Act.put, List.setIfInBounds_toArray, List.set_cons_zero, List.set_cons_succ]
  refine plan_w (v := ?_) rfl rfl (fun wx => ?_) ?_
  rotate_left 1
  · (go_simp; with_reducible rfl)
  try simp only [Act.put, List.setIfInBounds_toArray, List.set_cons_zero, List.set_cons_succ]
  refine plan_arr rfl rfl rfl rfl (cw 4 (elN m y)) (fun wx hS => St.rangeL hS 1 rfl 0 _ (by rw [List.drop_zero, List.take_of_length_le (Nat.le_refl _)])) Try.underlying70 rfl (by first | (rw [cw_len]; kernel_rfl) | (simp only [List.length_append, cw_len]; kernel_rfl)) ?_
  try simp only [Act.put, List.setIfInBounds_toArray, List.set_cons_zero, List.set_cons_succ]
  refine plan_r rfl rfl ?_
  go_simp
  refine (order_any m HK.out _).mono ?_
  rintro e' w4 ⟨gp, rfl, hle, hm, hf4⟩
  have st4 : St Nob w w4 [(g2, cw 4 (elN m x), 107), (g3, cw 4 (elN m y), 107), (g4, cw 4 0, 107), (gp, mdL m, 134)] := hd3.new hf4 hm hle
  clear hf4 hm hle
  clear hd3
  refine ⟨St.less st4 (by simp), ?_⟩
  try simp only [Act.put, List.setIfInBounds_toArray, List.set_cons_zero, List.set_cons_succ]
  refine plan_r rfl rfl ?_
  go_simp
  refine (MMulE m gp _ HOK.out (st4.at 3 rfl) x y).mono ?_
  rintro e' w5 ⟨rfl, hf5⟩
  have st5 := st4.keep hf5
  clear hf5
  clear st4
  refine ⟨St.less st5 (by simp), ?_⟩
  try simp only [Act.put, List.setIfInBounds_toArray, List.set_cons_zero, List.set_cons_succ]
  refine plan_w rfl rfl (exec_build rfl _ (built_Z _)) ?_
  try simp only [Act.put, List.setIfInBounds_toArray, List.set_cons_zero, List.set_cons_succ]
  refine plan_m rfl rfl ?_
  refine wp_storeS st5 2 rfl rfl rfl rfl (by first | (simp only [cw_len]; done) | (simp only [List.length_append, cw_len]; done)) (by first | (rw [cw_len]; kernel_rfl) | (simp only [List.length_append, cw_len]; kernel_rfl)) (cw_one _ _) ?_
  intro w6 st6
  clear st5
  try simp only [Act.put]
  refine plan_end ?_
  refine NoPanic.normal ?_
  have hr := st6.at 2 rfl
  have hfr := st6.fr
  clear st6
  go_wp2_with fail
  exact bodyPost_ret (results_st rfl rfl hr Try.underlying107 rfl (by first | (rw [cw_len]; kernel_rfl) | (simp only [List.length_append, cw_len]; kernel_rfl))) rfl ⟨rfl, hfr⟩

set_option maxHeartbeats 8000000 in
set_option maxRecDepth 100000 in
theorem ZInv_any (m : Md) (hk : KindOf 1 m) (x : Nat) (w : World) :
    Calls Try.prog 69 #[i4 (elN m x)] w fun e w' => e = .returned (i4 (elN m (x ^ (m.M - 2)))) ∧ Fr Nob w w' := by
  have HK := Lib.hid hk
  have HOK := Lib.hid hk.ok
  clear hk
  have st0 := St.start Nob w
  go_enter Try.func69, Try.ntmps69
  go_wp2_with (with_reducible refine wl_stop (o := ⟨some 1, _, _, _, _, _⟩) ?_)
  refine wl_boxS st0 rfl rfl rfl (cw 4 (elN m x)) rfl ?_
  intro g1 w1 st1
  clear st0
  go_wp2_with (with_reducible refine wl_stop (o := ⟨some 2, _, _, _, _, _⟩) ?_)
  refine wl_allocS st1 rfl rfl (z := .agg #[.int .u64 0, .int .u64 0, .int .u64 0, .int .u64 0]) (by kernel_rfl) (cw 4 0) (by rw [cw_zero]; rfl) ?_
  intro g2 w2 st2
  clear st1
  go_wp2_with fail
  refine wp_region_noPanic ?_
  refine wp_region_plan (fun wx => St Nob w wx [(g1, cw 4 (elN m x), 107), (g2, cw 4 0, 107)]) 5 (.w 1 (.t 2 (.r 0 (.r 3 (.w 4 (.m 5 .nil)))))) (by kernel_rfl) (by kernel_rfl) st2.drew (fun _ _ _ _ _ h => h) ?_
  have hd2 := st2.drew
  clear st2
  refine plan_w (v := ?_) rfl rfl (fun wx => ?_) ?_
  rotate_left 1
  · (go_simp; with_reducible rfl)
  try simp only [Act.put, List.setIfInBounds_toArray, List.set_cons_zero, List.set_cons_succ]
  refine plan_arr rfl rfl rfl rfl (cw 4 (elN m x)) (fun wx hS => St.rangeL hS 0 rfl 0 _ (by rw [List.drop_zero, List.take_of_length_le (Nat.le_refl _)])) Try.underlying70 rfl (by first | (rw [cw_len]; kernel_rfl) | (simp only [List.length_append, cw_len]; kernel_rfl)) ?_
  try simp only [Act.put, List.setIfInBounds_toArray, List.set_cons_zero, List.set_cons_succ]
  refine plan_r rfl rfl ?_
  go_simp
  refine (order_any m HK.out _).mono ?_
  rintro e' w3 ⟨gp, rfl, hle, hm, hf3⟩
  have st3 : St Nob w w3 [(g1, cw 4 (elN m x), 107), (g2, cw 4 0, 107), (gp, mdL m, 134)] := hd2.new hf3 hm hle
  clear hf3 hm hle
  clear hd2
  refine ⟨St.less st3 (by simp), ?_⟩
  try simp only [Act.put, List.setIfInBounds_toArray, List.set_cons_zero, List.set_cons_succ]
  refine plan_r rfl rfl ?_
  go_simp
  refine (MInv_any m gp _ HOK.out (st3.at 2 rfl) x).mono ?_
  rintro e' w4 ⟨rfl, hf4⟩
  have st4 := st3.keep hf4
  clear hf4
  clear st3
  refine ⟨St.less st4 (by simp), ?_⟩
  try simp only [Act.put, List.setIfInBounds_toArray, List.set_cons_zero, List.set_cons_succ]
  refine plan_w rfl rfl (exec_build rfl _ (built_Z _)) ?_
  try simp only [Act.put, List.setIfInBounds_toArray, List.set_cons_zero, List.set_cons_succ]
  refine plan_m rfl rfl ?_
  refine wp_storeS st4 1 rfl rfl rfl rfl (by first | (simp only [cw_len]; done) | (simp only [List.length_append, cw_len]; done)) (by first | (rw [cw_len]; kernel_rfl) | (simp only [List.length_append, cw_len]; kernel_rfl)) (cw_one _ _) ?_
  intro w5 st5
  clear st4
  try simp only [Act.put]
  refine plan_end ?_
  refine NoPanic.normal ?_
  have hr := st5.at 1 rfl
  have hfr := st5.fr
  clear st5
  go_wp2_with fail
  exact bodyPost_ret (results_st rfl rfl hr Try.underlying107 rfl (by first | (rw [cw_len]; kernel_rfl) | (simp only [List.length_append, cw_len]; kernel_rfl))) rfl ⟨rfl, hfr⟩

set_option maxHeartbeats 8000000 in
set_option maxRecDepth 100000 in
theorem Zof_len (m : Md) (hk : KindOf 1 m) (a : Option Addr) (n c : Nat) (l : List UInt8) (w : World) (hb : RdB w a n l) (h32 : l.length ≠ 32) :
    Calls Try.prog 74 #[.slice a n c] w fun e w' => e = .returned (.tuple #[i4 0, .bool false]) ∧ Fr Nob w w' := by
  have HK := Lib.hid hk
  have HOK := Lib.hid hk.ok
  clear hk
  have HB := Lib.hid hb
  have HN := Lib.hid (show l.length = n from hb.len)
  clear hb
  have hne : ((n : Int) != 32) = true := by have := HN.out; simp; omega
  clear h32
  have st0 := St.start Nob w
  go_enter Try.func74, Try.ntmps74
  go_wp2_with (with_reducible refine wl_stop (o := ⟨some 2, _, _, _, _, _⟩) ?_)
  refine wl_allocS st0 rfl rfl (z := .agg #[.int .u64 0, .int .u64 0, .int .u64 0, .int .u64 0]) (by kernel_rfl) (cw 4 0) (by rw [cw_zero]; rfl) ?_
  intro g2 w1 st1
  clear st0
  go_wp2_with (with_reducible refine wl_stop (o := ⟨some 9, _, _, _, _, _⟩) ?_)
  refine wl_loadSt st1 0 rfl rfl rfl Try.underlying107 rfl rfl (by first | (rw [cw_len]; kernel_rfl) | (simp only [List.length_append, cw_len]; kernel_rfl)) ?_
  go_wp2_with (with_reducible refine wl_stop (o := ⟨none, _, _, _, _, _⟩) ?_)
  refine wl_storeS st1 0 rfl rfl rfl rfl rfl (by first | (simp only [cw_len]; done) | (simp only [List.length_append, cw_len]; done)) (by first | (rw [cw_len]; kernel_rfl) | (simp only [List.length_append, cw_len]; kernel_rfl)) (cw_one _ _) ?_
  intro w2 st2
  clear st1
  have hr := st2.at 0 rfl
  have hfr := st2.fr
  clear st2
  go_wp2_with fail
  exact bodyPost_ret (results_st2 rfl rfl hr Try.underlying107 rfl (by first | (rw [cw_len]; kernel_rfl) | (simp only [List.length_append, cw_len]; kernel_rfl)) rfl) rfl ⟨rfl, hfr⟩

set_option maxHeartbeats 8000000 in
set_option maxRecDepth 100000 in
theorem Zof_ok (m : Md) (hk : KindOf 1 m) (a : Option Addr) (n c : Nat) (l : List UInt8) (w : World) (hb : RdB w a n l) (h32 : l.length = 32) (hlt : beN l < m.M) :
    Calls Try.prog 74 #[.slice a n c] w fun e w' => e = .returned (.tuple #[i4 (elN m (beN l)), .bool true]) ∧ Fr Nob w w' := by
  have HK := Lib.hid hk
  have HOK := Lib.hid hk.ok
  clear hk
  have hbl := beN_le32 l (by omega)
  have HBL := Lib.hid hbl
  have h32' : n = 32 := by have := hb.len; omega
  subst h32'
  have HB := Lib.hid hb
  have hne : (((32 : Nat) : Int) != 32) = false := by rfl
  clear hb hbl h32
  have HLT := Lib.hid hlt
  clear hlt
  have st0 := St.start Nob w
  go_enter Try.func74, Try.ntmps74
  go_wp2_with (with_reducible refine wl_stop (o := ⟨some 2, _, _, _, _, _⟩) ?_)
  refine wl_allocS st0 rfl rfl (z := .agg #[.int .u64 0, .int .u64 0, .int .u64 0, .int .u64 0]) (by kernel_rfl) (cw 4 0) (by rw [cw_zero]; rfl) ?_
  intro g2 w1 st1
  clear st0
  go_wp2_with fail
  refine (order_any m HK.out _).mono ?_
  rintro e' w2 ⟨gp, rfl, hle, hm, hf2⟩
  have st2 : St Nob w w2 [(g2, cw 4 0, 107), (gp, mdL m, 134)] := st1.new hf2 hm hle
  clear st1 hf2 hm hle
  go_wp2_with fail
  refine (FromBytes_any a 32 c l _ (HB.out.still st2.fr) (by decide)).mono ?_
  rintro e' w3 ⟨rfl, hf3⟩
  have st3 := st2.keep hf3
  clear st2 hf3
  go_wp2_with (with_reducible refine wl_stop (o := ⟨some 5, _, _, _, _, _⟩) ?_)
  refine wl_allocS st3 rfl rfl (z := .agg #[.int .u64 0, .int .u64 0, .int .u64 0, .int .u64 0]) (by kernel_rfl) (cw 4 0) (by rw [cw_zero]; rfl) ?_
  intro g5 w4 st4
  clear st3
  go_wp2_with (with_reducible refine wl_stop (o := ⟨none, _, _, _, _, _⟩) ?_)
  refine wl_storeS st4 2 rfl rfl rfl rfl rfl (by first | (simp only [cw_len]; done) | (simp only [List.length_append, cw_len]; done)) (by first | (rw [cw_len]; kernel_rfl) | (simp only [List.length_append, cw_len]; kernel_rfl)) (cw_one _ _) ?_
  intro w5 st5
  clear st4
  go_wp2_with fail
  refine wp_region_noPanic ?_
  refine wp_region_plan (fun wx => St Nob w wx [(g2, cw 4 0, 107), (gp, mdL m, 134), (g5, cw 4 (beN l), 82)]) 6 (.t 0 (.w 1 (.w 2 (.w 3 (.t 4 (.r 5 (.m 6 .nil))))))) (by kernel_rfl) (by kernel_rfl) st5.drew (fun _ _ _ _ _ h => h) ?_
  have hd5 := st5.drew
  clear st5
  refine plan_arr rfl rfl rfl rfl (cw 4 (beN l)) (fun wx hS => St.rangeL hS 2 rfl 0 _ (by rw [List.drop_zero, List.take_of_length_le (Nat.le_refl _)])) Try.underlying82 rfl (by first | (rw [cw_len]; kernel_rfl) | (simp only [List.length_append, cw_len]; kernel_rfl)) ?_
  try simp only [Act.put, List.setIfInBounds_toArray, List.set_cons_zero, List.set_cons_succ]
  refine plan_w (v := ?_) rfl rfl (fun wx => ?_) ?_
  rotate_left 1
  · (go_simp; with_reducible rfl)
  try simp only [Act.put, List.setIfInBounds_toArray, List.set_cons_zero, List.set_cons_succ]
  refine plan_w (v := ?_) rfl rfl (fun wx => ?_) ?_
  rotate_left 1
  · (go_simp; with_reducible rfl)
  try simp only [Act.put, List.setIfInBounds_toArray, List.set_cons_zero, List.set_cons_succ]
  refine plan_w (v := ?_) rfl rfl (fun wx => ?_) ?_
  rotate_left 1
  · (go_simp; with_reducible rfl)
  try simp only [Act.put, List.setIfInBounds_toArray, List.set_cons_zero, List.set_cons_succ]
  refine plan_arr rfl rfl rfl rfl (cw 4 m.M) (fun wx hS => St.rangeL hS 1 rfl 0 _ (md_M m)) Try.underlying82 rfl (by first | (rw [cw_len]; kernel_rfl) | (simp only [List.length_append, cw_len]; kernel_rfl)) ?_
  try simp only [Act.put, List.setIfInBounds_toArray, List.set_cons_zero, List.set_cons_succ]
  refine plan_r rfl rfl ?_
  go_simp
  refine (MLess_any (beN l) m.M _ HBL.out HOK.out.lt).mono ?_
  rintro e' w6 ⟨rfl, hf6⟩
  have st6 := hd5.keep hf6
  clear hf6
  clear hd5
  refine ⟨st6, ?_⟩
  try simp only [Act.put, List.setIfInBounds_toArray, List.set_cons_zero, List.set_cons_succ]
  refine plan_m rfl rfl ?_
  go_simp
  try simp only [Act.put, List.setIfInBounds_toArray, List.set_cons_zero, List.set_cons_succ]
  refine plan_end ?_
  refine NoPanic.normal ?_
  rw [decide_eq_true HLT.out]
  go_wp2_with (with_reducible refine wl_stop (o := ⟨some 22, _, _, _, _, _⟩) ?_)
  refine wl_loadS st6 2 rfl rfl rfl Try.underlying82 rfl (by first | (rw [cw_len]; kernel_rfl) | (simp only [List.length_append, cw_len]; kernel_rfl)) ?_
  go_wp2_with fail
  refine (MTo_any m gp _ HOK.out (st6.at 1 rfl) (beN l) HBL.out).mono ?_
  rintro e' w7 ⟨rfl, hf7⟩
  have st7 := st6.keep hf7
  clear st6 hf7
  go_wp2_with (with_reducible refine wl_stop (o := ⟨some 24, _, _, _, _, _⟩) ?_)
  refine wl_buildL rfl rfl _ (built_Z _) ?_
  go_wp2_with (with_reducible refine wl_stop (o := ⟨none, _, _, _, _, _⟩) ?_)
  refine wl_storeS st7 0 rfl rfl rfl rfl rfl (by first | (simp only [cw_len]; done) | (simp only [List.length_append, cw_len]; done)) (by first | (rw [cw_len]; kernel_rfl) | (simp only [List.length_append, cw_len]; kernel_rfl)) (cw_one _ _) ?_
  intro w8 st8
  clear st7
  have hr := st8.at 0 rfl
  have hfr := st8.fr
  clear st8
  go_wp2_with fail
  exact bodyPost_ret (results_st2 rfl rfl hr Try.underlying107 rfl (by first | (rw [cw_len]; kernel_rfl) | (simp only [List.length_append, cw_len]; kernel_rfl)) rfl) rfl ⟨rfl, hfr⟩

set_option maxHeartbeats 8000000 in
set_option maxRecDepth 100000 in
theorem Zof_big (m : Md) (hk : KindOf 1 m) (a : Option Addr) (n c : Nat) (l : List UInt8) (w : World) (hb : RdB w a n l) (h32 : l.length = 32) (hlt : ¬ beN l < m.M) :
    Calls Try.prog 74 #[.slice a n c] w fun e w' => e = .returned (.tuple #[i4 0, .bool false]) ∧ Fr Nob w w' := by
  have HK := Lib.hid hk
  have HOK := Lib.hid hk.ok
  clear hk
  have hbl := beN_le32 l (by omega)
  have HBL := Lib.hid hbl
  have h32' : n = 32 := by have := hb.len; omega
  subst h32'
  have HB := Lib.hid hb
  have hne : (((32 : Nat) : Int) != 32) = false := by rfl
  clear hb hbl h32
  have HLT := Lib.hid hlt
  clear hlt
  have st0 := St.start Nob w
  go_enter Try.func74, Try.ntmps74
  go_wp2_with (with_reducible refine wl_stop (o := ⟨some 2, _, _, _, _, _⟩) ?_)
  refine wl_allocS st0 rfl rfl (z := .agg #[.int .u64 0, .int .u64 0, .int .u64 0, .int .u64 0]) (by kernel_rfl) (cw 4 0) (by rw [cw_zero]; rfl) ?_
  intro g2 w1 st1
  clear st0
  go_wp2_with fail
  refine (order_any m HK.out _).mono ?_
  rintro e' w2 ⟨gp, rfl, hle, hm, hf2⟩
  have st2 : St Nob w w2 [(g2, cw 4 0, 107), (gp, mdL m, 134)] := st1.new hf2 hm hle
  clear st1 hf2 hm hle
  go_wp2_with fail
  refine (FromBytes_any a 32 c l _ (HB.out.still st2.fr) (by decide)).mono ?_
  rintro e' w3 ⟨rfl, hf3⟩
  have st3 := st2.keep hf3
  clear st2 hf3
  go_wp2_with (with_reducible refine wl_stop (o := ⟨some 5, _, _, _, _, _⟩) ?_)
  refine wl_allocS st3 rfl rfl (z := .agg #[.int .u64 0, .int .u64 0, .int .u64 0, .int .u64 0]) (by kernel_rfl) (cw 4 0) (by rw [cw_zero]; rfl) ?_
  intro g5 w4 st4
  clear st3
  go_wp2_with (with_reducible refine wl_stop (o := ⟨none, _, _, _, _, _⟩) ?_)
  refine wl_storeS st4 2 rfl rfl rfl rfl rfl (by first | (simp only [cw_len]; done) | (simp only [List.length_append, cw_len]; done)) (by first | (rw [cw_len]; kernel_rfl) | (simp only [List.length_append, cw_len]; kernel_rfl)) (cw_one _ _) ?_
  intro w5 st5
  clear st4
  go_wp2_with fail
  refine wp_region_noPanic ?_
  refine wp_region_plan (fun wx => St Nob w wx [(g2, cw 4 0, 107), (gp, mdL m, 134), (g5, cw 4 (beN l), 82)]) 6 (.t 0 (.w 1 (.w 2 (.w 3 (.t 4 (.r 5 (.m 6 .nil))))))) (by kernel_rfl) (by kernel_rfl) st5.drew (fun _ _ _ _ _ h => h) ?_
  have hd5 := st5.drew
  clear st5
  refine plan_arr rfl rfl rfl rfl (cw 4 (beN l)) (fun wx hS => St.rangeL hS 2 rfl 0 _ (by rw [List.drop_zero, List.take_of_length_le (Nat.le_refl _)])) Try.underlying82 rfl (by first | (rw [cw_len]; kernel_rfl) | (simp only [List.length_append, cw_len]; kernel_rfl)) ?_
  try simp only [Act.put, List.setIfInBounds_toArray, List.set_cons_zero, List.set_cons_succ]
  refine plan_w (v := ?_) rfl rfl (fun wx => ?_) ?_
  rotate_left 1
  · (go_simp; with_reducible rfl)
  try simp only [Act.put, List.setIfInBounds_toArray, List.set_cons_zero, List.set_cons_succ]
  refine plan_w (v := ?_) rfl rfl (fun wx => ?_) ?_
  rotate_left 1
  · (go_simp; with_reducible rfl)
  try simp only [Act.put, List.setIfInBounds_toArray, List.set_cons_zero, List.set_cons_succ]
  refine plan_w (v := ?_) rfl rfl (fun wx => ?_) ?_
  rotate_left 1
  · (go_simp; with_reducible rfl)
  try simp only [Act.put, List.setIfInBounds_toArray, List.set_cons_zero, List.set_cons_succ]
  refine plan_arr rfl rfl rfl rfl (cw 4 m.M) (fun wx hS => St.rangeL hS 1 rfl 0 _ (md_M m)) Try.underlying82 rfl (by first | (rw [cw_len]; kernel_rfl) | (simp only [List.length_append, cw_len]; kernel_rfl)) ?_
  try simp only [Act.put, List.setIfInBounds_toArray, List.set_cons_zero, List.set_cons_succ]
  refine plan_r rfl rfl ?_
  go_simp
  refine (MLess_any (beN l) m.M _ HBL.out HOK.out.lt).mono ?_
  rintro e' w6 ⟨rfl, hf6⟩
  have st6 := hd5.keep hf6
  clear hf6
  clear hd5
  refine ⟨st6, ?_⟩
  try simp only [Act.put, List.setIfInBounds_toArray, List.set_cons_zero, List.set_cons_succ]
  refine plan_m rfl rfl ?_
  go_simp
  try simp only [Act.put, List.setIfInBounds_toArray, List.set_cons_zero, List.set_cons_succ]
  refine plan_end ?_
  refine NoPanic.normal ?_
  rw [decide_eq_false HLT.out]
  go_wp2_with (with_reducible refine wl_stop (o := ⟨some 20, _, _, _, _, _⟩) ?_)
  refine wl_loadSt st6 0 rfl rfl rfl Try.underlying107 rfl rfl (by first | (rw [cw_len]; kernel_rfl) | (simp only [List.length_append, cw_len]; kernel_rfl)) ?_
  go_wp2_with (with_reducible refine wl_stop (o := ⟨none, _, _, _, _, _⟩) ?_)
  refine wl_storeS st6 0 rfl rfl rfl rfl rfl (by first | (simp only [cw_len]; done) | (simp only [List.length_append, cw_len]; done)) (by first | (rw [cw_len]; kernel_rfl) | (simp only [List.length_append, cw_len]; kernel_rfl)) (cw_one _ _) ?_
  intro w7 st7
  clear st6
  have hr := st7.at 0 rfl
  have hfr := st7.fr
  clear st7
  go_wp2_with fail
  exact bodyPost_ret (results_st2 rfl rfl hr Try.underlying107 rfl (by first | (rw [cw_len]; kernel_rfl) | (simp only [List.length_append, cw_len]; kernel_rfl)) rfl) rfl ⟨rfl, hfr⟩

theorem Zof_t (m : Md) (hk : KindOf 1 m) (a : Option Addr) (n c : Nat) (l : List UInt8) (w : World) (hb : RdB w a n l) (h : numB m l = true) :
    Calls Try.prog 74 #[.slice a n c] w fun e w' => e = .returned (.tuple #[i4 (elN m (beN l)), .bool true]) ∧ Fr Nob w w' := by
  unfold numB at h
  simp only [Bool.and_eq_true, decide_eq_true_eq] at h
  exact Zof_ok m hk a n c l w hb h.1 h.2
theorem Zof_f (m : Md) (hk : KindOf 1 m) (a : Option Addr) (n c : Nat) (l : List UInt8) (w : World) (hb : RdB w a n l) (h : numB m l = false) :
    Calls Try.prog 74 #[.slice a n c] w fun e w' => e = .returned (.tuple #[i4 0, .bool false]) ∧ Fr Nob w w' := by
  unfold numB at h
  simp only [Bool.and_eq_false_iff, decide_eq_false_iff_not] at h
  by_cases h32 : l.length = 32
  · exact Zof_big m hk a n c l w hb h32 (by rcases h with h | h; exact absurd h32 h; exact h)
  · exact Zof_len m hk a n c l w hb h32

end Go.Proofs.Ytdbgddngapminaa

/- zn: Zero, Small, Bytes; scalars compared. -/
namespace Go.Mv
open Go.RowKit Mvp
variable {P : Program}
/-- arrays of four words compared, at any depth -/
theorem run_eq4d {t e : TypeId} (hu : P.underlying t = some (.array 4 e)) (he : P.underlying e = some (.int .u64)) (hi0 : (P.info? e).map (·.size) = some 1) (d : Nat) (a b : Nat) (w : World) :
    (Op.equalIn (d + 2) t (.agg (cw 4 a).toArray) (.agg (cw 4 b).toArray)).run P w = .ok (decide (a % B64 ^ 4 = b % B64 ^ 4)) w := by
  obtain ⟨j, hj, hsz⟩ : ∃ j, P.info? e = some j ∧ j.size = 1 := by simpa using hi0
  have hc : P.cellsOf e = 1 := by simp [Program.cellsOf, hj, hsz]
  have hp : ∀ (x k : Nat), k < 4 → (part e (cw 4 x).toArray k).run P w = .ok (.int .u64 (lw x k : Nat)) w := by
    intro x k hk
    have hv := cw_get 4 x k hk
    simp [part, isAgg, run_underlying he, sizeOf, typeInfo, hj, hsz, hv]
  have hq : ∀ (x y : Int), (Op.equalIn (d + 1) e (.int .u64 x) (.int .u64 y)).run P w = .ok (x == y) w := fun x y => by
    simp [Op.equalIn, run_underlying he]
  have hbe : ∀ k, ((lw a k : Int) == (lw b k : Int)) = decide (lw a k = lw b k) := by
    intro k
    rw [Bool.eq_iff_iff]; simp; omega
  show (Op.equalIn (d + 1 + 1) t _ _).run P w = _
  rw [run_equalIn_array w (d + 1) _ _ hu hj, hc]
  have hfin : decide (a % B64 ^ 4 = b % B64 ^ 4) = (decide (lw a 0 = lw b 0) && (decide (lw a 1 = lw b 1) && (decide (lw a 2 = lw b 2) && decide (lw a 3 = lw b 3)))) := by
    rw [Bool.eq_iff_iff]
    simp only [decide_eq_true_eq, Bool.and_eq_true]
    constructor
    · intro h
      refine ⟨?_, ?_, ?_, ?_⟩ <;> (rw [← lw_mod a _ 4 (by decide), h, lw_mod b _ 4 (by decide)])
    · rintro ⟨h0, h1, h2, h3⟩
      refine limbs_mod_inj (limbs_ext fun i hi => ?_)
      have : i = 0 ∨ i = 1 ∨ i = 2 ∨ i = 3 := by omega
      rcases this with rfl | rfl | rfl | rfl <;> assumption
  rw [hfin]
  show (Op.eqItems (d + 1) e 1 _ _ [0, 1, 2, 3]).run P w = _
  have p0 := fun x => hp x 0 (by decide)
  have p1 := fun x => hp x 1 (by decide)
  have p2 := fun x => hp x 2 (by decide)
  have p3 := fun x => hp x 3 (by decide)
  clear hp hfin
  by_cases h0 : lw a 0 = lw b 0 <;> by_cases h1 : lw a 1 = lw b 1 <;> by_cases h2 : lw a 2 = lw b 2 <;> by_cases h3 : lw a 3 = lw b 3 <;> simp [Op.eqItems, p0, p1, p2, p3, hq, hbe, h0, h1, h2, h3, -beq_iff_eq]
/-- a whole row, taken as a part of itself -/
theorem run_part_whole {t : TypeId} {d : TypeDesc} (hu : P.underlying t = some d) (hd : (match d with | .struct _ | .array _ _ => true | _ => false) = true) (cs : List Value) (hi : (P.info? t).map (·.size) = some cs.length) (w : World) :
    (part t cs.toArray 0).run P w = .ok (.agg cs.toArray) w := by
  obtain ⟨j, hj, hsz⟩ : ∃ j, P.info? t = some j ∧ j.size = cs.length := by simpa using hi
  cases d <;> simp at hd <;> simp [part, isAgg, run_underlying hu, sizeOf, typeInfo, hj, hsz]
end Go.Mv
namespace Go.Proofs.Ytdbgddngapminaa
open Go.RowKit Go.Mv Mvp
theorem fields_Z : Try.prog.fieldsOf 107 = #[{ name := "e", type := 70, offset := 0, embedded := false, tag := "", pkgPath := "mintvault/zn", byteOffset := 0 }] := by kernel_rfl
/-- scalars compared -/
theorem run_eqZ (m : Md) (h : m.Ok) (x y : Nat) (d : Nat) (w : World) : (Op.equalIn (d + 3) 107 (i4 (elN m x)) (i4 (elN m y))).run Try.prog w = .ok (x % m.M == y % m.M) w := by
  have hb : decide (elN m x % B64 ^ 4 = elN m y % B64 ^ 4) = (x % m.M == y % m.M) := by
    rw [Nat.mod_eq_of_lt (el_lt4 m h x), Nat.mod_eq_of_lt (el_lt4 m h y), Bool.eq_iff_iff]
    simp only [decide_eq_true_eq, beq_iff_eq]
    exact ⟨el_inj m h, el_congr m⟩
  have h1 : ∀ v, (part 70 (cw 4 v).toArray 0).run Try.prog w = .ok (i4 v) w := fun v => run_part_whole Try.underlying70 rfl (cw 4 v) (by rw [cw_len]; kernel_rfl) w
  have h2 := run_eq4d (P := Try.prog) Try.underlying70 Try.underlying22 size_u64 d (elN m x) (elN m y) w
  rw [hb] at h2
  have h2' : (Op.equalIn (d + 2) 70 (i4 (elN m x)) (i4 (elN m y))).run Try.prog w = .ok (x % m.M == y % m.M) w := h2
  show (Op.equalIn (d + 2 + 1) 107 (.agg (cw 4 (elN m x)).toArray) (.agg (cw 4 (elN m y)).toArray)).run Try.prog w = _
  rw [run_equalIn_struct w (d + 2) 107 _ _ (by rw [fields_Z]; exact Try.underlying107) (by kernel_rfl), fields_Z]
  generalize (x % m.M == y % m.M) = b at *
  have h3 := h1 (elN m x)
  have h4 := h1 (elN m y)
  generalize (cw 4 (elN m x)).toArray = xs at *
  generalize (cw 4 (elN m y)).toArray = ys at *
  have hne : ("e" : String) ≠ "_" := by decide
  show (Op.eqFields (d + 2) xs ys [_]).run _ w = _
  unfold Op.eqFields
  rw [if_pos hne]
  simp only [Sem.run_bind]
  rw [h3, Result.andThen_ok, h4, Result.andThen_ok, h2', Result.andThen_ok]
  cases b <;> simp [Op.eqFields]
theorem eqZ_guard (op : BinOp) (a b : Operand) (x y : Nat) (w : World) : (eqGuard op 107 a b (i4 x) (i4 y)).run Try.prog w = .ok () w := run_eqGuard_agg w op 107 a b _ _ Try.eqGuardType107
theorem eql_of_equal {P : Program} {ty : TypeId} {xs ys : Array Value} {b : Bool} (w : World) (h : (Op.equal ty (.agg xs) (.agg ys)).run P w = .ok b w) : (binOp .eql ty (.agg xs) (.agg ys)).run P w = .ok (.bool b) w := by
  show (do pure (Value.bool (← Op.equal ty (.agg xs) (.agg ys)))).run P w = _
  simp only [Sem.run_bind, h, Result.andThen_ok]
  rfl
theorem eqlZ (m : Md) (h : m.Ok) (x y : Nat) (w : World) : (binOp .eql 107 (i4 (elN m x)) (i4 (elN m y))).run Try.prog w = .ok (.bool (x % m.M == y % m.M)) w := by
  have h1 := run_eqZ m h x y 9997 w
  exact eql_of_equal w h1
theorem exec_binop {P : Program} {op : BinOp} {ty : TypeId} {o : Oper} {a : Act} {p q : Operand} {T : TypeId} {x y v : Value} (ho : o.op = .binOp op ty p q T) (hp : a.eval p = x) (hq : a.eval q = y) (w : World)
    (h1 : (eqGuard op ty p q x y).run P w = .ok () w) (h2 : (binOp op ty x y).run P w = .ok v w) : (execOp a.eval o).run P w = .ok (.value v) w := by
  subst hp hq
  unfold execOp
  simp only [ho, Sem.run_bind, h1, h2, Result.andThen_ok, Sem.run_pure]
theorem exec_eqlZ (m : Md) (h : m.Ok) (x y : Nat) {o : Oper} {a : Act} {p q : Operand} {T : TypeId} (ho : o.op = .binOp .eql 107 p q T) (hp : a.eval p = i4 (elN m x)) (hq : a.eval q = i4 (elN m y)) {b : Bool} (hb : (x % m.M == y % m.M) = b) (w : World) :
    (execOp a.eval o).run Try.prog w = .ok (.value (.bool b)) w := by
  subst hb
  exact exec_binop ho hp hq w (eqZ_guard .eql p q (elN m x) (elN m y) w) (eqlZ m h x y w)
theorem exec_eqlE (m : Md) (h : m.Ok) (x y : Nat) {o : Oper} {a : Act} {p q : Operand} {T ty : TypeId} (hu : Try.prog.underlying ty = some (.array 4 22)) (hg : Try.prog.eqGuardType Try.prog.depth ty = false) (ho : o.op = .binOp .eql ty p q T) (hp : a.eval p = i4 (elN m x)) (hq : a.eval q = i4 (elN m y)) {b : Bool} (hb : (x % m.M == y % m.M) = b) (w : World) :
    (execOp a.eval o).run Try.prog w = .ok (.value (.bool b)) w := by
  subst hb
  exact exec_binop ho hp hq w (run_eqGuard_agg w .eql ty p q _ _ hg) (eql_of_equal w (el_eq m h x y ty hu w))
theorem wl_exec {o : Oper} {a : Act} {w : World} {P : Program} {ops : Array Oper} {rest : List Oper} {Q : Exit → Act → World → Prop} {v : Value} (hgd : o.guard = none) (hx : (execOp a.eval o).run P w = .ok (.value v) w) (h : wpList P ops Q rest (a.put o.dst v) w) : wpList P ops Q (o :: rest) a w := by
  refine wpList_plain hgd fun K hK => ?_
  unfold Oper.wp
  rw [hx]
  exact hK _ _ h
attribute [local irreducible] limbs lw mix cw cSub cAdd cMul foldC valFrom beN laid be32 powm montT mstep elN mdL numB
theorem words_z4 : (Value.agg #[.int .u64 0, .int .u64 0, .int .u64 0, .int .u64 0]) = i4 0 := by rw [i4, cw_zero]; rfl
theorem built_E0 : Try.prog.built 70 [] = some #[.int .u64 0, .int .u64 0, .int .u64 0, .int .u64 0] := by kernel_rfl

set_option maxHeartbeats 8000000 in
set_option maxRecDepth 100000 in
theorem EZero_any (m : Md) (hok : m.Ok) (x : Nat) (b : Bool) (hb : (x % m.M == 0) = b) (w : World) :
    Calls Try.prog 96 #[i4 (elN m x)] w fun e w' => e = .returned (.bool b) ∧ Fr Nob w w' := by
  have HOK := Lib.hid hok
  have HB := Lib.hid (show (x % m.M == 0 % m.M) = b by rw [Nat.zero_mod]; exact hb)
  have HZ := Lib.hid (show i4 0 = i4 (elN m 0) by rw [el_zero])
  clear hok hb
  have st0 := St.start Nob w
  go_enter Try.func96, Try.ntmps96
  go_wp2_with (with_reducible refine wl_stop (o := ⟨some 1, _, _, _, _, _⟩) ?_)
  refine wl_boxS st0 rfl rfl rfl (cw 4 (elN m x)) rfl ?_
  intro g1 w1 st1
  clear st0
  go_wp2_with (with_reducible refine wl_stop (o := ⟨some 3, _, _, _, _, _⟩) ?_)
  refine wl_loadS st1 0 rfl rfl rfl Try.underlying70 rfl (by first | (rw [cw_len]; kernel_rfl) | (simp only [List.length_append, cw_len]; kernel_rfl)) ?_
  go_wp2_with (with_reducible refine wl_stop (o := ⟨some 4, _, _, _, _, _⟩) ?_)
  refine wl_build0 rfl rfl _ built_E0 ?_
  rw [words_z4, HZ.out]
  go_wp2_with (with_reducible refine wl_stop (o := ⟨some 5, _, _, _, _, _⟩) ?_)
  refine wl_exec rfl (exec_eqlE m HOK.out x 0 Try.underlying70 Try.eqGuardType70 rfl rfl rfl HB.out _) ?_
  have hfr := st1.fr
  clear st1
  go_wp2_with fail
  go_ret
  exact ⟨rfl, hfr⟩

theorem built_int1 (v : Int) : Try.prog.built 82 [(0, .int .u64 v)] = some #[.int .u64 v, .int .u64 0, .int .u64 0, .int .u64 0] := by kernel_rfl

set_option maxHeartbeats 8000000 in
set_option maxRecDepth 100000 in
theorem MSmall_any (m : Md) (gp : Nat) (w : World) (hok : m.Ok) (hpm : Has w gp (mdL m) 134) (k : Nat) (hk : k < 18446744073709551616) :
    Calls Try.prog 84 #[.pointer (some ⟨gp, 0, none⟩), .int .u64 (k : Int)] w fun e w' => e = .returned (i4 (elN m k)) ∧ Fr Nob w w' := by
  have HOK := Lib.hid hok
  have HPM := Lib.hid hpm
  have HW := Lib.hid (small_words k hk)
  have HK4 := Lib.hid (show k < B64 ^ 4 by have : (18446744073709551616 : Nat) ≤ B64 ^ 4 := by decide
                                           omega)
  clear hok hpm hk
  have st0 := St.start Nob w
  go_enter Try.func84, Try.ntmps84
  go_wp2_with (with_reducible refine wl_stop (o := ⟨some 4, _, _, _, _, _⟩) ?_)
  refine wl_allocS st0 rfl rfl (z := .agg #[.int .u64 0, .int .u64 0, .int .u64 0, .int .u64 0]) (by kernel_rfl) (cw 4 0) (by rw [cw_zero]; rfl) ?_
  intro g4 w1 st1
  clear st0
  go_wp2_with (with_reducible refine wl_stop (o := ⟨some 7, _, _, _, _, _⟩) ?_)
  refine wl_buildL rfl rfl _ (built_int1 (k : Int)) ?_
  rw [HW.out]
  go_wp2_with fail
  refine (MTo_any m gp _ HOK.out (HPM.out.keep st1.fr id) k HK4.out).mono ?_
  rintro e' w2 ⟨rfl, hf2⟩
  have st2 := st1.keep hf2
  clear st1 hf2
  go_wp2_with (with_reducible refine wl_stop (o := ⟨none, _, _, _, _, _⟩) ?_)
  refine wl_storeS st2 0 rfl rfl rfl rfl rfl (by first | (simp only [cw_len]; done) | (simp only [List.length_append, cw_len]; done)) (by first | (rw [cw_len]; kernel_rfl) | (simp only [List.length_append, cw_len]; kernel_rfl)) (cw_one _ _) ?_
  intro w3 st3
  clear st2
  have hr := st3.at 0 rfl
  have hfr := st3.fr
  clear st3
  go_wp2_with fail
  exact bodyPost_ret (results_arr rfl rfl hr Try.underlying70 (by first | (rw [cw_len]; kernel_rfl) | (simp only [List.length_append, cw_len]; kernel_rfl))) rfl ⟨rfl, hfr⟩

set_option maxHeartbeats 8000000 in
set_option maxRecDepth 100000 in
theorem ZBytes_any (m : Md) (hk : KindOf 1 m) (x : Nat) (w : World) :
    Calls Try.prog 70 #[i4 (elN m x)] w fun e w' => ∃ v, e = .returned v ∧ Own w' w.heap.size 5 1 v 32 (bs (be32 (x % m.M))) ∧ Fr Nob w w' := by
  have HK := Lib.hid hk
  have HOK := Lib.hid hk.ok
  clear hk
  have st0 := St.start Nob w
  go_enter Try.func70, Try.ntmps70
  go_wp2_with (with_reducible refine wl_stop (o := ⟨some 1, _, _, _, _, _⟩) ?_)
  refine wl_boxS st0 rfl rfl rfl (cw 4 (elN m x)) rfl ?_
  intro g1 w1 st1
  clear st0
  go_wp2_with fail
  refine wp_region_noPanic ?_
  refine wp_region_plan (fun wx => St Nob w wx [(g1, cw 4 (elN m x), 107)]) 5 (.w 1 (.t 2 (.r 0 (.r 3 (.r 4 (.m 5 .nil)))))) (by kernel_rfl) (by kernel_rfl) st1.drew (fun _ _ _ _ _ h => h) ?_
  have hd1 := st1.drew
  clear st1
  refine plan_w (v := ?_) rfl rfl (fun wx => ?_) ?_
  rotate_left 1
  · (go_simp; with_reducible rfl)
  try simp only [Act.put, List.setIfInBounds_toArray, List.set_cons_zero, List.set_cons_succ]
  refine plan_arr rfl rfl rfl rfl (cw 4 (elN m x)) (fun wx hS => St.rangeL hS 0 rfl 0 _ (by rw [List.drop_zero, List.take_of_length_le (Nat.le_refl _)])) Try.underlying70 rfl (by first | (rw [cw_len]; kernel_rfl) | (simp only [List.length_append, cw_len]; kernel_rfl)) ?_
  try simp only [Act.put, List.setIfInBounds_toArray, List.set_cons_zero, List.set_cons_succ]
  refine plan_r rfl rfl ?_
  go_simp
  refine (order_any m HK.out _).mono ?_
  rintro e' w2 ⟨gp, rfl, hle, hm, hf2⟩
  have st2 : St Nob w w2 [(g1, cw 4 (elN m x), 107), (gp, mdL m, 134)] := hd1.new hf2 hm hle
  clear hf2 hm hle
  clear hd1
  refine ⟨St.less st2 (by simp), ?_⟩
  try simp only [Act.put, List.setIfInBounds_toArray, List.set_cons_zero, List.set_cons_succ]
  refine plan_r rfl rfl ?_
  go_simp
  refine (MFrom_any m gp _ HOK.out (st2.at 1 rfl) x).mono ?_
  rintro e' w3 ⟨rfl, hf3⟩
  have st3 := st2.keep hf3
  clear hf3
  clear st2
  refine ⟨St.less st3 (by simp), ?_⟩
  try simp only [Act.put, List.setIfInBounds_toArray, List.set_cons_zero, List.set_cons_succ]
  refine plan_r rfl rfl ?_
  go_simp
  refine (MBytes_any (x % m.M) _).mono ?_
  rintro e' w4 ⟨v, rfl, hown, hf4⟩
  have st4 := st3.keep hf4
  have HSZ := st3.fr.size
  obtain ⟨av, cv, hve, hcv, hrv, -⟩ := hown.form
  subst hve
  have HOWN := Lib.hid (hown.mono (HSZ))
  clear hown hrv
  clear hf4
  clear st3
  refine ⟨St.less st4 (by simp), ?_⟩
  try simp only [Act.put, List.setIfInBounds_toArray, List.set_cons_zero, List.set_cons_succ]
  refine plan_m rfl rfl ?_
  go_simp
  try simp only [Act.put, List.setIfInBounds_toArray, List.set_cons_zero, List.set_cons_succ]
  refine plan_end ?_
  refine NoPanic.normal ?_
  have hfr := st4.fr
  clear st4
  go_wp2_with fail
  go_ret
  exact ⟨_, rfl, HOWN.out, hfr⟩
end Go.Proofs.Ytdbgddngapminaa

/- zn.All; sigma.Extract. -/
namespace Go.Proofs.Ytdbgddngapminaa
open Go.RowKit Go.Mv Mvp
/-- how zn.All answers -/
def AllPost (m : Md) (ls : List (List UInt8)) (w : World) (e : Ending) (w' : World) : Prop :=
  (numsB m ls = true → ∃ v, e = .returned (.tuple #[v, .bool true]) ∧ Own w' w.heap.size 107 4 v ls.length (elCells m ls)) ∧
  (numsB m ls = false → e = .returned (.tuple #[.slice none 0 0, .bool false])) ∧ Fr Nob w w'
theorem AllPost.bad {m : Md} {ls : List (List UInt8)} {w w' : World} {e : Ending} (h : numsB m ls = false) (he : e = .returned (.tuple #[.slice none 0 0, .bool false])) (hf : Fr Nob w w') : AllPost m ls w e w' :=
  ⟨fun h1 => (by rw [h] at h1; cases h1), fun _ => he, hf⟩
theorem AllPost.good {m : Md} {ls : List (List UInt8)} {w w' : World} {e : Ending} {v : Value} (h : numsB m ls = true) (he : e = .returned (.tuple #[v, .bool true])) (ho : Own w' w.heap.size 107 4 v ls.length (elCells m ls)) (hf : Fr Nob w w') : AllPost m ls w e w' :=
  ⟨fun _ => ⟨v, he, ho⟩, fun h1 => (by rw [h] at h1; cases h1), hf⟩
theorem info_bs : (Try.prog.info? 34).map (fun i => (i.zero, i.size, i.bytes)) = some (some (.slice none 0 0), 1, 24) := by kernel_rfl
attribute [local irreducible] limbs lw mix cw cSub cAdd cMul foldC valFrom beN laid be32 powm montT mstep elN mdL elCells numsB numB
set_option maxHeartbeats 16000000 in
set_option maxRecDepth 1000000 in
theorem All_any (m : Md) (hk : KindOf 1 m) (al : Option Addr) (n cl : Nat) (vs : List Value) (ls : List (List UInt8)) (w : World) (hv : Rd w al n vs) (hp : BParts w vs ls) (hn : n ≤ 100000) :
    Calls Try.prog 66 #[.slice al n cl] w (AllPost m ls w) := by
  have HK := Lib.hid hk
  have HOK := Lib.hid hk.ok
  have HV := Lib.hid hv
  have HP := Lib.hid hp
  have HL := Lib.hid (show ls.length = n by rw [← hp.1, hv.len])
  clear hk hv hp
  go_enter Try.func66, Try.ntmps66
  go_wp2
  go_loopw [4, 11] (fun v i wr => ∃ k : Nat, k ≤ n ∧ i = .int .i64 (k : Int) ∧ numsB m (ls.take k) = true ∧ Own wr w.heap.size 107 4 v k (elCells m (ls.take k)) ∧ Fr Nob w wr) (fun _ i _ => n - (intOf i).toNat)
  case atStart => exact ⟨0, Nat.zero_le _, rfl, by rw [List.take_zero]; unfold numsB; rfl, by rw [List.take_zero]; unfold elCells; exact Own.nil _ _ _ _, Fr.refl _ _⟩
  case round =>
    obtain ⟨k, hk, rfl, hgood, hown, hf⟩ := hrel
    by_cases hlt : k < n
    · have hltI : (k : Int) < (n : Int) := by omega
      obtain ⟨b, o, rfl, hat⟩ := (HV.out.still hf).at (by omega)
      have hvl : k < vs.length := by rw [HV.out.len]; exact hlt
      obtain ⟨a, nn, c, hve, hcc, hrd⟩ := HP.out.2 k (vs[k]'hvl) (List.getElem?_eq_getElem hvl)
      have hc1 := hat k _ (List.getElem?_eq_getElem hvl)
      rw [hve] at hc1
      have hlk : k < ls.length := by rw [HL.out]; exact hlt
      have hts := numsB_take m ls k hlk
      have hcs : elCells m (ls.take (k + 1)) = elCells m (ls.take k) ++ cw 4 (elN m (beN (ls.getD k []))) := by
        rw [List.take_succ_eq_append_getElem hlk, elCells_snoc]
        simp [List.getD_eq_getElem?_getD, hlk]
      have hbad := numsB_bad m ls k hlk
      generalize hL : ls.getD k [] = l at *
      have HLL := Lib.hid hL
      have HRD := Lib.hid (hrd.still hf)
      have HTS := Lib.hid hts
      have HCS := Lib.hid hcs
      have HBAD := Lib.hid hbad
      have HG := Lib.hid hgood
      have HOWN := Lib.hid hown
      have HF := Lib.hid hf
      have hnI : (n : Int) ≤ 100000 := by omega
      clear hL hrd hts hcs hbad hgood hown hf hat hve hcc
      cases hnb : numB m l
      · have HNB := Lib.hid hnb
        have HNL := Lib.hid (HBAD.out hnb)
        clear hnb
        have st0 := St.start Nob wr
        go_wp2_with fail
        refine (Zof_f m HK.out a nn c l _ (HRD.out.still st0.fr) HNB.out).mono ?_
        rintro e' w1 ⟨rfl, hf1⟩
        have st1 := st0.keep hf1
        clear st0 hf1
        go_wp2_with (with_reducible refine wl_stop (o := ⟨some 7, _, _, _, _, _⟩) ?_)
        refine wl_allocS st1 rfl rfl (z := .agg #[.int .u64 0, .int .u64 0, .int .u64 0, .int .u64 0]) (by kernel_rfl) (cw 4 0) (by rw [cw_zero]; rfl) ?_
        intro g7 w2 st2
        clear st1
        go_wp2_with (with_reducible refine wl_stop (o := ⟨none, _, _, _, _, _⟩) ?_)
        refine wl_storeS st2 0 rfl rfl rfl rfl rfl (by first | (simp only [cw_len]; done) | (simp only [List.length_append, cw_len]; done)) (by first | (rw [cw_len]; kernel_rfl) | (simp only [List.length_append, cw_len]; kernel_rfl)) (cw_one _ _) ?_
        intro w3 st3
        clear st2
        have HFR := Lib.hid (HF.out.then st3.fr)
        clear st3
        go_wp2_with fail
        go_ret2
        exact AllPost.bad HNL.out rfl HFR.out
      · have HNB := Lib.hid hnb
        clear hnb
        have st0 := St.start Nob wr
        go_wp2_with fail
        refine (Zof_t m HK.out a nn c l _ (HRD.out.still st0.fr) HNB.out).mono ?_
        rintro e' w1 ⟨rfl, hf1⟩
        have st1 := st0.keep hf1
        clear st0 hf1
        go_wp2_with (with_reducible refine wl_stop (o := ⟨some 7, _, _, _, _, _⟩) ?_)
        refine wl_allocS st1 rfl rfl (z := .agg #[.int .u64 0, .int .u64 0, .int .u64 0, .int .u64 0]) (by kernel_rfl) (cw 4 0) (by rw [cw_zero]; rfl) ?_
        intro g7 w2 st2
        clear st1
        go_wp2_with (with_reducible refine wl_stop (o := ⟨none, _, _, _, _, _⟩) ?_)
        refine wl_storeS st2 0 rfl rfl rfl rfl rfl (by first | (simp only [cw_len]; done) | (simp only [List.length_append, cw_len]; done)) (by first | (rw [cw_len]; kernel_rfl) | (simp only [List.length_append, cw_len]; kernel_rfl)) (cw_one _ _) ?_
        intro w3 st3
        clear st2
        go_wp2_with (with_reducible refine wl_stop (o := ⟨some 23, _, _, _, _, _⟩) ?_)
        refine wl_loadSt st3 0 rfl rfl rfl Try.underlying107 rfl rfl (by first | (rw [cw_len]; kernel_rfl) | (simp only [List.length_append, cw_len]; kernel_rfl)) ?_
        go_wp2_with (with_reducible refine wl_stop (o := ⟨some 24, _, _, _, _, _⟩) ?_)
        refine wl_slitR rfl rfl Try.underlying103 info_Z [i4 (elN m (beN l))] rfl (by simp [i4, Value.cells, cw_len]) rfl (cw 4 (elN m (beN l))) (by simp [i4_cells]) ?_
        intro wA hgA hfA hzA
        clear hzA
        have hfrA := st3.fr.then hfA
        have hsz := HF.out.size
        have hsz2 := hfrA.size
        have hownA := HOWN.out.still hfrA
        have hrdA : Rd wA (some ⟨w3.heap.size, 0, none⟩) (1 * 4) (cw 4 (elN m (beN l))) := by
          have := Rd.whole hgA
          rwa [cw_len] at this
        have HRDA := Lib.hid hrdA
        have HOWNA := Lib.hid hownA
        have HFRA := Lib.hid hfrA
        clear hgA hfA hrdA hownA hfrA st3
        generalize w3.heap.size = gA at *
        go_wp2_with (with_reducible refine wl_stop (o := ⟨some 25, _, _, _, _, _⟩) ?_)
        refine wl_append rfl rfl Try.underlying103 info_Z rfl (by decide) HOWNA.out rfl rfl HRDA.out (cw_one _ _) (by unfold maxLen; omega) (by omega) (by omega) ?_
        intro vB wB hownB hfB hbB
        clear hbB
        have hfrB := HOWNA.out.fr (HF.out.then HFRA.out) (Nat.le_refl _) hfB
        have HFRB := Lib.hid hfrB
        rw [← HCS.out] at hownB
        have HOWNB := Lib.hid hownB
        clear hfrB hownB hfB
        go_wp2_with fail
        go_roundw
        case rel => exact ⟨k + 1, by omega, by go_num, by rw [HTS.out, HG.out, HNB.out]; rfl, HOWNB.out, HFRB.out⟩
        case measure => simp [intOf]; omega
    · have hge : ¬ ((k : Int) < (n : Int)) := by omega
      have hkn : k = ls.length := by rw [HL.out]; omega
      rw [hkn, List.take_of_length_le (Nat.le_refl _)] at hgood hown
      have HG := Lib.hid hgood
      have HO := Lib.hid hown
      have HF := Lib.hid hf
      clear hkn hgood hown hf
      go_wp2_with fail
      go_ret2
      exact AllPost.good HG.out rfl HO.out HF.out
end Go.Proofs.Ytdbgddngapminaa

/- mintvaultref1.Still: is a list all as it was lent? -/
namespace Go.Proofs.Ytdbgddngapminaa
open Go.RowKit Go.Mv Mvp

end Go.Proofs.Ytdbgddngapminaa

/- The law NumReduces. -/
namespace Go.Proofs.Ytdbgddngapminaa
open Go.RowKit Go.Mv Mvp
attribute [local irreducible] limbs lw mix cw cSub cAdd cMul foldC valFrom beN laid be32 powm montT mstep elN mdL
end Go.Proofs.Ytdbgddngapminaa

/- num.Add, Sub, Mul, Inv: what they answer. -/
namespace Go.Proofs.Ytdbgddngapminaa
open Go.RowKit Go.Mv Mvp
attribute [local irreducible] limbs lw mix cw cSub cAdd cMul foldC valFrom beN laid be32 powm montT mstep elN mdL elCells numsB numB
end Go.Proofs.Ytdbgddngapminaa

/- The law NumReckons. -/
namespace Go.Proofs.Ytdbgddngapminaa
open Go.RowKit Go.Mv Mvp
theorem Number_t (m : Md) (hM : m.M < B64 ^ 4) (s : ByteArray) (w : World) (h : numB m s.data.toList = true) :
    Calls Try.prog 11 #[fv m.M, .string s] w fun e w' => e = .returned (.tuple #[i4 (beN s.data.toList), .bool true]) ∧ Fr Nob w w' := by
  unfold numB at h
  simp only [Bool.and_eq_true, decide_eq_true_eq] at h
  refine (Number_ok m.M s w (by have := h.1; simpa using this) hM).mono fun e w' he => ?_
  rw [decide_eq_true h.2] at he
  exact he
theorem Number_f (m : Md) (hM : m.M < B64 ^ 4) (s : ByteArray) (w : World) (h : numB m s.data.toList = false) :
    Calls Try.prog 11 #[fv m.M, .string s] w fun e w' => ∃ N, e = .returned (.tuple #[i4 N, .bool false]) ∧ Fr Nob w w' := by
  by_cases hs : s.size = 32
  · refine (Number_ok m.M s w hs hM).mono fun e w' he => ?_
    have h2 : ¬ beN s.data.toList < m.M := by
      intro hb
      unfold numB at h
      rw [decide_eq_true hb, decide_eq_true (by simpa using hs)] at h
      cases h
    rw [decide_eq_false h2] at he
    exact ⟨_, he⟩
  · exact (Number_bad m.M s w hs).mono fun e w' he => ⟨_, he⟩
theorem numB_lt (m : Md) (l : List UInt8) (h : numB m l = true) : beN l < m.M := by
  unfold numB at h
  simp only [Bool.and_eq_true, decide_eq_true_eq] at h
  exact h.2
attribute [local irreducible] limbs lw mix cw cSub cAdd cMul foldC valFrom beN laid be32 powm montT mstep elN mdL numB numsB elCells
end Go.Proofs.Ytdbgddngapminaa

/- sigma.Extract; the reference's Scalar, Q, Extract. -/
namespace Mvp
/-- the secret, out of two answers to two challenges -/
def secN (M c1 z1 c2 z2 : Nat) : Nat := (z1 + (M - z2 % M)) * (c1 + (M - c2 % M)) ^ (M - 2) % M
end Mvp
namespace Go.Proofs.Ytdbgddngapminaa
open Go.RowKit Go.Mv Mvp
attribute [local irreducible] limbs lw mix cw cSub cAdd cMul foldC valFrom beN laid be32 powm montT mstep elN mdL elCells numsB numB
theorem BParts.four {w : World} {v1 v2 v3 v4 : Value} {l1 l2 l3 l4 : List UInt8} (h1 : BPart w v1 l1) (h2 : BPart w v2 l2) (h3 : BPart w v3 l3) (h4 : BPart w v4 l4) : BParts w [v1, v2, v3, v4] [l1, l2, l3, l4] := ⟨rfl, fun i x hx => by
  match i with
  | 0 => simp at hx; subst hx; exact h1
  | 1 => simp at hx; subst hx; exact h2
  | 2 => simp at hx; subst hx; exact h3
  | 3 => simp at hx; subst hx; exact h4
  | i + 4 => simp at hx⟩

set_option maxHeartbeats 16000000 in
set_option maxRecDepth 1000000 in
theorem Extract_bad (m : Md) (hk : KindOf 1 m) (v1 : Value) (l1 : List UInt8) (v2 : Value) (l2 : List UInt8) (v3 : Value) (l3 : List UInt8) (v4 : Value) (l4 : List UInt8) (w : World) (h1 : BPart w v1 l1) (h2 : BPart w v2 l2) (h3 : BPart w v3 l3) (h4 : BPart w v4 l4) (hg : numsB m [l1, l2, l3, l4] = false) :
    Calls Try.prog 31 #[v1, v2, v3, v4] w fun e w' => e = .returned (.tuple #[.slice none 0 0, .int .i64 3]) ∧ Fr Nob w w' := by
  have HK := Lib.hid hk
  have HOK := Lib.hid hk.ok
  clear hk
  have HG := Lib.hid hg
  clear hg
  have HP1 := Lib.hid h1
  have HP2 := Lib.hid h2
  have HP3 := Lib.hid h3
  have HP4 := Lib.hid h4
  have HC1 := Lib.hid (BPart.one h1)
  have HC2 := Lib.hid (BPart.one h2)
  have HC3 := Lib.hid (BPart.one h3)
  have HC4 := Lib.hid (BPart.one h4)
  clear h1 h2 h3 h4
  go_enter Try.func31, Try.ntmps31
  go_wp2_with (with_reducible refine wl_stop (o := ⟨some 17, _, _, _, _, _⟩) ?_)
  unfold Stop
  refine wl_slit (vs := [v1, v2, v3, v4]) (hgd := rfl) (ho := rfl) (hu := Try.underlying50) (hi0 := info_bs) (hp := by rfl) (hv := fun v hv => by
    simp only [List.mem_cons, List.not_mem_nil, or_false] at hv
    rcases hv with rfl | rfl | rfl | rfl
    · exact HC1.out
    · exact HC2.out
    · exact HC3.out
    · exact HC4.out) (hk := by rfl) (hz := by rfl) (h := ?_)
  intro w2 hg2 hf2 hz2
  clear hz2
  generalize w.heap.size = gl at *
  have HF2 := Lib.hid hf2
  have HRD := Lib.hid (show Rd w2 (some ⟨gl, 0, none⟩) 4 [v1, v2, v3, v4] from Rd.whole hg2)
  clear hg2 hf2
  have HPS := Lib.hid (BParts.four (HP1.out.still HF2.out) (HP2.out.still HF2.out) (HP3.out.still HF2.out) (HP4.out.still HF2.out))
  go_wp2_with fail
  refine (All_any m HK.out _ 4 4 [v1, v2, v3, v4] [l1, l2, l3, l4] _ HRD.out HPS.out (by decide)).mono ?_
  rintro e w3 ⟨-, hbad, hf3⟩
  obtain rfl := hbad HG.out
  have HF3 := Lib.hid (HF2.out.then hf3)
  clear hbad hf3
  go_wp2_with fail
  go_ret2
  exact ⟨rfl, HF3.out⟩

set_option maxHeartbeats 16000000 in
set_option maxRecDepth 1000000 in
theorem Extract_none (m : Md) (hk : KindOf 1 m) (v1 : Value) (l1 : List UInt8) (v2 : Value) (l2 : List UInt8) (v3 : Value) (l3 : List UInt8) (v4 : Value) (l4 : List UInt8) (w : World) (h1 : BPart w v1 l1) (h2 : BPart w v2 l2) (h3 : BPart w v3 l3) (h4 : BPart w v4 l4) (hg : numsB m [l1, l2, l3, l4] = true) (heq : ((beN l1) % m.M == (beN l3) % m.M) = true) :
    Calls Try.prog 31 #[v1, v2, v3, v4] w fun e w' => e = .returned (.tuple #[.slice none 0 0, .int .i64 6]) ∧ Fr Nob w w' := by
  have HK := Lib.hid hk
  have HOK := Lib.hid hk.ok
  clear hk
  have HG := Lib.hid hg
  have HEQ := Lib.hid heq
  clear hg heq
  have HP1 := Lib.hid h1
  have HP2 := Lib.hid h2
  have HP3 := Lib.hid h3
  have HP4 := Lib.hid h4
  have HC1 := Lib.hid (BPart.one h1)
  have HC2 := Lib.hid (BPart.one h2)
  have HC3 := Lib.hid (BPart.one h3)
  have HC4 := Lib.hid (BPart.one h4)
  clear h1 h2 h3 h4
  go_enter Try.func31, Try.ntmps31
  go_wp2_with (with_reducible refine wl_stop (o := ⟨some 17, _, _, _, _, _⟩) ?_)
  unfold Stop
  refine wl_slit (vs := [v1, v2, v3, v4]) (hgd := rfl) (ho := rfl) (hu := Try.underlying50) (hi0 := info_bs) (hp := by rfl) (hv := fun v hv => by
    simp only [List.mem_cons, List.not_mem_nil, or_false] at hv
    rcases hv with rfl | rfl | rfl | rfl
    · exact HC1.out
    · exact HC2.out
    · exact HC3.out
    · exact HC4.out) (hk := by rfl) (hz := by rfl) (h := ?_)
  intro w2 hg2 hf2 hz2
  clear hz2
  generalize w.heap.size = gl at *
  have HF2 := Lib.hid hf2
  have HRD := Lib.hid (show Rd w2 (some ⟨gl, 0, none⟩) 4 [v1, v2, v3, v4] from Rd.whole hg2)
  clear hg2 hf2
  have HPS := Lib.hid (BParts.four (HP1.out.still HF2.out) (HP2.out.still HF2.out) (HP3.out.still HF2.out) (HP4.out.still HF2.out))
  go_wp2_with fail
  refine (All_any m HK.out _ 4 4 [v1, v2, v3, v4] [l1, l2, l3, l4] _ HRD.out HPS.out (by decide)).mono ?_
  rintro e w3 ⟨hgood, -, hf3⟩
  obtain ⟨v, rfl, hown⟩ := hgood HG.out
  obtain ⟨ae, ce, rfl, -, hre, -⟩ := hown.form
  obtain ⟨be, oe, hee, -⟩ := hre.at (by simp)
  subst hee
  have HRE := Lib.hid hre
  have HF3 := Lib.hid (HF2.out.then hf3)
  clear hgood hown hre hf3
  have st0 := St.start Nob w3
  go_wp2_with fail
  refine wp_region_noPanic ?_
  refine wp_region_plan (fun wx => St Nob w3 wx []) 7 (.w 0 (.w 1 (.t 2 (.w 3 (.w 4 (.t 5 (.w 6 (.m 7 .nil)))))))) (by kernel_rfl) (by kernel_rfl) st0.drew (fun _ _ _ _ _ h => h) ?_
  have hd3 := st0.drew
  clear st0
  refine plan_w (v := ?_) rfl rfl (fun wx => ?_) ?_
  rotate_left 1
  · (go_simp; with_reducible rfl)
  try simp only [Act.put, List.setIfInBounds_toArray, List.set_cons_zero, List.set_cons_succ]
  refine plan_w (v := ?_) rfl rfl (fun wx => ?_) ?_
  rotate_left 1
  · (go_simp; with_reducible rfl)
  try simp only [Act.put, List.setIfInBounds_toArray, List.set_cons_zero, List.set_cons_succ]
  refine plan_arr rfl rfl rfl rfl (cw 4 (elN m (beN l1))) (fun wx hS => (rd_range (HRE.out.still (St.fr hS)) 0 _ (by rw [cw_len]; exact elCells_at m [l1, l2, l3, l4] 0 (by simp)))) Try.underlying107 rfl (by first | (rw [cw_len]; kernel_rfl) | (simp only [List.length_append, cw_len]; kernel_rfl)) ?_
  try simp only [Act.put, List.setIfInBounds_toArray, List.set_cons_zero, List.set_cons_succ]
  refine plan_w (v := ?_) rfl rfl (fun wx => ?_) ?_
  rotate_left 1
  · (go_simp; with_reducible rfl)
  try simp only [Act.put, List.setIfInBounds_toArray, List.set_cons_zero, List.set_cons_succ]
  refine plan_w (v := ?_) rfl rfl (fun wx => ?_) ?_
  rotate_left 1
  · (go_simp; with_reducible rfl)
  try simp only [Act.put, List.setIfInBounds_toArray, List.set_cons_zero, List.set_cons_succ]
  refine plan_arr rfl rfl rfl rfl (cw 4 (elN m (beN l3))) (fun wx hS => (rd_range (HRE.out.still (St.fr hS)) 8 _ (by rw [cw_len]; exact elCells_at m [l1, l2, l3, l4] 2 (by simp)))) Try.underlying107 rfl (by first | (rw [cw_len]; kernel_rfl) | (simp only [List.length_append, cw_len]; kernel_rfl)) ?_
  try simp only [Act.put, List.setIfInBounds_toArray, List.set_cons_zero, List.set_cons_succ]
  refine plan_w rfl rfl (exec_eqlZ m HOK.out (beN l1) (beN l3) rfl rfl rfl HEQ.out) ?_
  try simp only [Act.put, List.setIfInBounds_toArray, List.set_cons_zero, List.set_cons_succ]
  refine plan_m rfl rfl ?_
  go_simp
  try simp only [Act.put, List.setIfInBounds_toArray, List.set_cons_zero, List.set_cons_succ]
  refine plan_end ?_
  have st4 := hd3
  clear hd3
  refine NoPanic.normal ?_
  have hfr := HF3.out.then st4.fr
  clear st4
  go_wp2_with fail
  go_ret2
  exact ⟨rfl, hfr⟩

set_option maxHeartbeats 16000000 in
set_option maxRecDepth 1000000 in
theorem Extract_ok (m : Md) (hk : KindOf 1 m) (v1 : Value) (l1 : List UInt8) (v2 : Value) (l2 : List UInt8) (v3 : Value) (l3 : List UInt8) (v4 : Value) (l4 : List UInt8) (w : World) (h1 : BPart w v1 l1) (h2 : BPart w v2 l2) (h3 : BPart w v3 l3) (h4 : BPart w v4 l4) (hg : numsB m [l1, l2, l3, l4] = true) (heq : ((beN l1) % m.M == (beN l3) % m.M) = false) :
    Calls Try.prog 31 #[v1, v2, v3, v4] w fun e w' => ∃ a c, e = .returned (.tuple #[.slice a 32 c, .int .i64 0]) ∧ 32 ≤ c ∧ RdB w' a 32 (be32 (secN m.M (beN l1) (beN l2) (beN l3) (beN l4))) ∧ Fr Nob w w' := by
  have HK := Lib.hid hk
  have HOK := Lib.hid hk.ok
  clear hk
  have HG := Lib.hid hg
  have HEQ := Lib.hid heq
  clear hg heq
  have HP1 := Lib.hid h1
  have HP2 := Lib.hid h2
  have HP3 := Lib.hid h3
  have HP4 := Lib.hid h4
  have HC1 := Lib.hid (BPart.one h1)
  have HC2 := Lib.hid (BPart.one h2)
  have HC3 := Lib.hid (BPart.one h3)
  have HC4 := Lib.hid (BPart.one h4)
  clear h1 h2 h3 h4
  go_enter Try.func31, Try.ntmps31
  go_wp2_with (with_reducible refine wl_stop (o := ⟨some 17, _, _, _, _, _⟩) ?_)
  unfold Stop
  refine wl_slit (vs := [v1, v2, v3, v4]) (hgd := rfl) (ho := rfl) (hu := Try.underlying50) (hi0 := info_bs) (hp := by rfl) (hv := fun v hv => by
    simp only [List.mem_cons, List.not_mem_nil, or_false] at hv
    rcases hv with rfl | rfl | rfl | rfl
    · exact HC1.out
    · exact HC2.out
    · exact HC3.out
    · exact HC4.out) (hk := by rfl) (hz := by rfl) (h := ?_)
  intro w2 hg2 hf2 hz2
  clear hz2
  generalize w.heap.size = gl at *
  have HF2 := Lib.hid hf2
  have HRD := Lib.hid (show Rd w2 (some ⟨gl, 0, none⟩) 4 [v1, v2, v3, v4] from Rd.whole hg2)
  clear hg2 hf2
  have HPS := Lib.hid (BParts.four (HP1.out.still HF2.out) (HP2.out.still HF2.out) (HP3.out.still HF2.out) (HP4.out.still HF2.out))
  go_wp2_with fail
  refine (All_any m HK.out _ 4 4 [v1, v2, v3, v4] [l1, l2, l3, l4] _ HRD.out HPS.out (by decide)).mono ?_
  rintro e w3 ⟨hgood, -, hf3⟩
  obtain ⟨v, rfl, hown⟩ := hgood HG.out
  obtain ⟨ae, ce, rfl, -, hre, -⟩ := hown.form
  obtain ⟨be, oe, hee, -⟩ := hre.at (by simp)
  subst hee
  have HRE := Lib.hid hre
  have HF3 := Lib.hid (HF2.out.then hf3)
  clear hgood hown hre hf3
  have st0 := St.start Nob w3
  go_wp2_with fail
  refine wp_region_noPanic ?_
  refine wp_region_plan (fun wx => St Nob w3 wx []) 7 (.w 0 (.w 1 (.t 2 (.w 3 (.w 4 (.t 5 (.w 6 (.m 7 .nil)))))))) (by kernel_rfl) (by kernel_rfl) st0.drew (fun _ _ _ _ _ h => h) ?_
  have hd3 := st0.drew
  clear st0
  refine plan_w (v := ?_) rfl rfl (fun wx => ?_) ?_
  rotate_left 1
  · (go_simp; with_reducible rfl)
  try simp only [Act.put, List.setIfInBounds_toArray, List.set_cons_zero, List.set_cons_succ]
  refine plan_w (v := ?_) rfl rfl (fun wx => ?_) ?_
  rotate_left 1
  · (go_simp; with_reducible rfl)
  try simp only [Act.put, List.setIfInBounds_toArray, List.set_cons_zero, List.set_cons_succ]
  refine plan_arr rfl rfl rfl rfl (cw 4 (elN m (beN l1))) (fun wx hS => (rd_range (HRE.out.still (St.fr hS)) 0 _ (by rw [cw_len]; exact elCells_at m [l1, l2, l3, l4] 0 (by simp)))) Try.underlying107 rfl (by first | (rw [cw_len]; kernel_rfl) | (simp only [List.length_append, cw_len]; kernel_rfl)) ?_
  try simp only [Act.put, List.setIfInBounds_toArray, List.set_cons_zero, List.set_cons_succ]
  refine plan_w (v := ?_) rfl rfl (fun wx => ?_) ?_
  rotate_left 1
  · (go_simp; with_reducible rfl)
  try simp only [Act.put, List.setIfInBounds_toArray, List.set_cons_zero, List.set_cons_succ]
  refine plan_w (v := ?_) rfl rfl (fun wx => ?_) ?_
  rotate_left 1
  · (go_simp; with_reducible rfl)
  try simp only [Act.put, List.setIfInBounds_toArray, List.set_cons_zero, List.set_cons_succ]
  refine plan_arr rfl rfl rfl rfl (cw 4 (elN m (beN l3))) (fun wx hS => (rd_range (HRE.out.still (St.fr hS)) 8 _ (by rw [cw_len]; exact elCells_at m [l1, l2, l3, l4] 2 (by simp)))) Try.underlying107 rfl (by first | (rw [cw_len]; kernel_rfl) | (simp only [List.length_append, cw_len]; kernel_rfl)) ?_
  try simp only [Act.put, List.setIfInBounds_toArray, List.set_cons_zero, List.set_cons_succ]
  refine plan_w rfl rfl (exec_eqlZ m HOK.out (beN l1) (beN l3) rfl rfl rfl HEQ.out) ?_
  try simp only [Act.put, List.setIfInBounds_toArray, List.set_cons_zero, List.set_cons_succ]
  refine plan_m rfl rfl ?_
  go_simp
  try simp only [Act.put, List.setIfInBounds_toArray, List.set_cons_zero, List.set_cons_succ]
  refine plan_end ?_
  have st4 := hd3
  clear hd3
  refine NoPanic.normal ?_
  go_wp2_with fail
  refine wp_region_noPanic ?_
  refine wp_region_plan (fun wx => St Nob w3 wx []) 18 (.w 0 (.w 1 (.t 2 (.w 3 (.w 4 (.t 5 (.w 7 (.w 8 (.t 9 (.w 10 (.w 11 (.t 12 (.r 6 (.r 13 (.r 14 (.r 15 (.r 16 (.w 17 (.m 18 .nil))))))))))))))))))) (by kernel_rfl) (by kernel_rfl) st4.drew (fun _ _ _ _ _ h => h) ?_
  have hd4 := st4.drew
  clear st4
  refine plan_w (v := ?_) rfl rfl (fun wx => ?_) ?_
  rotate_left 1
  · (go_simp; with_reducible rfl)
  try simp only [Act.put, List.setIfInBounds_toArray, List.set_cons_zero, List.set_cons_succ]
  refine plan_w (v := ?_) rfl rfl (fun wx => ?_) ?_
  rotate_left 1
  · (go_simp; with_reducible rfl)
  try simp only [Act.put, List.setIfInBounds_toArray, List.set_cons_zero, List.set_cons_succ]
  refine plan_arr rfl rfl rfl rfl (cw 4 (elN m (beN l2))) (fun wx hS => (rd_range (HRE.out.still (St.fr hS)) 4 _ (by rw [cw_len]; exact elCells_at m [l1, l2, l3, l4] 1 (by simp)))) Try.underlying107 rfl (by first | (rw [cw_len]; kernel_rfl) | (simp only [List.length_append, cw_len]; kernel_rfl)) ?_
  try simp only [Act.put, List.setIfInBounds_toArray, List.set_cons_zero, List.set_cons_succ]
  refine plan_w (v := ?_) rfl rfl (fun wx => ?_) ?_
  rotate_left 1
  · (go_simp; with_reducible rfl)
  try simp only [Act.put, List.setIfInBounds_toArray, List.set_cons_zero, List.set_cons_succ]
  refine plan_w (v := ?_) rfl rfl (fun wx => ?_) ?_
  rotate_left 1
  · (go_simp; with_reducible rfl)
  try simp only [Act.put, List.setIfInBounds_toArray, List.set_cons_zero, List.set_cons_succ]
  refine plan_arr rfl rfl rfl rfl (cw 4 (elN m (beN l4))) (fun wx hS => (rd_range (HRE.out.still (St.fr hS)) 12 _ (by rw [cw_len]; exact elCells_at m [l1, l2, l3, l4] 3 (by simp)))) Try.underlying107 rfl (by first | (rw [cw_len]; kernel_rfl) | (simp only [List.length_append, cw_len]; kernel_rfl)) ?_
  try simp only [Act.put, List.setIfInBounds_toArray, List.set_cons_zero, List.set_cons_succ]
  refine plan_w (v := ?_) rfl rfl (fun wx => ?_) ?_
  rotate_left 1
  · (go_simp; with_reducible rfl)
  try simp only [Act.put, List.setIfInBounds_toArray, List.set_cons_zero, List.set_cons_succ]
  refine plan_w (v := ?_) rfl rfl (fun wx => ?_) ?_
  rotate_left 1
  · (go_simp; with_reducible rfl)
  try simp only [Act.put, List.setIfInBounds_toArray, List.set_cons_zero, List.set_cons_succ]
  refine plan_arr rfl rfl rfl rfl (cw 4 (elN m (beN l1))) (fun wx hS => (rd_range (HRE.out.still (St.fr hS)) 0 _ (by rw [cw_len]; exact elCells_at m [l1, l2, l3, l4] 0 (by simp)))) Try.underlying107 rfl (by first | (rw [cw_len]; kernel_rfl) | (simp only [List.length_append, cw_len]; kernel_rfl)) ?_
  try simp only [Act.put, List.setIfInBounds_toArray, List.set_cons_zero, List.set_cons_succ]
  refine plan_w (v := ?_) rfl rfl (fun wx => ?_) ?_
  rotate_left 1
  · (go_simp; with_reducible rfl)
  try simp only [Act.put, List.setIfInBounds_toArray, List.set_cons_zero, List.set_cons_succ]
  refine plan_w (v := ?_) rfl rfl (fun wx => ?_) ?_
  rotate_left 1
  · (go_simp; with_reducible rfl)
  try simp only [Act.put, List.setIfInBounds_toArray, List.set_cons_zero, List.set_cons_succ]
  refine plan_arr rfl rfl rfl rfl (cw 4 (elN m (beN l3))) (fun wx hS => (rd_range (HRE.out.still (St.fr hS)) 8 _ (by rw [cw_len]; exact elCells_at m [l1, l2, l3, l4] 2 (by simp)))) Try.underlying107 rfl (by first | (rw [cw_len]; kernel_rfl) | (simp only [List.length_append, cw_len]; kernel_rfl)) ?_
  try simp only [Act.put, List.setIfInBounds_toArray, List.set_cons_zero, List.set_cons_succ]
  refine plan_r rfl rfl ?_
  go_simp
  refine (ZSub_any m HK.out (beN l2) (beN l4) _).mono ?_
  rintro e' w5 ⟨rfl, hf5⟩
  have st5 := hd4.keep hf5
  clear hf5
  clear hd4
  refine ⟨st5, ?_⟩
  try simp only [Act.put, List.setIfInBounds_toArray, List.set_cons_zero, List.set_cons_succ]
  refine plan_r rfl rfl ?_
  go_simp
  refine (ZSub_any m HK.out (beN l1) (beN l3) _).mono ?_
  rintro e' w6 ⟨rfl, hf6⟩
  have st6 := st5.keep hf6
  clear hf6
  clear st5
  refine ⟨st6, ?_⟩
  try simp only [Act.put, List.setIfInBounds_toArray, List.set_cons_zero, List.set_cons_succ]
  refine plan_r rfl rfl ?_
  go_simp
  refine (ZInv_any m HK.out ((beN l1) + (m.M - (beN l3) % m.M)) _).mono ?_
  rintro e' w7 ⟨rfl, hf7⟩
  have st7 := st6.keep hf7
  clear hf7
  clear st6
  refine ⟨st7, ?_⟩
  try simp only [Act.put, List.setIfInBounds_toArray, List.set_cons_zero, List.set_cons_succ]
  refine plan_r rfl rfl ?_
  go_simp
  refine (ZMul_any m HK.out ((beN l2) + (m.M - (beN l4) % m.M)) (((beN l1) + (m.M - (beN l3) % m.M)) ^ (m.M - 2)) _).mono ?_
  rintro e' w8 ⟨rfl, hf8⟩
  have st8 := st7.keep hf8
  clear hf8
  clear st7
  refine ⟨st8, ?_⟩
  try simp only [Act.put, List.setIfInBounds_toArray, List.set_cons_zero, List.set_cons_succ]
  refine plan_r rfl rfl ?_
  go_simp
  refine (ZBytes_any m HK.out (((beN l2) + (m.M - (beN l4) % m.M)) * ((beN l1) + (m.M - (beN l3) % m.M)) ^ (m.M - 2)) _).mono ?_
  rintro e' w9 ⟨v, rfl, hown, hf9⟩
  have st9 := st8.keep hf9
  obtain ⟨av, cv, hve, hcv, hrv, -⟩ := hown.form
  subst hve
  have HCV := Lib.hid hcv
  have HRV := Lib.hid (show RdB w9 av 32 (be32 (secN m.M (beN l1) (beN l2) (beN l3) (beN l4))) by rw [Nat.mul_one] at hrv; exact hrv)
  clear hown hrv hcv
  clear hf9
  clear st8
  refine ⟨st9, ?_⟩
  try simp only [Act.put, List.setIfInBounds_toArray, List.set_cons_zero, List.set_cons_succ]
  refine plan_w (v := ?_) rfl rfl (fun wx => ?_) ?_
  rotate_left 1
  · (go_simp; with_reducible rfl)
  try simp only [Act.put, List.setIfInBounds_toArray, List.set_cons_zero, List.set_cons_succ]
  refine plan_m rfl rfl ?_
  go_simp
  try simp only [Act.put, List.setIfInBounds_toArray, List.set_cons_zero, List.set_cons_succ]
  refine plan_end ?_
  refine NoPanic.normal ?_
  have hfr := HF3.out.then st9.fr
  clear st9
  go_wp2_with fail
  go_ret2
  exact ⟨_, _, rfl, HCV.out, HRV.out, hfr⟩
end Go.Proofs.Ytdbgddngapminaa

/- SigmaSound, plain: bytes that are a point are written so; two answers to two challenges give the secret. -/
namespace Mvp
theorem beN_inj : ∀ (n : Nat) (l m : List UInt8), l.length = n → m.length = n → beN l = beN m → l = m := by
  intro n
  induction n with
  | zero => intro l m hl hm _; rw [List.length_eq_zero_iff.1 hl, List.length_eq_zero_iff.1 hm]
  | succ n ih =>
    intro l m hl hm h
    obtain ⟨a, x, rfl⟩ : ∃ a x, l = a ++ [x] := by
      rcases List.eq_nil_or_concat l with h | ⟨a, x, h⟩
      · subst h; simp at hl
      · exact ⟨a, x, by simpa using h⟩
    obtain ⟨b, y, rfl⟩ : ∃ b y, m = b ++ [y] := by
      rcases List.eq_nil_or_concat m with h | ⟨a, x, h⟩
      · subst h; simp at hm
      · exact ⟨a, x, by simpa using h⟩
    rw [beN_snoc, beN_snoc] at h
    have hx := x.toNat_lt
    have hy := y.toNat_lt
    have e : beN a = beN b := by omega
    have e2 : x.toNat = y.toNat := by omega
    rw [ih a b (by simpa using hl) (by simpa using hm) e, UInt8.toNat_inj.1 e2]
theorem be32_beN {l : List UInt8} (h : l.length = 32) : be32 (beN l) = l := by
  refine beN_inj 32 _ _ (be32_len _) h (beN_be32 _ ?_)
  have := beN_lt l
  rwa [h] at this
theorem beN_zero {l : List UInt8} (h : beN l = 0) : l = List.replicate l.length 0 := by
  refine beN_inj l.length _ _ rfl (by simp) ?_
  rw [h]
  generalize l.length = n
  induction n with
  | zero => rfl
  | succ n ih => rw [List.replicate_succ', beN_snoc, ← ih]; rfl
end Mvp
namespace Mvq
open Mvp
theorem FP_fP : FP fP := by have := FP_P; rwa [pP_fP] at this
/-- bytes that are a point are written so -/
theorem wr_rd {l : List UInt8} (h : rdOk l = true) : wrPt (rdPt l) = l := by
  unfold rdOk at h
  simp only [Bool.and_eq_true, decide_eq_true_eq] at h
  obtain ⟨h33, h⟩ := h
  obtain ⟨b, t, rfl⟩ : ∃ b t, l = b :: t := by
    cases l with
    | nil => cases h33
    | cons b t => exact ⟨b, t, rfl⟩
  have h32 : t.length = 32 := by simpa using h33
  have hd : (b :: t).getD 0 0 = b := rfl
  have ht : tlN (b :: t) = beN t := rfl
  rw [hd, ht] at h
  unfold rdPt
  rw [hd, ht]
  by_cases h0 : b = 0
  · rw [if_pos h0] at h ⊢
    have hz := beN_zero (by simpa using h : beN t = 0)
    rw [h32] at hz
    rw [hz, h0]
    rfl
  · rw [if_neg h0] at h ⊢
    simp only [Bool.and_eq_true, decide_eq_true_eq] at h
    obtain ⟨h23, hlt, hr⟩ := h
    have hev : (kc (rtV fP (crvN (beN t)))).val % 2 = 0 := by rw [kc_val_mod]; exact root_even FP_fP
    have hx : be32 (kc (beN t)).val = t := by rw [kc_val_mod, Nat.mod_eq_of_lt hlt, be32_beN h32]
    have hne := y_ne (show kc (rtV fP (crvN (beN t))) * kc (rtV fP (crvN (beN t))) = kc (beN t) * kc (beN t) * kc (beN t) + 7 from at_on hr)
    rcases h23 with rfl | rfl
    · rw [if_neg (by decide)]
      show UInt8.ofNat (2 + _) :: be32 _ = _
      rw [hev, hx]
      rfl
    · rw [if_pos rfl]
      show UInt8.ofNat (2 + _) :: be32 _ = _
      rw [neg_val_par _ hne, show (1 + (kc (rtV fP (crvN (beN t)))).val) % 2 = 1 by omega, hx]
      rfl
/-- THE LAW: the secret out of two answers -/
theorem sound {G P R : Pt} (hG : onC G) (hP : onC P) (hR : onC R) {c1 z1 c2 z2 : Nat} (h1 : c1 < qN) (h2 : c2 < qN) (hc : c1 ≠ c2)
    (e1 : pmul z1 G = padd R (pmul c1 P)) (e2 : pmul z2 G = padd R (pmul c2 P)) : pmul (secN qN c1 z1 c2 z2) G = P := by
  have hq := qN_pQ
  have hq0 : 0 < qN := by decide
  -- the differences
  have hd : ∀ (X : Pt), onC X → ∀ a b, pmul (a + (qN - b % qN)) X = padd (pmul a X) (pneg (pmul b X)) := fun X hX a b => by rw [pmul_add hX, pmul_neg hX]
  have hC1 := pmul_on hP c1
  have hC2 := pmul_on hP c2
  have key : pmul (z1 + (qN - z2 % qN)) G = pmul (c1 + (qN - c2 % qN)) P := by
    rw [hd G hG, hd P hP, e1, e2]
    have hn : pneg (padd R (pmul c2 P)) = padd (pneg R) (pneg (pmul c2 P)) := by
      refine (pneg_uniq (padd_on hR hC2) (padd_on (pneg_on hR) (pneg_on hC2)) ?_).symm
      rw [padd_swap hR hC2 (pneg_on hR) (pneg_on hC2), padd_neg, padd_neg]
      rfl
    rw [hn, padd_swap hR hC1 (pneg_on hR) (pneg_on hC2), padd_neg]
    rfl
  unfold secN
  rw [pmul_mod hG, pmul_mul hG, key, ← pmul_mul hP]
  generalize hdd : c1 + (qN - c2 % qN) = d at *
  have hdm : d % qN ≠ 0 := by
    rw [← hdd, Nat.mod_eq_of_lt h2]
    generalize qN = q at *
    intro h
    rcases Nat.lt_or_ge c1 c2 with k | k
    · rw [Nat.mod_eq_of_lt (by omega)] at h
      omega
    · rw [show c1 + (q - c2) = (c1 - c2) + q by omega, Nat.add_mod_right, Nat.mod_eq_of_lt (by omega)] at h
      omega
  have hinv := FP.inv FP_Q (a := d % qN) (by rw [← hq]; exact Nat.mod_lt _ hq0) hdm
  rw [← hq] at hinv
  have e : d * d ^ (qN - 2) % qN = 1 := by
    rw [Nat.mul_mod, Nat.pow_mod]
    rw [Nat.mul_mod, Nat.mod_mod, Nat.mod_mod] at hinv
    exact hinv
  have := pmul_mod hP (d * d ^ (qN - 2))
  rw [e] at this
  rw [← this]
  rfl
end Mvq

/- num.Sqrt: what it answers. -/
namespace Go.Proofs.Ytdbgddngapminaa
open Go.RowKit Go.Mv Mvp
theorem MSqrt_ok (m : Md) (gp : Nat) (w : World) (hok : m.Ok) (hpm : Has w gp (mdL m) 134) (x : Nat) (hr : rtOk m.M x = true) :
    Calls Try.prog 115 #[.pointer (some ⟨gp, 0, none⟩), i4 (elN m x)] w fun e w' => e = .returned (.tuple #[i4 (elN m (rtV m.M x)), .bool true]) ∧ Fr Nob w w' := by
  unfold rtOk at hr
  unfold rtV
  unfold rtN at *
  generalize hn : m.M / 4 + 1 = n at *
  by_cases hb : x ^ n % m.M % 2 = 1
  · rw [if_pos hb]; exact MSqrt_odd m gp w hok hpm x n hn hr hb
  · rw [if_neg hb]; exact MSqrt_even m gp w hok hpm x n hn hr (by omega)
theorem MSqrt_no (m : Md) (gp : Nat) (w : World) (hok : m.Ok) (hpm : Has w gp (mdL m) 134) (x : Nat) (hr : rtOk m.M x = false) :
    Calls Try.prog 115 #[.pointer (some ⟨gp, 0, none⟩), i4 (elN m x)] w fun e w' => e = .returned (.tuple #[i4 0, .bool false]) ∧ Fr Nob w w' := by
  unfold rtOk at hr
  unfold rtN at *
  exact MSqrt_none m gp w hok hpm x _ rfl hr
attribute [local irreducible] limbs lw mix cw cSub cAdd cMul foldC valFrom beN laid be32 powm montT mstep elN mdL elCells numsB numB rtN rtOk rtV
end Go.Proofs.Ytdbgddngapminaa
