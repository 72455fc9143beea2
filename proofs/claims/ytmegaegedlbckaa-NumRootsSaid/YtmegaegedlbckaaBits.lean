/- Rules of the walk for words: what Go's operators on 64-bit words and on bytes are on UInt64 and UInt8. -/
import Derived.Test.YtmegaegedlbckaaOps
import Derived.Test.YtmegaegedlbckaaPlain
namespace Go.Mv
open Go.RowKit Mvp

theorem u64_lt (x : UInt64) : x.toNat < 18446744073709551616 := x.toNat_lt
theorem shr_toNat (x : UInt64) (k : Nat) : (shr x k).toNat = x.toNat / 2 ^ k := by
  have := u64_lt x
  have h := Nat.div_le_self x.toNat (2 ^ k)
  simp only [shr, UInt64.toNat_ofNat']
  exact Nat.mod_eq_of_lt (Nat.lt_of_le_of_lt h this)
theorem shl_toNat (x : UInt64) (k : Nat) : (shl x k).toNat = x.toNat * 2 ^ k % 18446744073709551616 := by simp [shl]

theorem shl_run (x : UInt64) (yk : IntKind) (k : Nat) : Op.shift .shl .u64 (x.toNat : Int) yk (k : Int) = pure (.int .u64 ((shl x k).toNat : Int)) := by
  rw [shift_shl_any _ _ _ _ (by omega), shl_toNat]
  congr 2
  rw [IntKind.wrap_u64]
  simp only [Int.toNat_natCast, IntKind.bits]
  rcases Nat.lt_or_ge k 64 with h | h
  · rw [Nat.min_eq_left (by omega)]
    simp
  · rw [Nat.min_eq_right (by omega)]
    obtain ⟨j, rfl⟩ : ∃ j, k = 64 + j := ⟨k - 64, by omega⟩
    have e : x.toNat * 2 ^ (64 + j) = x.toNat * 2 ^ j * 18446744073709551616 := by
      have e64 : (2 : Nat) ^ 64 = 18446744073709551616 := by decide
      rw [Nat.pow_add, e64]; ac_rfl
    rw [e, Nat.mul_mod_left]
    have e2 : (2 : Int) ^ 64 = 18446744073709551616 := by decide
    rw [e2]
    omega
theorem shr_run (x : UInt64) (yk : IntKind) (k : Nat) : Op.shift .shr .u64 (x.toNat : Int) yk (k : Int) = pure (.int .u64 ((shr x k).toNat : Int)) := by
  rw [shift_shr_any _ _ _ _ (by omega), shr_toNat]
  congr 2
  simp only [Int.toNat_natCast, IntKind.bits]
  rcases Nat.lt_or_ge k 64 with h | h
  · rw [Nat.min_eq_left (by omega)]
    simp
  · rw [Nat.min_eq_right (by omega)]
    have hx := u64_lt x
    have e2 : (2 : Int) ^ 64 = 18446744073709551616 := by decide
    have h3 : x.toNat / 2 ^ k = 0 := Nat.div_eq_of_lt (Nat.lt_of_lt_of_le hx (by have := Nat.pow_le_pow_right (show 0 < 2 by omega) h; simpa using this))
    rw [e2, h3]
    omega
theorem shl_lit (x : UInt64) (yk : IntKind) (n : Nat) : Op.shift .shl .u64 (x.toNat : Int) yk (no_index (OfNat.ofNat n)) = pure (.int .u64 ((shl x n).toNat : Int)) := shl_run x yk n
theorem shr_lit (x : UInt64) (yk : IntKind) (n : Nat) : Op.shift .shr .u64 (x.toNat : Int) yk (no_index (OfNat.ofNat n)) = pure (.int .u64 ((shr x n).toNat : Int)) := shr_run x yk n
theorem xor_run (x y : UInt64) : bits .xor .u64 (x.toNat : Int) (y.toNat : Int) = ((wx x y).toNat : Int) := by
  have := bits_xor_u64_nat x.toNat y.toNat (u64_lt x) (u64_lt y)
  rw [this]; simp [wx]
theorem or_run (x y : UInt64) : bits .or .u64 (x.toNat : Int) (y.toNat : Int) = ((wo x y).toNat : Int) := by
  have := bits_or_u64_nat x.toNat y.toNat (u64_lt x) (u64_lt y)
  rw [this]; simp [wo]
theorem and_run (x y : UInt64) : bits .and .u64 (x.toNat : Int) (y.toNat : Int) = ((wa x y).toNat : Int) := by
  have := bits_and_u64_nat x.toNat y.toNat (u64_lt x) (u64_lt y)
  rw [this]; simp [wa]
theorem not_run (x : UInt64) : bits .xor .u64 18446744073709551615 (x.toNat : Int) = ((wn x).toNat : Int) := by
  have e : (18446744073709551615 : Int) = (((18446744073709551615 : UInt64).toNat : Nat) : Int) := by decide
  have e1 : (18446744073709551615 : UInt64) = -1 := by decide
  rw [e, xor_run, e1, wx, UInt64.neg_one_xor, wn]
theorem not_run2 (x : UInt64) : bits .xor .u64 (if IntKind.u64.signed = true then -1 else IntKind.u64.max) (x.toNat : Int) = ((wn x).toNat : Int) := not_run x
theorem and63_run (k : Nat) : bits .and .u64 (k : Int) 63 = ((k % 64 : Nat) : Int) := by
  have h1 : BitVec.ofInt 64 (k : Int) = BitVec.ofNat 64 k := by simp
  have h2 : (BitVec.ofNat 64 k &&& BitVec.ofInt 64 63).toNat = k % 64 := by
    have e : (BitVec.ofInt 64 63).toNat = 2 ^ 6 - 1 := by decide
    rw [BitVec.toNat_and, e, Nat.and_two_pow_sub_one_eq_mod, BitVec.toNat_ofNat]
    omega
  show IntKind.u64.wrap (((BitVec.ofInt 64 (k : Int) &&& BitVec.ofInt 64 63).toNat : Nat) : Int) = _
  rw [h1, h2, IntKind.wrap_u64]
  omega
theorem widen_run (x : UInt8) : IntKind.u64.wrap (x.toNat : Int) = ((wid x).toNat : Int) := by
  have := x.toNat_lt
  rw [IntKind.wrap_u64]; simp [wid]; omega
theorem narrow_run (x : UInt64) : IntKind.u8.wrap (x.toNat : Int) = ((lo8 x).toNat : Int) := by
  rw [IntKind.wrap_u8']; simp [lo8]
theorem xor8_run (x y : UInt8) : bits .xor .u8 (x.toNat : Int) (y.toNat : Int) = ((bx x y).toNat : Int) := by
  rw [u8_xor_nat _ _ x.toNat_lt y.toNat_lt]; simp [bx]
theorem and8_run (x y : UInt8) : bits .and .u8 (x.toNat : Int) (y.toNat : Int) = ((ba x y).toNat : Int) := by
  rw [u8_and_nat _ _ x.toNat_lt y.toNat_lt]; simp [ba]
theorem or8_run (x y : UInt8) : bits .or .u8 (x.toNat : Int) (y.toNat : Int) = ((bo x y).toNat : Int) := by
  rw [u8_or_nat _ _ x.toNat_lt y.toNat_lt]; simp [bo]
theorem narrow_nat (k : Nat) : IntKind.u8.wrap (k : Int) = ((UInt8.ofNat k).toNat : Int) := by
  rw [IntKind.wrap_u8']; simp
theorem ofInt_nat (k : Nat) : BitVec.ofInt 64 (k : Int) = BitVec.ofNat 64 k := by simp
theorem wrap_i64_small (n : Nat) (h : n < 9223372036854775808) : IntKind.i64.wrap (n : Int) = (n : Int) := by rw [IntKind.wrap_i64]; omega
theorem xor_lt63 (a b : Nat) (ha : a < 9223372036854775808) (hb : b < 9223372036854775808) : a ^^^ b < 9223372036854775808 := Nat.xor_lt_two_pow (n := 63) ha hb
theorem xor_i64 (a b : Nat) (ha : a < 9223372036854775808) (hb : b < 9223372036854775808) : bits .xor .i64 (a : Int) (b : Int) = ((a ^^^ b : Nat) : Int) := by
  show IntKind.i64.wrap (((BitVec.ofInt 64 (a : Int) ^^^ BitVec.ofInt 64 (b : Int)).toNat : Nat) : Int) = _
  rw [ofInt_nat, ofInt_nat, BitVec.toNat_xor, BitVec.toNat_ofNat, BitVec.toNat_ofNat, Nat.mod_eq_of_lt (by omega), Nat.mod_eq_of_lt (by omega)]
  exact wrap_i64_small _ (xor_lt63 a b ha hb)
theorem and_i64 (a b : Nat) (ha : a < 9223372036854775808) (hb : b < 9223372036854775808) : bits .and .i64 (a : Int) (b : Int) = ((a &&& b : Nat) : Int) := by
  show IntKind.i64.wrap (((BitVec.ofInt 64 (a : Int) &&& BitVec.ofInt 64 (b : Int)).toNat : Nat) : Int) = _
  rw [ofInt_nat, ofInt_nat, BitVec.toNat_and, BitVec.toNat_ofNat, BitVec.toNat_ofNat, Nat.mod_eq_of_lt (by omega), Nat.mod_eq_of_lt (by omega)]
  exact wrap_i64_small _ (Nat.lt_of_le_of_lt Nat.and_le_left ha)
theorem or_i64 (a b : Nat) (ha : a < 9223372036854775808) (hb : b < 9223372036854775808) : bits .or .i64 (a : Int) (b : Int) = ((a ||| b : Nat) : Int) := by
  show IntKind.i64.wrap (((BitVec.ofInt 64 (a : Int) ||| BitVec.ofInt 64 (b : Int)).toNat : Nat) : Int) = _
  rw [ofInt_nat, ofInt_nat, BitVec.toNat_or, BitVec.toNat_ofNat, BitVec.toNat_ofNat, Nat.mod_eq_of_lt (by omega), Nat.mod_eq_of_lt (by omega)]
  exact wrap_i64_small _ (Nat.or_lt_two_pow (n := 63) ha hb)
theorem wid_toNat (y : UInt8) : (wid y).toNat = y.toNat := by simp [wid]
theorem or_mix (x : UInt64) (y : UInt8) : bits .or .u64 (x.toNat : Int) (y.toNat : Int) = ((wo x (wid y)).toNat : Int) := by rw [← or_run, wid_toNat]
theorem xor_mix (x : UInt64) (y : UInt8) : bits .xor .u64 (x.toNat : Int) (y.toNat : Int) = ((wx x (wid y)).toNat : Int) := by rw [← xor_run, wid_toNat]
theorem shl_mix (x : UInt8) (yk : IntKind) (k : Nat) : Op.shift .shl .u64 (x.toNat : Int) yk (k : Int) = pure (.int .u64 ((shl (wid x) k).toNat : Int)) := by rw [← shl_run, wid_toNat]
theorem shl_wrap (x : UInt64) (k : Nat) : IntKind.u64.wrap ((x.toNat : Int) * 2 ^ k) = ((shl x k).toNat : Int) := by
  rw [IntKind.wrap_u64, shl_toNat]; simp
theorem shr_div (x : UInt64) (k : Nat) : (x.toNat : Int) / 2 ^ k = ((shr x k).toNat : Int) := by
  rw [shr_toNat]; simp
attribute [go_sem high] shl_wrap shr_div or_mix xor_mix shl_mix shl_lit shr_lit shl_run shr_run xor_run or_run and_run not_run not_run2 and63_run widen_run narrow_run xor8_run and8_run or8_run

section
variable {P : Program} {w : World} {ops : Array Oper} {rest : List Oper} {o : Oper} {a : Act} {Q : Exit → Act → World → Prop}
/-- s[i] of a text: the byte F i, where F is told -/
theorem wl_index_str {x i : Operand} {t : TypeId} (hgd : o.guard = none) (ho : o.op = .index t x i) (ht : P.underlying t = some .string) {s : ByteArray} {ki : IntKind} {j : Int} (hx : a.eval x = .string s) (hi : a.eval i = .int ki j)
    (k : Nat) (hj : j = k) (hk : k < s.size) (y : UInt8) (hy : s.data.toList.getD k 0 = y) (h : wpList P ops Q rest (a.put o.dst (.int .u8 (y.toNat : Int))) w) : wpList P ops Q (o :: rest) a w := by
  refine wpList_plain hgd fun K hK => ?_
  subst hj
  have he : s[k]? = some y := by
    have h1 : s[k]? = some s[k] := getElem?_pos s k hk
    rw [h1]
    congr 1
    rw [← hy, List.getD_eq_getElem?_getD, List.getElem?_eq_getElem (by simpa using hk)]
    simp
    rfl
  have hr : (Instr.index t (.string s) (.int ki (k : Int))).run P w = .ok (.int .u8 (y.toNat : Int)) w := by
    simp [Instr.index, asIntOf, run_underlying ht, he]
  unfold Oper.wp execOp
  simp only [ho, hx, hi, Sem.run_bind, Sem.run_pure, Result.andThen_ok, hr]
  exact hK _ _ h
end

/-- a call that leaves the world alone, behind draws -/
theorem quiet_more {P : Program} {f : FuncId} {args : Array Value} {w : World} {a n : Nat} {v : Value}
    (h : Calls P f args (w.drewN (a + n)) fun e w' => e = .returned v ∧ w' = w.drewN (a + n)) :
    Calls P f args (w.drewN (a + n)) fun e w'' => e = .returned v ∧ ∃ m, w'' = w.drewN (a + m) :=
  h.mono fun _ _ h => ⟨h.1, n, h.2⟩
end Go.Mv
