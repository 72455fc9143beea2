/- Plain lemmas on lists: filling a list from the left. -/
namespace Mvp

/-- the first k of F, the rest of I -/
def fill {α : Type} (F I : List α) (k : Nat) : List α := F.take k ++ I.drop k
theorem fill_length {α : Type} (F I : List α) (k : Nat) (h : F.length = I.length) : (fill F I k).length = I.length := by simp [fill]; omega
theorem fill_zero {α : Type} (F I : List α) : fill F I 0 = I := by simp [fill]
theorem fill_all {α : Type} (F I : List α) (k : Nat) (h : F.length = I.length) (hk : F.length ≤ k) : fill F I k = F := by
  unfold fill
  rw [List.take_of_length_le hk, List.drop_eq_nil_of_le (by omega), List.append_nil]
theorem fill_set {α : Type} (F I : List α) (k : Nat) (h : F.length = I.length) (hk : k < F.length) (d : α) : (fill F I k).set k (F.getD k d) = fill F I (k + 1) := by
  unfold fill
  have e : F.getD k d = F[k] := by simp [List.getD_eq_getElem?_getD, hk]
  rw [e, List.set_append_right _ _ (by simp; omega), List.length_take, Nat.min_eq_left (Nat.le_of_lt hk), Nat.sub_self, List.drop_eq_getElem_cons (by omega), List.set_cons_zero, List.take_succ_eq_append_getElem hk]
  simp only [List.append_assoc, List.singleton_append]
theorem fill_get {α : Type} (F I : List α) (k i : Nat) (h : F.length = I.length) (hk : k ≤ i) : (fill F I k)[i]? = I[i]? := by
  unfold fill
  rcases Nat.lt_or_ge i I.length with hi | hi
  · rw [List.getElem?_append_right (by simp; omega)]
    simp [Nat.min_eq_left (show k ≤ F.length by omega), List.getElem?_drop, show k + (i - k) = i by omega]
  · rw [List.getElem?_eq_none (by simp; omega), List.getElem?_eq_none hi]

/-- Go's shifts of a 64-bit word, at every count -/
def shl (x : UInt64) (k : Nat) : UInt64 := UInt64.ofNat (x.toNat * 2 ^ k)
def shr (x : UInt64) (k : Nat) : UInt64 := UInt64.ofNat (x.toNat / 2 ^ k)
/-- the operators under names of their own -/
def wx (x y : UInt64) : UInt64 := x ^^^ y
def wo (x y : UInt64) : UInt64 := x ||| y
def wa (x y : UInt64) : UInt64 := x &&& y
def wn (x : UInt64) : UInt64 := ~~~x
def wid (x : UInt8) : UInt64 := x.toUInt64
def lo8 (x : UInt64) : UInt8 := x.toUInt8
def bx (x y : UInt8) : UInt8 := x ^^^ y
def bo (x y : UInt8) : UInt8 := x ||| y
def ba (x y : UInt8) : UInt8 := x &&& y
/-- Go's rotation of a 64-bit word to the left -/
def rotl (x : UInt64) (n : Nat) : UInt64 := shl x n ||| shr x (64 - n)
end Mvp
