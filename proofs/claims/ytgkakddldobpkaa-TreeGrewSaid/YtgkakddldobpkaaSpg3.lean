/- Pure sponge: bytes are fed one by one; the sponge and what is hashed with it. -/
import Derived.Test.YtgkakddldobpkaaSpg2
namespace Mvp

/-- one more byte: at the end of a piece the state is turned -/
def feed1 (st : List UInt64 × Nat) (x : UInt8) : List UInt64 × Nat :=
  if st.2 + 1 = 136 then (permS (xorStep st.1 st.2 x), 0) else (xorStep st.1 st.2 x, st.2 + 1)
def feed (st : List UInt64 × Nat) (l : List UInt8) : List UInt64 × Nat := l.foldl feed1 st
theorem feed_append (st : List UInt64 × Nat) (l m : List UInt8) : feed st (l ++ m) = feed (feed st l) m := by simp [feed]
theorem feed_nil (st : List UInt64 × Nat) : feed st [] = st := rfl
theorem feed_cons (st : List UInt64 × Nat) (x : UInt8) (l : List UInt8) : feed st (x :: l) = feed (feed1 st x) l := rfl

/-- bytes are added from place k on -/
def xorAt : List UInt64 → Nat → List UInt8 → List UInt64
  | S, _, [] => S
  | S, k, x :: l => xorAt (xorStep S k x) (k + 1) l
theorem xorStep_len (S : List UInt64) (k : Nat) (x : UInt8) : (xorStep S k x).length = S.length := by simp [xorStep]
theorem xorAt_len (l : List UInt8) : ∀ (S : List UInt64) (k : Nat), (xorAt S k l).length = S.length := by
  induction l with
  | nil => intro S k; rfl
  | cons x l ih => intro S k; rw [xorAt, ih, xorStep_len]
theorem feed_short (l : List UInt8) : ∀ (S : List UInt64) (k : Nat), k + l.length < 136 → feed (S, k) l = (xorAt S k l, k + l.length) := by
  induction l with
  | nil => intro S k _; rfl
  | cons x l ih =>
    intro S k h
    simp only [List.length_cons] at h
    rw [feed_cons, feed1, if_neg (by simp; omega), ih _ _ (by simp; omega), xorAt]
    simp; omega
theorem feed_full (l : List UInt8) : ∀ (S : List UInt64) (k : Nat), k + l.length = 136 → k < 136 → feed (S, k) l = (permS (xorAt S k l), 0) := by
  induction l with
  | nil => intro S k h h'; simp at h; omega
  | cons x l ih =>
    intro S k h h'
    simp only [List.length_cons] at h
    by_cases hl : l = []
    · subst hl
      simp at h
      rw [feed_cons, feed1, if_pos (by simp; omega), feed_nil]
      rfl
    · have hp : 0 < l.length := List.length_pos_iff.2 hl
      rw [feed_cons, feed1, if_neg (by simp; omega), ih _ _ (by simp; omega) (by simp; omega), xorAt]
theorem feed_lt (l : List UInt8) : ∀ (st : List UInt64 × Nat), st.2 < 136 → (feed st l).2 < 136 := by
  induction l with
  | nil => intro st h; exact h
  | cons x l ih =>
    intro st h
    rw [feed_cons]
    apply ih
    unfold feed1
    split
    · simp
    · simp; omega
theorem feed_len (l : List UInt8) : ∀ (st : List UInt64 × Nat), (feed st l).1.length = st.1.length := by
  induction l with
  | nil => intro st; rfl
  | cons x l ih =>
    intro st
    rw [feed_cons, ih]
    unfold feed1
    split
    · simp [permS_len, xorStep_len]
    · simp [xorStep_len]

theorem xorStep_zero (S : List UInt64) (k : Nat) : xorStep S k 0 = S := by
  have e : shl (wid 0) (8 * (k % 8)) = 0 := by
    apply UInt64.toNat_inj.1
    simp [shl, wid]
  unfold xorStep
  rw [e]
  have e2 : wx (S.getD (k / 8) 0) 0 = S.getD (k / 8) 0 := by simp [wx]
  rw [e2]
  rcases Nat.lt_or_ge (k / 8) S.length with h | h
  · have e3 : S.getD (k / 8) 0 = S[k / 8] := by simp [List.getD_eq_getElem?_getD, h]
    rw [e3]; simp
  · exact List.set_eq_of_length_le h
/-- the bytes of b are added, the first ones being 0 -/
theorem xorB_eq (S : List UInt64) (b : List UInt8) (n : Nat) : n ≤ b.length → xorB S b n = xorAt S 0 (b.take n) := by
  have key : ∀ (l : List UInt8) (S : List UInt64) (k : Nat) (x : UInt8), xorAt S k (l ++ [x]) = xorStep (xorAt S k l) (k + l.length) x := by
    intro l
    induction l with
    | nil => intro S k x; rfl
    | cons y l ih =>
      intro S k x
      rw [List.cons_append, xorAt, ih, xorAt]
      simp [Nat.add_assoc, Nat.add_comm 1]
  induction n with
  | zero => intro _; simp [xorB, xorAt]
  | succ n ih =>
    intro h
    have hn : n < b.length := by omega
    rw [xorB_succ, ih (by omega), List.take_succ_eq_append_getElem hn, key]
    congr 1
    · simp; omega
    · simp [List.getD_eq_getElem?_getD, hn]
theorem xorAt_zeros (S : List UInt64) (k : Nat) (l : List UInt8) : ∀ j, xorAt S j (List.replicate k 0 ++ l) = xorAt S (j + k) l := by
  induction k with
  | zero => intro j; simp
  | succ k ih =>
    intro j
    rw [List.replicate_succ, List.cons_append, xorAt, xorStep_zero, ih, Nat.add_assoc, Nat.add_comm 1 k]
/-- a piece with its bytes from place k on -/
theorem xorB_piece (S : List UInt64) (k : Nat) (l rest : List UInt8) : xorB S (List.replicate k 0 ++ l ++ rest) (k + l.length) = xorAt S k l := by
  rw [xorB_eq _ _ _ (by simp), List.take_left' (by simp), xorAt_zeros]
  simp

/- the sponge -/
attribute [local irreducible] permS toB
/-- what ends the text: so many bytes are in the last piece -/
def padL (k : Nat) (e : UInt8) : List UInt8 := ((e :: List.replicate (135 - k) 0).set (135 - k) (bx (((e :: List.replicate (135 - k) 0)).getD (135 - k) 0) 0x80))
theorem padL_len (k : Nat) (e : UInt8) (h : k < 136) : (padL k e).length = 136 - k := by simp [padL]; omega
/-- the state behind the text -/
def ended (st : List UInt64 × Nat) (e : UInt8) : List UInt64 := (feed st (padL st.2 e)).1
/-- k pieces of the answer -/
def squeeze (S : List UInt64) : Nat → List UInt8
  | 0 => []
  | k + 1 => toB S 136 ++ squeeze (permS S) k
def permN (S : List UInt64) : Nat → List UInt64
  | 0 => S
  | k + 1 => permN (permS S) k
theorem permN_succ (k : Nat) : ∀ (S : List UInt64), permN S (k + 1) = permS (permN S k) := by
  induction k with
  | zero => intro S; rfl
  | succ k ih => intro S; rw [permN, ih]; rfl
theorem permN_len (k : Nat) : ∀ (S : List UInt64), (permN S k).length = S.length := by
  induction k with
  | zero => intro S; rfl
  | succ k ih => intro S; rw [permN, ih, permS_len]
theorem squeeze_len (k : Nat) : ∀ (S : List UInt64), (squeeze S k).length = 136 * k := by
  induction k with
  | zero => intro S; rfl
  | succ k ih => intro S; rw [squeeze, List.length_append, toB_len, ih]; omega
theorem squeeze_succ (k : Nat) : ∀ (S : List UInt64), squeeze S (k + 1) = squeeze S k ++ toB (permN S k) 136 := by
  induction k with
  | zero => intro S; simp [squeeze, permN]
  | succ k ih => intro S; rw [squeeze, ih (permS S)]; rw [squeeze, permN, List.append_assoc]
/-- enough pieces for n bytes -/
def pieces (n : Nat) : Nat := (n + 135) / 136
def outB (S : List UInt64) (n : Nat) : List UInt8 := (squeeze S (pieces n)).take n
theorem outB_len (S : List UInt64) (n : Nat) : (outB S n).length = n := by
  simp only [outB, List.length_take, squeeze_len, pieces]; omega
/-- n bytes of the sponge -/
def spongeB (l : List UInt8) (e : UInt8) (n : Nat) : List UInt8 := outB (ended (feed (zeros25, 0) l) e) n
theorem spongeB_len (l : List UInt8) (e : UInt8) (n : Nat) : (spongeB l e n).length = n := outB_len _ _
end Mvp
