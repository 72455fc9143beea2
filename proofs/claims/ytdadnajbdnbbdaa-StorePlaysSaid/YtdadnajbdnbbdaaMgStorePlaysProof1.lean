/- Plain lemmas on lists: filling a list from the left; Pure sponge: what the program's and the reference's permutation compute, and that the two are one; Pure sponge: the permutation of bytes, both ways; store: plain. Frames, one behind the other, are read back; the beginning of a frame is none; store: plain. A store's states; what is opened behind a loss of power is what was answered OK; Words for memory: which blocks may have turned (Fr), a block known whole (Has), a slice that reads as a list of cells (Rd). Nothing here knows of a program; Laws of the walk for make, copy, append and conversions, over the words of Mem. Nothing here knows of a program; mintvaultref1.Lent: the bytes of a text, at the front of a longer list; mintvaultref1.Still: is a list all as it was lent?; Rules of the walk for words: what Go's operators on 64-bit words and on bytes are on UInt64 and UInt8; word functions of the sponge; the constants of the rounds, and how far the lanes are turned; Whole arrays in memory: load, store, result, over the words of Mem; how far the lanes are turned; the state: bytes are added, and given; the state's bytes; Permute; the permutation of the program. -/
import Derived.KernelRfl
import Derived.WalkKit
import Derived.WalkLawsBesides
import Derived.WalkSpells
import Derived.Lib.Hide
import Derived.Laws.CopyOwn
import Derived.Deep.QuietTactic
import Derived.BigQuiet
import Derived.StillTailTactics
import Derived.Deep.RegionHeld3
import Derived.Deep.RegionWith
import Derived.Deep.DeepFit
import Derived.Test.YtdadnajbdnbbdaaProg
import Derived.Deep.MidRow
namespace Mvp

/-- the first k of F, the rest of I -/
def fill {α : Type} (F I : List α) (k : Nat) : List α := F.take k ++ I.drop k
theorem fill_length {α : Type} (F I : List α) (k : Nat) (h : F.length = I.length) : (fill F I k).length = I.length := by simp [fill]; omega
theorem fill_zero {α : Type} (F I : List α) : fill F I 0 = I := by simp [fill]
theorem fill_all {α : Type} (F I : List α) (k : Nat) (h : F.length = I.length) (hk : F.length ≤ k) : fill F I k = F := by
  unfold fill
  rw [List.take_of_length_le hk, List.drop_eq_nil_of_le (by omega), List.append_nil]
theorem fill_set {α : Type} (F I : List α) (k : Nat) (h : F.length = I.length) (hk : k < F.length) (d : α) : (fill F I k).set k (F.getD k d) = fill F I (k + 1) := by
  unfold fill
  have e : F.getD k d = F[k] := by simp [List.getD_eq_getElem?_getD, hk]
  rw [e, List.set_append_right _ _ (by simp; omega), List.length_take, Nat.min_eq_left (Nat.le_of_lt hk), Nat.sub_self, List.drop_eq_getElem_cons (by omega), List.set_cons_zero, List.take_succ_eq_append_getElem hk]
  simp only [List.append_assoc, List.singleton_append]
/-- Go's shifts of a 64-bit word, at every count -/
def shl (x : UInt64) (k : Nat) : UInt64 := UInt64.ofNat (x.toNat * 2 ^ k)
def shr (x : UInt64) (k : Nat) : UInt64 := UInt64.ofNat (x.toNat / 2 ^ k)
/-- the operators under names of their own -/
def wx (x y : UInt64) : UInt64 := x ^^^ y
def wo (x y : UInt64) : UInt64 := x ||| y
def wa (x y : UInt64) : UInt64 := x &&& y
def wn (x : UInt64) : UInt64 := ~~~x
def wid (x : UInt8) : UInt64 := x.toUInt64
def lo8 (x : UInt64) : UInt8 := x.toUInt8
def bx (x y : UInt8) : UInt8 := x ^^^ y
def bo (x y : UInt8) : UInt8 := x ||| y
def ba (x y : UInt8) : UInt8 := x &&& y
/-- Go's rotation of a 64-bit word to the left -/
def rotl (x : UInt64) (n : Nat) : UInt64 := shl x n ||| shr x (64 - n)
end Mvp

/- Pure sponge: what the program's and the reference's permutation compute, and that the two are one. -/
namespace Mvp


def goesTo (i : Nat) : Nat := i / 5 + 5 * ((2 * (i % 5) + 3 * (i / 5)) % 5)

/- the program -/
def colStep (s c : List UInt64) (i : Nat) : List UInt64 := c.set (i % 5) (c.getD (i % 5) 0 ^^^ s.getD i 0)
def colP (s : List UInt64) (k : Nat) : List UInt64 := (List.range k).foldl (colStep s) [0, 0, 0, 0, 0]
def movStep (s col : List UInt64) (by_ : List Nat) (m : List UInt64) (i : Nat) : List UInt64 :=
  m.set (goesTo i) (rotl (s.getD i 0 ^^^ (col.getD ((i + 4) % 5) 0 ^^^ rotl (col.getD ((i + 1) % 5) 0) 1)) (by_.getD i 0))
def movP (s col : List UInt64) (by_ : List Nat) (k : Nat) : List UInt64 := (List.range k).foldl (movStep s col by_) (List.replicate 25 0)
def chiStep (m : List UInt64) (y : Nat) (s : List UInt64) (x : Nat) : List UInt64 :=
  s.set (y + x) (m.getD (y + x) 0 ^^^ (~~~ (m.getD (y + (x + 1) % 5) 0) &&& m.getD (y + (x + 2) % 5) 0))
def chiRow (m s : List UInt64) (y k : Nat) : List UInt64 := (List.range k).foldl (chiStep m y) s
def chiP (m s : List UInt64) (k : Nat) : List UInt64 := (List.range k).foldl (fun s y => chiRow m s (5 * y) 5) s
def roundP (by_ : List Nat) (s : List UInt64) (c : UInt64) : List UInt64 :=
  let t := chiP (movP s (colP s 25) by_ 25) s 5
  t.set 0 (t.getD 0 0 ^^^ c)
def permP (by_ : List Nat) (rc : Nat → UInt64) (s : List UInt64) (k : Nat) : List UInt64 := (List.range k).foldl (fun s r => roundP by_ s (rc r)) s

/- the reference -/
def place (x y : Nat) : Nat := x % 5 + 5 * (y % 5)
def colRstep (s : List UInt64) (x : Nat) (c : List UInt64) (y : Nat) : List UInt64 := c.set x (c.getD x 0 ^^^ s.getD (place x y) 0)
def colRrow (s c : List UInt64) (x k : Nat) : List UInt64 := (List.range k).foldl (colRstep s x) c
def colR (s : List UInt64) (k : Nat) : List UInt64 := (List.range k).foldl (fun c x => colRrow s c x 5) [0, 0, 0, 0, 0]
def movRstep (s : List UInt64) (turn : List Nat) (x : Nat) (d : UInt64) (m : List UInt64) (y : Nat) : List UInt64 :=
  m.set (place y (2 * x + 3 * y)) (rotl (s.getD (place x y) 0 ^^^ d) (turn.getD (place x y) 0))
def movRrow (s : List UInt64) (turn : List Nat) (m : List UInt64) (x : Nat) (d : UInt64) (k : Nat) : List UInt64 := (List.range k).foldl (movRstep s turn x d) m
def dR (col : List UInt64) (x : Nat) : UInt64 := col.getD ((x + 4) % 5) 0 ^^^ rotl (col.getD ((x + 1) % 5) 0) 1
def movR (s : List UInt64) (turn : List Nat) (col : List UInt64) (k : Nat) : List UInt64 := (List.range k).foldl (fun m x => movRrow s turn m x (dR col x) 5) (List.replicate 25 0)
def chiRstep (m : List UInt64) (x : Nat) (o : List UInt64) (y : Nat) : List UInt64 :=
  o.set (place x y) (m.getD (place x y) 0 ^^^ (~~~ (m.getD (place (x + 1) y) 0) &&& m.getD (place (x + 2) y) 0))
def chiRrow (m o : List UInt64) (x k : Nat) : List UInt64 := (List.range k).foldl (chiRstep m x) o
def chiR (m : List UInt64) (k : Nat) : List UInt64 := (List.range k).foldl (fun o x => chiRrow m o x 5) (List.replicate 25 0)
def roundR (turn : List Nat) (s : List UInt64) (c : UInt64) : List UInt64 :=
  let t := chiR (movR s turn (colR s 5) 5) 5
  t.set 0 (t.getD 0 0 ^^^ c)
def permR (turn : List Nat) (rc : Nat → UInt64) (s : List UInt64) (k : Nat) : List UInt64 := (List.range k).foldl (fun s r => roundR turn s (rc r)) s

theorem len25 (s : List UInt64) (h : s.length = 25) : ∃ a0 a1 a2 a3 a4 a5 a6 a7 a8 a9 a10 a11 a12 a13 a14 a15 a16 a17 a18 a19 a20 a21 a22 a23 a24, s = [a0, a1, a2, a3, a4, a5, a6, a7, a8, a9, a10, a11, a12, a13, a14, a15, a16, a17, a18, a19, a20, a21, a22, a23, a24] := by
  match s, h with
  | [a0, a1, a2, a3, a4, a5, a6, a7, a8, a9, a10, a11, a12, a13, a14, a15, a16, a17, a18, a19, a20, a21, a22, a23, a24], _ => exact ⟨_, _, _, _, _, _, _, _, _, _, _, _, _, _, _, _, _, _, _, _, _, _, _, _, _, rfl⟩

theorem col_same (s : List UInt64) (h : s.length = 25) : colP s 25 = colR s 5 := by
  obtain ⟨a0, a1, a2, a3, a4, a5, a6, a7, a8, a9, a10, a11, a12, a13, a14, a15, a16, a17, a18, a19, a20, a21, a22, a23, a24, rfl⟩ := len25 s h
  kernel_rfl

theorem mov_same (s col : List UInt64) (t : List Nat) : movP s col t 25 = movR s t col 5 := by
  kernel_rfl

theorem chi_same (m s : List UInt64) (h : s.length = 25) : chiP m s 5 = chiR m 5 := by
  obtain ⟨a0, a1, a2, a3, a4, a5, a6, a7, a8, a9, a10, a11, a12, a13, a14, a15, a16, a17, a18, a19, a20, a21, a22, a23, a24, rfl⟩ := len25 s h
  kernel_rfl

theorem round_same (t : List Nat) (s : List UInt64) (c : UInt64) (h : s.length = 25) : roundP t s c = roundR t s c := by
  unfold roundP roundR
  rw [col_same s h, mov_same, chi_same _ s h]

theorem foldl_inv {α β : Type} (P : α → Prop) (f : α → β → α) (hf : ∀ a b, P a → P (f a b)) (l : List β) : ∀ a, P a → P (l.foldl f a) := by
  induction l with
  | nil => intro a h; exact h
  | cons b l ih => intro a h; exact ih _ (hf _ _ h)

theorem chiP_len (m s : List UInt64) (k : Nat) : (chiP m s k).length = s.length := by
  refine foldl_inv (fun l : List UInt64 => l.length = s.length) _ (fun a y h => ?_) _ _ rfl
  refine foldl_inv (fun l : List UInt64 => l.length = s.length) _ (fun b x h => ?_) _ _ h
  simp [chiStep, h]

theorem roundP_len (t : List Nat) (s : List UInt64) (c : UInt64) : (roundP t s c).length = s.length := by simp [roundP, chiP_len]

theorem permP_succ (t : List Nat) (rc : Nat → UInt64) (s : List UInt64) (k : Nat) : permP t rc s (k + 1) = roundP t (permP t rc s k) (rc k) := by
  simp [permP, List.range_succ]
theorem permR_succ (t : List Nat) (rc : Nat → UInt64) (s : List UInt64) (k : Nat) : permR t rc s (k + 1) = roundR t (permR t rc s k) (rc k) := by
  simp [permR, List.range_succ]
theorem permP_len (t : List Nat) (rc : Nat → UInt64) (s : List UInt64) (k : Nat) : (permP t rc s k).length = s.length := by
  induction k with
  | zero => simp [permP]
  | succ k ih => rw [permP_succ, roundP_len, ih]
theorem perm_same (t : List Nat) (rc rc' : Nat → UInt64) (s : List UInt64) (h : s.length = 25) (n : Nat) (hrc : ∀ r, r < n → rc r = rc' r) : permP t rc s n = permR t rc' s n := by
  induction n with
  | zero => simp [permP, permR]
  | succ k ih =>
    rw [permP_succ, permR_succ, ← ih (fun r hr => hrc r (by omega)), hrc k (by omega)]
    exact round_same _ _ _ (by rw [permP_len, h])

/- the constants of the rounds -/
def lfsr : Nat → Nat
  | 0 => 1
  | n + 1 => if 2 * lfsr n > 255 then (2 * lfsr n) ^^^ 369 else 2 * lfsr n
theorem lfsr_lt (n : Nat) : lfsr n < 256 := by
  have h : ∀ r, r < 256 → (if 2 * r > 255 then (2 * r) ^^^ 369 else 2 * r) < 256 := by decide +kernel
  induction n with
  | zero => decide
  | succ n ih => exact h _ ih
def bitR (t : Nat) : Nat := lfsr t % 2
def bitW (t : Nat) : UInt64 := UInt64.ofNat (bitR t)
def rcStep (r : Nat) (out : UInt64) (j : Nat) : UInt64 := out ||| shl (bitW (j + 7 * r)) (2 ^ j - 1)
def rcR (r k : Nat) : UInt64 := (List.range k).foldl (rcStep r) 0

def rcBytes : List Nat := [
  0, 0, 0, 0, 0, 0, 0, 1, 0, 0, 0, 0, 0, 0, 0x80, 0x82, 0x80, 0, 0, 0, 0, 0, 0x80, 0x8a, 0x80, 0, 0, 0, 0x80, 0, 0x80, 0,
  0, 0, 0, 0, 0, 0, 0x80, 0x8b, 0, 0, 0, 0, 0x80, 0, 0, 1, 0x80, 0, 0, 0, 0x80, 0, 0x80, 0x81, 0x80, 0, 0, 0, 0, 0, 0x80, 9,
  0, 0, 0, 0, 0, 0, 0, 0x8a, 0, 0, 0, 0, 0, 0, 0, 0x88, 0, 0, 0, 0, 0x80, 0, 0x80, 9, 0, 0, 0, 0, 0x80, 0, 0, 0xa,
  0, 0, 0, 0, 0x80, 0, 0x80, 0x8b, 0x80, 0, 0, 0, 0, 0, 0, 0x8b, 0x80, 0, 0, 0, 0, 0, 0x80, 0x89, 0x80, 0, 0, 0, 0, 0, 0x80, 3,
  0x80, 0, 0, 0, 0, 0, 0x80, 2, 0x80, 0, 0, 0, 0, 0, 0, 0x80, 0, 0, 0, 0, 0, 0, 0x80, 0xa, 0x80, 0, 0, 0, 0x80, 0, 0, 0xa,
  0x80, 0, 0, 0, 0x80, 0, 0x80, 0x81, 0x80, 0, 0, 0, 0, 0, 0x80, 0x80, 0, 0, 0, 0, 0x80, 0, 0, 1, 0x80, 0, 0, 0, 0x80, 0, 0x80, 8]
def rcPstep (r : Nat) (c : UInt64) (n : Nat) : UInt64 := shl c 8 ||| (UInt8.ofNat (rcBytes.getD (8 * r + n) 0)).toUInt64
def rcP (r k : Nat) : UInt64 := (List.range k).foldl (rcPstep r) 0

theorem rc_same : ∀ r, r < 24 → rcP r 8 = rcR r 7 := by decide +kernel

/- how far the lanes are turned -/
def xy : Nat → Nat × Nat
  | 0 => (1, 0)
  | t + 1 => ((xy t).2, (2 * (xy t).1 + 3 * (xy t).2) % 5)
def turnStep (l : List Nat) (t : Nat) : List Nat := l.set ((xy t).1 + 5 * (xy t).2) ((t + 1) * (t + 2) / 2 % 64)
def turnsK (k : Nat) : List Nat := (List.range k).foldl turnStep (List.replicate 25 0)
theorem xy_lt (t : Nat) : (xy t).1 < 5 ∧ (xy t).2 < 5 := by
  induction t with
  | zero => decide
  | succ t ih => exact ⟨ih.2, Nat.mod_lt _ (by decide)⟩

/- bytes into words, and back -/
def xorStep (s : List UInt64) (i : Nat) (x : UInt8) : List UInt64 := s.set (i / 8) (wx (s.getD (i / 8) 0) (shl (wid x) (8 * (i % 8))))
/-- the first k bytes of b are added to s -/
def xorB (s : List UInt64) (b : List UInt8) (k : Nat) : List UInt64 := (List.range k).foldl (fun s i => xorStep s i (b.getD i 0)) s
def sByte (s : List UInt64) (i : Nat) : UInt8 := lo8 (shr (s.getD (i / 8) 0) (8 * (i % 8)))
def toB (s : List UInt64) (n : Nat) : List UInt8 := (List.range n).map (sByte s)
theorem xorB_succ (s : List UInt64) (b : List UInt8) (k : Nat) : xorB s b (k + 1) = xorStep (xorB s b k) k (b.getD k 0) := by simp [xorB, List.range_succ]
theorem xorB_len (s : List UInt64) (b : List UInt8) (k : Nat) : (xorB s b k).length = s.length := by
  induction k with
  | zero => simp [xorB]
  | succ k ih => rw [xorB_succ]; simp [xorStep, ih]
theorem toB_len (s : List UInt64) (n : Nat) : (toB s n).length = n := by simp [toB]
end Mvp

/- Pure sponge: the permutation of bytes, both ways. -/
namespace Mvp

def zeros25 : List UInt64 := List.replicate 25 0
def permS (S : List UInt64) : List UInt64 := permP (turnsK 24) (fun r => rcP r 8) S 24
def permB (l : List UInt8) : List UInt8 := toB (permS (xorB zeros25 l 200)) 200
theorem permS_len (S : List UInt64) : (permS S).length = S.length := permP_len _ _ _ _
theorem permR_eq (S : List UInt64) (h : S.length = 25) : permR (turnsK 24) (fun r => rcR r 7) S 24 = permS S :=
  (perm_same (turnsK 24) (fun r => rcP r 8) (fun r => rcR r 7) S h 24 (fun r hr => rc_same r hr)).symm

/- the reference's way: by or -/
def orStep (s : List UInt64) (i : Nat) (x : UInt8) : List UInt64 := s.set (i / 8) (wo (s.getD (i / 8) 0) (shl (wid x) (8 * (i % 8))))
def orB (s : List UInt64) (b : List UInt8) (k : Nat) : List UInt64 := (List.range k).foldl (fun s i => orStep s i (b.getD i 0)) s
theorem orB_succ (s : List UInt64) (b : List UInt8) (k : Nat) : orB s b (k + 1) = orStep (orB s b k) k (b.getD k 0) := by simp [orB, List.range_succ]
theorem orB_len (s : List UInt64) (b : List UInt8) (k : Nat) : (orB s b k).length = s.length := by
  induction k with
  | zero => simp [orB]
  | succ k ih => rw [orB_succ]; simp [orStep, ih]

theorem or_xor (x y k : Nat) (h : x < 2 ^ k) : x ||| (y * 2 ^ k) = x ^^^ (y * 2 ^ k) := by
  apply Nat.eq_of_testBit_eq
  intro i
  rw [Nat.testBit_or, Nat.testBit_xor]
  rcases Nat.lt_or_ge i k with hi | hi
  · have : (y * 2 ^ k).testBit i = false := by rw [Nat.testBit_mul_two_pow]; simp; omega
    simp [this]
  · have : x.testBit i = false := Nat.testBit_lt_two_pow (Nat.lt_of_lt_of_le h (Nat.pow_le_pow_right (by omega) hi))
    simp [this]
theorem shl_wid (x : UInt8) (k : Nat) (hk : k ≤ 56) : (shl (wid x) k).toNat = x.toNat * 2 ^ k := by
  have hx := x.toNat_lt
  have h1 : x.toNat * 2 ^ k < 2 ^ 8 * 2 ^ 56 := by
    have h2 : 2 ^ k ≤ 2 ^ 56 := Nat.pow_le_pow_right (by omega) hk
    have h3 : 0 < 2 ^ k := Nat.two_pow_pos k
    calc x.toNat * 2 ^ k < 2 ^ 8 * 2 ^ k := Nat.mul_lt_mul_of_pos_right hx h3
      _ ≤ 2 ^ 8 * 2 ^ 56 := Nat.mul_le_mul_left _ h2
  simp only [shl, wid, UInt64.toNat_ofNat', UInt8.toNat_toUInt64]
  exact Nat.mod_eq_of_lt (by simpa using h1)
theorem wo_wx (a : UInt64) (x : UInt8) (k : Nat) (hk : k ≤ 56) (h : a.toNat < 2 ^ k) : wo a (shl (wid x) k) = wx a (shl (wid x) k) := by
  apply UInt64.toNat_inj.1
  simp only [wo, wx, UInt64.toNat_or, UInt64.toNat_xor]
  rw [shl_wid x k hk, or_xor _ _ _ h]
theorem wx_lt (a : UInt64) (x : UInt8) (k : Nat) (hk : k ≤ 56) (h : a.toNat < 2 ^ k) : (wx a (shl (wid x) k)).toNat < 2 ^ (k + 8) := by
  simp only [wx, UInt64.toNat_xor]
  rw [shl_wid x k hk]
  have hx := x.toNat_lt
  refine Nat.xor_lt_two_pow (Nat.lt_of_lt_of_le h (Nat.pow_le_pow_right (by omega) (by omega))) ?_
  rw [Nat.pow_add, Nat.mul_comm (2 ^ k)]
  exact Nat.mul_lt_mul_of_pos_right hx (Nat.two_pow_pos k)

/-- up to byte k each word has just the bits that have been laid -/
def low (s : List UInt64) (k : Nat) : Prop := ∀ j, j < 25 → (s.getD j 0).toNat < 2 ^ (8 * (k - 8 * j))
theorem getD_set (s : List UInt64) (i j : Nat) (v : UInt64) (hi : i < s.length) : (s.set i v).getD j 0 = if i = j then v else s.getD j 0 := by
  have _h := hi
  simp only [List.getD_eq_getElem?_getD, List.getElem?_set]
  split
  · rename_i h; subst h; simp
  · rfl
theorem or_same (b : List UInt8) (k : Nat) (hk : k ≤ 200) : orB zeros25 b k = xorB zeros25 b k ∧ (∀ j, j < 25 → ((xorB zeros25 b k).getD j 0).toNat < 2 ^ (8 * min (k - 8 * j) 8)) := by
  induction k with
  | zero =>
    refine ⟨by simp [orB, xorB], fun j hj => ?_⟩
    have hz : ∀ j, j < 25 → zeros25.getD j 0 = 0 := by decide
    have e : xorB zeros25 b 0 = zeros25 := by simp [xorB]
    rw [e, hz j hj]
    simp
  | succ k ih =>
    obtain ⟨h1, h2⟩ := ih (by omega)
    have hl : (xorB zeros25 b k).length = 25 := by rw [xorB_len]; simp [zeros25]
    have hk8 : k / 8 < 25 := by omega
    have h3 := h2 (k / 8) hk8
    have e3 : min (k - 8 * (k / 8)) 8 = k % 8 := by omega
    rw [e3] at h3
    refine ⟨?_, fun j hj => ?_⟩
    · rw [orB_succ, xorB_succ, h1, orStep, xorStep, wo_wx _ _ _ (by omega) h3]
    · rw [xorB_succ, xorStep, getD_set _ _ _ _ (by omega)]
      split
      · rename_i e
        subst e
        have := wx_lt ((xorB zeros25 b k).getD (k / 8) 0) (b.getD k 0) (8 * (k % 8)) (by omega) h3
        have e4 : 8 * min (k + 1 - 8 * (k / 8)) 8 = 8 * (k % 8) + 8 := by omega
        rw [e4]; exact this
      · rename_i e
        have e5 : min (k + 1 - 8 * j) 8 = min (k - 8 * j) 8 := by omega
        rw [e5]; exact h2 j hj
end Mvp

/- store: plain. Frames, one behind the other, are read back; the beginning of a frame is none. -/
namespace Mvp
/-- a number in so many bytes, the highest first -/
def bigN (n : Nat) : Nat → List UInt8
  | 0 => []
  | k + 1 => UInt8.ofNat (n / 256 ^ k) :: bigN n k
theorem bigN_len (n : Nat) : ∀ k, (bigN n k).length = k
  | 0 => rfl
  | k + 1 => by simp [bigN, bigN_len n k]
def numS (l : List UInt8) : Nat := l.foldl (fun n x => n * 256 + x.toNat) 0
theorem numS_fold (l : List UInt8) : ∀ a : Nat, l.foldl (fun n x => n * 256 + x.toNat) a = a * 256 ^ l.length + numS l := by
  induction l with
  | nil => intro a; simp [numS]
  | cons x l ih =>
    intro a
    unfold numS
    simp only [List.foldl_cons, List.length_cons, Nat.zero_mul, Nat.zero_add]
    rw [ih (a * 256 + x.toNat), ih x.toNat, Nat.pow_succ, Nat.add_mul, Nat.mul_comm (256 ^ l.length) 256, Nat.mul_assoc, Nat.add_assoc]
theorem numS_cons (x : UInt8) (l : List UInt8) : numS (x :: l) = x.toNat * 256 ^ l.length + numS l := by
  have h := numS_fold l x.toNat
  unfold numS at *
  simpa using h
theorem numS_big (n : Nat) : ∀ k, numS (bigN n k) = n % 256 ^ k
  | 0 => by simp [bigN, numS, Nat.mod_one]
  | k + 1 => by
    have e2 : (2 : Nat) ^ 8 = 256 := by decide
    rw [bigN, numS_cons, bigN_len, numS_big n k, UInt8.toNat_ofNat', e2, show 256 ^ (k + 1) = 256 ^ k * 256 from Nat.pow_succ _ _]
    have h1 : n % (256 ^ k * 256) = n % 256 ^ k + 256 ^ k * (n / 256 ^ k % 256) := Nat.mod_mul
    rw [h1, Nat.add_comm, Nat.mul_comm]
theorem numS_4 {n : Nat} (h : n < 4294967296) : numS (bigN n 4) = n := by rw [numS_big]; exact Nat.mod_eq_of_lt h
/-- what a record's check hangs on is told by c (16 bytes or more) -/
def frameB (c : Nat → List UInt8 → List UInt8) (i : Nat) (b : List UInt8) : List UInt8 := bigN b.length 4 ++ b ++ (c i b).take 8
theorem frameB_len {c : Nat → List UInt8 → List UInt8} (hc : ∀ i b, 8 ≤ (c i b).length) (i : Nat) (b : List UInt8) : (frameB c i b).length = 12 + b.length := by
  unfold frameB
  rw [List.length_append, List.length_append, bigN_len, List.length_take, Nat.min_eq_left (hc i b)]
  omega
/-- the records at the beginning of bytes -/
def unframe (c : Nat → List UInt8 → List UInt8) : Nat → Nat → List UInt8 → List (List UInt8)
  | 0, _, _ => []
  | f + 1, i, d => if d.length < 12 then [] else if 16384 < numS (d.take 4) ∨ d.length - 12 < numS (d.take 4) then [] else
      if frameB c i ((d.drop 4).take (numS (d.take 4))) = d.take (12 + numS (d.take 4)) then (d.drop 4).take (numS (d.take 4)) :: unframe c f (i + 1) (d.drop (12 + numS (d.take 4))) else []
/-- frames, one behind the other -/
def framesB (c : Nat → List UInt8 → List UInt8) : Nat → List (List UInt8) → List UInt8
  | _, [] => []
  | i, b :: l => frameB c i b ++ framesB c (i + 1) l
theorem framesB_snoc (c : Nat → List UInt8 → List UInt8) : ∀ (i : Nat) (l : List (List UInt8)) (b : List UInt8), framesB c i (l ++ [b]) = framesB c i l ++ frameB c (i + l.length) b
  | i, [], b => by simp [framesB]
  | i, a :: l, b => by
    rw [List.cons_append, framesB, framesB, framesB_snoc c (i + 1) l b, List.append_assoc, List.length_cons]
    congr 3
    omega
theorem head_num {b : List UInt8} (h : b.length ≤ 16384) (t : List UInt8) : numS ((bigN b.length 4 ++ t).take 4) = b.length := by
  rw [List.take_left' (bigN_len _ _)]
  exact numS_4 (by omega)
/-- one frame at the beginning -/
theorem unframe_one {c : Nat → List UInt8 → List UInt8} (hc : ∀ i b, 8 ≤ (c i b).length) (f i : Nat) {b : List UInt8} (h : b.length ≤ 16384) (t : List UInt8) : unframe c (f + 1) i (frameB c i b ++ t) = b :: unframe c f (i + 1) t := by
  have hl := frameB_len hc i b
  have e : frameB c i b ++ t = bigN b.length 4 ++ (b ++ ((c i b).take 8 ++ t)) := by unfold frameB; simp [List.append_assoc]
  have hn : numS ((frameB c i b ++ t).take 4) = b.length := by rw [e]; exact head_num h _
  have hd : ((frameB c i b ++ t).drop 4).take b.length = b := by rw [e, List.drop_left' (bigN_len _ _), List.take_left' rfl]
  have ht : (frameB c i b ++ t).take (12 + b.length) = frameB c i b := List.take_left' hl
  have hr : (frameB c i b ++ t).drop (12 + b.length) = t := List.drop_left' hl
  rw [unframe, hn, hd, ht, hr, if_neg (by rw [List.length_append, hl]; omega), if_neg (by rw [List.length_append, hl]; omega), if_pos rfl]
/-- the beginning of a frame is none -/
theorem unframe_part {c : Nat → List UInt8 → List UInt8} (hc : ∀ i b, 8 ≤ (c i b).length) (f i : Nat) {b : List UInt8} (h : b.length ≤ 16384) {k : Nat} (hk : k < 12 + b.length) : unframe c f i ((frameB c i b).take k) = [] := by
  cases f with
  | zero => rfl
  | succ f =>
    have hl := frameB_len hc i b
    have hlen : ((frameB c i b).take k).length = k := by rw [List.length_take, hl]; omega
    rw [unframe]
    by_cases h12 : k < 12
    · rw [if_pos (by rw [hlen]; exact h12)]
    · have hn : numS (((frameB c i b).take k).take 4) = b.length := by
        rw [List.take_take, Nat.min_eq_left (by omega)]
        unfold frameB
        rw [List.append_assoc]
        exact head_num h _
      rw [if_neg (by rw [hlen]; exact h12), hn, hlen, if_pos (.inr (by omega))]
theorem unframe_nil (c : Nat → List UInt8 → List UInt8) (f i : Nat) : unframe c f i [] = [] := by
  cases f with
  | zero => rfl
  | succ f => rw [unframe, if_pos (by simp)]
/-- WHAT WAS WRITTEN IS READ: whole frames, and nothing of one that is not whole -/
theorem unframe_all {c : Nat → List UInt8 → List UInt8} (hc : ∀ i b, 8 ≤ (c i b).length) : ∀ (l : List (List UInt8)) (f i : Nat) (t : List UInt8), (∀ b ∈ l, b.length ≤ 16384) → unframe c (f + l.length) i (framesB c i l ++ t) = l ++ unframe c f (i + l.length) t
  | [], f, i, t, _ => by simp [framesB]
  | b :: l, f, i, t, h => by
    rw [framesB, List.length_cons, List.append_assoc, show f + (l.length + 1) = (f + l.length) + 1 by omega, unframe_one hc _ _ (h b (by simp)), unframe_all hc l f (i + 1) t (fun x hx => h x (by simp [hx])), List.cons_append, show i + 1 + l.length = i + (l.length + 1) by omega]
/-- the rest of a disk behind a record: what is read on does not hang on how often one may look, if it is often enough -/
theorem unframe_fuel {c : Nat → List UInt8 → List UInt8} : ∀ (f g i : Nat) (d : List UInt8), d.length ≤ f → d.length ≤ g → unframe c f i d = unframe c g i d
  | 0, g, i, d, hf, _ => by
    obtain rfl : d = [] := List.eq_nil_of_length_eq_zero (by omega)
    rw [unframe_nil, unframe_nil]
  | f + 1, 0, i, d, _, hg => by
    obtain rfl : d = [] := List.eq_nil_of_length_eq_zero (by omega)
    rw [unframe_nil, unframe_nil]
  | f + 1, g + 1, i, d, hf, hg => by
    rw [unframe, unframe]
    by_cases h1 : d.length < 12
    · rw [if_pos h1, if_pos h1]
    · rw [if_neg h1, if_neg h1]
      split
      · rfl
      · split
        · rw [unframe_fuel f g (i + 1) (d.drop (12 + numS (d.take 4))) (by rw [List.length_drop]; omega) (by rw [List.length_drop]; omega)]
        · rfl
end Mvp

/- store: plain. A store's states; what is opened behind a loss of power is what was answered OK. -/
namespace Mvp
/-- a store: its disk, how many bytes may still come (none: any number), is the power off?, its records -/
structure SM where
  d : List UInt8
  left : Option Nat
  off : Bool
  recs : List (List UInt8)
def SM.new : SM := ⟨[], none, false, []⟩
def SM.arm (s : SM) (n : Int) : SM := { s with left := if n < 0 then none else some n.toNat }
/-- a record is written: is it there? -/
def SM.put (c : Nat → List UInt8 → List UInt8) (s : SM) (b : List UInt8) : SM × Bool :=
  match s.left with
  | none => ({ s with d := s.d ++ frameB c s.recs.length b, recs := s.recs ++ [b] }, true)
  | some k => if k < (frameB c s.recs.length b).length then ({ s with d := s.d ++ (frameB c s.recs.length b).take k, off := true }, false)
      else ({ s with d := s.d ++ frameB c s.recs.length b, left := some (k - (frameB c s.recs.length b).length), recs := s.recs ++ [b] }, true)
def SM.add (c : Nat → List UInt8 → List UInt8) (lim : Nat) (s : SM) (b : List UInt8) : SM × Nat :=
  if s.off then (s, 15) else if 16384 < b.length then (s, 1) else if lim < s.d.length + 12 + b.length then (s, 14) else
    ((s.put c b).1, if (s.put c b).2 then 0 else 15)
/-- what lies on the disk is whole frames of the records, and, if the power went, the beginning of one more -/
def SInv (c : Nat → List UInt8 → List UInt8) (s : SM) : Prop :=
  (∀ b ∈ s.recs, b.length ≤ 16384) ∧ ∃ p, s.d = framesB c 0 s.recs ++ p ∧ (p = [] ∨ (s.off = true ∧ ∃ b k, b.length ≤ 16384 ∧ k < 12 + b.length ∧ p = (frameB c s.recs.length b).take k))
theorem SInv.new (c : Nat → List UInt8 → List UInt8) : SInv c SM.new := ⟨by simp [SM.new], [], rfl, .inl rfl⟩
theorem SInv.arm {c : Nat → List UInt8 → List UInt8} {s : SM} (h : SInv c s) (n : Int) : SInv c (s.arm n) := h
theorem SInv.add {c : Nat → List UInt8 → List UInt8} (hc : ∀ i b, 8 ≤ (c i b).length) {s : SM} (h : SInv c s) (lim : Nat) (b : List UInt8) : SInv c (s.add c lim b).1 := by
  unfold SM.add
  by_cases ho : s.off = true
  · rw [if_pos ho]; exact h
  · rw [if_neg ho]
    by_cases hb : 16384 < b.length
    · rw [if_pos hb]; exact h
    · rw [if_neg hb]
      by_cases hl : lim < s.d.length + 12 + b.length
      · rw [if_pos hl]; exact h
      · rw [if_neg hl]
        obtain ⟨h1, p, hd, hp⟩ := h
        have hp0 : p = [] := hp.elim id fun k => absurd k.1 ho
        subst hp0
        rw [List.append_nil] at hd
        have hrec : ∀ x ∈ s.recs ++ [b], x.length ≤ 16384 := fun x hx => (List.mem_append.1 hx).elim (h1 x) fun e => by rw [List.mem_singleton.1 e]; omega
        have hfr : s.d ++ frameB c s.recs.length b = framesB c 0 (s.recs ++ [b]) := by rw [framesB_snoc, hd, Nat.zero_add]
        show SInv c (s.put c b).1
        unfold SM.put
        split
        · exact ⟨hrec, [], by rw [List.append_nil]; exact hfr, .inl rfl⟩
        · split
          · rename_i k _ hk
            exact ⟨h1, _, by rw [hd], .inr ⟨rfl, b, k, by omega, by rw [frameB_len hc] at hk; exact hk, rfl⟩⟩
          · exact ⟨hrec, [], by rw [List.append_nil]; exact hfr, .inl rfl⟩
/-- what is opened has just the records -/
theorem SInv.open {c : Nat → List UInt8 → List UInt8} (hc : ∀ i b, 8 ≤ (c i b).length) {s : SM} (h : SInv c s) : unframe c s.d.length 0 s.d = s.recs := by
  obtain ⟨h1, p, hd, hp⟩ := h
  rw [unframe_fuel s.d.length (s.d.length + s.recs.length) 0 s.d (Nat.le_refl _) (by omega), hd, unframe_all hc _ _ _ _ h1]
  rcases hp with rfl | ⟨-, b, k, hb, hk, rfl⟩
  · rw [unframe_nil, List.append_nil]
  · rw [Nat.zero_add, unframe_part hc _ _ hb hk, List.append_nil]
/-- a store that was opened -/
def SM.ofDisk (c : Nat → List UInt8 → List UInt8) (d : List UInt8) : SM := ⟨framesB c 0 (unframe c d.length 0 d), none, false, unframe c d.length 0 d⟩
theorem unframe_small {c : Nat → List UInt8 → List UInt8} : ∀ (f i : Nat) (d : List UInt8), ∀ b ∈ unframe c f i d, b.length ≤ 16384
  | 0, _, _, b, hb => by cases hb
  | f + 1, i, d, b, hb => by
    rw [unframe] at hb
    split at hb
    · cases hb
    · split at hb
      · cases hb
      · rename_i h1 h2
        split at hb
        · rcases List.mem_cons.1 hb with e | e
          · rw [e, List.length_take]; omega
          · exact unframe_small f (i + 1) _ b e
        · cases hb
theorem SInv.ofDisk (c : Nat → List UInt8 → List UInt8) (d : List UInt8) : SInv c (SM.ofDisk c d) :=
  ⟨unframe_small _ _ _, [], by unfold SM.ofDisk; rw [List.append_nil], .inl rfl⟩
/-- what is read is the beginning of what lies there -/
theorem unframe_pre {c : Nat → List UInt8 → List UInt8} (hc : ∀ i b, 8 ≤ (c i b).length) : ∀ (f i : Nat) (d : List UInt8), ∃ t, d = framesB c i (unframe c f i d) ++ t
  | 0, _, d => ⟨d, rfl⟩
  | f + 1, i, d => by
    rw [unframe]
    split
    · exact ⟨d, rfl⟩
    · split
      · exact ⟨d, rfl⟩
      · split
        · rename_i h
          obtain ⟨t, ht⟩ := unframe_pre hc f (i + 1) (d.drop (12 + numS (d.take 4)))
          refine ⟨t, ?_⟩
          rw [framesB, List.append_assoc, ← ht, h, List.take_append_drop]
        · exact ⟨d, rfl⟩
/-- so long is a disk -/
theorem framesB_len {c : Nat → List UInt8 → List UInt8} (hc : ∀ i b, 8 ≤ (c i b).length) : ∀ (i : Nat) (l : List (List UInt8)), (framesB c i l).length = 12 * l.length + (l.map List.length).sum
  | _, [] => rfl
  | i, b :: l => by rw [framesB, List.length_append, frameB_len hc, framesB_len hc (i + 1) l]; simp; omega
theorem SInv.len {c : Nat → List UInt8 → List UInt8} (hc : ∀ i b, 8 ≤ (c i b).length) {s : SM} (h : SInv c s) : s.d.length ≤ 12 * s.recs.length + (s.recs.map List.length).sum + 16396 := by
  obtain ⟨-, p, hd, hp⟩ := h
  rw [hd, List.length_append, framesB_len hc]
  rcases hp with rfl | ⟨-, b, k, hb, hk, rfl⟩
  · simp
  · rw [List.length_take, frameB_len hc]
    omega
end Mvp

/- Words for memory: which blocks may have turned (Fr), a block known whole (Has), a slice that reads as a list of cells (Rd). Nothing here knows of a program. -/
namespace Go.Mv
open Go.RowKit

/-- no block that was there has turned, but those of S -/
structure Fr (S : Nat → Prop) (w w' : World) : Prop where
  os : w'.os = w.os
  tape : w'.tape = w.tape
  output : w'.output = w.output
  size : w.heap.size ≤ w'.heap.size
  block : ∀ k, k < w.heap.size → ¬ S k → w'.heap[k]? = w.heap[k]?

/-- no block at all -/
def Nob : Nat → Prop := fun _ => False
/-- one block -/
def One (g : Nat) : Nat → Prop := fun k => k = g

theorem Fr.refl (S : Nat → Prop) (w : World) : Fr S w w := ⟨rfl, rfl, rfl, Nat.le_refl _, fun _ _ _ => rfl⟩
theorem Fr.trans {S T : Nat → Prop} {a b c : World} (h : Fr S a b) (k : Fr T b c) (hT : ∀ i, i < a.heap.size → T i → S i) : Fr S a c :=
  ⟨k.os.trans h.os, k.tape.trans h.tape, k.output.trans h.output, Nat.le_trans h.size k.size,
    fun i hi hs => (k.block i (Nat.lt_of_lt_of_le hi h.size) (fun t => hs (hT i hi t))).trans (h.block i hi hs)⟩
theorem Fr.mono {S T : Nat → Prop} {a b : World} (h : Fr S a b) (hT : ∀ i, i < a.heap.size → S i → T i) : Fr T a b :=
  ⟨h.os, h.tape, h.output, h.size, fun i hi hs => h.block i hi (fun t => hs (hT i hi t))⟩
/-- two calls that turn nothing -/
theorem Fr.then {a b c : World} (h : Fr Nob a b) (k : Fr Nob b c) : Fr Nob a c := h.trans k (fun _ _ t => t)
/-- what a call did to a block that is new -/
theorem Fr.new {S : Nat → Prop} {g : Nat} {a b c : World} (h : Fr S a b) (k : Fr (One g) b c) (hg : a.heap.size ≤ g) : Fr S a c :=
  h.trans k (fun i hi t => by have : i = g := t; omega)
theorem Fr.same {S : Nat → Prop} {a b c : World} (h : Fr S a b) (k : Fr Nob b c) : Fr S a c := h.trans k (fun _ _ t => t.elim)
theorem Fr.drew {S : Nat → Prop} {a b : World} (h : Fr S a b) : Fr S a b.drew := ⟨h.os, h.tape, h.output, h.size, h.block⟩
theorem Fr.drewN {S : Nat → Prop} {a b : World} (h : Fr S a b) (n : Nat) : Fr S a (b.drewN n) := ⟨h.os, h.tape, h.output, h.size, h.block⟩
theorem Fr.alloc {S : Nat → Prop} {a b : World} (h : Fr S a b) (o : Obj) : Fr S a (b.alloc o) :=
  h.trans (T := Nob) ⟨rfl, rfl, rfl, by simp, fun k hk _ => Below.heap_alloc b o k hk⟩ (fun _ _ t => t.elim)
theorem Fr.setCell {S : Nat → Prop} {a b : World} (h : Fr S a b) (g i : Nat) (s : Option Nat) (u : Value) (hg : g < a.heap.size → S g) : Fr S a (b.setCell ⟨g, i, s⟩ u) :=
  h.trans (T := One g) ⟨rfl, rfl, rfl, by simp [World.setCell], fun k _ hk => heap_setCell_other b _ k u hk⟩ (fun i hi t => by have e : i = g := t; subst e; exact hg hi)
theorem Fr.below {a b : World} (h : Fr Nob a b) : Below a.heap.size a b := ⟨h.os, h.tape, h.output, h.size, fun k hk => h.block k hk id⟩
theorem Fr.cell {S : Nat → Prop} {a b : World} (h : Fr S a b) {g i : Nat} {v : Value} (hs : ¬ S g) (hc : a.cell? ⟨g, i, none⟩ = some v) : b.cell? ⟨g, i, none⟩ = some v :=
  (World.cell?_of_block (a := ⟨g, i, none⟩) (h.block g (block_lt_of_cell hc) hs)).trans hc

/-- block g holds just the cells L, of type T, and all of them may be written -/
def Has (w : World) (g : Nat) (L : List Value) (T : TypeId) : Prop := ∃ lo hi, w.heap[g]? = some (.cells L.toArray T (lo, hi)) ∧ (lo = hi ∨ L.length ≤ lo)

theorem Has.lt {w : World} {g : Nat} {L : List Value} {T : TypeId} (h : Has w g L T) : g < w.heap.size := by
  obtain ⟨lo, hi, h, -⟩ := h
  rcases Nat.lt_or_ge g w.heap.size with k | k
  · exact k
  · simp [Array.getElem?_eq_none k] at h
theorem Has.get {w : World} {g : Nat} {L : List Value} {T : TypeId} (h : Has w g L T) (i : Nat) : w.cell? ⟨g, i, none⟩ = L[i]? := by
  obtain ⟨lo, hi, h, -⟩ := h
  rw [cell_of_row w g i _ T _ h]; simp
theorem Has.cell {w : World} {g : Nat} {L : List Value} {T : TypeId} (h : Has w g L T) {i : Nat} {v : Value} (hv : L[i]? = some v) : w.cell? ⟨g, i, none⟩ = some v := (h.get i).trans hv
theorem Has.free {w : World} {g : Nat} {L : List Value} {T : TypeId} (h : Has w g L T) (i : Nat) (hi : i < L.length) : w.frozen? ⟨g, i, none⟩ = false := by
  obtain ⟨lo, hi', h, k⟩ := h
  simp only [World.frozen?, h]
  rcases k with rfl | k
  · simp <;> omega
  · simp <;> omega
/-- a cell that may be written -/
theorem Has.ready {w : World} {g : Nat} {L : List Value} {T : TypeId} (h : Has w g L T) {i : Nat} (hi : i < L.length) : ∃ v, w.cell? ⟨g, i, none⟩ = some v ∧ w.frozen? ⟨g, i, none⟩ = false :=
  ⟨L[i], h.cell (List.getElem?_eq_getElem hi), h.free i hi⟩
theorem Has.keep {S : Nat → Prop} {w w' : World} {g : Nat} {L : List Value} {T : TypeId} (h : Has w g L T) (hf : Fr S w w') (hs : ¬ S g) : Has w' g L T := by
  have hl := h.lt
  obtain ⟨lo, hi, h, k⟩ := h
  exact ⟨lo, hi, (hf.block g hl hs).trans h, k⟩
theorem Has.set {w : World} {g : Nat} {L : List Value} {T : TypeId} (h : Has w g L T) (i : Nat) (v : Value) : Has (w.setCell ⟨g, i, none⟩ v) g (L.set i v) T := by
  have hl := h.lt
  obtain ⟨lo, hi, h, k⟩ := h
  refine ⟨lo, hi, ?_, by simpa using k⟩
  simp only [World.setCell, Array.getElem?_modify, if_true]
  simp [h]
theorem Has.other {w : World} {g g' : Nat} {L : List Value} {T : TypeId} (h : Has w g L T) (i : Nat) (s : Option Nat) (v : Value) (hn : g ≠ g') : Has (w.setCell ⟨g', i, s⟩ v) g L T := by
  obtain ⟨lo, hi, h, k⟩ := h
  exact ⟨lo, hi, (heap_setCell_other w ⟨g', i, s⟩ g v hn).trans h, k⟩
theorem Has.new (w : World) (L : Array Value) (T : TypeId) : Has (w.alloc (.cells L T)) w.heap.size L.toList T :=
  ⟨0, 0, by have := heap_alloc_new w (.cells L T); simpa using this, .inl rfl⟩
theorem Has.alloc {w : World} {g : Nat} {L : List Value} {T : TypeId} (h : Has w g L T) (o : Obj) : Has (w.alloc o) g L T := by
  have hl := h.lt
  obtain ⟨lo, hi, h, k⟩ := h
  exact ⟨lo, hi, (Below.heap_alloc w o g hl).trans h, k⟩
theorem Has.drew {w : World} {g : Nat} {L : List Value} {T : TypeId} (h : Has w g L T) : Has w.drew g L T := h
theorem Has.drewN {w : World} {g : Nat} {L : List Value} {T : TypeId} (h : Has w g L T) (n : Nat) : Has (w.drewN n) g L T := h

/-- the cells vs lie in block b from place o on -/
def At (w : World) (b o : Nat) (vs : List Value) : Prop := ∀ i v, vs[i]? = some v → w.cell? ⟨b, o + i, none⟩ = some v
/-- n cells at a read as vs (where there is none: whatever a) -/
def Rd (w : World) (a : Option Addr) (n : Nat) (vs : List Value) : Prop := vs.length = n ∧ (n = 0 ∨ ∃ b o, a = some ⟨b, o, none⟩ ∧ At w b o vs)
/-- the block of a, if it has one, is not in S -/
def Off (S : Nat → Prop) (a : Option Addr) : Prop := ∀ x, a = some x → ¬ S x.block

theorem Off.nob (a : Option Addr) : Off Nob a := fun _ _ h => h
theorem At.keep {S : Nat → Prop} {w w' : World} {b o : Nat} {vs : List Value} (h : At w b o vs) (hf : Fr S w w') (hs : ¬ S b) : At w' b o vs :=
  fun i v hv => hf.cell hs (h i v hv)
theorem Rd.keep {S : Nat → Prop} {w w' : World} {a : Option Addr} {n : Nat} {vs : List Value} (h : Rd w a n vs) (hf : Fr S w w') (hs : Off S a) : Rd w' a n vs := by
  refine ⟨h.1, h.2.imp id ?_⟩
  rintro ⟨b, o, rfl, ha⟩
  exact ⟨b, o, rfl, ha.keep hf (hs _ rfl)⟩
theorem Rd.still {w w' : World} {a : Option Addr} {n : Nat} {vs : List Value} (h : Rd w a n vs) (hf : Fr Nob w w') : Rd w' a n vs := h.keep hf (Off.nob a)
theorem Rd.nil (w : World) (a : Option Addr) : Rd w a 0 [] := ⟨rfl, .inl rfl⟩
theorem Rd.len {w : World} {a : Option Addr} {n : Nat} {vs : List Value} (h : Rd w a n vs) : vs.length = n := h.1
theorem Rd.at {w : World} {a : Option Addr} {n : Nat} {vs : List Value} (h : Rd w a n vs) (hn : 0 < n) : ∃ b o, a = some ⟨b, o, none⟩ ∧ At w b o vs := h.2.resolve_left (by omega)
theorem Rd.ofHas {w : World} {g n : Nat} {L : List Value} {T : TypeId} (h : Has w g L T) (o : Nat) (hn : o + n ≤ L.length) : Rd w (some ⟨g, o, none⟩) n ((L.drop o).take n) := by
  refine ⟨by simp; omega, .inr ⟨g, o, rfl, fun i v hv => ?_⟩⟩
  rw [h.get]
  rw [List.getElem?_take] at hv
  split at hv
  · simpa using hv
  · cases hv
theorem Rd.whole {w : World} {g : Nat} {L : List Value} {T : TypeId} (h : Has w g L T) : Rd w (some ⟨g, 0, none⟩) L.length L := by
  simpa using Rd.ofHas h 0 (n := L.length) (by simp)
theorem At.cell {w : World} {b o : Nat} {vs : List Value} (h : At w b o vs) {i : Nat} (hi : i < vs.length) : w.cell? ⟨b, o + i, none⟩ = some (vs.getD i undef) :=
  h i _ (by simp [List.getD_eq_getElem?_getD, List.getElem?_eq_getElem hi])
/-- a piece of a slice -/
theorem At.sub {w : World} {b o : Nat} {vs : List Value} (h : At w b o vs) (k n : Nat) : At w b (o + k) ((vs.drop k).take n) := by
  intro i v hv
  rw [Nat.add_assoc]
  refine h (k + i) v ?_
  rw [List.getElem?_take] at hv
  split at hv
  · simpa using hv
  · cases hv

/-- bytes, as cells -/
def bs (l : List UInt8) : List Value := l.map fun x => .int .u8 (x.toNat : Int)
theorem length_bs (l : List UInt8) : (bs l).length = l.length := by simp [bs]
theorem bs_append (l m : List UInt8) : bs (l ++ m) = bs l ++ bs m := by simp [bs]
theorem bs_take (l : List UInt8) (n : Nat) : (bs l).take n = bs (l.take n) := by simp [bs]
theorem bs_drop (l : List UInt8) (n : Nat) : (bs l).drop n = bs (l.drop n) := by simp [bs]
theorem bs_get (l : List UInt8) (i : Nat) (hi : i < l.length) : (bs l)[i]? = some (.int .u8 ((l.getD i 0).toNat : Int)) := by
  simp [bs, List.getElem?_eq_getElem hi, List.getD_eq_getElem?_getD]
theorem bs_set (l : List UInt8) (i : Nat) (x : UInt8) : (bs l).set i (.int .u8 (x.toNat : Int)) = bs (l.set i x) := by simp [bs]
theorem bs_one (l : List UInt8) : ∀ v ∈ bs l, v.oneCell' = true := by intro v hv; simp [bs] at hv; obtain ⟨x, _, rfl⟩ := hv; rfl

/-- a slice of bytes reads as l -/
def RdB (w : World) (a : Option Addr) (n : Nat) (l : List UInt8) : Prop := Rd w a n (bs l)
theorem RdB.len {w : World} {a : Option Addr} {n : Nat} {l : List UInt8} (h : RdB w a n l) : l.length = n := by have := h.1; rwa [length_bs] at this
theorem RdB.at {w : World} {a : Option Addr} {n : Nat} {l : List UInt8} (h : RdB w a n l) (hn : 0 < n) : ∃ b o, a = some ⟨b, o, none⟩ ∧ ∀ i, i < n → w.cell? ⟨b, o + i, none⟩ = some (.int .u8 ((l.getD i 0).toNat : Int)) := by
  obtain ⟨b, o, ha, hc⟩ := Rd.at h hn
  exact ⟨b, o, ha, fun i hi => hc i _ (bs_get l i (by rw [h.len]; exact hi))⟩
theorem RdB.still {w w' : World} {a : Option Addr} {n : Nat} {l : List UInt8} (h : RdB w a n l) (hf : Fr Nob w w') : RdB w' a n l := Rd.still h hf
theorem RdB.keep {S : Nat → Prop} {w w' : World} {a : Option Addr} {n : Nat} {l : List UInt8} (h : RdB w a n l) (hf : Fr S w w') (hs : Off S a) : RdB w' a n l := Rd.keep h hf hs
theorem RdB.nil (w : World) (a : Option Addr) : RdB w a 0 [] := Rd.nil w a
/-- a block that is new since w -/
def New (w : World) (a : Option Addr) : Prop := ∀ x, a = some x → w.heap.size ≤ x.block

theorem byte_lt (x : UInt8) : (x.toNat : Int) < 256 := by have := x.toNat_lt; omega

/-- words of 64 bits, as cells -/
def ws (l : List UInt64) : List Value := l.map fun x => .int .u64 (x.toNat : Int)
theorem length_ws (l : List UInt64) : (ws l).length = l.length := by simp [ws]
theorem ws_get (l : List UInt64) (i : Nat) (hi : i < l.length) : (ws l)[i]? = some (.int .u64 ((l.getD i 0).toNat : Int)) := by
  simp [ws, List.getElem?_eq_getElem hi, List.getD_eq_getElem?_getD]
theorem ws_set (l : List UInt64) (i : Nat) (x : UInt64) : (ws l).set i (.int .u64 (x.toNat : Int)) = ws (l.set i x) := by simp [ws]
/-- ints, as cells -/
def is (l : List Nat) : List Value := l.map fun (x : Nat) => .int .i64 (x : Int)
theorem length_is (l : List Nat) : (is l).length = l.length := by simp [is]
theorem is_get (l : List Nat) (i : Nat) (hi : i < l.length) : (is l)[i]? = some (.int .i64 ((l.getD i 0 : Nat) : Int)) := by
  simp [is, List.getElem?_eq_getElem hi, List.getD_eq_getElem?_getD]
theorem is_set (l : List Nat) (i : Nat) (x : Nat) : (is l).set i (.int .i64 (x : Int)) = is (l.set i x) := by simp [is]
end Go.Mv

/- Laws of the walk for make, copy, append and conversions, over the words of Mem. Nothing here knows of a program. -/
namespace Go.Mv
open Go.RowKit
variable {P : Program}

theorem addr_add (g o i : Nat) : (⟨g, o, none⟩ : Addr).add i = ⟨g, o + i, none⟩ := by unfold Addr.add; split <;> simp_all

theorem splice_nil (L : List Value) (o : Nat) : splice L o [] = L := by simp [splice]
theorem splice_cons (L : List Value) (o : Nat) (v : Value) (vs : List Value) (h : o < L.length) : splice (L.set o v) (o + 1) vs = splice L o (v :: vs) := by
  unfold splice
  have e1 : (L.set o v).take (o + 1) = L.take o ++ [v] := by
    rw [List.take_set, List.take_succ_eq_append_getElem h, List.set_append_right _ _ (by simp; omega), List.length_take, Nat.min_eq_left (Nat.le_of_lt h), Nat.sub_self]
    rfl
  have e2 : (L.set o v).drop (o + 1 + vs.length) = L.drop (o + 1 + vs.length) := by rw [List.drop_set, if_pos (by omega)]
  rw [e1, e2]
  simp [Nat.add_comm, Nat.add_left_comm]

theorem run_store_has {w : World} {g : Nat} {L : List Value} {T : TypeId} (h : Has w g L T) (i : Nat) (hi : i < L.length) (v : Value) (hv : v.oneCell' = true) :
    (store ⟨g, i, none⟩ v).run P w = .ok () (w.setCell ⟨g, i, none⟩ v) := by
  rw [run_store P w _ v _ hv, h.cell (List.getElem?_eq_getElem hi)]
  simp [h.free i hi]

theorem run_storeCells_has (g o : Nat) (T : TypeId) : ∀ (vs : List Value) (i : Nat) (L : List Value) (w : World), Has w g L T → o + i + vs.length ≤ L.length → (∀ v ∈ vs, v.oneCell' = true) →
    ∃ w', (storeCells ⟨g, o, none⟩ vs i).run P w = .ok () w' ∧ Has w' g (splice L (o + i) vs) T ∧ Fr (One g) w w' ∧ w'.heap.size = w.heap.size
  | [], i, L, w, h, _, _ => ⟨w, rfl, by rw [splice_nil]; exact h, Fr.refl _ _, rfl⟩
  | v :: vs, i, L, w, h, hl, h1 => by
    have hi : o + i < L.length := by simp at hl; omega
    obtain ⟨w', hr, hh, hf, hz⟩ := run_storeCells_has g o T vs (i + 1) (L.set (o + i) v) (w.setCell ⟨g, o + i, none⟩ v) (h.set _ _) (by simp at hl ⊢; omega) (fun x hx => h1 x (by simp [hx]))
    refine ⟨w', ?_, ?_, ?_, ?_⟩
    · simp only [storeCells, Sem.run_bind, addr_add, run_store_has h (o + i) hi v (h1 v (by simp)), Result.andThen_ok, hr]
    · rw [← splice_cons L (o + i) v vs hi]; exact hh
    · exact ((Fr.refl (One g) w).setCell g (o + i) none v (fun _ => rfl)).trans hf (fun _ _ t => t)
    · rw [hz]; simp [World.setCell]

theorem At.add {w : World} {b o : Nat} {vs : List Value} (h : At w b o vs) : ∀ j u, vs[j]? = some u → w.cell? ((⟨b, o, none⟩ : Addr).add j) = some u := fun j u hu => by
  rw [addr_add]; exact h j u hu

/-- the first cells of a slice that reads as vs -/
theorem run_firstCells_rd {w : World} {a : Option Addr} {vs : List Value} (size n m c : Nat) (h : At w (a.getD ⟨0, 0, none⟩).block (a.getD ⟨0, 0, none⟩).off (vs.take (n * size)) ∨ n * size = 0) (ha : 0 < n * size → ∃ b o, a = some ⟨b, o, none⟩) (hl : n * size ≤ vs.length) :
    (Builtin.firstCells size n (.slice a m c)).run P w = .ok (vs.take (n * size)).toArray w := by
  rcases Nat.eq_zero_or_pos (n * size) with h0 | h0
  · rw [h0]
    cases a with
    | none => simp [Builtin.firstCells]
    | some ad => simp [Builtin.firstCells, h0, loadCells, loadCellsFrom]
  · obtain ⟨b, o, rfl⟩ := ha h0
    have h := h.resolve_right (by omega)
    exact run_firstCells_some (P := P) w size n ⟨b, o, none⟩ m c (vs.take (n * size)) (by simp; omega) h.add

theorem run_firstCells_Rd {w : World} {a : Option Addr} {k : Nat} {vs : List Value} (h : Rd w a k vs) (size n m c : Nat) (hl : n * size ≤ k) :
    (Builtin.firstCells size n (.slice a m c)).run P w = .ok (vs.take (n * size)).toArray w := by
  refine run_firstCells_rd size n m c ?_ ?_ (by rw [h.len]; exact hl)
  · rcases Nat.eq_zero_or_pos (n * size) with h0 | h0
    · exact .inr h0
    · obtain ⟨b, o, rfl, hc⟩ := h.at (by omega)
      refine .inl fun i v hv => hc i v ?_
      rw [List.getElem?_take] at hv
      split at hv
      · exact hv
      · cases hv
  · intro h0
    obtain ⟨b, o, rfl, _⟩ := h.at (by omega)
    exact ⟨b, o, rfl⟩

/-- a slice that the call owns: nil, or n elements (sz cells each) from place o on in a block from base on, which is known whole as far as the capacity goes -/
def Own (w : World) (base : Nat) (T : TypeId) (sz : Nat) (v : Value) (n : Nat) (L : List Value) : Prop :=
  L.length = n * sz ∧ ((v = .slice none 0 0 ∧ n = 0) ∨
    ∃ g o cap B, v = .slice (some ⟨g, o, none⟩) n cap ∧ base ≤ g ∧ Has w g B T ∧ n ≤ cap ∧ cap ≤ maxLen ∧ o + cap * sz ≤ B.length ∧ (B.drop o).take (n * sz) = L)
/-- the block of an owned slice -/
def OwnB (v : Value) : Nat → Prop := fun k => v.ownBlock = some k

theorem Own.nil (w : World) (base : Nat) (T : TypeId) (sz : Nat) : Own w base T sz (.slice none 0 0) 0 [] := ⟨by simp, .inl ⟨rfl, rfl⟩⟩
theorem Own.lt {w : World} {base : Nat} {T : TypeId} {sz : Nat} {v : Value} {n : Nat} {L : List Value} (h : Own w base T sz v n L) {k : Nat} (hk : OwnB v k) : base ≤ k ∧ k < w.heap.size := by
  rcases h.2 with ⟨rfl, _⟩ | ⟨g, o, cap, B, rfl, hb, hh, _⟩
  · cases hk
  · have : g = k := by simpa [OwnB, Value.ownBlock] using hk
    subst this
    exact ⟨hb, hh.lt⟩
theorem Own.keep {S : Nat → Prop} {w w' : World} {base : Nat} {T : TypeId} {sz : Nat} {v : Value} {n : Nat} {L : List Value} (h : Own w base T sz v n L) (hf : Fr S w w') (hs : ∀ k, OwnB v k → ¬ S k) : Own w' base T sz v n L := by
  refine ⟨h.1, h.2.imp id ?_⟩
  rintro ⟨g, o, cap, B, rfl, hb, hh, r⟩
  exact ⟨g, o, cap, B, rfl, hb, hh.keep hf (hs g rfl), r⟩
theorem Own.still {w w' : World} {base : Nat} {T : TypeId} {sz : Nat} {v : Value} {n : Nat} {L : List Value} (h : Own w base T sz v n L) (hf : Fr Nob w w') : Own w' base T sz v n L := h.keep hf (fun _ _ t => t)
theorem Own.mono {w : World} {base base' : Nat} {T : TypeId} {sz : Nat} {v : Value} {n : Nat} {L : List Value} (h : Own w base T sz v n L) (hb : base' ≤ base) : Own w base' T sz v n L := by
  refine ⟨h.1, h.2.imp id ?_⟩
  rintro ⟨g, o, cap, B, rfl, hb', r⟩
  exact ⟨g, o, cap, B, rfl, Nat.le_trans hb hb', r⟩
theorem Own.form {w : World} {base : Nat} {T : TypeId} {sz : Nat} {v : Value} {n : Nat} {L : List Value} (h : Own w base T sz v n L) : ∃ a cap, v = .slice a n cap ∧ n ≤ cap ∧ Rd w a (n * sz) L ∧ (∀ x, a = some x → base ≤ x.block) := by
  rcases h.2 with ⟨rfl, rfl⟩ | ⟨g, o, cap, B, rfl, hb, hh, hn, hm, hl, ht⟩
  · refine ⟨none, 0, rfl, Nat.le_refl _, ⟨by simpa using h.1, .inl (by simp)⟩, by simp⟩
  · have hle : n * sz ≤ cap * sz := Nat.mul_le_mul_right _ hn
    refine ⟨_, cap, rfl, hn, ?_, by simpa using hb⟩
    rw [← ht]
    exact Rd.ofHas hh o (by omega)
theorem Own.made {w : World} {g : Nat} {T : TypeId} {B : List Value} (h : Has w g B T) (base : Nat) (hb : base ≤ g) (sz n cap : Nat) (hn : n ≤ cap) (hm : cap ≤ maxLen) (hl : cap * sz ≤ B.length) :
    Own w base T sz (.slice (some ⟨g, 0, none⟩) n cap) n (B.take (n * sz)) := by
  have hle : n * sz ≤ cap * sz := Nat.mul_le_mul_right _ hn
  exact ⟨by simp; omega, .inr ⟨g, 0, cap, B, rfl, hb, h, hn, hm, by omega, by simp⟩⟩
/-- behind a step that wrote to an owned block alone -/
theorem Own.fr {S : Nat → Prop} {w0 w w' : World} {base : Nat} {T : TypeId} {sz : Nat} {v : Value} {n : Nat} {L : List Value} (h : Own w base T sz v n L) (hf : Fr S w0 w) (hb : w0.heap.size ≤ base) (k : Fr (OwnB v) w w') : Fr S w0 w' :=
  hf.trans k (fun _ hi t => by have := (h.lt t).1; omega)

theorem splice_length (L : List Value) (o : Nat) (vs : List Value) (h : o + vs.length ≤ L.length) : (splice L o vs).length = L.length := length_splice L o vs h
theorem splice_take (L : List Value) (o k : Nat) (vs : List Value) (h : o + k + vs.length ≤ L.length) : ((splice L (o + k) vs).drop o).take (k + vs.length) = (L.drop o).take k ++ vs := by
  unfold splice
  have h1 : (L.take (o + k)).drop o = (L.drop o).take k := by rw [List.drop_take]; congr 1; omega
  rw [List.drop_append_of_le_length (by simp; omega), h1]
  rw [← List.append_assoc]
  exact List.take_left' (by simp; omega)

theorem run_append_room2 {w : World} (t ty e : TypeId) (i : TypeInfo) (ht : P.underlying t = some (.slice e)) (hi : P.info? e = some i)
    (g o sLen sCap : Nat) (B : List Value) (T : TypeId) (hg : Has w g B T) (a : Option Addr) (m c : Nat) (news : List Value) (hnews : Rd w a (m * i.size) news) (h1 : ∀ u ∈ news, u.oneCell' = true)
    (hroom : sLen + m ≤ sCap) (hfit : o + sLen * i.size + news.length ≤ B.length) :
    ∃ w', (Builtin.append_ #[t, t] ty #[.slice (some ⟨g, o, none⟩) sLen sCap, .slice a m c]).run P w = .ok (.slice (some ⟨g, o, none⟩) (sLen + m) sCap) w' ∧
      Has w' g (splice B (o + sLen * i.size) news) T ∧ Fr (One g) w w' ∧ w'.heap.size = w.heap.size := by
  have hf := run_firstCells_Rd (P := P) hnews i.size m m c (Nat.le_refl _)
  rw [List.take_of_length_le (by rw [hnews.len]; exact Nat.le_refl _)] at hf
  obtain ⟨w', hst, hh, hfr, hz⟩ := run_storeCells_has (P := P) g (o + sLen * i.size) T news 0 B w hg (by omega) h1
  simp only [Nat.add_zero] at hh
  refine ⟨w', ?_, hh, hfr, hz⟩
  simp [Builtin.append_, run_underlying ht, sizeOf, typeInfo, hi, Builtin.lenOf, hroom, hf, addr_add, hst]

theorem run_append_zero {w : World} (t ty e : TypeId) (i : TypeInfo) (ht : P.underlying t = some (.slice e)) (hi : P.info? e = some i) (s : Option Addr) (sLen sCap : Nat) (hl : sLen ≤ sCap) (a : Option Addr) (c : Nat) :
    (Builtin.append_ #[t, t] ty #[.slice s sLen sCap, .slice a 0 c]).run P w = .ok (.slice s sLen sCap) w := by
  have hf : (Builtin.firstCells i.size 0 (.slice a 0 c)).run P w = .ok #[] w := by
    cases a <;> simp [Builtin.firstCells, loadCells, loadCellsFrom]
  cases s <;> simp [Builtin.append_, run_underlying ht, sizeOf, typeInfo, hi, Builtin.lenOf, hl, hf, storeCells]

theorem run_append2 {w : World} (base : Nat) (t ty e : TypeId) (z : Value) (sz by_ : Nat) (ht : P.underlying t = some (.slice e)) (hi0 : (P.info? e).map (fun i => (i.zero, i.size, i.bytes)) = some (some z, sz, by_))
    (hzs : z.cells.size = sz) (hsz : 0 < sz)
    (v : Value) (n : Nat) (L : List Value) (hown : Own w base e sz v n L)
    (a : Option Addr) (m c : Nat) (news : List Value) (hnews : Rd w a (m * sz) news) (h1 : ∀ u ∈ news, u.oneCell' = true)
    (h63 : n + m ≤ maxLen) (hbytes : (n + m) * by_ ≤ 140737488355328) (hbase : base ≤ w.heap.size) :
    ∃ v' w', (Builtin.append_ #[t, t] ty #[v, .slice a m c]).run P w = .ok v' w' ∧ Own w' base e sz v' (n + m) (L ++ news) ∧ Fr (OwnB v) w w' ∧
      (v'.ownBlock = v.ownBlock ∨ v'.ownBlock = some w.heap.size) := by
  obtain ⟨i, hi, hz, hsize, hby⟩ := info_parts hi0
  subst hsize
  subst hby
  rcases Nat.eq_zero_or_pos m with rfl | hm
  · obtain ⟨s, cap, rfl, hc, -, -⟩ := hown.form
    have hn : news = [] := List.eq_nil_of_length_eq_zero (by rw [hnews.len]; simp)
    subst hn
    exact ⟨_, w, run_append_zero t ty e i ht hi s n cap hc a c, by simpa using hown, Fr.refl _ _, .inl rfl⟩
  have hms : 0 < m * i.size := Nat.mul_pos hm hsz
  obtain ⟨b, o', rfl, hat⟩ := hnews.at hms
  have hlen : (L ++ news).length = (n + m) * i.size := by rw [List.length_append, hown.1, hnews.len, Nat.add_mul]
  have hsmall : n + m ≤ 9223372036854775807 := by simp only [maxLen] at h63; omega
  have grown : ∀ (old : Nat), old < n + m →
      Own (w.drew.alloc (.cells (L.toArray ++ news.toArray ++ Builtin.zeroCells z.cells (grownCap w (n + m) old e - (n + m))) e)) base e i.size
        (.slice (some ⟨w.heap.size, 0, none⟩) (n + m) (grownCap w (n + m) old e)) (n + m) (L ++ news) ∧
      Fr (OwnB v) w (w.drew.alloc (.cells (L.toArray ++ news.toArray ++ Builtin.zeroCells z.cells (grownCap w (n + m) old e - (n + m))) e)) := by
    intro old ho
    have hge := grownCap_ge w (n + m) old e
    have hcm : grownCap w (n + m) old e ≤ maxLen := grownCap_le_maxLen w (n + m) old e h63
    have hz' : (Builtin.zeroCells z.cells (grownCap w (n + m) old e - (n + m))).size = (grownCap w (n + m) old e - (n + m)) * i.size := by simp [size_zeroCells, hzs]
    have hmul : (n + m) * i.size + (grownCap w (n + m) old e - (n + m)) * i.size = grownCap w (n + m) old e * i.size := by rw [← Nat.add_mul]; congr 1; omega
    refine ⟨⟨hlen, .inr ⟨w.heap.size, 0, _, _, rfl, hbase, Has.new w.drew _ e, hge, hcm, ?_, ?_⟩⟩, ((Fr.refl _ w).drew).alloc _⟩
    · rw [List.length_append] at hlen
      simp only [Array.toList_append, List.length_append, Array.length_toList, hz', Nat.zero_add]
      omega
    · simp only [Array.toList_append, List.drop_zero]
      rw [← hlen]
      exact List.take_left
  rcases hown.2 with ⟨rfl, rfl⟩ | ⟨g, o, cap, B, rfl, hbg, hg, hnc, hcm, hl, htake⟩
  · have hx : L = [] := List.eq_nil_of_length_eq_zero (by simpa using hown.1)
    subst hx
    have hr := run_append_nil (P := P) w t ty e i z ht hi hz ⟨b, o', none⟩ m c news hnews.len hat.add hm (by omega) (by have hb := hbytes; simp only [Nat.zero_add] at hb; omega)
    have hgr := grown 0 (by omega)
    simp only [Nat.zero_add, List.nil_append, Array.empty_append] at hgr ⊢
    exact ⟨_, _, hr, hgr.1, hgr.2, .inr rfl⟩
  · by_cases hroom : n + m ≤ cap
    · have hle : (n + m) * i.size ≤ cap * i.size := Nat.mul_le_mul_right _ hroom
      have hnl := hnews.len
      have hfit : o + n * i.size + news.length ≤ B.length := by rw [Nat.add_mul] at hle; omega
      obtain ⟨w', hr, hh, hf, hzz⟩ := run_append_room2 (P := P) t ty e i ht hi g o n cap B e hg _ m c news hnews h1 hroom hfit
      refine ⟨_, _, hr, ⟨hlen, .inr ⟨g, o, cap, _, rfl, hbg, hh, hroom, hcm, ?_, ?_⟩⟩, hf.mono (fun k _ t => by have e : k = g := t; subst e; rfl), .inl rfl⟩
      · rw [splice_length _ _ _ hfit]; exact hl
      · have := splice_take B o (n * i.size) news hfit
        rw [htake] at this
        rw [← this, hnl, Nat.add_mul]
    · have hle : n * i.size ≤ cap * i.size := Nat.mul_le_mul_right _ hnc
      have hrd : Rd w (some ⟨g, o, none⟩) (n * i.size) L := by rw [← htake]; exact Rd.ofHas hg o (by omega)
      have holds : ∀ j u, L[j]? = some u → w.cell? ((⟨g, o, none⟩ : Addr).add j) = some u := by
        rcases Nat.eq_zero_or_pos (n * i.size) with h0 | h0
        · have : L = [] := List.eq_nil_of_length_eq_zero (by rw [hown.1, h0])
          subst this; intro j u hu; simp at hu
        · obtain ⟨b2, o2, he, hc2⟩ := hrd.at h0
          simp only [Option.some.injEq, Addr.mk.injEq] at he
          obtain ⟨rfl, rfl, -⟩ := he
          exact hc2.add
      have hr := run_append_grow (P := P) w t ty e i z ht hi hz ⟨g, o, none⟩ n cap L hown.1 holds ⟨b, o', none⟩ m c news hnews.len hat.add (by omega) (by omega) (growslice_fits (by omega) hbytes)
      have hgr := grown cap (by omega)
      exact ⟨_, _, hr, hgr.1, hgr.2, .inr rfl⟩

/-- the bytes of a string, as cells -/
theorem bs_data (s : ByteArray) : bs s.data.toList = (s.data.map fun b => Value.int .u8 b.toNat).toList := by simp [bs]
theorem bs_arr (s : ByteArray) : (s.data.map fun b => Value.int .u8 b.toNat) = (bs s.data.toList).toArray := by apply Array.ext'; simp [bs]
theorem bs_len (s : ByteArray) : (bs s.data.toList).length = s.size := by simp [bs]

section
variable {w : World} {ops : Array Oper} {rest : List Oper} {o : Oper} {a : Act} {Q : Exit → Act → World → Prop}

/-- append(s, x...), x a slice -/
theorem wl_append {s x : Operand} {t : TypeId} (hgd : o.guard = none) (ho : o.op = .call { callee := .builtin .append, args := #[s, x], argTypes := #[t, t] })
    {e : TypeId} {z : Value} {sz by_ : Nat} (ht : P.underlying t = some (.slice e)) (hi0 : (P.info? e).map (fun i => (i.zero, i.size, i.bytes)) = some (some z, sz, by_))
    (hzs : z.cells.size = sz) (hsz : 0 < sz)
    {v : Value} {n base : Nat} {L : List Value} (hown : Own w base e sz v n L) (hs : a.eval s = v)
    {xa : Option Addr} {m c : Nat} {news : List Value} (hx : a.eval x = .slice xa m c) (hnews : Rd w xa (m * sz) news) (h1 : ∀ u ∈ news, u.oneCell' = true)
    (h63 : n + m ≤ maxLen) (hbytes : (n + m) * by_ ≤ 140737488355328) (hbase : base ≤ w.heap.size)
    (h : ∀ v' w', Own w' base e sz v' (n + m) (L ++ news) → Fr (OwnB v) w w' → (v'.ownBlock = v.ownBlock ∨ v'.ownBlock = some w.heap.size) → wpList P ops Q rest (a.put o.dst v') w') : wpList P ops Q (o :: rest) a w := by
  refine wpList_plain hgd fun K hK => ?_
  obtain ⟨v', w', hr, h2, h3, h4⟩ := run_append2 (P := P) base t o.type e z sz by_ ht hi0 hzs hsz v n L hown xa m c news hnews h1 h63 hbytes hbase
  unfold Oper.wp execOp
  simp only [ho, resolve, invoke, builtin, Sem.run_bind, Sem.run_pure, Result.andThen_ok, List.map_toArray, List.map_cons, List.map_nil, hs, hx, hr]
  exact hK _ _ (h v' w' h2 h3 h4)

theorem madeCells_one (z : Value) (hz : z.cells = #[z]) (n : Nat) : (madeCells z.cells n).toList = List.replicate n z := by rw [hz]; exact toList_madeCells_one z n

/-- make([]T, n), T of one cell -/
theorem wl_make {l c : Operand} {t : TypeId} (hgd : o.guard = none) (ho : o.op = .makeSlice t l c) {e : TypeId} {z : Value} {by_ : Nat} (ht : P.underlying t = some (.slice e))
    (hi0 : (P.info? e).map (fun i => (i.zero, i.size, i.bytes)) = some (some z, 1, by_)) (hzc : z.cells = #[z]) {kl kc : IntKind} {x y : Int} (hl : a.eval l = .int kl x) (hc : a.eval c = .int kc y) (n m : Nat) (hx : x = n) (hy : y = m) (hnm : n ≤ m)
    (hb : by_ * m ≤ 281474976710656) (h63 : m ≤ maxLen)
    (h : ∀ w', Has w' w.heap.size (List.replicate m z) e → Fr Nob w w' → w'.heap.size = w.heap.size + 1 → wpList P ops Q rest (a.put o.dst (.slice (some ⟨w.heap.size, 0, none⟩) n m)) w') : wpList P ops Q (o :: rest) a w := by
  refine wpList_plain hgd fun K hK => ?_
  obtain ⟨i, hi, hz, hsize, hby⟩ := info_parts hi0
  subst hx
  subst hy
  have hmx : (m : Int) ≤ 9223372036854775807 := by simp only [maxLen] at h63; omega
  have hbb : (i.bytes : Int) * (m : Int) ≤ 281474976710656 := by
    have k : ((i.bytes * m : Nat) : Int) ≤ 281474976710656 := by rw [hby]; omega
    rwa [Int.natCast_mul] at k
  have hr := run_make (P := P) w t e i z ht hi hz kl kc n m (by omega) (by omega) hbb hmx
  simp only [Int.toNat_natCast, hsize, Nat.mul_one] at hr
  unfold Oper.wp execOp
  simp only [ho, hl, hc, Sem.run_bind, Sem.run_pure, Result.andThen_ok, hr]
  refine hK _ _ (h _ ?_ ((Fr.refl _ w).alloc _) (by simp))
  have := Has.new w (madeCells z.cells m) e
  rwa [madeCells_one z hzc] at this

/-- copy(d, s), d in a block that is known, s a slice -/
theorem wl_copy {d s : Operand} {t u : TypeId} (hgd : o.guard = none) (ho : o.op = .call { callee := .builtin .copy, args := #[d, s], argTypes := #[t, u] }) {e : TypeId} (ht : P.underlying t = some (.slice e)) (hsz : (P.info? e).map (·.size) = some 1)
    {g off dn dc : Nat} (hd : a.eval d = .slice (some ⟨g, off, none⟩) dn dc) {sa : Option Addr} {m c : Nat} (hs : a.eval s = .slice sa m c) {B vs : List Value} {T : TypeId} (hg : Has w g B T) (hrd : Rd w sa m vs) (h1 : ∀ v ∈ vs, v.oneCell' = true)
    (hfit : off + min m dn ≤ B.length)
    (h : ∀ w', Has w' g (splice B off (vs.take (min m dn))) T → Fr (One g) w w' → w'.heap.size = w.heap.size → wpList P ops Q rest (a.put o.dst (.int .i64 (min m dn : Nat))) w') : wpList P ops Q (o :: rest) a w := by
  refine wpList_plain hgd fun K hK => ?_
  obtain ⟨i, hi, hi1⟩ : ∃ i, P.info? e = some i ∧ i.size = 1 := by simpa using hsz
  have hfc := run_firstCells_Rd (P := P) hrd 1 (min m dn) m c (by omega)
  rw [Nat.mul_one] at hfc
  have hlen : (vs.take (min m dn)).length = min m dn := by rw [List.length_take, hrd.len]; omega
  obtain ⟨w', hst, hh, hf, hz⟩ := run_storeCells_has (P := P) g off T (vs.take (min m dn)) 0 B w hg (by rw [hlen]; omega) (fun v hv => h1 v (List.mem_of_mem_take hv))
  simp only [Nat.add_zero] at hh
  have hr : (Builtin.copy_ #[t, u] o.type #[.slice (some ⟨g, off, none⟩) dn dc, .slice sa m c]).run P w = .ok (.int .i64 (min m dn : Nat)) w' := by
    simp [Builtin.copy_, run_underlying ht, sizeOf, typeInfo, hi, hi1, Builtin.lenOf, hfc, hst, goInt]
  unfold Oper.wp execOp
  simp only [ho, resolve, invoke, builtin, Sem.run_bind, Sem.run_pure, Result.andThen_ok, List.map_toArray, List.map_cons, List.map_nil, hd, hs, hr]
  exact hK _ _ (h w' hh hf hz)

/-- copy(d, s), d in a block that is known, s a string -/
theorem wl_copy_str {d s : Operand} {t u : TypeId} (hgd : o.guard = none) (ho : o.op = .call { callee := .builtin .copy, args := #[d, s], argTypes := #[t, u] }) {e : TypeId} (ht : P.underlying t = some (.slice e)) (hsz : (P.info? e).map (·.size) = some 1)
    {g off dn dc : Nat} (hd : a.eval d = .slice (some ⟨g, off, none⟩) dn dc) {q : ByteArray} (hs : a.eval s = .string q) {B : List Value} {T : TypeId} (hg : Has w g B T) (hq : q.size ≤ dn)
    (hfit : off + q.size ≤ B.length)
    (h : ∀ w', Has w' g (splice B off (bs q.data.toList)) T → Fr (One g) w w' → w'.heap.size = w.heap.size → wpList P ops Q rest (a.put o.dst (.int .i64 (q.size : Nat))) w') : wpList P ops Q (o :: rest) a w := by
  refine wpList_plain hgd fun K hK => ?_
  obtain ⟨i, hi, hi1⟩ : ∃ i, P.info? e = some i ∧ i.size = 1 := by simpa using hsz
  have htk : (bs q.data.toList).take q.size = bs q.data.toList := List.take_of_length_le (by rw [bs_len]; exact Nat.le_refl _)
  have hmin : Nat.min q.size dn = q.size := Nat.min_eq_left hq
  obtain ⟨w', hst, hh, hf, hz⟩ := run_storeCells_has (P := P) g off T (bs q.data.toList) 0 B w hg (by rw [bs_len]; omega) (bs_one _)
  simp only [Nat.add_zero] at hh
  have hr : (Builtin.copy_ #[t, u] o.type #[.slice (some ⟨g, off, none⟩) dn dc, .string q]).run P w = .ok (.int .i64 (q.size : Nat)) w' := by
    simp [Builtin.copy_, run_underlying ht, sizeOf, typeInfo, hi, Builtin.lenOf, Builtin.firstCells, bs_arr, htk, hst, goInt, hmin]
  unfold Oper.wp execOp
  simp only [ho, resolve, invoke, builtin, Sem.run_bind, Sem.run_pure, Result.andThen_ok, List.map_toArray, List.map_cons, List.map_nil, hd, hs, hr]
  exact hK _ _ (h w' hh hf hz)

/-- bytes as a string -/
def mkS (l : List UInt8) : ByteArray := ⟨l.toArray⟩
theorem mkS_data (s : ByteArray) : mkS s.data.toList = s := by simp [mkS]
theorem mkS_size (l : List UInt8) : (mkS l).size = l.length := by simp [mkS, ByteArray.size]
theorem mkS_toList (l : List UInt8) : (mkS l).data.toList = l := by simp [mkS]
theorem mkS_inj {l m : List UInt8} (h : mkS l = mkS m) : l = m := by have := congrArg (fun s => s.data.toList) h; simpa [mkS] using this

theorem run_string {sa : Option Addr} {m : Nat} {l : List UInt8} (hrd : RdB w sa m l) (c : Nat) {src e dst : TypeId} (hs : P.underlying src = some (.slice e)) (he : P.underlying e = some (.int .u8)) (hd : P.underlying dst = some .string) :
    (convert src dst (.slice sa m c)).run P w = .ok (.string (mkS l)) w := by
  have hl := hrd.len
  rcases Nat.eq_zero_or_pos m with h0 | h0
  · subst h0
    obtain rfl : l = [] := List.eq_nil_of_length_eq_zero hl
    cases sa with
    | none => exact run_convert_bytes_nil w src e hs he 0 c dst hd
    | some ad =>
      rw [run_convert_bytes_string w src dst e _ 0 c hs he hd]
      simp [Conv.bytesToString, mkS, loadCells, loadCellsFrom]
      rfl
  · obtain ⟨b, o, rfl, hc⟩ := hrd.at h0
    have := run_convert_bytes_arg (P := P) w src e hs he b o m c (l.map fun x => (x.toNat : Int)) (by simp [hl]) (fun i hi => by
      rw [hc i hi]; simp [List.getD_eq_getElem?_getD, List.getElem?_eq_getElem (show i < l.length by omega)]) dst hd
    rw [this]
    have hid : (l.map ((fun n : Int => UInt8.ofNat n.toNat) ∘ fun x : UInt8 => (x.toNat : Int))) = l := by
      rw [List.map_congr_left (g := id)]
      · simp
      · intro x _; simp
    simp only [strOfNums, List.map_map, hid, mkS]

/-- string(b) -/
theorem wl_string {x : Operand} {src dst : TypeId} (hgd : o.guard = none) (ho : o.op = .convert src dst x) {e : TypeId} (hs : P.underlying src = some (.slice e)) (he : P.underlying e = some (.int .u8)) (hd : P.underlying dst = some .string)
    {sa : Option Addr} {m c : Nat} {l : List UInt8} (hx : a.eval x = .slice sa m c) (hrd : RdB w sa m l) (h : wpList P ops Q rest (a.put o.dst (.string (mkS l))) w) : wpList P ops Q (o :: rest) a w := by
  refine wpList_plain hgd fun K hK => ?_
  have hr := run_string (P := P) hrd c hs he hd
  unfold Oper.wp execOp
  simp only [ho, hx, Sem.run_bind, Sem.run_pure, Result.andThen_ok, hr]
  exact hK _ _ h

/-- []byte(s) -/
theorem wl_bytes {x : Operand} {src dst : TypeId} (hgd : o.guard = none) (ho : o.op = .convert src dst x) {e : TypeId} (hs : P.underlying src = some .string) (hd : P.underlying dst = some (.slice e)) (he : P.underlying e = some (.int .u8))
    {q : ByteArray} (hx : a.eval x = .string q) (hq : q.size ≤ maxLen) (base : Nat) (hb : base ≤ w.heap.size)
    (h : ∀ cap w', Own w' base e 1 (.slice (some ⟨w.heap.size, 0, none⟩) q.size cap) q.size (bs q.data.toList) → Fr Nob w w' → w.heap.size < w'.heap.size → wpList P ops Q rest (a.put o.dst (.slice (some ⟨w.heap.size, 0, none⟩) q.size cap)) w') : wpList P ops Q (o :: rest) a w := by
  refine wpList_plain hgd fun K hK => ?_
  have hr := run_bytes_of_string (P := P) w src dst e q hs hd he
  have hge := grownCap_ge w q.size 0 e
  have hcm := grownCap_le_maxLen w q.size 0 e hq
  unfold Oper.wp execOp
  simp only [ho, hx, Sem.run_bind, Sem.run_pure, Result.andThen_ok, hr]
  refine hK _ _ (h _ _ ⟨by rw [bs_len]; omega, .inr ⟨w.heap.size, 0, _, (bytesRow q (grownCap w q.size 0 e)).toList, rfl, hb, ?_, hge, hcm, ?_, ?_⟩⟩ (((Fr.refl _ w).drew).alloc _) (by simp))
  · refine ⟨(bytesRow q (grownCap w q.size 0 e)).size, (bytesRow q (grownCap w q.size 0 e)).size + 1, ?_, .inr (Nat.le_of_eq ?_)⟩
    · have := heap_alloc_new w.drew (.cells (bytesRow q (grownCap w q.size 0 e)) e ((bytesRow q (grownCap w q.size 0 e)).size, (bytesRow q (grownCap w q.size 0 e)).size + 1))
      simpa using this
    · simp
  · have hd : q.data.size = q.size := rfl
    simp [bytesRow, hd]; omega
  · simp only [bytesRow, Array.toList_append, List.drop_zero, Nat.mul_one]
    rw [← bs_data]
    exact List.take_left' (by rw [bs_len])
end

/-- the walk stands still here -/
def Stop (p : Prop) : Prop := p
theorem wl_stop {w : World} {ops : Array Oper} {rest : List Oper} {o : Oper} {a : Act} {Q : Exit → Act → World → Prop} (h : Stop (wpList P ops Q (o :: rest) a w)) : wpList P ops Q (o :: rest) a w := h

theorem toList_data (s : ByteArray) : s.toList = s.data.toList := by
  have key : ∀ (n i : Nat) (r : List UInt8), s.size - i = n → ByteArray.toList.loop s i r = r.reverse ++ s.data.toList.drop i := by
    intro n
    induction n with
    | zero =>
      intro i r h
      rw [ByteArray.toList.loop, if_neg (by omega), List.drop_eq_nil_of_le (by simp; omega), List.append_nil]
    | succ n ih =>
      intro i r h
      have hi : i < s.size := by omega
      rw [ByteArray.toList.loop, if_pos hi, ih (i + 1) _ (by omega)]
      have hl : i < s.data.toList.length := by simpa using hi
      rw [List.drop_eq_getElem_cons hl]
      have e : s.get! i = s.data.toList[i] := by
        have hd : i < s.data.size := hi
        show s.data[i]! = _
        rw [getElem!_pos s.data i hd]; simp
      rw [e]; simp
  have := key s.size 0 [] (by omega)
  simpa [ByteArray.toList] using this
theorem mkS_list (l : List UInt8) : (mkS l).toList = l := by rw [toList_data, mkS_toList]
theorem beq_mkS (l m : List UInt8) : ((mkS l).toList == (mkS m).toList) = decide (l = m) := by
  rw [mkS_list, mkS_list]
  by_cases h : l = m
  · simp [h]
  · simp [h]
end Go.Mv

/- mintvaultref1.Lent: the bytes of a text, at the front of a longer list. -/
namespace Go.Proofs.Ytdadnajbdnbbdaa
open Go.RowKit Go.Mv Mvp

theorem info_u8 : (Try.prog.info? 5).map (fun i => (i.zero, i.size, i.bytes)) = some (some (.int .u8 0), 1, 1) := by kernel_rfl
theorem size_u8 : (Try.prog.info? 5).map (·.size) = some 1 := by kernel_rfl

/-- what lies behind the text -/
def lentTail (n : Nat) : List UInt8 := (List.range 160).map fun j => UInt8.ofNat ((n + j) % 251) ^^^ 0xA5
def lentL (l : List UInt8) : List UInt8 := l ++ lentTail l.length
theorem lentL_len (l : List UInt8) : (lentL l).length = l.length + 160 := by simp [lentL, lentTail]
theorem lentL_at (l : List UInt8) (i : Nat) (h1 : l.length ≤ i) (h2 : i < l.length + 160) : (lentL l).getD i 0 = UInt8.ofNat (i % 251) ^^^ 0xA5 := by
  rw [List.getD_eq_getElem?_getD, lentL, List.getElem?_append_right h1]
  simp only [lentTail, List.getElem?_map, List.getElem?_range (show i - l.length < 160 by omega), Option.map_some, Option.getD_some]
  rw [show l.length + (i - l.length) = i by omega]

theorem size_list (s : ByteArray) : s.data.toList.length = s.size := by simp
theorem lent_fill_len (s : ByteArray) (k : Nat) : (fill (lentL s.data.toList) (s.data.toList ++ List.replicate 160 0) k).length = s.size + 160 := by
  rw [fill_length]
  · simp
  · simp [lentL_len]
theorem lent_start (s : ByteArray) : splice (List.replicate (s.size + 160) (Value.int .u8 0)) 0 (bs s.data.toList) = bs (fill (lentL s.data.toList) (s.data.toList ++ List.replicate 160 0) s.size) := by
  have h1 : fill (lentL s.data.toList) (s.data.toList ++ List.replicate 160 0) s.size = s.data.toList ++ List.replicate 160 0 := by
    unfold fill lentL
    rw [List.take_left' (by simp), List.drop_left' (by simp)]
  rw [h1]
  unfold splice
  rw [bs_append, bs_len]
  simp [bs]

end Go.Proofs.Ytdadnajbdnbbdaa

/- mintvaultref1.Still: is a list all as it was lent? -/
namespace Go.Proofs.Ytdadnajbdnbbdaa
open Go.RowKit Go.Mv Mvp

theorem ret_bool {a b : Bool} (h : a = b) : Ending.returned (.bool a) = .returned (.bool b) := by rw [h]

end Go.Proofs.Ytdadnajbdnbbdaa

/- Rules of the walk for words: what Go's operators on 64-bit words and on bytes are on UInt64 and UInt8. -/
namespace Go.Mv
open Go.RowKit Mvp

theorem u64_lt (x : UInt64) : x.toNat < 18446744073709551616 := x.toNat_lt
theorem shr_toNat (x : UInt64) (k : Nat) : (shr x k).toNat = x.toNat / 2 ^ k := by
  have := u64_lt x
  have h := Nat.div_le_self x.toNat (2 ^ k)
  simp only [shr, UInt64.toNat_ofNat']
  exact Nat.mod_eq_of_lt (Nat.lt_of_le_of_lt h this)
theorem shl_toNat (x : UInt64) (k : Nat) : (shl x k).toNat = x.toNat * 2 ^ k % 18446744073709551616 := by simp [shl]

theorem shl_run (x : UInt64) (yk : IntKind) (k : Nat) : Op.shift .shl .u64 (x.toNat : Int) yk (k : Int) = pure (.int .u64 ((shl x k).toNat : Int)) := by
  rw [shift_shl_any _ _ _ _ (by omega), shl_toNat]
  congr 2
  rw [IntKind.wrap_u64]
  simp only [Int.toNat_natCast, IntKind.bits]
  rcases Nat.lt_or_ge k 64 with h | h
  · rw [Nat.min_eq_left (by omega)]
    simp
  · rw [Nat.min_eq_right (by omega)]
    obtain ⟨j, rfl⟩ : ∃ j, k = 64 + j := ⟨k - 64, by omega⟩
    have e : x.toNat * 2 ^ (64 + j) = x.toNat * 2 ^ j * 18446744073709551616 := by
      have e64 : (2 : Nat) ^ 64 = 18446744073709551616 := by decide
      rw [Nat.pow_add, e64]; ac_rfl
    rw [e, Nat.mul_mod_left]
    have e2 : (2 : Int) ^ 64 = 18446744073709551616 := by decide
    rw [e2]
    omega
theorem shr_run (x : UInt64) (yk : IntKind) (k : Nat) : Op.shift .shr .u64 (x.toNat : Int) yk (k : Int) = pure (.int .u64 ((shr x k).toNat : Int)) := by
  rw [shift_shr_any _ _ _ _ (by omega), shr_toNat]
  congr 2
  simp only [Int.toNat_natCast, IntKind.bits]
  rcases Nat.lt_or_ge k 64 with h | h
  · rw [Nat.min_eq_left (by omega)]
    simp
  · rw [Nat.min_eq_right (by omega)]
    have hx := u64_lt x
    have e2 : (2 : Int) ^ 64 = 18446744073709551616 := by decide
    have h3 : x.toNat / 2 ^ k = 0 := Nat.div_eq_of_lt (Nat.lt_of_lt_of_le hx (by have := Nat.pow_le_pow_right (show 0 < 2 by omega) h; simpa using this))
    rw [e2, h3]
    omega
theorem shl_lit (x : UInt64) (yk : IntKind) (n : Nat) : Op.shift .shl .u64 (x.toNat : Int) yk (no_index (OfNat.ofNat n)) = pure (.int .u64 ((shl x n).toNat : Int)) := shl_run x yk n
theorem shr_lit (x : UInt64) (yk : IntKind) (n : Nat) : Op.shift .shr .u64 (x.toNat : Int) yk (no_index (OfNat.ofNat n)) = pure (.int .u64 ((shr x n).toNat : Int)) := shr_run x yk n
theorem xor_run (x y : UInt64) : bits .xor .u64 (x.toNat : Int) (y.toNat : Int) = ((wx x y).toNat : Int) := by
  have := bits_xor_u64_nat x.toNat y.toNat (u64_lt x) (u64_lt y)
  rw [this]; simp [wx]
theorem or_run (x y : UInt64) : bits .or .u64 (x.toNat : Int) (y.toNat : Int) = ((wo x y).toNat : Int) := by
  have := bits_or_u64_nat x.toNat y.toNat (u64_lt x) (u64_lt y)
  rw [this]; simp [wo]
theorem and_run (x y : UInt64) : bits .and .u64 (x.toNat : Int) (y.toNat : Int) = ((wa x y).toNat : Int) := by
  have := bits_and_u64_nat x.toNat y.toNat (u64_lt x) (u64_lt y)
  rw [this]; simp [wa]
theorem not_run (x : UInt64) : bits .xor .u64 18446744073709551615 (x.toNat : Int) = ((wn x).toNat : Int) := by
  have e : (18446744073709551615 : Int) = (((18446744073709551615 : UInt64).toNat : Nat) : Int) := by decide
  have e1 : (18446744073709551615 : UInt64) = -1 := by decide
  rw [e, xor_run, e1, wx, UInt64.neg_one_xor, wn]
theorem not_run2 (x : UInt64) : bits .xor .u64 (if IntKind.u64.signed = true then -1 else IntKind.u64.max) (x.toNat : Int) = ((wn x).toNat : Int) := not_run x
theorem and63_run (k : Nat) : bits .and .u64 (k : Int) 63 = ((k % 64 : Nat) : Int) := by
  have h1 : BitVec.ofInt 64 (k : Int) = BitVec.ofNat 64 k := by simp
  have h2 : (BitVec.ofNat 64 k &&& BitVec.ofInt 64 63).toNat = k % 64 := by
    have e : (BitVec.ofInt 64 63).toNat = 2 ^ 6 - 1 := by decide
    rw [BitVec.toNat_and, e, Nat.and_two_pow_sub_one_eq_mod, BitVec.toNat_ofNat]
    omega
  show IntKind.u64.wrap (((BitVec.ofInt 64 (k : Int) &&& BitVec.ofInt 64 63).toNat : Nat) : Int) = _
  rw [h1, h2, IntKind.wrap_u64]
  omega
theorem widen_run (x : UInt8) : IntKind.u64.wrap (x.toNat : Int) = ((wid x).toNat : Int) := by
  have := x.toNat_lt
  rw [IntKind.wrap_u64]; simp [wid]; omega
theorem narrow_run (x : UInt64) : IntKind.u8.wrap (x.toNat : Int) = ((lo8 x).toNat : Int) := by
  rw [IntKind.wrap_u8']; simp [lo8]
theorem xor8_run (x y : UInt8) : bits .xor .u8 (x.toNat : Int) (y.toNat : Int) = ((bx x y).toNat : Int) := by
  rw [u8_xor_nat _ _ x.toNat_lt y.toNat_lt]; simp [bx]
theorem and8_run (x y : UInt8) : bits .and .u8 (x.toNat : Int) (y.toNat : Int) = ((ba x y).toNat : Int) := by
  rw [u8_and_nat _ _ x.toNat_lt y.toNat_lt]; simp [ba]
theorem or8_run (x y : UInt8) : bits .or .u8 (x.toNat : Int) (y.toNat : Int) = ((bo x y).toNat : Int) := by
  rw [u8_or_nat _ _ x.toNat_lt y.toNat_lt]; simp [bo]
theorem ofInt_nat (k : Nat) : BitVec.ofInt 64 (k : Int) = BitVec.ofNat 64 k := by simp
theorem wrap_i64_small (n : Nat) (h : n < 9223372036854775808) : IntKind.i64.wrap (n : Int) = (n : Int) := by rw [IntKind.wrap_i64]; omega
theorem xor_lt63 (a b : Nat) (ha : a < 9223372036854775808) (hb : b < 9223372036854775808) : a ^^^ b < 9223372036854775808 := Nat.xor_lt_two_pow (n := 63) ha hb
theorem xor_i64 (a b : Nat) (ha : a < 9223372036854775808) (hb : b < 9223372036854775808) : bits .xor .i64 (a : Int) (b : Int) = ((a ^^^ b : Nat) : Int) := by
  show IntKind.i64.wrap (((BitVec.ofInt 64 (a : Int) ^^^ BitVec.ofInt 64 (b : Int)).toNat : Nat) : Int) = _
  rw [ofInt_nat, ofInt_nat, BitVec.toNat_xor, BitVec.toNat_ofNat, BitVec.toNat_ofNat, Nat.mod_eq_of_lt (by omega), Nat.mod_eq_of_lt (by omega)]
  exact wrap_i64_small _ (xor_lt63 a b ha hb)
theorem and_i64 (a b : Nat) (ha : a < 9223372036854775808) (hb : b < 9223372036854775808) : bits .and .i64 (a : Int) (b : Int) = ((a &&& b : Nat) : Int) := by
  show IntKind.i64.wrap (((BitVec.ofInt 64 (a : Int) &&& BitVec.ofInt 64 (b : Int)).toNat : Nat) : Int) = _
  rw [ofInt_nat, ofInt_nat, BitVec.toNat_and, BitVec.toNat_ofNat, BitVec.toNat_ofNat, Nat.mod_eq_of_lt (by omega), Nat.mod_eq_of_lt (by omega)]
  exact wrap_i64_small _ (Nat.lt_of_le_of_lt Nat.and_le_left ha)
theorem or_i64 (a b : Nat) (ha : a < 9223372036854775808) (hb : b < 9223372036854775808) : bits .or .i64 (a : Int) (b : Int) = ((a ||| b : Nat) : Int) := by
  show IntKind.i64.wrap (((BitVec.ofInt 64 (a : Int) ||| BitVec.ofInt 64 (b : Int)).toNat : Nat) : Int) = _
  rw [ofInt_nat, ofInt_nat, BitVec.toNat_or, BitVec.toNat_ofNat, BitVec.toNat_ofNat, Nat.mod_eq_of_lt (by omega), Nat.mod_eq_of_lt (by omega)]
  exact wrap_i64_small _ (Nat.or_lt_two_pow (n := 63) ha hb)
theorem wid_toNat (y : UInt8) : (wid y).toNat = y.toNat := by simp [wid]
theorem or_mix (x : UInt64) (y : UInt8) : bits .or .u64 (x.toNat : Int) (y.toNat : Int) = ((wo x (wid y)).toNat : Int) := by rw [← or_run, wid_toNat]
theorem xor_mix (x : UInt64) (y : UInt8) : bits .xor .u64 (x.toNat : Int) (y.toNat : Int) = ((wx x (wid y)).toNat : Int) := by rw [← xor_run, wid_toNat]
theorem shl_mix (x : UInt8) (yk : IntKind) (k : Nat) : Op.shift .shl .u64 (x.toNat : Int) yk (k : Int) = pure (.int .u64 ((shl (wid x) k).toNat : Int)) := by rw [← shl_run, wid_toNat]
theorem shl_wrap (x : UInt64) (k : Nat) : IntKind.u64.wrap ((x.toNat : Int) * 2 ^ k) = ((shl x k).toNat : Int) := by
  rw [IntKind.wrap_u64, shl_toNat]; simp
theorem shr_div (x : UInt64) (k : Nat) : (x.toNat : Int) / 2 ^ k = ((shr x k).toNat : Int) := by
  rw [shr_toNat]; simp
attribute [go_sem high] shl_wrap shr_div or_mix xor_mix shl_mix shl_lit shr_lit shl_run shr_run xor_run or_run and_run not_run not_run2 and63_run widen_run narrow_run xor8_run and8_run or8_run

section
variable {P : Program} {w : World} {ops : Array Oper} {rest : List Oper} {o : Oper} {a : Act} {Q : Exit → Act → World → Prop}
/-- s[i] of a text: the byte F i, where F is told -/
theorem wl_index_str {x i : Operand} {t : TypeId} (hgd : o.guard = none) (ho : o.op = .index t x i) (ht : P.underlying t = some .string) {s : ByteArray} {ki : IntKind} {j : Int} (hx : a.eval x = .string s) (hi : a.eval i = .int ki j)
    (k : Nat) (hj : j = k) (hk : k < s.size) (y : UInt8) (hy : s.data.toList.getD k 0 = y) (h : wpList P ops Q rest (a.put o.dst (.int .u8 (y.toNat : Int))) w) : wpList P ops Q (o :: rest) a w := by
  refine wpList_plain hgd fun K hK => ?_
  subst hj
  have he : s[k]? = some y := by
    have h1 : s[k]? = some s[k] := getElem?_pos s k hk
    rw [h1]
    congr 1
    rw [← hy, List.getD_eq_getElem?_getD, List.getElem?_eq_getElem (by simpa using hk)]
    simp
    rfl
  have hr : (Instr.index t (.string s) (.int ki (k : Int))).run P w = .ok (.int .u8 (y.toNat : Int)) w := by
    simp [Instr.index, asIntOf, run_underlying ht, he]
  unfold Oper.wp execOp
  simp only [ho, hx, hi, Sem.run_bind, Sem.run_pure, Result.andThen_ok, hr]
  exact hK _ _ h
end

/-- a call that leaves the world alone, behind draws -/
theorem quiet_more {P : Program} {f : FuncId} {args : Array Value} {w : World} {a n : Nat} {v : Value}
    (h : Calls P f args (w.drewN (a + n)) fun e w' => e = .returned v ∧ w' = w.drewN (a + n)) :
    Calls P f args (w.drewN (a + n)) fun e w'' => e = .returned v ∧ ∃ m, w'' = w.drewN (a + m) :=
  h.mono fun _ _ h => ⟨h.1, n, h.2⟩
end Go.Mv

/- word functions of the sponge -/
namespace Go.Proofs.Ytdadnajbdnbbdaa
open Go.RowKit Go.Mv Mvp

theorem ret_int {k : IntKind} {a b : Int} (h : a = b) : Ending.returned (.int k a) = .returned (.int k b) := by rw [h]

theorem rot_form (x : UInt64) (k : Nat) (hk : k < 64) : wo (shl x (k % 64)) (shr x (64 - k % 64)) = rotl x k := by
  rw [Nat.mod_eq_of_lt hk]; rfl
theorem rot_any (x : UInt64) (k : Nat) (hk : k < 64) (w : World) :
    Calls Try.prog 63 #[.int .u64 (x.toNat : Int), .int .i64 (k : Int)] w fun e w' => e = .returned (.int .u64 ((rotl x k).toNat : Int)) ∧ w = w' := by
  go_enter Try.func63, Try.ntmps63
  go_wp2
  go_ret
  exact ⟨ret_int (by rw [← rot_form x k hk]), rfl⟩
theorem left_any (x : UInt64) (k : Nat) (hk : k < 64) (w : World) :
    Calls Try.prog 67 #[.int .u64 (x.toNat : Int), .int .i64 (k : Int)] w fun e w' => e = .returned (.int .u64 ((rotl x k).toNat : Int)) ∧ ∃ n, w' = w.drewN n := by
  go_enter Try.func67, Try.ntmps67
  go_wp2
  go_quiet (fail)
  go_wp2
  go_ret
  exact ⟨rfl, nq, rfl⟩
theorem place_any (x y : Int) (w : World) (hx : 0 ≤ x) (hx' : x ≤ 1000) (hy : 0 ≤ y) (hy' : y ≤ 1000) :
    Calls Try.prog 66 #[.int .i64 x, .int .i64 y] w fun e w' => e = .returned (.int .i64 ((place x.toNat y.toNat : Nat) : Int)) ∧ w = w' := by
  go_enter Try.func66, Try.ntmps66
  go_wp2
  go_ret
  exact ⟨ret_int (by unfold place; omega), rfl⟩
theorem goesTo_any (i : Nat) (w : World) (hi : i ≤ 1000) :
    Calls Try.prog 64 #[.int .i64 (i : Int)] w fun e w' => e = .returned (.int .i64 ((goesTo i : Nat) : Int)) ∧ w = w' := by
  go_enter Try.func64, Try.ntmps64
  go_wp2
  go_ret
  exact ⟨ret_int (by unfold goesTo; omega), rfl⟩
set_option maxHeartbeats 400000 in
theorem bit_any (t : Int) (w : World) (hx : 0 ≤ t) (hx' : t ≤ 1000) :
    Calls Try.prog 68 #[.int .i64 t] w fun e w' => e = .returned (.int .u64 ((bitW t.toNat).toNat : Int)) ∧ w = w' := by
  go_enter Try.func68, Try.ntmps68
  go_wp2
  go_loop [3, 4] (fun r i => ∃ k : Nat, (k : Int) ≤ t ∧ i = .int .i64 k ∧ r = .int .i64 (lfsr k : Nat)) (fun _ i => (t - intOf i).toNat)
  case atStart => exact ⟨0, by omega, rfl, rfl⟩
  case round =>
    obtain ⟨k, hk, rfl, rfl⟩ := hrel
    have hb := lfsr_lt k
    by_cases hlt : (k : Int) < t
    · by_cases hc : 255 < 2 * lfsr k
      · go_wp2
        go_round
        case rel =>
          refine ⟨k + 1, by omega, by go_num, ?_⟩
          have e := xor_i64 (2 * lfsr k) 369 (by omega) (by omega)
          have e2 : lfsr (k + 1) = (2 * lfsr k) ^^^ 369 := by rw [lfsr, if_pos hc]
          rw [e2, ← e]; rfl
        case measure => simp [intOf]; omega
      · go_wp2
        go_round
        case rel =>
          refine ⟨k + 1, by omega, by go_num, ?_⟩
          have e2 : lfsr (k + 1) = 2 * lfsr k := by rw [lfsr, if_neg hc]
          rw [e2]; simp
        case measure => simp [intOf]; omega
    · go_wp2
      go_ret
      have hkt : t.toNat = k := by omega
      refine ⟨ret_int ?_, rfl⟩
      have e := and_i64 (lfsr k) 1 (by omega) (by omega)
      rw [show (1 : Int) = ((1 : Nat) : Int) from rfl, e, IntKind.wrap_u64, hkt, bitW, bitR, nat_mask1]
      simp
end Go.Proofs.Ytdadnajbdnbbdaa

/- the constants of the rounds, and how far the lanes are turned -/
namespace Go.Proofs.Ytdadnajbdnbbdaa
open Go.RowKit Go.Mv Mvp

theorem rcP_succ (r k : Nat) : rcP r (k + 1) = rcPstep r (rcP r k) k := by simp [rcP, List.range_succ]
theorem rcR_succ (r k : Nat) : rcR r (k + 1) = rcStep r (rcR r k) k := by simp [rcR, List.range_succ]

set_option maxHeartbeats 400000 in
theorem constP_any (r : Nat) (hr : r < 24) (w : World) :
    Calls Try.prog 65 #[.int .i64 (r : Int)] w fun e w' => e = .returned (.int .u64 ((rcP r 8).toNat : Int)) ∧ w = w' := by
  go_enter Try.func65, Try.ntmps65
  go_wp2
  go_loop [2, 4] (fun c i => ∃ k : Nat, k ≤ 8 ∧ i = .int .i64 k ∧ c = .int .u64 ((rcP r k).toNat : Int)) (fun _ i => (8 - intOf i).toNat)
  case atStart => exact ⟨0, by omega, rfl, rfl⟩
  case round =>
    obtain ⟨k, hk, rfl, rfl⟩ := hrel
    by_cases hlt : k < 8
    · go_wp2_with (first | (with_reducible refine wl_stop (o := ⟨some 13, _, _, _, _, _⟩) ?_))
      refine wl_index_str rfl rfl Try.underlying9 rfl rfl (8 * r + k) (by simp) ?_ (UInt8.ofNat (rcBytes.getD (8 * r + k) 0)) ?_ ?_
      · exact Nat.lt_of_lt_of_le (show 8 * r + k < 192 by omega) (by decide +kernel)
      · generalize hj : 8 * r + k = j
        have hj' : j < 192 := by omega
        clear hj
        revert j
        decide +kernel
      generalize hy : UInt8.ofNat (rcBytes.getD (8 * r + k) 0) = y
      have HY := Lib.hid hy; clear hy
      go_wp2
      go_round
      case rel => exact ⟨k + 1, by omega, by go_num, by rw [rcP_succ, rcPstep, HY.out]; rfl⟩
      case measure => simp [intOf]; omega
    · go_wp2
      go_ret
      have : k = 8 := by omega
      subst this
      exact ⟨rfl, rfl⟩

set_option maxHeartbeats 400000 in
theorem constR_any (r : Nat) (hr : r < 24) (w : World) :
    Calls Try.prog 61 #[.int .i64 (r : Int)] w fun e w' => e = .returned (.int .u64 ((rcR r 7).toNat : Int)) ∧ w = w' := by
  go_enter Try.func61, Try.ntmps61
  go_wp2
  go_loop [3, 4] (fun c i => ∃ k : Nat, k ≤ 7 ∧ i = .int .i64 k ∧ c = .int .u64 ((rcR r k).toNat : Int)) (fun _ i => (7 - intOf i).toNat)
  case atStart => exact ⟨0, by omega, rfl, rfl⟩
  case round =>
    obtain ⟨k, hk, rfl, rfl⟩ := hrel
    by_cases hlt : k < 7
    · obtain rfl | rfl | rfl | rfl | rfl | rfl | rfl : k = 0 ∨ k = 1 ∨ k = 2 ∨ k = 3 ∨ k = 4 ∨ k = 5 ∨ k = 6 := by omega
      all_goals
        go_wp2_with fail
        refine (bit_any _ _ (by omega) (by omega)).mono ?_
        rintro e w' ⟨rfl, rfl⟩
        go_wp2
        go_round
      case rel => exact ⟨1, by omega, by go_num, by rw [rcR_succ, rcStep, Nat.zero_add]; rfl⟩
      case measure => simp [intOf]
      case rel => exact ⟨2, by omega, by go_num, by rw [rcR_succ, rcStep]; rfl⟩
      case measure => simp [intOf]
      case rel => exact ⟨3, by omega, by go_num, by rw [rcR_succ, rcStep]; rfl⟩
      case measure => simp [intOf]
      case rel => exact ⟨4, by omega, by go_num, by rw [rcR_succ, rcStep]; rfl⟩
      case measure => simp [intOf]
      case rel => exact ⟨5, by omega, by go_num, by rw [rcR_succ, rcStep]; rfl⟩
      case measure => simp [intOf]
      case rel => exact ⟨6, by omega, by go_num, by rw [rcR_succ, rcStep]; rfl⟩
      case measure => simp [intOf]
      case rel => exact ⟨7, by omega, by go_num, by rw [rcR_succ, rcStep]; rfl⟩
      case measure => simp [intOf]
    · go_wp2
      go_ret
      have : k = 7 := by omega
      subst this
      exact ⟨rfl, rfl⟩
end Go.Proofs.Ytdadnajbdnbbdaa

/- Whole arrays in memory: load, store, result, over the words of Mem. -/
namespace Go.Mv
open Go.RowKit
variable {P : Program}

theorem Has.setCells {g : Nat} {T : TypeId} : ∀ (cs : List Value) (o : Nat) (L : List Value) (w : World), Has w g L T → o + cs.length ≤ L.length → Has (w.setCells g o cs) g (splice L o cs) T ∧ Fr (One g) w (w.setCells g o cs) ∧ (w.setCells g o cs).heap.size = w.heap.size
  | [], o, L, w, h, _ => ⟨by rw [splice_nil]; exact h, Fr.refl _ _, rfl⟩
  | v :: cs, o, L, w, h, hl => by
    simp only [List.length_cons] at hl
    obtain ⟨h1, h2, h3⟩ := Has.setCells cs (o + 1) (L.set o v) (w.setCell ⟨g, o, none⟩ v) (h.set o v) (by simp; omega)
    rw [splice_cons L o v cs (by omega)] at h1
    refine ⟨h1, ((Fr.refl (One g) w).setCell g o none v (fun _ => rfl)).trans h2 (fun _ _ t => t), ?_⟩
    show ((w.setCell ⟨g, o, none⟩ v).setCells g (o + 1) cs).heap.size = _
    rw [h3]; simp [World.setCell]

theorem Has.range {w : World} {g : Nat} {L : List Value} {T : TypeId} (h : Has w g L T) (o : Nat) (cs : List Value) (hcs : (L.drop o).take cs.length = cs) : w.rangeAt g o cs := by
  intro j v hv
  rw [h.get]
  have : j < cs.length := by
    rcases Nat.lt_or_ge j cs.length with k | k
    · exact k
    · simp [List.getElem?_eq_none k] at hv
  rw [← hcs, List.getElem?_take, if_pos this, List.getElem?_drop] at hv
  exact hv
theorem Has.there {w : World} {g : Nat} {L : List Value} {T : TypeId} (h : Has w g L T) (o n : Nat) (hn : o + n ≤ L.length) : w.there g o n := by
  intro j hj
  obtain ⟨v, h1, h2⟩ := h.ready (i := o + j) (by omega)
  exact ⟨by rw [h1]; rfl, h2⟩

section
variable {w : World} {ops : Array Oper} {rest : List Oper} {o : Oper} {a : Act} {Q : Exit → Act → World → Prop}
/-- a whole array is read -/
theorem wl_loadA {ty : TypeId} {x : Operand} (hgd : o.guard = none) (ho : o.op = .load ty x) {n : Nat} {e : TypeId} (hu : P.underlying ty = some (.array n e)) {g p : Nat} (hx : a.eval x = .pointer (some ⟨g, p, none⟩))
    {L : List Value} {T : TypeId} (hg : Has w g L T) (cs : List Value) (hcs : (L.drop p).take cs.length = cs) (hi : (P.info? ty).map (·.size) = some cs.length)
    (h : wpList P ops Q rest (a.put o.dst (.agg cs.toArray)) w) : wpList P ops Q (o :: rest) a w :=
  wpList_load_mid hgd ty x ho g p hx cs _ (hg.range p cs hcs) hu rfl hi h
/-- a whole array is stored -/
theorem wl_storeA {ty : TypeId} {x y : Operand} (hgd : o.guard = none) (ho : o.op = .store ty x y) {g p : Nat} (hx : a.eval x = .pointer (some ⟨g, p, none⟩)) {cs : List Value} (hy : a.eval y = .agg cs.toArray)
    {L : List Value} {T : TypeId} (hg : Has w g L T) (hn : p + cs.length ≤ L.length) (hi : (P.info? ty).map (·.size) = some cs.length) (h1 : ∀ v ∈ cs, v.oneCell' = true)
    (h : ∀ w', Has w' g (splice L p cs) T → Fr (One g) w w' → w'.heap.size = w.heap.size → wpList P ops Q rest (a.put o.dst undef) w') : wpList P ops Q (o :: rest) a w := by
  obtain ⟨k1, k2, k3⟩ := Has.setCells cs p L w hg hn
  exact wpList_store_mid hgd ty x y ho g p cs.toArray hx hy (by simpa using hg.there p cs.length hn) (by simpa using hi) (all_oneCell_toArray h1) (by simpa using h _ k1 k2 k3)
end

theorem splice_whole (L cs : List Value) (h : cs.length = L.length) : splice L 0 cs = cs := by
  simp [splice, h]

/-- the result is an array in memory -/
theorem results_arr {fn : Func} {p : Tmp} {ty : TypeId} (h : fn.results = #[.cell p ty]) {tmps : Array Value} {w : World} {g : Nat} {L : List Value} {T : TypeId}
    (hp : tmps.getD p undef = .pointer (some ⟨g, 0, none⟩)) (hg : Has w g L T) {n : Nat} {e : TypeId} (hu : P.underlying ty = some (.array n e)) (hi : (P.info? ty).map (·.size) = some L.length) :
    (results fn tmps).run P w = .ok (.agg L.toArray) w := by
  obtain ⟨lo, hi', hh, -⟩ := hg
  exact results_cell_row h tmps w g T L.toArray _ _ hp hh hu rfl (by simpa using hi)

open Mvp in
/-- a row of bytes that is filled from the left -/
theorem Has.fillB {w : World} {g : Nat} {T : TypeId} {F I : List UInt8} {k : Nat} (h : Has w g (bs (fill F I k)) T) (hl : F.length = I.length) (hk : k < F.length) : Has (w.setCell ⟨g, k, none⟩ (.int .u8 ((F.getD k 0).toNat : Int))) g (bs (fill F I (k + 1))) T := by
  have := h.set k (.int .u8 ((F.getD k 0).toNat : Int))
  rwa [bs_set, fill_set _ _ _ hl hk] at this

section
variable {w : World} {ops : Array Oper} {rest : List Oper} {o : Oper} {a : Act} {Q : Exit → Act → World → Prop}
/-- a new variable -/
theorem wl_alloc {e : TypeId} (hgd : o.guard = none) (ho : o.op = .alloc e) {z : Value} (hi : (P.info? e).map (·.zero) = some (some z)) (L : List Value) (hL : z.cells.toList = L)
    (h : ∀ w', Has w' w.heap.size L e → Fr Nob w w' → w'.heap.size = w.heap.size + 1 → wpList P ops Q rest (a.put o.dst (.pointer (some ⟨w.heap.size, 0, none⟩))) w') : wpList P ops Q (o :: rest) a w := by
  refine wpList_plain hgd fun K hK => ?_
  obtain ⟨i, hi1, hz⟩ : ∃ i, P.info? e = some i ∧ i.zero = some z := by simpa using hi
  have hr : (Instr.alloc e true (.tuple #[])).run P w = .ok (.pointer (some ⟨w.heap.size, 0, none⟩)) (w.alloc (.cells z.cells e)) := by
    simp [Instr.alloc, zeroValue, typeInfo, hi1, hz, newVar, newRow]
  unfold Oper.wp execOp
  simp only [ho, Sem.run_bind, Sem.run_pure, Result.andThen_ok, hr]
  refine hK _ _ (h _ ?_ ((Fr.refl _ w).alloc _) (by simp))
  have := Has.new w z.cells e
  rwa [hL] at this
end

section
variable {w : World} {ops : Array Oper} {rest : List Oper} {o : Oper} {a : Act} {Q : Exit → Act → World → Prop}
theorem run_sliceBound (k : IntKind) (n y : Nat) (code : BoundsCode) (h : n ≤ y) : (Instr.sliceBound (.int k (n : Int)) y code).run P w = .ok n w := by
  have : ((n : Int) ≤ (y : Int)) := by omega
  simp [Instr.sliceBound, asIntOf, this]

/-- an array in memory, cut: x[l:h:m] -/
theorem wl_cutA {ty : TypeId} {x lo hi mx : Operand} (hgd : o.guard = none) (ho : o.op = .slice ty x (some lo) (some hi) (some mx)) {n : Nat} {e : TypeId} (hu : P.underlying ty = some (.array n e)) (hsz : (P.info? e).map (·.size) = some 1)
    {g p : Nat} (hx : a.eval x = .pointer (some ⟨g, p, none⟩)) {kl kh km : IntKind} {il ih im : Int} (hl : a.eval lo = .int kl il) (hh : a.eval hi = .int kh ih) (hm : a.eval mx = .int km im)
    (l h m : Nat) (el : il = l) (eh : ih = h) (em : im = m) (h1 : l < m) (h2 : l ≤ h) (h3 : h ≤ m) (h4 : m ≤ n)
    (hK : wpList P ops Q rest (a.put o.dst (.slice (some ⟨g, p + l, none⟩) (h - l) (m - l))) w) : wpList P ops Q (o :: rest) a w := by
  refine wpList_plain hgd fun K hK' => ?_
  obtain ⟨i, hi1, hi2⟩ : ∃ i, P.info? e = some i ∧ i.size = 1 := by simpa using hsz
  subst el eh em
  have hr : (Instr.sliceAt ty (.pointer (some ⟨g, p, none⟩)) (some (.int kl (l : Int))) (some (.int kh (h : Int))) (some (.int km (m : Int)))).run P w = .ok (.slice (some ⟨g, p + l, none⟩) (h - l) (m - l)) w := by
    have hne : ¬ m = l := by omega
    simp [Instr.sliceAt, run_underlying hu, Instr.sliceBounds, run_sliceBound, h2, h3, h4, sizeOf, typeInfo, hi1, hi2, hne, addr_add, Instr.sureAddr]
  unfold Oper.wp execOp
  simp only [ho, hx, hl, hh, hm, Option.map_some, Sem.run_bind, Sem.run_pure, Result.andThen_ok, hr]
  exact hK' _ _ hK

/-- where a cut of a slice lies -/
def cutAt (p : Option Addr) (l m : Nat) : Option Addr := if m = l then p else p.map (·.add l)
theorem cutAt_rd {w : World} {p : Option Addr} {n : Nat} {vs : List Value} (hr : Rd w p n vs) (l h m : Nat) (h2 : l ≤ h) (h3 : h ≤ m) (h4 : h ≤ n) : Rd w (cutAt p l m) (h - l) ((vs.drop l).take (h - l)) := by
  have hlen := hr.len
  refine ⟨by simp; omega, ?_⟩
  rcases Nat.eq_zero_or_pos (h - l) with h0 | h0
  · exact .inl h0
  · obtain ⟨b, o, rfl, hc⟩ := hr.at (by omega)
    refine .inr ⟨b, o + l, ?_, hc.sub l (h - l)⟩
    simp [cutAt, show ¬ m = l by omega, addr_add]
theorem cutAt_block {p : Option Addr} {l m : Nat} {x : Addr} (h : cutAt p l m = some x) : ∃ y, p = some y ∧ y.block = x.block := by
  unfold cutAt at h
  split at h
  · exact ⟨x, h, rfl⟩
  · cases p with
    | none => cases h
    | some y =>
      refine ⟨y, rfl, ?_⟩
      simp only [Option.map_some, Option.some.injEq] at h
      subst h
      unfold Addr.add
      split <;> rfl
theorem cutAt_off {S : Nat → Prop} {p : Option Addr} (h : Off S p) (l m : Nat) : Off S (cutAt p l m) := by
  intro x hx
  obtain ⟨y, hy, e⟩ := cutAt_block hx
  rw [← e]; exact h y hy

/-- a slice of one-cell elements, cut: x[l:h] -/
theorem wl_cut {ty : TypeId} {x : Operand} {lo hi : Option Operand} (hgd : o.guard = none) (ho : o.op = .slice ty x lo hi none) {e : TypeId} (hu : P.underlying ty = some (.slice e)) (hsz : (P.info? e).map (·.size) = some 1)
    {p : Option Addr} {n c : Nat} (hx : a.eval x = .slice p n c) (l h : Nat) (hl : lo.elim (l = 0) (fun y => ∃ k, a.eval y = .int k (l : Int))) (hh : hi.elim (h = n) (fun y => ∃ k, a.eval y = .int k (h : Int))) (h2 : l ≤ h) (h3 : h ≤ c)
    (hK : wpList P ops Q rest (a.put o.dst (.slice (cutAt p l c) (h - l) (c - l))) w) : wpList P ops Q (o :: rest) a w := by
  refine wpList_plain hgd fun K hK' => ?_
  obtain ⟨i, hi1, hi2⟩ : ∃ i, P.info? e = some i ∧ i.size = 1 := by simpa using hsz
  have hr : (Instr.sliceAt ty (.slice p n c) (lo.map a.eval) (hi.map a.eval) none).run P w = .ok (.slice (cutAt p l c) (h - l) (c - l)) w := by
    cases lo with
    | none =>
      simp only [Option.elim] at hl
      subst hl
      cases hi with
      | none =>
        simp only [Option.elim] at hh
        subst hh
        simp [Instr.sliceAt, Instr.slice, run_underlying hu, Instr.sliceBounds, sizeOf, typeInfo, hi1, cutAt]
      | some y =>
        obtain ⟨k, hk⟩ := hh
        simp [Instr.sliceAt, Instr.slice, run_underlying hu, Instr.sliceBounds, run_sliceBound, h3, sizeOf, typeInfo, hi1, cutAt, hk]
    | some z =>
      obtain ⟨kz, hkz⟩ := hl
      cases hi with
      | none =>
        simp only [Option.elim] at hh
        subst hh
        simp [Instr.sliceAt, Instr.slice, run_underlying hu, Instr.sliceBounds, run_sliceBound, h2, sizeOf, typeInfo, hi1, hi2, cutAt, hkz]
      | some y =>
        obtain ⟨k, hk⟩ := hh
        simp [Instr.sliceAt, Instr.slice, run_underlying hu, Instr.sliceBounds, run_sliceBound, h2, h3, sizeOf, typeInfo, hi1, hi2, cutAt, hk, hkz]
  unfold Oper.wp execOp
  simp only [ho, hx, Option.map_none, Sem.run_bind, Sem.run_pure, Result.andThen_ok, hr]
  exact hK' _ _ hK
/-- a slice of one-cell elements, cut: x[l:h:m] -/
theorem wl_cut3 {ty : TypeId} {x : Operand} {lo : Option Operand} {hi mx : Operand} (hgd : o.guard = none) (ho : o.op = .slice ty x lo (some hi) (some mx)) {e : TypeId} (hu : P.underlying ty = some (.slice e)) (hsz : (P.info? e).map (·.size) = some 1)
    {p : Option Addr} {n c : Nat} (hx : a.eval x = .slice p n c) (l h m : Nat) (hl : lo.elim (l = 0) (fun y => ∃ k, a.eval y = .int k (l : Int))) {kh km : IntKind} {ih im : Int} (hh : a.eval hi = .int kh ih) (hm : a.eval mx = .int km im) (eh : ih = h) (em : im = m) (h2 : l ≤ h) (h3 : h ≤ m) (h4 : m ≤ c)
    (hK : wpList P ops Q rest (a.put o.dst (.slice (cutAt p l m) (h - l) (m - l))) w) : wpList P ops Q (o :: rest) a w := by
  refine wpList_plain hgd fun K hK' => ?_
  obtain ⟨i, hi1, hi2⟩ : ∃ i, P.info? e = some i ∧ i.size = 1 := by simpa using hsz
  subst eh em
  have hr : (Instr.sliceAt ty (.slice p n c) (lo.map a.eval) (some (a.eval hi)) (some (a.eval mx))).run P w = .ok (.slice (cutAt p l m) (h - l) (m - l)) w := by
    cases lo with
    | none =>
      simp only [Option.elim] at hl
      subst hl
      simp [Instr.sliceAt, Instr.slice, run_underlying hu, Instr.sliceBounds, run_sliceBound, h3, h4, sizeOf, typeInfo, hi1, cutAt, hh, hm]
    | some z =>
      obtain ⟨kz, hkz⟩ := hl
      simp [Instr.sliceAt, Instr.slice, run_underlying hu, Instr.sliceBounds, run_sliceBound, h2, h3, h4, sizeOf, typeInfo, hi1, hi2, cutAt, hkz, hh, hm]
  unfold Oper.wp execOp
  simp only [ho, hx, Option.map_some, Sem.run_bind, Sem.run_pure, Result.andThen_ok, hr]
  exact hK' _ _ hK
end

theorem Rd.lt {w : World} {b o n : Nat} {vs : List Value} (h : Rd w (some ⟨b, o, none⟩) n vs) (hn : 0 < n) : b < w.heap.size := by
  obtain ⟨b', o', he, hc⟩ := h.at hn
  simp only [Option.some.injEq, Addr.mk.injEq] at he
  obtain ⟨rfl, rfl, -⟩ := he
  have := hc.cell (i := 0) (by rw [h.len]; exact hn)
  exact block_lt_of_cell this
theorem cell_other (w : World) (g i : Nat) (v : Value) (b j : Nat) (h : b ≠ g) : (w.setCell ⟨g, i, none⟩ v).cell? ⟨b, j, none⟩ = w.cell? ⟨b, j, none⟩ :=
  World.cell?_of_block (a := ⟨b, j, none⟩) (heap_setCell_other w ⟨g, i, none⟩ b v h)
end Go.Mv

/- how far the lanes are turned -/
namespace Go.Proofs.Ytdadnajbdnbbdaa
open Go.RowKit Go.Mv Mvp

theorem size_a25i : (Try.prog.info? 118).map (·.size) = some 25 := by kernel_rfl
theorem info_int : (Try.prog.info? 3).map (fun i => (i.zero, i.size, i.bytes)) = some (some (.int .i64 0), 1, 8) := by kernel_rfl
theorem turnsK_succ (k : Nat) : turnsK (k + 1) = turnStep (turnsK k) k := by simp [turnsK, List.range_succ]
theorem turnsK_len (k : Nat) : (turnsK k).length = 25 := by
  induction k with
  | zero => simp [turnsK]
  | succ k ih => rw [turnsK_succ]; simp [turnStep, ih]

set_option maxHeartbeats 800000 in
theorem turns_any (w : World) :
    Calls Try.prog 62 #[] w fun e w' => e = .returned (.agg (is (turnsK 24)).toArray) ∧ Fr Nob w w' := by
  go_enter Try.func62, Try.ntmps62
  go_wp2
  go_loopw [1, 2, 4] (fun x y i wr => ∃ k : Nat, k ≤ 24 ∧ i = .int .i64 k ∧ x = .int .i64 ((xy k).1 : Nat) ∧ y = .int .i64 ((xy k).2 : Nat) ∧ Has wr w.heap.size (is (turnsK k)) 118 ∧ Fr Nob w wr) (fun _ _ i _ => (24 - intOf i).toNat)
  case atStart =>
    refine ⟨0, by omega, rfl, rfl, rfl, ?_, (Fr.refl _ _).alloc _⟩
    exact Has.new w _ _
  case round =>
    obtain ⟨k, hk, rfl, rfl, rfl, hh, hf⟩ := hrel
    have hxy := xy_lt k
    by_cases hlt : k < 24
    · obtain ⟨v0, hc, hfr⟩ := hh.ready (i := (xy k).1 + 5 * (xy k).2) (by rw [length_is, turnsK_len]; omega)
      have hp : (0 : Int) ≤ ((k : Int) + 1) * ((k : Int) + 2) ∧ ((k : Int) + 1) * ((k : Int) + 2) ≤ 650 := by
        refine ⟨Int.mul_nonneg (by omega) (by omega), ?_⟩
        have := Int.mul_le_mul (show (k : Int) + 1 ≤ 24 by omega) (show (k : Int) + 2 ≤ 25 by omega) (by omega) (by omega)
        omega
      go_wp2
      go_roundw
      case rel =>
        refine ⟨k + 1, by omega, by go_num, rfl, by simp [xy], ?_, hf.setCell _ _ _ _ (fun h => absurd h (Nat.lt_irrefl _))⟩
        have e : ((k : Int) + 1) * ((k : Int) + 2) / 2 % 64 = (((k + 1) * (k + 2) / 2 % 64 : Nat) : Int) := by simp
        rw [e, turnsK_succ, turnStep, ← is_set]
        exact hh.set _ _
      case measure => simp [intOf]; omega
    · go_wp2_with (first | (with_reducible refine wl_stop (o := ⟨some 27, _, _, _, _, _⟩) ?_))
      have hk24 : k = 24 := by omega
      subst hk24
      refine wl_loadA rfl rfl Try.underlying118 rfl hh (is (turnsK 24)) (by simp) (by rw [length_is, turnsK_len]; exact size_a25i) ?_
      go_wp2_with (first | (with_reducible refine wl_stop (o := ⟨none, .store 118 _ _, _, _, _, _⟩) ?_))
      refine wl_storeA rfl rfl rfl rfl hh (by simp) (by rw [length_is, turnsK_len]; exact size_a25i) ?_ ?_
      · intro v hv; simp [is] at hv; obtain ⟨x, _, rfl⟩ := hv; rfl
      intro w2 hh2 hf2 hz2
      go_wp2
      rw [splice_whole _ _ rfl] at hh2
      exact bodyPost_ret (results_arr rfl rfl hh2 Try.underlying118 (by rw [length_is, turnsK_len]; exact size_a25i)) rfl ⟨rfl, hf.new hf2 (Nat.le_refl _)⟩

set_option maxHeartbeats 800000 in
theorem offsets_any (w : World) :
    Calls Try.prog 59 #[] w fun e w' => e = .returned (.slice (some ⟨w.heap.size, 0, none⟩) 25 25) ∧ Has w' w.heap.size (is (turnsK 24)) 3 ∧ Fr Nob w w' := by
  go_enter Try.func59, Try.ntmps59
  go_wp2_with (at_make; refine wl_make rfl rfl Try.underlying113 info_int rfl rfl rfl 25 25 (by simp) (by simp) (by omega) (by omega) (by unfold maxLen; omega) ?_; intro w1 hw1 hf1 hz1)
  go_loopw [2, 3, 4] (fun x y i wr => ∃ k : Nat, k ≤ 24 ∧ i = .int .i64 k ∧ x = .int .i64 ((xy k).1 : Nat) ∧ y = .int .i64 ((xy k).2 : Nat) ∧ Has wr w.heap.size (is (turnsK k)) 3 ∧ Fr Nob w wr) (fun _ _ i _ => (24 - intOf i).toNat)
  case atStart => exact ⟨0, by omega, rfl, rfl, rfl, hw1, hf1⟩
  case round =>
    obtain ⟨k, hk, rfl, rfl, rfl, hh, hf⟩ := hrel
    have hxy := xy_lt k
    by_cases hlt : k < 24
    · have hpl : place (xy k).1 (xy k).2 = (xy k).1 + 5 * (xy k).2 := by unfold place; rw [Nat.mod_eq_of_lt hxy.1, Nat.mod_eq_of_lt hxy.2]
      have HP := Lib.hid hpl; clear hpl
      have hpb : place (xy k).1 (xy k).2 < 25 := by rw [HP.out]; omega
      obtain ⟨v0, hc, hfr⟩ := hh.ready (i := place (xy k).1 (xy k).2) (by rw [length_is, turnsK_len]; omega)
      have hp : (0 : Int) ≤ ((k : Int) + 1) * ((k : Int) + 2) ∧ ((k : Int) + 1) * ((k : Int) + 2) ≤ 650 := by
        refine ⟨Int.mul_nonneg (by omega) (by omega), ?_⟩
        have := Int.mul_le_mul (show (k : Int) + 1 ≤ 24 by omega) (show (k : Int) + 2 ≤ 25 by omega) (by omega) (by omega)
        omega
      go_wp2_with (go_at_call 66; refine (place_any _ _ _ (by omega) (by omega) (by omega) (by omega)).mono ?_; rintro e w' ⟨rfl, rfl⟩)
      go_roundw
      case rel =>
        refine ⟨k + 1, by omega, by go_num, rfl, by simp [xy], ?_, hf.setCell _ _ _ _ (fun h => absurd h (Nat.lt_irrefl _))⟩
        have e : ((k : Int) + 1) * ((k : Int) + 2) / 2 % 64 = (((k + 1) * (k + 2) / 2 % 64 : Nat) : Int) := by simp
        rw [e, turnsK_succ, turnStep, ← is_set, ← HP.out]
        exact hh.set _ _
      case measure => simp [intOf]; omega
    · go_wp2
      have hk24 : k = 24 := by omega
      subst hk24
      go_ret
      exact ⟨rfl, hh, hf⟩
end Go.Proofs.Ytdadnajbdnbbdaa

/- the state: bytes are added, and given -/
namespace Go.Proofs.Ytdadnajbdnbbdaa
open Go.RowKit Go.Mv Mvp

set_option maxHeartbeats 800000 in
/-- xor: the state lies at the beginning of block g -/
theorem xor_any (g : Nat) (S : List UInt64) (tail : List Value) (T : TypeId) (b : Option Addr) (n c : Nat) (l : List UInt8) (w : World) (hS : S.length = 25) (hn : n ≤ 200) (hg : Has w g (ws S ++ tail) T) (hb : RdB w b n l) (hbg : Off (One g) b) :
    Calls Try.prog 56 #[.pointer (some ⟨g, 0, none⟩), .slice b n c] w fun e w' => e = .returned (.tuple #[]) ∧ Has w' g (ws (xorB S l n) ++ tail) T ∧ Fr (One g) w w' ∧ w'.heap.size = w.heap.size := by
  go_enter Try.func56, Try.ntmps56
  go_wp2
  go_loopw [8] (fun i wr => ∃ k : Nat, k ≤ n ∧ i = .int .i64 k ∧ Has wr g (ws (xorB S l k) ++ tail) T ∧ Fr (One g) w wr ∧ wr.heap.size = w.heap.size) (fun i _ => (n - intOf i).toNat)
  case atStart => exact ⟨0, by omega, rfl, hg, Fr.refl _ _, rfl⟩
  case round =>
    obtain ⟨k, hk, rfl, hh, hf, hz⟩ := hrel
    by_cases hlt : k < n
    · obtain ⟨bb, o, rfl, hcb0⟩ := (hb.keep hf hbg).at (by omega)
      have hcb := hcb0 k hlt
      clear hcb0
      have hlen := xorB_len S l k
      have hi8 : k / 8 < (ws (xorB S l k)).length := by rw [length_ws, hlen]; omega
      have hc : wr.cell? ⟨g, k / 8, none⟩ = some (.int .u64 (((xorB S l k).getD (k / 8) 0).toNat : Int)) := hh.cell (by rw [List.getElem?_append_left hi8]; exact ws_get _ _ (by rw [hlen]; omega))
      have hfr : wr.frozen? ⟨g, k / 8, none⟩ = false := hh.free _ (by rw [List.length_append]; omega)
      have hlo : (0 : Int) ≤ (k : Int) / 8 ∧ (k : Int) / 8 < 25 := by omega
      generalize hy : (xorB S l k).getD (k / 8) 0 = y at hc
      generalize hx : l.getD k 0 = x at hcb
      have HY := Lib.hid hy; clear hy
      have HX := Lib.hid hx; clear hx
      have HL := Lib.hid hlen; clear hlen hi8
      have HZ := Lib.hid hz; clear hz
      go_wp2
      go_region
      all_goals go_wp2
      go_roundw
      case rel =>
        refine ⟨k + 1, by omega, by go_num, ?_, (hf.setCell _ _ _ _ (fun _ => rfl)).drew, by have := HZ.out; simpa [World.setCell] using this⟩
        have h1 := (hh.set (k / 8) (.int .u64 ((wx y (shl (wid x) (8 * (k % 8)))).toNat : Int))).drew
        rw [List.set_append_left _ _ (by rw [length_ws, HL.out]; omega), ws_set, ← HY.out, ← HX.out] at h1
        rw [xorB_succ, xorStep, ← HY.out, ← HX.out]
        exact h1
      case measure => simp [intOf]; omega
    · go_wp2
      go_end0
      have : k = n := by omega
      subst this
      exact ⟨rfl, hh, hf, hz⟩
end Go.Proofs.Ytdadnajbdnbbdaa

/- the state's bytes; Permute -/
namespace Go.Proofs.Ytdadnajbdnbbdaa
open Go.RowKit Go.Mv Mvp

theorem toB_at (S : List UInt64) (n i : Nat) (h : i < n) : (toB S n).getD i 0 = sByte S i := by
  simp [toB, List.getD_eq_getElem?_getD, List.getElem?_range h]

set_option maxHeartbeats 800000 in
theorem bytes_any (g : Nat) (S : List UInt64) (tail : List Value) (T : TypeId) (n : Nat) (w : World) (hS : S.length = 25) (hn : n ≤ 200) (hg : Has w g (ws S ++ tail) T) :
    Calls Try.prog 58 #[.pointer (some ⟨g, 0, none⟩), .int .i64 (n : Int)] w fun e w' => e = .returned (.slice (some ⟨w.heap.size, 0, none⟩) n n) ∧ Has w' w.heap.size (bs (toB S n)) 5 ∧ Fr Nob w w' ∧ w'.heap.size = w.heap.size + 1 := by
  go_enter Try.func58, Try.ntmps58
  go_wp2_with (at_make; refine wl_make rfl rfl Try.underlying22 info_u8 rfl rfl rfl n n rfl rfl (by omega) (by omega) (by unfold maxLen; omega) ?_; intro w1 hw1 hf1 hz1)
  have hgl := hg.lt
  go_loopw [11] (fun i wr => ∃ k : Nat, k ≤ n ∧ i = .int .i64 k ∧ Has wr w.heap.size (bs (fill (toB S n) (List.replicate n 0) k)) 5 ∧ Has wr g (ws S ++ tail) T ∧ Fr Nob w wr ∧ wr.heap.size = w.heap.size + 1) (fun i _ => (n - intOf i).toNat)
  case atStart =>
    refine ⟨0, by omega, rfl, ?_, hg.keep hf1 id, hf1, hz1⟩
    rw [fill_zero]; simpa [bs] using hw1
  case round =>
    obtain ⟨k, hk, rfl, hh, hg2, hf, hz⟩ := hrel
    by_cases hlt : k < n
    · obtain ⟨v0, hc0, hfr0⟩ := hh.ready (i := k) (by rw [length_bs, fill_length _ _ _ (by simp [toB_len])]; simpa using hlt)
      have hi8 : k / 8 < (ws S).length := by rw [length_ws, hS]; omega
      have hc : wr.cell? ⟨g, k / 8, none⟩ = some (.int .u64 ((S.getD (k / 8) 0).toNat : Int)) := hg2.cell (by rw [List.getElem?_append_left hi8]; exact ws_get _ _ (by rw [hS]; omega))
      have hlo : (0 : Int) ≤ (k : Int) / 8 ∧ (k : Int) / 8 < 25 := by omega
      generalize hy : S.getD (k / 8) 0 = y at hc
      have HY := Lib.hid hy; clear hy
      have HS := Lib.hid hS; clear hS hi8
      have HZ := Lib.hid hz; clear hz hz1 hw1
      go_wp2
      go_roundw
      case rel =>
        have e : (toB S n).getD k 0 = lo8 (shr y (8 * (k % 8))) := by rw [toB_at S n k hlt, sByte, HY.out]
        refine ⟨k + 1, by omega, by go_num, ?_, hg2.other _ _ _ (by omega), hf.setCell _ _ _ _ (fun h => absurd h (Nat.lt_irrefl _)), by have := HZ.out; simpa [World.setCell] using this⟩
        rw [← e]
        exact hh.fillB (by simp [toB_len]) (by simpa [toB_len] using hlt)
      case measure => simp [intOf]; omega
    · go_wp2
      go_ret
      obtain rfl : k = n := by omega
      rw [fill_all _ _ _ (by simp [toB_len]) (by simp [toB_len])] at hh
      exact ⟨rfl, hh, hf, hz⟩
end Go.Proofs.Ytdadnajbdnbbdaa

/- the permutation of the program -/
namespace Go.Proofs.Ytdadnajbdnbbdaa
open Go.RowKit Go.Mv Mvp

theorem colP_succ (s : List UInt64) (k : Nat) : colP s (k + 1) = colStep s (colP s k) k := by simp [colP, List.range_succ]
theorem colP_len (s : List UInt64) (k : Nat) : (colP s k).length = 5 := by
  induction k with
  | zero => simp [colP]
  | succ k ih => rw [colP_succ]; simp [colStep, ih]
theorem movP_succ (s c : List UInt64) (t : List Nat) (k : Nat) : movP s c t (k + 1) = movStep s c t (movP s c t k) k := by simp [movP, List.range_succ]
theorem movP_len (s c : List UInt64) (t : List Nat) (k : Nat) : (movP s c t k).length = 25 := by
  induction k with
  | zero => simp [movP]
  | succ k ih => rw [movP_succ]; simp [movStep, ih]

theorem zero_a25i : (Try.prog.info? 118).map (·.zero) = some (some (.agg (is (List.replicate 25 0)).toArray)) := by kernel_rfl
theorem zero_state : (Try.prog.info? 106).map (·.zero) = some (some (.agg (ws (List.replicate 25 0)).toArray)) := by kernel_rfl
theorem zero_a5 : (Try.prog.info? 120).map (·.zero) = some (some (.agg (ws (List.replicate 5 0)).toArray)) := by kernel_rfl

theorem size_u64w : (Try.prog.info? 93).map (·.size) = some 1 := by kernel_rfl
theorem permP_zero (t : List Nat) (rc : Nat → UInt64) (s : List UInt64) : permP t rc s 0 = s := by simp [permP]

theorem chiP_zero (m s : List UInt64) : chiP m s 0 = s := by simp [chiP]
theorem chiP_succ (m s : List UInt64) (k : Nat) : chiP m s (k + 1) = chiRow m (chiP m s k) (5 * k) 5 := by simp [chiP, List.range_succ]
theorem chiRow_zero (m s : List UInt64) (y : Nat) : chiRow m s y 0 = s := by simp [chiRow]
theorem chiRow_succ (m s : List UInt64) (y k : Nat) : chiRow m s y (k + 1) = chiStep m y (chiRow m s y k) k := by simp [chiRow, List.range_succ]
theorem chiRow_len (m s : List UInt64) (y k : Nat) : (chiRow m s y k).length = s.length := by
  induction k with
  | zero => simp [chiRow]
  | succ k ih => rw [chiRow_succ]; simp [chiStep, ih]
theorem turns_lt (k : Nat) : (turnsK 24).getD k 0 < 64 := by
  have h : ∀ k, k < 25 → (turnsK 24).getD k 0 < 64 := by decide +kernel
  rcases Nat.lt_or_ge k 25 with hk | hk
  · exact h k hk
  · rw [List.getD_eq_getElem?_getD, List.getElem?_eq_none (by rw [turnsK_len]; exact hk)]; simp
theorem goesTo_lt (k : Nat) (hk : k < 25) : goesTo k < 25 := by
  have h : ∀ k, k < 25 → goesTo k < 25 := by decide +kernel
  exact h k hk

theorem goesTo_same (k : Nat) (w : World) (hk : k ≤ 25) : Calls Try.prog 64 #[.int .i64 (k : Int)] w fun e w' => e = .returned (.int .i64 ((goesTo k : Nat) : Int)) ∧ w' = w :=
  (goesTo_any k w (by omega)).mono (fun _ _ h => ⟨h.1, h.2.symm⟩)
theorem rot_same (x : UInt64) (n : Nat) (hn : n < 64) (w : World) : Calls Try.prog 63 #[.int .u64 (x.toNat : Int), .int .i64 (n : Int)] w fun e w' => e = .returned (.int .u64 ((rotl x n).toNat : Int)) ∧ w' = w :=
  (rot_any x n hn w).mono (fun _ _ h => ⟨h.1, h.2.symm⟩)
theorem constP_same (r : Nat) (hr : r < 24) (w : World) : Calls Try.prog 65 #[.int .i64 (r : Int)] w fun e w' => e = .returned (.int .u64 ((rcP r 8).toNat : Int)) ∧ w' = w :=
  (constP_any r hr w).mono (fun _ _ h => ⟨h.1, h.2.symm⟩)
theorem rot1_any (x : UInt64) (w : World) : Calls Try.prog 63 #[.int .u64 (x.toNat : Int), .int .i64 1] w fun e w' => e = .returned (.int .u64 ((rotl x 1).toNat : Int)) ∧ w' = w :=
  (rot_any x 1 (by omega) w).mono (fun _ _ h => ⟨h.1, h.2.symm⟩)

set_option maxHeartbeats 4000000 in
set_option maxRecDepth 1000000 in
theorem permute_any (g : Nat) (S : List UInt64) (tail : List Value) (T : TypeId) (w : World) (hS : S.length = 25) (hg : Has w g (ws S ++ tail) T) :
    Calls Try.prog 57 #[.pointer (some ⟨g, 0, none⟩)] w fun e w' => e = .returned (.tuple #[]) ∧ Has w' g (ws (permP (turnsK 24) (fun r => rcP r 8) S 24) ++ tail) T ∧ Fr (One g) w w' := by
  go_enter Try.func57, Try.ntmps57
  go_wp2_with (first
    | (go_at_call 62; refine (turns_any _).mono ?_; rintro e w1 ⟨rfl, hf1⟩)
    | (with_reducible refine wl_stop (o := ⟨_, .alloc 118, _, _, _, _⟩) ?_))
  have hgl := hg.lt
  refine wl_alloc rfl rfl zero_a25i (is (List.replicate 25 0)) (by simp [Value.cells]) ?_
  intro w2 hb2 hf2 hz2
  have hg2 := (hg.keep hf1 id).keep hf2 id
  have hgs := hf1.size
  generalize hbt : w1.heap.size = bt at *
  go_wp2_with (with_reducible refine wl_stop (o := ⟨none, .store 118 _ _, _, _, _, _⟩) ?_)
  refine wl_storeA rfl rfl rfl rfl hb2 (by simp [length_is, turnsK_len]) (by rw [length_is, turnsK_len]; exact size_a25i) ?_ ?_
  · intro v hv; simp [is] at hv; obtain ⟨x, _, rfl⟩ := hv; rfl
  intro w3 hb3 hf3 hz3
  rw [splice_whole _ _ (by simp [length_is, turnsK_len])] at hb3
  have hg3 := hg2.keep hf3 (fun (h : g = bt) => by omega)
  have hfr : Fr (One g) w w3 := ((Fr.refl (One g) w).same hf1).same hf2 |>.new hf3 (by omega)
  clear hb2 hg2 hf1 hf2 hf3 hg
  go_wp2_with fail
  go_loopw [15] (fun i wr => ∃ r : Nat, r ≤ 24 ∧ i = .int .i64 r ∧ Has wr g (ws (permP (turnsK 24) (fun r => rcP r 8) S r) ++ tail) T ∧ Has wr bt (is (turnsK 24)) 118 ∧ Fr (One g) w wr) (fun i _ => (24 - intOf i).toNat)
  case atStart => exact ⟨0, by omega, rfl, by rw [permP_zero]; exact hg3, hb3, hfr⟩
  case round =>
    obtain ⟨r, hr, rfl, hgr, hbr, hf⟩ := hrel
    clear hg3 hb3 hfr
    by_cases hlt : r < 24
    · have hltI : (r : Int) < 24 := by omega
      have hpl := permP_len (turnsK 24) (fun r => rcP r 8) S r
      rw [hS] at hpl
      generalize hrs : permP (turnsK 24) (fun r => rcP r 8) S r = s at *
      have HR := Lib.hid hrs; clear hrs
      go_wp2_with (with_reducible refine wl_stop (o := ⟨_, .alloc 120, _, _, _, _⟩) ?_)
      refine wl_alloc rfl rfl zero_a5 (ws (List.replicate 5 0)) (by simp [Value.cells]) ?_
      intro w4 hc4 hf4 hz4
      have hg4 := hgr.keep hf4 id
      have hb4 := hbr.keep hf4 id
      have hfr4 := hf.same hf4
      have hgc := hgr.lt
      have hbc := hbr.lt
      have hwc := hf.size
      generalize wr.heap.size = gc at *
      clear hgr hbr hf hf4 hz4
      go_wp2_with fail
      go_loopw [19] (fun i wr => ∃ k : Nat, k ≤ 25 ∧ i = .int .i64 k ∧ Has wr gc (ws (colP s k)) 120 ∧ Has wr g (ws s ++ tail) T ∧ Has wr bt (is (turnsK 24)) 118 ∧ Fr (One g) w wr) (fun i _ => (25 - intOf i).toNat)
      case atStart => exact ⟨0, by omega, rfl, hc4, hg4, hb4, hfr4⟩
      case round =>
        obtain ⟨k, hk, rfl, hck, hgk, hbk, hf⟩ := hrel
        clear hc4 hg4 hb4 hfr4
        by_cases hlt2 : k < 25
        · have hs : wr.cell? ⟨g, k, none⟩ = some (.int .u64 ((s.getD k 0).toNat : Int)) := hgk.cell (by rw [List.getElem?_append_left (by rw [length_ws, hpl]; exact hlt2)]; exact ws_get _ _ (by rw [hpl]; exact hlt2))
          have hc : wr.cell? ⟨gc, k % 5, none⟩ = some (.int .u64 (((colP s k).getD (k % 5) 0).toNat : Int)) := hck.cell (ws_get _ _ (by rw [colP_len]; omega))
          have hfc : wr.frozen? ⟨gc, k % 5, none⟩ = false := hck.free _ (by rw [length_ws, colP_len]; omega)
          have hlo : (0 : Int) ≤ (k : Int) ∧ (k : Int) < 25 ∧ (0 : Int) ≤ (k : Int) % 5 ∧ (k : Int) % 5 < 5 := by omega
          generalize hx : s.getD k 0 = x at hs
          generalize hy : (colP s k).getD (k % 5) 0 = y at hc
          have HX := Lib.hid hx; clear hx
          have HY := Lib.hid hy; clear hy
          have HS := Lib.hid hpl; clear hpl
          have HS2 := Lib.hid hS; clear hS
          go_wp2
          go_region
          all_goals go_wp2
          go_roundw
          case rel =>
            have e : colP s (k + 1) = (colP s k).set (k % 5) (wx y x) := by rw [colP_succ, colStep, HX.out, HY.out]; rfl
            refine ⟨k + 1, by omega, by go_num, ?_, (hgk.other _ _ _ (by omega)).drew, (hbk.other _ _ _ (by omega)).drew, (hf.setCell _ _ _ _ (fun h => by omega)).drew⟩
            rw [e, ← ws_set]
            exact (hck.set _ _).drew
          case measure => simp [intOf]; omega
        · have hk25 : k = 25 := by omega
          subst hk25
          go_wp2_with (with_reducible refine wl_stop (o := ⟨_, .alloc 106, _, _, _, _⟩) ?_)
          refine wl_alloc rfl rfl zero_state (ws (List.replicate 25 0)) (by simp [Value.cells]) ?_
          intro w5 hm5 hf5 hz5
          have hc5 := hck.keep hf5 id
          have hg5 := hgk.keep hf5 id
          have hb5 := hbk.keep hf5 id
          have hfr5 := hf.same hf5
          have hcm := hck.lt
          have hgm := hgk.lt
          have hbm := hbk.lt
          have hwm := hf.size
          generalize wr.heap.size = gm at *
          generalize hcol : colP s 25 = col at *
          clear hck hgk hbk hf hf5 hz5
          have hcl : col.length = 5 := by rw [← hcol, colP_len]
          have HC := Lib.hid hcol; clear hcol
          have HCL := Lib.hid hcl; clear hcl
          go_wp2_with fail
          go_loopw [34] (fun i wr => ∃ k : Nat, k ≤ 25 ∧ i = .int .i64 k ∧ Has wr gm (ws (movP s col (turnsK 24) k)) 106 ∧ Has wr gc (ws col) 120 ∧ Has wr g (ws s ++ tail) T ∧ Has wr bt (is (turnsK 24)) 118 ∧ Fr (One g) w wr) (fun i _ => (25 - intOf i).toNat)
          case atStart => exact ⟨0, by omega, rfl, hm5, hc5, hg5, hb5, hfr5⟩
          case round =>
            obtain ⟨k, hk, rfl, hmk, hck, hgk, hbk, hf⟩ := hrel
            clear hm5 hc5 hg5 hb5 hfr5
            by_cases hlt3 : k < 25
            · have hs : wr.cell? ⟨g, k, none⟩ = some (.int .u64 ((s.getD k 0).toNat : Int)) := hgk.cell (by rw [List.getElem?_append_left (by rw [length_ws, hpl]; exact hlt3)]; exact ws_get _ _ (by rw [hpl]; exact hlt3))
              have hc4 : wr.cell? ⟨gc, (k + 4) % 5, none⟩ = some (.int .u64 ((col.getD ((k + 4) % 5) 0).toNat : Int)) := hck.cell (ws_get _ _ (by rw [HCL.out]; omega))
              have hc1 : wr.cell? ⟨gc, (k + 1) % 5, none⟩ = some (.int .u64 ((col.getD ((k + 1) % 5) 0).toNat : Int)) := hck.cell (ws_get _ _ (by rw [HCL.out]; omega))
              have hby : wr.cell? ⟨bt, k, none⟩ = some (.int .i64 (((turnsK 24).getD k 0 : Nat) : Int)) := hbk.cell (is_get _ _ (by rw [turnsK_len]; exact hlt3))
              have hbl : (turnsK 24).getD k 0 < 64 := turns_lt k
              have hgt : goesTo k < 25 := goesTo_lt k hlt3
              obtain ⟨v0, hcm0, hfm0⟩ := hmk.ready (i := goesTo k) (by rw [length_ws, movP_len]; exact hgt)
              have hlo : (0 : Int) ≤ (k : Int) ∧ (k : Int) < 25 ∧ (0 : Int) ≤ ((k : Int) + 4) % 5 ∧ ((k : Int) + 4) % 5 < 5 ∧ (0 : Int) ≤ ((k : Int) + 1) % 5 ∧ ((k : Int) + 1) % 5 < 5 := by omega
              generalize hx : s.getD k 0 = x at hs
              generalize hy4 : col.getD ((k + 4) % 5) 0 = y4 at hc4
              generalize hy1 : col.getD ((k + 1) % 5) 0 = y1 at hc1
              generalize hn : (turnsK 24).getD k 0 = n at hby hbl
              have HX := Lib.hid hx; clear hx
              have HY4 := Lib.hid hy4; clear hy4
              have HY1 := Lib.hid hy1; clear hy1
              have HN := Lib.hid hn; clear hn
              have HS := Lib.hid hpl; clear hpl
              have HS2 := Lib.hid hS; clear hS
              go_wp2
              go_region
              all_goals go_wp2
              have e1 : IntKind.i64.wrap ((k : Int) + 4) = (k : Int) + 4 := IntWalk.i64_in _ (by omega)
              have e2 : ((k : Int) + 4).tmod 5 = ((k : Int) + 4) % 5 := Int.tmod_eq_emod_of_nonneg (by omega)
              have e3 : (((k : Int) + 4) % 5).toNat = (k + 4) % 5 := by omega
              have e4 : IntKind.i64.wrap ((k : Int) + 1) = (k : Int) + 1 := IntWalk.i64_in _ (by omega)
              have e5 : ((k : Int) + 1).tmod 5 = ((k : Int) + 1) % 5 := Int.tmod_eq_emod_of_nonneg (by omega)
              have e6 : (((k : Int) + 1) % 5).toNat = (k + 1) % 5 := by omega
              go_quiet ((go_at_call 63; exact quiet_more (rot1_any _ _)))
              clear e1 e2 e3 e4 e5 e6
              go_wp2_with fail
              have HG := Lib.hid hgt; clear hgt
              have hgi : (0 : Int) ≤ (goesTo k : Int) ∧ (goesTo k : Int) < 25 := by have := HG.out; omega
              have hmz := hmk.drew.drewN nq
              have hcz := hck.drew.drewN nq
              have hgz := hgk.drew.drewN nq
              have hbz := hbk.drew.drewN nq
              have hfz := hf.drew.drewN nq
              have hbyz : (wr.drew.drewN nq).cell? ⟨bt, k, none⟩ = some (.int .i64 (n : Int)) := hby
              have hmcz : (wr.drew.drewN nq).cell? ⟨gm, goesTo k, none⟩ = some v0 := hcm0
              have hmfz : (wr.drew.drewN nq).frozen? ⟨gm, goesTo k, none⟩ = false := hfm0
              clear hmk hck hgk hbk hf hby hcm0 hfm0 hs hc4 hc1
              generalize wr.drew.drewN nq = wz at *
              clear wr
              refine wp_region_still_tail 8 (by kernel_rfl) (by kernel_rfl) ?_
              simp only [List.take_succ_cons, List.take_zero, List.drop_succ_cons, List.drop_zero]
              repeat still_step
              still_call (goesTo_same k _ hk)
              repeat still_step
              still_call (rot_same _ n hbl _)
              repeat still_step
              refine wpStill_nil ?_
              go_wp2
              go_roundw
              case rel =>
                have e : movP s col (turnsK 24) (k + 1) = (movP s col (turnsK 24) k).set (goesTo k) (rotl (wx x (wx y4 (rotl y1 1))) n) := by
                  rw [movP_succ, movStep, HX.out, HY4.out, HY1.out, HN.out]; rfl
                refine ⟨k + 1, by omega, by go_num, ?_, (hcz.other _ _ _ (by omega)).drew, (hgz.other _ _ _ (by omega)).drew, (hbz.other _ _ _ (by omega)).drew, (hfz.setCell _ _ _ _ (fun h => by omega)).drew⟩
                rw [e, ← ws_set]
                exact (hmz.set _ _).drew
              case measure => simp [intOf]; omega
            · obtain rfl : k = 25 := by omega
              have hml := movP_len s col (turnsK 24) 25
              have hmw : movP s col (turnsK 24) 25 = movP s (colP s 25) (turnsK 24) 25 := by rw [HC.out]
              generalize hmv : movP s col (turnsK 24) 25 = mv at *
              have HM := Lib.hid hmw; clear hmw hmv
              have HML := Lib.hid hml; clear hml
              have HPL := Lib.hid hpl; clear hpl
              have HS2 := Lib.hid hS; clear hS
              clear hck
              go_wp2_with fail
              go_loopw [10] (fun i wr => ∃ j : Nat, j ≤ 5 ∧ i = .int .i64 ((5 * j : Nat) : Int) ∧ Has wr gm (ws mv) 106 ∧ Has wr g (ws (chiP mv s j) ++ tail) T ∧ Has wr bt (is (turnsK 24)) 118 ∧ Fr (One g) w wr) (fun i _ => (25 - intOf i).toNat)
              case atStart => exact ⟨0, by omega, rfl, hmk, by rw [chiP_zero]; exact hgk, hbk, hf⟩
              case round =>
                obtain ⟨j, hj, rfl, hmj, hgj, hbj, hfj⟩ := hrel
                clear hmk hgk hbk hf
                by_cases hlt4 : j < 5
                · have hlo : (0 : Int) ≤ 5 * (j : Int) ∧ 5 * (j : Int) < 25 ∧ 5 * (j : Int) ≤ 20 := by omega
                  obtain ⟨wo, rfl⟩ : ∃ wo : World, wo = wr := ⟨_, rfl⟩
                  go_wp2_with (with_reducible refine wl_stop (o := ⟨some 72, _, _, _, _, _⟩) ?_)
                  refine wl_cutA rfl rfl Try.underlying106 size_u64w rfl rfl rfl rfl (5 * j) (5 * j + 5) (5 * j + 5) (by simp) (by simp) (by simp) (by omega) (by omega) (by omega) (by omega) ?_
                  have e5 : 5 * j + 5 - 5 * j = 5 := by omega
                  rw [e5]
                  clear e5
                  go_wp2_with fail
                  go_loopw [75] (fun i wr => ∃ x : Nat, x ≤ 5 ∧ i = .int .i64 x ∧ Has wr gm (ws mv) 106 ∧ Has wr g (ws (chiRow mv (chiP mv s j) (5 * j) x) ++ tail) T ∧ Has wr bt (is (turnsK 24)) 118 ∧ Fr (One g) w wr) (fun i _ => (5 - intOf i).toNat)
                  case atStart => exact ⟨0, by omega, rfl, hmj, by rw [chiRow_zero]; exact hgj, hbj, hfj⟩
                  case round =>
                    obtain ⟨x, hx, rfl, hmx, hgx, hbx, hfx⟩ := hrel
                    clear hmj hgj hbj hfj
                    by_cases hlt5 : x < 5
                    · have hml : mv.length = 25 := HML.out
                      have hsl : (chiRow mv (chiP mv s j) (5 * j) x).length = 25 := by rw [chiRow_len, chiP_len]; exact HPL.out
                      have hx0 : wr.cell? ⟨gm, 5 * j + x, none⟩ = some (.int .u64 ((mv.getD (5 * j + x) 0).toNat : Int)) := hmx.cell (ws_get _ _ (by omega))
                      have hx1 : wr.cell? ⟨gm, 5 * j + (x + 1) % 5, none⟩ = some (.int .u64 ((mv.getD (5 * j + (x + 1) % 5) 0).toNat : Int)) := hmx.cell (ws_get _ _ (by omega))
                      have hx2 : wr.cell? ⟨gm, 5 * j + (x + 2) % 5, none⟩ = some (.int .u64 ((mv.getD (5 * j + (x + 2) % 5) 0).toNat : Int)) := hmx.cell (ws_get _ _ (by omega))
                      obtain ⟨v0, hc0, hf0⟩ := hgx.ready (i := 5 * j + x) (by rw [List.length_append, length_ws, hsl]; omega)
                      have hlo5 : (0 : Int) ≤ (x : Int) ∧ (x : Int) < 5 ∧ (0 : Int) ≤ ((x : Int) + 1) % 5 ∧ ((x : Int) + 1) % 5 < 5 ∧ (0 : Int) ≤ ((x : Int) + 2) % 5 ∧ ((x : Int) + 2) % 5 < 5 := by omega
                      have hlo6 : (0 : Int) ≤ 5 * (j : Int) + (x : Int) ∧ 5 * (j : Int) + (x : Int) < 25 := by omega
                      generalize hy0 : mv.getD (5 * j + x) 0 = y0 at hx0
                      generalize hy1 : mv.getD (5 * j + (x + 1) % 5) 0 = y1 at hx1
                      generalize hy2 : mv.getD (5 * j + (x + 2) % 5) 0 = y2 at hx2
                      have HY0 := Lib.hid hy0; clear hy0
                      have HY1 := Lib.hid hy1; clear hy1
                      have HY2 := Lib.hid hy2; clear hy2
                      have HSL := Lib.hid hsl; clear hsl hml
                      go_wp2_with fail
                      have e1 : IntKind.i64.wrap ((x : Int) + 1) = (x : Int) + 1 := IntWalk.i64_in _ (by omega)
                      have e2 : ((x : Int) + 1).tmod 5 = ((x : Int) + 1) % 5 := Int.tmod_eq_emod_of_nonneg (by omega)
                      have e3 : (((x : Int) + 1) % 5).toNat = (x + 1) % 5 := by omega
                      have e4 : IntKind.i64.wrap ((x : Int) + 2) = (x : Int) + 2 := IntWalk.i64_in _ (by omega)
                      have e5 : ((x : Int) + 2).tmod 5 = ((x : Int) + 2) % 5 := Int.tmod_eq_emod_of_nonneg (by omega)
                      have e6 : (((x : Int) + 2) % 5).toNat = (x + 2) % 5 := by omega
                      have e7 : IntKind.i64.wrap (5 * (j : Int) + (x : Int)) = 5 * (j : Int) + (x : Int) := IntWalk.i64_in _ (by omega)
                      have e8 : (5 * (j : Int) + (x : Int)).toNat = 5 * j + x := by omega
                      refine wp_region_still_tail 22 (by kernel_rfl) (by kernel_rfl) ?_
                      simp only [List.take_succ_cons, List.take_zero, List.drop_succ_cons, List.drop_zero]
                      repeat still_step
                      refine wpStill_nil ?_
                      go_wp2
                      go_roundw
                      case rel =>
                        have e : chiRow mv (chiP mv s j) (5 * j) (x + 1) = (chiRow mv (chiP mv s j) (5 * j) x).set (5 * j + x) (wx y0 (wa (wn y1) y2)) := by
                          rw [chiRow_succ, chiStep, HY0.out, HY1.out, HY2.out]; rfl
                        refine ⟨x + 1, by omega, by go_num, (hmx.other _ _ _ (by omega)).drew, ?_, (hbx.other _ _ _ (by omega)).drew, (hfx.setCell _ _ _ _ (fun _ => rfl)).drew⟩
                        rw [e, ← ws_set, ← List.set_append_left _ _ (by rw [length_ws, HSL.out]; omega)]
                        exact (hgx.set _ _).drew
                      case measure => simp [intOf]; omega
                    · have hge : ¬ ((x : Int) < 5) := by omega
                      have hx5 : x = 5 := by omega
                      have HX5 := Lib.hid hx5; clear hx5
                      go_wp2_with fail
                      go_roundw
                      case rel => exact ⟨j + 1, by omega, by omega, by rw [chiP_succ]; rw [HX5.out] at hgx; exact hgx⟩
                      case measure => simp [intOf]; omega
                · have hge : ¬ (5 * (j : Int) < 25) := by omega
                  have hj5 : j = 5 := by omega
                  have HJ5 := Lib.hid hj5; clear hj5
                  have hsl : (chiP mv s j).length = 25 := by rw [chiP_len]; exact HPL.out
                  have hc0 : wr.cell? ⟨g, 0, none⟩ = some (.int .u64 (((chiP mv s j).getD 0 0).toNat : Int)) := hgj.cell (by rw [List.getElem?_append_left (by rw [length_ws, hsl]; omega)]; exact ws_get _ _ (by rw [hsl]; omega))
                  have hf0 : wr.frozen? ⟨g, 0, none⟩ = false := hgj.free _ (by rw [List.length_append, length_ws, hsl]; omega)
                  generalize hy : (chiP mv s j).getD 0 0 = y at hc0
                  have HY := Lib.hid hy; clear hy
                  have HSL := Lib.hid hsl; clear hsl
                  go_wp2_with fail
                  refine wp_region_still_tail 9 (by kernel_rfl) (by kernel_rfl) ?_
                  simp only [List.take_succ_cons, List.take_zero, List.drop_succ_cons, List.drop_zero]
                  repeat still_step
                  still_call (constP_same r hlt _)
                  repeat still_step
                  refine wpStill_nil ?_
                  go_wp2
                  go_roundw
                  case rel =>
                    have e : permP (turnsK 24) (fun r => rcP r 8) S (r + 1) = (chiP mv s j).set 0 (wx y (rcP r 8)) := by
                      rw [permP_succ, HR.out, roundP, ← HM.out, ← HJ5.out, HY.out]; rfl
                    refine ⟨r + 1, by omega, by go_num, ?_, (hbj.other _ _ _ (by omega)).drew, (hfj.setCell _ _ _ _ (fun _ => rfl)).drew⟩
                    rw [e, ← ws_set, ← List.set_append_left _ _ (by rw [length_ws, HSL.out]; omega)]
                    exact (hgj.set _ _).drew
                  case measure => simp [intOf]; omega
    · obtain rfl : r = 24 := by omega
      go_wp2_with fail
      go_end0
      exact ⟨rfl, hgr, hf⟩
end Go.Proofs.Ytdadnajbdnbbdaa
