/- Pure sponge: what the program's and the reference's permutation compute, and that the two are one. -/
import Derived.KernelRfl
import Derived.Test.YtgkakddldobpkaaPlain
namespace Mvp


def goesTo (i : Nat) : Nat := i / 5 + 5 * ((2 * (i % 5) + 3 * (i / 5)) % 5)

/- the program -/
def colStep (s c : List UInt64) (i : Nat) : List UInt64 := c.set (i % 5) (c.getD (i % 5) 0 ^^^ s.getD i 0)
def colP (s : List UInt64) (k : Nat) : List UInt64 := (List.range k).foldl (colStep s) [0, 0, 0, 0, 0]
def movStep (s col : List UInt64) (by_ : List Nat) (m : List UInt64) (i : Nat) : List UInt64 :=
  m.set (goesTo i) (rotl (s.getD i 0 ^^^ (col.getD ((i + 4) % 5) 0 ^^^ rotl (col.getD ((i + 1) % 5) 0) 1)) (by_.getD i 0))
def movP (s col : List UInt64) (by_ : List Nat) (k : Nat) : List UInt64 := (List.range k).foldl (movStep s col by_) (List.replicate 25 0)
def chiStep (m : List UInt64) (y : Nat) (s : List UInt64) (x : Nat) : List UInt64 :=
  s.set (y + x) (m.getD (y + x) 0 ^^^ (~~~ (m.getD (y + (x + 1) % 5) 0) &&& m.getD (y + (x + 2) % 5) 0))
def chiRow (m s : List UInt64) (y k : Nat) : List UInt64 := (List.range k).foldl (chiStep m y) s
def chiP (m s : List UInt64) (k : Nat) : List UInt64 := (List.range k).foldl (fun s y => chiRow m s (5 * y) 5) s
def roundP (by_ : List Nat) (s : List UInt64) (c : UInt64) : List UInt64 :=
  let t := chiP (movP s (colP s 25) by_ 25) s 5
  t.set 0 (t.getD 0 0 ^^^ c)
def permP (by_ : List Nat) (rc : Nat → UInt64) (s : List UInt64) (k : Nat) : List UInt64 := (List.range k).foldl (fun s r => roundP by_ s (rc r)) s

/- the reference -/
def place (x y : Nat) : Nat := x % 5 + 5 * (y % 5)
def colRstep (s : List UInt64) (x : Nat) (c : List UInt64) (y : Nat) : List UInt64 := c.set x (c.getD x 0 ^^^ s.getD (place x y) 0)
def colRrow (s c : List UInt64) (x k : Nat) : List UInt64 := (List.range k).foldl (colRstep s x) c
def colR (s : List UInt64) (k : Nat) : List UInt64 := (List.range k).foldl (fun c x => colRrow s c x 5) [0, 0, 0, 0, 0]
def movRstep (s : List UInt64) (turn : List Nat) (x : Nat) (d : UInt64) (m : List UInt64) (y : Nat) : List UInt64 :=
  m.set (place y (2 * x + 3 * y)) (rotl (s.getD (place x y) 0 ^^^ d) (turn.getD (place x y) 0))
def movRrow (s : List UInt64) (turn : List Nat) (m : List UInt64) (x : Nat) (d : UInt64) (k : Nat) : List UInt64 := (List.range k).foldl (movRstep s turn x d) m
def dR (col : List UInt64) (x : Nat) : UInt64 := col.getD ((x + 4) % 5) 0 ^^^ rotl (col.getD ((x + 1) % 5) 0) 1
def movR (s : List UInt64) (turn : List Nat) (col : List UInt64) (k : Nat) : List UInt64 := (List.range k).foldl (fun m x => movRrow s turn m x (dR col x) 5) (List.replicate 25 0)
def chiRstep (m : List UInt64) (x : Nat) (o : List UInt64) (y : Nat) : List UInt64 :=
  o.set (place x y) (m.getD (place x y) 0 ^^^ (~~~ (m.getD (place (x + 1) y) 0) &&& m.getD (place (x + 2) y) 0))
def chiRrow (m o : List UInt64) (x k : Nat) : List UInt64 := (List.range k).foldl (chiRstep m x) o
def chiR (m : List UInt64) (k : Nat) : List UInt64 := (List.range k).foldl (fun o x => chiRrow m o x 5) (List.replicate 25 0)
def roundR (turn : List Nat) (s : List UInt64) (c : UInt64) : List UInt64 :=
  let t := chiR (movR s turn (colR s 5) 5) 5
  t.set 0 (t.getD 0 0 ^^^ c)
def permR (turn : List Nat) (rc : Nat → UInt64) (s : List UInt64) (k : Nat) : List UInt64 := (List.range k).foldl (fun s r => roundR turn s (rc r)) s

theorem len25 (s : List UInt64) (h : s.length = 25) : ∃ a0 a1 a2 a3 a4 a5 a6 a7 a8 a9 a10 a11 a12 a13 a14 a15 a16 a17 a18 a19 a20 a21 a22 a23 a24, s = [a0, a1, a2, a3, a4, a5, a6, a7, a8, a9, a10, a11, a12, a13, a14, a15, a16, a17, a18, a19, a20, a21, a22, a23, a24] := by
  match s, h with
  | [a0, a1, a2, a3, a4, a5, a6, a7, a8, a9, a10, a11, a12, a13, a14, a15, a16, a17, a18, a19, a20, a21, a22, a23, a24], _ => exact ⟨_, _, _, _, _, _, _, _, _, _, _, _, _, _, _, _, _, _, _, _, _, _, _, _, _, rfl⟩

theorem col_same (s : List UInt64) (h : s.length = 25) : colP s 25 = colR s 5 := by
  obtain ⟨a0, a1, a2, a3, a4, a5, a6, a7, a8, a9, a10, a11, a12, a13, a14, a15, a16, a17, a18, a19, a20, a21, a22, a23, a24, rfl⟩ := len25 s h
  kernel_rfl

theorem mov_same (s col : List UInt64) (t : List Nat) : movP s col t 25 = movR s t col 5 := by
  kernel_rfl

theorem chi_same (m s : List UInt64) (h : s.length = 25) : chiP m s 5 = chiR m 5 := by
  obtain ⟨a0, a1, a2, a3, a4, a5, a6, a7, a8, a9, a10, a11, a12, a13, a14, a15, a16, a17, a18, a19, a20, a21, a22, a23, a24, rfl⟩ := len25 s h
  kernel_rfl

theorem round_same (t : List Nat) (s : List UInt64) (c : UInt64) (h : s.length = 25) : roundP t s c = roundR t s c := by
  unfold roundP roundR
  rw [col_same s h, mov_same, chi_same _ s h]

theorem foldl_inv {α β : Type} (P : α → Prop) (f : α → β → α) (hf : ∀ a b, P a → P (f a b)) (l : List β) : ∀ a, P a → P (l.foldl f a) := by
  induction l with
  | nil => intro a h; exact h
  | cons b l ih => intro a h; exact ih _ (hf _ _ h)

theorem chiP_len (m s : List UInt64) (k : Nat) : (chiP m s k).length = s.length := by
  refine foldl_inv (fun l : List UInt64 => l.length = s.length) _ (fun a y h => ?_) _ _ rfl
  refine foldl_inv (fun l : List UInt64 => l.length = s.length) _ (fun b x h => ?_) _ _ h
  simp [chiStep, h]

theorem roundP_len (t : List Nat) (s : List UInt64) (c : UInt64) : (roundP t s c).length = s.length := by simp [roundP, chiP_len]

theorem permP_succ (t : List Nat) (rc : Nat → UInt64) (s : List UInt64) (k : Nat) : permP t rc s (k + 1) = roundP t (permP t rc s k) (rc k) := by
  simp [permP, List.range_succ]
theorem permR_succ (t : List Nat) (rc : Nat → UInt64) (s : List UInt64) (k : Nat) : permR t rc s (k + 1) = roundR t (permR t rc s k) (rc k) := by
  simp [permR, List.range_succ]
theorem permP_len (t : List Nat) (rc : Nat → UInt64) (s : List UInt64) (k : Nat) : (permP t rc s k).length = s.length := by
  induction k with
  | zero => simp [permP]
  | succ k ih => rw [permP_succ, roundP_len, ih]
theorem perm_same (t : List Nat) (rc rc' : Nat → UInt64) (s : List UInt64) (h : s.length = 25) (n : Nat) (hrc : ∀ r, r < n → rc r = rc' r) : permP t rc s n = permR t rc' s n := by
  induction n with
  | zero => simp [permP, permR]
  | succ k ih =>
    rw [permP_succ, permR_succ, ← ih (fun r hr => hrc r (by omega)), hrc k (by omega)]
    exact round_same _ _ _ (by rw [permP_len, h])

/- the constants of the rounds -/
def lfsr : Nat → Nat
  | 0 => 1
  | n + 1 => if 2 * lfsr n > 255 then (2 * lfsr n) ^^^ 369 else 2 * lfsr n
theorem lfsr_lt (n : Nat) : lfsr n < 256 := by
  have h : ∀ r, r < 256 → (if 2 * r > 255 then (2 * r) ^^^ 369 else 2 * r) < 256 := by decide +kernel
  induction n with
  | zero => decide
  | succ n ih => exact h _ ih
def bitR (t : Nat) : Nat := lfsr t % 2
def bitW (t : Nat) : UInt64 := UInt64.ofNat (bitR t)
def rcStep (r : Nat) (out : UInt64) (j : Nat) : UInt64 := out ||| shl (bitW (j + 7 * r)) (2 ^ j - 1)
def rcR (r k : Nat) : UInt64 := (List.range k).foldl (rcStep r) 0

def rcBytes : List Nat := [
  0, 0, 0, 0, 0, 0, 0, 1, 0, 0, 0, 0, 0, 0, 0x80, 0x82, 0x80, 0, 0, 0, 0, 0, 0x80, 0x8a, 0x80, 0, 0, 0, 0x80, 0, 0x80, 0,
  0, 0, 0, 0, 0, 0, 0x80, 0x8b, 0, 0, 0, 0, 0x80, 0, 0, 1, 0x80, 0, 0, 0, 0x80, 0, 0x80, 0x81, 0x80, 0, 0, 0, 0, 0, 0x80, 9,
  0, 0, 0, 0, 0, 0, 0, 0x8a, 0, 0, 0, 0, 0, 0, 0, 0x88, 0, 0, 0, 0, 0x80, 0, 0x80, 9, 0, 0, 0, 0, 0x80, 0, 0, 0xa,
  0, 0, 0, 0, 0x80, 0, 0x80, 0x8b, 0x80, 0, 0, 0, 0, 0, 0, 0x8b, 0x80, 0, 0, 0, 0, 0, 0x80, 0x89, 0x80, 0, 0, 0, 0, 0, 0x80, 3,
  0x80, 0, 0, 0, 0, 0, 0x80, 2, 0x80, 0, 0, 0, 0, 0, 0, 0x80, 0, 0, 0, 0, 0, 0, 0x80, 0xa, 0x80, 0, 0, 0, 0x80, 0, 0, 0xa,
  0x80, 0, 0, 0, 0x80, 0, 0x80, 0x81, 0x80, 0, 0, 0, 0, 0, 0x80, 0x80, 0, 0, 0, 0, 0x80, 0, 0, 1, 0x80, 0, 0, 0, 0x80, 0, 0x80, 8]
def rcPstep (r : Nat) (c : UInt64) (n : Nat) : UInt64 := shl c 8 ||| (UInt8.ofNat (rcBytes.getD (8 * r + n) 0)).toUInt64
def rcP (r k : Nat) : UInt64 := (List.range k).foldl (rcPstep r) 0

theorem rc_same : ∀ r, r < 24 → rcP r 8 = rcR r 7 := by decide +kernel

/- how far the lanes are turned -/
def xy : Nat → Nat × Nat
  | 0 => (1, 0)
  | t + 1 => ((xy t).2, (2 * (xy t).1 + 3 * (xy t).2) % 5)
def turnStep (l : List Nat) (t : Nat) : List Nat := l.set ((xy t).1 + 5 * (xy t).2) ((t + 1) * (t + 2) / 2 % 64)
def turnsK (k : Nat) : List Nat := (List.range k).foldl turnStep (List.replicate 25 0)
theorem xy_lt (t : Nat) : (xy t).1 < 5 ∧ (xy t).2 < 5 := by
  induction t with
  | zero => decide
  | succ t ih => exact ⟨ih.2, Nat.mod_lt _ (by decide)⟩

/- bytes into words, and back -/
def xorStep (s : List UInt64) (i : Nat) (x : UInt8) : List UInt64 := s.set (i / 8) (wx (s.getD (i / 8) 0) (shl (wid x) (8 * (i % 8))))
/-- the first k bytes of b are added to s -/
def xorB (s : List UInt64) (b : List UInt8) (k : Nat) : List UInt64 := (List.range k).foldl (fun s i => xorStep s i (b.getD i 0)) s
def sByte (s : List UInt64) (i : Nat) : UInt8 := lo8 (shr (s.getD (i / 8) 0) (8 * (i % 8)))
def toB (s : List UInt64) (n : Nat) : List UInt8 := (List.range n).map (sByte s)
theorem xorB_succ (s : List UInt64) (b : List UInt8) (k : Nat) : xorB s b (k + 1) = xorStep (xorB s b k) k (b.getD k 0) := by simp [xorB, List.range_succ]
theorem xorB_len (s : List UInt64) (b : List UInt8) (k : Nat) : (xorB s b k).length = s.length := by
  induction k with
  | zero => simp [xorB]
  | succ k ih => rw [xorB_succ]; simp [xorStep, ih]
theorem toB_len (s : List UInt64) (n : Nat) : (toB s n).length = n := by simp [toB]
end Mvp
