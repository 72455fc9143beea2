/- ; ; ; ; ; ; ; ; ; ; ; ; ; ; ; ; ; . -/
import Derived.Test.YtemcankmggmgoaaGreatDoorMgKeysSetsProof5
import Derived.Test.YtemcankmggmgoaaGreatDoorMgKeysSetsProof2
import Derived.Test.YtemcankmggmgoaaGreatDoorMgKeysSetsProof3
set_option maxHeartbeats 16000000
set_option maxRecDepth 1000000

namespace Mvq
abbrev fP : Nat := 115792089237316195423570985008687907853269984665640564039457584007908834671663
instance : NeZero fP := ⟨by decide⟩
abbrev K := Fin fP
def kc (n : Nat) : K := Fin.ofNat fP n
theorem u0X (a b : Nat) : kc ((a + b) % fP) = kc a + kc b := by
 apply Fin.ext; simp [kc, Fin.ofNat, Fin.val_add]
theorem u0Y (a b : Nat) : kc (a * b % fP) = kc a * kc b := by
 apply Fin.ext; simp [kc, Fin.ofNat, Fin.val_mul]
abbrev Pl := List (Nat × Nat)
def mo (x1 x2 x3 : K) (k : Nat) : K := x1 ^ (k % 1048576) * x2 ^ (k / 1048576 % 1048576) * x3 ^ (k / 1048576 / 1048576)
def o0S (d k : Nat) : Prop := k % 1048576 ≤ d ∧ k / 1048576 % 1048576 ≤ d ∧ k / 1048576 / 1048576 ≤ d
theorem k0T (x : K) (a b : Nat) : x ^ (a + b) = x ^ a * x ^ b := by
 induction b with
 | zero => simp only [Nat.add_zero]; grind -lia -linarith
 | succ b ih => rw [← Nat.add_assoc]; grind -lia -linarith
theorem y0c {d e k l : Nat} (hk : o0S d k) (hl : o0S e l) (h : d + e < 1048576) (x1 x2 x3 : K) : mo x1 x2 x3 (k + l) = mo x1 x2 x3 k * mo x1 x2 x3 l ∧ o0S (d + e) (k + l) := by
 obtain ⟨k1, k2, k3⟩ := hk
 obtain ⟨l1, l2, l3⟩ := hl
 have e1 : (k + l) % 1048576 = k % 1048576 + l % 1048576 := by omega
 have e2 : (k + l) / 1048576 = k / 1048576 + l / 1048576 := by omega
 have e3 : (k / 1048576 + l / 1048576) % 1048576 = k / 1048576 % 1048576 + l / 1048576 % 1048576 := by omega
 have e4 : (k / 1048576 + l / 1048576) / 1048576 = k / 1048576 / 1048576 + l / 1048576 / 1048576 := by omega
 constructor
 ·unfold mo
  rw [e1, e2, e3, e4]
  generalize k % 1048576 = a1; generalize l % 1048576 = b1; generalize k / 1048576 % 1048576 = a2; generalize l / 1048576 % 1048576 = b2; generalize k / 1048576 / 1048576 = a3; generalize l / 1048576 / 1048576 = b3
  rw [k0T, k0T, k0T]
  generalize x1 ^ a1 = u1; generalize x1 ^ b1 = v1; generalize x2 ^ a2 = u2; generalize x2 ^ b2 = v2; generalize x3 ^ a3 = u3; generalize x3 ^ b3 = v3
  grind -lia -linarith
 ·unfold o0S
  rw [e1, e2, e3, e4]; omega
def plv (x1 x2 x3 : K) : Pl → K
 | [] => 0
 | (k, c) :: l => kc c * mo x1 x2 x3 k + plv x1 x2 x3 l
def PBd (d : Nat) (a : Pl) : Prop := ∀ t ∈ a, o0S d t.1
def f0D : Nat → Pl → Pl → Pl
 | 0, a, b => a ++ b
 | _ + 1, [], b => b
 | _ + 1, a, [] => a
 | n + 1, (k, c) :: a, (l, d) :: b => match Nat.blt k l with
  | true => (k, c) :: f0D n a ((l, d) :: b)
  | false => match Nat.blt l k with
   | true => (l, d) :: f0D n ((k, c) :: a) b
   | false => (k, (c + d) % fP) :: f0D n a b
theorem w0h (x1 x2 x3 : K) (a b : Pl) : plv x1 x2 x3 (a ++ b) = plv x1 x2 x3 a + plv x1 x2 x3 b := by
 induction a with
 | nil => simp only [List.nil_append, plv]; grind -lia -linarith
 | cons t a ih =>
  obtain ⟨k, c⟩ := t
  simp only [List.cons_append, plv, ih]; grind -lia -linarith
theorem f0l (x1 x2 x3 : K) : ∀ (n : Nat) (a b : Pl), plv x1 x2 x3 (f0D n a b) = plv x1 x2 x3 a + plv x1 x2 x3 b
 | 0, a, b => w0h x1 x2 x3 a b
 | n + 1, [], b => by simp only [f0D, plv]; grind -lia -linarith
 | n + 1, t :: a, [] => by simp only [f0D, plv]; grind -lia -linarith
 | n + 1, (k, c) :: a, (l, d) :: b => by
  have h1 := f0l x1 x2 x3 n a ((l, d) :: b)
  have h2 := f0l x1 x2 x3 n ((k, c) :: a) b
  have h3 := f0l x1 x2 x3 n a b
  simp only [f0D]
  split
  ·simp only [plv] at *; grind -lia -linarith
  ·rename_i e1
   split
   ·simp only [plv] at *; grind -lia -linarith
   ·rename_i e2
    have hkl : k = l := by
     have : ¬ k < l := fun h => by rw [← Nat.blt_eq, e1] at h; cases h
     have : ¬ l < k := fun h => by rw [← Nat.blt_eq, e2] at h; cases h
     omega
    subst hkl
    simp only [plv, u0X, h3]
    generalize mo x1 x2 x3 k = m
    generalize kc c = u
    generalize kc d = v
    grind -lia -linarith
theorem f0m (d : Nat) : ∀ (n : Nat) (a b : Pl), PBd d a → PBd d b → PBd d (f0D n a b)
 | 0, a, b, ha, hb => fun t ht => by
  rcases List.mem_append.1 ht with h | h
  ·exact ha t h
  ·exact hb t h
 | n + 1, [], b, _, hb => by simpa only [f0D] using hb
 | n + 1, t :: a, [], ha, _ => by simpa only [f0D] using ha
 | n + 1, (k, c) :: a, (l, e) :: b, ha, hb => by
  have ha' : PBd d a := fun t ht => ha t (List.mem_cons_of_mem _ ht)
  have hb' : PBd d b := fun t ht => hb t (List.mem_cons_of_mem _ ht)
  simp only [f0D]
  split
  ·intro t ht
   rcases List.mem_cons.1 ht with h | h
   ·subst h; exact ha (k, c) (by simp)
   ·exact f0m d n a _ ha' hb t h
  ·split
   ·intro t ht
    rcases List.mem_cons.1 ht with h | h
    ·subst h; exact hb (l, e) (by simp)
    ·exact f0m d n _ b ha hb' t h
   ·intro t ht
    rcases List.mem_cons.1 ht with h | h
    ·subst h; exact ha (k, c) (by simp)
    ·exact f0m d n a b ha' hb' t h
def f0V (k c : Nat) : Pl → Pl
 | [] => []
 | (l, d) :: b => (k + l, c * d % fP) :: f0V k c b
theorem k0U (x1 x2 x3 : K) {d e k : Nat} (c : Nat) (hk : o0S d k) (h : d + e < 1048576) : ∀ (b : Pl), PBd e b → plv x1 x2 x3 (f0V k c b) = kc c * mo x1 x2 x3 k * plv x1 x2 x3 b ∧ PBd (d + e) (f0V k c b)
 | [], _ => by
  refine ⟨?_, fun t ht => absurd ht (by simp [f0V])⟩
  simp only [f0V, plv]; grind -lia -linarith
 | (l, f) :: b, hb => by
  have ih := k0U x1 x2 x3 c hk h b (fun t ht => hb t (List.mem_cons_of_mem _ ht))
  have hm := y0c hk (hb (l, f) (by simp)) h x1 x2 x3
  refine ⟨?_, fun t ht => ?_⟩
  ·simp only [f0V, plv, u0Y, ih.1, hm.1]
   generalize mo x1 x2 x3 k = m; generalize mo x1 x2 x3 l = m2; generalize kc c = u; generalize kc f = v; generalize plv x1 x2 x3 b = q
   grind -lia -linarith
  ·simp only [f0V] at ht
   rcases List.mem_cons.1 ht with h1 | h1
   ·subst h1; exact hm.2
   ·exact ih.2 t h1
def m0l : Pl → Pl → Pl
 | [], _ => []
 | (k, c) :: a, b => f0D 100000 (f0V k c b) (m0l a b)
theorem n0C (x1 x2 x3 : K) {d e : Nat} (h : d + e < 1048576) : ∀ (a b : Pl), PBd d a → PBd e b → plv x1 x2 x3 (m0l a b) = plv x1 x2 x3 a * plv x1 x2 x3 b ∧ PBd (d + e) (m0l a b)
 | [], b, _, _ => by
  refine ⟨?_, fun t ht => absurd ht (by simp [m0l])⟩
  simp only [m0l, plv]; grind -lia -linarith
 | (k, c) :: a, b, ha, hb => by
  have ih := n0C x1 x2 x3 h a b (fun t ht => ha t (List.mem_cons_of_mem _ ht)) hb
  have ht := k0U x1 x2 x3 c (ha (k, c) (by simp)) h b hb
  refine ⟨?_, f0m _ _ _ _ ht.2 ih.2⟩
  simp only [m0l, f0l, plv, ht.1, ih.1]
  grind -lia -linarith
theorem PBd.mono {d e : Nat} {a : Pl} (h : PBd d a) (hd : d ≤ e) : PBd e a := fun t ht => by
 obtain ⟨h1, h2, h3⟩ := h t ht
 exact ⟨by omega, by omega, by omega⟩
structure Ops (α : Type) where
 add : α → α → α
 mul : α → α → α
structure Snd {α : Type} (o : Ops α) (val : α → K) (Bd : Nat → α → Prop) (c : Nat) : Prop where
 add : ∀ a b, val (o.add a b) = val a + val b
 addB : ∀ d a b, Bd d a → Bd d b → Bd d (o.add a b)
 mul : ∀ d e a b, Bd d a → Bd e b → d + e + c < 1048576 → val (o.mul a b) = val a * val b ∧ Bd (d + e + c) (o.mul a b)
 mono : ∀ d e a, Bd d a → d ≤ e → Bd e a
def y0d : Ops Pl := ⟨f0D 100000, m0l⟩
theorem z0m (x1 x2 x3 : K) : Snd y0d (plv x1 x2 x3) PBd 0 :=
 ⟨fun a b => f0l x1 x2 x3 _ a b, fun d a b ha hb => f0m d _ a b ha hb, fun d e a b ha hb h => n0C x1 x2 x3 (d := d) (e := e) h a b ha hb, fun _ _ _ h hd => h.mono hd⟩
def o0T {α : Type} (o : Ops α) (f : α) : Ops (α × α) :=
 ⟨fun p q => (o.add p.1 q.1, o.add p.2 q.2), fun p q => (o.add (o.mul p.1 q.1) (o.mul (o.mul p.2 q.2) f), o.add (o.mul p.1 q.2) (o.mul p.2 q.1))⟩
def d0V {α : Type} (val : α → K) (y : K) (p : α × α) : K := val p.1 + val p.2 * y
def w0i {α : Type} (Bd : Nat → α → Prop) (d : Nat) (p : α × α) : Prop := Bd d p.1 ∧ Bd d p.2
theorem w0j {α : Type} {o : Ops α} {val : α → K} {Bd : Nat → α → Prop} {c : Nat} (h : Snd o val Bd c) (f : α) (y : K) (hy : y * y = val f) (hf : Bd 3 f) : Snd (o0T o f) (d0V val y) (w0i Bd) (c + c + 3) := by
 refine ⟨fun a b => ?_, fun d a b ha hb => ⟨h.addB _ _ _ ha.1 hb.1, h.addB _ _ _ ha.2 hb.2⟩, fun d e a b ha hb hd => ?_, fun d e a ha hd => ⟨h.mono _ _ _ ha.1 hd, h.mono _ _ _ ha.2 hd⟩⟩
 ·simp only [d0V, o0T, h.add]; grind -lia -linarith
 ·have m11 := h.mul d e a.1 b.1 ha.1 hb.1 (by omega)
  have m22 := h.mul d e a.2 b.2 ha.2 hb.2 (by omega)
  have m12 := h.mul d e a.1 b.2 ha.1 hb.2 (by omega)
  have m21 := h.mul d e a.2 b.1 ha.2 hb.1 (by omega)
  have mf := h.mul _ 3 _ f m22.2 hf (by omega)
  refine ⟨?_, h.addB _ _ _ (h.mono _ _ _ m11.2 (by omega)) (h.mono _ _ _ mf.2 (by omega)), h.addB _ _ _ (h.mono _ _ _ m12.2 (by omega)) (h.mono _ _ _ m21.2 (by omega))⟩
  simp only [d0V, o0T, h.add, m11.1, m12.1, m21.1, mf.1, m22.1, ← hy]
  grind -lia -linarith
end Mvq
namespace Mvq
def fPl (i : Nat) : Pl := [(0, 7), (3 * i, 1)]
abbrev T3 := ((Pl × Pl) × (Pl × Pl)) × ((Pl × Pl) × (Pl × Pl))
def o1 : Ops (Pl × Pl) := o0T y0d (fPl 1)
def o2 : Ops ((Pl × Pl) × (Pl × Pl)) := o0T o1 (fPl 1048576, [])
def o3 : Ops T3 := o0T o2 ((fPl 1099511627776, []), ([], []))
def v3 (x1 x2 x3 y1 y2 y3 : K) : T3 → K := d0V (d0V (d0V (plv x1 x2 x3) y1) y2) y3
def b3 : Nat → T3 → Prop := w0i (w0i (w0i PBd))
theorem c0M (d : Nat) (a : Pl) (h : (a.all fun t => decide (t.1 % 1048576 ≤ d) && decide (t.1 / 1048576 % 1048576 ≤ d) && decide (t.1 / 1048576 / 1048576 ≤ d)) = true) : PBd d a := fun t ht => by
 have h1 := List.all_eq_true.1 h t ht
 simp only [Bool.and_eq_true, decide_eq_true_eq] at h1
 exact ⟨h1.1.1, h1.1.2, h1.2⟩
theorem kc7 : kc 7 = 7 := by decide
theorem kc1 : kc 1 = 1 := by decide
theorem z0T (x1 x2 x3 y1 y2 y3 : K) (h1 : y1 * y1 = x1 * x1 * x1 + 7) (h2 : y2 * y2 = x2 * x2 * x2 + 7) (h3 : y3 * y3 = x3 * x3 * x3 + 7) : Snd o3 (v3 x1 x2 x3 y1 y2 y3) b3 21 := by
 have s1 : Snd o1 (d0V (plv x1 x2 x3) y1) (w0i PBd) 3 := w0j (z0m x1 x2 x3) _ y1 (by
  simp only [fPl, plv, mo, kc7, kc1]
  grind -lia -linarith) (c0M _ _ (by decide))
 have s2 : Snd o2 (d0V (d0V (plv x1 x2 x3) y1) y2) (w0i (w0i PBd)) 9 := w0j s1 _ y2 (by
  simp only [fPl, d0V, plv, mo, kc7, kc1]
  grind -lia -linarith) ⟨c0M _ _ (by decide), c0M _ _ (by decide)⟩
 exact w0j s2 _ y3 (by
  simp only [fPl, d0V, plv, mo, kc7, kc1]
  grind -lia -linarith) ⟨⟨c0M _ _ (by decide), c0M _ _ (by decide)⟩, ⟨c0M _ _ (by decide), c0M _ _ (by decide)⟩⟩
structure Rp (V : T3 → K) (d : Nat) (a : T3) (u : K) : Prop where
 val : V a = u
 bd : b3 d a
section
variable {V : T3 → K} (S : Snd o3 V b3 21)
include S
theorem Rp.add {d e : Nat} {a b : T3} {u v : K} (ha : Rp V d a u) (hb : Rp V e b v) : Rp V (d + e) (o3.add a b) (u + v) :=
 ⟨by rw [S.add, ha.val, hb.val], S.addB _ _ _ (S.mono _ _ _ ha.bd (by omega)) (S.mono _ _ _ hb.bd (by omega))⟩
theorem Rp.mul {d e : Nat} {a b : T3} {u v : K} (ha : Rp V d a u) (hb : Rp V e b v) (h : d + e + 21 < 1048576) : Rp V (d + e + 21) (o3.mul a b) (u * v) := by
 have := S.mul d e a b ha.bd hb.bd h
 exact ⟨by rw [this.1, ha.val, hb.val], this.2⟩
end
def tc (n : Nat) : T3 := ((([(0, n)], []), ([], [])), (([], []), ([], [])))
def cX (X1 Y1 Z1 X2 Y2 Z2 : K) : K := (X1*Y2 + X2*Y1)*(Y1*Y2 + kc (fP - 21)*(Z1*Z2)) + kc (fP - 21)*((Y1*Z2 + Y2*Z1)*(X1*Z2 + X2*Z1))
def cY (X1 Y1 Z1 X2 Y2 Z2 : K) : K := (Y1*Y2 + kc 21*(Z1*Z2))*(Y1*Y2 + kc (fP - 21)*(Z1*Z2)) + kc 63*((X1*X2)*(X1*Z2 + X2*Z1))
def cZ (X1 Y1 Z1 X2 Y2 Z2 : K) : K := (Y1*Z2 + Y2*Z1)*(Y1*Y2 + kc 21*(Z1*Z2)) + kc 3*((X1*X2)*(X1*Y2 + X2*Y1))
def tX (X1 Y1 Z1 X2 Y2 Z2 : T3) : T3 := o3.add (o3.mul (o3.add (o3.mul X1 Y2) (o3.mul X2 Y1)) (o3.add (o3.mul Y1 Y2) (o3.mul (tc (fP - 21)) (o3.mul Z1 Z2)))) (o3.mul (tc (fP - 21)) (o3.mul (o3.add (o3.mul Y1 Z2) (o3.mul Y2 Z1)) (o3.add (o3.mul X1 Z2) (o3.mul X2 Z1))))
def tY (X1 Y1 Z1 X2 Y2 Z2 : T3) : T3 := o3.add (o3.mul (o3.add (o3.mul Y1 Y2) (o3.mul (tc 21) (o3.mul Z1 Z2))) (o3.add (o3.mul Y1 Y2) (o3.mul (tc (fP - 21)) (o3.mul Z1 Z2)))) (o3.mul (tc 63) (o3.mul (o3.mul X1 X2) (o3.add (o3.mul X1 Z2) (o3.mul X2 Z1))))
def tZ (X1 Y1 Z1 X2 Y2 Z2 : T3) : T3 := o3.add (o3.mul (o3.add (o3.mul Y1 Z2) (o3.mul Y2 Z1)) (o3.add (o3.mul Y1 Y2) (o3.mul (tc 21) (o3.mul Z1 Z2)))) (o3.mul (tc 3) (o3.mul (o3.mul X1 X2) (o3.add (o3.mul X1 Y2) (o3.mul X2 Y1))))
section
variable {V : T3 → K} (S : Snd o3 V b3 21) (hc : ∀ n, Rp V 0 (tc n) (kc n))
include S hc
omit hc in
theorem Rp.mono {d e : Nat} {a : T3} {u : K} (ha : Rp V d a u) (h : d ≤ e) : Rp V e a u := ⟨ha.val, S.mono _ _ _ ha.bd h⟩
theorem t_ok {d e : Nat} {A1 B1 C1 A2 B2 C2 : T3} {X1 Y1 Z1 X2 Y2 Z2 : K} (hA1 : Rp V d A1 X1) (hB1 : Rp V d B1 Y1) (hC1 : Rp V d C1 Z1) (hA2 : Rp V e A2 X2) (hB2 : Rp V e B2 Y2) (hC2 : Rp V e C2 Z2) (h : d + e < 10000) :
  Rp V (8 * (d + e) + 300) (tX A1 B1 C1 A2 B2 C2) (cX X1 Y1 Z1 X2 Y2 Z2) ∧ Rp V (8 * (d + e) + 300) (tY A1 B1 C1 A2 B2 C2) (cY X1 Y1 Z1 X2 Y2 Z2) ∧ Rp V (8 * (d + e) + 300) (tZ A1 B1 C1 A2 B2 C2) (cZ X1 Y1 Z1 X2 Y2 Z2) := by
 have m1 := Rp.add S (Rp.mul S hA1 hB2 (by omega)) (Rp.mul S hA2 hB1 (by omega))
 have m2 := Rp.add S (Rp.mul S hB1 hB2 (by omega)) (Rp.mul S (hc (fP - 21)) (Rp.mul S hC1 hC2 (by omega)) (by omega))
 have m6 := Rp.add S (Rp.mul S hB1 hB2 (by omega)) (Rp.mul S (hc 21) (Rp.mul S hC1 hC2 (by omega)) (by omega))
 have m3 := Rp.add S (Rp.mul S hB1 hC2 (by omega)) (Rp.mul S hB2 hC1 (by omega))
 have m4 := Rp.add S (Rp.mul S hA1 hC2 (by omega)) (Rp.mul S hA2 hC1 (by omega))
 have m7 := Rp.mul S hA1 hA2 (by omega)
 have m5 := Rp.add S (Rp.mul S m1 m2 (by omega)) (Rp.mul S (hc (fP - 21)) (Rp.mul S m3 m4 (by omega)) (by omega))
 have m8 := Rp.add S (Rp.mul S m6 m2 (by omega)) (Rp.mul S (hc 63) (Rp.mul S m7 m4 (by omega)) (by omega))
 have m9 := Rp.add S (Rp.mul S m3 m6 (by omega)) (Rp.mul S (hc 3) (Rp.mul S m7 m1 (by omega)) (by omega))
 exact ⟨m5.mono S (by omega), m8.mono S (by omega), m9.mono S (by omega)⟩
end
def e0 : Pl × Pl := ([], [])
def e1 : (Pl × Pl) × (Pl × Pl) := (e0, e0)
def tx1 : T3 := ((([(1, 1)], []), e0), e1)
def tx2 : T3 := ((([(1048576, 1)], []), e0), e1)
def tx3 : T3 := ((([(1099511627776, 1)], []), e0), e1)
def ty1 : T3 := ((([], [(0, 1)]), e0), e1)
def ty2 : T3 := ((e0, ([(0, 1)], [])), e1)
def ty3 : T3 := (e1, (([(0, 1)], []), e0))
def lX : T3 := tX (tX tx1 ty1 (tc 1) tx2 ty2 (tc 1)) (tY tx1 ty1 (tc 1) tx2 ty2 (tc 1)) (tZ tx1 ty1 (tc 1) tx2 ty2 (tc 1)) tx3 ty3 (tc 1)
def lY : T3 := tY (tX tx1 ty1 (tc 1) tx2 ty2 (tc 1)) (tY tx1 ty1 (tc 1) tx2 ty2 (tc 1)) (tZ tx1 ty1 (tc 1) tx2 ty2 (tc 1)) tx3 ty3 (tc 1)
def lZ : T3 := tZ (tX tx1 ty1 (tc 1) tx2 ty2 (tc 1)) (tY tx1 ty1 (tc 1) tx2 ty2 (tc 1)) (tZ tx1 ty1 (tc 1) tx2 ty2 (tc 1)) tx3 ty3 (tc 1)
def rX : T3 := tX tx1 ty1 (tc 1) (tX tx2 ty2 (tc 1) tx3 ty3 (tc 1)) (tY tx2 ty2 (tc 1) tx3 ty3 (tc 1)) (tZ tx2 ty2 (tc 1) tx3 ty3 (tc 1))
def rY : T3 := tY tx1 ty1 (tc 1) (tX tx2 ty2 (tc 1) tx3 ty3 (tc 1)) (tY tx2 ty2 (tc 1) tx3 ty3 (tc 1)) (tZ tx2 ty2 (tc 1) tx3 ty3 (tc 1))
def rZ : T3 := tZ tx1 ty1 (tc 1) (tX tx2 ty2 (tc 1) tx3 ty3 (tc 1)) (tY tx2 ty2 (tc 1) tx3 ty3 (tc 1)) (tZ tx2 ty2 (tc 1) tx3 ty3 (tc 1))
end Mvq
namespace Mvq
theorem t0y : (o3.mul lX rZ == o3.mul rX lZ) = true := by decide +kernel
end Mvq
namespace Mvq
theorem t0z : (o3.mul lY rZ == o3.mul rY lZ) = true := by decide +kernel
end Mvq
namespace Mvq
theorem bd0 : PBd 1 [] := c0M _ _ (by decide)
theorem z0n (x1 x2 x3 y1 y2 y3 : K) (n : Nat) : Rp (v3 x1 x2 x3 y1 y2 y3) 0 (tc n) (kc n) := by
 refine ⟨?_, ?_⟩
 ·simp only [tc, v3, d0V, plv, mo]; grind -lia -linarith
 ·have h0 : PBd 0 [] := c0M _ _ (by decide)
  have h1 : PBd 0 [(0, n)] := c0M _ _ (by simp)
  exact ⟨⟨⟨h1, h0⟩, ⟨h0, h0⟩⟩, ⟨⟨h0, h0⟩, ⟨h0, h0⟩⟩⟩
section
variable (x1 x2 x3 y1 y2 y3 : K)
theorem w0k : kc 1 = 1 := by decide
theorem y0e : Rp (v3 x1 x2 x3 y1 y2 y3) 1 tx1 x1 := by
 refine ⟨?_, ⟨⟨⟨c0M _ _ (by decide), bd0⟩, ⟨bd0, bd0⟩⟩, ⟨⟨bd0, bd0⟩, ⟨bd0, bd0⟩⟩⟩⟩
 simp only [tx1, e0, e1, v3, d0V, plv, mo, w0k]; grind -lia -linarith
theorem y0f : Rp (v3 x1 x2 x3 y1 y2 y3) 1 tx2 x2 := by
 refine ⟨?_, ⟨⟨⟨c0M _ _ (by decide), bd0⟩, ⟨bd0, bd0⟩⟩, ⟨⟨bd0, bd0⟩, ⟨bd0, bd0⟩⟩⟩⟩
 simp only [tx2, e0, e1, v3, d0V, plv, mo, w0k]; grind -lia -linarith
theorem y0g : Rp (v3 x1 x2 x3 y1 y2 y3) 1 tx3 x3 := by
 refine ⟨?_, ⟨⟨⟨c0M _ _ (by decide), bd0⟩, ⟨bd0, bd0⟩⟩, ⟨⟨bd0, bd0⟩, ⟨bd0, bd0⟩⟩⟩⟩
 simp only [tx3, e0, e1, v3, d0V, plv, mo, w0k]; grind -lia -linarith
theorem y0h : Rp (v3 x1 x2 x3 y1 y2 y3) 1 ty1 y1 := by
 refine ⟨?_, ⟨⟨⟨bd0, c0M _ _ (by decide)⟩, ⟨bd0, bd0⟩⟩, ⟨⟨bd0, bd0⟩, ⟨bd0, bd0⟩⟩⟩⟩
 simp only [ty1, e0, e1, v3, d0V, plv, mo, w0k]; grind -lia -linarith
theorem y0i : Rp (v3 x1 x2 x3 y1 y2 y3) 1 ty2 y2 := by
 refine ⟨?_, ⟨⟨⟨bd0, bd0⟩, ⟨c0M _ _ (by decide), bd0⟩⟩, ⟨⟨bd0, bd0⟩, ⟨bd0, bd0⟩⟩⟩⟩
 simp only [ty2, e0, e1, v3, d0V, plv, mo, w0k]; grind -lia -linarith
theorem y0j : Rp (v3 x1 x2 x3 y1 y2 y3) 1 ty3 y3 := by
 refine ⟨?_, ⟨⟨⟨bd0, bd0⟩, ⟨bd0, bd0⟩⟩, ⟨⟨c0M _ _ (by decide), bd0⟩, ⟨bd0, bd0⟩⟩⟩⟩
 simp only [ty3, e0, e1, v3, d0V, plv, mo, w0k]; grind -lia -linarith
end
theorem z0o (x1 x2 x3 y1 y2 y3 : K) (h1 : y1 * y1 = x1 * x1 * x1 + 7) (h2 : y2 * y2 = x2 * x2 * x2 + 7) (h3 : y3 * y3 = x3 * x3 * x3 + 7) :
  cX (cX x1 y1 1 x2 y2 1) (cY x1 y1 1 x2 y2 1) (cZ x1 y1 1 x2 y2 1) x3 y3 1 * cZ x1 y1 1 (cX x2 y2 1 x3 y3 1) (cY x2 y2 1 x3 y3 1) (cZ x2 y2 1 x3 y3 1) =
   cX x1 y1 1 (cX x2 y2 1 x3 y3 1) (cY x2 y2 1 x3 y3 1) (cZ x2 y2 1 x3 y3 1) * cZ (cX x1 y1 1 x2 y2 1) (cY x1 y1 1 x2 y2 1) (cZ x1 y1 1 x2 y2 1) x3 y3 1 ∧
  cY (cX x1 y1 1 x2 y2 1) (cY x1 y1 1 x2 y2 1) (cZ x1 y1 1 x2 y2 1) x3 y3 1 * cZ x1 y1 1 (cX x2 y2 1 x3 y3 1) (cY x2 y2 1 x3 y3 1) (cZ x2 y2 1 x3 y3 1) =
   cY x1 y1 1 (cX x2 y2 1 x3 y3 1) (cY x2 y2 1 x3 y3 1) (cZ x2 y2 1 x3 y3 1) * cZ (cX x1 y1 1 x2 y2 1) (cY x1 y1 1 x2 y2 1) (cZ x1 y1 1 x2 y2 1) x3 y3 1 := by
 have S := z0T x1 x2 x3 y1 y2 y3 h1 h2 h3
 have hc := z0n x1 x2 x3 y1 y2 y3
 have c1 : Rp (v3 x1 x2 x3 y1 y2 y3) 1 (tc 1) 1 := (w0k ▸ hc 1).mono S (by omega)
 have A := t_ok S hc (y0e x1 x2 x3 y1 y2 y3) (y0h x1 x2 x3 y1 y2 y3) c1 (y0f x1 x2 x3 y1 y2 y3) (y0i x1 x2 x3 y1 y2 y3) c1 (by omega)
 have B := t_ok S hc (y0f x1 x2 x3 y1 y2 y3) (y0i x1 x2 x3 y1 y2 y3) c1 (y0g x1 x2 x3 y1 y2 y3) (y0j x1 x2 x3 y1 y2 y3) c1 (by omega)
 have L := t_ok S hc A.1 A.2.1 A.2.2 (y0g x1 x2 x3 y1 y2 y3) (y0j x1 x2 x3 y1 y2 y3) c1 (by omega)
 have R := t_ok S hc (y0e x1 x2 x3 y1 y2 y3) (y0h x1 x2 x3 y1 y2 y3) c1 B.1 B.2.1 B.2.2 (by omega)
 have m1 := Rp.mul S L.1 R.2.2 (by omega)
 have m2 := Rp.mul S R.1 L.2.2 (by omega)
 have m3 := Rp.mul S L.2.1 R.2.2 (by omega)
 have m4 := Rp.mul S R.2.1 L.2.2 (by omega)
 refine ⟨?_, ?_⟩
 ·rw [← m1.val, ← m2.val]; exact congrArg _ (eq_of_beq t0y)
 ·rw [← m3.val, ← m4.val]; exact congrArg _ (eq_of_beq t0z)
end Mvq
namespace Mvq
theorem u0Z : IsP fP := u0W
theorem y0k (a : K) : a.val < fP := a.isLt
theorem z0J {a : K} (h : a ≠ 0) : ¬ fP ∣ a.val := by
 intro hd
 have h1 := y0k a
 have h2 : a.val ≠ 0 := fun e => h (Fin.ext e)
 have := Nat.le_of_dvd (by omega) hd
 omega
def c0k (a : K) : K := kc (a.val ^ (fP - 2))
theorem i0s (a : K) : kc a.val = a := by
 apply Fin.ext; simp [kc, Fin.ofNat, Nat.mod_eq_of_lt a.isLt]
theorem a0E (a b : Nat) : kc (a * b) = kc a * kc b := by
 rw [← u0Y]; apply Fin.ext; simp [kc, Fin.ofNat]
theorem e0j (a : Nat) : kc (a % fP) = kc a := by apply Fin.ext; simp [kc, Fin.ofNat]
theorem a0U {a : K} (h : a ≠ 0) : a * c0k a = 1 := by
 have h1 := n0B u0Z (z0J h)
 have h2 : a.val * a.val ^ (fP - 2) = a.val ^ (fP - 1) := by rw [Nat.mul_comm, ← Nat.pow_succ, show (fP - 2).succ = fP - 1 by decide]
 have h3 : a * c0k a = kc (a.val * a.val ^ (fP - 2)) := by rw [a0E, i0s]; rfl
 rw [h3, h2, ← e0j, h1]; decide
theorem a0x {a b : K} (h : a * b = 0) : a = 0 ∨ b = 0 := by
 by_cases ha : a = 0
 ·exact Or.inl ha
 ·right
  have h1 := a0U ha
  generalize c0k a = c at *
  grind -lia -linarith
theorem b0j {a b c : K} (ha : a ≠ 0) (h : a * b = a * c) : b = c := by
 have h1 := a0U ha
 generalize c0k a = d at *
 grind -lia -linarith
theorem w0l (a : K) (n : Nat) : kc (a.val ^ n) = a ^ n := by
  induction n with
  | zero => rw [Nat.pow_zero]; have : kc 1 = 1 := by decide
            rw [this]; grind -lia -linarith
  | succ n ih => rw [Nat.pow_succ, a0E, ih, i0s]; grind -lia -linarith
theorem m0m (c : K) : c * c * c + 7 ≠ 0 := by
  intro h
  have hc : c * c * c = kc (fP - 7) := by
    have : kc (fP - 7) + 7 = 0 := by decide
    generalize kc (fP - 7) = m at *
    grind -lia -linarith
  have hc0 : c ≠ 0 := by
    intro h0
    subst h0
    exact absurd h (by decide)
  have h1 : c ^ (fP - 1) = 1 := by
    rw [← w0l, ← e0j, n0B u0Z (z0J hc0)]; decide
  have h2 : c ^ (fP - 1) = (c * c * c) ^ ((fP - 1) / 3) := by
    have e : (fP - 1) = (fP - 1) / 3 + (fP - 1) / 3 + (fP - 1) / 3 := by decide
    generalize (fP - 1) / 3 = n at *
    rw [e, k0T, k0T]
    clear e h1 h hc hc0
    induction n with
    | zero => grind -lia -linarith
    | succ n ih =>
      have e1 : ∀ x : K, x ^ (n + 1) = x ^ n * x := fun x => by grind -lia -linarith
      rw [e1, e1, ← ih]
      generalize c ^ n = d
      grind -lia -linarith
  rw [h1, hc] at h2
  have h3 : kc (fP - 7) ^ ((fP - 1) / 3) = kc ((fP - 7) ^ ((fP - 1) / 3) % fP) := by
    rw [e0j]
    generalize (fP - 1) / 3 = n
    induction n with
    | zero => have : kc 1 = 1 := by decide
              rw [Nat.pow_zero, this]; grind -lia -linarith
    | succ n ih => rw [Nat.pow_succ, a0E, ← ih]; grind -lia -linarith
  rw [h3, ← t0w fP 256 (fP - 7) ((fP - 1) / 3) (by decide)] at h2
  exact absurd h2 (by decide +kernel)
end Mvq
namespace Mvq
inductive Pt where
 | O : Pt
 | A : K → K → Pt
def onC : Pt → Prop
 | .O => True
 | .A x y => y * y = x * x * x + 7
def nm (X Y Z : K) : Pt := if Z = 0 then .O else .A (X * c0k Z) (Y * c0k Z)
def b0d : Pt → Pt → Pt
 | .O, q => q
 | .A x y, .O => .A x y
 | .A x1 y1, .A x2 y2 => nm (cX x1 y1 1 x2 y2 1) (cY x1 y1 1 x2 y2 1) (cZ x1 y1 1 x2 y2 1)
def o0U : Pt → Pt
 | .O => .O
 | .A x y => .A x (-y)
theorem z0K : kc (fP - 21) = -21 := by decide
theorem k21 : kc 21 = 21 := by decide
theorem k63 : kc 63 = 63 := by decide
theorem k3 : kc 3 = 3 := by decide
theorem h0t (X1 Y1 Z1 X2 Y2 Z2 : K) : cX X1 Y1 Z1 X2 Y2 Z2 = (X1*Y2 + X2*Y1)*(Y1*Y2 - 21*Z1*Z2) - 21*(Y1*Z2 + Y2*Z1)*(X1*Z2 + X2*Z1) := by
 unfold cX; rw [z0K]; grind -lia -linarith
theorem h0u (X1 Y1 Z1 X2 Y2 Z2 : K) : cY X1 Y1 Z1 X2 Y2 Z2 = (Y1*Y2 + 21*Z1*Z2)*(Y1*Y2 - 21*Z1*Z2) + 63*X1*X2*(X1*Z2 + X2*Z1) := by
 unfold cY; rw [z0K, k21, k63]; grind -lia -linarith
theorem f0n (X1 Y1 Z1 X2 Y2 Z2 : K) : cZ X1 Y1 Z1 X2 Y2 Z2 = (Y1*Z2 + Y2*Z1)*(Y1*Y2 + 21*Z1*Z2) + 3*X1*X2*(X1*Y2 + X2*Y1) := by
 unfold cZ; rw [k21, k3]; grind -lia -linarith
theorem n0D {a X Y Z : K} (ha : a ≠ 0) : nm (a * X) (a * Y) (a * Z) = nm X Y Z := by
 unfold nm
 by_cases hz : Z = 0
 ·rw [if_pos hz, if_pos (by rw [hz]; grind -lia -linarith)]
 ·have haz : a * Z ≠ 0 := fun h => (a0x h).elim ha hz
  rw [if_neg hz, if_neg haz]
  have h1 := a0U hz
  have h2 := a0U haz
  generalize c0k Z = u at *
  generalize c0k (a * Z) = v at *
  have h3 : a * v = u := by
   refine b0j hz ?_
   grind -lia -linarith
  congr 1
  ·rw [← h3]; grind -lia -linarith
  ·rw [← h3]; grind -lia -linarith
theorem t0A {x y : K} (h : y * y = x * x * x + 7) : y ≠ 0 := by
 intro h0
 subst h0
 refine m0m x ?_
 grind -lia -linarith
theorem i0t : (2 : K) ≠ 0 := by decide
theorem z0U {x1 y1 x2 y2 : K} (h1 : y1 * y1 = x1 * x1 * x1 + 7) (h2 : y2 * y2 = x2 * x2 * x2 + 7) :
  cZ x1 y1 1 x2 y2 1 * cZ x1 y1 1 x2 y2 1 = (x1*x2*(x1+x2) + 14 + 2*y1*y2) * (x1*x2*(x1+x2) + 14 + 2*y1*y2) * (x1*x2*(x1+x2) + 14 + 2*y1*y2) + 7 * ((x2-x1)*(x2-x1)*(x2-x1)*(x2-x1)*(x2-x1)*(x2-x1)) := by
 rw [f0n]
 grind -lia -linarith
theorem v0a {x1 y1 x2 y2 : K} (h1 : y1 * y1 = x1 * x1 * x1 + 7) (h2 : y2 * y2 = x2 * x2 * x2 + 7) (hz : cZ x1 y1 1 x2 y2 1 = 0) : x2 = x1 ∧ y2 = -y1 := by
 by_cases hx : x2 - x1 = 0
 ·have hx' : x2 = x1 := by grind -lia -linarith
  subst hx'
  have hyy : (y2 - y1) * (y2 + y1) = 0 := by grind -lia -linarith
  rcases a0x hyy with h | h
  ·exfalso
   have e : y2 = y1 := by grind -lia -linarith
   subst e
   rw [f0n] at hz
   have h8 : (2 * y2) * ((2 * y2) * (2 * y2)) = 0 := by grind -lia -linarith
   have hy := t0A h1
   have h2y : (2 : K) * y2 ≠ 0 := fun h => (a0x h).elim i0t hy
   exact (a0x h8).elim h2y fun h => (a0x h).elim h2y h2y
  ·exact ⟨rfl, by grind -lia -linarith⟩
 ·exfalso
  have hi := z0U h1 h2
  rw [hz] at hi
  have hd := a0U hx
  generalize c0k (x2 - x1) = u at *
  generalize x1*x2*(x1+x2) + 14 + 2*y1*y2 = m at *
  generalize x2 - x1 = d at *
  refine m0m (m * u * u) ?_
  have e : (m * u * u) * (m * u * u) * (m * u * u) + 7 = (m * m * m + 7 * (d * d * d * d * d * d)) * (u * u * u * u * u * u) := by grind -lia -linarith
  rw [e, ← hi]
  grind -lia -linarith
theorem z0V (x y : K) (h : y * y = x * x * x + 7) (h0 : x*x*x*x*x*x + 140*(x*x*x) - 392 = 0) : False := by
 have hy := t0A h
 have h2 : (2 : K) * y ≠ 0 := fun h => (a0x h).elim i0t hy
 have hu := a0U h2
 generalize c0k (2 * y) = u at *
 refine m0m ((x*x*x*x - 56*x) * u * u) ?_
 have e : ((x*x*x*x - 56*x) * u * u) * ((x*x*x*x - 56*x) * u * u) * ((x*x*x*x - 56*x) * u * u) + 7 = ((x*x*x*x - 56*x) * (x*x*x*x - 56*x) * (x*x*x*x - 56*x) + 7 * ((2*y)*(2*y)*(2*y)*(2*y)*(2*y)*(2*y))) * (u * u * u * u * u * u) := by grind -lia -linarith
 have e2 : (x*x*x*x - 56*x) * (x*x*x*x - 56*x) * (x*x*x*x - 56*x) + 7 * ((2*y)*(2*y)*(2*y)*(2*y)*(2*y)*(2*y)) = (x*x*x*x*x*x + 140*(x*x*x) - 392) * (x*x*x*x*x*x + 140*(x*x*x) - 392) := by
  have e3 : (2*y)*(2*y)*(2*y)*(2*y)*(2*y)*(2*y) = 64 * ((x*x*x+7)*(x*x*x+7)*(x*x*x+7)) := by rw [← h]; grind -lia -linarith
  rw [e3]; grind -lia -linarith
 rw [e, e2, h0]; grind -lia -linarith
def okT (X Y Z : K) : Prop := Z ≠ 0 ∨ (X = 0 ∧ Y ≠ 0)
theorem r0b {x1 y1 x2 y2 : K} (h1 : y1 * y1 = x1 * x1 * x1 + 7) (h2 : y2 * y2 = x2 * x2 * x2 + 7) : okT (cX x1 y1 1 x2 y2 1) (cY x1 y1 1 x2 y2 1) (cZ x1 y1 1 x2 y2 1) := by
 by_cases hz : cZ x1 y1 1 x2 y2 1 = 0
 ·right
  obtain ⟨rfl, rfl⟩ := v0a h1 h2 hz
  refine ⟨?_, fun h0 => ?_⟩
  ·rw [h0t]; grind -lia -linarith
  ·rw [h0u] at h0
   exact z0V x2 y1 h1 (by grind -lia -linarith)
 ·exact Or.inl hz
theorem r0c {x1 y1 x2 y2 : K} (h1 : y1 * y1 = x1 * x1 * x1 + 7) (h2 : y2 * y2 = x2 * x2 * x2 + 7) :
  cY x1 y1 1 x2 y2 1 * cY x1 y1 1 x2 y2 1 * cZ x1 y1 1 x2 y2 1 = cX x1 y1 1 x2 y2 1 * cX x1 y1 1 x2 y2 1 * cX x1 y1 1 x2 y2 1 + 7 * (cZ x1 y1 1 x2 y2 1 * cZ x1 y1 1 x2 y2 1 * cZ x1 y1 1 x2 y2 1) := by
 have eX : cX x1 y1 1 x2 y2 1 = x1*x2*x2*x2*y1 + x2*x1*x1*x1*y2 - 14*x1*y1 - 14*x2*y2 - 42*x1*y2 - 42*x2*y1 := by rw [h0t]; grind -lia -linarith
 have eY : cY x1 y1 1 x2 y2 1 = x1*x1*x1*x2*x2*x2 + 7*x1*x1*x1+7*x2*x2*x2 - 392 + 63*x1*x1*x2+63*x1*x2*x2 := by rw [h0u]; grind -lia -linarith
 have eZ : cZ x1 y1 1 x2 y2 1 = x1*x1*x1*y2 + 28*y2+28*y1+x2*x2*x2*y1+3*x1*x1*x2*y2+3*x1*x2*x2*y1 := by rw [f0n]; grind -lia -linarith
 rw [eX, eY, eZ]
 clear eX eY eZ
 grind -lia -linarith
theorem w0m {X Y Z : K} (h : Y * Y * Z = X * X * X + 7 * (Z * Z * Z)) : onC (nm X Y Z) := by
 unfold nm
 split
 ·trivial
 ·rename_i hz
  have h1 := a0U hz
  generalize c0k Z = u at *
  show (Y * u) * (Y * u) = (X * u) * (X * u) * (X * u) + 7
  have e : (Y * u) * (Y * u) = (Y * Y * Z) * (u * u * u) := by grind -lia -linarith
  rw [e, h]; grind -lia -linarith
theorem c0u {p q : Pt} (hp : onC p) (hq : onC q) : onC (b0d p q) := by
 cases p with
 | O => exact hq
 | A x1 y1 => cases q with
  | O => exact hp
  | A x2 y2 => exact w0m (r0c hp hq)
theorem c0B (p q : Pt) : b0d p q = b0d q p := by
 cases p with
 | O => cases q <;> rfl
 | A x1 y1 => cases q with
  | O => rfl
  | A x2 y2 =>
   have eX : cX x1 y1 1 x2 y2 1 = cX x2 y2 1 x1 y1 1 := by rw [h0t, h0t]; grind -lia -linarith
   have eY : cY x1 y1 1 x2 y2 1 = cY x2 y2 1 x1 y1 1 := by rw [h0u, h0u]; grind -lia -linarith
   have eZ : cZ x1 y1 1 x2 y2 1 = cZ x2 y2 1 x1 y1 1 := by rw [f0n, f0n]; grind -lia -linarith
   simp only [b0d, eX, eY, eZ]
theorem b0U (p : Pt) : b0d p .O = p := by cases p <;> rfl
theorem r0d (p : Pt) : b0d .O p = p := rfl
theorem d0S {p : Pt} : b0d p (o0U p) = .O := by
 cases p with
 | O => rfl
 | A x y =>
  have eZ : cZ x y 1 x (-y) 1 = 0 := by rw [f0n]; grind -lia -linarith
  simp only [o0U, b0d, nm, eZ, if_true]
theorem d0n {p : Pt} (hp : onC p) : onC (o0U p) := by
 cases p with
 | O => trivial
 | A x y => show (-y) * (-y) = x * x * x + 7; have : y * y = x * x * x + 7 := hp; grind -lia -linarith
theorem r0e {X Y Z x y : K} (ht : okT X Y Z) (hq : y * y = x * x * x + 7) (hp : onC (nm X Y Z)) :
  b0d (nm X Y Z) (.A x y) = nm (cX X Y Z x y 1) (cY X Y Z x y 1) (cZ X Y Z x y 1) ∧ okT (cX X Y Z x y 1) (cY X Y Z x y 1) (cZ X Y Z x y 1) := by
 by_cases hz : Z = 0
 ·obtain ⟨hX, hY⟩ := ht.resolve_left (by simpa using hz)
  subst hz hX
  have hy := t0A hq
  have hs : Y * Y * y ≠ 0 := fun h => (a0x h).elim (fun h => (a0x h).elim hY hY) hy
  have eX : cX 0 Y 0 x y 1 = (Y * Y * y) * x := by rw [h0t]; grind -lia -linarith
  have eY : cY 0 Y 0 x y 1 = (Y * Y * y) * y := by rw [h0u]; grind -lia -linarith
  have eZ : cZ 0 Y 0 x y 1 = (Y * Y * y) * 1 := by rw [f0n]; grind -lia -linarith
  rw [eX, eY, eZ, n0D hs]
  constructor
  ·have h0 : nm 0 Y 0 = .O := by unfold nm; rw [if_pos rfl]
   have h1 : nm x y 1 = .A x y := by
    unfold nm
    rw [if_neg (by decide)]
    have h1 := a0U (show (1 : K) ≠ 0 by decide)
    generalize c0k (1 : K) = u at *
    congr 1
    ·grind -lia -linarith
    ·grind -lia -linarith
   rw [h0, h1]; rfl
  ·left
   intro h; exact hs (by grind -lia -linarith)
 ·have hN : nm X Y Z = .A (X * c0k Z) (Y * c0k Z) := by unfold nm; rw [if_neg hz]
  rw [hN] at hp ⊢
  have h1 := a0U hz
  have hp' : (Y * c0k Z) * (Y * c0k Z) = (X * c0k Z) * (X * c0k Z) * (X * c0k Z) + 7 := hp
  have hok := r0b hp' hq
  generalize c0k Z = u at *
  have eX : cX X Y Z x y 1 = (Z * Z) * cX (X * u) (Y * u) 1 x y 1 := by rw [h0t, h0t]; grind -lia -linarith
  have eY : cY X Y Z x y 1 = (Z * Z) * cY (X * u) (Y * u) 1 x y 1 := by rw [h0u, h0u]; grind -lia -linarith
  have eZ : cZ X Y Z x y 1 = (Z * Z) * cZ (X * u) (Y * u) 1 x y 1 := by rw [f0n, f0n]; grind -lia -linarith
  have hzz : Z * Z ≠ 0 := fun h => (a0x h).elim hz hz
  rw [eX, eY, eZ, n0D hzz]
  refine ⟨rfl, ?_⟩
  rcases hok with h | ⟨h2, h3⟩
  ·exact Or.inl fun h' => (a0x h').elim hzz h
  ·exact Or.inr ⟨by rw [h2]; grind -lia -linarith, fun h' => (a0x h').elim hzz h3⟩
theorem w0n {X Y Z X' Y' Z' : K} (h : okT X Y Z) (h' : okT X' Y' Z') (e1 : X * Z' = X' * Z) (e2 : Y * Z' = Y' * Z) : nm X Y Z = nm X' Y' Z' := by
 by_cases hz : Z = 0
 ·obtain ⟨hX, hY⟩ := h.resolve_left (by simpa using hz)
  subst hz
  have : Y * Z' = 0 := by rw [e2]; grind -lia -linarith
  have hz' := (a0x this).resolve_left hY
  unfold nm
  rw [if_pos rfl, if_pos hz']
 ·by_cases hz' : Z' = 0
  ·obtain ⟨hX, hY⟩ := h'.resolve_left (by simpa using hz')
   subst hz'
   exfalso
   have : Y' * Z = 0 := by rw [← e2]; grind -lia -linarith
   exact (a0x this).elim hY hz
  ·unfold nm
   rw [if_neg hz, if_neg hz']
   have h1 := a0U hz
   have h2 := a0U hz'
   generalize c0k Z = u at *
   generalize c0k Z' = v at *
   congr 1
   ·refine b0j hz (b0j hz' ?_); grind -lia -linarith
   ·refine b0j hz (b0j hz' ?_); grind -lia -linarith
theorem a0R {p q r : Pt} (hp : onC p) (hq : onC q) (hr : onC r) : b0d (b0d p q) r = b0d p (b0d q r) := by
 cases p with
 | O => rfl
 | A x1 y1 => cases q with
  | O => cases r <;> rfl
  | A x2 y2 => cases r with
   | O => rw [b0U, b0U]
   | A x3 y3 =>
    have h1 : y1 * y1 = x1 * x1 * x1 + 7 := hp
    have h2 : y2 * y2 = x2 * x2 * x2 + 7 := hq
    have h3 : y3 * y3 = x3 * x3 * x3 + 7 := hr
    have hA := r0e (r0b h1 h2) h3 (w0m (r0c h1 h2))
    have hB := r0e (r0b h2 h3) h1 (w0m (r0c h2 h3))
    have hass := z0o x1 x2 x3 y1 y2 y3 h1 h2 h3
    rw [c0B (.A x1 y1) (b0d _ _)]
    show b0d (nm _ _ _) (.A x3 y3) = b0d (nm _ _ _) (.A x1 y1)
    rw [hA.1, hB.1]
    have swX : ∀ X Y Z : K, cX X Y Z x1 y1 1 = cX x1 y1 1 X Y Z := fun X Y Z => by rw [h0t, h0t]; grind -lia -linarith
    have swY : ∀ X Y Z : K, cY X Y Z x1 y1 1 = cY x1 y1 1 X Y Z := fun X Y Z => by rw [h0u, h0u]; grind -lia -linarith
    have swZ : ∀ X Y Z : K, cZ X Y Z x1 y1 1 = cZ x1 y1 1 X Y Z := fun X Y Z => by rw [f0n, f0n]; grind -lia -linarith
    have hB2 := hB.2
    rw [swX, swY, swZ] at hB2 ⊢
    exact w0n hA.2 hB2 hass.1 hass.2
end Mvq
namespace Mvq
theorem y0l {x1 y1 x2 y2 : K} (h1 : y1 * y1 = x1 * x1 * x1 + 7) (h2 : y2 * y2 = x2 * x2 * x2 + 7) : (x1*x2*(x1+x2) + 14 - 2*y1*y2) = (y2 - y1) * (y2 - y1) - (x1 + x2) * ((x2 - x1) * (x2 - x1)) := by
 grind -lia -linarith
theorem y0m {x1 y1 x2 y2 : K} (h1 : y1 * y1 = x1 * x1 * x1 + 7) (h2 : y2 * y2 = x2 * x2 * x2 + 7) : cY x1 y1 1 x2 y2 1 * ((x2 - x1) * (x2 - x1) * (x2 - x1)) = ((y2 - y1) * (x1 * ((x2 - x1) * (x2 - x1)) - (x1*x2*(x1+x2) + 14 - 2*y1*y2)) - y1 * ((x2 - x1) * (x2 - x1) * (x2 - x1))) * cZ x1 y1 1 x2 y2 1 := by
 have eY : cY x1 y1 1 x2 y2 1 = x1*x1*x1*x2*x2*x2 + 7*x1*x1*x1+7*x2*x2*x2 - 392 + 63*x1*x1*x2+63*x1*x2*x2 := by rw [h0u]; grind -lia -linarith
 have eZ : cZ x1 y1 1 x2 y2 1 = x1*x1*x1*y2 + 28*y2+28*y1+x2*x2*x2*y1+3*x1*x1*x2*y2+3*x1*x2*x2*y1 := by rw [f0n]; grind -lia -linarith
 rw [eY, eZ]
 clear eY eZ
 grind -lia -linarith
theorem i0u {x1 y1 x2 y2 u : K} (h1 : y1 * y1 = x1 * x1 * x1 + 7) (h2 : y2 * y2 = x2 * x2 * x2 + 7) (hd : (x2 - x1) * u = 1) :
  b0d (.A x1 y1) (.A x2 y2) = .A (((y2 - y1) * u) * ((y2 - y1) * u) - x1 - x2) (((y2 - y1) * u) * (x1 - (((y2 - y1) * u) * ((y2 - y1) * u) - x1 - x2)) - y1) := by
 have hz : cZ x1 y1 1 x2 y2 1 ≠ 0 := fun h => by
  obtain ⟨rfl, -⟩ := v0a h1 h2 h
  have : (0 : K) = 1 := by rw [← hd]; grind -lia -linarith
  exact absurd this (by decide)
 show nm _ _ _ = _
 have hd0 : x2 - x1 ≠ 0 := fun h => by
  rw [h] at hd
  have : (0 : K) = 1 := by rw [← hd]; grind -lia -linarith
  exact absurd this (by decide)
 have eX : cX x1 y1 1 x2 y2 1 * ((x2 - x1) * (x2 - x1)) = (x1*x2*(x1+x2) + 14 - 2*y1*y2) * cZ x1 y1 1 x2 y2 1 := by
  rw [h0t, f0n]; grind -lia -linarith
 have e4 : (x1*x2*(x1+x2) + 14 - 2*y1*y2) = (y2 - y1) * (y2 - y1) - (x1 + x2) * ((x2 - x1) * (x2 - x1)) := y0l h1 h2
 have eY := y0m h1 h2
 rw [e4] at eX eY
 unfold nm
 rw [if_neg hz]
 have hv := a0U hz
 generalize c0k (cZ x1 y1 1 x2 y2 1) = v at *
 generalize cX x1 y1 1 x2 y2 1 = X at *
 generalize cY x1 y1 1 x2 y2 1 = Y at *
 generalize cZ x1 y1 1 x2 y2 1 = Z at *
 clear h1 h2 e4
 generalize hdd : x2 - x1 = d at *
 generalize y2 - y1 = n at *
 have hx2 : x2 = x1 + d := by rw [← hdd]; grind -lia -linarith
 subst hx2
 clear hdd
 congr 1
 ·refine b0j hd0 (b0j hd0 (b0j hz ?_)); grind -lia -linarith
 ·refine b0j hd0 (b0j hd0 (b0j hd0 (b0j hz ?_))); grind -lia -linarith
theorem f0W {x y u : K} (h : y * y = x * x * x + 7) (hd : (2 * y) * u = 1) :
  b0d (.A x y) (.A x y) = .A ((3 * x * x * u) * (3 * x * x * u) - x - x) ((3 * x * x * u) * (x - ((3 * x * x * u) * (3 * x * x * u) - x - x)) - y) := by
 have hy := t0A h
 have h2y : (2 : K) * y ≠ 0 := fun h => (a0x h).elim i0t hy
 have eZ : cZ x y 1 x y 1 = (2 * y) * (2 * y) * (2 * y) := by rw [f0n]; grind -lia -linarith
 have eX : cX x y 1 x y 1 = (2 * y) * (9 * x * x * x * x - 2 * x * ((2 * y) * (2 * y))) := by rw [h0t]; grind -lia -linarith
 have eY : cY x y 1 x y 1 = 3 * x * x * (x * ((2 * y) * (2 * y)) - (9 * x * x * x * x - 2 * x * ((2 * y) * (2 * y)))) - y * ((2 * y) * (2 * y) * (2 * y)) := by rw [h0u]; grind -lia -linarith
 show nm _ _ _ = _
 have hz : cZ x y 1 x y 1 ≠ 0 := by
  rw [eZ]; exact fun h => (a0x h).elim (fun h => (a0x h).elim h2y h2y) h2y
 unfold nm
 rw [if_neg hz]
 have hv := a0U hz
 generalize c0k (cZ x y 1 x y 1) = v at *
 rw [eX, eY]
 rw [eZ] at hv
 clear eX eY eZ hz h
 generalize h2 : 2 * y = t at *
 congr 1
 ·refine b0j h2y (b0j h2y ?_); grind -lia -linarith
 ·refine b0j h2y (b0j h2y (b0j h2y ?_)); grind -lia -linarith
def jk (X Y Z : K) : Pt := if Z = 0 then .O else .A (X * (c0k Z * c0k Z)) (Y * (c0k Z * c0k Z * c0k Z))
theorem t0B {X Y Z : K} (hz : Z ≠ 0) : jk X Y Z = .A (X * (c0k Z * c0k Z)) (Y * (c0k Z * c0k Z * c0k Z)) := by unfold jk; rw [if_neg hz]
theorem w0o {X Y Z : K} (hz : Z = 0) : jk X Y Z = .O := by unfold jk; rw [if_pos hz]
theorem w0p {X Y Z x y : K} (hz : Z ≠ 0) (hx : X = x * (Z * Z)) (hy : Y = y * (Z * Z * Z)) : jk X Y Z = .A x y := by
 rw [t0B hz]
 have h1 := a0U hz
 generalize c0k Z = u at *
 subst hx hy
 congr 1
 ·grind -lia -linarith
 ·grind -lia -linarith
theorem h0v {X Y Z : K} (hz : Z ≠ 0) (h : onC (jk X Y Z)) : ∃ x y, jk X Y Z = .A x y ∧ y * y = x * x * x + 7 ∧ X = x * (Z * Z) ∧ Y = y * (Z * Z * Z) := by
 refine ⟨_, _, t0B hz, ?_, ?_, ?_⟩
 ·rw [t0B hz] at h; exact h
 ·have h1 := a0U hz
  generalize c0k Z = u at *
  grind -lia -linarith
 ·have h1 := a0U hz
  generalize c0k Z = u at *
  grind -lia -linarith
theorem r0f {X Y Z : K} (h : onC (jk X Y Z)) (hz : Z ≠ 0) (a b bb d e x' : K) (ha : a = X * X) (hb : b = Y * Y) (hbb : bb = b * b) (hd : d = 2 * ((X + b) * (X + b) - (a + bb))) (he : e = 3 * a) (hx : x' = e * e - (d + d)) :
  jk x' (e * (d - x') - 8 * bb) (2 * (Y * Z)) = b0d (jk X Y Z) (jk X Y Z) := by
 obtain ⟨x, y, e0, hon, hX, hY⟩ := h0v hz h
 have hy := t0A hon
 have h2y : (2 : K) * y ≠ 0 := fun h => (a0x h).elim i0t hy
 have hu := a0U h2y
 rw [e0, f0W hon hu]
 generalize c0k (2 * y) = u at *
 have hz4 : Z * Z * (Z * Z) ≠ 0 := fun h => (a0x h).elim (fun h => (a0x h).elim hz hz) (fun h => (a0x h).elim hz hz)
 have eZ : 2 * (Y * Z) = (2 * y) * (Z * Z * (Z * Z)) := by rw [hY]; grind -lia -linarith
 refine w0p (by rw [eZ]; exact fun h => (a0x h).elim h2y hz4) ?_ ?_
 ·rw [eZ]; subst hx he hd hbb hb ha hX hY; clear e0 h hon hz4 h2y hy eZ hz
  grind -lia -linarith
 ·rw [eZ]; subst hx he hd hbb hb ha hX hY; clear e0 h hon hz4 h2y hy eZ hz
  grind -lia -linarith
theorem w0q {X1 Y1 Z1 X2 Y2 Z2 : K} (hp : onC (jk X1 Y1 Z1)) (hq : onC (jk X2 Y2 Z2)) (hz1 : Z1 ≠ 0) (hz2 : Z2 ≠ 0) (u1 u2 s1 s2 h r hh hhh v x : K) (e1 : u1 = X1 * (Z2 * Z2)) (e2 : u2 = X2 * (Z1 * Z1)) (e3 : s1 = Y1 * (Z2 * Z2 * Z2)) (e4 : s2 = Y2 * (Z1 * Z1 * Z1))
  (eh : h = u2 - u1) (er : r = s2 - s1) (hn : h ≠ 0) (ehh : hh = h * h) (ehhh : hhh = hh * h) (ev : v = u1 * hh) (ex : x = r * r - (hhh + (v + v))) :
  jk x (r * (v - x) - s1 * hhh) (h * (Z1 * Z2)) = b0d (jk X1 Y1 Z1) (jk X2 Y2 Z2) := by
 obtain ⟨x1, y1, f1, o1, hX1, hY1⟩ := h0v hz1 hp
 obtain ⟨x2, y2, f2, o2, hX2, hY2⟩ := h0v hz2 hq
 have hzz : Z1 * Z2 ≠ 0 := fun h => (a0x h).elim hz1 hz2
 have ehd : h = (x2 - x1) * ((Z1 * Z2) * (Z1 * Z2)) := by rw [eh, e1, e2, hX1, hX2]; grind -lia -linarith
 have erd : r = (y2 - y1) * ((Z1 * Z2) * (Z1 * Z2) * (Z1 * Z2)) := by rw [er, e3, e4, hY1, hY2]; grind -lia -linarith
 have eu : u1 = x1 * ((Z1 * Z2) * (Z1 * Z2)) := by rw [e1, hX1]; grind -lia -linarith
 have es : s1 = y1 * ((Z1 * Z2) * (Z1 * Z2) * (Z1 * Z2)) := by rw [e3, hY1]; grind -lia -linarith
 have hd0 : x2 - x1 ≠ 0 := fun hh => hn (by rw [ehd, hh]; grind -lia -linarith)
 have hu := a0U hd0
 rw [f1, f2, i0u o1 o2 hu]
 generalize c0k (x2 - x1) = u at *
 refine w0p (fun hh => (a0x hh).elim hn hzz) ?_ ?_
 ·subst ex ev ehhh ehh
  rw [erd, eu, ehd]
  clear e1 e2 e3 e4 eh er hn erd eu es ehd hX1 hX2 hY1 hY2 f1 f2 o1 o2 hp hq hz1 hz2 hd0
  generalize Z1 * Z2 = z at *
  generalize hdd : x2 - x1 = d at *
  have hx2 : x2 = x1 + d := by rw [← hdd]; grind -lia -linarith
  subst hx2; clear hdd
  generalize y2 - y1 = n at *
  grind -lia -linarith
 ·subst ex ev ehhh ehh
  rw [erd, eu, ehd, es]
  clear e1 e2 e3 e4 eh er hn erd eu es ehd hX1 hX2 hY1 hY2 f1 f2 o1 o2 hp hq hz1 hz2 hd0
  generalize Z1 * Z2 = z at *
  generalize hdd : x2 - x1 = d at *
  have hx2 : x2 = x1 + d := by rw [← hdd]; grind -lia -linarith
  subst hx2; clear hdd
  generalize y2 - y1 = n at *
  grind -lia -linarith
theorem w0r {X1 Y1 Z1 X2 Y2 Z2 : K} (hp : onC (jk X1 Y1 Z1)) (hq : onC (jk X2 Y2 Z2)) (hz1 : Z1 ≠ 0) (hz2 : Z2 ≠ 0) (h : X2 * (Z1 * Z1) - X1 * (Z2 * Z2) = 0) :
  (Y2 * (Z1 * Z1 * Z1) - Y1 * (Z2 * Z2 * Z2) = 0 → jk X2 Y2 Z2 = jk X1 Y1 Z1) ∧ (Y2 * (Z1 * Z1 * Z1) - Y1 * (Z2 * Z2 * Z2) ≠ 0 → b0d (jk X1 Y1 Z1) (jk X2 Y2 Z2) = .O) := by
 obtain ⟨x1, y1, f1, o1, hX1, hY1⟩ := h0v hz1 hp
 obtain ⟨x2, y2, f2, o2, hX2, hY2⟩ := h0v hz2 hq
 have hzz : Z1 * Z2 ≠ 0 := fun h => (a0x h).elim hz1 hz2
 have hx : x2 = x1 := by
  refine b0j hzz (b0j hzz ?_)
  rw [hX1, hX2] at h; grind -lia -linarith
 subst hx
 have hyy : (y2 - y1) * (y2 + y1) = 0 := by grind -lia -linarith
 refine ⟨fun hy => ?_, fun hy => ?_⟩
 ·have : y2 = y1 := by
   refine b0j hzz (b0j hzz (b0j hzz ?_))
   rw [hY1, hY2] at hy; grind -lia -linarith
  rw [f1, f2, this]
 ·rcases a0x hyy with h1 | h1
  ·exfalso
   refine hy ?_
   have e : y2 = y1 := by grind -lia -linarith
   rw [hY1, hY2, e]; grind -lia -linarith
  ·have e : y2 = -y1 := by grind -lia -linarith
   rw [f1, f2, e]
   exact d0S (p := .A x2 y1)
def b0D : Nat → Pt → Pt
 | 0, _ => .O
 | n + 1, p => b0d (b0D n p) p
theorem b0x {p : Pt} (hp : onC p) : ∀ n, onC (b0D n p)
 | 0 => trivial
 | n + 1 => c0u (b0x hp n) hp
theorem b0V {p : Pt} (hp : onC p) (m : Nat) : ∀ n, b0D (m + n) p = b0d (b0D m p) (b0D n p)
 | 0 => (b0U _).symm
 | n + 1 => by
  show b0d (b0D (m + n) p) p = b0d (b0D m p) (b0d (b0D n p) p)
  rw [b0V hp m n, a0R (b0x hp m) (b0x hp n) hp]
theorem j0t {p : Pt} (hp : onC p) (m : Nat) : ∀ n, b0D (m * n) p = b0D n (b0D m p)
 | 0 => rfl
 | n + 1 => by
  rw [Nat.mul_succ, b0V hp, j0t hp m n]; rfl
theorem r0g : ∀ n, b0D n .O = .O
 | 0 => rfl
 | n + 1 => by rw [b0D, r0g n]; rfl
theorem k0V {p q : Pt} (hp : onC p) (hq : onC q) : ∀ n, b0D n (b0d p q) = b0d (b0D n p) (b0D n q)
 | 0 => rfl
 | n + 1 => by
  have h1 := b0x hp n
  have h2 := b0x hq n
  simp only [b0D]
  rw [k0V hp hq n, a0R h1 h2 (c0u hp hq), a0R h1 hp (c0u h2 hq), ← a0R h2 hp hq, c0B (b0D n q) p, a0R hp h2 hq]
end Mvq
namespace Mvq
theorem r0h : Mvp.pP = fP := by decide
theorem f0E (a b : Nat) : kc (a + b) = kc a + kc b := by rw [← u0X, e0j]
theorem c0v (a b : Nat) : kc (a + (fP - b % fP)) = kc a - kc b := by
 have h : kc (a + (fP - b % fP)) + kc b = kc a := by
  rw [← f0E]
  apply Fin.ext
  simp only [kc, Fin.ofNat]
  have h1 := Nat.div_add_mod b fP
  have h2 : b % fP < fP := Nat.mod_lt _ (by decide)
  rw [show a + (fP - b % fP) + b = a + fP * (b / fP + 1) by rw [Nat.mul_add]; omega, Nat.add_mul_mod_self_left]
 rw [← h]; generalize kc b = u; generalize kc (a + (fP - b % fP)) = v; grind -lia -linarith
theorem r0i (b : Nat) : kc (fP - b % fP) = - kc b := by
 have h := c0v 0 b
 rw [Nat.zero_add] at h
 have h0 : kc 0 = 0 := by decide
 rw [h, h0]; generalize kc b = u; grind -lia -linarith
theorem r0j (a : Nat) : (a % fP == 0) = decide (kc a = 0) := by
 rw [Bool.eq_iff_iff]
 simp only [beq_iff_eq, decide_eq_true_eq]
 constructor
 ·intro h
  apply Fin.ext
  simp only [kc, Fin.ofNat]
  exact h
 ·intro h
  have := congrArg Fin.val h
  exact this
theorem y0n (a b : Nat) : (a % fP == b % fP) = decide (kc a = kc b) := by
 rw [Bool.eq_iff_iff]
 simp only [beq_iff_eq, decide_eq_true_eq]
 constructor
 ·intro h
  apply Fin.ext
  simp only [kc, Fin.ofNat]
  exact h
 ·intro h
  have := congrArg Fin.val h
  simpa only [kc, Fin.ofNat] using this
theorem t0C {X Y Z : K} (hz : Z ≠ 0) : nm X Y Z = .A (X * c0k Z) (Y * c0k Z) := by unfold nm; rw [if_neg hz]
theorem x0l {X Y Z : K} (hz : Z = 0) : nm X Y Z = .O := by unfold nm; rw [if_pos hz]
theorem o0V {X Y Z x y : K} (hz : Z ≠ 0) (hx : X = x * Z) (hy : Y = y * Z) : nm X Y Z = .A x y := by
 rw [t0C hz]
 have h1 := a0U hz
 generalize c0k Z = u at *
 subst hx hy
 congr 1
 ·grind -lia -linarith
 ·grind -lia -linarith
theorem h0w {X Y Z : K} (hz : Z ≠ 0) (h : onC (nm X Y Z)) : ∃ x y, nm X Y Z = .A x y ∧ y * y = x * x * x + 7 ∧ X = x * Z ∧ Y = y * Z := by
 refine ⟨_, _, t0C hz, ?_, ?_, ?_⟩
 ·rw [t0C hz] at h; exact h
 ·have h1 := a0U hz
  generalize c0k Z = u at *
  grind -lia -linarith
 ·have h1 := a0U hz
  generalize c0k Z = u at *
  grind -lia -linarith
theorem k0W {X Y Z : K} (h : onC (nm X Y Z)) (hz : Z ≠ 0) (xx d e ee eee t : K) (h1 : xx = X * X) (h2 : d = 3 * xx) (h3 : e = 2 * Y * Z) (h4 : ee = e * e) (h5 : eee = ee * e) (h6 : t = d * d * Z - 2 * X * ee) :
  nm (e * t) (d * (X * ee - t) - Y * eee) (eee * Z) = b0d (nm X Y Z) (nm X Y Z) := by
 obtain ⟨x, y, e0, hon, hX, hY⟩ := h0w hz h
 have hy := t0A hon
 have h2y : (2 : K) * y ≠ 0 := fun h => (a0x h).elim i0t hy
 have hu := a0U h2y
 rw [e0, f0W hon hu]
 generalize c0k (2 * y) = u at *
 have he : e = (2 * y) * (Z * Z) := by rw [h3, hY]; grind -lia -linarith
 have hzz : Z * Z ≠ 0 := fun h => (a0x h).elim hz hz
 have he0 : e ≠ 0 := by rw [he]; exact fun h => (a0x h).elim h2y hzz
 refine o0V (by rw [h5, h4]; exact fun h => (a0x h).elim (fun h => (a0x h).elim (fun h => (a0x h).elim he0 he0) he0) hz) ?_ ?_
 ·subst h6 h5 h4 h2 h1 hX hY
  rw [he]
  clear e0 h hon hzz h2y hy hz he0 he h3
  grind -lia -linarith
 ·subst h6 h5 h4 h2 h1 hX hY
  rw [he]
  clear e0 h hon hzz h2y hy hz he0 he h3
  grind -lia -linarith
theorem r0k {X1 Y1 Z1 X2 Y2 Z2 : K} (hp : onC (nm X1 Y1 Z1)) (hq : onC (nm X2 Y2 Z2)) (hz1 : Z1 ≠ 0) (hz2 : Z2 ≠ 0) (u v u2 v2 d e w ee eee t : K) (e1 : u = Y2 * Z1) (e2 : v = X2 * Z1) (e3 : u2 = Y1 * Z2) (e4 : v2 = X1 * Z2)
  (ed : d = u - u2) (ee' : e = v - v2) (hn : e ≠ 0) (ew : w = Z1 * Z2) (h4 : ee = e * e) (h5 : eee = ee * e) (h6 : t = d * d * w - eee - 2 * v2 * ee) :
  nm (e * t) (d * (v2 * ee - t) - u2 * eee) (eee * w) = b0d (nm X1 Y1 Z1) (nm X2 Y2 Z2) := by
 obtain ⟨x1, y1, f1, o1, hX1, hY1⟩ := h0w hz1 hp
 obtain ⟨x2, y2, f2, o2, hX2, hY2⟩ := h0w hz2 hq
 have hzz : w ≠ 0 := by rw [ew]; exact fun h => (a0x h).elim hz1 hz2
 have ehd : e = (x2 - x1) * w := by rw [ee', e2, e4, hX1, hX2, ew]; grind -lia -linarith
 have erd : d = (y2 - y1) * w := by rw [ed, e1, e3, hY1, hY2, ew]; grind -lia -linarith
 have eu : v2 = x1 * w := by rw [e4, hX1, ew]; grind -lia -linarith
 have es : u2 = y1 * w := by rw [e3, hY1, ew]; grind -lia -linarith
 have hd0 : x2 - x1 ≠ 0 := fun hh => hn (by rw [ehd, hh]; grind -lia -linarith)
 have hu := a0U hd0
 rw [f1, f2, i0u o1 o2 hu]
 generalize c0k (x2 - x1) = z at *
 refine o0V (by rw [h5, h4]; exact fun h => (a0x h).elim (fun h => (a0x h).elim (fun h => (a0x h).elim hn hn) hn) hzz) ?_ ?_
 ·subst h6 h5 h4
  rw [erd, eu, ehd]
  clear e1 e2 e3 e4 ed ee' hn erd eu es ehd hX1 hX2 hY1 hY2 f1 f2 o1 o2 hp hq hz1 hz2 hd0 ew hzz
  generalize hdd : x2 - x1 = dd at *
  have hx2 : x2 = x1 + dd := by rw [← hdd]; grind -lia -linarith
  subst hx2; clear hdd
  generalize y2 - y1 = n at *
  grind -lia -linarith
 ·subst h6 h5 h4
  rw [erd, eu, ehd, es]
  clear e1 e2 e3 e4 ed ee' hn erd eu es ehd hX1 hX2 hY1 hY2 f1 f2 o1 o2 hp hq hz1 hz2 hd0 ew hzz
  generalize hdd : x2 - x1 = dd at *
  have hx2 : x2 = x1 + dd := by rw [← hdd]; grind -lia -linarith
  subst hx2; clear hdd
  generalize y2 - y1 = n at *
  grind -lia -linarith
theorem w0s {X1 Y1 Z1 X2 Y2 Z2 : K} (hp : onC (nm X1 Y1 Z1)) (hq : onC (nm X2 Y2 Z2)) (hz1 : Z1 ≠ 0) (hz2 : Z2 ≠ 0) (h : X2 * Z1 = X1 * Z2) :
  (Y2 * Z1 = Y1 * Z2 → nm X2 Y2 Z2 = nm X1 Y1 Z1) ∧ (Y2 * Z1 ≠ Y1 * Z2 → b0d (nm X1 Y1 Z1) (nm X2 Y2 Z2) = .O) ∧ Y2 * Z1 ≠ 0 := by
 obtain ⟨x1, y1, f1, o1, hX1, hY1⟩ := h0w hz1 hp
 obtain ⟨x2, y2, f2, o2, hX2, hY2⟩ := h0w hz2 hq
 have hzz : Z1 * Z2 ≠ 0 := fun h => (a0x h).elim hz1 hz2
 have hx : x2 = x1 := by
  refine b0j hzz ?_
  rw [hX1, hX2] at h; grind -lia -linarith
 subst hx
 have hyy : (y2 - y1) * (y2 + y1) = 0 := by grind -lia -linarith
 refine ⟨fun hy => ?_, fun hy => ?_, fun hy => ?_⟩
 ·have : y2 = y1 := by
   refine b0j hzz ?_
   rw [hY1, hY2] at hy; grind -lia -linarith
  rw [f1, f2, this]
 ·rcases a0x hyy with h1 | h1
  ·exfalso
   refine hy ?_
   have e : y2 = y1 := by grind -lia -linarith
   rw [hY1, hY2, e]; grind -lia -linarith
  ·have e : y2 = -y1 := by grind -lia -linarith
   rw [f1, f2, e]
   exact d0S (p := .A x2 y1)
 ·have hy2 := t0A o2
  rcases a0x hy with h1 | h1
  ·rw [hY2] at h1; exact (a0x h1).elim hy2 hz2
  ·exact hz1 h1
def h0x : List (Nat × Pt) → Pt
 | [] => .O
 | (n, p) :: l => b0d (b0D n p) (h0x l)
theorem h0y : ∀ (l : List (Nat × Pt)), (∀ t ∈ l, onC t.2) → onC (h0x l)
 | [], _ => trivial
 | (n, p) :: l, h => c0u (b0x (h (n, p) (by simp)) n) (h0y l fun t ht => h t (List.mem_cons_of_mem _ ht))
def p0q (k : Nat) (l : List (Nat × Pt)) : List (Nat × Pt) := l.map fun t => (t.1 / 16 ^ k, t.2)
def dig (k n : Nat) : Nat := n / 16 ^ k % 16
theorem k0X (k : Nat) : ∀ (l : List (Nat × Pt)), (∀ t ∈ l, onC t.2) → h0x (p0q k l) = b0d (b0D 16 (h0x (p0q (k + 1) l))) (h0x (l.map fun t => (dig k t.1, t.2)))
 | [], _ => (by rw [show h0x (p0q (k + 1) []) = .O from rfl, r0g]; rfl)
 | (n, p) :: l, h => by
  have hl : ∀ t ∈ l, onC t.2 := fun t ht => h t (List.mem_cons_of_mem _ ht)
  have hp : onC p := h (n, p) (by simp)
  have ih := k0X k l hl
  have hL : onC (h0x (p0q (k + 1) l)) := h0y _ fun t ht => by
   obtain ⟨u, hu, rfl⟩ := List.mem_map.1 ht; exact hl u hu
  have hD : onC (h0x (l.map fun t => (dig k t.1, t.2))) := h0y _ fun t ht => by
   obtain ⟨u, hu, rfl⟩ := List.mem_map.1 ht; exact hl u hu
  show b0d (b0D (n / 16 ^ k) p) (h0x (p0q k l)) = b0d (b0D 16 (b0d (b0D (n / 16 ^ (k + 1)) p) (h0x (p0q (k + 1) l)))) (b0d (b0D (dig k n) p) (h0x (l.map fun t => (dig k t.1, t.2))))
  have e : n / 16 ^ k = n / 16 ^ (k + 1) * 16 + dig k n := by
   unfold dig; rw [Nat.pow_succ, ← Nat.div_div_eq_div_mul]; omega
  rw [ih, e, b0V hp, j0t hp, k0V (b0x hp _) hL]
  generalize hA : b0D 16 (b0D (n / 16 ^ (k + 1)) p) = a
  generalize hB : b0D (dig k n) p = b
  generalize hC : b0D 16 (h0x (p0q (k + 1) l)) = c
  generalize hDD : h0x (l.map fun t => (dig k t.1, t.2)) = d at *
  have ha : onC a := by rw [← hA]; exact b0x (b0x hp _) _
  have hb : onC b := by rw [← hB]; exact b0x hp _
  have hc : onC c := by rw [← hC]; exact b0x hL _
  rw [a0R ha hb (c0u hc hD), a0R ha hc (c0u hb hD), ← a0R hb hc hD, ← a0R hc hb hD, c0B b c]
theorem w0t {p : Pt} (hp : onC p) : b0D 16 p = b0d (b0d (b0d (b0d p p) (b0d p p)) (b0d (b0d p p) (b0d p p))) (b0d (b0d (b0d p p) (b0d p p)) (b0d (b0d p p) (b0d p p))) := by
 have h2 : ∀ q, b0d q q = b0D 2 q := fun q => by show _ = b0d (b0d .O q) q; rfl
 have e2 : b0d p p = b0D 2 p := h2 p
 have e4 : b0d (b0D 2 p) (b0D 2 p) = b0D 4 p := (b0V hp 2 2).symm
 have e8 : b0d (b0D 4 p) (b0D 4 p) = b0D 8 p := (b0V hp 4 4).symm
 have e16 : b0d (b0D 8 p) (b0D 8 p) = b0D 16 p := (b0V hp 8 8).symm
 rw [e2, e4, e8, e16]
theorem n0E {p : Pt} (hp : onC p) (n k : Nat) : b0D (n / 2 ^ k) p = b0d (b0d (b0D (n / 2 ^ (k + 1)) p) (b0D (n / 2 ^ (k + 1)) p)) (if n / 2 ^ k % 2 = 1 then p else .O) := by
 have e : n / 2 ^ k = n / 2 ^ (k + 1) + n / 2 ^ (k + 1) + n / 2 ^ k % 2 := by
  rw [Nat.pow_succ, ← Nat.div_div_eq_div_mul]; omega
 have h1 : b0D (n / 2 ^ k % 2) p = if n / 2 ^ k % 2 = 1 then p else .O := by
  split
  ·rename_i h; rw [h]; exact r0d p
  ·rename_i h; rw [show n / 2 ^ k % 2 = 0 by omega]; rfl
 rw [← h1, ← b0V hp, ← b0V hp, ← e]
end Mvq
namespace Mvq
open Mvp
def jN (x y z : Nat) : Pt := jk (kc x) (kc y) (kc z)
theorem j0u (M : Nat) (hM : M = fP) (a b : Nat) : kc (a + (M - b % M)) = kc a - kc b := by subst hM; exact c0v a b
theorem p0r (M : Nat) (hM : M = fP) (z : Nat) (b : Bool) (h : (z % M == 0) = b) : decide (kc z = 0) = b := by subst hM; rw [← r0j]; exact h
theorem c0Z : mP.M = fP := r0h
end Mvq
namespace Go.Proofs.YtemcankmggmgoaaGreatDoor
section
open Go.RowKit Go.Mv Mvp Mvq
theorem k0Y (x y z : Nat) (ho : onC (jN x y z)) :
  ∃ X Y Z, jN X Y Z = b0d (jN x y z) (jN x y z) ∧ ∀ gc gp bx by_ wx, Has wx gc (e0A mP gp bx by_) 86 → Has wx gp (mdL mP) 115 → Calls Tryz.prog 101 #[.pointer (some ⟨gc, 0, none⟩), ptV mP x y z] wx fun e w' => e = .returned (ptV mP X Y Z) ∧ Fr Nob wx w' := by
 cases hb : (z % mP.M == 0)
 ·have hz : kc z ≠ 0 := by
   have := p0r _ c0Z z _ hb
   simpa using this
  refine ⟨_, _, _, ?_, fun gc gp bx by_ wx hcv hpm => t0t mP gc gp bx by_ wx c0a hcv hpm x y z hb _ _ _ _ _ _ _ _ _ _ _ _ _ _ _ _ _ _ _ _ _ rfl rfl rfl rfl rfl rfl rfl rfl rfl rfl rfl rfl rfl rfl rfl rfl rfl rfl rfl rfl rfl⟩
  have h := r0f ho hz _ _ _ _ _ _ rfl rfl rfl rfl rfl rfl
  unfold jN at *
  rw [← h]
  simp only [j0u _ c0Z, f0E, a0E]
  generalize kc x = a; generalize kc y = b; generalize kc z = c
  congr 1
  ·grind -lia -linarith
  ·grind -lia -linarith
  ·grind -lia -linarith
 ·have hz : kc z = 0 := by
   have := p0r _ c0Z z _ hb
   simpa using this
  refine ⟨x, y, z, ?_, fun gc gp bx by_ wx hcv hpm => m0i mP gc gp bx by_ wx c0a hcv hpm x y z hb⟩
  unfold jN
  rw [w0o hz]; rfl
end
section
open Go.RowKit Go.Mv Mvp
attribute [local irreducible] a0J lw mix cw b0t b0G b0q a0P a0u beN laid b0o b0H a0M a0V elN mdL b0R
theorem h0z (m : Md) (gc gp bx by_ : Nat) (w : World) (hok : m.Ok) (hcv : Has w gc (e0A m gp bx by_) 86) (hpm : Has w gp (mdL m) 115) :
  Calls Tryz.prog 97 #[.pointer (some ⟨gc, 0, none⟩)] w fun e w' => e = .returned (ptV m 1 1 0) ∧ Fr Nob w w' := by
 have HOK := qH hok
 have HCV := qH hcv
 have HPM := qH hpm
 clear hok hcv hpm
 have st0 := St.start Nob w
 go_enter Tryz.func97, Tryz.ntmps97
 go_wp2_with (with_reducible refine wSk 2 ?_)
 refine a0b st0 rfl rfl (z := zAc) (by kernel_rfl) (cw 12 0) (by rw [a0f]; rfl) ?_
 intro g2 w1 st1
 clear st0
 go_wp2_with fail
 refine wp_region_noPanic ?_
 refine a0g st1 11 [.w 0, .w 1, .w 2, .t 3, .w 5, .w 6, .w 7, .t 8, .c 4, .c 9, .w 10] (.m 11 .nil) (by kernel_rfl) (by kernel_rfl) (fun _ _ _ _ _ h => h) ?_
 clear st1
 iterate 3 (refine a0n (v := ?_) rfl rfl (fun xq wx => ?_) ?_; rotate_left 1; · (go_simp; with_reducible rfl); try simp only [clL])
 refine b0a (v := ?_) rfl rfl (fun xq wx hS => ?_) ?_
 rotate_left 1
 ·(have hc := (HCV.out.keep (St.fr hS) id).cell (i := 0) rfl; clear hS; go_simp; with_reducible rfl)
 try simp only [clL]
 iterate 3 (refine a0n (v := ?_) rfl rfl (fun xq wx => ?_) ?_; rotate_left 1; · (go_simp; with_reducible rfl); try simp only [clL])
 refine b0a (v := ?_) rfl rfl (fun xq wx hS => ?_) ?_
 rotate_left 1
 ·(have hc := (HCV.out.keep (St.fr hS) id).cell (i := 0) rfl; clear hS; go_simp; with_reducible rfl)
 try simp only [clL]
 refine a0c rfl rfl rfl Tryz.call71 (fun w hS hR => d0M m gp _ HOK.out (HPM.out.keep hS.fr id)) (fun _ => rfl) ?_
 try simp only [clL]
 refine a0c rfl rfl rfl Tryz.call71 (fun w hS hR => d0M m gp _ HOK.out (HPM.out.keep hS.fr id)) (fun _ => rfl) ?_
 try simp only [clL]
 refine a0n rfl rfl (fun _ => b0z rfl _ (q0V _ _)) ?_
 try simp only [clL]
 refine a0y fun xq w2 st2 hR => ?_
 try dsimp only
 clear hR xq
 refine a0r rfl rfl ?_
 refine a0j st2 0 rfl rfl rfl rfl (by simp [a0a]) (by kernel_rfl) (a0Z _ _ _) ?_
 intro w3 st3
 try simp only [List.nil_append, List.set_cons_zero] at st3
 clear st2
 try simp only [Act.put]
 refine a0k ?_
 refine NoPanic.normal ?_
 have hr := st3.at 0 rfl
 have hfr := st3.fr
 clear st3
 go_wp2_with fail
 exact bodyPost_ret (a0F rfl rfl hr Tryz.underlying78 rfl (by kernel_rfl)) rfl ⟨by unfold ptV ptL; rw [d0m], hfr⟩
theorem k0Z (m : Md) (gc gp bx by_ : Nat) (w : World) (hok : m.Ok) (hcv : Has w gc (e0A m gp bx by_) 86) (hpm : Has w gp (mdL m) 115) :
  Calls Tryz.prog 97 #[.pointer (some ⟨gc, 0, none⟩)] w fun e w' => e = .returned (.agg (cw 4 (elN m 1) ++ (cw 4 (elN m 1) ++ cw 4 (elN m 0))).toArray) ∧ Fr Nob w w' := h0z m gc gp bx by_ w hok hcv hpm
theorem o0W (m : Md) (gc gp bx by_ : Nat) (w : World) (hok : m.Ok) (hcv : Has w gc (e0A m gp bx by_) 86) (hpm : Has w gp (mdL m) 115) (x1 y1 z1 x2 y2 z2 : Nat) (hb1 : (z1 % m.M == 0) = true) :
  Calls Tryz.prog 102 #[.pointer (some ⟨gc, 0, none⟩), ptV m x1 y1 z1, ptV m x2 y2 z2] w fun e w' => e = .returned (ptV m x2 y2 z2) ∧ Fr Nob w w' := by
 have HOK := qH hok
 have HCV := qH hcv
 have HPM := qH hpm
 clear hok hcv hpm
 have HB1 := qH hb1
 clear hb1
 unfold ptV ptL
 have st0 := St.start Nob w
 go_enter Tryz.func102, Tryz.ntmps102
 go_wp2_with (with_reducible refine wSk 4 ?_)
 refine a0m st0 rfl rfl rfl (cw 4 (elN m x1) ++ (cw 4 (elN m y1) ++ cw 4 (elN m z1))) rfl ?_
 intro g4 w1 st1
 clear st0
 go_wp2_with (with_reducible refine wSk 5 ?_)
 refine a0m st1 rfl rfl rfl (cw 4 (elN m x2) ++ (cw 4 (elN m y2) ++ cw 4 (elN m z2))) rfl ?_
 intro g5 w2 st2
 clear st1
 go_wp2_with (with_reducible refine wSk 6 ?_)
 refine a0b st2 rfl rfl (z := zAc) (by kernel_rfl) (cw 12 0) (by rw [a0f]; rfl) ?_
 intro g6 w3 st3
 clear st2
 go_wp2_with (with_reducible refine wSk 20 ?_)
 refine a0o st3 0 rfl rfl rfl Tryz.underlying78 rfl rfl (by kernel_rfl) ?_
 go_wp2_with fail
 refine (c0Q m HOK.out x1 y1 z1 true HB1.out _).mono ?_
 rintro e' w4 ⟨rfl, hf4⟩
 have st4 := st3.keep hf4
 clear st3 hf4
 go_wp2_with (with_reducible refine wSk 22 ?_)
 refine a0o st4 1 rfl rfl rfl Tryz.underlying78 rfl rfl (by kernel_rfl) ?_
 go_wp2_with (with_reducible refine wSn ?_)
 refine a0d st4 2 rfl rfl rfl rfl rfl (by simp [a0a]) (by kernel_rfl) (a0Z _ _ _) ?_
 intro w5 st5
 clear st4
 have hr := st5.at 2 rfl
 have hfr := st5.fr
 clear st5
 go_wp2_with fail
 exact bodyPost_ret (a0F rfl rfl hr Tryz.underlying78 rfl (by kernel_rfl)) rfl ⟨rfl, hfr⟩
theorem o0X (m : Md) (gc gp bx by_ : Nat) (w : World) (hok : m.Ok) (hcv : Has w gc (e0A m gp bx by_) 86) (hpm : Has w gp (mdL m) 115) (x1 y1 z1 x2 y2 z2 : Nat) (hb1 : (z1 % m.M == 0) = false) (hb2 : (z2 % m.M == 0) = true) :
  Calls Tryz.prog 102 #[.pointer (some ⟨gc, 0, none⟩), ptV m x1 y1 z1, ptV m x2 y2 z2] w fun e w' => e = .returned (ptV m x1 y1 z1) ∧ Fr Nob w w' := by
 have HOK := qH hok
 have HCV := qH hcv
 have HPM := qH hpm
 clear hok hcv hpm
 have HB1 := qH hb1
 have HB2 := qH hb2
 clear hb1 hb2
 unfold ptV ptL
 have st0 := St.start Nob w
 go_enter Tryz.func102, Tryz.ntmps102
 go_wp2_with (with_reducible refine wSk 4 ?_)
 refine a0m st0 rfl rfl rfl (cw 4 (elN m x1) ++ (cw 4 (elN m y1) ++ cw 4 (elN m z1))) rfl ?_
 intro g4 w1 st1
 clear st0
 go_wp2_with (with_reducible refine wSk 5 ?_)
 refine a0m st1 rfl rfl rfl (cw 4 (elN m x2) ++ (cw 4 (elN m y2) ++ cw 4 (elN m z2))) rfl ?_
 intro g5 w2 st2
 clear st1
 go_wp2_with (with_reducible refine wSk 6 ?_)
 refine a0b st2 rfl rfl (z := zAc) (by kernel_rfl) (cw 12 0) (by rw [a0f]; rfl) ?_
 intro g6 w3 st3
 clear st2
 go_wp2_with (with_reducible refine wSk 20 ?_)
 refine a0o st3 0 rfl rfl rfl Tryz.underlying78 rfl rfl (by kernel_rfl) ?_
 go_wp2_with fail
 refine (c0Q m HOK.out x1 y1 z1 false HB1.out _).mono ?_
 rintro e' w4 ⟨rfl, hf4⟩
 have st4 := st3.keep hf4
 clear st3 hf4
 go_wp2_with (with_reducible refine wSk 24 ?_)
 refine a0o st4 1 rfl rfl rfl Tryz.underlying78 rfl rfl (by kernel_rfl) ?_
 go_wp2_with fail
 refine (c0Q m HOK.out x2 y2 z2 true HB2.out _).mono ?_
 rintro e' w5 ⟨rfl, hf5⟩
 have st5 := st4.keep hf5
 clear st4 hf5
 go_wp2_with (with_reducible refine wSk 26 ?_)
 refine a0o st5 0 rfl rfl rfl Tryz.underlying78 rfl rfl (by kernel_rfl) ?_
 go_wp2_with (with_reducible refine wSn ?_)
 refine a0d st5 2 rfl rfl rfl rfl rfl (by simp [a0a]) (by kernel_rfl) (a0Z _ _ _) ?_
 intro w6 st6
 clear st5
 have hr := st6.at 2 rfl
 have hfr := st6.fr
 clear st6
 go_wp2_with fail
 exact bodyPost_ret (a0F rfl rfl hr Tryz.underlying78 rfl (by kernel_rfl)) rfl ⟨rfl, hfr⟩
end
section
open Go.RowKit Go.Mv Mvp
attribute [local irreducible] a0J lw mix cw b0t b0G b0q a0P a0u beN laid b0o b0H a0M a0V elN mdL b0R
def z0p (b c : Bool) (u v x : Value) : Value := match b, c with
 | false, _ => x
 | true, false => v
 | true, true => u
theorem r0l (m : Md) (gc gp bx by_ : Nat) (w : World) (hok : m.Ok) (hcv : Has w gc (e0A m gp bx by_) 86) (hpm : Has w gp (mdL m) 115) (x1 y1 z1 x2 y2 z2 : Nat) (hb1 : (z1 % m.M == 0) = false) (hb2 : (z2 % m.M == 0) = false) (pp qq u1 u2 q3 s1 p3 s2 hd rr hh h3 v r2 v2 t1 X t2 t3 t4 Y zz Z DX DY DZ : Nat) (epp : z1 * z1 = pp) (eqq : z2 * z2 = qq) (eu1 : x1 * qq = u1) (eu2 : x2 * pp = u2) (eq3 : qq * z2 = q3) (es1 : y1 * q3 = s1) (ep3 : pp * z1 = p3) (es2 : y2 * p3 = s2) (ehd : u2 + (m.M - u1 % m.M) = hd) (err : s2 + (m.M - s1 % m.M) = rr) (ehh : hd * hd = hh) (eh3 : hh * hd = h3) (ev : u1 * hh = v) (er2 : rr * rr = r2) (ev2 : v + v = v2) (et1 : h3 + v2 = t1) (eX : r2 + (m.M - t1 % m.M) = X) (et2 : v + (m.M - X % m.M) = t2) (et3 : rr * t2 = t3) (et4 : s1 * h3 = t4) (eY : t3 + (m.M - t4 % m.M) = Y) (ezz : z1 * z2 = zz) (eZ : hd * zz = Z) (hd0 : ((hd % m.M == 0) = true → (rr % m.M == 0) = true → ∀ wx, Fr Nob w wx → Calls Tryz.prog 101 #[.pointer (some ⟨gc, 0, none⟩), ptV m x1 y1 z1] wx fun e w' => e = .returned (ptV m DX DY DZ) ∧ Fr Nob wx w')) :
  Calls Tryz.prog 102 #[.pointer (some ⟨gc, 0, none⟩), ptV m x1 y1 z1, ptV m x2 y2 z2] w fun e w' => e = .returned (z0p (hd % m.M == 0) (rr % m.M == 0) (ptV m DX DY DZ) (ptV m 1 1 0) (ptV m X Y Z)) ∧ Fr Nob w w' := by
 have HOK := qH hok
 have HCV := qH hcv
 have HPM := qH hpm
 clear hok hcv hpm
 have HB1 := qH hb1
 have HB2 := qH hb2
 have Hpp := qH epp
 have Hqq := qH eqq
 have Hu1 := qH eu1
 have Hu2 := qH eu2
 have Hq3 := qH eq3
 have Hs1 := qH es1
 have Hp3 := qH ep3
 have Hs2 := qH es2
 have Hhd := qH ehd
 have Hrr := qH err
 have Hhh := qH ehh
 have Hh3 := qH eh3
 have Hv := qH ev
 have Hr2 := qH er2
 have Hv2 := qH ev2
 have Ht1 := qH et1
 have HX := qH eX
 have Ht2 := qH et2
 have Ht3 := qH et3
 have Ht4 := qH et4
 have HY := qH eY
 have Hzz := qH ezz
 have HZ := qH eZ
 have HD0 := qH hd0
 clear hd0 hb1 hb2 epp eqq eu1 eu2 eq3 es1 ep3 es2 ehd err ehh eh3 ev er2 ev2 et1 eX et2 et3 et4 eY ezz eZ
 unfold ptV ptL
 have st0 := St.start Nob w
 go_enter Tryz.func102, Tryz.ntmps102
 go_wp2_with (with_reducible refine wSk 4 ?_)
 refine a0m st0 rfl rfl rfl (cw 4 (elN m x1) ++ (cw 4 (elN m y1) ++ cw 4 (elN m z1))) rfl ?_
 intro g4 w1 st1
 clear st0
 go_wp2_with (with_reducible refine wSk 5 ?_)
 refine a0m st1 rfl rfl rfl (cw 4 (elN m x2) ++ (cw 4 (elN m y2) ++ cw 4 (elN m z2))) rfl ?_
 intro g5 w2 st2
 clear st1
 go_wp2_with (with_reducible refine wSk 6 ?_)
 refine a0b st2 rfl rfl (z := zAc) (by kernel_rfl) (cw 12 0) (by rw [a0f]; rfl) ?_
 intro g6 w3 st3
 clear st2
 go_wp2_with (with_reducible refine wSk 20 ?_)
 refine a0o st3 0 rfl rfl rfl Tryz.underlying78 rfl rfl (by kernel_rfl) ?_
 go_wp2_with fail
 refine (c0Q m HOK.out x1 y1 z1 false HB1.out _).mono ?_
 rintro e' w4 ⟨rfl, hf4⟩
 have st4 := st3.keep hf4
 clear st3 hf4
 go_wp2_with (with_reducible refine wSk 24 ?_)
 refine a0o st4 1 rfl rfl rfl Tryz.underlying78 rfl rfl (by kernel_rfl) ?_
 go_wp2_with fail
 refine (c0Q m HOK.out x2 y2 z2 false HB2.out _).mono ?_
 rintro e' w5 ⟨rfl, hf5⟩
 have st5 := st4.keep hf5
 clear st4 hf5
 go_wp2_with fail
 refine wp_region_noPanic ?_
 refine a0g st5 17 [.o 14, .o 15, .w 0, .w 1, .w 2, .t 3, .w 4, .t 5, .w 7, .w 8, .w 9, .t 10, .w 11, .t 12, .c 6, .c 13, .j 14, .j 15] (.r 16 (.m 17 .nil)) (by kernel_rfl) (by kernel_rfl) (fun _ _ _ _ _ h => h) ?_
 clear st5
 refine b0e rfl rfl rfl h0O (cw 4 0) rfl ?_
 try simp only [clL]
 refine b0e rfl rfl rfl h0O (cw 4 0) rfl ?_
 try simp only [clL]
 refine a0n (v := ?_) rfl rfl (fun xq wx => ?_) ?_
 rotate_left 1
 ·(go_simp; with_reducible rfl)
 try simp only [clL]
 refine a0n (v := ?_) rfl rfl (fun xq wx => ?_) ?_
 rotate_left 1
 ·(go_simp; with_reducible rfl)
 try simp only [clL]
 refine a0n (v := ?_) rfl rfl (fun xq wx => ?_) ?_
 rotate_left 1
 ·(go_simp; with_reducible rfl)
 try simp only [clL]
 refine b0a (v := ?_) rfl rfl (fun xq wx hS => ?_) ?_
 rotate_left 1
 ·(have hc := (HCV.out.keep (St.fr hS) id).cell (i := 0) rfl; clear hS; go_simp; with_reducible rfl)
 try simp only [clL]
 refine a0n (v := ?_) rfl rfl (fun xq wx => ?_) ?_
 rotate_left 1
 ·(go_simp; with_reducible rfl)
 try simp only [clL]
 refine a0e rfl rfl rfl (fun _ => rfl) (cw 4 (elN m z1)) (fun wx hS => St.rangeL hS 0 rfl 8 _ (f0g _ _ _)) Tryz.underlying59 rfl (by kernel_rfl) ?_
 try simp only [clL]
 refine a0n (v := ?_) rfl rfl (fun xq wx => ?_) ?_
 rotate_left 1
 ·(go_simp; with_reducible rfl)
 try simp only [clL]
 refine a0n (v := ?_) rfl rfl (fun xq wx => ?_) ?_
 rotate_left 1
 ·(go_simp; with_reducible rfl)
 try simp only [clL]
 refine a0n (v := ?_) rfl rfl (fun xq wx => ?_) ?_
 rotate_left 1
 ·(go_simp; with_reducible rfl)
 try simp only [clL]
 refine b0a (v := ?_) rfl rfl (fun xq wx hS => ?_) ?_
 rotate_left 1
 ·(have hc := (HCV.out.keep (St.fr hS) id).cell (i := 0) rfl; clear hS; go_simp; with_reducible rfl)
 try simp only [clL]
 refine a0n (v := ?_) rfl rfl (fun xq wx => ?_) ?_
 rotate_left 1
 ·(go_simp; with_reducible rfl)
 try simp only [clL]
 refine a0e rfl rfl rfl (fun _ => rfl) (cw 4 (elN m z2)) (fun wx hS => St.rangeL hS 1 rfl 8 _ (f0g _ _ _)) Tryz.underlying59 rfl (by kernel_rfl) ?_
 try simp only [clL]
 refine a0c rfl rfl rfl Tryz.call76 (fun w hS hR => b0A m gp _ HOK.out (HPM.out.keep hS.fr id) z1 pp Hpp.out) (fun _ => rfl) ?_
 try simp only [clL]
 refine a0c rfl rfl rfl Tryz.call76 (fun w hS hR => b0A m gp _ HOK.out (HPM.out.keep hS.fr id) z2 qq Hqq.out) (fun _ => rfl) ?_
 try simp only [clL]
 refine b0f (List.mem_cons_of_mem _ List.mem_cons_self) fun g7 => ?_
 simp only [upd, reduceIte]
 try simp only [Nat.reduceEqDiff, reduceIte]
 refine b0f List.mem_cons_self fun g8 => ?_
 simp only [upd, reduceIte]
 refine a0y fun xq w6 st6 hR => ?_
 try dsimp only
 clear hR xq
 refine a0A rfl rfl ?_
 refine a0j st6 3 rfl rfl rfl rfl (by simp [a0a]) (by kernel_rfl) (a0i _ _) ?_
 intro w7 st7
 repeat (first | simp only [List.cons_append] at st7 | simp only [List.nil_append] at st7 | simp only [List.set_cons_succ] at st7 | simp only [List.set_cons_zero] at st7)
 clear st6
 refine ⟨by first | exact st7 | exact St.less st7 (by simp), ?_⟩
 try simp only [Act.put]
 refine a0r rfl rfl ?_
 refine a0j st7 4 rfl rfl rfl rfl (by simp [a0a]) (by kernel_rfl) (a0i _ _) ?_
 intro w8 st8
 try simp only [List.set_cons_zero, List.set_cons_succ] at st8
 clear st7
 try simp only [Act.put]
 refine a0k ?_
 refine NoPanic.normal ?_
 go_wp2_with fail
 refine wp_region_noPanic ?_
 refine a0g st8 19 [.o 16, .o 17, .w 0, .w 1, .w 2, .t 3, .w 4, .t 5, .t 6, .w 8, .w 9, .w 10, .t 11, .w 12, .t 13, .t 14, .c 7, .c 15, .j 16, .j 17] (.r 18 (.m 19 .nil)) (by kernel_rfl) (by kernel_rfl) (fun _ _ _ _ _ h => h) ?_
 clear st8
 refine b0e rfl rfl rfl h0O (cw 4 0) rfl ?_
 try simp only [clL]
 refine b0e rfl rfl rfl h0O (cw 4 0) rfl ?_
 try simp only [clL]
 refine a0n (v := ?_) rfl rfl (fun xq wx => ?_) ?_
 rotate_left 1
 ·(go_simp; with_reducible rfl)
 try simp only [clL]
 refine a0n (v := ?_) rfl rfl (fun xq wx => ?_) ?_
 rotate_left 1
 ·(go_simp; with_reducible rfl)
 try simp only [clL]
 refine a0n (v := ?_) rfl rfl (fun xq wx => ?_) ?_
 rotate_left 1
 ·(go_simp; with_reducible rfl)
 try simp only [clL]
 refine b0a (v := ?_) rfl rfl (fun xq wx hS => ?_) ?_
 rotate_left 1
 ·(have hc := (HCV.out.keep (St.fr hS) id).cell (i := 0) rfl; clear hS; go_simp; with_reducible rfl)
 try simp only [clL]
 refine a0n (v := ?_) rfl rfl (fun xq wx => ?_) ?_
 rotate_left 1
 ·(go_simp; with_reducible rfl)
 try simp only [clL]
 refine a0e rfl rfl rfl (fun _ => rfl) (cw 4 (elN m x1)) (fun wx hS => St.rangeL hS 0 rfl 0 _ (j0M _ _ _)) Tryz.underlying59 rfl (by kernel_rfl) ?_
 try simp only [clL]
 refine a0e rfl rfl rfl (fun _ => rfl) (cw 4 (elN m qq)) (fun wx hS => St.rangeL hS 4 rfl 0 _ dZl) Tryz.underlying59 rfl (by kernel_rfl) ?_
 try simp only [clL]
 refine a0n (v := ?_) rfl rfl (fun xq wx => ?_) ?_
 rotate_left 1
 ·(go_simp; with_reducible rfl)
 try simp only [clL]
 refine a0n (v := ?_) rfl rfl (fun xq wx => ?_) ?_
 rotate_left 1
 ·(go_simp; with_reducible rfl)
 try simp only [clL]
 refine a0n (v := ?_) rfl rfl (fun xq wx => ?_) ?_
 rotate_left 1
 ·(go_simp; with_reducible rfl)
 try simp only [clL]
 refine b0a (v := ?_) rfl rfl (fun xq wx hS => ?_) ?_
 rotate_left 1
 ·(have hc := (HCV.out.keep (St.fr hS) id).cell (i := 0) rfl; clear hS; go_simp; with_reducible rfl)
 try simp only [clL]
 refine a0n (v := ?_) rfl rfl (fun xq wx => ?_) ?_
 rotate_left 1
 ·(go_simp; with_reducible rfl)
 try simp only [clL]
 refine a0e rfl rfl rfl (fun _ => rfl) (cw 4 (elN m x2)) (fun wx hS => St.rangeL hS 1 rfl 0 _ (j0M _ _ _)) Tryz.underlying59 rfl (by kernel_rfl) ?_
 try simp only [clL]
 refine a0e rfl rfl rfl (fun _ => rfl) (cw 4 (elN m pp)) (fun wx hS => St.rangeL hS 3 rfl 0 _ dZl) Tryz.underlying59 rfl (by kernel_rfl) ?_
 try simp only [clL]
 refine a0c rfl rfl rfl Tryz.call77 (fun w hS hR => b0Q m gp _ HOK.out (HPM.out.keep hS.fr id) x1 qq u1 Hu1.out) (fun _ => rfl) ?_
 try simp only [clL]
 refine a0c rfl rfl rfl Tryz.call77 (fun w hS hR => b0Q m gp _ HOK.out (HPM.out.keep hS.fr id) x2 pp u2 Hu2.out) (fun _ => rfl) ?_
 try simp only [clL]
 refine b0f (List.mem_cons_of_mem _ List.mem_cons_self) fun g9 => ?_
 simp only [upd, reduceIte]
 try simp only [Nat.reduceEqDiff, reduceIte]
 refine b0f List.mem_cons_self fun g10 => ?_
 simp only [upd, reduceIte]
 refine a0y fun xq w9 st9 hR => ?_
 try dsimp only
 clear hR xq
 refine a0A rfl rfl ?_
 refine a0j st9 5 rfl rfl rfl rfl (by simp [a0a]) (by kernel_rfl) (a0i _ _) ?_
 intro w10 st10
 repeat (first | simp only [List.cons_append] at st10 | simp only [List.nil_append] at st10 | simp only [List.set_cons_succ] at st10 | simp only [List.set_cons_zero] at st10)
 clear st9
 refine ⟨by first | exact st10 | exact St.less st10 (by simp), ?_⟩
 try simp only [Act.put]
 refine a0r rfl rfl ?_
 refine a0j st10 6 rfl rfl rfl rfl (by simp [a0a]) (by kernel_rfl) (a0i _ _) ?_
 intro w11 st11
 try simp only [List.set_cons_zero, List.set_cons_succ] at st11
 clear st10
 try simp only [Act.put]
 refine a0k ?_
 refine NoPanic.normal ?_
 go_wp2_with fail
 refine wp_region_noPanic ?_
 refine a0g st11 33 [.o 30, .o 31, .w 0, .w 1, .w 2, .t 3, .w 4, .t 5, .w 6, .w 7, .w 8, .t 9, .t 10, .w 11, .t 12, .w 15, .w 16, .w 17, .t 18, .w 19, .t 20, .w 21, .w 22, .w 23, .t 24, .t 25, .w 26, .t 27, .c 13, .c 14, .c 28, .c 29, .j 30, .j 31] (.r 32 (.m 33 .nil)) (by kernel_rfl) (by kernel_rfl) (fun _ _ _ _ _ h => h) ?_
 clear st11
 refine b0e rfl rfl rfl h0O (cw 4 0) rfl ?_
 try simp only [clL]
 refine b0e rfl rfl rfl h0O (cw 4 0) rfl ?_
 try simp only [clL]
 refine a0n (v := ?_) rfl rfl (fun xq wx => ?_) ?_
 rotate_left 1
 ·(go_simp; with_reducible rfl)
 try simp only [clL]
 refine a0n (v := ?_) rfl rfl (fun xq wx => ?_) ?_
 rotate_left 1
 ·(go_simp; with_reducible rfl)
 try simp only [clL]
 refine a0n (v := ?_) rfl rfl (fun xq wx => ?_) ?_
 rotate_left 1
 ·(go_simp; with_reducible rfl)
 try simp only [clL]
 refine b0a (v := ?_) rfl rfl (fun xq wx hS => ?_) ?_
 rotate_left 1
 ·(have hc := (HCV.out.keep (St.fr hS) id).cell (i := 0) rfl; clear hS; go_simp; with_reducible rfl)
 try simp only [clL]
 refine a0n (v := ?_) rfl rfl (fun xq wx => ?_) ?_
 rotate_left 1
 ·(go_simp; with_reducible rfl)
 try simp only [clL]
 refine a0e rfl rfl rfl (fun _ => rfl) (cw 4 (elN m y1)) (fun wx hS => St.rangeL hS 0 rfl 4 _ (l0A _ _ _)) Tryz.underlying59 rfl (by kernel_rfl) ?_
 try simp only [clL]
 refine a0n (v := ?_) rfl rfl (fun xq wx => ?_) ?_
 rotate_left 1
 ·(go_simp; with_reducible rfl)
 try simp only [clL]
 refine a0n (v := ?_) rfl rfl (fun xq wx => ?_) ?_
 rotate_left 1
 ·(go_simp; with_reducible rfl)
 try simp only [clL]
 refine a0n (v := ?_) rfl rfl (fun xq wx => ?_) ?_
 rotate_left 1
 ·(go_simp; with_reducible rfl)
 try simp only [clL]
 refine b0a (v := ?_) rfl rfl (fun xq wx hS => ?_) ?_
 rotate_left 1
 ·(have hc := (HCV.out.keep (St.fr hS) id).cell (i := 0) rfl; clear hS; go_simp; with_reducible rfl)
 try simp only [clL]
 refine a0e rfl rfl rfl (fun _ => rfl) (cw 4 (elN m qq)) (fun wx hS => St.rangeL hS 4 rfl 0 _ dZl) Tryz.underlying59 rfl (by kernel_rfl) ?_
 try simp only [clL]
 refine a0n (v := ?_) rfl rfl (fun xq wx => ?_) ?_
 rotate_left 1
 ·(go_simp; with_reducible rfl)
 try simp only [clL]
 refine a0e rfl rfl rfl (fun _ => rfl) (cw 4 (elN m z2)) (fun wx hS => St.rangeL hS 1 rfl 8 _ (f0g _ _ _)) Tryz.underlying59 rfl (by kernel_rfl) ?_
 try simp only [clL]
 refine a0n (v := ?_) rfl rfl (fun xq wx => ?_) ?_
 rotate_left 1
 ·(go_simp; with_reducible rfl)
 try simp only [clL]
 refine a0n (v := ?_) rfl rfl (fun xq wx => ?_) ?_
 rotate_left 1
 ·(go_simp; with_reducible rfl)
 try simp only [clL]
 refine a0n (v := ?_) rfl rfl (fun xq wx => ?_) ?_
 rotate_left 1
 ·(go_simp; with_reducible rfl)
 try simp only [clL]
 refine b0a (v := ?_) rfl rfl (fun xq wx hS => ?_) ?_
 rotate_left 1
 ·(have hc := (HCV.out.keep (St.fr hS) id).cell (i := 0) rfl; clear hS; go_simp; with_reducible rfl)
 try simp only [clL]
 refine a0n (v := ?_) rfl rfl (fun xq wx => ?_) ?_
 rotate_left 1
 ·(go_simp; with_reducible rfl)
 try simp only [clL]
 refine a0e rfl rfl rfl (fun _ => rfl) (cw 4 (elN m y2)) (fun wx hS => St.rangeL hS 1 rfl 4 _ (l0A _ _ _)) Tryz.underlying59 rfl (by kernel_rfl) ?_
 try simp only [clL]
 refine a0n (v := ?_) rfl rfl (fun xq wx => ?_) ?_
 rotate_left 1
 ·(go_simp; with_reducible rfl)
 try simp only [clL]
 refine a0n (v := ?_) rfl rfl (fun xq wx => ?_) ?_
 rotate_left 1
 ·(go_simp; with_reducible rfl)
 try simp only [clL]
 refine a0n (v := ?_) rfl rfl (fun xq wx => ?_) ?_
 rotate_left 1
 ·(go_simp; with_reducible rfl)
 try simp only [clL]
 refine b0a (v := ?_) rfl rfl (fun xq wx hS => ?_) ?_
 rotate_left 1
 ·(have hc := (HCV.out.keep (St.fr hS) id).cell (i := 0) rfl; clear hS; go_simp; with_reducible rfl)
 try simp only [clL]
 refine a0e rfl rfl rfl (fun _ => rfl) (cw 4 (elN m pp)) (fun wx hS => St.rangeL hS 3 rfl 0 _ dZl) Tryz.underlying59 rfl (by kernel_rfl) ?_
 try simp only [clL]
 refine a0n (v := ?_) rfl rfl (fun xq wx => ?_) ?_
 rotate_left 1
 ·(go_simp; with_reducible rfl)
 try simp only [clL]
 refine a0e rfl rfl rfl (fun _ => rfl) (cw 4 (elN m z1)) (fun wx hS => St.rangeL hS 0 rfl 8 _ (f0g _ _ _)) Tryz.underlying59 rfl (by kernel_rfl) ?_
 try simp only [clL]
 refine a0c rfl rfl rfl Tryz.call77 (fun w hS hR => b0Q m gp _ HOK.out (HPM.out.keep hS.fr id) qq z2 q3 Hq3.out) (fun _ => rfl) ?_
 try simp only [clL]
 refine a0c rfl rfl rfl Tryz.call77 (fun w hS hR => b0Q m gp _ HOK.out (HPM.out.keep hS.fr id) y1 q3 s1 Hs1.out) (fun _ => rfl) ?_
 try simp only [clL]
 refine a0c rfl rfl rfl Tryz.call77 (fun w hS hR => b0Q m gp _ HOK.out (HPM.out.keep hS.fr id) pp z1 p3 Hp3.out) (fun _ => rfl) ?_
 try simp only [clL]
 refine a0c rfl rfl rfl Tryz.call77 (fun w hS hR => b0Q m gp _ HOK.out (HPM.out.keep hS.fr id) y2 p3 s2 Hs2.out) (fun _ => rfl) ?_
 try simp only [clL]
 refine b0f (List.mem_cons_of_mem _ List.mem_cons_self) fun g11 => ?_
 simp only [upd, reduceIte]
 try simp only [Nat.reduceEqDiff, reduceIte]
 refine b0f List.mem_cons_self fun g12 => ?_
 simp only [upd, reduceIte]
 refine a0y fun xq w12 st12 hR => ?_
 try dsimp only
 clear hR xq
 refine a0A rfl rfl ?_
 refine a0j st12 7 rfl rfl rfl rfl (by simp [a0a]) (by kernel_rfl) (a0i _ _) ?_
 intro w13 st13
 repeat (first | simp only [List.cons_append] at st13 | simp only [List.nil_append] at st13 | simp only [List.set_cons_succ] at st13 | simp only [List.set_cons_zero] at st13)
 clear st12
 refine ⟨by first | exact st13 | exact St.less st13 (by simp), ?_⟩
 try simp only [Act.put]
 refine a0r rfl rfl ?_
 refine a0j st13 8 rfl rfl rfl rfl (by simp [a0a]) (by kernel_rfl) (a0i _ _) ?_
 intro w14 st14
 try simp only [List.set_cons_zero, List.set_cons_succ] at st14
 clear st13
 try simp only [Act.put]
 refine a0k ?_
 refine NoPanic.normal ?_
 go_wp2_with fail
 refine wp_region_noPanic ?_
 refine a0g st14 17 [.o 14, .o 15, .w 0, .w 1, .w 2, .t 3, .t 4, .t 5, .w 7, .w 8, .w 9, .t 10, .t 11, .t 12, .c 6, .c 13, .j 14, .j 15] (.r 16 (.m 17 .nil)) (by kernel_rfl) (by kernel_rfl) (fun _ _ _ _ _ h => h) ?_
 clear st14
 refine b0e rfl rfl rfl h0O (cw 4 0) rfl ?_
 try simp only [clL]
 refine b0e rfl rfl rfl h0O (cw 4 0) rfl ?_
 try simp only [clL]
 refine a0n (v := ?_) rfl rfl (fun xq wx => ?_) ?_
 rotate_left 1
 ·(go_simp; with_reducible rfl)
 try simp only [clL]
 refine a0n (v := ?_) rfl rfl (fun xq wx => ?_) ?_
 rotate_left 1
 ·(go_simp; with_reducible rfl)
 try simp only [clL]
 refine a0n (v := ?_) rfl rfl (fun xq wx => ?_) ?_
 rotate_left 1
 ·(go_simp; with_reducible rfl)
 try simp only [clL]
 refine b0a (v := ?_) rfl rfl (fun xq wx hS => ?_) ?_
 rotate_left 1
 ·(have hc := (HCV.out.keep (St.fr hS) id).cell (i := 0) rfl; clear hS; go_simp; with_reducible rfl)
 try simp only [clL]
 refine a0e rfl rfl rfl (fun _ => rfl) (cw 4 (elN m u2)) (fun wx hS => St.rangeL hS 6 rfl 0 _ dZl) Tryz.underlying59 rfl (by kernel_rfl) ?_
 try simp only [clL]
 refine a0e rfl rfl rfl (fun _ => rfl) (cw 4 (elN m u1)) (fun wx hS => St.rangeL hS 5 rfl 0 _ dZl) Tryz.underlying59 rfl (by kernel_rfl) ?_
 try simp only [clL]
 refine a0n (v := ?_) rfl rfl (fun xq wx => ?_) ?_
 rotate_left 1
 ·(go_simp; with_reducible rfl)
 try simp only [clL]
 refine a0n (v := ?_) rfl rfl (fun xq wx => ?_) ?_
 rotate_left 1
 ·(go_simp; with_reducible rfl)
 try simp only [clL]
 refine a0n (v := ?_) rfl rfl (fun xq wx => ?_) ?_
 rotate_left 1
 ·(go_simp; with_reducible rfl)
 try simp only [clL]
 refine b0a (v := ?_) rfl rfl (fun xq wx hS => ?_) ?_
 rotate_left 1
 ·(have hc := (HCV.out.keep (St.fr hS) id).cell (i := 0) rfl; clear hS; go_simp; with_reducible rfl)
 try simp only [clL]
 refine a0e rfl rfl rfl (fun _ => rfl) (cw 4 (elN m s2)) (fun wx hS => St.rangeL hS 8 rfl 0 _ dZl) Tryz.underlying59 rfl (by kernel_rfl) ?_
 try simp only [clL]
 refine a0e rfl rfl rfl (fun _ => rfl) (cw 4 (elN m s1)) (fun wx hS => St.rangeL hS 7 rfl 0 _ dZl) Tryz.underlying59 rfl (by kernel_rfl) ?_
 try simp only [clL]
 refine a0c rfl rfl rfl Tryz.call122 (fun w hS hR => f0j m gp _ HOK.out (HPM.out.keep hS.fr id) u2 u1 hd Hhd.out) (fun _ => rfl) ?_
 try simp only [clL]
 refine a0c rfl rfl rfl Tryz.call122 (fun w hS hR => f0j m gp _ HOK.out (HPM.out.keep hS.fr id) s2 s1 rr Hrr.out) (fun _ => rfl) ?_
 try simp only [clL]
 refine b0f (List.mem_cons_of_mem _ List.mem_cons_self) fun g13 => ?_
 simp only [upd, reduceIte]
 try simp only [Nat.reduceEqDiff, reduceIte]
 refine b0f List.mem_cons_self fun g14 => ?_
 simp only [upd, reduceIte]
 refine a0y fun xq w15 st15 hR => ?_
 try dsimp only
 clear hR xq
 refine a0A rfl rfl ?_
 refine a0j st15 9 rfl rfl rfl rfl (by simp [a0a]) (by kernel_rfl) (a0i _ _) ?_
 intro w16 st16
 repeat (first | simp only [List.cons_append] at st16 | simp only [List.nil_append] at st16 | simp only [List.set_cons_succ] at st16 | simp only [List.set_cons_zero] at st16)
 clear st15
 refine ⟨by first | exact st16 | exact St.less st16 (by simp), ?_⟩
 try simp only [Act.put]
 refine a0r rfl rfl ?_
 refine a0j st16 10 rfl rfl rfl rfl (by simp [a0a]) (by kernel_rfl) (a0i _ _) ?_
 intro w17 st17
 try simp only [List.set_cons_zero, List.set_cons_succ] at st17
 clear st16
 try simp only [Act.put]
 refine a0k ?_
 refine NoPanic.normal ?_
 rcases Bool.eq_false_or_eq_true (hd % m.M == 0) with hh0 | hh0
 ·have HHZ := qH hh0
  rcases Bool.eq_false_or_eq_true (rr % m.M == 0) with hr0 | hr0
  ·have HRZ := qH hr0
   have HDB := qH (show ∀ wx, Fr Nob w wx → Calls Tryz.prog 101 #[.pointer (some ⟨gc, 0, none⟩), .agg (cw 4 (elN m x1) ++ (cw 4 (elN m y1) ++ cw 4 (elN m z1))).toArray] wx fun e w' => e = .returned (.agg (cw 4 (elN m DX) ++ (cw 4 (elN m DY) ++ cw 4 (elN m DZ))).toArray) ∧ Fr Nob wx w' from HD0.out hh0 hr0)
   clear hh0 hr0 HD0
   go_wp2_with (with_reducible refine wSk 101 ?_)
   refine a0h st17 9 rfl rfl rfl Tryz.underlying59 rfl (by kernel_rfl) ?_
   go_wp2_with fail
   refine (c0X m HOK.out hd true HHZ.out _).mono ?_
   rintro e' w18 ⟨rfl, hf18⟩
   have st18 := st17.keep hf18
   clear st17 hf18
   go_wp2_with (with_reducible refine wSk 103 ?_)
   refine a0h st18 10 rfl rfl rfl Tryz.underlying59 rfl (by kernel_rfl) ?_
   go_wp2_with fail
   refine (c0X m HOK.out rr true HRZ.out _).mono ?_
   rintro e' w19 ⟨rfl, hf19⟩
   have st19 := st18.keep hf19
   clear st18 hf19
   go_wp2_with (with_reducible refine wSk 106 ?_)
   refine a0o st19 0 rfl rfl rfl Tryz.underlying78 rfl rfl (by kernel_rfl) ?_
   go_wp2_with fail
   refine (HDB.out _ st19.fr).mono ?_
   rintro e' w20 ⟨rfl, hf20⟩
   have st20 := st19.keep hf20
   clear st19 hf20
   go_wp2_with (with_reducible refine wSn ?_)
   refine a0d st20 2 rfl rfl rfl rfl rfl (by simp [a0a]) (by kernel_rfl) (a0Z _ _ _) ?_
   intro w21 st21
   clear st20
   have hr := st21.at 2 rfl
   have hfr := st21.fr
   clear st21
   go_wp2_with fail
   exact bodyPost_ret (a0F rfl rfl hr Tryz.underlying78 rfl (by kernel_rfl)) rfl ⟨by rw [HHZ.out, HRZ.out]; rfl, hfr⟩
  ·have HRZ := qH hr0
   clear hh0 hr0 HD0
   go_wp2_with (with_reducible refine wSk 101 ?_)
   refine a0h st17 9 rfl rfl rfl Tryz.underlying59 rfl (by kernel_rfl) ?_
   go_wp2_with fail
   refine (c0X m HOK.out hd true HHZ.out _).mono ?_
   rintro e' w18 ⟨rfl, hf18⟩
   have st18 := st17.keep hf18
   clear st17 hf18
   go_wp2_with (with_reducible refine wSk 103 ?_)
   refine a0h st18 10 rfl rfl rfl Tryz.underlying59 rfl (by kernel_rfl) ?_
   go_wp2_with fail
   refine (c0X m HOK.out rr false HRZ.out _).mono ?_
   rintro e' w19 ⟨rfl, hf19⟩
   have st19 := st18.keep hf19
   clear st18 hf19
   go_wp2_with fail
   refine (k0Z m gc gp bx by_ _ HOK.out (HCV.out.keep st19.fr id) (HPM.out.keep st19.fr id)).mono ?_
   rintro e' w20 ⟨rfl, hf20⟩
   have st20 := st19.keep hf20
   clear st19 hf20
   go_wp2_with (with_reducible refine wSn ?_)
   refine a0d st20 2 rfl rfl rfl rfl rfl (by simp [a0a]) (by kernel_rfl) (a0Z _ _ _) ?_
   intro w21 st21
   clear st20
   have hr := st21.at 2 rfl
   have hfr := st21.fr
   clear st21
   go_wp2_with fail
   exact bodyPost_ret (a0F rfl rfl hr Tryz.underlying78 rfl (by kernel_rfl)) rfl ⟨by rw [HHZ.out, HRZ.out]; rfl, hfr⟩
 ·have HHZ := qH hh0
  clear hh0 HD0
  go_wp2_with (with_reducible refine wSk 101 ?_)
  refine a0h st17 9 rfl rfl rfl Tryz.underlying59 rfl (by kernel_rfl) ?_
  go_wp2_with fail
  refine (c0X m HOK.out hd false HHZ.out _).mono ?_
  rintro e' w18 ⟨rfl, hf18⟩
  have st18 := st17.keep hf18
  clear st17 hf18
  go_wp2_with fail
  refine wp_region_noPanic ?_
  refine a0g st18 7 [.o 6, .w 0, .w 1, .w 2, .t 3, .t 4, .c 5, .j 6] (.m 7 .nil) (by kernel_rfl) (by kernel_rfl) (fun _ _ _ _ _ h => h) ?_
  clear st18
  refine b0e rfl rfl rfl h0O (cw 4 0) rfl ?_
  try simp only [clL]
  refine a0n (v := ?_) rfl rfl (fun xq wx => ?_) ?_
  rotate_left 1
  ·(go_simp; with_reducible rfl)
  try simp only [clL]
  refine a0n (v := ?_) rfl rfl (fun xq wx => ?_) ?_
  rotate_left 1
  ·(go_simp; with_reducible rfl)
  try simp only [clL]
  refine a0n (v := ?_) rfl rfl (fun xq wx => ?_) ?_
  rotate_left 1
  ·(go_simp; with_reducible rfl)
  try simp only [clL]
  refine b0a (v := ?_) rfl rfl (fun xq wx hS => ?_) ?_
  rotate_left 1
  ·(have hc := (HCV.out.keep (St.fr hS) id).cell (i := 0) rfl; clear hS; go_simp; with_reducible rfl)
  try simp only [clL]
  refine a0e rfl rfl rfl (fun _ => rfl) (cw 4 (elN m hd)) (fun wx hS => St.rangeL hS 9 rfl 0 _ dZl) Tryz.underlying59 rfl (by kernel_rfl) ?_
  try simp only [clL]
  refine a0c rfl rfl rfl Tryz.call76 (fun w hS hR => b0A m gp _ HOK.out (HPM.out.keep hS.fr id) hd hh Hhh.out) (fun _ => rfl) ?_
  try simp only [clL]
  refine b0f List.mem_cons_self fun g15 => ?_
  simp only [upd, reduceIte]
  refine a0y fun xq w19 st19 hR => ?_
  try dsimp only
  clear hR xq
  refine a0r rfl rfl ?_
  refine a0j st19 11 rfl rfl rfl rfl (by simp [a0a]) (by kernel_rfl) (a0i _ _) ?_
  intro w20 st20
  repeat (first | simp only [List.cons_append] at st20 | simp only [List.nil_append] at st20 | simp only [List.set_cons_succ] at st20 | simp only [List.set_cons_zero] at st20)
  clear st19
  try simp only [Act.put]
  refine a0k ?_
  refine NoPanic.normal ?_
  go_wp2_with fail
  refine wp_region_noPanic ?_
  refine a0g st20 8 [.o 7, .w 0, .w 1, .w 2, .t 3, .t 4, .t 5, .c 6, .j 7] (.m 8 .nil) (by kernel_rfl) (by kernel_rfl) (fun _ _ _ _ _ h => h) ?_
  clear st20
  refine b0e rfl rfl rfl h0O (cw 4 0) rfl ?_
  try simp only [clL]
  refine a0n (v := ?_) rfl rfl (fun xq wx => ?_) ?_
  rotate_left 1
  ·(go_simp; with_reducible rfl)
  try simp only [clL]
  refine a0n (v := ?_) rfl rfl (fun xq wx => ?_) ?_
  rotate_left 1
  ·(go_simp; with_reducible rfl)
  try simp only [clL]
  refine a0n (v := ?_) rfl rfl (fun xq wx => ?_) ?_
  rotate_left 1
  ·(go_simp; with_reducible rfl)
  try simp only [clL]
  refine b0a (v := ?_) rfl rfl (fun xq wx hS => ?_) ?_
  rotate_left 1
  ·(have hc := (HCV.out.keep (St.fr hS) id).cell (i := 0) rfl; clear hS; go_simp; with_reducible rfl)
  try simp only [clL]
  refine a0e rfl rfl rfl (fun _ => rfl) (cw 4 (elN m hh)) (fun wx hS => St.rangeL hS 11 rfl 0 _ dZl) Tryz.underlying59 rfl (by kernel_rfl) ?_
  try simp only [clL]
  refine a0e rfl rfl rfl (fun _ => rfl) (cw 4 (elN m hd)) (fun wx hS => St.rangeL hS 9 rfl 0 _ dZl) Tryz.underlying59 rfl (by kernel_rfl) ?_
  try simp only [clL]
  refine a0c rfl rfl rfl Tryz.call77 (fun w hS hR => b0Q m gp _ HOK.out (HPM.out.keep hS.fr id) hh hd h3 Hh3.out) (fun _ => rfl) ?_
  try simp only [clL]
  refine b0f List.mem_cons_self fun g16 => ?_
  simp only [upd, reduceIte]
  refine a0y fun xq w21 st21 hR => ?_
  try dsimp only
  clear hR xq
  refine a0r rfl rfl ?_
  refine a0j st21 12 rfl rfl rfl rfl (by simp [a0a]) (by kernel_rfl) (a0i _ _) ?_
  intro w22 st22
  repeat (first | simp only [List.cons_append] at st22 | simp only [List.nil_append] at st22 | simp only [List.set_cons_succ] at st22 | simp only [List.set_cons_zero] at st22)
  clear st21
  try simp only [Act.put]
  refine a0k ?_
  refine NoPanic.normal ?_
  go_wp2_with fail
  refine wp_region_noPanic ?_
  refine a0g st22 8 [.o 7, .w 0, .w 1, .w 2, .t 3, .t 4, .t 5, .c 6, .j 7] (.m 8 .nil) (by kernel_rfl) (by kernel_rfl) (fun _ _ _ _ _ h => h) ?_
  clear st22
  refine b0e rfl rfl rfl h0O (cw 4 0) rfl ?_
  try simp only [clL]
  refine a0n (v := ?_) rfl rfl (fun xq wx => ?_) ?_
  rotate_left 1
  ·(go_simp; with_reducible rfl)
  try simp only [clL]
  refine a0n (v := ?_) rfl rfl (fun xq wx => ?_) ?_
  rotate_left 1
  ·(go_simp; with_reducible rfl)
  try simp only [clL]
  refine a0n (v := ?_) rfl rfl (fun xq wx => ?_) ?_
  rotate_left 1
  ·(go_simp; with_reducible rfl)
  try simp only [clL]
  refine b0a (v := ?_) rfl rfl (fun xq wx hS => ?_) ?_
  rotate_left 1
  ·(have hc := (HCV.out.keep (St.fr hS) id).cell (i := 0) rfl; clear hS; go_simp; with_reducible rfl)
  try simp only [clL]
  refine a0e rfl rfl rfl (fun _ => rfl) (cw 4 (elN m u1)) (fun wx hS => St.rangeL hS 5 rfl 0 _ dZl) Tryz.underlying59 rfl (by kernel_rfl) ?_
  try simp only [clL]
  refine a0e rfl rfl rfl (fun _ => rfl) (cw 4 (elN m hh)) (fun wx hS => St.rangeL hS 11 rfl 0 _ dZl) Tryz.underlying59 rfl (by kernel_rfl) ?_
  try simp only [clL]
  refine a0c rfl rfl rfl Tryz.call77 (fun w hS hR => b0Q m gp _ HOK.out (HPM.out.keep hS.fr id) u1 hh v Hv.out) (fun _ => rfl) ?_
  try simp only [clL]
  refine b0f List.mem_cons_self fun g17 => ?_
  simp only [upd, reduceIte]
  refine a0y fun xq w23 st23 hR => ?_
  try dsimp only
  clear hR xq
  refine a0r rfl rfl ?_
  refine a0j st23 13 rfl rfl rfl rfl (by simp [a0a]) (by kernel_rfl) (a0i _ _) ?_
  intro w24 st24
  repeat (first | simp only [List.cons_append] at st24 | simp only [List.nil_append] at st24 | simp only [List.set_cons_succ] at st24 | simp only [List.set_cons_zero] at st24)
  clear st23
  try simp only [Act.put]
  refine a0k ?_
  refine NoPanic.normal ?_
  go_wp2_with fail
  refine wp_region_noPanic ?_
  refine a0g st24 25 [.o 24, .w 0, .w 1, .w 2, .t 3, .w 4, .w 5, .w 6, .t 7, .t 8, .w 10, .w 11, .w 12, .t 13, .t 14, .w 15, .w 16, .w 17, .t 18, .t 19, .t 20, .c 9, .c 21, .c 22, .c 23, .j 24] (.m 25 .nil) (by kernel_rfl) (by kernel_rfl) (fun _ _ _ _ _ h => h) ?_
  clear st24
  refine b0e rfl rfl rfl h0O (cw 4 0) rfl ?_
  try simp only [clL]
  refine a0n (v := ?_) rfl rfl (fun xq wx => ?_) ?_
  rotate_left 1
  ·(go_simp; with_reducible rfl)
  try simp only [clL]
  refine a0n (v := ?_) rfl rfl (fun xq wx => ?_) ?_
  rotate_left 1
  ·(go_simp; with_reducible rfl)
  try simp only [clL]
  refine a0n (v := ?_) rfl rfl (fun xq wx => ?_) ?_
  rotate_left 1
  ·(go_simp; with_reducible rfl)
  try simp only [clL]
  refine b0a (v := ?_) rfl rfl (fun xq wx hS => ?_) ?_
  rotate_left 1
  ·(have hc := (HCV.out.keep (St.fr hS) id).cell (i := 0) rfl; clear hS; go_simp; with_reducible rfl)
  try simp only [clL]
  refine a0n (v := ?_) rfl rfl (fun xq wx => ?_) ?_
  rotate_left 1
  ·(go_simp; with_reducible rfl)
  try simp only [clL]
  refine a0n (v := ?_) rfl rfl (fun xq wx => ?_) ?_
  rotate_left 1
  ·(go_simp; with_reducible rfl)
  try simp only [clL]
  refine a0n (v := ?_) rfl rfl (fun xq wx => ?_) ?_
  rotate_left 1
  ·(go_simp; with_reducible rfl)
  try simp only [clL]
  refine b0a (v := ?_) rfl rfl (fun xq wx hS => ?_) ?_
  rotate_left 1
  ·(have hc := (HCV.out.keep (St.fr hS) id).cell (i := 0) rfl; clear hS; go_simp; with_reducible rfl)
  try simp only [clL]
  refine a0e rfl rfl rfl (fun _ => rfl) (cw 4 (elN m rr)) (fun wx hS => St.rangeL hS 10 rfl 0 _ dZl) Tryz.underlying59 rfl (by kernel_rfl) ?_
  try simp only [clL]
  refine a0n (v := ?_) rfl rfl (fun xq wx => ?_) ?_
  rotate_left 1
  ·(go_simp; with_reducible rfl)
  try simp only [clL]
  refine a0n (v := ?_) rfl rfl (fun xq wx => ?_) ?_
  rotate_left 1
  ·(go_simp; with_reducible rfl)
  try simp only [clL]
  refine a0n (v := ?_) rfl rfl (fun xq wx => ?_) ?_
  rotate_left 1
  ·(go_simp; with_reducible rfl)
  try simp only [clL]
  refine b0a (v := ?_) rfl rfl (fun xq wx hS => ?_) ?_
  rotate_left 1
  ·(have hc := (HCV.out.keep (St.fr hS) id).cell (i := 0) rfl; clear hS; go_simp; with_reducible rfl)
  try simp only [clL]
  refine a0e rfl rfl rfl (fun _ => rfl) (cw 4 (elN m h3)) (fun wx hS => St.rangeL hS 12 rfl 0 _ dZl) Tryz.underlying59 rfl (by kernel_rfl) ?_
  try simp only [clL]
  refine a0n (v := ?_) rfl rfl (fun xq wx => ?_) ?_
  rotate_left 1
  ·(go_simp; with_reducible rfl)
  try simp only [clL]
  refine a0n (v := ?_) rfl rfl (fun xq wx => ?_) ?_
  rotate_left 1
  ·(go_simp; with_reducible rfl)
  try simp only [clL]
  refine a0n (v := ?_) rfl rfl (fun xq wx => ?_) ?_
  rotate_left 1
  ·(go_simp; with_reducible rfl)
  try simp only [clL]
  refine b0a (v := ?_) rfl rfl (fun xq wx hS => ?_) ?_
  rotate_left 1
  ·(have hc := (HCV.out.keep (St.fr hS) id).cell (i := 0) rfl; clear hS; go_simp; with_reducible rfl)
  try simp only [clL]
  refine a0e rfl rfl rfl (fun _ => rfl) (cw 4 (elN m v)) (fun wx hS => St.rangeL hS 13 rfl 0 _ dZl) Tryz.underlying59 rfl (by kernel_rfl) ?_
  try simp only [clL]
  refine a0e rfl rfl rfl (fun _ => rfl) (cw 4 (elN m v)) (fun wx hS => St.rangeL hS 13 rfl 0 _ dZl) Tryz.underlying59 rfl (by kernel_rfl) ?_
  try simp only [clL]
  refine a0c rfl rfl rfl Tryz.call76 (fun w hS hR => b0A m gp _ HOK.out (HPM.out.keep hS.fr id) rr r2 Hr2.out) (fun _ => rfl) ?_
  try simp only [clL]
  refine a0c rfl rfl rfl Tryz.call90 (fun w hS hR => d0j m gp _ HOK.out (HPM.out.keep hS.fr id) v v v2 Hv2.out) (fun _ => rfl) ?_
  try simp only [clL]
  refine a0c rfl rfl rfl Tryz.call90 (fun w hS hR => d0j m gp _ HOK.out (HPM.out.keep hS.fr id) h3 v2 t1 Ht1.out) (fun _ => rfl) ?_
  try simp only [clL]
  refine a0c rfl rfl rfl Tryz.call122 (fun w hS hR => f0j m gp _ HOK.out (HPM.out.keep hS.fr id) r2 t1 X HX.out) (fun _ => rfl) ?_
  try simp only [clL]
  refine b0f List.mem_cons_self fun g18 => ?_
  simp only [upd, reduceIte]
  refine a0y fun xq w25 st25 hR => ?_
  try dsimp only
  clear hR xq
  refine a0r rfl rfl ?_
  refine a0j st25 14 rfl rfl rfl rfl (by simp [a0a]) (by kernel_rfl) (a0i _ _) ?_
  intro w26 st26
  repeat (first | simp only [List.cons_append] at st26 | simp only [List.nil_append] at st26 | simp only [List.set_cons_succ] at st26 | simp only [List.set_cons_zero] at st26)
  clear st25
  try simp only [Act.put]
  refine a0k ?_
  refine NoPanic.normal ?_
  go_wp2_with fail
  refine wp_region_noPanic ?_
  refine a0g st26 42 [.t 0, .w 1, .w 2, .w 3, .t 4, .w 5, .w 6, .w 7, .t 8, .t 9, .w 10, .w 11, .w 12, .t 13, .t 14, .t 15, .w 18, .w 19, .w 20, .t 21, .t 22, .t 23, .w 26, .w 27, .w 28, .t 29, .t 30, .w 31, .w 32, .w 33, .t 34, .w 35, .t 36, .w 37, .t 38, .c 16, .c 17, .c 24, .c 25, .c 39, .c 40, .w 41] (.m 42 .nil) (by kernel_rfl) (by kernel_rfl) (fun _ _ _ _ _ h => h) ?_
  clear st26
  refine a0e rfl rfl rfl (fun _ => rfl) (cw 4 (elN m X)) (fun wx hS => St.rangeL hS 14 rfl 0 _ dZl) Tryz.underlying59 rfl (by kernel_rfl) ?_
  try simp only [clL]
  refine a0n (v := ?_) rfl rfl (fun xq wx => ?_) ?_
  rotate_left 1
  ·(go_simp; with_reducible rfl)
  try simp only [clL]
  refine a0n (v := ?_) rfl rfl (fun xq wx => ?_) ?_
  rotate_left 1
  ·(go_simp; with_reducible rfl)
  try simp only [clL]
  refine a0n (v := ?_) rfl rfl (fun xq wx => ?_) ?_
  rotate_left 1
  ·(go_simp; with_reducible rfl)
  try simp only [clL]
  refine b0a (v := ?_) rfl rfl (fun xq wx hS => ?_) ?_
  rotate_left 1
  ·(have hc := (HCV.out.keep (St.fr hS) id).cell (i := 0) rfl; clear hS; go_simp; with_reducible rfl)
  try simp only [clL]
  refine a0n (v := ?_) rfl rfl (fun xq wx => ?_) ?_
  rotate_left 1
  ·(go_simp; with_reducible rfl)
  try simp only [clL]
  refine a0n (v := ?_) rfl rfl (fun xq wx => ?_) ?_
  rotate_left 1
  ·(go_simp; with_reducible rfl)
  try simp only [clL]
  refine a0n (v := ?_) rfl rfl (fun xq wx => ?_) ?_
  rotate_left 1
  ·(go_simp; with_reducible rfl)
  try simp only [clL]
  refine b0a (v := ?_) rfl rfl (fun xq wx hS => ?_) ?_
  rotate_left 1
  ·(have hc := (HCV.out.keep (St.fr hS) id).cell (i := 0) rfl; clear hS; go_simp; with_reducible rfl)
  try simp only [clL]
  refine a0e rfl rfl rfl (fun _ => rfl) (cw 4 (elN m rr)) (fun wx hS => St.rangeL hS 10 rfl 0 _ dZl) Tryz.underlying59 rfl (by kernel_rfl) ?_
  try simp only [clL]
  refine a0n (v := ?_) rfl rfl (fun xq wx => ?_) ?_
  rotate_left 1
  ·(go_simp; with_reducible rfl)
  try simp only [clL]
  refine a0n (v := ?_) rfl rfl (fun xq wx => ?_) ?_
  rotate_left 1
  ·(go_simp; with_reducible rfl)
  try simp only [clL]
  refine a0n (v := ?_) rfl rfl (fun xq wx => ?_) ?_
  rotate_left 1
  ·(go_simp; with_reducible rfl)
  try simp only [clL]
  refine b0a (v := ?_) rfl rfl (fun xq wx hS => ?_) ?_
  rotate_left 1
  ·(have hc := (HCV.out.keep (St.fr hS) id).cell (i := 0) rfl; clear hS; go_simp; with_reducible rfl)
  try simp only [clL]
  refine a0e rfl rfl rfl (fun _ => rfl) (cw 4 (elN m v)) (fun wx hS => St.rangeL hS 13 rfl 0 _ dZl) Tryz.underlying59 rfl (by kernel_rfl) ?_
  try simp only [clL]
  refine a0e rfl rfl rfl (fun _ => rfl) (cw 4 (elN m X)) (fun wx hS => St.rangeL hS 14 rfl 0 _ dZl) Tryz.underlying59 rfl (by kernel_rfl) ?_
  try simp only [clL]
  refine a0n (v := ?_) rfl rfl (fun xq wx => ?_) ?_
  rotate_left 1
  ·(go_simp; with_reducible rfl)
  try simp only [clL]
  refine a0n (v := ?_) rfl rfl (fun xq wx => ?_) ?_
  rotate_left 1
  ·(go_simp; with_reducible rfl)
  try simp only [clL]
  refine a0n (v := ?_) rfl rfl (fun xq wx => ?_) ?_
  rotate_left 1
  ·(go_simp; with_reducible rfl)
  try simp only [clL]
  refine b0a (v := ?_) rfl rfl (fun xq wx hS => ?_) ?_
  rotate_left 1
  ·(have hc := (HCV.out.keep (St.fr hS) id).cell (i := 0) rfl; clear hS; go_simp; with_reducible rfl)
  try simp only [clL]
  refine a0e rfl rfl rfl (fun _ => rfl) (cw 4 (elN m s1)) (fun wx hS => St.rangeL hS 7 rfl 0 _ dZl) Tryz.underlying59 rfl (by kernel_rfl) ?_
  try simp only [clL]
  refine a0e rfl rfl rfl (fun _ => rfl) (cw 4 (elN m h3)) (fun wx hS => St.rangeL hS 12 rfl 0 _ dZl) Tryz.underlying59 rfl (by kernel_rfl) ?_
  try simp only [clL]
  refine a0n (v := ?_) rfl rfl (fun xq wx => ?_) ?_
  rotate_left 1
  ·(go_simp; with_reducible rfl)
  try simp only [clL]
  refine a0n (v := ?_) rfl rfl (fun xq wx => ?_) ?_
  rotate_left 1
  ·(go_simp; with_reducible rfl)
  try simp only [clL]
  refine a0n (v := ?_) rfl rfl (fun xq wx => ?_) ?_
  rotate_left 1
  ·(go_simp; with_reducible rfl)
  try simp only [clL]
  refine b0a (v := ?_) rfl rfl (fun xq wx hS => ?_) ?_
  rotate_left 1
  ·(have hc := (HCV.out.keep (St.fr hS) id).cell (i := 0) rfl; clear hS; go_simp; with_reducible rfl)
  try simp only [clL]
  refine a0e rfl rfl rfl (fun _ => rfl) (cw 4 (elN m hd)) (fun wx hS => St.rangeL hS 9 rfl 0 _ dZl) Tryz.underlying59 rfl (by kernel_rfl) ?_
  try simp only [clL]
  refine a0n (v := ?_) rfl rfl (fun xq wx => ?_) ?_
  rotate_left 1
  ·(go_simp; with_reducible rfl)
  try simp only [clL]
  refine a0n (v := ?_) rfl rfl (fun xq wx => ?_) ?_
  rotate_left 1
  ·(go_simp; with_reducible rfl)
  try simp only [clL]
  refine a0n (v := ?_) rfl rfl (fun xq wx => ?_) ?_
  rotate_left 1
  ·(go_simp; with_reducible rfl)
  try simp only [clL]
  refine b0a (v := ?_) rfl rfl (fun xq wx hS => ?_) ?_
  rotate_left 1
  ·(have hc := (HCV.out.keep (St.fr hS) id).cell (i := 0) rfl; clear hS; go_simp; with_reducible rfl)
  try simp only [clL]
  refine a0n (v := ?_) rfl rfl (fun xq wx => ?_) ?_
  rotate_left 1
  ·(go_simp; with_reducible rfl)
  try simp only [clL]
  refine a0e rfl rfl rfl (fun _ => rfl) (cw 4 (elN m z1)) (fun wx hS => St.rangeL hS 0 rfl 8 _ (f0g _ _ _)) Tryz.underlying59 rfl (by kernel_rfl) ?_
  try simp only [clL]
  refine a0n (v := ?_) rfl rfl (fun xq wx => ?_) ?_
  rotate_left 1
  ·(go_simp; with_reducible rfl)
  try simp only [clL]
  refine a0e rfl rfl rfl (fun _ => rfl) (cw 4 (elN m z2)) (fun wx hS => St.rangeL hS 1 rfl 8 _ (f0g _ _ _)) Tryz.underlying59 rfl (by kernel_rfl) ?_
  try simp only [clL]
  refine a0c rfl rfl rfl Tryz.call122 (fun w hS hR => f0j m gp _ HOK.out (HPM.out.keep hS.fr id) v X t2 Ht2.out) (fun _ => rfl) ?_
  try simp only [clL]
  refine a0c rfl rfl rfl Tryz.call77 (fun w hS hR => b0Q m gp _ HOK.out (HPM.out.keep hS.fr id) rr t2 t3 Ht3.out) (fun _ => rfl) ?_
  try simp only [clL]
  refine a0c rfl rfl rfl Tryz.call77 (fun w hS hR => b0Q m gp _ HOK.out (HPM.out.keep hS.fr id) s1 h3 t4 Ht4.out) (fun _ => rfl) ?_
  try simp only [clL]
  refine a0c rfl rfl rfl Tryz.call122 (fun w hS hR => f0j m gp _ HOK.out (HPM.out.keep hS.fr id) t3 t4 Y HY.out) (fun _ => rfl) ?_
  try simp only [clL]
  refine a0c rfl rfl rfl Tryz.call77 (fun w hS hR => b0Q m gp _ HOK.out (HPM.out.keep hS.fr id) z1 z2 zz Hzz.out) (fun _ => rfl) ?_
  try simp only [clL]
  refine a0c rfl rfl rfl Tryz.call77 (fun w hS hR => b0Q m gp _ HOK.out (HPM.out.keep hS.fr id) hd zz Z HZ.out) (fun _ => rfl) ?_
  try simp only [clL]
  refine a0n rfl rfl (fun _ => b0z rfl _ (e0p _ _ _)) ?_
  try simp only [clL]
  refine a0y fun xq w27 st27 hR => ?_
  try dsimp only
  clear hR xq
  refine a0r rfl rfl ?_
  refine a0j st27 2 rfl rfl rfl rfl (by simp [a0a]) (by kernel_rfl) (a0Z _ _ _) ?_
  intro w28 st28
  try simp only [List.set_cons_zero, List.set_cons_succ] at st28
  clear st27
  try simp only [Act.put]
  refine a0k ?_
  refine NoPanic.normal ?_
  have hr := st28.at 2 rfl
  have hfr := st28.fr
  clear st28
  go_wp2_with fail
  exact bodyPost_ret (a0F rfl rfl hr Tryz.underlying78 rfl (by kernel_rfl)) rfl ⟨by rw [HHZ.out]; rfl, hfr⟩
end
section
open Go.RowKit Go.Mv Mvp Mvq
theorem t0D : kc 0 = 0 := by decide
theorem w0u (x1 y1 z1 x2 y2 z2 : Nat) (ho1 : onC (jN x1 y1 z1)) (ho2 : onC (jN x2 y2 z2)) :
  ∃ X Y Z, jN X Y Z = b0d (jN x1 y1 z1) (jN x2 y2 z2) ∧ ∀ gc gp bx by_ wx, Has wx gc (e0A mP gp bx by_) 86 → Has wx gp (mdL mP) 115 → Calls Tryz.prog 102 #[.pointer (some ⟨gc, 0, none⟩), ptV mP x1 y1 z1, ptV mP x2 y2 z2] wx fun e w' => e = .returned (ptV mP X Y Z) ∧ Fr Nob wx w' := by
 cases hb1 : (z1 % mP.M == 0)
 case true =>
  have hz : kc z1 = 0 := by simpa using p0r _ c0Z z1 _ hb1
  refine ⟨x2, y2, z2, ?_, fun gc gp bx by_ wx hcv hpm => o0W mP gc gp bx by_ wx c0a hcv hpm x1 y1 z1 x2 y2 z2 hb1⟩
  unfold jN
  rw [w0o hz]; rfl
 case false =>
  have hz1 : kc z1 ≠ 0 := by simpa using p0r _ c0Z z1 _ hb1
  cases hb2 : (z2 % mP.M == 0)
  case true =>
   have hz : kc z2 = 0 := by simpa using p0r _ c0Z z2 _ hb2
   refine ⟨x1, y1, z1, ?_, fun gc gp bx by_ wx hcv hpm => o0X mP gc gp bx by_ wx c0a hcv hpm x1 y1 z1 x2 y2 z2 hb1 hb2⟩
   unfold jN
   rw [w0o hz, b0U]
  case false =>
   have hz2 : kc z2 ≠ 0 := by simpa using p0r _ c0Z z2 _ hb2
   obtain ⟨pp, epp⟩ : ∃ q, z1 * z1 = q := ⟨_, rfl⟩
   obtain ⟨qq, eqq⟩ : ∃ q, z2 * z2 = q := ⟨_, rfl⟩
   obtain ⟨u1, eu1⟩ : ∃ q, x1 * qq = q := ⟨_, rfl⟩
   obtain ⟨u2, eu2⟩ : ∃ q, x2 * pp = q := ⟨_, rfl⟩
   obtain ⟨q3, eq3⟩ : ∃ q, qq * z2 = q := ⟨_, rfl⟩
   obtain ⟨s1, es1⟩ : ∃ q, y1 * q3 = q := ⟨_, rfl⟩
   obtain ⟨p3, ep3⟩ : ∃ q, pp * z1 = q := ⟨_, rfl⟩
   obtain ⟨s2, es2⟩ : ∃ q, y2 * p3 = q := ⟨_, rfl⟩
   obtain ⟨hd, ehd⟩ : ∃ q, u2 + (mP.M - u1 % mP.M) = q := ⟨_, rfl⟩
   obtain ⟨rr, err⟩ : ∃ q, s2 + (mP.M - s1 % mP.M) = q := ⟨_, rfl⟩
   have ku1 : kc u1 = kc x1 * (kc z2 * kc z2) := by rw [← eu1, ← eqq, a0E, a0E]
   have ku2 : kc u2 = kc x2 * (kc z1 * kc z1) := by rw [← eu2, ← epp, a0E, a0E]
   have ks1 : kc s1 = kc y1 * (kc z2 * kc z2 * kc z2) := by rw [← es1, ← eq3, ← eqq, a0E, a0E, a0E]
   have ks2 : kc s2 = kc y2 * (kc z1 * kc z1 * kc z1) := by rw [← es2, ← ep3, ← epp, a0E, a0E, a0E]
   have khd : kc hd = kc u2 - kc u1 := by rw [← ehd, j0u _ c0Z]
   have krr : kc rr = kc s2 - kc s1 := by rw [← err, j0u _ c0Z]
   obtain ⟨DX, DY, DZ, hX, hcall⟩ := k0Y x1 y1 z1 ho1
   have hcal := fun gc gp bx by_ wx (hcv : Has wx gc (e0A mP gp bx by_) 86) (hpm : Has wx gp (mdL mP) 115) => r0l mP gc gp bx by_ wx c0a hcv hpm x1 y1 z1 x2 y2 z2 hb1 hb2 pp qq u1 u2 q3 s1 p3 s2 hd rr _ _ _ _ _ _ _ _ _ _ _ _ _ DX DY DZ epp eqq eu1 eu2 eq3 es1 ep3 es2 ehd err rfl rfl rfl rfl rfl rfl rfl rfl rfl rfl rfl rfl rfl (fun _ _ wy hf2 => hcall gc gp bx by_ wy (hcv.keep hf2 id) (hpm.keep hf2 id))
   cases hh : (hd % mP.M == 0)
   case false =>
    have hn : kc hd ≠ 0 := by simpa using p0r _ c0Z hd _ hh
    rw [hh] at hcal
    refine ⟨_, _, _, ?_, fun gc gp bx by_ wx hcv hpm => hcal gc gp bx by_ wx hcv hpm⟩
    have h := w0q ho1 ho2 hz1 hz2 (kc u1) (kc u2) (kc s1) (kc s2) (kc hd) (kc rr) _ _ _ _ ku1 ku2 ks1 ks2 khd krr hn rfl rfl rfl rfl
    unfold jN at *
    rw [← h]
    simp only [j0u _ c0Z, f0E, a0E]
   case true =>
    have h0 : kc hd = 0 := by simpa using p0r _ c0Z hd _ hh
    have hs := w0r ho1 ho2 hz1 hz2 (by rw [← ku1, ← ku2, ← khd]; exact h0)
    rw [← ks1, ← ks2, ← krr] at hs
    cases hr : (rr % mP.M == 0)
    case true =>
     have hr0 : kc rr = 0 := by simpa using p0r _ c0Z rr _ hr
     rw [hh, hr] at hcal
     refine ⟨DX, DY, DZ, ?_, fun gc gp bx by_ wx hcv hpm => hcal gc gp bx by_ wx hcv hpm⟩
     have e := hs.1 hr0
     unfold jN at *
     rw [hX, e]
    case false =>
     have hr0 : kc rr ≠ 0 := by simpa using p0r _ c0Z rr _ hr
     rw [hh, hr] at hcal
     refine ⟨1, 1, 0, ?_, fun gc gp bx by_ wx hcv hpm => hcal gc gp bx by_ wx hcv hpm⟩
     have e := hs.2 hr0
     unfold jN at *
     rw [e, w0o t0D]
end
end Go.Proofs.YtemcankmggmgoaaGreatDoor
namespace Mvq
open Mvp
structure FP (M : Nat) : Prop where
 prime : IsP M
 odd : M % 2 = 1
 big : 3 < M
theorem FP.inv {M a : Nat} (h : FP M) (ha : a < M) (h0 : a ≠ 0) : a * (a ^ (M - 2) % M) % M = 1 := by
 have hd : ¬ M ∣ a := fun hx => by have := Nat.le_of_dvd (by omega) hx; omega
 have hb := h.big
 rw [Nat.mul_mod_mod, Nat.mul_comm, ← Nat.pow_succ, show (M - 2).succ = M - 1 by omega]
 exact n0B h.prime hd
theorem FP.inv0 {M : Nat} (h : FP M) : 0 ^ (M - 2) % M = 0 := by
 have hb := h.big
 rw [Nat.zero_pow (by omega), Nat.zero_mod]
theorem y0o {M a w : Nat} (h : IsP M) (ha : a < M) (hw : w < M) (hs : w * w % M = a * a % M) : w = a ∨ w = (M - a) % M := by
 have key : ∀ a w, a < M → w < M → a ≤ w → w * w % M = a * a % M → w = a ∨ w = (M - a) % M := by
  intro a w ha hw hle hs
  have hd : M ∣ (w - a) * (w + a) := by
   have h1 : M ∣ w * w - a * a := Nat.dvd_of_mod_eq_zero (Nat.sub_mod_eq_zero_of_mod_eq hs)
   rwa [Nat.mul_self_sub_mul_self_eq, Nat.mul_comm] at h1
  rcases h.euclid hd with h1 | h1
  ·left
   rcases Nat.eq_zero_or_pos (w - a) with h2 | h2
   ·omega
   ·have := Nat.le_of_dvd h2 h1; omega
  ·obtain ⟨c, hc⟩ := h1
   have h1 := h.1
   have hc2 : c = 0 ∨ c = 1 := by
    rcases Nat.lt_or_ge c 2 with h2 | h2
    ·omega
    ·have : M * 2 ≤ M * c := Nat.mul_le_mul_left _ h2
     omega
   rcases hc2 with rfl | rfl
   ·left; omega
   ·rcases Nat.eq_zero_or_pos a with h3 | h3
    ·subst h3; omega
    ·right; rw [Nat.mod_eq_of_lt (by omega)]; omega
 rcases Nat.le_total a w with h1 | h1
 ·exact key a w ha hw h1 hs
 ·rcases key w a hw ha h1 hs.symm with h2 | h2
  ·exact Or.inl h2.symm
  ·rcases Nat.eq_zero_or_pos w with h3 | h3
   ·subst h3; rw [Nat.sub_zero, Nat.mod_self] at h2; exact Or.inl h2.symm
   ·rw [Nat.mod_eq_of_lt (by omega)] at h2
    right
    rw [Nat.mod_eq_of_lt (by omega)]; omega
theorem r0m {M a : Nat} (h : FP M) (h4 : M % 4 = 3) (_ : a < M) : c0E M (a * a % M) = true := by
 unfold c0E rtN
 rw [beq_iff_eq]
 have hb := h.big
 generalize hk : M / 4 + 1 = k
 have h2 : 4 * k = M + 1 := by omega
 rw [Nat.mul_mod ((a * a % M) ^ k), ← Nat.pow_mod, ← Nat.mul_mod, ← Nat.pow_two a, ← Nat.pow_mul, ← Nat.pow_add, show 2 * k + 2 * k = M + 1 by omega, Nat.mod_mod]
 rw [Nat.pow_succ, Nat.mul_mod, m0j h.prime, ← Nat.mul_mod, Nat.pow_two]
theorem l0a {M x : Nat} (h : FP M) : rtV M x % M % 2 = 0 := by
 unfold rtV
 have hb := h.big
 have ho := h.odd
 have hl : rtN M x % M < M := Nat.mod_lt _ (by omega)
 generalize hr : rtN M x % M = r at *
 split
 ·rename_i h1
  rw [Nat.mod_eq_of_lt (show M - r < M by omega)]; omega
 ·rw [hr]; omega
theorem m0n {M x : Nat} (h : FP M) (hx : x < M) (hr : c0E M x = true) : (rtV M x % M) * (rtV M x % M) % M = x := by
 unfold c0E at hr
 rw [beq_iff_eq, Nat.mul_mod, Nat.mod_eq_of_lt hx] at hr
 unfold rtV
 have hb := h.big
 have hl : rtN M x % M < M := Nat.mod_lt _ (by omega)
 generalize hq : rtN M x % M = r at *
 split
 ·rename_i h1
  rw [Nat.mod_eq_of_lt (show M - r < M by omega)]
  have e : (M - r) * (M - r) + M * (2 * r) = r * r + M * M := by
   obtain ⟨d, rfl⟩ : ∃ d, M = r + d := ⟨M - r, by omega⟩
   rw [Nat.add_sub_cancel_left]
   clear hb hl hq hr hx h
   grind
  have e2 : ((M - r) * (M - r) + M * (2 * r)) % M = (r * r + M * M) % M := by rw [e]
  rw [Nat.add_mul_mod_self_left, Nat.add_mul_mod_self_left, hr] at e2
  exact e2
 ·rw [hq, hr]
theorem z0q : FP pP := ⟨by rw [show pP = 115792089237316195423570985008687907853269984665640564039457584007908834671663 by decide]; exact u0W, by decide, by decide⟩
end Mvq
namespace Mvq
open Mvp
def d0U : Pt → List UInt8
 | .O => List.replicate 33 0
 | .A x y => UInt8.ofNat (2 + y.val % 2) :: b0o x.val
theorem f0o (p : Pt) : (d0U p).length = 33 := by
 cases p
 ·simp [d0U]
 ·simp [d0U, a0T]
def tlN (l : List UInt8) : Nat := beN (l.drop 1)
def f0s (n : Nat) : Nat := n * n * n + 7
def f0p (l : List UInt8) : Bool :=
 decide (l.length = 33) && (if l.getD 0 0 = 0 then tlN l == 0 else decide (l.getD 0 0 = 2 ∨ l.getD 0 0 = 3) && (decide (tlN l < fP) && c0E fP (f0s (tlN l))))
def j0v (l : List UInt8) : Pt :=
 if l.getD 0 0 = 0 then .O else .A (kc (tlN l)) (if l.getD 0 0 = 3 then - kc (rtV fP (f0s (tlN l))) else kc (rtV fP (f0s (tlN l))))
theorem t0E {a x : Nat} (h : (a * a % fP == x % fP) = true) : kc a * kc a = kc x := by
 rw [y0n] at h
 rw [← a0E]; simpa using h
theorem v0b {x : Nat} (h : c0E fP x = true) : kc (rtV fP x) * kc (rtV fP x) = kc x := by
 unfold c0E at h
 have h1 := t0E h
 unfold rtV
 split
 ·rw [r0i, ← h1]; grind -lia -linarith
 ·exact h1
theorem r0n (n : Nat) : kc (f0s n) = kc n * kc n * kc n + 7 := by
 unfold f0s
 rw [f0E, a0E, a0E, show kc 7 = 7 by decide]
theorem z0r {n : Nat} (h : c0E fP (f0s n) = true) : onC (.A (kc n) (kc (rtV fP (f0s n)))) := by
 show kc (rtV fP (f0s n)) * kc (rtV fP (f0s n)) = kc n * kc n * kc n + 7
 rw [v0b h, r0n]
theorem z0s {l : List UInt8} (h : f0p l = true) : onC (j0v l) := by
 unfold f0p at h
 unfold j0v
 by_cases h0 : l.getD 0 0 = 0
 ·rw [if_pos h0]; trivial
 ·rw [if_neg h0]
  simp only [Bool.and_eq_true, decide_eq_true_eq, if_neg h0] at h
  obtain ⟨-, -, -, h4⟩ := h
  have := z0r h4
  by_cases h3 : l.getD 0 0 = 3
  ·rw [if_pos h3]; exact d0n this
  ·rw [if_neg h3]; exact this
theorem e0q (n : Nat) : (kc n).val = n % fP := by simp [kc, Fin.ofNat]
theorem t0F (n : Nat) (h : n < fP) : beN (b0o n) = n := by
 have h2 : fP < 256 ^ 32 := by decide
 exact m0S n (Nat.lt_trans h h2)
theorem m0o (y : K) (h : y ≠ 0) : (-y).val % 2 = (1 + y.val) % 2 := by
 have h0 : y.val ≠ 0 := fun e => h (Fin.ext e)
 have h1 : (-y).val = fP - y.val := by
  rw [Fin.val_neg]
  have hne : ¬ y = 0 := h
  simp [hne]
 have h2 : fP % 2 = 1 := by decide
 have h3 := y.isLt
 omega
theorem w0v {a b : K} (h : a * a = b * b) : a = b ∨ a = -b := by
 have : (a - b) * (a + b) = 0 := by grind -lia -linarith
 rcases a0x this with e | e
 ·left; grind -lia -linarith
 ·right; grind -lia -linarith
theorem z0t {p : Pt} (h : onC p) : f0p (d0U p) = true ∧ j0v (d0U p) = p := by
 cases p with
 | O =>
  have : (d0U .O) = List.replicate 33 0 := rfl
  rw [this]
  constructor
  ·decide
  ·unfold j0v; rw [if_pos (by decide)]
 | A x y =>
  have hc : y * y = x * x * x + 7 := h
  have hy := t0A hc
  have e0 : (d0U (.A x y)).getD 0 0 = UInt8.ofNat (2 + y.val % 2) := rfl
  have e1 : tlN (d0U (.A x y)) = x.val := by
   show beN (b0o x.val) = x.val
   exact t0F _ x.isLt
  have hl := f0o (.A x y)
  have hk : kc (f0s x.val) = y * y := by rw [r0n, i0s, hc]
  have hr : c0E fP (f0s x.val) = true := by
   have hh := r0m (M := fP) (a := y.val) (by have := z0q; rwa [r0h] at this) (by decide) y.isLt
   have e : kc (f0s x.val) = kc (y.val * y.val % fP) := by rw [e0j, a0E, i0s, hk]
   have e2 : f0s x.val % fP = y.val * y.val % fP % fP := by
    have := y0n (f0s x.val) (y.val * y.val % fP)
    rw [e] at this
    simpa using this
   unfold c0E rtN at *
   rw [Nat.mul_mod, Nat.pow_mod, e2, ← Nat.pow_mod, ← Nat.mul_mod]
   simpa using hh
  have hev : (kc (rtV fP (f0s x.val))).val % 2 = 0 := by
   rw [e0q]
   exact l0a (by have := z0q; rwa [r0h] at this)
  have hv := v0b hr
  rw [hk] at hv
  generalize hz : kc (rtV fP (f0s x.val)) = z at *
  unfold f0p j0v
  rw [hl, e1, e0, hr, hz]
  have hx := x.isLt
  have hcase : y.val % 2 = 0 ∨ y.val % 2 = 1 := by omega
  have hzy : z = (if y.val % 2 = 0 then y else -y) := by
   rcases w0v hv with e | e
   ·subst e; rw [if_pos hev]
   ·have hp := m0o y hy
    rw [← e] at hp
    rw [if_neg (by omega)]; exact e
  have hlt : decide (x.val < fP) = true := decide_eq_true hx
  rcases hcase with e | e
  ·have hb : UInt8.ofNat (2 + y.val % 2) = 2 := by rw [e]; rfl
   rw [if_pos e] at hzy
   rw [hb, hzy, hlt]
   refine ⟨?_, ?_⟩
   ·rw [if_neg (by decide)]; decide
   ·rw [if_neg (by decide), if_neg (by decide), i0s]
  ·have hb : UInt8.ofNat (2 + y.val % 2) = 3 := by rw [e]; rfl
   rw [if_neg (by omega)] at hzy
   rw [hb, hzy, hlt]
   refine ⟨?_, ?_⟩
   ·rw [if_neg (by decide)]; decide
   ·have hn : - -y = y := by grind -lia -linarith
    rw [if_neg (by decide), if_pos rfl, i0s, hn]
end Mvq
namespace Go.Proofs.YtemcankmggmgoaaGreatDoor
open Go.RowKit Go.Mv Mvp Mvq
def gXn : Nat := 0x79BE667EF9DCBBAC55A06295CE870B07029BFCDB2DCE28D959F2815B16F81798
def gYn : Nat := 0x483ADA7726A3C4655DA4FBFC0E1108A8FD17B448A68554199C47D08FFB10D4B8
structure PT where
 x : Nat
 y : Nat
 z : Nat
 on : onC (jN x y z)
def PT.pt (s : PT) : Pt := jN s.x s.y s.z
def PT.L (s : PT) : List Value := ptL mP s.x s.y s.z
theorem PT.len (s : PT) : s.L.length = 12 := a0N _ _ _ _
theorem PT.one (s : PT) : ∀ v ∈ s.L, v.oneCell' = true := a0Z _ _ _
theorem PT.onP (s : PT) : onC s.pt := s.on
def Cv (w : World) (gc : Nat) : Prop := ∃ gp, Has w gc (e0A mP gp gXn gYn) 86 ∧ Has w gp (mdL mP) 115
theorem Cv.keep {w w' : World} {gc : Nat} (h : Cv w gc) (hf : Fr Nob w w') : Cv w' gc := by
 obtain ⟨gp, h1, h2⟩ := h
 exact ⟨gp, h1.keep hf id, h2.keep hf id⟩
theorem m0p (s : PT) : ∃ t : PT, t.pt = b0d s.pt s.pt ∧ ∀ gc wx, Cv wx gc → Calls Tryz.prog 101 #[.pointer (some ⟨gc, 0, none⟩), (.agg s.L.toArray)] wx fun e w' => e = .returned (.agg t.L.toArray) ∧ Fr Nob wx w' := by
 obtain ⟨X, Y, Z, h1, h2⟩ := k0Y s.x s.y s.z s.on
 refine ⟨⟨X, Y, Z, by rw [h1]; exact c0u s.on s.on⟩, h1, ?_⟩
 rintro gc wx ⟨gp, a, b⟩
 exact h2 gc gp gXn gYn wx a b
theorem m0q (s t : PT) : ∃ r : PT, r.pt = b0d s.pt t.pt ∧ ∀ gc wx, Cv wx gc → Calls Tryz.prog 102 #[.pointer (some ⟨gc, 0, none⟩), (.agg s.L.toArray), (.agg t.L.toArray)] wx fun e w' => e = .returned (.agg r.L.toArray) ∧ Fr Nob wx w' := by
 obtain ⟨X, Y, Z, h1, h2⟩ := w0u s.x s.y s.z t.x t.y t.z s.on t.on
 refine ⟨⟨X, Y, Z, by rw [h1]; exact c0u s.on t.on⟩, h1, ?_⟩
 rintro gc wx ⟨gp, a, b⟩
 exact h2 gc gp gXn gYn wx a b
noncomputable def o0Y (s : PT) : PT := Classical.choose (m0p s)
noncomputable def p0s (s t : PT) : PT := Classical.choose (m0q s t)
theorem j0w (s : PT) : (o0Y s).pt = b0d s.pt s.pt := (Classical.choose_spec (m0p s)).1
theorem r0o (s t : PT) : (p0s s t).pt = b0d s.pt t.pt := (Classical.choose_spec (m0q s t)).1
theorem t0G (s : PT) (gc : Nat) (w : World) (h : Cv w gc) : Calls Tryz.prog 101 #[.pointer (some ⟨gc, 0, none⟩), (.agg s.L.toArray)] w fun e w' => e = .returned (.agg (o0Y s).L.toArray) ∧ Fr Nob w w' :=
 (Classical.choose_spec (m0p s)).2 gc w h
theorem v0c (s t : PT) (gc : Nat) (w : World) (h : Cv w gc) : Calls Tryz.prog 102 #[.pointer (some ⟨gc, 0, none⟩), (.agg s.L.toArray), (.agg t.L.toArray)] w fun e w' => e = .returned (.agg (p0s s t).L.toArray) ∧ Fr Nob w w' :=
 (Classical.choose_spec (m0q s t)).2 gc w h
theorem r0p : kc 1 = 1 := by decide
def noT : PT := ⟨1, 1, 0, by unfold jN; rw [w0o (by decide)]; trivial⟩
theorem r0q : noT.pt = .O := by show jN 1 1 0 = .O; unfold jN; rw [w0o (by decide)]
theorem l0b (gc : Nat) (w : World) (h : Cv w gc) : Calls Tryz.prog 97 #[.pointer (some ⟨gc, 0, none⟩)] w fun e w' => e = .returned (.agg noT.L.toArray) ∧ Fr Nob w w' := by
 obtain ⟨gp, a, b⟩ := h
 exact h0z mP gc gp gXn gYn w c0a a b
theorem v0d (x y : Nat) : jN x y 1 = .A (kc x) (kc y) := by
 unfold jN
 refine w0p (by decide) ?_ ?_
 ·rw [r0p]; grind -lia -linarith
 ·rw [r0p]; grind -lia -linarith
def x0m (x y : Nat) (h : onC (.A (kc x) (kc y))) : PT := ⟨x, y, 1, by rw [v0d]; exact h⟩
theorem m0r (x y : Nat) (h : onC (.A (kc x) (kc y))) : (x0m x y h).pt = .A (kc x) (kc y) := v0d x y
theorem j0x : onC (.A (kc gXn) (kc gYn)) := by
 show kc gYn * kc gYn = kc gXn * kc gXn * kc gXn + 7
 decide
def o0Z : PT := x0m gXn gYn j0x
theorem t0H : o0Z.pt = .A (kc gXn) (kc gYn) := m0r _ _ _
def PT.isO (s : PT) : Bool := s.z % mP.M == 0
theorem PT.isO_t {s : PT} (h : s.isO = true) : s.pt = .O := by
 have hz : kc s.z = 0 := by simpa using p0r _ c0Z s.z _ h
 exact w0o hz
theorem PT.isO_f {s : PT} (h : s.isO = false) : kc s.z ≠ 0 := by simpa using p0r _ c0Z s.z _ h
end Go.Proofs.YtemcankmggmgoaaGreatDoor
namespace Go.Mv
open Go.RowKit
section
variable {P : Program} {w w0 : World} {ops : Array Oper} {rest : List Oper} {o : Oper} {a : Act} {Q : Exit → Act → World → Prop} {S : Nat → Prop} {bl : List (Nat × List Value × TypeId)} {K : Act → World → Prop}
theorem r0r (hst : St S w0 w bl) (i : Nat) {g : Nat} {L : List Value} {T : TypeId} (hb : bl[i]? = some (g, L, T)) {ty : TypeId} {x y : Operand} (hgd : o.guard = none) (ho : o.op = .store ty x y) {p : Nat} (hx : a.eval x = .pointer (some ⟨g, p, none⟩)) {cs : List Value} (hy : a.eval y = .agg cs.toArray)
  (L' : List Value) (hL : splice L p cs = L') (hn : p + cs.length ≤ L.length) (hi : (P.info? ty).map (·.size) = some cs.length) (h1 : ∀ v ∈ cs, v.oneCell' = true)
  (h : ∀ w', St S w0 w' (bl.set i (g, L', T)) → wpList P ops Q rest (a.put o.dst undef) w') : wpList P ops Q (o :: rest) a w :=
 d0Y hgd ho hx hy (hst.at i hb) hn hi h1 fun w' hg hf _ => h w' (hst.put i hb hf (by rwa [hL] at hg))
theorem l0c (hst : St S w0 w bl) (i : Nat) {g : Nat} {L : List Value} {T : TypeId} (hb : bl[i]? = some (g, L, T)) {ty : TypeId} {x y : Operand} (ho : o.op = .store ty x y) {p : Nat} (hx : a.eval x = .pointer (some ⟨g, p, none⟩)) {cs : List Value} (hy : a.eval y = .agg cs.toArray)
  (L' : List Value) (hL : splice L p cs = L') (hn : p + cs.length ≤ L.length) (hi : (P.info? ty).map (·.size) = some cs.length) (h1 : ∀ v ∈ cs, v.oneCell' = true)
  (h : ∀ w', St S w0 w' (bl.set i (g, L', T)) → K (a.put o.dst undef) w') : o.wp P a w K Q := by
 obtain ⟨k1, k2, _⟩ := Has.setCells cs p L w (hst.at i hb) hn
 rw [hL] at k1
 exact wp_store_mid ty x y ho g p cs.toArray hx hy (by simpa using (hst.at i hb).there p cs.length hn) (by simpa using hi) (all_oneCell_toArray h1) (by simpa using h _ (hst.put i hb k2 k1))
theorem i0v (A B C : List Value) (n : Nat) (hA : A.length = n) (hC : C.length = B.length) : splice (A ++ B) n C = A ++ C := by
 unfold splice
 subst hA
 rw [List.take_left, List.drop_append, List.drop_of_length_le (by omega), List.drop_of_length_le (by omega)]
 simp
theorem p0a (A B D C : List Value) (n : Nat) (hA : A.length = n) (hC : C.length = B.length) : splice (A ++ (B ++ D)) n C = A ++ (C ++ D) := by
 unfold splice
 subst hA
 rw [List.take_left, List.drop_append, List.drop_of_length_le (by omega), List.nil_append, show A.length + C.length - A.length = B.length by omega, List.drop_left]
end
end Go.Mv
namespace Go.Proofs.YtemcankmggmgoaaGreatDoor
open Go.RowKit Go.Mv Mvp Mvq
theorem OfI (m : Md) (hk : KindOf 0 m) (w : World) : Calls Tryz.prog 70 #[.int .i64 0] w fun e w' => ∃ g, e = .returned (.tuple #[.pointer (some ⟨g, 0, none⟩), .bool true]) ∧ w.heap.size ≤ g ∧ Has w' g (mdL m) 115 ∧ Fr Nob w w' := by
 cases hk
 go_enter Tryz.func70, Tryz.ntmps70
 go_wp2
 go_ret2
 exact ⟨_, rfl, Nat.le_refl _, by rw [← n0c]; exact Has.new w _ _, (Fr.refl Nob w).alloc _⟩
theorem t0I : Tryz.prog.built 72 [(0, .int .u64 6481385041966929816), (1, .int .u64 188021827762530521), (2, .int .u64 6170039885052185351), (3, .int .u64 8772561819708210092)] = some (cw 4 gXn).toArray := by kernel_rfl
theorem t0J : Tryz.prog.built 72 [(0, .int .u64 11261198710074299576), (1, .int .u64 18237243440184513561), (2, .int .u64 6747795201694173352), (3, .int .u64 5204712524664259685)] = some (cw 4 gYn).toArray := by kernel_rfl
theorem z0u : gXn < B64 ^ 4 := by decide
theorem z0v : gYn < B64 ^ 4 := by decide
theorem r0s (p : Option Addr) (a : Nat) : Tryz.prog.built 86 [(0, .pointer p), (1, i4 a)] = some ([Value.pointer p] ++ (cw 4 a ++ (cw 4 0 ++ (cw 4 0 ++ cw 4 0)))).toArray := by kernel_rfl
theorem p0b (p : Value) (a b c d : Nat) : splice ([p] ++ (cw 4 a ++ (cw 4 0 ++ (cw 4 0 ++ cw 4 0)))) 5 (cw 4 b ++ (cw 4 c ++ cw 4 d)) = [p] ++ (cw 4 a ++ (cw 4 b ++ (cw 4 c ++ cw 4 d))) := by
 have h := i0v ([p] ++ cw 4 a) (cw 4 0 ++ (cw 4 0 ++ cw 4 0)) (cw 4 b ++ (cw 4 c ++ cw 4 d)) 5 (by rw [List.length_append, a0a]; rfl) (by first | (simp only [a0a]; done) | (simp only [List.length_append, a0a]; done))
 rw [List.append_assoc, List.append_assoc] at h
 exact h
theorem w0w (p : Value) (a b c d : Nat) : ([p] ++ (cw 4 a ++ (cw 4 b ++ (cw 4 c ++ cw 4 d)))).length = 17 := by simp only [List.length_append, a0a]; rfl
attribute [local irreducible] a0J lw mix cw b0t b0G b0q a0P a0u beN laid b0o b0H a0M a0V elN mdL b0R rtN rtV c0E gXn gYn
theorem t0K (m : Md) (hk : KindOf 0 m) (w : World) :
  Calls Tryz.prog 37 #[] w fun e w' => ∃ gc, e = .returned (.pointer (some ⟨gc, 0, none⟩)) ∧ w.heap.size ≤ gc ∧ (∃ gp, Has w' gc (e0A m gp gXn gYn) 86 ∧ Has w' gp (mdL m) 115) ∧ Fr Nob w w' := by
 have HK := qH hk
 have HOK := qH hk.ok
 have HGX := qH z0u
 have HGY := qH z0v
 clear hk
 have st0 := St.start Nob w
 go_enter Tryz.func37, Tryz.ntmps37
 go_wp2_with fail
 refine (OfI m HK.out _).mono ?_
 rintro e' w1 ⟨gp, rfl, hle, hm, hf1⟩
 have st1 : St Nob w w1 [(gp, mdL m, 115)] := st0.new hf1 hm hle
 clear st0 hf1 hm hle
 go_wp2_with fail
 refine (i0g m gp _ HOK.out (st1.at 0 rfl) 7 (by decide)).mono ?_
 rintro e' w2 ⟨rfl, hf2⟩
 have st2 := st1.keep hf2
 clear st1 hf2
 go_wp2_with (with_reducible refine wSk 13 ?_)
 refine c0f rfl rfl _ (r0s _ _) ?_
 go_wp2_with (with_reducible refine wSk 14 ?_)
 refine a0m st2 rfl rfl rfl ([Value.pointer (some ⟨gp, 0, none⟩)] ++ (cw 4 (elN m 7) ++ (cw 4 0 ++ (cw 4 0 ++ cw 4 0)))) rfl ?_
 intro gc w3 st3
 clear st2
 go_wp2_with (with_reducible refine wSk 16 ?_)
 refine c0f rfl rfl _ t0I ?_
 go_wp2_with fail
 refine (d0N m gp _ HOK.out (st3.at 0 rfl) gXn HGX.out).mono ?_
 rintro e' w4 ⟨rfl, hf4⟩
 have st4 := st3.keep hf4
 clear st3 hf4
 go_wp2_with (with_reducible refine wSk 19 ?_)
 refine c0f rfl rfl _ t0J ?_
 go_wp2_with fail
 refine (d0N m gp _ HOK.out (st4.at 0 rfl) gYn HGY.out).mono ?_
 rintro e' w5 ⟨rfl, hf5⟩
 have st5 := st4.keep hf5
 clear st4 hf5
 go_wp2_with (with_reducible refine wSk 4 ?_)
 refine a0b st5 rfl rfl (z := zAd) (by kernel_rfl) (cw 4 0) (by rw [a0f]; rfl) ?_
 intro g4 w6 st6
 clear st5
 go_wp2_with (with_reducible refine wSk 5 ?_)
 refine a0b st6 rfl rfl (z := zAd) (by kernel_rfl) (cw 4 0) (by rw [a0f]; rfl) ?_
 intro g5 w7 st7
 clear st6
 go_wp2_with (with_reducible refine wSn ?_)
 refine a0d st7 2 rfl rfl rfl rfl rfl (by first | (simp only [a0a]; done) | (simp only [List.length_append, a0a]; done)) (by first | (rw [a0a]; kernel_rfl) | (simp only [List.length_append, a0a]; kernel_rfl)) (a0i _ _) ?_
 intro w8 st8
 clear st7
 go_wp2_with (with_reducible refine wSn ?_)
 refine a0d st8 3 rfl rfl rfl rfl rfl (by first | (simp only [a0a]; done) | (simp only [List.length_append, a0a]; done)) (by first | (rw [a0a]; kernel_rfl) | (simp only [List.length_append, a0a]; kernel_rfl)) (a0i _ _) ?_
 intro w9 st9
 clear st8
 go_wp2_with fail
 refine wp_region_noPanic ?_
 refine a0p (fun wx => St Nob w wx [(gp, mdL m, 115), (gc, [Value.pointer (some ⟨gp, 0, none⟩)] ++ (cw 4 (elN m 7) ++ (cw 4 0 ++ (cw 4 0 ++ cw 4 0))), 86), (g4, cw 4 (elN m gXn), 59), (g5, cw 4 (elN m gYn), 59)]) 11 (.w 0 (.t 1 (.t 2 (.w 3 (.w 4 (.w 5 (.t 6 (.r 7 (.w 8 (.w 9 (.w 10 (.m 11 .nil)))))))))))) (by kernel_rfl) (by kernel_rfl) st9.drew (fun _ _ _ _ _ h => h) ?_
 have hd9 := st9.drew
 clear st9
 refine a0l (v := ?_) rfl rfl (fun wx => ?_) ?_
 rotate_left 1
 ·(go_simp; with_reducible rfl)
 try simp only [clL]
 refine a0s rfl rfl rfl rfl (cw 4 (elN m gXn)) (fun wx hS => St.rangeL hS 2 rfl 0 _ dZl) Tryz.underlying59 rfl (by first | (rw [a0a]; kernel_rfl) | (simp only [List.length_append, a0a]; kernel_rfl)) ?_
 try simp only [clL]
 refine a0s rfl rfl rfl rfl (cw 4 (elN m gYn)) (fun wx hS => St.rangeL hS 3 rfl 0 _ dZl) Tryz.underlying59 rfl (by first | (rw [a0a]; kernel_rfl) | (simp only [List.length_append, a0a]; kernel_rfl)) ?_
 try simp only [clL]
 refine a0l (v := ?_) rfl rfl (fun wx => ?_) ?_
 rotate_left 1
 ·(go_simp; with_reducible rfl)
 try simp only [clL]
 refine a0l (v := ?_) rfl rfl (fun wx => ?_) ?_
 rotate_left 1
 ·(go_simp; with_reducible rfl)
 try simp only [clL]
 refine a0l (v := ?_) rfl rfl (fun wx => ?_) ?_
 rotate_left 1
 ·(go_simp; with_reducible rfl)
 try simp only [clL]
 refine d0i (v := ?_) rfl rfl (fun wx hS => ?_) ?_
 rotate_left 1
 ·(have hc := (St.at hS 1 rfl).cell (i := 0) rfl; clear hS; go_simp; with_reducible rfl)
 try simp only [clL]
 refine a0A rfl rfl ?_
 go_simp
 refine (d0M m gp _ HOK.out (hd9.at 0 rfl)).mono ?_
 rintro e' w10 ⟨rfl, hf10⟩
 have st10 := hd9.keep hf10
 clear hf10
 clear hd9
 refine ⟨st10, ?_⟩
 try simp only [clL]
 refine a0l rfl rfl (b0z rfl _ (e0p _ _ _)) ?_
 try simp only [clL]
 refine a0l (v := ?_) rfl rfl (fun wx => ?_) ?_
 rotate_left 1
 ·(go_simp; with_reducible rfl)
 try simp only [clL]
 refine a0l (v := ?_) rfl rfl (fun wx => ?_) ?_
 rotate_left 1
 ·(go_simp; with_reducible rfl)
 try simp only [clL]
 refine a0r rfl rfl ?_
 refine l0c st10 1 rfl rfl rfl rfl _ (p0b _ _ _ _ _) (by rw [w0w]; simp only [List.length_append, a0a]; decide) (by first | (rw [a0a]; kernel_rfl) | (simp only [List.length_append, a0a]; kernel_rfl)) (a0Z _ _ _) ?_
 intro w11 st11
 have st11 : St Nob w w11 [(gp, mdL m, 115), (gc, [Value.pointer (some ⟨gp, 0, none⟩)] ++ (cw 4 (elN m 7) ++ (cw 4 (elN m gXn) ++ (cw 4 (elN m gYn) ++ cw 4 (elN m 1)))), 86), (g4, cw 4 (elN m gXn), 59), (g5, cw 4 (elN m gYn), 59)] := st11
 clear st10
 try simp only [Act.put]
 refine a0k ?_
 refine NoPanic.normal ?_
 have hown := st11.own _ (List.mem_of_getElem? (i := 1) rfl)
 have hc := st11.at 1 rfl
 have hm := st11.at 0 rfl
 have hfr := st11.fr
 clear st11
 have hge := hown.resolve_right (fun h => h)
 clear hown
 have HGE := qH hge
 clear hge
 go_wp2_with fail
 go_ret
 exact ⟨gc, rfl, HGE.out, ⟨gp, hc, hm⟩, hfr⟩
theorem h0A (w : World) : Calls Tryz.prog 37 #[] w fun e w' => ∃ gc, e = .returned (.pointer (some ⟨gc, 0, none⟩)) ∧ w.heap.size ≤ gc ∧ Cv w' gc ∧ Fr Nob w w' := t0K mP .zero w
end Go.Proofs.YtemcankmggmgoaaGreatDoor
namespace Go.Mv
open Go.RowKit
theorem f0q (f : Nat → List Value) (k : Nat) (hl : ∀ i, (f i).length = k) : ∀ n, ((List.range n).flatMap f).length = k * n
 | 0 => by simp
 | n + 1 => by rw [List.range_succ, List.flatMap_append, List.length_append, f0q f k hl n]; simp [hl, Nat.mul_succ]
theorem f0F (f : Nat → List Value) (n i : Nat) (h : i < n) : (List.range n).flatMap f = (List.range i).flatMap f ++ (f i ++ (List.range' (i + 1) (n - i - 1)).flatMap f) := by
 have e : List.range n = List.range i ++ i :: List.range' (i + 1) (n - i - 1) := by
  rw [List.range_eq_range', List.range_eq_range']
  have h1 : n = i + (n - i - 1 + 1) := by omega
  conv => lhs; rw [h1]
  rw [← List.range'_append_1, List.range'_succ]
  simp
 rw [e]; simp
theorem n0F (f : Nat → List Value) (k : Nat) (hl : ∀ i, (f i).length = k) (n i : Nat) (h : i < n) : (((List.range n).flatMap f).drop (i * k)).take (f i).length = f i := by
 rw [f0F f n i h, List.drop_append_of_le_length (by rw [f0q f k hl, Nat.mul_comm]; omega), List.drop_of_length_le (by rw [f0q f k hl, Nat.mul_comm]; omega), List.nil_append, List.take_left]
theorem t0L (f f' : Nat → List Value) (k : Nat) (hl : ∀ i, (f i).length = k) (n i : Nat) (h : i < n) (hi : (f' i).length = k) (hv : ∀ j, j ≠ i → f' j = f j) : splice ((List.range n).flatMap f) (i * k) (f' i) = (List.range n).flatMap f' := by
 rw [f0F f n i h, f0F f' n i h]
 have e1 : (List.range i).flatMap f' = (List.range i).flatMap f := by
  rw [List.flatMap_def, List.flatMap_def]
  congr 1
  exact List.map_congr_left fun j hj => hv j (by have := List.mem_range.1 hj; omega)
 have e2 : (List.range' (i + 1) (n - i - 1)).flatMap f' = (List.range' (i + 1) (n - i - 1)).flatMap f := by
  rw [List.flatMap_def, List.flatMap_def]
  congr 1
  exact List.map_congr_left fun j hj => hv j (by have := List.mem_range'_1.1 hj; omega)
 rw [e1, e2]
 exact p0a _ _ _ _ _ (by rw [f0q f k hl, Nat.mul_comm]) (by rw [hi, hl])
end Go.Mv
namespace Go.Proofs.YtemcankmggmgoaaGreatDoor
open Go.RowKit Go.Mv Mvp Mvq
noncomputable def f0G (s : PT) : Nat → PT
 | 0 => noT
 | i + 1 => p0s (f0G s i) s
theorem r0t (s : PT) : ∀ i, (f0G s i).pt = b0D i s.pt
 | 0 => r0q
 | i + 1 => by
  show (p0s (f0G s i) s).pt = b0d (b0D i s.pt) s.pt
  rw [r0o, r0t s i]
theorem y0p (s : PT) (k gc : Nat) (w : World) (h : Cv w gc) : Calls Tryz.prog 102 #[.pointer (some ⟨gc, 0, none⟩), (.agg (f0G s k).L.toArray), (.agg s.L.toArray)] w fun e w' => e = .returned (.agg (f0G s (k + 1)).L.toArray) ∧ Fr Nob w w' := v0c (f0G s k) s gc w h
noncomputable def tbR (s : PT) (j i : Nat) : List Value := if i < j then (f0G s i).L else cw 12 0
noncomputable def tbL (s : PT) (j : Nat) : List Value := (List.range 16).flatMap (tbR s j)
theorem j0y (s : PT) (j i : Nat) : (tbR s j i).length = 12 := by
 unfold tbR; split
 ·exact PT.len _
 ·exact a0a _ _
theorem c0l (s : PT) (j : Nat) : (tbL s j).length = 192 := f0q _ 12 (j0y s j) 16
theorem w0x (s : PT) (j : Nat) : ∀ v ∈ tbL s j, v.oneCell' = true := by
 intro v hv
 unfold tbL at hv
 obtain ⟨i, -, hi⟩ := List.mem_flatMap.1 hv
 unfold tbR at hi
 split at hi
 ·exact PT.one _ v hi
 ·exact a0i _ _ v hi
theorem t0M (s : PT) : (Value.agg (List.replicate 192 (Value.int .u64 0)).toArray).cells.toList = tbL s 0 := by
 unfold tbL tbR
 simp only [Nat.not_lt_zero, if_false, a0f]
 rfl
theorem r0u (s : PT) (j : Nat) (h : j < 16) : splice (tbL s j) (j * 12) (f0G s j).L = tbL s (j + 1) := by
 have h0 := t0L (tbR s j) (tbR s (j + 1)) 12 (j0y s j) 16 j h (j0y s _ _) (fun i hi => by unfold tbR; by_cases hc : i < j; rw [if_pos hc, if_pos (by omega)]; rw [if_neg hc, if_neg (by omega)])
 have e : tbR s (j + 1) j = (f0G s j).L := by unfold tbR; rw [if_pos (by omega)]
 rw [e] at h0
 exact h0
theorem t0N (s : PT) : splice (tbL s 0) 0 noT.L = tbL s (0 + 1) := r0u s 0 (by omega)
theorem r0v (s : PT) (j i : Nat) (h : i < j) (hj : j ≤ 16) : ((tbL s j).drop (i * 12)).take (f0G s i).L.length = (f0G s i).L := by
 have h0 := n0F (tbR s j) 12 (j0y s j) 16 i (by omega)
 have e : tbR s j i = (f0G s i).L := by unfold tbR; rw [if_pos h]
 rw [e] at h0
 exact h0
theorem t0O : (Tryz.prog.info? 122).map (·.zero) = some (some (.agg (List.replicate 192 (.int .u64 0)).toArray)) := by kernel_rfl
attribute [local irreducible] a0J lw mix cw b0t b0G b0q a0P a0u beN laid b0o b0H a0M a0V elN mdL b0R rtN rtV c0E gXn gYn PT.L p0s o0Y f0G tbL
theorem m0s (s : PT) (gc : Nat) (w : World) (h : Cv w gc) :
  Calls Tryz.prog 73 #[.pointer (some ⟨gc, 0, none⟩), .agg s.L.toArray] w fun e w' => e = .returned (.agg (tbL s 16).toArray) ∧ Fr Nob w w' := by
 have HCV := qH h
 clear h
 have st0 := St.start Nob w
 go_enter Tryz.func73, Tryz.ntmps73
 go_wp2_with (with_reducible refine wSk 3 ?_)
 refine a0m st0 rfl rfl rfl (s.L) rfl ?_
 intro g3 w1 st1
 clear st0
 go_wp2_with (with_reducible refine wSk 4 ?_)
 refine a0b st1 rfl rfl t0O (tbL s 0) (t0M s) ?_
 intro g4 w2 st2
 clear st1
 go_wp2_with fail
 refine (l0b gc _ (HCV.out.keep st2.fr)).mono ?_
 rintro e' w3 ⟨rfl, hf3⟩
 have st3 := st2.keep hf3
 clear st2 hf3
 go_wp2_with (with_reducible refine wSn ?_)
 refine r0r st3 1 rfl rfl rfl rfl rfl (tbL s (0 + 1)) (t0N s) (by rw [c0l, PT.len]; omega) (by first | (rw [a0a]; kernel_rfl) | (simp only [PT.len]; kernel_rfl)) (PT.one _) ?_
 intro w4 st4
 have st4 : St Nob w w4 [(g3, s.L, 78), (g4, tbL s (0 + 1), 122)] := st4
 clear st3
 go_wp2
 go_loopw [5] (fun i wr => ∃ k : Nat, k ≤ 15 ∧ i = .int .i64 ((k : Int) + 1) ∧ St Nob w wr [(g3, s.L, 78), (g4, tbL s (k + 1), 122)]) (fun i _ => (16 - intOf i).toNat)
 case atStart => exact ⟨0, by omega, rfl, st4⟩
 case round =>
  obtain ⟨k, hk, rfl, st⟩ := hrel
  clear st4
  rcases Nat.lt_or_ge k 15 with hk2 | hk2
  ·have hc : ((k : Int) + 1 < 16) := by omega
   have hlt : (k : Int) + 1 < 9223372036854775808 := by omega
   have hl2 : (k : Int) < 9223372036854775808 := by omega
   have hl3 : (k : Int) < 16 := by omega
   have hl4 : IntKind.i64.wrap (k : Int) = (k : Int) := IntWalk.i64_in _ (by omega)
   have hl5 : (0 : Int) ≤ (k : Int) := by omega
   have hl6 : (0 : Int) ≤ (k : Int) + 1 := by omega
   go_wp2_with fail
   refine wp_region_noPanic ?_
   refine a0p (fun wx => St Nob w wx [(g3, s.L, 78), (g4, tbL s (k + 1), 122)]) 9 (.w 0 (.w 1 (.w 2 (.w 3 (.w 4 (.t 5 (.t 6 (.r 7 (.w 8 (.m 9 .nil)))))))))) (by kernel_rfl) (by kernel_rfl) st.drew (fun _ _ _ _ _ h => h) ?_
   have hd4 := st.drew
   clear st
   refine a0l (v := ?_) rfl rfl (fun wx => ?_) ?_
   rotate_left 1
   ·(go_simp; with_reducible rfl)
   try simp only [clL]
   refine a0l (v := ?_) rfl rfl (fun wx => ?_) ?_
   rotate_left 1
   ·(go_simp; with_reducible rfl)
   try simp only [clL]
   refine a0l (v := ?_) rfl rfl (fun wx => ?_) ?_
   rotate_left 1
   ·(go_simp; with_reducible rfl)
   try simp only [clL]
   refine a0l (v := ?_) rfl rfl (fun wx => ?_) ?_
   rotate_left 1
   ·(go_simp; with_reducible rfl)
   try simp only [clL]
   refine a0l (v := ?_) rfl rfl (fun wx => ?_) ?_
   rotate_left 1
   ·(go_simp; with_reducible rfl)
   try simp only [clL]
   refine a0s rfl rfl rfl rfl ((f0G s k).L) (fun wx hS => St.rangeL hS 1 rfl (k * 12) _ (r0v s (k + 1) k (by omega) (by omega))) Tryz.underlying78 rfl (by first | (rw [a0a]; kernel_rfl) | (simp only [PT.len]; kernel_rfl)) ?_
   try simp only [clL]
   refine a0s rfl rfl rfl rfl (s.L) (fun wx hS => St.rangeL hS 0 rfl 0 _ dZl) Tryz.underlying78 rfl (by first | (rw [a0a]; kernel_rfl) | (simp only [PT.len]; kernel_rfl)) ?_
   try simp only [clL]
   refine a0A rfl rfl ?_
   go_simp
   refine (y0p s k gc _ (HCV.out.keep hd4.fr)).mono ?_
   rintro e' w5 ⟨rfl, hf5⟩
   have st5 := hd4.keep hf5
   clear hf5
   clear hd4
   refine ⟨st5, ?_⟩
   try simp only [clL]
   refine a0l (v := ?_) rfl rfl (fun wx => ?_) ?_
   rotate_left 1
   ·(go_simp; with_reducible rfl)
   try simp only [clL]
   refine a0r rfl rfl ?_
   refine l0c st5 1 rfl rfl rfl rfl (tbL s ((k + 1) + 1)) (r0u s (k + 1) (by omega)) (by rw [c0l, PT.len]; omega) (by first | (rw [a0a]; kernel_rfl) | (simp only [PT.len]; kernel_rfl)) (PT.one _) ?_
   intro w6 st6
   have st6 : St Nob w w6 [(g3, s.L, 78), (g4, tbL s ((k + 1) + 1), 122)] := st6
   clear st5
   try simp only [Act.put]
   refine a0k ?_
   refine NoPanic.normal ?_
   go_wp2
   go_roundw
   case rel => exact ⟨k + 1, by omega, by simp, st6⟩
   case measure => simp [intOf]; omega
  ·have hk3 : k = 15 := by omega
   subst hk3
   have hc : ¬ (((15 : Nat) : Int) + 1 < 16) := by omega
   go_wp2_with (with_reducible refine wSk 22 ?_)
   refine a0o st 1 rfl rfl rfl Tryz.underlying122 rfl rfl (by first | (rw [a0a]; kernel_rfl) | (simp only [c0l]; kernel_rfl)) ?_
   go_wp2_with (with_reducible refine wSn ?_)
   refine a0d st 1 rfl rfl rfl rfl rfl (by first | (simp only []; done) | (simp only [List.length_append, a0a, PT.len, c0l]; done)) (by first | (rw [a0a]; kernel_rfl) | (simp only [c0l]; kernel_rfl)) (w0x _ _) ?_
   intro w5 st5
   clear st
   have hr := st5.at 1 rfl
   have hfr := st5.fr
   clear st5
   go_wp2_with fail
   exact bodyPost_ret (a0q rfl rfl hr Tryz.underlying122 (by first | (rw [a0a]; kernel_rfl) | (simp only [c0l]; kernel_rfl))) rfl ⟨rfl, hfr⟩
end Go.Proofs.YtemcankmggmgoaaGreatDoor
