/- ; ; ; ; ; ; ; ; ; ; ; ; ; ; ; . -/
import Derived.Test.YtemcankmggmgoaaGreatMgSigmaSignsProof5
import Derived.Test.YtemcankmggmgoaaGreatMgSigmaSignsProof2
import Derived.Test.YtemcankmggmgoaaGreatMgSigmaSignsProof3
set_option maxHeartbeats 16000000
set_option maxRecDepth 1000000

namespace Mvq
theorem bd0 : PBd 1 [] := c0Y _ _ (by decide)
theorem z0s (x1 x2 x3 y1 y2 y3 : K) (n : Nat) : Rp (v3 x1 x2 x3 y1 y2 y3) 0 (tc n) (kc n) := by
 refine ⟨?_, ?_⟩
 ·simp only [tc, v3, e0h, plv, mo]; grind -lia -linarith
 ·have h0 : PBd 0 [] := c0Y _ _ (by decide)
  have h1 : PBd 0 [(0, n)] := c0Y _ _ (by simp)
  exact ⟨⟨⟨h1, h0⟩, ⟨h0, h0⟩⟩, ⟨⟨h0, h0⟩, ⟨h0, h0⟩⟩⟩
section
variable (x1 x2 x3 y1 y2 y3 : K)
theorem w0i : kc 1 = 1 := by decide
theorem y0k : Rp (v3 x1 x2 x3 y1 y2 y3) 1 tx1 x1 := by
 refine ⟨?_, ⟨⟨⟨c0Y _ _ (by decide), bd0⟩, ⟨bd0, bd0⟩⟩, ⟨⟨bd0, bd0⟩, ⟨bd0, bd0⟩⟩⟩⟩
 simp only [tx1, e0, e1, v3, e0h, plv, mo, w0i]; grind -lia -linarith
theorem y0l : Rp (v3 x1 x2 x3 y1 y2 y3) 1 tx2 x2 := by
 refine ⟨?_, ⟨⟨⟨c0Y _ _ (by decide), bd0⟩, ⟨bd0, bd0⟩⟩, ⟨⟨bd0, bd0⟩, ⟨bd0, bd0⟩⟩⟩⟩
 simp only [tx2, e0, e1, v3, e0h, plv, mo, w0i]; grind -lia -linarith
theorem y0m : Rp (v3 x1 x2 x3 y1 y2 y3) 1 tx3 x3 := by
 refine ⟨?_, ⟨⟨⟨c0Y _ _ (by decide), bd0⟩, ⟨bd0, bd0⟩⟩, ⟨⟨bd0, bd0⟩, ⟨bd0, bd0⟩⟩⟩⟩
 simp only [tx3, e0, e1, v3, e0h, plv, mo, w0i]; grind -lia -linarith
theorem y0n : Rp (v3 x1 x2 x3 y1 y2 y3) 1 ty1 y1 := by
 refine ⟨?_, ⟨⟨⟨bd0, c0Y _ _ (by decide)⟩, ⟨bd0, bd0⟩⟩, ⟨⟨bd0, bd0⟩, ⟨bd0, bd0⟩⟩⟩⟩
 simp only [ty1, e0, e1, v3, e0h, plv, mo, w0i]; grind -lia -linarith
theorem y0o : Rp (v3 x1 x2 x3 y1 y2 y3) 1 ty2 y2 := by
 refine ⟨?_, ⟨⟨⟨bd0, bd0⟩, ⟨c0Y _ _ (by decide), bd0⟩⟩, ⟨⟨bd0, bd0⟩, ⟨bd0, bd0⟩⟩⟩⟩
 simp only [ty2, e0, e1, v3, e0h, plv, mo, w0i]; grind -lia -linarith
theorem y0p : Rp (v3 x1 x2 x3 y1 y2 y3) 1 ty3 y3 := by
 refine ⟨?_, ⟨⟨⟨bd0, bd0⟩, ⟨bd0, bd0⟩⟩, ⟨⟨c0Y _ _ (by decide), bd0⟩, ⟨bd0, bd0⟩⟩⟩⟩
 simp only [ty3, e0, e1, v3, e0h, plv, mo, w0i]; grind -lia -linarith
end
theorem z0t (x1 x2 x3 y1 y2 y3 : K) (h1 : y1 * y1 = x1 * x1 * x1 + 7) (h2 : y2 * y2 = x2 * x2 * x2 + 7) (h3 : y3 * y3 = x3 * x3 * x3 + 7) :
  cX (cX x1 y1 1 x2 y2 1) (cY x1 y1 1 x2 y2 1) (cZ x1 y1 1 x2 y2 1) x3 y3 1 * cZ x1 y1 1 (cX x2 y2 1 x3 y3 1) (cY x2 y2 1 x3 y3 1) (cZ x2 y2 1 x3 y3 1) =
   cX x1 y1 1 (cX x2 y2 1 x3 y3 1) (cY x2 y2 1 x3 y3 1) (cZ x2 y2 1 x3 y3 1) * cZ (cX x1 y1 1 x2 y2 1) (cY x1 y1 1 x2 y2 1) (cZ x1 y1 1 x2 y2 1) x3 y3 1 ∧
  cY (cX x1 y1 1 x2 y2 1) (cY x1 y1 1 x2 y2 1) (cZ x1 y1 1 x2 y2 1) x3 y3 1 * cZ x1 y1 1 (cX x2 y2 1 x3 y3 1) (cY x2 y2 1 x3 y3 1) (cZ x2 y2 1 x3 y3 1) =
   cY x1 y1 1 (cX x2 y2 1 x3 y3 1) (cY x2 y2 1 x3 y3 1) (cZ x2 y2 1 x3 y3 1) * cZ (cX x1 y1 1 x2 y2 1) (cY x1 y1 1 x2 y2 1) (cZ x1 y1 1 x2 y2 1) x3 y3 1 := by
 have S := z0Y x1 x2 x3 y1 y2 y3 h1 h2 h3
 have hc := z0s x1 x2 x3 y1 y2 y3
 have c1 : Rp (v3 x1 x2 x3 y1 y2 y3) 1 (tc 1) 1 := (w0i ▸ hc 1).mono S (by omega)
 have A := t_ok S hc (y0k x1 x2 x3 y1 y2 y3) (y0n x1 x2 x3 y1 y2 y3) c1 (y0l x1 x2 x3 y1 y2 y3) (y0o x1 x2 x3 y1 y2 y3) c1 (by omega)
 have B := t_ok S hc (y0l x1 x2 x3 y1 y2 y3) (y0o x1 x2 x3 y1 y2 y3) c1 (y0m x1 x2 x3 y1 y2 y3) (y0p x1 x2 x3 y1 y2 y3) c1 (by omega)
 have L := t_ok S hc A.1 A.2.1 A.2.2 (y0m x1 x2 x3 y1 y2 y3) (y0p x1 x2 x3 y1 y2 y3) c1 (by omega)
 have R := t_ok S hc (y0k x1 x2 x3 y1 y2 y3) (y0n x1 x2 x3 y1 y2 y3) c1 B.1 B.2.1 B.2.2 (by omega)
 have m1 := Rp.mul S L.1 R.2.2 (by omega)
 have m2 := Rp.mul S R.1 L.2.2 (by omega)
 have m3 := Rp.mul S L.2.1 R.2.2 (by omega)
 have m4 := Rp.mul S R.2.1 L.2.2 (by omega)
 refine ⟨?_, ?_⟩
 ·rw [← m1.val, ← m2.val]; exact congrArg _ (eq_of_beq t0v)
 ·rw [← m3.val, ← m4.val]; exact congrArg _ (eq_of_beq t0w)
end Mvq
namespace Mvq
theorem u0W : IsP fP := u0T
theorem y0q (a : K) : a.val < fP := a.isLt
theorem z0Q {a : K} (h : a ≠ 0) : ¬ fP ∣ a.val := by
 intro hd
 have h1 := y0q a
 have h2 : a.val ≠ 0 := fun e => h (Fin.ext e)
 have := Nat.le_of_dvd (by omega) hd
 omega
def c0b (a : K) : K := kc (a.val ^ (fP - 2))
theorem i0M (a : K) : kc a.val = a := by
 apply Fin.ext; simp [kc, Fin.ofNat, Nat.mod_eq_of_lt a.isLt]
theorem a0E (a b : Nat) : kc (a * b) = kc a * kc b := by
 rw [← u0V]; apply Fin.ext; simp [kc, Fin.ofNat]
theorem e0x (a : Nat) : kc (a % fP) = kc a := by apply Fin.ext; simp [kc, Fin.ofNat]
theorem a0Z {a : K} (h : a ≠ 0) : a * c0b a = 1 := by
 have h1 := n0M u0W (z0Q h)
 have h2 : a.val * a.val ^ (fP - 2) = a.val ^ (fP - 1) := by rw [Nat.mul_comm, ← Nat.pow_succ, show (fP - 2).succ = fP - 1 by decide]
 have h3 : a * c0b a = kc (a.val * a.val ^ (fP - 2)) := by rw [a0E, i0M]; rfl
 rw [h3, h2, ← e0x, h1]; decide
theorem a0z {a b : K} (h : a * b = 0) : a = 0 ∨ b = 0 := by
 by_cases ha : a = 0
 ·exact Or.inl ha
 ·right
  have h1 := a0Z ha
  generalize c0b a = c at *
  grind -lia -linarith
theorem b0s {a b c : K} (ha : a ≠ 0) (h : a * b = a * c) : b = c := by
 have h1 := a0Z ha
 generalize c0b a = d at *
 grind -lia -linarith
theorem w0j (a : K) (n : Nat) : kc (a.val ^ n) = a ^ n := by
  induction n with
  | zero => rw [Nat.pow_zero]; have : kc 1 = 1 := by decide
            rw [this]; grind -lia -linarith
  | succ n ih => rw [Nat.pow_succ, a0E, ih, i0M]; grind -lia -linarith
theorem m0E (c : K) : c * c * c + 7 ≠ 0 := by
  intro h
  have hc : c * c * c = kc (fP - 7) := by
    have : kc (fP - 7) + 7 = 0 := by decide
    generalize kc (fP - 7) = m at *
    grind -lia -linarith
  have hc0 : c ≠ 0 := by
    intro h0
    subst h0
    exact absurd h (by decide)
  have h1 : c ^ (fP - 1) = 1 := by
    rw [← w0j, ← e0x, n0M u0W (z0Q hc0)]; decide
  have h2 : c ^ (fP - 1) = (c * c * c) ^ ((fP - 1) / 3) := by
    have e : (fP - 1) = (fP - 1) / 3 + (fP - 1) / 3 + (fP - 1) / 3 := by decide
    generalize (fP - 1) / 3 = n at *
    rw [e, l0s, l0s]
    clear e h1 h hc hc0
    induction n with
    | zero => grind -lia -linarith
    | succ n ih =>
      have e1 : ∀ x : K, x ^ (n + 1) = x ^ n * x := fun x => by grind -lia -linarith
      rw [e1, e1, ← ih]
      generalize c ^ n = d
      grind -lia -linarith
  rw [h1, hc] at h2
  have h3 : kc (fP - 7) ^ ((fP - 1) / 3) = kc ((fP - 7) ^ ((fP - 1) / 3) % fP) := by
    rw [e0x]
    generalize (fP - 1) / 3 = n
    induction n with
    | zero => have : kc 1 = 1 := by decide
              rw [Nat.pow_zero, this]; grind -lia -linarith
    | succ n ih => rw [Nat.pow_succ, a0E, ← ih]; grind -lia -linarith
  rw [h3, ← t0s fP 256 (fP - 7) ((fP - 1) / 3) (by decide)] at h2
  exact absurd h2 (by decide +kernel)
end Mvq
namespace Mvq
inductive Pt where
 | O : Pt
 | A : K → K → Pt
def onC : Pt → Prop
 | .O => True
 | .A x y => y * y = x * x * x + 7
def nm (X Y Z : K) : Pt := if Z = 0 then .O else .A (X * c0b Z) (Y * c0b Z)
def a0Y : Pt → Pt → Pt
 | .O, q => q
 | .A x y, .O => .A x y
 | .A x1 y1, .A x2 y2 => nm (cX x1 y1 1 x2 y2 1) (cY x1 y1 1 x2 y2 1) (cZ x1 y1 1 x2 y2 1)
def g0b : Pt → Pt
 | .O => .O
 | .A x y => .A x (-y)
theorem z0R : kc (fP - 21) = -21 := by decide
theorem k21 : kc 21 = 21 := by decide
theorem k63 : kc 63 = 63 := by decide
theorem k3 : kc 3 = 3 := by decide
theorem h0O (X1 Y1 Z1 X2 Y2 Z2 : K) : cX X1 Y1 Z1 X2 Y2 Z2 = (X1*Y2 + X2*Y1)*(Y1*Y2 - 21*Z1*Z2) - 21*(Y1*Z2 + Y2*Z1)*(X1*Z2 + X2*Z1) := by
 unfold cX; rw [z0R]; grind -lia -linarith
theorem h0P (X1 Y1 Z1 X2 Y2 Z2 : K) : cY X1 Y1 Z1 X2 Y2 Z2 = (Y1*Y2 + 21*Z1*Z2)*(Y1*Y2 - 21*Z1*Z2) + 63*X1*X2*(X1*Z2 + X2*Z1) := by
 unfold cY; rw [z0R, k21, k63]; grind -lia -linarith
theorem f0L (X1 Y1 Z1 X2 Y2 Z2 : K) : cZ X1 Y1 Z1 X2 Y2 Z2 = (Y1*Z2 + Y2*Z1)*(Y1*Y2 + 21*Z1*Z2) + 3*X1*X2*(X1*Y2 + X2*Y1) := by
 unfold cZ; rw [k21, k3]; grind -lia -linarith
theorem n0O {a X Y Z : K} (ha : a ≠ 0) : nm (a * X) (a * Y) (a * Z) = nm X Y Z := by
 unfold nm
 by_cases hz : Z = 0
 ·rw [if_pos hz, if_pos (by rw [hz]; grind -lia -linarith)]
 ·have haz : a * Z ≠ 0 := fun h => (a0z h).elim ha hz
  rw [if_neg hz, if_neg haz]
  have h1 := a0Z hz
  have h2 := a0Z haz
  generalize c0b Z = u at *
  generalize c0b (a * Z) = v at *
  have h3 : a * v = u := by
   refine b0s hz ?_
   grind -lia -linarith
  congr 1
  ·rw [← h3]; grind -lia -linarith
  ·rw [← h3]; grind -lia -linarith
theorem s0f {x y : K} (h : y * y = x * x * x + 7) : y ≠ 0 := by
 intro h0
 subst h0
 refine m0E x ?_
 grind -lia -linarith
theorem i0N : (2 : K) ≠ 0 := by decide
theorem z0Z {x1 y1 x2 y2 : K} (h1 : y1 * y1 = x1 * x1 * x1 + 7) (h2 : y2 * y2 = x2 * x2 * x2 + 7) :
  cZ x1 y1 1 x2 y2 1 * cZ x1 y1 1 x2 y2 1 = (x1*x2*(x1+x2) + 14 + 2*y1*y2) * (x1*x2*(x1+x2) + 14 + 2*y1*y2) * (x1*x2*(x1+x2) + 14 + 2*y1*y2) + 7 * ((x2-x1)*(x2-x1)*(x2-x1)*(x2-x1)*(x2-x1)*(x2-x1)) := by
 rw [f0L]
 grind -lia -linarith
theorem u0X {x1 y1 x2 y2 : K} (h1 : y1 * y1 = x1 * x1 * x1 + 7) (h2 : y2 * y2 = x2 * x2 * x2 + 7) (hz : cZ x1 y1 1 x2 y2 1 = 0) : x2 = x1 ∧ y2 = -y1 := by
 by_cases hx : x2 - x1 = 0
 ·have hx' : x2 = x1 := by grind -lia -linarith
  subst hx'
  have hyy : (y2 - y1) * (y2 + y1) = 0 := by grind -lia -linarith
  rcases a0z hyy with h | h
  ·exfalso
   have e : y2 = y1 := by grind -lia -linarith
   subst e
   rw [f0L] at hz
   have h8 : (2 * y2) * ((2 * y2) * (2 * y2)) = 0 := by grind -lia -linarith
   have hy := s0f h1
   have h2y : (2 : K) * y2 ≠ 0 := fun h => (a0z h).elim i0N hy
   exact (a0z h8).elim h2y fun h => (a0z h).elim h2y h2y
  ·exact ⟨rfl, by grind -lia -linarith⟩
 ·exfalso
  have hi := z0Z h1 h2
  rw [hz] at hi
  have hd := a0Z hx
  generalize c0b (x2 - x1) = u at *
  generalize x1*x2*(x1+x2) + 14 + 2*y1*y2 = m at *
  generalize x2 - x1 = d at *
  refine m0E (m * u * u) ?_
  have e : (m * u * u) * (m * u * u) * (m * u * u) + 7 = (m * m * m + 7 * (d * d * d * d * d * d)) * (u * u * u * u * u * u) := by grind -lia -linarith
  rw [e, ← hi]
  grind -lia -linarith
theorem A0a (x y : K) (h : y * y = x * x * x + 7) (h0 : x*x*x*x*x*x + 140*(x*x*x) - 392 = 0) : False := by
 have hy := s0f h
 have h2 : (2 : K) * y ≠ 0 := fun h => (a0z h).elim i0N hy
 have hu := a0Z h2
 generalize c0b (2 * y) = u at *
 refine m0E ((x*x*x*x - 56*x) * u * u) ?_
 have e : ((x*x*x*x - 56*x) * u * u) * ((x*x*x*x - 56*x) * u * u) * ((x*x*x*x - 56*x) * u * u) + 7 = ((x*x*x*x - 56*x) * (x*x*x*x - 56*x) * (x*x*x*x - 56*x) + 7 * ((2*y)*(2*y)*(2*y)*(2*y)*(2*y)*(2*y))) * (u * u * u * u * u * u) := by grind -lia -linarith
 have e2 : (x*x*x*x - 56*x) * (x*x*x*x - 56*x) * (x*x*x*x - 56*x) + 7 * ((2*y)*(2*y)*(2*y)*(2*y)*(2*y)*(2*y)) = (x*x*x*x*x*x + 140*(x*x*x) - 392) * (x*x*x*x*x*x + 140*(x*x*x) - 392) := by
  have e3 : (2*y)*(2*y)*(2*y)*(2*y)*(2*y)*(2*y) = 64 * ((x*x*x+7)*(x*x*x+7)*(x*x*x+7)) := by rw [← h]; grind -lia -linarith
  rw [e3]; grind -lia -linarith
 rw [e, e2, h0]; grind -lia -linarith
def okT (X Y Z : K) : Prop := Z ≠ 0 ∨ (X = 0 ∧ Y ≠ 0)
theorem q0U {x1 y1 x2 y2 : K} (h1 : y1 * y1 = x1 * x1 * x1 + 7) (h2 : y2 * y2 = x2 * x2 * x2 + 7) : okT (cX x1 y1 1 x2 y2 1) (cY x1 y1 1 x2 y2 1) (cZ x1 y1 1 x2 y2 1) := by
 by_cases hz : cZ x1 y1 1 x2 y2 1 = 0
 ·right
  obtain ⟨rfl, rfl⟩ := u0X h1 h2 hz
  refine ⟨?_, fun h0 => ?_⟩
  ·rw [h0O]; grind -lia -linarith
  ·rw [h0P] at h0
   exact A0a x2 y1 h1 (by grind -lia -linarith)
 ·exact Or.inl hz
theorem q0V {x1 y1 x2 y2 : K} (h1 : y1 * y1 = x1 * x1 * x1 + 7) (h2 : y2 * y2 = x2 * x2 * x2 + 7) :
  cY x1 y1 1 x2 y2 1 * cY x1 y1 1 x2 y2 1 * cZ x1 y1 1 x2 y2 1 = cX x1 y1 1 x2 y2 1 * cX x1 y1 1 x2 y2 1 * cX x1 y1 1 x2 y2 1 + 7 * (cZ x1 y1 1 x2 y2 1 * cZ x1 y1 1 x2 y2 1 * cZ x1 y1 1 x2 y2 1) := by
 have eX : cX x1 y1 1 x2 y2 1 = x1*x2*x2*x2*y1 + x2*x1*x1*x1*y2 - 14*x1*y1 - 14*x2*y2 - 42*x1*y2 - 42*x2*y1 := by rw [h0O]; grind -lia -linarith
 have eY : cY x1 y1 1 x2 y2 1 = x1*x1*x1*x2*x2*x2 + 7*x1*x1*x1+7*x2*x2*x2 - 392 + 63*x1*x1*x2+63*x1*x2*x2 := by rw [h0P]; grind -lia -linarith
 have eZ : cZ x1 y1 1 x2 y2 1 = x1*x1*x1*y2 + 28*y2+28*y1+x2*x2*x2*y1+3*x1*x1*x2*y2+3*x1*x2*x2*y1 := by rw [f0L]; grind -lia -linarith
 rw [eX, eY, eZ]
 clear eX eY eZ
 grind -lia -linarith
theorem w0k {X Y Z : K} (h : Y * Y * Z = X * X * X + 7 * (Z * Z * Z)) : onC (nm X Y Z) := by
 unfold nm
 split
 ·trivial
 ·rename_i hz
  have h1 := a0Z hz
  generalize c0b Z = u at *
  show (Y * u) * (Y * u) = (X * u) * (X * u) * (X * u) + 7
  have e : (Y * u) * (Y * u) = (Y * Y * Z) * (u * u * u) := by grind -lia -linarith
  rw [e, h]; grind -lia -linarith
theorem c0g {p q : Pt} (hp : onC p) (hq : onC q) : onC (a0Y p q) := by
 cases p with
 | O => exact hq
 | A x1 y1 => cases q with
  | O => exact hp
  | A x2 y2 => exact w0k (q0V hp hq)
theorem c0y (p q : Pt) : a0Y p q = a0Y q p := by
 cases p with
 | O => cases q <;> rfl
 | A x1 y1 => cases q with
  | O => rfl
  | A x2 y2 =>
   have eX : cX x1 y1 1 x2 y2 1 = cX x2 y2 1 x1 y1 1 := by rw [h0O, h0O]; grind -lia -linarith
   have eY : cY x1 y1 1 x2 y2 1 = cY x2 y2 1 x1 y1 1 := by rw [h0P, h0P]; grind -lia -linarith
   have eZ : cZ x1 y1 1 x2 y2 1 = cZ x2 y2 1 x1 y1 1 := by rw [f0L, f0L]; grind -lia -linarith
   simp only [a0Y, eX, eY, eZ]
theorem b0H (p : Pt) : a0Y p .O = p := by cases p <;> rfl
theorem q0W (p : Pt) : a0Y .O p = p := rfl
theorem c0K {p : Pt} : a0Y p (g0b p) = .O := by
 cases p with
 | O => rfl
 | A x y =>
  have eZ : cZ x y 1 x (-y) 1 = 0 := by rw [f0L]; grind -lia -linarith
  simp only [g0b, a0Y, nm, eZ, if_true]
theorem c0h {p : Pt} (hp : onC p) : onC (g0b p) := by
 cases p with
 | O => trivial
 | A x y => show (-y) * (-y) = x * x * x + 7; have : y * y = x * x * x + 7 := hp; grind -lia -linarith
theorem q0X {X Y Z x y : K} (ht : okT X Y Z) (hq : y * y = x * x * x + 7) (hp : onC (nm X Y Z)) :
  a0Y (nm X Y Z) (.A x y) = nm (cX X Y Z x y 1) (cY X Y Z x y 1) (cZ X Y Z x y 1) ∧ okT (cX X Y Z x y 1) (cY X Y Z x y 1) (cZ X Y Z x y 1) := by
 by_cases hz : Z = 0
 ·obtain ⟨hX, hY⟩ := ht.resolve_left (by simpa using hz)
  subst hz hX
  have hy := s0f hq
  have hs : Y * Y * y ≠ 0 := fun h => (a0z h).elim (fun h => (a0z h).elim hY hY) hy
  have eX : cX 0 Y 0 x y 1 = (Y * Y * y) * x := by rw [h0O]; grind -lia -linarith
  have eY : cY 0 Y 0 x y 1 = (Y * Y * y) * y := by rw [h0P]; grind -lia -linarith
  have eZ : cZ 0 Y 0 x y 1 = (Y * Y * y) * 1 := by rw [f0L]; grind -lia -linarith
  rw [eX, eY, eZ, n0O hs]
  constructor
  ·have h0 : nm 0 Y 0 = .O := by unfold nm; rw [if_pos rfl]
   have h1 : nm x y 1 = .A x y := by
    unfold nm
    rw [if_neg (by decide)]
    have h1 := a0Z (show (1 : K) ≠ 0 by decide)
    generalize c0b (1 : K) = u at *
    congr 1
    ·grind -lia -linarith
    ·grind -lia -linarith
   rw [h0, h1]; rfl
  ·left
   intro h; exact hs (by grind -lia -linarith)
 ·have hN : nm X Y Z = .A (X * c0b Z) (Y * c0b Z) := by unfold nm; rw [if_neg hz]
  rw [hN] at hp ⊢
  have h1 := a0Z hz
  have hp' : (Y * c0b Z) * (Y * c0b Z) = (X * c0b Z) * (X * c0b Z) * (X * c0b Z) + 7 := hp
  have hok := q0U hp' hq
  generalize c0b Z = u at *
  have eX : cX X Y Z x y 1 = (Z * Z) * cX (X * u) (Y * u) 1 x y 1 := by rw [h0O, h0O]; grind -lia -linarith
  have eY : cY X Y Z x y 1 = (Z * Z) * cY (X * u) (Y * u) 1 x y 1 := by rw [h0P, h0P]; grind -lia -linarith
  have eZ : cZ X Y Z x y 1 = (Z * Z) * cZ (X * u) (Y * u) 1 x y 1 := by rw [f0L, f0L]; grind -lia -linarith
  have hzz : Z * Z ≠ 0 := fun h => (a0z h).elim hz hz
  rw [eX, eY, eZ, n0O hzz]
  refine ⟨rfl, ?_⟩
  rcases hok with h | ⟨h2, h3⟩
  ·exact Or.inl fun h' => (a0z h').elim hzz h
  ·exact Or.inr ⟨by rw [h2]; grind -lia -linarith, fun h' => (a0z h').elim hzz h3⟩
theorem w0l {X Y Z X' Y' Z' : K} (h : okT X Y Z) (h' : okT X' Y' Z') (e1 : X * Z' = X' * Z) (e2 : Y * Z' = Y' * Z) : nm X Y Z = nm X' Y' Z' := by
 by_cases hz : Z = 0
 ·obtain ⟨hX, hY⟩ := h.resolve_left (by simpa using hz)
  subst hz
  have : Y * Z' = 0 := by rw [e2]; grind -lia -linarith
  have hz' := (a0z this).resolve_left hY
  unfold nm
  rw [if_pos rfl, if_pos hz']
 ·by_cases hz' : Z' = 0
  ·obtain ⟨hX, hY⟩ := h'.resolve_left (by simpa using hz')
   subst hz'
   exfalso
   have : Y' * Z = 0 := by rw [← e2]; grind -lia -linarith
   exact (a0z this).elim hY hz
  ·unfold nm
   rw [if_neg hz, if_neg hz']
   have h1 := a0Z hz
   have h2 := a0Z hz'
   generalize c0b Z = u at *
   generalize c0b Z' = v at *
   congr 1
   ·refine b0s hz (b0s hz' ?_); grind -lia -linarith
   ·refine b0s hz (b0s hz' ?_); grind -lia -linarith
theorem a0V {p q r : Pt} (hp : onC p) (hq : onC q) (hr : onC r) : a0Y (a0Y p q) r = a0Y p (a0Y q r) := by
 cases p with
 | O => rfl
 | A x1 y1 => cases q with
  | O => cases r <;> rfl
  | A x2 y2 => cases r with
   | O => rw [b0H, b0H]
   | A x3 y3 =>
    have h1 : y1 * y1 = x1 * x1 * x1 + 7 := hp
    have h2 : y2 * y2 = x2 * x2 * x2 + 7 := hq
    have h3 : y3 * y3 = x3 * x3 * x3 + 7 := hr
    have hA := q0X (q0U h1 h2) h3 (w0k (q0V h1 h2))
    have hB := q0X (q0U h2 h3) h1 (w0k (q0V h2 h3))
    have hass := z0t x1 x2 x3 y1 y2 y3 h1 h2 h3
    rw [c0y (.A x1 y1) (a0Y _ _)]
    show a0Y (nm _ _ _) (.A x3 y3) = a0Y (nm _ _ _) (.A x1 y1)
    rw [hA.1, hB.1]
    have swX : ∀ X Y Z : K, cX X Y Z x1 y1 1 = cX x1 y1 1 X Y Z := fun X Y Z => by rw [h0O, h0O]; grind -lia -linarith
    have swY : ∀ X Y Z : K, cY X Y Z x1 y1 1 = cY x1 y1 1 X Y Z := fun X Y Z => by rw [h0P, h0P]; grind -lia -linarith
    have swZ : ∀ X Y Z : K, cZ X Y Z x1 y1 1 = cZ x1 y1 1 X Y Z := fun X Y Z => by rw [f0L, f0L]; grind -lia -linarith
    have hB2 := hB.2
    rw [swX, swY, swZ] at hB2 ⊢
    exact w0l hA.2 hB2 hass.1 hass.2
end Mvq
namespace Mvq
theorem y0r {x1 y1 x2 y2 : K} (h1 : y1 * y1 = x1 * x1 * x1 + 7) (h2 : y2 * y2 = x2 * x2 * x2 + 7) : (x1*x2*(x1+x2) + 14 - 2*y1*y2) = (y2 - y1) * (y2 - y1) - (x1 + x2) * ((x2 - x1) * (x2 - x1)) := by
 grind -lia -linarith
theorem y0s {x1 y1 x2 y2 : K} (h1 : y1 * y1 = x1 * x1 * x1 + 7) (h2 : y2 * y2 = x2 * x2 * x2 + 7) : cY x1 y1 1 x2 y2 1 * ((x2 - x1) * (x2 - x1) * (x2 - x1)) = ((y2 - y1) * (x1 * ((x2 - x1) * (x2 - x1)) - (x1*x2*(x1+x2) + 14 - 2*y1*y2)) - y1 * ((x2 - x1) * (x2 - x1) * (x2 - x1))) * cZ x1 y1 1 x2 y2 1 := by
 have eY : cY x1 y1 1 x2 y2 1 = x1*x1*x1*x2*x2*x2 + 7*x1*x1*x1+7*x2*x2*x2 - 392 + 63*x1*x1*x2+63*x1*x2*x2 := by rw [h0P]; grind -lia -linarith
 have eZ : cZ x1 y1 1 x2 y2 1 = x1*x1*x1*y2 + 28*y2+28*y1+x2*x2*x2*y1+3*x1*x1*x2*y2+3*x1*x2*x2*y1 := by rw [f0L]; grind -lia -linarith
 rw [eY, eZ]
 clear eY eZ
 grind -lia -linarith
theorem i0O {x1 y1 x2 y2 u : K} (h1 : y1 * y1 = x1 * x1 * x1 + 7) (h2 : y2 * y2 = x2 * x2 * x2 + 7) (hd : (x2 - x1) * u = 1) :
  a0Y (.A x1 y1) (.A x2 y2) = .A (((y2 - y1) * u) * ((y2 - y1) * u) - x1 - x2) (((y2 - y1) * u) * (x1 - (((y2 - y1) * u) * ((y2 - y1) * u) - x1 - x2)) - y1) := by
 have hz : cZ x1 y1 1 x2 y2 1 ≠ 0 := fun h => by
  obtain ⟨rfl, -⟩ := u0X h1 h2 h
  have : (0 : K) = 1 := by rw [← hd]; grind -lia -linarith
  exact absurd this (by decide)
 show nm _ _ _ = _
 have hd0 : x2 - x1 ≠ 0 := fun h => by
  rw [h] at hd
  have : (0 : K) = 1 := by rw [← hd]; grind -lia -linarith
  exact absurd this (by decide)
 have eX : cX x1 y1 1 x2 y2 1 * ((x2 - x1) * (x2 - x1)) = (x1*x2*(x1+x2) + 14 - 2*y1*y2) * cZ x1 y1 1 x2 y2 1 := by
  rw [h0O, f0L]; grind -lia -linarith
 have e4 : (x1*x2*(x1+x2) + 14 - 2*y1*y2) = (y2 - y1) * (y2 - y1) - (x1 + x2) * ((x2 - x1) * (x2 - x1)) := y0r h1 h2
 have eY := y0s h1 h2
 rw [e4] at eX eY
 unfold nm
 rw [if_neg hz]
 have hv := a0Z hz
 generalize c0b (cZ x1 y1 1 x2 y2 1) = v at *
 generalize cX x1 y1 1 x2 y2 1 = X at *
 generalize cY x1 y1 1 x2 y2 1 = Y at *
 generalize cZ x1 y1 1 x2 y2 1 = Z at *
 clear h1 h2 e4
 generalize hdd : x2 - x1 = d at *
 generalize y2 - y1 = n at *
 have hx2 : x2 = x1 + d := by rw [← hdd]; grind -lia -linarith
 subst hx2
 clear hdd
 congr 1
 ·refine b0s hd0 (b0s hd0 (b0s hz ?_)); grind -lia -linarith
 ·refine b0s hd0 (b0s hd0 (b0s hd0 (b0s hz ?_))); grind -lia -linarith
theorem g0u {x y u : K} (h : y * y = x * x * x + 7) (hd : (2 * y) * u = 1) :
  a0Y (.A x y) (.A x y) = .A ((3 * x * x * u) * (3 * x * x * u) - x - x) ((3 * x * x * u) * (x - ((3 * x * x * u) * (3 * x * x * u) - x - x)) - y) := by
 have hy := s0f h
 have h2y : (2 : K) * y ≠ 0 := fun h => (a0z h).elim i0N hy
 have eZ : cZ x y 1 x y 1 = (2 * y) * (2 * y) * (2 * y) := by rw [f0L]; grind -lia -linarith
 have eX : cX x y 1 x y 1 = (2 * y) * (9 * x * x * x * x - 2 * x * ((2 * y) * (2 * y))) := by rw [h0O]; grind -lia -linarith
 have eY : cY x y 1 x y 1 = 3 * x * x * (x * ((2 * y) * (2 * y)) - (9 * x * x * x * x - 2 * x * ((2 * y) * (2 * y)))) - y * ((2 * y) * (2 * y) * (2 * y)) := by rw [h0P]; grind -lia -linarith
 show nm _ _ _ = _
 have hz : cZ x y 1 x y 1 ≠ 0 := by
  rw [eZ]; exact fun h => (a0z h).elim (fun h => (a0z h).elim h2y h2y) h2y
 unfold nm
 rw [if_neg hz]
 have hv := a0Z hz
 generalize c0b (cZ x y 1 x y 1) = v at *
 rw [eX, eY]
 rw [eZ] at hv
 clear eX eY eZ hz h
 generalize h2 : 2 * y = t at *
 congr 1
 ·refine b0s h2y (b0s h2y ?_); grind -lia -linarith
 ·refine b0s h2y (b0s h2y (b0s h2y ?_)); grind -lia -linarith
def jk (X Y Z : K) : Pt := if Z = 0 then .O else .A (X * (c0b Z * c0b Z)) (Y * (c0b Z * c0b Z * c0b Z))
theorem t0x {X Y Z : K} (hz : Z ≠ 0) : jk X Y Z = .A (X * (c0b Z * c0b Z)) (Y * (c0b Z * c0b Z * c0b Z)) := by unfold jk; rw [if_neg hz]
theorem w0m {X Y Z : K} (hz : Z = 0) : jk X Y Z = .O := by unfold jk; rw [if_pos hz]
theorem w0n {X Y Z x y : K} (hz : Z ≠ 0) (hx : X = x * (Z * Z)) (hy : Y = y * (Z * Z * Z)) : jk X Y Z = .A x y := by
 rw [t0x hz]
 have h1 := a0Z hz
 generalize c0b Z = u at *
 subst hx hy
 congr 1
 ·grind -lia -linarith
 ·grind -lia -linarith
theorem h0Q {X Y Z : K} (hz : Z ≠ 0) (h : onC (jk X Y Z)) : ∃ x y, jk X Y Z = .A x y ∧ y * y = x * x * x + 7 ∧ X = x * (Z * Z) ∧ Y = y * (Z * Z * Z) := by
 refine ⟨_, _, t0x hz, ?_, ?_, ?_⟩
 ·rw [t0x hz] at h; exact h
 ·have h1 := a0Z hz
  generalize c0b Z = u at *
  grind -lia -linarith
 ·have h1 := a0Z hz
  generalize c0b Z = u at *
  grind -lia -linarith
theorem q0Y {X Y Z : K} (h : onC (jk X Y Z)) (hz : Z ≠ 0) (a b bb d e x' : K) (ha : a = X * X) (hb : b = Y * Y) (hbb : bb = b * b) (hd : d = 2 * ((X + b) * (X + b) - (a + bb))) (he : e = 3 * a) (hx : x' = e * e - (d + d)) :
  jk x' (e * (d - x') - 8 * bb) (2 * (Y * Z)) = a0Y (jk X Y Z) (jk X Y Z) := by
 obtain ⟨x, y, e0, hon, hX, hY⟩ := h0Q hz h
 have hy := s0f hon
 have h2y : (2 : K) * y ≠ 0 := fun h => (a0z h).elim i0N hy
 have hu := a0Z h2y
 rw [e0, g0u hon hu]
 generalize c0b (2 * y) = u at *
 have hz4 : Z * Z * (Z * Z) ≠ 0 := fun h => (a0z h).elim (fun h => (a0z h).elim hz hz) (fun h => (a0z h).elim hz hz)
 have eZ : 2 * (Y * Z) = (2 * y) * (Z * Z * (Z * Z)) := by rw [hY]; grind -lia -linarith
 refine w0n (by rw [eZ]; exact fun h => (a0z h).elim h2y hz4) ?_ ?_
 ·rw [eZ]; subst hx he hd hbb hb ha hX hY; clear e0 h hon hz4 h2y hy eZ hz
  grind -lia -linarith
 ·rw [eZ]; subst hx he hd hbb hb ha hX hY; clear e0 h hon hz4 h2y hy eZ hz
  grind -lia -linarith
theorem w0o {X1 Y1 Z1 X2 Y2 Z2 : K} (hp : onC (jk X1 Y1 Z1)) (hq : onC (jk X2 Y2 Z2)) (hz1 : Z1 ≠ 0) (hz2 : Z2 ≠ 0) (u1 u2 s1 s2 h r hh hhh v x : K) (e1 : u1 = X1 * (Z2 * Z2)) (e2 : u2 = X2 * (Z1 * Z1)) (e3 : s1 = Y1 * (Z2 * Z2 * Z2)) (e4 : s2 = Y2 * (Z1 * Z1 * Z1))
  (eh : h = u2 - u1) (er : r = s2 - s1) (hn : h ≠ 0) (ehh : hh = h * h) (ehhh : hhh = hh * h) (ev : v = u1 * hh) (ex : x = r * r - (hhh + (v + v))) :
  jk x (r * (v - x) - s1 * hhh) (h * (Z1 * Z2)) = a0Y (jk X1 Y1 Z1) (jk X2 Y2 Z2) := by
 obtain ⟨x1, y1, f1, o1, hX1, hY1⟩ := h0Q hz1 hp
 obtain ⟨x2, y2, f2, o2, hX2, hY2⟩ := h0Q hz2 hq
 have hzz : Z1 * Z2 ≠ 0 := fun h => (a0z h).elim hz1 hz2
 have ehd : h = (x2 - x1) * ((Z1 * Z2) * (Z1 * Z2)) := by rw [eh, e1, e2, hX1, hX2]; grind -lia -linarith
 have erd : r = (y2 - y1) * ((Z1 * Z2) * (Z1 * Z2) * (Z1 * Z2)) := by rw [er, e3, e4, hY1, hY2]; grind -lia -linarith
 have eu : u1 = x1 * ((Z1 * Z2) * (Z1 * Z2)) := by rw [e1, hX1]; grind -lia -linarith
 have es : s1 = y1 * ((Z1 * Z2) * (Z1 * Z2) * (Z1 * Z2)) := by rw [e3, hY1]; grind -lia -linarith
 have hd0 : x2 - x1 ≠ 0 := fun hh => hn (by rw [ehd, hh]; grind -lia -linarith)
 have hu := a0Z hd0
 rw [f1, f2, i0O o1 o2 hu]
 generalize c0b (x2 - x1) = u at *
 refine w0n (fun hh => (a0z hh).elim hn hzz) ?_ ?_
 ·subst ex ev ehhh ehh
  rw [erd, eu, ehd]
  clear e1 e2 e3 e4 eh er hn erd eu es ehd hX1 hX2 hY1 hY2 f1 f2 o1 o2 hp hq hz1 hz2 hd0
  generalize Z1 * Z2 = z at *
  generalize hdd : x2 - x1 = d at *
  have hx2 : x2 = x1 + d := by rw [← hdd]; grind -lia -linarith
  subst hx2; clear hdd
  generalize y2 - y1 = n at *
  grind -lia -linarith
 ·subst ex ev ehhh ehh
  rw [erd, eu, ehd, es]
  clear e1 e2 e3 e4 eh er hn erd eu es ehd hX1 hX2 hY1 hY2 f1 f2 o1 o2 hp hq hz1 hz2 hd0
  generalize Z1 * Z2 = z at *
  generalize hdd : x2 - x1 = d at *
  have hx2 : x2 = x1 + d := by rw [← hdd]; grind -lia -linarith
  subst hx2; clear hdd
  generalize y2 - y1 = n at *
  grind -lia -linarith
theorem w0p {X1 Y1 Z1 X2 Y2 Z2 : K} (hp : onC (jk X1 Y1 Z1)) (hq : onC (jk X2 Y2 Z2)) (hz1 : Z1 ≠ 0) (hz2 : Z2 ≠ 0) (h : X2 * (Z1 * Z1) - X1 * (Z2 * Z2) = 0) :
  (Y2 * (Z1 * Z1 * Z1) - Y1 * (Z2 * Z2 * Z2) = 0 → jk X2 Y2 Z2 = jk X1 Y1 Z1) ∧ (Y2 * (Z1 * Z1 * Z1) - Y1 * (Z2 * Z2 * Z2) ≠ 0 → a0Y (jk X1 Y1 Z1) (jk X2 Y2 Z2) = .O) := by
 obtain ⟨x1, y1, f1, o1, hX1, hY1⟩ := h0Q hz1 hp
 obtain ⟨x2, y2, f2, o2, hX2, hY2⟩ := h0Q hz2 hq
 have hzz : Z1 * Z2 ≠ 0 := fun h => (a0z h).elim hz1 hz2
 have hx : x2 = x1 := by
  refine b0s hzz (b0s hzz ?_)
  rw [hX1, hX2] at h; grind -lia -linarith
 subst hx
 have hyy : (y2 - y1) * (y2 + y1) = 0 := by grind -lia -linarith
 refine ⟨fun hy => ?_, fun hy => ?_⟩
 ·have : y2 = y1 := by
   refine b0s hzz (b0s hzz (b0s hzz ?_))
   rw [hY1, hY2] at hy; grind -lia -linarith
  rw [f1, f2, this]
 ·rcases a0z hyy with h1 | h1
  ·exfalso
   refine hy ?_
   have e : y2 = y1 := by grind -lia -linarith
   rw [hY1, hY2, e]; grind -lia -linarith
  ·have e : y2 = -y1 := by grind -lia -linarith
   rw [f1, f2, e]
   exact c0K (p := .A x2 y1)
def b0b : Nat → Pt → Pt
 | 0, _ => .O
 | n + 1, p => a0Y (b0b n p) p
theorem b0a {p : Pt} (hp : onC p) : ∀ n, onC (b0b n p)
 | 0 => trivial
 | n + 1 => c0g (b0a hp n) hp
theorem b0P {p : Pt} (hp : onC p) (m : Nat) : ∀ n, b0b (m + n) p = a0Y (b0b m p) (b0b n p)
 | 0 => (b0H _).symm
 | n + 1 => by
  show a0Y (b0b (m + n) p) p = a0Y (b0b m p) (a0Y (b0b n p) p)
  rw [b0P hp m n, a0V (b0a hp m) (b0a hp n) hp]
theorem e0F {p : Pt} (hp : onC p) (m : Nat) : ∀ n, b0b (m * n) p = b0b n (b0b m p)
 | 0 => rfl
 | n + 1 => by
  rw [Nat.mul_succ, b0P hp, e0F hp m n]; rfl
theorem l0u : ∀ n, b0b n .O = .O
 | 0 => rfl
 | n + 1 => by rw [b0b, l0u n]; rfl
theorem l0v {p q : Pt} (hp : onC p) (hq : onC q) : ∀ n, b0b n (a0Y p q) = a0Y (b0b n p) (b0b n q)
 | 0 => rfl
 | n + 1 => by
  have h1 := b0a hp n
  have h2 := b0a hq n
  simp only [b0b]
  rw [l0v hp hq n, a0V h1 h2 (c0g hp hq), a0V h1 hp (c0g h2 hq), ← a0V h2 hp hq, c0y (b0b n q) p, a0V hp h2 hq]
end Mvq
namespace Mvq
theorem q0Z : Mvp.pP = fP := by decide
theorem g0c (a b : Nat) : kc (a + b) = kc a + kc b := by rw [← u0U, e0x]
theorem c0I (a b : Nat) : kc (a + (fP - b % fP)) = kc a - kc b := by
 have h : kc (a + (fP - b % fP)) + kc b = kc a := by
  rw [← g0c]
  apply Fin.ext
  simp only [kc, Fin.ofNat]
  have h1 := Nat.div_add_mod b fP
  have h2 : b % fP < fP := Nat.mod_lt _ (by decide)
  rw [show a + (fP - b % fP) + b = a + fP * (b / fP + 1) by rw [Nat.mul_add]; omega, Nat.add_mul_mod_self_left]
 rw [← h]; generalize kc b = u; generalize kc (a + (fP - b % fP)) = v; grind -lia -linarith
theorem r0a (b : Nat) : kc (fP - b % fP) = - kc b := by
 have h := c0I 0 b
 rw [Nat.zero_add] at h
 have h0 : kc 0 = 0 := by decide
 rw [h, h0]; generalize kc b = u; grind -lia -linarith
theorem r0b (a : Nat) : (a % fP == 0) = decide (kc a = 0) := by
 rw [Bool.eq_iff_iff]
 simp only [beq_iff_eq, decide_eq_true_eq]
 constructor
 ·intro h
  apply Fin.ext
  simp only [kc, Fin.ofNat]
  exact h
 ·intro h
  have := congrArg Fin.val h
  exact this
theorem y0t (a b : Nat) : (a % fP == b % fP) = decide (kc a = kc b) := by
 rw [Bool.eq_iff_iff]
 simp only [beq_iff_eq, decide_eq_true_eq]
 constructor
 ·intro h
  apply Fin.ext
  simp only [kc, Fin.ofNat]
  exact h
 ·intro h
  have := congrArg Fin.val h
  simpa only [kc, Fin.ofNat] using this
theorem t0y {X Y Z : K} (hz : Z ≠ 0) : nm X Y Z = .A (X * c0b Z) (Y * c0b Z) := by unfold nm; rw [if_neg hz]
theorem x0p {X Y Z : K} (hz : Z = 0) : nm X Y Z = .O := by unfold nm; rw [if_pos hz]
theorem p0c {X Y Z x y : K} (hz : Z ≠ 0) (hx : X = x * Z) (hy : Y = y * Z) : nm X Y Z = .A x y := by
 rw [t0y hz]
 have h1 := a0Z hz
 generalize c0b Z = u at *
 subst hx hy
 congr 1
 ·grind -lia -linarith
 ·grind -lia -linarith
theorem h0R {X Y Z : K} (hz : Z ≠ 0) (h : onC (nm X Y Z)) : ∃ x y, nm X Y Z = .A x y ∧ y * y = x * x * x + 7 ∧ X = x * Z ∧ Y = y * Z := by
 refine ⟨_, _, t0y hz, ?_, ?_, ?_⟩
 ·rw [t0y hz] at h; exact h
 ·have h1 := a0Z hz
  generalize c0b Z = u at *
  grind -lia -linarith
 ·have h1 := a0Z hz
  generalize c0b Z = u at *
  grind -lia -linarith
theorem l0w {X Y Z : K} (h : onC (nm X Y Z)) (hz : Z ≠ 0) (xx d e ee eee t : K) (h1 : xx = X * X) (h2 : d = 3 * xx) (h3 : e = 2 * Y * Z) (h4 : ee = e * e) (h5 : eee = ee * e) (h6 : t = d * d * Z - 2 * X * ee) :
  nm (e * t) (d * (X * ee - t) - Y * eee) (eee * Z) = a0Y (nm X Y Z) (nm X Y Z) := by
 obtain ⟨x, y, e0, hon, hX, hY⟩ := h0R hz h
 have hy := s0f hon
 have h2y : (2 : K) * y ≠ 0 := fun h => (a0z h).elim i0N hy
 have hu := a0Z h2y
 rw [e0, g0u hon hu]
 generalize c0b (2 * y) = u at *
 have he : e = (2 * y) * (Z * Z) := by rw [h3, hY]; grind -lia -linarith
 have hzz : Z * Z ≠ 0 := fun h => (a0z h).elim hz hz
 have he0 : e ≠ 0 := by rw [he]; exact fun h => (a0z h).elim h2y hzz
 refine p0c (by rw [h5, h4]; exact fun h => (a0z h).elim (fun h => (a0z h).elim (fun h => (a0z h).elim he0 he0) he0) hz) ?_ ?_
 ·subst h6 h5 h4 h2 h1 hX hY
  rw [he]
  clear e0 h hon hzz h2y hy hz he0 he h3
  grind -lia -linarith
 ·subst h6 h5 h4 h2 h1 hX hY
  rw [he]
  clear e0 h hon hzz h2y hy hz he0 he h3
  grind -lia -linarith
theorem r0c {X1 Y1 Z1 X2 Y2 Z2 : K} (hp : onC (nm X1 Y1 Z1)) (hq : onC (nm X2 Y2 Z2)) (hz1 : Z1 ≠ 0) (hz2 : Z2 ≠ 0) (u v u2 v2 d e w ee eee t : K) (e1 : u = Y2 * Z1) (e2 : v = X2 * Z1) (e3 : u2 = Y1 * Z2) (e4 : v2 = X1 * Z2)
  (ed : d = u - u2) (ee' : e = v - v2) (hn : e ≠ 0) (ew : w = Z1 * Z2) (h4 : ee = e * e) (h5 : eee = ee * e) (h6 : t = d * d * w - eee - 2 * v2 * ee) :
  nm (e * t) (d * (v2 * ee - t) - u2 * eee) (eee * w) = a0Y (nm X1 Y1 Z1) (nm X2 Y2 Z2) := by
 obtain ⟨x1, y1, f1, o1, hX1, hY1⟩ := h0R hz1 hp
 obtain ⟨x2, y2, f2, o2, hX2, hY2⟩ := h0R hz2 hq
 have hzz : w ≠ 0 := by rw [ew]; exact fun h => (a0z h).elim hz1 hz2
 have ehd : e = (x2 - x1) * w := by rw [ee', e2, e4, hX1, hX2, ew]; grind -lia -linarith
 have erd : d = (y2 - y1) * w := by rw [ed, e1, e3, hY1, hY2, ew]; grind -lia -linarith
 have eu : v2 = x1 * w := by rw [e4, hX1, ew]; grind -lia -linarith
 have es : u2 = y1 * w := by rw [e3, hY1, ew]; grind -lia -linarith
 have hd0 : x2 - x1 ≠ 0 := fun hh => hn (by rw [ehd, hh]; grind -lia -linarith)
 have hu := a0Z hd0
 rw [f1, f2, i0O o1 o2 hu]
 generalize c0b (x2 - x1) = z at *
 refine p0c (by rw [h5, h4]; exact fun h => (a0z h).elim (fun h => (a0z h).elim (fun h => (a0z h).elim hn hn) hn) hzz) ?_ ?_
 ·subst h6 h5 h4
  rw [erd, eu, ehd]
  clear e1 e2 e3 e4 ed ee' hn erd eu es ehd hX1 hX2 hY1 hY2 f1 f2 o1 o2 hp hq hz1 hz2 hd0 ew hzz
  generalize hdd : x2 - x1 = dd at *
  have hx2 : x2 = x1 + dd := by rw [← hdd]; grind -lia -linarith
  subst hx2; clear hdd
  generalize y2 - y1 = n at *
  grind -lia -linarith
 ·subst h6 h5 h4
  rw [erd, eu, ehd, es]
  clear e1 e2 e3 e4 ed ee' hn erd eu es ehd hX1 hX2 hY1 hY2 f1 f2 o1 o2 hp hq hz1 hz2 hd0 ew hzz
  generalize hdd : x2 - x1 = dd at *
  have hx2 : x2 = x1 + dd := by rw [← hdd]; grind -lia -linarith
  subst hx2; clear hdd
  generalize y2 - y1 = n at *
  grind -lia -linarith
theorem w0q {X1 Y1 Z1 X2 Y2 Z2 : K} (hp : onC (nm X1 Y1 Z1)) (hq : onC (nm X2 Y2 Z2)) (hz1 : Z1 ≠ 0) (hz2 : Z2 ≠ 0) (h : X2 * Z1 = X1 * Z2) :
  (Y2 * Z1 = Y1 * Z2 → nm X2 Y2 Z2 = nm X1 Y1 Z1) ∧ (Y2 * Z1 ≠ Y1 * Z2 → a0Y (nm X1 Y1 Z1) (nm X2 Y2 Z2) = .O) ∧ Y2 * Z1 ≠ 0 := by
 obtain ⟨x1, y1, f1, o1, hX1, hY1⟩ := h0R hz1 hp
 obtain ⟨x2, y2, f2, o2, hX2, hY2⟩ := h0R hz2 hq
 have hzz : Z1 * Z2 ≠ 0 := fun h => (a0z h).elim hz1 hz2
 have hx : x2 = x1 := by
  refine b0s hzz ?_
  rw [hX1, hX2] at h; grind -lia -linarith
 subst hx
 have hyy : (y2 - y1) * (y2 + y1) = 0 := by grind -lia -linarith
 refine ⟨fun hy => ?_, fun hy => ?_, fun hy => ?_⟩
 ·have : y2 = y1 := by
   refine b0s hzz ?_
   rw [hY1, hY2] at hy; grind -lia -linarith
  rw [f1, f2, this]
 ·rcases a0z hyy with h1 | h1
  ·exfalso
   refine hy ?_
   have e : y2 = y1 := by grind -lia -linarith
   rw [hY1, hY2, e]; grind -lia -linarith
  ·have e : y2 = -y1 := by grind -lia -linarith
   rw [f1, f2, e]
   exact c0K (p := .A x2 y1)
 ·have hy2 := s0f o2
  rcases a0z hy with h1 | h1
  ·rw [hY2] at h1; exact (a0z h1).elim hy2 hz2
  ·exact hz1 h1
def h0S : List (Nat × Pt) → Pt
 | [] => .O
 | (n, p) :: l => a0Y (b0b n p) (h0S l)
theorem h0T : ∀ (l : List (Nat × Pt)), (∀ t ∈ l, onC t.2) → onC (h0S l)
 | [], _ => trivial
 | (n, p) :: l, h => c0g (b0a (h (n, p) (by simp)) n) (h0T l fun t ht => h t (List.mem_cons_of_mem _ ht))
def p0u (k : Nat) (l : List (Nat × Pt)) : List (Nat × Pt) := l.map fun t => (t.1 / 16 ^ k, t.2)
def dig (k n : Nat) : Nat := n / 16 ^ k % 16
theorem l0x (k : Nat) : ∀ (l : List (Nat × Pt)), (∀ t ∈ l, onC t.2) → h0S (p0u k l) = a0Y (b0b 16 (h0S (p0u (k + 1) l))) (h0S (l.map fun t => (dig k t.1, t.2)))
 | [], _ => (by rw [show h0S (p0u (k + 1) []) = .O from rfl, l0u]; rfl)
 | (n, p) :: l, h => by
  have hl : ∀ t ∈ l, onC t.2 := fun t ht => h t (List.mem_cons_of_mem _ ht)
  have hp : onC p := h (n, p) (by simp)
  have ih := l0x k l hl
  have hL : onC (h0S (p0u (k + 1) l)) := h0T _ fun t ht => by
   obtain ⟨u, hu, rfl⟩ := List.mem_map.1 ht; exact hl u hu
  have hD : onC (h0S (l.map fun t => (dig k t.1, t.2))) := h0T _ fun t ht => by
   obtain ⟨u, hu, rfl⟩ := List.mem_map.1 ht; exact hl u hu
  show a0Y (b0b (n / 16 ^ k) p) (h0S (p0u k l)) = a0Y (b0b 16 (a0Y (b0b (n / 16 ^ (k + 1)) p) (h0S (p0u (k + 1) l)))) (a0Y (b0b (dig k n) p) (h0S (l.map fun t => (dig k t.1, t.2))))
  have e : n / 16 ^ k = n / 16 ^ (k + 1) * 16 + dig k n := by
   unfold dig; rw [Nat.pow_succ, ← Nat.div_div_eq_div_mul]; omega
  rw [ih, e, b0P hp, e0F hp, l0v (b0a hp _) hL]
  generalize hA : b0b 16 (b0b (n / 16 ^ (k + 1)) p) = a
  generalize hB : b0b (dig k n) p = b
  generalize hC : b0b 16 (h0S (p0u (k + 1) l)) = c
  generalize hDD : h0S (l.map fun t => (dig k t.1, t.2)) = d at *
  have ha : onC a := by rw [← hA]; exact b0a (b0a hp _) _
  have hb : onC b := by rw [← hB]; exact b0a hp _
  have hc : onC c := by rw [← hC]; exact b0a hL _
  rw [a0V ha hb (c0g hc hD), a0V ha hc (c0g hb hD), ← a0V hb hc hD, ← a0V hc hb hD, c0y b c]
theorem w0r {p : Pt} (hp : onC p) : b0b 16 p = a0Y (a0Y (a0Y (a0Y p p) (a0Y p p)) (a0Y (a0Y p p) (a0Y p p))) (a0Y (a0Y (a0Y p p) (a0Y p p)) (a0Y (a0Y p p) (a0Y p p))) := by
 have h2 : ∀ q, a0Y q q = b0b 2 q := fun q => by show _ = a0Y (a0Y .O q) q; rfl
 have e2 : a0Y p p = b0b 2 p := h2 p
 have e4 : a0Y (b0b 2 p) (b0b 2 p) = b0b 4 p := (b0P hp 2 2).symm
 have e8 : a0Y (b0b 4 p) (b0b 4 p) = b0b 8 p := (b0P hp 4 4).symm
 have e16 : a0Y (b0b 8 p) (b0b 8 p) = b0b 16 p := (b0P hp 8 8).symm
 rw [e2, e4, e8, e16]
theorem n0P {p : Pt} (hp : onC p) (n k : Nat) : b0b (n / 2 ^ k) p = a0Y (a0Y (b0b (n / 2 ^ (k + 1)) p) (b0b (n / 2 ^ (k + 1)) p)) (if n / 2 ^ k % 2 = 1 then p else .O) := by
 have e : n / 2 ^ k = n / 2 ^ (k + 1) + n / 2 ^ (k + 1) + n / 2 ^ k % 2 := by
  rw [Nat.pow_succ, ← Nat.div_div_eq_div_mul]; omega
 have h1 : b0b (n / 2 ^ k % 2) p = if n / 2 ^ k % 2 = 1 then p else .O := by
  split
  ·rename_i h; rw [h]; exact q0W p
  ·rename_i h; rw [show n / 2 ^ k % 2 = 0 by omega]; rfl
 rw [← h1, ← b0P hp, ← b0P hp, ← e]
end Mvq
namespace Mvq
open Mvp
def jN (x y z : Nat) : Pt := jk (kc x) (kc y) (kc z)
theorem j0Q (M : Nat) (hM : M = fP) (a b : Nat) : kc (a + (M - b % M)) = kc a - kc b := by subst hM; exact c0I a b
theorem p0v (M : Nat) (hM : M = fP) (z : Nat) (b : Bool) (h : (z % M == 0) = b) : decide (kc z = 0) = b := by subst hM; rw [← r0b]; exact h
theorem d0d : mP.M = fP := q0Z
end Mvq
namespace Go.Proofs.YtemcankmggmgoaaGreat
section
open Go.RowKit Go.Mv Mvp Mvq
theorem l0y (x y z : Nat) (ho : onC (jN x y z)) :
  ∃ X Y Z, jN X Y Z = a0Y (jN x y z) (jN x y z) ∧ ∀ gc gp bx by_ wx, Has wx gc (e0S mP gp bx by_) 125 → Has wx gp (mdL mP) 187 → Calls Tryz.prog 158 #[.pointer (some ⟨gc, 0, none⟩), ptV mP x y z] wx fun e w' => e = .returned (ptV mP X Y Z) ∧ Fr Nob wx w' := by
 cases hb : (z % mP.M == 0)
 ·have hz : kc z ≠ 0 := by
   have := p0v _ d0d z _ hb
   simpa using this
  refine ⟨_, _, _, ?_, fun gc gp bx by_ wx hcv hpm => t0p mP gc gp bx by_ wx c0l hcv hpm x y z hb _ _ _ _ _ _ _ _ _ _ _ _ _ _ _ _ _ _ _ _ _ rfl rfl rfl rfl rfl rfl rfl rfl rfl rfl rfl rfl rfl rfl rfl rfl rfl rfl rfl rfl rfl⟩
  have h := q0Y ho hz _ _ _ _ _ _ rfl rfl rfl rfl rfl rfl
  unfold jN at *
  rw [← h]
  simp only [j0Q _ d0d, g0c, a0E]
  generalize kc x = a; generalize kc y = b; generalize kc z = c
  congr 1
  ·grind -lia -linarith
  ·grind -lia -linarith
  ·grind -lia -linarith
 ·have hz : kc z = 0 := by
   have := p0v _ d0d z _ hb
   simpa using this
  refine ⟨x, y, z, ?_, fun gc gp bx by_ wx hcv hpm => m0y mP gc gp bx by_ wx c0l hcv hpm x y z hb⟩
  unfold jN
  rw [w0m hz]; rfl
end
section
open Go.RowKit Go.Mv Mvp
attribute [local irreducible] a0F lw mix cw b0n b0v b0k a0M a0q beN b0C b0i b0z a0J a0R elN mdL b0o
theorem h0U (m : Md) (gc gp bx by_ : Nat) (w : World) (hok : m.Ok) (hcv : Has w gc (e0S m gp bx by_) 125) (hpm : Has w gp (mdL m) 187) :
  Calls Tryz.prog 157 #[.pointer (some ⟨gc, 0, none⟩)] w fun e w' => e = .returned (ptV m 1 1 0) ∧ Fr Nob w w' := by
 have HOK := qH hok
 have HCV := qH hcv
 have HPM := qH hpm
 clear hok hcv hpm
 have st0 := St.start Nob w
 go_enter Tryz.func157, Tryz.ntmps157
 go_wp2_with (with_reducible refine wSk 2 ?_)
 refine a0c st0 rfl rfl (z := zAc) (by kernel_rfl) (cw 12 0) (by rw [a0e]; rfl) ?_
 intro g2 w1 st1
 clear st0
 go_wp2_with fail
 refine wp_region_noPanic ?_
 refine a0h st1 11 [.w 0, .w 1, .w 2, .t 3, .w 5, .w 6, .w 7, .t 8, .c 4, .c 9, .w 10] (.m 11 .nil) (by kernel_rfl) (by kernel_rfl) (fun _ _ _ _ _ h => h) ?_
 clear st1
 iterate 3 (refine a0n (v := ?_) rfl rfl (fun xq wx => ?_) ?_; rotate_left 1; · (go_simp; with_reducible rfl); try simp only [clL])
 refine b0h (v := ?_) rfl rfl (fun xq wx hS => ?_) ?_
 rotate_left 1
 ·(have hc := (HCV.out.keep (St.fr hS) id).cell (i := 0) rfl; clear hS; go_simp; with_reducible rfl)
 try simp only [clL]
 iterate 3 (refine a0n (v := ?_) rfl rfl (fun xq wx => ?_) ?_; rotate_left 1; · (go_simp; with_reducible rfl); try simp only [clL])
 refine b0h (v := ?_) rfl rfl (fun xq wx hS => ?_) ?_
 rotate_left 1
 ·(have hc := (HCV.out.keep (St.fr hS) id).cell (i := 0) rfl; clear hS; go_simp; with_reducible rfl)
 try simp only [clL]
 refine a0d rfl rfl rfl Tryz.call148 (fun w hS hR => e0a m gp _ HOK.out (HPM.out.keep hS.fr id)) (fun _ => rfl) ?_
 try simp only [clL]
 refine a0d rfl rfl rfl Tryz.call148 (fun w hS hR => e0a m gp _ HOK.out (HPM.out.keep hS.fr id)) (fun _ => rfl) ?_
 try simp only [clL]
 refine a0n rfl rfl (fun _ => b0u rfl _ (q0O _ _)) ?_
 try simp only [clL]
 refine a0y fun xq w2 st2 hR => ?_
 try dsimp only
 clear hR xq
 refine a0r rfl rfl ?_
 refine a0j st2 0 rfl rfl rfl rfl (by simp [a0a]) (by kernel_rfl) (b0g _ _ _) ?_
 intro w3 st3
 try simp only [List.nil_append, List.set_cons_zero] at st3
 clear st2
 try simp only [Act.put]
 refine a0k ?_
 refine NoPanic.normal ?_
 have hr := st3.at 0 rfl
 have hfr := st3.fr
 clear st3
 go_wp2_with fail
 exact bodyPost_ret (a0u rfl rfl hr Tryz.underlying117 rfl (by kernel_rfl)) rfl ⟨by unfold ptV ptL; rw [d0y], hfr⟩
theorem l0z (m : Md) (gc gp bx by_ : Nat) (w : World) (hok : m.Ok) (hcv : Has w gc (e0S m gp bx by_) 125) (hpm : Has w gp (mdL m) 187) :
  Calls Tryz.prog 157 #[.pointer (some ⟨gc, 0, none⟩)] w fun e w' => e = .returned (.agg (cw 4 (elN m 1) ++ (cw 4 (elN m 1) ++ cw 4 (elN m 0))).toArray) ∧ Fr Nob w w' := h0U m gc gp bx by_ w hok hcv hpm
theorem p0d (m : Md) (gc gp bx by_ : Nat) (w : World) (hok : m.Ok) (hcv : Has w gc (e0S m gp bx by_) 125) (hpm : Has w gp (mdL m) 187) (x1 y1 z1 x2 y2 z2 : Nat) (hb1 : (z1 % m.M == 0) = true) :
  Calls Tryz.prog 159 #[.pointer (some ⟨gc, 0, none⟩), ptV m x1 y1 z1, ptV m x2 y2 z2] w fun e w' => e = .returned (ptV m x2 y2 z2) ∧ Fr Nob w w' := by
 have HOK := qH hok
 have HCV := qH hcv
 have HPM := qH hpm
 clear hok hcv hpm
 have HB1 := qH hb1
 clear hb1
 unfold ptV ptL
 have st0 := St.start Nob w
 go_enter Tryz.func159, Tryz.ntmps159
 go_wp2_with (with_reducible refine wSk 4 ?_)
 refine a0m st0 rfl rfl rfl (cw 4 (elN m x1) ++ (cw 4 (elN m y1) ++ cw 4 (elN m z1))) rfl ?_
 intro g4 w1 st1
 clear st0
 go_wp2_with (with_reducible refine wSk 5 ?_)
 refine a0m st1 rfl rfl rfl (cw 4 (elN m x2) ++ (cw 4 (elN m y2) ++ cw 4 (elN m z2))) rfl ?_
 intro g5 w2 st2
 clear st1
 go_wp2_with (with_reducible refine wSk 6 ?_)
 refine a0c st2 rfl rfl (z := zAc) (by kernel_rfl) (cw 12 0) (by rw [a0e]; rfl) ?_
 intro g6 w3 st3
 clear st2
 go_wp2_with (with_reducible refine wSk 20 ?_)
 refine a0p st3 0 rfl rfl rfl Tryz.underlying117 rfl rfl (by kernel_rfl) ?_
 go_wp2_with fail
 refine (d0c m HOK.out x1 y1 z1 true HB1.out _).mono ?_
 rintro e' w4 ⟨rfl, hf4⟩
 have st4 := st3.keep hf4
 clear st3 hf4
 go_wp2_with (with_reducible refine wSk 22 ?_)
 refine a0p st4 1 rfl rfl rfl Tryz.underlying117 rfl rfl (by kernel_rfl) ?_
 go_wp2_with (with_reducible refine wSn ?_)
 refine a0b st4 2 rfl rfl rfl rfl rfl (by simp [a0a]) (by kernel_rfl) (b0g _ _ _) ?_
 intro w5 st5
 clear st4
 have hr := st5.at 2 rfl
 have hfr := st5.fr
 clear st5
 go_wp2_with fail
 exact bodyPost_ret (a0u rfl rfl hr Tryz.underlying117 rfl (by kernel_rfl)) rfl ⟨rfl, hfr⟩
theorem p0e (m : Md) (gc gp bx by_ : Nat) (w : World) (hok : m.Ok) (hcv : Has w gc (e0S m gp bx by_) 125) (hpm : Has w gp (mdL m) 187) (x1 y1 z1 x2 y2 z2 : Nat) (hb1 : (z1 % m.M == 0) = false) (hb2 : (z2 % m.M == 0) = true) :
  Calls Tryz.prog 159 #[.pointer (some ⟨gc, 0, none⟩), ptV m x1 y1 z1, ptV m x2 y2 z2] w fun e w' => e = .returned (ptV m x1 y1 z1) ∧ Fr Nob w w' := by
 have HOK := qH hok
 have HCV := qH hcv
 have HPM := qH hpm
 clear hok hcv hpm
 have HB1 := qH hb1
 have HB2 := qH hb2
 clear hb1 hb2
 unfold ptV ptL
 have st0 := St.start Nob w
 go_enter Tryz.func159, Tryz.ntmps159
 go_wp2_with (with_reducible refine wSk 4 ?_)
 refine a0m st0 rfl rfl rfl (cw 4 (elN m x1) ++ (cw 4 (elN m y1) ++ cw 4 (elN m z1))) rfl ?_
 intro g4 w1 st1
 clear st0
 go_wp2_with (with_reducible refine wSk 5 ?_)
 refine a0m st1 rfl rfl rfl (cw 4 (elN m x2) ++ (cw 4 (elN m y2) ++ cw 4 (elN m z2))) rfl ?_
 intro g5 w2 st2
 clear st1
 go_wp2_with (with_reducible refine wSk 6 ?_)
 refine a0c st2 rfl rfl (z := zAc) (by kernel_rfl) (cw 12 0) (by rw [a0e]; rfl) ?_
 intro g6 w3 st3
 clear st2
 go_wp2_with (with_reducible refine wSk 20 ?_)
 refine a0p st3 0 rfl rfl rfl Tryz.underlying117 rfl rfl (by kernel_rfl) ?_
 go_wp2_with fail
 refine (d0c m HOK.out x1 y1 z1 false HB1.out _).mono ?_
 rintro e' w4 ⟨rfl, hf4⟩
 have st4 := st3.keep hf4
 clear st3 hf4
 go_wp2_with (with_reducible refine wSk 24 ?_)
 refine a0p st4 1 rfl rfl rfl Tryz.underlying117 rfl rfl (by kernel_rfl) ?_
 go_wp2_with fail
 refine (d0c m HOK.out x2 y2 z2 true HB2.out _).mono ?_
 rintro e' w5 ⟨rfl, hf5⟩
 have st5 := st4.keep hf5
 clear st4 hf5
 go_wp2_with (with_reducible refine wSk 26 ?_)
 refine a0p st5 0 rfl rfl rfl Tryz.underlying117 rfl rfl (by kernel_rfl) ?_
 go_wp2_with (with_reducible refine wSn ?_)
 refine a0b st5 2 rfl rfl rfl rfl rfl (by simp [a0a]) (by kernel_rfl) (b0g _ _ _) ?_
 intro w6 st6
 clear st5
 have hr := st6.at 2 rfl
 have hfr := st6.fr
 clear st6
 go_wp2_with fail
 exact bodyPost_ret (a0u rfl rfl hr Tryz.underlying117 rfl (by kernel_rfl)) rfl ⟨rfl, hfr⟩
end
section
open Go.RowKit Go.Mv Mvp
attribute [local irreducible] a0F lw mix cw b0n b0v b0k a0M a0q beN b0C b0i b0z a0J a0R elN mdL b0o
def z0u (b c : Bool) (u v x : Value) : Value := match b, c with
 | false, _ => x
 | true, false => v
 | true, true => u
theorem r0d (m : Md) (gc gp bx by_ : Nat) (w : World) (hok : m.Ok) (hcv : Has w gc (e0S m gp bx by_) 125) (hpm : Has w gp (mdL m) 187) (x1 y1 z1 x2 y2 z2 : Nat) (hb1 : (z1 % m.M == 0) = false) (hb2 : (z2 % m.M == 0) = false) (pp qq u1 u2 q3 s1 p3 s2 hd rr hh h3 v r2 v2 t1 X t2 t3 t4 Y zz Z DX DY DZ : Nat) (epp : z1 * z1 = pp) (eqq : z2 * z2 = qq) (eu1 : x1 * qq = u1) (eu2 : x2 * pp = u2) (eq3 : qq * z2 = q3) (es1 : y1 * q3 = s1) (ep3 : pp * z1 = p3) (es2 : y2 * p3 = s2) (ehd : u2 + (m.M - u1 % m.M) = hd) (err : s2 + (m.M - s1 % m.M) = rr) (ehh : hd * hd = hh) (eh3 : hh * hd = h3) (ev : u1 * hh = v) (er2 : rr * rr = r2) (ev2 : v + v = v2) (et1 : h3 + v2 = t1) (eX : r2 + (m.M - t1 % m.M) = X) (et2 : v + (m.M - X % m.M) = t2) (et3 : rr * t2 = t3) (et4 : s1 * h3 = t4) (eY : t3 + (m.M - t4 % m.M) = Y) (ezz : z1 * z2 = zz) (eZ : hd * zz = Z) (hd0 : ((hd % m.M == 0) = true → (rr % m.M == 0) = true → ∀ wx, Fr Nob w wx → Calls Tryz.prog 158 #[.pointer (some ⟨gc, 0, none⟩), ptV m x1 y1 z1] wx fun e w' => e = .returned (ptV m DX DY DZ) ∧ Fr Nob wx w')) :
  Calls Tryz.prog 159 #[.pointer (some ⟨gc, 0, none⟩), ptV m x1 y1 z1, ptV m x2 y2 z2] w fun e w' => e = .returned (z0u (hd % m.M == 0) (rr % m.M == 0) (ptV m DX DY DZ) (ptV m 1 1 0) (ptV m X Y Z)) ∧ Fr Nob w w' := by
 have HOK := qH hok
 have HCV := qH hcv
 have HPM := qH hpm
 clear hok hcv hpm
 have HB1 := qH hb1
 have HB2 := qH hb2
 have Hpp := qH epp
 have Hqq := qH eqq
 have Hu1 := qH eu1
 have Hu2 := qH eu2
 have Hq3 := qH eq3
 have Hs1 := qH es1
 have Hp3 := qH ep3
 have Hs2 := qH es2
 have Hhd := qH ehd
 have Hrr := qH err
 have Hhh := qH ehh
 have Hh3 := qH eh3
 have Hv := qH ev
 have Hr2 := qH er2
 have Hv2 := qH ev2
 have Ht1 := qH et1
 have HX := qH eX
 have Ht2 := qH et2
 have Ht3 := qH et3
 have Ht4 := qH et4
 have HY := qH eY
 have Hzz := qH ezz
 have HZ := qH eZ
 have HD0 := qH hd0
 clear hd0 hb1 hb2 epp eqq eu1 eu2 eq3 es1 ep3 es2 ehd err ehh eh3 ev er2 ev2 et1 eX et2 et3 et4 eY ezz eZ
 unfold ptV ptL
 have st0 := St.start Nob w
 go_enter Tryz.func159, Tryz.ntmps159
 go_wp2_with (with_reducible refine wSk 4 ?_)
 refine a0m st0 rfl rfl rfl (cw 4 (elN m x1) ++ (cw 4 (elN m y1) ++ cw 4 (elN m z1))) rfl ?_
 intro g4 w1 st1
 clear st0
 go_wp2_with (with_reducible refine wSk 5 ?_)
 refine a0m st1 rfl rfl rfl (cw 4 (elN m x2) ++ (cw 4 (elN m y2) ++ cw 4 (elN m z2))) rfl ?_
 intro g5 w2 st2
 clear st1
 go_wp2_with (with_reducible refine wSk 6 ?_)
 refine a0c st2 rfl rfl (z := zAc) (by kernel_rfl) (cw 12 0) (by rw [a0e]; rfl) ?_
 intro g6 w3 st3
 clear st2
 go_wp2_with (with_reducible refine wSk 20 ?_)
 refine a0p st3 0 rfl rfl rfl Tryz.underlying117 rfl rfl (by kernel_rfl) ?_
 go_wp2_with fail
 refine (d0c m HOK.out x1 y1 z1 false HB1.out _).mono ?_
 rintro e' w4 ⟨rfl, hf4⟩
 have st4 := st3.keep hf4
 clear st3 hf4
 go_wp2_with (with_reducible refine wSk 24 ?_)
 refine a0p st4 1 rfl rfl rfl Tryz.underlying117 rfl rfl (by kernel_rfl) ?_
 go_wp2_with fail
 refine (d0c m HOK.out x2 y2 z2 false HB2.out _).mono ?_
 rintro e' w5 ⟨rfl, hf5⟩
 have st5 := st4.keep hf5
 clear st4 hf5
 go_wp2_with fail
 refine wp_region_noPanic ?_
 refine a0h st5 17 [.o 14, .o 15, .w 0, .w 1, .w 2, .t 3, .w 4, .t 5, .w 7, .w 8, .w 9, .t 10, .w 11, .t 12, .c 6, .c 13, .j 14, .j 15] (.r 16 (.m 17 .nil)) (by kernel_rfl) (by kernel_rfl) (fun _ _ _ _ _ h => h) ?_
 clear st5
 refine b0l rfl rfl rfl i0g (cw 4 0) rfl ?_
 try simp only [clL]
 refine b0l rfl rfl rfl i0g (cw 4 0) rfl ?_
 try simp only [clL]
 refine a0n (v := ?_) rfl rfl (fun xq wx => ?_) ?_
 rotate_left 1
 ·(go_simp; with_reducible rfl)
 try simp only [clL]
 refine a0n (v := ?_) rfl rfl (fun xq wx => ?_) ?_
 rotate_left 1
 ·(go_simp; with_reducible rfl)
 try simp only [clL]
 refine a0n (v := ?_) rfl rfl (fun xq wx => ?_) ?_
 rotate_left 1
 ·(go_simp; with_reducible rfl)
 try simp only [clL]
 refine b0h (v := ?_) rfl rfl (fun xq wx hS => ?_) ?_
 rotate_left 1
 ·(have hc := (HCV.out.keep (St.fr hS) id).cell (i := 0) rfl; clear hS; go_simp; with_reducible rfl)
 try simp only [clL]
 refine a0n (v := ?_) rfl rfl (fun xq wx => ?_) ?_
 rotate_left 1
 ·(go_simp; with_reducible rfl)
 try simp only [clL]
 refine a0f rfl rfl rfl (fun _ => rfl) (cw 4 (elN m z1)) (fun wx hS => St.rangeL hS 0 rfl 8 _ (f0E _ _ _)) Tryz.underlying66 rfl (by kernel_rfl) ?_
 try simp only [clL]
 refine a0n (v := ?_) rfl rfl (fun xq wx => ?_) ?_
 rotate_left 1
 ·(go_simp; with_reducible rfl)
 try simp only [clL]
 refine a0n (v := ?_) rfl rfl (fun xq wx => ?_) ?_
 rotate_left 1
 ·(go_simp; with_reducible rfl)
 try simp only [clL]
 refine a0n (v := ?_) rfl rfl (fun xq wx => ?_) ?_
 rotate_left 1
 ·(go_simp; with_reducible rfl)
 try simp only [clL]
 refine b0h (v := ?_) rfl rfl (fun xq wx hS => ?_) ?_
 rotate_left 1
 ·(have hc := (HCV.out.keep (St.fr hS) id).cell (i := 0) rfl; clear hS; go_simp; with_reducible rfl)
 try simp only [clL]
 refine a0n (v := ?_) rfl rfl (fun xq wx => ?_) ?_
 rotate_left 1
 ·(go_simp; with_reducible rfl)
 try simp only [clL]
 refine a0f rfl rfl rfl (fun _ => rfl) (cw 4 (elN m z2)) (fun wx hS => St.rangeL hS 1 rfl 8 _ (f0E _ _ _)) Tryz.underlying66 rfl (by kernel_rfl) ?_
 try simp only [clL]
 refine a0d rfl rfl rfl Tryz.call151 (fun w hS hR => b0K m gp _ HOK.out (HPM.out.keep hS.fr id) z1 pp Hpp.out) (fun _ => rfl) ?_
 try simp only [clL]
 refine a0d rfl rfl rfl Tryz.call151 (fun w hS hR => b0K m gp _ HOK.out (HPM.out.keep hS.fr id) z2 qq Hqq.out) (fun _ => rfl) ?_
 try simp only [clL]
 refine b0m (List.mem_cons_of_mem _ List.mem_cons_self) fun g7 => ?_
 simp only [upd, reduceIte]
 try simp only [Nat.reduceEqDiff, reduceIte]
 refine b0m List.mem_cons_self fun g8 => ?_
 simp only [upd, reduceIte]
 refine a0y fun xq w6 st6 hR => ?_
 try dsimp only
 clear hR xq
 refine a0A rfl rfl ?_
 refine a0j st6 3 rfl rfl rfl rfl (by simp [a0a]) (by kernel_rfl) (a0g _ _) ?_
 intro w7 st7
 repeat (first | simp only [List.cons_append] at st7 | simp only [List.nil_append] at st7 | simp only [List.set_cons_succ] at st7 | simp only [List.set_cons_zero] at st7)
 clear st6
 refine ⟨by first | exact st7 | exact St.less st7 (by simp), ?_⟩
 try simp only [Act.put]
 refine a0r rfl rfl ?_
 refine a0j st7 4 rfl rfl rfl rfl (by simp [a0a]) (by kernel_rfl) (a0g _ _) ?_
 intro w8 st8
 try simp only [List.set_cons_zero, List.set_cons_succ] at st8
 clear st7
 try simp only [Act.put]
 refine a0k ?_
 refine NoPanic.normal ?_
 go_wp2_with fail
 refine wp_region_noPanic ?_
 refine a0h st8 19 [.o 16, .o 17, .w 0, .w 1, .w 2, .t 3, .w 4, .t 5, .t 6, .w 8, .w 9, .w 10, .t 11, .w 12, .t 13, .t 14, .c 7, .c 15, .j 16, .j 17] (.r 18 (.m 19 .nil)) (by kernel_rfl) (by kernel_rfl) (fun _ _ _ _ _ h => h) ?_
 clear st8
 refine b0l rfl rfl rfl i0g (cw 4 0) rfl ?_
 try simp only [clL]
 refine b0l rfl rfl rfl i0g (cw 4 0) rfl ?_
 try simp only [clL]
 refine a0n (v := ?_) rfl rfl (fun xq wx => ?_) ?_
 rotate_left 1
 ·(go_simp; with_reducible rfl)
 try simp only [clL]
 refine a0n (v := ?_) rfl rfl (fun xq wx => ?_) ?_
 rotate_left 1
 ·(go_simp; with_reducible rfl)
 try simp only [clL]
 refine a0n (v := ?_) rfl rfl (fun xq wx => ?_) ?_
 rotate_left 1
 ·(go_simp; with_reducible rfl)
 try simp only [clL]
 refine b0h (v := ?_) rfl rfl (fun xq wx hS => ?_) ?_
 rotate_left 1
 ·(have hc := (HCV.out.keep (St.fr hS) id).cell (i := 0) rfl; clear hS; go_simp; with_reducible rfl)
 try simp only [clL]
 refine a0n (v := ?_) rfl rfl (fun xq wx => ?_) ?_
 rotate_left 1
 ·(go_simp; with_reducible rfl)
 try simp only [clL]
 refine a0f rfl rfl rfl (fun _ => rfl) (cw 4 (elN m x1)) (fun wx hS => St.rangeL hS 0 rfl 0 _ (k0k _ _ _)) Tryz.underlying66 rfl (by kernel_rfl) ?_
 try simp only [clL]
 refine a0f rfl rfl rfl (fun _ => rfl) (cw 4 (elN m qq)) (fun wx hS => St.rangeL hS 4 rfl 0 _ dZl) Tryz.underlying66 rfl (by kernel_rfl) ?_
 try simp only [clL]
 refine a0n (v := ?_) rfl rfl (fun xq wx => ?_) ?_
 rotate_left 1
 ·(go_simp; with_reducible rfl)
 try simp only [clL]
 refine a0n (v := ?_) rfl rfl (fun xq wx => ?_) ?_
 rotate_left 1
 ·(go_simp; with_reducible rfl)
 try simp only [clL]
 refine a0n (v := ?_) rfl rfl (fun xq wx => ?_) ?_
 rotate_left 1
 ·(go_simp; with_reducible rfl)
 try simp only [clL]
 refine b0h (v := ?_) rfl rfl (fun xq wx hS => ?_) ?_
 rotate_left 1
 ·(have hc := (HCV.out.keep (St.fr hS) id).cell (i := 0) rfl; clear hS; go_simp; with_reducible rfl)
 try simp only [clL]
 refine a0n (v := ?_) rfl rfl (fun xq wx => ?_) ?_
 rotate_left 1
 ·(go_simp; with_reducible rfl)
 try simp only [clL]
 refine a0f rfl rfl rfl (fun _ => rfl) (cw 4 (elN m x2)) (fun wx hS => St.rangeL hS 1 rfl 0 _ (k0k _ _ _)) Tryz.underlying66 rfl (by kernel_rfl) ?_
 try simp only [clL]
 refine a0f rfl rfl rfl (fun _ => rfl) (cw 4 (elN m pp)) (fun wx hS => St.rangeL hS 3 rfl 0 _ dZl) Tryz.underlying66 rfl (by kernel_rfl) ?_
 try simp only [clL]
 refine a0d rfl rfl rfl Tryz.call152 (fun w hS hR => b0X m gp _ HOK.out (HPM.out.keep hS.fr id) x1 qq u1 Hu1.out) (fun _ => rfl) ?_
 try simp only [clL]
 refine a0d rfl rfl rfl Tryz.call152 (fun w hS hR => b0X m gp _ HOK.out (HPM.out.keep hS.fr id) x2 pp u2 Hu2.out) (fun _ => rfl) ?_
 try simp only [clL]
 refine b0m (List.mem_cons_of_mem _ List.mem_cons_self) fun g9 => ?_
 simp only [upd, reduceIte]
 try simp only [Nat.reduceEqDiff, reduceIte]
 refine b0m List.mem_cons_self fun g10 => ?_
 simp only [upd, reduceIte]
 refine a0y fun xq w9 st9 hR => ?_
 try dsimp only
 clear hR xq
 refine a0A rfl rfl ?_
 refine a0j st9 5 rfl rfl rfl rfl (by simp [a0a]) (by kernel_rfl) (a0g _ _) ?_
 intro w10 st10
 repeat (first | simp only [List.cons_append] at st10 | simp only [List.nil_append] at st10 | simp only [List.set_cons_succ] at st10 | simp only [List.set_cons_zero] at st10)
 clear st9
 refine ⟨by first | exact st10 | exact St.less st10 (by simp), ?_⟩
 try simp only [Act.put]
 refine a0r rfl rfl ?_
 refine a0j st10 6 rfl rfl rfl rfl (by simp [a0a]) (by kernel_rfl) (a0g _ _) ?_
 intro w11 st11
 try simp only [List.set_cons_zero, List.set_cons_succ] at st11
 clear st10
 try simp only [Act.put]
 refine a0k ?_
 refine NoPanic.normal ?_
 go_wp2_with fail
 refine wp_region_noPanic ?_
 refine a0h st11 33 [.o 30, .o 31, .w 0, .w 1, .w 2, .t 3, .w 4, .t 5, .w 6, .w 7, .w 8, .t 9, .t 10, .w 11, .t 12, .w 15, .w 16, .w 17, .t 18, .w 19, .t 20, .w 21, .w 22, .w 23, .t 24, .t 25, .w 26, .t 27, .c 13, .c 14, .c 28, .c 29, .j 30, .j 31] (.r 32 (.m 33 .nil)) (by kernel_rfl) (by kernel_rfl) (fun _ _ _ _ _ h => h) ?_
 clear st11
 refine b0l rfl rfl rfl i0g (cw 4 0) rfl ?_
 try simp only [clL]
 refine b0l rfl rfl rfl i0g (cw 4 0) rfl ?_
 try simp only [clL]
 refine a0n (v := ?_) rfl rfl (fun xq wx => ?_) ?_
 rotate_left 1
 ·(go_simp; with_reducible rfl)
 try simp only [clL]
 refine a0n (v := ?_) rfl rfl (fun xq wx => ?_) ?_
 rotate_left 1
 ·(go_simp; with_reducible rfl)
 try simp only [clL]
 refine a0n (v := ?_) rfl rfl (fun xq wx => ?_) ?_
 rotate_left 1
 ·(go_simp; with_reducible rfl)
 try simp only [clL]
 refine b0h (v := ?_) rfl rfl (fun xq wx hS => ?_) ?_
 rotate_left 1
 ·(have hc := (HCV.out.keep (St.fr hS) id).cell (i := 0) rfl; clear hS; go_simp; with_reducible rfl)
 try simp only [clL]
 refine a0n (v := ?_) rfl rfl (fun xq wx => ?_) ?_
 rotate_left 1
 ·(go_simp; with_reducible rfl)
 try simp only [clL]
 refine a0f rfl rfl rfl (fun _ => rfl) (cw 4 (elN m y1)) (fun wx hS => St.rangeL hS 0 rfl 4 _ (l0Q _ _ _)) Tryz.underlying66 rfl (by kernel_rfl) ?_
 try simp only [clL]
 refine a0n (v := ?_) rfl rfl (fun xq wx => ?_) ?_
 rotate_left 1
 ·(go_simp; with_reducible rfl)
 try simp only [clL]
 refine a0n (v := ?_) rfl rfl (fun xq wx => ?_) ?_
 rotate_left 1
 ·(go_simp; with_reducible rfl)
 try simp only [clL]
 refine a0n (v := ?_) rfl rfl (fun xq wx => ?_) ?_
 rotate_left 1
 ·(go_simp; with_reducible rfl)
 try simp only [clL]
 refine b0h (v := ?_) rfl rfl (fun xq wx hS => ?_) ?_
 rotate_left 1
 ·(have hc := (HCV.out.keep (St.fr hS) id).cell (i := 0) rfl; clear hS; go_simp; with_reducible rfl)
 try simp only [clL]
 refine a0f rfl rfl rfl (fun _ => rfl) (cw 4 (elN m qq)) (fun wx hS => St.rangeL hS 4 rfl 0 _ dZl) Tryz.underlying66 rfl (by kernel_rfl) ?_
 try simp only [clL]
 refine a0n (v := ?_) rfl rfl (fun xq wx => ?_) ?_
 rotate_left 1
 ·(go_simp; with_reducible rfl)
 try simp only [clL]
 refine a0f rfl rfl rfl (fun _ => rfl) (cw 4 (elN m z2)) (fun wx hS => St.rangeL hS 1 rfl 8 _ (f0E _ _ _)) Tryz.underlying66 rfl (by kernel_rfl) ?_
 try simp only [clL]
 refine a0n (v := ?_) rfl rfl (fun xq wx => ?_) ?_
 rotate_left 1
 ·(go_simp; with_reducible rfl)
 try simp only [clL]
 refine a0n (v := ?_) rfl rfl (fun xq wx => ?_) ?_
 rotate_left 1
 ·(go_simp; with_reducible rfl)
 try simp only [clL]
 refine a0n (v := ?_) rfl rfl (fun xq wx => ?_) ?_
 rotate_left 1
 ·(go_simp; with_reducible rfl)
 try simp only [clL]
 refine b0h (v := ?_) rfl rfl (fun xq wx hS => ?_) ?_
 rotate_left 1
 ·(have hc := (HCV.out.keep (St.fr hS) id).cell (i := 0) rfl; clear hS; go_simp; with_reducible rfl)
 try simp only [clL]
 refine a0n (v := ?_) rfl rfl (fun xq wx => ?_) ?_
 rotate_left 1
 ·(go_simp; with_reducible rfl)
 try simp only [clL]
 refine a0f rfl rfl rfl (fun _ => rfl) (cw 4 (elN m y2)) (fun wx hS => St.rangeL hS 1 rfl 4 _ (l0Q _ _ _)) Tryz.underlying66 rfl (by kernel_rfl) ?_
 try simp only [clL]
 refine a0n (v := ?_) rfl rfl (fun xq wx => ?_) ?_
 rotate_left 1
 ·(go_simp; with_reducible rfl)
 try simp only [clL]
 refine a0n (v := ?_) rfl rfl (fun xq wx => ?_) ?_
 rotate_left 1
 ·(go_simp; with_reducible rfl)
 try simp only [clL]
 refine a0n (v := ?_) rfl rfl (fun xq wx => ?_) ?_
 rotate_left 1
 ·(go_simp; with_reducible rfl)
 try simp only [clL]
 refine b0h (v := ?_) rfl rfl (fun xq wx hS => ?_) ?_
 rotate_left 1
 ·(have hc := (HCV.out.keep (St.fr hS) id).cell (i := 0) rfl; clear hS; go_simp; with_reducible rfl)
 try simp only [clL]
 refine a0f rfl rfl rfl (fun _ => rfl) (cw 4 (elN m pp)) (fun wx hS => St.rangeL hS 3 rfl 0 _ dZl) Tryz.underlying66 rfl (by kernel_rfl) ?_
 try simp only [clL]
 refine a0n (v := ?_) rfl rfl (fun xq wx => ?_) ?_
 rotate_left 1
 ·(go_simp; with_reducible rfl)
 try simp only [clL]
 refine a0f rfl rfl rfl (fun _ => rfl) (cw 4 (elN m z1)) (fun wx hS => St.rangeL hS 0 rfl 8 _ (f0E _ _ _)) Tryz.underlying66 rfl (by kernel_rfl) ?_
 try simp only [clL]
 refine a0d rfl rfl rfl Tryz.call152 (fun w hS hR => b0X m gp _ HOK.out (HPM.out.keep hS.fr id) qq z2 q3 Hq3.out) (fun _ => rfl) ?_
 try simp only [clL]
 refine a0d rfl rfl rfl Tryz.call152 (fun w hS hR => b0X m gp _ HOK.out (HPM.out.keep hS.fr id) y1 q3 s1 Hs1.out) (fun _ => rfl) ?_
 try simp only [clL]
 refine a0d rfl rfl rfl Tryz.call152 (fun w hS hR => b0X m gp _ HOK.out (HPM.out.keep hS.fr id) pp z1 p3 Hp3.out) (fun _ => rfl) ?_
 try simp only [clL]
 refine a0d rfl rfl rfl Tryz.call152 (fun w hS hR => b0X m gp _ HOK.out (HPM.out.keep hS.fr id) y2 p3 s2 Hs2.out) (fun _ => rfl) ?_
 try simp only [clL]
 refine b0m (List.mem_cons_of_mem _ List.mem_cons_self) fun g11 => ?_
 simp only [upd, reduceIte]
 try simp only [Nat.reduceEqDiff, reduceIte]
 refine b0m List.mem_cons_self fun g12 => ?_
 simp only [upd, reduceIte]
 refine a0y fun xq w12 st12 hR => ?_
 try dsimp only
 clear hR xq
 refine a0A rfl rfl ?_
 refine a0j st12 7 rfl rfl rfl rfl (by simp [a0a]) (by kernel_rfl) (a0g _ _) ?_
 intro w13 st13
 repeat (first | simp only [List.cons_append] at st13 | simp only [List.nil_append] at st13 | simp only [List.set_cons_succ] at st13 | simp only [List.set_cons_zero] at st13)
 clear st12
 refine ⟨by first | exact st13 | exact St.less st13 (by simp), ?_⟩
 try simp only [Act.put]
 refine a0r rfl rfl ?_
 refine a0j st13 8 rfl rfl rfl rfl (by simp [a0a]) (by kernel_rfl) (a0g _ _) ?_
 intro w14 st14
 try simp only [List.set_cons_zero, List.set_cons_succ] at st14
 clear st13
 try simp only [Act.put]
 refine a0k ?_
 refine NoPanic.normal ?_
 go_wp2_with fail
 refine wp_region_noPanic ?_
 refine a0h st14 17 [.o 14, .o 15, .w 0, .w 1, .w 2, .t 3, .t 4, .t 5, .w 7, .w 8, .w 9, .t 10, .t 11, .t 12, .c 6, .c 13, .j 14, .j 15] (.r 16 (.m 17 .nil)) (by kernel_rfl) (by kernel_rfl) (fun _ _ _ _ _ h => h) ?_
 clear st14
 refine b0l rfl rfl rfl i0g (cw 4 0) rfl ?_
 try simp only [clL]
 refine b0l rfl rfl rfl i0g (cw 4 0) rfl ?_
 try simp only [clL]
 refine a0n (v := ?_) rfl rfl (fun xq wx => ?_) ?_
 rotate_left 1
 ·(go_simp; with_reducible rfl)
 try simp only [clL]
 refine a0n (v := ?_) rfl rfl (fun xq wx => ?_) ?_
 rotate_left 1
 ·(go_simp; with_reducible rfl)
 try simp only [clL]
 refine a0n (v := ?_) rfl rfl (fun xq wx => ?_) ?_
 rotate_left 1
 ·(go_simp; with_reducible rfl)
 try simp only [clL]
 refine b0h (v := ?_) rfl rfl (fun xq wx hS => ?_) ?_
 rotate_left 1
 ·(have hc := (HCV.out.keep (St.fr hS) id).cell (i := 0) rfl; clear hS; go_simp; with_reducible rfl)
 try simp only [clL]
 refine a0f rfl rfl rfl (fun _ => rfl) (cw 4 (elN m u2)) (fun wx hS => St.rangeL hS 6 rfl 0 _ dZl) Tryz.underlying66 rfl (by kernel_rfl) ?_
 try simp only [clL]
 refine a0f rfl rfl rfl (fun _ => rfl) (cw 4 (elN m u1)) (fun wx hS => St.rangeL hS 5 rfl 0 _ dZl) Tryz.underlying66 rfl (by kernel_rfl) ?_
 try simp only [clL]
 refine a0n (v := ?_) rfl rfl (fun xq wx => ?_) ?_
 rotate_left 1
 ·(go_simp; with_reducible rfl)
 try simp only [clL]
 refine a0n (v := ?_) rfl rfl (fun xq wx => ?_) ?_
 rotate_left 1
 ·(go_simp; with_reducible rfl)
 try simp only [clL]
 refine a0n (v := ?_) rfl rfl (fun xq wx => ?_) ?_
 rotate_left 1
 ·(go_simp; with_reducible rfl)
 try simp only [clL]
 refine b0h (v := ?_) rfl rfl (fun xq wx hS => ?_) ?_
 rotate_left 1
 ·(have hc := (HCV.out.keep (St.fr hS) id).cell (i := 0) rfl; clear hS; go_simp; with_reducible rfl)
 try simp only [clL]
 refine a0f rfl rfl rfl (fun _ => rfl) (cw 4 (elN m s2)) (fun wx hS => St.rangeL hS 8 rfl 0 _ dZl) Tryz.underlying66 rfl (by kernel_rfl) ?_
 try simp only [clL]
 refine a0f rfl rfl rfl (fun _ => rfl) (cw 4 (elN m s1)) (fun wx hS => St.rangeL hS 7 rfl 0 _ dZl) Tryz.underlying66 rfl (by kernel_rfl) ?_
 try simp only [clL]
 refine a0d rfl rfl rfl Tryz.call182 (fun w hS hR => f0H m gp _ HOK.out (HPM.out.keep hS.fr id) u2 u1 hd Hhd.out) (fun _ => rfl) ?_
 try simp only [clL]
 refine a0d rfl rfl rfl Tryz.call182 (fun w hS hR => f0H m gp _ HOK.out (HPM.out.keep hS.fr id) s2 s1 rr Hrr.out) (fun _ => rfl) ?_
 try simp only [clL]
 refine b0m (List.mem_cons_of_mem _ List.mem_cons_self) fun g13 => ?_
 simp only [upd, reduceIte]
 try simp only [Nat.reduceEqDiff, reduceIte]
 refine b0m List.mem_cons_self fun g14 => ?_
 simp only [upd, reduceIte]
 refine a0y fun xq w15 st15 hR => ?_
 try dsimp only
 clear hR xq
 refine a0A rfl rfl ?_
 refine a0j st15 9 rfl rfl rfl rfl (by simp [a0a]) (by kernel_rfl) (a0g _ _) ?_
 intro w16 st16
 repeat (first | simp only [List.cons_append] at st16 | simp only [List.nil_append] at st16 | simp only [List.set_cons_succ] at st16 | simp only [List.set_cons_zero] at st16)
 clear st15
 refine ⟨by first | exact st16 | exact St.less st16 (by simp), ?_⟩
 try simp only [Act.put]
 refine a0r rfl rfl ?_
 refine a0j st16 10 rfl rfl rfl rfl (by simp [a0a]) (by kernel_rfl) (a0g _ _) ?_
 intro w17 st17
 try simp only [List.set_cons_zero, List.set_cons_succ] at st17
 clear st16
 try simp only [Act.put]
 refine a0k ?_
 refine NoPanic.normal ?_
 rcases Bool.eq_false_or_eq_true (hd % m.M == 0) with hh0 | hh0
 ·have HHZ := qH hh0
  rcases Bool.eq_false_or_eq_true (rr % m.M == 0) with hr0 | hr0
  ·have HRZ := qH hr0
   have HDB := qH (show ∀ wx, Fr Nob w wx → Calls Tryz.prog 158 #[.pointer (some ⟨gc, 0, none⟩), .agg (cw 4 (elN m x1) ++ (cw 4 (elN m y1) ++ cw 4 (elN m z1))).toArray] wx fun e w' => e = .returned (.agg (cw 4 (elN m DX) ++ (cw 4 (elN m DY) ++ cw 4 (elN m DZ))).toArray) ∧ Fr Nob wx w' from HD0.out hh0 hr0)
   clear hh0 hr0 HD0
   go_wp2_with (with_reducible refine wSk 101 ?_)
   refine a0i st17 9 rfl rfl rfl Tryz.underlying66 rfl (by kernel_rfl) ?_
   go_wp2_with fail
   refine (d0m m HOK.out hd true HHZ.out _).mono ?_
   rintro e' w18 ⟨rfl, hf18⟩
   have st18 := st17.keep hf18
   clear st17 hf18
   go_wp2_with (with_reducible refine wSk 103 ?_)
   refine a0i st18 10 rfl rfl rfl Tryz.underlying66 rfl (by kernel_rfl) ?_
   go_wp2_with fail
   refine (d0m m HOK.out rr true HRZ.out _).mono ?_
   rintro e' w19 ⟨rfl, hf19⟩
   have st19 := st18.keep hf19
   clear st18 hf19
   go_wp2_with (with_reducible refine wSk 106 ?_)
   refine a0p st19 0 rfl rfl rfl Tryz.underlying117 rfl rfl (by kernel_rfl) ?_
   go_wp2_with fail
   refine (HDB.out _ st19.fr).mono ?_
   rintro e' w20 ⟨rfl, hf20⟩
   have st20 := st19.keep hf20
   clear st19 hf20
   go_wp2_with (with_reducible refine wSn ?_)
   refine a0b st20 2 rfl rfl rfl rfl rfl (by simp [a0a]) (by kernel_rfl) (b0g _ _ _) ?_
   intro w21 st21
   clear st20
   have hr := st21.at 2 rfl
   have hfr := st21.fr
   clear st21
   go_wp2_with fail
   exact bodyPost_ret (a0u rfl rfl hr Tryz.underlying117 rfl (by kernel_rfl)) rfl ⟨by rw [HHZ.out, HRZ.out]; rfl, hfr⟩
  ·have HRZ := qH hr0
   clear hh0 hr0 HD0
   go_wp2_with (with_reducible refine wSk 101 ?_)
   refine a0i st17 9 rfl rfl rfl Tryz.underlying66 rfl (by kernel_rfl) ?_
   go_wp2_with fail
   refine (d0m m HOK.out hd true HHZ.out _).mono ?_
   rintro e' w18 ⟨rfl, hf18⟩
   have st18 := st17.keep hf18
   clear st17 hf18
   go_wp2_with (with_reducible refine wSk 103 ?_)
   refine a0i st18 10 rfl rfl rfl Tryz.underlying66 rfl (by kernel_rfl) ?_
   go_wp2_with fail
   refine (d0m m HOK.out rr false HRZ.out _).mono ?_
   rintro e' w19 ⟨rfl, hf19⟩
   have st19 := st18.keep hf19
   clear st18 hf19
   go_wp2_with fail
   refine (l0z m gc gp bx by_ _ HOK.out (HCV.out.keep st19.fr id) (HPM.out.keep st19.fr id)).mono ?_
   rintro e' w20 ⟨rfl, hf20⟩
   have st20 := st19.keep hf20
   clear st19 hf20
   go_wp2_with (with_reducible refine wSn ?_)
   refine a0b st20 2 rfl rfl rfl rfl rfl (by simp [a0a]) (by kernel_rfl) (b0g _ _ _) ?_
   intro w21 st21
   clear st20
   have hr := st21.at 2 rfl
   have hfr := st21.fr
   clear st21
   go_wp2_with fail
   exact bodyPost_ret (a0u rfl rfl hr Tryz.underlying117 rfl (by kernel_rfl)) rfl ⟨by rw [HHZ.out, HRZ.out]; rfl, hfr⟩
 ·have HHZ := qH hh0
  clear hh0 HD0
  go_wp2_with (with_reducible refine wSk 101 ?_)
  refine a0i st17 9 rfl rfl rfl Tryz.underlying66 rfl (by kernel_rfl) ?_
  go_wp2_with fail
  refine (d0m m HOK.out hd false HHZ.out _).mono ?_
  rintro e' w18 ⟨rfl, hf18⟩
  have st18 := st17.keep hf18
  clear st17 hf18
  go_wp2_with fail
  refine wp_region_noPanic ?_
  refine a0h st18 7 [.o 6, .w 0, .w 1, .w 2, .t 3, .t 4, .c 5, .j 6] (.m 7 .nil) (by kernel_rfl) (by kernel_rfl) (fun _ _ _ _ _ h => h) ?_
  clear st18
  refine b0l rfl rfl rfl i0g (cw 4 0) rfl ?_
  try simp only [clL]
  refine a0n (v := ?_) rfl rfl (fun xq wx => ?_) ?_
  rotate_left 1
  ·(go_simp; with_reducible rfl)
  try simp only [clL]
  refine a0n (v := ?_) rfl rfl (fun xq wx => ?_) ?_
  rotate_left 1
  ·(go_simp; with_reducible rfl)
  try simp only [clL]
  refine a0n (v := ?_) rfl rfl (fun xq wx => ?_) ?_
  rotate_left 1
  ·(go_simp; with_reducible rfl)
  try simp only [clL]
  refine b0h (v := ?_) rfl rfl (fun xq wx hS => ?_) ?_
  rotate_left 1
  ·(have hc := (HCV.out.keep (St.fr hS) id).cell (i := 0) rfl; clear hS; go_simp; with_reducible rfl)
  try simp only [clL]
  refine a0f rfl rfl rfl (fun _ => rfl) (cw 4 (elN m hd)) (fun wx hS => St.rangeL hS 9 rfl 0 _ dZl) Tryz.underlying66 rfl (by kernel_rfl) ?_
  try simp only [clL]
  refine a0d rfl rfl rfl Tryz.call151 (fun w hS hR => b0K m gp _ HOK.out (HPM.out.keep hS.fr id) hd hh Hhh.out) (fun _ => rfl) ?_
  try simp only [clL]
  refine b0m List.mem_cons_self fun g15 => ?_
  simp only [upd, reduceIte]
  refine a0y fun xq w19 st19 hR => ?_
  try dsimp only
  clear hR xq
  refine a0r rfl rfl ?_
  refine a0j st19 11 rfl rfl rfl rfl (by simp [a0a]) (by kernel_rfl) (a0g _ _) ?_
  intro w20 st20
  repeat (first | simp only [List.cons_append] at st20 | simp only [List.nil_append] at st20 | simp only [List.set_cons_succ] at st20 | simp only [List.set_cons_zero] at st20)
  clear st19
  try simp only [Act.put]
  refine a0k ?_
  refine NoPanic.normal ?_
  go_wp2_with fail
  refine wp_region_noPanic ?_
  refine a0h st20 8 [.o 7, .w 0, .w 1, .w 2, .t 3, .t 4, .t 5, .c 6, .j 7] (.m 8 .nil) (by kernel_rfl) (by kernel_rfl) (fun _ _ _ _ _ h => h) ?_
  clear st20
  refine b0l rfl rfl rfl i0g (cw 4 0) rfl ?_
  try simp only [clL]
  refine a0n (v := ?_) rfl rfl (fun xq wx => ?_) ?_
  rotate_left 1
  ·(go_simp; with_reducible rfl)
  try simp only [clL]
  refine a0n (v := ?_) rfl rfl (fun xq wx => ?_) ?_
  rotate_left 1
  ·(go_simp; with_reducible rfl)
  try simp only [clL]
  refine a0n (v := ?_) rfl rfl (fun xq wx => ?_) ?_
  rotate_left 1
  ·(go_simp; with_reducible rfl)
  try simp only [clL]
  refine b0h (v := ?_) rfl rfl (fun xq wx hS => ?_) ?_
  rotate_left 1
  ·(have hc := (HCV.out.keep (St.fr hS) id).cell (i := 0) rfl; clear hS; go_simp; with_reducible rfl)
  try simp only [clL]
  refine a0f rfl rfl rfl (fun _ => rfl) (cw 4 (elN m hh)) (fun wx hS => St.rangeL hS 11 rfl 0 _ dZl) Tryz.underlying66 rfl (by kernel_rfl) ?_
  try simp only [clL]
  refine a0f rfl rfl rfl (fun _ => rfl) (cw 4 (elN m hd)) (fun wx hS => St.rangeL hS 9 rfl 0 _ dZl) Tryz.underlying66 rfl (by kernel_rfl) ?_
  try simp only [clL]
  refine a0d rfl rfl rfl Tryz.call152 (fun w hS hR => b0X m gp _ HOK.out (HPM.out.keep hS.fr id) hh hd h3 Hh3.out) (fun _ => rfl) ?_
  try simp only [clL]
  refine b0m List.mem_cons_self fun g16 => ?_
  simp only [upd, reduceIte]
  refine a0y fun xq w21 st21 hR => ?_
  try dsimp only
  clear hR xq
  refine a0r rfl rfl ?_
  refine a0j st21 12 rfl rfl rfl rfl (by simp [a0a]) (by kernel_rfl) (a0g _ _) ?_
  intro w22 st22
  repeat (first | simp only [List.cons_append] at st22 | simp only [List.nil_append] at st22 | simp only [List.set_cons_succ] at st22 | simp only [List.set_cons_zero] at st22)
  clear st21
  try simp only [Act.put]
  refine a0k ?_
  refine NoPanic.normal ?_
  go_wp2_with fail
  refine wp_region_noPanic ?_
  refine a0h st22 8 [.o 7, .w 0, .w 1, .w 2, .t 3, .t 4, .t 5, .c 6, .j 7] (.m 8 .nil) (by kernel_rfl) (by kernel_rfl) (fun _ _ _ _ _ h => h) ?_
  clear st22
  refine b0l rfl rfl rfl i0g (cw 4 0) rfl ?_
  try simp only [clL]
  refine a0n (v := ?_) rfl rfl (fun xq wx => ?_) ?_
  rotate_left 1
  ·(go_simp; with_reducible rfl)
  try simp only [clL]
  refine a0n (v := ?_) rfl rfl (fun xq wx => ?_) ?_
  rotate_left 1
  ·(go_simp; with_reducible rfl)
  try simp only [clL]
  refine a0n (v := ?_) rfl rfl (fun xq wx => ?_) ?_
  rotate_left 1
  ·(go_simp; with_reducible rfl)
  try simp only [clL]
  refine b0h (v := ?_) rfl rfl (fun xq wx hS => ?_) ?_
  rotate_left 1
  ·(have hc := (HCV.out.keep (St.fr hS) id).cell (i := 0) rfl; clear hS; go_simp; with_reducible rfl)
  try simp only [clL]
  refine a0f rfl rfl rfl (fun _ => rfl) (cw 4 (elN m u1)) (fun wx hS => St.rangeL hS 5 rfl 0 _ dZl) Tryz.underlying66 rfl (by kernel_rfl) ?_
  try simp only [clL]
  refine a0f rfl rfl rfl (fun _ => rfl) (cw 4 (elN m hh)) (fun wx hS => St.rangeL hS 11 rfl 0 _ dZl) Tryz.underlying66 rfl (by kernel_rfl) ?_
  try simp only [clL]
  refine a0d rfl rfl rfl Tryz.call152 (fun w hS hR => b0X m gp _ HOK.out (HPM.out.keep hS.fr id) u1 hh v Hv.out) (fun _ => rfl) ?_
  try simp only [clL]
  refine b0m List.mem_cons_self fun g17 => ?_
  simp only [upd, reduceIte]
  refine a0y fun xq w23 st23 hR => ?_
  try dsimp only
  clear hR xq
  refine a0r rfl rfl ?_
  refine a0j st23 13 rfl rfl rfl rfl (by simp [a0a]) (by kernel_rfl) (a0g _ _) ?_
  intro w24 st24
  repeat (first | simp only [List.cons_append] at st24 | simp only [List.nil_append] at st24 | simp only [List.set_cons_succ] at st24 | simp only [List.set_cons_zero] at st24)
  clear st23
  try simp only [Act.put]
  refine a0k ?_
  refine NoPanic.normal ?_
  go_wp2_with fail
  refine wp_region_noPanic ?_
  refine a0h st24 25 [.o 24, .w 0, .w 1, .w 2, .t 3, .w 4, .w 5, .w 6, .t 7, .t 8, .w 10, .w 11, .w 12, .t 13, .t 14, .w 15, .w 16, .w 17, .t 18, .t 19, .t 20, .c 9, .c 21, .c 22, .c 23, .j 24] (.m 25 .nil) (by kernel_rfl) (by kernel_rfl) (fun _ _ _ _ _ h => h) ?_
  clear st24
  refine b0l rfl rfl rfl i0g (cw 4 0) rfl ?_
  try simp only [clL]
  refine a0n (v := ?_) rfl rfl (fun xq wx => ?_) ?_
  rotate_left 1
  ·(go_simp; with_reducible rfl)
  try simp only [clL]
  refine a0n (v := ?_) rfl rfl (fun xq wx => ?_) ?_
  rotate_left 1
  ·(go_simp; with_reducible rfl)
  try simp only [clL]
  refine a0n (v := ?_) rfl rfl (fun xq wx => ?_) ?_
  rotate_left 1
  ·(go_simp; with_reducible rfl)
  try simp only [clL]
  refine b0h (v := ?_) rfl rfl (fun xq wx hS => ?_) ?_
  rotate_left 1
  ·(have hc := (HCV.out.keep (St.fr hS) id).cell (i := 0) rfl; clear hS; go_simp; with_reducible rfl)
  try simp only [clL]
  refine a0n (v := ?_) rfl rfl (fun xq wx => ?_) ?_
  rotate_left 1
  ·(go_simp; with_reducible rfl)
  try simp only [clL]
  refine a0n (v := ?_) rfl rfl (fun xq wx => ?_) ?_
  rotate_left 1
  ·(go_simp; with_reducible rfl)
  try simp only [clL]
  refine a0n (v := ?_) rfl rfl (fun xq wx => ?_) ?_
  rotate_left 1
  ·(go_simp; with_reducible rfl)
  try simp only [clL]
  refine b0h (v := ?_) rfl rfl (fun xq wx hS => ?_) ?_
  rotate_left 1
  ·(have hc := (HCV.out.keep (St.fr hS) id).cell (i := 0) rfl; clear hS; go_simp; with_reducible rfl)
  try simp only [clL]
  refine a0f rfl rfl rfl (fun _ => rfl) (cw 4 (elN m rr)) (fun wx hS => St.rangeL hS 10 rfl 0 _ dZl) Tryz.underlying66 rfl (by kernel_rfl) ?_
  try simp only [clL]
  refine a0n (v := ?_) rfl rfl (fun xq wx => ?_) ?_
  rotate_left 1
  ·(go_simp; with_reducible rfl)
  try simp only [clL]
  refine a0n (v := ?_) rfl rfl (fun xq wx => ?_) ?_
  rotate_left 1
  ·(go_simp; with_reducible rfl)
  try simp only [clL]
  refine a0n (v := ?_) rfl rfl (fun xq wx => ?_) ?_
  rotate_left 1
  ·(go_simp; with_reducible rfl)
  try simp only [clL]
  refine b0h (v := ?_) rfl rfl (fun xq wx hS => ?_) ?_
  rotate_left 1
  ·(have hc := (HCV.out.keep (St.fr hS) id).cell (i := 0) rfl; clear hS; go_simp; with_reducible rfl)
  try simp only [clL]
  refine a0f rfl rfl rfl (fun _ => rfl) (cw 4 (elN m h3)) (fun wx hS => St.rangeL hS 12 rfl 0 _ dZl) Tryz.underlying66 rfl (by kernel_rfl) ?_
  try simp only [clL]
  refine a0n (v := ?_) rfl rfl (fun xq wx => ?_) ?_
  rotate_left 1
  ·(go_simp; with_reducible rfl)
  try simp only [clL]
  refine a0n (v := ?_) rfl rfl (fun xq wx => ?_) ?_
  rotate_left 1
  ·(go_simp; with_reducible rfl)
  try simp only [clL]
  refine a0n (v := ?_) rfl rfl (fun xq wx => ?_) ?_
  rotate_left 1
  ·(go_simp; with_reducible rfl)
  try simp only [clL]
  refine b0h (v := ?_) rfl rfl (fun xq wx hS => ?_) ?_
  rotate_left 1
  ·(have hc := (HCV.out.keep (St.fr hS) id).cell (i := 0) rfl; clear hS; go_simp; with_reducible rfl)
  try simp only [clL]
  refine a0f rfl rfl rfl (fun _ => rfl) (cw 4 (elN m v)) (fun wx hS => St.rangeL hS 13 rfl 0 _ dZl) Tryz.underlying66 rfl (by kernel_rfl) ?_
  try simp only [clL]
  refine a0f rfl rfl rfl (fun _ => rfl) (cw 4 (elN m v)) (fun wx hS => St.rangeL hS 13 rfl 0 _ dZl) Tryz.underlying66 rfl (by kernel_rfl) ?_
  try simp only [clL]
  refine a0d rfl rfl rfl Tryz.call151 (fun w hS hR => b0K m gp _ HOK.out (HPM.out.keep hS.fr id) rr r2 Hr2.out) (fun _ => rfl) ?_
  try simp only [clL]
  refine a0d rfl rfl rfl Tryz.call171 (fun w hS hR => d0w m gp _ HOK.out (HPM.out.keep hS.fr id) v v v2 Hv2.out) (fun _ => rfl) ?_
  try simp only [clL]
  refine a0d rfl rfl rfl Tryz.call171 (fun w hS hR => d0w m gp _ HOK.out (HPM.out.keep hS.fr id) h3 v2 t1 Ht1.out) (fun _ => rfl) ?_
  try simp only [clL]
  refine a0d rfl rfl rfl Tryz.call182 (fun w hS hR => f0H m gp _ HOK.out (HPM.out.keep hS.fr id) r2 t1 X HX.out) (fun _ => rfl) ?_
  try simp only [clL]
  refine b0m List.mem_cons_self fun g18 => ?_
  simp only [upd, reduceIte]
  refine a0y fun xq w25 st25 hR => ?_
  try dsimp only
  clear hR xq
  refine a0r rfl rfl ?_
  refine a0j st25 14 rfl rfl rfl rfl (by simp [a0a]) (by kernel_rfl) (a0g _ _) ?_
  intro w26 st26
  repeat (first | simp only [List.cons_append] at st26 | simp only [List.nil_append] at st26 | simp only [List.set_cons_succ] at st26 | simp only [List.set_cons_zero] at st26)
  clear st25
  try simp only [Act.put]
  refine a0k ?_
  refine NoPanic.normal ?_
  go_wp2_with fail
  refine wp_region_noPanic ?_
  refine a0h st26 42 [.t 0, .w 1, .w 2, .w 3, .t 4, .w 5, .w 6, .w 7, .t 8, .t 9, .w 10, .w 11, .w 12, .t 13, .t 14, .t 15, .w 18, .w 19, .w 20, .t 21, .t 22, .t 23, .w 26, .w 27, .w 28, .t 29, .t 30, .w 31, .w 32, .w 33, .t 34, .w 35, .t 36, .w 37, .t 38, .c 16, .c 17, .c 24, .c 25, .c 39, .c 40, .w 41] (.m 42 .nil) (by kernel_rfl) (by kernel_rfl) (fun _ _ _ _ _ h => h) ?_
  clear st26
  refine a0f rfl rfl rfl (fun _ => rfl) (cw 4 (elN m X)) (fun wx hS => St.rangeL hS 14 rfl 0 _ dZl) Tryz.underlying66 rfl (by kernel_rfl) ?_
  try simp only [clL]
  refine a0n (v := ?_) rfl rfl (fun xq wx => ?_) ?_
  rotate_left 1
  ·(go_simp; with_reducible rfl)
  try simp only [clL]
  refine a0n (v := ?_) rfl rfl (fun xq wx => ?_) ?_
  rotate_left 1
  ·(go_simp; with_reducible rfl)
  try simp only [clL]
  refine a0n (v := ?_) rfl rfl (fun xq wx => ?_) ?_
  rotate_left 1
  ·(go_simp; with_reducible rfl)
  try simp only [clL]
  refine b0h (v := ?_) rfl rfl (fun xq wx hS => ?_) ?_
  rotate_left 1
  ·(have hc := (HCV.out.keep (St.fr hS) id).cell (i := 0) rfl; clear hS; go_simp; with_reducible rfl)
  try simp only [clL]
  refine a0n (v := ?_) rfl rfl (fun xq wx => ?_) ?_
  rotate_left 1
  ·(go_simp; with_reducible rfl)
  try simp only [clL]
  refine a0n (v := ?_) rfl rfl (fun xq wx => ?_) ?_
  rotate_left 1
  ·(go_simp; with_reducible rfl)
  try simp only [clL]
  refine a0n (v := ?_) rfl rfl (fun xq wx => ?_) ?_
  rotate_left 1
  ·(go_simp; with_reducible rfl)
  try simp only [clL]
  refine b0h (v := ?_) rfl rfl (fun xq wx hS => ?_) ?_
  rotate_left 1
  ·(have hc := (HCV.out.keep (St.fr hS) id).cell (i := 0) rfl; clear hS; go_simp; with_reducible rfl)
  try simp only [clL]
  refine a0f rfl rfl rfl (fun _ => rfl) (cw 4 (elN m rr)) (fun wx hS => St.rangeL hS 10 rfl 0 _ dZl) Tryz.underlying66 rfl (by kernel_rfl) ?_
  try simp only [clL]
  refine a0n (v := ?_) rfl rfl (fun xq wx => ?_) ?_
  rotate_left 1
  ·(go_simp; with_reducible rfl)
  try simp only [clL]
  refine a0n (v := ?_) rfl rfl (fun xq wx => ?_) ?_
  rotate_left 1
  ·(go_simp; with_reducible rfl)
  try simp only [clL]
  refine a0n (v := ?_) rfl rfl (fun xq wx => ?_) ?_
  rotate_left 1
  ·(go_simp; with_reducible rfl)
  try simp only [clL]
  refine b0h (v := ?_) rfl rfl (fun xq wx hS => ?_) ?_
  rotate_left 1
  ·(have hc := (HCV.out.keep (St.fr hS) id).cell (i := 0) rfl; clear hS; go_simp; with_reducible rfl)
  try simp only [clL]
  refine a0f rfl rfl rfl (fun _ => rfl) (cw 4 (elN m v)) (fun wx hS => St.rangeL hS 13 rfl 0 _ dZl) Tryz.underlying66 rfl (by kernel_rfl) ?_
  try simp only [clL]
  refine a0f rfl rfl rfl (fun _ => rfl) (cw 4 (elN m X)) (fun wx hS => St.rangeL hS 14 rfl 0 _ dZl) Tryz.underlying66 rfl (by kernel_rfl) ?_
  try simp only [clL]
  refine a0n (v := ?_) rfl rfl (fun xq wx => ?_) ?_
  rotate_left 1
  ·(go_simp; with_reducible rfl)
  try simp only [clL]
  refine a0n (v := ?_) rfl rfl (fun xq wx => ?_) ?_
  rotate_left 1
  ·(go_simp; with_reducible rfl)
  try simp only [clL]
  refine a0n (v := ?_) rfl rfl (fun xq wx => ?_) ?_
  rotate_left 1
  ·(go_simp; with_reducible rfl)
  try simp only [clL]
  refine b0h (v := ?_) rfl rfl (fun xq wx hS => ?_) ?_
  rotate_left 1
  ·(have hc := (HCV.out.keep (St.fr hS) id).cell (i := 0) rfl; clear hS; go_simp; with_reducible rfl)
  try simp only [clL]
  refine a0f rfl rfl rfl (fun _ => rfl) (cw 4 (elN m s1)) (fun wx hS => St.rangeL hS 7 rfl 0 _ dZl) Tryz.underlying66 rfl (by kernel_rfl) ?_
  try simp only [clL]
  refine a0f rfl rfl rfl (fun _ => rfl) (cw 4 (elN m h3)) (fun wx hS => St.rangeL hS 12 rfl 0 _ dZl) Tryz.underlying66 rfl (by kernel_rfl) ?_
  try simp only [clL]
  refine a0n (v := ?_) rfl rfl (fun xq wx => ?_) ?_
  rotate_left 1
  ·(go_simp; with_reducible rfl)
  try simp only [clL]
  refine a0n (v := ?_) rfl rfl (fun xq wx => ?_) ?_
  rotate_left 1
  ·(go_simp; with_reducible rfl)
  try simp only [clL]
  refine a0n (v := ?_) rfl rfl (fun xq wx => ?_) ?_
  rotate_left 1
  ·(go_simp; with_reducible rfl)
  try simp only [clL]
  refine b0h (v := ?_) rfl rfl (fun xq wx hS => ?_) ?_
  rotate_left 1
  ·(have hc := (HCV.out.keep (St.fr hS) id).cell (i := 0) rfl; clear hS; go_simp; with_reducible rfl)
  try simp only [clL]
  refine a0f rfl rfl rfl (fun _ => rfl) (cw 4 (elN m hd)) (fun wx hS => St.rangeL hS 9 rfl 0 _ dZl) Tryz.underlying66 rfl (by kernel_rfl) ?_
  try simp only [clL]
  refine a0n (v := ?_) rfl rfl (fun xq wx => ?_) ?_
  rotate_left 1
  ·(go_simp; with_reducible rfl)
  try simp only [clL]
  refine a0n (v := ?_) rfl rfl (fun xq wx => ?_) ?_
  rotate_left 1
  ·(go_simp; with_reducible rfl)
  try simp only [clL]
  refine a0n (v := ?_) rfl rfl (fun xq wx => ?_) ?_
  rotate_left 1
  ·(go_simp; with_reducible rfl)
  try simp only [clL]
  refine b0h (v := ?_) rfl rfl (fun xq wx hS => ?_) ?_
  rotate_left 1
  ·(have hc := (HCV.out.keep (St.fr hS) id).cell (i := 0) rfl; clear hS; go_simp; with_reducible rfl)
  try simp only [clL]
  refine a0n (v := ?_) rfl rfl (fun xq wx => ?_) ?_
  rotate_left 1
  ·(go_simp; with_reducible rfl)
  try simp only [clL]
  refine a0f rfl rfl rfl (fun _ => rfl) (cw 4 (elN m z1)) (fun wx hS => St.rangeL hS 0 rfl 8 _ (f0E _ _ _)) Tryz.underlying66 rfl (by kernel_rfl) ?_
  try simp only [clL]
  refine a0n (v := ?_) rfl rfl (fun xq wx => ?_) ?_
  rotate_left 1
  ·(go_simp; with_reducible rfl)
  try simp only [clL]
  refine a0f rfl rfl rfl (fun _ => rfl) (cw 4 (elN m z2)) (fun wx hS => St.rangeL hS 1 rfl 8 _ (f0E _ _ _)) Tryz.underlying66 rfl (by kernel_rfl) ?_
  try simp only [clL]
  refine a0d rfl rfl rfl Tryz.call182 (fun w hS hR => f0H m gp _ HOK.out (HPM.out.keep hS.fr id) v X t2 Ht2.out) (fun _ => rfl) ?_
  try simp only [clL]
  refine a0d rfl rfl rfl Tryz.call152 (fun w hS hR => b0X m gp _ HOK.out (HPM.out.keep hS.fr id) rr t2 t3 Ht3.out) (fun _ => rfl) ?_
  try simp only [clL]
  refine a0d rfl rfl rfl Tryz.call152 (fun w hS hR => b0X m gp _ HOK.out (HPM.out.keep hS.fr id) s1 h3 t4 Ht4.out) (fun _ => rfl) ?_
  try simp only [clL]
  refine a0d rfl rfl rfl Tryz.call182 (fun w hS hR => f0H m gp _ HOK.out (HPM.out.keep hS.fr id) t3 t4 Y HY.out) (fun _ => rfl) ?_
  try simp only [clL]
  refine a0d rfl rfl rfl Tryz.call152 (fun w hS hR => b0X m gp _ HOK.out (HPM.out.keep hS.fr id) z1 z2 zz Hzz.out) (fun _ => rfl) ?_
  try simp only [clL]
  refine a0d rfl rfl rfl Tryz.call152 (fun w hS hR => b0X m gp _ HOK.out (HPM.out.keep hS.fr id) hd zz Z HZ.out) (fun _ => rfl) ?_
  try simp only [clL]
  refine a0n rfl rfl (fun _ => b0u rfl _ (e0E _ _ _)) ?_
  try simp only [clL]
  refine a0y fun xq w27 st27 hR => ?_
  try dsimp only
  clear hR xq
  refine a0r rfl rfl ?_
  refine a0j st27 2 rfl rfl rfl rfl (by simp [a0a]) (by kernel_rfl) (b0g _ _ _) ?_
  intro w28 st28
  try simp only [List.set_cons_zero, List.set_cons_succ] at st28
  clear st27
  try simp only [Act.put]
  refine a0k ?_
  refine NoPanic.normal ?_
  have hr := st28.at 2 rfl
  have hfr := st28.fr
  clear st28
  go_wp2_with fail
  exact bodyPost_ret (a0u rfl rfl hr Tryz.underlying117 rfl (by kernel_rfl)) rfl ⟨by rw [HHZ.out]; rfl, hfr⟩
end
section
open Go.RowKit Go.Mv Mvp Mvq
theorem t0z : kc 0 = 0 := by decide
theorem w0s (x1 y1 z1 x2 y2 z2 : Nat) (ho1 : onC (jN x1 y1 z1)) (ho2 : onC (jN x2 y2 z2)) :
  ∃ X Y Z, jN X Y Z = a0Y (jN x1 y1 z1) (jN x2 y2 z2) ∧ ∀ gc gp bx by_ wx, Has wx gc (e0S mP gp bx by_) 125 → Has wx gp (mdL mP) 187 → Calls Tryz.prog 159 #[.pointer (some ⟨gc, 0, none⟩), ptV mP x1 y1 z1, ptV mP x2 y2 z2] wx fun e w' => e = .returned (ptV mP X Y Z) ∧ Fr Nob wx w' := by
 cases hb1 : (z1 % mP.M == 0)
 case true =>
  have hz : kc z1 = 0 := by simpa using p0v _ d0d z1 _ hb1
  refine ⟨x2, y2, z2, ?_, fun gc gp bx by_ wx hcv hpm => p0d mP gc gp bx by_ wx c0l hcv hpm x1 y1 z1 x2 y2 z2 hb1⟩
  unfold jN
  rw [w0m hz]; rfl
 case false =>
  have hz1 : kc z1 ≠ 0 := by simpa using p0v _ d0d z1 _ hb1
  cases hb2 : (z2 % mP.M == 0)
  case true =>
   have hz : kc z2 = 0 := by simpa using p0v _ d0d z2 _ hb2
   refine ⟨x1, y1, z1, ?_, fun gc gp bx by_ wx hcv hpm => p0e mP gc gp bx by_ wx c0l hcv hpm x1 y1 z1 x2 y2 z2 hb1 hb2⟩
   unfold jN
   rw [w0m hz, b0H]
  case false =>
   have hz2 : kc z2 ≠ 0 := by simpa using p0v _ d0d z2 _ hb2
   obtain ⟨pp, epp⟩ : ∃ q, z1 * z1 = q := ⟨_, rfl⟩
   obtain ⟨qq, eqq⟩ : ∃ q, z2 * z2 = q := ⟨_, rfl⟩
   obtain ⟨u1, eu1⟩ : ∃ q, x1 * qq = q := ⟨_, rfl⟩
   obtain ⟨u2, eu2⟩ : ∃ q, x2 * pp = q := ⟨_, rfl⟩
   obtain ⟨q3, eq3⟩ : ∃ q, qq * z2 = q := ⟨_, rfl⟩
   obtain ⟨s1, es1⟩ : ∃ q, y1 * q3 = q := ⟨_, rfl⟩
   obtain ⟨p3, ep3⟩ : ∃ q, pp * z1 = q := ⟨_, rfl⟩
   obtain ⟨s2, es2⟩ : ∃ q, y2 * p3 = q := ⟨_, rfl⟩
   obtain ⟨hd, ehd⟩ : ∃ q, u2 + (mP.M - u1 % mP.M) = q := ⟨_, rfl⟩
   obtain ⟨rr, err⟩ : ∃ q, s2 + (mP.M - s1 % mP.M) = q := ⟨_, rfl⟩
   have ku1 : kc u1 = kc x1 * (kc z2 * kc z2) := by rw [← eu1, ← eqq, a0E, a0E]
   have ku2 : kc u2 = kc x2 * (kc z1 * kc z1) := by rw [← eu2, ← epp, a0E, a0E]
   have ks1 : kc s1 = kc y1 * (kc z2 * kc z2 * kc z2) := by rw [← es1, ← eq3, ← eqq, a0E, a0E, a0E]
   have ks2 : kc s2 = kc y2 * (kc z1 * kc z1 * kc z1) := by rw [← es2, ← ep3, ← epp, a0E, a0E, a0E]
   have khd : kc hd = kc u2 - kc u1 := by rw [← ehd, j0Q _ d0d]
   have krr : kc rr = kc s2 - kc s1 := by rw [← err, j0Q _ d0d]
   obtain ⟨DX, DY, DZ, hX, hcall⟩ := l0y x1 y1 z1 ho1
   have hcal := fun gc gp bx by_ wx (hcv : Has wx gc (e0S mP gp bx by_) 125) (hpm : Has wx gp (mdL mP) 187) => r0d mP gc gp bx by_ wx c0l hcv hpm x1 y1 z1 x2 y2 z2 hb1 hb2 pp qq u1 u2 q3 s1 p3 s2 hd rr _ _ _ _ _ _ _ _ _ _ _ _ _ DX DY DZ epp eqq eu1 eu2 eq3 es1 ep3 es2 ehd err rfl rfl rfl rfl rfl rfl rfl rfl rfl rfl rfl rfl rfl (fun _ _ wy hf2 => hcall gc gp bx by_ wy (hcv.keep hf2 id) (hpm.keep hf2 id))
   cases hh : (hd % mP.M == 0)
   case false =>
    have hn : kc hd ≠ 0 := by simpa using p0v _ d0d hd _ hh
    rw [hh] at hcal
    refine ⟨_, _, _, ?_, fun gc gp bx by_ wx hcv hpm => hcal gc gp bx by_ wx hcv hpm⟩
    have h := w0o ho1 ho2 hz1 hz2 (kc u1) (kc u2) (kc s1) (kc s2) (kc hd) (kc rr) _ _ _ _ ku1 ku2 ks1 ks2 khd krr hn rfl rfl rfl rfl
    unfold jN at *
    rw [← h]
    simp only [j0Q _ d0d, g0c, a0E]
   case true =>
    have h0 : kc hd = 0 := by simpa using p0v _ d0d hd _ hh
    have hs := w0p ho1 ho2 hz1 hz2 (by rw [← ku1, ← ku2, ← khd]; exact h0)
    rw [← ks1, ← ks2, ← krr] at hs
    cases hr : (rr % mP.M == 0)
    case true =>
     have hr0 : kc rr = 0 := by simpa using p0v _ d0d rr _ hr
     rw [hh, hr] at hcal
     refine ⟨DX, DY, DZ, ?_, fun gc gp bx by_ wx hcv hpm => hcal gc gp bx by_ wx hcv hpm⟩
     have e := hs.1 hr0
     unfold jN at *
     rw [hX, e]
    case false =>
     have hr0 : kc rr ≠ 0 := by simpa using p0v _ d0d rr _ hr
     rw [hh, hr] at hcal
     refine ⟨1, 1, 0, ?_, fun gc gp bx by_ wx hcv hpm => hcal gc gp bx by_ wx hcv hpm⟩
     have e := hs.2 hr0
     unfold jN at *
     rw [e, w0m t0z]
end
end Go.Proofs.YtemcankmggmgoaaGreat
namespace Mvq
open Mvp
structure FP (M : Nat) : Prop where
 prime : IsP M
 odd : M % 2 = 1
 big : 3 < M
theorem FP.inv {M a : Nat} (h : FP M) (ha : a < M) (h0 : a ≠ 0) : a * (a ^ (M - 2) % M) % M = 1 := by
 have hd : ¬ M ∣ a := fun hx => by have := Nat.le_of_dvd (by omega) hx; omega
 have hb := h.big
 rw [Nat.mul_mod_mod, Nat.mul_comm, ← Nat.pow_succ, show (M - 2).succ = M - 1 by omega]
 exact n0M h.prime hd
theorem FP.inv0 {M : Nat} (h : FP M) : 0 ^ (M - 2) % M = 0 := by
 have hb := h.big
 rw [Nat.zero_pow (by omega), Nat.zero_mod]
theorem y0u {M a w : Nat} (h : IsP M) (ha : a < M) (hw : w < M) (hs : w * w % M = a * a % M) : w = a ∨ w = (M - a) % M := by
 have key : ∀ a w, a < M → w < M → a ≤ w → w * w % M = a * a % M → w = a ∨ w = (M - a) % M := by
  intro a w ha hw hle hs
  have hd : M ∣ (w - a) * (w + a) := by
   have h1 : M ∣ w * w - a * a := Nat.dvd_of_mod_eq_zero (Nat.sub_mod_eq_zero_of_mod_eq hs)
   rwa [Nat.mul_self_sub_mul_self_eq, Nat.mul_comm] at h1
  rcases h.euclid hd with h1 | h1
  ·left
   rcases Nat.eq_zero_or_pos (w - a) with h2 | h2
   ·omega
   ·have := Nat.le_of_dvd h2 h1; omega
  ·obtain ⟨c, hc⟩ := h1
   have h1 := h.1
   have hc2 : c = 0 ∨ c = 1 := by
    rcases Nat.lt_or_ge c 2 with h2 | h2
    ·omega
    ·have : M * 2 ≤ M * c := Nat.mul_le_mul_left _ h2
     omega
   rcases hc2 with rfl | rfl
   ·left; omega
   ·rcases Nat.eq_zero_or_pos a with h3 | h3
    ·subst h3; omega
    ·right; rw [Nat.mod_eq_of_lt (by omega)]; omega
 rcases Nat.le_total a w with h1 | h1
 ·exact key a w ha hw h1 hs
 ·rcases key w a hw ha h1 hs.symm with h2 | h2
  ·exact Or.inl h2.symm
  ·rcases Nat.eq_zero_or_pos w with h3 | h3
   ·subst h3; rw [Nat.sub_zero, Nat.mod_self] at h2; exact Or.inl h2.symm
   ·rw [Nat.mod_eq_of_lt (by omega)] at h2
    right
    rw [Nat.mod_eq_of_lt (by omega)]; omega
theorem r0e {M a : Nat} (h : FP M) (h4 : M % 4 = 3) (_ : a < M) : b0T M (a * a % M) = true := by
 unfold b0T rtN
 rw [beq_iff_eq]
 have hb := h.big
 generalize hk : M / 4 + 1 = k
 have h2 : 4 * k = M + 1 := by omega
 rw [Nat.mul_mod ((a * a % M) ^ k), ← Nat.pow_mod, ← Nat.mul_mod, ← Nat.pow_two a, ← Nat.pow_mul, ← Nat.pow_add, show 2 * k + 2 * k = M + 1 by omega, Nat.mod_mod]
 rw [Nat.pow_succ, Nat.mul_mod, m0z h.prime, ← Nat.mul_mod, Nat.pow_two]
theorem l0A {M x : Nat} (h : FP M) : rtV M x % M % 2 = 0 := by
 unfold rtV
 have hb := h.big
 have ho := h.odd
 have hl : rtN M x % M < M := Nat.mod_lt _ (by omega)
 generalize hr : rtN M x % M = r at *
 split
 ·rename_i h1
  rw [Nat.mod_eq_of_lt (show M - r < M by omega)]; omega
 ·rw [hr]; omega
theorem m0F {M x : Nat} (h : FP M) (hx : x < M) (hr : b0T M x = true) : (rtV M x % M) * (rtV M x % M) % M = x := by
 unfold b0T at hr
 rw [beq_iff_eq, Nat.mul_mod, Nat.mod_eq_of_lt hx] at hr
 unfold rtV
 have hb := h.big
 have hl : rtN M x % M < M := Nat.mod_lt _ (by omega)
 generalize hq : rtN M x % M = r at *
 split
 ·rename_i h1
  rw [Nat.mod_eq_of_lt (show M - r < M by omega)]
  have e : (M - r) * (M - r) + M * (2 * r) = r * r + M * M := by
   obtain ⟨d, rfl⟩ : ∃ d, M = r + d := ⟨M - r, by omega⟩
   rw [Nat.add_sub_cancel_left]
   clear hb hl hq hr hx h
   grind
  have e2 : ((M - r) * (M - r) + M * (2 * r)) % M = (r * r + M * M) % M := by rw [e]
  rw [Nat.add_mul_mod_self_left, Nat.add_mul_mod_self_left, hr] at e2
  exact e2
 ·rw [hq, hr]
theorem z0v : FP pP := ⟨by rw [show pP = 115792089237316195423570985008687907853269984665640564039457584007908834671663 by decide]; exact u0T, by decide, by decide⟩
theorem A0b : FP pQ := ⟨by rw [show pQ = 115792089237316195423570985008687907852837564279074904382605163141518161494337 by decide]; exact y0h, by decide, by decide⟩
end Mvq
namespace Mvq
open Mvp
def b0Z : Pt → List UInt8
 | .O => List.replicate 33 0
 | .A x y => UInt8.ofNat (2 + y.val % 2) :: b0i x.val
theorem d0e (p : Pt) : (b0Z p).length = 33 := by
 cases p
 ·simp [b0Z]
 ·simp [b0Z, a0W]
def tlN (l : List UInt8) : Nat := beN (l.drop 1)
def e0G (n : Nat) : Nat := n * n * n + 7
def d0A (l : List UInt8) : Bool :=
 decide (l.length = 33) && (if l.getD 0 0 = 0 then tlN l == 0 else decide (l.getD 0 0 = 2 ∨ l.getD 0 0 = 3) && (decide (tlN l < fP) && b0T fP (e0G (tlN l))))
def e0L (l : List UInt8) : Pt :=
 if l.getD 0 0 = 0 then .O else .A (kc (tlN l)) (if l.getD 0 0 = 3 then - kc (rtV fP (e0G (tlN l))) else kc (rtV fP (e0G (tlN l))))
theorem t0A {a x : Nat} (h : (a * a % fP == x % fP) = true) : kc a * kc a = kc x := by
 rw [y0t] at h
 rw [← a0E]; simpa using h
theorem u0Y {x : Nat} (h : b0T fP x = true) : kc (rtV fP x) * kc (rtV fP x) = kc x := by
 unfold b0T at h
 have h1 := t0A h
 unfold rtV
 split
 ·rw [r0a, ← h1]; grind -lia -linarith
 ·exact h1
theorem r0f (n : Nat) : kc (e0G n) = kc n * kc n * kc n + 7 := by
 unfold e0G
 rw [g0c, a0E, a0E, show kc 7 = 7 by decide]
theorem y0v {n : Nat} (h : b0T fP (e0G n) = true) : onC (.A (kc n) (kc (rtV fP (e0G n)))) := by
 show kc (rtV fP (e0G n)) * kc (rtV fP (e0G n)) = kc n * kc n * kc n + 7
 rw [u0Y h, r0f]
theorem y0w {l : List UInt8} (h : d0A l = true) : onC (e0L l) := by
 unfold d0A at h
 unfold e0L
 by_cases h0 : l.getD 0 0 = 0
 ·rw [if_pos h0]; trivial
 ·rw [if_neg h0]
  simp only [Bool.and_eq_true, decide_eq_true_eq, if_neg h0] at h
  obtain ⟨-, -, -, h4⟩ := h
  have := y0v h4
  by_cases h3 : l.getD 0 0 = 3
  ·rw [if_pos h3]; exact c0h this
  ·rw [if_neg h3]; exact this
theorem e0H (n : Nat) : (kc n).val = n % fP := by simp [kc, Fin.ofNat]
theorem t0B (n : Nat) (h : n < fP) : beN (b0i n) = n := by
 have h2 : fP < 256 ^ 32 := by decide
 exact n0v n (Nat.lt_trans h h2)
theorem h0V (y : K) (h : y ≠ 0) : (-y).val % 2 = (1 + y.val) % 2 := by
 have h0 : y.val ≠ 0 := fun e => h (Fin.ext e)
 have h1 : (-y).val = fP - y.val := by
  rw [Fin.val_neg]
  have hne : ¬ y = 0 := h
  simp [hne]
 have h2 : fP % 2 = 1 := by decide
 have h3 := y.isLt
 omega
theorem r0g {a b : K} (h : a * a = b * b) : a = b ∨ a = -b := by
 have : (a - b) * (a + b) = 0 := by grind -lia -linarith
 rcases a0z this with e | e
 ·left; grind -lia -linarith
 ·right; grind -lia -linarith
theorem y0x {p : Pt} (h : onC p) : d0A (b0Z p) = true ∧ e0L (b0Z p) = p := by
 cases p with
 | O =>
  have : (b0Z .O) = List.replicate 33 0 := rfl
  rw [this]
  constructor
  ·decide
  ·unfold e0L; rw [if_pos (by decide)]
 | A x y =>
  have hc : y * y = x * x * x + 7 := h
  have hy := s0f hc
  have e0 : (b0Z (.A x y)).getD 0 0 = UInt8.ofNat (2 + y.val % 2) := rfl
  have e1 : tlN (b0Z (.A x y)) = x.val := by
   show beN (b0i x.val) = x.val
   exact t0B _ x.isLt
  have hl := d0e (.A x y)
  have hk : kc (e0G x.val) = y * y := by rw [r0f, i0M, hc]
  have hr : b0T fP (e0G x.val) = true := by
   have hh := r0e (M := fP) (a := y.val) (by have := z0v; rwa [q0Z] at this) (by decide) y.isLt
   have e : kc (e0G x.val) = kc (y.val * y.val % fP) := by rw [e0x, a0E, i0M, hk]
   have e2 : e0G x.val % fP = y.val * y.val % fP % fP := by
    have := y0t (e0G x.val) (y.val * y.val % fP)
    rw [e] at this
    simpa using this
   unfold b0T rtN at *
   rw [Nat.mul_mod, Nat.pow_mod, e2, ← Nat.pow_mod, ← Nat.mul_mod]
   simpa using hh
  have hev : (kc (rtV fP (e0G x.val))).val % 2 = 0 := by
   rw [e0H]
   exact l0A (by have := z0v; rwa [q0Z] at this)
  have hv := u0Y hr
  rw [hk] at hv
  generalize hz : kc (rtV fP (e0G x.val)) = z at *
  unfold d0A e0L
  rw [hl, e1, e0, hr, hz]
  have hx := x.isLt
  have hcase : y.val % 2 = 0 ∨ y.val % 2 = 1 := by omega
  have hzy : z = (if y.val % 2 = 0 then y else -y) := by
   rcases r0g hv with e | e
   ·subst e; rw [if_pos hev]
   ·have hp := h0V y hy
    rw [← e] at hp
    rw [if_neg (by omega)]; exact e
  have hlt : decide (x.val < fP) = true := decide_eq_true hx
  rcases hcase with e | e
  ·have hb : UInt8.ofNat (2 + y.val % 2) = 2 := by rw [e]; rfl
   rw [if_pos e] at hzy
   rw [hb, hzy, hlt]
   refine ⟨?_, ?_⟩
   ·rw [if_neg (by decide)]; decide
   ·rw [if_neg (by decide), if_neg (by decide), i0M]
  ·have hb : UInt8.ofNat (2 + y.val % 2) = 3 := by rw [e]; rfl
   rw [if_neg (by omega)] at hzy
   rw [hb, hzy, hlt]
   refine ⟨?_, ?_⟩
   ·rw [if_neg (by decide)]; decide
   ·have hn : - -y = y := by grind -lia -linarith
    rw [if_neg (by decide), if_pos rfl, i0M, hn]
end Mvq
namespace Go.Proofs.YtemcankmggmgoaaGreat
open Go.RowKit Go.Mv Mvp Mvq
def gXn : Nat := 0x79BE667EF9DCBBAC55A06295CE870B07029BFCDB2DCE28D959F2815B16F81798
def gYn : Nat := 0x483ADA7726A3C4655DA4FBFC0E1108A8FD17B448A68554199C47D08FFB10D4B8
structure PT where
 x : Nat
 y : Nat
 z : Nat
 on : onC (jN x y z)
def PT.pt (s : PT) : Pt := jN s.x s.y s.z
def PT.L (s : PT) : List Value := ptL mP s.x s.y s.z
theorem PT.len (s : PT) : s.L.length = 12 := a0S _ _ _ _
theorem PT.one (s : PT) : ∀ v ∈ s.L, v.oneCell' = true := b0g _ _ _
theorem PT.onP (s : PT) : onC s.pt := s.on
def Cv (w : World) (gc : Nat) : Prop := ∃ gp, Has w gc (e0S mP gp gXn gYn) 125 ∧ Has w gp (mdL mP) 187
theorem Cv.keep {w w' : World} {gc : Nat} (h : Cv w gc) (hf : Fr Nob w w') : Cv w' gc := by
 obtain ⟨gp, h1, h2⟩ := h
 exact ⟨gp, h1.keep hf id, h2.keep hf id⟩
theorem m0G (s : PT) : ∃ t : PT, t.pt = a0Y s.pt s.pt ∧ ∀ gc wx, Cv wx gc → Calls Tryz.prog 158 #[.pointer (some ⟨gc, 0, none⟩), (.agg s.L.toArray)] wx fun e w' => e = .returned (.agg t.L.toArray) ∧ Fr Nob wx w' := by
 obtain ⟨X, Y, Z, h1, h2⟩ := l0y s.x s.y s.z s.on
 refine ⟨⟨X, Y, Z, by rw [h1]; exact c0g s.on s.on⟩, h1, ?_⟩
 rintro gc wx ⟨gp, a, b⟩
 exact h2 gc gp gXn gYn wx a b
theorem m0H (s t : PT) : ∃ r : PT, r.pt = a0Y s.pt t.pt ∧ ∀ gc wx, Cv wx gc → Calls Tryz.prog 159 #[.pointer (some ⟨gc, 0, none⟩), (.agg s.L.toArray), (.agg t.L.toArray)] wx fun e w' => e = .returned (.agg r.L.toArray) ∧ Fr Nob wx w' := by
 obtain ⟨X, Y, Z, h1, h2⟩ := w0s s.x s.y s.z t.x t.y t.z s.on t.on
 refine ⟨⟨X, Y, Z, by rw [h1]; exact c0g s.on t.on⟩, h1, ?_⟩
 rintro gc wx ⟨gp, a, b⟩
 exact h2 gc gp gXn gYn wx a b
noncomputable def j0R (s : PT) : PT := Classical.choose (m0G s)
noncomputable def k0l (s t : PT) : PT := Classical.choose (m0H s t)
theorem j0S (s : PT) : (j0R s).pt = a0Y s.pt s.pt := (Classical.choose_spec (m0G s)).1
theorem r0h (s t : PT) : (k0l s t).pt = a0Y s.pt t.pt := (Classical.choose_spec (m0H s t)).1
theorem t0C (s : PT) (gc : Nat) (w : World) (h : Cv w gc) : Calls Tryz.prog 158 #[.pointer (some ⟨gc, 0, none⟩), (.agg s.L.toArray)] w fun e w' => e = .returned (.agg (j0R s).L.toArray) ∧ Fr Nob w w' :=
 (Classical.choose_spec (m0G s)).2 gc w h
theorem u0Z (s t : PT) (gc : Nat) (w : World) (h : Cv w gc) : Calls Tryz.prog 159 #[.pointer (some ⟨gc, 0, none⟩), (.agg s.L.toArray), (.agg t.L.toArray)] w fun e w' => e = .returned (.agg (k0l s t).L.toArray) ∧ Fr Nob w w' :=
 (Classical.choose_spec (m0H s t)).2 gc w h
theorem r0i : kc 1 = 1 := by decide
def noT : PT := ⟨1, 1, 0, by unfold jN; rw [w0m (by decide)]; trivial⟩
theorem r0j : noT.pt = .O := by show jN 1 1 0 = .O; unfold jN; rw [w0m (by decide)]
theorem l0B (gc : Nat) (w : World) (h : Cv w gc) : Calls Tryz.prog 157 #[.pointer (some ⟨gc, 0, none⟩)] w fun e w' => e = .returned (.agg noT.L.toArray) ∧ Fr Nob w w' := by
 obtain ⟨gp, a, b⟩ := h
 exact h0U mP gc gp gXn gYn w c0l a b
theorem v0a (x y : Nat) : jN x y 1 = .A (kc x) (kc y) := by
 unfold jN
 refine w0n (by decide) ?_ ?_
 ·rw [r0i]; grind -lia -linarith
 ·rw [r0i]; grind -lia -linarith
def r0k (x y : Nat) (h : onC (.A (kc x) (kc y))) : PT := ⟨x, y, 1, by rw [v0a]; exact h⟩
theorem m0I (x y : Nat) (h : onC (.A (kc x) (kc y))) : (r0k x y h).pt = .A (kc x) (kc y) := v0a x y
theorem j0T : onC (.A (kc gXn) (kc gYn)) := by
 show kc gYn * kc gYn = kc gXn * kc gXn * kc gXn + 7
 decide
def l0C : PT := r0k gXn gYn j0T
theorem t0D : l0C.pt = .A (kc gXn) (kc gYn) := m0I _ _ _
def PT.isO (s : PT) : Bool := s.z % mP.M == 0
theorem PT.isO_t {s : PT} (h : s.isO = true) : s.pt = .O := by
 have hz : kc s.z = 0 := by simpa using p0v _ d0d s.z _ h
 exact w0m hz
theorem PT.isO_f {s : PT} (h : s.isO = false) : kc s.z ≠ 0 := by simpa using p0v _ d0d s.z _ h
end Go.Proofs.YtemcankmggmgoaaGreat
namespace Go.Mv
open Go.RowKit
section
variable {P : Program} {w w0 : World} {ops : Array Oper} {rest : List Oper} {o : Oper} {a : Act} {Q : Exit → Act → World → Prop} {S : Nat → Prop} {bl : List (Nat × List Value × TypeId)} {K : Act → World → Prop}
theorem r0l (hst : St S w0 w bl) (i : Nat) {g : Nat} {L : List Value} {T : TypeId} (hb : bl[i]? = some (g, L, T)) {ty : TypeId} {x y : Operand} (hgd : o.guard = none) (ho : o.op = .store ty x y) {p : Nat} (hx : a.eval x = .pointer (some ⟨g, p, none⟩)) {cs : List Value} (hy : a.eval y = .agg cs.toArray)
  (L' : List Value) (hL : splice L p cs = L') (hn : p + cs.length ≤ L.length) (hi : (P.info? ty).map (·.size) = some cs.length) (h1 : ∀ v ∈ cs, v.oneCell' = true)
  (h : ∀ w', St S w0 w' (bl.set i (g, L', T)) → wpList P ops Q rest (a.put o.dst undef) w') : wpList P ops Q (o :: rest) a w :=
 e0l hgd ho hx hy (hst.at i hb) hn hi h1 fun w' hg hf _ => h w' (hst.put i hb hf (by rwa [hL] at hg))
theorem l0D (hst : St S w0 w bl) (i : Nat) {g : Nat} {L : List Value} {T : TypeId} (hb : bl[i]? = some (g, L, T)) {ty : TypeId} {x y : Operand} (ho : o.op = .store ty x y) {p : Nat} (hx : a.eval x = .pointer (some ⟨g, p, none⟩)) {cs : List Value} (hy : a.eval y = .agg cs.toArray)
  (L' : List Value) (hL : splice L p cs = L') (hn : p + cs.length ≤ L.length) (hi : (P.info? ty).map (·.size) = some cs.length) (h1 : ∀ v ∈ cs, v.oneCell' = true)
  (h : ∀ w', St S w0 w' (bl.set i (g, L', T)) → K (a.put o.dst undef) w') : o.wp P a w K Q := by
 obtain ⟨k1, k2, _⟩ := Has.setCells cs p L w (hst.at i hb) hn
 rw [hL] at k1
 exact wp_store_mid ty x y ho g p cs.toArray hx hy (by simpa using (hst.at i hb).there p cs.length hn) (by simpa using hi) (all_oneCell_toArray h1) (by simpa using h _ (hst.put i hb k2 k1))
theorem i0P (A B C : List Value) (n : Nat) (hA : A.length = n) (hC : C.length = B.length) : splice (A ++ B) n C = A ++ C := by
 unfold splice
 subst hA
 rw [List.take_left, List.drop_append, List.drop_of_length_le (by omega), List.drop_of_length_le (by omega)]
 simp
theorem p0f (A B D C : List Value) (n : Nat) (hA : A.length = n) (hC : C.length = B.length) : splice (A ++ (B ++ D)) n C = A ++ (C ++ D) := by
 unfold splice
 subst hA
 rw [List.take_left, List.drop_append, List.drop_of_length_le (by omega), List.nil_append, show A.length + C.length - A.length = B.length by omega, List.drop_left]
end
end Go.Mv
namespace Go.Proofs.YtemcankmggmgoaaGreat
open Go.RowKit Go.Mv Mvp Mvq
theorem OfI (m : Md) (hk : KindOf 0 m) (w : World) : Calls Tryz.prog 146 #[.int .i64 0] w fun e w' => ∃ g, e = .returned (.tuple #[.pointer (some ⟨g, 0, none⟩), .bool true]) ∧ w.heap.size ≤ g ∧ Has w' g (mdL m) 187 ∧ Fr Nob w w' := by
 cases hk
 go_enter Tryz.func146, Tryz.ntmps146
 go_wp2
 go_ret2
 exact ⟨_, rfl, Nat.le_refl _, by rw [← n0F]; exact Has.new w _ _, (Fr.refl Nob w).alloc _⟩
theorem t0E : Tryz.prog.built 111 [(0, .int .u64 6481385041966929816), (1, .int .u64 188021827762530521), (2, .int .u64 6170039885052185351), (3, .int .u64 8772561819708210092)] = some (cw 4 gXn).toArray := by kernel_rfl
theorem t0F : Tryz.prog.built 111 [(0, .int .u64 11261198710074299576), (1, .int .u64 18237243440184513561), (2, .int .u64 6747795201694173352), (3, .int .u64 5204712524664259685)] = some (cw 4 gYn).toArray := by kernel_rfl
theorem z0w : gXn < B64 ^ 4 := by decide
theorem z0x : gYn < B64 ^ 4 := by decide
theorem r0m (p : Option Addr) (a : Nat) : Tryz.prog.built 125 [(0, .pointer p), (1, i4 a)] = some ([Value.pointer p] ++ (cw 4 a ++ (cw 4 0 ++ (cw 4 0 ++ cw 4 0)))).toArray := by kernel_rfl
theorem p0g (p : Value) (a b c d : Nat) : splice ([p] ++ (cw 4 a ++ (cw 4 0 ++ (cw 4 0 ++ cw 4 0)))) 5 (cw 4 b ++ (cw 4 c ++ cw 4 d)) = [p] ++ (cw 4 a ++ (cw 4 b ++ (cw 4 c ++ cw 4 d))) := by
 have h := i0P ([p] ++ cw 4 a) (cw 4 0 ++ (cw 4 0 ++ cw 4 0)) (cw 4 b ++ (cw 4 c ++ cw 4 d)) 5 (by rw [List.length_append, a0a]; rfl) (by first | (simp only [a0a]; done) | (simp only [List.length_append, a0a]; done))
 rw [List.append_assoc, List.append_assoc] at h
 exact h
theorem w0t (p : Value) (a b c d : Nat) : ([p] ++ (cw 4 a ++ (cw 4 b ++ (cw 4 c ++ cw 4 d)))).length = 17 := by simp only [List.length_append, a0a]; rfl
attribute [local irreducible] a0F lw mix cw b0n b0v b0k a0M a0q beN b0C b0i b0z a0J a0R elN mdL b0o rtN rtV b0T gXn gYn
theorem t0G (m : Md) (hk : KindOf 0 m) (w : World) :
  Calls Tryz.prog 86 #[] w fun e w' => ∃ gc, e = .returned (.pointer (some ⟨gc, 0, none⟩)) ∧ w.heap.size ≤ gc ∧ (∃ gp, Has w' gc (e0S m gp gXn gYn) 125 ∧ Has w' gp (mdL m) 187) ∧ Fr Nob w w' := by
 have HK := qH hk
 have HOK := qH hk.ok
 have HGX := qH z0w
 have HGY := qH z0x
 clear hk
 have st0 := St.start Nob w
 go_enter Tryz.func86, Tryz.ntmps86
 go_wp2_with fail
 refine (OfI m HK.out _).mono ?_
 rintro e' w1 ⟨gp, rfl, hle, hm, hf1⟩
 have st1 : St Nob w w1 [(gp, mdL m, 187)] := st0.new hf1 hm hle
 clear st0 hf1 hm hle
 go_wp2_with fail
 refine (o0V m gp _ HOK.out (st1.at 0 rfl) 7 (by decide)).mono ?_
 rintro e' w2 ⟨rfl, hf2⟩
 have st2 := st1.keep hf2
 clear st1 hf2
 go_wp2_with (with_reducible refine wSk 13 ?_)
 refine b0y rfl rfl _ (r0m _ _) ?_
 go_wp2_with (with_reducible refine wSk 14 ?_)
 refine a0m st2 rfl rfl rfl ([Value.pointer (some ⟨gp, 0, none⟩)] ++ (cw 4 (elN m 7) ++ (cw 4 0 ++ (cw 4 0 ++ cw 4 0)))) rfl ?_
 intro gc w3 st3
 clear st2
 go_wp2_with (with_reducible refine wSk 16 ?_)
 refine b0y rfl rfl _ t0E ?_
 go_wp2_with fail
 refine (d0z m gp _ HOK.out (st3.at 0 rfl) gXn HGX.out).mono ?_
 rintro e' w4 ⟨rfl, hf4⟩
 have st4 := st3.keep hf4
 clear st3 hf4
 go_wp2_with (with_reducible refine wSk 19 ?_)
 refine b0y rfl rfl _ t0F ?_
 go_wp2_with fail
 refine (d0z m gp _ HOK.out (st4.at 0 rfl) gYn HGY.out).mono ?_
 rintro e' w5 ⟨rfl, hf5⟩
 have st5 := st4.keep hf5
 clear st4 hf5
 go_wp2_with (with_reducible refine wSk 4 ?_)
 refine a0c st5 rfl rfl (z := zAd) (by kernel_rfl) (cw 4 0) (by rw [a0e]; rfl) ?_
 intro g4 w6 st6
 clear st5
 go_wp2_with (with_reducible refine wSk 5 ?_)
 refine a0c st6 rfl rfl (z := zAd) (by kernel_rfl) (cw 4 0) (by rw [a0e]; rfl) ?_
 intro g5 w7 st7
 clear st6
 go_wp2_with (with_reducible refine wSn ?_)
 refine a0b st7 2 rfl rfl rfl rfl rfl (by first | (simp only [a0a]; done) | (simp only [List.length_append, a0a]; done)) (by first | (rw [a0a]; kernel_rfl) | (simp only [List.length_append, a0a]; kernel_rfl)) (a0g _ _) ?_
 intro w8 st8
 clear st7
 go_wp2_with (with_reducible refine wSn ?_)
 refine a0b st8 3 rfl rfl rfl rfl rfl (by first | (simp only [a0a]; done) | (simp only [List.length_append, a0a]; done)) (by first | (rw [a0a]; kernel_rfl) | (simp only [List.length_append, a0a]; kernel_rfl)) (a0g _ _) ?_
 intro w9 st9
 clear st8
 go_wp2_with fail
 refine wp_region_noPanic ?_
 refine a0o (fun wx => St Nob w wx [(gp, mdL m, 187), (gc, [Value.pointer (some ⟨gp, 0, none⟩)] ++ (cw 4 (elN m 7) ++ (cw 4 0 ++ (cw 4 0 ++ cw 4 0))), 125), (g4, cw 4 (elN m gXn), 66), (g5, cw 4 (elN m gYn), 66)]) 11 (.w 0 (.t 1 (.t 2 (.w 3 (.w 4 (.w 5 (.t 6 (.r 7 (.w 8 (.w 9 (.w 10 (.m 11 .nil)))))))))))) (by kernel_rfl) (by kernel_rfl) st9.drew (fun _ _ _ _ _ h => h) ?_
 have hd9 := st9.drew
 clear st9
 refine a0l (v := ?_) rfl rfl (fun wx => ?_) ?_
 rotate_left 1
 ·(go_simp; with_reducible rfl)
 try simp only [clL]
 refine a0s rfl rfl rfl rfl (cw 4 (elN m gXn)) (fun wx hS => St.rangeL hS 2 rfl 0 _ dZl) Tryz.underlying66 rfl (by first | (rw [a0a]; kernel_rfl) | (simp only [List.length_append, a0a]; kernel_rfl)) ?_
 try simp only [clL]
 refine a0s rfl rfl rfl rfl (cw 4 (elN m gYn)) (fun wx hS => St.rangeL hS 3 rfl 0 _ dZl) Tryz.underlying66 rfl (by first | (rw [a0a]; kernel_rfl) | (simp only [List.length_append, a0a]; kernel_rfl)) ?_
 try simp only [clL]
 refine a0l (v := ?_) rfl rfl (fun wx => ?_) ?_
 rotate_left 1
 ·(go_simp; with_reducible rfl)
 try simp only [clL]
 refine a0l (v := ?_) rfl rfl (fun wx => ?_) ?_
 rotate_left 1
 ·(go_simp; with_reducible rfl)
 try simp only [clL]
 refine a0l (v := ?_) rfl rfl (fun wx => ?_) ?_
 rotate_left 1
 ·(go_simp; with_reducible rfl)
 try simp only [clL]
 refine d0v (v := ?_) rfl rfl (fun wx hS => ?_) ?_
 rotate_left 1
 ·(have hc := (St.at hS 1 rfl).cell (i := 0) rfl; clear hS; go_simp; with_reducible rfl)
 try simp only [clL]
 refine a0A rfl rfl ?_
 go_simp
 refine (e0a m gp _ HOK.out (hd9.at 0 rfl)).mono ?_
 rintro e' w10 ⟨rfl, hf10⟩
 have st10 := hd9.keep hf10
 clear hf10
 clear hd9
 refine ⟨st10, ?_⟩
 try simp only [clL]
 refine a0l rfl rfl (b0u rfl _ (e0E _ _ _)) ?_
 try simp only [clL]
 refine a0l (v := ?_) rfl rfl (fun wx => ?_) ?_
 rotate_left 1
 ·(go_simp; with_reducible rfl)
 try simp only [clL]
 refine a0l (v := ?_) rfl rfl (fun wx => ?_) ?_
 rotate_left 1
 ·(go_simp; with_reducible rfl)
 try simp only [clL]
 refine a0r rfl rfl ?_
 refine l0D st10 1 rfl rfl rfl rfl _ (p0g _ _ _ _ _) (by rw [w0t]; simp only [List.length_append, a0a]; decide) (by first | (rw [a0a]; kernel_rfl) | (simp only [List.length_append, a0a]; kernel_rfl)) (b0g _ _ _) ?_
 intro w11 st11
 have st11 : St Nob w w11 [(gp, mdL m, 187), (gc, [Value.pointer (some ⟨gp, 0, none⟩)] ++ (cw 4 (elN m 7) ++ (cw 4 (elN m gXn) ++ (cw 4 (elN m gYn) ++ cw 4 (elN m 1)))), 125), (g4, cw 4 (elN m gXn), 66), (g5, cw 4 (elN m gYn), 66)] := st11
 clear st10
 try simp only [Act.put]
 refine a0k ?_
 refine NoPanic.normal ?_
 have hown := st11.own _ (List.mem_of_getElem? (i := 1) rfl)
 have hc := st11.at 1 rfl
 have hm := st11.at 0 rfl
 have hfr := st11.fr
 clear st11
 have hge := hown.resolve_right (fun h => h)
 clear hown
 have HGE := qH hge
 clear hge
 go_wp2_with fail
 go_ret
 exact ⟨gc, rfl, HGE.out, ⟨gp, hc, hm⟩, hfr⟩
theorem h0W (w : World) : Calls Tryz.prog 86 #[] w fun e w' => ∃ gc, e = .returned (.pointer (some ⟨gc, 0, none⟩)) ∧ w.heap.size ≤ gc ∧ Cv w' gc ∧ Fr Nob w w' := t0G mP .zero w
end Go.Proofs.YtemcankmggmgoaaGreat
namespace Go.Mv
open Go.RowKit
theorem f0M (f : Nat → List Value) (k : Nat) (hl : ∀ i, (f i).length = k) : ∀ n, ((List.range n).flatMap f).length = k * n
 | 0 => by simp
 | n + 1 => by rw [List.range_succ, List.flatMap_append, List.length_append, f0M f k hl n]; simp [hl, Nat.mul_succ]
theorem g0d (f : Nat → List Value) (n i : Nat) (h : i < n) : (List.range n).flatMap f = (List.range i).flatMap f ++ (f i ++ (List.range' (i + 1) (n - i - 1)).flatMap f) := by
 have e : List.range n = List.range i ++ i :: List.range' (i + 1) (n - i - 1) := by
  rw [List.range_eq_range', List.range_eq_range']
  have h1 : n = i + (n - i - 1 + 1) := by omega
  conv => lhs; rw [h1]
  rw [← List.range'_append_1, List.range'_succ]
  simp
 rw [e]; simp
theorem n0Q (f : Nat → List Value) (k : Nat) (hl : ∀ i, (f i).length = k) (n i : Nat) (h : i < n) : (((List.range n).flatMap f).drop (i * k)).take (f i).length = f i := by
 rw [g0d f n i h, List.drop_append_of_le_length (by rw [f0M f k hl, Nat.mul_comm]; omega), List.drop_of_length_le (by rw [f0M f k hl, Nat.mul_comm]; omega), List.nil_append, List.take_left]
theorem t0H (f f' : Nat → List Value) (k : Nat) (hl : ∀ i, (f i).length = k) (n i : Nat) (h : i < n) (hi : (f' i).length = k) (hv : ∀ j, j ≠ i → f' j = f j) : splice ((List.range n).flatMap f) (i * k) (f' i) = (List.range n).flatMap f' := by
 rw [g0d f n i h, g0d f' n i h]
 have e1 : (List.range i).flatMap f' = (List.range i).flatMap f := by
  rw [List.flatMap_def, List.flatMap_def]
  congr 1
  exact List.map_congr_left fun j hj => hv j (by have := List.mem_range.1 hj; omega)
 have e2 : (List.range' (i + 1) (n - i - 1)).flatMap f' = (List.range' (i + 1) (n - i - 1)).flatMap f := by
  rw [List.flatMap_def, List.flatMap_def]
  congr 1
  exact List.map_congr_left fun j hj => hv j (by have := List.mem_range'_1.1 hj; omega)
 rw [e1, e2]
 exact p0f _ _ _ _ _ (by rw [f0M f k hl, Nat.mul_comm]) (by rw [hi, hl])
end Go.Mv
namespace Go.Proofs.YtemcankmggmgoaaGreat
open Go.RowKit Go.Mv Mvp Mvq
noncomputable def e0M (s : PT) : Nat → PT
 | 0 => noT
 | i + 1 => k0l (e0M s i) s
theorem r0n (s : PT) : ∀ i, (e0M s i).pt = b0b i s.pt
 | 0 => r0j
 | i + 1 => by
  show (k0l (e0M s i) s).pt = a0Y (b0b i s.pt) s.pt
  rw [r0h, r0n s i]
theorem y0y (s : PT) (k gc : Nat) (w : World) (h : Cv w gc) : Calls Tryz.prog 159 #[.pointer (some ⟨gc, 0, none⟩), (.agg (e0M s k).L.toArray), (.agg s.L.toArray)] w fun e w' => e = .returned (.agg (e0M s (k + 1)).L.toArray) ∧ Fr Nob w w' := u0Z (e0M s k) s gc w h
noncomputable def tbR (s : PT) (j i : Nat) : List Value := if i < j then (e0M s i).L else cw 12 0
noncomputable def tbL (s : PT) (j : Nat) : List Value := (List.range 16).flatMap (tbR s j)
theorem j0U (s : PT) (j i : Nat) : (tbR s j i).length = 12 := by
 unfold tbR; split
 ·exact PT.len _
 ·exact a0a _ _
theorem c0z (s : PT) (j : Nat) : (tbL s j).length = 192 := f0M _ 12 (j0U s j) 16
theorem w0u (s : PT) (j : Nat) : ∀ v ∈ tbL s j, v.oneCell' = true := by
 intro v hv
 unfold tbL at hv
 obtain ⟨i, -, hi⟩ := List.mem_flatMap.1 hv
 unfold tbR at hi
 split at hi
 ·exact PT.one _ v hi
 ·exact a0g _ _ v hi
theorem t0I (s : PT) : (Value.agg (List.replicate 192 (Value.int .u64 0)).toArray).cells.toList = tbL s 0 := by
 unfold tbL tbR
 simp only [Nat.not_lt_zero, if_false, a0e]
 rfl
theorem r0o (s : PT) (j : Nat) (h : j < 16) : splice (tbL s j) (j * 12) (e0M s j).L = tbL s (j + 1) := by
 have h0 := t0H (tbR s j) (tbR s (j + 1)) 12 (j0U s j) 16 j h (j0U s _ _) (fun i hi => by unfold tbR; by_cases hc : i < j; rw [if_pos hc, if_pos (by omega)]; rw [if_neg hc, if_neg (by omega)])
 have e : tbR s (j + 1) j = (e0M s j).L := by unfold tbR; rw [if_pos (by omega)]
 rw [e] at h0
 exact h0
theorem t0J (s : PT) : splice (tbL s 0) 0 noT.L = tbL s (0 + 1) := r0o s 0 (by omega)
theorem r0p (s : PT) (j i : Nat) (h : i < j) (hj : j ≤ 16) : ((tbL s j).drop (i * 12)).take (e0M s i).L.length = (e0M s i).L := by
 have h0 := n0Q (tbR s j) 12 (j0U s j) 16 i (by omega)
 have e : tbR s j i = (e0M s i).L := by unfold tbR; rw [if_pos h]
 rw [e] at h0
 exact h0
theorem t0K : (Tryz.prog.info? 143).map (·.zero) = some (some (.agg (List.replicate 192 (.int .u64 0)).toArray)) := by kernel_rfl
attribute [local irreducible] a0F lw mix cw b0n b0v b0k a0M a0q beN b0C b0i b0z a0J a0R elN mdL b0o rtN rtV b0T gXn gYn PT.L k0l j0R e0M tbL
theorem m0J (s : PT) (gc : Nat) (w : World) (h : Cv w gc) :
  Calls Tryz.prog 99 #[.pointer (some ⟨gc, 0, none⟩), .agg s.L.toArray] w fun e w' => e = .returned (.agg (tbL s 16).toArray) ∧ Fr Nob w w' := by
 have HCV := qH h
 clear h
 have st0 := St.start Nob w
 go_enter Tryz.func99, Tryz.ntmps99
 go_wp2_with (with_reducible refine wSk 3 ?_)
 refine a0m st0 rfl rfl rfl (s.L) rfl ?_
 intro g3 w1 st1
 clear st0
 go_wp2_with (with_reducible refine wSk 4 ?_)
 refine a0c st1 rfl rfl t0K (tbL s 0) (t0I s) ?_
 intro g4 w2 st2
 clear st1
 go_wp2_with fail
 refine (l0B gc _ (HCV.out.keep st2.fr)).mono ?_
 rintro e' w3 ⟨rfl, hf3⟩
 have st3 := st2.keep hf3
 clear st2 hf3
 go_wp2_with (with_reducible refine wSn ?_)
 refine r0l st3 1 rfl rfl rfl rfl rfl (tbL s (0 + 1)) (t0J s) (by rw [c0z, PT.len]; omega) (by first | (rw [a0a]; kernel_rfl) | (simp only [PT.len]; kernel_rfl)) (PT.one _) ?_
 intro w4 st4
 have st4 : St Nob w w4 [(g3, s.L, 117), (g4, tbL s (0 + 1), 143)] := st4
 clear st3
 go_wp2
 go_loopw [5] (fun i wr => ∃ k : Nat, k ≤ 15 ∧ i = .int .i64 ((k : Int) + 1) ∧ St Nob w wr [(g3, s.L, 117), (g4, tbL s (k + 1), 143)]) (fun i _ => (16 - intOf i).toNat)
 case atStart => exact ⟨0, by omega, rfl, st4⟩
 case round =>
  obtain ⟨k, hk, rfl, st⟩ := hrel
  clear st4
  rcases Nat.lt_or_ge k 15 with hk2 | hk2
  ·have hc : ((k : Int) + 1 < 16) := by omega
   have hlt : (k : Int) + 1 < 9223372036854775808 := by omega
   have hl2 : (k : Int) < 9223372036854775808 := by omega
   have hl3 : (k : Int) < 16 := by omega
   have hl4 : IntKind.i64.wrap (k : Int) = (k : Int) := IntWalk.i64_in _ (by omega)
   have hl5 : (0 : Int) ≤ (k : Int) := by omega
   have hl6 : (0 : Int) ≤ (k : Int) + 1 := by omega
   go_wp2_with fail
   refine wp_region_noPanic ?_
   refine a0o (fun wx => St Nob w wx [(g3, s.L, 117), (g4, tbL s (k + 1), 143)]) 9 (.w 0 (.w 1 (.w 2 (.w 3 (.w 4 (.t 5 (.t 6 (.r 7 (.w 8 (.m 9 .nil)))))))))) (by kernel_rfl) (by kernel_rfl) st.drew (fun _ _ _ _ _ h => h) ?_
   have hd4 := st.drew
   clear st
   refine a0l (v := ?_) rfl rfl (fun wx => ?_) ?_
   rotate_left 1
   ·(go_simp; with_reducible rfl)
   try simp only [clL]
   refine a0l (v := ?_) rfl rfl (fun wx => ?_) ?_
   rotate_left 1
   ·(go_simp; with_reducible rfl)
   try simp only [clL]
   refine a0l (v := ?_) rfl rfl (fun wx => ?_) ?_
   rotate_left 1
   ·(go_simp; with_reducible rfl)
   try simp only [clL]
   refine a0l (v := ?_) rfl rfl (fun wx => ?_) ?_
   rotate_left 1
   ·(go_simp; with_reducible rfl)
   try simp only [clL]
   refine a0l (v := ?_) rfl rfl (fun wx => ?_) ?_
   rotate_left 1
   ·(go_simp; with_reducible rfl)
   try simp only [clL]
   refine a0s rfl rfl rfl rfl ((e0M s k).L) (fun wx hS => St.rangeL hS 1 rfl (k * 12) _ (r0p s (k + 1) k (by omega) (by omega))) Tryz.underlying117 rfl (by first | (rw [a0a]; kernel_rfl) | (simp only [PT.len]; kernel_rfl)) ?_
   try simp only [clL]
   refine a0s rfl rfl rfl rfl (s.L) (fun wx hS => St.rangeL hS 0 rfl 0 _ dZl) Tryz.underlying117 rfl (by first | (rw [a0a]; kernel_rfl) | (simp only [PT.len]; kernel_rfl)) ?_
   try simp only [clL]
   refine a0A rfl rfl ?_
   go_simp
   refine (y0y s k gc _ (HCV.out.keep hd4.fr)).mono ?_
   rintro e' w5 ⟨rfl, hf5⟩
   have st5 := hd4.keep hf5
   clear hf5
   clear hd4
   refine ⟨st5, ?_⟩
   try simp only [clL]
   refine a0l (v := ?_) rfl rfl (fun wx => ?_) ?_
   rotate_left 1
   ·(go_simp; with_reducible rfl)
   try simp only [clL]
   refine a0r rfl rfl ?_
   refine l0D st5 1 rfl rfl rfl rfl (tbL s ((k + 1) + 1)) (r0o s (k + 1) (by omega)) (by rw [c0z, PT.len]; omega) (by first | (rw [a0a]; kernel_rfl) | (simp only [PT.len]; kernel_rfl)) (PT.one _) ?_
   intro w6 st6
   have st6 : St Nob w w6 [(g3, s.L, 117), (g4, tbL s ((k + 1) + 1), 143)] := st6
   clear st5
   try simp only [Act.put]
   refine a0k ?_
   refine NoPanic.normal ?_
   go_wp2
   go_roundw
   case rel => exact ⟨k + 1, by omega, by simp, st6⟩
   case measure => simp [intOf]; omega
  ·have hk3 : k = 15 := by omega
   subst hk3
   have hc : ¬ (((15 : Nat) : Int) + 1 < 16) := by omega
   go_wp2_with (with_reducible refine wSk 22 ?_)
   refine a0p st 1 rfl rfl rfl Tryz.underlying143 rfl rfl (by first | (rw [a0a]; kernel_rfl) | (simp only [c0z]; kernel_rfl)) ?_
   go_wp2_with (with_reducible refine wSn ?_)
   refine a0b st 1 rfl rfl rfl rfl rfl (by first | (simp only []; done) | (simp only [List.length_append, a0a, PT.len, c0z]; done)) (by first | (rw [a0a]; kernel_rfl) | (simp only [c0z]; kernel_rfl)) (w0u _ _) ?_
   intro w5 st5
   clear st
   have hr := st5.at 1 rfl
   have hfr := st5.fr
   clear st5
   go_wp2_with fail
   exact bodyPost_ret (a0t rfl rfl hr Tryz.underlying143 (by first | (rw [a0a]; kernel_rfl) | (simp only [c0z]; kernel_rfl))) rfl ⟨rfl, hfr⟩
end Go.Proofs.YtemcankmggmgoaaGreat
namespace Mvp
theorem t0L (n j : Nat) : lw n (4 * j / 64) / 2 ^ (4 * j % 64) % 16 = n / 16 ^ j % 16 := by
 have h64 : (18446744073709551616 : Nat) = 2 ^ (4 * j % 64) * 2 ^ (64 - 4 * j % 64) := by
  rw [← Nat.pow_add, show 4 * j % 64 + (64 - 4 * j % 64) = 64 by omega]
 have hd : (16 : Nat) ∣ 2 ^ (64 - 4 * j % 64) := by
  have : 64 - 4 * j % 64 = 4 + (60 - 4 * j % 64) := by omega
  rw [this, Nat.pow_add]
  exact Nat.dvd_mul_right _ _
 have hp : B64 ^ (4 * j / 64) * 2 ^ (4 * j % 64) = 16 ^ j := by
  have h16 : (16 : Nat) ^ j = 2 ^ (4 * j) := by rw [Nat.pow_mul]
  have hB : B64 ^ (4 * j / 64) = 2 ^ (64 * (4 * j / 64)) := by rw [Nat.pow_mul]
  rw [h16, hB, ← Nat.pow_add, Nat.div_add_mod]
 show n / B64 ^ (4 * j / 64) % 18446744073709551616 / 2 ^ (4 * j % 64) % 16 = _
 rw [h64, Nat.mod_mul_right_div_self, Nat.mod_mod_of_dvd _ hd, Nat.div_div_eq_div_mul, hp]
end Mvp
namespace Go.Mv
open Go.RowKit
theorem w0v {L R : List Value} {a n : Nat} (h : (L.drop a).take n = R) (b : Nat) (cs : List Value) (hb : b + cs.length ≤ n) (hc : (R.drop b).take cs.length = cs) : (L.drop (a + b)).take cs.length = cs := by
 rw [← h, List.drop_take, List.drop_drop, List.take_take, Nat.min_eq_left (by omega)] at hc
 exact hc
end Go.Mv
namespace Go.Proofs.YtemcankmggmgoaaGreat
open Go.RowKit Go.Mv Mvp Mvq
noncomputable def tmR (t : Nat × PT) : List Value := cw 4 t.1 ++ tbL t.2 16
theorem c0U (t : Nat × PT) : (tmR t).length = 196 := by unfold tmR; rw [List.length_append, a0a, c0z]
theorem t0M (t : Nat × PT) (k : Nat) (h : k < 4) : (tmR t)[k]? = some (.int .u64 (lw t.1 k)) := by
 unfold tmR
 rw [List.getElem?_append_left (by rw [a0a]; exact h)]
 exact a0D 4 t.1 k h
theorem w0w (t : Nat × PT) (d : Nat) (h : d < 16) : ((tmR t).drop (4 + d * 12)).take (e0M t.2 d).L.length = (e0M t.2 d).L := by
 have e : (tmR t).drop (4 + d * 12) = (tbL t.2 16).drop (d * 12) := by
  unfold tmR
  rw [List.drop_append, List.drop_of_length_le (by rw [a0a]; omega), List.nil_append, a0a, show 4 + d * 12 - 4 = d * 12 by omega]
 rw [e]
 exact r0p t.2 16 d h (Nat.le_refl _)
def g0R (l : List (Nat × PT)) (k : Nat) : Nat × PT := l.getD k (0, noT)
noncomputable def tmL (l : List (Nat × PT)) : List Value := (List.range l.length).flatMap fun k => tmR (g0R l k)
theorem r0q (l : List (Nat × PT)) (k : Nat) (h : k < l.length) : ((tmL l).drop (k * 196)).take (tmR (g0R l k)).length = tmR (g0R l k) :=
 n0Q (fun k => tmR (g0R l k)) 196 (fun _ => c0U _) l.length k h
theorem w0x (l : List (Nat × PT)) (k d : Nat) (h : k < l.length) (hd : d < 16) : ((tmL l).drop (k * 196 + (4 + d * 12))).take (e0M (g0R l k).2 d).L.length = (e0M (g0R l k).2 d).L := by
 refine w0v (r0q l k h) _ _ ?_ (w0w _ d hd)
 rw [c0U, PT.len]; omega
noncomputable def dbN (o : PT) : Nat → PT
 | 0 => o
 | q + 1 => j0R (dbN o q)
theorem z0y (o : PT) (q gc : Nat) (w : World) (h : Cv w gc) : Calls Tryz.prog 158 #[.pointer (some ⟨gc, 0, none⟩), (.agg (dbN o q).L.toArray)] w fun e w' => e = .returned (.agg (dbN o (q + 1)).L.toArray) ∧ Fr Nob w w' := t0C (dbN o q) gc w h
theorem y0z (o : PT) (_ : o.pt = o.pt) : (dbN o 4).pt = b0b 16 o.pt := by
 show (j0R (j0R (j0R (j0R o)))).pt = _
 rw [j0S, j0S, j0S, j0S, w0r o.onP]
noncomputable def g0S (l : List (Nat × PT)) (i : Nat) (o : PT) : Nat → PT
 | 0 => o
 | k + 1 => k0l (g0S l i o k) (e0M (g0R l k).2 (dig (63 - i) (g0R l k).1))
theorem y0A (l : List (Nat × PT)) (i : Nat) (o : PT) (k d : Nat) (hd : dig (63 - i) (g0R l k).1 = d) (gc : Nat) (w : World) (h : Cv w gc) : Calls Tryz.prog 159 #[.pointer (some ⟨gc, 0, none⟩), (.agg (g0S l i o k).L.toArray), (.agg (e0M (g0R l k).2 d).L.toArray)] w fun e w' => e = .returned (.agg (g0S l i o (k + 1)).L.toArray) ∧ Fr Nob w w' := by
 subst hd
 exact u0Z (g0S l i o k) _ gc w h
noncomputable def g0v (l : List (Nat × PT)) : Nat → PT
 | 0 => noT
 | i + 1 => g0S l i (dbN (g0v l i) 4) l.length
theorem r0r (l : List (Nat × PT)) (i : Nat) : g0S l i (dbN (g0v l i) 4) l.length = g0v l (i + 1) := rfl
theorem r0s (l : List (Nat × PT)) : noT = g0v l 0 := rfl
theorem t0N (o : PT) : dbN o 0 = o := rfl
theorem r0t (l : List (Nat × PT)) (i : Nat) (o : PT) : g0S l i o 0 = o := rfl
noncomputable def j0V (l : List (Nat × PT)) : PT := g0v l 64
theorem w0y (l : List (Nat × PT)) : g0v l 64 = j0V l := rfl
attribute [local irreducible] a0F lw mix cw b0n b0v b0k a0M a0q beN b0C b0i b0z a0J a0R elN mdL b0o rtN rtV b0T gXn gYn PT.L k0l j0R e0M tbL tmR tmL dbN g0S g0v j0V dig
theorem w0z (t : Nat × PT) (i d : Nat) (hi : i < 64) (hd : dig (63 - i) t.1 = d) (w : World) :
  Calls Tryz.prog 160 #[.agg (tmR t).toArray, .int .i64 (i : Int)] w fun e w' => e = .returned (.int .u64 (d : Int)) ∧ Fr Nob w w' := by
 obtain ⟨a, ha⟩ : ∃ a, 252 - 4 * i = a := ⟨_, rfl⟩
 have ha2 : 4 * (63 - i) = a := by omega
 have hdd : lw t.1 (a / 64) / 2 ^ (a % 64) % 16 = d := by
  have := t0L t.1 (63 - i)
  rw [ha2] at this
  rw [this]
  unfold dig at hd
  exact hd
 have HD := qH hdd
 clear hd hdd
 have hal : a < 256 := by omega
 have haI : (256 : Int) - 4 * ((i : Int) + 1) = (a : Int) := by omega
 have st0 := St.start Nob w
 go_enter Tryz.func160, Tryz.ntmps160
 go_wp2_with (with_reducible refine wSk 2 ?_)
 refine a0m st0 rfl rfl rfl (tmR t) rfl ?_
 intro g1 w1 st1
 clear st0
 have c1 := (st1.at 0 rfl).cell (t0M t (a / 64) (by omega))
 have hlo : (0 : Int) ≤ (a : Int) / 64 ∧ (a : Int) / 64 < 4 := by omega
 have hlo2 : (0 : Int) ≤ (a : Int) % 64 ∧ (a : Int) % 64 < 64 := by omega
 have e4 : ((a : Int) / 64).toNat = a / 64 := by omega
 have e5 : ((a : Int) % 64).toNat = a % 64 := by omega
 have hiI : (i : Int) < 64 := by omega
 have e6 : IntKind.i64.wrap ((i : Int) + 1) = (i : Int) + 1 := IntWalk.i64_in _ (by omega)
 have e7 : IntKind.i64.wrap (4 * ((i : Int) + 1)) = 4 * ((i : Int) + 1) := IntWalk.i64_in _ (by omega)
 have e8 : IntKind.i64.wrap (256 - 4 * ((i : Int) + 1)) = (a : Int) := by rw [haI]; exact IntWalk.i64_in _ (by omega)
 have hfr := st1.fr
 clear st1 haI
 have hw : lw t.1 (a / 64) / 2 ^ (a % 64) < 18446744073709551616 := Nat.lt_of_le_of_lt (Nat.div_le_self _ _) (c0C _ _)
 have hb := bits_and_u64_nat (lw t.1 (a / 64) / 2 ^ (a % 64)) 15 hw (by omega)
 rw [show (15 : Nat) = 2 ^ 4 - 1 by decide, Nat.and_two_pow_sub_one_eq_mod, show (2 : Nat) ^ 4 - 1 = 15 by decide, show (2 : Nat) ^ 4 = 16 by decide] at hb
 simp only [Int.natCast_ediv, Int.natCast_pow, Int.cast_ofNat_Int] at hb
 clear ha ha2 hi
 go_wp2
 go_ret
 refine ⟨j0B ?_, hfr⟩
 rw [← HD.out]
 simp
theorem z0z (l : List (Nat × PT)) (gc : Nat) (a : Option Addr) (n c : Nat) (w : World) (h : Cv w gc) (hl : l.length = n) (hn : n ≤ 100000) (htm : Rd w a (l.length * 196) (tmL l)) :
  Calls Tryz.prog 98 #[.pointer (some ⟨gc, 0, none⟩), .slice a n c] w fun e w' => e = .returned (.agg (j0V l).L.toArray) ∧ Fr Nob w w' := by
 subst hl
 rw [← w0y]
 have HCV := qH h
 have HTM := qH htm
 clear h htm
 have st0 := St.start Nob w
 go_enter Tryz.func98, Tryz.ntmps98
 go_wp2_with (with_reducible refine wSk 4 ?_)
 refine a0c st0 rfl rfl (z := .agg (List.replicate 12 (.int .u64 0)).toArray) (by kernel_rfl) (cw 12 0) (by rw [a0e]; rfl) ?_
 intro g4 w1 st1
 clear st0
 go_wp2_with fail
 refine (l0B gc _ (HCV.out.keep st1.fr)).mono ?_
 rintro e' w2 ⟨rfl, hf2⟩
 have st2 := st1.keep hf2
 clear st1 hf2
 go_wp2_with (with_reducible refine wSk 5 ?_)
 refine a0c st2 rfl rfl (z := .agg (List.replicate 12 (.int .u64 0)).toArray) (by kernel_rfl) (cw 12 0) (by rw [a0e]; rfl) ?_
 intro g5 w3 st3
 clear st2
 go_wp2_with (with_reducible refine wSn ?_)
 refine a0b st3 1 rfl rfl rfl rfl rfl (by first | (simp only [a0a]; done) | (simp only [a0a, PT.len]; done)) (by first | (rw [a0a]; kernel_rfl) | (simp only [PT.len]; kernel_rfl)) (PT.one _) ?_
 intro w4 st4
 clear st3
 rw [r0s l] at st4
 go_wp2
 go_loopw [10] (fun x wr => ∃ i : Nat, i ≤ 64 ∧ x = .int .i64 (i : Int) ∧ St Nob w wr [(g4, cw 12 0, 117), (g5, (g0v l i).L, 117)]) (fun x _ => 64 - (intOf x).toNat)
 case atStart => exact ⟨0, by omega, rfl, st4⟩
 case round =>
  obtain ⟨i, hi, rfl, st⟩ := hrel
  clear st4
  by_cases hlt : i < 64
  ·have hltI : (i : Int) < 64 := by omega
   go_wp2
   go_loopw [13] (fun x wr => ∃ q : Nat, q ≤ 4 ∧ x = .int .i64 (q : Int) ∧ St Nob w wr [(g4, cw 12 0, 117), (g5, (dbN (g0v l i) q).L, 117)]) (fun x _ => 4 - (intOf x).toNat)
   case atStart => exact ⟨0, by omega, rfl, by rw [t0N]; exact st⟩
   case round =>
    obtain ⟨q, hq, rfl, st2⟩ := hrel
    clear st
    by_cases hq4 : q < 4
    ·have hqI : (q : Int) < 4 := by omega
     go_wp2_with (with_reducible refine wSk 16 ?_)
     refine a0p st2 1 rfl rfl rfl Tryz.underlying117 rfl rfl (by first | (rw [a0a]; kernel_rfl) | (simp only [PT.len]; kernel_rfl)) ?_
     go_wp2_with fail
     refine (z0y (g0v l i) q gc _ (HCV.out.keep st2.fr)).mono ?_
     rintro e' w5 ⟨rfl, hf5⟩
     have st5 := st2.keep hf5
     clear st2 hf5
     go_wp2_with (with_reducible refine wSn ?_)
     refine a0b st5 1 rfl rfl rfl rfl rfl (by first | (simp only [a0a]; done) | (simp only [PT.len]; done)) (by first | (rw [a0a]; kernel_rfl) | (simp only [PT.len]; kernel_rfl)) (PT.one _) ?_
     intro w6 st6
     clear st5
     go_wp2
     go_roundw
     case rel => exact ⟨q + 1, by omega, by go_num, st6⟩
     case measure => simp [intOf]; omega
    ·have hqI : ¬ ((q : Int) < 4) := by omega
     have hq5 : q = 4 := by omega
     rw [hq5] at st2
     clear hq5
     go_wp2
     go_loopw [21] (fun x wr => ∃ k : Nat, k ≤ l.length ∧ x = .int .i64 (k : Int) ∧ St Nob w wr [(g4, cw 12 0, 117), (g5, (g0S l i (dbN (g0v l i) 4) k).L, 117)]) (fun x _ => l.length - (intOf x).toNat)
     case atStart => exact ⟨0, by omega, rfl, by rw [r0t]; exact st2⟩
     case round =>
      obtain ⟨k, hk, rfl, st3⟩ := hrel
      clear st2
      by_cases hkl : k < l.length
      ·have hkI : (k : Int) < (l.length : Int) := by omega
       obtain ⟨ba, oa, hea, -⟩ := HTM.out.at (by omega)
       subst hea
       obtain ⟨d, hd⟩ : ∃ d, dig (63 - i) (g0R l k).1 = d := ⟨_, rfl⟩
       have hd16 : d < 16 := by rw [← hd]; unfold dig; exact Nat.mod_lt _ (by decide)
       have HD := qH hd
       have HIL := qH hlt
       have HKL := qH hkl
       clear hd hlt hkl
       have HD16 := qH hd16
       have hd1 : (0 : Int) ≤ (d : Int) := by omega
       have hd2 : (d : Int) < 16 := by omega
       go_wp2_with fail
       refine wp_region_noPanic ?_
       refine a0o (fun wx => St Nob w wx [(g4, cw 12 0, 117), (g5, (g0S l i (dbN (g0v l i) 4) k).L, 117)]) 15 (.w 0 (.t 1 (.w 2 (.w 3 (.w 4 (.w 5 (.w 6 (.t 7 (.w 8 (.w 10 (.w 11 (.r 9 (.w 12 (.t 13 (.r 14 (.m 15 .nil)))))))))))))))) (by kernel_rfl) (by kernel_rfl) st3.drew (fun _ _ _ _ _ h => h) ?_
       have hd4 := st3.drew
       clear st3
       refine a0l (v := ?_) rfl rfl (fun wx => ?_) ?_
       rotate_left 1
       ·(go_simp; with_reducible rfl)
       try simp only [clL]
       refine a0s rfl rfl rfl rfl ((g0S l i (dbN (g0v l i) 4) k).L) (fun wx hS => St.rangeL hS 1 rfl 0 _ dZl) Tryz.underlying117 rfl (by first | (rw [a0a]; kernel_rfl) | (simp only [PT.len]; kernel_rfl)) ?_
       try simp only [clL]
       refine a0l (v := ?_) rfl rfl (fun wx => ?_) ?_
       rotate_left 1
       ·(go_simp; with_reducible rfl)
       try simp only [clL]
       refine a0l (v := ?_) rfl rfl (fun wx => ?_) ?_
       rotate_left 1
       ·(go_simp; with_reducible rfl)
       try simp only [clL]
       refine a0l (v := ?_) rfl rfl (fun wx => ?_) ?_
       rotate_left 1
       ·(go_simp; with_reducible rfl)
       try simp only [clL]
       refine a0l (v := ?_) rfl rfl (fun wx => ?_) ?_
       rotate_left 1
       ·(go_simp; with_reducible rfl)
       try simp only [clL]
       refine a0l (v := ?_) rfl rfl (fun wx => ?_) ?_
       rotate_left 1
       ·(go_simp; with_reducible rfl)
       try simp only [clL]
       refine a0s rfl rfl rfl rfl (tmR (g0R l k)) (fun wx hS => (j0J (HTM.out.still (St.fr hS)) (k * 196) _ (r0q l k HKL.out))) Tryz.underlying147 rfl (by first | (rw [a0a]; kernel_rfl) | (simp only [c0U]; kernel_rfl)) ?_
       try simp only [clL]
       refine a0l (v := ?_) rfl rfl (fun wx => ?_) ?_
       rotate_left 1
       ·(go_simp; with_reducible rfl)
       try simp only [clL]
       refine a0l (v := ?_) rfl rfl (fun wx => ?_) ?_
       rotate_left 1
       ·(go_simp; with_reducible rfl)
       try simp only [clL]
       refine a0l (v := ?_) rfl rfl (fun wx => ?_) ?_
       rotate_left 1
       ·(go_simp; with_reducible rfl)
       try simp only [clL]
       refine a0A rfl rfl ?_
       go_simp
       refine (w0z (g0R l k) i d HIL.out HD.out _).mono ?_
       rintro e' w5 ⟨rfl, hf5⟩
       have st5 := hd4.keep hf5
       clear hf5
       clear hd4
       refine ⟨st5, ?_⟩
       try simp only [clL]
       refine a0l (v := ?_) rfl rfl (fun wx => ?_) ?_
       rotate_left 1
       ·(go_simp; with_reducible rfl)
       try simp only [clL]
       refine a0s rfl rfl rfl rfl ((e0M (g0R l k).2 d).L) (fun wx hS => by have hr := j0J (HTM.out.still (St.fr hS)) (k * 196 + (4 + d * 12)) _ (w0x l k d HKL.out HD16.out); rw [← Nat.add_assoc, ← Nat.add_assoc] at hr; exact hr) Tryz.underlying117 rfl (by first | (rw [a0a]; kernel_rfl) | (simp only [PT.len]; kernel_rfl)) ?_
       try simp only [clL]
       refine a0A rfl rfl ?_
       go_simp
       refine (y0A l i (dbN (g0v l i) 4) k d HD.out gc _ (HCV.out.keep st5.fr)).mono ?_
       rintro e' w6 ⟨rfl, hf6⟩
       have st6 := st5.keep hf6
       clear hf6
       clear st5
       refine ⟨st6, ?_⟩
       try simp only [clL]
       refine a0r rfl rfl ?_
       refine a0j st6 1 rfl rfl rfl rfl (by first | (simp only [a0a]; done) | (simp only [PT.len]; done)) (by first | (rw [a0a]; kernel_rfl) | (simp only [PT.len]; kernel_rfl)) (PT.one _) ?_
       intro w7 st7
       clear st6
       try simp only [Act.put]
       refine a0k ?_
       refine NoPanic.normal ?_
       go_wp2
       go_roundw
       case rel => exact ⟨k + 1, by have := HKL.out; omega, by go_num, st7⟩
       case measure => have := HKL.out; simp [intOf]; omega
      ·have hkI : ¬ ((k : Int) < (l.length : Int)) := by omega
       have hk2 : k = l.length := by omega
       rw [hk2, r0r] at st3
       clear hk2
       go_wp2
       go_roundw
       case rel => exact ⟨i + 1, by omega, by go_num, st3⟩
       case measure => simp [intOf]; omega
  ·have hltI : ¬ ((i : Int) < 64) := by omega
   have hi2 : i = 64 := by omega
   rw [hi2] at st
   clear hi2
   go_wp2_with (with_reducible refine wSk 41 ?_)
   refine a0p st 1 rfl rfl rfl Tryz.underlying117 rfl rfl (by first | (rw [a0a]; kernel_rfl) | (simp only [PT.len]; kernel_rfl)) ?_
   go_wp2_with (with_reducible refine wSn ?_)
   refine a0b st 0 rfl rfl rfl rfl rfl (by first | (simp only [a0a]; done) | (simp only [a0a, PT.len]; done)) (by first | (rw [a0a]; kernel_rfl) | (simp only [PT.len]; kernel_rfl)) (PT.one _) ?_
   intro w5 st5
   clear st
   have hr := st5.at 0 rfl
   have hfr := st5.fr
   clear st5
   go_wp2_with fail
   exact bodyPost_ret (a0u rfl rfl hr Tryz.underlying117 rfl (by first | (rw [a0a]; kernel_rfl) | (simp only [PT.len]; kernel_rfl))) rfl ⟨rfl, hfr⟩
end Go.Proofs.YtemcankmggmgoaaGreat
namespace Go.Mv
open Go.RowKit
section
variable {P : Program} {w w0 : World} {ops : Array Oper} {rest : List Oper} {o : Oper} {a : Act} {Q : Exit → Act → World → Prop} {S : Nat → Prop} {bl : List (Nat × List Value × TypeId)} {K : Act → World → Prop}
theorem t0O (hst : St S w0 w bl) {t e : TypeId} {parts : Array (Nat × Operand)} (ho : o.op = .buildSlice t 1 parts) (hu : P.underlying t = some (.slice e)) {z : Value} {sz by_ : Nat} (hi0 : (P.info? e).map (fun i => (i.zero, i.size, i.bytes)) = some (some z, sz, by_)) (cs : List Value)
  (hp : (parts.toList.map fun p => (p.1, a.eval p.2)) = [(0, .agg cs.toArray)]) (hv : cs.length = sz) (h0 : 0 < sz) (h24 : sz ≤ 16777216)
  (h : ∀ g w', w.heap.size ≤ g → St S w0 w' (bl ++ [(g, cs, e)]) → K (a.put o.dst (.slice (some ⟨g, 0, none⟩) 1 1)) w') : o.wp P a w K Q := by
 obtain ⟨i, hi, hz0⟩ : ∃ i, P.info? e = some i ∧ (i.zero, i.size, i.bytes) = (some z, sz, by_) := by simpa using hi0
 simp only [Prod.mk.injEq] at hz0
 obtain ⟨hz1, hsz, hby⟩ := hz0
 have hf : Instr.fill (fun j => some (j * i.size, i.size)) ((Array.range (1 * i.size)).map (z.cells[· % z.cells.size]!)) (parts.map fun (i, x) => (i, a.eval x)).toList = some cs.toArray := by
  rw [show (parts.map fun (i, x) => (i, a.eval x)).toList = (parts.toList.map fun p => (p.1, a.eval p.2)) by simp, hp, hsz]
  have hfw := Great.fill_whole h0 [.agg cs.toArray] ((Array.range (1 * sz)).map (z.cells[· % z.cells.size]!)) (by intro v hv'; have h1 := List.mem_singleton.1 hv'; subst h1; show cs.toArray.size = sz; simpa using hv) (by simp)
  rw [show ([.agg cs.toArray] : List Value).flatMap (fun v => v.cells.toList) = cs by simp [Value.cells]] at hfw
  exact hfw
 exact wp_buildSlice t e 1 parts ho cs.toArray i z hu hi hz1 (by rw [hsz]; omega) (by rw [hsz]; omega) hf (h _ _ (Nat.le_refl _) (hst.new ((Fr.refl _ w).alloc _) (Has.new w cs.toArray e) (Nat.le_refl _)))
theorem h0X (hst : St S w0 w bl) (i : Nat) {g : Nat} {L : List Value} {T : TypeId} (hb : bl[i]? = some (g, L, T)) {s x : Operand} {t xt : TypeId} (hgd : o.guard = none) (ho : o.op = .call { callee := .builtin .append, args := #[s, x], argTypes := #[t, xt] })
  {e : TypeId} {k : IntKind} {z : Value} (ht : P.underlying t = some (.slice e)) (hxt : P.underlying xt = some (.int k)) (hi0 : (P.info? e).map (fun i => (i.zero, i.size, i.bytes)) = some (some z, 1, 1)) (hzc : z.cells = #[z]) (hone : z.oneCell' = true) {n m cap : Nat} (hs : a.eval s = .slice (some ⟨g, 0, none⟩) n cap) {kx : IntKind} (hx : a.eval x = .int kx (m : Int))
  (hfit : n + m ≤ cap) (hm : 0 < m) (hm2 : m ≤ 1000000) (hL : n + m ≤ L.length) (L' : List Value) (hL' : splice L n (List.replicate m z) = L')
  (h : ∀ w', St S w0 w' (bl.set i (g, L', T)) → wpList P ops Q rest (a.put o.dst (.slice (some ⟨g, 0, none⟩) (n + m) cap)) w') : wpList P ops Q (o :: rest) a w := by
 refine wpList_plain hgd fun K hK => ?_
 obtain ⟨j, hj, hz, hsize, hby⟩ := info_parts hi0
 obtain ⟨w', hst', hh, hfr, hz2⟩ := b0F (P := P) g n T (List.replicate m z) 0 L w (hst.at i hb) (by simp; omega) (by intro v hv; rw [List.eq_of_mem_replicate hv]; exact hone)
 have hzz : (Builtin.zeroCells z.cells m).toList = List.replicate m z := by
  apply List.ext_getElem?
  intro q
  unfold Builtin.zeroCells
  rw [hzc]
  by_cases hq : q < m
  ·simp [hq, Nat.mod_one]
  ·simp [hq]
 have hwrap : IntKind.i64.wrap (m : Int) = (m : Int) := IntWalk.i64_in _ (by omega)
 have h1 : ¬ ((m : Int) < 0) := by omega
 have h2 : ¬ ((m : Int) * (1 : Int) > 2 ^ 48) := by omega
 have h2' : ¬ (2 ^ 48 < (m : Int)) := by omega
 have h3 : ¬ (m * 1 = 0) := by omega
 have h3' : m ≠ 0 := by omega
 have h4 : ¬ ((m : Int) ≤ 0) := by omega
 have hr : (Builtin.append_ #[t, xt] o.type #[.slice (some ⟨g, 0, none⟩) n cap, .int kx (m : Int)]).run P w = .ok (.slice (some ⟨g, 0, none⟩) (n + m) cap) w' := by
  simp [Builtin.append_, run_underlying ht, run_underlying hxt, sizeOf, typeInfo, hj, hsize, hby, hwrap, h1, h3', hfit, zeroValue, hz, d0q, asInt, asIntOf, hzz, hst']
  intro hbig
  omega
 unfold Oper.wp execOp
 simp only [ho, resolve, invoke, builtin, Sem.run_bind, Sem.run_pure, Result.andThen_ok, List.map_toArray, List.map_cons, List.map_nil, hs, hx, hr]
 rw [Nat.add_zero, hL'] at hh
 exact hK _ _ (h w' (hst.put i hb hfr hh))
theorem l0E (hst : St S w0 w bl) (i : Nat) {g : Nat} {L : List Value} {T : TypeId} (hb : bl[i]? = some (g, L, T)) {s x : Operand} {t : TypeId} (ho : o.op = .call { callee := .builtin .append, args := #[s, x], argTypes := #[t, t] })
  {e : TypeId} {z : Value} (ht : P.underlying t = some (.slice e)) (hi0 : (P.info? e).map (fun i => (i.zero, i.size, i.bytes)) = some (some z, 1, 1)) {n m cap c : Nat} (hs : a.eval s = .slice (some ⟨g, 0, none⟩) n cap) {xa : Option Addr} (hx : a.eval x = .slice xa m c) {news : List Value} (hnews : Rd w xa m news) (h1 : ∀ u ∈ news, u.oneCell' = true)
  (hfit : n + m ≤ cap) (hL : n + m ≤ L.length) (L' : List Value) (hL' : splice L n news = L')
  (h : ∀ w', St S w0 w' (bl.set i (g, L', T)) → K (a.put o.dst (.slice (some ⟨g, 0, none⟩) (n + m) cap)) w') : o.wp P a w K Q := by
 obtain ⟨j, hj, hz, hsize, hby⟩ := info_parts hi0
 have hlen := hnews.len
 obtain ⟨w', hr, hh, hfr, -⟩ := e0f (P := P) t o.type e j ht hj g 0 n cap L T (hst.at i hb) xa m c news (by rw [hsize, Nat.mul_one]; exact hnews) h1 hfit (by rw [hsize]; omega)
 rw [hsize, Nat.mul_one, Nat.zero_add, hL'] at hh
 unfold Oper.wp execOp
 simp only [ho, resolve, invoke, builtin, Sem.run_bind, Sem.run_pure, Result.andThen_ok, List.map_toArray, List.map_cons, List.map_nil, hs, hx, hr]
 exact h w' (hst.put i hb hfr hh)
end
end Go.Mv
namespace Go.Proofs.YtemcankmggmgoaaGreat
open Go.RowKit Go.Mv Mvp Mvq
theorem t0P (n : Nat) (s : PT) : Tryz.prog.built 147 [(0, i4 n), (1, .agg (tbL s 16).toArray)] = some (tmR (n, s)).toArray := by kernel_rfl
theorem w0A : (Tryz.prog.info? 147).map (fun i => (i.zero, i.size, i.bytes)) = some (some (.agg (List.replicate 196 (.int .u64 0)).toArray), 196, 1568) := by kernel_rfl
theorem w0B (t : Nat × PT) : tmL [t] = tmR t := by
 show (List.range 1).flatMap (fun k => tmR (g0R [t] k)) = tmR t
 simp [List.range_succ, g0R]
attribute [local irreducible] a0F lw mix cw b0n b0v b0k a0M a0q beN b0C b0i b0z a0J a0R elN mdL b0o rtN rtV b0T gXn gYn PT.L k0l j0R e0M tbL tmR tmL dbN g0S g0v j0V dig
theorem w0C (n : Nat) (s : PT) (gc : Nat) (w : World) (h : Cv w gc) :
  Calls Tryz.prog 87 #[.pointer (some ⟨gc, 0, none⟩), i4 n, .agg s.L.toArray] w fun e w' => e = .returned (.agg (j0V [(n, s)]).L.toArray) ∧ Fr Nob w w' := by
 have HCV := qH h
 clear h
 have st0 := St.start Nob w
 go_enter Tryz.func87, Tryz.ntmps87
 go_wp2_with (with_reducible refine wSk 4 ?_)
 refine a0m st0 rfl rfl rfl (cw 4 n) rfl ?_
 intro g4 w1 st1
 clear st0
 go_wp2_with (with_reducible refine wSk 5 ?_)
 refine a0m st1 rfl rfl rfl (s.L) rfl ?_
 intro g5 w2 st2
 clear st1
 go_wp2_with (with_reducible refine wSk 6 ?_)
 refine a0c st2 rfl rfl (z := .agg (List.replicate 12 (.int .u64 0)).toArray) (by kernel_rfl) (cw 12 0) (by rw [a0e]; rfl) ?_
 intro g6 w3 st3
 clear st2
 go_wp2_with fail
 refine wp_region_noPanic ?_
 refine a0o (fun wx => St Nob w wx [(g4, cw 4 n, 111), (g5, s.L, 117), (g6, cw 12 0, 117)]) 8 (.w 0 (.t 1 (.w 2 (.t 3 (.r 4 (.w 5 (.r 6 (.r 7 (.m 8 .nil))))))))) (by kernel_rfl) (by kernel_rfl) st3.drew (fun _ _ _ _ _ h => h) ?_
 have hd3 := st3.drew
 clear st3
 refine a0l (v := ?_) rfl rfl (fun wx => ?_) ?_
 rotate_left 1
 ·(go_simp; with_reducible rfl)
 try simp only [clL]
 refine a0s rfl rfl rfl rfl (cw 4 n) (fun wx hS => St.rangeL hS 0 rfl 0 _ dZl) Tryz.underlying111 rfl (by first | (rw [a0a]; kernel_rfl) | (rw [PT.len]; kernel_rfl) | (rw [c0z]; kernel_rfl) | (rw [c0U]; kernel_rfl) | (simp only [List.length_append, a0a]; kernel_rfl) | (simp only [List.length_append, a0a, PT.len, c0z, c0U]; kernel_rfl)) ?_
 try simp only [clL]
 refine a0l (v := ?_) rfl rfl (fun wx => ?_) ?_
 rotate_left 1
 ·(go_simp; with_reducible rfl)
 try simp only [clL]
 refine a0s rfl rfl rfl rfl (s.L) (fun wx hS => St.rangeL hS 1 rfl 0 _ dZl) Tryz.underlying117 rfl (by first | (rw [a0a]; kernel_rfl) | (simp only [PT.len]; kernel_rfl)) ?_
 try simp only [clL]
 refine a0A rfl rfl ?_
 go_simp
 refine (m0J s gc _ (HCV.out.keep hd3.fr)).mono ?_
 rintro e' w4 ⟨rfl, hf4⟩
 have st4 := hd3.keep hf4
 clear hf4
 clear hd3
 refine ⟨st4, ?_⟩
 try simp only [clL]
 refine a0l rfl rfl (b0u rfl _ (t0P _ _)) ?_
 try simp only [clL]
 refine a0A rfl rfl ?_
 refine t0O st4 rfl Tryz.underlying199 w0A (tmR (n, s)) rfl (c0U _) (by decide) (by decide) ?_
 intro g13 w5 hg13 st5
 clear hg13
 have HRD := qH (show Rd w5 (some ⟨g13, 0, none⟩) (([(n, s)] : List (Nat × PT)).length * 196) (tmL [(n, s)]) by rw [w0B]; have h := Rd.whole (st5.at 3 rfl); rw [c0U] at h; exact h)
 refine ⟨St.less st5 (by simp), ?_⟩
 try simp only [clL]
 refine a0A rfl rfl ?_
 go_simp
 refine (z0z [(n, s)] gc (some ⟨g13, 0, none⟩) 1 1 _ (HCV.out.keep st5.fr) rfl (by decide) HRD.out).mono ?_
 rintro e' w6 ⟨rfl, hf6⟩
 have st6 := st5.keep hf6
 clear hf6
 clear st5
 refine ⟨St.less st6 (by simp), ?_⟩
 try simp only [clL]
 refine a0r rfl rfl ?_
 refine a0j st6 2 rfl rfl rfl rfl (by first | (simp only [a0a]; done) | (simp only [a0a, PT.len]; done)) (by first | (rw [a0a]; kernel_rfl) | (simp only [PT.len]; kernel_rfl)) (PT.one _) ?_
 intro w7 st7
 clear st6
 try simp only [Act.put]
 refine a0k ?_
 refine NoPanic.normal ?_
 have hr := st7.at 2 rfl
 have hfr := st7.fr
 clear st7
 go_wp2_with fail
 exact bodyPost_ret (a0u rfl rfl hr Tryz.underlying117 rfl (by first | (rw [a0a]; kernel_rfl) | (simp only [PT.len]; kernel_rfl))) rfl ⟨rfl, hfr⟩
end Go.Proofs.YtemcankmggmgoaaGreat
