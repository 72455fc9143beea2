/- ; ; ; ; ; ; ; ; ; ; ; ; ; ; . -/
import Derived.Test.YtpfimiajoifjaaaGreatMgSpanHalvesProof4
import Derived.Test.YtpfimiajoifjaaaGreatMgSpanHalvesProof3
set_option maxHeartbeats 16000000
set_option maxRecDepth 1000000

namespace Mvq
theorem u0M : IsP fP := u0I
theorem y0B (a : K) : a.val < fP := a.isLt
theorem A0F {a : K} (h : a ≠ 0) : ¬ fP ∣ a.val := by
 intro hd
 have h1 := y0B a
 have h2 : a.val ≠ 0 := fun e => h (Fin.ext e)
 have := Nat.le_of_dvd ap1 hd
 omega
def c0B (a : K) : K := kc (a.val ^ (fP - 2))
theorem i0F (a : K) : kc a.val = a := by
 apply Fin.ext; simp [kc, Fin.ofNat, Nat.mod_eq_of_lt a.isLt]
theorem a0A (a b : Nat) : kc (a * b) = kc a * kc b := by
 rw [← u0L]; apply Fin.ext; simp [kc, Fin.ofNat]
theorem e0M (a : Nat) : kc (a % fP) = kc a := by apply Fin.ext; simp [kc, Fin.ofNat]
theorem a0U {a : K} (h : a ≠ 0) : a * c0B a = 1 := by
 have h1 := k0I u0M (A0F h)
 have h2 : a.val * a.val ^ (fP - 2) = a.val ^ (fP - 1) := by rw [Nat.mul_comm, ← Nat.pow_succ, show (fP - 2).succ = fP - 1 by decide]
 have h3 : a * c0B a = kc (a.val * a.val ^ (fP - 2)) := by rw [a0A, i0F]; rfl
 rw [h3, h2, ← e0M, h1]; decide
theorem a0t {a b : K} (h : a * b = 0) : a = 0 ∨ b = 0 := by
 by_cases ha : a = 0
 ·exact Or.inl ha
 ·right
  have h1 := a0U ha
  generalize c0B a = c at *
  grind -lia -linarith
theorem b0u {a b c : K} (ha : a ≠ 0) (h : a * b = a * c) : b = c := by
 have h1 := a0U ha
 generalize c0B a = d at *
 grind -lia -linarith
theorem w0j (a : K) (n : Nat) : kc (a.val ^ n) = a ^ n := by
  induction n with
  | zero => rw [Nat.pow_zero]; have : kc 1 = 1 := by decide
            rw [this]; grind -lia -linarith
  | succ n ih => rw [Nat.pow_succ, a0A, ih, i0F]; grind -lia -linarith
theorem m0p (c : K) : c * c * c + 7 ≠ 0 := by
  intro h
  have hc : c * c * c = kc (fP - 7) := by
    have : kc (fP - 7) + 7 = 0 := by decide
    generalize kc (fP - 7) = m at *
    grind -lia -linarith
  have hc0 : c ≠ 0 := by
    intro h0
    subst h0
    exact absurd h ap2
  have h1 : c ^ (fP - 1) = 1 := by
    rw [← w0j, ← e0M, k0I u0M (A0F hc0)]; decide
  have h2 : c ^ (fP - 1) = (c * c * c) ^ ((fP - 1) / 3) := by
    have e : (fP - 1) = (fP - 1) / 3 + (fP - 1) / 3 + (fP - 1) / 3 := by decide
    generalize (fP - 1) / 3 = n at *
    rw [e, k0L, k0L]
    clear e h1 h hc hc0
    induction n with
    | zero => grind -lia -linarith
    | succ n ih =>
      have e1 : ∀ x : K, x ^ (n + 1) = x ^ n * x := fun x => by grind -lia -linarith
      rw [e1, e1, ← ih]
      generalize c ^ n = d
      grind -lia -linarith
  rw [h1, hc] at h2
  have h3 : kc (fP - 7) ^ ((fP - 1) / 3) = kc ((fP - 7) ^ ((fP - 1) / 3) % fP) := by
    rw [e0M]
    generalize (fP - 1) / 3 = n
    induction n with
    | zero => have : kc 1 = 1 := by decide
              rw [Nat.pow_zero, this]; grind -lia -linarith
    | succ n ih => rw [Nat.pow_succ, a0A, ← ih]; grind -lia -linarith
  rw [h3, ← s0X fP 256 (fP - 7) ((fP - 1) / 3) ap2] at h2
  exact absurd h2 (by decide +kernel)
end Mvq
namespace Mvq
inductive Pt where
 | O : Pt
 | A : K → K → Pt
def onC : Pt → Prop
 | .O => True
 | .A x y => y * y = x * x * x + 7
def nm (X Y Z : K) : Pt := if Z = 0 then .O else .A (X * c0B Z) (Y * c0B Z)
def a0V : Pt → Pt → Pt
 | .O, q => q
 | .A x y, .O => .A x y
 | .A x1 y1, .A x2 y2 => nm (cX x1 y1 1 x2 y2 1) (cY x1 y1 1 x2 y2 1) (cZ x1 y1 1 x2 y2 1)
def f0W : Pt → Pt
 | .O => .O
 | .A x y => .A x (-y)
theorem A0G : kc (fP - 21) = -21 := by decide
theorem k21 : kc 21 = 21 := by decide
theorem k63 : kc 63 = 63 := by decide
theorem k3 : kc 3 = 3 := by decide
theorem h0v (X1 Y1 Z1 X2 Y2 Z2 : K) : cX X1 Y1 Z1 X2 Y2 Z2 = (X1*Y2 + X2*Y1)*(Y1*Y2 - 21*Z1*Z2) - 21*(Y1*Z2 + Y2*Z1)*(X1*Z2 + X2*Z1) := by
 unfold cX; rw [A0G]; grind -lia -linarith
theorem h0w (X1 Y1 Z1 X2 Y2 Z2 : K) : cY X1 Y1 Z1 X2 Y2 Z2 = (Y1*Y2 + 21*Z1*Z2)*(Y1*Y2 - 21*Z1*Z2) + 63*X1*X2*(X1*Z2 + X2*Z1) := by
 unfold cY; rw [A0G, k21, k63]; grind -lia -linarith
theorem f0y (X1 Y1 Z1 X2 Y2 Z2 : K) : cZ X1 Y1 Z1 X2 Y2 Z2 = (Y1*Z2 + Y2*Z1)*(Y1*Y2 + 21*Z1*Z2) + 3*X1*X2*(X1*Y2 + X2*Y1) := by
 unfold cZ; rw [k21, k3]; grind -lia -linarith
theorem n0r {a X Y Z : K} (ha : a ≠ 0) : nm (a * X) (a * Y) (a * Z) = nm X Y Z := by
 unfold nm
 by_cases hz : Z = 0
 ·rw [if_pos hz, if_pos (by rw [hz]; grind -lia -linarith)]
 ·have haz : a * Z ≠ 0 := fun h => (a0t h).elim ha hz
  rw [if_neg hz, if_neg haz]
  have h1 := a0U hz
  have h2 := a0U haz
  generalize c0B Z = u at *
  generalize c0B (a * Z) = v at *
  have h3 : a * v = u := by
   refine b0u hz ?_
   grind -lia -linarith
  congr 1
  ·rw [← h3]; grind -lia -linarith
  ·rw [← h3]; grind -lia -linarith
theorem t0c {x y : K} (h : y * y = x * x * x + 7) : y ≠ 0 := by
 intro h0
 subst h0
 refine m0p x ?_
 grind -lia -linarith
theorem i0G : (2 : K) ≠ 0 := by decide
theorem A0T {x1 y1 x2 y2 : K} (h1 : y1 * y1 = x1 * x1 * x1 + 7) (h2 : y2 * y2 = x2 * x2 * x2 + 7) :
  cZ x1 y1 1 x2 y2 1 * cZ x1 y1 1 x2 y2 1 = (x1*x2*(x1+x2) + 14 + 2*y1*y2) * (x1*x2*(x1+x2) + 14 + 2*y1*y2) * (x1*x2*(x1+x2) + 14 + 2*y1*y2) + 7 * ((x2-x1)*(x2-x1)*(x2-x1)*(x2-x1)*(x2-x1)*(x2-x1)) := by
 rw [f0y]
 grind -lia -linarith
theorem u0N {x1 y1 x2 y2 : K} (h1 : y1 * y1 = x1 * x1 * x1 + 7) (h2 : y2 * y2 = x2 * x2 * x2 + 7) (hz : cZ x1 y1 1 x2 y2 1 = 0) : x2 = x1 ∧ y2 = -y1 := by
 by_cases hx : x2 - x1 = 0
 ·have hx' : x2 = x1 := by grind -lia -linarith
  subst hx'
  have hyy : (y2 - y1) * (y2 + y1) = 0 := by grind -lia -linarith
  rcases a0t hyy with h | h
  ·exfalso
   have e : y2 = y1 := by grind -lia -linarith
   subst e
   rw [f0y] at hz
   have h8 : (2 * y2) * ((2 * y2) * (2 * y2)) = 0 := by grind -lia -linarith
   have hy := t0c h1
   have h2y : (2 : K) * y2 ≠ 0 := fun h => (a0t h).elim i0G hy
   exact (a0t h8).elim h2y fun h => (a0t h).elim h2y h2y
  ·exact ⟨rfl, by grind -lia -linarith⟩
 ·exfalso
  have hi := A0T h1 h2
  rw [hz] at hi
  have hd := a0U hx
  generalize c0B (x2 - x1) = u at *
  generalize x1*x2*(x1+x2) + 14 + 2*y1*y2 = m at *
  generalize x2 - x1 = d at *
  refine m0p (m * u * u) ?_
  have e : (m * u * u) * (m * u * u) * (m * u * u) + 7 = (m * m * m + 7 * (d * d * d * d * d * d)) * (u * u * u * u * u * u) := by grind -lia -linarith
  rw [e, ← hi]
  grind -lia -linarith
theorem A0U (x y : K) (h : y * y = x * x * x + 7) (h0 : x*x*x*x*x*x + 140*(x*x*x) - 392 = 0) : False := by
 have hy := t0c h
 have h2 : (2 : K) * y ≠ 0 := fun h => (a0t h).elim i0G hy
 have hu := a0U h2
 generalize c0B (2 * y) = u at *
 refine m0p ((x*x*x*x - 56*x) * u * u) ?_
 have e : ((x*x*x*x - 56*x) * u * u) * ((x*x*x*x - 56*x) * u * u) * ((x*x*x*x - 56*x) * u * u) + 7 = ((x*x*x*x - 56*x) * (x*x*x*x - 56*x) * (x*x*x*x - 56*x) + 7 * ((2*y)*(2*y)*(2*y)*(2*y)*(2*y)*(2*y))) * (u * u * u * u * u * u) := by grind -lia -linarith
 have e2 : (x*x*x*x - 56*x) * (x*x*x*x - 56*x) * (x*x*x*x - 56*x) + 7 * ((2*y)*(2*y)*(2*y)*(2*y)*(2*y)*(2*y)) = (x*x*x*x*x*x + 140*(x*x*x) - 392) * (x*x*x*x*x*x + 140*(x*x*x) - 392) := by
  have e3 : (2*y)*(2*y)*(2*y)*(2*y)*(2*y)*(2*y) = 64 * ((x*x*x+7)*(x*x*x+7)*(x*x*x+7)) := by rw [← h]; grind -lia -linarith
  rw [e3]; grind -lia -linarith
 rw [e, e2, h0]; grind -lia -linarith
def okT (X Y Z : K) : Prop := Z ≠ 0 ∨ (X = 0 ∧ Y ≠ 0)
theorem q0G {x1 y1 x2 y2 : K} (h1 : y1 * y1 = x1 * x1 * x1 + 7) (h2 : y2 * y2 = x2 * x2 * x2 + 7) : okT (cX x1 y1 1 x2 y2 1) (cY x1 y1 1 x2 y2 1) (cZ x1 y1 1 x2 y2 1) := by
 by_cases hz : cZ x1 y1 1 x2 y2 1 = 0
 ·right
  obtain ⟨rfl, rfl⟩ := u0N h1 h2 hz
  refine ⟨?_, fun h0 => ?_⟩
  ·rw [h0v]; grind -lia -linarith
  ·rw [h0w] at h0
   exact A0U x2 y1 h1 (by grind -lia -linarith)
 ·exact Or.inl hz
theorem q0H {x1 y1 x2 y2 : K} (h1 : y1 * y1 = x1 * x1 * x1 + 7) (h2 : y2 * y2 = x2 * x2 * x2 + 7) :
  cY x1 y1 1 x2 y2 1 * cY x1 y1 1 x2 y2 1 * cZ x1 y1 1 x2 y2 1 = cX x1 y1 1 x2 y2 1 * cX x1 y1 1 x2 y2 1 * cX x1 y1 1 x2 y2 1 + 7 * (cZ x1 y1 1 x2 y2 1 * cZ x1 y1 1 x2 y2 1 * cZ x1 y1 1 x2 y2 1) := by
 have eX : cX x1 y1 1 x2 y2 1 = x1*x2*x2*x2*y1 + x2*x1*x1*x1*y2 - 14*x1*y1 - 14*x2*y2 - 42*x1*y2 - 42*x2*y1 := by rw [h0v]; grind -lia -linarith
 have eY : cY x1 y1 1 x2 y2 1 = x1*x1*x1*x2*x2*x2 + 7*x1*x1*x1+7*x2*x2*x2 - 392 + 63*x1*x1*x2+63*x1*x2*x2 := by rw [h0w]; grind -lia -linarith
 have eZ : cZ x1 y1 1 x2 y2 1 = x1*x1*x1*y2 + 28*y2+28*y1+x2*x2*x2*y1+3*x1*x1*x2*y2+3*x1*x2*x2*y1 := by rw [f0y]; grind -lia -linarith
 rw [eX, eY, eZ]
 clear eX eY eZ
 grind -lia -linarith
theorem w0k {X Y Z : K} (h : Y * Y * Z = X * X * X + 7 * (Z * Z * Z)) : onC (nm X Y Z) := by
 unfold nm
 split
 ·trivial
 ·rename_i hz
  have h1 := a0U hz
  generalize c0B Z = u at *
  show (Y * u) * (Y * u) = (X * u) * (X * u) * (X * u) + 7
  have e : (Y * u) * (Y * u) = (Y * Y * Z) * (u * u * u) := by grind -lia -linarith
  rw [e, h]; grind -lia -linarith
theorem c0w {p q : Pt} (hp : onC p) (hq : onC q) : onC (a0V p q) := by
 cases p with
 | O => exact hq
 | A x1 y1 => cases q with
  | O => exact hp
  | A x2 y2 => exact w0k (q0H hp hq)
theorem c0x (p q : Pt) : a0V p q = a0V q p := by
 cases p with
 | O => cases q <;> rfl
 | A x1 y1 => cases q with
  | O => rfl
  | A x2 y2 =>
   have eX : cX x1 y1 1 x2 y2 1 = cX x2 y2 1 x1 y1 1 := by rw [h0v, h0v]; grind -lia -linarith
   have eY : cY x1 y1 1 x2 y2 1 = cY x2 y2 1 x1 y1 1 := by rw [h0w, h0w]; grind -lia -linarith
   have eZ : cZ x1 y1 1 x2 y2 1 = cZ x2 y2 1 x1 y1 1 := by rw [f0y, f0y]; grind -lia -linarith
   simp only [a0V, eX, eY, eZ]
theorem b0P (p : Pt) : a0V p .O = p := by cases p <;> rfl
theorem q0I (p : Pt) : a0V .O p = p := rfl
theorem d0a {p : Pt} : a0V p (f0W p) = .O := by
 cases p with
 | O => rfl
 | A x y =>
  have eZ : cZ x y 1 x (-y) 1 = 0 := by rw [f0y]; grind -lia -linarith
  simp only [f0W, a0V, nm, eZ, if_true]
theorem c0l {p : Pt} (hp : onC p) : onC (f0W p) := by
 cases p with
 | O => trivial
 | A x y => show (-y) * (-y) = x * x * x + 7; have : y * y = x * x * x + 7 := hp; grind -lia -linarith
theorem q0J {X Y Z x y : K} (ht : okT X Y Z) (hq : y * y = x * x * x + 7) (hp : onC (nm X Y Z)) :
  a0V (nm X Y Z) (.A x y) = nm (cX X Y Z x y 1) (cY X Y Z x y 1) (cZ X Y Z x y 1) ∧ okT (cX X Y Z x y 1) (cY X Y Z x y 1) (cZ X Y Z x y 1) := by
 by_cases hz : Z = 0
 ·obtain ⟨hX, hY⟩ := ht.resolve_left (by simpa using hz)
  subst hz hX
  have hy := t0c hq
  have hs : Y * Y * y ≠ 0 := fun h => (a0t h).elim (fun h => (a0t h).elim hY hY) hy
  have eX : cX 0 Y 0 x y 1 = (Y * Y * y) * x := by rw [h0v]; grind -lia -linarith
  have eY : cY 0 Y 0 x y 1 = (Y * Y * y) * y := by rw [h0w]; grind -lia -linarith
  have eZ : cZ 0 Y 0 x y 1 = (Y * Y * y) * 1 := by rw [f0y]; grind -lia -linarith
  rw [eX, eY, eZ, n0r hs]
  constructor
  ·have h0 : nm 0 Y 0 = .O := by unfold nm; rw [if_pos rfl]
   have h1 : nm x y 1 = .A x y := by
    unfold nm
    rw [if_neg ap2]
    have h1 := a0U (show (1 : K) ≠ 0 by decide)
    generalize c0B (1 : K) = u at *
    congr 1
    ·grind -lia -linarith
    ·grind -lia -linarith
   rw [h0, h1]; rfl
  ·left
   intro h; exact hs (by grind -lia -linarith)
 ·have hN : nm X Y Z = .A (X * c0B Z) (Y * c0B Z) := by unfold nm; rw [if_neg hz]
  rw [hN] at hp ⊢
  have h1 := a0U hz
  have hp' : (Y * c0B Z) * (Y * c0B Z) = (X * c0B Z) * (X * c0B Z) * (X * c0B Z) + 7 := hp
  have hok := q0G hp' hq
  generalize c0B Z = u at *
  have eX : cX X Y Z x y 1 = (Z * Z) * cX (X * u) (Y * u) 1 x y 1 := by rw [h0v, h0v]; grind -lia -linarith
  have eY : cY X Y Z x y 1 = (Z * Z) * cY (X * u) (Y * u) 1 x y 1 := by rw [h0w, h0w]; grind -lia -linarith
  have eZ : cZ X Y Z x y 1 = (Z * Z) * cZ (X * u) (Y * u) 1 x y 1 := by rw [f0y, f0y]; grind -lia -linarith
  have hzz : Z * Z ≠ 0 := fun h => (a0t h).elim hz hz
  rw [eX, eY, eZ, n0r hzz]
  refine ⟨rfl, ?_⟩
  rcases hok with h | ⟨h2, h3⟩
  ·exact Or.inl fun h' => (a0t h').elim hzz h
  ·exact Or.inr ⟨by rw [h2]; grind -lia -linarith, fun h' => (a0t h').elim hzz h3⟩
theorem w0l {X Y Z X' Y' Z' : K} (h : okT X Y Z) (h' : okT X' Y' Z') (e1 : X * Z' = X' * Z) (e2 : Y * Z' = Y' * Z) : nm X Y Z = nm X' Y' Z' := by
 by_cases hz : Z = 0
 ·obtain ⟨hX, hY⟩ := h.resolve_left (by simpa using hz)
  subst hz
  have : Y * Z' = 0 := by rw [e2]; grind -lia -linarith
  have hz' := (a0t this).resolve_left hY
  unfold nm
  rw [if_pos rfl, if_pos hz']
 ·by_cases hz' : Z' = 0
  ·obtain ⟨hX, hY⟩ := h'.resolve_left (by simpa using hz')
   subst hz'
   exfalso
   have : Y' * Z = 0 := by rw [← e2]; grind -lia -linarith
   exact (a0t this).elim hY hz
  ·unfold nm
   rw [if_neg hz, if_neg hz']
   have h1 := a0U hz
   have h2 := a0U hz'
   generalize c0B Z = u at *
   generalize c0B Z' = v at *
   congr 1
   ·refine b0u hz (b0u hz' ?_); grind -lia -linarith
   ·refine b0u hz (b0u hz' ?_); grind -lia -linarith
theorem a0Q {p q r : Pt} (hp : onC p) (hq : onC q) (hr : onC r) : a0V (a0V p q) r = a0V p (a0V q r) := by
 cases p with
 | O => rfl
 | A x1 y1 => cases q with
  | O => cases r <;> rfl
  | A x2 y2 => cases r with
   | O => rw [b0P, b0P]
   | A x3 y3 =>
    have h1 : y1 * y1 = x1 * x1 * x1 + 7 := hp
    have h2 : y2 * y2 = x2 * x2 * x2 + 7 := hq
    have h3 : y3 * y3 = x3 * x3 * x3 + 7 := hr
    have hA := q0J (q0G h1 h2) h3 (w0k (q0H h1 h2))
    have hB := q0J (q0G h2 h3) h1 (w0k (q0H h2 h3))
    have hass := A0h x1 x2 x3 y1 y2 y3 h1 h2 h3
    rw [c0x (.A x1 y1) (a0V _ _)]
    show a0V (nm _ _ _) (.A x3 y3) = a0V (nm _ _ _) (.A x1 y1)
    rw [hA.1, hB.1]
    have swX : ∀ X Y Z : K, cX X Y Z x1 y1 1 = cX x1 y1 1 X Y Z := fun X Y Z => by rw [h0v, h0v]; grind -lia -linarith
    have swY : ∀ X Y Z : K, cY X Y Z x1 y1 1 = cY x1 y1 1 X Y Z := fun X Y Z => by rw [h0w, h0w]; grind -lia -linarith
    have swZ : ∀ X Y Z : K, cZ X Y Z x1 y1 1 = cZ x1 y1 1 X Y Z := fun X Y Z => by rw [f0y, f0y]; grind -lia -linarith
    have hB2 := hB.2
    rw [swX, swY, swZ] at hB2 ⊢
    exact w0l hA.2 hB2 hass.1 hass.2
end Mvq
namespace Mvq
theorem y0C {x1 y1 x2 y2 : K} (h1 : y1 * y1 = x1 * x1 * x1 + 7) (h2 : y2 * y2 = x2 * x2 * x2 + 7) : (x1*x2*(x1+x2) + 14 - 2*y1*y2) = (y2 - y1) * (y2 - y1) - (x1 + x2) * ((x2 - x1) * (x2 - x1)) := by
 grind -lia -linarith
theorem y0D {x1 y1 x2 y2 : K} (h1 : y1 * y1 = x1 * x1 * x1 + 7) (h2 : y2 * y2 = x2 * x2 * x2 + 7) : cY x1 y1 1 x2 y2 1 * ((x2 - x1) * (x2 - x1) * (x2 - x1)) = ((y2 - y1) * (x1 * ((x2 - x1) * (x2 - x1)) - (x1*x2*(x1+x2) + 14 - 2*y1*y2)) - y1 * ((x2 - x1) * (x2 - x1) * (x2 - x1))) * cZ x1 y1 1 x2 y2 1 := by
 have eY : cY x1 y1 1 x2 y2 1 = x1*x1*x1*x2*x2*x2 + 7*x1*x1*x1+7*x2*x2*x2 - 392 + 63*x1*x1*x2+63*x1*x2*x2 := by rw [h0w]; grind -lia -linarith
 have eZ : cZ x1 y1 1 x2 y2 1 = x1*x1*x1*y2 + 28*y2+28*y1+x2*x2*x2*y1+3*x1*x1*x2*y2+3*x1*x2*x2*y1 := by rw [f0y]; grind -lia -linarith
 rw [eY, eZ]
 clear eY eZ
 grind -lia -linarith
theorem i0H {x1 y1 x2 y2 u : K} (h1 : y1 * y1 = x1 * x1 * x1 + 7) (h2 : y2 * y2 = x2 * x2 * x2 + 7) (hd : (x2 - x1) * u = 1) :
  a0V (.A x1 y1) (.A x2 y2) = .A (((y2 - y1) * u) * ((y2 - y1) * u) - x1 - x2) (((y2 - y1) * u) * (x1 - (((y2 - y1) * u) * ((y2 - y1) * u) - x1 - x2)) - y1) := by
 have hz : cZ x1 y1 1 x2 y2 1 ≠ 0 := fun h => by
  obtain ⟨rfl, -⟩ := u0N h1 h2 h
  have : (0 : K) = 1 := by rw [← hd]; grind -lia -linarith
  exact absurd this ap2
 show nm _ _ _ = _
 have hd0 : x2 - x1 ≠ 0 := fun h => by
  rw [h] at hd
  have : (0 : K) = 1 := by rw [← hd]; grind -lia -linarith
  exact absurd this ap2
 have eX : cX x1 y1 1 x2 y2 1 * ((x2 - x1) * (x2 - x1)) = (x1*x2*(x1+x2) + 14 - 2*y1*y2) * cZ x1 y1 1 x2 y2 1 := by
  rw [h0v, f0y]; grind -lia -linarith
 have e4 : (x1*x2*(x1+x2) + 14 - 2*y1*y2) = (y2 - y1) * (y2 - y1) - (x1 + x2) * ((x2 - x1) * (x2 - x1)) := y0C h1 h2
 have eY := y0D h1 h2
 rw [e4] at eX eY
 unfold nm
 rw [if_neg hz]
 have hv := a0U hz
 generalize c0B (cZ x1 y1 1 x2 y2 1) = v at *
 generalize cX x1 y1 1 x2 y2 1 = X at *
 generalize cY x1 y1 1 x2 y2 1 = Y at *
 generalize cZ x1 y1 1 x2 y2 1 = Z at *
 clear h1 h2 e4
 generalize hdd : x2 - x1 = d at *
 generalize y2 - y1 = n at *
 have hx2 : x2 = x1 + d := by rw [← hdd]; grind -lia -linarith
 subst hx2
 clear hdd
 congr 1
 ·refine b0u hd0 (b0u hd0 (b0u hz ?_)); grind -lia -linarith
 ·refine b0u hd0 (b0u hd0 (b0u hd0 (b0u hz ?_))); grind -lia -linarith
theorem g0o {x y u : K} (h : y * y = x * x * x + 7) (hd : (2 * y) * u = 1) :
  a0V (.A x y) (.A x y) = .A ((3 * x * x * u) * (3 * x * x * u) - x - x) ((3 * x * x * u) * (x - ((3 * x * x * u) * (3 * x * x * u) - x - x)) - y) := by
 have hy := t0c h
 have h2y : (2 : K) * y ≠ 0 := fun h => (a0t h).elim i0G hy
 have eZ : cZ x y 1 x y 1 = (2 * y) * (2 * y) * (2 * y) := by rw [f0y]; grind -lia -linarith
 have eX : cX x y 1 x y 1 = (2 * y) * (9 * x * x * x * x - 2 * x * ((2 * y) * (2 * y))) := by rw [h0v]; grind -lia -linarith
 have eY : cY x y 1 x y 1 = 3 * x * x * (x * ((2 * y) * (2 * y)) - (9 * x * x * x * x - 2 * x * ((2 * y) * (2 * y)))) - y * ((2 * y) * (2 * y) * (2 * y)) := by rw [h0w]; grind -lia -linarith
 show nm _ _ _ = _
 have hz : cZ x y 1 x y 1 ≠ 0 := by
  rw [eZ]; exact fun h => (a0t h).elim (fun h => (a0t h).elim h2y h2y) h2y
 unfold nm
 rw [if_neg hz]
 have hv := a0U hz
 generalize c0B (cZ x y 1 x y 1) = v at *
 rw [eX, eY]
 rw [eZ] at hv
 clear eX eY eZ hz h
 generalize h2 : 2 * y = t at *
 congr 1
 ·refine b0u h2y (b0u h2y ?_); grind -lia -linarith
 ·refine b0u h2y (b0u h2y (b0u h2y ?_)); grind -lia -linarith
def jk (X Y Z : K) : Pt := if Z = 0 then .O else .A (X * (c0B Z * c0B Z)) (Y * (c0B Z * c0B Z * c0B Z))
theorem t0d {X Y Z : K} (hz : Z ≠ 0) : jk X Y Z = .A (X * (c0B Z * c0B Z)) (Y * (c0B Z * c0B Z * c0B Z)) := by unfold jk; rw [if_neg hz]
theorem w0m {X Y Z : K} (hz : Z = 0) : jk X Y Z = .O := by unfold jk; rw [if_pos hz]
theorem w0n {X Y Z x y : K} (hz : Z ≠ 0) (hx : X = x * (Z * Z)) (hy : Y = y * (Z * Z * Z)) : jk X Y Z = .A x y := by
 rw [t0d hz]
 have h1 := a0U hz
 generalize c0B Z = u at *
 subst hx hy
 congr 1
 ·grind -lia -linarith
 ·grind -lia -linarith
theorem h0x {X Y Z : K} (hz : Z ≠ 0) (h : onC (jk X Y Z)) : ∃ x y, jk X Y Z = .A x y ∧ y * y = x * x * x + 7 ∧ X = x * (Z * Z) ∧ Y = y * (Z * Z * Z) := by
 refine ⟨_, _, t0d hz, ?_, ?_, ?_⟩
 ·rw [t0d hz] at h; exact h
 ·have h1 := a0U hz
  generalize c0B Z = u at *
  grind -lia -linarith
 ·have h1 := a0U hz
  generalize c0B Z = u at *
  grind -lia -linarith
theorem q0K {X Y Z : K} (h : onC (jk X Y Z)) (hz : Z ≠ 0) (a b bb d e x' : K) (ha : a = X * X) (hb : b = Y * Y) (hbb : bb = b * b) (hd : d = 2 * ((X + b) * (X + b) - (a + bb))) (he : e = 3 * a) (hx : x' = e * e - (d + d)) :
  jk x' (e * (d - x') - 8 * bb) (2 * (Y * Z)) = a0V (jk X Y Z) (jk X Y Z) := by
 obtain ⟨x, y, e0, hon, hX, hY⟩ := h0x hz h
 have hy := t0c hon
 have h2y : (2 : K) * y ≠ 0 := fun h => (a0t h).elim i0G hy
 have hu := a0U h2y
 rw [e0, g0o hon hu]
 generalize c0B (2 * y) = u at *
 have hz4 : Z * Z * (Z * Z) ≠ 0 := fun h => (a0t h).elim (fun h => (a0t h).elim hz hz) (fun h => (a0t h).elim hz hz)
 have eZ : 2 * (Y * Z) = (2 * y) * (Z * Z * (Z * Z)) := by rw [hY]; grind -lia -linarith
 refine w0n (by rw [eZ]; exact fun h => (a0t h).elim h2y hz4) ?_ ?_
 ·rw [eZ]; subst hx he hd hbb hb ha hX hY; clear e0 h hon hz4 h2y hy eZ hz
  grind -lia -linarith
 ·rw [eZ]; subst hx he hd hbb hb ha hX hY; clear e0 h hon hz4 h2y hy eZ hz
  grind -lia -linarith
theorem w0o {X1 Y1 Z1 X2 Y2 Z2 : K} (hp : onC (jk X1 Y1 Z1)) (hq : onC (jk X2 Y2 Z2)) (hz1 : Z1 ≠ 0) (hz2 : Z2 ≠ 0) (u1 u2 s1 s2 h r hh hhh v x : K) (e1 : u1 = X1 * (Z2 * Z2)) (e2 : u2 = X2 * (Z1 * Z1)) (e3 : s1 = Y1 * (Z2 * Z2 * Z2)) (e4 : s2 = Y2 * (Z1 * Z1 * Z1))
  (eh : h = u2 - u1) (er : r = s2 - s1) (hn : h ≠ 0) (ehh : hh = h * h) (ehhh : hhh = hh * h) (ev : v = u1 * hh) (ex : x = r * r - (hhh + (v + v))) :
  jk x (r * (v - x) - s1 * hhh) (h * (Z1 * Z2)) = a0V (jk X1 Y1 Z1) (jk X2 Y2 Z2) := by
 obtain ⟨x1, y1, f1, o1, hX1, hY1⟩ := h0x hz1 hp
 obtain ⟨x2, y2, f2, o2, hX2, hY2⟩ := h0x hz2 hq
 have hzz : Z1 * Z2 ≠ 0 := fun h => (a0t h).elim hz1 hz2
 have ehd : h = (x2 - x1) * ((Z1 * Z2) * (Z1 * Z2)) := by rw [eh, e1, e2, hX1, hX2]; grind -lia -linarith
 have erd : r = (y2 - y1) * ((Z1 * Z2) * (Z1 * Z2) * (Z1 * Z2)) := by rw [er, e3, e4, hY1, hY2]; grind -lia -linarith
 have eu : u1 = x1 * ((Z1 * Z2) * (Z1 * Z2)) := by rw [e1, hX1]; grind -lia -linarith
 have es : s1 = y1 * ((Z1 * Z2) * (Z1 * Z2) * (Z1 * Z2)) := by rw [e3, hY1]; grind -lia -linarith
 have hd0 : x2 - x1 ≠ 0 := fun hh => hn (by rw [ehd, hh]; grind -lia -linarith)
 have hu := a0U hd0
 rw [f1, f2, i0H o1 o2 hu]
 generalize c0B (x2 - x1) = u at *
 refine w0n (fun hh => (a0t hh).elim hn hzz) ?_ ?_
 ·subst ex ev ehhh ehh
  rw [erd, eu, ehd]
  clear e1 e2 e3 e4 eh er hn erd eu es ehd hX1 hX2 hY1 hY2 f1 f2 o1 o2 hp hq hz1 hz2 hd0
  generalize Z1 * Z2 = z at *
  generalize hdd : x2 - x1 = d at *
  have hx2 : x2 = x1 + d := by rw [← hdd]; grind -lia -linarith
  subst hx2; clear hdd
  generalize y2 - y1 = n at *
  grind -lia -linarith
 ·subst ex ev ehhh ehh
  rw [erd, eu, ehd, es]
  clear e1 e2 e3 e4 eh er hn erd eu es ehd hX1 hX2 hY1 hY2 f1 f2 o1 o2 hp hq hz1 hz2 hd0
  generalize Z1 * Z2 = z at *
  generalize hdd : x2 - x1 = d at *
  have hx2 : x2 = x1 + d := by rw [← hdd]; grind -lia -linarith
  subst hx2; clear hdd
  generalize y2 - y1 = n at *
  grind -lia -linarith
theorem w0p {X1 Y1 Z1 X2 Y2 Z2 : K} (hp : onC (jk X1 Y1 Z1)) (hq : onC (jk X2 Y2 Z2)) (hz1 : Z1 ≠ 0) (hz2 : Z2 ≠ 0) (h : X2 * (Z1 * Z1) - X1 * (Z2 * Z2) = 0) :
  (Y2 * (Z1 * Z1 * Z1) - Y1 * (Z2 * Z2 * Z2) = 0 → jk X2 Y2 Z2 = jk X1 Y1 Z1) ∧ (Y2 * (Z1 * Z1 * Z1) - Y1 * (Z2 * Z2 * Z2) ≠ 0 → a0V (jk X1 Y1 Z1) (jk X2 Y2 Z2) = .O) := by
 obtain ⟨x1, y1, f1, o1, hX1, hY1⟩ := h0x hz1 hp
 obtain ⟨x2, y2, f2, o2, hX2, hY2⟩ := h0x hz2 hq
 have hzz : Z1 * Z2 ≠ 0 := fun h => (a0t h).elim hz1 hz2
 have hx : x2 = x1 := by
  refine b0u hzz (b0u hzz ?_)
  rw [hX1, hX2] at h; grind -lia -linarith
 subst hx
 have hyy : (y2 - y1) * (y2 + y1) = 0 := by grind -lia -linarith
 refine ⟨fun hy => ?_, fun hy => ?_⟩
 ·have : y2 = y1 := by
   refine b0u hzz (b0u hzz (b0u hzz ?_))
   rw [hY1, hY2] at hy; grind -lia -linarith
  rw [f1, f2, this]
 ·rcases a0t hyy with h1 | h1
  ·exfalso
   refine hy ?_
   have e : y2 = y1 := by grind -lia -linarith
   rw [hY1, hY2, e]; grind -lia -linarith
  ·have e : y2 = -y1 := by grind -lia -linarith
   rw [f1, f2, e]
   exact d0a (p := .A x2 y1)
def a0R : Nat → Pt → Pt
 | 0, _ => .O
 | n + 1, p => a0V (a0R n p) p
theorem a0N {p : Pt} (hp : onC p) : ∀ n, onC (a0R n p)
 | 0 => trivial
 | n + 1 => c0w (a0N hp n) hp
theorem b0z {p : Pt} (hp : onC p) (m : Nat) : ∀ n, a0R (m + n) p = a0V (a0R m p) (a0R n p)
 | 0 => (b0P _).symm
 | n + 1 => by
  show a0V (a0R (m + n) p) p = a0V (a0R m p) (a0V (a0R n p) p)
  rw [b0z hp m n, a0Q (a0N hp m) (a0N hp n) hp]
theorem d0R {p : Pt} (hp : onC p) (m : Nat) : ∀ n, a0R (m * n) p = a0R n (a0R m p)
 | 0 => rfl
 | n + 1 => by
  rw [Nat.mul_succ, b0z hp, d0R hp m n]; rfl
theorem k0N : ∀ n, a0R n .O = .O
 | 0 => rfl
 | n + 1 => by rw [a0R, k0N n]; rfl
theorem k0O {p q : Pt} (hp : onC p) (hq : onC q) : ∀ n, a0R n (a0V p q) = a0V (a0R n p) (a0R n q)
 | 0 => rfl
 | n + 1 => by
  have h1 := a0N hp n
  have h2 := a0N hq n
  simp only [a0R]
  rw [k0O hp hq n, a0Q h1 h2 (c0w hp hq), a0Q h1 hp (c0w h2 hq), ← a0Q h2 hp hq, c0x (a0R n q) p, a0Q hp h2 hq]
end Mvq
namespace Mvq
theorem w0q : Mvp.pP = fP := by decide
theorem h0y (a b : Nat) : kc (a + b) = kc a + kc b := by rw [← u0K, e0M]
theorem c0P (a b : Nat) : kc (a + (fP - b % fP)) = kc a - kc b := by
 have h : kc (a + (fP - b % fP)) + kc b = kc a := by
  rw [← h0y]
  apply Fin.ext
  simp only [kc, Fin.ofNat]
  have h1 := Nat.div_add_mod b fP
  have h2 : b % fP < fP := Nat.mod_lt _ ap2
  rw [show a + (fP - b % fP) + b = a + fP * (b / fP + 1) by rw [Nat.mul_add]; omega, Nat.add_mul_mod_self_left]
 rw [← h]; generalize kc b = u; generalize kc (a + (fP - b % fP)) = v; grind -lia -linarith
theorem q0L (b : Nat) : kc (fP - b % fP) = - kc b := by
 have h := c0P 0 b
 rw [Nat.zero_add] at h
 have h0 : kc 0 = 0 := by decide
 rw [h, h0]; generalize kc b = u; grind -lia -linarith
theorem q0M (a : Nat) : (a % fP == 0) = decide (kc a = 0) := by
 rw [Bool.eq_iff_iff]
 simp only [beq_iff_eq, decide_eq_true_eq]
 constructor
 ·intro h
  apply Fin.ext
  simp only [kc, Fin.ofNat]
  exact h
 ·intro h
  have := congrArg Fin.val h
  exact this
theorem y0E (a b : Nat) : (a % fP == b % fP) = decide (kc a = kc b) := by
 rw [Bool.eq_iff_iff]
 simp only [beq_iff_eq, decide_eq_true_eq]
 constructor
 ·intro h
  apply Fin.ext
  simp only [kc, Fin.ofNat]
  exact h
 ·intro h
  have := congrArg Fin.val h
  simpa only [kc, Fin.ofNat] using this
theorem w0r {X Y Z : K} (hz : Z ≠ 0) : nm X Y Z = .A (X * c0B Z) (Y * c0B Z) := by unfold nm; rw [if_neg hz]
theorem A0V {X Y Z : K} (hz : Z = 0) : nm X Y Z = .O := by unfold nm; rw [if_pos hz]
theorem q0N {X Y Z x y : K} (hz : Z ≠ 0) (hx : X = x * Z) (hy : Y = y * Z) : nm X Y Z = .A x y := by
 rw [w0r hz]
 have h1 := a0U hz
 generalize c0B Z = u at *
 subst hx hy
 congr 1
 ·grind -lia -linarith
 ·grind -lia -linarith
theorem m0q {X Y Z : K} (hz : Z ≠ 0) (h : onC (nm X Y Z)) : ∃ x y, nm X Y Z = .A x y ∧ y * y = x * x * x + 7 ∧ X = x * Z ∧ Y = y * Z := by
 refine ⟨_, _, w0r hz, ?_, ?_, ?_⟩
 ·rw [w0r hz] at h; exact h
 ·have h1 := a0U hz
  generalize c0B Z = u at *
  grind -lia -linarith
 ·have h1 := a0U hz
  generalize c0B Z = u at *
  grind -lia -linarith
theorem q0O {X Y Z : K} (h : onC (nm X Y Z)) (hz : Z ≠ 0) (xx d e ee eee t : K) (h1 : xx = X * X) (h2 : d = 3 * xx) (h3 : e = 2 * Y * Z) (h4 : ee = e * e) (h5 : eee = ee * e) (h6 : t = d * d * Z - 2 * X * ee) :
  nm (e * t) (d * (X * ee - t) - Y * eee) (eee * Z) = a0V (nm X Y Z) (nm X Y Z) := by
 obtain ⟨x, y, e0, hon, hX, hY⟩ := m0q hz h
 have hy := t0c hon
 have h2y : (2 : K) * y ≠ 0 := fun h => (a0t h).elim i0G hy
 have hu := a0U h2y
 rw [e0, g0o hon hu]
 generalize c0B (2 * y) = u at *
 have he : e = (2 * y) * (Z * Z) := by rw [h3, hY]; grind -lia -linarith
 have hzz : Z * Z ≠ 0 := fun h => (a0t h).elim hz hz
 have he0 : e ≠ 0 := by rw [he]; exact fun h => (a0t h).elim h2y hzz
 refine q0N (by rw [h5, h4]; exact fun h => (a0t h).elim (fun h => (a0t h).elim (fun h => (a0t h).elim he0 he0) he0) hz) ?_ ?_
 ·subst h6 h5 h4 h2 h1 hX hY
  rw [he]
  clear e0 h hon hzz h2y hy hz he0 he h3
  grind -lia -linarith
 ·subst h6 h5 h4 h2 h1 hX hY
  rw [he]
  clear e0 h hon hzz h2y hy hz he0 he h3
  grind -lia -linarith
theorem w0s {X1 Y1 Z1 X2 Y2 Z2 : K} (hp : onC (nm X1 Y1 Z1)) (hq : onC (nm X2 Y2 Z2)) (hz1 : Z1 ≠ 0) (hz2 : Z2 ≠ 0) (u v u2 v2 d e w ee eee t : K) (e1 : u = Y2 * Z1) (e2 : v = X2 * Z1) (e3 : u2 = Y1 * Z2) (e4 : v2 = X1 * Z2)
  (ed : d = u - u2) (ee' : e = v - v2) (hn : e ≠ 0) (ew : w = Z1 * Z2) (h4 : ee = e * e) (h5 : eee = ee * e) (h6 : t = d * d * w - eee - 2 * v2 * ee) :
  nm (e * t) (d * (v2 * ee - t) - u2 * eee) (eee * w) = a0V (nm X1 Y1 Z1) (nm X2 Y2 Z2) := by
 obtain ⟨x1, y1, f1, o1, hX1, hY1⟩ := m0q hz1 hp
 obtain ⟨x2, y2, f2, o2, hX2, hY2⟩ := m0q hz2 hq
 have hzz : w ≠ 0 := by rw [ew]; exact fun h => (a0t h).elim hz1 hz2
 have ehd : e = (x2 - x1) * w := by rw [ee', e2, e4, hX1, hX2, ew]; grind -lia -linarith
 have erd : d = (y2 - y1) * w := by rw [ed, e1, e3, hY1, hY2, ew]; grind -lia -linarith
 have eu : v2 = x1 * w := by rw [e4, hX1, ew]; grind -lia -linarith
 have es : u2 = y1 * w := by rw [e3, hY1, ew]; grind -lia -linarith
 have hd0 : x2 - x1 ≠ 0 := fun hh => hn (by rw [ehd, hh]; grind -lia -linarith)
 have hu := a0U hd0
 rw [f1, f2, i0H o1 o2 hu]
 generalize c0B (x2 - x1) = z at *
 refine q0N (by rw [h5, h4]; exact fun h => (a0t h).elim (fun h => (a0t h).elim (fun h => (a0t h).elim hn hn) hn) hzz) ?_ ?_
 ·subst h6 h5 h4
  rw [erd, eu, ehd]
  clear e1 e2 e3 e4 ed ee' hn erd eu es ehd hX1 hX2 hY1 hY2 f1 f2 o1 o2 hp hq hz1 hz2 hd0 ew hzz
  generalize hdd : x2 - x1 = dd at *
  have hx2 : x2 = x1 + dd := by rw [← hdd]; grind -lia -linarith
  subst hx2; clear hdd
  generalize y2 - y1 = n at *
  grind -lia -linarith
 ·subst h6 h5 h4
  rw [erd, eu, ehd, es]
  clear e1 e2 e3 e4 ed ee' hn erd eu es ehd hX1 hX2 hY1 hY2 f1 f2 o1 o2 hp hq hz1 hz2 hd0 ew hzz
  generalize hdd : x2 - x1 = dd at *
  have hx2 : x2 = x1 + dd := by rw [← hdd]; grind -lia -linarith
  subst hx2; clear hdd
  generalize y2 - y1 = n at *
  grind -lia -linarith
def e0F : List (Nat × Pt) → Pt
 | [] => .O
 | (n, p) :: l => a0V (a0R n p) (e0F l)
theorem e0X : ∀ (l : List (Nat × Pt)), (∀ t ∈ l, onC t.2) → onC (e0F l)
 | [], _ => trivial
 | (n, p) :: l, h => c0w (a0N (h (n, p) ap4) n) (e0X l fun t ht => h t (List.mem_cons_of_mem _ ht))
def p0n (k : Nat) (l : List (Nat × Pt)) : List (Nat × Pt) := l.map fun t => (t.1 / 16 ^ k, t.2)
def dig (k n : Nat) : Nat := n / 16 ^ k % 16
theorem k0P (k : Nat) : ∀ (l : List (Nat × Pt)), (∀ t ∈ l, onC t.2) → e0F (p0n k l) = a0V (a0R 16 (e0F (p0n (k + 1) l))) (e0F (l.map fun t => (dig k t.1, t.2)))
 | [], _ => (by rw [show e0F (p0n (k + 1) []) = .O from rfl, k0N]; rfl)
 | (n, p) :: l, h => by
  have hl : ∀ t ∈ l, onC t.2 := fun t ht => h t (List.mem_cons_of_mem _ ht)
  have hp : onC p := h (n, p) ap4
  have ih := k0P k l hl
  have hL : onC (e0F (p0n (k + 1) l)) := e0X _ fun t ht => by
   obtain ⟨u, hu, rfl⟩ := List.mem_map.1 ht; exact hl u hu
  have hD : onC (e0F (l.map fun t => (dig k t.1, t.2))) := e0X _ fun t ht => by
   obtain ⟨u, hu, rfl⟩ := List.mem_map.1 ht; exact hl u hu
  show a0V (a0R (n / 16 ^ k) p) (e0F (p0n k l)) = a0V (a0R 16 (a0V (a0R (n / 16 ^ (k + 1)) p) (e0F (p0n (k + 1) l)))) (a0V (a0R (dig k n) p) (e0F (l.map fun t => (dig k t.1, t.2))))
  have e : n / 16 ^ k = n / 16 ^ (k + 1) * 16 + dig k n := by
   unfold dig; rw [Nat.pow_succ, ← Nat.div_div_eq_div_mul]; omega
  rw [ih, e, b0z hp, d0R hp, k0O (a0N hp _) hL]
  generalize hA : a0R 16 (a0R (n / 16 ^ (k + 1)) p) = a
  generalize hB : a0R (dig k n) p = b
  generalize hC : a0R 16 (e0F (p0n (k + 1) l)) = c
  generalize hDD : e0F (l.map fun t => (dig k t.1, t.2)) = d at *
  have ha : onC a := by rw [← hA]; exact a0N (a0N hp _) _
  have hb : onC b := by rw [← hB]; exact a0N hp _
  have hc : onC c := by rw [← hC]; exact a0N hL _
  rw [a0Q ha hb (c0w hc hD), a0Q ha hc (c0w hb hD), ← a0Q hb hc hD, ← a0Q hc hb hD, c0x b c]
theorem w0t {p : Pt} (hp : onC p) : a0R 16 p = a0V (a0V (a0V (a0V p p) (a0V p p)) (a0V (a0V p p) (a0V p p))) (a0V (a0V (a0V p p) (a0V p p)) (a0V (a0V p p) (a0V p p))) := by
 have h2 : ∀ q, a0V q q = a0R 2 q := fun q => by show _ = a0V (a0V .O q) q; rfl
 have e2 : a0V p p = a0R 2 p := h2 p
 have e4 : a0V (a0R 2 p) (a0R 2 p) = a0R 4 p := (b0z hp 2 2).symm
 have e8 : a0V (a0R 4 p) (a0R 4 p) = a0R 8 p := (b0z hp 4 4).symm
 have e16 : a0V (a0R 8 p) (a0R 8 p) = a0R 16 p := (b0z hp 8 8).symm
 rw [e2, e4, e8, e16]
theorem t0e {p : Pt} (hp : onC p) (n k : Nat) : a0R (n / 2 ^ k) p = a0V (a0V (a0R (n / 2 ^ (k + 1)) p) (a0R (n / 2 ^ (k + 1)) p)) (if n / 2 ^ k % 2 = 1 then p else .O) := by
 have e : n / 2 ^ k = n / 2 ^ (k + 1) + n / 2 ^ (k + 1) + n / 2 ^ k % 2 := by
  rw [Nat.pow_succ, ← Nat.div_div_eq_div_mul]; omega
 have h1 : a0R (n / 2 ^ k % 2) p = if n / 2 ^ k % 2 = 1 then p else .O := by
  split
  ·rename_i h; rw [h]; exact q0I p
  ·rename_i h; rw [show n / 2 ^ k % 2 = 0 by omega]; rfl
 rw [← h1, ← b0z hp, ← b0z hp, ← e]
end Mvq
namespace Mvq
open Mvp
def jN (x y z : Nat) : Pt := jk (kc x) (kc y) (kc z)
theorem j0w (M : Nat) (hM : M = fP) (a b : Nat) : kc (a + (M - b % M)) = kc a - kc b := by subst hM; exact c0P a b
theorem p0o (M : Nat) (hM : M = fP) (z : Nat) (b : Bool) (h : (z % M == 0) = b) : decide (kc z = 0) = b := by subst hM; rw [← q0M]; exact h
theorem d0b : mP.M = fP := w0q
end Mvq
namespace Go.Proofs.YtpfimiajoifjaaaGreat
section
open Go.RowKit Go.Mv Mvp Mvq
theorem k0Q (x y z : Nat) (ho : onC (jN x y z)) :
  ∃ X Y Z, jN X Y Z = a0V (jN x y z) (jN x y z) ∧ ∀ gc gp bx by_ wx, Has wx gc (d0v mP gp bx by_) 184 → Has wx gp (mdL mP) 234 → Calls Tryz.prog 193 #[.pointer (some ⟨gc, 0, none⟩), ptV mP x y z] wx fun e w' => e = .returned (ptV mP X Y Z) ∧ Fr Nob wx w' := by
 cases hb : (z % mP.M == 0)
 ·have hz : kc z ≠ 0 := by
   have := p0o _ d0b z _ hb
   simpa using this
  refine ⟨_, _, _, ?_, fun gc gp bx by_ wx hcv hpm => s0U mP gc gp bx by_ wx c0N hcv hpm x y z hb _ _ _ _ _ _ _ _ _ _ _ _ _ _ _ _ _ _ _ _ _ rfl rfl rfl rfl rfl rfl rfl rfl rfl rfl rfl rfl rfl rfl rfl rfl rfl rfl rfl rfl rfl⟩
  have h := q0K ho hz _ _ _ _ _ _ rfl rfl rfl rfl rfl rfl
  unfold jN at *
  rw [← h]
  simp only [j0w _ d0b, h0y, a0A]
  generalize kc x = a; generalize kc y = b; generalize kc z = c
  congr 1
  ·grind -lia -linarith
  ·grind -lia -linarith
  ·grind -lia -linarith
 ·have hz : kc z = 0 := by
   have := p0o _ d0b z _ hb
   simpa using this
  refine ⟨x, y, z, ?_, fun gc gp bx by_ wx hcv hpm => m0j mP gc gp bx by_ wx c0N hcv hpm x y z hb⟩
  unfold jN
  rw [w0m hz]; rfl
end
section
open Go.RowKit Go.Mv Mvp
attribute [local irreducible] a0v lw mix cw b0e b0f b0a beN b0l b0b a0z a0F elN mdL b0m
theorem h0z (m : Md) (gc gp bx by_ : Nat) (w : World) (hok : m.Ok) (hcv : Has w gc (d0v m gp bx by_) 184) (hpm : Has w gp (mdL m) 234) :
  Calls Tryz.prog 192 #[.pointer (some ⟨gc, 0, none⟩)] w fun e w' => e = .returned (ptV m 1 1 0) ∧ Fr Nob w w' := by
 have HOK := qH hok
 have HCV := qH hcv
 have HPM := qH hpm
 clear hok hcv hpm
 have st0 := St.start Nob w
 go_enter Tryz.func192, Tryz.ntmps192
 go_wp2_with (with_reducible refine wSk 2 ?_)
 refine a0b st0 rfl rfl (z := zAc) ap0 (cw 12 0) ap5 ?_
 intro g2 w1 st1
 clear st0
 go_wp2_with fail
 refine wp_region_noPanic ?_
 refine a0k st1 11 [.w 0, .w 1, .w 2, .t 3, .w 5, .w 6, .w 7, .t 8, .c 4, .c 9, .w 10] (.m 11 .nil) ap0 ap0 (fun _ _ _ _ _ h => h) ?_
 clear st1
 iterate 3 (refine a0n rfl rfl apX ?_; try simp only [clL])
 refine a0P (v := ?_) rfl rfl (fun xq wx hS => ?_) ?_
 rotate_left 1
 ·(have hc := (HCV.out.keep (St.fr hS) id).cell (i := 0) rfl; clear hS; go_simp; with_reducible rfl)
 try simp only [clL]
 iterate 3 (refine a0n rfl rfl apX ?_; try simp only [clL])
 refine a0P (v := ?_) rfl rfl (fun xq wx hS => ?_) ?_
 rotate_left 1
 ·(have hc := (HCV.out.keep (St.fr hS) id).cell (i := 0) rfl; clear hS; go_simp; with_reducible rfl)
 try simp only [clL]
 refine a0l rfl rfl rfl Tryz.call187 (fun w hS hR => d0O m gp _ HOK.out (HPM.out.keep hS.fr id)) (fun _ => rfl) ?_
 try simp only [clL]
 refine a0l rfl rfl rfl Tryz.call187 (fun w hS hR => d0O m gp _ HOK.out (HPM.out.keep hS.fr id)) (fun _ => rfl) ?_
 try simp only [clL]
 refine a0n rfl rfl (fun _ => b0v rfl _ (q0E _ _)) ?_
 try simp only [clL]
 refine a0J fun xq w2 st2 hR => ?_
 try dsimp only
 clear hR xq
 refine a0o rfl rfl ?_
 refine a0i st2 0 rfl rfl rfl rfl ap8 ap0 (b0p _ _ _) ?_
 intro w3 st3
 try simp only [List.nil_append, List.set_cons_zero] at st3
 clear st2
 try simp only [Act.put]
 refine a0e ?_
 refine NoPanic.normal ?_
 have hr := st3.at 0 rfl
 have hfr := st3.fr
 clear st3
 go_wp2_with fail
 exact bodyPost_ret (a0y rfl rfl hr Tryz.underlying174 rfl ap0) rfl ⟨by unfold ptV ptL; rw [d0u], hfr⟩
theorem k0R (m : Md) (gc gp bx by_ : Nat) (w : World) (hok : m.Ok) (hcv : Has w gc (d0v m gp bx by_) 184) (hpm : Has w gp (mdL m) 234) :
  Calls Tryz.prog 192 #[.pointer (some ⟨gc, 0, none⟩)] w fun e w' => e = .returned (.agg (cw 4 (elN m 1) ++ (cw 4 (elN m 1) ++ cw 4 (elN m 0))).toArray) ∧ Fr Nob w w' := h0z m gc gp bx by_ w hok hcv hpm
theorem o0L (m : Md) (gc gp bx by_ : Nat) (w : World) (hok : m.Ok) (hcv : Has w gc (d0v m gp bx by_) 184) (hpm : Has w gp (mdL m) 234) (x1 y1 z1 x2 y2 z2 : Nat) (hb1 : (z1 % m.M == 0) = true) :
  Calls Tryz.prog 194 #[.pointer (some ⟨gc, 0, none⟩), ptV m x1 y1 z1, ptV m x2 y2 z2] w fun e w' => e = .returned (ptV m x2 y2 z2) ∧ Fr Nob w w' := by
 have HOK := qH hok
 have HCV := qH hcv
 have HPM := qH hpm
 clear hok hcv hpm
 have HB1 := qH hb1
 clear hb1
 unfold ptV ptL
 have st0 := St.start Nob w
 go_enter Tryz.func194, Tryz.ntmps194
 go_wp2_with (with_reducible refine wSk 4 ?_)
 refine a0r st0 rfl rfl rfl (cw 4 (elN m x1) ++ (cw 4 (elN m y1) ++ cw 4 (elN m z1))) rfl ?_
 intro g4 w1 st1
 clear st0
 go_wp2_with (with_reducible refine wSk 5 ?_)
 refine a0r st1 rfl rfl rfl (cw 4 (elN m x2) ++ (cw 4 (elN m y2) ++ cw 4 (elN m z2))) rfl ?_
 intro g5 w2 st2
 clear st1
 go_wp2_with (with_reducible refine wSk 6 ?_)
 refine a0b st2 rfl rfl (z := zAc) ap0 (cw 12 0) ap5 ?_
 intro g6 w3 st3
 clear st2
 go_wp2_with (with_reducible refine wSk 20 ?_)
 refine a0s st3 0 rfl rfl rfl Tryz.underlying174 rfl rfl ap0 ?_
 go_wp2_with fail
 refine (c0Z m HOK.out x1 y1 z1 true HB1.out _).mono ?_
 rintro e' w4 ⟨rfl, hf4⟩
 have st4 := st3.keep hf4
 clear st3 hf4
 go_wp2_with (with_reducible refine wSk 22 ?_)
 refine a0s st4 1 rfl rfl rfl Tryz.underlying174 rfl rfl ap0 ?_
 go_wp2_with (with_reducible refine wSn ?_)
 refine a0c st4 2 rfl rfl rfl rfl rfl ap8 ap0 (b0p _ _ _) ?_
 intro w5 st5
 clear st4
 have hr := st5.at 2 rfl
 have hfr := st5.fr
 clear st5
 go_wp2_with fail
 exact bodyPost_ret (a0y rfl rfl hr Tryz.underlying174 rfl ap0) rfl ⟨rfl, hfr⟩
theorem o0M (m : Md) (gc gp bx by_ : Nat) (w : World) (hok : m.Ok) (hcv : Has w gc (d0v m gp bx by_) 184) (hpm : Has w gp (mdL m) 234) (x1 y1 z1 x2 y2 z2 : Nat) (hb1 : (z1 % m.M == 0) = false) (hb2 : (z2 % m.M == 0) = true) :
  Calls Tryz.prog 194 #[.pointer (some ⟨gc, 0, none⟩), ptV m x1 y1 z1, ptV m x2 y2 z2] w fun e w' => e = .returned (ptV m x1 y1 z1) ∧ Fr Nob w w' := by
 have HOK := qH hok
 have HCV := qH hcv
 have HPM := qH hpm
 clear hok hcv hpm
 have HB1 := qH hb1
 have HB2 := qH hb2
 clear hb1 hb2
 unfold ptV ptL
 have st0 := St.start Nob w
 go_enter Tryz.func194, Tryz.ntmps194
 go_wp2_with (with_reducible refine wSk 4 ?_)
 refine a0r st0 rfl rfl rfl (cw 4 (elN m x1) ++ (cw 4 (elN m y1) ++ cw 4 (elN m z1))) rfl ?_
 intro g4 w1 st1
 clear st0
 go_wp2_with (with_reducible refine wSk 5 ?_)
 refine a0r st1 rfl rfl rfl (cw 4 (elN m x2) ++ (cw 4 (elN m y2) ++ cw 4 (elN m z2))) rfl ?_
 intro g5 w2 st2
 clear st1
 go_wp2_with (with_reducible refine wSk 6 ?_)
 refine a0b st2 rfl rfl (z := zAc) ap0 (cw 12 0) ap5 ?_
 intro g6 w3 st3
 clear st2
 go_wp2_with (with_reducible refine wSk 20 ?_)
 refine a0s st3 0 rfl rfl rfl Tryz.underlying174 rfl rfl ap0 ?_
 go_wp2_with fail
 refine (c0Z m HOK.out x1 y1 z1 false HB1.out _).mono ?_
 rintro e' w4 ⟨rfl, hf4⟩
 have st4 := st3.keep hf4
 clear st3 hf4
 go_wp2_with (with_reducible refine wSk 24 ?_)
 refine a0s st4 1 rfl rfl rfl Tryz.underlying174 rfl rfl ap0 ?_
 go_wp2_with fail
 refine (c0Z m HOK.out x2 y2 z2 true HB2.out _).mono ?_
 rintro e' w5 ⟨rfl, hf5⟩
 have st5 := st4.keep hf5
 clear st4 hf5
 go_wp2_with (with_reducible refine wSk 26 ?_)
 refine a0s st5 0 rfl rfl rfl Tryz.underlying174 rfl rfl ap0 ?_
 go_wp2_with (with_reducible refine wSn ?_)
 refine a0c st5 2 rfl rfl rfl rfl rfl ap8 ap0 (b0p _ _ _) ?_
 intro w6 st6
 clear st5
 have hr := st6.at 2 rfl
 have hfr := st6.fr
 clear st6
 go_wp2_with fail
 exact bodyPost_ret (a0y rfl rfl hr Tryz.underlying174 rfl ap0) rfl ⟨rfl, hfr⟩
end
section
open Go.RowKit Go.Mv Mvp
attribute [local irreducible] a0v lw mix cw b0e b0f b0a beN b0l b0b a0z a0F elN mdL b0m
def A0i (b c : Bool) (u v x : Value) : Value := match b, c with
 | false, _ => x
 | true, false => v
 | true, true => u
theorem q0P (m : Md) (gc gp bx by_ : Nat) (w : World) (hok : m.Ok) (hcv : Has w gc (d0v m gp bx by_) 184) (hpm : Has w gp (mdL m) 234) (x1 y1 z1 x2 y2 z2 : Nat) (hb1 : (z1 % m.M == 0) = false) (hb2 : (z2 % m.M == 0) = false) (pp qq u1 u2 q3 s1 p3 s2 hd rr hh h3 v r2 v2 t1 X t2 t3 t4 Y zz Z DX DY DZ : Nat) (epp : z1 * z1 = pp) (eqq : z2 * z2 = qq) (eu1 : x1 * qq = u1) (eu2 : x2 * pp = u2) (eq3 : qq * z2 = q3) (es1 : y1 * q3 = s1) (ep3 : pp * z1 = p3) (es2 : y2 * p3 = s2) (ehd : u2 + (m.M - u1 % m.M) = hd) (err : s2 + (m.M - s1 % m.M) = rr) (ehh : hd * hd = hh) (eh3 : hh * hd = h3) (ev : u1 * hh = v) (er2 : rr * rr = r2) (ev2 : v + v = v2) (et1 : h3 + v2 = t1) (eX : r2 + (m.M - t1 % m.M) = X) (et2 : v + (m.M - X % m.M) = t2) (et3 : rr * t2 = t3) (et4 : s1 * h3 = t4) (eY : t3 + (m.M - t4 % m.M) = Y) (ezz : z1 * z2 = zz) (eZ : hd * zz = Z) (hd0 : ((hd % m.M == 0) = true → (rr % m.M == 0) = true → ∀ wx, Fr Nob w wx → Calls Tryz.prog 193 #[.pointer (some ⟨gc, 0, none⟩), ptV m x1 y1 z1] wx fun e w' => e = .returned (ptV m DX DY DZ) ∧ Fr Nob wx w')) :
  Calls Tryz.prog 194 #[.pointer (some ⟨gc, 0, none⟩), ptV m x1 y1 z1, ptV m x2 y2 z2] w fun e w' => e = .returned (A0i (hd % m.M == 0) (rr % m.M == 0) (ptV m DX DY DZ) (ptV m 1 1 0) (ptV m X Y Z)) ∧ Fr Nob w w' := by
 have HOK := qH hok
 have HCV := qH hcv
 have HPM := qH hpm
 clear hok hcv hpm
 have HB1 := qH hb1
 have HB2 := qH hb2
 have Hpp := qH epp
 have Hqq := qH eqq
 have Hu1 := qH eu1
 have Hu2 := qH eu2
 have Hq3 := qH eq3
 have Hs1 := qH es1
 have Hp3 := qH ep3
 have Hs2 := qH es2
 have Hhd := qH ehd
 have Hrr := qH err
 have Hhh := qH ehh
 have Hh3 := qH eh3
 have Hv := qH ev
 have Hr2 := qH er2
 have Hv2 := qH ev2
 have Ht1 := qH et1
 have HX := qH eX
 have Ht2 := qH et2
 have Ht3 := qH et3
 have Ht4 := qH et4
 have HY := qH eY
 have Hzz := qH ezz
 have HZ := qH eZ
 have HD0 := qH hd0
 clear hd0 hb1 hb2 epp eqq eu1 eu2 eq3 es1 ep3 es2 ehd err ehh eh3 ev er2 ev2 et1 eX et2 et3 et4 eY ezz eZ
 unfold ptV ptL
 have st0 := St.start Nob w
 go_enter Tryz.func194, Tryz.ntmps194
 go_wp2_with (with_reducible refine wSk 4 ?_)
 refine a0r st0 rfl rfl rfl (cw 4 (elN m x1) ++ (cw 4 (elN m y1) ++ cw 4 (elN m z1))) rfl ?_
 intro g4 w1 st1
 clear st0
 go_wp2_with (with_reducible refine wSk 5 ?_)
 refine a0r st1 rfl rfl rfl (cw 4 (elN m x2) ++ (cw 4 (elN m y2) ++ cw 4 (elN m z2))) rfl ?_
 intro g5 w2 st2
 clear st1
 go_wp2_with (with_reducible refine wSk 6 ?_)
 refine a0b st2 rfl rfl (z := zAc) (by kernel_rfl) (cw 12 0) (by rw [e0l]; rfl) ?_
 intro g6 w3 st3
 clear st2
 go_wp2_with (with_reducible refine wSk 20 ?_)
 refine a0s st3 0 rfl rfl rfl Tryz.underlying174 rfl rfl (by kernel_rfl) ?_
 go_wp2_with fail
 refine (c0Z m HOK.out x1 y1 z1 false HB1.out _).mono ?_
 rintro e' w4 ⟨rfl, hf4⟩
 have st4 := st3.keep hf4
 clear st3 hf4
 go_wp2_with (with_reducible refine wSk 24 ?_)
 refine a0s st4 1 rfl rfl rfl Tryz.underlying174 rfl rfl (by kernel_rfl) ?_
 go_wp2_with fail
 refine (c0Z m HOK.out x2 y2 z2 false HB2.out _).mono ?_
 rintro e' w5 ⟨rfl, hf5⟩
 have st5 := st4.keep hf5
 clear st4 hf5
 go_wp2_with fail
 refine wp_region_noPanic ?_
 refine a0k st5 17 [.o 14, .o 15, .w 0, .w 1, .w 2, .t 3, .w 4, .t 5, .w 7, .w 8, .w 9, .t 10, .w 11, .t 12, .c 6, .c 13, .j 14, .j 15] (.r 16 (.m 17 .nil)) (by kernel_rfl) (by kernel_rfl) (fun _ _ _ _ _ h => h) ?_
 clear st5
 refine c0K rfl rfl rfl i0b (cw 4 0) rfl ?_
 try simp only [clL]
 refine c0K rfl rfl rfl i0b (cw 4 0) rfl ?_
 try simp only [clL]
 refine a0n (v := ?_) rfl rfl (fun xq wx => ?_) ?_
 rotate_left 1
 ·(go_simp; with_reducible rfl)
 try simp only [clL]
 refine a0n (v := ?_) rfl rfl (fun xq wx => ?_) ?_
 rotate_left 1
 ·(go_simp; with_reducible rfl)
 try simp only [clL]
 refine a0n (v := ?_) rfl rfl (fun xq wx => ?_) ?_
 rotate_left 1
 ·(go_simp; with_reducible rfl)
 try simp only [clL]
 refine a0P (v := ?_) rfl rfl (fun xq wx hS => ?_) ?_
 rotate_left 1
 ·(have hc := (HCV.out.keep (St.fr hS) id).cell (i := 0) rfl; clear hS; go_simp; with_reducible rfl)
 try simp only [clL]
 refine a0n (v := ?_) rfl rfl (fun xq wx => ?_) ?_
 rotate_left 1
 ·(go_simp; with_reducible rfl)
 try simp only [clL]
 refine a0j rfl rfl rfl (fun _ => rfl) (cw 4 (elN m z1)) (fun wx hS => St.rangeL hS 0 rfl 8 _ (s0k _ _ _)) Tryz.underlying123 rfl (by kernel_rfl) ?_
 try simp only [clL]
 refine a0n (v := ?_) rfl rfl (fun xq wx => ?_) ?_
 rotate_left 1
 ·(go_simp; with_reducible rfl)
 try simp only [clL]
 refine a0n (v := ?_) rfl rfl (fun xq wx => ?_) ?_
 rotate_left 1
 ·(go_simp; with_reducible rfl)
 try simp only [clL]
 refine a0n (v := ?_) rfl rfl (fun xq wx => ?_) ?_
 rotate_left 1
 ·(go_simp; with_reducible rfl)
 try simp only [clL]
 refine a0P (v := ?_) rfl rfl (fun xq wx hS => ?_) ?_
 rotate_left 1
 ·(have hc := (HCV.out.keep (St.fr hS) id).cell (i := 0) rfl; clear hS; go_simp; with_reducible rfl)
 try simp only [clL]
 refine a0n (v := ?_) rfl rfl (fun xq wx => ?_) ?_
 rotate_left 1
 ·(go_simp; with_reducible rfl)
 try simp only [clL]
 refine a0j rfl rfl rfl (fun _ => rfl) (cw 4 (elN m z2)) (fun wx hS => St.rangeL hS 1 rfl 8 _ (s0k _ _ _)) Tryz.underlying123 rfl (by kernel_rfl) ?_
 try simp only [clL]
 refine a0l rfl rfl rfl Tryz.call189 (fun w hS hR => b0C m gp _ HOK.out (HPM.out.keep hS.fr id) z1 pp Hpp.out) (fun _ => rfl) ?_
 try simp only [clL]
 refine a0l rfl rfl rfl Tryz.call189 (fun w hS hR => b0C m gp _ HOK.out (HPM.out.keep hS.fr id) z2 qq Hqq.out) (fun _ => rfl) ?_
 try simp only [clL]
 refine c0A (List.mem_cons_of_mem _ List.mem_cons_self) fun g7 => ?_
 simp only [upd, reduceIte]
 try simp only [Nat.reduceEqDiff, reduceIte]
 refine c0A List.mem_cons_self fun g8 => ?_
 simp only [upd, reduceIte]
 refine a0J fun xq w6 st6 hR => ?_
 try dsimp only
 clear hR xq
 refine a0q rfl rfl ?_
 refine a0i st6 3 rfl rfl rfl rfl (by simp [a0g]) (by kernel_rfl) (a0f _ _) ?_
 intro w7 st7
 repeat (first | simp only [List.cons_append] at st7 | simp only [List.nil_append] at st7 | simp only [List.set_cons_succ] at st7 | simp only [List.set_cons_zero] at st7)
 clear st6
 refine ⟨by first | exact st7 | exact St.less st7 (by simp), ?_⟩
 try simp only [Act.put]
 refine a0o rfl rfl ?_
 refine a0i st7 4 rfl rfl rfl rfl (by simp [a0g]) (by kernel_rfl) (a0f _ _) ?_
 intro w8 st8
 try simp only [List.set_cons_zero, List.set_cons_succ] at st8
 clear st7
 try simp only [Act.put]
 refine a0e ?_
 refine NoPanic.normal ?_
 go_wp2_with fail
 refine wp_region_noPanic ?_
 refine a0k st8 19 [.o 16, .o 17, .w 0, .w 1, .w 2, .t 3, .w 4, .t 5, .t 6, .w 8, .w 9, .w 10, .t 11, .w 12, .t 13, .t 14, .c 7, .c 15, .j 16, .j 17] (.r 18 (.m 19 .nil)) (by kernel_rfl) (by kernel_rfl) (fun _ _ _ _ _ h => h) ?_
 clear st8
 refine c0K rfl rfl rfl i0b (cw 4 0) rfl ?_
 try simp only [clL]
 refine c0K rfl rfl rfl i0b (cw 4 0) rfl ?_
 try simp only [clL]
 refine a0n (v := ?_) rfl rfl (fun xq wx => ?_) ?_
 rotate_left 1
 ·(go_simp; with_reducible rfl)
 try simp only [clL]
 refine a0n (v := ?_) rfl rfl (fun xq wx => ?_) ?_
 rotate_left 1
 ·(go_simp; with_reducible rfl)
 try simp only [clL]
 refine a0n (v := ?_) rfl rfl (fun xq wx => ?_) ?_
 rotate_left 1
 ·(go_simp; with_reducible rfl)
 try simp only [clL]
 refine a0P (v := ?_) rfl rfl (fun xq wx hS => ?_) ?_
 rotate_left 1
 ·(have hc := (HCV.out.keep (St.fr hS) id).cell (i := 0) rfl; clear hS; go_simp; with_reducible rfl)
 try simp only [clL]
 refine a0n (v := ?_) rfl rfl (fun xq wx => ?_) ?_
 rotate_left 1
 ·(go_simp; with_reducible rfl)
 try simp only [clL]
 refine a0j rfl rfl rfl (fun _ => rfl) (cw 4 (elN m x1)) (fun wx hS => St.rangeL hS 0 rfl 0 _ (x0H _ _ _)) Tryz.underlying123 rfl (by kernel_rfl) ?_
 try simp only [clL]
 refine a0j rfl rfl rfl (fun _ => rfl) (cw 4 (elN m qq)) (fun wx hS => St.rangeL hS 4 rfl 0 _ dZl) Tryz.underlying123 rfl (by kernel_rfl) ?_
 try simp only [clL]
 refine a0n (v := ?_) rfl rfl (fun xq wx => ?_) ?_
 rotate_left 1
 ·(go_simp; with_reducible rfl)
 try simp only [clL]
 refine a0n (v := ?_) rfl rfl (fun xq wx => ?_) ?_
 rotate_left 1
 ·(go_simp; with_reducible rfl)
 try simp only [clL]
 refine a0n (v := ?_) rfl rfl (fun xq wx => ?_) ?_
 rotate_left 1
 ·(go_simp; with_reducible rfl)
 try simp only [clL]
 refine a0P (v := ?_) rfl rfl (fun xq wx hS => ?_) ?_
 rotate_left 1
 ·(have hc := (HCV.out.keep (St.fr hS) id).cell (i := 0) rfl; clear hS; go_simp; with_reducible rfl)
 try simp only [clL]
 refine a0n (v := ?_) rfl rfl (fun xq wx => ?_) ?_
 rotate_left 1
 ·(go_simp; with_reducible rfl)
 try simp only [clL]
 refine a0j rfl rfl rfl (fun _ => rfl) (cw 4 (elN m x2)) (fun wx hS => St.rangeL hS 1 rfl 0 _ (x0H _ _ _)) Tryz.underlying123 rfl (by kernel_rfl) ?_
 try simp only [clL]
 refine a0j rfl rfl rfl (fun _ => rfl) (cw 4 (elN m pp)) (fun wx hS => St.rangeL hS 3 rfl 0 _ dZl) Tryz.underlying123 rfl (by kernel_rfl) ?_
 try simp only [clL]
 refine a0l rfl rfl rfl Tryz.call180 (fun w hS hR => b0Y m gp _ HOK.out (HPM.out.keep hS.fr id) x1 qq u1 Hu1.out) (fun _ => rfl) ?_
 try simp only [clL]
 refine a0l rfl rfl rfl Tryz.call180 (fun w hS hR => b0Y m gp _ HOK.out (HPM.out.keep hS.fr id) x2 pp u2 Hu2.out) (fun _ => rfl) ?_
 try simp only [clL]
 refine c0A (List.mem_cons_of_mem _ List.mem_cons_self) fun g9 => ?_
 simp only [upd, reduceIte]
 try simp only [Nat.reduceEqDiff, reduceIte]
 refine c0A List.mem_cons_self fun g10 => ?_
 simp only [upd, reduceIte]
 refine a0J fun xq w9 st9 hR => ?_
 try dsimp only
 clear hR xq
 refine a0q rfl rfl ?_
 refine a0i st9 5 rfl rfl rfl rfl (by simp [a0g]) (by kernel_rfl) (a0f _ _) ?_
 intro w10 st10
 repeat (first | simp only [List.cons_append] at st10 | simp only [List.nil_append] at st10 | simp only [List.set_cons_succ] at st10 | simp only [List.set_cons_zero] at st10)
 clear st9
 refine ⟨by first | exact st10 | exact St.less st10 (by simp), ?_⟩
 try simp only [Act.put]
 refine a0o rfl rfl ?_
 refine a0i st10 6 rfl rfl rfl rfl (by simp [a0g]) (by kernel_rfl) (a0f _ _) ?_
 intro w11 st11
 try simp only [List.set_cons_zero, List.set_cons_succ] at st11
 clear st10
 try simp only [Act.put]
 refine a0e ?_
 refine NoPanic.normal ?_
 go_wp2_with fail
 refine wp_region_noPanic ?_
 refine a0k st11 33 [.o 30, .o 31, .w 0, .w 1, .w 2, .t 3, .w 4, .t 5, .w 6, .w 7, .w 8, .t 9, .t 10, .w 11, .t 12, .w 15, .w 16, .w 17, .t 18, .w 19, .t 20, .w 21, .w 22, .w 23, .t 24, .t 25, .w 26, .t 27, .c 13, .c 14, .c 28, .c 29, .j 30, .j 31] (.r 32 (.m 33 .nil)) (by kernel_rfl) (by kernel_rfl) (fun _ _ _ _ _ h => h) ?_
 clear st11
 refine c0K rfl rfl rfl i0b (cw 4 0) rfl ?_
 try simp only [clL]
 refine c0K rfl rfl rfl i0b (cw 4 0) rfl ?_
 try simp only [clL]
 refine a0n (v := ?_) rfl rfl (fun xq wx => ?_) ?_
 rotate_left 1
 ·(go_simp; with_reducible rfl)
 try simp only [clL]
 refine a0n (v := ?_) rfl rfl (fun xq wx => ?_) ?_
 rotate_left 1
 ·(go_simp; with_reducible rfl)
 try simp only [clL]
 refine a0n (v := ?_) rfl rfl (fun xq wx => ?_) ?_
 rotate_left 1
 ·(go_simp; with_reducible rfl)
 try simp only [clL]
 refine a0P (v := ?_) rfl rfl (fun xq wx hS => ?_) ?_
 rotate_left 1
 ·(have hc := (HCV.out.keep (St.fr hS) id).cell (i := 0) rfl; clear hS; go_simp; with_reducible rfl)
 try simp only [clL]
 refine a0n (v := ?_) rfl rfl (fun xq wx => ?_) ?_
 rotate_left 1
 ·(go_simp; with_reducible rfl)
 try simp only [clL]
 refine a0j rfl rfl rfl (fun _ => rfl) (cw 4 (elN m y1)) (fun wx hS => St.rangeL hS 0 rfl 4 _ (x0I _ _ _)) Tryz.underlying123 rfl (by kernel_rfl) ?_
 try simp only [clL]
 refine a0n (v := ?_) rfl rfl (fun xq wx => ?_) ?_
 rotate_left 1
 ·(go_simp; with_reducible rfl)
 try simp only [clL]
 refine a0n (v := ?_) rfl rfl (fun xq wx => ?_) ?_
 rotate_left 1
 ·(go_simp; with_reducible rfl)
 try simp only [clL]
 refine a0n (v := ?_) rfl rfl (fun xq wx => ?_) ?_
 rotate_left 1
 ·(go_simp; with_reducible rfl)
 try simp only [clL]
 refine a0P (v := ?_) rfl rfl (fun xq wx hS => ?_) ?_
 rotate_left 1
 ·(have hc := (HCV.out.keep (St.fr hS) id).cell (i := 0) rfl; clear hS; go_simp; with_reducible rfl)
 try simp only [clL]
 refine a0j rfl rfl rfl (fun _ => rfl) (cw 4 (elN m qq)) (fun wx hS => St.rangeL hS 4 rfl 0 _ dZl) Tryz.underlying123 rfl (by kernel_rfl) ?_
 try simp only [clL]
 refine a0n (v := ?_) rfl rfl (fun xq wx => ?_) ?_
 rotate_left 1
 ·(go_simp; with_reducible rfl)
 try simp only [clL]
 refine a0j rfl rfl rfl (fun _ => rfl) (cw 4 (elN m z2)) (fun wx hS => St.rangeL hS 1 rfl 8 _ (s0k _ _ _)) Tryz.underlying123 rfl (by kernel_rfl) ?_
 try simp only [clL]
 refine a0n (v := ?_) rfl rfl (fun xq wx => ?_) ?_
 rotate_left 1
 ·(go_simp; with_reducible rfl)
 try simp only [clL]
 refine a0n (v := ?_) rfl rfl (fun xq wx => ?_) ?_
 rotate_left 1
 ·(go_simp; with_reducible rfl)
 try simp only [clL]
 refine a0n (v := ?_) rfl rfl (fun xq wx => ?_) ?_
 rotate_left 1
 ·(go_simp; with_reducible rfl)
 try simp only [clL]
 refine a0P (v := ?_) rfl rfl (fun xq wx hS => ?_) ?_
 rotate_left 1
 ·(have hc := (HCV.out.keep (St.fr hS) id).cell (i := 0) rfl; clear hS; go_simp; with_reducible rfl)
 try simp only [clL]
 refine a0n (v := ?_) rfl rfl (fun xq wx => ?_) ?_
 rotate_left 1
 ·(go_simp; with_reducible rfl)
 try simp only [clL]
 refine a0j rfl rfl rfl (fun _ => rfl) (cw 4 (elN m y2)) (fun wx hS => St.rangeL hS 1 rfl 4 _ (x0I _ _ _)) Tryz.underlying123 rfl (by kernel_rfl) ?_
 try simp only [clL]
 refine a0n (v := ?_) rfl rfl (fun xq wx => ?_) ?_
 rotate_left 1
 ·(go_simp; with_reducible rfl)
 try simp only [clL]
 refine a0n (v := ?_) rfl rfl (fun xq wx => ?_) ?_
 rotate_left 1
 ·(go_simp; with_reducible rfl)
 try simp only [clL]
 refine a0n (v := ?_) rfl rfl (fun xq wx => ?_) ?_
 rotate_left 1
 ·(go_simp; with_reducible rfl)
 try simp only [clL]
 refine a0P (v := ?_) rfl rfl (fun xq wx hS => ?_) ?_
 rotate_left 1
 ·(have hc := (HCV.out.keep (St.fr hS) id).cell (i := 0) rfl; clear hS; go_simp; with_reducible rfl)
 try simp only [clL]
 refine a0j rfl rfl rfl (fun _ => rfl) (cw 4 (elN m pp)) (fun wx hS => St.rangeL hS 3 rfl 0 _ dZl) Tryz.underlying123 rfl (by kernel_rfl) ?_
 try simp only [clL]
 refine a0n (v := ?_) rfl rfl (fun xq wx => ?_) ?_
 rotate_left 1
 ·(go_simp; with_reducible rfl)
 try simp only [clL]
 refine a0j rfl rfl rfl (fun _ => rfl) (cw 4 (elN m z1)) (fun wx hS => St.rangeL hS 0 rfl 8 _ (s0k _ _ _)) Tryz.underlying123 rfl (by kernel_rfl) ?_
 try simp only [clL]
 refine a0l rfl rfl rfl Tryz.call180 (fun w hS hR => b0Y m gp _ HOK.out (HPM.out.keep hS.fr id) qq z2 q3 Hq3.out) (fun _ => rfl) ?_
 try simp only [clL]
 refine a0l rfl rfl rfl Tryz.call180 (fun w hS hR => b0Y m gp _ HOK.out (HPM.out.keep hS.fr id) y1 q3 s1 Hs1.out) (fun _ => rfl) ?_
 try simp only [clL]
 refine a0l rfl rfl rfl Tryz.call180 (fun w hS hR => b0Y m gp _ HOK.out (HPM.out.keep hS.fr id) pp z1 p3 Hp3.out) (fun _ => rfl) ?_
 try simp only [clL]
 refine a0l rfl rfl rfl Tryz.call180 (fun w hS hR => b0Y m gp _ HOK.out (HPM.out.keep hS.fr id) y2 p3 s2 Hs2.out) (fun _ => rfl) ?_
 try simp only [clL]
 refine c0A (List.mem_cons_of_mem _ List.mem_cons_self) fun g11 => ?_
 simp only [upd, reduceIte]
 try simp only [Nat.reduceEqDiff, reduceIte]
 refine c0A List.mem_cons_self fun g12 => ?_
 simp only [upd, reduceIte]
 refine a0J fun xq w12 st12 hR => ?_
 try dsimp only
 clear hR xq
 refine a0q rfl rfl ?_
 refine a0i st12 7 rfl rfl rfl rfl (by simp [a0g]) (by kernel_rfl) (a0f _ _) ?_
 intro w13 st13
 repeat (first | simp only [List.cons_append] at st13 | simp only [List.nil_append] at st13 | simp only [List.set_cons_succ] at st13 | simp only [List.set_cons_zero] at st13)
 clear st12
 refine ⟨by first | exact st13 | exact St.less st13 (by simp), ?_⟩
 try simp only [Act.put]
 refine a0o rfl rfl ?_
 refine a0i st13 8 rfl rfl rfl rfl (by simp [a0g]) (by kernel_rfl) (a0f _ _) ?_
 intro w14 st14
 try simp only [List.set_cons_zero, List.set_cons_succ] at st14
 clear st13
 try simp only [Act.put]
 refine a0e ?_
 refine NoPanic.normal ?_
 go_wp2_with fail
 refine wp_region_noPanic ?_
 refine a0k st14 17 [.o 14, .o 15, .w 0, .w 1, .w 2, .t 3, .t 4, .t 5, .w 7, .w 8, .w 9, .t 10, .t 11, .t 12, .c 6, .c 13, .j 14, .j 15] (.r 16 (.m 17 .nil)) (by kernel_rfl) (by kernel_rfl) (fun _ _ _ _ _ h => h) ?_
 clear st14
 refine c0K rfl rfl rfl i0b (cw 4 0) rfl ?_
 try simp only [clL]
 refine c0K rfl rfl rfl i0b (cw 4 0) rfl ?_
 try simp only [clL]
 refine a0n (v := ?_) rfl rfl (fun xq wx => ?_) ?_
 rotate_left 1
 ·(go_simp; with_reducible rfl)
 try simp only [clL]
 refine a0n (v := ?_) rfl rfl (fun xq wx => ?_) ?_
 rotate_left 1
 ·(go_simp; with_reducible rfl)
 try simp only [clL]
 refine a0n (v := ?_) rfl rfl (fun xq wx => ?_) ?_
 rotate_left 1
 ·(go_simp; with_reducible rfl)
 try simp only [clL]
 refine a0P (v := ?_) rfl rfl (fun xq wx hS => ?_) ?_
 rotate_left 1
 ·(have hc := (HCV.out.keep (St.fr hS) id).cell (i := 0) rfl; clear hS; go_simp; with_reducible rfl)
 try simp only [clL]
 refine a0j rfl rfl rfl (fun _ => rfl) (cw 4 (elN m u2)) (fun wx hS => St.rangeL hS 6 rfl 0 _ dZl) Tryz.underlying123 rfl (by kernel_rfl) ?_
 try simp only [clL]
 refine a0j rfl rfl rfl (fun _ => rfl) (cw 4 (elN m u1)) (fun wx hS => St.rangeL hS 5 rfl 0 _ dZl) Tryz.underlying123 rfl (by kernel_rfl) ?_
 try simp only [clL]
 refine a0n (v := ?_) rfl rfl (fun xq wx => ?_) ?_
 rotate_left 1
 ·(go_simp; with_reducible rfl)
 try simp only [clL]
 refine a0n (v := ?_) rfl rfl (fun xq wx => ?_) ?_
 rotate_left 1
 ·(go_simp; with_reducible rfl)
 try simp only [clL]
 refine a0n (v := ?_) rfl rfl (fun xq wx => ?_) ?_
 rotate_left 1
 ·(go_simp; with_reducible rfl)
 try simp only [clL]
 refine a0P (v := ?_) rfl rfl (fun xq wx hS => ?_) ?_
 rotate_left 1
 ·(have hc := (HCV.out.keep (St.fr hS) id).cell (i := 0) rfl; clear hS; go_simp; with_reducible rfl)
 try simp only [clL]
 refine a0j rfl rfl rfl (fun _ => rfl) (cw 4 (elN m s2)) (fun wx hS => St.rangeL hS 8 rfl 0 _ dZl) Tryz.underlying123 rfl (by kernel_rfl) ?_
 try simp only [clL]
 refine a0j rfl rfl rfl (fun _ => rfl) (cw 4 (elN m s1)) (fun wx hS => St.rangeL hS 7 rfl 0 _ dZl) Tryz.underlying123 rfl (by kernel_rfl) ?_
 try simp only [clL]
 refine a0l rfl rfl rfl Tryz.call181 (fun w hS hR => f0u m gp _ HOK.out (HPM.out.keep hS.fr id) u2 u1 hd Hhd.out) (fun _ => rfl) ?_
 try simp only [clL]
 refine a0l rfl rfl rfl Tryz.call181 (fun w hS hR => f0u m gp _ HOK.out (HPM.out.keep hS.fr id) s2 s1 rr Hrr.out) (fun _ => rfl) ?_
 try simp only [clL]
 refine c0A (List.mem_cons_of_mem _ List.mem_cons_self) fun g13 => ?_
 simp only [upd, reduceIte]
 try simp only [Nat.reduceEqDiff, reduceIte]
 refine c0A List.mem_cons_self fun g14 => ?_
 simp only [upd, reduceIte]
 refine a0J fun xq w15 st15 hR => ?_
 try dsimp only
 clear hR xq
 refine a0q rfl rfl ?_
 refine a0i st15 9 rfl rfl rfl rfl (by simp [a0g]) (by kernel_rfl) (a0f _ _) ?_
 intro w16 st16
 repeat (first | simp only [List.cons_append] at st16 | simp only [List.nil_append] at st16 | simp only [List.set_cons_succ] at st16 | simp only [List.set_cons_zero] at st16)
 clear st15
 refine ⟨by first | exact st16 | exact St.less st16 (by simp), ?_⟩
 try simp only [Act.put]
 refine a0o rfl rfl ?_
 refine a0i st16 10 rfl rfl rfl rfl (by simp [a0g]) (by kernel_rfl) (a0f _ _) ?_
 intro w17 st17
 try simp only [List.set_cons_zero, List.set_cons_succ] at st17
 clear st16
 try simp only [Act.put]
 refine a0e ?_
 refine NoPanic.normal ?_
 rcases Bool.eq_false_or_eq_true (hd % m.M == 0) with hh0 | hh0
 ·have HHZ := qH hh0
  rcases Bool.eq_false_or_eq_true (rr % m.M == 0) with hr0 | hr0
  ·have HRZ := qH hr0
   have HDB := qH (show ∀ wx, Fr Nob w wx → Calls Tryz.prog 193 #[.pointer (some ⟨gc, 0, none⟩), .agg (cw 4 (elN m x1) ++ (cw 4 (elN m y1) ++ cw 4 (elN m z1))).toArray] wx fun e w' => e = .returned (.agg (cw 4 (elN m DX) ++ (cw 4 (elN m DY) ++ cw 4 (elN m DZ))).toArray) ∧ Fr Nob wx w' from HD0.out hh0 hr0)
   clear hh0 hr0 HD0
   go_wp2_with (with_reducible refine wSk 101 ?_)
   refine a0m st17 9 rfl rfl rfl Tryz.underlying123 rfl (by kernel_rfl) ?_
   go_wp2_with fail
   refine (d0k m HOK.out hd true HHZ.out _).mono ?_
   rintro e' w18 ⟨rfl, hf18⟩
   have st18 := st17.keep hf18
   clear st17 hf18
   go_wp2_with (with_reducible refine wSk 103 ?_)
   refine a0m st18 10 rfl rfl rfl Tryz.underlying123 rfl (by kernel_rfl) ?_
   go_wp2_with fail
   refine (d0k m HOK.out rr true HRZ.out _).mono ?_
   rintro e' w19 ⟨rfl, hf19⟩
   have st19 := st18.keep hf19
   clear st18 hf19
   go_wp2_with (with_reducible refine wSk 106 ?_)
   refine a0s st19 0 rfl rfl rfl Tryz.underlying174 rfl rfl (by kernel_rfl) ?_
   go_wp2_with fail
   refine (HDB.out _ st19.fr).mono ?_
   rintro e' w20 ⟨rfl, hf20⟩
   have st20 := st19.keep hf20
   clear st19 hf20
   go_wp2_with (with_reducible refine wSn ?_)
   refine a0c st20 2 rfl rfl rfl rfl rfl (by simp [a0g]) (by kernel_rfl) (b0p _ _ _) ?_
   intro w21 st21
   clear st20
   have hr := st21.at 2 rfl
   have hfr := st21.fr
   clear st21
   go_wp2_with fail
   exact bodyPost_ret (a0y rfl rfl hr Tryz.underlying174 rfl (by kernel_rfl)) rfl ⟨by rw [HHZ.out, HRZ.out]; rfl, hfr⟩
  ·have HRZ := qH hr0
   clear hh0 hr0 HD0
   go_wp2_with (with_reducible refine wSk 101 ?_)
   refine a0m st17 9 rfl rfl rfl Tryz.underlying123 rfl (by kernel_rfl) ?_
   go_wp2_with fail
   refine (d0k m HOK.out hd true HHZ.out _).mono ?_
   rintro e' w18 ⟨rfl, hf18⟩
   have st18 := st17.keep hf18
   clear st17 hf18
   go_wp2_with (with_reducible refine wSk 103 ?_)
   refine a0m st18 10 rfl rfl rfl Tryz.underlying123 rfl (by kernel_rfl) ?_
   go_wp2_with fail
   refine (d0k m HOK.out rr false HRZ.out _).mono ?_
   rintro e' w19 ⟨rfl, hf19⟩
   have st19 := st18.keep hf19
   clear st18 hf19
   go_wp2_with fail
   refine (k0R m gc gp bx by_ _ HOK.out (HCV.out.keep st19.fr id) (HPM.out.keep st19.fr id)).mono ?_
   rintro e' w20 ⟨rfl, hf20⟩
   have st20 := st19.keep hf20
   clear st19 hf20
   go_wp2_with (with_reducible refine wSn ?_)
   refine a0c st20 2 rfl rfl rfl rfl rfl (by simp [a0g]) (by kernel_rfl) (b0p _ _ _) ?_
   intro w21 st21
   clear st20
   have hr := st21.at 2 rfl
   have hfr := st21.fr
   clear st21
   go_wp2_with fail
   exact bodyPost_ret (a0y rfl rfl hr Tryz.underlying174 rfl (by kernel_rfl)) rfl ⟨by rw [HHZ.out, HRZ.out]; rfl, hfr⟩
 ·have HHZ := qH hh0
  clear hh0 HD0
  go_wp2_with (with_reducible refine wSk 101 ?_)
  refine a0m st17 9 rfl rfl rfl Tryz.underlying123 rfl (by kernel_rfl) ?_
  go_wp2_with fail
  refine (d0k m HOK.out hd false HHZ.out _).mono ?_
  rintro e' w18 ⟨rfl, hf18⟩
  have st18 := st17.keep hf18
  clear st17 hf18
  go_wp2_with fail
  refine wp_region_noPanic ?_
  refine a0k st18 7 [.o 6, .w 0, .w 1, .w 2, .t 3, .t 4, .c 5, .j 6] (.m 7 .nil) (by kernel_rfl) (by kernel_rfl) (fun _ _ _ _ _ h => h) ?_
  clear st18
  refine c0K rfl rfl rfl i0b (cw 4 0) rfl ?_
  try simp only [clL]
  refine a0n (v := ?_) rfl rfl (fun xq wx => ?_) ?_
  rotate_left 1
  ·(go_simp; with_reducible rfl)
  try simp only [clL]
  refine a0n (v := ?_) rfl rfl (fun xq wx => ?_) ?_
  rotate_left 1
  ·(go_simp; with_reducible rfl)
  try simp only [clL]
  refine a0n (v := ?_) rfl rfl (fun xq wx => ?_) ?_
  rotate_left 1
  ·(go_simp; with_reducible rfl)
  try simp only [clL]
  refine a0P (v := ?_) rfl rfl (fun xq wx hS => ?_) ?_
  rotate_left 1
  ·(have hc := (HCV.out.keep (St.fr hS) id).cell (i := 0) rfl; clear hS; go_simp; with_reducible rfl)
  try simp only [clL]
  refine a0j rfl rfl rfl (fun _ => rfl) (cw 4 (elN m hd)) (fun wx hS => St.rangeL hS 9 rfl 0 _ dZl) Tryz.underlying123 rfl (by kernel_rfl) ?_
  try simp only [clL]
  refine a0l rfl rfl rfl Tryz.call189 (fun w hS hR => b0C m gp _ HOK.out (HPM.out.keep hS.fr id) hd hh Hhh.out) (fun _ => rfl) ?_
  try simp only [clL]
  refine c0A List.mem_cons_self fun g15 => ?_
  simp only [upd, reduceIte]
  refine a0J fun xq w19 st19 hR => ?_
  try dsimp only
  clear hR xq
  refine a0o rfl rfl ?_
  refine a0i st19 11 rfl rfl rfl rfl (by simp [a0g]) (by kernel_rfl) (a0f _ _) ?_
  intro w20 st20
  repeat (first | simp only [List.cons_append] at st20 | simp only [List.nil_append] at st20 | simp only [List.set_cons_succ] at st20 | simp only [List.set_cons_zero] at st20)
  clear st19
  try simp only [Act.put]
  refine a0e ?_
  refine NoPanic.normal ?_
  go_wp2_with fail
  refine wp_region_noPanic ?_
  refine a0k st20 8 [.o 7, .w 0, .w 1, .w 2, .t 3, .t 4, .t 5, .c 6, .j 7] (.m 8 .nil) (by kernel_rfl) (by kernel_rfl) (fun _ _ _ _ _ h => h) ?_
  clear st20
  refine c0K rfl rfl rfl i0b (cw 4 0) rfl ?_
  try simp only [clL]
  refine a0n (v := ?_) rfl rfl (fun xq wx => ?_) ?_
  rotate_left 1
  ·(go_simp; with_reducible rfl)
  try simp only [clL]
  refine a0n (v := ?_) rfl rfl (fun xq wx => ?_) ?_
  rotate_left 1
  ·(go_simp; with_reducible rfl)
  try simp only [clL]
  refine a0n (v := ?_) rfl rfl (fun xq wx => ?_) ?_
  rotate_left 1
  ·(go_simp; with_reducible rfl)
  try simp only [clL]
  refine a0P (v := ?_) rfl rfl (fun xq wx hS => ?_) ?_
  rotate_left 1
  ·(have hc := (HCV.out.keep (St.fr hS) id).cell (i := 0) rfl; clear hS; go_simp; with_reducible rfl)
  try simp only [clL]
  refine a0j rfl rfl rfl (fun _ => rfl) (cw 4 (elN m hh)) (fun wx hS => St.rangeL hS 11 rfl 0 _ dZl) Tryz.underlying123 rfl (by kernel_rfl) ?_
  try simp only [clL]
  refine a0j rfl rfl rfl (fun _ => rfl) (cw 4 (elN m hd)) (fun wx hS => St.rangeL hS 9 rfl 0 _ dZl) Tryz.underlying123 rfl (by kernel_rfl) ?_
  try simp only [clL]
  refine a0l rfl rfl rfl Tryz.call180 (fun w hS hR => b0Y m gp _ HOK.out (HPM.out.keep hS.fr id) hh hd h3 Hh3.out) (fun _ => rfl) ?_
  try simp only [clL]
  refine c0A List.mem_cons_self fun g16 => ?_
  simp only [upd, reduceIte]
  refine a0J fun xq w21 st21 hR => ?_
  try dsimp only
  clear hR xq
  refine a0o rfl rfl ?_
  refine a0i st21 12 rfl rfl rfl rfl (by simp [a0g]) (by kernel_rfl) (a0f _ _) ?_
  intro w22 st22
  repeat (first | simp only [List.cons_append] at st22 | simp only [List.nil_append] at st22 | simp only [List.set_cons_succ] at st22 | simp only [List.set_cons_zero] at st22)
  clear st21
  try simp only [Act.put]
  refine a0e ?_
  refine NoPanic.normal ?_
  go_wp2_with fail
  refine wp_region_noPanic ?_
  refine a0k st22 8 [.o 7, .w 0, .w 1, .w 2, .t 3, .t 4, .t 5, .c 6, .j 7] (.m 8 .nil) (by kernel_rfl) (by kernel_rfl) (fun _ _ _ _ _ h => h) ?_
  clear st22
  refine c0K rfl rfl rfl i0b (cw 4 0) rfl ?_
  try simp only [clL]
  refine a0n (v := ?_) rfl rfl (fun xq wx => ?_) ?_
  rotate_left 1
  ·(go_simp; with_reducible rfl)
  try simp only [clL]
  refine a0n (v := ?_) rfl rfl (fun xq wx => ?_) ?_
  rotate_left 1
  ·(go_simp; with_reducible rfl)
  try simp only [clL]
  refine a0n (v := ?_) rfl rfl (fun xq wx => ?_) ?_
  rotate_left 1
  ·(go_simp; with_reducible rfl)
  try simp only [clL]
  refine a0P (v := ?_) rfl rfl (fun xq wx hS => ?_) ?_
  rotate_left 1
  ·(have hc := (HCV.out.keep (St.fr hS) id).cell (i := 0) rfl; clear hS; go_simp; with_reducible rfl)
  try simp only [clL]
  refine a0j rfl rfl rfl (fun _ => rfl) (cw 4 (elN m u1)) (fun wx hS => St.rangeL hS 5 rfl 0 _ dZl) Tryz.underlying123 rfl (by kernel_rfl) ?_
  try simp only [clL]
  refine a0j rfl rfl rfl (fun _ => rfl) (cw 4 (elN m hh)) (fun wx hS => St.rangeL hS 11 rfl 0 _ dZl) Tryz.underlying123 rfl (by kernel_rfl) ?_
  try simp only [clL]
  refine a0l rfl rfl rfl Tryz.call180 (fun w hS hR => b0Y m gp _ HOK.out (HPM.out.keep hS.fr id) u1 hh v Hv.out) (fun _ => rfl) ?_
  try simp only [clL]
  refine c0A List.mem_cons_self fun g17 => ?_
  simp only [upd, reduceIte]
  refine a0J fun xq w23 st23 hR => ?_
  try dsimp only
  clear hR xq
  refine a0o rfl rfl ?_
  refine a0i st23 13 rfl rfl rfl rfl (by simp [a0g]) (by kernel_rfl) (a0f _ _) ?_
  intro w24 st24
  repeat (first | simp only [List.cons_append] at st24 | simp only [List.nil_append] at st24 | simp only [List.set_cons_succ] at st24 | simp only [List.set_cons_zero] at st24)
  clear st23
  try simp only [Act.put]
  refine a0e ?_
  refine NoPanic.normal ?_
  go_wp2_with fail
  refine wp_region_noPanic ?_
  refine a0k st24 25 [.o 24, .w 0, .w 1, .w 2, .t 3, .w 4, .w 5, .w 6, .t 7, .t 8, .w 10, .w 11, .w 12, .t 13, .t 14, .w 15, .w 16, .w 17, .t 18, .t 19, .t 20, .c 9, .c 21, .c 22, .c 23, .j 24] (.m 25 .nil) (by kernel_rfl) (by kernel_rfl) (fun _ _ _ _ _ h => h) ?_
  clear st24
  refine c0K rfl rfl rfl i0b (cw 4 0) rfl ?_
  try simp only [clL]
  refine a0n (v := ?_) rfl rfl (fun xq wx => ?_) ?_
  rotate_left 1
  ·(go_simp; with_reducible rfl)
  try simp only [clL]
  refine a0n (v := ?_) rfl rfl (fun xq wx => ?_) ?_
  rotate_left 1
  ·(go_simp; with_reducible rfl)
  try simp only [clL]
  refine a0n (v := ?_) rfl rfl (fun xq wx => ?_) ?_
  rotate_left 1
  ·(go_simp; with_reducible rfl)
  try simp only [clL]
  refine a0P (v := ?_) rfl rfl (fun xq wx hS => ?_) ?_
  rotate_left 1
  ·(have hc := (HCV.out.keep (St.fr hS) id).cell (i := 0) rfl; clear hS; go_simp; with_reducible rfl)
  try simp only [clL]
  refine a0n (v := ?_) rfl rfl (fun xq wx => ?_) ?_
  rotate_left 1
  ·(go_simp; with_reducible rfl)
  try simp only [clL]
  refine a0n (v := ?_) rfl rfl (fun xq wx => ?_) ?_
  rotate_left 1
  ·(go_simp; with_reducible rfl)
  try simp only [clL]
  refine a0n (v := ?_) rfl rfl (fun xq wx => ?_) ?_
  rotate_left 1
  ·(go_simp; with_reducible rfl)
  try simp only [clL]
  refine a0P (v := ?_) rfl rfl (fun xq wx hS => ?_) ?_
  rotate_left 1
  ·(have hc := (HCV.out.keep (St.fr hS) id).cell (i := 0) rfl; clear hS; go_simp; with_reducible rfl)
  try simp only [clL]
  refine a0j rfl rfl rfl (fun _ => rfl) (cw 4 (elN m rr)) (fun wx hS => St.rangeL hS 10 rfl 0 _ dZl) Tryz.underlying123 rfl (by kernel_rfl) ?_
  try simp only [clL]
  refine a0n (v := ?_) rfl rfl (fun xq wx => ?_) ?_
  rotate_left 1
  ·(go_simp; with_reducible rfl)
  try simp only [clL]
  refine a0n (v := ?_) rfl rfl (fun xq wx => ?_) ?_
  rotate_left 1
  ·(go_simp; with_reducible rfl)
  try simp only [clL]
  refine a0n (v := ?_) rfl rfl (fun xq wx => ?_) ?_
  rotate_left 1
  ·(go_simp; with_reducible rfl)
  try simp only [clL]
  refine a0P (v := ?_) rfl rfl (fun xq wx hS => ?_) ?_
  rotate_left 1
  ·(have hc := (HCV.out.keep (St.fr hS) id).cell (i := 0) rfl; clear hS; go_simp; with_reducible rfl)
  try simp only [clL]
  refine a0j rfl rfl rfl (fun _ => rfl) (cw 4 (elN m h3)) (fun wx hS => St.rangeL hS 12 rfl 0 _ dZl) Tryz.underlying123 rfl (by kernel_rfl) ?_
  try simp only [clL]
  refine a0n (v := ?_) rfl rfl (fun xq wx => ?_) ?_
  rotate_left 1
  ·(go_simp; with_reducible rfl)
  try simp only [clL]
  refine a0n (v := ?_) rfl rfl (fun xq wx => ?_) ?_
  rotate_left 1
  ·(go_simp; with_reducible rfl)
  try simp only [clL]
  refine a0n (v := ?_) rfl rfl (fun xq wx => ?_) ?_
  rotate_left 1
  ·(go_simp; with_reducible rfl)
  try simp only [clL]
  refine a0P (v := ?_) rfl rfl (fun xq wx hS => ?_) ?_
  rotate_left 1
  ·(have hc := (HCV.out.keep (St.fr hS) id).cell (i := 0) rfl; clear hS; go_simp; with_reducible rfl)
  try simp only [clL]
  refine a0j rfl rfl rfl (fun _ => rfl) (cw 4 (elN m v)) (fun wx hS => St.rangeL hS 13 rfl 0 _ dZl) Tryz.underlying123 rfl (by kernel_rfl) ?_
  try simp only [clL]
  refine a0j rfl rfl rfl (fun _ => rfl) (cw 4 (elN m v)) (fun wx hS => St.rangeL hS 13 rfl 0 _ dZl) Tryz.underlying123 rfl (by kernel_rfl) ?_
  try simp only [clL]
  refine a0l rfl rfl rfl Tryz.call189 (fun w hS hR => b0C m gp _ HOK.out (HPM.out.keep hS.fr id) rr r2 Hr2.out) (fun _ => rfl) ?_
  try simp only [clL]
  refine a0l rfl rfl rfl Tryz.call207 (fun w hS hR => d0t m gp _ HOK.out (HPM.out.keep hS.fr id) v v v2 Hv2.out) (fun _ => rfl) ?_
  try simp only [clL]
  refine a0l rfl rfl rfl Tryz.call207 (fun w hS hR => d0t m gp _ HOK.out (HPM.out.keep hS.fr id) h3 v2 t1 Ht1.out) (fun _ => rfl) ?_
  try simp only [clL]
  refine a0l rfl rfl rfl Tryz.call181 (fun w hS hR => f0u m gp _ HOK.out (HPM.out.keep hS.fr id) r2 t1 X HX.out) (fun _ => rfl) ?_
  try simp only [clL]
  refine c0A List.mem_cons_self fun g18 => ?_
  simp only [upd, reduceIte]
  refine a0J fun xq w25 st25 hR => ?_
  try dsimp only
  clear hR xq
  refine a0o rfl rfl ?_
  refine a0i st25 14 rfl rfl rfl rfl (by simp [a0g]) (by kernel_rfl) (a0f _ _) ?_
  intro w26 st26
  repeat (first | simp only [List.cons_append] at st26 | simp only [List.nil_append] at st26 | simp only [List.set_cons_succ] at st26 | simp only [List.set_cons_zero] at st26)
  clear st25
  try simp only [Act.put]
  refine a0e ?_
  refine NoPanic.normal ?_
  go_wp2_with fail
  refine wp_region_noPanic ?_
  refine a0k st26 42 [.t 0, .w 1, .w 2, .w 3, .t 4, .w 5, .w 6, .w 7, .t 8, .t 9, .w 10, .w 11, .w 12, .t 13, .t 14, .t 15, .w 18, .w 19, .w 20, .t 21, .t 22, .t 23, .w 26, .w 27, .w 28, .t 29, .t 30, .w 31, .w 32, .w 33, .t 34, .w 35, .t 36, .w 37, .t 38, .c 16, .c 17, .c 24, .c 25, .c 39, .c 40, .w 41] (.m 42 .nil) (by kernel_rfl) (by kernel_rfl) (fun _ _ _ _ _ h => h) ?_
  clear st26
  refine a0j rfl rfl rfl (fun _ => rfl) (cw 4 (elN m X)) (fun wx hS => St.rangeL hS 14 rfl 0 _ dZl) Tryz.underlying123 rfl (by kernel_rfl) ?_
  try simp only [clL]
  refine a0n (v := ?_) rfl rfl (fun xq wx => ?_) ?_
  rotate_left 1
  ·(go_simp; with_reducible rfl)
  try simp only [clL]
  refine a0n (v := ?_) rfl rfl (fun xq wx => ?_) ?_
  rotate_left 1
  ·(go_simp; with_reducible rfl)
  try simp only [clL]
  refine a0n (v := ?_) rfl rfl (fun xq wx => ?_) ?_
  rotate_left 1
  ·(go_simp; with_reducible rfl)
  try simp only [clL]
  refine a0P (v := ?_) rfl rfl (fun xq wx hS => ?_) ?_
  rotate_left 1
  ·(have hc := (HCV.out.keep (St.fr hS) id).cell (i := 0) rfl; clear hS; go_simp; with_reducible rfl)
  try simp only [clL]
  refine a0n (v := ?_) rfl rfl (fun xq wx => ?_) ?_
  rotate_left 1
  ·(go_simp; with_reducible rfl)
  try simp only [clL]
  refine a0n (v := ?_) rfl rfl (fun xq wx => ?_) ?_
  rotate_left 1
  ·(go_simp; with_reducible rfl)
  try simp only [clL]
  refine a0n (v := ?_) rfl rfl (fun xq wx => ?_) ?_
  rotate_left 1
  ·(go_simp; with_reducible rfl)
  try simp only [clL]
  refine a0P (v := ?_) rfl rfl (fun xq wx hS => ?_) ?_
  rotate_left 1
  ·(have hc := (HCV.out.keep (St.fr hS) id).cell (i := 0) rfl; clear hS; go_simp; with_reducible rfl)
  try simp only [clL]
  refine a0j rfl rfl rfl (fun _ => rfl) (cw 4 (elN m rr)) (fun wx hS => St.rangeL hS 10 rfl 0 _ dZl) Tryz.underlying123 rfl (by kernel_rfl) ?_
  try simp only [clL]
  refine a0n (v := ?_) rfl rfl (fun xq wx => ?_) ?_
  rotate_left 1
  ·(go_simp; with_reducible rfl)
  try simp only [clL]
  refine a0n (v := ?_) rfl rfl (fun xq wx => ?_) ?_
  rotate_left 1
  ·(go_simp; with_reducible rfl)
  try simp only [clL]
  refine a0n (v := ?_) rfl rfl (fun xq wx => ?_) ?_
  rotate_left 1
  ·(go_simp; with_reducible rfl)
  try simp only [clL]
  refine a0P (v := ?_) rfl rfl (fun xq wx hS => ?_) ?_
  rotate_left 1
  ·(have hc := (HCV.out.keep (St.fr hS) id).cell (i := 0) rfl; clear hS; go_simp; with_reducible rfl)
  try simp only [clL]
  refine a0j rfl rfl rfl (fun _ => rfl) (cw 4 (elN m v)) (fun wx hS => St.rangeL hS 13 rfl 0 _ dZl) Tryz.underlying123 rfl (by kernel_rfl) ?_
  try simp only [clL]
  refine a0j rfl rfl rfl (fun _ => rfl) (cw 4 (elN m X)) (fun wx hS => St.rangeL hS 14 rfl 0 _ dZl) Tryz.underlying123 rfl (by kernel_rfl) ?_
  try simp only [clL]
  refine a0n (v := ?_) rfl rfl (fun xq wx => ?_) ?_
  rotate_left 1
  ·(go_simp; with_reducible rfl)
  try simp only [clL]
  refine a0n (v := ?_) rfl rfl (fun xq wx => ?_) ?_
  rotate_left 1
  ·(go_simp; with_reducible rfl)
  try simp only [clL]
  refine a0n (v := ?_) rfl rfl (fun xq wx => ?_) ?_
  rotate_left 1
  ·(go_simp; with_reducible rfl)
  try simp only [clL]
  refine a0P (v := ?_) rfl rfl (fun xq wx hS => ?_) ?_
  rotate_left 1
  ·(have hc := (HCV.out.keep (St.fr hS) id).cell (i := 0) rfl; clear hS; go_simp; with_reducible rfl)
  try simp only [clL]
  refine a0j rfl rfl rfl (fun _ => rfl) (cw 4 (elN m s1)) (fun wx hS => St.rangeL hS 7 rfl 0 _ dZl) Tryz.underlying123 rfl (by kernel_rfl) ?_
  try simp only [clL]
  refine a0j rfl rfl rfl (fun _ => rfl) (cw 4 (elN m h3)) (fun wx hS => St.rangeL hS 12 rfl 0 _ dZl) Tryz.underlying123 rfl (by kernel_rfl) ?_
  try simp only [clL]
  refine a0n (v := ?_) rfl rfl (fun xq wx => ?_) ?_
  rotate_left 1
  ·(go_simp; with_reducible rfl)
  try simp only [clL]
  refine a0n (v := ?_) rfl rfl (fun xq wx => ?_) ?_
  rotate_left 1
  ·(go_simp; with_reducible rfl)
  try simp only [clL]
  refine a0n (v := ?_) rfl rfl (fun xq wx => ?_) ?_
  rotate_left 1
  ·(go_simp; with_reducible rfl)
  try simp only [clL]
  refine a0P (v := ?_) rfl rfl (fun xq wx hS => ?_) ?_
  rotate_left 1
  ·(have hc := (HCV.out.keep (St.fr hS) id).cell (i := 0) rfl; clear hS; go_simp; with_reducible rfl)
  try simp only [clL]
  refine a0j rfl rfl rfl (fun _ => rfl) (cw 4 (elN m hd)) (fun wx hS => St.rangeL hS 9 rfl 0 _ dZl) Tryz.underlying123 rfl (by kernel_rfl) ?_
  try simp only [clL]
  refine a0n (v := ?_) rfl rfl (fun xq wx => ?_) ?_
  rotate_left 1
  ·(go_simp; with_reducible rfl)
  try simp only [clL]
  refine a0n (v := ?_) rfl rfl (fun xq wx => ?_) ?_
  rotate_left 1
  ·(go_simp; with_reducible rfl)
  try simp only [clL]
  refine a0n (v := ?_) rfl rfl (fun xq wx => ?_) ?_
  rotate_left 1
  ·(go_simp; with_reducible rfl)
  try simp only [clL]
  refine a0P (v := ?_) rfl rfl (fun xq wx hS => ?_) ?_
  rotate_left 1
  ·(have hc := (HCV.out.keep (St.fr hS) id).cell (i := 0) rfl; clear hS; go_simp; with_reducible rfl)
  try simp only [clL]
  refine a0n (v := ?_) rfl rfl (fun xq wx => ?_) ?_
  rotate_left 1
  ·(go_simp; with_reducible rfl)
  try simp only [clL]
  refine a0j rfl rfl rfl (fun _ => rfl) (cw 4 (elN m z1)) (fun wx hS => St.rangeL hS 0 rfl 8 _ (s0k _ _ _)) Tryz.underlying123 rfl (by kernel_rfl) ?_
  try simp only [clL]
  refine a0n (v := ?_) rfl rfl (fun xq wx => ?_) ?_
  rotate_left 1
  ·(go_simp; with_reducible rfl)
  try simp only [clL]
  refine a0j rfl rfl rfl (fun _ => rfl) (cw 4 (elN m z2)) (fun wx hS => St.rangeL hS 1 rfl 8 _ (s0k _ _ _)) Tryz.underlying123 rfl (by kernel_rfl) ?_
  try simp only [clL]
  refine a0l rfl rfl rfl Tryz.call181 (fun w hS hR => f0u m gp _ HOK.out (HPM.out.keep hS.fr id) v X t2 Ht2.out) (fun _ => rfl) ?_
  try simp only [clL]
  refine a0l rfl rfl rfl Tryz.call180 (fun w hS hR => b0Y m gp _ HOK.out (HPM.out.keep hS.fr id) rr t2 t3 Ht3.out) (fun _ => rfl) ?_
  try simp only [clL]
  refine a0l rfl rfl rfl Tryz.call180 (fun w hS hR => b0Y m gp _ HOK.out (HPM.out.keep hS.fr id) s1 h3 t4 Ht4.out) (fun _ => rfl) ?_
  try simp only [clL]
  refine a0l rfl rfl rfl Tryz.call181 (fun w hS hR => f0u m gp _ HOK.out (HPM.out.keep hS.fr id) t3 t4 Y HY.out) (fun _ => rfl) ?_
  try simp only [clL]
  refine a0l rfl rfl rfl Tryz.call180 (fun w hS hR => b0Y m gp _ HOK.out (HPM.out.keep hS.fr id) z1 z2 zz Hzz.out) (fun _ => rfl) ?_
  try simp only [clL]
  refine a0l rfl rfl rfl Tryz.call180 (fun w hS hR => b0Y m gp _ HOK.out (HPM.out.keep hS.fr id) hd zz Z HZ.out) (fun _ => rfl) ?_
  try simp only [clL]
  refine a0n rfl rfl (fun _ => b0v rfl _ (e0y _ _ _)) ?_
  try simp only [clL]
  refine a0J fun xq w27 st27 hR => ?_
  try dsimp only
  clear hR xq
  refine a0o rfl rfl ?_
  refine a0i st27 2 rfl rfl rfl rfl (by simp [a0g]) (by kernel_rfl) (b0p _ _ _) ?_
  intro w28 st28
  try simp only [List.set_cons_zero, List.set_cons_succ] at st28
  clear st27
  try simp only [Act.put]
  refine a0e ?_
  refine NoPanic.normal ?_
  have hr := st28.at 2 rfl
  have hfr := st28.fr
  clear st28
  go_wp2_with fail
  exact bodyPost_ret (a0y rfl rfl hr Tryz.underlying174 rfl (by kernel_rfl)) rfl ⟨by rw [HHZ.out]; rfl, hfr⟩
end
section
open Go.RowKit Go.Mv Mvp Mvq
theorem t0f : kc 0 = 0 := by decide
theorem w0u (x1 y1 z1 x2 y2 z2 : Nat) (ho1 : onC (jN x1 y1 z1)) (ho2 : onC (jN x2 y2 z2)) :
  ∃ X Y Z, jN X Y Z = a0V (jN x1 y1 z1) (jN x2 y2 z2) ∧ ∀ gc gp bx by_ wx, Has wx gc (d0v mP gp bx by_) 184 → Has wx gp (mdL mP) 234 → Calls Tryz.prog 194 #[.pointer (some ⟨gc, 0, none⟩), ptV mP x1 y1 z1, ptV mP x2 y2 z2] wx fun e w' => e = .returned (ptV mP X Y Z) ∧ Fr Nob wx w' := by
 cases hb1 : (z1 % mP.M == 0)
 case true =>
  have hz : kc z1 = 0 := by simpa using p0o _ d0b z1 _ hb1
  refine ⟨x2, y2, z2, ?_, fun gc gp bx by_ wx hcv hpm => o0L mP gc gp bx by_ wx c0N hcv hpm x1 y1 z1 x2 y2 z2 hb1⟩
  unfold jN
  rw [w0m hz]; rfl
 case false =>
  have hz1 : kc z1 ≠ 0 := by simpa using p0o _ d0b z1 _ hb1
  cases hb2 : (z2 % mP.M == 0)
  case true =>
   have hz : kc z2 = 0 := by simpa using p0o _ d0b z2 _ hb2
   refine ⟨x1, y1, z1, ?_, fun gc gp bx by_ wx hcv hpm => o0M mP gc gp bx by_ wx c0N hcv hpm x1 y1 z1 x2 y2 z2 hb1 hb2⟩
   unfold jN
   rw [w0m hz, b0P]
  case false =>
   have hz2 : kc z2 ≠ 0 := by simpa using p0o _ d0b z2 _ hb2
   obtain ⟨pp, epp⟩ : ∃ q, z1 * z1 = q := ⟨_, rfl⟩
   obtain ⟨qq, eqq⟩ : ∃ q, z2 * z2 = q := ⟨_, rfl⟩
   obtain ⟨u1, eu1⟩ : ∃ q, x1 * qq = q := ⟨_, rfl⟩
   obtain ⟨u2, eu2⟩ : ∃ q, x2 * pp = q := ⟨_, rfl⟩
   obtain ⟨q3, eq3⟩ : ∃ q, qq * z2 = q := ⟨_, rfl⟩
   obtain ⟨s1, es1⟩ : ∃ q, y1 * q3 = q := ⟨_, rfl⟩
   obtain ⟨p3, ep3⟩ : ∃ q, pp * z1 = q := ⟨_, rfl⟩
   obtain ⟨s2, es2⟩ : ∃ q, y2 * p3 = q := ⟨_, rfl⟩
   obtain ⟨hd, ehd⟩ : ∃ q, u2 + (mP.M - u1 % mP.M) = q := ⟨_, rfl⟩
   obtain ⟨rr, err⟩ : ∃ q, s2 + (mP.M - s1 % mP.M) = q := ⟨_, rfl⟩
   have ku1 : kc u1 = kc x1 * (kc z2 * kc z2) := by rw [← eu1, ← eqq, a0A, a0A]
   have ku2 : kc u2 = kc x2 * (kc z1 * kc z1) := by rw [← eu2, ← epp, a0A, a0A]
   have ks1 : kc s1 = kc y1 * (kc z2 * kc z2 * kc z2) := by rw [← es1, ← eq3, ← eqq, a0A, a0A, a0A]
   have ks2 : kc s2 = kc y2 * (kc z1 * kc z1 * kc z1) := by rw [← es2, ← ep3, ← epp, a0A, a0A, a0A]
   have khd : kc hd = kc u2 - kc u1 := by rw [← ehd, j0w _ d0b]
   have krr : kc rr = kc s2 - kc s1 := by rw [← err, j0w _ d0b]
   obtain ⟨DX, DY, DZ, hX, hcall⟩ := k0Q x1 y1 z1 ho1
   have hcal := fun gc gp bx by_ wx (hcv : Has wx gc (d0v mP gp bx by_) 184) (hpm : Has wx gp (mdL mP) 234) => q0P mP gc gp bx by_ wx c0N hcv hpm x1 y1 z1 x2 y2 z2 hb1 hb2 pp qq u1 u2 q3 s1 p3 s2 hd rr _ _ _ _ _ _ _ _ _ _ _ _ _ DX DY DZ epp eqq eu1 eu2 eq3 es1 ep3 es2 ehd err rfl rfl rfl rfl rfl rfl rfl rfl rfl rfl rfl rfl rfl (fun _ _ wy hf2 => hcall gc gp bx by_ wy (hcv.keep hf2 id) (hpm.keep hf2 id))
   cases hh : (hd % mP.M == 0)
   case false =>
    have hn : kc hd ≠ 0 := by simpa using p0o _ d0b hd _ hh
    rw [hh] at hcal
    refine ⟨_, _, _, ?_, fun gc gp bx by_ wx hcv hpm => hcal gc gp bx by_ wx hcv hpm⟩
    have h := w0o ho1 ho2 hz1 hz2 (kc u1) (kc u2) (kc s1) (kc s2) (kc hd) (kc rr) _ _ _ _ ku1 ku2 ks1 ks2 khd krr hn rfl rfl rfl rfl
    unfold jN at *
    rw [← h]
    simp only [j0w _ d0b, h0y, a0A]
   case true =>
    have h0 : kc hd = 0 := by simpa using p0o _ d0b hd _ hh
    have hs := w0p ho1 ho2 hz1 hz2 (by rw [← ku1, ← ku2, ← khd]; exact h0)
    rw [← ks1, ← ks2, ← krr] at hs
    cases hr : (rr % mP.M == 0)
    case true =>
     have hr0 : kc rr = 0 := by simpa using p0o _ d0b rr _ hr
     rw [hh, hr] at hcal
     refine ⟨DX, DY, DZ, ?_, fun gc gp bx by_ wx hcv hpm => hcal gc gp bx by_ wx hcv hpm⟩
     have e := hs.1 hr0
     unfold jN at *
     rw [hX, e]
    case false =>
     have hr0 : kc rr ≠ 0 := by simpa using p0o _ d0b rr _ hr
     rw [hh, hr] at hcal
     refine ⟨1, 1, 0, ?_, fun gc gp bx by_ wx hcv hpm => hcal gc gp bx by_ wx hcv hpm⟩
     have e := hs.2 hr0
     unfold jN at *
     rw [e, w0m t0f]
end
end Go.Proofs.YtpfimiajoifjaaaGreat
namespace Mvq
open Mvp
structure FP (M : Nat) : Prop where
 prime : IsP M
 odd : M % 2 = 1
 big : 3 < M
theorem FP.inv {M a : Nat} (h : FP M) (ha : a < M) (h0 : a ≠ 0) : a * (a ^ (M - 2) % M) % M = 1 := by
 have hd : ¬ M ∣ a := fun hx => by have := Nat.le_of_dvd ap1 hx; omega
 have hb := h.big
 rw [Nat.mul_mod_mod, Nat.mul_comm, ← Nat.pow_succ, show (M - 2).succ = M - 1 by omega]
 exact k0I h.prime hd
theorem FP.inv0 {M : Nat} (h : FP M) : 0 ^ (M - 2) % M = 0 := by
 have hb := h.big
 rw [Nat.zero_pow ap1, Nat.zero_mod]
theorem w0v {M a : Nat} (h : FP M) (h4 : M % 4 = 3) (_ : a < M) : b0J M (a * a % M) = true := by
 unfold b0J rtN
 rw [beq_iff_eq]
 have hb := h.big
 generalize hk : M / 4 + 1 = k
 have h2 : 4 * k = M + 1 := by omega
 rw [Nat.mul_mod ((a * a % M) ^ k), ← Nat.pow_mod, ← Nat.mul_mod, ← Nat.pow_two a, ← Nat.pow_mul, ← Nat.pow_add, show 2 * k + 2 * k = M + 1 by omega, Nat.mod_mod]
 rw [Nat.pow_succ, Nat.mul_mod, m0k h.prime, ← Nat.mul_mod, Nat.pow_two]
theorem q0Q {M x : Nat} (h : FP M) : rtV M x % M % 2 = 0 := by
 unfold rtV
 have hb := h.big
 have ho := h.odd
 have hl : rtN M x % M < M := Nat.mod_lt _ ap1
 generalize hr : rtN M x % M = r at *
 split
 ·rename_i h1
  rw [Nat.mod_eq_of_lt (show M - r < M by omega)]; omega
 ·rw [hr]; omega
theorem A0H : FP pP := ⟨by rw [show pP = 115792089237316195423570985008687907853269984665640564039457584007908834671663 by decide]; exact u0I, by decide, by decide⟩
theorem A0W : FP pQ := ⟨by rw [show pQ = 115792089237316195423570985008687907852837564279074904382605163141518161494337 by decide]; exact u0J, by decide, by decide⟩
end Mvq
namespace Mvq
open Mvp
def c0m : Pt → List UInt8
 | .O => List.replicate 33 0
 | .A x y => UInt8.ofNat (2 + y.val % 2) :: b0b x.val
theorem f0z (p : Pt) : (c0m p).length = 33 := by
 cases p
 ·simp [c0m]
 ·simp [c0m, b0H]
def tlN (l : List UInt8) : Nat := beN (l.drop 1)
def e0f (n : Nat) : Nat := n * n * n + 7
def b0s (l : List UInt8) : Bool :=
 decide (l.length = 33) && (if l.getD 0 0 = 0 then tlN l == 0 else decide (l.getD 0 0 = 2 ∨ l.getD 0 0 = 3) && (decide (tlN l < fP) && b0J fP (e0f (tlN l))))
def c0Q (l : List UInt8) : Pt :=
 if l.getD 0 0 = 0 then .O else .A (kc (tlN l)) (if l.getD 0 0 = 3 then - kc (rtV fP (e0f (tlN l))) else kc (rtV fP (e0f (tlN l))))
theorem t0g {a x : Nat} (h : (a * a % fP == x % fP) = true) : kc a * kc a = kc x := by
 rw [y0E] at h
 rw [← a0A]; simpa using h
theorem u0O {x : Nat} (h : b0J fP x = true) : kc (rtV fP x) * kc (rtV fP x) = kc x := by
 unfold b0J at h
 have h1 := t0g h
 unfold rtV
 split
 ·rw [q0L, ← h1]; grind -lia -linarith
 ·exact h1
theorem q0R (n : Nat) : kc (e0f n) = kc n * kc n * kc n + 7 := by
 unfold e0f
 rw [h0y, a0A, a0A, show kc 7 = 7 by decide]
theorem y0F {n : Nat} (h : b0J fP (e0f n) = true) : onC (.A (kc n) (kc (rtV fP (e0f n)))) := by
 show kc (rtV fP (e0f n)) * kc (rtV fP (e0f n)) = kc n * kc n * kc n + 7
 rw [u0O h, q0R]
theorem y0G {l : List UInt8} (h : b0s l = true) : onC (c0Q l) := by
 unfold b0s at h
 unfold c0Q
 by_cases h0 : l.getD 0 0 = 0
 ·rw [if_pos h0]; trivial
 ·rw [if_neg h0]
  simp only [Bool.and_eq_true, decide_eq_true_eq, if_neg h0] at h
  obtain ⟨-, -, -, h4⟩ := h
  have := y0F h4
  by_cases h3 : l.getD 0 0 = 3
  ·rw [if_pos h3]; exact c0l this
  ·rw [if_neg h3]; exact this
theorem e0z (n : Nat) : (kc n).val = n % fP := by simp [kc, Fin.ofNat]
theorem t0h (n : Nat) (h : n < fP) : beN (b0b n) = n := by
 have h2 : fP < 256 ^ 32 := by decide
 exact j0l n (Nat.lt_trans h h2)
theorem h0A (y : K) (h : y ≠ 0) : (-y).val % 2 = (1 + y.val) % 2 := by
 have h0 : y.val ≠ 0 := fun e => h (Fin.ext e)
 have h1 : (-y).val = fP - y.val := by
  rw [Fin.val_neg]
  have hne : ¬ y = 0 := h
  simp [hne]
 have h2 : fP % 2 = 1 := by decide
 have h3 := y.isLt
 omega
theorem q0S {a b : K} (h : a * a = b * b) : a = b ∨ a = -b := by
 have : (a - b) * (a + b) = 0 := by grind -lia -linarith
 rcases a0t this with e | e
 ·left; grind -lia -linarith
 ·right; grind -lia -linarith
theorem y0H {p : Pt} (h : onC p) : b0s (c0m p) = true ∧ c0Q (c0m p) = p := by
 cases p with
 | O =>
  have : (c0m .O) = List.replicate 33 0 := rfl
  rw [this]
  constructor
  ·decide
  ·unfold c0Q; rw [if_pos ap2]
 | A x y =>
  have hc : y * y = x * x * x + 7 := h
  have hy := t0c hc
  have e0 : (c0m (.A x y)).getD 0 0 = UInt8.ofNat (2 + y.val % 2) := rfl
  have e1 : tlN (c0m (.A x y)) = x.val := by
   show beN (b0b x.val) = x.val
   exact t0h _ x.isLt
  have hl := f0z (.A x y)
  have hk : kc (e0f x.val) = y * y := by rw [q0R, i0F, hc]
  have hr : b0J fP (e0f x.val) = true := by
   have hh := w0v (M := fP) (a := y.val) (by have := A0H; rwa [w0q] at this) ap2 y.isLt
   have e : kc (e0f x.val) = kc (y.val * y.val % fP) := by rw [e0M, a0A, i0F, hk]
   have e2 : e0f x.val % fP = y.val * y.val % fP % fP := by
    have := y0E (e0f x.val) (y.val * y.val % fP)
    rw [e] at this
    simpa using this
   unfold b0J rtN at *
   rw [Nat.mul_mod, Nat.pow_mod, e2, ← Nat.pow_mod, ← Nat.mul_mod]
   simpa using hh
  have hev : (kc (rtV fP (e0f x.val))).val % 2 = 0 := by
   rw [e0z]
   exact q0Q (by have := A0H; rwa [w0q] at this)
  have hv := u0O hr
  rw [hk] at hv
  generalize hz : kc (rtV fP (e0f x.val)) = z at *
  unfold b0s c0Q
  rw [hl, e1, e0, hr, hz]
  have hx := x.isLt
  have hcase : y.val % 2 = 0 ∨ y.val % 2 = 1 := by omega
  have hzy : z = (if y.val % 2 = 0 then y else -y) := by
   rcases q0S hv with e | e
   ·subst e; rw [if_pos hev]
   ·have hp := h0A y hy
    rw [← e] at hp
    rw [if_neg ap1]; exact e
  have hlt : decide (x.val < fP) = true := decide_eq_true hx
  rcases hcase with e | e
  ·have hb : UInt8.ofNat (2 + y.val % 2) = 2 := by rw [e]; rfl
   rw [if_pos e] at hzy
   rw [hb, hzy, hlt]
   refine ⟨?_, ?_⟩
   ·rw [if_neg ap2]; decide
   ·rw [if_neg ap2, if_neg ap2, i0F]
  ·have hb : UInt8.ofNat (2 + y.val % 2) = 3 := by rw [e]; rfl
   rw [if_neg ap1] at hzy
   rw [hb, hzy, hlt]
   refine ⟨?_, ?_⟩
   ·rw [if_neg ap2]; decide
   ·have hn : - -y = y := by grind -lia -linarith
    rw [if_neg ap2, if_pos rfl, i0F, hn]
end Mvq
namespace Go.Proofs.YtpfimiajoifjaaaGreat
open Go.RowKit Go.Mv Mvp Mvq
def gXn : Nat := 0x79BE667EF9DCBBAC55A06295CE870B07029BFCDB2DCE28D959F2815B16F81798
def gYn : Nat := 0x483ADA7726A3C4655DA4FBFC0E1108A8FD17B448A68554199C47D08FFB10D4B8
structure PT where
 x : Nat
 y : Nat
 z : Nat
 on : onC (jN x y z)
def PT.pt (s : PT) : Pt := jN s.x s.y s.z
def PT.L (s : PT) : List Value := ptL mP s.x s.y s.z
theorem PT.len (s : PT) : s.L.length = 12 := e0p _ _ _ _
theorem PT.one (s : PT) : ∀ v ∈ s.L, v.oneCell' = true := b0p _ _ _
theorem PT.onP (s : PT) : onC s.pt := s.on
def Cv (w : World) (gc : Nat) : Prop := ∃ gp, Has w gc (d0v mP gp gXn gYn) 184 ∧ Has w gp (mdL mP) 234
theorem Cv.keep {w w' : World} {gc : Nat} (h : Cv w gc) (hf : Fr Nob w w') : Cv w' gc := by
 obtain ⟨gp, h1, h2⟩ := h
 exact ⟨gp, h1.keep hf id, h2.keep hf id⟩
theorem m0r (s : PT) : ∃ t : PT, t.pt = a0V s.pt s.pt ∧ ∀ gc wx, Cv wx gc → Calls Tryz.prog 193 #[.pointer (some ⟨gc, 0, none⟩), (.agg s.L.toArray)] wx fun e w' => e = .returned (.agg t.L.toArray) ∧ Fr Nob wx w' := by
 obtain ⟨X, Y, Z, h1, h2⟩ := k0Q s.x s.y s.z s.on
 refine ⟨⟨X, Y, Z, by rw [h1]; exact c0w s.on s.on⟩, h1, ?_⟩
 rintro gc wx ⟨gp, a, b⟩
 exact h2 gc gp gXn gYn wx a b
theorem m0s (s t : PT) : ∃ r : PT, r.pt = a0V s.pt t.pt ∧ ∀ gc wx, Cv wx gc → Calls Tryz.prog 194 #[.pointer (some ⟨gc, 0, none⟩), (.agg s.L.toArray), (.agg t.L.toArray)] wx fun e w' => e = .returned (.agg r.L.toArray) ∧ Fr Nob wx w' := by
 obtain ⟨X, Y, Z, h1, h2⟩ := w0u s.x s.y s.z t.x t.y t.z s.on t.on
 refine ⟨⟨X, Y, Z, by rw [h1]; exact c0w s.on t.on⟩, h1, ?_⟩
 rintro gc wx ⟨gp, a, b⟩
 exact h2 gc gp gXn gYn wx a b
noncomputable def j0x (s : PT) : PT := Classical.choose (m0r s)
noncomputable def j0V (s t : PT) : PT := Classical.choose (m0s s t)
theorem j0y (s : PT) : (j0x s).pt = a0V s.pt s.pt := (Classical.choose_spec (m0r s)).1
theorem q0T (s t : PT) : (j0V s t).pt = a0V s.pt t.pt := (Classical.choose_spec (m0s s t)).1
theorem t0i (s : PT) (gc : Nat) (w : World) (h : Cv w gc) : Calls Tryz.prog 193 #[.pointer (some ⟨gc, 0, none⟩), (.agg s.L.toArray)] w fun e w' => e = .returned (.agg (j0x s).L.toArray) ∧ Fr Nob w w' :=
 (Classical.choose_spec (m0r s)).2 gc w h
theorem u0P (s t : PT) (gc : Nat) (w : World) (h : Cv w gc) : Calls Tryz.prog 194 #[.pointer (some ⟨gc, 0, none⟩), (.agg s.L.toArray), (.agg t.L.toArray)] w fun e w' => e = .returned (.agg (j0V s t).L.toArray) ∧ Fr Nob w w' :=
 (Classical.choose_spec (m0s s t)).2 gc w h
theorem q0U : kc 1 = 1 := by decide
def noT : PT := ⟨1, 1, 0, by unfold jN; rw [w0m ap2]; trivial⟩
theorem q0V : noT.pt = .O := by show jN 1 1 0 = .O; unfold jN; rw [w0m ap2]
theorem k0S (gc : Nat) (w : World) (h : Cv w gc) : Calls Tryz.prog 192 #[.pointer (some ⟨gc, 0, none⟩)] w fun e w' => e = .returned (.agg noT.L.toArray) ∧ Fr Nob w w' := by
 obtain ⟨gp, a, b⟩ := h
 exact h0z mP gc gp gXn gYn w c0N a b
theorem u0Q (x y : Nat) : jN x y 1 = .A (kc x) (kc y) := by
 unfold jN
 refine w0n ap2 ?_ ?_
 ·rw [q0U]; grind -lia -linarith
 ·rw [q0U]; grind -lia -linarith
def n0s (x y : Nat) (h : onC (.A (kc x) (kc y))) : PT := ⟨x, y, 1, by rw [u0Q]; exact h⟩
theorem q0W (x y : Nat) (h : onC (.A (kc x) (kc y))) : (n0s x y h).pt = .A (kc x) (kc y) := u0Q x y
theorem w0w : onC (.A (kc gXn) (kc gYn)) := by
 show kc gYn * kc gYn = kc gXn * kc gXn * kc gXn + 7
 decide
def q0X : PT := n0s gXn gYn w0w
def PT.isO (s : PT) : Bool := s.z % mP.M == 0
theorem PT.isO_t {s : PT} (h : s.isO = true) : s.pt = .O := by
 have hz : kc s.z = 0 := by simpa using p0o _ d0b s.z _ h
 exact w0m hz
theorem PT.isO_f {s : PT} (h : s.isO = false) : kc s.z ≠ 0 := by simpa using p0o _ d0b s.z _ h
end Go.Proofs.YtpfimiajoifjaaaGreat
namespace Go.Mv
open Go.RowKit
section
variable {P : Program} {w w0 : World} {ops : Array Oper} {rest : List Oper} {o : Oper} {a : Act} {Q : Exit → Act → World → Prop} {S : Nat → Prop} {bl : List (Nat × List Value × TypeId)} {K : Act → World → Prop}
theorem f0A (hst : St S w0 w bl) (i : Nat) {g : Nat} {L : List Value} {T : TypeId} (hb : bl[i]? = some (g, L, T)) {ty : TypeId} {x y : Operand} (hgd : o.guard = none) (ho : o.op = .store ty x y) {p : Nat} (hx : a.eval x = .pointer (some ⟨g, p, none⟩)) {cs : List Value} (hy : a.eval y = .agg cs.toArray)
  (L' : List Value) (hL : splice L p cs = L') (hn : p + cs.length ≤ L.length) (hi : (P.info? ty).map (·.size) = some cs.length) (h1 : ∀ v ∈ cs, v.oneCell' = true)
  (h : ∀ w', St S w0 w' (bl.set i (g, L', T)) → wpList P ops Q rest (a.put o.dst undef) w') : wpList P ops Q (o :: rest) a w :=
 d0z hgd ho hx hy (hst.at i hb) hn hi h1 fun w' hg hf _ => h w' (hst.put i hb hf (by rwa [hL] at hg))
theorem h0B (hst : St S w0 w bl) (i : Nat) {g : Nat} {L : List Value} {T : TypeId} (hb : bl[i]? = some (g, L, T)) {ty : TypeId} {x y : Operand} (ho : o.op = .store ty x y) {p : Nat} (hx : a.eval x = .pointer (some ⟨g, p, none⟩)) {cs : List Value} (hy : a.eval y = .agg cs.toArray)
  (L' : List Value) (hL : splice L p cs = L') (hn : p + cs.length ≤ L.length) (hi : (P.info? ty).map (·.size) = some cs.length) (h1 : ∀ v ∈ cs, v.oneCell' = true)
  (h : ∀ w', St S w0 w' (bl.set i (g, L', T)) → K (a.put o.dst undef) w') : o.wp P a w K Q := by
 obtain ⟨k1, k2, _⟩ := Has.setCells cs p L w (hst.at i hb) hn
 rw [hL] at k1
 exact wp_store_mid ty x y ho g p cs.toArray hx hy (by simpa using (hst.at i hb).there p cs.length hn) (by simpa using hi) (all_oneCell_toArray h1) (by simpa using h _ (hst.put i hb k2 k1))
theorem i0I (A B C : List Value) (n : Nat) (hA : A.length = n) (hC : C.length = B.length) : splice (A ++ B) n C = A ++ C := by
 unfold splice
 subst hA
 rw [List.take_left, List.drop_append, List.drop_of_length_le ap1, List.drop_of_length_le ap1]
 simp
theorem i0J (A B D C : List Value) (n : Nat) (hA : A.length = n) (hC : C.length = B.length) : splice (A ++ (B ++ D)) n C = A ++ (C ++ D) := by
 unfold splice
 subst hA
 rw [List.take_left, List.drop_append, List.drop_of_length_le ap1, List.nil_append, show A.length + C.length - A.length = B.length by omega, List.drop_left]
end
end Go.Mv
namespace Go.Proofs.YtpfimiajoifjaaaGreat
open Go.RowKit Go.Mv Mvp Mvq
theorem OfI (m : Md) (hk : KindOf 0 m) (w : World) : Calls Tryz.prog 186 #[.int .i64 0] w fun e w' => ∃ g, e = .returned (.tuple #[.pointer (some ⟨g, 0, none⟩), .bool true]) ∧ w.heap.size ≤ g ∧ Has w' g (mdL m) 234 ∧ Fr Nob w w' := by
 cases hk
 go_enter Tryz.func186, Tryz.ntmps186
 go_wp2
 go_ret2
 exact ⟨_, rfl, Nat.le_refl _, by rw [← n0n]; exact Has.new w _ _, (Fr.refl Nob w).alloc _⟩
theorem t0j : Tryz.prog.built 167 [(0, .int .u64 6481385041966929816), (1, .int .u64 188021827762530521), (2, .int .u64 6170039885052185351), (3, .int .u64 8772561819708210092)] = some (cw 4 gXn).toArray := by kernel_rfl
theorem t0k : Tryz.prog.built 167 [(0, .int .u64 11261198710074299576), (1, .int .u64 18237243440184513561), (2, .int .u64 6747795201694173352), (3, .int .u64 5204712524664259685)] = some (cw 4 gYn).toArray := by kernel_rfl
theorem A0j : gXn < B64 ^ 4 := by decide
theorem A0k : gYn < B64 ^ 4 := by decide
theorem q0Y (p : Option Addr) (a : Nat) : Tryz.prog.built 184 [(0, .pointer p), (1, i4 a)] = some ([Value.pointer p] ++ (cw 4 a ++ (cw 4 0 ++ (cw 4 0 ++ cw 4 0)))).toArray := by kernel_rfl
theorem o0N (p : Value) (a b c d : Nat) : splice ([p] ++ (cw 4 a ++ (cw 4 0 ++ (cw 4 0 ++ cw 4 0)))) 5 (cw 4 b ++ (cw 4 c ++ cw 4 d)) = [p] ++ (cw 4 a ++ (cw 4 b ++ (cw 4 c ++ cw 4 d))) := by
 have h := i0I ([p] ++ cw 4 a) (cw 4 0 ++ (cw 4 0 ++ cw 4 0)) (cw 4 b ++ (cw 4 c ++ cw 4 d)) 5 (by rw [List.length_append, a0g]; rfl) ap6
 rw [List.append_assoc, List.append_assoc] at h
 exact h
theorem w0x (p : Value) (a b c d : Nat) : ([p] ++ (cw 4 a ++ (cw 4 b ++ (cw 4 c ++ cw 4 d)))).length = 17 := by simp only [List.length_append, a0g]; rfl
attribute [local irreducible] a0v lw mix cw b0e b0f b0a beN b0l b0b a0z a0F elN mdL b0m rtN rtV b0J gXn gYn
theorem t0l (m : Md) (hk : KindOf 0 m) (w : World) :
  Calls Tryz.prog 108 #[] w fun e w' => ∃ gc, e = .returned (.pointer (some ⟨gc, 0, none⟩)) ∧ w.heap.size ≤ gc ∧ (∃ gp, Has w' gc (d0v m gp gXn gYn) 184 ∧ Has w' gp (mdL m) 234) ∧ Fr Nob w w' := by
 have HK := qH hk
 have HOK := qH hk.ok
 have HGX := qH A0j
 have HGY := qH A0k
 clear hk
 have st0 := St.start Nob w
 go_enter Tryz.func108, Tryz.ntmps108
 go_wp2_with fail
 refine (OfI m HK.out _).mono ?_
 rintro e' w1 ⟨gp, rfl, hle, hm, hf1⟩
 have st1 : St Nob w w1 [(gp, mdL m, 234)] := st0.new hf1 hm hle
 clear st0 hf1 hm hle
 go_wp2_with fail
 refine (i0C m gp _ HOK.out (st1.at 0 rfl) 7 ap2).mono ?_
 rintro e' w2 ⟨rfl, hf2⟩
 have st2 := st1.keep hf2
 clear st1 hf2
 go_wp2_with (with_reducible refine wSk 13 ?_)
 refine b0M rfl rfl _ (q0Y _ _) ?_
 go_wp2_with (with_reducible refine wSk 14 ?_)
 refine a0r st2 rfl rfl rfl ([Value.pointer (some ⟨gp, 0, none⟩)] ++ (cw 4 (elN m 7) ++ (cw 4 0 ++ (cw 4 0 ++ cw 4 0)))) rfl ?_
 intro gc w3 st3
 clear st2
 go_wp2_with (with_reducible refine wSk 16 ?_)
 refine b0M rfl rfl _ t0j ?_
 go_wp2_with fail
 refine (c0O m gp _ HOK.out (st3.at 0 rfl) gXn HGX.out).mono ?_
 rintro e' w4 ⟨rfl, hf4⟩
 have st4 := st3.keep hf4
 clear st3 hf4
 go_wp2_with (with_reducible refine wSk 19 ?_)
 refine b0M rfl rfl _ t0k ?_
 go_wp2_with fail
 refine (c0O m gp _ HOK.out (st4.at 0 rfl) gYn HGY.out).mono ?_
 rintro e' w5 ⟨rfl, hf5⟩
 have st5 := st4.keep hf5
 clear st4 hf5
 go_wp2_with (with_reducible refine wSk 4 ?_)
 refine a0b st5 rfl rfl (z := zAd) ap0 (cw 4 0) ap5 ?_
 intro g4 w6 st6
 clear st5
 go_wp2_with (with_reducible refine wSk 5 ?_)
 refine a0b st6 rfl rfl (z := zAd) ap0 (cw 4 0) ap5 ?_
 intro g5 w7 st7
 clear st6
 go_wp2_with (with_reducible refine wSn ?_)
 refine a0c st7 2 rfl rfl rfl rfl rfl ap6 ap3 (a0f _ _) ?_
 intro w8 st8
 clear st7
 go_wp2_with (with_reducible refine wSn ?_)
 refine a0c st8 3 rfl rfl rfl rfl rfl ap6 ap3 (a0f _ _) ?_
 intro w9 st9
 clear st8
 go_wp2_with fail
 refine wp_region_noPanic ?_
 refine a0d (fun wx => St Nob w wx [(gp, mdL m, 234), (gc, [Value.pointer (some ⟨gp, 0, none⟩)] ++ (cw 4 (elN m 7) ++ (cw 4 0 ++ (cw 4 0 ++ cw 4 0))), 184), (g4, cw 4 (elN m gXn), 123), (g5, cw 4 (elN m gYn), 123)]) 11 (.w 0 (.t 1 (.t 2 (.w 3 (.w 4 (.w 5 (.t 6 (.r 7 (.w 8 (.w 9 (.w 10 (.m 11 .nil)))))))))))) ap0 ap0 st9.drew (fun _ _ _ _ _ h => h) ?_
 have hd9 := st9.drew
 clear st9
 refine a0a rfl rfl apW ?_
 try simp only [clL]
 refine a0h rfl rfl rfl rfl (cw 4 (elN m gXn)) (fun wx hS => St.rangeL hS 2 rfl 0 _ dZl) Tryz.underlying123 rfl ap3 ?_
 try simp only [clL]
 refine a0h rfl rfl rfl rfl (cw 4 (elN m gYn)) (fun wx hS => St.rangeL hS 3 rfl 0 _ dZl) Tryz.underlying123 rfl ap3 ?_
 try simp only [clL]
 refine a0a rfl rfl apW ?_
 try simp only [clL]
 refine a0a rfl rfl apW ?_
 try simp only [clL]
 refine a0a rfl rfl apW ?_
 try simp only [clL]
 refine a0L (v := ?_) rfl rfl (fun wx hS => ?_) ?_
 rotate_left 1
 ·(have hc := (St.at hS 1 rfl).cell (i := 0) rfl; clear hS; go_simp; with_reducible rfl)
 try simp only [clL]
 refine a0q rfl rfl ?_
 go_simp
 refine (d0O m gp _ HOK.out (hd9.at 0 rfl)).mono ?_
 rintro e' w10 ⟨rfl, hf10⟩
 have st10 := hd9.keep hf10
 clear hf10
 clear hd9
 refine ⟨st10, ?_⟩
 try simp only [clL]
 refine a0a rfl rfl (b0v rfl _ (e0y _ _ _)) ?_
 try simp only [clL]
 refine a0a rfl rfl apW ?_
 try simp only [clL]
 refine a0a rfl rfl apW ?_
 try simp only [clL]
 refine a0o rfl rfl ?_
 refine h0B st10 1 rfl rfl rfl rfl _ (o0N _ _ _ _ _) (by rw [w0x]; simp only [List.length_append, a0g]; decide) ap3 (b0p _ _ _) ?_
 intro w11 st11
 have st11 : St Nob w w11 [(gp, mdL m, 234), (gc, [Value.pointer (some ⟨gp, 0, none⟩)] ++ (cw 4 (elN m 7) ++ (cw 4 (elN m gXn) ++ (cw 4 (elN m gYn) ++ cw 4 (elN m 1)))), 184), (g4, cw 4 (elN m gXn), 123), (g5, cw 4 (elN m gYn), 123)] := st11
 clear st10
 try simp only [Act.put]
 refine a0e ?_
 refine NoPanic.normal ?_
 have hown := st11.own _ (List.mem_of_getElem? (i := 1) rfl)
 have hc := st11.at 1 rfl
 have hm := st11.at 0 rfl
 have hfr := st11.fr
 clear st11
 have hge := hown.resolve_right (fun h => h)
 clear hown
 have HGE := qH hge
 clear hge
 go_wp2_with fail
 go_ret
 exact ⟨gc, rfl, HGE.out, ⟨gp, hc, hm⟩, hfr⟩
theorem f0B (w : World) : Calls Tryz.prog 108 #[] w fun e w' => ∃ gc, e = .returned (.pointer (some ⟨gc, 0, none⟩)) ∧ w.heap.size ≤ gc ∧ Cv w' gc ∧ Fr Nob w w' := t0l mP .zero w
end Go.Proofs.YtpfimiajoifjaaaGreat
namespace Go.Mv
open Go.RowKit
theorem d0c (f : Nat → List Value) (k : Nat) (hl : ∀ i, (f i).length = k) : ∀ n, ((List.range n).flatMap f).length = k * n
 | 0 => by simp
 | n + 1 => by rw [List.range_succ, List.flatMap_append, List.length_append, d0c f k hl n]; simp [hl, Nat.mul_succ]
theorem e0A (f : Nat → List Value) (n i : Nat) (h : i < n) : (List.range n).flatMap f = (List.range i).flatMap f ++ (f i ++ (List.range' (i + 1) (n - i - 1)).flatMap f) := by
 have e : List.range n = List.range i ++ i :: List.range' (i + 1) (n - i - 1) := by
  rw [List.range_eq_range', List.range_eq_range']
  have h1 : n = i + (n - i - 1 + 1) := by omega
  conv => lhs; rw [h1]
  rw [← List.range'_append_1, List.range'_succ]
  simp
 rw [e]; simp
theorem n0t (f : Nat → List Value) (k : Nat) (hl : ∀ i, (f i).length = k) (n i : Nat) (h : i < n) : (((List.range n).flatMap f).drop (i * k)).take (f i).length = f i := by
 rw [e0A f n i h, List.drop_append_of_le_length (by rw [d0c f k hl, Nat.mul_comm]; omega), List.drop_of_length_le (by rw [d0c f k hl, Nat.mul_comm]; omega), List.nil_append, List.take_left]
theorem n0u (f f' : Nat → List Value) (k : Nat) (hl : ∀ i, (f i).length = k) (n i : Nat) (h : i < n) (hi : (f' i).length = k) (hv : ∀ j, j ≠ i → f' j = f j) : splice ((List.range n).flatMap f) (i * k) (f' i) = (List.range n).flatMap f' := by
 rw [e0A f n i h, e0A f' n i h]
 have e1 : (List.range i).flatMap f' = (List.range i).flatMap f := by
  rw [List.flatMap_def, List.flatMap_def]
  congr 1
  exact List.map_congr_left fun j hj => hv j (by have := List.mem_range.1 hj; omega)
 have e2 : (List.range' (i + 1) (n - i - 1)).flatMap f' = (List.range' (i + 1) (n - i - 1)).flatMap f := by
  rw [List.flatMap_def, List.flatMap_def]
  congr 1
  exact List.map_congr_left fun j hj => hv j (by have := List.mem_range'_1.1 hj; omega)
 rw [e1, e2]
 exact i0J _ _ _ _ _ (by rw [d0c f k hl, Nat.mul_comm]) (by rw [hi, hl])
end Go.Mv
namespace Go.Proofs.YtpfimiajoifjaaaGreat
open Go.RowKit Go.Mv Mvp Mvq
noncomputable def e0G (s : PT) : Nat → PT
 | 0 => noT
 | i + 1 => j0V (e0G s i) s
theorem q0Z (s : PT) : ∀ i, (e0G s i).pt = a0R i s.pt
 | 0 => q0V
 | i + 1 => by
  show (j0V (e0G s i) s).pt = a0V (a0R i s.pt) s.pt
  rw [q0T, q0Z s i]
theorem y0I (s : PT) (k gc : Nat) (w : World) (h : Cv w gc) : Calls Tryz.prog 194 #[.pointer (some ⟨gc, 0, none⟩), (.agg (e0G s k).L.toArray), (.agg s.L.toArray)] w fun e w' => e = .returned (.agg (e0G s (k + 1)).L.toArray) ∧ Fr Nob w w' := u0P (e0G s k) s gc w h
noncomputable def tbR (s : PT) (j i : Nat) : List Value := if i < j then (e0G s i).L else cw 12 0
noncomputable def tbL (s : PT) (j : Nat) : List Value := (List.range 16).flatMap (tbR s j)
theorem j0z (s : PT) (j i : Nat) : (tbR s j i).length = 12 := by
 unfold tbR; split
 ·exact PT.len _
 ·exact a0g _ _
theorem b0Q (s : PT) (j : Nat) : (tbL s j).length = 192 := d0c _ 12 (j0z s j) 16
theorem r0a (s : PT) (j : Nat) : ∀ v ∈ tbL s j, v.oneCell' = true := by
 intro v hv
 unfold tbL at hv
 obtain ⟨i, -, hi⟩ := List.mem_flatMap.1 hv
 unfold tbR at hi
 split at hi
 ·exact PT.one _ v hi
 ·exact a0f _ _ v hi
theorem t0m (s : PT) : (Value.agg (List.replicate 192 (Value.int .u64 0)).toArray).cells.toList = tbL s 0 := by
 unfold tbL tbR
 simp only [Nat.not_lt_zero, if_false, e0l]
 rfl
theorem r0b (s : PT) (j : Nat) (h : j < 16) : splice (tbL s j) (j * 12) (e0G s j).L = tbL s (j + 1) := by
 have h0 := n0u (tbR s j) (tbR s (j + 1)) 12 (j0z s j) 16 j h (j0z s _ _) (fun i hi => by unfold tbR; by_cases hc : i < j; rw [if_pos hc, if_pos ap1]; rw [if_neg hc, if_neg ap1])
 have e : tbR s (j + 1) j = (e0G s j).L := by unfold tbR; rw [if_pos ap1]
 rw [e] at h0
 exact h0
theorem t0n (s : PT) : splice (tbL s 0) 0 noT.L = tbL s (0 + 1) := r0b s 0 ap1
theorem r0c (s : PT) (j i : Nat) (h : i < j) (hj : j ≤ 16) : ((tbL s j).drop (i * 12)).take (e0G s i).L.length = (e0G s i).L := by
 have h0 := n0t (tbR s j) 12 (j0z s j) 16 i ap1
 have e : tbR s j i = (e0G s i).L := by unfold tbR; rw [if_pos h]
 rw [e] at h0
 exact h0
theorem t0o : (Tryz.prog.info? 177).map (·.zero) = some (some (.agg (List.replicate 192 (.int .u64 0)).toArray)) := by kernel_rfl
attribute [local irreducible] a0v lw mix cw b0e b0f b0a beN b0l b0b a0z a0F elN mdL b0m rtN rtV b0J gXn gYn PT.L j0V j0x e0G tbL
theorem _root_.ap11 {p : Prop} (h : p := by first | (rw [a0g]; kernel_rfl) | (simp only [PT.len]; kernel_rfl)) : p := h
theorem m0t (s : PT) (gc : Nat) (w : World) (h : Cv w gc) :
  Calls Tryz.prog 111 #[.pointer (some ⟨gc, 0, none⟩), .agg s.L.toArray] w fun e w' => e = .returned (.agg (tbL s 16).toArray) ∧ Fr Nob w w' := by
 have HCV := qH h
 clear h
 have st0 := St.start Nob w
 go_enter Tryz.func111, Tryz.ntmps111
 go_wp2_with (with_reducible refine wSk 3 ?_)
 refine a0r st0 rfl rfl rfl (s.L) rfl ?_
 intro g3 w1 st1
 clear st0
 go_wp2_with (with_reducible refine wSk 4 ?_)
 refine a0b st1 rfl rfl t0o (tbL s 0) (t0m s) ?_
 intro g4 w2 st2
 clear st1
 go_wp2_with fail
 refine (k0S gc _ (HCV.out.keep st2.fr)).mono ?_
 rintro e' w3 ⟨rfl, hf3⟩
 have st3 := st2.keep hf3
 clear st2 hf3
 go_wp2_with (with_reducible refine wSn ?_)
 refine f0A st3 1 rfl rfl rfl rfl rfl (tbL s (0 + 1)) (t0n s) (by rw [b0Q, PT.len]; omega) ap11 (PT.one _) ?_
 intro w4 st4
 have st4 : St Nob w w4 [(g3, s.L, 174), (g4, tbL s (0 + 1), 177)] := st4
 clear st3
 go_wp2
 go_loopw [5] (fun i wr => ∃ k : Nat, k ≤ 15 ∧ i = .int .i64 ((k : Int) + 1) ∧ St Nob w wr [(g3, s.L, 174), (g4, tbL s (k + 1), 177)]) (fun i _ => (16 - intOf i).toNat)
 case atStart => exact ⟨0, by omega, rfl, st4⟩
 case round =>
  obtain ⟨k, hk, rfl, st⟩ := hrel
  clear st4
  rcases Nat.lt_or_ge k 15 with hk2 | hk2
  ·have hc : ((k : Int) + 1 < 16) := by omega
   have hlt : (k : Int) + 1 < 9223372036854775808 := by omega
   have hl2 : (k : Int) < 9223372036854775808 := by omega
   have hl3 : (k : Int) < 16 := by omega
   have hl4 : IntKind.i64.wrap (k : Int) = (k : Int) := IntWalk.i64_in _ ap1
   have hl5 : (0 : Int) ≤ (k : Int) := by omega
   have hl6 : (0 : Int) ≤ (k : Int) + 1 := by omega
   go_wp2_with fail
   refine wp_region_noPanic ?_
   refine a0d (fun wx => St Nob w wx [(g3, s.L, 174), (g4, tbL s (k + 1), 177)]) 9 (.w 0 (.w 1 (.w 2 (.w 3 (.w 4 (.t 5 (.t 6 (.r 7 (.w 8 (.m 9 .nil)))))))))) ap0 ap0 st.drew (fun _ _ _ _ _ h => h) ?_
   have hd4 := st.drew
   clear st
   refine a0a rfl rfl apW ?_
   try simp only [clL]
   refine a0a rfl rfl apW ?_
   try simp only [clL]
   refine a0a rfl rfl apW ?_
   try simp only [clL]
   refine a0a rfl rfl apW ?_
   try simp only [clL]
   refine a0a rfl rfl apW ?_
   try simp only [clL]
   refine a0h rfl rfl rfl rfl ((e0G s k).L) (fun wx hS => St.rangeL hS 1 rfl (k * 12) _ (r0c s (k + 1) k ap1 ap1)) Tryz.underlying174 rfl ap11 ?_
   try simp only [clL]
   refine a0h rfl rfl rfl rfl (s.L) (fun wx hS => St.rangeL hS 0 rfl 0 _ dZl) Tryz.underlying174 rfl ap11 ?_
   try simp only [clL]
   refine a0q rfl rfl ?_
   go_simp
   refine (y0I s k gc _ (HCV.out.keep hd4.fr)).mono ?_
   rintro e' w5 ⟨rfl, hf5⟩
   have st5 := hd4.keep hf5
   clear hf5
   clear hd4
   refine ⟨st5, ?_⟩
   try simp only [clL]
   refine a0a rfl rfl apW ?_
   try simp only [clL]
   refine a0o rfl rfl ?_
   refine h0B st5 1 rfl rfl rfl rfl (tbL s ((k + 1) + 1)) (r0b s (k + 1) ap1) (by rw [b0Q, PT.len]; omega) ap11 (PT.one _) ?_
   intro w6 st6
   have st6 : St Nob w w6 [(g3, s.L, 174), (g4, tbL s ((k + 1) + 1), 177)] := st6
   clear st5
   try simp only [Act.put]
   refine a0e ?_
   refine NoPanic.normal ?_
   go_wp2
   go_roundw
   case rel => exact ⟨k + 1, by omega, by simp, st6⟩
   case measure => simp [intOf]; omega
  ·have hk3 : k = 15 := by omega
   subst hk3
   have hc : ¬ (((15 : Nat) : Int) + 1 < 16) := by omega
   go_wp2_with (with_reducible refine wSk 22 ?_)
   refine a0s st 1 rfl rfl rfl Tryz.underlying177 rfl rfl (by first | (rw [a0g]; kernel_rfl) | (simp only [b0Q]; kernel_rfl)) ?_
   go_wp2_with (with_reducible refine wSn ?_)
   refine a0c st 1 rfl rfl rfl rfl rfl (by first | (simp only []; done) | (simp only [List.length_append, a0g, PT.len, b0Q]; done)) (by first | (rw [a0g]; kernel_rfl) | (simp only [b0Q]; kernel_rfl)) (r0a _ _) ?_
   intro w5 st5
   clear st
   have hr := st5.at 1 rfl
   have hfr := st5.fr
   clear st5
   go_wp2_with fail
   exact bodyPost_ret (a0B rfl rfl hr Tryz.underlying177 (by first | (rw [a0g]; kernel_rfl) | (simp only [b0Q]; kernel_rfl))) rfl ⟨rfl, hfr⟩
end Go.Proofs.YtpfimiajoifjaaaGreat
namespace Mvp
theorem t0p (n j : Nat) : lw n (4 * j / 64) / 2 ^ (4 * j % 64) % 16 = n / 16 ^ j % 16 := by
 have h64 : (18446744073709551616 : Nat) = 2 ^ (4 * j % 64) * 2 ^ (64 - 4 * j % 64) := by
  rw [← Nat.pow_add, show 4 * j % 64 + (64 - 4 * j % 64) = 64 by omega]
 have hd : (16 : Nat) ∣ 2 ^ (64 - 4 * j % 64) := by
  have : 64 - 4 * j % 64 = 4 + (60 - 4 * j % 64) := by omega
  rw [this, Nat.pow_add]
  exact Nat.dvd_mul_right _ _
 have hp : B64 ^ (4 * j / 64) * 2 ^ (4 * j % 64) = 16 ^ j := by
  have h16 : (16 : Nat) ^ j = 2 ^ (4 * j) := by rw [Nat.pow_mul]
  have hB : B64 ^ (4 * j / 64) = 2 ^ (64 * (4 * j / 64)) := by rw [Nat.pow_mul]
  rw [h16, hB, ← Nat.pow_add, Nat.div_add_mod]
 show n / B64 ^ (4 * j / 64) % 18446744073709551616 / 2 ^ (4 * j % 64) % 16 = _
 rw [h64, Nat.mod_mul_right_div_self, Nat.mod_mod_of_dvd _ hd, Nat.div_div_eq_div_mul, hp]
end Mvp
namespace Go.Mv
open Go.RowKit
theorem w0y {L R : List Value} {a n : Nat} (h : (L.drop a).take n = R) (b : Nat) (cs : List Value) (hb : b + cs.length ≤ n) (hc : (R.drop b).take cs.length = cs) : (L.drop (a + b)).take cs.length = cs := by
 rw [← h, List.drop_take, List.drop_drop, List.take_take, Nat.min_eq_left ap1] at hc
 exact hc
end Go.Mv
namespace Go.Proofs.YtpfimiajoifjaaaGreat
open Go.RowKit Go.Mv Mvp Mvq
noncomputable def tmR (t : Nat × PT) : List Value := cw 4 t.1 ++ tbL t.2 16
theorem e0q (t : Nat × PT) : (tmR t).length = 196 := by unfold tmR; rw [List.length_append, a0g, b0Q]
theorem t0q (t : Nat × PT) (k : Nat) (h : k < 4) : (tmR t)[k]? = some (.int .u64 (lw t.1 k)) := by
 unfold tmR
 rw [List.getElem?_append_left (by rw [a0g]; exact h)]
 exact c0d 4 t.1 k h
theorem w0z (t : Nat × PT) (d : Nat) (h : d < 16) : ((tmR t).drop (4 + d * 12)).take (e0G t.2 d).L.length = (e0G t.2 d).L := by
 have e : (tmR t).drop (4 + d * 12) = (tbL t.2 16).drop (d * 12) := by
  unfold tmR
  rw [List.drop_append, List.drop_of_length_le (by rw [a0g]; omega), List.nil_append, a0g, show 4 + d * 12 - 4 = d * 12 by omega]
 rw [e]
 exact r0c t.2 16 d h (Nat.le_refl _)
def g0p (l : List (Nat × PT)) (k : Nat) : Nat × PT := l.getD k (0, noT)
noncomputable def tmL (l : List (Nat × PT)) : List Value := (List.range l.length).flatMap fun k => tmR (g0p l k)
theorem w0A (l : List (Nat × PT)) : (tmL l).length = l.length * 196 := by
 rw [Nat.mul_comm]; exact d0c _ 196 (fun i => e0q _) _
theorem r0d (l : List (Nat × PT)) (k : Nat) (h : k < l.length) : ((tmL l).drop (k * 196)).take (tmR (g0p l k)).length = tmR (g0p l k) :=
 n0t (fun k => tmR (g0p l k)) 196 (fun _ => e0q _) l.length k h
theorem w0B (l : List (Nat × PT)) (k d : Nat) (h : k < l.length) (hd : d < 16) : ((tmL l).drop (k * 196 + (4 + d * 12))).take (e0G (g0p l k).2 d).L.length = (e0G (g0p l k).2 d).L := by
 refine w0y (r0d l k h) _ _ ?_ (w0z _ d hd)
 rw [e0q, PT.len]; omega
noncomputable def dbN (o : PT) : Nat → PT
 | 0 => o
 | q + 1 => j0x (dbN o q)
theorem A0l (o : PT) (q gc : Nat) (w : World) (h : Cv w gc) : Calls Tryz.prog 193 #[.pointer (some ⟨gc, 0, none⟩), (.agg (dbN o q).L.toArray)] w fun e w' => e = .returned (.agg (dbN o (q + 1)).L.toArray) ∧ Fr Nob w w' := t0i (dbN o q) gc w h
theorem y0J (o : PT) (_ : o.pt = o.pt) : (dbN o 4).pt = a0R 16 o.pt := by
 show (j0x (j0x (j0x (j0x o)))).pt = _
 rw [j0y, j0y, j0y, j0y, w0t o.onP]
noncomputable def g0G (l : List (Nat × PT)) (i : Nat) (o : PT) : Nat → PT
 | 0 => o
 | k + 1 => j0V (g0G l i o k) (e0G (g0p l k).2 (dig (63 - i) (g0p l k).1))
theorem y0K (l : List (Nat × PT)) (i : Nat) (o : PT) (k d : Nat) (hd : dig (63 - i) (g0p l k).1 = d) (gc : Nat) (w : World) (h : Cv w gc) : Calls Tryz.prog 194 #[.pointer (some ⟨gc, 0, none⟩), (.agg (g0G l i o k).L.toArray), (.agg (e0G (g0p l k).2 d).L.toArray)] w fun e w' => e = .returned (.agg (g0G l i o (k + 1)).L.toArray) ∧ Fr Nob w w' := by
 subst hd
 exact u0P (g0G l i o k) _ gc w h
noncomputable def g0q (l : List (Nat × PT)) : Nat → PT
 | 0 => noT
 | i + 1 => g0G l i (dbN (g0q l i) 4) l.length
theorem r0e (l : List (Nat × PT)) (i : Nat) : g0G l i (dbN (g0q l i) 4) l.length = g0q l (i + 1) := rfl
theorem r0f (l : List (Nat × PT)) : noT = g0q l 0 := rfl
theorem t0r (o : PT) : dbN o 0 = o := rfl
theorem r0g (l : List (Nat × PT)) (i : Nat) (o : PT) : g0G l i o 0 = o := rfl
noncomputable def j0W (l : List (Nat × PT)) : PT := g0q l 64
theorem w0C (l : List (Nat × PT)) : g0q l 64 = j0W l := rfl
attribute [local irreducible] a0v lw mix cw b0e b0f b0a beN b0l b0b a0z a0F elN mdL b0m rtN rtV b0J gXn gYn PT.L j0V j0x e0G tbL tmR tmL dbN g0G g0q j0W dig
theorem w0D (t : Nat × PT) (i d : Nat) (hi : i < 64) (hd : dig (63 - i) t.1 = d) (w : World) :
  Calls Tryz.prog 195 #[.agg (tmR t).toArray, .int .i64 (i : Int)] w fun e w' => e = .returned (.int .u64 (d : Int)) ∧ Fr Nob w w' := by
 obtain ⟨a, ha⟩ : ∃ a, 252 - 4 * i = a := ⟨_, rfl⟩
 have ha2 : 4 * (63 - i) = a := by omega
 have hdd : lw t.1 (a / 64) / 2 ^ (a % 64) % 16 = d := by
  have := t0p t.1 (63 - i)
  rw [ha2] at this
  rw [this]
  unfold dig at hd
  exact hd
 have HD := qH hdd
 clear hd hdd
 have hal : a < 256 := by omega
 have haI : (256 : Int) - 4 * ((i : Int) + 1) = (a : Int) := by omega
 have st0 := St.start Nob w
 go_enter Tryz.func195, Tryz.ntmps195
 go_wp2_with (with_reducible refine wSk 2 ?_)
 refine a0r st0 rfl rfl rfl (tmR t) rfl ?_
 intro g1 w1 st1
 clear st0
 have c1 := (st1.at 0 rfl).cell (t0q t (a / 64) ap1)
 have hlo : (0 : Int) ≤ (a : Int) / 64 ∧ (a : Int) / 64 < 4 := by omega
 have hlo2 : (0 : Int) ≤ (a : Int) % 64 ∧ (a : Int) % 64 < 64 := by omega
 have e4 : ((a : Int) / 64).toNat = a / 64 := by omega
 have e5 : ((a : Int) % 64).toNat = a % 64 := by omega
 have hiI : (i : Int) < 64 := by omega
 have e6 : IntKind.i64.wrap ((i : Int) + 1) = (i : Int) + 1 := IntWalk.i64_in _ ap1
 have e7 : IntKind.i64.wrap (4 * ((i : Int) + 1)) = 4 * ((i : Int) + 1) := IntWalk.i64_in _ ap1
 have e8 : IntKind.i64.wrap (256 - 4 * ((i : Int) + 1)) = (a : Int) := by rw [haI]; exact IntWalk.i64_in _ ap1
 have hfr := st1.fr
 clear st1 haI
 have hw : lw t.1 (a / 64) / 2 ^ (a % 64) < 18446744073709551616 := Nat.lt_of_le_of_lt (Nat.div_le_self _ _) (f0S _ _)
 have hb := bits_and_u64_nat (lw t.1 (a / 64) / 2 ^ (a % 64)) 15 hw ap1
 rw [show (15 : Nat) = 2 ^ 4 - 1 by decide, Nat.and_two_pow_sub_one_eq_mod, show (2 : Nat) ^ 4 - 1 = 15 by decide, show (2 : Nat) ^ 4 = 16 by decide] at hb
 simp only [Int.natCast_ediv, Int.natCast_pow, Int.cast_ofNat_Int] at hb
 clear ha ha2 hi
 go_wp2
 go_ret
 refine ⟨n0h ?_, hfr⟩
 rw [← HD.out]
 simp
theorem A0m (l : List (Nat × PT)) (gc : Nat) (a : Option Addr) (n c : Nat) (w : World) (h : Cv w gc) (hl : l.length = n) (hn : n ≤ 100000) (htm : Rd w a (l.length * 196) (tmL l)) :
  Calls Tryz.prog 110 #[.pointer (some ⟨gc, 0, none⟩), .slice a n c] w fun e w' => e = .returned (.agg (j0W l).L.toArray) ∧ Fr Nob w w' := by
 subst hl
 rw [← w0C]
 have HCV := qH h
 have HTM := qH htm
 clear h htm
 have st0 := St.start Nob w
 go_enter Tryz.func110, Tryz.ntmps110
 go_wp2_with (with_reducible refine wSk 4 ?_)
 refine a0b st0 rfl rfl (z := .agg (List.replicate 12 (.int .u64 0)).toArray) ap0 (cw 12 0) ap5 ?_
 intro g4 w1 st1
 clear st0
 go_wp2_with fail
 refine (k0S gc _ (HCV.out.keep st1.fr)).mono ?_
 rintro e' w2 ⟨rfl, hf2⟩
 have st2 := st1.keep hf2
 clear st1 hf2
 go_wp2_with (with_reducible refine wSk 5 ?_)
 refine a0b st2 rfl rfl (z := .agg (List.replicate 12 (.int .u64 0)).toArray) ap0 (cw 12 0) ap5 ?_
 intro g5 w3 st3
 clear st2
 go_wp2_with (with_reducible refine wSn ?_)
 refine a0c st3 1 rfl rfl rfl rfl rfl (by first | (simp only [a0g]; done) | (simp only [a0g, PT.len]; done)) ap11 (PT.one _) ?_
 intro w4 st4
 clear st3
 rw [r0f l] at st4
 go_wp2
 go_loopw [10] (fun x wr => ∃ i : Nat, i ≤ 64 ∧ x = .int .i64 (i : Int) ∧ St Nob w wr [(g4, cw 12 0, 174), (g5, (g0q l i).L, 174)]) (fun x _ => 64 - (intOf x).toNat)
 case atStart => exact ⟨0, by omega, rfl, st4⟩
 case round =>
  obtain ⟨i, hi, rfl, st⟩ := hrel
  clear st4
  by_cases hlt : i < 64
  ·have hltI : (i : Int) < 64 := by omega
   go_wp2
   go_loopw [13] (fun x wr => ∃ q : Nat, q ≤ 4 ∧ x = .int .i64 (q : Int) ∧ St Nob w wr [(g4, cw 12 0, 174), (g5, (dbN (g0q l i) q).L, 174)]) (fun x _ => 4 - (intOf x).toNat)
   case atStart => exact ⟨0, by omega, rfl, by rw [t0r]; exact st⟩
   case round =>
    obtain ⟨q, hq, rfl, st2⟩ := hrel
    clear st
    by_cases hq4 : q < 4
    ·have hqI : (q : Int) < 4 := by omega
     go_wp2_with (with_reducible refine wSk 16 ?_)
     refine a0s st2 1 rfl rfl rfl Tryz.underlying174 rfl rfl ap11 ?_
     go_wp2_with fail
     refine (A0l (g0q l i) q gc _ (HCV.out.keep st2.fr)).mono ?_
     rintro e' w5 ⟨rfl, hf5⟩
     have st5 := st2.keep hf5
     clear st2 hf5
     go_wp2_with (with_reducible refine wSn ?_)
     refine a0c st5 1 rfl rfl rfl rfl rfl (by first | (simp only [a0g]; done) | (simp only [PT.len]; done)) ap11 (PT.one _) ?_
     intro w6 st6
     clear st5
     go_wp2
     go_roundw
     case rel => exact ⟨q + 1, by omega, by go_num, st6⟩
     case measure => simp [intOf]; omega
    ·have hqI : ¬ ((q : Int) < 4) := by omega
     have hq5 : q = 4 := by omega
     rw [hq5] at st2
     clear hq5
     go_wp2
     go_loopw [21] (fun x wr => ∃ k : Nat, k ≤ l.length ∧ x = .int .i64 (k : Int) ∧ St Nob w wr [(g4, cw 12 0, 174), (g5, (g0G l i (dbN (g0q l i) 4) k).L, 174)]) (fun x _ => l.length - (intOf x).toNat)
     case atStart => exact ⟨0, by omega, rfl, by rw [r0g]; exact st2⟩
     case round =>
      obtain ⟨k, hk, rfl, st3⟩ := hrel
      clear st2
      by_cases hkl : k < l.length
      ·have hkI : (k : Int) < (l.length : Int) := by omega
       obtain ⟨ba, oa, hea, -⟩ := HTM.out.at ap1
       subst hea
       obtain ⟨d, hd⟩ : ∃ d, dig (63 - i) (g0p l k).1 = d := ⟨_, rfl⟩
       have hd16 : d < 16 := by rw [← hd]; unfold dig; exact Nat.mod_lt _ ap2
       have HD := qH hd
       have HIL := qH hlt
       have HKL := qH hkl
       clear hd hlt hkl
       have HD16 := qH hd16
       have hd1 : (0 : Int) ≤ (d : Int) := by omega
       have hd2 : (d : Int) < 16 := by omega
       go_wp2_with fail
       refine wp_region_noPanic ?_
       refine a0d (fun wx => St Nob w wx [(g4, cw 12 0, 174), (g5, (g0G l i (dbN (g0q l i) 4) k).L, 174)]) 15 (.w 0 (.t 1 (.w 2 (.w 3 (.w 4 (.w 5 (.w 6 (.t 7 (.w 8 (.w 10 (.w 11 (.r 9 (.w 12 (.t 13 (.r 14 (.m 15 .nil)))))))))))))))) ap0 ap0 st3.drew (fun _ _ _ _ _ h => h) ?_
       have hd4 := st3.drew
       clear st3
       refine a0a rfl rfl apW ?_
       try simp only [clL]
       refine a0h rfl rfl rfl rfl ((g0G l i (dbN (g0q l i) 4) k).L) (fun wx hS => St.rangeL hS 1 rfl 0 _ dZl) Tryz.underlying174 rfl ap11 ?_
       try simp only [clL]
       refine a0a rfl rfl apW ?_
       try simp only [clL]
       refine a0a rfl rfl apW ?_
       try simp only [clL]
       refine a0a rfl rfl apW ?_
       try simp only [clL]
       refine a0a rfl rfl apW ?_
       try simp only [clL]
       refine a0a rfl rfl apW ?_
       try simp only [clL]
       refine a0h rfl rfl rfl rfl (tmR (g0p l k)) (fun wx hS => (b0y (HTM.out.still (St.fr hS)) (k * 196) _ (r0d l k HKL.out))) Tryz.underlying181 rfl (by first | (rw [a0g]; kernel_rfl) | (simp only [e0q]; kernel_rfl)) ?_
       try simp only [clL]
       refine a0a rfl rfl apW ?_
       try simp only [clL]
       refine a0a rfl rfl apW ?_
       try simp only [clL]
       refine a0a rfl rfl apW ?_
       try simp only [clL]
       refine a0q rfl rfl ?_
       go_simp
       refine (w0D (g0p l k) i d HIL.out HD.out _).mono ?_
       rintro e' w5 ⟨rfl, hf5⟩
       have st5 := hd4.keep hf5
       clear hf5
       clear hd4
       refine ⟨st5, ?_⟩
       try simp only [clL]
       refine a0a rfl rfl apW ?_
       try simp only [clL]
       refine a0h rfl rfl rfl rfl ((e0G (g0p l k).2 d).L) (fun wx hS => by have hr := b0y (HTM.out.still (St.fr hS)) (k * 196 + (4 + d * 12)) _ (w0B l k d HKL.out HD16.out); rw [← Nat.add_assoc, ← Nat.add_assoc] at hr; exact hr) Tryz.underlying174 rfl ap11 ?_
       try simp only [clL]
       refine a0q rfl rfl ?_
       go_simp
       refine (y0K l i (dbN (g0q l i) 4) k d HD.out gc _ (HCV.out.keep st5.fr)).mono ?_
       rintro e' w6 ⟨rfl, hf6⟩
       have st6 := st5.keep hf6
       clear hf6
       clear st5
       refine ⟨st6, ?_⟩
       try simp only [clL]
       refine a0o rfl rfl ?_
       refine a0i st6 1 rfl rfl rfl rfl (by first | (simp only [a0g]; done) | (simp only [PT.len]; done)) ap11 (PT.one _) ?_
       intro w7 st7
       clear st6
       try simp only [Act.put]
       refine a0e ?_
       refine NoPanic.normal ?_
       go_wp2
       go_roundw
       case rel => exact ⟨k + 1, by have := HKL.out; omega, by go_num, st7⟩
       case measure => have := HKL.out; simp [intOf]; omega
      ·have hkI : ¬ ((k : Int) < (l.length : Int)) := by omega
       have hk2 : k = l.length := by omega
       rw [hk2, r0e] at st3
       clear hk2
       go_wp2
       go_roundw
       case rel => exact ⟨i + 1, by omega, by go_num, st3⟩
       case measure => simp [intOf]; omega
  ·have hltI : ¬ ((i : Int) < 64) := by omega
   have hi2 : i = 64 := by omega
   rw [hi2] at st
   clear hi2
   go_wp2_with (with_reducible refine wSk 41 ?_)
   refine a0s st 1 rfl rfl rfl Tryz.underlying174 rfl rfl ap11 ?_
   go_wp2_with (with_reducible refine wSn ?_)
   refine a0c st 0 rfl rfl rfl rfl rfl (by first | (simp only [a0g]; done) | (simp only [a0g, PT.len]; done)) ap11 (PT.one _) ?_
   intro w5 st5
   clear st
   have hr := st5.at 0 rfl
   have hfr := st5.fr
   clear st5
   go_wp2_with fail
   exact bodyPost_ret (a0y rfl rfl hr Tryz.underlying174 rfl ap11) rfl ⟨rfl, hfr⟩
end Go.Proofs.YtpfimiajoifjaaaGreat
namespace Go.Mv
open Go.RowKit
section
variable {P : Program} {w w0 : World} {ops : Array Oper} {rest : List Oper} {o : Oper} {a : Act} {Q : Exit → Act → World → Prop} {S : Nat → Prop} {bl : List (Nat × List Value × TypeId)} {K : Act → World → Prop}
theorem h0C (hst : St S w0 w bl) (i : Nat) {g : Nat} {L : List Value} {T : TypeId} (hb : bl[i]? = some (g, L, T)) {s x : Operand} {t xt : TypeId} (hgd : o.guard = none) (ho : o.op = .call { callee := .builtin .append, args := #[s, x], argTypes := #[t, xt] })
  {e : TypeId} {k : IntKind} {z : Value} (ht : P.underlying t = some (.slice e)) (hxt : P.underlying xt = some (.int k)) (hi0 : (P.info? e).map (fun i => (i.zero, i.size, i.bytes)) = some (some z, 1, 1)) (hzc : z.cells = #[z]) (hone : z.oneCell' = true) {n m cap : Nat} (hs : a.eval s = .slice (some ⟨g, 0, none⟩) n cap) {kx : IntKind} (hx : a.eval x = .int kx (m : Int))
  (hfit : n + m ≤ cap) (hm : 0 < m) (hm2 : m ≤ 1000000) (hL : n + m ≤ L.length) (L' : List Value) (hL' : splice L n (List.replicate m z) = L')
  (h : ∀ w', St S w0 w' (bl.set i (g, L', T)) → wpList P ops Q rest (a.put o.dst (.slice (some ⟨g, 0, none⟩) (n + m) cap)) w') : wpList P ops Q (o :: rest) a w := by
 refine wpList_plain hgd fun K hK => ?_
 obtain ⟨j, hj, hz, hsize, hby⟩ := info_parts hi0
 obtain ⟨w', hst', hh, hfr, hz2⟩ := b0w (P := P) g n T (List.replicate m z) 0 L w (hst.at i hb) (by simp; omega) (by intro v hv; rw [List.eq_of_mem_replicate hv]; exact hone)
 have hzz : (Builtin.zeroCells z.cells m).toList = List.replicate m z := by
  apply List.ext_getElem?
  intro q
  unfold Builtin.zeroCells
  rw [hzc]
  by_cases hq : q < m
  ·simp [hq, Nat.mod_one]
  ·simp [hq]
 have hwrap : IntKind.i64.wrap (m : Int) = (m : Int) := IntWalk.i64_in _ ap1
 have h1 : ¬ ((m : Int) < 0) := by omega
 have h2 : ¬ ((m : Int) * (1 : Int) > 2 ^ 48) := by omega
 have h2' : ¬ (2 ^ 48 < (m : Int)) := by omega
 have h3 : ¬ (m * 1 = 0) := by omega
 have h3' : m ≠ 0 := by omega
 have h4 : ¬ ((m : Int) ≤ 0) := by omega
 have hr : (Builtin.append_ #[t, xt] o.type #[.slice (some ⟨g, 0, none⟩) n cap, .int kx (m : Int)]).run P w = .ok (.slice (some ⟨g, 0, none⟩) (n + m) cap) w' := by
  simp [Builtin.append_, run_underlying ht, run_underlying hxt, sizeOf, typeInfo, hj, hsize, hby, hwrap, h1, h3', hfit, zeroValue, hz, c0V, asInt, asIntOf, hzz, hst']
  intro hbig
  omega
 unfold Oper.wp execOp
 simp only [ho, resolve, invoke, builtin, Sem.run_bind, Sem.run_pure, Result.andThen_ok, List.map_toArray, List.map_cons, List.map_nil, hs, hx, hr]
 rw [Nat.add_zero, hL'] at hh
 exact hK _ _ (h w' (hst.put i hb hfr hh))
theorem k0T (hst : St S w0 w bl) (i : Nat) {g : Nat} {L : List Value} {T : TypeId} (hb : bl[i]? = some (g, L, T)) {s x : Operand} {t : TypeId} (ho : o.op = .call { callee := .builtin .append, args := #[s, x], argTypes := #[t, t] })
  {e : TypeId} {z : Value} (ht : P.underlying t = some (.slice e)) (hi0 : (P.info? e).map (fun i => (i.zero, i.size, i.bytes)) = some (some z, 1, 1)) {n m cap c : Nat} (hs : a.eval s = .slice (some ⟨g, 0, none⟩) n cap) {xa : Option Addr} (hx : a.eval x = .slice xa m c) {news : List Value} (hnews : Rd w xa m news) (h1 : ∀ u ∈ news, u.oneCell' = true)
  (hfit : n + m ≤ cap) (hL : n + m ≤ L.length) (L' : List Value) (hL' : splice L n news = L')
  (h : ∀ w', St S w0 w' (bl.set i (g, L', T)) → K (a.put o.dst (.slice (some ⟨g, 0, none⟩) (n + m) cap)) w') : o.wp P a w K Q := by
 obtain ⟨j, hj, hz, hsize, hby⟩ := info_parts hi0
 have hlen := hnews.len
 obtain ⟨w', hr, hh, hfr, -⟩ := d0Y (P := P) t o.type e j ht hj g 0 n cap L T (hst.at i hb) xa m c news (by rw [hsize, Nat.mul_one]; exact hnews) h1 hfit (by rw [hsize]; omega)
 rw [hsize, Nat.mul_one, Nat.zero_add, hL'] at hh
 unfold Oper.wp execOp
 simp only [ho, resolve, invoke, builtin, Sem.run_bind, Sem.run_pure, Result.andThen_ok, List.map_toArray, List.map_cons, List.map_nil, hs, hx, hr]
 exact h w' (hst.put i hb hfr hh)
end
end Go.Mv
namespace Go.Proofs.YtpfimiajoifjaaaGreat
open Go.RowKit Go.Mv Mvp Mvq
attribute [local irreducible] a0v lw mix cw b0e b0f b0a beN b0l b0b a0z a0F elN mdL b0m rtN rtV b0J gXn gYn PT.L j0V j0x e0G tbL tmR tmL dbN g0G g0q j0W dig
end Go.Proofs.YtpfimiajoifjaaaGreat
