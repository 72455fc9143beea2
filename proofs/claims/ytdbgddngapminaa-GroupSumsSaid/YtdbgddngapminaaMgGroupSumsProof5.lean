/- The field of the curve, and the curve's points: inverses; no root of -7; the complete sum is never empty; The curve's points: a group; Chord and tangent; the program's sum and double (X / Z^2, Y / Z^3); the reference's (X / Z, Y / Z); multiples; The reference's sums (X / Z, Y / Z); numbers as members of the field; sums of multiples, digit by digit; A program's point: what it stands for; its double as the group's; group: nothing, plus; group: plus, of two points that are not nothing; A program's sum of two points as the group's; A field's laws, plainly: inverses, roots of squares; Points and their bytes, plain; A program's points as values: what the curve's functions answer; group: k256; group: multiples of a point. -/
import Derived.Test.YtdbgddngapminaaMgGroupSumsProof4
import Derived.Test.YtdbgddngapminaaMgGroupSumsProof2
import Derived.Test.YtdbgddngapminaaMgGroupSumsProof3
namespace Mvq
theorem isP_fP : IsP fP := isP_pP
theorem fP_val (a : K) : a.val < fP := a.isLt
theorem k_ne {a : K} (h : a ≠ 0) : ¬ fP ∣ a.val := by
  intro hd
  have h1 := fP_val a
  have h2 : a.val ≠ 0 := fun e => h (Fin.ext e)
  have := Nat.le_of_dvd (by omega) hd
  omega
def kinv (a : K) : K := kc (a.val ^ (fP - 2))
theorem kc_val (a : K) : kc a.val = a := by
  apply Fin.ext; simp [kc, Fin.ofNat, Nat.mod_eq_of_lt a.isLt]
theorem kc_mul' (a b : Nat) : kc (a * b) = kc a * kc b := by
  rw [← kc_mul]; apply Fin.ext; simp [kc, Fin.ofNat]
theorem kc_mod (a : Nat) : kc (a % fP) = kc a := by apply Fin.ext; simp [kc, Fin.ofNat]
theorem mul_kinv {a : K} (h : a ≠ 0) : a * kinv a = 1 := by
  have h1 := fermat isP_fP (k_ne h)
  have h2 : a.val * a.val ^ (fP - 2) = a.val ^ (fP - 1) := by rw [Nat.mul_comm, ← Nat.pow_succ, show (fP - 2).succ = fP - 1 by decide]
  have h3 : a * kinv a = kc (a.val * a.val ^ (fP - 2)) := by rw [kc_mul', kc_val]; rfl
  rw [h3, h2, ← kc_mod, h1]; decide
theorem mul_zero' {a b : K} (h : a * b = 0) : a = 0 ∨ b = 0 := by
  by_cases ha : a = 0
  · exact Or.inl ha
  · right
    have h1 := mul_kinv ha
    generalize kinv a = c at *
    grind -lia -linarith
theorem cancelK {a b c : K} (ha : a ≠ 0) (h : a * b = a * c) : b = c := by
  have h1 := mul_kinv ha
  generalize kinv a = d at *
  grind -lia -linarith
theorem pow_val (a : K) (n : Nat) : kc (a.val ^ n) = a ^ n := by
  induction n with
  | zero => rw [Nat.pow_zero]; have : kc 1 = 1 := by decide
            rw [this]; grind -lia -linarith
  | succ n ih => rw [Nat.pow_succ, kc_mul', ih, kc_val]; grind -lia -linarith
theorem no_root (c : K) : c * c * c + 7 ≠ 0 := by
  intro h
  have hc : c * c * c = kc (fP - 7) := by
    have : kc (fP - 7) + 7 = 0 := by decide
    generalize kc (fP - 7) = m at *
    grind -lia -linarith
  have hc0 : c ≠ 0 := by
    intro h0
    subst h0
    exact absurd h (by decide)
  have h1 : c ^ (fP - 1) = 1 := by
    rw [← pow_val, ← kc_mod, fermat isP_fP (k_ne hc0)]; decide
  have h2 : c ^ (fP - 1) = (c * c * c) ^ ((fP - 1) / 3) := by
    have e : (fP - 1) = (fP - 1) / 3 + (fP - 1) / 3 + (fP - 1) / 3 := by decide
    generalize (fP - 1) / 3 = n at *
    rw [e, pw_add, pw_add]
    clear e h1 h hc hc0
    induction n with
    | zero => grind -lia -linarith
    | succ n ih =>
      have e1 : ∀ x : K, x ^ (n + 1) = x ^ n * x := fun x => by grind -lia -linarith
      rw [e1, e1, ← ih]
      generalize c ^ n = d
      grind -lia -linarith
  rw [h1, hc] at h2
  have h3 : kc (fP - 7) ^ ((fP - 1) / 3) = kc ((fP - 7) ^ ((fP - 1) / 3) % fP) := by
    rw [kc_mod]
    generalize (fP - 1) / 3 = n
    induction n with
    | zero => have : kc 1 = 1 := by decide
              rw [Nat.pow_zero, this]; grind -lia -linarith
    | succ n ih => rw [Nat.pow_succ, kc_mul', ← ih]; grind -lia -linarith
  rw [h3, ← pm_ok fP 256 (fP - 7) ((fP - 1) / 3) (by decide)] at h2
  exact absurd h2 (by decide +kernel)
end Mvq

/- The curve's points: a group. -/
namespace Mvq
inductive Pt where
  | O : Pt
  | A : K → K → Pt
def onC : Pt → Prop
  | .O => True
  | .A x y => y * y = x * x * x + 7
/-- a point out of a fraction -/
def nm (X Y Z : K) : Pt := if Z = 0 then .O else .A (X * kinv Z) (Y * kinv Z)
def padd : Pt → Pt → Pt
  | .O, q => q
  | .A x y, .O => .A x y
  | .A x1 y1, .A x2 y2 => nm (cX x1 y1 1 x2 y2 1) (cY x1 y1 1 x2 y2 1) (cZ x1 y1 1 x2 y2 1)
def pneg : Pt → Pt
  | .O => .O
  | .A x y => .A x (-y)
theorem km21 : kc (fP - 21) = -21 := by decide
theorem k21 : kc 21 = 21 := by decide
theorem k63 : kc 63 = 63 := by decide
theorem k3 : kc 3 = 3 := by decide
theorem cX_eq (X1 Y1 Z1 X2 Y2 Z2 : K) : cX X1 Y1 Z1 X2 Y2 Z2 = (X1*Y2 + X2*Y1)*(Y1*Y2 - 21*Z1*Z2) - 21*(Y1*Z2 + Y2*Z1)*(X1*Z2 + X2*Z1) := by
  unfold cX; rw [km21]; grind -lia -linarith
theorem cY_eq (X1 Y1 Z1 X2 Y2 Z2 : K) : cY X1 Y1 Z1 X2 Y2 Z2 = (Y1*Y2 + 21*Z1*Z2)*(Y1*Y2 - 21*Z1*Z2) + 63*X1*X2*(X1*Z2 + X2*Z1) := by
  unfold cY; rw [km21, k21, k63]; grind -lia -linarith
theorem cZ_eq (X1 Y1 Z1 X2 Y2 Z2 : K) : cZ X1 Y1 Z1 X2 Y2 Z2 = (Y1*Z2 + Y2*Z1)*(Y1*Y2 + 21*Z1*Z2) + 3*X1*X2*(X1*Y2 + X2*Y1) := by
  unfold cZ; rw [k21, k3]; grind -lia -linarith
theorem nm_scale {a X Y Z : K} (ha : a ≠ 0) : nm (a * X) (a * Y) (a * Z) = nm X Y Z := by
  unfold nm
  by_cases hz : Z = 0
  · rw [if_pos hz, if_pos (by rw [hz]; grind -lia -linarith)]
  · have haz : a * Z ≠ 0 := fun h => (mul_zero' h).elim ha hz
    rw [if_neg hz, if_neg haz]
    have h1 := mul_kinv hz
    have h2 := mul_kinv haz
    generalize kinv Z = u at *
    generalize kinv (a * Z) = v at *
    have h3 : a * v = u := by
      refine cancelK hz ?_
      grind -lia -linarith
    congr 1
    · rw [← h3]; grind -lia -linarith
    · rw [← h3]; grind -lia -linarith
theorem y_ne {x y : K} (h : y * y = x * x * x + 7) : y ≠ 0 := by
  intro h0
  subst h0
  refine no_root x ?_
  grind -lia -linarith
theorem two_ne : (2 : K) ≠ 0 := by decide
/-- the difference's second coordinate -/
theorem z_id {x1 y1 x2 y2 : K} (h1 : y1 * y1 = x1 * x1 * x1 + 7) (h2 : y2 * y2 = x2 * x2 * x2 + 7) :
    cZ x1 y1 1 x2 y2 1 * cZ x1 y1 1 x2 y2 1 = (x1*x2*(x1+x2) + 14 + 2*y1*y2) * (x1*x2*(x1+x2) + 14 + 2*y1*y2) * (x1*x2*(x1+x2) + 14 + 2*y1*y2) + 7 * ((x2-x1)*(x2-x1)*(x2-x1)*(x2-x1)*(x2-x1)*(x2-x1)) := by
  rw [cZ_eq]
  grind -lia -linarith
theorem z_zero {x1 y1 x2 y2 : K} (h1 : y1 * y1 = x1 * x1 * x1 + 7) (h2 : y2 * y2 = x2 * x2 * x2 + 7) (hz : cZ x1 y1 1 x2 y2 1 = 0) : x2 = x1 ∧ y2 = -y1 := by
  by_cases hx : x2 - x1 = 0
  · have hx' : x2 = x1 := by grind -lia -linarith
    subst hx'
    have hyy : (y2 - y1) * (y2 + y1) = 0 := by grind -lia -linarith
    rcases mul_zero' hyy with h | h
    · exfalso
      have e : y2 = y1 := by grind -lia -linarith
      subst e
      rw [cZ_eq] at hz
      have h8 : (2 * y2) * ((2 * y2) * (2 * y2)) = 0 := by grind -lia -linarith
      have hy := y_ne h1
      have h2y : (2 : K) * y2 ≠ 0 := fun h => (mul_zero' h).elim two_ne hy
      exact (mul_zero' h8).elim h2y fun h => (mul_zero' h).elim h2y h2y
    · exact ⟨rfl, by grind -lia -linarith⟩
  · exfalso
    have hi := z_id h1 h2
    rw [hz] at hi
    have hd := mul_kinv hx
    generalize kinv (x2 - x1) = u at *
    generalize x1*x2*(x1+x2) + 14 + 2*y1*y2 = m at *
    generalize x2 - x1 = d at *
    refine no_root (m * u * u) ?_
    have e : (m * u * u) * (m * u * u) * (m * u * u) + 7 = (m * m * m + 7 * (d * d * d * d * d * d)) * (u * u * u * u * u * u) := by grind -lia -linarith
    rw [e, ← hi]
    grind -lia -linarith
theorem y_id (x y : K) (h : y * y = x * x * x + 7) (h0 : x*x*x*x*x*x + 140*(x*x*x) - 392 = 0) : False := by
  have hy := y_ne h
  have h2 : (2 : K) * y ≠ 0 := fun h => (mul_zero' h).elim two_ne hy
  have hu := mul_kinv h2
  generalize kinv (2 * y) = u at *
  refine no_root ((x*x*x*x - 56*x) * u * u) ?_
  have e : ((x*x*x*x - 56*x) * u * u) * ((x*x*x*x - 56*x) * u * u) * ((x*x*x*x - 56*x) * u * u) + 7 = ((x*x*x*x - 56*x) * (x*x*x*x - 56*x) * (x*x*x*x - 56*x) + 7 * ((2*y)*(2*y)*(2*y)*(2*y)*(2*y)*(2*y))) * (u * u * u * u * u * u) := by grind -lia -linarith
  have e2 : (x*x*x*x - 56*x) * (x*x*x*x - 56*x) * (x*x*x*x - 56*x) + 7 * ((2*y)*(2*y)*(2*y)*(2*y)*(2*y)*(2*y)) = (x*x*x*x*x*x + 140*(x*x*x) - 392) * (x*x*x*x*x*x + 140*(x*x*x) - 392) := by
    have e3 : (2*y)*(2*y)*(2*y)*(2*y)*(2*y)*(2*y) = 64 * ((x*x*x+7)*(x*x*x+7)*(x*x*x+7)) := by rw [← h]; grind -lia -linarith
    rw [e3]; grind -lia -linarith
  rw [e, e2, h0]; grind -lia -linarith
/-- a fraction that tells a point -/
def okT (X Y Z : K) : Prop := Z ≠ 0 ∨ (X = 0 ∧ Y ≠ 0)
theorem sum_ok {x1 y1 x2 y2 : K} (h1 : y1 * y1 = x1 * x1 * x1 + 7) (h2 : y2 * y2 = x2 * x2 * x2 + 7) : okT (cX x1 y1 1 x2 y2 1) (cY x1 y1 1 x2 y2 1) (cZ x1 y1 1 x2 y2 1) := by
  by_cases hz : cZ x1 y1 1 x2 y2 1 = 0
  · right
    obtain ⟨rfl, rfl⟩ := z_zero h1 h2 hz
    refine ⟨?_, fun h0 => ?_⟩
    · rw [cX_eq]; grind -lia -linarith
    · rw [cY_eq] at h0
      exact y_id x2 y1 h1 (by grind -lia -linarith)
  · exact Or.inl hz
theorem sum_on {x1 y1 x2 y2 : K} (h1 : y1 * y1 = x1 * x1 * x1 + 7) (h2 : y2 * y2 = x2 * x2 * x2 + 7) :
    cY x1 y1 1 x2 y2 1 * cY x1 y1 1 x2 y2 1 * cZ x1 y1 1 x2 y2 1 = cX x1 y1 1 x2 y2 1 * cX x1 y1 1 x2 y2 1 * cX x1 y1 1 x2 y2 1 + 7 * (cZ x1 y1 1 x2 y2 1 * cZ x1 y1 1 x2 y2 1 * cZ x1 y1 1 x2 y2 1) := by
  have eX : cX x1 y1 1 x2 y2 1 = x1*x2*x2*x2*y1 + x2*x1*x1*x1*y2 - 14*x1*y1 - 14*x2*y2 - 42*x1*y2 - 42*x2*y1 := by rw [cX_eq]; grind -lia -linarith
  have eY : cY x1 y1 1 x2 y2 1 = x1*x1*x1*x2*x2*x2 + 7*x1*x1*x1+7*x2*x2*x2 - 392 + 63*x1*x1*x2+63*x1*x2*x2 := by rw [cY_eq]; grind -lia -linarith
  have eZ : cZ x1 y1 1 x2 y2 1 = x1*x1*x1*y2 + 28*y2+28*y1+x2*x2*x2*y1+3*x1*x1*x2*y2+3*x1*x2*x2*y1 := by rw [cZ_eq]; grind -lia -linarith
  rw [eX, eY, eZ]
  clear eX eY eZ
  grind -lia -linarith
theorem nm_on {X Y Z : K} (h : Y * Y * Z = X * X * X + 7 * (Z * Z * Z)) : onC (nm X Y Z) := by
  unfold nm
  split
  · trivial
  · rename_i hz
    have h1 := mul_kinv hz
    generalize kinv Z = u at *
    show (Y * u) * (Y * u) = (X * u) * (X * u) * (X * u) + 7
    have e : (Y * u) * (Y * u) = (Y * Y * Z) * (u * u * u) := by grind -lia -linarith
    rw [e, h]; grind -lia -linarith
theorem padd_on {p q : Pt} (hp : onC p) (hq : onC q) : onC (padd p q) := by
  cases p with
  | O => exact hq
  | A x1 y1 => cases q with
    | O => exact hp
    | A x2 y2 => exact nm_on (sum_on hp hq)
theorem padd_comm (p q : Pt) : padd p q = padd q p := by
  cases p with
  | O => cases q <;> rfl
  | A x1 y1 => cases q with
    | O => rfl
    | A x2 y2 =>
      have eX : cX x1 y1 1 x2 y2 1 = cX x2 y2 1 x1 y1 1 := by rw [cX_eq, cX_eq]; grind -lia -linarith
      have eY : cY x1 y1 1 x2 y2 1 = cY x2 y2 1 x1 y1 1 := by rw [cY_eq, cY_eq]; grind -lia -linarith
      have eZ : cZ x1 y1 1 x2 y2 1 = cZ x2 y2 1 x1 y1 1 := by rw [cZ_eq, cZ_eq]; grind -lia -linarith
      simp only [padd, eX, eY, eZ]
theorem padd_zero (p : Pt) : padd p .O = p := by cases p <;> rfl
theorem zero_padd (p : Pt) : padd .O p = p := rfl
theorem padd_neg {p : Pt} : padd p (pneg p) = .O := by
  cases p with
  | O => rfl
  | A x y =>
    have eZ : cZ x y 1 x (-y) 1 = 0 := by rw [cZ_eq]; grind -lia -linarith
    simp only [pneg, padd, nm, eZ, if_true]
theorem pneg_on {p : Pt} (hp : onC p) : onC (pneg p) := by
  cases p with
  | O => trivial
  | A x y => show (-y) * (-y) = x * x * x + 7; have : y * y = x * x * x + 7 := hp; grind -lia -linarith
/-- a fraction and a point -/
theorem nm_padd {X Y Z x y : K} (ht : okT X Y Z) (hq : y * y = x * x * x + 7) (hp : onC (nm X Y Z)) :
    padd (nm X Y Z) (.A x y) = nm (cX X Y Z x y 1) (cY X Y Z x y 1) (cZ X Y Z x y 1) ∧ okT (cX X Y Z x y 1) (cY X Y Z x y 1) (cZ X Y Z x y 1) := by
  by_cases hz : Z = 0
  · obtain ⟨hX, hY⟩ := ht.resolve_left (by simpa using hz)
    subst hz hX
    have hy := y_ne hq
    have hs : Y * Y * y ≠ 0 := fun h => (mul_zero' h).elim (fun h => (mul_zero' h).elim hY hY) hy
    have eX : cX 0 Y 0 x y 1 = (Y * Y * y) * x := by rw [cX_eq]; grind -lia -linarith
    have eY : cY 0 Y 0 x y 1 = (Y * Y * y) * y := by rw [cY_eq]; grind -lia -linarith
    have eZ : cZ 0 Y 0 x y 1 = (Y * Y * y) * 1 := by rw [cZ_eq]; grind -lia -linarith
    rw [eX, eY, eZ, nm_scale hs]
    constructor
    · have h0 : nm 0 Y 0 = .O := by unfold nm; rw [if_pos rfl]
      have h1 : nm x y 1 = .A x y := by
        unfold nm
        rw [if_neg (by decide)]
        have h1 := mul_kinv (show (1 : K) ≠ 0 by decide)
        generalize kinv (1 : K) = u at *
        congr 1
        · grind -lia -linarith
        · grind -lia -linarith
      rw [h0, h1]; rfl
    · left
      intro h; exact hs (by grind -lia -linarith)
  · have hN : nm X Y Z = .A (X * kinv Z) (Y * kinv Z) := by unfold nm; rw [if_neg hz]
    rw [hN] at hp ⊢
    have h1 := mul_kinv hz
    have hp' : (Y * kinv Z) * (Y * kinv Z) = (X * kinv Z) * (X * kinv Z) * (X * kinv Z) + 7 := hp
    have hok := sum_ok hp' hq
    generalize kinv Z = u at *
    have eX : cX X Y Z x y 1 = (Z * Z) * cX (X * u) (Y * u) 1 x y 1 := by rw [cX_eq, cX_eq]; grind -lia -linarith
    have eY : cY X Y Z x y 1 = (Z * Z) * cY (X * u) (Y * u) 1 x y 1 := by rw [cY_eq, cY_eq]; grind -lia -linarith
    have eZ : cZ X Y Z x y 1 = (Z * Z) * cZ (X * u) (Y * u) 1 x y 1 := by rw [cZ_eq, cZ_eq]; grind -lia -linarith
    have hzz : Z * Z ≠ 0 := fun h => (mul_zero' h).elim hz hz
    rw [eX, eY, eZ, nm_scale hzz]
    refine ⟨rfl, ?_⟩
    rcases hok with h | ⟨h2, h3⟩
    · exact Or.inl fun h' => (mul_zero' h').elim hzz h
    · exact Or.inr ⟨by rw [h2]; grind -lia -linarith, fun h' => (mul_zero' h').elim hzz h3⟩
theorem nm_same {X Y Z X' Y' Z' : K} (h : okT X Y Z) (h' : okT X' Y' Z') (e1 : X * Z' = X' * Z) (e2 : Y * Z' = Y' * Z) : nm X Y Z = nm X' Y' Z' := by
  by_cases hz : Z = 0
  · obtain ⟨hX, hY⟩ := h.resolve_left (by simpa using hz)
    subst hz
    have : Y * Z' = 0 := by rw [e2]; grind -lia -linarith
    have hz' := (mul_zero' this).resolve_left hY
    unfold nm
    rw [if_pos rfl, if_pos hz']
  · by_cases hz' : Z' = 0
    · obtain ⟨hX, hY⟩ := h'.resolve_left (by simpa using hz')
      subst hz'
      exfalso
      have : Y' * Z = 0 := by rw [← e2]; grind -lia -linarith
      exact (mul_zero' this).elim hY hz
    · unfold nm
      rw [if_neg hz, if_neg hz']
      have h1 := mul_kinv hz
      have h2 := mul_kinv hz'
      generalize kinv Z = u at *
      generalize kinv Z' = v at *
      congr 1
      · refine cancelK hz (cancelK hz' ?_); grind -lia -linarith
      · refine cancelK hz (cancelK hz' ?_); grind -lia -linarith
theorem padd_assoc {p q r : Pt} (hp : onC p) (hq : onC q) (hr : onC r) : padd (padd p q) r = padd p (padd q r) := by
  cases p with
  | O => rfl
  | A x1 y1 => cases q with
    | O => cases r <;> rfl
    | A x2 y2 => cases r with
      | O => rw [padd_zero, padd_zero]
      | A x3 y3 =>
        have h1 : y1 * y1 = x1 * x1 * x1 + 7 := hp
        have h2 : y2 * y2 = x2 * x2 * x2 + 7 := hq
        have h3 : y3 * y3 = x3 * x3 * x3 + 7 := hr
        have hA := nm_padd (sum_ok h1 h2) h3 (nm_on (sum_on h1 h2))
        have hB := nm_padd (sum_ok h2 h3) h1 (nm_on (sum_on h2 h3))
        have hass := assoc x1 x2 x3 y1 y2 y3 h1 h2 h3
        rw [padd_comm (.A x1 y1) (padd _ _)]
        show padd (nm _ _ _) (.A x3 y3) = padd (nm _ _ _) (.A x1 y1)
        rw [hA.1, hB.1]
        have swX : ∀ X Y Z : K, cX X Y Z x1 y1 1 = cX x1 y1 1 X Y Z := fun X Y Z => by rw [cX_eq, cX_eq]; grind -lia -linarith
        have swY : ∀ X Y Z : K, cY X Y Z x1 y1 1 = cY x1 y1 1 X Y Z := fun X Y Z => by rw [cY_eq, cY_eq]; grind -lia -linarith
        have swZ : ∀ X Y Z : K, cZ X Y Z x1 y1 1 = cZ x1 y1 1 X Y Z := fun X Y Z => by rw [cZ_eq, cZ_eq]; grind -lia -linarith
        have hB2 := hB.2
        rw [swX, swY, swZ] at hB2 ⊢
        exact nm_same hA.2 hB2 hass.1 hass.2
end Mvq

/- Chord and tangent; the program's sum and double (X / Z^2, Y / Z^3); the reference's (X / Z, Y / Z); multiples. -/
namespace Mvq
/-- the chord -/
theorem chord4 {x1 y1 x2 y2 : K} (h1 : y1 * y1 = x1 * x1 * x1 + 7) (h2 : y2 * y2 = x2 * x2 * x2 + 7) : (x1*x2*(x1+x2) + 14 - 2*y1*y2) = (y2 - y1) * (y2 - y1) - (x1 + x2) * ((x2 - x1) * (x2 - x1)) := by
  grind -lia -linarith
theorem chordY {x1 y1 x2 y2 : K} (h1 : y1 * y1 = x1 * x1 * x1 + 7) (h2 : y2 * y2 = x2 * x2 * x2 + 7) : cY x1 y1 1 x2 y2 1 * ((x2 - x1) * (x2 - x1) * (x2 - x1)) = ((y2 - y1) * (x1 * ((x2 - x1) * (x2 - x1)) - (x1*x2*(x1+x2) + 14 - 2*y1*y2)) - y1 * ((x2 - x1) * (x2 - x1) * (x2 - x1))) * cZ x1 y1 1 x2 y2 1 := by
  have eY : cY x1 y1 1 x2 y2 1 = x1*x1*x1*x2*x2*x2 + 7*x1*x1*x1+7*x2*x2*x2 - 392 + 63*x1*x1*x2+63*x1*x2*x2 := by rw [cY_eq]; grind -lia -linarith
  have eZ : cZ x1 y1 1 x2 y2 1 = x1*x1*x1*y2 + 28*y2+28*y1+x2*x2*x2*y1+3*x1*x1*x2*y2+3*x1*x2*x2*y1 := by rw [cZ_eq]; grind -lia -linarith
  rw [eY, eZ]
  clear eY eZ
  grind -lia -linarith
theorem padd_chord {x1 y1 x2 y2 u : K} (h1 : y1 * y1 = x1 * x1 * x1 + 7) (h2 : y2 * y2 = x2 * x2 * x2 + 7) (hd : (x2 - x1) * u = 1) :
    padd (.A x1 y1) (.A x2 y2) = .A (((y2 - y1) * u) * ((y2 - y1) * u) - x1 - x2) (((y2 - y1) * u) * (x1 - (((y2 - y1) * u) * ((y2 - y1) * u) - x1 - x2)) - y1) := by
  have hz : cZ x1 y1 1 x2 y2 1 ≠ 0 := fun h => by
    obtain ⟨rfl, -⟩ := z_zero h1 h2 h
    have : (0 : K) = 1 := by rw [← hd]; grind -lia -linarith
    exact absurd this (by decide)
  show nm _ _ _ = _
  have hd0 : x2 - x1 ≠ 0 := fun h => by
    rw [h] at hd
    have : (0 : K) = 1 := by rw [← hd]; grind -lia -linarith
    exact absurd this (by decide)
  have eX : cX x1 y1 1 x2 y2 1 * ((x2 - x1) * (x2 - x1)) = (x1*x2*(x1+x2) + 14 - 2*y1*y2) * cZ x1 y1 1 x2 y2 1 := by
    rw [cX_eq, cZ_eq]; grind -lia -linarith
  have e4 : (x1*x2*(x1+x2) + 14 - 2*y1*y2) = (y2 - y1) * (y2 - y1) - (x1 + x2) * ((x2 - x1) * (x2 - x1)) := chord4 h1 h2
  have eY := chordY h1 h2
  rw [e4] at eX eY
  unfold nm
  rw [if_neg hz]
  have hv := mul_kinv hz
  generalize kinv (cZ x1 y1 1 x2 y2 1) = v at *
  generalize cX x1 y1 1 x2 y2 1 = X at *
  generalize cY x1 y1 1 x2 y2 1 = Y at *
  generalize cZ x1 y1 1 x2 y2 1 = Z at *
  clear h1 h2 e4
  generalize hdd : x2 - x1 = d at *
  generalize y2 - y1 = n at *
  have hx2 : x2 = x1 + d := by rw [← hdd]; grind -lia -linarith
  subst hx2
  clear hdd
  congr 1
  · refine cancelK hd0 (cancelK hd0 (cancelK hz ?_)); grind -lia -linarith
  · refine cancelK hd0 (cancelK hd0 (cancelK hd0 (cancelK hz ?_))); grind -lia -linarith
/-- the tangent -/
theorem padd_tangent {x y u : K} (h : y * y = x * x * x + 7) (hd : (2 * y) * u = 1) :
    padd (.A x y) (.A x y) = .A ((3 * x * x * u) * (3 * x * x * u) - x - x) ((3 * x * x * u) * (x - ((3 * x * x * u) * (3 * x * x * u) - x - x)) - y) := by
  have hy := y_ne h
  have h2y : (2 : K) * y ≠ 0 := fun h => (mul_zero' h).elim two_ne hy
  have eZ : cZ x y 1 x y 1 = (2 * y) * (2 * y) * (2 * y) := by rw [cZ_eq]; grind -lia -linarith
  have eX : cX x y 1 x y 1 = (2 * y) * (9 * x * x * x * x - 2 * x * ((2 * y) * (2 * y))) := by rw [cX_eq]; grind -lia -linarith
  have eY : cY x y 1 x y 1 = 3 * x * x * (x * ((2 * y) * (2 * y)) - (9 * x * x * x * x - 2 * x * ((2 * y) * (2 * y)))) - y * ((2 * y) * (2 * y) * (2 * y)) := by rw [cY_eq]; grind -lia -linarith
  show nm _ _ _ = _
  have hz : cZ x y 1 x y 1 ≠ 0 := by
    rw [eZ]; exact fun h => (mul_zero' h).elim (fun h => (mul_zero' h).elim h2y h2y) h2y
  unfold nm
  rw [if_neg hz]
  have hv := mul_kinv hz
  generalize kinv (cZ x y 1 x y 1) = v at *
  rw [eX, eY]
  rw [eZ] at hv
  clear eX eY eZ hz h
  generalize h2 : 2 * y = t at *
  congr 1
  · refine cancelK h2y (cancelK h2y ?_); grind -lia -linarith
  · refine cancelK h2y (cancelK h2y (cancelK h2y ?_)); grind -lia -linarith
/-- a point as X / Z^2, Y / Z^3 -/
def jk (X Y Z : K) : Pt := if Z = 0 then .O else .A (X * (kinv Z * kinv Z)) (Y * (kinv Z * kinv Z * kinv Z))
theorem jk_nz {X Y Z : K} (hz : Z ≠ 0) : jk X Y Z = .A (X * (kinv Z * kinv Z)) (Y * (kinv Z * kinv Z * kinv Z)) := by unfold jk; rw [if_neg hz]
theorem jk_z {X Y Z : K} (hz : Z = 0) : jk X Y Z = .O := by unfold jk; rw [if_pos hz]
/-- what is told by a point is told by it -/
theorem jk_is {X Y Z x y : K} (hz : Z ≠ 0) (hx : X = x * (Z * Z)) (hy : Y = y * (Z * Z * Z)) : jk X Y Z = .A x y := by
  rw [jk_nz hz]
  have h1 := mul_kinv hz
  generalize kinv Z = u at *
  subst hx hy
  congr 1
  · grind -lia -linarith
  · grind -lia -linarith
theorem jk_form {X Y Z : K} (hz : Z ≠ 0) (h : onC (jk X Y Z)) : ∃ x y, jk X Y Z = .A x y ∧ y * y = x * x * x + 7 ∧ X = x * (Z * Z) ∧ Y = y * (Z * Z * Z) := by
  refine ⟨_, _, jk_nz hz, ?_, ?_, ?_⟩
  · rw [jk_nz hz] at h; exact h
  · have h1 := mul_kinv hz
    generalize kinv Z = u at *
    grind -lia -linarith
  · have h1 := mul_kinv hz
    generalize kinv Z = u at *
    grind -lia -linarith
theorem jk_double {X Y Z : K} (h : onC (jk X Y Z)) (hz : Z ≠ 0) (a b bb d e x' : K) (ha : a = X * X) (hb : b = Y * Y) (hbb : bb = b * b) (hd : d = 2 * ((X + b) * (X + b) - (a + bb))) (he : e = 3 * a) (hx : x' = e * e - (d + d)) :
    jk x' (e * (d - x') - 8 * bb) (2 * (Y * Z)) = padd (jk X Y Z) (jk X Y Z) := by
  obtain ⟨x, y, e0, hon, hX, hY⟩ := jk_form hz h
  have hy := y_ne hon
  have h2y : (2 : K) * y ≠ 0 := fun h => (mul_zero' h).elim two_ne hy
  have hu := mul_kinv h2y
  rw [e0, padd_tangent hon hu]
  generalize kinv (2 * y) = u at *
  have hz4 : Z * Z * (Z * Z) ≠ 0 := fun h => (mul_zero' h).elim (fun h => (mul_zero' h).elim hz hz) (fun h => (mul_zero' h).elim hz hz)
  have eZ : 2 * (Y * Z) = (2 * y) * (Z * Z * (Z * Z)) := by rw [hY]; grind -lia -linarith
  refine jk_is (by rw [eZ]; exact fun h => (mul_zero' h).elim h2y hz4) ?_ ?_
  · rw [eZ]; subst hx he hd hbb hb ha hX hY; clear e0 h hon hz4 h2y hy eZ hz
    grind -lia -linarith
  · rw [eZ]; subst hx he hd hbb hb ha hX hY; clear e0 h hon hz4 h2y hy eZ hz
    grind -lia -linarith
theorem jk_plus {X1 Y1 Z1 X2 Y2 Z2 : K} (hp : onC (jk X1 Y1 Z1)) (hq : onC (jk X2 Y2 Z2)) (hz1 : Z1 ≠ 0) (hz2 : Z2 ≠ 0) (u1 u2 s1 s2 h r hh hhh v x : K) (e1 : u1 = X1 * (Z2 * Z2)) (e2 : u2 = X2 * (Z1 * Z1)) (e3 : s1 = Y1 * (Z2 * Z2 * Z2)) (e4 : s2 = Y2 * (Z1 * Z1 * Z1))
    (eh : h = u2 - u1) (er : r = s2 - s1) (hn : h ≠ 0) (ehh : hh = h * h) (ehhh : hhh = hh * h) (ev : v = u1 * hh) (ex : x = r * r - (hhh + (v + v))) :
    jk x (r * (v - x) - s1 * hhh) (h * (Z1 * Z2)) = padd (jk X1 Y1 Z1) (jk X2 Y2 Z2) := by
  obtain ⟨x1, y1, f1, o1, hX1, hY1⟩ := jk_form hz1 hp
  obtain ⟨x2, y2, f2, o2, hX2, hY2⟩ := jk_form hz2 hq
  have hzz : Z1 * Z2 ≠ 0 := fun h => (mul_zero' h).elim hz1 hz2
  have ehd : h = (x2 - x1) * ((Z1 * Z2) * (Z1 * Z2)) := by rw [eh, e1, e2, hX1, hX2]; grind -lia -linarith
  have erd : r = (y2 - y1) * ((Z1 * Z2) * (Z1 * Z2) * (Z1 * Z2)) := by rw [er, e3, e4, hY1, hY2]; grind -lia -linarith
  have eu : u1 = x1 * ((Z1 * Z2) * (Z1 * Z2)) := by rw [e1, hX1]; grind -lia -linarith
  have es : s1 = y1 * ((Z1 * Z2) * (Z1 * Z2) * (Z1 * Z2)) := by rw [e3, hY1]; grind -lia -linarith
  have hd0 : x2 - x1 ≠ 0 := fun hh => hn (by rw [ehd, hh]; grind -lia -linarith)
  have hu := mul_kinv hd0
  rw [f1, f2, padd_chord o1 o2 hu]
  generalize kinv (x2 - x1) = u at *
  refine jk_is (fun hh => (mul_zero' hh).elim hn hzz) ?_ ?_
  · subst ex ev ehhh ehh
    rw [erd, eu, ehd]
    clear e1 e2 e3 e4 eh er hn erd eu es ehd hX1 hX2 hY1 hY2 f1 f2 o1 o2 hp hq hz1 hz2 hd0
    generalize Z1 * Z2 = z at *
    generalize hdd : x2 - x1 = d at *
    have hx2 : x2 = x1 + d := by rw [← hdd]; grind -lia -linarith
    subst hx2; clear hdd
    generalize y2 - y1 = n at *
    grind -lia -linarith
  · subst ex ev ehhh ehh
    rw [erd, eu, ehd, es]
    clear e1 e2 e3 e4 eh er hn erd eu es ehd hX1 hX2 hY1 hY2 f1 f2 o1 o2 hp hq hz1 hz2 hd0
    generalize Z1 * Z2 = z at *
    generalize hdd : x2 - x1 = d at *
    have hx2 : x2 = x1 + d := by rw [← hdd]; grind -lia -linarith
    subst hx2; clear hdd
    generalize y2 - y1 = n at *
    grind -lia -linarith
/-- equal first coordinates -/
theorem jk_same {X1 Y1 Z1 X2 Y2 Z2 : K} (hp : onC (jk X1 Y1 Z1)) (hq : onC (jk X2 Y2 Z2)) (hz1 : Z1 ≠ 0) (hz2 : Z2 ≠ 0) (h : X2 * (Z1 * Z1) - X1 * (Z2 * Z2) = 0) :
    (Y2 * (Z1 * Z1 * Z1) - Y1 * (Z2 * Z2 * Z2) = 0 → jk X2 Y2 Z2 = jk X1 Y1 Z1) ∧ (Y2 * (Z1 * Z1 * Z1) - Y1 * (Z2 * Z2 * Z2) ≠ 0 → padd (jk X1 Y1 Z1) (jk X2 Y2 Z2) = .O) := by
  obtain ⟨x1, y1, f1, o1, hX1, hY1⟩ := jk_form hz1 hp
  obtain ⟨x2, y2, f2, o2, hX2, hY2⟩ := jk_form hz2 hq
  have hzz : Z1 * Z2 ≠ 0 := fun h => (mul_zero' h).elim hz1 hz2
  have hx : x2 = x1 := by
    refine cancelK hzz (cancelK hzz ?_)
    rw [hX1, hX2] at h; grind -lia -linarith
  subst hx
  have hyy : (y2 - y1) * (y2 + y1) = 0 := by grind -lia -linarith
  refine ⟨fun hy => ?_, fun hy => ?_⟩
  · have : y2 = y1 := by
      refine cancelK hzz (cancelK hzz (cancelK hzz ?_))
      rw [hY1, hY2] at hy; grind -lia -linarith
    rw [f1, f2, this]
  · rcases mul_zero' hyy with h1 | h1
    · exfalso
      refine hy ?_
      have e : y2 = y1 := by grind -lia -linarith
      rw [hY1, hY2, e]; grind -lia -linarith
    · have e : y2 = -y1 := by grind -lia -linarith
      rw [f1, f2, e]
      exact padd_neg (p := .A x2 y1)
/-- so many times a point -/
def pmul : Nat → Pt → Pt
  | 0, _ => .O
  | n + 1, p => padd (pmul n p) p
theorem pmul_on {p : Pt} (hp : onC p) : ∀ n, onC (pmul n p)
  | 0 => trivial
  | n + 1 => padd_on (pmul_on hp n) hp
theorem pmul_add {p : Pt} (hp : onC p) (m : Nat) : ∀ n, pmul (m + n) p = padd (pmul m p) (pmul n p)
  | 0 => (padd_zero _).symm
  | n + 1 => by
    show padd (pmul (m + n) p) p = padd (pmul m p) (padd (pmul n p) p)
    rw [pmul_add hp m n, padd_assoc (pmul_on hp m) (pmul_on hp n) hp]
theorem pmul_mul {p : Pt} (hp : onC p) (m : Nat) : ∀ n, pmul (m * n) p = pmul n (pmul m p)
  | 0 => rfl
  | n + 1 => by
    rw [Nat.mul_succ, pmul_add hp, pmul_mul hp m n]; rfl
theorem pmul_O : ∀ n, pmul n .O = .O
  | 0 => rfl
  | n + 1 => by rw [pmul, pmul_O n]; rfl
theorem pmul_dist {p q : Pt} (hp : onC p) (hq : onC q) : ∀ n, pmul n (padd p q) = padd (pmul n p) (pmul n q)
  | 0 => rfl
  | n + 1 => by
    have h1 := pmul_on hp n
    have h2 := pmul_on hq n
    simp only [pmul]
    rw [pmul_dist hp hq n, padd_assoc h1 h2 (padd_on hp hq), padd_assoc h1 hp (padd_on h2 hq), ← padd_assoc h2 hp hq, padd_comm (pmul n q) p, padd_assoc hp h2 hq]
end Mvq

/- The reference's sums (X / Z, Y / Z); numbers as members of the field; sums of multiples, digit by digit. -/
namespace Mvq
theorem pP_fP : Mvp.pP = fP := by decide
theorem kc_addn (a b : Nat) : kc (a + b) = kc a + kc b := by rw [← kc_add, kc_mod]
theorem kc_subn (a b : Nat) : kc (a + (fP - b % fP)) = kc a - kc b := by
  have h : kc (a + (fP - b % fP)) + kc b = kc a := by
    rw [← kc_addn]
    apply Fin.ext
    simp only [kc, Fin.ofNat]
    have h1 := Nat.div_add_mod b fP
    have h2 : b % fP < fP := Nat.mod_lt _ (by decide)
    rw [show a + (fP - b % fP) + b = a + fP * (b / fP + 1) by rw [Nat.mul_add]; omega, Nat.add_mul_mod_self_left]
  rw [← h]; generalize kc b = u; generalize kc (a + (fP - b % fP)) = v; grind -lia -linarith
theorem kc_negn (b : Nat) : kc (fP - b % fP) = - kc b := by
  have h := kc_subn 0 b
  rw [Nat.zero_add] at h
  have h0 : kc 0 = 0 := by decide
  rw [h, h0]; generalize kc b = u; grind -lia -linarith
theorem kc_eqz (a : Nat) : (a % fP == 0) = decide (kc a = 0) := by
  rw [Bool.eq_iff_iff]
  simp only [beq_iff_eq, decide_eq_true_eq]
  constructor
  · intro h
    apply Fin.ext
    simp only [kc, Fin.ofNat]
    exact h
  · intro h
    have := congrArg Fin.val h
    exact this
theorem kc_eq (a b : Nat) : (a % fP == b % fP) = decide (kc a = kc b) := by
  rw [Bool.eq_iff_iff]
  simp only [beq_iff_eq, decide_eq_true_eq]
  constructor
  · intro h
    apply Fin.ext
    simp only [kc, Fin.ofNat]
    exact h
  · intro h
    have := congrArg Fin.val h
    simpa only [kc, Fin.ofNat] using this
theorem nm_nz {X Y Z : K} (hz : Z ≠ 0) : nm X Y Z = .A (X * kinv Z) (Y * kinv Z) := by unfold nm; rw [if_neg hz]
theorem nm_z {X Y Z : K} (hz : Z = 0) : nm X Y Z = .O := by unfold nm; rw [if_pos hz]
theorem nm_is {X Y Z x y : K} (hz : Z ≠ 0) (hx : X = x * Z) (hy : Y = y * Z) : nm X Y Z = .A x y := by
  rw [nm_nz hz]
  have h1 := mul_kinv hz
  generalize kinv Z = u at *
  subst hx hy
  congr 1
  · grind -lia -linarith
  · grind -lia -linarith
theorem nm_form {X Y Z : K} (hz : Z ≠ 0) (h : onC (nm X Y Z)) : ∃ x y, nm X Y Z = .A x y ∧ y * y = x * x * x + 7 ∧ X = x * Z ∧ Y = y * Z := by
  refine ⟨_, _, nm_nz hz, ?_, ?_, ?_⟩
  · rw [nm_nz hz] at h; exact h
  · have h1 := mul_kinv hz
    generalize kinv Z = u at *
    grind -lia -linarith
  · have h1 := mul_kinv hz
    generalize kinv Z = u at *
    grind -lia -linarith
theorem rk_double {X Y Z : K} (h : onC (nm X Y Z)) (hz : Z ≠ 0) (xx d e ee eee t : K) (h1 : xx = X * X) (h2 : d = 3 * xx) (h3 : e = 2 * Y * Z) (h4 : ee = e * e) (h5 : eee = ee * e) (h6 : t = d * d * Z - 2 * X * ee) :
    nm (e * t) (d * (X * ee - t) - Y * eee) (eee * Z) = padd (nm X Y Z) (nm X Y Z) := by
  obtain ⟨x, y, e0, hon, hX, hY⟩ := nm_form hz h
  have hy := y_ne hon
  have h2y : (2 : K) * y ≠ 0 := fun h => (mul_zero' h).elim two_ne hy
  have hu := mul_kinv h2y
  rw [e0, padd_tangent hon hu]
  generalize kinv (2 * y) = u at *
  have he : e = (2 * y) * (Z * Z) := by rw [h3, hY]; grind -lia -linarith
  have hzz : Z * Z ≠ 0 := fun h => (mul_zero' h).elim hz hz
  have he0 : e ≠ 0 := by rw [he]; exact fun h => (mul_zero' h).elim h2y hzz
  refine nm_is (by rw [h5, h4]; exact fun h => (mul_zero' h).elim (fun h => (mul_zero' h).elim (fun h => (mul_zero' h).elim he0 he0) he0) hz) ?_ ?_
  · subst h6 h5 h4 h2 h1 hX hY
    rw [he]
    clear e0 h hon hzz h2y hy hz he0 he h3
    grind -lia -linarith
  · subst h6 h5 h4 h2 h1 hX hY
    rw [he]
    clear e0 h hon hzz h2y hy hz he0 he h3
    grind -lia -linarith
theorem rk_plus {X1 Y1 Z1 X2 Y2 Z2 : K} (hp : onC (nm X1 Y1 Z1)) (hq : onC (nm X2 Y2 Z2)) (hz1 : Z1 ≠ 0) (hz2 : Z2 ≠ 0) (u v u2 v2 d e w ee eee t : K) (e1 : u = Y2 * Z1) (e2 : v = X2 * Z1) (e3 : u2 = Y1 * Z2) (e4 : v2 = X1 * Z2)
    (ed : d = u - u2) (ee' : e = v - v2) (hn : e ≠ 0) (ew : w = Z1 * Z2) (h4 : ee = e * e) (h5 : eee = ee * e) (h6 : t = d * d * w - eee - 2 * v2 * ee) :
    nm (e * t) (d * (v2 * ee - t) - u2 * eee) (eee * w) = padd (nm X1 Y1 Z1) (nm X2 Y2 Z2) := by
  obtain ⟨x1, y1, f1, o1, hX1, hY1⟩ := nm_form hz1 hp
  obtain ⟨x2, y2, f2, o2, hX2, hY2⟩ := nm_form hz2 hq
  have hzz : w ≠ 0 := by rw [ew]; exact fun h => (mul_zero' h).elim hz1 hz2
  have ehd : e = (x2 - x1) * w := by rw [ee', e2, e4, hX1, hX2, ew]; grind -lia -linarith
  have erd : d = (y2 - y1) * w := by rw [ed, e1, e3, hY1, hY2, ew]; grind -lia -linarith
  have eu : v2 = x1 * w := by rw [e4, hX1, ew]; grind -lia -linarith
  have es : u2 = y1 * w := by rw [e3, hY1, ew]; grind -lia -linarith
  have hd0 : x2 - x1 ≠ 0 := fun hh => hn (by rw [ehd, hh]; grind -lia -linarith)
  have hu := mul_kinv hd0
  rw [f1, f2, padd_chord o1 o2 hu]
  generalize kinv (x2 - x1) = z at *
  refine nm_is (by rw [h5, h4]; exact fun h => (mul_zero' h).elim (fun h => (mul_zero' h).elim (fun h => (mul_zero' h).elim hn hn) hn) hzz) ?_ ?_
  · subst h6 h5 h4
    rw [erd, eu, ehd]
    clear e1 e2 e3 e4 ed ee' hn erd eu es ehd hX1 hX2 hY1 hY2 f1 f2 o1 o2 hp hq hz1 hz2 hd0 ew hzz
    generalize hdd : x2 - x1 = dd at *
    have hx2 : x2 = x1 + dd := by rw [← hdd]; grind -lia -linarith
    subst hx2; clear hdd
    generalize y2 - y1 = n at *
    grind -lia -linarith
  · subst h6 h5 h4
    rw [erd, eu, ehd, es]
    clear e1 e2 e3 e4 ed ee' hn erd eu es ehd hX1 hX2 hY1 hY2 f1 f2 o1 o2 hp hq hz1 hz2 hd0 ew hzz
    generalize hdd : x2 - x1 = dd at *
    have hx2 : x2 = x1 + dd := by rw [← hdd]; grind -lia -linarith
    subst hx2; clear hdd
    generalize y2 - y1 = n at *
    grind -lia -linarith
theorem rk_same {X1 Y1 Z1 X2 Y2 Z2 : K} (hp : onC (nm X1 Y1 Z1)) (hq : onC (nm X2 Y2 Z2)) (hz1 : Z1 ≠ 0) (hz2 : Z2 ≠ 0) (h : X2 * Z1 = X1 * Z2) :
    (Y2 * Z1 = Y1 * Z2 → nm X2 Y2 Z2 = nm X1 Y1 Z1) ∧ (Y2 * Z1 ≠ Y1 * Z2 → padd (nm X1 Y1 Z1) (nm X2 Y2 Z2) = .O) ∧ Y2 * Z1 ≠ 0 := by
  obtain ⟨x1, y1, f1, o1, hX1, hY1⟩ := nm_form hz1 hp
  obtain ⟨x2, y2, f2, o2, hX2, hY2⟩ := nm_form hz2 hq
  have hzz : Z1 * Z2 ≠ 0 := fun h => (mul_zero' h).elim hz1 hz2
  have hx : x2 = x1 := by
    refine cancelK hzz ?_
    rw [hX1, hX2] at h; grind -lia -linarith
  subst hx
  have hyy : (y2 - y1) * (y2 + y1) = 0 := by grind -lia -linarith
  refine ⟨fun hy => ?_, fun hy => ?_, fun hy => ?_⟩
  · have : y2 = y1 := by
      refine cancelK hzz ?_
      rw [hY1, hY2] at hy; grind -lia -linarith
    rw [f1, f2, this]
  · rcases mul_zero' hyy with h1 | h1
    · exfalso
      refine hy ?_
      have e : y2 = y1 := by grind -lia -linarith
      rw [hY1, hY2, e]; grind -lia -linarith
    · have e : y2 = -y1 := by grind -lia -linarith
      rw [f1, f2, e]
      exact padd_neg (p := .A x2 y1)
  · have hy2 := y_ne o2
    rcases mul_zero' hy with h1 | h1
    · rw [hY2] at h1; exact (mul_zero' h1).elim hy2 hz2
    · exact hz1 h1
/-- sums of multiples -/
def psum : List (Nat × Pt) → Pt
  | [] => .O
  | (n, p) :: l => padd (pmul n p) (psum l)
theorem psum_on : ∀ (l : List (Nat × Pt)), (∀ t ∈ l, onC t.2) → onC (psum l)
  | [], _ => trivial
  | (n, p) :: l, h => padd_on (pmul_on (h (n, p) (by simp)) n) (psum_on l fun t ht => h t (List.mem_cons_of_mem _ ht))
/-- each number's leading digits, in sixteens -/
def lead (k : Nat) (l : List (Nat × Pt)) : List (Nat × Pt) := l.map fun t => (t.1 / 16 ^ k, t.2)
def dig (k n : Nat) : Nat := n / 16 ^ k % 16
theorem lead_next (k : Nat) : ∀ (l : List (Nat × Pt)), (∀ t ∈ l, onC t.2) → psum (lead k l) = padd (pmul 16 (psum (lead (k + 1) l))) (psum (l.map fun t => (dig k t.1, t.2)))
  | [], _ => (by rw [show psum (lead (k + 1) []) = .O from rfl, pmul_O]; rfl)
  | (n, p) :: l, h => by
    have hl : ∀ t ∈ l, onC t.2 := fun t ht => h t (List.mem_cons_of_mem _ ht)
    have hp : onC p := h (n, p) (by simp)
    have ih := lead_next k l hl
    have hL : onC (psum (lead (k + 1) l)) := psum_on _ fun t ht => by
      obtain ⟨u, hu, rfl⟩ := List.mem_map.1 ht; exact hl u hu
    have hD : onC (psum (l.map fun t => (dig k t.1, t.2))) := psum_on _ fun t ht => by
      obtain ⟨u, hu, rfl⟩ := List.mem_map.1 ht; exact hl u hu
    show padd (pmul (n / 16 ^ k) p) (psum (lead k l)) = padd (pmul 16 (padd (pmul (n / 16 ^ (k + 1)) p) (psum (lead (k + 1) l)))) (padd (pmul (dig k n) p) (psum (l.map fun t => (dig k t.1, t.2))))
    have e : n / 16 ^ k = n / 16 ^ (k + 1) * 16 + dig k n := by
      unfold dig; rw [Nat.pow_succ, ← Nat.div_div_eq_div_mul]; omega
    rw [ih, e, pmul_add hp, pmul_mul hp, pmul_dist (pmul_on hp _) hL]
    generalize hA : pmul 16 (pmul (n / 16 ^ (k + 1)) p) = a
    generalize hB : pmul (dig k n) p = b
    generalize hC : pmul 16 (psum (lead (k + 1) l)) = c
    generalize hDD : psum (l.map fun t => (dig k t.1, t.2)) = d at *
    have ha : onC a := by rw [← hA]; exact pmul_on (pmul_on hp _) _
    have hb : onC b := by rw [← hB]; exact pmul_on hp _
    have hc : onC c := by rw [← hC]; exact pmul_on hL _
    rw [padd_assoc ha hb (padd_on hc hD), padd_assoc ha hc (padd_on hb hD), ← padd_assoc hb hc hD, ← padd_assoc hc hb hD, padd_comm b c]
/-- twice, four times -/
theorem pmul_16 {p : Pt} (hp : onC p) : pmul 16 p = padd (padd (padd (padd p p) (padd p p)) (padd (padd p p) (padd p p))) (padd (padd (padd p p) (padd p p)) (padd (padd p p) (padd p p))) := by
  have h2 : ∀ q, padd q q = pmul 2 q := fun q => by show _ = padd (padd .O q) q; rfl
  have e2 : padd p p = pmul 2 p := h2 p
  have e4 : padd (pmul 2 p) (pmul 2 p) = pmul 4 p := (pmul_add hp 2 2).symm
  have e8 : padd (pmul 4 p) (pmul 4 p) = pmul 8 p := (pmul_add hp 4 4).symm
  have e16 : padd (pmul 8 p) (pmul 8 p) = pmul 16 p := (pmul_add hp 8 8).symm
  rw [e2, e4, e8, e16]
/-- bit by bit -/
theorem pmul_bit {p : Pt} (hp : onC p) (n k : Nat) : pmul (n / 2 ^ k) p = padd (padd (pmul (n / 2 ^ (k + 1)) p) (pmul (n / 2 ^ (k + 1)) p)) (if n / 2 ^ k % 2 = 1 then p else .O) := by
  have e : n / 2 ^ k = n / 2 ^ (k + 1) + n / 2 ^ (k + 1) + n / 2 ^ k % 2 := by
    rw [Nat.pow_succ, ← Nat.div_div_eq_div_mul]; omega
  have h1 : pmul (n / 2 ^ k % 2) p = if n / 2 ^ k % 2 = 1 then p else .O := by
    split
    · rename_i h; rw [h]; exact zero_padd p
    · rename_i h; rw [show n / 2 ^ k % 2 = 0 by omega]; rfl
  rw [← h1, ← pmul_add hp, ← pmul_add hp, ← e]
end Mvq

/- A program's point: what it stands for; its double as the group's. -/
namespace Mvq
open Mvp
/-- the point that three numbers stand for -/
def jN (x y z : Nat) : Pt := jk (kc x) (kc y) (kc z)
theorem kc_sub' (M : Nat) (hM : M = fP) (a b : Nat) : kc (a + (M - b % M)) = kc a - kc b := by subst hM; exact kc_subn a b
theorem z_is (M : Nat) (hM : M = fP) (z : Nat) (b : Bool) (h : (z % M == 0) = b) : decide (kc z = 0) = b := by subst hM; rw [← kc_eqz]; exact h
theorem mP_fP : mP.M = fP := pP_fP
end Mvq
namespace Go.Proofs.Ytdbgddngapminaa
open Go.RowKit Go.Mv Mvp Mvq
/-- double: of any point of the curve -/
theorem double_is (x y z : Nat) (ho : onC (jN x y z)) :
    ∃ X Y Z, jN X Y Z = padd (jN x y z) (jN x y z) ∧ ∀ gc gp bx by_ wx, Has wx gc (crvL mP gp bx by_) 93 → Has wx gp (mdL mP) 134 → Calls Try.prog 97 #[.pointer (some ⟨gc, 0, none⟩), ptV mP x y z] wx fun e w' => e = .returned (ptV mP X Y Z) ∧ Fr Nob wx w' := by
  cases hb : (z % mP.M == 0)
  · have hz : kc z ≠ 0 := by
      have := z_is _ mP_fP z _ hb
      simpa using this
    refine ⟨_, _, _, ?_, fun gc gp bx by_ wx hcv hpm => double_v mP gc gp bx by_ wx mP_ok hcv hpm x y z hb _ _ _ _ _ _ _ _ _ _ _ _ _ _ _ _ _ _ _ _ _ rfl rfl rfl rfl rfl rfl rfl rfl rfl rfl rfl rfl rfl rfl rfl rfl rfl rfl rfl rfl rfl⟩
    have h := jk_double ho hz _ _ _ _ _ _ rfl rfl rfl rfl rfl rfl
    unfold jN at *
    rw [← h]
    simp only [kc_sub' _ mP_fP, kc_addn, kc_mul']
    generalize kc x = a; generalize kc y = b; generalize kc z = c
    congr 1
    · grind -lia -linarith
    · grind -lia -linarith
    · grind -lia -linarith
  · have hz : kc z = 0 := by
      have := z_is _ mP_fP z _ hb
      simpa using this
    refine ⟨x, y, z, ?_, fun gc gp bx by_ wx hcv hpm => double_none mP gc gp bx by_ wx mP_ok hcv hpm x y z hb⟩
    unfold jN
    rw [jk_z hz]; rfl
end Go.Proofs.Ytdbgddngapminaa

/- group: nothing, plus. -/
namespace Go.Proofs.Ytdbgddngapminaa
open Go.RowKit Go.Mv Mvp
attribute [local irreducible] limbs lw mix cw cSub cAdd cMul foldC valFrom beN laid be32 powm montT mstep elN mdL numB
set_option maxHeartbeats 16000000 in
set_option maxRecDepth 1000000 in
theorem nothing_any (m : Md) (gc gp bx by_ : Nat) (w : World) (hok : m.Ok) (hcv : Has w gc (crvL m gp bx by_) 93) (hpm : Has w gp (mdL m) 134) :
    Calls Try.prog 88 #[.pointer (some ⟨gc, 0, none⟩)] w fun e w' => e = .returned (ptV m 1 1 0) ∧ Fr Nob w w' := by
  have HOK := Lib.hid hok
  have HCV := Lib.hid hcv
  have HPM := Lib.hid hpm
  clear hok hcv hpm
  have st0 := St.start Nob w
  go_enter Try.func88, Try.ntmps88
  go_wp2_with (with_reducible refine wl_stop (o := ⟨some 2, _, _, _, _, _⟩) ?_)
  refine wl_allocS st0 rfl rfl (z := .agg #[.int .u64 0, .int .u64 0, .int .u64 0, .int .u64 0, .int .u64 0, .int .u64 0, .int .u64 0, .int .u64 0, .int .u64 0, .int .u64 0, .int .u64 0, .int .u64 0]) (by kernel_rfl) (cw 12 0) (by rw [cw_zero]; rfl) ?_
  intro g2 w1 st1
  clear st0
  go_wp2_with fail
  refine wp_region_noPanic ?_
  refine wp_region_lad st1 11 [.w 0, .w 1, .w 2, .t 3, .w 5, .w 6, .w 7, .t 8, .c 4, .c 9, .w 10] (.m 11 .nil) (by kernel_rfl) (by kernel_rfl) (fun _ _ _ _ _ h => h) ?_
  clear st1
  iterate 3 (refine lad_w (v := ?_) rfl rfl (fun xq wx => ?_) ?_; rotate_left 1; · (go_simp; with_reducible rfl); try simp only [Act.put, List.setIfInBounds_toArray, List.set_cons_zero, List.set_cons_succ])
  refine lad_t (v := ?_) rfl rfl (fun xq wx hS => ?_) ?_
  rotate_left 1
  · (have hc := (HCV.out.keep (St.fr hS) id).cell (i := 0) rfl; clear hS; go_simp; with_reducible rfl)
  try simp only [Act.put, List.setIfInBounds_toArray, List.set_cons_zero, List.set_cons_succ]
  iterate 3 (refine lad_w (v := ?_) rfl rfl (fun xq wx => ?_) ?_; rotate_left 1; · (go_simp; with_reducible rfl); try simp only [Act.put, List.setIfInBounds_toArray, List.set_cons_zero, List.set_cons_succ])
  refine lad_t (v := ?_) rfl rfl (fun xq wx hS => ?_) ?_
  rotate_left 1
  · (have hc := (HCV.out.keep (St.fr hS) id).cell (i := 0) rfl; clear hS; go_simp; with_reducible rfl)
  try simp only [Act.put, List.setIfInBounds_toArray, List.set_cons_zero, List.set_cons_succ]
  refine lad_call rfl rfl rfl Try.call86 (fun w hS hR => MOne_any m gp _ HOK.out (HPM.out.keep hS.fr id)) (fun _ => rfl) ?_
  try simp only [Act.put, List.setIfInBounds_toArray, List.set_cons_zero, List.set_cons_succ]
  refine lad_call rfl rfl rfl Try.call86 (fun w hS hR => MOne_any m gp _ HOK.out (HPM.out.keep hS.fr id)) (fun _ => rfl) ?_
  try simp only [Act.put, List.setIfInBounds_toArray, List.set_cons_zero, List.set_cons_succ]
  refine lad_w rfl rfl (fun _ => exec_build rfl _ (built_pt2 _ _)) ?_
  try simp only [Act.put, List.setIfInBounds_toArray, List.set_cons_zero, List.set_cons_succ]
  refine lad_end fun xq w2 st2 hR => ?_
  try dsimp only
  clear hR xq
  refine plan_m rfl rfl ?_
  refine wp_storeS st2 0 rfl rfl rfl rfl (by simp [cw_len]) (by kernel_rfl) (pt_one _ _ _) ?_
  intro w3 st3
  try simp only [List.nil_append, List.set_cons_zero] at st3
  clear st2
  try simp only [Act.put]
  refine plan_end ?_
  refine NoPanic.normal ?_
  have hr := st3.at 0 rfl
  have hfr := st3.fr
  clear st3
  go_wp2_with fail
  exact bodyPost_ret (results_st rfl rfl hr Try.underlying72 rfl (by kernel_rfl)) rfl ⟨by unfold ptV ptL; rw [el_zero], hfr⟩

theorem nothing_u (m : Md) (gc gp bx by_ : Nat) (w : World) (hok : m.Ok) (hcv : Has w gc (crvL m gp bx by_) 93) (hpm : Has w gp (mdL m) 134) :
    Calls Try.prog 88 #[.pointer (some ⟨gc, 0, none⟩)] w fun e w' => e = .returned (.agg (cw 4 (elN m 1) ++ (cw 4 (elN m 1) ++ cw 4 (elN m 0))).toArray) ∧ Fr Nob w w' := nothing_any m gc gp bx by_ w hok hcv hpm

set_option maxHeartbeats 16000000 in
set_option maxRecDepth 1000000 in
theorem plus_none1 (m : Md) (gc gp bx by_ : Nat) (w : World) (hok : m.Ok) (hcv : Has w gc (crvL m gp bx by_) 93) (hpm : Has w gp (mdL m) 134) (x1 y1 z1 x2 y2 z2 : Nat) (hb1 : (z1 % m.M == 0) = true) :
    Calls Try.prog 45 #[.pointer (some ⟨gc, 0, none⟩), ptV m x1 y1 z1, ptV m x2 y2 z2] w fun e w' => e = .returned (ptV m x2 y2 z2) ∧ Fr Nob w w' := by
  have HOK := Lib.hid hok
  have HCV := Lib.hid hcv
  have HPM := Lib.hid hpm
  clear hok hcv hpm
  have HB1 := Lib.hid hb1
  clear hb1
  unfold ptV ptL
  have st0 := St.start Nob w
  go_enter Try.func45, Try.ntmps45
  go_wp2_with (with_reducible refine wl_stop (o := ⟨some 4, _, _, _, _, _⟩) ?_)
  refine wl_boxS st0 rfl rfl rfl (cw 4 (elN m x1) ++ (cw 4 (elN m y1) ++ cw 4 (elN m z1))) rfl ?_
  intro g4 w1 st1
  clear st0
  go_wp2_with (with_reducible refine wl_stop (o := ⟨some 5, _, _, _, _, _⟩) ?_)
  refine wl_boxS st1 rfl rfl rfl (cw 4 (elN m x2) ++ (cw 4 (elN m y2) ++ cw 4 (elN m z2))) rfl ?_
  intro g5 w2 st2
  clear st1
  go_wp2_with (with_reducible refine wl_stop (o := ⟨some 6, _, _, _, _, _⟩) ?_)
  refine wl_allocS st2 rfl rfl (z := .agg #[.int .u64 0, .int .u64 0, .int .u64 0, .int .u64 0, .int .u64 0, .int .u64 0, .int .u64 0, .int .u64 0, .int .u64 0, .int .u64 0, .int .u64 0, .int .u64 0]) (by kernel_rfl) (cw 12 0) (by rw [cw_zero]; rfl) ?_
  intro g6 w3 st3
  clear st2
  go_wp2_with (with_reducible refine wl_stop (o := ⟨some 20, _, _, _, _, _⟩) ?_)
  refine wl_loadSt st3 0 rfl rfl rfl Try.underlying72 rfl rfl (by kernel_rfl) ?_
  go_wp2_with fail
  refine (none_any m HOK.out x1 y1 z1 true HB1.out _).mono ?_
  rintro e' w4 ⟨rfl, hf4⟩
  have st4 := st3.keep hf4
  clear st3 hf4
  go_wp2_with (with_reducible refine wl_stop (o := ⟨some 22, _, _, _, _, _⟩) ?_)
  refine wl_loadSt st4 1 rfl rfl rfl Try.underlying72 rfl rfl (by kernel_rfl) ?_
  go_wp2_with (with_reducible refine wl_stop (o := ⟨none, _, _, _, _, _⟩) ?_)
  refine wl_storeS st4 2 rfl rfl rfl rfl rfl (by simp [cw_len]) (by kernel_rfl) (pt_one _ _ _) ?_
  intro w5 st5
  clear st4
  have hr := st5.at 2 rfl
  have hfr := st5.fr
  clear st5
  go_wp2_with fail
  exact bodyPost_ret (results_st rfl rfl hr Try.underlying72 rfl (by kernel_rfl)) rfl ⟨rfl, hfr⟩

set_option maxHeartbeats 16000000 in
set_option maxRecDepth 1000000 in
theorem plus_none2 (m : Md) (gc gp bx by_ : Nat) (w : World) (hok : m.Ok) (hcv : Has w gc (crvL m gp bx by_) 93) (hpm : Has w gp (mdL m) 134) (x1 y1 z1 x2 y2 z2 : Nat) (hb1 : (z1 % m.M == 0) = false) (hb2 : (z2 % m.M == 0) = true) :
    Calls Try.prog 45 #[.pointer (some ⟨gc, 0, none⟩), ptV m x1 y1 z1, ptV m x2 y2 z2] w fun e w' => e = .returned (ptV m x1 y1 z1) ∧ Fr Nob w w' := by
  have HOK := Lib.hid hok
  have HCV := Lib.hid hcv
  have HPM := Lib.hid hpm
  clear hok hcv hpm
  have HB1 := Lib.hid hb1
  have HB2 := Lib.hid hb2
  clear hb1 hb2
  unfold ptV ptL
  have st0 := St.start Nob w
  go_enter Try.func45, Try.ntmps45
  go_wp2_with (with_reducible refine wl_stop (o := ⟨some 4, _, _, _, _, _⟩) ?_)
  refine wl_boxS st0 rfl rfl rfl (cw 4 (elN m x1) ++ (cw 4 (elN m y1) ++ cw 4 (elN m z1))) rfl ?_
  intro g4 w1 st1
  clear st0
  go_wp2_with (with_reducible refine wl_stop (o := ⟨some 5, _, _, _, _, _⟩) ?_)
  refine wl_boxS st1 rfl rfl rfl (cw 4 (elN m x2) ++ (cw 4 (elN m y2) ++ cw 4 (elN m z2))) rfl ?_
  intro g5 w2 st2
  clear st1
  go_wp2_with (with_reducible refine wl_stop (o := ⟨some 6, _, _, _, _, _⟩) ?_)
  refine wl_allocS st2 rfl rfl (z := .agg #[.int .u64 0, .int .u64 0, .int .u64 0, .int .u64 0, .int .u64 0, .int .u64 0, .int .u64 0, .int .u64 0, .int .u64 0, .int .u64 0, .int .u64 0, .int .u64 0]) (by kernel_rfl) (cw 12 0) (by rw [cw_zero]; rfl) ?_
  intro g6 w3 st3
  clear st2
  go_wp2_with (with_reducible refine wl_stop (o := ⟨some 20, _, _, _, _, _⟩) ?_)
  refine wl_loadSt st3 0 rfl rfl rfl Try.underlying72 rfl rfl (by kernel_rfl) ?_
  go_wp2_with fail
  refine (none_any m HOK.out x1 y1 z1 false HB1.out _).mono ?_
  rintro e' w4 ⟨rfl, hf4⟩
  have st4 := st3.keep hf4
  clear st3 hf4
  go_wp2_with (with_reducible refine wl_stop (o := ⟨some 24, _, _, _, _, _⟩) ?_)
  refine wl_loadSt st4 1 rfl rfl rfl Try.underlying72 rfl rfl (by kernel_rfl) ?_
  go_wp2_with fail
  refine (none_any m HOK.out x2 y2 z2 true HB2.out _).mono ?_
  rintro e' w5 ⟨rfl, hf5⟩
  have st5 := st4.keep hf5
  clear st4 hf5
  go_wp2_with (with_reducible refine wl_stop (o := ⟨some 26, _, _, _, _, _⟩) ?_)
  refine wl_loadSt st5 0 rfl rfl rfl Try.underlying72 rfl rfl (by kernel_rfl) ?_
  go_wp2_with (with_reducible refine wl_stop (o := ⟨none, _, _, _, _, _⟩) ?_)
  refine wl_storeS st5 2 rfl rfl rfl rfl rfl (by simp [cw_len]) (by kernel_rfl) (pt_one _ _ _) ?_
  intro w6 st6
  clear st5
  have hr := st6.at 2 rfl
  have hfr := st6.fr
  clear st6
  go_wp2_with fail
  exact bodyPost_ret (results_st rfl rfl hr Try.underlying72 rfl (by kernel_rfl)) rfl ⟨rfl, hfr⟩
end Go.Proofs.Ytdbgddngapminaa

/- group: plus, of two points that are not nothing. -/
namespace Go.Proofs.Ytdbgddngapminaa
open Go.RowKit Go.Mv Mvp
attribute [local irreducible] limbs lw mix cw cSub cAdd cMul foldC valFrom beN laid be32 powm montT mstep elN mdL numB
/-- what plus answers of two points that are not nothing -/
def plusV (b c : Bool) (u v x : Value) : Value := match b, c with
  | false, _ => x
  | true, false => v
  | true, true => u

set_option maxHeartbeats 16000000 in
set_option maxRecDepth 1000000 in
theorem gplus_any (m : Md) (gc gp bx by_ : Nat) (w : World) (hok : m.Ok) (hcv : Has w gc (crvL m gp bx by_) 93) (hpm : Has w gp (mdL m) 134) (x1 y1 z1 x2 y2 z2 : Nat) (hb1 : (z1 % m.M == 0) = false) (hb2 : (z2 % m.M == 0) = false) (pp qq u1 u2 q3 s1 p3 s2 hd rr hh h3 v r2 v2 t1 X t2 t3 t4 Y zz Z DX DY DZ : Nat) (epp : z1 * z1 = pp) (eqq : z2 * z2 = qq) (eu1 : x1 * qq = u1) (eu2 : x2 * pp = u2) (eq3 : qq * z2 = q3) (es1 : y1 * q3 = s1) (ep3 : pp * z1 = p3) (es2 : y2 * p3 = s2) (ehd : u2 + (m.M - u1 % m.M) = hd) (err : s2 + (m.M - s1 % m.M) = rr) (ehh : hd * hd = hh) (eh3 : hh * hd = h3) (ev : u1 * hh = v) (er2 : rr * rr = r2) (ev2 : v + v = v2) (et1 : h3 + v2 = t1) (eX : r2 + (m.M - t1 % m.M) = X) (et2 : v + (m.M - X % m.M) = t2) (et3 : rr * t2 = t3) (et4 : s1 * h3 = t4) (eY : t3 + (m.M - t4 % m.M) = Y) (ezz : z1 * z2 = zz) (eZ : hd * zz = Z) (hd0 : ((hd % m.M == 0) = true → (rr % m.M == 0) = true → ∀ wx, Fr Nob w wx → Calls Try.prog 97 #[.pointer (some ⟨gc, 0, none⟩), ptV m x1 y1 z1] wx fun e w' => e = .returned (ptV m DX DY DZ) ∧ Fr Nob wx w')) :
    Calls Try.prog 45 #[.pointer (some ⟨gc, 0, none⟩), ptV m x1 y1 z1, ptV m x2 y2 z2] w fun e w' => e = .returned (plusV (hd % m.M == 0) (rr % m.M == 0) (ptV m DX DY DZ) (ptV m 1 1 0) (ptV m X Y Z)) ∧ Fr Nob w w' := by
  have HOK := Lib.hid hok
  have HCV := Lib.hid hcv
  have HPM := Lib.hid hpm
  clear hok hcv hpm
  have HB1 := Lib.hid hb1
  have HB2 := Lib.hid hb2
  have Hpp := Lib.hid epp
  have Hqq := Lib.hid eqq
  have Hu1 := Lib.hid eu1
  have Hu2 := Lib.hid eu2
  have Hq3 := Lib.hid eq3
  have Hs1 := Lib.hid es1
  have Hp3 := Lib.hid ep3
  have Hs2 := Lib.hid es2
  have Hhd := Lib.hid ehd
  have Hrr := Lib.hid err
  have Hhh := Lib.hid ehh
  have Hh3 := Lib.hid eh3
  have Hv := Lib.hid ev
  have Hr2 := Lib.hid er2
  have Hv2 := Lib.hid ev2
  have Ht1 := Lib.hid et1
  have HX := Lib.hid eX
  have Ht2 := Lib.hid et2
  have Ht3 := Lib.hid et3
  have Ht4 := Lib.hid et4
  have HY := Lib.hid eY
  have Hzz := Lib.hid ezz
  have HZ := Lib.hid eZ
  have HD0 := Lib.hid hd0
  clear hd0 hb1 hb2 epp eqq eu1 eu2 eq3 es1 ep3 es2 ehd err ehh eh3 ev er2 ev2 et1 eX et2 et3 et4 eY ezz eZ
  unfold ptV ptL
  have st0 := St.start Nob w
  go_enter Try.func45, Try.ntmps45
  go_wp2_with (with_reducible refine wl_stop (o := ⟨some 4, _, _, _, _, _⟩) ?_)
  refine wl_boxS st0 rfl rfl rfl (cw 4 (elN m x1) ++ (cw 4 (elN m y1) ++ cw 4 (elN m z1))) rfl ?_
  intro g4 w1 st1
  clear st0
  go_wp2_with (with_reducible refine wl_stop (o := ⟨some 5, _, _, _, _, _⟩) ?_)
  refine wl_boxS st1 rfl rfl rfl (cw 4 (elN m x2) ++ (cw 4 (elN m y2) ++ cw 4 (elN m z2))) rfl ?_
  intro g5 w2 st2
  clear st1
  go_wp2_with (with_reducible refine wl_stop (o := ⟨some 6, _, _, _, _, _⟩) ?_)
  refine wl_allocS st2 rfl rfl (z := .agg #[.int .u64 0, .int .u64 0, .int .u64 0, .int .u64 0, .int .u64 0, .int .u64 0, .int .u64 0, .int .u64 0, .int .u64 0, .int .u64 0, .int .u64 0, .int .u64 0]) (by kernel_rfl) (cw 12 0) (by rw [cw_zero]; rfl) ?_
  intro g6 w3 st3
  clear st2
  go_wp2_with (with_reducible refine wl_stop (o := ⟨some 20, _, _, _, _, _⟩) ?_)
  refine wl_loadSt st3 0 rfl rfl rfl Try.underlying72 rfl rfl (by kernel_rfl) ?_
  go_wp2_with fail
  refine (none_any m HOK.out x1 y1 z1 false HB1.out _).mono ?_
  rintro e' w4 ⟨rfl, hf4⟩
  have st4 := st3.keep hf4
  clear st3 hf4
  go_wp2_with (with_reducible refine wl_stop (o := ⟨some 24, _, _, _, _, _⟩) ?_)
  refine wl_loadSt st4 1 rfl rfl rfl Try.underlying72 rfl rfl (by kernel_rfl) ?_
  go_wp2_with fail
  refine (none_any m HOK.out x2 y2 z2 false HB2.out _).mono ?_
  rintro e' w5 ⟨rfl, hf5⟩
  have st5 := st4.keep hf5
  clear st4 hf5
  go_wp2_with fail
  refine wp_region_noPanic ?_
  refine wp_region_lad st5 17 [.o 14, .o 15, .w 0, .w 1, .w 2, .t 3, .w 4, .t 5, .w 7, .w 8, .w 9, .t 10, .w 11, .t 12, .c 6, .c 13, .j 14, .j 15] (.r 16 (.m 17 .nil)) (by kernel_rfl) (by kernel_rfl) (fun _ _ _ _ _ h => h) ?_
  clear st5
  refine lad_o rfl rfl rfl z_ge (cw 4 0) rfl ?_
  try simp only [Act.put, List.setIfInBounds_toArray, List.set_cons_zero, List.set_cons_succ]
  refine lad_o rfl rfl rfl z_ge (cw 4 0) rfl ?_
  try simp only [Act.put, List.setIfInBounds_toArray, List.set_cons_zero, List.set_cons_succ]
  refine lad_w (v := ?_) rfl rfl (fun xq wx => ?_) ?_
  rotate_left 1
  · (go_simp; with_reducible rfl)
  try simp only [Act.put, List.setIfInBounds_toArray, List.set_cons_zero, List.set_cons_succ]
  refine lad_w (v := ?_) rfl rfl (fun xq wx => ?_) ?_
  rotate_left 1
  · (go_simp; with_reducible rfl)
  try simp only [Act.put, List.setIfInBounds_toArray, List.set_cons_zero, List.set_cons_succ]
  refine lad_w (v := ?_) rfl rfl (fun xq wx => ?_) ?_
  rotate_left 1
  · (go_simp; with_reducible rfl)
  try simp only [Act.put, List.setIfInBounds_toArray, List.set_cons_zero, List.set_cons_succ]
  refine lad_t (v := ?_) rfl rfl (fun xq wx hS => ?_) ?_
  rotate_left 1
  · (have hc := (HCV.out.keep (St.fr hS) id).cell (i := 0) rfl; clear hS; go_simp; with_reducible rfl)
  try simp only [Act.put, List.setIfInBounds_toArray, List.set_cons_zero, List.set_cons_succ]
  refine lad_w (v := ?_) rfl rfl (fun xq wx => ?_) ?_
  rotate_left 1
  · (go_simp; with_reducible rfl)
  try simp only [Act.put, List.setIfInBounds_toArray, List.set_cons_zero, List.set_cons_succ]
  refine lad_arr rfl rfl rfl (fun _ => rfl) (cw 4 (elN m z1)) (fun wx hS => St.rangeL hS 0 rfl 8 _ (pt_z _ _ _)) Try.underlying70 rfl (by kernel_rfl) ?_
  try simp only [Act.put, List.setIfInBounds_toArray, List.set_cons_zero, List.set_cons_succ]
  refine lad_w (v := ?_) rfl rfl (fun xq wx => ?_) ?_
  rotate_left 1
  · (go_simp; with_reducible rfl)
  try simp only [Act.put, List.setIfInBounds_toArray, List.set_cons_zero, List.set_cons_succ]
  refine lad_w (v := ?_) rfl rfl (fun xq wx => ?_) ?_
  rotate_left 1
  · (go_simp; with_reducible rfl)
  try simp only [Act.put, List.setIfInBounds_toArray, List.set_cons_zero, List.set_cons_succ]
  refine lad_w (v := ?_) rfl rfl (fun xq wx => ?_) ?_
  rotate_left 1
  · (go_simp; with_reducible rfl)
  try simp only [Act.put, List.setIfInBounds_toArray, List.set_cons_zero, List.set_cons_succ]
  refine lad_t (v := ?_) rfl rfl (fun xq wx hS => ?_) ?_
  rotate_left 1
  · (have hc := (HCV.out.keep (St.fr hS) id).cell (i := 0) rfl; clear hS; go_simp; with_reducible rfl)
  try simp only [Act.put, List.setIfInBounds_toArray, List.set_cons_zero, List.set_cons_succ]
  refine lad_w (v := ?_) rfl rfl (fun xq wx => ?_) ?_
  rotate_left 1
  · (go_simp; with_reducible rfl)
  try simp only [Act.put, List.setIfInBounds_toArray, List.set_cons_zero, List.set_cons_succ]
  refine lad_arr rfl rfl rfl (fun _ => rfl) (cw 4 (elN m z2)) (fun wx hS => St.rangeL hS 1 rfl 8 _ (pt_z _ _ _)) Try.underlying70 rfl (by kernel_rfl) ?_
  try simp only [Act.put, List.setIfInBounds_toArray, List.set_cons_zero, List.set_cons_succ]
  refine lad_call rfl rfl rfl Try.call93 (fun w hS hR => MSquare_v m gp _ HOK.out (HPM.out.keep hS.fr id) z1 pp Hpp.out) (fun _ => rfl) ?_
  try simp only [Act.put, List.setIfInBounds_toArray, List.set_cons_zero, List.set_cons_succ]
  refine lad_call rfl rfl rfl Try.call93 (fun w hS hR => MSquare_v m gp _ HOK.out (HPM.out.keep hS.fr id) z2 qq Hqq.out) (fun _ => rfl) ?_
  try simp only [Act.put, List.setIfInBounds_toArray, List.set_cons_zero, List.set_cons_succ]
  refine lad_j (List.mem_cons_of_mem _ List.mem_cons_self) fun g7 => ?_
  simp only [upd, reduceIte]
  try simp only [Nat.reduceEqDiff, reduceIte]
  refine lad_j List.mem_cons_self fun g8 => ?_
  simp only [upd, reduceIte]
  refine lad_end fun xq w6 st6 hR => ?_
  try dsimp only
  clear hR xq
  refine plan_r rfl rfl ?_
  refine wp_storeS st6 3 rfl rfl rfl rfl (by simp [cw_len]) (by kernel_rfl) (cw_one _ _) ?_
  intro w7 st7
  repeat (first | simp only [List.cons_append] at st7 | simp only [List.nil_append] at st7 | simp only [List.set_cons_succ] at st7 | simp only [List.set_cons_zero] at st7)
  clear st6
  refine ⟨by first | exact st7 | exact St.less st7 (by simp), ?_⟩
  try simp only [Act.put]
  refine plan_m rfl rfl ?_
  refine wp_storeS st7 4 rfl rfl rfl rfl (by simp [cw_len]) (by kernel_rfl) (cw_one _ _) ?_
  intro w8 st8
  try simp only [List.set_cons_zero, List.set_cons_succ] at st8
  clear st7
  try simp only [Act.put]
  refine plan_end ?_
  refine NoPanic.normal ?_
  go_wp2_with fail
  refine wp_region_noPanic ?_
  refine wp_region_lad st8 19 [.o 16, .o 17, .w 0, .w 1, .w 2, .t 3, .w 4, .t 5, .t 6, .w 8, .w 9, .w 10, .t 11, .w 12, .t 13, .t 14, .c 7, .c 15, .j 16, .j 17] (.r 18 (.m 19 .nil)) (by kernel_rfl) (by kernel_rfl) (fun _ _ _ _ _ h => h) ?_
  clear st8
  refine lad_o rfl rfl rfl z_ge (cw 4 0) rfl ?_
  try simp only [Act.put, List.setIfInBounds_toArray, List.set_cons_zero, List.set_cons_succ]
  refine lad_o rfl rfl rfl z_ge (cw 4 0) rfl ?_
  try simp only [Act.put, List.setIfInBounds_toArray, List.set_cons_zero, List.set_cons_succ]
  refine lad_w (v := ?_) rfl rfl (fun xq wx => ?_) ?_
  rotate_left 1
  · (go_simp; with_reducible rfl)
  try simp only [Act.put, List.setIfInBounds_toArray, List.set_cons_zero, List.set_cons_succ]
  refine lad_w (v := ?_) rfl rfl (fun xq wx => ?_) ?_
  rotate_left 1
  · (go_simp; with_reducible rfl)
  try simp only [Act.put, List.setIfInBounds_toArray, List.set_cons_zero, List.set_cons_succ]
  refine lad_w (v := ?_) rfl rfl (fun xq wx => ?_) ?_
  rotate_left 1
  · (go_simp; with_reducible rfl)
  try simp only [Act.put, List.setIfInBounds_toArray, List.set_cons_zero, List.set_cons_succ]
  refine lad_t (v := ?_) rfl rfl (fun xq wx hS => ?_) ?_
  rotate_left 1
  · (have hc := (HCV.out.keep (St.fr hS) id).cell (i := 0) rfl; clear hS; go_simp; with_reducible rfl)
  try simp only [Act.put, List.setIfInBounds_toArray, List.set_cons_zero, List.set_cons_succ]
  refine lad_w (v := ?_) rfl rfl (fun xq wx => ?_) ?_
  rotate_left 1
  · (go_simp; with_reducible rfl)
  try simp only [Act.put, List.setIfInBounds_toArray, List.set_cons_zero, List.set_cons_succ]
  refine lad_arr rfl rfl rfl (fun _ => rfl) (cw 4 (elN m x1)) (fun wx hS => St.rangeL hS 0 rfl 0 _ (pt_x _ _ _)) Try.underlying70 rfl (by kernel_rfl) ?_
  try simp only [Act.put, List.setIfInBounds_toArray, List.set_cons_zero, List.set_cons_succ]
  refine lad_arr rfl rfl rfl (fun _ => rfl) (cw 4 (elN m qq)) (fun wx hS => St.rangeL hS 4 rfl 0 _ (by rw [List.drop_zero, List.take_of_length_le (Nat.le_refl _)])) Try.underlying70 rfl (by kernel_rfl) ?_
  try simp only [Act.put, List.setIfInBounds_toArray, List.set_cons_zero, List.set_cons_succ]
  refine lad_w (v := ?_) rfl rfl (fun xq wx => ?_) ?_
  rotate_left 1
  · (go_simp; with_reducible rfl)
  try simp only [Act.put, List.setIfInBounds_toArray, List.set_cons_zero, List.set_cons_succ]
  refine lad_w (v := ?_) rfl rfl (fun xq wx => ?_) ?_
  rotate_left 1
  · (go_simp; with_reducible rfl)
  try simp only [Act.put, List.setIfInBounds_toArray, List.set_cons_zero, List.set_cons_succ]
  refine lad_w (v := ?_) rfl rfl (fun xq wx => ?_) ?_
  rotate_left 1
  · (go_simp; with_reducible rfl)
  try simp only [Act.put, List.setIfInBounds_toArray, List.set_cons_zero, List.set_cons_succ]
  refine lad_t (v := ?_) rfl rfl (fun xq wx hS => ?_) ?_
  rotate_left 1
  · (have hc := (HCV.out.keep (St.fr hS) id).cell (i := 0) rfl; clear hS; go_simp; with_reducible rfl)
  try simp only [Act.put, List.setIfInBounds_toArray, List.set_cons_zero, List.set_cons_succ]
  refine lad_w (v := ?_) rfl rfl (fun xq wx => ?_) ?_
  rotate_left 1
  · (go_simp; with_reducible rfl)
  try simp only [Act.put, List.setIfInBounds_toArray, List.set_cons_zero, List.set_cons_succ]
  refine lad_arr rfl rfl rfl (fun _ => rfl) (cw 4 (elN m x2)) (fun wx hS => St.rangeL hS 1 rfl 0 _ (pt_x _ _ _)) Try.underlying70 rfl (by kernel_rfl) ?_
  try simp only [Act.put, List.setIfInBounds_toArray, List.set_cons_zero, List.set_cons_succ]
  refine lad_arr rfl rfl rfl (fun _ => rfl) (cw 4 (elN m pp)) (fun wx hS => St.rangeL hS 3 rfl 0 _ (by rw [List.drop_zero, List.take_of_length_le (Nat.le_refl _)])) Try.underlying70 rfl (by kernel_rfl) ?_
  try simp only [Act.put, List.setIfInBounds_toArray, List.set_cons_zero, List.set_cons_succ]
  refine lad_call rfl rfl rfl Try.call94 (fun w hS hR => MMul_v m gp _ HOK.out (HPM.out.keep hS.fr id) x1 qq u1 Hu1.out) (fun _ => rfl) ?_
  try simp only [Act.put, List.setIfInBounds_toArray, List.set_cons_zero, List.set_cons_succ]
  refine lad_call rfl rfl rfl Try.call94 (fun w hS hR => MMul_v m gp _ HOK.out (HPM.out.keep hS.fr id) x2 pp u2 Hu2.out) (fun _ => rfl) ?_
  try simp only [Act.put, List.setIfInBounds_toArray, List.set_cons_zero, List.set_cons_succ]
  refine lad_j (List.mem_cons_of_mem _ List.mem_cons_self) fun g9 => ?_
  simp only [upd, reduceIte]
  try simp only [Nat.reduceEqDiff, reduceIte]
  refine lad_j List.mem_cons_self fun g10 => ?_
  simp only [upd, reduceIte]
  refine lad_end fun xq w9 st9 hR => ?_
  try dsimp only
  clear hR xq
  refine plan_r rfl rfl ?_
  refine wp_storeS st9 5 rfl rfl rfl rfl (by simp [cw_len]) (by kernel_rfl) (cw_one _ _) ?_
  intro w10 st10
  repeat (first | simp only [List.cons_append] at st10 | simp only [List.nil_append] at st10 | simp only [List.set_cons_succ] at st10 | simp only [List.set_cons_zero] at st10)
  clear st9
  refine ⟨by first | exact st10 | exact St.less st10 (by simp), ?_⟩
  try simp only [Act.put]
  refine plan_m rfl rfl ?_
  refine wp_storeS st10 6 rfl rfl rfl rfl (by simp [cw_len]) (by kernel_rfl) (cw_one _ _) ?_
  intro w11 st11
  try simp only [List.set_cons_zero, List.set_cons_succ] at st11
  clear st10
  try simp only [Act.put]
  refine plan_end ?_
  refine NoPanic.normal ?_
  go_wp2_with fail
  refine wp_region_noPanic ?_
  refine wp_region_lad st11 33 [.o 30, .o 31, .w 0, .w 1, .w 2, .t 3, .w 4, .t 5, .w 6, .w 7, .w 8, .t 9, .t 10, .w 11, .t 12, .w 15, .w 16, .w 17, .t 18, .w 19, .t 20, .w 21, .w 22, .w 23, .t 24, .t 25, .w 26, .t 27, .c 13, .c 14, .c 28, .c 29, .j 30, .j 31] (.r 32 (.m 33 .nil)) (by kernel_rfl) (by kernel_rfl) (fun _ _ _ _ _ h => h) ?_
  clear st11
  refine lad_o rfl rfl rfl z_ge (cw 4 0) rfl ?_
  try simp only [Act.put, List.setIfInBounds_toArray, List.set_cons_zero, List.set_cons_succ]
  refine lad_o rfl rfl rfl z_ge (cw 4 0) rfl ?_
  try simp only [Act.put, List.setIfInBounds_toArray, List.set_cons_zero, List.set_cons_succ]
  refine lad_w (v := ?_) rfl rfl (fun xq wx => ?_) ?_
  rotate_left 1
  · (go_simp; with_reducible rfl)
  try simp only [Act.put, List.setIfInBounds_toArray, List.set_cons_zero, List.set_cons_succ]
  refine lad_w (v := ?_) rfl rfl (fun xq wx => ?_) ?_
  rotate_left 1
  · (go_simp; with_reducible rfl)
  try simp only [Act.put, List.setIfInBounds_toArray, List.set_cons_zero, List.set_cons_succ]
  refine lad_w (v := ?_) rfl rfl (fun xq wx => ?_) ?_
  rotate_left 1
  · (go_simp; with_reducible rfl)
  try simp only [Act.put, List.setIfInBounds_toArray, List.set_cons_zero, List.set_cons_succ]
  refine lad_t (v := ?_) rfl rfl (fun xq wx hS => ?_) ?_
  rotate_left 1
  · (have hc := (HCV.out.keep (St.fr hS) id).cell (i := 0) rfl; clear hS; go_simp; with_reducible rfl)
  try simp only [Act.put, List.setIfInBounds_toArray, List.set_cons_zero, List.set_cons_succ]
  refine lad_w (v := ?_) rfl rfl (fun xq wx => ?_) ?_
  rotate_left 1
  · (go_simp; with_reducible rfl)
  try simp only [Act.put, List.setIfInBounds_toArray, List.set_cons_zero, List.set_cons_succ]
  refine lad_arr rfl rfl rfl (fun _ => rfl) (cw 4 (elN m y1)) (fun wx hS => St.rangeL hS 0 rfl 4 _ (pt_y _ _ _)) Try.underlying70 rfl (by kernel_rfl) ?_
  try simp only [Act.put, List.setIfInBounds_toArray, List.set_cons_zero, List.set_cons_succ]
  refine lad_w (v := ?_) rfl rfl (fun xq wx => ?_) ?_
  rotate_left 1
  · (go_simp; with_reducible rfl)
  try simp only [Act.put, List.setIfInBounds_toArray, List.set_cons_zero, List.set_cons_succ]
  refine lad_w (v := ?_) rfl rfl (fun xq wx => ?_) ?_
  rotate_left 1
  · (go_simp; with_reducible rfl)
  try simp only [Act.put, List.setIfInBounds_toArray, List.set_cons_zero, List.set_cons_succ]
  refine lad_w (v := ?_) rfl rfl (fun xq wx => ?_) ?_
  rotate_left 1
  · (go_simp; with_reducible rfl)
  try simp only [Act.put, List.setIfInBounds_toArray, List.set_cons_zero, List.set_cons_succ]
  refine lad_t (v := ?_) rfl rfl (fun xq wx hS => ?_) ?_
  rotate_left 1
  · (have hc := (HCV.out.keep (St.fr hS) id).cell (i := 0) rfl; clear hS; go_simp; with_reducible rfl)
  try simp only [Act.put, List.setIfInBounds_toArray, List.set_cons_zero, List.set_cons_succ]
  refine lad_arr rfl rfl rfl (fun _ => rfl) (cw 4 (elN m qq)) (fun wx hS => St.rangeL hS 4 rfl 0 _ (by rw [List.drop_zero, List.take_of_length_le (Nat.le_refl _)])) Try.underlying70 rfl (by kernel_rfl) ?_
  try simp only [Act.put, List.setIfInBounds_toArray, List.set_cons_zero, List.set_cons_succ]
  refine lad_w (v := ?_) rfl rfl (fun xq wx => ?_) ?_
  rotate_left 1
  · (go_simp; with_reducible rfl)
  try simp only [Act.put, List.setIfInBounds_toArray, List.set_cons_zero, List.set_cons_succ]
  refine lad_arr rfl rfl rfl (fun _ => rfl) (cw 4 (elN m z2)) (fun wx hS => St.rangeL hS 1 rfl 8 _ (pt_z _ _ _)) Try.underlying70 rfl (by kernel_rfl) ?_
  try simp only [Act.put, List.setIfInBounds_toArray, List.set_cons_zero, List.set_cons_succ]
  refine lad_w (v := ?_) rfl rfl (fun xq wx => ?_) ?_
  rotate_left 1
  · (go_simp; with_reducible rfl)
  try simp only [Act.put, List.setIfInBounds_toArray, List.set_cons_zero, List.set_cons_succ]
  refine lad_w (v := ?_) rfl rfl (fun xq wx => ?_) ?_
  rotate_left 1
  · (go_simp; with_reducible rfl)
  try simp only [Act.put, List.setIfInBounds_toArray, List.set_cons_zero, List.set_cons_succ]
  refine lad_w (v := ?_) rfl rfl (fun xq wx => ?_) ?_
  rotate_left 1
  · (go_simp; with_reducible rfl)
  try simp only [Act.put, List.setIfInBounds_toArray, List.set_cons_zero, List.set_cons_succ]
  refine lad_t (v := ?_) rfl rfl (fun xq wx hS => ?_) ?_
  rotate_left 1
  · (have hc := (HCV.out.keep (St.fr hS) id).cell (i := 0) rfl; clear hS; go_simp; with_reducible rfl)
  try simp only [Act.put, List.setIfInBounds_toArray, List.set_cons_zero, List.set_cons_succ]
  refine lad_w (v := ?_) rfl rfl (fun xq wx => ?_) ?_
  rotate_left 1
  · (go_simp; with_reducible rfl)
  try simp only [Act.put, List.setIfInBounds_toArray, List.set_cons_zero, List.set_cons_succ]
  refine lad_arr rfl rfl rfl (fun _ => rfl) (cw 4 (elN m y2)) (fun wx hS => St.rangeL hS 1 rfl 4 _ (pt_y _ _ _)) Try.underlying70 rfl (by kernel_rfl) ?_
  try simp only [Act.put, List.setIfInBounds_toArray, List.set_cons_zero, List.set_cons_succ]
  refine lad_w (v := ?_) rfl rfl (fun xq wx => ?_) ?_
  rotate_left 1
  · (go_simp; with_reducible rfl)
  try simp only [Act.put, List.setIfInBounds_toArray, List.set_cons_zero, List.set_cons_succ]
  refine lad_w (v := ?_) rfl rfl (fun xq wx => ?_) ?_
  rotate_left 1
  · (go_simp; with_reducible rfl)
  try simp only [Act.put, List.setIfInBounds_toArray, List.set_cons_zero, List.set_cons_succ]
  refine lad_w (v := ?_) rfl rfl (fun xq wx => ?_) ?_
  rotate_left 1
  · (go_simp; with_reducible rfl)
  try simp only [Act.put, List.setIfInBounds_toArray, List.set_cons_zero, List.set_cons_succ]
  refine lad_t (v := ?_) rfl rfl (fun xq wx hS => ?_) ?_
  rotate_left 1
  · (have hc := (HCV.out.keep (St.fr hS) id).cell (i := 0) rfl; clear hS; go_simp; with_reducible rfl)
  try simp only [Act.put, List.setIfInBounds_toArray, List.set_cons_zero, List.set_cons_succ]
  refine lad_arr rfl rfl rfl (fun _ => rfl) (cw 4 (elN m pp)) (fun wx hS => St.rangeL hS 3 rfl 0 _ (by rw [List.drop_zero, List.take_of_length_le (Nat.le_refl _)])) Try.underlying70 rfl (by kernel_rfl) ?_
  try simp only [Act.put, List.setIfInBounds_toArray, List.set_cons_zero, List.set_cons_succ]
  refine lad_w (v := ?_) rfl rfl (fun xq wx => ?_) ?_
  rotate_left 1
  · (go_simp; with_reducible rfl)
  try simp only [Act.put, List.setIfInBounds_toArray, List.set_cons_zero, List.set_cons_succ]
  refine lad_arr rfl rfl rfl (fun _ => rfl) (cw 4 (elN m z1)) (fun wx hS => St.rangeL hS 0 rfl 8 _ (pt_z _ _ _)) Try.underlying70 rfl (by kernel_rfl) ?_
  try simp only [Act.put, List.setIfInBounds_toArray, List.set_cons_zero, List.set_cons_succ]
  refine lad_call rfl rfl rfl Try.call94 (fun w hS hR => MMul_v m gp _ HOK.out (HPM.out.keep hS.fr id) qq z2 q3 Hq3.out) (fun _ => rfl) ?_
  try simp only [Act.put, List.setIfInBounds_toArray, List.set_cons_zero, List.set_cons_succ]
  refine lad_call rfl rfl rfl Try.call94 (fun w hS hR => MMul_v m gp _ HOK.out (HPM.out.keep hS.fr id) y1 q3 s1 Hs1.out) (fun _ => rfl) ?_
  try simp only [Act.put, List.setIfInBounds_toArray, List.set_cons_zero, List.set_cons_succ]
  refine lad_call rfl rfl rfl Try.call94 (fun w hS hR => MMul_v m gp _ HOK.out (HPM.out.keep hS.fr id) pp z1 p3 Hp3.out) (fun _ => rfl) ?_
  try simp only [Act.put, List.setIfInBounds_toArray, List.set_cons_zero, List.set_cons_succ]
  refine lad_call rfl rfl rfl Try.call94 (fun w hS hR => MMul_v m gp _ HOK.out (HPM.out.keep hS.fr id) y2 p3 s2 Hs2.out) (fun _ => rfl) ?_
  try simp only [Act.put, List.setIfInBounds_toArray, List.set_cons_zero, List.set_cons_succ]
  refine lad_j (List.mem_cons_of_mem _ List.mem_cons_self) fun g11 => ?_
  simp only [upd, reduceIte]
  try simp only [Nat.reduceEqDiff, reduceIte]
  refine lad_j List.mem_cons_self fun g12 => ?_
  simp only [upd, reduceIte]
  refine lad_end fun xq w12 st12 hR => ?_
  try dsimp only
  clear hR xq
  refine plan_r rfl rfl ?_
  refine wp_storeS st12 7 rfl rfl rfl rfl (by simp [cw_len]) (by kernel_rfl) (cw_one _ _) ?_
  intro w13 st13
  repeat (first | simp only [List.cons_append] at st13 | simp only [List.nil_append] at st13 | simp only [List.set_cons_succ] at st13 | simp only [List.set_cons_zero] at st13)
  clear st12
  refine ⟨by first | exact st13 | exact St.less st13 (by simp), ?_⟩
  try simp only [Act.put]
  refine plan_m rfl rfl ?_
  refine wp_storeS st13 8 rfl rfl rfl rfl (by simp [cw_len]) (by kernel_rfl) (cw_one _ _) ?_
  intro w14 st14
  try simp only [List.set_cons_zero, List.set_cons_succ] at st14
  clear st13
  try simp only [Act.put]
  refine plan_end ?_
  refine NoPanic.normal ?_
  go_wp2_with fail
  refine wp_region_noPanic ?_
  refine wp_region_lad st14 17 [.o 14, .o 15, .w 0, .w 1, .w 2, .t 3, .t 4, .t 5, .w 7, .w 8, .w 9, .t 10, .t 11, .t 12, .c 6, .c 13, .j 14, .j 15] (.r 16 (.m 17 .nil)) (by kernel_rfl) (by kernel_rfl) (fun _ _ _ _ _ h => h) ?_
  clear st14
  refine lad_o rfl rfl rfl z_ge (cw 4 0) rfl ?_
  try simp only [Act.put, List.setIfInBounds_toArray, List.set_cons_zero, List.set_cons_succ]
  refine lad_o rfl rfl rfl z_ge (cw 4 0) rfl ?_
  try simp only [Act.put, List.setIfInBounds_toArray, List.set_cons_zero, List.set_cons_succ]
  refine lad_w (v := ?_) rfl rfl (fun xq wx => ?_) ?_
  rotate_left 1
  · (go_simp; with_reducible rfl)
  try simp only [Act.put, List.setIfInBounds_toArray, List.set_cons_zero, List.set_cons_succ]
  refine lad_w (v := ?_) rfl rfl (fun xq wx => ?_) ?_
  rotate_left 1
  · (go_simp; with_reducible rfl)
  try simp only [Act.put, List.setIfInBounds_toArray, List.set_cons_zero, List.set_cons_succ]
  refine lad_w (v := ?_) rfl rfl (fun xq wx => ?_) ?_
  rotate_left 1
  · (go_simp; with_reducible rfl)
  try simp only [Act.put, List.setIfInBounds_toArray, List.set_cons_zero, List.set_cons_succ]
  refine lad_t (v := ?_) rfl rfl (fun xq wx hS => ?_) ?_
  rotate_left 1
  · (have hc := (HCV.out.keep (St.fr hS) id).cell (i := 0) rfl; clear hS; go_simp; with_reducible rfl)
  try simp only [Act.put, List.setIfInBounds_toArray, List.set_cons_zero, List.set_cons_succ]
  refine lad_arr rfl rfl rfl (fun _ => rfl) (cw 4 (elN m u2)) (fun wx hS => St.rangeL hS 6 rfl 0 _ (by rw [List.drop_zero, List.take_of_length_le (Nat.le_refl _)])) Try.underlying70 rfl (by kernel_rfl) ?_
  try simp only [Act.put, List.setIfInBounds_toArray, List.set_cons_zero, List.set_cons_succ]
  refine lad_arr rfl rfl rfl (fun _ => rfl) (cw 4 (elN m u1)) (fun wx hS => St.rangeL hS 5 rfl 0 _ (by rw [List.drop_zero, List.take_of_length_le (Nat.le_refl _)])) Try.underlying70 rfl (by kernel_rfl) ?_
  try simp only [Act.put, List.setIfInBounds_toArray, List.set_cons_zero, List.set_cons_succ]
  refine lad_w (v := ?_) rfl rfl (fun xq wx => ?_) ?_
  rotate_left 1
  · (go_simp; with_reducible rfl)
  try simp only [Act.put, List.setIfInBounds_toArray, List.set_cons_zero, List.set_cons_succ]
  refine lad_w (v := ?_) rfl rfl (fun xq wx => ?_) ?_
  rotate_left 1
  · (go_simp; with_reducible rfl)
  try simp only [Act.put, List.setIfInBounds_toArray, List.set_cons_zero, List.set_cons_succ]
  refine lad_w (v := ?_) rfl rfl (fun xq wx => ?_) ?_
  rotate_left 1
  · (go_simp; with_reducible rfl)
  try simp only [Act.put, List.setIfInBounds_toArray, List.set_cons_zero, List.set_cons_succ]
  refine lad_t (v := ?_) rfl rfl (fun xq wx hS => ?_) ?_
  rotate_left 1
  · (have hc := (HCV.out.keep (St.fr hS) id).cell (i := 0) rfl; clear hS; go_simp; with_reducible rfl)
  try simp only [Act.put, List.setIfInBounds_toArray, List.set_cons_zero, List.set_cons_succ]
  refine lad_arr rfl rfl rfl (fun _ => rfl) (cw 4 (elN m s2)) (fun wx hS => St.rangeL hS 8 rfl 0 _ (by rw [List.drop_zero, List.take_of_length_le (Nat.le_refl _)])) Try.underlying70 rfl (by kernel_rfl) ?_
  try simp only [Act.put, List.setIfInBounds_toArray, List.set_cons_zero, List.set_cons_succ]
  refine lad_arr rfl rfl rfl (fun _ => rfl) (cw 4 (elN m s1)) (fun wx hS => St.rangeL hS 7 rfl 0 _ (by rw [List.drop_zero, List.take_of_length_le (Nat.le_refl _)])) Try.underlying70 rfl (by kernel_rfl) ?_
  try simp only [Act.put, List.setIfInBounds_toArray, List.set_cons_zero, List.set_cons_succ]
  refine lad_call rfl rfl rfl Try.call95 (fun w hS hR => MSub_v m gp _ HOK.out (HPM.out.keep hS.fr id) u2 u1 hd Hhd.out) (fun _ => rfl) ?_
  try simp only [Act.put, List.setIfInBounds_toArray, List.set_cons_zero, List.set_cons_succ]
  refine lad_call rfl rfl rfl Try.call95 (fun w hS hR => MSub_v m gp _ HOK.out (HPM.out.keep hS.fr id) s2 s1 rr Hrr.out) (fun _ => rfl) ?_
  try simp only [Act.put, List.setIfInBounds_toArray, List.set_cons_zero, List.set_cons_succ]
  refine lad_j (List.mem_cons_of_mem _ List.mem_cons_self) fun g13 => ?_
  simp only [upd, reduceIte]
  try simp only [Nat.reduceEqDiff, reduceIte]
  refine lad_j List.mem_cons_self fun g14 => ?_
  simp only [upd, reduceIte]
  refine lad_end fun xq w15 st15 hR => ?_
  try dsimp only
  clear hR xq
  refine plan_r rfl rfl ?_
  refine wp_storeS st15 9 rfl rfl rfl rfl (by simp [cw_len]) (by kernel_rfl) (cw_one _ _) ?_
  intro w16 st16
  repeat (first | simp only [List.cons_append] at st16 | simp only [List.nil_append] at st16 | simp only [List.set_cons_succ] at st16 | simp only [List.set_cons_zero] at st16)
  clear st15
  refine ⟨by first | exact st16 | exact St.less st16 (by simp), ?_⟩
  try simp only [Act.put]
  refine plan_m rfl rfl ?_
  refine wp_storeS st16 10 rfl rfl rfl rfl (by simp [cw_len]) (by kernel_rfl) (cw_one _ _) ?_
  intro w17 st17
  try simp only [List.set_cons_zero, List.set_cons_succ] at st17
  clear st16
  try simp only [Act.put]
  refine plan_end ?_
  refine NoPanic.normal ?_
  rcases Bool.eq_false_or_eq_true (hd % m.M == 0) with hh0 | hh0
  · have HHZ := Lib.hid hh0
    rcases Bool.eq_false_or_eq_true (rr % m.M == 0) with hr0 | hr0
    · have HRZ := Lib.hid hr0
      have HDB := Lib.hid (show ∀ wx, Fr Nob w wx → Calls Try.prog 97 #[.pointer (some ⟨gc, 0, none⟩), .agg (cw 4 (elN m x1) ++ (cw 4 (elN m y1) ++ cw 4 (elN m z1))).toArray] wx fun e w' => e = .returned (.agg (cw 4 (elN m DX) ++ (cw 4 (elN m DY) ++ cw 4 (elN m DZ))).toArray) ∧ Fr Nob wx w' from HD0.out hh0 hr0)
      clear hh0 hr0 HD0
      go_wp2_with (with_reducible refine wl_stop (o := ⟨some 101, _, _, _, _, _⟩) ?_)
      refine wl_loadS st17 9 rfl rfl rfl Try.underlying70 rfl (by kernel_rfl) ?_
      go_wp2_with fail
      refine (EZero_any m HOK.out hd true HHZ.out _).mono ?_
      rintro e' w18 ⟨rfl, hf18⟩
      have st18 := st17.keep hf18
      clear st17 hf18
      go_wp2_with (with_reducible refine wl_stop (o := ⟨some 103, _, _, _, _, _⟩) ?_)
      refine wl_loadS st18 10 rfl rfl rfl Try.underlying70 rfl (by kernel_rfl) ?_
      go_wp2_with fail
      refine (EZero_any m HOK.out rr true HRZ.out _).mono ?_
      rintro e' w19 ⟨rfl, hf19⟩
      have st19 := st18.keep hf19
      clear st18 hf19
      go_wp2_with (with_reducible refine wl_stop (o := ⟨some 106, _, _, _, _, _⟩) ?_)
      refine wl_loadSt st19 0 rfl rfl rfl Try.underlying72 rfl rfl (by kernel_rfl) ?_
      go_wp2_with fail
      refine (HDB.out _ st19.fr).mono ?_
      rintro e' w20 ⟨rfl, hf20⟩
      have st20 := st19.keep hf20
      clear st19 hf20
      go_wp2_with (with_reducible refine wl_stop (o := ⟨none, _, _, _, _, _⟩) ?_)
      refine wl_storeS st20 2 rfl rfl rfl rfl rfl (by simp [cw_len]) (by kernel_rfl) (pt_one _ _ _) ?_
      intro w21 st21
      clear st20
      have hr := st21.at 2 rfl
      have hfr := st21.fr
      clear st21
      go_wp2_with fail
      exact bodyPost_ret (results_st rfl rfl hr Try.underlying72 rfl (by kernel_rfl)) rfl ⟨by rw [HHZ.out, HRZ.out]; rfl, hfr⟩
    · have HRZ := Lib.hid hr0
      clear hh0 hr0 HD0
      go_wp2_with (with_reducible refine wl_stop (o := ⟨some 101, _, _, _, _, _⟩) ?_)
      refine wl_loadS st17 9 rfl rfl rfl Try.underlying70 rfl (by kernel_rfl) ?_
      go_wp2_with fail
      refine (EZero_any m HOK.out hd true HHZ.out _).mono ?_
      rintro e' w18 ⟨rfl, hf18⟩
      have st18 := st17.keep hf18
      clear st17 hf18
      go_wp2_with (with_reducible refine wl_stop (o := ⟨some 103, _, _, _, _, _⟩) ?_)
      refine wl_loadS st18 10 rfl rfl rfl Try.underlying70 rfl (by kernel_rfl) ?_
      go_wp2_with fail
      refine (EZero_any m HOK.out rr false HRZ.out _).mono ?_
      rintro e' w19 ⟨rfl, hf19⟩
      have st19 := st18.keep hf19
      clear st18 hf19
      go_wp2_with fail
      refine (nothing_u m gc gp bx by_ _ HOK.out (HCV.out.keep st19.fr id) (HPM.out.keep st19.fr id)).mono ?_
      rintro e' w20 ⟨rfl, hf20⟩
      have st20 := st19.keep hf20
      clear st19 hf20
      go_wp2_with (with_reducible refine wl_stop (o := ⟨none, _, _, _, _, _⟩) ?_)
      refine wl_storeS st20 2 rfl rfl rfl rfl rfl (by simp [cw_len]) (by kernel_rfl) (pt_one _ _ _) ?_
      intro w21 st21
      clear st20
      have hr := st21.at 2 rfl
      have hfr := st21.fr
      clear st21
      go_wp2_with fail
      exact bodyPost_ret (results_st rfl rfl hr Try.underlying72 rfl (by kernel_rfl)) rfl ⟨by rw [HHZ.out, HRZ.out]; rfl, hfr⟩
  · have HHZ := Lib.hid hh0
    clear hh0 HD0
    go_wp2_with (with_reducible refine wl_stop (o := ⟨some 101, _, _, _, _, _⟩) ?_)
    refine wl_loadS st17 9 rfl rfl rfl Try.underlying70 rfl (by kernel_rfl) ?_
    go_wp2_with fail
    refine (EZero_any m HOK.out hd false HHZ.out _).mono ?_
    rintro e' w18 ⟨rfl, hf18⟩
    have st18 := st17.keep hf18
    clear st17 hf18
    go_wp2_with fail
    refine wp_region_noPanic ?_
    refine wp_region_lad st18 7 [.o 6, .w 0, .w 1, .w 2, .t 3, .t 4, .c 5, .j 6] (.m 7 .nil) (by kernel_rfl) (by kernel_rfl) (fun _ _ _ _ _ h => h) ?_
    clear st18
    refine lad_o rfl rfl rfl z_ge (cw 4 0) rfl ?_
    try simp only [Act.put, List.setIfInBounds_toArray, List.set_cons_zero, List.set_cons_succ]
    refine lad_w (v := ?_) rfl rfl (fun xq wx => ?_) ?_
    rotate_left 1
    · (go_simp; with_reducible rfl)
    try simp only [Act.put, List.setIfInBounds_toArray, List.set_cons_zero, List.set_cons_succ]
    refine lad_w (v := ?_) rfl rfl (fun xq wx => ?_) ?_
    rotate_left 1
    · (go_simp; with_reducible rfl)
    try simp only [Act.put, List.setIfInBounds_toArray, List.set_cons_zero, List.set_cons_succ]
    refine lad_w (v := ?_) rfl rfl (fun xq wx => ?_) ?_
    rotate_left 1
    · (go_simp; with_reducible rfl)
    try simp only [Act.put, List.setIfInBounds_toArray, List.set_cons_zero, List.set_cons_succ]
    refine lad_t (v := ?_) rfl rfl (fun xq wx hS => ?_) ?_
    rotate_left 1
    · (have hc := (HCV.out.keep (St.fr hS) id).cell (i := 0) rfl; clear hS; go_simp; with_reducible rfl)
    try simp only [Act.put, List.setIfInBounds_toArray, List.set_cons_zero, List.set_cons_succ]
    refine lad_arr rfl rfl rfl (fun _ => rfl) (cw 4 (elN m hd)) (fun wx hS => St.rangeL hS 9 rfl 0 _ (by rw [List.drop_zero, List.take_of_length_le (Nat.le_refl _)])) Try.underlying70 rfl (by kernel_rfl) ?_
    try simp only [Act.put, List.setIfInBounds_toArray, List.set_cons_zero, List.set_cons_succ]
    refine lad_call rfl rfl rfl Try.call93 (fun w hS hR => MSquare_v m gp _ HOK.out (HPM.out.keep hS.fr id) hd hh Hhh.out) (fun _ => rfl) ?_
    try simp only [Act.put, List.setIfInBounds_toArray, List.set_cons_zero, List.set_cons_succ]
    refine lad_j List.mem_cons_self fun g15 => ?_
    simp only [upd, reduceIte]
    refine lad_end fun xq w19 st19 hR => ?_
    try dsimp only
    clear hR xq
    refine plan_m rfl rfl ?_
    refine wp_storeS st19 11 rfl rfl rfl rfl (by simp [cw_len]) (by kernel_rfl) (cw_one _ _) ?_
    intro w20 st20
    repeat (first | simp only [List.cons_append] at st20 | simp only [List.nil_append] at st20 | simp only [List.set_cons_succ] at st20 | simp only [List.set_cons_zero] at st20)
    clear st19
    try simp only [Act.put]
    refine plan_end ?_
    refine NoPanic.normal ?_
    go_wp2_with fail
    refine wp_region_noPanic ?_
    refine wp_region_lad st20 8 [.o 7, .w 0, .w 1, .w 2, .t 3, .t 4, .t 5, .c 6, .j 7] (.m 8 .nil) (by kernel_rfl) (by kernel_rfl) (fun _ _ _ _ _ h => h) ?_
    clear st20
    refine lad_o rfl rfl rfl z_ge (cw 4 0) rfl ?_
    try simp only [Act.put, List.setIfInBounds_toArray, List.set_cons_zero, List.set_cons_succ]
    refine lad_w (v := ?_) rfl rfl (fun xq wx => ?_) ?_
    rotate_left 1
    · (go_simp; with_reducible rfl)
    try simp only [Act.put, List.setIfInBounds_toArray, List.set_cons_zero, List.set_cons_succ]
    refine lad_w (v := ?_) rfl rfl (fun xq wx => ?_) ?_
    rotate_left 1
    · (go_simp; with_reducible rfl)
    try simp only [Act.put, List.setIfInBounds_toArray, List.set_cons_zero, List.set_cons_succ]
    refine lad_w (v := ?_) rfl rfl (fun xq wx => ?_) ?_
    rotate_left 1
    · (go_simp; with_reducible rfl)
    try simp only [Act.put, List.setIfInBounds_toArray, List.set_cons_zero, List.set_cons_succ]
    refine lad_t (v := ?_) rfl rfl (fun xq wx hS => ?_) ?_
    rotate_left 1
    · (have hc := (HCV.out.keep (St.fr hS) id).cell (i := 0) rfl; clear hS; go_simp; with_reducible rfl)
    try simp only [Act.put, List.setIfInBounds_toArray, List.set_cons_zero, List.set_cons_succ]
    refine lad_arr rfl rfl rfl (fun _ => rfl) (cw 4 (elN m hh)) (fun wx hS => St.rangeL hS 11 rfl 0 _ (by rw [List.drop_zero, List.take_of_length_le (Nat.le_refl _)])) Try.underlying70 rfl (by kernel_rfl) ?_
    try simp only [Act.put, List.setIfInBounds_toArray, List.set_cons_zero, List.set_cons_succ]
    refine lad_arr rfl rfl rfl (fun _ => rfl) (cw 4 (elN m hd)) (fun wx hS => St.rangeL hS 9 rfl 0 _ (by rw [List.drop_zero, List.take_of_length_le (Nat.le_refl _)])) Try.underlying70 rfl (by kernel_rfl) ?_
    try simp only [Act.put, List.setIfInBounds_toArray, List.set_cons_zero, List.set_cons_succ]
    refine lad_call rfl rfl rfl Try.call94 (fun w hS hR => MMul_v m gp _ HOK.out (HPM.out.keep hS.fr id) hh hd h3 Hh3.out) (fun _ => rfl) ?_
    try simp only [Act.put, List.setIfInBounds_toArray, List.set_cons_zero, List.set_cons_succ]
    refine lad_j List.mem_cons_self fun g16 => ?_
    simp only [upd, reduceIte]
    refine lad_end fun xq w21 st21 hR => ?_
    try dsimp only
    clear hR xq
    refine plan_m rfl rfl ?_
    refine wp_storeS st21 12 rfl rfl rfl rfl (by simp [cw_len]) (by kernel_rfl) (cw_one _ _) ?_
    intro w22 st22
    repeat (first | simp only [List.cons_append] at st22 | simp only [List.nil_append] at st22 | simp only [List.set_cons_succ] at st22 | simp only [List.set_cons_zero] at st22)
    clear st21
    try simp only [Act.put]
    refine plan_end ?_
    refine NoPanic.normal ?_
    go_wp2_with fail
    refine wp_region_noPanic ?_
    refine wp_region_lad st22 8 [.o 7, .w 0, .w 1, .w 2, .t 3, .t 4, .t 5, .c 6, .j 7] (.m 8 .nil) (by kernel_rfl) (by kernel_rfl) (fun _ _ _ _ _ h => h) ?_
    clear st22
    refine lad_o rfl rfl rfl z_ge (cw 4 0) rfl ?_
    try simp only [Act.put, List.setIfInBounds_toArray, List.set_cons_zero, List.set_cons_succ]
    refine lad_w (v := ?_) rfl rfl (fun xq wx => ?_) ?_
    rotate_left 1
    · (go_simp; with_reducible rfl)
    try simp only [Act.put, List.setIfInBounds_toArray, List.set_cons_zero, List.set_cons_succ]
    refine lad_w (v := ?_) rfl rfl (fun xq wx => ?_) ?_
    rotate_left 1
    · (go_simp; with_reducible rfl)
    try simp only [Act.put, List.setIfInBounds_toArray, List.set_cons_zero, List.set_cons_succ]
    refine lad_w (v := ?_) rfl rfl (fun xq wx => ?_) ?_
    rotate_left 1
    · (go_simp; with_reducible rfl)
    try simp only [Act.put, List.setIfInBounds_toArray, List.set_cons_zero, List.set_cons_succ]
    refine lad_t (v := ?_) rfl rfl (fun xq wx hS => ?_) ?_
    rotate_left 1
    · (have hc := (HCV.out.keep (St.fr hS) id).cell (i := 0) rfl; clear hS; go_simp; with_reducible rfl)
    try simp only [Act.put, List.setIfInBounds_toArray, List.set_cons_zero, List.set_cons_succ]
    refine lad_arr rfl rfl rfl (fun _ => rfl) (cw 4 (elN m u1)) (fun wx hS => St.rangeL hS 5 rfl 0 _ (by rw [List.drop_zero, List.take_of_length_le (Nat.le_refl _)])) Try.underlying70 rfl (by kernel_rfl) ?_
    try simp only [Act.put, List.setIfInBounds_toArray, List.set_cons_zero, List.set_cons_succ]
    refine lad_arr rfl rfl rfl (fun _ => rfl) (cw 4 (elN m hh)) (fun wx hS => St.rangeL hS 11 rfl 0 _ (by rw [List.drop_zero, List.take_of_length_le (Nat.le_refl _)])) Try.underlying70 rfl (by kernel_rfl) ?_
    try simp only [Act.put, List.setIfInBounds_toArray, List.set_cons_zero, List.set_cons_succ]
    refine lad_call rfl rfl rfl Try.call94 (fun w hS hR => MMul_v m gp _ HOK.out (HPM.out.keep hS.fr id) u1 hh v Hv.out) (fun _ => rfl) ?_
    try simp only [Act.put, List.setIfInBounds_toArray, List.set_cons_zero, List.set_cons_succ]
    refine lad_j List.mem_cons_self fun g17 => ?_
    simp only [upd, reduceIte]
    refine lad_end fun xq w23 st23 hR => ?_
    try dsimp only
    clear hR xq
    refine plan_m rfl rfl ?_
    refine wp_storeS st23 13 rfl rfl rfl rfl (by simp [cw_len]) (by kernel_rfl) (cw_one _ _) ?_
    intro w24 st24
    repeat (first | simp only [List.cons_append] at st24 | simp only [List.nil_append] at st24 | simp only [List.set_cons_succ] at st24 | simp only [List.set_cons_zero] at st24)
    clear st23
    try simp only [Act.put]
    refine plan_end ?_
    refine NoPanic.normal ?_
    go_wp2_with fail
    refine wp_region_noPanic ?_
    refine wp_region_lad st24 25 [.o 24, .w 0, .w 1, .w 2, .t 3, .w 4, .w 5, .w 6, .t 7, .t 8, .w 10, .w 11, .w 12, .t 13, .t 14, .w 15, .w 16, .w 17, .t 18, .t 19, .t 20, .c 9, .c 21, .c 22, .c 23, .j 24] (.m 25 .nil) (by kernel_rfl) (by kernel_rfl) (fun _ _ _ _ _ h => h) ?_
    clear st24
    refine lad_o rfl rfl rfl z_ge (cw 4 0) rfl ?_
    try simp only [Act.put, List.setIfInBounds_toArray, List.set_cons_zero, List.set_cons_succ]
    refine lad_w (v := ?_) rfl rfl (fun xq wx => ?_) ?_
    rotate_left 1
    · (go_simp; with_reducible rfl)
    try simp only [Act.put, List.setIfInBounds_toArray, List.set_cons_zero, List.set_cons_succ]
    refine lad_w (v := ?_) rfl rfl (fun xq wx => ?_) ?_
    rotate_left 1
    · (go_simp; with_reducible rfl)
    try simp only [Act.put, List.setIfInBounds_toArray, List.set_cons_zero, List.set_cons_succ]
    refine lad_w (v := ?_) rfl rfl (fun xq wx => ?_) ?_
    rotate_left 1
    · (go_simp; with_reducible rfl)
    try simp only [Act.put, List.setIfInBounds_toArray, List.set_cons_zero, List.set_cons_succ]
    refine lad_t (v := ?_) rfl rfl (fun xq wx hS => ?_) ?_
    rotate_left 1
    · (have hc := (HCV.out.keep (St.fr hS) id).cell (i := 0) rfl; clear hS; go_simp; with_reducible rfl)
    try simp only [Act.put, List.setIfInBounds_toArray, List.set_cons_zero, List.set_cons_succ]
    refine lad_w (v := ?_) rfl rfl (fun xq wx => ?_) ?_
    rotate_left 1
    · (go_simp; with_reducible rfl)
    try simp only [Act.put, List.setIfInBounds_toArray, List.set_cons_zero, List.set_cons_succ]
    refine lad_w (v := ?_) rfl rfl (fun xq wx => ?_) ?_
    rotate_left 1
    · (go_simp; with_reducible rfl)
    try simp only [Act.put, List.setIfInBounds_toArray, List.set_cons_zero, List.set_cons_succ]
    refine lad_w (v := ?_) rfl rfl (fun xq wx => ?_) ?_
    rotate_left 1
    · (go_simp; with_reducible rfl)
    try simp only [Act.put, List.setIfInBounds_toArray, List.set_cons_zero, List.set_cons_succ]
    refine lad_t (v := ?_) rfl rfl (fun xq wx hS => ?_) ?_
    rotate_left 1
    · (have hc := (HCV.out.keep (St.fr hS) id).cell (i := 0) rfl; clear hS; go_simp; with_reducible rfl)
    try simp only [Act.put, List.setIfInBounds_toArray, List.set_cons_zero, List.set_cons_succ]
    refine lad_arr rfl rfl rfl (fun _ => rfl) (cw 4 (elN m rr)) (fun wx hS => St.rangeL hS 10 rfl 0 _ (by rw [List.drop_zero, List.take_of_length_le (Nat.le_refl _)])) Try.underlying70 rfl (by kernel_rfl) ?_
    try simp only [Act.put, List.setIfInBounds_toArray, List.set_cons_zero, List.set_cons_succ]
    refine lad_w (v := ?_) rfl rfl (fun xq wx => ?_) ?_
    rotate_left 1
    · (go_simp; with_reducible rfl)
    try simp only [Act.put, List.setIfInBounds_toArray, List.set_cons_zero, List.set_cons_succ]
    refine lad_w (v := ?_) rfl rfl (fun xq wx => ?_) ?_
    rotate_left 1
    · (go_simp; with_reducible rfl)
    try simp only [Act.put, List.setIfInBounds_toArray, List.set_cons_zero, List.set_cons_succ]
    refine lad_w (v := ?_) rfl rfl (fun xq wx => ?_) ?_
    rotate_left 1
    · (go_simp; with_reducible rfl)
    try simp only [Act.put, List.setIfInBounds_toArray, List.set_cons_zero, List.set_cons_succ]
    refine lad_t (v := ?_) rfl rfl (fun xq wx hS => ?_) ?_
    rotate_left 1
    · (have hc := (HCV.out.keep (St.fr hS) id).cell (i := 0) rfl; clear hS; go_simp; with_reducible rfl)
    try simp only [Act.put, List.setIfInBounds_toArray, List.set_cons_zero, List.set_cons_succ]
    refine lad_arr rfl rfl rfl (fun _ => rfl) (cw 4 (elN m h3)) (fun wx hS => St.rangeL hS 12 rfl 0 _ (by rw [List.drop_zero, List.take_of_length_le (Nat.le_refl _)])) Try.underlying70 rfl (by kernel_rfl) ?_
    try simp only [Act.put, List.setIfInBounds_toArray, List.set_cons_zero, List.set_cons_succ]
    refine lad_w (v := ?_) rfl rfl (fun xq wx => ?_) ?_
    rotate_left 1
    · (go_simp; with_reducible rfl)
    try simp only [Act.put, List.setIfInBounds_toArray, List.set_cons_zero, List.set_cons_succ]
    refine lad_w (v := ?_) rfl rfl (fun xq wx => ?_) ?_
    rotate_left 1
    · (go_simp; with_reducible rfl)
    try simp only [Act.put, List.setIfInBounds_toArray, List.set_cons_zero, List.set_cons_succ]
    refine lad_w (v := ?_) rfl rfl (fun xq wx => ?_) ?_
    rotate_left 1
    · (go_simp; with_reducible rfl)
    try simp only [Act.put, List.setIfInBounds_toArray, List.set_cons_zero, List.set_cons_succ]
    refine lad_t (v := ?_) rfl rfl (fun xq wx hS => ?_) ?_
    rotate_left 1
    · (have hc := (HCV.out.keep (St.fr hS) id).cell (i := 0) rfl; clear hS; go_simp; with_reducible rfl)
    try simp only [Act.put, List.setIfInBounds_toArray, List.set_cons_zero, List.set_cons_succ]
    refine lad_arr rfl rfl rfl (fun _ => rfl) (cw 4 (elN m v)) (fun wx hS => St.rangeL hS 13 rfl 0 _ (by rw [List.drop_zero, List.take_of_length_le (Nat.le_refl _)])) Try.underlying70 rfl (by kernel_rfl) ?_
    try simp only [Act.put, List.setIfInBounds_toArray, List.set_cons_zero, List.set_cons_succ]
    refine lad_arr rfl rfl rfl (fun _ => rfl) (cw 4 (elN m v)) (fun wx hS => St.rangeL hS 13 rfl 0 _ (by rw [List.drop_zero, List.take_of_length_le (Nat.le_refl _)])) Try.underlying70 rfl (by kernel_rfl) ?_
    try simp only [Act.put, List.setIfInBounds_toArray, List.set_cons_zero, List.set_cons_succ]
    refine lad_call rfl rfl rfl Try.call93 (fun w hS hR => MSquare_v m gp _ HOK.out (HPM.out.keep hS.fr id) rr r2 Hr2.out) (fun _ => rfl) ?_
    try simp only [Act.put, List.setIfInBounds_toArray, List.set_cons_zero, List.set_cons_succ]
    refine lad_call rfl rfl rfl Try.call98 (fun w hS hR => MAdd_v m gp _ HOK.out (HPM.out.keep hS.fr id) v v v2 Hv2.out) (fun _ => rfl) ?_
    try simp only [Act.put, List.setIfInBounds_toArray, List.set_cons_zero, List.set_cons_succ]
    refine lad_call rfl rfl rfl Try.call98 (fun w hS hR => MAdd_v m gp _ HOK.out (HPM.out.keep hS.fr id) h3 v2 t1 Ht1.out) (fun _ => rfl) ?_
    try simp only [Act.put, List.setIfInBounds_toArray, List.set_cons_zero, List.set_cons_succ]
    refine lad_call rfl rfl rfl Try.call95 (fun w hS hR => MSub_v m gp _ HOK.out (HPM.out.keep hS.fr id) r2 t1 X HX.out) (fun _ => rfl) ?_
    try simp only [Act.put, List.setIfInBounds_toArray, List.set_cons_zero, List.set_cons_succ]
    refine lad_j List.mem_cons_self fun g18 => ?_
    simp only [upd, reduceIte]
    refine lad_end fun xq w25 st25 hR => ?_
    try dsimp only
    clear hR xq
    refine plan_m rfl rfl ?_
    refine wp_storeS st25 14 rfl rfl rfl rfl (by simp [cw_len]) (by kernel_rfl) (cw_one _ _) ?_
    intro w26 st26
    repeat (first | simp only [List.cons_append] at st26 | simp only [List.nil_append] at st26 | simp only [List.set_cons_succ] at st26 | simp only [List.set_cons_zero] at st26)
    clear st25
    try simp only [Act.put]
    refine plan_end ?_
    refine NoPanic.normal ?_
    go_wp2_with fail
    refine wp_region_noPanic ?_
    refine wp_region_lad st26 42 [.t 0, .w 1, .w 2, .w 3, .t 4, .w 5, .w 6, .w 7, .t 8, .t 9, .w 10, .w 11, .w 12, .t 13, .t 14, .t 15, .w 18, .w 19, .w 20, .t 21, .t 22, .t 23, .w 26, .w 27, .w 28, .t 29, .t 30, .w 31, .w 32, .w 33, .t 34, .w 35, .t 36, .w 37, .t 38, .c 16, .c 17, .c 24, .c 25, .c 39, .c 40, .w 41] (.m 42 .nil) (by kernel_rfl) (by kernel_rfl) (fun _ _ _ _ _ h => h) ?_
    clear st26
    refine lad_arr rfl rfl rfl (fun _ => rfl) (cw 4 (elN m X)) (fun wx hS => St.rangeL hS 14 rfl 0 _ (by rw [List.drop_zero, List.take_of_length_le (Nat.le_refl _)])) Try.underlying70 rfl (by kernel_rfl) ?_
    try simp only [Act.put, List.setIfInBounds_toArray, List.set_cons_zero, List.set_cons_succ]
    refine lad_w (v := ?_) rfl rfl (fun xq wx => ?_) ?_
    rotate_left 1
    · (go_simp; with_reducible rfl)
    try simp only [Act.put, List.setIfInBounds_toArray, List.set_cons_zero, List.set_cons_succ]
    refine lad_w (v := ?_) rfl rfl (fun xq wx => ?_) ?_
    rotate_left 1
    · (go_simp; with_reducible rfl)
    try simp only [Act.put, List.setIfInBounds_toArray, List.set_cons_zero, List.set_cons_succ]
    refine lad_w (v := ?_) rfl rfl (fun xq wx => ?_) ?_
    rotate_left 1
    · (go_simp; with_reducible rfl)
    try simp only [Act.put, List.setIfInBounds_toArray, List.set_cons_zero, List.set_cons_succ]
    refine lad_t (v := ?_) rfl rfl (fun xq wx hS => ?_) ?_
    rotate_left 1
    · (have hc := (HCV.out.keep (St.fr hS) id).cell (i := 0) rfl; clear hS; go_simp; with_reducible rfl)
    try simp only [Act.put, List.setIfInBounds_toArray, List.set_cons_zero, List.set_cons_succ]
    refine lad_w (v := ?_) rfl rfl (fun xq wx => ?_) ?_
    rotate_left 1
    · (go_simp; with_reducible rfl)
    try simp only [Act.put, List.setIfInBounds_toArray, List.set_cons_zero, List.set_cons_succ]
    refine lad_w (v := ?_) rfl rfl (fun xq wx => ?_) ?_
    rotate_left 1
    · (go_simp; with_reducible rfl)
    try simp only [Act.put, List.setIfInBounds_toArray, List.set_cons_zero, List.set_cons_succ]
    refine lad_w (v := ?_) rfl rfl (fun xq wx => ?_) ?_
    rotate_left 1
    · (go_simp; with_reducible rfl)
    try simp only [Act.put, List.setIfInBounds_toArray, List.set_cons_zero, List.set_cons_succ]
    refine lad_t (v := ?_) rfl rfl (fun xq wx hS => ?_) ?_
    rotate_left 1
    · (have hc := (HCV.out.keep (St.fr hS) id).cell (i := 0) rfl; clear hS; go_simp; with_reducible rfl)
    try simp only [Act.put, List.setIfInBounds_toArray, List.set_cons_zero, List.set_cons_succ]
    refine lad_arr rfl rfl rfl (fun _ => rfl) (cw 4 (elN m rr)) (fun wx hS => St.rangeL hS 10 rfl 0 _ (by rw [List.drop_zero, List.take_of_length_le (Nat.le_refl _)])) Try.underlying70 rfl (by kernel_rfl) ?_
    try simp only [Act.put, List.setIfInBounds_toArray, List.set_cons_zero, List.set_cons_succ]
    refine lad_w (v := ?_) rfl rfl (fun xq wx => ?_) ?_
    rotate_left 1
    · (go_simp; with_reducible rfl)
    try simp only [Act.put, List.setIfInBounds_toArray, List.set_cons_zero, List.set_cons_succ]
    refine lad_w (v := ?_) rfl rfl (fun xq wx => ?_) ?_
    rotate_left 1
    · (go_simp; with_reducible rfl)
    try simp only [Act.put, List.setIfInBounds_toArray, List.set_cons_zero, List.set_cons_succ]
    refine lad_w (v := ?_) rfl rfl (fun xq wx => ?_) ?_
    rotate_left 1
    · (go_simp; with_reducible rfl)
    try simp only [Act.put, List.setIfInBounds_toArray, List.set_cons_zero, List.set_cons_succ]
    refine lad_t (v := ?_) rfl rfl (fun xq wx hS => ?_) ?_
    rotate_left 1
    · (have hc := (HCV.out.keep (St.fr hS) id).cell (i := 0) rfl; clear hS; go_simp; with_reducible rfl)
    try simp only [Act.put, List.setIfInBounds_toArray, List.set_cons_zero, List.set_cons_succ]
    refine lad_arr rfl rfl rfl (fun _ => rfl) (cw 4 (elN m v)) (fun wx hS => St.rangeL hS 13 rfl 0 _ (by rw [List.drop_zero, List.take_of_length_le (Nat.le_refl _)])) Try.underlying70 rfl (by kernel_rfl) ?_
    try simp only [Act.put, List.setIfInBounds_toArray, List.set_cons_zero, List.set_cons_succ]
    refine lad_arr rfl rfl rfl (fun _ => rfl) (cw 4 (elN m X)) (fun wx hS => St.rangeL hS 14 rfl 0 _ (by rw [List.drop_zero, List.take_of_length_le (Nat.le_refl _)])) Try.underlying70 rfl (by kernel_rfl) ?_
    try simp only [Act.put, List.setIfInBounds_toArray, List.set_cons_zero, List.set_cons_succ]
    refine lad_w (v := ?_) rfl rfl (fun xq wx => ?_) ?_
    rotate_left 1
    · (go_simp; with_reducible rfl)
    try simp only [Act.put, List.setIfInBounds_toArray, List.set_cons_zero, List.set_cons_succ]
    refine lad_w (v := ?_) rfl rfl (fun xq wx => ?_) ?_
    rotate_left 1
    · (go_simp; with_reducible rfl)
    try simp only [Act.put, List.setIfInBounds_toArray, List.set_cons_zero, List.set_cons_succ]
    refine lad_w (v := ?_) rfl rfl (fun xq wx => ?_) ?_
    rotate_left 1
    · (go_simp; with_reducible rfl)
    try simp only [Act.put, List.setIfInBounds_toArray, List.set_cons_zero, List.set_cons_succ]
    refine lad_t (v := ?_) rfl rfl (fun xq wx hS => ?_) ?_
    rotate_left 1
    · (have hc := (HCV.out.keep (St.fr hS) id).cell (i := 0) rfl; clear hS; go_simp; with_reducible rfl)
    try simp only [Act.put, List.setIfInBounds_toArray, List.set_cons_zero, List.set_cons_succ]
    refine lad_arr rfl rfl rfl (fun _ => rfl) (cw 4 (elN m s1)) (fun wx hS => St.rangeL hS 7 rfl 0 _ (by rw [List.drop_zero, List.take_of_length_le (Nat.le_refl _)])) Try.underlying70 rfl (by kernel_rfl) ?_
    try simp only [Act.put, List.setIfInBounds_toArray, List.set_cons_zero, List.set_cons_succ]
    refine lad_arr rfl rfl rfl (fun _ => rfl) (cw 4 (elN m h3)) (fun wx hS => St.rangeL hS 12 rfl 0 _ (by rw [List.drop_zero, List.take_of_length_le (Nat.le_refl _)])) Try.underlying70 rfl (by kernel_rfl) ?_
    try simp only [Act.put, List.setIfInBounds_toArray, List.set_cons_zero, List.set_cons_succ]
    refine lad_w (v := ?_) rfl rfl (fun xq wx => ?_) ?_
    rotate_left 1
    · (go_simp; with_reducible rfl)
    try simp only [Act.put, List.setIfInBounds_toArray, List.set_cons_zero, List.set_cons_succ]
    refine lad_w (v := ?_) rfl rfl (fun xq wx => ?_) ?_
    rotate_left 1
    · (go_simp; with_reducible rfl)
    try simp only [Act.put, List.setIfInBounds_toArray, List.set_cons_zero, List.set_cons_succ]
    refine lad_w (v := ?_) rfl rfl (fun xq wx => ?_) ?_
    rotate_left 1
    · (go_simp; with_reducible rfl)
    try simp only [Act.put, List.setIfInBounds_toArray, List.set_cons_zero, List.set_cons_succ]
    refine lad_t (v := ?_) rfl rfl (fun xq wx hS => ?_) ?_
    rotate_left 1
    · (have hc := (HCV.out.keep (St.fr hS) id).cell (i := 0) rfl; clear hS; go_simp; with_reducible rfl)
    try simp only [Act.put, List.setIfInBounds_toArray, List.set_cons_zero, List.set_cons_succ]
    refine lad_arr rfl rfl rfl (fun _ => rfl) (cw 4 (elN m hd)) (fun wx hS => St.rangeL hS 9 rfl 0 _ (by rw [List.drop_zero, List.take_of_length_le (Nat.le_refl _)])) Try.underlying70 rfl (by kernel_rfl) ?_
    try simp only [Act.put, List.setIfInBounds_toArray, List.set_cons_zero, List.set_cons_succ]
    refine lad_w (v := ?_) rfl rfl (fun xq wx => ?_) ?_
    rotate_left 1
    · (go_simp; with_reducible rfl)
    try simp only [Act.put, List.setIfInBounds_toArray, List.set_cons_zero, List.set_cons_succ]
    refine lad_w (v := ?_) rfl rfl (fun xq wx => ?_) ?_
    rotate_left 1
    · (go_simp; with_reducible rfl)
    try simp only [Act.put, List.setIfInBounds_toArray, List.set_cons_zero, List.set_cons_succ]
    refine lad_w (v := ?_) rfl rfl (fun xq wx => ?_) ?_
    rotate_left 1
    · (go_simp; with_reducible rfl)
    try simp only [Act.put, List.setIfInBounds_toArray, List.set_cons_zero, List.set_cons_succ]
    refine lad_t (v := ?_) rfl rfl (fun xq wx hS => ?_) ?_
    rotate_left 1
    · (have hc := (HCV.out.keep (St.fr hS) id).cell (i := 0) rfl; clear hS; go_simp; with_reducible rfl)
    try simp only [Act.put, List.setIfInBounds_toArray, List.set_cons_zero, List.set_cons_succ]
    refine lad_w (v := ?_) rfl rfl (fun xq wx => ?_) ?_
    rotate_left 1
    · (go_simp; with_reducible rfl)
    try simp only [Act.put, List.setIfInBounds_toArray, List.set_cons_zero, List.set_cons_succ]
    refine lad_arr rfl rfl rfl (fun _ => rfl) (cw 4 (elN m z1)) (fun wx hS => St.rangeL hS 0 rfl 8 _ (pt_z _ _ _)) Try.underlying70 rfl (by kernel_rfl) ?_
    try simp only [Act.put, List.setIfInBounds_toArray, List.set_cons_zero, List.set_cons_succ]
    refine lad_w (v := ?_) rfl rfl (fun xq wx => ?_) ?_
    rotate_left 1
    · (go_simp; with_reducible rfl)
    try simp only [Act.put, List.setIfInBounds_toArray, List.set_cons_zero, List.set_cons_succ]
    refine lad_arr rfl rfl rfl (fun _ => rfl) (cw 4 (elN m z2)) (fun wx hS => St.rangeL hS 1 rfl 8 _ (pt_z _ _ _)) Try.underlying70 rfl (by kernel_rfl) ?_
    try simp only [Act.put, List.setIfInBounds_toArray, List.set_cons_zero, List.set_cons_succ]
    refine lad_call rfl rfl rfl Try.call95 (fun w hS hR => MSub_v m gp _ HOK.out (HPM.out.keep hS.fr id) v X t2 Ht2.out) (fun _ => rfl) ?_
    try simp only [Act.put, List.setIfInBounds_toArray, List.set_cons_zero, List.set_cons_succ]
    refine lad_call rfl rfl rfl Try.call94 (fun w hS hR => MMul_v m gp _ HOK.out (HPM.out.keep hS.fr id) rr t2 t3 Ht3.out) (fun _ => rfl) ?_
    try simp only [Act.put, List.setIfInBounds_toArray, List.set_cons_zero, List.set_cons_succ]
    refine lad_call rfl rfl rfl Try.call94 (fun w hS hR => MMul_v m gp _ HOK.out (HPM.out.keep hS.fr id) s1 h3 t4 Ht4.out) (fun _ => rfl) ?_
    try simp only [Act.put, List.setIfInBounds_toArray, List.set_cons_zero, List.set_cons_succ]
    refine lad_call rfl rfl rfl Try.call95 (fun w hS hR => MSub_v m gp _ HOK.out (HPM.out.keep hS.fr id) t3 t4 Y HY.out) (fun _ => rfl) ?_
    try simp only [Act.put, List.setIfInBounds_toArray, List.set_cons_zero, List.set_cons_succ]
    refine lad_call rfl rfl rfl Try.call94 (fun w hS hR => MMul_v m gp _ HOK.out (HPM.out.keep hS.fr id) z1 z2 zz Hzz.out) (fun _ => rfl) ?_
    try simp only [Act.put, List.setIfInBounds_toArray, List.set_cons_zero, List.set_cons_succ]
    refine lad_call rfl rfl rfl Try.call94 (fun w hS hR => MMul_v m gp _ HOK.out (HPM.out.keep hS.fr id) hd zz Z HZ.out) (fun _ => rfl) ?_
    try simp only [Act.put, List.setIfInBounds_toArray, List.set_cons_zero, List.set_cons_succ]
    refine lad_w rfl rfl (fun _ => exec_build rfl _ (built_pt _ _ _)) ?_
    try simp only [Act.put, List.setIfInBounds_toArray, List.set_cons_zero, List.set_cons_succ]
    refine lad_end fun xq w27 st27 hR => ?_
    try dsimp only
    clear hR xq
    refine plan_m rfl rfl ?_
    refine wp_storeS st27 2 rfl rfl rfl rfl (by simp [cw_len]) (by kernel_rfl) (pt_one _ _ _) ?_
    intro w28 st28
    try simp only [List.set_cons_zero, List.set_cons_succ] at st28
    clear st27
    try simp only [Act.put]
    refine plan_end ?_
    refine NoPanic.normal ?_
    have hr := st28.at 2 rfl
    have hfr := st28.fr
    clear st28
    go_wp2_with fail
    exact bodyPost_ret (results_st rfl rfl hr Try.underlying72 rfl (by kernel_rfl)) rfl ⟨by rw [HHZ.out]; rfl, hfr⟩
end Go.Proofs.Ytdbgddngapminaa

/- A program's sum of two points as the group's. -/
namespace Go.Proofs.Ytdbgddngapminaa
open Go.RowKit Go.Mv Mvp Mvq
theorem kc_zero' : kc 0 = 0 := by decide
/-- plus: of any points of the curve -/
theorem plus_is (x1 y1 z1 x2 y2 z2 : Nat) (ho1 : onC (jN x1 y1 z1)) (ho2 : onC (jN x2 y2 z2)) :
    ∃ X Y Z, jN X Y Z = padd (jN x1 y1 z1) (jN x2 y2 z2) ∧ ∀ gc gp bx by_ wx, Has wx gc (crvL mP gp bx by_) 93 → Has wx gp (mdL mP) 134 → Calls Try.prog 45 #[.pointer (some ⟨gc, 0, none⟩), ptV mP x1 y1 z1, ptV mP x2 y2 z2] wx fun e w' => e = .returned (ptV mP X Y Z) ∧ Fr Nob wx w' := by
  cases hb1 : (z1 % mP.M == 0)
  case true =>
    have hz : kc z1 = 0 := by simpa using z_is _ mP_fP z1 _ hb1
    refine ⟨x2, y2, z2, ?_, fun gc gp bx by_ wx hcv hpm => plus_none1 mP gc gp bx by_ wx mP_ok hcv hpm x1 y1 z1 x2 y2 z2 hb1⟩
    unfold jN
    rw [jk_z hz]; rfl
  case false =>
    have hz1 : kc z1 ≠ 0 := by simpa using z_is _ mP_fP z1 _ hb1
    cases hb2 : (z2 % mP.M == 0)
    case true =>
      have hz : kc z2 = 0 := by simpa using z_is _ mP_fP z2 _ hb2
      refine ⟨x1, y1, z1, ?_, fun gc gp bx by_ wx hcv hpm => plus_none2 mP gc gp bx by_ wx mP_ok hcv hpm x1 y1 z1 x2 y2 z2 hb1 hb2⟩
      unfold jN
      rw [jk_z hz, padd_zero]
    case false =>
      have hz2 : kc z2 ≠ 0 := by simpa using z_is _ mP_fP z2 _ hb2
      obtain ⟨pp, epp⟩ : ∃ q, z1 * z1 = q := ⟨_, rfl⟩
      obtain ⟨qq, eqq⟩ : ∃ q, z2 * z2 = q := ⟨_, rfl⟩
      obtain ⟨u1, eu1⟩ : ∃ q, x1 * qq = q := ⟨_, rfl⟩
      obtain ⟨u2, eu2⟩ : ∃ q, x2 * pp = q := ⟨_, rfl⟩
      obtain ⟨q3, eq3⟩ : ∃ q, qq * z2 = q := ⟨_, rfl⟩
      obtain ⟨s1, es1⟩ : ∃ q, y1 * q3 = q := ⟨_, rfl⟩
      obtain ⟨p3, ep3⟩ : ∃ q, pp * z1 = q := ⟨_, rfl⟩
      obtain ⟨s2, es2⟩ : ∃ q, y2 * p3 = q := ⟨_, rfl⟩
      obtain ⟨hd, ehd⟩ : ∃ q, u2 + (mP.M - u1 % mP.M) = q := ⟨_, rfl⟩
      obtain ⟨rr, err⟩ : ∃ q, s2 + (mP.M - s1 % mP.M) = q := ⟨_, rfl⟩
      have ku1 : kc u1 = kc x1 * (kc z2 * kc z2) := by rw [← eu1, ← eqq, kc_mul', kc_mul']
      have ku2 : kc u2 = kc x2 * (kc z1 * kc z1) := by rw [← eu2, ← epp, kc_mul', kc_mul']
      have ks1 : kc s1 = kc y1 * (kc z2 * kc z2 * kc z2) := by rw [← es1, ← eq3, ← eqq, kc_mul', kc_mul', kc_mul']
      have ks2 : kc s2 = kc y2 * (kc z1 * kc z1 * kc z1) := by rw [← es2, ← ep3, ← epp, kc_mul', kc_mul', kc_mul']
      have khd : kc hd = kc u2 - kc u1 := by rw [← ehd, kc_sub' _ mP_fP]
      have krr : kc rr = kc s2 - kc s1 := by rw [← err, kc_sub' _ mP_fP]
      obtain ⟨DX, DY, DZ, hX, hcall⟩ := double_is x1 y1 z1 ho1
      have hcal := fun gc gp bx by_ wx (hcv : Has wx gc (crvL mP gp bx by_) 93) (hpm : Has wx gp (mdL mP) 134) => gplus_any mP gc gp bx by_ wx mP_ok hcv hpm x1 y1 z1 x2 y2 z2 hb1 hb2 pp qq u1 u2 q3 s1 p3 s2 hd rr _ _ _ _ _ _ _ _ _ _ _ _ _ DX DY DZ epp eqq eu1 eu2 eq3 es1 ep3 es2 ehd err rfl rfl rfl rfl rfl rfl rfl rfl rfl rfl rfl rfl rfl (fun _ _ wy hf2 => hcall gc gp bx by_ wy (hcv.keep hf2 id) (hpm.keep hf2 id))
      cases hh : (hd % mP.M == 0)
      case false =>
        have hn : kc hd ≠ 0 := by simpa using z_is _ mP_fP hd _ hh
        rw [hh] at hcal
        refine ⟨_, _, _, ?_, fun gc gp bx by_ wx hcv hpm => hcal gc gp bx by_ wx hcv hpm⟩
        have h := jk_plus ho1 ho2 hz1 hz2 (kc u1) (kc u2) (kc s1) (kc s2) (kc hd) (kc rr) _ _ _ _ ku1 ku2 ks1 ks2 khd krr hn rfl rfl rfl rfl
        unfold jN at *
        rw [← h]
        simp only [kc_sub' _ mP_fP, kc_addn, kc_mul']
      case true =>
        have h0 : kc hd = 0 := by simpa using z_is _ mP_fP hd _ hh
        have hs := jk_same ho1 ho2 hz1 hz2 (by rw [← ku1, ← ku2, ← khd]; exact h0)
        rw [← ks1, ← ks2, ← krr] at hs
        cases hr : (rr % mP.M == 0)
        case true =>
          have hr0 : kc rr = 0 := by simpa using z_is _ mP_fP rr _ hr
          rw [hh, hr] at hcal
          refine ⟨DX, DY, DZ, ?_, fun gc gp bx by_ wx hcv hpm => hcal gc gp bx by_ wx hcv hpm⟩
          have e := hs.1 hr0
          unfold jN at *
          rw [hX, e]
        case false =>
          have hr0 : kc rr ≠ 0 := by simpa using z_is _ mP_fP rr _ hr
          rw [hh, hr] at hcal
          refine ⟨1, 1, 0, ?_, fun gc gp bx by_ wx hcv hpm => hcal gc gp bx by_ wx hcv hpm⟩
          have e := hs.2 hr0
          unfold jN at *
          rw [e, jk_z kc_zero']
end Go.Proofs.Ytdbgddngapminaa

/- A field's laws, plainly: inverses, roots of squares. -/
namespace Mvq
open Mvp
/-- the prime of the points, of the scalars -/
structure FP (M : Nat) : Prop where
  prime : IsP M
  odd : M % 2 = 1
  big : 3 < M
theorem FP.inv {M a : Nat} (h : FP M) (ha : a < M) (h0 : a ≠ 0) : a * (a ^ (M - 2) % M) % M = 1 := by
  have hd : ¬ M ∣ a := fun hx => by have := Nat.le_of_dvd (by omega) hx; omega
  have hb := h.big
  rw [Nat.mul_mod_mod, Nat.mul_comm, ← Nat.pow_succ, show (M - 2).succ = M - 1 by omega]
  exact fermat h.prime hd
theorem FP.inv0 {M : Nat} (h : FP M) : 0 ^ (M - 2) % M = 0 := by
  have hb := h.big
  rw [Nat.zero_pow (by omega), Nat.zero_mod]
end Mvq

/- Points and their bytes, plain. -/
namespace Mvq
open Mvp
/-- a point's bytes -/
def wrPt : Pt → List UInt8
  | .O => List.replicate 33 0
  | .A x y => UInt8.ofNat (2 + y.val % 2) :: be32 x.val
theorem wrPt_len (p : Pt) : (wrPt p).length = 33 := by
  cases p
  · simp [wrPt]
  · simp [wrPt, be32_len]
/-- the number behind the first byte -/
def tlN (l : List UInt8) : Nat := beN (l.drop 1)
def crvN (n : Nat) : Nat := n * n * n + 7
/-- are bytes a point? -/
def rdOk (l : List UInt8) : Bool :=
  decide (l.length = 33) && (if l.getD 0 0 = 0 then tlN l == 0 else decide (l.getD 0 0 = 2 ∨ l.getD 0 0 = 3) && (decide (tlN l < fP) && rtOk fP (crvN (tlN l))))
/-- the point that bytes are -/
def rdPt (l : List UInt8) : Pt :=
  if l.getD 0 0 = 0 then .O else .A (kc (tlN l)) (if l.getD 0 0 = 3 then - kc (rtV fP (crvN (tlN l))) else kc (rtV fP (crvN (tlN l))))
theorem kc_sq_of {a x : Nat} (h : (a * a % fP == x % fP) = true) : kc a * kc a = kc x := by
  rw [kc_eq] at h
  rw [← kc_mul']; simpa using h
theorem rtV_sq {x : Nat} (h : rtOk fP x = true) : kc (rtV fP x) * kc (rtV fP x) = kc x := by
  unfold rtOk at h
  have h1 := kc_sq_of h
  unfold rtV
  split
  · rw [kc_negn, ← h1]; grind -lia -linarith
  · exact h1
theorem crvN_kc (n : Nat) : kc (crvN n) = kc n * kc n * kc n + 7 := by
  unfold crvN
  rw [kc_addn, kc_mul', kc_mul', show kc 7 = 7 by decide]
theorem at_on {n : Nat} (h : rtOk fP (crvN n) = true) : onC (.A (kc n) (kc (rtV fP (crvN n)))) := by
  show kc (rtV fP (crvN n)) * kc (rtV fP (crvN n)) = kc n * kc n * kc n + 7
  rw [rtV_sq h, crvN_kc]
theorem rd_on {l : List UInt8} (h : rdOk l = true) : onC (rdPt l) := by
  unfold rdOk at h
  unfold rdPt
  by_cases h0 : l.getD 0 0 = 0
  · rw [if_pos h0]; trivial
  · rw [if_neg h0]
    simp only [Bool.and_eq_true, decide_eq_true_eq, if_neg h0] at h
    obtain ⟨-, -, -, h4⟩ := h
    have := at_on h4
    by_cases h3 : l.getD 0 0 = 3
    · rw [if_pos h3]; exact pneg_on this
    · rw [if_neg h3]; exact this
theorem kc_val_mod (n : Nat) : (kc n).val = n % fP := by simp [kc, Fin.ofNat]
end Mvq

/- A program's points as values: what the curve's functions answer. -/
namespace Go.Proofs.Ytdbgddngapminaa
open Go.RowKit Go.Mv Mvp Mvq
/-- the base's coordinates -/
def gXn : Nat := 0x79BE667EF9DCBBAC55A06295CE870B07029BFCDB2DCE28D959F2815B16F81798
def gYn : Nat := 0x483ADA7726A3C4655DA4FBFC0E1108A8FD17B448A68554199C47D08FFB10D4B8
/-- a point of the program's -/
structure PT where
  x : Nat
  y : Nat
  z : Nat
  on : onC (jN x y z)
def PT.pt (s : PT) : Pt := jN s.x s.y s.z
def PT.L (s : PT) : List Value := ptL mP s.x s.y s.z
theorem PT.len (s : PT) : s.L.length = 12 := ptL_len _ _ _ _
theorem PT.one (s : PT) : ∀ v ∈ s.L, v.oneCell' = true := pt_one _ _ _
theorem PT.onP (s : PT) : onC s.pt := s.on
/-- the curve lies at a place -/
def Cv (w : World) (gc : Nat) : Prop := ∃ gp, Has w gc (crvL mP gp gXn gYn) 93 ∧ Has w gp (mdL mP) 134
theorem Cv.keep {w w' : World} {gc : Nat} (h : Cv w gc) (hf : Fr Nob w w') : Cv w' gc := by
  obtain ⟨gp, h1, h2⟩ := h
  exact ⟨gp, h1.keep hf id, h2.keep hf id⟩
theorem dblT_ex (s : PT) : ∃ t : PT, t.pt = padd s.pt s.pt ∧ ∀ gc wx, Cv wx gc → Calls Try.prog 97 #[.pointer (some ⟨gc, 0, none⟩), (.agg s.L.toArray)] wx fun e w' => e = .returned (.agg t.L.toArray) ∧ Fr Nob wx w' := by
  obtain ⟨X, Y, Z, h1, h2⟩ := double_is s.x s.y s.z s.on
  refine ⟨⟨X, Y, Z, by rw [h1]; exact padd_on s.on s.on⟩, h1, ?_⟩
  rintro gc wx ⟨gp, a, b⟩
  exact h2 gc gp gXn gYn wx a b
theorem addT_ex (s t : PT) : ∃ r : PT, r.pt = padd s.pt t.pt ∧ ∀ gc wx, Cv wx gc → Calls Try.prog 45 #[.pointer (some ⟨gc, 0, none⟩), (.agg s.L.toArray), (.agg t.L.toArray)] wx fun e w' => e = .returned (.agg r.L.toArray) ∧ Fr Nob wx w' := by
  obtain ⟨X, Y, Z, h1, h2⟩ := plus_is s.x s.y s.z t.x t.y t.z s.on t.on
  refine ⟨⟨X, Y, Z, by rw [h1]; exact padd_on s.on t.on⟩, h1, ?_⟩
  rintro gc wx ⟨gp, a, b⟩
  exact h2 gc gp gXn gYn wx a b
noncomputable def dblT (s : PT) : PT := Classical.choose (dblT_ex s)
noncomputable def addT (s t : PT) : PT := Classical.choose (addT_ex s t)
theorem dblT_pt (s : PT) : (dblT s).pt = padd s.pt s.pt := (Classical.choose_spec (dblT_ex s)).1
theorem addT_pt (s t : PT) : (addT s t).pt = padd s.pt t.pt := (Classical.choose_spec (addT_ex s t)).1
theorem double_c (s : PT) (gc : Nat) (w : World) (h : Cv w gc) : Calls Try.prog 97 #[.pointer (some ⟨gc, 0, none⟩), (.agg s.L.toArray)] w fun e w' => e = .returned (.agg (dblT s).L.toArray) ∧ Fr Nob w w' :=
  (Classical.choose_spec (dblT_ex s)).2 gc w h
theorem plus_c (s t : PT) (gc : Nat) (w : World) (h : Cv w gc) : Calls Try.prog 45 #[.pointer (some ⟨gc, 0, none⟩), (.agg s.L.toArray), (.agg t.L.toArray)] w fun e w' => e = .returned (.agg (addT s t).L.toArray) ∧ Fr Nob w w' :=
  (Classical.choose_spec (addT_ex s t)).2 gc w h
theorem kc_one2 : kc 1 = 1 := by decide
def noT : PT := ⟨1, 1, 0, by unfold jN; rw [jk_z (by decide)]; trivial⟩
theorem noT_pt : noT.pt = .O := by show jN 1 1 0 = .O; unfold jN; rw [jk_z (by decide)]
theorem nothing_c (gc : Nat) (w : World) (h : Cv w gc) : Calls Try.prog 88 #[.pointer (some ⟨gc, 0, none⟩)] w fun e w' => e = .returned (.agg noT.L.toArray) ∧ Fr Nob w w' := by
  obtain ⟨gp, a, b⟩ := h
  exact nothing_any mP gc gp gXn gYn w mP_ok a b
/-- a point of a first and a second coordinate -/
theorem jN_one (x y : Nat) : jN x y 1 = .A (kc x) (kc y) := by
  unfold jN
  refine jk_is (by decide) ?_ ?_
  · rw [kc_one2]; grind -lia -linarith
  · rw [kc_one2]; grind -lia -linarith
def affT (x y : Nat) (h : onC (.A (kc x) (kc y))) : PT := ⟨x, y, 1, by rw [jN_one]; exact h⟩
theorem affT_pt (x y : Nat) (h : onC (.A (kc x) (kc y))) : (affT x y h).pt = .A (kc x) (kc y) := jN_one x y
/-- nothing, as the program asks -/
def PT.isO (s : PT) : Bool := s.z % mP.M == 0
theorem PT.isO_t {s : PT} (h : s.isO = true) : s.pt = .O := by
  have hz : kc s.z = 0 := by simpa using z_is _ mP_fP s.z _ h
  exact jk_z hz
theorem PT.isO_f {s : PT} (h : s.isO = false) : kc s.z ≠ 0 := by simpa using z_is _ mP_fP s.z _ h
end Go.Proofs.Ytdbgddngapminaa

/- group: k256. -/
namespace Go.Mv
open Go.RowKit
section
variable {P : Program} {w w0 : World} {ops : Array Oper} {rest : List Oper} {o : Oper} {a : Act} {Q : Exit → Act → World → Prop} {S : Nat → Prop} {bl : List (Nat × List Value × TypeId)} {K : Act → World → Prop}
/-- a part of a block is stored -/
theorem wl_storeP (hst : St S w0 w bl) (i : Nat) {g : Nat} {L : List Value} {T : TypeId} (hb : bl[i]? = some (g, L, T)) {ty : TypeId} {x y : Operand} (hgd : o.guard = none) (ho : o.op = .store ty x y) {p : Nat} (hx : a.eval x = .pointer (some ⟨g, p, none⟩)) {cs : List Value} (hy : a.eval y = .agg cs.toArray)
    (L' : List Value) (hL : splice L p cs = L') (hn : p + cs.length ≤ L.length) (hi : (P.info? ty).map (·.size) = some cs.length) (h1 : ∀ v ∈ cs, v.oneCell' = true)
    (h : ∀ w', St S w0 w' (bl.set i (g, L', T)) → wpList P ops Q rest (a.put o.dst undef) w') : wpList P ops Q (o :: rest) a w :=
  wl_storeA hgd ho hx hy (hst.at i hb) hn hi h1 fun w' hg hf _ => h w' (hst.put i hb hf (by rwa [hL] at hg))
theorem wp_storeP (hst : St S w0 w bl) (i : Nat) {g : Nat} {L : List Value} {T : TypeId} (hb : bl[i]? = some (g, L, T)) {ty : TypeId} {x y : Operand} (ho : o.op = .store ty x y) {p : Nat} (hx : a.eval x = .pointer (some ⟨g, p, none⟩)) {cs : List Value} (hy : a.eval y = .agg cs.toArray)
    (L' : List Value) (hL : splice L p cs = L') (hn : p + cs.length ≤ L.length) (hi : (P.info? ty).map (·.size) = some cs.length) (h1 : ∀ v ∈ cs, v.oneCell' = true)
    (h : ∀ w', St S w0 w' (bl.set i (g, L', T)) → K (a.put o.dst undef) w') : o.wp P a w K Q := by
  obtain ⟨k1, k2, _⟩ := Has.setCells cs p L w (hst.at i hb) hn
  rw [hL] at k1
  exact wp_store_mid ty x y ho g p cs.toArray hx hy (by simpa using (hst.at i hb).there p cs.length hn) (by simpa using hi) (all_oneCell_toArray h1) (by simpa using h _ (hst.put i hb k2 k1))
theorem splice_end (A B C : List Value) (n : Nat) (hA : A.length = n) (hC : C.length = B.length) : splice (A ++ B) n C = A ++ C := by
  unfold splice
  subst hA
  rw [List.take_left, List.drop_append, List.drop_of_length_le (by omega), List.drop_of_length_le (by omega)]
  simp
theorem splice_mid (A B D C : List Value) (n : Nat) (hA : A.length = n) (hC : C.length = B.length) : splice (A ++ (B ++ D)) n C = A ++ (C ++ D) := by
  unfold splice
  subst hA
  rw [List.take_left, List.drop_append, List.drop_of_length_le (by omega), List.nil_append, show A.length + C.length - A.length = B.length by omega, List.drop_left]
end
end Go.Mv
namespace Go.Proofs.Ytdbgddngapminaa
open Go.RowKit Go.Mv Mvp Mvq
set_option maxHeartbeats 2000000 in
set_option maxRecDepth 100000 in
theorem OfI (m : Md) (hk : KindOf 0 m) (w : World) : Calls Try.prog 83 #[.int .i64 0] w fun e w' => ∃ g, e = .returned (.tuple #[.pointer (some ⟨g, 0, none⟩), .bool true]) ∧ w.heap.size ≤ g ∧ Has w' g (mdL m) 134 ∧ Fr Nob w w' := by
  cases hk
  go_enter Try.func83, Try.ntmps83
  go_wp2
  go_ret2
  exact ⟨_, rfl, Nat.le_refl _, by rw [← cells_mP]; exact Has.new w _ _, (Fr.refl Nob w).alloc _⟩
theorem built_gX : Try.prog.built 82 [(0, .int .u64 6481385041966929816), (1, .int .u64 188021827762530521), (2, .int .u64 6170039885052185351), (3, .int .u64 8772561819708210092)] = some (cw 4 gXn).toArray := by kernel_rfl
theorem built_gY : Try.prog.built 82 [(0, .int .u64 11261198710074299576), (1, .int .u64 18237243440184513561), (2, .int .u64 6747795201694173352), (3, .int .u64 5204712524664259685)] = some (cw 4 gYn).toArray := by kernel_rfl
theorem gX_lt : gXn < B64 ^ 4 := by decide
theorem gY_lt : gYn < B64 ^ 4 := by decide
theorem built_crv (p : Option Addr) (a : Nat) : Try.prog.built 93 [(0, .pointer p), (1, i4 a)] = some ([Value.pointer p] ++ (cw 4 a ++ (cw 4 0 ++ (cw 4 0 ++ cw 4 0)))).toArray := by kernel_rfl
theorem crv_splice (p : Value) (a b c d : Nat) : splice ([p] ++ (cw 4 a ++ (cw 4 0 ++ (cw 4 0 ++ cw 4 0)))) 5 (cw 4 b ++ (cw 4 c ++ cw 4 d)) = [p] ++ (cw 4 a ++ (cw 4 b ++ (cw 4 c ++ cw 4 d))) := by
  have h := splice_end ([p] ++ cw 4 a) (cw 4 0 ++ (cw 4 0 ++ cw 4 0)) (cw 4 b ++ (cw 4 c ++ cw 4 d)) 5 (by rw [List.length_append, cw_len]; rfl) (by first | (simp only [cw_len]; done) | (simp only [List.length_append, cw_len]; done))
  rw [List.append_assoc, List.append_assoc] at h
  exact h
theorem crv_len (p : Value) (a b c d : Nat) : ([p] ++ (cw 4 a ++ (cw 4 b ++ (cw 4 c ++ cw 4 d)))).length = 17 := by simp only [List.length_append, cw_len]; rfl
attribute [local irreducible] limbs lw mix cw cSub cAdd cMul foldC valFrom beN laid be32 powm montT mstep elN mdL numB rtN rtV rtOk gXn gYn
set_option maxHeartbeats 16000000 in
set_option maxRecDepth 1000000 in
theorem k256_any (m : Md) (hk : KindOf 0 m) (w : World) :
    Calls Try.prog 41 #[] w fun e w' => ∃ gc, e = .returned (.pointer (some ⟨gc, 0, none⟩)) ∧ w.heap.size ≤ gc ∧ (∃ gp, Has w' gc (crvL m gp gXn gYn) 93 ∧ Has w' gp (mdL m) 134) ∧ Fr Nob w w' := by
  have HK := Lib.hid hk
  have HOK := Lib.hid hk.ok
  have HGX := Lib.hid gX_lt
  have HGY := Lib.hid gY_lt
  clear hk
  have st0 := St.start Nob w
  go_enter Try.func41, Try.ntmps41
  go_wp2_with fail
  refine (OfI m HK.out _).mono ?_
  rintro e' w1 ⟨gp, rfl, hle, hm, hf1⟩
  have st1 : St Nob w w1 [(gp, mdL m, 134)] := st0.new hf1 hm hle
  clear st0 hf1 hm hle
  go_wp2_with fail
  refine (MSmall_any m gp _ HOK.out (st1.at 0 rfl) 7 (by decide)).mono ?_
  rintro e' w2 ⟨rfl, hf2⟩
  have st2 := st1.keep hf2
  clear st1 hf2
  go_wp2_with (with_reducible refine wl_stop (o := ⟨some 13, _, _, _, _, _⟩) ?_)
  refine wl_buildL rfl rfl _ (built_crv _ _) ?_
  go_wp2_with (with_reducible refine wl_stop (o := ⟨some 14, _, _, _, _, _⟩) ?_)
  refine wl_boxS st2 rfl rfl rfl ([Value.pointer (some ⟨gp, 0, none⟩)] ++ (cw 4 (elN m 7) ++ (cw 4 0 ++ (cw 4 0 ++ cw 4 0)))) rfl ?_
  intro gc w3 st3
  clear st2
  go_wp2_with (with_reducible refine wl_stop (o := ⟨some 16, _, _, _, _, _⟩) ?_)
  refine wl_buildL rfl rfl _ built_gX ?_
  go_wp2_with fail
  refine (MTo_any m gp _ HOK.out (st3.at 0 rfl) gXn HGX.out).mono ?_
  rintro e' w4 ⟨rfl, hf4⟩
  have st4 := st3.keep hf4
  clear st3 hf4
  go_wp2_with (with_reducible refine wl_stop (o := ⟨some 19, _, _, _, _, _⟩) ?_)
  refine wl_buildL rfl rfl _ built_gY ?_
  go_wp2_with fail
  refine (MTo_any m gp _ HOK.out (st4.at 0 rfl) gYn HGY.out).mono ?_
  rintro e' w5 ⟨rfl, hf5⟩
  have st5 := st4.keep hf5
  clear st4 hf5
  go_wp2_with (with_reducible refine wl_stop (o := ⟨some 4, _, _, _, _, _⟩) ?_)
  refine wl_allocS st5 rfl rfl (z := .agg #[.int .u64 0, .int .u64 0, .int .u64 0, .int .u64 0]) (by kernel_rfl) (cw 4 0) (by rw [cw_zero]; rfl) ?_
  intro g4 w6 st6
  clear st5
  go_wp2_with (with_reducible refine wl_stop (o := ⟨some 5, _, _, _, _, _⟩) ?_)
  refine wl_allocS st6 rfl rfl (z := .agg #[.int .u64 0, .int .u64 0, .int .u64 0, .int .u64 0]) (by kernel_rfl) (cw 4 0) (by rw [cw_zero]; rfl) ?_
  intro g5 w7 st7
  clear st6
  go_wp2_with (with_reducible refine wl_stop (o := ⟨none, _, _, _, _, _⟩) ?_)
  refine wl_storeS st7 2 rfl rfl rfl rfl rfl (by first | (simp only [cw_len]; done) | (simp only [List.length_append, cw_len]; done)) (by first | (rw [cw_len]; kernel_rfl) | (simp only [List.length_append, cw_len]; kernel_rfl)) (cw_one _ _) ?_
  intro w8 st8
  clear st7
  go_wp2_with (with_reducible refine wl_stop (o := ⟨none, _, _, _, _, _⟩) ?_)
  refine wl_storeS st8 3 rfl rfl rfl rfl rfl (by first | (simp only [cw_len]; done) | (simp only [List.length_append, cw_len]; done)) (by first | (rw [cw_len]; kernel_rfl) | (simp only [List.length_append, cw_len]; kernel_rfl)) (cw_one _ _) ?_
  intro w9 st9
  clear st8
  go_wp2_with fail
  refine wp_region_noPanic ?_
  refine wp_region_plan (fun wx => St Nob w wx [(gp, mdL m, 134), (gc, [Value.pointer (some ⟨gp, 0, none⟩)] ++ (cw 4 (elN m 7) ++ (cw 4 0 ++ (cw 4 0 ++ cw 4 0))), 93), (g4, cw 4 (elN m gXn), 70), (g5, cw 4 (elN m gYn), 70)]) 11 (.w 0 (.t 1 (.t 2 (.w 3 (.w 4 (.w 5 (.t 6 (.r 7 (.w 8 (.w 9 (.w 10 (.m 11 .nil)))))))))))) (by kernel_rfl) (by kernel_rfl) st9.drew (fun _ _ _ _ _ h => h) ?_
  have hd9 := st9.drew
  clear st9
  refine plan_w (v := ?_) rfl rfl (fun wx => ?_) ?_
  rotate_left 1
  · (go_simp; with_reducible rfl)
  try simp only [Act.put, List.setIfInBounds_toArray, List.set_cons_zero, List.set_cons_succ]
  refine plan_arr rfl rfl rfl rfl (cw 4 (elN m gXn)) (fun wx hS => St.rangeL hS 2 rfl 0 _ (by rw [List.drop_zero, List.take_of_length_le (Nat.le_refl _)])) Try.underlying70 rfl (by first | (rw [cw_len]; kernel_rfl) | (simp only [List.length_append, cw_len]; kernel_rfl)) ?_
  try simp only [Act.put, List.setIfInBounds_toArray, List.set_cons_zero, List.set_cons_succ]
  refine plan_arr rfl rfl rfl rfl (cw 4 (elN m gYn)) (fun wx hS => St.rangeL hS 3 rfl 0 _ (by rw [List.drop_zero, List.take_of_length_le (Nat.le_refl _)])) Try.underlying70 rfl (by first | (rw [cw_len]; kernel_rfl) | (simp only [List.length_append, cw_len]; kernel_rfl)) ?_
  try simp only [Act.put, List.setIfInBounds_toArray, List.set_cons_zero, List.set_cons_succ]
  refine plan_w (v := ?_) rfl rfl (fun wx => ?_) ?_
  rotate_left 1
  · (go_simp; with_reducible rfl)
  try simp only [Act.put, List.setIfInBounds_toArray, List.set_cons_zero, List.set_cons_succ]
  refine plan_w (v := ?_) rfl rfl (fun wx => ?_) ?_
  rotate_left 1
  · (go_simp; with_reducible rfl)
  try simp only [Act.put, List.setIfInBounds_toArray, List.set_cons_zero, List.set_cons_succ]
  refine plan_w (v := ?_) rfl rfl (fun wx => ?_) ?_
  rotate_left 1
  · (go_simp; with_reducible rfl)
  try simp only [Act.put, List.setIfInBounds_toArray, List.set_cons_zero, List.set_cons_succ]
  refine plan_t (v := ?_) rfl rfl (fun wx hS => ?_) ?_
  rotate_left 1
  · (have hc := (St.at hS 1 rfl).cell (i := 0) rfl; clear hS; go_simp; with_reducible rfl)
  try simp only [Act.put, List.setIfInBounds_toArray, List.set_cons_zero, List.set_cons_succ]
  refine plan_r rfl rfl ?_
  go_simp
  refine (MOne_any m gp _ HOK.out (hd9.at 0 rfl)).mono ?_
  rintro e' w10 ⟨rfl, hf10⟩
  have st10 := hd9.keep hf10
  clear hf10
  clear hd9
  refine ⟨st10, ?_⟩
  try simp only [Act.put, List.setIfInBounds_toArray, List.set_cons_zero, List.set_cons_succ]
  refine plan_w rfl rfl (exec_build rfl _ (built_pt _ _ _)) ?_
  try simp only [Act.put, List.setIfInBounds_toArray, List.set_cons_zero, List.set_cons_succ]
  refine plan_w (v := ?_) rfl rfl (fun wx => ?_) ?_
  rotate_left 1
  · (go_simp; with_reducible rfl)
  try simp only [Act.put, List.setIfInBounds_toArray, List.set_cons_zero, List.set_cons_succ]
  refine plan_w (v := ?_) rfl rfl (fun wx => ?_) ?_
  rotate_left 1
  · (go_simp; with_reducible rfl)
  try simp only [Act.put, List.setIfInBounds_toArray, List.set_cons_zero, List.set_cons_succ]
  refine plan_m rfl rfl ?_
  refine wp_storeP st10 1 rfl rfl rfl rfl _ (crv_splice _ _ _ _ _) (by rw [crv_len]; simp only [List.length_append, cw_len]; decide) (by first | (rw [cw_len]; kernel_rfl) | (simp only [List.length_append, cw_len]; kernel_rfl)) (pt_one _ _ _) ?_
  intro w11 st11
  have st11 : St Nob w w11 [(gp, mdL m, 134), (gc, [Value.pointer (some ⟨gp, 0, none⟩)] ++ (cw 4 (elN m 7) ++ (cw 4 (elN m gXn) ++ (cw 4 (elN m gYn) ++ cw 4 (elN m 1)))), 93), (g4, cw 4 (elN m gXn), 70), (g5, cw 4 (elN m gYn), 70)] := st11
  clear st10
  try simp only [Act.put]
  refine plan_end ?_
  refine NoPanic.normal ?_
  have hown := st11.own _ (List.mem_of_getElem? (i := 1) rfl)
  have hc := st11.at 1 rfl
  have hm := st11.at 0 rfl
  have hfr := st11.fr
  clear st11
  have hge := hown.resolve_right (fun h => h)
  clear hown
  have HGE := Lib.hid hge
  clear hge
  go_wp2_with fail
  go_ret
  exact ⟨gc, rfl, HGE.out, ⟨gp, hc, hm⟩, hfr⟩

theorem k256_c (w : World) : Calls Try.prog 41 #[] w fun e w' => ∃ gc, e = .returned (.pointer (some ⟨gc, 0, none⟩)) ∧ w.heap.size ≤ gc ∧ Cv w' gc ∧ Fr Nob w w' := k256_any mP .zero w
end Go.Proofs.Ytdbgddngapminaa

/- group: multiples of a point. -/
namespace Go.Mv
open Go.RowKit
/-- rows of the same length -/
theorem rows_len (f : Nat → List Value) (k : Nat) (hl : ∀ i, (f i).length = k) : ∀ n, ((List.range n).flatMap f).length = k * n
  | 0 => by simp
  | n + 1 => by rw [List.range_succ, List.flatMap_append, List.length_append, rows_len f k hl n]; simp [hl, Nat.mul_succ]
theorem rows_split (f : Nat → List Value) (n i : Nat) (h : i < n) : (List.range n).flatMap f = (List.range i).flatMap f ++ (f i ++ (List.range' (i + 1) (n - i - 1)).flatMap f) := by
  have e : List.range n = List.range i ++ i :: List.range' (i + 1) (n - i - 1) := by
    rw [List.range_eq_range', List.range_eq_range']
    have h1 : n = i + (n - i - 1 + 1) := by omega
    conv => lhs; rw [h1]
    rw [← List.range'_append_1, List.range'_succ]
    simp
  rw [e]; simp
theorem rows_get (f : Nat → List Value) (k : Nat) (hl : ∀ i, (f i).length = k) (n i : Nat) (h : i < n) : (((List.range n).flatMap f).drop (i * k)).take (f i).length = f i := by
  rw [rows_split f n i h, List.drop_append_of_le_length (by rw [rows_len f k hl, Nat.mul_comm]; omega), List.drop_of_length_le (by rw [rows_len f k hl, Nat.mul_comm]; omega), List.nil_append, List.take_left]
theorem rows_set (f f' : Nat → List Value) (k : Nat) (hl : ∀ i, (f i).length = k) (n i : Nat) (h : i < n) (hi : (f' i).length = k) (hv : ∀ j, j ≠ i → f' j = f j) : splice ((List.range n).flatMap f) (i * k) (f' i) = (List.range n).flatMap f' := by
  rw [rows_split f n i h, rows_split f' n i h]
  have e1 : (List.range i).flatMap f' = (List.range i).flatMap f := by
    rw [List.flatMap_def, List.flatMap_def]
    congr 1
    exact List.map_congr_left fun j hj => hv j (by have := List.mem_range.1 hj; omega)
  have e2 : (List.range' (i + 1) (n - i - 1)).flatMap f' = (List.range' (i + 1) (n - i - 1)).flatMap f := by
    rw [List.flatMap_def, List.flatMap_def]
    congr 1
    exact List.map_congr_left fun j hj => hv j (by have := List.mem_range'_1.1 hj; omega)
  rw [e1, e2]
  exact splice_mid _ _ _ _ _ (by rw [rows_len f k hl, Nat.mul_comm]) (by rw [hi, hl])
end Go.Mv
namespace Go.Proofs.Ytdbgddngapminaa
open Go.RowKit Go.Mv Mvp Mvq
/-- 0 to 15 times a point -/
noncomputable def mulT (s : PT) : Nat → PT
  | 0 => noT
  | i + 1 => addT (mulT s i) s
theorem mulT_pt (s : PT) : ∀ i, (mulT s i).pt = pmul i s.pt
  | 0 => noT_pt
  | i + 1 => by
    show (addT (mulT s i) s).pt = padd (pmul i s.pt) s.pt
    rw [addT_pt, mulT_pt s i]
theorem mulT_c (s : PT) (k gc : Nat) (w : World) (h : Cv w gc) : Calls Try.prog 45 #[.pointer (some ⟨gc, 0, none⟩), (.agg (mulT s k).L.toArray), (.agg s.L.toArray)] w fun e w' => e = .returned (.agg (mulT s (k + 1)).L.toArray) ∧ Fr Nob w w' := plus_c (mulT s k) s gc w h
/-- the table, so far as it is filled -/
noncomputable def tbR (s : PT) (j i : Nat) : List Value := if i < j then (mulT s i).L else cw 12 0
noncomputable def tbL (s : PT) (j : Nat) : List Value := (List.range 16).flatMap (tbR s j)
theorem tbR_len (s : PT) (j i : Nat) : (tbR s j i).length = 12 := by
  unfold tbR; split
  · exact PT.len _
  · exact cw_len _ _
theorem tbL_len (s : PT) (j : Nat) : (tbL s j).length = 192 := rows_len _ 12 (tbR_len s j) 16
theorem tbL_one (s : PT) (j : Nat) : ∀ v ∈ tbL s j, v.oneCell' = true := by
  intro v hv
  unfold tbL at hv
  obtain ⟨i, -, hi⟩ := List.mem_flatMap.1 hv
  unfold tbR at hi
  split at hi
  · exact PT.one _ v hi
  · exact cw_one _ _ v hi
set_option maxRecDepth 100000 in
theorem tbL_zero (s : PT) : (Value.agg (List.replicate 192 (Value.int .u64 0)).toArray).cells.toList = tbL s 0 := by
  unfold tbL tbR
  simp only [Nat.not_lt_zero, if_false, cw_zero]
  rfl
theorem tbL_set (s : PT) (j : Nat) (h : j < 16) : splice (tbL s j) (j * 12) (mulT s j).L = tbL s (j + 1) := by
  have h0 := rows_set (tbR s j) (tbR s (j + 1)) 12 (tbR_len s j) 16 j h (tbR_len s _ _) (fun i hi => by unfold tbR; by_cases hc : i < j; rw [if_pos hc, if_pos (by omega)]; rw [if_neg hc, if_neg (by omega)])
  have e : tbR s (j + 1) j = (mulT s j).L := by unfold tbR; rw [if_pos (by omega)]
  rw [e] at h0
  exact h0
theorem tbL_set0 (s : PT) : splice (tbL s 0) 0 noT.L = tbL s (0 + 1) := tbL_set s 0 (by omega)
theorem tbL_get (s : PT) (j i : Nat) (h : i < j) (hj : j ≤ 16) : ((tbL s j).drop (i * 12)).take (mulT s i).L.length = (mulT s i).L := by
  have h0 := rows_get (tbR s j) 12 (tbR_len s j) 16 i (by omega)
  have e : tbR s j i = (mulT s i).L := by unfold tbR; rw [if_pos h]
  rw [e] at h0
  exact h0
theorem info_mul : (Try.prog.info? 96).map (·.zero) = some (some (.agg (List.replicate 192 (.int .u64 0)).toArray)) := by kernel_rfl
attribute [local irreducible] limbs lw mix cw cSub cAdd cMul foldC valFrom beN laid be32 powm montT mstep elN mdL numB rtN rtV rtOk gXn gYn PT.L addT dblT mulT tbL
set_option maxHeartbeats 16000000 in
set_option maxRecDepth 1000000 in
theorem multiples_c (s : PT) (gc : Nat) (w : World) (h : Cv w gc) :
    Calls Try.prog 63 #[.pointer (some ⟨gc, 0, none⟩), .agg s.L.toArray] w fun e w' => e = .returned (.agg (tbL s 16).toArray) ∧ Fr Nob w w' := by
  have HCV := Lib.hid h
  clear h
  have st0 := St.start Nob w
  go_enter Try.func63, Try.ntmps63
  go_wp2_with (with_reducible refine wl_stop (o := ⟨some 3, _, _, _, _, _⟩) ?_)
  refine wl_boxS st0 rfl rfl rfl (s.L) rfl ?_
  intro g3 w1 st1
  clear st0
  go_wp2_with (with_reducible refine wl_stop (o := ⟨some 4, _, _, _, _, _⟩) ?_)
  refine wl_allocS st1 rfl rfl info_mul (tbL s 0) (tbL_zero s) ?_
  intro g4 w2 st2
  clear st1
  go_wp2_with fail
  refine (nothing_c gc _ (HCV.out.keep st2.fr)).mono ?_
  rintro e' w3 ⟨rfl, hf3⟩
  have st3 := st2.keep hf3
  clear st2 hf3
  go_wp2_with (with_reducible refine wl_stop (o := ⟨none, _, _, _, _, _⟩) ?_)
  refine wl_storeP st3 1 rfl rfl rfl rfl rfl (tbL s (0 + 1)) (tbL_set0 s) (by rw [tbL_len, PT.len]; omega) (by first | (rw [cw_len]; kernel_rfl) | (simp only [PT.len]; kernel_rfl)) (PT.one _) ?_
  intro w4 st4
  have st4 : St Nob w w4 [(g3, s.L, 72), (g4, tbL s (0 + 1), 96)] := st4
  clear st3
  go_wp2
  go_loopw [5] (fun i wr => ∃ k : Nat, k ≤ 15 ∧ i = .int .i64 ((k : Int) + 1) ∧ St Nob w wr [(g3, s.L, 72), (g4, tbL s (k + 1), 96)]) (fun i _ => (16 - intOf i).toNat)
  case atStart => exact ⟨0, by omega, rfl, st4⟩
  case round =>
    obtain ⟨k, hk, rfl, st⟩ := hrel
    clear st4
    rcases Nat.lt_or_ge k 15 with hk2 | hk2
    · have hc : ((k : Int) + 1 < 16) := by omega
      have hlt : (k : Int) + 1 < 9223372036854775808 := by omega
      have hl2 : (k : Int) < 9223372036854775808 := by omega
      have hl3 : (k : Int) < 16 := by omega
      have hl4 : IntKind.i64.wrap (k : Int) = (k : Int) := IntWalk.i64_in _ (by omega)
      have hl5 : (0 : Int) ≤ (k : Int) := by omega
      have hl6 : (0 : Int) ≤ (k : Int) + 1 := by omega
      go_wp2_with fail
      refine wp_region_noPanic ?_
      refine wp_region_plan (fun wx => St Nob w wx [(g3, s.L, 72), (g4, tbL s (k + 1), 96)]) 9 (.w 0 (.w 1 (.w 2 (.w 3 (.w 4 (.t 5 (.t 6 (.r 7 (.w 8 (.m 9 .nil)))))))))) (by kernel_rfl) (by kernel_rfl) st.drew (fun _ _ _ _ _ h => h) ?_
      have hd4 := st.drew
      clear st
      refine plan_w (v := ?_) rfl rfl (fun wx => ?_) ?_
      rotate_left 1
      · (go_simp; with_reducible rfl)
      try simp only [Act.put, List.setIfInBounds_toArray, List.set_cons_zero, List.set_cons_succ]
      refine plan_w (v := ?_) rfl rfl (fun wx => ?_) ?_
      rotate_left 1
      · (go_simp; with_reducible rfl)
      try simp only [Act.put, List.setIfInBounds_toArray, List.set_cons_zero, List.set_cons_succ]
      refine plan_w (v := ?_) rfl rfl (fun wx => ?_) ?_
      rotate_left 1
      · (go_simp; with_reducible rfl)
      try simp only [Act.put, List.setIfInBounds_toArray, List.set_cons_zero, List.set_cons_succ]
      refine plan_w (v := ?_) rfl rfl (fun wx => ?_) ?_
      rotate_left 1
      · (go_simp; with_reducible rfl)
      try simp only [Act.put, List.setIfInBounds_toArray, List.set_cons_zero, List.set_cons_succ]
      refine plan_w (v := ?_) rfl rfl (fun wx => ?_) ?_
      rotate_left 1
      · (go_simp; with_reducible rfl)
      try simp only [Act.put, List.setIfInBounds_toArray, List.set_cons_zero, List.set_cons_succ]
      refine plan_arr rfl rfl rfl rfl ((mulT s k).L) (fun wx hS => St.rangeL hS 1 rfl (k * 12) _ (tbL_get s (k + 1) k (by omega) (by omega))) Try.underlying72 rfl (by first | (rw [cw_len]; kernel_rfl) | (simp only [PT.len]; kernel_rfl)) ?_
      try simp only [Act.put, List.setIfInBounds_toArray, List.set_cons_zero, List.set_cons_succ]
      refine plan_arr rfl rfl rfl rfl (s.L) (fun wx hS => St.rangeL hS 0 rfl 0 _ (by rw [List.drop_zero, List.take_of_length_le (Nat.le_refl _)])) Try.underlying72 rfl (by first | (rw [cw_len]; kernel_rfl) | (simp only [PT.len]; kernel_rfl)) ?_
      try simp only [Act.put, List.setIfInBounds_toArray, List.set_cons_zero, List.set_cons_succ]
      refine plan_r rfl rfl ?_
      go_simp
      refine (mulT_c s k gc _ (HCV.out.keep hd4.fr)).mono ?_
      rintro e' w5 ⟨rfl, hf5⟩
      have st5 := hd4.keep hf5
      clear hf5
      clear hd4
      refine ⟨st5, ?_⟩
      try simp only [Act.put, List.setIfInBounds_toArray, List.set_cons_zero, List.set_cons_succ]
      refine plan_w (v := ?_) rfl rfl (fun wx => ?_) ?_
      rotate_left 1
      · (go_simp; with_reducible rfl)
      try simp only [Act.put, List.setIfInBounds_toArray, List.set_cons_zero, List.set_cons_succ]
      refine plan_m rfl rfl ?_
      refine wp_storeP st5 1 rfl rfl rfl rfl (tbL s ((k + 1) + 1)) (tbL_set s (k + 1) (by omega)) (by rw [tbL_len, PT.len]; omega) (by first | (rw [cw_len]; kernel_rfl) | (simp only [PT.len]; kernel_rfl)) (PT.one _) ?_
      intro w6 st6
      have st6 : St Nob w w6 [(g3, s.L, 72), (g4, tbL s ((k + 1) + 1), 96)] := st6
      clear st5
      try simp only [Act.put]
      refine plan_end ?_
      refine NoPanic.normal ?_
      go_wp2
      go_roundw
      case rel => exact ⟨k + 1, by omega, by simp, st6⟩
      case measure => simp [intOf]; omega
    · have hk3 : k = 15 := by omega
      subst hk3
      have hc : ¬ (((15 : Nat) : Int) + 1 < 16) := by omega
      go_wp2_with (with_reducible refine wl_stop (o := ⟨some 22, _, _, _, _, _⟩) ?_)
      refine wl_loadSt st 1 rfl rfl rfl Try.underlying96 rfl rfl (by first | (rw [cw_len]; kernel_rfl) | (simp only [tbL_len]; kernel_rfl)) ?_
      go_wp2_with (with_reducible refine wl_stop (o := ⟨none, _, _, _, _, _⟩) ?_)
      refine wl_storeS st 1 rfl rfl rfl rfl rfl (by first | (simp only [cw_len]; done) | (simp only [List.length_append, cw_len, PT.len, tbL_len]; done)) (by first | (rw [cw_len]; kernel_rfl) | (simp only [tbL_len]; kernel_rfl)) (tbL_one _ _) ?_
      intro w5 st5
      clear st
      have hr := st5.at 1 rfl
      have hfr := st5.fr
      clear st5
      go_wp2_with fail
      exact bodyPost_ret (results_arr rfl rfl hr Try.underlying96 (by first | (rw [cw_len]; kernel_rfl) | (simp only [tbL_len]; kernel_rfl))) rfl ⟨rfl, hfr⟩
end Go.Proofs.Ytdbgddngapminaa
