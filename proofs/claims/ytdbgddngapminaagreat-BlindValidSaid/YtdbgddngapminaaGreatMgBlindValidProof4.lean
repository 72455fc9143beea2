/- Chord and tangent; the program's sum and double (X / Z^2, Y / Z^3); the reference's (X / Z, Y / Z); multiples; The reference's sums (X / Z, Y / Z); numbers as members of the field; sums of multiples, digit by digit; A program's point: what it stands for; its double as the group's; group: nothing, plus; group: plus, of two points that are not nothing; A program's sum of two points as the group's; A field's laws, plainly: inverses, roots of squares; Points and their bytes, plain; A program's points as values: what the curve's functions answer; group: k256; group: multiples of a point; group: digit, sum, times; group: times, bytes; group: bytes; A plan for a region whose operations have guards. -/
import Derived.Test.YtdbgddngapminaaGreatMgBlindValidProof3
import Derived.Test.YtdbgddngapminaaGreatMgBlindValidProof2
import Derived.Test.YtdbgddngapminaaGreatMgBlindValidProof1
namespace Mvq
/-- the chord -/
theorem chord4 {x1 y1 x2 y2 : K} (h1 : y1 * y1 = x1 * x1 * x1 + 7) (h2 : y2 * y2 = x2 * x2 * x2 + 7) : (x1*x2*(x1+x2) + 14 - 2*y1*y2) = (y2 - y1) * (y2 - y1) - (x1 + x2) * ((x2 - x1) * (x2 - x1)) := by
  grind -lia -linarith
theorem chordY {x1 y1 x2 y2 : K} (h1 : y1 * y1 = x1 * x1 * x1 + 7) (h2 : y2 * y2 = x2 * x2 * x2 + 7) : cY x1 y1 1 x2 y2 1 * ((x2 - x1) * (x2 - x1) * (x2 - x1)) = ((y2 - y1) * (x1 * ((x2 - x1) * (x2 - x1)) - (x1*x2*(x1+x2) + 14 - 2*y1*y2)) - y1 * ((x2 - x1) * (x2 - x1) * (x2 - x1))) * cZ x1 y1 1 x2 y2 1 := by
  have eY : cY x1 y1 1 x2 y2 1 = x1*x1*x1*x2*x2*x2 + 7*x1*x1*x1+7*x2*x2*x2 - 392 + 63*x1*x1*x2+63*x1*x2*x2 := by rw [cY_eq]; grind -lia -linarith
  have eZ : cZ x1 y1 1 x2 y2 1 = x1*x1*x1*y2 + 28*y2+28*y1+x2*x2*x2*y1+3*x1*x1*x2*y2+3*x1*x2*x2*y1 := by rw [cZ_eq]; grind -lia -linarith
  rw [eY, eZ]
  clear eY eZ
  grind -lia -linarith
theorem padd_chord {x1 y1 x2 y2 u : K} (h1 : y1 * y1 = x1 * x1 * x1 + 7) (h2 : y2 * y2 = x2 * x2 * x2 + 7) (hd : (x2 - x1) * u = 1) :
    padd (.A x1 y1) (.A x2 y2) = .A (((y2 - y1) * u) * ((y2 - y1) * u) - x1 - x2) (((y2 - y1) * u) * (x1 - (((y2 - y1) * u) * ((y2 - y1) * u) - x1 - x2)) - y1) := by
  have hz : cZ x1 y1 1 x2 y2 1 ≠ 0 := fun h => by
    obtain ⟨rfl, -⟩ := z_zero h1 h2 h
    have : (0 : K) = 1 := by rw [← hd]; grind -lia -linarith
    exact absurd this (by decide)
  show nm _ _ _ = _
  have hd0 : x2 - x1 ≠ 0 := fun h => by
    rw [h] at hd
    have : (0 : K) = 1 := by rw [← hd]; grind -lia -linarith
    exact absurd this (by decide)
  have eX : cX x1 y1 1 x2 y2 1 * ((x2 - x1) * (x2 - x1)) = (x1*x2*(x1+x2) + 14 - 2*y1*y2) * cZ x1 y1 1 x2 y2 1 := by
    rw [cX_eq, cZ_eq]; grind -lia -linarith
  have e4 : (x1*x2*(x1+x2) + 14 - 2*y1*y2) = (y2 - y1) * (y2 - y1) - (x1 + x2) * ((x2 - x1) * (x2 - x1)) := chord4 h1 h2
  have eY := chordY h1 h2
  rw [e4] at eX eY
  unfold nm
  rw [if_neg hz]
  have hv := mul_kinv hz
  generalize kinv (cZ x1 y1 1 x2 y2 1) = v at *
  generalize cX x1 y1 1 x2 y2 1 = X at *
  generalize cY x1 y1 1 x2 y2 1 = Y at *
  generalize cZ x1 y1 1 x2 y2 1 = Z at *
  clear h1 h2 e4
  generalize hdd : x2 - x1 = d at *
  generalize y2 - y1 = n at *
  have hx2 : x2 = x1 + d := by rw [← hdd]; grind -lia -linarith
  subst hx2
  clear hdd
  congr 1
  · refine cancelK hd0 (cancelK hd0 (cancelK hz ?_)); grind -lia -linarith
  · refine cancelK hd0 (cancelK hd0 (cancelK hd0 (cancelK hz ?_))); grind -lia -linarith
/-- the tangent -/
theorem padd_tangent {x y u : K} (h : y * y = x * x * x + 7) (hd : (2 * y) * u = 1) :
    padd (.A x y) (.A x y) = .A ((3 * x * x * u) * (3 * x * x * u) - x - x) ((3 * x * x * u) * (x - ((3 * x * x * u) * (3 * x * x * u) - x - x)) - y) := by
  have hy := y_ne h
  have h2y : (2 : K) * y ≠ 0 := fun h => (mul_zero' h).elim two_ne hy
  have eZ : cZ x y 1 x y 1 = (2 * y) * (2 * y) * (2 * y) := by rw [cZ_eq]; grind -lia -linarith
  have eX : cX x y 1 x y 1 = (2 * y) * (9 * x * x * x * x - 2 * x * ((2 * y) * (2 * y))) := by rw [cX_eq]; grind -lia -linarith
  have eY : cY x y 1 x y 1 = 3 * x * x * (x * ((2 * y) * (2 * y)) - (9 * x * x * x * x - 2 * x * ((2 * y) * (2 * y)))) - y * ((2 * y) * (2 * y) * (2 * y)) := by rw [cY_eq]; grind -lia -linarith
  show nm _ _ _ = _
  have hz : cZ x y 1 x y 1 ≠ 0 := by
    rw [eZ]; exact fun h => (mul_zero' h).elim (fun h => (mul_zero' h).elim h2y h2y) h2y
  unfold nm
  rw [if_neg hz]
  have hv := mul_kinv hz
  generalize kinv (cZ x y 1 x y 1) = v at *
  rw [eX, eY]
  rw [eZ] at hv
  clear eX eY eZ hz h
  generalize h2 : 2 * y = t at *
  congr 1
  · refine cancelK h2y (cancelK h2y ?_); grind -lia -linarith
  · refine cancelK h2y (cancelK h2y (cancelK h2y ?_)); grind -lia -linarith
/-- a point as X / Z^2, Y / Z^3 -/
def jk (X Y Z : K) : Pt := if Z = 0 then .O else .A (X * (kinv Z * kinv Z)) (Y * (kinv Z * kinv Z * kinv Z))
theorem jk_nz {X Y Z : K} (hz : Z ≠ 0) : jk X Y Z = .A (X * (kinv Z * kinv Z)) (Y * (kinv Z * kinv Z * kinv Z)) := by unfold jk; rw [if_neg hz]
theorem jk_z {X Y Z : K} (hz : Z = 0) : jk X Y Z = .O := by unfold jk; rw [if_pos hz]
/-- what is told by a point is told by it -/
theorem jk_is {X Y Z x y : K} (hz : Z ≠ 0) (hx : X = x * (Z * Z)) (hy : Y = y * (Z * Z * Z)) : jk X Y Z = .A x y := by
  rw [jk_nz hz]
  have h1 := mul_kinv hz
  generalize kinv Z = u at *
  subst hx hy
  congr 1
  · grind -lia -linarith
  · grind -lia -linarith
theorem jk_form {X Y Z : K} (hz : Z ≠ 0) (h : onC (jk X Y Z)) : ∃ x y, jk X Y Z = .A x y ∧ y * y = x * x * x + 7 ∧ X = x * (Z * Z) ∧ Y = y * (Z * Z * Z) := by
  refine ⟨_, _, jk_nz hz, ?_, ?_, ?_⟩
  · rw [jk_nz hz] at h; exact h
  · have h1 := mul_kinv hz
    generalize kinv Z = u at *
    grind -lia -linarith
  · have h1 := mul_kinv hz
    generalize kinv Z = u at *
    grind -lia -linarith
theorem jk_double {X Y Z : K} (h : onC (jk X Y Z)) (hz : Z ≠ 0) (a b bb d e x' : K) (ha : a = X * X) (hb : b = Y * Y) (hbb : bb = b * b) (hd : d = 2 * ((X + b) * (X + b) - (a + bb))) (he : e = 3 * a) (hx : x' = e * e - (d + d)) :
    jk x' (e * (d - x') - 8 * bb) (2 * (Y * Z)) = padd (jk X Y Z) (jk X Y Z) := by
  obtain ⟨x, y, e0, hon, hX, hY⟩ := jk_form hz h
  have hy := y_ne hon
  have h2y : (2 : K) * y ≠ 0 := fun h => (mul_zero' h).elim two_ne hy
  have hu := mul_kinv h2y
  rw [e0, padd_tangent hon hu]
  generalize kinv (2 * y) = u at *
  have hz4 : Z * Z * (Z * Z) ≠ 0 := fun h => (mul_zero' h).elim (fun h => (mul_zero' h).elim hz hz) (fun h => (mul_zero' h).elim hz hz)
  have eZ : 2 * (Y * Z) = (2 * y) * (Z * Z * (Z * Z)) := by rw [hY]; grind -lia -linarith
  refine jk_is (by rw [eZ]; exact fun h => (mul_zero' h).elim h2y hz4) ?_ ?_
  · rw [eZ]; subst hx he hd hbb hb ha hX hY; clear e0 h hon hz4 h2y hy eZ hz
    grind -lia -linarith
  · rw [eZ]; subst hx he hd hbb hb ha hX hY; clear e0 h hon hz4 h2y hy eZ hz
    grind -lia -linarith
theorem jk_plus {X1 Y1 Z1 X2 Y2 Z2 : K} (hp : onC (jk X1 Y1 Z1)) (hq : onC (jk X2 Y2 Z2)) (hz1 : Z1 ≠ 0) (hz2 : Z2 ≠ 0) (u1 u2 s1 s2 h r hh hhh v x : K) (e1 : u1 = X1 * (Z2 * Z2)) (e2 : u2 = X2 * (Z1 * Z1)) (e3 : s1 = Y1 * (Z2 * Z2 * Z2)) (e4 : s2 = Y2 * (Z1 * Z1 * Z1))
    (eh : h = u2 - u1) (er : r = s2 - s1) (hn : h ≠ 0) (ehh : hh = h * h) (ehhh : hhh = hh * h) (ev : v = u1 * hh) (ex : x = r * r - (hhh + (v + v))) :
    jk x (r * (v - x) - s1 * hhh) (h * (Z1 * Z2)) = padd (jk X1 Y1 Z1) (jk X2 Y2 Z2) := by
  obtain ⟨x1, y1, f1, o1, hX1, hY1⟩ := jk_form hz1 hp
  obtain ⟨x2, y2, f2, o2, hX2, hY2⟩ := jk_form hz2 hq
  have hzz : Z1 * Z2 ≠ 0 := fun h => (mul_zero' h).elim hz1 hz2
  have ehd : h = (x2 - x1) * ((Z1 * Z2) * (Z1 * Z2)) := by rw [eh, e1, e2, hX1, hX2]; grind -lia -linarith
  have erd : r = (y2 - y1) * ((Z1 * Z2) * (Z1 * Z2) * (Z1 * Z2)) := by rw [er, e3, e4, hY1, hY2]; grind -lia -linarith
  have eu : u1 = x1 * ((Z1 * Z2) * (Z1 * Z2)) := by rw [e1, hX1]; grind -lia -linarith
  have es : s1 = y1 * ((Z1 * Z2) * (Z1 * Z2) * (Z1 * Z2)) := by rw [e3, hY1]; grind -lia -linarith
  have hd0 : x2 - x1 ≠ 0 := fun hh => hn (by rw [ehd, hh]; grind -lia -linarith)
  have hu := mul_kinv hd0
  rw [f1, f2, padd_chord o1 o2 hu]
  generalize kinv (x2 - x1) = u at *
  refine jk_is (fun hh => (mul_zero' hh).elim hn hzz) ?_ ?_
  · subst ex ev ehhh ehh
    rw [erd, eu, ehd]
    clear e1 e2 e3 e4 eh er hn erd eu es ehd hX1 hX2 hY1 hY2 f1 f2 o1 o2 hp hq hz1 hz2 hd0
    generalize Z1 * Z2 = z at *
    generalize hdd : x2 - x1 = d at *
    have hx2 : x2 = x1 + d := by rw [← hdd]; grind -lia -linarith
    subst hx2; clear hdd
    generalize y2 - y1 = n at *
    grind -lia -linarith
  · subst ex ev ehhh ehh
    rw [erd, eu, ehd, es]
    clear e1 e2 e3 e4 eh er hn erd eu es ehd hX1 hX2 hY1 hY2 f1 f2 o1 o2 hp hq hz1 hz2 hd0
    generalize Z1 * Z2 = z at *
    generalize hdd : x2 - x1 = d at *
    have hx2 : x2 = x1 + d := by rw [← hdd]; grind -lia -linarith
    subst hx2; clear hdd
    generalize y2 - y1 = n at *
    grind -lia -linarith
/-- equal first coordinates -/
theorem jk_same {X1 Y1 Z1 X2 Y2 Z2 : K} (hp : onC (jk X1 Y1 Z1)) (hq : onC (jk X2 Y2 Z2)) (hz1 : Z1 ≠ 0) (hz2 : Z2 ≠ 0) (h : X2 * (Z1 * Z1) - X1 * (Z2 * Z2) = 0) :
    (Y2 * (Z1 * Z1 * Z1) - Y1 * (Z2 * Z2 * Z2) = 0 → jk X2 Y2 Z2 = jk X1 Y1 Z1) ∧ (Y2 * (Z1 * Z1 * Z1) - Y1 * (Z2 * Z2 * Z2) ≠ 0 → padd (jk X1 Y1 Z1) (jk X2 Y2 Z2) = .O) := by
  obtain ⟨x1, y1, f1, o1, hX1, hY1⟩ := jk_form hz1 hp
  obtain ⟨x2, y2, f2, o2, hX2, hY2⟩ := jk_form hz2 hq
  have hzz : Z1 * Z2 ≠ 0 := fun h => (mul_zero' h).elim hz1 hz2
  have hx : x2 = x1 := by
    refine cancelK hzz (cancelK hzz ?_)
    rw [hX1, hX2] at h; grind -lia -linarith
  subst hx
  have hyy : (y2 - y1) * (y2 + y1) = 0 := by grind -lia -linarith
  refine ⟨fun hy => ?_, fun hy => ?_⟩
  · have : y2 = y1 := by
      refine cancelK hzz (cancelK hzz (cancelK hzz ?_))
      rw [hY1, hY2] at hy; grind -lia -linarith
    rw [f1, f2, this]
  · rcases mul_zero' hyy with h1 | h1
    · exfalso
      refine hy ?_
      have e : y2 = y1 := by grind -lia -linarith
      rw [hY1, hY2, e]; grind -lia -linarith
    · have e : y2 = -y1 := by grind -lia -linarith
      rw [f1, f2, e]
      exact padd_neg (p := .A x2 y1)
/-- so many times a point -/
def pmul : Nat → Pt → Pt
  | 0, _ => .O
  | n + 1, p => padd (pmul n p) p
theorem pmul_on {p : Pt} (hp : onC p) : ∀ n, onC (pmul n p)
  | 0 => trivial
  | n + 1 => padd_on (pmul_on hp n) hp
theorem pmul_add {p : Pt} (hp : onC p) (m : Nat) : ∀ n, pmul (m + n) p = padd (pmul m p) (pmul n p)
  | 0 => (padd_zero _).symm
  | n + 1 => by
    show padd (pmul (m + n) p) p = padd (pmul m p) (padd (pmul n p) p)
    rw [pmul_add hp m n, padd_assoc (pmul_on hp m) (pmul_on hp n) hp]
theorem pmul_mul {p : Pt} (hp : onC p) (m : Nat) : ∀ n, pmul (m * n) p = pmul n (pmul m p)
  | 0 => rfl
  | n + 1 => by
    rw [Nat.mul_succ, pmul_add hp, pmul_mul hp m n]; rfl
theorem pmul_O : ∀ n, pmul n .O = .O
  | 0 => rfl
  | n + 1 => by rw [pmul, pmul_O n]; rfl
theorem pmul_dist {p q : Pt} (hp : onC p) (hq : onC q) : ∀ n, pmul n (padd p q) = padd (pmul n p) (pmul n q)
  | 0 => rfl
  | n + 1 => by
    have h1 := pmul_on hp n
    have h2 := pmul_on hq n
    simp only [pmul]
    rw [pmul_dist hp hq n, padd_assoc h1 h2 (padd_on hp hq), padd_assoc h1 hp (padd_on h2 hq), ← padd_assoc h2 hp hq, padd_comm (pmul n q) p, padd_assoc hp h2 hq]
end Mvq

/- The reference's sums (X / Z, Y / Z); numbers as members of the field; sums of multiples, digit by digit. -/
namespace Mvq
theorem pP_fP : Mvp.pP = fP := by decide
theorem kc_addn (a b : Nat) : kc (a + b) = kc a + kc b := by rw [← kc_add, kc_mod]
theorem kc_subn (a b : Nat) : kc (a + (fP - b % fP)) = kc a - kc b := by
  have h : kc (a + (fP - b % fP)) + kc b = kc a := by
    rw [← kc_addn]
    apply Fin.ext
    simp only [kc, Fin.ofNat]
    have h1 := Nat.div_add_mod b fP
    have h2 : b % fP < fP := Nat.mod_lt _ (by decide)
    rw [show a + (fP - b % fP) + b = a + fP * (b / fP + 1) by rw [Nat.mul_add]; omega, Nat.add_mul_mod_self_left]
  rw [← h]; generalize kc b = u; generalize kc (a + (fP - b % fP)) = v; grind -lia -linarith
theorem kc_negn (b : Nat) : kc (fP - b % fP) = - kc b := by
  have h := kc_subn 0 b
  rw [Nat.zero_add] at h
  have h0 : kc 0 = 0 := by decide
  rw [h, h0]; generalize kc b = u; grind -lia -linarith
theorem kc_eqz (a : Nat) : (a % fP == 0) = decide (kc a = 0) := by
  rw [Bool.eq_iff_iff]
  simp only [beq_iff_eq, decide_eq_true_eq]
  constructor
  · intro h
    apply Fin.ext
    simp only [kc, Fin.ofNat]
    exact h
  · intro h
    have := congrArg Fin.val h
    exact this
theorem kc_eq (a b : Nat) : (a % fP == b % fP) = decide (kc a = kc b) := by
  rw [Bool.eq_iff_iff]
  simp only [beq_iff_eq, decide_eq_true_eq]
  constructor
  · intro h
    apply Fin.ext
    simp only [kc, Fin.ofNat]
    exact h
  · intro h
    have := congrArg Fin.val h
    simpa only [kc, Fin.ofNat] using this
theorem nm_nz {X Y Z : K} (hz : Z ≠ 0) : nm X Y Z = .A (X * kinv Z) (Y * kinv Z) := by unfold nm; rw [if_neg hz]
theorem nm_z {X Y Z : K} (hz : Z = 0) : nm X Y Z = .O := by unfold nm; rw [if_pos hz]
theorem nm_is {X Y Z x y : K} (hz : Z ≠ 0) (hx : X = x * Z) (hy : Y = y * Z) : nm X Y Z = .A x y := by
  rw [nm_nz hz]
  have h1 := mul_kinv hz
  generalize kinv Z = u at *
  subst hx hy
  congr 1
  · grind -lia -linarith
  · grind -lia -linarith
theorem nm_form {X Y Z : K} (hz : Z ≠ 0) (h : onC (nm X Y Z)) : ∃ x y, nm X Y Z = .A x y ∧ y * y = x * x * x + 7 ∧ X = x * Z ∧ Y = y * Z := by
  refine ⟨_, _, nm_nz hz, ?_, ?_, ?_⟩
  · rw [nm_nz hz] at h; exact h
  · have h1 := mul_kinv hz
    generalize kinv Z = u at *
    grind -lia -linarith
  · have h1 := mul_kinv hz
    generalize kinv Z = u at *
    grind -lia -linarith
theorem rk_double {X Y Z : K} (h : onC (nm X Y Z)) (hz : Z ≠ 0) (xx d e ee eee t : K) (h1 : xx = X * X) (h2 : d = 3 * xx) (h3 : e = 2 * Y * Z) (h4 : ee = e * e) (h5 : eee = ee * e) (h6 : t = d * d * Z - 2 * X * ee) :
    nm (e * t) (d * (X * ee - t) - Y * eee) (eee * Z) = padd (nm X Y Z) (nm X Y Z) := by
  obtain ⟨x, y, e0, hon, hX, hY⟩ := nm_form hz h
  have hy := y_ne hon
  have h2y : (2 : K) * y ≠ 0 := fun h => (mul_zero' h).elim two_ne hy
  have hu := mul_kinv h2y
  rw [e0, padd_tangent hon hu]
  generalize kinv (2 * y) = u at *
  have he : e = (2 * y) * (Z * Z) := by rw [h3, hY]; grind -lia -linarith
  have hzz : Z * Z ≠ 0 := fun h => (mul_zero' h).elim hz hz
  have he0 : e ≠ 0 := by rw [he]; exact fun h => (mul_zero' h).elim h2y hzz
  refine nm_is (by rw [h5, h4]; exact fun h => (mul_zero' h).elim (fun h => (mul_zero' h).elim (fun h => (mul_zero' h).elim he0 he0) he0) hz) ?_ ?_
  · subst h6 h5 h4 h2 h1 hX hY
    rw [he]
    clear e0 h hon hzz h2y hy hz he0 he h3
    grind -lia -linarith
  · subst h6 h5 h4 h2 h1 hX hY
    rw [he]
    clear e0 h hon hzz h2y hy hz he0 he h3
    grind -lia -linarith
theorem rk_plus {X1 Y1 Z1 X2 Y2 Z2 : K} (hp : onC (nm X1 Y1 Z1)) (hq : onC (nm X2 Y2 Z2)) (hz1 : Z1 ≠ 0) (hz2 : Z2 ≠ 0) (u v u2 v2 d e w ee eee t : K) (e1 : u = Y2 * Z1) (e2 : v = X2 * Z1) (e3 : u2 = Y1 * Z2) (e4 : v2 = X1 * Z2)
    (ed : d = u - u2) (ee' : e = v - v2) (hn : e ≠ 0) (ew : w = Z1 * Z2) (h4 : ee = e * e) (h5 : eee = ee * e) (h6 : t = d * d * w - eee - 2 * v2 * ee) :
    nm (e * t) (d * (v2 * ee - t) - u2 * eee) (eee * w) = padd (nm X1 Y1 Z1) (nm X2 Y2 Z2) := by
  obtain ⟨x1, y1, f1, o1, hX1, hY1⟩ := nm_form hz1 hp
  obtain ⟨x2, y2, f2, o2, hX2, hY2⟩ := nm_form hz2 hq
  have hzz : w ≠ 0 := by rw [ew]; exact fun h => (mul_zero' h).elim hz1 hz2
  have ehd : e = (x2 - x1) * w := by rw [ee', e2, e4, hX1, hX2, ew]; grind -lia -linarith
  have erd : d = (y2 - y1) * w := by rw [ed, e1, e3, hY1, hY2, ew]; grind -lia -linarith
  have eu : v2 = x1 * w := by rw [e4, hX1, ew]; grind -lia -linarith
  have es : u2 = y1 * w := by rw [e3, hY1, ew]; grind -lia -linarith
  have hd0 : x2 - x1 ≠ 0 := fun hh => hn (by rw [ehd, hh]; grind -lia -linarith)
  have hu := mul_kinv hd0
  rw [f1, f2, padd_chord o1 o2 hu]
  generalize kinv (x2 - x1) = z at *
  refine nm_is (by rw [h5, h4]; exact fun h => (mul_zero' h).elim (fun h => (mul_zero' h).elim (fun h => (mul_zero' h).elim hn hn) hn) hzz) ?_ ?_
  · subst h6 h5 h4
    rw [erd, eu, ehd]
    clear e1 e2 e3 e4 ed ee' hn erd eu es ehd hX1 hX2 hY1 hY2 f1 f2 o1 o2 hp hq hz1 hz2 hd0 ew hzz
    generalize hdd : x2 - x1 = dd at *
    have hx2 : x2 = x1 + dd := by rw [← hdd]; grind -lia -linarith
    subst hx2; clear hdd
    generalize y2 - y1 = n at *
    grind -lia -linarith
  · subst h6 h5 h4
    rw [erd, eu, ehd, es]
    clear e1 e2 e3 e4 ed ee' hn erd eu es ehd hX1 hX2 hY1 hY2 f1 f2 o1 o2 hp hq hz1 hz2 hd0 ew hzz
    generalize hdd : x2 - x1 = dd at *
    have hx2 : x2 = x1 + dd := by rw [← hdd]; grind -lia -linarith
    subst hx2; clear hdd
    generalize y2 - y1 = n at *
    grind -lia -linarith
theorem rk_same {X1 Y1 Z1 X2 Y2 Z2 : K} (hp : onC (nm X1 Y1 Z1)) (hq : onC (nm X2 Y2 Z2)) (hz1 : Z1 ≠ 0) (hz2 : Z2 ≠ 0) (h : X2 * Z1 = X1 * Z2) :
    (Y2 * Z1 = Y1 * Z2 → nm X2 Y2 Z2 = nm X1 Y1 Z1) ∧ (Y2 * Z1 ≠ Y1 * Z2 → padd (nm X1 Y1 Z1) (nm X2 Y2 Z2) = .O) ∧ Y2 * Z1 ≠ 0 := by
  obtain ⟨x1, y1, f1, o1, hX1, hY1⟩ := nm_form hz1 hp
  obtain ⟨x2, y2, f2, o2, hX2, hY2⟩ := nm_form hz2 hq
  have hzz : Z1 * Z2 ≠ 0 := fun h => (mul_zero' h).elim hz1 hz2
  have hx : x2 = x1 := by
    refine cancelK hzz ?_
    rw [hX1, hX2] at h; grind -lia -linarith
  subst hx
  have hyy : (y2 - y1) * (y2 + y1) = 0 := by grind -lia -linarith
  refine ⟨fun hy => ?_, fun hy => ?_, fun hy => ?_⟩
  · have : y2 = y1 := by
      refine cancelK hzz ?_
      rw [hY1, hY2] at hy; grind -lia -linarith
    rw [f1, f2, this]
  · rcases mul_zero' hyy with h1 | h1
    · exfalso
      refine hy ?_
      have e : y2 = y1 := by grind -lia -linarith
      rw [hY1, hY2, e]; grind -lia -linarith
    · have e : y2 = -y1 := by grind -lia -linarith
      rw [f1, f2, e]
      exact padd_neg (p := .A x2 y1)
  · have hy2 := y_ne o2
    rcases mul_zero' hy with h1 | h1
    · rw [hY2] at h1; exact (mul_zero' h1).elim hy2 hz2
    · exact hz1 h1
/-- sums of multiples -/
def psum : List (Nat × Pt) → Pt
  | [] => .O
  | (n, p) :: l => padd (pmul n p) (psum l)
theorem psum_on : ∀ (l : List (Nat × Pt)), (∀ t ∈ l, onC t.2) → onC (psum l)
  | [], _ => trivial
  | (n, p) :: l, h => padd_on (pmul_on (h (n, p) (by simp)) n) (psum_on l fun t ht => h t (List.mem_cons_of_mem _ ht))
/-- each number's leading digits, in sixteens -/
def lead (k : Nat) (l : List (Nat × Pt)) : List (Nat × Pt) := l.map fun t => (t.1 / 16 ^ k, t.2)
def dig (k n : Nat) : Nat := n / 16 ^ k % 16
theorem lead_next (k : Nat) : ∀ (l : List (Nat × Pt)), (∀ t ∈ l, onC t.2) → psum (lead k l) = padd (pmul 16 (psum (lead (k + 1) l))) (psum (l.map fun t => (dig k t.1, t.2)))
  | [], _ => (by rw [show psum (lead (k + 1) []) = .O from rfl, pmul_O]; rfl)
  | (n, p) :: l, h => by
    have hl : ∀ t ∈ l, onC t.2 := fun t ht => h t (List.mem_cons_of_mem _ ht)
    have hp : onC p := h (n, p) (by simp)
    have ih := lead_next k l hl
    have hL : onC (psum (lead (k + 1) l)) := psum_on _ fun t ht => by
      obtain ⟨u, hu, rfl⟩ := List.mem_map.1 ht; exact hl u hu
    have hD : onC (psum (l.map fun t => (dig k t.1, t.2))) := psum_on _ fun t ht => by
      obtain ⟨u, hu, rfl⟩ := List.mem_map.1 ht; exact hl u hu
    show padd (pmul (n / 16 ^ k) p) (psum (lead k l)) = padd (pmul 16 (padd (pmul (n / 16 ^ (k + 1)) p) (psum (lead (k + 1) l)))) (padd (pmul (dig k n) p) (psum (l.map fun t => (dig k t.1, t.2))))
    have e : n / 16 ^ k = n / 16 ^ (k + 1) * 16 + dig k n := by
      unfold dig; rw [Nat.pow_succ, ← Nat.div_div_eq_div_mul]; omega
    rw [ih, e, pmul_add hp, pmul_mul hp, pmul_dist (pmul_on hp _) hL]
    generalize hA : pmul 16 (pmul (n / 16 ^ (k + 1)) p) = a
    generalize hB : pmul (dig k n) p = b
    generalize hC : pmul 16 (psum (lead (k + 1) l)) = c
    generalize hDD : psum (l.map fun t => (dig k t.1, t.2)) = d at *
    have ha : onC a := by rw [← hA]; exact pmul_on (pmul_on hp _) _
    have hb : onC b := by rw [← hB]; exact pmul_on hp _
    have hc : onC c := by rw [← hC]; exact pmul_on hL _
    rw [padd_assoc ha hb (padd_on hc hD), padd_assoc ha hc (padd_on hb hD), ← padd_assoc hb hc hD, ← padd_assoc hc hb hD, padd_comm b c]
/-- twice, four times -/
theorem pmul_16 {p : Pt} (hp : onC p) : pmul 16 p = padd (padd (padd (padd p p) (padd p p)) (padd (padd p p) (padd p p))) (padd (padd (padd p p) (padd p p)) (padd (padd p p) (padd p p))) := by
  have h2 : ∀ q, padd q q = pmul 2 q := fun q => by show _ = padd (padd .O q) q; rfl
  have e2 : padd p p = pmul 2 p := h2 p
  have e4 : padd (pmul 2 p) (pmul 2 p) = pmul 4 p := (pmul_add hp 2 2).symm
  have e8 : padd (pmul 4 p) (pmul 4 p) = pmul 8 p := (pmul_add hp 4 4).symm
  have e16 : padd (pmul 8 p) (pmul 8 p) = pmul 16 p := (pmul_add hp 8 8).symm
  rw [e2, e4, e8, e16]
/-- bit by bit -/
theorem pmul_bit {p : Pt} (hp : onC p) (n k : Nat) : pmul (n / 2 ^ k) p = padd (padd (pmul (n / 2 ^ (k + 1)) p) (pmul (n / 2 ^ (k + 1)) p)) (if n / 2 ^ k % 2 = 1 then p else .O) := by
  have e : n / 2 ^ k = n / 2 ^ (k + 1) + n / 2 ^ (k + 1) + n / 2 ^ k % 2 := by
    rw [Nat.pow_succ, ← Nat.div_div_eq_div_mul]; omega
  have h1 : pmul (n / 2 ^ k % 2) p = if n / 2 ^ k % 2 = 1 then p else .O := by
    split
    · rename_i h; rw [h]; exact zero_padd p
    · rename_i h; rw [show n / 2 ^ k % 2 = 0 by omega]; rfl
  rw [← h1, ← pmul_add hp, ← pmul_add hp, ← e]
end Mvq

/- A program's point: what it stands for; its double as the group's. -/
namespace Mvq
open Mvp
/-- the point that three numbers stand for -/
def jN (x y z : Nat) : Pt := jk (kc x) (kc y) (kc z)
theorem kc_sub' (M : Nat) (hM : M = fP) (a b : Nat) : kc (a + (M - b % M)) = kc a - kc b := by subst hM; exact kc_subn a b
theorem z_is (M : Nat) (hM : M = fP) (z : Nat) (b : Bool) (h : (z % M == 0) = b) : decide (kc z = 0) = b := by subst hM; rw [← kc_eqz]; exact h
theorem mP_fP : mP.M = fP := pP_fP
end Mvq
namespace Go.Proofs.YtdbgddngapminaaGreat
open Go.RowKit Go.Mv Mvp Mvq
/-- double: of any point of the curve -/
theorem double_is (x y z : Nat) (ho : onC (jN x y z)) :
    ∃ X Y Z, jN X Y Z = padd (jN x y z) (jN x y z) ∧ ∀ gc gp bx by_ wx, Has wx gc (crvL mP gp bx by_) 62 → Has wx gp (mdL mP) 112 → Calls Tryz.prog 72 #[.pointer (some ⟨gc, 0, none⟩), ptV mP x y z] wx fun e w' => e = .returned (ptV mP X Y Z) ∧ Fr Nob wx w' := by
  cases hb : (z % mP.M == 0)
  · have hz : kc z ≠ 0 := by
      have := z_is _ mP_fP z _ hb
      simpa using this
    refine ⟨_, _, _, ?_, fun gc gp bx by_ wx hcv hpm => double_v mP gc gp bx by_ wx mP_ok hcv hpm x y z hb _ _ _ _ _ _ _ _ _ _ _ _ _ _ _ _ _ _ _ _ _ rfl rfl rfl rfl rfl rfl rfl rfl rfl rfl rfl rfl rfl rfl rfl rfl rfl rfl rfl rfl rfl⟩
    have h := jk_double ho hz _ _ _ _ _ _ rfl rfl rfl rfl rfl rfl
    unfold jN at *
    rw [← h]
    simp only [kc_sub' _ mP_fP, kc_addn, kc_mul']
    generalize kc x = a; generalize kc y = b; generalize kc z = c
    congr 1
    · grind -lia -linarith
    · grind -lia -linarith
    · grind -lia -linarith
  · have hz : kc z = 0 := by
      have := z_is _ mP_fP z _ hb
      simpa using this
    refine ⟨x, y, z, ?_, fun gc gp bx by_ wx hcv hpm => double_none mP gc gp bx by_ wx mP_ok hcv hpm x y z hb⟩
    unfold jN
    rw [jk_z hz]; rfl
end Go.Proofs.YtdbgddngapminaaGreat

/- group: nothing, plus. -/
namespace Go.Proofs.YtdbgddngapminaaGreat
open Go.RowKit Go.Mv Mvp
attribute [local irreducible] limbs lw mix cw cSub cAdd cMul foldC valFrom beN laid be32 powm montT mstep elN mdL numB
set_option maxHeartbeats 16000000 in
set_option maxRecDepth 1000000 in
theorem nothing_any (m : Md) (gc gp bx by_ : Nat) (w : World) (hok : m.Ok) (hcv : Has w gc (crvL m gp bx by_) 62) (hpm : Has w gp (mdL m) 112) :
    Calls Tryz.prog 71 #[.pointer (some ⟨gc, 0, none⟩)] w fun e w' => e = .returned (ptV m 1 1 0) ∧ Fr Nob w w' := by
  have HOK := Lib.hid hok
  have HCV := Lib.hid hcv
  have HPM := Lib.hid hpm
  clear hok hcv hpm
  have st0 := St.start Nob w
  go_enter Tryz.func71, Tryz.ntmps71
  go_wp2_with (with_reducible refine wl_stop (o := ⟨some 2, _, _, _, _, _⟩) ?_)
  refine wl_allocS st0 rfl rfl (z := .agg #[.int .u64 0, .int .u64 0, .int .u64 0, .int .u64 0, .int .u64 0, .int .u64 0, .int .u64 0, .int .u64 0, .int .u64 0, .int .u64 0, .int .u64 0, .int .u64 0]) (by kernel_rfl) (cw 12 0) (by rw [cw_zero]; rfl) ?_
  intro g2 w1 st1
  clear st0
  go_wp2_with fail
  refine wp_region_noPanic ?_
  refine wp_region_lad st1 11 [.w 0, .w 1, .w 2, .t 3, .w 5, .w 6, .w 7, .t 8, .c 4, .c 9, .w 10] (.m 11 .nil) (by kernel_rfl) (by kernel_rfl) (fun _ _ _ _ _ h => h) ?_
  clear st1
  iterate 3 (refine lad_w (v := ?_) rfl rfl (fun xq wx => ?_) ?_; rotate_left 1; · (go_simp; with_reducible rfl); try simp only [Go.Mv.clL])
  refine lad_t (v := ?_) rfl rfl (fun xq wx hS => ?_) ?_
  rotate_left 1
  · (have hc := (HCV.out.keep (St.fr hS) id).cell (i := 0) rfl; clear hS; go_simp; with_reducible rfl)
  try simp only [Go.Mv.clL]
  iterate 3 (refine lad_w (v := ?_) rfl rfl (fun xq wx => ?_) ?_; rotate_left 1; · (go_simp; with_reducible rfl); try simp only [Go.Mv.clL])
  refine lad_t (v := ?_) rfl rfl (fun xq wx hS => ?_) ?_
  rotate_left 1
  · (have hc := (HCV.out.keep (St.fr hS) id).cell (i := 0) rfl; clear hS; go_simp; with_reducible rfl)
  try simp only [Go.Mv.clL]
  refine lad_call rfl rfl rfl Tryz.call60 (fun w hS hR => MOne_any m gp _ HOK.out (HPM.out.keep hS.fr id)) (fun _ => rfl) ?_
  try simp only [Go.Mv.clL]
  refine lad_call rfl rfl rfl Tryz.call60 (fun w hS hR => MOne_any m gp _ HOK.out (HPM.out.keep hS.fr id)) (fun _ => rfl) ?_
  try simp only [Go.Mv.clL]
  refine lad_w rfl rfl (fun _ => exec_build rfl _ (built_pt2 _ _)) ?_
  try simp only [Go.Mv.clL]
  refine lad_end fun xq w2 st2 hR => ?_
  try dsimp only
  clear hR xq
  refine plan_m rfl rfl ?_
  refine wp_storeS st2 0 rfl rfl rfl rfl (by simp [cw_len]) (by kernel_rfl) (pt_one _ _ _) ?_
  intro w3 st3
  try simp only [List.nil_append, List.set_cons_zero] at st3
  clear st2
  try simp only [Act.put]
  refine plan_end ?_
  refine NoPanic.normal ?_
  have hr := st3.at 0 rfl
  have hfr := st3.fr
  clear st3
  go_wp2_with fail
  exact bodyPost_ret (results_st rfl rfl hr Tryz.underlying60 rfl (by kernel_rfl)) rfl ⟨by unfold ptV ptL; rw [el_zero], hfr⟩

theorem nothing_u (m : Md) (gc gp bx by_ : Nat) (w : World) (hok : m.Ok) (hcv : Has w gc (crvL m gp bx by_) 62) (hpm : Has w gp (mdL m) 112) :
    Calls Tryz.prog 71 #[.pointer (some ⟨gc, 0, none⟩)] w fun e w' => e = .returned (.agg (cw 4 (elN m 1) ++ (cw 4 (elN m 1) ++ cw 4 (elN m 0))).toArray) ∧ Fr Nob w w' := nothing_any m gc gp bx by_ w hok hcv hpm

set_option maxHeartbeats 16000000 in
set_option maxRecDepth 1000000 in
theorem plus_none1 (m : Md) (gc gp bx by_ : Nat) (w : World) (hok : m.Ok) (hcv : Has w gc (crvL m gp bx by_) 62) (hpm : Has w gp (mdL m) 112) (x1 y1 z1 x2 y2 z2 : Nat) (hb1 : (z1 % m.M == 0) = true) :
    Calls Tryz.prog 73 #[.pointer (some ⟨gc, 0, none⟩), ptV m x1 y1 z1, ptV m x2 y2 z2] w fun e w' => e = .returned (ptV m x2 y2 z2) ∧ Fr Nob w w' := by
  have HOK := Lib.hid hok
  have HCV := Lib.hid hcv
  have HPM := Lib.hid hpm
  clear hok hcv hpm
  have HB1 := Lib.hid hb1
  clear hb1
  unfold ptV ptL
  have st0 := St.start Nob w
  go_enter Tryz.func73, Tryz.ntmps73
  go_wp2_with (with_reducible refine wl_stop (o := ⟨some 4, _, _, _, _, _⟩) ?_)
  refine wl_boxS st0 rfl rfl rfl (cw 4 (elN m x1) ++ (cw 4 (elN m y1) ++ cw 4 (elN m z1))) rfl ?_
  intro g4 w1 st1
  clear st0
  go_wp2_with (with_reducible refine wl_stop (o := ⟨some 5, _, _, _, _, _⟩) ?_)
  refine wl_boxS st1 rfl rfl rfl (cw 4 (elN m x2) ++ (cw 4 (elN m y2) ++ cw 4 (elN m z2))) rfl ?_
  intro g5 w2 st2
  clear st1
  go_wp2_with (with_reducible refine wl_stop (o := ⟨some 6, _, _, _, _, _⟩) ?_)
  refine wl_allocS st2 rfl rfl (z := .agg #[.int .u64 0, .int .u64 0, .int .u64 0, .int .u64 0, .int .u64 0, .int .u64 0, .int .u64 0, .int .u64 0, .int .u64 0, .int .u64 0, .int .u64 0, .int .u64 0]) (by kernel_rfl) (cw 12 0) (by rw [cw_zero]; rfl) ?_
  intro g6 w3 st3
  clear st2
  go_wp2_with (with_reducible refine wl_stop (o := ⟨some 20, _, _, _, _, _⟩) ?_)
  refine wl_loadSt st3 0 rfl rfl rfl Tryz.underlying60 rfl rfl (by kernel_rfl) ?_
  go_wp2_with fail
  refine (none_any m HOK.out x1 y1 z1 true HB1.out _).mono ?_
  rintro e' w4 ⟨rfl, hf4⟩
  have st4 := st3.keep hf4
  clear st3 hf4
  go_wp2_with (with_reducible refine wl_stop (o := ⟨some 22, _, _, _, _, _⟩) ?_)
  refine wl_loadSt st4 1 rfl rfl rfl Tryz.underlying60 rfl rfl (by kernel_rfl) ?_
  go_wp2_with (with_reducible refine wl_stop (o := ⟨none, _, _, _, _, _⟩) ?_)
  refine wl_storeS st4 2 rfl rfl rfl rfl rfl (by simp [cw_len]) (by kernel_rfl) (pt_one _ _ _) ?_
  intro w5 st5
  clear st4
  have hr := st5.at 2 rfl
  have hfr := st5.fr
  clear st5
  go_wp2_with fail
  exact bodyPost_ret (results_st rfl rfl hr Tryz.underlying60 rfl (by kernel_rfl)) rfl ⟨rfl, hfr⟩

set_option maxHeartbeats 16000000 in
set_option maxRecDepth 1000000 in
theorem plus_none2 (m : Md) (gc gp bx by_ : Nat) (w : World) (hok : m.Ok) (hcv : Has w gc (crvL m gp bx by_) 62) (hpm : Has w gp (mdL m) 112) (x1 y1 z1 x2 y2 z2 : Nat) (hb1 : (z1 % m.M == 0) = false) (hb2 : (z2 % m.M == 0) = true) :
    Calls Tryz.prog 73 #[.pointer (some ⟨gc, 0, none⟩), ptV m x1 y1 z1, ptV m x2 y2 z2] w fun e w' => e = .returned (ptV m x1 y1 z1) ∧ Fr Nob w w' := by
  have HOK := Lib.hid hok
  have HCV := Lib.hid hcv
  have HPM := Lib.hid hpm
  clear hok hcv hpm
  have HB1 := Lib.hid hb1
  have HB2 := Lib.hid hb2
  clear hb1 hb2
  unfold ptV ptL
  have st0 := St.start Nob w
  go_enter Tryz.func73, Tryz.ntmps73
  go_wp2_with (with_reducible refine wl_stop (o := ⟨some 4, _, _, _, _, _⟩) ?_)
  refine wl_boxS st0 rfl rfl rfl (cw 4 (elN m x1) ++ (cw 4 (elN m y1) ++ cw 4 (elN m z1))) rfl ?_
  intro g4 w1 st1
  clear st0
  go_wp2_with (with_reducible refine wl_stop (o := ⟨some 5, _, _, _, _, _⟩) ?_)
  refine wl_boxS st1 rfl rfl rfl (cw 4 (elN m x2) ++ (cw 4 (elN m y2) ++ cw 4 (elN m z2))) rfl ?_
  intro g5 w2 st2
  clear st1
  go_wp2_with (with_reducible refine wl_stop (o := ⟨some 6, _, _, _, _, _⟩) ?_)
  refine wl_allocS st2 rfl rfl (z := .agg #[.int .u64 0, .int .u64 0, .int .u64 0, .int .u64 0, .int .u64 0, .int .u64 0, .int .u64 0, .int .u64 0, .int .u64 0, .int .u64 0, .int .u64 0, .int .u64 0]) (by kernel_rfl) (cw 12 0) (by rw [cw_zero]; rfl) ?_
  intro g6 w3 st3
  clear st2
  go_wp2_with (with_reducible refine wl_stop (o := ⟨some 20, _, _, _, _, _⟩) ?_)
  refine wl_loadSt st3 0 rfl rfl rfl Tryz.underlying60 rfl rfl (by kernel_rfl) ?_
  go_wp2_with fail
  refine (none_any m HOK.out x1 y1 z1 false HB1.out _).mono ?_
  rintro e' w4 ⟨rfl, hf4⟩
  have st4 := st3.keep hf4
  clear st3 hf4
  go_wp2_with (with_reducible refine wl_stop (o := ⟨some 24, _, _, _, _, _⟩) ?_)
  refine wl_loadSt st4 1 rfl rfl rfl Tryz.underlying60 rfl rfl (by kernel_rfl) ?_
  go_wp2_with fail
  refine (none_any m HOK.out x2 y2 z2 true HB2.out _).mono ?_
  rintro e' w5 ⟨rfl, hf5⟩
  have st5 := st4.keep hf5
  clear st4 hf5
  go_wp2_with (with_reducible refine wl_stop (o := ⟨some 26, _, _, _, _, _⟩) ?_)
  refine wl_loadSt st5 0 rfl rfl rfl Tryz.underlying60 rfl rfl (by kernel_rfl) ?_
  go_wp2_with (with_reducible refine wl_stop (o := ⟨none, _, _, _, _, _⟩) ?_)
  refine wl_storeS st5 2 rfl rfl rfl rfl rfl (by simp [cw_len]) (by kernel_rfl) (pt_one _ _ _) ?_
  intro w6 st6
  clear st5
  have hr := st6.at 2 rfl
  have hfr := st6.fr
  clear st6
  go_wp2_with fail
  exact bodyPost_ret (results_st rfl rfl hr Tryz.underlying60 rfl (by kernel_rfl)) rfl ⟨rfl, hfr⟩
end Go.Proofs.YtdbgddngapminaaGreat

/- group: plus, of two points that are not nothing. -/
namespace Go.Proofs.YtdbgddngapminaaGreat
open Go.RowKit Go.Mv Mvp
attribute [local irreducible] limbs lw mix cw cSub cAdd cMul foldC valFrom beN laid be32 powm montT mstep elN mdL numB
/-- what plus answers of two points that are not nothing -/
def plusV (b c : Bool) (u v x : Value) : Value := match b, c with
  | false, _ => x
  | true, false => v
  | true, true => u

set_option maxHeartbeats 16000000 in
set_option maxRecDepth 1000000 in
theorem gplus_any (m : Md) (gc gp bx by_ : Nat) (w : World) (hok : m.Ok) (hcv : Has w gc (crvL m gp bx by_) 62) (hpm : Has w gp (mdL m) 112) (x1 y1 z1 x2 y2 z2 : Nat) (hb1 : (z1 % m.M == 0) = false) (hb2 : (z2 % m.M == 0) = false) (pp qq u1 u2 q3 s1 p3 s2 hd rr hh h3 v r2 v2 t1 X t2 t3 t4 Y zz Z DX DY DZ : Nat) (epp : z1 * z1 = pp) (eqq : z2 * z2 = qq) (eu1 : x1 * qq = u1) (eu2 : x2 * pp = u2) (eq3 : qq * z2 = q3) (es1 : y1 * q3 = s1) (ep3 : pp * z1 = p3) (es2 : y2 * p3 = s2) (ehd : u2 + (m.M - u1 % m.M) = hd) (err : s2 + (m.M - s1 % m.M) = rr) (ehh : hd * hd = hh) (eh3 : hh * hd = h3) (ev : u1 * hh = v) (er2 : rr * rr = r2) (ev2 : v + v = v2) (et1 : h3 + v2 = t1) (eX : r2 + (m.M - t1 % m.M) = X) (et2 : v + (m.M - X % m.M) = t2) (et3 : rr * t2 = t3) (et4 : s1 * h3 = t4) (eY : t3 + (m.M - t4 % m.M) = Y) (ezz : z1 * z2 = zz) (eZ : hd * zz = Z) (hd0 : ((hd % m.M == 0) = true → (rr % m.M == 0) = true → ∀ wx, Fr Nob w wx → Calls Tryz.prog 72 #[.pointer (some ⟨gc, 0, none⟩), ptV m x1 y1 z1] wx fun e w' => e = .returned (ptV m DX DY DZ) ∧ Fr Nob wx w')) :
    Calls Tryz.prog 73 #[.pointer (some ⟨gc, 0, none⟩), ptV m x1 y1 z1, ptV m x2 y2 z2] w fun e w' => e = .returned (plusV (hd % m.M == 0) (rr % m.M == 0) (ptV m DX DY DZ) (ptV m 1 1 0) (ptV m X Y Z)) ∧ Fr Nob w w' := by
  have HOK := Lib.hid hok
  have HCV := Lib.hid hcv
  have HPM := Lib.hid hpm
  clear hok hcv hpm
  have HB1 := Lib.hid hb1
  have HB2 := Lib.hid hb2
  have Hpp := Lib.hid epp
  have Hqq := Lib.hid eqq
  have Hu1 := Lib.hid eu1
  have Hu2 := Lib.hid eu2
  have Hq3 := Lib.hid eq3
  have Hs1 := Lib.hid es1
  have Hp3 := Lib.hid ep3
  have Hs2 := Lib.hid es2
  have Hhd := Lib.hid ehd
  have Hrr := Lib.hid err
  have Hhh := Lib.hid ehh
  have Hh3 := Lib.hid eh3
  have Hv := Lib.hid ev
  have Hr2 := Lib.hid er2
  have Hv2 := Lib.hid ev2
  have Ht1 := Lib.hid et1
  have HX := Lib.hid eX
  have Ht2 := Lib.hid et2
  have Ht3 := Lib.hid et3
  have Ht4 := Lib.hid et4
  have HY := Lib.hid eY
  have Hzz := Lib.hid ezz
  have HZ := Lib.hid eZ
  have HD0 := Lib.hid hd0
  clear hd0 hb1 hb2 epp eqq eu1 eu2 eq3 es1 ep3 es2 ehd err ehh eh3 ev er2 ev2 et1 eX et2 et3 et4 eY ezz eZ
  unfold ptV ptL
  have st0 := St.start Nob w
  go_enter Tryz.func73, Tryz.ntmps73
  go_wp2_with (with_reducible refine wl_stop (o := ⟨some 4, _, _, _, _, _⟩) ?_)
  refine wl_boxS st0 rfl rfl rfl (cw 4 (elN m x1) ++ (cw 4 (elN m y1) ++ cw 4 (elN m z1))) rfl ?_
  intro g4 w1 st1
  clear st0
  go_wp2_with (with_reducible refine wl_stop (o := ⟨some 5, _, _, _, _, _⟩) ?_)
  refine wl_boxS st1 rfl rfl rfl (cw 4 (elN m x2) ++ (cw 4 (elN m y2) ++ cw 4 (elN m z2))) rfl ?_
  intro g5 w2 st2
  clear st1
  go_wp2_with (with_reducible refine wl_stop (o := ⟨some 6, _, _, _, _, _⟩) ?_)
  refine wl_allocS st2 rfl rfl (z := .agg #[.int .u64 0, .int .u64 0, .int .u64 0, .int .u64 0, .int .u64 0, .int .u64 0, .int .u64 0, .int .u64 0, .int .u64 0, .int .u64 0, .int .u64 0, .int .u64 0]) (by kernel_rfl) (cw 12 0) (by rw [cw_zero]; rfl) ?_
  intro g6 w3 st3
  clear st2
  go_wp2_with (with_reducible refine wl_stop (o := ⟨some 20, _, _, _, _, _⟩) ?_)
  refine wl_loadSt st3 0 rfl rfl rfl Tryz.underlying60 rfl rfl (by kernel_rfl) ?_
  go_wp2_with fail
  refine (none_any m HOK.out x1 y1 z1 false HB1.out _).mono ?_
  rintro e' w4 ⟨rfl, hf4⟩
  have st4 := st3.keep hf4
  clear st3 hf4
  go_wp2_with (with_reducible refine wl_stop (o := ⟨some 24, _, _, _, _, _⟩) ?_)
  refine wl_loadSt st4 1 rfl rfl rfl Tryz.underlying60 rfl rfl (by kernel_rfl) ?_
  go_wp2_with fail
  refine (none_any m HOK.out x2 y2 z2 false HB2.out _).mono ?_
  rintro e' w5 ⟨rfl, hf5⟩
  have st5 := st4.keep hf5
  clear st4 hf5
  go_wp2_with fail
  refine wp_region_noPanic ?_
  refine wp_region_lad st5 17 [.o 14, .o 15, .w 0, .w 1, .w 2, .t 3, .w 4, .t 5, .w 7, .w 8, .w 9, .t 10, .w 11, .t 12, .c 6, .c 13, .j 14, .j 15] (.r 16 (.m 17 .nil)) (by kernel_rfl) (by kernel_rfl) (fun _ _ _ _ _ h => h) ?_
  clear st5
  refine lad_o rfl rfl rfl z_ge (cw 4 0) rfl ?_
  try simp only [Go.Mv.clL]
  refine lad_o rfl rfl rfl z_ge (cw 4 0) rfl ?_
  try simp only [Go.Mv.clL]
  refine lad_w (v := ?_) rfl rfl (fun xq wx => ?_) ?_
  rotate_left 1
  · (go_simp; with_reducible rfl)
  try simp only [Go.Mv.clL]
  refine lad_w (v := ?_) rfl rfl (fun xq wx => ?_) ?_
  rotate_left 1
  · (go_simp; with_reducible rfl)
  try simp only [Go.Mv.clL]
  refine lad_w (v := ?_) rfl rfl (fun xq wx => ?_) ?_
  rotate_left 1
  · (go_simp; with_reducible rfl)
  try simp only [Go.Mv.clL]
  refine lad_t (v := ?_) rfl rfl (fun xq wx hS => ?_) ?_
  rotate_left 1
  · (have hc := (HCV.out.keep (St.fr hS) id).cell (i := 0) rfl; clear hS; go_simp; with_reducible rfl)
  try simp only [Go.Mv.clL]
  refine lad_w (v := ?_) rfl rfl (fun xq wx => ?_) ?_
  rotate_left 1
  · (go_simp; with_reducible rfl)
  try simp only [Go.Mv.clL]
  refine lad_arr rfl rfl rfl (fun _ => rfl) (cw 4 (elN m z1)) (fun wx hS => St.rangeL hS 0 rfl 8 _ (pt_z _ _ _)) Tryz.underlying58 rfl (by kernel_rfl) ?_
  try simp only [Go.Mv.clL]
  refine lad_w (v := ?_) rfl rfl (fun xq wx => ?_) ?_
  rotate_left 1
  · (go_simp; with_reducible rfl)
  try simp only [Go.Mv.clL]
  refine lad_w (v := ?_) rfl rfl (fun xq wx => ?_) ?_
  rotate_left 1
  · (go_simp; with_reducible rfl)
  try simp only [Go.Mv.clL]
  refine lad_w (v := ?_) rfl rfl (fun xq wx => ?_) ?_
  rotate_left 1
  · (go_simp; with_reducible rfl)
  try simp only [Go.Mv.clL]
  refine lad_t (v := ?_) rfl rfl (fun xq wx hS => ?_) ?_
  rotate_left 1
  · (have hc := (HCV.out.keep (St.fr hS) id).cell (i := 0) rfl; clear hS; go_simp; with_reducible rfl)
  try simp only [Go.Mv.clL]
  refine lad_w (v := ?_) rfl rfl (fun xq wx => ?_) ?_
  rotate_left 1
  · (go_simp; with_reducible rfl)
  try simp only [Go.Mv.clL]
  refine lad_arr rfl rfl rfl (fun _ => rfl) (cw 4 (elN m z2)) (fun wx hS => St.rangeL hS 1 rfl 8 _ (pt_z _ _ _)) Tryz.underlying58 rfl (by kernel_rfl) ?_
  try simp only [Go.Mv.clL]
  refine lad_call rfl rfl rfl Tryz.call63 (fun w hS hR => MSquare_v m gp _ HOK.out (HPM.out.keep hS.fr id) z1 pp Hpp.out) (fun _ => rfl) ?_
  try simp only [Go.Mv.clL]
  refine lad_call rfl rfl rfl Tryz.call63 (fun w hS hR => MSquare_v m gp _ HOK.out (HPM.out.keep hS.fr id) z2 qq Hqq.out) (fun _ => rfl) ?_
  try simp only [Go.Mv.clL]
  refine lad_j (List.mem_cons_of_mem _ List.mem_cons_self) fun g7 => ?_
  simp only [upd, reduceIte]
  try simp only [Nat.reduceEqDiff, reduceIte]
  refine lad_j List.mem_cons_self fun g8 => ?_
  simp only [upd, reduceIte]
  refine lad_end fun xq w6 st6 hR => ?_
  try dsimp only
  clear hR xq
  refine plan_r rfl rfl ?_
  refine wp_storeS st6 3 rfl rfl rfl rfl (by simp [cw_len]) (by kernel_rfl) (cw_one _ _) ?_
  intro w7 st7
  repeat (first | simp only [List.cons_append] at st7 | simp only [List.nil_append] at st7 | simp only [List.set_cons_succ] at st7 | simp only [List.set_cons_zero] at st7)
  clear st6
  refine ⟨by first | exact st7 | exact St.less st7 (by simp), ?_⟩
  try simp only [Act.put]
  refine plan_m rfl rfl ?_
  refine wp_storeS st7 4 rfl rfl rfl rfl (by simp [cw_len]) (by kernel_rfl) (cw_one _ _) ?_
  intro w8 st8
  try simp only [List.set_cons_zero, List.set_cons_succ] at st8
  clear st7
  try simp only [Act.put]
  refine plan_end ?_
  refine NoPanic.normal ?_
  go_wp2_with fail
  refine wp_region_noPanic ?_
  refine wp_region_lad st8 19 [.o 16, .o 17, .w 0, .w 1, .w 2, .t 3, .w 4, .t 5, .t 6, .w 8, .w 9, .w 10, .t 11, .w 12, .t 13, .t 14, .c 7, .c 15, .j 16, .j 17] (.r 18 (.m 19 .nil)) (by kernel_rfl) (by kernel_rfl) (fun _ _ _ _ _ h => h) ?_
  clear st8
  refine lad_o rfl rfl rfl z_ge (cw 4 0) rfl ?_
  try simp only [Go.Mv.clL]
  refine lad_o rfl rfl rfl z_ge (cw 4 0) rfl ?_
  try simp only [Go.Mv.clL]
  refine lad_w (v := ?_) rfl rfl (fun xq wx => ?_) ?_
  rotate_left 1
  · (go_simp; with_reducible rfl)
  try simp only [Go.Mv.clL]
  refine lad_w (v := ?_) rfl rfl (fun xq wx => ?_) ?_
  rotate_left 1
  · (go_simp; with_reducible rfl)
  try simp only [Go.Mv.clL]
  refine lad_w (v := ?_) rfl rfl (fun xq wx => ?_) ?_
  rotate_left 1
  · (go_simp; with_reducible rfl)
  try simp only [Go.Mv.clL]
  refine lad_t (v := ?_) rfl rfl (fun xq wx hS => ?_) ?_
  rotate_left 1
  · (have hc := (HCV.out.keep (St.fr hS) id).cell (i := 0) rfl; clear hS; go_simp; with_reducible rfl)
  try simp only [Go.Mv.clL]
  refine lad_w (v := ?_) rfl rfl (fun xq wx => ?_) ?_
  rotate_left 1
  · (go_simp; with_reducible rfl)
  try simp only [Go.Mv.clL]
  refine lad_arr rfl rfl rfl (fun _ => rfl) (cw 4 (elN m x1)) (fun wx hS => St.rangeL hS 0 rfl 0 _ (pt_x _ _ _)) Tryz.underlying58 rfl (by kernel_rfl) ?_
  try simp only [Go.Mv.clL]
  refine lad_arr rfl rfl rfl (fun _ => rfl) (cw 4 (elN m qq)) (fun wx hS => St.rangeL hS 4 rfl 0 _ (by rw [List.drop_zero, List.take_of_length_le (Nat.le_refl _)])) Tryz.underlying58 rfl (by kernel_rfl) ?_
  try simp only [Go.Mv.clL]
  refine lad_w (v := ?_) rfl rfl (fun xq wx => ?_) ?_
  rotate_left 1
  · (go_simp; with_reducible rfl)
  try simp only [Go.Mv.clL]
  refine lad_w (v := ?_) rfl rfl (fun xq wx => ?_) ?_
  rotate_left 1
  · (go_simp; with_reducible rfl)
  try simp only [Go.Mv.clL]
  refine lad_w (v := ?_) rfl rfl (fun xq wx => ?_) ?_
  rotate_left 1
  · (go_simp; with_reducible rfl)
  try simp only [Go.Mv.clL]
  refine lad_t (v := ?_) rfl rfl (fun xq wx hS => ?_) ?_
  rotate_left 1
  · (have hc := (HCV.out.keep (St.fr hS) id).cell (i := 0) rfl; clear hS; go_simp; with_reducible rfl)
  try simp only [Go.Mv.clL]
  refine lad_w (v := ?_) rfl rfl (fun xq wx => ?_) ?_
  rotate_left 1
  · (go_simp; with_reducible rfl)
  try simp only [Go.Mv.clL]
  refine lad_arr rfl rfl rfl (fun _ => rfl) (cw 4 (elN m x2)) (fun wx hS => St.rangeL hS 1 rfl 0 _ (pt_x _ _ _)) Tryz.underlying58 rfl (by kernel_rfl) ?_
  try simp only [Go.Mv.clL]
  refine lad_arr rfl rfl rfl (fun _ => rfl) (cw 4 (elN m pp)) (fun wx hS => St.rangeL hS 3 rfl 0 _ (by rw [List.drop_zero, List.take_of_length_le (Nat.le_refl _)])) Tryz.underlying58 rfl (by kernel_rfl) ?_
  try simp only [Go.Mv.clL]
  refine lad_call rfl rfl rfl Tryz.call65 (fun w hS hR => MMul_v m gp _ HOK.out (HPM.out.keep hS.fr id) x1 qq u1 Hu1.out) (fun _ => rfl) ?_
  try simp only [Go.Mv.clL]
  refine lad_call rfl rfl rfl Tryz.call65 (fun w hS hR => MMul_v m gp _ HOK.out (HPM.out.keep hS.fr id) x2 pp u2 Hu2.out) (fun _ => rfl) ?_
  try simp only [Go.Mv.clL]
  refine lad_j (List.mem_cons_of_mem _ List.mem_cons_self) fun g9 => ?_
  simp only [upd, reduceIte]
  try simp only [Nat.reduceEqDiff, reduceIte]
  refine lad_j List.mem_cons_self fun g10 => ?_
  simp only [upd, reduceIte]
  refine lad_end fun xq w9 st9 hR => ?_
  try dsimp only
  clear hR xq
  refine plan_r rfl rfl ?_
  refine wp_storeS st9 5 rfl rfl rfl rfl (by simp [cw_len]) (by kernel_rfl) (cw_one _ _) ?_
  intro w10 st10
  repeat (first | simp only [List.cons_append] at st10 | simp only [List.nil_append] at st10 | simp only [List.set_cons_succ] at st10 | simp only [List.set_cons_zero] at st10)
  clear st9
  refine ⟨by first | exact st10 | exact St.less st10 (by simp), ?_⟩
  try simp only [Act.put]
  refine plan_m rfl rfl ?_
  refine wp_storeS st10 6 rfl rfl rfl rfl (by simp [cw_len]) (by kernel_rfl) (cw_one _ _) ?_
  intro w11 st11
  try simp only [List.set_cons_zero, List.set_cons_succ] at st11
  clear st10
  try simp only [Act.put]
  refine plan_end ?_
  refine NoPanic.normal ?_
  go_wp2_with fail
  refine wp_region_noPanic ?_
  refine wp_region_lad st11 33 [.o 30, .o 31, .w 0, .w 1, .w 2, .t 3, .w 4, .t 5, .w 6, .w 7, .w 8, .t 9, .t 10, .w 11, .t 12, .w 15, .w 16, .w 17, .t 18, .w 19, .t 20, .w 21, .w 22, .w 23, .t 24, .t 25, .w 26, .t 27, .c 13, .c 14, .c 28, .c 29, .j 30, .j 31] (.r 32 (.m 33 .nil)) (by kernel_rfl) (by kernel_rfl) (fun _ _ _ _ _ h => h) ?_
  clear st11
  refine lad_o rfl rfl rfl z_ge (cw 4 0) rfl ?_
  try simp only [Go.Mv.clL]
  refine lad_o rfl rfl rfl z_ge (cw 4 0) rfl ?_
  try simp only [Go.Mv.clL]
  refine lad_w (v := ?_) rfl rfl (fun xq wx => ?_) ?_
  rotate_left 1
  · (go_simp; with_reducible rfl)
  try simp only [Go.Mv.clL]
  refine lad_w (v := ?_) rfl rfl (fun xq wx => ?_) ?_
  rotate_left 1
  · (go_simp; with_reducible rfl)
  try simp only [Go.Mv.clL]
  refine lad_w (v := ?_) rfl rfl (fun xq wx => ?_) ?_
  rotate_left 1
  · (go_simp; with_reducible rfl)
  try simp only [Go.Mv.clL]
  refine lad_t (v := ?_) rfl rfl (fun xq wx hS => ?_) ?_
  rotate_left 1
  · (have hc := (HCV.out.keep (St.fr hS) id).cell (i := 0) rfl; clear hS; go_simp; with_reducible rfl)
  try simp only [Go.Mv.clL]
  refine lad_w (v := ?_) rfl rfl (fun xq wx => ?_) ?_
  rotate_left 1
  · (go_simp; with_reducible rfl)
  try simp only [Go.Mv.clL]
  refine lad_arr rfl rfl rfl (fun _ => rfl) (cw 4 (elN m y1)) (fun wx hS => St.rangeL hS 0 rfl 4 _ (pt_y _ _ _)) Tryz.underlying58 rfl (by kernel_rfl) ?_
  try simp only [Go.Mv.clL]
  refine lad_w (v := ?_) rfl rfl (fun xq wx => ?_) ?_
  rotate_left 1
  · (go_simp; with_reducible rfl)
  try simp only [Go.Mv.clL]
  refine lad_w (v := ?_) rfl rfl (fun xq wx => ?_) ?_
  rotate_left 1
  · (go_simp; with_reducible rfl)
  try simp only [Go.Mv.clL]
  refine lad_w (v := ?_) rfl rfl (fun xq wx => ?_) ?_
  rotate_left 1
  · (go_simp; with_reducible rfl)
  try simp only [Go.Mv.clL]
  refine lad_t (v := ?_) rfl rfl (fun xq wx hS => ?_) ?_
  rotate_left 1
  · (have hc := (HCV.out.keep (St.fr hS) id).cell (i := 0) rfl; clear hS; go_simp; with_reducible rfl)
  try simp only [Go.Mv.clL]
  refine lad_arr rfl rfl rfl (fun _ => rfl) (cw 4 (elN m qq)) (fun wx hS => St.rangeL hS 4 rfl 0 _ (by rw [List.drop_zero, List.take_of_length_le (Nat.le_refl _)])) Tryz.underlying58 rfl (by kernel_rfl) ?_
  try simp only [Go.Mv.clL]
  refine lad_w (v := ?_) rfl rfl (fun xq wx => ?_) ?_
  rotate_left 1
  · (go_simp; with_reducible rfl)
  try simp only [Go.Mv.clL]
  refine lad_arr rfl rfl rfl (fun _ => rfl) (cw 4 (elN m z2)) (fun wx hS => St.rangeL hS 1 rfl 8 _ (pt_z _ _ _)) Tryz.underlying58 rfl (by kernel_rfl) ?_
  try simp only [Go.Mv.clL]
  refine lad_w (v := ?_) rfl rfl (fun xq wx => ?_) ?_
  rotate_left 1
  · (go_simp; with_reducible rfl)
  try simp only [Go.Mv.clL]
  refine lad_w (v := ?_) rfl rfl (fun xq wx => ?_) ?_
  rotate_left 1
  · (go_simp; with_reducible rfl)
  try simp only [Go.Mv.clL]
  refine lad_w (v := ?_) rfl rfl (fun xq wx => ?_) ?_
  rotate_left 1
  · (go_simp; with_reducible rfl)
  try simp only [Go.Mv.clL]
  refine lad_t (v := ?_) rfl rfl (fun xq wx hS => ?_) ?_
  rotate_left 1
  · (have hc := (HCV.out.keep (St.fr hS) id).cell (i := 0) rfl; clear hS; go_simp; with_reducible rfl)
  try simp only [Go.Mv.clL]
  refine lad_w (v := ?_) rfl rfl (fun xq wx => ?_) ?_
  rotate_left 1
  · (go_simp; with_reducible rfl)
  try simp only [Go.Mv.clL]
  refine lad_arr rfl rfl rfl (fun _ => rfl) (cw 4 (elN m y2)) (fun wx hS => St.rangeL hS 1 rfl 4 _ (pt_y _ _ _)) Tryz.underlying58 rfl (by kernel_rfl) ?_
  try simp only [Go.Mv.clL]
  refine lad_w (v := ?_) rfl rfl (fun xq wx => ?_) ?_
  rotate_left 1
  · (go_simp; with_reducible rfl)
  try simp only [Go.Mv.clL]
  refine lad_w (v := ?_) rfl rfl (fun xq wx => ?_) ?_
  rotate_left 1
  · (go_simp; with_reducible rfl)
  try simp only [Go.Mv.clL]
  refine lad_w (v := ?_) rfl rfl (fun xq wx => ?_) ?_
  rotate_left 1
  · (go_simp; with_reducible rfl)
  try simp only [Go.Mv.clL]
  refine lad_t (v := ?_) rfl rfl (fun xq wx hS => ?_) ?_
  rotate_left 1
  · (have hc := (HCV.out.keep (St.fr hS) id).cell (i := 0) rfl; clear hS; go_simp; with_reducible rfl)
  try simp only [Go.Mv.clL]
  refine lad_arr rfl rfl rfl (fun _ => rfl) (cw 4 (elN m pp)) (fun wx hS => St.rangeL hS 3 rfl 0 _ (by rw [List.drop_zero, List.take_of_length_le (Nat.le_refl _)])) Tryz.underlying58 rfl (by kernel_rfl) ?_
  try simp only [Go.Mv.clL]
  refine lad_w (v := ?_) rfl rfl (fun xq wx => ?_) ?_
  rotate_left 1
  · (go_simp; with_reducible rfl)
  try simp only [Go.Mv.clL]
  refine lad_arr rfl rfl rfl (fun _ => rfl) (cw 4 (elN m z1)) (fun wx hS => St.rangeL hS 0 rfl 8 _ (pt_z _ _ _)) Tryz.underlying58 rfl (by kernel_rfl) ?_
  try simp only [Go.Mv.clL]
  refine lad_call rfl rfl rfl Tryz.call65 (fun w hS hR => MMul_v m gp _ HOK.out (HPM.out.keep hS.fr id) qq z2 q3 Hq3.out) (fun _ => rfl) ?_
  try simp only [Go.Mv.clL]
  refine lad_call rfl rfl rfl Tryz.call65 (fun w hS hR => MMul_v m gp _ HOK.out (HPM.out.keep hS.fr id) y1 q3 s1 Hs1.out) (fun _ => rfl) ?_
  try simp only [Go.Mv.clL]
  refine lad_call rfl rfl rfl Tryz.call65 (fun w hS hR => MMul_v m gp _ HOK.out (HPM.out.keep hS.fr id) pp z1 p3 Hp3.out) (fun _ => rfl) ?_
  try simp only [Go.Mv.clL]
  refine lad_call rfl rfl rfl Tryz.call65 (fun w hS hR => MMul_v m gp _ HOK.out (HPM.out.keep hS.fr id) y2 p3 s2 Hs2.out) (fun _ => rfl) ?_
  try simp only [Go.Mv.clL]
  refine lad_j (List.mem_cons_of_mem _ List.mem_cons_self) fun g11 => ?_
  simp only [upd, reduceIte]
  try simp only [Nat.reduceEqDiff, reduceIte]
  refine lad_j List.mem_cons_self fun g12 => ?_
  simp only [upd, reduceIte]
  refine lad_end fun xq w12 st12 hR => ?_
  try dsimp only
  clear hR xq
  refine plan_r rfl rfl ?_
  refine wp_storeS st12 7 rfl rfl rfl rfl (by simp [cw_len]) (by kernel_rfl) (cw_one _ _) ?_
  intro w13 st13
  repeat (first | simp only [List.cons_append] at st13 | simp only [List.nil_append] at st13 | simp only [List.set_cons_succ] at st13 | simp only [List.set_cons_zero] at st13)
  clear st12
  refine ⟨by first | exact st13 | exact St.less st13 (by simp), ?_⟩
  try simp only [Act.put]
  refine plan_m rfl rfl ?_
  refine wp_storeS st13 8 rfl rfl rfl rfl (by simp [cw_len]) (by kernel_rfl) (cw_one _ _) ?_
  intro w14 st14
  try simp only [List.set_cons_zero, List.set_cons_succ] at st14
  clear st13
  try simp only [Act.put]
  refine plan_end ?_
  refine NoPanic.normal ?_
  go_wp2_with fail
  refine wp_region_noPanic ?_
  refine wp_region_lad st14 17 [.o 14, .o 15, .w 0, .w 1, .w 2, .t 3, .t 4, .t 5, .w 7, .w 8, .w 9, .t 10, .t 11, .t 12, .c 6, .c 13, .j 14, .j 15] (.r 16 (.m 17 .nil)) (by kernel_rfl) (by kernel_rfl) (fun _ _ _ _ _ h => h) ?_
  clear st14
  refine lad_o rfl rfl rfl z_ge (cw 4 0) rfl ?_
  try simp only [Go.Mv.clL]
  refine lad_o rfl rfl rfl z_ge (cw 4 0) rfl ?_
  try simp only [Go.Mv.clL]
  refine lad_w (v := ?_) rfl rfl (fun xq wx => ?_) ?_
  rotate_left 1
  · (go_simp; with_reducible rfl)
  try simp only [Go.Mv.clL]
  refine lad_w (v := ?_) rfl rfl (fun xq wx => ?_) ?_
  rotate_left 1
  · (go_simp; with_reducible rfl)
  try simp only [Go.Mv.clL]
  refine lad_w (v := ?_) rfl rfl (fun xq wx => ?_) ?_
  rotate_left 1
  · (go_simp; with_reducible rfl)
  try simp only [Go.Mv.clL]
  refine lad_t (v := ?_) rfl rfl (fun xq wx hS => ?_) ?_
  rotate_left 1
  · (have hc := (HCV.out.keep (St.fr hS) id).cell (i := 0) rfl; clear hS; go_simp; with_reducible rfl)
  try simp only [Go.Mv.clL]
  refine lad_arr rfl rfl rfl (fun _ => rfl) (cw 4 (elN m u2)) (fun wx hS => St.rangeL hS 6 rfl 0 _ (by rw [List.drop_zero, List.take_of_length_le (Nat.le_refl _)])) Tryz.underlying58 rfl (by kernel_rfl) ?_
  try simp only [Go.Mv.clL]
  refine lad_arr rfl rfl rfl (fun _ => rfl) (cw 4 (elN m u1)) (fun wx hS => St.rangeL hS 5 rfl 0 _ (by rw [List.drop_zero, List.take_of_length_le (Nat.le_refl _)])) Tryz.underlying58 rfl (by kernel_rfl) ?_
  try simp only [Go.Mv.clL]
  refine lad_w (v := ?_) rfl rfl (fun xq wx => ?_) ?_
  rotate_left 1
  · (go_simp; with_reducible rfl)
  try simp only [Go.Mv.clL]
  refine lad_w (v := ?_) rfl rfl (fun xq wx => ?_) ?_
  rotate_left 1
  · (go_simp; with_reducible rfl)
  try simp only [Go.Mv.clL]
  refine lad_w (v := ?_) rfl rfl (fun xq wx => ?_) ?_
  rotate_left 1
  · (go_simp; with_reducible rfl)
  try simp only [Go.Mv.clL]
  refine lad_t (v := ?_) rfl rfl (fun xq wx hS => ?_) ?_
  rotate_left 1
  · (have hc := (HCV.out.keep (St.fr hS) id).cell (i := 0) rfl; clear hS; go_simp; with_reducible rfl)
  try simp only [Go.Mv.clL]
  refine lad_arr rfl rfl rfl (fun _ => rfl) (cw 4 (elN m s2)) (fun wx hS => St.rangeL hS 8 rfl 0 _ (by rw [List.drop_zero, List.take_of_length_le (Nat.le_refl _)])) Tryz.underlying58 rfl (by kernel_rfl) ?_
  try simp only [Go.Mv.clL]
  refine lad_arr rfl rfl rfl (fun _ => rfl) (cw 4 (elN m s1)) (fun wx hS => St.rangeL hS 7 rfl 0 _ (by rw [List.drop_zero, List.take_of_length_le (Nat.le_refl _)])) Tryz.underlying58 rfl (by kernel_rfl) ?_
  try simp only [Go.Mv.clL]
  refine lad_call rfl rfl rfl Tryz.call107 (fun w hS hR => MSub_v m gp _ HOK.out (HPM.out.keep hS.fr id) u2 u1 hd Hhd.out) (fun _ => rfl) ?_
  try simp only [Go.Mv.clL]
  refine lad_call rfl rfl rfl Tryz.call107 (fun w hS hR => MSub_v m gp _ HOK.out (HPM.out.keep hS.fr id) s2 s1 rr Hrr.out) (fun _ => rfl) ?_
  try simp only [Go.Mv.clL]
  refine lad_j (List.mem_cons_of_mem _ List.mem_cons_self) fun g13 => ?_
  simp only [upd, reduceIte]
  try simp only [Nat.reduceEqDiff, reduceIte]
  refine lad_j List.mem_cons_self fun g14 => ?_
  simp only [upd, reduceIte]
  refine lad_end fun xq w15 st15 hR => ?_
  try dsimp only
  clear hR xq
  refine plan_r rfl rfl ?_
  refine wp_storeS st15 9 rfl rfl rfl rfl (by simp [cw_len]) (by kernel_rfl) (cw_one _ _) ?_
  intro w16 st16
  repeat (first | simp only [List.cons_append] at st16 | simp only [List.nil_append] at st16 | simp only [List.set_cons_succ] at st16 | simp only [List.set_cons_zero] at st16)
  clear st15
  refine ⟨by first | exact st16 | exact St.less st16 (by simp), ?_⟩
  try simp only [Act.put]
  refine plan_m rfl rfl ?_
  refine wp_storeS st16 10 rfl rfl rfl rfl (by simp [cw_len]) (by kernel_rfl) (cw_one _ _) ?_
  intro w17 st17
  try simp only [List.set_cons_zero, List.set_cons_succ] at st17
  clear st16
  try simp only [Act.put]
  refine plan_end ?_
  refine NoPanic.normal ?_
  rcases Bool.eq_false_or_eq_true (hd % m.M == 0) with hh0 | hh0
  · have HHZ := Lib.hid hh0
    rcases Bool.eq_false_or_eq_true (rr % m.M == 0) with hr0 | hr0
    · have HRZ := Lib.hid hr0
      have HDB := Lib.hid (show ∀ wx, Fr Nob w wx → Calls Tryz.prog 72 #[.pointer (some ⟨gc, 0, none⟩), .agg (cw 4 (elN m x1) ++ (cw 4 (elN m y1) ++ cw 4 (elN m z1))).toArray] wx fun e w' => e = .returned (.agg (cw 4 (elN m DX) ++ (cw 4 (elN m DY) ++ cw 4 (elN m DZ))).toArray) ∧ Fr Nob wx w' from HD0.out hh0 hr0)
      clear hh0 hr0 HD0
      go_wp2_with (with_reducible refine wl_stop (o := ⟨some 101, _, _, _, _, _⟩) ?_)
      refine wl_loadS st17 9 rfl rfl rfl Tryz.underlying58 rfl (by kernel_rfl) ?_
      go_wp2_with fail
      refine (EZero_any m HOK.out hd true HHZ.out _).mono ?_
      rintro e' w18 ⟨rfl, hf18⟩
      have st18 := st17.keep hf18
      clear st17 hf18
      go_wp2_with (with_reducible refine wl_stop (o := ⟨some 103, _, _, _, _, _⟩) ?_)
      refine wl_loadS st18 10 rfl rfl rfl Tryz.underlying58 rfl (by kernel_rfl) ?_
      go_wp2_with fail
      refine (EZero_any m HOK.out rr true HRZ.out _).mono ?_
      rintro e' w19 ⟨rfl, hf19⟩
      have st19 := st18.keep hf19
      clear st18 hf19
      go_wp2_with (with_reducible refine wl_stop (o := ⟨some 106, _, _, _, _, _⟩) ?_)
      refine wl_loadSt st19 0 rfl rfl rfl Tryz.underlying60 rfl rfl (by kernel_rfl) ?_
      go_wp2_with fail
      refine (HDB.out _ st19.fr).mono ?_
      rintro e' w20 ⟨rfl, hf20⟩
      have st20 := st19.keep hf20
      clear st19 hf20
      go_wp2_with (with_reducible refine wl_stop (o := ⟨none, _, _, _, _, _⟩) ?_)
      refine wl_storeS st20 2 rfl rfl rfl rfl rfl (by simp [cw_len]) (by kernel_rfl) (pt_one _ _ _) ?_
      intro w21 st21
      clear st20
      have hr := st21.at 2 rfl
      have hfr := st21.fr
      clear st21
      go_wp2_with fail
      exact bodyPost_ret (results_st rfl rfl hr Tryz.underlying60 rfl (by kernel_rfl)) rfl ⟨by rw [HHZ.out, HRZ.out]; rfl, hfr⟩
    · have HRZ := Lib.hid hr0
      clear hh0 hr0 HD0
      go_wp2_with (with_reducible refine wl_stop (o := ⟨some 101, _, _, _, _, _⟩) ?_)
      refine wl_loadS st17 9 rfl rfl rfl Tryz.underlying58 rfl (by kernel_rfl) ?_
      go_wp2_with fail
      refine (EZero_any m HOK.out hd true HHZ.out _).mono ?_
      rintro e' w18 ⟨rfl, hf18⟩
      have st18 := st17.keep hf18
      clear st17 hf18
      go_wp2_with (with_reducible refine wl_stop (o := ⟨some 103, _, _, _, _, _⟩) ?_)
      refine wl_loadS st18 10 rfl rfl rfl Tryz.underlying58 rfl (by kernel_rfl) ?_
      go_wp2_with fail
      refine (EZero_any m HOK.out rr false HRZ.out _).mono ?_
      rintro e' w19 ⟨rfl, hf19⟩
      have st19 := st18.keep hf19
      clear st18 hf19
      go_wp2_with fail
      refine (nothing_u m gc gp bx by_ _ HOK.out (HCV.out.keep st19.fr id) (HPM.out.keep st19.fr id)).mono ?_
      rintro e' w20 ⟨rfl, hf20⟩
      have st20 := st19.keep hf20
      clear st19 hf20
      go_wp2_with (with_reducible refine wl_stop (o := ⟨none, _, _, _, _, _⟩) ?_)
      refine wl_storeS st20 2 rfl rfl rfl rfl rfl (by simp [cw_len]) (by kernel_rfl) (pt_one _ _ _) ?_
      intro w21 st21
      clear st20
      have hr := st21.at 2 rfl
      have hfr := st21.fr
      clear st21
      go_wp2_with fail
      exact bodyPost_ret (results_st rfl rfl hr Tryz.underlying60 rfl (by kernel_rfl)) rfl ⟨by rw [HHZ.out, HRZ.out]; rfl, hfr⟩
  · have HHZ := Lib.hid hh0
    clear hh0 HD0
    go_wp2_with (with_reducible refine wl_stop (o := ⟨some 101, _, _, _, _, _⟩) ?_)
    refine wl_loadS st17 9 rfl rfl rfl Tryz.underlying58 rfl (by kernel_rfl) ?_
    go_wp2_with fail
    refine (EZero_any m HOK.out hd false HHZ.out _).mono ?_
    rintro e' w18 ⟨rfl, hf18⟩
    have st18 := st17.keep hf18
    clear st17 hf18
    go_wp2_with fail
    refine wp_region_noPanic ?_
    refine wp_region_lad st18 7 [.o 6, .w 0, .w 1, .w 2, .t 3, .t 4, .c 5, .j 6] (.m 7 .nil) (by kernel_rfl) (by kernel_rfl) (fun _ _ _ _ _ h => h) ?_
    clear st18
    refine lad_o rfl rfl rfl z_ge (cw 4 0) rfl ?_
    try simp only [Go.Mv.clL]
    refine lad_w (v := ?_) rfl rfl (fun xq wx => ?_) ?_
    rotate_left 1
    · (go_simp; with_reducible rfl)
    try simp only [Go.Mv.clL]
    refine lad_w (v := ?_) rfl rfl (fun xq wx => ?_) ?_
    rotate_left 1
    · (go_simp; with_reducible rfl)
    try simp only [Go.Mv.clL]
    refine lad_w (v := ?_) rfl rfl (fun xq wx => ?_) ?_
    rotate_left 1
    · (go_simp; with_reducible rfl)
    try simp only [Go.Mv.clL]
    refine lad_t (v := ?_) rfl rfl (fun xq wx hS => ?_) ?_
    rotate_left 1
    · (have hc := (HCV.out.keep (St.fr hS) id).cell (i := 0) rfl; clear hS; go_simp; with_reducible rfl)
    try simp only [Go.Mv.clL]
    refine lad_arr rfl rfl rfl (fun _ => rfl) (cw 4 (elN m hd)) (fun wx hS => St.rangeL hS 9 rfl 0 _ (by rw [List.drop_zero, List.take_of_length_le (Nat.le_refl _)])) Tryz.underlying58 rfl (by kernel_rfl) ?_
    try simp only [Go.Mv.clL]
    refine lad_call rfl rfl rfl Tryz.call63 (fun w hS hR => MSquare_v m gp _ HOK.out (HPM.out.keep hS.fr id) hd hh Hhh.out) (fun _ => rfl) ?_
    try simp only [Go.Mv.clL]
    refine lad_j List.mem_cons_self fun g15 => ?_
    simp only [upd, reduceIte]
    refine lad_end fun xq w19 st19 hR => ?_
    try dsimp only
    clear hR xq
    refine plan_m rfl rfl ?_
    refine wp_storeS st19 11 rfl rfl rfl rfl (by simp [cw_len]) (by kernel_rfl) (cw_one _ _) ?_
    intro w20 st20
    repeat (first | simp only [List.cons_append] at st20 | simp only [List.nil_append] at st20 | simp only [List.set_cons_succ] at st20 | simp only [List.set_cons_zero] at st20)
    clear st19
    try simp only [Act.put]
    refine plan_end ?_
    refine NoPanic.normal ?_
    go_wp2_with fail
    refine wp_region_noPanic ?_
    refine wp_region_lad st20 8 [.o 7, .w 0, .w 1, .w 2, .t 3, .t 4, .t 5, .c 6, .j 7] (.m 8 .nil) (by kernel_rfl) (by kernel_rfl) (fun _ _ _ _ _ h => h) ?_
    clear st20
    refine lad_o rfl rfl rfl z_ge (cw 4 0) rfl ?_
    try simp only [Go.Mv.clL]
    refine lad_w (v := ?_) rfl rfl (fun xq wx => ?_) ?_
    rotate_left 1
    · (go_simp; with_reducible rfl)
    try simp only [Go.Mv.clL]
    refine lad_w (v := ?_) rfl rfl (fun xq wx => ?_) ?_
    rotate_left 1
    · (go_simp; with_reducible rfl)
    try simp only [Go.Mv.clL]
    refine lad_w (v := ?_) rfl rfl (fun xq wx => ?_) ?_
    rotate_left 1
    · (go_simp; with_reducible rfl)
    try simp only [Go.Mv.clL]
    refine lad_t (v := ?_) rfl rfl (fun xq wx hS => ?_) ?_
    rotate_left 1
    · (have hc := (HCV.out.keep (St.fr hS) id).cell (i := 0) rfl; clear hS; go_simp; with_reducible rfl)
    try simp only [Go.Mv.clL]
    refine lad_arr rfl rfl rfl (fun _ => rfl) (cw 4 (elN m hh)) (fun wx hS => St.rangeL hS 11 rfl 0 _ (by rw [List.drop_zero, List.take_of_length_le (Nat.le_refl _)])) Tryz.underlying58 rfl (by kernel_rfl) ?_
    try simp only [Go.Mv.clL]
    refine lad_arr rfl rfl rfl (fun _ => rfl) (cw 4 (elN m hd)) (fun wx hS => St.rangeL hS 9 rfl 0 _ (by rw [List.drop_zero, List.take_of_length_le (Nat.le_refl _)])) Tryz.underlying58 rfl (by kernel_rfl) ?_
    try simp only [Go.Mv.clL]
    refine lad_call rfl rfl rfl Tryz.call65 (fun w hS hR => MMul_v m gp _ HOK.out (HPM.out.keep hS.fr id) hh hd h3 Hh3.out) (fun _ => rfl) ?_
    try simp only [Go.Mv.clL]
    refine lad_j List.mem_cons_self fun g16 => ?_
    simp only [upd, reduceIte]
    refine lad_end fun xq w21 st21 hR => ?_
    try dsimp only
    clear hR xq
    refine plan_m rfl rfl ?_
    refine wp_storeS st21 12 rfl rfl rfl rfl (by simp [cw_len]) (by kernel_rfl) (cw_one _ _) ?_
    intro w22 st22
    repeat (first | simp only [List.cons_append] at st22 | simp only [List.nil_append] at st22 | simp only [List.set_cons_succ] at st22 | simp only [List.set_cons_zero] at st22)
    clear st21
    try simp only [Act.put]
    refine plan_end ?_
    refine NoPanic.normal ?_
    go_wp2_with fail
    refine wp_region_noPanic ?_
    refine wp_region_lad st22 8 [.o 7, .w 0, .w 1, .w 2, .t 3, .t 4, .t 5, .c 6, .j 7] (.m 8 .nil) (by kernel_rfl) (by kernel_rfl) (fun _ _ _ _ _ h => h) ?_
    clear st22
    refine lad_o rfl rfl rfl z_ge (cw 4 0) rfl ?_
    try simp only [Go.Mv.clL]
    refine lad_w (v := ?_) rfl rfl (fun xq wx => ?_) ?_
    rotate_left 1
    · (go_simp; with_reducible rfl)
    try simp only [Go.Mv.clL]
    refine lad_w (v := ?_) rfl rfl (fun xq wx => ?_) ?_
    rotate_left 1
    · (go_simp; with_reducible rfl)
    try simp only [Go.Mv.clL]
    refine lad_w (v := ?_) rfl rfl (fun xq wx => ?_) ?_
    rotate_left 1
    · (go_simp; with_reducible rfl)
    try simp only [Go.Mv.clL]
    refine lad_t (v := ?_) rfl rfl (fun xq wx hS => ?_) ?_
    rotate_left 1
    · (have hc := (HCV.out.keep (St.fr hS) id).cell (i := 0) rfl; clear hS; go_simp; with_reducible rfl)
    try simp only [Go.Mv.clL]
    refine lad_arr rfl rfl rfl (fun _ => rfl) (cw 4 (elN m u1)) (fun wx hS => St.rangeL hS 5 rfl 0 _ (by rw [List.drop_zero, List.take_of_length_le (Nat.le_refl _)])) Tryz.underlying58 rfl (by kernel_rfl) ?_
    try simp only [Go.Mv.clL]
    refine lad_arr rfl rfl rfl (fun _ => rfl) (cw 4 (elN m hh)) (fun wx hS => St.rangeL hS 11 rfl 0 _ (by rw [List.drop_zero, List.take_of_length_le (Nat.le_refl _)])) Tryz.underlying58 rfl (by kernel_rfl) ?_
    try simp only [Go.Mv.clL]
    refine lad_call rfl rfl rfl Tryz.call65 (fun w hS hR => MMul_v m gp _ HOK.out (HPM.out.keep hS.fr id) u1 hh v Hv.out) (fun _ => rfl) ?_
    try simp only [Go.Mv.clL]
    refine lad_j List.mem_cons_self fun g17 => ?_
    simp only [upd, reduceIte]
    refine lad_end fun xq w23 st23 hR => ?_
    try dsimp only
    clear hR xq
    refine plan_m rfl rfl ?_
    refine wp_storeS st23 13 rfl rfl rfl rfl (by simp [cw_len]) (by kernel_rfl) (cw_one _ _) ?_
    intro w24 st24
    repeat (first | simp only [List.cons_append] at st24 | simp only [List.nil_append] at st24 | simp only [List.set_cons_succ] at st24 | simp only [List.set_cons_zero] at st24)
    clear st23
    try simp only [Act.put]
    refine plan_end ?_
    refine NoPanic.normal ?_
    go_wp2_with fail
    refine wp_region_noPanic ?_
    refine wp_region_lad st24 25 [.o 24, .w 0, .w 1, .w 2, .t 3, .w 4, .w 5, .w 6, .t 7, .t 8, .w 10, .w 11, .w 12, .t 13, .t 14, .w 15, .w 16, .w 17, .t 18, .t 19, .t 20, .c 9, .c 21, .c 22, .c 23, .j 24] (.m 25 .nil) (by kernel_rfl) (by kernel_rfl) (fun _ _ _ _ _ h => h) ?_
    clear st24
    refine lad_o rfl rfl rfl z_ge (cw 4 0) rfl ?_
    try simp only [Go.Mv.clL]
    refine lad_w (v := ?_) rfl rfl (fun xq wx => ?_) ?_
    rotate_left 1
    · (go_simp; with_reducible rfl)
    try simp only [Go.Mv.clL]
    refine lad_w (v := ?_) rfl rfl (fun xq wx => ?_) ?_
    rotate_left 1
    · (go_simp; with_reducible rfl)
    try simp only [Go.Mv.clL]
    refine lad_w (v := ?_) rfl rfl (fun xq wx => ?_) ?_
    rotate_left 1
    · (go_simp; with_reducible rfl)
    try simp only [Go.Mv.clL]
    refine lad_t (v := ?_) rfl rfl (fun xq wx hS => ?_) ?_
    rotate_left 1
    · (have hc := (HCV.out.keep (St.fr hS) id).cell (i := 0) rfl; clear hS; go_simp; with_reducible rfl)
    try simp only [Go.Mv.clL]
    refine lad_w (v := ?_) rfl rfl (fun xq wx => ?_) ?_
    rotate_left 1
    · (go_simp; with_reducible rfl)
    try simp only [Go.Mv.clL]
    refine lad_w (v := ?_) rfl rfl (fun xq wx => ?_) ?_
    rotate_left 1
    · (go_simp; with_reducible rfl)
    try simp only [Go.Mv.clL]
    refine lad_w (v := ?_) rfl rfl (fun xq wx => ?_) ?_
    rotate_left 1
    · (go_simp; with_reducible rfl)
    try simp only [Go.Mv.clL]
    refine lad_t (v := ?_) rfl rfl (fun xq wx hS => ?_) ?_
    rotate_left 1
    · (have hc := (HCV.out.keep (St.fr hS) id).cell (i := 0) rfl; clear hS; go_simp; with_reducible rfl)
    try simp only [Go.Mv.clL]
    refine lad_arr rfl rfl rfl (fun _ => rfl) (cw 4 (elN m rr)) (fun wx hS => St.rangeL hS 10 rfl 0 _ (by rw [List.drop_zero, List.take_of_length_le (Nat.le_refl _)])) Tryz.underlying58 rfl (by kernel_rfl) ?_
    try simp only [Go.Mv.clL]
    refine lad_w (v := ?_) rfl rfl (fun xq wx => ?_) ?_
    rotate_left 1
    · (go_simp; with_reducible rfl)
    try simp only [Go.Mv.clL]
    refine lad_w (v := ?_) rfl rfl (fun xq wx => ?_) ?_
    rotate_left 1
    · (go_simp; with_reducible rfl)
    try simp only [Go.Mv.clL]
    refine lad_w (v := ?_) rfl rfl (fun xq wx => ?_) ?_
    rotate_left 1
    · (go_simp; with_reducible rfl)
    try simp only [Go.Mv.clL]
    refine lad_t (v := ?_) rfl rfl (fun xq wx hS => ?_) ?_
    rotate_left 1
    · (have hc := (HCV.out.keep (St.fr hS) id).cell (i := 0) rfl; clear hS; go_simp; with_reducible rfl)
    try simp only [Go.Mv.clL]
    refine lad_arr rfl rfl rfl (fun _ => rfl) (cw 4 (elN m h3)) (fun wx hS => St.rangeL hS 12 rfl 0 _ (by rw [List.drop_zero, List.take_of_length_le (Nat.le_refl _)])) Tryz.underlying58 rfl (by kernel_rfl) ?_
    try simp only [Go.Mv.clL]
    refine lad_w (v := ?_) rfl rfl (fun xq wx => ?_) ?_
    rotate_left 1
    · (go_simp; with_reducible rfl)
    try simp only [Go.Mv.clL]
    refine lad_w (v := ?_) rfl rfl (fun xq wx => ?_) ?_
    rotate_left 1
    · (go_simp; with_reducible rfl)
    try simp only [Go.Mv.clL]
    refine lad_w (v := ?_) rfl rfl (fun xq wx => ?_) ?_
    rotate_left 1
    · (go_simp; with_reducible rfl)
    try simp only [Go.Mv.clL]
    refine lad_t (v := ?_) rfl rfl (fun xq wx hS => ?_) ?_
    rotate_left 1
    · (have hc := (HCV.out.keep (St.fr hS) id).cell (i := 0) rfl; clear hS; go_simp; with_reducible rfl)
    try simp only [Go.Mv.clL]
    refine lad_arr rfl rfl rfl (fun _ => rfl) (cw 4 (elN m v)) (fun wx hS => St.rangeL hS 13 rfl 0 _ (by rw [List.drop_zero, List.take_of_length_le (Nat.le_refl _)])) Tryz.underlying58 rfl (by kernel_rfl) ?_
    try simp only [Go.Mv.clL]
    refine lad_arr rfl rfl rfl (fun _ => rfl) (cw 4 (elN m v)) (fun wx hS => St.rangeL hS 13 rfl 0 _ (by rw [List.drop_zero, List.take_of_length_le (Nat.le_refl _)])) Tryz.underlying58 rfl (by kernel_rfl) ?_
    try simp only [Go.Mv.clL]
    refine lad_call rfl rfl rfl Tryz.call63 (fun w hS hR => MSquare_v m gp _ HOK.out (HPM.out.keep hS.fr id) rr r2 Hr2.out) (fun _ => rfl) ?_
    try simp only [Go.Mv.clL]
    refine lad_call rfl rfl rfl Tryz.call108 (fun w hS hR => MAdd_v m gp _ HOK.out (HPM.out.keep hS.fr id) v v v2 Hv2.out) (fun _ => rfl) ?_
    try simp only [Go.Mv.clL]
    refine lad_call rfl rfl rfl Tryz.call108 (fun w hS hR => MAdd_v m gp _ HOK.out (HPM.out.keep hS.fr id) h3 v2 t1 Ht1.out) (fun _ => rfl) ?_
    try simp only [Go.Mv.clL]
    refine lad_call rfl rfl rfl Tryz.call107 (fun w hS hR => MSub_v m gp _ HOK.out (HPM.out.keep hS.fr id) r2 t1 X HX.out) (fun _ => rfl) ?_
    try simp only [Go.Mv.clL]
    refine lad_j List.mem_cons_self fun g18 => ?_
    simp only [upd, reduceIte]
    refine lad_end fun xq w25 st25 hR => ?_
    try dsimp only
    clear hR xq
    refine plan_m rfl rfl ?_
    refine wp_storeS st25 14 rfl rfl rfl rfl (by simp [cw_len]) (by kernel_rfl) (cw_one _ _) ?_
    intro w26 st26
    repeat (first | simp only [List.cons_append] at st26 | simp only [List.nil_append] at st26 | simp only [List.set_cons_succ] at st26 | simp only [List.set_cons_zero] at st26)
    clear st25
    try simp only [Act.put]
    refine plan_end ?_
    refine NoPanic.normal ?_
    go_wp2_with fail
    refine wp_region_noPanic ?_
    refine wp_region_lad st26 42 [.t 0, .w 1, .w 2, .w 3, .t 4, .w 5, .w 6, .w 7, .t 8, .t 9, .w 10, .w 11, .w 12, .t 13, .t 14, .t 15, .w 18, .w 19, .w 20, .t 21, .t 22, .t 23, .w 26, .w 27, .w 28, .t 29, .t 30, .w 31, .w 32, .w 33, .t 34, .w 35, .t 36, .w 37, .t 38, .c 16, .c 17, .c 24, .c 25, .c 39, .c 40, .w 41] (.m 42 .nil) (by kernel_rfl) (by kernel_rfl) (fun _ _ _ _ _ h => h) ?_
    clear st26
    refine lad_arr rfl rfl rfl (fun _ => rfl) (cw 4 (elN m X)) (fun wx hS => St.rangeL hS 14 rfl 0 _ (by rw [List.drop_zero, List.take_of_length_le (Nat.le_refl _)])) Tryz.underlying58 rfl (by kernel_rfl) ?_
    try simp only [Go.Mv.clL]
    refine lad_w (v := ?_) rfl rfl (fun xq wx => ?_) ?_
    rotate_left 1
    · (go_simp; with_reducible rfl)
    try simp only [Go.Mv.clL]
    refine lad_w (v := ?_) rfl rfl (fun xq wx => ?_) ?_
    rotate_left 1
    · (go_simp; with_reducible rfl)
    try simp only [Go.Mv.clL]
    refine lad_w (v := ?_) rfl rfl (fun xq wx => ?_) ?_
    rotate_left 1
    · (go_simp; with_reducible rfl)
    try simp only [Go.Mv.clL]
    refine lad_t (v := ?_) rfl rfl (fun xq wx hS => ?_) ?_
    rotate_left 1
    · (have hc := (HCV.out.keep (St.fr hS) id).cell (i := 0) rfl; clear hS; go_simp; with_reducible rfl)
    try simp only [Go.Mv.clL]
    refine lad_w (v := ?_) rfl rfl (fun xq wx => ?_) ?_
    rotate_left 1
    · (go_simp; with_reducible rfl)
    try simp only [Go.Mv.clL]
    refine lad_w (v := ?_) rfl rfl (fun xq wx => ?_) ?_
    rotate_left 1
    · (go_simp; with_reducible rfl)
    try simp only [Go.Mv.clL]
    refine lad_w (v := ?_) rfl rfl (fun xq wx => ?_) ?_
    rotate_left 1
    · (go_simp; with_reducible rfl)
    try simp only [Go.Mv.clL]
    refine lad_t (v := ?_) rfl rfl (fun xq wx hS => ?_) ?_
    rotate_left 1
    · (have hc := (HCV.out.keep (St.fr hS) id).cell (i := 0) rfl; clear hS; go_simp; with_reducible rfl)
    try simp only [Go.Mv.clL]
    refine lad_arr rfl rfl rfl (fun _ => rfl) (cw 4 (elN m rr)) (fun wx hS => St.rangeL hS 10 rfl 0 _ (by rw [List.drop_zero, List.take_of_length_le (Nat.le_refl _)])) Tryz.underlying58 rfl (by kernel_rfl) ?_
    try simp only [Go.Mv.clL]
    refine lad_w (v := ?_) rfl rfl (fun xq wx => ?_) ?_
    rotate_left 1
    · (go_simp; with_reducible rfl)
    try simp only [Go.Mv.clL]
    refine lad_w (v := ?_) rfl rfl (fun xq wx => ?_) ?_
    rotate_left 1
    · (go_simp; with_reducible rfl)
    try simp only [Go.Mv.clL]
    refine lad_w (v := ?_) rfl rfl (fun xq wx => ?_) ?_
    rotate_left 1
    · (go_simp; with_reducible rfl)
    try simp only [Go.Mv.clL]
    refine lad_t (v := ?_) rfl rfl (fun xq wx hS => ?_) ?_
    rotate_left 1
    · (have hc := (HCV.out.keep (St.fr hS) id).cell (i := 0) rfl; clear hS; go_simp; with_reducible rfl)
    try simp only [Go.Mv.clL]
    refine lad_arr rfl rfl rfl (fun _ => rfl) (cw 4 (elN m v)) (fun wx hS => St.rangeL hS 13 rfl 0 _ (by rw [List.drop_zero, List.take_of_length_le (Nat.le_refl _)])) Tryz.underlying58 rfl (by kernel_rfl) ?_
    try simp only [Go.Mv.clL]
    refine lad_arr rfl rfl rfl (fun _ => rfl) (cw 4 (elN m X)) (fun wx hS => St.rangeL hS 14 rfl 0 _ (by rw [List.drop_zero, List.take_of_length_le (Nat.le_refl _)])) Tryz.underlying58 rfl (by kernel_rfl) ?_
    try simp only [Go.Mv.clL]
    refine lad_w (v := ?_) rfl rfl (fun xq wx => ?_) ?_
    rotate_left 1
    · (go_simp; with_reducible rfl)
    try simp only [Go.Mv.clL]
    refine lad_w (v := ?_) rfl rfl (fun xq wx => ?_) ?_
    rotate_left 1
    · (go_simp; with_reducible rfl)
    try simp only [Go.Mv.clL]
    refine lad_w (v := ?_) rfl rfl (fun xq wx => ?_) ?_
    rotate_left 1
    · (go_simp; with_reducible rfl)
    try simp only [Go.Mv.clL]
    refine lad_t (v := ?_) rfl rfl (fun xq wx hS => ?_) ?_
    rotate_left 1
    · (have hc := (HCV.out.keep (St.fr hS) id).cell (i := 0) rfl; clear hS; go_simp; with_reducible rfl)
    try simp only [Go.Mv.clL]
    refine lad_arr rfl rfl rfl (fun _ => rfl) (cw 4 (elN m s1)) (fun wx hS => St.rangeL hS 7 rfl 0 _ (by rw [List.drop_zero, List.take_of_length_le (Nat.le_refl _)])) Tryz.underlying58 rfl (by kernel_rfl) ?_
    try simp only [Go.Mv.clL]
    refine lad_arr rfl rfl rfl (fun _ => rfl) (cw 4 (elN m h3)) (fun wx hS => St.rangeL hS 12 rfl 0 _ (by rw [List.drop_zero, List.take_of_length_le (Nat.le_refl _)])) Tryz.underlying58 rfl (by kernel_rfl) ?_
    try simp only [Go.Mv.clL]
    refine lad_w (v := ?_) rfl rfl (fun xq wx => ?_) ?_
    rotate_left 1
    · (go_simp; with_reducible rfl)
    try simp only [Go.Mv.clL]
    refine lad_w (v := ?_) rfl rfl (fun xq wx => ?_) ?_
    rotate_left 1
    · (go_simp; with_reducible rfl)
    try simp only [Go.Mv.clL]
    refine lad_w (v := ?_) rfl rfl (fun xq wx => ?_) ?_
    rotate_left 1
    · (go_simp; with_reducible rfl)
    try simp only [Go.Mv.clL]
    refine lad_t (v := ?_) rfl rfl (fun xq wx hS => ?_) ?_
    rotate_left 1
    · (have hc := (HCV.out.keep (St.fr hS) id).cell (i := 0) rfl; clear hS; go_simp; with_reducible rfl)
    try simp only [Go.Mv.clL]
    refine lad_arr rfl rfl rfl (fun _ => rfl) (cw 4 (elN m hd)) (fun wx hS => St.rangeL hS 9 rfl 0 _ (by rw [List.drop_zero, List.take_of_length_le (Nat.le_refl _)])) Tryz.underlying58 rfl (by kernel_rfl) ?_
    try simp only [Go.Mv.clL]
    refine lad_w (v := ?_) rfl rfl (fun xq wx => ?_) ?_
    rotate_left 1
    · (go_simp; with_reducible rfl)
    try simp only [Go.Mv.clL]
    refine lad_w (v := ?_) rfl rfl (fun xq wx => ?_) ?_
    rotate_left 1
    · (go_simp; with_reducible rfl)
    try simp only [Go.Mv.clL]
    refine lad_w (v := ?_) rfl rfl (fun xq wx => ?_) ?_
    rotate_left 1
    · (go_simp; with_reducible rfl)
    try simp only [Go.Mv.clL]
    refine lad_t (v := ?_) rfl rfl (fun xq wx hS => ?_) ?_
    rotate_left 1
    · (have hc := (HCV.out.keep (St.fr hS) id).cell (i := 0) rfl; clear hS; go_simp; with_reducible rfl)
    try simp only [Go.Mv.clL]
    refine lad_w (v := ?_) rfl rfl (fun xq wx => ?_) ?_
    rotate_left 1
    · (go_simp; with_reducible rfl)
    try simp only [Go.Mv.clL]
    refine lad_arr rfl rfl rfl (fun _ => rfl) (cw 4 (elN m z1)) (fun wx hS => St.rangeL hS 0 rfl 8 _ (pt_z _ _ _)) Tryz.underlying58 rfl (by kernel_rfl) ?_
    try simp only [Go.Mv.clL]
    refine lad_w (v := ?_) rfl rfl (fun xq wx => ?_) ?_
    rotate_left 1
    · (go_simp; with_reducible rfl)
    try simp only [Go.Mv.clL]
    refine lad_arr rfl rfl rfl (fun _ => rfl) (cw 4 (elN m z2)) (fun wx hS => St.rangeL hS 1 rfl 8 _ (pt_z _ _ _)) Tryz.underlying58 rfl (by kernel_rfl) ?_
    try simp only [Go.Mv.clL]
    refine lad_call rfl rfl rfl Tryz.call107 (fun w hS hR => MSub_v m gp _ HOK.out (HPM.out.keep hS.fr id) v X t2 Ht2.out) (fun _ => rfl) ?_
    try simp only [Go.Mv.clL]
    refine lad_call rfl rfl rfl Tryz.call65 (fun w hS hR => MMul_v m gp _ HOK.out (HPM.out.keep hS.fr id) rr t2 t3 Ht3.out) (fun _ => rfl) ?_
    try simp only [Go.Mv.clL]
    refine lad_call rfl rfl rfl Tryz.call65 (fun w hS hR => MMul_v m gp _ HOK.out (HPM.out.keep hS.fr id) s1 h3 t4 Ht4.out) (fun _ => rfl) ?_
    try simp only [Go.Mv.clL]
    refine lad_call rfl rfl rfl Tryz.call107 (fun w hS hR => MSub_v m gp _ HOK.out (HPM.out.keep hS.fr id) t3 t4 Y HY.out) (fun _ => rfl) ?_
    try simp only [Go.Mv.clL]
    refine lad_call rfl rfl rfl Tryz.call65 (fun w hS hR => MMul_v m gp _ HOK.out (HPM.out.keep hS.fr id) z1 z2 zz Hzz.out) (fun _ => rfl) ?_
    try simp only [Go.Mv.clL]
    refine lad_call rfl rfl rfl Tryz.call65 (fun w hS hR => MMul_v m gp _ HOK.out (HPM.out.keep hS.fr id) hd zz Z HZ.out) (fun _ => rfl) ?_
    try simp only [Go.Mv.clL]
    refine lad_w rfl rfl (fun _ => exec_build rfl _ (built_pt _ _ _)) ?_
    try simp only [Go.Mv.clL]
    refine lad_end fun xq w27 st27 hR => ?_
    try dsimp only
    clear hR xq
    refine plan_m rfl rfl ?_
    refine wp_storeS st27 2 rfl rfl rfl rfl (by simp [cw_len]) (by kernel_rfl) (pt_one _ _ _) ?_
    intro w28 st28
    try simp only [List.set_cons_zero, List.set_cons_succ] at st28
    clear st27
    try simp only [Act.put]
    refine plan_end ?_
    refine NoPanic.normal ?_
    have hr := st28.at 2 rfl
    have hfr := st28.fr
    clear st28
    go_wp2_with fail
    exact bodyPost_ret (results_st rfl rfl hr Tryz.underlying60 rfl (by kernel_rfl)) rfl ⟨by rw [HHZ.out]; rfl, hfr⟩
end Go.Proofs.YtdbgddngapminaaGreat

/- A program's sum of two points as the group's. -/
namespace Go.Proofs.YtdbgddngapminaaGreat
open Go.RowKit Go.Mv Mvp Mvq
theorem kc_zero' : kc 0 = 0 := by decide
/-- plus: of any points of the curve -/
theorem plus_is (x1 y1 z1 x2 y2 z2 : Nat) (ho1 : onC (jN x1 y1 z1)) (ho2 : onC (jN x2 y2 z2)) :
    ∃ X Y Z, jN X Y Z = padd (jN x1 y1 z1) (jN x2 y2 z2) ∧ ∀ gc gp bx by_ wx, Has wx gc (crvL mP gp bx by_) 62 → Has wx gp (mdL mP) 112 → Calls Tryz.prog 73 #[.pointer (some ⟨gc, 0, none⟩), ptV mP x1 y1 z1, ptV mP x2 y2 z2] wx fun e w' => e = .returned (ptV mP X Y Z) ∧ Fr Nob wx w' := by
  cases hb1 : (z1 % mP.M == 0)
  case true =>
    have hz : kc z1 = 0 := by simpa using z_is _ mP_fP z1 _ hb1
    refine ⟨x2, y2, z2, ?_, fun gc gp bx by_ wx hcv hpm => plus_none1 mP gc gp bx by_ wx mP_ok hcv hpm x1 y1 z1 x2 y2 z2 hb1⟩
    unfold jN
    rw [jk_z hz]; rfl
  case false =>
    have hz1 : kc z1 ≠ 0 := by simpa using z_is _ mP_fP z1 _ hb1
    cases hb2 : (z2 % mP.M == 0)
    case true =>
      have hz : kc z2 = 0 := by simpa using z_is _ mP_fP z2 _ hb2
      refine ⟨x1, y1, z1, ?_, fun gc gp bx by_ wx hcv hpm => plus_none2 mP gc gp bx by_ wx mP_ok hcv hpm x1 y1 z1 x2 y2 z2 hb1 hb2⟩
      unfold jN
      rw [jk_z hz, padd_zero]
    case false =>
      have hz2 : kc z2 ≠ 0 := by simpa using z_is _ mP_fP z2 _ hb2
      obtain ⟨pp, epp⟩ : ∃ q, z1 * z1 = q := ⟨_, rfl⟩
      obtain ⟨qq, eqq⟩ : ∃ q, z2 * z2 = q := ⟨_, rfl⟩
      obtain ⟨u1, eu1⟩ : ∃ q, x1 * qq = q := ⟨_, rfl⟩
      obtain ⟨u2, eu2⟩ : ∃ q, x2 * pp = q := ⟨_, rfl⟩
      obtain ⟨q3, eq3⟩ : ∃ q, qq * z2 = q := ⟨_, rfl⟩
      obtain ⟨s1, es1⟩ : ∃ q, y1 * q3 = q := ⟨_, rfl⟩
      obtain ⟨p3, ep3⟩ : ∃ q, pp * z1 = q := ⟨_, rfl⟩
      obtain ⟨s2, es2⟩ : ∃ q, y2 * p3 = q := ⟨_, rfl⟩
      obtain ⟨hd, ehd⟩ : ∃ q, u2 + (mP.M - u1 % mP.M) = q := ⟨_, rfl⟩
      obtain ⟨rr, err⟩ : ∃ q, s2 + (mP.M - s1 % mP.M) = q := ⟨_, rfl⟩
      have ku1 : kc u1 = kc x1 * (kc z2 * kc z2) := by rw [← eu1, ← eqq, kc_mul', kc_mul']
      have ku2 : kc u2 = kc x2 * (kc z1 * kc z1) := by rw [← eu2, ← epp, kc_mul', kc_mul']
      have ks1 : kc s1 = kc y1 * (kc z2 * kc z2 * kc z2) := by rw [← es1, ← eq3, ← eqq, kc_mul', kc_mul', kc_mul']
      have ks2 : kc s2 = kc y2 * (kc z1 * kc z1 * kc z1) := by rw [← es2, ← ep3, ← epp, kc_mul', kc_mul', kc_mul']
      have khd : kc hd = kc u2 - kc u1 := by rw [← ehd, kc_sub' _ mP_fP]
      have krr : kc rr = kc s2 - kc s1 := by rw [← err, kc_sub' _ mP_fP]
      obtain ⟨DX, DY, DZ, hX, hcall⟩ := double_is x1 y1 z1 ho1
      have hcal := fun gc gp bx by_ wx (hcv : Has wx gc (crvL mP gp bx by_) 62) (hpm : Has wx gp (mdL mP) 112) => gplus_any mP gc gp bx by_ wx mP_ok hcv hpm x1 y1 z1 x2 y2 z2 hb1 hb2 pp qq u1 u2 q3 s1 p3 s2 hd rr _ _ _ _ _ _ _ _ _ _ _ _ _ DX DY DZ epp eqq eu1 eu2 eq3 es1 ep3 es2 ehd err rfl rfl rfl rfl rfl rfl rfl rfl rfl rfl rfl rfl rfl (fun _ _ wy hf2 => hcall gc gp bx by_ wy (hcv.keep hf2 id) (hpm.keep hf2 id))
      cases hh : (hd % mP.M == 0)
      case false =>
        have hn : kc hd ≠ 0 := by simpa using z_is _ mP_fP hd _ hh
        rw [hh] at hcal
        refine ⟨_, _, _, ?_, fun gc gp bx by_ wx hcv hpm => hcal gc gp bx by_ wx hcv hpm⟩
        have h := jk_plus ho1 ho2 hz1 hz2 (kc u1) (kc u2) (kc s1) (kc s2) (kc hd) (kc rr) _ _ _ _ ku1 ku2 ks1 ks2 khd krr hn rfl rfl rfl rfl
        unfold jN at *
        rw [← h]
        simp only [kc_sub' _ mP_fP, kc_addn, kc_mul']
      case true =>
        have h0 : kc hd = 0 := by simpa using z_is _ mP_fP hd _ hh
        have hs := jk_same ho1 ho2 hz1 hz2 (by rw [← ku1, ← ku2, ← khd]; exact h0)
        rw [← ks1, ← ks2, ← krr] at hs
        cases hr : (rr % mP.M == 0)
        case true =>
          have hr0 : kc rr = 0 := by simpa using z_is _ mP_fP rr _ hr
          rw [hh, hr] at hcal
          refine ⟨DX, DY, DZ, ?_, fun gc gp bx by_ wx hcv hpm => hcal gc gp bx by_ wx hcv hpm⟩
          have e := hs.1 hr0
          unfold jN at *
          rw [hX, e]
        case false =>
          have hr0 : kc rr ≠ 0 := by simpa using z_is _ mP_fP rr _ hr
          rw [hh, hr] at hcal
          refine ⟨1, 1, 0, ?_, fun gc gp bx by_ wx hcv hpm => hcal gc gp bx by_ wx hcv hpm⟩
          have e := hs.2 hr0
          unfold jN at *
          rw [e, jk_z kc_zero']
end Go.Proofs.YtdbgddngapminaaGreat

/- A field's laws, plainly: inverses, roots of squares. -/
namespace Mvq
open Mvp
/-- the prime of the points, of the scalars -/
structure FP (M : Nat) : Prop where
  prime : IsP M
  odd : M % 2 = 1
  big : 3 < M
theorem FP.inv {M a : Nat} (h : FP M) (ha : a < M) (h0 : a ≠ 0) : a * (a ^ (M - 2) % M) % M = 1 := by
  have hd : ¬ M ∣ a := fun hx => by have := Nat.le_of_dvd (by omega) hx; omega
  have hb := h.big
  rw [Nat.mul_mod_mod, Nat.mul_comm, ← Nat.pow_succ, show (M - 2).succ = M - 1 by omega]
  exact fermat h.prime hd
theorem FP.inv0 {M : Nat} (h : FP M) : 0 ^ (M - 2) % M = 0 := by
  have hb := h.big
  rw [Nat.zero_pow (by omega), Nat.zero_mod]
theorem sq_two {M a w : Nat} (h : IsP M) (ha : a < M) (hw : w < M) (hs : w * w % M = a * a % M) : w = a ∨ w = (M - a) % M := by
  have key : ∀ a w, a < M → w < M → a ≤ w → w * w % M = a * a % M → w = a ∨ w = (M - a) % M := by
    intro a w ha hw hle hs
    have hd : M ∣ (w - a) * (w + a) := by
      have h1 : M ∣ w * w - a * a := Nat.dvd_of_mod_eq_zero (Nat.sub_mod_eq_zero_of_mod_eq hs)
      rwa [Nat.mul_self_sub_mul_self_eq, Nat.mul_comm] at h1
    rcases h.euclid hd with h1 | h1
    · left
      rcases Nat.eq_zero_or_pos (w - a) with h2 | h2
      · omega
      · have := Nat.le_of_dvd h2 h1; omega
    · obtain ⟨c, hc⟩ := h1
      have h1 := h.1
      have hc2 : c = 0 ∨ c = 1 := by
        rcases Nat.lt_or_ge c 2 with h2 | h2
        · omega
        · have : M * 2 ≤ M * c := Nat.mul_le_mul_left _ h2
          omega
      rcases hc2 with rfl | rfl
      · left; omega
      · rcases Nat.eq_zero_or_pos a with h3 | h3
        · subst h3; omega
        · right; rw [Nat.mod_eq_of_lt (by omega)]; omega
  rcases Nat.le_total a w with h1 | h1
  · exact key a w ha hw h1 hs
  · rcases key w a hw ha h1 hs.symm with h2 | h2
    · exact Or.inl h2.symm
    · rcases Nat.eq_zero_or_pos w with h3 | h3
      · subst h3; rw [Nat.sub_zero, Nat.mod_self] at h2; exact Or.inl h2.symm
      · rw [Nat.mod_eq_of_lt (by omega)] at h2
        right
        rw [Nat.mod_eq_of_lt (by omega)]; omega
/-- the square of the root of a square -/
theorem root_sq {M a : Nat} (h : FP M) (h4 : M % 4 = 3) (_ : a < M) : rtOk M (a * a % M) = true := by
  unfold rtOk rtN
  rw [beq_iff_eq]
  have hb := h.big
  generalize hk : M / 4 + 1 = k
  have h2 : 4 * k = M + 1 := by omega
  rw [Nat.mul_mod ((a * a % M) ^ k), ← Nat.pow_mod, ← Nat.mul_mod, ← Nat.pow_two a, ← Nat.pow_mul, ← Nat.pow_add, show 2 * k + 2 * k = M + 1 by omega, Nat.mod_mod]
  rw [Nat.pow_succ, Nat.mul_mod, fermat1 h.prime, ← Nat.mul_mod, Nat.pow_two]
theorem root_even {M x : Nat} (h : FP M) : rtV M x % M % 2 = 0 := by
  unfold rtV
  have hb := h.big
  have ho := h.odd
  have hl : rtN M x % M < M := Nat.mod_lt _ (by omega)
  generalize hr : rtN M x % M = r at *
  split
  · rename_i h1
    rw [Nat.mod_eq_of_lt (show M - r < M by omega)]; omega
  · rw [hr]; omega
theorem root_square {M x : Nat} (h : FP M) (hx : x < M) (hr : rtOk M x = true) : (rtV M x % M) * (rtV M x % M) % M = x := by
  unfold rtOk at hr
  rw [beq_iff_eq, Nat.mul_mod, Nat.mod_eq_of_lt hx] at hr
  unfold rtV
  have hb := h.big
  have hl : rtN M x % M < M := Nat.mod_lt _ (by omega)
  generalize hq : rtN M x % M = r at *
  split
  · rename_i h1
    rw [Nat.mod_eq_of_lt (show M - r < M by omega)]
    have e : (M - r) * (M - r) + M * (2 * r) = r * r + M * M := by
      obtain ⟨d, rfl⟩ : ∃ d, M = r + d := ⟨M - r, by omega⟩
      rw [Nat.add_sub_cancel_left]
      clear hb hl hq hr hx h
      grind
    have e2 : ((M - r) * (M - r) + M * (2 * r)) % M = (r * r + M * M) % M := by rw [e]
    rw [Nat.add_mul_mod_self_left, Nat.add_mul_mod_self_left, hr] at e2
    exact e2
  · rw [hq, hr]
theorem FP_P : FP pP := ⟨by rw [show pP = 115792089237316195423570985008687907853269984665640564039457584007908834671663 by decide]; exact isP_pP, by decide, by decide⟩
end Mvq

/- Points and their bytes, plain. -/
namespace Mvq
open Mvp
/-- a point's bytes -/
def wrPt : Pt → List UInt8
  | .O => List.replicate 33 0
  | .A x y => UInt8.ofNat (2 + y.val % 2) :: be32 x.val
theorem wrPt_len (p : Pt) : (wrPt p).length = 33 := by
  cases p
  · simp [wrPt]
  · simp [wrPt, be32_len]
/-- the number behind the first byte -/
def tlN (l : List UInt8) : Nat := beN (l.drop 1)
def crvN (n : Nat) : Nat := n * n * n + 7
/-- are bytes a point? -/
def rdOk (l : List UInt8) : Bool :=
  decide (l.length = 33) && (if l.getD 0 0 = 0 then tlN l == 0 else decide (l.getD 0 0 = 2 ∨ l.getD 0 0 = 3) && (decide (tlN l < fP) && rtOk fP (crvN (tlN l))))
/-- the point that bytes are -/
def rdPt (l : List UInt8) : Pt :=
  if l.getD 0 0 = 0 then .O else .A (kc (tlN l)) (if l.getD 0 0 = 3 then - kc (rtV fP (crvN (tlN l))) else kc (rtV fP (crvN (tlN l))))
theorem kc_sq_of {a x : Nat} (h : (a * a % fP == x % fP) = true) : kc a * kc a = kc x := by
  rw [kc_eq] at h
  rw [← kc_mul']; simpa using h
theorem rtV_sq {x : Nat} (h : rtOk fP x = true) : kc (rtV fP x) * kc (rtV fP x) = kc x := by
  unfold rtOk at h
  have h1 := kc_sq_of h
  unfold rtV
  split
  · rw [kc_negn, ← h1]; grind -lia -linarith
  · exact h1
theorem crvN_kc (n : Nat) : kc (crvN n) = kc n * kc n * kc n + 7 := by
  unfold crvN
  rw [kc_addn, kc_mul', kc_mul', show kc 7 = 7 by decide]
theorem at_on {n : Nat} (h : rtOk fP (crvN n) = true) : onC (.A (kc n) (kc (rtV fP (crvN n)))) := by
  show kc (rtV fP (crvN n)) * kc (rtV fP (crvN n)) = kc n * kc n * kc n + 7
  rw [rtV_sq h, crvN_kc]
theorem rd_on {l : List UInt8} (h : rdOk l = true) : onC (rdPt l) := by
  unfold rdOk at h
  unfold rdPt
  by_cases h0 : l.getD 0 0 = 0
  · rw [if_pos h0]; trivial
  · rw [if_neg h0]
    simp only [Bool.and_eq_true, decide_eq_true_eq, if_neg h0] at h
    obtain ⟨-, -, -, h4⟩ := h
    have := at_on h4
    by_cases h3 : l.getD 0 0 = 3
    · rw [if_pos h3]; exact pneg_on this
    · rw [if_neg h3]; exact this
theorem kc_val_mod (n : Nat) : (kc n).val = n % fP := by simp [kc, Fin.ofNat]
theorem beN_tail (n : Nat) (h : n < fP) : beN (be32 n) = n := by
  have h2 : fP < 256 ^ 32 := by decide
  exact beN_be32 n (Nat.lt_trans h h2)
theorem neg_val_par (y : K) (h : y ≠ 0) : (-y).val % 2 = (1 + y.val) % 2 := by
  have h0 : y.val ≠ 0 := fun e => h (Fin.ext e)
  have h1 : (-y).val = fP - y.val := by
    rw [Fin.val_neg]
    have hne : ¬ y = 0 := h
    simp [hne]
  have h2 : fP % 2 = 1 := by decide
  have h3 := y.isLt
  omega
theorem sq_same {a b : K} (h : a * a = b * b) : a = b ∨ a = -b := by
  have : (a - b) * (a + b) = 0 := by grind -lia -linarith
  rcases mul_zero' this with e | e
  · left; grind -lia -linarith
  · right; grind -lia -linarith
/-- what was written is read -/
theorem rd_wr {p : Pt} (h : onC p) : rdOk (wrPt p) = true ∧ rdPt (wrPt p) = p := by
  cases p with
  | O =>
    have : (wrPt .O) = List.replicate 33 0 := rfl
    rw [this]
    constructor
    · decide
    · unfold rdPt; rw [if_pos (by decide)]
  | A x y =>
    have hc : y * y = x * x * x + 7 := h
    have hy := y_ne hc
    have e0 : (wrPt (.A x y)).getD 0 0 = UInt8.ofNat (2 + y.val % 2) := rfl
    have e1 : tlN (wrPt (.A x y)) = x.val := by
      show beN (be32 x.val) = x.val
      exact beN_tail _ x.isLt
    have hl := wrPt_len (.A x y)
    have hk : kc (crvN x.val) = y * y := by rw [crvN_kc, kc_val, hc]
    have hr : rtOk fP (crvN x.val) = true := by
      have hh := root_sq (M := fP) (a := y.val) (by have := FP_P; rwa [pP_fP] at this) (by decide) y.isLt
      have e : kc (crvN x.val) = kc (y.val * y.val % fP) := by rw [kc_mod, kc_mul', kc_val, hk]
      have e2 : crvN x.val % fP = y.val * y.val % fP % fP := by
        have := kc_eq (crvN x.val) (y.val * y.val % fP)
        rw [e] at this
        simpa using this
      unfold rtOk rtN at *
      rw [Nat.mul_mod, Nat.pow_mod, e2, ← Nat.pow_mod, ← Nat.mul_mod]
      simpa using hh
    have hev : (kc (rtV fP (crvN x.val))).val % 2 = 0 := by
      rw [kc_val_mod]
      exact root_even (by have := FP_P; rwa [pP_fP] at this)
    have hv := rtV_sq hr
    rw [hk] at hv
    generalize hz : kc (rtV fP (crvN x.val)) = z at *
    unfold rdOk rdPt
    rw [hl, e1, e0, hr, hz]
    have hx := x.isLt
    have hcase : y.val % 2 = 0 ∨ y.val % 2 = 1 := by omega
    have hzy : z = (if y.val % 2 = 0 then y else -y) := by
      rcases sq_same hv with e | e
      · subst e; rw [if_pos hev]
      · have hp := neg_val_par y hy
        rw [← e] at hp
        rw [if_neg (by omega)]; exact e
    have hlt : decide (x.val < fP) = true := decide_eq_true hx
    rcases hcase with e | e
    · have hb : UInt8.ofNat (2 + y.val % 2) = 2 := by rw [e]; rfl
      rw [if_pos e] at hzy
      rw [hb, hzy, hlt]
      refine ⟨?_, ?_⟩
      · rw [if_neg (by decide)]; decide
      · rw [if_neg (by decide), if_neg (by decide), kc_val]
    · have hb : UInt8.ofNat (2 + y.val % 2) = 3 := by rw [e]; rfl
      rw [if_neg (by omega)] at hzy
      rw [hb, hzy, hlt]
      refine ⟨?_, ?_⟩
      · rw [if_neg (by decide)]; decide
      · have hn : - -y = y := by grind -lia -linarith
        rw [if_neg (by decide), if_pos rfl, kc_val, hn]
end Mvq

/- A program's points as values: what the curve's functions answer. -/
namespace Go.Proofs.YtdbgddngapminaaGreat
open Go.RowKit Go.Mv Mvp Mvq
/-- the base's coordinates -/
def gXn : Nat := 0x79BE667EF9DCBBAC55A06295CE870B07029BFCDB2DCE28D959F2815B16F81798
def gYn : Nat := 0x483ADA7726A3C4655DA4FBFC0E1108A8FD17B448A68554199C47D08FFB10D4B8
/-- a point of the program's -/
structure PT where
  x : Nat
  y : Nat
  z : Nat
  on : onC (jN x y z)
def PT.pt (s : PT) : Pt := jN s.x s.y s.z
def PT.L (s : PT) : List Value := ptL mP s.x s.y s.z
theorem PT.len (s : PT) : s.L.length = 12 := ptL_len _ _ _ _
theorem PT.one (s : PT) : ∀ v ∈ s.L, v.oneCell' = true := pt_one _ _ _
theorem PT.onP (s : PT) : onC s.pt := s.on
/-- the curve lies at a place -/
def Cv (w : World) (gc : Nat) : Prop := ∃ gp, Has w gc (crvL mP gp gXn gYn) 62 ∧ Has w gp (mdL mP) 112
theorem Cv.keep {w w' : World} {gc : Nat} (h : Cv w gc) (hf : Fr Nob w w') : Cv w' gc := by
  obtain ⟨gp, h1, h2⟩ := h
  exact ⟨gp, h1.keep hf id, h2.keep hf id⟩
theorem dblT_ex (s : PT) : ∃ t : PT, t.pt = padd s.pt s.pt ∧ ∀ gc wx, Cv wx gc → Calls Tryz.prog 72 #[.pointer (some ⟨gc, 0, none⟩), (.agg s.L.toArray)] wx fun e w' => e = .returned (.agg t.L.toArray) ∧ Fr Nob wx w' := by
  obtain ⟨X, Y, Z, h1, h2⟩ := double_is s.x s.y s.z s.on
  refine ⟨⟨X, Y, Z, by rw [h1]; exact padd_on s.on s.on⟩, h1, ?_⟩
  rintro gc wx ⟨gp, a, b⟩
  exact h2 gc gp gXn gYn wx a b
theorem addT_ex (s t : PT) : ∃ r : PT, r.pt = padd s.pt t.pt ∧ ∀ gc wx, Cv wx gc → Calls Tryz.prog 73 #[.pointer (some ⟨gc, 0, none⟩), (.agg s.L.toArray), (.agg t.L.toArray)] wx fun e w' => e = .returned (.agg r.L.toArray) ∧ Fr Nob wx w' := by
  obtain ⟨X, Y, Z, h1, h2⟩ := plus_is s.x s.y s.z t.x t.y t.z s.on t.on
  refine ⟨⟨X, Y, Z, by rw [h1]; exact padd_on s.on t.on⟩, h1, ?_⟩
  rintro gc wx ⟨gp, a, b⟩
  exact h2 gc gp gXn gYn wx a b
noncomputable def dblT (s : PT) : PT := Classical.choose (dblT_ex s)
noncomputable def addT (s t : PT) : PT := Classical.choose (addT_ex s t)
theorem dblT_pt (s : PT) : (dblT s).pt = padd s.pt s.pt := (Classical.choose_spec (dblT_ex s)).1
theorem addT_pt (s t : PT) : (addT s t).pt = padd s.pt t.pt := (Classical.choose_spec (addT_ex s t)).1
theorem double_c (s : PT) (gc : Nat) (w : World) (h : Cv w gc) : Calls Tryz.prog 72 #[.pointer (some ⟨gc, 0, none⟩), (.agg s.L.toArray)] w fun e w' => e = .returned (.agg (dblT s).L.toArray) ∧ Fr Nob w w' :=
  (Classical.choose_spec (dblT_ex s)).2 gc w h
theorem plus_c (s t : PT) (gc : Nat) (w : World) (h : Cv w gc) : Calls Tryz.prog 73 #[.pointer (some ⟨gc, 0, none⟩), (.agg s.L.toArray), (.agg t.L.toArray)] w fun e w' => e = .returned (.agg (addT s t).L.toArray) ∧ Fr Nob w w' :=
  (Classical.choose_spec (addT_ex s t)).2 gc w h
theorem kc_one2 : kc 1 = 1 := by decide
def noT : PT := ⟨1, 1, 0, by unfold jN; rw [jk_z (by decide)]; trivial⟩
theorem noT_pt : noT.pt = .O := by show jN 1 1 0 = .O; unfold jN; rw [jk_z (by decide)]
theorem nothing_c (gc : Nat) (w : World) (h : Cv w gc) : Calls Tryz.prog 71 #[.pointer (some ⟨gc, 0, none⟩)] w fun e w' => e = .returned (.agg noT.L.toArray) ∧ Fr Nob w w' := by
  obtain ⟨gp, a, b⟩ := h
  exact nothing_any mP gc gp gXn gYn w mP_ok a b
/-- a point of a first and a second coordinate -/
theorem jN_one (x y : Nat) : jN x y 1 = .A (kc x) (kc y) := by
  unfold jN
  refine jk_is (by decide) ?_ ?_
  · rw [kc_one2]; grind -lia -linarith
  · rw [kc_one2]; grind -lia -linarith
def affT (x y : Nat) (h : onC (.A (kc x) (kc y))) : PT := ⟨x, y, 1, by rw [jN_one]; exact h⟩
theorem affT_pt (x y : Nat) (h : onC (.A (kc x) (kc y))) : (affT x y h).pt = .A (kc x) (kc y) := jN_one x y
theorem base_on : onC (.A (kc gXn) (kc gYn)) := by
  show kc gYn * kc gYn = kc gXn * kc gXn * kc gXn + 7
  decide
def baseT : PT := affT gXn gYn base_on
theorem baseT_pt : baseT.pt = .A (kc gXn) (kc gYn) := affT_pt _ _ _
/-- nothing, as the program asks -/
def PT.isO (s : PT) : Bool := s.z % mP.M == 0
theorem PT.isO_t {s : PT} (h : s.isO = true) : s.pt = .O := by
  have hz : kc s.z = 0 := by simpa using z_is _ mP_fP s.z _ h
  exact jk_z hz
theorem PT.isO_f {s : PT} (h : s.isO = false) : kc s.z ≠ 0 := by simpa using z_is _ mP_fP s.z _ h
end Go.Proofs.YtdbgddngapminaaGreat

/- group: k256. -/
namespace Go.Mv
open Go.RowKit
section
variable {P : Program} {w w0 : World} {ops : Array Oper} {rest : List Oper} {o : Oper} {a : Act} {Q : Exit → Act → World → Prop} {S : Nat → Prop} {bl : List (Nat × List Value × TypeId)} {K : Act → World → Prop}
/-- a part of a block is stored -/
theorem wl_storeP (hst : St S w0 w bl) (i : Nat) {g : Nat} {L : List Value} {T : TypeId} (hb : bl[i]? = some (g, L, T)) {ty : TypeId} {x y : Operand} (hgd : o.guard = none) (ho : o.op = .store ty x y) {p : Nat} (hx : a.eval x = .pointer (some ⟨g, p, none⟩)) {cs : List Value} (hy : a.eval y = .agg cs.toArray)
    (L' : List Value) (hL : splice L p cs = L') (hn : p + cs.length ≤ L.length) (hi : (P.info? ty).map (·.size) = some cs.length) (h1 : ∀ v ∈ cs, v.oneCell' = true)
    (h : ∀ w', St S w0 w' (bl.set i (g, L', T)) → wpList P ops Q rest (a.put o.dst undef) w') : wpList P ops Q (o :: rest) a w :=
  wl_storeA hgd ho hx hy (hst.at i hb) hn hi h1 fun w' hg hf _ => h w' (hst.put i hb hf (by rwa [hL] at hg))
theorem wp_storeP (hst : St S w0 w bl) (i : Nat) {g : Nat} {L : List Value} {T : TypeId} (hb : bl[i]? = some (g, L, T)) {ty : TypeId} {x y : Operand} (ho : o.op = .store ty x y) {p : Nat} (hx : a.eval x = .pointer (some ⟨g, p, none⟩)) {cs : List Value} (hy : a.eval y = .agg cs.toArray)
    (L' : List Value) (hL : splice L p cs = L') (hn : p + cs.length ≤ L.length) (hi : (P.info? ty).map (·.size) = some cs.length) (h1 : ∀ v ∈ cs, v.oneCell' = true)
    (h : ∀ w', St S w0 w' (bl.set i (g, L', T)) → K (a.put o.dst undef) w') : o.wp P a w K Q := by
  obtain ⟨k1, k2, _⟩ := Has.setCells cs p L w (hst.at i hb) hn
  rw [hL] at k1
  exact wp_store_mid ty x y ho g p cs.toArray hx hy (by simpa using (hst.at i hb).there p cs.length hn) (by simpa using hi) (all_oneCell_toArray h1) (by simpa using h _ (hst.put i hb k2 k1))
theorem splice_end (A B C : List Value) (n : Nat) (hA : A.length = n) (hC : C.length = B.length) : splice (A ++ B) n C = A ++ C := by
  unfold splice
  subst hA
  rw [List.take_left, List.drop_append, List.drop_of_length_le (by omega), List.drop_of_length_le (by omega)]
  simp
theorem splice_mid (A B D C : List Value) (n : Nat) (hA : A.length = n) (hC : C.length = B.length) : splice (A ++ (B ++ D)) n C = A ++ (C ++ D) := by
  unfold splice
  subst hA
  rw [List.take_left, List.drop_append, List.drop_of_length_le (by omega), List.nil_append, show A.length + C.length - A.length = B.length by omega, List.drop_left]
end
end Go.Mv
namespace Go.Proofs.YtdbgddngapminaaGreat
open Go.RowKit Go.Mv Mvp Mvq
set_option maxHeartbeats 2000000 in
set_option maxRecDepth 100000 in
theorem OfI (m : Md) (hk : KindOf 0 m) (w : World) : Calls Tryz.prog 57 #[.int .i64 0] w fun e w' => ∃ g, e = .returned (.tuple #[.pointer (some ⟨g, 0, none⟩), .bool true]) ∧ w.heap.size ≤ g ∧ Has w' g (mdL m) 112 ∧ Fr Nob w w' := by
  cases hk
  go_enter Tryz.func57, Tryz.ntmps57
  go_wp2
  go_ret2
  exact ⟨_, rfl, Nat.le_refl _, by rw [← cells_mP]; exact Has.new w _ _, (Fr.refl Nob w).alloc _⟩
theorem built_gX : Tryz.prog.built 64 [(0, .int .u64 6481385041966929816), (1, .int .u64 188021827762530521), (2, .int .u64 6170039885052185351), (3, .int .u64 8772561819708210092)] = some (cw 4 gXn).toArray := by kernel_rfl
theorem built_gY : Tryz.prog.built 64 [(0, .int .u64 11261198710074299576), (1, .int .u64 18237243440184513561), (2, .int .u64 6747795201694173352), (3, .int .u64 5204712524664259685)] = some (cw 4 gYn).toArray := by kernel_rfl
theorem gX_lt : gXn < B64 ^ 4 := by decide
theorem gY_lt : gYn < B64 ^ 4 := by decide
theorem built_crv (p : Option Addr) (a : Nat) : Tryz.prog.built 62 [(0, .pointer p), (1, i4 a)] = some ([Value.pointer p] ++ (cw 4 a ++ (cw 4 0 ++ (cw 4 0 ++ cw 4 0)))).toArray := by kernel_rfl
theorem crv_splice (p : Value) (a b c d : Nat) : splice ([p] ++ (cw 4 a ++ (cw 4 0 ++ (cw 4 0 ++ cw 4 0)))) 5 (cw 4 b ++ (cw 4 c ++ cw 4 d)) = [p] ++ (cw 4 a ++ (cw 4 b ++ (cw 4 c ++ cw 4 d))) := by
  have h := splice_end ([p] ++ cw 4 a) (cw 4 0 ++ (cw 4 0 ++ cw 4 0)) (cw 4 b ++ (cw 4 c ++ cw 4 d)) 5 (by rw [List.length_append, cw_len]; rfl) (by first | (simp only [cw_len]; done) | (simp only [List.length_append, cw_len]; done))
  rw [List.append_assoc, List.append_assoc] at h
  exact h
theorem crv_len (p : Value) (a b c d : Nat) : ([p] ++ (cw 4 a ++ (cw 4 b ++ (cw 4 c ++ cw 4 d)))).length = 17 := by simp only [List.length_append, cw_len]; rfl
attribute [local irreducible] limbs lw mix cw cSub cAdd cMul foldC valFrom beN laid be32 powm montT mstep elN mdL numB rtN rtV rtOk gXn gYn
set_option maxHeartbeats 16000000 in
set_option maxRecDepth 1000000 in
theorem k256_any (m : Md) (hk : KindOf 0 m) (w : World) :
    Calls Tryz.prog 24 #[] w fun e w' => ∃ gc, e = .returned (.pointer (some ⟨gc, 0, none⟩)) ∧ w.heap.size ≤ gc ∧ (∃ gp, Has w' gc (crvL m gp gXn gYn) 62 ∧ Has w' gp (mdL m) 112) ∧ Fr Nob w w' := by
  have HK := Lib.hid hk
  have HOK := Lib.hid hk.ok
  have HGX := Lib.hid gX_lt
  have HGY := Lib.hid gY_lt
  clear hk
  have st0 := St.start Nob w
  go_enter Tryz.func24, Tryz.ntmps24
  go_wp2_with fail
  refine (OfI m HK.out _).mono ?_
  rintro e' w1 ⟨gp, rfl, hle, hm, hf1⟩
  have st1 : St Nob w w1 [(gp, mdL m, 112)] := st0.new hf1 hm hle
  clear st0 hf1 hm hle
  go_wp2_with fail
  refine (MSmall_any m gp _ HOK.out (st1.at 0 rfl) 7 (by decide)).mono ?_
  rintro e' w2 ⟨rfl, hf2⟩
  have st2 := st1.keep hf2
  clear st1 hf2
  go_wp2_with (with_reducible refine wl_stop (o := ⟨some 13, _, _, _, _, _⟩) ?_)
  refine wl_buildL rfl rfl _ (built_crv _ _) ?_
  go_wp2_with (with_reducible refine wl_stop (o := ⟨some 14, _, _, _, _, _⟩) ?_)
  refine wl_boxS st2 rfl rfl rfl ([Value.pointer (some ⟨gp, 0, none⟩)] ++ (cw 4 (elN m 7) ++ (cw 4 0 ++ (cw 4 0 ++ cw 4 0)))) rfl ?_
  intro gc w3 st3
  clear st2
  go_wp2_with (with_reducible refine wl_stop (o := ⟨some 16, _, _, _, _, _⟩) ?_)
  refine wl_buildL rfl rfl _ built_gX ?_
  go_wp2_with fail
  refine (MTo_any m gp _ HOK.out (st3.at 0 rfl) gXn HGX.out).mono ?_
  rintro e' w4 ⟨rfl, hf4⟩
  have st4 := st3.keep hf4
  clear st3 hf4
  go_wp2_with (with_reducible refine wl_stop (o := ⟨some 19, _, _, _, _, _⟩) ?_)
  refine wl_buildL rfl rfl _ built_gY ?_
  go_wp2_with fail
  refine (MTo_any m gp _ HOK.out (st4.at 0 rfl) gYn HGY.out).mono ?_
  rintro e' w5 ⟨rfl, hf5⟩
  have st5 := st4.keep hf5
  clear st4 hf5
  go_wp2_with (with_reducible refine wl_stop (o := ⟨some 4, _, _, _, _, _⟩) ?_)
  refine wl_allocS st5 rfl rfl (z := .agg #[.int .u64 0, .int .u64 0, .int .u64 0, .int .u64 0]) (by kernel_rfl) (cw 4 0) (by rw [cw_zero]; rfl) ?_
  intro g4 w6 st6
  clear st5
  go_wp2_with (with_reducible refine wl_stop (o := ⟨some 5, _, _, _, _, _⟩) ?_)
  refine wl_allocS st6 rfl rfl (z := .agg #[.int .u64 0, .int .u64 0, .int .u64 0, .int .u64 0]) (by kernel_rfl) (cw 4 0) (by rw [cw_zero]; rfl) ?_
  intro g5 w7 st7
  clear st6
  go_wp2_with (with_reducible refine wl_stop (o := ⟨none, _, _, _, _, _⟩) ?_)
  refine wl_storeS st7 2 rfl rfl rfl rfl rfl (by first | (simp only [cw_len]; done) | (simp only [List.length_append, cw_len]; done)) (by first | (rw [cw_len]; kernel_rfl) | (simp only [List.length_append, cw_len]; kernel_rfl)) (cw_one _ _) ?_
  intro w8 st8
  clear st7
  go_wp2_with (with_reducible refine wl_stop (o := ⟨none, _, _, _, _, _⟩) ?_)
  refine wl_storeS st8 3 rfl rfl rfl rfl rfl (by first | (simp only [cw_len]; done) | (simp only [List.length_append, cw_len]; done)) (by first | (rw [cw_len]; kernel_rfl) | (simp only [List.length_append, cw_len]; kernel_rfl)) (cw_one _ _) ?_
  intro w9 st9
  clear st8
  go_wp2_with fail
  refine wp_region_noPanic ?_
  refine wp_region_plan (fun wx => St Nob w wx [(gp, mdL m, 112), (gc, [Value.pointer (some ⟨gp, 0, none⟩)] ++ (cw 4 (elN m 7) ++ (cw 4 0 ++ (cw 4 0 ++ cw 4 0))), 62), (g4, cw 4 (elN m gXn), 58), (g5, cw 4 (elN m gYn), 58)]) 11 (.w 0 (.t 1 (.t 2 (.w 3 (.w 4 (.w 5 (.t 6 (.r 7 (.w 8 (.w 9 (.w 10 (.m 11 .nil)))))))))))) (by kernel_rfl) (by kernel_rfl) st9.drew (fun _ _ _ _ _ h => h) ?_
  have hd9 := st9.drew
  clear st9
  refine plan_w (v := ?_) rfl rfl (fun wx => ?_) ?_
  rotate_left 1
  · (go_simp; with_reducible rfl)
  try simp only [Go.Mv.clL]
  refine plan_arr rfl rfl rfl rfl (cw 4 (elN m gXn)) (fun wx hS => St.rangeL hS 2 rfl 0 _ (by rw [List.drop_zero, List.take_of_length_le (Nat.le_refl _)])) Tryz.underlying58 rfl (by first | (rw [cw_len]; kernel_rfl) | (simp only [List.length_append, cw_len]; kernel_rfl)) ?_
  try simp only [Go.Mv.clL]
  refine plan_arr rfl rfl rfl rfl (cw 4 (elN m gYn)) (fun wx hS => St.rangeL hS 3 rfl 0 _ (by rw [List.drop_zero, List.take_of_length_le (Nat.le_refl _)])) Tryz.underlying58 rfl (by first | (rw [cw_len]; kernel_rfl) | (simp only [List.length_append, cw_len]; kernel_rfl)) ?_
  try simp only [Go.Mv.clL]
  refine plan_w (v := ?_) rfl rfl (fun wx => ?_) ?_
  rotate_left 1
  · (go_simp; with_reducible rfl)
  try simp only [Go.Mv.clL]
  refine plan_w (v := ?_) rfl rfl (fun wx => ?_) ?_
  rotate_left 1
  · (go_simp; with_reducible rfl)
  try simp only [Go.Mv.clL]
  refine plan_w (v := ?_) rfl rfl (fun wx => ?_) ?_
  rotate_left 1
  · (go_simp; with_reducible rfl)
  try simp only [Go.Mv.clL]
  refine plan_t (v := ?_) rfl rfl (fun wx hS => ?_) ?_
  rotate_left 1
  · (have hc := (St.at hS 1 rfl).cell (i := 0) rfl; clear hS; go_simp; with_reducible rfl)
  try simp only [Go.Mv.clL]
  refine plan_r rfl rfl ?_
  go_simp
  refine (MOne_any m gp _ HOK.out (hd9.at 0 rfl)).mono ?_
  rintro e' w10 ⟨rfl, hf10⟩
  have st10 := hd9.keep hf10
  clear hf10
  clear hd9
  refine ⟨st10, ?_⟩
  try simp only [Go.Mv.clL]
  refine plan_w rfl rfl (exec_build rfl _ (built_pt _ _ _)) ?_
  try simp only [Go.Mv.clL]
  refine plan_w (v := ?_) rfl rfl (fun wx => ?_) ?_
  rotate_left 1
  · (go_simp; with_reducible rfl)
  try simp only [Go.Mv.clL]
  refine plan_w (v := ?_) rfl rfl (fun wx => ?_) ?_
  rotate_left 1
  · (go_simp; with_reducible rfl)
  try simp only [Go.Mv.clL]
  refine plan_m rfl rfl ?_
  refine wp_storeP st10 1 rfl rfl rfl rfl _ (crv_splice _ _ _ _ _) (by rw [crv_len]; simp only [List.length_append, cw_len]; decide) (by first | (rw [cw_len]; kernel_rfl) | (simp only [List.length_append, cw_len]; kernel_rfl)) (pt_one _ _ _) ?_
  intro w11 st11
  have st11 : St Nob w w11 [(gp, mdL m, 112), (gc, [Value.pointer (some ⟨gp, 0, none⟩)] ++ (cw 4 (elN m 7) ++ (cw 4 (elN m gXn) ++ (cw 4 (elN m gYn) ++ cw 4 (elN m 1)))), 62), (g4, cw 4 (elN m gXn), 58), (g5, cw 4 (elN m gYn), 58)] := st11
  clear st10
  try simp only [Act.put]
  refine plan_end ?_
  refine NoPanic.normal ?_
  have hown := st11.own _ (List.mem_of_getElem? (i := 1) rfl)
  have hc := st11.at 1 rfl
  have hm := st11.at 0 rfl
  have hfr := st11.fr
  clear st11
  have hge := hown.resolve_right (fun h => h)
  clear hown
  have HGE := Lib.hid hge
  clear hge
  go_wp2_with fail
  go_ret
  exact ⟨gc, rfl, HGE.out, ⟨gp, hc, hm⟩, hfr⟩

theorem k256_c (w : World) : Calls Tryz.prog 24 #[] w fun e w' => ∃ gc, e = .returned (.pointer (some ⟨gc, 0, none⟩)) ∧ w.heap.size ≤ gc ∧ Cv w' gc ∧ Fr Nob w w' := k256_any mP .zero w
end Go.Proofs.YtdbgddngapminaaGreat

/- group: multiples of a point. -/
namespace Go.Mv
open Go.RowKit
/-- rows of the same length -/
theorem rows_len (f : Nat → List Value) (k : Nat) (hl : ∀ i, (f i).length = k) : ∀ n, ((List.range n).flatMap f).length = k * n
  | 0 => by simp
  | n + 1 => by rw [List.range_succ, List.flatMap_append, List.length_append, rows_len f k hl n]; simp [hl, Nat.mul_succ]
theorem rows_split (f : Nat → List Value) (n i : Nat) (h : i < n) : (List.range n).flatMap f = (List.range i).flatMap f ++ (f i ++ (List.range' (i + 1) (n - i - 1)).flatMap f) := by
  have e : List.range n = List.range i ++ i :: List.range' (i + 1) (n - i - 1) := by
    rw [List.range_eq_range', List.range_eq_range']
    have h1 : n = i + (n - i - 1 + 1) := by omega
    conv => lhs; rw [h1]
    rw [← List.range'_append_1, List.range'_succ]
    simp
  rw [e]; simp
theorem rows_get (f : Nat → List Value) (k : Nat) (hl : ∀ i, (f i).length = k) (n i : Nat) (h : i < n) : (((List.range n).flatMap f).drop (i * k)).take (f i).length = f i := by
  rw [rows_split f n i h, List.drop_append_of_le_length (by rw [rows_len f k hl, Nat.mul_comm]; omega), List.drop_of_length_le (by rw [rows_len f k hl, Nat.mul_comm]; omega), List.nil_append, List.take_left]
theorem rows_set (f f' : Nat → List Value) (k : Nat) (hl : ∀ i, (f i).length = k) (n i : Nat) (h : i < n) (hi : (f' i).length = k) (hv : ∀ j, j ≠ i → f' j = f j) : splice ((List.range n).flatMap f) (i * k) (f' i) = (List.range n).flatMap f' := by
  rw [rows_split f n i h, rows_split f' n i h]
  have e1 : (List.range i).flatMap f' = (List.range i).flatMap f := by
    rw [List.flatMap_def, List.flatMap_def]
    congr 1
    exact List.map_congr_left fun j hj => hv j (by have := List.mem_range.1 hj; omega)
  have e2 : (List.range' (i + 1) (n - i - 1)).flatMap f' = (List.range' (i + 1) (n - i - 1)).flatMap f := by
    rw [List.flatMap_def, List.flatMap_def]
    congr 1
    exact List.map_congr_left fun j hj => hv j (by have := List.mem_range'_1.1 hj; omega)
  rw [e1, e2]
  exact splice_mid _ _ _ _ _ (by rw [rows_len f k hl, Nat.mul_comm]) (by rw [hi, hl])
end Go.Mv
namespace Go.Proofs.YtdbgddngapminaaGreat
open Go.RowKit Go.Mv Mvp Mvq
/-- 0 to 15 times a point -/
noncomputable def mulT (s : PT) : Nat → PT
  | 0 => noT
  | i + 1 => addT (mulT s i) s
theorem mulT_pt (s : PT) : ∀ i, (mulT s i).pt = pmul i s.pt
  | 0 => noT_pt
  | i + 1 => by
    show (addT (mulT s i) s).pt = padd (pmul i s.pt) s.pt
    rw [addT_pt, mulT_pt s i]
theorem mulT_c (s : PT) (k gc : Nat) (w : World) (h : Cv w gc) : Calls Tryz.prog 73 #[.pointer (some ⟨gc, 0, none⟩), (.agg (mulT s k).L.toArray), (.agg s.L.toArray)] w fun e w' => e = .returned (.agg (mulT s (k + 1)).L.toArray) ∧ Fr Nob w w' := plus_c (mulT s k) s gc w h
/-- the table, so far as it is filled -/
noncomputable def tbR (s : PT) (j i : Nat) : List Value := if i < j then (mulT s i).L else cw 12 0
noncomputable def tbL (s : PT) (j : Nat) : List Value := (List.range 16).flatMap (tbR s j)
theorem tbR_len (s : PT) (j i : Nat) : (tbR s j i).length = 12 := by
  unfold tbR; split
  · exact PT.len _
  · exact cw_len _ _
theorem tbL_len (s : PT) (j : Nat) : (tbL s j).length = 192 := rows_len _ 12 (tbR_len s j) 16
theorem tbL_one (s : PT) (j : Nat) : ∀ v ∈ tbL s j, v.oneCell' = true := by
  intro v hv
  unfold tbL at hv
  obtain ⟨i, -, hi⟩ := List.mem_flatMap.1 hv
  unfold tbR at hi
  split at hi
  · exact PT.one _ v hi
  · exact cw_one _ _ v hi
set_option maxRecDepth 100000 in
theorem tbL_zero (s : PT) : (Value.agg (List.replicate 192 (Value.int .u64 0)).toArray).cells.toList = tbL s 0 := by
  unfold tbL tbR
  simp only [Nat.not_lt_zero, if_false, cw_zero]
  rfl
theorem tbL_set (s : PT) (j : Nat) (h : j < 16) : splice (tbL s j) (j * 12) (mulT s j).L = tbL s (j + 1) := by
  have h0 := rows_set (tbR s j) (tbR s (j + 1)) 12 (tbR_len s j) 16 j h (tbR_len s _ _) (fun i hi => by unfold tbR; by_cases hc : i < j; rw [if_pos hc, if_pos (by omega)]; rw [if_neg hc, if_neg (by omega)])
  have e : tbR s (j + 1) j = (mulT s j).L := by unfold tbR; rw [if_pos (by omega)]
  rw [e] at h0
  exact h0
theorem tbL_set0 (s : PT) : splice (tbL s 0) 0 noT.L = tbL s (0 + 1) := tbL_set s 0 (by omega)
theorem tbL_get (s : PT) (j i : Nat) (h : i < j) (hj : j ≤ 16) : ((tbL s j).drop (i * 12)).take (mulT s i).L.length = (mulT s i).L := by
  have h0 := rows_get (tbR s j) 12 (tbR_len s j) 16 i (by omega)
  have e : tbR s j i = (mulT s i).L := by unfold tbR; rw [if_pos h]
  rw [e] at h0
  exact h0
theorem info_mul : (Tryz.prog.info? 69).map (·.zero) = some (some (.agg (List.replicate 192 (.int .u64 0)).toArray)) := by kernel_rfl
attribute [local irreducible] limbs lw mix cw cSub cAdd cMul foldC valFrom beN laid be32 powm montT mstep elN mdL numB rtN rtV rtOk gXn gYn PT.L addT dblT mulT tbL
set_option maxHeartbeats 16000000 in
set_option maxRecDepth 1000000 in
theorem multiples_c (s : PT) (gc : Nat) (w : World) (h : Cv w gc) :
    Calls Tryz.prog 29 #[.pointer (some ⟨gc, 0, none⟩), .agg s.L.toArray] w fun e w' => e = .returned (.agg (tbL s 16).toArray) ∧ Fr Nob w w' := by
  have HCV := Lib.hid h
  clear h
  have st0 := St.start Nob w
  go_enter Tryz.func29, Tryz.ntmps29
  go_wp2_with (with_reducible refine wl_stop (o := ⟨some 3, _, _, _, _, _⟩) ?_)
  refine wl_boxS st0 rfl rfl rfl (s.L) rfl ?_
  intro g3 w1 st1
  clear st0
  go_wp2_with (with_reducible refine wl_stop (o := ⟨some 4, _, _, _, _, _⟩) ?_)
  refine wl_allocS st1 rfl rfl info_mul (tbL s 0) (tbL_zero s) ?_
  intro g4 w2 st2
  clear st1
  go_wp2_with fail
  refine (nothing_c gc _ (HCV.out.keep st2.fr)).mono ?_
  rintro e' w3 ⟨rfl, hf3⟩
  have st3 := st2.keep hf3
  clear st2 hf3
  go_wp2_with (with_reducible refine wl_stop (o := ⟨none, _, _, _, _, _⟩) ?_)
  refine wl_storeP st3 1 rfl rfl rfl rfl rfl (tbL s (0 + 1)) (tbL_set0 s) (by rw [tbL_len, PT.len]; omega) (by first | (rw [cw_len]; kernel_rfl) | (simp only [PT.len]; kernel_rfl)) (PT.one _) ?_
  intro w4 st4
  have st4 : St Nob w w4 [(g3, s.L, 60), (g4, tbL s (0 + 1), 69)] := st4
  clear st3
  go_wp2
  go_loopw [5] (fun i wr => ∃ k : Nat, k ≤ 15 ∧ i = .int .i64 ((k : Int) + 1) ∧ St Nob w wr [(g3, s.L, 60), (g4, tbL s (k + 1), 69)]) (fun i _ => (16 - intOf i).toNat)
  case atStart => exact ⟨0, by omega, rfl, st4⟩
  case round =>
    obtain ⟨k, hk, rfl, st⟩ := hrel
    clear st4
    rcases Nat.lt_or_ge k 15 with hk2 | hk2
    · have hc : ((k : Int) + 1 < 16) := by omega
      have hlt : (k : Int) + 1 < 9223372036854775808 := by omega
      have hl2 : (k : Int) < 9223372036854775808 := by omega
      have hl3 : (k : Int) < 16 := by omega
      have hl4 : IntKind.i64.wrap (k : Int) = (k : Int) := IntWalk.i64_in _ (by omega)
      have hl5 : (0 : Int) ≤ (k : Int) := by omega
      have hl6 : (0 : Int) ≤ (k : Int) + 1 := by omega
      go_wp2_with fail
      refine wp_region_noPanic ?_
      refine wp_region_plan (fun wx => St Nob w wx [(g3, s.L, 60), (g4, tbL s (k + 1), 69)]) 9 (.w 0 (.w 1 (.w 2 (.w 3 (.w 4 (.t 5 (.t 6 (.r 7 (.w 8 (.m 9 .nil)))))))))) (by kernel_rfl) (by kernel_rfl) st.drew (fun _ _ _ _ _ h => h) ?_
      have hd4 := st.drew
      clear st
      refine plan_w (v := ?_) rfl rfl (fun wx => ?_) ?_
      rotate_left 1
      · (go_simp; with_reducible rfl)
      try simp only [Go.Mv.clL]
      refine plan_w (v := ?_) rfl rfl (fun wx => ?_) ?_
      rotate_left 1
      · (go_simp; with_reducible rfl)
      try simp only [Go.Mv.clL]
      refine plan_w (v := ?_) rfl rfl (fun wx => ?_) ?_
      rotate_left 1
      · (go_simp; with_reducible rfl)
      try simp only [Go.Mv.clL]
      refine plan_w (v := ?_) rfl rfl (fun wx => ?_) ?_
      rotate_left 1
      · (go_simp; with_reducible rfl)
      try simp only [Go.Mv.clL]
      refine plan_w (v := ?_) rfl rfl (fun wx => ?_) ?_
      rotate_left 1
      · (go_simp; with_reducible rfl)
      try simp only [Go.Mv.clL]
      refine plan_arr rfl rfl rfl rfl ((mulT s k).L) (fun wx hS => St.rangeL hS 1 rfl (k * 12) _ (tbL_get s (k + 1) k (by omega) (by omega))) Tryz.underlying60 rfl (by first | (rw [cw_len]; kernel_rfl) | (simp only [PT.len]; kernel_rfl)) ?_
      try simp only [Go.Mv.clL]
      refine plan_arr rfl rfl rfl rfl (s.L) (fun wx hS => St.rangeL hS 0 rfl 0 _ (by rw [List.drop_zero, List.take_of_length_le (Nat.le_refl _)])) Tryz.underlying60 rfl (by first | (rw [cw_len]; kernel_rfl) | (simp only [PT.len]; kernel_rfl)) ?_
      try simp only [Go.Mv.clL]
      refine plan_r rfl rfl ?_
      go_simp
      refine (mulT_c s k gc _ (HCV.out.keep hd4.fr)).mono ?_
      rintro e' w5 ⟨rfl, hf5⟩
      have st5 := hd4.keep hf5
      clear hf5
      clear hd4
      refine ⟨st5, ?_⟩
      try simp only [Go.Mv.clL]
      refine plan_w (v := ?_) rfl rfl (fun wx => ?_) ?_
      rotate_left 1
      · (go_simp; with_reducible rfl)
      try simp only [Go.Mv.clL]
      refine plan_m rfl rfl ?_
      refine wp_storeP st5 1 rfl rfl rfl rfl (tbL s ((k + 1) + 1)) (tbL_set s (k + 1) (by omega)) (by rw [tbL_len, PT.len]; omega) (by first | (rw [cw_len]; kernel_rfl) | (simp only [PT.len]; kernel_rfl)) (PT.one _) ?_
      intro w6 st6
      have st6 : St Nob w w6 [(g3, s.L, 60), (g4, tbL s ((k + 1) + 1), 69)] := st6
      clear st5
      try simp only [Act.put]
      refine plan_end ?_
      refine NoPanic.normal ?_
      go_wp2
      go_roundw
      case rel => exact ⟨k + 1, by omega, by simp, st6⟩
      case measure => simp [intOf]; omega
    · have hk3 : k = 15 := by omega
      subst hk3
      have hc : ¬ (((15 : Nat) : Int) + 1 < 16) := by omega
      go_wp2_with (with_reducible refine wl_stop (o := ⟨some 22, _, _, _, _, _⟩) ?_)
      refine wl_loadSt st 1 rfl rfl rfl Tryz.underlying69 rfl rfl (by first | (rw [cw_len]; kernel_rfl) | (simp only [tbL_len]; kernel_rfl)) ?_
      go_wp2_with (with_reducible refine wl_stop (o := ⟨none, _, _, _, _, _⟩) ?_)
      refine wl_storeS st 1 rfl rfl rfl rfl rfl (by first | (simp only [cw_len]; done) | (simp only [List.length_append, cw_len, PT.len, tbL_len]; done)) (by first | (rw [cw_len]; kernel_rfl) | (simp only [tbL_len]; kernel_rfl)) (tbL_one _ _) ?_
      intro w5 st5
      clear st
      have hr := st5.at 1 rfl
      have hfr := st5.fr
      clear st5
      go_wp2_with fail
      exact bodyPost_ret (results_arr rfl rfl hr Tryz.underlying69 (by first | (rw [cw_len]; kernel_rfl) | (simp only [tbL_len]; kernel_rfl))) rfl ⟨rfl, hfr⟩
end Go.Proofs.YtdbgddngapminaaGreat

/- group: digit, sum, times. -/
namespace Mvp
theorem digit_of (n j : Nat) : lw n (4 * j / 64) / 2 ^ (4 * j % 64) % 16 = n / 16 ^ j % 16 := by
  have h64 : (18446744073709551616 : Nat) = 2 ^ (4 * j % 64) * 2 ^ (64 - 4 * j % 64) := by
    rw [← Nat.pow_add, show 4 * j % 64 + (64 - 4 * j % 64) = 64 by omega]
  have hd : (16 : Nat) ∣ 2 ^ (64 - 4 * j % 64) := by
    have : 64 - 4 * j % 64 = 4 + (60 - 4 * j % 64) := by omega
    rw [this, Nat.pow_add]
    exact Nat.dvd_mul_right _ _
  have hp : B64 ^ (4 * j / 64) * 2 ^ (4 * j % 64) = 16 ^ j := by
    have h16 : (16 : Nat) ^ j = 2 ^ (4 * j) := by rw [Nat.pow_mul]
    have hB : B64 ^ (4 * j / 64) = 2 ^ (64 * (4 * j / 64)) := by rw [Nat.pow_mul]
    rw [h16, hB, ← Nat.pow_add, Nat.div_add_mod]
  show n / B64 ^ (4 * j / 64) % 18446744073709551616 / 2 ^ (4 * j % 64) % 16 = _
  rw [h64, Nat.mod_mul_right_div_self, Nat.mod_mod_of_dvd _ hd, Nat.div_div_eq_div_mul, hp]
end Mvp
namespace Go.Mv
open Go.RowKit
theorem sub_row {L R : List Value} {a n : Nat} (h : (L.drop a).take n = R) (b : Nat) (cs : List Value) (hb : b + cs.length ≤ n) (hc : (R.drop b).take cs.length = cs) : (L.drop (a + b)).take cs.length = cs := by
  rw [← h, List.drop_take, List.drop_drop, List.take_take, Nat.min_eq_left (by omega)] at hc
  exact hc
end Go.Mv
namespace Go.Proofs.YtdbgddngapminaaGreat
open Go.RowKit Go.Mv Mvp Mvq
/-- a term's cells -/
noncomputable def tmR (t : Nat × PT) : List Value := cw 4 t.1 ++ tbL t.2 16
theorem tmR_len (t : Nat × PT) : (tmR t).length = 196 := by unfold tmR; rw [List.length_append, cw_len, tbL_len]
theorem tmR_cell (t : Nat × PT) (k : Nat) (h : k < 4) : (tmR t)[k]? = some (.int .u64 (lw t.1 k)) := by
  unfold tmR
  rw [List.getElem?_append_left (by rw [cw_len]; exact h)]
  exact cw_get 4 t.1 k h
theorem tmR_tab (t : Nat × PT) (d : Nat) (h : d < 16) : ((tmR t).drop (4 + d * 12)).take (mulT t.2 d).L.length = (mulT t.2 d).L := by
  have e : (tmR t).drop (4 + d * 12) = (tbL t.2 16).drop (d * 12) := by
    unfold tmR
    rw [List.drop_append, List.drop_of_length_le (by rw [cw_len]; omega), List.nil_append, cw_len, show 4 + d * 12 - 4 = d * 12 by omega]
  rw [e]
  exact tbL_get t.2 16 d h (Nat.le_refl _)
def tmAt (l : List (Nat × PT)) (k : Nat) : Nat × PT := l.getD k (0, noT)
noncomputable def tmL (l : List (Nat × PT)) : List Value := (List.range l.length).flatMap fun k => tmR (tmAt l k)
theorem tmL_row (l : List (Nat × PT)) (k : Nat) (h : k < l.length) : ((tmL l).drop (k * 196)).take (tmR (tmAt l k)).length = tmR (tmAt l k) :=
  rows_get (fun k => tmR (tmAt l k)) 196 (fun _ => tmR_len _) l.length k h
theorem tmL_tab (l : List (Nat × PT)) (k d : Nat) (h : k < l.length) (hd : d < 16) : ((tmL l).drop (k * 196 + (4 + d * 12))).take (mulT (tmAt l k).2 d).L.length = (mulT (tmAt l k).2 d).L := by
  refine sub_row (tmL_row l k h) _ _ ?_ (tmR_tab _ d hd)
  rw [tmR_len, PT.len]; omega
/-- doubled so often -/
noncomputable def dbN (o : PT) : Nat → PT
  | 0 => o
  | q + 1 => dblT (dbN o q)
theorem dbN_c (o : PT) (q gc : Nat) (w : World) (h : Cv w gc) : Calls Tryz.prog 72 #[.pointer (some ⟨gc, 0, none⟩), (.agg (dbN o q).L.toArray)] w fun e w' => e = .returned (.agg (dbN o (q + 1)).L.toArray) ∧ Fr Nob w w' := double_c (dbN o q) gc w h
theorem dbN_pt (o : PT) (_ : o.pt = o.pt) : (dbN o 4).pt = pmul 16 o.pt := by
  show (dblT (dblT (dblT (dblT o)))).pt = _
  rw [dblT_pt, dblT_pt, dblT_pt, dblT_pt, pmul_16 o.onP]
/-- the terms' digits added -/
noncomputable def innT (l : List (Nat × PT)) (i : Nat) (o : PT) : Nat → PT
  | 0 => o
  | k + 1 => addT (innT l i o k) (mulT (tmAt l k).2 (dig (63 - i) (tmAt l k).1))
theorem innT_c (l : List (Nat × PT)) (i : Nat) (o : PT) (k d : Nat) (hd : dig (63 - i) (tmAt l k).1 = d) (gc : Nat) (w : World) (h : Cv w gc) : Calls Tryz.prog 73 #[.pointer (some ⟨gc, 0, none⟩), (.agg (innT l i o k).L.toArray), (.agg (mulT (tmAt l k).2 d).L.toArray)] w fun e w' => e = .returned (.agg (innT l i o (k + 1)).L.toArray) ∧ Fr Nob w w' := by
  subst hd
  exact plus_c (innT l i o k) _ gc w h
noncomputable def outT (l : List (Nat × PT)) : Nat → PT
  | 0 => noT
  | i + 1 => innT l i (dbN (outT l i) 4) l.length
theorem outT_next (l : List (Nat × PT)) (i : Nat) : innT l i (dbN (outT l i) 4) l.length = outT l (i + 1) := rfl
theorem outT_zero (l : List (Nat × PT)) : noT = outT l 0 := rfl
theorem dbN_zero (o : PT) : dbN o 0 = o := rfl
theorem innT_zero (l : List (Nat × PT)) (i : Nat) (o : PT) : innT l i o 0 = o := rfl
noncomputable def sumT (l : List (Nat × PT)) : PT := outT l 64
theorem sumT_is (l : List (Nat × PT)) : outT l 64 = sumT l := rfl
attribute [local irreducible] limbs lw mix cw cSub cAdd cMul foldC valFrom beN laid be32 powm montT mstep elN mdL numB rtN rtV rtOk gXn gYn PT.L addT dblT mulT tbL tmR tmL dbN innT outT sumT dig
set_option maxHeartbeats 8000000 in
set_option maxRecDepth 1000000 in
theorem digit_c (t : Nat × PT) (i d : Nat) (hi : i < 64) (hd : dig (63 - i) t.1 = d) (w : World) :
    Calls Tryz.prog 74 #[.agg (tmR t).toArray, .int .i64 (i : Int)] w fun e w' => e = .returned (.int .u64 (d : Int)) ∧ Fr Nob w w' := by
  obtain ⟨a, ha⟩ : ∃ a, 252 - 4 * i = a := ⟨_, rfl⟩
  have ha2 : 4 * (63 - i) = a := by omega
  have hdd : lw t.1 (a / 64) / 2 ^ (a % 64) % 16 = d := by
    have := digit_of t.1 (63 - i)
    rw [ha2] at this
    rw [this]
    unfold dig at hd
    exact hd
  have HD := Lib.hid hdd
  clear hd hdd
  have hal : a < 256 := by omega
  have haI : (256 : Int) - 4 * ((i : Int) + 1) = (a : Int) := by omega
  have st0 := St.start Nob w
  go_enter Tryz.func74, Tryz.ntmps74
  go_wp2_with (with_reducible refine wl_stop (o := ⟨some 2, _, _, _, _, _⟩) ?_)
  refine wl_boxS st0 rfl rfl rfl (tmR t) rfl ?_
  intro g1 w1 st1
  clear st0
  have c1 := (st1.at 0 rfl).cell (tmR_cell t (a / 64) (by omega))
  have hlo : (0 : Int) ≤ (a : Int) / 64 ∧ (a : Int) / 64 < 4 := by omega
  have hlo2 : (0 : Int) ≤ (a : Int) % 64 ∧ (a : Int) % 64 < 64 := by omega
  have e4 : ((a : Int) / 64).toNat = a / 64 := by omega
  have e5 : ((a : Int) % 64).toNat = a % 64 := by omega
  have hiI : (i : Int) < 64 := by omega
  have e6 : IntKind.i64.wrap ((i : Int) + 1) = (i : Int) + 1 := IntWalk.i64_in _ (by omega)
  have e7 : IntKind.i64.wrap (4 * ((i : Int) + 1)) = 4 * ((i : Int) + 1) := IntWalk.i64_in _ (by omega)
  have e8 : IntKind.i64.wrap (256 - 4 * ((i : Int) + 1)) = (a : Int) := by rw [haI]; exact IntWalk.i64_in _ (by omega)
  have hfr := st1.fr
  clear st1 haI
  have hw : lw t.1 (a / 64) / 2 ^ (a % 64) < 18446744073709551616 := Nat.lt_of_le_of_lt (Nat.div_le_self _ _) (lw_lt _ _)
  have hb := bits_and_u64_nat (lw t.1 (a / 64) / 2 ^ (a % 64)) 15 hw (by omega)
  rw [show (15 : Nat) = 2 ^ 4 - 1 by decide, Nat.and_two_pow_sub_one_eq_mod, show (2 : Nat) ^ 4 - 1 = 15 by decide, show (2 : Nat) ^ 4 = 16 by decide] at hb
  simp only [Int.natCast_ediv, Int.natCast_pow, Int.cast_ofNat_Int] at hb
  clear ha ha2 hi
  go_wp2
  go_ret
  refine ⟨ret_intN ?_, hfr⟩
  rw [← HD.out]
  simp

set_option maxHeartbeats 8000000 in
set_option maxRecDepth 1000000 in
theorem sum_c (l : List (Nat × PT)) (gc : Nat) (a : Option Addr) (n c : Nat) (w : World) (h : Cv w gc) (hl : l.length = n) (hn : n ≤ 100000) (htm : Rd w a (l.length * 196) (tmL l)) :
    Calls Tryz.prog 28 #[.pointer (some ⟨gc, 0, none⟩), .slice a n c] w fun e w' => e = .returned (.agg (sumT l).L.toArray) ∧ Fr Nob w w' := by
  subst hl
  rw [← sumT_is]
  have HCV := Lib.hid h
  have HTM := Lib.hid htm
  clear h htm
  have st0 := St.start Nob w
  go_enter Tryz.func28, Tryz.ntmps28
  go_wp2_with (with_reducible refine wl_stop (o := ⟨some 4, _, _, _, _, _⟩) ?_)
  refine wl_allocS st0 rfl rfl (z := .agg (List.replicate 12 (.int .u64 0)).toArray) (by kernel_rfl) (cw 12 0) (by rw [cw_zero]; rfl) ?_
  intro g4 w1 st1
  clear st0
  go_wp2_with fail
  refine (nothing_c gc _ (HCV.out.keep st1.fr)).mono ?_
  rintro e' w2 ⟨rfl, hf2⟩
  have st2 := st1.keep hf2
  clear st1 hf2
  go_wp2_with (with_reducible refine wl_stop (o := ⟨some 5, _, _, _, _, _⟩) ?_)
  refine wl_allocS st2 rfl rfl (z := .agg (List.replicate 12 (.int .u64 0)).toArray) (by kernel_rfl) (cw 12 0) (by rw [cw_zero]; rfl) ?_
  intro g5 w3 st3
  clear st2
  go_wp2_with (with_reducible refine wl_stop (o := ⟨none, _, _, _, _, _⟩) ?_)
  refine wl_storeS st3 1 rfl rfl rfl rfl rfl (by first | (simp only [cw_len]; done) | (simp only [List.length_append, cw_len, PT.len, tbL_len, tmR_len]; done)) (by first | (rw [cw_len]; kernel_rfl) | (simp only [PT.len]; kernel_rfl)) (PT.one _) ?_
  intro w4 st4
  clear st3
  rw [outT_zero l] at st4
  go_wp2
  go_loopw [10] (fun x wr => ∃ i : Nat, i ≤ 64 ∧ x = .int .i64 (i : Int) ∧ St Nob w wr [(g4, cw 12 0, 60), (g5, (outT l i).L, 60)]) (fun x _ => 64 - (intOf x).toNat)
  case atStart => exact ⟨0, by omega, rfl, st4⟩
  case round =>
    obtain ⟨i, hi, rfl, st⟩ := hrel
    clear st4
    by_cases hlt : i < 64
    · have hltI : (i : Int) < 64 := by omega
      go_wp2
      go_loopw [13] (fun x wr => ∃ q : Nat, q ≤ 4 ∧ x = .int .i64 (q : Int) ∧ St Nob w wr [(g4, cw 12 0, 60), (g5, (dbN (outT l i) q).L, 60)]) (fun x _ => 4 - (intOf x).toNat)
      case atStart => exact ⟨0, by omega, rfl, by rw [dbN_zero]; exact st⟩
      case round =>
        obtain ⟨q, hq, rfl, st2⟩ := hrel
        clear st
        by_cases hq4 : q < 4
        · have hqI : (q : Int) < 4 := by omega
          go_wp2_with (with_reducible refine wl_stop (o := ⟨some 16, _, _, _, _, _⟩) ?_)
          refine wl_loadSt st2 1 rfl rfl rfl Tryz.underlying60 rfl rfl (by first | (rw [cw_len]; kernel_rfl) | (simp only [PT.len]; kernel_rfl)) ?_
          go_wp2_with fail
          refine (dbN_c (outT l i) q gc _ (HCV.out.keep st2.fr)).mono ?_
          rintro e' w5 ⟨rfl, hf5⟩
          have st5 := st2.keep hf5
          clear st2 hf5
          go_wp2_with (with_reducible refine wl_stop (o := ⟨none, _, _, _, _, _⟩) ?_)
          refine wl_storeS st5 1 rfl rfl rfl rfl rfl (by first | (simp only [cw_len]; done) | (simp only [List.length_append, cw_len, PT.len, tbL_len, tmR_len]; done)) (by first | (rw [cw_len]; kernel_rfl) | (simp only [PT.len]; kernel_rfl)) (PT.one _) ?_
          intro w6 st6
          clear st5
          go_wp2
          go_roundw
          case rel => exact ⟨q + 1, by omega, by go_num, st6⟩
          case measure => simp [intOf]; omega
        · have hqI : ¬ ((q : Int) < 4) := by omega
          have hq5 : q = 4 := by omega
          rw [hq5] at st2
          clear hq5
          go_wp2
          go_loopw [21] (fun x wr => ∃ k : Nat, k ≤ l.length ∧ x = .int .i64 (k : Int) ∧ St Nob w wr [(g4, cw 12 0, 60), (g5, (innT l i (dbN (outT l i) 4) k).L, 60)]) (fun x _ => l.length - (intOf x).toNat)
          case atStart => exact ⟨0, by omega, rfl, by rw [innT_zero]; exact st2⟩
          case round =>
            obtain ⟨k, hk, rfl, st3⟩ := hrel
            clear st2
            by_cases hkl : k < l.length
            · have hkI : (k : Int) < (l.length : Int) := by omega
              obtain ⟨ba, oa, hea, -⟩ := HTM.out.at (by omega)
              subst hea
              obtain ⟨d, hd⟩ : ∃ d, dig (63 - i) (tmAt l k).1 = d := ⟨_, rfl⟩
              have hd16 : d < 16 := by rw [← hd]; unfold dig; exact Nat.mod_lt _ (by decide)
              have HD := Lib.hid hd
              have HIL := Lib.hid hlt
              have HKL := Lib.hid hkl
              clear hd hlt hkl
              have HD16 := Lib.hid hd16
              have hd1 : (0 : Int) ≤ (d : Int) := by omega
              have hd2 : (d : Int) < 16 := by omega
              go_wp2_with fail
              refine wp_region_noPanic ?_
              refine wp_region_plan (fun wx => St Nob w wx [(g4, cw 12 0, 60), (g5, (innT l i (dbN (outT l i) 4) k).L, 60)]) 15 (.w 0 (.t 1 (.w 2 (.w 3 (.w 4 (.w 5 (.w 6 (.t 7 (.w 8 (.w 10 (.w 11 (.r 9 (.w 12 (.t 13 (.r 14 (.m 15 .nil)))))))))))))))) (by kernel_rfl) (by kernel_rfl) st3.drew (fun _ _ _ _ _ h => h) ?_
              have hd4 := st3.drew
              clear st3
              refine plan_w (v := ?_) rfl rfl (fun wx => ?_) ?_
              rotate_left 1
              · (go_simp; with_reducible rfl)
              try simp only [Go.Mv.clL]
              refine plan_arr rfl rfl rfl rfl ((innT l i (dbN (outT l i) 4) k).L) (fun wx hS => St.rangeL hS 1 rfl 0 _ (by rw [List.drop_zero, List.take_of_length_le (Nat.le_refl _)])) Tryz.underlying60 rfl (by first | (rw [cw_len]; kernel_rfl) | (simp only [PT.len]; kernel_rfl)) ?_
              try simp only [Go.Mv.clL]
              refine plan_w (v := ?_) rfl rfl (fun wx => ?_) ?_
              rotate_left 1
              · (go_simp; with_reducible rfl)
              try simp only [Go.Mv.clL]
              refine plan_w (v := ?_) rfl rfl (fun wx => ?_) ?_
              rotate_left 1
              · (go_simp; with_reducible rfl)
              try simp only [Go.Mv.clL]
              refine plan_w (v := ?_) rfl rfl (fun wx => ?_) ?_
              rotate_left 1
              · (go_simp; with_reducible rfl)
              try simp only [Go.Mv.clL]
              refine plan_w (v := ?_) rfl rfl (fun wx => ?_) ?_
              rotate_left 1
              · (go_simp; with_reducible rfl)
              try simp only [Go.Mv.clL]
              refine plan_w (v := ?_) rfl rfl (fun wx => ?_) ?_
              rotate_left 1
              · (go_simp; with_reducible rfl)
              try simp only [Go.Mv.clL]
              refine plan_arr rfl rfl rfl rfl (tmR (tmAt l k)) (fun wx hS => (rd_range (HTM.out.still (St.fr hS)) (k * 196) _ (tmL_row l k HKL.out))) Tryz.underlying72 rfl (by first | (rw [cw_len]; kernel_rfl) | (simp only [tmR_len]; kernel_rfl)) ?_
              try simp only [Go.Mv.clL]
              refine plan_w (v := ?_) rfl rfl (fun wx => ?_) ?_
              rotate_left 1
              · (go_simp; with_reducible rfl)
              try simp only [Go.Mv.clL]
              refine plan_w (v := ?_) rfl rfl (fun wx => ?_) ?_
              rotate_left 1
              · (go_simp; with_reducible rfl)
              try simp only [Go.Mv.clL]
              refine plan_w (v := ?_) rfl rfl (fun wx => ?_) ?_
              rotate_left 1
              · (go_simp; with_reducible rfl)
              try simp only [Go.Mv.clL]
              refine plan_r rfl rfl ?_
              go_simp
              refine (digit_c (tmAt l k) i d HIL.out HD.out _).mono ?_
              rintro e' w5 ⟨rfl, hf5⟩
              have st5 := hd4.keep hf5
              clear hf5
              clear hd4
              refine ⟨st5, ?_⟩
              try simp only [Go.Mv.clL]
              refine plan_w (v := ?_) rfl rfl (fun wx => ?_) ?_
              rotate_left 1
              · (go_simp; with_reducible rfl)
              try simp only [Go.Mv.clL]
              refine plan_arr rfl rfl rfl rfl ((mulT (tmAt l k).2 d).L) (fun wx hS => by have hr := rd_range (HTM.out.still (St.fr hS)) (k * 196 + (4 + d * 12)) _ (tmL_tab l k d HKL.out HD16.out); rw [← Nat.add_assoc, ← Nat.add_assoc] at hr; exact hr) Tryz.underlying60 rfl (by first | (rw [cw_len]; kernel_rfl) | (simp only [PT.len]; kernel_rfl)) ?_
              try simp only [Go.Mv.clL]
              refine plan_r rfl rfl ?_
              go_simp
              refine (innT_c l i (dbN (outT l i) 4) k d HD.out gc _ (HCV.out.keep st5.fr)).mono ?_
              rintro e' w6 ⟨rfl, hf6⟩
              have st6 := st5.keep hf6
              clear hf6
              clear st5
              refine ⟨st6, ?_⟩
              try simp only [Go.Mv.clL]
              refine plan_m rfl rfl ?_
              refine wp_storeS st6 1 rfl rfl rfl rfl (by first | (simp only [cw_len]; done) | (simp only [List.length_append, cw_len, PT.len, tbL_len, tmR_len]; done)) (by first | (rw [cw_len]; kernel_rfl) | (simp only [PT.len]; kernel_rfl)) (PT.one _) ?_
              intro w7 st7
              clear st6
              try simp only [Act.put]
              refine plan_end ?_
              refine NoPanic.normal ?_
              go_wp2
              go_roundw
              case rel => exact ⟨k + 1, by have := HKL.out; omega, by go_num, st7⟩
              case measure => have := HKL.out; simp [intOf]; omega
            · have hkI : ¬ ((k : Int) < (l.length : Int)) := by omega
              have hk2 : k = l.length := by omega
              rw [hk2, outT_next] at st3
              clear hk2
              go_wp2
              go_roundw
              case rel => exact ⟨i + 1, by omega, by go_num, st3⟩
              case measure => simp [intOf]; omega
    · have hltI : ¬ ((i : Int) < 64) := by omega
      have hi2 : i = 64 := by omega
      rw [hi2] at st
      clear hi2
      go_wp2_with (with_reducible refine wl_stop (o := ⟨some 41, _, _, _, _, _⟩) ?_)
      refine wl_loadSt st 1 rfl rfl rfl Tryz.underlying60 rfl rfl (by first | (rw [cw_len]; kernel_rfl) | (simp only [PT.len]; kernel_rfl)) ?_
      go_wp2_with (with_reducible refine wl_stop (o := ⟨none, _, _, _, _, _⟩) ?_)
      refine wl_storeS st 0 rfl rfl rfl rfl rfl (by first | (simp only [cw_len]; done) | (simp only [List.length_append, cw_len, PT.len, tbL_len, tmR_len]; done)) (by first | (rw [cw_len]; kernel_rfl) | (simp only [PT.len]; kernel_rfl)) (PT.one _) ?_
      intro w5 st5
      clear st
      have hr := st5.at 0 rfl
      have hfr := st5.fr
      clear st5
      go_wp2_with fail
      exact bodyPost_ret (results_st rfl rfl hr Tryz.underlying60 rfl (by first | (rw [cw_len]; kernel_rfl) | (simp only [PT.len]; kernel_rfl))) rfl ⟨rfl, hfr⟩
end Go.Proofs.YtdbgddngapminaaGreat

/- group: times, bytes. -/
namespace Go.Mv
open Go.RowKit
section
variable {P : Program} {w w0 : World} {ops : Array Oper} {rest : List Oper} {o : Oper} {a : Act} {Q : Exit → Act → World → Prop} {S : Nat → Prop} {bl : List (Nat × List Value × TypeId)} {K : Act → World → Prop}
/-- a slice literal of one row -/
theorem wp_slit1 (hst : St S w0 w bl) {t e : TypeId} {parts : Array (Nat × Operand)} (ho : o.op = .buildSlice t 1 parts) (hu : P.underlying t = some (.slice e)) {z : Value} {sz by_ : Nat} (hi0 : (P.info? e).map (fun i => (i.zero, i.size, i.bytes)) = some (some z, sz, by_)) (cs : List Value)
    (hp : (parts.toList.map fun p => (p.1, a.eval p.2)) = [(0, .agg cs.toArray)]) (hv : cs.length = sz) (h0 : 0 < sz) (h24 : sz ≤ 16777216)
    (h : ∀ g w', w.heap.size ≤ g → St S w0 w' (bl ++ [(g, cs, e)]) → K (a.put o.dst (.slice (some ⟨g, 0, none⟩) 1 1)) w') : o.wp P a w K Q := by
  obtain ⟨i, hi, hz0⟩ : ∃ i, P.info? e = some i ∧ (i.zero, i.size, i.bytes) = (some z, sz, by_) := by simpa using hi0
  simp only [Prod.mk.injEq] at hz0
  obtain ⟨hz1, hsz, hby⟩ := hz0
  have hf : Instr.fill (fun j => some (j * i.size, i.size)) ((Array.range (1 * i.size)).map (z.cells[· % z.cells.size]!)) (parts.map fun (i, x) => (i, a.eval x)).toList = some cs.toArray := by
    rw [show (parts.map fun (i, x) => (i, a.eval x)).toList = (parts.toList.map fun p => (p.1, a.eval p.2)) by simp, hp, hsz]
    have hfw := Great.fill_whole h0 [.agg cs.toArray] ((Array.range (1 * sz)).map (z.cells[· % z.cells.size]!)) (by intro v hv'; have h1 := List.mem_singleton.1 hv'; subst h1; show cs.toArray.size = sz; simpa using hv) (by simp)
    rw [show ([.agg cs.toArray] : List Value).flatMap (fun v => v.cells.toList) = cs by simp [Value.cells]] at hfw
    exact hfw
  exact wp_buildSlice t e 1 parts ho cs.toArray i z hu hi hz1 (by rw [hsz]; omega) (by rw [hsz]; omega) hf (h _ _ (Nat.le_refl _) (hst.new ((Fr.refl _ w).alloc _) (Has.new w cs.toArray e) (Nat.le_refl _)))
/-- append(s, make([]T, m)...) where there is room -/
theorem wl_append_zeros (hst : St S w0 w bl) (i : Nat) {g : Nat} {L : List Value} {T : TypeId} (hb : bl[i]? = some (g, L, T)) {s x : Operand} {t xt : TypeId} (hgd : o.guard = none) (ho : o.op = .call { callee := .builtin .append, args := #[s, x], argTypes := #[t, xt] })
    {e : TypeId} {k : IntKind} {z : Value} (ht : P.underlying t = some (.slice e)) (hxt : P.underlying xt = some (.int k)) (hi0 : (P.info? e).map (fun i => (i.zero, i.size, i.bytes)) = some (some z, 1, 1)) (hzc : z.cells = #[z]) (hone : z.oneCell' = true) {n m cap : Nat} (hs : a.eval s = .slice (some ⟨g, 0, none⟩) n cap) {kx : IntKind} (hx : a.eval x = .int kx (m : Int))
    (hfit : n + m ≤ cap) (hm : 0 < m) (hm2 : m ≤ 1000000) (hL : n + m ≤ L.length) (L' : List Value) (hL' : splice L n (List.replicate m z) = L')
    (h : ∀ w', St S w0 w' (bl.set i (g, L', T)) → wpList P ops Q rest (a.put o.dst (.slice (some ⟨g, 0, none⟩) (n + m) cap)) w') : wpList P ops Q (o :: rest) a w := by
  refine wpList_plain hgd fun K hK => ?_
  obtain ⟨j, hj, hz, hsize, hby⟩ := info_parts hi0
  obtain ⟨w', hst', hh, hfr, hz2⟩ := run_storeCells_has (P := P) g n T (List.replicate m z) 0 L w (hst.at i hb) (by simp; omega) (by intro v hv; rw [List.eq_of_mem_replicate hv]; exact hone)
  have hzz : (Builtin.zeroCells z.cells m).toList = List.replicate m z := by
    apply List.ext_getElem?
    intro q
    unfold Builtin.zeroCells
    rw [hzc]
    by_cases hq : q < m
    · simp [hq, Nat.mod_one]
    · simp [hq]
  have hwrap : IntKind.i64.wrap (m : Int) = (m : Int) := IntWalk.i64_in _ (by omega)
  have h1 : ¬ ((m : Int) < 0) := by omega
  have h2 : ¬ ((m : Int) * (1 : Int) > 2 ^ 48) := by omega
  have h2' : ¬ (2 ^ 48 < (m : Int)) := by omega
  have h3 : ¬ (m * 1 = 0) := by omega
  have h3' : m ≠ 0 := by omega
  have h4 : ¬ ((m : Int) ≤ 0) := by omega
  have hr : (Builtin.append_ #[t, xt] o.type #[.slice (some ⟨g, 0, none⟩) n cap, .int kx (m : Int)]).run P w = .ok (.slice (some ⟨g, 0, none⟩) (n + m) cap) w' := by
    simp [Builtin.append_, run_underlying ht, run_underlying hxt, sizeOf, typeInfo, hj, hsize, hby, hwrap, h1, h3', hfit, zeroValue, hz, addr_add, asInt, asIntOf, hzz, hst']
    intro hbig
    omega
  unfold Oper.wp execOp
  simp only [ho, resolve, invoke, builtin, Sem.run_bind, Sem.run_pure, Result.andThen_ok, List.map_toArray, List.map_cons, List.map_nil, hs, hx, hr]
  rw [Nat.add_zero, hL'] at hh
  exact hK _ _ (h w' (hst.put i hb hfr hh))
/-- append(s, x...) where there is room -/
theorem wp_append_in (hst : St S w0 w bl) (i : Nat) {g : Nat} {L : List Value} {T : TypeId} (hb : bl[i]? = some (g, L, T)) {s x : Operand} {t : TypeId} (ho : o.op = .call { callee := .builtin .append, args := #[s, x], argTypes := #[t, t] })
    {e : TypeId} {z : Value} (ht : P.underlying t = some (.slice e)) (hi0 : (P.info? e).map (fun i => (i.zero, i.size, i.bytes)) = some (some z, 1, 1)) {n m cap c : Nat} (hs : a.eval s = .slice (some ⟨g, 0, none⟩) n cap) {xa : Option Addr} (hx : a.eval x = .slice xa m c) {news : List Value} (hnews : Rd w xa m news) (h1 : ∀ u ∈ news, u.oneCell' = true)
    (hfit : n + m ≤ cap) (hL : n + m ≤ L.length) (L' : List Value) (hL' : splice L n news = L')
    (h : ∀ w', St S w0 w' (bl.set i (g, L', T)) → K (a.put o.dst (.slice (some ⟨g, 0, none⟩) (n + m) cap)) w') : o.wp P a w K Q := by
  obtain ⟨j, hj, hz, hsize, hby⟩ := info_parts hi0
  have hlen := hnews.len
  obtain ⟨w', hr, hh, hfr, -⟩ := run_append_room2 (P := P) t o.type e j ht hj g 0 n cap L T (hst.at i hb) xa m c news (by rw [hsize, Nat.mul_one]; exact hnews) h1 hfit (by rw [hsize]; omega)
  rw [hsize, Nat.mul_one, Nat.zero_add, hL'] at hh
  unfold Oper.wp execOp
  simp only [ho, resolve, invoke, builtin, Sem.run_bind, Sem.run_pure, Result.andThen_ok, List.map_toArray, List.map_cons, List.map_nil, hs, hx, hr]
  exact h w' (hst.put i hb hfr hh)
end
end Go.Mv
namespace Go.Proofs.YtdbgddngapminaaGreat
open Go.RowKit Go.Mv Mvp Mvq
theorem built_tm (n : Nat) (s : PT) : Tryz.prog.built 72 [(0, i4 n), (1, .agg (tbL s 16).toArray)] = some (tmR (n, s)).toArray := by kernel_rfl
theorem info_tm : (Tryz.prog.info? 72).map (fun i => (i.zero, i.size, i.bytes)) = some (some (.agg (List.replicate 196 (.int .u64 0)).toArray), 196, 1568) := by kernel_rfl
theorem tmL_one (t : Nat × PT) : tmL [t] = tmR t := by
  show (List.range 1).flatMap (fun k => tmR (tmAt [t] k)) = tmR t
  simp [List.range_succ, tmAt]
attribute [local irreducible] limbs lw mix cw cSub cAdd cMul foldC valFrom beN laid be32 powm montT mstep elN mdL numB rtN rtV rtOk gXn gYn PT.L addT dblT mulT tbL tmR tmL dbN innT outT sumT dig
set_option maxHeartbeats 8000000 in
set_option maxRecDepth 1000000 in
theorem times_c (n : Nat) (s : PT) (gc : Nat) (w : World) (h : Cv w gc) :
    Calls Tryz.prog 94 #[.pointer (some ⟨gc, 0, none⟩), i4 n, .agg s.L.toArray] w fun e w' => e = .returned (.agg (sumT [(n, s)]).L.toArray) ∧ Fr Nob w w' := by
  have HCV := Lib.hid h
  clear h
  have st0 := St.start Nob w
  go_enter Tryz.func94, Tryz.ntmps94
  go_wp2_with (with_reducible refine wl_stop (o := ⟨some 4, _, _, _, _, _⟩) ?_)
  refine wl_boxS st0 rfl rfl rfl (cw 4 n) rfl ?_
  intro g4 w1 st1
  clear st0
  go_wp2_with (with_reducible refine wl_stop (o := ⟨some 5, _, _, _, _, _⟩) ?_)
  refine wl_boxS st1 rfl rfl rfl (s.L) rfl ?_
  intro g5 w2 st2
  clear st1
  go_wp2_with (with_reducible refine wl_stop (o := ⟨some 6, _, _, _, _, _⟩) ?_)
  refine wl_allocS st2 rfl rfl (z := .agg (List.replicate 12 (.int .u64 0)).toArray) (by kernel_rfl) (cw 12 0) (by rw [cw_zero]; rfl) ?_
  intro g6 w3 st3
  clear st2
  go_wp2_with fail
  refine wp_region_noPanic ?_
  refine wp_region_plan (fun wx => St Nob w wx [(g4, cw 4 n, 64), (g5, s.L, 60), (g6, cw 12 0, 60)]) 8 (.w 0 (.t 1 (.w 2 (.t 3 (.r 4 (.w 5 (.r 6 (.r 7 (.m 8 .nil))))))))) (by kernel_rfl) (by kernel_rfl) st3.drew (fun _ _ _ _ _ h => h) ?_
  have hd3 := st3.drew
  clear st3
  refine plan_w (v := ?_) rfl rfl (fun wx => ?_) ?_
  rotate_left 1
  · (go_simp; with_reducible rfl)
  try simp only [Go.Mv.clL]
  refine plan_arr rfl rfl rfl rfl (cw 4 n) (fun wx hS => St.rangeL hS 0 rfl 0 _ (by rw [List.drop_zero, List.take_of_length_le (Nat.le_refl _)])) Tryz.underlying64 rfl (by first | (rw [cw_len]; kernel_rfl) | (rw [PT.len]; kernel_rfl) | (rw [tbL_len]; kernel_rfl) | (rw [tmR_len]; kernel_rfl) | (simp only [List.length_append, cw_len]; kernel_rfl) | (simp only [List.length_append, cw_len, PT.len, tbL_len, tmR_len]; kernel_rfl)) ?_
  try simp only [Go.Mv.clL]
  refine plan_w (v := ?_) rfl rfl (fun wx => ?_) ?_
  rotate_left 1
  · (go_simp; with_reducible rfl)
  try simp only [Go.Mv.clL]
  refine plan_arr rfl rfl rfl rfl (s.L) (fun wx hS => St.rangeL hS 1 rfl 0 _ (by rw [List.drop_zero, List.take_of_length_le (Nat.le_refl _)])) Tryz.underlying60 rfl (by first | (rw [cw_len]; kernel_rfl) | (simp only [PT.len]; kernel_rfl)) ?_
  try simp only [Go.Mv.clL]
  refine plan_r rfl rfl ?_
  go_simp
  refine (multiples_c s gc _ (HCV.out.keep hd3.fr)).mono ?_
  rintro e' w4 ⟨rfl, hf4⟩
  have st4 := hd3.keep hf4
  clear hf4
  clear hd3
  refine ⟨st4, ?_⟩
  try simp only [Go.Mv.clL]
  refine plan_w rfl rfl (exec_build rfl _ (built_tm _ _)) ?_
  try simp only [Go.Mv.clL]
  refine plan_r rfl rfl ?_
  refine wp_slit1 st4 rfl Tryz.underlying113 info_tm (tmR (n, s)) rfl (tmR_len _) (by decide) (by decide) ?_
  intro g13 w5 hg13 st5
  clear hg13
  have HRD := Lib.hid (show Rd w5 (some ⟨g13, 0, none⟩) (([(n, s)] : List (Nat × PT)).length * 196) (tmL [(n, s)]) by rw [tmL_one]; have h := Rd.whole (st5.at 3 rfl); rw [tmR_len] at h; exact h)
  refine ⟨St.less st5 (by simp), ?_⟩
  try simp only [Go.Mv.clL]
  refine plan_r rfl rfl ?_
  go_simp
  refine (sum_c [(n, s)] gc (some ⟨g13, 0, none⟩) 1 1 _ (HCV.out.keep st5.fr) rfl (by decide) HRD.out).mono ?_
  rintro e' w6 ⟨rfl, hf6⟩
  have st6 := st5.keep hf6
  clear hf6
  clear st5
  refine ⟨St.less st6 (by simp), ?_⟩
  try simp only [Go.Mv.clL]
  refine plan_m rfl rfl ?_
  refine wp_storeS st6 2 rfl rfl rfl rfl (by first | (simp only [cw_len]; done) | (simp only [List.length_append, cw_len, PT.len, tbL_len, tmR_len]; done)) (by first | (rw [cw_len]; kernel_rfl) | (simp only [PT.len]; kernel_rfl)) (PT.one _) ?_
  intro w7 st7
  clear st6
  try simp only [Act.put]
  refine plan_end ?_
  refine NoPanic.normal ?_
  have hr := st7.at 2 rfl
  have hfr := st7.fr
  clear st7
  go_wp2_with fail
  exact bodyPost_ret (results_st rfl rfl hr Tryz.underlying60 rfl (by first | (rw [cw_len]; kernel_rfl) | (simp only [PT.len]; kernel_rfl))) rfl ⟨rfl, hfr⟩
end Go.Proofs.YtdbgddngapminaaGreat

/- group: bytes. -/
namespace Go.Proofs.YtdbgddngapminaaGreat
open Go.RowKit Go.Mv Mvp Mvq
theorem zeros_bs (n : Nat) : List.replicate n (Value.int .u8 0) = bs (List.replicate n 0) := by simp [bs]
theorem zeros_app : splice (bs (List.replicate 33 0)) 1 (List.replicate 32 (Value.int .u8 0)) = bs (List.replicate 33 0) := by rfl
def bb1 (b : Nat) : List Value := bs ([UInt8.ofNat b] ++ List.replicate 32 0)
def bb2 (b X : Nat) : List Value := bs (UInt8.ofNat b :: be32 X)
theorem bb1_len (b : Nat) : (bb1 b).length = 33 := by unfold bb1; rw [length_bs]; simp
theorem bb2_len (b X : Nat) : (bb2 b X).length = 33 := by unfold bb2; rw [length_bs, List.length_cons, be32_len]
theorem bytes_splice (b X : Nat) : splice (bb1 b) 1 (bs (be32 X)) = bb2 b X := by
  unfold bb1 bb2
  rw [bs_append, splice_end _ _ _ 1 (by simp [bs]) (by rw [length_bs, length_bs, be32_len]; rfl), ← bs_append]; rfl
theorem zeros_set (b : Nat) (hb : b < 256) : (bs (List.replicate 33 0)).set 0 (.int .u8 (b : Int)) = bb1 b := by
  unfold bb1
  have h := bs_set (List.replicate 33 0) 0 (UInt8.ofNat b)
  rw [show ((UInt8.ofNat b).toNat : Int) = (b : Int) by rw [UInt8.toNat_ofNat']; omega] at h
  rw [h]; rfl
theorem or_two (b : Nat) (h : b = 0 ∨ b = 1) : bits .or .u8 2 (b : Int) = ((2 + b : Nat) : Int) := by
  rcases h with rfl | rfl <;> decide
attribute [local irreducible] limbs lw mix cw cSub cAdd cMul foldC valFrom beN laid be32 powm montT mstep elN mdL numB rtN rtV rtOk gXn gYn bb1 bb2
set_option maxHeartbeats 16000000 in
set_option maxRecDepth 1000000 in
theorem bytes_none (m : Md) (gc gp bx by_ : Nat) (w : World) (hok : m.Ok) (hcv : Has w gc (crvL m gp bx by_) 62) (hpm : Has w gp (mdL m) 112) (x y z : Nat) (hb : (z % m.M == 0) = true) :
    Calls Tryz.prog 25 #[.pointer (some ⟨gc, 0, none⟩), ptV m x y z] w fun e w' => ∃ sv, e = .returned sv ∧ Own w' w.heap.size 5 1 sv 33 (bs (List.replicate 33 0)) ∧ Fr Nob w w' := by
  have HOK := Lib.hid hok
  have HCV := Lib.hid hcv
  have HPM := Lib.hid hpm
  clear hok hcv hpm
  have HB := Lib.hid hb
  clear hb
  unfold ptV ptL
  have st0 := St.start Nob w
  go_enter Tryz.func25, Tryz.ntmps25
  go_wp2_with (with_reducible refine wl_stop (o := ⟨some 3, _, _, _, _, _⟩) ?_)
  refine wl_boxS st0 rfl rfl rfl (cw 4 (elN m x) ++ (cw 4 (elN m y) ++ cw 4 (elN m z))) rfl ?_
  intro g3 w1 st1
  clear st0
  go_wp2_with (with_reducible refine wl_stop (o := ⟨some 9, _, _, _, _, _⟩) ?_)
  refine wl_make rfl rfl Tryz.underlying22 info_u8 rfl rfl rfl 1 33 (by simp) (by simp) (by omega) (by omega) (by unfold maxLen; omega) ?_
  intro w2 hg2 hf2 hz2
  clear hz2
  have st2 := st1.new hf2 hg2 (Nat.le_refl _)
  have hb2 := st1.fr.size
  skip
  clear st1 hg2 hf2
  generalize w1.heap.size = gb at *
  have HBB := Lib.hid hb2
  clear hb2
  rw [zeros_bs] at st2
  go_wp2_with (with_reducible refine wl_stop (o := ⟨some 10, _, _, _, _, _⟩) ?_)
  refine wl_loadSt st2 0 rfl rfl rfl Tryz.underlying60 rfl rfl (by first | (rw [cw_len]; kernel_rfl) | (simp only [List.length_append, cw_len]; kernel_rfl)) ?_
  go_wp2_with fail
  refine (none_any m HOK.out x y z true HB.out _).mono ?_
  rintro e' w3 ⟨rfl, hf3⟩
  have st3 := st2.keep hf3
  clear st2 hf3
  go_wp2_with (with_reducible refine wl_stop (o := ⟨some 13, _, _, _, _, _⟩) ?_)
  refine wl_append_zeros st3 1 rfl rfl rfl Tryz.underlying22 Tryz.underlying3 info_u8 rfl rfl (n := 1) (m := 32) (cap := 33) rfl rfl (by decide) (by decide) (by decide) (by rw [length_bs, List.length_replicate]; decide) (bs (List.replicate 33 0)) zeros_app ?_
  intro w4 st4
  clear st3
  have hown : Own w4 w.heap.size 5 1 (.slice (some ⟨gb, 0, none⟩) 33 33) 33 (bs (List.replicate 33 0)) := by
    have h := st4.at 1 rfl
    exact Own.made h w.heap.size HBB.out 1 33 33 (Nat.le_refl _) (by unfold maxLen; omega) (by decide)
  have hfr := st4.fr
  clear st4
  go_wp2_with fail
  go_ret
  exact ⟨_, rfl, hown, hfr⟩

theorem MInv_v (m : Md) (gp : Nat) (w : World) (hok : m.Ok) (hpm : Has w gp (mdL m) 112) (x r : Nat) (hr : x ^ (m.M - 2) = r) :
    Calls Tryz.prog 62 #[.pointer (some ⟨gp, 0, none⟩), i4 (elN m x)] w fun e w' => e = .returned (i4 (elN m r)) ∧ Fr Nob w w' := by
  subst hr; exact MInv_any m gp w hok hpm x
theorem MFrom_v (m : Md) (gp : Nat) (w : World) (hok : m.Ok) (hpm : Has w gp (mdL m) 112) (x r : Nat) (hr : x % m.M = r) :
    Calls Tryz.prog 64 #[.pointer (some ⟨gp, 0, none⟩), i4 (elN m x)] w fun e w' => e = .returned (i4 r) ∧ Fr Nob w w' := by
  subst hr; exact MFrom_any m gp w hok hpm x
set_option maxHeartbeats 16000000 in
set_option maxRecDepth 1000000 in
theorem bytes_v (m : Md) (gc gp bx by_ : Nat) (w : World) (hok : m.Ok) (hcv : Has w gc (crvL m gp bx by_) 62) (hpm : Has w gp (mdL m) 112) (x y z : Nat) (hb : (z % m.M == 0) = false) (i ii i3 yy v xx u : Nat) (ei : z ^ (m.M - 2) = i) (eii : i * i = ii) (ei3 : ii * i = i3) (eyy : y * i3 = yy) (ev : yy % m.M = v) (exx : x * ii = xx) (eu : xx % m.M = u) :
    Calls Tryz.prog 25 #[.pointer (some ⟨gc, 0, none⟩), ptV m x y z] w fun e w' => ∃ sv, e = .returned sv ∧ Own w' w.heap.size 5 1 sv 33 (bs (UInt8.ofNat (2 + v % 2) :: be32 u)) ∧ Fr Nob w w' := by
  have HOK := Lib.hid hok
  have HCV := Lib.hid hcv
  have HPM := Lib.hid hpm
  clear hok hcv hpm
  have HB := Lib.hid hb
  have Hi := Lib.hid ei
  have Hii := Lib.hid eii
  have Hi3 := Lib.hid ei3
  have Hyy := Lib.hid eyy
  have Hv := Lib.hid ev
  have Hxx := Lib.hid exx
  have Hu := Lib.hid eu
  clear hb ei eii ei3 eyy ev exx eu
  unfold ptV ptL
  have st0 := St.start Nob w
  go_enter Tryz.func25, Tryz.ntmps25
  go_wp2_with (with_reducible refine wl_stop (o := ⟨some 3, _, _, _, _, _⟩) ?_)
  refine wl_boxS st0 rfl rfl rfl (cw 4 (elN m x) ++ (cw 4 (elN m y) ++ cw 4 (elN m z))) rfl ?_
  intro g3 w1 st1
  clear st0
  go_wp2_with (with_reducible refine wl_stop (o := ⟨some 9, _, _, _, _, _⟩) ?_)
  refine wl_make rfl rfl Tryz.underlying22 info_u8 rfl rfl rfl 1 33 (by simp) (by simp) (by omega) (by omega) (by unfold maxLen; omega) ?_
  intro w2 hg2 hf2 hz2
  clear hz2
  have st2 := st1.new hf2 hg2 (Nat.le_refl _)
  have hb2 := st1.fr.size
  skip
  clear st1 hg2 hf2
  generalize w1.heap.size = gb at *
  have HBB := Lib.hid hb2
  clear hb2
  rw [zeros_bs] at st2
  go_wp2_with (with_reducible refine wl_stop (o := ⟨some 10, _, _, _, _, _⟩) ?_)
  refine wl_loadSt st2 0 rfl rfl rfl Tryz.underlying60 rfl rfl (by first | (rw [cw_len]; kernel_rfl) | (simp only [List.length_append, cw_len]; kernel_rfl)) ?_
  go_wp2_with fail
  refine (none_any m HOK.out x y z false HB.out _).mono ?_
  rintro e' w3 ⟨rfl, hf3⟩
  have st3 := st2.keep hf3
  clear st2 hf3
  go_wp2_with fail
  refine wp_region_noPanic ?_
  refine wp_region_plan (fun wx => St Nob w wx [(g3, cw 4 (elN m x) ++ (cw 4 (elN m y) ++ cw 4 (elN m z)), 60), (gb, bs (List.replicate 33 0), 5)]) 8 (.w 0 (.w 1 (.w 2 (.t 3 (.w 4 (.t 5 (.b 6 7 (.r 7 (.m 8 .nil)) (.r 6 (.m 8 .nil))))))))) (by kernel_rfl) (by kernel_rfl) st3.drew (fun _ _ _ _ _ h => h) ?_
  have hd3 := st3.drew
  clear st3
  refine plan_w (v := ?_) rfl rfl (fun wx => ?_) ?_
  rotate_left 1
  · (go_simp; with_reducible rfl)
  try simp only [Go.Mv.clL]
  refine plan_w (v := ?_) rfl rfl (fun wx => ?_) ?_
  rotate_left 1
  · (go_simp; with_reducible rfl)
  try simp only [Go.Mv.clL]
  refine plan_w (v := ?_) rfl rfl (fun wx => ?_) ?_
  rotate_left 1
  · (go_simp; with_reducible rfl)
  try simp only [Go.Mv.clL]
  refine plan_t (v := ?_) rfl rfl (fun wx hS => ?_) ?_
  rotate_left 1
  · (have hc := (HCV.out.keep (St.fr hS) id).cell (i := 0) rfl; clear hS; go_simp; with_reducible rfl)
  try simp only [Go.Mv.clL]
  refine plan_w (v := ?_) rfl rfl (fun wx => ?_) ?_
  rotate_left 1
  · (go_simp; with_reducible rfl)
  try simp only [Go.Mv.clL]
  refine plan_arr rfl rfl rfl rfl (cw 4 (elN m z)) (fun wx hS => St.rangeL hS 0 rfl 8 _ (pt_z _ _ _)) Tryz.underlying58 rfl (by first | (rw [cw_len]; kernel_rfl) | (simp only [List.length_append, cw_len]; kernel_rfl)) ?_
  try simp only [Go.Mv.clL]
  refine plan_key1 (C := fun g6 wz => St Nob w wz [(g3, cw 4 (elN m x) ++ (cw 4 (elN m y) ++ cw 4 (elN m z)), 60), (gb, bs (List.replicate 33 0), 5), (g6, cw 4 (elN m i), 58)]) (F := ?_) (fun key => ?_) ?_
  rotate_left 1
  · skip
    refine plan_b0 rfl rfl rfl rfl ?_ ?_
    · skip
      go_simp
      refine (MInv_v m gp _ HOK.out (HPM.out.keep hd3.fr id) z i Hi.out).mono ?_
      rintro e' w4 ⟨rfl, hf4⟩
      have st4 := hd3.keep hf4
      clear hf4
      refine ⟨st4, ?_⟩
      try simp only [Go.Mv.clL]
      refine plan_r rfl rfl ?_
      refine wp_allocS st4 rfl (z := .agg #[.int .u64 0, .int .u64 0, .int .u64 0, .int .u64 0]) (by kernel_rfl) (cw 4 0) (by rw [cw_zero]; rfl) ?_
      intro g6 w5 st5
      refine ⟨St.less st5 (by simp), ?_⟩
      try simp only [Go.Mv.clL]
      refine plan_m rfl rfl ?_
      refine wp_storeS st5 2 rfl rfl rfl rfl (by first | (simp only [cw_len]; done) | (simp only [List.length_append, cw_len]; done)) (by first | (rw [cw_len]; kernel_rfl) | (simp only [List.length_append, cw_len]; kernel_rfl)) (cw_one _ _) ?_
      intro w6 st6
      try simp only [Act.put]
      refine plan_end ?_
      exact key g6 _ st6
    · skip
      refine wp_allocS hd3 rfl (z := .agg #[.int .u64 0, .int .u64 0, .int .u64 0, .int .u64 0]) (by kernel_rfl) (cw 4 0) (by rw [cw_zero]; rfl) ?_
      intro g6 w7 st7
      refine ⟨St.less st7 (by simp), ?_⟩
      try simp only [Go.Mv.clL]
      refine plan_r rfl rfl ?_
      go_simp
      refine (MInv_v m gp _ HOK.out (HPM.out.keep st7.fr id) z i Hi.out).mono ?_
      rintro e' w8 ⟨rfl, hf8⟩
      have st8 := st7.keep hf8
      clear hf8
      refine ⟨St.less st8 (by simp), ?_⟩
      try simp only [Go.Mv.clL]
      refine plan_m rfl rfl ?_
      refine wp_storeS st8 2 rfl rfl rfl rfl (by first | (simp only [cw_len]; done) | (simp only [List.length_append, cw_len]; done)) (by first | (rw [cw_len]; kernel_rfl) | (simp only [List.length_append, cw_len]; kernel_rfl)) (cw_one _ _) ?_
      intro w9 st9
      try simp only [Act.put]
      refine plan_end ?_
      exact key g6 _ st9
  intro g6 w10 st10
  have st10 : St Nob w w10 [(g3, cw 4 (elN m x) ++ (cw 4 (elN m y) ++ cw 4 (elN m z)), 60), (gb, bs (List.replicate 33 0), 5), (g6, cw 4 (elN m i), 58)] := st10
  clear hd3
  refine NoPanic.normal ?_
  go_wp2_with fail
  refine wp_region_noPanic ?_
  refine wp_region_plan (fun wx => St Nob w wx [(g3, cw 4 (elN m x) ++ (cw 4 (elN m y) ++ cw 4 (elN m z)), 60), (gb, bs (List.replicate 33 0), 5), (g6, cw 4 (elN m i), 58)]) 7 (.w 0 (.w 1 (.w 2 (.t 3 (.t 4 (.b 5 6 (.r 6 (.m 7 .nil)) (.r 5 (.m 7 .nil)))))))) (by kernel_rfl) (by kernel_rfl) st10.drew (fun _ _ _ _ _ h => h) ?_
  have hd10 := st10.drew
  clear st10
  refine plan_w (v := ?_) rfl rfl (fun wx => ?_) ?_
  rotate_left 1
  · (go_simp; with_reducible rfl)
  try simp only [Go.Mv.clL]
  refine plan_w (v := ?_) rfl rfl (fun wx => ?_) ?_
  rotate_left 1
  · (go_simp; with_reducible rfl)
  try simp only [Go.Mv.clL]
  refine plan_w (v := ?_) rfl rfl (fun wx => ?_) ?_
  rotate_left 1
  · (go_simp; with_reducible rfl)
  try simp only [Go.Mv.clL]
  refine plan_t (v := ?_) rfl rfl (fun wx hS => ?_) ?_
  rotate_left 1
  · (have hc := (HCV.out.keep (St.fr hS) id).cell (i := 0) rfl; clear hS; go_simp; with_reducible rfl)
  try simp only [Go.Mv.clL]
  refine plan_arr rfl rfl rfl rfl (cw 4 (elN m i)) (fun wx hS => St.rangeL hS 2 rfl 0 _ (by rw [List.drop_zero, List.take_of_length_le (Nat.le_refl _)])) Tryz.underlying58 rfl (by first | (rw [cw_len]; kernel_rfl) | (simp only [List.length_append, cw_len]; kernel_rfl)) ?_
  try simp only [Go.Mv.clL]
  refine plan_key1 (C := fun g7 wz => St Nob w wz [(g3, cw 4 (elN m x) ++ (cw 4 (elN m y) ++ cw 4 (elN m z)), 60), (gb, bs (List.replicate 33 0), 5), (g6, cw 4 (elN m i), 58), (g7, cw 4 (elN m ii), 58)]) (F := ?_) (fun key => ?_) ?_
  rotate_left 1
  · skip
    refine plan_b0 rfl rfl rfl rfl ?_ ?_
    · skip
      go_simp
      refine (MSquare_v m gp _ HOK.out (HPM.out.keep hd10.fr id) i ii Hii.out).mono ?_
      rintro e' w11 ⟨rfl, hf11⟩
      have st11 := hd10.keep hf11
      clear hf11
      refine ⟨st11, ?_⟩
      try simp only [Go.Mv.clL]
      refine plan_r rfl rfl ?_
      refine wp_allocS st11 rfl (z := .agg #[.int .u64 0, .int .u64 0, .int .u64 0, .int .u64 0]) (by kernel_rfl) (cw 4 0) (by rw [cw_zero]; rfl) ?_
      intro g7 w12 st12
      refine ⟨St.less st12 (by simp), ?_⟩
      try simp only [Go.Mv.clL]
      refine plan_m rfl rfl ?_
      refine wp_storeS st12 3 rfl rfl rfl rfl (by first | (simp only [cw_len]; done) | (simp only [List.length_append, cw_len]; done)) (by first | (rw [cw_len]; kernel_rfl) | (simp only [List.length_append, cw_len]; kernel_rfl)) (cw_one _ _) ?_
      intro w13 st13
      try simp only [Act.put]
      refine plan_end ?_
      exact key g7 _ st13
    · skip
      refine wp_allocS hd10 rfl (z := .agg #[.int .u64 0, .int .u64 0, .int .u64 0, .int .u64 0]) (by kernel_rfl) (cw 4 0) (by rw [cw_zero]; rfl) ?_
      intro g7 w14 st14
      refine ⟨St.less st14 (by simp), ?_⟩
      try simp only [Go.Mv.clL]
      refine plan_r rfl rfl ?_
      go_simp
      refine (MSquare_v m gp _ HOK.out (HPM.out.keep st14.fr id) i ii Hii.out).mono ?_
      rintro e' w15 ⟨rfl, hf15⟩
      have st15 := st14.keep hf15
      clear hf15
      refine ⟨St.less st15 (by simp), ?_⟩
      try simp only [Go.Mv.clL]
      refine plan_m rfl rfl ?_
      refine wp_storeS st15 3 rfl rfl rfl rfl (by first | (simp only [cw_len]; done) | (simp only [List.length_append, cw_len]; done)) (by first | (rw [cw_len]; kernel_rfl) | (simp only [List.length_append, cw_len]; kernel_rfl)) (cw_one _ _) ?_
      intro w16 st16
      try simp only [Act.put]
      refine plan_end ?_
      exact key g7 _ st16
  intro g7 w17 st17
  have st17 : St Nob w w17 [(g3, cw 4 (elN m x) ++ (cw 4 (elN m y) ++ cw 4 (elN m z)), 60), (gb, bs (List.replicate 33 0), 5), (g6, cw 4 (elN m i), 58), (g7, cw 4 (elN m ii), 58)] := st17
  clear hd10
  refine NoPanic.normal ?_
  go_wp2_with fail
  refine wp_region_noPanic ?_
  refine wp_region_plan (fun wx => St Nob w wx [(g3, cw 4 (elN m x) ++ (cw 4 (elN m y) ++ cw 4 (elN m z)), 60), (gb, bs (List.replicate 33 0), 5), (g6, cw 4 (elN m i), 58), (g7, cw 4 (elN m ii), 58)]) 20 (.w 0 (.w 1 (.w 2 (.t 3 (.w 4 (.w 5 (.w 6 (.t 7 (.w 8 (.t 9 (.w 10 (.w 11 (.w 12 (.t 13 (.t 14 (.t 15 (.b 16 19 (.b 17 19 (.b 18 19 (.r 19 (.m 20 .nil)) (.r 18 (.m 20 .nil))) (.r 17 (.r 18 (.m 20 .nil)))) (.r 16 (.r 17 (.r 18 (.m 20 .nil))))))))))))))))))))) (by kernel_rfl) (by kernel_rfl) st17.drew (fun _ _ _ _ _ h => h) ?_
  have hd17 := st17.drew
  clear st17
  refine plan_w (v := ?_) rfl rfl (fun wx => ?_) ?_
  rotate_left 1
  · (go_simp; with_reducible rfl)
  try simp only [Go.Mv.clL]
  refine plan_w (v := ?_) rfl rfl (fun wx => ?_) ?_
  rotate_left 1
  · (go_simp; with_reducible rfl)
  try simp only [Go.Mv.clL]
  refine plan_w (v := ?_) rfl rfl (fun wx => ?_) ?_
  rotate_left 1
  · (go_simp; with_reducible rfl)
  try simp only [Go.Mv.clL]
  refine plan_t (v := ?_) rfl rfl (fun wx hS => ?_) ?_
  rotate_left 1
  · (have hc := (HCV.out.keep (St.fr hS) id).cell (i := 0) rfl; clear hS; go_simp; with_reducible rfl)
  try simp only [Go.Mv.clL]
  refine plan_w (v := ?_) rfl rfl (fun wx => ?_) ?_
  rotate_left 1
  · (go_simp; with_reducible rfl)
  try simp only [Go.Mv.clL]
  refine plan_w (v := ?_) rfl rfl (fun wx => ?_) ?_
  rotate_left 1
  · (go_simp; with_reducible rfl)
  try simp only [Go.Mv.clL]
  refine plan_w (v := ?_) rfl rfl (fun wx => ?_) ?_
  rotate_left 1
  · (go_simp; with_reducible rfl)
  try simp only [Go.Mv.clL]
  refine plan_t (v := ?_) rfl rfl (fun wx hS => ?_) ?_
  rotate_left 1
  · (have hc := (HCV.out.keep (St.fr hS) id).cell (i := 0) rfl; clear hS; go_simp; with_reducible rfl)
  try simp only [Go.Mv.clL]
  refine plan_w (v := ?_) rfl rfl (fun wx => ?_) ?_
  rotate_left 1
  · (go_simp; with_reducible rfl)
  try simp only [Go.Mv.clL]
  refine plan_arr rfl rfl rfl rfl (cw 4 (elN m y)) (fun wx hS => St.rangeL hS 0 rfl 4 _ (pt_y _ _ _)) Tryz.underlying58 rfl (by first | (rw [cw_len]; kernel_rfl) | (simp only [List.length_append, cw_len]; kernel_rfl)) ?_
  try simp only [Go.Mv.clL]
  refine plan_w (v := ?_) rfl rfl (fun wx => ?_) ?_
  rotate_left 1
  · (go_simp; with_reducible rfl)
  try simp only [Go.Mv.clL]
  refine plan_w (v := ?_) rfl rfl (fun wx => ?_) ?_
  rotate_left 1
  · (go_simp; with_reducible rfl)
  try simp only [Go.Mv.clL]
  refine plan_w (v := ?_) rfl rfl (fun wx => ?_) ?_
  rotate_left 1
  · (go_simp; with_reducible rfl)
  try simp only [Go.Mv.clL]
  refine plan_t (v := ?_) rfl rfl (fun wx hS => ?_) ?_
  rotate_left 1
  · (have hc := (HCV.out.keep (St.fr hS) id).cell (i := 0) rfl; clear hS; go_simp; with_reducible rfl)
  try simp only [Go.Mv.clL]
  refine plan_arr rfl rfl rfl rfl (cw 4 (elN m ii)) (fun wx hS => St.rangeL hS 3 rfl 0 _ (by rw [List.drop_zero, List.take_of_length_le (Nat.le_refl _)])) Tryz.underlying58 rfl (by first | (rw [cw_len]; kernel_rfl) | (simp only [List.length_append, cw_len]; kernel_rfl)) ?_
  try simp only [Go.Mv.clL]
  refine plan_arr rfl rfl rfl rfl (cw 4 (elN m i)) (fun wx hS => St.rangeL hS 2 rfl 0 _ (by rw [List.drop_zero, List.take_of_length_le (Nat.le_refl _)])) Tryz.underlying58 rfl (by first | (rw [cw_len]; kernel_rfl) | (simp only [List.length_append, cw_len]; kernel_rfl)) ?_
  try simp only [Go.Mv.clL]
  refine plan_key1 (C := fun g8 wz => St Nob w wz [(g3, cw 4 (elN m x) ++ (cw 4 (elN m y) ++ cw 4 (elN m z)), 60), (gb, bs (List.replicate 33 0), 5), (g6, cw 4 (elN m i), 58), (g7, cw 4 (elN m ii), 58), (g8, cw 4 v, 64)]) (F := ?_) (fun key => ?_) ?_
  rotate_left 1
  · skip
    refine plan_b0 rfl rfl rfl rfl ?_ ?_
    · skip
      go_simp
      refine (MMul_v m gp _ HOK.out (HPM.out.keep hd17.fr id) ii i i3 Hi3.out).mono ?_
      rintro e' w18 ⟨rfl, hf18⟩
      have st18 := hd17.keep hf18
      clear hf18
      refine ⟨st18, ?_⟩
      try simp only [Go.Mv.clL]
      refine plan_b0 rfl rfl rfl rfl ?_ ?_
      · skip
        go_simp
        refine (MMul_v m gp _ HOK.out (HPM.out.keep st18.fr id) y i3 yy Hyy.out).mono ?_
        rintro e' w19 ⟨rfl, hf19⟩
        have st19 := st18.keep hf19
        clear hf19
        refine ⟨st19, ?_⟩
        try simp only [Go.Mv.clL]
        refine plan_b0 rfl rfl rfl rfl ?_ ?_
        · skip
          go_simp
          refine (MFrom_v m gp _ HOK.out (HPM.out.keep st19.fr id) yy v Hv.out).mono ?_
          rintro e' w20 ⟨rfl, hf20⟩
          have st20 := st19.keep hf20
          clear hf20
          refine ⟨st20, ?_⟩
          try simp only [Go.Mv.clL]
          refine plan_r rfl rfl ?_
          refine wp_allocS st20 rfl (z := .agg #[.int .u64 0, .int .u64 0, .int .u64 0, .int .u64 0]) (by kernel_rfl) (cw 4 0) (by rw [cw_zero]; rfl) ?_
          intro g8 w21 st21
          refine ⟨St.less st21 (by simp), ?_⟩
          try simp only [Go.Mv.clL]
          refine plan_m rfl rfl ?_
          refine wp_storeS st21 4 rfl rfl rfl rfl (by first | (simp only [cw_len]; done) | (simp only [List.length_append, cw_len]; done)) (by first | (rw [cw_len]; kernel_rfl) | (simp only [List.length_append, cw_len]; kernel_rfl)) (cw_one _ _) ?_
          intro w22 st22
          try simp only [Act.put]
          refine plan_end ?_
          exact key g8 _ st22
        · skip
          refine wp_allocS st19 rfl (z := .agg #[.int .u64 0, .int .u64 0, .int .u64 0, .int .u64 0]) (by kernel_rfl) (cw 4 0) (by rw [cw_zero]; rfl) ?_
          intro g8 w23 st23
          refine ⟨St.less st23 (by simp), ?_⟩
          try simp only [Go.Mv.clL]
          refine plan_r rfl rfl ?_
          go_simp
          refine (MFrom_v m gp _ HOK.out (HPM.out.keep st23.fr id) yy v Hv.out).mono ?_
          rintro e' w24 ⟨rfl, hf24⟩
          have st24 := st23.keep hf24
          clear hf24
          refine ⟨St.less st24 (by simp), ?_⟩
          try simp only [Go.Mv.clL]
          refine plan_m rfl rfl ?_
          refine wp_storeS st24 4 rfl rfl rfl rfl (by first | (simp only [cw_len]; done) | (simp only [List.length_append, cw_len]; done)) (by first | (rw [cw_len]; kernel_rfl) | (simp only [List.length_append, cw_len]; kernel_rfl)) (cw_one _ _) ?_
          intro w25 st25
          try simp only [Act.put]
          refine plan_end ?_
          exact key g8 _ st25
      · skip
        refine wp_allocS st18 rfl (z := .agg #[.int .u64 0, .int .u64 0, .int .u64 0, .int .u64 0]) (by kernel_rfl) (cw 4 0) (by rw [cw_zero]; rfl) ?_
        intro g8 w26 st26
        refine ⟨St.less st26 (by simp), ?_⟩
        try simp only [Go.Mv.clL]
        refine plan_r rfl rfl ?_
        go_simp
        refine (MMul_v m gp _ HOK.out (HPM.out.keep st26.fr id) y i3 yy Hyy.out).mono ?_
        rintro e' w27 ⟨rfl, hf27⟩
        have st27 := st26.keep hf27
        clear hf27
        refine ⟨St.less st27 (by simp), ?_⟩
        try simp only [Go.Mv.clL]
        refine plan_r rfl rfl ?_
        go_simp
        refine (MFrom_v m gp _ HOK.out (HPM.out.keep st27.fr id) yy v Hv.out).mono ?_
        rintro e' w28 ⟨rfl, hf28⟩
        have st28 := st27.keep hf28
        clear hf28
        refine ⟨St.less st28 (by simp), ?_⟩
        try simp only [Go.Mv.clL]
        refine plan_m rfl rfl ?_
        refine wp_storeS st28 4 rfl rfl rfl rfl (by first | (simp only [cw_len]; done) | (simp only [List.length_append, cw_len]; done)) (by first | (rw [cw_len]; kernel_rfl) | (simp only [List.length_append, cw_len]; kernel_rfl)) (cw_one _ _) ?_
        intro w29 st29
        try simp only [Act.put]
        refine plan_end ?_
        exact key g8 _ st29
    · skip
      refine wp_allocS hd17 rfl (z := .agg #[.int .u64 0, .int .u64 0, .int .u64 0, .int .u64 0]) (by kernel_rfl) (cw 4 0) (by rw [cw_zero]; rfl) ?_
      intro g8 w30 st30
      refine ⟨St.less st30 (by simp), ?_⟩
      try simp only [Go.Mv.clL]
      refine plan_r rfl rfl ?_
      go_simp
      refine (MMul_v m gp _ HOK.out (HPM.out.keep st30.fr id) ii i i3 Hi3.out).mono ?_
      rintro e' w31 ⟨rfl, hf31⟩
      have st31 := st30.keep hf31
      clear hf31
      refine ⟨St.less st31 (by simp), ?_⟩
      try simp only [Go.Mv.clL]
      refine plan_r rfl rfl ?_
      go_simp
      refine (MMul_v m gp _ HOK.out (HPM.out.keep st31.fr id) y i3 yy Hyy.out).mono ?_
      rintro e' w32 ⟨rfl, hf32⟩
      have st32 := st31.keep hf32
      clear hf32
      refine ⟨St.less st32 (by simp), ?_⟩
      try simp only [Go.Mv.clL]
      refine plan_r rfl rfl ?_
      go_simp
      refine (MFrom_v m gp _ HOK.out (HPM.out.keep st32.fr id) yy v Hv.out).mono ?_
      rintro e' w33 ⟨rfl, hf33⟩
      have st33 := st32.keep hf33
      clear hf33
      refine ⟨St.less st33 (by simp), ?_⟩
      try simp only [Go.Mv.clL]
      refine plan_m rfl rfl ?_
      refine wp_storeS st33 4 rfl rfl rfl rfl (by first | (simp only [cw_len]; done) | (simp only [List.length_append, cw_len]; done)) (by first | (rw [cw_len]; kernel_rfl) | (simp only [List.length_append, cw_len]; kernel_rfl)) (cw_one _ _) ?_
      intro w34 st34
      try simp only [Act.put]
      refine plan_end ?_
      exact key g8 _ st34
  intro g8 w35 st35
  have st35 : St Nob w w35 [(g3, cw 4 (elN m x) ++ (cw 4 (elN m y) ++ cw 4 (elN m z)), 60), (gb, bs (List.replicate 33 0), 5), (g6, cw 4 (elN m i), 58), (g7, cw 4 (elN m ii), 58), (g8, cw 4 v, 64)] := st35
  clear hd17
  refine NoPanic.normal ?_
  have c1 := (st35.at 4 rfl).cell (cw_get 4 v 0 (by decide))
  obtain ⟨v3, c3, f3⟩ := (st35.at 1 rfl).ready (i := 0) (by rw [length_bs, List.length_replicate]; decide)
  have ha := low_and v
  have hb2 : v % 2 = 0 ∨ v % 2 = 1 := by omega
  generalize hbv : v % 2 = b at *
  have HBV := Lib.hid hbv
  clear hbv
  have ho := or_two b hb2
  have hw8 : IntKind.u8.wrap (b : Int) = (b : Int) := by rcases hb2 with rfl | rfl <;> decide
  have hst2 := st35.set 1 rfl 0 (.int .u8 ((2 + b : Nat) : Int))
  rw [zeros_set (2 + b) (by omega)] at hst2
  have hw16 : IntKind.u8.wrap ((2 + b : Nat) : Int) = ((2 + b : Nat) : Int) := by rcases hb2 with rfl | rfl <;> decide
  have HB2 := Lib.hid hb2
  clear hb2
  go_wp2_with fail
  have st36 : St Nob w _ [(g3, cw 4 (elN m x) ++ (cw 4 (elN m y) ++ cw 4 (elN m z)), 60), (gb, bb1 (2 + b), 5), (g6, cw 4 (elN m i), 58), (g7, cw 4 (elN m ii), 58), (g8, cw 4 v, 64)] := hst2
  clear st35 hst2 c1 c3 f3 ha ho hw8 hw16
  go_wp2_with fail
  refine wp_region_noPanic ?_
  refine wp_region_plan (fun wx => St Nob w wx [(g3, cw 4 (elN m x) ++ (cw 4 (elN m y) ++ cw 4 (elN m z)), 60), (gb, bb1 (2 + b), 5), (g6, cw 4 (elN m i), 58), (g7, cw 4 (elN m ii), 58), (g8, cw 4 v, 64)]) 15 (.w 0 (.w 1 (.w 2 (.w 3 (.t 4 (.w 5 (.w 6 (.w 7 (.t 8 (.w 9 (.t 10 (.t 11 (.r 12 (.r 13 (.r 14 (.m 15 (.w 16 .nil))))))))))))))))) (by kernel_rfl) (by kernel_rfl) st36.drew (fun _ _ _ _ _ h => h) ?_
  have hd36 := st36.drew
  clear st36
  refine plan_w (v := ?_) rfl rfl (fun wx => ?_) ?_
  rotate_left 1
  · (go_simp; with_reducible rfl)
  try simp only [Go.Mv.clL]
  refine plan_w (v := ?_) rfl rfl (fun wx => ?_) ?_
  rotate_left 1
  · (go_simp; with_reducible rfl)
  try simp only [Go.Mv.clL]
  refine plan_w (v := ?_) rfl rfl (fun wx => ?_) ?_
  rotate_left 1
  · (go_simp; with_reducible rfl)
  try simp only [Go.Mv.clL]
  refine plan_w (v := ?_) rfl rfl (fun wx => ?_) ?_
  rotate_left 1
  · (go_simp; with_reducible rfl)
  try simp only [Go.Mv.clL]
  refine plan_t (v := ?_) rfl rfl (fun wx hS => ?_) ?_
  rotate_left 1
  · (have hc := (HCV.out.keep (St.fr hS) id).cell (i := 0) rfl; clear hS; go_simp; with_reducible rfl)
  try simp only [Go.Mv.clL]
  refine plan_w (v := ?_) rfl rfl (fun wx => ?_) ?_
  rotate_left 1
  · (go_simp; with_reducible rfl)
  try simp only [Go.Mv.clL]
  refine plan_w (v := ?_) rfl rfl (fun wx => ?_) ?_
  rotate_left 1
  · (go_simp; with_reducible rfl)
  try simp only [Go.Mv.clL]
  refine plan_w (v := ?_) rfl rfl (fun wx => ?_) ?_
  rotate_left 1
  · (go_simp; with_reducible rfl)
  try simp only [Go.Mv.clL]
  refine plan_t (v := ?_) rfl rfl (fun wx hS => ?_) ?_
  rotate_left 1
  · (have hc := (HCV.out.keep (St.fr hS) id).cell (i := 0) rfl; clear hS; go_simp; with_reducible rfl)
  try simp only [Go.Mv.clL]
  refine plan_w (v := ?_) rfl rfl (fun wx => ?_) ?_
  rotate_left 1
  · (go_simp; with_reducible rfl)
  try simp only [Go.Mv.clL]
  refine plan_arr rfl rfl rfl rfl (cw 4 (elN m x)) (fun wx hS => St.rangeL hS 0 rfl 0 _ (pt_x _ _ _)) Tryz.underlying58 rfl (by first | (rw [cw_len]; kernel_rfl) | (simp only [List.length_append, cw_len]; kernel_rfl)) ?_
  try simp only [Go.Mv.clL]
  refine plan_arr rfl rfl rfl rfl (cw 4 (elN m ii)) (fun wx hS => St.rangeL hS 3 rfl 0 _ (by rw [List.drop_zero, List.take_of_length_le (Nat.le_refl _)])) Tryz.underlying58 rfl (by first | (rw [cw_len]; kernel_rfl) | (simp only [List.length_append, cw_len]; kernel_rfl)) ?_
  try simp only [Go.Mv.clL]
  refine plan_r rfl rfl ?_
  go_simp
  refine (MMul_v m gp _ HOK.out (HPM.out.keep hd36.fr id) x ii xx Hxx.out).mono ?_
  rintro e' w37 ⟨rfl, hf37⟩
  have st37 := hd36.keep hf37
  clear hf37
  clear hd36
  refine ⟨st37, ?_⟩
  try simp only [Go.Mv.clL]
  refine plan_r rfl rfl ?_
  go_simp
  refine (MFrom_v m gp _ HOK.out (HPM.out.keep st37.fr id) xx u Hu.out).mono ?_
  rintro e' w38 ⟨rfl, hf38⟩
  have st38 := st37.keep hf38
  clear hf38
  clear st37
  refine ⟨st38, ?_⟩
  try simp only [Go.Mv.clL]
  refine plan_r rfl rfl ?_
  go_simp
  refine (MBytes_any u _).mono ?_
  rintro e' w39 ⟨vb, rfl, hownb, hf39⟩
  have st39 := st38.keep hf39
  obtain ⟨va, vc, rfl, -, hrd, -⟩ := hownb.form
  clear hownb
  clear hf39
  clear st38
  refine ⟨st39, ?_⟩
  try simp only [Go.Mv.clL]
  refine plan_m rfl rfl ?_
  refine wp_append_in st39 1 rfl rfl Tryz.underlying22 info_u8 (n := 1) (m := 32) (cap := 33) rfl rfl hrd (bs_one _) (by decide) (by have := bb1_len (2 + b); omega) (bb2 (2 + b) u) (bytes_splice _ _) ?_
  intro w40 st40
  have st40 : St Nob w w40 [(g3, cw 4 (elN m x) ++ (cw 4 (elN m y) ++ cw 4 (elN m z)), 60), (gb, bb2 (2 + b) u, 5), (g6, cw 4 (elN m i), 58), (g7, cw 4 (elN m ii), 58), (g8, cw 4 v, 64)] := st40
  clear st39 hrd
  try simp only [Go.Mv.clL]
  refine plan_w (v := ?_) rfl rfl (fun wx => ?_) ?_
  rotate_left 1
  · (go_simp; with_reducible rfl)
  try simp only [Go.Mv.clL]
  refine plan_end ?_
  refine NoPanic.normal ?_
  have hown : Own w40 w.heap.size 5 1 (.slice (some ⟨gb, 0, none⟩) 33 33) 33 (bb2 (2 + b) u) := by
    have h := st40.at 1 rfl
    have h2 := Own.made h w.heap.size HBB.out 1 33 33 (Nat.le_refl _) (by unfold maxLen; omega) (by have := bb2_len (2 + b) u; omega)
    rwa [List.take_of_length_le (by have := bb2_len (2 + b) u; omega)] at h2
  have hfr := st40.fr
  clear st40
  go_wp2_with fail
  go_ret
  exact ⟨_, rfl, by rw [HBV.out]; unfold bb2 at hown; exact hown, hfr⟩
end Go.Proofs.YtdbgddngapminaaGreat

/- A plan for a region whose operations have guards. -/
namespace Go.Mv
open Go.RowKit
section
variable {P : Program} {ops : Array Oper} {md : Region.Mode} {Q : Exit → Act → World → Prop} {S : World → Prop} {m : Nat}
def wpPlanG (P : Program) (ops : Array Oper) (Q : Exit → Act → World → Prop) (S : World → Prop) : Pl → Act → World → Prop
  | .nil, a, w => Q .normal a w
  | .w i s, a, w => ∃ o v, ops[i]? = some o ∧ YieldsIf P ops (fun _ => True) o v a ∧ wpPlanG P ops Q S s (a.put o.dst v) w
  | .t i s, a, w => ∃ o v, ops[i]? = some o ∧ YieldsIf P ops S o v a ∧ wpPlanG P ops Q S s (a.put o.dst v) w
  | .r i s, a, w => wpOp P ops Q i (fun a' w' => S w' ∧ wpPlanG P ops Q S s a' w') a w
  | .m i s, a, w => wpOp P ops Q i (fun a' w' => wpPlanG P ops Q S s a' w') a w
  | .b _ _ _ _, _, _ => False
  | .c _ _ _ _ _ _, _, _ => False
theorem wpP_of_planG (hsel : Region.noSelect ops = true) (hm : m < ops.size) (hQ : ∀ c (d : Option Tmp) v a w, Q (.panic c) (Act.put a d v) w → Q (.panic c) a w) :
    ∀ (s : Pl) (listed : Array Bool) (a : Act) (w : World), Cl md ops listed → planOk md ops m s listed = true → (listed.getD m true = false → S w) → wpPlanG P ops Q S s a w → wpP P md ops Q S m s.len listed a w
  | .nil, listed, a, w, _, hB, _, h => ⟨by simpa [planOk] using hB, h⟩
  | .w i r, listed, a, w, inv, hB, hS, h => by
    obtain ⟨o, v, ho, hy, hK⟩ := h
    simp only [planOk, Bool.and_eq_true, decide_eq_true_eq] at hB
    obtain ⟨⟨⟨him, hr⟩, hf⟩, hB'⟩ := hB
    have hr' : i ∈ Region.ready md ops listed := by simpa using hr
    exact wpP_takeW ho (Region.noSelect_spec hsel) (fun c a w => hQ c o.dst v a w) him hm r.len listed a w inv (Region.free_spec ho hf) hr' hy hS
      (wpP_of_planG hsel hm hQ r _ _ w (inv.set hr') hB' (fun h => hS (by rwa [getD_set_ne true him] at h)) hK)
  | .t i r, listed, a, w, inv, hB, hS, h => by
    obtain ⟨o, v, ho, hy, hK⟩ := h
    simp only [planOk, Bool.and_eq_true, decide_eq_true_eq] at hB
    obtain ⟨⟨⟨⟨⟨him, hml⟩, hr⟩, hf⟩, han⟩, hB'⟩ := hB
    have hr' : i ∈ Region.ready md ops listed := by simpa using hr
    exact wpP_takeS ho (Region.noSelect_spec hsel) (fun c a w => hQ c o.dst v a w) him han r.len listed a w inv hml (Region.free_spec ho hf) hr' hy (hS hml)
      (wpP_of_planG hsel hm hQ r _ _ w (inv.set hr') hB' (fun _ => hS hml) hK)
  | .r i r, listed, a, w, inv, hB, hS, h => by
    simp only [planOk, Bool.and_eq_true, decide_eq_true_eq] at hB
    obtain ⟨⟨⟨him, hml⟩, hr⟩, hB'⟩ := hB
    have hr' : i ∈ Region.ready md ops listed := by rw [hr]; simp
    refine ⟨fun h0 => (by rw [hr] at h0; cases h0), fun j hj => ?_⟩
    rw [hr] at hj
    have hj' : j = i := by simpa using hj
    subst hj'
    exact wpOp_mono (fun a' w' h' => ⟨fun _ _ => h'.1, wpP_of_planG hsel hm hQ r _ a' w' (inv.set hr') hB' (fun _ => h'.1) h'.2⟩) h
  | .m i r, listed, a, w, inv, hB, hS, h => by
    simp only [planOk, Bool.and_eq_true, Bool.or_eq_true, decide_eq_true_eq] at hB
    obtain ⟨⟨him, hr⟩, hB'⟩ := hB
    have hr' : i ∈ Region.ready md ops listed := by rw [hr]; simp
    refine ⟨fun h0 => (by rw [hr] at h0; cases h0), fun j hj => ?_⟩
    rw [hr] at hj
    have hj' : j = i := by simpa using hj
    subst hj'
    have hml : (listed.setIfInBounds j true).getD m true = true := by
      rcases him with e | e
      · subst e; exact getD_set_self (by rw [inv.size]; exact hm)
      · by_cases e2 : j = m
        · subst e2; exact getD_set_self (by rw [inv.size]; exact hm)
        · rw [getD_set_ne true e2]; exact e
    refine wpOp_mono (fun a' w' h' => ⟨fun h1 h2 => ?_, wpP_of_planG hsel hm hQ r _ a' w' (inv.set hr') hB' (fun h1 => by rw [hml] at h1; cases h1) h'⟩) h
    rcases him with e | e
    · exact absurd e h2
    · rw [e] at h1; cases h1
  | .b _ _ _ _, _, _, _, _, _, _, h => h.elim
  | .c _ _ _ _ _ _, _, _, _, _, _, _, h => h.elim
theorem wp_region_planG {id : Nat} {a : Act} {w : World} {l : List Oper} (S : World → Prop) (m : Nat) (s : Pl) (hm : P.follows .mixedOrders = true) (hB : planAll l.toArray m s = true)
    (hS : S w.drew) (hQ : ∀ c (d : Option Tmp) v a w, Q (.panic c) (Act.put a d v) w → Q (.panic c) a w)
    (h : wpPlanG P l.toArray Q S s a w.drew) : (Code.region id l.toArray true).wp P Q a w := by
  simp only [planAll, Bool.and_eq_true, decide_eq_true_eq] at hB
  obtain ⟨⟨⟨hsel, hms⟩, hlen⟩, hseq⟩ := hB
  have inv0 : Cl .any l.toArray (Array.replicate l.toArray.size false) :=
    ⟨by simp, fun j oj _ hl => (by rw [getD_replicate_false] at hl; cases hl)⟩
  have H := wpP_of_planG (md := .any) hsel hms hQ s _ a w.drew inv0 hseq (fun _ => hS) h
  rw [hlen] at H
  exact wp_region_any hm (wpAny_of_P _ _ _ _ H)
variable {l : List Oper} {i : Nat} {s : Pl} {a : Act} {w : World} {o : Oper}
theorem planG_end (h : Q .normal a w) : wpPlanG P ops Q S .nil a w := h
theorem planG_w (ho : l[i]? = some o) (hg : Region.wanted o (yielded l.toArray a.tmps) = true) {v : Value} (hv : ∀ wx, (execOp a.eval o).run P wx = .ok (.value v) wx) (h : wpPlanG P l.toArray Q S s (a.put o.dst v) w) : wpPlanG P l.toArray Q S (.w i s) a w :=
  ⟨o, v, by simpa using ho, .inl ⟨hg, fun wx _ => hv wx⟩, h⟩
theorem planG_skip (ho : l[i]? = some o) (hg : Region.wanted o (yielded l.toArray a.tmps) = false) (h : wpPlanG P l.toArray Q S s (a.put o.dst undef) w) : wpPlanG P l.toArray Q S (.w i s) a w :=
  ⟨o, undef, by simpa using ho, .inr ⟨hg, rfl⟩, h⟩
theorem planG_skipt (ho : l[i]? = some o) (hg : Region.wanted o (yielded l.toArray a.tmps) = false) (h : wpPlanG P l.toArray Q S s (a.put o.dst undef) w) : wpPlanG P l.toArray Q S (.t i s) a w :=
  ⟨o, undef, by simpa using ho, .inr ⟨hg, rfl⟩, h⟩
theorem planG_t (ho : l[i]? = some o) (hg : Region.wanted o (yielded l.toArray a.tmps) = true) {v : Value} (hv : ∀ wx, S wx → (execOp a.eval o).run P wx = .ok (.value v) wx) (h : wpPlanG P l.toArray Q S s (a.put o.dst v) w) : wpPlanG P l.toArray Q S (.t i s) a w :=
  ⟨o, v, by simpa using ho, .inl ⟨hg, hv⟩, h⟩
theorem planG_arr (ho : l[i]? = some o) (hg : Region.wanted o (yielded l.toArray a.tmps) = true) {ty : TypeId} {x : Operand} (hop : o.op = .load ty x) {g p : Nat} (hx : a.eval x = .pointer (some ⟨g, p, none⟩)) (cs : List Value) (hS : ∀ wx, S wx → wx.rangeAt g p cs)
    {d : TypeDesc} (hu : P.underlying ty = some d) (hd : d.isRow = true) (hi : (P.info? ty).map (·.size) = some cs.length) (h : wpPlanG P l.toArray Q S s (a.put o.dst (.agg cs.toArray)) w) : wpPlanG P l.toArray Q S (.t i s) a w :=
  ⟨o, _, by simpa using ho, yieldsIf_load_mid hg ty x hop g p hx cs d hS hu hd hi, h⟩
theorem planG_r (ho : l[i]? = some o) (hg : Region.wanted o (yielded l.toArray a.tmps) = true) (h : o.wp P a w (fun a' w' => S w' ∧ wpPlanG P l.toArray Q S s a' w') Q) : wpPlanG P l.toArray Q S (.r i s) a w := by
  have ho' : l.toArray[i]? = some o := by simpa using ho
  show wpOp _ _ _ _ _ _ _
  unfold wpOp
  simp only [ho']
  rw [if_pos hg]
  exact .inl h
theorem planG_rskip (ho : l[i]? = some o) (hg : Region.wanted o (yielded l.toArray a.tmps) = false) (h : S w ∧ wpPlanG P l.toArray Q S s (a.put o.dst undef) w) : wpPlanG P l.toArray Q S (.r i s) a w := by
  have ho' : l.toArray[i]? = some o := by simpa using ho
  show wpOp _ _ _ _ _ _ _
  unfold wpOp
  simp only [ho']
  rw [if_neg (by rw [hg]; decide)]
  exact h
theorem planG_m (ho : l[i]? = some o) (hg : Region.wanted o (yielded l.toArray a.tmps) = true) (h : o.wp P a w (fun a' w' => wpPlanG P l.toArray Q S s a' w') Q) : wpPlanG P l.toArray Q S (.m i s) a w := by
  have ho' : l.toArray[i]? = some o := by simpa using ho
  show wpOp _ _ _ _ _ _ _
  unfold wpOp
  simp only [ho']
  rw [if_pos hg]
  exact .inl h
end
end Go.Mv
