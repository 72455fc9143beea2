/- Primes, plainly: trial division, Fermat, Pocklington; The two primes are primes: certificates; Polynomials in three coordinates, and in the roots over them, reckoned with: how the sum of three points is shown not to hang on brackets; The complete sum of points, over polynomials; Three points' sum: first and last coordinate; Three points' sum: second and last coordinate; The complete sum of points does not hang on brackets; The field of the curve, and the curve's points: inverses; no root of -7; the complete sum is never empty; The curve's points: a group; Chord and tangent; the program's sum and double (X / Z^2, Y / Z^3); the reference's (X / Z, Y / Z); multiples; Plain numbers: a number as words of 64 bits; sums, differences and products word by word; Plain: the two primes; The reference's sums (X / Z, Y / Z); numbers as members of the field; sums of multiples, digit by digit; Plain lemmas on lists: filling a list from the left; Plain numbers: bytes, the highest first; bits; Words for memory: which blocks may have turned (Fr), a block known whole (Has), a slice that reads as a list of cells (Rd). Nothing here knows of a program; Laws of the walk for make, copy, append and conversions, over the words of Mem. Nothing here knows of a program. -/
import Derived.KernelRfl
import Derived.WalkKit
import Derived.WalkLawsBesides
import Derived.WalkSpells
import Derived.Lib.Hide
import Derived.Laws.CopyOwn
import Derived.Deep.QuietTactic
import Derived.BigQuiet
import Derived.StillTailTactics
import Derived.Deep.RegionHeld3
import Derived.Deep.RegionWith
import Derived.Deep.DeepFit
namespace Mvq
/-- a prime -/
def IsP (p : Nat) : Prop := 1 < p ∧ ∀ d, d ∣ p → d = 1 ∨ d = p
/-- none from lo on, 2^k of them, divides n -/
def chk (n : Nat) : Nat → Nat → Bool
  | 0, lo => n % lo != 0
  | k + 1, lo => chk n k lo && chk n k (lo + 2 ^ k)
theorem chk_sound (n : Nat) : ∀ (k lo : Nat), chk n k lo = true → ∀ d, lo ≤ d → d < lo + 2 ^ k → n % d ≠ 0
  | 0, lo, h, d, h1, h2 => by
    have : d = lo := by simp at h2; omega
    subst this; simpa [chk] using h
  | k + 1, lo, h, d, h1, h2 => by
    simp only [chk, Bool.and_eq_true] at h
    rw [Nat.pow_succ] at h2
    by_cases hd : d < lo + 2 ^ k
    · exact chk_sound n k lo h.1 d h1 hd
    · exact chk_sound n k _ h.2 d (by omega) (by omega)
theorem isP_trial (n k : Nat) (h1 : 1 < n) (hc : chk n k 2 = true) (hn : n < (2 + 2 ^ k) * (2 + 2 ^ k)) : IsP n := by
  refine ⟨h1, fun d hd => ?_⟩
  obtain ⟨e, he⟩ := hd
  have key : ∀ x, 2 ≤ x → x < 2 + 2 ^ k → ¬ x ∣ n := fun x a b hx => chk_sound n k 2 hc x a b (Nat.mod_eq_zero_of_dvd hx)
  by_cases d1 : d = 1
  · exact Or.inl d1
  by_cases e1 : e = 1
  · right; subst e1; omega
  have d0 : d ≠ 0 := by intro h; subst h; omega
  have e0 : e ≠ 0 := by intro h; subst h; omega
  exfalso
  by_cases hde : d < 2 + 2 ^ k
  · exact key d (by omega) hde ⟨e, he⟩
  · by_cases hee : e < 2 + 2 ^ k
    · exact key e (by omega) hee ⟨d, by rw [Nat.mul_comm]; exact he⟩
    · have : (2 + 2 ^ k) * (2 + 2 ^ k) ≤ d * e := Nat.mul_le_mul (by omega) (by omega)
      omega
theorem IsP.cop {p a : Nat} (hp : IsP p) (ha : ¬ p ∣ a) : Nat.Coprime p a := by
  rcases hp.2 (Nat.gcd p a) (Nat.gcd_dvd_left p a) with h | h
  · exact h
  · exact absurd (h ▸ Nat.gcd_dvd_right p a) ha
theorem IsP.euclid {p a b : Nat} (hp : IsP p) (h : p ∣ a * b) : p ∣ a ∨ p ∣ b := by
  by_cases ha : p ∣ a
  · exact Or.inl ha
  · exact Or.inr ((hp.cop ha).dvd_of_dvd_mul_left h)
/-- n choose k -/
def ch : Nat → Nat → Nat
  | _, 0 => 1
  | 0, _ + 1 => 0
  | n + 1, k + 1 => ch n k + ch n (k + 1)
theorem ch_zero (n : Nat) : ch n 0 = 1 := by cases n <;> rfl
theorem ch_big : ∀ (n k : Nat), n < k → ch n k = 0
  | 0, 0, h => by omega
  | 0, _ + 1, _ => rfl
  | n + 1, 0, h => by omega
  | n + 1, k + 1, h => by rw [ch, ch_big n k (by omega), ch_big n (k + 1) (by omega)]
theorem ch_self : ∀ n : Nat, ch n n = 1
  | 0 => rfl
  | n + 1 => by rw [ch, ch_self n, ch_big n (n + 1) (by omega)]
theorem ch_absorb : ∀ (n k : Nat), (k + 1) * ch (n + 1) (k + 1) = (n + 1) * ch n k
  | 0, 0 => rfl
  | 0, k + 1 => by rw [ch_big (0 + 1) (k + 1 + 1) (by omega), ch_big 0 (k + 1) (by omega)]; simp
  | n + 1, 0 => by
    have h := ch_absorb n 0
    have e : ch (n + 1 + 1) (0 + 1) = ch (n + 1) 0 + ch (n + 1) (0 + 1) := rfl
    rw [e, ch_zero]
    rw [ch_zero] at h
    omega
  | n + 1, k + 1 => by
    have h1 := ch_absorb n k
    have h2 := ch_absorb n (k + 1)
    have e : ch (n + 1 + 1) (k + 1 + 1) = ch (n + 1) (k + 1) + ch (n + 1) (k + 1 + 1) := rfl
    have e2 : ch (n + 1) (k + 1) = ch n k + ch n (k + 1) := rfl
    rw [e, Nat.mul_add]
    have h3 : (k + 1 + 1) * ch (n + 1) (k + 1) = (n + 1) * ch n k + ch (n + 1) (k + 1) := by rw [← h1, Nat.succ_mul]
    rw [h3, h2, Nat.succ_mul (n + 1)]
    have : (n + 1) * ch (n + 1) (k + 1) = (n + 1) * ch n k + (n + 1) * ch n (k + 1) := by rw [e2, Nat.mul_add]
    omega
def sumTo : Nat → (Nat → Nat) → Nat
  | 0, _ => 0
  | n + 1, f => sumTo n f + f n
theorem sumTo_shift (f : Nat → Nat) : ∀ n, sumTo (n + 1) f = f 0 + sumTo n (fun k => f (k + 1))
  | 0 => by simp [sumTo]
  | n + 1 => by rw [sumTo, sumTo_shift f n]; simp only [sumTo]; omega
theorem sumTo_add (f g : Nat → Nat) : ∀ n, sumTo n (fun k => f k + g k) = sumTo n f + sumTo n g
  | 0 => rfl
  | n + 1 => by simp only [sumTo]; rw [sumTo_add f g n]; omega
theorem sumTo_mul (f : Nat → Nat) (a : Nat) : ∀ n, sumTo n (fun k => f k * a) = sumTo n f * a
  | 0 => by simp [sumTo]
  | n + 1 => by simp only [sumTo]; rw [sumTo_mul f a n, Nat.add_mul]
theorem sumTo_congr (f g : Nat → Nat) : ∀ n, (∀ k, k < n → f k = g k) → sumTo n f = sumTo n g
  | 0, _ => rfl
  | n + 1, h => by simp only [sumTo]; rw [sumTo_congr f g n (fun k hk => h k (by omega)), h n (by omega)]
theorem sumTo_dvd (f : Nat → Nat) (p : Nat) : ∀ n, (∀ k, k < n → p ∣ f k) → p ∣ sumTo n f
  | 0, _ => ⟨0, rfl⟩
  | n + 1, h => Nat.dvd_add (sumTo_dvd f p n (fun k hk => h k (by omega))) (h n (by omega))
theorem binom (a : Nat) : ∀ n, (a + 1) ^ n = sumTo (n + 1) (fun k => ch n k * a ^ k)
  | 0 => by simp [sumTo, ch]
  | n + 1 => by
    rw [Nat.pow_succ, Nat.mul_add, Nat.mul_one, binom a n]
    rw [sumTo_shift (fun k => ch (n + 1) k * a ^ k) (n + 1)]
    have e : sumTo (n + 1) (fun k => ch (n + 1) (k + 1) * a ^ (k + 1)) = sumTo (n + 1) (fun k => ch n k * a ^ k * a) + sumTo (n + 1) (fun k => ch n (k + 1) * a ^ (k + 1)) := by
      rw [← sumTo_add]
      refine sumTo_congr _ _ _ fun k _ => ?_
      rw [show ch (n + 1) (k + 1) = ch n k + ch n (k + 1) from rfl, Nat.add_mul, Nat.pow_succ, Nat.mul_assoc]
    have e2 := sumTo_shift (fun k => ch n k * a ^ k) (n + 1)
    have e3 : sumTo (n + 1 + 1) (fun k => ch n k * a ^ k) = sumTo (n + 1) (fun k => ch n k * a ^ k) := by
      rw [sumTo, ch_big n (n + 1) (by omega), Nat.zero_mul, Nat.add_zero]
    rw [e, sumTo_mul]
    simp only [ch_zero, Nat.pow_zero] at e2 ⊢
    omega
theorem dvd_ch {p k : Nat} (hp : IsP p) (h0 : 0 < k) (hk : k < p) : p ∣ ch p k := by
  obtain ⟨q, rfl⟩ : ∃ q, p = q + 1 := ⟨p - 1, by have := hp.1; omega⟩
  obtain ⟨j, rfl⟩ : ∃ j, k = j + 1 := ⟨k - 1, by omega⟩
  have h := ch_absorb q j
  have hd : (q + 1) ∣ (j + 1) * ch (q + 1) (j + 1) := ⟨_, h⟩
  rcases hp.euclid hd with h1 | h1
  · exact absurd (Nat.le_of_dvd (by omega) h1) (by omega)
  · exact h1
theorem frob {p : Nat} (hp : IsP p) (a : Nat) : (a + 1) ^ p % p = (a ^ p + 1) % p := by
  obtain ⟨q, rfl⟩ : ∃ q, p = q + 1 := ⟨p - 1, by have := hp.1; omega⟩
  rw [binom, sumTo, ch_self, Nat.one_mul, sumTo_shift]
  obtain ⟨c, hc⟩ := sumTo_dvd (fun k => ch (q + 1) (k + 1) * a ^ (k + 1)) (q + 1) q (fun k hk => Nat.dvd_trans (dvd_ch hp (by omega) (by omega)) (Nat.dvd_mul_right _ _))
  rw [hc, ch_zero, Nat.pow_zero, Nat.one_mul]
  rw [show 1 + (q + 1) * c + a ^ (q + 1) = a ^ (q + 1) + 1 + (q + 1) * c by omega, Nat.add_mul_mod_self_left]
theorem fermat1 {p : Nat} (hp : IsP p) : ∀ a, a ^ p % p = a % p
  | 0 => by rw [Nat.zero_pow (by have := hp.1; omega)]
  | a + 1 => by rw [frob hp, Nat.add_mod, fermat1 hp a, ← Nat.add_mod]
theorem cancel {p a x y : Nat} (hp : IsP p) (ha : ¬ p ∣ a) (h : a * x % p = a * y % p) : x % p = y % p := by
  have key : ∀ x y, x ≤ y → a * x % p = a * y % p → x % p = y % p := by
    intro x y hxy h
    have hd : p ∣ a * (y - x) := by
      have := Nat.sub_mod_eq_zero_of_mod_eq h.symm
      rw [← Nat.mul_sub] at this
      exact Nat.dvd_of_mod_eq_zero this
    obtain ⟨c, hc⟩ := (hp.euclid hd).resolve_left ha
    rw [show y = x + p * c by omega, Nat.add_mul_mod_self_left]
  rcases Nat.le_total x y with h1 | h1
  · exact key x y h1 h
  · exact (key y x h1 h.symm).symm
theorem fermat {p a : Nat} (hp : IsP p) (ha : ¬ p ∣ a) : a ^ (p - 1) % p = 1 := by
  have h1 : 1 % p = 1 := Nat.mod_eq_of_lt hp.1
  have h2 : a ^ (p - 1) % p = 1 % p := by
    refine cancel hp ha ?_
    rw [Nat.mul_one, Nat.mul_comm, ← Nat.pow_succ, show (p - 1).succ = p by have := hp.1; omega]
    exact fermat1 hp a
  rw [h2, h1]
/-- a power modulo N -/
def pm (N : Nat) : Nat → Nat → Nat → Nat
  | 0, _, _ => 1 % N
  | k + 1, a, e => if e % 2 = 1 then pm N k (a * a % N) (e / 2) * a % N else pm N k (a * a % N) (e / 2)
theorem pm_ok (N : Nat) : ∀ k a e, e < 2 ^ k → pm N k a e = a ^ e % N
  | 0, a, e, h => by have : e = 0 := by simp at h; omega
                     subst this; rfl
  | k + 1, a, e, h => by
    have h2 : e / 2 < 2 ^ k := by rw [Nat.pow_succ] at h; omega
    have e1 : pm N k (a * a % N) (e / 2) = a ^ (2 * (e / 2)) % N := by
      rw [pm_ok N k _ _ h2, ← Nat.pow_mod, ← Nat.pow_two, ← Nat.pow_mul]
    rw [pm, e1]
    split
    · rename_i ho
      rw [Nat.mod_mul_mod, ← Nat.pow_succ]
      congr 2; omega
    · congr 2; omega
theorem pow_one_mod {N b : Nat} (k : Nat) (h : b % N = 1 % N) : b ^ k % N = 1 % N := by
  rw [Nat.pow_mod, h, ← Nat.pow_mod, Nat.one_pow]
theorem pow_gcd {N b : Nat} (m n : Nat) (hm : b ^ m % N = 1 % N) (hn : b ^ n % N = 1 % N) : b ^ Nat.gcd m n % N = 1 % N := by
  induction m, n using Nat.gcd.induction with
  | H0 n => rw [Nat.gcd_zero_left]; exact hn
  | H1 m n h ih =>
    rw [Nat.gcd_rec]
    refine ih ?_ hm
    have e : b ^ n = b ^ (n % m) * (b ^ m) ^ (n / m) := by
      rw [← Nat.pow_mul, ← Nat.pow_add]; congr 1; have := Nat.mod_add_div n m; omega
    rw [e, Nat.mul_mod, pow_one_mod (n / m) hm, ← Nat.mul_mod, Nat.mul_one] at hn
    exact hn
/-- a prime r of N - 1 divides d - 1, for each prime d of N -/
theorem pock1 {N r a d : Nat} (hr : IsP r) (hd : IsP d) (hdN : d ∣ N) (hN : 1 < N) (hrN : (N - 1) % r = 0)
    (h1 : a ^ (N - 1) % N = 1) (h2 : Nat.gcd (a ^ ((N - 1) / r) % N + (N - 1)) N = 1) : r ∣ d - 1 := by
  refine Classical.byContradiction fun hn => ?_
  have hm1 : ∀ x, x % N = 1 → x % d = 1 % d := fun x hx => by
    obtain ⟨c, hc⟩ := hdN
    have h3 : x % N % d = x % d := Nat.mod_mod_of_dvd x ⟨c, hc⟩
    rw [← h3, hx]
  have hd0 : ¬ d ∣ a := by
    intro h
    have h3 := hm1 _ h1
    have hpw : a ∣ a ^ (N - 1) := by
      obtain ⟨k, hk⟩ : ∃ k, N - 1 = k + 1 := ⟨N - 2, by omega⟩
      rw [hk, Nat.pow_succ]; exact Nat.dvd_mul_left _ _
    have h4 : a ^ (N - 1) % d = 0 := Nat.mod_eq_zero_of_dvd (Nat.dvd_trans h hpw)
    rw [h4, Nat.mod_eq_of_lt hd.1] at h3
    omega
  have e1 : (a ^ ((N - 1) / r)) ^ r % d = 1 % d := by
    rw [← Nat.pow_mul, Nat.div_mul_cancel (Nat.dvd_of_mod_eq_zero hrN)]
    exact hm1 _ h1
  have e2 : (a ^ ((N - 1) / r)) ^ (d - 1) % d = 1 % d := by
    rw [← Nat.pow_mul, Nat.mul_comm, Nat.pow_mul]
    exact pow_one_mod _ (by rw [fermat hd hd0, Nat.mod_eq_of_lt hd.1])
  have e3 := pow_gcd _ _ e1 e2
  rw [show Nat.gcd r (d - 1) = 1 from hr.cop hn, Nat.pow_one] at e3
  have e4 : d ∣ a ^ ((N - 1) / r) % N + (N - 1) := by
    refine Nat.dvd_of_mod_eq_zero ?_
    have e5 : (a ^ ((N - 1) / r) % N) % d = 1 % d := by rw [Nat.mod_mod_of_dvd _ hdN]; exact e3
    rw [Nat.add_mod, e5, ← Nat.add_mod, show 1 + (N - 1) = N by omega]
    exact Nat.mod_eq_zero_of_dvd hdN
  have e6 : d ∣ 1 := by rw [← h2]; exact Nat.dvd_gcd e4 hdN
  have := Nat.le_of_dvd (by omega) e6
  have := hd.1
  omega
theorem exists_prime : ∀ (n : Nat), 1 < n → ∃ d, IsP d ∧ d ∣ n := by
  intro n
  induction n using Nat.strongRecOn with
  | _ n ih =>
    intro h
    by_cases hp : IsP n
    · exact ⟨n, hp, Nat.dvd_refl n⟩
    · have : ∃ d, d ∣ n ∧ d ≠ 1 ∧ d ≠ n := by
        refine Classical.byContradiction fun hn => hp ⟨h, fun d hd => ?_⟩
        by_cases d1 : d = 1
        · exact Or.inl d1
        · exact Or.inr (Classical.byContradiction fun d2 => hn ⟨d, hd, d1, d2⟩)
      obtain ⟨d, hd, d1, d2⟩ := this
      have hle := Nat.le_of_dvd (by omega) hd
      have d0 : d ≠ 0 := by intro h0; subst h0; have := Nat.eq_zero_of_zero_dvd hd; omega
      obtain ⟨e, he, hed⟩ := ih d (by omega) (by omega)
      exact ⟨e, he, Nat.dvd_trans hed hd⟩
/-- the smallest prime that divides is small, of a number that is none -/
theorem small_prime {N : Nat} (h : 1 < N) (hn : ¬ IsP N) : ∃ d, IsP d ∧ d ∣ N ∧ d * d ≤ N := by
  have : ∃ d, d ∣ N ∧ d ≠ 1 ∧ d ≠ N := by
    refine Classical.byContradiction fun hx => hn ⟨h, fun d hd => ?_⟩
    by_cases d1 : d = 1
    · exact Or.inl d1
    · exact Or.inr (Classical.byContradiction fun d2 => hx ⟨d, hd, d1, d2⟩)
  obtain ⟨d, ⟨e, he⟩, d1, d2⟩ := this
  have d0 : d ≠ 0 := by intro h0; subst h0; omega
  have e0 : e ≠ 0 := by intro h0; subst h0; omega
  have e1 : e ≠ 1 := by intro h0; subst h0; omega
  rcases Nat.le_total d e with hde | hde
  · obtain ⟨f, hf, hfd⟩ := exists_prime d (by omega)
    refine ⟨f, hf, Nat.dvd_trans hfd ⟨e, he⟩, ?_⟩
    have hle := Nat.le_of_dvd (by omega) hfd
    rw [he]
    exact Nat.mul_le_mul hle (by omega)
  · obtain ⟨f, hf, hfd⟩ := exists_prime e (by omega)
    refine ⟨f, hf, Nat.dvd_trans hfd ⟨d, by rw [Nat.mul_comm]; exact he⟩, ?_⟩
    have hle := Nat.le_of_dvd (by omega) hfd
    rw [he]
    exact Nat.mul_le_mul (by omega) hle
/-- one step of a certificate, decided -/
def stepB (N k r a : Nat) : Bool := (N - 1) % r == 0 && pm N k a (N - 1) == 1 && Nat.gcd (pm N k a ((N - 1) / r) + (N - 1)) N == 1
theorem stepB_ok {N k r a : Nat} (h1 : 1 < N) (hk : N < 2 ^ k) (h : stepB N k r a = true) : (N - 1) % r = 0 ∧ a ^ (N - 1) % N = 1 ∧ Nat.gcd (a ^ ((N - 1) / r) % N + (N - 1)) N = 1 := by
  simp only [stepB, Bool.and_eq_true, beq_iff_eq] at h
  rw [pm_ok N k a (N - 1) (by omega), pm_ok N k a ((N - 1) / r) (by have := Nat.div_le_self (N - 1) r; omega)] at h
  exact ⟨h.1.1, h.1.2, h.2⟩
def prodL : List Nat → Nat
  | [] => 1
  | r :: l => r * prodL l
theorem dvd_prodL {x : Nat} : ∀ (l : List Nat), (∀ r, r ∈ l → IsP r) → l.Nodup → (∀ r, r ∈ l → r ∣ x) → prodL l ∣ x
  | [], _, _, _ => Nat.one_dvd _
  | r :: l, hp, hn, hd => by
    rw [List.nodup_cons] at hn
    have ih := dvd_prodL l (fun r hr => hp r (by simp [hr])) hn.2 (fun r hr => hd r (by simp [hr]))
    have hr := hp r (by simp)
    have hc : Nat.Coprime r (prodL l) := by
      refine hr.cop fun hx => ?_
      have : ∀ (l : List Nat), (∀ q, q ∈ l → IsP q) → r ∣ prodL l → r ∈ l := by
        intro l
        induction l with
        | nil => intro _ h; have := Nat.le_of_dvd (by decide) h; have := hr.1; simp [prodL] at *; omega
        | cons q l ih2 =>
          intro hq h
          rcases hr.euclid h with h1 | h1
          · rcases (hq q (by simp)).2 r h1 with h2 | h2
            · have := hr.1; omega
            · simp [h2]
          · simp [ih2 (fun q hq' => hq q (by simp [hq'])) h1]
      exact hn.1 (this l (fun r hr => hp r (by simp [hr])) hx)
    exact hc.mul_dvd_of_dvd_of_dvd (hd r (by simp)) ih
/-- Pocklington -/
theorem isP_pock (N k : Nat) (l : List (Nat × Nat)) (h1 : 1 < N) (hk : N < 2 ^ k) (hp : ∀ x, x ∈ l → IsP x.1) (hn : (l.map (·.1)).Nodup)
    (hs : l.all (fun x => stepB N k x.1 x.2) = true) (hbig : N < prodL (l.map (·.1)) * prodL (l.map (·.1))) : IsP N := by
  refine Classical.byContradiction fun hno => ?_
  obtain ⟨d, hd, hdN, hdd⟩ := small_prime h1 hno
  have hx : prodL (l.map (·.1)) ∣ d - 1 := by
    refine dvd_prodL _ (fun r hr => ?_) hn (fun r hr => ?_)
    · obtain ⟨x, hx, rfl⟩ := List.mem_map.1 hr; exact hp x hx
    · obtain ⟨x, hx, rfl⟩ := List.mem_map.1 hr
      have hst := stepB_ok h1 hk (List.all_eq_true.1 hs x hx)
      exact pock1 (hp x hx) hd hdN h1 hst.1 hst.2.1 hst.2.2
  have hle := Nat.le_of_dvd (by have := hd.1; omega) hx
  have : prodL (l.map (·.1)) * prodL (l.map (·.1)) ≤ d * d := Nat.mul_le_mul (by omega) (by omega)
  omega
end Mvq

/- The two primes are primes: certificates. -/
namespace Mvq
theorem isP_p107590001 : IsP 107590001 := isP_trial 107590001 14 (by decide) (by decide +kernel) (by decide)
theorem isP_p7240687 : IsP 7240687 := isP_trial 7240687 12 (by decide) (by decide +kernel) (by decide)
theorem isP_p96557 : IsP 96557 := isP_trial 96557 9 (by decide) (by decide +kernel) (by decide)
theorem isP_p255515944373312847190720520512484175977 : IsP 255515944373312847190720520512484175977 := by
  refine isP_pock 255515944373312847190720520512484175977 128 [(107590001, 2), (7240687, 2), (96557, 2)] (by decide) (by decide) (fun x hx => ?_) (by decide) (by decide +kernel) (by decide +kernel)
  simp only [List.mem_cons, List.not_mem_nil, or_false] at hx
  rcases hx with rfl | rfl | rfl
  · exact isP_p107590001
  · exact isP_p7240687
  · exact isP_p96557
theorem isP_p205115282021455665897114700593932402728804164701536103180137503955397371 : IsP 205115282021455665897114700593932402728804164701536103180137503955397371 := by
  refine isP_pock 205115282021455665897114700593932402728804164701536103180137503955397371 237 [(255515944373312847190720520512484175977, 2)] (by decide) (by decide) (fun x hx => ?_) (by decide) (by decide +kernel) (by decide +kernel)
  simp only [List.mem_cons, List.not_mem_nil, or_false] at hx
  subst hx
  · exact isP_p255515944373312847190720520512484175977
theorem isP_pP : IsP 115792089237316195423570985008687907853269984665640564039457584007908834671663 := by
  refine isP_pock 115792089237316195423570985008687907853269984665640564039457584007908834671663 256 [(205115282021455665897114700593932402728804164701536103180137503955397371, 2)] (by decide) (by decide) (fun x hx => ?_) (by decide) (by decide +kernel) (by decide +kernel)
  simp only [List.mem_cons, List.not_mem_nil, or_false] at hx
  subst hx
  · exact isP_p205115282021455665897114700593932402728804164701536103180137503955397371
theorem isP_p545358713 : IsP 545358713 := isP_trial 545358713 15 (by decide) (by decide +kernel) (by decide)
theorem isP_p305873 : IsP 305873 := isP_trial 305873 10 (by decide) (by decide +kernel) (by decide)
theorem isP_p293 : IsP 293 := isP_trial 293 4 (by decide) (by decide +kernel) (by decide)
theorem isP_p29047611873442575647497758179 : IsP 29047611873442575647497758179 := by
  refine isP_pock 29047611873442575647497758179 95 [(545358713, 2), (305873, 2), (293, 2)] (by decide) (by decide) (fun x hx => ?_) (by decide) (by decide +kernel) (by decide +kernel)
  simp only [List.mem_cons, List.not_mem_nil, or_false] at hx
  rcases hx with rfl | rfl | rfl
  · exact isP_p545358713
  · exact isP_p305873
  · exact isP_p293
theorem isP_p341948486974166000522343609283189 : IsP 341948486974166000522343609283189 := by
  refine isP_pock 341948486974166000522343609283189 109 [(29047611873442575647497758179, 2)] (by decide) (by decide) (fun x hx => ?_) (by decide) (by decide +kernel) (by decide +kernel)
  simp only [List.mem_cons, List.not_mem_nil, or_false] at hx
  subst hx
  · exact isP_p29047611873442575647497758179
theorem isP_p44706919 : IsP 44706919 := isP_trial 44706919 13 (by decide) (by decide +kernel) (by decide)
theorem isP_p120233 : IsP 120233 := isP_trial 120233 9 (by decide) (by decide +kernel) (by decide)
theorem isP_p174723607534414371449 : IsP 174723607534414371449 := by
  refine isP_pock 174723607534414371449 68 [(44706919, 2), (120233, 2)] (by decide) (by decide) (fun x hx => ?_) (by decide) (by decide +kernel) (by decide +kernel)
  simp only [List.mem_cons, List.not_mem_nil, or_false] at hx
  rcases hx with rfl | rfl
  · exact isP_p44706919
  · exact isP_p120233
theorem isP_pQ : IsP 115792089237316195423570985008687907852837564279074904382605163141518161494337 := by
  refine isP_pock 115792089237316195423570985008687907852837564279074904382605163141518161494337 256 [(341948486974166000522343609283189, 2), (174723607534414371449, 2)] (by decide) (by decide) (fun x hx => ?_) (by decide) (by decide +kernel) (by decide +kernel)
  simp only [List.mem_cons, List.not_mem_nil, or_false] at hx
  rcases hx with rfl | rfl
  · exact isP_p341948486974166000522343609283189
  · exact isP_p174723607534414371449
end Mvq

/- Polynomials in three coordinates, and in the roots over them, reckoned with: how the sum of three points is shown not to hang on brackets. -/
namespace Mvq
/-- the prime of the points -/
abbrev fP : Nat := 115792089237316195423570985008687907853269984665640564039457584007908834671663
instance : NeZero fP := ⟨by decide⟩
abbrev K := Fin fP
def kc (n : Nat) : K := Fin.ofNat fP n
theorem kc_add (a b : Nat) : kc ((a + b) % fP) = kc a + kc b := by
  apply Fin.ext; simp [kc, Fin.ofNat, Fin.val_add]
theorem kc_mul (a b : Nat) : kc (a * b % fP) = kc a * kc b := by
  apply Fin.ext; simp [kc, Fin.ofNat, Fin.val_mul]
abbrev Pl := List (Nat × Nat)
/-- the value of a monomial -/
def mo (x1 x2 x3 : K) (k : Nat) : K := x1 ^ (k % 1048576) * x2 ^ (k / 1048576 % 1048576) * x3 ^ (k / 1048576 / 1048576)
def small (d k : Nat) : Prop := k % 1048576 ≤ d ∧ k / 1048576 % 1048576 ≤ d ∧ k / 1048576 / 1048576 ≤ d
theorem pw_add (x : K) (a b : Nat) : x ^ (a + b) = x ^ a * x ^ b := by
  induction b with
  | zero => simp only [Nat.add_zero]; grind -lia -linarith
  | succ b ih => rw [← Nat.add_assoc]; grind -lia -linarith
theorem mo_add {d e k l : Nat} (hk : small d k) (hl : small e l) (h : d + e < 1048576) (x1 x2 x3 : K) : mo x1 x2 x3 (k + l) = mo x1 x2 x3 k * mo x1 x2 x3 l ∧ small (d + e) (k + l) := by
  obtain ⟨k1, k2, k3⟩ := hk
  obtain ⟨l1, l2, l3⟩ := hl
  have e1 : (k + l) % 1048576 = k % 1048576 + l % 1048576 := by omega
  have e2 : (k + l) / 1048576 = k / 1048576 + l / 1048576 := by omega
  have e3 : (k / 1048576 + l / 1048576) % 1048576 = k / 1048576 % 1048576 + l / 1048576 % 1048576 := by omega
  have e4 : (k / 1048576 + l / 1048576) / 1048576 = k / 1048576 / 1048576 + l / 1048576 / 1048576 := by omega
  constructor
  · unfold mo
    rw [e1, e2, e3, e4]
    generalize k % 1048576 = a1; generalize l % 1048576 = b1; generalize k / 1048576 % 1048576 = a2; generalize l / 1048576 % 1048576 = b2; generalize k / 1048576 / 1048576 = a3; generalize l / 1048576 / 1048576 = b3
    rw [pw_add, pw_add, pw_add]
    generalize x1 ^ a1 = u1; generalize x1 ^ b1 = v1; generalize x2 ^ a2 = u2; generalize x2 ^ b2 = v2; generalize x3 ^ a3 = u3; generalize x3 ^ b3 = v3
    grind -lia -linarith
  · unfold small
    rw [e1, e2, e3, e4]; omega
def plv (x1 x2 x3 : K) : Pl → K
  | [] => 0
  | (k, c) :: l => kc c * mo x1 x2 x3 k + plv x1 x2 x3 l
def PBd (d : Nat) (a : Pl) : Prop := ∀ t ∈ a, small d t.1
/-- two sorted lists, merged -/
def plAdd : Nat → Pl → Pl → Pl
  | 0, a, b => a ++ b
  | _ + 1, [], b => b
  | _ + 1, a, [] => a
  | n + 1, (k, c) :: a, (l, d) :: b => match Nat.blt k l with
    | true => (k, c) :: plAdd n a ((l, d) :: b)
    | false => match Nat.blt l k with
      | true => (l, d) :: plAdd n ((k, c) :: a) b
      | false => (k, (c + d) % fP) :: plAdd n a b
theorem plv_app (x1 x2 x3 : K) (a b : Pl) : plv x1 x2 x3 (a ++ b) = plv x1 x2 x3 a + plv x1 x2 x3 b := by
  induction a with
  | nil => simp only [List.nil_append, plv]; grind -lia -linarith
  | cons t a ih =>
    obtain ⟨k, c⟩ := t
    simp only [List.cons_append, plv, ih]; grind -lia -linarith
theorem plAdd_ok (x1 x2 x3 : K) : ∀ (n : Nat) (a b : Pl), plv x1 x2 x3 (plAdd n a b) = plv x1 x2 x3 a + plv x1 x2 x3 b
  | 0, a, b => plv_app x1 x2 x3 a b
  | n + 1, [], b => by simp only [plAdd, plv]; grind -lia -linarith
  | n + 1, t :: a, [] => by simp only [plAdd, plv]; grind -lia -linarith
  | n + 1, (k, c) :: a, (l, d) :: b => by
    have h1 := plAdd_ok x1 x2 x3 n a ((l, d) :: b)
    have h2 := plAdd_ok x1 x2 x3 n ((k, c) :: a) b
    have h3 := plAdd_ok x1 x2 x3 n a b
    simp only [plAdd]
    split
    · simp only [plv] at *; grind -lia -linarith
    · rename_i e1
      split
      · simp only [plv] at *; grind -lia -linarith
      · rename_i e2
        have hkl : k = l := by
          have : ¬ k < l := fun h => by rw [← Nat.blt_eq, e1] at h; cases h
          have : ¬ l < k := fun h => by rw [← Nat.blt_eq, e2] at h; cases h
          omega
        subst hkl
        simp only [plv, kc_add, h3]
        generalize mo x1 x2 x3 k = m
        generalize kc c = u
        generalize kc d = v
        grind -lia -linarith
theorem plAdd_bd (d : Nat) : ∀ (n : Nat) (a b : Pl), PBd d a → PBd d b → PBd d (plAdd n a b)
  | 0, a, b, ha, hb => fun t ht => by
    rcases List.mem_append.1 ht with h | h
    · exact ha t h
    · exact hb t h
  | n + 1, [], b, _, hb => by simpa only [plAdd] using hb
  | n + 1, t :: a, [], ha, _ => by simpa only [plAdd] using ha
  | n + 1, (k, c) :: a, (l, e) :: b, ha, hb => by
    have ha' : PBd d a := fun t ht => ha t (List.mem_cons_of_mem _ ht)
    have hb' : PBd d b := fun t ht => hb t (List.mem_cons_of_mem _ ht)
    simp only [plAdd]
    split
    · intro t ht
      rcases List.mem_cons.1 ht with h | h
      · subst h; exact ha (k, c) (by simp)
      · exact plAdd_bd d n a _ ha' hb t h
    · split
      · intro t ht
        rcases List.mem_cons.1 ht with h | h
        · subst h; exact hb (l, e) (by simp)
        · exact plAdd_bd d n _ b ha hb' t h
      · intro t ht
        rcases List.mem_cons.1 ht with h | h
        · subst h; exact ha (k, c) (by simp)
        · exact plAdd_bd d n a b ha' hb' t h
def plTerm (k c : Nat) : Pl → Pl
  | [] => []
  | (l, d) :: b => (k + l, c * d % fP) :: plTerm k c b
theorem plTerm_ok (x1 x2 x3 : K) {d e k : Nat} (c : Nat) (hk : small d k) (h : d + e < 1048576) : ∀ (b : Pl), PBd e b → plv x1 x2 x3 (plTerm k c b) = kc c * mo x1 x2 x3 k * plv x1 x2 x3 b ∧ PBd (d + e) (plTerm k c b)
  | [], _ => by
    refine ⟨?_, fun t ht => absurd ht (by simp [plTerm])⟩
    simp only [plTerm, plv]; grind -lia -linarith
  | (l, f) :: b, hb => by
    have ih := plTerm_ok x1 x2 x3 c hk h b (fun t ht => hb t (List.mem_cons_of_mem _ ht))
    have hm := mo_add hk (hb (l, f) (by simp)) h x1 x2 x3
    refine ⟨?_, fun t ht => ?_⟩
    · simp only [plTerm, plv, kc_mul, ih.1, hm.1]
      generalize mo x1 x2 x3 k = m; generalize mo x1 x2 x3 l = m2; generalize kc c = u; generalize kc f = v; generalize plv x1 x2 x3 b = q
      grind -lia -linarith
    · simp only [plTerm] at ht
      rcases List.mem_cons.1 ht with h1 | h1
      · subst h1; exact hm.2
      · exact ih.2 t h1
def plMul : Pl → Pl → Pl
  | [], _ => []
  | (k, c) :: a, b => plAdd 100000 (plTerm k c b) (plMul a b)
theorem plMul_ok (x1 x2 x3 : K) {d e : Nat} (h : d + e < 1048576) : ∀ (a b : Pl), PBd d a → PBd e b → plv x1 x2 x3 (plMul a b) = plv x1 x2 x3 a * plv x1 x2 x3 b ∧ PBd (d + e) (plMul a b)
  | [], b, _, _ => by
    refine ⟨?_, fun t ht => absurd ht (by simp [plMul])⟩
    simp only [plMul, plv]; grind -lia -linarith
  | (k, c) :: a, b, ha, hb => by
    have ih := plMul_ok x1 x2 x3 h a b (fun t ht => ha t (List.mem_cons_of_mem _ ht)) hb
    have ht := plTerm_ok x1 x2 x3 c (ha (k, c) (by simp)) h b hb
    refine ⟨?_, plAdd_bd _ _ _ _ ht.2 ih.2⟩
    simp only [plMul, plAdd_ok, plv, ht.1, ih.1]
    grind -lia -linarith
theorem PBd.mono {d e : Nat} {a : Pl} (h : PBd d a) (hd : d ≤ e) : PBd e a := fun t ht => by
  obtain ⟨h1, h2, h3⟩ := h t ht
  exact ⟨by omega, by omega, by omega⟩
/-- what is reckoned with -/
structure Ops (α : Type) where
  add : α → α → α
  mul : α → α → α
structure Snd {α : Type} (o : Ops α) (val : α → K) (Bd : Nat → α → Prop) (c : Nat) : Prop where
  add : ∀ a b, val (o.add a b) = val a + val b
  addB : ∀ d a b, Bd d a → Bd d b → Bd d (o.add a b)
  mul : ∀ d e a b, Bd d a → Bd e b → d + e + c < 1048576 → val (o.mul a b) = val a * val b ∧ Bd (d + e + c) (o.mul a b)
  mono : ∀ d e a, Bd d a → d ≤ e → Bd e a
def plOps : Ops Pl := ⟨plAdd 100000, plMul⟩
theorem plSnd (x1 x2 x3 : K) : Snd plOps (plv x1 x2 x3) PBd 0 :=
  ⟨fun a b => plAdd_ok x1 x2 x3 _ a b, fun d a b ha hb => plAdd_bd d _ a b ha hb, fun d e a b ha hb h => plMul_ok x1 x2 x3 (d := d) (e := e) h a b ha hb, fun _ _ _ h hd => h.mono hd⟩
def prOps {α : Type} (o : Ops α) (f : α) : Ops (α × α) :=
  ⟨fun p q => (o.add p.1 q.1, o.add p.2 q.2), fun p q => (o.add (o.mul p.1 q.1) (o.mul (o.mul p.2 q.2) f), o.add (o.mul p.1 q.2) (o.mul p.2 q.1))⟩
def prVal {α : Type} (val : α → K) (y : K) (p : α × α) : K := val p.1 + val p.2 * y
def prBd {α : Type} (Bd : Nat → α → Prop) (d : Nat) (p : α × α) : Prop := Bd d p.1 ∧ Bd d p.2
theorem prSnd {α : Type} {o : Ops α} {val : α → K} {Bd : Nat → α → Prop} {c : Nat} (h : Snd o val Bd c) (f : α) (y : K) (hy : y * y = val f) (hf : Bd 3 f) : Snd (prOps o f) (prVal val y) (prBd Bd) (c + c + 3) := by
  refine ⟨fun a b => ?_, fun d a b ha hb => ⟨h.addB _ _ _ ha.1 hb.1, h.addB _ _ _ ha.2 hb.2⟩, fun d e a b ha hb hd => ?_, fun d e a ha hd => ⟨h.mono _ _ _ ha.1 hd, h.mono _ _ _ ha.2 hd⟩⟩
  · simp only [prVal, prOps, h.add]; grind -lia -linarith
  · have m11 := h.mul d e a.1 b.1 ha.1 hb.1 (by omega)
    have m22 := h.mul d e a.2 b.2 ha.2 hb.2 (by omega)
    have m12 := h.mul d e a.1 b.2 ha.1 hb.2 (by omega)
    have m21 := h.mul d e a.2 b.1 ha.2 hb.1 (by omega)
    have mf := h.mul _ 3 _ f m22.2 hf (by omega)
    refine ⟨?_, h.addB _ _ _ (h.mono _ _ _ m11.2 (by omega)) (h.mono _ _ _ mf.2 (by omega)), h.addB _ _ _ (h.mono _ _ _ m12.2 (by omega)) (h.mono _ _ _ m21.2 (by omega))⟩
    simp only [prVal, prOps, h.add, m11.1, m12.1, m21.1, mf.1, m22.1, ← hy]
    grind -lia -linarith
end Mvq

/- The complete sum of points, over polynomials. -/
namespace Mvq
/-- y * y of a point, of each of three -/
def fPl (i : Nat) : Pl := [(0, 7), (3 * i, 1)]
abbrev T3 := ((Pl × Pl) × (Pl × Pl)) × ((Pl × Pl) × (Pl × Pl))
def o1 : Ops (Pl × Pl) := prOps plOps (fPl 1)
def o2 : Ops ((Pl × Pl) × (Pl × Pl)) := prOps o1 (fPl 1048576, [])
def o3 : Ops T3 := prOps o2 ((fPl 1099511627776, []), ([], []))
def v3 (x1 x2 x3 y1 y2 y3 : K) : T3 → K := prVal (prVal (prVal (plv x1 x2 x3) y1) y2) y3
def b3 : Nat → T3 → Prop := prBd (prBd (prBd PBd))
theorem pBd_of (d : Nat) (a : Pl) (h : (a.all fun t => decide (t.1 % 1048576 ≤ d) && decide (t.1 / 1048576 % 1048576 ≤ d) && decide (t.1 / 1048576 / 1048576 ≤ d)) = true) : PBd d a := fun t ht => by
  have h1 := List.all_eq_true.1 h t ht
  simp only [Bool.and_eq_true, decide_eq_true_eq] at h1
  exact ⟨h1.1.1, h1.1.2, h1.2⟩
theorem kc7 : kc 7 = 7 := by decide
theorem kc1 : kc 1 = 1 := by decide
theorem snd3 (x1 x2 x3 y1 y2 y3 : K) (h1 : y1 * y1 = x1 * x1 * x1 + 7) (h2 : y2 * y2 = x2 * x2 * x2 + 7) (h3 : y3 * y3 = x3 * x3 * x3 + 7) : Snd o3 (v3 x1 x2 x3 y1 y2 y3) b3 21 := by
  have s1 : Snd o1 (prVal (plv x1 x2 x3) y1) (prBd PBd) 3 := prSnd (plSnd x1 x2 x3) _ y1 (by
    simp only [fPl, plv, mo, kc7, kc1]
    grind -lia -linarith) (pBd_of _ _ (by decide))
  have s2 : Snd o2 (prVal (prVal (plv x1 x2 x3) y1) y2) (prBd (prBd PBd)) 9 := prSnd s1 _ y2 (by
    simp only [fPl, prVal, plv, mo, kc7, kc1]
    grind -lia -linarith) ⟨pBd_of _ _ (by decide), pBd_of _ _ (by decide)⟩
  exact prSnd s2 _ y3 (by
    simp only [fPl, prVal, plv, mo, kc7, kc1]
    grind -lia -linarith) ⟨⟨pBd_of _ _ (by decide), pBd_of _ _ (by decide)⟩, ⟨pBd_of _ _ (by decide), pBd_of _ _ (by decide)⟩⟩
/-- a value that is written so -/
structure Rp (V : T3 → K) (d : Nat) (a : T3) (u : K) : Prop where
  val : V a = u
  bd : b3 d a
section
variable {V : T3 → K} (S : Snd o3 V b3 21)
include S
theorem Rp.add {d e : Nat} {a b : T3} {u v : K} (ha : Rp V d a u) (hb : Rp V e b v) : Rp V (d + e) (o3.add a b) (u + v) :=
  ⟨by rw [S.add, ha.val, hb.val], S.addB _ _ _ (S.mono _ _ _ ha.bd (by omega)) (S.mono _ _ _ hb.bd (by omega))⟩
theorem Rp.mul {d e : Nat} {a b : T3} {u v : K} (ha : Rp V d a u) (hb : Rp V e b v) (h : d + e + 21 < 1048576) : Rp V (d + e + 21) (o3.mul a b) (u * v) := by
  have := S.mul d e a b ha.bd hb.bd h
  exact ⟨by rw [this.1, ha.val, hb.val], this.2⟩
end
def tc (n : Nat) : T3 := ((([(0, n)], []), ([], [])), (([], []), ([], [])))
/-- the sum's coordinates -/
def cX (X1 Y1 Z1 X2 Y2 Z2 : K) : K := (X1*Y2 + X2*Y1)*(Y1*Y2 + kc (fP - 21)*(Z1*Z2)) + kc (fP - 21)*((Y1*Z2 + Y2*Z1)*(X1*Z2 + X2*Z1))
def cY (X1 Y1 Z1 X2 Y2 Z2 : K) : K := (Y1*Y2 + kc 21*(Z1*Z2))*(Y1*Y2 + kc (fP - 21)*(Z1*Z2)) + kc 63*((X1*X2)*(X1*Z2 + X2*Z1))
def cZ (X1 Y1 Z1 X2 Y2 Z2 : K) : K := (Y1*Z2 + Y2*Z1)*(Y1*Y2 + kc 21*(Z1*Z2)) + kc 3*((X1*X2)*(X1*Y2 + X2*Y1))
def tX (X1 Y1 Z1 X2 Y2 Z2 : T3) : T3 := o3.add (o3.mul (o3.add (o3.mul X1 Y2) (o3.mul X2 Y1)) (o3.add (o3.mul Y1 Y2) (o3.mul (tc (fP - 21)) (o3.mul Z1 Z2)))) (o3.mul (tc (fP - 21)) (o3.mul (o3.add (o3.mul Y1 Z2) (o3.mul Y2 Z1)) (o3.add (o3.mul X1 Z2) (o3.mul X2 Z1))))
def tY (X1 Y1 Z1 X2 Y2 Z2 : T3) : T3 := o3.add (o3.mul (o3.add (o3.mul Y1 Y2) (o3.mul (tc 21) (o3.mul Z1 Z2))) (o3.add (o3.mul Y1 Y2) (o3.mul (tc (fP - 21)) (o3.mul Z1 Z2)))) (o3.mul (tc 63) (o3.mul (o3.mul X1 X2) (o3.add (o3.mul X1 Z2) (o3.mul X2 Z1))))
def tZ (X1 Y1 Z1 X2 Y2 Z2 : T3) : T3 := o3.add (o3.mul (o3.add (o3.mul Y1 Z2) (o3.mul Y2 Z1)) (o3.add (o3.mul Y1 Y2) (o3.mul (tc 21) (o3.mul Z1 Z2)))) (o3.mul (tc 3) (o3.mul (o3.mul X1 X2) (o3.add (o3.mul X1 Y2) (o3.mul X2 Y1))))
section
variable {V : T3 → K} (S : Snd o3 V b3 21) (hc : ∀ n, Rp V 0 (tc n) (kc n))
include S hc
omit hc in
theorem Rp.mono {d e : Nat} {a : T3} {u : K} (ha : Rp V d a u) (h : d ≤ e) : Rp V e a u := ⟨ha.val, S.mono _ _ _ ha.bd h⟩
theorem t_ok {d e : Nat} {A1 B1 C1 A2 B2 C2 : T3} {X1 Y1 Z1 X2 Y2 Z2 : K} (hA1 : Rp V d A1 X1) (hB1 : Rp V d B1 Y1) (hC1 : Rp V d C1 Z1) (hA2 : Rp V e A2 X2) (hB2 : Rp V e B2 Y2) (hC2 : Rp V e C2 Z2) (h : d + e < 10000) :
    Rp V (8 * (d + e) + 300) (tX A1 B1 C1 A2 B2 C2) (cX X1 Y1 Z1 X2 Y2 Z2) ∧ Rp V (8 * (d + e) + 300) (tY A1 B1 C1 A2 B2 C2) (cY X1 Y1 Z1 X2 Y2 Z2) ∧ Rp V (8 * (d + e) + 300) (tZ A1 B1 C1 A2 B2 C2) (cZ X1 Y1 Z1 X2 Y2 Z2) := by
  have m1 := Rp.add S (Rp.mul S hA1 hB2 (by omega)) (Rp.mul S hA2 hB1 (by omega))
  have m2 := Rp.add S (Rp.mul S hB1 hB2 (by omega)) (Rp.mul S (hc (fP - 21)) (Rp.mul S hC1 hC2 (by omega)) (by omega))
  have m6 := Rp.add S (Rp.mul S hB1 hB2 (by omega)) (Rp.mul S (hc 21) (Rp.mul S hC1 hC2 (by omega)) (by omega))
  have m3 := Rp.add S (Rp.mul S hB1 hC2 (by omega)) (Rp.mul S hB2 hC1 (by omega))
  have m4 := Rp.add S (Rp.mul S hA1 hC2 (by omega)) (Rp.mul S hA2 hC1 (by omega))
  have m7 := Rp.mul S hA1 hA2 (by omega)
  have m5 := Rp.add S (Rp.mul S m1 m2 (by omega)) (Rp.mul S (hc (fP - 21)) (Rp.mul S m3 m4 (by omega)) (by omega))
  have m8 := Rp.add S (Rp.mul S m6 m2 (by omega)) (Rp.mul S (hc 63) (Rp.mul S m7 m4 (by omega)) (by omega))
  have m9 := Rp.add S (Rp.mul S m3 m6 (by omega)) (Rp.mul S (hc 3) (Rp.mul S m7 m1 (by omega)) (by omega))
  exact ⟨m5.mono S (by omega), m8.mono S (by omega), m9.mono S (by omega)⟩
end
def e0 : Pl × Pl := ([], [])
def e1 : (Pl × Pl) × (Pl × Pl) := (e0, e0)
def tx1 : T3 := ((([(1, 1)], []), e0), e1)
def tx2 : T3 := ((([(1048576, 1)], []), e0), e1)
def tx3 : T3 := ((([(1099511627776, 1)], []), e0), e1)
def ty1 : T3 := ((([], [(0, 1)]), e0), e1)
def ty2 : T3 := ((e0, ([(0, 1)], [])), e1)
def ty3 : T3 := (e1, (([(0, 1)], []), e0))
def lX : T3 := tX (tX tx1 ty1 (tc 1) tx2 ty2 (tc 1)) (tY tx1 ty1 (tc 1) tx2 ty2 (tc 1)) (tZ tx1 ty1 (tc 1) tx2 ty2 (tc 1)) tx3 ty3 (tc 1)
def lY : T3 := tY (tX tx1 ty1 (tc 1) tx2 ty2 (tc 1)) (tY tx1 ty1 (tc 1) tx2 ty2 (tc 1)) (tZ tx1 ty1 (tc 1) tx2 ty2 (tc 1)) tx3 ty3 (tc 1)
def lZ : T3 := tZ (tX tx1 ty1 (tc 1) tx2 ty2 (tc 1)) (tY tx1 ty1 (tc 1) tx2 ty2 (tc 1)) (tZ tx1 ty1 (tc 1) tx2 ty2 (tc 1)) tx3 ty3 (tc 1)
def rX : T3 := tX tx1 ty1 (tc 1) (tX tx2 ty2 (tc 1) tx3 ty3 (tc 1)) (tY tx2 ty2 (tc 1) tx3 ty3 (tc 1)) (tZ tx2 ty2 (tc 1) tx3 ty3 (tc 1))
def rY : T3 := tY tx1 ty1 (tc 1) (tX tx2 ty2 (tc 1) tx3 ty3 (tc 1)) (tY tx2 ty2 (tc 1) tx3 ty3 (tc 1)) (tZ tx2 ty2 (tc 1) tx3 ty3 (tc 1))
def rZ : T3 := tZ tx1 ty1 (tc 1) (tX tx2 ty2 (tc 1) tx3 ty3 (tc 1)) (tY tx2 ty2 (tc 1) tx3 ty3 (tc 1)) (tZ tx2 ty2 (tc 1) tx3 ty3 (tc 1))
end Mvq

/- Three points' sum: first and last coordinate. -/
namespace Mvq
theorem cross_XZ : (o3.mul lX rZ == o3.mul rX lZ) = true := by decide +kernel
end Mvq

/- Three points' sum: second and last coordinate. -/
namespace Mvq
theorem cross_YZ : (o3.mul lY rZ == o3.mul rY lZ) = true := by decide +kernel
end Mvq

/- The complete sum of points does not hang on brackets. -/
namespace Mvq
theorem bd0 : PBd 1 [] := pBd_of _ _ (by decide)
theorem rp_tc (x1 x2 x3 y1 y2 y3 : K) (n : Nat) : Rp (v3 x1 x2 x3 y1 y2 y3) 0 (tc n) (kc n) := by
  refine ⟨?_, ?_⟩
  · simp only [tc, v3, prVal, plv, mo]; grind -lia -linarith
  · have h0 : PBd 0 [] := pBd_of _ _ (by decide)
    have h1 : PBd 0 [(0, n)] := pBd_of _ _ (by simp)
    exact ⟨⟨⟨h1, h0⟩, ⟨h0, h0⟩⟩, ⟨⟨h0, h0⟩, ⟨h0, h0⟩⟩⟩
section
variable (x1 x2 x3 y1 y2 y3 : K)
theorem kc1' : kc 1 = 1 := by decide
theorem rp_x1 : Rp (v3 x1 x2 x3 y1 y2 y3) 1 tx1 x1 := by
  refine ⟨?_, ⟨⟨⟨pBd_of _ _ (by decide), bd0⟩, ⟨bd0, bd0⟩⟩, ⟨⟨bd0, bd0⟩, ⟨bd0, bd0⟩⟩⟩⟩
  simp only [tx1, e0, e1, v3, prVal, plv, mo, kc1']; grind -lia -linarith
theorem rp_x2 : Rp (v3 x1 x2 x3 y1 y2 y3) 1 tx2 x2 := by
  refine ⟨?_, ⟨⟨⟨pBd_of _ _ (by decide), bd0⟩, ⟨bd0, bd0⟩⟩, ⟨⟨bd0, bd0⟩, ⟨bd0, bd0⟩⟩⟩⟩
  simp only [tx2, e0, e1, v3, prVal, plv, mo, kc1']; grind -lia -linarith
theorem rp_x3 : Rp (v3 x1 x2 x3 y1 y2 y3) 1 tx3 x3 := by
  refine ⟨?_, ⟨⟨⟨pBd_of _ _ (by decide), bd0⟩, ⟨bd0, bd0⟩⟩, ⟨⟨bd0, bd0⟩, ⟨bd0, bd0⟩⟩⟩⟩
  simp only [tx3, e0, e1, v3, prVal, plv, mo, kc1']; grind -lia -linarith
theorem rp_y1 : Rp (v3 x1 x2 x3 y1 y2 y3) 1 ty1 y1 := by
  refine ⟨?_, ⟨⟨⟨bd0, pBd_of _ _ (by decide)⟩, ⟨bd0, bd0⟩⟩, ⟨⟨bd0, bd0⟩, ⟨bd0, bd0⟩⟩⟩⟩
  simp only [ty1, e0, e1, v3, prVal, plv, mo, kc1']; grind -lia -linarith
theorem rp_y2 : Rp (v3 x1 x2 x3 y1 y2 y3) 1 ty2 y2 := by
  refine ⟨?_, ⟨⟨⟨bd0, bd0⟩, ⟨pBd_of _ _ (by decide), bd0⟩⟩, ⟨⟨bd0, bd0⟩, ⟨bd0, bd0⟩⟩⟩⟩
  simp only [ty2, e0, e1, v3, prVal, plv, mo, kc1']; grind -lia -linarith
theorem rp_y3 : Rp (v3 x1 x2 x3 y1 y2 y3) 1 ty3 y3 := by
  refine ⟨?_, ⟨⟨⟨bd0, bd0⟩, ⟨bd0, bd0⟩⟩, ⟨⟨pBd_of _ _ (by decide), bd0⟩, ⟨bd0, bd0⟩⟩⟩⟩
  simp only [ty3, e0, e1, v3, prVal, plv, mo, kc1']; grind -lia -linarith
end
theorem assoc (x1 x2 x3 y1 y2 y3 : K) (h1 : y1 * y1 = x1 * x1 * x1 + 7) (h2 : y2 * y2 = x2 * x2 * x2 + 7) (h3 : y3 * y3 = x3 * x3 * x3 + 7) :
    cX (cX x1 y1 1 x2 y2 1) (cY x1 y1 1 x2 y2 1) (cZ x1 y1 1 x2 y2 1) x3 y3 1 * cZ x1 y1 1 (cX x2 y2 1 x3 y3 1) (cY x2 y2 1 x3 y3 1) (cZ x2 y2 1 x3 y3 1) =
      cX x1 y1 1 (cX x2 y2 1 x3 y3 1) (cY x2 y2 1 x3 y3 1) (cZ x2 y2 1 x3 y3 1) * cZ (cX x1 y1 1 x2 y2 1) (cY x1 y1 1 x2 y2 1) (cZ x1 y1 1 x2 y2 1) x3 y3 1 ∧
    cY (cX x1 y1 1 x2 y2 1) (cY x1 y1 1 x2 y2 1) (cZ x1 y1 1 x2 y2 1) x3 y3 1 * cZ x1 y1 1 (cX x2 y2 1 x3 y3 1) (cY x2 y2 1 x3 y3 1) (cZ x2 y2 1 x3 y3 1) =
      cY x1 y1 1 (cX x2 y2 1 x3 y3 1) (cY x2 y2 1 x3 y3 1) (cZ x2 y2 1 x3 y3 1) * cZ (cX x1 y1 1 x2 y2 1) (cY x1 y1 1 x2 y2 1) (cZ x1 y1 1 x2 y2 1) x3 y3 1 := by
  have S := snd3 x1 x2 x3 y1 y2 y3 h1 h2 h3
  have hc := rp_tc x1 x2 x3 y1 y2 y3
  have c1 : Rp (v3 x1 x2 x3 y1 y2 y3) 1 (tc 1) 1 := (kc1' ▸ hc 1).mono S (by omega)
  have A := t_ok S hc (rp_x1 x1 x2 x3 y1 y2 y3) (rp_y1 x1 x2 x3 y1 y2 y3) c1 (rp_x2 x1 x2 x3 y1 y2 y3) (rp_y2 x1 x2 x3 y1 y2 y3) c1 (by omega)
  have B := t_ok S hc (rp_x2 x1 x2 x3 y1 y2 y3) (rp_y2 x1 x2 x3 y1 y2 y3) c1 (rp_x3 x1 x2 x3 y1 y2 y3) (rp_y3 x1 x2 x3 y1 y2 y3) c1 (by omega)
  have L := t_ok S hc A.1 A.2.1 A.2.2 (rp_x3 x1 x2 x3 y1 y2 y3) (rp_y3 x1 x2 x3 y1 y2 y3) c1 (by omega)
  have R := t_ok S hc (rp_x1 x1 x2 x3 y1 y2 y3) (rp_y1 x1 x2 x3 y1 y2 y3) c1 B.1 B.2.1 B.2.2 (by omega)
  have m1 := Rp.mul S L.1 R.2.2 (by omega)
  have m2 := Rp.mul S R.1 L.2.2 (by omega)
  have m3 := Rp.mul S L.2.1 R.2.2 (by omega)
  have m4 := Rp.mul S R.2.1 L.2.2 (by omega)
  refine ⟨?_, ?_⟩
  · rw [← m1.val, ← m2.val]; exact congrArg _ (eq_of_beq cross_XZ)
  · rw [← m3.val, ← m4.val]; exact congrArg _ (eq_of_beq cross_YZ)
end Mvq

/- The field of the curve, and the curve's points: inverses; no root of -7; the complete sum is never empty. -/
namespace Mvq
theorem isP_fP : IsP fP := isP_pP
theorem fP_val (a : K) : a.val < fP := a.isLt
theorem k_ne {a : K} (h : a ≠ 0) : ¬ fP ∣ a.val := by
  intro hd
  have h1 := fP_val a
  have h2 : a.val ≠ 0 := fun e => h (Fin.ext e)
  have := Nat.le_of_dvd (by omega) hd
  omega
def kinv (a : K) : K := kc (a.val ^ (fP - 2))
theorem kc_val (a : K) : kc a.val = a := by
  apply Fin.ext; simp [kc, Fin.ofNat, Nat.mod_eq_of_lt a.isLt]
theorem kc_mul' (a b : Nat) : kc (a * b) = kc a * kc b := by
  rw [← kc_mul]; apply Fin.ext; simp [kc, Fin.ofNat]
theorem kc_mod (a : Nat) : kc (a % fP) = kc a := by apply Fin.ext; simp [kc, Fin.ofNat]
theorem mul_kinv {a : K} (h : a ≠ 0) : a * kinv a = 1 := by
  have h1 := fermat isP_fP (k_ne h)
  have h2 : a.val * a.val ^ (fP - 2) = a.val ^ (fP - 1) := by rw [Nat.mul_comm, ← Nat.pow_succ, show (fP - 2).succ = fP - 1 by decide]
  have h3 : a * kinv a = kc (a.val * a.val ^ (fP - 2)) := by rw [kc_mul', kc_val]; rfl
  rw [h3, h2, ← kc_mod, h1]; decide
theorem mul_zero' {a b : K} (h : a * b = 0) : a = 0 ∨ b = 0 := by
  by_cases ha : a = 0
  · exact Or.inl ha
  · right
    have h1 := mul_kinv ha
    generalize kinv a = c at *
    grind -lia -linarith
theorem cancelK {a b c : K} (ha : a ≠ 0) (h : a * b = a * c) : b = c := by
  have h1 := mul_kinv ha
  generalize kinv a = d at *
  grind -lia -linarith
theorem pow_val (a : K) (n : Nat) : kc (a.val ^ n) = a ^ n := by
  induction n with
  | zero => rw [Nat.pow_zero]; have : kc 1 = 1 := by decide
            rw [this]; grind -lia -linarith
  | succ n ih => rw [Nat.pow_succ, kc_mul', ih, kc_val]; grind -lia -linarith
theorem no_root (c : K) : c * c * c + 7 ≠ 0 := by
  intro h
  have hc : c * c * c = kc (fP - 7) := by
    have : kc (fP - 7) + 7 = 0 := by decide
    generalize kc (fP - 7) = m at *
    grind -lia -linarith
  have hc0 : c ≠ 0 := by
    intro h0
    subst h0
    exact absurd h (by decide)
  have h1 : c ^ (fP - 1) = 1 := by
    rw [← pow_val, ← kc_mod, fermat isP_fP (k_ne hc0)]; decide
  have h2 : c ^ (fP - 1) = (c * c * c) ^ ((fP - 1) / 3) := by
    have e : (fP - 1) = (fP - 1) / 3 + (fP - 1) / 3 + (fP - 1) / 3 := by decide
    generalize (fP - 1) / 3 = n at *
    rw [e, pw_add, pw_add]
    clear e h1 h hc hc0
    induction n with
    | zero => grind -lia -linarith
    | succ n ih =>
      have e1 : ∀ x : K, x ^ (n + 1) = x ^ n * x := fun x => by grind -lia -linarith
      rw [e1, e1, ← ih]
      generalize c ^ n = d
      grind -lia -linarith
  rw [h1, hc] at h2
  have h3 : kc (fP - 7) ^ ((fP - 1) / 3) = kc ((fP - 7) ^ ((fP - 1) / 3) % fP) := by
    rw [kc_mod]
    generalize (fP - 1) / 3 = n
    induction n with
    | zero => have : kc 1 = 1 := by decide
              rw [Nat.pow_zero, this]; grind -lia -linarith
    | succ n ih => rw [Nat.pow_succ, kc_mul', ← ih]; grind -lia -linarith
  rw [h3, ← pm_ok fP 256 (fP - 7) ((fP - 1) / 3) (by decide)] at h2
  exact absurd h2 (by decide +kernel)
end Mvq

/- The curve's points: a group. -/
namespace Mvq
inductive Pt where
  | O : Pt
  | A : K → K → Pt
def onC : Pt → Prop
  | .O => True
  | .A x y => y * y = x * x * x + 7
/-- a point out of a fraction -/
def nm (X Y Z : K) : Pt := if Z = 0 then .O else .A (X * kinv Z) (Y * kinv Z)
def padd : Pt → Pt → Pt
  | .O, q => q
  | .A x y, .O => .A x y
  | .A x1 y1, .A x2 y2 => nm (cX x1 y1 1 x2 y2 1) (cY x1 y1 1 x2 y2 1) (cZ x1 y1 1 x2 y2 1)
def pneg : Pt → Pt
  | .O => .O
  | .A x y => .A x (-y)
theorem km21 : kc (fP - 21) = -21 := by decide
theorem k21 : kc 21 = 21 := by decide
theorem k63 : kc 63 = 63 := by decide
theorem k3 : kc 3 = 3 := by decide
theorem cX_eq (X1 Y1 Z1 X2 Y2 Z2 : K) : cX X1 Y1 Z1 X2 Y2 Z2 = (X1*Y2 + X2*Y1)*(Y1*Y2 - 21*Z1*Z2) - 21*(Y1*Z2 + Y2*Z1)*(X1*Z2 + X2*Z1) := by
  unfold cX; rw [km21]; grind -lia -linarith
theorem cY_eq (X1 Y1 Z1 X2 Y2 Z2 : K) : cY X1 Y1 Z1 X2 Y2 Z2 = (Y1*Y2 + 21*Z1*Z2)*(Y1*Y2 - 21*Z1*Z2) + 63*X1*X2*(X1*Z2 + X2*Z1) := by
  unfold cY; rw [km21, k21, k63]; grind -lia -linarith
theorem cZ_eq (X1 Y1 Z1 X2 Y2 Z2 : K) : cZ X1 Y1 Z1 X2 Y2 Z2 = (Y1*Z2 + Y2*Z1)*(Y1*Y2 + 21*Z1*Z2) + 3*X1*X2*(X1*Y2 + X2*Y1) := by
  unfold cZ; rw [k21, k3]; grind -lia -linarith
theorem nm_scale {a X Y Z : K} (ha : a ≠ 0) : nm (a * X) (a * Y) (a * Z) = nm X Y Z := by
  unfold nm
  by_cases hz : Z = 0
  · rw [if_pos hz, if_pos (by rw [hz]; grind -lia -linarith)]
  · have haz : a * Z ≠ 0 := fun h => (mul_zero' h).elim ha hz
    rw [if_neg hz, if_neg haz]
    have h1 := mul_kinv hz
    have h2 := mul_kinv haz
    generalize kinv Z = u at *
    generalize kinv (a * Z) = v at *
    have h3 : a * v = u := by
      refine cancelK hz ?_
      grind -lia -linarith
    congr 1
    · rw [← h3]; grind -lia -linarith
    · rw [← h3]; grind -lia -linarith
theorem y_ne {x y : K} (h : y * y = x * x * x + 7) : y ≠ 0 := by
  intro h0
  subst h0
  refine no_root x ?_
  grind -lia -linarith
theorem two_ne : (2 : K) ≠ 0 := by decide
/-- the difference's second coordinate -/
theorem z_id {x1 y1 x2 y2 : K} (h1 : y1 * y1 = x1 * x1 * x1 + 7) (h2 : y2 * y2 = x2 * x2 * x2 + 7) :
    cZ x1 y1 1 x2 y2 1 * cZ x1 y1 1 x2 y2 1 = (x1*x2*(x1+x2) + 14 + 2*y1*y2) * (x1*x2*(x1+x2) + 14 + 2*y1*y2) * (x1*x2*(x1+x2) + 14 + 2*y1*y2) + 7 * ((x2-x1)*(x2-x1)*(x2-x1)*(x2-x1)*(x2-x1)*(x2-x1)) := by
  rw [cZ_eq]
  grind -lia -linarith
theorem z_zero {x1 y1 x2 y2 : K} (h1 : y1 * y1 = x1 * x1 * x1 + 7) (h2 : y2 * y2 = x2 * x2 * x2 + 7) (hz : cZ x1 y1 1 x2 y2 1 = 0) : x2 = x1 ∧ y2 = -y1 := by
  by_cases hx : x2 - x1 = 0
  · have hx' : x2 = x1 := by grind -lia -linarith
    subst hx'
    have hyy : (y2 - y1) * (y2 + y1) = 0 := by grind -lia -linarith
    rcases mul_zero' hyy with h | h
    · exfalso
      have e : y2 = y1 := by grind -lia -linarith
      subst e
      rw [cZ_eq] at hz
      have h8 : (2 * y2) * ((2 * y2) * (2 * y2)) = 0 := by grind -lia -linarith
      have hy := y_ne h1
      have h2y : (2 : K) * y2 ≠ 0 := fun h => (mul_zero' h).elim two_ne hy
      exact (mul_zero' h8).elim h2y fun h => (mul_zero' h).elim h2y h2y
    · exact ⟨rfl, by grind -lia -linarith⟩
  · exfalso
    have hi := z_id h1 h2
    rw [hz] at hi
    have hd := mul_kinv hx
    generalize kinv (x2 - x1) = u at *
    generalize x1*x2*(x1+x2) + 14 + 2*y1*y2 = m at *
    generalize x2 - x1 = d at *
    refine no_root (m * u * u) ?_
    have e : (m * u * u) * (m * u * u) * (m * u * u) + 7 = (m * m * m + 7 * (d * d * d * d * d * d)) * (u * u * u * u * u * u) := by grind -lia -linarith
    rw [e, ← hi]
    grind -lia -linarith
theorem y_id (x y : K) (h : y * y = x * x * x + 7) (h0 : x*x*x*x*x*x + 140*(x*x*x) - 392 = 0) : False := by
  have hy := y_ne h
  have h2 : (2 : K) * y ≠ 0 := fun h => (mul_zero' h).elim two_ne hy
  have hu := mul_kinv h2
  generalize kinv (2 * y) = u at *
  refine no_root ((x*x*x*x - 56*x) * u * u) ?_
  have e : ((x*x*x*x - 56*x) * u * u) * ((x*x*x*x - 56*x) * u * u) * ((x*x*x*x - 56*x) * u * u) + 7 = ((x*x*x*x - 56*x) * (x*x*x*x - 56*x) * (x*x*x*x - 56*x) + 7 * ((2*y)*(2*y)*(2*y)*(2*y)*(2*y)*(2*y))) * (u * u * u * u * u * u) := by grind -lia -linarith
  have e2 : (x*x*x*x - 56*x) * (x*x*x*x - 56*x) * (x*x*x*x - 56*x) + 7 * ((2*y)*(2*y)*(2*y)*(2*y)*(2*y)*(2*y)) = (x*x*x*x*x*x + 140*(x*x*x) - 392) * (x*x*x*x*x*x + 140*(x*x*x) - 392) := by
    have e3 : (2*y)*(2*y)*(2*y)*(2*y)*(2*y)*(2*y) = 64 * ((x*x*x+7)*(x*x*x+7)*(x*x*x+7)) := by rw [← h]; grind -lia -linarith
    rw [e3]; grind -lia -linarith
  rw [e, e2, h0]; grind -lia -linarith
/-- a fraction that tells a point -/
def okT (X Y Z : K) : Prop := Z ≠ 0 ∨ (X = 0 ∧ Y ≠ 0)
theorem sum_ok {x1 y1 x2 y2 : K} (h1 : y1 * y1 = x1 * x1 * x1 + 7) (h2 : y2 * y2 = x2 * x2 * x2 + 7) : okT (cX x1 y1 1 x2 y2 1) (cY x1 y1 1 x2 y2 1) (cZ x1 y1 1 x2 y2 1) := by
  by_cases hz : cZ x1 y1 1 x2 y2 1 = 0
  · right
    obtain ⟨rfl, rfl⟩ := z_zero h1 h2 hz
    refine ⟨?_, fun h0 => ?_⟩
    · rw [cX_eq]; grind -lia -linarith
    · rw [cY_eq] at h0
      exact y_id x2 y1 h1 (by grind -lia -linarith)
  · exact Or.inl hz
theorem sum_on {x1 y1 x2 y2 : K} (h1 : y1 * y1 = x1 * x1 * x1 + 7) (h2 : y2 * y2 = x2 * x2 * x2 + 7) :
    cY x1 y1 1 x2 y2 1 * cY x1 y1 1 x2 y2 1 * cZ x1 y1 1 x2 y2 1 = cX x1 y1 1 x2 y2 1 * cX x1 y1 1 x2 y2 1 * cX x1 y1 1 x2 y2 1 + 7 * (cZ x1 y1 1 x2 y2 1 * cZ x1 y1 1 x2 y2 1 * cZ x1 y1 1 x2 y2 1) := by
  have eX : cX x1 y1 1 x2 y2 1 = x1*x2*x2*x2*y1 + x2*x1*x1*x1*y2 - 14*x1*y1 - 14*x2*y2 - 42*x1*y2 - 42*x2*y1 := by rw [cX_eq]; grind -lia -linarith
  have eY : cY x1 y1 1 x2 y2 1 = x1*x1*x1*x2*x2*x2 + 7*x1*x1*x1+7*x2*x2*x2 - 392 + 63*x1*x1*x2+63*x1*x2*x2 := by rw [cY_eq]; grind -lia -linarith
  have eZ : cZ x1 y1 1 x2 y2 1 = x1*x1*x1*y2 + 28*y2+28*y1+x2*x2*x2*y1+3*x1*x1*x2*y2+3*x1*x2*x2*y1 := by rw [cZ_eq]; grind -lia -linarith
  rw [eX, eY, eZ]
  clear eX eY eZ
  grind -lia -linarith
theorem nm_on {X Y Z : K} (h : Y * Y * Z = X * X * X + 7 * (Z * Z * Z)) : onC (nm X Y Z) := by
  unfold nm
  split
  · trivial
  · rename_i hz
    have h1 := mul_kinv hz
    generalize kinv Z = u at *
    show (Y * u) * (Y * u) = (X * u) * (X * u) * (X * u) + 7
    have e : (Y * u) * (Y * u) = (Y * Y * Z) * (u * u * u) := by grind -lia -linarith
    rw [e, h]; grind -lia -linarith
theorem padd_on {p q : Pt} (hp : onC p) (hq : onC q) : onC (padd p q) := by
  cases p with
  | O => exact hq
  | A x1 y1 => cases q with
    | O => exact hp
    | A x2 y2 => exact nm_on (sum_on hp hq)
theorem padd_comm (p q : Pt) : padd p q = padd q p := by
  cases p with
  | O => cases q <;> rfl
  | A x1 y1 => cases q with
    | O => rfl
    | A x2 y2 =>
      have eX : cX x1 y1 1 x2 y2 1 = cX x2 y2 1 x1 y1 1 := by rw [cX_eq, cX_eq]; grind -lia -linarith
      have eY : cY x1 y1 1 x2 y2 1 = cY x2 y2 1 x1 y1 1 := by rw [cY_eq, cY_eq]; grind -lia -linarith
      have eZ : cZ x1 y1 1 x2 y2 1 = cZ x2 y2 1 x1 y1 1 := by rw [cZ_eq, cZ_eq]; grind -lia -linarith
      simp only [padd, eX, eY, eZ]
theorem padd_zero (p : Pt) : padd p .O = p := by cases p <;> rfl
theorem zero_padd (p : Pt) : padd .O p = p := rfl
theorem padd_neg {p : Pt} : padd p (pneg p) = .O := by
  cases p with
  | O => rfl
  | A x y =>
    have eZ : cZ x y 1 x (-y) 1 = 0 := by rw [cZ_eq]; grind -lia -linarith
    simp only [pneg, padd, nm, eZ, if_true]
theorem pneg_on {p : Pt} (hp : onC p) : onC (pneg p) := by
  cases p with
  | O => trivial
  | A x y => show (-y) * (-y) = x * x * x + 7; have : y * y = x * x * x + 7 := hp; grind -lia -linarith
/-- a fraction and a point -/
theorem nm_padd {X Y Z x y : K} (ht : okT X Y Z) (hq : y * y = x * x * x + 7) (hp : onC (nm X Y Z)) :
    padd (nm X Y Z) (.A x y) = nm (cX X Y Z x y 1) (cY X Y Z x y 1) (cZ X Y Z x y 1) ∧ okT (cX X Y Z x y 1) (cY X Y Z x y 1) (cZ X Y Z x y 1) := by
  by_cases hz : Z = 0
  · obtain ⟨hX, hY⟩ := ht.resolve_left (by simpa using hz)
    subst hz hX
    have hy := y_ne hq
    have hs : Y * Y * y ≠ 0 := fun h => (mul_zero' h).elim (fun h => (mul_zero' h).elim hY hY) hy
    have eX : cX 0 Y 0 x y 1 = (Y * Y * y) * x := by rw [cX_eq]; grind -lia -linarith
    have eY : cY 0 Y 0 x y 1 = (Y * Y * y) * y := by rw [cY_eq]; grind -lia -linarith
    have eZ : cZ 0 Y 0 x y 1 = (Y * Y * y) * 1 := by rw [cZ_eq]; grind -lia -linarith
    rw [eX, eY, eZ, nm_scale hs]
    constructor
    · have h0 : nm 0 Y 0 = .O := by unfold nm; rw [if_pos rfl]
      have h1 : nm x y 1 = .A x y := by
        unfold nm
        rw [if_neg (by decide)]
        have h1 := mul_kinv (show (1 : K) ≠ 0 by decide)
        generalize kinv (1 : K) = u at *
        congr 1
        · grind -lia -linarith
        · grind -lia -linarith
      rw [h0, h1]; rfl
    · left
      intro h; exact hs (by grind -lia -linarith)
  · have hN : nm X Y Z = .A (X * kinv Z) (Y * kinv Z) := by unfold nm; rw [if_neg hz]
    rw [hN] at hp ⊢
    have h1 := mul_kinv hz
    have hp' : (Y * kinv Z) * (Y * kinv Z) = (X * kinv Z) * (X * kinv Z) * (X * kinv Z) + 7 := hp
    have hok := sum_ok hp' hq
    generalize kinv Z = u at *
    have eX : cX X Y Z x y 1 = (Z * Z) * cX (X * u) (Y * u) 1 x y 1 := by rw [cX_eq, cX_eq]; grind -lia -linarith
    have eY : cY X Y Z x y 1 = (Z * Z) * cY (X * u) (Y * u) 1 x y 1 := by rw [cY_eq, cY_eq]; grind -lia -linarith
    have eZ : cZ X Y Z x y 1 = (Z * Z) * cZ (X * u) (Y * u) 1 x y 1 := by rw [cZ_eq, cZ_eq]; grind -lia -linarith
    have hzz : Z * Z ≠ 0 := fun h => (mul_zero' h).elim hz hz
    rw [eX, eY, eZ, nm_scale hzz]
    refine ⟨rfl, ?_⟩
    rcases hok with h | ⟨h2, h3⟩
    · exact Or.inl fun h' => (mul_zero' h').elim hzz h
    · exact Or.inr ⟨by rw [h2]; grind -lia -linarith, fun h' => (mul_zero' h').elim hzz h3⟩
theorem nm_same {X Y Z X' Y' Z' : K} (h : okT X Y Z) (h' : okT X' Y' Z') (e1 : X * Z' = X' * Z) (e2 : Y * Z' = Y' * Z) : nm X Y Z = nm X' Y' Z' := by
  by_cases hz : Z = 0
  · obtain ⟨hX, hY⟩ := h.resolve_left (by simpa using hz)
    subst hz
    have : Y * Z' = 0 := by rw [e2]; grind -lia -linarith
    have hz' := (mul_zero' this).resolve_left hY
    unfold nm
    rw [if_pos rfl, if_pos hz']
  · by_cases hz' : Z' = 0
    · obtain ⟨hX, hY⟩ := h'.resolve_left (by simpa using hz')
      subst hz'
      exfalso
      have : Y' * Z = 0 := by rw [← e2]; grind -lia -linarith
      exact (mul_zero' this).elim hY hz
    · unfold nm
      rw [if_neg hz, if_neg hz']
      have h1 := mul_kinv hz
      have h2 := mul_kinv hz'
      generalize kinv Z = u at *
      generalize kinv Z' = v at *
      congr 1
      · refine cancelK hz (cancelK hz' ?_); grind -lia -linarith
      · refine cancelK hz (cancelK hz' ?_); grind -lia -linarith
theorem padd_assoc {p q r : Pt} (hp : onC p) (hq : onC q) (hr : onC r) : padd (padd p q) r = padd p (padd q r) := by
  cases p with
  | O => rfl
  | A x1 y1 => cases q with
    | O => cases r <;> rfl
    | A x2 y2 => cases r with
      | O => rw [padd_zero, padd_zero]
      | A x3 y3 =>
        have h1 : y1 * y1 = x1 * x1 * x1 + 7 := hp
        have h2 : y2 * y2 = x2 * x2 * x2 + 7 := hq
        have h3 : y3 * y3 = x3 * x3 * x3 + 7 := hr
        have hA := nm_padd (sum_ok h1 h2) h3 (nm_on (sum_on h1 h2))
        have hB := nm_padd (sum_ok h2 h3) h1 (nm_on (sum_on h2 h3))
        have hass := assoc x1 x2 x3 y1 y2 y3 h1 h2 h3
        rw [padd_comm (.A x1 y1) (padd _ _)]
        show padd (nm _ _ _) (.A x3 y3) = padd (nm _ _ _) (.A x1 y1)
        rw [hA.1, hB.1]
        have swX : ∀ X Y Z : K, cX X Y Z x1 y1 1 = cX x1 y1 1 X Y Z := fun X Y Z => by rw [cX_eq, cX_eq]; grind -lia -linarith
        have swY : ∀ X Y Z : K, cY X Y Z x1 y1 1 = cY x1 y1 1 X Y Z := fun X Y Z => by rw [cY_eq, cY_eq]; grind -lia -linarith
        have swZ : ∀ X Y Z : K, cZ X Y Z x1 y1 1 = cZ x1 y1 1 X Y Z := fun X Y Z => by rw [cZ_eq, cZ_eq]; grind -lia -linarith
        have hB2 := hB.2
        rw [swX, swY, swZ] at hB2 ⊢
        exact nm_same hA.2 hB2 hass.1 hass.2
end Mvq

/- Chord and tangent; the program's sum and double (X / Z^2, Y / Z^3); the reference's (X / Z, Y / Z); multiples. -/
namespace Mvq
/-- the chord -/
theorem chord4 {x1 y1 x2 y2 : K} (h1 : y1 * y1 = x1 * x1 * x1 + 7) (h2 : y2 * y2 = x2 * x2 * x2 + 7) : (x1*x2*(x1+x2) + 14 - 2*y1*y2) = (y2 - y1) * (y2 - y1) - (x1 + x2) * ((x2 - x1) * (x2 - x1)) := by
  grind -lia -linarith
theorem chordY {x1 y1 x2 y2 : K} (h1 : y1 * y1 = x1 * x1 * x1 + 7) (h2 : y2 * y2 = x2 * x2 * x2 + 7) : cY x1 y1 1 x2 y2 1 * ((x2 - x1) * (x2 - x1) * (x2 - x1)) = ((y2 - y1) * (x1 * ((x2 - x1) * (x2 - x1)) - (x1*x2*(x1+x2) + 14 - 2*y1*y2)) - y1 * ((x2 - x1) * (x2 - x1) * (x2 - x1))) * cZ x1 y1 1 x2 y2 1 := by
  have eY : cY x1 y1 1 x2 y2 1 = x1*x1*x1*x2*x2*x2 + 7*x1*x1*x1+7*x2*x2*x2 - 392 + 63*x1*x1*x2+63*x1*x2*x2 := by rw [cY_eq]; grind -lia -linarith
  have eZ : cZ x1 y1 1 x2 y2 1 = x1*x1*x1*y2 + 28*y2+28*y1+x2*x2*x2*y1+3*x1*x1*x2*y2+3*x1*x2*x2*y1 := by rw [cZ_eq]; grind -lia -linarith
  rw [eY, eZ]
  clear eY eZ
  grind -lia -linarith
theorem padd_chord {x1 y1 x2 y2 u : K} (h1 : y1 * y1 = x1 * x1 * x1 + 7) (h2 : y2 * y2 = x2 * x2 * x2 + 7) (hd : (x2 - x1) * u = 1) :
    padd (.A x1 y1) (.A x2 y2) = .A (((y2 - y1) * u) * ((y2 - y1) * u) - x1 - x2) (((y2 - y1) * u) * (x1 - (((y2 - y1) * u) * ((y2 - y1) * u) - x1 - x2)) - y1) := by
  have hz : cZ x1 y1 1 x2 y2 1 ≠ 0 := fun h => by
    obtain ⟨rfl, -⟩ := z_zero h1 h2 h
    have : (0 : K) = 1 := by rw [← hd]; grind -lia -linarith
    exact absurd this (by decide)
  show nm _ _ _ = _
  have hd0 : x2 - x1 ≠ 0 := fun h => by
    rw [h] at hd
    have : (0 : K) = 1 := by rw [← hd]; grind -lia -linarith
    exact absurd this (by decide)
  have eX : cX x1 y1 1 x2 y2 1 * ((x2 - x1) * (x2 - x1)) = (x1*x2*(x1+x2) + 14 - 2*y1*y2) * cZ x1 y1 1 x2 y2 1 := by
    rw [cX_eq, cZ_eq]; grind -lia -linarith
  have e4 : (x1*x2*(x1+x2) + 14 - 2*y1*y2) = (y2 - y1) * (y2 - y1) - (x1 + x2) * ((x2 - x1) * (x2 - x1)) := chord4 h1 h2
  have eY := chordY h1 h2
  rw [e4] at eX eY
  unfold nm
  rw [if_neg hz]
  have hv := mul_kinv hz
  generalize kinv (cZ x1 y1 1 x2 y2 1) = v at *
  generalize cX x1 y1 1 x2 y2 1 = X at *
  generalize cY x1 y1 1 x2 y2 1 = Y at *
  generalize cZ x1 y1 1 x2 y2 1 = Z at *
  clear h1 h2 e4
  generalize hdd : x2 - x1 = d at *
  generalize y2 - y1 = n at *
  have hx2 : x2 = x1 + d := by rw [← hdd]; grind -lia -linarith
  subst hx2
  clear hdd
  congr 1
  · refine cancelK hd0 (cancelK hd0 (cancelK hz ?_)); grind -lia -linarith
  · refine cancelK hd0 (cancelK hd0 (cancelK hd0 (cancelK hz ?_))); grind -lia -linarith
/-- the tangent -/
theorem padd_tangent {x y u : K} (h : y * y = x * x * x + 7) (hd : (2 * y) * u = 1) :
    padd (.A x y) (.A x y) = .A ((3 * x * x * u) * (3 * x * x * u) - x - x) ((3 * x * x * u) * (x - ((3 * x * x * u) * (3 * x * x * u) - x - x)) - y) := by
  have hy := y_ne h
  have h2y : (2 : K) * y ≠ 0 := fun h => (mul_zero' h).elim two_ne hy
  have eZ : cZ x y 1 x y 1 = (2 * y) * (2 * y) * (2 * y) := by rw [cZ_eq]; grind -lia -linarith
  have eX : cX x y 1 x y 1 = (2 * y) * (9 * x * x * x * x - 2 * x * ((2 * y) * (2 * y))) := by rw [cX_eq]; grind -lia -linarith
  have eY : cY x y 1 x y 1 = 3 * x * x * (x * ((2 * y) * (2 * y)) - (9 * x * x * x * x - 2 * x * ((2 * y) * (2 * y)))) - y * ((2 * y) * (2 * y) * (2 * y)) := by rw [cY_eq]; grind -lia -linarith
  show nm _ _ _ = _
  have hz : cZ x y 1 x y 1 ≠ 0 := by
    rw [eZ]; exact fun h => (mul_zero' h).elim (fun h => (mul_zero' h).elim h2y h2y) h2y
  unfold nm
  rw [if_neg hz]
  have hv := mul_kinv hz
  generalize kinv (cZ x y 1 x y 1) = v at *
  rw [eX, eY]
  rw [eZ] at hv
  clear eX eY eZ hz h
  generalize h2 : 2 * y = t at *
  congr 1
  · refine cancelK h2y (cancelK h2y ?_); grind -lia -linarith
  · refine cancelK h2y (cancelK h2y (cancelK h2y ?_)); grind -lia -linarith
/-- a point as X / Z^2, Y / Z^3 -/
def jk (X Y Z : K) : Pt := if Z = 0 then .O else .A (X * (kinv Z * kinv Z)) (Y * (kinv Z * kinv Z * kinv Z))
theorem jk_nz {X Y Z : K} (hz : Z ≠ 0) : jk X Y Z = .A (X * (kinv Z * kinv Z)) (Y * (kinv Z * kinv Z * kinv Z)) := by unfold jk; rw [if_neg hz]
theorem jk_z {X Y Z : K} (hz : Z = 0) : jk X Y Z = .O := by unfold jk; rw [if_pos hz]
/-- what is told by a point is told by it -/
theorem jk_is {X Y Z x y : K} (hz : Z ≠ 0) (hx : X = x * (Z * Z)) (hy : Y = y * (Z * Z * Z)) : jk X Y Z = .A x y := by
  rw [jk_nz hz]
  have h1 := mul_kinv hz
  generalize kinv Z = u at *
  subst hx hy
  congr 1
  · grind -lia -linarith
  · grind -lia -linarith
theorem jk_form {X Y Z : K} (hz : Z ≠ 0) (h : onC (jk X Y Z)) : ∃ x y, jk X Y Z = .A x y ∧ y * y = x * x * x + 7 ∧ X = x * (Z * Z) ∧ Y = y * (Z * Z * Z) := by
  refine ⟨_, _, jk_nz hz, ?_, ?_, ?_⟩
  · rw [jk_nz hz] at h; exact h
  · have h1 := mul_kinv hz
    generalize kinv Z = u at *
    grind -lia -linarith
  · have h1 := mul_kinv hz
    generalize kinv Z = u at *
    grind -lia -linarith
theorem jk_double {X Y Z : K} (h : onC (jk X Y Z)) (hz : Z ≠ 0) (a b bb d e x' : K) (ha : a = X * X) (hb : b = Y * Y) (hbb : bb = b * b) (hd : d = 2 * ((X + b) * (X + b) - (a + bb))) (he : e = 3 * a) (hx : x' = e * e - (d + d)) :
    jk x' (e * (d - x') - 8 * bb) (2 * (Y * Z)) = padd (jk X Y Z) (jk X Y Z) := by
  obtain ⟨x, y, e0, hon, hX, hY⟩ := jk_form hz h
  have hy := y_ne hon
  have h2y : (2 : K) * y ≠ 0 := fun h => (mul_zero' h).elim two_ne hy
  have hu := mul_kinv h2y
  rw [e0, padd_tangent hon hu]
  generalize kinv (2 * y) = u at *
  have hz4 : Z * Z * (Z * Z) ≠ 0 := fun h => (mul_zero' h).elim (fun h => (mul_zero' h).elim hz hz) (fun h => (mul_zero' h).elim hz hz)
  have eZ : 2 * (Y * Z) = (2 * y) * (Z * Z * (Z * Z)) := by rw [hY]; grind -lia -linarith
  refine jk_is (by rw [eZ]; exact fun h => (mul_zero' h).elim h2y hz4) ?_ ?_
  · rw [eZ]; subst hx he hd hbb hb ha hX hY; clear e0 h hon hz4 h2y hy eZ hz
    grind -lia -linarith
  · rw [eZ]; subst hx he hd hbb hb ha hX hY; clear e0 h hon hz4 h2y hy eZ hz
    grind -lia -linarith
theorem jk_plus {X1 Y1 Z1 X2 Y2 Z2 : K} (hp : onC (jk X1 Y1 Z1)) (hq : onC (jk X2 Y2 Z2)) (hz1 : Z1 ≠ 0) (hz2 : Z2 ≠ 0) (u1 u2 s1 s2 h r hh hhh v x : K) (e1 : u1 = X1 * (Z2 * Z2)) (e2 : u2 = X2 * (Z1 * Z1)) (e3 : s1 = Y1 * (Z2 * Z2 * Z2)) (e4 : s2 = Y2 * (Z1 * Z1 * Z1))
    (eh : h = u2 - u1) (er : r = s2 - s1) (hn : h ≠ 0) (ehh : hh = h * h) (ehhh : hhh = hh * h) (ev : v = u1 * hh) (ex : x = r * r - (hhh + (v + v))) :
    jk x (r * (v - x) - s1 * hhh) (h * (Z1 * Z2)) = padd (jk X1 Y1 Z1) (jk X2 Y2 Z2) := by
  obtain ⟨x1, y1, f1, o1, hX1, hY1⟩ := jk_form hz1 hp
  obtain ⟨x2, y2, f2, o2, hX2, hY2⟩ := jk_form hz2 hq
  have hzz : Z1 * Z2 ≠ 0 := fun h => (mul_zero' h).elim hz1 hz2
  have ehd : h = (x2 - x1) * ((Z1 * Z2) * (Z1 * Z2)) := by rw [eh, e1, e2, hX1, hX2]; grind -lia -linarith
  have erd : r = (y2 - y1) * ((Z1 * Z2) * (Z1 * Z2) * (Z1 * Z2)) := by rw [er, e3, e4, hY1, hY2]; grind -lia -linarith
  have eu : u1 = x1 * ((Z1 * Z2) * (Z1 * Z2)) := by rw [e1, hX1]; grind -lia -linarith
  have es : s1 = y1 * ((Z1 * Z2) * (Z1 * Z2) * (Z1 * Z2)) := by rw [e3, hY1]; grind -lia -linarith
  have hd0 : x2 - x1 ≠ 0 := fun hh => hn (by rw [ehd, hh]; grind -lia -linarith)
  have hu := mul_kinv hd0
  rw [f1, f2, padd_chord o1 o2 hu]
  generalize kinv (x2 - x1) = u at *
  refine jk_is (fun hh => (mul_zero' hh).elim hn hzz) ?_ ?_
  · subst ex ev ehhh ehh
    rw [erd, eu, ehd]
    clear e1 e2 e3 e4 eh er hn erd eu es ehd hX1 hX2 hY1 hY2 f1 f2 o1 o2 hp hq hz1 hz2 hd0
    generalize Z1 * Z2 = z at *
    generalize hdd : x2 - x1 = d at *
    have hx2 : x2 = x1 + d := by rw [← hdd]; grind -lia -linarith
    subst hx2; clear hdd
    generalize y2 - y1 = n at *
    grind -lia -linarith
  · subst ex ev ehhh ehh
    rw [erd, eu, ehd, es]
    clear e1 e2 e3 e4 eh er hn erd eu es ehd hX1 hX2 hY1 hY2 f1 f2 o1 o2 hp hq hz1 hz2 hd0
    generalize Z1 * Z2 = z at *
    generalize hdd : x2 - x1 = d at *
    have hx2 : x2 = x1 + d := by rw [← hdd]; grind -lia -linarith
    subst hx2; clear hdd
    generalize y2 - y1 = n at *
    grind -lia -linarith
/-- equal first coordinates -/
theorem jk_same {X1 Y1 Z1 X2 Y2 Z2 : K} (hp : onC (jk X1 Y1 Z1)) (hq : onC (jk X2 Y2 Z2)) (hz1 : Z1 ≠ 0) (hz2 : Z2 ≠ 0) (h : X2 * (Z1 * Z1) - X1 * (Z2 * Z2) = 0) :
    (Y2 * (Z1 * Z1 * Z1) - Y1 * (Z2 * Z2 * Z2) = 0 → jk X2 Y2 Z2 = jk X1 Y1 Z1) ∧ (Y2 * (Z1 * Z1 * Z1) - Y1 * (Z2 * Z2 * Z2) ≠ 0 → padd (jk X1 Y1 Z1) (jk X2 Y2 Z2) = .O) := by
  obtain ⟨x1, y1, f1, o1, hX1, hY1⟩ := jk_form hz1 hp
  obtain ⟨x2, y2, f2, o2, hX2, hY2⟩ := jk_form hz2 hq
  have hzz : Z1 * Z2 ≠ 0 := fun h => (mul_zero' h).elim hz1 hz2
  have hx : x2 = x1 := by
    refine cancelK hzz (cancelK hzz ?_)
    rw [hX1, hX2] at h; grind -lia -linarith
  subst hx
  have hyy : (y2 - y1) * (y2 + y1) = 0 := by grind -lia -linarith
  refine ⟨fun hy => ?_, fun hy => ?_⟩
  · have : y2 = y1 := by
      refine cancelK hzz (cancelK hzz (cancelK hzz ?_))
      rw [hY1, hY2] at hy; grind -lia -linarith
    rw [f1, f2, this]
  · rcases mul_zero' hyy with h1 | h1
    · exfalso
      refine hy ?_
      have e : y2 = y1 := by grind -lia -linarith
      rw [hY1, hY2, e]; grind -lia -linarith
    · have e : y2 = -y1 := by grind -lia -linarith
      rw [f1, f2, e]
      exact padd_neg (p := .A x2 y1)
/-- so many times a point -/
def pmul : Nat → Pt → Pt
  | 0, _ => .O
  | n + 1, p => padd (pmul n p) p
theorem pmul_on {p : Pt} (hp : onC p) : ∀ n, onC (pmul n p)
  | 0 => trivial
  | n + 1 => padd_on (pmul_on hp n) hp
theorem pmul_add {p : Pt} (hp : onC p) (m : Nat) : ∀ n, pmul (m + n) p = padd (pmul m p) (pmul n p)
  | 0 => (padd_zero _).symm
  | n + 1 => by
    show padd (pmul (m + n) p) p = padd (pmul m p) (padd (pmul n p) p)
    rw [pmul_add hp m n, padd_assoc (pmul_on hp m) (pmul_on hp n) hp]
theorem pmul_mul {p : Pt} (hp : onC p) (m : Nat) : ∀ n, pmul (m * n) p = pmul n (pmul m p)
  | 0 => rfl
  | n + 1 => by
    rw [Nat.mul_succ, pmul_add hp, pmul_mul hp m n]; rfl
theorem pmul_O : ∀ n, pmul n .O = .O
  | 0 => rfl
  | n + 1 => by rw [pmul, pmul_O n]; rfl
theorem pmul_dist {p q : Pt} (hp : onC p) (hq : onC q) : ∀ n, pmul n (padd p q) = padd (pmul n p) (pmul n q)
  | 0 => rfl
  | n + 1 => by
    have h1 := pmul_on hp n
    have h2 := pmul_on hq n
    simp only [pmul]
    rw [pmul_dist hp hq n, padd_assoc h1 h2 (padd_on hp hq), padd_assoc h1 hp (padd_on h2 hq), ← padd_assoc h2 hp hq, padd_comm (pmul n q) p, padd_assoc hp h2 hq]
end Mvq

/- Plain numbers: a number as words of 64 bits; sums, differences and products word by word. -/
namespace Mvp

/-- 2^64 -/
abbrev B64 : Nat := 18446744073709551616
/-- the i-th word -/
def lw (a i : Nat) : Nat := a / B64 ^ i % B64
def limbs (n a : Nat) : List Nat := (List.range n).map (lw a)
/-- the k lowest words of A, above them those of B -/
def mix (A B k : Nat) : Nat := A % B64 ^ k + B / B64 ^ k * B64 ^ k

theorem b64_pos (k : Nat) : 0 < B64 ^ k := Nat.pow_pos (by decide)
theorem lw_lt (a i : Nat) : lw a i < 18446744073709551616 := Nat.mod_lt _ (by decide)
theorem limbs_length (n a : Nat) : (limbs n a).length = n := by simp [limbs]
theorem limbs_get (n a i : Nat) (h : i < n) : (limbs n a)[i]? = some (lw a i) := by simp [limbs, h]
theorem limbs4 (a : Nat) : limbs 4 a = [lw a 0, lw a 1, lw a 2, lw a 3] := rfl

theorem lw_mod (a i k : Nat) (h : i < k) : lw (a % B64 ^ k) i = lw a i := by
  unfold lw
  obtain ⟨j, rfl⟩ : ∃ j, k = i + (1 + j) := ⟨k - i - 1, by omega⟩
  rw [Nat.pow_add, Nat.mod_mul_right_div_self, Nat.pow_add, Nat.pow_one, Nat.mod_mul_right_mod]
theorem lw_div (a k i : Nat) : lw (a / B64 ^ k) i = lw a (k + i) := by
  unfold lw
  rw [Nat.div_div_eq_div_mul, ← Nat.pow_add]
theorem mix_mod (A B k : Nat) : mix A B k % B64 ^ k = A % B64 ^ k := by
  unfold mix
  rw [Nat.add_mul_mod_self_right, Nat.mod_mod]
theorem mix_div (A B k : Nat) : mix A B k / B64 ^ k = B / B64 ^ k := by
  unfold mix
  rw [Nat.add_mul_div_right _ _ (b64_pos k), Nat.div_eq_of_lt (Nat.mod_lt _ (b64_pos k)), Nat.zero_add]
theorem lw_mix (A B k i : Nat) : lw (mix A B k) i = if i < k then lw A i else lw B i := by
  split
  · rename_i h
    rw [← lw_mod _ i k h, mix_mod, lw_mod _ i k h]
  · rename_i h
    obtain ⟨j, rfl⟩ : ∃ j, i = k + j := ⟨i - k, by omega⟩
    rw [← lw_div, ← lw_div, mix_div]
theorem limbs_ext {n a b : Nat} (h : ∀ i, i < n → lw a i = lw b i) : limbs n a = limbs n b := by
  unfold limbs
  apply List.map_congr_left
  intro i hi
  exact h i (List.mem_range.1 hi)
theorem limbs_set (n A B k : Nat) (h : k < n) : (limbs n (mix A B k)).set k (lw A k) = limbs n (mix A B (k + 1)) := by
  have _h := h
  apply List.ext_getElem?
  intro i
  rw [List.getElem?_set]
  rcases Nat.lt_or_ge i n with hi | hi
  · rw [limbs_get _ _ _ hi, limbs_get _ _ _ hi, lw_mix, lw_mix, limbs_length]
    by_cases e : k = i
    · subst e; simp [h]
    · rw [if_neg e]
      congr 1
      by_cases h2 : i < k
      · rw [if_pos h2, if_pos (by omega)]
      · rw [if_neg h2, if_neg (by omega)]
  · rw [List.getElem?_eq_none (by rw [limbs_length]; exact hi), List.getElem?_eq_none (by rw [limbs_length]; exact hi)]
    split
    · rw [limbs_length, if_neg (by omega)]
    · rfl
theorem mix_zero (A B : Nat) : mix A B 0 = B := by simp [mix, Nat.mod_one]
theorem mix_all (A B k : Nat) (ha : A < B64 ^ k) (hb : B < B64 ^ k) : mix A B k = A := by
  unfold mix
  rw [Nat.mod_eq_of_lt ha, Nat.div_eq_of_lt hb, Nat.zero_mul, Nat.add_zero]
theorem mix_top (A B k : Nat) (h : B < B64 ^ k) : mix A B k = A % B64 ^ k := by
  unfold mix
  rw [Nat.div_eq_of_lt h, Nat.zero_mul, Nat.add_zero]
theorem limbs_mod (n a : Nat) : limbs n (a % B64 ^ n) = limbs n a := limbs_ext fun i hi => lw_mod a i n hi
theorem mod_succ (a k : Nat) : a % B64 ^ (k + 1) = a % B64 ^ k + B64 ^ k * lw a k := by
  unfold lw
  rw [Nat.pow_succ, Nat.mod_mul]
/-- numbers of n words are the same if their words are -/
theorem limbs_mod_inj {n a b : Nat} (h : limbs n a = limbs n b) : a % B64 ^ n = b % B64 ^ n := by
  have hw : ∀ i, i < n → lw a i = lw b i := fun i hi => by
    have h1 := limbs_get n a i hi
    rw [h, limbs_get n b i hi] at h1
    exact (Option.some.inj h1).symm
  clear h
  induction n with
  | zero => simp [Nat.mod_one]
  | succ k ih => rw [mod_succ, mod_succ, ih (fun i hi => hw i (by omega)), hw k (by omega)]
/-- the carry behind k words of a sum -/
def cAdd (a b k : Nat) : Nat := (a % B64 ^ k + b % B64 ^ k) / B64 ^ k
theorem cAdd_zero (a b : Nat) : cAdd a b 0 = 0 := by simp [cAdd, Nat.mod_one]
theorem cAdd_le (a b k : Nat) : cAdd a b k ≤ 1 := by
  unfold cAdd
  have h := b64_pos k
  have h1 := Nat.mod_lt a h
  have h2 := Nat.mod_lt b h
  generalize B64 ^ k = W at *
  exact Nat.le_of_lt_succ (Nat.div_lt_of_lt_mul (by omega))
theorem cAdd_succ (a b k : Nat) : cAdd a b (k + 1) = (lw a k + lw b k + cAdd a b k) / 18446744073709551616 := by
  unfold cAdd
  rw [mod_succ, mod_succ, Nat.pow_succ, ← Nat.div_div_eq_div_mul]
  congr 1
  have e : a % B64 ^ k + B64 ^ k * lw a k + (b % B64 ^ k + B64 ^ k * lw b k) = (a % B64 ^ k + b % B64 ^ k) + B64 ^ k * (lw a k + lw b k) := by rw [Nat.mul_add]; omega
  rw [e, Nat.add_mul_div_left _ _ (b64_pos k)]
  omega
theorem lw_add (a b k : Nat) : lw (a + b) k = (lw a k + lw b k + cAdd a b k) % 18446744073709551616 := by
  unfold lw cAdd
  have h := b64_pos k
  have e : a + b = (a % B64 ^ k + b % B64 ^ k) + B64 ^ k * (a / B64 ^ k + b / B64 ^ k) := by
    have h1 := Nat.div_add_mod a (B64 ^ k)
    have h2 := Nat.div_add_mod b (B64 ^ k)
    rw [Nat.mul_add]; omega
  have e2 : (a + b) / B64 ^ k = (a % B64 ^ k + b % B64 ^ k) / B64 ^ k + (a / B64 ^ k + b / B64 ^ k) := by
    conv => lhs; rw [e]
    rw [Nat.add_mul_div_left _ _ h]
  rw [e2]
  generalize (a % B64 ^ k + b % B64 ^ k) / B64 ^ k = x
  generalize a / B64 ^ k = y
  generalize b / B64 ^ k = z
  show (x + (y + z)) % 18446744073709551616 = (y % 18446744073709551616 + z % 18446744073709551616 + x) % 18446744073709551616
  omega
theorem cAdd_all (a b k : Nat) (ha : a < B64 ^ k) (hb : b < B64 ^ k) : cAdd a b k = (a + b) / B64 ^ k := by
  unfold cAdd; rw [Nat.mod_eq_of_lt ha, Nat.mod_eq_of_lt hb]

/-- the borrow behind k words of a difference -/
def cSub (a b k : Nat) : Nat := if a % B64 ^ k < b % B64 ^ k then 1 else 0
theorem cSub_zero (a b : Nat) : cSub a b 0 = 0 := by simp [cSub, Nat.mod_one]
theorem cSub_le (a b k : Nat) : cSub a b k ≤ 1 := by unfold cSub; split <;> omega
theorem cSub_succ (a b k : Nat) : cSub a b (k + 1) = if lw a k < lw b k + cSub a b k then 1 else 0 := by
  unfold cSub
  rw [mod_succ, mod_succ]
  have h := b64_pos k
  have h1 := Nat.mod_lt a h
  have h2 := Nat.mod_lt b h
  generalize lw a k = x
  generalize lw b k = y
  generalize a % B64 ^ k = p at *
  generalize b % B64 ^ k = q at *
  generalize B64 ^ k = W at *
  rcases Nat.lt_trichotomy x y with hxy | hxy | hxy
  · obtain ⟨d, rfl⟩ : ∃ d, y = x + 1 + d := ⟨y - x - 1, by omega⟩
    have e : W * (x + 1 + d) = W * x + W + W * d := by rw [Nat.mul_add, Nat.mul_add, Nat.mul_one]
    rw [e]
    rw [if_pos (by omega), if_pos (by omega)]
  · subst hxy
    by_cases hpq : p < q
    · rw [if_pos hpq, if_pos (by omega), if_pos (by omega)]
    · rw [if_neg hpq, if_neg (by omega), if_neg (by omega)]
  · obtain ⟨d, rfl⟩ : ∃ d, x = y + 1 + d := ⟨x - y - 1, by omega⟩
    have e : W * (y + 1 + d) = W * y + W + W * d := by rw [Nat.mul_add, Nat.mul_add, Nat.mul_one]
    rw [e]
    rw [if_neg (by omega), if_neg (by split <;> omega)]
/-- a difference of n words: D = a + 2^(64 n) - b -/
theorem lw_sub (n a b k : Nat) (hb : b < B64 ^ n) (hk : k < n) : lw (a + B64 ^ n - b) k = (lw a k + 18446744073709551616 - lw b k - cSub a b k) % 18446744073709551616 := by
  obtain ⟨j, rfl⟩ : ∃ j, n = k + (1 + j) := ⟨n - k - 1, by omega⟩
  have hW := b64_pos k
  have hT := b64_pos j
  have hN : B64 ^ (k + (1 + j)) = B64 ^ k * (B64 * B64 ^ j) := by rw [Nat.pow_add, Nat.pow_add, Nat.pow_one]
  rw [hN] at hb ⊢
  have ha1 := Nat.div_add_mod a (B64 ^ k)
  have hb1 := Nat.div_add_mod b (B64 ^ k)
  have ha2 := Nat.mod_lt a hW
  have hb2 := Nat.mod_lt b hW
  have hbh : b / B64 ^ k < B64 * B64 ^ j := Nat.div_lt_of_lt_mul hb
  unfold lw cSub
  generalize a / B64 ^ k = x at *
  generalize b / B64 ^ k = y at *
  generalize a % B64 ^ k = p at *
  generalize b % B64 ^ k = q at *
  generalize B64 ^ j = T at *
  generalize B64 ^ k = W at *
  have hq : ∃ c, c ≤ 1 ∧ (c = if p < q then 1 else 0) ∧ p + c * W < q + W ∧ q ≤ p + c * W := by
    by_cases h : p < q
    · exact ⟨1, by omega, by rw [if_pos h], by omega, by omega⟩
    · exact ⟨0, by omega, by rw [if_neg h], by omega, by omega⟩
  obtain ⟨c, hc1, hc2, hc3, hc4⟩ := hq
  rw [← hc2]
  have hyc : y + c ≤ x + B64 * T := by omega
  have e : (a + W * (B64 * T) - b) / W = x + B64 * T - y - c := by
    have h1 : a + W * (B64 * T) - b = W * (x + B64 * T - y - c) + (p + c * W - q) := by
      have h2 : W * (x + B64 * T - y - c) + W * (y + c) = W * x + W * (B64 * T) := by
        rw [← Nat.mul_add, ← Nat.mul_add]; congr 1; omega
      have h3 : W * (y + c) = W * y + c * W := by rw [Nat.mul_add, Nat.mul_comm W c]
      generalize W * (x + B64 * T - y - c) = u at *
      generalize W * (B64 * T) = v at *
      generalize W * (y + c) = z at *
      omega
    rw [h1, Nat.mul_add_div hW, Nat.div_eq_of_lt (by omega), Nat.add_zero]
  rw [e]
  show (x + 18446744073709551616 * T - y - c) % 18446744073709551616 = (x % 18446744073709551616 + 18446744073709551616 - y % 18446744073709551616 - c) % 18446744073709551616
  have hyc' : y + c ≤ x + 18446744073709551616 * T := hyc
  omega
theorem cSub_all (a b k : Nat) (ha : a < B64 ^ k) (hb : b < B64 ^ k) : cSub a b k = if a < b then 1 else 0 := by
  unfold cSub; rw [Nat.mod_eq_of_lt ha, Nat.mod_eq_of_lt hb]

/-- the carry behind k words of L + x n -/
def cMul (L x n k : Nat) : Nat := (L % B64 ^ k + x * (n % B64 ^ k)) / B64 ^ k
theorem cMul_zero (L x n : Nat) : cMul L x n 0 = 0 := by simp [cMul, Nat.mod_one]
theorem cMul_lt (L x n k : Nat) (hx : x < 18446744073709551616) : cMul L x n k < 18446744073709551616 := by
  unfold cMul
  have h := b64_pos k
  have h1 := Nat.mod_lt L h
  have h2 := Nat.mod_lt n h
  have h3 : x * (n % B64 ^ k) ≤ 18446744073709551615 * (n % B64 ^ k) := Nat.mul_le_mul_right _ (by omega)
  generalize B64 ^ k = W at *
  refine Nat.div_lt_of_lt_mul ?_
  omega
theorem cMul_succ (L x n k : Nat) : cMul L x n (k + 1) = (lw L k + x * lw n k + cMul L x n k) / 18446744073709551616 := by
  unfold cMul
  rw [mod_succ, mod_succ, Nat.pow_succ, ← Nat.div_div_eq_div_mul]
  congr 1
  have e : L % B64 ^ k + B64 ^ k * lw L k + x * (n % B64 ^ k + B64 ^ k * lw n k) = (L % B64 ^ k + x * (n % B64 ^ k)) + B64 ^ k * (lw L k + x * lw n k) := by
    rw [Nat.mul_add, Nat.mul_add, Nat.mul_left_comm x]; omega
  rw [e, Nat.add_mul_div_left _ _ (b64_pos k)]
  omega
theorem lw_madd (L x n k : Nat) : lw (L + x * n) k = (lw L k + x * lw n k + cMul L x n k) % 18446744073709551616 := by
  unfold lw cMul
  have h := b64_pos k
  have e : L + x * n = (L % B64 ^ k + x * (n % B64 ^ k)) + B64 ^ k * (L / B64 ^ k + x * (n / B64 ^ k)) := by
    have h1 := Nat.div_add_mod L (B64 ^ k)
    have h2 := Nat.div_add_mod n (B64 ^ k)
    have h3 : x * n = x * (B64 ^ k * (n / B64 ^ k)) + x * (n % B64 ^ k) := by rw [← Nat.mul_add, h2]
    have h4 : x * (B64 ^ k * (n / B64 ^ k)) = B64 ^ k * (x * (n / B64 ^ k)) := Nat.mul_left_comm _ _ _
    rw [Nat.mul_add]; omega
  have e2 : (L + x * n) / B64 ^ k = (L % B64 ^ k + x * (n % B64 ^ k)) / B64 ^ k + (L / B64 ^ k + x * (n / B64 ^ k)) := by
    conv => lhs; rw [e]
    rw [Nat.add_mul_div_left _ _ h]
  rw [e2]
  generalize (L % B64 ^ k + x * (n % B64 ^ k)) / B64 ^ k = u
  generalize L / B64 ^ k = y
  generalize n / B64 ^ k = z
  show (u + (y + x * z)) % 18446744073709551616 = (y % 18446744073709551616 + x * (z % 18446744073709551616) + u) % 18446744073709551616
  have e3 : x * (z % 18446744073709551616) % 18446744073709551616 = x * z % 18446744073709551616 := Nat.mul_mod_mod _ _ _
  generalize x * (z % 18446744073709551616) = s at *
  generalize x * z = t at *
  omega
theorem cMul_all (L x n k : Nat) (hL : L < B64 ^ k) (hn : n < B64 ^ k) : cMul L x n k = (L + x * n) / B64 ^ k := by
  unfold cMul; rw [Nat.mod_eq_of_lt hL, Nat.mod_eq_of_lt hn]
/-- one round of a line: what is told by Mul64 and two times Add64 -/
theorem line_round (p t c : Nat) (hp : p ≤ 18446744073709551615 * 18446744073709551615) (hc : c < 18446744073709551616) :
    (t + (p % 18446744073709551616 + c) % 18446744073709551616) % 18446744073709551616 = (t + p + c) % 18446744073709551616 ∧
    p / 18446744073709551616 + (p % 18446744073709551616 + c) / 18446744073709551616 < 18446744073709551616 ∧
    p / 18446744073709551616 + (p % 18446744073709551616 + c) / 18446744073709551616 + (t + (p % 18446744073709551616 + c) % 18446744073709551616) / 18446744073709551616 = (t + p + c) / 18446744073709551616 := by
  omega
/-- the same with a name for each word -/
theorem line_names (p t c : Nat) (hp : p ≤ 18446744073709551615 * 18446744073709551615) (hc : c < 18446744073709551616) :
    ∃ hi lo lo2 c1 t2 c2 : Nat, p / 18446744073709551616 = hi ∧ p % 18446744073709551616 = lo ∧ (lo + c) % 18446744073709551616 = lo2 ∧ (lo + c) / 18446744073709551616 = c1 ∧ hi + c1 < 18446744073709551616 ∧
      (t + lo2) % 18446744073709551616 = t2 ∧ (t + lo2) / 18446744073709551616 = c2 ∧ t2 = (t + p + c) % 18446744073709551616 ∧ hi + c1 + c2 = (t + p + c) / 18446744073709551616 := by
  obtain ⟨h1, h2, h3⟩ := line_round p t c hp hc
  exact ⟨_, _, _, _, _, _, rfl, rfl, rfl, rfl, h2, rfl, rfl, h1, h3⟩
theorem word_mul_le {x y : Nat} (hx : x < 18446744073709551616) (hy : y < 18446744073709551616) : x * y ≤ 18446744073709551615 * 18446744073709551615 :=
  Nat.mul_le_mul (by omega) (by omega)

/- the words of a product that begins at word i -/
theorem lw_shift_lo (P Q i j : Nat) (h : j < i) : lw (P + B64 ^ i * Q) j = lw P j := by
  rw [← lw_mod _ j i h, Nat.add_mul_mod_self_left, lw_mod _ j i h]
theorem lw_shift_hi (P Q i k : Nat) : lw (P + B64 ^ i * Q) (i + k) = lw (P / B64 ^ i + Q) k := by
  rw [← lw_div, Nat.add_mul_div_left _ _ (b64_pos i)]
theorem lw_top (a n i : Nat) (h : a < B64 ^ n) (hi : n ≤ i) : lw a i = 0 := by
  unfold lw
  rw [Nat.div_eq_of_lt (Nat.lt_of_lt_of_le h (Nat.pow_le_pow_right (by decide) hi)), Nat.zero_mod]
/- a product row by row -/
theorem row_next (a b i : Nat) : a % B64 ^ i * b + B64 ^ i * (lw a i * b) = a % B64 ^ (i + 1) * b := by
  rw [mod_succ, Nat.add_mul, Nat.mul_assoc]
theorem row_lt (a b i : Nat) (hb : b < B64 ^ 4) : a % B64 ^ i * b < B64 ^ (i + 4) := by
  have h := Nat.mod_lt a (b64_pos i)
  rw [Nat.pow_add]
  exact Nat.mul_lt_mul'' h hb
theorem row_top (a b i : Nat) (hb : b < B64 ^ 4) : lw (a % B64 ^ (i + 1) * b) (i + 4) = cMul (a % B64 ^ i * b / B64 ^ i) (lw a i) b 4 := by
  rw [← row_next, lw_shift_hi, lw_madd, lw_top b 4 4 hb (Nat.le_refl _), lw_div, lw_top _ _ _ (row_lt a b i hb) (Nat.le_refl _), Nat.mul_zero, Nat.zero_add]
  exact Nat.mod_eq_of_lt (cMul_lt _ _ _ _ (lw_lt a i))
theorem row_all (a b i : Nat) (hb : b < B64 ^ 4) : mix (a % B64 ^ (i + 1) * b) (a % B64 ^ i * b) (i + 4 + 1) = a % B64 ^ (i + 1) * b := by
  refine mix_all _ _ _ ?_ ?_
  · have := row_lt a b (i + 1) hb
    rwa [show i + 1 + 4 = i + 4 + 1 by omega] at this
  · refine Nat.lt_trans (row_lt a b i hb) (Nat.pow_lt_pow_right (by decide) (by omega))
theorem row_word (a b i k : Nat) : lw (a % B64 ^ i * b) (i + k) = lw (a % B64 ^ i * b / B64 ^ i) k := by rw [lw_div]
theorem row_new (a b i k : Nat) : lw (a % B64 ^ (i + 1) * b) (i + k) = lw (a % B64 ^ i * b / B64 ^ i + lw a i * b) k := by
  rw [← row_next, lw_shift_hi]
theorem row_start (a b i : Nat) : mix (a % B64 ^ (i + 1) * b) (a % B64 ^ i * b) (i + 0) = a % B64 ^ i * b := by
  rw [← row_next, Nat.add_zero]
  generalize a % B64 ^ i * b = V
  unfold mix
  rw [Nat.add_mul_mod_self_left, Nat.mul_comm, Nat.mod_add_div]
theorem row_zero (b : Nat) (a : Nat) : a % B64 ^ 0 * b = 0 := by simp [Nat.mod_one]
/- what stands above 2^256 comes back -/
def foldC (C V : Nat) : Nat := V / B64 ^ 4 * C + V % B64 ^ 4
theorem foldC_mod (P C V : Nat) (h : P + C = B64 ^ 4) : foldC C V % P = V % P := by
  have e : V = foldC C V + P * (V / B64 ^ 4) := by
    have h1 := Nat.div_add_mod V (B64 ^ 4)
    unfold foldC
    rw [← h] at h1 ⊢
    generalize V / (P + C) = q at *
    rw [Nat.add_mul] at h1
    rw [Nat.mul_comm q C]
    omega
  conv => rhs; rw [e]
  rw [Nat.add_mul_mod_self_left]
theorem foldC_lt (C V : Nat) (hC : C < B64 ^ 4) (h : V / B64 ^ 4 ≠ 0) : foldC C V < V := by
  have h1 := Nat.div_add_mod V (B64 ^ 4)
  unfold foldC
  generalize V / B64 ^ 4 = q at *
  have h2 : q * C < B64 ^ 4 * q := by
    rw [Nat.mul_comm]
    exact Nat.mul_lt_mul_of_pos_right hC (by omega)
  omega
theorem or_ne (a b c d : Nat) : (a ||| b ||| c ||| d = 0) ↔ (a = 0 ∧ b = 0 ∧ c = 0 ∧ d = 0) := by
  simp [Nat.or_eq_zero_iff, and_assoc]
theorem top_zero (V : Nat) (h : V < B64 ^ 8) : (lw V 4 ||| lw V 5 ||| lw V 6 ||| lw V 7 = 0) ↔ V / B64 ^ 4 = 0 := by
  rw [or_ne]
  have e : V / B64 ^ 4 < B64 ^ 4 := Nat.div_lt_of_lt_mul (by rw [← Nat.pow_add]; exact h)
  have k0 := lw_div V 4 0
  have k1 := lw_div V 4 1
  have k2 := lw_div V 4 2
  have k3 := lw_div V 4 3
  rw [show 4 + 0 = 4 from rfl] at k0
  rw [show 4 + 1 = 5 from rfl] at k1
  rw [show 4 + 2 = 6 from rfl] at k2
  rw [show 4 + 3 = 7 from rfl] at k3
  rw [← k0, ← k1, ← k2, ← k3]
  generalize V / B64 ^ 4 = D at *
  constructor
  · rintro ⟨h0, h1, h2, h3⟩
    have hm : D % B64 ^ 4 = 0 % B64 ^ 4 := limbs_mod_inj (limbs_ext fun i hi => by
      have : i = 0 ∨ i = 1 ∨ i = 2 ∨ i = 3 := by omega
      rcases this with rfl | rfl | rfl | rfl
      · rw [h0]; decide
      · rw [h1]; decide
      · rw [h2]; decide
      · rw [h3]; decide)
    rw [Nat.mod_eq_of_lt e] at hm
    simpa using hm
  · rintro rfl; decide
theorem words_zero (D : Nat) (e : D < B64 ^ 4) : (lw D 0 ||| lw D 1 ||| lw D 2 ||| lw D 3 = 0) ↔ D = 0 := by
  rw [or_ne]
  constructor
  · rintro ⟨h0, h1, h2, h3⟩
    have hm : D % B64 ^ 4 = 0 % B64 ^ 4 := limbs_mod_inj (limbs_ext fun i hi => by
      have : i = 0 ∨ i = 1 ∨ i = 2 ∨ i = 3 := by omega
      rcases this with rfl | rfl | rfl | rfl
      · rw [h0]; decide
      · rw [h1]; decide
      · rw [h2]; decide
      · rw [h3]; decide)
    rw [Nat.mod_eq_of_lt e] at hm
    simpa using hm
  · rintro rfl; decide
/- the two words above a line -/
theorem line_top (V x n : Nat) (hn : n < B64 ^ 4) (hV : V + x * n < B64 ^ 6) (hVV : V < B64 ^ 6) :
    (lw V 4 + cMul V x n 4) % 18446744073709551616 = lw (V + x * n) 4 ∧ lw V 5 + (lw V 4 + cMul V x n 4) / 18446744073709551616 = lw (V + x * n) 5 ∧ lw V 5 + (lw V 4 + cMul V x n 4) / 18446744073709551616 < 18446744073709551616 := by
  have z4 : lw n 4 = 0 := lw_top n 4 4 hn (by decide)
  have z5 : lw n 5 = 0 := lw_top n 4 5 hn (by decide)
  have h4 := lw_madd V x n 4
  have h5 := lw_madd V x n 5
  have c5 := cMul_succ V x n 4
  have c6 := cMul_succ V x n 5
  rw [z4, Nat.mul_zero, Nat.add_zero] at h4 c5
  rw [z5, Nat.mul_zero, Nat.add_zero] at h5 c6
  have hc6 : cMul V x n 6 = 0 := by
    rw [cMul_all V x n 6 hVV (Nat.lt_trans hn (by decide))]
    exact Nat.div_eq_of_lt hV
  rw [hc6] at c6
  rw [c5] at h5 c6
  try rw [Nat.add_zero] at h5
  try rw [Nat.add_zero] at c6
  have : lw V 5 + (lw V 4 + cMul V x n 4) / 18446744073709551616 < 18446744073709551616 := by omega
  exact ⟨h4.symm, by rw [h5, Nat.mod_eq_of_lt this], this⟩
theorem word0 (V : Nat) : lw V 0 = V % 18446744073709551616 := by simp [lw]

/-- a step of Montgomery's product -/
def mstep (M neg b T x : Nat) : Nat := (T + x * b + ((T + x * b) % 18446744073709551616 * neg % 18446744073709551616) * M) / 18446744073709551616
def montT (M neg b a : Nat) : Nat → Nat
  | 0 => 0
  | k + 1 => mstep M neg b (montT M neg b a k) (lw a k)
theorem mstep_exact (M neg b T x : Nat) (hneg : (M * neg + 1) % 18446744073709551616 = 0) :
    mstep M neg b T x * 18446744073709551616 = T + x * b + ((T + x * b) % 18446744073709551616 * neg % 18446744073709551616) * M := by
  unfold mstep
  generalize hV : T + x * b = V
  generalize hm : V % 18446744073709551616 * neg % 18446744073709551616 = m
  have key : (V + m * M) % 18446744073709551616 = 0 := by
    have h1 : (m * M) % 18446744073709551616 = (V * neg * M) % 18446744073709551616 := by
      rw [← hm, Nat.mod_mul_mod, Nat.mul_assoc, Nat.mod_mul_mod, ← Nat.mul_assoc]
    have h2 : V + V * neg * M = V * (M * neg + 1) := by rw [Nat.mul_add, Nat.mul_one, Nat.mul_assoc, Nat.mul_comm neg, Nat.add_comm]
    rw [Nat.add_mod, h1, ← Nat.add_mod, h2, Nat.mul_mod, hneg, Nat.mul_zero, Nat.zero_mod]
  have := Nat.div_add_mod (V + m * M) 18446744073709551616
  rw [key, Nat.add_zero, Nat.mul_comm] at this
  exact this
theorem mstep_lt (M neg b T x : Nat) (hM : 0 < M) (hT : T < b + M) (hx : x < 18446744073709551616) : mstep M neg b T x < b + M := by
  unfold mstep
  refine Nat.div_lt_of_lt_mul ?_
  generalize hm : (T + x * b) % 18446744073709551616 * neg % 18446744073709551616 = m
  have hm' : m < 18446744073709551616 := by rw [← hm]; exact Nat.mod_lt _ (by decide)
  have h1 : x * b ≤ 18446744073709551615 * b := Nat.mul_le_mul_right _ (by omega)
  have h2 : m * M ≤ 18446744073709551615 * M := Nat.mul_le_mul_right _ (by omega)
  omega
theorem montT_lt (M neg b a k : Nat) (hM : 0 < M) : montT M neg b a k < b + M := by
  induction k with
  | zero => show 0 < _; omega
  | succ k ih => exact mstep_lt _ _ _ _ _ hM ih (lw_lt a k)
theorem montT_mod (M neg b a k : Nat) (hneg : (M * neg + 1) % 18446744073709551616 = 0) : montT M neg b a k * B64 ^ k % M = a % B64 ^ k * b % M := by
  induction k with
  | zero => simp [montT, Nat.mod_one]
  | succ k ih =>
    show mstep _ _ _ _ _ * B64 ^ (k + 1) % M = _
    rw [← row_next, Nat.pow_succ, Nat.mul_comm (B64 ^ k), ← Nat.mul_assoc, mstep_exact M neg b _ _ hneg]
    generalize (montT M neg b a k + lw a k * b) % 18446744073709551616 * neg % 18446744073709551616 = m
    have e : (montT M neg b a k + lw a k * b + m * M) * B64 ^ k = montT M neg b a k * B64 ^ k + B64 ^ k * (lw a k * b) + M * (m * B64 ^ k) := by
      rw [Nat.add_mul, Nat.add_mul, Nat.mul_comm (lw a k * b), Nat.mul_right_comm m, Nat.mul_comm (m * B64 ^ k)]
    rw [e, Nat.add_mul_mod_self_left, Nat.add_mod, ih, ← Nat.add_mod]
/-- what a product of Montgomery's is -/
theorem mont_value (M neg Ri a b : Nat) (hM : 0 < M) (ha : a < B64 ^ 4) (hneg : (M * neg + 1) % 18446744073709551616 = 0) (hRi : B64 ^ 4 * Ri % M = 1 % M) :
    montT M neg b a 4 % M = a * b * Ri % M := by
  have h := montT_mod M neg b a 4 hneg
  rw [Nat.mod_eq_of_lt ha] at h
  generalize montT M neg b a 4 = T at *
  have h1 : T * B64 ^ 4 * Ri % M = a * b * Ri % M := by rw [Nat.mul_mod, h, ← Nat.mul_mod]
  rw [← h1, Nat.mul_assoc, Nat.mul_mod, hRi, ← Nat.mul_mod, Nat.mul_one]
theorem mod_of_lt2 (T M : Nat) (h : T < 2 * M) : T % M = if T < M then T else T - M := by
  split
  · rename_i h'; exact Nat.mod_eq_of_lt h'
  · rename_i h'; rw [Nat.mod_eq_sub_mod (by omega), Nat.mod_eq_of_lt (by omega)]
end Mvp

/- Plain: the two primes. -/
namespace Mvp
/-- 2^256 less the primes -/
def cP : Nat := 4294968273
def cQ : Nat := 4624529908474429119 + 4994812053365940164 * B64 + B64 ^ 2
def pP : Nat := B64 ^ 4 - cP
def pQ : Nat := B64 ^ 4 - cQ
theorem cP_lt : cP < B64 ^ 4 := by decide
theorem cQ_lt : cQ < B64 ^ 4 := by decide
theorem pP_c : B64 ^ 4 - pP = cP := by decide
theorem pQ_c : B64 ^ 4 - pQ = cQ := by decide
end Mvp

/- The reference's sums (X / Z, Y / Z); numbers as members of the field; sums of multiples, digit by digit. -/
namespace Mvq
theorem pP_fP : Mvp.pP = fP := by decide
theorem kc_addn (a b : Nat) : kc (a + b) = kc a + kc b := by rw [← kc_add, kc_mod]
theorem kc_subn (a b : Nat) : kc (a + (fP - b % fP)) = kc a - kc b := by
  have h : kc (a + (fP - b % fP)) + kc b = kc a := by
    rw [← kc_addn]
    apply Fin.ext
    simp only [kc, Fin.ofNat]
    have h1 := Nat.div_add_mod b fP
    have h2 : b % fP < fP := Nat.mod_lt _ (by decide)
    rw [show a + (fP - b % fP) + b = a + fP * (b / fP + 1) by rw [Nat.mul_add]; omega, Nat.add_mul_mod_self_left]
  rw [← h]; generalize kc b = u; generalize kc (a + (fP - b % fP)) = v; grind -lia -linarith
theorem kc_negn (b : Nat) : kc (fP - b % fP) = - kc b := by
  have h := kc_subn 0 b
  rw [Nat.zero_add] at h
  have h0 : kc 0 = 0 := by decide
  rw [h, h0]; generalize kc b = u; grind -lia -linarith
theorem kc_eqz (a : Nat) : (a % fP == 0) = decide (kc a = 0) := by
  rw [Bool.eq_iff_iff]
  simp only [beq_iff_eq, decide_eq_true_eq]
  constructor
  · intro h
    apply Fin.ext
    simp only [kc, Fin.ofNat]
    exact h
  · intro h
    have := congrArg Fin.val h
    exact this
theorem kc_eq (a b : Nat) : (a % fP == b % fP) = decide (kc a = kc b) := by
  rw [Bool.eq_iff_iff]
  simp only [beq_iff_eq, decide_eq_true_eq]
  constructor
  · intro h
    apply Fin.ext
    simp only [kc, Fin.ofNat]
    exact h
  · intro h
    have := congrArg Fin.val h
    simpa only [kc, Fin.ofNat] using this
theorem nm_nz {X Y Z : K} (hz : Z ≠ 0) : nm X Y Z = .A (X * kinv Z) (Y * kinv Z) := by unfold nm; rw [if_neg hz]
theorem nm_z {X Y Z : K} (hz : Z = 0) : nm X Y Z = .O := by unfold nm; rw [if_pos hz]
theorem nm_is {X Y Z x y : K} (hz : Z ≠ 0) (hx : X = x * Z) (hy : Y = y * Z) : nm X Y Z = .A x y := by
  rw [nm_nz hz]
  have h1 := mul_kinv hz
  generalize kinv Z = u at *
  subst hx hy
  congr 1
  · grind -lia -linarith
  · grind -lia -linarith
theorem nm_form {X Y Z : K} (hz : Z ≠ 0) (h : onC (nm X Y Z)) : ∃ x y, nm X Y Z = .A x y ∧ y * y = x * x * x + 7 ∧ X = x * Z ∧ Y = y * Z := by
  refine ⟨_, _, nm_nz hz, ?_, ?_, ?_⟩
  · rw [nm_nz hz] at h; exact h
  · have h1 := mul_kinv hz
    generalize kinv Z = u at *
    grind -lia -linarith
  · have h1 := mul_kinv hz
    generalize kinv Z = u at *
    grind -lia -linarith
theorem rk_double {X Y Z : K} (h : onC (nm X Y Z)) (hz : Z ≠ 0) (xx d e ee eee t : K) (h1 : xx = X * X) (h2 : d = 3 * xx) (h3 : e = 2 * Y * Z) (h4 : ee = e * e) (h5 : eee = ee * e) (h6 : t = d * d * Z - 2 * X * ee) :
    nm (e * t) (d * (X * ee - t) - Y * eee) (eee * Z) = padd (nm X Y Z) (nm X Y Z) := by
  obtain ⟨x, y, e0, hon, hX, hY⟩ := nm_form hz h
  have hy := y_ne hon
  have h2y : (2 : K) * y ≠ 0 := fun h => (mul_zero' h).elim two_ne hy
  have hu := mul_kinv h2y
  rw [e0, padd_tangent hon hu]
  generalize kinv (2 * y) = u at *
  have he : e = (2 * y) * (Z * Z) := by rw [h3, hY]; grind -lia -linarith
  have hzz : Z * Z ≠ 0 := fun h => (mul_zero' h).elim hz hz
  have he0 : e ≠ 0 := by rw [he]; exact fun h => (mul_zero' h).elim h2y hzz
  refine nm_is (by rw [h5, h4]; exact fun h => (mul_zero' h).elim (fun h => (mul_zero' h).elim (fun h => (mul_zero' h).elim he0 he0) he0) hz) ?_ ?_
  · subst h6 h5 h4 h2 h1 hX hY
    rw [he]
    clear e0 h hon hzz h2y hy hz he0 he h3
    grind -lia -linarith
  · subst h6 h5 h4 h2 h1 hX hY
    rw [he]
    clear e0 h hon hzz h2y hy hz he0 he h3
    grind -lia -linarith
theorem rk_plus {X1 Y1 Z1 X2 Y2 Z2 : K} (hp : onC (nm X1 Y1 Z1)) (hq : onC (nm X2 Y2 Z2)) (hz1 : Z1 ≠ 0) (hz2 : Z2 ≠ 0) (u v u2 v2 d e w ee eee t : K) (e1 : u = Y2 * Z1) (e2 : v = X2 * Z1) (e3 : u2 = Y1 * Z2) (e4 : v2 = X1 * Z2)
    (ed : d = u - u2) (ee' : e = v - v2) (hn : e ≠ 0) (ew : w = Z1 * Z2) (h4 : ee = e * e) (h5 : eee = ee * e) (h6 : t = d * d * w - eee - 2 * v2 * ee) :
    nm (e * t) (d * (v2 * ee - t) - u2 * eee) (eee * w) = padd (nm X1 Y1 Z1) (nm X2 Y2 Z2) := by
  obtain ⟨x1, y1, f1, o1, hX1, hY1⟩ := nm_form hz1 hp
  obtain ⟨x2, y2, f2, o2, hX2, hY2⟩ := nm_form hz2 hq
  have hzz : w ≠ 0 := by rw [ew]; exact fun h => (mul_zero' h).elim hz1 hz2
  have ehd : e = (x2 - x1) * w := by rw [ee', e2, e4, hX1, hX2, ew]; grind -lia -linarith
  have erd : d = (y2 - y1) * w := by rw [ed, e1, e3, hY1, hY2, ew]; grind -lia -linarith
  have eu : v2 = x1 * w := by rw [e4, hX1, ew]; grind -lia -linarith
  have es : u2 = y1 * w := by rw [e3, hY1, ew]; grind -lia -linarith
  have hd0 : x2 - x1 ≠ 0 := fun hh => hn (by rw [ehd, hh]; grind -lia -linarith)
  have hu := mul_kinv hd0
  rw [f1, f2, padd_chord o1 o2 hu]
  generalize kinv (x2 - x1) = z at *
  refine nm_is (by rw [h5, h4]; exact fun h => (mul_zero' h).elim (fun h => (mul_zero' h).elim (fun h => (mul_zero' h).elim hn hn) hn) hzz) ?_ ?_
  · subst h6 h5 h4
    rw [erd, eu, ehd]
    clear e1 e2 e3 e4 ed ee' hn erd eu es ehd hX1 hX2 hY1 hY2 f1 f2 o1 o2 hp hq hz1 hz2 hd0 ew hzz
    generalize hdd : x2 - x1 = dd at *
    have hx2 : x2 = x1 + dd := by rw [← hdd]; grind -lia -linarith
    subst hx2; clear hdd
    generalize y2 - y1 = n at *
    grind -lia -linarith
  · subst h6 h5 h4
    rw [erd, eu, ehd, es]
    clear e1 e2 e3 e4 ed ee' hn erd eu es ehd hX1 hX2 hY1 hY2 f1 f2 o1 o2 hp hq hz1 hz2 hd0 ew hzz
    generalize hdd : x2 - x1 = dd at *
    have hx2 : x2 = x1 + dd := by rw [← hdd]; grind -lia -linarith
    subst hx2; clear hdd
    generalize y2 - y1 = n at *
    grind -lia -linarith
theorem rk_same {X1 Y1 Z1 X2 Y2 Z2 : K} (hp : onC (nm X1 Y1 Z1)) (hq : onC (nm X2 Y2 Z2)) (hz1 : Z1 ≠ 0) (hz2 : Z2 ≠ 0) (h : X2 * Z1 = X1 * Z2) :
    (Y2 * Z1 = Y1 * Z2 → nm X2 Y2 Z2 = nm X1 Y1 Z1) ∧ (Y2 * Z1 ≠ Y1 * Z2 → padd (nm X1 Y1 Z1) (nm X2 Y2 Z2) = .O) ∧ Y2 * Z1 ≠ 0 := by
  obtain ⟨x1, y1, f1, o1, hX1, hY1⟩ := nm_form hz1 hp
  obtain ⟨x2, y2, f2, o2, hX2, hY2⟩ := nm_form hz2 hq
  have hzz : Z1 * Z2 ≠ 0 := fun h => (mul_zero' h).elim hz1 hz2
  have hx : x2 = x1 := by
    refine cancelK hzz ?_
    rw [hX1, hX2] at h; grind -lia -linarith
  subst hx
  have hyy : (y2 - y1) * (y2 + y1) = 0 := by grind -lia -linarith
  refine ⟨fun hy => ?_, fun hy => ?_, fun hy => ?_⟩
  · have : y2 = y1 := by
      refine cancelK hzz ?_
      rw [hY1, hY2] at hy; grind -lia -linarith
    rw [f1, f2, this]
  · rcases mul_zero' hyy with h1 | h1
    · exfalso
      refine hy ?_
      have e : y2 = y1 := by grind -lia -linarith
      rw [hY1, hY2, e]; grind -lia -linarith
    · have e : y2 = -y1 := by grind -lia -linarith
      rw [f1, f2, e]
      exact padd_neg (p := .A x2 y1)
  · have hy2 := y_ne o2
    rcases mul_zero' hy with h1 | h1
    · rw [hY2] at h1; exact (mul_zero' h1).elim hy2 hz2
    · exact hz1 h1
/-- sums of multiples -/
def psum : List (Nat × Pt) → Pt
  | [] => .O
  | (n, p) :: l => padd (pmul n p) (psum l)
theorem psum_on : ∀ (l : List (Nat × Pt)), (∀ t ∈ l, onC t.2) → onC (psum l)
  | [], _ => trivial
  | (n, p) :: l, h => padd_on (pmul_on (h (n, p) (by simp)) n) (psum_on l fun t ht => h t (List.mem_cons_of_mem _ ht))
/-- each number's leading digits, in sixteens -/
def lead (k : Nat) (l : List (Nat × Pt)) : List (Nat × Pt) := l.map fun t => (t.1 / 16 ^ k, t.2)
def dig (k n : Nat) : Nat := n / 16 ^ k % 16
theorem lead_next (k : Nat) : ∀ (l : List (Nat × Pt)), (∀ t ∈ l, onC t.2) → psum (lead k l) = padd (pmul 16 (psum (lead (k + 1) l))) (psum (l.map fun t => (dig k t.1, t.2)))
  | [], _ => (by rw [show psum (lead (k + 1) []) = .O from rfl, pmul_O]; rfl)
  | (n, p) :: l, h => by
    have hl : ∀ t ∈ l, onC t.2 := fun t ht => h t (List.mem_cons_of_mem _ ht)
    have hp : onC p := h (n, p) (by simp)
    have ih := lead_next k l hl
    have hL : onC (psum (lead (k + 1) l)) := psum_on _ fun t ht => by
      obtain ⟨u, hu, rfl⟩ := List.mem_map.1 ht; exact hl u hu
    have hD : onC (psum (l.map fun t => (dig k t.1, t.2))) := psum_on _ fun t ht => by
      obtain ⟨u, hu, rfl⟩ := List.mem_map.1 ht; exact hl u hu
    show padd (pmul (n / 16 ^ k) p) (psum (lead k l)) = padd (pmul 16 (padd (pmul (n / 16 ^ (k + 1)) p) (psum (lead (k + 1) l)))) (padd (pmul (dig k n) p) (psum (l.map fun t => (dig k t.1, t.2))))
    have e : n / 16 ^ k = n / 16 ^ (k + 1) * 16 + dig k n := by
      unfold dig; rw [Nat.pow_succ, ← Nat.div_div_eq_div_mul]; omega
    rw [ih, e, pmul_add hp, pmul_mul hp, pmul_dist (pmul_on hp _) hL]
    generalize hA : pmul 16 (pmul (n / 16 ^ (k + 1)) p) = a
    generalize hB : pmul (dig k n) p = b
    generalize hC : pmul 16 (psum (lead (k + 1) l)) = c
    generalize hDD : psum (l.map fun t => (dig k t.1, t.2)) = d at *
    have ha : onC a := by rw [← hA]; exact pmul_on (pmul_on hp _) _
    have hb : onC b := by rw [← hB]; exact pmul_on hp _
    have hc : onC c := by rw [← hC]; exact pmul_on hL _
    rw [padd_assoc ha hb (padd_on hc hD), padd_assoc ha hc (padd_on hb hD), ← padd_assoc hb hc hD, ← padd_assoc hc hb hD, padd_comm b c]
/-- twice, four times -/
theorem pmul_16 {p : Pt} (hp : onC p) : pmul 16 p = padd (padd (padd (padd p p) (padd p p)) (padd (padd p p) (padd p p))) (padd (padd (padd p p) (padd p p)) (padd (padd p p) (padd p p))) := by
  have h2 : ∀ q, padd q q = pmul 2 q := fun q => by show _ = padd (padd .O q) q; rfl
  have e2 : padd p p = pmul 2 p := h2 p
  have e4 : padd (pmul 2 p) (pmul 2 p) = pmul 4 p := (pmul_add hp 2 2).symm
  have e8 : padd (pmul 4 p) (pmul 4 p) = pmul 8 p := (pmul_add hp 4 4).symm
  have e16 : padd (pmul 8 p) (pmul 8 p) = pmul 16 p := (pmul_add hp 8 8).symm
  rw [e2, e4, e8, e16]
/-- bit by bit -/
theorem pmul_bit {p : Pt} (hp : onC p) (n k : Nat) : pmul (n / 2 ^ k) p = padd (padd (pmul (n / 2 ^ (k + 1)) p) (pmul (n / 2 ^ (k + 1)) p)) (if n / 2 ^ k % 2 = 1 then p else .O) := by
  have e : n / 2 ^ k = n / 2 ^ (k + 1) + n / 2 ^ (k + 1) + n / 2 ^ k % 2 := by
    rw [Nat.pow_succ, ← Nat.div_div_eq_div_mul]; omega
  have h1 : pmul (n / 2 ^ k % 2) p = if n / 2 ^ k % 2 = 1 then p else .O := by
    split
    · rename_i h; rw [h]; exact zero_padd p
    · rename_i h; rw [show n / 2 ^ k % 2 = 0 by omega]; rfl
  rw [← h1, ← pmul_add hp, ← pmul_add hp, ← e]
end Mvq

/- Plain lemmas on lists: filling a list from the left. -/
namespace Mvp

/-- the first k of F, the rest of I -/
def fill {α : Type} (F I : List α) (k : Nat) : List α := F.take k ++ I.drop k
theorem fill_length {α : Type} (F I : List α) (k : Nat) (h : F.length = I.length) : (fill F I k).length = I.length := by simp [fill]; omega
theorem fill_all {α : Type} (F I : List α) (k : Nat) (h : F.length = I.length) (hk : F.length ≤ k) : fill F I k = F := by
  unfold fill
  rw [List.take_of_length_le hk, List.drop_eq_nil_of_le (by omega), List.append_nil]
theorem fill_set {α : Type} (F I : List α) (k : Nat) (h : F.length = I.length) (hk : k < F.length) (d : α) : (fill F I k).set k (F.getD k d) = fill F I (k + 1) := by
  unfold fill
  have e : F.getD k d = F[k] := by simp [List.getD_eq_getElem?_getD, hk]
  rw [e, List.set_append_right _ _ (by simp; omega), List.length_take, Nat.min_eq_left (Nat.le_of_lt hk), Nat.sub_self, List.drop_eq_getElem_cons (by omega), List.set_cons_zero, List.take_succ_eq_append_getElem hk]
  simp only [List.append_assoc, List.singleton_append]
/-- Go's shifts of a 64-bit word, at every count -/
def shl (x : UInt64) (k : Nat) : UInt64 := UInt64.ofNat (x.toNat * 2 ^ k)
def shr (x : UInt64) (k : Nat) : UInt64 := UInt64.ofNat (x.toNat / 2 ^ k)
/-- the operators under names of their own -/
def wx (x y : UInt64) : UInt64 := x ^^^ y
def wo (x y : UInt64) : UInt64 := x ||| y
def wa (x y : UInt64) : UInt64 := x &&& y
def wn (x : UInt64) : UInt64 := ~~~x
def wid (x : UInt8) : UInt64 := x.toUInt64
def lo8 (x : UInt64) : UInt8 := x.toUInt8
def bx (x y : UInt8) : UInt8 := x ^^^ y
def bo (x y : UInt8) : UInt8 := x ||| y
def ba (x y : UInt8) : UInt8 := x &&& y
end Mvp

/- Plain numbers: bytes, the highest first; bits. -/
namespace Mvp

/-- bytes as a number, the highest first -/
def beN (l : List UInt8) : Nat := l.foldl (fun a x => a * 256 + x.toNat) 0
theorem beN_nil : beN [] = 0 := rfl
theorem beN_snoc (l : List UInt8) (x : UInt8) : beN (l ++ [x]) = beN l * 256 + x.toNat := by simp [beN]
theorem beN_lt (l : List UInt8) : beN l < 256 ^ l.length := by
  have h : ∀ (n : Nat) (l : List UInt8), l.length = n → beN l < 256 ^ n := by
    intro n
    induction n with
    | zero => intro l hl; rw [List.length_eq_zero_iff.1 hl]; decide
    | succ n ih =>
      intro l hl
      obtain ⟨m, x, rfl⟩ : ∃ m x, l = m ++ [x] := by
        rcases List.eq_nil_or_concat l with h | ⟨m, x, h⟩
        · subst h; simp at hl
        · exact ⟨m, x, by simpa using h⟩
      have := ih m (by simpa using hl)
      have hx := x.toNat_lt
      rw [beN_snoc, Nat.pow_succ]
      omega
  exact h _ l rfl
theorem beN_take (l : List UInt8) (i : Nat) (h : i < l.length) : beN (l.take (i + 1)) = beN (l.take i) * 256 + (l.getD i 0).toNat := by
  rw [List.take_succ_eq_append_getElem h, beN_snoc]
  simp [List.getD_eq_getElem?_getD, h]
/-- what has been laid when i bytes are read -/
def laid (l : List UInt8) (i : Nat) : Nat := beN (l.take i) * 256 ^ (l.length - i)
theorem laid_zero (l : List UInt8) : laid l 0 = 0 := by simp [laid, beN]
theorem laid_all (l : List UInt8) : laid l l.length = beN l := by simp [laid]
theorem laid_succ (l : List UInt8) (i : Nat) (h : i < l.length) : laid l (i + 1) = laid l i + (l.getD i 0).toNat * 256 ^ (l.length - 1 - i) := by
  unfold laid
  rw [beN_take l i h, Nat.add_mul, Nat.mul_assoc, show l.length - i = (l.length - 1 - i) + 1 by omega, Nat.pow_succ, Nat.mul_comm 256, show l.length - (i + 1) = l.length - 1 - i by omega]
theorem laid_mod (l : List UInt8) (i : Nat) (h : i < l.length) : laid l i % 256 ^ (l.length - 1 - i + 1) = 0 := by
  unfold laid
  rw [show l.length - 1 - i + 1 = l.length - i by omega, Nat.mul_mod_left]
theorem pow256 (k : Nat) : 256 ^ k = B64 ^ (k / 8) * 2 ^ (8 * (k % 8)) := by
  have e1 : (256 : Nat) = 2 ^ 8 := by decide
  have e2 : B64 = 2 ^ 64 := by decide
  rw [e1, e2, ← Nat.pow_mul, ← Nat.pow_mul, ← Nat.pow_add]
  congr 1
  omega
theorem byte_shift_lt (x r : Nat) (hx : x < 256) : x * 2 ^ r < 2 ^ (r + 8) := by
  rw [Nat.pow_add, Nat.mul_comm (2 ^ r)]
  exact Nat.mul_lt_mul_of_pos_right hx (Nat.two_pow_pos r)
theorem word_or (A y r : Nat) (hr : r + 8 ≤ 64) (hy : y < 2 ^ (r + 8)) (hA : A % 2 ^ (r + 8) = 0) : (A % B64) ||| y = (A + y) % B64 ∧ (A + y) / B64 = A / B64 := by
  obtain ⟨c, hc⟩ : ∃ c, B64 = 2 ^ (r + 8) * c := ⟨2 ^ (64 - (r + 8)), by rw [← Nat.pow_add, show r + 8 + (64 - (r + 8)) = 64 by omega]⟩
  obtain ⟨m, rfl⟩ : ∃ m, A = 2 ^ (r + 8) * m := ⟨A / 2 ^ (r + 8), by have := Nat.div_add_mod A (2 ^ (r + 8)); omega⟩
  have hc0 : 0 < c := by
    rcases Nat.eq_zero_or_pos c with h | h
    · rw [h, Nat.mul_zero] at hc; exact absurd hc (by decide)
    · exact h
  have hp := Nat.two_pow_pos (r + 8)
  rw [hc]
  have e1 : 2 ^ (r + 8) * m % (2 ^ (r + 8) * c) = 2 ^ (r + 8) * (m % c) := Nat.mul_mod_mul_left _ _ _
  have hmc := Nat.mod_lt m hc0
  have e3 : 2 ^ (r + 8) * m + y = (2 ^ (r + 8) * c) * (m / c) + (2 ^ (r + 8) * (m % c) + y) := by
    have := Nat.div_add_mod m c
    have h2 : 2 ^ (r + 8) * m = 2 ^ (r + 8) * (c * (m / c) + m % c) := by rw [this]
    rw [h2, Nat.mul_add, Nat.mul_assoc]; omega
  have hlt : 2 ^ (r + 8) * (m % c) + y < 2 ^ (r + 8) * c := by
    have h1 : 2 ^ (r + 8) * (m % c + 1) ≤ 2 ^ (r + 8) * c := Nat.mul_le_mul_left _ hmc
    rw [Nat.mul_add, Nat.mul_one] at h1
    omega
  constructor
  · rw [e1, ← Nat.two_pow_add_eq_or_of_lt hy, e3, Nat.mul_add_mod, Nat.mod_eq_of_lt hlt]
  · rw [e3, Nat.mul_add_div (Nat.mul_pos hp hc0), Nat.div_eq_of_lt hlt, Nat.add_zero, Nat.mul_div_mul_left _ _ hp]
/-- a byte is laid -/
theorem of_step (n N k x : Nat) (hx : x < 256) (hN : N % 256 ^ (k + 1) = 0) (hk : k / 8 < n) : (limbs n N).set (k / 8) (lw N (k / 8) ||| x * 2 ^ (8 * (k % 8))) = limbs n (N + x * 256 ^ k) := by
  have hA : N / B64 ^ (k / 8) % 2 ^ (8 * (k % 8) + 8) = 0 := by
    have e : 256 ^ (k + 1) = B64 ^ (k / 8) * 2 ^ (8 * (k % 8) + 8) := by rw [Nat.pow_succ, pow256, Nat.mul_assoc, Nat.pow_add]
    rw [e] at hN
    rw [← Nat.mod_mul_right_div_self, hN, Nat.zero_div]
  obtain ⟨h1, h2⟩ := word_or (N / B64 ^ (k / 8)) (x * 2 ^ (8 * (k % 8))) (8 * (k % 8)) (by omega) (byte_shift_lt x _ hx) hA
  have e : N + x * 256 ^ k = N + B64 ^ (k / 8) * (x * 2 ^ (8 * (k % 8))) := by rw [pow256, Nat.mul_left_comm]
  rw [e]
  apply List.ext_getElem?
  intro i
  rw [List.getElem?_set, limbs_length]
  rcases Nat.lt_or_ge i n with hi | hi
  · rw [limbs_get _ _ _ hi, limbs_get _ _ _ hi]
    rcases Nat.lt_trichotomy i (k / 8) with h | h | h
    · rw [if_neg (by omega), lw_shift_lo _ _ _ _ h]
    · subst h
      rw [if_pos rfl, if_pos hi]
      congr 1
      have := lw_shift_hi N (x * 2 ^ (8 * (k % 8))) (k / 8) 0
      rw [Nat.add_zero] at this
      rw [this]
      simp only [lw, Nat.pow_zero, Nat.div_one]
      exact h1
    · rw [if_neg (by omega)]
      congr 1
      obtain ⟨j, rfl⟩ : ∃ j, i = k / 8 + (1 + j) := ⟨i - k / 8 - 1, by omega⟩
      rw [lw_shift_hi, ← lw_div N, ← lw_div _ 1 j, ← lw_div _ 1 j, Nat.pow_one, h2]
  · rw [if_neg (by omega), List.getElem?_eq_none (by rw [limbs_length]; exact hi), List.getElem?_eq_none (by rw [limbs_length]; exact hi)]

/-- a number as 32 bytes, the highest first -/
def be32 (N : Nat) : List UInt8 := (List.range 32).map fun i => UInt8.ofNat (N / 256 ^ (31 - i))
theorem be32_len (N : Nat) : (be32 N).length = 32 := by simp [be32]
theorem be32_get (N i : Nat) (h : i < 32) : (be32 N).getD i 0 = UInt8.ofNat (N / 256 ^ (31 - i)) := by simp [be32, List.getD_eq_getElem?_getD, h]
theorem byte_of (N k : Nat) : lw N (k / 8) / 2 ^ (8 * (k % 8)) % 256 = N / 256 ^ k % 256 := by
  unfold lw
  rw [pow256, ← Nat.div_div_eq_div_mul]
  generalize N / B64 ^ (k / 8) = A
  have hr : 8 * (k % 8) + 8 ≤ 64 := by omega
  generalize 8 * (k % 8) = r at *
  have e : B64 = 2 ^ r * 2 ^ (64 - r) := by rw [← Nat.pow_add, show r + (64 - r) = 64 by omega]
  rw [e, Nat.mod_mul_right_div_self]
  exact Nat.mod_mod_of_dvd _ ⟨2 ^ (64 - r - 8), by rw [show (256 : Nat) = 2 ^ 8 from rfl, ← Nat.pow_add, show 8 + (64 - r - 8) = 64 - r by omega]⟩
theorem bit_of (N i : Nat) : lw N (i / 64) / 2 ^ (i % 64) % 2 = N / 2 ^ i % 2 := by
  unfold lw
  have e1 : 2 ^ i = B64 ^ (i / 64) * 2 ^ (i % 64) := by
    rw [show B64 = 2 ^ 64 from rfl, ← Nat.pow_mul, ← Nat.pow_add]
    congr 1; omega
  rw [e1, ← Nat.div_div_eq_div_mul]
  generalize N / B64 ^ (i / 64) = A
  have hr : i % 64 + 1 ≤ 64 := by omega
  generalize i % 64 = r at *
  have e : B64 = 2 ^ r * 2 ^ (64 - r) := by rw [← Nat.pow_add, show r + (64 - r) = 64 by omega]
  rw [e, Nat.mod_mul_right_div_self]
  exact Nat.mod_mod_of_dvd _ ⟨2 ^ (64 - r - 1), by rw [show (2 : Nat) ^ (64 - r) = 2 ^ (1 + (64 - r - 1)) by congr 1; omega, Nat.pow_add, Nat.pow_one]⟩
theorem beN_be32 (N : Nat) (h : N < 256 ^ 32) : beN (be32 N) = N := by
  have key : ∀ n, n ≤ 32 → beN ((be32 N).take n) = N / 256 ^ (32 - n) := by
    intro n
    induction n with
    | zero => intro _; simp only [List.take_zero, beN_nil, Nat.sub_zero]; exact (Nat.div_eq_of_lt h).symm
    | succ n ih =>
      intro hn
      rw [beN_take _ _ (by rw [be32_len]; omega), ih (by omega), be32_get _ _ (by omega), show 32 - (n + 1) = 31 - n by omega, show 32 - n = (31 - n) + 1 by omega, Nat.pow_succ, ← Nat.div_div_eq_div_mul]
      simp only [UInt8.toNat_ofNat']
      have := Nat.div_add_mod (N / 256 ^ (31 - n)) 256
      show _ * 256 + N / 256 ^ (31 - n) % 256 = _
      omega
  have := key 32 (Nat.le_refl _)
  rw [List.take_of_length_le (by rw [be32_len]; exact Nat.le_refl _)] at this
  simpa using this
/-- a power on its way: the exponent's highest bits -/
def powm (a n p i : Nat) : Nat := a ^ (n / 2 ^ i) % p
theorem powm_top (a n p : Nat) (hp : 1 < p) (hn : n < B64 ^ 4) : powm a n p 256 = 1 := by
  unfold powm
  rw [Nat.div_eq_of_lt (Nat.lt_of_lt_of_le hn (by decide)), Nat.pow_zero, Nat.mod_eq_of_lt hp]
theorem powm_all (a n p : Nat) : powm a n p 0 = a ^ n % p := by unfold powm; rw [Nat.pow_zero, Nat.div_one]
theorem powm_half (n i : Nat) : n / 2 ^ i = 2 * (n / 2 ^ (i + 1)) + n / 2 ^ i % 2 := by
  rw [Nat.pow_succ, ← Nat.div_div_eq_div_mul]
  have := Nat.div_add_mod (n / 2 ^ i) 2
  omega
theorem powm_step0 (a n p i : Nat) (h : n / 2 ^ i % 2 = 0) : powm a n p (i + 1) * powm a n p (i + 1) % p = powm a n p i := by
  unfold powm
  rw [← Nat.mul_mod, ← Nat.pow_add]
  have := powm_half n i
  rw [h, Nat.two_mul, Nat.add_zero] at this
  rw [this]
theorem powm_step1 (a n p i : Nat) (h : n / 2 ^ i % 2 = 1) : powm a n p (i + 1) * powm a n p (i + 1) * a % p = powm a n p i := by
  have := powm_half n i
  rw [h] at this
  unfold powm
  rw [← Nat.mod_mul_mod (_ * _), ← Nat.mul_mod, ← Nat.pow_add, Nat.mod_mul_mod, ← Nat.pow_succ, this, Nat.two_mul]
theorem beN_lt32 (s : ByteArray) (h : s.size = 32) : beN s.data.toList < B64 ^ 4 := by
  have := beN_lt s.data.toList
  rw [show s.data.toList.length = s.size by simp, h] at this
  exact Nat.lt_of_lt_of_le this (by decide)
theorem beN_le32 (l : List UInt8) (h : l.length ≤ 32) : beN l < B64 ^ 4 :=
  Nat.lt_of_lt_of_le (beN_lt l) (Nat.le_trans (Nat.pow_le_pow_right (by decide) h) (by decide))
theorem beN_append (a b : List UInt8) : beN (a ++ b) = beN a * 256 ^ b.length + beN b := by
  have key : ∀ (n : Nat) (b : List UInt8), b.length = n → beN (a ++ b) = beN a * 256 ^ n + beN b := by
    intro n
    induction n with
    | zero => intro b hb; rw [List.length_eq_zero_iff.1 hb]; simp [beN_nil]
    | succ n ih =>
      intro b hb
      obtain ⟨m, x, rfl⟩ : ∃ m x, b = m ++ [x] := by
        rcases List.eq_nil_or_concat b with h | ⟨m, x, h⟩
        · subst h; simp at hb
        · exact ⟨m, x, by simpa using h⟩
      rw [← List.append_assoc, beN_snoc, ih m (by simpa using hb), beN_snoc, Nat.pow_succ, Nat.add_mul, ← Nat.mul_assoc, Nat.add_assoc]
  exact key _ b rfl
end Mvp

/- Words for memory: which blocks may have turned (Fr), a block known whole (Has), a slice that reads as a list of cells (Rd). Nothing here knows of a program. -/
namespace Go.Mv
open Go.RowKit

/-- no block that was there has turned, but those of S -/
structure Fr (S : Nat → Prop) (w w' : World) : Prop where
  os : w'.os = w.os
  tape : w'.tape = w.tape
  output : w'.output = w.output
  size : w.heap.size ≤ w'.heap.size
  block : ∀ k, k < w.heap.size → ¬ S k → w'.heap[k]? = w.heap[k]?

/-- no block at all -/
def Nob : Nat → Prop := fun _ => False
/-- one block -/
def One (g : Nat) : Nat → Prop := fun k => k = g

theorem Fr.refl (S : Nat → Prop) (w : World) : Fr S w w := ⟨rfl, rfl, rfl, Nat.le_refl _, fun _ _ _ => rfl⟩
theorem Fr.trans {S T : Nat → Prop} {a b c : World} (h : Fr S a b) (k : Fr T b c) (hT : ∀ i, i < a.heap.size → T i → S i) : Fr S a c :=
  ⟨k.os.trans h.os, k.tape.trans h.tape, k.output.trans h.output, Nat.le_trans h.size k.size,
    fun i hi hs => (k.block i (Nat.lt_of_lt_of_le hi h.size) (fun t => hs (hT i hi t))).trans (h.block i hi hs)⟩
theorem Fr.mono {S T : Nat → Prop} {a b : World} (h : Fr S a b) (hT : ∀ i, i < a.heap.size → S i → T i) : Fr T a b :=
  ⟨h.os, h.tape, h.output, h.size, fun i hi hs => h.block i hi (fun t => hs (hT i hi t))⟩
/-- two calls that turn nothing -/
theorem Fr.then {a b c : World} (h : Fr Nob a b) (k : Fr Nob b c) : Fr Nob a c := h.trans k (fun _ _ t => t)
/-- what a call did to a block that is new -/
theorem Fr.new {S : Nat → Prop} {g : Nat} {a b c : World} (h : Fr S a b) (k : Fr (One g) b c) (hg : a.heap.size ≤ g) : Fr S a c :=
  h.trans k (fun i hi t => by have : i = g := t; omega)
theorem Fr.same {S : Nat → Prop} {a b c : World} (h : Fr S a b) (k : Fr Nob b c) : Fr S a c := h.trans k (fun _ _ t => t.elim)
theorem Fr.drew {S : Nat → Prop} {a b : World} (h : Fr S a b) : Fr S a b.drew := ⟨h.os, h.tape, h.output, h.size, h.block⟩
theorem Fr.drewN {S : Nat → Prop} {a b : World} (h : Fr S a b) (n : Nat) : Fr S a (b.drewN n) := ⟨h.os, h.tape, h.output, h.size, h.block⟩
theorem Fr.alloc {S : Nat → Prop} {a b : World} (h : Fr S a b) (o : Obj) : Fr S a (b.alloc o) :=
  h.trans (T := Nob) ⟨rfl, rfl, rfl, by simp, fun k hk _ => Below.heap_alloc b o k hk⟩ (fun _ _ t => t.elim)
theorem Fr.setCell {S : Nat → Prop} {a b : World} (h : Fr S a b) (g i : Nat) (s : Option Nat) (u : Value) (hg : g < a.heap.size → S g) : Fr S a (b.setCell ⟨g, i, s⟩ u) :=
  h.trans (T := One g) ⟨rfl, rfl, rfl, by simp [World.setCell], fun k _ hk => heap_setCell_other b _ k u hk⟩ (fun i hi t => by have e : i = g := t; subst e; exact hg hi)
theorem Fr.below {a b : World} (h : Fr Nob a b) : Below a.heap.size a b := ⟨h.os, h.tape, h.output, h.size, fun k hk => h.block k hk id⟩
theorem Fr.cell {S : Nat → Prop} {a b : World} (h : Fr S a b) {g i : Nat} {v : Value} (hs : ¬ S g) (hc : a.cell? ⟨g, i, none⟩ = some v) : b.cell? ⟨g, i, none⟩ = some v :=
  (World.cell?_of_block (a := ⟨g, i, none⟩) (h.block g (block_lt_of_cell hc) hs)).trans hc

/-- block g holds just the cells L, of type T, and all of them may be written -/
def Has (w : World) (g : Nat) (L : List Value) (T : TypeId) : Prop := ∃ lo hi, w.heap[g]? = some (.cells L.toArray T (lo, hi)) ∧ (lo = hi ∨ L.length ≤ lo)

theorem Has.lt {w : World} {g : Nat} {L : List Value} {T : TypeId} (h : Has w g L T) : g < w.heap.size := by
  obtain ⟨lo, hi, h, -⟩ := h
  rcases Nat.lt_or_ge g w.heap.size with k | k
  · exact k
  · simp [Array.getElem?_eq_none k] at h
theorem Has.get {w : World} {g : Nat} {L : List Value} {T : TypeId} (h : Has w g L T) (i : Nat) : w.cell? ⟨g, i, none⟩ = L[i]? := by
  obtain ⟨lo, hi, h, -⟩ := h
  rw [cell_of_row w g i _ T _ h]; simp
theorem Has.cell {w : World} {g : Nat} {L : List Value} {T : TypeId} (h : Has w g L T) {i : Nat} {v : Value} (hv : L[i]? = some v) : w.cell? ⟨g, i, none⟩ = some v := (h.get i).trans hv
theorem Has.free {w : World} {g : Nat} {L : List Value} {T : TypeId} (h : Has w g L T) (i : Nat) (hi : i < L.length) : w.frozen? ⟨g, i, none⟩ = false := by
  obtain ⟨lo, hi', h, k⟩ := h
  simp only [World.frozen?, h]
  rcases k with rfl | k
  · simp <;> omega
  · simp <;> omega
/-- a cell that may be written -/
theorem Has.ready {w : World} {g : Nat} {L : List Value} {T : TypeId} (h : Has w g L T) {i : Nat} (hi : i < L.length) : ∃ v, w.cell? ⟨g, i, none⟩ = some v ∧ w.frozen? ⟨g, i, none⟩ = false :=
  ⟨L[i], h.cell (List.getElem?_eq_getElem hi), h.free i hi⟩
theorem Has.keep {S : Nat → Prop} {w w' : World} {g : Nat} {L : List Value} {T : TypeId} (h : Has w g L T) (hf : Fr S w w') (hs : ¬ S g) : Has w' g L T := by
  have hl := h.lt
  obtain ⟨lo, hi, h, k⟩ := h
  exact ⟨lo, hi, (hf.block g hl hs).trans h, k⟩
theorem Has.set {w : World} {g : Nat} {L : List Value} {T : TypeId} (h : Has w g L T) (i : Nat) (v : Value) : Has (w.setCell ⟨g, i, none⟩ v) g (L.set i v) T := by
  have hl := h.lt
  obtain ⟨lo, hi, h, k⟩ := h
  refine ⟨lo, hi, ?_, by simpa using k⟩
  simp only [World.setCell, Array.getElem?_modify, if_true]
  simp [h]
theorem Has.other {w : World} {g g' : Nat} {L : List Value} {T : TypeId} (h : Has w g L T) (i : Nat) (s : Option Nat) (v : Value) (hn : g ≠ g') : Has (w.setCell ⟨g', i, s⟩ v) g L T := by
  obtain ⟨lo, hi, h, k⟩ := h
  exact ⟨lo, hi, (heap_setCell_other w ⟨g', i, s⟩ g v hn).trans h, k⟩
theorem Has.new (w : World) (L : Array Value) (T : TypeId) : Has (w.alloc (.cells L T)) w.heap.size L.toList T :=
  ⟨0, 0, by have := heap_alloc_new w (.cells L T); simpa using this, .inl rfl⟩
theorem Has.alloc {w : World} {g : Nat} {L : List Value} {T : TypeId} (h : Has w g L T) (o : Obj) : Has (w.alloc o) g L T := by
  have hl := h.lt
  obtain ⟨lo, hi, h, k⟩ := h
  exact ⟨lo, hi, (Below.heap_alloc w o g hl).trans h, k⟩
theorem Has.drew {w : World} {g : Nat} {L : List Value} {T : TypeId} (h : Has w g L T) : Has w.drew g L T := h
theorem Has.drewN {w : World} {g : Nat} {L : List Value} {T : TypeId} (h : Has w g L T) (n : Nat) : Has (w.drewN n) g L T := h

/-- the cells vs lie in block b from place o on -/
def At (w : World) (b o : Nat) (vs : List Value) : Prop := ∀ i v, vs[i]? = some v → w.cell? ⟨b, o + i, none⟩ = some v
/-- n cells at a read as vs (where there is none: whatever a) -/
def Rd (w : World) (a : Option Addr) (n : Nat) (vs : List Value) : Prop := vs.length = n ∧ (n = 0 ∨ ∃ b o, a = some ⟨b, o, none⟩ ∧ At w b o vs)
/-- the block of a, if it has one, is not in S -/
def Off (S : Nat → Prop) (a : Option Addr) : Prop := ∀ x, a = some x → ¬ S x.block

theorem Off.nob (a : Option Addr) : Off Nob a := fun _ _ h => h
theorem At.keep {S : Nat → Prop} {w w' : World} {b o : Nat} {vs : List Value} (h : At w b o vs) (hf : Fr S w w') (hs : ¬ S b) : At w' b o vs :=
  fun i v hv => hf.cell hs (h i v hv)
theorem Rd.keep {S : Nat → Prop} {w w' : World} {a : Option Addr} {n : Nat} {vs : List Value} (h : Rd w a n vs) (hf : Fr S w w') (hs : Off S a) : Rd w' a n vs := by
  refine ⟨h.1, h.2.imp id ?_⟩
  rintro ⟨b, o, rfl, ha⟩
  exact ⟨b, o, rfl, ha.keep hf (hs _ rfl)⟩
theorem Rd.still {w w' : World} {a : Option Addr} {n : Nat} {vs : List Value} (h : Rd w a n vs) (hf : Fr Nob w w') : Rd w' a n vs := h.keep hf (Off.nob a)
theorem Rd.nil (w : World) (a : Option Addr) : Rd w a 0 [] := ⟨rfl, .inl rfl⟩
theorem Rd.len {w : World} {a : Option Addr} {n : Nat} {vs : List Value} (h : Rd w a n vs) : vs.length = n := h.1
theorem Rd.at {w : World} {a : Option Addr} {n : Nat} {vs : List Value} (h : Rd w a n vs) (hn : 0 < n) : ∃ b o, a = some ⟨b, o, none⟩ ∧ At w b o vs := h.2.resolve_left (by omega)
theorem Rd.ofHas {w : World} {g n : Nat} {L : List Value} {T : TypeId} (h : Has w g L T) (o : Nat) (hn : o + n ≤ L.length) : Rd w (some ⟨g, o, none⟩) n ((L.drop o).take n) := by
  refine ⟨by simp; omega, .inr ⟨g, o, rfl, fun i v hv => ?_⟩⟩
  rw [h.get]
  rw [List.getElem?_take] at hv
  split at hv
  · simpa using hv
  · cases hv
theorem Rd.whole {w : World} {g : Nat} {L : List Value} {T : TypeId} (h : Has w g L T) : Rd w (some ⟨g, 0, none⟩) L.length L := by
  simpa using Rd.ofHas h 0 (n := L.length) (by simp)
theorem At.cell {w : World} {b o : Nat} {vs : List Value} (h : At w b o vs) {i : Nat} (hi : i < vs.length) : w.cell? ⟨b, o + i, none⟩ = some (vs.getD i undef) :=
  h i _ (by simp [List.getD_eq_getElem?_getD, List.getElem?_eq_getElem hi])
/-- a piece of a slice -/
theorem At.sub {w : World} {b o : Nat} {vs : List Value} (h : At w b o vs) (k n : Nat) : At w b (o + k) ((vs.drop k).take n) := by
  intro i v hv
  rw [Nat.add_assoc]
  refine h (k + i) v ?_
  rw [List.getElem?_take] at hv
  split at hv
  · simpa using hv
  · cases hv

/-- bytes, as cells -/
def bs (l : List UInt8) : List Value := l.map fun x => .int .u8 (x.toNat : Int)
theorem length_bs (l : List UInt8) : (bs l).length = l.length := by simp [bs]
theorem bs_append (l m : List UInt8) : bs (l ++ m) = bs l ++ bs m := by simp [bs]
theorem bs_take (l : List UInt8) (n : Nat) : (bs l).take n = bs (l.take n) := by simp [bs]
theorem bs_drop (l : List UInt8) (n : Nat) : (bs l).drop n = bs (l.drop n) := by simp [bs]
theorem bs_get (l : List UInt8) (i : Nat) (hi : i < l.length) : (bs l)[i]? = some (.int .u8 ((l.getD i 0).toNat : Int)) := by
  simp [bs, List.getElem?_eq_getElem hi, List.getD_eq_getElem?_getD]
theorem bs_set (l : List UInt8) (i : Nat) (x : UInt8) : (bs l).set i (.int .u8 (x.toNat : Int)) = bs (l.set i x) := by simp [bs]
theorem bs_one (l : List UInt8) : ∀ v ∈ bs l, v.oneCell' = true := by intro v hv; simp [bs] at hv; obtain ⟨x, _, rfl⟩ := hv; rfl

/-- a slice of bytes reads as l -/
def RdB (w : World) (a : Option Addr) (n : Nat) (l : List UInt8) : Prop := Rd w a n (bs l)
theorem RdB.len {w : World} {a : Option Addr} {n : Nat} {l : List UInt8} (h : RdB w a n l) : l.length = n := by have := h.1; rwa [length_bs] at this
theorem RdB.at {w : World} {a : Option Addr} {n : Nat} {l : List UInt8} (h : RdB w a n l) (hn : 0 < n) : ∃ b o, a = some ⟨b, o, none⟩ ∧ ∀ i, i < n → w.cell? ⟨b, o + i, none⟩ = some (.int .u8 ((l.getD i 0).toNat : Int)) := by
  obtain ⟨b, o, ha, hc⟩ := Rd.at h hn
  exact ⟨b, o, ha, fun i hi => hc i _ (bs_get l i (by rw [h.len]; exact hi))⟩
theorem RdB.still {w w' : World} {a : Option Addr} {n : Nat} {l : List UInt8} (h : RdB w a n l) (hf : Fr Nob w w') : RdB w' a n l := Rd.still h hf
theorem RdB.keep {S : Nat → Prop} {w w' : World} {a : Option Addr} {n : Nat} {l : List UInt8} (h : RdB w a n l) (hf : Fr S w w') (hs : Off S a) : RdB w' a n l := Rd.keep h hf hs
theorem RdB.nil (w : World) (a : Option Addr) : RdB w a 0 [] := Rd.nil w a
/-- ints, as cells -/
def is (l : List Nat) : List Value := l.map fun (x : Nat) => .int .i64 (x : Int)
end Go.Mv

/- Laws of the walk for make, copy, append and conversions, over the words of Mem. Nothing here knows of a program. -/
namespace Go.Mv
open Go.RowKit
variable {P : Program}

theorem addr_add (g o i : Nat) : (⟨g, o, none⟩ : Addr).add i = ⟨g, o + i, none⟩ := by unfold Addr.add; split <;> simp_all

theorem splice_nil (L : List Value) (o : Nat) : splice L o [] = L := by simp [splice]
theorem splice_cons (L : List Value) (o : Nat) (v : Value) (vs : List Value) (h : o < L.length) : splice (L.set o v) (o + 1) vs = splice L o (v :: vs) := by
  unfold splice
  have e1 : (L.set o v).take (o + 1) = L.take o ++ [v] := by
    rw [List.take_set, List.take_succ_eq_append_getElem h, List.set_append_right _ _ (by simp; omega), List.length_take, Nat.min_eq_left (Nat.le_of_lt h), Nat.sub_self]
    rfl
  have e2 : (L.set o v).drop (o + 1 + vs.length) = L.drop (o + 1 + vs.length) := by rw [List.drop_set, if_pos (by omega)]
  rw [e1, e2]
  simp [Nat.add_comm, Nat.add_left_comm]

theorem run_store_has {w : World} {g : Nat} {L : List Value} {T : TypeId} (h : Has w g L T) (i : Nat) (hi : i < L.length) (v : Value) (hv : v.oneCell' = true) :
    (store ⟨g, i, none⟩ v).run P w = .ok () (w.setCell ⟨g, i, none⟩ v) := by
  rw [run_store P w _ v _ hv, h.cell (List.getElem?_eq_getElem hi)]
  simp [h.free i hi]

theorem run_storeCells_has (g o : Nat) (T : TypeId) : ∀ (vs : List Value) (i : Nat) (L : List Value) (w : World), Has w g L T → o + i + vs.length ≤ L.length → (∀ v ∈ vs, v.oneCell' = true) →
    ∃ w', (storeCells ⟨g, o, none⟩ vs i).run P w = .ok () w' ∧ Has w' g (splice L (o + i) vs) T ∧ Fr (One g) w w' ∧ w'.heap.size = w.heap.size
  | [], i, L, w, h, _, _ => ⟨w, rfl, by rw [splice_nil]; exact h, Fr.refl _ _, rfl⟩
  | v :: vs, i, L, w, h, hl, h1 => by
    have hi : o + i < L.length := by simp at hl; omega
    obtain ⟨w', hr, hh, hf, hz⟩ := run_storeCells_has g o T vs (i + 1) (L.set (o + i) v) (w.setCell ⟨g, o + i, none⟩ v) (h.set _ _) (by simp at hl ⊢; omega) (fun x hx => h1 x (by simp [hx]))
    refine ⟨w', ?_, ?_, ?_, ?_⟩
    · simp only [storeCells, Sem.run_bind, addr_add, run_store_has h (o + i) hi v (h1 v (by simp)), Result.andThen_ok, hr]
    · rw [← splice_cons L (o + i) v vs hi]; exact hh
    · exact ((Fr.refl (One g) w).setCell g (o + i) none v (fun _ => rfl)).trans hf (fun _ _ t => t)
    · rw [hz]; simp [World.setCell]

theorem At.add {w : World} {b o : Nat} {vs : List Value} (h : At w b o vs) : ∀ j u, vs[j]? = some u → w.cell? ((⟨b, o, none⟩ : Addr).add j) = some u := fun j u hu => by
  rw [addr_add]; exact h j u hu

/-- the first cells of a slice that reads as vs -/
theorem run_firstCells_rd {w : World} {a : Option Addr} {vs : List Value} (size n m c : Nat) (h : At w (a.getD ⟨0, 0, none⟩).block (a.getD ⟨0, 0, none⟩).off (vs.take (n * size)) ∨ n * size = 0) (ha : 0 < n * size → ∃ b o, a = some ⟨b, o, none⟩) (hl : n * size ≤ vs.length) :
    (Builtin.firstCells size n (.slice a m c)).run P w = .ok (vs.take (n * size)).toArray w := by
  rcases Nat.eq_zero_or_pos (n * size) with h0 | h0
  · rw [h0]
    cases a with
    | none => simp [Builtin.firstCells]
    | some ad => simp [Builtin.firstCells, h0, loadCells, loadCellsFrom]
  · obtain ⟨b, o, rfl⟩ := ha h0
    have h := h.resolve_right (by omega)
    exact run_firstCells_some (P := P) w size n ⟨b, o, none⟩ m c (vs.take (n * size)) (by simp; omega) h.add

theorem run_firstCells_Rd {w : World} {a : Option Addr} {k : Nat} {vs : List Value} (h : Rd w a k vs) (size n m c : Nat) (hl : n * size ≤ k) :
    (Builtin.firstCells size n (.slice a m c)).run P w = .ok (vs.take (n * size)).toArray w := by
  refine run_firstCells_rd size n m c ?_ ?_ (by rw [h.len]; exact hl)
  · rcases Nat.eq_zero_or_pos (n * size) with h0 | h0
    · exact .inr h0
    · obtain ⟨b, o, rfl, hc⟩ := h.at (by omega)
      refine .inl fun i v hv => hc i v ?_
      rw [List.getElem?_take] at hv
      split at hv
      · exact hv
      · cases hv
  · intro h0
    obtain ⟨b, o, rfl, _⟩ := h.at (by omega)
    exact ⟨b, o, rfl⟩

/-- a slice that the call owns: nil, or n elements (sz cells each) from place o on in a block from base on, which is known whole as far as the capacity goes -/
def Own (w : World) (base : Nat) (T : TypeId) (sz : Nat) (v : Value) (n : Nat) (L : List Value) : Prop :=
  L.length = n * sz ∧ ((v = .slice none 0 0 ∧ n = 0) ∨
    ∃ g o cap B, v = .slice (some ⟨g, o, none⟩) n cap ∧ base ≤ g ∧ Has w g B T ∧ n ≤ cap ∧ cap ≤ maxLen ∧ o + cap * sz ≤ B.length ∧ (B.drop o).take (n * sz) = L)
/-- the block of an owned slice -/
def OwnB (v : Value) : Nat → Prop := fun k => v.ownBlock = some k

theorem Own.nil (w : World) (base : Nat) (T : TypeId) (sz : Nat) : Own w base T sz (.slice none 0 0) 0 [] := ⟨by simp, .inl ⟨rfl, rfl⟩⟩
theorem Own.lt {w : World} {base : Nat} {T : TypeId} {sz : Nat} {v : Value} {n : Nat} {L : List Value} (h : Own w base T sz v n L) {k : Nat} (hk : OwnB v k) : base ≤ k ∧ k < w.heap.size := by
  rcases h.2 with ⟨rfl, _⟩ | ⟨g, o, cap, B, rfl, hb, hh, _⟩
  · cases hk
  · have : g = k := by simpa [OwnB, Value.ownBlock] using hk
    subst this
    exact ⟨hb, hh.lt⟩
theorem Own.keep {S : Nat → Prop} {w w' : World} {base : Nat} {T : TypeId} {sz : Nat} {v : Value} {n : Nat} {L : List Value} (h : Own w base T sz v n L) (hf : Fr S w w') (hs : ∀ k, OwnB v k → ¬ S k) : Own w' base T sz v n L := by
  refine ⟨h.1, h.2.imp id ?_⟩
  rintro ⟨g, o, cap, B, rfl, hb, hh, r⟩
  exact ⟨g, o, cap, B, rfl, hb, hh.keep hf (hs g rfl), r⟩
theorem Own.still {w w' : World} {base : Nat} {T : TypeId} {sz : Nat} {v : Value} {n : Nat} {L : List Value} (h : Own w base T sz v n L) (hf : Fr Nob w w') : Own w' base T sz v n L := h.keep hf (fun _ _ t => t)
theorem Own.mono {w : World} {base base' : Nat} {T : TypeId} {sz : Nat} {v : Value} {n : Nat} {L : List Value} (h : Own w base T sz v n L) (hb : base' ≤ base) : Own w base' T sz v n L := by
  refine ⟨h.1, h.2.imp id ?_⟩
  rintro ⟨g, o, cap, B, rfl, hb', r⟩
  exact ⟨g, o, cap, B, rfl, Nat.le_trans hb hb', r⟩
theorem Own.form {w : World} {base : Nat} {T : TypeId} {sz : Nat} {v : Value} {n : Nat} {L : List Value} (h : Own w base T sz v n L) : ∃ a cap, v = .slice a n cap ∧ n ≤ cap ∧ Rd w a (n * sz) L ∧ (∀ x, a = some x → base ≤ x.block) := by
  rcases h.2 with ⟨rfl, rfl⟩ | ⟨g, o, cap, B, rfl, hb, hh, hn, hm, hl, ht⟩
  · refine ⟨none, 0, rfl, Nat.le_refl _, ⟨by simpa using h.1, .inl (by simp)⟩, by simp⟩
  · have hle : n * sz ≤ cap * sz := Nat.mul_le_mul_right _ hn
    refine ⟨_, cap, rfl, hn, ?_, by simpa using hb⟩
    rw [← ht]
    exact Rd.ofHas hh o (by omega)
theorem Own.made {w : World} {g : Nat} {T : TypeId} {B : List Value} (h : Has w g B T) (base : Nat) (hb : base ≤ g) (sz n cap : Nat) (hn : n ≤ cap) (hm : cap ≤ maxLen) (hl : cap * sz ≤ B.length) :
    Own w base T sz (.slice (some ⟨g, 0, none⟩) n cap) n (B.take (n * sz)) := by
  have hle : n * sz ≤ cap * sz := Nat.mul_le_mul_right _ hn
  exact ⟨by simp; omega, .inr ⟨g, 0, cap, B, rfl, hb, h, hn, hm, by omega, by simp⟩⟩
/-- behind a step that wrote to an owned block alone -/
theorem Own.fr {S : Nat → Prop} {w0 w w' : World} {base : Nat} {T : TypeId} {sz : Nat} {v : Value} {n : Nat} {L : List Value} (h : Own w base T sz v n L) (hf : Fr S w0 w) (hb : w0.heap.size ≤ base) (k : Fr (OwnB v) w w') : Fr S w0 w' :=
  hf.trans k (fun _ hi t => by have := (h.lt t).1; omega)

theorem splice_length (L : List Value) (o : Nat) (vs : List Value) (h : o + vs.length ≤ L.length) : (splice L o vs).length = L.length := length_splice L o vs h
theorem splice_take (L : List Value) (o k : Nat) (vs : List Value) (h : o + k + vs.length ≤ L.length) : ((splice L (o + k) vs).drop o).take (k + vs.length) = (L.drop o).take k ++ vs := by
  unfold splice
  have h1 : (L.take (o + k)).drop o = (L.drop o).take k := by rw [List.drop_take]; congr 1; omega
  rw [List.drop_append_of_le_length (by simp; omega), h1]
  rw [← List.append_assoc]
  exact List.take_left' (by simp; omega)

theorem run_append_room2 {w : World} (t ty e : TypeId) (i : TypeInfo) (ht : P.underlying t = some (.slice e)) (hi : P.info? e = some i)
    (g o sLen sCap : Nat) (B : List Value) (T : TypeId) (hg : Has w g B T) (a : Option Addr) (m c : Nat) (news : List Value) (hnews : Rd w a (m * i.size) news) (h1 : ∀ u ∈ news, u.oneCell' = true)
    (hroom : sLen + m ≤ sCap) (hfit : o + sLen * i.size + news.length ≤ B.length) :
    ∃ w', (Builtin.append_ #[t, t] ty #[.slice (some ⟨g, o, none⟩) sLen sCap, .slice a m c]).run P w = .ok (.slice (some ⟨g, o, none⟩) (sLen + m) sCap) w' ∧
      Has w' g (splice B (o + sLen * i.size) news) T ∧ Fr (One g) w w' ∧ w'.heap.size = w.heap.size := by
  have hf := run_firstCells_Rd (P := P) hnews i.size m m c (Nat.le_refl _)
  rw [List.take_of_length_le (by rw [hnews.len]; exact Nat.le_refl _)] at hf
  obtain ⟨w', hst, hh, hfr, hz⟩ := run_storeCells_has (P := P) g (o + sLen * i.size) T news 0 B w hg (by omega) h1
  simp only [Nat.add_zero] at hh
  refine ⟨w', ?_, hh, hfr, hz⟩
  simp [Builtin.append_, run_underlying ht, sizeOf, typeInfo, hi, Builtin.lenOf, hroom, hf, addr_add, hst]

theorem run_append_zero {w : World} (t ty e : TypeId) (i : TypeInfo) (ht : P.underlying t = some (.slice e)) (hi : P.info? e = some i) (s : Option Addr) (sLen sCap : Nat) (hl : sLen ≤ sCap) (a : Option Addr) (c : Nat) :
    (Builtin.append_ #[t, t] ty #[.slice s sLen sCap, .slice a 0 c]).run P w = .ok (.slice s sLen sCap) w := by
  have hf : (Builtin.firstCells i.size 0 (.slice a 0 c)).run P w = .ok #[] w := by
    cases a <;> simp [Builtin.firstCells, loadCells, loadCellsFrom]
  cases s <;> simp [Builtin.append_, run_underlying ht, sizeOf, typeInfo, hi, Builtin.lenOf, hl, hf, storeCells]

theorem run_append2 {w : World} (base : Nat) (t ty e : TypeId) (z : Value) (sz by_ : Nat) (ht : P.underlying t = some (.slice e)) (hi0 : (P.info? e).map (fun i => (i.zero, i.size, i.bytes)) = some (some z, sz, by_))
    (hzs : z.cells.size = sz) (hsz : 0 < sz)
    (v : Value) (n : Nat) (L : List Value) (hown : Own w base e sz v n L)
    (a : Option Addr) (m c : Nat) (news : List Value) (hnews : Rd w a (m * sz) news) (h1 : ∀ u ∈ news, u.oneCell' = true)
    (h63 : n + m ≤ maxLen) (hbytes : (n + m) * by_ ≤ 140737488355328) (hbase : base ≤ w.heap.size) :
    ∃ v' w', (Builtin.append_ #[t, t] ty #[v, .slice a m c]).run P w = .ok v' w' ∧ Own w' base e sz v' (n + m) (L ++ news) ∧ Fr (OwnB v) w w' ∧
      (v'.ownBlock = v.ownBlock ∨ v'.ownBlock = some w.heap.size) := by
  obtain ⟨i, hi, hz, hsize, hby⟩ := info_parts hi0
  subst hsize
  subst hby
  rcases Nat.eq_zero_or_pos m with rfl | hm
  · obtain ⟨s, cap, rfl, hc, -, -⟩ := hown.form
    have hn : news = [] := List.eq_nil_of_length_eq_zero (by rw [hnews.len]; simp)
    subst hn
    exact ⟨_, w, run_append_zero t ty e i ht hi s n cap hc a c, by simpa using hown, Fr.refl _ _, .inl rfl⟩
  have hms : 0 < m * i.size := Nat.mul_pos hm hsz
  obtain ⟨b, o', rfl, hat⟩ := hnews.at hms
  have hlen : (L ++ news).length = (n + m) * i.size := by rw [List.length_append, hown.1, hnews.len, Nat.add_mul]
  have hsmall : n + m ≤ 9223372036854775807 := by simp only [maxLen] at h63; omega
  have grown : ∀ (old : Nat), old < n + m →
      Own (w.drew.alloc (.cells (L.toArray ++ news.toArray ++ Builtin.zeroCells z.cells (grownCap w (n + m) old e - (n + m))) e)) base e i.size
        (.slice (some ⟨w.heap.size, 0, none⟩) (n + m) (grownCap w (n + m) old e)) (n + m) (L ++ news) ∧
      Fr (OwnB v) w (w.drew.alloc (.cells (L.toArray ++ news.toArray ++ Builtin.zeroCells z.cells (grownCap w (n + m) old e - (n + m))) e)) := by
    intro old ho
    have hge := grownCap_ge w (n + m) old e
    have hcm : grownCap w (n + m) old e ≤ maxLen := grownCap_le_maxLen w (n + m) old e h63
    have hz' : (Builtin.zeroCells z.cells (grownCap w (n + m) old e - (n + m))).size = (grownCap w (n + m) old e - (n + m)) * i.size := by simp [size_zeroCells, hzs]
    have hmul : (n + m) * i.size + (grownCap w (n + m) old e - (n + m)) * i.size = grownCap w (n + m) old e * i.size := by rw [← Nat.add_mul]; congr 1; omega
    refine ⟨⟨hlen, .inr ⟨w.heap.size, 0, _, _, rfl, hbase, Has.new w.drew _ e, hge, hcm, ?_, ?_⟩⟩, ((Fr.refl _ w).drew).alloc _⟩
    · rw [List.length_append] at hlen
      simp only [Array.toList_append, List.length_append, Array.length_toList, hz', Nat.zero_add]
      omega
    · simp only [Array.toList_append, List.drop_zero]
      rw [← hlen]
      exact List.take_left
  rcases hown.2 with ⟨rfl, rfl⟩ | ⟨g, o, cap, B, rfl, hbg, hg, hnc, hcm, hl, htake⟩
  · have hx : L = [] := List.eq_nil_of_length_eq_zero (by simpa using hown.1)
    subst hx
    have hr := run_append_nil (P := P) w t ty e i z ht hi hz ⟨b, o', none⟩ m c news hnews.len hat.add hm (by omega) (by have hb := hbytes; simp only [Nat.zero_add] at hb; omega)
    have hgr := grown 0 (by omega)
    simp only [Nat.zero_add, List.nil_append, Array.empty_append] at hgr ⊢
    exact ⟨_, _, hr, hgr.1, hgr.2, .inr rfl⟩
  · by_cases hroom : n + m ≤ cap
    · have hle : (n + m) * i.size ≤ cap * i.size := Nat.mul_le_mul_right _ hroom
      have hnl := hnews.len
      have hfit : o + n * i.size + news.length ≤ B.length := by rw [Nat.add_mul] at hle; omega
      obtain ⟨w', hr, hh, hf, hzz⟩ := run_append_room2 (P := P) t ty e i ht hi g o n cap B e hg _ m c news hnews h1 hroom hfit
      refine ⟨_, _, hr, ⟨hlen, .inr ⟨g, o, cap, _, rfl, hbg, hh, hroom, hcm, ?_, ?_⟩⟩, hf.mono (fun k _ t => by have e : k = g := t; subst e; rfl), .inl rfl⟩
      · rw [splice_length _ _ _ hfit]; exact hl
      · have := splice_take B o (n * i.size) news hfit
        rw [htake] at this
        rw [← this, hnl, Nat.add_mul]
    · have hle : n * i.size ≤ cap * i.size := Nat.mul_le_mul_right _ hnc
      have hrd : Rd w (some ⟨g, o, none⟩) (n * i.size) L := by rw [← htake]; exact Rd.ofHas hg o (by omega)
      have holds : ∀ j u, L[j]? = some u → w.cell? ((⟨g, o, none⟩ : Addr).add j) = some u := by
        rcases Nat.eq_zero_or_pos (n * i.size) with h0 | h0
        · have : L = [] := List.eq_nil_of_length_eq_zero (by rw [hown.1, h0])
          subst this; intro j u hu; simp at hu
        · obtain ⟨b2, o2, he, hc2⟩ := hrd.at h0
          simp only [Option.some.injEq, Addr.mk.injEq] at he
          obtain ⟨rfl, rfl, -⟩ := he
          exact hc2.add
      have hr := run_append_grow (P := P) w t ty e i z ht hi hz ⟨g, o, none⟩ n cap L hown.1 holds ⟨b, o', none⟩ m c news hnews.len hat.add (by omega) (by omega) (growslice_fits (by omega) hbytes)
      have hgr := grown cap (by omega)
      exact ⟨_, _, hr, hgr.1, hgr.2, .inr rfl⟩

/-- the bytes of a string, as cells -/
theorem bs_data (s : ByteArray) : bs s.data.toList = (s.data.map fun b => Value.int .u8 b.toNat).toList := by simp [bs]
theorem bs_len (s : ByteArray) : (bs s.data.toList).length = s.size := by simp [bs]

section
variable {w : World} {ops : Array Oper} {rest : List Oper} {o : Oper} {a : Act} {Q : Exit → Act → World → Prop}

/-- append(s, x...), x a slice -/
theorem wl_append {s x : Operand} {t : TypeId} (hgd : o.guard = none) (ho : o.op = .call { callee := .builtin .append, args := #[s, x], argTypes := #[t, t] })
    {e : TypeId} {z : Value} {sz by_ : Nat} (ht : P.underlying t = some (.slice e)) (hi0 : (P.info? e).map (fun i => (i.zero, i.size, i.bytes)) = some (some z, sz, by_))
    (hzs : z.cells.size = sz) (hsz : 0 < sz)
    {v : Value} {n base : Nat} {L : List Value} (hown : Own w base e sz v n L) (hs : a.eval s = v)
    {xa : Option Addr} {m c : Nat} {news : List Value} (hx : a.eval x = .slice xa m c) (hnews : Rd w xa (m * sz) news) (h1 : ∀ u ∈ news, u.oneCell' = true)
    (h63 : n + m ≤ maxLen) (hbytes : (n + m) * by_ ≤ 140737488355328) (hbase : base ≤ w.heap.size)
    (h : ∀ v' w', Own w' base e sz v' (n + m) (L ++ news) → Fr (OwnB v) w w' → (v'.ownBlock = v.ownBlock ∨ v'.ownBlock = some w.heap.size) → wpList P ops Q rest (a.put o.dst v') w') : wpList P ops Q (o :: rest) a w := by
  refine wpList_plain hgd fun K hK => ?_
  obtain ⟨v', w', hr, h2, h3, h4⟩ := run_append2 (P := P) base t o.type e z sz by_ ht hi0 hzs hsz v n L hown xa m c news hnews h1 h63 hbytes hbase
  unfold Oper.wp execOp
  simp only [ho, resolve, invoke, builtin, Sem.run_bind, Sem.run_pure, Result.andThen_ok, List.map_toArray, List.map_cons, List.map_nil, hs, hx, hr]
  exact hK _ _ (h v' w' h2 h3 h4)

theorem madeCells_one (z : Value) (hz : z.cells = #[z]) (n : Nat) : (madeCells z.cells n).toList = List.replicate n z := by rw [hz]; exact toList_madeCells_one z n

/-- make([]T, n), T of one cell -/
theorem wl_make {l c : Operand} {t : TypeId} (hgd : o.guard = none) (ho : o.op = .makeSlice t l c) {e : TypeId} {z : Value} {by_ : Nat} (ht : P.underlying t = some (.slice e))
    (hi0 : (P.info? e).map (fun i => (i.zero, i.size, i.bytes)) = some (some z, 1, by_)) (hzc : z.cells = #[z]) {kl kc : IntKind} {x y : Int} (hl : a.eval l = .int kl x) (hc : a.eval c = .int kc y) (n m : Nat) (hx : x = n) (hy : y = m) (hnm : n ≤ m)
    (hb : by_ * m ≤ 281474976710656) (h63 : m ≤ maxLen)
    (h : ∀ w', Has w' w.heap.size (List.replicate m z) e → Fr Nob w w' → w'.heap.size = w.heap.size + 1 → wpList P ops Q rest (a.put o.dst (.slice (some ⟨w.heap.size, 0, none⟩) n m)) w') : wpList P ops Q (o :: rest) a w := by
  refine wpList_plain hgd fun K hK => ?_
  obtain ⟨i, hi, hz, hsize, hby⟩ := info_parts hi0
  subst hx
  subst hy
  have hmx : (m : Int) ≤ 9223372036854775807 := by simp only [maxLen] at h63; omega
  have hbb : (i.bytes : Int) * (m : Int) ≤ 281474976710656 := by
    have k : ((i.bytes * m : Nat) : Int) ≤ 281474976710656 := by rw [hby]; omega
    rwa [Int.natCast_mul] at k
  have hr := run_make (P := P) w t e i z ht hi hz kl kc n m (by omega) (by omega) hbb hmx
  simp only [Int.toNat_natCast, hsize, Nat.mul_one] at hr
  unfold Oper.wp execOp
  simp only [ho, hl, hc, Sem.run_bind, Sem.run_pure, Result.andThen_ok, hr]
  refine hK _ _ (h _ ?_ ((Fr.refl _ w).alloc _) (by simp))
  have := Has.new w (madeCells z.cells m) e
  rwa [madeCells_one z hzc] at this

/-- copy(d, s), d in a block that is known, s a slice -/
theorem wl_copy {d s : Operand} {t u : TypeId} (hgd : o.guard = none) (ho : o.op = .call { callee := .builtin .copy, args := #[d, s], argTypes := #[t, u] }) {e : TypeId} (ht : P.underlying t = some (.slice e)) (hsz : (P.info? e).map (·.size) = some 1)
    {g off dn dc : Nat} (hd : a.eval d = .slice (some ⟨g, off, none⟩) dn dc) {sa : Option Addr} {m c : Nat} (hs : a.eval s = .slice sa m c) {B vs : List Value} {T : TypeId} (hg : Has w g B T) (hrd : Rd w sa m vs) (h1 : ∀ v ∈ vs, v.oneCell' = true)
    (hfit : off + min m dn ≤ B.length)
    (h : ∀ w', Has w' g (splice B off (vs.take (min m dn))) T → Fr (One g) w w' → w'.heap.size = w.heap.size → wpList P ops Q rest (a.put o.dst (.int .i64 (min m dn : Nat))) w') : wpList P ops Q (o :: rest) a w := by
  refine wpList_plain hgd fun K hK => ?_
  obtain ⟨i, hi, hi1⟩ : ∃ i, P.info? e = some i ∧ i.size = 1 := by simpa using hsz
  have hfc := run_firstCells_Rd (P := P) hrd 1 (min m dn) m c (by omega)
  rw [Nat.mul_one] at hfc
  have hlen : (vs.take (min m dn)).length = min m dn := by rw [List.length_take, hrd.len]; omega
  obtain ⟨w', hst, hh, hf, hz⟩ := run_storeCells_has (P := P) g off T (vs.take (min m dn)) 0 B w hg (by rw [hlen]; omega) (fun v hv => h1 v (List.mem_of_mem_take hv))
  simp only [Nat.add_zero] at hh
  have hr : (Builtin.copy_ #[t, u] o.type #[.slice (some ⟨g, off, none⟩) dn dc, .slice sa m c]).run P w = .ok (.int .i64 (min m dn : Nat)) w' := by
    simp [Builtin.copy_, run_underlying ht, sizeOf, typeInfo, hi, hi1, Builtin.lenOf, hfc, hst, goInt]
  unfold Oper.wp execOp
  simp only [ho, resolve, invoke, builtin, Sem.run_bind, Sem.run_pure, Result.andThen_ok, List.map_toArray, List.map_cons, List.map_nil, hd, hs, hr]
  exact hK _ _ (h w' hh hf hz)

/-- bytes as a string -/
def mkS (l : List UInt8) : ByteArray := ⟨l.toArray⟩
theorem mkS_data (s : ByteArray) : mkS s.data.toList = s := by simp [mkS]
theorem mkS_size (l : List UInt8) : (mkS l).size = l.length := by simp [mkS, ByteArray.size]
theorem mkS_inj {l m : List UInt8} (h : mkS l = mkS m) : l = m := by have := congrArg (fun s => s.data.toList) h; simpa [mkS] using this

theorem run_string {sa : Option Addr} {m : Nat} {l : List UInt8} (hrd : RdB w sa m l) (c : Nat) {src e dst : TypeId} (hs : P.underlying src = some (.slice e)) (he : P.underlying e = some (.int .u8)) (hd : P.underlying dst = some .string) :
    (convert src dst (.slice sa m c)).run P w = .ok (.string (mkS l)) w := by
  have hl := hrd.len
  rcases Nat.eq_zero_or_pos m with h0 | h0
  · subst h0
    obtain rfl : l = [] := List.eq_nil_of_length_eq_zero hl
    cases sa with
    | none => exact run_convert_bytes_nil w src e hs he 0 c dst hd
    | some ad =>
      rw [run_convert_bytes_string w src dst e _ 0 c hs he hd]
      simp [Conv.bytesToString, mkS, loadCells, loadCellsFrom]
      rfl
  · obtain ⟨b, o, rfl, hc⟩ := hrd.at h0
    have := run_convert_bytes_arg (P := P) w src e hs he b o m c (l.map fun x => (x.toNat : Int)) (by simp [hl]) (fun i hi => by
      rw [hc i hi]; simp [List.getD_eq_getElem?_getD, List.getElem?_eq_getElem (show i < l.length by omega)]) dst hd
    rw [this]
    have hid : (l.map ((fun n : Int => UInt8.ofNat n.toNat) ∘ fun x : UInt8 => (x.toNat : Int))) = l := by
      rw [List.map_congr_left (g := id)]
      · simp
      · intro x _; simp
    simp only [strOfNums, List.map_map, hid, mkS]

/-- string(b) -/
theorem wl_string {x : Operand} {src dst : TypeId} (hgd : o.guard = none) (ho : o.op = .convert src dst x) {e : TypeId} (hs : P.underlying src = some (.slice e)) (he : P.underlying e = some (.int .u8)) (hd : P.underlying dst = some .string)
    {sa : Option Addr} {m c : Nat} {l : List UInt8} (hx : a.eval x = .slice sa m c) (hrd : RdB w sa m l) (h : wpList P ops Q rest (a.put o.dst (.string (mkS l))) w) : wpList P ops Q (o :: rest) a w := by
  refine wpList_plain hgd fun K hK => ?_
  have hr := run_string (P := P) hrd c hs he hd
  unfold Oper.wp execOp
  simp only [ho, hx, Sem.run_bind, Sem.run_pure, Result.andThen_ok, hr]
  exact hK _ _ h

/-- []byte(s) -/
theorem wl_bytes {x : Operand} {src dst : TypeId} (hgd : o.guard = none) (ho : o.op = .convert src dst x) {e : TypeId} (hs : P.underlying src = some .string) (hd : P.underlying dst = some (.slice e)) (he : P.underlying e = some (.int .u8))
    {q : ByteArray} (hx : a.eval x = .string q) (hq : q.size ≤ maxLen) (base : Nat) (hb : base ≤ w.heap.size)
    (h : ∀ cap w', Own w' base e 1 (.slice (some ⟨w.heap.size, 0, none⟩) q.size cap) q.size (bs q.data.toList) → Fr Nob w w' → w.heap.size < w'.heap.size → wpList P ops Q rest (a.put o.dst (.slice (some ⟨w.heap.size, 0, none⟩) q.size cap)) w') : wpList P ops Q (o :: rest) a w := by
  refine wpList_plain hgd fun K hK => ?_
  have hr := run_bytes_of_string (P := P) w src dst e q hs hd he
  have hge := grownCap_ge w q.size 0 e
  have hcm := grownCap_le_maxLen w q.size 0 e hq
  unfold Oper.wp execOp
  simp only [ho, hx, Sem.run_bind, Sem.run_pure, Result.andThen_ok, hr]
  refine hK _ _ (h _ _ ⟨by rw [bs_len]; omega, .inr ⟨w.heap.size, 0, _, (bytesRow q (grownCap w q.size 0 e)).toList, rfl, hb, ?_, hge, hcm, ?_, ?_⟩⟩ (((Fr.refl _ w).drew).alloc _) (by simp))
  · refine ⟨(bytesRow q (grownCap w q.size 0 e)).size, (bytesRow q (grownCap w q.size 0 e)).size + 1, ?_, .inr (Nat.le_of_eq ?_)⟩
    · have := heap_alloc_new w.drew (.cells (bytesRow q (grownCap w q.size 0 e)) e ((bytesRow q (grownCap w q.size 0 e)).size, (bytesRow q (grownCap w q.size 0 e)).size + 1))
      simpa using this
    · simp
  · have hd : q.data.size = q.size := rfl
    simp [bytesRow, hd]; omega
  · simp only [bytesRow, Array.toList_append, List.drop_zero, Nat.mul_one]
    rw [← bs_data]
    exact List.take_left' (by rw [bs_len])
end

/-- the walk stands still here -/
def Stop (p : Prop) : Prop := p
theorem wl_stop {w : World} {ops : Array Oper} {rest : List Oper} {o : Oper} {a : Act} {Q : Exit → Act → World → Prop} (h : Stop (wpList P ops Q (o :: rest) a w)) : wpList P ops Q (o :: rest) a w := h

theorem toList_data (s : ByteArray) : s.toList = s.data.toList := by
  have key : ∀ (n i : Nat) (r : List UInt8), s.size - i = n → ByteArray.toList.loop s i r = r.reverse ++ s.data.toList.drop i := by
    intro n
    induction n with
    | zero =>
      intro i r h
      rw [ByteArray.toList.loop, if_neg (by omega), List.drop_eq_nil_of_le (by simp; omega), List.append_nil]
    | succ n ih =>
      intro i r h
      have hi : i < s.size := by omega
      rw [ByteArray.toList.loop, if_pos hi, ih (i + 1) _ (by omega)]
      have hl : i < s.data.toList.length := by simpa using hi
      rw [List.drop_eq_getElem_cons hl]
      have e : s.get! i = s.data.toList[i] := by
        have hd : i < s.data.size := hi
        show s.data[i]! = _
        rw [getElem!_pos s.data i hd]; simp
      rw [e]; simp
  have := key s.size 0 [] (by omega)
  simpa [ByteArray.toList] using this
end Go.Mv
