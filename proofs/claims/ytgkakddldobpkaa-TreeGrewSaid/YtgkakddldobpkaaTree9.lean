/- The reference's grows, Grown. -/
import Derived.Test.YtgkakddldobpkaaTree6
import Derived.Test.YtgkakddldobpkaaTree8
namespace Go.Proofs.Ytgkakddldobpkaa
open Go.RowKit Go.Mv Mvp Mvt
attribute [local irreducible] permS permP toB turnsK squeeze permN permB spongeB feed frameL framesL tagL leafL nodeL

/-- three results -/
def Three (p : (List UInt8 × List UInt8) × Bool) (w : World) (e : Ending) (w' : World) : Prop := e = .returned (.tuple #[.string (mkS p.1.1), .string (mkS p.1.2), .bool p.2]) ∧ Fr Nob w w'

theorem growsR_len (old : List UInt8) (ho : old.length ≤ 70000) : ∀ (r : List (List UInt8)) (m n : Nat) (wt : Bool), (∀ x ∈ r, x.length = 32) → (growsR nodeL [] old r m n wt).1.1.length ≤ 70000 ∧ (growsR nodeL [] old r m n wt).1.2.length ≤ 70000
  | [], m, n, wt, _ => by simp only [growsR]; split <;> (try split) <;> simp [ho]
  | x :: r, m, n, wt, hx => by
    have h1 := hx x (by simp)
    have hI := fun m n wt => growsR_len old ho r m n wt (fun y hy => hx y (by simp [hy]))
    simp only [growsR]
    split
    · split
      · exact ⟨ho, ho⟩
      · split
        · simp [h1]
        · simp
    · split
      · exact ⟨(hI _ _ _).1, by simp [nodeL_len]⟩
      · simp [nodeL_len]

set_option maxHeartbeats 4000000 in
set_option maxRecDepth 1000000 in
theorem growsR_any (old : List UInt8) (hold : old.length ≤ 70000) : ∀ (r : List (List UInt8)) (L m n : Nat) (wt : Bool) (a : Option Addr) (c : Nat) (w : World), r.length = L → L ≤ 1000000 → L ≤ c → (∀ x ∈ r, x.length = 32) → Rd w a L (ss r.reverse) → 1 ≤ m → m ≤ n → n ≤ 1048576 →
    Calls Try.prog 67 #[.int .i64 (m : Int), .int .i64 (n : Int), .bool wt, .string (mkS old), .slice a L c] w (Three (growsR nodeL [] old r m n wt) w) := by
  intro r
  induction r with
  | nil =>
    intro L m n wt a c w hml hm hc hx hb h1m hmn hn2
    obtain rfl : L = 0 := by simpa using hml.symm
    clear hml hn2 hm hold
    by_cases h1 : m = n
    · subst h1
      cases wt
      · go_enter Try.func67, Try.ntmps67
        go_wp2_with fail
        go_ret3
        exact ⟨by simp [growsR]; rfl, Fr.refl _ _⟩
      · go_enter Try.func67, Try.ntmps67
        go_wp2_with fail
        go_ret3
        exact ⟨by simp [growsR], Fr.refl _ _⟩
    · have q1 : ((m : Int) == (n : Int)) = false := by simp; omega
      have q2 : (m == n) = false := by simpa using h1
      have H1 := Lib.hid h1; clear h1
      go_enter Try.func67, Try.ntmps67
      go_wp2_with fail
      go_ret3
      exact ⟨by simp [growsR, H1.out]; rfl, Fr.refl _ _⟩
  | cons x r ih =>
    intro L m n wt a c w hml hm hc hx hb h1m hmn hn2
    obtain ⟨k, rfl⟩ : ∃ k, L = k + 1 := ⟨r.length, by simpa using hml.symm⟩
    have hrk : r.length = k := by simpa using hml
    clear hml
    have hb1 : Rd w a k (ss r.reverse) := by
      have := rd_front (m := k) hb (by omega)
      rw [List.reverse_cons, ss_append, List.take_left' (by rw [ss_len, List.length_reverse, hrk])] at this
      exact this
    obtain ⟨b, o, rfl, hat⟩ := hb.at (by omega)
    have hcx : w.cell? ⟨b, o + k, none⟩ = some (.string (mkS x)) := hat k _ (by
      rw [List.reverse_cons, ss_append, List.getElem?_append_right (by rw [ss_len, List.length_reverse, hrk]; exact Nat.le_refl _), ss_len, List.length_reverse, hrk, Nat.sub_self]; rfl)
    have hxl : x.length = 32 := hx x (by simp)
    have hx' : ∀ y ∈ r, y.length = 32 := fun y hy => hx y (by simp [hy])
    clear hat hb hx
    have HXL := Lib.hid hxl; clear hxl
    by_cases h1 : m = n
    · subst h1
      clear ih hx' hb1 hn2
      have HRK := Lib.hid hrk; clear hrk
      cases wt
      · by_cases hk0 : k = 0
        · subst hk0
          have hcx0 : w.cell? ⟨b, o, none⟩ = some (.string (mkS x)) := hcx
          clear hcx
          go_enter Try.func67, Try.ntmps67
          go_wp2_with fail
          go_quiet (fail)
          go_wp2_with fail
          go_ret3
          exact ⟨by simp [growsR, HRK.out], (Fr.refl Nob w).drewN nq⟩
        · have hkI : ¬ (k : Int) = 0 := by omega
          have q1 : ((k : Int) == 0) = false := by simpa using hk0
          have q2 : (k == 0) = false := by simpa using hk0
          have H0 := Lib.hid hk0
          go_enter Try.func67, Try.ntmps67
          go_wp2_with fail
          go_ret3
          exact ⟨by simp [growsR, HRK.out, H0.out]; rfl, Fr.refl _ _⟩
      · go_enter Try.func67, Try.ntmps67
        go_wp2_with fail
        go_ret3
        exact ⟨by simp [growsR], Fr.refl _ _⟩
    · have q1 : ((m : Int) == (n : Int)) = false := by simp; omega
      have q2 : (m == n) = false := by simpa using h1
      have hk1 := half_le n (by omega)
      have hk2 := half_pos n
      have H1 := Lib.hid h1
      have e1 := fun wx => run_slice_hi (P := Try.prog) wx Try.underlying30 size_str (some ⟨b, o, none⟩) (k + 1) c .i64 k (by omega)
      have hIH : ∀ (m' n' : Nat) (wt' : Bool) w', Fr Nob w w' → 1 ≤ m' → m' ≤ n' → n' ≤ 1048576 → Calls Try.prog 67 #[.int .i64 ((m' : Nat) : Int), .int .i64 ((n' : Nat) : Int), .bool wt', .string (mkS old), .slice (some ⟨b, o, none⟩) k c] w' (Three (growsR nodeL [] old r m' n' wt') w') :=
        fun m' n' wt' w' hf h2 h3 h4 => ih k m' n' wt' _ c w' hrk (by omega) (by omega) hx' (hb1.still hf) h2 h3 h4
      have hln : ∀ m' n' wt', (growsR nodeL [] old r m' n' wt').1.1.length ≤ 70000 ∧ (growsR nodeL [] old r m' n' wt').1.2.length ≤ 70000 := fun m' n' wt' => growsR_len old hold r m' n' wt' hx'
      have hnn : 2 ≤ n := by omega
      have HN2 := Lib.hid hn2
      have HNN := Lib.hid hnn
      have HIH := Lib.hid hIH
      have HLN := Lib.hid hln
      have HRK := Lib.hid hrk
      clear ih hx' hb1 hIH hln hrk hn2 h1 hold hnn
      go_enter Try.func67, Try.ntmps67
      go_wp2_with fail
      refine (halfR_any n w HNN.out HN2.out).mono ?_
      rintro e w1 ⟨rfl, rfl⟩
      generalize hkk : half n = hf at *
      have HK := Lib.hid hkk; clear hkk
      by_cases hlt : m ≤ hf
      · have hltI : (m : Int) ≤ (hf : Int) := by omega
        go_wp2_with fail
        refine (HIH.out m hf wt w (Fr.refl _ _) h1m hlt (by have := HN2.out; omega)).mono ?_
        rintro e w2 ⟨rfl, hf2⟩
        have hl2 := HLN.out m hf wt
        have hsp : growsR nodeL [] old (x :: r) m n wt = (((growsR nodeL [] old r m hf wt).1.1, nodeL (growsR nodeL [] old r m hf wt).1.2 x), (growsR nodeL [] old r m hf wt).2) := by
          rw [growsR, if_neg H1.out, HK.out, if_pos hlt]
        generalize growsR nodeL [] old r m hf wt = y at *
        have HSP := Lib.hid hsp; clear hsp
        have hcx2 := hf2.cell id hcx
        obtain ⟨⟨y1, y2⟩, y3⟩ := y
        have hy2 : y2.length ≤ 70000 := hl2.2
        clear hcx e1 hl2
        go_wp2_with fail
        refine (nodeR_any y2 x w2 (by rw [HXL.out]; omega)).mono ?_
        rintro e w3 ⟨rfl, hf3⟩
        go_wp2_with fail
        go_ret3
        exact ⟨by rw [HSP.out]; rfl, hf2.then hf3⟩
      · have hltI : ¬ (m : Int) ≤ (hf : Int) := by omega
        have e2 : (n : Int) - (hf : Int) = ((n - hf : Nat) : Int) := by omega
        have e3 : (m : Int) - (hf : Int) = ((m - hf : Nat) : Int) := by omega
        have hn3 := HN2.out
        have hmn3 : m ≤ 1048576 := by omega
        go_wp2_with fail
        clear e2 e3 hn3 hmn3
        refine (HIH.out (m - hf) (n - hf) false w (Fr.refl _ _) (by omega) (by omega) (by have := HN2.out; omega)).mono ?_
        rintro e w2 ⟨rfl, hf2⟩
        have hl2 := HLN.out (m - hf) (n - hf) false
        have hsp : growsR nodeL [] old (x :: r) m n wt = ((nodeL x (growsR nodeL [] old r (m - hf) (n - hf) false).1.1, nodeL x (growsR nodeL [] old r (m - hf) (n - hf) false).1.2), (growsR nodeL [] old r (m - hf) (n - hf) false).2) := by
          rw [growsR, if_neg H1.out, HK.out, if_neg hlt]
        generalize growsR nodeL [] old r (m - hf) (n - hf) false = y at *
        have HSP := Lib.hid hsp; clear hsp
        have hcx2 := hf2.cell id hcx
        obtain ⟨⟨y1, y2⟩, y3⟩ := y
        have hy1 : x.length + y1.length ≤ 90000 := by rw [HXL.out]; have := hl2.1; simp only at this; omega
        have hy2 : x.length + y2.length ≤ 90000 := by rw [HXL.out]; have := hl2.2; simp only at this; omega
        clear hcx e1 hl2
        go_wp2_with fail
        have hk0 : (0 : Int) ≤ (k : Int) := by omega
        have hk1' : (k : Int) < ((k + 1 : Nat) : Int) := by omega
        have hk1'' : (k : Int) < (k : Int) + 1 := by omega
        have hf2d := hf2.drew
        go_region_held3 (fun w' => w'.cell? ⟨b, o + k, none⟩ = some (.string (mkS x)) ∧ Fr Nob w w') (first | (exact ⟨hcx2, hf2d⟩) | (refine ⟨?_, ?_⟩ <;> first | assumption | (exact Fr.cell hfn id (by assumption)) | (exact Fr.then (by assumption) hfn) | (exact Fr.cell hfn id (And.left (by assumption))) | (exact Fr.then (And.right (by assumption)) hfn)))
          (first | (go_at_call_of 88 (Value.string (mkS x)); refine (nodeR_any x y1 _ hy1).mono ?_; rintro e w' ⟨rfl, hfn⟩) | (go_at_call_of 88 (Value.string (mkS x)); refine (nodeR_any x y2 _ hy2).mono ?_; rintro e w' ⟨rfl, hfn⟩))
        all_goals
          go_wp2_with fail
          go_ret3
          exact ⟨by rw [HSP.out]; rfl, by first | assumption | exact And.right (by assumption) | exact Fr.then (And.right (by assumption)) hfn⟩

/-- what the reference answers -/
def grownRL (p : (List UInt8 × List UInt8) × Bool) (old root : List UInt8) : Bool := p.2 && (decide (p.1.1 = old) && decide (p.1.2 = root))

set_option maxHeartbeats 1000000 in
set_option maxRecDepth 1000000 in
theorem grownR_bad (old : ByteArray) (m : Int) (root : ByteArray) (n : Int) (p : Option Addr) (c : Nat) (ls : List (List UInt8)) (w : World) (hm : ls.length ≤ 1000000) (hb : Rd w p ls.length (ss ls))
    (h : n < 1 ∨ 1048576 < n ∨ m < 1 ∨ n < m ∨ sz32 ls = false) :
    Calls Try.prog 34 #[.string old, .int .i64 m, .string root, .int .i64 n, .slice p ls.length c] w fun e w' => e = .returned (.bool false) ∧ w = w' := by
  have h' : sz32 ls = false ∨ (sz32 ls = true ∧ n < 1) ∨ (sz32 ls = true ∧ ¬ n < 1 ∧ 1048576 < n) ∨ (sz32 ls = true ∧ ¬ n < 1 ∧ ¬ 1048576 < n ∧ m < 1) ∨ (sz32 ls = true ∧ ¬ n < 1 ∧ ¬ 1048576 < n ∧ ¬ m < 1 ∧ n < m) := by
    cases hs : sz32 ls
    · exact .inl rfl
    rw [hs] at h
    by_cases h1 : n < 1
    · exact .inr (.inl ⟨rfl, h1⟩)
    by_cases h2 : 1048576 < n
    · exact .inr (.inr (.inl ⟨rfl, h1, h2⟩))
    by_cases h3 : m < 1
    · exact .inr (.inr (.inr (.inl ⟨rfl, h1, h2, h3⟩)))
    · exact .inr (.inr (.inr (.inr ⟨rfl, h1, h2, h3, by simpa [h1, h2, h3] using h⟩)))
  clear h
  have hc := sizedR_any p c ls w hm hb
  generalize sz32 ls = z at *
  go_enter Try.func34, Try.ntmps34
  have HC := Lib.hid hc; clear hc
  go_wp2_with fail
  refine HC.out.mono ?_
  rintro e w' ⟨rfl, rfl⟩
  rcases h' with rfl | ⟨rfl, h1⟩ | ⟨rfl, h1, h2⟩ | ⟨rfl, h1, h2, h3⟩ | ⟨rfl, h1, h2, h3, h4⟩
  all_goals
    go_wp2_with fail
    go_ret
    exact ⟨rfl, rfl⟩

set_option maxHeartbeats 1000000 in
set_option maxRecDepth 1000000 in
theorem grownR_yes (old : List UInt8) (m : Nat) (root : List UInt8) (n : Nat) (p : Option Addr) (c : Nat) (ls : List (List UInt8)) (w : World) (hm : ls.length ≤ 1000000) (hmc : ls.length ≤ c) (hb : Rd w p ls.length (ss ls)) (hlo : old.length ≤ 70000)
    (hn : 1 ≤ m) (hn2 : n ≤ 1048576) (hi : m ≤ n) (hs : sz32 ls = true) :
    Calls Try.prog 34 #[.string (mkS old), .int .i64 (m : Int), .string (mkS root), .int .i64 (n : Int), .slice p ls.length c] w fun e w' => e = .returned (.bool (grownRL (growsR nodeL [] old ls.reverse m n true) old root)) ∧ Fr Nob w w' := by
  have h1 : ¬ (n : Int) < 1 := by omega
  have h2 : ¬ (1048576 : Int) < (n : Int) := by omega
  have h3 : ¬ (m : Int) < 1 := by omega
  have h4 : ¬ (n : Int) < (m : Int) := by omega
  have hc := sizedR_any p c ls w hm hb
  have hld := growsR_any old hlo ls.reverse ls.length m n true p c w (by simp) hm hmc (fun x hx => sz32_get ls hs x (by simpa using hx)) (by rw [List.reverse_reverse]; exact hb) hn hi hn2
  rw [hs] at hc
  generalize growsR nodeL [] old ls.reverse m n true = y at *
  obtain ⟨⟨y1, y2⟩, y3⟩ := y
  have HC := Lib.hid hc; clear hc
  have HL := Lib.hid hld; clear hld
  have HS := Lib.hid hs; clear hs hn2
  go_enter Try.func34, Try.ntmps34
  go_wp2_with fail
  refine HC.out.mono ?_
  rintro e w' ⟨rfl, rfl⟩
  go_wp2_with fail
  refine HL.out.mono ?_
  rintro e w1 ⟨rfl, hf1⟩
  cases y3
  · go_wp2_with fail
    go_ret
    exact ⟨ret_bool rfl, hf1⟩
  · by_cases hx : y1 = old
    · subst hx
      go_wp2_with fail
      go_ret
      exact ⟨ret_bool (by simp only [grownRL, Bool.true_and, decide_true]; exact beq_mkS _ _), hf1⟩
    · have hb1 : ((mkS y1).toList == (mkS old).toList) = false := by rw [beq_mkS]; exact decide_eq_false hx
      have HX := Lib.hid hx; clear hx
      go_wp2_with fail
      go_ret
      exact ⟨ret_bool (by simp [grownRL, HX.out]), hf1⟩
end Go.Proofs.Ytgkakddldobpkaa
