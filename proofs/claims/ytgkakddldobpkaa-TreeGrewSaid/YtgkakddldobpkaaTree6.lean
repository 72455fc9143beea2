/- The reference's leads, Lies. -/
import Derived.Test.YtgkakddldobpkaaTree2
import Derived.Test.YtgkakddldobpkaaCuts
namespace Go.Proofs.Ytgkakddldobpkaa
open Go.RowKit Go.Mv Mvp Mvt
attribute [local irreducible] permS permP toB turnsK squeeze permN permB spongeB feed frameL framesL tagL leafL nodeL

theorem size_str : (Try.prog.info? 9).map (·.size) = some 1 := by kernel_rfl
/-- a pair of results -/
def Two (p : List UInt8 × Bool) (w : World) (e : Ending) (w' : World) : Prop := e = .returned (.tuple #[.string (mkS p.1), .bool p.2]) ∧ Fr Nob w w'
theorem ss_append (a b : List (List UInt8)) : ss (a ++ b) = ss a ++ ss b := by simp [ss]
theorem rd_front {w : World} {a : Option Addr} {n m : Nat} {L : List Value} (h : Rd w a n L) (hm : m ≤ n) : Rd w a m (L.take m) := by
  have hl := h.len
  refine ⟨by rw [List.length_take]; omega, ?_⟩
  rcases Nat.eq_zero_or_pos m with h0 | h0
  · exact .inl h0
  · obtain ⟨b, o, rfl, hc⟩ := h.at (by omega)
    refine .inr ⟨b, o, rfl, fun i v hv => hc i v ?_⟩
    rw [List.getElem?_take] at hv
    split at hv
    · exact hv
    · cases hv

theorem leadsR_len (s : List UInt8) (hs : s.length ≤ 32) : ∀ (r : List (List UInt8)) (n i : Nat), (Mvt.leadsR nodeL [] s r n i).1.length ≤ 32
  | [], n, i => by simp only [Mvt.leadsR]; split <;> simp [hs]
  | e :: r, n, i => by
    simp only [Mvt.leadsR]
    split
    · exact hs
    · split <;> simp [nodeL_len]

set_option maxHeartbeats 2000000 in
set_option maxRecDepth 1000000 in
theorem leadsR_any (s : List UInt8) (hs : s.length ≤ 80000) : ∀ (r : List (List UInt8)) (m n i : Nat) (a : Option Addr) (c : Nat) (w : World), r.length = m → m ≤ 1000000 → m ≤ c → (∀ x ∈ r, x.length = 32) → Rd w a m (ss r.reverse) → 1 ≤ n → n ≤ 1048576 → i < n →
    Calls Try.prog 66 #[.int .i64 (n : Int), .int .i64 (i : Int), .string (mkS s), .slice a m c] w (Two (Mvt.leadsR nodeL [] (leafL s) r n i) w) := by
  intro r
  induction r with
  | nil =>
    intro m n i a c w hml hm hc hx hb hn hn2 hi
    obtain rfl : m = 0 := by simpa using hml.symm
    clear hml
    by_cases h1 : n = 1
    · subst h1
      go_enter Try.func66, Try.ntmps66
      go_wp2_with fail
      refine (leafR_any s w (by omega)).mono ?_
      rintro e w1 ⟨rfl, hf1⟩
      generalize hlf : leafL s = lf at *
      have HLF := Lib.hid hlf; clear hlf
      go_wp2_with fail
      go_ret2
      exact ⟨by simp [Mvt.leadsR, HLF.out], hf1⟩
    · have q1 : ((n : Int) == 1) = false := by simp; omega
      have q2 : (n == 1) = false := by simpa using h1
      have H1 := Lib.hid h1; clear h1 hn2
      go_enter Try.func66, Try.ntmps66
      go_wp2_with fail
      go_ret2
      exact ⟨by simp [Mvt.leadsR, H1.out]; rfl, Fr.refl _ _⟩
  | cons x r ih =>
    intro m n i a c w hml hm hc hx hb hn hn2 hi
    obtain ⟨k, rfl⟩ : ∃ k, m = k + 1 := ⟨r.length, by simpa using hml.symm⟩
    have hrk : r.length = k := by simpa using hml
    clear hml
    have hb1 : Rd w a k (ss r.reverse) := by
      have := rd_front (m := k) hb (by omega)
      rw [List.reverse_cons, ss_append, List.take_left' (by rw [ss_len, List.length_reverse, hrk])] at this
      exact this
    obtain ⟨b, o, rfl, hat⟩ := hb.at (by omega)
    have hcx : w.cell? ⟨b, o + k, none⟩ = some (.string (mkS x)) := hat k _ (by
      rw [List.reverse_cons, ss_append, List.getElem?_append_right (by rw [ss_len, List.length_reverse, hrk]; exact Nat.le_refl _), ss_len, List.length_reverse, hrk, Nat.sub_self]; rfl)
    have hxl : x.length = 32 := hx x (by simp)
    have hx' : ∀ y ∈ r, y.length = 32 := fun y hy => hx y (by simp [hy])
    clear hat hb hx
    have HXL := Lib.hid hxl; clear hxl
    by_cases h1 : n = 1
    · subst h1
      clear ih hx' hb1
      have HRK := Lib.hid hrk; clear hrk
      go_enter Try.func66, Try.ntmps66
      go_wp2_with fail
      refine (leafR_any s w (by omega)).mono ?_
      rintro e w1 ⟨rfl, hf1⟩
      generalize hlf : leafL s = lf at *
      have HLF := Lib.hid hlf; clear hlf
      go_wp2_with fail
      go_ret2
      exact ⟨by simp [Mvt.leadsR, HLF.out], hf1⟩
    · have q1 : ((n : Int) == 1) = false := by simp; omega
      have q2 : (n == 1) = false := by simpa using h1
      have hk1 := half_le n (by omega)
      have hk2 := half_pos n
      have H1 := Lib.hid h1
      have e1 := fun wx => run_slice_hi (P := Try.prog) wx Try.underlying30 size_str (some ⟨b, o, none⟩) (k + 1) c .i64 k (by omega)
      have hIH : ∀ n' i' w', Fr Nob w w' → 1 ≤ n' → n' ≤ 1048576 → i' < n' → Calls Try.prog 66 #[.int .i64 ((n' : Nat) : Int), .int .i64 ((i' : Nat) : Int), .string (mkS s), .slice (some ⟨b, o, none⟩) k c] w' (Two (Mvt.leadsR nodeL [] (leafL s) r n' i') w') :=
        fun n' i' w' hf h2 h3 h4 => ih k n' i' _ c w' hrk (by omega) (by omega) hx' (hb1.still hf) h2 h3 h4
      have hln : ∀ n' i', (Mvt.leadsR nodeL [] (leafL s) r n' i').1.length ≤ 32 := fun n' i' => leadsR_len _ (by rw [leafL_len]; exact Nat.le_refl _) r n' i'
      have HN2 := Lib.hid hn2
      have HIH := Lib.hid hIH
      have HLN := Lib.hid hln
      have HRK := Lib.hid hrk
      clear ih hx' hb1 hIH hln hrk hn2 h1
      go_enter Try.func66, Try.ntmps66
      go_wp2_with fail
      refine (halfR_any n w (by have := H1.out; omega) HN2.out).mono ?_
      rintro e w1 ⟨rfl, rfl⟩
      generalize hkk : half n = hf at *
      have HK := Lib.hid hkk; clear hkk
      by_cases hlt : i < hf
      · have hltI : (i : Int) < (hf : Int) := by omega
        go_wp2_with fail
        refine (HIH.out hf i w (Fr.refl _ _) (by omega) (by have := HN2.out; omega) hlt).mono ?_
        rintro e w2 ⟨rfl, hf2⟩
        have hl2 := HLN.out hf i
        have hsp : Mvt.leadsR nodeL [] (leafL s) (x :: r) n i = (nodeL (Mvt.leadsR nodeL [] (leafL s) r hf i).1 x, (Mvt.leadsR nodeL [] (leafL s) r hf i).2) := by
          rw [Mvt.leadsR, if_neg H1.out, HK.out, if_pos hlt]
        generalize Mvt.leadsR nodeL [] (leafL s) r hf i = y at *
        have HSP := Lib.hid hsp; clear hsp
        have hcx2 := hf2.cell id hcx
        obtain ⟨y1, y2⟩ := y
        clear hcx e1
        go_wp2_with fail
        refine (nodeR_any y1 x w2 (by have : y1.length ≤ 32 := hl2; rw [HXL.out]; omega)).mono ?_
        rintro e w3 ⟨rfl, hf3⟩
        go_wp2_with fail
        go_ret2
        exact ⟨by rw [HSP.out]; rfl, hf2.then hf3⟩
      · have hltI : ¬ (i : Int) < (hf : Int) := by omega
        have e2 : (n : Int) - (hf : Int) = ((n - hf : Nat) : Int) := by omega
        have e3 : (i : Int) - (hf : Int) = ((i - hf : Nat) : Int) := by omega
        have hn3 := HN2.out
        go_wp2_with fail
        clear e2 e3 hn3
        refine (HIH.out (n - hf) (i - hf) w (Fr.refl _ _) (by omega) (by have := HN2.out; omega) (by omega)).mono ?_
        rintro e w2 ⟨rfl, hf2⟩
        have hl2 := HLN.out (n - hf) (i - hf)
        have hsp : Mvt.leadsR nodeL [] (leafL s) (x :: r) n i = (nodeL x (Mvt.leadsR nodeL [] (leafL s) r (n - hf) (i - hf)).1, (Mvt.leadsR nodeL [] (leafL s) r (n - hf) (i - hf)).2) := by
          rw [Mvt.leadsR, if_neg H1.out, HK.out, if_neg hlt]
        generalize Mvt.leadsR nodeL [] (leafL s) r (n - hf) (i - hf) = y at *
        have HSP := Lib.hid hsp; clear hsp
        have hcx2 := hf2.cell id hcx
        obtain ⟨y1, y2⟩ := y
        clear hcx e1
        go_wp2_with fail
        refine (nodeR_any x y1 w2 (by have : y1.length ≤ 32 := hl2; rw [HXL.out]; omega)).mono ?_
        rintro e w3 ⟨rfl, hf3⟩
        go_wp2_with fail
        go_ret2
        exact ⟨by rw [HSP.out]; rfl, hf2.then hf3⟩
end Go.Proofs.Ytgkakddldobpkaa
