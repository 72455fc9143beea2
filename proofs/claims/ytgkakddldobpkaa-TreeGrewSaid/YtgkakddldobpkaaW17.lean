/- The reference's Tag -/
import Derived.Test.YtgkakddldobpkaaW16
import Derived.Test.YtgkakddldobpkaaW14
import Derived.Test.YtgkakddldobpkaaOpen
namespace Go.Proofs.Ytgkakddldobpkaa
open Go.RowKit Go.Mv Mvp
attribute [local irreducible] permS permP toB turnsK squeeze permN permB spongeB feed frameL framesL

theorem frameL_len (l : List UInt8) : (frameL l).length = 4 + l.length := by unfold frameL; simp [lenB_len]
def sumL (ls : List (List UInt8)) : Nat := (ls.map List.length).foldr (· + ·) 0
theorem sumL_append (a b : List (List UInt8)) : sumL (a ++ b) = sumL a + sumL b := by
  induction a with
  | nil => simp [sumL]
  | cons x a ih => simp only [sumL, List.cons_append, List.map_cons, List.foldr_cons] at *; omega
theorem sumL_one (a : List UInt8) : sumL [a] = a.length := by simp [sumL]
theorem framesL_len (ls : List (List UInt8)) : (framesL ls).length = 4 * ls.length + sumL ls := by
  induction ls with
  | nil => rw [framesL_nil]; rfl
  | cons a b ih => rw [framesL_cons, List.length_append, frameL_len, ih, List.length_cons]; simp only [sumL, List.map_cons, List.foldr_cons]; omega
theorem sumL_take (ls : List (List UInt8)) (j : Nat) : sumL (ls.take j) ≤ sumL ls := by
  have := sumL_append (ls.take j) (ls.drop j)
  rw [List.take_append_drop] at this; omega
theorem sumL_get (ls : List (List UInt8)) (j : Nat) (hj : j < ls.length) : (ls.getD j []).length ≤ sumL ls := by
  have h1 := sumL_append (ls.take j) (ls.drop j)
  rw [List.take_append_drop, List.drop_eq_getElem_cons hj] at h1
  have h2 : sumL (ls[j] :: ls.drop (j + 1)) = ls[j].length + sumL (ls.drop (j + 1)) := by simp only [sumL, List.map_cons, List.foldr_cons]
  have h3 : ls.getD j [] = ls[j] := by simp [List.getD_eq_getElem?_getD, hj]
  rw [h3]; omega

set_option maxHeartbeats 400000 in
set_option maxRecDepth 1000000 in
theorem tagR_any (s : ByteArray) (a : Option Addr) (c : Nat) (ls : List (List UInt8)) (w : World) (hs : s.size + sumL ls ≤ 100000) (hm : ls.length ≤ 1000) (hb : Rd w a ls.length (ss ls)) :
    Calls Try.prog 17 #[.string s, .slice a ls.length c] w fun r w' => r = .returned (.string (mkS (tagL s.data.toList ls))) ∧ Fr Nob w w' := by
  go_enter Try.func17, Try.ntmps17
  go_wp2_with fail
  refine (frameR_any s w (by omega)).mono ?_
  rintro e w1 ⟨rfl, hf1⟩
  have hsl : s.data.toList.length = s.size := size_list s
  go_wp2_with fail
  go_loopw [6, 5] (fun i q wr => ∃ j : Nat, j ≤ ls.length ∧ i = .int .i64 (j : Int) ∧ q = .string (mkS (framesL (s.data.toList :: ls.take j))) ∧ Fr Nob w wr) (fun i _ _ => (ls.length - intOf i).toNat)
  case atStart => exact ⟨0, by omega, rfl, by rw [List.take_zero, framesL_one], hf1⟩
  case round =>
    obtain ⟨j, hj, rfl, rfl, hfj⟩ := hrel
    clear hf1
    have hql : (mkS (framesL (s.data.toList :: ls.take j))).size ≤ 200000 := by
      rw [mkS_size, framesL_len]
      have h1 := sumL_take ls j
      have h2 : sumL (s.data.toList :: ls.take j) = s.data.toList.length + sumL (ls.take j) := by simp [sumL]
      rw [h2, List.length_cons, List.length_take]; omega
    by_cases hlt : j < ls.length
    · have hltI : (j : Int) < (ls.length : Int) := by omega
      obtain ⟨b, o, rfl, hat⟩ := (hb.still hfj).at (by omega)
      have hc : wr.cell? ⟨b, o + j, none⟩ = some (.string (mkS (ls.getD j []))) := hat j _ (ss_get ls j hlt)
      have hxl := sumL_get ls j hlt
      have hfl : framesL (s.data.toList :: ls.take j) ++ frameL (ls.getD j []) = framesL (s.data.toList :: ls.take (j + 1)) := by
        rw [List.take_succ_eq_append_getElem hlt, ← List.cons_append, framesL_append, framesL_one, List.getD_eq_getElem?_getD, List.getElem?_eq_getElem hlt]; rfl
      have hcat : ¬ 9223372036854775807 < (mkS (framesL (s.data.toList :: ls.take j))).size + (mkS (frameL (ls.getD j []))).size := by
        rw [mkS_size (frameL _), frameL_len]; omega
      generalize hx : ls.getD j [] = x at *
      have HX := Lib.hid hx; clear hx
      have hfl2 := hfl
      have HFL := Lib.hid hfl2; clear hfl hfl2
      generalize hq : mkS (framesL (s.data.toList :: ls.take j)) = q at *
      have HQ := Lib.hid hq; clear hq
      have HQL := Lib.hid hql; clear hql
      have HSL := Lib.hid hsl; clear hsl
      clear hat
      go_wp2_with fail
      refine (frameR_any (mkS x) wr (by rw [mkS_size]; omega)).mono ?_
      rintro e w4 ⟨rfl, hf4⟩
      rw [mkS_toList]
      have hfr4 := hfj.then hf4
      clear hfj hf4
      go_wp2_with fail
      go_roundw
      case rel => exact ⟨j + 1, by omega, by go_num, by rw [← HQ.out, mkS_append, HFL.out], hfr4⟩
      case measure => simp [intOf]; omega
    · have hge : ¬ ((j : Int) < (ls.length : Int)) := by omega
      have hjn : j = ls.length := by omega
      have hft : framesL (s.data.toList :: ls.take j) = tagText s.data.toList ls := by rw [hjn, List.take_length]; rfl
      rw [hft] at hql ⊢
      have HJN := Lib.hid hjn; clear hjn
      clear hft
      go_wp2_with fail
      refine (hashR_any (mkS (tagText s.data.toList ls)) wr (by omega)).mono ?_
      rintro e w4 ⟨rfl, hf4⟩
      rw [mkS_toList]
      go_wp2_with fail
      go_ret
      exact ⟨rfl, hfj.then hf4⟩
end Go.Proofs.Ytgkakddldobpkaa
