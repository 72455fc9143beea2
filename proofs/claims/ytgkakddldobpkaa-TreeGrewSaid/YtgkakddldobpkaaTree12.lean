/- The law TreeGrew. -/
import Derived.Test.YtgkakddldobpkaaTree11
import Derived.Test.YtgkakddldobpkaaTree9
import Derived.Test.YtgkakddldobpkaaTree4
namespace Go.Proofs.Ytgkakddldobpkaa
open Go.RowKit Go.Mv Mvp Mvt
attribute [local irreducible] permS permP toB turnsK squeeze permN permB spongeB feed frameL framesL tagL leafL nodeL

theorem grownRL_opt (p : (List UInt8 × List UInt8) × Bool) (old root : List UInt8) : grownRL p old root = match opt p with | some (x, y) => decide (x = old) && decide (y = root) | none => false := by
  obtain ⟨⟨x, y⟩, b⟩ := p
  cases b <;> simp [grownRL, opt]
theorem grown_law (old root : List UInt8) (m n : Nat) (ls : List (List UInt8)) (hm : 1 ≤ m) (hmn : m < n) : grownRL (growsR nodeL [] old ls.reverse m n true) old root = grownL old root m n (glist old m ls) := by
  rw [grownRL_opt, grownL]
  by_cases hz : m &&& (m - 1) = 0
  · obtain ⟨s, rfl⟩ := (and_pred m hm).1 hz
    rw [grows_with nodeL [] old s ls.reverse n (by omega), glist, if_pos hz]
    have := grows_climb nodeL [] old (ls.reverse ++ [old]) (2 ^ s) n hm (by omega) (.inl hmn)
    rw [List.reverse_append, List.reverse_reverse] at this
    rw [← this]; rfl
  · have hne : ∀ s, m ≠ 2 ^ s := fun s h => hz ((and_pred m hm).2 ⟨s, h⟩)
    rw [grows_with2 nodeL [] old m hne ls.reverse n hmn, glist, if_neg hz]
    have := grows_climb nodeL [] old ls.reverse m n hm (by omega) (.inl hmn)
    rw [List.reverse_reverse] at this
    rw [← this]; rfl
theorem grown_law_eq (old root : List UInt8) (m : Nat) (ls : List (List UInt8)) : grownRL (growsR nodeL [] old ls.reverse m m true) old root = (decide (ls.length = 0) && decide (old = root)) := by
  cases h : ls.reverse with
  | nil =>
    have : ls = [] := by simpa using h
    subst this
    simp [growsR, grownRL]
  | cons x r =>
    have : ls ≠ [] := by intro e; subst e; simp at h
    have h0 : ¬ ls.length = 0 := by simpa using this
    simp [growsR, grownRL, h0]

set_option maxHeartbeats 2000000 in
set_option maxRecDepth 1000000 in
theorem treeGrew_yes (old : List UInt8) (m : Int) (root : List UInt8) (n : Int) (p : Option Addr) (c : Nat) (ls : List (List UInt8)) (w : World) (hm : ls.length ≤ 1100) (hmc : ls.length ≤ c) (hb : Rd w p ls.length (ss ls)) (hx : ∀ x ∈ ls, x.length ≤ 140737488351232)
    (hsm : sumL ls ≤ 65536) (hrl : root.length + old.length ≤ 65536) :
    Calls Try.prog 9 #[.string (mkS old), .int .i64 m, .string (mkS root), .int .i64 n, .slice p ls.length c] w fun e w' => e = .returned (.bool true) ∧ Fr Nob w w' := by
  have hsmall := small_short p c ls w hx hm hb
  rw [decide_eq_true hsm] at hsmall
  have hx2 : ∀ x ∈ ls, x.length ≤ 1000000 := fun x hxm => by
    obtain ⟨j, hj, rfl⟩ := List.getElem_of_mem hxm
    have := sumL_get ls j hj
    have e : ls.getD j [] = ls[j] := by simp [List.getD_eq_getElem?_getD, hj]
    rw [e] at this; omega
  have hrI : ¬ (65536 : Int) < ((mkS root).size : Int) + ((mkS old).size : Int) := by rw [mkS_size, mkS_size]; omega
  have HSM := Lib.hid hsmall; clear hsmall
  have HX2 := Lib.hid hx2; clear hx2 hx
  go_enter Try.func9, Try.ntmps9
  go_wp2_with fail
  refine HSM.out.mono ?_
  rintro e w' ⟨rfl, rfl⟩
  have hrI1 : ((mkS root).size : Int) ≤ 65536 := by rw [mkS_size]; omega
  have hrI2 : ((mkS old).size : Int) ≤ 65536 := by rw [mkS_size]; omega
  go_wp2_with (with_reducible refine wl_stop (o := ⟨some 27, _, _, _, _, _⟩) ?_)
  clear hrI hrI1 hrI2
  refine wl_bytes (q := mkS old) rfl rfl Try.underlying9 Try.underlying22 Try.underlying5 rfl (by rw [mkS_size]; unfold maxLen; omega) w.heap.size (Nat.le_refl _) ?_
  intro cap1 w1 hown1 hf1 hz1
  clear hz1
  rw [mkS_toList] at hown1
  go_wp2_with (with_reducible refine wl_stop (o := ⟨some 30, _, _, _, _, _⟩) ?_)
  refine wl_bytes (q := mkS root) rfl rfl Try.underlying9 Try.underlying22 Try.underlying5 rfl (by rw [mkS_size]; unfold maxLen; omega) w.heap.size hf1.size ?_
  intro cap2 w2 hown2 hf2 hz2
  clear hz2
  rw [mkS_toList] at hown2
  have hown12 := hown1.still hf2
  have hf2' := hf1.then hf2
  clear hown1 hf1 hf2
  generalize w1.heap.size = g1 at *
  go_wp2_with fail
  refine (lists_any p c ls w2 (by omega) HX2.out (hb.still hf2')).mono ?_
  rintro e w3 ⟨v3, rfl, hl3, hf3⟩
  have hf3' := hf2'.then hf3
  have hr3 := own_part (hown12.still hf3) (by rw [mkS_size]; omega)
  have hl3' := own_part (hown2.still hf3) (by rw [mkS_size]; omega)
  obtain ⟨a3, c3, rfl, hc3, hp3⟩ := hl3.parts HX2.out
  have hb3 := hb.still hf3'
  clear hl3 hown12 hown2 hf2' hf3
  generalize w.heap.size = g0 at *
  by_cases hbad : n < 1 ∨ 1048576 < n ∨ m < 1 ∨ n < m ∨ sz32 ls = false
  · have HB := Lib.hid hbad; clear hbad
    go_wp2_with fail
    refine (grown_bad _ _ _ m n _ _ _ a3 c3 ls w3 (by omega) hp3 HB.out).mono ?_
    rintro e w4 ⟨rfl, rfl⟩
    go_wp2_with fail
    refine (grownR_bad _ m _ n p c ls w3 (by omega) hb3 HB.out).mono ?_
    rintro e w5 ⟨rfl, rfl⟩
    go_wp2_with fail
    go_ret
    exact ⟨rfl, hf3'⟩
  · obtain ⟨n', rfl⟩ : ∃ n' : Nat, n = n' := ⟨n.toNat, by omega⟩
    obtain ⟨m', rfl⟩ : ∃ m' : Nat, m = m' := ⟨m.toNat, by omega⟩
    have hs : sz32 ls = true := by
      cases h : sz32 ls
      · exact absurd (.inr (.inr (.inr (.inr h)))) hbad
      · rfl
    have hm1 : 1 ≤ m' := by omega
    have hn2 : n' ≤ 1048576 := by omega
    have hmn : m' ≤ n' := by omega
    have HS := Lib.hid hs
    have HN2 := Lib.hid hn2
    clear hbad hs hn2
    obtain ⟨_, _, _, hv, -, -, hrr, -⟩ := id hr3
    cases hv
    obtain ⟨_, _, _, hv, -, -, hrl', -⟩ := id hl3'
    cases hv
    have hcall : Calls Try.prog 33 #[.slice (some ⟨g0, 0, none⟩) (mkS old).size cap1, .int .i64 (m' : Int), .slice (some ⟨g1, 0, none⟩) (mkS root).size cap2, .int .i64 (n' : Int), .slice a3 ls.length c3] w3 fun e w' => e = .returned (.bool (grownRL (growsR nodeL [] old ls.reverse m' n' true) old root)) ∧ Fr Nob w3 w' := by
      by_cases he : m' = n'
      · subst he
        rw [grown_law_eq]
        exact grown_eq _ _ _ old m' _ _ _ root a3 c3 ls w3 (by omega) hp3 hrr hrl' hm1 HN2.out HS.out
      · rw [grown_law old root m' n' ls hm1 (by omega)]
        exact grown_lt _ _ _ old m' n' _ _ _ root a3 c3 ls w3 (by omega) hc3 hp3 hr3 hrl' hm1 (by omega) HN2.out HS.out
    have HC := Lib.hid hcall; clear hcall
    generalize hz : grownRL (growsR nodeL [] old ls.reverse m' n' true) old root = z at *
    have HZ := Lib.hid hz; clear hz
    go_wp2_with fail
    refine HC.out.mono ?_
    rintro e w4 ⟨rfl, hf4⟩
    have hb4 := hb3.still hf4
    have hf4' := hf3'.then hf4
    clear hb3 hp3 hr3 hl3' hrr hf4 hf3' HC
    go_wp2_with fail
    refine (grownR_yes old m' root n' p c ls w4 (by omega) hmc hb4 (by omega) hm1 HN2.out hmn HS.out).mono ?_
    rintro e w5 ⟨rfl, hf5⟩
    rw [HZ.out]
    go_wp2_with fail
    go_ret
    exact ⟨rfl, hf4'.then hf5⟩

set_option maxHeartbeats 1000000 in
set_option maxRecDepth 1000000 in
theorem treeGrew_no (old : List UInt8) (m : Int) (root : List UInt8) (n : Int) (p : Option Addr) (c : Nat) (ls : List (List UInt8)) (w : World) (hm : ls.length ≤ 9223372036854775807) (hb : Rd w p ls.length (ss ls)) (hx : ∀ x ∈ ls, x.length ≤ 140737488351232)
    (hr : root.length ≤ 140737488351232) (hl : old.length ≤ 140737488351232)
    (h : 1100 < ls.length ∨ 65536 < sumL ls ∨ 65536 < root.length + old.length) :
    Calls Try.prog 9 #[.string (mkS old), .int .i64 m, .string (mkS root), .int .i64 n, .slice p ls.length c] w fun e w' => e = .returned (.bool true) ∧ Fr Nob w w' := by
  have hsm : Calls Try.prog 29 #[.slice p ls.length c] w (fun e w' => e = .returned (.bool false) ∧ w = w') ∨ ((Calls Try.prog 29 #[.slice p ls.length c] w (fun e w' => e = .returned (.bool true) ∧ w = w')) ∧ (65536 : Int) < ((mkS root).size : Int) + ((mkS old).size : Int)) := by
    by_cases h1 : 1100 < ls.length
    · exact .inl (small_long p c ls w hm h1 hb)
    · have := small_short p c ls w hx (by omega) hb
      by_cases h2 : 65536 < sumL ls
      · rw [decide_eq_false (by omega)] at this
        exact .inl this
      · rw [decide_eq_true (by omega)] at this
        exact .inr ⟨this, by rw [mkS_size, mkS_size]; omega⟩
  have hr2 : ((mkS root).size : Int) ≤ 140737488351232 := by rw [mkS_size]; omega
  have hl2 : ((mkS old).size : Int) ≤ 140737488351232 := by rw [mkS_size]; omega
  clear h hr hl hx
  go_enter Try.func9, Try.ntmps9
  rcases hsm with hsm | ⟨hsm, hbig⟩
  all_goals
    have HSM := Lib.hid hsm; clear hsm
    go_wp2_with fail
    refine HSM.out.mono ?_
    rintro e w' ⟨rfl, rfl⟩
    go_wp2_with fail
    go_ret
    exact ⟨rfl, Fr.refl _ _⟩

theorem law_TreeGrew (old : ByteArray) (m : Int) (root : ByteArray) (n : Int) (p : Option Addr) (c : Nat) (ls : List (List UInt8)) (w : World) (hl : old.size ≤ 140737488351232) (hr : root.size ≤ 140737488351232) (hx : ∀ x ∈ ls, x.length ≤ 140737488351232) (hm : ls.length ≤ 9223372036854775807) (hb : Rd w p ls.length (ss ls)) (hmc : ls.length ≤ c) :
    Calls Try.prog 9 #[.string old, .int .i64 m, .string root, .int .i64 n, .slice p ls.length c] w fun e w' => e = .returned (.bool true) ∧ Fr Nob w w' := by
  obtain ⟨r, rfl⟩ : ∃ l, root = mkS l := ⟨root.data.toList, (mkS_data root).symm⟩
  obtain ⟨l, rfl⟩ : ∃ l, old = mkS l := ⟨old.data.toList, (mkS_data old).symm⟩
  rw [mkS_size] at hr hl
  by_cases h : 1100 < ls.length ∨ 65536 < sumL ls ∨ 65536 < r.length + l.length
  · exact treeGrew_no l m r n p c ls w hm hb hx hr hl h
  · exact treeGrew_yes l m r n p c ls w (by omega) hmc hb hx (by omega) (by omega)
end Go.Proofs.Ytgkakddldobpkaa
