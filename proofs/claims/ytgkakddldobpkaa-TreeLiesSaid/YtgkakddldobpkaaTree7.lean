/- The reference's Lies; the law TreeLies. -/
import Derived.Test.YtgkakddldobpkaaTree5
import Derived.Test.YtgkakddldobpkaaTree6
namespace Go.Proofs.Ytgkakddldobpkaa
open Go.RowKit Go.Mv Mvp Mvt
attribute [local irreducible] permS permP toB turnsK squeeze permN permB spongeB feed frameL framesL tagL leafL nodeL

theorem liesL_eq (root : List UInt8) (n i : Nat) (leaf : List UInt8) (ls : List (List UInt8)) (hn : 1 ≤ n) (hi : i < n) :
    liesL root n i leaf ls = ((Mvt.leadsR nodeL [] (leafL leaf) ls.reverse n i).2 && decide ((Mvt.leadsR nodeL [] (leafL leaf) ls.reverse n i).1 = root)) := by
  have h := leads_climb nodeL [] (leafL leaf) ls.reverse n i hn hi
  rw [List.reverse_reverse] at h
  unfold liesL
  rw [h]
  cases (Mvt.leadsR nodeL [] (leafL leaf) ls.reverse n i).2 <;> simp

set_option maxHeartbeats 1000000 in
set_option maxRecDepth 1000000 in
theorem liesR_bad (root : ByteArray) (n i : Int) (s : ByteArray) (p : Option Addr) (c : Nat) (ls : List (List UInt8)) (w : World) (hm : ls.length ≤ 1000000) (hb : Rd w p ls.length (ss ls))
    (h : n < 1 ∨ 1048576 < n ∨ i < 0 ∨ n ≤ i ∨ sz32 ls = false) :
    Calls Try.prog 32 #[.string root, .int .i64 n, .int .i64 i, .string s, .slice p ls.length c] w fun e w' => e = .returned (.bool false) ∧ w = w' := by
  have h' : sz32 ls = false ∨ (sz32 ls = true ∧ n < 1) ∨ (sz32 ls = true ∧ ¬ n < 1 ∧ 1048576 < n) ∨ (sz32 ls = true ∧ ¬ n < 1 ∧ ¬ 1048576 < n ∧ i < 0) ∨ (sz32 ls = true ∧ ¬ n < 1 ∧ ¬ 1048576 < n ∧ ¬ i < 0 ∧ n ≤ i) := by
    cases hs : sz32 ls
    · exact .inl rfl
    rw [hs] at h
    by_cases h1 : n < 1
    · exact .inr (.inl ⟨rfl, h1⟩)
    by_cases h2 : 1048576 < n
    · exact .inr (.inr (.inl ⟨rfl, h1, h2⟩))
    by_cases h3 : i < 0
    · exact .inr (.inr (.inr (.inl ⟨rfl, h1, h2, h3⟩)))
    · exact .inr (.inr (.inr (.inr ⟨rfl, h1, h2, h3, by simpa [h1, h2, h3] using h⟩)))
  clear h
  have hc := sizedR_any p c ls w hm hb
  generalize sz32 ls = z at *
  go_enter Try.func32, Try.ntmps32
  have HC := Lib.hid hc; clear hc
  go_wp2_with fail
  refine HC.out.mono ?_
  rintro e w' ⟨rfl, rfl⟩
  rcases h' with rfl | ⟨rfl, h1⟩ | ⟨rfl, h1, h2⟩ | ⟨rfl, h1, h2, h3⟩ | ⟨rfl, h1, h2, h3, h4⟩
  all_goals
    go_wp2_with fail
    go_ret
    exact ⟨rfl, rfl⟩

set_option maxHeartbeats 1000000 in
set_option maxRecDepth 1000000 in
theorem liesR_yes (root : List UInt8) (n i : Nat) (s : List UInt8) (p : Option Addr) (c : Nat) (ls : List (List UInt8)) (w : World) (hm : ls.length ≤ 1000000) (hmc : ls.length ≤ c) (hb : Rd w p ls.length (ss ls)) (hls : s.length ≤ 80000)
    (hn : 1 ≤ n) (hn2 : n ≤ 1048576) (hi : i < n) (hs : sz32 ls = true) :
    Calls Try.prog 32 #[.string (mkS root), .int .i64 (n : Int), .int .i64 (i : Int), .string (mkS s), .slice p ls.length c] w fun e w' => e = .returned (.bool (liesL root n i s ls)) ∧ Fr Nob w w' := by
  have h1 : ¬ (n : Int) < 1 := by omega
  have h2 : ¬ (1048576 : Int) < (n : Int) := by omega
  have h3 : ¬ (i : Int) < 0 := by omega
  have h4 : ¬ (n : Int) ≤ (i : Int) := by omega
  have hc := sizedR_any p c ls w hm hb
  have hld := leadsR_any s hls ls.reverse ls.length n i p c w (by simp) hm hmc (fun x hx => sz32_get ls hs x (by simpa using hx)) (by rw [List.reverse_reverse]; exact hb) hn hn2 hi
  have heq := liesL_eq root n i s ls hn hi
  rw [hs] at hc
  generalize Mvt.leadsR nodeL [] (leafL s) ls.reverse n i = y at *
  obtain ⟨y1, y2⟩ := y
  have HC := Lib.hid hc; clear hc
  have HL := Lib.hid hld; clear hld
  have HEQ := Lib.hid heq; clear heq
  have HS := Lib.hid hs; clear hs hn2
  go_enter Try.func32, Try.ntmps32
  go_wp2_with fail
  refine HC.out.mono ?_
  rintro e w' ⟨rfl, rfl⟩
  go_wp2_with fail
  refine HL.out.mono ?_
  rintro e w1 ⟨rfl, hf1⟩
  cases y2
  · go_wp2_with fail
    go_ret
    exact ⟨ret_bool (by rw [HEQ.out]; rfl), hf1⟩
  · go_wp2_with fail
    go_ret
    exact ⟨ret_bool (by rw [HEQ.out]; simp only [Bool.true_and]; exact beq_mkS _ _), hf1⟩

set_option maxHeartbeats 2000000 in
set_option maxRecDepth 1000000 in
theorem treeLies_yes (root : List UInt8) (n i : Int) (leaf : List UInt8) (p : Option Addr) (c : Nat) (ls : List (List UInt8)) (w : World) (hm : ls.length ≤ 1100) (hmc : ls.length ≤ c) (hb : Rd w p ls.length (ss ls)) (hx : ∀ x ∈ ls, x.length ≤ 140737488351232)
    (hsm : sumL ls ≤ 65536) (hrl : root.length + leaf.length ≤ 65536) :
    Calls Try.prog 8 #[.string (mkS root), .int .i64 n, .int .i64 i, .string (mkS leaf), .slice p ls.length c] w fun e w' => e = .returned (.bool true) ∧ Fr Nob w w' := by
  have hsmall := small_short p c ls w hx hm hb
  rw [decide_eq_true hsm] at hsmall
  have hx2 : ∀ x ∈ ls, x.length ≤ 1000000 := fun x hxm => by
    obtain ⟨j, hj, rfl⟩ := List.getElem_of_mem hxm
    have := sumL_get ls j hj
    have e : ls.getD j [] = ls[j] := by simp [List.getD_eq_getElem?_getD, hj]
    rw [e] at this; omega
  have hrI : ¬ (65536 : Int) < ((mkS root).size : Int) + ((mkS leaf).size : Int) := by rw [mkS_size, mkS_size]; omega
  have HSM := Lib.hid hsmall; clear hsmall
  have HX2 := Lib.hid hx2; clear hx2 hx
  go_enter Try.func8, Try.ntmps8
  go_wp2_with fail
  refine HSM.out.mono ?_
  rintro e w' ⟨rfl, rfl⟩
  have HMR := Lib.hid (mkS_size root)
  have HML := Lib.hid (mkS_size leaf)
  have hrI1 : ((mkS root).size : Int) ≤ 65536 := by rw [mkS_size]; omega
  have hrI2 : ((mkS leaf).size : Int) ≤ 65536 := by rw [mkS_size]; omega
  go_wp2_with (with_reducible refine wl_stop (o := ⟨some 27, _, _, _, _, _⟩) ?_)
  clear hrI hrI1 hrI2
  refine wl_bytes (q := mkS root) rfl rfl Try.underlying9 Try.underlying22 Try.underlying5 rfl (by rw [mkS_size]; unfold maxLen; omega) w.heap.size (Nat.le_refl _) ?_
  intro cap1 w1 hown1 hf1 hz1
  clear hz1
  rw [mkS_toList] at hown1
  go_wp2_with (with_reducible refine wl_stop (o := ⟨some 31, _, _, _, _, _⟩) ?_)
  refine wl_bytes (q := mkS leaf) rfl rfl Try.underlying9 Try.underlying22 Try.underlying5 rfl (by rw [mkS_size]; unfold maxLen; omega) w.heap.size hf1.size ?_
  intro cap2 w2 hown2 hf2 hz2
  clear hz2
  rw [mkS_toList] at hown2
  have hown12 := hown1.still hf2
  have hf2' := hf1.then hf2
  clear hown1 hf1 hf2
  generalize w1.heap.size = g1 at *
  go_wp2_with fail
  refine (lists_any p c ls w2 (by omega) HX2.out (hb.still hf2')).mono ?_
  rintro e w3 ⟨v3, rfl, hl3, hf3⟩
  have hf3' := hf2'.then hf3
  have hr3 := own_part (hown12.still hf3) (by rw [mkS_size]; omega)
  have hl3' := own_part (hown2.still hf3) (by rw [mkS_size]; omega)
  obtain ⟨a3, c3, rfl, hc3, hp3⟩ := hl3.parts HX2.out
  have hb3 := hb.still hf3'
  clear hl3 hown12 hown2 hf2' hf3
  generalize w.heap.size = g0 at *
  by_cases hbad : n < 1 ∨ 1048576 < n ∨ i < 0 ∨ n ≤ i ∨ sz32 ls = false
  · have HB := Lib.hid hbad; clear hbad
    go_wp2_with fail
    refine (lies_bad _ _ _ n i _ _ _ a3 c3 ls w3 (by omega) hp3 HB.out).mono ?_
    rintro e w4 ⟨rfl, rfl⟩
    go_wp2_with fail
    refine (liesR_bad _ n i _ p c ls w3 (by omega) hb3 HB.out).mono ?_
    rintro e w5 ⟨rfl, rfl⟩
    go_wp2_with fail
    go_ret
    exact ⟨rfl, hf3'⟩
  · obtain ⟨n', rfl⟩ : ∃ n' : Nat, n = n' := ⟨n.toNat, by omega⟩
    obtain ⟨i', rfl⟩ : ∃ i' : Nat, i = i' := ⟨i.toNat, by omega⟩
    have hs : sz32 ls = true := by
      cases h : sz32 ls
      · exact absurd (.inr (.inr (.inr (.inr h)))) hbad
      · rfl
    have hn1 : 1 ≤ n' := by omega
    have hn2 : n' ≤ 1048576 := by omega
    have hi' : i' < n' := by omega
    have HS := Lib.hid hs
    have HN2 := Lib.hid hn2
    clear hbad hs hn2
    obtain ⟨_, _, _, hv, -, -, hrr, -⟩ := id hr3
    cases hv
    go_wp2_with fail
    refine (lies_yes _ _ _ root n' i' _ _ _ leaf a3 c3 ls w3 (by omega) hp3 hrr hl3' hn1 HN2.out hi' HS.out).mono ?_
    rintro e w4 ⟨rfl, hf4⟩
    have hb4 := hb3.still hf4
    have hf4' := hf3'.then hf4
    clear hb3 hp3 hr3 hl3' hrr hf4 hf3'
    generalize hz : liesL root n' i' leaf ls = z
    have HZ := Lib.hid hz; clear hz
    go_wp2_with fail
    refine (liesR_yes root n' i' leaf p c ls w4 (by omega) hmc hb4 (by omega) hn1 HN2.out hi' HS.out).mono ?_
    rintro e w5 ⟨rfl, hf5⟩
    rw [HZ.out]
    go_wp2_with fail
    go_ret
    exact ⟨rfl, hf4'.then hf5⟩

set_option maxHeartbeats 1000000 in
set_option maxRecDepth 1000000 in
theorem treeLies_no (root : List UInt8) (n i : Int) (leaf : List UInt8) (p : Option Addr) (c : Nat) (ls : List (List UInt8)) (w : World) (hm : ls.length ≤ 9223372036854775807) (hb : Rd w p ls.length (ss ls)) (hx : ∀ x ∈ ls, x.length ≤ 140737488351232)
    (hr : root.length ≤ 140737488351232) (hl : leaf.length ≤ 140737488351232)
    (h : 1100 < ls.length ∨ 65536 < sumL ls ∨ 65536 < root.length + leaf.length) :
    Calls Try.prog 8 #[.string (mkS root), .int .i64 n, .int .i64 i, .string (mkS leaf), .slice p ls.length c] w fun e w' => e = .returned (.bool true) ∧ Fr Nob w w' := by
  have hsm : Calls Try.prog 29 #[.slice p ls.length c] w (fun e w' => e = .returned (.bool false) ∧ w = w') ∨ ((Calls Try.prog 29 #[.slice p ls.length c] w (fun e w' => e = .returned (.bool true) ∧ w = w')) ∧ (65536 : Int) < ((mkS root).size : Int) + ((mkS leaf).size : Int)) := by
    by_cases h1 : 1100 < ls.length
    · exact .inl (small_long p c ls w hm h1 hb)
    · have := small_short p c ls w hx (by omega) hb
      by_cases h2 : 65536 < sumL ls
      · rw [decide_eq_false (by omega)] at this
        exact .inl this
      · rw [decide_eq_true (by omega)] at this
        exact .inr ⟨this, by rw [mkS_size, mkS_size]; omega⟩
  have hr2 : ((mkS root).size : Int) ≤ 140737488351232 := by rw [mkS_size]; omega
  have hl2 : ((mkS leaf).size : Int) ≤ 140737488351232 := by rw [mkS_size]; omega
  clear h hr hl hx
  go_enter Try.func8, Try.ntmps8
  rcases hsm with hsm | ⟨hsm, hbig⟩
  all_goals
    have HSM := Lib.hid hsm; clear hsm
    go_wp2_with fail
    refine HSM.out.mono ?_
    rintro e w' ⟨rfl, rfl⟩
    go_wp2_with fail
    go_ret
    exact ⟨rfl, Fr.refl _ _⟩

theorem law_TreeLies (root : ByteArray) (n i : Int) (leaf : ByteArray) (p : Option Addr) (c : Nat) (ls : List (List UInt8)) (w : World) (hr : root.size ≤ 140737488351232) (hl : leaf.size ≤ 140737488351232) (hx : ∀ x ∈ ls, x.length ≤ 140737488351232) (hm : ls.length ≤ 9223372036854775807) (hb : Rd w p ls.length (ss ls)) (hmc : ls.length ≤ c) :
    Calls Try.prog 8 #[.string root, .int .i64 n, .int .i64 i, .string leaf, .slice p ls.length c] w fun e w' => e = .returned (.bool true) ∧ Fr Nob w w' := by
  obtain ⟨r, rfl⟩ : ∃ l, root = mkS l := ⟨root.data.toList, (mkS_data root).symm⟩
  obtain ⟨l, rfl⟩ : ∃ l, leaf = mkS l := ⟨leaf.data.toList, (mkS_data leaf).symm⟩
  rw [mkS_size] at hr hl
  by_cases h : 1100 < ls.length ∨ 65536 < sumL ls ∨ 65536 < r.length + l.length
  · exact treeLies_no r n i l p c ls w hm hb hx hr hl h
  · exact treeLies_yes r n i l p c ls w (by omega) hmc hb hx (by omega) (by omega)
end Go.Proofs.Ytgkakddldobpkaa
