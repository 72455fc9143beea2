/- mintvaultlaw4.WireLetters: the walk of the law. -/
import Derived.Test.YtgkakddldobpkaaLet7
import Derived.Test.YtgkakddldobpkaaTurns
namespace Go.Proofs.Ytgkakddldobpkaa
open Go.RowKit Go.Mv Mvp Mvl

theorem let_big (s t : ByteArray) (w : World) (h : 131072 < s.size ∨ 262144 < t.size) :
    Calls Try.prog 10 #[.string s, .string t] w fun e w' => e = .returned (.bool true) ∧ Fr Nob w w' := by
  by_cases hs : 131072 < s.size
  · have hI : (131072 : Int) < (s.size : Int) := by omega
    clear h
    go_enter Try.func10, Try.ntmps10
    go_wp2_with fail
    go_ret
    exact ⟨rfl, Fr.refl _ _⟩
  · have hI : ¬ (131072 : Int) < (s.size : Int) := by omega
    have hI2 : (262144 : Int) < (t.size : Int) := by omega
    clear h
    go_enter Try.func10, Try.ntmps10
    go_wp2_with fail
    go_ret
    exact ⟨rfl, Fr.refl _ _⟩

set_option maxHeartbeats 2000000 in
set_option maxRecDepth 100000 in
theorem let_yes (l m : List UInt8) (w : World) (hs : l.length ≤ 131072) (ht : m.length ≤ 262144) :
    Calls Try.prog 10 #[.string (mkS l), .string (mkS m)] w fun e w' => e = .returned (.bool true) ∧ Fr Nob w w' := by
  have hls : (mkS l).size = l.length := mkS_size l
  have hms : (mkS m).size = m.length := mkS_size m
  have hI : ¬ (131072 : Int) < ((mkS l).size : Int) := by omega
  have hI2 : ¬ (262144 : Int) < ((mkS m).size : Int) := by omega
  have HLS := Lib.hid hls; clear hls
  have HMS := Lib.hid hms; clear hms
  have hfl : (fromL m).1.length ≤ 1000000 := by
    unfold fromL
    split
    · simp
    · split
      · simp
      · split
        · simp only [decL_len, vals_len]; omega
        · simp
  have hll := lettersL_len l
  have hlb : lets l.length ≤ 1000000 := by unfold lets; omega
  have hback := fromL_letters l
  have HLL := Lib.hid hll; clear hll
  have HLB := Lib.hid hlb; clear hlb
  have HBK := Lib.hid hback; clear hback
  go_enter Try.func10, Try.ntmps10
  go_wp2_with fail
  refine (lent_any (mkS l) _ (by rw [HLS.out]; omega)).mono ?_
  rintro e w1 ⟨rfl, hh1, hf1, hz1⟩
  clear hz1
  have hr1 := lent_read hh1
  have hr1 := lent_read hh1
  rw [HLS.out, mkS_toList] at hr1
  rw [HLS.out]
  go_wp2_with (with_reducible refine wl_stop (o := ⟨some 27, _, _, _, _, _⟩) ?_)
  refine wl_cut rfl rfl Try.underlying22 size_u8 rfl 0 l.length rfl ⟨_, by rw [← HLS.out]; rfl⟩ (by omega) (by omega) ?_
  rw [cutAt_zero, Nat.sub_zero, Nat.sub_zero]
  go_wp2_with fail
  refine (Letters_any _ _ _ l w1 (by omega) hr1).mono ?_
  rintro e w2 ⟨rfl, hf2⟩
  have hl2 := hh1.keep hf2 id
  go_wp2_with fail
  have hst := lent_all hl2
  rw [HLS.out] at hst
  refine (still_any _ _ _ (lentL (mkS l).data.toList) (mkS l) _ (by rw [HLS.out]; omega) hst).mono ?_
  rintro e w3 ⟨rfl, hf3⟩
  rw [decide_eq_true rfl]
  have hf13 := (hf1.then hf2).then hf3
  clear hh1 hr1 hl2 hst hf1 hf2 hf3
  go_wp2_with fail
  refine (FromLetters_any m w3 (by omega)).mono ?_
  rintro e w4 ⟨v4, rfl, hown4, hf4⟩
  generalize w.heap.size = g0 at *
  go_wp2_with fail
  refine (LettersR_any l w4 (by omega)).mono ?_
  rintro e w5 ⟨rfl, hf5⟩
  go_wp2_with fail
  refine (FromLettersR_any m w5 (by omega)).mono ?_
  rintro e w6 ⟨rfl, hf6⟩
  have hown6 := (hown4.still hf5).still hf6
  obtain ⟨a4, c4, rfl, hc4, hr4, -⟩ := hown6.form
  rw [Nat.mul_one] at hr4
  have hrb : RdB w6 a4 (fromL m).1.length (fromL m).1 := hr4
  have hf16 := ((hf13.then hf4).then hf5).then hf6
  have e1 := fun nq => run_string (P := Try.prog) (RdB.still hrb ((Fr.refl Nob w6).drewN nq)) c4 Try.underlying22 Try.underlying5 Try.underlying9
  have e2 := run_string (P := Try.prog) hrb c4 Try.underlying22 Try.underlying5 Try.underlying9
  clear hown4 hown6 hr4 hf13 hf4 hf5 hf6 hrb
  generalize fromL m = p at *
  obtain ⟨p1, p2⟩ := p
  simp only at *
  have hasz : (mkS (lettersL l)).size = (lettersL l).length := mkS_size _
  have HAS := Lib.hid hasz; clear hasz
  by_cases hbig : 131072 < (lettersL l).length
  · have hbI : (131072 : Int) < ((mkS (lettersL l)).size : Int) := by rw [HAS.out]; omega
    clear HBK hbig
    generalize mkS (lettersL l) = q at *
    go_wp2_with fail
    go_ret
    exact ⟨rfl, hf16⟩
  · have hbI : ¬ (131072 : Int) < ((mkS (lettersL l)).size : Int) := by rw [HAS.out]; omega
    have hfl2 := HBK.out hbig
    have hcon := FromLetters_any (lettersL l) w6 (by rw [HLL.out]; have := HLB.out; omega)
    rw [hfl2] at hcon
    have HCON := Lib.hid hcon; clear hcon HBK hbig hfl2
    generalize hq : mkS (lettersL l) = q at *
    clear hq
    go_wp2_with fail
    refine HCON.out.mono ?_
    rintro e w7 ⟨v7, rfl, hown7, hf7⟩
    obtain ⟨a7, c7, rfl, hc7, hr7, -⟩ := hown7.form
    rw [Nat.mul_one] at hr7
    simp only at hr7 hc7 ⊢
    have hrb7 : RdB w7 a7 l.length l := hr7
    have e3 := fun nq => run_string (P := Try.prog) (RdB.still hrb7 ((Fr.refl Nob w7).drewN nq)) c7 Try.underlying22 Try.underlying5 Try.underlying9
    have e4 := run_string (P := Try.prog) hrb7 c7 Try.underlying22 Try.underlying5 Try.underlying9
    have hf17 := hf16.then hf7
    clear hown7 hr7 hf16 hf7 e1 e2
    go_wp2_with fail
    go_ret
    exact ⟨rfl, hf17⟩

theorem law_WireLetters (s t : ByteArray) (w : World) :
    Calls Try.prog 10 #[.string s, .string t] w fun e w' => e = .returned (.bool true) ∧ Fr Nob w w' := by
  by_cases h : 131072 < s.size ∨ 262144 < t.size
  · exact let_big s t w h
  · have := let_yes s.data.toList t.data.toList w (by rw [size_list]; omega) (by rw [size_list]; omega)
    rwa [mkS_data, mkS_data] at this
end Go.Proofs.Ytgkakddldobpkaa
