/- mintvaultlaw1.SpongeTurns: the walk of the law -/
import Derived.Test.YtgkakddldobpkaaW9
namespace Go.Proofs.Ytgkakddldobpkaa
open Go.RowKit Go.Mv Mvp

theorem lent_front (l : List UInt8) : (bs (lentL l)).take l.length = bs l := by
  rw [bs_take]; simp [lentL]
/-- the front of what was lent -/
theorem lent_read {w : World} {g : Nat} {T : TypeId} {s : ByteArray} (h : Has w g (bs (lentL s.data.toList)) T) : RdB w (some ⟨g, 0, none⟩) s.size s.data.toList := by
  have := Rd.ofHas h 0 (n := s.size) (by rw [length_bs, lentL_len, size_list]; omega)
  rw [List.drop_zero, ← size_list s, lent_front] at this
  rw [← size_list s]; exact this
theorem lent_all {w : World} {g : Nat} {T : TypeId} {s : ByteArray} (h : Has w g (bs (lentL s.data.toList)) T) : RdB w (some ⟨g, 0, none⟩) (s.size + 160) (lentL s.data.toList) := by
  have := Rd.whole h
  rwa [length_bs, lentL_len, size_list] at this
theorem cutAt_zero (g c : Nat) : cutAt (some ⟨g, 0, none⟩) 0 c = some ⟨g, 0, none⟩ := by
  unfold cutAt; split
  · rfl
  · simp [addr_add]

theorem turns_big (s : ByteArray) (w : World) (h : 16384 < s.size) :
    Calls Try.prog 3 #[.string s] w fun e w' => e = .returned (.bool true) ∧ Fr Nob w w' := by
  have hI : (16384 : Int) < (s.size : Int) := by omega
  go_enter Try.func3, Try.ntmps3
  go_wp2_with fail
  go_ret
  exact ⟨rfl, Fr.refl _ _⟩

set_option maxHeartbeats 1000000 in
theorem turns_no (s : ByteArray) (w : World) (h : s.size ≤ 16384) (h2 : s.size ≠ 200) :
    Calls Try.prog 3 #[.string s] w fun e w' => e = .returned (.bool true) ∧ Fr Nob w w' := by
  have hI : ¬ (16384 : Int) < (s.size : Int) := by omega
  have hn : ((s.size : Int) != 200) = true := by rw [bne_iff_ne]; omega
  have H2 := Lib.hid h2; clear h2
  go_enter Try.func3, Try.ntmps3
  go_wp2_with fail
  refine (lent_any s _ (by omega)).mono ?_
  rintro e w1 ⟨rfl, hh1, hf1, hz1⟩
  go_wp2_with (with_reducible refine wl_stop (o := ⟨some 17, _, _, _, _, _⟩) ?_)
  refine wl_cut rfl rfl Try.underlying22 size_u8 rfl 0 s.size rfl ⟨_, rfl⟩ (by omega) (by omega) ?_
  rw [cutAt_zero]
  go_wp2_with fail
  refine (permuteP_no _ _ _ _ (by have := H2.out; omega)).mono ?_
  rintro e w2 ⟨rfl, rfl⟩
  go_wp2_with fail
  refine (still_any _ _ _ (lentL s.data.toList) s _ (by omega) (lent_all hh1)).mono ?_
  rintro e w3 ⟨rfl, hf3⟩
  rw [decide_eq_true rfl]
  go_wp2_with fail
  go_ret
  exact ⟨rfl, hf1.then hf3⟩

set_option maxHeartbeats 1000000 in
theorem turns_yes (s : ByteArray) (w : World) (h2 : s.size = 200) :
    Calls Try.prog 3 #[.string s] w fun e w' => e = .returned (.bool true) ∧ Fr Nob w w' := by
  have hI : ¬ (16384 : Int) < (s.size : Int) := by omega
  have hn : ((s.size : Int) != 200) = false := by rw [bne_eq_false_iff_eq]; omega
  have hle : s.size ≤ 200 := by omega
  have H2 := Lib.hid h2; clear h2
  go_enter Try.func3, Try.ntmps3
  go_wp2_with fail
  refine (lent_any s _ (by omega)).mono ?_
  rintro e w1 ⟨rfl, hh1, hf1, hz1⟩
  go_wp2_with (with_reducible refine wl_stop (o := ⟨some 17, _, _, _, _, _⟩) ?_)
  refine wl_cut rfl rfl Try.underlying22 size_u8 rfl 0 s.size rfl ⟨_, rfl⟩ (by omega) (by omega) ?_
  rw [cutAt_zero]
  go_wp2_with fail
  refine (permuteP_any _ _ _ s.data.toList _ (by have := H2.out; omega) (lent_read hh1)).mono ?_
  rintro e w2 ⟨g, rfl, hg2, hh2, hf2⟩
  have hl1 := hh1.keep hf2 id
  go_wp2_with fail
  refine (still_any _ _ _ (lentL s.data.toList) s _ (by omega) (lent_all hl1)).mono ?_
  rintro e w3 ⟨rfl, hf3⟩
  rw [decide_eq_true rfl]
  have hh3 := hh2.keep hf3 id
  go_wp2_with fail
  refine (permuteR_any s _ H2.out).mono ?_
  rintro e w4 ⟨rfl, hf4⟩
  have hh4 := hh3.keep hf4 id
  go_wp2_with (with_reducible refine wl_stop (o := ⟨some 39, _, _, _, _, _⟩) ?_)
  refine wl_string rfl rfl Try.underlying22 Try.underlying5 Try.underlying9 rfl (l := permB s.data.toList) (by have := Rd.whole hh4; rwa [length_bs, show (permB s.data.toList).length = 200 from toB_len _ _] at this) ?_
  go_wp2_with fail
  go_ret
  exact ⟨rfl, ((hf1.then hf2).then hf3).then hf4⟩

theorem law_SpongeTurns (s : ByteArray) (w : World) :
    Calls Try.prog 3 #[.string s] w fun e w' => e = .returned (.bool true) ∧ Fr Nob w w' := by
  rcases Nat.lt_or_ge 16384 s.size with h | h
  · exact turns_big s w h
  · by_cases h2 : s.size = 200
    · exact turns_yes s w h2
    · exact turns_no s w h h2
end Go.Proofs.Ytgkakddldobpkaa
