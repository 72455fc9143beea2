/- The reference's Hash and Stream; the law SpongeHashes -/
import Derived.Test.YtgkakddldobpkaaW12
import Derived.Test.YtgkakddldobpkaaW13
import Derived.Test.YtgkakddldobpkaaTurns
namespace Go.Proofs.Ytgkakddldobpkaa
open Go.RowKit Go.Mv Mvp
attribute [local irreducible] permS permP toB turnsK squeeze permN permB spongeB

set_option maxHeartbeats 1000000 in
theorem hashR_any (s : ByteArray) (w : World) (hs : s.size ≤ 1000000) :
    Calls Try.prog 20 #[.string s] w fun r w' => r = .returned (.string (mkS (spongeB s.data.toList 6 32))) ∧ Fr Nob w w' := by
  go_enter Try.func20, Try.ntmps20
  go_wp2_with fail
  refine (spongeR_any s 6 32 w hs (by omega)).mono ?_
  rintro e w3 ⟨rfl, hf3⟩
  go_wp2_with fail
  go_ret
  exact ⟨rfl, hf3⟩
set_option maxHeartbeats 1000000 in
theorem streamR_any (s : ByteArray) (n : Nat) (w : World) (hs : s.size ≤ 1000000) (hn : n ≤ 20000) :
    Calls Try.prog 21 #[.string s, .int .i64 (n : Int)] w fun r w' => r = .returned (.string (mkS (spongeB s.data.toList 31 n))) ∧ Fr Nob w w' := by
  go_enter Try.func21, Try.ntmps21
  go_wp2_with fail
  refine (spongeR_any s 31 n w hs hn).mono ?_
  rintro e w3 ⟨rfl, hf3⟩
  go_wp2_with fail
  go_ret
  exact ⟨rfl, hf3⟩

theorem hashes_big (s : ByteArray) (n : Int) (w : World) (h : 16384 < s.size) :
    Calls Try.prog 5 #[.string s, .int .i64 n] w fun e w' => e = .returned (.bool true) ∧ Fr Nob w w' := by
  have hI : (16384 : Int) < (s.size : Int) := by omega
  go_enter Try.func5, Try.ntmps5
  go_wp2_with fail
  go_ret
  exact ⟨rfl, Fr.refl _ _⟩
theorem own_rd {w : World} {base : Nat} {T : TypeId} {v : Value} {n : Nat} {l : List UInt8} (h : Own w base T 1 v n (bs l)) : ∃ a c, v = .slice a n c ∧ RdB w a n l := by
  obtain ⟨a, c, hv, _, hr, _⟩ := h.form
  rw [Nat.mul_one] at hr
  exact ⟨a, c, hv, hr⟩
set_option maxHeartbeats 2000000 in
set_option maxRecDepth 1000000 in
theorem hashes_yes (s : ByteArray) (n : Int) (w : World) (h : s.size ≤ 16384) :
    Calls Try.prog 5 #[.string s, .int .i64 n] w fun e w' => e = .returned (.bool true) ∧ Fr Nob w w' := by
  have hI : ¬ (16384 : Int) < (s.size : Int) := by omega
  go_enter Try.func5, Try.ntmps5
  go_wp2_with fail
  refine (lent_any s _ (by omega)).mono ?_
  rintro e w1 ⟨rfl, hh1, hf1, hz1⟩
  have hgl : w.heap.size < w1.heap.size := by omega
  generalize hgv : w.heap.size = g at *
  have HG := Lib.hid hgv; clear hgv
  have e1 : ∀ wx, (Instr.sliceAt 22 (.slice (some ⟨g, 0, none⟩) (s.size + 160) (s.size + 160)) none (some (.int .i64 (s.size : Int))) none).run Try.prog wx = .ok (.slice (some ⟨g, 0, none⟩) s.size (s.size + 160)) wx := fun wx => run_slice_hi wx Try.underlying22 size_u8 _ _ _ .i64 s.size (by omega)
  go_wp2_with fail
  refine (hash_any _ s.size _ s.data.toList _ (by omega) (by omega) (lent_read hh1) (Old.has hh1 0)).mono ?_
  rintro e w2 ⟨v2, rfl, hown2, hf2⟩
  obtain ⟨a2, c2, rfl, -⟩ := own_rd hown2
  have hh2 := hh1.keep hf2 id
  have hfr2 := hf1.then hf2
  clear hh1 hf1 hz1 hf2
  go_wp2_with fail
  refine (Stream_any _ s.size _ s.data.toList n _ (by omega) (by omega) (lent_read hh2) (Old.has hh2 0)).mono ?_
  rintro e w3 hres
  have hex : ∃ v err, e = .returned (.tuple #[v, .int .i64 err]) ∧ Fr Nob w2 w3 ∧ ((0 ≤ n ∧ n ≤ 16384 ∧ err = 0 ∧ Own w3 w2.heap.size 5 1 v n.toNat (bs (spongeB s.data.toList 31 n.toNat))) ∨ (¬ (0 ≤ n ∧ n ≤ 16384) ∧ err = 1 ∧ v = .slice none 0 0)) := by
    rcases hres with ⟨h1, h2, v, rfl, ho, hf⟩ | ⟨h1, rfl, hf⟩
    · exact ⟨v, 0, rfl, hf, .inl ⟨h1, h2, rfl, ho⟩⟩
    · exact ⟨_, 1, rfl, hf, .inr ⟨h1, rfl, rfl⟩⟩
  obtain ⟨v, err, rfl, hf3, hv⟩ := hex
  clear hres
  have HV := Lib.hid hv; clear hv
  have hh3 := hh2.keep hf3 id
  have hown3 := hown2.still hf3
  have hfr3 := hfr2.then hf3
  clear e1
  go_wp2_with fail
  refine (still_any _ _ _ (lentL s.data.toList) s _ (by omega) (lent_all hh3)).mono ?_
  rintro e w4 ⟨rfl, hf4⟩
  rw [decide_eq_true rfl]
  go_wp2_with fail
  refine (hashR_any s _ (by omega)).mono ?_
  rintro e w5 ⟨rfl, hf5⟩
  have hf45 := hf4.then hf5
  have hown5 := hown3.still hf45
  have hfr5 := hfr3.then hf45
  have hrd5 : RdB w5 a2 32 (spongeB s.data.toList 6 32) := by
    obtain ⟨a, c, hv, hr⟩ := own_rd hown5
    cases hv; exact hr
  have e2 := run_string hrd5 c2 Try.underlying22 Try.underlying5 Try.underlying9
  by_cases h0 : n < 0
  · have herr : err = 1 ∧ v = .slice none 0 0 := by
      rcases HV.out with ⟨h1, _⟩ | ⟨_, h2, h3⟩
      · omega
      · exact ⟨h2, h3⟩
    obtain ⟨rfl, rfl⟩ := herr
    go_wp2_with fail
    go_ret
    exact ⟨rfl, hfr5⟩
  · by_cases h1 : 16384 < n
    · have herr : err = 1 ∧ v = .slice none 0 0 := by
        rcases HV.out with ⟨_, h1, _⟩ | ⟨_, h2, h3⟩
        · omega
        · exact ⟨h2, h3⟩
      obtain ⟨rfl, rfl⟩ := herr
      go_wp2_with fail
      go_ret
      exact ⟨rfl, hfr5⟩
    · have herr : err = 0 ∧ Own w3 w2.heap.size 5 1 v n.toNat (bs (spongeB s.data.toList 31 n.toNat)) := by
        rcases HV.out with ⟨_, _, h2, h3⟩ | ⟨h2, _⟩
        · exact ⟨h2, h3⟩
        · omega
      obtain ⟨rfl, hown6⟩ := herr
      obtain ⟨m, rfl⟩ : ∃ m : Nat, n = m := ⟨n.toNat, by omega⟩
      rw [Int.toNat_natCast] at hown6
      have hown7 := hown6.still hf45
      obtain ⟨a7, c7, rfl, -⟩ := own_rd hown7
      go_wp2_with fail
      refine (streamR_any s m _ (by omega) (by omega)).mono ?_
      rintro e w8 ⟨rfl, hf8⟩
      have hrd8 : RdB w8 a7 m (spongeB s.data.toList 31 m) := by
        obtain ⟨a, c, hv, hr⟩ := own_rd (hown7.still hf8)
        cases hv; exact hr
      have e3 := run_string hrd8 c7 Try.underlying22 Try.underlying5 Try.underlying9
      clear e2
      go_wp2_with fail
      go_ret
      exact ⟨rfl, hfr5.then hf8⟩
theorem law_SpongeHashes (s : ByteArray) (n : Int) (w : World) :
    Calls Try.prog 5 #[.string s, .int .i64 n] w fun e w' => e = .returned (.bool true) ∧ Fr Nob w w' := by
  rcases Nat.lt_or_ge 16384 s.size with h | h
  · exact hashes_big s n w h
  · exact hashes_yes s n w h
end Go.Proofs.Ytgkakddldobpkaa
