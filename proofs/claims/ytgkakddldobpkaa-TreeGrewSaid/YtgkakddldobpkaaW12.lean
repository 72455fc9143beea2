/- Hash, stream and Stream of the sponge -/
import Derived.Test.YtgkakddldobpkaaW11
import Derived.Test.YtgkakddldobpkaaBox
namespace Go.Proofs.Ytgkakddldobpkaa
open Go.RowKit Go.Mv Mvp
attribute [local irreducible] permS permP toB turnsK squeeze permN

theorem built_abs : Try.prog.built 95 [] = some (abs (zeros25, 0)).toArray := by unfold abs; kernel_rfl

theorem feed_ok (l : List UInt8) : (feed (zeros25, 0) l).1.length = 25 ∧ (feed (zeros25, 0) l).2 < 136 := ⟨by rw [feed_len]; rfl, feed_lt _ _ (by decide)⟩
set_option maxHeartbeats 2000000 in
set_option maxRecDepth 1000000 in
theorem hash_any (b : Option Addr) (n c : Nat) (l : List UInt8) (w : World) (hn : n ≤ 1000000) (hnc : n ≤ c) (hb : RdB w b n l) (ho : Old w b) :
    Calls Try.prog 18 #[.slice b n c] w fun r w' => ∃ v, r = .returned v ∧ Own w' w.heap.size 5 1 v 32 (bs (spongeB l 6 32)) ∧ Fr Nob w w' := by
  go_enter Try.func18, Try.ntmps18
  go_wp2_with (with_reducible refine wl_stop (o := ⟨some 4, _, _, _, _, _⟩) ?_)
  refine wl_build0 rfl rfl _ built_abs ?_
  refine wl_box rfl rfl rfl (abs (zeros25, 0)) rfl ?_
  intro w1 hg1 hf1 hz1
  have hb1 := hb.still hf1
  have hoff : Off (One w.heap.size) b := ho.off (Nat.le_refl _)
  generalize hgw : w.heap.size = g at *
  have HG := Lib.hid hgw; clear hgw
  clear hb ho
  go_wp2_with fail
  refine (write_any g (zeros25, 0) b n c l w1 rfl (by decide) hn hnc hg1 hb1 hoff).mono ?_
  rintro e w2 ⟨rfl, hg2, hf2⟩
  obtain ⟨h1, h2⟩ := feed_ok l
  have hfr2 : Fr Nob w w2 := hf1.new hf2 (by rw [HG.out]; exact Nat.le_refl _)
  generalize hst : feed (zeros25, 0) l = st at *
  have HST := Lib.hid hst; clear hst
  clear hg1 hf1 hz1 hb1 hf2
  go_wp2_with fail
  refine (out_any g st.1 st.2 6 32 w2 h1 h2 (by omega) hg2).mono ?_
  rintro e w3 ⟨v, rfl, hown, hf3⟩
  go_wp2_with fail
  go_ret
  refine ⟨v, rfl, ?_, hfr2.new hf3 (by rw [HG.out]; exact Nat.le_refl _)⟩
  have := hown.mono (base' := g) (by have := hg2.lt; omega)
  rw [← HST.out] at this
  rw [HG.out]
  exact this
set_option maxHeartbeats 2000000 in
set_option maxRecDepth 1000000 in
theorem stream_any (b : Option Addr) (n c : Nat) (l : List UInt8) (m : Nat) (w : World) (hm : m ≤ 20000) (hn : n ≤ 1000000) (hnc : n ≤ c) (hb : RdB w b n l) (ho : Old w b) :
    Calls Try.prog 57 #[.slice b n c, .int .i64 (m : Int)] w fun r w' => ∃ v, r = .returned v ∧ Own w' w.heap.size 5 1 v m (bs (spongeB l 31 m)) ∧ Fr Nob w w' := by
  go_enter Try.func57, Try.ntmps57
  go_wp2_with (with_reducible refine wl_stop (o := ⟨some 6, _, _, _, _, _⟩) ?_)
  refine wl_build0 rfl rfl _ built_abs ?_
  refine wl_box rfl rfl rfl (abs (zeros25, 0)) rfl ?_
  intro w1 hg1 hf1 hz1
  have hb1 := hb.still hf1
  have hoff : Off (One w.heap.size) b := ho.off (Nat.le_refl _)
  generalize hgw : w.heap.size = g at *
  have HG := Lib.hid hgw; clear hgw
  clear hb ho
  go_wp2_with fail
  refine (write_any g (zeros25, 0) b n c l w1 rfl (by decide) hn hnc hg1 hb1 hoff).mono ?_
  rintro e w2 ⟨rfl, hg2, hf2⟩
  obtain ⟨h1, h2⟩ := feed_ok l
  have hfr2 : Fr Nob w w2 := hf1.new hf2 (by rw [HG.out]; exact Nat.le_refl _)
  generalize hst : feed (zeros25, 0) l = st at *
  have HST := Lib.hid hst; clear hst
  clear hg1 hf1 hz1 hb1 hf2
  go_wp2_with fail
  refine (out_any g st.1 st.2 31 m w2 h1 h2 hm hg2).mono ?_
  rintro e w3 ⟨v, rfl, hown, hf3⟩
  go_wp2_with fail
  go_ret
  refine ⟨v, rfl, ?_, hfr2.new hf3 (by rw [HG.out]; exact Nat.le_refl _)⟩
  have := hown.mono (base' := g) (by have := hg2.lt; omega)
  rw [← HST.out] at this
  rw [HG.out]
  exact this
set_option maxHeartbeats 2000000 in
set_option maxRecDepth 1000000 in
theorem Stream_any (b : Option Addr) (n c : Nat) (l : List UInt8) (m : Int) (w : World) (hn : n ≤ 1000000) (hnc : n ≤ c) (hb : RdB w b n l) (ho : Old w b) :
    Calls Try.prog 19 #[.slice b n c, .int .i64 m] w fun r w' => (0 ≤ m ∧ m ≤ 16384 ∧ ∃ v, r = .returned (.tuple #[v, .int .i64 0]) ∧ Own w' w.heap.size 5 1 v m.toNat (bs (spongeB l 31 m.toNat)) ∧ Fr Nob w w') ∨ (¬ (0 ≤ m ∧ m ≤ 16384) ∧ r = .returned (.tuple #[.slice none 0 0, .int .i64 1]) ∧ Fr Nob w w') := by
  go_enter Try.func19, Try.ntmps19
  by_cases h0 : m < 0
  · go_wp2_with fail
    go_ret2
    exact .inr ⟨by omega, rfl, Fr.refl _ _⟩
  · by_cases h1 : 16384 < m
    · go_wp2_with fail
      go_ret2
      first | exact .inr ⟨by omega, rfl, Fr.refl _ _⟩ | exact .inr ⟨rfl, Fr.refl _ _⟩ | exact .inr (Fr.refl _ _) | exact ⟨rfl, Fr.refl _ _⟩ | exact Fr.refl _ _
    · obtain ⟨k, rfl⟩ : ∃ k : Nat, m = k := ⟨m.toNat, by omega⟩
      go_wp2_with fail
      refine (stream_any b n c l k w (by omega) hn hnc hb ho).mono ?_
      rintro e w3 ⟨v, rfl, hown, hf3⟩
      go_wp2_with fail
      go_ret2
      exact .inl ⟨by omega, by omega, v, rfl, by simpa using hown, hf3⟩
end Go.Proofs.Ytgkakddldobpkaa
