/- Permute, the program's and the reference's -/
import Derived.Test.YtgkakddldobpkaaW7
import Derived.Test.YtgkakddldobpkaaSpg2
namespace Go.Proofs.Ytgkakddldobpkaa
open Go.RowKit Go.Mv Mvp

theorem Fr.widen {g : Nat} {a b : World} (h : Fr (One g) a b) (hg : a.heap.size ≤ g) : Fr Nob a b := h.mono (fun i hi (t : i = g) => by omega)

set_option maxHeartbeats 1000000 in
theorem permuteP_any (b : Option Addr) (n c : Nat) (l : List UInt8) (w : World) (hn : n = 200) (hb : RdB w b n l) :
    Calls Try.prog 13 #[.slice b n c] w fun e w' => ∃ g, e = .returned (.tuple #[.slice (some ⟨g, 0, none⟩) 200 200, .int .i64 0]) ∧ w.heap.size ≤ g ∧ Has w' g (bs (permB l)) 5 ∧ Fr Nob w w' := by
  subst hn
  go_enter Try.func13, Try.ntmps13
  go_wp2_with (with_reducible refine wl_stop (o := ⟨_, .alloc 84, _, _, _, _⟩) ?_)
  refine wl_alloc rfl rfl zero_state (ws (List.replicate 25 0)) (by simp [Value.cells]) ?_
  intro w1 hs1 hf1 hz1
  have hg1 : Has w1 w.heap.size (ws zeros25 ++ []) 84 := by simpa [zeros25] using hs1
  have hboff : Off (One w.heap.size) b := fun x hx (e : x.block = w.heap.size) => by
    obtain ⟨bb, o, rfl, hat⟩ := Rd.at hb (by omega)
    have := Rd.lt hb (by omega)
    simp only [Option.some.injEq] at hx
    subst hx
    simp at e
    omega
  go_wp2_with fail
  refine (xor_any w.heap.size zeros25 [] 84 b 200 c l w1 (by simp [zeros25]) (by omega) hg1 (hb.still hf1) hboff).mono ?_
  rintro e w2 ⟨rfl, hg2, hf2, hz2⟩
  go_wp2_with fail
  refine (permute_any w.heap.size (xorB zeros25 l 200) [] 84 w2 (by rw [xorB_len]; simp [zeros25]) hg2).mono ?_
  rintro e w3 ⟨rfl, hg3, hf3⟩
  go_wp2_with fail
  refine (bytes_any w.heap.size (permS (xorB zeros25 l 200)) [] 84 200 w3 (by rw [permS_len, xorB_len]; simp [zeros25]) (by omega) hg3).mono ?_
  rintro e w4 ⟨rfl, hh4, hf4, hz4⟩
  have hfr : Fr Nob w w3 := ((hf1.new hf2 (Nat.le_refl _)).new hf3 (Nat.le_refl _))
  go_wp2_with fail
  go_ret2
  exact ⟨w3.heap.size, rfl, hfr.size, hh4, hfr.same hf4⟩

theorem permuteP_no (b : Option Addr) (n c : Nat) (w : World) (hn : n ≠ 200) :
    Calls Try.prog 13 #[.slice b n c] w fun e w' => e = .returned (.tuple #[.slice none 0 0, .int .i64 2]) ∧ w = w' := by
  have h1 : ((n : Int) == 200) = false := by rw [beq_eq_false_iff_ne]; omega
  have h2 : ((n : Int) != 200) = true := by rw [bne_iff_ne]; omega
  go_enter Try.func13, Try.ntmps13
  go_wp2
  go_ret2
  exact ⟨rfl, rfl⟩
end Go.Proofs.Ytgkakddldobpkaa
