/- The tree's climber: up, right. -/
import Derived.Test.YtgkakddldobpkaaTree2
import Derived.RegionTactic
import Derived.BigRegion
namespace Go.Proofs.Ytgkakddldobpkaa
open Go.RowKit Go.Mv Mvp Mvt

/-- a climber in memory -/
def Clim (w : World) (g a e : Nat) : Prop := Has w g [.int .u64 (a : Int), .int .u64 (e : Int)] 103
theorem and1 (k : Nat) : bits BinOp.and IntKind.u64 (k : Int) 1 = ((k % 2 : Nat) : Int) := by
  have h1 : BitVec.ofInt 64 (k : Int) = BitVec.ofNat 64 k := by simp
  have h2 : (BitVec.ofNat 64 k &&& BitVec.ofInt 64 1).toNat = k % 2 := by
    have e : (BitVec.ofInt 64 1).toNat = 2 ^ 1 - 1 := by decide
    rw [BitVec.toNat_and, e, Nat.and_two_pow_sub_one_eq_mod, BitVec.toNat_ofNat]
    omega
  show IntKind.u64.wrap (((BitVec.ofInt 64 (k : Int) &&& BitVec.ofInt 64 1).toNat : Nat) : Int) = _
  rw [h1, h2, IntKind.wrap_u64]
  omega
set_option maxHeartbeats 1000000 in
set_option maxRecDepth 1000000 in
theorem up_any (g a e : Nat) (w : World) (ha : a ≤ 1048576) (he : e ≤ 1048576) (hg : Clim w g a e) :
    Calls Try.prog 63 #[.pointer (some ⟨g, 0, none⟩)] w fun r w' => r = .returned (.tuple #[]) ∧ Clim w' g (a / 2) (e / 2) ∧ Fr (Mv.One g) w w' := by
  have hc0 := hg.cell (i := 0) rfl
  have hc1 := hg.cell (i := 1) rfl
  have hz0 := hg.free 0 (by simp)
  have hz1 := hg.free 1 (by simp)
  go_enter Try.func63, Try.ntmps63
  go_wp2_with fail
  go_region
  all_goals
    go_end0
    refine ⟨rfl, ?_, ((((Fr.refl (Mv.One g) w).setCell g 0 none _ (fun _ => rfl)).setCell g 1 none _ (fun _ => rfl))).drew⟩
    have h := (Has.set (Has.set hg 0 (.int .u64 ((a : Int) / 2))) 1 (.int .u64 ((e : Int) / 2))).drew
    simpa [Clim] using h

set_option maxRecDepth 1000000 in
theorem right_left (g a e : Nat) (w : World) (ha : a ≤ 1048576) (he : e ≤ 1048576) (hg : Clim w g a e) (hl : a % 2 = 0 ∧ a ≠ e) :
    Calls Try.prog 61 #[.pointer (some ⟨g, 0, none⟩)] w fun r w' => r = .returned (.bool false) ∧ Fr Nob w w' := by
  have hc0 := hg.cell (i := 0) rfl
  have hc1 := hg.cell (i := 1) rfl
  have e1 := and1 a
  rw [hl.1] at e1
  have hne : ¬ (a : Int) = (e : Int) := by omega
  clear hl
  go_enter Try.func61, Try.ntmps61
  go_wp2_with fail
  go_quiet (fail)
  go_wp2_with fail
  go_ret
  exact ⟨rfl, (Fr.refl Nob w).drewN nq⟩

set_option maxHeartbeats 1000000 in
set_option maxRecDepth 1000000 in
theorem right_right (g a e : Nat) (w : World) (ha : a ≤ 1048576) (he : e ≤ 1048576) (hg : Clim w g a e) (hl : ¬ (a % 2 = 0 ∧ a ≠ e)) :
    Calls Try.prog 61 #[.pointer (some ⟨g, 0, none⟩)] w fun r w' => r = .returned (.bool true) ∧ Clim w' g (skip a e).1 (skip a e).2 ∧ Fr (Mv.One g) w w' := by
  have hc0 := hg.cell (i := 0) rfl
  have hc1 := hg.cell (i := 1) rfl
  have hcs : (a % 2 = 0 ∧ a = e ∧ bits BinOp.and IntKind.u64 (a : Int) 1 = 0) ∨ bits BinOp.and IntKind.u64 (a : Int) 1 = 1 := by
    rw [and1]; omega
  clear hl
  generalize hq : skip a e = q
  have HQ := Lib.hid hq; clear hq
  go_enter Try.func61, Try.ntmps61
  rcases hcs with ⟨-, rfl, h3⟩ | h3
  all_goals
    go_wp2_with fail
    go_quiet (fail)
    clear h3 hc0 hc1
    have hgq : Clim (w.drewN nq) g a _ := hg.drewN nq
    have hfq := (Fr.refl (Mv.One g) w).drewN nq
    generalize w.drewN nq = w1 at *
    go_wp2_with fail
    go_loopw [33] (fun _ wr => ∃ a' e' : Nat, a' ≤ 1048576 ∧ e' ≤ 1048576 ∧ Clim wr g a' e' ∧ skip a' e' = q ∧ Fr (Mv.One g) w wr) (fun _ wr => (intOf ((wr.cell? ⟨g, 0, none⟩).getD undef)).toNat)
    case atStart => exact ⟨a, _, ha, he, hgq, HQ.out, hfq⟩
    case round =>
      obtain ⟨a', e', ha', he', hg', hs', hf'⟩ := hrel
      have hc0 := hg'.cell (i := 0) rfl
      have HS := Lib.hid hs'; clear hs'
      clear hgq hfq
      by_cases h : a' % 2 = 0 ∧ 0 < a'
      · have h1 : bits BinOp.and IntKind.u64 (a' : Int) 1 = 0 := by rw [and1, h.1]; rfl
        have h2 : (0 : Int) < (a' : Int) := by omega
        have hss := skip_even a' e' h.1 h.2
        have HSS := Lib.hid hss; clear hss
        have hlt : a' / 2 < a' := by omega
        have hm : (intOf ((wr.cell? ⟨g, 0, none⟩).getD undef)).toNat = a' := by rw [hc0]; simp [intOf]
        have HM := Lib.hid hm; clear hm
        clear h
        go_wp2_with fail
        refine (up_any g a' e' wr ha' he' hg').mono ?_
        rintro e2 w2 ⟨rfl, hg2, hf2⟩
        have hm2 : (intOf ((w2.cell? ⟨g, 0, none⟩).getD undef)).toNat = a' / 2 := by
          have := hg2.cell (i := 0) rfl
          rw [this]; simp [intOf]; omega
        have HM2 := Lib.hid hm2; clear hm2 hc0 h1
        go_wp2_with fail
        go_roundw
        case rel => exact ⟨a' / 2, e' / 2, by omega, by omega, hg2, by rw [← HSS.out]; exact HS.out, hf'.trans hf2 (fun _ _ t => t)⟩
        case measure => rw [HM.out, HM2.out]; exact hlt
      · have hss : skip a' e' = (a', e') := by rw [skip, if_neg h]
        have HSS := Lib.hid hss; clear hss
        have hcs : (a' % 2 = 0 ∧ ¬ (0 : Int) < (a' : Int) ∧ bits BinOp.and IntKind.u64 (a' : Int) 1 = 0) ∨ bits BinOp.and IntKind.u64 (a' : Int) 1 = 1 := by
          rw [and1]; omega
        clear h
        rcases hcs with ⟨h1, h2, h3⟩ | h3
        all_goals
          go_wp2_with fail
          go_ret
          refine ⟨rfl, ?_, hf'⟩
          rw [← HS.out, HSS.out]
          exact hg'
end Go.Proofs.Ytgkakddldobpkaa
