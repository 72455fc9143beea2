/- SpongeLogs: a list of steps that was handed in -/
import Derived.Test.YtgkakddldobpkaaLogs2
import Derived.Test.YtgkakddldobpkaaOpen2
namespace Go.Proofs.Ytgkakddldobpkaa
open Go.RowKit Go.Mv Mvp

theorem cells_step : Try.prog.cellsOf 47 = 4 := by kernel_rfl
theorem cells_int : Try.prog.cellsOf 3 = 1 := by kernel_rfl
theorem cells_str : Try.prog.cellsOf 9 = 1 := by kernel_rfl
set_option maxRecDepth 100000 in
open Go.ChangeShapes Go.WideShapes in
theorem open_steps {H : Type} {enc : TypeId × Value → H} {w : World} {base : Nat} {held : Bool} {spare : Nat → Bool} {v : Value} {d : DataW H} {ps : List MemPlace} (hv : Value.okWide Try.prog w .any base 39 v) (h : DataW.Trod enc Try.prog w 0 spare held 39 v d ps) (hfit : Fits Try.prog 39 d) :
    ∃ (a : Option Addr) (c : Nat) (l : List St), v = .slice a l.length c ∧ Rd w a (l.length * 4) (stsC l) := by
  obtain ⟨a, c, css, rfl, hr, hx, -, -, -⟩ := open_list Try.underlying39 cells_step (by decide) hv h hfit
  have hs : ∀ x ∈ css, ∃ s, x = stC s := by
    intro x hxm
    obtain ⟨hl, hrd⟩ := hx x hxm
    obtain ⟨-, hf⟩ := hrd.struct Try.underlying47
    match x, hl with
    | [x0, x1, x2, x3], _ =>
      obtain ⟨n0, e0, -⟩ := Reads.int Try.underlying3 (hf 0 _ rfl _ 0 1 rfl rfl cells_int)
      obtain ⟨n1, e1, -⟩ := Reads.int Try.underlying3 (hf 1 _ rfl _ 1 1 rfl rfl cells_int)
      obtain ⟨l2, e2, -⟩ := Reads.string Try.underlying9 (hf 2 _ rfl _ 2 1 rfl rfl cells_str)
      obtain ⟨l3, e3, -⟩ := Reads.string Try.underlying9 (hf 3 _ rfl _ 3 1 rfl rfl cells_str)
      simp only [ List.drop_zero, List.take_succ_cons, List.take_zero, List.drop_succ_cons, List.cons.injEq, and_true] at e0 e1 e2 e3
      subst e0 e1 e2 e3
      exact ⟨(n0, n1, l2, l3), rfl⟩
  obtain ⟨l, rfl⟩ := map_of_each hs
  refine ⟨a, c, l, by rw [List.length_map], ?_⟩
  rw [List.length_map] at hr
  exact hr
end Go.Proofs.Ytgkakddldobpkaa
