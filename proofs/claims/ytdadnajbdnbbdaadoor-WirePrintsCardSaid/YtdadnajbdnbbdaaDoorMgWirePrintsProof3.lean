/- wire: item (printed by gen_wp7.py); Slice expressions as equations on their runs: to be laid ahead of a walk; wire: list (printed by gen_wp8.py); wire: items and lists of any depth; guard; Print; wire: guard; Print; utf8.word of bytes (printed by gen_wp11.py). -/
import Derived.Test.YtdadnajbdnbbdaaDoorMgWirePrintsProof2
import Derived.Test.YtdadnajbdnbbdaaDoorMgWirePrintsProof1
import Derived.Defers
import Derived.Recover
import Derived.Shelf.Unicode.DecodeSlow
import Derived.Lib.ValidAsc
import Derived.Lib.EndianBits
namespace Go.Proofs.YtdadnajbdnbbdaaDoor
open Go.RowKit Go.Mv Mvp
theorem WrS.still {q : Gh} {w0 w w' : World} {gw : Nat} {left : Int} {v : Value} {b : List UInt8} (h : WrS q w0 w gw left v b) (hf : Fr Nob w w') : WrS q w0 w' gw left v b :=
  ⟨h.h.keep hf id, h.o.still hf, h.f.then hf, h.g, h.k.fr hf⟩
/-- what item and list answer -/
def itPost (q : Gh) (w0 : World) (gw : Nat) : Option (Nat × List UInt8) → Ending → World → Prop
  | none, e, w' => e = brokenW ∧ WrX q w0 w' gw
  | some (m, b), e, w' => e = .returned (.tuple #[]) ∧ ∃ v, WrS q w0 w' gw (m : Int) v b
theorem itPost_none {q : Gh} {w0 w' : World} {gw : Nat} {r : Option (Nat × List UInt8)} (h : r = none) (hf : WrX q w0 w' gw) : itPost q w0 gw r brokenW w' := by subst h; exact ⟨rfl, hf⟩
theorem shK_nat {k : Int} (h : shK k = true) : ∃ kd : Nat, k = (kd : Int) ∧ kd < 8 := by
  unfold shK shN shD shL at h
  simp only [Bool.or_eq_true, beq_iff_eq] at h
  exact ⟨k.toNat, by omega, by omega⟩
theorem call_sh (k : Int) : ∀ args w, (callFunc (shFn k) args).run Tryd.prog w = .ok (.enter (shFn k) args) w := by
  intro args w
  unfold shFn
  split
  · exact Tryd.call22 args w
  · split
    · exact Tryd.call23 args w
    · split
      · exact Tryd.call24 args w
      · exact Tryd.call21 args w
def listOk (u8 : List UInt8 → Bool) (w0 : World) (gw bo oo deep : Nat) (k : Int) (l : List It) : Prop := ∀ (q : Gh) (w : World) (m : Nat) (v : Value) (b : List UInt8), WrS q w0 w gw (m : Int) v b → m ≤ 4096 → b.length ≤ 65536 + 9 * deep →
    Calls Tryd.prog 18 #[.pointer (some ⟨gw, 0, none⟩), .pointer (some ⟨bo, oo, none⟩), .int .i64 (deep : Int)] w (itPost q w0 gw (prWs u8 l (k == 5) true deep m (b ++ headW k.toNat (if k = 5 then l.length / 2 else l.length)) none))
theorem exec_lookupW {w : World} {o : Oper} {a : Act} {x y : Operand} (ho : o.op = .lookup 55 x y true) {g : Nat} {k : Int} (hx : a.eval x = .map (some g)) (hy : a.eval y = .int .i64 k) (h : MapAt w g shE 7) :
    (execOp a.eval o).run Tryd.prog w = .ok (.value (.tuple #[.agg #[.bool (shN k), .bool (shD k), .bool (shL k), shFv k], .bool (shK k)])) w := by
  unfold execOp
  simp only [ho, hx, hy, Sem.run_bind, Sem.run_pure, Result.andThen_ok, lookup_sh g k w h]
theorem sh_one (k : Int) : ∀ v ∈ [.bool (shN k), .bool (shD k), .bool (shL k), shFv k], v.oneCell' = true := by
  intro v hv
  simp only [List.mem_cons, List.not_mem_nil, or_false] at hv
  rcases hv with rfl | rfl | rfl | rfl
  · rfl
  · rfl
  · rfl
  · unfold shFv; split <;> rfl
theorem sh_excl {k : Int} : (shN k = true → shD k = false ∧ shL k = false) ∧ (shD k = true → shN k = false ∧ shL k = false) := by
  unfold shN shD shL
  constructor
  · intro h
    simp only [Bool.or_eq_true, beq_iff_eq] at h
    rcases h with (rfl | rfl) | rfl <;> decide
  · intro h
    simp only [Bool.or_eq_true, beq_iff_eq] at h
    rcases h with rfl | rfl <;> decide
section
variable {u8 : List UInt8 → Bool} {k : Int} {n deep m : Nat} {d b : List UInt8} {l : List It}
theorem prW_bad (h : fitW u8 k n d l.length = false) : prW u8 (.mk k n d l) deep (m + 1) b = none := by
  unfold prW
  rw [if_pos (.inr (.inr h))]
theorem prW_if (h : fitW u8 k n d l.length = true) (hd : deep ≤ 16) : ¬ (m + 1 = 0 ∨ 16 < deep ∨ fitW u8 k n d l.length = false) := by
  rw [h]; simp; omega
theorem prW_num (h : fitW u8 k n d l.length = true) (hd : deep ≤ 16) (hN : shN k = true) : prW u8 (.mk k n d l) deep (m + 1) b = if (b ++ headW k.toNat n).length ≤ 65536 then some (m, b ++ headW k.toNat n) else none := by
  unfold prW
  rw [if_neg (prW_if h hd)]
  have hk : k = 0 ∨ k = 1 ∨ k = 7 := by unfold shN at hN; simp only [Bool.or_eq_true, beq_iff_eq] at hN; omega
  simp only [if_pos hk, Nat.add_sub_cancel]
theorem prW_data (h : fitW u8 k n d l.length = true) (hd : deep ≤ 16) (hD : shD k = true) : prW u8 (.mk k n d l) deep (m + 1) b = if d.length ≤ 65536 then (if (b ++ headW k.toNat d.length ++ d).length ≤ 65536 then some (m, b ++ headW k.toNat d.length ++ d) else none) else none := by
  unfold prW
  rw [if_neg (prW_if h hd)]
  have hk : k = 2 ∨ k = 3 := by unfold shD at hD; simpa only [Bool.or_eq_true, beq_iff_eq] using hD
  have hk2 : ¬ (k = 0 ∨ k = 1 ∨ k = 7) := by omega
  simp only [if_pos hk, if_neg hk2, Nat.add_sub_cancel]
  by_cases h6 : d.length ≤ 65536
  · rw [if_pos h6, if_pos h6]
  · rw [if_neg h6, if_neg h6]
theorem prW_list (h : fitW u8 k n d l.length = true) (hd : deep ≤ 16) (hL : shL k = true) : prW u8 (.mk k n d l) deep (m + 1) b = (match prWs u8 l (k == 5) true deep m (b ++ headW k.toNat (if k = 5 then l.length / 2 else l.length)) none with
    | none => none
    | some (m', b') => if b'.length ≤ 65536 then some (m', b') else none) := by
  unfold prW
  rw [if_neg (prW_if h hd)]
  have hk : k = 4 ∨ k = 5 := by unfold shL at hL; simpa only [Bool.or_eq_true, beq_iff_eq] using hL
  have hk2 : ¬ (k = 0 ∨ k = 1 ∨ k = 7) := by omega
  have hk3 : ¬ (k = 2 ∨ k = 3) := by omega
  simp only [if_neg hk2, if_neg hk3, Nat.add_sub_cancel]
  rfl
end
set_option maxHeartbeats 4000000 in
set_option maxRecDepth 1000000 in
theorem item_bad (u8 : List UInt8 → Bool) (q : Gh) (w0 w : World) (gw m deep bo oo : Nat) (v : Value) (b : List UInt8) (k : Int) (n : Nat) (d : List UInt8) (l : List It) (hV : VOk u8 w0) (hit : ItP w0 bo oo (.mk k n d l)) (hL : shL k = true → listOk u8 w0 gw bo oo deep k l)
    (h : WrS q w0 w gw ((m : Int) + 1) v b) (hm : m ≤ 4096) (hd : deep ≤ 16) (hb : b.length ≤ 65536 + 9 * deep) (hk : shK k = false) :
    Calls Tryd.prog 10 #[.pointer (some ⟨gw, 0, none⟩), .pointer (some ⟨bo, oo, none⟩), .int .i64 (deep : Int)] w (itPost q w0 gw (prW u8 (.mk k n d l) deep (m + 1) b)) := by
  have hI0 := hit
  have H := Lib.hid h
  have HI := Lib.hid hit
  have HV := Lib.hid hV
  have HL := Lib.hid hL
  have HB := Lib.hid (show b.length ≤ 65700 from by omega)
  have HB2 := Lib.hid hb
  have HM := Lib.hid hm
  have HD := Lib.hid hd
  have HK := Lib.hid hk
  clear h hit hV hL hb hm hd hk hI0
  go_enter Tryd.func10, Tryd.ntmps10
  go_wp2_with fail
  refine (one_ok q w0 w gw m deep v b H.out (by have := HM.out; omega) HD.out).mono ?_
  rintro e wo ⟨rfl, hwo⟩
  have HW := Lib.hid hwo
  have HI1 := Lib.hid (HI.out.still HW.out.f)
  have hC := HI1.out.open
  obtain ⟨da, dc, la, lc, ⟨c0, c1, c2, c3⟩, hrd, hn, hdl, hll, -⟩ := hC
  have C0 := Lib.hid (show wo.drew.cell? ⟨bo, oo, none⟩ = _ from c0)
  have C1 := Lib.hid c1
  have C2 := Lib.hid c2
  have C3 := Lib.hid c3
  have HR := Lib.hid hrd
  have HN := Lib.hid hn
  have HDL := Lib.hid hdl
  have HLL := Lib.hid hll
  clear hwo c0 c1 c2 c3 hrd hn hdl hll H
  have st0 := St.start Nob wo
  go_wp2_with fail
  refine wp_region_noPanic ?_
  have hd0 := st0.drew
  clear st0
  refine wp_region_posA (fun wx => St Nob wo wx [] ∧ Fr Nob (World.drew _) wx) [0, 1, 2, 3, 4, 5, 6, 7, 8, 9] [8] (fun i => match i with | 0 => [] | 1 => [] | 2 => [1] | 3 => [2] | 4 => [3] | 5 => [0, 4] | 6 => [5] | 7 => [6] | 8 => [6] | 9 => [] | _ => []) (fun i x wx => match i with | 0 => ∃ g, x 0 = .map (some g) ∧ MapAt wx g shE 7 | 1 => x 1 = .pointer (some ⟨bo, oo, none⟩) | 2 => x 2 = .pointer (some ⟨bo, oo, none⟩) | 3 => x 3 = .pointer (some ⟨bo, oo, none⟩) | 4 => x 4 = .int .i64 k | 5 => x 5 = .tuple #[.agg #[.bool (shN k), .bool (shD k), .bool (shL k), shFv k], .bool (shK k)] | 6 => x 6 = .tuple #[.agg #[.bool (shN k), .bool (shD k), .bool (shL k), shFv k], .bool (shK k)] | 7 => x 7 = .agg #[.bool (shN k), .bool (shD k), .bool (shL k), shFv k] | 8 => x 8 = .bool (shK k) | 9 => ∃ ga9, x 9 = .pointer (some ⟨ga9, 0, none⟩) ∧ World.heap (World.drew wo) = World.heap (World.drew wo) ∧ wo.heap.size ≤ ga9 ∧ Has wx ga9 [.bool false, .bool false, .bool false, .nilFunc] 53 | _ => True) 10 (.m 10 (.w 11 .nil)) ?_ (fun x => ?_) (by kernel_rfl) (by kernel_rfl) (fun _ _ _ _ _ h => h) ⟨hd0, Fr.refl _ _⟩ (fun _ _ h k => ⟨h.1.keep k, h.2.then k⟩) ?_ ?_
  rotate_left 1
  · simp only [puts, putI, Act.put, List.getElem?_toArray, List.getElem?_cons_zero, List.getElem?_cons_succ, List.setIfInBounds_toArray, List.set_cons_zero, List.set_cons_succ]
    exact rfl
  refine obls_cons rfl rfl (fun x wx hG hp => ?_) (fun y _ _ h k => by obtain ⟨g, h1, h2⟩ := h; exact ⟨g, h1, h2.keep k id⟩) ?_
  · try dsimp only
    clear hp
    refine pos_go rfl Tryd.call15 (vs := []) rfl ?_
    refine (shapes_any _).mono ?_
    rintro e w' ⟨g, rfl, ho, hf⟩
    exact ⟨_, rfl, hf, g, rfl, ho⟩
  refine obls_cons rfl rfl (fun x wx hG hp => ?_) (fun y _ _ h k => h) ?_
  · try dsimp only
    clear hp
    exact pos_v (v := .pointer (some ⟨bo, oo, none⟩)) (by go_simp; try with_reducible rfl) rfl
  refine obls_cons rfl rfl (fun x wx hG hp => ?_) (fun y _ _ h k => h) ?_
  · try dsimp only
    have e1 : x 1 = .pointer (some ⟨bo, oo, none⟩) := hp 1 (by decide)
    generalize x 1 = v1 at e1 ⊢
    subst e1
    clear hp
    exact pos_v (v := .pointer (some ⟨bo, oo, none⟩)) (by go_simp; try with_reducible rfl) rfl
  refine obls_cons rfl rfl (fun x wx hG hp => ?_) (fun y _ _ h k => h) ?_
  · try dsimp only
    have e2 : x 2 = .pointer (some ⟨bo, oo, none⟩) := hp 2 (by decide)
    generalize x 2 = v2 at e2 ⊢
    subst e2
    clear hp
    exact pos_v (v := .pointer (some ⟨bo, oo, none⟩)) (by go_simp; try with_reducible rfl) rfl
  refine obls_cons rfl rfl (fun x wx hG hp => ?_) (fun y _ _ h k => h) ?_
  · try dsimp only
    have e3 : x 3 = .pointer (some ⟨bo, oo, none⟩) := hp 3 (by decide)
    generalize x 3 = v3 at e3 ⊢
    subst e3
    clear hp
    exact pos_v (v := .int .i64 k) (by have hc := hG.2.cell id C0.out; clear hG; go_simp; try with_reducible rfl) rfl
  refine obls_cons rfl rfl (fun x wx hG hp => ?_) (fun y _ _ h k => h) ?_
  · try dsimp only
    have e0 : ∃ g, x 0 = .map (some g) ∧ MapAt wx g shE 7 := hp 0 (by decide)
    obtain ⟨gm, e0, HM0⟩ := e0
    generalize x 0 = v0 at e0 ⊢
    subst e0
    have e4 : x 4 = .int .i64 k := hp 4 (by decide)
    generalize x 4 = v4 at e4 ⊢
    subst e4
    clear hp
    exact pos_v (exec_lookupW rfl rfl rfl HM0) rfl
  refine obls_cons rfl rfl (fun x wx hG hp => ?_) (fun y _ _ h k => h) ?_
  · try dsimp only
    have e5 : x 5 = .tuple #[.agg #[.bool (shN k), .bool (shD k), .bool (shL k), shFv k], .bool (shK k)] := hp 5 (by decide)
    generalize x 5 = v5 at e5 ⊢
    subst e5
    clear hp
    exact pos_v (v := .tuple #[.agg #[.bool (shN k), .bool (shD k), .bool (shL k), shFv k], .bool (shK k)]) (by go_simp; try with_reducible rfl) rfl
  refine obls_cons rfl rfl (fun x wx hG hp => ?_) (fun y _ _ h k => h) ?_
  · try dsimp only
    have e6 : x 6 = .tuple #[.agg #[.bool (shN k), .bool (shD k), .bool (shL k), shFv k], .bool (shK k)] := hp 6 (by decide)
    generalize x 6 = v6 at e6 ⊢
    subst e6
    clear hp
    exact pos_v (v := .agg #[.bool (shN k), .bool (shD k), .bool (shL k), shFv k]) (by go_simp; try with_reducible rfl) rfl
  refine obls_loose rfl rfl (fun x wx hG hp => ?_) (fun y _ _ h k => h) ?_
  · try dsimp only
    have e6 : x 6 = .tuple #[.agg #[.bool (shN k), .bool (shD k), .bool (shL k), shFv k], .bool (shK k)] := hp 6 (by decide)
    generalize x 6 = v6 at e6 ⊢
    subst e6
    clear hp
    exact ⟨.bool (shK k), fun wx => by go_simp; try with_reducible rfl, rfl⟩
  refine obls_cons rfl rfl (fun x wx hG hp => ?_) (fun y _ _ h k => by obtain ⟨g, h1, h2, h3, h4⟩ := h; exact ⟨g, h1, h2, h3, h4.keep k id⟩) ?_
  · try dsimp only
    clear hp
    refine pos_alloc rfl (z := .agg #[.bool false, .bool false, .bool false, .nilFunc]) (by kernel_rfl) [.bool false, .bool false, .bool false, .nilFunc] rfl ?_
    intro g w' hf hle hg
    exact ⟨g, rfl, rfl, Nat.le_trans hG.2.size hle, hg⟩
  exact trivial
  intro x w1 hG hp
  try dsimp only
  have e7 : x 7 = .agg #[.bool (shN k), .bool (shD k), .bool (shL k), shFv k] := hp 7 (by decide)
  generalize x 7 = v7 at e7 ⊢
  subst e7
  have e8 : x 8 = .bool (shK k) := hp 8 (by decide)
  generalize x 8 = v8 at e8 ⊢
  subst e8
  have e9 : ∃ ga9, x 9 = .pointer (some ⟨ga9, 0, none⟩) ∧ World.heap (World.drew wo) = World.heap (World.drew wo) ∧ wo.heap.size ≤ ga9 ∧ Has w1 ga9 [.bool false, .bool false, .bool false, .nilFunc] 53 := hp 9 (by decide)
  obtain ⟨ga9, e9, -, HL9, HG9⟩ := e9
  generalize x 9 = v9 at e9 ⊢
  subst e9
  clear hp
  generalize x 0 = v0
  generalize x 1 = v1
  generalize x 2 = v2
  generalize x 3 = v3
  generalize x 4 = v4
  generalize x 5 = v5
  generalize x 6 = v6
  have st1 := hd0.new hG.2 HG9 HL9
  try simp only [List.nil_append] at st1
  have HFX := Lib.hid hG.2
  clear HL9 HG9
  clear hG hd0
  refine plan_m rfl rfl ?_
  refine wp_storeS st1 0 rfl rfl rfl rfl (by simp) (by kernel_rfl) (sh_one k) ?_
  intro w2 st2
  repeat (first | simp only [List.cons_append] at st2 | simp only [List.nil_append] at st2 | simp only [List.set_cons_succ] at st2 | simp only [List.set_cons_zero] at st2)
  clear st1
  try simp only [Act.put]
  refine plan_w (v := ?_) rfl rfl (fun wx => ?_) ?_; rotate_left 1; (go_simp; with_reducible rfl)
  try simp only [Act.put, List.setIfInBounds_toArray, List.set_cons_zero, List.set_cons_succ]
  refine plan_end ?_
  refine NoPanic.normal ?_
  have HF := Lib.hid (show WrX q w0 _ gw from ⟨_, _, _, HW.out.still st2.fr⟩)
  clear st2
  simp only [HK.out]
  have HP := Lib.hid (prW_bad (u8 := u8) (n := n) (d := d) (b := b) (l := l) (deep := deep) (m := m) (k := k) (by rw [fitW_eq, HK.out]; rfl))
  go_wp2_with fail
  refine (must_no _).mono ?_
  rintro e w9 ⟨rfl, rfl⟩
  exact ⟨rfl, itPost_none HP.out HF.out⟩
set_option maxHeartbeats 4000000 in
set_option maxRecDepth 1000000 in
theorem item_F (u8 : List UInt8 → Bool) (q : Gh) (w0 w : World) (gw m deep bo oo : Nat) (v : Value) (b : List UInt8) (k : Int) (n : Nat) (d : List UInt8) (l : List It) (hV : VOk u8 w0) (hit : ItP w0 bo oo (.mk k n d l)) (hL : shL k = true → listOk u8 w0 gw bo oo deep k l)
    (h : WrS q w0 w gw ((m : Int) + 1) v b) (hm : m ≤ 4096) (hd : deep ≤ 16) (hb : b.length ≤ 65536 + 9 * deep) (hk : shK k = true) (hft : fitF u8 k n d l.length = false) :
    Calls Tryd.prog 10 #[.pointer (some ⟨gw, 0, none⟩), .pointer (some ⟨bo, oo, none⟩), .int .i64 (deep : Int)] w (itPost q w0 gw (prW u8 (.mk k n d l) deep (m + 1) b)) := by
  have HFT := Lib.hid hft
  clear hft
  have hI0 := hit
  have H := Lib.hid h
  have HI := Lib.hid hit
  have HV := Lib.hid hV
  have HL := Lib.hid hL
  have HB := Lib.hid (show b.length ≤ 65700 from by omega)
  have HB2 := Lib.hid hb
  have HM := Lib.hid hm
  have HD := Lib.hid hd
  have HK := Lib.hid hk
  clear h hit hV hL hb hm hd hk hI0
  go_enter Tryd.func10, Tryd.ntmps10
  go_wp2_with fail
  refine (one_ok q w0 w gw m deep v b H.out (by have := HM.out; omega) HD.out).mono ?_
  rintro e wo ⟨rfl, hwo⟩
  have HW := Lib.hid hwo
  have HI1 := Lib.hid (HI.out.still HW.out.f)
  have hC := HI1.out.open
  obtain ⟨da, dc, la, lc, ⟨c0, c1, c2, c3⟩, hrd, hn, hdl, hll, -⟩ := hC
  have C0 := Lib.hid (show wo.drew.cell? ⟨bo, oo, none⟩ = _ from c0)
  have C1 := Lib.hid c1
  have C2 := Lib.hid c2
  have C3 := Lib.hid c3
  have HR := Lib.hid hrd
  have HN := Lib.hid hn
  have HDL := Lib.hid hdl
  have HLL := Lib.hid hll
  clear hwo c0 c1 c2 c3 hrd hn hdl hll H
  have st0 := St.start Nob wo
  go_wp2_with fail
  refine wp_region_noPanic ?_
  have hd0 := st0.drew
  clear st0
  refine wp_region_posA (fun wx => St Nob wo wx [] ∧ Fr Nob (World.drew _) wx) [0, 1, 2, 3, 4, 5, 6, 7, 8, 9] [8] (fun i => match i with | 0 => [] | 1 => [] | 2 => [1] | 3 => [2] | 4 => [3] | 5 => [0, 4] | 6 => [5] | 7 => [6] | 8 => [6] | 9 => [] | _ => []) (fun i x wx => match i with | 0 => ∃ g, x 0 = .map (some g) ∧ MapAt wx g shE 7 | 1 => x 1 = .pointer (some ⟨bo, oo, none⟩) | 2 => x 2 = .pointer (some ⟨bo, oo, none⟩) | 3 => x 3 = .pointer (some ⟨bo, oo, none⟩) | 4 => x 4 = .int .i64 k | 5 => x 5 = .tuple #[.agg #[.bool (shN k), .bool (shD k), .bool (shL k), shFv k], .bool (shK k)] | 6 => x 6 = .tuple #[.agg #[.bool (shN k), .bool (shD k), .bool (shL k), shFv k], .bool (shK k)] | 7 => x 7 = .agg #[.bool (shN k), .bool (shD k), .bool (shL k), shFv k] | 8 => x 8 = .bool (shK k) | 9 => ∃ ga9, x 9 = .pointer (some ⟨ga9, 0, none⟩) ∧ World.heap (World.drew wo) = World.heap (World.drew wo) ∧ wo.heap.size ≤ ga9 ∧ Has wx ga9 [.bool false, .bool false, .bool false, .nilFunc] 53 | _ => True) 10 (.m 10 (.w 11 .nil)) ?_ (fun x => ?_) (by kernel_rfl) (by kernel_rfl) (fun _ _ _ _ _ h => h) ⟨hd0, Fr.refl _ _⟩ (fun _ _ h k => ⟨h.1.keep k, h.2.then k⟩) ?_ ?_
  rotate_left 1
  · simp only [puts, putI, Act.put, List.getElem?_toArray, List.getElem?_cons_zero, List.getElem?_cons_succ, List.setIfInBounds_toArray, List.set_cons_zero, List.set_cons_succ]
    exact rfl
  refine obls_cons rfl rfl (fun x wx hG hp => ?_) (fun y _ _ h k => by obtain ⟨g, h1, h2⟩ := h; exact ⟨g, h1, h2.keep k id⟩) ?_
  · try dsimp only
    clear hp
    refine pos_go rfl Tryd.call15 (vs := []) rfl ?_
    refine (shapes_any _).mono ?_
    rintro e w' ⟨g, rfl, ho, hf⟩
    exact ⟨_, rfl, hf, g, rfl, ho⟩
  refine obls_cons rfl rfl (fun x wx hG hp => ?_) (fun y _ _ h k => h) ?_
  · try dsimp only
    clear hp
    exact pos_v (v := .pointer (some ⟨bo, oo, none⟩)) (by go_simp; try with_reducible rfl) rfl
  refine obls_cons rfl rfl (fun x wx hG hp => ?_) (fun y _ _ h k => h) ?_
  · try dsimp only
    have e1 : x 1 = .pointer (some ⟨bo, oo, none⟩) := hp 1 (by decide)
    generalize x 1 = v1 at e1 ⊢
    subst e1
    clear hp
    exact pos_v (v := .pointer (some ⟨bo, oo, none⟩)) (by go_simp; try with_reducible rfl) rfl
  refine obls_cons rfl rfl (fun x wx hG hp => ?_) (fun y _ _ h k => h) ?_
  · try dsimp only
    have e2 : x 2 = .pointer (some ⟨bo, oo, none⟩) := hp 2 (by decide)
    generalize x 2 = v2 at e2 ⊢
    subst e2
    clear hp
    exact pos_v (v := .pointer (some ⟨bo, oo, none⟩)) (by go_simp; try with_reducible rfl) rfl
  refine obls_cons rfl rfl (fun x wx hG hp => ?_) (fun y _ _ h k => h) ?_
  · try dsimp only
    have e3 : x 3 = .pointer (some ⟨bo, oo, none⟩) := hp 3 (by decide)
    generalize x 3 = v3 at e3 ⊢
    subst e3
    clear hp
    exact pos_v (v := .int .i64 k) (by have hc := hG.2.cell id C0.out; clear hG; go_simp; try with_reducible rfl) rfl
  refine obls_cons rfl rfl (fun x wx hG hp => ?_) (fun y _ _ h k => h) ?_
  · try dsimp only
    have e0 : ∃ g, x 0 = .map (some g) ∧ MapAt wx g shE 7 := hp 0 (by decide)
    obtain ⟨gm, e0, HM0⟩ := e0
    generalize x 0 = v0 at e0 ⊢
    subst e0
    have e4 : x 4 = .int .i64 k := hp 4 (by decide)
    generalize x 4 = v4 at e4 ⊢
    subst e4
    clear hp
    exact pos_v (exec_lookupW rfl rfl rfl HM0) rfl
  refine obls_cons rfl rfl (fun x wx hG hp => ?_) (fun y _ _ h k => h) ?_
  · try dsimp only
    have e5 : x 5 = .tuple #[.agg #[.bool (shN k), .bool (shD k), .bool (shL k), shFv k], .bool (shK k)] := hp 5 (by decide)
    generalize x 5 = v5 at e5 ⊢
    subst e5
    clear hp
    exact pos_v (v := .tuple #[.agg #[.bool (shN k), .bool (shD k), .bool (shL k), shFv k], .bool (shK k)]) (by go_simp; try with_reducible rfl) rfl
  refine obls_cons rfl rfl (fun x wx hG hp => ?_) (fun y _ _ h k => h) ?_
  · try dsimp only
    have e6 : x 6 = .tuple #[.agg #[.bool (shN k), .bool (shD k), .bool (shL k), shFv k], .bool (shK k)] := hp 6 (by decide)
    generalize x 6 = v6 at e6 ⊢
    subst e6
    clear hp
    exact pos_v (v := .agg #[.bool (shN k), .bool (shD k), .bool (shL k), shFv k]) (by go_simp; try with_reducible rfl) rfl
  refine obls_loose rfl rfl (fun x wx hG hp => ?_) (fun y _ _ h k => h) ?_
  · try dsimp only
    have e6 : x 6 = .tuple #[.agg #[.bool (shN k), .bool (shD k), .bool (shL k), shFv k], .bool (shK k)] := hp 6 (by decide)
    generalize x 6 = v6 at e6 ⊢
    subst e6
    clear hp
    exact ⟨.bool (shK k), fun wx => by go_simp; try with_reducible rfl, rfl⟩
  refine obls_cons rfl rfl (fun x wx hG hp => ?_) (fun y _ _ h k => by obtain ⟨g, h1, h2, h3, h4⟩ := h; exact ⟨g, h1, h2, h3, h4.keep k id⟩) ?_
  · try dsimp only
    clear hp
    refine pos_alloc rfl (z := .agg #[.bool false, .bool false, .bool false, .nilFunc]) (by kernel_rfl) [.bool false, .bool false, .bool false, .nilFunc] rfl ?_
    intro g w' hf hle hg
    exact ⟨g, rfl, rfl, Nat.le_trans hG.2.size hle, hg⟩
  exact trivial
  intro x w1 hG hp
  try dsimp only
  have e7 : x 7 = .agg #[.bool (shN k), .bool (shD k), .bool (shL k), shFv k] := hp 7 (by decide)
  generalize x 7 = v7 at e7 ⊢
  subst e7
  have e8 : x 8 = .bool (shK k) := hp 8 (by decide)
  generalize x 8 = v8 at e8 ⊢
  subst e8
  have e9 : ∃ ga9, x 9 = .pointer (some ⟨ga9, 0, none⟩) ∧ World.heap (World.drew wo) = World.heap (World.drew wo) ∧ wo.heap.size ≤ ga9 ∧ Has w1 ga9 [.bool false, .bool false, .bool false, .nilFunc] 53 := hp 9 (by decide)
  obtain ⟨ga9, e9, -, HL9, HG9⟩ := e9
  generalize x 9 = v9 at e9 ⊢
  subst e9
  clear hp
  generalize x 0 = v0
  generalize x 1 = v1
  generalize x 2 = v2
  generalize x 3 = v3
  generalize x 4 = v4
  generalize x 5 = v5
  generalize x 6 = v6
  have st1 := hd0.new hG.2 HG9 HL9
  try simp only [List.nil_append] at st1
  have HFX := Lib.hid hG.2
  clear HL9 HG9
  clear hG hd0
  refine plan_m rfl rfl ?_
  refine wp_storeS st1 0 rfl rfl rfl rfl (by simp) (by kernel_rfl) (sh_one k) ?_
  intro w2 st2
  repeat (first | simp only [List.cons_append] at st2 | simp only [List.nil_append] at st2 | simp only [List.set_cons_succ] at st2 | simp only [List.set_cons_zero] at st2)
  clear st1
  try simp only [Act.put]
  refine plan_w (v := ?_) rfl rfl (fun wx => ?_) ?_; rotate_left 1; (go_simp; with_reducible rfl)
  try simp only [Act.put, List.setIfInBounds_toArray, List.set_cons_zero, List.set_cons_succ]
  refine plan_end ?_
  refine NoPanic.normal ?_
  obtain ⟨kd, rfl, hk8⟩ := shK_nat HK.out
  have HK8 := Lib.hid hk8
  clear hk8
  have hfv : shFv (kd : Int) = .func (.func (shFn kd)) #[] #[] := by unfold shFv; rw [if_pos HK.out]
  simp only [hfv] at st2 ⊢
  simp only [HK.out]
  clear hfv
  have HF2 := Lib.hid st2.fr
  have s3 := (st2.at 0 rfl).cell (i := 3) rfl
  have hcl := call_sh (kd : Int)
  have HST := Lib.hid st2
  clear st2
  go_wp2_with fail
  refine (fits_any u8 w0 _ HV.out (HW.out.f.then HF2.out) bo oo n kd d l (HI1.out.still HF2.out)).mono ?_
  rintro e w6 ⟨rfl, hf6⟩
  have HF6 := Lib.hid (HF2.out.then hf6)
  have HST6 := Lib.hid (HST.out.keep hf6)
  have HWF := Lib.hid (HW.out.still HF6.out)
  have HF := Lib.hid (show WrX q w0 _ gw from ⟨_, _, _, HWF.out⟩)
  clear hf6 s3 hcl HST HF2
  simp only [HFT.out]
  have HP := Lib.hid (prW_bad (u8 := u8) (n := n) (d := d) (b := b) (l := l) (deep := deep) (m := m) (k := (kd : Int)) (by rw [fitW_eq, HFT.out]; simp))
  go_wp2_with fail
  refine (must_no _).mono ?_
  rintro e w9 ⟨rfl, rfl⟩
  exact ⟨rfl, itPost_none HP.out HF.out⟩
set_option maxHeartbeats 4000000 in
set_option maxRecDepth 1000000 in
theorem item_N (u8 : List UInt8 → Bool) (q : Gh) (w0 w : World) (gw m deep bo oo : Nat) (v : Value) (b : List UInt8) (k : Int) (n : Nat) (d : List UInt8) (l : List It) (hV : VOk u8 w0) (hit : ItP w0 bo oo (.mk k n d l)) (hL : shL k = true → listOk u8 w0 gw bo oo deep k l)
    (h : WrS q w0 w gw ((m : Int) + 1) v b) (hm : m ≤ 4096) (hd : deep ≤ 16) (hb : b.length ≤ 65536 + 9 * deep) (hk : shK k = true) (hft : fitF u8 k n d l.length = true) (hsN : shN k = true) (hsD : shD k = false) (hsL : shL k = false) :
    Calls Tryd.prog 10 #[.pointer (some ⟨gw, 0, none⟩), .pointer (some ⟨bo, oo, none⟩), .int .i64 (deep : Int)] w (itPost q w0 gw (prW u8 (.mk k n d l) deep (m + 1) b)) := by
  have HFT := Lib.hid hft
  clear hft
  have HSN := Lib.hid hsN
  clear hsN
  have HSD := Lib.hid hsD
  clear hsD
  have HSL := Lib.hid hsL
  clear hsL
  have hI0 := hit
  have H := Lib.hid h
  have HI := Lib.hid hit
  have HV := Lib.hid hV
  have HL := Lib.hid hL
  have HB := Lib.hid (show b.length ≤ 65700 from by omega)
  have HB2 := Lib.hid hb
  have HM := Lib.hid hm
  have HD := Lib.hid hd
  have HK := Lib.hid hk
  clear h hit hV hL hb hm hd hk hI0
  go_enter Tryd.func10, Tryd.ntmps10
  go_wp2_with fail
  refine (one_ok q w0 w gw m deep v b H.out (by have := HM.out; omega) HD.out).mono ?_
  rintro e wo ⟨rfl, hwo⟩
  have HW := Lib.hid hwo
  have HI1 := Lib.hid (HI.out.still HW.out.f)
  have hC := HI1.out.open
  obtain ⟨da, dc, la, lc, ⟨c0, c1, c2, c3⟩, hrd, hn, hdl, hll, -⟩ := hC
  have C0 := Lib.hid (show wo.drew.cell? ⟨bo, oo, none⟩ = _ from c0)
  have C1 := Lib.hid c1
  have C2 := Lib.hid c2
  have C3 := Lib.hid c3
  have HR := Lib.hid hrd
  have HN := Lib.hid hn
  have HDL := Lib.hid hdl
  have HLL := Lib.hid hll
  clear hwo c0 c1 c2 c3 hrd hn hdl hll H
  have st0 := St.start Nob wo
  go_wp2_with fail
  refine wp_region_noPanic ?_
  have hd0 := st0.drew
  clear st0
  refine wp_region_posA (fun wx => St Nob wo wx [] ∧ Fr Nob (World.drew _) wx) [0, 1, 2, 3, 4, 5, 6, 7, 8, 9] [8] (fun i => match i with | 0 => [] | 1 => [] | 2 => [1] | 3 => [2] | 4 => [3] | 5 => [0, 4] | 6 => [5] | 7 => [6] | 8 => [6] | 9 => [] | _ => []) (fun i x wx => match i with | 0 => ∃ g, x 0 = .map (some g) ∧ MapAt wx g shE 7 | 1 => x 1 = .pointer (some ⟨bo, oo, none⟩) | 2 => x 2 = .pointer (some ⟨bo, oo, none⟩) | 3 => x 3 = .pointer (some ⟨bo, oo, none⟩) | 4 => x 4 = .int .i64 k | 5 => x 5 = .tuple #[.agg #[.bool (shN k), .bool (shD k), .bool (shL k), shFv k], .bool (shK k)] | 6 => x 6 = .tuple #[.agg #[.bool (shN k), .bool (shD k), .bool (shL k), shFv k], .bool (shK k)] | 7 => x 7 = .agg #[.bool (shN k), .bool (shD k), .bool (shL k), shFv k] | 8 => x 8 = .bool (shK k) | 9 => ∃ ga9, x 9 = .pointer (some ⟨ga9, 0, none⟩) ∧ World.heap (World.drew wo) = World.heap (World.drew wo) ∧ wo.heap.size ≤ ga9 ∧ Has wx ga9 [.bool false, .bool false, .bool false, .nilFunc] 53 | _ => True) 10 (.m 10 (.w 11 .nil)) ?_ (fun x => ?_) (by kernel_rfl) (by kernel_rfl) (fun _ _ _ _ _ h => h) ⟨hd0, Fr.refl _ _⟩ (fun _ _ h k => ⟨h.1.keep k, h.2.then k⟩) ?_ ?_
  rotate_left 1
  · simp only [puts, putI, Act.put, List.getElem?_toArray, List.getElem?_cons_zero, List.getElem?_cons_succ, List.setIfInBounds_toArray, List.set_cons_zero, List.set_cons_succ]
    exact rfl
  refine obls_cons rfl rfl (fun x wx hG hp => ?_) (fun y _ _ h k => by obtain ⟨g, h1, h2⟩ := h; exact ⟨g, h1, h2.keep k id⟩) ?_
  · try dsimp only
    clear hp
    refine pos_go rfl Tryd.call15 (vs := []) rfl ?_
    refine (shapes_any _).mono ?_
    rintro e w' ⟨g, rfl, ho, hf⟩
    exact ⟨_, rfl, hf, g, rfl, ho⟩
  refine obls_cons rfl rfl (fun x wx hG hp => ?_) (fun y _ _ h k => h) ?_
  · try dsimp only
    clear hp
    exact pos_v (v := .pointer (some ⟨bo, oo, none⟩)) (by go_simp; try with_reducible rfl) rfl
  refine obls_cons rfl rfl (fun x wx hG hp => ?_) (fun y _ _ h k => h) ?_
  · try dsimp only
    have e1 : x 1 = .pointer (some ⟨bo, oo, none⟩) := hp 1 (by decide)
    generalize x 1 = v1 at e1 ⊢
    subst e1
    clear hp
    exact pos_v (v := .pointer (some ⟨bo, oo, none⟩)) (by go_simp; try with_reducible rfl) rfl
  refine obls_cons rfl rfl (fun x wx hG hp => ?_) (fun y _ _ h k => h) ?_
  · try dsimp only
    have e2 : x 2 = .pointer (some ⟨bo, oo, none⟩) := hp 2 (by decide)
    generalize x 2 = v2 at e2 ⊢
    subst e2
    clear hp
    exact pos_v (v := .pointer (some ⟨bo, oo, none⟩)) (by go_simp; try with_reducible rfl) rfl
  refine obls_cons rfl rfl (fun x wx hG hp => ?_) (fun y _ _ h k => h) ?_
  · try dsimp only
    have e3 : x 3 = .pointer (some ⟨bo, oo, none⟩) := hp 3 (by decide)
    generalize x 3 = v3 at e3 ⊢
    subst e3
    clear hp
    exact pos_v (v := .int .i64 k) (by have hc := hG.2.cell id C0.out; clear hG; go_simp; try with_reducible rfl) rfl
  refine obls_cons rfl rfl (fun x wx hG hp => ?_) (fun y _ _ h k => h) ?_
  · try dsimp only
    have e0 : ∃ g, x 0 = .map (some g) ∧ MapAt wx g shE 7 := hp 0 (by decide)
    obtain ⟨gm, e0, HM0⟩ := e0
    generalize x 0 = v0 at e0 ⊢
    subst e0
    have e4 : x 4 = .int .i64 k := hp 4 (by decide)
    generalize x 4 = v4 at e4 ⊢
    subst e4
    clear hp
    exact pos_v (exec_lookupW rfl rfl rfl HM0) rfl
  refine obls_cons rfl rfl (fun x wx hG hp => ?_) (fun y _ _ h k => h) ?_
  · try dsimp only
    have e5 : x 5 = .tuple #[.agg #[.bool (shN k), .bool (shD k), .bool (shL k), shFv k], .bool (shK k)] := hp 5 (by decide)
    generalize x 5 = v5 at e5 ⊢
    subst e5
    clear hp
    exact pos_v (v := .tuple #[.agg #[.bool (shN k), .bool (shD k), .bool (shL k), shFv k], .bool (shK k)]) (by go_simp; try with_reducible rfl) rfl
  refine obls_cons rfl rfl (fun x wx hG hp => ?_) (fun y _ _ h k => h) ?_
  · try dsimp only
    have e6 : x 6 = .tuple #[.agg #[.bool (shN k), .bool (shD k), .bool (shL k), shFv k], .bool (shK k)] := hp 6 (by decide)
    generalize x 6 = v6 at e6 ⊢
    subst e6
    clear hp
    exact pos_v (v := .agg #[.bool (shN k), .bool (shD k), .bool (shL k), shFv k]) (by go_simp; try with_reducible rfl) rfl
  refine obls_loose rfl rfl (fun x wx hG hp => ?_) (fun y _ _ h k => h) ?_
  · try dsimp only
    have e6 : x 6 = .tuple #[.agg #[.bool (shN k), .bool (shD k), .bool (shL k), shFv k], .bool (shK k)] := hp 6 (by decide)
    generalize x 6 = v6 at e6 ⊢
    subst e6
    clear hp
    exact ⟨.bool (shK k), fun wx => by go_simp; try with_reducible rfl, rfl⟩
  refine obls_cons rfl rfl (fun x wx hG hp => ?_) (fun y _ _ h k => by obtain ⟨g, h1, h2, h3, h4⟩ := h; exact ⟨g, h1, h2, h3, h4.keep k id⟩) ?_
  · try dsimp only
    clear hp
    refine pos_alloc rfl (z := .agg #[.bool false, .bool false, .bool false, .nilFunc]) (by kernel_rfl) [.bool false, .bool false, .bool false, .nilFunc] rfl ?_
    intro g w' hf hle hg
    exact ⟨g, rfl, rfl, Nat.le_trans hG.2.size hle, hg⟩
  exact trivial
  intro x w1 hG hp
  try dsimp only
  have e7 : x 7 = .agg #[.bool (shN k), .bool (shD k), .bool (shL k), shFv k] := hp 7 (by decide)
  generalize x 7 = v7 at e7 ⊢
  subst e7
  have e8 : x 8 = .bool (shK k) := hp 8 (by decide)
  generalize x 8 = v8 at e8 ⊢
  subst e8
  have e9 : ∃ ga9, x 9 = .pointer (some ⟨ga9, 0, none⟩) ∧ World.heap (World.drew wo) = World.heap (World.drew wo) ∧ wo.heap.size ≤ ga9 ∧ Has w1 ga9 [.bool false, .bool false, .bool false, .nilFunc] 53 := hp 9 (by decide)
  obtain ⟨ga9, e9, -, HL9, HG9⟩ := e9
  generalize x 9 = v9 at e9 ⊢
  subst e9
  clear hp
  generalize x 0 = v0
  generalize x 1 = v1
  generalize x 2 = v2
  generalize x 3 = v3
  generalize x 4 = v4
  generalize x 5 = v5
  generalize x 6 = v6
  have st1 := hd0.new hG.2 HG9 HL9
  try simp only [List.nil_append] at st1
  have HFX := Lib.hid hG.2
  clear HL9 HG9
  clear hG hd0
  refine plan_m rfl rfl ?_
  refine wp_storeS st1 0 rfl rfl rfl rfl (by simp) (by kernel_rfl) (sh_one k) ?_
  intro w2 st2
  repeat (first | simp only [List.cons_append] at st2 | simp only [List.nil_append] at st2 | simp only [List.set_cons_succ] at st2 | simp only [List.set_cons_zero] at st2)
  clear st1
  try simp only [Act.put]
  refine plan_w (v := ?_) rfl rfl (fun wx => ?_) ?_; rotate_left 1; (go_simp; with_reducible rfl)
  try simp only [Act.put, List.setIfInBounds_toArray, List.set_cons_zero, List.set_cons_succ]
  refine plan_end ?_
  refine NoPanic.normal ?_
  obtain ⟨kd, rfl, hk8⟩ := shK_nat HK.out
  have HK8 := Lib.hid hk8
  clear hk8
  have hfv : shFv (kd : Int) = .func (.func (shFn kd)) #[] #[] := by unfold shFv; rw [if_pos HK.out]
  simp only [hfv] at st2 ⊢
  simp only [HK.out]
  clear hfv
  have HF2 := Lib.hid st2.fr
  have s3 := (st2.at 0 rfl).cell (i := 3) rfl
  have hcl := call_sh (kd : Int)
  have HST := Lib.hid st2
  clear st2
  go_wp2_with fail
  refine (fits_any u8 w0 _ HV.out (HW.out.f.then HF2.out) bo oo n kd d l (HI1.out.still HF2.out)).mono ?_
  rintro e w6 ⟨rfl, hf6⟩
  have HF6 := Lib.hid (HF2.out.then hf6)
  have HST6 := Lib.hid (HST.out.keep hf6)
  have HWF := Lib.hid (HW.out.still HF6.out)
  have HF := Lib.hid (show WrX q w0 _ gw from ⟨_, _, _, HWF.out⟩)
  clear hf6 s3 hcl HST HF2
  simp only [HFT.out]
  have c1 := HF6.out.cell id C1.out
  have c2 := HF6.out.cell id C2.out
  have c3 := HF6.out.cell id C3.out
  have c0 := HF6.out.cell id (show World.cell? wo ⟨bo, oo, none⟩ = _ from C0.out)
  have s0 := (HST6.out.at 0 rfl).cell (i := 0) rfl
  have s1 := (HST6.out.at 0 rfl).cell (i := 1) rfl
  have s2 := (HST6.out.at 0 rfl).cell (i := 2) rfl
  simp only [HSN.out] at s0
  simp only [HSD.out] at s1
  simp only [HSL.out] at s2
  simp only [HSN.out, HSD.out, HSL.out]
  by_cases hz : d.length = 0
  · have hzB : (((d.length : Nat) : Int) == 0) = true := by simp [hz]
    have HZD := Lib.hid hz
    clear hz
    by_cases hz : l.length = 0
    · have hzB : (((l.length : Nat) : Int) == 0) = true := by simp [hz]
      have HZL := Lib.hid hz
      clear hz
      go_wp2_with fail
      refine (must_ok _).mono ?_
      rintro e w9 ⟨rfl, rfl⟩
      go_wp2_with fail
      refine wp_region_still_tail 9 (by kernel_rfl) (by kernel_rfl) ?_
      simp only [List.take_succ_cons, List.take_zero, List.drop_succ_cons, List.drop_zero]
      repeat still_step
      refine wpStill_nil ?_
      go_wp2_with fail
      refine (head_any q w0 _ gw kd n m v b (HWF.out.still (Fr.refl Nob _).drew) HK8.out HN.out (by have := HB.out; omega)).mono ?_
      rintro e w7 ⟨rfl, v6, hw6⟩
      have HW6 := Lib.hid hw6
      clear hw6 hzB s0 s1 s2 c0 c1 c2 c3 HF
      obtain ⟨a6, c6, rfl, -⟩ := id HW6.out.o.form
      have d6 := HW6.out.h.cell (i := 1) rfl
      have HF := Lib.hid (show WrX q w0 _ gw from ⟨_, _, _, HW6.out⟩)
      have HP := Lib.hid (show prW u8 (.mk (kd : Int) n d l) deep (m + 1) b = (if (b ++ headW kd n).length ≤ 65536 then some (m, b ++ headW kd n) else none) from prW_num (u8 := u8) (n := n) (d := d) (b := b) (l := l) (deep := deep) (m := m) (k := (kd : Int)) (by rw [fitW_eq, HK.out, HFT.out, HSN.out, HSD.out, HSL.out, HZD.out, HZL.out]; rfl) HD.out HSN.out)
      generalize hnb : (b ++ headW kd n).length = nb at *
      have HNB := Lib.hid hnb
      clear hnb
      by_cases hle : nb ≤ 65536
      · have hleI : (nb : Int) ≤ 65536 := by omega
        have hleB : decide ((nb : Int) ≤ 65536) = true := decide_eq_true hleI
        go_wp2_with fail
        refine (must_ok _).mono ?_
        rintro e w9 ⟨rfl, rfl⟩
        go_wp2_with fail
        refine bodyPost_ret (results_noneW rfl) rfl ?_
        rw [HP.out, if_pos hle]
        exact ⟨rfl, _, HW6.out⟩
      · have hleI : ¬ (nb : Int) ≤ 65536 := by omega
        have hleB : decide ((nb : Int) ≤ 65536) = false := decide_eq_false hleI
        have HP2 := Lib.hid (HP.out.trans (if_neg hle))
        clear HP
        have HP := Lib.hid (HP2.out)
        go_wp2_with fail
        refine (must_no _).mono ?_
        rintro e w9 ⟨rfl, rfl⟩
        exact ⟨rfl, itPost_none HP.out HF.out⟩
    · have hzB : (((l.length : Nat) : Int) == 0) = false := by rw [beq_eq_false_iff_ne]; omega
      have HZL := Lib.hid hz
      clear hz
      have HP := Lib.hid (prW_bad (u8 := u8) (n := n) (d := d) (b := b) (l := l) (deep := deep) (m := m) (k := (kd : Int)) (by rw [fitW_eq, HSN.out, HSD.out, HSL.out]; have hx := HZL.out; simp [hx]))
      go_wp2_with fail
      refine (must_no _).mono ?_
      rintro e w9 ⟨rfl, rfl⟩
      exact ⟨rfl, itPost_none HP.out HF.out⟩
  · have hzB : (((d.length : Nat) : Int) == 0) = false := by rw [beq_eq_false_iff_ne]; omega
    have HZD := Lib.hid hz
    clear hz
    have HP := Lib.hid (prW_bad (u8 := u8) (n := n) (d := d) (b := b) (l := l) (deep := deep) (m := m) (k := (kd : Int)) (by rw [fitW_eq, HSN.out, HSD.out, HSL.out]; have hx := HZD.out; simp [hx]))
    go_wp2_with fail
    refine (must_no _).mono ?_
    rintro e w9 ⟨rfl, rfl⟩
    exact ⟨rfl, itPost_none HP.out HF.out⟩
set_option maxHeartbeats 4000000 in
set_option maxRecDepth 1000000 in
theorem item_D (u8 : List UInt8 → Bool) (q : Gh) (w0 w : World) (gw m deep bo oo : Nat) (v : Value) (b : List UInt8) (k : Int) (n : Nat) (d : List UInt8) (l : List It) (hV : VOk u8 w0) (hit : ItP w0 bo oo (.mk k n d l)) (hL : shL k = true → listOk u8 w0 gw bo oo deep k l)
    (h : WrS q w0 w gw ((m : Int) + 1) v b) (hm : m ≤ 4096) (hd : deep ≤ 16) (hb : b.length ≤ 65536 + 9 * deep) (hk : shK k = true) (hft : fitF u8 k n d l.length = true) (hsN : shN k = false) (hsD : shD k = true) (hsL : shL k = false) :
    Calls Tryd.prog 10 #[.pointer (some ⟨gw, 0, none⟩), .pointer (some ⟨bo, oo, none⟩), .int .i64 (deep : Int)] w (itPost q w0 gw (prW u8 (.mk k n d l) deep (m + 1) b)) := by
  have HFT := Lib.hid hft
  clear hft
  have HSN := Lib.hid hsN
  clear hsN
  have HSD := Lib.hid hsD
  clear hsD
  have HSL := Lib.hid hsL
  clear hsL
  have hI0 := hit
  have H := Lib.hid h
  have HI := Lib.hid hit
  have HV := Lib.hid hV
  have HL := Lib.hid hL
  have HB := Lib.hid (show b.length ≤ 65700 from by omega)
  have HB2 := Lib.hid hb
  have HM := Lib.hid hm
  have HD := Lib.hid hd
  have HK := Lib.hid hk
  clear h hit hV hL hb hm hd hk hI0
  go_enter Tryd.func10, Tryd.ntmps10
  go_wp2_with fail
  refine (one_ok q w0 w gw m deep v b H.out (by have := HM.out; omega) HD.out).mono ?_
  rintro e wo ⟨rfl, hwo⟩
  have HW := Lib.hid hwo
  have HI1 := Lib.hid (HI.out.still HW.out.f)
  have hC := HI1.out.open
  obtain ⟨da, dc, la, lc, ⟨c0, c1, c2, c3⟩, hrd, hn, hdl, hll, -⟩ := hC
  have C0 := Lib.hid (show wo.drew.cell? ⟨bo, oo, none⟩ = _ from c0)
  have C1 := Lib.hid c1
  have C2 := Lib.hid c2
  have C3 := Lib.hid c3
  have HR := Lib.hid hrd
  have HN := Lib.hid hn
  have HDL := Lib.hid hdl
  have HLL := Lib.hid hll
  clear hwo c0 c1 c2 c3 hrd hn hdl hll H
  have st0 := St.start Nob wo
  go_wp2_with fail
  refine wp_region_noPanic ?_
  have hd0 := st0.drew
  clear st0
  refine wp_region_posA (fun wx => St Nob wo wx [] ∧ Fr Nob (World.drew _) wx) [0, 1, 2, 3, 4, 5, 6, 7, 8, 9] [8] (fun i => match i with | 0 => [] | 1 => [] | 2 => [1] | 3 => [2] | 4 => [3] | 5 => [0, 4] | 6 => [5] | 7 => [6] | 8 => [6] | 9 => [] | _ => []) (fun i x wx => match i with | 0 => ∃ g, x 0 = .map (some g) ∧ MapAt wx g shE 7 | 1 => x 1 = .pointer (some ⟨bo, oo, none⟩) | 2 => x 2 = .pointer (some ⟨bo, oo, none⟩) | 3 => x 3 = .pointer (some ⟨bo, oo, none⟩) | 4 => x 4 = .int .i64 k | 5 => x 5 = .tuple #[.agg #[.bool (shN k), .bool (shD k), .bool (shL k), shFv k], .bool (shK k)] | 6 => x 6 = .tuple #[.agg #[.bool (shN k), .bool (shD k), .bool (shL k), shFv k], .bool (shK k)] | 7 => x 7 = .agg #[.bool (shN k), .bool (shD k), .bool (shL k), shFv k] | 8 => x 8 = .bool (shK k) | 9 => ∃ ga9, x 9 = .pointer (some ⟨ga9, 0, none⟩) ∧ World.heap (World.drew wo) = World.heap (World.drew wo) ∧ wo.heap.size ≤ ga9 ∧ Has wx ga9 [.bool false, .bool false, .bool false, .nilFunc] 53 | _ => True) 10 (.m 10 (.w 11 .nil)) ?_ (fun x => ?_) (by kernel_rfl) (by kernel_rfl) (fun _ _ _ _ _ h => h) ⟨hd0, Fr.refl _ _⟩ (fun _ _ h k => ⟨h.1.keep k, h.2.then k⟩) ?_ ?_
  rotate_left 1
  · simp only [puts, putI, Act.put, List.getElem?_toArray, List.getElem?_cons_zero, List.getElem?_cons_succ, List.setIfInBounds_toArray, List.set_cons_zero, List.set_cons_succ]
    exact rfl
  refine obls_cons rfl rfl (fun x wx hG hp => ?_) (fun y _ _ h k => by obtain ⟨g, h1, h2⟩ := h; exact ⟨g, h1, h2.keep k id⟩) ?_
  · try dsimp only
    clear hp
    refine pos_go rfl Tryd.call15 (vs := []) rfl ?_
    refine (shapes_any _).mono ?_
    rintro e w' ⟨g, rfl, ho, hf⟩
    exact ⟨_, rfl, hf, g, rfl, ho⟩
  refine obls_cons rfl rfl (fun x wx hG hp => ?_) (fun y _ _ h k => h) ?_
  · try dsimp only
    clear hp
    exact pos_v (v := .pointer (some ⟨bo, oo, none⟩)) (by go_simp; try with_reducible rfl) rfl
  refine obls_cons rfl rfl (fun x wx hG hp => ?_) (fun y _ _ h k => h) ?_
  · try dsimp only
    have e1 : x 1 = .pointer (some ⟨bo, oo, none⟩) := hp 1 (by decide)
    generalize x 1 = v1 at e1 ⊢
    subst e1
    clear hp
    exact pos_v (v := .pointer (some ⟨bo, oo, none⟩)) (by go_simp; try with_reducible rfl) rfl
  refine obls_cons rfl rfl (fun x wx hG hp => ?_) (fun y _ _ h k => h) ?_
  · try dsimp only
    have e2 : x 2 = .pointer (some ⟨bo, oo, none⟩) := hp 2 (by decide)
    generalize x 2 = v2 at e2 ⊢
    subst e2
    clear hp
    exact pos_v (v := .pointer (some ⟨bo, oo, none⟩)) (by go_simp; try with_reducible rfl) rfl
  refine obls_cons rfl rfl (fun x wx hG hp => ?_) (fun y _ _ h k => h) ?_
  · try dsimp only
    have e3 : x 3 = .pointer (some ⟨bo, oo, none⟩) := hp 3 (by decide)
    generalize x 3 = v3 at e3 ⊢
    subst e3
    clear hp
    exact pos_v (v := .int .i64 k) (by have hc := hG.2.cell id C0.out; clear hG; go_simp; try with_reducible rfl) rfl
  refine obls_cons rfl rfl (fun x wx hG hp => ?_) (fun y _ _ h k => h) ?_
  · try dsimp only
    have e0 : ∃ g, x 0 = .map (some g) ∧ MapAt wx g shE 7 := hp 0 (by decide)
    obtain ⟨gm, e0, HM0⟩ := e0
    generalize x 0 = v0 at e0 ⊢
    subst e0
    have e4 : x 4 = .int .i64 k := hp 4 (by decide)
    generalize x 4 = v4 at e4 ⊢
    subst e4
    clear hp
    exact pos_v (exec_lookupW rfl rfl rfl HM0) rfl
  refine obls_cons rfl rfl (fun x wx hG hp => ?_) (fun y _ _ h k => h) ?_
  · try dsimp only
    have e5 : x 5 = .tuple #[.agg #[.bool (shN k), .bool (shD k), .bool (shL k), shFv k], .bool (shK k)] := hp 5 (by decide)
    generalize x 5 = v5 at e5 ⊢
    subst e5
    clear hp
    exact pos_v (v := .tuple #[.agg #[.bool (shN k), .bool (shD k), .bool (shL k), shFv k], .bool (shK k)]) (by go_simp; try with_reducible rfl) rfl
  refine obls_cons rfl rfl (fun x wx hG hp => ?_) (fun y _ _ h k => h) ?_
  · try dsimp only
    have e6 : x 6 = .tuple #[.agg #[.bool (shN k), .bool (shD k), .bool (shL k), shFv k], .bool (shK k)] := hp 6 (by decide)
    generalize x 6 = v6 at e6 ⊢
    subst e6
    clear hp
    exact pos_v (v := .agg #[.bool (shN k), .bool (shD k), .bool (shL k), shFv k]) (by go_simp; try with_reducible rfl) rfl
  refine obls_loose rfl rfl (fun x wx hG hp => ?_) (fun y _ _ h k => h) ?_
  · try dsimp only
    have e6 : x 6 = .tuple #[.agg #[.bool (shN k), .bool (shD k), .bool (shL k), shFv k], .bool (shK k)] := hp 6 (by decide)
    generalize x 6 = v6 at e6 ⊢
    subst e6
    clear hp
    exact ⟨.bool (shK k), fun wx => by go_simp; try with_reducible rfl, rfl⟩
  refine obls_cons rfl rfl (fun x wx hG hp => ?_) (fun y _ _ h k => by obtain ⟨g, h1, h2, h3, h4⟩ := h; exact ⟨g, h1, h2, h3, h4.keep k id⟩) ?_
  · try dsimp only
    clear hp
    refine pos_alloc rfl (z := .agg #[.bool false, .bool false, .bool false, .nilFunc]) (by kernel_rfl) [.bool false, .bool false, .bool false, .nilFunc] rfl ?_
    intro g w' hf hle hg
    exact ⟨g, rfl, rfl, Nat.le_trans hG.2.size hle, hg⟩
  exact trivial
  intro x w1 hG hp
  try dsimp only
  have e7 : x 7 = .agg #[.bool (shN k), .bool (shD k), .bool (shL k), shFv k] := hp 7 (by decide)
  generalize x 7 = v7 at e7 ⊢
  subst e7
  have e8 : x 8 = .bool (shK k) := hp 8 (by decide)
  generalize x 8 = v8 at e8 ⊢
  subst e8
  have e9 : ∃ ga9, x 9 = .pointer (some ⟨ga9, 0, none⟩) ∧ World.heap (World.drew wo) = World.heap (World.drew wo) ∧ wo.heap.size ≤ ga9 ∧ Has w1 ga9 [.bool false, .bool false, .bool false, .nilFunc] 53 := hp 9 (by decide)
  obtain ⟨ga9, e9, -, HL9, HG9⟩ := e9
  generalize x 9 = v9 at e9 ⊢
  subst e9
  clear hp
  generalize x 0 = v0
  generalize x 1 = v1
  generalize x 2 = v2
  generalize x 3 = v3
  generalize x 4 = v4
  generalize x 5 = v5
  generalize x 6 = v6
  have st1 := hd0.new hG.2 HG9 HL9
  try simp only [List.nil_append] at st1
  have HFX := Lib.hid hG.2
  clear HL9 HG9
  clear hG hd0
  refine plan_m rfl rfl ?_
  refine wp_storeS st1 0 rfl rfl rfl rfl (by simp) (by kernel_rfl) (sh_one k) ?_
  intro w2 st2
  repeat (first | simp only [List.cons_append] at st2 | simp only [List.nil_append] at st2 | simp only [List.set_cons_succ] at st2 | simp only [List.set_cons_zero] at st2)
  clear st1
  try simp only [Act.put]
  refine plan_w (v := ?_) rfl rfl (fun wx => ?_) ?_; rotate_left 1; (go_simp; with_reducible rfl)
  try simp only [Act.put, List.setIfInBounds_toArray, List.set_cons_zero, List.set_cons_succ]
  refine plan_end ?_
  refine NoPanic.normal ?_
  obtain ⟨kd, rfl, hk8⟩ := shK_nat HK.out
  have HK8 := Lib.hid hk8
  clear hk8
  have hfv : shFv (kd : Int) = .func (.func (shFn kd)) #[] #[] := by unfold shFv; rw [if_pos HK.out]
  simp only [hfv] at st2 ⊢
  simp only [HK.out]
  clear hfv
  have HF2 := Lib.hid st2.fr
  have s3 := (st2.at 0 rfl).cell (i := 3) rfl
  have hcl := call_sh (kd : Int)
  have HST := Lib.hid st2
  clear st2
  go_wp2_with fail
  refine (fits_any u8 w0 _ HV.out (HW.out.f.then HF2.out) bo oo n kd d l (HI1.out.still HF2.out)).mono ?_
  rintro e w6 ⟨rfl, hf6⟩
  have HF6 := Lib.hid (HF2.out.then hf6)
  have HST6 := Lib.hid (HST.out.keep hf6)
  have HWF := Lib.hid (HW.out.still HF6.out)
  have HF := Lib.hid (show WrX q w0 _ gw from ⟨_, _, _, HWF.out⟩)
  clear hf6 s3 hcl HST HF2
  simp only [HFT.out]
  have c1 := HF6.out.cell id C1.out
  have c2 := HF6.out.cell id C2.out
  have c3 := HF6.out.cell id C3.out
  have c0 := HF6.out.cell id (show World.cell? wo ⟨bo, oo, none⟩ = _ from C0.out)
  have s0 := (HST6.out.at 0 rfl).cell (i := 0) rfl
  have s1 := (HST6.out.at 0 rfl).cell (i := 1) rfl
  have s2 := (HST6.out.at 0 rfl).cell (i := 2) rfl
  simp only [HSN.out] at s0
  simp only [HSD.out] at s1
  simp only [HSL.out] at s2
  simp only [HSN.out, HSD.out, HSL.out]
  by_cases hz : n = 0
  · have hzB : (((n : Nat) : Int) == 0) = true := by simp [hz]
    have HZN := Lib.hid hz
    clear hz
    by_cases hz : l.length = 0
    · have hzB : (((l.length : Nat) : Int) == 0) = true := by simp [hz]
      have HZL := Lib.hid hz
      clear hz
      go_wp2_with fail
      refine (must_ok _).mono ?_
      rintro e w9 ⟨rfl, rfl⟩
      by_cases hd6 : d.length ≤ 65536
      · have hd6I : ((d.length : Nat) : Int) ≤ 65536 := by omega
        have hd6B : decide (((d.length : Nat) : Int) ≤ 65536) = true := decide_eq_true hd6I
        have HD6 := Lib.hid hd6
        clear hd6
        go_wp2_with fail
        refine (must_ok _).mono ?_
        rintro e w9 ⟨rfl, rfl⟩
        clear hd6B
        go_wp2_with fail
        refine wp_region_still_tail 11 (by kernel_rfl) (by kernel_rfl) ?_
        simp only [List.take_succ_cons, List.take_zero, List.drop_succ_cons, List.drop_zero]
        repeat still_step
        refine wpStill_nil ?_
        go_wp2_with fail
        refine (head_any q w0 _ gw kd d.length m v b (HWF.out.still (Fr.refl Nob _).drew) HK8.out (by have := HDL.out; omega) (by have := HB.out; omega)).mono ?_
        rintro e w7 ⟨rfl, v6, hw6⟩
        have HW6 := Lib.hid hw6
        clear hw6 hzB s0 s1 s2 c0 c1 c2 c3 HF
        have hdat := (HI.out.still HW6.out.f).open
        obtain ⟨da, dc, la, lc, ⟨-, -, c2, -⟩, hrd, -⟩ := hdat
        have c2d : (World.drew w7).cell? ⟨bo, oo + 2, none⟩ = some (.slice da d.length dc) := c2
        have HRD := Lib.hid (hrd.still (Fr.refl Nob _).drew)
        clear c2 hrd
        go_wp2_with fail
        refine wp_region_noPanic ?_
        refine wp_region_plan (fun wx => Has wx gw [.int .i64 (m : Int), v6] 41 ∧ wx.cell? ⟨bo, oo + 2, none⟩ = some (.slice da d.length dc)) 9 (.w 0 (.w 1 (.w 2 (.w 3 (.t 4 (.w 5 (.w 6 (.w 7 (.t 8 (.m 9 (.w 10 (.w 11 (.m 12 .nil))))))))))))) (by kernel_rfl) (by kernel_rfl) ⟨HW6.out.h.drew, c2d⟩ (fun _ _ _ _ _ h => h) ?_
        clear c2d
        refine plan_w (v := ?_) rfl rfl (fun wx => ?_) ?_; rotate_left 1; (go_simp; with_reducible rfl)
        try simp only [Act.put, List.setIfInBounds_toArray, List.set_cons_zero, List.set_cons_succ]
        refine plan_w (v := ?_) rfl rfl (fun wx => ?_) ?_; rotate_left 1; (go_simp; with_reducible rfl)
        try simp only [Act.put, List.setIfInBounds_toArray, List.set_cons_zero, List.set_cons_succ]
        refine plan_w (v := ?_) rfl rfl (fun wx => ?_) ?_; rotate_left 1; (go_simp; with_reducible rfl)
        try simp only [Act.put, List.setIfInBounds_toArray, List.set_cons_zero, List.set_cons_succ]
        refine plan_w (v := ?_) rfl rfl (fun wx => ?_) ?_; rotate_left 1; (go_simp; with_reducible rfl)
        try simp only [Act.put, List.setIfInBounds_toArray, List.set_cons_zero, List.set_cons_succ]
        refine plan_t (v := v6) rfl rfl (fun wx hS => ?_) ?_
        · have hc := hS.1.cell (i := 1) (v := v6) rfl; clear hS; go_simp
        try simp only [Act.put, List.setIfInBounds_toArray, List.set_cons_zero, List.set_cons_succ]
        refine plan_w (v := ?_) rfl rfl (fun wx => ?_) ?_; rotate_left 1; (go_simp; with_reducible rfl)
        try simp only [Act.put, List.setIfInBounds_toArray, List.set_cons_zero, List.set_cons_succ]
        refine plan_w (v := ?_) rfl rfl (fun wx => ?_) ?_; rotate_left 1; (go_simp; with_reducible rfl)
        try simp only [Act.put, List.setIfInBounds_toArray, List.set_cons_zero, List.set_cons_succ]
        refine plan_w (v := ?_) rfl rfl (fun wx => ?_) ?_; rotate_left 1; (go_simp; with_reducible rfl)
        try simp only [Act.put, List.setIfInBounds_toArray, List.set_cons_zero, List.set_cons_succ]
        refine plan_t (v := .slice da d.length dc) rfl rfl (fun wx hS => ?_) ?_
        · have hc := hS.2; clear hS; go_simp
        try simp only [Act.put, List.setIfInBounds_toArray, List.set_cons_zero, List.set_cons_succ]
        refine plan_m rfl rfl ?_
        refine wp_appendW (HW6.out.o.still (Fr.refl Nob _).drew) rfl Tryd.underlying24 info_u8W rfl (by decide) rfl (m := d.length) (c := dc) (news := bs d) rfl (show Rd _ da (d.length * 1) (bs d) from by rw [Nat.mul_one]; exact HRD.out.1) (bs_one _) (by unfold maxLen; have h1 := headW_len kd d.length; have h2 := HB.out; have h3 := HDL.out; rw [List.length_append]; omega) (by have h1 := headW_len kd d.length; have h2 := HB.out; have h3 := HDL.out; rw [List.length_append]; omega) (HW6.out.f.drew).size ?_
        intro v8 w8 ho8 hf8 hk8 hb8
        have ho8' : Go.Mv.Own w8 w0.heap.size 5 1 v8 (b ++ headW kd d.length ++ d).length (bs (b ++ headW kd d.length ++ d)) := by
          rw [bs_append, List.length_append]; exact ho8
        have hh8 := Has.offW (HW6.out.o.still (Fr.refl Nob _).drew) (HW6.out.h.keep (Fr.refl Nob _).drew id) (by decide) hf8
        have hg8 : Gr q gw w8 v8 (b ++ headW kd d.length ++ d).length := by
          rw [List.length_append]; exact (HW6.out.k.fr (Fr.refl Nob _).drew).app hf8 hk8 hb8
        obtain ⟨a8, c8, rfl, -⟩ := id ho8'.form
        obtain ⟨u8', cu8, fu8⟩ := hh8.ready (i := 1) (by simp)
        have hs8 := hh8.set 1 (.slice a8 (b ++ headW kd d.length ++ d).length c8)
        have hfs := (Fr.refl (One gw) w8).setCell gw 1 none (.slice a8 (b ++ headW kd d.length ++ d).length c8) fun _ => rfl
        have HW8 := Lib.hid (show WrS q w0 _ gw (m : Int) _ (b ++ headW kd d.length ++ d) from ⟨hs8, ho8'.offW hh8 (by decide) hfs, ((HW6.out.o.still (Fr.refl Nob _).drew).fr HW6.out.f.drew (Nat.le_refl _) hf8).new hfs HW6.out.g, HW6.out.g, hg8.set hfs⟩)
        have HP := Lib.hid (show prW u8 (.mk (kd : Int) n d l) deep (m + 1) b = (if (b ++ headW kd d.length ++ d).length ≤ 65536 then some (m, b ++ headW kd d.length ++ d) else none) from (prW_data (u8 := u8) (n := n) (d := d) (b := b) (l := l) (deep := deep) (m := m) (k := (kd : Int)) (by rw [fitW_eq, HK.out, HFT.out, HSN.out, HSD.out, HSL.out, HZN.out, HZL.out]; rfl) HD.out HSD.out).trans (if_pos HD6.out))
        clear ho8 hf8 hk8 hb8 ho8' hh8 hg8 hs8 hfs
        try simp only [Act.put, List.setIfInBounds_toArray, List.set_cons_zero, List.set_cons_succ]
        generalize hnb : (b ++ headW kd d.length ++ d).length = nb at *
        have HNB := Lib.hid hnb
        clear hnb
        refine plan_w (v := ?_) rfl rfl (fun wx => ?_) ?_; rotate_left 1; (go_simp; with_reducible rfl)
        try simp only [Act.put, List.setIfInBounds_toArray, List.set_cons_zero, List.set_cons_succ]
        refine plan_w (v := ?_) rfl rfl (fun wx => ?_) ?_; rotate_left 1; (go_simp; with_reducible rfl)
        try simp only [Act.put, List.setIfInBounds_toArray, List.set_cons_zero, List.set_cons_succ]
        refine plan_m rfl rfl ?_
        go_simp
        try simp only [Act.put, List.setIfInBounds_toArray, List.set_cons_zero, List.set_cons_succ]
        refine plan_end ?_
        refine NoPanic.normal ?_
        have d6 := HW8.out.h.cell (i := 1) (v := .slice a8 nb c8) rfl
        have HF := Lib.hid (show WrX q w0 _ gw from ⟨_, _, _, HW8.out⟩)
        have HPT := HP
        have HW6 := HW8
        clear cu8 fu8
        by_cases hle : nb ≤ 65536
        · have hleI : (nb : Int) ≤ 65536 := by omega
          have hleB : decide ((nb : Int) ≤ 65536) = true := decide_eq_true hleI
          go_wp2_with fail
          refine (must_ok _).mono ?_
          rintro e w9 ⟨rfl, rfl⟩
          go_wp2_with fail
          refine bodyPost_ret (results_noneW rfl) rfl ?_
          rw [HP.out, if_pos hle]
          exact ⟨rfl, _, HW6.out⟩
        · have hleI : ¬ (nb : Int) ≤ 65536 := by omega
          have hleB : decide ((nb : Int) ≤ 65536) = false := decide_eq_false hleI
          have HP2 := Lib.hid (HP.out.trans (if_neg hle))
          clear HP
          have HP := Lib.hid (HP2.out)
          go_wp2_with fail
          refine (must_no _).mono ?_
          rintro e w9 ⟨rfl, rfl⟩
          exact ⟨rfl, itPost_none HP.out HF.out⟩
      · have hd6I : ¬ ((d.length : Nat) : Int) ≤ 65536 := by omega
        have hd6B : decide (((d.length : Nat) : Int) ≤ 65536) = false := decide_eq_false hd6I
        have HD6 := Lib.hid hd6
        clear hd6
        have HP := Lib.hid ((prW_data (u8 := u8) (n := n) (d := d) (b := b) (l := l) (deep := deep) (m := m) (k := (kd : Int)) (by rw [fitW_eq, HK.out, HFT.out, HSN.out, HSD.out, HSL.out, HZN.out, HZL.out]; rfl) HD.out HSD.out).trans (if_neg HD6.out))
        go_wp2_with fail
        refine (must_no _).mono ?_
        rintro e w9 ⟨rfl, rfl⟩
        exact ⟨rfl, itPost_none HP.out HF.out⟩
    · have hzB : (((l.length : Nat) : Int) == 0) = false := by rw [beq_eq_false_iff_ne]; omega
      have HZL := Lib.hid hz
      clear hz
      have HP := Lib.hid (prW_bad (u8 := u8) (n := n) (d := d) (b := b) (l := l) (deep := deep) (m := m) (k := (kd : Int)) (by rw [fitW_eq, HSN.out, HSD.out, HSL.out]; have hx := HZL.out; simp [hx]))
      go_wp2_with fail
      refine (must_no _).mono ?_
      rintro e w9 ⟨rfl, rfl⟩
      exact ⟨rfl, itPost_none HP.out HF.out⟩
  · have hzB : (((n : Nat) : Int) == 0) = false := by rw [beq_eq_false_iff_ne]; omega
    have HZN := Lib.hid hz
    clear hz
    have HP := Lib.hid (prW_bad (u8 := u8) (n := n) (d := d) (b := b) (l := l) (deep := deep) (m := m) (k := (kd : Int)) (by rw [fitW_eq, HSN.out, HSD.out, HSL.out]; have hx := HZN.out; simp [hx]))
    go_wp2_with fail
    refine (must_no _).mono ?_
    rintro e w9 ⟨rfl, rfl⟩
    exact ⟨rfl, itPost_none HP.out HF.out⟩
set_option maxHeartbeats 4000000 in
set_option maxRecDepth 1000000 in
theorem item_L (u8 : List UInt8 → Bool) (q : Gh) (w0 w : World) (gw m deep bo oo : Nat) (v : Value) (b : List UInt8) (k : Int) (n : Nat) (d : List UInt8) (l : List It) (hV : VOk u8 w0) (hit : ItP w0 bo oo (.mk k n d l)) (hL : shL k = true → listOk u8 w0 gw bo oo deep k l)
    (h : WrS q w0 w gw ((m : Int) + 1) v b) (hm : m ≤ 4096) (hd : deep ≤ 16) (hb : b.length ≤ 65536 + 9 * deep) (hk : shK k = true) (hft : fitF u8 k n d l.length = true) (hsN : shN k = false) (hsD : shD k = false) (hsL : shL k = true) :
    Calls Tryd.prog 10 #[.pointer (some ⟨gw, 0, none⟩), .pointer (some ⟨bo, oo, none⟩), .int .i64 (deep : Int)] w (itPost q w0 gw (prW u8 (.mk k n d l) deep (m + 1) b)) := by
  have HFT := Lib.hid hft
  clear hft
  have HSN := Lib.hid hsN
  clear hsN
  have HSD := Lib.hid hsD
  clear hsD
  have HSL := Lib.hid hsL
  clear hsL
  have hI0 := hit
  have H := Lib.hid h
  have HI := Lib.hid hit
  have HV := Lib.hid hV
  have HL := Lib.hid hL
  have HB := Lib.hid (show b.length ≤ 65700 from by omega)
  have HB2 := Lib.hid hb
  have HM := Lib.hid hm
  have HD := Lib.hid hd
  have HK := Lib.hid hk
  clear h hit hV hL hb hm hd hk hI0
  go_enter Tryd.func10, Tryd.ntmps10
  go_wp2_with fail
  refine (one_ok q w0 w gw m deep v b H.out (by have := HM.out; omega) HD.out).mono ?_
  rintro e wo ⟨rfl, hwo⟩
  have HW := Lib.hid hwo
  have HI1 := Lib.hid (HI.out.still HW.out.f)
  have hC := HI1.out.open
  obtain ⟨da, dc, la, lc, ⟨c0, c1, c2, c3⟩, hrd, hn, hdl, hll, -⟩ := hC
  have C0 := Lib.hid (show wo.drew.cell? ⟨bo, oo, none⟩ = _ from c0)
  have C1 := Lib.hid c1
  have C2 := Lib.hid c2
  have C3 := Lib.hid c3
  have HR := Lib.hid hrd
  have HN := Lib.hid hn
  have HDL := Lib.hid hdl
  have HLL := Lib.hid hll
  clear hwo c0 c1 c2 c3 hrd hn hdl hll H
  have st0 := St.start Nob wo
  go_wp2_with fail
  refine wp_region_noPanic ?_
  have hd0 := st0.drew
  clear st0
  refine wp_region_posA (fun wx => St Nob wo wx [] ∧ Fr Nob (World.drew _) wx) [0, 1, 2, 3, 4, 5, 6, 7, 8, 9] [8] (fun i => match i with | 0 => [] | 1 => [] | 2 => [1] | 3 => [2] | 4 => [3] | 5 => [0, 4] | 6 => [5] | 7 => [6] | 8 => [6] | 9 => [] | _ => []) (fun i x wx => match i with | 0 => ∃ g, x 0 = .map (some g) ∧ MapAt wx g shE 7 | 1 => x 1 = .pointer (some ⟨bo, oo, none⟩) | 2 => x 2 = .pointer (some ⟨bo, oo, none⟩) | 3 => x 3 = .pointer (some ⟨bo, oo, none⟩) | 4 => x 4 = .int .i64 k | 5 => x 5 = .tuple #[.agg #[.bool (shN k), .bool (shD k), .bool (shL k), shFv k], .bool (shK k)] | 6 => x 6 = .tuple #[.agg #[.bool (shN k), .bool (shD k), .bool (shL k), shFv k], .bool (shK k)] | 7 => x 7 = .agg #[.bool (shN k), .bool (shD k), .bool (shL k), shFv k] | 8 => x 8 = .bool (shK k) | 9 => ∃ ga9, x 9 = .pointer (some ⟨ga9, 0, none⟩) ∧ World.heap (World.drew wo) = World.heap (World.drew wo) ∧ wo.heap.size ≤ ga9 ∧ Has wx ga9 [.bool false, .bool false, .bool false, .nilFunc] 53 | _ => True) 10 (.m 10 (.w 11 .nil)) ?_ (fun x => ?_) (by kernel_rfl) (by kernel_rfl) (fun _ _ _ _ _ h => h) ⟨hd0, Fr.refl _ _⟩ (fun _ _ h k => ⟨h.1.keep k, h.2.then k⟩) ?_ ?_
  rotate_left 1
  · simp only [puts, putI, Act.put, List.getElem?_toArray, List.getElem?_cons_zero, List.getElem?_cons_succ, List.setIfInBounds_toArray, List.set_cons_zero, List.set_cons_succ]
    exact rfl
  refine obls_cons rfl rfl (fun x wx hG hp => ?_) (fun y _ _ h k => by obtain ⟨g, h1, h2⟩ := h; exact ⟨g, h1, h2.keep k id⟩) ?_
  · try dsimp only
    clear hp
    refine pos_go rfl Tryd.call15 (vs := []) rfl ?_
    refine (shapes_any _).mono ?_
    rintro e w' ⟨g, rfl, ho, hf⟩
    exact ⟨_, rfl, hf, g, rfl, ho⟩
  refine obls_cons rfl rfl (fun x wx hG hp => ?_) (fun y _ _ h k => h) ?_
  · try dsimp only
    clear hp
    exact pos_v (v := .pointer (some ⟨bo, oo, none⟩)) (by go_simp; try with_reducible rfl) rfl
  refine obls_cons rfl rfl (fun x wx hG hp => ?_) (fun y _ _ h k => h) ?_
  · try dsimp only
    have e1 : x 1 = .pointer (some ⟨bo, oo, none⟩) := hp 1 (by decide)
    generalize x 1 = v1 at e1 ⊢
    subst e1
    clear hp
    exact pos_v (v := .pointer (some ⟨bo, oo, none⟩)) (by go_simp; try with_reducible rfl) rfl
  refine obls_cons rfl rfl (fun x wx hG hp => ?_) (fun y _ _ h k => h) ?_
  · try dsimp only
    have e2 : x 2 = .pointer (some ⟨bo, oo, none⟩) := hp 2 (by decide)
    generalize x 2 = v2 at e2 ⊢
    subst e2
    clear hp
    exact pos_v (v := .pointer (some ⟨bo, oo, none⟩)) (by go_simp; try with_reducible rfl) rfl
  refine obls_cons rfl rfl (fun x wx hG hp => ?_) (fun y _ _ h k => h) ?_
  · try dsimp only
    have e3 : x 3 = .pointer (some ⟨bo, oo, none⟩) := hp 3 (by decide)
    generalize x 3 = v3 at e3 ⊢
    subst e3
    clear hp
    exact pos_v (v := .int .i64 k) (by have hc := hG.2.cell id C0.out; clear hG; go_simp; try with_reducible rfl) rfl
  refine obls_cons rfl rfl (fun x wx hG hp => ?_) (fun y _ _ h k => h) ?_
  · try dsimp only
    have e0 : ∃ g, x 0 = .map (some g) ∧ MapAt wx g shE 7 := hp 0 (by decide)
    obtain ⟨gm, e0, HM0⟩ := e0
    generalize x 0 = v0 at e0 ⊢
    subst e0
    have e4 : x 4 = .int .i64 k := hp 4 (by decide)
    generalize x 4 = v4 at e4 ⊢
    subst e4
    clear hp
    exact pos_v (exec_lookupW rfl rfl rfl HM0) rfl
  refine obls_cons rfl rfl (fun x wx hG hp => ?_) (fun y _ _ h k => h) ?_
  · try dsimp only
    have e5 : x 5 = .tuple #[.agg #[.bool (shN k), .bool (shD k), .bool (shL k), shFv k], .bool (shK k)] := hp 5 (by decide)
    generalize x 5 = v5 at e5 ⊢
    subst e5
    clear hp
    exact pos_v (v := .tuple #[.agg #[.bool (shN k), .bool (shD k), .bool (shL k), shFv k], .bool (shK k)]) (by go_simp; try with_reducible rfl) rfl
  refine obls_cons rfl rfl (fun x wx hG hp => ?_) (fun y _ _ h k => h) ?_
  · try dsimp only
    have e6 : x 6 = .tuple #[.agg #[.bool (shN k), .bool (shD k), .bool (shL k), shFv k], .bool (shK k)] := hp 6 (by decide)
    generalize x 6 = v6 at e6 ⊢
    subst e6
    clear hp
    exact pos_v (v := .agg #[.bool (shN k), .bool (shD k), .bool (shL k), shFv k]) (by go_simp; try with_reducible rfl) rfl
  refine obls_loose rfl rfl (fun x wx hG hp => ?_) (fun y _ _ h k => h) ?_
  · try dsimp only
    have e6 : x 6 = .tuple #[.agg #[.bool (shN k), .bool (shD k), .bool (shL k), shFv k], .bool (shK k)] := hp 6 (by decide)
    generalize x 6 = v6 at e6 ⊢
    subst e6
    clear hp
    exact ⟨.bool (shK k), fun wx => by go_simp; try with_reducible rfl, rfl⟩
  refine obls_cons rfl rfl (fun x wx hG hp => ?_) (fun y _ _ h k => by obtain ⟨g, h1, h2, h3, h4⟩ := h; exact ⟨g, h1, h2, h3, h4.keep k id⟩) ?_
  · try dsimp only
    clear hp
    refine pos_alloc rfl (z := .agg #[.bool false, .bool false, .bool false, .nilFunc]) (by kernel_rfl) [.bool false, .bool false, .bool false, .nilFunc] rfl ?_
    intro g w' hf hle hg
    exact ⟨g, rfl, rfl, Nat.le_trans hG.2.size hle, hg⟩
  exact trivial
  intro x w1 hG hp
  try dsimp only
  have e7 : x 7 = .agg #[.bool (shN k), .bool (shD k), .bool (shL k), shFv k] := hp 7 (by decide)
  generalize x 7 = v7 at e7 ⊢
  subst e7
  have e8 : x 8 = .bool (shK k) := hp 8 (by decide)
  generalize x 8 = v8 at e8 ⊢
  subst e8
  have e9 : ∃ ga9, x 9 = .pointer (some ⟨ga9, 0, none⟩) ∧ World.heap (World.drew wo) = World.heap (World.drew wo) ∧ wo.heap.size ≤ ga9 ∧ Has w1 ga9 [.bool false, .bool false, .bool false, .nilFunc] 53 := hp 9 (by decide)
  obtain ⟨ga9, e9, -, HL9, HG9⟩ := e9
  generalize x 9 = v9 at e9 ⊢
  subst e9
  clear hp
  generalize x 0 = v0
  generalize x 1 = v1
  generalize x 2 = v2
  generalize x 3 = v3
  generalize x 4 = v4
  generalize x 5 = v5
  generalize x 6 = v6
  have st1 := hd0.new hG.2 HG9 HL9
  try simp only [List.nil_append] at st1
  have HFX := Lib.hid hG.2
  clear HL9 HG9
  clear hG hd0
  refine plan_m rfl rfl ?_
  refine wp_storeS st1 0 rfl rfl rfl rfl (by simp) (by kernel_rfl) (sh_one k) ?_
  intro w2 st2
  repeat (first | simp only [List.cons_append] at st2 | simp only [List.nil_append] at st2 | simp only [List.set_cons_succ] at st2 | simp only [List.set_cons_zero] at st2)
  clear st1
  try simp only [Act.put]
  refine plan_w (v := ?_) rfl rfl (fun wx => ?_) ?_; rotate_left 1; (go_simp; with_reducible rfl)
  try simp only [Act.put, List.setIfInBounds_toArray, List.set_cons_zero, List.set_cons_succ]
  refine plan_end ?_
  refine NoPanic.normal ?_
  obtain ⟨kd, rfl, hk8⟩ := shK_nat HK.out
  have HK8 := Lib.hid hk8
  clear hk8
  have hfv : shFv (kd : Int) = .func (.func (shFn kd)) #[] #[] := by unfold shFv; rw [if_pos HK.out]
  simp only [hfv] at st2 ⊢
  simp only [HK.out]
  clear hfv
  have HF2 := Lib.hid st2.fr
  have s3 := (st2.at 0 rfl).cell (i := 3) rfl
  have hcl := call_sh (kd : Int)
  have HST := Lib.hid st2
  clear st2
  go_wp2_with fail
  refine (fits_any u8 w0 _ HV.out (HW.out.f.then HF2.out) bo oo n kd d l (HI1.out.still HF2.out)).mono ?_
  rintro e w6 ⟨rfl, hf6⟩
  have HF6 := Lib.hid (HF2.out.then hf6)
  have HST6 := Lib.hid (HST.out.keep hf6)
  have HWF := Lib.hid (HW.out.still HF6.out)
  have HF := Lib.hid (show WrX q w0 _ gw from ⟨_, _, _, HWF.out⟩)
  clear hf6 s3 hcl HST HF2
  simp only [HFT.out]
  have c1 := HF6.out.cell id C1.out
  have c2 := HF6.out.cell id C2.out
  have c3 := HF6.out.cell id C3.out
  have c0 := HF6.out.cell id (show World.cell? wo ⟨bo, oo, none⟩ = _ from C0.out)
  have s0 := (HST6.out.at 0 rfl).cell (i := 0) rfl
  have s1 := (HST6.out.at 0 rfl).cell (i := 1) rfl
  have s2 := (HST6.out.at 0 rfl).cell (i := 2) rfl
  simp only [HSN.out] at s0
  simp only [HSD.out] at s1
  simp only [HSL.out] at s2
  simp only [HSN.out, HSD.out, HSL.out]
  by_cases hz : n = 0
  · have hzB : (((n : Nat) : Int) == 0) = true := by simp [hz]
    have HZN := Lib.hid hz
    clear hz
    by_cases hz : d.length = 0
    · have hzB : (((d.length : Nat) : Int) == 0) = true := by simp [hz]
      have HZD := Lib.hid hz
      clear hz
      go_wp2_with fail
      refine (must_ok _).mono ?_
      rintro e w9 ⟨rfl, rfl⟩
      go_wp2_with fail
      refine (HL.out HSL.out q _ m v b HWF.out HM.out HB2.out).mono ?_
      intro e w7 h7
      have HP := Lib.hid (prW_list (u8 := u8) (n := n) (d := d) (b := b) (l := l) (deep := deep) (m := m) (k := (kd : Int)) (by rw [fitW_eq, HK.out, HFT.out, HSN.out, HSD.out, HSL.out, HZN.out, HZD.out]; rfl) HD.out HSL.out)
      cases hr : prWs u8 l ((kd : Int) == 5) true deep m (b ++ headW ((kd : Int)).toNat (if (kd : Int) = 5 then l.length / 2 else l.length)) none with
      | none =>
        rw [hr] at h7
        obtain ⟨rfl, hf7⟩ := h7
        have HF := Lib.hid hf7
        have HP2 := Lib.hid (show prW u8 (.mk (kd : Int) n d l) deep (m + 1) b = none from by rw [HP.out, hr])
        clear HP hr hf7
        have HP := HP2
        unfold brokenW
        exact ⟨rfl, itPost_none HP.out HF.out⟩
      | some r =>
        obtain ⟨m6, b6⟩ := r
        rw [hr] at h7
        obtain ⟨rfl, v6, hw6⟩ := h7
        have HW6 := Lib.hid hw6
        have HP2 := Lib.hid (show prW u8 (.mk (kd : Int) n d l) deep (m + 1) b = if b6.length ≤ 65536 then some (m6, b6) else none from by rw [HP.out, hr])
        clear HP hr hw6 hzB s0 s1 s2 c0 c1 c2 c3 HF
        obtain ⟨a6, c6, rfl, -⟩ := id HW6.out.o.form
        have d6 := HW6.out.h.cell (i := 1) rfl
        have HF := Lib.hid (show WrX q w0 _ gw from ⟨_, _, _, HW6.out⟩)
        have HP := Lib.hid (HP2.out)
        generalize hnb : (b6).length = nb at *
        have HNB := Lib.hid hnb
        clear hnb
        by_cases hle : nb ≤ 65536
        · have hleI : (nb : Int) ≤ 65536 := by omega
          have hleB : decide ((nb : Int) ≤ 65536) = true := decide_eq_true hleI
          go_wp2_with fail
          refine (must_ok _).mono ?_
          rintro e w9 ⟨rfl, rfl⟩
          go_wp2_with fail
          refine bodyPost_ret (results_noneW rfl) rfl ?_
          rw [HP.out, if_pos hle]
          exact ⟨rfl, _, HW6.out⟩
        · have hleI : ¬ (nb : Int) ≤ 65536 := by omega
          have hleB : decide ((nb : Int) ≤ 65536) = false := decide_eq_false hleI
          have HP2 := Lib.hid (HP.out.trans (if_neg hle))
          clear HP
          have HP := Lib.hid (HP2.out)
          go_wp2_with fail
          refine (must_no _).mono ?_
          rintro e w9 ⟨rfl, rfl⟩
          exact ⟨rfl, itPost_none HP.out HF.out⟩
    · have hzB : (((d.length : Nat) : Int) == 0) = false := by rw [beq_eq_false_iff_ne]; omega
      have HZD := Lib.hid hz
      clear hz
      have HP := Lib.hid (prW_bad (u8 := u8) (n := n) (d := d) (b := b) (l := l) (deep := deep) (m := m) (k := (kd : Int)) (by rw [fitW_eq, HSN.out, HSD.out, HSL.out]; have hx := HZD.out; simp [hx]))
      go_wp2_with fail
      refine (must_no _).mono ?_
      rintro e w9 ⟨rfl, rfl⟩
      exact ⟨rfl, itPost_none HP.out HF.out⟩
  · have hzB : (((n : Nat) : Int) == 0) = false := by rw [beq_eq_false_iff_ne]; omega
    have HZN := Lib.hid hz
    clear hz
    have HP := Lib.hid (prW_bad (u8 := u8) (n := n) (d := d) (b := b) (l := l) (deep := deep) (m := m) (k := (kd : Int)) (by rw [fitW_eq, HSN.out, HSD.out, HSL.out]; have hx := HZN.out; simp [hx]))
    go_wp2_with fail
    refine (must_no _).mono ?_
    rintro e w9 ⟨rfl, rfl⟩
    exact ⟨rfl, itPost_none HP.out HF.out⟩
end Go.Proofs.YtdadnajbdnbbdaaDoor

/- Slice expressions as equations on their runs: to be laid ahead of a walk. -/
namespace Go.Mv
open Go.RowKit
variable {P : Program}

theorem run_slice_lo (w : World) {ty e : TypeId} (hu : P.underlying ty = some (.slice e)) (hsz : (P.info? e).map (·.size) = some 1) (p : Option Addr) (n c : Nat) (k : IntKind) (l : Nat) (hl : l ≤ n) :
    (Instr.sliceAt ty (.slice p n c) (some (.int k (l : Int))) none none).run P w = .ok (.slice (cutAt p l c) (n - l) (c - l)) w := by
  obtain ⟨i, hi1, hi2⟩ : ∃ i, P.info? e = some i ∧ i.size = 1 := by simpa using hsz
  simp [Instr.sliceAt, Instr.slice, run_underlying hu, Instr.sliceBounds, run_sliceBound, hl, sizeOf, typeInfo, hi1, hi2, cutAt]

end Go.Mv

/- wire: list (printed by gen_wp8.py). -/
namespace Go.Mv
open Go.RowKit
theorem run_slice3 {P : Program} (w : World) {ty e : TypeId} (hu : P.underlying ty = some (.slice e)) (hsz : (P.info? e).map (·.size) = some 1) (p : Option Addr) (n c : Nat) (k : IntKind) (l h m : Nat) (hl : l ≤ h) (hh : h ≤ m) (hm : m ≤ c) :
    (Instr.sliceAt ty (.slice p n c) (some (.int k (l : Int))) (some (.int k (h : Int))) (some (.int k (m : Int)))).run P w = .ok (.slice (cutAt p l m) (h - l) (m - l)) w := by
  obtain ⟨i, hi1, hi2⟩ : ∃ i, P.info? e = some i ∧ i.size = 1 := by simpa using hsz
  simp [Instr.sliceAt, Instr.slice, run_underlying hu, Instr.sliceBounds, run_sliceBound, hl, hh, hm, sizeOf, typeInfo, hi1, hi2, cutAt]
end Go.Mv
namespace Go.Proofs.YtdadnajbdnbbdaaDoor
open Go.RowKit Go.Mv Mvp
theorem size_u8W : (Tryd.prog.info? 5).map (·.size) = some 1 := by kernel_rfl
/-- a writer seen anew -/
theorem WrS.re {q : Gh} {w0 w : World} {gw : Nat} {left : Int} {v : Value} {b : List UInt8} (h : WrS q w0 w gw left v b) : WrS ⟨w, v, b.length⟩ w0 w gw left v b := ⟨h.h, h.o, h.f, h.g, Gr.refl _ _ _ _⟩
theorem WrS.back {q : Gh} {w0 w w' : World} {gw : Nat} {left left' : Int} {v v' : Value} {b b' : List UInt8} (h : WrS q w0 w gw left v b) (h' : WrS ⟨w, v, b.length⟩ w0 w' gw left' v' b') : WrS q w0 w' gw left' v' b' := ⟨h'.h, h'.o, h'.f, h'.g, h.k.trans h'.k⟩
/-- what was written from some place on is not spoiled -/
theorem WrS.from {q : Gh} {w0 w : World} {gw : Nat} {left : Int} {a : Option Addr} {c at_ : Nat} {b : List UInt8} (h : WrS q w0 w gw left (.slice a b.length c) b) (_hat : at_ ≤ b.length) : WrP w gw (.slice a b.length c) b.length (cutAt a at_ b.length) (b.drop at_).length (b.drop at_) := by
  obtain ⟨a', c', e, -, hr, -⟩ := h.o.form
  cases e
  rcases Nat.lt_or_ge at_ b.length with hlt | hge
  · obtain ⟨g, o, rfl, hA⟩ := Rd.at hr (by omega)
    have hcut : cutAt (some ⟨g, o, none⟩) at_ b.length = some ⟨g, o + at_, none⟩ := by
      unfold cutAt; rw [if_neg (by omega)]; simp [addr_add]
    rw [hcut]
    refine ⟨⟨by rw [length_bs], .inr ⟨g, o + at_, rfl, fun i u hu => ?_⟩⟩, fun _ g' o' e => ?_⟩
    · rw [Nat.add_assoc]
      refine hA (at_ + i) u ?_
      rw [← bs_drop, List.getElem?_drop] at hu
      exact hu
    · cases e
      refine ⟨fun e2 => ?_, fun o2 cap e2 => ?_⟩
      · subst e2
        exact h.o.ne h.h (by decide) (by simp [OwnB, Value.ownBlock])
      · cases e2
        rw [List.length_drop]; omega
  · have h0 : b.drop at_ = [] := List.drop_eq_nil_of_le hge
    rw [h0]
    exact ⟨RdB.nil _ _, fun h => by simp at h⟩
def itemOk (u8 : List UInt8 → Bool) (w0 : World) (gw deep : Nat) (l : List It) : Prop := ∀ (k : Nat) (t : It), l[k]? = some t → ∀ (q : Gh) (w : World) (m : Nat) (v : Value) (b : List UInt8) (bo oo : Nat), ItP w0 bo oo t → WrS q w0 w gw (m : Int) v b → m ≤ 4096 → b.length ≤ 65536 + 9 * (deep + 1) →
    Calls Tryd.prog 10 #[.pointer (some ⟨gw, 0, none⟩), .pointer (some ⟨bo, oo, none⟩), .int .i64 ((deep : Int) + 1)] w (itPost q w0 gw (prW u8 t (deep + 1) m b))
theorem prW_le (u8 : List UInt8 → Bool) (t : It) (deep m : Nat) (b : List UInt8) (m' : Nat) (b' : List UInt8) (h : prW u8 t deep m b = some (m', b')) : m' ≤ m ∧ b'.length ≤ 65536 ∧ b.length ≤ b'.length := by
  rw [prW_eq] at h
  cases hv : vlW u8 t deep m with
  | none => rw [hv] at h; cases h
  | some x =>
    cases hw : wrW t with
    | none => rw [hv, hw] at h; cases h
    | some s =>
      rw [hv, hw] at h
      unfold bothW at h
      simp only at h
      split at h
      · cases h
        rw [List.length_append]
        omega
      · cases h
set_option maxHeartbeats 4000000 in
set_option maxRecDepth 1000000 in
theorem list_4 (u8 : List UInt8 → Bool) (w0 : World) (gw bo oo deep n : Nat) (d : List UInt8) (l : List It) (hit : ItP w0 bo oo (.mk 4 n d l)) (hd : deep ≤ 16) (hI : itemOk u8 w0 gw deep l) : listOk u8 w0 gw bo oo deep 4 l := by
  intro q w m v b h hm hb
  show Calls Tryd.prog 18 _ w (itPost q w0 gw (prWs u8 l false true deep m (b ++ headW 4 (l.length)) none))
  have H := Lib.hid h
  have HI := Lib.hid hit
  have HO := Lib.hid hI
  have HB := Lib.hid hb
  have HM := Lib.hid hm
  have HD := Lib.hid hd
  have hdI : (deep : Int) ≤ 16 := by omega
  obtain ⟨da, dc, la0, lc0, ⟨c0w, -, -, c3w⟩, -, -, -, hll, hlst⟩ := hit.open
  have C0 := Lib.hid c0w
  have C3 := Lib.hid c3w
  have c0 := h.f.cell id c0w
  have c3 := h.f.cell id c3w
  have HLL := Lib.hid hll
  have HLS := Lib.hid hlst
  have hlI : (l.length : Int) ≤ 1000 := by omega
  clear h hit hI hb hm hd hll hlst c0w c3w HI
  obtain ⟨R, hR⟩ : ∃ R, prWs u8 l false true deep m (b ++ headW 4 (l.length)) none = R := ⟨_, rfl⟩
  rw [hR]
  have HR := Lib.hid hR
  clear hR
  go_enter Tryd.func18, Tryd.ntmps18
  go_wp2_with fail
  refine (head_any q w0 w gw 4 (l.length) m v b H.out (by decide) (by have := HLL.out; omega) (by have := HB.out; have := HD.out; omega)).mono ?_
  rintro e w1 ⟨rfl, v1, hw1⟩
  have HW1 := Lib.hid hw1
  clear c0 c3
  have d3 := hw1.f.cell id C3.out
  clear hw1
  go_wp2_with fail
  clear d3
  go_loopw [38, 8] (fun kv lv wr => ∃ (k m' : Nat) (v' : Value) (b' : List UInt8) (la : Option Addr) (ln lc : Nat) (lo : Option (List UInt8)), k ≤ l.length ∧ kv = .int .i64 (k : Int) ∧ lv = .slice la ln lc ∧ Hid (WrS q w0 wr gw (m' : Int) v' b') ∧ Hid (m' ≤ 4096) ∧ Hid (b'.length ≤ 65536 + 9 * (deep + 1)) ∧ Hid (prWs u8 (l.drop k) false true deep m' b' lo = R) ∧ Hid ((lo = none ↔ k = 0 ∨ false = false) ∧ ∀ x, lo = some x → ln = x.length ∧ WrP wr gw v' b'.length la x.length x)) (fun kv _ _ => l.length - (intOf kv).toNat)
  case atStart =>
    refine ⟨0, m, v1, _, none, 0, 0, none, by omega, rfl, rfl, HW1, HM, Lib.hid (by have h1 := headW_len 4 (l.length); have h2 := HB.out; rw [List.length_append]; omega), HR, Lib.hid ⟨by simp, by simp⟩⟩
  case round =>
    obtain ⟨k, m', v', b', la, ln, lc, lo, hk, rfl, rfl, HW, HM2, HB2, HR2, HL2⟩ := hrel
    rcases Nat.lt_or_ge k l.length with hkl | hkl
    · have hkI : (k : Int) < (l.length : Int) := by omega
      have hk0 : (0 : Int) ≤ (k : Int) := by omega
      obtain ⟨t, ht⟩ : ∃ t, l[k]? = some t := ⟨l[k], List.getElem?_eq_getElem hkl⟩
      have hdrop : l.drop k = t :: l.drop (k + 1) := by
        obtain ⟨hk2, e⟩ := List.getElem?_eq_some_iff.1 ht
        rw [← e]; exact List.drop_eq_getElem_cons hk2
      have HT := Lib.hid ht
      have HDR := Lib.hid hdrop
      obtain ⟨av, cv, rfl, hcv, -⟩ := id HW.out.o.form
      have HCV := Lib.hid hcv
      have g1 := HW.out.h.cell (i := 1) rfl
      have c3 := HW.out.f.cell id C3.out
      obtain ⟨lb, lof, rfl, hits⟩ := HLS.out.resolve_left (fun h => by subst h; simp at hkl)
      have hit0 := hits.at ht
      rw [Nat.mul_comm] at hit0
      have HIT := Lib.hid hit0
      have HIN := Lib.hid (show itPost q w0 gw R = itPost q w0 gw R from rfl)
      clear hits ht hdrop hcv hit0 HIN
      generalize hnb : b'.length = nb at *
      have HNB := Lib.hid hnb
      clear hnb hk
      have hkl2 := Lib.hid hkl
      clear hkl
      go_wp2_with fail
      refine (HO.out k t HT.out ⟨wr, .slice av nb cv, nb⟩ wr m' _ b' lb (lof + k * 4) HIT.out (by rw [← HNB.out] at HW ⊢; exact HW.out.re) HM2.out (by rw [HNB.out]; exact HB2.out)).mono ?_
      intro e w7 h7
      cases hr : prW u8 t (deep + 1) m' b' with
      | none =>
        rw [hr] at h7
        obtain ⟨rfl, hf7⟩ := h7
        have HF := Lib.hid (show WrX q w0 w7 gw from by rw [← HNB.out] at HW hf7; obtain ⟨_, _, _, h9⟩ := hf7; exact ⟨_, _, _, HW.out.back h9⟩)
        have HP := Lib.hid (show R = none from by rw [← HR2.out, HDR.out]; unfold prWs; rw [hr])
        clear hr hf7
        unfold brokenW
        exact ⟨rfl, itPost_none HP.out HF.out⟩
      | some r =>
        obtain ⟨m2, b2⟩ := r
        rw [hr] at h7
        obtain ⟨rfl, v2, hw2⟩ := h7
        have hle := prW_le u8 t (deep + 1) m' b' m2 b2 hr
        have HW2 := Lib.hid (show WrS q w0 w7 gw (m2 : Int) v2 b2 from by rw [← HNB.out] at HW hw2; exact HW.out.back hw2)
        have HG2 := Lib.hid (show Gr ⟨wr, .slice av nb cv, nb⟩ gw w7 v2 b2.length from hw2.k)
        have HLE := Lib.hid hle
        have HRR := Lib.hid hr
        clear hr hw2 hle c3 g1
        have HP := Lib.hid (show prWs u8 (l.drop (k + 1)) false true deep m2 b2 lo = R from by
          rw [← HR2.out, HDR.out]
          conv => rhs; unfold prWs
          rw [HRR.out]
          rfl)
        have HL3 := Lib.hid (show lo = none from HL2.out.1.2 (by simp))
        have hkl3 : (k : Int) + 1 ≤ 1000 := by have := hkl2.out; omega
        go_wp2_with fail
        go_roundw
        case rel => exact ⟨k + 1, m2, v2, b2, la, ln, lc, lo, by have := hkl2.out; omega, by go_num, rfl, HW2, Lib.hid (by have h1 := HLE.out; have h2 := HM2.out; omega), Lib.hid (by have h1 := HLE.out; omega), HP, Lib.hid ⟨by rw [HL3.out]; simp, by rw [HL3.out]; simp⟩⟩
        case measure => have := hkl2.out; simp [intOf]; omega
    · have hke : k = l.length := by omega
      subst hke
      have hkI : ¬ ((l.length : Nat) : Int) < (l.length : Int) := by omega
      have HP := Lib.hid (show R = some (m', b') from by rw [← HR2.out, List.drop_length]; unfold prWs; rfl)
      go_wp2_with fail
      refine bodyPost_ret (results_noneW rfl) rfl ?_
      rw [HP.out]
      exact ⟨rfl, _, HW.out⟩
set_option maxHeartbeats 4000000 in
set_option maxRecDepth 1000000 in
theorem list_5 (u8 : List UInt8 → Bool) (w0 : World) (gw bo oo deep n : Nat) (d : List UInt8) (l : List It) (hit : ItP w0 bo oo (.mk 5 n d l)) (hd : deep ≤ 16) (hI : itemOk u8 w0 gw deep l) : listOk u8 w0 gw bo oo deep 5 l := by
  intro q w m v b h hm hb
  show Calls Tryd.prog 18 _ w (itPost q w0 gw (prWs u8 l true true deep m (b ++ headW 5 (l.length / 2)) none))
  have H := Lib.hid h
  have HI := Lib.hid hit
  have HO := Lib.hid hI
  have HB := Lib.hid hb
  have HM := Lib.hid hm
  have HD := Lib.hid hd
  have hdI : (deep : Int) ≤ 16 := by omega
  obtain ⟨da, dc, la0, lc0, ⟨c0w, -, -, c3w⟩, -, -, -, hll, hlst⟩ := hit.open
  have C0 := Lib.hid c0w
  have C3 := Lib.hid c3w
  have c0 := h.f.cell id c0w
  have c3 := h.f.cell id c3w
  have HLL := Lib.hid hll
  have HLS := Lib.hid hlst
  have hlI : (l.length : Int) ≤ 1000 := by omega
  clear h hit hI hb hm hd hll hlst c0w c3w HI
  obtain ⟨R, hR⟩ : ∃ R, prWs u8 l true true deep m (b ++ headW 5 (l.length / 2)) none = R := ⟨_, rfl⟩
  rw [hR]
  have HR := Lib.hid hR
  clear hR
  go_enter Tryd.func18, Tryd.ntmps18
  go_wp2_with fail
  refine (head_any q w0 w gw 5 (l.length / 2) m v b H.out (by decide) (by have := HLL.out; omega) (by have := HB.out; have := HD.out; omega)).mono ?_
  rintro e w1 ⟨rfl, v1, hw1⟩
  have HW1 := Lib.hid hw1
  clear c0 c3
  have d3 := hw1.f.cell id C3.out
  clear hw1
  go_wp2_with fail
  clear d3
  go_loopw [38, 8] (fun kv lv wr => ∃ (k m' : Nat) (v' : Value) (b' : List UInt8) (la : Option Addr) (ln lc : Nat) (lo : Option (List UInt8)), k ≤ l.length ∧ kv = .int .i64 (k : Int) ∧ lv = .slice la ln lc ∧ Hid (WrS q w0 wr gw (m' : Int) v' b') ∧ Hid (m' ≤ 4096) ∧ Hid (b'.length ≤ 65536 + 9 * (deep + 1)) ∧ Hid (prWs u8 (l.drop k) true (k % 2 == 0) deep m' b' lo = R) ∧ Hid ((lo = none ↔ k = 0 ∨ true = false) ∧ ∀ x, lo = some x → ln = x.length ∧ WrP wr gw v' b'.length la x.length x)) (fun kv _ _ => l.length - (intOf kv).toNat)
  case atStart =>
    refine ⟨0, m, v1, _, none, 0, 0, none, by omega, rfl, rfl, HW1, HM, Lib.hid (by have h1 := headW_len 5 (l.length / 2); have h2 := HB.out; rw [List.length_append]; omega), HR, Lib.hid ⟨by simp, by simp⟩⟩
  case round =>
    obtain ⟨k, m', v', b', la, ln, lc, lo, hk, rfl, rfl, HW, HM2, HB2, HR2, HL2⟩ := hrel
    rcases Nat.lt_or_ge k l.length with hkl | hkl
    · have hkI : (k : Int) < (l.length : Int) := by omega
      have hk0 : (0 : Int) ≤ (k : Int) := by omega
      obtain ⟨t, ht⟩ : ∃ t, l[k]? = some t := ⟨l[k], List.getElem?_eq_getElem hkl⟩
      have hdrop : l.drop k = t :: l.drop (k + 1) := by
        obtain ⟨hk2, e⟩ := List.getElem?_eq_some_iff.1 ht
        rw [← e]; exact List.drop_eq_getElem_cons hk2
      have HT := Lib.hid ht
      have HDR := Lib.hid hdrop
      obtain ⟨av, cv, rfl, hcv, -⟩ := id HW.out.o.form
      have HCV := Lib.hid hcv
      have g1 := HW.out.h.cell (i := 1) rfl
      have c3 := HW.out.f.cell id C3.out
      obtain ⟨lb, lof, rfl, hits⟩ := HLS.out.resolve_left (fun h => by subst h; simp at hkl)
      have hit0 := hits.at ht
      rw [Nat.mul_comm] at hit0
      have HIT := Lib.hid hit0
      have HIN := Lib.hid (show itPost q w0 gw R = itPost q w0 gw R from rfl)
      clear hits ht hdrop hcv hit0 HIN
      generalize hnb : b'.length = nb at *
      have HNB := Lib.hid hnb
      clear hnb hk
      have hkl2 := Lib.hid hkl
      clear hkl
      go_wp2_with fail
      refine (HO.out k t HT.out ⟨wr, .slice av nb cv, nb⟩ wr m' _ b' lb (lof + k * 4) HIT.out (by rw [← HNB.out] at HW ⊢; exact HW.out.re) HM2.out (by rw [HNB.out]; exact HB2.out)).mono ?_
      intro e w7 h7
      cases hr : prW u8 t (deep + 1) m' b' with
      | none =>
        rw [hr] at h7
        obtain ⟨rfl, hf7⟩ := h7
        have HF := Lib.hid (show WrX q w0 w7 gw from by rw [← HNB.out] at HW hf7; obtain ⟨_, _, _, h9⟩ := hf7; exact ⟨_, _, _, HW.out.back h9⟩)
        have HP := Lib.hid (show R = none from by rw [← HR2.out, HDR.out]; unfold prWs; rw [hr])
        clear hr hf7
        unfold brokenW
        exact ⟨rfl, itPost_none HP.out HF.out⟩
      | some r =>
        obtain ⟨m2, b2⟩ := r
        rw [hr] at h7
        obtain ⟨rfl, v2, hw2⟩ := h7
        have hle := prW_le u8 t (deep + 1) m' b' m2 b2 hr
        have HW2 := Lib.hid (show WrS q w0 w7 gw (m2 : Int) v2 b2 from by rw [← HNB.out] at HW hw2; exact HW.out.back hw2)
        have HG2 := Lib.hid (show Gr ⟨wr, .slice av nb cv, nb⟩ gw w7 v2 b2.length from hw2.k)
        have HLE := Lib.hid hle
        have HRR := Lib.hid hr
        clear hr hw2 hle c3 g1
        have HK1 := Lib.hid (show k + 1 ≤ 1000 by have := hkl2.out; omega)
        have hkl3 : (k : Int) + 1 ≤ 1000 := by have := hkl2.out; omega
        rcases Nat.mod_two_eq_zero_or_one k with hp | hp
        · have hp2 : ((k : Int) % 2) = 0 := by omega
          have hpB : decide ((0 : Int) < (k : Int) % 2) = false := decide_eq_false (by omega)
          have HP0 := Lib.hid (show ((k % 2 == 0) = true) ∧ (((k + 1) % 2 == 0) = false) by constructor <;> simp <;> omega)
          clear hp
          have hle2 : nb ≤ b2.length := by have := HLE.out.2.2; rwa [HNB.out] at this
          have HW3 := HW2
          obtain ⟨a2, c2, rfl, hc2, -⟩ := id HW2.out.o.form
          have HFROM := Lib.hid (HW2.out.from hle2)
          have HLN := Lib.hid (List.length_drop (i := nb) (l := b2))
          have g2 := HW2.out.h.cell (i := 1) rfl
          generalize hnb2 : b2.length = nb2 at *
          have HNB2 := Lib.hid hnb2
          have k1 := fun wx => run_slice3 (P := Tryd.prog) wx Tryd.underlying24 size_u8W a2 nb2 c2 .i64 nb nb2 nb2 hle2 (Nat.le_refl _) hc2
          have HLE2 := Lib.hid hle2
          clear hnb2 hle2 hc2 HW3
          go_wp2_with fail
          go_quiet (fail)
          clear k1 g2
          generalize hs : b2.drop nb = s at *
          have HS := Lib.hid hs
          clear hs
          have HFQ := Lib.hid ((Fr.refl Nob w7).drewN nq)
          generalize w7.drewN nq = wq at *
          by_cases hz : k = 0
          · have hzB : ((k : Int) == 0) = true := by simp [hz]
            have HL3 := Lib.hid (show lo = none from HL2.out.1.2 (.inl hz))
            have HP := Lib.hid (show prWs u8 (l.drop (k + 1)) true ((k + 1) % 2 == 0) deep m2 b2 (some s) = R from by
              rw [← HR2.out, HDR.out, HP0.out.1, HP0.out.2]
              conv => rhs; unfold prWs
              rw [HRR.out, HL3.out]
              simp only [HNB.out, HS.out, Bool.and_self, if_true, Option.all_none])
            clear hz
            go_wp2_with fail
            refine (must_ok _).mono ?_
            rintro e w9 ⟨rfl, rfl⟩
            go_wp2_with fail
            go_roundw
            case rel => exact ⟨k + 1, m2, _, b2, _, _, _, some s, by have := hkl2.out; omega, by go_num, rfl, Lib.hid (HW2.out.still HFQ.out), Lib.hid (by have h1 := HLE.out; have h2 := HM2.out; omega), Lib.hid (by rw [HNB2.out]; have h1 := HLE.out; omega), HP, Lib.hid ⟨by simp, fun x hx => by
              cases hx
              refine ⟨HLN.out.symm, ?_⟩
              rw [HNB2.out]
              exact ⟨HFROM.out.1.still HFQ.out, HFROM.out.2⟩⟩⟩
            case measure => have := hkl2.out; simp [intOf]; omega
          · have hzB : ((k : Int) == 0) = false := by rw [beq_eq_false_iff_ne]; omega
            obtain ⟨x, hx⟩ : ∃ x, lo = some x := by
              cases hlo : lo with
              | none => have := HL2.out.1.1 hlo; simp at this; exact absurd this hz
              | some x => exact ⟨x, rfl⟩
            obtain ⟨hln, hwp⟩ := HL2.out.2 x hx
            have hw9 := HG2.out.rd la x.length x hwp
            have HWP := Lib.hid hw9
            have HX := Lib.hid hx
            subst hln
            clear hwp hw9 hx hz
            have hC := Compare_any x s la (cutAt a2 nb nb2) x.length (nb2 - nb) lc (nb2 - nb) wq (HWP.out.1.still HFQ.out) (by rw [← HLN.out]; exact HFROM.out.1.still HFQ.out)
            obtain ⟨cv9, hcv9⟩ : ∃ cv9, Lib.compareBytes x s = cv9 := ⟨_, rfl⟩
            have HC9 := Lib.hid (cmp_ltW x s)
            rw [hcv9] at hC HC9
            clear hcv9
            go_wp2_with fail
            refine hC.mono ?_
            rintro e w9 ⟨rfl, rfl⟩
            clear hC
            by_cases hlt : cv9 < 0
            · have hltB : decide (cv9 < 0) = true := decide_eq_true hlt
              have HLT := Lib.hid (HC9.out.1 hlt)
              have HP := Lib.hid (show prWs u8 (l.drop (k + 1)) true ((k + 1) % 2 == 0) deep m2 b2 (some s) = R from by
                rw [← HR2.out, HDR.out, HP0.out.1, HP0.out.2]
                conv => rhs; unfold prWs
                rw [HRR.out, HX.out]
                simp only [HNB.out, HS.out, Bool.and_self, if_true, Option.all_some, HLT.out])
              clear HC9
              go_wp2_with fail
              refine (must_ok _).mono ?_
              rintro e w9 ⟨rfl, rfl⟩
              go_wp2_with fail
              go_roundw
              case rel => exact ⟨k + 1, m2, _, b2, _, _, _, some s, by have := hkl2.out; omega, by go_num, rfl, Lib.hid (HW2.out.still HFQ.out), Lib.hid (by have h1 := HLE.out; have h2 := HM2.out; omega), Lib.hid (by rw [HNB2.out]; have h1 := HLE.out; omega), HP, Lib.hid ⟨by simp, fun x hx => by
                cases hx
                refine ⟨HLN.out.symm, ?_⟩
                rw [HNB2.out]
                exact ⟨HFROM.out.1.still HFQ.out, HFROM.out.2⟩⟩⟩
              case measure => have := hkl2.out; simp [intOf]; omega
            · have hltB : decide (cv9 < 0) = false := decide_eq_false hlt
              have HLT := Lib.hid (show ltW x s = false by
                cases h : ltW x s with
                | false => rfl
                | true => exact absurd (HC9.out.2 h) hlt)
              have HP := Lib.hid (show R = none from by
                rw [← HR2.out, HDR.out, HP0.out.1]
                unfold prWs
                rw [HRR.out, HX.out]
                simp only [HNB.out, HS.out, Bool.and_self, if_true, Option.all_some, HLT.out]
                rfl)
              have HF := Lib.hid (show WrX q w0 _ gw from ⟨_, _, _, HW2.out.still HFQ.out⟩)
              clear HC9
              go_wp2_with fail
              refine (must_no _).mono ?_
              rintro e w9 ⟨rfl, rfl⟩
              exact ⟨rfl, itPost_none HP.out HF.out⟩
        · have hp2 : ((k : Int) % 2) = 1 := by omega
          have hpB : decide ((0 : Int) < (k : Int) % 2) = true := decide_eq_true (by omega)
          have HP0 := Lib.hid (show ((k % 2 == 0) = false) ∧ (((k + 1) % 2 == 0) = true) by constructor <;> simp <;> omega)
          have HKN := Lib.hid (show k ≠ 0 by omega)
          clear hp
          have HP := Lib.hid (show prWs u8 (l.drop (k + 1)) true ((k + 1) % 2 == 0) deep m2 b2 lo = R from by
            rw [← HR2.out, HDR.out, HP0.out.1, HP0.out.2]
            conv => rhs; unfold prWs
            rw [HRR.out]
            rfl)
          go_wp2_with fail
          go_roundw
          case rel => exact ⟨k + 1, m2, v2, b2, la, ln, lc, lo, by have := hkl2.out; omega, by go_num, rfl, HW2, Lib.hid (by have h1 := HLE.out; have h2 := HM2.out; omega), Lib.hid (by have h1 := HLE.out; omega), HP, Lib.hid ⟨by have h1 := HL2.out.1; have h2 := HKN.out; simp [h2] at h1; simp [h1], fun x hx => ⟨(HL2.out.2 x hx).1, HG2.out.rd _ _ _ (HL2.out.2 x hx).2⟩⟩⟩
          case measure => have := hkl2.out; simp [intOf]; omega
    · have hke : k = l.length := by omega
      subst hke
      have hkI : ¬ ((l.length : Nat) : Int) < (l.length : Int) := by omega
      have HP := Lib.hid (show R = some (m', b') from by rw [← HR2.out, List.drop_length]; unfold prWs; rfl)
      go_wp2_with fail
      refine bodyPost_ret (results_noneW rfl) rfl ?_
      rw [HP.out]
      exact ⟨rfl, _, HW.out⟩
end Go.Proofs.YtdadnajbdnbbdaaDoor

/- wire: items and lists of any depth; guard; Print. -/
namespace Go.Proofs.YtdadnajbdnbbdaaDoor
open Go.RowKit Go.Mv Mvp
def itemT (u8 : List UInt8 → Bool) (w0 : World) (gw : Nat) (t : It) : Prop := ∀ (deep : Nat) (q : Gh) (w : World) (m : Nat) (v : Value) (b : List UInt8) (bo oo : Nat), ItP w0 bo oo t → WrS q w0 w gw (m : Int) v b → m ≤ 4096 → deep ≤ 17 → b.length ≤ 65536 + 9 * deep →
    Calls Tryd.prog 10 #[.pointer (some ⟨gw, 0, none⟩), .pointer (some ⟨bo, oo, none⟩), .int .i64 (deep : Int)] w (itPost q w0 gw (prW u8 t deep m b))
theorem prW_zero {u8 : List UInt8 → Bool} {t : It} {deep : Nat} {b : List UInt8} : prW u8 t deep 0 b = none := by
  cases t; unfold prW; rw [if_pos (.inl rfl)]
theorem prW_deep {u8 : List UInt8 → Bool} {t : It} {deep m : Nat} {b : List UInt8} (h : 16 < deep) : prW u8 t deep m b = none := by
  cases t; unfold prW; rw [if_pos (.inr (.inl h))]
set_option maxHeartbeats 4000000 in
set_option maxRecDepth 1000000 in
theorem item_zero (u8 : List UInt8 → Bool) (q : Gh) (w0 w : World) (gw bo oo deep : Nat) (t : It) (v : Value) (b : List UInt8) (h : WrS q w0 w gw 0 v b) :
    Calls Tryd.prog 10 #[.pointer (some ⟨gw, 0, none⟩), .pointer (some ⟨bo, oo, none⟩), .int .i64 (deep : Int)] w (itPost q w0 gw (prW u8 t deep 0 b)) := by
  have hc := one_zero q w0 w gw (deep : Int) v b h
  clear h
  go_enter Tryd.func10, Tryd.ntmps10
  go_wp2_with fail
  refine hc.mono ?_
  rintro e w' ⟨rfl, hf⟩
  unfold brokenW
  exact ⟨rfl, itPost_none prW_zero hf⟩
set_option maxHeartbeats 4000000 in
set_option maxRecDepth 1000000 in
theorem item_deep (u8 : List UInt8 → Bool) (q : Gh) (w0 w : World) (gw bo oo deep m : Nat) (t : It) (v : Value) (b : List UInt8) (h : WrS q w0 w gw ((m : Int) + 1) v b) (hm : m ≤ 5000) (hd : 16 < deep) :
    Calls Tryd.prog 10 #[.pointer (some ⟨gw, 0, none⟩), .pointer (some ⟨bo, oo, none⟩), .int .i64 (deep : Int)] w (itPost q w0 gw (prW u8 t deep (m + 1) b)) := by
  have hc := one_deep q w0 w gw m deep v b h hm hd
  have HD := Lib.hid hd
  clear h hm hd
  go_enter Tryd.func10, Tryd.ntmps10
  go_wp2_with fail
  refine hc.mono ?_
  rintro e w' ⟨rfl, hf⟩
  unfold brokenW
  exact ⟨rfl, itPost_none (prW_deep HD.out) hf⟩
theorem item_step (u8 : List UInt8 → Bool) (w0 : World) (hV : VOk u8 w0) (gw : Nat) (k : Int) (n : Nat) (d : List UInt8) (l : List It) (ih : ∀ (i : Nat) (t : It), l[i]? = some t → itemT u8 w0 gw t) : itemT u8 w0 gw (.mk k n d l) := by
  intro deep q w m v b bo oo hit h hm hd hb
  cases m with
  | zero => exact item_zero u8 q w0 w gw bo oo deep _ v b h
  | succ m =>
    have h' : WrS q w0 w gw ((m : Int) + 1) v b := h
    rcases Nat.lt_or_ge 16 deep with hd16 | hd16
    · exact item_deep u8 q w0 w gw bo oo deep m _ v b h' (by omega) hd16
    · have hIt : itemOk u8 w0 gw deep l := fun i t ht q w m v b bo oo h1 h2 h3 h4 => ih i t ht (deep + 1) q w m v b bo oo h1 h2 h3 (by omega) h4
      have hL : shL k = true → listOk u8 w0 gw bo oo deep k l := by
        intro hk
        unfold shL at hk
        simp only [Bool.or_eq_true, beq_iff_eq] at hk
        rcases hk with rfl | rfl
        · exact list_4 u8 w0 gw bo oo deep n d l hit hd16 hIt
        · exact list_5 u8 w0 gw bo oo deep n d l hit hd16 hIt
      cases hk : shK k with
      | false => exact item_bad u8 q w0 w gw m deep bo oo v b k n d l hV hit hL h' (by omega) hd16 hb hk
      | true =>
        cases hf : fitF u8 k n d l.length with
        | false => exact item_F u8 q w0 w gw m deep bo oo v b k n d l hV hit hL h' (by omega) hd16 hb hk hf
        | true =>
          cases hN : shN k with
          | true =>
            obtain ⟨h1, h2⟩ := sh_excl.1 hN
            exact item_N u8 q w0 w gw m deep bo oo v b k n d l hV hit hL h' (by omega) hd16 hb hk hf hN h1 h2
          | false =>
            cases hD : shD k with
            | true =>
              obtain ⟨-, h2⟩ := sh_excl.2 hD
              exact item_D u8 q w0 w gw m deep bo oo v b k n d l hV hit hL h' (by omega) hd16 hb hk hf hN hD h2
            | false =>
              have h2 : shL k = true := by unfold shK at hk; rw [hN, hD] at hk; simpa using hk
              exact item_L u8 q w0 w gw m deep bo oo v b k n d l hV hit hL h' (by omega) hd16 hb hk hf hN hD h2
mutual
theorem item_rec (u8 : List UInt8 → Bool) (w0 : World) (hV : VOk u8 w0) (gw : Nat) : ∀ t : It, itemT u8 w0 gw t
  | .mk k n d l => item_step u8 w0 hV gw k n d l (items_rec u8 w0 hV gw l)
theorem items_rec (u8 : List UInt8 → Bool) (w0 : World) (hV : VOk u8 w0) (gw : Nat) : ∀ (l : List It) (i : Nat) (t : It), l[i]? = some t → itemT u8 w0 gw t
  | [], _, _, h => by simp at h
  | x :: ts, 0, t, h => by
    have e : x = t := by simpa using h
    subst e
    exact item_rec u8 w0 hV gw x
  | x :: ts, i + 1, t, h => items_rec u8 w0 hV gw ts i t (by simpa using h)
end
theorem ta_yes (w : World) : (Instr.typeAssert (.iface 48 (.agg #[])) 20 48 true).run Tryd.prog w = .ok (.tuple #[.agg #[], .bool true]) w := by kernel_rfl
theorem ta_no (w : World) : (Instr.typeAssert .nilIface 20 48 true).run Tryd.prog w = .ok (.tuple #[.agg #[], .bool false]) w := by kernel_rfl
set_option maxHeartbeats 4000000 in
set_option maxRecDepth 1000000 in
theorem catch_p (p : Addr) (c : Int) (w : World) (hc : (w.alloc (.cells #[] 48)).cell? p = some (.int .i64 c)) (hz : (w.alloc (.cells #[] 48)).frozen? p = false) :
    CallsD Tryd.prog 13 #[.pointer (some p)] (.panicking [{ v := .iface 48 (.agg #[]), recovered := false }]) w fun e u' w' =>
      e = .returned (.tuple #[]) ∧ u' = .panicking [{ v := .iface 48 (.agg #[]), recovered := true }] ∧ w' = (w.alloc (.cells #[] 48)).setCell p (.int .i64 2) := by
  refine callsD_of_wpS Tryd.func13 rfl fun c₀ cs hu => ?_
  have h1 := ta_yes
  apply wpS_seq
  apply wpS_region
  simp [wpOpsS, go_sem, recoverD, hu, Tryd.ntmps13, Exit.thenS, h1]
  apply wpS_seq
  apply wpS_region
  simp [wpOpsS, go_sem, Exit.thenS]
  refine wpS_cond (t := true) (by simp [Act.eval, Array.replicate]) ?_
  simp only [if_true]
  apply wpS_region
  simp [wpOpsS, go_sem, hc, hz, bodyPostS, results, Tryd.results13]
set_option maxHeartbeats 4000000 in
set_option maxRecDepth 1000000 in
theorem catch_i (p : Addr) (w : World) :
    CallsD Tryd.prog 13 #[.pointer (some p)] .returning w fun e u' w' => e = .returned (.tuple #[]) ∧ u' = .returning ∧ w' = w.alloc (.cells #[] 48) := by
  refine callsD_of_wpS Tryd.func13 rfl fun c₀ cs hu => ?_
  have h1 := ta_no
  apply wpS_seq
  apply wpS_region
  simp [wpOpsS, go_sem, recoverD, hu, Tryd.ntmps13, Exit.thenS, h1]
  apply wpS_seq
  apply wpS_region
  simp [wpOpsS, go_sem, Exit.thenS]
  refine wpS_cond (t := false) (by simp [Act.eval, Array.replicate]) ?_
  simp only [Bool.false_eq_true, if_false]
  refine wpS_of_wp (wp_skip ?_)
  cases c₀
  simp_all [bodyPostS, results, Tryd.results13]
end Go.Proofs.YtdadnajbdnbbdaaDoor

/- wire: guard; Print. -/
namespace Go.Proofs.YtdadnajbdnbbdaaDoor
open Go.RowKit Go.Mv Mvp
def gFn (pa pi : Addr) : Value := .func (.func 9) #[] #[.pointer (some pa), .pointer (some pi)]
set_option maxHeartbeats 4000000 in
set_option maxRecDepth 1000000 in
theorem guard_ok (pa pi : Addr) (w : World) (R : World → Prop)
    (h : Calls Tryd.prog 9 #[.pointer (some pa), .pointer (some pi)] (w.alloc (.cells #[.int .i64 0] 25)) fun e w' => e = .returned (.tuple #[]) ∧ R w' ∧ Has w' w.heap.size [.int .i64 0] 25) :
    Calls Tryd.prog 8 #[gFn pa pi] w fun e w' => e = .returned (.int .i64 0) ∧ ∃ w1, R w1 ∧ Has w1 w.heap.size [.int .i64 0] 25 ∧ Fr (One w.heap.size) w1 w' := by
  have hmf : ∀ (fn : Fn) (first cap : Array Value) (w : World), (Instr.makeFunc fn first cap).run Tryd.prog w = .ok (.func fn first cap) w := fun _ _ _ _ => rfl
  unfold gFn
  generalize hgc : w.heap.size = gc at *
  have HG := Lib.hid hgc
  go_enter_defers Tryd.func8, Tryd.ntmps8
  go_wp2_with fail
  refine h.mono ?_
  rintro e w1 ⟨rfl, hR, hh⟩
  have HH := Lib.hid hh
  have HR := Lib.hid hR
  have c0 := hh.cell (i := 0) rfl
  have f0 := hh.free 0 (by decide)
  clear hh hR h
  go_wp2_with fail
  refine leaves_cons (f := 13) (args := #[.pointer (some ⟨gc, 0, none⟩)]) (by simp) (by simp [go_sem]) ?_
  refine (catch_i ⟨gc, 0, none⟩ _).mono ?_
  rintro e u' w2 ⟨rfl, rfl, rfl⟩
  have hs := (HH.out.set 0 (.int .i64 0)).alloc (.cells #[] 48)
  have c1 := hs.cell (i := 0) (v := .int .i64 0) rfl
  have HF := Lib.hid (((Fr.refl (One gc) w1).setCell gc 0 none (.int .i64 0) fun _ => rfl).alloc (.cells #[] 48))
  clear hs
  simp [Leaves, settle, results, Tryd.results8, go_sem, c1]
  exact ⟨w1, HR.out, HH.out, HF.out⟩
set_option maxHeartbeats 4000000 in
set_option maxRecDepth 1000000 in
theorem guard_no (pa pi : Addr) (w : World) (R : World → Prop)
    (h : Calls Tryd.prog 9 #[.pointer (some pa), .pointer (some pi)] (w.alloc (.cells #[.int .i64 0] 25)) fun e w' => e = brokenW ∧ R w' ∧ Has w' w.heap.size [.int .i64 0] 25) :
    Calls Tryd.prog 8 #[gFn pa pi] w fun e w' => e = .returned (.int .i64 2) ∧ ∃ w1, R w1 ∧ Has w1 w.heap.size [.int .i64 0] 25 ∧ Fr (One w.heap.size) w1 w' := by
  have hmf : ∀ (fn : Fn) (first cap : Array Value) (w : World), (Instr.makeFunc fn first cap).run Tryd.prog w = .ok (.func fn first cap) w := fun _ _ _ _ => rfl
  unfold gFn
  generalize hgc : w.heap.size = gc at *
  have HG := Lib.hid hgc
  go_enter_defers Tryd.func8, Tryd.ntmps8
  go_wp2_with fail
  refine h.mono ?_
  rintro e w1 ⟨rfl, hR, hh⟩
  have HH := Lib.hid hh
  have HR := Lib.hid hR
  have ha := hh.alloc (.cells #[] 48)
  have c0 := ha.cell (i := 0) rfl
  have f0 := ha.free 0 (by decide)
  have hs := ha.set 0 (.int .i64 2)
  have c1 := hs.cell (i := 0) (v := .int .i64 2) rfl
  have HF := Lib.hid (((Fr.refl (One gc) w1).alloc (.cells #[] 48)).setCell gc 0 none (.int .i64 2) fun _ => rfl)
  clear hh hR h ha hs
  unfold brokenW
  refine leaves_cons (f := 13) (args := #[.pointer (some ⟨gc, 0, none⟩)]) (by simp) (by simp [go_sem]) ?_
  refine (catch_p ⟨gc, 0, none⟩ 0 w1 c0 f0).mono ?_
  rintro e u' w2 ⟨rfl, rfl, rfl⟩
  simp [Leaves, settle, results, Tryd.results8, go_sem, c1]
  exact ⟨w1, HR.out, HH.out, HF.out⟩
/-- Print's own closure -/
theorem run1_any (u8 : List UInt8 → Bool) (t : It) (w0 w : World) (hV : VOk u8 w0) (gw g4 gi : Nat) (hit : ItP w0 gi 0 t) (h4 : Has w g4 [.pointer (some ⟨gw, 0, none⟩)] 37) (q : Gh) (v : Value) (h : WrS q w0 w gw (4096 : Nat) v []) :
    Calls Tryd.prog 9 #[.pointer (some ⟨g4, 0, none⟩), .pointer (some ⟨gi, 0, none⟩)] w (itPost q w0 gw (prW u8 t 1 4096 [])) := by
  have hc := item_rec u8 w0 hV gw t 1 q w 4096 v [] gi 0 hit h (by omega) (by omega) (by simp)
  have c4 := h4.cell (i := 0) rfl
  clear hV hit h4 h
  generalize prW u8 t 1 4096 [] = r at *
  go_enter Tryd.func9, Tryd.ntmps9
  go_wp2_with fail
  refine hc.mono ?_
  intro e w' h
  cases r with
  | none =>
    obtain ⟨rfl, hf⟩ := h
    unfold brokenW
    exact ⟨rfl, rfl, hf⟩
  | some r =>
    obtain ⟨m, b⟩ := r
    obtain ⟨rfl, v', hw⟩ := h
    have HW := Lib.hid hw
    clear hw
    go_wp2_with fail
    refine bodyPost_ret (results_noneW rfl) rfl ?_
    exact ⟨rfl, v', HW.out⟩
theorem VOk.mono {u8 : List UInt8 → Bool} {w w' : World} (h : VOk u8 w) (hf : Fr Nob w w') : VOk u8 w' := fun a n c l wx h1 h2 h3 => h a n c l wx h1 h2 (hf.then h3)
/-- what Print answers -/
def prPost (w : World) : Option (Nat × List UInt8) → Ending → World → Prop
  | none, e, w' => e = .returned (.tuple #[.slice none 0 0, .int .i64 2]) ∧ Fr Nob w w'
  | some (_, b), e, w' => ∃ v, e = .returned (.tuple #[v, .int .i64 0]) ∧ Go.Mv.Own w' w.heap.size 5 1 v b.length (bs b) ∧ Fr Nob w w'
set_option maxHeartbeats 4000000 in
set_option maxRecDepth 1000000 in
theorem Print_any (u8 : List UInt8 → Bool) (t : It) (vs : List Value) (w : World) (hV : VOk u8 w) (hvs : vs.length = 4) (hit : ItV w vs t) :
    Calls Tryd.prog 5 #[.agg vs.toArray] w (prPost w (prW u8 t 1 4096 [])) := by
  obtain ⟨x0, x1, x2, x3, rfl⟩ : ∃ x0 x1 x2 x3, vs = [x0, x1, x2, x3] := by
    match vs, hvs with
    | [a, b, c, d], _ => exact ⟨a, b, c, d, rfl⟩
  have HV := Lib.hid hV
  have HI := Lib.hid hit
  have hmf : ∀ (fn : Fn) (first cap : Array Value) (w : World), (Instr.makeFunc fn first cap).run Tryd.prog w = .ok (.func fn first cap) w := fun _ _ _ _ => rfl
  clear hV hit hvs
  have st0 := St.start Nob w
  go_enter Tryd.func5, Tryd.ntmps5
  go_wp2_with (with_reducible refine wl_stop (o := ⟨some 1, _, _, _, _, _⟩) ?_)
  unfold Stop
  refine wl_boxS st0 rfl rfl rfl [x0, x1, x2, x3] rfl ?_
  intro gi w1 st1
  clear st0
  have HI1 := Lib.hid (show ItP w1 gi 0 t from ⟨_, fun i v hv => by rw [Nat.zero_add]; exact (st1.at 0 rfl).cell hv, ItV.still t HI.out st1.fr⟩)
  have st1' := St.start Nob w1
  go_wp2_with (with_reducible refine wl_stop (o := ⟨some 6, _, _, _, _, _⟩) ?_)
  unfold Stop
  refine wl_build rfl rfl #[.int .i64 4096] (by kernel_rfl) ?_
  refine wl_build rfl rfl #[.int .i64 4096, .slice none 0 0] (by kernel_rfl) ?_
  refine wl_boxS st1' rfl rfl rfl [.int .i64 4096, .slice none 0 0] rfl ?_
  intro gw w2 st2
  clear st1'
  refine wl_allocS st2 rfl rfl (z := .pointer none) (by kernel_rfl) [.pointer none] rfl ?_
  intro g4 w3 st3
  clear st2
  have h34 := st3.at 1 rfl
  obtain ⟨u4, cu4, fu4⟩ := h34.ready (i := 0) (by simp)
  have st4 := Lib.hid (st3.set 1 rfl 0 (.pointer (some ⟨gw, 0, none⟩)))
  have HST1 := Lib.hid st1
  clear st3 h34 st1
  go_wp2_with fail
  obtain ⟨w4, hw4⟩ : ∃ w4, w3.setCell ⟨g4, 0, none⟩ (.pointer (some ⟨gw, 0, none⟩)) = w4 := ⟨_, rfl⟩
  rw [hw4] at st4 ⊢
  have S4 : St Nob w1 w4 [(gw, [.int .i64 4096, .slice none 0 0], 41), (g4, [.pointer (some ⟨gw, 0, none⟩)], 37)] := st4.out
  have ha : Fr Nob w4 (w4.alloc (.cells #[.int .i64 0] 25)) := (Fr.refl Nob w4).alloc _
  have S5 := S4.keep ha
  have hgc : Has (w4.alloc (.cells #[.int .i64 0] 25)) w4.heap.size [.int .i64 0] 25 := Has.new w4 #[.int .i64 0] _
  have hrun := run1_any u8 t w1 (w4.alloc (.cells #[.int .i64 0] 25)) (HV.out.mono HST1.out.fr) gw g4 gi HI1.out (S5.at 1 rfl) ⟨w4.alloc (.cells #[.int .i64 0] 25), .slice none 0 0, 0⟩ (.slice none 0 0) ⟨S5.at 0 rfl, Own.nil _ _ _ _, S5.fr, (S5.own (gw, [.int .i64 4096, .slice none 0 0], 41) (by simp)).resolve_right id, Gr.refl _ _ _ _⟩
  have hne : g4 ≠ gw := (S4.neAt (i := 1) (j := 0) rfl rfl (by omega))
  have hl4 := (S4.at 1 rfl).lt
  have hlw := (S4.at 0 rfl).lt
  have HB := Lib.hid (show ∀ w', WrX ⟨w4.alloc (.cells #[.int .i64 0] 25), .slice none 0 0, 0⟩ w1 w' gw → Has w' w4.heap.size [.int .i64 0] 25 ∧ Has w' g4 [.pointer (some ⟨gw, 0, none⟩)] 37 from fun w' ⟨_, _, _, h⟩ => by
    have b1 := h.k.blk w4.heap.size hgc.lt (by omega) (fun e => by cases e)
    have b2 := h.k.blk g4 (S5.at 1 rfl).lt hne (fun e => by cases e)
    obtain ⟨x1, y1, e1, k1⟩ := hgc
    obtain ⟨x2, y2, e2, k2⟩ := S5.at 1 rfl
    exact ⟨⟨x1, y1, b1.1.trans e1, k1⟩, ⟨x2, y2, b2.1.trans e2, k2⟩⟩)
  have HGC := Lib.hid hgc
  have HL := Lib.hid (And.intro hl4 (And.intro hlw hne))
  have HFW := Lib.hid HST1.out.fr
  clear S5 S4 st4 hw4 ha hgc HST1 HI1 HV HI cu4 fu4 hl4 hlw hne
  generalize hr : prW u8 t 1 4096 [] = r at *
  clear hr
  cases r with
  | none =>
    refine (guard_no ⟨g4, 0, none⟩ ⟨gi, 0, none⟩ w4 (fun w' => WrX ⟨w4.alloc (.cells #[.int .i64 0] 25), .slice none 0 0, 0⟩ w1 w' gw) (hrun.mono fun e w' h => ⟨h.1, h.2, (HB.out w' h.2).1⟩)).mono ?_
    rintro e w6 ⟨rfl, w5, hx, -, hf⟩
    have HF := Lib.hid (show Fr Nob w w6 from by
      obtain ⟨_, _, _, h⟩ := hx
      have h1 := HFW.out.then h.f
      refine h1.trans hf fun i hi e => ?_
      have e2 : i = w4.heap.size := e
      have := HFW.out.size
      have := HL.out.2.1
      have := h.g
      omega)
    clear hx hf hrun
    go_wp2_with fail
    go_ret2
    exact ⟨rfl, HF.out⟩
  | some r =>
    obtain ⟨m, b⟩ := r
    refine (guard_ok ⟨g4, 0, none⟩ ⟨gi, 0, none⟩ w4 (fun w' => ∃ v, WrS ⟨w4.alloc (.cells #[.int .i64 0] 25), .slice none 0 0, 0⟩ w1 w' gw (m : Int) v b) (hrun.mono fun e w' h => ⟨h.1, h.2, (HB.out w' (by obtain ⟨v, h⟩ := h.2; exact ⟨_, _, _, h⟩)).1⟩)).mono ?_
    rintro e w6 ⟨rfl, w5, ⟨v, hx⟩, hcd, hf⟩
    have h4 := (HB.out w5 ⟨_, _, _, hx⟩).2.keep hf (fun e => by have e2 : g4 = w4.heap.size := e; have := HL.out.1; omega)
    have hw := hx.h.keep hf (fun e => by have e2 : gw = w4.heap.size := e; have := HL.out.2.1; omega)
    have hnv : ¬ OwnB v w4.heap.size := (hx.k.blk w4.heap.size HGC.out.lt (by have := HL.out.2.1; omega) (fun e => by cases e)).2
    have HO := Lib.hid (hx.o.keep hf fun k hk e => hnv (by have e2 : k = w4.heap.size := e; exact e2 ▸ hk))
    have HF := Lib.hid (show Fr Nob w w6 from by
      have h1 := HFW.out.then hx.f
      refine h1.trans hf fun i hi e => ?_
      have e2 : i = w4.heap.size := e
      have := HFW.out.size
      have := HL.out.2.1
      have := hx.g
      omega)
    have HOB := Lib.hid HFW.out.size
    have c4 := h4.cell (i := 0) rfl
    have c5 := hw.cell (i := 1) rfl
    clear hx hf hrun h4 hw hnv hcd
    go_wp2_with fail
    go_ret2
    exact ⟨v, rfl, HO.out.mono HOB.out, HF.out⟩
end Go.Proofs.YtdadnajbdnbbdaaDoor

/- utf8.word of bytes (printed by gen_wp11.py). -/
namespace Go.Mv
open Go.RowKit Mvp
theorem RdB.cut {w : World} {a : Option Addr} {n k : Nat} {l : List UInt8} (h : RdB w a n l) (hk : k ≤ n) : RdB w (cutAt a k n) (n - k) (l.drop k) := by
  have hl := h.len
  rcases Nat.lt_or_ge k n with hlt | hge
  · obtain ⟨g, o, rfl, hat⟩ := Rd.at h (by omega)
    have hcut : cutAt (some ⟨g, o, none⟩) k n = some ⟨g, o + k, none⟩ := by
      unfold cutAt; rw [if_neg (by omega)]; simp [addr_add]
    rw [hcut]
    refine ⟨by rw [length_bs, List.length_drop]; omega, .inr ⟨g, o + k, rfl, fun i u hu => ?_⟩⟩
    rw [Nat.add_assoc]
    refine hat (k + i) u ?_
    rw [← bs_drop, List.getElem?_drop] at hu
    exact hu
  · have e : l.drop k = [] := List.drop_eq_nil_of_le (by omega)
    have e2 : n - k = 0 := by omega
    rw [e, e2]
    exact RdB.nil _ _
theorem RdB.cellAt {w : World} {g o n i : Nat} {l : List UInt8} (h : RdB w (some ⟨g, o, none⟩) n l) (hi : i < n) : w.cell? ⟨g, o + i, none⟩ = some (.int .u8 ((l.getD i 0).toNat : Int)) := by
  obtain ⟨b, o', e, hc⟩ := RdB.at h (by omega)
  cases e
  exact hc i hi
theorem take8L (l : List UInt8) (h : 8 ≤ l.length) : l.take 8 = [l.getD 0 0, l.getD 1 0, l.getD 2 0, l.getD 3 0, l.getD 4 0, l.getD 5 0, l.getD 6 0, l.getD 7 0] := by
  match l, h with
  | a0 :: a1 :: a2 :: a3 :: a4 :: a5 :: a6 :: a7 :: r, _ => simp
theorem mixLow (x : UInt64) (y : UInt8) (k : Nat) (hk : k + 8 ≤ 64) (hx : x.toNat < 2 ^ k) : (wo x (shl (wid y) k)).toNat = x.toNat + y.toNat * 2 ^ k := by
  have hy := y.toNat_lt
  have h1 : y.toNat * 2 ^ k < 18446744073709551616 := by
    have h2 : y.toNat * 2 ^ k < 2 ^ 8 * 2 ^ k := Nat.mul_lt_mul_of_pos_right (by simpa using hy) (Nat.two_pow_pos k)
    rw [← Nat.pow_add] at h2
    have h3 : 2 ^ (8 + k) ≤ 2 ^ 64 := Nat.pow_le_pow_right (by omega) (by omega)
    omega
  have e : (wo x (shl (wid y) k)).toNat = x.toNat ||| (y.toNat * 2 ^ k) := by
    have := shl_toNat (wid y) k
    rw [wid_toNat, Nat.mod_eq_of_lt h1] at this
    rw [← this]; simp [wo]
  rw [e, Nat.or_comm, Nat.mul_comm, ← Nat.two_pow_add_eq_or_of_lt hx]
  omega
theorem mix8 (x0 x1 x2 x3 x4 x5 x6 x7 : UInt8) : (wo (wo (wo (wo (wo (wo (wo (wid x0) (shl (wid x1) 8)) (shl (wid x2) 16)) (shl (wid x3) 24)) (shl (wid x4) 32)) (shl (wid x5) 40)) (shl (wid x6) 48)) (shl (wid x7) 56)).toNat = Lib.leNat [x0, x1, x2, x3, x4, x5, x6, x7] := by
  have h0 := x0.toNat_lt
  have h1 := x1.toNat_lt
  have h2 := x2.toNat_lt
  have h3 := x3.toNat_lt
  have h4 := x4.toNat_lt
  have h5 := x5.toNat_lt
  have h6 := x6.toNat_lt
  have e0 : (wid x0).toNat = x0.toNat := wid_toNat x0
  have e1 := mixLow (wid x0) x1 8 (by omega) (by rw [e0]; omega)
  have e2 := mixLow _ x2 16 (by omega) (show (wo (wid x0) (shl (wid x1) 8)).toNat < 2 ^ 16 by rw [e1, e0]; omega)
  have e3 := mixLow _ x3 24 (by omega) (show (wo (wo (wid x0) (shl (wid x1) 8)) (shl (wid x2) 16)).toNat < 2 ^ 24 by rw [e2, e1, e0]; omega)
  have e4 := mixLow _ x4 32 (by omega) (show (wo (wo (wo (wid x0) (shl (wid x1) 8)) (shl (wid x2) 16)) (shl (wid x3) 24)).toNat < 2 ^ 32 by rw [e3, e2, e1, e0]; omega)
  have e5 := mixLow _ x5 40 (by omega) (show (wo (wo (wo (wo (wid x0) (shl (wid x1) 8)) (shl (wid x2) 16)) (shl (wid x3) 24)) (shl (wid x4) 32)).toNat < 2 ^ 40 by rw [e4, e3, e2, e1, e0]; omega)
  have e6 := mixLow _ x6 48 (by omega) (show (wo (wo (wo (wo (wo (wid x0) (shl (wid x1) 8)) (shl (wid x2) 16)) (shl (wid x3) 24)) (shl (wid x4) 32)) (shl (wid x5) 40)).toNat < 2 ^ 48 by rw [e5, e4, e3, e2, e1, e0]; omega)
  have e7 := mixLow _ x7 56 (by omega) (show (wo (wo (wo (wo (wo (wo (wid x0) (shl (wid x1) 8)) (shl (wid x2) 16)) (shl (wid x3) 24)) (shl (wid x4) 32)) (shl (wid x5) 40)) (shl (wid x6) 48)).toNat < 2 ^ 56 by rw [e6, e5, e4, e3, e2, e1, e0]; omega)
  rw [e7, e6, e5, e4, e3, e2, e1, e0]
  simp only [Lib.leNat]
  omega
/-- the number that eight bytes spell -/
def w8 (l : List UInt8) : Nat := Lib.leNat (l.take 8)
theorem w8_lt (l : List UInt8) : w8 l < 18446744073709551616 := by
  unfold w8
  have h := Lib.leNat_lt (l.take 8)
  have h2 : (l.take 8).length ≤ 8 := by rw [List.length_take]; omega
  have h3 : 256 ^ (l.take 8).length ≤ 256 ^ 8 := Nat.pow_le_pow_right (by omega) h2
  omega
theorem w8_asc (l : List UInt8) (h : 8 ≤ l.length) : w8 l &&& 9259542123273814144 = 0 ↔ ∀ b ∈ l.take 8, b.toNat < 128 := by
  have h8 : (l.take 8).length = 8 := by rw [List.length_take]; omega
  have := Lib.leNat_mask (l.take 8)
  rw [h8, Lib.maskN8] at this
  exact this
end Go.Mv
namespace Go.Proofs.YtdadnajbdnbbdaaDoor
open Go.RowKit Go.Mv Mvp
set_option maxHeartbeats 8000000 in
set_option maxRecDepth 1000000 in
theorem word_any (a : Option Addr) (n c : Nat) (l : List UInt8) (w : World) (h : RdB w a n l) (h8 : 8 ≤ n) :
    Calls Tryd.prog 27 #[.slice a n c] w fun e w' => e = .returned (.int .u64 (w8 l : Int)) ∧ ∃ q, w' = w.drewN q := by
  obtain ⟨g, o, rfl, -⟩ := RdB.at h (by omega)
  have hl := h.len
  have hw : w8 l = Lib.leNat [l.getD 0 0, l.getD 1 0, l.getD 2 0, l.getD 3 0, l.getD 4 0, l.getD 5 0, l.getD 6 0, l.getD 7 0] := by unfold w8; rw [take8L l (by omega)]
  rw [hw]
  have c0 : w.cell? ⟨g, o, none⟩ = some (.int .u8 ((l.getD 0 0).toNat : Int)) := h.cellAt (i := 0) (by omega)
  have c1 := h.cellAt (i := 1) (by omega)
  have c2 := h.cellAt (i := 2) (by omega)
  have c3 := h.cellAt (i := 3) (by omega)
  have c4 := h.cellAt (i := 4) (by omega)
  have c5 := h.cellAt (i := 5) (by omega)
  have c6 := h.cellAt (i := 6) (by omega)
  have c7 := h.cellAt (i := 7) (by omega)
  clear hw h hl
  generalize l.getD 0 0 = x0 at *
  have h0 : x0.toNat < 256 := x0.toNat_lt
  generalize l.getD 1 0 = x1 at *
  have h1 : x1.toNat < 256 := x1.toNat_lt
  generalize l.getD 2 0 = x2 at *
  have h2 : x2.toNat < 256 := x2.toNat_lt
  generalize l.getD 3 0 = x3 at *
  have h3 : x3.toNat < 256 := x3.toNat_lt
  generalize l.getD 4 0 = x4 at *
  have h4 : x4.toNat < 256 := x4.toNat_lt
  generalize l.getD 5 0 = x5 at *
  have h5 : x5.toNat < 256 := x5.toNat_lt
  generalize l.getD 6 0 = x6 at *
  have h6 : x6.toNat < 256 := x6.toNat_lt
  generalize l.getD 7 0 = x7 at *
  have h7 : x7.toNat < 256 := x7.toNat_lt
  have q0 : (0 : Int) < (n : Int) := by omega
  have q1 : (1 : Int) < (n : Int) := by omega
  have q2 : (2 : Int) < (n : Int) := by omega
  have q3 : (3 : Int) < (n : Int) := by omega
  have q4 : (4 : Int) < (n : Int) := by omega
  have q5 : (5 : Int) < (n : Int) := by omega
  have q6 : (6 : Int) < (n : Int) := by omega
  have q7 : (7 : Int) < (n : Int) := by omega
  clear h8
  go_enter Tryd.func27, Tryd.ntmps27
  go_wp2_with fail
  go_quiet (fail)
  go_wp2_with fail
  go_ret
  exact ⟨by rw [← mix8]; rfl, _, rfl⟩
end Go.Proofs.YtdadnajbdnbbdaaDoor
