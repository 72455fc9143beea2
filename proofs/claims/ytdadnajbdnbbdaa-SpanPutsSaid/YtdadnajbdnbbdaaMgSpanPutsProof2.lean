/- mintvaultlaw6.lists and all: the parts of a proof, in a row of the call's own; mintvaultlaw6.claimed; span.slots: the places of a proof's parts; span.slots, plain: the places as a list, and what lies there; span.Put; mintvaultref6.sizes; mintvaultref6.sizes answers as span.Put does; mintvaultref6.Put. (under way); mintvaultlaw6: sameInner, sameRange of equal proofs (printed by gen_sp9.py); A range written as bytes: its parts; the places of a range in memory; What a call knows of the blocks that are its own: one fact for all of them; A region that draws its order, under a condition S on the world that holds till the last operations begin: the head (reads, calls) in an order of the prover's choice, behind it the tail (a store, as a rule) in the text's order; A region that draws its order, as XTail's, where two operations of the head may come in either order (an allocation and a call); A region that draws its order, by a plan: operations that only yield values are taken ahead (w: in whatever world; t: under a condition S on the world, that holds till operation m is carried out), the others are carried out when nothing else can come (r, m), or in either order (b); span.Read. -/
import Derived.Test.YtdadnajbdnbbdaaMgSpanPutsProof1
import Derived.StillTailTactics
import Derived.OrdersHeld
import Derived.StillTail
import Derived.Deep.MidRow
import Derived.Deep.RegionHeld3
namespace Go.Proofs.Ytdadnajbdnbbdaa
open Go.RowKit Go.Mv Mvp
/-- a slice -/
def IsSl (v : Value) : Prop := ∃ a n c, v = .slice a n c
theorem IsSl.cells {v : Value} (h : IsSl v) : v.cells = #[v] := by obtain ⟨a, n, c, rfl⟩ := h; rfl
theorem IsSl.one {v : Value} (h : IsSl v) : v.oneCell' = true := by obtain ⟨a, n, c, rfl⟩ := h; rfl
set_option maxHeartbeats 4000000 in
set_option maxRecDepth 1000000 in
theorem lists6_any (aL : Option Addr) (n cL : Nat) (aR : Option Addr) (m cR : Nat) (A B : Value) (vL vR : List Value) (w : World) (hn : n ≤ 1000) (hm : m ≤ 1000) (hL : Rd w aL n vL) (hR : Rd w aR m vR)
    (h1L : ∀ u ∈ vL, u.oneCell' = true) (h1R : ∀ u ∈ vR, u.oneCell' = true) (hA : IsSl A) (hB : IsSl B) :
    Calls Try.prog 34 #[.agg #[.slice aL n cL, .slice aR m cR, A, B]] w fun e w' => ∃ v, e = .returned v ∧ Own w' w.heap.size 22 1 v (n + m + 2) (vL ++ vR ++ [A, B]) ∧ Fr Nob w w' := by
  have H1L := Lib.hid h1L
  have H1R := Lib.hid h1R
  have HA := Lib.hid hA
  have HB := Lib.hid hB
  clear h1L h1R hA hB
  go_enter Try.func34, Try.ntmps34
  go_wp2_with (with_reducible refine wl_stop (o := ⟨some 1, _, _, _, _, _⟩) ?_)
  unfold Stop
  refine wl_box rfl rfl rfl [.slice aL n cL, .slice aR m cR, A, B] rfl ?_
  intro w1 hh1 hf1 hz1
  have hgt : w.heap.size < w1.heap.size := by omega
  clear hz1
  have hL1 := hL.still hf1
  have hs1 := hf1.size
  clear hL
  have c0 := hh1.cell (i := 0) rfl
  have c1 := hh1.cell (i := 1) rfl
  have c2 := hh1.cell (i := 2) rfl
  have c3 := hh1.cell (i := 3) rfl
  go_wp2_with (with_reducible refine wl_stop (o := ⟨some 4, _, _, _, _, _⟩) ?_)
  unfold Stop
  refine wl_slit0 rfl rfl Try.underlying23 info_sl ?_
  intro w2 hq2 hf2 hz2
  clear hz2
  have hL2 := hL1.still hf2
  have hfr2 := hf1.then hf2
  have d0 := hf2.cell id c0
  have d1 := hf2.cell id c1
  have d2 := hf2.cell id c2
  have d3 := hf2.cell id c3
  have hs2 := hf2.size
  clear hL1 hh1 hf1 hf2 c0 c1 c2 c3
  go_wp2_with (with_reducible refine wl_stop (o := ⟨some 7, _, _, _, _, _⟩) ?_)
  unfold Stop
  refine wl_append rfl rfl Try.underlying23 info_sl rfl (by decide) hq2 rfl rfl (by rw [Nat.mul_one]; exact hL2) H1L.out (by unfold maxLen; omega) (by omega) hs2 ?_
  intro v3 w3 hq3 hf3 hb3
  clear hb3
  have hlt3 : ∀ k, k ≤ w.heap.size → ¬ OwnB (.slice (some ⟨w1.heap.size, 0, none⟩) 0 0) k := fun k hk t => by have := (hq2.lt t).1; omega
  have hfr3 : Fr Nob w w3 := hfr2.trans hf3 (fun k hk t => (hlt3 k (Nat.le_of_lt hk) t).elim)
  have hR3 := hR.still hfr3
  have e1 := hf3.cell (hlt3 _ (Nat.le_refl _)) d1
  have e2 := hf3.cell (hlt3 _ (Nat.le_refl _)) d2
  have e3 := hf3.cell (hlt3 _ (Nat.le_refl _)) d3
  have hs3 := hf3.size
  rw [List.nil_append, Nat.zero_add] at hq3
  clear hL2 hR hq2 hf3 hlt3 d0 d1 d2 d3 hfr2
  go_wp2_with (with_reducible refine wl_stop (o := ⟨some 11, _, _, _, _, _⟩) ?_)
  unfold Stop
  refine wl_append rfl rfl Try.underlying23 info_sl rfl (by decide) hq3 rfl rfl (by rw [Nat.mul_one]; exact hR3) H1R.out (by unfold maxLen; omega) (by omega) (by omega) ?_
  intro v4 w4 hq4 hf4 hb4
  clear hb4
  have hlt4 : ∀ k, k ≤ w.heap.size → ¬ OwnB v3 k := fun k hk t => by have := (hq3.lt t).1; omega
  have hfr4 : Fr Nob w w4 := hfr3.trans hf4 (fun k hk t => (hlt4 k (Nat.le_of_lt hk) t).elim)
  have f2 := hf4.cell (hlt4 _ (Nat.le_refl _)) e2
  have f3 := hf4.cell (hlt4 _ (Nat.le_refl _)) e3
  have hs4 := hf4.size
  clear hR3 hq3 hf4 hlt4 e1 e2 e3 hfr3
  go_wp2_with (with_reducible refine wl_stop (o := ⟨some 17, _, _, _, _, _⟩) ?_)
  unfold Stop
  refine wl_slit rfl rfl Try.underlying23 info_sl [A, B] rfl (fun v hv => by simp only [List.mem_cons, List.not_mem_nil, or_false] at hv; rcases hv with h | h <;> rw [h] <;> first | exact HA.out.cells | exact HB.out.cells) rfl rfl ?_
  intro w5 hh5 hf5 hz5
  clear hz5
  have hq5 := hq4.still hf5
  have hfr5 := hfr4.then hf5
  have hs5 := hf5.size
  clear hq4 hf5 hfr4 f2 f3
  go_wp2_with (with_reducible refine wl_stop (o := ⟨some 18, _, _, _, _, _⟩) ?_)
  unfold Stop
  refine wl_append rfl rfl Try.underlying23 info_sl rfl (by decide) hq5 rfl rfl (Rd.whole hh5) (fun u hu => by simp only [List.mem_cons, List.not_mem_nil, or_false] at hu; rcases hu with h | h <;> rw [h] <;> first | exact HA.out.one | exact HB.out.one) (by unfold maxLen; omega) (by omega) (by omega) ?_
  intro v6 w6 hq6 hf6 hb6
  clear hb6
  have hfr6 : Fr Nob w w6 := hfr5.trans hf6 (fun k hk t => by have := (hq5.lt t).1; omega)
  have hq7 := hq6.mono (Nat.le_of_lt hgt)
  clear hq5 hf6 hfr5 hq6
  go_wp2_with fail
  go_ret
  exact ⟨_, rfl, hq7, hfr6⟩

theorem info_inner : (Try.prog.info? 25).map (·.size) = some 4 := by kernel_rfl
set_option maxHeartbeats 4000000 in
set_option maxRecDepth 1000000 in
theorem all6_any (A S T1 T2 Tau Mu T : Value) (aL : Option Addr) (n cL : Nat) (aR : Option Addr) (m cR : Nat) (IA IB : Value) (vL vR : List Value) (w : World) (hn : n ≤ 1000) (hm : m ≤ 1000) (hL : Rd w aL n vL) (hR : Rd w aR m vR)
    (h1L : ∀ u ∈ vL, u.oneCell' = true) (h1R : ∀ u ∈ vR, u.oneCell' = true) (hs : ∀ v ∈ [A, S, T1, T2, Tau, Mu, T, IA, IB], IsSl v) :
    Calls Try.prog 15 #[.agg #[A, S, T1, T2, Tau, Mu, T, .slice aL n cL, .slice aR m cR, IA, IB]] w fun e w' => ∃ v, e = .returned v ∧ Own w' w.heap.size 22 1 v (n + m + 2 + 7) (vL ++ vR ++ [IA, IB] ++ [A, S, T1, T2, Tau, Mu, T]) ∧ Fr Nob w w' := by
  have H1L := Lib.hid h1L
  have H1R := Lib.hid h1R
  have HS := Lib.hid hs
  clear h1L h1R hs
  go_enter Try.func15, Try.ntmps15
  go_wp2_with (with_reducible refine wl_stop (o := ⟨some 1, _, _, _, _, _⟩) ?_)
  unfold Stop
  refine wl_box rfl rfl rfl [A, S, T1, T2, Tau, Mu, T, .slice aL n cL, .slice aR m cR, IA, IB] rfl ?_
  intro w1 hh1 hf1 hz1
  have hgt : w.heap.size < w1.heap.size := by omega
  clear hz1
  have hat : At w1 w.heap.size 7 [.slice aL n cL, .slice aR m cR, IA, IB] := fun j v hv => by
    have h4 : j < 4 := by
      rcases Nat.lt_or_ge j 4 with h | h
      · exact h
      · rw [List.getElem?_eq_none (by simpa using h)] at hv; cases hv
    exact hh1.cell (i := 7 + j) (by rw [← hv]; match j, h4 with | 0, _ | 1, _ | 2, _ | 3, _ => rfl)
  have HH1 := Lib.hid hh1
  clear hh1
  go_wp2_with (with_reducible refine wl_stop (o := ⟨some 5, _, _, _, _, _⟩) ?_)
  unfold Stop
  refine wl_loadR rfl rfl Try.underlying25 rfl rfl hat info_inner ?_
  clear hat
  go_wp2_with fail
  refine (lists6_any aL n cL aR m cR IA IB vL vR w1 hn hm (hL.still hf1) (hR.still hf1) H1L.out H1R.out (HS.out _ (by simp)) (HS.out _ (by simp))).mono ?_
  rintro e w2 ⟨v2, rfl, hq2, hf2⟩
  have hfr2 := hf1.then hf2
  have hh2 : Has w2 w.heap.size [A, S, T1, T2, Tau, Mu, T, .slice aL n cL, .slice aR m cR, IA, IB] 27 := HH1.out.keep hf2 id
  have c0 := hh2.cell (i := 0) rfl
  have c1 := hh2.cell (i := 1) rfl
  have c2 := hh2.cell (i := 2) rfl
  have c3 := hh2.cell (i := 3) rfl
  have c4 := hh2.cell (i := 4) rfl
  have c5 := hh2.cell (i := 5) rfl
  have c6 := hh2.cell (i := 6) rfl
  have hs2 := hf2.size
  clear hL hR hf1 hf2 hh2
  go_wp2_with (with_reducible refine wl_stop (o := ⟨some 22, _, _, _, _, _⟩) ?_)
  unfold Stop
  refine wl_slit rfl rfl Try.underlying23 info_sl [A, S, T1, T2, Tau, Mu, T] rfl (fun v hv => (HS.out v (List.mem_append_left [IA, IB] hv)).cells) rfl rfl ?_
  intro w3 hh3 hf3 hz3
  clear hz3
  have hq3 := hq2.still hf3
  have hfr3 := hfr2.then hf3
  have hs3 := hf3.size
  clear hq2 hf3 hfr2 c0 c1 c2 c3 c4 c5 c6
  go_wp2_with (with_reducible refine wl_stop (o := ⟨some 23, _, _, _, _, _⟩) ?_)
  unfold Stop
  refine wl_append rfl rfl Try.underlying23 info_sl rfl (by decide) hq3 rfl rfl (Rd.whole hh3) (fun v hv => (HS.out v (List.mem_append_left [IA, IB] hv)).one) (by unfold maxLen; omega) (by omega) (by omega) ?_
  intro v6 w6 hq6 hf6 hb6
  clear hb6
  have hfr6 : Fr Nob w w6 := hfr3.trans hf6 (fun k hk t => by have := (hq3.lt t).1; omega)
  have hq7 := hq6.mono (Nat.le_of_lt hgt)
  clear hq3 hf6 hfr3 hq6
  go_wp2_with fail
  go_ret
  exact ⟨_, rfl, hq7, hfr6⟩
end Go.Proofs.Ytdadnajbdnbbdaa

/- mintvaultlaw6.claimed. -/
namespace Go.Proofs.Ytdadnajbdnbbdaa
open Go.RowKit Go.Mv Mvp
def slLen : Value → Nat
  | .slice _ n _ => n
  | _ => 0
def Clm (w : World) (n m : Nat) (vs : List Value) (e : Ending) (w' : World) : Prop := ∃ b, e = .returned (.bool b) ∧ Fr Nob w w' ∧ (b = true → n ≤ 10 ∧ m ≤ 10 ∧ ∀ v ∈ vs, slLen v ≤ 100)
theorem info_range : (Try.prog.info? 27).map (·.size) = some 11 := by kernel_rfl
set_option maxHeartbeats 4000000 in
set_option maxRecDepth 1000000 in
theorem claimed6_any (A S T1 T2 Tau Mu T : Value) (aL : Option Addr) (n cL : Nat) (aR : Option Addr) (m cR : Nat) (IA IB : Value) (vL vR : List Value) (w : World) (hL : Rd w aL n vL) (hR : Rd w aR m vR)
    (h1L : ∀ u ∈ vL, IsSl u) (h1R : ∀ u ∈ vR, IsSl u) (hs : ∀ v ∈ [A, S, T1, T2, Tau, Mu, T, IA, IB], IsSl v) :
    Calls Try.prog 6 #[.agg #[A, S, T1, T2, Tau, Mu, T, .slice aL n cL, .slice aR m cR, IA, IB]] w (Clm w n m (vL ++ vR ++ [IA, IB] ++ [A, S, T1, T2, Tau, Mu, T])) := by
  have hall : ∀ v ∈ vL ++ vR ++ [IA, IB] ++ [A, S, T1, T2, Tau, Mu, T], IsSl v := fun v hv => by
    simp only [List.mem_append] at hv
    rcases hv with ((hv | hv) | hv) | hv
    · exact h1L v hv
    · exact h1R v hv
    · exact hs v (List.mem_append_right [A, S, T1, T2, Tau, Mu, T] hv)
    · exact hs v (List.mem_append_left [IA, IB] hv)
  have HALL := Lib.hid hall
  have H1L := Lib.hid h1L
  have H1R := Lib.hid h1R
  have HS := Lib.hid hs
  clear h1L h1R hs hall
  go_enter Try.func6, Try.ntmps6
  go_wp2_with (with_reducible refine wl_stop (o := ⟨some 1, _, _, _, _, _⟩) ?_)
  unfold Stop
  refine wl_box rfl rfl rfl [A, S, T1, T2, Tau, Mu, T, .slice aL n cL, .slice aR m cR, IA, IB] rfl ?_
  intro w1 hh1 hf1 hz1
  clear hz1
  have c7 := hh1.cell (i := 7) rfl
  have c8 := hh1.cell (i := 8) rfl
  by_cases g1 : 10 < n
  · have gI : (10 : Int) < (n : Int) := by omega
    clear hh1 hL hR
    go_wp2_with fail
    go_ret
    exact ⟨false, rfl, hf1, fun h => by cases h⟩
  have gI1 : ¬ (10 : Int) < (n : Int) := by omega
  by_cases g2 : 10 < m
  · have gI2 : (10 : Int) < (m : Int) := by omega
    clear hh1 hL hR
    go_wp2_with fail
    go_ret
    exact ⟨false, rfl, hf1, fun h => by cases h⟩
  have gI2 : ¬ (10 : Int) < (m : Int) := by omega
  have hat : At w1 w.heap.size 0 [A, S, T1, T2, Tau, Mu, T, .slice aL n cL, .slice aR m cR, IA, IB] := fun j v hv => by
    rw [Nat.zero_add]; exact hh1.cell hv
  clear hh1
  go_wp2_with (with_reducible refine wl_stop (o := ⟨some 17, _, _, _, _, _⟩) ?_)
  unfold Stop
  refine wl_loadR rfl rfl Try.underlying27 rfl rfl hat info_range ?_
  clear hat c7 c8
  go_wp2_with fail
  refine (all6_any A S T1 T2 Tau Mu T aL n cL aR m cR IA IB vL vR w1 (by omega) (by omega) (hL.still hf1) (hR.still hf1) (fun u hu => (H1L.out u hu).one) (fun u hu => (H1R.out u hu).one) HS.out).mono ?_
  rintro e w2 ⟨v2, rfl, hq2, hf2⟩
  have hfr2 := hf1.then hf2
  have hr2 := hq2.form
  obtain ⟨a2, c2, rfl, hc2, hr2, -⟩ := hr2
  rw [Nat.mul_one] at hr2
  clear hL hR hf1 hf2 hq2
  generalize vL ++ vR ++ [IA, IB] ++ [A, S, T1, T2, Tau, Mu, T] = vs at *
  have hN : n + m + 2 + 7 ≤ 29 := by omega
  have hvl := hr2.len
  generalize hNN : n + m + 2 + 7 = N at *
  have HN := Lib.hid hNN; clear hNN
  have HVL := Lib.hid hvl; clear hvl
  go_wp2_with fail
  go_loopw [4] (fun i wr => ∃ j : Nat, j ≤ N ∧ i = .int .i64 (j : Int) ∧ w2 = wr ∧ Hid (∀ k, k < j → ∀ v, vs[k]? = some v → slLen v ≤ 100)) (fun i _ => (N - intOf i).toNat)
  case atStart => exact ⟨0, by omega, by go_num, rfl, Lib.hid (fun k hk => by omega)⟩
  case round =>
    obtain ⟨j, hj, rfl, rfl, HK⟩ := hrel
    by_cases hlt : j < N
    · have hltI : (j : Int) < (N : Int) := by omega
      obtain ⟨b, o, rfl, hat⟩ := hr2.at (by omega)
      obtain ⟨x, hx⟩ : ∃ x, vs[j]? = some x := ⟨_, List.getElem?_eq_getElem (by rw [HVL.out]; exact hlt)⟩
      have hcx := hat j x hx
      obtain ⟨ax, nx, cx, rfl⟩ := HALL.out x (List.mem_of_getElem? hx)
      have HX := Lib.hid hx; clear hx
      by_cases g3 : 100 < nx
      · have gI3 : (100 : Int) < (nx : Int) := by omega
        clear hat
        go_wp2_with fail
        go_ret
        exact ⟨false, rfl, hfr2, fun h => by cases h⟩
      · have gI3 : ¬ (100 : Int) < (nx : Int) := by omega
        clear hat
        go_wp2_with fail
        go_roundw
        case rel => exact ⟨j + 1, by omega, by go_num, trivial, Lib.hid (fun k hk v hv => by
          rcases Nat.lt_or_ge k j with h | h
          · exact HK.out k h v hv
          · obtain rfl : k = j := by omega
            rw [HX.out] at hv; cases hv; show nx ≤ 100; omega)⟩
        case measure => simp [intOf]; omega
    · have hltI : ¬ (j : Int) < (N : Int) := by omega
      go_wp2_with fail
      go_ret
      exact ⟨true, rfl, hfr2, fun _ => ⟨by omega, by omega, fun v hv => by
        obtain ⟨k, hk⟩ := List.getElem?_of_mem hv
        refine HK.out k ?_ v hk
        have : k < vs.length := by
          rcases Nat.lt_or_ge k vs.length with h | h
          · exact h
          · rw [List.getElem?_eq_none h] at hk; cases hk
        rw [HVL.out] at this; omega⟩⟩
end Go.Proofs.Ytdadnajbdnbbdaa

/- span.slots: the places of a proof's parts. -/
namespace Go.Proofs.Ytdadnajbdnbbdaa
open Go.RowKit Go.Mv Mvp
/-- one place: where, and how many bytes -/
def slotC (b o : Nat) (n : Int) : List Value := [.pointer (some ⟨b, o, none⟩), .int .i64 n]
/-- the places in a slice of slices -/
def slotsC (a : Option Addr) (k : Nat) : List Value := (List.range k).flatMap fun j => slotC ((a.map (·.block)).getD 0) ((a.map (·.off)).getD 0 + j) 33
def heads (g : Nat) : List Value := slotC g 0 33 ++ slotC g 1 33 ++ slotC g 2 33 ++ slotC g 3 33 ++ slotC g 4 32 ++ slotC g 5 32 ++ slotC g 6 32
def allSlots (g : Nat) (aL : Option Addr) (n : Nat) (aR : Option Addr) (m : Nat) : List Value := heads g ++ slotsC aL n ++ slotsC aR m ++ (slotC g 9 32 ++ slotC g 10 32)
def accC (g : Nat) (aL : Option Addr) (n : Nat) (aR : Option Addr) (m q : Nat) : List Value := heads g ++ (if 1 ≤ q then slotsC aL n else []) ++ (if 2 ≤ q then slotsC aR m else [])
def accN (n m q : Nat) : Nat := 7 + (if 1 ≤ q then n else 0) + (if 2 ≤ q then m else 0)
theorem accN_le (n m q : Nat) (hn : n ≤ 6) (hm : m ≤ 6) : accN n m q ≤ 19 := by unfold accN; split <;> split <;> omega
theorem slotsC_succ (b o j : Nat) : slotsC (some ⟨b, o, none⟩) (j + 1) = slotsC (some ⟨b, o, none⟩) j ++ slotC b (o + j) 33 := by
  simp [slotsC, List.range_succ]
/-- what the next round of the outer loop takes -/
def Nxt (g : Nat) (aL : Option Addr) (n : Nat) (aR : Option Addr) (m q : Nat) (aX : Option Addr) (nX : Nat) : Prop :=
  nX ≤ 6 ∧ (nX ≠ 0 → ∃ b o, aX = some ⟨b, o, none⟩) ∧ accC g aL n aR m (q + 1) = accC g aL n aR m q ++ slotsC aX nX ∧ accN n m (q + 1) = accN n m q + nX
theorem info_ss1 : (Try.prog.info? 23).map (·.size) = some 1 := by kernel_rfl
theorem info_slot : (Try.prog.info? 74).map (fun i => (i.zero, i.size, i.bytes)) = some (some (.agg #[.pointer none, .int .i64 0]), 2, 16) := by kernel_rfl

set_option maxHeartbeats 4000000 in
set_option maxRecDepth 1000000 in
theorem slots_any (g : Nat) (cs : List Value) (aL : Option Addr) (n cL : Nat) (aR : Option Addr) (m cR : Nat) (w : World) (hg : Has w g cs 27) (h7 : cs[7]? = some (.slice aL n cL)) (h8 : cs[8]? = some (.slice aR m cR)) (hn : n ≤ 6) (hm : m ≤ 6)
    (hL : n ≠ 0 → ∃ b o, aL = some ⟨b, o, none⟩) (hR : m ≠ 0 → ∃ b o, aR = some ⟨b, o, none⟩) :
    Calls Try.prog 29 #[.pointer (some ⟨g, 0, none⟩)] w fun e w' => ∃ v, e = .returned v ∧ Own w' w.heap.size 74 2 v (n + m + 9) (allSlots g aL n aR m) ∧ Fr Nob w w' := by
  have c7 := hg.cell h7
  have c8 := hg.cell h8
  go_enter Try.func29, Try.ntmps29
  go_wp2_with fail
  refine wp_region_still_tail 28 (by kernel_rfl) (by kernel_rfl) ?_
  simp only [List.take_succ_cons, List.take_zero, List.drop_succ_cons, List.drop_zero]
  repeat still_step
  refine wpStill_nil ?_
  change wpList _ _ _ _ _ w.drew
  have hdr : Fr Nob w w.drew := (Fr.refl _ w).drew
  have d7 := hdr.cell id c7
  have d8 := hdr.cell id c8
  have hwd := hdr.size
  clear hg h7 h8 c7 c8
  generalize w.drew = wd at *
  go_wp2_with (with_reducible refine wl_stop (o := ⟨some 35, _, _, _, _, _⟩) ?_)
  unfold Stop
  refine wl_slitR rfl rfl Try.underlying69 info_slot [.agg (slotC g 0 33).toArray, .agg (slotC g 1 33).toArray, .agg (slotC g 2 33).toArray, .agg (slotC g 3 33).toArray, .agg (slotC g 4 32).toArray, .agg (slotC g 5 32).toArray, .agg (slotC g 6 32).toArray] rfl (fun v hv => by simp only [List.mem_cons, List.not_mem_nil, or_false] at hv; rcases hv with h | h | h | h | h | h | h <;> rw [h] <;> rfl) rfl (heads g) rfl ?_
  intro w2 hh2 hf2 hz2
  clear hz2
  have hq2 := Own.made hh2 w.heap.size hwd 2 7 7 (Nat.le_refl _) (by decide) (by simp [heads, slotC])
  have e7 := hf2.cell id d7
  have e8 := hf2.cell id d8
  have hfr2 := hdr.then hf2
  rw [List.take_of_length_le (by simp [heads, slotC])] at hq2
  clear hdr hf2 hh2 d7 d8
  go_wp2_with fail
  go_quiet (fail)
  have hfr3 := hfr2.then ((Fr.refl Nob w2).drewN nq)
  have hq3 := hq2.still ((Fr.refl Nob w2).drewN nq)
  have hN0 : Nxt g aL n aR m 0 aL n := ⟨hn, hL, by simp [accC], by simp [accN]⟩
  have hN1 : Nxt g aL n aR m 1 aR m := ⟨hm, hR, by simp [accC], by simp [accN]⟩
  have HN0 := Lib.hid hN0
  have HN1 := Lib.hid hN1
  clear hq2 hfr2 e7 e8 hL hR hN0 hN1
  generalize w2.drewN nq = w3 at *
  have hq3' : Own w3 w.heap.size 74 2 (.slice (some ⟨wd.heap.size, 0, none⟩) 7 7) (accN n m 0) (accC g aL n aR m 0) := by
    simpa [accN, accC] using hq3
  clear hq3
  generalize wd.heap.size = gd at *
  go_wp2_with fail
  go_loopw [47, 3] (fun i l wr => ∃ q : Nat, q ≤ 2 ∧ i = .int .i64 (q : Int) ∧ Own wr w.heap.size 74 2 l (accN n m q) (accC g aL n aR m q) ∧ Fr Nob w wr) (fun i _ _ => (2 - intOf i).toNat)
  case atStart => exact ⟨0, by omega, by go_num, hq3', hfr3⟩
  case round =>
    obtain ⟨q, hq, rfl, hq4, hfr4⟩ := hrel
    by_cases hlt : q < 2
    · have hltI : (q : Int) < 2 := by omega
      go_upto_region 4 with fail
      go_cut [5] (fun v wx => ∃ (aX : Option Addr) (nX cX : Nat), v = .slice aX nX cX ∧ Nxt g aL n aR m q aX nX ∧ wr = wx)
      case first =>
        rcases Nat.lt_or_ge q 1 with h | h
        · obtain rfl : q = 0 := by omega
          go_wp2_with (with_reducible refine wl_stop (o := ⟨some 49, _, _, _, _, _⟩) ?_)
          unfold Stop
          refine wl_index_arr rfl rfl Try.underlying91 Try.underlying23 info_ss1 (k := 0) rfl rfl (by decide) rfl ?_
          go_wp2_with fail
          go_meet
          exact ⟨aL, n, cL, rfl, HN0.out, rfl⟩
        · obtain rfl : q = 1 := by omega
          go_wp2_with (with_reducible refine wl_stop (o := ⟨some 49, _, _, _, _, _⟩) ?_)
          unfold Stop
          refine wl_index_arr rfl rfl Try.underlying91 Try.underlying23 info_ss1 (k := 1) rfl rfl (by decide) rfl ?_
          go_wp2_with fail
          go_meet
          exact ⟨aR, m, cR, rfl, HN1.out, rfl⟩
      case rest =>
      obtain ⟨aX, nX, cX, rfl, ⟨hnX, hX, hC, hNN⟩, rfl⟩ := hcut
      have HX := Lib.hid hX
      have HC := Lib.hid hC
      have HNN := Lib.hid hNN
      have hle := accN_le n m q hn hm
      clear hX hC hNN
      generalize accC g aL n aR m q = C0 at *
      generalize accN n m q = N0 at *
      go_wp2_with fail
      go_loopw [52, 3] (fun i l wr => ∃ j : Nat, j ≤ nX ∧ i = .int .i64 (j : Int) ∧ Own wr w.heap.size 74 2 l (N0 + j) (C0 ++ slotsC aX j) ∧ Fr Nob w wr) (fun i _ _ => (nX - intOf i).toNat)
      case atStart => exact ⟨0, by omega, by go_num, by simpa [slotsC] using hq4, hfr4⟩
      case round =>
        obtain ⟨j, hj, rfl, hq5, hfr5⟩ := hrel
        by_cases hlt2 : j < nX
        · have hlt2I : (j : Int) < (nX : Int) := by omega
          obtain ⟨b, o, rfl⟩ := HX.out (by omega)
          clear HX
          go_wp2_with (with_reducible refine wl_stop (o := ⟨some 60, _, _, _, _, _⟩) ?_)
          unfold Stop
          refine wl_slitR rfl rfl Try.underlying69 info_slot [.agg (slotC b (o + j) 33).toArray] rfl (fun v hv => by simp only [List.mem_singleton] at hv; rw [hv]; rfl) rfl (slotC b (o + j) 33) rfl ?_
          intro w6 hh6 hf6 hz6
          clear hz6
          have hq6 := hq5.still hf6
          have hfr6 := hfr5.then hf6
          clear hq5 hfr5 hf6
          go_wp2_with (with_reducible refine wl_stop (o := ⟨some 61, _, _, _, _, _⟩) ?_)
          unfold Stop
          refine wl_append rfl rfl Try.underlying69 info_slot rfl (by decide) hq6 rfl rfl (Rd.whole hh6) (fun u hu => by simp only [slotC, List.mem_cons, List.not_mem_nil, or_false] at hu; rcases hu with h | h <;> rw [h] <;> rfl) (by unfold maxLen; omega) (by omega) hfr6.size ?_
          intro v7 w7 hq7 hf7 hb7
          clear hb7
          have hfr7 : Fr Nob w w7 := hfr6.trans hf7 (fun k hk t => by have := (hq6.lt t).1; omega)
          rw [List.append_assoc, ← slotsC_succ, Nat.add_assoc] at hq7
          clear hq6 hfr6 hf7 hh6
          go_wp2_with fail
          go_roundw
          case rel => exact ⟨j + 1, by omega, by go_num, hq7, hfr7⟩
          case measure => simp [intOf]; omega
        · have hlt2I : ¬ (j : Int) < (nX : Int) := by omega
          obtain rfl : j = nX := by omega
          rw [← HC.out, ← HNN.out] at hq5
          clear hj hlt2 HC HNN HX
          go_wp2_with fail
          go_roundw
          case rel => exact ⟨q + 1, by omega, by go_num, hq5, hfr5⟩
          case measure => simp [intOf]; omega
    · have hltI : ¬ (q : Int) < 2 := by omega
      have hq2 : q = 2 := by omega
      rw [hq2] at hq4
      clear hlt hq HN0 HN1 hq2 hq3' hfr3
      have hle := accN_le n m 2 hn hm
      have hC : accC g aL n aR m 2 ++ (slotC g 9 32 ++ slotC g 10 32) = allSlots g aL n aR m := by simp [accC, allSlots]
      have hNN : accN n m 2 + 2 = n + m + 9 := by simp [accN]; omega
      have HC := Lib.hid hC
      have HNN := Lib.hid hNN
      clear hC hNN
      generalize accC g aL n aR m 2 = C0 at *
      generalize accN n m 2 = N0 at *
      go_wp2_with fail
      have hal : Fr Nob wr ((wr.alloc (.cells #[.pointer (some ⟨g, 9, none⟩), .int .i64 32, .pointer (some ⟨g, 10, none⟩), .int .i64 32] 74)).drew) := ((Fr.refl Nob wr).alloc _).drew
      have hqa := hq4.still hal
      have hfa := hfr4.then hal
      have hrd : Rd ((wr.alloc (.cells #[.pointer (some ⟨g, 9, none⟩), .int .i64 32, .pointer (some ⟨g, 10, none⟩), .int .i64 32] 74)).drew) (some ⟨wr.heap.size, 0, none⟩) 4 (slotC g 9 32 ++ slotC g 10 32) := (Rd.whole (Has.new wr #[.pointer (some ⟨g, 9, none⟩), .int .i64 32, .pointer (some ⟨g, 10, none⟩), .int .i64 32] 74)).still ((Fr.refl Nob _).drew)
      have hsa := hfa.size
      have hlit : ∀ u ∈ slotC g 9 32 ++ slotC g 10 32, u.oneCell' = true := fun u hu => by simp only [slotC, List.cons_append, List.nil_append, List.mem_cons, List.not_mem_nil, or_false] at hu; rcases hu with h | h | h | h <;> rw [h] <;> rfl
      have HLIT := Lib.hid hlit; clear hlit
      have HQA := Lib.hid hqa; clear hqa
      have HRD := Lib.hid hrd; clear hrd
      go_region_held3 (fun w' => Fr Nob w w')
        (first | (exact hfr4) | (exact hfr4.drew) | (exact hfr4.alloc _) | (exact (hfr4.alloc _).drew) | (exact HQA.out.fr hfa (Nat.le_refl _) hf9))
        (first | (refine step_append rfl rfl Try.underlying69 info_slot rfl (by decide) HQA.out rfl rfl HRD.out HLIT.out (by unfold maxLen; omega) (by omega) hsa ?_; intro v9 w9 hown9 hf9))
      have hfr9 : Fr Nob w w9 := by assumption
      rw [HC.out, HNN.out] at hown9
      clear hf9 HQA HRD hfa hal hsa HLIT HC HNN hq4 hfr4
      go_wp2_with fail
      go_ret
      exact ⟨_, rfl, hown9, hfr9⟩
end Go.Proofs.Ytdadnajbdnbbdaa

/- span.slots, plain: the places as a list, and what lies there. -/
namespace Go.Proofs.Ytdadnajbdnbbdaa
open Go.RowKit Go.Mv Mvp

def slotF (x : Nat × Nat × Nat) : List Value := slotC x.1 x.2.1 (x.2.2 : Int)
def rowL (a : Option Addr) (k : Nat) : List (Nat × Nat × Nat) := (List.range k).map fun j => ((a.map (·.block)).getD 0, (a.map (·.off)).getD 0 + j, 33)
def slotL (g : Nat) (aL : Option Addr) (n : Nat) (aR : Option Addr) (m : Nat) : List (Nat × Nat × Nat) :=
  [(g, 0, 33), (g, 1, 33), (g, 2, 33), (g, 3, 33), (g, 4, 32), (g, 5, 32), (g, 6, 32)] ++ rowL aL n ++ rowL aR m ++ [(g, 9, 32), (g, 10, 32)]
theorem rowL_flat (a : Option Addr) (k : Nat) : (rowL a k).flatMap slotF = slotsC a k := by
  unfold rowL slotsC
  rw [List.flatMap_map]
  rfl
theorem slotL_flat (g : Nat) (aL : Option Addr) (n : Nat) (aR : Option Addr) (m : Nat) : (slotL g aL n aR m).flatMap slotF = allSlots g aL n aR m := by
  unfold slotL allSlots
  rw [List.flatMap_append, List.flatMap_append, List.flatMap_append, rowL_flat, rowL_flat]
  rfl
theorem slotL_len (g : Nat) (aL : Option Addr) (n : Nat) (aR : Option Addr) (m : Nat) : (slotL g aL n aR m).length = n + m + 9 := by
  simp [slotL, rowL]; omega
theorem flat2_get (l : List (Nat × Nat × Nat)) (j : Nat) (hj : j < l.length) : ((l.flatMap slotF).drop (j * 2)).take 2 = slotF l[j] := by
  induction l generalizing j with
  | nil => simp at hj
  | cons a l ih =>
    cases j with
    | zero => simp [List.flatMap_cons, slotF, slotC]
    | succ j =>
      have : ((a :: l).flatMap slotF).drop ((j + 1) * 2) = (l.flatMap slotF).drop (j * 2) := by
        simp only [List.flatMap_cons]
        rw [List.drop_append, List.drop_of_length_le (by simp [slotF, slotC]; omega), List.nil_append]
        congr 1
        simp [slotF, slotC]; omega
      rw [this, ih j (by simpa using hj)]; rfl

/-- at each place lies its value -/
def SA (w : World) : List (Nat × Nat × Nat) → List Value → Prop
  | [], [] => True
  | x :: xs, v :: vs => w.cell? ⟨x.1, x.2.1, none⟩ = some v ∧ SA w xs vs
  | _, _ => False
theorem SA.len {w : World} : ∀ {xs : List (Nat × Nat × Nat)} {vs : List Value}, SA w xs vs → vs.length = xs.length
  | [], [], _ => rfl
  | _ :: _, _ :: _, h => by simp only [List.length_cons]; rw [SA.len h.2]
  | [], _ :: _, h => h.elim
  | _ :: _, [], h => h.elim
theorem SA.append {w : World} : ∀ {xs ys : List (Nat × Nat × Nat)} {vs us : List Value}, SA w xs vs → SA w ys us → SA w (xs ++ ys) (vs ++ us)
  | [], _, [], _, _, h => h
  | _ :: _, _, _ :: _, _, h1, h2 => ⟨h1.1, SA.append h1.2 h2⟩
  | [], _, _ :: _, _, h, _ => h.elim
  | _ :: _, _, [], _, h, _ => h.elim
theorem SA.still {w w' : World} (hf : Fr Nob w w') : ∀ {xs : List (Nat × Nat × Nat)} {vs : List Value}, SA w xs vs → SA w' xs vs
  | [], [], _ => trivial
  | _ :: _, _ :: _, h => ⟨hf.cell id h.1, SA.still hf h.2⟩
  | [], _ :: _, h => h.elim
  | _ :: _, [], h => h.elim
theorem SA.get {w : World} : ∀ {xs : List (Nat × Nat × Nat)} {vs : List Value}, SA w xs vs → ∀ (j : Nat) (x : Nat × Nat × Nat), xs[j]? = some x → ∃ v, vs[j]? = some v ∧ w.cell? ⟨x.1, x.2.1, none⟩ = some v
  | [], [], _, j, x, h => by simp at h
  | y :: xs, v :: vs, h, 0, x, hx => by simp only [List.getElem?_cons_zero, Option.some.injEq] at hx; subst hx; exact ⟨v, rfl, h.1⟩
  | y :: xs, v :: vs, h, j + 1, x, hx => by simp only [List.getElem?_cons_succ] at hx ⊢; exact SA.get h.2 j x hx
  | [], _ :: _, h, _, _, _ => h.elim
  | _ :: _, [], h, _, _, _ => h.elim
theorem SA.ofAt {w : World} (b : Nat) : ∀ (vs : List Value) (o : Nat), (∀ i v, vs[i]? = some v → w.cell? ⟨b, o + i, none⟩ = some v) → SA w ((List.range vs.length).map fun j => (b, o + j, 33)) vs
  | [], _, _ => trivial
  | v :: vs, o, h => by
    have e : ((List.range (v :: vs).length).map fun j => (b, o + j, 33)) = (b, o + 0, 33) :: (List.range vs.length).map fun j => (b, (o + 1) + j, 33) := by
      rw [List.length_cons, List.range_succ_eq_map, List.map_cons, List.map_map]
      congr 1
      apply List.map_congr_left
      intro j _
      show (b, o + (j + 1), 33) = (b, o + 1 + j, 33)
      rw [Nat.add_assoc, Nat.add_comm 1 j]
    rw [e]
    exact ⟨h 0 v rfl, SA.ofAt b vs (o + 1) (fun i u hu => by rw [Nat.add_assoc, Nat.add_comm 1 i]; exact h (i + 1) u hu)⟩
theorem SA.row {w : World} {a : Option Addr} {n : Nat} {vs : List Value} (h : Rd w a n vs) : SA w (rowL a n) vs := by
  obtain ⟨hl, h | ⟨b, o, rfl, hat⟩⟩ := h
  · subst h
    obtain rfl : vs = [] := List.eq_nil_of_length_eq_zero hl
    exact trivial
  · subst hl
    exact SA.ofAt b vs o hat
theorem SA.all {w : World} {g : Nat} {A S T1 T2 Tau Mu T IA IB : Value} {aL aR : Option Addr} {n cL m cR : Nat} {vL vR : List Value} (hg : Has w g [A, S, T1, T2, Tau, Mu, T, .slice aL n cL, .slice aR m cR, IA, IB] 27) (hL : Rd w aL n vL) (hR : Rd w aR m vR) :
    SA w (slotL g aL n aR m) ([A, S, T1, T2, Tau, Mu, T] ++ vL ++ vR ++ [IA, IB]) := by
  refine ((SA.append ?_ (SA.row hL)).append (SA.row hR)).append ?_
  · exact ⟨hg.cell (i := 0) rfl, hg.cell (i := 1) rfl, hg.cell (i := 2) rfl, hg.cell (i := 3) rfl, hg.cell (i := 4) rfl, hg.cell (i := 5) rfl, hg.cell (i := 6) rfl, trivial⟩
  · exact ⟨hg.cell (i := 9) rfl, hg.cell (i := 10) rfl, trivial⟩
end Go.Proofs.Ytdadnajbdnbbdaa

/- span.Put. -/
namespace Go.Proofs.Ytdadnajbdnbbdaa
open Go.RowKit Go.Mv Mvp
/-- a slice of bytes that can be read -/
def Prt6 (w : World) (v : Value) (l : List UInt8) : Prop := ∃ a n c, v = .slice a n c ∧ n ≤ c ∧ n ≤ 1000000 ∧ RdB w a n l ∧ True
theorem Prt6.still {w w' : World} {v : Value} {l : List UInt8} (h : Prt6 w v l) (hf : Fr Nob w w') : Prt6 w' v l := by
  obtain ⟨a, n, c, h1, h2, h3, h4, h5⟩ := h
  exact ⟨a, n, c, h1, h2, h3, h4.still hf, h5⟩
def Prts6 (w : World) : List Value → List (List UInt8) → Prop
  | [], [] => True
  | v :: vs, l :: ls => Prt6 w v l ∧ Prts6 w vs ls
  | _, _ => False
theorem Prts6.len {w : World} : ∀ {vs : List Value} {ls : List (List UInt8)}, Prts6 w vs ls → vs.length = ls.length
  | [], [], _ => rfl
  | _ :: _, _ :: _, h => by simp only [List.length_cons]; rw [Prts6.len h.2]
  | [], _ :: _, h => h.elim
  | _ :: _, [], h => h.elim
theorem Prts6.get {w : World} : ∀ {vs : List Value} {ls : List (List UInt8)}, Prts6 w vs ls → ∀ (i : Nat) (v : Value), vs[i]? = some v → ∃ l : List UInt8, ls[i]? = some l ∧ Prt6 w v l
  | [], [], _, i, v, h => by simp at h
  | x :: vs, l :: ls, h, 0, v, hv => by simp only [List.getElem?_cons_zero, Option.some.injEq] at hv; subst hv; exact ⟨l, rfl, h.1⟩
  | x :: vs, l :: ls, h, i + 1, v, hv => by simp only [List.getElem?_cons_succ] at hv ⊢; exact Prts6.get h.2 i v hv
  | [], _ :: _, h, _, _, _ => h.elim
  | _ :: _, [], h, _, _, _ => h.elim
theorem Prts6.of {w : World} : ∀ {vs : List Value} {ls : List (List UInt8)}, Parts w vs ls → Prts6 w vs ls
  | [], [], _ => trivial
  | _ :: _, _ :: _, h => ⟨by obtain ⟨⟨a, n, c, h1, h2, h3, h4, _⟩, _⟩ := h; exact ⟨a, n, c, h1, h2, h3, h4, trivial⟩, Prts6.of h.2⟩
  | [], _ :: _, h => h.elim
  | _ :: _, [], h => h.elim
def szL (n m : Nat) : List Nat := [33, 33, 33, 33, 32, 32, 32] ++ List.replicate n 33 ++ List.replicate m 33 ++ [32, 32]
theorem slotL_sz (g : Nat) (aL : Option Addr) (n : Nat) (aR : Option Addr) (m : Nat) : (slotL g aL n aR m).map (·.2.2) = szL n m := by
  simp [slotL, rowL, szL, List.map_map, Function.comp_def, List.map_const']
  rw [← List.append_assoc, List.replicate_append_replicate]
theorem szL_len (n m : Nat) : (szL n m).length = n + m + 9 := by simp [szL]
def okP (n m : Nat) (ls : List (List UInt8)) : Bool := decide (n = m ∧ n ≤ 6 ∧ ls.map List.length = szL n m)
def putS (n : Nat) (ls : List (List UInt8)) : List UInt8 := UInt8.ofNat n :: ls.flatten
def PutPost (w : World) (n m : Nat) (ls : List (List UInt8)) (e : Ending) (w' : World) : Prop :=
  (if okP n m ls = true then ∃ v, e = .returned (.tuple #[v, .int .i64 0]) ∧ Own w' w.heap.size 5 1 v (putS n ls).length (bs (putS n ls)) else e = .returned (.tuple #[.slice none 0 0, .int .i64 2])) ∧ Fr Nob w w'
theorem PutPost.bad {w w' : World} {n m : Nat} {ls : List (List UInt8)} {e : Ending} (h : okP n m ls = false) (he : e = .returned (.tuple #[.slice none 0 0, .int .i64 2])) (hf : Fr Nob w w') : PutPost w n m ls e w' := by
  unfold PutPost; rw [h]; exact ⟨he, hf⟩
theorem PutPost.good {w w' : World} {n m : Nat} {ls : List (List UInt8)} {v : Value} (h : okP n m ls = true) (ho : Own w' w.heap.size 5 1 v (putS n ls).length (bs (putS n ls))) (hf : Fr Nob w w') : PutPost w n m ls (.returned (.tuple #[v, .int .i64 0])) w' := by
  unfold PutPost; rw [h]; exact ⟨⟨v, rfl, ho⟩, hf⟩
theorem Prts6.still6 {w w' : World} (hf : Fr Nob w w') : ∀ {vs : List Value} {ls : List (List UInt8)}, Prts6 w vs ls → Prts6 w' vs ls
  | [], [], _ => trivial
  | _ :: _, _ :: _, h => ⟨h.1.still hf, Prts6.still6 hf h.2⟩
  | [], _ :: _, h => h.elim
  | _ :: _, [], h => h.elim
theorem map_len_get (ls : List (List UInt8)) (sz : List Nat) (h : ls.length = sz.length) (hk : ∀ k, k < sz.length → (ls.getD k []).length = sz.getD k 0) : ls.map List.length = sz := by
  apply List.ext_getElem (by simpa using h)
  intro k h1 h2
  have := hk k h2
  rw [List.length_map] at h1
  simp only [List.getD_eq_getElem?_getD, List.getElem?_eq_getElem h1, List.getElem?_eq_getElem h2, Option.getD_some] at this
  simpa using this
theorem okP_bad (n m : Nat) (ls : List (List UInt8)) (j : Nat) (hj : j < ls.length) (h : (ls.getD j []).length ≠ (szL n m).getD j 0) : okP n m ls = false := by
  unfold okP
  rw [decide_eq_false]
  rintro ⟨-, -, h3⟩
  apply h
  rw [← h3]
  simp [List.getD_eq_getElem?_getD, List.getElem?_eq_getElem hj]

theorem zero_slot : (Try.prog.info? 74).map (·.zero) = some (some (.agg #[.pointer none, .int .i64 0])) := by kernel_rfl
theorem info_slot2 : (Try.prog.info? 74).map (·.size) = some 2 := by kernel_rfl
theorem flatten_take_succ (ls : List (List UInt8)) (j : Nat) (hj : j < ls.length) : (ls.take (j + 1)).flatten = (ls.take j).flatten ++ ls.getD j [] := by
  rw [List.take_succ_eq_append_getElem hj, List.flatten_append, List.getD_eq_getElem?_getD, List.getElem?_eq_getElem hj]
  simp
set_option maxHeartbeats 4000000 in
set_option maxRecDepth 1000000 in
theorem Put6_any (A S T1 T2 Tau Mu T : Value) (aL : Option Addr) (n cL : Nat) (aR : Option Addr) (m cR : Nat) (IA IB : Value) (vL vR : List Value) (ls : List (List UInt8)) (w : World) (hL : Rd w aL n vL) (hR : Rd w aR m vR)
    (hp : Prts6 w ([A, S, T1, T2, Tau, Mu, T] ++ vL ++ vR ++ [IA, IB]) ls) (hn : n ≤ 10) (hm : m ≤ 10) (h100 : ∀ l ∈ ls, l.length ≤ 100) :
    Calls Try.prog 7 #[.agg #[A, S, T1, T2, Tau, Mu, T, .slice aL n cL, .slice aR m cR, IA, IB]] w (PutPost w n m ls) := by
  have H100 := Lib.hid h100
  clear h100
  go_enter Try.func7, Try.ntmps7
  go_wp2_with (with_reducible refine wl_stop (o := ⟨some 1, _, _, _, _, _⟩) ?_)
  unfold Stop
  refine wl_box rfl rfl rfl [A, S, T1, T2, Tau, Mu, T, .slice aL n cL, .slice aR m cR, IA, IB] rfl ?_
  intro w1 hh1 hf1 hz1
  clear hz1
  have c7 := hh1.cell (i := 7) rfl
  have c8 := hh1.cell (i := 8) rfl
  by_cases g1 : m = n
  case neg =>
    have gI : ((m : Int) == (n : Int)) = false := by simp; omega
    have gE : ¬ (m : Int) = (n : Int) := by omega
    have hbad : okP n m ls = false := by unfold okP; rw [decide_eq_false]; omega
    have HB := Lib.hid hbad
    clear hh1 hL hR hp hbad g1
    go_wp2_with fail
    go_ret2
    exact PutPost.bad HB.out rfl hf1
  subst g1
  by_cases g2 : 6 < m
  · have gI : (6 : Int) < (m : Int) := by omega
    have hbad : okP m m ls = false := by unfold okP; rw [decide_eq_false]; omega
    have HB := Lib.hid hbad
    clear hh1 hL hR hp hbad
    go_wp2_with fail
    go_ret2
    exact PutPost.bad HB.out rfl hf1
  have gI : ¬ (6 : Int) < (m : Int) := by omega
  have hsa1 := SA.all hh1 (hL.still hf1) (hR.still hf1)
  have hsaF := fun w' (hf : Fr Nob w w') (hh : Has w' w.heap.size [A, S, T1, T2, Tau, Mu, T, .slice aL m cL, .slice aR m cR, IA, IB] 27) => SA.all hh (hL.still hf) (hR.still hf)
  have hpF := fun w' (hf : Fr Nob w w') => Prts6.still6 hf hp
  have hpl := hp.len
  generalize hvs : [A, S, T1, T2, Tau, Mu, T] ++ vL ++ vR ++ [IA, IB] = vs at *
  have hLe : m ≠ 0 → ∃ b o, aL = some ⟨b, o, none⟩ := fun h => by obtain ⟨b, o, h1, -⟩ := hL.at (by omega); exact ⟨b, o, h1⟩
  have hRe : m ≠ 0 → ∃ b o, aR = some ⟨b, o, none⟩ := fun h => by obtain ⟨b, o, h1, -⟩ := hR.at (by omega); exact ⟨b, o, h1⟩
  have hslots := slots_any w.heap.size [A, S, T1, T2, Tau, Mu, T, .slice aL m cL, .slice aR m cR, IA, IB] aL m cL aR m cR
  have HVS := Lib.hid hvs
  have HSA := Lib.hid hsaF
  have HPF := Lib.hid hpF
  clear hsaF hpF
  have HSL := Lib.hid hslots
  have HH1 := Lib.hid hh1
  have HLE := Lib.hid hLe
  have HRE := Lib.hid hRe
  clear hvs hslots hh1 hLe hRe hL hR hp
  go_wp2_with (with_reducible refine wl_stop (o := ⟨some 24, _, _, _, _, _⟩) ?_)
  unfold Stop
  refine wl_one rfl rfl Try.underlying22 info_u8c (UInt8.ofNat m) ?hy ?_
  case hy =>
    show Value.int .u8 (m : Int) = _
    rw [UInt8.toNat_ofNat', Nat.mod_eq_of_lt (by omega)]
  intro w2 hh2 hf2 hz2
  clear hz2
  have hq2 := Own.made hh2 w.heap.size hf1.size 1 1 1 (Nat.le_refl _) (by decide) (by simp [bs])
  rw [List.take_of_length_le (by simp [bs])] at hq2
  have hfr2 := hf1.then hf2
  have hsa2 := hsa1.still hf2
  have hh12 := HH1.out.keep hf2 id
  clear hf1 hf2 hsa1 HH1 hh2 c7 c8
  generalize w1.heap.size = gq at *
  go_wp2_with fail
  refine (HSL.out w2 hh12 rfl rfl (by omega) (by omega) HLE.out HRE.out).mono ?_
  rintro e w3 ⟨v3, rfl, hq3, hf3⟩
  rw [← slotL_flat] at hq3
  obtain ⟨a3, c3, rfl, hc3, -, -⟩ := id hq3.form
  have hq4 := hq2.still hf3
  have hfr3 := hfr2.then hf3
  have hsa3 := hsa2.still hf3
  have hh3 := hh12.keep hf3 id
  have hq3' := hq3.mono (Nat.le_refl _)
  have hxl := slotL_len w.heap.size aL m aR m
  have hxs := slotL_sz w.heap.size aL m aR m
  have hsl := szL_len m m
  clear hq2 hfr2 hsa2 hf3 hh12 hq3' HSL HLE HRE
  generalize slotL w.heap.size aL m aR m = xs at *
  generalize hNN : m + m + 9 = N at *
  have HNN := Lib.hid hNN
  have hN21 : N ≤ 21 := by omega
  have HXS := Lib.hid hxs
  have HXL := Lib.hid hxl
  have HSZ := Lib.hid hsl
  have hll : ls.length = N := by have := hsa3.len; omega
  have HLL := Lib.hid hll
  clear hNN hxs hxl hsl hpl hll
  go_wp2_with fail
  go_loopw [27, 5] (fun i v wr => ∃ j : Nat, j ≤ N ∧ i = .int .i64 (j : Int) ∧ Own wr w.heap.size 5 1 v (1 + (ls.take j).flatten.length) (bs (UInt8.ofNat m :: (ls.take j).flatten)) ∧ (ls.take j).flatten.length ≤ j * 100 ∧ Hid (∀ k, k < j → (ls.getD k []).length = (szL m m).getD k 0) ∧ Own wr w2.heap.size 74 2 (.slice a3 N c3) N (xs.flatMap slotF) ∧ Has wr w.heap.size [A, S, T1, T2, Tau, Mu, T, .slice aL m cL, .slice aR m cR, IA, IB] 27 ∧ Fr Nob w wr) (fun i _ _ => (N - intOf i).toNat)
  case atStart => exact ⟨0, by omega, by go_num, by simpa using hq4, by simp, Lib.hid (fun k hk => by omega), hq3, hh3, hfr3⟩
  case round =>
    obtain ⟨j, hj, rfl, hq5, h100, HK, hq3j, hhj, hfj⟩ := hrel
    by_cases hlt : j < N
    · have hltI : (j : Int) < (N : Int) := by omega
      have hjx : j < xs.length := by rw [HXL.out]; exact hlt
      obtain ⟨b, o, rfl, hat⟩ := (show Rd wr a3 (N * 2) (xs.flatMap slotF) by obtain ⟨_, _, e1, -, h, -⟩ := hq3j.form; simp only [Value.slice.injEq] at e1; obtain ⟨rfl, -, rfl⟩ := e1; exact h).at (by omega)
      have hat2 : At wr b (o + j * 2) (slotF xs[j]) := by
        have := hat.sub (j * 2) 2
        rwa [flat2_get xs j hjx] at this
      clear hat
      obtain ⟨v, hv, hcv⟩ := (HSA.out wr hfj hhj).get j xs[j] (List.getElem?_eq_getElem hjx)
      obtain ⟨l, hl, a, nl, c, rfl, hnc, hn6, hrl, hold⟩ := (HPF.out wr hfj).get j v hv
      have hlj : ls.getD j [] = l := by rw [List.getD_eq_getElem?_getD, hl]; rfl
      have hnl := hrl.len
      have hl100 := H100.out l (List.mem_of_getElem? hl)
      have hszj : (szL m m).getD j 0 = xs[j].2.2 := by rw [← HXS.out]; simp [List.getD_eq_getElem?_getD, List.getElem?_eq_getElem hjx]
      generalize hxj : xs[j] = x at *
      obtain ⟨xb, xo, xn⟩ := x
      have HLJ := Lib.hid hlj
      have HSJ := Lib.hid hszj
      have HL := Lib.hid hl
      have hat3 : At wr b (o + j * 2) [.pointer (some ⟨xb, xo, none⟩), .int .i64 (xn : Int)] := hat2
      have hrl' : Rd wr a nl (bs l) := hrl
      clear hlj hszj hl hxj hv hat2 hrl hjx
      go_wp2_with (with_reducible refine wl_stop (o := ⟨some 30, _, _, _, _, _⟩) ?_)
      unfold Stop
      refine wl_loadR rfl rfl Try.underlying74 rfl rfl hat3 info_slot2 ?_
      clear hat3
      go_wp2_with (with_reducible refine wl_stop (o := ⟨some 7, _, _, _, _, _⟩) ?_)
      unfold Stop
      refine wl_alloc rfl rfl zero_slot [.pointer none, .int .i64 0] rfl ?_
      intro w4 hs4 hf4 hz4
      clear hz4
      go_wp2_with (with_reducible refine wl_stop (o := ⟨none, .store 74 _ _, _, _, _, _⟩) ?_)
      unfold Stop
      refine wl_storeA rfl rfl rfl rfl hs4 (by simp) info_slot2 (by simp; exact ⟨rfl, rfl⟩) ?_
      intro w5 hs5 hf5 hz5
      have hf45 : Fr Nob wr w5 := hf4.new hf5 (Nat.le_refl _)
      have hg7 : Has w5 wr.heap.size [.pointer (some ⟨xb, xo, none⟩), .int .i64 (xn : Int)] 74 := by simpa [splice] using hs5
      have c0 := hg7.cell (i := 0) rfl
      have c1 := hg7.cell (i := 1) rfl
      have cv := hf45.cell id hcv
      have hq6 := hq5.still hf45
      have hr6 := hrl'.still hf45
      have hf6 := hfj.then hf45
      have hq36 := hq3j.still hf45
      have hh6 := hhj.keep hf45 id
      clear hs4 hf4 hs5 hf5 hz5 hf45 hg7 hcv hrl' hq5 hfj hq3j hhj
      generalize wr.heap.size = g7 at *
      by_cases heq : nl = xn
      · have hI : (nl : Int) = (xn : Int) := by omega
        subst heq
        clear hI
        go_wp2_with fail
        go_quiet (fail)
        have hd := (Fr.refl Nob w5).drewN nq
        have d0 := hd.cell id c0
        have d1 := hd.cell id c1
        have dv := hd.cell id cv
        have hq7 := hq6.still hd
        have hr7 := hr6.still hd
        have hf7 := hf6.then hd
        have hq37 := hq36.still hd
        have hh7 := hh6.keep hd id
        clear hq6 hr6 hf6 hd c0 c1 cv hq36 hh6
        generalize w5.drewN nq = w7 at *
        have hsz7 := hf7.size
        go_wp2_with (with_reducible refine wl_stop (o := ⟨some 44, _, _, _, _, _⟩) ?_)
        unfold Stop
        refine wl_append rfl rfl Try.underlying22 info_u8c rfl (by decide) hq7 rfl rfl (by rw [Nat.mul_one]; exact hr7) (bs_one _) (by unfold maxLen; omega) (by omega) hsz7 ?_
        intro v8 w8 hq8 hf8 hb8
        clear hb8
        have hf9 : Fr Nob w w8 := hf7.trans hf8 (fun k hk t => by have := (hq7.lt t).1; omega)
        have hq39 := hq37.keep hf8 (fun k hk hk' => hq37.ne2 hq7 (by decide) k hk hk')
        have hh9 := hh7.keep hf8 (hq7.ne hh7 (by decide))
        have hft : (ls.take (j + 1)).flatten = (ls.take j).flatten ++ l := by rw [flatten_take_succ ls j (by rw [HLL.out]; exact hlt), HLJ.out]
        have hq9 : Own w8 w.heap.size 5 1 v8 (1 + (ls.take (j + 1)).flatten.length) (bs (UInt8.ofNat m :: (ls.take (j + 1)).flatten)) := by
          rw [hft, List.length_append, hnl, ← Nat.add_assoc, ← List.cons_append, bs_append]
          exact hq8
        have h1009 : (ls.take (j + 1)).flatten.length ≤ (j + 1) * 100 := by rw [hft, List.length_append]; omega
        have HK9 : Hid (∀ k, k < j + 1 → (ls.getD k []).length = (szL m m).getD k 0) := Lib.hid (fun k hk => by
          rcases Nat.lt_or_ge k j with h | h
          · exact HK.out k h
          · obtain rfl : k = j := by omega
            rw [HLJ.out, HSJ.out, hnl])
        clear hq7 hr7 hf7 hf8 hq8 hft d0 d1 dv hq37 hh7
        go_wp2_with fail
        go_roundw
        case rel => exact ⟨j + 1, by omega, by go_num, hq9, h1009, HK9, hq39, hh9, hf9⟩
        case measure => simp [intOf]; omega
      · have hI : ¬ (nl : Int) = (xn : Int) := by omega
        have hbad : okP m m ls = false := okP_bad m m ls j (by rw [HLL.out]; exact hlt) (by rw [HLJ.out, HSJ.out, hnl]; exact heq)
        have HB := Lib.hid hbad
        clear hbad heq
        go_wp2_with fail
        go_quiet (fail)
        go_wp2_with fail
        go_ret2
        exact PutPost.bad HB.out rfl (hf6.then ((Fr.refl Nob _).drewN _))
    · have hltI : ¬ (j : Int) < (N : Int) := by omega
      have hjN : j = N := by omega
      have htk : ls.take j = ls := List.take_of_length_le (by rw [HLL.out, hjN]; exact Nat.le_refl _)
      rw [htk] at hq5
      have hok : okP m m ls = true := by
        unfold okP
        rw [decide_eq_true]
        refine ⟨rfl, by omega, map_len_get ls _ (by rw [HLL.out, HSZ.out]) (fun k hk => HK.out k (by rw [HSZ.out] at hk; omega))⟩
      have hq9 : Own wr w.heap.size 5 1 u5 (putS m ls).length (bs (putS m ls)) := by
        have e : (putS m ls).length = 1 + ls.flatten.length := by simp [putS]; omega
        rw [e]; exact hq5
      have HOK := Lib.hid hok
      clear hok htk hjN hq5 h100
      go_wp2_with fail
      go_ret2
      exact PutPost.good HOK.out hq9 hfj
end Go.Proofs.Ytdadnajbdnbbdaa

/- mintvaultref6.sizes. -/
namespace Go.Proofs.Ytdadnajbdnbbdaa
open Go.RowKit Go.Mv Mvp
def szB (n m : Nat) (ps ss : List Value) : Bool := ps.all (fun v => decide (slLen v = 33)) && ss.all (fun v => decide (slLen v = 32)) && decide (n = m) && decide (n ≤ 6)
theorem szB_p (n m : Nat) (ps ss : List Value) (v : Value) (hv : v ∈ ps) (h : slLen v ≠ 33) : szB n m ps ss = false := by
  unfold szB
  have : ps.all (fun v => decide (slLen v = 33)) = false := by
    rw [List.all_eq_false]; exact ⟨v, hv, by simpa using h⟩
  rw [this]; rfl
theorem szB_s (n m : Nat) (ps ss : List Value) (v : Value) (hv : v ∈ ss) (h : slLen v ≠ 32) : szB n m ps ss = false := by
  unfold szB
  have : ss.all (fun v => decide (slLen v = 32)) = false := by
    rw [List.all_eq_false]; exact ⟨v, hv, by simpa using h⟩
  rw [this]; simp
theorem szB_end (n m : Nat) (ps ss : List Value) (hp : ∀ v ∈ ps, slLen v = 33) (hs : ∀ v ∈ ss, slLen v = 32) : szB n m ps ss = (decide (n = m) && decide (n ≤ 6)) := by
  unfold szB
  have h1 : ps.all (fun v => decide (slLen v = 33)) = true := by rw [List.all_eq_true]; intro v hv; simpa using hp v hv
  have h2 : ss.all (fun v => decide (slLen v = 32)) = true := by rw [List.all_eq_true]; intro v hv; simpa using hs v hv
  rw [h1, h2]; rfl
theorem all_of_get {ps : List Value} {N c : Nat} (hl : ps.length = N) (h : ∀ k, k < N → ∀ v, ps[k]? = some v → slLen v = c) : ∀ v ∈ ps, slLen v = c := fun v hv => by
  obtain ⟨k, hk⟩ := List.getElem?_of_mem hv
  refine h k ?_ v hk
  rcases Nat.lt_or_ge k ps.length with h1 | h1
  · omega
  · rw [List.getElem?_eq_none h1] at hk; cases hk
set_option maxHeartbeats 4000000 in
set_option maxRecDepth 1000000 in
theorem sizes6_any (A S T1 T2 Tau Mu T : Value) (aL : Option Addr) (n cL : Nat) (aR : Option Addr) (m cR : Nat) (IA IB : Value) (vL vR : List Value) (w : World) (hn : n ≤ 10) (hm : m ≤ 10) (hL : Rd w aL n vL) (hR : Rd w aR m vR)
    (h1L : ∀ u ∈ vL, IsSl u) (h1R : ∀ u ∈ vR, IsSl u) (hs : ∀ v ∈ [A, S, T1, T2, Tau, Mu, T, IA, IB], IsSl v) :
    Calls Try.prog 30 #[.agg #[A, S, T1, T2, Tau, Mu, T, .slice aL n cL, .slice aR m cR, IA, IB]] w fun e w' => e = .returned (.bool (szB n m ([A, S, T1, T2] ++ vL ++ vR) [Tau, Mu, T, IA, IB])) ∧ Fr Nob w w' := by
  have H1L := Lib.hid h1L
  have H1R := Lib.hid h1R
  have hs' : ∀ v ∈ [Tau, Mu, T, IA, IB], IsSl v := fun v hv => hs v (List.mem_append_right [A, S, T1, T2] hv)
  obtain ⟨xA, nA, cA, rfl⟩ := hs A (by simp)
  obtain ⟨xS, nS, cS, rfl⟩ := hs S (by simp)
  obtain ⟨x1, n1, c1, rfl⟩ := hs T1 (by simp)
  obtain ⟨x2, n2, c2, rfl⟩ := hs T2 (by simp)
  have HS := Lib.hid hs'
  clear h1L h1R hs hs'
  obtain ⟨B, hB⟩ : ∃ B, B = szB n m ([.slice xA nA cA, .slice xS nS cS, .slice x1 n1 c1, .slice x2 n2 c2] ++ vL ++ vR) [Tau, Mu, T, IA, IB] := ⟨_, rfl⟩
  rw [← hB]
  have HB := Lib.hid hB
  clear hB
  go_enter Try.func30, Try.ntmps30
  go_wp2_with (with_reducible refine wl_stop (o := ⟨some 1, _, _, _, _, _⟩) ?_)
  unfold Stop
  refine wl_box rfl rfl rfl [.slice xA nA cA, .slice xS nS cS, .slice x1 n1 c1, .slice x2 n2 c2, Tau, Mu, T, .slice aL n cL, .slice aR m cR, IA, IB] rfl ?_
  intro w1 hh1 hf1 hz1
  clear hz1
  have mks : ∀ w', Fr Nob w1 w' → Fr Nob w1 w' ∧ w'.cell? ⟨w.heap.size, 0, none⟩ = some (.slice xA nA cA) ∧ w'.cell? ⟨w.heap.size, 1, none⟩ = some (.slice xS nS cS) ∧ w'.cell? ⟨w.heap.size, 2, none⟩ = some (.slice x1 n1 c1) ∧ w'.cell? ⟨w.heap.size, 3, none⟩ = some (.slice x2 n2 c2) ∧ w'.cell? ⟨w.heap.size, 7, none⟩ = some (.slice aL n cL) ∧ w'.cell? ⟨w.heap.size, 8, none⟩ = some (.slice aR m cR) :=
    fun w' hf => ⟨hf, hf.cell id (hh1.cell (i := 0) rfl), hf.cell id (hh1.cell (i := 1) rfl), hf.cell id (hh1.cell (i := 2) rfl), hf.cell id (hh1.cell (i := 3) rfl), hf.cell id (hh1.cell (i := 7) rfl), hf.cell id (hh1.cell (i := 8) rfl)⟩
  have MKS := Lib.hid mks
  have HH1 := Lib.hid hh1
  have hL1 := hL.still hf1
  have hR1 := hR.still hf1
  have HL1 := Lib.hid hL1
  have HR1 := Lib.hid hR1
  clear mks hh1 hL hR hL1 hR1
  have hal : Fr Nob w1 ((w1.alloc (.cells #[.slice xA nA cA, .slice xS nS cS, .slice x1 n1 c1, .slice x2 n2 c2] 22)).drew) := ((Fr.refl Nob w1).alloc _).drew
  have hq4 : Own ((w1.alloc (.cells #[.slice xA nA cA, .slice xS nS cS, .slice x1 n1 c1, .slice x2 n2 c2] 22)).drew) w1.heap.size 22 1 (.slice (some ⟨w1.heap.size, 0, none⟩) 4 4) 4 [.slice xA nA cA, .slice xS nS cS, .slice x1 n1 c1, .slice x2 n2 c2] :=
    (Own.made (Has.new w1 #[.slice xA nA cA, .slice xS nS cS, .slice x1 n1 c1, .slice x2 n2 c2] 22) w1.heap.size (Nat.le_refl _) 1 4 4 (Nat.le_refl _) (by decide) (by simp)).still ((Fr.refl Nob _).drew)
  have HQ4 := Lib.hid hq4
  have hsa := hal.size
  clear hq4
  go_wp2_with fail
  go_region_held3 (fun w' => Fr Nob w1 w' ∧ w'.cell? ⟨w.heap.size, 0, none⟩ = some (.slice xA nA cA) ∧ w'.cell? ⟨w.heap.size, 1, none⟩ = some (.slice xS nS cS) ∧ w'.cell? ⟨w.heap.size, 2, none⟩ = some (.slice x1 n1 c1) ∧ w'.cell? ⟨w.heap.size, 3, none⟩ = some (.slice x2 n2 c2) ∧ w'.cell? ⟨w.heap.size, 7, none⟩ = some (.slice aL n cL) ∧ w'.cell? ⟨w.heap.size, 8, none⟩ = some (.slice aR m cR))
    (first | (exact MKS.out _ (Fr.refl _ _)) | (exact MKS.out _ hal) | (exact MKS.out _ ((Fr.refl Nob w1).drew)) | (exact MKS.out _ ((Fr.refl Nob w1).alloc _)) | (exact MKS.out _ (HQ4.out.fr hal (Nat.le_refl _) hf5)) | (exact MKS.out _ (hq5.fr (HQ4.out.fr hal (Nat.le_refl _) hf5) (Nat.le_refl _) hf6)))
    (first | (refine step_append rfl rfl Try.underlying23 info_sl rfl (by decide) HQ4.out rfl rfl (by rw [Nat.mul_one]; exact HL1.out.still hal) (fun u hu => (H1L.out u hu).one) (by unfold maxLen; omega) (by omega) hsa ?_; intro v5 w5 hq5 hf5)
           | (refine step_append rfl rfl Try.underlying23 info_sl rfl (by decide) hq5 rfl rfl (by rw [Nat.mul_one]; exact HR1.out.still (HQ4.out.fr hal (Nat.le_refl _) hf5)) (fun u hu => (H1R.out u hu).one) (by unfold maxLen; omega) (by omega) (HQ4.out.fr hal (Nat.le_refl _) hf5).size ?_; intro v6 w6 hq6 hf6))
  have hf16 : Fr Nob w1 w6 := And.left (by assumption)
  have hh6 := HH1.out.keep hf16 id
  have d4 := hh6.cell (i := 4) rfl
  have d5 := hh6.cell (i := 5) rfl
  have d6 := hh6.cell (i := 6) rfl
  have d7 := hh6.cell (i := 7) rfl
  have d8 := hh6.cell (i := 8) rfl
  have d9 := hh6.cell (i := 9) rfl
  have d10 := hh6.cell (i := 10) rfl
  have hf06 := hf1.then hf16
  clear hf5 hq5 hf6 hal hsa HQ4 MKS HH1 HL1 HR1 hf16 hf1
  generalize w1.heap.size = gq at *
  go_wp2_with (with_reducible refine wl_stop (o := ⟨some 36, _, _, _, _, _⟩) ?_)
  unfold Stop
  refine wl_slit rfl rfl Try.underlying23 info_sl [Tau, Mu, T, IA, IB] rfl (fun v hv => (HS.out v hv).cells) rfl rfl ?_
  intro w7 hh7 hf7 hz7
  clear hz7
  have hq7 := hq6.still hf7
  have hf07 := hf06.then hf7
  have e7 := hf7.cell id d7
  have e8 := hf7.cell id d8
  obtain ⟨a6, c6, rfl, hc6, hr6, -⟩ := hq7.form
  rw [Nat.mul_one] at hr6
  have hr7 := Rd.whole hh7
  have hall : ∀ v ∈ [.slice xA nA cA, .slice xS nS cS, .slice x1 n1 c1, .slice x2 n2 c2] ++ vL ++ vR, IsSl v := fun v hv => by
    simp only [List.mem_append] at hv
    rcases hv with (hv | hv) | hv
    · simp only [List.mem_cons, List.not_mem_nil, or_false] at hv
      rcases hv with h | h | h | h <;> rw [h] <;> exact ⟨_, _, _, rfl⟩
    · exact H1L.out v hv
    · exact H1R.out v hv
  have HALL := Lib.hid hall
  clear hall hq6 hq7 hf7 hf06 hh6 d4 d5 d6 d7 d8 d9 d10 hh7
  generalize [.slice xA nA cA, .slice xS nS cS, .slice x1 n1 c1, .slice x2 n2 c2] ++ vL ++ vR = ps at *
  have hss5 : ([Tau, Mu, T, IA, IB] : List Value).length = 5 := rfl
  generalize [Tau, Mu, T, IA, IB] = sv at *
  have hpl := hr6.len
  have hN14 : 4 + n + m ≤ 24 := by omega
  generalize hNN : 4 + n + m = N at *
  have HNN := Lib.hid hNN
  have HPL := Lib.hid hpl
  have HSL := Lib.hid hss5
  clear hNN hpl hss5
  generalize w6.heap.size = g6 at *
  go_wp2_with fail
  go_loopw [5] (fun i wr => ∃ j : Nat, j ≤ N ∧ i = .int .i64 (j : Int) ∧ w7 = wr ∧ Hid (∀ k, k < j → ∀ v, ps[k]? = some v → slLen v = 33)) (fun i _ => (N - intOf i).toNat)
  case atStart => exact ⟨0, by omega, by go_num, rfl, Lib.hid (fun k hk => by omega)⟩
  case round =>
    obtain ⟨j, hj, rfl, rfl, HK⟩ := hrel
    by_cases hlt : j < N
    · have hltI : (j : Int) < (N : Int) := by omega
      obtain ⟨b, o, rfl, hat⟩ := hr6.at (by omega)
      obtain ⟨x, hx⟩ : ∃ x, ps[j]? = some x := ⟨_, List.getElem?_eq_getElem (by rw [HPL.out]; exact hlt)⟩
      have hcx := hat j x hx
      obtain ⟨ax, nx, cx, rfl⟩ := HALL.out x (List.mem_of_getElem? hx)
      have HX := Lib.hid hx; clear hx
      clear hat
      by_cases g3 : nx = 33
      · have gI3 : (nx : Int) = 33 := by omega
        go_wp2_with fail
        go_roundw
        case rel => exact ⟨j + 1, by omega, by go_num, trivial, Lib.hid (fun k hk v hv => by
          rcases Nat.lt_or_ge k j with h | h
          · exact HK.out k h v hv
          · obtain rfl : k = j := by omega
            rw [HX.out] at hv; cases hv; exact g3)⟩
        case measure => simp [intOf]; omega
      · have gI3 : ¬ (nx : Int) = 33 := by omega
        go_wp2_with fail
        go_ret
        exact ⟨by rw [HB.out, szB_p n m ps sv _ (List.mem_of_getElem? HX.out) g3]; rfl, hf07⟩
    · have hltI : ¬ (j : Int) < (N : Int) := by omega
      have hjN : j = N := by omega
      have hP33 := all_of_get HPL.out (fun k hk => HK.out k (by rw [hjN]; exact hk))
      have HP33 := Lib.hid hP33
      clear hP33 hjN hlt hj HK
      go_wp2_with fail
      go_loopw [6] (fun i wr => ∃ j : Nat, j ≤ 5 ∧ i = .int .i64 (j : Int) ∧ w7 = wr ∧ Hid (∀ k, k < j → ∀ v, sv[k]? = some v → slLen v = 32)) (fun i _ => (5 - intOf i).toNat)
      case atStart => exact ⟨0, by omega, by go_num, rfl, Lib.hid (fun k hk => by omega)⟩
      case round =>
        obtain ⟨j, hj, rfl, rfl, HK⟩ := hrel
        by_cases hlt : j < 5
        · have hltI : (j : Int) < 5 := by omega
          obtain ⟨b, o, hbo, hat⟩ := hr7.at (by rw [HSL.out]; decide)
          simp only [Option.some.injEq, Addr.mk.injEq, and_true] at hbo
          obtain ⟨rfl, rfl⟩ := hbo
          obtain ⟨x, hx⟩ : ∃ x, sv[j]? = some x := ⟨_, List.getElem?_eq_getElem (by rw [HSL.out]; exact hlt)⟩
          have hcx := hat j x hx
          rw [Nat.zero_add] at hcx
          obtain ⟨ax, nx, cx, rfl⟩ := HS.out x (List.mem_of_getElem? hx)
          have HX := Lib.hid hx; clear hx
          clear hat
          by_cases g3 : nx = 32
          · have gI3 : (nx : Int) = 32 := by omega
            go_wp2_with fail
            go_roundw
            case rel => exact ⟨j + 1, by omega, by go_num, trivial, Lib.hid (fun k hk v hv => by
              rcases Nat.lt_or_ge k j with h | h
              · exact HK.out k h v hv
              · obtain rfl : k = j := by omega
                rw [HX.out] at hv; cases hv; exact g3)⟩
            case measure => simp [intOf]; omega
          · have gI3 : ¬ (nx : Int) = 32 := by omega
            go_wp2_with fail
            go_ret
            exact ⟨by rw [HB.out, szB_s n m ps sv _ (List.mem_of_getElem? HX.out) g3]; rfl, hf07⟩
        · have hltI : ¬ (j : Int) < 5 := by omega
          have hjN : j = 5 := by omega
          have hS32 := all_of_get HSL.out (fun k hk => HK.out k (by rw [hjN]; exact hk))
          have hBe : B = (decide (n = m) && decide (n ≤ 6)) := by rw [HB.out]; exact szB_end n m ps sv HP33.out hS32
          have HBE := Lib.hid hBe
          clear hBe hS32 hjN hlt hj HK HB HP33
          by_cases g1 : n = m
          · have gI : (n : Int) = (m : Int) := by omega
            by_cases g2 : n ≤ 6
            · have gI2 : (n : Int) ≤ 6 := by omega
              go_wp2_with fail
              go_ret
              exact ⟨by rw [HBE.out, decide_eq_true g1, decide_eq_true g2]; exact congrArg (fun b => Ending.returned (.bool b)) (show decide ((m : Int) ≤ 6) = true from decide_eq_true (by omega)), hf07⟩
            · have gI2 : ¬ (n : Int) ≤ 6 := by omega
              go_wp2_with fail
              go_ret
              exact ⟨by rw [HBE.out, decide_eq_true g1, decide_eq_false g2]; exact congrArg (fun b => Ending.returned (.bool b)) (show decide ((m : Int) ≤ 6) = false from decide_eq_false (by omega)), hf07⟩
          · have gI : ¬ (n : Int) = (m : Int) := by omega
            go_wp2_with fail
            go_ret
            exact ⟨by rw [HBE.out, decide_eq_false g1]; rfl, hf07⟩
end Go.Proofs.Ytdadnajbdnbbdaa

/- mintvaultref6.sizes answers as span.Put does. -/
namespace Go.Proofs.Ytdadnajbdnbbdaa
open Go.RowKit Go.Mv Mvp

theorem Prt6.slLen {w : World} {v : Value} {l : List UInt8} (h : Prt6 w v l) : slLen v = l.length := by
  obtain ⟨a, n, c, rfl, _, _, h, _⟩ := h
  exact h.len.symm
theorem Prts6.map_len {w : World} : ∀ {vs : List Value} {ls : List (List UInt8)}, Prts6 w vs ls → ls.map List.length = vs.map slLen
  | [], [], _ => rfl
  | _ :: _, _ :: _, h => by rw [List.map_cons, List.map_cons, Prts6.map_len h.2, Prt6.slLen h.1]
  | [], _ :: _, h => h.elim
  | _ :: _, [], h => h.elim
theorem map_rep (vs : List Value) (n c : Nat) (hl : vs.length = n) : vs.map slLen = List.replicate n c ↔ ∀ v ∈ vs, slLen v = c := by
  rw [List.eq_replicate_iff]
  simp [hl]
theorem szB_okP {w : World} {A S T1 T2 Tau Mu T IA IB : Value} {vL vR : List Value} {ls : List (List UInt8)} {n m : Nat} (hp : Prts6 w ([A, S, T1, T2, Tau, Mu, T] ++ vL ++ vR ++ [IA, IB]) ls) (hL : vL.length = n) (hR : vR.length = m) :
    szB n m ([A, S, T1, T2] ++ vL ++ vR) [Tau, Mu, T, IA, IB] = okP n m ls := by
  have hm := Prts6.map_len hp
  have e : ([A, S, T1, T2, Tau, Mu, T] ++ vL ++ vR ++ [IA, IB]).map slLen = szL n m ↔ (∀ v ∈ [A, S, T1, T2] ++ vL ++ vR, slLen v = 33) ∧ (∀ v ∈ [Tau, Mu, T, IA, IB], slLen v = 32) := by
    unfold szL
    simp only [List.map_append, List.map_cons, List.map_nil]
    constructor
    · intro h
      obtain ⟨h1, h4⟩ := List.append_inj h (by simp [hL, hR])
      obtain ⟨h1, h3⟩ := List.append_inj h1 (by simp [hL])
      obtain ⟨h1, h2⟩ := List.append_inj h1 (by simp)
      rw [map_rep _ _ _ hL] at h2
      rw [map_rep _ _ _ hR] at h3
      simp only [List.cons.injEq, and_true] at h1 h4
      obtain ⟨a1, a2, a3, a4, a5, a6, a7⟩ := h1
      obtain ⟨a8, a9⟩ := h4
      constructor
      · intro v hv
        simp only [List.mem_append, List.mem_cons, List.not_mem_nil, or_false] at hv
        rcases hv with ((h | h | h | h) | h) | h
        · rw [h]; exact a1
        · rw [h]; exact a2
        · rw [h]; exact a3
        · rw [h]; exact a4
        · exact h2 v h
        · exact h3 v h
      · intro v hv
        simp only [List.mem_cons, List.not_mem_nil, or_false] at hv
        rcases hv with h | h | h | h | h <;> rw [h] <;> assumption
    · rintro ⟨h1, h2⟩
      have k1 : vL.map slLen = List.replicate n 33 := (map_rep _ _ _ hL).2 (fun v hv => h1 v (by simp [hv]))
      have k2 : vR.map slLen = List.replicate m 33 := (map_rep _ _ _ hR).2 (fun v hv => h1 v (by simp [hv]))
      rw [k1, k2, h1 A (by simp), h1 S (by simp), h1 T1 (by simp), h1 T2 (by simp), h2 Tau (by simp), h2 Mu (by simp), h2 T (by simp), h2 IA (by simp), h2 IB (by simp)]
  unfold szB okP
  rw [hm, Bool.eq_iff_iff]
  simp only [Bool.and_eq_true, List.all_eq_true, decide_eq_true_eq]
  rw [e]
  constructor
  · rintro ⟨⟨⟨h1, h2⟩, h3⟩, h4⟩; exact ⟨h3, h4, h1, h2⟩
  · rintro ⟨h3, h4, h1, h2⟩; exact ⟨⟨⟨h1, h2⟩, h3⟩, h4⟩
end Go.Proofs.Ytdadnajbdnbbdaa

/- mintvaultref6.Put. (under way) -/
namespace Go.Proofs.Ytdadnajbdnbbdaa
open Go.RowKit Go.Mv Mvp
def RPutPost (w : World) (n m : Nat) (ls : List (List UInt8)) (e : Ending) (w' : World) : Prop :=
  (if okP n m ls = true then e = .returned (.tuple #[.string (mkS (putS n ls)), .int .i64 0]) else e = .returned (.tuple #[.string ⟨#[]⟩, .int .i64 2])) ∧ Fr Nob w w'
theorem RPutPost.bad {w w' : World} {n m : Nat} {ls : List (List UInt8)} {e : Ending} (h : okP n m ls = false) (he : e = .returned (.tuple #[.string ⟨#[]⟩, .int .i64 2])) (hf : Fr Nob w w') : RPutPost w n m ls e w' := by
  unfold RPutPost; rw [h]; exact ⟨he, hf⟩
theorem RPutPost.good {w w' : World} {n m : Nat} {ls : List (List UInt8)} {e : Ending} (h : okP n m ls = true) (he : e = .returned (.tuple #[.string (mkS (putS n ls)), .int .i64 0])) (hf : Fr Nob w w') : RPutPost w n m ls e w' := by
  unfold RPutPost; rw [h]; exact ⟨he, hf⟩
theorem Prts6.split {w : World} : ∀ {va vb : List Value} {ls : List (List UInt8)}, Prts6 w (va ++ vb) ls → ∃ la lb, ls = la ++ lb ∧ Prts6 w va la ∧ Prts6 w vb lb
  | [], _, ls, h => ⟨[], ls, rfl, trivial, h⟩
  | _ :: _, _, l :: _, h => by
    obtain ⟨la, lb, e, h1, h2⟩ := Prts6.split h.2
    exact ⟨l :: la, lb, by rw [e]; rfl, ⟨h.1, h1⟩, h2⟩
  | _ :: _, _, [], h => h.elim
theorem Prts6.cons1 {w : World} {v : Value} {vs : List Value} {ls : List (List UInt8)} (h : Prts6 w (v :: vs) ls) : ∃ l ls', ls = l :: ls' ∧ Prt6 w v l ∧ Prts6 w vs ls' := by
  cases ls with
  | nil => exact h.elim
  | cons l ls' => exact ⟨l, ls', rfl, h.1, h.2⟩
theorem Prts6.nil1 {w : World} {ls : List (List UInt8)} (h : Prts6 w [] ls) : ls = [] := by
  cases ls with
  | nil => rfl
  | cons l ls' => exact h.elim
set_option maxHeartbeats 4000000 in
set_option maxRecDepth 1000000 in
theorem RPut6_any (A S T1 T2 Tau Mu T : Value) (aL : Option Addr) (n cL : Nat) (aR : Option Addr) (m cR : Nat) (IA IB : Value) (vL vR : List Value) (ls : List (List UInt8)) (w : World) (hL : Rd w aL n vL) (hR : Rd w aR m vR)
    (h1L : ∀ u ∈ vL, IsSl u) (h1R : ∀ u ∈ vR, IsSl u) (hs : ∀ v ∈ [A, S, T1, T2, Tau, Mu, T, IA, IB], IsSl v)
    (hp : Prts6 w ([A, S, T1, T2, Tau, Mu, T] ++ vL ++ vR ++ [IA, IB]) ls) (hn : n ≤ 10) (hm : m ≤ 10) (h100 : ∀ l ∈ ls, l.length ≤ 100) :
    Calls Try.prog 8 #[.agg #[A, S, T1, T2, Tau, Mu, T, .slice aL n cL, .slice aR m cR, IA, IB]] w (RPutPost w n m ls) := by
  have hsz := fun w' (hf : Fr Nob w w') => sizes6_any A S T1 T2 Tau Mu T aL n cL aR m cR IA IB vL vR w' hn hm (hL.still hf) (hR.still hf) h1L h1R hs
  have hB := szB_okP hp hL.len hR.len
  rw [hB] at hsz
  obtain ⟨ok, hok⟩ : ∃ ok, ok = okP n m ls := ⟨_, rfl⟩
  rw [← hok] at hsz
  have HSZ := Lib.hid hsz
  have HOK := Lib.hid hok
  clear hsz hB hok
  go_enter Try.func8, Try.ntmps8
  go_wp2_with (with_reducible refine wl_stop (o := ⟨some 1, _, _, _, _, _⟩) ?_)
  unfold Stop
  refine wl_box rfl rfl rfl [A, S, T1, T2, Tau, Mu, T, .slice aL n cL, .slice aR m cR, IA, IB] rfl ?_
  intro w1 hh1 hf1 hz1
  clear hz1
  have hat : At w1 w.heap.size 0 [A, S, T1, T2, Tau, Mu, T, .slice aL n cL, .slice aR m cR, IA, IB] := fun j v hv => by
    rw [Nat.zero_add]; exact hh1.cell hv
  go_wp2_with (with_reducible refine wl_stop (o := ⟨some 8, _, _, _, _, _⟩) ?_)
  unfold Stop
  refine wl_loadR rfl rfl Try.underlying27 rfl rfl hat info_range ?_
  clear hat
  go_wp2_with fail
  refine (HSZ.out w1 hf1).mono ?_
  rintro e w2 ⟨rfl, hf2⟩
  have hf02 := hf1.then hf2
  cases ok with
  | false =>
    clear hh1 hf1 hf2 hL hR hp
    go_wp2_with fail
    go_ret2
    exact RPutPost.bad HOK.out.symm rfl hf02
  | true =>
    have hnm : n = m ∧ n ≤ 6 := by
      have h := HOK.out
      unfold okP at h
      have h' := of_decide_eq_true h.symm
      exact ⟨h'.1, h'.2.1⟩
    obtain ⟨rfl, hn6⟩ := hnm
    have hh2 := hh1.keep hf2 id
    have d0 := hh2.cell (i := 0) rfl
    have d7 := hh2.cell (i := 7) rfl
    go_wp2_with (with_reducible refine wl_stop (o := ⟨some 17, _, _, _, _, _⟩) ?_)
    unfold Stop
    refine wl_one rfl rfl Try.underlying22 info_u8c (UInt8.ofNat n) ?hy ?_
    case hy =>
      show Value.int .u8 (n : Int) = _
      rw [UInt8.toNat_ofNat', Nat.mod_eq_of_lt (by omega)]
    intro w3 hh3 hf3 hz3
    clear hz3
    have hh4 := hh2.keep hf3 id
    have hp3 := Prts6.still6 (hf02.then hf3) hp
    obtain ⟨l123, lI, el1, hp123, hpI⟩ := Prts6.split hp3
    obtain ⟨l12, lR, el2, hp12, hpR⟩ := Prts6.split hp123
    obtain ⟨lH, lL, el3, hpH, hpL⟩ := Prts6.split hp12
    obtain ⟨lA, lx1, rfl, pA, hpH⟩ := Prts6.cons1 hpH
    obtain ⟨lS, lx2, rfl, pS, hpH⟩ := Prts6.cons1 hpH
    obtain ⟨l1, lx3, rfl, p1, hpH⟩ := Prts6.cons1 hpH
    obtain ⟨l2, lx4, rfl, p2, hpH⟩ := Prts6.cons1 hpH
    obtain ⟨lTau, lx5, rfl, pTau, hpH⟩ := Prts6.cons1 hpH
    obtain ⟨lMu, lx6, rfl, pMu, hpH⟩ := Prts6.cons1 hpH
    obtain ⟨lT, lx7, rfl, pT, hpH⟩ := Prts6.cons1 hpH
    obtain rfl := Prts6.nil1 hpH
    obtain ⟨lIA, ly1, rfl, pIA, hpI⟩ := Prts6.cons1 hpI
    obtain ⟨lIB, ly2, rfl, pIB, hpI⟩ := Prts6.cons1 hpI
    obtain rfl := Prts6.nil1 hpI
    obtain ⟨xA, nA, kA, rfl, -, -, rA, -⟩ := pA
    obtain ⟨xS, nS, kS, rfl, -, -, rS, -⟩ := pS
    obtain ⟨x1, n1, k1, rfl, -, -, r1, -⟩ := p1
    obtain ⟨x2, n2, k2, rfl, -, -, r2, -⟩ := p2
    obtain ⟨xTau, nTau, kTau, rfl, -, -, rTau, -⟩ := pTau
    obtain ⟨xMu, nMu, kMu, rfl, -, -, rMu, -⟩ := pMu
    obtain ⟨xT, nT, kT, rfl, -, -, rT, -⟩ := pT
    obtain ⟨xIA, nIA, kIA, rfl, -, -, rIA, -⟩ := pIA
    obtain ⟨xIB, nIB, kIB, rfl, -, -, rIB, -⟩ := pIB
    have c0 := hh4.cell (i := 0) rfl
    have f0 := run_string (P := Try.prog) rA kA Try.underlying22 Try.underlying5 Try.underlying9
    have c1 := hh4.cell (i := 1) rfl
    have f1 := run_string (P := Try.prog) rS kS Try.underlying22 Try.underlying5 Try.underlying9
    have c2 := hh4.cell (i := 2) rfl
    have f2 := run_string (P := Try.prog) r1 k1 Try.underlying22 Try.underlying5 Try.underlying9
    have c3 := hh4.cell (i := 3) rfl
    have f3 := run_string (P := Try.prog) r2 k2 Try.underlying22 Try.underlying5 Try.underlying9
    have c4 := hh4.cell (i := 4) rfl
    have f4 := run_string (P := Try.prog) rTau kTau Try.underlying22 Try.underlying5 Try.underlying9
    have c5 := hh4.cell (i := 5) rfl
    have f5 := run_string (P := Try.prog) rMu kMu Try.underlying22 Try.underlying5 Try.underlying9
    have c6 := hh4.cell (i := 6) rfl
    have f6 := run_string (P := Try.prog) rT kT Try.underlying22 Try.underlying5 Try.underlying9
    have c7 := hh4.cell (i := 7) rfl
    have hb3 : RdB w3 (some ⟨w2.heap.size, 0, none⟩) 1 [UInt8.ofNat n] := Rd.whole hh3
    have f8 := run_string (P := Try.prog) hb3 1 Try.underlying22 Try.underlying5 Try.underlying9
    have hel : ls = [lA, lS, l1, l2, lTau, lMu, lT] ++ lL ++ lR ++ [lIA, lIB] := by rw [el1, el2, el3]
    have HEL := Lib.hid hel
    clear hel el1 el2 el3
    have blA := h100 lA (by rw [HEL.out]; simp)
    have blS := h100 lS (by rw [HEL.out]; simp)
    have bl1 := h100 l1 (by rw [HEL.out]; simp)
    have bl2 := h100 l2 (by rw [HEL.out]; simp)
    have blTau := h100 lTau (by rw [HEL.out]; simp)
    have blMu := h100 lMu (by rw [HEL.out]; simp)
    have blT := h100 lT (by rw [HEL.out]; simp)
    have blIA := h100 lIA (by rw [HEL.out]; simp)
    have blIB := h100 lIB (by rw [HEL.out]; simp)
    have hap : ∀ l m : List UInt8, mkS l ++ mkS m = mkS (l ++ m) := mkS_append
    have z0 : ¬ 9223372036854775807 < (mkS ([UInt8.ofNat n])).size + (mkS lA).size := by
      rw [mkS_size, mkS_size]; simp only [List.length_cons, List.length_nil]; omega
    have z1 : ¬ 9223372036854775807 < (mkS (UInt8.ofNat n :: lA)).size + (mkS lS).size := by
      rw [mkS_size, mkS_size]; simp only [List.length_cons]; omega
    have z2 : ¬ 9223372036854775807 < (mkS (UInt8.ofNat n :: (lA ++ lS))).size + (mkS l1).size := by
      rw [mkS_size, mkS_size]; simp only [List.length_append, List.length_cons]; omega
    have z3 : ¬ 9223372036854775807 < (mkS (UInt8.ofNat n :: (lA ++ (lS ++ l1)))).size + (mkS l2).size := by
      rw [mkS_size, mkS_size]; simp only [List.length_append, List.length_cons]; omega
    have z4 : ¬ 9223372036854775807 < (mkS (UInt8.ofNat n :: (lA ++ (lS ++ (l1 ++ l2))))).size + (mkS lTau).size := by
      rw [mkS_size, mkS_size]; simp only [List.length_append, List.length_cons]; omega
    have z5 : ¬ 9223372036854775807 < (mkS (UInt8.ofNat n :: (lA ++ (lS ++ (l1 ++ (l2 ++ lTau)))))).size + (mkS lMu).size := by
      rw [mkS_size, mkS_size]; simp only [List.length_append, List.length_cons]; omega
    have z6 : ¬ 9223372036854775807 < (mkS (UInt8.ofNat n :: (lA ++ (lS ++ (l1 ++ (l2 ++ (lTau ++ lMu))))))).size + (mkS lT).size := by
      rw [mkS_size, mkS_size]; simp only [List.length_append, List.length_cons]; omega
    have hL3 := hL.still (hf02.then hf3)
    have hR3 := hR.still (hf02.then hf3)
    have hf03 := hf02.then hf3
    have c8 := hh4.cell (i := 8) rfl
    have c9 := hh4.cell (i := 9) rfl
    have c10 := hh4.cell (i := 10) rfl
    have HPL := Lib.hid hpL
    have HPR := Lib.hid hpR
    have hLl : lL.length = n := by have := hpL.len; have := hL3.len; omega
    have hRl : lR.length = n := by have := hpR.len; have := hR3.len; omega
    have LLEN := Lib.hid hLl
    have RLEN := Lib.hid hRl
    have hL1 : ∀ l ∈ lL, l.length ≤ 100 := fun l hl => h100 l (by rw [HEL.out]; simp [hl])
    have hR1 : ∀ l ∈ lR, l.length ≤ 100 := fun l hl => h100 l (by rw [HEL.out]; simp [hl])
    have H100L := Lib.hid hL1
    have H100R := Lib.hid hR1
    have f9 := run_string (P := Try.prog) rIA kIA Try.underlying22 Try.underlying5 Try.underlying9
    have f10 := run_string (P := Try.prog) rIB kIB Try.underlying22 Try.underlying5 Try.underlying9
    clear hL1 hR1 hLl hRl hpL hpR hb3 hh3 hf3 d0 d7 hh2 hf2 hL hR hh4 hp hp3 hp123 hp12
    go_wp2_with fail
    clear z0 z1 z2 z3 z4 z5 z6 f0 f1 f2 f3 f4 f5 f6 f8 c0 c1 c2 c3 c4 c5 c6
    have hHD : (UInt8.ofNat n :: (lA ++ (lS ++ (l1 ++ (l2 ++ (lTau ++ (lMu ++ lT))))))).length ≤ 701 := by
      simp only [List.length_append, List.length_cons]; omega
    have hput : (((UInt8.ofNat n :: (lA ++ (lS ++ (l1 ++ (l2 ++ (lTau ++ (lMu ++ lT))))))) ++ lL.flatten) ++ lR.flatten) ++ lIA ++ lIB = putS n ls := by
      rw [HEL.out]; simp [putS]
    have HPUT := Lib.hid hput
    clear hput
    generalize UInt8.ofNat n :: (lA ++ (lS ++ (l1 ++ (l2 ++ (lTau ++ (lMu ++ lT)))))) = HD at *
    go_loopw [6, 5] (fun i q wr => ∃ j : Nat, j ≤ n ∧ i = .int .i64 (j : Int) ∧ q = .string (mkS (HD ++ (lL.take j).flatten)) ∧ (lL.take j).flatten.length ≤ j * 100 ∧ w3 = wr) (fun i _ _ => (n - intOf i).toNat)
    case atStart => exact ⟨0, by omega, by go_num, by simp, by simp, rfl⟩
    case round =>
      obtain ⟨j, hj, rfl, rfl, hj100, rfl⟩ := hrel
      by_cases hlt : j < n
      · have hltI : (j : Int) < (n : Int) := by omega
        obtain ⟨b, o, rfl, hat⟩ := hL3.at (by omega)
        obtain ⟨x, hx⟩ : ∃ x, vL[j]? = some x := ⟨_, List.getElem?_eq_getElem (by rw [hL3.len]; exact hlt)⟩
        have hcx := hat j x hx
        obtain ⟨l, hl, ax, nx, cx, rfl, -, -, hrx, -⟩ := HPL.out.get j x hx
        have hl1 : l.length ≤ 100 := H100L.out l (List.mem_of_getElem? hl)
        have hjl : j < lL.length := by
          rcases Nat.lt_or_ge j lL.length with h | h
          · exact h
          · rw [List.getElem?_eq_none h] at hl; cases hl
        have hst : (HD ++ (lL.take (j + 1)).flatten) = (HD ++ (lL.take j).flatten) ++ l := by
          rw [flatten_take_succ lL j hjl, List.append_assoc, List.getD_eq_getElem?_getD, hl]; rfl
        have hfl : (lL.take (j + 1)).flatten.length ≤ (j + 1) * 100 := by
          rw [flatten_take_succ lL j hjl, List.getD_eq_getElem?_getD, hl, List.length_append]; show _ + l.length ≤ _; omega
        have fx := run_string (P := Try.prog) hrx cx Try.underlying22 Try.underlying5 Try.underlying9
        have zx : ¬ 9223372036854775807 < (mkS (HD ++ (lL.take j).flatten)).size + (mkS l).size := by
          rw [mkS_size, mkS_size, List.length_append]; omega
        have HST := Lib.hid hst
        have HFL := Lib.hid hfl
        clear hst hfl hat hx hl hrx hjl hj100
        generalize HD ++ (lL.take j).flatten = st at *
        go_wp2_with fail
        go_roundw
        case rel => exact ⟨j + 1, by omega, by go_num, by rw [HST.out], HFL.out, by first | rfl | trivial⟩
        case measure => simp [intOf]; omega
      · have hltI : ¬ (j : Int) < (n : Int) := by omega
        have hjn : j = n := by omega
        have htk : lL.take j = lL := List.take_of_length_le (by rw [LLEN.out, hjn]; exact Nat.le_refl _)
        rw [htk] at hj100 ⊢
        clear htk hlt hj
        have hjn2 := Lib.hid hjn
        clear hjn
        have hHE : (HD ++ lL.flatten).length ≤ 701 + 600 := by rw [List.length_append]; have := hjn2.out; omega
        generalize HD ++ lL.flatten = HE at *
        go_wp2_with fail
        go_loopw [7, 5] (fun i q wr => ∃ j : Nat, j ≤ n ∧ i = .int .i64 (j : Int) ∧ q = .string (mkS (HE ++ (lR.take j).flatten)) ∧ (lR.take j).flatten.length ≤ j * 100 ∧ w3 = wr) (fun i _ _ => (n - intOf i).toNat)
        case atStart => exact ⟨0, by omega, by go_num, by simp, by simp, rfl⟩
        case round =>
          obtain ⟨j, hj, rfl, rfl, hj100, rfl⟩ := hrel
          by_cases hlt : j < n
          · have hltI : (j : Int) < (n : Int) := by omega
            obtain ⟨b, o, rfl, hat⟩ := hR3.at (by omega)
            obtain ⟨x, hx⟩ : ∃ x, vR[j]? = some x := ⟨_, List.getElem?_eq_getElem (by rw [hR3.len]; exact hlt)⟩
            have hcx := hat j x hx
            obtain ⟨l, hl, ax, nx, cx, rfl, -, -, hrx, -⟩ := HPR.out.get j x hx
            have hl1 : l.length ≤ 100 := H100R.out l (List.mem_of_getElem? hl)
            have hjl : j < lR.length := by
              rcases Nat.lt_or_ge j lR.length with h | h
              · exact h
              · rw [List.getElem?_eq_none h] at hl; cases hl
            have hst : (HE ++ (lR.take (j + 1)).flatten) = (HE ++ (lR.take j).flatten) ++ l := by
              rw [flatten_take_succ lR j hjl, List.append_assoc, List.getD_eq_getElem?_getD, hl]; rfl
            have hfl : (lR.take (j + 1)).flatten.length ≤ (j + 1) * 100 := by
              rw [flatten_take_succ lR j hjl, List.getD_eq_getElem?_getD, hl, List.length_append]; show _ + l.length ≤ _; omega
            have fx := run_string (P := Try.prog) hrx cx Try.underlying22 Try.underlying5 Try.underlying9
            have zx : ¬ 9223372036854775807 < (mkS (HE ++ (lR.take j).flatten)).size + (mkS l).size := by
              rw [mkS_size, mkS_size, List.length_append]; omega
            have HST := Lib.hid hst
            have HFL := Lib.hid hfl
            clear hst hfl hat hx hl hrx hjl hj100
            generalize HE ++ (lR.take j).flatten = st at *
            go_wp2_with fail
            go_roundw
            case rel => exact ⟨j + 1, by omega, by go_num, by rw [HST.out], HFL.out, by first | rfl | trivial⟩
            case measure => simp [intOf]; omega
          · have hltI : ¬ (j : Int) < (n : Int) := by omega
            have hjn : j = n := by omega
            have htk : lR.take j = lR := List.take_of_length_le (by rw [RLEN.out, hjn]; exact Nat.le_refl _)
            rw [htk] at hj100 ⊢
            clear htk hlt hj
            have hjn2 := Lib.hid hjn
            clear hjn
            have hHG : (HE ++ lR.flatten).length ≤ 1301 + 600 := by rw [List.length_append]; have := hjn2.out; omega
            generalize HE ++ lR.flatten = HG at *
            have z9 : ¬ 9223372036854775807 < (mkS HG).size + (mkS lIA).size := by rw [mkS_size, mkS_size]; omega
            have z10 : ¬ 9223372036854775807 < (mkS (HG ++ lIA)).size + (mkS lIB).size := by rw [mkS_size, mkS_size, List.length_append]; omega
            go_wp2_with fail
            go_ret2
            exact RPutPost.good HOK.out.symm (by rw [← HPUT.out, List.append_assoc]; rfl) hf03
end Go.Proofs.Ytdadnajbdnbbdaa

/- mintvaultlaw6: sameInner, sameRange of equal proofs (printed by gen_sp9.py). -/
namespace Go.Proofs.Ytdadnajbdnbbdaa
open Go.RowKit Go.Mv Mvp
theorem Prt6.sl {w : World} {v : Value} {l : List UInt8} (h : Prt6 w v l) : IsSl v := by
  obtain ⟨a, n, c, rfl, -⟩ := h
  exact ⟨a, n, c, rfl⟩
theorem Prts6.sl {w : World} : ∀ {vs : List Value} {ls : List (List UInt8)}, Prts6 w vs ls → ∀ v ∈ vs, IsSl v
  | [], _, _, v, h => by simp at h
  | a :: vs, l :: ls, h, v, hv => by
    rcases List.mem_cons.mp hv with rfl | hv
    · exact h.1.sl
    · exact Prts6.sl h.2 v hv
  | _ :: _, [], h, _, _ => h.elim
theorem Prts6.app {w : World} : ∀ {va vb : List Value} {la lb : List (List UInt8)}, Prts6 w va la → Prts6 w vb lb → Prts6 w (va ++ vb) (la ++ lb)
  | [], _, [], _, _, h => h
  | _ :: _, _, _ :: _, _, h1, h2 => ⟨h1.1, Prts6.app h1.2 h2⟩
  | [], _, _ :: _, _, h, _ => h.elim
  | _ :: _, _, [], _, h, _ => h.elim
theorem At.go {w w' : World} {g o : Nat} {L : List Value} (h : At w g o L) (hf : Fr Nob w w') : At w' g o L := fun j v hv => hf.cell id (h j v hv)
/-- the slices of two proofs of a product, part by part -/
structure InP (w : World) (aL : Option Addr) (n : Nat) (aR : Option Addr) (m : Nat) (A B : Value) (vL vR : List Value) (li : List (List UInt8)) : Prop where
  l : Rd w aL n vL
  r : Rd w aR m vR
  p : Prts6 w (vL ++ vR ++ [A, B]) li
theorem InP.still {w w' : World} {aL aR : Option Addr} {n m : Nat} {A B : Value} {vL vR : List Value} {li : List (List UInt8)} (h : InP w aL n aR m A B vL vR li) (hf : Fr Nob w w') : InP w' aL n aR m A B vL vR li := ⟨h.l.still hf, h.r.still hf, Prts6.still6 hf h.p⟩
set_option maxHeartbeats 4000000 in
set_option maxRecDepth 1000000 in
theorem lists6_in (aL : Option Addr) (n cL : Nat) (aR : Option Addr) (m cR : Nat) (A B : Value) (vL vR : List Value) (li : List (List UInt8)) (w : World) (hn : n ≤ 1000) (hm : m ≤ 1000) (h : InP w aL n aR m A B vL vR li) :
    Calls Try.prog 34 #[.agg #[.slice aL n cL, .slice aR m cR, A, B]] w fun e w' => ∃ a c, e = .returned (.slice a (n + m + 2) c) ∧ Rd w' a (n + m + 2) (vL ++ vR ++ [A, B]) ∧ Fr Nob w w' := by
  have hs := Prts6.sl h.p
  refine (lists6_any aL n cL aR m cR A B vL vR w hn hm h.l h.r (fun u hu => (hs u (by simp [hu])).one) (fun u hu => (hs u (by simp [hu])).one) (hs A (by simp)) (hs B (by simp))).mono ?_
  rintro e w' ⟨v, rfl, ho, hf⟩
  obtain ⟨a, c, rfl, -, hr, -⟩ := ho.form
  rw [Nat.mul_one] at hr
  exact ⟨a, c, rfl, hr, hf⟩
set_option maxHeartbeats 4000000 in
set_option maxRecDepth 1000000 in
theorem sameInner_true (aL : Option Addr) (n cL : Nat) (aR : Option Addr) (m cR : Nat) (A B : Value) (vL vR : List Value) (aL' : Option Addr) (cL' : Nat) (aR' : Option Addr) (cR' : Nat) (A' B' : Value) (vL' vR' : List Value) (li : List (List UInt8)) (w : World) (hn : n ≤ 1000) (hm : m ≤ 1000)
    (h : InP w aL n aR m A B vL vR li) (h' : InP w aL' n aR' m A' B' vL' vR' li) :
    Calls Try.prog 33 #[.agg #[.slice aL n cL, .slice aR m cR, A, B], .agg #[.slice aL' n cL', .slice aR' m cR', A', B']] w fun e w' => e = .returned (.bool true) ∧ Fr Nob w w' := by
  have H := Lib.hid h
  have H' := Lib.hid h'
  clear h h'
  go_enter Try.func33, Try.ntmps33
  go_wp2_with (with_reducible refine wl_stop (o := ⟨some 2, _, _, _, _, _⟩) ?_)
  unfold Stop
  refine wl_box rfl rfl rfl [.slice aL n cL, .slice aR m cR, A, B] rfl ?_
  intro w1 hh1 hf1 hz1
  try simp only [Act.put, List.setIfInBounds_toArray, List.set_cons_zero, List.set_cons_succ]
  refine wl_box rfl rfl rfl [.slice aL' n cL', .slice aR' m cR', A', B'] rfl ?_
  intro w2 hh2 hf2 hz2
  clear hz1 hz2
  have hh12 := hh1.keep hf2 id
  have a0 := hh12.cell (i := 0) rfl
  have a1 := hh12.cell (i := 1) rfl
  have b0 := hh2.cell (i := 0) rfl
  have b1 := hh2.cell (i := 1) rfl
  have HA := Lib.hid (show At w2 w.heap.size 0 [.slice aL n cL, .slice aR m cR, A, B] from fun j v hv => by rw [Nat.zero_add]; exact hh12.cell hv)
  have HB := Lib.hid (show At w2 w1.heap.size 0 [.slice aL' n cL', .slice aR' m cR', A', B'] from fun j v hv => by rw [Nat.zero_add]; exact hh2.cell hv)
  have HF := Lib.hid (hf1.then hf2)
  clear hh1 hh2 hf1 hf2 hh12
  generalize w.heap.size = g1 at *
  generalize w1.heap.size = g2 at *
  go_wp2_with (with_reducible refine wl_stop (o := ⟨some 24, _, _, _, _, _⟩) ?_)
  unfold Stop
  refine wl_loadR rfl rfl Try.underlying25 rfl rfl HA.out info_inner ?_
  clear a0 a1 b0 b1
  go_wp2_with fail
  refine (lists6_in aL n cL aR m cR A B vL vR li w2 hn hm (H.out.still HF.out)).mono ?_
  rintro e w3 ⟨ax, cx, rfl, hrx, hf3⟩
  have HRX3 := Lib.hid hrx
  have HF3 := Lib.hid hf3
  clear hrx hf3
  go_wp2_with (with_reducible refine wl_stop (o := ⟨some 26, _, _, _, _, _⟩) ?_)
  unfold Stop
  refine wl_loadR rfl rfl Try.underlying25 rfl rfl (At.go HB.out HF3.out) info_inner ?_
  go_wp2_with fail
  refine (lists6_in aL' n cL' aR' m cR' A' B' vL' vR' li w3 hn hm (H'.out.still (HF.out.then HF3.out))).mono ?_
  rintro e w4 ⟨ay, cy, rfl, hry, hf4⟩
  have HRX := Lib.hid (HRX3.out.still hf4)
  have HRY := Lib.hid hry
  have HFW := Lib.hid ((HF.out.then HF3.out).then hf4)
  have HPX := Lib.hid ((H.out.still HFW.out).p)
  have HPY := Lib.hid ((H'.out.still HFW.out).p)
  clear hry hf4 HA HB HF HF3 HRX3 H H'
  generalize vL ++ vR ++ [A, B] = vx at *
  generalize vL' ++ vR' ++ [A', B'] = vy at *
  have hN : n + m + 2 ≤ 2002 := by omega
  generalize hNN : n + m + 2 = N at *
  clear hNN
  go_wp2_with fail
  go_loopw [7] (fun i wr => ∃ j : Nat, j ≤ N ∧ i = .int .i64 (j : Int) ∧ Fr Nob w4 wr) (fun i _ => (N - intOf i).toNat)
  case atStart => exact ⟨0, by omega, by go_num, Fr.refl _ _⟩
  case round =>
    obtain ⟨j, hj, rfl, hfj⟩ := hrel
    by_cases hlt : j < N
    · have hltI : (j : Int) < (N : Int) := by omega
      obtain ⟨b1, o1, rfl, hat1⟩ := (HRX.out.still hfj).at (by omega)
      obtain ⟨b2, o2, rfl, hat2⟩ := (HRY.out.still hfj).at (by omega)
      obtain ⟨x, hx⟩ : ∃ x, vx[j]? = some x := ⟨_, List.getElem?_eq_getElem (by rw [HRX.out.len]; exact hlt)⟩
      obtain ⟨y, hy⟩ : ∃ y, vy[j]? = some y := ⟨_, List.getElem?_eq_getElem (by rw [HRY.out.len]; exact hlt)⟩
      have hcx := hat1 j x hx
      have hcy := hat2 j y hy
      obtain ⟨l, hl, ax, nx, cx, rfl, -, hn6, hrx, -⟩ := (Prts6.still6 hfj HPX.out).get j x hx
      obtain ⟨l', hl', ay, ny, cy, rfl, -, hm6, hry, -⟩ := (Prts6.still6 hfj HPY.out).get j y hy
      rw [hl] at hl'
      obtain rfl := Option.some.inj hl'
      have h1 := fun nq => run_string (P := Try.prog) (hrx.still ((Fr.refl Nob wr).drewN nq)) cx Try.underlying22 Try.underlying5 Try.underlying9
      have h2 := fun nq => run_string (P := Try.prog) (hry.still ((Fr.refl Nob wr).drewN nq)) cy Try.underlying22 Try.underlying5 Try.underlying9
      generalize mkS l = q at *
      clear hat1 hat2 hx hy hl hl' hrx hry hn6 hm6
      go_wp2_with fail
      go_quiet (fail)
      go_wp2_with fail
      go_roundw
      case rel => exact ⟨j + 1, by omega, by go_num, hfj.drewN _⟩
      case measure => simp [intOf]; omega
    · obtain rfl : j = N := by omega
      go_wp2_with fail
      go_ret
      exact ⟨rfl, HFW.out.then hfj⟩
/-- a proof of a range, part by part -/
structure RgP (w : World) (A S T1 T2 Tau Mu T : Value) (aL : Option Addr) (n : Nat) (aR : Option Addr) (m : Nat) (IA IB : Value) (vL vR : List Value) (lh li : List (List UInt8)) : Prop where
  i : InP w aL n aR m IA IB vL vR li
  h : Prts6 w [A, S, T1, T2, Tau, Mu, T] lh
theorem RgP.still {w w' : World} {A S T1 T2 Tau Mu T : Value} {aL aR : Option Addr} {n m : Nat} {IA IB : Value} {vL vR : List Value} {lh li : List (List UInt8)} (h : RgP w A S T1 T2 Tau Mu T aL n aR m IA IB vL vR lh li) (hf : Fr Nob w w') : RgP w' A S T1 T2 Tau Mu T aL n aR m IA IB vL vR lh li := ⟨h.i.still hf, Prts6.still6 hf h.h⟩
set_option maxHeartbeats 4000000 in
set_option maxRecDepth 1000000 in
theorem all6_in (A S T1 T2 Tau Mu T : Value) (aL : Option Addr) (n cL : Nat) (aR : Option Addr) (m cR : Nat) (IA IB : Value) (vL vR : List Value) (lh li : List (List UInt8)) (w : World) (hn : n ≤ 1000) (hm : m ≤ 1000) (h : RgP w A S T1 T2 Tau Mu T aL n aR m IA IB vL vR lh li) :
    Calls Try.prog 15 #[.agg #[A, S, T1, T2, Tau, Mu, T, .slice aL n cL, .slice aR m cR, IA, IB]] w fun e w' => ∃ a c, e = .returned (.slice a (n + m + 2 + 7) c) ∧ Rd w' a (n + m + 2 + 7) (vL ++ vR ++ [IA, IB] ++ [A, S, T1, T2, Tau, Mu, T]) ∧ Fr Nob w w' := by
  have hs := Prts6.sl h.i.p
  have hs2 := Prts6.sl h.h
  refine (all6_any A S T1 T2 Tau Mu T aL n cL aR m cR IA IB vL vR w hn hm h.i.l h.i.r (fun u hu => (hs u (by simp [hu])).one) (fun u hu => (hs u (by simp [hu])).one) (fun u hu => ?_)).mono ?_
  · have hu' : u ∈ [A, S, T1, T2, Tau, Mu, T] ++ [IA, IB] := hu
    rcases List.mem_append.mp hu' with hu | hu
    · exact hs2 u hu
    · exact hs u (List.mem_append_right _ hu)
  rintro e w' ⟨v, rfl, ho, hf⟩
  obtain ⟨a, c, rfl, -, hr, -⟩ := ho.form
  rw [Nat.mul_one] at hr
  exact ⟨a, c, rfl, hr, hf⟩
set_option maxHeartbeats 4000000 in
set_option maxRecDepth 1000000 in
theorem sameRange_true (A S T1 T2 Tau Mu T : Value) (aL : Option Addr) (n cL : Nat) (aR : Option Addr) (m cR : Nat) (IA IB : Value) (vL vR : List Value) (A' S' T1' T2' Tau' Mu' T' : Value) (aL' : Option Addr) (cL' : Nat) (aR' : Option Addr) (cR' : Nat) (IA' IB' : Value) (vL' vR' : List Value) (lh li : List (List UInt8)) (w : World) (hn : n ≤ 1000) (hm : m ≤ 1000)
    (h : RgP w A S T1 T2 Tau Mu T aL n aR m IA IB vL vR lh li) (h' : RgP w A' S' T1' T2' Tau' Mu' T' aL' n aR' m IA' IB' vL' vR' lh li) :
    Calls Try.prog 13 #[.agg #[A, S, T1, T2, Tau, Mu, T, .slice aL n cL, .slice aR m cR, IA, IB], .agg #[A', S', T1', T2', Tau', Mu', T', .slice aL' n cL', .slice aR' m cR', IA', IB']] w fun e w' => e = .returned (.bool true) ∧ Fr Nob w w' := by
  have H := Lib.hid h
  have H' := Lib.hid h'
  clear h h'
  go_enter Try.func13, Try.ntmps13
  go_wp2_with (with_reducible refine wl_stop (o := ⟨some 2, _, _, _, _, _⟩) ?_)
  unfold Stop
  refine wl_box rfl rfl rfl [A, S, T1, T2, Tau, Mu, T, .slice aL n cL, .slice aR m cR, IA, IB] rfl ?_
  intro w1 hh1 hf1 hz1
  try simp only [Act.put, List.setIfInBounds_toArray, List.set_cons_zero, List.set_cons_succ]
  refine wl_box rfl rfl rfl [A', S', T1', T2', Tau', Mu', T', .slice aL' n cL', .slice aR' m cR', IA', IB'] rfl ?_
  intro w2 hh2 hf2 hz2
  clear hz1 hz2
  have hh12 := hh1.keep hf2 id
  have HA := Lib.hid (show At w2 w.heap.size 0 [A, S, T1, T2, Tau, Mu, T, .slice aL n cL, .slice aR m cR, IA, IB] from fun j v hv => by rw [Nat.zero_add]; exact hh12.cell hv)
  have HB := Lib.hid (show At w2 w1.heap.size 0 [A', S', T1', T2', Tau', Mu', T', .slice aL' n cL', .slice aR' m cR', IA', IB'] from fun j v hv => by rw [Nat.zero_add]; exact hh2.cell hv)
  have HA7 := Lib.hid (show At w2 w.heap.size 7 [.slice aL n cL, .slice aR m cR, IA, IB] from fun j v hv => hh12.cell (i := 7 + j) (by rw [Nat.add_comm 7 j]; exact hv))
  have HB7 := Lib.hid (show At w2 w1.heap.size 7 [.slice aL' n cL', .slice aR' m cR', IA', IB'] from fun j v hv => hh2.cell (i := 7 + j) (by rw [Nat.add_comm 7 j]; exact hv))
  have HF := Lib.hid (hf1.then hf2)
  clear hh1 hh2 hf1 hf2 hh12
  generalize w.heap.size = g1 at *
  generalize w1.heap.size = g2 at *
  go_wp2_with (with_reducible refine wl_stop (o := ⟨some 10, _, _, _, _, _⟩) ?_)
  unfold Stop
  refine wl_loadR rfl rfl Try.underlying25 rfl rfl HA7.out info_inner ?_
  go_wp2_with (with_reducible refine wl_stop (o := ⟨some 12, _, _, _, _, _⟩) ?_)
  unfold Stop
  refine wl_loadR rfl rfl Try.underlying25 rfl rfl HB7.out info_inner ?_
  go_wp2_with fail
  refine (sameInner_true aL n cL aR m cR IA IB vL vR aL' cL' aR' cR' IA' IB' vL' vR' li w2 hn hm (H.out.i.still HF.out) (H'.out.i.still HF.out)).mono ?_
  rintro e w3 ⟨rfl, hf3⟩
  have HF3 := Lib.hid hf3
  clear hf3 HA7 HB7
  go_wp2_with (with_reducible refine wl_stop (o := ⟨some 16, _, _, _, _, _⟩) ?_)
  unfold Stop
  refine wl_loadR rfl rfl Try.underlying27 rfl rfl (At.go HA.out HF3.out) info_range ?_
  go_wp2_with fail
  refine (all6_in A S T1 T2 Tau Mu T aL n cL aR m cR IA IB vL vR lh li w3 hn hm (H.out.still (HF.out.then HF3.out))).mono ?_
  rintro e w4 ⟨ax, cx, rfl, hrx, hf4⟩
  have HRX4 := Lib.hid hrx
  have HF4 := Lib.hid (HF3.out.then hf4)
  clear hrx hf4 HF3
  go_wp2_with (with_reducible refine wl_stop (o := ⟨some 18, _, _, _, _, _⟩) ?_)
  unfold Stop
  refine wl_loadR rfl rfl Try.underlying27 rfl rfl (At.go HB.out HF4.out) info_range ?_
  go_wp2_with fail
  refine (all6_in A' S' T1' T2' Tau' Mu' T' aL' n cL' aR' m cR' IA' IB' vL' vR' lh li w4 hn hm (H'.out.still (HF.out.then HF4.out))).mono ?_
  rintro e w5 ⟨ay, cy, rfl, hry, hf5⟩
  have HRX := Lib.hid (HRX4.out.still hf5)
  have HRY := Lib.hid hry
  have HFW := Lib.hid ((HF.out.then HF4.out).then hf5)
  have HPX := Lib.hid ((H.out.still HFW.out).i.p.app (H.out.still HFW.out).h)
  have HPY := Lib.hid ((H'.out.still HFW.out).i.p.app (H'.out.still HFW.out).h)
  clear hry hf5 HA HB HF HF4 HRX4 H H'
  generalize vL ++ vR ++ [IA, IB] ++ [A, S, T1, T2, Tau, Mu, T] = vx at *
  generalize vL' ++ vR' ++ [IA', IB'] ++ [A', S', T1', T2', Tau', Mu', T'] = vy at *
  generalize li ++ lh = lx at *
  have hN : n + m + 2 + 7 ≤ 2009 := by omega
  generalize hNN : n + m + 2 + 7 = N at *
  clear hNN
  go_wp2_with fail
  go_loopw [8] (fun i wr => ∃ j : Nat, j ≤ N ∧ i = .int .i64 (j : Int) ∧ Fr Nob w5 wr) (fun i _ => (N - intOf i).toNat)
  case atStart => exact ⟨0, by omega, by go_num, Fr.refl _ _⟩
  case round =>
    obtain ⟨j, hj, rfl, hfj⟩ := hrel
    by_cases hlt : j < N
    · have hltI : (j : Int) < (N : Int) := by omega
      obtain ⟨b1, o1, rfl, hat1⟩ := (HRX.out.still hfj).at (by omega)
      obtain ⟨b2, o2, rfl, hat2⟩ := (HRY.out.still hfj).at (by omega)
      obtain ⟨x, hx⟩ : ∃ x, vx[j]? = some x := ⟨_, List.getElem?_eq_getElem (by rw [HRX.out.len]; exact hlt)⟩
      obtain ⟨y, hy⟩ : ∃ y, vy[j]? = some y := ⟨_, List.getElem?_eq_getElem (by rw [HRY.out.len]; exact hlt)⟩
      have hcx := hat1 j x hx
      have hcy := hat2 j y hy
      obtain ⟨l, hl, ax, nx, cx, rfl, -, hn6, hrx, -⟩ := (Prts6.still6 hfj HPX.out).get j x hx
      obtain ⟨l', hl', ay, ny, cy, rfl, -, hm6, hry, -⟩ := (Prts6.still6 hfj HPY.out).get j y hy
      rw [hl] at hl'
      obtain rfl := Option.some.inj hl'
      have h1 := fun nq => run_string (P := Try.prog) (hrx.still ((Fr.refl Nob wr).drewN nq)) cx Try.underlying22 Try.underlying5 Try.underlying9
      have h2 := fun nq => run_string (P := Try.prog) (hry.still ((Fr.refl Nob wr).drewN nq)) cy Try.underlying22 Try.underlying5 Try.underlying9
      generalize mkS l = q at *
      clear hat1 hat2 hx hy hl hl' hrx hry hn6 hm6
      go_wp2_with fail
      go_quiet (fail)
      go_wp2_with fail
      go_roundw
      case rel => exact ⟨j + 1, by omega, by go_num, hfj.drewN _⟩
      case measure => simp [intOf]; omega
    · obtain rfl : j = N := by omega
      go_wp2_with fail
      go_ret
      exact ⟨rfl, HFW.out.then hfj⟩
end Go.Proofs.Ytdadnajbdnbbdaa

/- A range written as bytes: its parts; the places of a range in memory. -/
namespace Go.Mv
open Go.RowKit Mvp
/-- the pieces of a text, of these sizes -/
def cutL : List Nat → List UInt8 → List (List UInt8)
  | [], _ => []
  | k :: ks, s => s.take k :: cutL ks (s.drop k)
theorem cutL_len : ∀ (ks : List Nat) (s : List UInt8), (cutL ks s).length = ks.length
  | [], _ => rfl
  | _ :: ks, s => by simp [cutL, cutL_len ks]
theorem cutL_get : ∀ (ks : List Nat) (s : List UInt8) (j k : Nat), ks[j]? = some k → (cutL ks s)[j]? = some ((s.drop (ks.take j).sum).take k)
  | [], _, _, _, h => by simp at h
  | a :: ks, s, 0, k, h => by simp at h; subst h; simp [cutL]
  | a :: ks, s, j + 1, k, h => by
    have := cutL_get ks (s.drop a) j k (by simpa using h)
    simp [cutL, this, List.drop_drop]
theorem sum_take_succ (ks : List Nat) (j k : Nat) (h : ks[j]? = some k) : (ks.take (j + 1)).sum = (ks.take j).sum + k := by
  rw [List.take_add_one, h]; simp
theorem sum_take_le (ks : List Nat) (j : Nat) : (ks.take j).sum ≤ ks.sum := by
  have h : ks.sum = (ks.take j).sum + (ks.drop j).sum := by rw [← List.sum_append, List.take_append_drop]
  omega
/-- the count a text begins with -/
def hdR (s : List UInt8) : Nat := (s.getD 0 0).toNat
def okR (s : List UInt8) : Bool := decide (s ≠ [] ∧ hdR s ≤ 6 ∧ s.length = 293 + 66 * hdR s)
def nR (s : List UInt8) : Nat := if okR s then hdR s else 0
theorem run_slice_hmR {P : Program} (w : World) {ty e : TypeId} (hu : P.underlying ty = some (.slice e)) (hsz : (P.info? e).map (·.size) = some 1) (p : Option Addr) (n c : Nat) (k : IntKind) (h : Nat) (hh : h ≤ c) :
    (Instr.sliceAt ty (.slice p n c) none (some (.int k (h : Int))) (some (.int k (h : Int)))).run P w = .ok (.slice p h h) w := by
  obtain ⟨i, hi1, hi2⟩ : ∃ i, P.info? e = some i ∧ i.size = 1 := by simpa using hsz
  have := cutAt_0 p h
  simp [Instr.sliceAt, Instr.slice, run_underlying hu, Instr.sliceBounds, run_sliceBound, hh, sizeOf, typeInfo, hi1, Addr.add]
end Go.Mv
namespace Go.Proofs.Ytdadnajbdnbbdaa
open Go.RowKit Go.Mv Mvp
theorem szL_sum (n : Nat) : (szL n n).sum = 292 + 66 * n := by
  unfold szL
  simp [List.sum_append, List.sum_replicate_nat]
  omega
def lsR (s : List UInt8) : List (List UInt8) := if okR s then cutL (szL (hdR s) (hdR s)) (s.drop 1) else List.replicate 9 []
/-- the places of a range in memory, while it is being filled -/
structure RdS (w : World) (base g n gL gR : Nat) (vs : List Value) : Prop where
  h : Has w g (vs.take 7 ++ [.slice (some ⟨gL, 0, none⟩) n n, .slice (some ⟨gR, 0, none⟩) n n] ++ vs.drop (7 + (n + n))) 27
  l : Has w gL ((vs.drop 7).take n) 22
  r : Has w gR ((vs.drop (7 + n)).take n) 22
  ne : gL ≠ gR
  len : vs.length = n + n + 9
  b1 : base ≤ g
  b2 : base ≤ gL
  b3 : base ≤ gR
theorem RdS.still {w w' : World} {base g n gL gR : Nat} {vs : List Value} (h : RdS w base g n gL gR vs) (hf : Fr Nob w w') : RdS w' base g n gL gR vs :=
  ⟨h.h.keep hf id, h.l.keep hf id, h.r.keep hf id, h.ne, h.len, h.b1, h.b2, h.b3⟩
theorem RdS.gne {w : World} {base g n gL gR : Nat} {vs : List Value} (h : RdS w base g n gL gR vs) : g ≠ gL ∧ g ≠ gR := by
  constructor
  · rintro rfl
    obtain ⟨_, _, h1, -⟩ := h.h
    obtain ⟨_, _, h2, -⟩ := h.l
    rw [h1] at h2; simp at h2
  · rintro rfl
    obtain ⟨_, _, h1, -⟩ := h.h
    obtain ⟨_, _, h2, -⟩ := h.r
    rw [h1] at h2; simp at h2
theorem set_past {α : Type} (l : List α) (i : Nat) (a : α) (h : l.length ≤ i) : l.set i a = l := List.set_eq_of_length_le h
/-- a value is put at one of the places -/
theorem RdS.put {w : World} {base g n gL gR : Nat} {vs : List Value} (h : RdS w base g n gL gR vs) (j : Nat) (x : Nat × Nat × Nat) (hx : (slotL g (some ⟨gL, 0, none⟩) n (some ⟨gR, 0, none⟩) n)[j]? = some x) :
    (∃ u, w.cell? ⟨x.1, x.2.1, none⟩ = some u ∧ w.frozen? ⟨x.1, x.2.1, none⟩ = false) ∧ base ≤ x.1 ∧ (∃ L T, Has w x.1 L T ∧ T ≠ 5 ∧ T ≠ 74) ∧ ∀ v, RdS (w.setCell ⟨x.1, x.2.1, none⟩ v) base g n gL gR (vs.set j v) := by
  obtain ⟨e1, e2⟩ := h.gne
  have e3 := h.ne
  have hl := h.len
  have hj : j < n + n + 9 := by
    have := (List.getElem?_eq_some_iff.mp hx).1
    rwa [slotL_len] at this
  have main : (x.1 = g ∧ x.2.1 = j ∧ j < 7) ∨ (x.1 = gL ∧ x.2.1 = j - 7 ∧ 7 ≤ j ∧ j < 7 + n) ∨ (x.1 = gR ∧ x.2.1 = j - 7 - n ∧ 7 + n ≤ j ∧ j < 7 + n + n) ∨ (x.1 = g ∧ x.2.1 = j - n - n + 2 ∧ 7 + n + n ≤ j) := by
    unfold slotL at hx
    rw [List.getElem?_append] at hx
    split at hx
    · rename_i h1
      rw [List.getElem?_append] at hx
      split at hx
      · rename_i h2
        rw [List.getElem?_append] at hx
        split at hx
        · rename_i h3
          simp at h3
          left
          obtain rfl | rfl | rfl | rfl | rfl | rfl | rfl : j = 0 ∨ j = 1 ∨ j = 2 ∨ j = 3 ∨ j = 4 ∨ j = 5 ∨ j = 6 := by omega
          all_goals (simp at hx; subst hx; simp)
        · rename_i h3
          simp [rowL] at h3 h2
          right; left
          simp [rowL, List.getElem?_map, List.getElem?_range (show j - 7 < n by omega)] at hx
          subst hx
          simp
          omega
      · rename_i h2
        simp [rowL] at h1 h2
        right; right; left
        simp [rowL, List.getElem?_map, List.getElem?_range (show j - (n + 7) < n by omega)] at hx
        subst hx
        simp
        omega
    · rename_i h1
      simp [rowL] at h1
      right; right; right
      simp [rowL] at hx
      obtain h4 | h4 : j = n + n + 7 ∨ j = n + n + 8 := by omega
      all_goals (subst h4; simp [show n + n + 8 - (n + n + 7) = 1 by omega] at hx; subst hx; simp; omega)
  obtain ⟨xb, xo, xn⟩ := x
  simp only at main ⊢
  rcases main with ⟨rfl, rfl, h5⟩ | ⟨rfl, rfl, h5, h6⟩ | ⟨rfl, rfl, h5, h6⟩ | ⟨rfl, rfl, h5⟩
  · refine ⟨h.h.ready (by simp; omega), h.b1, ⟨_, _, h.h, by decide, by decide⟩, fun v => ⟨?_, ?_, ?_, e3, by simpa using hl, h.b1, h.b2, h.b3⟩⟩
    · have hs := h.h.set xo v
      have e : (vs.take 7 ++ [Value.slice (some ⟨gL, 0, none⟩) n n, .slice (some ⟨gR, 0, none⟩) n n] ++ vs.drop (7 + (n + n))).set xo v = (vs.set xo v).take 7 ++ [.slice (some ⟨gL, 0, none⟩) n n, .slice (some ⟨gR, 0, none⟩) n n] ++ (vs.set xo v).drop (7 + (n + n)) := by
        rw [List.set_append_left _ _ (by simp; omega), List.set_append_left _ _ (by simp; omega), List.take_set, List.drop_set_of_lt (by omega)]
      rwa [e] at hs
    · rw [List.drop_set_of_lt (by omega)]; exact h.l.other _ _ _ (Ne.symm e1)
    · rw [List.drop_set_of_lt (by omega)]; exact h.r.other _ _ _ (Ne.symm e2)
  · refine ⟨h.l.ready (by simp; omega), h.b2, ⟨_, _, h.l, by decide, by decide⟩, fun v => ⟨?_, ?_, ?_, e3, by simpa using hl, h.b1, h.b2, h.b3⟩⟩
    · rw [List.take_set, set_past (vs.take 7) j v (by simp; omega), List.drop_set_of_lt (by omega)]; exact h.h.other _ _ _ e1
    · have hs := h.l.set (j - 7) v
      have e : ((vs.drop 7).take n).set (j - 7) v = ((vs.set j v).drop 7).take n := by
        rw [List.drop_set, if_neg (by omega), List.take_set]
      rwa [e] at hs
    · rw [List.drop_set_of_lt (by omega)]; exact h.r.other _ _ _ (Ne.symm e3)
  · refine ⟨h.r.ready (by simp; omega), h.b3, ⟨_, _, h.r, by decide, by decide⟩, fun v => ⟨?_, ?_, ?_, e3, by simpa using hl, h.b1, h.b2, h.b3⟩⟩
    · rw [List.take_set, set_past (vs.take 7) j v (by simp; omega), List.drop_set_of_lt (by omega)]; exact h.h.other _ _ _ e2
    · rw [List.drop_set, if_neg (by omega), List.take_set, set_past _ _ v (by simp; omega)]; exact h.l.other _ _ _ e3
    · have hs := h.r.set (j - 7 - n) v
      have e : ((vs.drop (7 + n)).take n).set (j - 7 - n) v = ((vs.set j v).drop (7 + n)).take n := by
        rw [List.drop_set, if_neg (by omega), List.take_set, Nat.sub_sub]
      rwa [e] at hs
  · refine ⟨h.h.ready (by simp; omega), h.b1, ⟨_, _, h.h, by decide, by decide⟩, fun v => ⟨?_, ?_, ?_, e3, by simpa using hl, h.b1, h.b2, h.b3⟩⟩
    · have hs := h.h.set (j - n - n + 2) v
      have e : (vs.take 7 ++ [Value.slice (some ⟨gL, 0, none⟩) n n, .slice (some ⟨gR, 0, none⟩) n n] ++ vs.drop (7 + (n + n))).set (j - n - n + 2) v = (vs.set j v).take 7 ++ [.slice (some ⟨gL, 0, none⟩) n n, .slice (some ⟨gR, 0, none⟩) n n] ++ (vs.set j v).drop (7 + (n + n)) := by
        have hl9 : (vs.take 7 ++ [Value.slice (some ⟨gL, 0, none⟩) n n, .slice (some ⟨gR, 0, none⟩) n n]).length = 9 := by simp; omega
        rw [List.set_append_right _ _ (by rw [hl9]; omega), hl9, List.take_set, set_past (vs.take 7) j v (by simp; omega), List.drop_set, if_neg (by omega), show j - n - n + 2 - 9 = j - (7 + (n + n)) by omega]
      rwa [e] at hs
    · rw [List.drop_set, if_neg (by omega), List.take_set, set_past _ _ v (by simp; omega)]; exact h.l.other _ _ _ (Ne.symm e1)
    · rw [List.drop_set, if_neg (by omega), List.take_set, set_past _ _ v (by simp; omega)]; exact h.r.other _ _ _ (Ne.symm e2)
end Go.Proofs.Ytdadnajbdnbbdaa

/- What a call knows of the blocks that are its own: one fact for all of them. -/
namespace Go.Mv
open Go.RowKit
variable {P : Program}

/-- the blocks of bl hold what is told; each is new since w0, or may be written (S); no other block that was there at w0 has turned, but those of S -/
structure St (S : Nat → Prop) (w0 w : World) (bl : List (Nat × List Value × TypeId)) : Prop where
  fr : Fr S w0 w
  own : ∀ x ∈ bl, w0.heap.size ≤ x.1 ∨ S x.1
  has : ∀ x ∈ bl, Has w x.1 x.2.1 x.2.2
  ne : bl.Pairwise fun x y => x.1 ≠ y.1

theorem St.start (S : Nat → Prop) (w : World) : St S w w [] := ⟨Fr.refl _ _, by simp, by simp, List.Pairwise.nil⟩
theorem St.at {S : Nat → Prop} {w0 w : World} {bl : List (Nat × List Value × TypeId)} (h : St S w0 w bl) (i : Nat) {g : Nat} {L : List Value} {T : TypeId} (hi : bl[i]? = some (g, L, T)) : Has w g L T :=
  h.has _ (List.mem_of_getElem? hi)
theorem St.neAt {S : Nat → Prop} {w0 w : World} {bl : List (Nat × List Value × TypeId)} (h : St S w0 w bl) {i j : Nat} {x y : Nat × List Value × TypeId} (hi : bl[i]? = some x) (hj : bl[j]? = some y) (hij : i ≠ j) : x.1 ≠ y.1 := by
  obtain ⟨hi1, rfl⟩ := List.getElem?_eq_some_iff.1 hi
  obtain ⟨hj1, rfl⟩ := List.getElem?_eq_some_iff.1 hj
  rcases Nat.lt_or_ge i j with k | k
  · exact List.pairwise_iff_getElem.1 h.ne i j hi1 hj1 k
  · exact (List.pairwise_iff_getElem.1 h.ne j i hj1 hi1 (by omega)).symm
theorem St.keep {S : Nat → Prop} {w0 w w' : World} {bl : List (Nat × List Value × TypeId)} (h : St S w0 w bl) (hf : Fr Nob w w') : St S w0 w' bl :=
  ⟨h.fr.same hf, h.own, fun x hx => (h.has x hx).keep hf id, h.ne⟩
theorem St.drew {S : Nat → Prop} {w0 w : World} {bl : List (Nat × List Value × TypeId)} (h : St S w0 w bl) : St S w0 w.drew bl := ⟨h.fr.drew, h.own, h.has, h.ne⟩
theorem St.drewN {S : Nat → Prop} {w0 w : World} {bl : List (Nat × List Value × TypeId)} (h : St S w0 w bl) (n : Nat) : St S w0 (w.drewN n) bl := ⟨h.fr.drewN n, h.own, h.has, h.ne⟩
theorem St.new {S : Nat → Prop} {w0 w w' : World} {bl : List (Nat × List Value × TypeId)} (h : St S w0 w bl) (hf : Fr Nob w w') {g : Nat} {L : List Value} {T : TypeId} (hg : Has w' g L T) (hn : w.heap.size ≤ g) : St S w0 w' (bl ++ [(g, L, T)]) := by
  refine ⟨h.fr.same hf, ?_, ?_, ?_⟩
  · intro x hx
    rcases List.mem_append.1 hx with hx | hx
    · exact h.own x hx
    · simp only [List.mem_singleton] at hx
      subst hx
      exact .inl (Nat.le_trans h.fr.size hn)
  · intro x hx
    rcases List.mem_append.1 hx with hx | hx
    · exact (h.has x hx).keep hf id
    · simp only [List.mem_singleton] at hx
      subst hx
      exact hg
  · rw [List.pairwise_append]
    refine ⟨h.ne, List.pairwise_singleton _ _, ?_⟩
    intro x hx y hy
    simp only [List.mem_singleton] at hy
    subst hy
    have := (h.has x hx).lt
    show x.1 ≠ g
    omega
theorem St.put {S : Nat → Prop} {w0 w w' : World} {bl : List (Nat × List Value × TypeId)} (h : St S w0 w bl) (i : Nat) {g : Nat} {L L' : List Value} {T : TypeId} (hi : bl[i]? = some (g, L, T)) (hf : Fr (One g) w w') (hg : Has w' g L' T) : St S w0 w' (bl.set i (g, L', T)) := by
  obtain ⟨hi1, hi2⟩ := List.getElem?_eq_some_iff.1 hi
  refine ⟨?_, ?_, ?_, ?_⟩
  · refine h.fr.trans hf fun j hj hjg => ?_
    have hjg' : j = g := hjg
    subst hjg'
    rcases h.own _ (List.mem_of_getElem? hi) with k | k
    · have k' : w0.heap.size ≤ j := k
      omega
    · exact k
  · intro x hx
    rcases List.mem_or_eq_of_mem_set hx with hx | rfl
    · exact h.own x hx
    · exact h.own (g, L, T) (List.mem_of_getElem? hi)
  · intro x hx
    obtain ⟨j, hj1, hj2⟩ := List.mem_iff_getElem.1 hx
    rw [List.length_set] at hj1
    rw [List.getElem_set] at hj2
    by_cases e : i = j
    · rw [if_pos e] at hj2; subst hj2; exact hg
    · rw [if_neg e] at hj2
      subst hj2
      refine (h.has _ (List.getElem_mem hj1)).keep hf fun t => ?_
      exact h.neAt hi (List.getElem?_eq_getElem hj1) e (Eq.symm t)
  · rw [List.pairwise_iff_getElem]
    intro j k hj hk hjk
    have e := List.pairwise_iff_getElem.1 h.ne j k (by simpa using hj) (by simpa using hk) hjk
    rw [List.getElem_set, List.getElem_set]
    split
    · rename_i e1; subst e1
      rw [hi2] at e
      split
      · omega
      · exact e
    · split
      · rename_i e2; subst e2; rw [hi2] at e; exact e
      · exact e
/-- one cell of a block is written -/
theorem St.set {S : Nat → Prop} {w0 w : World} {bl : List (Nat × List Value × TypeId)} (h : St S w0 w bl) (i : Nat) {g : Nat} {L : List Value} {T : TypeId} (hi : bl[i]? = some (g, L, T)) (k : Nat) (v : Value) : St S w0 (w.setCell ⟨g, k, none⟩ v) (bl.set i (g, L.set k v, T)) :=
  h.put i hi ((Fr.refl (One g) w).setCell g k none v (fun _ => rfl)) ((h.at i hi).set k v)
/-- a block that came in is taken in -/
theorem St.take {S : Nat → Prop} {w0 w : World} {bl : List (Nat × List Value × TypeId)} (h : St S w0 w bl) {g : Nat} {L : List Value} {T : TypeId} (hg : Has w g L T) (hS : S g) (hn : ∀ x ∈ bl, x.1 ≠ g) : St S w0 w (bl ++ [(g, L, T)]) := by
  refine ⟨h.fr, ?_, ?_, ?_⟩
  · intro x hx
    rcases List.mem_append.1 hx with hx | hx
    · exact h.own x hx
    · simp only [List.mem_singleton] at hx; subst hx; exact .inr hS
  · intro x hx
    rcases List.mem_append.1 hx with hx | hx
    · exact h.has x hx
    · simp only [List.mem_singleton] at hx; subst hx; exact hg
  · rw [List.pairwise_append]
    refine ⟨h.ne, List.pairwise_singleton _ _, ?_⟩
    intro x hx y hy
    simp only [List.mem_singleton] at hy
    subst hy
    exact hn x hx
theorem St.one {w : World} {g : Nat} {L : List Value} {T : TypeId} (hg : Has w g L T) : St (One g) w w [(g, L, T)] := (St.start (One g) w).take hg rfl (by simp)

section
variable {w w0 : World} {ops : Array Oper} {rest : List Oper} {o : Oper} {a : Act} {Q : Exit → Act → World → Prop} {S : Nat → Prop} {bl : List (Nat × List Value × TypeId)}
end
end Go.Mv

/- A region that draws its order, under a condition S on the world that holds till the last operations begin: the head (reads, calls) in an order of the prover's choice, behind it the tail (a store, as a rule) in the text's order. -/
namespace Go.Mv
open Go.RowKit
section
variable {P : Program} {ops : Array Oper} {md : Region.Mode} {Q : Exit → Act → World → Prop} {S : World → Prop}

/- the steps -/
variable {l tl : List Oper} {i : Nat} {r : List (Nat × Bool)} {a : Act} {w : World} {o : Oper}
end

end Go.Mv

/- A region that draws its order, as XTail's, where two operations of the head may come in either order (an allocation and a call). -/
namespace Go.Mv
open Go.RowKit
section
variable {P : Program} {ops : Array Oper} {md : Region.Mode} {Q : Exit → Act → World → Prop} {S : World → Prop}

/-- orders of the head: t: it only yields a value; r: it is carried out; b: one of two is carried out -/
inductive Sc where
  | nil
  | t (i : Nat) (s : Sc)
  | r (i : Nat) (s : Sc)
  | b (i j : Nat) (s u : Sc)
def Sc.len : Sc → Nat
  | .nil => 0
  | .t _ s => s.len + 1
  | .r _ s => s.len + 1
  | .b _ _ s _ => s.len + 1

/- the steps -/
variable {l tl : List Oper} {i j : Nat} {s u : Sc} {a : Act} {w : World} {o o2 : Oper}
end
section
variable {P : Program} {w w0 : World} {o : Oper} {a : Act} {K : Act → World → Prop} {Q : Exit → Act → World → Prop} {S : Nat → Prop} {bl : List (Nat × List Value × TypeId)}
end
end Go.Mv

/- A region that draws its order, by a plan: operations that only yield values are taken ahead (w: in whatever world; t: under a condition S on the world, that holds till operation m is carried out), the others are carried out when nothing else can come (r, m), or in either order (b). -/
namespace Go.Mv
open Go.RowKit
section
variable {P : Program} {ops : Array Oper} {md : Region.Mode} {Q : Exit → Act → World → Prop} {S : World → Prop} {m : Nat}

def wpP (P : Program) (md : Region.Mode) (ops : Array Oper) (Q : Exit → Act → World → Prop) (S : World → Prop) (m : Nat) : Nat → Array Bool → Act → World → Prop
  | 0, listed, a, w => Region.ready md ops listed = [] ∧ Q .normal a w
  | f + 1, listed, a, w => (Region.ready md ops listed = [] → Q .normal a w) ∧
    ∀ i ∈ Region.ready md ops listed, wpOp P ops Q i (fun a' w' => (listed.getD m true = false → i ≠ m → S w') ∧ wpP P md ops Q S m f (listed.setIfInBounds i true) a' w') a w

theorem wpAny_of_P : ∀ (f : Nat) (listed : Array Bool) (a : Act) (w : World), wpP P md ops Q S m f listed a w → wpAny P md ops Q f listed a w
  | 0, _, _, _, h => h
  | f + 1, _, _, _, h => ⟨h.1, fun i hi => wpOp_mono (fun a' w' h' => wpAny_of_P f _ a' w' h'.2) (h.2 i hi)⟩

/-- what is listed is closed -/
structure Cl (md : Region.Mode) (ops : Array Oper) (listed : Array Bool) : Prop where
  size : listed.size = ops.size
  closed : ∀ j oj, ops[j]? = some oj → listed.getD j false = true → ∀ e ∈ oj.after, Region.binds md e = true → listed.getD e.on false = true
theorem Cl.set {i : Nat} {listed : Array Bool} (inv : Cl md ops listed) (hi : i ∈ Region.ready md ops listed) : Cl md ops (listed.setIfInBounds i true) := by
  obtain ⟨_, oi, hoi, hall⟩ := mem_ready.1 hi
  refine ⟨by simp [inv.size], fun j oj hj hl e he hb => ?_⟩
  by_cases hij : i = j
  · subst hij
    have : oj = oi := Option.some.inj (hj.symm.trans hoi)
    subst this
    exact getD_set_true (hall e he hb)
  · rw [getD_set_ne false hij] at hl
    exact getD_set_true (inv.closed j oj hj hl e he hb)
/-- m waits for i, through others -/
def ancB (md : Region.Mode) (ops : Array Oper) (m : Nat) : Nat → Nat → Bool
  | 0, _ => false
  | f + 1, i => (List.range ops.size).any fun j => Region.waitsFor md ops j i && (decide (j = m) || ancB md ops m f j)
theorem anc_waits {listed : Array Bool} (inv : Cl md ops listed) : ∀ (f i : Nat), ancB md ops m f i = true → listed.getD i true = false → m ∉ Region.ready md ops listed
  | 0, i, h, _ => by cases h
  | f + 1, i, h, hun => by
    intro hr
    obtain ⟨j, hj, hj2⟩ := List.any_eq_true.1 h
    simp only [Bool.and_eq_true, Bool.or_eq_true, decide_eq_true_eq] at hj2
    obtain ⟨oj, hoj, e, he, hb, hon⟩ := Region.waitsFor_spec hj2.1
    rcases hj2.2 with rfl | hja
    · obtain ⟨-, om, hom, hall⟩ := mem_ready.1 hr
      have : oj = om := Option.some.inj (hoj.symm.trans hom)
      subst this
      have h2 := hall e he hb
      rw [hon, getD_both hun] at h2
      cases h2
    · cases hl : listed.getD j false with
      | true =>
        have h2 := inv.closed j oj hoj hl e he hb
        rw [hon, getD_both hun] at h2
        cases h2
      | false =>
        have hjs : j < listed.size := by rw [inv.size]; exact (Array.getElem?_eq_some_iff.1 hoj).1
        exact anc_waits inv f j hja (getD_in hjs hl) hr

theorem wpP_takeW {i : Nat} {oi : Oper} {v : Value} (hi : ops[i]? = some oi) (hsel : ∀ (j : Nat) (o : Oper) cs b, ops[j]? = some o → o.op ≠ .select cs b)
    (hQ : ∀ c a w, Q (.panic c) (a.put oi.dst v) w → Q (.panic c) a w) (him : i ≠ m) (hm : m < ops.size) :
    ∀ (f : Nat) (listed : Array Bool) (a : Act) (w : World), Cl md ops listed →
      (∀ j oj, ops[j]? = some oj → j ≠ i → listed.getD j true = false → (∀ e ∈ oj.after, Region.binds md e = true → e.on ≠ i) → oi.apart ops oj = true) →
      i ∈ Region.ready md ops listed → YieldsIf P ops (fun _ => True) oi v a → (listed.getD m true = false → S w) →
      wpP P md ops Q S m f (listed.setIfInBounds i true) (a.put oi.dst v) w → wpP P md ops Q S m (f + 1) listed a w := by
  intro f
  induction f with
  | zero =>
    intro listed a w inv _ hr hy hS H
    refine ⟨fun h => (by rw [h] at hr; cases hr), fun j hj => ?_⟩
    by_cases hji : j = i
    · subst hji; exact hy.wpOp hi trivial ⟨fun h _ => hS h, H⟩
    · have := ready_mono hj hji
      rw [H.1] at this
      cases this
  | succ f ih =>
    intro listed a w inv hfree hr hy hS H
    have hun := (mem_ready.1 hr).1
    refine ⟨fun h => (by rw [h] at hr; cases hr), fun j hj => ?_⟩
    by_cases hji : j = i
    · subst hji; exact hy.wpOp hi trivial ⟨fun h _ => hS h, H⟩
    · have h1 := H.2 j (ready_mono hj hji)
      obtain ⟨hjun, oj, hoj, hall⟩ := mem_ready.1 hj
      have hnot : ∀ e ∈ oj.after, Region.binds md e = true → e.on ≠ i := fun e he hb heq => by
        have h1 := hall e he hb
        rw [heq, getD_both hun] at h1
        cases h1
      have h2 := wpOp_putIf hoj (hfree j oj hoj hji hjun hnot) (fun cs b => hsel i oi cs b hi) (fun cs b => hsel j oj cs b hoj) hQ hy h1
      have hfree' : ∀ k ok, ops[k]? = some ok → k ≠ i → (listed.setIfInBounds j true).getD k true = false →
          (∀ e ∈ ok.after, Region.binds md e = true → e.on ≠ i) → oi.apart ops ok = true := fun k ok hk hki hun hno => by
        refine hfree k ok hk hki ?_ hno
        by_cases hjk : j = k
        · subst hjk; exact hjun
        · rw [getD_set_ne true hjk] at hun; exact hun
      refine wpOp_mono (fun a' w' h3 => ?_) h2
      have hS' : listed.getD m true = false → j ≠ m → S w' := fun hml hjm => h3.2.1 (by rw [getD_set_ne true him]; exact hml) hjm
      refine ⟨hS', ih (listed.setIfInBounds j true) a' w' (inv.set hj) hfree' (ready_mono hr (Ne.symm hji)) h3.1 (fun hml => ?_) ?_⟩
      · by_cases hjm : j = m
        · subst hjm
          have : (listed.setIfInBounds j true).getD j true = true := by
            have hs : j < listed.size := by rw [inv.size]; exact hm
            simp [hs]
          rw [this] at hml; cases hml
        · exact hS' (by rwa [getD_set_ne true hjm] at hml) hjm
      · rw [Array.setIfInBounds_comm _ _ hji]
        exact h3.2.2

theorem wpP_takeS {i af : Nat} {oi : Oper} {v : Value} (hi : ops[i]? = some oi) (hsel : ∀ (j : Nat) (o : Oper) cs b, ops[j]? = some o → o.op ≠ .select cs b)
    (hQ : ∀ c a w, Q (.panic c) (a.put oi.dst v) w → Q (.panic c) a w) (him : i ≠ m) (hanc : ancB md ops m af i = true) :
    ∀ (f : Nat) (listed : Array Bool) (a : Act) (w : World), Cl md ops listed → listed.getD m true = false →
      (∀ j oj, ops[j]? = some oj → j ≠ i → listed.getD j true = false → (∀ e ∈ oj.after, Region.binds md e = true → e.on ≠ i) → oi.apart ops oj = true) →
      i ∈ Region.ready md ops listed → YieldsIf P ops S oi v a → S w →
      wpP P md ops Q S m f (listed.setIfInBounds i true) (a.put oi.dst v) w → wpP P md ops Q S m (f + 1) listed a w := by
  intro f
  induction f with
  | zero =>
    intro listed a w inv _ _ hr hy hS H
    refine ⟨fun h => (by rw [h] at hr; cases hr), fun j hj => ?_⟩
    by_cases hji : j = i
    · subst hji; exact hy.wpOp hi hS ⟨fun _ _ => hS, H⟩
    · have := ready_mono hj hji
      rw [H.1] at this
      cases this
  | succ f ih =>
    intro listed a w inv hml hfree hr hy hS H
    have hun := (mem_ready.1 hr).1
    refine ⟨fun h => (by rw [h] at hr; cases hr), fun j hj => ?_⟩
    by_cases hji : j = i
    · subst hji; exact hy.wpOp hi hS ⟨fun _ _ => hS, H⟩
    · have hjm : j ≠ m := fun e => anc_waits inv af i hanc hun (e ▸ hj)
      have h1 := H.2 j (ready_mono hj hji)
      obtain ⟨hjun, oj, hoj, hall⟩ := mem_ready.1 hj
      have hnot : ∀ e ∈ oj.after, Region.binds md e = true → e.on ≠ i := fun e he hb heq => by
        have h1 := hall e he hb
        rw [heq, getD_both hun] at h1
        cases h1
      have h2 := wpOp_putIf hoj (hfree j oj hoj hji hjun hnot) (fun cs b => hsel i oi cs b hi) (fun cs b => hsel j oj cs b hoj) hQ hy h1
      have hfree' : ∀ k ok, ops[k]? = some ok → k ≠ i → (listed.setIfInBounds j true).getD k true = false →
          (∀ e ∈ ok.after, Region.binds md e = true → e.on ≠ i) → oi.apart ops ok = true := fun k ok hk hki hun hno => by
        refine hfree k ok hk hki ?_ hno
        by_cases hjk : j = k
        · subst hjk; exact hjun
        · rw [getD_set_ne true hjk] at hun; exact hun
      refine wpOp_mono (fun a' w' h3 => ?_) h2
      have hS' : S w' := h3.2.1 (by rw [getD_set_ne true him]; exact hml) hjm
      refine ⟨fun _ _ => hS', ih (listed.setIfInBounds j true) a' w' (inv.set hj) (by rw [getD_set_ne true hjm]; exact hml) hfree' (ready_mono hr (Ne.symm hji)) h3.1 hS' ?_⟩
      rw [Array.setIfInBounds_comm _ _ hji]
      exact h3.2.2

inductive Pl where
  | nil
  | w (i : Nat) (s : Pl)
  | t (i : Nat) (s : Pl)
  | r (i : Nat) (s : Pl)
  | m (i : Nat) (s : Pl)
  | b (i j : Nat) (s u : Pl)
  | c (i j k : Nat) (s u v : Pl)
def Pl.len : Pl → Nat
  | .nil => 0
  | .w _ s => s.len + 1
  | .t _ s => s.len + 1
  | .r _ s => s.len + 1
  | .m _ s => s.len + 1
  | .b _ _ s _ => s.len + 1
  | .c _ _ _ s _ _ => s.len + 1
def wpPlan (P : Program) (ops : Array Oper) (Q : Exit → Act → World → Prop) (S : World → Prop) : Pl → Act → World → Prop
  | .nil, a, w => Q .normal a w
  | .w i s, a, w => ∃ o v, ops[i]? = some o ∧ YieldsIf P ops (fun _ => True) o v a ∧ wpPlan P ops Q S s (a.put o.dst v) w
  | .t i s, a, w => ∃ o v, ops[i]? = some o ∧ YieldsIf P ops S o v a ∧ wpPlan P ops Q S s (a.put o.dst v) w
  | .r i s, a, w => ∃ o, ops[i]? = some o ∧ o.guard = none ∧ o.wp P a w (fun a' w' => S w' ∧ wpPlan P ops Q S s a' w') Q
  | .m i s, a, w => ∃ o, ops[i]? = some o ∧ o.guard = none ∧ o.wp P a w (fun a' w' => wpPlan P ops Q S s a' w') Q
  | .b i j s u, a, w => (∃ o, ops[i]? = some o ∧ o.guard = none ∧ o.wp P a w (fun a' w' => S w' ∧ wpPlan P ops Q S s a' w') Q) ∧
      (∃ o, ops[j]? = some o ∧ o.guard = none ∧ o.wp P a w (fun a' w' => S w' ∧ wpPlan P ops Q S u a' w') Q)
  | .c i j k s u v, a, w => (∃ o, ops[i]? = some o ∧ o.guard = none ∧ o.wp P a w (fun a' w' => S w' ∧ wpPlan P ops Q S s a' w') Q) ∧
      (∃ o, ops[j]? = some o ∧ o.guard = none ∧ o.wp P a w (fun a' w' => S w' ∧ wpPlan P ops Q S u a' w') Q) ∧
      (∃ o, ops[k]? = some o ∧ o.guard = none ∧ o.wp P a w (fun a' w' => S w' ∧ wpPlan P ops Q S v a' w') Q)
def planOk (md : Region.Mode) (ops : Array Oper) (m : Nat) : Pl → Array Bool → Bool
  | .nil, listed => (Region.ready md ops listed).isEmpty
  | .w i s, listed => decide (i ≠ m) && (Region.ready md ops listed).contains i && Region.free md ops listed i && planOk md ops m s (listed.setIfInBounds i true)
  | .t i s, listed => decide (i ≠ m) && decide (listed.getD m true = false) && (Region.ready md ops listed).contains i && Region.free md ops listed i && ancB md ops m ops.size i && planOk md ops m s (listed.setIfInBounds i true)
  | .r i s, listed => decide (i ≠ m) && decide (listed.getD m true = false) && decide (Region.ready md ops listed = [i]) && planOk md ops m s (listed.setIfInBounds i true)
  | .m i s, listed => (decide (i = m) || decide (listed.getD m true = true)) && decide (Region.ready md ops listed = [i]) && planOk md ops m s (listed.setIfInBounds i true)
  | .b i j s u, listed => decide (i ≠ m) && decide (j ≠ m) && decide (listed.getD m true = false) && decide (s.len = u.len) && decide (Region.ready md ops listed = [i, j]) && planOk md ops m s (listed.setIfInBounds i true) && planOk md ops m u (listed.setIfInBounds j true)
  | .c i j k s u v, listed => decide (i ≠ m) && decide (j ≠ m) && decide (k ≠ m) && decide (listed.getD m true = false) && decide (s.len = u.len) && decide (s.len = v.len) && decide (Region.ready md ops listed = [i, j, k]) && planOk md ops m s (listed.setIfInBounds i true) && planOk md ops m u (listed.setIfInBounds j true) && planOk md ops m v (listed.setIfInBounds k true)

theorem wpOp_one {i : Nat} {o : Oper} {a : Act} {w : World} {K : Act → World → Prop} (ho : ops[i]? = some o) (hg : o.guard = none) (h : o.wp P a w K Q) : wpOp P ops Q i K a w := by
  unfold wpOp
  simp only [ho]
  rw [if_pos (by simp [Region.wanted, hg])]
  exact .inl h
theorem getD_set_self {listed : Array Bool} {i : Nat} (h : i < listed.size) : (listed.setIfInBounds i true).getD i true = true := by simp [h]

theorem wpP_of_plan (hsel : Region.noSelect ops = true) (hm : m < ops.size) (hQ : ∀ c (d : Option Tmp) v a w, Q (.panic c) (Act.put a d v) w → Q (.panic c) a w) :
    ∀ (s : Pl) (listed : Array Bool) (a : Act) (w : World), Cl md ops listed → planOk md ops m s listed = true → (listed.getD m true = false → S w) → wpPlan P ops Q S s a w → wpP P md ops Q S m s.len listed a w
  | .nil, listed, a, w, _, hB, _, h => ⟨by simpa [planOk] using hB, h⟩
  | .w i r, listed, a, w, inv, hB, hS, h => by
    obtain ⟨o, v, ho, hy, hK⟩ := h
    simp only [planOk, Bool.and_eq_true, decide_eq_true_eq] at hB
    obtain ⟨⟨⟨him, hr⟩, hf⟩, hB'⟩ := hB
    have hr' : i ∈ Region.ready md ops listed := by simpa using hr
    exact wpP_takeW ho (Region.noSelect_spec hsel) (fun c a w => hQ c o.dst v a w) him hm r.len listed a w inv (Region.free_spec ho hf) hr' hy hS
      (wpP_of_plan hsel hm hQ r _ _ w (inv.set hr') hB' (fun h => hS (by rwa [getD_set_ne true him] at h)) hK)
  | .t i r, listed, a, w, inv, hB, hS, h => by
    obtain ⟨o, v, ho, hy, hK⟩ := h
    simp only [planOk, Bool.and_eq_true, decide_eq_true_eq] at hB
    obtain ⟨⟨⟨⟨⟨him, hml⟩, hr⟩, hf⟩, han⟩, hB'⟩ := hB
    have hr' : i ∈ Region.ready md ops listed := by simpa using hr
    exact wpP_takeS ho (Region.noSelect_spec hsel) (fun c a w => hQ c o.dst v a w) him han r.len listed a w inv hml (Region.free_spec ho hf) hr' hy (hS hml)
      (wpP_of_plan hsel hm hQ r _ _ w (inv.set hr') hB' (fun _ => hS hml) hK)
  | .r i r, listed, a, w, inv, hB, hS, h => by
    obtain ⟨o, ho, hg, hK⟩ := h
    simp only [planOk, Bool.and_eq_true, decide_eq_true_eq] at hB
    obtain ⟨⟨⟨him, hml⟩, hr⟩, hB'⟩ := hB
    have hr' : i ∈ Region.ready md ops listed := by rw [hr]; simp
    refine ⟨fun h0 => (by rw [hr] at h0; cases h0), fun j hj => ?_⟩
    rw [hr] at hj
    have hj' : j = i := by simpa using hj
    subst hj'
    exact wpOp_one ho hg (Oper.wp_mono (fun a' w' h' => ⟨fun _ _ => h'.1, wpP_of_plan hsel hm hQ r _ a' w' (inv.set hr') hB' (fun _ => h'.1) h'.2⟩) hK)
  | .m i r, listed, a, w, inv, hB, hS, h => by
    obtain ⟨o, ho, hg, hK⟩ := h
    simp only [planOk, Bool.and_eq_true, Bool.or_eq_true, decide_eq_true_eq] at hB
    obtain ⟨⟨him, hr⟩, hB'⟩ := hB
    have hr' : i ∈ Region.ready md ops listed := by rw [hr]; simp
    refine ⟨fun h0 => (by rw [hr] at h0; cases h0), fun j hj => ?_⟩
    rw [hr] at hj
    have hj' : j = i := by simpa using hj
    subst hj'
    have hml : (listed.setIfInBounds j true).getD m true = true := by
      rcases him with e | e
      · subst e; exact getD_set_self (by rw [inv.size]; exact hm)
      · by_cases e2 : j = m
        · subst e2; exact getD_set_self (by rw [inv.size]; exact hm)
        · rw [getD_set_ne true e2]; exact e
    refine wpOp_one ho hg (Oper.wp_mono (fun a' w' h' => ⟨fun h1 h2 => ?_, wpP_of_plan hsel hm hQ r _ a' w' (inv.set hr') hB' (fun h1 => by rw [hml] at h1; cases h1) h'⟩) hK)
    rcases him with e | e
    · exact absurd e h2
    · rw [e] at h1; cases h1
  | .b i j r u, listed, a, w, inv, hB, hS, h => by
    obtain ⟨⟨o, ho, hg, hK⟩, ⟨o2, ho2, hg2, hK2⟩⟩ := h
    simp only [planOk, Bool.and_eq_true, decide_eq_true_eq] at hB
    obtain ⟨⟨⟨⟨⟨⟨him, hjm⟩, hml⟩, hlen⟩, hr⟩, hB1⟩, hB2⟩ := hB
    have hri : i ∈ Region.ready md ops listed := by rw [hr]; simp
    have hrj : j ∈ Region.ready md ops listed := by rw [hr]; simp
    refine ⟨fun h0 => (by rw [hr] at h0; cases h0), fun k hk => ?_⟩
    rw [hr] at hk
    have hk' : k = i ∨ k = j := by simpa using hk
    rcases hk' with e | e
    · subst e
      exact wpOp_one ho hg (Oper.wp_mono (fun a' w' h' => ⟨fun _ _ => h'.1, wpP_of_plan hsel hm hQ r _ a' w' (inv.set hri) hB1 (fun _ => h'.1) h'.2⟩) hK)
    · subst e
      rw [hlen]
      exact wpOp_one ho2 hg2 (Oper.wp_mono (fun a' w' h' => ⟨fun _ _ => h'.1, wpP_of_plan hsel hm hQ u _ a' w' (inv.set hrj) hB2 (fun _ => h'.1) h'.2⟩) hK2)
  | .c i j k r u v, listed, a, w, inv, hB, hS, h => by
    obtain ⟨⟨o, ho, hg, hK⟩, ⟨o2, ho2, hg2, hK2⟩, ⟨o3, ho3, hg3, hK3⟩⟩ := h
    simp only [planOk, Bool.and_eq_true, decide_eq_true_eq] at hB
    obtain ⟨⟨⟨⟨⟨⟨⟨⟨⟨him, hjm⟩, hkm⟩, hml⟩, hlen⟩, hlen2⟩, hr⟩, hB1⟩, hB2⟩, hB3⟩ := hB
    have hri : i ∈ Region.ready md ops listed := by rw [hr]; simp
    have hrj : j ∈ Region.ready md ops listed := by rw [hr]; simp
    have hrk : k ∈ Region.ready md ops listed := by rw [hr]; simp
    refine ⟨fun h0 => (by rw [hr] at h0; cases h0), fun q hk => ?_⟩
    rw [hr] at hk
    have hk' : q = i ∨ q = j ∨ q = k := by simpa using hk
    rcases hk' with e | e | e
    · subst e
      exact wpOp_one ho hg (Oper.wp_mono (fun a' w' h' => ⟨fun _ _ => h'.1, wpP_of_plan hsel hm hQ r _ a' w' (inv.set hri) hB1 (fun _ => h'.1) h'.2⟩) hK)
    · subst e
      show wpOp P ops Q _ (fun a' w' => _ ∧ wpP P md ops Q S m r.len _ a' w') a w
      rw [hlen]
      exact wpOp_one ho2 hg2 (Oper.wp_mono (fun a' w' h' => ⟨fun _ _ => h'.1, wpP_of_plan hsel hm hQ u _ a' w' (inv.set hrj) hB2 (fun _ => h'.1) h'.2⟩) hK2)
    · subst e
      show wpOp P ops Q _ (fun a' w' => _ ∧ wpP P md ops Q S m r.len _ a' w') a w
      rw [hlen2]
      exact wpOp_one ho3 hg3 (Oper.wp_mono (fun a' w' h' => ⟨fun _ _ => h'.1, wpP_of_plan hsel hm hQ v _ a' w' (inv.set hrk) hB3 (fun _ => h'.1) h'.2⟩) hK3)

def planAll (ops : Array Oper) (m : Nat) (s : Pl) : Bool :=
  Region.noSelect ops && decide (m < ops.size) && decide (s.len = ops.size) && planOk .any ops m s (Array.replicate ops.size false)
/-- THE BEGINNING -/
theorem wp_region_plan {id : Nat} {a : Act} {w : World} {l : List Oper} (S : World → Prop) (m : Nat) (s : Pl) (hm : P.follows .mixedOrders = true) (hB : planAll l.toArray m s = true)
    (hS : S w.drew) (hQ : ∀ c (d : Option Tmp) v a w, Q (.panic c) (Act.put a d v) w → Q (.panic c) a w)
    (h : wpPlan P l.toArray Q S s a w.drew) : (Code.region id l.toArray true).wp P Q a w := by
  simp only [planAll, Bool.and_eq_true, decide_eq_true_eq] at hB
  obtain ⟨⟨⟨hsel, hms⟩, hlen⟩, hseq⟩ := hB
  have inv0 : Cl .any l.toArray (Array.replicate l.toArray.size false) :=
    ⟨by simp, fun j oj _ hl => (by rw [getD_replicate_false] at hl; cases hl)⟩
  have H := wpP_of_plan (md := .any) hsel hms hQ s _ a w.drew inv0 hseq (fun _ => hS) h
  rw [hlen] at H
  exact wp_region_any hm (wpAny_of_P _ _ _ _ H)

/- the steps -/
variable {l : List Oper} {i j : Nat} {s u : Pl} {a : Act} {w : World} {o o2 : Oper}
theorem plan_end (h : Q .normal a w) : wpPlan P ops Q S .nil a w := h
theorem plan_w (ho : l[i]? = some o) (hg : o.guard = none) {v : Value} (hv : ∀ wx, (execOp a.eval o).run P wx = .ok (.value v) wx) (h : wpPlan P l.toArray Q S s (a.put o.dst v) w) : wpPlan P l.toArray Q S (.w i s) a w :=
  ⟨o, v, by simpa using ho, .inl ⟨by simp [Region.wanted, hg], fun wx _ => hv wx⟩, h⟩
theorem plan_t (ho : l[i]? = some o) (hg : o.guard = none) {v : Value} (hv : ∀ wx, S wx → (execOp a.eval o).run P wx = .ok (.value v) wx) (h : wpPlan P l.toArray Q S s (a.put o.dst v) w) : wpPlan P l.toArray Q S (.t i s) a w :=
  ⟨o, v, by simpa using ho, .inl ⟨by simp [Region.wanted, hg], hv⟩, h⟩
theorem plan_r (ho : l[i]? = some o) (hg : o.guard = none) (h : o.wp P a w (fun a' w' => S w' ∧ wpPlan P l.toArray Q S s a' w') Q) : wpPlan P l.toArray Q S (.r i s) a w :=
  ⟨o, by simpa using ho, hg, h⟩
theorem plan_m (ho : l[i]? = some o) (hg : o.guard = none) (h : o.wp P a w (fun a' w' => wpPlan P l.toArray Q S s a' w') Q) : wpPlan P l.toArray Q S (.m i s) a w :=
  ⟨o, by simpa using ho, hg, h⟩
theorem plan_key2 {G : Prop} {C F : Nat → Nat → World → Prop} (h1 : (∀ g g' w', C g g' w' → F g g' w') → G) (h : ∀ g g' w', C g g' w' → F g g' w') : G := h1 h
theorem plan_b0 (ho : l[i]? = some o) (hg : o.guard = none) (ho2 : l[j]? = some o2) (hg2 : o2.guard = none)
    (h1 : o.wp P a w (fun a' w' => S w' ∧ wpPlan P l.toArray Q S s a' w') Q)
    (h2 : o2.wp P a w (fun a' w' => S w' ∧ wpPlan P l.toArray Q S u a' w') Q) : wpPlan P l.toArray Q S (.b i j s u) a w :=
  ⟨⟨o, by simpa using ho, hg, h1⟩, ⟨o2, by simpa using ho2, hg2, h2⟩⟩
end
end Go.Mv

/- span.Read. -/
namespace Go.Mv
open Go.RowKit Mvp
theorem wp_makeP {P : Program} {w : World} {o : Oper} {a : Act} {K : Act → World → Prop} {Q : Exit → Act → World → Prop} {l c : Operand} {t : TypeId} (ho : o.op = .makeSlice t l c) {e : TypeId} {z : Value} {by_ : Nat} (ht : P.underlying t = some (.slice e))
    (hi0 : (P.info? e).map (fun i => (i.zero, i.size, i.bytes)) = some (some z, 1, by_)) (hzc : z.cells = #[z]) {kl kc : IntKind} {x y : Int} (hl : a.eval l = .int kl x) (hc : a.eval c = .int kc y) (n m : Nat) (hx : x = n) (hy : y = m) (hnm : n ≤ m)
    (hb : by_ * m ≤ 281474976710656) (h63 : m ≤ maxLen)
    (h : ∀ w', Has w' w.heap.size (List.replicate m z) e → Fr Nob w w' → w'.heap.size = w.heap.size + 1 → K (a.put o.dst (.slice (some ⟨w.heap.size, 0, none⟩) n m)) w') : o.wp P a w K Q := by
  obtain ⟨i, hi, hz, hsize, hby⟩ := info_parts hi0
  subst hx
  subst hy
  have hmx : (m : Int) ≤ 9223372036854775807 := by simp only [maxLen] at h63; omega
  have hbb : (i.bytes : Int) * (m : Int) ≤ 281474976710656 := by
    have k : ((i.bytes * m : Nat) : Int) ≤ 281474976710656 := by rw [hby]; omega
    rwa [Int.natCast_mul] at k
  have hr := run_make (P := P) w t e i z ht hi hz kl kc n m (by omega) (by omega) hbb hmx
  simp only [Int.toNat_natCast, hsize, Nat.mul_one] at hr
  unfold Oper.wp execOp
  simp only [ho, hl, hc, Sem.run_bind, Sem.run_pure, Result.andThen_ok, hr]
  refine h _ ?_ ((Fr.refl _ w).alloc _) (by simp)
  have := Has.new w (madeCells z.cells m) e
  rwa [madeCells_one z hzc] at this
theorem Has.putR {w : World} {g : Nat} {L : List Value} {T : TypeId} (h : Has w g L T) (i : Nat) (v : Value) : Has (w.setCell ⟨g, i, none⟩ v) g (L.set i v) T ∧ Fr (One g) w (w.setCell ⟨g, i, none⟩ v) :=
  ⟨h.set i v, (Fr.refl (One g) w).setCell g i none v fun _ => rfl⟩
theorem results_stR {P : Program} {fn : Func} {p : Tmp} {ty : TypeId} {s : Tmp} (h : fn.results = #[.cell p ty, .tmp s]) {tmps : Array Value} {w : World} {g : Nat} {L : List Value} {T : TypeId}
    (hp : tmps.getD p undef = .pointer (some ⟨g, 0, none⟩)) (hg : Has w g L T) {d : TypeDesc} (hu : P.underlying ty = some d) (hd : (match d with | .struct _ | .array _ _ => true | _ => false) = true) (hi : (P.info? ty).map (·.size) = some L.length) {v : Value} (hv : tmps.getD s undef = v) :
    (results fn tmps).run P w = .ok (.tuple #[.agg L.toArray, v]) w := by
  obtain ⟨lo, hi', hh, -⟩ := hg
  have hp' : tmps[p]?.getD undef = .pointer (some ⟨g, 0, none⟩) := by simpa using hp
  have hv' : tmps[s]?.getD undef = v := by simpa using hv
  simp [results, h, hp', hv', asAddr, run_loadVar_row w g T ty L.toArray _ _ hh hu (by cases d <;> first | rfl | (simp at hd)) (by simpa using hi)]
end Go.Mv
namespace Go.Proofs.Ytdadnajbdnbbdaa
open Go.RowKit Go.Mv Mvp
attribute [local irreducible] cutL szL slotL
def zR : List Value := [.slice none 0 0, .slice none 0 0, .slice none 0 0, .slice none 0 0, .slice none 0 0, .slice none 0 0, .slice none 0 0, .slice none 0 0, .slice none 0 0, .slice none 0 0, .slice none 0 0]
theorem zero_range : (Try.prog.info? 27).map (·.zero) = some (some (.agg #[.slice none 0 0, .slice none 0 0, .slice none 0 0, .slice none 0 0, .slice none 0 0, .slice none 0 0, .slice none 0 0, .slice none 0 0, .slice none 0 0, .slice none 0 0, .slice none 0 0])) := by kernel_rfl
theorem built_range : Try.prog.built 27 [] = some #[.slice none 0 0, .slice none 0 0, .slice none 0 0, .slice none 0 0, .slice none 0 0, .slice none 0 0, .slice none 0 0, .slice none 0 0, .slice none 0 0, .slice none 0 0, .slice none 0 0] := by kernel_rfl
theorem info_sl24 : (Try.prog.info? 22).map (fun i => (i.zero, i.size, i.bytes)) = some (some (.slice none 0 0), 1, 24) := by kernel_rfl
/-- a proof of a range, all of the call's own, apart -/
structure RgO (w : World) (base : Nat) (A S T1 T2 Tau Mu T : Value) (aL : Option Addr) (n cL : Nat) (aR : Option Addr) (cR : Nat) (IA IB : Value) (vL vR : List Value) (ls : List (List UInt8)) : Prop where
  l : Own w base 22 1 (.slice aL n cL) n vL
  r : Own w base 22 1 (.slice aR n cR) n vR
  p : POwn w base ([A, S, T1, T2, Tau, Mu, T] ++ (vL ++ vR ++ [IA, IB])) ls
  s : Sep ([A, S, T1, T2, Tau, Mu, T] ++ (vL ++ vR ++ [IA, IB]))
def ReadPost (w : World) (s : List UInt8) (e : Ending) (w' : World) : Prop :=
  ∃ A S T1 T2 Tau Mu T aL cL aR cR IA IB vL vR, e = .returned (.tuple #[.agg #[A, S, T1, T2, Tau, Mu, T, .slice aL (nR s) cL, .slice aR (nR s) cR, IA, IB], .int .i64 (if okR s then 0 else 2)]) ∧ RgO w' w.heap.size A S T1 T2 Tau Mu T aL (nR s) cL aR cR IA IB vL vR (lsR s) ∧ Fr Nob w w'
theorem POwn.nils (w : World) (base : Nat) : ∀ k, POwn w base (List.replicate k (.slice none 0 0)) (List.replicate k [])
  | 0 => trivial
  | k + 1 => ⟨Own.nil _ _ _ _, POwn.nils w base k⟩
theorem Sep.nils (k : Nat) : Sep (List.replicate k (.slice none 0 0)) := by
  unfold Sep
  rw [List.pairwise_replicate]
  right
  rintro j ⟨_, _, _, _, h, _⟩
theorem ReadPost.bad {w w' : World} {s : List UInt8} {e : Ending} (h : okR s = false) (he : e = .returned (.tuple #[.agg zR.toArray, .int .i64 2])) (hf : Fr Nob w w') : ReadPost w s e w' := by
  have hn : nR s = 0 := by unfold nR; rw [h]; rfl
  unfold ReadPost
  rw [hn, h]
  refine ⟨.slice none 0 0, .slice none 0 0, .slice none 0 0, .slice none 0 0, .slice none 0 0, .slice none 0 0, .slice none 0 0, none, 0, none, 0, .slice none 0 0, .slice none 0 0, [], [], he, ⟨Own.nil _ _ _ _, Own.nil _ _ _ _, ?_, ?_⟩, hf⟩
  · unfold lsR; rw [h]; exact POwn.nils _ _ 9
  · exact Sep.nils 9
theorem split_vs {α : Type} (n : Nat) (vs : List α) (h : vs.length = n + n + 9) : ∃ A S T1 T2 Tau Mu T vL vR IA IB, vs = [A, S, T1, T2, Tau, Mu, T] ++ (vL ++ vR ++ [IA, IB]) ∧ vL.length = n ∧ vR.length = n := by
  obtain ⟨A, vs, rfl⟩ : ∃ a l, vs = a :: l := by cases vs with | nil => simp at h | cons a l => exact ⟨a, l, rfl⟩
  obtain ⟨S, vs, rfl⟩ : ∃ a l, vs = a :: l := by cases vs with | nil => simp at h | cons a l => exact ⟨a, l, rfl⟩
  obtain ⟨T1, vs, rfl⟩ : ∃ a l, vs = a :: l := by cases vs with | nil => simp at h | cons a l => exact ⟨a, l, rfl⟩
  obtain ⟨T2, vs, rfl⟩ : ∃ a l, vs = a :: l := by cases vs with | nil => simp at h | cons a l => exact ⟨a, l, rfl⟩
  obtain ⟨Tau, vs, rfl⟩ : ∃ a l, vs = a :: l := by cases vs with | nil => simp at h | cons a l => exact ⟨a, l, rfl⟩
  obtain ⟨Mu, vs, rfl⟩ : ∃ a l, vs = a :: l := by cases vs with | nil => simp at h | cons a l => exact ⟨a, l, rfl⟩
  obtain ⟨T, vs, rfl⟩ : ∃ a l, vs = a :: l := by cases vs with | nil => simp at h | cons a l => exact ⟨a, l, rfl⟩
  simp at h
  have e1 : vs = vs.take n ++ ((vs.drop n).take n ++ (vs.drop n).drop n) := by rw [List.take_append_drop, List.take_append_drop]
  obtain ⟨IA, IB, e2⟩ : ∃ x y, (vs.drop n).drop n = [x, y] := by
    have h2 : ((vs.drop n).drop n).length = 2 := by simp; omega
    generalize (vs.drop n).drop n = z at h2
    match z, h2 with
    | [x, y], _ => exact ⟨x, y, rfl⟩
  refine ⟨A, S, T1, T2, Tau, Mu, T, vs.take n, (vs.drop n).take n, IA, IB, ?_, by simp; omega, by simp; omega⟩
  rw [← e2, List.append_assoc, ← e1]
  rfl
/-- what lies at the places, at the end -/
theorem RdS.done {w : World} {base base' g n gL gR : Nat} {vs : List Value} {ls : List (List UInt8)} (h : RdS w base g n gL gR vs) (hb : base' ≤ base) (hp : POwn w base' vs ls) (hs : Sep vs) (hn : n ≤ 6) :
    ∃ A S T1 T2 Tau Mu T IA IB vL vR, Has w g [A, S, T1, T2, Tau, Mu, T, .slice (some ⟨gL, 0, none⟩) n n, .slice (some ⟨gR, 0, none⟩) n n, IA, IB] 27 ∧ RgO w base' A S T1 T2 Tau Mu T (some ⟨gL, 0, none⟩) n n (some ⟨gR, 0, none⟩) n IA IB vL vR ls ∧ ∀ v ∈ [A, S, T1, T2, Tau, Mu, T, .slice (some ⟨gL, 0, none⟩) n n, .slice (some ⟨gR, 0, none⟩) n n, IA, IB], v.oneCell' = true := by
  obtain ⟨A, S, T1, T2, Tau, Mu, T, vL, vR, IA, IB, rfl, h1, h2⟩ := split_vs n vs h.len
  have hh := h.h
  have hl := h.l
  have hr := h.r
  have e1 : (([A, S, T1, T2, Tau, Mu, T] ++ (vL ++ vR ++ [IA, IB])).drop 7).take n = vL := by
    show ((vL ++ vR ++ [IA, IB])).take n = vL
    rw [List.append_assoc, List.take_append_of_le_length (by omega), List.take_of_length_le (by omega)]
  have e2 : (([A, S, T1, T2, Tau, Mu, T] ++ (vL ++ vR ++ [IA, IB])).drop (7 + n)).take n = vR := by
    rw [← List.drop_drop]
    show ((vL ++ vR ++ [IA, IB]).drop n).take n = vR
    rw [List.append_assoc, List.drop_append_of_le_length (by omega), List.drop_of_length_le (by omega), List.nil_append, List.take_append_of_le_length (by omega), List.take_of_length_le (by omega)]
  have e3 : ([A, S, T1, T2, Tau, Mu, T] ++ (vL ++ vR ++ [IA, IB])).drop (7 + (n + n)) = [IA, IB] := by
    rw [← List.drop_drop]
    show (vL ++ vR ++ [IA, IB]).drop (n + n) = [IA, IB]
    rw [List.drop_append_of_le_length (by simp; omega), List.drop_of_length_le (by simp; omega), List.nil_append]
  rw [e1] at hl
  rw [e2] at hr
  rw [e3] at hh
  have hml : n ≤ maxLen := by unfold maxLen; omega
  have h1c : ∀ v ∈ [A, S, T1, T2, Tau, Mu, T] ++ (vL ++ vR ++ [IA, IB]), v.oneCell' = true := fun v hv => by
    obtain ⟨l, -, ho⟩ := hp.mem hv
    obtain ⟨_, _, rfl, -⟩ := ho.form
    rfl
  refine ⟨A, S, T1, T2, Tau, Mu, T, IA, IB, vL, vR, hh, ⟨?_, ?_, hp, hs⟩, fun v hv => ?_⟩
  · have := Own.made hl base' (Nat.le_trans hb h.b2) 1 n n (Nat.le_refl _) hml (by omega)
    rwa [List.take_of_length_le (by omega)] at this
  · have := Own.made hr base' (Nat.le_trans hb h.b3) 1 n n (Nat.le_refl _) hml (by omega)
    rwa [List.take_of_length_le (by omega)] at this
  · have hv' : v ∈ [A, S, T1, T2, Tau, Mu, T] ++ ([.slice (some ⟨gL, 0, none⟩) n n, .slice (some ⟨gR, 0, none⟩) n n] ++ [IA, IB]) := hv
    rcases List.mem_append.mp hv' with h3 | h3
    · exact h1c v (List.mem_append_left _ h3)
    · rcases List.mem_append.mp h3 with h3 | h3
      · simp at h3
        rcases h3 with rfl | rfl <;> rfl
      · exact h1c v (List.mem_append_right _ (List.mem_append_right _ h3))
/-- a block of another type is written -/
theorem RgO.off {w w' : World} {base : Nat} {A S T1 T2 Tau Mu T : Value} {aL : Option Addr} {n cL : Nat} {aR : Option Addr} {cR : Nat} {IA IB : Value} {vL vR : List Value} {ls : List (List UInt8)} (h : RgO w base A S T1 T2 Tau Mu T aL n cL aR cR IA IB vL vR ls) {g : Nat} {L' : List Value} {T' : TypeId} (hg : Has w g L' T') (h1 : 5 ≠ T') (h2 : 22 ≠ T') (hf : Fr (One g) w w') : RgO w' base A S T1 T2 Tau Mu T aL n cL aR cR IA IB vL vR ls :=
  ⟨h.l.keep hf (fun k hk e => h.l.ne hg h2 (by change k = g at e; exact e ▸ hk)), h.r.keep hf (fun k hk e => h.r.ne hg h2 (by change k = g at e; exact e ▸ hk)), POwn.keep hf h.p (fun _ _ _ ho k hk e => ho.ne hg h1 (by change k = g at e; exact e ▸ hk)), h.s⟩
theorem ReadPost.good {w w' : World} {s : List UInt8} {e : Ending} {A S T1 T2 Tau Mu T : Value} {aL : Option Addr} {n cL : Nat} {aR : Option Addr} {cR : Nat} {IA IB : Value} {vL vR : List Value} {ls : List (List UInt8)} (h : okR s = true) (hn : n = hdR s) (hl : ls = cutL (szL n n) (s.drop 1))
    (hr : RgO w' w.heap.size A S T1 T2 Tau Mu T aL n cL aR cR IA IB vL vR ls) (he : e = .returned (.tuple #[.agg #[A, S, T1, T2, Tau, Mu, T, .slice aL n cL, .slice aR n cR, IA, IB], .int .i64 0])) (hf : Fr Nob w w') : ReadPost w s e w' := by
  have h1 : nR s = hdR s := by unfold nR; rw [h]; rfl
  have h2 : lsR s = cutL (szL (hdR s) (hdR s)) (s.drop 1) := by unfold lsR; rw [h]; rfl
  subst hn hl
  unfold ReadPost
  rw [h1, h2, h]
  exact ⟨A, S, T1, T2, Tau, Mu, T, aL, cL, aR, cR, IA, IB, vL, vR, he, hr, hf⟩
/-- the places at the start -/
theorem RdS.start {w : World} {base g n gL gR : Nat} (h : Has w g [.slice none 0 0, .slice none 0 0, .slice none 0 0, .slice none 0 0, .slice none 0 0, .slice none 0 0, .slice none 0 0, .slice (some ⟨gL, 0, none⟩) n n, .slice (some ⟨gR, 0, none⟩) n n, .slice none 0 0, .slice none 0 0] 27)
    (hl : Has w gL (List.replicate n (.slice none 0 0)) 22) (hr : Has w gR (List.replicate n (.slice none 0 0)) 22) (ne : gL ≠ gR) (b1 : base ≤ g) (b2 : base ≤ gL) (b3 : base ≤ gR) : RdS w base g n gL gR (List.replicate (n + n + 9) (.slice none 0 0)) := by
  refine ⟨?_, ?_, ?_, ne, by simp, b1, b2, b3⟩
  · rw [List.take_replicate, List.drop_replicate, show min 7 (n + n + 9) = 7 by omega, show n + n + 9 - (7 + (n + n)) = 2 by omega]
    exact h
  · rw [List.drop_replicate, List.take_replicate, show min n (n + n + 9 - 7) = n by omega]
    exact hl
  · rw [List.drop_replicate, List.take_replicate, show min n (n + n + 9 - (7 + n)) = n by omega]
    exact hr
end Go.Proofs.Ytdadnajbdnbbdaa
