/- A log of the sponge, the reference's: NewLog, Say, Ask, Clone. -/
import Derived.Test.YtgkakddldobpkaaW17
import Derived.Test.YtgkakddldobpkaaBox3
namespace Go.Proofs.Ytgkakddldobpkaa
open Go.RowKit Go.Mv Mvp
attribute [local irreducible] permS permP toB turnsK squeeze permN permB spongeB feed frameL framesL tagL

theorem info_sl : (Try.prog.info? 22).map (fun i => (i.zero, i.size, i.bytes)) = some (some (.slice none 0 0), 1, 24) := by kernel_rfl
theorem info_str : (Try.prog.info? 9).map (fun i => (i.zero, i.size, i.bytes)) = some (some (.string ByteArray.empty), 1, 16) := by kernel_rfl

/-- parts by their values -/
def Parts (w : World) : List Value → List (List UInt8) → Prop
  | [], [] => True
  | v :: vs, l :: ls => PartIs w v l ∧ Parts w vs ls
  | _, _ => False
theorem Parts.len {w : World} : ∀ {vs : List Value} {ls : List (List UInt8)}, Parts w vs ls → vs.length = ls.length
  | [], [], _ => rfl
  | _ :: _, _ :: _, h => by simp only [List.length_cons]; rw [Parts.len h.2]
  | [], _ :: _, h => h.elim
  | _ :: _, [], h => h.elim
theorem Parts.get {w : World} : ∀ {vs : List Value} {ls : List (List UInt8)}, Parts w vs ls → ∀ (i : Nat) (v : Value), vs[i]? = some v → ∃ l : List UInt8, ls[i]? = some l ∧ PartIs w v l
  | [], [], _, i, v, h => by simp at h
  | x :: vs, l :: ls, h, 0, v, hv => by simp only [List.getElem?_cons_zero, Option.some.injEq] at hv; subst hv; exact ⟨l, rfl, h.1⟩
  | x :: vs, l :: ls, h, i + 1, v, hv => by simp only [List.getElem?_cons_succ] at hv ⊢; exact Parts.get h.2 i v hv
  | [], _ :: _, h, _, _, _ => h.elim
  | _ :: _, [], h, _, _, _ => h.elim
theorem Parts.at {w : World} {g : Nat} {T : TypeId} {vs : List Value} {ls : List (List UInt8)} (h : Parts w vs ls) (hg : Has w g vs T) : PartsAt w (some ⟨g, 0, none⟩) ls :=
  ⟨vs, by have := Rd.whole hg; rwa [h.len] at this, h.get⟩
theorem Parts.cells {w : World} : ∀ {vs : List Value} {ls : List (List UInt8)}, Parts w vs ls → ∀ v ∈ vs, v.cells = #[v]
  | [], _, _, v, h => by simp at h
  | x :: vs, l :: ls, h, v, hv => by
    rcases List.mem_cons.1 hv with rfl | hv
    · obtain ⟨a, n, c, rfl, _⟩ := h.1; rfl
    · exact Parts.cells h.2 v hv
  | _ :: _, [], h, _, _ => h.elim
theorem own_part {w : World} {base n : Nat} {T : TypeId} {v : Value} {l : List UInt8} (h : Own w base T 1 v n (bs l)) (hn : n ≤ 1000000) : PartIs w v l := by
  have h0 := h
  obtain ⟨a, c, rfl, hc, hr, -⟩ := h.form
  rw [Nat.mul_one] at hr
  refine ⟨a, n, c, rfl, hc, hn, hr, ?_⟩
  intro x hx
  exact (h0.lt (by rw [hx]; rfl)).2

/-- a log: one cell with the 32 bytes of what was said -/
def LogAt (w : World) (base g : Nat) (l : List UInt8) : Prop := ∃ v, Has w g [v] 100 ∧ Own w base 5 1 v 32 (bs l)
theorem LogAt.still {w w' : World} {base g : Nat} {l : List UInt8} (h : LogAt w base g l) (hf : Fr Nob w w') : LogAt w' base g l := by
  obtain ⟨v, h1, h2⟩ := h; exact ⟨v, h1.keep hf id, h2.still hf⟩
theorem LogAt.other {w w' : World} {base g g' : Nat} {l : List UInt8} (h : LogAt w base g l) (hf : Fr (One g') w w') (hne : g ≠ g') {L : List Value} {T : TypeId} (hg : Has w g' L T) (hT : 5 ≠ T) : LogAt w' base g l := by
  obtain ⟨v, h1, h2⟩ := h
  exact ⟨v, h1.keep hf hne, h2.keep hf (fun k hk (e : k = g') => h2.ne hg hT (e ▸ hk))⟩
theorem LogAt.lt {w : World} {base g : Nat} {l : List UInt8} (h : LogAt w base g l) : g < w.heap.size := by obtain ⟨v, h1, _⟩ := h; exact h1.lt

/-- the reference's -/
def RLogAt (w : World) (g : Nat) (l : List UInt8) : Prop := Has w g [.string (mkS l)] 53

theorem built_log (a : Option Addr) (n c : Nat) : Try.prog.built 100 [(0, .slice a n c)] = some #[.slice a n c] := by kernel_rfl
theorem built_rlog (s : ByteArray) : Try.prog.built 53 [(0, .string s)] = some #[.string s] := by kernel_rfl

def kLog : List UInt8 := [108, 111, 103]
def kSay : List UInt8 := [115, 97, 121]
def kAsk : List UInt8 := [97, 115, 107]
def kAsked : List UInt8 := [97, 115, 107, 101, 100]
theorem kLog_eq : (⟨#[108, 111, 103]⟩ : ByteArray) = mkS kLog := rfl
theorem kSay_eq : (⟨#[115, 97, 121]⟩ : ByteArray) = mkS kSay := rfl
theorem kAsk_eq : (⟨#[97, 115, 107]⟩ : ByteArray) = mkS kAsk := rfl
theorem kAsked_eq : (⟨#[97, 115, 107, 101, 100]⟩ : ByteArray) = mkS kAsked := rfl

theorem tagL_len (k : List UInt8) (ls : List (List UInt8)) : (tagL k ls).length = 32 := by unfold tagL; exact spongeB_len _ _ _
/-- tag of a literal list -/
theorem tag_of (k : List UInt8) (hk : k.length ≤ 100) (g c : Nat) (vs : List Value) (ls : List (List UInt8)) (w : World) (hh : Has w g vs 22) (hp : Parts w vs ls) (hm : ls.length ≤ 1000000) :
    Calls Try.prog 53 #[.string (mkS k), .slice (some ⟨g, 0, none⟩) ls.length c] w fun r w' => ∃ v, r = .returned v ∧ Own w' w.heap.size 5 1 v 32 (bs (tagL k ls)) ∧ Fr Nob w w' := by
  have := tag_any (mkS k) (some ⟨g, 0, none⟩) c ls w (by rw [mkS_size]; omega) hm (hp.at hh)
  rwa [mkS_toList] at this
theorem tagR_of (k : List UInt8) (g c : Nat) (ls : List (List UInt8)) (w : World) (hh : Has w g (ss ls) 9) (hs : k.length + sumL ls ≤ 100000) (hm : ls.length ≤ 1000) :
    Calls Try.prog 17 #[.string (mkS k), .slice (some ⟨g, 0, none⟩) ls.length c] w fun r w' => r = .returned (.string (mkS (tagL k ls))) ∧ Fr Nob w w' := by
  have hr := Rd.whole hh
  rw [ss_len] at hr
  have := tagR_any (mkS k) (some ⟨g, 0, none⟩) c ls w (by rw [mkS_size]; exact hs) hm hr
  rwa [mkS_toList] at this

set_option maxHeartbeats 400000 in
set_option maxRecDepth 1000000 in
theorem newLog_any (s : ByteArray) (w : World) (hs : s.size ≤ 1000000) :
    Calls Try.prog 22 #[.string s] w fun r w' => ∃ g, r = .returned (.pointer (some ⟨g, 0, none⟩)) ∧ w.heap.size ≤ g ∧ LogAt w' w.heap.size g (tagL kLog [s.data.toList]) ∧ Fr Nob w w' := by
  go_enter Try.func22, Try.ntmps22
  go_wp2_with (with_reducible refine wl_stop (o := ⟨some 4, _, _, _, _, _⟩) ?_)
  refine wl_bytes rfl rfl Try.underlying9 Try.underlying22 Try.underlying5 rfl (by unfold maxLen; omega) w.heap.size (Nat.le_refl _) ?_
  intro cap w1 hown1 hf1 hz1
  clear hz1
  go_wp2_with (with_reducible refine wl_stop (o := ⟨some 5, _, _, _, _, _⟩) ?_)
  refine wl_slit rfl rfl Try.underlying31 info_sl [.slice (some ⟨w.heap.size, 0, none⟩) s.size cap] rfl (by simp; rfl) rfl rfl ?_
  intro w2 hh2 hf2 hz2
  clear hz2
  have hfr2 := hf1.then hf2
  have hp2 : Parts w2 [.slice (some ⟨w.heap.size, 0, none⟩) s.size cap] [s.data.toList] := ⟨own_part (hown1.still hf2) hs, trivial⟩
  clear hown1 hf1 hf2
  have hb2 : w.heap.size ≤ w2.heap.size := hfr2.size
  generalize hgw : w.heap.size = g0 at *
  have HG := Lib.hid hgw; clear hgw
  generalize w1.heap.size = g1 at *
  rw [kLog_eq]
  go_wp2_with fail
  refine (tag_of kLog (by decide) _ _ _ _ w2 hh2 hp2 (by simp)).mono ?_
  rintro e w3 ⟨v3, rfl, hown3, hf3⟩
  have hfr3 := hfr2.then hf3
  have hf3s := hf3.size
  have hown3' := hown3.mono (base' := g0) hb2
  clear hown3 hf3 hfr2 hh2 hp2
  obtain ⟨a3, c3, rfl, -⟩ := own_rd hown3'
  go_wp2_with (with_reducible refine wl_stop (o := ⟨some 7, _, _, _, _, _⟩) ?_)
  refine wl_buildL rfl rfl _ (built_log a3 32 c3) ?_
  refine wl_box rfl rfl rfl [.slice a3 32 c3] rfl ?_
  intro w4 hh4 hf4 hz4
  clear hz4
  go_wp2_with fail
  go_ret
  rw [HG.out]
  exact ⟨_, rfl, Nat.le_trans hb2 hf3s, ⟨_, hh4, hown3'.still hf4⟩, hfr3.then hf4⟩

theorem LogAt.store {w : World} {base g : Nat} {v0 v : Value} {l : List UInt8} (h0 : Has w g [v0] 100) (h : Own w base 5 1 v 32 (bs l)) : LogAt (w.setCell ⟨g, 0, none⟩ v) base g l := by
  refine ⟨v, by simpa using h0.set 0 v, h.keep ((Fr.refl (One g) w).setCell g 0 none v (fun _ => rfl)) (fun k hk (e : k = g) => h.ne h0 (by decide) (e ▸ hk))⟩
theorem RLogAt.store {w : World} {g : Nat} {v0 : Value} {l : List UInt8} (h0 : Has w g [v0] 53) : RLogAt (w.setCell ⟨g, 0, none⟩ (.string (mkS l))) g l := by
  simpa [RLogAt] using h0.set 0 (.string (mkS l))
theorem one_store {w w' : World} (h : Fr Nob w w') (g : Nat) (v : Value) : Fr (One g) w (w'.setCell ⟨g, 0, none⟩ v) := (h.mono (fun _ _ t => t.elim)).setCell g 0 none v (fun _ => rfl)

set_option maxHeartbeats 400000 in
set_option maxRecDepth 1000000 in
theorem say_any (base g : Nat) (st : List UInt8) (s : ByteArray) (b : Option Addr) (n c : Nat) (l : List UInt8) (w : World) (hs : s.size ≤ 1000000) (hl : LogAt w base g st) (hb : PartIs w (.slice b n c) l) (hbase : base ≤ w.heap.size) :
    Calls Try.prog 24 #[.pointer (some ⟨g, 0, none⟩), .string s, .slice b n c] w fun r w' => r = .returned (.tuple #[]) ∧ LogAt w' base g (tagL kSay [st, s.data.toList, l]) ∧ Fr (One g) w w' := by
  obtain ⟨v, hg, hown⟩ := hl
  obtain ⟨a0, c0, rfl, -⟩ := own_rd hown
  have hc := hg.cell (i := 0) rfl
  go_enter Try.func24, Try.ntmps24
  go_wp2_with (with_reducible refine wl_stop (o := ⟨some 12, _, _, _, _, _⟩) ?_)
  refine wl_bytes rfl rfl Try.underlying9 Try.underlying22 Try.underlying5 rfl (by unfold maxLen; omega) w.heap.size (Nat.le_refl _) ?_
  intro cap w1 hown1 hf1 hz1
  clear hz1
  go_wp2_with (with_reducible refine wl_stop (o := ⟨some 14, _, _, _, _, _⟩) ?_)
  refine wl_slit rfl rfl Try.underlying31 info_sl [.slice a0 32 c0, .slice (some ⟨w.heap.size, 0, none⟩) s.size cap, .slice b n c] rfl (by simp; exact ⟨rfl, rfl, rfl⟩) rfl rfl ?_
  intro w2 hh2 hf2 hz2
  clear hz2
  have hfr2 := hf1.then hf2
  have hp2 : Parts w2 [.slice a0 32 c0, .slice (some ⟨w.heap.size, 0, none⟩) s.size cap, .slice b n c] [st, s.data.toList, l] := ⟨own_part (hown.still hfr2) (by decide), own_part (hown1.still hf2) hs, hb.still hfr2, trivial⟩
  clear hown1 hf1 hf2
  have hb2 : base ≤ w2.heap.size := Nat.le_trans hbase hfr2.size
  generalize w.heap.size = g0 at *
  generalize w1.heap.size = g1 at *
  rw [kSay_eq]
  go_wp2_with fail
  refine (tag_of kSay (by decide) _ _ _ _ w2 hh2 hp2 (by simp)).mono ?_
  rintro e w3 ⟨v3, rfl, hown3, hf3⟩
  have hfr3 := hfr2.then hf3
  have hg3 := hg.keep hfr3 id
  have hown3' := hown3.mono (base' := base) hb2
  obtain ⟨a3, c3, rfl, -⟩ := own_rd hown3'
  clear hown3 hf3 hfr2 hh2 hp2 hown hc hg
  have hc3 := hg3.cell (i := 0) rfl
  have hz3 := hg3.free 0 (by simp)
  go_wp2_with fail
  go_end0
  exact ⟨rfl, LogAt.store hg3 hown3', one_store hfr3 g _⟩

theorem ask_err (g : Nat) (s : ByteArray) (m : Int) (w : World) (hm : m < 0 ∨ 1024 < m) :
    Calls Try.prog 26 #[.pointer (some ⟨g, 0, none⟩), .string s, .int .i64 m] w fun r w' => r = .returned (.tuple #[.slice none 0 0, .int .i64 1]) ∧ w = w' := by
  rcases hm with h | h
  · go_enter Try.func26, Try.ntmps26
    go_wp2_with fail
    go_ret2
    exact ⟨rfl, rfl⟩
  · have h0 : ¬ m < 0 := by omega
    go_enter Try.func26, Try.ntmps26
    go_wp2_with fail
    go_ret2
    exact ⟨rfl, rfl⟩

set_option maxHeartbeats 400000 in
set_option maxRecDepth 1000000 in
theorem ask_any (base g : Nat) (st : List UInt8) (s : ByteArray) (m : Nat) (w : World) (hs : s.size ≤ 1000000) (hm : m ≤ 1024) (hl : LogAt w base g st) (hbase : base ≤ w.heap.size) :
    Calls Try.prog 26 #[.pointer (some ⟨g, 0, none⟩), .string s, .int .i64 (m : Int)] w fun r w' => ∃ v, r = .returned (.tuple #[v, .int .i64 0]) ∧ Own w' base 5 1 v m (bs (spongeB (tagL kAsk [st, s.data.toList]) 31 m)) ∧ LogAt w' base g (tagL kAsked [st, s.data.toList]) ∧ Fr (One g) w w' := by
  obtain ⟨v, hg, hown⟩ := hl
  obtain ⟨a0, c0, rfl, -⟩ := own_rd hown
  have hc := hg.cell (i := 0) rfl
  go_enter Try.func26, Try.ntmps26
  go_wp2_with (with_reducible refine wl_stop (o := ⟨some 20, _, _, _, _, _⟩) ?_)
  refine wl_bytes rfl rfl Try.underlying9 Try.underlying22 Try.underlying5 rfl (by unfold maxLen; omega) w.heap.size (Nat.le_refl _) ?_
  intro cap w1 hown1 hf1 hz1
  clear hz1
  go_wp2_with (with_reducible refine wl_stop (o := ⟨some 21, _, _, _, _, _⟩) ?_)
  refine wl_slit rfl rfl Try.underlying31 info_sl [.slice a0 32 c0, .slice (some ⟨w.heap.size, 0, none⟩) s.size cap] rfl (by simp; exact ⟨rfl, rfl⟩) rfl rfl ?_
  intro w2 hh2 hf2 hz2
  clear hz2
  have hfr2 := hf1.then hf2
  have hp2 : Parts w2 [.slice a0 32 c0, .slice (some ⟨w.heap.size, 0, none⟩) s.size cap] [st, s.data.toList] := ⟨own_part (hown.still hfr2) (by decide), own_part (hown1.still hf2) hs, trivial⟩
  clear hown1 hf1 hf2
  have hb2 : base ≤ w2.heap.size := Nat.le_trans hbase hfr2.size
  generalize w.heap.size = g0 at *
  generalize w1.heap.size = g1 at *
  rw [kAsk_eq]
  go_wp2_with fail
  refine (tag_of kAsk (by decide) _ _ _ _ w2 hh2 hp2 (by simp)).mono ?_
  rintro e w3 ⟨v3, rfl, hown3, hf3⟩
  have hfr3 := hfr2.then hf3
  have hb3 : base ≤ w3.heap.size := Nat.le_trans hb2 hf3.size
  have hg3 := hg.keep hfr3 id
  have hown3' := hown.still hfr3
  have hq3 := own_part hown3 (by decide)
  obtain ⟨a3, n3, c3, rfl, hn3, hm3, hr3, ho3⟩ := hq3
  have e3 : n3 = 32 := by
    obtain ⟨_, _, hv, -⟩ := own_rd hown3
    cases hv; rfl
  subst e3
  clear hown3 hf3 hfr2 hh2 hp2 hown hc hg hm3
  have hc3 := hg3.cell (i := 0) rfl
  go_wp2_with fail
  refine (stream_any a3 32 c3 _ m w3 (by omega) (by decide) hn3 hr3 ho3).mono ?_
  rintro e w4 ⟨v4, rfl, hown4, hf4⟩
  have hout := hown4.mono (base' := base) hb3
  have hfr4 := hfr3.then hf4
  have hg4 := hg3.keep hf4 id
  have hown4' := hown3'.still hf4
  have hb4 : base ≤ w4.heap.size := Nat.le_trans hb3 hf4.size
  have hc4 := hg4.cell (i := 0) rfl
  clear hown4 hf4 hfr3 hg3 hown3' hr3 ho3 hn3 hc3
  go_wp2_with (with_reducible refine wl_stop (o := ⟨some 31, _, _, _, _, _⟩) ?_)
  refine wl_bytes rfl rfl Try.underlying9 Try.underlying22 Try.underlying5 rfl (by unfold maxLen; omega) w4.heap.size (Nat.le_refl _) ?_
  intro cap5 w5 hown5 hf5 hz5
  clear hz5
  go_wp2_with (with_reducible refine wl_stop (o := ⟨some 32, _, _, _, _, _⟩) ?_)
  refine wl_slit rfl rfl Try.underlying31 info_sl [.slice a0 32 c0, .slice (some ⟨w4.heap.size, 0, none⟩) s.size cap5] rfl (by simp; exact ⟨rfl, rfl⟩) rfl rfl ?_
  intro w6 hh6 hf6 hz6
  clear hz6
  have hf56 := hf5.then hf6
  have hfr6 := hfr4.then hf56
  have hp6 : Parts w6 [.slice a0 32 c0, .slice (some ⟨w4.heap.size, 0, none⟩) s.size cap5] [st, s.data.toList] := ⟨own_part (hown4'.still hf56) (by decide), own_part (hown5.still hf6) hs, trivial⟩
  have hb6 : base ≤ w6.heap.size := Nat.le_trans hb4 hf56.size
  have hg6 := hg4.keep hf56 id
  have hout6 := hout.still hf56
  clear hown5 hf5 hf6 hf56 hfr4 hg4 hown4' hout hc4
  generalize w4.heap.size = g4 at *
  generalize w5.heap.size = g5 at *
  rw [kAsked_eq]
  go_wp2_with fail
  refine (tag_of kAsked (by decide) _ _ _ _ w6 hh6 hp6 (by simp)).mono ?_
  rintro e w7 ⟨v7, rfl, hown7, hf7⟩
  have hfr7 := hfr6.then hf7
  have hg7 := hg6.keep hf7 id
  have hout7 := hout6.still hf7
  have hown7' := hown7.mono (base' := base) hb6
  obtain ⟨a7, c7, rfl, -⟩ := own_rd hown7'
  obtain ⟨a8, c8, rfl, -⟩ := own_rd hout7
  have hc7 := hg7.cell (i := 0) rfl
  have hz7 := hg7.free 0 (by simp)
  clear hown7 hf7 hfr6 hg6 hout6 hh6 hp6
  go_wp2_with fail
  go_ret2
  exact ⟨_, rfl, hout7.keep ((Fr.refl (One g) w7).setCell g 0 none _ (fun _ => rfl)) (fun k hk (e : k = g) => hout7.ne hg7 (by decide) (e ▸ hk)), LogAt.store hg7 hown7', one_store hfr7 g _⟩

set_option maxRecDepth 1000000 in
theorem clone_any (base g : Nat) (st : List UInt8) (w : World) (hl : LogAt w base g st) :
    Calls Try.prog 28 #[.pointer (some ⟨g, 0, none⟩)] w fun r w' => r = .returned (.pointer (some ⟨w.heap.size, 0, none⟩)) ∧ LogAt w' base w.heap.size st ∧ Fr Nob w w' := by
  obtain ⟨v, hg, hown⟩ := hl
  obtain ⟨a0, c0, rfl, -⟩ := own_rd hown
  have hc := hg.cell (i := 0) rfl
  go_enter Try.func28, Try.ntmps28
  go_wp2_with (with_reducible refine wl_stop (o := ⟨some 7, _, _, _, _, _⟩) ?_)
  refine wl_buildL rfl rfl _ (built_log a0 32 c0) ?_
  refine wl_box rfl rfl rfl [.slice a0 32 c0] rfl ?_
  intro w4 hh4 hf4 hz4
  clear hz4
  go_wp2_with fail
  go_ret
  exact ⟨rfl, ⟨_, hh4, hown.still hf4⟩, hf4⟩

/-! The reference's -/
set_option maxHeartbeats 400000 in
set_option maxRecDepth 1000000 in
theorem newR_any (s : ByteArray) (w : World) (hs : s.size ≤ 50000) :
    Calls Try.prog 23 #[.string s] w fun r w' => ∃ g, r = .returned (.pointer (some ⟨g, 0, none⟩)) ∧ w.heap.size ≤ g ∧ RLogAt w' g (tagL kLog [s.data.toList]) ∧ Fr Nob w w' := by
  obtain ⟨l, rfl⟩ : ∃ l, s = mkS l := ⟨s.data.toList, (mkS_data s).symm⟩
  rw [mkS_size] at hs
  rw [mkS_toList]
  go_enter Try.func23, Try.ntmps23
  go_wp2_with (with_reducible refine wl_stop (o := ⟨some 4, _, _, _, _, _⟩) ?_)
  refine wl_slit rfl rfl Try.underlying30 info_str (ss [l]) rfl (by simp [ss]; rfl) rfl rfl ?_
  intro w2 hh2 hf2 hz2
  clear hz2
  generalize w.heap.size = g0 at *
  rw [kLog_eq]
  go_wp2_with fail
  refine (tagR_of kLog _ _ _ w2 hh2 (by simp [sumL, kLog]; omega) (by simp)).mono ?_
  rintro e w3 ⟨rfl, hf3⟩
  have hfr3 := hf2.then hf3
  clear hf2 hf3 hh2
  go_wp2_with (with_reducible refine wl_stop (o := ⟨some 6, _, _, _, _, _⟩) ?_)
  refine wl_buildL rfl rfl _ (built_rlog _) ?_
  refine wl_box rfl rfl rfl [.string (mkS (tagL kLog [l]))] rfl ?_
  intro w4 hh4 hf4 hz4
  clear hz4
  go_wp2_with fail
  go_ret
  exact ⟨_, rfl, hfr3.size, hh4, hfr3.then hf4⟩

set_option maxHeartbeats 400000 in
set_option maxRecDepth 1000000 in
theorem sayR_any (g : Nat) (st : List UInt8) (s t : ByteArray) (w : World) (hst : st.length = 32) (hs : s.size ≤ 40000) (ht : t.size ≤ 40000) (hl : RLogAt w g st) :
    Calls Try.prog 25 #[.pointer (some ⟨g, 0, none⟩), .string s, .string t] w fun r w' => r = .returned (.tuple #[]) ∧ RLogAt w' g (tagL kSay [st, s.data.toList, t.data.toList]) ∧ Fr (One g) w w' := by
  obtain ⟨l, rfl⟩ : ∃ l, s = mkS l := ⟨s.data.toList, (mkS_data s).symm⟩
  obtain ⟨k, rfl⟩ : ∃ l, t = mkS l := ⟨t.data.toList, (mkS_data t).symm⟩
  rw [mkS_size] at hs ht
  rw [mkS_toList, mkS_toList]
  have hc := Has.cell hl (i := 0) rfl
  go_enter Try.func25, Try.ntmps25
  go_wp2_with (with_reducible refine wl_stop (o := ⟨some 13, _, _, _, _, _⟩) ?_)
  refine wl_slit rfl rfl Try.underlying30 info_str (ss [st, l, k]) rfl (by simp [ss]; exact ⟨rfl, rfl, rfl⟩) rfl rfl ?_
  intro w2 hh2 hf2 hz2
  clear hz2
  generalize w.heap.size = g0 at *
  rw [kSay_eq]
  go_wp2_with fail
  refine (tagR_of kSay _ _ _ w2 hh2 (by simp [sumL, kSay]; omega) (by simp)).mono ?_
  rintro e w3 ⟨rfl, hf3⟩
  have hfr3 := hf2.then hf3
  have hg3 : Has w3 g _ _ := Has.keep hl hfr3 id
  have hc3 := hg3.cell (i := 0) rfl
  have hz3 := hg3.free 0 (by simp)
  clear hf2 hf3 hh2 hc
  go_wp2_with fail
  go_end0
  exact ⟨rfl, RLogAt.store hg3, one_store hfr3 g _⟩

set_option maxHeartbeats 400000 in
set_option maxRecDepth 1000000 in
theorem askR_any (g : Nat) (st : List UInt8) (s : ByteArray) (m : Nat) (w : World) (hst : st.length = 32) (hs : s.size ≤ 40000) (hm : m ≤ 1024) (hl : RLogAt w g st) :
    Calls Try.prog 27 #[.pointer (some ⟨g, 0, none⟩), .string s, .int .i64 (m : Int)] w fun r w' => r = .returned (.string (mkS (spongeB (tagL kAsk [st, s.data.toList]) 31 m))) ∧ RLogAt w' g (tagL kAsked [st, s.data.toList]) ∧ Fr (One g) w w' := by
  obtain ⟨l, rfl⟩ : ∃ l, s = mkS l := ⟨s.data.toList, (mkS_data s).symm⟩
  rw [mkS_size] at hs
  rw [mkS_toList]
  have hc := Has.cell hl (i := 0) rfl
  go_enter Try.func27, Try.ntmps27
  go_wp2_with (with_reducible refine wl_stop (o := ⟨some 13, _, _, _, _, _⟩) ?_)
  refine wl_slit rfl rfl Try.underlying30 info_str (ss [st, l]) rfl (by simp [ss]; exact ⟨rfl, rfl⟩) rfl rfl ?_
  intro w2 hh2 hf2 hz2
  clear hz2
  generalize w.heap.size = g0 at *
  rw [kAsk_eq]
  go_wp2_with fail
  refine (tagR_of kAsk _ _ _ w2 hh2 (by simp [sumL, kAsk]; omega) (by simp)).mono ?_
  rintro e w3 ⟨rfl, hf3⟩
  have hfr3 := hf2.then hf3
  have hg3 : Has w3 g _ _ := Has.keep hl hfr3 id
  clear hf2 hf3 hh2 hc
  have hl2 := tagL_len kAsk [st, l]
  generalize htl : tagL kAsk [st, l] = tl at *
  have HTL := Lib.hid htl; clear htl
  have HL2 := Lib.hid hl2; clear hl2
  go_wp2_with fail
  refine (streamR_any (mkS tl) m w3 (by rw [mkS_size, HL2.out]; omega) (by omega)).mono ?_
  rintro e w4 ⟨rfl, hf4⟩
  rw [mkS_toList]
  have hfr4 := hfr3.then hf4
  have hg4 : Has w4 g _ _ := hg3.keep hf4 id
  have hc4 := hg4.cell (i := 0) rfl
  clear hfr3 hf4 hg3
  go_wp2_with (with_reducible refine wl_stop (o := ⟨some 23, _, _, _, _, _⟩) ?_)
  refine wl_slit rfl rfl Try.underlying30 info_str (ss [st, l]) rfl (by simp [ss]; exact ⟨rfl, rfl⟩) rfl rfl ?_
  intro w5 hh5 hf5 hz5
  clear hz5
  generalize w4.heap.size = g4 at *
  rw [kAsked_eq]
  go_wp2_with fail
  refine (tagR_of kAsked _ _ _ w5 hh5 (by simp [sumL, kAsked]; omega) (by simp)).mono ?_
  rintro e w6 ⟨rfl, hf6⟩
  have hf56 := hf5.then hf6
  have hfr6 := hfr4.then hf56
  have hg6 : Has w6 g _ _ := hg4.keep hf56 id
  have hc6 := hg6.cell (i := 0) rfl
  have hz6 := hg6.free 0 (by simp)
  clear hf5 hf6 hf56 hh5 hc4 hfr4 hg4
  go_wp2_with fail
  go_ret
  rw [HTL.out]
  exact ⟨rfl, RLogAt.store hg6, one_store hfr6 g _⟩
end Go.Proofs.Ytgkakddldobpkaa
