/- ; ; ; ; ; ; ; ; ; ; ; ; ; ; ; ; ; ; ; ; ; ; ; ; . -/
import Derived.Test.YtemcankmggmgoaaGreatMgSigmaCompleteProof1
import Derived.Shelf.Spec.BitsCarry
import Derived.Shelf.Bits.Mul64
import Derived.Test.YtemcankmggmgoaaGreatProg
import Derived.KernelRfl
import Derived.RegionTactic
import Derived.Deep.QuietTactic
import Derived.BigQuiet
import Derived.OrdersHeld
import Derived.StillTail
import Derived.Deep.MidRow
import Derived.Deep.RegionHeld3
import Derived.StillTailTactics
set_option maxHeartbeats 16000000
set_option maxRecDepth 1000000

namespace Go.Proofs.YtemcankmggmgoaaGreat
open Go.RowKit Go.Mv Mvp
attribute [local irreducible] b0k b0u toB a0z a0E b0s a0H c0n b0l a0F c0z
theorem i0O : (Tryz.prog.info? 22).map (fun i => (i.zero, i.size, i.bytes)) = some (some (.slice none 0 0), 1, 24) := by kernel_rfl
def Parts (w : World) : List Value → List (List UInt8) → Prop
 | [], [] => True
 | v :: vs, l :: ls => PartIs w v l ∧ Parts w vs ls
 | _, _ => False
theorem Parts.len {w : World} : ∀ {vs : List Value} {ls : List (List UInt8)}, Parts w vs ls → vs.length = ls.length
 | [], [], _ => rfl
 | _ :: _, _ :: _, h => by simp only [List.length_cons]; rw [Parts.len h.2]
 | [], _ :: _, h => h.elim
 | _ :: _, [], h => h.elim
theorem Parts.get {w : World} : ∀ {vs : List Value} {ls : List (List UInt8)}, Parts w vs ls → ∀ (i : Nat) (v : Value), vs[i]? = some v → ∃ l : List UInt8, ls[i]? = some l ∧ PartIs w v l
 | [], [], _, i, v, h => by simp at h
 | x :: vs, l :: ls, h, 0, v, hv => by simp only [List.getElem?_cons_zero, Option.some.injEq] at hv; subst hv; exact ⟨l, rfl, h.1⟩
 | x :: vs, l :: ls, h, i + 1, v, hv => by simp only [List.getElem?_cons_succ] at hv ⊢; exact Parts.get h.2 i v hv
 | [], _ :: _, h, _, _, _ => h.elim
 | _ :: _, [], h, _, _, _ => h.elim
theorem Parts.at {w : World} {g : Nat} {T : TypeId} {vs : List Value} {ls : List (List UInt8)} (h : Parts w vs ls) (hg : Has w g vs T) : PartsAt w (some ⟨g, 0, none⟩) ls :=
 ⟨vs, by have := Rd.whole hg; rwa [h.len] at this, h.get⟩
theorem Parts.cells {w : World} : ∀ {vs : List Value} {ls : List (List UInt8)}, Parts w vs ls → ∀ v ∈ vs, v.cells = #[v]
 | [], _, _, v, h => by simp at h
 | x :: vs, l :: ls, h, v, hv => by
  rcases List.mem_cons.1 hv with rfl | hv
  ·obtain ⟨a, n, c, rfl, _⟩ := h.1; rfl
  ·exact Parts.cells h.2 v hv
 | _ :: _, [], h, _, _ => h.elim
theorem b0Z {w : World} {base n : Nat} {T : TypeId} {v : Value} {l : List UInt8} (h : Own w base T 1 v n (bs l)) (hn : n ≤ 1000000) : PartIs w v l := by
 have h0 := h
 obtain ⟨a, c, rfl, hc, hr, -⟩ := h.form
 rw [Nat.mul_one] at hr
 refine ⟨a, n, c, rfl, hc, hn, hr, ?_⟩
 intro x hx
 exact (h0.lt (by rw [hx]; rfl)).2
def LogAt (w : World) (base g : Nat) (l : List UInt8) : Prop := ∃ v, Has w g [v] 228 ∧ Own w base 5 1 v 32 (bs l)
theorem LogAt.still {w w' : World} {base g : Nat} {l : List UInt8} (h : LogAt w base g l) (hf : Fr Nob w w') : LogAt w' base g l := by
 obtain ⟨v, h1, h2⟩ := h; exact ⟨v, h1.keep hf id, h2.still hf⟩
theorem LogAt.other {w w' : World} {base g g' : Nat} {l : List UInt8} (h : LogAt w base g l) (hf : Fr (One g') w w') (hne : g ≠ g') {L : List Value} {T : TypeId} (hg : Has w g' L T) (hT : 5 ≠ T) : LogAt w' base g l := by
 obtain ⟨v, h1, h2⟩ := h
 exact ⟨v, h1.keep hf hne, h2.keep hf (fun k hk (e : k = g') => h2.ne hg hT (e ▸ hk))⟩
theorem LogAt.lt {w : World} {base g : Nat} {l : List UInt8} (h : LogAt w base g l) : g < w.heap.size := by obtain ⟨v, h1, _⟩ := h; exact h1.lt
def RLogAt (w : World) (g : Nat) (l : List UInt8) : Prop := Has w g [.string (mkS l)] 197
theorem p0c (a : Option Addr) (n c : Nat) : Tryz.prog.built 228 [(0, .slice a n c)] = some #[.slice a n c] := by kernel_rfl
def y0i : List UInt8 := [108, 111, 103]
def w0z : List UInt8 := [115, 97, 121]
def y0j : List UInt8 := [97, 115, 107]
def j0Z : List UInt8 := [97, 115, 107, 101, 100]
theorem u0D : (⟨#[108, 111, 103]⟩ : ByteArray) = mkS y0i := rfl
theorem u0E : (⟨#[115, 97, 121]⟩ : ByteArray) = mkS w0z := rfl
theorem u0F : (⟨#[97, 115, 107]⟩ : ByteArray) = mkS y0j := rfl
theorem p0d : (⟨#[97, 115, 107, 101, 100]⟩ : ByteArray) = mkS j0Z := rfl
theorem m0A (k : List UInt8) (hk : k.length ≤ 100) (g c : Nat) (vs : List Value) (ls : List (List UInt8)) (w : World) (hh : Has w g vs 22) (hp : Parts w vs ls) (hm : ls.length ≤ 1000000) :
  Calls Tryz.prog 169 #[.string (mkS k), .slice (some ⟨g, 0, none⟩) ls.length c] w fun r w' => ∃ v, r = .returned v ∧ Own w' w.heap.size 5 1 v 32 (bs (c0z k ls)) ∧ Fr Nob w w' := by
 have := p0a (mkS k) (some ⟨g, 0, none⟩) c ls w (by rw [m0s]; omega) hm (hp.at hh)
 rwa [f0S] at this
theorem n0M (s : ByteArray) (w : World) (hs : s.size ≤ 1000000) :
  Calls Tryz.prog 153 #[.string s] w fun r w' => ∃ g, r = .returned (.pointer (some ⟨g, 0, none⟩)) ∧ w.heap.size ≤ g ∧ LogAt w' w.heap.size g (c0z y0i [s.data.toList]) ∧ Fr Nob w w' := by
 go_enter Tryz.func153, Tryz.ntmps153
 go_wp2_with (with_reducible refine wSk 4 ?_)
 refine e0d rfl rfl Tryz.underlying9 Tryz.underlying22 Tryz.underlying5 rfl (by unfold maxLen; omega) w.heap.size (Nat.le_refl _) ?_
 intro cap w1 hown1 hf1 hz1
 clear hz1
 go_wp2_with (with_reducible refine wSk 5 ?_)
 refine b0o rfl rfl Tryz.underlying39 i0O [.slice (some ⟨w.heap.size, 0, none⟩) s.size cap] rfl (by simp; rfl) rfl rfl ?_
 intro w2 hh2 hf2 hz2
 clear hz2
 have hfr2 := hf1.then hf2
 have hp2 : Parts w2 [.slice (some ⟨w.heap.size, 0, none⟩) s.size cap] [s.data.toList] := ⟨b0Z (hown1.still hf2) hs, trivial⟩
 clear hown1 hf1 hf2
 have hb2 : w.heap.size ≤ w2.heap.size := hfr2.size
 generalize hgw : w.heap.size = g0 at *
 have HG := qH hgw; clear hgw
 generalize w1.heap.size = g1 at *
 rw [u0D]
 go_wp2_with fail
 refine (m0A y0i ap12 _ _ _ _ w2 hh2 hp2 ap14).mono ?_
 rintro e w3 ⟨v3, rfl, hown3, hf3⟩
 have hfr3 := hfr2.then hf3
 have hf3s := hf3.size
 have hown3' := hown3.mono (base' := g0) hb2
 clear hown3 hf3 hfr2 hh2 hp2
 obtain ⟨a3, c3, rfl, -⟩ := f0s hown3'
 go_wp2_with (with_reducible refine wSk 7 ?_)
 refine b0c rfl rfl _ (p0c a3 32 c3) ?_
 refine j0V rfl rfl rfl [.slice a3 32 c3] rfl ?_
 intro w4 hh4 hf4 hz4
 clear hz4
 go_wp2_with fail
 go_ret
 rw [HG.out]
 exact ⟨_, rfl, Nat.le_trans hb2 hf3s, ⟨_, hh4, hown3'.still hf4⟩, hfr3.then hf4⟩
theorem LogAt.store {w : World} {base g : Nat} {v0 v : Value} {l : List UInt8} (h0 : Has w g [v0] 228) (h : Own w base 5 1 v 32 (bs l)) : LogAt (w.setCell ⟨g, 0, none⟩ v) base g l := by
 refine ⟨v, by simpa using h0.set 0 v, h.keep ((Fr.refl (One g) w).setCell g 0 none v (fun _ => rfl)) (fun k hk (e : k = g) => h.ne h0 ap12 (e ▸ hk))⟩
theorem RLogAt.store {w : World} {g : Nat} {v0 : Value} {l : List UInt8} (h0 : Has w g [v0] 197) : RLogAt (w.setCell ⟨g, 0, none⟩ (.string (mkS l))) g l := by
 simpa [RLogAt] using h0.set 0 (.string (mkS l))
theorem k0a {w w' : World} (h : Fr Nob w w') (g : Nat) (v : Value) : Fr (One g) w (w'.setCell ⟨g, 0, none⟩ v) := (h.mono (fun _ _ t => t.elim)).setCell g 0 none v (fun _ => rfl)
theorem u0G (base g : Nat) (st : List UInt8) (s : ByteArray) (b : Option Addr) (n c : Nat) (l : List UInt8) (w : World) (hs : s.size ≤ 1000000) (hl : LogAt w base g st) (hb : PartIs w (.slice b n c) l) (hbase : base ≤ w.heap.size) :
  Calls Tryz.prog 154 #[.pointer (some ⟨g, 0, none⟩), .string s, .slice b n c] w fun r w' => r = .returned (.tuple #[]) ∧ LogAt w' base g (c0z w0z [st, s.data.toList, l]) ∧ Fr (One g) w w' := by
 obtain ⟨v, hg, hown⟩ := hl
 obtain ⟨a0, c0, rfl, -⟩ := f0s hown
 have hc := hg.cell (i := 0) rfl
 go_enter Tryz.func154, Tryz.ntmps154
 go_wp2_with (with_reducible refine wSk 12 ?_)
 refine e0d rfl rfl Tryz.underlying9 Tryz.underlying22 Tryz.underlying5 rfl (by unfold maxLen; omega) w.heap.size (Nat.le_refl _) ?_
 intro cap w1 hown1 hf1 hz1
 clear hz1
 go_wp2_with (with_reducible refine wSk 14 ?_)
 refine b0o rfl rfl Tryz.underlying39 i0O [.slice a0 32 c0, .slice (some ⟨w.heap.size, 0, none⟩) s.size cap, .slice b n c] rfl (by simp; exact ⟨rfl, rfl, rfl⟩) rfl rfl ?_
 intro w2 hh2 hf2 hz2
 clear hz2
 have hfr2 := hf1.then hf2
 have hp2 : Parts w2 [.slice a0 32 c0, .slice (some ⟨w.heap.size, 0, none⟩) s.size cap, .slice b n c] [st, s.data.toList, l] := ⟨b0Z (hown.still hfr2) ap12, b0Z (hown1.still hf2) hs, hb.still hfr2, trivial⟩
 clear hown1 hf1 hf2
 have hb2 : base ≤ w2.heap.size := Nat.le_trans hbase hfr2.size
 generalize w.heap.size = g0 at *
 generalize w1.heap.size = g1 at *
 rw [u0E]
 go_wp2_with fail
 refine (m0A w0z ap12 _ _ _ _ w2 hh2 hp2 ap14).mono ?_
 rintro e w3 ⟨v3, rfl, hown3, hf3⟩
 have hfr3 := hfr2.then hf3
 have hg3 := hg.keep hfr3 id
 have hown3' := hown3.mono (base' := base) hb2
 obtain ⟨a3, c3, rfl, -⟩ := f0s hown3'
 clear hown3 hf3 hfr2 hh2 hp2 hown hc hg
 have hc3 := hg3.cell (i := 0) rfl
 have hz3 := hg3.free 0 ap14
 go_wp2_with fail
 go_end0
 exact ⟨rfl, LogAt.store hg3 hown3', k0a hfr3 g _⟩
theorem u0H (base g : Nat) (st : List UInt8) (s : ByteArray) (m : Nat) (w : World) (hs : s.size ≤ 1000000) (hm : m ≤ 1024) (hl : LogAt w base g st) (hbase : base ≤ w.heap.size) :
  Calls Tryz.prog 155 #[.pointer (some ⟨g, 0, none⟩), .string s, .int .i64 (m : Int)] w fun r w' => ∃ v, r = .returned (.tuple #[v, .int .i64 0]) ∧ Own w' base 5 1 v m (bs (a0H (c0z y0j [st, s.data.toList]) 31 m)) ∧ LogAt w' base g (c0z j0Z [st, s.data.toList]) ∧ Fr (One g) w w' := by
 obtain ⟨v, hg, hown⟩ := hl
 obtain ⟨a0, c0, rfl, -⟩ := f0s hown
 have hc := hg.cell (i := 0) rfl
 go_enter Tryz.func155, Tryz.ntmps155
 go_wp2_with (with_reducible refine wSk 20 ?_)
 refine e0d rfl rfl Tryz.underlying9 Tryz.underlying22 Tryz.underlying5 rfl (by unfold maxLen; omega) w.heap.size (Nat.le_refl _) ?_
 intro cap w1 hown1 hf1 hz1
 clear hz1
 go_wp2_with (with_reducible refine wSk 21 ?_)
 refine b0o rfl rfl Tryz.underlying39 i0O [.slice a0 32 c0, .slice (some ⟨w.heap.size, 0, none⟩) s.size cap] rfl (by simp; exact ⟨rfl, rfl⟩) rfl rfl ?_
 intro w2 hh2 hf2 hz2
 clear hz2
 have hfr2 := hf1.then hf2
 have hp2 : Parts w2 [.slice a0 32 c0, .slice (some ⟨w.heap.size, 0, none⟩) s.size cap] [st, s.data.toList] := ⟨b0Z (hown.still hfr2) ap12, b0Z (hown1.still hf2) hs, trivial⟩
 clear hown1 hf1 hf2
 have hb2 : base ≤ w2.heap.size := Nat.le_trans hbase hfr2.size
 generalize w.heap.size = g0 at *
 generalize w1.heap.size = g1 at *
 rw [u0F]
 go_wp2_with fail
 refine (m0A y0j ap12 _ _ _ _ w2 hh2 hp2 ap14).mono ?_
 rintro e w3 ⟨v3, rfl, hown3, hf3⟩
 have hfr3 := hfr2.then hf3
 have hb3 : base ≤ w3.heap.size := Nat.le_trans hb2 hf3.size
 have hg3 := hg.keep hfr3 id
 have hown3' := hown.still hfr3
 have hq3 := b0Z hown3 ap12
 obtain ⟨a3, n3, c3, rfl, hn3, hm3, hr3, ho3⟩ := hq3
 have e3 : n3 = 32 := by
  obtain ⟨_, _, hv, -⟩ := f0s hown3
  cases hv; rfl
 subst e3
 clear hown3 hf3 hfr2 hh2 hp2 hown hc hg hm3
 have hc3 := hg3.cell (i := 0) rfl
 go_wp2_with fail
 refine (i0d a3 32 c3 _ m w3 ap13 ap12 hn3 hr3 ho3).mono ?_
 rintro e w4 ⟨v4, rfl, hown4, hf4⟩
 have hout := hown4.mono (base' := base) hb3
 have hfr4 := hfr3.then hf4
 have hg4 := hg3.keep hf4 id
 have hown4' := hown3'.still hf4
 have hb4 : base ≤ w4.heap.size := Nat.le_trans hb3 hf4.size
 have hc4 := hg4.cell (i := 0) rfl
 clear hown4 hf4 hfr3 hg3 hown3' hr3 ho3 hn3 hc3
 go_wp2_with (with_reducible refine wSk 31 ?_)
 refine e0d rfl rfl Tryz.underlying9 Tryz.underlying22 Tryz.underlying5 rfl (by unfold maxLen; omega) w4.heap.size (Nat.le_refl _) ?_
 intro cap5 w5 hown5 hf5 hz5
 clear hz5
 go_wp2_with (with_reducible refine wSk 32 ?_)
 refine b0o rfl rfl Tryz.underlying39 i0O [.slice a0 32 c0, .slice (some ⟨w4.heap.size, 0, none⟩) s.size cap5] rfl (by simp; exact ⟨rfl, rfl⟩) rfl rfl ?_
 intro w6 hh6 hf6 hz6
 clear hz6
 have hf56 := hf5.then hf6
 have hfr6 := hfr4.then hf56
 have hp6 : Parts w6 [.slice a0 32 c0, .slice (some ⟨w4.heap.size, 0, none⟩) s.size cap5] [st, s.data.toList] := ⟨b0Z (hown4'.still hf56) ap12, b0Z (hown5.still hf6) hs, trivial⟩
 have hb6 : base ≤ w6.heap.size := Nat.le_trans hb4 hf56.size
 have hg6 := hg4.keep hf56 id
 have hout6 := hout.still hf56
 clear hown5 hf5 hf6 hf56 hfr4 hg4 hown4' hout hc4
 generalize w4.heap.size = g4 at *
 generalize w5.heap.size = g5 at *
 rw [p0d]
 go_wp2_with fail
 refine (m0A j0Z ap12 _ _ _ _ w6 hh6 hp6 ap14).mono ?_
 rintro e w7 ⟨v7, rfl, hown7, hf7⟩
 have hfr7 := hfr6.then hf7
 have hg7 := hg6.keep hf7 id
 have hout7 := hout6.still hf7
 have hown7' := hown7.mono (base' := base) hb6
 obtain ⟨a7, c7, rfl, -⟩ := f0s hown7'
 obtain ⟨a8, c8, rfl, -⟩ := f0s hout7
 have hc7 := hg7.cell (i := 0) rfl
 have hz7 := hg7.free 0 ap14
 clear hown7 hf7 hfr6 hg6 hout6 hh6 hp6
 go_wp2_with fail
 go_ret2
 exact ⟨_, rfl, hout7.keep ((Fr.refl (One g) w7).setCell g 0 none _ (fun _ => rfl)) (fun k hk (e : k = g) => hout7.ne hg7 ap12 (e ▸ hk)), LogAt.store hg7 hown7', k0a hfr7 g _⟩
end Go.Proofs.YtemcankmggmgoaaGreat
namespace Go.Mv
open Go.RowKit
variable {P : Program}
structure St (S : Nat → Prop) (w0 w : World) (bl : List (Nat × List Value × TypeId)) : Prop where
 fr : Fr S w0 w
 own : ∀ x ∈ bl, w0.heap.size ≤ x.1 ∨ S x.1
 has : ∀ x ∈ bl, Has w x.1 x.2.1 x.2.2
 ne : bl.Pairwise fun x y => x.1 ≠ y.1
theorem St.start (S : Nat → Prop) (w : World) : St S w w [] := ⟨Fr.refl _ _, by simp, by simp, List.Pairwise.nil⟩
theorem St.at {S : Nat → Prop} {w0 w : World} {bl : List (Nat × List Value × TypeId)} (h : St S w0 w bl) (i : Nat) {g : Nat} {L : List Value} {T : TypeId} (hi : bl[i]? = some (g, L, T)) : Has w g L T :=
 h.has _ (List.mem_of_getElem? hi)
theorem St.neAt {S : Nat → Prop} {w0 w : World} {bl : List (Nat × List Value × TypeId)} (h : St S w0 w bl) {i j : Nat} {x y : Nat × List Value × TypeId} (hi : bl[i]? = some x) (hj : bl[j]? = some y) (hij : i ≠ j) : x.1 ≠ y.1 := by
 obtain ⟨hi1, rfl⟩ := List.getElem?_eq_some_iff.1 hi
 obtain ⟨hj1, rfl⟩ := List.getElem?_eq_some_iff.1 hj
 rcases Nat.lt_or_ge i j with k | k
 ·exact List.pairwise_iff_getElem.1 h.ne i j hi1 hj1 k
 ·exact (List.pairwise_iff_getElem.1 h.ne j i hj1 hi1 ap13).symm
theorem St.keep {S : Nat → Prop} {w0 w w' : World} {bl : List (Nat × List Value × TypeId)} (h : St S w0 w bl) (hf : Fr Nob w w') : St S w0 w' bl :=
 ⟨h.fr.same hf, h.own, fun x hx => (h.has x hx).keep hf id, h.ne⟩
theorem St.drew {S : Nat → Prop} {w0 w : World} {bl : List (Nat × List Value × TypeId)} (h : St S w0 w bl) : St S w0 w.drew bl := ⟨h.fr.drew, h.own, h.has, h.ne⟩
theorem St.drewN {S : Nat → Prop} {w0 w : World} {bl : List (Nat × List Value × TypeId)} (h : St S w0 w bl) (n : Nat) : St S w0 (w.drewN n) bl := ⟨h.fr.drewN n, h.own, h.has, h.ne⟩
theorem St.less {S : Nat → Prop} {w0 w : World} {bl bl' : List (Nat × List Value × TypeId)} (h : St S w0 w bl) (hs : bl'.Sublist bl) : St S w0 w bl' :=
 ⟨h.fr, fun x hx => h.own x (hs.subset hx), fun x hx => h.has x (hs.subset hx), h.ne.sublist hs⟩
theorem St.new {S : Nat → Prop} {w0 w w' : World} {bl : List (Nat × List Value × TypeId)} (h : St S w0 w bl) (hf : Fr Nob w w') {g : Nat} {L : List Value} {T : TypeId} (hg : Has w' g L T) (hn : w.heap.size ≤ g) : St S w0 w' (bl ++ [(g, L, T)]) := by
 refine ⟨h.fr.same hf, ?_, ?_, ?_⟩
 ·intro x hx
  rcases List.mem_append.1 hx with hx | hx
  ·exact h.own x hx
  ·simp only [List.mem_singleton] at hx
   subst hx
   exact .inl (Nat.le_trans h.fr.size hn)
 ·intro x hx
  rcases List.mem_append.1 hx with hx | hx
  ·exact (h.has x hx).keep hf id
  ·simp only [List.mem_singleton] at hx
   subst hx
   exact hg
 ·rw [List.pairwise_append]
  refine ⟨h.ne, List.pairwise_singleton _ _, ?_⟩
  intro x hx y hy
  simp only [List.mem_singleton] at hy
  subst hy
  have := (h.has x hx).lt
  show x.1 ≠ g
  omega
theorem St.put {S : Nat → Prop} {w0 w w' : World} {bl : List (Nat × List Value × TypeId)} (h : St S w0 w bl) (i : Nat) {g : Nat} {L L' : List Value} {T : TypeId} (hi : bl[i]? = some (g, L, T)) (hf : Fr (One g) w w') (hg : Has w' g L' T) : St S w0 w' (bl.set i (g, L', T)) := by
 obtain ⟨hi1, hi2⟩ := List.getElem?_eq_some_iff.1 hi
 refine ⟨?_, ?_, ?_, ?_⟩
 ·refine h.fr.trans hf fun j hj hjg => ?_
  have hjg' : j = g := hjg
  subst hjg'
  rcases h.own _ (List.mem_of_getElem? hi) with k | k
  ·have k' : w0.heap.size ≤ j := k
   omega
  ·exact k
 ·intro x hx
  rcases List.mem_or_eq_of_mem_set hx with hx | rfl
  ·exact h.own x hx
  ·exact h.own (g, L, T) (List.mem_of_getElem? hi)
 ·intro x hx
  obtain ⟨j, hj1, hj2⟩ := List.mem_iff_getElem.1 hx
  rw [List.length_set] at hj1
  rw [List.getElem_set] at hj2
  by_cases e : i = j
  ·rw [if_pos e] at hj2; subst hj2; exact hg
  ·rw [if_neg e] at hj2
   subst hj2
   refine (h.has _ (List.getElem_mem hj1)).keep hf fun t => ?_
   exact h.neAt hi (List.getElem?_eq_getElem hj1) e (Eq.symm t)
 ·rw [List.pairwise_iff_getElem]
  intro j k hj hk hjk
  have e := List.pairwise_iff_getElem.1 h.ne j k (by simpa using hj) (by simpa using hk) hjk
  rw [List.getElem_set, List.getElem_set]
  split
  ·rename_i e1; subst e1
   rw [hi2] at e
   split
   ·omega
   ·exact e
  ·split
   ·rename_i e2; subst e2; rw [hi2] at e; exact e
   ·exact e
theorem St.set {S : Nat → Prop} {w0 w : World} {bl : List (Nat × List Value × TypeId)} (h : St S w0 w bl) (i : Nat) {g : Nat} {L : List Value} {T : TypeId} (hi : bl[i]? = some (g, L, T)) (k : Nat) (v : Value) : St S w0 (w.setCell ⟨g, k, none⟩ v) (bl.set i (g, L.set k v, T)) :=
 h.put i hi ((Fr.refl (One g) w).setCell g k none v (fun _ => rfl)) ((h.at i hi).set k v)
theorem St.take {S : Nat → Prop} {w0 w : World} {bl : List (Nat × List Value × TypeId)} (h : St S w0 w bl) {g : Nat} {L : List Value} {T : TypeId} (hg : Has w g L T) (hS : S g) (hn : ∀ x ∈ bl, x.1 ≠ g) : St S w0 w (bl ++ [(g, L, T)]) := by
 refine ⟨h.fr, ?_, ?_, ?_⟩
 ·intro x hx
  rcases List.mem_append.1 hx with hx | hx
  ·exact h.own x hx
  ·simp only [List.mem_singleton] at hx; subst hx; exact .inr hS
 ·intro x hx
  rcases List.mem_append.1 hx with hx | hx
  ·exact h.has x hx
  ·simp only [List.mem_singleton] at hx; subst hx; exact hg
 ·rw [List.pairwise_append]
  refine ⟨h.ne, List.pairwise_singleton _ _, ?_⟩
  intro x hx y hy
  simp only [List.mem_singleton] at hy
  subst hy
  exact hn x hx
theorem St.one {w : World} {g : Nat} {L : List Value} {T : TypeId} (hg : Has w g L T) : St (One g) w w [(g, L, T)] := (St.start (One g) w).take hg rfl ap14
section
variable {w w0 : World} {ops : Array Oper} {rest : List Oper} {o : Oper} {a : Act} {Q : Exit → Act → World → Prop} {S : Nat → Prop} {bl : List (Nat × List Value × TypeId)}
theorem a0q (hst : St S w0 w bl) {e : TypeId} {x : Operand} (hgd : o.guard = none) (ho : o.op = .box e x) {v : Value} (hx : a.eval x = v) (L : List Value) (hL : v.cells.toList = L)
  (h : ∀ g w', St S w0 w' (bl ++ [(g, L, e)]) → wpList P ops Q rest (a.put o.dst (.pointer (some ⟨g, 0, none⟩))) w') : wpList P ops Q (o :: rest) a w :=
 j0V hgd ho hx L hL fun w' hg hf _ => h _ w' (hst.new hf hg (Nat.le_refl _))
theorem a0a (hst : St S w0 w bl) {e : TypeId} (hgd : o.guard = none) (ho : o.op = .alloc e) {z : Value} (hi : (P.info? e).map (·.zero) = some (some z)) (L : List Value) (hL : z.cells.toList = L)
  (h : ∀ g w', St S w0 w' (bl ++ [(g, L, e)]) → wpList P ops Q rest (a.put o.dst (.pointer (some ⟨g, 0, none⟩))) w') : wpList P ops Q (o :: rest) a w :=
 e0e hgd ho hi L hL fun w' hg hf _ => h _ w' (hst.new hf hg (Nat.le_refl _))
theorem a0m (hst : St S w0 w bl) (i : Nat) {g : Nat} {L : List Value} {T : TypeId} (hb : bl[i]? = some (g, L, T)) {ty : TypeId} {x : Operand} (hgd : o.guard = none) (ho : o.op = .load ty x) {n : Nat} {e : TypeId} (hu : P.underlying ty = some (.array n e)) (hx : a.eval x = .pointer (some ⟨g, 0, none⟩))
  (hi : (P.info? ty).map (·.size) = some L.length) (h : wpList P ops Q rest (a.put o.dst (.agg L.toArray)) w) : wpList P ops Q (o :: rest) a w :=
 c0O hgd ho hu hx (hst.at i hb) L dZl hi h
theorem a0u (hst : St S w0 w bl) (i : Nat) {g : Nat} {L : List Value} {T : TypeId} (hb : bl[i]? = some (g, L, T)) {ty : TypeId} {x : Operand} (hgd : o.guard = none) (ho : o.op = .load ty x) {d : TypeDesc} (hu : P.underlying ty = some d) (hd : d.isRow = true) (hx : a.eval x = .pointer (some ⟨g, 0, none⟩))
  (hi : (P.info? ty).map (·.size) = some L.length) (h : wpList P ops Q rest (a.put o.dst (.agg L.toArray)) w) : wpList P ops Q (o :: rest) a w :=
 wpList_load_mid hgd ty x ho g 0 hx L _ ((hst.at i hb).range 0 L dZl) hu hd hi h
theorem a0b (hst : St S w0 w bl) (i : Nat) {g : Nat} {L : List Value} {T : TypeId} (hb : bl[i]? = some (g, L, T)) {ty : TypeId} {x y : Operand} (hgd : o.guard = none) (ho : o.op = .store ty x y) (hx : a.eval x = .pointer (some ⟨g, 0, none⟩)) {cs : List Value} (hy : a.eval y = .agg cs.toArray)
  (hn : cs.length = L.length) (hi : (P.info? ty).map (·.size) = some cs.length) (h1 : ∀ v ∈ cs, v.oneCell' = true)
  (h : ∀ w', St S w0 w' (bl.set i (g, cs, T)) → wpList P ops Q rest (a.put o.dst undef) w') : wpList P ops Q (o :: rest) a w :=
 c0Q hgd ho hx hy (hst.at i hb) ap13 hi h1 fun w' hg hf _ => h w' (hst.put i hb hf (by rwa [c0s _ _ hn] at hg))
end
end Go.Mv
namespace Mvp
abbrev B64 : Nat := 18446744073709551616
def lw (a i : Nat) : Nat := a / B64 ^ i % B64
def a0y (n a : Nat) : List Nat := (List.range n).map (lw a)
def mix (A B k : Nat) : Nat := A % B64 ^ k + B / B64 ^ k * B64 ^ k
theorem c0A (k : Nat) : 0 < B64 ^ k := Nat.pow_pos ap12
theorem f0U (a i : Nat) : lw a i < 18446744073709551616 := Nat.mod_lt _ ap12
theorem b0Q (n a : Nat) : (a0y n a).length = n := by simp [a0y]
theorem d0z (n a i : Nat) (h : i < n) : (a0y n a)[i]? = some (lw a i) := by simp [a0y, h]
theorem f0u (a i k : Nat) (h : i < k) : lw (a % B64 ^ k) i = lw a i := by
 unfold lw
 obtain ⟨j, rfl⟩ : ∃ j, k = i + (1 + j) := ⟨k - i - 1, by omega⟩
 rw [Nat.pow_add, Nat.mod_mul_right_div_self, Nat.pow_add, Nat.pow_one, Nat.mod_mul_right_mod]
theorem h0d (a k i : Nat) : lw (a / B64 ^ k) i = lw a (k + i) := by
 unfold lw
 rw [Nat.div_div_eq_div_mul, ← Nat.pow_add]
theorem u0I (A B k : Nat) : mix A B k % B64 ^ k = A % B64 ^ k := by
 unfold mix
 rw [Nat.add_mul_mod_self_right, Nat.mod_mod]
theorem u0J (A B k : Nat) : mix A B k / B64 ^ k = B / B64 ^ k := by
 unfold mix
 rw [Nat.add_mul_div_right _ _ (c0A k), Nat.div_eq_of_lt (Nat.mod_lt _ (c0A k)), Nat.zero_add]
theorem i0e (A B k i : Nat) : lw (mix A B k) i = if i < k then lw A i else lw B i := by
 split
 ·rename_i h
  rw [← f0u _ i k h, u0I, f0u _ i k h]
 ·rename_i h
  obtain ⟨j, rfl⟩ : ∃ j, i = k + j := ⟨i - k, by omega⟩
  rw [← h0d, ← h0d, u0J]
theorem f0v {n a b : Nat} (h : ∀ i, i < n → lw a i = lw b i) : a0y n a = a0y n b := by
 unfold a0y
 apply List.map_congr_left
 intro i hi
 exact h i (List.mem_range.1 hi)
theorem p0e (n A B k : Nat) (h : k < n) : (a0y n (mix A B k)).set k (lw A k) = a0y n (mix A B (k + 1)) := by
 have _h := h
 apply List.ext_getElem?
 intro i
 rw [List.getElem?_set]
 rcases Nat.lt_or_ge i n with hi | hi
 ·rw [d0z _ _ _ hi, d0z _ _ _ hi, i0e, i0e, b0Q]
  by_cases e : k = i
  ·subst e; simp [h]
  ·rw [if_neg e]
   congr 1
   by_cases h2 : i < k
   ·rw [if_pos h2, if_pos ap13]
   ·rw [if_neg h2, if_neg ap13]
 ·rw [List.getElem?_eq_none (by rw [b0Q]; exact hi), List.getElem?_eq_none (by rw [b0Q]; exact hi)]
  split
  ·rw [b0Q, if_neg ap13]
  ·rfl
theorem g0B (A B : Nat) : mix A B 0 = B := by simp [mix, Nat.mod_one]
theorem p0f (A B k : Nat) (h : B < B64 ^ k) : mix A B k = A % B64 ^ k := by
 unfold mix
 rw [Nat.div_eq_of_lt h, Nat.zero_mul, Nat.add_zero]
theorem p0g (n a : Nat) : a0y n (a % B64 ^ n) = a0y n a := f0v fun i hi => f0u a i n hi
theorem d0m (a k : Nat) : a % B64 ^ (k + 1) = a % B64 ^ k + B64 ^ k * lw a k := by
 unfold lw
 rw [Nat.pow_succ, Nat.mod_mul]
theorem f0w {n a b : Nat} (h : a0y n a = a0y n b) : a % B64 ^ n = b % B64 ^ n := by
 have hw : ∀ i, i < n → lw a i = lw b i := fun i hi => by
  have h1 := d0z n a i hi
  rw [h, d0z n b i hi] at h1
  exact (Option.some.inj h1).symm
 clear h
 induction n with
 | zero => simp [Nat.mod_one]
 | succ k ih => rw [d0m, d0m, ih (fun i hi => hw i ap13), hw k ap13]
def b0r (a b k : Nat) : Nat := (a % B64 ^ k + b % B64 ^ k) / B64 ^ k
theorem p0h (a b : Nat) : b0r a b 0 = 0 := by simp [b0r, Nat.mod_one]
theorem u0K (a b k : Nat) : b0r a b k ≤ 1 := by
 unfold b0r
 have h := c0A k
 have h1 := Nat.mod_lt a h
 have h2 := Nat.mod_lt b h
 generalize B64 ^ k = W at *
 exact Nat.le_of_lt_succ (Nat.div_lt_of_lt_mul ap13)
theorem p0i (a b k : Nat) : b0r a b (k + 1) = (lw a k + lw b k + b0r a b k) / 18446744073709551616 := by
 unfold b0r
 rw [d0m, d0m, Nat.pow_succ, ← Nat.div_div_eq_div_mul]
 congr 1
 have e : a % B64 ^ k + B64 ^ k * lw a k + (b % B64 ^ k + B64 ^ k * lw b k) = (a % B64 ^ k + b % B64 ^ k) + B64 ^ k * (lw a k + lw b k) := by rw [Nat.mul_add]; omega
 rw [e, Nat.add_mul_div_left _ _ (c0A k)]
 omega
theorem w0A (a b k : Nat) : lw (a + b) k = (lw a k + lw b k + b0r a b k) % 18446744073709551616 := by
 unfold lw b0r
 have h := c0A k
 have e : a + b = (a % B64 ^ k + b % B64 ^ k) + B64 ^ k * (a / B64 ^ k + b / B64 ^ k) := by
  have h1 := Nat.div_add_mod a (B64 ^ k)
  have h2 := Nat.div_add_mod b (B64 ^ k)
  rw [Nat.mul_add]; omega
 have e2 : (a + b) / B64 ^ k = (a % B64 ^ k + b % B64 ^ k) / B64 ^ k + (a / B64 ^ k + b / B64 ^ k) := by
  conv => lhs; rw [e]
  rw [Nat.add_mul_div_left _ _ h]
 rw [e2]
 generalize (a % B64 ^ k + b % B64 ^ k) / B64 ^ k = x
 generalize a / B64 ^ k = y
 generalize b / B64 ^ k = z
 show (x + (y + z)) % 18446744073709551616 = (y % 18446744073709551616 + z % 18446744073709551616 + x) % 18446744073709551616
 omega
theorem r0K (a b k : Nat) (ha : a < B64 ^ k) (hb : b < B64 ^ k) : b0r a b k = (a + b) / B64 ^ k := by
 unfold b0r; rw [Nat.mod_eq_of_lt ha, Nat.mod_eq_of_lt hb]
def b0q (a b k : Nat) : Nat := if a % B64 ^ k < b % B64 ^ k then 1 else 0
theorem p0j (a b : Nat) : b0q a b 0 = 0 := by simp [b0q, Nat.mod_one]
theorem u0L (a b k : Nat) : b0q a b k ≤ 1 := by unfold b0q; split <;> omega
theorem p0k (a b k : Nat) : b0q a b (k + 1) = if lw a k < lw b k + b0q a b k then 1 else 0 := by
 unfold b0q
 rw [d0m, d0m]
 have h := c0A k
 have h1 := Nat.mod_lt a h
 have h2 := Nat.mod_lt b h
 generalize lw a k = x
 generalize lw b k = y
 generalize a % B64 ^ k = p at *
 generalize b % B64 ^ k = q at *
 generalize B64 ^ k = W at *
 rcases Nat.lt_trichotomy x y with hxy | hxy | hxy
 ·obtain ⟨d, rfl⟩ : ∃ d, y = x + 1 + d := ⟨y - x - 1, by omega⟩
  have e : W * (x + 1 + d) = W * x + W + W * d := by rw [Nat.mul_add, Nat.mul_add, Nat.mul_one]
  rw [e]
  rw [if_pos ap13, if_pos ap13]
 ·subst hxy
  by_cases hpq : p < q
  ·rw [if_pos hpq, if_pos ap13, if_pos ap13]
  ·rw [if_neg hpq, if_neg ap13, if_neg ap13]
 ·obtain ⟨d, rfl⟩ : ∃ d, x = y + 1 + d := ⟨x - y - 1, by omega⟩
  have e : W * (y + 1 + d) = W * y + W + W * d := by rw [Nat.mul_add, Nat.mul_add, Nat.mul_one]
  rw [e]
  rw [if_neg ap13, if_neg (by split <;> omega)]
theorem w0B (n a b k : Nat) (hb : b < B64 ^ n) (hk : k < n) : lw (a + B64 ^ n - b) k = (lw a k + 18446744073709551616 - lw b k - b0q a b k) % 18446744073709551616 := by
 obtain ⟨j, rfl⟩ : ∃ j, n = k + (1 + j) := ⟨n - k - 1, by omega⟩
 have hW := c0A k
 have hT := c0A j
 have hN : B64 ^ (k + (1 + j)) = B64 ^ k * (B64 * B64 ^ j) := by rw [Nat.pow_add, Nat.pow_add, Nat.pow_one]
 rw [hN] at hb ⊢
 have ha1 := Nat.div_add_mod a (B64 ^ k)
 have hb1 := Nat.div_add_mod b (B64 ^ k)
 have ha2 := Nat.mod_lt a hW
 have hb2 := Nat.mod_lt b hW
 have hbh : b / B64 ^ k < B64 * B64 ^ j := Nat.div_lt_of_lt_mul hb
 unfold lw b0q
 generalize a / B64 ^ k = x at *
 generalize b / B64 ^ k = y at *
 generalize a % B64 ^ k = p at *
 generalize b % B64 ^ k = q at *
 generalize B64 ^ j = T at *
 generalize B64 ^ k = W at *
 have hq : ∃ c, c ≤ 1 ∧ (c = if p < q then 1 else 0) ∧ p + c * W < q + W ∧ q ≤ p + c * W := by
  by_cases h : p < q
  ·exact ⟨1, by omega, by rw [if_pos h], by omega, by omega⟩
  ·exact ⟨0, by omega, by rw [if_neg h], by omega, by omega⟩
 obtain ⟨c, hc1, hc2, hc3, hc4⟩ := hq
 rw [← hc2]
 have hyc : y + c ≤ x + B64 * T := by omega
 have e : (a + W * (B64 * T) - b) / W = x + B64 * T - y - c := by
  have h1 : a + W * (B64 * T) - b = W * (x + B64 * T - y - c) + (p + c * W - q) := by
   have h2 : W * (x + B64 * T - y - c) + W * (y + c) = W * x + W * (B64 * T) := by
    rw [← Nat.mul_add, ← Nat.mul_add]; congr 1; omega
   have h3 : W * (y + c) = W * y + c * W := by rw [Nat.mul_add, Nat.mul_comm W c]
   generalize W * (x + B64 * T - y - c) = u at *
   generalize W * (B64 * T) = v at *
   generalize W * (y + c) = z at *
   omega
  rw [h1, Nat.mul_add_div hW, Nat.div_eq_of_lt ap13, Nat.add_zero]
 rw [e]
 show (x + 18446744073709551616 * T - y - c) % 18446744073709551616 = (x % 18446744073709551616 + 18446744073709551616 - y % 18446744073709551616 - c) % 18446744073709551616
 have hyc' : y + c ≤ x + 18446744073709551616 * T := hyc
 omega
theorem g0C (a b k : Nat) (ha : a < B64 ^ k) (hb : b < B64 ^ k) : b0q a b k = if a < b then 1 else 0 := by
 unfold b0q; rw [Nat.mod_eq_of_lt ha, Nat.mod_eq_of_lt hb]
def b0i (L x n k : Nat) : Nat := (L % B64 ^ k + x * (n % B64 ^ k)) / B64 ^ k
theorem p0l (L x n : Nat) : b0i L x n 0 = 0 := by simp [b0i, Nat.mod_one]
theorem p0m (L x n k : Nat) (hx : x < 18446744073709551616) : b0i L x n k < 18446744073709551616 := by
 unfold b0i
 have h := c0A k
 have h1 := Nat.mod_lt L h
 have h2 := Nat.mod_lt n h
 have h3 : x * (n % B64 ^ k) ≤ 18446744073709551615 * (n % B64 ^ k) := Nat.mul_le_mul_right _ ap13
 generalize B64 ^ k = W at *
 refine Nat.div_lt_of_lt_mul ?_
 omega
theorem h0e (L x n k : Nat) : b0i L x n (k + 1) = (lw L k + x * lw n k + b0i L x n k) / 18446744073709551616 := by
 unfold b0i
 rw [d0m, d0m, Nat.pow_succ, ← Nat.div_div_eq_div_mul]
 congr 1
 have e : L % B64 ^ k + B64 ^ k * lw L k + x * (n % B64 ^ k + B64 ^ k * lw n k) = (L % B64 ^ k + x * (n % B64 ^ k)) + B64 ^ k * (lw L k + x * lw n k) := by
  rw [Nat.mul_add, Nat.mul_add, Nat.mul_left_comm x]; omega
 rw [e, Nat.add_mul_div_left _ _ (c0A k)]
 omega
theorem l0t (L x n k : Nat) : lw (L + x * n) k = (lw L k + x * lw n k + b0i L x n k) % 18446744073709551616 := by
 unfold lw b0i
 have h := c0A k
 have e : L + x * n = (L % B64 ^ k + x * (n % B64 ^ k)) + B64 ^ k * (L / B64 ^ k + x * (n / B64 ^ k)) := by
  have h1 := Nat.div_add_mod L (B64 ^ k)
  have h2 := Nat.div_add_mod n (B64 ^ k)
  have h3 : x * n = x * (B64 ^ k * (n / B64 ^ k)) + x * (n % B64 ^ k) := by rw [← Nat.mul_add, h2]
  have h4 : x * (B64 ^ k * (n / B64 ^ k)) = B64 ^ k * (x * (n / B64 ^ k)) := Nat.mul_left_comm _ _ _
  rw [Nat.mul_add]; omega
 have e2 : (L + x * n) / B64 ^ k = (L % B64 ^ k + x * (n % B64 ^ k)) / B64 ^ k + (L / B64 ^ k + x * (n / B64 ^ k)) := by
  conv => lhs; rw [e]
  rw [Nat.add_mul_div_left _ _ h]
 rw [e2]
 generalize (L % B64 ^ k + x * (n % B64 ^ k)) / B64 ^ k = u
 generalize L / B64 ^ k = y
 generalize n / B64 ^ k = z
 show (u + (y + x * z)) % 18446744073709551616 = (y % 18446744073709551616 + x * (z % 18446744073709551616) + u) % 18446744073709551616
 have e3 : x * (z % 18446744073709551616) % 18446744073709551616 = x * z % 18446744073709551616 := Nat.mul_mod_mod _ _ _
 generalize x * (z % 18446744073709551616) = s at *
 generalize x * z = t at *
 omega
theorem r0L (L x n k : Nat) (hL : L < B64 ^ k) (hn : n < B64 ^ k) : b0i L x n k = (L + x * n) / B64 ^ k := by
 unfold b0i; rw [Nat.mod_eq_of_lt hL, Nat.mod_eq_of_lt hn]
theorem n0N (p t c : Nat) (hp : p ≤ 18446744073709551615 * 18446744073709551615) (hc : c < 18446744073709551616) :
  (t + (p % 18446744073709551616 + c) % 18446744073709551616) % 18446744073709551616 = (t + p + c) % 18446744073709551616 ∧
  p / 18446744073709551616 + (p % 18446744073709551616 + c) / 18446744073709551616 < 18446744073709551616 ∧
  p / 18446744073709551616 + (p % 18446744073709551616 + c) / 18446744073709551616 + (t + (p % 18446744073709551616 + c) % 18446744073709551616) / 18446744073709551616 = (t + p + c) / 18446744073709551616 := by
 omega
theorem n0O (p t c : Nat) (hp : p ≤ 18446744073709551615 * 18446744073709551615) (hc : c < 18446744073709551616) :
  ∃ hi lo lo2 c1 t2 c2 : Nat, p / 18446744073709551616 = hi ∧ p % 18446744073709551616 = lo ∧ (lo + c) % 18446744073709551616 = lo2 ∧ (lo + c) / 18446744073709551616 = c1 ∧ hi + c1 < 18446744073709551616 ∧
   (t + lo2) % 18446744073709551616 = t2 ∧ (t + lo2) / 18446744073709551616 = c2 ∧ t2 = (t + p + c) % 18446744073709551616 ∧ hi + c1 + c2 = (t + p + c) / 18446744073709551616 := by
 obtain ⟨h1, h2, h3⟩ := n0N p t c hp hc
 exact ⟨_, _, _, _, _, _, rfl, rfl, rfl, rfl, h2, rfl, rfl, h1, h3⟩
theorem l0u {x y : Nat} (hx : x < 18446744073709551616) (hy : y < 18446744073709551616) : x * y ≤ 18446744073709551615 * 18446744073709551615 :=
 Nat.mul_le_mul ap13 ap13
theorem l0v (P Q i j : Nat) (h : j < i) : lw (P + B64 ^ i * Q) j = lw P j := by
 rw [← f0u _ j i h, Nat.add_mul_mod_self_left, f0u _ j i h]
theorem h0f (P Q i k : Nat) : lw (P + B64 ^ i * Q) (i + k) = lw (P / B64 ^ i + Q) k := by
 rw [← h0d, Nat.add_mul_div_left _ _ (c0A i)]
theorem g0m (a n i : Nat) (h : a < B64 ^ n) (hi : n ≤ i) : lw a i = 0 := by
 unfold lw
 rw [Nat.div_eq_of_lt (Nat.lt_of_lt_of_le h (Nat.pow_le_pow_right ap12 hi)), Nat.zero_mod]
theorem r0M (a b i : Nat) : a % B64 ^ i * b + B64 ^ i * (lw a i * b) = a % B64 ^ (i + 1) * b := by
 rw [d0m, Nat.add_mul, Nat.mul_assoc]
theorem m0B (V x n : Nat) (hn : n < B64 ^ 4) (hV : V + x * n < B64 ^ 6) (hVV : V < B64 ^ 6) :
  (lw V 4 + b0i V x n 4) % 18446744073709551616 = lw (V + x * n) 4 ∧ lw V 5 + (lw V 4 + b0i V x n 4) / 18446744073709551616 = lw (V + x * n) 5 ∧ lw V 5 + (lw V 4 + b0i V x n 4) / 18446744073709551616 < 18446744073709551616 := by
 have z4 : lw n 4 = 0 := g0m n 4 4 hn ap12
 have z5 : lw n 5 = 0 := g0m n 4 5 hn ap12
 have h4 := l0t V x n 4
 have h5 := l0t V x n 5
 have c5 := h0e V x n 4
 have c6 := h0e V x n 5
 rw [z4, Nat.mul_zero, Nat.add_zero] at h4 c5
 rw [z5, Nat.mul_zero, Nat.add_zero] at h5 c6
 have hc6 : b0i V x n 6 = 0 := by
  rw [r0L V x n 6 hVV (Nat.lt_trans hn ap12)]
  exact Nat.div_eq_of_lt hV
 rw [hc6] at c6
 rw [c5] at h5 c6
 try rw [Nat.add_zero] at h5
 try rw [Nat.add_zero] at c6
 have : lw V 5 + (lw V 4 + b0i V x n 4) / 18446744073709551616 < 18446744073709551616 := by omega
 exact ⟨h4.symm, by rw [h5, Nat.mod_eq_of_lt this], this⟩
theorem u0M (V : Nat) : lw V 0 = V % 18446744073709551616 := by simp [lw]
def a0J (M neg b T x : Nat) : Nat := (T + x * b + ((T + x * b) % 18446744073709551616 * neg % 18446744073709551616) * M) / 18446744073709551616
def a0A (M neg b a : Nat) : Nat → Nat
 | 0 => 0
 | k + 1 => a0J M neg b (a0A M neg b a k) (lw a k)
theorem l0w (M neg b T x : Nat) (hneg : (M * neg + 1) % 18446744073709551616 = 0) :
  a0J M neg b T x * 18446744073709551616 = T + x * b + ((T + x * b) % 18446744073709551616 * neg % 18446744073709551616) * M := by
 unfold a0J
 generalize hV : T + x * b = V
 generalize hm : V % 18446744073709551616 * neg % 18446744073709551616 = m
 have key : (V + m * M) % 18446744073709551616 = 0 := by
  have h1 : (m * M) % 18446744073709551616 = (V * neg * M) % 18446744073709551616 := by
   rw [← hm, Nat.mod_mul_mod, Nat.mul_assoc, Nat.mod_mul_mod, ← Nat.mul_assoc]
  have h2 : V + V * neg * M = V * (M * neg + 1) := by rw [Nat.mul_add, Nat.mul_one, Nat.mul_assoc, Nat.mul_comm neg, Nat.add_comm]
  rw [Nat.add_mod, h1, ← Nat.add_mod, h2, Nat.mul_mod, hneg, Nat.mul_zero, Nat.zero_mod]
 have := Nat.div_add_mod (V + m * M) 18446744073709551616
 rw [key, Nat.add_zero, Nat.mul_comm] at this
 exact this
theorem r0N (M neg b T x : Nat) (_ : 0 < M) (hT : T < b + M) (hx : x < 18446744073709551616) : a0J M neg b T x < b + M := by
 unfold a0J
 refine Nat.div_lt_of_lt_mul ?_
 generalize hm : (T + x * b) % 18446744073709551616 * neg % 18446744073709551616 = m
 have hm' : m < 18446744073709551616 := by rw [← hm]; exact Nat.mod_lt _ ap12
 have h1 : x * b ≤ 18446744073709551615 * b := Nat.mul_le_mul_right _ ap13
 have h2 : m * M ≤ 18446744073709551615 * M := Nat.mul_le_mul_right _ ap13
 omega
theorem m0C (M neg b a k : Nat) (hM : 0 < M) : a0A M neg b a k < b + M := by
 induction k with
 | zero => show 0 < _; omega
 | succ k ih => exact r0N _ _ _ _ _ hM ih (f0U a k)
theorem p0n (M neg b a k : Nat) (hneg : (M * neg + 1) % 18446744073709551616 = 0) : a0A M neg b a k * B64 ^ k % M = a % B64 ^ k * b % M := by
 induction k with
 | zero => simp [a0A, Nat.mod_one]
 | succ k ih =>
  show a0J _ _ _ _ _ * B64 ^ (k + 1) % M = _
  rw [← r0M, Nat.pow_succ, Nat.mul_comm (B64 ^ k), ← Nat.mul_assoc, l0w M neg b _ _ hneg]
  generalize (a0A M neg b a k + lw a k * b) % 18446744073709551616 * neg % 18446744073709551616 = m
  have e : (a0A M neg b a k + lw a k * b + m * M) * B64 ^ k = a0A M neg b a k * B64 ^ k + B64 ^ k * (lw a k * b) + M * (m * B64 ^ k) := by
   rw [Nat.add_mul, Nat.add_mul, Nat.mul_comm (lw a k * b), Nat.mul_right_comm m, Nat.mul_comm (m * B64 ^ k)]
  rw [e, Nat.add_mul_mod_self_left, Nat.add_mod, ih, ← Nat.add_mod]
theorem n0P (M neg Ri a b : Nat) (_ : 0 < M) (ha : a < B64 ^ 4) (hneg : (M * neg + 1) % 18446744073709551616 = 0) (hRi : B64 ^ 4 * Ri % M = 1 % M) :
  a0A M neg b a 4 % M = a * b * Ri % M := by
 have h := p0n M neg b a 4 hneg
 rw [Nat.mod_eq_of_lt ha] at h
 generalize a0A M neg b a 4 = T at *
 have h1 : T * B64 ^ 4 * Ri % M = a * b * Ri % M := by rw [Nat.mul_mod, h, ← Nat.mul_mod]
 rw [← h1, Nat.mul_assoc, Nat.mul_mod, hRi, ← Nat.mul_mod, Nat.mul_one]
theorem n0Q (T M : Nat) (h : T < 2 * M) : T % M = if T < M then T else T - M := by
 split
 ·rename_i h'; exact Nat.mod_eq_of_lt h'
 ·rename_i h'; rw [Nat.mod_eq_sub_mod ap13, Nat.mod_eq_of_lt ap13]
end Mvp
namespace Go.Mv
open Go.RowKit Mvp
variable {P : Program}
def us (l : List Nat) : List Value := l.map fun (x : Nat) => .int .u64 (x : Int)
theorem p0o (l : List Nat) : (us l).length = l.length := by simp [us]
theorem w0C (l : List Nat) (i x : Nat) (h : l[i]? = some x) : (us l)[i]? = some (.int .u64 (x : Int)) := by simp [us, h]
theorem t0C (l : List Nat) (i : Nat) (x : Nat) : (us l).set i (.int .u64 (x : Int)) = us (l.set i x) := by simp [us]
theorem w0D (l : List Nat) : ∀ v ∈ us l, v.oneCell' = true := by intro v hv; simp [us] at hv; obtain ⟨x, _, rfl⟩ := hv; rfl
def cw (n a : Nat) : List Value := us (a0y n a)
theorem a0e (n a : Nat) : (cw n a).length = n := by rw [cw, p0o, b0Q]
theorem c0k (n a i : Nat) (h : i < n) : (cw n a)[i]? = some (.int .u64 (lw a i : Nat)) := w0C _ _ _ (d0z n a i h)
theorem g0n (n A B k : Nat) (h : k < n) : (cw n (mix A B k)).set k (.int .u64 (lw A k : Nat)) = cw n (mix A B (k + 1)) := by
 rw [cw, t0C, p0e n A B k h, cw]
theorem a0d (n a : Nat) : ∀ v ∈ cw n a, v.oneCell' = true := w0D _
theorem cw_mod (n a : Nat) : cw n (a % B64 ^ n) = cw n a := by rw [cw, p0g, cw]
def i4 (a : Nat) : Value := .agg (cw 4 a).toArray
theorem w0E {n a b : Nat} (h : ∀ i, i < n → lw a i = lw b i) : cw n a = cw n b := by rw [cw, f0v h, cw]
theorem i0P (A B n : Nat) : cw n (mix A B n) = cw n A := w0E fun i hi => by rw [i0e, if_pos hi]
theorem g0D (a : Nat) : (i4 a).cells.toList = cw 4 a := rfl
theorem f0h (n : Nat) : cw n 0 = List.replicate n (.int .u64 0) := by
 apply List.ext_getElem?
 intro i
 rcases Nat.lt_or_ge i n with h | h
 ·rw [c0k _ _ _ h, List.getElem?_replicate, if_pos h]; simp [lw]
 ·rw [List.getElem?_eq_none (by rw [a0e]; exact h), List.getElem?_replicate, if_neg ap13]
theorem e0z {t e : TypeId} {m : Nat} (ht : P.underlying t = some (.array m e)) (he : P.underlying e = some (.int .u64)) (hi0 : (P.info? e).map (·.size) = some 1) (a k : Nat) (hk : k < m) (ki : IntKind) (w : World) :
  (Instr.index t (.agg (cw m a).toArray) (.int ki (k : Int))).run P w = .ok (.int .u64 (lw a k : Nat)) w := by
 obtain ⟨j, hj, hsz⟩ : ∃ j, P.info? e = some j ∧ j.size = 1 := by simpa using hi0
 have h1 : (0 : Int) ≤ (k : Int) ∧ (k : Int) < (m : Int) := by omega
 have hv := c0k m a k hk
 simp [Instr.index, asIntOf, run_underlying ht, sizeOf, typeInfo, hj, hsz, part, isAgg, run_underlying he, h1, hv]
 intro h; omega
theorem c0c {fn : Func} {p : Tmp} {ty : TypeId} {s : Tmp} (h : fn.results = #[.cell p ty, .tmp s]) {tmps : Array Value} {w : World} {g : Nat} {L : List Value} {T : TypeId}
  (hp : tmps.getD p undef = .pointer (some ⟨g, 0, none⟩)) (hg : Has w g L T) {n : Nat} {e : TypeId} (hu : P.underlying ty = some (.array n e)) (hi : (P.info? ty).map (·.size) = some L.length) {v : Value} (hv : tmps.getD s undef = v) :
  (results fn tmps).run P w = .ok (.tuple #[.agg L.toArray, v]) w := by
 obtain ⟨lo, hi', hh, -⟩ := hg
 have hp' : tmps[p]?.getD undef = .pointer (some ⟨g, 0, none⟩) := by simpa using hp
 have hv' : tmps[s]?.getD undef = v := by simpa using hv
 simp [results, h, hp', hv', asAddr, run_loadVar_row w g T ty L.toArray _ _ hh hu rfl (by simpa using hi)]
theorem r0O (a : Nat) : i4 a = .agg #[.int .u64 (lw a 0 : Nat), .int .u64 (lw a 1 : Nat), .int .u64 (lw a 2 : Nat), .int .u64 (lw a 3 : Nat)] := rfl
theorem t0D (V : Nat) : i4 (V % B64 ^ 4) = i4 V := by rw [i4, cw_mod, ← i4]
theorem St.setCells {S : Nat → Prop} {w0 w : World} {bl : List (Nat × List Value × TypeId)} (h : St S w0 w bl) (i : Nat) {g : Nat} {L : List Value} {T : TypeId} (hb : bl[i]? = some (g, L, T)) (cs : List Value) (hn : cs.length = L.length) : St S w0 (w.setCells g 0 cs) (bl.set i (g, cs, T)) := by
 obtain ⟨k1, k2, _⟩ := Has.setCells cs 0 L w (h.at i hb) ap13
 rw [c0s _ _ hn] at k1
 exact h.put i hb k2 k1
theorem p0p (p a : Nat) (h : a ≤ p) : i4 (p + B64 ^ 4 - a) = i4 (p - a) := by
 rw [← t0D, show p + B64 ^ 4 - a = (p - a) + B64 ^ 4 by omega, Nat.add_mod_right, t0D]
theorem c0p (n : Nat) (h : n < 18446744073709551616) : .agg #[.int .u64 (n : Int), .int .u64 0, .int .u64 0, .int .u64 0] = i4 n := by
 have h0 : lw n 0 = n := by simp only [lw, Nat.pow_zero, Nat.div_one]; exact Nat.mod_eq_of_lt h
 have ht := fun i (hi : 1 ≤ i) => g0m n 1 i (by rw [Nat.pow_one]; exact h) hi
 rw [r0O, h0, ht 1 ap12, ht 2 ap12, ht 3 ap12]
 rfl
theorem p0q (m n a b : Nat) : ((cw m a ++ cw n b).drop 0).take (cw m a).length = cw m a := by simp
theorem m0D (m n a b : Nat) : ((cw m a ++ cw n b).drop m).take (cw n b).length = cw n b := by
 rw [List.drop_append, a0e, a0e, Nat.sub_self, List.drop_of_length_le (by rw [a0e]; exact Nat.le_refl _), List.nil_append, List.drop_zero, List.take_of_length_le (by rw [a0e]; exact Nat.le_refl _)]
end Go.Mv
namespace Go.Proofs.YtemcankmggmgoaaGreat
open Go.RowKit Go.Mv Mvp
def Tryz.lays264_ren : Go.Shelf.Ren := ⟨fun | 264 => 180 | n => n, fun | 46 => 238 | 53 => 58 | n => n, fun | n => n⟩
theorem Tryz.lays264 : Go.Proofs.Lays.n264 Tryz.prog Tryz.lays264_ren := {
 mixed := by kernel_rfl
 f264 := Tryz.func180.trans (congrArg some ap11)
 t46 := Tryz.underlying238
 a46 := Tryz.isAgg238
 z46 := Tryz.sizeOf238
 v46 := Tryz.zeroValue238
 t53 := Tryz.underlying58
 a53 := Tryz.isAgg58
 z53 := Tryz.sizeOf58
 v53 := Tryz.zeroValue58 }
theorem k0b (x y c : Nat) (hc : c ≤ 1) (w : World) : (callFunc 179 #[.int .u64 x, .int .u64 y, .int .u64 c]).run Tryz.prog w =
      .ok (.value (.tuple #[.int .u64 (((x + y + c) % 18446744073709551616 : Nat) : Int), .int .u64 (((x + y + c) / 18446744073709551616 : Nat) : Int)])) w := by
  rw [run_callFunc_extern Tryz.func179 ap11 ap11 ap11 (e := add64Entry) ap11, run_add64 x y c ap13 ap13 ap13 ap13]
  simp only [Result.andThen]
  congr 5 <;> omega
theorem f0V (x y s c : Nat) (h1 : (x + y) % 18446744073709551616 = s) (h2 : (x + y) / 18446744073709551616 = c) (w : World) : (callFunc 179 #[.int .u64 x, .int .u64 y, .int .u64 0]).run Tryz.prog w =
      .ok (.value (.tuple #[.int .u64 (s : Int), .int .u64 (c : Int)])) w := by
  have h := k0b x y 0 ap13 w
  rw [Nat.add_zero, h1, h2] at h
  exact h
theorem p0r (x y b : Nat) (hb : b ≤ 1) (w : World) : (callFunc 175 #[.int .u64 x, .int .u64 y, .int .u64 b]).run Tryz.prog w =
      .ok (.value (.tuple #[.int .u64 (((x + 18446744073709551616 - y - b) % 18446744073709551616 : Nat) : Int), .int .u64 ((if x < y + b then 1 else 0 : Nat) : Int)])) w := by
  rw [run_callFunc_extern Tryz.func175 ap11 ap11 ap11 (e := sub64Entry) ap11, run_sub64 x y b hb]
  rfl
theorem p0s (x y : Nat) (hx : x < 18446744073709551616) (hy : y < 18446744073709551616) (w : World) :
  Calls Tryz.prog 180 #[.int .u64 x, .int .u64 y] w fun e w' => e = .returned (.tuple #[.int .u64 ((x * y / 18446744073709551616 : Nat) : Int), .int .u64 ((x * y % 18446744073709551616 : Nat) : Int)]) ∧ w = w' :=
 (Any.bits_Mul64 Tryz.lays264 x y hx hy w).mono fun _ _ h => ⟨h.1, h.2.symm⟩
theorem d0n : (Tryz.prog.info? 58).map (·.size) = some 1 := by kernel_rfl
end Go.Proofs.YtemcankmggmgoaaGreat
namespace Mvp
def cP : Nat := 4294968273
def cQ : Nat := 4624529908474429119 + 4994812053365940164 * B64 + B64 ^ 2
def pP : Nat := B64 ^ 4 - cP
def pQ : Nat := B64 ^ 4 - cQ
end Mvp
namespace Mvp
structure Md where
 M : Nat
 neg : Nat
 Ri : Nat
structure Md.Ok (m : Md) : Prop where
 one : 1 < m.M
 lt : m.M < B64 ^ 4
 negLt : m.neg < 18446744073709551616
 neg : (m.M * m.neg + 1) % 18446744073709551616 = 0
 inv : B64 ^ 4 * m.Ri % m.M = 1
def mP : Md := ⟨pP, 15580212934572586289, 91248989341183975618893650062416139444822672217621753343178995607984094583082⟩
def mQ : Md := ⟨pQ, 5408259542528602431, 98562742561918706241446412617699626731164144128788972284189895985653995782166⟩
theorem d0b : mP.Ok := ⟨by decide, by decide, by decide, by decide, by decide⟩
theorem p0t : mQ.Ok := ⟨by decide, by decide, by decide, by decide, by decide⟩
theorem l0x (T b M x V mm : Nat) (hb : b < M) (hM : M < B64 ^ 4) (hT : T < b + M) (hx : x < 18446744073709551616) (hV : T + x * b = V) (hm : mm < 18446744073709551616) :
  T < B64 ^ 5 ∧ T + x * b < B64 ^ 6 ∧ V < B64 ^ 6 ∧ V + mm * M < B64 ^ 6 := by
 have h1 : x * b ≤ 18446744073709551615 * b := Nat.mul_le_mul_right _ ap13
 have h2 : mm * M ≤ 18446744073709551615 * M := Nat.mul_le_mul_right _ ap13
 have e4 : B64 ^ 5 = 18446744073709551616 * B64 ^ 4 := by rw [Nat.pow_succ, Nat.mul_comm]
 have e5 : B64 ^ 6 = 18446744073709551616 * B64 ^ 5 := by rw [Nat.pow_succ, Nat.mul_comm]
 generalize B64 ^ 6 = R6 at *
 generalize B64 ^ 5 = R5 at *
 generalize B64 ^ 4 = R4 at *
 omega
theorem p0u (T : Nat) (h2 : T < 2 * B64 ^ 4) (h : ¬ T < B64 ^ 4) : lw T 4 = 1 := by
 have h0 := c0A 4
 have hd : T / B64 ^ 4 = 1 := by
  generalize B64 ^ 4 = R at *
  have h1 : T - R < R := by omega
  rw [show T = (T - R) + R by omega, Nat.add_div_right _ h0, Nat.div_eq_of_lt h1]
 unfold lw
 rw [hd]; rfl
theorem i0f (T M : Nat) (hM : M < B64 ^ 4) (hT : T < 2 * M) :
  (T < M → lw T 4 = 0 ∧ b0q T M 4 = 1 ∧ Go.Mv.cw 4 (T % M) = Go.Mv.cw 4 T) ∧
  (¬ T < M → Go.Mv.cw 4 (T % M) = Go.Mv.cw 4 (T + B64 ^ 4 - M) ∧ (T < B64 ^ 4 → lw T 4 = 0 ∧ b0q T M 4 = 0)) := by
 constructor
 ·intro h
  exact ⟨g0m T 4 4 (Nat.lt_trans h hM) (Nat.le_refl _), by rw [g0C _ _ _ (Nat.lt_trans h hM) hM, if_pos h], by rw [Nat.mod_eq_of_lt h]⟩
 ·intro h
  refine ⟨?_, fun h4 => ⟨g0m T 4 4 h4 (Nat.le_refl _), by rw [g0C _ _ _ h4 hM, if_neg h]⟩⟩
  rw [n0Q T M hT, if_neg h, ← Go.Mv.cw_mod 4 (T + B64 ^ 4 - M), show T + B64 ^ 4 - M = (T - M) + B64 ^ 4 by omega, Nat.add_mod_right, Go.Mv.cw_mod]
theorem n0R (M neg b a : Nat) : a0A M neg b a 0 = 0 := rfl
theorem n0S (M neg b a k : Nat) : a0A M neg b a (k + 1) = (a0A M neg b a k + lw a k * b + ((a0A M neg b a k + lw a k * b) % 18446744073709551616 * neg % 18446744073709551616) * M) / 18446744073709551616 := rfl
end Mvp
namespace Go.Mv
open Go.RowKit Mvp
def mdL (m : Md) : List Value := cw 4 m.M ++ ([.int .u64 (m.neg : Int)] ++ (cw 4 (B64 ^ 4 % m.M) ++ cw 4 (B64 ^ 4 * B64 ^ 4 % m.M)))
theorem j0E (m : Md) : ((mdL m).drop 0).take (cw 4 m.M).length = cw 4 m.M := by simp [mdL]
theorem w0F (m : Md) : ((mdL m).drop 5).take (cw 4 (B64 ^ 4 % m.M)).length = cw 4 (B64 ^ 4 % m.M) := by
 have h : (cw 4 m.M ++ [Value.int .u64 (m.neg : Int)]).length = 5 := by rw [List.length_append, a0e]; rfl
 rw [mdL, ← List.append_assoc, List.drop_append_of_le_length ap13, List.drop_of_length_le ap13, List.nil_append]
 simp
theorem w0G (m : Md) : ((mdL m).drop 9).take (cw 4 (B64 ^ 4 * B64 ^ 4 % m.M)).length = cw 4 (B64 ^ 4 * B64 ^ 4 % m.M) := by
 have h : (cw 4 m.M ++ ([Value.int .u64 (m.neg : Int)] ++ cw 4 (B64 ^ 4 % m.M))).length = 9 := by rw [List.length_append, List.length_append, a0e, a0e]; rfl
 have e : mdL m = (cw 4 m.M ++ ([Value.int .u64 (m.neg : Int)] ++ cw 4 (B64 ^ 4 % m.M))) ++ cw 4 (B64 ^ 4 * B64 ^ 4 % m.M) := by simp [mdL]
 rw [e, List.drop_append_of_le_length ap13, List.drop_of_length_le ap13, List.nil_append, List.take_of_length_le (Nat.le_refl _)]
theorem w0H (m : Md) : (mdL m)[4]? = some (.int .u64 (m.neg : Int)) := by
 rw [mdL, List.getElem?_append_right (by rw [a0e]; exact Nat.le_refl _), a0e]; rfl
theorem w0I (V : Nat) (h : V < B64 ^ 6) : (splice (cw 6 V) 0 (((cw 6 V).drop 1).take 5)).set 5 (.int .u64 0) = cw 6 (V / 18446744073709551616) := by
 have e : V / 18446744073709551616 = V / B64 ^ 1 := by rw [Nat.pow_one]
 have h6 : lw V 6 = 0 := g0m V 6 6 h (Nat.le_refl _)
 have hw := fun i => h0d V 1 i
 rw [e]
 show _ = [Value.int .u64 (lw (V / B64 ^ 1) 0 : Nat), Value.int .u64 (lw (V / B64 ^ 1) 1 : Nat), Value.int .u64 (lw (V / B64 ^ 1) 2 : Nat), Value.int .u64 (lw (V / B64 ^ 1) 3 : Nat), Value.int .u64 (lw (V / B64 ^ 1) 4 : Nat), Value.int .u64 (lw (V / B64 ^ 1) 5 : Nat)]
 rw [hw 0, hw 1, hw 2, hw 3, hw 4, hw 5, show 1 + 5 = 6 from rfl, h6]
 rfl
theorem u0N (V : Nat) : ((cw 6 V).drop 0).take (cw 4 V).length = cw 4 V := rfl
end Go.Mv
namespace Go.Proofs.YtemcankmggmgoaaGreat
section
open Go.RowKit Go.Mv Mvp
def w0J : List UInt8 := [115, 105, 103, 110]
def r0P : List UInt8 := [112, 117, 98, 108, 105, 99]
def l0y : List UInt8 := [102, 105, 114, 115, 116]
def w0K : List UInt8 := [116, 101, 120, 116]
def h0g : List UInt8 := [99, 104, 97, 108, 108, 101, 110, 103, 101]
def w0L : List UInt8 := [115, 97, 109, 101]
def w0M : List UInt8 := [98, 97, 115, 101]
def kAS : List UInt8 := [97]
def kBS : List UInt8 := [98]
def r0Q : List UInt8 := [115, 101, 99, 111, 110, 100]
def w0N : List UInt8 := [111, 112, 101, 110]
def r0R : List UInt8 := [99, 111, 109, 109, 105, 116]
def b0T : List UInt8 := [110, 111, 110, 99, 101, 32, 115, 105, 103, 110]
def a0t : List UInt8 := [110, 111, 110, 99, 101, 32, 115, 97, 109, 101]
def a0R : List UInt8 := [110, 111, 110, 99, 101, 32, 118, 97, 108, 117, 101]
def a0S : List UInt8 := [110, 111, 110, 99, 101, 32, 98, 108, 105, 110, 100]
def c0B (st : List UInt8) : List (List UInt8 × List UInt8) → List UInt8
 | [] => st
 | x :: r => c0B (c0z w0z [st, x.1, x.2]) r
def y0k (label : List UInt8) : List UInt8 := c0z y0i [label]
end
section
open Go.RowKit Go.Mv Mvp
attribute [local irreducible] a0y lw mix cw b0q b0r b0i
theorem _root_.ap9 {p : Prop} (h : p := by rw [f0h]; rfl) : p := h
theorem d0A (a b : Nat) (w : World) (hb : b < B64 ^ 4) :
  Calls Tryz.prog 187 #[i4 a, i4 b] w fun e w' => e = .returned (.tuple #[i4 (a + B64 ^ 4 - b), .int .u64 (b0q a b 4 : Nat)]) ∧ Fr Nob w w' := by
 have HB := qH hb; clear hb
 have st0 := St.start Nob w
 go_enter Tryz.func187, Tryz.ntmps187
 go_wp2_with (with_reducible refine wSk 2 ?_)
 refine a0q st0 rfl rfl rfl (cw 4 a) rfl ?_
 intro g2 w1 st1
 clear st0
 go_wp2_with (with_reducible refine wSk 3 ?_)
 refine a0q st1 rfl rfl rfl (cw 4 b) rfl ?_
 intro g3 w2 st2
 clear st1
 go_wp2_with (with_reducible refine wSk 4 ?_)
 refine a0a st2 rfl rfl (z := zAd) ap11 (cw 4 0) ap9 ?_
 intro g4 w3 st3
 clear st2
 go_wp2
 go_loopw [5, 7] (fun c i wr => ∃ k : Nat, k ≤ 4 ∧ i = .int .i64 (k : Int) ∧ c = .int .u64 (b0q a b k : Nat) ∧ St Nob w wr [(g2, cw 4 a, 111), (g3, cw 4 b, 111), (g4, cw 4 (mix (a + B64 ^ 4 - b) 0 k), 111)]) (fun _ i _ => 4 - (intOf i).toNat)
 case atStart => exact ⟨0, by omega, rfl, by rw [p0j]; rfl, by rw [g0B]; exact st3⟩
 case round =>
  obtain ⟨k, hk, rfl, rfl, st⟩ := hrel
  clear st3
  by_cases hlt : k < 4
  ·have hltI : (k : Int) < 4 := by omega
   have c1 := (st.at 0 rfl).cell (c0k 4 a k hlt)
   have c2 := (st.at 1 rfl).cell (c0k 4 b k hlt)
   obtain ⟨v3, c3, f3⟩ := (st.at 2 rfl).ready (i := k) (by rw [a0e]; exact hlt)
   have e1 := fun wx => p0r (lw a k) (lw b k) (b0q a b k) (u0L a b k) wx
   go_wp2
   go_region
   all_goals
    go_wp2
    go_roundw
    case rel =>
     have h1 := st.set 2 rfl k (.int .u64 (lw (a + B64 ^ 4 - b) k : Nat))
     rw [g0n _ _ _ _ hlt, w0B 4 a b k HB.out hlt] at h1
     exact ⟨k + 1, by omega, by go_num, by rw [p0k], h1.drew⟩
    case measure => simp [intOf]; omega
  ·have hge : ¬ ((k : Int) < 4) := by omega
   have hk4 : k = 4 := by omega
   have HK := qH hk4; clear hk4
   go_wp2_with (with_reducible refine wSk 24 ?_)
   refine a0m st 2 rfl rfl rfl Tryz.underlying111 rfl (by rw [a0e]; kernel_rfl) ?_
   go_wp2_with (with_reducible refine wSn ?_)
   refine a0b st 2 rfl rfl rfl rfl rfl (by simp only [a0e]) (by rw [a0e]; kernel_rfl) (a0d _ _) ?_
   intro w5 st5
   clear st
   have hd5 := st5.at 2 rfl
   rw [HK.out, p0f _ _ _ (by first | decide | assumption | exact HA.out), cw_mod] at hd5
   have hf5 := st5.fr
   clear st5
   go_wp2
   exact bodyPost_ret (c0c rfl rfl hd5 Tryz.underlying111 (by rw [a0e]; kernel_rfl) rfl) rfl ⟨by rw [HK.out]; rfl, hf5⟩
theorem f0x (a b : Nat) (w : World) :
  Calls Tryz.prog 196 #[i4 a, i4 b] w fun e w' => e = .returned (.tuple #[i4 (a + b), .int .u64 (b0r a b 4 : Nat)]) ∧ Fr Nob w w' := by
 have st0 := St.start Nob w
 go_enter Tryz.func196, Tryz.ntmps196
 go_wp2_with (with_reducible refine wSk 2 ?_)
 refine a0q st0 rfl rfl rfl (cw 4 a) rfl ?_
 intro g2 w1 st1
 clear st0
 go_wp2_with (with_reducible refine wSk 3 ?_)
 refine a0q st1 rfl rfl rfl (cw 4 b) rfl ?_
 intro g3 w2 st2
 clear st1
 go_wp2_with (with_reducible refine wSk 4 ?_)
 refine a0a st2 rfl rfl (z := zAd) ap11 (cw 4 0) ap9 ?_
 intro g4 w3 st3
 clear st2
 go_wp2
 go_loopw [5, 7] (fun c i wr => ∃ k : Nat, k ≤ 4 ∧ i = .int .i64 (k : Int) ∧ c = .int .u64 (b0r a b k : Nat) ∧ St Nob w wr [(g2, cw 4 a, 111), (g3, cw 4 b, 111), (g4, cw 4 (mix (a + b) 0 k), 111)]) (fun _ i _ => 4 - (intOf i).toNat)
 case atStart => exact ⟨0, by omega, rfl, by rw [p0h]; rfl, by rw [g0B]; exact st3⟩
 case round =>
  obtain ⟨k, hk, rfl, rfl, st⟩ := hrel
  clear st3
  by_cases hlt : k < 4
  ·have hltI : (k : Int) < 4 := by omega
   have c1 := (st.at 0 rfl).cell (c0k 4 a k hlt)
   have c2 := (st.at 1 rfl).cell (c0k 4 b k hlt)
   obtain ⟨v3, c3, f3⟩ := (st.at 2 rfl).ready (i := k) (by rw [a0e]; exact hlt)
   have e1 := fun wx => k0b (lw a k) (lw b k) (b0r a b k) (u0K a b k) wx
   go_wp2
   go_region
   all_goals
    go_wp2
    go_roundw
    case rel =>
     have h1 := st.set 2 rfl k (.int .u64 (lw (a + b) k : Nat))
     rw [g0n _ _ _ _ hlt, w0A a b k] at h1
     exact ⟨k + 1, by omega, by go_num, by rw [p0i]; go_num, h1.drew⟩
    case measure => simp [intOf]; omega
  ·have hge : ¬ ((k : Int) < 4) := by omega
   have hk4 : k = 4 := by omega
   have HK := qH hk4; clear hk4
   go_wp2_with (with_reducible refine wSk 24 ?_)
   refine a0m st 2 rfl rfl rfl Tryz.underlying111 rfl (by rw [a0e]; kernel_rfl) ?_
   go_wp2_with (with_reducible refine wSn ?_)
   refine a0b st 2 rfl rfl rfl rfl rfl (by simp only [a0e]) (by rw [a0e]; kernel_rfl) (a0d _ _) ?_
   intro w5 st5
   clear st
   have hd5 := st5.at 2 rfl
   rw [HK.out, p0f _ _ _ (by first | decide | assumption | exact HA.out), cw_mod] at hd5
   have hf5 := st5.fr
   clear st5
   go_wp2
   exact bodyPost_ret (c0c rfl rfl hd5 Tryz.underlying111 (by rw [a0e]; kernel_rfl) rfl) rfl ⟨by rw [HK.out]; rfl, hf5⟩
end
section
open Go.RowKit Go.Mv Mvp
attribute [local irreducible] a0y lw mix cw b0q b0r b0i
theorem m0E (gt V x n top : Nat) (T : TypeId) (w : World) (ht : Has w gt (cw 6 V) T) (hx : x < 18446744073709551616) (_ : top < 18446744073709551616) :
  Calls Tryz.prog 189 #[.pointer (some ⟨gt, 0, none⟩), .int .u64 (x : Int), i4 n, .int .u64 (top : Int)] w fun e w' =>
   e = .returned (.tuple #[.int .u64 (((top + b0i V x n 4) % 18446744073709551616 : Nat) : Int), .int .u64 (((top + b0i V x n 4) / 18446744073709551616 : Nat) : Int)]) ∧
   Has w' gt (cw 6 (mix (V + x * n) V 4)) T ∧ Fr (One gt) w w' := by
 have st0 := St.one ht
 clear ht
 have HX := qH hx
 go_enter Tryz.func189, Tryz.ntmps189
 go_wp2_with (with_reducible refine wSk 6 ?_)
 refine a0q st0 rfl rfl rfl (cw 4 n) rfl ?_
 intro gn w1 st1
 clear st0
 go_wp2_with (with_reducible refine wSk 16 ?_)
 refine a0m st1 1 rfl rfl rfl Tryz.underlying111 rfl (by rw [a0e]; kernel_rfl) ?_
 go_wp2
 go_loopw [10, 17] (fun c i wr => ∃ k : Nat, k ≤ 4 ∧ i = .int .i64 (k : Int) ∧ c = .int .u64 (b0i V x n k : Nat) ∧ St (One gt) w wr [(gt, cw 6 (mix (V + x * n) V k), T)]) (fun _ i _ => 4 - (intOf i).toNat)
 case atStart => exact ⟨0, by omega, rfl, by rw [p0l]; rfl, by rw [g0B]; exact st1.less ap14⟩
 case round =>
  obtain ⟨k, hk, rfl, rfl, st⟩ := hrel
  clear st1
  have hcm := p0m V x n k HX.out
  by_cases hlt : k < 4
  ·have hltI : (k : Int) < 4 := by omega
   have e0 := fun wx => e0z (P := Tryz.prog) Tryz.underlying111 Tryz.underlying58 d0n n k hlt .i64 wx
   have hp := l0u HX.out (f0U n k)
   have hms := h0e V x n k
   have hlm := l0t V x n k
   have hms2 := p0m V x n (k + 1) HX.out
   obtain ⟨hi, lo, lo2, c1, t2, c2, r1, r2, r3, r4, r5, r6, r7, r8, r9⟩ := n0O (x * lw n k) (lw V k) (b0i V x n k) hp hcm
   rw [← r8] at hlm
   rw [← r9] at hms
   rw [hms] at hms2
   have hmul := fun wx => p0s x (lw n k) HX.out (f0U n k) wx
   rw [r1, r2] at hmul
   have e2 := fun wx => f0V lo (b0i V x n k) lo2 c1 r3 r4 wx
   have e3 := fun wx => f0V (lw V k) lo2 t2 c2 r6 r7 wx
   obtain ⟨v3, c3, f3⟩ := (st.at 0 rfl).ready (i := k) (by rw [a0e]; omega)
   have c1' : wr.cell? ⟨gt, k, none⟩ = some (.int .u64 (lw V k : Nat)) := by have h := (st.at 0 rfl).cell (c0k 6 (mix (V + x * n) V k) k ap13); rwa [i0e, if_neg (Nat.lt_irrefl k)] at h
   clear c3 hp r1 r2 r3 r4 r6 r7 r8 r9
   have HMUL := qH hmul; clear hmul
   have HMS := qH hms; clear hms
   have HLM := qH hlm; clear hlm
   go_wp2_with fail
   refine (HMUL.out _).mono ?_
   rintro e' w' ⟨rfl, rfl⟩
   go_wp2_with fail
   go_region
   all_goals
    go_wp2
    go_roundw
    case rel =>
     have h1 := st.set 0 rfl k (.int .u64 (lw (V + x * n) k : Nat))
     rw [g0n _ _ _ _ ap13, HLM.out] at h1
     exact ⟨k + 1, by omega, by go_num, by rw [HMS.out]; go_num, h1.drew⟩
    case measure => simp [intOf]; omega
  ·have hge : ¬ ((k : Int) < 4) := by omega
   have hk4 : k = 4 := by omega
   have HK := qH hk4; clear hk4
   have e2 := fun wx => f0V top (b0i V x n k) _ _ rfl rfl wx
   go_wp2
   go_ret2
   rw [← HK.out]
   exact ⟨rfl, st.at 0 rfl, st.fr⟩
end
section
open Go.RowKit Go.Mv Mvp
attribute [local irreducible] a0y lw mix cw b0q b0r b0i
end
end Go.Proofs.YtemcankmggmgoaaGreat
namespace Go.Mv
open Go.RowKit
section
variable {P : Program} {ops : Array Oper} {md : Region.Mode} {Q : Exit → Act → World → Prop} {S : World → Prop}
def i0g (P : Program) (md : Region.Mode) (ops : Array Oper) (Q : Exit → Act → World → Prop) (S : World → Prop) (n g : Nat) (tl : List Oper) : Nat → Array Bool → Act → World → Prop
 | 0, listed, a, w => Region.seqB md ops g n listed = true ∧ wpList P ops Q tl a w
 | f + 1, listed, a, w =>
  Region.ready md ops listed ≠ [] ∧ ∀ i ∈ Region.ready md ops listed, i < n ∧ wpOp P ops Q i (fun a' w' => S w' ∧ i0g P md ops Q S n g tl f (listed.setIfInBounds i true) a' w') a w
theorem f0W {n : Nat} {tl : List Oper} (hl : ∀ j, tl[j]? = ops[n + j]?) : ∀ (f : Nat) (listed : Array Bool) (a : Act) (w : World), i0g P md ops Q S n tl.length tl f listed a w → wpAny P md ops Q (f + tl.length) listed a w
 | 0, listed, a, w, h => by rw [Nat.zero_add]; exact wpAny_of_seq tl n listed a w hl h.1 h.2
 | f + 1, listed, a, w, h => by
  rw [show f + 1 + tl.length = (f + tl.length) + 1 by omega]
  exact ⟨fun h0 => absurd h0 h.1, fun i hi => wpOp_mono (fun a' w' h' => f0W hl f _ a' w' h'.2) (h.2 i hi).2⟩
theorem g0o {n g i : Nat} {oi : Oper} {v : Value} {tl : List Oper} (hi : ops[i]? = some oi) (hsel : ∀ (j : Nat) (o : Oper) cs b, ops[j]? = some o → o.op ≠ .select cs b)
  (hQ : ∀ c a w, Q (.panic c) (a.put oi.dst v) w → Q (.panic c) a w)
  (hs : Region.sinkB md ops n = true) (hc : Region.chainB md ops n = true) (hn : n < ops.size) (hin : i < n) :
  ∀ (f : Nat) (listed : Array Bool) (a : Act) (w : World), HeadInv md ops n listed →
   (∀ j oj, ops[j]? = some oj → j ≠ i → listed.getD j true = false → (∀ e ∈ oj.after, Region.binds md e = true → e.on ≠ i) → oi.apart ops oj = true) →
   i ∈ Region.ready md ops listed → YieldsIf P ops S oi v a → S w →
   i0g P md ops Q S n g tl f (listed.setIfInBounds i true) (a.put oi.dst v) w → i0g P md ops Q S n g tl (f + 1) listed a w := by
 intro f
 induction f with
 | zero =>
  intro listed a w inv _ hr hy hS H
  have hun := (mem_ready.1 hr).1
  refine ⟨fun h => (by rw [h] at hr; cases hr), fun j hj => ?_⟩
  have hjn : j < n := by
   rcases Nat.lt_or_ge j n with h | h
   ·exact h
   ·exact absurd hj (tail_waits hs hc hn inv _ i rfl hin hun j h)
  refine ⟨hjn, ?_⟩
  by_cases hji : j = i
  ·subst hji; exact hy.wpOp hi hS ⟨hS, H⟩
  ·have := seqB_ready H.1 j (ready_mono hj hji)
   omega
 | succ f ih =>
  intro listed a w inv hfree hr hy hS H
  have hun := (mem_ready.1 hr).1
  refine ⟨fun h => (by rw [h] at hr; cases hr), fun j hj => ?_⟩
  have hjn : j < n := by
   rcases Nat.lt_or_ge j n with h | h
   ·exact h
   ·exact absurd hj (tail_waits hs hc hn inv _ i rfl hin hun j h)
  refine ⟨hjn, ?_⟩
  by_cases hji : j = i
  ·subst hji; exact hy.wpOp hi hS ⟨hS, H⟩
  ·have h1 := (H.2 j (ready_mono hj hji)).2
   obtain ⟨hjun, oj, hoj, hall⟩ := mem_ready.1 hj
   have hnot : ∀ e ∈ oj.after, Region.binds md e = true → e.on ≠ i := fun e he hb heq => by
    have h1 := hall e he hb
    rw [heq, getD_both hun] at h1
    cases h1
   have h2 := wpOp_putIf hoj (hfree j oj hoj hji hjun hnot) (fun cs b => hsel i oi cs b hi) (fun cs b => hsel j oj cs b hoj) hQ hy h1
   have hfree' : ∀ k ok, ops[k]? = some ok → k ≠ i → (listed.setIfInBounds j true).getD k true = false →
     (∀ e ∈ ok.after, Region.binds md e = true → e.on ≠ i) → oi.apart ops ok = true := fun k ok hk hki hun hno => by
    refine hfree k ok hk hki ?_ hno
    by_cases hjk : j = k
    ·subst hjk; exact hjun
    ·rw [getD_set_ne true hjk] at hun; exact hun
   refine wpOp_mono (fun a' w' h3 => ⟨h3.2.1, ih (listed.setIfInBounds j true) a' w' (inv.set hj hjn) hfree' (ready_mono hr (Ne.symm hji)) h3.1 h3.2.1 ?_⟩) h2
   rw [Array.setIfInBounds_comm _ _ hji]
   exact h3.2.2
def l0z (P : Program) (ops : Array Oper) (Q : Exit → Act → World → Prop) (S : World → Prop) (tl : List Oper) : List (Nat × Bool) → Act → World → Prop
 | [], a, w => wpList P ops Q tl a w
 | (i, true) :: r, a, w => ∃ o v, ops[i]? = some o ∧ YieldsIf P ops S o v a ∧ l0z P ops Q S tl r (a.put o.dst v) w
 | (i, false) :: r, a, w => ∃ o, ops[i]? = some o ∧ o.guard = none ∧ o.wp P a w (fun a' w' => S w' ∧ l0z P ops Q S tl r a' w') Q
def n0T (md : Region.Mode) (ops : Array Oper) (n g : Nat) : List (Nat × Bool) → Array Bool → Bool
 | [], listed => Region.seqB md ops g n listed
 | (i, true) :: r, listed => decide (i < n) && (Region.ready md ops listed).contains i && Region.free md ops listed i && n0T md ops n g r (listed.setIfInBounds i true)
 | (i, false) :: r, listed => decide (i < n) && decide (Region.ready md ops listed = [i]) && n0T md ops n g r (listed.setIfInBounds i true)
theorem e0g {n g : Nat} {tl : List Oper} (hsel : Region.noSelect ops = true) (hs : Region.sinkB md ops n = true) (hc : Region.chainB md ops n = true) (hn : n < ops.size)
  (hQ : ∀ c (d : Option Tmp) v a w, Q (.panic c) (Act.put a d v) w → Q (.panic c) a w) :
  ∀ (s : List (Nat × Bool)) (listed : Array Bool) (a : Act) (w : World), HeadInv md ops n listed → n0T md ops n g s listed = true → S w → l0z P ops Q S tl s a w → i0g P md ops Q S n g tl s.length listed a w
 | [], listed, a, w, _, hB, _, h => ⟨hB, h⟩
 | (i, true) :: r, listed, a, w, inv, hB, hS, h => by
  obtain ⟨o, v, ho, hy, hK⟩ := h
  simp only [n0T, Bool.and_eq_true, decide_eq_true_eq] at hB
  obtain ⟨⟨⟨hin, hr⟩, hf⟩, hB'⟩ := hB
  have hr' : i ∈ Region.ready md ops listed := by simpa using hr
  exact g0o ho (Region.noSelect_spec hsel) (fun c a w => hQ c o.dst v a w) hs hc hn hin r.length listed a w inv (Region.free_spec ho hf) hr' hy hS
   (e0g hsel hs hc hn hQ r _ _ w (inv.set hr' hin) hB' hS hK)
 | (i, false) :: r, listed, a, w, inv, hB, hS, h => by
  obtain ⟨o, ho, hg, hK⟩ := h
  simp only [n0T, Bool.and_eq_true, decide_eq_true_eq] at hB
  obtain ⟨⟨hin, hr⟩, hB'⟩ := hB
  have hr' : i ∈ Region.ready md ops listed := by rw [hr]; simp
  refine ⟨by rw [hr]; simp, fun j hj => ?_⟩
  rw [hr] at hj
  have hj' : j = i := by simpa using hj
  subst hj'
  refine ⟨hin, ?_⟩
  unfold wpOp
  simp only [ho]
  rw [if_pos (by simp [Region.wanted, hg])]
  exact .inl (Oper.wp_mono (fun a' w' h' => ⟨h'.1, e0g hsel hs hc hn hQ r _ a' w' (inv.set hr' hin) hB' h'.1 h'.2⟩) hK)
def t0E (ops : Array Oper) (n : Nat) (s : List (Nat × Bool)) : Bool :=
 Region.noSelect ops && decide (n < ops.size) && decide (s.length = n) && Region.sinkB .any ops n && Region.chainB .any ops n && n0T .any ops n (ops.size - n) s (Array.replicate ops.size false)
theorem i0Q {id : Nat} {a : Act} {w : World} {l : List Oper} (S : World → Prop) (n : Nat) (s : List (Nat × Bool)) (hm : P.follows .mixedOrders = true) (hB : t0E l.toArray n s = true)
  (hS : S w.drew) (hQ : ∀ c (d : Option Tmp) v a w, Q (.panic c) (Act.put a d v) w → Q (.panic c) a w)
  (h : l0z P l.toArray Q S (l.drop n) s a w.drew) : (Code.region id l.toArray true).wp P Q a w := by
 simp only [t0E, Bool.and_eq_true, decide_eq_true_eq] at hB
 obtain ⟨⟨⟨⟨⟨hsel, hn⟩, hlen⟩, hs⟩, hc⟩, hseq⟩ := hB
 have inv0 : HeadInv .any l.toArray n (Array.replicate l.toArray.size false) :=
  ⟨by simp, fun j oj _ hl => (by rw [getD_replicate_false] at hl; cases hl), fun t _ ht => getD_in (by simpa using ht) (getD_replicate_false _ _)⟩
 have hdl : (l.drop n).length = l.toArray.size - n := by simp
 rw [← hdl] at hseq
 have H := e0g (md := .any) (g := (l.drop n).length) (tl := l.drop n) hsel hs hc hn hQ s _ a w.drew inv0 hseq hS h
 refine wp_region_any hm ?_
 have := f0W (md := .any) (n := n) (tl := l.drop n) (fun j => by simp [List.getElem?_drop]) _ _ _ _ H
 rw [hlen, hdl, show n + (l.toArray.size - n) = l.toArray.size by omega] at this
 exact this
variable {l tl : List Oper} {i : Nat} {r : List (Nat × Bool)} {a : Act} {w : World} {o : Oper}
theorem u0O (h : wpList P ops Q tl a w) : l0z P ops Q S tl [] a w := h
theorem m0F (ho : l[i]? = some o) (hg : o.guard = none) {v : Value} (hv : ∀ wx, S wx → (execOp a.eval o).run P wx = .ok (.value v) wx) (h : l0z P l.toArray Q S tl r (a.put o.dst v) w) : l0z P l.toArray Q S tl ((i, true) :: r) a w :=
 ⟨o, v, by simpa using ho, .inl ⟨by simp [Region.wanted, hg], hv⟩, h⟩
end
theorem St.rangeL {S : Nat → Prop} {w0 w : World} {bl : List (Nat × List Value × TypeId)} (h : St S w0 w bl) (i : Nat) {g : Nat} {L : List Value} {T : TypeId} (hb : bl[i]? = some (g, L, T)) (o : Nat) (cs : List Value) (hcs : (L.drop o).take cs.length = cs) : w.rangeAt g o cs := (h.at i hb).range o cs hcs
end Go.Mv
namespace Go.Proofs.YtemcankmggmgoaaGreat
section
open Go.RowKit Go.Mv Mvp
attribute [local irreducible] a0y lw mix cw b0q b0r b0i
end
section
open Go.RowKit Go.Mv Mvp
attribute [local irreducible] a0y lw mix cw b0q b0r b0i
end
end Go.Proofs.YtemcankmggmgoaaGreat
namespace Mvp
def beN (l : List UInt8) : Nat := l.foldl (fun a x => a * 256 + x.toNat) 0
theorem l0A : beN [] = 0 := rfl
theorem e0h (l : List UInt8) (x : UInt8) : beN (l ++ [x]) = beN l * 256 + x.toNat := by simp [beN]
theorem t0F (l : List UInt8) : beN l < 256 ^ l.length := by
 have h : ∀ (n : Nat) (l : List UInt8), l.length = n → beN l < 256 ^ n := by
  intro n
  induction n with
  | zero => intro l hl; rw [List.length_eq_zero_iff.1 hl]; decide
  | succ n ih =>
   intro l hl
   obtain ⟨m, x, rfl⟩ : ∃ m x, l = m ++ [x] := by
    rcases List.eq_nil_or_concat l with h | ⟨m, x, h⟩
    ·subst h; simp at hl
    ·exact ⟨m, x, by simpa using h⟩
   have := ih m (by simpa using hl)
   have hx := x.toNat_lt
   rw [e0h, Nat.pow_succ]
   omega
 exact h _ l rfl
theorem m0G (l : List UInt8) (i : Nat) (h : i < l.length) : beN (l.take (i + 1)) = beN (l.take i) * 256 + (l.getD i 0).toNat := by
 rw [List.take_succ_eq_append_getElem h, e0h]
 simp [List.getD_eq_getElem?_getD, h]
def b0x (l : List UInt8) (i : Nat) : Nat := beN (l.take i) * 256 ^ (l.length - i)
theorem p0v (l : List UInt8) : b0x l 0 = 0 := by simp [b0x, beN]
theorem r0S (l : List UInt8) : b0x l l.length = beN l := by simp [b0x]
theorem p0w (l : List UInt8) (i : Nat) (h : i < l.length) : b0x l (i + 1) = b0x l i + (l.getD i 0).toNat * 256 ^ (l.length - 1 - i) := by
 unfold b0x
 rw [m0G l i h, Nat.add_mul, Nat.mul_assoc, show l.length - i = (l.length - 1 - i) + 1 by omega, Nat.pow_succ, Nat.mul_comm 256, show l.length - (i + 1) = l.length - 1 - i by omega]
theorem r0T (l : List UInt8) (i : Nat) (h : i < l.length) : b0x l i % 256 ^ (l.length - 1 - i + 1) = 0 := by
 unfold b0x
 rw [show l.length - 1 - i + 1 = l.length - i by omega, Nat.mul_mod_left]
theorem p0x (k : Nat) : 256 ^ k = B64 ^ (k / 8) * 2 ^ (8 * (k % 8)) := by
 have e1 : (256 : Nat) = 2 ^ 8 := by decide
 have e2 : B64 = 2 ^ 64 := by decide
 rw [e1, e2, ← Nat.pow_mul, ← Nat.pow_mul, ← Nat.pow_add]
 congr 1
 omega
theorem f0y (x r : Nat) (hx : x < 256) : x * 2 ^ r < 2 ^ (r + 8) := by
 rw [Nat.pow_add, Nat.mul_comm (2 ^ r)]
 exact Nat.mul_lt_mul_of_pos_right hx (Nat.two_pow_pos r)
theorem u0P (A y r : Nat) (hr : r + 8 ≤ 64) (hy : y < 2 ^ (r + 8)) (hA : A % 2 ^ (r + 8) = 0) : (A % B64) ||| y = (A + y) % B64 ∧ (A + y) / B64 = A / B64 := by
 obtain ⟨c, hc⟩ : ∃ c, B64 = 2 ^ (r + 8) * c := ⟨2 ^ (64 - (r + 8)), by rw [← Nat.pow_add, show r + 8 + (64 - (r + 8)) = 64 by omega]⟩
 obtain ⟨m, rfl⟩ : ∃ m, A = 2 ^ (r + 8) * m := ⟨A / 2 ^ (r + 8), by have := Nat.div_add_mod A (2 ^ (r + 8)); omega⟩
 have hc0 : 0 < c := by
  rcases Nat.eq_zero_or_pos c with h | h
  ·rw [h, Nat.mul_zero] at hc; exact absurd hc ap12
  ·exact h
 have hp := Nat.two_pow_pos (r + 8)
 rw [hc]
 have e1 : 2 ^ (r + 8) * m % (2 ^ (r + 8) * c) = 2 ^ (r + 8) * (m % c) := Nat.mul_mod_mul_left _ _ _
 have hmc := Nat.mod_lt m hc0
 have e3 : 2 ^ (r + 8) * m + y = (2 ^ (r + 8) * c) * (m / c) + (2 ^ (r + 8) * (m % c) + y) := by
  have := Nat.div_add_mod m c
  have h2 : 2 ^ (r + 8) * m = 2 ^ (r + 8) * (c * (m / c) + m % c) := by rw [this]
  rw [h2, Nat.mul_add, Nat.mul_assoc]; omega
 have hlt : 2 ^ (r + 8) * (m % c) + y < 2 ^ (r + 8) * c := by
  have h1 : 2 ^ (r + 8) * (m % c + 1) ≤ 2 ^ (r + 8) * c := Nat.mul_le_mul_left _ hmc
  rw [Nat.mul_add, Nat.mul_one] at h1
  omega
 constructor
 ·rw [e1, ← Nat.two_pow_add_eq_or_of_lt hy, e3, Nat.mul_add_mod, Nat.mod_eq_of_lt hlt]
 ·rw [e3, Nat.mul_add_div (Nat.mul_pos hp hc0), Nat.div_eq_of_lt hlt, Nat.add_zero, Nat.mul_div_mul_left _ _ hp]
theorem u0Q (n N k x : Nat) (hx : x < 256) (hN : N % 256 ^ (k + 1) = 0) (hk : k / 8 < n) : (a0y n N).set (k / 8) (lw N (k / 8) ||| x * 2 ^ (8 * (k % 8))) = a0y n (N + x * 256 ^ k) := by
 have hA : N / B64 ^ (k / 8) % 2 ^ (8 * (k % 8) + 8) = 0 := by
  have e : 256 ^ (k + 1) = B64 ^ (k / 8) * 2 ^ (8 * (k % 8) + 8) := by rw [Nat.pow_succ, p0x, Nat.mul_assoc, Nat.pow_add]
  rw [e] at hN
  rw [← Nat.mod_mul_right_div_self, hN, Nat.zero_div]
 obtain ⟨h1, h2⟩ := u0P (N / B64 ^ (k / 8)) (x * 2 ^ (8 * (k % 8))) (8 * (k % 8)) ap13 (f0y x _ hx) hA
 have e : N + x * 256 ^ k = N + B64 ^ (k / 8) * (x * 2 ^ (8 * (k % 8))) := by rw [p0x, Nat.mul_left_comm]
 rw [e]
 apply List.ext_getElem?
 intro i
 rw [List.getElem?_set, b0Q]
 rcases Nat.lt_or_ge i n with hi | hi
 ·rw [d0z _ _ _ hi, d0z _ _ _ hi]
  rcases Nat.lt_trichotomy i (k / 8) with h | h | h
  ·rw [if_neg ap13, l0v _ _ _ _ h]
  ·subst h
   rw [if_pos rfl, if_pos hi]
   congr 1
   have := h0f N (x * 2 ^ (8 * (k % 8))) (k / 8) 0
   rw [Nat.add_zero] at this
   rw [this]
   simp only [lw, Nat.pow_zero, Nat.div_one]
   exact h1
  ·rw [if_neg ap13]
   congr 1
   obtain ⟨j, rfl⟩ : ∃ j, i = k / 8 + (1 + j) := ⟨i - k / 8 - 1, by omega⟩
   rw [h0f, ← h0d N, ← h0d _ 1 j, ← h0d _ 1 j, Nat.pow_one, h2]
 ·rw [if_neg ap13, List.getElem?_eq_none (by rw [b0Q]; exact hi), List.getElem?_eq_none (by rw [b0Q]; exact hi)]
def a0Q (N : Nat) : List UInt8 := (List.range 32).map fun i => UInt8.ofNat (N / 256 ^ (31 - i))
theorem a0U (N : Nat) : (a0Q N).length = 32 := by simp [a0Q]
theorem m0H (N i : Nat) (h : i < 32) : (a0Q N).getD i 0 = UInt8.ofNat (N / 256 ^ (31 - i)) := by simp [a0Q, List.getD_eq_getElem?_getD, h]
theorem u0R (N k : Nat) : lw N (k / 8) / 2 ^ (8 * (k % 8)) % 256 = N / 256 ^ k % 256 := by
 unfold lw
 rw [p0x, ← Nat.div_div_eq_div_mul]
 generalize N / B64 ^ (k / 8) = A
 have hr : 8 * (k % 8) + 8 ≤ 64 := by omega
 generalize 8 * (k % 8) = r at *
 have e : B64 = 2 ^ r * 2 ^ (64 - r) := by rw [← Nat.pow_add, show r + (64 - r) = 64 by omega]
 rw [e, Nat.mod_mul_right_div_self]
 exact Nat.mod_mod_of_dvd _ ⟨2 ^ (64 - r - 8), by rw [show (256 : Nat) = 2 ^ 8 from rfl, ← Nat.pow_add, show 8 + (64 - r - 8) = 64 - r by omega]⟩
theorem w0O (N i : Nat) : lw N (i / 64) / 2 ^ (i % 64) % 2 = N / 2 ^ i % 2 := by
 unfold lw
 have e1 : 2 ^ i = B64 ^ (i / 64) * 2 ^ (i % 64) := by
  rw [show B64 = 2 ^ 64 from rfl, ← Nat.pow_mul, ← Nat.pow_add]
  congr 1; omega
 rw [e1, ← Nat.div_div_eq_div_mul]
 generalize N / B64 ^ (i / 64) = A
 have hr : i % 64 + 1 ≤ 64 := by omega
 generalize i % 64 = r at *
 have e : B64 = 2 ^ r * 2 ^ (64 - r) := by rw [← Nat.pow_add, show r + (64 - r) = 64 by omega]
 rw [e, Nat.mod_mul_right_div_self]
 exact Nat.mod_mod_of_dvd _ ⟨2 ^ (64 - r - 1), by rw [show (2 : Nat) ^ (64 - r) = 2 ^ (1 + (64 - r - 1)) by congr 1; omega, Nat.pow_add, Nat.pow_one]⟩
theorem m0I (N : Nat) (h : N < 256 ^ 32) : beN (a0Q N) = N := by
 have key : ∀ n, n ≤ 32 → beN ((a0Q N).take n) = N / 256 ^ (32 - n) := by
  intro n
  induction n with
  | zero => intro _; simp only [List.take_zero, l0A, Nat.sub_zero]; exact (Nat.div_eq_of_lt h).symm
  | succ n ih =>
   intro hn
   rw [m0G _ _ (by rw [a0U]; omega), ih ap13, m0H _ _ ap13, show 32 - (n + 1) = 31 - n by omega, show 32 - n = (31 - n) + 1 by omega, Nat.pow_succ, ← Nat.div_div_eq_div_mul]
   simp only [UInt8.toNat_ofNat']
   have := Nat.div_add_mod (N / 256 ^ (31 - n)) 256
   show _ * 256 + N / 256 ^ (31 - n) % 256 = _
   omega
 have := key 32 (Nat.le_refl _)
 rw [List.take_of_length_le (by rw [a0U]; exact Nat.le_refl _)] at this
 simpa using this
theorem f0z (n i : Nat) : n / 2 ^ i = 2 * (n / 2 ^ (i + 1)) + n / 2 ^ i % 2 := by
 rw [Nat.pow_succ, ← Nat.div_div_eq_div_mul]
 have := Nat.div_add_mod (n / 2 ^ i) 2
 omega
theorem e0O (l : List UInt8) (h : l.length ≤ 32) : beN l < B64 ^ 4 :=
 Nat.lt_of_lt_of_le (t0F l) (Nat.le_trans (Nat.pow_le_pow_right ap12 h) ap12)
theorem i0h (a b : List UInt8) : beN (a ++ b) = beN a * 256 ^ b.length + beN b := by
 have key : ∀ (n : Nat) (b : List UInt8), b.length = n → beN (a ++ b) = beN a * 256 ^ n + beN b := by
  intro n
  induction n with
  | zero => intro b hb; rw [List.length_eq_zero_iff.1 hb]; simp [l0A]
  | succ n ih =>
   intro b hb
   obtain ⟨m, x, rfl⟩ : ∃ m x, b = m ++ [x] := by
    rcases List.eq_nil_or_concat b with h | ⟨m, x, h⟩
    ·subst h; simp at hb
    ·exact ⟨m, x, by simpa using h⟩
   rw [← List.append_assoc, e0h, ih m (by simpa using hb), e0h, Nat.pow_succ, Nat.add_mul, ← Nat.mul_assoc, Nat.add_assoc]
 exact key _ b rfl
theorem k0c (l : List UInt8) (r k : Nat) (h : r + k ≤ l.length) : beN (l.take (r + k)) = beN (l.take r) * 256 ^ k + beN ((l.drop r).take k) := by
 rw [List.take_add, i0h]
 congr 3
 simp; omega
end Mvp
namespace Go.Proofs.YtemcankmggmgoaaGreat
section
open Go.RowKit Go.Mv Mvp
attribute [local irreducible] a0y lw mix cw b0q b0r b0i beN b0x a0Q
theorem p0y (x : UInt8) (r : Nat) (hr : r + 8 ≤ 64) : (shl (wid x) r).toNat = x.toNat * 2 ^ r := by
 have hx := x.toNat_lt
 have h1 : x.toNat * 2 ^ r < 2 ^ (r + 8) := f0y x.toNat r hx
 have h2 : 2 ^ (r + 8) ≤ 2 ^ 64 := Nat.pow_le_pow_right ap13 hr
 simp only [shl, wid, UInt64.toNat_ofNat', UInt8.toNat_toUInt64]
 exact Nat.mod_eq_of_lt (Nat.lt_of_lt_of_le h1 h2)
theorem i0R : (Tryz.prog.info? 111).map (·.size) = some 4 := by kernel_rfl
theorem c0g (a : Option Addr) (n c : Nat) (l : List UInt8) (w : World) (hb : RdB w a n l) (hs : n ≤ 32) :
  Calls Tryz.prog 144 #[.slice a n c] w fun e w' => e = .returned (i4 (beN l)) ∧ Fr Nob w w' := by
 have HS := qH hs
 have hsz : l.length = n := hb.len
 have HBB := qH hb; clear hb
 have HSZ := qH hsz
 clear hs hsz
 have st0 := St.start Nob w
 go_enter Tryz.func144, Tryz.ntmps144
 go_wp2_with (with_reducible refine wSk 2 ?_)
 refine a0a st0 rfl rfl (z := zAd) ap11 (cw 4 0) ap9 ?_
 intro g2 w1 st1
 clear st0
 have hmx : n ≤ 32 := HS.out
 go_wp2
 go_loopw [8] (fun i wr => ∃ k : Nat, k ≤ n ∧ i = .int .i64 (k : Int) ∧ St Nob w wr [(g2, cw 4 (b0x l k), 111)]) (fun i _ => n - (intOf i).toNat)
 case atStart => exact ⟨0, by omega, rfl, by rw [p0v]; exact st1⟩
 case round =>
  obtain ⟨i, hi, rfl, st⟩ := hrel
  clear st1
  by_cases hlt : i < n
  ·have hltI : (i : Int) < (n : Int) := by omega
   have hll : i < l.length := by rw [HSZ.out]; exact hlt
   have hstep := u0Q 4 (b0x l i) (n - 1 - i) (l.getD i 0).toNat (UInt8.toNat_lt _) (by have := r0T l i hll; rwa [HSZ.out] at this) ap13
   have hsucc := p0w l i hll
   rw [HSZ.out] at hsucc
   rw [← hsucc] at hstep
   obtain ⟨gb, ob, rfl, hcx⟩ := (HBB.out.still st.fr).at ap13
   have hx := hcx i hlt
   clear hcx
   have hd1 : (n : Int) - 1 - (i : Int) = ((n - 1 - i : Nat) : Int) := by omega
   generalize hN' : b0x l (i + 1) = N' at *
   have HN' := qH hN'; clear hN'
   generalize hN : b0x l i = N at *
   generalize l.getD i 0 = x at *
   have hk32 : n - 1 - i < 32 := by omega
   generalize hk : n - 1 - i = k at *
   have HN := qH hN; clear hN
   have HK := qH hk; clear hk
   have HSTEP := qH hstep; clear hstep
   have HD := qH hd1; clear hd1 hsucc hll
   have c1 := (st.at 0 rfl).cell (c0k 4 N (k / 8) ap13)
   have f1 := (st.at 0 rfl).free (k / 8) (by rw [a0e]; omega)
   have hlo : (0 : Int) ≤ (k : Int) / 8 ∧ (k : Int) / 8 < 4 := by omega
   have hor := bits_or_u64_nat (lw N (k / 8)) ((shl (wid x) (8 * (k % 8))).toNat) (f0U _ _) (f0n _)
   rw [p0y x (8 * (k % 8)) ap13] at hor
   simp only [Int.natCast_mul, Int.natCast_pow, Int.cast_ofNat_Int] at hor
   have HSH := qH (p0y x (8 * (k % 8)) ap13)
   go_wp2_with fail
   rw [HD.out]
   have e1 : IntKind.i64.wrap ((k : Int) / 8) = (k : Int) / 8 := IntWalk.i64_in _ ap13
   have e2 : (k : Int).tmod 8 = (k : Int) % 8 := Int.tmod_eq_emod_of_nonneg ap13
   have e3 : IntKind.i64.wrap (8 * ((k : Int) % 8)) = 8 * ((k : Int) % 8) := IntWalk.i64_in _ ap13
   have e4 : ((k : Int) / 8).toNat = k / 8 := by omega
   refine wp_region_still_tail 12 ap11 ap11 ?_
   simp only [List.take_succ_cons, List.take_zero, List.drop_succ_cons, List.drop_zero]
   repeat still_step
   refine wpStill_nil ?_
   have hsh := HSH.out
   have hst := (st.set 0 rfl (k / 8) (.int .u64 ((lw N (k / 8) ||| x.toNat * 2 ^ (8 * (k % 8)) : Nat) : Int))).drew
   have hS : (cw 4 N).set (k / 8) (.int .u64 ((lw N (k / 8) ||| x.toNat * 2 ^ (8 * (k % 8)) : Nat) : Int)) = cw 4 N' := by
    rw [cw, t0C, HSTEP.out, cw]
   rw [hS] at hst
   have HST := qH hst
   clear hst hS
   go_wp2
   go_roundw
   case rel => exact ⟨i + 1, by omega, by go_num, by rw [HN'.out]; exact HST.out⟩
   case measure => simp [intOf]; omega
  ·have hge : ¬ ((i : Int) < (n : Int)) := by omega
   have hi2 : i = l.length := by rw [HSZ.out]; omega
   rw [hi2, r0S] at st
   clear hi2
   go_wp2_with (with_reducible refine wSk 31 ?_)
   refine a0m st 0 rfl rfl rfl Tryz.underlying111 rfl (by rw [a0e]; exact i0R) ?_
   go_wp2_with (with_reducible refine wSn ?_)
   refine a0b st 0 rfl rfl rfl rfl rfl (by rw [a0e]) (by rw [a0e]; exact i0R) (a0d _ _) ?_
   intro w9 st9
   clear st
   have hr := st9.at 0 rfl
   have hfr := st9.fr
   clear st9
   go_wp2
   exact bodyPost_ret (a0D rfl rfl hr Tryz.underlying111 (by rw [a0e]; exact i0R)) rfl ⟨rfl, hfr⟩
end
section
open Go.RowKit Go.Mv Mvp
theorem m0J {k : IntKind} {a b : Int} (h : a = b) : Ending.returned (.int k a) = .returned (.int k b) := by rw [h]
attribute [local irreducible] a0y lw mix cw b0q b0r b0i beN b0x a0Q
theorem i0i (N : Nat) (w : World) :
  Calls Tryz.prog 121 #[i4 N] w fun e w' => ∃ v, e = .returned v ∧ Own w' w.heap.size 5 1 v 32 (bs (a0Q N)) ∧ Fr Nob w w' := by
 have st0 := St.start Nob w
 go_enter Tryz.func121, Tryz.ntmps121
 go_wp2_with (with_reducible refine wSk 1 ?_)
 refine a0q st0 rfl rfl rfl (cw 4 N) rfl ?_
 intro g1 w1 st1
 clear st0
 go_wp2_with (with_reducible refine wSk 6 ?_)
 refine g0S rfl rfl Tryz.underlying22 c0w rfl rfl rfl 32 32 ap14 ap14 ap13 ap13 (by unfold maxLen; omega) ?_
 intro w2 hg2 hf2 hz2
 clear hz2
 have hb2 : w.heap.size ≤ w1.heap.size := st1.fr.size
 have st2 := st1.new hf2 hg2 (Nat.le_refl _)
 clear st1 hg2 hf2
 generalize w1.heap.size = gb at *
 have HBB := qH hb2; clear hb2
 go_wp2
 go_loopw [9] (fun i wr => ∃ k : Nat, k ≤ 32 ∧ i = .int .i64 (k : Int) ∧ St Nob w wr [(g1, cw 4 N, 111), (gb, bs (fill (a0Q N) (List.replicate 32 0) k), 5)]) (fun i _ => 32 - (intOf i).toNat)
 case atStart => exact ⟨0, by omega, rfl, st2⟩
 case round =>
  obtain ⟨i, hi, rfl, st⟩ := hrel
  clear st2
  by_cases hlt : i < 32
  ·have hltI : (i : Int) < 32 := by omega
   have hd1 : (31 : Int) - (i : Int) = ((31 - i : Nat) : Int) := by omega
   have hgl := m0H N i hlt
   have hgb := u0R N (31 - i)
   have hk32 : 31 - i < 32 := by omega
   generalize hk : 31 - i = k at *
   have HK := qH hk; clear hk
   have HGL := qH hgl; clear hgl
   have HGB := qH hgb; clear hgb
   have c1 := (st.at 0 rfl).cell (c0k 4 N (k / 8) ap13)
   obtain ⟨v3, c3, f3⟩ := (st.at 1 rfl).ready (i := i) (by rw [a0G, g0T _ _ _ (by rw [a0U]; simp)]; simpa using hlt)
   have hlo : (0 : Int) ≤ (k : Int) / 8 ∧ (k : Int) / 8 < 4 := by omega
   have e4 : ((k : Int) / 8).toNat = k / 8 := by omega
   go_wp2
   go_roundw
   case rel =>
    have h1 := st.set 1 rfl i (.int .u8 (((a0Q N).getD i 0).toNat : Int))
    rw [j0G, m0v _ _ _ (by rw [a0U]; simp) (by rw [a0U]; omega)] at h1
    have e : (((a0Q N).getD i 0).toNat : Int) = (lw N (k / 8) : Int) / 2 ^ (8 * (k % 8)) % 256 := by
     rw [HGL.out, UInt8.toNat_ofNat']
     have := HGB.out
     rw [show (2 : Nat) ^ 8 = 256 from rfl, ← this]
     simp
    rw [e] at h1
    exact ⟨i + 1, by omega, by go_num, h1⟩
   case measure => simp [intOf]; omega
  ·have hge : ¬ ((i : Int) < 32) := by omega
   have hi32 : i = 32 := by omega
   have hown : Own wr w.heap.size 5 1 (.slice (some ⟨gb, 0, none⟩) 32 32) 32 (bs (a0Q N)) := by
    have h := st.at 1 rfl
    rw [hi32, m0u _ _ _ (by rw [a0U]; simp) (by rw [a0U]; exact Nat.le_refl _)] at h
    have := Own.made h w.heap.size HBB.out 1 32 32 (Nat.le_refl _) (by unfold maxLen; omega) (by rw [a0G, a0U]; omega)
    rwa [List.take_of_length_le (by rw [a0G, a0U]; exact Nat.le_refl _)] at this
   have hfr := st.fr
   clear st hi32
   go_wp2
   go_ret
   exact ⟨_, rfl, hown, hfr⟩
theorem m0K (N i : Nat) (w : World) (hi : i < 256) :
  Calls Tryz.prog 199 #[i4 N, .int .i64 (i : Int)] w fun e w' => e = .returned (.int .u64 ((N / 2 ^ i % 2 : Nat) : Int)) ∧ Fr Nob w w' := by
 have hb := w0O N i
 have HB := qH hb; clear hb
 have st0 := St.start Nob w
 go_enter Tryz.func199, Tryz.ntmps199
 go_wp2_with (with_reducible refine wSk 2 ?_)
 refine a0q st0 rfl rfl rfl (cw 4 N) rfl ?_
 intro g1 w1 st1
 clear st0
 have c1 := (st1.at 0 rfl).cell (c0k 4 N (i / 64) ap13)
 have hlo : (0 : Int) ≤ (i : Int) / 64 ∧ (i : Int) / 64 < 4 := by omega
 have hlo2 : (0 : Int) ≤ (i : Int) % 64 ∧ (i : Int) % 64 < 64 := by omega
 have e4 : ((i : Int) / 64).toNat = i / 64 := by omega
 have e5 : ((i : Int) % 64).toNat = i % 64 := by omega
 have hfr := st1.fr
 clear st1
 have hw : lw N (i / 64) / 2 ^ (i % 64) < 18446744073709551616 := Nat.lt_of_le_of_lt (Nat.div_le_self _ _) (f0U _ _)
 have ha := bits_and_u64_nat (lw N (i / 64) / 2 ^ (i % 64)) 1 hw ap13
 rw [Nat.and_one_is_mod] at ha
 simp only [Int.natCast_ediv, Int.natCast_pow, Int.cast_ofNat_Int] at ha
 go_wp2
 go_ret
 refine ⟨m0J ?_, hfr⟩
 rw [← HB.out]
 simp
end
section
open Go.RowKit Go.Mv Mvp
attribute [local irreducible] a0y lw mix cw b0q b0r b0i beN b0x a0Q
end
section
open Go.RowKit Go.Mv Mvp
attribute [local irreducible] a0y lw mix cw b0q b0r b0i beN b0x a0Q
end
section
open Go.RowKit Go.Mv Mvp
attribute [local irreducible] a0y lw mix b0q b0r b0i beN b0x a0Q
theorem a0B {P : Program} {fn : Func} {p : Tmp} {ty : TypeId} (h : fn.results = #[.cell p ty]) {tmps : Array Value} {w : World} {g : Nat} {L : List Value} {T : TypeId}
  (hp : tmps.getD p undef = .pointer (some ⟨g, 0, none⟩)) (hg : Has w g L T) {d : TypeDesc} (hu : P.underlying ty = some d) (hd : (match d with | .struct _ | .array _ _ => true | _ => false) = true) (hi : (P.info? ty).map (·.size) = some L.length) :
  (results fn tmps).run P w = .ok (.agg L.toArray) w := by
 obtain ⟨lo, hi', hh, -⟩ := hg
 exact results_cell_row h tmps w g T L.toArray _ _ hp hh hu hd (by simpa using hi)
attribute [local irreducible] cw
end
end Go.Proofs.YtemcankmggmgoaaGreat
namespace Go.Mv
open Go.RowKit
variable {P : Program}
theorem St.keep1 {S : Nat → Prop} {w0 w w' : World} {bl : List (Nat × List Value × TypeId)} {g : Nat} (h : St S w0 w bl) (hf : Fr (One g) w w') (hg : w0.heap.size ≤ g ∨ S g) (hne : ∀ x ∈ bl, x.1 ≠ g) : St S w0 w' bl := by
 refine ⟨?_, h.own, fun x hx => (h.has x hx).keep hf (hne x hx), h.ne⟩
 refine h.fr.trans hf fun i hi e => ?_
 have e2 : i = g := e
 subst e2
 rcases hg with hg | hg
 ·omega
 ·exact hg
section
variable {w w0 : World} {ops : Array Oper} {rest : List Oper} {o : Oper} {a : Act} {Q : Exit → Act → World → Prop} {S : Nat → Prop} {bl : List (Nat × List Value × TypeId)}
theorem d0v (hst : St S w0 w bl) (i : Nat) {g : Nat} {L : List Value} {T : TypeId} (hb : bl[i]? = some (g, L, T)) {ty : TypeId} {x y : Operand} (hgd : o.guard = none) (ho : o.op = .store ty x y) (hx : a.eval x = .pointer (some ⟨g, 0, none⟩)) {cs : List Value} (hy : a.eval y = .agg cs.toArray)
  (hn : cs.length = L.length) (hi : (P.info? ty).map (·.size) = some cs.length) (h1 : ∀ v ∈ cs, v.oneCell' = true)
  (h : ∀ w', St S w0 w' (bl.set i (g, cs, T)) → Fr (One g) w w' → wpList P ops Q rest (a.put o.dst undef) w') : wpList P ops Q (o :: rest) a w :=
 c0Q hgd ho hx hy (hst.at i hb) ap13 hi h1 fun w' hg hf _ => h w' (hst.put i hb hf (by rwa [c0s _ _ hn] at hg)) hf
theorem c0h (hst : St S w0 w bl) {e : TypeId} (hgd : o.guard = none) (ho : o.op = .alloc e) {z : Value} (hi : (P.info? e).map (·.zero) = some (some z)) (L : List Value) (hL : z.cells.toList = L)
  (h : ∀ g w', St S w0 w' (bl ++ [(g, L, e)]) → Fr Nob w w' → w.heap.size ≤ g → wpList P ops Q rest (a.put o.dst (.pointer (some ⟨g, 0, none⟩))) w') : wpList P ops Q (o :: rest) a w :=
 e0e hgd ho hi L hL fun w' hg hf _ => h _ w' (hst.new hf hg (Nat.le_refl _)) hf (Nat.le_refl _)
theorem i0S (hst : St S w0 w bl) {e : TypeId} {x : Operand} (hgd : o.guard = none) (ho : o.op = .box e x) {v : Value} (hx : a.eval x = v) (L : List Value) (hL : v.cells.toList = L)
  (h : ∀ g w', St S w0 w' (bl ++ [(g, L, e)]) → Fr Nob w w' → wpList P ops Q rest (a.put o.dst (.pointer (some ⟨g, 0, none⟩))) w') : wpList P ops Q (o :: rest) a w :=
 j0V hgd ho hx L hL fun w' hg hf _ => h _ w' (hst.new hf hg (Nat.le_refl _)) hf
theorem r0U {ty : TypeId} {x : Operand} (hgd : o.guard = none) (ho : o.op = .load ty x) {d : TypeDesc} (hu : P.underlying ty = some d) (hd : d.isRow = true) {g p : Nat} (hx : a.eval x = .pointer (some ⟨g, p, none⟩))
  {L : List Value} {T : TypeId} (hg : Has w g L T) (cs : List Value) (hcs : (L.drop p).take cs.length = cs) (hi : (P.info? ty).map (·.size) = some cs.length)
  (h : wpList P ops Q rest (a.put o.dst (.agg cs.toArray)) w) : wpList P ops Q (o :: rest) a w :=
 wpList_load_mid hgd ty x ho g p hx cs d (hg.range p cs hcs) hu hd hi h
theorem m0L (hst : St S w0 w bl) (i : Nat) {g : Nat} {L : List Value} {T : TypeId} (hb : bl[i]? = some (g, L, T)) {ty : TypeId} {x : Operand} (hw : Region.wanted o (yielded ops a.tmps) = true) (ho : o.op = .load ty x) {d : TypeDesc} (hu : P.underlying ty = some d) (hd : d.isRow = true) (hx : a.eval x = .pointer (some ⟨g, 0, none⟩))
  (hi : (P.info? ty).map (·.size) = some L.length) (h : wpList P ops Q rest (a.put o.dst (.agg L.toArray)) w) : wpList P ops Q (o :: rest) a w := by
 unfold wpList
 rw [if_pos hw]
 exact .inl (wp_load_mid ty x ho g 0 hx L _ ((hst.at i hb).range 0 L dZl) hu hd hi h)
end
end Go.Mv
namespace Go.Proofs.YtemcankmggmgoaaGreat
open Go.RowKit Go.Mv Mvp
attribute [local irreducible] b0k b0u toB a0z a0E b0s a0H c0n b0l a0F c0z
def tkV (g : Nat) : Value := .agg #[.pointer (some ⟨g, 0, none⟩)]
theorem r0V (g : Nat) : Tryz.prog.built 128 [(0, .pointer (some ⟨g, 0, none⟩))] = some ([Value.pointer (some ⟨g, 0, none⟩)]).toArray := by kernel_rfl
theorem y0K : (Tryz.prog.info? 128).map (·.zero) = some (some (.agg #[.pointer none])) := by kernel_rfl
theorem w0P : (Tryz.prog.info? 132).map (·.zero) = some (some (.agg #[.string ByteArray.empty, .slice none 0 0])) := by kernel_rfl
theorem w0Q (g : Nat) : ∀ v ∈ [Value.pointer (some ⟨g, 0, none⟩)], v.oneCell' = true := by
 intro v hv
 simp only [List.mem_singleton] at hv
 subst hv; rfl
theorem w0R (s : ByteArray) (a : Option Addr) (n c : Nat) : ∀ v ∈ [Value.string s, Value.slice a n c], v.oneCell' = true := by
 intro v hv
 simp only [List.mem_cons, List.not_mem_nil, or_false] at hv
 rcases hv with rfl | rfl <;> rfl
theorem LogAt.mono {w : World} {base base' g : Nat} {l : List UInt8} (h : LogAt w base g l) (hb : base' ≤ base) : LogAt w base' g l := by
 obtain ⟨v, h1, h2⟩ := h; exact ⟨v, h1, h2.mono hb⟩
theorem LogAt.has {w : World} {base g : Nat} {l : List UInt8} (h : LogAt w base g l) : ∃ v, Has w g [v] 228 := by
 obtain ⟨v, h1, _⟩ := h; exact ⟨v, h1⟩
theorem LogAt.off {w w' : World} {base g g' : Nat} {l : List UInt8} (h : LogAt w base g l) (hf : Fr (One g') w w') {L : List Value} {T : TypeId} (hg : Has w g' L T) (hT : 5 ≠ T) (hT2 : 228 ≠ T) : LogAt w' base g l := by
 refine h.other hf ?_ hg hT
 rintro rfl
 obtain ⟨v, h1, _⟩ := h
 obtain ⟨_, _, h1, _⟩ := h1
 obtain ⟨_, _, h2, _⟩ := hg
 rw [h1] at h2
 simp only [Option.some.injEq, Obj.cells.injEq] at h2
 exact hT2 h2.2.1
theorem LogAt.notIn {w : World} {base g : Nat} {l : List UInt8} (h : LogAt w base g l) {bl : List (Nat × List Value × TypeId)} (hh : ∀ x ∈ bl, Has w x.1 x.2.1 x.2.2) (hT : ∀ x ∈ bl, 228 ≠ x.2.2) : ∀ x ∈ bl, x.1 ≠ g := by
 rintro x hx rfl
 obtain ⟨v, h1, _⟩ := h
 obtain ⟨_, _, h1, _⟩ := h1
 obtain ⟨_, _, h2, _⟩ := hh x hx
 rw [h1] at h2
 simp only [Option.some.injEq, Obj.cells.injEq] at h2
 exact hT x hx h2.2.1
theorem h0h (s : ByteArray) (w : World) (hs : s.size ≤ 1000000) :
  Calls Tryz.prog 89 #[.string s] w fun e w' => ∃ g, e = .returned (tkV g) ∧ w.heap.size ≤ g ∧ LogAt w' w.heap.size g (y0k s.data.toList) ∧ Fr Nob w w' := by
 have HS := qH hs
 clear hs
 have st0 := St.start Nob w
 go_enter Tryz.func89, Tryz.ntmps89
 go_wp2_with (with_reducible refine wSk 2 ?_)
 refine a0a st0 rfl rfl y0K [.pointer none] rfl ?_
 intro g2 w1 st1
 clear st0
 have HB := qH st1.fr.size
 go_wp2_with fail
 refine (n0M s _ HS.out).mono ?_
 rintro e' w2 ⟨g, rfl, hle, hl, hf⟩
 have st2 := st1.keep hf
 have HL := qH (hl.mono HB.out)
 have HG := qH (Nat.le_trans HB.out hle)
 clear hle hl hf st1 HB
 go_wp2_with (with_reducible refine wSk 5 ?_)
 refine b0c rfl rfl _ (r0V g) ?_
 go_wp2_with (with_reducible refine wSn ?_)
 refine d0v st2 0 rfl rfl rfl rfl rfl rfl ap11 (w0Q g) ?_
 intro w3 st3 hf3
 have HL3 := qH (HL.out.off hf3 (st2.at 0 rfl) ap12 ap12)
 clear st2 hf3 HL
 have hr := st3.at 0 rfl
 have hfr := st3.fr
 clear st3
 go_wp2_with fail
 exact bodyPost_ret (a0B rfl rfl hr Tryz.underlying128 rfl ap11) rfl ⟨g, rfl, HG.out, HL3.out, hfr⟩
def sdC (xs : List (ByteArray × Value)) : List Value := xs.flatMap fun x => [.string x.1, x.2]
theorem p0z : ∀ (xs : List (ByteArray × Value)) (j : Nat) (hj : j < xs.length), ((sdC xs).drop (j * 2)).take 2 = [.string (xs[j]'hj).1, (xs[j]'hj).2]
 | x :: xs, 0, _ => rfl
 | x :: xs, j + 1, hj => by
  have h := p0z xs j (by simpa using hj)
  simp only [List.getElem_cons_succ]
  rw [← h]
  have e : (j + 1) * 2 = j * 2 + 2 := by omega
  rw [e]
  rfl
def sdZ (xs : List (ByteArray × Value)) (ls : List (List UInt8)) : List (List UInt8 × List UInt8) := (xs.map fun x => x.1.data.toList).zip ls
theorem i0j (x : List UInt8 × List UInt8) : ∀ (l : List (List UInt8 × List UInt8)) (st : List UInt8), c0B st (l ++ [x]) = c0z w0z [c0B st l, x.1, x.2]
 | [], _ => rfl
 | y :: l, st => by simp only [List.cons_append, c0B]; exact i0j x l _
theorem r0W (xs : List (ByteArray × Value)) (ls : List (List UInt8)) (j : Nat) (hj : j < xs.length) (l : List UInt8) (hl : ls[j]? = some l) : (sdZ xs ls).take (j + 1) = (sdZ xs ls).take j ++ [((xs[j]'hj).1.data.toList, l)] := by
 obtain ⟨h2, rfl⟩ := List.getElem?_eq_some_iff.1 hl
 rw [List.take_succ_eq_append_getElem (by simp [sdZ]; omega)]
 simp [sdZ]
theorem k0d : (Tryz.prog.info? 132).map (·.size) = some 2 := by kernel_rfl
attribute [local irreducible] c0B sdC sdZ
theorem i0T (wB : World) (base g : Nat) (st : List UInt8) (gl c : Nat) (xs : List (ByteArray × Value)) (ls : List (List UInt8)) (w : World) (hg : wB.heap.size ≤ g) (hB : Fr Nob wB w) (hbase : base ≤ w.heap.size) (hl : LogAt w base g st) (hc : Has w gl (sdC xs) 132)
  (hn : xs.length ≤ 1000) (hs : ∀ x ∈ xs, x.1.size ≤ 1000000) (hp : Parts wB (xs.map (·.2)) ls) :
  Calls Tryz.prog 90 #[tkV g, .slice (some ⟨gl, 0, none⟩) xs.length c] w fun e w' => e = .returned (tkV g) ∧ LogAt w' base g (c0B st (sdZ xs ls)) ∧ Fr (One g) w w' := by
 have HNE := qH (hl.notIn (bl := [(gl, sdC xs, 132)]) (by intro x hx; simp only [List.mem_singleton] at hx; subst hx; exact hc) (by intro x hx; simp only [List.mem_singleton] at hx; subst hx; dsimp only; decide) _ List.mem_cons_self)
 have HLN := qH (show xs.length = ls.length by rw [← hp.len, List.length_map])
 have HG := qH hg
 have HB := qH hB
 have HBS := qH hbase
 have HL := qH hl
 have HC := qH hc
 have HS := qH hs
 have HP := qH hp
 clear hg hB hbase hl hc hs hp
 have st0 := St.start (One g) w
 go_enter Tryz.func90, Tryz.ntmps90
 go_wp2_with (with_reducible refine wSk 2 ?_)
 refine i0S st0 rfl rfl rfl [.pointer (some ⟨g, 0, none⟩)] rfl ?_
 intro g2 w1 st1 hf1
 have HL1 := qH (HL.out.still hf1)
 clear st0 hf1 HL
 go_wp2_with (with_reducible refine wSk 4 ?_)
 refine c0h st1 rfl rfl y0K [.pointer none] rfl ?_
 intro g4 w2 st2 hf2 hs2
 have HL2 := qH (HL1.out.still hf2)
 clear st1 hf2 hs2 HL1
 have ST := qH st2
 clear st2
 go_wp2_with fail
 go_loopw [9] (fun i wr => ∃ j : Nat, j ≤ xs.length ∧ i = .int .i64 (j : Int) ∧ LogAt wr base g (c0B st ((sdZ xs ls).take j)) ∧ St (One g) w wr [(g2, [.pointer (some ⟨g, 0, none⟩)], 128), (g4, [.pointer none], 128)]) (fun i _ => xs.length - (intOf i).toNat)
 case atStart => exact ⟨0, Nat.zero_le _, rfl, by rw [List.take_zero]; unfold c0B; exact HL2.out, ST.out⟩
 case round =>
  clear HL2 ST
  obtain ⟨j, hj, rfl, hlj, hst⟩ := hrel
  by_cases hlt : j < xs.length
  ·have hltI : (j : Int) < (xs.length : Int) := by omega
   have hcr : Has wr gl (sdC xs) 132 := HC.out.keep hst.fr HNE.out
   have hget := p0z xs j hlt
   have hmem : xs[j] ∈ xs := List.getElem_mem hlt
   obtain ⟨l, hll, hpl⟩ := HP.out.get j (xs[j]).2 (by rw [List.getElem?_map, List.getElem?_eq_getElem hlt]; rfl)
   have HT := qH (r0W xs ls j hlt l hll)
   have HSZ := qH (HS.out _ hmem)
   clear hmem hll
   generalize xs[j] = x at *
   obtain ⟨s, v⟩ := x
   obtain ⟨a, n, cc, hv, hcc, hn, hrd, hold⟩ := hpl
   have hv2 : v = .slice a n cc := hv
   subst hv2
   have HPL := qH (show PartIs wB (.slice a n cc) l from ⟨a, n, cc, rfl, hcc, hn, hrd, hold⟩)
   have HCR := qH hcr
   have HGET := qH hget
   have HLJ := qH hlj
   clear hcr hget hlj hv hcc hn hrd hold
   go_wp2_with (with_reducible refine wSk 12 ?_)
   refine r0U rfl rfl Tryz.underlying132 rfl rfl HCR.out [.string s, .slice a n cc] HGET.out k0d ?_
   go_wp2_with (with_reducible refine wSk 6 ?_)
   refine c0h hst rfl rfl w0P [.string ByteArray.empty, .slice none 0 0] rfl ?_
   intro g6 w3 st3 hf3 hs3
   have HL3 := qH (HLJ.out.still hf3)
   clear hf3 hs3 HLJ hst HCR HGET
   go_wp2_with (with_reducible refine wSn ?_)
   refine d0v st3 2 rfl rfl rfl rfl rfl rfl k0d (w0R _ _ _ _) ?_
   intro w4 st4 hf4
   have HL4 := qH (HL3.out.off hf4 (st3.at 2 rfl) ap12 ap12)
   clear st3 hf4 HL3
   have hc0 := (st4.at 0 rfl).cell (i := 0) rfl
   have hc1 := (st4.at 2 rfl).cell (i := 0) rfl
   have hc2 := (st4.at 2 rfl).cell (i := 1) rfl
   have HPL4 := qH (HPL.out.still (HB.out.new st4.fr HG.out))
   have ST4 := qH st4
   clear st4 HPL
   go_wp2_with fail
   refine (u0G base g _ s a n cc l _ HSZ.out HL4.out HPL4.out (Nat.le_trans HBS.out ST4.out.fr.size)).mono ?_
   rintro e' w5 ⟨rfl, hl5, hf5⟩
   have st5 := (ST4.out.keep1 hf5 (.inr rfl) (HL4.out.notIn ST4.out.has (by intro x hx; simp only [List.mem_cons, List.not_mem_nil, or_false, List.set_cons_succ, List.set_cons_zero, List.cons_append, List.nil_append] at hx; rcases hx with rfl | rfl | rfl <;> (dsimp only; decide)))).less (bl' := [(g2, [.pointer (some ⟨g, 0, none⟩)], 128), (g4, [.pointer none], 128)]) ap14
   have HL5 := qH hl5
   have ST5 := qH st5
   clear hl5 hf5 st5 ST4 HL4 HPL4 hc0 hc1 hc2
   go_wp2_with fail
   go_roundw
   case rel => exact ⟨j + 1, by omega, by go_num, by rw [HT.out, i0j]; exact HL5.out, ST5.out⟩
   case measure => simp [intOf]; omega
  ·have hge : ¬ ((j : Int) < (xs.length : Int)) := by omega
   have hjl : (sdZ xs ls).take j = sdZ xs ls := List.take_of_length_le (by unfold sdZ; simp; omega)
   rw [hjl] at hlj
   have HLJ := qH hlj
   clear hlj hjl
   go_wp2_with (with_reducible refine wSk 21 ?_)
   refine a0u hst 0 rfl rfl rfl Tryz.underlying128 rfl rfl ap11 ?_
   go_wp2_with (with_reducible refine wSn ?_)
   refine d0v hst 1 rfl rfl rfl rfl rfl rfl ap11 (w0Q g) ?_
   intro w3 st3 hf3
   have HL3 := qH (HLJ.out.off hf3 (hst.at 1 rfl) ap12 ap12)
   have hr := st3.at 1 rfl
   have hfr := st3.fr
   clear hst hf3 HLJ st3
   go_wp2_with fail
   exact bodyPost_ret (a0B rfl rfl hr Tryz.underlying128 rfl ap11) rfl ⟨rfl, HL3.out, hfr⟩
end Go.Proofs.YtemcankmggmgoaaGreat
namespace Go.Mv
open Go.RowKit
section
variable {P : Program} {ops : Array Oper} {md : Region.Mode} {Q : Exit → Act → World → Prop} {S S2 : World → Prop}
def i0U (md : Region.Mode) (ops : Array Oper) (n : Nat) : Bool :=
 (List.range ops.size).all fun t => decide (t ≤ n) || (List.range t).any fun j => decide (n ≤ j) && Region.waitsFor md ops t j
theorem i0k {n : Nat} {listed : Array Bool} (hs : Region.sinkB md ops n = true) (hb : i0U md ops n = true) (inv : HeadInv md ops n listed) {i : Nat} (hi : i < n) (hun : listed.getD i true = false) :
  ∀ t, n ≤ t → t ∉ Region.ready md ops listed := by
 have key : ∀ (d i : Nat), n - i = d → i < n → listed.getD i true = false → n ∉ Region.ready md ops listed := by
  intro d
  induction d using Nat.strongRecOn with
  | _ d ih =>
   intro i hd hi hun hr
   obtain ⟨-, on, hon, hall⟩ := mem_ready.1 hr
   obtain ⟨j, hj, hj2⟩ := List.any_eq_true.1 (List.all_eq_true.1 hs i (List.mem_range.2 hi))
   simp only [Bool.and_eq_true, decide_eq_true_eq] at hj2
   obtain ⟨oj, hoj, e, he, hbi, heon⟩ := Region.waitsFor_spec hj2.2
   have hjn := List.mem_range.1 hj
   rcases Nat.lt_or_ge j n with h | h
   ·cases hl : listed.getD j false with
    | true =>
     have h2 := inv.closed j oj hoj hl e he hbi
     rw [heon, getD_both hun] at h2
     cases h2
    | false =>
     have hjs : j < listed.size := by
      have := (Array.getElem?_eq_some_iff.1 hoj).1
      rw [inv.size]; exact this
     exact ih (n - j) ap13 j rfl h (getD_in hjs hl) hr
   ·have : j = n := by omega
    subst this
    have : oj = on := Option.some.inj (hoj.symm.trans hon)
    subst this
    have h2 := hall e he hbi
    rw [heon, getD_both hun] at h2
    cases h2
 intro t ht hr
 rcases Nat.eq_or_lt_of_le ht with rfl | h
 ·exact key _ i rfl hi hun hr
 ·obtain ⟨-, ot, hot, hall⟩ := mem_ready.1 hr
  have htl := (Array.getElem?_eq_some_iff.1 hot).1
  have h1 := List.all_eq_true.1 hb t (List.mem_range.2 htl)
  simp only [Bool.or_eq_true, decide_eq_true_eq] at h1
  rcases h1 with h1 | h1
  ·omega
  ·obtain ⟨j, hj, hj2⟩ := List.any_eq_true.1 h1
   simp only [Bool.and_eq_true, decide_eq_true_eq] at hj2
   obtain ⟨o', ho', e, he, hbi, heon⟩ := Region.waitsFor_spec hj2.2
   have : o' = ot := Option.some.inj (ho'.symm.trans hot)
   subst this
   have h2 := hall e he hbi
   have hjt := List.mem_range.1 hj
   rw [heon, getD_both (inv.tail j hj2.1 ap13)] at h2
   cases h2
def k0e (P : Program) (md : Region.Mode) (ops : Array Oper) (Q : Exit → Act → World → Prop) (S : World → Prop) (n : Nat) (B : Array Bool → Act → World → Prop) : Nat → Array Bool → Act → World → Prop
 | 0, listed, a, w => Region.ready md ops listed = [n] ∧ B listed a w
 | f + 1, listed, a, w =>
  Region.ready md ops listed ≠ [] ∧ ∀ i ∈ Region.ready md ops listed, i < n ∧ wpOp P ops Q i (fun a' w' => S w' ∧ k0e P md ops Q S n B f (listed.setIfInBounds i true) a' w') a w
theorem i0l {n g : Nat} {B : Array Bool → Act → World → Prop} (hB : ∀ listed a w, Region.ready md ops listed = [n] → B listed a w → wpAny P md ops Q g listed a w) :
  ∀ (f : Nat) (listed : Array Bool) (a : Act) (w : World), k0e P md ops Q S n B f listed a w → wpAny P md ops Q (f + g) listed a w
 | 0, listed, a, w, h => by rw [Nat.zero_add]; exact hB _ _ _ h.1 h.2
 | f + 1, listed, a, w, h => by
  rw [show f + 1 + g = (f + g) + 1 by omega]
  exact ⟨fun h0 => absurd h0 h.1, fun i hi => wpOp_mono (fun a' w' h' => i0l hB f _ a' w' h'.2) (h.2 i hi).2⟩
theorem k0f {n i : Nat} {oi : Oper} {v : Value} {B : Array Bool → Act → World → Prop} (hi : ops[i]? = some oi) (hsel : ∀ (j : Nat) (o : Oper) cs b, ops[j]? = some o → o.op ≠ .select cs b)
  (hQ : ∀ c a w, Q (.panic c) (a.put oi.dst v) w → Q (.panic c) a w) (hs : Region.sinkB md ops n = true) (hb : i0U md ops n = true) (hin : i < n) :
  ∀ (f : Nat) (listed : Array Bool) (a : Act) (w : World), HeadInv md ops n listed →
   (∀ j oj, ops[j]? = some oj → j ≠ i → listed.getD j true = false → (∀ e ∈ oj.after, Region.binds md e = true → e.on ≠ i) → oi.apart ops oj = true) →
   i ∈ Region.ready md ops listed → YieldsIf P ops S oi v a → S w →
   k0e P md ops Q S n B f (listed.setIfInBounds i true) (a.put oi.dst v) w → k0e P md ops Q S n B (f + 1) listed a w := by
 intro f
 induction f with
 | zero =>
  intro listed a w inv _ hr hy hS H
  have hun := (mem_ready.1 hr).1
  refine ⟨fun h => (by rw [h] at hr; cases hr), fun j hj => ?_⟩
  have hjn : j < n := Nat.lt_of_not_le fun h => i0k hs hb inv hin hun j h hj
  refine ⟨hjn, ?_⟩
  by_cases hji : j = i
  ·subst hji; exact hy.wpOp hi hS ⟨hS, H⟩
  ·have h2 := ready_mono hj hji
   rw [H.1] at h2
   simp only [List.mem_singleton] at h2
   omega
 | succ f ih =>
  intro listed a w inv hfree hr hy hS H
  have hun := (mem_ready.1 hr).1
  refine ⟨fun h => (by rw [h] at hr; cases hr), fun j hj => ?_⟩
  have hjn : j < n := Nat.lt_of_not_le fun h => i0k hs hb inv hin hun j h hj
  refine ⟨hjn, ?_⟩
  by_cases hji : j = i
  ·subst hji; exact hy.wpOp hi hS ⟨hS, H⟩
  ·have h1 := (H.2 j (ready_mono hj hji)).2
   obtain ⟨hjun, oj, hoj, hall⟩ := mem_ready.1 hj
   have hnot : ∀ e ∈ oj.after, Region.binds md e = true → e.on ≠ i := fun e he hb heq => by
    have h1 := hall e he hb
    rw [heq, getD_both hun] at h1
    cases h1
   have h2 := wpOp_putIf hoj (hfree j oj hoj hji hjun hnot) (fun cs b => hsel i oi cs b hi) (fun cs b => hsel j oj cs b hoj) hQ hy h1
   have hfree' : ∀ k ok, ops[k]? = some ok → k ≠ i → (listed.setIfInBounds j true).getD k true = false →
     (∀ e ∈ ok.after, Region.binds md e = true → e.on ≠ i) → oi.apart ops ok = true := fun k ok hk hki hun hno => by
    refine hfree k ok hk hki ?_ hno
    by_cases hjk : j = k
    ·subst hjk; exact hjun
    ·rw [getD_set_ne true hjk] at hun; exact hun
   refine wpOp_mono (fun a' w' h3 => ⟨h3.2.1, ih (listed.setIfInBounds j true) a' w' (inv.set hj hjn) hfree' (ready_mono hr (Ne.symm hji)) h3.1 h3.2.1 ?_⟩) h2
   rw [Array.setIfInBounds_comm _ _ hji]
   exact h3.2.2
def f0A (P : Program) (ops : Array Oper) (Q : Exit → Act → World → Prop) (S : World → Prop) (B : Act → World → Prop) : List (Nat × Bool) → Act → World → Prop
 | [], a, w => B a w
 | (i, true) :: r, a, w => ∃ o v, ops[i]? = some o ∧ YieldsIf P ops S o v a ∧ f0A P ops Q S B r (a.put o.dst v) w
 | (i, false) :: r, a, w => ∃ o, ops[i]? = some o ∧ o.guard = none ∧ o.wp P a w (fun a' w' => S w' ∧ f0A P ops Q S B r a' w') Q
def g0p (P : Program) (ops : Array Oper) (Q : Exit → Act → World → Prop) (S : World → Prop) : List Nat → Act → World → Prop
 | [], a, w => Q .normal a w
 | i :: r, a, w => ∃ o v, ops[i]? = some o ∧ YieldsIf P ops S o v a ∧ g0p P ops Q S r (a.put o.dst v) w
def i0m (md : Region.Mode) (ops : Array Oper) : List Nat → Array Bool → Bool
 | [], listed => (Region.ready md ops listed).isEmpty
 | i :: r, listed => (Region.ready md ops listed).contains i && Region.free md ops listed i && i0m md ops r (listed.setIfInBounds i true)
def h0i (md : Region.Mode) (ops : Array Oper) (n : Nat) (s2 : List Nat) : List (Nat × Bool) → Array Bool → Bool
 | [], listed => decide (Region.ready md ops listed = [n]) && i0m md ops s2 (listed.setIfInBounds n true)
 | (i, true) :: r, listed => decide (i < n) && (Region.ready md ops listed).contains i && Region.free md ops listed i && h0i md ops n s2 r (listed.setIfInBounds i true)
 | (i, false) :: r, listed => decide (i < n) && decide (Region.ready md ops listed = [i]) && h0i md ops n s2 r (listed.setIfInBounds i true)
theorem f0a (hsel : Region.noSelect ops = true) (hQ : ∀ c (d : Option Tmp) v a w, Q (.panic c) (Act.put a d v) w → Q (.panic c) a w) :
  ∀ (r : List Nat) (listed : Array Bool) (a : Act) (w : World), i0m md ops r listed = true → S w → g0p P ops Q S r a w → wpAnyH P md ops Q S r.length listed a w
 | [], listed, a, w, hB, _, h => wpAnyH_done (by simpa [i0m] using hB) h 0
 | i :: r, listed, a, w, hB, hS, h => by
  obtain ⟨o, v, ho, hy, hK⟩ := h
  simp only [i0m, Bool.and_eq_true] at hB
  obtain ⟨⟨hr, hf⟩, hB'⟩ := hB
  exact wpAnyH_take ho hsel hf hr (fun c a w => hQ c o.dst v a w) hy hS (f0a hsel hQ r _ _ w hB' hS hK)
theorem e0i {n : Nat} {s2 : List Nat} {B : Act → World → Prop} (hsel : Region.noSelect ops = true) (hs : Region.sinkB md ops n = true) (hb : i0U md ops n = true)
  (hQ : ∀ c (d : Option Tmp) v a w, Q (.panic c) (Act.put a d v) w → Q (.panic c) a w) :
  ∀ (s : List (Nat × Bool)) (listed : Array Bool) (a : Act) (w : World), HeadInv md ops n listed → h0i md ops n s2 s listed = true → S w → f0A P ops Q S B s a w →
   k0e P md ops Q S n (fun l a w => i0m md ops s2 (l.setIfInBounds n true) = true ∧ B a w) s.length listed a w
 | [], listed, a, w, _, hB, _, h => by
  simp only [h0i, Bool.and_eq_true, decide_eq_true_eq] at hB
  exact ⟨hB.1, hB.2, h⟩
 | (i, true) :: r, listed, a, w, inv, hB, hS, h => by
  obtain ⟨o, v, ho, hy, hK⟩ := h
  simp only [h0i, Bool.and_eq_true, decide_eq_true_eq] at hB
  obtain ⟨⟨⟨hin, hr⟩, hf⟩, hB'⟩ := hB
  have hr' : i ∈ Region.ready md ops listed := by simpa using hr
  exact k0f ho (Region.noSelect_spec hsel) (fun c a w => hQ c o.dst v a w) hs hb hin r.length listed a w inv (Region.free_spec ho hf) hr' hy hS
   (e0i hsel hs hb hQ r _ _ w (inv.set hr' hin) hB' hS hK)
 | (i, false) :: r, listed, a, w, inv, hB, hS, h => by
  obtain ⟨o, ho, hg, hK⟩ := h
  simp only [h0i, Bool.and_eq_true, decide_eq_true_eq] at hB
  obtain ⟨⟨hin, hr⟩, hB'⟩ := hB
  have hr' : i ∈ Region.ready md ops listed := by rw [hr]; simp
  refine ⟨by rw [hr]; simp, fun j hj => ?_⟩
  rw [hr] at hj
  have hj' : j = i := by simpa using hj
  subst hj'
  refine ⟨hin, ?_⟩
  unfold wpOp
  simp only [ho]
  rw [if_pos (by simp [Region.wanted, hg])]
  exact .inl (Oper.wp_mono (fun a' w' h' => ⟨h'.1, e0i hsel hs hb hQ r _ a' w' (inv.set hr' hin) hB' h'.1 h'.2⟩) hK)
def p0A (ops : Array Oper) (n : Nat) (s : List (Nat × Bool)) (s2 : List Nat) : Bool :=
 Region.noSelect ops && decide (n < ops.size) && decide (s.length = n) && decide (s2.length = ops.size - n - 1) && Region.sinkB .any ops n && i0U .any ops n && h0i .any ops n s2 s (Array.replicate ops.size false)
theorem h0O {id : Nat} {a : Act} {w : World} {l : List Oper} (S S2 : World → Prop) (n : Nat) (s : List (Nat × Bool)) (s2 : List Nat) (hm : P.follows .mixedOrders = true) (hB : p0A l.toArray n s s2 = true)
  (hS : S w.drew) (hQ : ∀ c (d : Option Tmp) v a w, Q (.panic c) (Act.put a d v) w → Q (.panic c) a w)
  (h : f0A P l.toArray Q S (fun a w => ∃ o, l[n]? = some o ∧ o.guard = none ∧ o.wp P a w (fun a' w' => S2 w' ∧ g0p P l.toArray Q S2 s2 a' w') Q) s a w.drew) : (Code.region id l.toArray true).wp P Q a w := by
 simp only [p0A, Bool.and_eq_true, decide_eq_true_eq] at hB
 obtain ⟨⟨⟨⟨⟨⟨hsel, hn⟩, hlen⟩, hlen2⟩, hs⟩, hb⟩, hseq⟩ := hB
 have inv0 : HeadInv .any l.toArray n (Array.replicate l.toArray.size false) :=
  ⟨by simp, fun j oj _ hl => (by rw [getD_replicate_false] at hl; cases hl), fun t _ ht => getD_in (by simpa using ht) (getD_replicate_false _ _)⟩
 have H := e0i (md := .any) hsel hs hb hQ s _ a w.drew inv0 hseq hS h
 refine wp_region_any hm ?_
 have := i0l (g := s2.length + 1) (fun listed a w hr hBB => by
  obtain ⟨hok, o, ho, hg, hK⟩ := hBB
  refine ⟨fun h0 => (by rw [hr] at h0; cases h0), fun i hi => ?_⟩
  rw [hr] at hi
  have hi' : i = n := by simpa using hi
  subst hi'
  unfold wpOp
  have ho' : l.toArray[i]? = some o := by simpa using ho
  simp only [ho']
  rw [if_pos (by simp [Region.wanted, hg])]
  exact .inl (Oper.wp_mono (fun a' w' h' => wpAny_of_held _ _ _ _ (f0a hsel hQ s2 _ a' w' hok h'.1 h'.2)) hK)) _ _ _ _ H
 rw [hlen, hlen2, show n + (l.toArray.size - n - 1 + 1) = l.toArray.size by omega] at this
 exact this
variable {l : List Oper} {i : Nat} {r : List (Nat × Bool)} {r2 : List Nat} {B : Act → World → Prop} {a : Act} {w : World} {o : Oper}
theorem d0Z (ho : l[i]? = some o) (hg : o.guard = none) {v : Value} (hv : ∀ wx, S wx → (execOp a.eval o).run P wx = .ok (.value v) wx) (h : f0A P l.toArray Q S B r (a.put o.dst v) w) : f0A P l.toArray Q S B ((i, true) :: r) a w :=
 ⟨o, v, by simpa using ho, .inl ⟨by simp [Region.wanted, hg], hv⟩, h⟩
theorem r0X (ho : l[i]? = some o) (hg : o.guard = none) {ty : TypeId} {x : Operand} (hop : o.op = .load ty x) {g p : Nat} (hx : a.eval x = .pointer (some ⟨g, p, none⟩)) (cs : List Value) (hS : ∀ wx, S wx → wx.rangeAt g p cs)
  {d : TypeDesc} (hu : P.underlying ty = some d) (hd : d.isRow = true) (hi : (P.info? ty).map (·.size) = some cs.length) (h : f0A P l.toArray Q S B r (a.put o.dst (.agg cs.toArray)) w) : f0A P l.toArray Q S B ((i, true) :: r) a w :=
 ⟨o, _, by simpa using ho, yieldsIf_load_mid (by simp [Region.wanted, hg]) ty x hop g p hx cs d hS hu hd hi, h⟩
theorem r0Y (ho : l[i]? = some o) (hg : o.guard = none) (h : o.wp P a w (fun a' w' => S2 w' ∧ g0p P l.toArray Q S2 r2 a' w') Q) :
  f0A P l.toArray Q S (fun a w => ∃ o, l[i]? = some o ∧ o.guard = none ∧ o.wp P a w (fun a' w' => S2 w' ∧ g0p P l.toArray Q S2 r2 a' w') Q) [] a w := ⟨o, ho, hg, h⟩
theorem e0A (ho : l[i]? = some o) (hg : o.guard = none) {v : Value} (hv : ∀ wx, S2 wx → (execOp a.eval o).run P wx = .ok (.value v) wx) (h : g0p P l.toArray Q S2 r2 (a.put o.dst v) w) : g0p P l.toArray Q S2 (i :: r2) a w :=
 ⟨o, v, by simpa using ho, .inl ⟨by simp [Region.wanted, hg], hv⟩, h⟩
theorem r0Z (h : Q .normal a w) : g0p P l.toArray Q S2 [] a w := h
end
end Go.Mv
theorem clL : (∀ (a : Go.Act) (d : Nat) (v : Go.Value), a.put (some d) v = { a with tmps := a.tmps.setIfInBounds d v }) ∧ (∀ (a : Go.Act) (v : Go.Value), a.put none v = a) ∧ (∀ (l : List Go.Value) (i : Nat) (x : Go.Value), l.toArray.setIfInBounds i x = (l.set i x).toArray) ∧ (∀ (x y : Go.Value) (l : List Go.Value), (x :: l).set 0 y = y :: l) ∧ (∀ (x y : Go.Value) (l : List Go.Value) (i : Nat), (x :: l).set (i + 1) y = x :: l.set i y) :=
 ⟨fun _ _ _ => rfl, fun _ _ => rfl, fun _ _ _ => by simp, fun _ _ _ => rfl, fun _ _ _ _ => rfl⟩
namespace Go.Proofs.YtemcankmggmgoaaGreat
open Go.RowKit Go.Mv Mvp
attribute [local irreducible] a0y lw mix cw b0q b0r b0i beN b0x a0Q a0A a0J
theorem _root_.ap8 {p : Prop} (h : p := by simp only [a0e]; kernel_rfl) : p := h
theorem l0B (gt V m n : Nat) (w : World) (ht : Has w gt (cw 6 V) 222) (hm : m < 18446744073709551616) (hn : n < B64 ^ 4) (hV : V + m * n < B64 ^ 6) (hVV : V < B64 ^ 6) :
  Calls Tryz.prog 190 #[.pointer (some ⟨gt, 0, none⟩), .int .u64 (m : Int), i4 n] w fun e w' => e = .returned (.tuple #[.int .u64 (lw (V + m * n) 4 : Nat), .int .u64 (lw (V + m * n) 5 : Nat)]) ∧ Has w' gt (cw 6 (mix (V + m * n) V 4)) 222 ∧ Fr (One gt) w w' := by
 have HM := qH hm
 have hlt := m0B V m n hn hV hVV
 have HS0 := qH hlt.1
 have HS1 := qH hlt.2.1
 have HS2 := qH hlt.2.2
 clear hlt hn hV hVV
 clear hm
 have st0 := St.one ht
 go_enter Tryz.func190, Tryz.ntmps190
 go_wp2_with (with_reducible refine wSk 5 ?_)
 refine a0q st0 rfl rfl rfl (cw 4 n) rfl ?_
 intro g5 w1 st1
 clear st0
 have c5 := (st1.at 0 rfl).cell (c0k 6 V 5 ap12)
 have c4 := (st1.at 0 rfl).cell (c0k 6 V 4 ap12)
 go_wp2_with fail
 refine wp_region_noPanic ?_
 refine h0O (fun wx => St (One gt) w wx [(gt, cw 6 V, 222), (g5, cw 4 n, 111)]) (fun wx => St (One gt) w wx [(gt, cw 6 (mix (V + m * n) V 4), 222), (g5, cw 4 n, 111)]) 7 [(0, true), (1, true), (2, true), (3, true), (4, true), (5, true), (6, true)] [8, 9, 10, 11, 12] ap11 ap11 st1.drew (fun _ _ _ _ _ h => h) ?_
 have hd1 := st1.drew
 refine d0Z (v := ?_) rfl rfl (fun wx hS => ?_) ?_
 rotate_left 1
 ·(clear hS; go_simp; with_reducible rfl)
 try simp only [clL]
 refine d0Z (v := ?_) rfl rfl (fun wx hS => ?_) ?_
 rotate_left 1
 ·(clear hS; go_simp; with_reducible rfl)
 try simp only [clL]
 refine r0X rfl rfl rfl rfl (cw 4 n) (fun wx hS => St.rangeL hS 1 rfl 0 _ dZl) Tryz.underlying111 rfl ap8 ?_
 try simp only [clL]
 refine d0Z (v := ?_) rfl rfl (fun wx hS => ?_) ?_
 rotate_left 1
 ·(clear hS; go_simp; with_reducible rfl)
 try simp only [clL]
 refine d0Z (v := ?_) rfl rfl (fun wx hS => ?_) ?_
 rotate_left 1
 ·(clear hS; go_simp; with_reducible rfl)
 try simp only [clL]
 refine d0Z (v := ?_) rfl rfl (fun wx hS => ?_) ?_
 rotate_left 1
 ·(clear hS; go_simp; with_reducible rfl)
 try simp only [clL]
 refine d0Z (v := ?_) rfl rfl (fun wx hS => ?_) ?_
 rotate_left 1
 ·(have hc := (St.at hS 0 rfl).cell (c0k 6 V 4 ap12); clear hS; go_simp; with_reducible rfl)
 try simp only [clL]
 refine r0Y rfl rfl ?_
 go_simp
 refine (m0E gt V m n (lw V 4) 222 _ (St.at hd1 0 rfl) HM.out (f0U V 4)).mono ?_
 rintro e' w2 ⟨rfl, hg2, hf2⟩
 have st2 : St (One gt) w w2 [(gt, cw 6 (mix (V + m * n) V 4), 222), (g5, cw 4 n, 111)] := hd1.put 0 rfl hf2 hg2
 clear hd1 hf2 hg2
 refine ⟨st2, ?_⟩
 try simp only [clL]
 refine e0A (v := ?_) rfl rfl (fun wx hS => ?_) ?_
 rotate_left 1
 ·(clear hS; go_simp; with_reducible rfl)
 try simp only [clL]
 refine e0A (v := ?_) rfl rfl (fun wx hS => ?_) ?_
 rotate_left 1
 ·(clear hS; go_simp; with_reducible rfl)
 try simp only [clL]
 refine e0A (v := ?_) rfl rfl (fun wx hS => ?_) ?_
 rotate_left 1
 ·(clear hS; go_simp; with_reducible rfl)
 try simp only [clL]
 refine e0A (v := ?_) rfl rfl (fun wx hS => ?_) ?_
 rotate_left 1
 ·(clear hS; go_simp; with_reducible rfl)
 try simp only [clL]
 refine e0A (v := ?_) rfl rfl (fun wx hS => ?_) ?_
 rotate_left 1
 ·(clear hS; go_simp; with_reducible rfl)
 try simp only [clL]
 refine r0Z ?_
 refine NoPanic.normal ?_
 have hg := st2.at 0 rfl
 have hfr := st2.fr
 clear st2
 have hs := HS2.out
 go_wp2_with fail
 go_ret2
 rw [← HS0.out, ← HS1.out]
 exact ⟨rfl, hg, hfr⟩
end Go.Proofs.YtemcankmggmgoaaGreat
namespace Go.Mv
open Go.RowKit
section
variable {P : Program} {ops : Array Oper} {md : Region.Mode} {Q : Exit → Act → World → Prop} {S : World → Prop}
inductive Sc where
 | nil
 | t (i : Nat) (s : Sc)
 | r (i : Nat) (s : Sc)
 | b (i j : Nat) (s u : Sc)
def Sc.len : Sc → Nat
 | .nil => 0
 | .t _ s => s.len + 1
 | .r _ s => s.len + 1
 | .b _ _ s _ => s.len + 1
def d0h (P : Program) (ops : Array Oper) (Q : Exit → Act → World → Prop) (S : World → Prop) (tl : List Oper) : Sc → Act → World → Prop
 | .nil, a, w => wpList P ops Q tl a w
 | .t i s, a, w => ∃ o v, ops[i]? = some o ∧ YieldsIf P ops S o v a ∧ d0h P ops Q S tl s (a.put o.dst v) w
 | .r i s, a, w => ∃ o, ops[i]? = some o ∧ o.guard = none ∧ o.wp P a w (fun a' w' => S w' ∧ d0h P ops Q S tl s a' w') Q
 | .b i j s u, a, w => (∃ o, ops[i]? = some o ∧ o.guard = none ∧ o.wp P a w (fun a' w' => S w' ∧ d0h P ops Q S tl s a' w') Q) ∧
   (∃ o, ops[j]? = some o ∧ o.guard = none ∧ o.wp P a w (fun a' w' => S w' ∧ d0h P ops Q S tl u a' w') Q)
def f0B (md : Region.Mode) (ops : Array Oper) (n g : Nat) : Sc → Array Bool → Bool
 | .nil, listed => Region.seqB md ops g n listed
 | .t i s, listed => decide (i < n) && (Region.ready md ops listed).contains i && Region.free md ops listed i && f0B md ops n g s (listed.setIfInBounds i true)
 | .r i s, listed => decide (i < n) && decide (Region.ready md ops listed = [i]) && f0B md ops n g s (listed.setIfInBounds i true)
 | .b i j s u, listed => decide (i < n) && decide (j < n) && decide (s.len = u.len) && decide (Region.ready md ops listed = [i, j]) && f0B md ops n g s (listed.setIfInBounds i true) && f0B md ops n g u (listed.setIfInBounds j true)
theorem c0m {n g : Nat} {tl : List Oper} (hsel : Region.noSelect ops = true) (hs : Region.sinkB md ops n = true) (hc : Region.chainB md ops n = true) (hn : n < ops.size)
  (hQ : ∀ c (d : Option Tmp) v a w, Q (.panic c) (Act.put a d v) w → Q (.panic c) a w) :
  ∀ (s : Sc) (listed : Array Bool) (a : Act) (w : World), HeadInv md ops n listed → f0B md ops n g s listed = true → S w → d0h P ops Q S tl s a w → i0g P md ops Q S n g tl s.len listed a w
 | .nil, listed, a, w, _, hB, _, h => ⟨hB, h⟩
 | .t i r, listed, a, w, inv, hB, hS, h => by
  obtain ⟨o, v, ho, hy, hK⟩ := h
  simp only [f0B, Bool.and_eq_true, decide_eq_true_eq] at hB
  obtain ⟨⟨⟨hin, hr⟩, hf⟩, hB'⟩ := hB
  have hr' : i ∈ Region.ready md ops listed := by simpa using hr
  exact g0o ho (Region.noSelect_spec hsel) (fun c a w => hQ c o.dst v a w) hs hc hn hin r.len listed a w inv (Region.free_spec ho hf) hr' hy hS
   (c0m hsel hs hc hn hQ r _ _ w (inv.set hr' hin) hB' hS hK)
 | .r i r, listed, a, w, inv, hB, hS, h => by
  obtain ⟨o, ho, hg, hK⟩ := h
  simp only [f0B, Bool.and_eq_true, decide_eq_true_eq] at hB
  obtain ⟨⟨hin, hr⟩, hB'⟩ := hB
  have hr' : i ∈ Region.ready md ops listed := by rw [hr]; simp
  refine ⟨by rw [hr]; simp, fun j hj => ?_⟩
  rw [hr] at hj
  have hj' : j = i := by simpa using hj
  subst hj'
  refine ⟨hin, ?_⟩
  unfold wpOp
  simp only [ho]
  rw [if_pos (by simp [Region.wanted, hg])]
  exact .inl (Oper.wp_mono (fun a' w' h' => ⟨h'.1, c0m hsel hs hc hn hQ r _ a' w' (inv.set hr' hin) hB' h'.1 h'.2⟩) hK)
 | .b i j r u, listed, a, w, inv, hB, hS, h => by
  obtain ⟨⟨o, ho, hg, hK⟩, ⟨o2, ho2, hg2, hK2⟩⟩ := h
  simp only [f0B, Bool.and_eq_true, decide_eq_true_eq] at hB
  obtain ⟨⟨⟨⟨⟨hin, hjn⟩, hlen⟩, hr⟩, hB1⟩, hB2⟩ := hB
  have hri : i ∈ Region.ready md ops listed := by rw [hr]; simp
  have hrj : j ∈ Region.ready md ops listed := by rw [hr]; simp
  refine ⟨by rw [hr]; simp, fun k hk => ?_⟩
  rw [hr] at hk
  have hk' : k = i ∨ k = j := by simpa using hk
  rcases hk' with e | e
  ·subst e
   refine ⟨hin, ?_⟩
   unfold wpOp
   simp only [ho]
   rw [if_pos (by simp [Region.wanted, hg])]
   exact .inl (Oper.wp_mono (fun a' w' h' => ⟨h'.1, c0m hsel hs hc hn hQ r _ a' w' (inv.set hri hin) hB1 h'.1 h'.2⟩) hK)
  ·subst e
   refine ⟨hjn, ?_⟩
   unfold wpOp
   simp only [ho2]
   rw [if_pos (by simp [Region.wanted, hg2])]
   rw [hlen]
   exact .inl (Oper.wp_mono (fun a' w' h' => ⟨h'.1, c0m hsel hs hc hn hQ u _ a' w' (inv.set hrj hjn) hB2 h'.1 h'.2⟩) hK2)
def p0B (ops : Array Oper) (n : Nat) (s : Sc) : Bool :=
 Region.noSelect ops && decide (n < ops.size) && decide (s.len = n) && Region.sinkB .any ops n && Region.chainB .any ops n && f0B .any ops n (ops.size - n) s (Array.replicate ops.size false)
theorem h0P {id : Nat} {a : Act} {w : World} {l : List Oper} (S : World → Prop) (n : Nat) (s : Sc) (hm : P.follows .mixedOrders = true) (hB : p0B l.toArray n s = true)
  (hS : S w.drew) (hQ : ∀ c (d : Option Tmp) v a w, Q (.panic c) (Act.put a d v) w → Q (.panic c) a w)
  (h : d0h P l.toArray Q S (l.drop n) s a w.drew) : (Code.region id l.toArray true).wp P Q a w := by
 simp only [p0B, Bool.and_eq_true, decide_eq_true_eq] at hB
 obtain ⟨⟨⟨⟨⟨hsel, hn⟩, hlen⟩, hs⟩, hc⟩, hseq⟩ := hB
 have inv0 : HeadInv .any l.toArray n (Array.replicate l.toArray.size false) :=
  ⟨by simp, fun j oj _ hl => (by rw [getD_replicate_false] at hl; cases hl), fun t _ ht => getD_in (by simpa using ht) (getD_replicate_false _ _)⟩
 have hdl : (l.drop n).length = l.toArray.size - n := by simp
 rw [← hdl] at hseq
 have H := c0m (md := .any) (g := (l.drop n).length) (tl := l.drop n) hsel hs hc hn hQ s _ a w.drew inv0 hseq hS h
 refine wp_region_any hm ?_
 have := f0W (md := .any) (n := n) (tl := l.drop n) (fun j => by simp [List.getElem?_drop]) _ _ _ _ H
 rw [hlen, hdl, show n + (l.toArray.size - n) = l.toArray.size by omega] at this
 exact this
variable {l tl : List Oper} {i j : Nat} {s u : Sc} {a : Act} {w : World} {o o2 : Oper}
theorem m0M (h : wpList P ops Q tl a w) : d0h P ops Q S tl .nil a w := h
theorem c0C (ho : l[i]? = some o) (hg : o.guard = none) {v : Value} (hv : ∀ wx, S wx → (execOp a.eval o).run P wx = .ok (.value v) wx) (h : d0h P l.toArray Q S tl s (a.put o.dst v) w) : d0h P l.toArray Q S tl (.t i s) a w :=
 ⟨o, v, by simpa using ho, .inl ⟨by simp [Region.wanted, hg], hv⟩, h⟩
theorem g0E (ho : l[i]? = some o) (hg : o.guard = none) (h : o.wp P a w (fun a' w' => S w' ∧ d0h P l.toArray Q S tl s a' w') Q) : d0h P l.toArray Q S tl (.r i s) a w :=
 ⟨o, by simpa using ho, hg, h⟩
theorem m0N (ho : l[i]? = some o) (hg : o.guard = none) {ty : TypeId} {x : Operand} (hop : o.op = .load ty x) {g p : Nat} (hx : a.eval x = .pointer (some ⟨g, p, none⟩)) (cs : List Value) (hS : ∀ wx, S wx → wx.rangeAt g p cs)
  {d : TypeDesc} (hu : P.underlying ty = some d) (hd : d.isRow = true) (hi : (P.info? ty).map (·.size) = some cs.length) (h : d0h P l.toArray Q S tl s (a.put o.dst (.agg cs.toArray)) w) : d0h P l.toArray Q S tl (.t i s) a w :=
 ⟨o, _, by simpa using ho, yieldsIf_load_mid (by simp [Region.wanted, hg]) ty x hop g p hx cs d hS hu hd hi, h⟩
theorem p0C {C F : Nat → World → Prop} (ho : l[i]? = some o) (hg : o.guard = none) (ho2 : l[j]? = some o2) (hg2 : o2.guard = none)
  (h1 : (∀ g w', C g w' → F g w') → o.wp P a w (fun a' w' => S w' ∧ d0h P l.toArray Q S tl s a' w') Q)
  (h2 : (∀ g w', C g w' → F g w') → o2.wp P a w (fun a' w' => S w' ∧ d0h P l.toArray Q S tl u a' w') Q)
  (h : ∀ g w', C g w' → F g w') : d0h P l.toArray Q S tl (.b i j s u) a w :=
 ⟨⟨o, by simpa using ho, hg, h1 h⟩, ⟨o2, by simpa using ho2, hg2, h2 h⟩⟩
end
section
variable {P : Program} {w w0 : World} {o : Oper} {a : Act} {K : Act → World → Prop} {Q : Exit → Act → World → Prop} {S : Nat → Prop} {bl : List (Nat × List Value × TypeId)}
theorem b0m (hst : St S w0 w bl) {e : TypeId} (ho : o.op = .alloc e) {z : Value} (hi : (P.info? e).map (·.zero) = some (some z)) (L : List Value) (hL : z.cells.toList = L)
  (h : ∀ g w', St S w0 w' (bl ++ [(g, L, e)]) → K (a.put o.dst (.pointer (some ⟨g, 0, none⟩))) w') : o.wp P a w K Q := by
 obtain ⟨i, hi1, hz⟩ : ∃ i, P.info? e = some i ∧ i.zero = some z := by simpa using hi
 have hr : (Instr.alloc e true (.tuple #[])).run P w = .ok (.pointer (some ⟨w.heap.size, 0, none⟩)) (w.alloc (.cells z.cells e)) := by
  simp [Instr.alloc, zeroValue, typeInfo, hi1, hz, newVar, newRow]
 unfold Oper.wp execOp
 simp only [ho, Sem.run_bind, Sem.run_pure, Result.andThen_ok, hr]
 have hg := Has.new w z.cells e
 rw [hL] at hg
 exact h _ _ (hst.new ((Fr.refl _ w).alloc _) hg (Nat.le_refl _))
theorem a0i (hst : St S w0 w bl) (i : Nat) {g : Nat} {L : List Value} {T : TypeId} (hb : bl[i]? = some (g, L, T)) {ty : TypeId} {x y : Operand} (ho : o.op = .store ty x y) (hx : a.eval x = .pointer (some ⟨g, 0, none⟩)) {cs : List Value} (hy : a.eval y = .agg cs.toArray)
  (hn : cs.length = L.length) (hi : (P.info? ty).map (·.size) = some cs.length) (h1 : ∀ v ∈ cs, v.oneCell' = true)
  (h : ∀ w', St S w0 w' (bl.set i (g, cs, T)) → K (a.put o.dst undef) w') : o.wp P a w K Q := by
 obtain ⟨k1, k2, _⟩ := Has.setCells cs 0 L w (hst.at i hb) ap13
 rw [c0s _ _ hn] at k1
 exact wp_store_mid ty x y ho g 0 cs.toArray hx hy (by simpa using (hst.at i hb).there 0 cs.length ap13) (by simpa using hi) (all_oneCell_toArray h1) (by simpa using h _ (hst.put i hb k2 k1))
end
end Go.Mv
namespace Go.Proofs.YtemcankmggmgoaaGreat
open Go.RowKit Go.Mv Mvp
attribute [local irreducible] a0y lw mix cw b0q b0r b0i beN b0x a0Q a0A a0J
theorem _root_.ap5 {p : Prop} (h : p := by first | (simp only [a0e]; done) | (simp only [List.length_append, a0e]; done)) : p := h
theorem _root_.ap10 {p : Prop} (h : p := by simp [a0e]) : p := h
theorem g0F (m : Md) (gp a b : Nat) (w : World) (hok : m.Ok) (hpm : Has w gp (mdL m) 187) (ha : a < B64 ^ 4) (hb : b < m.M) :
  Calls Tryz.prog 152 #[.pointer (some ⟨gp, 0, none⟩), i4 a, i4 b] w fun e w' => e = .returned (i4 (a * b * m.Ri % m.M)) ∧ Fr Nob w w' := by
 have HOK := qH hok
 have HPM := qH hpm
 have HA := qH ha
 have HB := qH hb
 clear hok hpm ha hb
 have st0 := St.start Nob w
 go_enter Tryz.func152, Tryz.ntmps152
 go_wp2_with (with_reducible refine wSk 4 ?_)
 refine a0q st0 rfl rfl rfl (cw 4 a) rfl ?_
 intro g4 w1 st1
 clear st0
 go_wp2_with (with_reducible refine wSk 5 ?_)
 refine a0q st1 rfl rfl rfl (cw 4 b) rfl ?_
 intro g5 w2 st2
 clear st1
 go_wp2_with (with_reducible refine wSk 6 ?_)
 refine a0a st2 rfl rfl (z := zAd) ap11 (cw 4 0) ap9 ?_
 intro g6 w3 st3
 clear st2
 go_wp2_with (with_reducible refine wSk 7 ?_)
 refine a0a st3 rfl rfl (z := .agg #[.int .u64 0, .int .u64 0, .int .u64 0, .int .u64 0, .int .u64 0, .int .u64 0]) ap11 (cw 6 0) ap9 ?_
 intro g7 w4 st4
 clear st3
 go_wp2_with (with_reducible refine wSk 14 ?_)
 refine a0m st4 0 rfl rfl rfl Tryz.underlying66 rfl ap8 ?_
 go_wp2
 go_loopw [15] (fun i wr => ∃ k : Nat, k ≤ 4 ∧ i = .int .i64 (k : Int) ∧ St Nob w wr [(g4, cw 4 a, 66), (g5, cw 4 b, 66), (g6, cw 4 0, 66), (g7, cw 6 (a0A m.M m.neg b a k), 222)]) (fun i _ => 4 - (intOf i).toNat)
 case atStart => exact ⟨0, by omega, rfl, by rw [n0R]; exact st4⟩
 case round =>
  obtain ⟨k, hk, rfl, st⟩ := hrel
  clear st4
  by_cases hlt : k < 4
  ·have hltI : (k : Int) < 4 := by omega
   have e0 := fun wx => e0z (P := Tryz.prog) Tryz.underlying66 Tryz.underlying58 d0n a k hlt .i64 wx
   have hTl := m0C m.M m.neg b a k (by have := HOK.out.one; omega)
   obtain ⟨b1, b2, b3, b4⟩ := l0x (a0A m.M m.neg b a k) b m.M (lw a k) (a0A m.M m.neg b a k + lw a k * b) ((a0A m.M m.neg b a k + lw a k * b) % 18446744073709551616 * m.neg % 18446744073709551616) HB.out HOK.out.lt hTl (f0U a k) rfl (Nat.mod_lt _ ap12)
   have hsucc : a0A m.M m.neg b a (k + 1) = (a0A m.M m.neg b a k + lw a k * b + ((a0A m.M m.neg b a k + lw a k * b) % 18446744073709551616 * m.neg % 18446744073709551616) * m.M) / 18446744073709551616 := n0S m.M m.neg b a k
   generalize hT : a0A m.M m.neg b a k = T at *
   generalize hT' : a0A m.M m.neg b a (k + 1) = T' at *
   have hx := f0U a k
   obtain ⟨l1, l2, l3⟩ := m0B T (lw a k) b (Nat.lt_trans HB.out HOK.out.lt) b2 (Nat.lt_trans b1 ap12)
   have z5 : lw T 5 = 0 := g0m T 5 5 b1 (Nat.le_refl _)
   rw [z5, Nat.zero_add] at l2
   have hline := fun wx (h : Has wx g7 (cw 6 T) 222) => m0E g7 T (lw a k) b (lw T 4) 222 wx h hx (f0U T 4)
   rw [l1, l2] at hline
   generalize hxx : lw a k = x at *
   generalize hV : T + x * b = V at *
   have hw0 := u0M V
   generalize hmm : V % 18446744073709551616 * m.neg % 18446744073709551616 = mm at *
   have hm64 : mm < 18446744073709551616 := by rw [← hmm]; exact Nat.mod_lt _ ap12
   have hmul : IntKind.u64.wrap ((lw V 0 : Int) * (m.neg : Int)) = (mm : Int) := by
    rw [IntKind.wrap_u64, ← hmm, hw0, ← Int.natCast_mul]; rfl
   have hlt2 := fun wx (h : Has wx g7 (cw 6 V) 222) => l0B g7 V mm m.M wx h hm64 HOK.out.lt b4 b3
   generalize hV2 : V + mm * m.M = V2 at *
   have hshift := w0I V2 b4
   rw [← hsucc] at hshift
   have HLINE := qH hline
   have HLT2 := qH hlt2
   have HSHIFT := qH hshift
   have HT := qH hT
   have HT' := qH hT'
   clear hTl b1 b2 b3 b4 hsucc l1 l2 l3 z5 hline hV hw0 hmm hm64 hlt2 hV2 hshift hT hT' hx hxx
   have ct := (st.at 3 rfl).cell (c0k 6 T 4 ap12)
   go_wp2_with (with_reducible refine wSk 20 ?_)
   refine a0m st 1 rfl rfl rfl Tryz.underlying66 rfl ap8 ?_
   go_wp2_with fail
   refine (HLINE.out _ (st.at 3 rfl)).mono ?_
   rintro e' w5 ⟨rfl, hg5, hf5⟩
   have st5 : St Nob w w5 [(g4, cw 4 a, 66), (g5, cw 4 b, 66), (g6, cw 4 0, 66), (g7, cw 6 (mix V T 4), 222)] := st.put 3 rfl hf5 hg5
   clear st hf5 hg5
   clear ct
   obtain ⟨v4, c4, f4⟩ := (st5.at 3 rfl).ready (i := 4) (by rw [a0e]; decide)
   obtain ⟨v5, c5, f5⟩ := (st5.at 3 rfl).ready (i := 5) (by rw [a0e]; decide)
   go_wp2_with fail
   have stA := (st5.set 3 rfl 4 (.int .u64 (lw V 4 : Nat))).set 3 rfl 5 (.int .u64 (lw V 5 : Nat))
   have hcw : ((cw 6 (mix V T 4)).set 4 (.int .u64 (lw V 4 : Nat))).set 5 (.int .u64 (lw V 5 : Nat)) = cw 6 V := by rw [g0n 6 V T 4 ap12, g0n 6 V T 5 ap12, i0P]
   rw [hcw] at stA
   clear hcw c4 c5 f4 f5 v4 v5 st5
   generalize (World.setCell (World.setCell w5 ⟨g7, 4, none⟩ (.int .u64 (lw V 4 : Nat))) ⟨g7, 5, none⟩ (.int .u64 (lw V 5 : Nat))) = wA at *
   have stA : St Nob w wA [(g4, cw 4 a, 66), (g5, cw 4 b, 66), (g6, cw 4 0, 66), (g7, cw 6 V, 222)] := stA
   have cv := (stA.at 3 rfl).cell (c0k 6 V 0 ap12)
   have cn := (HPM.out.keep stA.fr id).cell (w0H m)
   go_quiet (fail)
   have stB := stA.drewN nq
   clear stA cv cn
   go_wp2_with (with_reducible refine wSk 40 ?_)
   refine c0O rfl rfl Tryz.underlying111 rfl (HPM.out.keep stB.fr id) (cw 4 m.M) (j0E m) ap8 ?_
   go_wp2_with fail
   refine (HLT2.out _ (stB.at 3 rfl)).mono ?_
   rintro e' w7 ⟨rfl, hg7, hf7⟩
   have st7 : St Nob w w7 [(g4, cw 4 a, 66), (g5, cw 4 b, 66), (g6, cw 4 0, 66), (g7, cw 6 (mix V2 V 4), 222)] := stB.put 3 rfl hf7 hg7
   clear stB hf7 hg7
   obtain ⟨v4, c4, f4⟩ := (st7.at 3 rfl).ready (i := 4) (by rw [a0e]; decide)
   obtain ⟨v5, c5, f5⟩ := (st7.at 3 rfl).ready (i := 5) (by rw [a0e]; decide)
   go_wp2_with fail
   have stC := (st7.set 3 rfl 4 (.int .u64 (lw V2 4 : Nat))).set 3 rfl 5 (.int .u64 (lw V2 5 : Nat))
   have hcw : ((cw 6 (mix V2 V 4)).set 4 (.int .u64 (lw V2 4 : Nat))).set 5 (.int .u64 (lw V2 5 : Nat)) = cw 6 V2 := by rw [g0n 6 V2 V 4 ap12, g0n 6 V2 V 5 ap12, i0P]
   rw [hcw] at stC
   clear hcw c4 c5 f4 f5 v4 v5 st7
   generalize (World.setCell (World.setCell w7 ⟨g7, 4, none⟩ (.int .u64 (lw V2 4 : Nat))) ⟨g7, 5, none⟩ (.int .u64 (lw V2 5 : Nat))) = wC at *
   have stC : St Nob w wC [(g4, cw 4 a, 66), (g5, cw 4 b, 66), (g6, cw 4 0, 66), (g7, cw 6 V2, 222)] := stC
   have k1 := fun wx => e0f (P := Tryz.prog) wx Tryz.underlying222 d0n g7 0 .i64 5 ap12
   have k2 := fun wx => f0q (P := Tryz.prog) wx Tryz.underlying222 d0n g7 0 .i64 1 ap12
   refine wp_region_noPanic ?_
   refine i0Q (fun wx => St Nob w wx [(g4, cw 4 a, 66), (g5, cw 4 b, 66), (g6, cw 4 0, 66), (g7, cw 6 V2, 222)]) 2 [(0, true), (1, true)] ap11 ap11 stC.drew (fun _ _ _ _ _ h => h) ?_
   have stD := stC.drew
   clear stC
   refine m0F (v := ?_) rfl rfl (fun wx hS => ?_) ?_
   rotate_left 1
   ·(clear hS; go_simp; with_reducible rfl)
   try simp only [clL]
   refine m0F (v := ?_) rfl rfl (fun wx hS => ?_) ?_
   rotate_left 1
   ·(clear hS; go_simp; with_reducible rfl)
   try simp only [clL]
   refine u0O ?_
   try simp only [List.drop_succ_cons, List.drop_zero]
   refine o0B rfl rfl Tryz.underlying226 d0n rfl rfl (stD.at 3 rfl) (Rd.ofHas (stD.at 3 rfl) 1 (n := 5) (by rw [a0e]; decide)) (fun v hv => a0d _ _ v (List.mem_of_mem_drop (List.mem_of_mem_take hv))) (by rw [a0e]; decide) ?_
   intro wE hgE hfE hzE
   clear hzE
   have stE := stD.put 3 rfl hfE hgE
   clear stD hgE hfE
   obtain ⟨v5, c5, f5⟩ := (stE.at 3 rfl).ready (i := 5) (by rw [f0m _ _ _ ap10]; rw [a0e]; decide)
   go_wp2_with fail
   refine NoPanic.normal ?_
   clear k1 k2
   go_wp2_with fail
   have stF := stE.set 3 rfl 5 (.int .u64 0)
   clear stE c5 f5
   go_roundw
   case rel =>
    refine ⟨k + 1, by omega, by go_num, ?_⟩
    rw [HT'.out]
    have hh := stF
    have h6 := HSHIFT.out
    simp only [List.set_cons_succ, List.set_cons_zero] at hh
    rw [show min 5 5 = 5 from rfl, List.take_take, show min 5 5 = 5 from rfl, h6] at hh
    exact hh
   case measure => simp [intOf]; omega
  ·have hge : ¬ ((k : Int) < 4) := by omega
   have hk4 : k = 4 := by omega
   subst hk4
   have k4 : ∀ wx, (Instr.arrayAt 111 (.slice (some ⟨g7, 0, none⟩) 4 6)).run Tryz.prog wx = .ok (.pointer (some ⟨g7, 0, none⟩)) wx := fun wx => by simp [Instr.arrayAt, run_underlying Tryz.underlying111]
   have k3 := fun wx => e0f (P := Tryz.prog) wx Tryz.underlying222 d0n g7 0 .i64 4 ap12
   have hTl := m0C m.M m.neg b a 4 (by have := HOK.out.one; omega)
   have hval := n0P m.M m.neg m.Ri a b (by have := HOK.out.one; omega) HA.out HOK.out.neg (by rw [HOK.out.inv, Nat.mod_eq_of_lt HOK.out.one])
   generalize hT : a0A m.M m.neg b a 4 = T at *
   have HT := qH hT; clear hT
   have HTL := qH hTl; clear hTl
   have HVAL := qH hval; clear hval
   go_wp2_with (with_reducible refine wSk 53 ?_)
   refine c0O rfl rfl Tryz.underlying111 rfl (st.at 3 rfl) (cw 4 T) (u0N T) (by rw [a0e]; exact i0R) ?_
   clear k3 k4
   go_wp2_with (with_reducible refine wSk 11 ?_)
   refine a0a st rfl rfl (z := zAd) ap11 (cw 4 0) ap9 ?_
   intro g11 w5 st5
   clear st
   go_wp2_with (with_reducible refine wSn ?_)
   refine a0b st5 4 rfl rfl rfl rfl rfl ap5 ap8 (a0d _ _) ?_
   intro w6 st6
   clear st5
   go_wp2_with fail
   refine wp_region_noPanic ?_
   refine h0P (fun wx => St Nob w wx [(g4, cw 4 a, 66), (g5, cw 4 b, 66), (g6, cw 4 0, 66), (g7, cw 6 T, 222), (g11, cw 4 T, 111)]) 11 (.t 0 (.t 1 (.t 2 (.t 3 (.t 4 (.b 5 9 (.t 6 (.t 7 (.t 8 (.r 9 (.r 10 .nil))))) (.r 5 (.t 6 (.t 7 (.t 8 (.r 10 .nil))))))))))) ap11 ap11 st6.drew (fun _ _ _ _ _ h => h) ?_
   have hd6 := st6.drew
   clear st6
   refine m0N rfl rfl rfl rfl (cw 4 T) (fun wx hS => St.rangeL hS 4 rfl 0 _ dZl) Tryz.underlying111 rfl ap8 ?_
   try simp only [clL]
   refine c0C (v := ?_) rfl rfl (fun wx hS => ?_) ?_
   rotate_left 1
   ·(clear hS; go_simp; with_reducible rfl)
   try simp only [clL]
   refine c0C (v := ?_) rfl rfl (fun wx hS => ?_) ?_
   rotate_left 1
   ·(clear hS; go_simp; with_reducible rfl)
   try simp only [clL]
   refine c0C (v := ?_) rfl rfl (fun wx hS => ?_) ?_
   rotate_left 1
   ·(clear hS; go_simp; with_reducible rfl)
   try simp only [clL]
   refine m0N rfl rfl rfl rfl (cw 4 m.M) (fun wx hS => (HPM.out.keep (St.fr hS) id).range 0 _ (j0E m)) Tryz.underlying111 rfl ap8 ?_
   try simp only [clL]
   refine p0C (C := fun g12 wz => St Nob w wz [(g4, cw 4 a, 66), (g5, cw 4 b, 66), (g6, cw 4 0, 66), (g7, cw 6 T, 222), (g11, cw 4 T, 111), (g12, cw 4 (T + B64 ^ 4 - m.M), 111)]) (F := ?_) rfl rfl rfl rfl (fun key => ?_) (fun key => ?_) ?_
   rotate_left 1
   ·skip
    go_simp
    refine (d0A T m.M _ HOK.out.lt).mono ?_
    rintro e' w7 ⟨rfl, hf7⟩
    have st7 := hd6.keep hf7
    clear hf7
    refine ⟨st7, ?_⟩
    try simp only [clL]
    refine c0C (v := ?_) rfl rfl (fun wx hS => ?_) ?_
    rotate_left 1
    ·(clear hS; go_simp; with_reducible rfl)
    try simp only [clL]
    refine c0C (v := ?_) rfl rfl (fun wx hS => ?_) ?_
    rotate_left 1
    ·(clear hS; go_simp; with_reducible rfl)
    try simp only [clL]
    refine c0C (v := ?_) rfl rfl (fun wx hS => ?_) ?_
    rotate_left 1
    ·(clear hS; go_simp; with_reducible rfl)
    try simp only [clL]
    refine g0E rfl rfl ?_
    refine b0m st7 rfl (z := zAd) ap11 (cw 4 0) ap9 ?_
    intro g12 w8 st8
    refine ⟨St.less st8 ap14, ?_⟩
    try simp only [clL]
    refine g0E rfl rfl ?_
    refine a0i st8 5 rfl rfl rfl rfl ap5 ap8 (a0d _ _) ?_
    intro w9 st9
    refine ⟨St.less st9 ap14, ?_⟩
    try simp only [Act.put]
    refine m0M ?_
    try simp only [List.drop_succ_cons, List.drop_zero]
    go_wp2_with fail
    exact key g12 w9 st9
   ·skip
    refine b0m hd6 rfl (z := zAd) ap11 (cw 4 0) ap9 ?_
    intro g12 w10 st10
    refine ⟨St.less st10 ap14, ?_⟩
    try simp only [clL]
    refine g0E rfl rfl ?_
    go_simp
    refine (d0A T m.M _ HOK.out.lt).mono ?_
    rintro e' w11 ⟨rfl, hf11⟩
    have st11 := st10.keep hf11
    clear hf11
    refine ⟨St.less st11 ap14, ?_⟩
    try simp only [clL]
    refine c0C (v := ?_) rfl rfl (fun wx hS => ?_) ?_
    rotate_left 1
    ·(clear hS; go_simp; with_reducible rfl)
    try simp only [clL]
    refine c0C (v := ?_) rfl rfl (fun wx hS => ?_) ?_
    rotate_left 1
    ·(clear hS; go_simp; with_reducible rfl)
    try simp only [clL]
    refine c0C (v := ?_) rfl rfl (fun wx hS => ?_) ?_
    rotate_left 1
    ·(clear hS; go_simp; with_reducible rfl)
    try simp only [clL]
    refine g0E rfl rfl ?_
    refine a0i st11 5 rfl rfl rfl rfl ap5 ap8 (a0d _ _) ?_
    intro w12 st12
    refine ⟨St.less st12 ap14, ?_⟩
    try simp only [Act.put]
    refine m0M ?_
    try simp only [List.drop_succ_cons, List.drop_zero]
    go_wp2_with fail
    exact key g12 w12 st12
   intro g12 w13 st13
   have st13 : St Nob w w13 [(g4, cw 4 a, 66), (g5, cw 4 b, 66), (g6, cw 4 0, 66), (g7, cw 6 T, 222), (g11, cw 4 T, 111), (g12, cw 4 (T + B64 ^ 4 - m.M), 111)] := st13
   clear hd6
   refine NoPanic.normal ?_
   have c4 := (st13.at 3 rfl).cell (c0k 6 T 4 ap12)
   have hfin := i0f T m.M HOK.out.lt (by have := HTL.out; have := HB.out; omega)
   by_cases hlt2 : T < m.M
   ·obtain ⟨f1, f2, f3⟩ := hfin.1 hlt2
    rw [f1] at c4
    rw [f2]
    have HF := qH f3
    clear hfin f1 f2 f3 hlt2
    go_wp2_with (with_reducible refine wSk 70 ?_)
    refine a0m st13 4 rfl rfl rfl Tryz.underlying111 rfl ap8 ?_
    go_wp2_with (with_reducible refine wSn ?_)
    refine a0b st13 2 rfl rfl rfl rfl rfl ap5 ap8 (a0d _ _) ?_
    intro w14 st14
    clear st13
    have hr := st14.at 2 rfl
    have hfr := st14.fr
    clear st14
    go_wp2_with fail
    exact bodyPost_ret (a0D rfl rfl hr Tryz.underlying66 ap8) rfl ⟨by rw [← HVAL.out]; unfold i4; rw [HF.out], hfr⟩
   ·obtain ⟨f3, f4⟩ := hfin.2 hlt2
    have HF := qH f3
    by_cases hlt3 : T < B64 ^ 4
    ·obtain ⟨f1, f2⟩ := f4 hlt3
     rw [f1] at c4
     rw [f2]
     clear hfin f1 f2 f3 f4 hlt2 hlt3
     go_wp2_with (with_reducible refine wSk 71 ?_)
     refine a0m st13 5 rfl rfl rfl Tryz.underlying111 rfl ap8 ?_
     go_wp2_with (with_reducible refine wSn ?_)
     refine a0b st13 2 rfl rfl rfl rfl rfl ap5 ap8 (a0d _ _) ?_
     intro w14 st14
     clear st13
     have hr := st14.at 2 rfl
     have hfr := st14.fr
     clear st14
     go_wp2_with fail
     exact bodyPost_ret (a0D rfl rfl hr Tryz.underlying66 ap8) rfl ⟨by rw [← HVAL.out]; unfold i4; rw [HF.out], hfr⟩
    ·have f1 := p0u T (by have := HTL.out; have := HB.out; have := HOK.out.lt; omega) hlt3
     rw [f1] at c4
     clear hfin f1 f3 f4 hlt2 hlt3
     go_wp2_with (with_reducible refine wSk 71 ?_)
     refine a0m st13 5 rfl rfl rfl Tryz.underlying111 rfl ap8 ?_
     go_wp2_with (with_reducible refine wSn ?_)
     refine a0b st13 2 rfl rfl rfl rfl rfl ap5 ap8 (a0d _ _) ?_
     intro w14 st14
     clear st13
     have hr := st14.at 2 rfl
     have hfr := st14.fr
     clear st14
     go_wp2_with fail
     exact bodyPost_ret (a0D rfl rfl hr Tryz.underlying66 ap8) rfl ⟨by rw [← HVAL.out]; unfold i4; rw [HF.out], hfr⟩
end Go.Proofs.YtemcankmggmgoaaGreat
namespace Mvp
def elN (m : Md) (x : Nat) : Nat := x * B64 ^ 4 % m.M
theorem i0V (m : Md) (h : m.Ok) (x : Nat) : elN m x < m.M := Nat.mod_lt _ (by have := h.one; omega)
theorem h0j (m : Md) (h : m.Ok) (x : Nat) : elN m x < B64 ^ 4 := Nat.lt_trans (i0V m h x) h.lt
theorem w0S (m : Md) : B64 ^ 4 % m.M = elN m 1 := by rw [elN, Nat.one_mul]
theorem d0R (m : Md) : elN m 0 = 0 := by rw [elN, Nat.zero_mul, Nat.zero_mod]
theorem k0g (m : Md) (x : Nat) : elN m (x % m.M) = elN m x := by rw [elN, elN, Nat.mod_mul_mod]
theorem g0G (m : Md) {x y : Nat} (h : x % m.M = y % m.M) : elN m x = elN m y := by rw [← k0g, h, k0g]
theorem u0S (m : Md) (h : m.Ok) (x : Nat) : x * B64 ^ 4 * m.Ri % m.M = x % m.M := by
 rw [Nat.mul_assoc, Nat.mul_mod, h.inv, Nat.mul_one, Nat.mod_mod]
theorem l0C (a b R Ri M : Nat) : (a * R % M) * (b * R % M) * Ri % M = (a * b * R) * R * Ri % M := by
 rw [← Nat.mod_mul_mod (a * R % M * (b * R % M)), ← Nat.mul_mod, Nat.mod_mul_mod, Nat.mul_mul_mul_comm, ← Nat.mul_assoc (a * b)]
theorem n0U (n R Ri M : Nat) : n * (R * R % M) * Ri % M = n * R * R * Ri % M := by
 rw [← Nat.mod_mul_mod (n * (R * R % M)), Nat.mul_mod_mod, Nat.mod_mul_mod, ← Nat.mul_assoc]
theorem w0T (m : Md) (h : m.Ok) (x y : Nat) : elN m x * elN m y * m.Ri % m.M = elN m (x * y) := by
 unfold elN
 rw [l0C, u0S m h]
theorem w0U (m : Md) (h : m.Ok) (n : Nat) : n * (B64 ^ 4 * B64 ^ 4 % m.M) * m.Ri % m.M = elN m n := by
 rw [n0U, u0S m h, elN]
theorem l0D (m : Md) (h : m.Ok) (x : Nat) : elN m x * 1 * m.Ri % m.M = x % m.M := by
 rw [Nat.mul_one, elN, Nat.mod_mul_mod, u0S m h]
theorem m0O (m : Md) (x y : Nat) : (elN m x + elN m y) % m.M = elN m (x + y) := by
 rw [elN, elN, elN, ← Nat.add_mod, Nat.add_mul]
theorem t0G (m : Md) (h : m.Ok) {x y : Nat} (e : elN m x = elN m y) : x % m.M = y % m.M := by
 rw [← l0D m h x, e, l0D m h y]
theorem t0H (m : Md) (h : m.Ok) (x y : Nat) : (elN m x + m.M - elN m y) % m.M = elN m (x + (m.M - y % m.M)) := by
 have hM : 0 < m.M := by have := h.one; omega
 have hy := i0V m h y
 have h1 : (elN m x + m.M - elN m y) + elN m y = elN m x + m.M := by omega
 have hym := Nat.mod_lt y hM
 have e1 : ((elN m x + m.M - elN m y) % m.M + elN m y) % m.M = elN m x % m.M := by
  rw [Nat.mod_add_mod, h1, Nat.add_mod_right]
 have e2 : (elN m (x + (m.M - y % m.M)) + elN m y) % m.M = elN m x % m.M := by
  rw [m0O, Nat.mod_eq_of_lt (i0V m h x)]
  refine g0G m ?_
  rw [Nat.add_assoc, Nat.add_mod x, Nat.add_comm _ y, ← Nat.mod_add_mod y, show y % m.M + (m.M - y % m.M) = m.M by omega, Nat.mod_self, Nat.add_zero, Nat.mod_mod]
 have a1 := Nat.mod_lt (elN m x + m.M - elN m y) hM
 have a2 := i0V m h (x + (m.M - y % m.M))
 generalize (elN m x + m.M - elN m y) % m.M = p at *
 generalize elN m (x + (m.M - y % m.M)) = q at *
 generalize elN m y = r at *
 have e3 : (p + r) % m.M = (q + r) % m.M := by rw [e1, e2]
 have l1 := Nat.div_add_mod (p + r) m.M
 have l2 := Nat.div_add_mod (q + r) m.M
 rcases Nat.lt_or_ge (p + r) m.M with h1 | h1 <;> rcases Nat.lt_or_ge (q + r) m.M with h2 | h2
 ·rw [Nat.mod_eq_of_lt h1, Nat.mod_eq_of_lt h2] at e3; omega
 ·rw [Nat.mod_eq_of_lt h1, Nat.mod_eq_sub_mod h2, Nat.mod_eq_of_lt ap13] at e3; omega
 ·rw [Nat.mod_eq_of_lt h2, Nat.mod_eq_sub_mod h1, Nat.mod_eq_of_lt ap13] at e3; omega
 ·rw [Nat.mod_eq_sub_mod h1, Nat.mod_eq_sub_mod h2, Nat.mod_eq_of_lt ap13, Nat.mod_eq_of_lt ap13] at e3; omega
theorem p0D (a b : Nat) (ha : a < B64 ^ 4) (hb : b < B64 ^ 4) : b0r a b 4 = lw (a + b) 4 := by
 rw [r0K a b 4 ha hb]
 unfold lw
 have h0 := c0A 4
 have : (a + b) / B64 ^ 4 < 2 := Nat.div_lt_of_lt_mul ap13
 exact (Nat.mod_eq_of_lt (Nat.lt_trans this ap12)).symm
theorem k0h (a b M : Nat) (_ : a < M) (hb : b < M) (hM : M < B64 ^ 4) (h : a < b) : Go.Mv.cw 4 ((a + M - b) % M) = Go.Mv.cw 4 (a + B64 ^ 4 - b + M) := by
 rw [Nat.mod_eq_of_lt ap13, ← Go.Mv.cw_mod 4 (a + B64 ^ 4 - b + M)]
 rw [show a + B64 ^ 4 - b + M = (a + M - b) + B64 ^ 4 by omega, Nat.add_mod_right, Go.Mv.cw_mod]
theorem k0i (a b M : Nat) (ha : a < M) (hb : b < M) (h : ¬ a < b) : Go.Mv.cw 4 ((a + M - b) % M) = Go.Mv.cw 4 (a + B64 ^ 4 - b) := by
 have _h := hb
 rw [show a + M - b = (a - b) + M by omega, Nat.add_mod_right, Nat.mod_eq_of_lt ap13, ← Go.Mv.cw_mod 4 (a + B64 ^ 4 - b), show a + B64 ^ 4 - b = (a - b) + B64 ^ 4 by omega, Nat.add_mod_right, Go.Mv.cw_mod]
end Mvp
