/- ; ; ; ; ; ; ; ; ; ; ; ; ; ; ; ; ; ; ; ; ; ; ; . -/
import Derived.Test.YtpfimiajoifjaaaGreatMgSpanHalvesProof2
import Derived.Test.YtpfimiajoifjaaaGreatMgSpanHalvesProof1
import Derived.Shelf.Spec.BitsCarry
import Derived.Shelf.Bits.Mul64
import Derived.Test.YtpfimiajoifjaaaGreatProg
import Derived.KernelRfl
import Derived.RegionTactic
import Derived.Deep.QuietTactic
import Derived.BigQuiet
import Derived.StillTailTactics
set_option maxHeartbeats 16000000
set_option maxRecDepth 1000000

namespace Go.Proofs.YtpfimiajoifjaaaGreat
open Go.RowKit Go.Mv Mvp
attribute [local irreducible] a0T b0c toB a0u a0w a0Y a0E b0Z a0S a0x c0n
theorem j0h : (Tryz.prog.info? 23).map (fun i => (i.zero, i.size, i.bytes)) = some (some (.slice none 0 0), 1, 24) := by kernel_rfl
def Parts (w : World) : List Value → List (List UInt8) → Prop
 | [], [] => True
 | v :: vs, l :: ls => PartIs w v l ∧ Parts w vs ls
 | _, _ => False
theorem Parts.len {w : World} : ∀ {vs : List Value} {ls : List (List UInt8)}, Parts w vs ls → vs.length = ls.length
 | [], [], _ => rfl
 | _ :: _, _ :: _, h => by simp only [List.length_cons]; rw [Parts.len h.2]
 | [], _ :: _, h => h.elim
 | _ :: _, [], h => h.elim
theorem Parts.get {w : World} : ∀ {vs : List Value} {ls : List (List UInt8)}, Parts w vs ls → ∀ (i : Nat) (v : Value), vs[i]? = some v → ∃ l : List UInt8, ls[i]? = some l ∧ PartIs w v l
 | [], [], _, i, v, h => by simp at h
 | x :: vs, l :: ls, h, 0, v, hv => by simp only [List.getElem?_cons_zero, Option.some.injEq] at hv; subst hv; exact ⟨l, rfl, h.1⟩
 | x :: vs, l :: ls, h, i + 1, v, hv => by simp only [List.getElem?_cons_succ] at hv ⊢; exact Parts.get h.2 i v hv
 | [], _ :: _, h, _, _, _ => h.elim
 | _ :: _, [], h, _, _, _ => h.elim
theorem Parts.at {w : World} {g : Nat} {T : TypeId} {vs : List Value} {ls : List (List UInt8)} (h : Parts w vs ls) (hg : Has w g vs T) : PartsAt w (some ⟨g, 0, none⟩) ls :=
 ⟨vs, by have := Rd.whole hg; rwa [h.len] at this, h.get⟩
theorem Parts.cells {w : World} : ∀ {vs : List Value} {ls : List (List UInt8)}, Parts w vs ls → ∀ v ∈ vs, v.cells = #[v]
 | [], _, _, v, h => by simp at h
 | x :: vs, l :: ls, h, v, hv => by
  rcases List.mem_cons.1 hv with rfl | hv
  ·obtain ⟨a, n, c, rfl, _⟩ := h.1; rfl
  ·exact Parts.cells h.2 v hv
 | _ :: _, [], h, _, _ => h.elim
theorem b0G {w : World} {base n : Nat} {T : TypeId} {v : Value} {l : List UInt8} (h : Own w base T 1 v n (bs l)) (hn : n ≤ 1000000) : PartIs w v l := by
 have h0 := h
 obtain ⟨a, c, rfl, hc, hr, -⟩ := h.form
 rw [Nat.mul_one] at hr
 refine ⟨a, n, c, rfl, hc, hn, hr, ?_⟩
 intro x hx
 exact (h0.lt (by rw [hx]; rfl)).2
def LogAt (w : World) (base g : Nat) (l : List UInt8) : Prop := ∃ v, Has w g [v] 293 ∧ Own w base 5 1 v 32 (bs l)
theorem LogAt.still {w w' : World} {base g : Nat} {l : List UInt8} (h : LogAt w base g l) (hf : Fr Nob w w') : LogAt w' base g l := by
 obtain ⟨v, h1, h2⟩ := h; exact ⟨v, h1.keep hf id, h2.still hf⟩
theorem LogAt.other {w w' : World} {base g g' : Nat} {l : List UInt8} (h : LogAt w base g l) (hf : Fr (One g') w w') (hne : g ≠ g') {L : List Value} {T : TypeId} (hg : Has w g' L T) (hT : 5 ≠ T) : LogAt w' base g l := by
 obtain ⟨v, h1, h2⟩ := h
 exact ⟨v, h1.keep hf hne, h2.keep hf (fun k hk (e : k = g') => h2.ne hg hT (e ▸ hk))⟩
theorem LogAt.lt {w : World} {base g : Nat} {l : List UInt8} (h : LogAt w base g l) : g < w.heap.size := by obtain ⟨v, h1, _⟩ := h; exact h1.lt
def RLogAt (w : World) (g : Nat) (l : List UInt8) : Prop := Has w g [.string (mkS l)] 256
theorem p0X (a : Option Addr) (n c : Nat) : Tryz.prog.built 293 [(0, .slice a n c)] = some #[.slice a n c] := by kernel_rfl
def z0S : List UInt8 := [108, 111, 103]
def p0Y : List UInt8 := [115, 97, 121]
def z0T : List UInt8 := [97, 115, 107]
def i0u : List UInt8 := [97, 115, 107, 101, 100]
theorem v0N : (⟨#[108, 111, 103]⟩ : ByteArray) = mkS z0S := rfl
theorem v0O : (⟨#[115, 97, 121]⟩ : ByteArray) = mkS p0Y := rfl
theorem v0P : (⟨#[97, 115, 107]⟩ : ByteArray) = mkS z0T := rfl
theorem p0Z : (⟨#[97, 115, 107, 101, 100]⟩ : ByteArray) = mkS i0u := rfl
theorem n0b (k : List UInt8) (hk : k.length ≤ 100) (g c : Nat) (vs : List Value) (ls : List (List UInt8)) (w : World) (hh : Has w g vs 23) (hp : Parts w vs ls) (hm : ls.length ≤ 1000000) :
  Calls Tryz.prog 218 #[.string (mkS k), .slice (some ⟨g, 0, none⟩) ls.length c] w fun r w' => ∃ v, r = .returned v ∧ Own w' w.heap.size 5 1 v 32 (bs (c0n k ls)) ∧ Fr Nob w w' := by
 have := p0W (mkS k) (some ⟨g, 0, none⟩) c ls w (by rw [m0O]; omega) hm (hp.at hh)
 rwa [i0n] at this
theorem o0v (s : ByteArray) (w : World) (hs : s.size ≤ 1000000) :
  Calls Tryz.prog 259 #[.string s] w fun r w' => ∃ g, r = .returned (.pointer (some ⟨g, 0, none⟩)) ∧ w.heap.size ≤ g ∧ LogAt w' w.heap.size g (c0n z0S [s.data.toList]) ∧ Fr Nob w w' := by
 go_enter Tryz.func259, Tryz.ntmps259
 go_wp2_with (with_reducible refine wSk 4 ?_)
 refine e0v rfl rfl Tryz.underlying9 Tryz.underlying23 Tryz.underlying5 rfl ap9 w.heap.size (Nat.le_refl _) ?_
 intro cap w1 hown1 hf1 hz1
 clear hz1
 go_wp2_with (with_reducible refine wSk 5 ?_)
 refine d0K rfl rfl Tryz.underlying24 j0h [.slice (some ⟨w.heap.size, 0, none⟩) s.size cap] rfl (by simp; rfl) rfl rfl ?_
 intro w2 hh2 hf2 hz2
 clear hz2
 have hfr2 := hf1.then hf2
 have hp2 : Parts w2 [.slice (some ⟨w.heap.size, 0, none⟩) s.size cap] [s.data.toList] := ⟨b0G (hown1.still hf2) hs, trivial⟩
 clear hown1 hf1 hf2
 have hb2 : w.heap.size ≤ w2.heap.size := hfr2.size
 generalize hgw : w.heap.size = g0 at *
 have HG := qH hgw; clear hgw
 generalize w1.heap.size = g1 at *
 rw [v0N]
 go_wp2_with fail
 refine (n0b z0S ap2 _ _ _ _ w2 hh2 hp2 ap4).mono ?_
 rintro e w3 ⟨v3, rfl, hown3, hf3⟩
 have hfr3 := hfr2.then hf3
 have hf3s := hf3.size
 have hown3' := hown3.mono (base' := g0) hb2
 clear hown3 hf3 hfr2 hh2 hp2
 obtain ⟨a3, c3, rfl, -⟩ := d0Z hown3'
 go_wp2_with (with_reducible refine wSk 7 ?_)
 refine b0M rfl rfl _ (p0X a3 32 c3) ?_
 refine k0d rfl rfl rfl [.slice a3 32 c3] rfl ?_
 intro w4 hh4 hf4 hz4
 clear hz4
 go_wp2_with fail
 go_ret
 rw [HG.out]
 exact ⟨_, rfl, Nat.le_trans hb2 hf3s, ⟨_, hh4, hown3'.still hf4⟩, hfr3.then hf4⟩
theorem LogAt.store {w : World} {base g : Nat} {v0 v : Value} {l : List UInt8} (h0 : Has w g [v0] 293) (h : Own w base 5 1 v 32 (bs l)) : LogAt (w.setCell ⟨g, 0, none⟩ v) base g l := by
 refine ⟨v, by simpa using h0.set 0 v, h.keep ((Fr.refl (One g) w).setCell g 0 none v (fun _ => rfl)) (fun k hk (e : k = g) => h.ne h0 ap2 (e ▸ hk))⟩
theorem RLogAt.store {w : World} {g : Nat} {v0 : Value} {l : List UInt8} (h0 : Has w g [v0] 256) : RLogAt (w.setCell ⟨g, 0, none⟩ (.string (mkS l))) g l := by
 simpa [RLogAt] using h0.set 0 (.string (mkS l))
theorem k0t {w w' : World} (h : Fr Nob w w') (g : Nat) (v : Value) : Fr (One g) w (w'.setCell ⟨g, 0, none⟩ v) := (h.mono (fun _ _ t => t.elim)).setCell g 0 none v (fun _ => rfl)
theorem h0k (base g : Nat) (st : List UInt8) (s : ByteArray) (b : Option Addr) (n c : Nat) (l : List UInt8) (w : World) (hs : s.size ≤ 1000000) (hl : LogAt w base g st) (hb : PartIs w (.slice b n c) l) (hbase : base ≤ w.heap.size) :
  Calls Tryz.prog 139 #[.pointer (some ⟨g, 0, none⟩), .string s, .slice b n c] w fun r w' => r = .returned (.tuple #[]) ∧ LogAt w' base g (c0n p0Y [st, s.data.toList, l]) ∧ Fr (One g) w w' := by
 obtain ⟨v, hg, hown⟩ := hl
 obtain ⟨a0, c0, rfl, -⟩ := d0Z hown
 have hc := hg.cell (i := 0) rfl
 go_enter Tryz.func139, Tryz.ntmps139
 go_wp2_with (with_reducible refine wSk 12 ?_)
 refine e0v rfl rfl Tryz.underlying9 Tryz.underlying23 Tryz.underlying5 rfl ap9 w.heap.size (Nat.le_refl _) ?_
 intro cap w1 hown1 hf1 hz1
 clear hz1
 go_wp2_with (with_reducible refine wSk 14 ?_)
 refine d0K rfl rfl Tryz.underlying24 j0h [.slice a0 32 c0, .slice (some ⟨w.heap.size, 0, none⟩) s.size cap, .slice b n c] rfl (by simp; exact ⟨rfl, rfl, rfl⟩) rfl rfl ?_
 intro w2 hh2 hf2 hz2
 clear hz2
 have hfr2 := hf1.then hf2
 have hp2 : Parts w2 [.slice a0 32 c0, .slice (some ⟨w.heap.size, 0, none⟩) s.size cap, .slice b n c] [st, s.data.toList, l] := ⟨b0G (hown.still hfr2) ap2, b0G (hown1.still hf2) hs, hb.still hfr2, trivial⟩
 clear hown1 hf1 hf2
 have hb2 : base ≤ w2.heap.size := Nat.le_trans hbase hfr2.size
 generalize w.heap.size = g0 at *
 generalize w1.heap.size = g1 at *
 rw [v0O]
 go_wp2_with fail
 refine (n0b p0Y ap2 _ _ _ _ w2 hh2 hp2 ap4).mono ?_
 rintro e w3 ⟨v3, rfl, hown3, hf3⟩
 have hfr3 := hfr2.then hf3
 have hg3 := hg.keep hfr3 id
 have hown3' := hown3.mono (base' := base) hb2
 obtain ⟨a3, c3, rfl, -⟩ := d0Z hown3'
 clear hown3 hf3 hfr2 hh2 hp2 hown hc hg
 have hc3 := hg3.cell (i := 0) rfl
 have hz3 := hg3.free 0 ap4
 go_wp2_with fail
 go_end0
 exact ⟨rfl, LogAt.store hg3 hown3', k0t hfr3 g _⟩
theorem v0Q (base g : Nat) (st : List UInt8) (s : ByteArray) (m : Nat) (w : World) (hs : s.size ≤ 1000000) (hm : m ≤ 1024) (hl : LogAt w base g st) (hbase : base ≤ w.heap.size) :
  Calls Tryz.prog 269 #[.pointer (some ⟨g, 0, none⟩), .string s, .int .i64 (m : Int)] w fun r w' => ∃ v, r = .returned (.tuple #[v, .int .i64 0]) ∧ Own w' base 5 1 v m (bs (a0E (c0n z0T [st, s.data.toList]) 31 m)) ∧ LogAt w' base g (c0n i0u [st, s.data.toList]) ∧ Fr (One g) w w' := by
 obtain ⟨v, hg, hown⟩ := hl
 obtain ⟨a0, c0, rfl, -⟩ := d0Z hown
 have hc := hg.cell (i := 0) rfl
 go_enter Tryz.func269, Tryz.ntmps269
 go_wp2_with (with_reducible refine wSk 20 ?_)
 refine e0v rfl rfl Tryz.underlying9 Tryz.underlying23 Tryz.underlying5 rfl ap9 w.heap.size (Nat.le_refl _) ?_
 intro cap w1 hown1 hf1 hz1
 clear hz1
 go_wp2_with (with_reducible refine wSk 21 ?_)
 refine d0K rfl rfl Tryz.underlying24 j0h [.slice a0 32 c0, .slice (some ⟨w.heap.size, 0, none⟩) s.size cap] rfl (by simp; exact ⟨rfl, rfl⟩) rfl rfl ?_
 intro w2 hh2 hf2 hz2
 clear hz2
 have hfr2 := hf1.then hf2
 have hp2 : Parts w2 [.slice a0 32 c0, .slice (some ⟨w.heap.size, 0, none⟩) s.size cap] [st, s.data.toList] := ⟨b0G (hown.still hfr2) ap2, b0G (hown1.still hf2) hs, trivial⟩
 clear hown1 hf1 hf2
 have hb2 : base ≤ w2.heap.size := Nat.le_trans hbase hfr2.size
 generalize w.heap.size = g0 at *
 generalize w1.heap.size = g1 at *
 rw [v0P]
 go_wp2_with fail
 refine (n0b z0T ap2 _ _ _ _ w2 hh2 hp2 ap4).mono ?_
 rintro e w3 ⟨v3, rfl, hown3, hf3⟩
 have hfr3 := hfr2.then hf3
 have hb3 : base ≤ w3.heap.size := Nat.le_trans hb2 hf3.size
 have hg3 := hg.keep hfr3 id
 have hown3' := hown.still hfr3
 have hq3 := b0G hown3 ap2
 obtain ⟨a3, n3, c3, rfl, hn3, hm3, hr3, ho3⟩ := hq3
 have e3 : n3 = 32 := by
  obtain ⟨_, _, hv, -⟩ := d0Z hown3
  cases hv; rfl
 subst e3
 clear hown3 hf3 hfr2 hh2 hp2 hown hc hg hm3
 have hc3 := hg3.cell (i := 0) rfl
 go_wp2_with fail
 refine (o0u a3 32 c3 _ m w3 ap1 ap2 hn3 hr3 ho3).mono ?_
 rintro e w4 ⟨v4, rfl, hown4, hf4⟩
 have hout := hown4.mono (base' := base) hb3
 have hfr4 := hfr3.then hf4
 have hg4 := hg3.keep hf4 id
 have hown4' := hown3'.still hf4
 have hb4 : base ≤ w4.heap.size := Nat.le_trans hb3 hf4.size
 have hc4 := hg4.cell (i := 0) rfl
 clear hown4 hf4 hfr3 hg3 hown3' hr3 ho3 hn3 hc3
 go_wp2_with (with_reducible refine wSk 31 ?_)
 refine e0v rfl rfl Tryz.underlying9 Tryz.underlying23 Tryz.underlying5 rfl ap9 w4.heap.size (Nat.le_refl _) ?_
 intro cap5 w5 hown5 hf5 hz5
 clear hz5
 go_wp2_with (with_reducible refine wSk 32 ?_)
 refine d0K rfl rfl Tryz.underlying24 j0h [.slice a0 32 c0, .slice (some ⟨w4.heap.size, 0, none⟩) s.size cap5] rfl (by simp; exact ⟨rfl, rfl⟩) rfl rfl ?_
 intro w6 hh6 hf6 hz6
 clear hz6
 have hf56 := hf5.then hf6
 have hfr6 := hfr4.then hf56
 have hp6 : Parts w6 [.slice a0 32 c0, .slice (some ⟨w4.heap.size, 0, none⟩) s.size cap5] [st, s.data.toList] := ⟨b0G (hown4'.still hf56) ap2, b0G (hown5.still hf6) hs, trivial⟩
 have hb6 : base ≤ w6.heap.size := Nat.le_trans hb4 hf56.size
 have hg6 := hg4.keep hf56 id
 have hout6 := hout.still hf56
 clear hown5 hf5 hf6 hf56 hfr4 hg4 hown4' hout hc4
 generalize w4.heap.size = g4 at *
 generalize w5.heap.size = g5 at *
 rw [p0Z]
 go_wp2_with fail
 refine (n0b i0u ap2 _ _ _ _ w6 hh6 hp6 ap4).mono ?_
 rintro e w7 ⟨v7, rfl, hown7, hf7⟩
 have hfr7 := hfr6.then hf7
 have hg7 := hg6.keep hf7 id
 have hout7 := hout6.still hf7
 have hown7' := hown7.mono (base' := base) hb6
 obtain ⟨a7, c7, rfl, -⟩ := d0Z hown7'
 obtain ⟨a8, c8, rfl, -⟩ := d0Z hout7
 have hc7 := hg7.cell (i := 0) rfl
 have hz7 := hg7.free 0 ap4
 clear hown7 hf7 hfr6 hg6 hout6 hh6 hp6
 go_wp2_with fail
 go_ret2
 exact ⟨_, rfl, hout7.keep ((Fr.refl (One g) w7).setCell g 0 none _ (fun _ => rfl)) (fun k hk (e : k = g) => hout7.ne hg7 ap2 (e ▸ hk)), LogAt.store hg7 hown7', k0t hfr7 g _⟩
end Go.Proofs.YtpfimiajoifjaaaGreat
namespace Mvp
abbrev B64 : Nat := 18446744073709551616
def lw (a i : Nat) : Nat := a / B64 ^ i % B64
def a0v (n a : Nat) : List Nat := (List.range n).map (lw a)
def mix (A B k : Nat) : Nat := A % B64 ^ k + B / B64 ^ k * B64 ^ k
theorem c0u (k : Nat) : 0 < B64 ^ k := Nat.pow_pos ap2
theorem f0S (a i : Nat) : lw a i < 18446744073709551616 := Nat.mod_lt _ ap2
theorem b0F (n a : Nat) : (a0v n a).length = n := by simp [a0v]
theorem d0h (n a i : Nat) (h : i < n) : (a0v n a)[i]? = some (lw a i) := by simp [a0v, h]
theorem h0l (a i k : Nat) (h : i < k) : lw (a % B64 ^ k) i = lw a i := by
 unfold lw
 obtain ⟨j, rfl⟩ : ∃ j, k = i + (1 + j) := ⟨k - i - 1, by omega⟩
 rw [Nat.pow_add, Nat.mod_mul_right_div_self, Nat.pow_add, Nat.pow_one, Nat.mod_mul_right_mod]
theorem h0m (a k i : Nat) : lw (a / B64 ^ k) i = lw a (k + i) := by
 unfold lw
 rw [Nat.div_div_eq_div_mul, ← Nat.pow_add]
theorem v0R (A B k : Nat) : mix A B k % B64 ^ k = A % B64 ^ k := by
 unfold mix
 rw [Nat.add_mul_mod_self_right, Nat.mod_mod]
theorem v0S (A B k : Nat) : mix A B k / B64 ^ k = B / B64 ^ k := by
 unfold mix
 rw [Nat.add_mul_div_right _ _ (c0u k), Nat.div_eq_of_lt (Nat.mod_lt _ (c0u k)), Nat.zero_add]
theorem i0v (A B k i : Nat) : lw (mix A B k) i = if i < k then lw A i else lw B i := by
 split
 ·rename_i h
  rw [← h0l _ i k h, v0R, h0l _ i k h]
 ·rename_i h
  obtain ⟨j, rfl⟩ : ∃ j, i = k + j := ⟨i - k, by omega⟩
  rw [← h0m, ← h0m, v0S]
theorem h0n {n a b : Nat} (h : ∀ i, i < n → lw a i = lw b i) : a0v n a = a0v n b := by
 unfold a0v
 apply List.map_congr_left
 intro i hi
 exact h i (List.mem_range.1 hi)
theorem q0a (n A B k : Nat) (h : k < n) : (a0v n (mix A B k)).set k (lw A k) = a0v n (mix A B (k + 1)) := by
 have _h := h
 apply List.ext_getElem?
 intro i
 rw [List.getElem?_set]
 rcases Nat.lt_or_ge i n with hi | hi
 ·rw [d0h _ _ _ hi, d0h _ _ _ hi, i0v, i0v, b0F]
  by_cases e : k = i
  ·subst e; simp [h]
  ·rw [if_neg e]
   congr 1
   by_cases h2 : i < k
   ·rw [if_pos h2, if_pos ap1]
   ·rw [if_neg h2, if_neg ap1]
 ·rw [List.getElem?_eq_none (by rw [b0F]; exact hi), List.getElem?_eq_none (by rw [b0F]; exact hi)]
  split
  ·rw [b0F, if_neg ap1]
  ·rfl
theorem g0B (A B : Nat) : mix A B 0 = B := by simp [mix, Nat.mod_one]
theorem q0b (A B k : Nat) (h : B < B64 ^ k) : mix A B k = A % B64 ^ k := by
 unfold mix
 rw [Nat.div_eq_of_lt h, Nat.zero_mul, Nat.add_zero]
theorem q0c (n a : Nat) : a0v n (a % B64 ^ n) = a0v n a := h0n fun i hi => h0l a i n hi
theorem c0Y (a k : Nat) : a % B64 ^ (k + 1) = a % B64 ^ k + B64 ^ k * lw a k := by
 unfold lw
 rw [Nat.pow_succ, Nat.mod_mul]
theorem j0i {n a b : Nat} (h : a0v n a = a0v n b) : a % B64 ^ n = b % B64 ^ n := by
 have hw : ∀ i, i < n → lw a i = lw b i := fun i hi => by
  have h1 := d0h n a i hi
  rw [h, d0h n b i hi] at h1
  exact (Option.some.inj h1).symm
 clear h
 induction n with
 | zero => simp [Nat.mod_one]
 | succ k ih => rw [c0Y, c0Y, ih (fun i hi => hw i ap1), hw k ap1]
def b0f (a b k : Nat) : Nat := (a % B64 ^ k + b % B64 ^ k) / B64 ^ k
theorem q0d (a b : Nat) : b0f a b 0 = 0 := by simp [b0f, Nat.mod_one]
theorem v0T (a b k : Nat) : b0f a b k ≤ 1 := by
 unfold b0f
 have h := c0u k
 have h1 := Nat.mod_lt a h
 have h2 := Nat.mod_lt b h
 generalize B64 ^ k = W at *
 exact Nat.le_of_lt_succ (Nat.div_lt_of_lt_mul ap1)
theorem q0e (a b k : Nat) : b0f a b (k + 1) = (lw a k + lw b k + b0f a b k) / 18446744073709551616 := by
 unfold b0f
 rw [c0Y, c0Y, Nat.pow_succ, ← Nat.div_div_eq_div_mul]
 congr 1
 have e : a % B64 ^ k + B64 ^ k * lw a k + (b % B64 ^ k + B64 ^ k * lw b k) = (a % B64 ^ k + b % B64 ^ k) + B64 ^ k * (lw a k + lw b k) := by rw [Nat.mul_add]; omega
 rw [e, Nat.add_mul_div_left _ _ (c0u k)]
 omega
theorem x0U (a b k : Nat) : lw (a + b) k = (lw a k + lw b k + b0f a b k) % 18446744073709551616 := by
 unfold lw b0f
 have h := c0u k
 have e : a + b = (a % B64 ^ k + b % B64 ^ k) + B64 ^ k * (a / B64 ^ k + b / B64 ^ k) := by
  have h1 := Nat.div_add_mod a (B64 ^ k)
  have h2 := Nat.div_add_mod b (B64 ^ k)
  rw [Nat.mul_add]; omega
 have e2 : (a + b) / B64 ^ k = (a % B64 ^ k + b % B64 ^ k) / B64 ^ k + (a / B64 ^ k + b / B64 ^ k) := by
  conv => lhs; rw [e]
  rw [Nat.add_mul_div_left _ _ h]
 rw [e2]
 generalize (a % B64 ^ k + b % B64 ^ k) / B64 ^ k = x
 generalize a / B64 ^ k = y
 generalize b / B64 ^ k = z
 show (x + (y + z)) % 18446744073709551616 = (y % 18446744073709551616 + z % 18446744073709551616 + x) % 18446744073709551616
 omega
theorem s0z (a b k : Nat) (ha : a < B64 ^ k) (hb : b < B64 ^ k) : b0f a b k = (a + b) / B64 ^ k := by
 unfold b0f; rw [Nat.mod_eq_of_lt ha, Nat.mod_eq_of_lt hb]
def b0e (a b k : Nat) : Nat := if a % B64 ^ k < b % B64 ^ k then 1 else 0
theorem q0f (a b : Nat) : b0e a b 0 = 0 := by simp [b0e, Nat.mod_one]
theorem v0U (a b k : Nat) : b0e a b k ≤ 1 := by unfold b0e; split <;> omega
theorem q0g (a b k : Nat) : b0e a b (k + 1) = if lw a k < lw b k + b0e a b k then 1 else 0 := by
 unfold b0e
 rw [c0Y, c0Y]
 have h := c0u k
 have h1 := Nat.mod_lt a h
 have h2 := Nat.mod_lt b h
 generalize lw a k = x
 generalize lw b k = y
 generalize a % B64 ^ k = p at *
 generalize b % B64 ^ k = q at *
 generalize B64 ^ k = W at *
 rcases Nat.lt_trichotomy x y with hxy | hxy | hxy
 ·obtain ⟨d, rfl⟩ : ∃ d, y = x + 1 + d := ⟨y - x - 1, by omega⟩
  have e : W * (x + 1 + d) = W * x + W + W * d := by rw [Nat.mul_add, Nat.mul_add, Nat.mul_one]
  rw [e]
  rw [if_pos ap1, if_pos ap1]
 ·subst hxy
  by_cases hpq : p < q
  ·rw [if_pos hpq, if_pos ap1, if_pos ap1]
  ·rw [if_neg hpq, if_neg ap1, if_neg ap1]
 ·obtain ⟨d, rfl⟩ : ∃ d, x = y + 1 + d := ⟨x - y - 1, by omega⟩
  have e : W * (y + 1 + d) = W * y + W + W * d := by rw [Nat.mul_add, Nat.mul_add, Nat.mul_one]
  rw [e]
  rw [if_neg ap1, if_neg (by split <;> omega)]
theorem x0V (n a b k : Nat) (hb : b < B64 ^ n) (hk : k < n) : lw (a + B64 ^ n - b) k = (lw a k + 18446744073709551616 - lw b k - b0e a b k) % 18446744073709551616 := by
 obtain ⟨j, rfl⟩ : ∃ j, n = k + (1 + j) := ⟨n - k - 1, by omega⟩
 have hW := c0u k
 have hT := c0u j
 have hN : B64 ^ (k + (1 + j)) = B64 ^ k * (B64 * B64 ^ j) := by rw [Nat.pow_add, Nat.pow_add, Nat.pow_one]
 rw [hN] at hb ⊢
 have ha1 := Nat.div_add_mod a (B64 ^ k)
 have hb1 := Nat.div_add_mod b (B64 ^ k)
 have ha2 := Nat.mod_lt a hW
 have hb2 := Nat.mod_lt b hW
 have hbh : b / B64 ^ k < B64 * B64 ^ j := Nat.div_lt_of_lt_mul hb
 unfold lw b0e
 generalize a / B64 ^ k = x at *
 generalize b / B64 ^ k = y at *
 generalize a % B64 ^ k = p at *
 generalize b % B64 ^ k = q at *
 generalize B64 ^ j = T at *
 generalize B64 ^ k = W at *
 have hq : ∃ c, c ≤ 1 ∧ (c = if p < q then 1 else 0) ∧ p + c * W < q + W ∧ q ≤ p + c * W := by
  by_cases h : p < q
  ·exact ⟨1, by omega, by rw [if_pos h], by omega, by omega⟩
  ·exact ⟨0, by omega, by rw [if_neg h], by omega, by omega⟩
 obtain ⟨c, hc1, hc2, hc3, hc4⟩ := hq
 rw [← hc2]
 have hyc : y + c ≤ x + B64 * T := by omega
 have e : (a + W * (B64 * T) - b) / W = x + B64 * T - y - c := by
  have h1 : a + W * (B64 * T) - b = W * (x + B64 * T - y - c) + (p + c * W - q) := by
   have h2 : W * (x + B64 * T - y - c) + W * (y + c) = W * x + W * (B64 * T) := by
    rw [← Nat.mul_add, ← Nat.mul_add]; congr 1; omega
   have h3 : W * (y + c) = W * y + c * W := by rw [Nat.mul_add, Nat.mul_comm W c]
   generalize W * (x + B64 * T - y - c) = u at *
   generalize W * (B64 * T) = v at *
   generalize W * (y + c) = z at *
   omega
  rw [h1, Nat.mul_add_div hW, Nat.div_eq_of_lt ap1, Nat.add_zero]
 rw [e]
 show (x + 18446744073709551616 * T - y - c) % 18446744073709551616 = (x % 18446744073709551616 + 18446744073709551616 - y % 18446744073709551616 - c) % 18446744073709551616
 have hyc' : y + c ≤ x + 18446744073709551616 * T := hyc
 omega
theorem g0C (a b k : Nat) (ha : a < B64 ^ k) (hb : b < B64 ^ k) : b0e a b k = if a < b then 1 else 0 := by
 unfold b0e; rw [Nat.mod_eq_of_lt ha, Nat.mod_eq_of_lt hb]
def b0a (L x n k : Nat) : Nat := (L % B64 ^ k + x * (n % B64 ^ k)) / B64 ^ k
theorem q0h (L x n : Nat) : b0a L x n 0 = 0 := by simp [b0a, Nat.mod_one]
theorem q0i (L x n k : Nat) (hx : x < 18446744073709551616) : b0a L x n k < 18446744073709551616 := by
 unfold b0a
 have h := c0u k
 have h1 := Nat.mod_lt L h
 have h2 := Nat.mod_lt n h
 have h3 : x * (n % B64 ^ k) ≤ 18446744073709551615 * (n % B64 ^ k) := Nat.mul_le_mul_right _ ap1
 generalize B64 ^ k = W at *
 refine Nat.div_lt_of_lt_mul ?_
 omega
theorem h0o (L x n k : Nat) : b0a L x n (k + 1) = (lw L k + x * lw n k + b0a L x n k) / 18446744073709551616 := by
 unfold b0a
 rw [c0Y, c0Y, Nat.pow_succ, ← Nat.div_div_eq_div_mul]
 congr 1
 have e : L % B64 ^ k + B64 ^ k * lw L k + x * (n % B64 ^ k + B64 ^ k * lw n k) = (L % B64 ^ k + x * (n % B64 ^ k)) + B64 ^ k * (lw L k + x * lw n k) := by
  rw [Nat.mul_add, Nat.mul_add, Nat.mul_left_comm x]; omega
 rw [e, Nat.add_mul_div_left _ _ (c0u k)]
 omega
theorem l0X (L x n k : Nat) : lw (L + x * n) k = (lw L k + x * lw n k + b0a L x n k) % 18446744073709551616 := by
 unfold lw b0a
 have h := c0u k
 have e : L + x * n = (L % B64 ^ k + x * (n % B64 ^ k)) + B64 ^ k * (L / B64 ^ k + x * (n / B64 ^ k)) := by
  have h1 := Nat.div_add_mod L (B64 ^ k)
  have h2 := Nat.div_add_mod n (B64 ^ k)
  have h3 : x * n = x * (B64 ^ k * (n / B64 ^ k)) + x * (n % B64 ^ k) := by rw [← Nat.mul_add, h2]
  have h4 : x * (B64 ^ k * (n / B64 ^ k)) = B64 ^ k * (x * (n / B64 ^ k)) := Nat.mul_left_comm _ _ _
  rw [Nat.mul_add]; omega
 have e2 : (L + x * n) / B64 ^ k = (L % B64 ^ k + x * (n % B64 ^ k)) / B64 ^ k + (L / B64 ^ k + x * (n / B64 ^ k)) := by
  conv => lhs; rw [e]
  rw [Nat.add_mul_div_left _ _ h]
 rw [e2]
 generalize (L % B64 ^ k + x * (n % B64 ^ k)) / B64 ^ k = u
 generalize L / B64 ^ k = y
 generalize n / B64 ^ k = z
 show (u + (y + x * z)) % 18446744073709551616 = (y % 18446744073709551616 + x * (z % 18446744073709551616) + u) % 18446744073709551616
 have e3 : x * (z % 18446744073709551616) % 18446744073709551616 = x * z % 18446744073709551616 := Nat.mul_mod_mod _ _ _
 generalize x * (z % 18446744073709551616) = s at *
 generalize x * z = t at *
 omega
theorem s0A (L x n k : Nat) (hL : L < B64 ^ k) (hn : n < B64 ^ k) : b0a L x n k = (L + x * n) / B64 ^ k := by
 unfold b0a; rw [Nat.mod_eq_of_lt hL, Nat.mod_eq_of_lt hn]
theorem o0w (p t c : Nat) (hp : p ≤ 18446744073709551615 * 18446744073709551615) (hc : c < 18446744073709551616) :
  (t + (p % 18446744073709551616 + c) % 18446744073709551616) % 18446744073709551616 = (t + p + c) % 18446744073709551616 ∧
  p / 18446744073709551616 + (p % 18446744073709551616 + c) / 18446744073709551616 < 18446744073709551616 ∧
  p / 18446744073709551616 + (p % 18446744073709551616 + c) / 18446744073709551616 + (t + (p % 18446744073709551616 + c) % 18446744073709551616) / 18446744073709551616 = (t + p + c) / 18446744073709551616 := by
 omega
theorem o0x (p t c : Nat) (hp : p ≤ 18446744073709551615 * 18446744073709551615) (hc : c < 18446744073709551616) :
  ∃ hi lo lo2 c1 t2 c2 : Nat, p / 18446744073709551616 = hi ∧ p % 18446744073709551616 = lo ∧ (lo + c) % 18446744073709551616 = lo2 ∧ (lo + c) / 18446744073709551616 = c1 ∧ hi + c1 < 18446744073709551616 ∧
   (t + lo2) % 18446744073709551616 = t2 ∧ (t + lo2) / 18446744073709551616 = c2 ∧ t2 = (t + p + c) % 18446744073709551616 ∧ hi + c1 + c2 = (t + p + c) / 18446744073709551616 := by
 obtain ⟨h1, h2, h3⟩ := o0w p t c hp hc
 exact ⟨_, _, _, _, _, _, rfl, rfl, rfl, rfl, h2, rfl, rfl, h1, h3⟩
theorem l0Y {x y : Nat} (hx : x < 18446744073709551616) (hy : y < 18446744073709551616) : x * y ≤ 18446744073709551615 * 18446744073709551615 :=
 Nat.mul_le_mul ap1 ap1
theorem l0Z (P Q i j : Nat) (h : j < i) : lw (P + B64 ^ i * Q) j = lw P j := by
 rw [← h0l _ j i h, Nat.add_mul_mod_self_left, h0l _ j i h]
theorem h0p (P Q i k : Nat) : lw (P + B64 ^ i * Q) (i + k) = lw (P / B64 ^ i + Q) k := by
 rw [← h0m, Nat.add_mul_div_left _ _ (c0u i)]
theorem g0i (a n i : Nat) (h : a < B64 ^ n) (hi : n ≤ i) : lw a i = 0 := by
 unfold lw
 rw [Nat.div_eq_of_lt (Nat.lt_of_lt_of_le h (Nat.pow_le_pow_right ap2 hi)), Nat.zero_mod]
theorem s0B (a b i : Nat) : a % B64 ^ i * b + B64 ^ i * (lw a i * b) = a % B64 ^ (i + 1) * b := by
 rw [c0Y, Nat.add_mul, Nat.mul_assoc]
theorem n0c (V x n : Nat) (hn : n < B64 ^ 4) (hV : V + x * n < B64 ^ 6) (hVV : V < B64 ^ 6) :
  (lw V 4 + b0a V x n 4) % 18446744073709551616 = lw (V + x * n) 4 ∧ lw V 5 + (lw V 4 + b0a V x n 4) / 18446744073709551616 = lw (V + x * n) 5 ∧ lw V 5 + (lw V 4 + b0a V x n 4) / 18446744073709551616 < 18446744073709551616 := by
 have z4 : lw n 4 = 0 := g0i n 4 4 hn ap2
 have z5 : lw n 5 = 0 := g0i n 4 5 hn ap2
 have h4 := l0X V x n 4
 have h5 := l0X V x n 5
 have c5 := h0o V x n 4
 have c6 := h0o V x n 5
 rw [z4, Nat.mul_zero, Nat.add_zero] at h4 c5
 rw [z5, Nat.mul_zero, Nat.add_zero] at h5 c6
 have hc6 : b0a V x n 6 = 0 := by
  rw [s0A V x n 6 hVV (Nat.lt_trans hn ap2)]
  exact Nat.div_eq_of_lt hV
 rw [hc6] at c6
 rw [c5] at h5 c6
 try rw [Nat.add_zero] at h5
 try rw [Nat.add_zero] at c6
 have : lw V 5 + (lw V 4 + b0a V x n 4) / 18446744073709551616 < 18446744073709551616 := by omega
 exact ⟨h4.symm, by rw [h5, Nat.mod_eq_of_lt this], this⟩
theorem v0V (V : Nat) : lw V 0 = V % 18446744073709551616 := by simp [lw]
def a0F (M neg b T x : Nat) : Nat := (T + x * b + ((T + x * b) % 18446744073709551616 * neg % 18446744073709551616) * M) / 18446744073709551616
def a0z (M neg b a : Nat) : Nat → Nat
 | 0 => 0
 | k + 1 => a0F M neg b (a0z M neg b a k) (lw a k)
theorem m0a (M neg b T x : Nat) (hneg : (M * neg + 1) % 18446744073709551616 = 0) :
  a0F M neg b T x * 18446744073709551616 = T + x * b + ((T + x * b) % 18446744073709551616 * neg % 18446744073709551616) * M := by
 unfold a0F
 generalize hV : T + x * b = V
 generalize hm : V % 18446744073709551616 * neg % 18446744073709551616 = m
 have key : (V + m * M) % 18446744073709551616 = 0 := by
  have h1 : (m * M) % 18446744073709551616 = (V * neg * M) % 18446744073709551616 := by
   rw [← hm, Nat.mod_mul_mod, Nat.mul_assoc, Nat.mod_mul_mod, ← Nat.mul_assoc]
  have h2 : V + V * neg * M = V * (M * neg + 1) := by rw [Nat.mul_add, Nat.mul_one, Nat.mul_assoc, Nat.mul_comm neg, Nat.add_comm]
  rw [Nat.add_mod, h1, ← Nat.add_mod, h2, Nat.mul_mod, hneg, Nat.mul_zero, Nat.zero_mod]
 have := Nat.div_add_mod (V + m * M) 18446744073709551616
 rw [key, Nat.add_zero, Nat.mul_comm] at this
 exact this
theorem s0C (M neg b T x : Nat) (_ : 0 < M) (hT : T < b + M) (hx : x < 18446744073709551616) : a0F M neg b T x < b + M := by
 unfold a0F
 refine Nat.div_lt_of_lt_mul ?_
 generalize hm : (T + x * b) % 18446744073709551616 * neg % 18446744073709551616 = m
 have hm' : m < 18446744073709551616 := by rw [← hm]; exact Nat.mod_lt _ ap2
 have h1 : x * b ≤ 18446744073709551615 * b := Nat.mul_le_mul_right _ ap1
 have h2 : m * M ≤ 18446744073709551615 * M := Nat.mul_le_mul_right _ ap1
 omega
theorem n0d (M neg b a k : Nat) (hM : 0 < M) : a0z M neg b a k < b + M := by
 induction k with
 | zero => show 0 < _; omega
 | succ k ih => exact s0C _ _ _ _ _ hM ih (f0S a k)
theorem q0j (M neg b a k : Nat) (hneg : (M * neg + 1) % 18446744073709551616 = 0) : a0z M neg b a k * B64 ^ k % M = a % B64 ^ k * b % M := by
 induction k with
 | zero => simp [a0z, Nat.mod_one]
 | succ k ih =>
  show a0F _ _ _ _ _ * B64 ^ (k + 1) % M = _
  rw [← s0B, Nat.pow_succ, Nat.mul_comm (B64 ^ k), ← Nat.mul_assoc, m0a M neg b _ _ hneg]
  generalize (a0z M neg b a k + lw a k * b) % 18446744073709551616 * neg % 18446744073709551616 = m
  have e : (a0z M neg b a k + lw a k * b + m * M) * B64 ^ k = a0z M neg b a k * B64 ^ k + B64 ^ k * (lw a k * b) + M * (m * B64 ^ k) := by
   rw [Nat.add_mul, Nat.add_mul, Nat.mul_comm (lw a k * b), Nat.mul_right_comm m, Nat.mul_comm (m * B64 ^ k)]
  rw [e, Nat.add_mul_mod_self_left, Nat.add_mod, ih, ← Nat.add_mod]
theorem o0y (M neg Ri a b : Nat) (_ : 0 < M) (ha : a < B64 ^ 4) (hneg : (M * neg + 1) % 18446744073709551616 = 0) (hRi : B64 ^ 4 * Ri % M = 1 % M) :
  a0z M neg b a 4 % M = a * b * Ri % M := by
 have h := q0j M neg b a 4 hneg
 rw [Nat.mod_eq_of_lt ha] at h
 generalize a0z M neg b a 4 = T at *
 have h1 : T * B64 ^ 4 * Ri % M = a * b * Ri % M := by rw [Nat.mul_mod, h, ← Nat.mul_mod]
 rw [← h1, Nat.mul_assoc, Nat.mul_mod, hRi, ← Nat.mul_mod, Nat.mul_one]
theorem o0z (T M : Nat) (h : T < 2 * M) : T % M = if T < M then T else T - M := by
 split
 ·rename_i h'; exact Nat.mod_eq_of_lt h'
 ·rename_i h'; rw [Nat.mod_eq_sub_mod ap1, Nat.mod_eq_of_lt ap1]
end Mvp
namespace Go.Mv
open Go.RowKit Mvp
variable {P : Program}
def us (l : List Nat) : List Value := l.map fun (x : Nat) => .int .u64 (x : Int)
theorem q0k (l : List Nat) : (us l).length = l.length := by simp [us]
theorem x0W (l : List Nat) (i x : Nat) (h : l[i]? = some x) : (us l)[i]? = some (.int .u64 (x : Int)) := by simp [us, h]
theorem u0E (l : List Nat) (i : Nat) (x : Nat) : (us l).set i (.int .u64 (x : Int)) = us (l.set i x) := by simp [us]
theorem x0X (l : List Nat) : ∀ v ∈ us l, v.oneCell' = true := by intro v hv; simp [us] at hv; obtain ⟨x, _, rfl⟩ := hv; rfl
def cw (n a : Nat) : List Value := us (a0v n a)
theorem a0g (n a : Nat) : (cw n a).length = n := by rw [cw, q0k, b0F]
theorem c0d (n a i : Nat) (h : i < n) : (cw n a)[i]? = some (.int .u64 (lw a i : Nat)) := x0W _ _ _ (d0h n a i h)
theorem g0j (n A B k : Nat) (h : k < n) : (cw n (mix A B k)).set k (.int .u64 (lw A k : Nat)) = cw n (mix A B (k + 1)) := by
 rw [cw, u0E, q0a n A B k h, cw]
theorem a0f (n a : Nat) : ∀ v ∈ cw n a, v.oneCell' = true := x0X _
theorem cw_mod (n a : Nat) : cw n (a % B64 ^ n) = cw n a := by rw [cw, q0c, cw]
def i4 (a : Nat) : Value := .agg (cw 4 a).toArray
theorem x0Y {n a b : Nat} (h : ∀ i, i < n → lw a i = lw b i) : cw n a = cw n b := by rw [cw, h0n h, cw]
theorem j0j (A B n : Nat) : cw n (mix A B n) = cw n A := x0Y fun i hi => by rw [i0v, if_pos hi]
theorem j0k (a : Nat) : (i4 a).cells.toList = cw 4 a := rfl
theorem e0l (n : Nat) : cw n 0 = List.replicate n (.int .u64 0) := by
 apply List.ext_getElem?
 intro i
 rcases Nat.lt_or_ge i n with h | h
 ·rw [c0d _ _ _ h, List.getElem?_replicate, if_pos h]; simp [lw]
 ·rw [List.getElem?_eq_none (by rw [a0g]; exact h), List.getElem?_replicate, if_neg ap1]
theorem e0m {t e : TypeId} {m : Nat} (ht : P.underlying t = some (.array m e)) (he : P.underlying e = some (.int .u64)) (hi0 : (P.info? e).map (·.size) = some 1) (a k : Nat) (hk : k < m) (ki : IntKind) (w : World) :
  (Instr.index t (.agg (cw m a).toArray) (.int ki (k : Int))).run P w = .ok (.int .u64 (lw a k : Nat)) w := by
 obtain ⟨j, hj, hsz⟩ : ∃ j, P.info? e = some j ∧ j.size = 1 := by simpa using hi0
 have h1 : (0 : Int) ≤ (k : Int) ∧ (k : Int) < (m : Int) := by omega
 have hv := c0d m a k hk
 simp [Instr.index, asIntOf, run_underlying ht, sizeOf, typeInfo, hj, hsz, part, isAgg, run_underlying he, h1, hv]
 intro h; omega
theorem b0O {fn : Func} {p : Tmp} {ty : TypeId} {s : Tmp} (h : fn.results = #[.cell p ty, .tmp s]) {tmps : Array Value} {w : World} {g : Nat} {L : List Value} {T : TypeId}
  (hp : tmps.getD p undef = .pointer (some ⟨g, 0, none⟩)) (hg : Has w g L T) {n : Nat} {e : TypeId} (hu : P.underlying ty = some (.array n e)) (hi : (P.info? ty).map (·.size) = some L.length) {v : Value} (hv : tmps.getD s undef = v) :
  (results fn tmps).run P w = .ok (.tuple #[.agg L.toArray, v]) w := by
 obtain ⟨lo, hi', hh, -⟩ := hg
 have hp' : tmps[p]?.getD undef = .pointer (some ⟨g, 0, none⟩) := by simpa using hp
 have hv' : tmps[s]?.getD undef = v := by simpa using hv
 simp [results, h, hp', hv', asAddr, run_loadVar_row w g T ty L.toArray _ _ hh hu rfl (by simpa using hi)]
theorem s0D (a : Nat) : i4 a = .agg #[.int .u64 (lw a 0 : Nat), .int .u64 (lw a 1 : Nat), .int .u64 (lw a 2 : Nat), .int .u64 (lw a 3 : Nat)] := rfl
theorem u0F (V : Nat) : i4 (V % B64 ^ 4) = i4 V := by rw [i4, cw_mod, ← i4]
theorem St.setCells {S : Nat → Prop} {w0 w : World} {bl : List (Nat × List Value × TypeId)} (h : St S w0 w bl) (i : Nat) {g : Nat} {L : List Value} {T : TypeId} (hb : bl[i]? = some (g, L, T)) (cs : List Value) (hn : cs.length = L.length) : St S w0 (w.setCells g 0 cs) (bl.set i (g, cs, T)) := by
 obtain ⟨k1, k2, _⟩ := Has.setCells cs 0 L w (h.at i hb) ap1
 rw [b0L _ _ hn] at k1
 exact h.put i hb k2 k1
theorem q0l (p a : Nat) (h : a ≤ p) : i4 (p + B64 ^ 4 - a) = i4 (p - a) := by
 rw [← u0F, show p + B64 ^ 4 - a = (p - a) + B64 ^ 4 by omega, Nat.add_mod_right, u0F]
theorem c0k (n : Nat) (h : n < 18446744073709551616) : .agg #[.int .u64 (n : Int), .int .u64 0, .int .u64 0, .int .u64 0] = i4 n := by
 have h0 : lw n 0 = n := by simp only [lw, Nat.pow_zero, Nat.div_one]; exact Nat.mod_eq_of_lt h
 have ht := fun i (hi : 1 ≤ i) => g0i n 1 i (by rw [Nat.pow_one]; exact h) hi
 rw [s0D, h0, ht 1 ap2, ht 2 ap2, ht 3 ap2]
 rfl
end Go.Mv
namespace Go.Proofs.YtpfimiajoifjaaaGreat
open Go.RowKit Go.Mv Mvp
def Tryz.lays264_ren : Go.Shelf.Ren := ⟨fun | 264 => 237 | n => n, fun | 46 => 206 | 53 => 44 | n => n, fun | n => n⟩
theorem Tryz.lays264 : Go.Proofs.Lays.n264 Tryz.prog Tryz.lays264_ren := {
 mixed := by kernel_rfl
 f264 := Tryz.func237.trans (congrArg some ap0)
 t46 := Tryz.underlying206
 a46 := Tryz.isAgg206
 z46 := Tryz.sizeOf206
 v46 := Tryz.zeroValue206
 t53 := Tryz.underlying44
 a53 := Tryz.isAgg44
 z53 := Tryz.sizeOf44
 v53 := Tryz.zeroValue44 }
theorem k0u (x y c : Nat) (hc : c ≤ 1) (w : World) : (callFunc 238 #[.int .u64 x, .int .u64 y, .int .u64 c]).run Tryz.prog w =
      .ok (.value (.tuple #[.int .u64 (((x + y + c) % 18446744073709551616 : Nat) : Int), .int .u64 (((x + y + c) / 18446744073709551616 : Nat) : Int)])) w := by
  rw [run_callFunc_extern Tryz.func238 ap0 ap0 ap0 (e := add64Entry) ap0, run_add64 x y c ap1 ap1 ap1 ap1]
  simp only [Result.andThen]
  congr 5 <;> omega
theorem f0T (x y s c : Nat) (h1 : (x + y) % 18446744073709551616 = s) (h2 : (x + y) / 18446744073709551616 = c) (w : World) : (callFunc 238 #[.int .u64 x, .int .u64 y, .int .u64 0]).run Tryz.prog w =
      .ok (.value (.tuple #[.int .u64 (s : Int), .int .u64 (c : Int)])) w := by
  have h := k0u x y 0 ap1 w
  rw [Nat.add_zero, h1, h2] at h
  exact h
theorem q0m (x y b : Nat) (hb : b ≤ 1) (w : World) : (callFunc 233 #[.int .u64 x, .int .u64 y, .int .u64 b]).run Tryz.prog w =
      .ok (.value (.tuple #[.int .u64 (((x + 18446744073709551616 - y - b) % 18446744073709551616 : Nat) : Int), .int .u64 ((if x < y + b then 1 else 0 : Nat) : Int)])) w := by
  rw [run_callFunc_extern Tryz.func233 ap0 ap0 ap0 (e := sub64Entry) ap0, run_sub64 x y b hb]
  rfl
theorem q0n (x y : Nat) (hx : x < 18446744073709551616) (hy : y < 18446744073709551616) (w : World) :
  Calls Tryz.prog 237 #[.int .u64 x, .int .u64 y] w fun e w' => e = .returned (.tuple #[.int .u64 ((x * y / 18446744073709551616 : Nat) : Int), .int .u64 ((x * y % 18446744073709551616 : Nat) : Int)]) ∧ w = w' :=
 (Any.bits_Mul64 Tryz.lays264 x y hx hy w).mono fun _ _ h => ⟨h.1, h.2.symm⟩
theorem d0r : (Tryz.prog.info? 44).map (·.size) = some 1 := by kernel_rfl
end Go.Proofs.YtpfimiajoifjaaaGreat
namespace Mvp
def cP : Nat := 4294968273
def cQ : Nat := 4624529908474429119 + 4994812053365940164 * B64 + B64 ^ 2
def pP : Nat := B64 ^ 4 - cP
def pQ : Nat := B64 ^ 4 - cQ
end Mvp
namespace Mvp
structure Md where
 M : Nat
 neg : Nat
 Ri : Nat
structure Md.Ok (m : Md) : Prop where
 one : 1 < m.M
 lt : m.M < B64 ^ 4
 negLt : m.neg < 18446744073709551616
 neg : (m.M * m.neg + 1) % 18446744073709551616 = 0
 inv : B64 ^ 4 * m.Ri % m.M = 1
def mP : Md := ⟨pP, 15580212934572586289, 91248989341183975618893650062416139444822672217621753343178995607984094583082⟩
def mQ : Md := ⟨pQ, 5408259542528602431, 98562742561918706241446412617699626731164144128788972284189895985653995782166⟩
theorem c0N : mP.Ok := ⟨by decide, by decide, by decide, by decide, by decide⟩
theorem v0W : mQ.Ok := ⟨by decide, by decide, by decide, by decide, by decide⟩
theorem m0b (T b M x V mm : Nat) (hb : b < M) (hM : M < B64 ^ 4) (hT : T < b + M) (hx : x < 18446744073709551616) (hV : T + x * b = V) (hm : mm < 18446744073709551616) :
  T < B64 ^ 5 ∧ T + x * b < B64 ^ 6 ∧ V < B64 ^ 6 ∧ V + mm * M < B64 ^ 6 := by
 have h1 : x * b ≤ 18446744073709551615 * b := Nat.mul_le_mul_right _ ap1
 have h2 : mm * M ≤ 18446744073709551615 * M := Nat.mul_le_mul_right _ ap1
 have e4 : B64 ^ 5 = 18446744073709551616 * B64 ^ 4 := by rw [Nat.pow_succ, Nat.mul_comm]
 have e5 : B64 ^ 6 = 18446744073709551616 * B64 ^ 5 := by rw [Nat.pow_succ, Nat.mul_comm]
 generalize B64 ^ 6 = R6 at *
 generalize B64 ^ 5 = R5 at *
 generalize B64 ^ 4 = R4 at *
 omega
theorem q0o (T : Nat) (h2 : T < 2 * B64 ^ 4) (h : ¬ T < B64 ^ 4) : lw T 4 = 1 := by
 have h0 := c0u 4
 have hd : T / B64 ^ 4 = 1 := by
  generalize B64 ^ 4 = R at *
  have h1 : T - R < R := by omega
  rw [show T = (T - R) + R by omega, Nat.add_div_right _ h0, Nat.div_eq_of_lt h1]
 unfold lw
 rw [hd]; rfl
theorem i0w (T M : Nat) (hM : M < B64 ^ 4) (hT : T < 2 * M) :
  (T < M → lw T 4 = 0 ∧ b0e T M 4 = 1 ∧ Go.Mv.cw 4 (T % M) = Go.Mv.cw 4 T) ∧
  (¬ T < M → Go.Mv.cw 4 (T % M) = Go.Mv.cw 4 (T + B64 ^ 4 - M) ∧ (T < B64 ^ 4 → lw T 4 = 0 ∧ b0e T M 4 = 0)) := by
 constructor
 ·intro h
  exact ⟨g0i T 4 4 (Nat.lt_trans h hM) (Nat.le_refl _), by rw [g0C _ _ _ (Nat.lt_trans h hM) hM, if_pos h], by rw [Nat.mod_eq_of_lt h]⟩
 ·intro h
  refine ⟨?_, fun h4 => ⟨g0i T 4 4 h4 (Nat.le_refl _), by rw [g0C _ _ _ h4 hM, if_neg h]⟩⟩
  rw [o0z T M hT, if_neg h, ← Go.Mv.cw_mod 4 (T + B64 ^ 4 - M), show T + B64 ^ 4 - M = (T - M) + B64 ^ 4 by omega, Nat.add_mod_right, Go.Mv.cw_mod]
theorem o0A (M neg b a : Nat) : a0z M neg b a 0 = 0 := rfl
theorem o0B (M neg b a k : Nat) : a0z M neg b a (k + 1) = (a0z M neg b a k + lw a k * b + ((a0z M neg b a k + lw a k * b) % 18446744073709551616 * neg % 18446744073709551616) * M) / 18446744073709551616 := rfl
end Mvp
namespace Go.Mv
open Go.RowKit Mvp
def mdL (m : Md) : List Value := cw 4 m.M ++ ([.int .u64 (m.neg : Int)] ++ (cw 4 (B64 ^ 4 % m.M) ++ cw 4 (B64 ^ 4 * B64 ^ 4 % m.M)))
theorem j0U (m : Md) : ((mdL m).drop 0).take (cw 4 m.M).length = cw 4 m.M := by simp [mdL]
theorem x0Z (m : Md) : ((mdL m).drop 5).take (cw 4 (B64 ^ 4 % m.M)).length = cw 4 (B64 ^ 4 % m.M) := by
 have h : (cw 4 m.M ++ [Value.int .u64 (m.neg : Int)]).length = 5 := by rw [List.length_append, a0g]; rfl
 rw [mdL, ← List.append_assoc, List.drop_append_of_le_length ap1, List.drop_of_length_le ap1, List.nil_append]
 simp
theorem y0a (m : Md) : ((mdL m).drop 9).take (cw 4 (B64 ^ 4 * B64 ^ 4 % m.M)).length = cw 4 (B64 ^ 4 * B64 ^ 4 % m.M) := by
 have h : (cw 4 m.M ++ ([Value.int .u64 (m.neg : Int)] ++ cw 4 (B64 ^ 4 % m.M))).length = 9 := by rw [List.length_append, List.length_append, a0g, a0g]; rfl
 have e : mdL m = (cw 4 m.M ++ ([Value.int .u64 (m.neg : Int)] ++ cw 4 (B64 ^ 4 % m.M))) ++ cw 4 (B64 ^ 4 * B64 ^ 4 % m.M) := by simp [mdL]
 rw [e, List.drop_append_of_le_length ap1, List.drop_of_length_le ap1, List.nil_append, List.take_of_length_le (Nat.le_refl _)]
theorem y0b (m : Md) : (mdL m)[4]? = some (.int .u64 (m.neg : Int)) := by
 rw [mdL, List.getElem?_append_right (by rw [a0g]; exact Nat.le_refl _), a0g]; rfl
theorem y0c (V : Nat) (h : V < B64 ^ 6) : (splice (cw 6 V) 0 (((cw 6 V).drop 1).take 5)).set 5 (.int .u64 0) = cw 6 (V / 18446744073709551616) := by
 have e : V / 18446744073709551616 = V / B64 ^ 1 := by rw [Nat.pow_one]
 have h6 : lw V 6 = 0 := g0i V 6 6 h (Nat.le_refl _)
 have hw := fun i => h0m V 1 i
 rw [e]
 show _ = [Value.int .u64 (lw (V / B64 ^ 1) 0 : Nat), Value.int .u64 (lw (V / B64 ^ 1) 1 : Nat), Value.int .u64 (lw (V / B64 ^ 1) 2 : Nat), Value.int .u64 (lw (V / B64 ^ 1) 3 : Nat), Value.int .u64 (lw (V / B64 ^ 1) 4 : Nat), Value.int .u64 (lw (V / B64 ^ 1) 5 : Nat)]
 rw [hw 0, hw 1, hw 2, hw 3, hw 4, hw 5, show 1 + 5 = 6 from rfl, h6]
 rfl
theorem v0X (V : Nat) : ((cw 6 V).drop 0).take (cw 4 V).length = cw 4 V := rfl
end Go.Mv
namespace Go.Proofs.YtpfimiajoifjaaaGreat
section
open Go.RowKit Go.Mv Mvp
def e0V : List UInt8 := [99, 104, 97, 108, 108, 101, 110, 103, 101]
def z0Z (label : List UInt8) : List UInt8 := c0n z0S [label]
end
section
open Go.RowKit Go.Mv Mvp
attribute [local irreducible] a0v lw mix cw b0e b0f b0a
theorem _root_.ap5 {p : Prop} (h : p := by rw [e0l]; rfl) : p := h
theorem d0i (a b : Nat) (w : World) (hb : b < B64 ^ 4) :
  Calls Tryz.prog 228 #[i4 a, i4 b] w fun e w' => e = .returned (.tuple #[i4 (a + B64 ^ 4 - b), .int .u64 (b0e a b 4 : Nat)]) ∧ Fr Nob w w' := by
 have HB := qH hb; clear hb
 have st0 := St.start Nob w
 go_enter Tryz.func228, Tryz.ntmps228
 go_wp2_with (with_reducible refine wSk 2 ?_)
 refine a0r st0 rfl rfl rfl (cw 4 a) rfl ?_
 intro g2 w1 st1
 clear st0
 go_wp2_with (with_reducible refine wSk 3 ?_)
 refine a0r st1 rfl rfl rfl (cw 4 b) rfl ?_
 intro g3 w2 st2
 clear st1
 go_wp2_with (with_reducible refine wSk 4 ?_)
 refine a0b st2 rfl rfl (z := zAd) ap0 (cw 4 0) ap5 ?_
 intro g4 w3 st3
 clear st2
 go_wp2
 go_loopw [5, 7] (fun c i wr => ∃ k : Nat, k ≤ 4 ∧ i = .int .i64 (k : Int) ∧ c = .int .u64 (b0e a b k : Nat) ∧ St Nob w wr [(g2, cw 4 a, 167), (g3, cw 4 b, 167), (g4, cw 4 (mix (a + B64 ^ 4 - b) 0 k), 167)]) (fun _ i _ => 4 - (intOf i).toNat)
 case atStart => exact ⟨0, by omega, rfl, by rw [q0f]; rfl, by rw [g0B]; exact st3⟩
 case round =>
  obtain ⟨k, hk, rfl, rfl, st⟩ := hrel
  clear st3
  by_cases hlt : k < 4
  ·have hltI : (k : Int) < 4 := by omega
   have c1 := (st.at 0 rfl).cell (c0d 4 a k hlt)
   have c2 := (st.at 1 rfl).cell (c0d 4 b k hlt)
   obtain ⟨v3, c3, f3⟩ := (st.at 2 rfl).ready (i := k) (by rw [a0g]; exact hlt)
   have e1 := fun wx => q0m (lw a k) (lw b k) (b0e a b k) (v0U a b k) wx
   go_wp2
   go_region
   all_goals
    go_wp2
    go_roundw
    case rel =>
     have h1 := st.set 2 rfl k (.int .u64 (lw (a + B64 ^ 4 - b) k : Nat))
     rw [g0j _ _ _ _ hlt, x0V 4 a b k HB.out hlt] at h1
     exact ⟨k + 1, by omega, by go_num, by rw [q0g], h1.drew⟩
    case measure => simp [intOf]; omega
  ·have hge : ¬ ((k : Int) < 4) := by omega
   have hk4 : k = 4 := by omega
   have HK := qH hk4; clear hk4
   go_wp2_with (with_reducible refine wSk 24 ?_)
   refine a0m st 2 rfl rfl rfl Tryz.underlying167 rfl (by rw [a0g]; kernel_rfl) ?_
   go_wp2_with (with_reducible refine wSn ?_)
   refine a0c st 2 rfl rfl rfl rfl rfl (by simp only [a0g]) (by rw [a0g]; kernel_rfl) (a0f _ _) ?_
   intro w5 st5
   clear st
   have hd5 := st5.at 2 rfl
   rw [HK.out, q0b _ _ _ (by first | decide | assumption | exact HA.out), cw_mod] at hd5
   have hf5 := st5.fr
   clear st5
   go_wp2
   exact bodyPost_ret (b0O rfl rfl hd5 Tryz.underlying167 (by rw [a0g]; kernel_rfl) rfl) rfl ⟨by rw [HK.out]; rfl, hf5⟩
theorem f0n (a b : Nat) (w : World) :
  Calls Tryz.prog 244 #[i4 a, i4 b] w fun e w' => e = .returned (.tuple #[i4 (a + b), .int .u64 (b0f a b 4 : Nat)]) ∧ Fr Nob w w' := by
 have st0 := St.start Nob w
 go_enter Tryz.func244, Tryz.ntmps244
 go_wp2_with (with_reducible refine wSk 2 ?_)
 refine a0r st0 rfl rfl rfl (cw 4 a) rfl ?_
 intro g2 w1 st1
 clear st0
 go_wp2_with (with_reducible refine wSk 3 ?_)
 refine a0r st1 rfl rfl rfl (cw 4 b) rfl ?_
 intro g3 w2 st2
 clear st1
 go_wp2_with (with_reducible refine wSk 4 ?_)
 refine a0b st2 rfl rfl (z := zAd) ap0 (cw 4 0) ap5 ?_
 intro g4 w3 st3
 clear st2
 go_wp2
 go_loopw [5, 7] (fun c i wr => ∃ k : Nat, k ≤ 4 ∧ i = .int .i64 (k : Int) ∧ c = .int .u64 (b0f a b k : Nat) ∧ St Nob w wr [(g2, cw 4 a, 167), (g3, cw 4 b, 167), (g4, cw 4 (mix (a + b) 0 k), 167)]) (fun _ i _ => 4 - (intOf i).toNat)
 case atStart => exact ⟨0, by omega, rfl, by rw [q0d]; rfl, by rw [g0B]; exact st3⟩
 case round =>
  obtain ⟨k, hk, rfl, rfl, st⟩ := hrel
  clear st3
  by_cases hlt : k < 4
  ·have hltI : (k : Int) < 4 := by omega
   have c1 := (st.at 0 rfl).cell (c0d 4 a k hlt)
   have c2 := (st.at 1 rfl).cell (c0d 4 b k hlt)
   obtain ⟨v3, c3, f3⟩ := (st.at 2 rfl).ready (i := k) (by rw [a0g]; exact hlt)
   have e1 := fun wx => k0u (lw a k) (lw b k) (b0f a b k) (v0T a b k) wx
   go_wp2
   go_region
   all_goals
    go_wp2
    go_roundw
    case rel =>
     have h1 := st.set 2 rfl k (.int .u64 (lw (a + b) k : Nat))
     rw [g0j _ _ _ _ hlt, x0U a b k] at h1
     exact ⟨k + 1, by omega, by go_num, by rw [q0e]; go_num, h1.drew⟩
    case measure => simp [intOf]; omega
  ·have hge : ¬ ((k : Int) < 4) := by omega
   have hk4 : k = 4 := by omega
   have HK := qH hk4; clear hk4
   go_wp2_with (with_reducible refine wSk 24 ?_)
   refine a0m st 2 rfl rfl rfl Tryz.underlying167 rfl (by rw [a0g]; kernel_rfl) ?_
   go_wp2_with (with_reducible refine wSn ?_)
   refine a0c st 2 rfl rfl rfl rfl rfl (by simp only [a0g]) (by rw [a0g]; kernel_rfl) (a0f _ _) ?_
   intro w5 st5
   clear st
   have hd5 := st5.at 2 rfl
   rw [HK.out, q0b _ _ _ (by first | decide | assumption | exact HA.out), cw_mod] at hd5
   have hf5 := st5.fr
   clear st5
   go_wp2
   exact bodyPost_ret (b0O rfl rfl hd5 Tryz.underlying167 (by rw [a0g]; kernel_rfl) rfl) rfl ⟨by rw [HK.out]; rfl, hf5⟩
end
section
open Go.RowKit Go.Mv Mvp
attribute [local irreducible] a0v lw mix cw b0e b0f b0a
theorem n0e (gt V x n top : Nat) (T : TypeId) (w : World) (ht : Has w gt (cw 6 V) T) (hx : x < 18446744073709551616) (_ : top < 18446744073709551616) :
  Calls Tryz.prog 242 #[.pointer (some ⟨gt, 0, none⟩), .int .u64 (x : Int), i4 n, .int .u64 (top : Int)] w fun e w' =>
   e = .returned (.tuple #[.int .u64 (((top + b0a V x n 4) % 18446744073709551616 : Nat) : Int), .int .u64 (((top + b0a V x n 4) / 18446744073709551616 : Nat) : Int)]) ∧
   Has w' gt (cw 6 (mix (V + x * n) V 4)) T ∧ Fr (One gt) w w' := by
 have st0 := St.one ht
 clear ht
 have HX := qH hx
 go_enter Tryz.func242, Tryz.ntmps242
 go_wp2_with (with_reducible refine wSk 6 ?_)
 refine a0r st0 rfl rfl rfl (cw 4 n) rfl ?_
 intro gn w1 st1
 clear st0
 go_wp2_with (with_reducible refine wSk 16 ?_)
 refine a0m st1 1 rfl rfl rfl Tryz.underlying167 rfl (by rw [a0g]; kernel_rfl) ?_
 go_wp2
 go_loopw [10, 17] (fun c i wr => ∃ k : Nat, k ≤ 4 ∧ i = .int .i64 (k : Int) ∧ c = .int .u64 (b0a V x n k : Nat) ∧ St (One gt) w wr [(gt, cw 6 (mix (V + x * n) V k), T)]) (fun _ i _ => 4 - (intOf i).toNat)
 case atStart => exact ⟨0, by omega, rfl, by rw [q0h]; rfl, by rw [g0B]; exact st1.less ap4⟩
 case round =>
  obtain ⟨k, hk, rfl, rfl, st⟩ := hrel
  clear st1
  have hcm := q0i V x n k HX.out
  by_cases hlt : k < 4
  ·have hltI : (k : Int) < 4 := by omega
   have e0 := fun wx => e0m (P := Tryz.prog) Tryz.underlying167 Tryz.underlying44 d0r n k hlt .i64 wx
   have hp := l0Y HX.out (f0S n k)
   have hms := h0o V x n k
   have hlm := l0X V x n k
   have hms2 := q0i V x n (k + 1) HX.out
   obtain ⟨hi, lo, lo2, c1, t2, c2, r1, r2, r3, r4, r5, r6, r7, r8, r9⟩ := o0x (x * lw n k) (lw V k) (b0a V x n k) hp hcm
   rw [← r8] at hlm
   rw [← r9] at hms
   rw [hms] at hms2
   have hmul := fun wx => q0n x (lw n k) HX.out (f0S n k) wx
   rw [r1, r2] at hmul
   have e2 := fun wx => f0T lo (b0a V x n k) lo2 c1 r3 r4 wx
   have e3 := fun wx => f0T (lw V k) lo2 t2 c2 r6 r7 wx
   obtain ⟨v3, c3, f3⟩ := (st.at 0 rfl).ready (i := k) (by rw [a0g]; omega)
   have c1' : wr.cell? ⟨gt, k, none⟩ = some (.int .u64 (lw V k : Nat)) := by have h := (st.at 0 rfl).cell (c0d 6 (mix (V + x * n) V k) k ap1); rwa [i0v, if_neg (Nat.lt_irrefl k)] at h
   clear c3 hp r1 r2 r3 r4 r6 r7 r8 r9
   have HMUL := qH hmul; clear hmul
   have HMS := qH hms; clear hms
   have HLM := qH hlm; clear hlm
   go_wp2_with fail
   refine (HMUL.out _).mono ?_
   rintro e' w' ⟨rfl, rfl⟩
   go_wp2_with fail
   go_region
   all_goals
    go_wp2
    go_roundw
    case rel =>
     have h1 := st.set 0 rfl k (.int .u64 (lw (V + x * n) k : Nat))
     rw [g0j _ _ _ _ ap1, HLM.out] at h1
     exact ⟨k + 1, by omega, by go_num, by rw [HMS.out]; go_num, h1.drew⟩
    case measure => simp [intOf]; omega
  ·have hge : ¬ ((k : Int) < 4) := by omega
   have hk4 : k = 4 := by omega
   have HK := qH hk4; clear hk4
   have e2 := fun wx => f0T top (b0a V x n k) _ _ rfl rfl wx
   go_wp2
   go_ret2
   rw [← HK.out]
   exact ⟨rfl, st.at 0 rfl, st.fr⟩
end
section
open Go.RowKit Go.Mv Mvp
attribute [local irreducible] a0v lw mix cw b0e b0f b0a
end
section
open Go.RowKit Go.Mv Mvp
attribute [local irreducible] a0v lw mix cw b0e b0f b0a
end
section
open Go.RowKit Go.Mv Mvp
attribute [local irreducible] a0v lw mix cw b0e b0f b0a
end
end Go.Proofs.YtpfimiajoifjaaaGreat
namespace Mvp
def beN (l : List UInt8) : Nat := l.foldl (fun a x => a * 256 + x.toNat) 0
theorem m0c : beN [] = 0 := rfl
theorem g0D (l : List UInt8) (x : UInt8) : beN (l ++ [x]) = beN l * 256 + x.toNat := by simp [beN]
theorem u0G (l : List UInt8) : beN l < 256 ^ l.length := by
 have h : ∀ (n : Nat) (l : List UInt8), l.length = n → beN l < 256 ^ n := by
  intro n
  induction n with
  | zero => intro l hl; rw [List.length_eq_zero_iff.1 hl]; decide
  | succ n ih =>
   intro l hl
   obtain ⟨m, x, rfl⟩ : ∃ m x, l = m ++ [x] := by
    rcases List.eq_nil_or_concat l with h | ⟨m, x, h⟩
    ·subst h; simp at hl
    ·exact ⟨m, x, by simpa using h⟩
   have := ih m (by simpa using hl)
   have hx := x.toNat_lt
   rw [g0D, Nat.pow_succ]
   omega
 exact h _ l rfl
theorem n0f (l : List UInt8) (i : Nat) (h : i < l.length) : beN (l.take (i + 1)) = beN (l.take i) * 256 + (l.getD i 0).toNat := by
 rw [List.take_succ_eq_append_getElem h, g0D]
 simp [List.getD_eq_getElem?_getD, h]
def b0l (l : List UInt8) (i : Nat) : Nat := beN (l.take i) * 256 ^ (l.length - i)
theorem q0p (l : List UInt8) : b0l l 0 = 0 := by simp [b0l, beN]
theorem s0E (l : List UInt8) : b0l l l.length = beN l := by simp [b0l]
theorem q0q (l : List UInt8) (i : Nat) (h : i < l.length) : b0l l (i + 1) = b0l l i + (l.getD i 0).toNat * 256 ^ (l.length - 1 - i) := by
 unfold b0l
 rw [n0f l i h, Nat.add_mul, Nat.mul_assoc, show l.length - i = (l.length - 1 - i) + 1 by omega, Nat.pow_succ, Nat.mul_comm 256, show l.length - (i + 1) = l.length - 1 - i by omega]
theorem s0F (l : List UInt8) (i : Nat) (h : i < l.length) : b0l l i % 256 ^ (l.length - 1 - i + 1) = 0 := by
 unfold b0l
 rw [show l.length - 1 - i + 1 = l.length - i by omega, Nat.mul_mod_left]
theorem q0r (k : Nat) : 256 ^ k = B64 ^ (k / 8) * 2 ^ (8 * (k % 8)) := by
 have e1 : (256 : Nat) = 2 ^ 8 := by decide
 have e2 : B64 = 2 ^ 64 := by decide
 rw [e1, e2, ← Nat.pow_mul, ← Nat.pow_mul, ← Nat.pow_add]
 congr 1
 omega
theorem f0o (x r : Nat) (hx : x < 256) : x * 2 ^ r < 2 ^ (r + 8) := by
 rw [Nat.pow_add, Nat.mul_comm (2 ^ r)]
 exact Nat.mul_lt_mul_of_pos_right hx (Nat.two_pow_pos r)
theorem v0Y (A y r : Nat) (hr : r + 8 ≤ 64) (hy : y < 2 ^ (r + 8)) (hA : A % 2 ^ (r + 8) = 0) : (A % B64) ||| y = (A + y) % B64 ∧ (A + y) / B64 = A / B64 := by
 obtain ⟨c, hc⟩ : ∃ c, B64 = 2 ^ (r + 8) * c := ⟨2 ^ (64 - (r + 8)), by rw [← Nat.pow_add, show r + 8 + (64 - (r + 8)) = 64 by omega]⟩
 obtain ⟨m, rfl⟩ : ∃ m, A = 2 ^ (r + 8) * m := ⟨A / 2 ^ (r + 8), by have := Nat.div_add_mod A (2 ^ (r + 8)); omega⟩
 have hc0 : 0 < c := by
  rcases Nat.eq_zero_or_pos c with h | h
  ·rw [h, Nat.mul_zero] at hc; exact absurd hc ap2
  ·exact h
 have hp := Nat.two_pow_pos (r + 8)
 rw [hc]
 have e1 : 2 ^ (r + 8) * m % (2 ^ (r + 8) * c) = 2 ^ (r + 8) * (m % c) := Nat.mul_mod_mul_left _ _ _
 have hmc := Nat.mod_lt m hc0
 have e3 : 2 ^ (r + 8) * m + y = (2 ^ (r + 8) * c) * (m / c) + (2 ^ (r + 8) * (m % c) + y) := by
  have := Nat.div_add_mod m c
  have h2 : 2 ^ (r + 8) * m = 2 ^ (r + 8) * (c * (m / c) + m % c) := by rw [this]
  rw [h2, Nat.mul_add, Nat.mul_assoc]; omega
 have hlt : 2 ^ (r + 8) * (m % c) + y < 2 ^ (r + 8) * c := by
  have h1 : 2 ^ (r + 8) * (m % c + 1) ≤ 2 ^ (r + 8) * c := Nat.mul_le_mul_left _ hmc
  rw [Nat.mul_add, Nat.mul_one] at h1
  omega
 constructor
 ·rw [e1, ← Nat.two_pow_add_eq_or_of_lt hy, e3, Nat.mul_add_mod, Nat.mod_eq_of_lt hlt]
 ·rw [e3, Nat.mul_add_div (Nat.mul_pos hp hc0), Nat.div_eq_of_lt hlt, Nat.add_zero, Nat.mul_div_mul_left _ _ hp]
theorem v0Z (n N k x : Nat) (hx : x < 256) (hN : N % 256 ^ (k + 1) = 0) (hk : k / 8 < n) : (a0v n N).set (k / 8) (lw N (k / 8) ||| x * 2 ^ (8 * (k % 8))) = a0v n (N + x * 256 ^ k) := by
 have hA : N / B64 ^ (k / 8) % 2 ^ (8 * (k % 8) + 8) = 0 := by
  have e : 256 ^ (k + 1) = B64 ^ (k / 8) * 2 ^ (8 * (k % 8) + 8) := by rw [Nat.pow_succ, q0r, Nat.mul_assoc, Nat.pow_add]
  rw [e] at hN
  rw [← Nat.mod_mul_right_div_self, hN, Nat.zero_div]
 obtain ⟨h1, h2⟩ := v0Y (N / B64 ^ (k / 8)) (x * 2 ^ (8 * (k % 8))) (8 * (k % 8)) ap1 (f0o x _ hx) hA
 have e : N + x * 256 ^ k = N + B64 ^ (k / 8) * (x * 2 ^ (8 * (k % 8))) := by rw [q0r, Nat.mul_left_comm]
 rw [e]
 apply List.ext_getElem?
 intro i
 rw [List.getElem?_set, b0F]
 rcases Nat.lt_or_ge i n with hi | hi
 ·rw [d0h _ _ _ hi, d0h _ _ _ hi]
  rcases Nat.lt_trichotomy i (k / 8) with h | h | h
  ·rw [if_neg ap1, l0Z _ _ _ _ h]
  ·subst h
   rw [if_pos rfl, if_pos hi]
   congr 1
   have := h0p N (x * 2 ^ (8 * (k % 8))) (k / 8) 0
   rw [Nat.add_zero] at this
   rw [this]
   simp only [lw, Nat.pow_zero, Nat.div_one]
   exact h1
  ·rw [if_neg ap1]
   congr 1
   obtain ⟨j, rfl⟩ : ∃ j, i = k / 8 + (1 + j) := ⟨i - k / 8 - 1, by omega⟩
   rw [h0p, ← h0m N, ← h0m _ 1 j, ← h0m _ 1 j, Nat.pow_one, h2]
 ·rw [if_neg ap1, List.getElem?_eq_none (by rw [b0F]; exact hi), List.getElem?_eq_none (by rw [b0F]; exact hi)]
def b0b (N : Nat) : List UInt8 := (List.range 32).map fun i => UInt8.ofNat (N / 256 ^ (31 - i))
theorem b0H (N : Nat) : (b0b N).length = 32 := by simp [b0b]
theorem n0g (N i : Nat) (h : i < 32) : (b0b N).getD i 0 = UInt8.ofNat (N / 256 ^ (31 - i)) := by simp [b0b, List.getD_eq_getElem?_getD, h]
theorem w0a (N k : Nat) : lw N (k / 8) / 2 ^ (8 * (k % 8)) % 256 = N / 256 ^ k % 256 := by
 unfold lw
 rw [q0r, ← Nat.div_div_eq_div_mul]
 generalize N / B64 ^ (k / 8) = A
 have hr : 8 * (k % 8) + 8 ≤ 64 := by omega
 generalize 8 * (k % 8) = r at *
 have e : B64 = 2 ^ r * 2 ^ (64 - r) := by rw [← Nat.pow_add, show r + (64 - r) = 64 by omega]
 rw [e, Nat.mod_mul_right_div_self]
 exact Nat.mod_mod_of_dvd _ ⟨2 ^ (64 - r - 8), by rw [show (256 : Nat) = 2 ^ 8 from rfl, ← Nat.pow_add, show 8 + (64 - r - 8) = 64 - r by omega]⟩
theorem y0d (N i : Nat) : lw N (i / 64) / 2 ^ (i % 64) % 2 = N / 2 ^ i % 2 := by
 unfold lw
 have e1 : 2 ^ i = B64 ^ (i / 64) * 2 ^ (i % 64) := by
  rw [show B64 = 2 ^ 64 from rfl, ← Nat.pow_mul, ← Nat.pow_add]
  congr 1; omega
 rw [e1, ← Nat.div_div_eq_div_mul]
 generalize N / B64 ^ (i / 64) = A
 have hr : i % 64 + 1 ≤ 64 := by omega
 generalize i % 64 = r at *
 have e : B64 = 2 ^ r * 2 ^ (64 - r) := by rw [← Nat.pow_add, show r + (64 - r) = 64 by omega]
 rw [e, Nat.mod_mul_right_div_self]
 exact Nat.mod_mod_of_dvd _ ⟨2 ^ (64 - r - 1), by rw [show (2 : Nat) ^ (64 - r) = 2 ^ (1 + (64 - r - 1)) by congr 1; omega, Nat.pow_add, Nat.pow_one]⟩
theorem j0l (N : Nat) (h : N < 256 ^ 32) : beN (b0b N) = N := by
 have key : ∀ n, n ≤ 32 → beN ((b0b N).take n) = N / 256 ^ (32 - n) := by
  intro n
  induction n with
  | zero => intro _; simp only [List.take_zero, m0c, Nat.sub_zero]; exact (Nat.div_eq_of_lt h).symm
  | succ n ih =>
   intro hn
   rw [n0f _ _ (by rw [b0H]; omega), ih ap1, n0g _ _ ap1, show 32 - (n + 1) = 31 - n by omega, show 32 - n = (31 - n) + 1 by omega, Nat.pow_succ, ← Nat.div_div_eq_div_mul]
   simp only [UInt8.toNat_ofNat']
   have := Nat.div_add_mod (N / 256 ^ (31 - n)) 256
   show _ * 256 + N / 256 ^ (31 - n) % 256 = _
   omega
 have := key 32 (Nat.le_refl _)
 rw [List.take_of_length_le (by rw [b0H]; exact Nat.le_refl _)] at this
 simpa using this
theorem f0p (n i : Nat) : n / 2 ^ i = 2 * (n / 2 ^ (i + 1)) + n / 2 ^ i % 2 := by
 rw [Nat.pow_succ, ← Nat.div_div_eq_div_mul]
 have := Nat.div_add_mod (n / 2 ^ i) 2
 omega
theorem e0w (l : List UInt8) (h : l.length ≤ 32) : beN l < B64 ^ 4 :=
 Nat.lt_of_lt_of_le (u0G l) (Nat.le_trans (Nat.pow_le_pow_right ap2 h) ap2)
theorem i0x (a b : List UInt8) : beN (a ++ b) = beN a * 256 ^ b.length + beN b := by
 have key : ∀ (n : Nat) (b : List UInt8), b.length = n → beN (a ++ b) = beN a * 256 ^ n + beN b := by
  intro n
  induction n with
  | zero => intro b hb; rw [List.length_eq_zero_iff.1 hb]; simp [m0c]
  | succ n ih =>
   intro b hb
   obtain ⟨m, x, rfl⟩ : ∃ m x, b = m ++ [x] := by
    rcases List.eq_nil_or_concat b with h | ⟨m, x, h⟩
    ·subst h; simp at hb
    ·exact ⟨m, x, by simpa using h⟩
   rw [← List.append_assoc, g0D, ih m (by simpa using hb), g0D, Nat.pow_succ, Nat.add_mul, ← Nat.mul_assoc, Nat.add_assoc]
 exact key _ b rfl
theorem k0v (l : List UInt8) (r k : Nat) (h : r + k ≤ l.length) : beN (l.take (r + k)) = beN (l.take r) * 256 ^ k + beN ((l.drop r).take k) := by
 rw [List.take_add, i0x]
 congr 3
 simp; omega
end Mvp
namespace Go.Proofs.YtpfimiajoifjaaaGreat
section
open Go.RowKit Go.Mv Mvp
attribute [local irreducible] a0v lw mix cw b0e b0f b0a beN b0l b0b
theorem q0s (x : UInt8) (r : Nat) (hr : r + 8 ≤ 64) : (shl (wid x) r).toNat = x.toNat * 2 ^ r := by
 have hx := x.toNat_lt
 have h1 : x.toNat * 2 ^ r < 2 ^ (r + 8) := f0o x.toNat r hx
 have h2 : 2 ^ (r + 8) ≤ 2 ^ 64 := Nat.pow_le_pow_right ap1 hr
 simp only [shl, wid, UInt64.toNat_ofNat', UInt8.toNat_toUInt64]
 exact Nat.mod_eq_of_lt (Nat.lt_of_lt_of_le h1 h2)
theorem j0m : (Tryz.prog.info? 167).map (·.size) = some 4 := by kernel_rfl
theorem b0T (a : Option Addr) (n c : Nat) (l : List UInt8) (w : World) (hb : RdB w a n l) (hs : n ≤ 32) :
  Calls Tryz.prog 158 #[.slice a n c] w fun e w' => e = .returned (i4 (beN l)) ∧ Fr Nob w w' := by
 have HS := qH hs
 have hsz : l.length = n := hb.len
 have HBB := qH hb; clear hb
 have HSZ := qH hsz
 clear hs hsz
 have st0 := St.start Nob w
 go_enter Tryz.func158, Tryz.ntmps158
 go_wp2_with (with_reducible refine wSk 2 ?_)
 refine a0b st0 rfl rfl (z := zAd) ap0 (cw 4 0) ap5 ?_
 intro g2 w1 st1
 clear st0
 have hmx : n ≤ 32 := HS.out
 go_wp2
 go_loopw [8] (fun i wr => ∃ k : Nat, k ≤ n ∧ i = .int .i64 (k : Int) ∧ St Nob w wr [(g2, cw 4 (b0l l k), 167)]) (fun i _ => n - (intOf i).toNat)
 case atStart => exact ⟨0, by omega, rfl, by rw [q0p]; exact st1⟩
 case round =>
  obtain ⟨i, hi, rfl, st⟩ := hrel
  clear st1
  by_cases hlt : i < n
  ·have hltI : (i : Int) < (n : Int) := by omega
   have hll : i < l.length := by rw [HSZ.out]; exact hlt
   have hstep := v0Z 4 (b0l l i) (n - 1 - i) (l.getD i 0).toNat (UInt8.toNat_lt _) (by have := s0F l i hll; rwa [HSZ.out] at this) ap1
   have hsucc := q0q l i hll
   rw [HSZ.out] at hsucc
   rw [← hsucc] at hstep
   obtain ⟨gb, ob, rfl, hcx⟩ := (HBB.out.still st.fr).at ap1
   have hx := hcx i hlt
   clear hcx
   have hd1 : (n : Int) - 1 - (i : Int) = ((n - 1 - i : Nat) : Int) := by omega
   generalize hN' : b0l l (i + 1) = N' at *
   have HN' := qH hN'; clear hN'
   generalize hN : b0l l i = N at *
   generalize l.getD i 0 = x at *
   have hk32 : n - 1 - i < 32 := by omega
   generalize hk : n - 1 - i = k at *
   have HN := qH hN; clear hN
   have HK := qH hk; clear hk
   have HSTEP := qH hstep; clear hstep
   have HD := qH hd1; clear hd1 hsucc hll
   have c1 := (st.at 0 rfl).cell (c0d 4 N (k / 8) ap1)
   have f1 := (st.at 0 rfl).free (k / 8) (by rw [a0g]; omega)
   have hlo : (0 : Int) ≤ (k : Int) / 8 ∧ (k : Int) / 8 < 4 := by omega
   have hor := bits_or_u64_nat (lw N (k / 8)) ((shl (wid x) (8 * (k % 8))).toNat) (f0S _ _) (f0e _)
   rw [q0s x (8 * (k % 8)) ap1] at hor
   simp only [Int.natCast_mul, Int.natCast_pow, Int.cast_ofNat_Int] at hor
   have HSH := qH (q0s x (8 * (k % 8)) ap1)
   go_wp2_with fail
   rw [HD.out]
   have e1 : IntKind.i64.wrap ((k : Int) / 8) = (k : Int) / 8 := IntWalk.i64_in _ ap1
   have e2 : (k : Int).tmod 8 = (k : Int) % 8 := Int.tmod_eq_emod_of_nonneg ap1
   have e3 : IntKind.i64.wrap (8 * ((k : Int) % 8)) = 8 * ((k : Int) % 8) := IntWalk.i64_in _ ap1
   have e4 : ((k : Int) / 8).toNat = k / 8 := by omega
   refine wp_region_still_tail 12 ap0 ap0 ?_
   simp only [List.take_succ_cons, List.take_zero, List.drop_succ_cons, List.drop_zero]
   repeat still_step
   refine wpStill_nil ?_
   have hsh := HSH.out
   have hst := (st.set 0 rfl (k / 8) (.int .u64 ((lw N (k / 8) ||| x.toNat * 2 ^ (8 * (k % 8)) : Nat) : Int))).drew
   have hS : (cw 4 N).set (k / 8) (.int .u64 ((lw N (k / 8) ||| x.toNat * 2 ^ (8 * (k % 8)) : Nat) : Int)) = cw 4 N' := by
    rw [cw, u0E, HSTEP.out, cw]
   rw [hS] at hst
   have HST := qH hst
   clear hst hS
   go_wp2
   go_roundw
   case rel => exact ⟨i + 1, by omega, by go_num, by rw [HN'.out]; exact HST.out⟩
   case measure => simp [intOf]; omega
  ·have hge : ¬ ((i : Int) < (n : Int)) := by omega
   have hi2 : i = l.length := by rw [HSZ.out]; omega
   rw [hi2, s0E] at st
   clear hi2
   go_wp2_with (with_reducible refine wSk 31 ?_)
   refine a0m st 0 rfl rfl rfl Tryz.underlying167 rfl (by rw [a0g]; exact j0m) ?_
   go_wp2_with (with_reducible refine wSn ?_)
   refine a0c st 0 rfl rfl rfl rfl rfl (by rw [a0g]) (by rw [a0g]; exact j0m) (a0f _ _) ?_
   intro w9 st9
   clear st
   have hr := st9.at 0 rfl
   have hfr := st9.fr
   clear st9
   go_wp2
   exact bodyPost_ret (a0B rfl rfl hr Tryz.underlying167 (by rw [a0g]; exact j0m)) rfl ⟨rfl, hfr⟩
end
section
open Go.RowKit Go.Mv Mvp
theorem n0h {k : IntKind} {a b : Int} (h : a = b) : Ending.returned (.int k a) = .returned (.int k b) := by rw [h]
attribute [local irreducible] a0v lw mix cw b0e b0f b0a beN b0l b0b
theorem i0y (N : Nat) (w : World) :
  Calls Tryz.prog 191 #[i4 N] w fun e w' => ∃ v, e = .returned v ∧ Own w' w.heap.size 5 1 v 32 (bs (b0b N)) ∧ Fr Nob w w' := by
 have st0 := St.start Nob w
 go_enter Tryz.func191, Tryz.ntmps191
 go_wp2_with (with_reducible refine wSk 1 ?_)
 refine a0r st0 rfl rfl rfl (cw 4 N) rfl ?_
 intro g1 w1 st1
 clear st0
 go_wp2_with (with_reducible refine wSk 6 ?_)
 refine g0W rfl rfl Tryz.underlying23 d0g rfl rfl rfl 32 32 ap4 ap4 ap1 ap1 ap9 ?_
 intro w2 hg2 hf2 hz2
 clear hz2
 have hb2 : w.heap.size ≤ w1.heap.size := st1.fr.size
 have st2 := st1.new hf2 hg2 (Nat.le_refl _)
 clear st1 hg2 hf2
 generalize w1.heap.size = gb at *
 have HBB := qH hb2; clear hb2
 go_wp2
 go_loopw [9] (fun i wr => ∃ k : Nat, k ≤ 32 ∧ i = .int .i64 (k : Int) ∧ St Nob w wr [(g1, cw 4 N, 167), (gb, bs (fill (b0b N) (List.replicate 32 0) k), 5)]) (fun i _ => 32 - (intOf i).toNat)
 case atStart => exact ⟨0, by omega, rfl, st2⟩
 case round =>
  obtain ⟨i, hi, rfl, st⟩ := hrel
  clear st2
  by_cases hlt : i < 32
  ·have hltI : (i : Int) < 32 := by omega
   have hd1 : (31 : Int) - (i : Int) = ((31 - i : Nat) : Int) := by omega
   have hgl := n0g N i hlt
   have hgb := w0a N (31 - i)
   have hk32 : 31 - i < 32 := by omega
   generalize hk : 31 - i = k at *
   have HK := qH hk; clear hk
   have HGL := qH hgl; clear hgl
   have HGB := qH hgb; clear hgb
   have c1 := (st.at 0 rfl).cell (c0d 4 N (k / 8) ap1)
   obtain ⟨v3, c3, f3⟩ := (st.at 1 rfl).ready (i := i) (by rw [a0C, g0X _ _ _ (by rw [b0H]; simp)]; simpa using hlt)
   have hlo : (0 : Int) ≤ (k : Int) / 8 ∧ (k : Int) / 8 < 4 := by omega
   have e4 : ((k : Int) / 8).toNat = k / 8 := by omega
   go_wp2
   go_roundw
   case rel =>
    have h1 := st.set 1 rfl i (.int .u8 (((b0b N).getD i 0).toNat : Int))
    rw [j0X, m0Q _ _ _ (by rw [b0H]; simp) (by rw [b0H]; omega)] at h1
    have e : (((b0b N).getD i 0).toNat : Int) = (lw N (k / 8) : Int) / 2 ^ (8 * (k % 8)) % 256 := by
     rw [HGL.out, UInt8.toNat_ofNat']
     have := HGB.out
     rw [show (2 : Nat) ^ 8 = 256 from rfl, ← this]
     simp
    rw [e] at h1
    exact ⟨i + 1, by omega, by go_num, h1⟩
   case measure => simp [intOf]; omega
  ·have hge : ¬ ((i : Int) < 32) := by omega
   have hi32 : i = 32 := by omega
   have hown : Own wr w.heap.size 5 1 (.slice (some ⟨gb, 0, none⟩) 32 32) 32 (bs (b0b N)) := by
    have h := st.at 1 rfl
    rw [hi32, m0P _ _ _ (by rw [b0H]; simp) (by rw [b0H]; exact Nat.le_refl _)] at h
    have := Own.made h w.heap.size HBB.out 1 32 32 (Nat.le_refl _) ap9 (by rw [a0C, b0H]; omega)
    rwa [List.take_of_length_le (by rw [a0C, b0H]; exact Nat.le_refl _)] at this
   have hfr := st.fr
   clear st hi32
   go_wp2
   go_ret
   exact ⟨_, rfl, hown, hfr⟩
theorem n0i (N i : Nat) (w : World) (hi : i < 256) :
  Calls Tryz.prog 262 #[i4 N, .int .i64 (i : Int)] w fun e w' => e = .returned (.int .u64 ((N / 2 ^ i % 2 : Nat) : Int)) ∧ Fr Nob w w' := by
 have hb := y0d N i
 have HB := qH hb; clear hb
 have st0 := St.start Nob w
 go_enter Tryz.func262, Tryz.ntmps262
 go_wp2_with (with_reducible refine wSk 2 ?_)
 refine a0r st0 rfl rfl rfl (cw 4 N) rfl ?_
 intro g1 w1 st1
 clear st0
 have c1 := (st1.at 0 rfl).cell (c0d 4 N (i / 64) ap1)
 have hlo : (0 : Int) ≤ (i : Int) / 64 ∧ (i : Int) / 64 < 4 := by omega
 have hlo2 : (0 : Int) ≤ (i : Int) % 64 ∧ (i : Int) % 64 < 64 := by omega
 have e4 : ((i : Int) / 64).toNat = i / 64 := by omega
 have e5 : ((i : Int) % 64).toNat = i % 64 := by omega
 have hfr := st1.fr
 clear st1
 have hw : lw N (i / 64) / 2 ^ (i % 64) < 18446744073709551616 := Nat.lt_of_le_of_lt (Nat.div_le_self _ _) (f0S _ _)
 have ha := bits_and_u64_nat (lw N (i / 64) / 2 ^ (i % 64)) 1 hw ap1
 rw [Nat.and_one_is_mod] at ha
 simp only [Int.natCast_ediv, Int.natCast_pow, Int.cast_ofNat_Int] at ha
 go_wp2
 go_ret
 refine ⟨n0h ?_, hfr⟩
 rw [← HB.out]
 simp
end
section
open Go.RowKit Go.Mv Mvp
attribute [local irreducible] a0v lw mix cw b0e b0f b0a beN b0l b0b
end
section
open Go.RowKit Go.Mv Mvp
attribute [local irreducible] a0v lw mix cw b0e b0f b0a beN b0l b0b
end
section
open Go.RowKit Go.Mv Mvp
attribute [local irreducible] a0v lw mix b0e b0f b0a beN b0l b0b
theorem a0y {P : Program} {fn : Func} {p : Tmp} {ty : TypeId} (h : fn.results = #[.cell p ty]) {tmps : Array Value} {w : World} {g : Nat} {L : List Value} {T : TypeId}
  (hp : tmps.getD p undef = .pointer (some ⟨g, 0, none⟩)) (hg : Has w g L T) {d : TypeDesc} (hu : P.underlying ty = some d) (hd : (match d with | .struct _ | .array _ _ => true | _ => false) = true) (hi : (P.info? ty).map (·.size) = some L.length) :
  (results fn tmps).run P w = .ok (.agg L.toArray) w := by
 obtain ⟨lo, hi', hh, -⟩ := hg
 exact results_cell_row h tmps w g T L.toArray _ _ hp hh hu hd (by simpa using hi)
attribute [local irreducible] cw
end
end Go.Proofs.YtpfimiajoifjaaaGreat
namespace Go.Mv
open Go.RowKit
variable {P : Program}
theorem St.keep1 {S : Nat → Prop} {w0 w w' : World} {bl : List (Nat × List Value × TypeId)} {g : Nat} (h : St S w0 w bl) (hf : Fr (One g) w w') (hg : w0.heap.size ≤ g ∨ S g) (hne : ∀ x ∈ bl, x.1 ≠ g) : St S w0 w' bl := by
 refine ⟨?_, h.own, fun x hx => (h.has x hx).keep hf (hne x hx), h.ne⟩
 refine h.fr.trans hf fun i hi e => ?_
 have e2 : i = g := e
 subst e2
 rcases hg with hg | hg
 ·omega
 ·exact hg
section
variable {w w0 : World} {ops : Array Oper} {rest : List Oper} {o : Oper} {a : Act} {Q : Exit → Act → World → Prop} {S : Nat → Prop} {bl : List (Nat × List Value × TypeId)}
theorem b0U (hst : St S w0 w bl) (i : Nat) {g : Nat} {L : List Value} {T : TypeId} (hb : bl[i]? = some (g, L, T)) {ty : TypeId} {x y : Operand} (hgd : o.guard = none) (ho : o.op = .store ty x y) (hx : a.eval x = .pointer (some ⟨g, 0, none⟩)) {cs : List Value} (hy : a.eval y = .agg cs.toArray)
  (hn : cs.length = L.length) (hi : (P.info? ty).map (·.size) = some cs.length) (h1 : ∀ v ∈ cs, v.oneCell' = true)
  (h : ∀ w', St S w0 w' (bl.set i (g, cs, T)) → Fr (One g) w w' → wpList P ops Q rest (a.put o.dst undef) w') : wpList P ops Q (o :: rest) a w :=
 d0z hgd ho hx hy (hst.at i hb) ap1 hi h1 fun w' hg hf _ => h w' (hst.put i hb hf (by rwa [b0L _ _ hn] at hg)) hf
theorem d0F (hst : St S w0 w bl) {e : TypeId} (hgd : o.guard = none) (ho : o.op = .alloc e) {z : Value} (hi : (P.info? e).map (·.zero) = some (some z)) (L : List Value) (hL : z.cells.toList = L)
  (h : ∀ g w', St S w0 w' (bl ++ [(g, L, e)]) → Fr Nob w w' → w.heap.size ≤ g → wpList P ops Q rest (a.put o.dst (.pointer (some ⟨g, 0, none⟩))) w') : wpList P ops Q (o :: rest) a w :=
 d0I hgd ho hi L hL fun w' hg hf _ => h _ w' (hst.new hf hg (Nat.le_refl _)) hf (Nat.le_refl _)
theorem j0n (hst : St S w0 w bl) {e : TypeId} {x : Operand} (hgd : o.guard = none) (ho : o.op = .box e x) {v : Value} (hx : a.eval x = v) (L : List Value) (hL : v.cells.toList = L)
  (h : ∀ g w', St S w0 w' (bl ++ [(g, L, e)]) → Fr Nob w w' → wpList P ops Q rest (a.put o.dst (.pointer (some ⟨g, 0, none⟩))) w') : wpList P ops Q (o :: rest) a w :=
 k0d hgd ho hx L hL fun w' hg hf _ => h _ w' (hst.new hf hg (Nat.le_refl _)) hf
theorem j0o {ty : TypeId} {x : Operand} (hgd : o.guard = none) (ho : o.op = .load ty x) {d : TypeDesc} (hu : P.underlying ty = some d) (hd : d.isRow = true) {g p : Nat} (hx : a.eval x = .pointer (some ⟨g, p, none⟩))
  {L : List Value} {T : TypeId} (hg : Has w g L T) (cs : List Value) (hcs : (L.drop p).take cs.length = cs) (hi : (P.info? ty).map (·.size) = some cs.length)
  (h : wpList P ops Q rest (a.put o.dst (.agg cs.toArray)) w) : wpList P ops Q (o :: rest) a w :=
 wpList_load_mid hgd ty x ho g p hx cs d (hg.range p cs hcs) hu hd hi h
end
end Go.Mv
namespace Go.Proofs.YtpfimiajoifjaaaGreat
open Go.RowKit Go.Mv Mvp
attribute [local irreducible] a0T b0c toB a0u a0w a0Y a0E b0Z a0S a0x c0n
def tkV (g : Nat) : Value := .agg #[.pointer (some ⟨g, 0, none⟩)]
theorem s0G (g : Nat) : Tryz.prog.built 96 [(0, .pointer (some ⟨g, 0, none⟩))] = some ([Value.pointer (some ⟨g, 0, none⟩)]).toArray := by kernel_rfl
theorem A0Q : (Tryz.prog.info? 96).map (·.zero) = some (some (.agg #[.pointer none])) := by kernel_rfl
theorem s0H (g : Nat) : ∀ v ∈ [Value.pointer (some ⟨g, 0, none⟩)], v.oneCell' = true := by
 intro v hv
 simp only [List.mem_singleton] at hv
 subst hv; rfl
theorem LogAt.mono {w : World} {base base' g : Nat} {l : List UInt8} (h : LogAt w base g l) (hb : base' ≤ base) : LogAt w base' g l := by
 obtain ⟨v, h1, h2⟩ := h; exact ⟨v, h1, h2.mono hb⟩
theorem LogAt.has {w : World} {base g : Nat} {l : List UInt8} (h : LogAt w base g l) : ∃ v, Has w g [v] 293 := by
 obtain ⟨v, h1, _⟩ := h; exact ⟨v, h1⟩
theorem LogAt.off {w w' : World} {base g g' : Nat} {l : List UInt8} (h : LogAt w base g l) (hf : Fr (One g') w w') {L : List Value} {T : TypeId} (hg : Has w g' L T) (hT : 5 ≠ T) (hT2 : 293 ≠ T) : LogAt w' base g l := by
 refine h.other hf ?_ hg hT
 rintro rfl
 obtain ⟨v, h1, _⟩ := h
 obtain ⟨_, _, h1, _⟩ := h1
 obtain ⟨_, _, h2, _⟩ := hg
 rw [h1] at h2
 simp only [Option.some.injEq, Obj.cells.injEq] at h2
 exact hT2 h2.2.1
theorem LogAt.notIn {w : World} {base g : Nat} {l : List UInt8} (h : LogAt w base g l) {bl : List (Nat × List Value × TypeId)} (hh : ∀ x ∈ bl, Has w x.1 x.2.1 x.2.2) (hT : ∀ x ∈ bl, 293 ≠ x.2.2) : ∀ x ∈ bl, x.1 ≠ g := by
 rintro x hx rfl
 obtain ⟨v, h1, _⟩ := h
 obtain ⟨_, _, h1, _⟩ := h1
 obtain ⟨_, _, h2, _⟩ := hh x hx
 rw [h1] at h2
 simp only [Option.some.injEq, Obj.cells.injEq] at h2
 exact hT x hx h2.2.1
theorem q0t (s : ByteArray) (w : World) (hs : s.size ≤ 1000000) :
  Calls Tryz.prog 221 #[.string s] w fun e w' => ∃ g, e = .returned (tkV g) ∧ w.heap.size ≤ g ∧ LogAt w' w.heap.size g (z0Z s.data.toList) ∧ Fr Nob w w' := by
 have HS := qH hs
 clear hs
 have st0 := St.start Nob w
 go_enter Tryz.func221, Tryz.ntmps221
 go_wp2_with (with_reducible refine wSk 2 ?_)
 refine a0b st0 rfl rfl A0Q [.pointer none] rfl ?_
 intro g2 w1 st1
 clear st0
 have HB := qH st1.fr.size
 go_wp2_with fail
 refine (o0v s _ HS.out).mono ?_
 rintro e' w2 ⟨g, rfl, hle, hl, hf⟩
 have st2 := st1.keep hf
 have HL := qH (hl.mono HB.out)
 have HG := qH (Nat.le_trans HB.out hle)
 clear hle hl hf st1 HB
 go_wp2_with (with_reducible refine wSk 5 ?_)
 refine b0M rfl rfl _ (s0G g) ?_
 go_wp2_with (with_reducible refine wSn ?_)
 refine b0U st2 0 rfl rfl rfl rfl rfl rfl ap0 (s0H g) ?_
 intro w3 st3 hf3
 have HL3 := qH (HL.out.off hf3 (st2.at 0 rfl) ap2 ap2)
 clear st2 hf3 HL
 have hr := st3.at 0 rfl
 have hfr := st3.fr
 clear st3
 go_wp2_with fail
 exact bodyPost_ret (a0y rfl rfl hr Tryz.underlying96 rfl ap0) rfl ⟨g, rfl, HG.out, HL3.out, hfr⟩
end Go.Proofs.YtpfimiajoifjaaaGreat
namespace Go.Mv
open Go.RowKit
section
variable {P : Program} {ops : Array Oper} {md : Region.Mode} {Q : Exit → Act → World → Prop} {S S2 : World → Prop}
def j0p (md : Region.Mode) (ops : Array Oper) (n : Nat) : Bool :=
 (List.range ops.size).all fun t => decide (t ≤ n) || (List.range t).any fun j => decide (n ≤ j) && Region.waitsFor md ops t j
theorem i0z {n : Nat} {listed : Array Bool} (hs : Region.sinkB md ops n = true) (hb : j0p md ops n = true) (inv : HeadInv md ops n listed) {i : Nat} (hi : i < n) (hun : listed.getD i true = false) :
  ∀ t, n ≤ t → t ∉ Region.ready md ops listed := by
 have key : ∀ (d i : Nat), n - i = d → i < n → listed.getD i true = false → n ∉ Region.ready md ops listed := by
  intro d
  induction d using Nat.strongRecOn with
  | _ d ih =>
   intro i hd hi hun hr
   obtain ⟨-, on, hon, hall⟩ := mem_ready.1 hr
   obtain ⟨j, hj, hj2⟩ := List.any_eq_true.1 (List.all_eq_true.1 hs i (List.mem_range.2 hi))
   simp only [Bool.and_eq_true, decide_eq_true_eq] at hj2
   obtain ⟨oj, hoj, e, he, hbi, heon⟩ := Region.waitsFor_spec hj2.2
   have hjn := List.mem_range.1 hj
   rcases Nat.lt_or_ge j n with h | h
   ·cases hl : listed.getD j false with
    | true =>
     have h2 := inv.closed j oj hoj hl e he hbi
     rw [heon, getD_both hun] at h2
     cases h2
    | false =>
     have hjs : j < listed.size := by
      have := (Array.getElem?_eq_some_iff.1 hoj).1
      rw [inv.size]; exact this
     exact ih (n - j) ap1 j rfl h (getD_in hjs hl) hr
   ·have : j = n := by omega
    subst this
    have : oj = on := Option.some.inj (hoj.symm.trans hon)
    subst this
    have h2 := hall e he hbi
    rw [heon, getD_both hun] at h2
    cases h2
 intro t ht hr
 rcases Nat.eq_or_lt_of_le ht with rfl | h
 ·exact key _ i rfl hi hun hr
 ·obtain ⟨-, ot, hot, hall⟩ := mem_ready.1 hr
  have htl := (Array.getElem?_eq_some_iff.1 hot).1
  have h1 := List.all_eq_true.1 hb t (List.mem_range.2 htl)
  simp only [Bool.or_eq_true, decide_eq_true_eq] at h1
  rcases h1 with h1 | h1
  ·omega
  ·obtain ⟨j, hj, hj2⟩ := List.any_eq_true.1 h1
   simp only [Bool.and_eq_true, decide_eq_true_eq] at hj2
   obtain ⟨o', ho', e, he, hbi, heon⟩ := Region.waitsFor_spec hj2.2
   have : o' = ot := Option.some.inj (ho'.symm.trans hot)
   subst this
   have h2 := hall e he hbi
   have hjt := List.mem_range.1 hj
   rw [heon, getD_both (inv.tail j hj2.1 ap1)] at h2
   cases h2
def k0w (P : Program) (md : Region.Mode) (ops : Array Oper) (Q : Exit → Act → World → Prop) (S : World → Prop) (n : Nat) (B : Array Bool → Act → World → Prop) : Nat → Array Bool → Act → World → Prop
 | 0, listed, a, w => Region.ready md ops listed = [n] ∧ B listed a w
 | f + 1, listed, a, w =>
  Region.ready md ops listed ≠ [] ∧ ∀ i ∈ Region.ready md ops listed, i < n ∧ wpOp P ops Q i (fun a' w' => S w' ∧ k0w P md ops Q S n B f (listed.setIfInBounds i true) a' w') a w
theorem i0A {n g : Nat} {B : Array Bool → Act → World → Prop} (hB : ∀ listed a w, Region.ready md ops listed = [n] → B listed a w → wpAny P md ops Q g listed a w) :
  ∀ (f : Nat) (listed : Array Bool) (a : Act) (w : World), k0w P md ops Q S n B f listed a w → wpAny P md ops Q (f + g) listed a w
 | 0, listed, a, w, h => by rw [Nat.zero_add]; exact hB _ _ _ h.1 h.2
 | f + 1, listed, a, w, h => by
  rw [show f + 1 + g = (f + g) + 1 by omega]
  exact ⟨fun h0 => absurd h0 h.1, fun i hi => wpOp_mono (fun a' w' h' => i0A hB f _ a' w' h'.2) (h.2 i hi).2⟩
theorem k0x {n i : Nat} {oi : Oper} {v : Value} {B : Array Bool → Act → World → Prop} (hi : ops[i]? = some oi) (hsel : ∀ (j : Nat) (o : Oper) cs b, ops[j]? = some o → o.op ≠ .select cs b)
  (hQ : ∀ c a w, Q (.panic c) (a.put oi.dst v) w → Q (.panic c) a w) (hs : Region.sinkB md ops n = true) (hb : j0p md ops n = true) (hin : i < n) :
  ∀ (f : Nat) (listed : Array Bool) (a : Act) (w : World), HeadInv md ops n listed →
   (∀ j oj, ops[j]? = some oj → j ≠ i → listed.getD j true = false → (∀ e ∈ oj.after, Region.binds md e = true → e.on ≠ i) → oi.apart ops oj = true) →
   i ∈ Region.ready md ops listed → YieldsIf P ops S oi v a → S w →
   k0w P md ops Q S n B f (listed.setIfInBounds i true) (a.put oi.dst v) w → k0w P md ops Q S n B (f + 1) listed a w := by
 intro f
 induction f with
 | zero =>
  intro listed a w inv _ hr hy hS H
  have hun := (mem_ready.1 hr).1
  refine ⟨fun h => (by rw [h] at hr; cases hr), fun j hj => ?_⟩
  have hjn : j < n := Nat.lt_of_not_le fun h => i0z hs hb inv hin hun j h hj
  refine ⟨hjn, ?_⟩
  by_cases hji : j = i
  ·subst hji; exact hy.wpOp hi hS ⟨hS, H⟩
  ·have h2 := ready_mono hj hji
   rw [H.1] at h2
   simp only [List.mem_singleton] at h2
   omega
 | succ f ih =>
  intro listed a w inv hfree hr hy hS H
  have hun := (mem_ready.1 hr).1
  refine ⟨fun h => (by rw [h] at hr; cases hr), fun j hj => ?_⟩
  have hjn : j < n := Nat.lt_of_not_le fun h => i0z hs hb inv hin hun j h hj
  refine ⟨hjn, ?_⟩
  by_cases hji : j = i
  ·subst hji; exact hy.wpOp hi hS ⟨hS, H⟩
  ·have h1 := (H.2 j (ready_mono hj hji)).2
   obtain ⟨hjun, oj, hoj, hall⟩ := mem_ready.1 hj
   have hnot : ∀ e ∈ oj.after, Region.binds md e = true → e.on ≠ i := fun e he hb heq => by
    have h1 := hall e he hb
    rw [heq, getD_both hun] at h1
    cases h1
   have h2 := wpOp_putIf hoj (hfree j oj hoj hji hjun hnot) (fun cs b => hsel i oi cs b hi) (fun cs b => hsel j oj cs b hoj) hQ hy h1
   have hfree' : ∀ k ok, ops[k]? = some ok → k ≠ i → (listed.setIfInBounds j true).getD k true = false →
     (∀ e ∈ ok.after, Region.binds md e = true → e.on ≠ i) → oi.apart ops ok = true := fun k ok hk hki hun hno => by
    refine hfree k ok hk hki ?_ hno
    by_cases hjk : j = k
    ·subst hjk; exact hjun
    ·rw [getD_set_ne true hjk] at hun; exact hun
   refine wpOp_mono (fun a' w' h3 => ⟨h3.2.1, ih (listed.setIfInBounds j true) a' w' (inv.set hj hjn) hfree' (ready_mono hr (Ne.symm hji)) h3.1 h3.2.1 ?_⟩) h2
   rw [Array.setIfInBounds_comm _ _ hji]
   exact h3.2.2
def f0q (P : Program) (ops : Array Oper) (Q : Exit → Act → World → Prop) (S : World → Prop) (B : Act → World → Prop) : List (Nat × Bool) → Act → World → Prop
 | [], a, w => B a w
 | (i, true) :: r, a, w => ∃ o v, ops[i]? = some o ∧ YieldsIf P ops S o v a ∧ f0q P ops Q S B r (a.put o.dst v) w
 | (i, false) :: r, a, w => ∃ o, ops[i]? = some o ∧ o.guard = none ∧ o.wp P a w (fun a' w' => S w' ∧ f0q P ops Q S B r a' w') Q
def g0k (P : Program) (ops : Array Oper) (Q : Exit → Act → World → Prop) (S : World → Prop) : List Nat → Act → World → Prop
 | [], a, w => Q .normal a w
 | i :: r, a, w => ∃ o v, ops[i]? = some o ∧ YieldsIf P ops S o v a ∧ g0k P ops Q S r (a.put o.dst v) w
def i0B (md : Region.Mode) (ops : Array Oper) : List Nat → Array Bool → Bool
 | [], listed => (Region.ready md ops listed).isEmpty
 | i :: r, listed => (Region.ready md ops listed).contains i && Region.free md ops listed i && i0B md ops r (listed.setIfInBounds i true)
def h0q (md : Region.Mode) (ops : Array Oper) (n : Nat) (s2 : List Nat) : List (Nat × Bool) → Array Bool → Bool
 | [], listed => decide (Region.ready md ops listed = [n]) && i0B md ops s2 (listed.setIfInBounds n true)
 | (i, true) :: r, listed => decide (i < n) && (Region.ready md ops listed).contains i && Region.free md ops listed i && h0q md ops n s2 r (listed.setIfInBounds i true)
 | (i, false) :: r, listed => decide (i < n) && decide (Region.ready md ops listed = [i]) && h0q md ops n s2 r (listed.setIfInBounds i true)
theorem e0L (hsel : Region.noSelect ops = true) (hQ : ∀ c (d : Option Tmp) v a w, Q (.panic c) (Act.put a d v) w → Q (.panic c) a w) :
  ∀ (r : List Nat) (listed : Array Bool) (a : Act) (w : World), i0B md ops r listed = true → S w → g0k P ops Q S r a w → wpAnyH P md ops Q S r.length listed a w
 | [], listed, a, w, hB, _, h => wpAnyH_done (by simpa [i0B] using hB) h 0
 | i :: r, listed, a, w, hB, hS, h => by
  obtain ⟨o, v, ho, hy, hK⟩ := h
  simp only [i0B, Bool.and_eq_true] at hB
  obtain ⟨⟨hr, hf⟩, hB'⟩ := hB
  exact wpAnyH_take ho hsel hf hr (fun c a w => hQ c o.dst v a w) hy hS (e0L hsel hQ r _ _ w hB' hS hK)
theorem d0N {n : Nat} {s2 : List Nat} {B : Act → World → Prop} (hsel : Region.noSelect ops = true) (hs : Region.sinkB md ops n = true) (hb : j0p md ops n = true)
  (hQ : ∀ c (d : Option Tmp) v a w, Q (.panic c) (Act.put a d v) w → Q (.panic c) a w) :
  ∀ (s : List (Nat × Bool)) (listed : Array Bool) (a : Act) (w : World), HeadInv md ops n listed → h0q md ops n s2 s listed = true → S w → f0q P ops Q S B s a w →
   k0w P md ops Q S n (fun l a w => i0B md ops s2 (l.setIfInBounds n true) = true ∧ B a w) s.length listed a w
 | [], listed, a, w, _, hB, _, h => by
  simp only [h0q, Bool.and_eq_true, decide_eq_true_eq] at hB
  exact ⟨hB.1, hB.2, h⟩
 | (i, true) :: r, listed, a, w, inv, hB, hS, h => by
  obtain ⟨o, v, ho, hy, hK⟩ := h
  simp only [h0q, Bool.and_eq_true, decide_eq_true_eq] at hB
  obtain ⟨⟨⟨hin, hr⟩, hf⟩, hB'⟩ := hB
  have hr' : i ∈ Region.ready md ops listed := by simpa using hr
  exact k0x ho (Region.noSelect_spec hsel) (fun c a w => hQ c o.dst v a w) hs hb hin r.length listed a w inv (Region.free_spec ho hf) hr' hy hS
   (d0N hsel hs hb hQ r _ _ w (inv.set hr' hin) hB' hS hK)
 | (i, false) :: r, listed, a, w, inv, hB, hS, h => by
  obtain ⟨o, ho, hg, hK⟩ := h
  simp only [h0q, Bool.and_eq_true, decide_eq_true_eq] at hB
  obtain ⟨⟨hin, hr⟩, hB'⟩ := hB
  have hr' : i ∈ Region.ready md ops listed := by rw [hr]; simp
  refine ⟨by rw [hr]; simp, fun j hj => ?_⟩
  rw [hr] at hj
  have hj' : j = i := by simpa using hj
  subst hj'
  refine ⟨hin, ?_⟩
  unfold wpOp
  simp only [ho]
  rw [if_pos (by simp [Region.wanted, hg])]
  exact .inl (Oper.wp_mono (fun a' w' h' => ⟨h'.1, d0N hsel hs hb hQ r _ a' w' (inv.set hr' hin) hB' h'.1 h'.2⟩) hK)
def q0u (ops : Array Oper) (n : Nat) (s : List (Nat × Bool)) (s2 : List Nat) : Bool :=
 Region.noSelect ops && decide (n < ops.size) && decide (s.length = n) && decide (s2.length = ops.size - n - 1) && Region.sinkB .any ops n && j0p .any ops n && h0q .any ops n s2 s (Array.replicate ops.size false)
theorem i0g {id : Nat} {a : Act} {w : World} {l : List Oper} (S S2 : World → Prop) (n : Nat) (s : List (Nat × Bool)) (s2 : List Nat) (hm : P.follows .mixedOrders = true) (hB : q0u l.toArray n s s2 = true)
  (hS : S w.drew) (hQ : ∀ c (d : Option Tmp) v a w, Q (.panic c) (Act.put a d v) w → Q (.panic c) a w)
  (h : f0q P l.toArray Q S (fun a w => ∃ o, l[n]? = some o ∧ o.guard = none ∧ o.wp P a w (fun a' w' => S2 w' ∧ g0k P l.toArray Q S2 s2 a' w') Q) s a w.drew) : (Code.region id l.toArray true).wp P Q a w := by
 simp only [q0u, Bool.and_eq_true, decide_eq_true_eq] at hB
 obtain ⟨⟨⟨⟨⟨⟨hsel, hn⟩, hlen⟩, hlen2⟩, hs⟩, hb⟩, hseq⟩ := hB
 have inv0 : HeadInv .any l.toArray n (Array.replicate l.toArray.size false) :=
  ⟨by simp, fun j oj _ hl => (by rw [getD_replicate_false] at hl; cases hl), fun t _ ht => getD_in (by simpa using ht) (getD_replicate_false _ _)⟩
 have H := d0N (md := .any) hsel hs hb hQ s _ a w.drew inv0 hseq hS h
 refine wp_region_any hm ?_
 have := i0A (g := s2.length + 1) (fun listed a w hr hBB => by
  obtain ⟨hok, o, ho, hg, hK⟩ := hBB
  refine ⟨fun h0 => (by rw [hr] at h0; cases h0), fun i hi => ?_⟩
  rw [hr] at hi
  have hi' : i = n := by simpa using hi
  subst hi'
  unfold wpOp
  have ho' : l.toArray[i]? = some o := by simpa using ho
  simp only [ho']
  rw [if_pos (by simp [Region.wanted, hg])]
  exact .inl (Oper.wp_mono (fun a' w' h' => wpAny_of_held _ _ _ _ (e0L hsel hQ s2 _ a' w' hok h'.1 h'.2)) hK)) _ _ _ _ H
 rw [hlen, hlen2, show n + (l.toArray.size - n - 1 + 1) = l.toArray.size by omega] at this
 exact this
variable {l : List Oper} {i : Nat} {r : List (Nat × Bool)} {r2 : List Nat} {B : Act → World → Prop} {a : Act} {w : World} {o : Oper}
theorem d0G (ho : l[i]? = some o) (hg : o.guard = none) {v : Value} (hv : ∀ wx, S wx → (execOp a.eval o).run P wx = .ok (.value v) wx) (h : f0q P l.toArray Q S B r (a.put o.dst v) w) : f0q P l.toArray Q S B ((i, true) :: r) a w :=
 ⟨o, v, by simpa using ho, .inl ⟨by simp [Region.wanted, hg], hv⟩, h⟩
theorem s0I (ho : l[i]? = some o) (hg : o.guard = none) {ty : TypeId} {x : Operand} (hop : o.op = .load ty x) {g p : Nat} (hx : a.eval x = .pointer (some ⟨g, p, none⟩)) (cs : List Value) (hS : ∀ wx, S wx → wx.rangeAt g p cs)
  {d : TypeDesc} (hu : P.underlying ty = some d) (hd : d.isRow = true) (hi : (P.info? ty).map (·.size) = some cs.length) (h : f0q P l.toArray Q S B r (a.put o.dst (.agg cs.toArray)) w) : f0q P l.toArray Q S B ((i, true) :: r) a w :=
 ⟨o, _, by simpa using ho, yieldsIf_load_mid (by simp [Region.wanted, hg]) ty x hop g p hx cs d hS hu hd hi, h⟩
theorem s0J (ho : l[i]? = some o) (hg : o.guard = none) (h : o.wp P a w (fun a' w' => S2 w' ∧ g0k P l.toArray Q S2 r2 a' w') Q) :
  f0q P l.toArray Q S (fun a w => ∃ o, l[i]? = some o ∧ o.guard = none ∧ o.wp P a w (fun a' w' => S2 w' ∧ g0k P l.toArray Q S2 r2 a' w') Q) [] a w := ⟨o, ho, hg, h⟩
theorem e0n (ho : l[i]? = some o) (hg : o.guard = none) {v : Value} (hv : ∀ wx, S2 wx → (execOp a.eval o).run P wx = .ok (.value v) wx) (h : g0k P l.toArray Q S2 r2 (a.put o.dst v) w) : g0k P l.toArray Q S2 (i :: r2) a w :=
 ⟨o, v, by simpa using ho, .inl ⟨by simp [Region.wanted, hg], hv⟩, h⟩
theorem s0K (h : Q .normal a w) : g0k P l.toArray Q S2 [] a w := h
end
end Go.Mv
theorem clL : (∀ (a : Go.Act) (d : Nat) (v : Go.Value), a.put (some d) v = { a with tmps := a.tmps.setIfInBounds d v }) ∧ (∀ (a : Go.Act) (v : Go.Value), a.put none v = a) ∧ (∀ (l : List Go.Value) (i : Nat) (x : Go.Value), l.toArray.setIfInBounds i x = (l.set i x).toArray) ∧ (∀ (x y : Go.Value) (l : List Go.Value), (x :: l).set 0 y = y :: l) ∧ (∀ (x y : Go.Value) (l : List Go.Value) (i : Nat), (x :: l).set (i + 1) y = x :: l.set i y) :=
 ⟨fun _ _ _ => rfl, fun _ _ => rfl, fun _ _ _ => by simp, fun _ _ _ => rfl, fun _ _ _ _ => rfl⟩
namespace Go.Proofs.YtpfimiajoifjaaaGreat
section
open Go.RowKit Go.Mv Mvp
attribute [local irreducible] a0v lw mix cw b0e b0f b0a beN b0l b0b a0z a0F
theorem _root_.ap7 {p : Prop} (h : p := by simp only [a0g]; kernel_rfl) : p := h
theorem m0d (gt V m n : Nat) (w : World) (ht : Has w gt (cw 6 V) 308) (hm : m < 18446744073709551616) (hn : n < B64 ^ 4) (hV : V + m * n < B64 ^ 6) (hVV : V < B64 ^ 6) :
  Calls Tryz.prog 243 #[.pointer (some ⟨gt, 0, none⟩), .int .u64 (m : Int), i4 n] w fun e w' => e = .returned (.tuple #[.int .u64 (lw (V + m * n) 4 : Nat), .int .u64 (lw (V + m * n) 5 : Nat)]) ∧ Has w' gt (cw 6 (mix (V + m * n) V 4)) 308 ∧ Fr (One gt) w w' := by
 have HM := qH hm
 have hlt := n0c V m n hn hV hVV
 have HS0 := qH hlt.1
 have HS1 := qH hlt.2.1
 have HS2 := qH hlt.2.2
 clear hlt hn hV hVV
 clear hm
 have st0 := St.one ht
 go_enter Tryz.func243, Tryz.ntmps243
 go_wp2_with (with_reducible refine wSk 5 ?_)
 refine a0r st0 rfl rfl rfl (cw 4 n) rfl ?_
 intro g5 w1 st1
 clear st0
 have c5 := (st1.at 0 rfl).cell (c0d 6 V 5 ap2)
 have c4 := (st1.at 0 rfl).cell (c0d 6 V 4 ap2)
 go_wp2_with fail
 refine wp_region_noPanic ?_
 refine i0g (fun wx => St (One gt) w wx [(gt, cw 6 V, 308), (g5, cw 4 n, 167)]) (fun wx => St (One gt) w wx [(gt, cw 6 (mix (V + m * n) V 4), 308), (g5, cw 4 n, 167)]) 7 [(0, true), (1, true), (2, true), (3, true), (4, true), (5, true), (6, true)] [8, 9, 10, 11, 12] ap0 ap0 st1.drew (fun _ _ _ _ _ h => h) ?_
 have hd1 := st1.drew
 refine d0G (v := ?_) rfl rfl (fun wx hS => ?_) ?_
 rotate_left 1
 ·(clear hS; go_simp; with_reducible rfl)
 try simp only [clL]
 refine d0G (v := ?_) rfl rfl (fun wx hS => ?_) ?_
 rotate_left 1
 ·(clear hS; go_simp; with_reducible rfl)
 try simp only [clL]
 refine s0I rfl rfl rfl rfl (cw 4 n) (fun wx hS => St.rangeL hS 1 rfl 0 _ dZl) Tryz.underlying167 rfl ap7 ?_
 try simp only [clL]
 refine d0G (v := ?_) rfl rfl (fun wx hS => ?_) ?_
 rotate_left 1
 ·(clear hS; go_simp; with_reducible rfl)
 try simp only [clL]
 refine d0G (v := ?_) rfl rfl (fun wx hS => ?_) ?_
 rotate_left 1
 ·(clear hS; go_simp; with_reducible rfl)
 try simp only [clL]
 refine d0G (v := ?_) rfl rfl (fun wx hS => ?_) ?_
 rotate_left 1
 ·(clear hS; go_simp; with_reducible rfl)
 try simp only [clL]
 refine d0G (v := ?_) rfl rfl (fun wx hS => ?_) ?_
 rotate_left 1
 ·(have hc := (St.at hS 0 rfl).cell (c0d 6 V 4 ap2); clear hS; go_simp; with_reducible rfl)
 try simp only [clL]
 refine s0J rfl rfl ?_
 go_simp
 refine (n0e gt V m n (lw V 4) 308 _ (St.at hd1 0 rfl) HM.out (f0S V 4)).mono ?_
 rintro e' w2 ⟨rfl, hg2, hf2⟩
 have st2 : St (One gt) w w2 [(gt, cw 6 (mix (V + m * n) V 4), 308), (g5, cw 4 n, 167)] := hd1.put 0 rfl hf2 hg2
 clear hd1 hf2 hg2
 refine ⟨st2, ?_⟩
 try simp only [clL]
 refine e0n (v := ?_) rfl rfl (fun wx hS => ?_) ?_
 rotate_left 1
 ·(clear hS; go_simp; with_reducible rfl)
 try simp only [clL]
 refine e0n (v := ?_) rfl rfl (fun wx hS => ?_) ?_
 rotate_left 1
 ·(clear hS; go_simp; with_reducible rfl)
 try simp only [clL]
 refine e0n (v := ?_) rfl rfl (fun wx hS => ?_) ?_
 rotate_left 1
 ·(clear hS; go_simp; with_reducible rfl)
 try simp only [clL]
 refine e0n (v := ?_) rfl rfl (fun wx hS => ?_) ?_
 rotate_left 1
 ·(clear hS; go_simp; with_reducible rfl)
 try simp only [clL]
 refine e0n (v := ?_) rfl rfl (fun wx hS => ?_) ?_
 rotate_left 1
 ·(clear hS; go_simp; with_reducible rfl)
 try simp only [clL]
 refine s0K ?_
 refine NoPanic.normal ?_
 have hg := st2.at 0 rfl
 have hfr := st2.fr
 clear st2
 have hs := HS2.out
 go_wp2_with fail
 go_ret2
 rw [← HS0.out, ← HS1.out]
 exact ⟨rfl, hg, hfr⟩
end
section
open Go.RowKit Go.Mv Mvp
attribute [local irreducible] a0v lw mix cw b0e b0f b0a beN b0l b0b a0z a0F
theorem _root_.ap6 {p : Prop} (h : p := by first | (simp only [a0g]; done) | (simp only [List.length_append, a0g]; done)) : p := h
theorem _root_.ap8 {p : Prop} (h : p := by simp [a0g]) : p := h
theorem g0E (m : Md) (gp a b : Nat) (w : World) (hok : m.Ok) (hpm : Has w gp (mdL m) 234) (ha : a < B64 ^ 4) (hb : b < m.M) :
  Calls Tryz.prog 180 #[.pointer (some ⟨gp, 0, none⟩), i4 a, i4 b] w fun e w' => e = .returned (i4 (a * b * m.Ri % m.M)) ∧ Fr Nob w w' := by
 have HOK := qH hok
 have HPM := qH hpm
 have HA := qH ha
 have HB := qH hb
 clear hok hpm ha hb
 have st0 := St.start Nob w
 go_enter Tryz.func180, Tryz.ntmps180
 go_wp2_with (with_reducible refine wSk 4 ?_)
 refine a0r st0 rfl rfl rfl (cw 4 a) rfl ?_
 intro g4 w1 st1
 clear st0
 go_wp2_with (with_reducible refine wSk 5 ?_)
 refine a0r st1 rfl rfl rfl (cw 4 b) rfl ?_
 intro g5 w2 st2
 clear st1
 go_wp2_with (with_reducible refine wSk 6 ?_)
 refine a0b st2 rfl rfl (z := zAd) ap0 (cw 4 0) ap5 ?_
 intro g6 w3 st3
 clear st2
 go_wp2_with (with_reducible refine wSk 7 ?_)
 refine a0b st3 rfl rfl (z := .agg #[.int .u64 0, .int .u64 0, .int .u64 0, .int .u64 0, .int .u64 0, .int .u64 0]) ap0 (cw 6 0) ap5 ?_
 intro g7 w4 st4
 clear st3
 go_wp2_with (with_reducible refine wSk 14 ?_)
 refine a0m st4 0 rfl rfl rfl Tryz.underlying123 rfl ap7 ?_
 go_wp2
 go_loopw [15] (fun i wr => ∃ k : Nat, k ≤ 4 ∧ i = .int .i64 (k : Int) ∧ St Nob w wr [(g4, cw 4 a, 123), (g5, cw 4 b, 123), (g6, cw 4 0, 123), (g7, cw 6 (a0z m.M m.neg b a k), 308)]) (fun i _ => 4 - (intOf i).toNat)
 case atStart => exact ⟨0, by omega, rfl, by rw [o0A]; exact st4⟩
 case round =>
  obtain ⟨k, hk, rfl, st⟩ := hrel
  clear st4
  by_cases hlt : k < 4
  ·have hltI : (k : Int) < 4 := by omega
   have e0 := fun wx => e0m (P := Tryz.prog) Tryz.underlying123 Tryz.underlying44 d0r a k hlt .i64 wx
   have hTl := n0d m.M m.neg b a k (by have := HOK.out.one; omega)
   obtain ⟨b1, b2, b3, b4⟩ := m0b (a0z m.M m.neg b a k) b m.M (lw a k) (a0z m.M m.neg b a k + lw a k * b) ((a0z m.M m.neg b a k + lw a k * b) % 18446744073709551616 * m.neg % 18446744073709551616) HB.out HOK.out.lt hTl (f0S a k) rfl (Nat.mod_lt _ ap2)
   have hsucc : a0z m.M m.neg b a (k + 1) = (a0z m.M m.neg b a k + lw a k * b + ((a0z m.M m.neg b a k + lw a k * b) % 18446744073709551616 * m.neg % 18446744073709551616) * m.M) / 18446744073709551616 := o0B m.M m.neg b a k
   generalize hT : a0z m.M m.neg b a k = T at *
   generalize hT' : a0z m.M m.neg b a (k + 1) = T' at *
   have hx := f0S a k
   obtain ⟨l1, l2, l3⟩ := n0c T (lw a k) b (Nat.lt_trans HB.out HOK.out.lt) b2 (Nat.lt_trans b1 ap2)
   have z5 : lw T 5 = 0 := g0i T 5 5 b1 (Nat.le_refl _)
   rw [z5, Nat.zero_add] at l2
   have hline := fun wx (h : Has wx g7 (cw 6 T) 308) => n0e g7 T (lw a k) b (lw T 4) 308 wx h hx (f0S T 4)
   rw [l1, l2] at hline
   generalize hxx : lw a k = x at *
   generalize hV : T + x * b = V at *
   have hw0 := v0V V
   generalize hmm : V % 18446744073709551616 * m.neg % 18446744073709551616 = mm at *
   have hm64 : mm < 18446744073709551616 := by rw [← hmm]; exact Nat.mod_lt _ ap2
   have hmul : IntKind.u64.wrap ((lw V 0 : Int) * (m.neg : Int)) = (mm : Int) := by
    rw [IntKind.wrap_u64, ← hmm, hw0, ← Int.natCast_mul]; rfl
   have hlt2 := fun wx (h : Has wx g7 (cw 6 V) 308) => m0d g7 V mm m.M wx h hm64 HOK.out.lt b4 b3
   generalize hV2 : V + mm * m.M = V2 at *
   have hshift := y0c V2 b4
   rw [← hsucc] at hshift
   have HLINE := qH hline
   have HLT2 := qH hlt2
   have HSHIFT := qH hshift
   have HT := qH hT
   have HT' := qH hT'
   clear hTl b1 b2 b3 b4 hsucc l1 l2 l3 z5 hline hV hw0 hmm hm64 hlt2 hV2 hshift hT hT' hx hxx
   have ct := (st.at 3 rfl).cell (c0d 6 T 4 ap2)
   go_wp2_with (with_reducible refine wSk 20 ?_)
   refine a0m st 1 rfl rfl rfl Tryz.underlying123 rfl ap7 ?_
   go_wp2_with fail
   refine (HLINE.out _ (st.at 3 rfl)).mono ?_
   rintro e' w5 ⟨rfl, hg5, hf5⟩
   have st5 : St Nob w w5 [(g4, cw 4 a, 123), (g5, cw 4 b, 123), (g6, cw 4 0, 123), (g7, cw 6 (mix V T 4), 308)] := st.put 3 rfl hf5 hg5
   clear st hf5 hg5
   clear ct
   obtain ⟨v4, c4, f4⟩ := (st5.at 3 rfl).ready (i := 4) (by rw [a0g]; decide)
   obtain ⟨v5, c5, f5⟩ := (st5.at 3 rfl).ready (i := 5) (by rw [a0g]; decide)
   go_wp2_with fail
   have stA := (st5.set 3 rfl 4 (.int .u64 (lw V 4 : Nat))).set 3 rfl 5 (.int .u64 (lw V 5 : Nat))
   have hcw : ((cw 6 (mix V T 4)).set 4 (.int .u64 (lw V 4 : Nat))).set 5 (.int .u64 (lw V 5 : Nat)) = cw 6 V := by rw [g0j 6 V T 4 ap2, g0j 6 V T 5 ap2, j0j]
   rw [hcw] at stA
   clear hcw c4 c5 f4 f5 v4 v5 st5
   generalize (World.setCell (World.setCell w5 ⟨g7, 4, none⟩ (.int .u64 (lw V 4 : Nat))) ⟨g7, 5, none⟩ (.int .u64 (lw V 5 : Nat))) = wA at *
   have stA : St Nob w wA [(g4, cw 4 a, 123), (g5, cw 4 b, 123), (g6, cw 4 0, 123), (g7, cw 6 V, 308)] := stA
   have cv := (stA.at 3 rfl).cell (c0d 6 V 0 ap2)
   have cn := (HPM.out.keep stA.fr id).cell (y0b m)
   go_quiet (fail)
   have stB := stA.drewN nq
   clear stA cv cn
   go_wp2_with (with_reducible refine wSk 40 ?_)
   refine c0H rfl rfl Tryz.underlying167 rfl (HPM.out.keep stB.fr id) (cw 4 m.M) (j0U m) ap7 ?_
   go_wp2_with fail
   refine (HLT2.out _ (stB.at 3 rfl)).mono ?_
   rintro e' w7 ⟨rfl, hg7, hf7⟩
   have st7 : St Nob w w7 [(g4, cw 4 a, 123), (g5, cw 4 b, 123), (g6, cw 4 0, 123), (g7, cw 6 (mix V2 V 4), 308)] := stB.put 3 rfl hf7 hg7
   clear stB hf7 hg7
   obtain ⟨v4, c4, f4⟩ := (st7.at 3 rfl).ready (i := 4) (by rw [a0g]; decide)
   obtain ⟨v5, c5, f5⟩ := (st7.at 3 rfl).ready (i := 5) (by rw [a0g]; decide)
   go_wp2_with fail
   have stC := (st7.set 3 rfl 4 (.int .u64 (lw V2 4 : Nat))).set 3 rfl 5 (.int .u64 (lw V2 5 : Nat))
   have hcw : ((cw 6 (mix V2 V 4)).set 4 (.int .u64 (lw V2 4 : Nat))).set 5 (.int .u64 (lw V2 5 : Nat)) = cw 6 V2 := by rw [g0j 6 V2 V 4 ap2, g0j 6 V2 V 5 ap2, j0j]
   rw [hcw] at stC
   clear hcw c4 c5 f4 f5 v4 v5 st7
   generalize (World.setCell (World.setCell w7 ⟨g7, 4, none⟩ (.int .u64 (lw V2 4 : Nat))) ⟨g7, 5, none⟩ (.int .u64 (lw V2 5 : Nat))) = wC at *
   have stC : St Nob w wC [(g4, cw 4 a, 123), (g5, cw 4 b, 123), (g6, cw 4 0, 123), (g7, cw 6 V2, 308)] := stC
   have k1 := fun wx => d0M (P := Tryz.prog) wx Tryz.underlying308 d0r g7 0 .i64 5 ap2
   have k2 := fun wx => f0k (P := Tryz.prog) wx Tryz.underlying308 d0r g7 0 .i64 1 ap2
   refine wp_region_noPanic ?_
   refine i0W (fun wx => St Nob w wx [(g4, cw 4 a, 123), (g5, cw 4 b, 123), (g6, cw 4 0, 123), (g7, cw 6 V2, 308)]) 2 [(0, true), (1, true)] ap0 ap0 stC.drew (fun _ _ _ _ _ h => h) ?_
   have stD := stC.drew
   clear stC
   refine m0T (v := ?_) rfl rfl (fun wx hS => ?_) ?_
   rotate_left 1
   ·(clear hS; go_simp; with_reducible rfl)
   try simp only [clL]
   refine m0T (v := ?_) rfl rfl (fun wx hS => ?_) ?_
   rotate_left 1
   ·(clear hS; go_simp; with_reducible rfl)
   try simp only [clL]
   refine v0F ?_
   try simp only [List.drop_succ_cons, List.drop_zero]
   refine p0q rfl rfl Tryz.underlying312 d0r rfl rfl (stD.at 3 rfl) (Rd.ofHas (stD.at 3 rfl) 1 (n := 5) (by rw [a0g]; decide)) (fun v hv => a0f _ _ v (List.mem_of_mem_drop (List.mem_of_mem_take hv))) (by rw [a0g]; decide) ?_
   intro wE hgE hfE hzE
   clear hzE
   have stE := stD.put 3 rfl hfE hgE
   clear stD hgE hfE
   obtain ⟨v5, c5, f5⟩ := (stE.at 3 rfl).ready (i := 5) (by rw [f0d _ _ _ ap8]; rw [a0g]; decide)
   go_wp2_with fail
   refine NoPanic.normal ?_
   clear k1 k2
   go_wp2_with fail
   have stF := stE.set 3 rfl 5 (.int .u64 0)
   clear stE c5 f5
   go_roundw
   case rel =>
    refine ⟨k + 1, by omega, by go_num, ?_⟩
    rw [HT'.out]
    have hh := stF
    have h6 := HSHIFT.out
    simp only [List.set_cons_succ, List.set_cons_zero] at hh
    rw [show min 5 5 = 5 from rfl, List.take_take, show min 5 5 = 5 from rfl, h6] at hh
    exact hh
   case measure => simp [intOf]; omega
  ·have hge : ¬ ((k : Int) < 4) := by omega
   have hk4 : k = 4 := by omega
   subst hk4
   have k4 : ∀ wx, (Instr.arrayAt 167 (.slice (some ⟨g7, 0, none⟩) 4 6)).run Tryz.prog wx = .ok (.pointer (some ⟨g7, 0, none⟩)) wx := fun wx => by simp [Instr.arrayAt, run_underlying Tryz.underlying167]
   have k3 := fun wx => d0M (P := Tryz.prog) wx Tryz.underlying308 d0r g7 0 .i64 4 ap2
   have hTl := n0d m.M m.neg b a 4 (by have := HOK.out.one; omega)
   have hval := o0y m.M m.neg m.Ri a b (by have := HOK.out.one; omega) HA.out HOK.out.neg (by rw [HOK.out.inv, Nat.mod_eq_of_lt HOK.out.one])
   generalize hT : a0z m.M m.neg b a 4 = T at *
   have HT := qH hT; clear hT
   have HTL := qH hTl; clear hTl
   have HVAL := qH hval; clear hval
   go_wp2_with (with_reducible refine wSk 53 ?_)
   refine c0H rfl rfl Tryz.underlying167 rfl (st.at 3 rfl) (cw 4 T) (v0X T) (by rw [a0g]; exact j0m) ?_
   clear k3 k4
   go_wp2_with (with_reducible refine wSk 11 ?_)
   refine a0b st rfl rfl (z := zAd) ap0 (cw 4 0) ap5 ?_
   intro g11 w5 st5
   clear st
   go_wp2_with (with_reducible refine wSn ?_)
   refine a0c st5 4 rfl rfl rfl rfl rfl ap6 ap7 (a0f _ _) ?_
   intro w6 st6
   clear st5
   go_wp2_with fail
   refine wp_region_noPanic ?_
   refine i0d (fun wx => St Nob w wx [(g4, cw 4 a, 123), (g5, cw 4 b, 123), (g6, cw 4 0, 123), (g7, cw 6 T, 308), (g11, cw 4 T, 167)]) 11 (.t 0 (.t 1 (.t 2 (.t 3 (.t 4 (.b 5 9 (.t 6 (.t 7 (.t 8 (.r 9 (.r 10 .nil))))) (.r 5 (.t 6 (.t 7 (.t 8 (.r 10 .nil))))))))))) ap0 ap0 st6.drew (fun _ _ _ _ _ h => h) ?_
   have hd6 := st6.drew
   clear st6
   refine m0V rfl rfl rfl rfl (cw 4 T) (fun wx hS => St.rangeL hS 4 rfl 0 _ dZl) Tryz.underlying167 rfl ap7 ?_
   try simp only [clL]
   refine c0s (v := ?_) rfl rfl (fun wx hS => ?_) ?_
   rotate_left 1
   ·(clear hS; go_simp; with_reducible rfl)
   try simp only [clL]
   refine c0s (v := ?_) rfl rfl (fun wx hS => ?_) ?_
   rotate_left 1
   ·(clear hS; go_simp; with_reducible rfl)
   try simp only [clL]
   refine c0s (v := ?_) rfl rfl (fun wx hS => ?_) ?_
   rotate_left 1
   ·(clear hS; go_simp; with_reducible rfl)
   try simp only [clL]
   refine m0V rfl rfl rfl rfl (cw 4 m.M) (fun wx hS => (HPM.out.keep (St.fr hS) id).range 0 _ (j0U m)) Tryz.underlying167 rfl ap7 ?_
   try simp only [clL]
   refine p0z (C := fun g12 wz => St Nob w wz [(g4, cw 4 a, 123), (g5, cw 4 b, 123), (g6, cw 4 0, 123), (g7, cw 6 T, 308), (g11, cw 4 T, 167), (g12, cw 4 (T + B64 ^ 4 - m.M), 167)]) (F := ?_) rfl rfl rfl rfl (fun key => ?_) (fun key => ?_) ?_
   rotate_left 1
   ·skip
    go_simp
    refine (d0i T m.M _ HOK.out.lt).mono ?_
    rintro e' w7 ⟨rfl, hf7⟩
    have st7 := hd6.keep hf7
    clear hf7
    refine ⟨st7, ?_⟩
    try simp only [clL]
    refine c0s (v := ?_) rfl rfl (fun wx hS => ?_) ?_
    rotate_left 1
    ·(clear hS; go_simp; with_reducible rfl)
    try simp only [clL]
    refine c0s (v := ?_) rfl rfl (fun wx hS => ?_) ?_
    rotate_left 1
    ·(clear hS; go_simp; with_reducible rfl)
    try simp only [clL]
    refine c0s (v := ?_) rfl rfl (fun wx hS => ?_) ?_
    rotate_left 1
    ·(clear hS; go_simp; with_reducible rfl)
    try simp only [clL]
    refine g0x rfl rfl ?_
    refine a0X st7 rfl (z := zAd) ap0 (cw 4 0) ap5 ?_
    intro g12 w8 st8
    refine ⟨St.less st8 ap4, ?_⟩
    try simp only [clL]
    refine g0x rfl rfl ?_
    refine a0i st8 5 rfl rfl rfl rfl ap6 ap7 (a0f _ _) ?_
    intro w9 st9
    refine ⟨St.less st9 ap4, ?_⟩
    try simp only [Act.put]
    refine m0U ?_
    try simp only [List.drop_succ_cons, List.drop_zero]
    go_wp2_with fail
    exact key g12 w9 st9
   ·skip
    refine a0X hd6 rfl (z := zAd) ap0 (cw 4 0) ap5 ?_
    intro g12 w10 st10
    refine ⟨St.less st10 ap4, ?_⟩
    try simp only [clL]
    refine g0x rfl rfl ?_
    go_simp
    refine (d0i T m.M _ HOK.out.lt).mono ?_
    rintro e' w11 ⟨rfl, hf11⟩
    have st11 := st10.keep hf11
    clear hf11
    refine ⟨St.less st11 ap4, ?_⟩
    try simp only [clL]
    refine c0s (v := ?_) rfl rfl (fun wx hS => ?_) ?_
    rotate_left 1
    ·(clear hS; go_simp; with_reducible rfl)
    try simp only [clL]
    refine c0s (v := ?_) rfl rfl (fun wx hS => ?_) ?_
    rotate_left 1
    ·(clear hS; go_simp; with_reducible rfl)
    try simp only [clL]
    refine c0s (v := ?_) rfl rfl (fun wx hS => ?_) ?_
    rotate_left 1
    ·(clear hS; go_simp; with_reducible rfl)
    try simp only [clL]
    refine g0x rfl rfl ?_
    refine a0i st11 5 rfl rfl rfl rfl ap6 ap7 (a0f _ _) ?_
    intro w12 st12
    refine ⟨St.less st12 ap4, ?_⟩
    try simp only [Act.put]
    refine m0U ?_
    try simp only [List.drop_succ_cons, List.drop_zero]
    go_wp2_with fail
    exact key g12 w12 st12
   intro g12 w13 st13
   have st13 : St Nob w w13 [(g4, cw 4 a, 123), (g5, cw 4 b, 123), (g6, cw 4 0, 123), (g7, cw 6 T, 308), (g11, cw 4 T, 167), (g12, cw 4 (T + B64 ^ 4 - m.M), 167)] := st13
   clear hd6
   refine NoPanic.normal ?_
   have c4 := (st13.at 3 rfl).cell (c0d 6 T 4 ap2)
   have hfin := i0w T m.M HOK.out.lt (by have := HTL.out; have := HB.out; omega)
   by_cases hlt2 : T < m.M
   ·obtain ⟨f1, f2, f3⟩ := hfin.1 hlt2
    rw [f1] at c4
    rw [f2]
    have HF := qH f3
    clear hfin f1 f2 f3 hlt2
    go_wp2_with (with_reducible refine wSk 70 ?_)
    refine a0m st13 4 rfl rfl rfl Tryz.underlying167 rfl ap7 ?_
    go_wp2_with (with_reducible refine wSn ?_)
    refine a0c st13 2 rfl rfl rfl rfl rfl ap6 ap7 (a0f _ _) ?_
    intro w14 st14
    clear st13
    have hr := st14.at 2 rfl
    have hfr := st14.fr
    clear st14
    go_wp2_with fail
    exact bodyPost_ret (a0B rfl rfl hr Tryz.underlying123 ap7) rfl ⟨by rw [← HVAL.out]; unfold i4; rw [HF.out], hfr⟩
   ·obtain ⟨f3, f4⟩ := hfin.2 hlt2
    have HF := qH f3
    by_cases hlt3 : T < B64 ^ 4
    ·obtain ⟨f1, f2⟩ := f4 hlt3
     rw [f1] at c4
     rw [f2]
     clear hfin f1 f2 f3 f4 hlt2 hlt3
     go_wp2_with (with_reducible refine wSk 71 ?_)
     refine a0m st13 5 rfl rfl rfl Tryz.underlying167 rfl ap7 ?_
     go_wp2_with (with_reducible refine wSn ?_)
     refine a0c st13 2 rfl rfl rfl rfl rfl ap6 ap7 (a0f _ _) ?_
     intro w14 st14
     clear st13
     have hr := st14.at 2 rfl
     have hfr := st14.fr
     clear st14
     go_wp2_with fail
     exact bodyPost_ret (a0B rfl rfl hr Tryz.underlying123 ap7) rfl ⟨by rw [← HVAL.out]; unfold i4; rw [HF.out], hfr⟩
    ·have f1 := q0o T (by have := HTL.out; have := HB.out; have := HOK.out.lt; omega) hlt3
     rw [f1] at c4
     clear hfin f1 f3 f4 hlt2 hlt3
     go_wp2_with (with_reducible refine wSk 71 ?_)
     refine a0m st13 5 rfl rfl rfl Tryz.underlying167 rfl ap7 ?_
     go_wp2_with (with_reducible refine wSn ?_)
     refine a0c st13 2 rfl rfl rfl rfl rfl ap6 ap7 (a0f _ _) ?_
     intro w14 st14
     clear st13
     have hr := st14.at 2 rfl
     have hfr := st14.fr
     clear st14
     go_wp2_with fail
     exact bodyPost_ret (a0B rfl rfl hr Tryz.underlying123 ap7) rfl ⟨by rw [← HVAL.out]; unfold i4; rw [HF.out], hfr⟩
end
end Go.Proofs.YtpfimiajoifjaaaGreat
namespace Mvp
def elN (m : Md) (x : Nat) : Nat := x * B64 ^ 4 % m.M
theorem j0q (m : Md) (h : m.Ok) (x : Nat) : elN m x < m.M := Nat.mod_lt _ (by have := h.one; omega)
theorem k0y (m : Md) (h : m.Ok) (x : Nat) : elN m x < B64 ^ 4 := Nat.lt_trans (j0q m h x) h.lt
theorem y0e (m : Md) : B64 ^ 4 % m.M = elN m 1 := by rw [elN, Nat.one_mul]
theorem d0u (m : Md) : elN m 0 = 0 := by rw [elN, Nat.zero_mul, Nat.zero_mod]
theorem n0j (m : Md) (x : Nat) : elN m (x % m.M) = elN m x := by rw [elN, elN, Nat.mod_mul_mod]
theorem j0r (m : Md) {x y : Nat} (h : x % m.M = y % m.M) : elN m x = elN m y := by rw [← n0j, h, n0j]
theorem w0b (m : Md) (h : m.Ok) (x : Nat) : x * B64 ^ 4 * m.Ri % m.M = x % m.M := by
 rw [Nat.mul_assoc, Nat.mul_mod, h.inv, Nat.mul_one, Nat.mod_mod]
theorem m0e (a b R Ri M : Nat) : (a * R % M) * (b * R % M) * Ri % M = (a * b * R) * R * Ri % M := by
 rw [← Nat.mod_mul_mod (a * R % M * (b * R % M)), ← Nat.mul_mod, Nat.mod_mul_mod, Nat.mul_mul_mul_comm, ← Nat.mul_assoc (a * b)]
theorem o0C (n R Ri M : Nat) : n * (R * R % M) * Ri % M = n * R * R * Ri % M := by
 rw [← Nat.mod_mul_mod (n * (R * R % M)), Nat.mul_mod_mod, Nat.mod_mul_mod, ← Nat.mul_assoc]
theorem y0f (m : Md) (h : m.Ok) (x y : Nat) : elN m x * elN m y * m.Ri % m.M = elN m (x * y) := by
 unfold elN
 rw [m0e, w0b m h]
theorem y0g (m : Md) (h : m.Ok) (n : Nat) : n * (B64 ^ 4 * B64 ^ 4 % m.M) * m.Ri % m.M = elN m n := by
 rw [o0C, w0b m h, elN]
theorem m0f (m : Md) (h : m.Ok) (x : Nat) : elN m x * 1 * m.Ri % m.M = x % m.M := by
 rw [Nat.mul_one, elN, Nat.mod_mul_mod, w0b m h]
theorem n0k (m : Md) (x y : Nat) : (elN m x + elN m y) % m.M = elN m (x + y) := by
 rw [elN, elN, elN, ← Nat.add_mod, Nat.add_mul]
theorem y0h (m : Md) (h : m.Ok) {x y : Nat} (e : elN m x = elN m y) : x % m.M = y % m.M := by
 rw [← m0f m h x, e, m0f m h y]
theorem u0H (m : Md) (h : m.Ok) (x y : Nat) : (elN m x + m.M - elN m y) % m.M = elN m (x + (m.M - y % m.M)) := by
 have hM : 0 < m.M := by have := h.one; omega
 have hy := j0q m h y
 have h1 : (elN m x + m.M - elN m y) + elN m y = elN m x + m.M := by omega
 have hym := Nat.mod_lt y hM
 have e1 : ((elN m x + m.M - elN m y) % m.M + elN m y) % m.M = elN m x % m.M := by
  rw [Nat.mod_add_mod, h1, Nat.add_mod_right]
 have e2 : (elN m (x + (m.M - y % m.M)) + elN m y) % m.M = elN m x % m.M := by
  rw [n0k, Nat.mod_eq_of_lt (j0q m h x)]
  refine j0r m ?_
  rw [Nat.add_assoc, Nat.add_mod x, Nat.add_comm _ y, ← Nat.mod_add_mod y, show y % m.M + (m.M - y % m.M) = m.M by omega, Nat.mod_self, Nat.add_zero, Nat.mod_mod]
 have a1 := Nat.mod_lt (elN m x + m.M - elN m y) hM
 have a2 := j0q m h (x + (m.M - y % m.M))
 generalize (elN m x + m.M - elN m y) % m.M = p at *
 generalize elN m (x + (m.M - y % m.M)) = q at *
 generalize elN m y = r at *
 have e3 : (p + r) % m.M = (q + r) % m.M := by rw [e1, e2]
 have l1 := Nat.div_add_mod (p + r) m.M
 have l2 := Nat.div_add_mod (q + r) m.M
 rcases Nat.lt_or_ge (p + r) m.M with h1 | h1 <;> rcases Nat.lt_or_ge (q + r) m.M with h2 | h2
 ·rw [Nat.mod_eq_of_lt h1, Nat.mod_eq_of_lt h2] at e3; omega
 ·rw [Nat.mod_eq_of_lt h1, Nat.mod_eq_sub_mod h2, Nat.mod_eq_of_lt ap1] at e3; omega
 ·rw [Nat.mod_eq_of_lt h2, Nat.mod_eq_sub_mod h1, Nat.mod_eq_of_lt ap1] at e3; omega
 ·rw [Nat.mod_eq_sub_mod h1, Nat.mod_eq_sub_mod h2, Nat.mod_eq_of_lt ap1, Nat.mod_eq_of_lt ap1] at e3; omega
theorem q0v (a b : Nat) (ha : a < B64 ^ 4) (hb : b < B64 ^ 4) : b0f a b 4 = lw (a + b) 4 := by
 rw [s0z a b 4 ha hb]
 unfold lw
 have h0 := c0u 4
 have : (a + b) / B64 ^ 4 < 2 := Nat.div_lt_of_lt_mul ap1
 exact (Nat.mod_eq_of_lt (Nat.lt_trans this ap2)).symm
theorem k0z (a b M : Nat) (_ : a < M) (hb : b < M) (hM : M < B64 ^ 4) (h : a < b) : Go.Mv.cw 4 ((a + M - b) % M) = Go.Mv.cw 4 (a + B64 ^ 4 - b + M) := by
 rw [Nat.mod_eq_of_lt ap1, ← Go.Mv.cw_mod 4 (a + B64 ^ 4 - b + M)]
 rw [show a + B64 ^ 4 - b + M = (a + M - b) + B64 ^ 4 by omega, Nat.add_mod_right, Go.Mv.cw_mod]
theorem k0A (a b M : Nat) (ha : a < M) (hb : b < M) (h : ¬ a < b) : Go.Mv.cw 4 ((a + M - b) % M) = Go.Mv.cw 4 (a + B64 ^ 4 - b) := by
 have _h := hb
 rw [show a + M - b = (a - b) + M by omega, Nat.add_mod_right, Nat.mod_eq_of_lt ap1, ← Go.Mv.cw_mod 4 (a + B64 ^ 4 - b), show a + B64 ^ 4 - b = (a - b) + B64 ^ 4 by omega, Nat.add_mod_right, Go.Mv.cw_mod]
end Mvp
namespace Go.Proofs.YtpfimiajoifjaaaGreat
section
open Go.RowKit Go.Mv Mvp
attribute [local irreducible] a0v lw mix cw b0e b0f b0a beN b0l b0b a0z a0F elN
theorem d0O (m : Md) (gp : Nat) (w : World) (hok : m.Ok) (hpm : Has w gp (mdL m) 234)  :
  Calls Tryz.prog 187 #[.pointer (some ⟨gp, 0, none⟩)] w fun e w' => e = .returned (i4 (elN m 1)) ∧ Fr Nob w w' := by
 have HOK := qH hok
 have HPM := qH hpm
 clear hok hpm
 have st0 := St.start Nob w
 go_enter Tryz.func187, Tryz.ntmps187
 go_wp2_with (with_reducible refine wSk 2 ?_)
 refine a0b st0 rfl rfl (z := zAd) ap0 (cw 4 0) ap5 ?_
 intro g2 w1 st1
 clear st0
 go_wp2_with (with_reducible refine wSk 6 ?_)
 refine c0H rfl rfl Tryz.underlying167 rfl (HPM.out.keep st1.fr id) (cw 4 (B64 ^ 4 % m.M)) (x0Z m) ap7 ?_
 go_wp2_with (with_reducible refine wSn ?_)
 refine a0c st1 0 rfl rfl rfl rfl rfl ap6 ap7 (a0f _ _) ?_
 intro w2 st2
 clear st1
 have hr := st2.at 0 rfl
 have hfr := st2.fr
 clear st2
 go_wp2_with fail
 exact bodyPost_ret (a0B rfl rfl hr Tryz.underlying123 ap7) rfl ⟨by rw [← y0e m]; rfl, hfr⟩
theorem s0L (a : Nat) (w : World) :
  Calls Tryz.prog 246 #[i4 a] w fun e w' => e = .returned (i4 a) ∧ Fr Nob w w' := by
 have st0 := St.start Nob w
 go_enter Tryz.func246, Tryz.ntmps246
 go_wp2_with (with_reducible refine wSk 1 ?_)
 refine a0r st0 rfl rfl rfl (cw 4 a) rfl ?_
 intro g1 w1 st1
 clear st0
 go_wp2_with (with_reducible refine wSk 2 ?_)
 refine a0b st1 rfl rfl (z := zAd) ap0 (cw 4 0) ap5 ?_
 intro g2 w2 st2
 clear st1
 go_wp2_with (with_reducible refine wSk 3 ?_)
 refine a0m st2 0 rfl rfl rfl Tryz.underlying123 rfl ap7 ?_
 go_wp2_with (with_reducible refine wSn ?_)
 refine a0c st2 1 rfl rfl rfl rfl rfl ap6 ap7 (a0f _ _) ?_
 intro w3 st3
 clear st2
 have hr := st3.at 1 rfl
 have hfr := st3.fr
 clear st3
 go_wp2_with fail
 exact bodyPost_ret (a0B rfl rfl hr Tryz.underlying167 ap7) rfl ⟨rfl, hfr⟩
theorem f0r (a b : Nat) (w : World) (ha : a < B64 ^ 4) (hb : b < B64 ^ 4) :
  Calls Tryz.prog 159 #[i4 a, i4 b] w fun e w' => e = .returned (.bool (decide (a < b))) ∧ Fr Nob w w' := by
 have HA := qH ha
 have HB := qH hb
 clear ha hb
 have st0 := St.start Nob w
 go_enter Tryz.func159, Tryz.ntmps159
 go_wp2_with (with_reducible refine wSk 2 ?_)
 refine a0r st0 rfl rfl rfl (cw 4 a) rfl ?_
 intro g2 w1 st1
 clear st0
 go_wp2_with (with_reducible refine wSk 3 ?_)
 refine a0r st1 rfl rfl rfl (cw 4 b) rfl ?_
 intro g3 w2 st2
 clear st1
 have HCS := qH (g0C a b 4 HA.out HB.out)
 go_wp2_with (with_reducible refine wSk 8 ?_)
 refine a0m st2 0 rfl rfl rfl Tryz.underlying167 rfl ap7 ?_
 go_wp2_with (with_reducible refine wSk 9 ?_)
 refine a0m st2 1 rfl rfl rfl Tryz.underlying167 rfl ap7 ?_
 go_wp2_with fail
 refine (d0i a b _ HB.out).mono ?_
 rintro e' w3 ⟨rfl, hf3⟩
 have st3 := st2.keep hf3
 clear st2 hf3
 go_wp2_with (with_reducible refine wSk 5 ?_)
 refine a0b st3 rfl rfl (z := zAd) ap0 (cw 4 0) ap5 ?_
 intro g5 w4 st4
 clear st3
 go_wp2_with (with_reducible refine wSn ?_)
 refine a0c st4 2 rfl rfl rfl rfl rfl ap6 ap7 (a0f _ _) ?_
 intro w5 st5
 clear st4
 have hfr := st5.fr
 clear st5
 have hcs := HCS.out
 clear HCS
 by_cases hlt : a < b
 ·rw [if_pos hlt] at hcs
  rw [hcs]
  have HLT := qH hlt
  clear hlt hcs
  go_wp2_with fail
  go_ret
  exact ⟨by rw [decide_eq_true HLT.out]; rfl, hfr⟩
 ·rw [if_neg hlt] at hcs
  rw [hcs]
  have HLT := qH hlt
  clear hlt hcs
  go_wp2_with fail
  go_ret
  exact ⟨by rw [decide_eq_false HLT.out]; rfl, hfr⟩
theorem c0O (m : Md) (gp : Nat) (w : World) (hok : m.Ok) (hpm : Has w gp (mdL m) 234) (n : Nat) (hn : n < B64 ^ 4) :
  Calls Tryz.prog 160 #[.pointer (some ⟨gp, 0, none⟩), i4 n] w fun e w' => e = .returned (i4 (elN m n)) ∧ Fr Nob w w' := by
 have HOK := qH hok
 have HPM := qH hpm
 clear hok hpm
 have HN := qH hn
 clear hn
 have st0 := St.start Nob w
 go_enter Tryz.func160, Tryz.ntmps160
 go_wp2_with (with_reducible refine wSk 3 ?_)
 refine a0r st0 rfl rfl rfl (cw 4 n) rfl ?_
 intro g3 w1 st1
 clear st0
 go_wp2_with (with_reducible refine wSk 4 ?_)
 refine a0b st1 rfl rfl (z := zAd) ap0 (cw 4 0) ap5 ?_
 intro g4 w2 st2
 clear st1
 go_wp2_with fail
 refine wp_region_noPanic ?_
 refine a0d (fun wx => St Nob w wx [(g3, cw 4 n, 167), (g4, cw 4 0, 123)]) 7 (.w 0 (.t 1 (.w 2 (.w 3 (.w 4 (.t 5 (.r 6 (.m 7 .nil)))))))) ap0 ap0 st2.drew (fun _ _ _ _ _ h => h) ?_
 have hd2 := st2.drew
 clear st2
 refine a0a rfl rfl apW ?_
 try simp only [clL]
 refine a0h rfl rfl rfl rfl (cw 4 n) (fun wx hS => St.rangeL hS 0 rfl 0 _ dZl) Tryz.underlying167 rfl ap7 ?_
 try simp only [clL]
 refine a0a rfl rfl apW ?_
 try simp only [clL]
 refine a0a rfl rfl apW ?_
 try simp only [clL]
 refine a0a rfl rfl apW ?_
 try simp only [clL]
 refine a0h rfl rfl rfl rfl (cw 4 (B64 ^ 4 * B64 ^ 4 % m.M)) (fun wx hS => (HPM.out.keep (St.fr hS) id).range 9 _ (y0a m)) Tryz.underlying167 rfl ap7 ?_
 try simp only [clL]
 refine a0q rfl rfl ?_
 go_simp
 refine (g0E m gp n (B64 ^ 4 * B64 ^ 4 % m.M) _ HOK.out (HPM.out.keep hd2.fr id) HN.out (Nat.mod_lt _ (by have := HOK.out.one; omega))).mono ?_
 rintro e' w3 ⟨rfl, hf3⟩
 have st3 := hd2.keep hf3
 clear hf3
 clear hd2
 refine ⟨st3, ?_⟩
 try simp only [clL]
 refine a0o rfl rfl ?_
 refine a0i st3 1 rfl rfl rfl rfl ap6 ap7 (a0f _ _) ?_
 intro w4 st4
 clear st3
 try simp only [Act.put]
 refine a0e ?_
 refine NoPanic.normal ?_
 have hr := st4.at 1 rfl
 have hfr := st4.fr
 clear st4
 go_wp2_with fail
 exact bodyPost_ret (a0B rfl rfl hr Tryz.underlying123 ap7) rfl ⟨by rw [← y0g m HOK.out n]; rfl, hfr⟩
theorem e0o (m : Md) (gp : Nat) (w : World) (hok : m.Ok) (hpm : Has w gp (mdL m) 234) (x : Nat) :
  Calls Tryz.prog 190 #[.pointer (some ⟨gp, 0, none⟩), i4 (elN m x)] w fun e w' => e = .returned (i4 (x % m.M)) ∧ Fr Nob w w' := by
 have HOK := qH hok
 have HPM := qH hpm
 clear hok hpm
 have hmul := fun wx (h : Has wx gp (mdL m) 234) => g0E m gp (elN m x) 1 wx HOK.out h (k0y m HOK.out x) HOK.out.one
 rw [m0f m HOK.out x, ← c0k 1 ap2] at hmul
 have HMUL := qH hmul
 clear hmul
 have st0 := St.start Nob w
 go_enter Tryz.func190, Tryz.ntmps190
 go_wp2_with (with_reducible refine wSk 3 ?_)
 refine a0r st0 rfl rfl rfl (cw 4 (elN m x)) rfl ?_
 intro g3 w1 st1
 clear st0
 go_wp2_with (with_reducible refine wSk 4 ?_)
 refine a0b st1 rfl rfl (z := zAd) ap0 (cw 4 0) ap5 ?_
 intro g4 w2 st2
 clear st1
 go_wp2_with (with_reducible refine wSk 6 ?_)
 refine a0m st2 0 rfl rfl rfl Tryz.underlying123 rfl ap7 ?_
 go_wp2_with fail
 refine (HMUL.out _ (HPM.out.keep st2.fr id)).mono ?_
 rintro e' w3 ⟨rfl, hf3⟩
 have st3 := st2.keep hf3
 clear st2 hf3
 go_wp2_with fail
 refine (s0L (x % m.M) _).mono ?_
 rintro e' w4 ⟨rfl, hf4⟩
 have st4 := st3.keep hf4
 clear st3 hf4
 go_wp2_with (with_reducible refine wSn ?_)
 refine a0c st4 1 rfl rfl rfl rfl rfl ap6 ap7 (a0f _ _) ?_
 intro w5 st5
 clear st4
 have hr := st5.at 1 rfl
 have hfr := st5.fr
 clear st5
 go_wp2_with fail
 exact bodyPost_ret (a0B rfl rfl hr Tryz.underlying167 ap7) rfl ⟨rfl, hfr⟩
theorem f0s (m : Md) (gp : Nat) (w : World) (hok : m.Ok) (hpm : Has w gp (mdL m) 234) (x y : Nat) :
  Calls Tryz.prog 207 #[.pointer (some ⟨gp, 0, none⟩), i4 (elN m x), i4 (elN m y)] w fun e w' => e = .returned (i4 (elN m (x + y))) ∧ Fr Nob w w' := by
 have HOK := qH hok
 have HPM := qH hpm
 clear hok hpm
 have hx := j0q m HOK.out x
 have hy := j0q m HOK.out y
 have HCA := qH (q0v (elN m x) (elN m y) (Nat.lt_trans hx HOK.out.lt) (Nat.lt_trans hy HOK.out.lt))
 have HFIN := qH (i0w (elN m x + elN m y) m.M HOK.out.lt ap1)
 have H2 := qH (show (elN m x + elN m y) < 2 * B64 ^ 4 by have := HOK.out.lt; omega)
 clear hx hy
 have st0 := St.start Nob w
 go_enter Tryz.func207, Tryz.ntmps207
 go_wp2_with (with_reducible refine wSk 4 ?_)
 refine a0r st0 rfl rfl rfl (cw 4 (elN m x)) rfl ?_
 intro g4 w1 st1
 clear st0
 go_wp2_with (with_reducible refine wSk 5 ?_)
 refine a0r st1 rfl rfl rfl (cw 4 (elN m y)) rfl ?_
 intro g5 w2 st2
 clear st1
 go_wp2_with (with_reducible refine wSk 6 ?_)
 refine a0b st2 rfl rfl (z := zAd) ap0 (cw 4 0) ap5 ?_
 intro g6 w3 st3
 clear st2
 go_wp2_with (with_reducible refine wSk 12 ?_)
 refine a0m st3 0 rfl rfl rfl Tryz.underlying123 rfl ap7 ?_
 go_wp2_with (with_reducible refine wSk 13 ?_)
 refine a0m st3 1 rfl rfl rfl Tryz.underlying123 rfl ap7 ?_
 go_wp2_with fail
 refine (f0n (elN m x) (elN m y) _).mono ?_
 rintro e' w4 ⟨rfl, hf4⟩
 have st4 := st3.keep hf4
 clear st3 hf4
 go_wp2_with (with_reducible refine wSk 7 ?_)
 refine a0b st4 rfl rfl (z := zAd) ap0 (cw 4 0) ap5 ?_
 intro g7 w5 st5
 clear st4
 go_wp2_with (with_reducible refine wSn ?_)
 refine a0c st5 3 rfl rfl rfl rfl rfl ap6 ap7 (a0f _ _) ?_
 intro w6 st6
 clear st5
 go_wp2_with fail
 refine wp_region_noPanic ?_
 refine a0d (fun wx => St Nob w wx [(g4, cw 4 (elN m x), 123), (g5, cw 4 (elN m y), 123), (g6, cw 4 0, 123), (g7, cw 4 (elN m x + elN m y), 167)]) 11 (.t 0 (.w 1 (.w 2 (.w 3 (.t 4 (.b 5 9 (.w 6 (.w 7 (.w 8 (.r 9 (.r 10 (.m 11 .nil)))))) (.r 5 (.w 6 (.w 7 (.w 8 (.r 10 (.m 11 .nil)))))))))))) ap0 ap0 st6.drew (fun _ _ _ _ _ h => h) ?_
 have hd6 := st6.drew
 clear st6
 refine a0h rfl rfl rfl rfl (cw 4 (elN m x + elN m y)) (fun wx hS => St.rangeL hS 3 rfl 0 _ dZl) Tryz.underlying167 rfl ap7 ?_
 try simp only [clL]
 refine a0a rfl rfl apW ?_
 try simp only [clL]
 refine a0a rfl rfl apW ?_
 try simp only [clL]
 refine a0a rfl rfl apW ?_
 try simp only [clL]
 refine a0h rfl rfl rfl rfl (cw 4 m.M) (fun wx hS => (HPM.out.keep (St.fr hS) id).range 0 _ (j0U m)) Tryz.underlying167 rfl ap7 ?_
 try simp only [clL]
 refine x0O (C := fun g9 wz => St Nob w wz [(g4, cw 4 (elN m x), 123), (g5, cw 4 (elN m y), 123), (g6, cw 4 0, 123), (g7, cw 4 (elN m x + elN m y), 167), (g9, cw 4 ((elN m x + elN m y) + B64 ^ 4 - m.M), 167)]) (F := ?_) rfl rfl rfl rfl (fun key => ?_) (fun key => ?_) ?_
 rotate_left 1
 ·skip
  go_simp
  refine (d0i (elN m x + elN m y) m.M _ HOK.out.lt).mono ?_
  rintro e' w7 ⟨rfl, hf7⟩
  have st7 := hd6.keep hf7
  clear hf7
  refine ⟨st7, ?_⟩
  try simp only [clL]
  refine a0a rfl rfl apW ?_
  try simp only [clL]
  refine a0a rfl rfl apW ?_
  try simp only [clL]
  refine a0a rfl rfl apW ?_
  try simp only [clL]
  refine a0q rfl rfl ?_
  refine a0X st7 rfl (z := zAd) ap0 (cw 4 0) ap5 ?_
  intro g9 w8 st8
  refine ⟨St.less st8 ap4, ?_⟩
  try simp only [clL]
  refine a0q rfl rfl ?_
  refine a0i st8 4 rfl rfl rfl rfl ap6 ap7 (a0f _ _) ?_
  intro w9 st9
  refine ⟨St.less st9 ap4, ?_⟩
  try simp only [Act.put]
  refine a0o rfl rfl ?_
  go_simp
  try simp only [clL]
  refine a0e ?_
  exact key g9 _ st9
 ·skip
  refine a0X hd6 rfl (z := zAd) ap0 (cw 4 0) ap5 ?_
  intro g9 w10 st10
  refine ⟨St.less st10 ap4, ?_⟩
  try simp only [clL]
  refine a0q rfl rfl ?_
  go_simp
  refine (d0i (elN m x + elN m y) m.M _ HOK.out.lt).mono ?_
  rintro e' w11 ⟨rfl, hf11⟩
  have st11 := st10.keep hf11
  clear hf11
  refine ⟨St.less st11 ap4, ?_⟩
  try simp only [clL]
  refine a0a rfl rfl apW ?_
  try simp only [clL]
  refine a0a rfl rfl apW ?_
  try simp only [clL]
  refine a0a rfl rfl apW ?_
  try simp only [clL]
  refine a0q rfl rfl ?_
  refine a0i st11 4 rfl rfl rfl rfl ap6 ap7 (a0f _ _) ?_
  intro w12 st12
  refine ⟨St.less st12 ap4, ?_⟩
  try simp only [Act.put]
  refine a0o rfl rfl ?_
  go_simp
  try simp only [clL]
  refine a0e ?_
  exact key g9 _ st12
 intro g9 w13 st13
 have st13 : St Nob w w13 [(g4, cw 4 (elN m x), 123), (g5, cw 4 (elN m y), 123), (g6, cw 4 0, 123), (g7, cw 4 (elN m x + elN m y), 167), (g9, cw 4 ((elN m x + elN m y) + B64 ^ 4 - m.M), 167)] := st13
 clear hd6
 refine NoPanic.normal ?_
 have hca := HCA.out
 have hfin := HFIN.out
 rw [hca]
 by_cases hlt2 : (elN m x + elN m y) < m.M
 ·obtain ⟨f1, f2, f3⟩ := hfin.1 hlt2
  rw [f1, f2]
  have HF := qH f3
  clear hca hfin f1 f2 f3 hlt2
  go_wp2_with (with_reducible refine wSk 32 ?_)
  refine a0m st13 3 rfl rfl rfl Tryz.underlying167 rfl ap7 ?_
  go_wp2_with (with_reducible refine wSn ?_)
  refine a0c st13 2 rfl rfl rfl rfl rfl ap6 ap7 (a0f _ _) ?_
  intro w14 st14
  clear st13
  have hr := st14.at 2 rfl
  have hfr := st14.fr
  clear st14
  go_wp2_with fail
  exact bodyPost_ret (a0B rfl rfl hr Tryz.underlying123 ap7) rfl ⟨by rw [← n0k]; unfold i4; rw [HF.out], hfr⟩
 ·obtain ⟨f3, f4⟩ := hfin.2 hlt2
  have HF := qH f3
  by_cases hlt3 : (elN m x + elN m y) < B64 ^ 4
  ·obtain ⟨f1, f2⟩ := f4 hlt3
   rw [f1, f2]
   clear hca hfin f1 f2 f3 f4 hlt2 hlt3
   go_wp2_with (with_reducible refine wSk 33 ?_)
   refine a0m st13 4 rfl rfl rfl Tryz.underlying167 rfl ap7 ?_
   go_wp2_with (with_reducible refine wSn ?_)
   refine a0c st13 2 rfl rfl rfl rfl rfl ap6 ap7 (a0f _ _) ?_
   intro w14 st14
   clear st13
   have hr := st14.at 2 rfl
   have hfr := st14.fr
   clear st14
   go_wp2_with fail
   exact bodyPost_ret (a0B rfl rfl hr Tryz.underlying123 ap7) rfl ⟨by rw [← n0k]; unfold i4; rw [HF.out], hfr⟩
  ·have f1 := q0o _ H2.out hlt3
   rw [f1]
   clear hca hfin f1 f3 f4 hlt2 hlt3
   go_wp2_with (with_reducible refine wSk 33 ?_)
   refine a0m st13 4 rfl rfl rfl Tryz.underlying167 rfl ap7 ?_
   go_wp2_with (with_reducible refine wSn ?_)
   refine a0c st13 2 rfl rfl rfl rfl rfl ap6 ap7 (a0f _ _) ?_
   intro w14 st14
   clear st13
   have hr := st14.at 2 rfl
   have hfr := st14.fr
   clear st14
   go_wp2_with fail
   exact bodyPost_ret (a0B rfl rfl hr Tryz.underlying123 ap7) rfl ⟨by rw [← n0k]; unfold i4; rw [HF.out], hfr⟩
theorem n0l (m : Md) (gp : Nat) (w : World) (hok : m.Ok) (hpm : Has w gp (mdL m) 234) (x y : Nat) :
  Calls Tryz.prog 181 #[.pointer (some ⟨gp, 0, none⟩), i4 (elN m x), i4 (elN m y)] w fun e w' => e = .returned (i4 (elN m (x + (m.M - y % m.M)))) ∧ Fr Nob w w' := by
 have HOK := qH hok
 have HPM := qH hpm
 clear hok hpm
 have hx := j0q m HOK.out x
 have hy := j0q m HOK.out y
 have HY4 := qH (Nat.lt_trans hy HOK.out.lt)
 have HCS := qH (g0C (elN m x) (elN m y) 4 (Nat.lt_trans hx HOK.out.lt) (Nat.lt_trans hy HOK.out.lt))
 have HSA := qH (k0z (elN m x) (elN m y) m.M hx hy HOK.out.lt)
 have HSB := qH (k0A (elN m x) (elN m y) m.M hx hy)
 clear hx hy
 have st0 := St.start Nob w
 go_enter Tryz.func181, Tryz.ntmps181
 go_wp2_with (with_reducible refine wSk 4 ?_)
 refine a0r st0 rfl rfl rfl (cw 4 (elN m x)) rfl ?_
 intro g4 w1 st1
 clear st0
 go_wp2_with (with_reducible refine wSk 5 ?_)
 refine a0r st1 rfl rfl rfl (cw 4 (elN m y)) rfl ?_
 intro g5 w2 st2
 clear st1
 go_wp2_with (with_reducible refine wSk 6 ?_)
 refine a0b st2 rfl rfl (z := zAd) ap0 (cw 4 0) ap5 ?_
 intro g6 w3 st3
 clear st2
 go_wp2_with (with_reducible refine wSk 10 ?_)
 refine a0m st3 0 rfl rfl rfl Tryz.underlying123 rfl ap7 ?_
 go_wp2_with (with_reducible refine wSk 11 ?_)
 refine a0m st3 1 rfl rfl rfl Tryz.underlying123 rfl ap7 ?_
 go_wp2_with fail
 refine (d0i (elN m x) (elN m y) _ HY4.out).mono ?_
 rintro e' w4 ⟨rfl, hf4⟩
 have st4 := st3.keep hf4
 clear st3 hf4
 go_wp2_with (with_reducible refine wSk 7 ?_)
 refine a0b st4 rfl rfl (z := zAd) ap0 (cw 4 0) ap5 ?_
 intro g7 w5 st5
 clear st4
 go_wp2_with (with_reducible refine wSn ?_)
 refine a0c st5 3 rfl rfl rfl rfl rfl ap6 ap7 (a0f _ _) ?_
 intro w6 st6
 clear st5
 have hcs := HCS.out
 by_cases hlt : elN m x < elN m y
 ·rw [if_pos hlt] at hcs
  rw [hcs]
  have HV := qH (HSA.out hlt)
  clear hcs hlt
  go_wp2_with fail
  refine wp_region_noPanic ?_
  refine a0d (fun wx => St Nob w wx [(g4, cw 4 (elN m x), 123), (g5, cw 4 (elN m y), 123), (g6, cw 4 0, 123), (g7, cw 4 (elN m x + B64 ^ 4 - elN m y), 167)]) 9 (.t 0 (.w 1 (.w 2 (.w 3 (.t 4 (.r 5 (.w 6 (.w 7 (.w 8 (.m 9 .nil)))))))))) ap0 ap0 st6.drew (fun _ _ _ _ _ h => h) ?_
  have hd6 := st6.drew
  clear st6
  refine a0h rfl rfl rfl rfl (cw 4 (elN m x + B64 ^ 4 - elN m y)) (fun wx hS => St.rangeL hS 3 rfl 0 _ dZl) Tryz.underlying167 rfl ap7 ?_
  try simp only [clL]
  refine a0a rfl rfl apW ?_
  try simp only [clL]
  refine a0a rfl rfl apW ?_
  try simp only [clL]
  refine a0a rfl rfl apW ?_
  try simp only [clL]
  refine a0h rfl rfl rfl rfl (cw 4 m.M) (fun wx hS => (HPM.out.keep (St.fr hS) id).range 0 _ (j0U m)) Tryz.underlying167 rfl ap7 ?_
  try simp only [clL]
  refine a0q rfl rfl ?_
  go_simp
  refine (f0n (elN m x + B64 ^ 4 - elN m y) m.M _).mono ?_
  rintro e' w7 ⟨rfl, hf7⟩
  have st7 := hd6.keep hf7
  clear hf7
  clear hd6
  refine ⟨st7, ?_⟩
  try simp only [clL]
  refine a0a rfl rfl apW ?_
  try simp only [clL]
  refine a0a rfl rfl apW ?_
  try simp only [clL]
  refine a0a rfl rfl apW ?_
  try simp only [clL]
  refine a0o rfl rfl ?_
  refine a0i st7 3 rfl rfl rfl rfl ap6 ap7 (a0f _ _) ?_
  intro w8 st8
  clear st7
  try simp only [Act.put]
  refine a0e ?_
  refine NoPanic.normal ?_
  go_wp2_with (with_reducible refine wSk 26 ?_)
  refine a0m st8 3 rfl rfl rfl Tryz.underlying167 rfl ap7 ?_
  go_wp2_with (with_reducible refine wSn ?_)
  refine a0c st8 2 rfl rfl rfl rfl rfl ap6 ap7 (a0f _ _) ?_
  intro w9 st9
  clear st8
  have hr := st9.at 2 rfl
  have hfr := st9.fr
  clear st9
  go_wp2_with fail
  exact bodyPost_ret (a0B rfl rfl hr Tryz.underlying123 ap7) rfl ⟨by rw [← u0H m HOK.out]; unfold i4; rw [← HV.out], hfr⟩
 ·rw [if_neg hlt] at hcs
  rw [hcs]
  have HV := qH (HSB.out hlt)
  clear hcs hlt
  go_wp2_with (with_reducible refine wSk 26 ?_)
  refine a0m st6 3 rfl rfl rfl Tryz.underlying167 rfl ap7 ?_
  go_wp2_with (with_reducible refine wSn ?_)
  refine a0c st6 2 rfl rfl rfl rfl rfl ap6 ap7 (a0f _ _) ?_
  intro w7 st7
  clear st6
  have hr := st7.at 2 rfl
  have hfr := st7.fr
  clear st7
  go_wp2_with fail
  exact bodyPost_ret (a0B rfl rfl hr Tryz.underlying123 ap7) rfl ⟨by rw [← u0H m HOK.out]; unfold i4; rw [← HV.out], hfr⟩
theorem j0s (m : Md) (gp : Nat) (w : World) (hok : m.Ok) (hpm : Has w gp (mdL m) 234) (x : Nat) :
  Calls Tryz.prog 182 #[.pointer (some ⟨gp, 0, none⟩), i4 (elN m x)] w fun e w' => e = .returned (i4 (elN m (m.M - x % m.M))) ∧ Fr Nob w w' := by
 have HOK := qH hok
 have HPM := qH hpm
 clear hok hpm
 have hsub := fun wx (h : Has wx gp (mdL m) 234) => n0l m gp wx HOK.out h 0 x
 rw [d0u m, ← c0k 0 ap2] at hsub
 have HSUB := qH hsub
 clear hsub
 have st0 := St.start Nob w
 go_enter Tryz.func182, Tryz.ntmps182
 go_wp2_with (with_reducible refine wSk 3 ?_)
 refine a0r st0 rfl rfl rfl (cw 4 (elN m x)) rfl ?_
 intro g3 w1 st1
 clear st0
 go_wp2_with (with_reducible refine wSk 4 ?_)
 refine a0b st1 rfl rfl (z := zAd) ap0 (cw 4 0) ap5 ?_
 intro g4 w2 st2
 clear st1
 go_wp2_with (with_reducible refine wSk 7 ?_)
 refine a0m st2 0 rfl rfl rfl Tryz.underlying123 rfl ap7 ?_
 go_wp2_with fail
 refine (HSUB.out _ (HPM.out.keep st2.fr id)).mono ?_
 rintro e' w3 ⟨rfl, hf3⟩
 have st3 := st2.keep hf3
 clear st2 hf3
 go_wp2_with (with_reducible refine wSn ?_)
 refine a0c st3 1 rfl rfl rfl rfl rfl ap6 ap7 (a0f _ _) ?_
 intro w4 st4
 clear st3
 have hr := st4.at 1 rfl
 have hfr := st4.fr
 clear st4
 go_wp2_with fail
 exact bodyPost_ret (a0B rfl rfl hr Tryz.underlying123 ap7) rfl ⟨rfl, hfr⟩
theorem s0M (m : Md) (gp : Nat) (w : World) (hok : m.Ok) (hpm : Has w gp (mdL m) 234) (x y : Nat) :
  Calls Tryz.prog 180 #[.pointer (some ⟨gp, 0, none⟩), i4 (elN m x), i4 (elN m y)] w fun e w' => e = .returned (i4 (elN m (x * y))) ∧ Fr Nob w w' := by
 have h := g0E m gp (elN m x) (elN m y) w hok hpm (k0y m hok x) (j0q m hok y)
 rwa [y0f m hok] at h
theorem d0j (m : Md) (gp : Nat) (w : World) (hok : m.Ok) (hpm : Has w gp (mdL m) 234) (x : Nat) :
  Calls Tryz.prog 189 #[.pointer (some ⟨gp, 0, none⟩), i4 (elN m x)] w fun e w' => e = .returned (i4 (elN m (x * x))) ∧ Fr Nob w w' := by
 have HOK := qH hok
 have HPM := qH hpm
 clear hok hpm
 have st0 := St.start Nob w
 go_enter Tryz.func189, Tryz.ntmps189
 go_wp2_with (with_reducible refine wSk 3 ?_)
 refine a0r st0 rfl rfl rfl (cw 4 (elN m x)) rfl ?_
 intro g3 w1 st1
 clear st0
 go_wp2_with (with_reducible refine wSk 4 ?_)
 refine a0b st1 rfl rfl (z := zAd) ap0 (cw 4 0) ap5 ?_
 intro g4 w2 st2
 clear st1
 go_wp2_with (with_reducible refine wSk 6 ?_)
 refine a0m st2 0 rfl rfl rfl Tryz.underlying123 rfl ap7 ?_
 go_wp2_with (with_reducible refine wSk 7 ?_)
 refine a0m st2 0 rfl rfl rfl Tryz.underlying123 rfl ap7 ?_
 go_wp2_with fail
 refine (s0M m gp _ HOK.out (HPM.out.keep st2.fr id) x x).mono ?_
 rintro e' w3 ⟨rfl, hf3⟩
 have st3 := st2.keep hf3
 clear st2 hf3
 go_wp2_with (with_reducible refine wSn ?_)
 refine a0c st3 1 rfl rfl rfl rfl rfl ap6 ap7 (a0f _ _) ?_
 intro w4 st4
 clear st3
 have hr := st4.at 1 rfl
 have hfr := st4.fr
 clear st4
 go_wp2_with fail
 exact bodyPost_ret (a0B rfl rfl hr Tryz.underlying123 ap7) rfl ⟨rfl, hfr⟩
end
section
open Go.RowKit Go.Mv Mvp
attribute [local irreducible] a0v lw mix cw b0e b0f b0a beN b0l b0b a0z a0F elN
theorem y0i (m : Md) (x n i : Nat) (h : n / 2 ^ i % 2 = 0) : elN m (x ^ (n / 2 ^ (i + 1)) * x ^ (n / 2 ^ (i + 1))) = elN m (x ^ (n / 2 ^ i)) := by
 have := f0p n i
 rw [h, Nat.two_mul, Nat.add_zero] at this
 rw [← Nat.pow_add, this]
theorem y0j (m : Md) (x n i : Nat) (h : n / 2 ^ i % 2 = 1) : elN m (x ^ (n / 2 ^ (i + 1)) * x ^ (n / 2 ^ (i + 1)) * x) = elN m (x ^ (n / 2 ^ i)) := by
 have := f0p n i
 rw [h, Nat.two_mul] at this
 rw [← Nat.pow_add, ← Nat.pow_succ, this]
theorem q0w (m : Md) (x n : Nat) (h : n < B64 ^ 4) : elN m (x ^ (n / 2 ^ 256)) = elN m 1 := by
 rw [Nat.div_eq_of_lt (Nat.lt_of_lt_of_le h ap2), Nat.pow_zero]
theorem q0x (m : Md) (x n : Nat) : elN m (x ^ (n / 2 ^ 0)) = elN m (x ^ n) := by rw [Nat.pow_zero, Nat.div_one]
theorem y0k (m : Md) (n i : Nat) (h : n / 2 ^ i % 2 = 0) : elN m (n / 2 ^ (i + 1) + n / 2 ^ (i + 1)) = elN m (n / 2 ^ i) := by
 have := f0p n i
 rw [h, Nat.two_mul, Nat.add_zero] at this
 rw [this]
theorem y0l (m : Md) (n i : Nat) (h : n / 2 ^ i % 2 = 1) : elN m (n / 2 ^ (i + 1) + n / 2 ^ (i + 1) + 1) = elN m (n / 2 ^ i) := by
 have := f0p n i
 rw [h, Nat.two_mul] at this
 rw [this]
theorem g0F (m : Md) (gp : Nat) (w : World) (hok : m.Ok) (hpm : Has w gp (mdL m) 234) (x n : Nat) (hn : n < B64 ^ 4) :
  Calls Tryz.prog 241 #[.pointer (some ⟨gp, 0, none⟩), i4 (elN m x), i4 n] w fun e w' => e = .returned (i4 (elN m (x ^ n))) ∧ Fr Nob w w' := by
 have HOK := qH hok
 have HPM := qH hpm
 clear hok hpm
 have HN := qH hn
 have HTOP := qH (q0w m x n hn)
 clear hn
 have st0 := St.start Nob w
 go_enter Tryz.func241, Tryz.ntmps241
 go_wp2_with (with_reducible refine wSk 4 ?_)
 refine a0r st0 rfl rfl rfl (cw 4 (elN m x)) rfl ?_
 intro g4 w1 st1
 clear st0
 go_wp2_with (with_reducible refine wSk 5 ?_)
 refine a0r st1 rfl rfl rfl (cw 4 n) rfl ?_
 intro g5 w2 st2
 clear st1
 go_wp2_with (with_reducible refine wSk 6 ?_)
 refine a0b st2 rfl rfl (z := zAd) ap0 (cw 4 0) ap5 ?_
 intro g6 w3 st3
 clear st2
 go_wp2_with fail
 refine (d0O m gp _ HOK.out (HPM.out.keep st3.fr id)).mono ?_
 rintro e' w4 ⟨rfl, hf4⟩
 have st4 := st3.keep hf4
 clear st3 hf4
 go_wp2_with (with_reducible refine wSk 7 ?_)
 refine a0b st4 rfl rfl (z := zAd) ap0 (cw 4 0) ap5 ?_
 intro g7 w5 st5
 clear st4
 go_wp2_with (with_reducible refine wSn ?_)
 refine a0c st5 3 rfl rfl rfl rfl rfl ap6 ap7 (a0f _ _) ?_
 intro w6 st6
 clear st5
 go_wp2
 go_loopw [8] (fun i wr => ∃ j : Nat, j ≤ 256 ∧ i = .int .i64 ((j : Int) - 1) ∧ St Nob w wr [(g4, cw 4 (elN m x), 123), (g5, cw 4 n, 167), (g6, cw 4 0, 123), (g7, cw 4 (elN m (x ^ (n / 2 ^ j))), 123)]) (fun i _ => (intOf i + 1).toNat)
 case atStart => exact ⟨256, by omega, rfl, by rw [HTOP.out]; exact st6⟩
 case round =>
  obtain ⟨j, hj, rfl, st⟩ := hrel
  clear st6
  cases j with
  | succ i =>
   rw [show (((i + 1 : Nat) : Int)) - 1 = (i : Int) by omega]
   have hge : (0 : Int) ≤ (i : Int) := by omega
   go_wp2_with (with_reducible refine wSk 16 ?_)
   refine a0m st 3 rfl rfl rfl Tryz.underlying123 rfl ap7 ?_
   go_wp2_with fail
   refine (d0j m gp _ HOK.out (HPM.out.keep st.fr id) (x ^ (n / 2 ^ (i + 1)))).mono ?_
   rintro e' w7 ⟨rfl, hf7⟩
   have st7 := st.keep hf7
   clear st hf7
   go_wp2_with (with_reducible refine wSn ?_)
   refine a0c st7 3 rfl rfl rfl rfl rfl ap6 ap7 (a0f _ _) ?_
   intro w8 st8
   clear st7
   go_wp2_with (with_reducible refine wSk 18 ?_)
   refine a0m st8 1 rfl rfl rfl Tryz.underlying167 rfl ap7 ?_
   go_wp2_with fail
   refine (n0i n i _ ap1).mono ?_
   rintro e' w9 ⟨rfl, hf9⟩
   have st9 := st8.keep hf9
   clear st8 hf9
   have hbt : n / 2 ^ i % 2 = 0 ∨ n / 2 ^ i % 2 = 1 := by omega
   have HS0 := qH (y0i m x n i)
   have HS1 := qH (y0j m x n i)
   generalize hbb : n / 2 ^ i % 2 = bt at *
   have HBB := qH hbb
   clear hbb
   rcases hbt with rfl | rfl
   ·have hst := st9
    rw [HS0.out (by first | rfl | trivial)] at hst
    clear st9
    go_wp2
    go_roundw
    case rel => exact ⟨i, by omega, rfl, hst⟩
    case measure => simp [intOf]
   ·skip
    go_wp2_with (with_reducible refine wSk 23 ?_)
    refine a0m st9 3 rfl rfl rfl Tryz.underlying123 rfl ap7 ?_
    go_wp2_with (with_reducible refine wSk 24 ?_)
    refine a0m st9 0 rfl rfl rfl Tryz.underlying123 rfl ap7 ?_
    go_wp2_with fail
    refine (s0M m gp _ HOK.out (HPM.out.keep st9.fr id) ((x ^ (n / 2 ^ (i + 1))) * (x ^ (n / 2 ^ (i + 1)))) x).mono ?_
    rintro e' w10 ⟨rfl, hf10⟩
    have st10 := st9.keep hf10
    clear st9 hf10
    go_wp2_with (with_reducible refine wSn ?_)
    refine a0c st10 3 rfl rfl rfl rfl rfl ap6 ap7 (a0f _ _) ?_
    intro w11 st11
    clear st10
    have hst := st11
    rw [HS1.out (by first | rfl | trivial)] at hst
    clear st11
    go_wp2
    go_roundw
    case rel => exact ⟨i, by omega, rfl, hst⟩
    case measure => simp [intOf]
  | zero =>
   rw [show (((0 : Nat) : Int)) - 1 = -1 by omega]
   go_wp2_with (with_reducible refine wSk 26 ?_)
   refine a0m st 3 rfl rfl rfl Tryz.underlying123 rfl ap7 ?_
   go_wp2_with (with_reducible refine wSn ?_)
   refine a0c st 2 rfl rfl rfl rfl rfl ap6 ap7 (a0f _ _) ?_
   intro w7 st7
   clear st
   have hr := st7.at 2 rfl
   have hfr := st7.fr
   clear st7
   go_wp2_with fail
   exact bodyPost_ret (a0B rfl rfl hr Tryz.underlying123 ap7) rfl ⟨by rw [← q0x]; rfl, hfr⟩
theorem n0m (m : Md) (gp : Nat) (w : World) (hok : m.Ok) (hpm : Has w gp (mdL m) 234) (x : Nat) :
  Calls Tryz.prog 179 #[.pointer (some ⟨gp, 0, none⟩), i4 (elN m x)] w fun e w' => e = .returned (i4 (elN m (x ^ (m.M - 2)))) ∧ Fr Nob w w' := by
 have HOK := qH hok
 have HPM := qH hpm
 clear hok hpm
 have HM2 := qH (show m.M - 2 < B64 ^ 4 by have := HOK.out.lt; omega)
 have h2m := fun wx => d0i m.M 2 wx ap2
 rw [q0l m.M 2 (by have := HOK.out.one; omega), ← c0k 2 ap2] at h2m
 have H2M := qH h2m
 clear h2m
 have st0 := St.start Nob w
 go_enter Tryz.func179, Tryz.ntmps179
 go_wp2_with (with_reducible refine wSk 3 ?_)
 refine a0r st0 rfl rfl rfl (cw 4 (elN m x)) rfl ?_
 intro g3 w1 st1
 clear st0
 go_wp2_with (with_reducible refine wSk 4 ?_)
 refine a0b st1 rfl rfl (z := zAd) ap0 (cw 4 0) ap5 ?_
 intro g4 w2 st2
 clear st1
 go_wp2_with (with_reducible refine wSk 11 ?_)
 refine c0H rfl rfl Tryz.underlying167 rfl (HPM.out.keep st2.fr id) (cw 4 m.M) (j0U m) ap7 ?_
 go_wp2_with fail
 refine (H2M.out _).mono ?_
 rintro e' w3 ⟨rfl, hf3⟩
 have st3 := st2.keep hf3
 clear st2 hf3
 go_wp2_with (with_reducible refine wSk 5 ?_)
 refine a0b st3 rfl rfl (z := zAd) ap0 (cw 4 0) ap5 ?_
 intro g5 w4 st4
 clear st3
 go_wp2_with (with_reducible refine wSn ?_)
 refine a0c st4 2 rfl rfl rfl rfl rfl ap6 ap7 (a0f _ _) ?_
 intro w5 st5
 clear st4
 go_wp2_with (with_reducible refine wSk 17 ?_)
 refine a0m st5 0 rfl rfl rfl Tryz.underlying123 rfl ap7 ?_
 go_wp2_with (with_reducible refine wSk 18 ?_)
 refine a0m st5 2 rfl rfl rfl Tryz.underlying167 rfl ap7 ?_
 go_wp2_with fail
 refine (g0F m gp _ HOK.out (HPM.out.keep st5.fr id) x (m.M - 2) HM2.out).mono ?_
 rintro e' w6 ⟨rfl, hf6⟩
 have st6 := st5.keep hf6
 clear st5 hf6
 go_wp2_with (with_reducible refine wSn ?_)
 refine a0c st6 1 rfl rfl rfl rfl rfl ap6 ap7 (a0f _ _) ?_
 intro w7 st7
 clear st6
 have hr := st7.at 1 rfl
 have hfr := st7.fr
 clear st7
 go_wp2_with fail
 exact bodyPost_ret (a0B rfl rfl hr Tryz.underlying123 ap7) rfl ⟨rfl, hfr⟩
theorem _root_.ap3 {p : Prop} (h : p := by first | (rw [a0g]; kernel_rfl) | (simp only [List.length_append, a0g]; kernel_rfl)) : p := h
theorem k0B (m : Md) (gp : Nat) (w : World) (hok : m.Ok) (hpm : Has w gp (mdL m) 234) (a : Option Addr) (n c : Nat) (l : List UInt8) (hb : RdB w a n l) (hn : n ≤ 32) :
  Calls Tryz.prog 274 #[.pointer (some ⟨gp, 0, none⟩), .slice a n c] w fun e w' => e = .returned (i4 (elN m (beN l))) ∧ Fr Nob w w' := by
 have HOK := qH hok
 have HPM := qH hpm
 clear hok hpm
 have HN := qH hn
 have HBB := qH hb
 have hbl := e0w l (by rw [hb.len]; exact hn)
 have HBL := qH hbl
 have HTOP := qH (show elN m (beN l / 2 ^ 256) = 0 by rw [Nat.div_eq_of_lt (Nat.lt_of_lt_of_le hbl ap2), d0u])
 have HALL := qH (show elN m (beN l / 2 ^ 0) = elN m (beN l) by rw [Nat.pow_zero, Nat.div_one])
 clear hb hbl
 clear hn
 have st0 := St.start Nob w
 go_enter Tryz.func274, Tryz.ntmps274
 go_wp2_with (with_reducible refine wSk 4 ?_)
 refine a0b st0 rfl rfl (z := zAd) ap0 (cw 4 0) ap5 ?_
 intro g4 w1 st1
 clear st0
 go_wp2_with fail
 refine (b0T a n c l _ (HBB.out.still st1.fr) HN.out).mono ?_
 rintro e' w2 ⟨rfl, hf2⟩
 have st2 := st1.keep hf2
 clear st1 hf2
 go_wp2_with (with_reducible refine wSk 5 ?_)
 refine a0b st2 rfl rfl (z := zAd) ap0 (cw 4 0) ap5 ?_
 intro g5 w3 st3
 clear st2
 go_wp2_with (with_reducible refine wSn ?_)
 refine a0c st3 1 rfl rfl rfl rfl rfl ap6 ap3 (a0f _ _) ?_
 intro w4 st4
 clear st3
 go_wp2_with fail
 refine wp_region_noPanic ?_
 refine a0d (fun wx => St Nob w wx [(g4, cw 4 0, 123), (g5, cw 4 (beN l), 167)]) 5 (.t 0 (.w 1 (.w 2 (.w 3 (.t 4 (.m 5 .nil)))))) ap0 ap0 st4.drew (fun _ _ _ _ _ h => h) ?_
 have hd4 := st4.drew
 clear st4
 refine a0h rfl rfl rfl rfl (cw 4 (beN l)) (fun wx hS => St.rangeL hS 1 rfl 0 _ dZl) Tryz.underlying167 rfl ap3 ?_
 try simp only [clL]
 refine a0a rfl rfl apW ?_
 try simp only [clL]
 refine a0a rfl rfl apW ?_
 try simp only [clL]
 refine a0a rfl rfl apW ?_
 try simp only [clL]
 refine a0h rfl rfl rfl rfl (cw 4 m.M) (fun wx hS => (HPM.out.keep (St.fr hS) id).range 0 _ (j0U m)) Tryz.underlying167 rfl ap3 ?_
 try simp only [clL]
 refine a0o rfl rfl ?_
 go_simp
 refine (f0r (beN l) m.M _ HBL.out HOK.out.lt).mono ?_
 rintro e' w5 ⟨rfl, hf5⟩
 have st5 := hd4.keep hf5
 clear hf5
 clear hd4
 try simp only []
 refine a0e ?_
 refine NoPanic.normal ?_
 by_cases hlt : beN l < m.M
 ·have hd := decide_eq_true hlt
  have HLT := qH hlt
  rw [hd]
  clear hd hlt
  go_wp2_with (with_reducible refine wSk 18 ?_)
  refine a0m st5 1 rfl rfl rfl Tryz.underlying167 rfl ap3 ?_
  go_wp2_with fail
  refine (c0O m gp _ HOK.out (HPM.out.keep st5.fr id) (beN l) HBL.out).mono ?_
  rintro e' w6 ⟨rfl, hf6⟩
  have st6 := st5.keep hf6
  clear st5 hf6
  go_wp2_with (with_reducible refine wSn ?_)
  refine a0c st6 0 rfl rfl rfl rfl rfl ap6 ap3 (a0f _ _) ?_
  intro w7 st7
  clear st6
  have hr := st7.at 0 rfl
  have hfr := st7.fr
  clear st7
  go_wp2_with fail
  exact bodyPost_ret (a0B rfl rfl hr Tryz.underlying123 ap3) rfl ⟨rfl, hfr⟩
 ·have hd := decide_eq_false hlt
  rw [hd]
  clear hd hlt
  go_wp2_with (with_reducible refine wSk 6 ?_)
  refine a0b st5 rfl rfl (z := zAd) ap0 (cw 4 0) ap5 ?_
  intro g6 w6 st6
  clear st5
  go_wp2_with fail
  refine (d0O m gp _ HOK.out (HPM.out.keep st6.fr id)).mono ?_
  rintro e' w7 ⟨rfl, hf7⟩
  have st7 := st6.keep hf7
  clear st6 hf7
  go_wp2_with (with_reducible refine wSk 7 ?_)
  refine a0b st7 rfl rfl (z := zAd) ap0 (cw 4 0) ap5 ?_
  intro g7 w8 st8
  clear st7
  go_wp2_with (with_reducible refine wSn ?_)
  refine a0c st8 3 rfl rfl rfl rfl rfl ap6 ap3 (a0f _ _) ?_
  intro w9 st9
  clear st8
  go_wp2
  go_loopw [8] (fun i wr => ∃ j : Nat, j ≤ 256 ∧ i = .int .i64 ((j : Int) - 1) ∧ St Nob w wr [(g4, cw 4 0, 123), (g5, cw 4 (beN l), 167), (g6, cw 4 (elN m (beN l / 2 ^ j)), 123), (g7, cw 4 (elN m 1), 123)]) (fun i _ => (intOf i + 1).toNat)
  case atStart => exact ⟨256, by omega, rfl, by rw [HTOP.out]; exact st9⟩
  case round =>
   obtain ⟨j, hj, rfl, st⟩ := hrel
   clear st9
   cases j with
   | succ i =>
    rw [show (((i + 1 : Nat) : Int)) - 1 = (i : Int) by omega]
    have hge : (0 : Int) ≤ (i : Int) := by omega
    go_wp2_with (with_reducible refine wSk 27 ?_)
    refine a0m st 2 rfl rfl rfl Tryz.underlying123 rfl ap3 ?_
    go_wp2_with (with_reducible refine wSk 28 ?_)
    refine a0m st 2 rfl rfl rfl Tryz.underlying123 rfl ap3 ?_
    go_wp2_with fail
    refine (f0s m gp _ HOK.out (HPM.out.keep st.fr id) (beN l / 2 ^ (i + 1)) (beN l / 2 ^ (i + 1))).mono ?_
    rintro e' w10 ⟨rfl, hf10⟩
    have st10 := st.keep hf10
    clear st hf10
    go_wp2_with (with_reducible refine wSn ?_)
    refine a0c st10 2 rfl rfl rfl rfl rfl ap6 ap3 (a0f _ _) ?_
    intro w11 st11
    clear st10
    go_wp2_with (with_reducible refine wSk 30 ?_)
    refine a0m st11 1 rfl rfl rfl Tryz.underlying167 rfl ap3 ?_
    go_wp2_with fail
    refine (n0i (beN l) i _ ap1).mono ?_
    rintro e' w12 ⟨rfl, hf12⟩
    have st12 := st11.keep hf12
    clear st11 hf12
    have hbt : beN l / 2 ^ i % 2 = 0 ∨ beN l / 2 ^ i % 2 = 1 := by omega
    have HS0 := qH (y0k m (beN l) i)
    have HS1 := qH (y0l m (beN l) i)
    generalize hbb : beN l / 2 ^ i % 2 = bt at *
    have HBT := qH hbb
    clear hbb
    rcases hbt with rfl | rfl
    ·have hst := st12
     rw [HS0.out (by first | rfl | trivial)] at hst
     clear st12
     go_wp2
     go_roundw
     case rel => exact ⟨i, by omega, rfl, hst⟩
     case measure => simp [intOf]
    ·skip
     go_wp2_with (with_reducible refine wSk 35 ?_)
     refine a0m st12 2 rfl rfl rfl Tryz.underlying123 rfl ap3 ?_
     go_wp2_with (with_reducible refine wSk 36 ?_)
     refine a0m st12 3 rfl rfl rfl Tryz.underlying123 rfl ap3 ?_
     go_wp2_with fail
     refine (f0s m gp _ HOK.out (HPM.out.keep st12.fr id) ((beN l / 2 ^ (i + 1)) + (beN l / 2 ^ (i + 1))) 1).mono ?_
     rintro e' w13 ⟨rfl, hf13⟩
     have st13 := st12.keep hf13
     clear st12 hf13
     go_wp2_with (with_reducible refine wSn ?_)
     refine a0c st13 2 rfl rfl rfl rfl rfl ap6 ap3 (a0f _ _) ?_
     intro w14 st14
     clear st13
     have hst := st14
     rw [HS1.out (by first | rfl | trivial)] at hst
     clear st14
     go_wp2
     go_roundw
     case rel => exact ⟨i, by omega, rfl, hst⟩
     case measure => simp [intOf]
   | zero =>
    rw [show (((0 : Nat) : Int)) - 1 = -1 by omega]
    go_wp2_with (with_reducible refine wSk 38 ?_)
    refine a0m st 2 rfl rfl rfl Tryz.underlying123 rfl ap3 ?_
    go_wp2_with (with_reducible refine wSn ?_)
    refine a0c st 0 rfl rfl rfl rfl rfl ap6 ap3 (a0f _ _) ?_
    intro w10 st10
    clear st
    have hr := st10.at 0 rfl
    have hfr := st10.fr
    clear st10
    go_wp2_with fail
    exact bodyPost_ret (a0B rfl rfl hr Tryz.underlying123 ap3) rfl ⟨rfl, hfr⟩
end
end Go.Proofs.YtpfimiajoifjaaaGreat
