/- tree.Root, Path, Growth; The reference's leads, Lies; The reference's Root; The reference's Path, Growth; The reference's grows, Grown; The law TreeGrew; The tree, plain: each leaf lies where its path says; a list that grew goes on with each of its beginnings; mintvaultlaw8.TreeTrue: the walk of the law; The reference's Apart: of lists that lie apart it returns true; The reference's Apart: the first two loops; mintvaultlaw8.same; Path and Growth of anything; The reference's Growth; mintvaultlaw8.TreeRoots: the walk of the law; mintvaultlaw8.TreeRoots: the law; From a walk that turns nothing (Fr Nob) to what a law's row asks behind the call. -/
import Derived.Test.YtgkakddldobpkaaDoorMgRootsProof2
import Derived.Test.YtgkakddldobpkaaDoorMgRootsProof1
import Derived.Deep.RegionHeld3
import Derived.Deep.DeepCutAuto
import Derived.IntWalk
import Derived.BigQuiet
import Derived.ProofKit
import Derived.OpenShut
import Derived.Carry
namespace Go.Proofs.YtgkakddldobpkaaDoor
open Go.RowKit Go.Mv Mvp Mvt
attribute [local irreducible] permS permP toB turnsK squeeze permN permB spongeB feed frameL framesL tagL leafL nodeL

/-- the growth that the program tells -/
def growL (ls : List (List UInt8)) (m : Nat) : List (List UInt8) := growW nodeL [] (ls.map leafL) m true
def pathL (ls : List (List UInt8)) (i : Nat) : List (List UInt8) := pathW nodeL [] (ls.map leafL) i

set_option maxHeartbeats 1000000 in
set_option maxRecDepth 1000000 in
theorem TRoot_any (a : Option Addr) (c : Nat) (ls : List (List UInt8)) (w : World) (hm : ls.length ≤ 1024) (hb : PartsAt w a ls) :
    Calls Tryd.prog 8 #[.slice a ls.length c] w fun e w' => ∃ v, e = .returned (.tuple #[v, .int .i64 0]) ∧ Own w' w.heap.size 5 1 v 32 (bs (rootL ls)) ∧ Fr Nob w w' := by
  have hmI : ¬ (1024 : Int) < (ls.length : Int) := by omega
  go_enter Tryd.func8, Tryd.ntmps8
  go_wp2_with fail
  refine (newLevels_any a c ls w (by omega) hb).mono ?_
  rintro e w1 ⟨v, K, rfl, hKl, hl, hK, hf1⟩
  go_wp2_with fail
  refine (lroot_any v _ K ls w1 hl hK hKl (by omega)).mono ?_
  rintro e w2 ⟨v2, rfl, hown, hf2⟩
  go_wp2_with fail
  go_ret2
  exact ⟨_, rfl, hown.mono hf1.size, hf1.then hf2⟩
set_option maxRecDepth 1000000 in
theorem TRoot_long (a : Option Addr) (n c : Nat) (w : World) (hm : 1024 < n) :
    Calls Tryd.prog 8 #[.slice a n c] w fun e w' => e = .returned (.tuple #[.slice none 0 0, .int .i64 1]) ∧ w = w' := by
  have hmI : (1024 : Int) < (n : Int) := by omega
  go_enter Tryd.func8, Tryd.ntmps8
  go_wp2_with fail
  go_ret2
  exact ⟨rfl, rfl⟩
set_option maxRecDepth 1000000 in
theorem TPath_long (a : Option Addr) (n c : Nat) (i : Int) (w : World) (hm : 1024 < n) :
    Calls Tryd.prog 9 #[.slice a n c, .int .i64 i] w fun e w' => e = .returned (.tuple #[.slice none 0 0, .int .i64 1]) ∧ w = w' := by
  have hmI : (1024 : Int) < (n : Int) := by omega
  go_enter Tryd.func9, Tryd.ntmps9
  go_wp2_with fail
  go_ret2
  exact ⟨rfl, rfl⟩
set_option maxRecDepth 1000000 in
theorem TPath_range (a : Option Addr) (n c : Nat) (i : Int) (w : World) (hm : n ≤ 1024) (hi : i < 0 ∨ (n : Int) ≤ i) :
    Calls Tryd.prog 9 #[.slice a n c, .int .i64 i] w fun e w' => e = .returned (.tuple #[.slice none 0 0, .int .i64 7]) ∧ w = w' := by
  have hmI : ¬ (1024 : Int) < (n : Int) := by omega
  by_cases h0 : i < 0
  · clear hi
    go_enter Tryd.func9, Tryd.ntmps9
    go_wp2_with fail
    go_ret2
    exact ⟨rfl, rfl⟩
  · have h1 : (n : Int) ≤ i := by omega
    clear hi
    go_enter Tryd.func9, Tryd.ntmps9
    go_wp2_with fail
    go_ret2
    exact ⟨rfl, rfl⟩
set_option maxHeartbeats 1000000 in
set_option maxRecDepth 1000000 in
theorem TPath_any (a : Option Addr) (c : Nat) (ls : List (List UInt8)) (i : Nat) (w : World) (hm : ls.length ≤ 1024) (hi : i < ls.length) (hb : PartsAt w a ls) :
    Calls Tryd.prog 9 #[.slice a ls.length c, .int .i64 (i : Int)] w fun e w' => ∃ v, e = .returned (.tuple #[v, .int .i64 0]) ∧ SOwn w' w.heap.size v (pathL ls i) ∧ Fr Nob w w' := by
  have hmI : ¬ (1024 : Int) < (ls.length : Int) := by omega
  have h0 : ¬ (i : Int) < 0 := by omega
  have h1 : ¬ (ls.length : Int) ≤ (i : Int) := by omega
  go_enter Tryd.func9, Tryd.ntmps9
  go_wp2_with fail
  refine (newLevels_any a c ls w (by omega) hb).mono ?_
  rintro e w1 ⟨v, K, rfl, hKl, hl, hK, hf1⟩
  have HE := Lib.hid (path_all nodeL [] (ls.map leafL) i K (by rw [List.length_map]; exact hi) hK)
  go_wp2_with fail
  refine (ups_any v _ K ls 0 i w1 hl (by omega) hKl (by omega) (by omega)).mono ?_
  rintro e w2 ⟨q, rfl, hS, hf2⟩
  have hS2 : SOwn w2 w.heap.size q (pathL ls i) := by
    obtain ⟨vs, h1, h2, h3⟩ := hS
    have e : upsL ls 0 i (K - 0) = pathL ls i := HE.out
    rw [e] at h1 h2
    exact ⟨vs, h1.mono hf1.size, h2.mono hf1.size, h3⟩
  clear hS
  go_wp2_with fail
  go_ret2
  exact ⟨_, rfl, hS2, hf1.then hf2⟩

set_option maxRecDepth 1000000 in
theorem tz_any (x : Nat) (hx : x < 18446744073709551616) (w : World) (hT : TabAt 0 Lib.deBruijn64tab w) :
    Calls Tryd.prog 24 #[.int .u64 (x : Int)] w fun e w' => e = .returned (.int .i64 (Lib.ctz 64 x)) ∧ w' = w := by
  have HC := Lib.hid (tz64_any x hx w hT)
  clear hT
  go_enter Tryd.func24, Tryd.ntmps24
  go_wp2_with fail
  refine HC.out.mono ?_
  rintro e w' ⟨rfl, rfl⟩
  go_wp2_with fail
  go_ret
  exact ⟨rfl, rfl⟩
theorem TabAt.still2 {w w' : World} {g : Nat} {l : List Nat} (h : TabAt g l w) (hf : Fr Nob w w') : TabAt g l w' := fun j hj => hf.cell id (h j hj)
theorem ctz_spec (m : Nat) (h1 : 1 ≤ m) (h2 : m < 18446744073709551616) : ∃ q, m = (2 * q + 1) * 2 ^ Lib.ctz 64 m ∧ Lib.ctz 64 m < 64 := by
  obtain ⟨q, h3, h4⟩ := Lib.ctzFrom_spec 64 m (by omega) h2
  have e : Lib.ctz 64 m = Lib.ctzFrom 64 m := by unfold Lib.ctz; rw [if_neg (by omega)]
  rw [e]
  exact ⟨q, by rw [Nat.mul_comm]; exact h3, h4⟩

set_option maxRecDepth 1000000 in
theorem TGrowth_long (a : Option Addr) (n c : Nat) (m : Int) (w : World) (hm : 1024 < n) :
    Calls Tryd.prog 10 #[.slice a n c, .int .i64 m] w fun e w' => e = .returned (.tuple #[.slice none 0 0, .int .i64 1]) ∧ w = w' := by
  have hmI : (1024 : Int) < (n : Int) := by omega
  go_enter Tryd.func10, Tryd.ntmps10
  go_wp2_with fail
  go_ret2
  exact ⟨rfl, rfl⟩
set_option maxRecDepth 1000000 in
theorem TGrowth_range (a : Option Addr) (n c : Nat) (m : Int) (w : World) (hm : n ≤ 1024) (hi : m < 1 ∨ (n : Int) < m) :
    Calls Tryd.prog 10 #[.slice a n c, .int .i64 m] w fun e w' => e = .returned (.tuple #[.slice none 0 0, .int .i64 7]) ∧ w = w' := by
  have hmI : ¬ (1024 : Int) < (n : Int) := by omega
  by_cases h0 : m < 1
  · clear hi
    go_enter Tryd.func10, Tryd.ntmps10
    go_wp2_with fail
    go_ret2
    exact ⟨rfl, rfl⟩
  · have h1 : (n : Int) < m := by omega
    clear hi
    go_enter Tryd.func10, Tryd.ntmps10
    go_wp2_with fail
    go_ret2
    exact ⟨rfl, rfl⟩
set_option maxRecDepth 1000000 in
theorem TGrowth_all (a : Option Addr) (n c : Nat) (w : World) (hm : n ≤ 1024) (h1 : 1 ≤ n) :
    Calls Tryd.prog 10 #[.slice a n c, .int .i64 (n : Int)] w fun e w' => e = .returned (.tuple #[.slice none 0 0, .int .i64 0]) ∧ w = w' := by
  have hmI : ¬ (1024 : Int) < (n : Int) := by omega
  have h1I : ¬ (n : Int) < 1 := by omega
  go_enter Tryd.func10, Tryd.ntmps10
  go_wp2_with fail
  go_ret2
  exact ⟨rfl, rfl⟩
theorem Sep.cons {w w' : World} {base : Nat} {vs : List Value} {ls : List (List UInt8)} (h : Sep vs) (hp : POwn w base vs ls) {v : Value} {n : Nat} {L : List Value} {T : TypeId} (hv : Own w' w.heap.size T 1 v n L) : Sep (v :: vs) := by
  unfold Sep at *
  rw [List.pairwise_cons]
  refine ⟨fun b hb k hk hk' => ?_, h⟩
  obtain ⟨l, _, ho⟩ := hp.mem hb
  have h1 := (ho.lt hk').2
  have h2 := (hv.lt hk).1
  omega

set_option maxHeartbeats 4000000 in
set_option maxRecDepth 1000000 in
theorem TGrowth_any (a : Option Addr) (c : Nat) (ls : List (List UInt8)) (m : Nat) (w : World) (hm : ls.length ≤ 1024) (h1 : 1 ≤ m) (hmn : m < ls.length) (hb : PartsAt w a ls) (hT : TabAt 0 Lib.deBruijn64tab w) :
    Calls Tryd.prog 10 #[.slice a ls.length c, .int .i64 (m : Int)] w fun e w' => ∃ v, e = .returned (.tuple #[v, .int .i64 0]) ∧ SOwn w' w.heap.size v (growL ls m) ∧ Fr Nob w w' := by
  have hmI : ¬ (1024 : Int) < (ls.length : Int) := by omega
  have h1I : ¬ (m : Int) < 1 := by omega
  have h2I : ¬ (ls.length : Int) < (m : Int) := by omega
  have q1 : ((m : Int) == (ls.length : Int)) = false := by simp; omega
  have q2 : (m == ls.length) = false := by simp; omega
  obtain ⟨q, hq, hz⟩ := ctz_spec m h1 (by omega)
  have hand := and_pred_i64 m h1 (by omega)
  have hap := and_pred m h1
  have HAP := Lib.hid hap; clear hap
  have HB := Lib.hid hb
  have HT := Lib.hid hT
  clear hb hT
  go_enter Tryd.func10, Tryd.ntmps10
  have HQ := Lib.hid hq; clear hq
  have HZ := Lib.hid hz; clear hz
  go_wp2_with fail
  refine (newLevels_any a c ls w (by omega) HB.out).mono ?_
  rintro e w1 ⟨v, K, rfl, hKl, hl, hK, hf1⟩
  have hmw : IntKind.u64.wrap (m : Int) = (m : Int) := by rw [IntKind.wrap_u64]; omega
  go_wp2_with fail
  refine (tz_any m (by omega) w1 (TabAt.still2 HT.out hf1)).mono ?_
  rintro e w1' ⟨rfl, rfl⟩
  have hHQ := HQ.out
  generalize Lib.ctz 64 m = s at *
  obtain ⟨x, hx⟩ : ∃ x, x = 2 * q := ⟨_, rfl⟩
  rw [← hx] at hHQ
  have hga := grow_all nodeL [] (ls.map leafL) s x m K hHQ (by omega) (by rw [List.length_map]; exact hmn) hK
  obtain ⟨hsK, hga⟩ := hga
  have hxb : x ≤ 1024 := by
    have h2 := Nat.le_mul_of_pos_right (x + 1) (Nat.two_pow_pos s)
    omega
  have hdiv : (m : Int) / 2 ^ s = ((x + 1 : Nat) : Int) := by
    have h2 : m / 2 ^ s = x + 1 := by rw [hHQ, Nat.mul_div_cancel _ (Nat.two_pow_pos s)]
    rw [← h2]; simp
  have hx0 : (m &&& (m - 1) = 0 ↔ x = 0) := by
    rw [HAP.out]
    constructor
    · rintro ⟨t, ht⟩
      by_cases h0 : x = 0
      · exact h0
      · exfalso
        rw [hHQ] at ht
        -- an odd number above 1 does not divide a power of two
        have hts : s ≤ t := by
          rcases Nat.lt_or_ge t s with h | h
          · have h3 := Nat.pow_lt_pow_right (show 1 < 2 by decide) h
            have h4 := Nat.le_mul_of_pos_left (2 ^ s) (show 0 < x + 1 by omega)
            omega
          · exact h
        obtain ⟨r, rfl⟩ : ∃ r, t = r + s := ⟨t - s, by omega⟩
        rw [Nat.pow_add] at ht
        have h5 := Nat.eq_of_mul_eq_mul_right (Nat.two_pow_pos s) ht
        cases r with
        | zero => simp at h5; omega
        | succ r => rw [Nat.pow_succ] at h5; omega
    · intro h0
      exact ⟨s, by rw [hHQ, h0]; simp⟩
  have hz64 := HZ.out
  have HGA := Lib.hid hga; clear hga
  have HX0 := Lib.hid hx0; clear hx0
  have hxlen : x < (lvN ls s).length := (lv_len nodeL [] (ls.map leafL) s x).2 (by
    rw [List.length_map]
    have h3 := Nat.two_pow_pos s
    rw [Nat.add_mul, Nat.one_mul] at hHQ
    omega)
  clear HQ HZ HAP hHQ hx q
  go_wp2_with fail
  refine (ups_any v _ K ls s x w1' hl (by omega) hKl hsK (by omega)).mono ?_
  rintro e w2 ⟨q, rfl, hS, hf2⟩
  have hlw := hl.still hf2
  have hfr2 := hf1.then hf2
  have hb1 := hf1.size
  obtain ⟨vs, hown, hpo, hsep⟩ := hS
  have hvl := hpo.len
  have hul := upsL_len ls (K - s) s x
  by_cases hz : m &&& (m - 1) = 0
  · have hand0 : bits BinOp.and IntKind.i64 (m : Int) ((m : Int) - 1) = 0 := by rw [hand, hz]; rfl
    have hx0 : x = 0 := HX0.out.1 hz
    have hg := HGA.out
    rw [if_pos hx0, List.nil_append] at hg
    have hS2 : SOwn w2 w.heap.size q (growL ls m) := by
      have e : growL ls m = upsL ls s x (K - s) := hg
      rw [e]
      exact ⟨vs, hown.mono hb1, hpo.mono hb1, hsep⟩
    clear hand hz hg hown hpo hsep hl hlw hf1 hf2
    go_wp2_with fail
    go_ret2
    exact ⟨_, rfl, hS2, hfr2⟩
  · have hpos : 0 < m &&& (m - 1) := Nat.pos_of_ne_zero hz
    have hposI : (0 : Int) < ((m &&& (m - 1) : Nat) : Int) := by omega
    have hx0 : ¬ x = 0 := fun h => hz (HX0.out.2 h)
    have hg := HGA.out
    rw [if_neg hx0] at hg
    have hg2 : growL ls m = (lvN ls s).getD x [] :: upsL ls s x (K - s) := hg
    have HG := Lib.hid hg2; clear hg hg2
    obtain ⟨g', o', cc, y, hv, hcy, hoy⟩ := LvAll.at (show LvAll w2 w.heap.size v ls K from hlw) (k := s) hsK
    subst hv
    obtain ⟨b, ob, cb, y2, rfl, hcy2, hoy2⟩ := hoy.at hxlen
    have h32 := lvN_get32 ls s x hxlen
    rw [h32] at hoy2
    have H32 := Lib.hid h32; clear h32
    generalize hyl : (lvN ls s).getD x [] = yl at *
    clear hyl
    obtain ⟨ay, cy, rfl, -, hry, -⟩ := id hoy2.form
    rw [Nat.mul_one] at hry
    obtain ⟨by_, oy, rfl, -⟩ := id (hry.at (by decide))
    have hryb : RdB w2 (some ⟨by_, oy, none⟩) 32 yl := hry
    have HC := Lib.hid (bclone_some ⟨by_, oy, none⟩ 32 cy yl w2 (by decide) hryb)
    obtain ⟨aq, cq, rfl, hcq, -⟩ := id hown.form
    have hxI : (x : Int) < ((lvN ls s).length : Int) := by omega
    generalize (lvN ls s).length = ll at *
    clear hoy hoy2 hry hryb hl hlw hz hx0 hf1
    go_wp2_with fail
    refine HC.out.mono ?_
    rintro e w3 ⟨v3, rfl, hown3, hf3⟩
    obtain ⟨a3, c3, rfl, -⟩ := id hown3.form
    have hownq3 := hown.still hf3
    have hfr3 := hfr2.then hf3
    have hpo3 := hpo.still hf3
    have hsep3 : Sep (.slice a3 32 c3 :: vs) := hsep.cons hpo hown3
    have hown3' := hown3.mono (Nat.le_trans hb1 hf2.size)
    clear hcy hcy2 hown hpo hsep hown3
    go_wp2_with (with_reducible refine wl_stop (o := ⟨some 54, _, _, _, _, _⟩) ?_)
    unfold Stop
    refine wl_slit rfl rfl Tryd.underlying24 info_sl [.slice a3 32 c3] rfl (by simp; rfl) rfl rfl ?_
    intro w4 hh4 hf4 hz4
    clear hz4
    have hownq4 := hownq3.still hf4
    have hfr4 := hfr3.then hf4
    have hpo4 := hpo3.still hf4
    have hown4 := hown3'.still hf4
    have hw34 := hf4.size
    have hl3 := hfr3.size
    have hdst := Own.made hh4 w3.heap.size (Nat.le_refl _) 1 1 1 (Nat.le_refl _) (by decide) (by simp)
    generalize w3.heap.size = g4 at *
    obtain ⟨aq', cq', hvq, -, hrq, -⟩ := hownq4.form
    simp only [Value.slice.injEq] at hvq
    obtain ⟨rfl, -, rfl⟩ := hvq
    clear hown3' hownq3 hf4 hpo3 hh4
    go_wp2_with (with_reducible refine wl_stop (o := ⟨some 56, _, _, _, _, _⟩) ?_)
    unfold Stop
    refine wl_append rfl rfl Tryd.underlying24 info_sl rfl (by decide) hdst rfl rfl hrq (fun u hu => ?_) (by unfold maxLen; omega) (by omega) (by omega) ?_
    · obtain ⟨l, _, ho⟩ := hpo4.mem hu
      obtain ⟨a9, c9, rfl, -⟩ := ho.form
      rfl
    intro v5 w5 hown5 hf5 hb5
    clear hb5
    have hpo5 := hpo4.app hdst (by decide) hf5
    have hown5' := hown4.keep hf5 (fun k hk hk' => hown4.ne2 hdst (by decide) k hk hk')
    have hfr5 : Fr Nob w w5 := hdst.fr hfr4 (by omega) hf5
    have hS5 : SOwn w5 w.heap.size v5 (growL ls m) := by
      rw [HG.out]
      refine ⟨.slice a3 32 c3 :: vs, ?_, ⟨by rw [H32.out]; exact hown5', hpo5.mono hb1⟩, hsep3⟩
      have e : (yl :: upsL ls s x (K - s)).length = 1 + (upsL ls s x (K - s)).length := by rw [List.length_cons]; omega
      rw [e]
      have := hown5.mono (base' := w.heap.size) (by omega)
      simpa using this
    clear hown5 hpo5 hown5' hf5 hdst hown4 hpo4 hownq4 hrq
    go_wp2_with fail
    go_ret2
    exact ⟨_, rfl, hS5, hfr5⟩
end Go.Proofs.YtgkakddldobpkaaDoor

/- The reference's leads, Lies. -/
namespace Go.Proofs.YtgkakddldobpkaaDoor
open Go.RowKit Go.Mv Mvp Mvt
attribute [local irreducible] permS permP toB turnsK squeeze permN permB spongeB feed frameL framesL tagL leafL nodeL

theorem size_str : (Tryd.prog.info? 9).map (·.size) = some 1 := by kernel_rfl
/-- a pair of results -/
def Two (p : List UInt8 × Bool) (w : World) (e : Ending) (w' : World) : Prop := e = .returned (.tuple #[.string (mkS p.1), .bool p.2]) ∧ Fr Nob w w'
theorem ss_append (a b : List (List UInt8)) : ss (a ++ b) = ss a ++ ss b := by simp [ss]
theorem rd_front {w : World} {a : Option Addr} {n m : Nat} {L : List Value} (h : Rd w a n L) (hm : m ≤ n) : Rd w a m (L.take m) := by
  have hl := h.len
  refine ⟨by rw [List.length_take]; omega, ?_⟩
  rcases Nat.eq_zero_or_pos m with h0 | h0
  · exact .inl h0
  · obtain ⟨b, o, rfl, hc⟩ := h.at (by omega)
    refine .inr ⟨b, o, rfl, fun i v hv => hc i v ?_⟩
    rw [List.getElem?_take] at hv
    split at hv
    · exact hv
    · cases hv

theorem leadsR_len (s : List UInt8) (hs : s.length ≤ 32) : ∀ (r : List (List UInt8)) (n i : Nat), (Mvt.leadsR nodeL [] s r n i).1.length ≤ 32
  | [], n, i => by simp only [Mvt.leadsR]; split <;> simp [hs]
  | e :: r, n, i => by
    simp only [Mvt.leadsR]
    split
    · exact hs
    · split <;> simp [nodeL_len]

end Go.Proofs.YtgkakddldobpkaaDoor

/- The reference's Root. -/
namespace Go.Proofs.YtgkakddldobpkaaDoor
open Go.RowKit Go.Mv Mvp Mvt
attribute [local irreducible] permS permP toB turnsK squeeze permN permB spongeB feed frameL framesL tagL leafL nodeL

theorem rootL_one (x : List UInt8) : rootL [x] = leafL x := by
  unfold rootL
  rw [if_neg (by simp), rootW, dif_pos (by simp)]
  rfl
theorem rootL_none : rootL [] = tagL kNone [] := by unfold rootL; rw [if_pos (by rfl)]
theorem rootL_split (ls : List (List UInt8)) (h : 2 ≤ ls.length) : rootL ls = nodeL (rootL (ls.take (half ls.length))) (rootL (ls.drop (half ls.length))) := by
  have h1 := half_le ls.length h
  have h2 := half_pos ls.length
  unfold rootL
  rw [if_neg (by omega), if_neg (by rw [List.length_take]; omega), if_neg (by rw [List.length_drop]; omega), rootW.eq_1 nodeL [] (ls.map leafL), dif_neg (by rw [List.length_map]; omega), List.length_map, ← List.map_take, ← List.map_drop]
theorem rd_take {w : World} {a : Option Addr} {n : Nat} {ls : List (List UInt8)} (h : Rd w a n (ss ls)) (k c : Nat) (hk : k ≤ n) (hc : n ≤ c) : Rd w a k (ss (ls.take k)) := by
  have hl := h.len
  have := cutAt_rd h 0 k c (by omega) (by omega) hk
  rw [cutAt_0, List.drop_zero, Nat.sub_zero] at this
  have e : ss (ls.take k) = (ss ls).take k := by simp [ss, List.map_take]
  rw [e]; exact this
theorem rd_drop {w : World} {a : Option Addr} {n : Nat} {ls : List (List UInt8)} (h : Rd w a n (ss ls)) (k c : Nat) (hk : k ≤ n) (hc : n ≤ c) : Rd w (cutAt a k c) (n - k) (ss (ls.drop k)) := by
  have hl := h.len
  have := cutAt_rd h k n c hk hc (Nat.le_refl _)
  rw [List.take_of_length_le (by rw [List.length_drop, hl]; exact Nat.le_refl _)] at this
  have e : ss (ls.drop k) = (ss ls).drop k := by simp [ss, List.map_drop]
  rw [e]; exact this
/-- one string -/
def Str (l : List UInt8) (w : World) (e : Ending) (w' : World) : Prop := e = .returned (.string (mkS l)) ∧ Fr Nob w w'

set_option maxHeartbeats 4000000 in
set_option maxRecDepth 1000000 in
theorem RootR_any : ∀ (N : Nat) (ls : List (List UInt8)) (n : Nat) (a : Option Addr) (c : Nat) (w : World), n ≤ N → ls.length = n → n ≤ 1100 → n ≤ c → (∀ x ∈ ls, x.length ≤ 90000) → Rd w a n (ss ls) →
    Calls Tryd.prog 12 #[.slice a n c] w (Str (rootL ls) w) := by
  intro N
  induction N with
  | zero =>
    intro ls n a c w hN hl hm hc hx hb
    obtain rfl : n = 0 := by omega
    obtain rfl : ls = [] := List.eq_nil_of_length_eq_zero hl
    have hT := Lib.hid (tagR_any (mkS kNone) none 0 [] w (by rw [mkS_size]; decide) (by simp) (Rd.nil _ _))
    rw [rootL_none]
    go_enter Tryd.func12, Tryd.ntmps12
    rw [kNone_eq]
    go_wp2_with fail
    refine hT.out.mono ?_
    rintro e w' ⟨rfl, hf⟩
    rw [mkS_toList]
    go_wp2_with fail
    go_ret
    exact ⟨rfl, hf⟩
  | succ N ih =>
    intro ls n a c w hN hl hm hc hx hb
    by_cases h0 : n ≤ N
    · exact ih ls n a c w h0 hl hm hc hx hb
    obtain rfl : n = N + 1 := by omega
    by_cases h1 : N = 0
    · subst h1
      obtain ⟨x, rfl⟩ : ∃ x, ls = [x] := by
        match ls, hl with
        | [x], _ => exact ⟨x, rfl⟩
      obtain ⟨b, o, rfl, hat⟩ := hb.at (by decide)
      have hc0 : w.cell? ⟨b, o, none⟩ = some (.string (mkS x)) := hat 0 _ rfl
      have hx1 := hx x (by simp)
      have HC := Lib.hid (leafR_any x w hx1)
      clear ih hat hb hx
      rw [rootL_one]
      go_enter Tryd.func12, Tryd.ntmps12
      go_wp2_with fail
      refine HC.out.mono ?_
      rintro e w' ⟨rfl, hf⟩
      go_wp2_with fail
      go_ret
      exact ⟨rfl, hf⟩
    · have hsp := rootL_split ls (by omega)
      rw [hl] at hsp
      have hk1 := half_le (N + 1) (by omega)
      have hk2 := half_pos (N + 1)
      have HH := Lib.hid (halfR_any (N + 1) w (by omega) (by omega))
      generalize half (N + 1) = k at *
      have q0 : (((N + 1 : Nat) : Int) == 0) = false := by simp; omega
      have q1 : (((N + 1 : Nat) : Int) == 1) = false := by simp; omega
      have q2 : ((N + 1 : Nat) == 0) = false := by simp
      have q3 : ((N + 1 : Nat) == 1) = false := by simp; omega
      have e1 := fun wx => run_slice_hi (P := Tryd.prog) wx Tryd.underlying22 size_str a (N + 1) c .i64 k (by omega)
      have e2 := fun wx => run_slice_lo (P := Tryd.prog) wx Tryd.underlying22 size_str a (N + 1) c .i64 k (by omega)
      have hA : ∀ w', Fr Nob w w' → Calls Tryd.prog 12 #[.slice a k c] w' (Str (rootL (ls.take k)) w') := fun w' hf => ih (ls.take k) k a c w' (by omega) (by rw [List.length_take]; omega) (by omega) (by omega) (fun x hm' => hx x (List.mem_of_mem_take hm')) ((rd_take hb k c (by omega) hc).still hf)
      have hB : ∀ w', Fr Nob w w' → Calls Tryd.prog 12 #[.slice (cutAt a k c) (N + 1 - k) (c - k)] w' (Str (rootL (ls.drop k)) w') := fun w' hf => ih (ls.drop k) (N + 1 - k) (cutAt a k c) (c - k) w' (by omega) (by rw [List.length_drop]; omega) (by omega) (by omega) (fun x hm' => hx x (List.mem_of_mem_drop hm')) ((rd_drop hb k c (by omega) hc).still hf)
      have hla := rootL_len (ls.take k)
      have hlb := rootL_len (ls.drop k)
      have hN : ∀ w', Calls Tryd.prog 29 #[.string (mkS (rootL (ls.take k))), .string (mkS (rootL (ls.drop k)))] w' (Str (nodeL (rootL (ls.take k)) (rootL (ls.drop k))) w') := fun w' => nodeR_any _ _ w' (by rw [hla, hlb]; decide)
      rw [← hsp] at hN
      generalize rootL (ls.take k) = ra at *
      generalize rootL (ls.drop k) = rb at *
      generalize rootL ls = r at *
      have HA := Lib.hid hA
      have HB := Lib.hid hB
      have HN := Lib.hid hN
      clear ih hb hx hA hB hN hsp hla hlb hl h0 h1
      go_enter Tryd.func12, Tryd.ntmps12
      go_wp2_with fail
      refine HH.out.mono ?_
      rintro e w1 ⟨rfl, rfl⟩
      go_wp2_with fail
      have hdr := (Fr.refl Nob w).drew
      go_region_held3 (fun w' => Fr Nob w w')
        (first | (exact hdr) | (exact Fr.then (by assumption) hfn))
        (first | (go_at_call_of 12 (Value.slice a k c); refine (HA.out _ (by assumption)).mono ?_; rintro e w' ⟨rfl, hfn⟩)
               | (go_at_call_of 12 (Value.slice (cutAt a k c) (N + 1 - k) (c - k)); refine (HB.out _ (by assumption)).mono ?_; rintro e w' ⟨rfl, hfn⟩)
               | (go_at_call_of 29 (Value.string (mkS ra)); refine (HN.out _).mono ?_; rintro e w' ⟨rfl, hfn⟩))
      all_goals
        go_wp2_with fail
        go_ret
        exact ⟨rfl, by assumption⟩
end Go.Proofs.YtgkakddldobpkaaDoor

/- The reference's Path, Growth. -/
namespace Mvt
variable {α : Type} (nd : α → α → α) (d : α)
theorem pathW_len : ∀ (N : Nat) (l : List α) (i : Nat), l.length ≤ N → (pathW nd d l i).length ≤ l.length := by
  intro N
  induction N with
  | zero => intro l i h; rw [pathW, dif_pos (by omega)]; simp
  | succ N ih =>
    intro l i h
    rw [pathW]
    split
    · simp
    · rename_i h1
      have h2 := half_le l.length (by omega)
      have h3 := half_pos l.length
      split
      · have := ih (l.take (half l.length)) i (by rw [List.length_take]; omega)
        rw [List.length_append, List.length_singleton]
        rw [List.length_take] at this; omega
      · have := ih (l.drop (half l.length)) (i - half l.length) (by rw [List.length_drop]; omega)
        rw [List.length_append, List.length_singleton]
        rw [List.length_drop] at this; omega
theorem growW_len : ∀ (N : Nat) (l : List α) (m : Nat) (wt : Bool), l.length ≤ N → (growW nd d l m wt).length ≤ l.length + 1 := by
  intro N
  induction N with
  | zero =>
    intro l m wt h
    rw [growW]
    split
    · split <;> simp
    · rw [dif_pos (by omega)]; simp
  | succ N ih =>
    intro l m wt h
    rw [growW]
    split
    · split <;> simp
    · split
      · simp
      · rename_i h1
        have h2 := half_le l.length (by omega)
        have h3 := half_pos l.length
        split
        · have := ih (l.take (half l.length)) m wt (by rw [List.length_take]; omega)
          rw [List.length_append, List.length_singleton]
          rw [List.length_take] at this; omega
        · have := ih (l.drop (half l.length)) (m - half l.length) false (by rw [List.length_drop]; omega)
          rw [List.length_append, List.length_singleton]
          rw [List.length_drop] at this; omega
end Mvt
namespace Go.Proofs.YtgkakddldobpkaaDoor
open Go.RowKit Go.Mv Mvp Mvt
attribute [local irreducible] permS permP toB turnsK squeeze permN permB spongeB feed frameL framesL tagL leafL nodeL

def growR (ls : List (List UInt8)) (m : Nat) (wt : Bool) : List (List UInt8) := growW nodeL [] (ls.map leafL) m wt
theorem pathL_one (ls : List (List UInt8)) (i : Nat) (h : ls.length ≤ 1) : pathL ls i = [] := by
  unfold pathL; rw [pathW, dif_pos (by rw [List.length_map]; exact h)]
theorem rootW_L (ls : List (List UInt8)) (h : ls.length ≠ 0) : rootW nodeL [] (ls.map leafL) = rootL ls := by unfold rootL; rw [if_neg h]
theorem pathL_lt (ls : List (List UInt8)) (i : Nat) (h : 2 ≤ ls.length) (hi : i < half ls.length) : pathL ls i = pathL (ls.take (half ls.length)) i ++ [rootL (ls.drop (half ls.length))] := by
  have h1 := half_le ls.length h
  unfold pathL
  rw [pathW.eq_1 nodeL [] (ls.map leafL), dif_neg (by rw [List.length_map]; omega), List.length_map, if_pos hi, ← List.map_take, ← List.map_drop, rootW_L _ (by rw [List.length_drop]; omega)]
theorem pathL_ge (ls : List (List UInt8)) (i : Nat) (h : 2 ≤ ls.length) (hi : ¬ i < half ls.length) : pathL ls i = pathL (ls.drop (half ls.length)) (i - half ls.length) ++ [rootL (ls.take (half ls.length))] := by
  have h1 := half_pos ls.length
  unfold pathL
  rw [pathW.eq_1 nodeL [] (ls.map leafL), dif_neg (by rw [List.length_map]; omega), List.length_map, if_neg hi, ← List.map_take, ← List.map_drop, rootW_L _ (by rw [List.length_take]; omega)]
theorem growR_eq (ls : List (List UInt8)) (wt : Bool) (h : ls.length ≠ 0) : growR ls ls.length wt = if wt then [] else [rootL ls] := by
  unfold growR
  rw [growW, if_pos (by rw [List.length_map]), rootW_L _ h]
theorem growR_le (ls : List (List UInt8)) (m : Nat) (wt : Bool) (hne : m ≠ ls.length) (h : 2 ≤ ls.length) (hi : m ≤ half ls.length) : growR ls m wt = growR (ls.take (half ls.length)) m wt ++ [rootL (ls.drop (half ls.length))] := by
  have h1 := half_le ls.length h
  unfold growR
  rw [growW.eq_1 nodeL [] (ls.map leafL), if_neg (by rw [List.length_map]; exact hne), dif_neg (by rw [List.length_map]; omega), List.length_map, if_pos hi, ← List.map_take, ← List.map_drop, rootW_L _ (by rw [List.length_drop]; omega)]
theorem growR_gt (ls : List (List UInt8)) (m : Nat) (wt : Bool) (hne : m ≠ ls.length) (h : 2 ≤ ls.length) (hi : ¬ m ≤ half ls.length) : growR ls m wt = growR (ls.drop (half ls.length)) (m - half ls.length) false ++ [rootL (ls.take (half ls.length))] := by
  have h1 := half_pos ls.length
  unfold growR
  rw [growW.eq_1 nodeL [] (ls.map leafL), if_neg (by rw [List.length_map]; exact hne), dif_neg (by rw [List.length_map]; omega), List.length_map, if_neg hi, ← List.map_take, ← List.map_drop, rootW_L _ (by rw [List.length_take]; omega)]
theorem pathL_len (ls : List (List UInt8)) (i : Nat) : (pathL ls i).length ≤ ls.length := by
  have := pathW_len nodeL [] _ (ls.map leafL) i (Nat.le_refl _)
  rwa [List.length_map] at this
theorem growR_len (ls : List (List UInt8)) (m : Nat) (wt : Bool) : (growR ls m wt).length ≤ ls.length + 1 := by
  have := growW_len nodeL [] _ (ls.map leafL) m wt (Nat.le_refl _)
  rwa [List.length_map] at this
theorem ss_append2 (a b : List (List UInt8)) : ss (a ++ b) = ss a ++ ss b := by simp [ss]
/-- a slice of strings of the call's own -/
def Strs (l : List (List UInt8)) (w : World) (e : Ending) (w' : World) : Prop := ∃ v, e = .returned v ∧ Own w' w.heap.size 9 1 v l.length (ss l) ∧ Fr Nob w w'

set_option maxHeartbeats 4000000 in
set_option maxRecDepth 1000000 in
theorem PathR_any : ∀ (N : Nat) (ls : List (List UInt8)) (n i : Nat) (a : Option Addr) (c : Nat) (w : World), n ≤ N → ls.length = n → 1 ≤ n → i < n → n ≤ 1100 → n ≤ c → (∀ x ∈ ls, x.length ≤ 90000) → Rd w a n (ss ls) →
    Calls Tryd.prog 13 #[.slice a n c, .int .i64 (i : Int)] w (Strs (pathL ls i) w) := by
  intro N
  induction N with
  | zero => intro ls n i a c w hN hl h1; omega
  | succ N ih =>
    intro ls n i a c w hN hl h1n hi hm hc hx hb
    by_cases h0 : n ≤ N
    · exact ih ls n i a c w h0 hl h1n hi hm hc hx hb
    obtain rfl : n = N + 1 := by omega
    by_cases h1 : N = 0
    · subst h1
      rw [pathL_one ls i (by omega)]
      clear ih hb hx
      go_enter Tryd.func13, Tryd.ntmps13
      go_wp2_with fail
      go_ret
      exact ⟨_, rfl, Own.nil _ _ _ _, Fr.refl _ _⟩
    · have hlt0 := pathL_lt ls i (by omega)
      have hge0 := pathL_ge ls i (by omega)
      rw [hl] at hlt0 hge0
      have hk1 := half_le (N + 1) (by omega)
      have hk2 := half_pos (N + 1)
      have HH := Lib.hid (halfR_any (N + 1) w (by omega) (by omega))
      generalize half (N + 1) = k at *
      have q1 : (((N + 1 : Nat) : Int) == 1) = false := by simp; omega
      have q3 : ((N + 1 : Nat) == 1) = false := by simp; omega
      have e1 := fun wx => run_slice_hi (P := Tryd.prog) wx Tryd.underlying22 size_str a (N + 1) c .i64 k (by omega)
      have e2 := fun wx => run_slice_lo (P := Tryd.prog) wx Tryd.underlying22 size_str a (N + 1) c .i64 k (by omega)
      have htl : (ls.take k).length = k := by rw [List.length_take]; omega
      have hdl : (ls.drop k).length = N + 1 - k := by rw [List.length_drop]; omega
      have hA : ∀ w', Fr Nob w w' → Calls Tryd.prog 12 #[.slice a k c] w' (Str (rootL (ls.take k)) w') := fun w' hf => RootR_any k (ls.take k) k a c w' (Nat.le_refl _) htl (by omega) (by omega) (fun x hm' => hx x (List.mem_of_mem_take hm')) ((rd_take hb k c (by omega) hc).still hf)
      have hB : ∀ w', Fr Nob w w' → Calls Tryd.prog 12 #[.slice (cutAt a k c) (N + 1 - k) (c - k)] w' (Str (rootL (ls.drop k)) w') := fun w' hf => RootR_any (N + 1 - k) (ls.drop k) (N + 1 - k) (cutAt a k c) (c - k) w' (Nat.le_refl _) hdl (by omega) (by omega) (fun x hm' => hx x (List.mem_of_mem_drop hm')) ((rd_drop hb k c (by omega) hc).still hf)
      have hPA : i < k → ∀ w', Fr Nob w w' → Calls Tryd.prog 13 #[.slice a k c, .int .i64 (i : Int)] w' (Strs (pathL (ls.take k) i) w') := fun hik w' hf => ih (ls.take k) k i a c w' (by omega) htl (by omega) hik (by omega) (by omega) (fun x hm' => hx x (List.mem_of_mem_take hm')) ((rd_take hb k c (by omega) hc).still hf)
      have hPB : ¬ i < k → ∀ w', Fr Nob w w' → Calls Tryd.prog 13 #[.slice (cutAt a k c) (N + 1 - k) (c - k), .int .i64 ((i - k : Nat) : Int)] w' (Strs (pathL (ls.drop k) (i - k)) w') := fun hik w' hf => ih (ls.drop k) (N + 1 - k) (i - k) (cutAt a k c) (c - k) w' (by omega) hdl (by omega) (by omega) (by omega) (by omega) (fun x hm' => hx x (List.mem_of_mem_drop hm')) ((rd_drop hb k c (by omega) hc).still hf)
      have hlA := pathL_len (ls.take k) i
      have hlB := pathL_len (ls.drop k) (i - k)
      rw [htl] at hlA
      rw [hdl] at hlB
      generalize rootL (ls.take k) = ra at *
      generalize rootL (ls.drop k) = rb at *
      generalize pathL (ls.take k) i = pa at *
      generalize pathL (ls.drop k) (i - k) = pb at *
      generalize pathL ls i = pp at *
      have HA := Lib.hid hA
      have HB := Lib.hid hB
      have HLT := Lib.hid hlt0
      have HGE := Lib.hid hge0
      have HPA := Lib.hid hPA
      have HPB := Lib.hid hPB
      clear ih hb hx hA hB hPA hPB hl h0 h1 hlt0 hge0 htl hdl
      go_enter Tryd.func13, Tryd.ntmps13
      go_wp2_with fail
      refine HH.out.mono ?_
      rintro e w1 ⟨rfl, rfl⟩
      have hdr := (Fr.refl Nob w).drew
      have hsz : w.heap.size ≤ w.heap.size := Nat.le_refl _
      by_cases hik : i < k
      · have hikI : (i : Int) < (k : Int) := by omega
        have hP := HPA.out hik
        have HP := Lib.hid hP; clear hP HPA HPB HGE
        have hpp := HLT.out hik
        subst hpp
        clear HLT
        go_wp2_with fail
        go_region_held3 (fun w' => Fr Nob w w')
          (first | (exact hdr) | (exact hfz) | (exact Fr.then (by assumption) hfr9) | (exact Fr.then (by assumption) hfp9) | (exact Fr.alloc (by assumption) _))
          (first | (go_at_call_of 13 (Value.slice a k c); refine (HP.out _ (by assumption)).mono ?_; rintro e wp ⟨vp, rfl, hownp, hfp9⟩)
                 | (go_at_call_of 12 (Value.slice (cutAt a k c) (N + 1 - k) (c - k)); refine (HB.out _ (by assumption)).mono ?_; rintro e wr9 ⟨rfl, hfr9⟩)
                 | (refine step_append rfl rfl Tryd.underlying22 info_str rfl (by decide) ((hownp.still hfr9).still ((Fr.refl Nob _).alloc _)) rfl rfl (Rd.whole (Has.new _ _ _)) (fun u hu => by simp only [List.mem_singleton] at hu; subst hu; rfl) (by unfold maxLen; omega) (by omega) (Fr.size (S := Nob) (w := w) (by assumption)) ?_; intro v9 w9 hown9 hf9; have hfz := ((hownp.still hfr9).still ((Fr.refl Nob _).alloc _)).fr (S := Nob) (w0 := w) (by assumption) (Nat.le_refl _) hf9))
        all_goals
          go_wp2_with fail
          go_ret
          refine ⟨_, rfl, ?_, by assumption⟩
          rw [ss_append2, List.length_append]
          exact hown9
      · have hikI : ¬ (i : Int) < (k : Int) := by omega
        have hP := HPB.out hik
        have e4 : IntKind.i64.wrap ((i : Int) - (k : Int)) = ((i - k : Nat) : Int) := by rw [IntWalk.i64_in _ (by omega)]; omega
        generalize i - k = d at *
        have HP := Lib.hid hP; clear hP HPA HPB HLT
        have hpp := HGE.out hik
        subst hpp
        clear HGE
        go_wp2_with fail
        go_region_held3 (fun w' => Fr Nob w w')
          (first | (exact hdr) | (exact hfz) | (exact Fr.then (by assumption) hfr9) | (exact Fr.then (by assumption) hfp9) | (exact Fr.alloc (by assumption) _))
          (first | (go_at_call_of 13 (Value.slice (cutAt a k c) (N + 1 - k) (c - k)); refine (HP.out _ (by assumption)).mono ?_; rintro e wp ⟨vp, rfl, hownp, hfp9⟩)
                 | (go_at_call_of 12 (Value.slice a k c); refine (HA.out _ (by assumption)).mono ?_; rintro e wr9 ⟨rfl, hfr9⟩)
                 | (refine step_append rfl rfl Tryd.underlying22 info_str rfl (by decide) ((hownp.still hfr9).still ((Fr.refl Nob _).alloc _)) rfl rfl (Rd.whole (Has.new _ _ _)) (fun u hu => by simp only [List.mem_singleton] at hu; subst hu; rfl) (by unfold maxLen; omega) (by omega) (Fr.size (S := Nob) (w := w) (by assumption)) ?_; intro v9 w9 hown9 hf9; have hfz := ((hownp.still hfr9).still ((Fr.refl Nob _).alloc _)).fr (S := Nob) (w0 := w) (by assumption) (Nat.le_refl _) hf9))
        all_goals
          go_wp2_with fail
          go_ret
          refine ⟨_, rfl, ?_, by assumption⟩
          rw [ss_append2, List.length_append]
          exact hown9
end Go.Proofs.YtgkakddldobpkaaDoor

/- The reference's grows, Grown. -/
namespace Go.Proofs.YtgkakddldobpkaaDoor
open Go.RowKit Go.Mv Mvp Mvt
attribute [local irreducible] permS permP toB turnsK squeeze permN permB spongeB feed frameL framesL tagL leafL nodeL

/-- three results -/
def Three (p : (List UInt8 × List UInt8) × Bool) (w : World) (e : Ending) (w' : World) : Prop := e = .returned (.tuple #[.string (mkS p.1.1), .string (mkS p.1.2), .bool p.2]) ∧ Fr Nob w w'

theorem growsR_len (old : List UInt8) (ho : old.length ≤ 70000) : ∀ (r : List (List UInt8)) (m n : Nat) (wt : Bool), (∀ x ∈ r, x.length = 32) → (growsR nodeL [] old r m n wt).1.1.length ≤ 70000 ∧ (growsR nodeL [] old r m n wt).1.2.length ≤ 70000
  | [], m, n, wt, _ => by simp only [growsR]; split <;> (try split) <;> simp [ho]
  | x :: r, m, n, wt, hx => by
    have h1 := hx x (by simp)
    have hI := fun m n wt => growsR_len old ho r m n wt (fun y hy => hx y (by simp [hy]))
    simp only [growsR]
    split
    · split
      · exact ⟨ho, ho⟩
      · split
        · simp [h1]
        · simp
    · split
      · exact ⟨(hI _ _ _).1, by simp [nodeL_len]⟩
      · simp [nodeL_len]

/-- what the reference answers -/
def grownRL (p : (List UInt8 × List UInt8) × Bool) (old root : List UInt8) : Bool := p.2 && (decide (p.1.1 = old) && decide (p.1.2 = root))

end Go.Proofs.YtgkakddldobpkaaDoor

/- The law TreeGrew. -/
namespace Go.Proofs.YtgkakddldobpkaaDoor
open Go.RowKit Go.Mv Mvp Mvt
attribute [local irreducible] permS permP toB turnsK squeeze permN permB spongeB feed frameL framesL tagL leafL nodeL

theorem grownRL_opt (p : (List UInt8 × List UInt8) × Bool) (old root : List UInt8) : grownRL p old root = match opt p with | some (x, y) => decide (x = old) && decide (y = root) | none => false := by
  obtain ⟨⟨x, y⟩, b⟩ := p
  cases b <;> simp [grownRL, opt]
theorem grown_law (old root : List UInt8) (m n : Nat) (ls : List (List UInt8)) (hm : 1 ≤ m) (hmn : m < n) : grownRL (growsR nodeL [] old ls.reverse m n true) old root = grownL old root m n (glist old m ls) := by
  rw [grownRL_opt, grownL]
  by_cases hz : m &&& (m - 1) = 0
  · obtain ⟨s, rfl⟩ := (and_pred m hm).1 hz
    rw [grows_with nodeL [] old s ls.reverse n (by omega), glist, if_pos hz]
    have := grows_climb nodeL [] old (ls.reverse ++ [old]) (2 ^ s) n hm (by omega) (.inl hmn)
    rw [List.reverse_append, List.reverse_reverse] at this
    rw [← this]; rfl
  · have hne : ∀ s, m ≠ 2 ^ s := fun s h => hz ((and_pred m hm).2 ⟨s, h⟩)
    rw [grows_with2 nodeL [] old m hne ls.reverse n hmn, glist, if_neg hz]
    have := grows_climb nodeL [] old ls.reverse m n hm (by omega) (.inl hmn)
    rw [List.reverse_reverse] at this
    rw [← this]; rfl
theorem grown_law_eq (old root : List UInt8) (m : Nat) (ls : List (List UInt8)) : grownRL (growsR nodeL [] old ls.reverse m m true) old root = (decide (ls.length = 0) && decide (old = root)) := by
  cases h : ls.reverse with
  | nil =>
    have : ls = [] := by simpa using h
    subst this
    simp [growsR, grownRL]
  | cons x r =>
    have : ls ≠ [] := by intro e; subst e; simp at h
    have h0 : ¬ ls.length = 0 := by simpa using this
    simp [growsR, grownRL, h0]

end Go.Proofs.YtgkakddldobpkaaDoor

/- The tree, plain: each leaf lies where its path says; a list that grew goes on with each of its beginnings. -/
namespace Mvt
variable {α : Type} (nd : α → α → α) (d : α)
theorem lies_path : ∀ (N : Nat) (l : List α) (i : Nat), l.length ≤ N → i < l.length → leadsR nd d (l.getD i d) (pathW nd d l i).reverse l.length i = (rootW nd d l, true) := by
  intro N
  induction N with
  | zero => intro l i h hi; omega
  | succ N ih =>
    intro l i h hi
    by_cases h1 : l.length ≤ 1
    · rw [pathW.eq_1 nd d l, rootW.eq_1 nd d l, dif_pos h1, dif_pos h1]
      have e1 : l.length = 1 := by omega
      have e0 : i = 0 := by omega
      subst e0
      simp [leadsR, e1]
    · have h2 := half_le l.length (by omega)
      have h3 := half_pos l.length
      rw [pathW.eq_1 nd d l, rootW.eq_1 nd d l, dif_neg h1, dif_neg h1]
      by_cases hk : i < half l.length
      · have hI := ih (l.take (half l.length)) i (by rw [List.length_take]; omega) (by rw [List.length_take]; omega)
        have e1 : (l.take (half l.length)).length = half l.length := by rw [List.length_take]; omega
        have e2 : (l.take (half l.length)).getD i d = l.getD i d := by simp [List.getD_eq_getElem?_getD, List.getElem?_take, hk]
        rw [e1, e2] at hI
        rw [if_pos hk, List.reverse_append, List.reverse_singleton, List.singleton_append, leadsR, if_neg (by omega), if_pos hk, hI]
      · have hI := ih (l.drop (half l.length)) (i - half l.length) (by rw [List.length_drop]; omega) (by rw [List.length_drop]; omega)
        have e1 : (l.drop (half l.length)).length = l.length - half l.length := by rw [List.length_drop]
        have e2 : (l.drop (half l.length)).getD (i - half l.length) d = l.getD i d := by
          simp [List.getD_eq_getElem?_getD, List.getElem?_drop, show half l.length + (i - half l.length) = i by omega]
        rw [e1, e2] at hI
        rw [if_neg hk, List.reverse_append, List.reverse_singleton, List.singleton_append, leadsR, if_neg (by omega), if_neg hk, hI]
theorem half_take (l : List α) (m : Nat) (h1 : half l.length < m) (h2 : m ≤ l.length) : half m = half l.length := by
  have h3 := half_lt l.length (by have := half_pos l.length; omega)
  have := half_is (Nat.log2 (l.length - 1)) m (by unfold half at h1; exact h1) (by unfold half at h3; rw [Nat.pow_succ]; omega)
  rw [this]; rfl
theorem grows_growth : ∀ (N : Nat) (l : List α) (m : Nat) (wt : Bool) (old : α), l.length ≤ N → 1 ≤ m → m ≤ l.length → (wt = true → old = rootW nd d (l.take m)) →
    growsR nd d old (growW nd d l m wt).reverse m l.length wt = ((rootW nd d (l.take m), rootW nd d l), true) := by
  intro N
  induction N with
  | zero => intro l m wt old h h1 h2; omega
  | succ N ih =>
    intro l m wt old h h1 h2 ho
    by_cases he : m = l.length
    · rw [growW, if_pos he]
      have et : l.take m = l := List.take_of_length_le (by omega)
      rw [et] at ho ⊢
      cases wt with
      | true => rw [ho rfl]; simp [growsR, he]
      | false => simp [growsR, he]
    · rw [growW, if_neg he, dif_neg (by omega)]
      have h3 := half_le l.length (by omega)
      have h4 := half_pos l.length
      have hr : rootW nd d l = nd (rootW nd d (l.take (half l.length))) (rootW nd d (l.drop (half l.length))) := by rw [rootW.eq_1 nd d l, dif_neg (by omega)]
      by_cases hk : m ≤ half l.length
      · have e1 : (l.take (half l.length)).length = half l.length := by rw [List.length_take]; omega
        have e2 : (l.take (half l.length)).take m = l.take m := by rw [List.take_take, Nat.min_eq_left hk]
        have hI := ih (l.take (half l.length)) m wt old (by omega) h1 (by omega) (by rw [e2]; exact ho)
        rw [e1, e2] at hI
        rw [if_pos hk, List.reverse_append, List.reverse_singleton, List.singleton_append, growsR, if_neg he, if_pos hk, hI, hr]
      · have e1 : (l.drop (half l.length)).length = l.length - half l.length := by rw [List.length_drop]
        have hI := ih (l.drop (half l.length)) (m - half l.length) false old (by omega) (by omega) (by omega) (by simp)
        rw [e1] at hI
        have e5 : half m = half l.length := half_take l m (by omega) h2
        have hrm : rootW nd d (l.take m) = nd (rootW nd d (l.take (half l.length))) (rootW nd d ((l.drop (half l.length)).take (m - half l.length))) := by
          have el : (l.take m).length = m := by rw [List.length_take]; omega
          rw [rootW.eq_1 nd d (l.take m), dif_neg (by omega), el, e5, List.take_take, Nat.min_eq_left (by omega), List.drop_take]
        rw [if_neg hk, List.reverse_append, List.reverse_singleton, List.singleton_append, growsR, if_neg he, if_neg hk, hI, hr, hrm]
end Mvt
namespace Go.Proofs.YtgkakddldobpkaaDoor
open Go.RowKit Go.Mv Mvp Mvt
attribute [local irreducible] permS permP toB turnsK squeeze permN permB spongeB feed frameL framesL tagL leafL nodeL

theorem rootL_W (ls : List (List UInt8)) (h : 1 ≤ ls.length) : rootW nodeL [] (ls.map leafL) = rootL ls := rootW_L ls (by omega)
theorem lies_true (ls : List (List UInt8)) (i : Nat) (hi : i < ls.length) : liesL (rootL ls) ls.length i (ls.getD i []) (pathL ls i) = true := by
  have h1 := lies_path nodeL [] _ (ls.map leafL) i (Nat.le_refl _) (by rw [List.length_map]; exact hi)
  have e1 : (ls.map leafL).getD i [] = leafL (ls.getD i []) := by simp [List.getD_eq_getElem?_getD, hi]
  rw [e1, rootL_W ls (by omega), List.length_map] at h1
  have h2 := leads_climb nodeL [] (leafL (ls.getD i [])) (pathL ls i).reverse ls.length i (by omega) hi
  rw [List.reverse_reverse] at h2
  unfold pathL at *
  rw [h1] at h2
  unfold liesL
  rw [h2]
  simp
theorem grown_true (ls : List (List UInt8)) (m : Nat) (h1 : 1 ≤ m) (h2 : m < ls.length) : grownL (rootL (ls.take m)) (rootL ls) m ls.length (glist (rootL (ls.take m)) m (growL ls m)) = true := by
  have h3 := grows_growth nodeL [] _ (ls.map leafL) m true (rootL (ls.take m)) (Nat.le_refl _) h1 (by rw [List.length_map]; omega) (fun _ => by rw [← List.map_take, rootL_W _ (by rw [List.length_take]; omega)])
  rw [List.length_map, ← List.map_take, rootL_W _ (by rw [List.length_take]; omega), rootL_W ls (by omega)] at h3
  rw [← grown_law _ _ _ _ _ h1 h2]
  unfold growL
  rw [h3]
  simp [grownRL]
end Go.Proofs.YtgkakddldobpkaaDoor

/- mintvaultlaw8.TreeTrue: the walk of the law. -/
namespace Go.Proofs.YtgkakddldobpkaaDoor
open Go.RowKit Go.Mv Mvp Mvt
attribute [local irreducible] permS permP toB turnsK squeeze permN permB spongeB feed frameL framesL tagL leafL nodeL

def kFirst : List UInt8 := [102, 105, 114, 115, 116]
theorem kFirst_eq : (⟨#[102, 105, 114, 115, 116]⟩ : ByteArray) = mkS kFirst := rfl
/-- a number made not negative -/
def absN (i : Int) : Nat := if i < 0 then (-(i + 1)).toNat else i.toNat
theorem absN_le (i : Int) (h : -9223372036854775808 ≤ i ∧ i ≤ 9223372036854775807) : absN i ≤ 9223372036854775807 := by unfold absN; split <;> omega
/-- the leaves of the law -/
def firstL (ls : List (List UInt8)) : List (List UInt8) := (kFirst :: ls).take 1024
theorem firstL_len (ls : List (List UInt8)) (h : ls.length ≤ 1024) : (firstL ls).length = min 1024 (ls.length + 1) := by unfold firstL; rw [List.length_take, List.length_cons]
theorem firstL_short (ls : List (List UInt8)) (h : ∀ x ∈ ls, x.length ≤ 70000) : ∀ x ∈ firstL ls, x.length ≤ 70000 := by
  intro x hx
  have := List.mem_of_mem_take hx
  rcases List.mem_cons.1 this with rfl | h1
  · decide
  · exact h x h1
theorem SOwn.parts {w : World} {base : Nat} {v : Value} {ls : List (List UInt8)} (h : SOwn w base v ls) (hx : ∀ x ∈ ls, x.length ≤ 1000000) : ∃ a c, v = .slice a ls.length c ∧ ls.length ≤ c ∧ PartsAt w a ls := h.lown.parts hx
theorem sz32_of (ls : List (List UInt8)) (h : ∀ x ∈ ls, x.length = 32) : sz32 ls = true := by
  unfold sz32
  rw [List.all_eq_true]
  intro x hx
  simp [h x hx]
theorem pathL_32 (ls : List (List UInt8)) (i : Nat) (hi : i < ls.length) : ∀ x ∈ pathL ls i, x.length = 32 := by
  intro x hx
  unfold pathL at hx
  obtain ⟨K, hK⟩ : ∃ K, (lv nodeL [] (ls.map leafL) K).length ≤ 1 := ⟨ls.length, by
    have h1 : ¬ 1 < (lv nodeL [] (ls.map leafL) ls.length).length := by
      rw [lv_len, List.length_map]
      have := Nat.lt_two_pow_self (n := ls.length)
      omega
    omega⟩
  rw [← path_all nodeL [] (ls.map leafL) i K (by rw [List.length_map]; exact hi) hK] at hx
  exact upsL_32 ls K 0 i x hx
theorem growL_32 (ls : List (List UInt8)) (m : Nat) (h1 : 1 ≤ m) (h2 : m < ls.length) (hb : ls.length ≤ 1024) : ∀ x ∈ growL ls m, x.length = 32 := by
  intro x hx
  obtain ⟨K, hK⟩ : ∃ K, (lv nodeL [] (ls.map leafL) K).length ≤ 1 := ⟨ls.length, by
    have h1 : ¬ 1 < (lv nodeL [] (ls.map leafL) ls.length).length := by
      rw [lv_len, List.length_map]
      have := Nat.lt_two_pow_self (n := ls.length)
      omega
    omega⟩
  obtain ⟨q, hq, -⟩ := ctz_spec m h1 (by omega)
  obtain ⟨hs, hg⟩ := grow_all nodeL [] (ls.map leafL) (Lib.ctz 64 m) (2 * q) m K hq (by omega) (by rw [List.length_map]; exact h2) hK
  have hxl : 2 * q < (lvN ls (Lib.ctz 64 m)).length := (lv_len nodeL [] (ls.map leafL) _ _).2 (by
    rw [List.length_map]
    have h3 := Nat.two_pow_pos (Lib.ctz 64 m)
    rw [Nat.add_mul, Nat.one_mul] at hq
    omega)
  unfold growL at hx
  rw [hg, List.mem_append] at hx
  rcases hx with hx | hx
  · split at hx
    · simp at hx
    · simp only [List.mem_singleton] at hx
      subst hx
      exact lvN_get32 ls _ _ hxl
  · exact upsL_32 ls _ _ _ x hx

set_option maxHeartbeats 4000000 in
set_option maxRecDepth 1000000 in
theorem true_yes (p : Option Addr) (c : Nat) (ls : List (List UInt8)) (i m : Int) (w : World) (hm : ls.length ≤ 1024) (hmc : ls.length ≤ c) (hb : Rd w p ls.length (ss ls)) (hx : ∀ x ∈ ls, x.length ≤ 70000) (hx2 : ∀ x ∈ ls, x.length ≤ 140737488351232) (hsm : sumL ls ≤ 65536)
    (hi : -9223372036854775808 ≤ i ∧ i ≤ 9223372036854775807) (hmi : -9223372036854775808 ≤ m ∧ m ≤ 9223372036854775807) (hT : TabAt 0 Lib.deBruijn64tab w) :
    Calls Tryd.prog 4 #[.slice p ls.length c, .int .i64 i, .int .i64 m] w fun e w' => e = .returned (.bool true) ∧ Fr Nob w w' := by
  have hsmall := small_short p c ls w hx2 (by omega) hb
  rw [decide_eq_true hsm] at hsmall
  have HSM := Lib.hid hsmall
  have HT := Lib.hid hT
  have hlenL := firstL_len ls hm
  have hshort := firstL_short ls hx
  have hLe : firstL ls = (kFirst :: ls).take 1024 := rfl
  have HLE := Lib.hid hLe
  have HSH := Lib.hid hshort
  have hI : ¬ (1024 : Int) < (ls.length : Int) := by omega
  clear hsmall hsm hx hx2 hT hLe hshort
  generalize firstL ls = L at *
  have HLL := Lib.hid hlenL
  have hn1 : 1 ≤ L.length := by omega
  have hn2 : L.length ≤ 1024 := by omega
  clear hlenL
  have hai := absN_le i hi
  have ham := absN_le m hmi
  obtain ⟨hi1, hi2⟩ := hi
  obtain ⟨hm1, hm2⟩ := hmi
  go_enter Tryd.func4, Tryd.ntmps4
  go_wp2_with fail
  refine HSM.out.mono ?_
  rintro e w' ⟨rfl, rfl⟩
  go_wp2_with (with_reducible refine wl_stop (o := ⟨some 28, _, _, _, _, _⟩) ?_)
  unfold Stop
  refine wl_slit rfl rfl Tryd.underlying22 info_str [.string (mkS kFirst)] rfl (by simp; rfl) rfl rfl ?_
  intro w2 hh2 hf2 hz2
  clear hz2
  have hb2 := hb.still hf2
  have hgs := hf2.size
  have hdst := Own.made hh2 w.heap.size (Nat.le_refl _) 1 1 1 (Nat.le_refl _) (by decide) (by simp)
  go_wp2_with (with_reducible refine wl_stop (o := ⟨some 30, _, _, _, _, _⟩) ?_)
  unfold Stop
  refine wl_append rfl rfl Tryd.underlying22 info_str rfl (by decide) hdst rfl rfl (by rw [Nat.mul_one]; exact hb2) (fun u hu => by simp only [ss, List.mem_map] at hu; obtain ⟨x, _, rfl⟩ := hu; rfl) (by unfold maxLen; omega) (by omega) hgs ?_
  intro v3 w3 hown3 hf3 hb3
  clear hb3
  have hfr3 := hdst.fr hf2 (Nat.le_refl _) hf3
  obtain ⟨a3, c3, rfl, hc3, hr3, -⟩ := hown3.form
  rw [Nat.mul_one] at hr3
  have hr3' : Rd w3 a3 (1 + ls.length) (ss (kFirst :: ls)) := by simpa [ss] using hr3
  clear hown3 hf3 hdst hh2 hb2 hf2 hr3 hb
  generalize w.heap.size = g0 at *
  go_upto_if 33 with fail
  go_cut [0] (fun v wx => ∃ (a' : Option Addr) (c' : Nat), v = .slice a' L.length c' ∧ L.length ≤ c' ∧ Rd wx a' L.length (ss L) ∧ Fr Nob w wx)
  case first =>
    by_cases hfull : 1024 < 1 + ls.length
    · have hfI : (1024 : Int) < 1 + (ls.length : Int) := by omega
      have hL24 : L.length = 1024 := by have := HLL.out; omega
      have e1 := fun wx => run_slice_hi (P := Tryd.prog) wx Tryd.underlying22 size_str a3 (1 + ls.length) c3 .i64 1024 (by omega)
      have hrd : Rd w3 a3 1024 (ss L) := by rw [HLE.out]; exact rd_take hr3' 1024 c3 (by omega) hc3
      have hcc : 1024 ≤ c3 := by omega
      have e1' : ∀ wx, (Instr.sliceAt 22 (.slice a3 (1 + ls.length) c3) none (some (.int .i64 1024)) none).run Tryd.prog wx = .ok (.slice a3 1024 c3) wx := e1
      clear e1
      go_wp2_with fail
      go_meet
      exact ⟨a3, c3, by rw [hL24], by omega, by rw [hL24]; exact hrd, hfr3⟩
    · have hfI : ¬ (1024 : Int) < 1 + (ls.length : Int) := by omega
      have hL1 : L.length = 1 + ls.length := by have := HLL.out; omega
      have hrd : Rd w3 a3 (1 + ls.length) (ss L) := by
        have e : L = kFirst :: ls := by rw [HLE.out, List.take_of_length_le (by rw [List.length_cons]; omega)]
        rw [e]; exact hr3'
      go_wp2_with fail
      go_meet
      exact ⟨a3, c3, by rw [hL1], by omega, by rw [hL1]; exact hrd, hfr3⟩
  case rest =>
  obtain ⟨al, cl, rfl, hcl, hrl, hfl⟩ := hcut
  clear hr3' hfr3 hc3 hmc hI
  go_upto_if 39 with fail
  go_cut [1] (fun v wx => v = .int .i64 ((absN i : Nat) : Int) ∧ wc = wx)
  case first =>
    by_cases h0 : i < 0
    · have e : ((absN i : Nat) : Int) = -(i + 1) := by unfold absN; rw [if_pos h0]; omega
      have E := Lib.hid e; clear e
      go_wp2_with fail
      go_meet
      exact ⟨by rw [E.out], rfl⟩
    · have e : ((absN i : Nat) : Int) = i := by unfold absN; rw [if_neg h0]; omega
      have E := Lib.hid e; clear e
      go_wp2_with fail
      go_meet
      exact ⟨by rw [E.out], rfl⟩
  case rest =>
  obtain ⟨rfl, hw1⟩ := hcut
  subst hw1
  go_upto_if 44 with fail
  go_cut [2] (fun v wx => v = .int .i64 ((absN m : Nat) : Int) ∧ wc = wx)
  case first =>
    by_cases h0 : m < 0
    · have e : ((absN m : Nat) : Int) = -(m + 1) := by unfold absN; rw [if_pos h0]; omega
      have E := Lib.hid e; clear e
      go_wp2_with fail
      go_meet
      exact ⟨by rw [E.out], rfl⟩
    · have e : ((absN m : Nat) : Int) = m := by unfold absN; rw [if_neg h0]; omega
      have E := Lib.hid e; clear e
      go_wp2_with fail
      go_meet
      exact ⟨by rw [E.out], rfl⟩
  case rest =>
  obtain ⟨rfl, hw1⟩ := hcut
  subst hw1
  clear hi1 hi2 hm1 hm2
  generalize absN i = ia at *
  generalize absN m = ma at *
  have hrem1 : (ia : Int) % (L.length : Int) = ((ia % L.length : Nat) : Int) := by simp
  have hrem2 : (ma : Int) % (L.length : Int) = ((ma % L.length : Nat) : Int) := by simp
  have hj1 : ia % L.length < L.length := Nat.mod_lt _ (by omega)
  have hj2 : ma % L.length < L.length := Nat.mod_lt _ (by omega)
  have hTc := TabAt.still2 HT.out hfl
  have HTC := Lib.hid hTc; clear hTc HT
  generalize ia % L.length = j at *
  generalize ma % L.length = q at *
  have hLn := HLL.out
  have hxL : ∀ x ∈ L, x.length ≤ 1000000 := fun x hx => by have := HSH.out x hx; omega
  have HXL := Lib.hid hxL; clear hxL
  obtain ⟨wL, hwL⟩ : ∃ wL, wL = wc := ⟨_, rfl⟩
  subst hwL
  have e1 : ∀ wx, (Instr.sliceAt 22 (.slice al L.length cl) none (some (.int .i64 ((q : Int) + 1))) none).run Tryd.prog wx = .ok (.slice al (q + 1) cl) wx := fun wx => by
    have := run_slice_hi (P := Tryd.prog) wx Tryd.underlying22 size_str al L.length cl .i64 (q + 1) (by omega)
    simpa using this
  have hql : (L.take (q + 1)).length = q + 1 := by rw [List.length_take]; omega
  have hrq : Rd wL al (q + 1) (ss (L.take (q + 1))) := rd_take hrl (q + 1) cl (by omega) hcl
  have HQL := Lib.hid hql; clear hql
  have HRQ := Lib.hid hrq; clear hrq
  clear hLn
  go_wp2_with fail
  refine (lists_any al cl L wL (by omega) HXL.out hrl).mono ?_
  rintro e w4 ⟨v4, rfl, hL4, hf4⟩
  obtain ⟨a4, c4, rfl, hc4, hp4⟩ := hL4.parts HXL.out
  go_wp2_with fail
  refine (TRoot_any a4 c4 L w4 hn2 hp4).mono ?_
  rintro e w5 ⟨v5, rfl, ho5, hf5⟩
  obtain ⟨a5, c5, rfl, hc5, -⟩ := id ho5.form
  have hF5 := hf4.then hf5
  clear hL4 hp4 hf4 hf5 hc4
  -- the first ones
  have HLT := Lib.hid (fun w' (hf : Fr Nob wL w') => lists_any al cl (L.take (q + 1)) w' (by have := HQL.out; omega) (fun x hx => HXL.out x (List.mem_of_mem_take hx)) (by rw [HQL.out]; exact HRQ.out.still hf))
  have HLA := Lib.hid (fun w' (hf : Fr Nob wL w') => lists_any al cl L w' (by omega) HXL.out (hrl.still hf))
  have hlt := HLT.out w5 hF5
  rw [HQL.out] at hlt
  have HLT5 := Lib.hid hlt; clear hlt
  go_wp2_with fail
  refine HLT5.out.mono ?_
  rintro e w6 ⟨v6, rfl, hL6, hf6⟩
  obtain ⟨a6, c6, rfl, hc6, hp6⟩ := hL6.parts (fun x hx => HXL.out x (List.mem_of_mem_take hx))
  have hroot6 := TRoot_any a6 c6 (L.take (q + 1)) w6 (by have := HQL.out; omega) hp6
  rw [HQL.out] at hroot6 ⊢
  have HR6 := Lib.hid hroot6; clear hroot6
  have ho6 := ho5.still hf6
  have hF6 := hF5.then hf6
  clear hL6 hp6 hf6 hF5 ho5 HLT HLT5 hc6
  go_wp2_with fail
  refine HR6.out.mono ?_
  rintro e w7 ⟨v7, rfl, hold7, hf7⟩
  obtain ⟨a7, c7, rfl, hc7, -⟩ := id hold7.form
  have ho7 := ho6.still hf7
  have hF7 := hF6.then hf7
  clear HR6 ho6 hF6 hf7
  go_wp2_with fail
  refine (HLA.out w7 hF7).mono ?_
  rintro e w8 ⟨v8, rfl, hL8, hf8⟩
  obtain ⟨a8, c8, rfl, hc8, hp8⟩ := hL8.parts HXL.out
  have ho8 := ho7.still hf8
  have hold8 := hold7.still hf8
  have hF8 := hF7.then hf8
  clear hL8 hf8 hF7 ho7 hold7 hc8
  go_wp2_with fail
  refine (TPath_any a8 c8 L j w8 hn2 hj1 hp8).mono ?_
  rintro e w9 ⟨v9, rfl, hS9, hf9⟩
  have ho9 := ho8.still hf9
  have hold9 := hold8.still hf9
  have hF9 := hF8.then hf9
  obtain ⟨ap, cp, rfl, hcp, -⟩ := hS9.parts (fun x hx => by rw [pathL_32 L j hj1 x hx]; decide)
  clear hp8 hf9 hF8 ho8 hold8
  go_wp2_with fail
  refine (HLA.out w9 hF9).mono ?_
  rintro e w10 ⟨v10, rfl, hL10, hf10⟩
  obtain ⟨a10, c10, rfl, hc10, hp10⟩ := hL10.parts HXL.out
  have ho10 := ho9.still hf10
  have hold10 := hold9.still hf10
  have hF10 := hF9.then hf10
  have hS10 := hS9.still hf10
  clear hL10 hf10 hF9 ho9 hold9 hS9 hc10
  have hgrow : ∃ gl : List (List UInt8), (∀ x ∈ gl, x.length = 32) ∧ gl.length ≤ 2000 ∧ (∀ (a0 : Option Addr) (n0 c0 : Nat) (a1 : Option Addr) (n1 c1 : Nat) (pg : Option Addr) (cg : Nat) (w0 : World), gl.length ≤ cg → PartsAt w0 pg gl → PartIs w0 (.slice a0 n0 c0) (rootL (L.take (q + 1))) → RdB w0 a1 n1 (rootL L) →
      Calls Tryd.prog 17 #[.slice a0 n0 c0, .int .i64 ((q + 1 : Nat) : Int), .slice a1 n1 c1, .int .i64 (L.length : Int), .slice pg gl.length cg] w0 fun e w' => e = .returned (.bool true) ∧ Fr Nob w0 w') ∧
      Calls Tryd.prog 10 #[.slice a10 L.length c10, .int .i64 ((q + 1 : Nat) : Int)] w10 fun e w' => ∃ v, e = .returned (.tuple #[v, .int .i64 0]) ∧ SOwn w' w10.heap.size v gl ∧ Fr Nob w10 w' := by
    by_cases he : q + 1 = L.length
    · refine ⟨[], by simp, by simp, ?_, ?_⟩
      · intro a0 n0 c0 a1 n1 c1 pg cg w0 _ hpg ho hr
        rw [he]
        obtain ⟨_, _, _, hv, h1, h2, h3, h4⟩ := ho
        simp only [Value.slice.injEq] at hv
        obtain ⟨rfl, rfl, rfl⟩ := hv
        refine (grown_eq a0 n0 c0 (rootL (L.take (q + 1))) L.length a1 n1 c1 (rootL L) pg cg [] w0 (by simp) hpg h3 hr hn1 (by omega) rfl).mono ?_
        rintro e w' ⟨rfl, hf⟩
        refine ⟨?_, hf⟩
        rw [show L.take (q + 1) = L from List.take_of_length_le (by omega)]
        simp
      · rw [he]
        refine (TGrowth_all a10 L.length c10 w10 hn2 hn1).mono ?_
        rintro e w' ⟨rfl, rfl⟩
        exact ⟨_, rfl, SOwn.nil _ _, Fr.refl _ _⟩
    · refine ⟨growL L (q + 1), growL_32 L (q + 1) (by omega) (by omega) hn2, ?_, ?_, ?_⟩
      · have := growR_len L (q + 1) true
        have e : growR L (q + 1) true = growL L (q + 1) := rfl
        rw [e] at this; omega
      · intro a0 n0 c0 a1 n1 c1 pg cg w0 hcg hpg ho hr
        have hgl := growR_len L (q + 1) true
        have e : growR L (q + 1) true = growL L (q + 1) := rfl
        rw [e] at hgl
        refine (grown_lt a0 n0 c0 (rootL (L.take (q + 1))) (q + 1) L.length a1 n1 c1 (rootL L) pg cg (growL L (q + 1)) w0 (by omega) hcg hpg ho hr (by omega) (by omega) (by omega) (sz32_of _ (growL_32 L (q + 1) (by omega) (by omega) hn2))).mono ?_
        rintro e w' ⟨rfl, hf⟩
        rw [grown_true L (q + 1) (by omega) (by omega)]
        exact ⟨rfl, hf⟩
      · exact TGrowth_any a10 c10 L (q + 1) w10 hn2 (by omega) (by omega) hp10 (TabAt.still2 HTC.out hF10)
  obtain ⟨gl, hg32, hglen, hgg, hgc⟩ := hgrow
  rw [show ((q + 1 : Nat) : Int) = (q : Int) + 1 by omega] at hgg hgc
  have HG32 := Lib.hid hg32
  have HGG := Lib.hid hgg
  have HGC := Lib.hid hgc
  clear hg32 hgg hgc hp10
  go_wp2_with fail
  refine HGC.out.mono ?_
  rintro e w11 ⟨v11, rfl, hS11, hf11⟩
  obtain ⟨ag, cg, rfl, hcg, -⟩ := hS11.parts (fun x hx => by rw [HG32.out x hx]; decide)
  have ho11 := ho10.still hf11
  have hold11 := hold10.still hf11
  have hSp11 := hS10.still hf11
  have hF11 := hF10.then hf11
  clear hf11 hF10 hS10 ho10 hold10 HGC HLA
  obtain ⟨bl, ol, rfl, hat⟩ := (hrl.still hF11).at (by omega)
  have hcj : w11.cell? ⟨bl, ol + j, none⟩ = some (.string (mkS (L.getD j []))) := hat j _ (ss_get L j hj1)
  have hlj : (L.getD j []).length ≤ 1000000 := by
    rw [List.getD_eq_getElem?_getD, List.getElem?_eq_getElem hj1]
    exact HXL.out _ (List.getElem_mem _)
  have hjI : (j : Int) < (L.length : Int) := by omega
  have hltrue := lies_true L j hj1
  clear hat
  generalize L.getD j [] = leaf at *
  have HLV := Lib.hid hltrue; clear hltrue
  clear e1 hrem1 hrem2
  go_wp2_with (with_reducible refine wl_stop (o := ⟨some 109, _, _, _, _, _⟩) ?_)
  unfold Stop
  refine wl_bytes (q := mkS leaf) rfl rfl Tryd.underlying9 Tryd.underlying26 Tryd.underlying5 rfl (by rw [mkS_size]; unfold maxLen; omega) w11.heap.size (Nat.le_refl _) ?_
  intro capl w12 hown12 hf12 hz12
  clear hz12
  rw [mkS_size, mkS_toList] at hown12
  rw [mkS_size]
  have hleaf := own_part hown12 hlj
  have ho12 := ho11.still hf12
  have hold12 := hold11.still hf12
  have hSp12 := hSp11.still hf12
  have hSg12 := hS11.still hf12
  have hF12 := hF11.then hf12
  obtain ⟨ap', cp', hvp, hcp', hpp⟩ := hSp12.parts (fun x hx => by rw [pathL_32 L j hj1 x hx]; decide)
  simp only [Value.slice.injEq] at hvp
  obtain ⟨rfl, -, rfl⟩ := hvp
  obtain ⟨_, _, hv5, -, hr5, -⟩ := ho12.form
  simp only [Value.slice.injEq] at hv5
  obtain ⟨rfl, -, rfl⟩ := hv5
  rw [Nat.mul_one] at hr5
  have hr5b : RdB w12 a5 32 (rootL L) := hr5
  have hlc := lies_yes a5 32 c5 (rootL L) L.length j (some ⟨w11.heap.size, 0, none⟩) leaf.length capl leaf ap cp (pathL L j) w12 (by have := pathL_len L j; omega) hpp hr5b hleaf hn1 (by omega) hj1 (sz32_of _ (pathL_32 L j hj1))
  rw [HLV.out] at hlc
  have HLC := Lib.hid hlc; clear hlc hown12 hleaf hpp hr5 hr5b hcj hf12 ho11 hold11 hSp11 hS11 hF11 hrl
  generalize w11.heap.size = g11 at *
  have hplen : (pathL L j).length ≤ 2000 := by have := pathL_len L j; omega
  generalize pathL L j = pl at *
  go_wp2_with fail
  refine HLC.out.mono ?_
  rintro e w13 ⟨rfl, hf13⟩
  have ho13 := ho12.still hf13
  have hold13 := hold12.still hf13
  have hSg13 := hSg12.still hf13
  have hF13 := hF12.then hf13
  obtain ⟨_, _, hvg, hcg', hpg⟩ := hSg13.parts (fun x hx => by rw [HG32.out x hx]; decide)
  simp only [Value.slice.injEq] at hvg
  obtain ⟨rfl, -, rfl⟩ := hvg
  obtain ⟨_, _, hv5, -, hr5, -⟩ := ho13.form
  simp only [Value.slice.injEq] at hv5
  obtain ⟨rfl, -, rfl⟩ := hv5
  rw [Nat.mul_one] at hr5
  have hr5b : RdB w13 a5 32 (rootL L) := hr5
  have HGR := Lib.hid (HGG.out a7 32 c7 a5 32 c5 ag cg w13 hcg hpg (own_part hold13 (by decide)) hr5b)
  clear hpg hr5 hr5b HGG HLC hSg13 hSg12 hold12 ho12 ho13 hold13 hSp12 hF12
  go_wp2_with fail
  refine HGR.out.mono ?_
  rintro e w14 ⟨rfl, hf14⟩
  go_wp2_with fail
  go_ret
  exact ⟨rfl, (hfl.then hF13).then hf14⟩

set_option maxRecDepth 1000000 in
theorem true_no (p : Option Addr) (c : Nat) (ls : List (List UInt8)) (i m : Int) (w : World) (hm : ls.length ≤ 9223372036854775807) (hb : Rd w p ls.length (ss ls)) (hx : ∀ x ∈ ls, x.length ≤ 140737488351232) (h : 1024 < ls.length ∨ 65536 < sumL ls) :
    Calls Tryd.prog 4 #[.slice p ls.length c, .int .i64 i, .int .i64 m] w fun e w' => e = .returned (.bool true) ∧ Fr Nob w w' := by
  have hsm : Calls Tryd.prog 6 #[.slice p ls.length c] w (fun e w' => e = .returned (.bool false) ∧ w = w') ∨ ((Calls Tryd.prog 6 #[.slice p ls.length c] w (fun e w' => e = .returned (.bool true) ∧ w = w')) ∧ (1024 : Int) < (ls.length : Int)) := by
    by_cases h1 : 1100 < ls.length
    · exact .inl (small_long p c ls w hm h1 hb)
    · have h2 := small_short p c ls w hx (by omega) hb
      by_cases h3 : sumL ls ≤ 65536
      · rw [decide_eq_true h3] at h2
        exact .inr ⟨h2, by omega⟩
      · rw [decide_eq_false h3] at h2
        exact .inl h2
  clear h hx hb
  go_enter Tryd.func4, Tryd.ntmps4
  rcases hsm with hsm | ⟨hsm, hbig⟩
  all_goals
    have HSM := Lib.hid hsm; clear hsm
    go_wp2_with fail
    refine HSM.out.mono ?_
    rintro e w' ⟨rfl, rfl⟩
    go_wp2_with fail
    go_ret
    exact ⟨rfl, Fr.refl _ _⟩
theorem sumL_mem (ls : List (List UInt8)) : ∀ x ∈ ls, x.length ≤ sumL ls := by
  induction ls with
  | nil => simp
  | cons a l ih =>
    intro x hx
    have h3 : sumL (a :: l) = a.length + sumL l := by simp only [sumL, List.map_cons, List.foldr_cons]
    rcases List.mem_cons.1 hx with rfl | h
    · omega
    · have := ih x h; omega
theorem law_TreeTrue (p : Option Addr) (c : Nat) (ls : List (List UInt8)) (i m : Int) (w : World) (hx : ∀ x ∈ ls, x.length ≤ 140737488351232) (hm : ls.length ≤ 9223372036854775807) (hb : Rd w p ls.length (ss ls)) (hmc : ls.length ≤ c)
    (hi : -9223372036854775808 ≤ i ∧ i ≤ 9223372036854775807) (hmi : -9223372036854775808 ≤ m ∧ m ≤ 9223372036854775807) (hT : TabAt 0 Lib.deBruijn64tab w) :
    Calls Tryd.prog 4 #[.slice p ls.length c, .int .i64 i, .int .i64 m] w fun e w' => e = .returned (.bool true) ∧ Fr Nob w w' := by
  by_cases h : 1024 < ls.length ∨ 65536 < sumL ls
  · exact true_no p c ls i m w hm hb hx h
  · exact true_yes p c ls i m w (by omega) hmc hb (fun x hx' => by have := sumL_mem ls x hx'; omega) hx (by omega) hi hmi hT
end Go.Proofs.YtgkakddldobpkaaDoor

/- The reference's Apart: of lists that lie apart it returns true. -/
namespace Go.Proofs.YtgkakddldobpkaaDoor
open Go.RowKit Go.Mv Mvp
attribute [local irreducible] permS permP toB turnsK squeeze permN permB spongeB feed frameL framesL tagL leafL nodeL

/-- each byte one more -/
def inc (l : List UInt8) : List UInt8 := l.map (· + 1)
theorem inc_len (l : List UInt8) : (inc l).length = l.length := by simp [inc]
/-- the first i lists are incremented, of the next one the first j bytes -/
def incd (ls : List (List UInt8)) (i j : Nat) : List (List UInt8) := (ls.take i).map inc ++ ((fill (inc (ls.getD i [])) (ls.getD i []) j) :: ls.drop (i + 1)).take (ls.length - i)
theorem incd_zero (ls : List (List UInt8)) : incd ls 0 0 = ls := by
  cases ls with
  | nil => rfl
  | cons a l => simp [incd, fill_zero]
theorem incd_next (ls : List (List UInt8)) (i : Nat) (hi : i < ls.length) : incd ls i (ls.getD i []).length = incd ls (i + 1) 0 := by
  unfold incd
  rw [fill_all _ _ _ (inc_len _) (by rw [inc_len]; exact Nat.le_refl _), fill_zero, List.take_succ_eq_append_getElem hi, List.map_append, List.append_assoc]
  congr 1
  have e : ls.getD i [] = ls[i] := by simp [List.getD_eq_getElem?_getD, hi]
  rw [e, show ls.length - i = (ls.length - i - 1) + 1 by omega, List.take_succ_cons]
  simp only [List.map_cons, List.map_nil, List.singleton_append]
  congr 1
  rw [List.take_of_length_le (by rw [List.length_drop]; omega)]
  rcases Nat.lt_or_ge (i + 1) ls.length with h | h
  · have e2 : ls.getD (i + 1) [] = ls[i + 1] := by simp [List.getD_eq_getElem?_getD, h]
    rw [e2, ← List.drop_eq_getElem_cons h, List.take_of_length_le (by rw [List.length_drop]; omega)]
  · rw [List.drop_eq_nil_of_le h, show ls.length - (i + 1) = 0 by omega]; rfl
theorem incd_all (ls : List (List UInt8)) : incd ls ls.length 0 = ls.map inc := by
  unfold incd
  rw [Nat.sub_self, List.take_zero, List.append_nil, List.take_length]
theorem incd_len (ls : List (List UInt8)) (i j : Nat) (hi : i ≤ ls.length) : (incd ls i j).length = ls.length := by
  unfold incd
  rw [List.length_append, List.length_map, List.length_take, List.length_take, List.length_cons, List.length_drop]
  omega
theorem incd_set (ls : List (List UInt8)) (i j : Nat) (hi : i < ls.length) (hj : j < (ls.getD i []).length) : (incd ls i j).set i ((fill (inc (ls.getD i [])) (ls.getD i []) j).set j ((inc (ls.getD i [])).getD j 0)) = incd ls i (j + 1) := by
  unfold incd
  rw [fill_set _ _ _ (inc_len _) (by rw [inc_len]; exact hj)]
  have e : ((ls.take i).map inc).length = i := by rw [List.length_map, List.length_take]; omega
  rw [List.set_append_right _ _ (by omega), e, Nat.sub_self, show ls.length - i = (ls.length - i - 1) + 1 by omega, List.take_succ_cons, List.take_succ_cons, List.set_cons_zero]
theorem incd_get (ls : List (List UInt8)) (i j : Nat) (hi : i < ls.length) : (incd ls i j)[i]? = some (fill (inc (ls.getD i [])) (ls.getD i []) j) := by
  unfold incd
  have e : ((ls.take i).map inc).length = i := by rw [List.length_map, List.length_take]; omega
  rw [List.getElem?_append_right (by omega), e, Nat.sub_self, show ls.length - i = (ls.length - i - 1) + 1 by omega, List.take_succ_cons]
  rfl

theorem Sep.ne {vs : List Value} (h : Sep vs) {i j : Nat} {a b : Value} (hi : vs[i]? = some a) (hj : vs[j]? = some b) (hij : i ≠ j) (k : Nat) (hk : OwnB a k) : ¬ OwnB b k := by
  unfold Sep at h
  rw [List.pairwise_iff_getElem] at h
  obtain ⟨h1, rfl⟩ := List.getElem?_eq_some_iff.1 hi
  obtain ⟨h2, rfl⟩ := List.getElem?_eq_some_iff.1 hj
  rcases Nat.lt_or_gt_of_ne hij with h3 | h3
  · exact h i j h1 h2 h3 k hk
  · exact fun hk' => h j i h2 h1 h3 k hk' hk
theorem POwn.keepAt {w w' : World} {base : Nat} {S : Nat → Prop} (hf : Fr S w w') : ∀ {vs : List Value} {ls : List (List UInt8)}, POwn w base vs ls → (∀ (j : Nat) (v : Value), vs[j]? = some v → ∀ k, OwnB v k → ¬ S k) → POwn w' base vs ls
  | [], [], _, _ => trivial
  | v :: vs, l :: ls, h, hs => ⟨h.1.keep hf (hs 0 v rfl), POwn.keepAt hf h.2 (fun j u hu => hs (j + 1) u (by simpa using hu))⟩
  | [], _ :: _, h, _ => h.elim
  | _ :: _, [], h, _ => h.elim
/-- one of the lists has turned -/
theorem POwn.upd {w w' : World} {base : Nat} {S : Nat → Prop} (hf : Fr S w w') : ∀ {vs : List Value} {ls : List (List UInt8)} (i : Nat) (l' : List UInt8), POwn w base vs ls → (∀ v, vs[i]? = some v → Own w' base 5 1 v l'.length (bs l')) → (∀ (j : Nat) (v : Value), j ≠ i → vs[j]? = some v → ∀ k, OwnB v k → ¬ S k) → POwn w' base vs (ls.set i l')
  | [], [], i, l', _, _, _ => trivial
  | v :: vs, l :: ls, 0, l', h, hv, hs => ⟨hv v rfl, POwn.keepAt hf h.2 (fun j u hu => hs (j + 1) u (by omega) (by simpa using hu))⟩
  | v :: vs, l :: ls, i + 1, l', h, hv, hs => ⟨h.1.keep hf (hs 0 v (by omega) rfl), POwn.upd hf i l' h.2 (fun u hu => hv u (by simpa using hu)) (fun j u hj hu => hs (j + 1) u (by omega) (by simpa using hu))⟩
  | [], _ :: _, _, _, h, _, _ => h.elim
  | _ :: _, [], _, _, h, _, _ => h.elim
end Go.Proofs.YtgkakddldobpkaaDoor

/- The reference's Apart: the first two loops. -/
namespace Go.Proofs.YtgkakddldobpkaaDoor
open Go.RowKit Go.Mv Mvp
attribute [local irreducible] permS permP toB turnsK squeeze permN permB spongeB feed frameL framesL tagL leafL nodeL

/-- what lies above a base -/
def Up (base : Nat) : Nat → Prop := fun k => base ≤ k
theorem byte_inc (y : UInt8) : ((y.toNat : Int) + 1) % 256 = ((y + 1).toNat : Int) := by simp
/-- the lists as they stand: a slice of slices, all of the call's own, apart -/
structure ApAt (w0 : World) (base n : Nat) (lv : Value) (vs : List Value) (st : List (List UInt8)) (w : World) : Prop where
  l : Own w base 26 1 lv n vs
  p : POwn w base vs st
  f : Fr (Up base) w0 w
theorem ApAt.still {w0 w w' : World} {base n : Nat} {lv : Value} {vs : List Value} {st : List (List UInt8)} (h : ApAt w0 base n lv vs st w) (hf : Fr Nob w w') : ApAt w0 base n lv vs st w' :=
  ⟨h.l.still hf, h.p.still hf, h.f.same hf⟩
theorem ApAt.at {w0 w : World} {base n : Nat} {lv : Value} {vs : List Value} {st : List (List UInt8)} (h : ApAt w0 base n lv vs st w) {i : Nat} (hi : i < n) :
    ∃ g o c x, lv = .slice (some ⟨g, o, none⟩) n c ∧ vs[i]? = some x ∧ w.cell? ⟨g, o + i, none⟩ = some x ∧ Own w base 5 1 x (st.getD i []).length (bs (st.getD i [])) := by
  obtain ⟨a, c, rfl, _, hr, -⟩ := h.l.form
  rw [Nat.mul_one] at hr
  have hvl := hr.len
  obtain ⟨b, o, rfl, hat⟩ := hr.at (by omega)
  obtain ⟨l, h3, h4⟩ := h.p.get i vs[i] (List.getElem?_eq_getElem (by omega))
  have e : st.getD i [] = l := by rw [List.getD_eq_getElem?_getD, h3]; rfl
  rw [e]
  exact ⟨b, o, c, vs[i], rfl, List.getElem?_eq_getElem (by omega), hat i _ (List.getElem?_eq_getElem (by omega)), h4⟩
/-- one list has turned, in its own block -/
theorem ApAt.upd {w0 w w' : World} {base n : Nat} {lv : Value} {vs : List Value} {st : List (List UInt8)} (h : ApAt w0 base n lv vs st w) (hs : Sep vs) {i : Nat} {x : Value} (hx : vs[i]? = some x) {l l' : List UInt8} (ho : Own w base 5 1 x l.length (bs l)) (hf : Fr (OwnB x) w w') (ho' : Own w' base 5 1 x l'.length (bs l')) :
    ApAt w0 base n lv vs (st.set i l') w' := by
  refine ⟨h.l.keep hf (fun k hk hk' => h.l.ne2 ho (by decide) k hk hk'), POwn.upd hf i l' h.p (fun v hv => by rw [hx] at hv; cases hv; exact ho') (fun j v hj hv k hk hk' => hs.ne hv hx hj k hk hk'), h.f.trans hf (fun k _ t => (ho.lt t).1)⟩

/-- the bytes that item i is grown by -/
def tl (i : Nat) : List UInt8 := (List.range 80).map fun j => UInt8.ofNat ((i * 37 + j) % 253) ^^^ 90
theorem tl_len (i : Nat) : (tl i).length = 80 := by simp [tl]
theorem tl_get (i j : Nat) (h : j < 80) : (tl i).getD j 0 = UInt8.ofNat ((i * 37 + j) % 253) ^^^ 90 := by simp [tl, List.getD_eq_getElem?_getD, h]
theorem tl_take (i j : Nat) (h : j < 80) : (tl i).take (j + 1) = (tl i).take j ++ [UInt8.ofNat ((i * 37 + j) % 253) ^^^ 90] := by
  rw [List.take_succ_eq_append_getElem (by rw [tl_len]; exact h), ← tl_get i j h]
  simp [List.getD_eq_getElem?_getD, tl_len, h]
theorem tl_val (k j : Nat) : bits BinOp.xor IntKind.u8 (((k : Int) * 37 + (j : Int)) % 253) 90 = (((k * 37 + j) % 253 % 256 ^^^ 90 : Nat) : Int) := by
  have e1 : (((k : Int) * 37 + (j : Int)) % 253) = (((k * 37 + j) % 253 : Nat) : Int) := by omega
  have h := Nat.mod_lt (k * 37 + j) (show 0 < 253 by decide)
  rw [e1]
  generalize (k * 37 + j) % 253 = z at *
  have e2 := u8_xor_nat z 90 (by omega) (by omega)
  rw [show (90 : Int) = ((90 : Nat) : Int) from rfl, e2, Nat.mod_eq_of_lt (show z < 256 by omega)]
def grw (ls : List (List UInt8)) (i : Nat) : List (List UInt8) := (List.range i).map fun k => inc (ls.getD k []) ++ tl k
theorem grw_succ (ls : List (List UInt8)) (i : Nat) : grw ls (i + 1) = grw ls i ++ [inc (ls.getD i []) ++ tl i] := by simp [grw, List.range_succ]
theorem grw_len (ls : List (List UInt8)) (i : Nat) : (grw ls i).length = i := by simp [grw]
theorem grw_get (ls : List (List UInt8)) (i k : Nat) (h : k < i) : (grw ls i).getD k [] = inc (ls.getD k []) ++ tl k := by simp [grw, List.getD_eq_getElem?_getD, h]
/-- the front of an owned slice is owned -/
theorem Own.front {w : World} {base : Nat} {T : TypeId} {g o n m cap : Nat} {L M : List Value} (h : Own w base T 1 (.slice (some ⟨g, o, none⟩) (n + m) cap) (n + m) (L ++ M)) (hL : L.length = n) : Own w base T 1 (.slice (some ⟨g, o, none⟩) n cap) n L := by
  obtain ⟨h1, h | ⟨g', o', cap', B, hv, h2, h3, h4, h5, h6, h7⟩⟩ := h
  · cases h.1
  · simp only [Value.slice.injEq, Option.some.injEq, Addr.mk.injEq, and_true, true_and] at hv
    obtain ⟨⟨rfl, rfl⟩, rfl⟩ := hv
    refine ⟨by omega, .inr ⟨g, o, cap, B, rfl, h2, h3, by omega, h5, h6, ?_⟩⟩
    have := congrArg (fun l => l.take n) h7
    simp only [List.take_take] at this
    rw [List.take_left' hL, Nat.mul_one, Nat.min_eq_left (by omega)] at this
    rw [Nat.mul_one]; exact this
/-- what is being grown: where it began, or in a block that is new -/
def Grows (w : World) (x gv : Value) (n j : Nat) : Prop := (∃ g o cap, x = .slice (some ⟨g, o, none⟩) n cap ∧ gv = .slice (some ⟨g, o, none⟩) (n + j) cap) ∨ (∀ b, OwnB gv b → w.heap.size ≤ b)
theorem Grows.start (w : World) (x : Value) (a : Option Addr) (n c : Nat) (h : x = .slice a n c) (ha : ∀ y, a = some y → y.spot = none) : Grows w x x n 0 := by
  subst h
  cases a with
  | none => exact .inr (fun b hb => by cases hb)
  | some y =>
    obtain ⟨g, o, sp⟩ := y
    have : sp = none := ha _ rfl
    subst this
    exact .inl ⟨g, o, c, rfl, rfl⟩
theorem Grows.blk {w : World} {x gv : Value} {n j : Nat} (h : Grows w x gv n j) (b : Nat) (hb : OwnB gv b) : OwnB x b ∨ w.heap.size ≤ b := by
  rcases h with ⟨g, o, cap, rfl, rfl⟩ | h
  · exact .inl hb
  · exact .inr (h b hb)
theorem Grows.step {wi w w' : World} {base n j : Nat} {x gv v' : Value} {L M : List UInt8} (h : Grows wi x gv n j) (hx : Own w base 5 1 x n (bs L)) (hxi : ∀ b, OwnB x b → b < wi.heap.size) (hf0 : Fr (OwnB x) wi w)
    (ho' : Own w' base 5 1 v' (n + j + 1) (bs (L ++ M))) (hf : Fr (OwnB gv) w w')
    (hc : ((∃ x o cap, gv = .slice (some ⟨x, o, none⟩) (n + j) cap ∧ v' = .slice (some ⟨x, o, none⟩) (n + j + 1) cap) ∨ ((1 : Nat) = 0 ∧ v' = gv)) ∨ (v'.ownBlock = some w.heap.size ∧ Fr Nob w w')) :
    Grows wi x v' n (j + 1) ∧ Own w' base 5 1 x n (bs L) ∧ Fr (OwnB x) wi w' := by
  rw [bs_append] at ho'
  have hfr : Fr (OwnB x) wi w' := hf0.trans hf (fun i hi t => (h.blk i t).resolve_right (by omega))
  have hsz := hf0.size
  have hLn : (bs L).length = n := by have := hx.1; omega
  rcases hc with (⟨g, o, cap, rfl, rfl⟩ | ⟨h0, -⟩) | ⟨h1, h2⟩
  · rcases h with ⟨g', o', cap', rfl, hv⟩ | h
    · simp only [Value.slice.injEq, Option.some.injEq, Addr.mk.injEq, and_true, true_and] at hv
      obtain ⟨⟨rfl, rfl⟩, rfl⟩ := hv
      exact ⟨.inl ⟨_, _, _, rfl, rfl⟩, Own.front (m := j + 1) ho' hLn, hfr⟩
    · refine ⟨.inr h, hx.keep hf (fun k hk hk' => ?_), hfr⟩
      have h3 := h k hk'
      have h4 := hxi k hk
      omega
  · omega
  · refine ⟨.inr (fun b hb => ?_), hx.still h2, hfr⟩
    have : w.heap.size = b := by
      have hb' : v'.ownBlock = some b := hb
      rw [h1] at hb'
      exact Option.some.inj hb'
    omega

/-- a byte of a text, wherever -/
theorem run_byte {P : Program} {t : TypeId} (ht : P.underlying t = some .string) (q : ByteArray) (k : Nat) (hk : k < q.size) (y : UInt8) (hy : q.data.toList.getD k 0 = y) (w : World) : (Instr.index t (.string q) (.int .i64 (k : Int))).run P w = .ok (.int .u8 (y.toNat : Int)) w := by
  have he : q[k]? = some y := by
    have h1 : q[k]? = some q[k] := getElem?_pos q k hk
    rw [h1]
    congr 1
    rw [← hy, List.getD_eq_getElem?_getD, List.getElem?_eq_getElem (by simpa using hk)]
    simp
    rfl
  simp [Instr.index, asIntOf, run_underlying ht, he]

set_option maxHeartbeats 4000000 in
set_option maxRecDepth 1000000 in
theorem apart_any (lv : Value) (base n : Nat) (vs : List Value) (ls : List (List UInt8)) (w : World) (hown : Own w base 26 1 lv n vs) (hpo : POwn w base vs ls) (hsep : Sep vs) (hn : n ≤ 100000) (hx : ∀ x ∈ ls, x.length ≤ 1000000) (hbase : base ≤ w.heap.size) :
    Calls Tryd.prog 15 #[lv] w fun e w' => e = .returned (.bool true) ∧ Fr (Up base) w w' := by
  have hln : ls.length = n := by
    have h1 := hpo.len
    have h2 := hown.1
    omega
  have hA0 : ApAt w base n lv vs ls w := ⟨hown, hpo, Fr.refl _ _⟩
  have HLB := Lib.hid (fun b (hb : OwnB lv b) => (hown.lt hb).2)
  obtain ⟨a0, c0, rfl, hc0, -⟩ := id hown.form
  have hxg : ∀ i, i < n → (ls.getD i []).length ≤ 1000000 := fun i hi => by
    rw [List.getD_eq_getElem?_getD, List.getElem?_eq_getElem (by omega)]
    exact hx _ (List.getElem_mem _)
  have HXG := Lib.hid hxg
  have HLN := Lib.hid hln
  have HSEP := Lib.hid hsep
  clear hown hpo hx hxg hln hsep
  go_enter Tryd.func15, Tryd.ntmps15
  go_wp2_with fail
  go_loopw [4, 3] (fun i q wr => ∃ j : Nat, j ≤ n ∧ i = .int .i64 (j : Int) ∧ Own wr w.heap.size 9 1 q j (ss (ls.take j)) ∧ Fr Nob w wr) (fun i _ _ => (n - intOf i).toNat)
  case atStart => exact ⟨0, by omega, rfl, Own.nil _ _ _ _, Fr.refl _ _⟩
  case round =>
    obtain ⟨j, hj, rfl, hown, hfr⟩ := hrel
    by_cases hlt : j < n
    · have hltI : (j : Int) < (n : Int) := by omega
      obtain ⟨g, o, cc, x, hv, hvx, hc, hox⟩ := (hA0.still hfr).at hlt
      simp only [Value.slice.injEq] at hv
      obtain ⟨rfl, -, rfl⟩ := hv
      have htk : ss (ls.take (j + 1)) = ss (ls.take j) ++ [.string (mkS (ls.getD j []))] := by
        have h := HLN.out
        unfold ss
        rw [List.take_succ_eq_append_getElem (by omega), List.map_append]
        congr 1
        simp [List.getD_eq_getElem?_getD, show j < ls.length by omega]
      have HTK := Lib.hid htk; clear htk
      generalize ls.getD j [] = l at *
      obtain ⟨ax, cx, rfl, -, hrx, -⟩ := id hox.form
      rw [Nat.mul_one] at hrx
      have hrb : RdB wr ax l.length l := hrx
      have x1 := run_string (P := Tryd.prog) hrb cx Tryd.underlying26 Tryd.underlying5 Tryd.underlying9
      clear hox hrx hvx
      go_wp2_with (with_reducible refine wl_stop (o := ⟨some 26, _, _, _, _, _⟩) ?_)
      unfold Stop
      refine wl_slit rfl rfl Tryd.underlying22 info_str [.string (mkS l)] rfl (by simp; rfl) rfl rfl ?_
      intro w2 hh2 hf2 hz2
      clear hz2
      have hown2 := hown.still hf2
      have hfr2 := hfr.then hf2
      clear hown hfr hf2 hrb x1 hc
      generalize wr.heap.size = g1 at *
      go_wp2_with (with_reducible refine wl_stop (o := ⟨some 27, _, _, _, _, _⟩) ?_)
      unfold Stop
      refine wl_append rfl rfl Tryd.underlying22 info_str rfl (by decide) hown2 rfl rfl (Rd.whole hh2) (fun u hu => by simp only [List.mem_singleton] at hu; subst hu; rfl) (by unfold maxLen; omega) (by omega) hfr2.size ?_
      intro v3 w3 hown3 hf3 hb3
      clear hb3
      have hfr3 := hown2.fr hfr2 (Nat.le_refl _) hf3
      have hown4 : Own w3 w.heap.size 9 1 v3 (j + 1) (ss (ls.take (j + 1))) := by rw [HTK.out]; exact hown3
      clear hown2 hfr2 hf3 hown3 hh2
      go_wp2_with fail
      go_roundw
      case rel => exact ⟨j + 1, by omega, by go_num, hown4, hfr3⟩
      case measure => simp [intOf]; omega
    · have hge : ¬ (j : Int) < (n : Int) := by omega
      obtain rfl : j = n := by omega
      rw [List.take_of_length_le (by rw [HLN.out]; exact Nat.le_refl _)] at hown
      have hA1 := hA0.still hfr
      have hbw := hfr.size
      rw [← incd_zero ls] at hA1
      clear hA0 hfr
      obtain ⟨w1, hw1⟩ : ∃ w1, w1 = wr := ⟨_, rfl⟩
      subst hw1
      go_wp2_with fail
      go_loopw [5, 6] (fun i z wr => ∃ i' : Nat, i' ≤ j ∧ i = .int .i64 (i' : Int) ∧ ApAt w base j (.slice a0 j c0) vs (incd ls i' 0) wr ∧ Own wr w.heap.size 9 1 u3 j (ss ls)) (fun i _ _ => (j - intOf i).toNat)
      case atStart => exact ⟨0, by omega, rfl, hA1, hown⟩
      case round =>
        clear hA1 hown
        obtain ⟨i, hi, rfl, hA, hws⟩ := hrel
        by_cases hin : i < j
        · have hinI : (i : Int) < (j : Int) := by omega
          have hwi : ∃ w2, w2 = wr := ⟨_, rfl⟩
          obtain ⟨w2, hw2⟩ := hwi
          subst hw2
          have hl1 := HLN.out
          have hxl := HXG.out i hin
          have hinc := inc_len (ls.getD i [])
          have hnext := incd_next ls i (by omega)
          have hset := fun k h => incd_set ls i k (by omega) h
          have hget := fun k => incd_get ls i k (by omega)
          generalize hli : ls.getD i [] = li at *
          have HLI := Lib.hid hli; clear hli
          have HINC := Lib.hid hinc; clear hinc
          have HNEXT := Lib.hid hnext; clear hnext
          have HSET := Lib.hid hset; clear hset
          have HGET := Lib.hid hget; clear hget
          clear hl1
          go_wp2_with fail
          go_loopw [6] (fun z wr => ∃ k : Nat, k ≤ li.length ∧ z = .int .i64 (k : Int) ∧ ApAt w base j (.slice a0 j c0) vs (incd ls i k) wr ∧ Own wr w.heap.size 9 1 u3 j (ss ls)) (fun z _ => (li.length - intOf z).toNat)
          case atStart => exact ⟨0, by omega, rfl, hA, hws⟩
          case round =>
            clear hA hws
            obtain ⟨k, hk, rfl, hA, hws⟩ := hrel
            obtain ⟨g, o, cc, x, hv, hvx, hc, hox⟩ := hA.at hin
            simp only [Value.slice.injEq] at hv
            obtain ⟨rfl, -, rfl⟩ := hv
            have hg := HGET.out k
            have hge : (incd ls i k).getD i [] = fill (inc li) li k := by rw [List.getD_eq_getElem?_getD, hg]; rfl
            rw [hge] at hox
            have hfl := fill_length (inc li) li k HINC.out
            rw [hfl] at hox
            clear hg hge
            obtain ⟨ax, cx, rfl, -⟩ := id hox.form
            by_cases hkl : k < li.length
            · have hklI : (k : Int) < (li.length : Int) := by omega
              obtain ⟨g', o', cap', hv', hbg, hgw, hncap, hcm, hcell, hfro, hupd⟩ := hox.cells (by omega)
              simp only [Value.slice.injEq] at hv'
              obtain ⟨rfl, -, rfl⟩ := hv'
              have hfk : (bs (fill (inc li) li k))[k]? = some (.int .u8 ((li.getD k 0).toNat : Int)) := by
                have h1 := fill_get (inc li) li k k HINC.out (Nat.le_refl _)
                rw [bs_get _ _ (by rw [hfl]; exact hkl), List.getD_eq_getElem?_getD, h1, ← List.getD_eq_getElem?_getD]
              have hcb := hcell k _ hfk
              have hfz := hfro k hkl
              have hnew : (inc li).getD k 0 = li.getD k 0 + 1 := by
                simp [inc, List.getD_eq_getElem?_getD, hkl]
              have hs2 := HSET.out k hkl
              rw [hnew] at hs2
              have hup2 := hupd k (.int .u8 ((li.getD k 0 + 1).toNat : Int)) hkl
              rw [bs_set] at hup2
              have hby := byte_inc (li.getD k 0)
              generalize li.getD k 0 = y at *
              have HS2 := Lib.hid hs2; clear hs2 hnew hfk
              have HCELL := Lib.hid hcell; clear hcell hfro
              have HUP := Lib.hid hup2; clear hup2 hupd
              have HBY := Lib.hid hby; clear hby hfl
              go_wp2_with fail
              refine wp_region_still_tail 14 (by kernel_rfl) (by kernel_rfl) ?_
              simp only [List.take_succ_cons, List.take_zero, List.drop_succ_cons, List.drop_zero]
              repeat still_step
              refine wpStill_nil ?_
              go_wp2_with fail
              rw [HBY.out]
              have hfS : Fr (OwnB (.slice (some ⟨g', o', none⟩) li.length cx)) wr (wr.setCell ⟨g', o' + k, none⟩ (.int .u8 ((y + 1).toNat : Int))) := (Fr.refl _ wr).setCell g' (o' + k) none _ (fun _ => rfl)
              have hA2 := (hA.upd HSEP.out hvx (l := fill (inc li) li k) (by rw [fill_length _ _ _ HINC.out]; exact hox) hfS (l' := (fill (inc li) li k).set k (y + 1)) (by rw [List.length_set, fill_length _ _ _ HINC.out]; exact HUP.out)).still ((Fr.refl Nob _).drew)
              rw [HS2.out] at hA2
              have hws2 := (hws.keep hfS (fun b hb hb' => hws.ne2 hox (by decide) b hb hb')).still ((Fr.refl Nob _).drew)
              clear hA hws hox hfS hcb hfz hc hvx
              generalize (wr.setCell ⟨g', o' + k, none⟩ (.int .u8 ((y + 1).toNat : Int))).drew = w9 at *
              go_roundw
              case rel => exact ⟨k + 1, by omega, by go_num, hA2, hws2⟩
              case measure => simp [intOf]; omega
            · have hklI : ¬ (k : Int) < (li.length : Int) := by omega
              obtain rfl : k = li.length := by omega
              rw [HNEXT.out] at hA
              go_wp2_with fail
              go_roundw
              case rel => exact ⟨i + 1, by omega, by go_num, hA, hws⟩
              case measure => simp [intOf]; omega
        · have hinI : ¬ (i : Int) < (j : Int) := by omega
          obtain rfl : i = j := by omega
          have hall := incd_all ls
          rw [HLN.out] at hall
          rw [hall] at hA
          clear hall
          obtain ⟨w4, hw4⟩ : ∃ w4, w4 = wr := ⟨_, rfl⟩
          subst hw4
          have hws4 := hws
          have hw04 := hA.f.size
          go_wp2_with fail
          go_loopw [8, 7, 9, 10] (fun z q g9 j9 wr => ∃ (k : Nat) (gs : List Value), k ≤ i ∧ z = .int .i64 (k : Int) ∧ Own wr w4.heap.size 26 1 q k gs ∧ POwn wr base gs (grw ls k) ∧ (∀ (s m : Nat) (g u : Value), s ≠ m → gs[s]? = some g → vs[m]? = some u → ∀ b, OwnB g b → ¬ OwnB u b) ∧ ApAt w base i (.slice a0 i c0) vs (ls.map inc) wr ∧ Own wr w.heap.size 9 1 u3 i (ss ls) ∧ w4.heap.size ≤ wr.heap.size) (fun z _ _ _ _ => (i - intOf z).toNat)
          case atStart => exact ⟨0, [], by omega, rfl, Own.nil _ _ _ _, trivial, by simp, hA, hws, Nat.le_refl _⟩
          case round =>
            clear hA hws hws4
            obtain ⟨k, gs, hk, rfl, hq, hpg, hcr, hA, hws, hsz4⟩ := hrel
            have HCR := Lib.hid hcr; clear hcr
            by_cases hlt4 : k < i
            · have hltI : (k : Int) < (i : Int) := by omega
              obtain ⟨g, o, cc, x, hv, hvx, hc, hox⟩ := hA.at hlt4
              simp only [Value.slice.injEq] at hv
              obtain ⟨rfl, -, rfl⟩ := hv
              have hl1 := HLN.out
              have hxl := HXG.out k hlt4
              have hmg : (ls.map inc).getD k [] = inc (ls.getD k []) := by simp [List.getD_eq_getElem?_getD, show k < ls.length by omega]
              rw [hmg, inc_len] at hox
              have hmk : (ls.map inc)[k]? = some (inc (ls.getD k [])) := by simp [List.getD_eq_getElem?_getD, show k < ls.length by omega]
              have hgs := grw_succ ls k
              generalize ls.getD k [] = li at *
              have HGS := Lib.hid hgs; clear hgs hmg hl1
              have HMK := Lib.hid hmk; clear hmk
              obtain ⟨wi, hwi⟩ : ∃ wi, wi = wr := ⟨_, rfl⟩
              subst hwi
              have hgstart : Grows wi x x li.length 0 := by
                rcases hox.2 with ⟨h1, h2⟩ | ⟨g', o', cap', B, h1, -⟩
                · exact Grows.start wi x none _ _ (by rw [h1, h2]) (by simp)
                · exact Grows.start wi x (some ⟨g', o', none⟩) _ _ h1 (fun y hy => by cases hy; rfl)
              have hxi : ∀ b, OwnB x b → b < wi.heap.size := fun b hb => (hox.lt hb).2
              have HXI := Lib.hid hxi; clear hxi
              have hbz := hA.f.size
              go_wp2_with fail
              go_loopw [10, 9] (fun z gv wr => ∃ j : Nat, j ≤ 80 ∧ z = .int .i64 (j : Int) ∧ Own wr base 5 1 gv (li.length + j) (bs (inc li ++ (tl k).take j)) ∧ Grows wi x gv li.length j ∧ Own wr base 5 1 x li.length (bs (inc li)) ∧ Fr (OwnB x) wi wr) (fun z _ _ => (80 - intOf z).toNat)
              case atStart => exact ⟨0, by omega, rfl, by rw [List.take_zero, List.append_nil]; exact hox, hgstart, hox, Fr.refl _ _⟩
              case round =>
                clear hgstart
                obtain ⟨j, hj80, rfl, hog, hgr, hoxr, hfx⟩ := hrel
                by_cases hj : j < 80
                · have hjI : (j : Int) < 80 := by omega
                  have htk := tl_take k j hj
                  have HTK := Lib.hid htk; clear htk
                  go_wp2_with (with_reducible refine wl_stop (o := ⟨some 79, _, _, _, _, _⟩) ?_)
                  unfold Stop
                  refine wl_one rfl rfl Tryd.underlying26 info_u8c (UInt8.ofNat ((k * 37 + j) % 253) ^^^ 90) ?hy ?_
                  case hy =>
                    simp [Act.eval]
                    exact tl_val k j
                  intro w5 hh5 hf5 hz5
                  clear hz5
                  have hog5 := hog.still hf5
                  have hox5 := hoxr.still hf5
                  have hfx5 := hfx.same hf5
                  have hsz5 := hf5.size
                  have hb5 : base ≤ w5.heap.size := Nat.le_trans (Nat.le_trans hbase hbz) (hfx5.size)
                  clear hog hoxr hfx hf5
                  generalize UInt8.ofNat ((k * 37 + j) % 253) ^^^ 90 = yb at *
                  go_wp2_with (with_reducible refine wl_stop (o := ⟨some 80, _, _, _, _, _⟩) ?_)
                  unfold Stop
                  refine wl_append_k rfl rfl Tryd.underlying26 info_u8c rfl (by decide) hog5 rfl rfl (Rd.whole hh5) (bs_one _) (by unfold maxLen; omega) (by omega) hb5 ?_
                  intro v6 w6 hog6 hf6 _ hcase6
                  have hog7 : Own w6 base 5 1 v6 (li.length + (j + 1)) (bs (inc li ++ (tl k).take (j + 1))) := by
                    rw [HTK.out, ← List.append_assoc, bs_append]; exact hog6
                  obtain ⟨hgr7, hox7, hfx7⟩ := hgr.step hox5 HXI.out hfx5 (M := (tl k).take (j + 1)) hog7 hf6 hcase6
                  clear hog5 hox5 hfx5 hog6 hf6 hcase6 hgr hh5
                  go_wp2_with fail
                  go_roundw
                  case rel => exact ⟨j + 1, by omega, by go_num, hog7, hgr7, hox7, hfx7⟩
                  case measure => simp [intOf]; omega
                · have hjI : ¬ (j : Int) < 80 := by omega
                  obtain rfl : j = 80 := by omega
                  rw [List.take_of_length_le (by rw [tl_len]; exact Nat.le_refl _)] at hog
                  have hAx : ApAt w base i (.slice (some ⟨g, o, none⟩) i c0) vs (ls.map inc) wr := by
                    have h1 := hA.upd HSEP.out hvx (l := inc li) (by rw [inc_len]; exact hox) hfx (l' := inc li) (by rw [inc_len]; exact hoxr)
                    have e : (ls.map inc).set k (inc li) = ls.map inc := by
                      obtain ⟨h3, h4⟩ := List.getElem?_eq_some_iff.1 HMK.out
                      rw [← h4, List.set_getElem_self]
                    rw [e] at h1; exact h1
                  have hgl : gs.length = k := by have := hq.1; omega
                  have hq1 := hq.keep hfx (fun b hb hb' => hq.ne2 hox (by decide) b hb hb')
                  have hws1 := hws.keep hfx (fun b hb hb' => hws.ne2 hox (by decide) b hb hb')
                  have hpg1 : POwn wr base gs (grw ls k) := POwn.keepAt hfx hpg (fun s g2 hg2 b hb hb' => HCR.out s k g2 x (by
                    have : s < gs.length := by
                      rcases Nat.lt_or_ge s gs.length with h | h
                      · exact h
                      · rw [List.getElem?_eq_none h] at hg2; cases hg2
                    omega) hg2 hvx b hb hb')
                  have hcr2 : ∀ (s m : Nat) (g2 u : Value), s ≠ m → (gs ++ [u9])[s]? = some g2 → vs[m]? = some u → ∀ b, OwnB g2 b → ¬ OwnB u b := by
                    intro s m g2 u hsm hg2 hu b hb hb'
                    rcases Nat.lt_or_ge s gs.length with h | h
                    · rw [List.getElem?_append_left h] at hg2
                      exact HCR.out s m g2 u hsm hg2 hu b hb hb'
                    · rw [List.getElem?_append_right h] at hg2
                      have h0 : s = k := by
                        rcases Nat.eq_or_lt_of_le h with h | h
                        · omega
                        · rw [List.getElem?_eq_none (by rw [List.length_singleton]; omega)] at hg2; cases hg2
                      subst h0
                      rw [hgl, Nat.sub_self] at hg2
                      simp only [List.getElem?_cons_zero, Option.some.injEq] at hg2
                      subst hg2
                      rcases hgr.blk b hb with h2 | h2
                      · exact HSEP.out.ne hvx hu hsm b h2 hb'
                      · obtain ⟨l3, _, ho3⟩ := hA.p.get m u hu
                        have := (ho3.lt hb').2
                        omega
                  have HCR2 := Lib.hid hcr2; clear hcr2
                  have hsz6 := hfx.size
                  obtain ⟨ag, cg, rfl, -⟩ := id hog.form
                  clear hq hws hpg hA hfx hox hoxr hgr hc hvx
                  go_wp2_with (with_reducible refine wl_stop (o := ⟨some 83, _, _, _, _, _⟩) ?_)
                  unfold Stop
                  refine wl_slit rfl rfl Tryd.underlying24 info_sl [.slice ag (li.length + 80) cg] rfl (by simp; rfl) rfl rfl ?_
                  intro w8 hh8 hf8 hz8
                  clear hz8
                  have hq8 := hq1.still hf8
                  have hws8 := hws1.still hf8
                  have hpg8 := hpg1.still hf8
                  have hA8 := hAx.still hf8
                  have hog8 := hog.still hf8
                  have hsz8 := hf8.size
                  clear hq1 hws1 hpg1 hAx hog hf8
                  go_wp2_with (with_reducible refine wl_stop (o := ⟨some 84, _, _, _, _, _⟩) ?_)
                  unfold Stop
                  refine wl_append rfl rfl Tryd.underlying24 info_sl rfl (by decide) hq8 rfl rfl (Rd.whole hh8) (fun u hu => by simp only [List.mem_singleton] at hu; subst hu; rfl) (by unfold maxLen; omega) (by omega) (by omega) ?_
                  intro v9 w9 hq9 hf9 hb9
                  clear hb9
                  have hws9 := hws8.keep hf9 (fun b hb hb' => hws8.ne2 hq8 (by decide) b hb hb')
                  have hog9 := hog8.keep hf9 (fun b hb hb' => hog8.ne2 hq8 (by decide) b hb hb')
                  have hpg9 : POwn w9 base (gs ++ [.slice ag (li.length + 80) cg]) (grw ls (k + 1)) := by
                    rw [HGS.out]
                    refine (hpg8.app hq8 (by decide) hf9).snoc ?_
                    rw [List.length_append, inc_len, tl_len]; exact hog9
                  have hsz9 := hf9.size
                  have hA9 : ApAt w base i (.slice (some ⟨g, o, none⟩) i c0) vs (ls.map inc) w9 := by
                    refine ⟨hA8.l.keep hf9 (fun b hb hb' => ?_), hA8.p.app hq8 (by decide) hf9, hA8.f.trans hf9 (fun b _ hb => ?_)⟩
                    · have h1 := HLB.out b hb
                      have h2 := (hq8.lt hb').1
                      omega
                    · have h2 := (hq8.lt hb).1
                      show base ≤ b
                      omega
                  clear hq8 hws8 hpg8 hA8 hog8 hf9 hh8 hog9
                  go_wp2_with fail
                  go_roundw
                  case rel => exact ⟨k + 1, _, by omega, by go_num, hq9, hpg9, HCR2.out, hA9, hws9, by omega⟩
                  case measure => simp [intOf]; omega
            · have hltI : ¬ (k : Int) < (i : Int) := by omega
              obtain rfl : k = i := by omega
              obtain ⟨w5, hw5⟩ : ∃ w5, w5 = wr := ⟨_, rfl⟩
              subst hw5
              obtain ⟨aq, cq, rfl, hcq, hrq, -⟩ := id hq.form
              rw [Nat.mul_one] at hrq
              go_wp2_with fail
              go_loopw [11, 12, 13] (fun z _ _ wr => ∃ m : Nat, m ≤ k ∧ z = .int .i64 (m : Int) ∧ Fr Nob w5 wr) (fun z _ _ _ => (k - intOf z).toNat)
              case atStart => exact ⟨0, by omega, rfl, Fr.refl _ _⟩
              case round =>
                obtain ⟨m, hm, rfl, hfw⟩ := hrel
                by_cases hmk : m < k
                · have hmI : (m : Int) < (k : Int) := by omega
                  have hl1 := HLN.out
                  have hxl := HXG.out m hmk
                  obtain ⟨g, o, cc, x, hv, hvx, hc, hox⟩ := hA.at hmk
                  simp only [Value.slice.injEq] at hv
                  obtain ⟨rfl, -, rfl⟩ := hv
                  have hmg : (ls.map inc).getD m [] = inc (ls.getD m []) := by simp [List.getD_eq_getElem?_getD, show m < ls.length by omega]
                  rw [hmg, inc_len] at hox
                  obtain ⟨bq, oq, rfl, hatq⟩ := hrq.at (by omega)
                  have hgl : gs.length = k := hrq.len
                  obtain ⟨lg, hg1, hg2⟩ := hpg.get m gs[m] (List.getElem?_eq_getElem (by omega))
                  have hcq2 := hatq m _ (List.getElem?_eq_getElem (show m < gs.length by omega))
                  have hlg : lg = inc (ls.getD m []) ++ tl m := by
                    have h1 := grw_get ls k m hmk
                    rw [List.getD_eq_getElem?_getD, hg1] at h1
                    exact h1
                  subst hlg
                  generalize gs[m] = gv at *
                  rw [List.length_append, inc_len, tl_len] at hg2
                  obtain ⟨aw, cw, rfl, _, hrw, -⟩ := id hws.form
                  rw [Nat.mul_one] at hrw
                  obtain ⟨bw, ow, rfl, hatw⟩ := hrw.at (by omega)
                  have hcw := hatw m _ (ss_get ls m (by omega))
                  generalize ls.getD m [] = li at *
                  obtain ⟨ag, cg, rfl, -, hrg, -⟩ := id hg2.form
                  rw [Nat.mul_one] at hrg
                  obtain ⟨bg, og, rfl, hatg⟩ := hrg.at (by omega)
                  obtain ⟨ax, cx, rfl, -, hrx, -⟩ := id hox.form
                  rw [Nat.mul_one] at hrx
                  have hqs : (mkS li).size = li.length := mkS_size li
                  have hqd : (mkS li).data.toList = li := mkS_toList li
                  generalize mkS li = qs at *
                  have HQD := Lib.hid hqd; clear hqd
                  have HQS := Lib.hid hqs; clear hqs
                  have hzz : (qs.size : Int) = (li.length : Int) := by rw [HQS.out]
                  have HX := Lib.hid hrx
                  have HG := Lib.hid hatg
                  have HA := Lib.hid hA
                  have HREST := Lib.hid (And.intro hws (And.intro hpg (And.intro hq hrq)))
                  clear hrx hatg hatq hatw hrw hrg hg2 hox hvx hg1 hgl hmg hA hws hpg hq hrq hl1
                  have hc1 := hfw.cell id hc
                  have hq1 := hfw.cell id hcq2
                  have hw1' := hfw.cell id hcw
                  have hwrap : IntKind.i64.wrap ((li.length : Int) + 80) = (li.length : Int) + 80 := IntWalk.i64_in _ (by omega)
                  go_wp2_with fail
                  go_quiet (fail)
                  have hf6 := hfw.drewN nq
                  clear hc1 hq1 hw1' hfw
                  generalize wr.drewN nq = w6 at *
                  go_wp2_with fail
                  go_loopw [12] (fun z wr => ∃ j : Nat, j ≤ li.length ∧ z = .int .i64 (j : Int) ∧ Fr Nob w5 wr) (fun z _ => (li.length - intOf z).toNat)
                  case atStart => exact ⟨0, by omega, rfl, hf6⟩
                  case round =>
                    clear hf6
                    obtain ⟨j, hj, rfl, hfw⟩ := hrel
                    have hc1 := hfw.cell id hc
                    have hq1 := hfw.cell id hcq2
                    have hw1' := hfw.cell id hcw
                    by_cases hjl : j < li.length
                    · have hjI : (j : Int) < (li.length : Int) := by omega
                      obtain ⟨bx, ox, rfl, hatx⟩ := HX.out.at (by omega)
                      have hby := byte_inc (li.getD j 0)
                      have hnew : (inc li).getD j 0 = li.getD j 0 + 1 := by simp [inc, List.getD_eq_getElem?_getD, hjl]
                      have hcx := hfw.cell id (hatx j _ (bs_get (inc li) j (by rw [inc_len]; exact hjl)))
                      have hcg := hfw.cell id (HG.out j _ (bs_get (inc li ++ tl m) j (by rw [List.length_append, inc_len]; omega)))
                      have hgj : (inc li ++ tl m).getD j 0 = (inc li).getD j 0 := by
                        rw [List.getD_eq_getElem?_getD, List.getElem?_append_left (by rw [inc_len]; exact hjl), ← List.getD_eq_getElem?_getD]
                      rw [hgj] at hcg
                      rw [hnew, ← hby] at hcx hcg
                      have eidx := run_byte (P := Tryd.prog) Tryd.underlying9 qs j (by rw [HQS.out]; exact hjl) (li.getD j 0) (by rw [HQD.out])
                      have hjg : (j : Int) < (li.length : Int) + 80 := by omega
                      clear hatx hby hnew hgj
                      generalize li.getD j 0 = y at *
                      go_wp2_with fail
                      go_quiet (fail)
                      have hf7 := hfw.drewN nq
                      clear hc1 hq1 hw1' hfw hcx hcg eidx
                      generalize wr.drewN nq = w7 at *
                      go_wp2_with fail
                      go_roundw
                      case rel => exact ⟨j + 1, by omega, by go_num, hf7⟩
                      case measure => simp [intOf]; omega
                    · have hjI : ¬ (j : Int) < (li.length : Int) := by omega
                      obtain ⟨w8, hw8⟩ : ∃ w8, w8 = wr := ⟨_, rfl⟩
                      subst hw8
                      clear hc1 hq1
                      go_wp2_with fail
                      clear hw1'
                      go_loopw [13] (fun z wr => ∃ j : Nat, j ≤ 80 ∧ z = .int .i64 (j : Int) ∧ Fr Nob w5 wr) (fun z _ => (80 - intOf z).toNat)
                      case atStart => exact ⟨0, by omega, rfl, hfw⟩
                      case round =>
                        clear hfw
                        obtain ⟨j, hj, rfl, hfw⟩ := hrel
                        by_cases hj80 : j < 80
                        · have hjI : (j : Int) < 80 := by omega
                          have hq1 := hfw.cell id hcq2
                          have hw1' := hfw.cell id hcw
                          have hcg := hfw.cell id (HG.out (li.length + j) _ (bs_get (inc li ++ tl m) (li.length + j) (by rw [List.length_append, inc_len, tl_len]; omega)))
                          have hgj : (inc li ++ tl m).getD (li.length + j) 0 = UInt8.ofNat ((m * 37 + j) % 253) ^^^ 90 := by
                            rw [List.getD_eq_getElem?_getD, List.getElem?_append_right (by rw [inc_len]; omega), inc_len, Nat.add_sub_cancel_left, ← List.getD_eq_getElem?_getD]
                            exact tl_get m j hj80
                          have hval : (((UInt8.ofNat ((m * 37 + j) % 253) ^^^ 90).toNat : Nat) : Int) = bits BinOp.xor IntKind.u8 (((m : Int) * 37 + (j : Int)) % 253) 90 := by
                            rw [tl_val]; simp
                          rw [hgj, hval] at hcg
                          have hw2 : IntKind.i64.wrap ((li.length : Int) + (j : Int)) = ((li.length + j : Nat) : Int) := by rw [IntWalk.i64_in _ (by omega)]; omega
                          have hw3 : IntKind.i64.wrap ((m : Int) * 37) = (m : Int) * 37 := IntWalk.i64_in _ (by omega)
                          have hw4' : IntKind.i64.wrap ((m : Int) * 37 + (j : Int)) = (m : Int) * 37 + (j : Int) := IntWalk.i64_in _ (by omega)
                          have hlt9 : (li.length : Int) + (j : Int) < (li.length : Int) + 80 := by omega
                          have ht9 : ((li.length : Int) + (j : Int)).toNat = li.length + j := by omega
                          have hp9 : (0 : Int) ≤ (li.length : Int) + (j : Int) := by omega
                          clear hval hgj
                          go_wp2_with fail
                          go_quiet (fail)
                          have hf7 := hfw.drewN nq
                          clear hq1 hw1' hfw hcg hw2 hw3 hw4' hlt9 ht9 hp9
                          generalize wr.drewN nq = w7 at *
                          go_wp2_with fail
                          go_roundw
                          case rel => exact ⟨j + 1, by omega, by go_num, hf7⟩
                          case measure => simp [intOf]; omega
                        · have hjI : ¬ (j : Int) < 80 := by omega
                          go_wp2_with fail
                          go_roundw
                          case rel => exact ⟨m + 1, by omega, by go_num, hfw⟩
                          case measure => simp [intOf]; omega
                · have hmI : ¬ (m : Int) < (k : Int) := by omega
                  have hfin := hA.f.same hfw
                  clear hA hws hpg hq hrq HCR
                  go_wp2_with fail
                  go_ret
                  exact ⟨rfl, hfin⟩
end Go.Proofs.YtgkakddldobpkaaDoor

/- mintvaultlaw8.same; Path and Growth of anything. -/
namespace Go.Proofs.YtgkakddldobpkaaDoor
open Go.RowKit Go.Mv Mvp Mvt
attribute [local irreducible] permS permP toB turnsK squeeze permN permB spongeB feed frameL framesL tagL leafL nodeL

set_option maxHeartbeats 1000000 in
set_option maxRecDepth 1000000 in
theorem same_any (a : Option Addr) (ca : Nat) (la : List (List UInt8)) (b : Option Addr) (cb : Nat) (lb : List (List UInt8)) (w : World) (hm : la.length ≤ 100000) (hma : la.length = lb.length) (hb : PartsAt w a la) (hbb : Rd w b lb.length (ss lb)) (heq : la = lb) :
    Calls Tryd.prog 11 #[.slice a la.length ca, .slice b lb.length cb] w fun e w' => e = .returned (.bool true) ∧ Fr Nob w w' := by
  subst heq
  clear hma
  go_enter Tryd.func11, Tryd.ntmps11
  go_wp2_with fail
  go_loopw [5] (fun i wr => ∃ j : Nat, j ≤ la.length ∧ i = .int .i64 (j : Int) ∧ Fr Nob w wr) (fun i _ => (la.length - intOf i).toNat)
  case atStart => exact ⟨0, by omega, rfl, Fr.refl _ _⟩
  case round =>
    obtain ⟨j, hj, rfl, hfr⟩ := hrel
    by_cases hlt : j < la.length
    · have hltI : (j : Int) < (la.length : Int) := by omega
      obtain ⟨ba, oa, v, rfl, hca, hpa⟩ := hb.getF hfr hlt
      obtain ⟨bb, ob, rfl, hat⟩ := hbb.at (by omega)
      have hcb := hfr.cell id (hat j _ (ss_get la j hlt))
      generalize la.getD j [] = l at *
      obtain ⟨ap, np, cp, rfl, -, -, hrp, -⟩ := hpa
      have e1 := fun nq => run_string (P := Tryd.prog) (RdB.still (hrp.still hfr) ((Fr.refl Nob wr).drewN nq)) cp Tryd.underlying26 Tryd.underlying5 Tryd.underlying9
      clear hat hrp
      generalize mkS l = q at *
      go_wp2_with fail
      go_quiet (fail)
      have hf7 := hfr.drewN nq
      clear hfr e1 hca hcb
      generalize wr.drewN nq = w7 at *
      go_wp2_with fail
      go_roundw
      case rel => exact ⟨j + 1, by omega, by go_num, hf7⟩
      case measure => simp [intOf]; omega
    · have hge : ¬ (j : Int) < (la.length : Int) := by omega
      go_wp2_with fail
      go_ret
      exact ⟨rfl, hfr⟩

/-- Path of any place -/
def pathX (ls : List (List UInt8)) (i : Int) : List (List UInt8) := if 0 ≤ i ∧ i < (ls.length : Int) then pathL ls i.toNat else []
def codeX (b : Bool) : Nat := if b then 0 else 7
theorem TPath_all (a : Option Addr) (c : Nat) (ls : List (List UInt8)) (i : Int) (w : World) (hm : ls.length ≤ 1024) (hb : PartsAt w a ls) :
    Calls Tryd.prog 9 #[.slice a ls.length c, .int .i64 i] w fun e w' => ∃ v, e = .returned (.tuple #[v, .int .i64 (codeX (decide (0 ≤ i ∧ i < (ls.length : Int))) : Nat)]) ∧ SOwn w' w.heap.size v (pathX ls i) ∧ Fr Nob w w' := by
  by_cases h : 0 ≤ i ∧ i < (ls.length : Int)
  · obtain ⟨n, rfl⟩ : ∃ n : Nat, i = n := ⟨i.toNat, by omega⟩
    have e1 : pathX ls n = pathL ls n := by unfold pathX; rw [if_pos h]; rfl
    rw [e1, decide_eq_true h]
    exact TPath_any a c ls n w hm (by omega) hb
  · have e1 : pathX ls i = [] := by unfold pathX; rw [if_neg h]
    rw [e1, decide_eq_false h]
    refine (TPath_range a ls.length c i w hm (by omega)).mono ?_
    rintro e w' ⟨rfl, rfl⟩
    exact ⟨_, rfl, SOwn.nil _ _, Fr.refl _ _⟩
def growX (ls : List (List UInt8)) (m : Int) : List (List UInt8) := if 1 ≤ m ∧ m ≤ (ls.length : Int) then growR ls m.toNat true else []
theorem TGrowth_all2 (a : Option Addr) (c : Nat) (ls : List (List UInt8)) (m : Int) (w : World) (hm : ls.length ≤ 1024) (hb : PartsAt w a ls) (hT : TabAt 0 Lib.deBruijn64tab w) :
    Calls Tryd.prog 10 #[.slice a ls.length c, .int .i64 m] w fun e w' => ∃ v, e = .returned (.tuple #[v, .int .i64 (codeX (decide (1 ≤ m ∧ m ≤ (ls.length : Int))) : Nat)]) ∧ SOwn w' w.heap.size v (growX ls m) ∧ Fr Nob w w' := by
  by_cases h : 1 ≤ m ∧ m ≤ (ls.length : Int)
  · obtain ⟨n, rfl⟩ : ∃ n : Nat, m = n := ⟨m.toNat, by omega⟩
    have e1 : growX ls n = growR ls n true := by unfold growX; rw [if_pos h]; rfl
    rw [e1, decide_eq_true h]
    by_cases he : n = ls.length
    · subst he
      rw [growR_eq ls true (by omega)]
      refine (TGrowth_all a ls.length c w hm (by omega)).mono ?_
      rintro e w' ⟨rfl, rfl⟩
      exact ⟨_, rfl, SOwn.nil _ _, Fr.refl _ _⟩
    · exact TGrowth_any a c ls n w hm (by omega) (by omega) hb hT
  · have e1 : growX ls m = [] := by unfold growX; rw [if_neg h]
    rw [e1, decide_eq_false h]
    refine (TGrowth_range a ls.length c m w hm (by omega)).mono ?_
    rintro e w' ⟨rfl, rfl⟩
    exact ⟨_, rfl, SOwn.nil _ _, Fr.refl _ _⟩
theorem pathX_32 (ls : List (List UInt8)) (i : Int) : ∀ x ∈ pathX ls i, x.length = 32 := by
  intro x hx
  unfold pathX at hx
  split at hx
  · exact pathL_32 ls i.toNat (by omega) x hx
  · simp at hx
theorem growX_32 (ls : List (List UInt8)) (m : Int) (hb : ls.length ≤ 1024) : ∀ x ∈ growX ls m, x.length = 32 := by
  intro x hx
  unfold growX at hx
  split at hx
  · by_cases he : m.toNat = ls.length
    · rw [he, growR_eq ls true (by omega)] at hx
      simp at hx
    · exact growL_32 ls m.toNat (by omega) (by omega) hb x hx
  · simp at hx
theorem pathX_len (ls : List (List UInt8)) (i : Int) : (pathX ls i).length ≤ ls.length := by
  unfold pathX; split
  · exact pathL_len ls _
  · simp
theorem growX_len (ls : List (List UInt8)) (m : Int) : (growX ls m).length ≤ ls.length + 1 := by
  unfold growX; split
  · exact growR_len ls _ true
  · simp
end Go.Proofs.YtgkakddldobpkaaDoor

/- The reference's Growth. -/
namespace Go.Proofs.YtgkakddldobpkaaDoor
open Go.RowKit Go.Mv Mvp Mvt
attribute [local irreducible] permS permP toB turnsK squeeze permN permB spongeB feed frameL framesL tagL leafL nodeL

set_option maxHeartbeats 2000000 in
set_option maxRecDepth 1000000 in
theorem GrowthR_any : ∀ (N : Nat) (ls : List (List UInt8)) (n m : Nat) (wt : Bool) (a : Option Addr) (c : Nat) (w : World), n ≤ N → ls.length = n → 1 ≤ m → m ≤ n → n ≤ 1100 → n ≤ c → (∀ x ∈ ls, x.length ≤ 90000) → Rd w a n (ss ls) →
    Calls Tryd.prog 14 #[.slice a n c, .int .i64 (m : Int), .bool wt] w (Strs (growR ls m wt) w) := by
  intro N
  induction N with
  | zero => intro ls n m wt a c w hN hl h1; omega
  | succ N ih =>
    intro ls n m wt a c w hN hl h1m hmn hm hc hx hb
    by_cases h0 : n ≤ N
    · exact ih ls n m wt a c w h0 hl h1m hmn hm hc hx hb
    obtain rfl : n = N + 1 := by omega
    by_cases he : m = N + 1
    · subst he
      have hge := growR_eq ls wt (by omega)
      rw [hl] at hge
      have HR := Lib.hid (RootR_any (N + 1) ls (N + 1) a c w (Nat.le_refl _) hl hm hc hx hb)
      rw [hge]
      have hsz : w.heap.size ≤ w.heap.size := Nat.le_refl _
      clear ih hb hx h0 hge
      cases wt
      · go_enter Tryd.func14, Tryd.ntmps14
        go_wp2_with fail
        refine HR.out.mono ?_
        rintro e w1 ⟨rfl, hf1⟩
        go_wp2_with (with_reducible refine wl_stop (o := ⟨some 17, _, _, _, _, _⟩) ?_)
        unfold Stop
        refine wl_slit rfl rfl Tryd.underlying22 info_str [.string (mkS (rootL ls))] rfl (by simp; rfl) rfl rfl ?_
        intro w2 hh2 hf2 hz2
        clear hz2
        have hown := Own.made hh2 w.heap.size hf1.size 1 1 1 (Nat.le_refl _) (by decide) (by simp)
        have hfr := hf1.then hf2
        generalize w1.heap.size = g1 at *
        go_wp2_with fail
        go_ret
        exact ⟨_, rfl, hown, hfr⟩
      · clear HR
        go_enter Tryd.func14, Tryd.ntmps14
        go_wp2_with fail
        go_ret
        exact ⟨_, rfl, Own.nil _ _ _ _, Fr.refl _ _⟩
    · have hlt0 := growR_le ls m wt (by omega) (by omega)
      have hge0 := growR_gt ls m wt (by omega) (by omega)
      rw [hl] at hlt0 hge0
      have hk1 := half_le (N + 1) (by omega)
      have hk2 := half_pos (N + 1)
      have HH := Lib.hid (halfR_any (N + 1) w (by omega) (by omega))
      generalize half (N + 1) = k at *
      have q1 : ((m : Int) == ((N + 1 : Nat) : Int)) = false := by simp; omega
      have q3 : (m == (N + 1 : Nat)) = false := by simp; omega
      have e1 := fun wx => run_slice_hi (P := Tryd.prog) wx Tryd.underlying22 size_str a (N + 1) c .i64 k (by omega)
      have e2 := fun wx => run_slice_lo (P := Tryd.prog) wx Tryd.underlying22 size_str a (N + 1) c .i64 k (by omega)
      have htl : (ls.take k).length = k := by rw [List.length_take]; omega
      have hdl : (ls.drop k).length = N + 1 - k := by rw [List.length_drop]; omega
      have hA : ∀ w', Fr Nob w w' → Calls Tryd.prog 12 #[.slice a k c] w' (Str (rootL (ls.take k)) w') := fun w' hf => RootR_any k (ls.take k) k a c w' (Nat.le_refl _) htl (by omega) (by omega) (fun x hm' => hx x (List.mem_of_mem_take hm')) ((rd_take hb k c (by omega) hc).still hf)
      have hB : ∀ w', Fr Nob w w' → Calls Tryd.prog 12 #[.slice (cutAt a k c) (N + 1 - k) (c - k)] w' (Str (rootL (ls.drop k)) w') := fun w' hf => RootR_any (N + 1 - k) (ls.drop k) (N + 1 - k) (cutAt a k c) (c - k) w' (Nat.le_refl _) hdl (by omega) (by omega) (fun x hm' => hx x (List.mem_of_mem_drop hm')) ((rd_drop hb k c (by omega) hc).still hf)
      have hPA : m ≤ k → ∀ w', Fr Nob w w' → Calls Tryd.prog 14 #[.slice a k c, .int .i64 (m : Int), .bool wt] w' (Strs (growR (ls.take k) m wt) w') := fun hik w' hf => ih (ls.take k) k m wt a c w' (by omega) htl (by omega) hik (by omega) (by omega) (fun x hm' => hx x (List.mem_of_mem_take hm')) ((rd_take hb k c (by omega) hc).still hf)
      have hPB : ¬ m ≤ k → ∀ w', Fr Nob w w' → Calls Tryd.prog 14 #[.slice (cutAt a k c) (N + 1 - k) (c - k), .int .i64 ((m - k : Nat) : Int), .bool false] w' (Strs (growR (ls.drop k) (m - k) false) w') := fun hik w' hf => ih (ls.drop k) (N + 1 - k) (m - k) false (cutAt a k c) (c - k) w' (by omega) hdl (by omega) (by omega) (by omega) (by omega) (fun x hm' => hx x (List.mem_of_mem_drop hm')) ((rd_drop hb k c (by omega) hc).still hf)
      have hlA := growR_len (ls.take k) m wt
      have hlB := growR_len (ls.drop k) (m - k) false
      rw [htl] at hlA
      rw [hdl] at hlB
      generalize rootL (ls.take k) = ra at *
      generalize rootL (ls.drop k) = rb at *
      generalize growR (ls.take k) m wt = pa at *
      generalize growR (ls.drop k) (m - k) false = pb at *
      generalize growR ls m wt = pp at *
      have HA := Lib.hid hA
      have HB := Lib.hid hB
      have HLT := Lib.hid hlt0
      have HGE := Lib.hid hge0
      have HPA := Lib.hid hPA
      have HPB := Lib.hid hPB
      clear ih hb hx hA hB hPA hPB hl h0 he hlt0 hge0 htl hdl
      go_enter Tryd.func14, Tryd.ntmps14
      go_wp2_with fail
      refine HH.out.mono ?_
      rintro e w1 ⟨rfl, rfl⟩
      have hdr := (Fr.refl Nob w).drew
      have hsz : w.heap.size ≤ w.heap.size := Nat.le_refl _
      by_cases hik : m ≤ k
      · have hikI : (m : Int) ≤ (k : Int) := by omega
        have hP := HPA.out hik
        have HP := Lib.hid hP; clear hP HPA HPB HGE
        have hpp := HLT.out hik
        subst hpp
        clear HLT
        go_wp2_with fail
        go_region_held3 (fun w' => Fr Nob w w')
          (first | (exact hdr) | (exact hfz) | (exact Fr.then (by assumption) hfr9) | (exact Fr.then (by assumption) hfp9) | (exact Fr.alloc (by assumption) _))
          (first | (go_at_call_of 14 (Value.slice a k c); refine (HP.out _ (by assumption)).mono ?_; rintro e wp ⟨vp, rfl, hownp, hfp9⟩)
                 | (go_at_call_of 12 (Value.slice (cutAt a k c) (N + 1 - k) (c - k)); refine (HB.out _ (by assumption)).mono ?_; rintro e wr9 ⟨rfl, hfr9⟩)
                 | (refine step_append rfl rfl Tryd.underlying22 info_str rfl (by decide) ((hownp.still hfr9).still ((Fr.refl Nob _).alloc _)) rfl rfl (Rd.whole (Has.new _ _ _)) (fun u hu => by simp only [List.mem_singleton] at hu; subst hu; rfl) (by unfold maxLen; omega) (by omega) (Fr.size (S := Nob) (w := w) (by assumption)) ?_; intro v9 w9 hown9 hf9; have hfz := ((hownp.still hfr9).still ((Fr.refl Nob _).alloc _)).fr (S := Nob) (w0 := w) (by assumption) (Nat.le_refl _) hf9))
        all_goals
          go_wp2_with fail
          go_ret
          refine ⟨_, rfl, ?_, by assumption⟩
          rw [ss_append2, List.length_append]
          exact hown9
      · have hikI : ¬ (m : Int) ≤ (k : Int) := by omega
        have hP := HPB.out hik
        have e4 : IntKind.i64.wrap ((m : Int) - (k : Int)) = ((m - k : Nat) : Int) := by rw [IntWalk.i64_in _ (by omega)]; omega
        generalize m - k = d at *
        have HP := Lib.hid hP; clear hP HPA HPB HLT
        have hpp := HGE.out hik
        subst hpp
        clear HGE
        go_wp2_with fail
        go_region_held3 (fun w' => Fr Nob w w')
          (first | (exact hdr) | (exact hfz) | (exact Fr.then (by assumption) hfr9) | (exact Fr.then (by assumption) hfp9) | (exact Fr.alloc (by assumption) _))
          (first | (go_at_call_of 14 (Value.slice (cutAt a k c) (N + 1 - k) (c - k)); refine (HP.out _ (by assumption)).mono ?_; rintro e wp ⟨vp, rfl, hownp, hfp9⟩)
                 | (go_at_call_of 12 (Value.slice a k c); refine (HA.out _ (by assumption)).mono ?_; rintro e wr9 ⟨rfl, hfr9⟩)
                 | (refine step_append rfl rfl Tryd.underlying22 info_str rfl (by decide) ((hownp.still hfr9).still ((Fr.refl Nob _).alloc _)) rfl rfl (Rd.whole (Has.new _ _ _)) (fun u hu => by simp only [List.mem_singleton] at hu; subst hu; rfl) (by unfold maxLen; omega) (by omega) (Fr.size (S := Nob) (w := w) (by assumption)) ?_; intro v9 w9 hown9 hf9; have hfz := ((hownp.still hfr9).still ((Fr.refl Nob _).alloc _)).fr (S := Nob) (w0 := w) (by assumption) (Nat.le_refl _) hf9))
        all_goals
          go_wp2_with fail
          go_ret
          refine ⟨_, rfl, ?_, by assumption⟩
          rw [ss_append2, List.length_append]
          exact hown9
end Go.Proofs.YtgkakddldobpkaaDoor

/- mintvaultlaw8.TreeRoots: the walk of the law. -/
namespace Go.Proofs.YtgkakddldobpkaaDoor
open Go.RowKit Go.Mv Mvp Mvt
attribute [local irreducible] permS permP toB turnsK squeeze permN permB spongeB feed frameL framesL tagL leafL nodeL

theorem Sep.append {w1 w2 : World} {base1 base2 : Nat} {va vb : List Value} {la lb : List (List UInt8)} (ha : Sep va) (hb : Sep vb) (pa : POwn w1 base1 va la) (pb : POwn w2 base2 vb lb) (h : w1.heap.size ≤ base2) : Sep (va ++ vb) := by
  unfold Sep at *
  rw [List.pairwise_append]
  refine ⟨ha, hb, fun a h1 b h2 k hk hk' => ?_⟩
  obtain ⟨l1, _, o1⟩ := pa.mem h1
  obtain ⟨l2, _, o2⟩ := pb.mem h2
  have := (o1.lt hk).2
  have := (o2.lt hk').1
  omega
theorem POwn.append {w : World} {base : Nat} : ∀ {va vb : List Value} {la lb : List (List UInt8)}, POwn w base va la → POwn w base vb lb → POwn w base (va ++ vb) (la ++ lb)
  | [], _, [], _, _, h => h
  | _ :: _, _, _ :: _, _, h1, h2 => ⟨h1.1, POwn.append h1.2 h2⟩
  | [], _, _ :: _, _, h, _ => h.elim
  | _ :: _, _, [], _, h, _ => h.elim

set_option maxHeartbeats 4000000 in
set_option maxRecDepth 1000000 in
theorem roots_yes (p : Option Addr) (c : Nat) (ls : List (List UInt8)) (i m : Int) (w : World) (hm : ls.length ≤ 1024) (hmc : ls.length ≤ c) (hb : Rd w p ls.length (ss ls)) (hx : ∀ x ∈ ls, x.length ≤ 70000) (hx2 : ∀ x ∈ ls, x.length ≤ 140737488351232) (hsm : sumL ls ≤ 65536)
    (hi : -9223372036854775808 ≤ i ∧ i ≤ 9223372036854775807) (hmi : -9223372036854775808 ≤ m ∧ m ≤ 9223372036854775807) (hT : TabAt 0 Lib.deBruijn64tab w) :
    Calls Tryd.prog 3 #[.slice p ls.length c, .int .i64 i, .int .i64 m] w fun e w' => e = .returned (.bool true) ∧ Fr Nob w w' := by
  have hsmall := small_short p c ls w hx2 (by omega) hb
  rw [decide_eq_true hsm] at hsmall
  have HSM := Lib.hid hsmall
  have HT := Lib.hid hT
  have hxL : ∀ x ∈ ls, x.length ≤ 1000000 := fun x h => by have := hx x h; omega
  have hx9 : ∀ x ∈ ls, x.length ≤ 90000 := fun x h => by have := hx x h; omega
  have hRR := fun w' (hf : Fr Nob w w') => RootR_any ls.length ls ls.length p c w' (Nat.le_refl _) rfl (by omega) hmc hx9 (hb.still hf)
  have hPR := fun w' (hf : Fr Nob w w') (n : Nat) (h : n < ls.length) => PathR_any ls.length ls ls.length n p c w' (Nat.le_refl _) rfl (by omega) h (by omega) hmc hx9 (hb.still hf)
  have hGR := fun w' (hf : Fr Nob w w') (n : Nat) (h1 : 1 ≤ n) (h : n ≤ ls.length) => GrowthR_any ls.length ls ls.length n true p c w' (Nat.le_refl _) rfl h1 h (by omega) hmc hx9 (hb.still hf)
  have HRR := Lib.hid hRR
  have HPR := Lib.hid hPR
  have HGR := Lib.hid hGR
  have HXL := Lib.hid hxL
  have HB := Lib.hid hb
  have hI : ¬ (1024 : Int) < (ls.length : Int) := by omega
  obtain ⟨hi1, hi2⟩ := hi
  obtain ⟨hm1, hm2⟩ := hmi
  have hpx32 := pathX_32 ls i
  have hgx32 := growX_32 ls m hm
  have hpxl := pathX_len ls i
  have hgxl := growX_len ls m
  have HP32 := Lib.hid hpx32
  have HG32 := Lib.hid hgx32
  clear hsmall hsm hx hx2 hT hxL hx9 hRR hPR hGR hpx32 hgx32
  obtain ⟨pc, hpc⟩ : ∃ pc, pc = codeX (decide (0 ≤ i ∧ i < (ls.length : Int))) := ⟨_, rfl⟩
  obtain ⟨gc, hgc⟩ : ∃ gc, gc = codeX (decide (1 ≤ m ∧ m ≤ (ls.length : Int))) := ⟨_, rfl⟩
  have HPC := Lib.hid hpc
  have HGC := Lib.hid hgc
  clear hpc hgc
  go_enter Tryd.func3, Tryd.ntmps3
  go_wp2_with fail
  refine HSM.out.mono ?_
  rintro e w' ⟨rfl, rfl⟩
  go_wp2_with fail
  refine (lists_any p c ls w (by omega) HXL.out hb).mono ?_
  rintro e w4 ⟨v4, rfl, hL4, hf4⟩
  obtain ⟨a4, c4, rfl, hc4, hp4⟩ := hL4.parts HXL.out
  clear hb hL4
  go_wp2_with fail
  refine (TRoot_any a4 c4 ls w4 hm hp4).mono ?_
  rintro e w5 ⟨v5, rfl, ho5, hf5⟩
  obtain ⟨a5, c5, rfl, -⟩ := id ho5.form
  have HP4 := Lib.hid (fun w' (hf : Fr Nob w4 w') => (show PartsAt w' a4 ls from ⟨hp4.choose, hp4.choose_spec.1.still hf, fun i v hv => by obtain ⟨l, h1, h2⟩ := hp4.choose_spec.2 i v hv; exact ⟨l, h1, h2.still hf⟩⟩))
  clear hp4
  go_wp2_with fail
  have hTP := TPath_all a4 c4 ls i w5 hm (HP4.out w5 hf5)
  rw [← HPC.out] at hTP
  refine hTP.mono ?_
  clear hTP
  rintro e w6 ⟨v6, rfl, hS6, hf6⟩
  have h46 := hf5.then hf6
  have h06 := hf4.then h46
  go_wp2_with fail
  have hTG := TGrowth_all2 a4 c4 ls m w6 hm (HP4.out w6 h46) (TabAt.still2 HT.out h06)
  rw [← HGC.out] at hTG
  refine hTG.mono ?_
  clear hTG
  rintro e w7 ⟨v7, rfl, hS7, hf7⟩
  have h47 := h46.then hf7
  have h07 := h06.then hf7
  go_wp2_with fail
  refine (same_any a4 c4 ls p c ls w7 (by omega) rfl (HP4.out w7 h47) (HB.out.still h07) rfl).mono ?_
  rintro e w8 ⟨rfl, hf8⟩
  have h08 := h07.then hf8
  have ho8 := ((ho5.still hf6).still hf7).still hf8
  obtain ⟨_, _, hv5, -, hr5, -⟩ := ho8.form
  simp only [Value.slice.injEq] at hv5
  obtain ⟨rfl, -, rfl⟩ := hv5
  rw [Nat.mul_one] at hr5
  have hr5b : RdB w8 a5 32 (rootL ls) := hr5
  have hSt : ∀ w', Fr Nob w8 w' → Fr Nob w8 w' ∧ (convert 26 9 (.slice a5 32 c5)).run Tryd.prog w' = .ok (.string (mkS (rootL ls))) w' := fun w' hf => ⟨hf, run_string (P := Tryd.prog) (hr5b.still hf) c5 Tryd.underlying26 Tryd.underlying5 Tryd.underlying9⟩
  have HST := Lib.hid hSt
  have HR8 := Lib.hid (fun w' (hf : Fr Nob w8 w') => HRR.out w' (h08.then hf))
  have hS8 := (hS6.still hf7).still hf8
  have hG8 := hS7.still hf8
  have hW6 := hf6
  have hW7 := hf7
  have hdr := (Fr.refl Nob w8).drew
  clear hr5 hr5b hSt HRR
  generalize rootL ls = rt at *
  go_wp2_with fail
  go_region_held3 (fun w' => Fr Nob w8 w' ∧ (convert 26 9 (.slice a5 32 c5)).run Tryd.prog w' = .ok (.string (mkS rt)) w')
    (first | (exact HST.out _ hdr) | (exact HST.out _ (Fr.then (And.left (by assumption)) hfn)) | assumption)
    (first | (go_at_call_of 12 (Value.slice p ls.length c); refine (HR8.out _ (And.left (by assumption))).mono ?_; rintro e w9 ⟨rfl, hfn⟩))
  have h89 : Fr Nob w8 w9 := And.left (by assumption)
  have h09 := h08.then h89
  clear HR8 HST hfn
  go_upto_region 18 with fail
  go_cut [99] (fun u wx => u = .bool (decide (0 ≤ i ∧ i < (ls.length : Int))) ∧ w9 = wx)
  case first =>
    by_cases g1 : 0 ≤ i
    · by_cases g2 : i < (ls.length : Int)
      ·
        go_wp2_with fail
        go_meet
        exact ⟨by rw [decide_eq_true (by omega : 0 ≤ i ∧ i < (ls.length : Int))], rfl⟩
      ·
        go_wp2_with fail
        go_meet
        exact ⟨by rw [decide_eq_false (by omega : ¬ (0 ≤ i ∧ i < (ls.length : Int)))], rfl⟩
    ·
      go_wp2_with fail
      go_meet
      exact ⟨by rw [decide_eq_false (by omega : ¬ (0 ≤ i ∧ i < (ls.length : Int)))], rfl⟩
  case rest =>
  obtain ⟨rfl, rfl⟩ := hcut
  go_upto_if 99 with fail
  go_cut [17, 19] (fun u v wx => ∃ (ap : Option Addr) (cp : Nat), u = .slice ap (pathX ls i).length cp ∧ Rd wx ap (pathX ls i).length (ss (pathX ls i)) ∧ v = .int .i64 (pc : Int) ∧ Fr Nob w9 wx)
  case first =>
    by_cases h : 0 ≤ i ∧ i < (ls.length : Int)
    · have h1 := h.1
      have h2 := h.2
      have hP := HPR.out w9 h09 i.toNat (by omega)
      rw [show ((i.toNat : Nat) : Int) = i by omega] at hP
      have e1 : pathX ls i = pathL ls i.toNat := if_pos ⟨h1, h2⟩
      rw [← e1] at hP
      have e2 : pc = 0 := by rw [HPC.out, decide_eq_true ⟨h1, h2⟩]; rfl
      have HPP := Lib.hid hP; clear hP e1
      subst e2
      go_wp2_with fail
      refine HPP.out.mono ?_
      rintro e w10 ⟨v10, rfl, ho10, hf10⟩
      obtain ⟨ap, cp, rfl, -, hr, -⟩ := ho10.form
      rw [Nat.mul_one] at hr
      go_wp2_with fail
      go_meet
      exact ⟨ap, cp, rfl, hr, rfl, hf10⟩
    · have e1 : pathX ls i = [] := if_neg h
      have HE1 := Lib.hid e1
      have e2 : pc = 7 := by rw [HPC.out, decide_eq_false h]; rfl
      clear e1
      subst e2
      go_wp2_with fail
      go_meet
      exact ⟨none, 0, by rw [HE1.out]; rfl, by rw [HE1.out]; exact Rd.nil _ _, rfl, Fr.refl _ _⟩
  case rest =>
  obtain ⟨ap, cp, rfl, hrp, rfl, hfc⟩ := hcut
  have h0c := h09.then hfc
  obtain ⟨wc1, hwc⟩ : ∃ wc1, wc1 = wc := ⟨_, rfl⟩
  subst hwc
  go_upto_region 21 with fail
  go_cut [110] (fun u wx => u = .bool (decide (1 ≤ m ∧ m ≤ (ls.length : Int))) ∧ wc1 = wx)
  case first =>
    by_cases g1 : 1 ≤ m
    · by_cases g2 : m ≤ (ls.length : Int)
      ·
        go_wp2_with fail
        go_meet
        exact ⟨by rw [decide_eq_true (by omega : 1 ≤ m ∧ m ≤ (ls.length : Int))], rfl⟩
      ·
        go_wp2_with fail
        go_meet
        exact ⟨by rw [decide_eq_false (by omega : ¬ (1 ≤ m ∧ m ≤ (ls.length : Int)))], rfl⟩
    ·
      go_wp2_with fail
      go_meet
      exact ⟨by rw [decide_eq_false (by omega : ¬ (1 ≤ m ∧ m ≤ (ls.length : Int)))], rfl⟩
  case rest =>
  obtain ⟨rfl, rfl⟩ := hcut
  go_upto_if 110 with fail
  go_cut [18, 20] (fun u v wx => ∃ (ag : Option Addr) (cg : Nat), u = .slice ag (growX ls m).length cg ∧ Rd wx ag (growX ls m).length (ss (growX ls m)) ∧ v = .int .i64 (gc : Int) ∧ Fr Nob wc1 wx)
  case first =>
    by_cases h : 1 ≤ m ∧ m ≤ (ls.length : Int)
    · have h1 := h.1
      have h2 := h.2
      have hP := HGR.out wc1 h0c m.toNat (by omega) (by omega)
      rw [show ((m.toNat : Nat) : Int) = m by omega] at hP
      have e1 : growX ls m = growR ls m.toNat true := if_pos ⟨h1, h2⟩
      rw [← e1] at hP
      have e2 : gc = 0 := by rw [HGC.out, decide_eq_true ⟨h1, h2⟩]; rfl
      have HPP := Lib.hid hP; clear hP e1
      subst e2
      go_wp2_with fail
      refine HPP.out.mono ?_
      rintro e w10 ⟨v10, rfl, ho10, hf10⟩
      obtain ⟨ag, cg, rfl, -, hr, -⟩ := ho10.form
      rw [Nat.mul_one] at hr
      go_wp2_with fail
      go_meet
      exact ⟨ag, cg, rfl, hr, rfl, hf10⟩
    · have e1 : growX ls m = [] := if_neg h
      have HE1 := Lib.hid e1
      have e2 : gc = 7 := by rw [HGC.out, decide_eq_false h]; rfl
      clear e1
      subst e2
      go_wp2_with fail
      go_meet
      exact ⟨none, 0, by rw [HE1.out]; rfl, by rw [HE1.out]; exact Rd.nil _ _, rfl, Fr.refl _ _⟩
  case rest =>
  obtain ⟨ag, cg, rfl, hrg, rfl, hfd⟩ := hcut
  have h0d := h0c.then hfd
  have h8d := (h89.then hfc).then hfd
  obtain ⟨wd, hwd⟩ : ∃ wd, wd = wc := ⟨_, rfl⟩
  subst hwd
  have hrp' := hrp.still hfd
  have h7d := hf8.then h8d
  have h6d := hW7.then h7d
  have h5d := hW6.then h6d
  obtain ⟨vb, hob, hpb, hsb⟩ := hS6
  obtain ⟨vc, hoc, hpc, hsc⟩ := hS7
  have hrt : rt.length = 32 := by have := ho5.1; simpa [bs] using this
  have hpa : POwn w5 w4.heap.size [.slice a5 32 c5] [rt] := ⟨by rw [hrt]; exact ho5, trivial⟩
  have hs1 : Sep ([.slice a5 32 c5] ++ vb) := Sep.append (List.pairwise_singleton _ _) hsb hpa hpb (Nat.le_refl _)
  have hpab : POwn w6 w4.heap.size ([.slice a5 32 c5] ++ vb) ([rt] ++ pathX ls i) := POwn.append (hpa.still hW6) (hpb.mono hf5.size)
  have hs2 : Sep (([.slice a5 32 c5] ++ vb) ++ vc) := Sep.append hs1 hsc hpab hpc (Nat.le_refl _)
  have h46s := h46.size
  have hpabc : POwn wd w.heap.size (([.slice a5 32 c5] ++ vb) ++ vc) (([rt] ++ pathX ls i) ++ growX ls m) := (POwn.append ((hpab.still hW7).mono (Nat.le_refl _)) (hpc.mono h46s)).still h7d |>.mono hf4.size
  have hobd := (hob.still h6d).mono (Nat.le_refl _)
  have hocd := (hoc.still h7d).mono (Nat.le_refl _)
  have hSd : SOwn wd w5.heap.size v6 (pathX ls i) := hS8.still h8d
  have hGd : SOwn wd w6.heap.size v7 (growX ls m) := hG8.still h8d
  have hvb1 : ∀ u ∈ vb, u.oneCell' = true := fun u hu => by
    obtain ⟨l, _, ho⟩ := hpb.mem hu
    obtain ⟨a, c, rfl, -⟩ := ho.form
    rfl
  have hvc1 : ∀ u ∈ vc, u.oneCell' = true := fun u hu => by
    obtain ⟨l, _, ho⟩ := hpc.mem hu
    obtain ⟨a, c, rfl, -⟩ := ho.form
    rfl
  have HVB := Lib.hid hvb1
  have HVC := Lib.hid hvc1
  have hL32 : ∀ x ∈ ([rt] ++ pathX ls i) ++ growX ls m, x.length ≤ 1000000 := fun x hx => by
    simp only [List.mem_append, List.mem_singleton] at hx
    rcases hx with (rfl | h) | h
    · rw [hrt]; decide
    · rw [HP32.out x h]; decide
    · rw [HG32.out x h]; decide
  have HL32 := Lib.hid hL32
  have HSEP := Lib.hid hs2
  clear hvb1 hvc1 hL32 hs2 hs1 hpab hpa hpb hpc hsb hsc hob hoc hrp hS8 hG8 ho8 hfc hfd h09 h0c h89 ho5 hrt h46s hW6 hW7 h5d h6d h7d hf5 hf6 hf7 hf8 h46 h47 h06 h07 h08 hf4 hdr h8d HP4 HPC HGC
  generalize pathX ls i = px at *
  generalize growX ls m = gx at *
  obtain ⟨ap6, cp6, rfl, hcp6, hpp6⟩ := hSd.parts (fun x hx => by rw [HP32.out x hx]; decide)
  obtain ⟨ag7, cg7, rfl, hcg7, hpg7⟩ := hGd.parts (fun x hx => by rw [HG32.out x hx]; decide)
  obtain ⟨_, _, e1, -, hrb, -⟩ := hobd.form
  simp only [Value.slice.injEq] at e1
  obtain ⟨rfl, -, rfl⟩ := e1
  obtain ⟨_, _, e1, -, hrc, -⟩ := hocd.form
  simp only [Value.slice.injEq] at e1
  obtain ⟨rfl, -, rfl⟩ := e1
  clear hSd hGd hobd hocd
  go_wp2_with fail
  refine (same_any ap6 cp6 px ap cp px wd (by omega) rfl hpp6 hrp' rfl).mono ?_
  rintro e w10 ⟨rfl, hf10⟩
  go_wp2_with fail
  refine (same_any ag7 cg7 gx ag cg gx w10 (by omega) rfl (hpg7.still hf10) (hrg.still hf10) rfl).mono ?_
  rintro e w11 ⟨rfl, hf11⟩
  have hd11 := hf10.then hf11
  have h0e := h0d.then hd11
  have hrb1 := hrb.still hd11
  have hrc1 := hrc.still hd11
  have hpo1 := hpabc.still hd11
  have hs0 := h0e.size
  clear hrb hrc hpabc hf10 hf11 hd11 h0d hpp6 hpg7 hrg hrp'
  go_wp2_with (with_reducible refine wl_stop (o := ⟨some 121, _, _, _, _, _⟩) ?_)
  unfold Stop
  refine wl_slit rfl rfl Tryd.underlying24 info_sl [.slice a5 32 c5] rfl (by simp; rfl) rfl rfl ?_
  intro w12 hh12 hf12 hz12
  clear hz12
  have hq12 := Own.made hh12 w11.heap.size (Nat.le_refl _) 1 1 1 (Nat.le_refl _) (by decide) (by simp)
  have hrb2 := hrb1.still hf12
  have hsz12 := hf12.size
  go_wp2_with (with_reducible refine wl_stop (o := ⟨some 123, _, _, _, _, _⟩) ?_)
  unfold Stop
  refine wl_append rfl rfl Tryd.underlying24 info_sl rfl (by decide) hq12 rfl rfl hrb2 HVB.out (by unfold maxLen; omega) (by omega) hsz12 ?_
  intro v13 w13 hq13 hf13 hb13
  clear hb13
  have hf13' : Fr Nob w11 w13 := hf12.trans hf13 (fun b hb hb' => by have := (hq12.lt hb').1; omega)
  have hrc2 := hrc1.still hf13'
  have hsz13 := hf13'.size
  clear hq12 hf13 hh12 hf12
  go_wp2_with (with_reducible refine wl_stop (o := ⟨some 125, _, _, _, _, _⟩) ?_)
  unfold Stop
  refine wl_append rfl rfl Tryd.underlying24 info_sl rfl (by decide) hq13 rfl rfl hrc2 HVC.out (by unfold maxLen; omega) (by omega) hsz13 ?_
  intro v14 w14 hq14 hf14 hb14
  clear hb14
  have hf14' : Fr Nob w11 w14 := hf13'.trans hf14 (fun b hb hb' => by have := (hq13.lt hb').1; omega)
  have h0f := h0e.then hf14'
  have hpo14 := hpo1.still hf14'
  have hq14' := hq14.mono hs0
  clear hq13 hf14 hf13' hq14 hf14'
  go_wp2_with fail
  refine (apart_any v14 w.heap.size (1 + px.length + gx.length) _ _ w14 hq14' hpo14 HSEP.out (by omega) HL32.out h0f.size).mono ?_
  rintro e w15 ⟨rfl, hf15⟩
  have hfin : Fr Nob w w15 := h0f.trans hf15 (fun b hb hb' => by have : w.heap.size ≤ b := hb'; omega)
  clear hf15 h0f hpo14 hq14'
  go_wp2_with fail
  go_ret
  exact ⟨rfl, hfin⟩
end Go.Proofs.YtgkakddldobpkaaDoor

/- mintvaultlaw8.TreeRoots: the law. -/
namespace Go.Proofs.YtgkakddldobpkaaDoor
open Go.RowKit Go.Mv Mvp Mvt
attribute [local irreducible] permS permP toB turnsK squeeze permN permB spongeB feed frameL framesL tagL leafL nodeL

set_option maxHeartbeats 4000000 in
set_option maxRecDepth 1000000 in
theorem roots_small (p : Option Addr) (c : Nat) (ls : List (List UInt8)) (i m : Int) (w : World) (hsm : Calls Tryd.prog 6 #[.slice p ls.length c] w (fun e w' => e = .returned (.bool false) ∧ w = w')) :
    Calls Tryd.prog 3 #[.slice p ls.length c, .int .i64 i, .int .i64 m] w fun e w' => e = .returned (.bool true) ∧ Fr Nob w w' := by
  have HSM := Lib.hid hsm; clear hsm
  go_enter Tryd.func3, Tryd.ntmps3
  go_wp2_with fail
  refine HSM.out.mono ?_
  rintro e w' ⟨rfl, rfl⟩
  go_wp2_with fail
  go_ret
  exact ⟨rfl, Fr.refl _ _⟩

set_option maxHeartbeats 4000000 in
set_option maxRecDepth 1000000 in
theorem roots_long (p : Option Addr) (c : Nat) (ls : List (List UInt8)) (i m : Int) (w : World) (hm : ls.length ≤ 1100) (hbig : 1024 < ls.length) (hb : Rd w p ls.length (ss ls)) (hx : ∀ x ∈ ls, x.length ≤ 70000) (hsm : Calls Tryd.prog 6 #[.slice p ls.length c] w (fun e w' => e = .returned (.bool true) ∧ w = w')) :
    Calls Tryd.prog 3 #[.slice p ls.length c, .int .i64 i, .int .i64 m] w fun e w' => e = .returned (.bool true) ∧ Fr Nob w w' := by
  have HSM := Lib.hid hsm
  have hxL : ∀ x ∈ ls, x.length ≤ 1000000 := fun x h => by have := hx x h; omega
  have HXL := Lib.hid hxL
  have HB := Lib.hid hb
  have hI : (1024 : Int) < (ls.length : Int) := by omega
  clear hsm hx hxL
  go_enter Tryd.func3, Tryd.ntmps3
  go_wp2_with fail
  refine HSM.out.mono ?_
  rintro e w' ⟨rfl, rfl⟩
  go_wp2_with fail
  refine (lists_any p c ls w (by omega) HXL.out hb).mono ?_
  rintro e w4 ⟨v4, rfl, hL4, hf4⟩
  obtain ⟨a4, c4, rfl, hc4, hp4⟩ := hL4.parts HXL.out
  clear hb hL4
  go_wp2_with fail
  refine (TRoot_long a4 ls.length c4 w4 hbig).mono ?_
  rintro e w' ⟨rfl, rfl⟩
  go_wp2_with fail
  refine (TPath_long a4 ls.length c4 i w4 hbig).mono ?_
  rintro e w' ⟨rfl, rfl⟩
  go_wp2_with fail
  refine (TGrowth_long a4 ls.length c4 m w4 hbig).mono ?_
  rintro e w' ⟨rfl, rfl⟩
  go_wp2_with fail
  refine (same_any a4 c4 ls p c ls w4 (by omega) rfl hp4 (HB.out.still hf4) rfl).mono ?_
  rintro e w8 ⟨rfl, hf8⟩
  have h08 := hf4.then hf8
  clear hf4 hf8 hp4
  go_wp2_with fail
  go_ret
  exact ⟨rfl, h08⟩

theorem law_TreeRoots (p : Option Addr) (c : Nat) (ls : List (List UInt8)) (i m : Int) (w : World) (hx : ∀ x ∈ ls, x.length ≤ 140737488351232) (hm : ls.length ≤ 9223372036854775807) (hb : Rd w p ls.length (ss ls)) (hmc : ls.length ≤ c)
    (hi : -9223372036854775808 ≤ i ∧ i ≤ 9223372036854775807) (hmi : -9223372036854775808 ≤ m ∧ m ≤ 9223372036854775807) (hT : TabAt 0 Lib.deBruijn64tab w) :
    Calls Tryd.prog 3 #[.slice p ls.length c, .int .i64 i, .int .i64 m] w fun e w' => e = .returned (.bool true) ∧ Fr Nob w w' := by
  by_cases h1 : 1100 < ls.length
  · exact roots_small p c ls i m w (small_long p c ls w hm h1 hb)
  · have h2 := small_short p c ls w hx (by omega) hb
    by_cases h3 : sumL ls ≤ 65536
    · have hx' : ∀ x ∈ ls, x.length ≤ 70000 := fun x hx' => by have := sumL_mem ls x hx'; omega
      by_cases h4 : ls.length ≤ 1024
      · exact roots_yes p c ls i m w h4 hmc hb hx' hx h3 hi hmi hT
      · rw [decide_eq_true h3] at h2
        exact roots_long p c ls i m w (by omega) (by omega) hb hx' h2
    · rw [decide_eq_false h3] at h2
      exact roots_small p c ls i m w h2
end Go.Proofs.YtgkakddldobpkaaDoor

/- From a walk that turns nothing (Fr Nob) to what a law's row asks behind the call. -/
namespace Go.Mv
open Go.RowKit Go.ChangeShapes Go.WideShapes

/-- the arguments read behind the call as they read before -/
theorem Below.trodAll {H : Type} {enc : TypeId × Value → H} {P : Program} (hl : laidOutB P = true) {W W' : World} (hb : Below W.heap.size W W') :
    ∀ (ts : List TypeId) (vs : List Value) (ds : List (DataW H)) (ps : List MemPlace), (∀ t ∈ ts, P.readableRec t = true ∧ t < P.types.size) → DataW.TrodAll enc P W 0 (fun _ => true) true ts vs ds ps → (∀ x ∈ ps, x.block < W.heap.size) →
      DataW.TrodAll enc P W' 0 (fun b => decide (b < W.heap.size)) true ts vs ds ps
  | [], vs, ds, ps, _, h, _ => by
    obtain ⟨rfl, rfl, rfl⟩ := trodAll_nil h
    exact trodAll_mk0
  | t :: ts, vs, ds, ps, hr, h, hlt => by
    obtain ⟨v, vs', d, ds', p, q, rfl, rfl, rfl, h0, hs⟩ := trodAll_cons h
    have h1 := hr t (by simp)
    exact trodAll_cons_mk (Below.trod hl h1.1 h1.2 h0 hb (fun x hx => hlt x (by simp [hx]))) (Below.trodAll hl hb ts vs' ds' q (fun t ht => hr t (by simp [ht])) hs (fun x hx => hlt x (by simp [hx])))

/-- what a law's row asks behind the call -/
theorem law_post {H : Type} {enc : TypeId × Value → H} {P : Program} {f : Func} {s : ChangeSpec} {W W' : World} {args : Array Value} {ds gs : List (DataW H)} {before : List MemPlace}
    (hl : laidOutB P = true) (hr : ∀ t ∈ f.params.toList, P.readableRec t = true ∧ t < P.types.size) (hW : DataW.Whole enc P f.params.toList s.vars false W args.toList ds gs before)
    (hv : s.vars = []) (hres : (s.fn H (ds ++ gs)).results = [.lit (.bool true)]) (harg : (s.fn H (ds ++ gs)).args = ds) (hvar : (s.fn H (ds ++ gs)).vars = [])
    {tb : TypeId} (hrt : f.resultTypes = #[tb]) (hu : P.underlying tb = some .bool) (hf : Fr Nob W W') :
    s.post enc P f false true false false W args (.bool true) W' := by
  have hW' := hW
  obtain ⟨p, q, hA, hV, rfl, hfz, hnd⟩ := hW
  rw [hv] at hV
  obtain ⟨rfl, rfl⟩ := trodVars_none hV
  have hlt : ∀ x ∈ p ++ [], x.block < W.heap.size := fun x hx => hW'.lt x hx
  refine ⟨ds, [], p ++ [], [], p, [], hW', ?_, ?_, ?_, World.keptBut_mono (fun x hx => ⟨hx, ?_⟩) (hf.below.frame (· ∈ p ++ [])), fun h => by cases h⟩
  · rw [hres, hrt]
    exact trodAll_mk1 (shut_bool hu true)
  · rw [harg]
    exact Below.trodAll hl hf.below _ _ _ _ hr hA (fun x hx => hlt x (by simp [hx]))
  · rw [hvar, hv]; exact rfl
  · simp only [List.append_nil] at hx
    exact .inr (.inl hx)
end Go.Mv
