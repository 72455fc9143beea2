/- tree.Root, Path, Growth; The reference's leads, Lies; The reference's Root; The reference's Path, Growth; The reference's grows, Grown; The law TreeGrew; The tree, plain: each leaf lies where its path says; a list that grew goes on with each of its beginnings; mintvaultlaw8.TreeTrue: the walk of the law; From a walk that turns nothing (Fr Nob) to what a law's row asks behind the call. -/
import Derived.Test.YtgkakddldobpkaaDoorMgTrueProof2
import Derived.Test.YtgkakddldobpkaaDoorMgTrueProof1
import Derived.Deep.RegionHeld3
import Derived.Deep.DeepCutAuto
import Derived.ProofKit
import Derived.OpenShut
import Derived.Carry
namespace Go.Proofs.YtgkakddldobpkaaDoor
open Go.RowKit Go.Mv Mvp Mvt
attribute [local irreducible] permS permP toB turnsK squeeze permN permB spongeB feed frameL framesL tagL leafL nodeL

/-- the growth that the program tells -/
def growL (ls : List (List UInt8)) (m : Nat) : List (List UInt8) := growW nodeL [] (ls.map leafL) m true
def pathL (ls : List (List UInt8)) (i : Nat) : List (List UInt8) := pathW nodeL [] (ls.map leafL) i

set_option maxHeartbeats 1000000 in
set_option maxRecDepth 1000000 in
theorem TRoot_any (a : Option Addr) (c : Nat) (ls : List (List UInt8)) (w : World) (hm : ls.length ≤ 1024) (hb : PartsAt w a ls) :
    Calls Tryd.prog 8 #[.slice a ls.length c] w fun e w' => ∃ v, e = .returned (.tuple #[v, .int .i64 0]) ∧ Own w' w.heap.size 5 1 v 32 (bs (rootL ls)) ∧ Fr Nob w w' := by
  have hmI : ¬ (1024 : Int) < (ls.length : Int) := by omega
  go_enter Tryd.func8, Tryd.ntmps8
  go_wp2_with fail
  refine (newLevels_any a c ls w (by omega) hb).mono ?_
  rintro e w1 ⟨v, K, rfl, hKl, hl, hK, hf1⟩
  go_wp2_with fail
  refine (lroot_any v _ K ls w1 hl hK hKl (by omega)).mono ?_
  rintro e w2 ⟨v2, rfl, hown, hf2⟩
  go_wp2_with fail
  go_ret2
  exact ⟨_, rfl, hown.mono hf1.size, hf1.then hf2⟩
set_option maxRecDepth 1000000 in
theorem TRoot_long (a : Option Addr) (n c : Nat) (w : World) (hm : 1024 < n) :
    Calls Tryd.prog 8 #[.slice a n c] w fun e w' => e = .returned (.tuple #[.slice none 0 0, .int .i64 1]) ∧ w = w' := by
  have hmI : (1024 : Int) < (n : Int) := by omega
  go_enter Tryd.func8, Tryd.ntmps8
  go_wp2_with fail
  go_ret2
  exact ⟨rfl, rfl⟩
set_option maxRecDepth 1000000 in
theorem TPath_long (a : Option Addr) (n c : Nat) (i : Int) (w : World) (hm : 1024 < n) :
    Calls Tryd.prog 9 #[.slice a n c, .int .i64 i] w fun e w' => e = .returned (.tuple #[.slice none 0 0, .int .i64 1]) ∧ w = w' := by
  have hmI : (1024 : Int) < (n : Int) := by omega
  go_enter Tryd.func9, Tryd.ntmps9
  go_wp2_with fail
  go_ret2
  exact ⟨rfl, rfl⟩
set_option maxRecDepth 1000000 in
theorem TPath_range (a : Option Addr) (n c : Nat) (i : Int) (w : World) (hm : n ≤ 1024) (hi : i < 0 ∨ (n : Int) ≤ i) :
    Calls Tryd.prog 9 #[.slice a n c, .int .i64 i] w fun e w' => e = .returned (.tuple #[.slice none 0 0, .int .i64 7]) ∧ w = w' := by
  have hmI : ¬ (1024 : Int) < (n : Int) := by omega
  by_cases h0 : i < 0
  · clear hi
    go_enter Tryd.func9, Tryd.ntmps9
    go_wp2_with fail
    go_ret2
    exact ⟨rfl, rfl⟩
  · have h1 : (n : Int) ≤ i := by omega
    clear hi
    go_enter Tryd.func9, Tryd.ntmps9
    go_wp2_with fail
    go_ret2
    exact ⟨rfl, rfl⟩
set_option maxHeartbeats 1000000 in
set_option maxRecDepth 1000000 in
theorem TPath_any (a : Option Addr) (c : Nat) (ls : List (List UInt8)) (i : Nat) (w : World) (hm : ls.length ≤ 1024) (hi : i < ls.length) (hb : PartsAt w a ls) :
    Calls Tryd.prog 9 #[.slice a ls.length c, .int .i64 (i : Int)] w fun e w' => ∃ v, e = .returned (.tuple #[v, .int .i64 0]) ∧ SOwn w' w.heap.size v (pathL ls i) ∧ Fr Nob w w' := by
  have hmI : ¬ (1024 : Int) < (ls.length : Int) := by omega
  have h0 : ¬ (i : Int) < 0 := by omega
  have h1 : ¬ (ls.length : Int) ≤ (i : Int) := by omega
  go_enter Tryd.func9, Tryd.ntmps9
  go_wp2_with fail
  refine (newLevels_any a c ls w (by omega) hb).mono ?_
  rintro e w1 ⟨v, K, rfl, hKl, hl, hK, hf1⟩
  have HE := Lib.hid (path_all nodeL [] (ls.map leafL) i K (by rw [List.length_map]; exact hi) hK)
  go_wp2_with fail
  refine (ups_any v _ K ls 0 i w1 hl (by omega) hKl (by omega) (by omega)).mono ?_
  rintro e w2 ⟨q, rfl, hS, hf2⟩
  have hS2 : SOwn w2 w.heap.size q (pathL ls i) := by
    obtain ⟨vs, h1, h2, h3⟩ := hS
    have e : upsL ls 0 i (K - 0) = pathL ls i := HE.out
    rw [e] at h1 h2
    exact ⟨vs, h1.mono hf1.size, h2.mono hf1.size, h3⟩
  clear hS
  go_wp2_with fail
  go_ret2
  exact ⟨_, rfl, hS2, hf1.then hf2⟩

set_option maxRecDepth 1000000 in
theorem tz_any (x : Nat) (hx : x < 18446744073709551616) (w : World) (hT : TabAt 0 Lib.deBruijn64tab w) :
    Calls Tryd.prog 24 #[.int .u64 (x : Int)] w fun e w' => e = .returned (.int .i64 (Lib.ctz 64 x)) ∧ w' = w := by
  have HC := Lib.hid (tz64_any x hx w hT)
  clear hT
  go_enter Tryd.func24, Tryd.ntmps24
  go_wp2_with fail
  refine HC.out.mono ?_
  rintro e w' ⟨rfl, rfl⟩
  go_wp2_with fail
  go_ret
  exact ⟨rfl, rfl⟩
theorem TabAt.still2 {w w' : World} {g : Nat} {l : List Nat} (h : TabAt g l w) (hf : Fr Nob w w') : TabAt g l w' := fun j hj => hf.cell id (h j hj)
theorem ctz_spec (m : Nat) (h1 : 1 ≤ m) (h2 : m < 18446744073709551616) : ∃ q, m = (2 * q + 1) * 2 ^ Lib.ctz 64 m ∧ Lib.ctz 64 m < 64 := by
  obtain ⟨q, h3, h4⟩ := Lib.ctzFrom_spec 64 m (by omega) h2
  have e : Lib.ctz 64 m = Lib.ctzFrom 64 m := by unfold Lib.ctz; rw [if_neg (by omega)]
  rw [e]
  exact ⟨q, by rw [Nat.mul_comm]; exact h3, h4⟩

set_option maxRecDepth 1000000 in
theorem TGrowth_long (a : Option Addr) (n c : Nat) (m : Int) (w : World) (hm : 1024 < n) :
    Calls Tryd.prog 10 #[.slice a n c, .int .i64 m] w fun e w' => e = .returned (.tuple #[.slice none 0 0, .int .i64 1]) ∧ w = w' := by
  have hmI : (1024 : Int) < (n : Int) := by omega
  go_enter Tryd.func10, Tryd.ntmps10
  go_wp2_with fail
  go_ret2
  exact ⟨rfl, rfl⟩
set_option maxRecDepth 1000000 in
theorem TGrowth_range (a : Option Addr) (n c : Nat) (m : Int) (w : World) (hm : n ≤ 1024) (hi : m < 1 ∨ (n : Int) < m) :
    Calls Tryd.prog 10 #[.slice a n c, .int .i64 m] w fun e w' => e = .returned (.tuple #[.slice none 0 0, .int .i64 7]) ∧ w = w' := by
  have hmI : ¬ (1024 : Int) < (n : Int) := by omega
  by_cases h0 : m < 1
  · clear hi
    go_enter Tryd.func10, Tryd.ntmps10
    go_wp2_with fail
    go_ret2
    exact ⟨rfl, rfl⟩
  · have h1 : (n : Int) < m := by omega
    clear hi
    go_enter Tryd.func10, Tryd.ntmps10
    go_wp2_with fail
    go_ret2
    exact ⟨rfl, rfl⟩
set_option maxRecDepth 1000000 in
theorem TGrowth_all (a : Option Addr) (n c : Nat) (w : World) (hm : n ≤ 1024) (h1 : 1 ≤ n) :
    Calls Tryd.prog 10 #[.slice a n c, .int .i64 (n : Int)] w fun e w' => e = .returned (.tuple #[.slice none 0 0, .int .i64 0]) ∧ w = w' := by
  have hmI : ¬ (1024 : Int) < (n : Int) := by omega
  have h1I : ¬ (n : Int) < 1 := by omega
  go_enter Tryd.func10, Tryd.ntmps10
  go_wp2_with fail
  go_ret2
  exact ⟨rfl, rfl⟩
theorem Sep.cons {w w' : World} {base : Nat} {vs : List Value} {ls : List (List UInt8)} (h : Sep vs) (hp : POwn w base vs ls) {v : Value} {n : Nat} {L : List Value} {T : TypeId} (hv : Own w' w.heap.size T 1 v n L) : Sep (v :: vs) := by
  unfold Sep at *
  rw [List.pairwise_cons]
  refine ⟨fun b hb k hk hk' => ?_, h⟩
  obtain ⟨l, _, ho⟩ := hp.mem hb
  have h1 := (ho.lt hk').2
  have h2 := (hv.lt hk).1
  omega

set_option maxHeartbeats 4000000 in
set_option maxRecDepth 1000000 in
theorem TGrowth_any (a : Option Addr) (c : Nat) (ls : List (List UInt8)) (m : Nat) (w : World) (hm : ls.length ≤ 1024) (h1 : 1 ≤ m) (hmn : m < ls.length) (hb : PartsAt w a ls) (hT : TabAt 0 Lib.deBruijn64tab w) :
    Calls Tryd.prog 10 #[.slice a ls.length c, .int .i64 (m : Int)] w fun e w' => ∃ v, e = .returned (.tuple #[v, .int .i64 0]) ∧ SOwn w' w.heap.size v (growL ls m) ∧ Fr Nob w w' := by
  have hmI : ¬ (1024 : Int) < (ls.length : Int) := by omega
  have h1I : ¬ (m : Int) < 1 := by omega
  have h2I : ¬ (ls.length : Int) < (m : Int) := by omega
  have q1 : ((m : Int) == (ls.length : Int)) = false := by simp; omega
  have q2 : (m == ls.length) = false := by simp; omega
  obtain ⟨q, hq, hz⟩ := ctz_spec m h1 (by omega)
  have hand := and_pred_i64 m h1 (by omega)
  have hap := and_pred m h1
  have HAP := Lib.hid hap; clear hap
  have HB := Lib.hid hb
  have HT := Lib.hid hT
  clear hb hT
  go_enter Tryd.func10, Tryd.ntmps10
  have HQ := Lib.hid hq; clear hq
  have HZ := Lib.hid hz; clear hz
  go_wp2_with fail
  refine (newLevels_any a c ls w (by omega) HB.out).mono ?_
  rintro e w1 ⟨v, K, rfl, hKl, hl, hK, hf1⟩
  have hmw : IntKind.u64.wrap (m : Int) = (m : Int) := by rw [IntKind.wrap_u64]; omega
  go_wp2_with fail
  refine (tz_any m (by omega) w1 (TabAt.still2 HT.out hf1)).mono ?_
  rintro e w1' ⟨rfl, rfl⟩
  have hHQ := HQ.out
  generalize Lib.ctz 64 m = s at *
  obtain ⟨x, hx⟩ : ∃ x, x = 2 * q := ⟨_, rfl⟩
  rw [← hx] at hHQ
  have hga := grow_all nodeL [] (ls.map leafL) s x m K hHQ (by omega) (by rw [List.length_map]; exact hmn) hK
  obtain ⟨hsK, hga⟩ := hga
  have hxb : x ≤ 1024 := by
    have h2 := Nat.le_mul_of_pos_right (x + 1) (Nat.two_pow_pos s)
    omega
  have hdiv : (m : Int) / 2 ^ s = ((x + 1 : Nat) : Int) := by
    have h2 : m / 2 ^ s = x + 1 := by rw [hHQ, Nat.mul_div_cancel _ (Nat.two_pow_pos s)]
    rw [← h2]; simp
  have hx0 : (m &&& (m - 1) = 0 ↔ x = 0) := by
    rw [HAP.out]
    constructor
    · rintro ⟨t, ht⟩
      by_cases h0 : x = 0
      · exact h0
      · exfalso
        rw [hHQ] at ht
        -- an odd number above 1 does not divide a power of two
        have hts : s ≤ t := by
          rcases Nat.lt_or_ge t s with h | h
          · have h3 := Nat.pow_lt_pow_right (show 1 < 2 by decide) h
            have h4 := Nat.le_mul_of_pos_left (2 ^ s) (show 0 < x + 1 by omega)
            omega
          · exact h
        obtain ⟨r, rfl⟩ : ∃ r, t = r + s := ⟨t - s, by omega⟩
        rw [Nat.pow_add] at ht
        have h5 := Nat.eq_of_mul_eq_mul_right (Nat.two_pow_pos s) ht
        cases r with
        | zero => simp at h5; omega
        | succ r => rw [Nat.pow_succ] at h5; omega
    · intro h0
      exact ⟨s, by rw [hHQ, h0]; simp⟩
  have hz64 := HZ.out
  have HGA := Lib.hid hga; clear hga
  have HX0 := Lib.hid hx0; clear hx0
  have hxlen : x < (lvN ls s).length := (lv_len nodeL [] (ls.map leafL) s x).2 (by
    rw [List.length_map]
    have h3 := Nat.two_pow_pos s
    rw [Nat.add_mul, Nat.one_mul] at hHQ
    omega)
  clear HQ HZ HAP hHQ hx q
  go_wp2_with fail
  refine (ups_any v _ K ls s x w1' hl (by omega) hKl hsK (by omega)).mono ?_
  rintro e w2 ⟨q, rfl, hS, hf2⟩
  have hlw := hl.still hf2
  have hfr2 := hf1.then hf2
  have hb1 := hf1.size
  obtain ⟨vs, hown, hpo, hsep⟩ := hS
  have hvl := hpo.len
  have hul := upsL_len ls (K - s) s x
  by_cases hz : m &&& (m - 1) = 0
  · have hand0 : bits BinOp.and IntKind.i64 (m : Int) ((m : Int) - 1) = 0 := by rw [hand, hz]; rfl
    have hx0 : x = 0 := HX0.out.1 hz
    have hg := HGA.out
    rw [if_pos hx0, List.nil_append] at hg
    have hS2 : SOwn w2 w.heap.size q (growL ls m) := by
      have e : growL ls m = upsL ls s x (K - s) := hg
      rw [e]
      exact ⟨vs, hown.mono hb1, hpo.mono hb1, hsep⟩
    clear hand hz hg hown hpo hsep hl hlw hf1 hf2
    go_wp2_with fail
    go_ret2
    exact ⟨_, rfl, hS2, hfr2⟩
  · have hpos : 0 < m &&& (m - 1) := Nat.pos_of_ne_zero hz
    have hposI : (0 : Int) < ((m &&& (m - 1) : Nat) : Int) := by omega
    have hx0 : ¬ x = 0 := fun h => hz (HX0.out.2 h)
    have hg := HGA.out
    rw [if_neg hx0] at hg
    have hg2 : growL ls m = (lvN ls s).getD x [] :: upsL ls s x (K - s) := hg
    have HG := Lib.hid hg2; clear hg hg2
    obtain ⟨g', o', cc, y, hv, hcy, hoy⟩ := LvAll.at (show LvAll w2 w.heap.size v ls K from hlw) (k := s) hsK
    subst hv
    obtain ⟨b, ob, cb, y2, rfl, hcy2, hoy2⟩ := hoy.at hxlen
    have h32 := lvN_get32 ls s x hxlen
    rw [h32] at hoy2
    have H32 := Lib.hid h32; clear h32
    generalize hyl : (lvN ls s).getD x [] = yl at *
    clear hyl
    obtain ⟨ay, cy, rfl, -, hry, -⟩ := id hoy2.form
    rw [Nat.mul_one] at hry
    obtain ⟨by_, oy, rfl, -⟩ := id (hry.at (by decide))
    have hryb : RdB w2 (some ⟨by_, oy, none⟩) 32 yl := hry
    have HC := Lib.hid (bclone_some ⟨by_, oy, none⟩ 32 cy yl w2 (by decide) hryb)
    obtain ⟨aq, cq, rfl, hcq, -⟩ := id hown.form
    have hxI : (x : Int) < ((lvN ls s).length : Int) := by omega
    generalize (lvN ls s).length = ll at *
    clear hoy hoy2 hry hryb hl hlw hz hx0 hf1
    go_wp2_with fail
    refine HC.out.mono ?_
    rintro e w3 ⟨v3, rfl, hown3, hf3⟩
    obtain ⟨a3, c3, rfl, -⟩ := id hown3.form
    have hownq3 := hown.still hf3
    have hfr3 := hfr2.then hf3
    have hpo3 := hpo.still hf3
    have hsep3 : Sep (.slice a3 32 c3 :: vs) := hsep.cons hpo hown3
    have hown3' := hown3.mono (Nat.le_trans hb1 hf2.size)
    clear hcy hcy2 hown hpo hsep hown3
    go_wp2_with (with_reducible refine wl_stop (o := ⟨some 54, _, _, _, _, _⟩) ?_)
    unfold Stop
    refine wl_slit rfl rfl Tryd.underlying24 info_sl [.slice a3 32 c3] rfl (by simp; rfl) rfl rfl ?_
    intro w4 hh4 hf4 hz4
    clear hz4
    have hownq4 := hownq3.still hf4
    have hfr4 := hfr3.then hf4
    have hpo4 := hpo3.still hf4
    have hown4 := hown3'.still hf4
    have hw34 := hf4.size
    have hl3 := hfr3.size
    have hdst := Own.made hh4 w3.heap.size (Nat.le_refl _) 1 1 1 (Nat.le_refl _) (by decide) (by simp)
    generalize w3.heap.size = g4 at *
    obtain ⟨aq', cq', hvq, -, hrq, -⟩ := hownq4.form
    simp only [Value.slice.injEq] at hvq
    obtain ⟨rfl, -, rfl⟩ := hvq
    clear hown3' hownq3 hf4 hpo3 hh4
    go_wp2_with (with_reducible refine wl_stop (o := ⟨some 56, _, _, _, _, _⟩) ?_)
    unfold Stop
    refine wl_append rfl rfl Tryd.underlying24 info_sl rfl (by decide) hdst rfl rfl hrq (fun u hu => ?_) (by unfold maxLen; omega) (by omega) (by omega) ?_
    · obtain ⟨l, _, ho⟩ := hpo4.mem hu
      obtain ⟨a9, c9, rfl, -⟩ := ho.form
      rfl
    intro v5 w5 hown5 hf5 hb5
    clear hb5
    have hpo5 := hpo4.app hdst (by decide) hf5
    have hown5' := hown4.keep hf5 (fun k hk hk' => hown4.ne2 hdst (by decide) k hk hk')
    have hfr5 : Fr Nob w w5 := hdst.fr hfr4 (by omega) hf5
    have hS5 : SOwn w5 w.heap.size v5 (growL ls m) := by
      rw [HG.out]
      refine ⟨.slice a3 32 c3 :: vs, ?_, ⟨by rw [H32.out]; exact hown5', hpo5.mono hb1⟩, hsep3⟩
      have e : (yl :: upsL ls s x (K - s)).length = 1 + (upsL ls s x (K - s)).length := by rw [List.length_cons]; omega
      rw [e]
      have := hown5.mono (base' := w.heap.size) (by omega)
      simpa using this
    clear hown5 hpo5 hown5' hf5 hdst hown4 hpo4 hownq4 hrq
    go_wp2_with fail
    go_ret2
    exact ⟨_, rfl, hS5, hfr5⟩
end Go.Proofs.YtgkakddldobpkaaDoor

/- The reference's leads, Lies. -/
namespace Go.Proofs.YtgkakddldobpkaaDoor
open Go.RowKit Go.Mv Mvp Mvt
attribute [local irreducible] permS permP toB turnsK squeeze permN permB spongeB feed frameL framesL tagL leafL nodeL

theorem size_str : (Tryd.prog.info? 9).map (·.size) = some 1 := by kernel_rfl
/-- a pair of results -/
def Two (p : List UInt8 × Bool) (w : World) (e : Ending) (w' : World) : Prop := e = .returned (.tuple #[.string (mkS p.1), .bool p.2]) ∧ Fr Nob w w'
theorem ss_append (a b : List (List UInt8)) : ss (a ++ b) = ss a ++ ss b := by simp [ss]
theorem rd_front {w : World} {a : Option Addr} {n m : Nat} {L : List Value} (h : Rd w a n L) (hm : m ≤ n) : Rd w a m (L.take m) := by
  have hl := h.len
  refine ⟨by rw [List.length_take]; omega, ?_⟩
  rcases Nat.eq_zero_or_pos m with h0 | h0
  · exact .inl h0
  · obtain ⟨b, o, rfl, hc⟩ := h.at (by omega)
    refine .inr ⟨b, o, rfl, fun i v hv => hc i v ?_⟩
    rw [List.getElem?_take] at hv
    split at hv
    · exact hv
    · cases hv

theorem leadsR_len (s : List UInt8) (hs : s.length ≤ 32) : ∀ (r : List (List UInt8)) (n i : Nat), (Mvt.leadsR nodeL [] s r n i).1.length ≤ 32
  | [], n, i => by simp only [Mvt.leadsR]; split <;> simp [hs]
  | e :: r, n, i => by
    simp only [Mvt.leadsR]
    split
    · exact hs
    · split <;> simp [nodeL_len]

end Go.Proofs.YtgkakddldobpkaaDoor

/- The reference's Root. -/
namespace Go.Proofs.YtgkakddldobpkaaDoor
open Go.RowKit Go.Mv Mvp Mvt
attribute [local irreducible] permS permP toB turnsK squeeze permN permB spongeB feed frameL framesL tagL leafL nodeL

theorem rootL_one (x : List UInt8) : rootL [x] = leafL x := by
  unfold rootL
  rw [if_neg (by simp), rootW, dif_pos (by simp)]
  rfl
theorem rootL_none : rootL [] = tagL kNone [] := by unfold rootL; rw [if_pos (by rfl)]
theorem rootL_split (ls : List (List UInt8)) (h : 2 ≤ ls.length) : rootL ls = nodeL (rootL (ls.take (half ls.length))) (rootL (ls.drop (half ls.length))) := by
  have h1 := half_le ls.length h
  have h2 := half_pos ls.length
  unfold rootL
  rw [if_neg (by omega), if_neg (by rw [List.length_take]; omega), if_neg (by rw [List.length_drop]; omega), rootW.eq_1 nodeL [] (ls.map leafL), dif_neg (by rw [List.length_map]; omega), List.length_map, ← List.map_take, ← List.map_drop]
theorem rd_take {w : World} {a : Option Addr} {n : Nat} {ls : List (List UInt8)} (h : Rd w a n (ss ls)) (k c : Nat) (hk : k ≤ n) (hc : n ≤ c) : Rd w a k (ss (ls.take k)) := by
  have hl := h.len
  have := cutAt_rd h 0 k c (by omega) (by omega) hk
  rw [cutAt_0, List.drop_zero, Nat.sub_zero] at this
  have e : ss (ls.take k) = (ss ls).take k := by simp [ss, List.map_take]
  rw [e]; exact this
theorem rd_drop {w : World} {a : Option Addr} {n : Nat} {ls : List (List UInt8)} (h : Rd w a n (ss ls)) (k c : Nat) (hk : k ≤ n) (hc : n ≤ c) : Rd w (cutAt a k c) (n - k) (ss (ls.drop k)) := by
  have hl := h.len
  have := cutAt_rd h k n c hk hc (Nat.le_refl _)
  rw [List.take_of_length_le (by rw [List.length_drop, hl]; exact Nat.le_refl _)] at this
  have e : ss (ls.drop k) = (ss ls).drop k := by simp [ss, List.map_drop]
  rw [e]; exact this
/-- one string -/
def Str (l : List UInt8) (w : World) (e : Ending) (w' : World) : Prop := e = .returned (.string (mkS l)) ∧ Fr Nob w w'

set_option maxHeartbeats 4000000 in
set_option maxRecDepth 1000000 in
theorem RootR_any : ∀ (N : Nat) (ls : List (List UInt8)) (n : Nat) (a : Option Addr) (c : Nat) (w : World), n ≤ N → ls.length = n → n ≤ 1100 → n ≤ c → (∀ x ∈ ls, x.length ≤ 90000) → Rd w a n (ss ls) →
    Calls Tryd.prog 12 #[.slice a n c] w (Str (rootL ls) w) := by
  intro N
  induction N with
  | zero =>
    intro ls n a c w hN hl hm hc hx hb
    obtain rfl : n = 0 := by omega
    obtain rfl : ls = [] := List.eq_nil_of_length_eq_zero hl
    have hT := Lib.hid (tagR_any (mkS kNone) none 0 [] w (by rw [mkS_size]; decide) (by simp) (Rd.nil _ _))
    rw [rootL_none]
    go_enter Tryd.func12, Tryd.ntmps12
    rw [kNone_eq]
    go_wp2_with fail
    refine hT.out.mono ?_
    rintro e w' ⟨rfl, hf⟩
    rw [mkS_toList]
    go_wp2_with fail
    go_ret
    exact ⟨rfl, hf⟩
  | succ N ih =>
    intro ls n a c w hN hl hm hc hx hb
    by_cases h0 : n ≤ N
    · exact ih ls n a c w h0 hl hm hc hx hb
    obtain rfl : n = N + 1 := by omega
    by_cases h1 : N = 0
    · subst h1
      obtain ⟨x, rfl⟩ : ∃ x, ls = [x] := by
        match ls, hl with
        | [x], _ => exact ⟨x, rfl⟩
      obtain ⟨b, o, rfl, hat⟩ := hb.at (by decide)
      have hc0 : w.cell? ⟨b, o, none⟩ = some (.string (mkS x)) := hat 0 _ rfl
      have hx1 := hx x (by simp)
      have HC := Lib.hid (leafR_any x w hx1)
      clear ih hat hb hx
      rw [rootL_one]
      go_enter Tryd.func12, Tryd.ntmps12
      go_wp2_with fail
      refine HC.out.mono ?_
      rintro e w' ⟨rfl, hf⟩
      go_wp2_with fail
      go_ret
      exact ⟨rfl, hf⟩
    · have hsp := rootL_split ls (by omega)
      rw [hl] at hsp
      have hk1 := half_le (N + 1) (by omega)
      have hk2 := half_pos (N + 1)
      have HH := Lib.hid (halfR_any (N + 1) w (by omega) (by omega))
      generalize half (N + 1) = k at *
      have q0 : (((N + 1 : Nat) : Int) == 0) = false := by simp; omega
      have q1 : (((N + 1 : Nat) : Int) == 1) = false := by simp; omega
      have q2 : ((N + 1 : Nat) == 0) = false := by simp
      have q3 : ((N + 1 : Nat) == 1) = false := by simp; omega
      have e1 := fun wx => run_slice_hi (P := Tryd.prog) wx Tryd.underlying22 size_str a (N + 1) c .i64 k (by omega)
      have e2 := fun wx => run_slice_lo (P := Tryd.prog) wx Tryd.underlying22 size_str a (N + 1) c .i64 k (by omega)
      have hA : ∀ w', Fr Nob w w' → Calls Tryd.prog 12 #[.slice a k c] w' (Str (rootL (ls.take k)) w') := fun w' hf => ih (ls.take k) k a c w' (by omega) (by rw [List.length_take]; omega) (by omega) (by omega) (fun x hm' => hx x (List.mem_of_mem_take hm')) ((rd_take hb k c (by omega) hc).still hf)
      have hB : ∀ w', Fr Nob w w' → Calls Tryd.prog 12 #[.slice (cutAt a k c) (N + 1 - k) (c - k)] w' (Str (rootL (ls.drop k)) w') := fun w' hf => ih (ls.drop k) (N + 1 - k) (cutAt a k c) (c - k) w' (by omega) (by rw [List.length_drop]; omega) (by omega) (by omega) (fun x hm' => hx x (List.mem_of_mem_drop hm')) ((rd_drop hb k c (by omega) hc).still hf)
      have hla := rootL_len (ls.take k)
      have hlb := rootL_len (ls.drop k)
      have hN : ∀ w', Calls Tryd.prog 29 #[.string (mkS (rootL (ls.take k))), .string (mkS (rootL (ls.drop k)))] w' (Str (nodeL (rootL (ls.take k)) (rootL (ls.drop k))) w') := fun w' => nodeR_any _ _ w' (by rw [hla, hlb]; decide)
      rw [← hsp] at hN
      generalize rootL (ls.take k) = ra at *
      generalize rootL (ls.drop k) = rb at *
      generalize rootL ls = r at *
      have HA := Lib.hid hA
      have HB := Lib.hid hB
      have HN := Lib.hid hN
      clear ih hb hx hA hB hN hsp hla hlb hl h0 h1
      go_enter Tryd.func12, Tryd.ntmps12
      go_wp2_with fail
      refine HH.out.mono ?_
      rintro e w1 ⟨rfl, rfl⟩
      go_wp2_with fail
      have hdr := (Fr.refl Nob w).drew
      go_region_held3 (fun w' => Fr Nob w w')
        (first | (exact hdr) | (exact Fr.then (by assumption) hfn))
        (first | (go_at_call_of 12 (Value.slice a k c); refine (HA.out _ (by assumption)).mono ?_; rintro e w' ⟨rfl, hfn⟩)
               | (go_at_call_of 12 (Value.slice (cutAt a k c) (N + 1 - k) (c - k)); refine (HB.out _ (by assumption)).mono ?_; rintro e w' ⟨rfl, hfn⟩)
               | (go_at_call_of 29 (Value.string (mkS ra)); refine (HN.out _).mono ?_; rintro e w' ⟨rfl, hfn⟩))
      all_goals
        go_wp2_with fail
        go_ret
        exact ⟨rfl, by assumption⟩
end Go.Proofs.YtgkakddldobpkaaDoor

/- The reference's Path, Growth. -/
namespace Mvt
variable {α : Type} (nd : α → α → α) (d : α)
theorem pathW_len : ∀ (N : Nat) (l : List α) (i : Nat), l.length ≤ N → (pathW nd d l i).length ≤ l.length := by
  intro N
  induction N with
  | zero => intro l i h; rw [pathW, dif_pos (by omega)]; simp
  | succ N ih =>
    intro l i h
    rw [pathW]
    split
    · simp
    · rename_i h1
      have h2 := half_le l.length (by omega)
      have h3 := half_pos l.length
      split
      · have := ih (l.take (half l.length)) i (by rw [List.length_take]; omega)
        rw [List.length_append, List.length_singleton]
        rw [List.length_take] at this; omega
      · have := ih (l.drop (half l.length)) (i - half l.length) (by rw [List.length_drop]; omega)
        rw [List.length_append, List.length_singleton]
        rw [List.length_drop] at this; omega
theorem growW_len : ∀ (N : Nat) (l : List α) (m : Nat) (wt : Bool), l.length ≤ N → (growW nd d l m wt).length ≤ l.length + 1 := by
  intro N
  induction N with
  | zero =>
    intro l m wt h
    rw [growW]
    split
    · split <;> simp
    · rw [dif_pos (by omega)]; simp
  | succ N ih =>
    intro l m wt h
    rw [growW]
    split
    · split <;> simp
    · split
      · simp
      · rename_i h1
        have h2 := half_le l.length (by omega)
        have h3 := half_pos l.length
        split
        · have := ih (l.take (half l.length)) m wt (by rw [List.length_take]; omega)
          rw [List.length_append, List.length_singleton]
          rw [List.length_take] at this; omega
        · have := ih (l.drop (half l.length)) (m - half l.length) false (by rw [List.length_drop]; omega)
          rw [List.length_append, List.length_singleton]
          rw [List.length_drop] at this; omega
end Mvt
namespace Go.Proofs.YtgkakddldobpkaaDoor
open Go.RowKit Go.Mv Mvp Mvt
attribute [local irreducible] permS permP toB turnsK squeeze permN permB spongeB feed frameL framesL tagL leafL nodeL

def growR (ls : List (List UInt8)) (m : Nat) (wt : Bool) : List (List UInt8) := growW nodeL [] (ls.map leafL) m wt
theorem pathL_one (ls : List (List UInt8)) (i : Nat) (h : ls.length ≤ 1) : pathL ls i = [] := by
  unfold pathL; rw [pathW, dif_pos (by rw [List.length_map]; exact h)]
theorem rootW_L (ls : List (List UInt8)) (h : ls.length ≠ 0) : rootW nodeL [] (ls.map leafL) = rootL ls := by unfold rootL; rw [if_neg h]
theorem pathL_lt (ls : List (List UInt8)) (i : Nat) (h : 2 ≤ ls.length) (hi : i < half ls.length) : pathL ls i = pathL (ls.take (half ls.length)) i ++ [rootL (ls.drop (half ls.length))] := by
  have h1 := half_le ls.length h
  unfold pathL
  rw [pathW.eq_1 nodeL [] (ls.map leafL), dif_neg (by rw [List.length_map]; omega), List.length_map, if_pos hi, ← List.map_take, ← List.map_drop, rootW_L _ (by rw [List.length_drop]; omega)]
theorem pathL_ge (ls : List (List UInt8)) (i : Nat) (h : 2 ≤ ls.length) (hi : ¬ i < half ls.length) : pathL ls i = pathL (ls.drop (half ls.length)) (i - half ls.length) ++ [rootL (ls.take (half ls.length))] := by
  have h1 := half_pos ls.length
  unfold pathL
  rw [pathW.eq_1 nodeL [] (ls.map leafL), dif_neg (by rw [List.length_map]; omega), List.length_map, if_neg hi, ← List.map_take, ← List.map_drop, rootW_L _ (by rw [List.length_take]; omega)]
theorem growR_eq (ls : List (List UInt8)) (wt : Bool) (h : ls.length ≠ 0) : growR ls ls.length wt = if wt then [] else [rootL ls] := by
  unfold growR
  rw [growW, if_pos (by rw [List.length_map]), rootW_L _ h]
theorem growR_le (ls : List (List UInt8)) (m : Nat) (wt : Bool) (hne : m ≠ ls.length) (h : 2 ≤ ls.length) (hi : m ≤ half ls.length) : growR ls m wt = growR (ls.take (half ls.length)) m wt ++ [rootL (ls.drop (half ls.length))] := by
  have h1 := half_le ls.length h
  unfold growR
  rw [growW.eq_1 nodeL [] (ls.map leafL), if_neg (by rw [List.length_map]; exact hne), dif_neg (by rw [List.length_map]; omega), List.length_map, if_pos hi, ← List.map_take, ← List.map_drop, rootW_L _ (by rw [List.length_drop]; omega)]
theorem growR_gt (ls : List (List UInt8)) (m : Nat) (wt : Bool) (hne : m ≠ ls.length) (h : 2 ≤ ls.length) (hi : ¬ m ≤ half ls.length) : growR ls m wt = growR (ls.drop (half ls.length)) (m - half ls.length) false ++ [rootL (ls.take (half ls.length))] := by
  have h1 := half_pos ls.length
  unfold growR
  rw [growW.eq_1 nodeL [] (ls.map leafL), if_neg (by rw [List.length_map]; exact hne), dif_neg (by rw [List.length_map]; omega), List.length_map, if_neg hi, ← List.map_take, ← List.map_drop, rootW_L _ (by rw [List.length_take]; omega)]
theorem pathL_len (ls : List (List UInt8)) (i : Nat) : (pathL ls i).length ≤ ls.length := by
  have := pathW_len nodeL [] _ (ls.map leafL) i (Nat.le_refl _)
  rwa [List.length_map] at this
theorem growR_len (ls : List (List UInt8)) (m : Nat) (wt : Bool) : (growR ls m wt).length ≤ ls.length + 1 := by
  have := growW_len nodeL [] _ (ls.map leafL) m wt (Nat.le_refl _)
  rwa [List.length_map] at this
theorem ss_append2 (a b : List (List UInt8)) : ss (a ++ b) = ss a ++ ss b := by simp [ss]
/-- a slice of strings of the call's own -/
def Strs (l : List (List UInt8)) (w : World) (e : Ending) (w' : World) : Prop := ∃ v, e = .returned v ∧ Own w' w.heap.size 9 1 v l.length (ss l) ∧ Fr Nob w w'

set_option maxHeartbeats 4000000 in
set_option maxRecDepth 1000000 in
theorem PathR_any : ∀ (N : Nat) (ls : List (List UInt8)) (n i : Nat) (a : Option Addr) (c : Nat) (w : World), n ≤ N → ls.length = n → 1 ≤ n → i < n → n ≤ 1100 → n ≤ c → (∀ x ∈ ls, x.length ≤ 90000) → Rd w a n (ss ls) →
    Calls Tryd.prog 13 #[.slice a n c, .int .i64 (i : Int)] w (Strs (pathL ls i) w) := by
  intro N
  induction N with
  | zero => intro ls n i a c w hN hl h1; omega
  | succ N ih =>
    intro ls n i a c w hN hl h1n hi hm hc hx hb
    by_cases h0 : n ≤ N
    · exact ih ls n i a c w h0 hl h1n hi hm hc hx hb
    obtain rfl : n = N + 1 := by omega
    by_cases h1 : N = 0
    · subst h1
      rw [pathL_one ls i (by omega)]
      clear ih hb hx
      go_enter Tryd.func13, Tryd.ntmps13
      go_wp2_with fail
      go_ret
      exact ⟨_, rfl, Own.nil _ _ _ _, Fr.refl _ _⟩
    · have hlt0 := pathL_lt ls i (by omega)
      have hge0 := pathL_ge ls i (by omega)
      rw [hl] at hlt0 hge0
      have hk1 := half_le (N + 1) (by omega)
      have hk2 := half_pos (N + 1)
      have HH := Lib.hid (halfR_any (N + 1) w (by omega) (by omega))
      generalize half (N + 1) = k at *
      have q1 : (((N + 1 : Nat) : Int) == 1) = false := by simp; omega
      have q3 : ((N + 1 : Nat) == 1) = false := by simp; omega
      have e1 := fun wx => run_slice_hi (P := Tryd.prog) wx Tryd.underlying22 size_str a (N + 1) c .i64 k (by omega)
      have e2 := fun wx => run_slice_lo (P := Tryd.prog) wx Tryd.underlying22 size_str a (N + 1) c .i64 k (by omega)
      have htl : (ls.take k).length = k := by rw [List.length_take]; omega
      have hdl : (ls.drop k).length = N + 1 - k := by rw [List.length_drop]; omega
      have hA : ∀ w', Fr Nob w w' → Calls Tryd.prog 12 #[.slice a k c] w' (Str (rootL (ls.take k)) w') := fun w' hf => RootR_any k (ls.take k) k a c w' (Nat.le_refl _) htl (by omega) (by omega) (fun x hm' => hx x (List.mem_of_mem_take hm')) ((rd_take hb k c (by omega) hc).still hf)
      have hB : ∀ w', Fr Nob w w' → Calls Tryd.prog 12 #[.slice (cutAt a k c) (N + 1 - k) (c - k)] w' (Str (rootL (ls.drop k)) w') := fun w' hf => RootR_any (N + 1 - k) (ls.drop k) (N + 1 - k) (cutAt a k c) (c - k) w' (Nat.le_refl _) hdl (by omega) (by omega) (fun x hm' => hx x (List.mem_of_mem_drop hm')) ((rd_drop hb k c (by omega) hc).still hf)
      have hPA : i < k → ∀ w', Fr Nob w w' → Calls Tryd.prog 13 #[.slice a k c, .int .i64 (i : Int)] w' (Strs (pathL (ls.take k) i) w') := fun hik w' hf => ih (ls.take k) k i a c w' (by omega) htl (by omega) hik (by omega) (by omega) (fun x hm' => hx x (List.mem_of_mem_take hm')) ((rd_take hb k c (by omega) hc).still hf)
      have hPB : ¬ i < k → ∀ w', Fr Nob w w' → Calls Tryd.prog 13 #[.slice (cutAt a k c) (N + 1 - k) (c - k), .int .i64 ((i - k : Nat) : Int)] w' (Strs (pathL (ls.drop k) (i - k)) w') := fun hik w' hf => ih (ls.drop k) (N + 1 - k) (i - k) (cutAt a k c) (c - k) w' (by omega) hdl (by omega) (by omega) (by omega) (by omega) (fun x hm' => hx x (List.mem_of_mem_drop hm')) ((rd_drop hb k c (by omega) hc).still hf)
      have hlA := pathL_len (ls.take k) i
      have hlB := pathL_len (ls.drop k) (i - k)
      rw [htl] at hlA
      rw [hdl] at hlB
      generalize rootL (ls.take k) = ra at *
      generalize rootL (ls.drop k) = rb at *
      generalize pathL (ls.take k) i = pa at *
      generalize pathL (ls.drop k) (i - k) = pb at *
      generalize pathL ls i = pp at *
      have HA := Lib.hid hA
      have HB := Lib.hid hB
      have HLT := Lib.hid hlt0
      have HGE := Lib.hid hge0
      have HPA := Lib.hid hPA
      have HPB := Lib.hid hPB
      clear ih hb hx hA hB hPA hPB hl h0 h1 hlt0 hge0 htl hdl
      go_enter Tryd.func13, Tryd.ntmps13
      go_wp2_with fail
      refine HH.out.mono ?_
      rintro e w1 ⟨rfl, rfl⟩
      have hdr := (Fr.refl Nob w).drew
      have hsz : w.heap.size ≤ w.heap.size := Nat.le_refl _
      by_cases hik : i < k
      · have hikI : (i : Int) < (k : Int) := by omega
        have hP := HPA.out hik
        have HP := Lib.hid hP; clear hP HPA HPB HGE
        have hpp := HLT.out hik
        subst hpp
        clear HLT
        go_wp2_with fail
        go_region_held3 (fun w' => Fr Nob w w')
          (first | (exact hdr) | (exact hfz) | (exact Fr.then (by assumption) hfr9) | (exact Fr.then (by assumption) hfp9) | (exact Fr.alloc (by assumption) _))
          (first | (go_at_call_of 13 (Value.slice a k c); refine (HP.out _ (by assumption)).mono ?_; rintro e wp ⟨vp, rfl, hownp, hfp9⟩)
                 | (go_at_call_of 12 (Value.slice (cutAt a k c) (N + 1 - k) (c - k)); refine (HB.out _ (by assumption)).mono ?_; rintro e wr9 ⟨rfl, hfr9⟩)
                 | (refine step_append rfl rfl Tryd.underlying22 info_str rfl (by decide) ((hownp.still hfr9).still ((Fr.refl Nob _).alloc _)) rfl rfl (Rd.whole (Has.new _ _ _)) (fun u hu => by simp only [List.mem_singleton] at hu; subst hu; rfl) (by unfold maxLen; omega) (by omega) (Fr.size (S := Nob) (w := w) (by assumption)) ?_; intro v9 w9 hown9 hf9; have hfz := ((hownp.still hfr9).still ((Fr.refl Nob _).alloc _)).fr (S := Nob) (w0 := w) (by assumption) (Nat.le_refl _) hf9))
        all_goals
          go_wp2_with fail
          go_ret
          refine ⟨_, rfl, ?_, by assumption⟩
          rw [ss_append2, List.length_append]
          exact hown9
      · have hikI : ¬ (i : Int) < (k : Int) := by omega
        have hP := HPB.out hik
        have e4 : IntKind.i64.wrap ((i : Int) - (k : Int)) = ((i - k : Nat) : Int) := by rw [IntWalk.i64_in _ (by omega)]; omega
        generalize i - k = d at *
        have HP := Lib.hid hP; clear hP HPA HPB HLT
        have hpp := HGE.out hik
        subst hpp
        clear HGE
        go_wp2_with fail
        go_region_held3 (fun w' => Fr Nob w w')
          (first | (exact hdr) | (exact hfz) | (exact Fr.then (by assumption) hfr9) | (exact Fr.then (by assumption) hfp9) | (exact Fr.alloc (by assumption) _))
          (first | (go_at_call_of 13 (Value.slice (cutAt a k c) (N + 1 - k) (c - k)); refine (HP.out _ (by assumption)).mono ?_; rintro e wp ⟨vp, rfl, hownp, hfp9⟩)
                 | (go_at_call_of 12 (Value.slice a k c); refine (HA.out _ (by assumption)).mono ?_; rintro e wr9 ⟨rfl, hfr9⟩)
                 | (refine step_append rfl rfl Tryd.underlying22 info_str rfl (by decide) ((hownp.still hfr9).still ((Fr.refl Nob _).alloc _)) rfl rfl (Rd.whole (Has.new _ _ _)) (fun u hu => by simp only [List.mem_singleton] at hu; subst hu; rfl) (by unfold maxLen; omega) (by omega) (Fr.size (S := Nob) (w := w) (by assumption)) ?_; intro v9 w9 hown9 hf9; have hfz := ((hownp.still hfr9).still ((Fr.refl Nob _).alloc _)).fr (S := Nob) (w0 := w) (by assumption) (Nat.le_refl _) hf9))
        all_goals
          go_wp2_with fail
          go_ret
          refine ⟨_, rfl, ?_, by assumption⟩
          rw [ss_append2, List.length_append]
          exact hown9
end Go.Proofs.YtgkakddldobpkaaDoor

/- The reference's grows, Grown. -/
namespace Go.Proofs.YtgkakddldobpkaaDoor
open Go.RowKit Go.Mv Mvp Mvt
attribute [local irreducible] permS permP toB turnsK squeeze permN permB spongeB feed frameL framesL tagL leafL nodeL

/-- three results -/
def Three (p : (List UInt8 × List UInt8) × Bool) (w : World) (e : Ending) (w' : World) : Prop := e = .returned (.tuple #[.string (mkS p.1.1), .string (mkS p.1.2), .bool p.2]) ∧ Fr Nob w w'

theorem growsR_len (old : List UInt8) (ho : old.length ≤ 70000) : ∀ (r : List (List UInt8)) (m n : Nat) (wt : Bool), (∀ x ∈ r, x.length = 32) → (growsR nodeL [] old r m n wt).1.1.length ≤ 70000 ∧ (growsR nodeL [] old r m n wt).1.2.length ≤ 70000
  | [], m, n, wt, _ => by simp only [growsR]; split <;> (try split) <;> simp [ho]
  | x :: r, m, n, wt, hx => by
    have h1 := hx x (by simp)
    have hI := fun m n wt => growsR_len old ho r m n wt (fun y hy => hx y (by simp [hy]))
    simp only [growsR]
    split
    · split
      · exact ⟨ho, ho⟩
      · split
        · simp [h1]
        · simp
    · split
      · exact ⟨(hI _ _ _).1, by simp [nodeL_len]⟩
      · simp [nodeL_len]

/-- what the reference answers -/
def grownRL (p : (List UInt8 × List UInt8) × Bool) (old root : List UInt8) : Bool := p.2 && (decide (p.1.1 = old) && decide (p.1.2 = root))

end Go.Proofs.YtgkakddldobpkaaDoor

/- The law TreeGrew. -/
namespace Go.Proofs.YtgkakddldobpkaaDoor
open Go.RowKit Go.Mv Mvp Mvt
attribute [local irreducible] permS permP toB turnsK squeeze permN permB spongeB feed frameL framesL tagL leafL nodeL

theorem grownRL_opt (p : (List UInt8 × List UInt8) × Bool) (old root : List UInt8) : grownRL p old root = match opt p with | some (x, y) => decide (x = old) && decide (y = root) | none => false := by
  obtain ⟨⟨x, y⟩, b⟩ := p
  cases b <;> simp [grownRL, opt]
theorem grown_law (old root : List UInt8) (m n : Nat) (ls : List (List UInt8)) (hm : 1 ≤ m) (hmn : m < n) : grownRL (growsR nodeL [] old ls.reverse m n true) old root = grownL old root m n (glist old m ls) := by
  rw [grownRL_opt, grownL]
  by_cases hz : m &&& (m - 1) = 0
  · obtain ⟨s, rfl⟩ := (and_pred m hm).1 hz
    rw [grows_with nodeL [] old s ls.reverse n (by omega), glist, if_pos hz]
    have := grows_climb nodeL [] old (ls.reverse ++ [old]) (2 ^ s) n hm (by omega) (.inl hmn)
    rw [List.reverse_append, List.reverse_reverse] at this
    rw [← this]; rfl
  · have hne : ∀ s, m ≠ 2 ^ s := fun s h => hz ((and_pred m hm).2 ⟨s, h⟩)
    rw [grows_with2 nodeL [] old m hne ls.reverse n hmn, glist, if_neg hz]
    have := grows_climb nodeL [] old ls.reverse m n hm (by omega) (.inl hmn)
    rw [List.reverse_reverse] at this
    rw [← this]; rfl
theorem grown_law_eq (old root : List UInt8) (m : Nat) (ls : List (List UInt8)) : grownRL (growsR nodeL [] old ls.reverse m m true) old root = (decide (ls.length = 0) && decide (old = root)) := by
  cases h : ls.reverse with
  | nil =>
    have : ls = [] := by simpa using h
    subst this
    simp [growsR, grownRL]
  | cons x r =>
    have : ls ≠ [] := by intro e; subst e; simp at h
    have h0 : ¬ ls.length = 0 := by simpa using this
    simp [growsR, grownRL, h0]

end Go.Proofs.YtgkakddldobpkaaDoor

/- The tree, plain: each leaf lies where its path says; a list that grew goes on with each of its beginnings. -/
namespace Mvt
variable {α : Type} (nd : α → α → α) (d : α)
theorem lies_path : ∀ (N : Nat) (l : List α) (i : Nat), l.length ≤ N → i < l.length → leadsR nd d (l.getD i d) (pathW nd d l i).reverse l.length i = (rootW nd d l, true) := by
  intro N
  induction N with
  | zero => intro l i h hi; omega
  | succ N ih =>
    intro l i h hi
    by_cases h1 : l.length ≤ 1
    · rw [pathW.eq_1 nd d l, rootW.eq_1 nd d l, dif_pos h1, dif_pos h1]
      have e1 : l.length = 1 := by omega
      have e0 : i = 0 := by omega
      subst e0
      simp [leadsR, e1]
    · have h2 := half_le l.length (by omega)
      have h3 := half_pos l.length
      rw [pathW.eq_1 nd d l, rootW.eq_1 nd d l, dif_neg h1, dif_neg h1]
      by_cases hk : i < half l.length
      · have hI := ih (l.take (half l.length)) i (by rw [List.length_take]; omega) (by rw [List.length_take]; omega)
        have e1 : (l.take (half l.length)).length = half l.length := by rw [List.length_take]; omega
        have e2 : (l.take (half l.length)).getD i d = l.getD i d := by simp [List.getD_eq_getElem?_getD, List.getElem?_take, hk]
        rw [e1, e2] at hI
        rw [if_pos hk, List.reverse_append, List.reverse_singleton, List.singleton_append, leadsR, if_neg (by omega), if_pos hk, hI]
      · have hI := ih (l.drop (half l.length)) (i - half l.length) (by rw [List.length_drop]; omega) (by rw [List.length_drop]; omega)
        have e1 : (l.drop (half l.length)).length = l.length - half l.length := by rw [List.length_drop]
        have e2 : (l.drop (half l.length)).getD (i - half l.length) d = l.getD i d := by
          simp [List.getD_eq_getElem?_getD, List.getElem?_drop, show half l.length + (i - half l.length) = i by omega]
        rw [e1, e2] at hI
        rw [if_neg hk, List.reverse_append, List.reverse_singleton, List.singleton_append, leadsR, if_neg (by omega), if_neg hk, hI]
theorem half_take (l : List α) (m : Nat) (h1 : half l.length < m) (h2 : m ≤ l.length) : half m = half l.length := by
  have h3 := half_lt l.length (by have := half_pos l.length; omega)
  have := half_is (Nat.log2 (l.length - 1)) m (by unfold half at h1; exact h1) (by unfold half at h3; rw [Nat.pow_succ]; omega)
  rw [this]; rfl
theorem grows_growth : ∀ (N : Nat) (l : List α) (m : Nat) (wt : Bool) (old : α), l.length ≤ N → 1 ≤ m → m ≤ l.length → (wt = true → old = rootW nd d (l.take m)) →
    growsR nd d old (growW nd d l m wt).reverse m l.length wt = ((rootW nd d (l.take m), rootW nd d l), true) := by
  intro N
  induction N with
  | zero => intro l m wt old h h1 h2; omega
  | succ N ih =>
    intro l m wt old h h1 h2 ho
    by_cases he : m = l.length
    · rw [growW, if_pos he]
      have et : l.take m = l := List.take_of_length_le (by omega)
      rw [et] at ho ⊢
      cases wt with
      | true => rw [ho rfl]; simp [growsR, he]
      | false => simp [growsR, he]
    · rw [growW, if_neg he, dif_neg (by omega)]
      have h3 := half_le l.length (by omega)
      have h4 := half_pos l.length
      have hr : rootW nd d l = nd (rootW nd d (l.take (half l.length))) (rootW nd d (l.drop (half l.length))) := by rw [rootW.eq_1 nd d l, dif_neg (by omega)]
      by_cases hk : m ≤ half l.length
      · have e1 : (l.take (half l.length)).length = half l.length := by rw [List.length_take]; omega
        have e2 : (l.take (half l.length)).take m = l.take m := by rw [List.take_take, Nat.min_eq_left hk]
        have hI := ih (l.take (half l.length)) m wt old (by omega) h1 (by omega) (by rw [e2]; exact ho)
        rw [e1, e2] at hI
        rw [if_pos hk, List.reverse_append, List.reverse_singleton, List.singleton_append, growsR, if_neg he, if_pos hk, hI, hr]
      · have e1 : (l.drop (half l.length)).length = l.length - half l.length := by rw [List.length_drop]
        have hI := ih (l.drop (half l.length)) (m - half l.length) false old (by omega) (by omega) (by omega) (by simp)
        rw [e1] at hI
        have e5 : half m = half l.length := half_take l m (by omega) h2
        have hrm : rootW nd d (l.take m) = nd (rootW nd d (l.take (half l.length))) (rootW nd d ((l.drop (half l.length)).take (m - half l.length))) := by
          have el : (l.take m).length = m := by rw [List.length_take]; omega
          rw [rootW.eq_1 nd d (l.take m), dif_neg (by omega), el, e5, List.take_take, Nat.min_eq_left (by omega), List.drop_take]
        rw [if_neg hk, List.reverse_append, List.reverse_singleton, List.singleton_append, growsR, if_neg he, if_neg hk, hI, hr, hrm]
end Mvt
namespace Go.Proofs.YtgkakddldobpkaaDoor
open Go.RowKit Go.Mv Mvp Mvt
attribute [local irreducible] permS permP toB turnsK squeeze permN permB spongeB feed frameL framesL tagL leafL nodeL

theorem rootL_W (ls : List (List UInt8)) (h : 1 ≤ ls.length) : rootW nodeL [] (ls.map leafL) = rootL ls := rootW_L ls (by omega)
theorem lies_true (ls : List (List UInt8)) (i : Nat) (hi : i < ls.length) : liesL (rootL ls) ls.length i (ls.getD i []) (pathL ls i) = true := by
  have h1 := lies_path nodeL [] _ (ls.map leafL) i (Nat.le_refl _) (by rw [List.length_map]; exact hi)
  have e1 : (ls.map leafL).getD i [] = leafL (ls.getD i []) := by simp [List.getD_eq_getElem?_getD, hi]
  rw [e1, rootL_W ls (by omega), List.length_map] at h1
  have h2 := leads_climb nodeL [] (leafL (ls.getD i [])) (pathL ls i).reverse ls.length i (by omega) hi
  rw [List.reverse_reverse] at h2
  unfold pathL at *
  rw [h1] at h2
  unfold liesL
  rw [h2]
  simp
theorem grown_true (ls : List (List UInt8)) (m : Nat) (h1 : 1 ≤ m) (h2 : m < ls.length) : grownL (rootL (ls.take m)) (rootL ls) m ls.length (glist (rootL (ls.take m)) m (growL ls m)) = true := by
  have h3 := grows_growth nodeL [] _ (ls.map leafL) m true (rootL (ls.take m)) (Nat.le_refl _) h1 (by rw [List.length_map]; omega) (fun _ => by rw [← List.map_take, rootL_W _ (by rw [List.length_take]; omega)])
  rw [List.length_map, ← List.map_take, rootL_W _ (by rw [List.length_take]; omega), rootL_W ls (by omega)] at h3
  rw [← grown_law _ _ _ _ _ h1 h2]
  unfold growL
  rw [h3]
  simp [grownRL]
end Go.Proofs.YtgkakddldobpkaaDoor

/- mintvaultlaw8.TreeTrue: the walk of the law. -/
namespace Go.Proofs.YtgkakddldobpkaaDoor
open Go.RowKit Go.Mv Mvp Mvt
attribute [local irreducible] permS permP toB turnsK squeeze permN permB spongeB feed frameL framesL tagL leafL nodeL

def kFirst : List UInt8 := [102, 105, 114, 115, 116]
theorem kFirst_eq : (⟨#[102, 105, 114, 115, 116]⟩ : ByteArray) = mkS kFirst := rfl
/-- a number made not negative -/
def absN (i : Int) : Nat := if i < 0 then (-(i + 1)).toNat else i.toNat
theorem absN_le (i : Int) (h : -9223372036854775808 ≤ i ∧ i ≤ 9223372036854775807) : absN i ≤ 9223372036854775807 := by unfold absN; split <;> omega
/-- the leaves of the law -/
def firstL (ls : List (List UInt8)) : List (List UInt8) := (kFirst :: ls).take 1024
theorem firstL_len (ls : List (List UInt8)) (h : ls.length ≤ 1024) : (firstL ls).length = min 1024 (ls.length + 1) := by unfold firstL; rw [List.length_take, List.length_cons]
theorem firstL_short (ls : List (List UInt8)) (h : ∀ x ∈ ls, x.length ≤ 70000) : ∀ x ∈ firstL ls, x.length ≤ 70000 := by
  intro x hx
  have := List.mem_of_mem_take hx
  rcases List.mem_cons.1 this with rfl | h1
  · decide
  · exact h x h1
theorem SOwn.parts {w : World} {base : Nat} {v : Value} {ls : List (List UInt8)} (h : SOwn w base v ls) (hx : ∀ x ∈ ls, x.length ≤ 1000000) : ∃ a c, v = .slice a ls.length c ∧ ls.length ≤ c ∧ PartsAt w a ls := h.lown.parts hx
theorem sz32_of (ls : List (List UInt8)) (h : ∀ x ∈ ls, x.length = 32) : sz32 ls = true := by
  unfold sz32
  rw [List.all_eq_true]
  intro x hx
  simp [h x hx]
theorem pathL_32 (ls : List (List UInt8)) (i : Nat) (hi : i < ls.length) : ∀ x ∈ pathL ls i, x.length = 32 := by
  intro x hx
  unfold pathL at hx
  obtain ⟨K, hK⟩ : ∃ K, (lv nodeL [] (ls.map leafL) K).length ≤ 1 := ⟨ls.length, by
    have h1 : ¬ 1 < (lv nodeL [] (ls.map leafL) ls.length).length := by
      rw [lv_len, List.length_map]
      have := Nat.lt_two_pow_self (n := ls.length)
      omega
    omega⟩
  rw [← path_all nodeL [] (ls.map leafL) i K (by rw [List.length_map]; exact hi) hK] at hx
  exact upsL_32 ls K 0 i x hx
theorem growL_32 (ls : List (List UInt8)) (m : Nat) (h1 : 1 ≤ m) (h2 : m < ls.length) (hb : ls.length ≤ 1024) : ∀ x ∈ growL ls m, x.length = 32 := by
  intro x hx
  obtain ⟨K, hK⟩ : ∃ K, (lv nodeL [] (ls.map leafL) K).length ≤ 1 := ⟨ls.length, by
    have h1 : ¬ 1 < (lv nodeL [] (ls.map leafL) ls.length).length := by
      rw [lv_len, List.length_map]
      have := Nat.lt_two_pow_self (n := ls.length)
      omega
    omega⟩
  obtain ⟨q, hq, -⟩ := ctz_spec m h1 (by omega)
  obtain ⟨hs, hg⟩ := grow_all nodeL [] (ls.map leafL) (Lib.ctz 64 m) (2 * q) m K hq (by omega) (by rw [List.length_map]; exact h2) hK
  have hxl : 2 * q < (lvN ls (Lib.ctz 64 m)).length := (lv_len nodeL [] (ls.map leafL) _ _).2 (by
    rw [List.length_map]
    have h3 := Nat.two_pow_pos (Lib.ctz 64 m)
    rw [Nat.add_mul, Nat.one_mul] at hq
    omega)
  unfold growL at hx
  rw [hg, List.mem_append] at hx
  rcases hx with hx | hx
  · split at hx
    · simp at hx
    · simp only [List.mem_singleton] at hx
      subst hx
      exact lvN_get32 ls _ _ hxl
  · exact upsL_32 ls _ _ _ x hx

set_option maxHeartbeats 4000000 in
set_option maxRecDepth 1000000 in
theorem true_yes (p : Option Addr) (c : Nat) (ls : List (List UInt8)) (i m : Int) (w : World) (hm : ls.length ≤ 1024) (hmc : ls.length ≤ c) (hb : Rd w p ls.length (ss ls)) (hx : ∀ x ∈ ls, x.length ≤ 70000) (hx2 : ∀ x ∈ ls, x.length ≤ 140737488351232) (hsm : sumL ls ≤ 65536)
    (hi : -9223372036854775808 ≤ i ∧ i ≤ 9223372036854775807) (hmi : -9223372036854775808 ≤ m ∧ m ≤ 9223372036854775807) (hT : TabAt 0 Lib.deBruijn64tab w) :
    Calls Tryd.prog 4 #[.slice p ls.length c, .int .i64 i, .int .i64 m] w fun e w' => e = .returned (.bool true) ∧ Fr Nob w w' := by
  have hsmall := small_short p c ls w hx2 (by omega) hb
  rw [decide_eq_true hsm] at hsmall
  have HSM := Lib.hid hsmall
  have HT := Lib.hid hT
  have hlenL := firstL_len ls hm
  have hshort := firstL_short ls hx
  have hLe : firstL ls = (kFirst :: ls).take 1024 := rfl
  have HLE := Lib.hid hLe
  have HSH := Lib.hid hshort
  have hI : ¬ (1024 : Int) < (ls.length : Int) := by omega
  clear hsmall hsm hx hx2 hT hLe hshort
  generalize firstL ls = L at *
  have HLL := Lib.hid hlenL
  have hn1 : 1 ≤ L.length := by omega
  have hn2 : L.length ≤ 1024 := by omega
  clear hlenL
  have hai := absN_le i hi
  have ham := absN_le m hmi
  obtain ⟨hi1, hi2⟩ := hi
  obtain ⟨hm1, hm2⟩ := hmi
  go_enter Tryd.func4, Tryd.ntmps4
  go_wp2_with fail
  refine HSM.out.mono ?_
  rintro e w' ⟨rfl, rfl⟩
  go_wp2_with (with_reducible refine wl_stop (o := ⟨some 28, _, _, _, _, _⟩) ?_)
  unfold Stop
  refine wl_slit rfl rfl Tryd.underlying22 info_str [.string (mkS kFirst)] rfl (by simp; rfl) rfl rfl ?_
  intro w2 hh2 hf2 hz2
  clear hz2
  have hb2 := hb.still hf2
  have hgs := hf2.size
  have hdst := Own.made hh2 w.heap.size (Nat.le_refl _) 1 1 1 (Nat.le_refl _) (by decide) (by simp)
  go_wp2_with (with_reducible refine wl_stop (o := ⟨some 30, _, _, _, _, _⟩) ?_)
  unfold Stop
  refine wl_append rfl rfl Tryd.underlying22 info_str rfl (by decide) hdst rfl rfl (by rw [Nat.mul_one]; exact hb2) (fun u hu => by simp only [ss, List.mem_map] at hu; obtain ⟨x, _, rfl⟩ := hu; rfl) (by unfold maxLen; omega) (by omega) hgs ?_
  intro v3 w3 hown3 hf3 hb3
  clear hb3
  have hfr3 := hdst.fr hf2 (Nat.le_refl _) hf3
  obtain ⟨a3, c3, rfl, hc3, hr3, -⟩ := hown3.form
  rw [Nat.mul_one] at hr3
  have hr3' : Rd w3 a3 (1 + ls.length) (ss (kFirst :: ls)) := by simpa [ss] using hr3
  clear hown3 hf3 hdst hh2 hb2 hf2 hr3 hb
  generalize w.heap.size = g0 at *
  go_upto_if 33 with fail
  go_cut [0] (fun v wx => ∃ (a' : Option Addr) (c' : Nat), v = .slice a' L.length c' ∧ L.length ≤ c' ∧ Rd wx a' L.length (ss L) ∧ Fr Nob w wx)
  case first =>
    by_cases hfull : 1024 < 1 + ls.length
    · have hfI : (1024 : Int) < 1 + (ls.length : Int) := by omega
      have hL24 : L.length = 1024 := by have := HLL.out; omega
      have e1 := fun wx => run_slice_hi (P := Tryd.prog) wx Tryd.underlying22 size_str a3 (1 + ls.length) c3 .i64 1024 (by omega)
      have hrd : Rd w3 a3 1024 (ss L) := by rw [HLE.out]; exact rd_take hr3' 1024 c3 (by omega) hc3
      have hcc : 1024 ≤ c3 := by omega
      have e1' : ∀ wx, (Instr.sliceAt 22 (.slice a3 (1 + ls.length) c3) none (some (.int .i64 1024)) none).run Tryd.prog wx = .ok (.slice a3 1024 c3) wx := e1
      clear e1
      go_wp2_with fail
      go_meet
      exact ⟨a3, c3, by rw [hL24], by omega, by rw [hL24]; exact hrd, hfr3⟩
    · have hfI : ¬ (1024 : Int) < 1 + (ls.length : Int) := by omega
      have hL1 : L.length = 1 + ls.length := by have := HLL.out; omega
      have hrd : Rd w3 a3 (1 + ls.length) (ss L) := by
        have e : L = kFirst :: ls := by rw [HLE.out, List.take_of_length_le (by rw [List.length_cons]; omega)]
        rw [e]; exact hr3'
      go_wp2_with fail
      go_meet
      exact ⟨a3, c3, by rw [hL1], by omega, by rw [hL1]; exact hrd, hfr3⟩
  case rest =>
  obtain ⟨al, cl, rfl, hcl, hrl, hfl⟩ := hcut
  clear hr3' hfr3 hc3 hmc hI
  go_upto_if 39 with fail
  go_cut [1] (fun v wx => v = .int .i64 ((absN i : Nat) : Int) ∧ wc = wx)
  case first =>
    by_cases h0 : i < 0
    · have e : ((absN i : Nat) : Int) = -(i + 1) := by unfold absN; rw [if_pos h0]; omega
      have E := Lib.hid e; clear e
      go_wp2_with fail
      go_meet
      exact ⟨by rw [E.out], rfl⟩
    · have e : ((absN i : Nat) : Int) = i := by unfold absN; rw [if_neg h0]; omega
      have E := Lib.hid e; clear e
      go_wp2_with fail
      go_meet
      exact ⟨by rw [E.out], rfl⟩
  case rest =>
  obtain ⟨rfl, hw1⟩ := hcut
  subst hw1
  go_upto_if 44 with fail
  go_cut [2] (fun v wx => v = .int .i64 ((absN m : Nat) : Int) ∧ wc = wx)
  case first =>
    by_cases h0 : m < 0
    · have e : ((absN m : Nat) : Int) = -(m + 1) := by unfold absN; rw [if_pos h0]; omega
      have E := Lib.hid e; clear e
      go_wp2_with fail
      go_meet
      exact ⟨by rw [E.out], rfl⟩
    · have e : ((absN m : Nat) : Int) = m := by unfold absN; rw [if_neg h0]; omega
      have E := Lib.hid e; clear e
      go_wp2_with fail
      go_meet
      exact ⟨by rw [E.out], rfl⟩
  case rest =>
  obtain ⟨rfl, hw1⟩ := hcut
  subst hw1
  clear hi1 hi2 hm1 hm2
  generalize absN i = ia at *
  generalize absN m = ma at *
  have hrem1 : (ia : Int) % (L.length : Int) = ((ia % L.length : Nat) : Int) := by simp
  have hrem2 : (ma : Int) % (L.length : Int) = ((ma % L.length : Nat) : Int) := by simp
  have hj1 : ia % L.length < L.length := Nat.mod_lt _ (by omega)
  have hj2 : ma % L.length < L.length := Nat.mod_lt _ (by omega)
  have hTc := TabAt.still2 HT.out hfl
  have HTC := Lib.hid hTc; clear hTc HT
  generalize ia % L.length = j at *
  generalize ma % L.length = q at *
  have hLn := HLL.out
  have hxL : ∀ x ∈ L, x.length ≤ 1000000 := fun x hx => by have := HSH.out x hx; omega
  have HXL := Lib.hid hxL; clear hxL
  obtain ⟨wL, hwL⟩ : ∃ wL, wL = wc := ⟨_, rfl⟩
  subst hwL
  have e1 : ∀ wx, (Instr.sliceAt 22 (.slice al L.length cl) none (some (.int .i64 ((q : Int) + 1))) none).run Tryd.prog wx = .ok (.slice al (q + 1) cl) wx := fun wx => by
    have := run_slice_hi (P := Tryd.prog) wx Tryd.underlying22 size_str al L.length cl .i64 (q + 1) (by omega)
    simpa using this
  have hql : (L.take (q + 1)).length = q + 1 := by rw [List.length_take]; omega
  have hrq : Rd wL al (q + 1) (ss (L.take (q + 1))) := rd_take hrl (q + 1) cl (by omega) hcl
  have HQL := Lib.hid hql; clear hql
  have HRQ := Lib.hid hrq; clear hrq
  clear hLn
  go_wp2_with fail
  refine (lists_any al cl L wL (by omega) HXL.out hrl).mono ?_
  rintro e w4 ⟨v4, rfl, hL4, hf4⟩
  obtain ⟨a4, c4, rfl, hc4, hp4⟩ := hL4.parts HXL.out
  go_wp2_with fail
  refine (TRoot_any a4 c4 L w4 hn2 hp4).mono ?_
  rintro e w5 ⟨v5, rfl, ho5, hf5⟩
  obtain ⟨a5, c5, rfl, hc5, -⟩ := id ho5.form
  have hF5 := hf4.then hf5
  clear hL4 hp4 hf4 hf5 hc4
  -- the first ones
  have HLT := Lib.hid (fun w' (hf : Fr Nob wL w') => lists_any al cl (L.take (q + 1)) w' (by have := HQL.out; omega) (fun x hx => HXL.out x (List.mem_of_mem_take hx)) (by rw [HQL.out]; exact HRQ.out.still hf))
  have HLA := Lib.hid (fun w' (hf : Fr Nob wL w') => lists_any al cl L w' (by omega) HXL.out (hrl.still hf))
  have hlt := HLT.out w5 hF5
  rw [HQL.out] at hlt
  have HLT5 := Lib.hid hlt; clear hlt
  go_wp2_with fail
  refine HLT5.out.mono ?_
  rintro e w6 ⟨v6, rfl, hL6, hf6⟩
  obtain ⟨a6, c6, rfl, hc6, hp6⟩ := hL6.parts (fun x hx => HXL.out x (List.mem_of_mem_take hx))
  have hroot6 := TRoot_any a6 c6 (L.take (q + 1)) w6 (by have := HQL.out; omega) hp6
  rw [HQL.out] at hroot6 ⊢
  have HR6 := Lib.hid hroot6; clear hroot6
  have ho6 := ho5.still hf6
  have hF6 := hF5.then hf6
  clear hL6 hp6 hf6 hF5 ho5 HLT HLT5 hc6
  go_wp2_with fail
  refine HR6.out.mono ?_
  rintro e w7 ⟨v7, rfl, hold7, hf7⟩
  obtain ⟨a7, c7, rfl, hc7, -⟩ := id hold7.form
  have ho7 := ho6.still hf7
  have hF7 := hF6.then hf7
  clear HR6 ho6 hF6 hf7
  go_wp2_with fail
  refine (HLA.out w7 hF7).mono ?_
  rintro e w8 ⟨v8, rfl, hL8, hf8⟩
  obtain ⟨a8, c8, rfl, hc8, hp8⟩ := hL8.parts HXL.out
  have ho8 := ho7.still hf8
  have hold8 := hold7.still hf8
  have hF8 := hF7.then hf8
  clear hL8 hf8 hF7 ho7 hold7 hc8
  go_wp2_with fail
  refine (TPath_any a8 c8 L j w8 hn2 hj1 hp8).mono ?_
  rintro e w9 ⟨v9, rfl, hS9, hf9⟩
  have ho9 := ho8.still hf9
  have hold9 := hold8.still hf9
  have hF9 := hF8.then hf9
  obtain ⟨ap, cp, rfl, hcp, -⟩ := hS9.parts (fun x hx => by rw [pathL_32 L j hj1 x hx]; decide)
  clear hp8 hf9 hF8 ho8 hold8
  go_wp2_with fail
  refine (HLA.out w9 hF9).mono ?_
  rintro e w10 ⟨v10, rfl, hL10, hf10⟩
  obtain ⟨a10, c10, rfl, hc10, hp10⟩ := hL10.parts HXL.out
  have ho10 := ho9.still hf10
  have hold10 := hold9.still hf10
  have hF10 := hF9.then hf10
  have hS10 := hS9.still hf10
  clear hL10 hf10 hF9 ho9 hold9 hS9 hc10
  have hgrow : ∃ gl : List (List UInt8), (∀ x ∈ gl, x.length = 32) ∧ gl.length ≤ 2000 ∧ (∀ (a0 : Option Addr) (n0 c0 : Nat) (a1 : Option Addr) (n1 c1 : Nat) (pg : Option Addr) (cg : Nat) (w0 : World), gl.length ≤ cg → PartsAt w0 pg gl → PartIs w0 (.slice a0 n0 c0) (rootL (L.take (q + 1))) → RdB w0 a1 n1 (rootL L) →
      Calls Tryd.prog 17 #[.slice a0 n0 c0, .int .i64 ((q + 1 : Nat) : Int), .slice a1 n1 c1, .int .i64 (L.length : Int), .slice pg gl.length cg] w0 fun e w' => e = .returned (.bool true) ∧ Fr Nob w0 w') ∧
      Calls Tryd.prog 10 #[.slice a10 L.length c10, .int .i64 ((q + 1 : Nat) : Int)] w10 fun e w' => ∃ v, e = .returned (.tuple #[v, .int .i64 0]) ∧ SOwn w' w10.heap.size v gl ∧ Fr Nob w10 w' := by
    by_cases he : q + 1 = L.length
    · refine ⟨[], by simp, by simp, ?_, ?_⟩
      · intro a0 n0 c0 a1 n1 c1 pg cg w0 _ hpg ho hr
        rw [he]
        obtain ⟨_, _, _, hv, h1, h2, h3, h4⟩ := ho
        simp only [Value.slice.injEq] at hv
        obtain ⟨rfl, rfl, rfl⟩ := hv
        refine (grown_eq a0 n0 c0 (rootL (L.take (q + 1))) L.length a1 n1 c1 (rootL L) pg cg [] w0 (by simp) hpg h3 hr hn1 (by omega) rfl).mono ?_
        rintro e w' ⟨rfl, hf⟩
        refine ⟨?_, hf⟩
        rw [show L.take (q + 1) = L from List.take_of_length_le (by omega)]
        simp
      · rw [he]
        refine (TGrowth_all a10 L.length c10 w10 hn2 hn1).mono ?_
        rintro e w' ⟨rfl, rfl⟩
        exact ⟨_, rfl, SOwn.nil _ _, Fr.refl _ _⟩
    · refine ⟨growL L (q + 1), growL_32 L (q + 1) (by omega) (by omega) hn2, ?_, ?_, ?_⟩
      · have := growR_len L (q + 1) true
        have e : growR L (q + 1) true = growL L (q + 1) := rfl
        rw [e] at this; omega
      · intro a0 n0 c0 a1 n1 c1 pg cg w0 hcg hpg ho hr
        have hgl := growR_len L (q + 1) true
        have e : growR L (q + 1) true = growL L (q + 1) := rfl
        rw [e] at hgl
        refine (grown_lt a0 n0 c0 (rootL (L.take (q + 1))) (q + 1) L.length a1 n1 c1 (rootL L) pg cg (growL L (q + 1)) w0 (by omega) hcg hpg ho hr (by omega) (by omega) (by omega) (sz32_of _ (growL_32 L (q + 1) (by omega) (by omega) hn2))).mono ?_
        rintro e w' ⟨rfl, hf⟩
        rw [grown_true L (q + 1) (by omega) (by omega)]
        exact ⟨rfl, hf⟩
      · exact TGrowth_any a10 c10 L (q + 1) w10 hn2 (by omega) (by omega) hp10 (TabAt.still2 HTC.out hF10)
  obtain ⟨gl, hg32, hglen, hgg, hgc⟩ := hgrow
  rw [show ((q + 1 : Nat) : Int) = (q : Int) + 1 by omega] at hgg hgc
  have HG32 := Lib.hid hg32
  have HGG := Lib.hid hgg
  have HGC := Lib.hid hgc
  clear hg32 hgg hgc hp10
  go_wp2_with fail
  refine HGC.out.mono ?_
  rintro e w11 ⟨v11, rfl, hS11, hf11⟩
  obtain ⟨ag, cg, rfl, hcg, -⟩ := hS11.parts (fun x hx => by rw [HG32.out x hx]; decide)
  have ho11 := ho10.still hf11
  have hold11 := hold10.still hf11
  have hSp11 := hS10.still hf11
  have hF11 := hF10.then hf11
  clear hf11 hF10 hS10 ho10 hold10 HGC HLA
  obtain ⟨bl, ol, rfl, hat⟩ := (hrl.still hF11).at (by omega)
  have hcj : w11.cell? ⟨bl, ol + j, none⟩ = some (.string (mkS (L.getD j []))) := hat j _ (ss_get L j hj1)
  have hlj : (L.getD j []).length ≤ 1000000 := by
    rw [List.getD_eq_getElem?_getD, List.getElem?_eq_getElem hj1]
    exact HXL.out _ (List.getElem_mem _)
  have hjI : (j : Int) < (L.length : Int) := by omega
  have hltrue := lies_true L j hj1
  clear hat
  generalize L.getD j [] = leaf at *
  have HLV := Lib.hid hltrue; clear hltrue
  clear e1 hrem1 hrem2
  go_wp2_with (with_reducible refine wl_stop (o := ⟨some 109, _, _, _, _, _⟩) ?_)
  unfold Stop
  refine wl_bytes (q := mkS leaf) rfl rfl Tryd.underlying9 Tryd.underlying26 Tryd.underlying5 rfl (by rw [mkS_size]; unfold maxLen; omega) w11.heap.size (Nat.le_refl _) ?_
  intro capl w12 hown12 hf12 hz12
  clear hz12
  rw [mkS_size, mkS_toList] at hown12
  rw [mkS_size]
  have hleaf := own_part hown12 hlj
  have ho12 := ho11.still hf12
  have hold12 := hold11.still hf12
  have hSp12 := hSp11.still hf12
  have hSg12 := hS11.still hf12
  have hF12 := hF11.then hf12
  obtain ⟨ap', cp', hvp, hcp', hpp⟩ := hSp12.parts (fun x hx => by rw [pathL_32 L j hj1 x hx]; decide)
  simp only [Value.slice.injEq] at hvp
  obtain ⟨rfl, -, rfl⟩ := hvp
  obtain ⟨_, _, hv5, -, hr5, -⟩ := ho12.form
  simp only [Value.slice.injEq] at hv5
  obtain ⟨rfl, -, rfl⟩ := hv5
  rw [Nat.mul_one] at hr5
  have hr5b : RdB w12 a5 32 (rootL L) := hr5
  have hlc := lies_yes a5 32 c5 (rootL L) L.length j (some ⟨w11.heap.size, 0, none⟩) leaf.length capl leaf ap cp (pathL L j) w12 (by have := pathL_len L j; omega) hpp hr5b hleaf hn1 (by omega) hj1 (sz32_of _ (pathL_32 L j hj1))
  rw [HLV.out] at hlc
  have HLC := Lib.hid hlc; clear hlc hown12 hleaf hpp hr5 hr5b hcj hf12 ho11 hold11 hSp11 hS11 hF11 hrl
  generalize w11.heap.size = g11 at *
  have hplen : (pathL L j).length ≤ 2000 := by have := pathL_len L j; omega
  generalize pathL L j = pl at *
  go_wp2_with fail
  refine HLC.out.mono ?_
  rintro e w13 ⟨rfl, hf13⟩
  have ho13 := ho12.still hf13
  have hold13 := hold12.still hf13
  have hSg13 := hSg12.still hf13
  have hF13 := hF12.then hf13
  obtain ⟨_, _, hvg, hcg', hpg⟩ := hSg13.parts (fun x hx => by rw [HG32.out x hx]; decide)
  simp only [Value.slice.injEq] at hvg
  obtain ⟨rfl, -, rfl⟩ := hvg
  obtain ⟨_, _, hv5, -, hr5, -⟩ := ho13.form
  simp only [Value.slice.injEq] at hv5
  obtain ⟨rfl, -, rfl⟩ := hv5
  rw [Nat.mul_one] at hr5
  have hr5b : RdB w13 a5 32 (rootL L) := hr5
  have HGR := Lib.hid (HGG.out a7 32 c7 a5 32 c5 ag cg w13 hcg hpg (own_part hold13 (by decide)) hr5b)
  clear hpg hr5 hr5b HGG HLC hSg13 hSg12 hold12 ho12 ho13 hold13 hSp12 hF12
  go_wp2_with fail
  refine HGR.out.mono ?_
  rintro e w14 ⟨rfl, hf14⟩
  go_wp2_with fail
  go_ret
  exact ⟨rfl, (hfl.then hF13).then hf14⟩

set_option maxRecDepth 1000000 in
theorem true_no (p : Option Addr) (c : Nat) (ls : List (List UInt8)) (i m : Int) (w : World) (hm : ls.length ≤ 9223372036854775807) (hb : Rd w p ls.length (ss ls)) (hx : ∀ x ∈ ls, x.length ≤ 140737488351232) (h : 1024 < ls.length ∨ 65536 < sumL ls) :
    Calls Tryd.prog 4 #[.slice p ls.length c, .int .i64 i, .int .i64 m] w fun e w' => e = .returned (.bool true) ∧ Fr Nob w w' := by
  have hsm : Calls Tryd.prog 6 #[.slice p ls.length c] w (fun e w' => e = .returned (.bool false) ∧ w = w') ∨ ((Calls Tryd.prog 6 #[.slice p ls.length c] w (fun e w' => e = .returned (.bool true) ∧ w = w')) ∧ (1024 : Int) < (ls.length : Int)) := by
    by_cases h1 : 1100 < ls.length
    · exact .inl (small_long p c ls w hm h1 hb)
    · have h2 := small_short p c ls w hx (by omega) hb
      by_cases h3 : sumL ls ≤ 65536
      · rw [decide_eq_true h3] at h2
        exact .inr ⟨h2, by omega⟩
      · rw [decide_eq_false h3] at h2
        exact .inl h2
  clear h hx hb
  go_enter Tryd.func4, Tryd.ntmps4
  rcases hsm with hsm | ⟨hsm, hbig⟩
  all_goals
    have HSM := Lib.hid hsm; clear hsm
    go_wp2_with fail
    refine HSM.out.mono ?_
    rintro e w' ⟨rfl, rfl⟩
    go_wp2_with fail
    go_ret
    exact ⟨rfl, Fr.refl _ _⟩
theorem sumL_mem (ls : List (List UInt8)) : ∀ x ∈ ls, x.length ≤ sumL ls := by
  induction ls with
  | nil => simp
  | cons a l ih =>
    intro x hx
    have h3 : sumL (a :: l) = a.length + sumL l := by simp only [sumL, List.map_cons, List.foldr_cons]
    rcases List.mem_cons.1 hx with rfl | h
    · omega
    · have := ih x h; omega
theorem law_TreeTrue (p : Option Addr) (c : Nat) (ls : List (List UInt8)) (i m : Int) (w : World) (hx : ∀ x ∈ ls, x.length ≤ 140737488351232) (hm : ls.length ≤ 9223372036854775807) (hb : Rd w p ls.length (ss ls)) (hmc : ls.length ≤ c)
    (hi : -9223372036854775808 ≤ i ∧ i ≤ 9223372036854775807) (hmi : -9223372036854775808 ≤ m ∧ m ≤ 9223372036854775807) (hT : TabAt 0 Lib.deBruijn64tab w) :
    Calls Tryd.prog 4 #[.slice p ls.length c, .int .i64 i, .int .i64 m] w fun e w' => e = .returned (.bool true) ∧ Fr Nob w w' := by
  by_cases h : 1024 < ls.length ∨ 65536 < sumL ls
  · exact true_no p c ls i m w hm hb hx h
  · exact true_yes p c ls i m w (by omega) hmc hb (fun x hx' => by have := sumL_mem ls x hx'; omega) hx (by omega) hi hmi hT
end Go.Proofs.YtgkakddldobpkaaDoor

/- From a walk that turns nothing (Fr Nob) to what a law's row asks behind the call. -/
namespace Go.Mv
open Go.RowKit Go.ChangeShapes Go.WideShapes

/-- the arguments read behind the call as they read before -/
theorem Below.trodAll {H : Type} {enc : TypeId × Value → H} {P : Program} (hl : laidOutB P = true) {W W' : World} (hb : Below W.heap.size W W') :
    ∀ (ts : List TypeId) (vs : List Value) (ds : List (DataW H)) (ps : List MemPlace), (∀ t ∈ ts, P.readableRec t = true ∧ t < P.types.size) → DataW.TrodAll enc P W 0 (fun _ => true) true ts vs ds ps → (∀ x ∈ ps, x.block < W.heap.size) →
      DataW.TrodAll enc P W' 0 (fun b => decide (b < W.heap.size)) true ts vs ds ps
  | [], vs, ds, ps, _, h, _ => by
    obtain ⟨rfl, rfl, rfl⟩ := trodAll_nil h
    exact trodAll_mk0
  | t :: ts, vs, ds, ps, hr, h, hlt => by
    obtain ⟨v, vs', d, ds', p, q, rfl, rfl, rfl, h0, hs⟩ := trodAll_cons h
    have h1 := hr t (by simp)
    exact trodAll_cons_mk (Below.trod hl h1.1 h1.2 h0 hb (fun x hx => hlt x (by simp [hx]))) (Below.trodAll hl hb ts vs' ds' q (fun t ht => hr t (by simp [ht])) hs (fun x hx => hlt x (by simp [hx])))

/-- what a law's row asks behind the call -/
theorem law_post {H : Type} {enc : TypeId × Value → H} {P : Program} {f : Func} {s : ChangeSpec} {W W' : World} {args : Array Value} {ds gs : List (DataW H)} {before : List MemPlace}
    (hl : laidOutB P = true) (hr : ∀ t ∈ f.params.toList, P.readableRec t = true ∧ t < P.types.size) (hW : DataW.Whole enc P f.params.toList s.vars false W args.toList ds gs before)
    (hv : s.vars = []) (hres : (s.fn H (ds ++ gs)).results = [.lit (.bool true)]) (harg : (s.fn H (ds ++ gs)).args = ds) (hvar : (s.fn H (ds ++ gs)).vars = [])
    {tb : TypeId} (hrt : f.resultTypes = #[tb]) (hu : P.underlying tb = some .bool) (hf : Fr Nob W W') :
    s.post enc P f false true false false W args (.bool true) W' := by
  have hW' := hW
  obtain ⟨p, q, hA, hV, rfl, hfz, hnd⟩ := hW
  rw [hv] at hV
  obtain ⟨rfl, rfl⟩ := trodVars_none hV
  have hlt : ∀ x ∈ p ++ [], x.block < W.heap.size := fun x hx => hW'.lt x hx
  refine ⟨ds, [], p ++ [], [], p, [], hW', ?_, ?_, ?_, World.keptBut_mono (fun x hx => ⟨hx, ?_⟩) (hf.below.frame (· ∈ p ++ [])), fun h => by cases h⟩
  · rw [hres, hrt]
    exact trodAll_mk1 (shut_bool hu true)
  · rw [harg]
    exact Below.trodAll hl hf.below _ _ _ _ hr hA (fun x hx => hlt x (by simp [hx]))
  · rw [hvar, hv]; exact rfl
  · simp only [List.append_nil] at hx
    exact .inr (.inl hx)
end Go.Mv
