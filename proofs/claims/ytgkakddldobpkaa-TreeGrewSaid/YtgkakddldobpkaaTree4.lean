/- mintvaultlaw8.lists, small: lists of strings as lists of bytes. -/
import Derived.Test.YtgkakddldobpkaaTree2
import Derived.Test.YtgkakddldobpkaaLogs1
namespace Go.Proofs.Ytgkakddldobpkaa
open Go.RowKit Go.Mv Mvp Mvt
attribute [local irreducible] permS permP toB turnsK squeeze permN permB spongeB feed frameL framesL tagL

/-- slices of bytes of the call's own -/
def POwn (w : World) (base : Nat) : List Value → List (List UInt8) → Prop
  | [], [] => True
  | v :: vs, l :: ls => Own w base 5 1 v l.length (bs l) ∧ POwn w base vs ls
  | _, _ => False
theorem POwn.len {w : World} {base : Nat} : ∀ {vs : List Value} {ls : List (List UInt8)}, POwn w base vs ls → vs.length = ls.length
  | [], [], _ => rfl
  | _ :: _, _ :: _, h => by simp only [List.length_cons]; rw [POwn.len h.2]
  | [], _ :: _, h => h.elim
  | _ :: _, [], h => h.elim
theorem POwn.keep {w w' : World} {base : Nat} {S : Nat → Prop} (hf : Fr S w w') : ∀ {vs : List Value} {ls : List (List UInt8)}, POwn w base vs ls → (∀ v n l, Own w base 5 1 v n (bs l) → ∀ k, OwnB v k → ¬ S k) → POwn w' base vs ls
  | [], [], _, _ => trivial
  | _ :: _, _ :: _, h, hs => ⟨h.1.keep hf (hs _ _ _ h.1), POwn.keep hf h.2 hs⟩
  | [], _ :: _, h, _ => h.elim
  | _ :: _, [], h, _ => h.elim
theorem POwn.still {w w' : World} {base : Nat} {vs : List Value} {ls : List (List UInt8)} (h : POwn w base vs ls) (hf : Fr Nob w w') : POwn w' base vs ls := POwn.keep hf h (fun _ _ _ _ _ _ t => t)
theorem POwn.app {w w' : World} {base base' sz n : Nat} {vs : List Value} {ls : List (List UInt8)} (h : POwn w base vs ls) {q : Value} {T : TypeId} {L : List Value} (hq : Own w base' T sz q n L) (hT : 5 ≠ T) (hf : Fr (OwnB q) w w') : POwn w' base vs ls :=
  POwn.keep hf h (fun _ _ _ ho k hk hk' => ho.ne2 hq hT k hk hk')
theorem POwn.snoc {w : World} {base : Nat} {v : Value} {l : List UInt8} (hv : Own w base 5 1 v l.length (bs l)) : ∀ {vs : List Value} {ls : List (List UInt8)}, POwn w base vs ls → POwn w base (vs ++ [v]) (ls ++ [l])
  | [], [], _ => ⟨hv, trivial⟩
  | _ :: _, _ :: _, h => ⟨h.1, POwn.snoc hv h.2⟩
  | [], _ :: _, h => h.elim
  | _ :: _, [], h => h.elim
theorem POwn.parts {w : World} {base : Nat} : ∀ {vs : List Value} {ls : List (List UInt8)}, POwn w base vs ls → (∀ x ∈ ls, x.length ≤ 1000000) → Parts w vs ls
  | [], [], _, _ => trivial
  | _ :: _, _ :: _, h, hx => ⟨own_part h.1 (hx _ (by simp)), POwn.parts h.2 (fun x hxm => hx x (by simp [hxm]))⟩
  | [], _ :: _, h, _ => h.elim
  | _ :: _, [], h, _ => h.elim
/-- a list of lists of bytes, all of the call's own -/
def LOwn (w : World) (base : Nat) (v : Value) (ls : List (List UInt8)) : Prop := ∃ vs, Own w base 22 1 v ls.length vs ∧ POwn w base vs ls
theorem LOwn.still {w w' : World} {base : Nat} {v : Value} {ls : List (List UInt8)} (h : LOwn w base v ls) (hf : Fr Nob w w') : LOwn w' base v ls := by
  obtain ⟨vs, h1, h2⟩ := h; exact ⟨vs, h1.still hf, h2.still hf⟩
theorem LOwn.parts {w : World} {base : Nat} {v : Value} {ls : List (List UInt8)} (h : LOwn w base v ls) (hx : ∀ x ∈ ls, x.length ≤ 1000000) : ∃ a c, v = .slice a ls.length c ∧ ls.length ≤ c ∧ PartsAt w a ls := by
  obtain ⟨vs, h1, h2⟩ := h
  obtain ⟨a, c, rfl, hc, hr, -⟩ := h1.form
  rw [Nat.mul_one] at hr
  exact ⟨a, c, rfl, hc, vs, hr, (h2.parts hx).get⟩

set_option maxHeartbeats 400000 in
set_option maxRecDepth 1000000 in
theorem lists_any (a : Option Addr) (c : Nat) (ls : List (List UInt8)) (w : World) (hm : ls.length ≤ 100000) (hx : ∀ x ∈ ls, x.length ≤ 1000000) (hb : Rd w a ls.length (ss ls)) :
    Calls Try.prog 31 #[.slice a ls.length c] w fun r w' => ∃ v, r = .returned v ∧ LOwn w' w.heap.size v ls ∧ Fr Nob w w' := by
  go_enter Try.func31, Try.ntmps31
  go_wp2_with fail
  go_loopw [4, 3] (fun i q wr => ∃ j : Nat, j ≤ ls.length ∧ i = .int .i64 (j : Int) ∧ LOwn wr w.heap.size q (ls.take j) ∧ Fr Nob w wr) (fun i _ _ => (ls.length - intOf i).toNat)
  case atStart => exact ⟨0, by omega, rfl, ⟨[], Own.nil _ _ _ _, trivial⟩, Fr.refl _ _⟩
  case round =>
    obtain ⟨j, hj, rfl, hL, hfj⟩ := hrel
    by_cases hlt : j < ls.length
    · have hltI : (j : Int) < (ls.length : Int) := by omega
      obtain ⟨b, o, rfl, hat⟩ := (hb.still hfj).at (by omega)
      have hc : wr.cell? ⟨b, o + j, none⟩ = some (.string (mkS (ls.getD j []))) := hat j _ (ss_get ls j hlt)
      have hxs : (ls.getD j []).length ≤ 1000000 := by
        have : ls.getD j [] = ls[j] := by simp [List.getD_eq_getElem?_getD, hlt]
        rw [this]; exact hx _ (List.getElem_mem _)
      have htk : ls.take (j + 1) = ls.take j ++ [ls.getD j []] := by
        rw [List.take_succ_eq_append_getElem hlt]; simp [List.getD_eq_getElem?_getD, hlt]
      have HTK := Lib.hid htk; clear htk hat
      generalize hq : ls.getD j [] = x at *
      have HQ := Lib.hid hq; clear hq
      obtain ⟨vs, hown, hpo⟩ := hL
      have hll : (ls.take j).length = j := by rw [List.length_take]; omega
      rw [hll] at hown
      have HLL := Lib.hid hll; clear hll
      go_wp2_with (with_reducible refine wl_stop (o := ⟨some 16, _, _, _, _, _⟩) ?_)
      refine wl_bytes (q := mkS x) rfl rfl Try.underlying9 Try.underlying22 Try.underlying5 rfl (by rw [mkS_size]; unfold maxLen; omega) w.heap.size hfj.size ?_
      intro cap w1 hown1 hf1 hz1
      clear hz1
      rw [mkS_size, mkS_toList] at hown1
      have hz1 : (mkS x).size = x.length := mkS_size x
      rw [hz1]
      have hownq := hown.still hf1
      have hpo1 := hpo.still hf1
      have hfr1 := hfj.then hf1
      clear hown hpo hfj hf1 hz1 hc
      generalize wr.heap.size = g0 at *
      go_wp2_with (with_reducible refine wl_stop (o := ⟨some 17, _, _, _, _, _⟩) ?_)
      refine wl_slit rfl rfl Try.underlying31 info_sl [.slice (some ⟨g0, 0, none⟩) x.length cap] rfl (by simp; rfl) rfl rfl ?_
      intro w2 hh2 hf2 hz2
      clear hz2
      have hown2 := hown1.still hf2
      have hownq2 := hownq.still hf2
      have hpo2 := hpo1.still hf2
      have hfr2 := hfr1.then hf2
      clear hown1 hownq hpo1 hfr1 hf2
      generalize w1.heap.size = g1 at *
      go_wp2_with (with_reducible refine wl_stop (o := ⟨some 18, _, _, _, _, _⟩) ?_)
      refine wl_append rfl rfl Try.underlying31 info_sl rfl (by decide) hownq2 rfl rfl (Rd.whole hh2) (fun u hu => by simp only [List.mem_singleton] at hu; subst hu; rfl) (by unfold maxLen; omega) (by omega) hfr2.size ?_
      intro v3 w3 hown3 hf3 hb3
      clear hb3
      have hpo3 := hpo2.app hownq2 (by decide) hf3
      have hown3' := hown2.keep hf3 (fun k hk hk' => hown2.ne2 hownq2 (by decide) k hk hk')
      have hfr3 := hownq2.fr hfr2 (Nat.le_refl _) hf3
      have hfin : LOwn w3 w.heap.size v3 (ls.take (j + 1)) := by
        refine ⟨vs ++ [.slice (some ⟨g0, 0, none⟩) x.length cap], ?_, ?_⟩
        · have e : (ls.take (j + 1)).length = j + 1 := by rw [List.length_take]; omega
          rw [e]; exact hown3
        · rw [HTK.out]
          exact hpo3.snoc hown3'
      clear hown2 hownq2 hpo2 hf3 hfr2 hpo3 hown3' hown3 hh2
      go_wp2_with fail
      go_roundw
      case rel => exact ⟨j + 1, by omega, by go_num, hfin, hfr3⟩
      case measure => simp [intOf]; omega
    · have hge : ¬ ((j : Int) < (ls.length : Int)) := by omega
      rw [List.take_of_length_le (by omega)] at hL
      go_wp2_with fail
      go_ret
      exact ⟨_, rfl, hL, hfj⟩

theorem sumL_le2 (ls : List (List UInt8)) (B : Nat) (h : ∀ x ∈ ls, x.length ≤ B) : sumL ls ≤ ls.length * B := by
  induction ls with
  | nil => simp [sumL]
  | cons a l ih =>
    have h1 := ih (fun x hx => h x (by simp [hx]))
    have h2 := h a (by simp)
    have h3 : sumL (a :: l) = a.length + sumL l := by simp only [sumL, List.map_cons, List.foldr_cons]
    rw [h3, List.length_cons, Nat.succ_mul]; omega

set_option maxHeartbeats 400000 in
set_option maxRecDepth 1000000 in
theorem small_long (a : Option Addr) (c : Nat) (ls : List (List UInt8)) (w : World) (hm : ls.length ≤ 9223372036854775807) (h64 : 1100 < ls.length) (hb : Rd w a ls.length (ss ls)) :
    Calls Try.prog 29 #[.slice a ls.length c] w fun e w' => e = .returned (.bool false) ∧ w = w' := by
  go_enter Try.func29, Try.ntmps29
  go_wp2_with fail
  go_loop [4, 3] (fun i q => ∃ (j : Nat) (z : Int), j ≤ ls.length ∧ i = .int .i64 (j : Int) ∧ q = .int .i64 z) (fun i _ => (ls.length - intOf i).toNat)
  case atStart => exact ⟨0, _, by omega, rfl, rfl⟩
  case round =>
    obtain ⟨j, z, hj, rfl, rfl⟩ := hrel
    by_cases hlt : j < ls.length
    · have hltI : (j : Int) < (ls.length : Int) := by omega
      obtain ⟨b, o, rfl, hat⟩ := hb.at (by omega)
      have hc : w.cell? ⟨b, o + j, none⟩ = some (.string (mkS (ls.getD j []))) := hat j _ (ss_get ls j hlt)
      generalize hq : mkS (ls.getD j []) = q at *
      clear hq hat
      go_wp2_with fail
      go_round
      case rel => exact ⟨j + 1, _, by omega, by go_num, rfl⟩
      case measure => simp [intOf]; omega
    · have hge : ¬ ((j : Int) < (ls.length : Int)) := by omega
      have hlI : ¬ (ls.length : Int) ≤ 1100 := by omega
      by_cases hbI : z ≤ (65536 : Int)
      · go_wp2_with fail
        go_ret
        exact ⟨rfl, rfl⟩
      · go_wp2_with fail
        go_ret
        exact ⟨rfl, rfl⟩

set_option maxHeartbeats 400000 in
set_option maxRecDepth 1000000 in
theorem small_short (a : Option Addr) (c : Nat) (ls : List (List UInt8)) (w : World) (hss : ∀ x ∈ ls, x.length ≤ 140737488351232) (hm : ls.length ≤ 1100) (hb : Rd w a ls.length (ss ls)) :
    Calls Try.prog 29 #[.slice a ls.length c] w fun e w' => e = .returned (.bool (decide (sumL ls ≤ 65536))) ∧ w = w' := by
  have hsum : sumL ls ≤ 154811237186355200 := by have := sumL_le2 ls _ hss; have : ls.length * 140737488351232 ≤ 1100 * 140737488351232 := Nat.mul_le_mul_right _ hm; omega
  clear hss
  go_enter Try.func29, Try.ntmps29
  go_wp2_with fail
  go_loop [4, 3] (fun i q => ∃ j : Nat, j ≤ ls.length ∧ i = .int .i64 (j : Int) ∧ q = .int .i64 ((sumL (ls.take j) : Nat) : Int)) (fun i _ => (ls.length - intOf i).toNat)
  case atStart => exact ⟨0, by omega, rfl, by simp [sumL]⟩
  case round =>
    obtain ⟨j, hj, rfl, rfl⟩ := hrel
    have hst := sumL_take ls j
    by_cases hlt : j < ls.length
    · have hltI : (j : Int) < (ls.length : Int) := by omega
      obtain ⟨b, o, rfl, hat⟩ := hb.at (by omega)
      have hc : w.cell? ⟨b, o + j, none⟩ = some (.string (mkS (ls.getD j []))) := hat j _ (ss_get ls j hlt)
      have hsucc : sumL (ls.take (j + 1)) = sumL (ls.take j) + (ls.getD j []).length := by
        rw [List.take_succ_eq_append_getElem hlt, sumL_append, sumL_one]; simp [List.getD_eq_getElem?_getD, hlt]
      have hst2 := sumL_take ls (j + 1)
      have hxs : (mkS (ls.getD j [])).size = (ls.getD j []).length := mkS_size _
      generalize hq : mkS (ls.getD j []) = q at *
      have HQ := Lib.hid hq; clear hq
      generalize hN : sumL (ls.take j) = N at *
      have HN := Lib.hid hN; clear hN
      clear hat
      have hqb : N + q.size ≤ 154811237186355200 := by omega
      have HX := Lib.hid hxs; clear hxs
      have HSU := Lib.hid hsucc; clear hsucc
      go_wp2_with fail
      go_round
      case rel => exact ⟨j + 1, by omega, by go_num, by have h1 := HSU.out; have h2 := HX.out; rw [h1, ← h2]; go_num⟩
      case measure => simp [intOf]; omega
    · have hge : ¬ ((j : Int) < (ls.length : Int)) := by omega
      have hlI : (ls.length : Int) ≤ 1100 := by omega
      have hN : sumL (ls.take j) = sumL ls := by rw [List.take_of_length_le (by omega)]
      rw [hN]
      clear hN hst
      by_cases hbig : sumL ls ≤ 65536
      · have hbI : (sumL ls : Int) ≤ 65536 := by omega
        have HB := Lib.hid hbig; clear hbig
        go_wp2_with fail
        go_ret
        exact ⟨ret_bool (decide_eq_true HB.out).symm, rfl⟩
      · have hbI : ¬ (sumL ls : Int) ≤ 65536 := by omega
        have HB := Lib.hid hbig; clear hbig
        go_wp2_with fail
        go_ret
        exact ⟨ret_bool (decide_eq_false HB.out).symm, rfl⟩
end Go.Proofs.Ytgkakddldobpkaa
