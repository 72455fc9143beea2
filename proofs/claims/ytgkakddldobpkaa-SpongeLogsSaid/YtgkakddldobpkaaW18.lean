/- mintvaultlaw1.SpongeTags: the walk of the law (texts of bulk that fits) -/
import Derived.Test.YtgkakddldobpkaaW17
import Derived.Test.YtgkakddldobpkaaTurns
import Derived.Test.YtgkakddldobpkaaLog
import Derived.IntWalk
namespace Go.Proofs.Ytgkakddldobpkaa
open Go.RowKit Go.Mv Mvp
attribute [local irreducible] permS permP toB turnsK squeeze permN permB spongeB feed frameL framesL tagL

/-- the lent slices as values -/
def lentVs (ps : List (Nat × List UInt8)) : List Value := ps.map fun p => .slice (some ⟨p.1, 0, none⟩) p.2.length (p.2.length + 160)

theorem sumL_le (ls : List (List UInt8)) (B : Nat) (h : ∀ x ∈ ls, x.length ≤ B) : sumL ls ≤ ls.length * B := by
  induction ls with
  | nil => simp [sumL]
  | cons a l ih =>
    have h1 := ih (fun x hx => h x (by simp [hx]))
    have h2 := h a (by simp)
    have h3 : sumL (a :: l) = a.length + sumL l := by simp only [sumL, List.map_cons, List.foldr_cons]
    rw [h3, List.length_cons, Nat.succ_mul]; omega

/-- more than 64 parts -/
theorem tags_long (s : ByteArray) (a : Option Addr) (c : Nat) (ls : List (List UInt8)) (w : World) (hs : s.size ≤ 140737488351232) (hss : ∀ x ∈ ls, x.length ≤ 140737488351232) (hm : ls.length ≤ 9223372036854775807) (h64 : 64 < ls.length) (hb : Rd w a ls.length (ss ls)) :
    Calls Try.prog 4 #[.string s, .slice a ls.length c] w fun e w' => e = .returned (.bool true) ∧ Fr Nob w w' := by
  go_enter Try.func4, Try.ntmps4
  go_wp2_with fail
  go_loopw [6, 5] (fun i q wr => ∃ (j : Nat) (z : Int), j ≤ ls.length ∧ i = .int .i64 (j : Int) ∧ q = .int .i64 z ∧ wr = w) (fun i _ _ => (ls.length - intOf i).toNat)
  case atStart => exact ⟨0, _, by omega, rfl, rfl, rfl⟩
  case round =>
    obtain ⟨j, z, hj, rfl, rfl, hwr⟩ := hrel
    obtain rfl := hwr.symm
    by_cases hlt : j < ls.length
    · have hltI : (j : Int) < (ls.length : Int) := by omega
      obtain ⟨b, o, rfl, hat⟩ := hb.at (by omega)
      have hc : w.cell? ⟨b, o + j, none⟩ = some (.string (mkS (ls.getD j []))) := hat j _ (ss_get ls j hlt)
      generalize hq : mkS (ls.getD j []) = q at *
      clear hq hat
      go_wp2_with fail
      go_roundw
      case rel => exact ⟨j + 1, _, by omega, by go_num, rfl, by first | rfl | trivial⟩
      case measure => simp [intOf]; omega
    · have hge : ¬ ((j : Int) < (ls.length : Int)) := by omega
      have hlI : (64 : Int) < (ls.length : Int) := by omega
      by_cases hbI : (16384 : Int) < z
      · go_wp2_with fail
        go_ret
        exact ⟨rfl, Fr.refl _ _⟩
      · go_wp2_with fail
        go_ret
        exact ⟨rfl, Fr.refl _ _⟩

theorem lentVs_len (ps : List (Nat × List UInt8)) : (lentVs ps).length = ps.length := by simp [lentVs]
theorem lentVs_get (ps : List (Nat × List UInt8)) (i : Nat) (hi : i < ps.length) : (lentVs ps)[i]? = some (.slice (some ⟨ps[i].1, 0, none⟩) ps[i].2.length (ps[i].2.length + 160)) := by
  simp [lentVs, List.getElem?_eq_getElem hi]

theorem ps_get (ps : List (Nat × List UInt8)) (ls : List (List UInt8)) (h : ps.map Prod.snd = ls) (i : Nat) (hi : i < ls.length) : ∃ p ∈ ps, ps[i]? = some p ∧ p.2 = ls.getD i [] := by
  subst h
  rw [List.length_map] at hi
  exact ⟨ps[i], List.getElem_mem _, List.getElem?_eq_getElem hi, by simp [List.getD_eq_getElem?_getD, List.getElem?_eq_getElem hi]⟩

/-- Still of what was lent -/
theorem still_same (b : Option Addr) (n c : Nat) (x : List UInt8) (w : World) (hs : x.length ≤ 1000000) (hb : RdB w b n (lentL x)) :
    Calls Try.prog 14 #[.slice b n c, .string (mkS x)] w fun e w' => e = .returned (.bool true) ∧ Fr Nob w w' := by
  refine (still_any b n c (lentL x) (mkS x) w (by rw [mkS_size]; exact hs) hb).mono ?_
  rintro e w' ⟨rfl, hf⟩
  rw [mkS_toList]
  exact ⟨ret_bool (decide_eq_true rfl), hf⟩

set_option maxHeartbeats 400000 in
set_option maxRecDepth 1000000 in
theorem tags_short (s : ByteArray) (a : Option Addr) (c : Nat) (ls : List (List UInt8)) (w : World) (hs : s.size ≤ 140737488351232) (hss : ∀ x ∈ ls, x.length ≤ 140737488351232) (hm : ls.length ≤ 64) (hb : Rd w a ls.length (ss ls)) :
    Calls Try.prog 4 #[.string s, .slice a ls.length c] w fun e w' => e = .returned (.bool true) ∧ Fr Nob w w' := by
  have hsum : s.size + sumL ls ≤ 9147936743096385680 := by have := sumL_le ls _ hss; have : ls.length * 140737488351232 ≤ 64 * 140737488351232 := Nat.mul_le_mul_right _ hm; omega
  clear hs hss
  go_enter Try.func4, Try.ntmps4
  go_wp2_with fail
  go_loopw [6, 5] (fun i q wr => ∃ j : Nat, j ≤ ls.length ∧ i = .int .i64 (j : Int) ∧ q = .int .i64 ((s.size + sumL (ls.take j) : Nat) : Int) ∧ wr = w) (fun i _ _ => (ls.length - intOf i).toNat)
  case atStart => exact ⟨0, by omega, rfl, by simp [sumL], rfl⟩
  case round =>
    obtain ⟨j, hj, rfl, rfl, hwr⟩ := hrel
    obtain rfl := hwr.symm
    have hst := sumL_take ls j
    by_cases hlt : j < ls.length
    · have hltI : (j : Int) < (ls.length : Int) := by omega
      obtain ⟨b, o, rfl, hat⟩ := hb.at (by omega)
      have hc : w.cell? ⟨b, o + j, none⟩ = some (.string (mkS (ls.getD j []))) := hat j _ (ss_get ls j hlt)
      have hsucc : sumL (ls.take (j + 1)) = sumL (ls.take j) + (ls.getD j []).length := by
        rw [List.take_succ_eq_append_getElem hlt, sumL_append, sumL_one]; simp [List.getD_eq_getElem?_getD, hlt]
      have hst2 := sumL_take ls (j + 1)
      have hxs : (mkS (ls.getD j [])).size = (ls.getD j []).length := mkS_size _
      generalize hq : mkS (ls.getD j []) = q at *
      have HQ := Lib.hid hq; clear hq
      generalize hN : sumL (ls.take j) = N at *
      have HN := Lib.hid hN; clear hN
      clear hat
      have hqb : s.size + N + q.size ≤ 9147936743096385680 := by omega
      have HX := Lib.hid hxs; clear hxs
      have HSU := Lib.hid hsucc; clear hsucc
      go_wp2_with fail
      go_roundw
      case rel => exact ⟨j + 1, by omega, by go_num, by have h1 := HSU.out; have h2 := HX.out; rw [h1, ← h2]; go_num, by first | rfl | trivial⟩
      case measure => simp [intOf]; omega
    · have hge : ¬ ((j : Int) < (ls.length : Int)) := by omega
      have hjn : j = ls.length := by omega
      have hN : sumL (ls.take j) = sumL ls := by rw [hjn, List.take_length]
      rw [hN]
      have HJN := Lib.hid hjn; clear hjn hN hst
      by_cases hbig : 16384 < s.size + sumL ls
      · have hbI : (16384 : Int) < (s.size : Int) + (sumL ls : Int) := by omega
        go_wp2_with fail
        go_ret
        exact ⟨rfl, Fr.refl _ _⟩
      · have hbI : ¬ (16384 : Int) < (s.size : Int) + (sumL ls : Int) := by omega
        have hlI : ¬ (64 : Int) < (ls.length : Int) := by omega
        go_wp2_with fail
        go_loopw [8, 7] (fun i q wr => ∃ (j : Nat) (ps : List (Nat × List UInt8)), j ≤ ls.length ∧ i = .int .i64 (j : Int) ∧ ps.map Prod.snd = ls.take j ∧ Own wr w.heap.size 22 1 q j (lentVs ps) ∧ (∀ p ∈ ps, Has wr p.1 (bs (lentL p.2)) 5) ∧ Fr Nob w wr) (fun i _ _ => (ls.length - intOf i).toNat)
        case atStart => exact ⟨0, [], by omega, rfl, rfl, Own.nil _ _ _ _, by simp, Fr.refl _ _⟩
        case round =>
          obtain ⟨j, ps, hj, rfl, hps, hown, hall, hfj⟩ := hrel
          by_cases hlt : j < ls.length
          · have hltI : (j : Int) < (ls.length : Int) := by omega
            obtain ⟨b, o, rfl, hat⟩ := (hb.still hfj).at (by omega)
            have hc : wr.cell? ⟨b, o + j, none⟩ = some (.string (mkS (ls.getD j []))) := hat j _ (ss_get ls j hlt)
            have hxl := sumL_get ls j hlt
            have hsucc : ps.map Prod.snd ++ [ls.getD j []] = ls.take (j + 1) := by
              rw [hps, List.take_succ_eq_append_getElem hlt]; simp [List.getD_eq_getElem?_getD, hlt]
            generalize hx : ls.getD j [] = x at *
            have HX := Lib.hid hx; clear hx
            have HSU := Lib.hid hsucc; clear hsucc
            have HPS := Lib.hid hps; clear hps
            clear hat
            go_wp2_with fail
            refine (lent_any (mkS x) wr (by rw [mkS_size]; omega)).mono ?_
            rintro e w1 ⟨rfl, hh1, hf1, hz1⟩
            clear hz1
            rw [mkS_toList] at hh1
            rw [mkS_size]
            have hown1 := hown.still hf1
            have hall1 : ∀ p ∈ ps, Has w1 p.1 (bs (lentL p.2)) 5 := fun p hp => (hall p hp).keep hf1 id
            have hc1 := hf1.cell id hc
            have hfr1 := hfj.then hf1
            generalize wr.heap.size = g at *
            clear hown hall hf1 hfj hc
            have hqs : (mkS x).size = x.length := mkS_size _
            have e1 : ∀ wx, (Instr.sliceAt 22 (.slice (some ⟨g, 0, none⟩) (x.length + 160) (x.length + 160)) none (some (.int .i64 (x.length : Int))) none).run Try.prog wx = .ok (.slice (some ⟨g, 0, none⟩) x.length (x.length + 160)) wx := fun wx => run_slice_hi wx Try.underlying22 size_u8 _ _ _ .i64 x.length (by omega)
            go_wp2_with (with_reducible refine wl_stop (o := ⟨some 56, _, _, _, _, _⟩) ?_)
            clear e1 hqs
            refine wl_one1 (v := .slice (some ⟨g, 0, none⟩) x.length (x.length + 160)) rfl rfl Try.underlying31 info_sl rfl rfl ?_
            intro w2 hh2 hf2 hz2
            clear hz2
            have hown2 := hown1.still hf2
            have hall2 : ∀ p ∈ ps, Has w2 p.1 (bs (lentL p.2)) 5 := fun p hp => (hall1 p hp).keep hf2 id
            have hhg := hh1.keep hf2 id
            have hfr2 := hfr1.then hf2
            generalize w1.heap.size = g1 at *
            clear hown1 hall1 hh1 hf2 hfr1 hc1
            go_wp2_with (with_reducible refine wl_stop (o := ⟨some 57, _, _, _, _, _⟩) ?_)
            refine wl_append rfl rfl Try.underlying31 info_sl rfl (by decide) hown2 rfl rfl (Rd.whole hh2) (fun u hu => by simp only [List.mem_singleton] at hu; subst hu; rfl) (by unfold maxLen; first | omega | (simp; omega)) (by first | omega | (simp; omega)) hfr2.size ?_
            intro v3 w3 hown3 hf3 hb3
            have hall3 : ∀ p ∈ ps, Has w3 p.1 (bs (lentL p.2)) 5 := fun p hp => (hall2 p hp).keep hf3 (hown2.ne (hall2 p hp) (by decide))
            have hhg3 := hhg.keep hf3 (hown2.ne hhg (by decide))
            have hfr3 : Fr Nob w w3 := hown2.fr hfr2 (Nat.le_refl _) hf3
            clear hown2 hall2 hhg hh2 hf3 hb3 hfr2
            go_wp2_with fail
            go_roundw
            case rel =>
              refine ⟨j + 1, ps ++ [(g, x)], by omega, by go_num, by rw [List.map_append, ← HSU.out]; rfl, ?_, ?_, hfr3⟩
              · simpa [lentVs] using hown3
              · intro p hp
                rcases List.mem_append.1 hp with h | h
                · exact hall3 p h
                · simp only [List.mem_singleton] at h; subst h; exact hhg3
            case measure => simp [intOf]; omega
          · obtain rfl : j = ls.length := by omega
            rw [List.take_length] at hps
            obtain ⟨aq, cq, rfl, hcq, hrq, -⟩ := hown.form
            rw [Nat.mul_one] at hrq
            have hpl : ps.length = ls.length := by rw [← hps, List.length_map]
            have hpx := ps_get ps ls hps
            have hcell : ∀ i, (hi : i < ls.length) → ∃ g, (lentVs ps)[i]? = some (.slice (some ⟨g, 0, none⟩) (ls.getD i []).length ((ls.getD i []).length + 160)) ∧ Has wr g (bs (lentL (ls.getD i []))) 5 := fun i hi => by
              obtain ⟨p, hp, h1, h2⟩ := hpx i hi
              refine ⟨p.1, by rw [lentVs, List.getElem?_map, h1, ← h2]; rfl, by rw [← h2]; exact hall p hp⟩
            have hpa : PartsAt wr aq ls := ⟨lentVs ps, hrq, fun i v hi => by
              have hil : i < ls.length := by
                rcases Nat.lt_or_ge i ls.length with k | k
                · exact k
                · rw [List.getElem?_eq_none (by rw [lentVs_len]; omega)] at hi; cases hi
              obtain ⟨g, h1, h2⟩ := hcell i hil
              rw [h1] at hi; cases hi
              have hx := sumL_get ls i hil
              refine ⟨ls.getD i [], by simp [List.getD_eq_getElem?_getD, hil], _, _, _, rfl, by omega, by omega, ?_, Old.has h2 0⟩
              have := Rd.ofHas h2 0 (n := (ls.getD i []).length) (by rw [length_bs, lentL_len]; omega)
              rw [List.drop_zero, bs_take] at this
              unfold lentL at this
              rwa [List.take_left] at this⟩
            have hts := Tag_any s aq cq ls wr (by omega) (by omega) hpa
            have HTS := Lib.hid hts; clear hts
            clear hpa hpx hall hpl hps hown
            go_wp2_with fail
            refine HTS.out.mono ?_
            rintro e w4 ⟨v4, rfl, hown4, hf4⟩
            clear HTS
            have hfr4 := hfj.then hf4
            have hrq4 := hrq.still hf4
            have hcell4 : ∀ i, (hi : i < ls.length) → ∃ g, (lentVs ps)[i]? = some (.slice (some ⟨g, 0, none⟩) (ls.getD i []).length ((ls.getD i []).length + 160)) ∧ Has w4 g (bs (lentL (ls.getD i []))) 5 := fun i hi => by
              obtain ⟨g, h1, h2⟩ := hcell i hi
              exact ⟨g, h1, h2.keep hf4 id⟩
            obtain ⟨a4, c4, hv4, hr4⟩ := own_rd hown4
            subst hv4
            clear hown4 hcell hrq hfj hf4
            go_wp2_with fail
            go_loopw [11] (fun i wr' => ∃ j : Nat, j ≤ ls.length ∧ i = .int .i64 (j : Int) ∧ Fr Nob w4 wr') (fun i _ => (ls.length - intOf i).toNat)
            case atStart => exact ⟨0, by omega, rfl, Fr.refl _ _⟩
            case round =>
              obtain ⟨j, hj, rfl, hfj⟩ := hrel
              have hfw := hfr4.then hfj
              by_cases hlt : j < ls.length
              · have hltI : (j : Int) < (ls.length : Int) := by omega
                obtain ⟨b, o, rfl, hat⟩ := (hb.still hfw).at (by omega)
                have hc : wr.cell? ⟨b, o + j, none⟩ = some (.string (mkS (ls.getD j []))) := hat j _ (ss_get ls j hlt)
                obtain ⟨bq, oq, rfl, hatq⟩ := (hrq4.still hfj).at (by omega)
                obtain ⟨g, hg1, hg2⟩ := hcell4 j hlt
                have hcq2 : wr.cell? ⟨bq, oq + j, none⟩ = some (.slice (some ⟨g, 0, none⟩) (ls.getD j []).length ((ls.getD j []).length + 160)) := hatq j _ hg1
                have hg3 := hg2.keep hfj id
                have hxl := sumL_get ls j hlt
                clear hat hatq hg1 hg2
                generalize hx : ls.getD j [] = x at *
                have HX := Lib.hid hx; clear hx
                have hqs : (mkS x).size = x.length := mkS_size _
                have e1 : ∀ wx, (Instr.sliceAt 22 (.slice (some ⟨g, 0, none⟩) x.length (x.length + 160)) none (some (.int .i64 ((x.length : Int) + 160))) none).run Try.prog wx = .ok (.slice (some ⟨g, 0, none⟩) (x.length + 160) (x.length + 160)) wx := fun wx => run_slice_hi wx Try.underlying22 size_u8 _ _ _ .i64 (x.length + 160) (by omega)
                have e2 : IntKind.i64.wrap ((x.length : Int) + 160) = (x.length : Int) + 160 := IntWalk.i64_in _ (by omega)
                go_wp2_with fail
                go_quiet (fail)
                clear e1 e2 hcq2 hqs
                have hall4 : RdB wr (some ⟨g, 0, none⟩) (x.length + 160) (lentL x) := by
                  have := Rd.whole hg3
                  rwa [length_bs, lentL_len] at this
                go_wp2_with fail
                refine (still_same _ _ _ x _ (by omega) (hall4.still ((Fr.refl Nob wr).drewN _))).mono ?_
                rintro e w5 ⟨rfl, hf5⟩
                have hf5' := hfj.then (((Fr.refl Nob wr).drewN _).then hf5)
                go_wp2_with fail
                go_roundw
                case rel => exact ⟨j + 1, by omega, by go_num, hf5'⟩
                case measure => simp [intOf]; omega
              · have hge : ¬ ((j : Int) < (ls.length : Int)) := by omega
                have hr4' := hr4.still hfj
                have hb4 := hb.still hfw
                have HR4 := Lib.hid hr4; clear hr4 hr4' hcell4 hrq4
                go_wp2_with fail
                refine (tagR_any s a c ls _ (by omega) (by omega) hb4).mono ?_
                rintro e w6 ⟨rfl, hf6⟩
                have hr6 := (HR4.out.still hfj).still hf6
                go_wp2_with (with_reducible refine wl_stop (o := ⟨some 90, _, _, _, _, _⟩) ?_)
                refine wl_string rfl rfl Try.underlying22 Try.underlying5 Try.underlying9 rfl hr6 ?_
                go_wp2_with fail
                go_ret
                exact ⟨rfl, hfw.then hf6⟩

theorem law_SpongeTags (s : ByteArray) (a : Option Addr) (c : Nat) (ls : List (List UInt8)) (w : World) (hs : s.size ≤ 140737488351232) (hss : ∀ x ∈ ls, x.length ≤ 140737488351232) (hm : ls.length ≤ 9223372036854775807) (hb : Rd w a ls.length (ss ls)) :
    Calls Try.prog 4 #[.string s, .slice a ls.length c] w fun e w' => e = .returned (.bool true) ∧ Fr Nob w w' := by
  rcases Nat.lt_or_ge 64 ls.length with h | h
  · exact tags_long s a c ls w hs hss hm h hb
  · exact tags_short s a c ls w hs hss h hb
end Go.Proofs.Ytgkakddldobpkaa
