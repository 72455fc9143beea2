/- mintvaultlaw1.SpongeBegins: the walk of the law -/
import Derived.Test.YtgkakddldobpkaaLog
import Derived.Test.YtgkakddldobpkaaOpen
import Derived.Deep.DeepCutAuto
namespace Mvp
theorem squeeze_take (k : Nat) : ∀ (j : Nat) (S : List UInt64), j ≤ k → (squeeze S k).take (136 * j) = squeeze S j := by
  induction k with
  | zero => intro j S h; have : j = 0 := by omega
            subst this; simp [squeeze]
  | succ k ih =>
    intro j S h
    cases j with
    | zero => simp [squeeze]
    | succ j =>
      rw [squeeze, squeeze, List.take_append, toB_len, List.take_of_length_le (by rw [toB_len]; omega), show 136 * (j + 1) - 136 = 136 * j by omega, ih j (permS S) (by omega)]
theorem outB_take (S : List UInt64) (n m : Nat) (h : n ≤ m) : (outB S m).take n = outB S n := by
  unfold outB
  rw [List.take_take, Nat.min_eq_left h, ← squeeze_take (pieces m) (pieces n) S (by unfold pieces; omega), List.take_take, Nat.min_eq_left (by unfold pieces; omega)]
theorem spongeB_take (l : List UInt8) (e : UInt8) (n m : Nat) (h : n ≤ m) : (spongeB l e m).take n = spongeB l e n := outB_take _ _ _ h
theorem hash_none : (spongeB [] 6 32)[0]? = some 0xA7 ∧ (spongeB [] 6 32)[1]? = some 0xFF := by decide +kernel
end Mvp
namespace Go.Proofs.Ytgkakddldobpkaa
open Go.RowKit Go.Mv Mvp
attribute [local irreducible] permS permP toB turnsK squeeze permN permB spongeB feed frameL framesL tagL

theorem Stream_ok (b : Option Addr) (n c : Nat) (l : List UInt8) (m : Nat) (w : World) (hn : n ≤ 1000000) (hnc : n ≤ c) (hm : m ≤ 16384) (hb : RdB w b n l) (ho : Old w b) :
    Calls Try.prog 19 #[.slice b n c, .int .i64 (m : Int)] w fun r w' => ∃ v, r = .returned (.tuple #[v, .int .i64 0]) ∧ Own w' w.heap.size 5 1 v m (bs (spongeB l 31 m)) ∧ Fr Nob w w' := by
  refine (Stream_any b n c l m w hn hnc hb ho).mono ?_
  rintro r w' (⟨_, _, v, h1, h2, h3⟩ | ⟨h, _⟩)
  · exact ⟨v, h1, by simpa using h2, h3⟩
  · omega
theorem ask32 (base g : Nat) (st : List UInt8) (w : World) (hl : LogAt w base g st) (hbase : base ≤ w.heap.size) :
    Calls Try.prog 26 #[.pointer (some ⟨g, 0, none⟩), .string ⟨#[97]⟩, .int .i64 32] w fun r w' => ∃ v, r = .returned (.tuple #[v, .int .i64 0]) ∧ Own w' base 5 1 v 32 (bs (spongeB (tagL kAsk [st, [97]]) 31 32)) ∧ LogAt w' base g (tagL kAsked [st, [97]]) ∧ Fr (One g) w w' :=
  ask_any base g st ⟨#[97]⟩ 32 w (by decide) (by decide) hl hbase

set_option maxHeartbeats 1000000 in
set_option maxRecDepth 1000000 in
theorem begins_yes (s : ByteArray) (n m : Int) (label text : ByteArray) (w : World) (hn : -9223372036854775808 ≤ n ∧ n ≤ 9223372036854775807) (hm : -9223372036854775808 ≤ m ∧ m ≤ 9223372036854775807) (hs : s.size ≤ 16384) (hl : label.size ≤ 16384) (ht : text.size ≤ 16384) :
    Calls Try.prog 7 #[.string s, .int .i64 n, .int .i64 m, .string label, .string text] w fun e w' => e = .returned (.bool true) ∧ Fr Nob w w' := by
  have hsI : ¬ (16384 : Int) < (s.size : Int) := by omega
  have hlI : ¬ (16384 : Int) < (label.size : Int) := by omega
  have htI : ¬ (16384 : Int) < (text.size : Int) := by omega
  obtain ⟨hn1, hn2⟩ := hn
  obtain ⟨hm1, hm2⟩ := hm
  go_enter Try.func7, Try.ntmps7
  go_wp2_with fail
  refine (hash_any none 0 0 [] w (by decide) (by decide) (RdB.nil _ _) (Old.none _)).mono ?_
  rintro e w1 ⟨v1, rfl, hown1, hf1⟩
  obtain ⟨g1, o1, c1, rfl, -, -, -, -, hcell, -, -⟩ := hown1.cells (by decide)
  have hc0 : w1.cell? ⟨g1, o1, none⟩ = some (.int .u8 167) := hcell 0 _ (by simp [bs, List.getElem?_map, hash_none.1])
  have hc1 : w1.cell? ⟨g1, o1 + 1, none⟩ = some (.int .u8 255) := hcell 1 _ (by simp [bs, List.getElem?_map, hash_none.2])
  clear hcell hown1
  go_upto_if 52 with fail
  clear hc0 hc1 hsI hlI htI
  go_cut [1] (fun a wx => (∃ k : Nat, k ≤ 9223372036854775807 ∧ a = .int .i64 (k : Int)) ∧ w1 = wx)
  case first =>
    by_cases h0 : n < 0
    · go_wp2_with fail
      go_meet
      exact ⟨⟨(-(n + 1)).toNat, by omega, by congr 1; omega⟩, rfl⟩
    · go_wp2_with fail
      go_meet
      exact ⟨⟨n.toNat, by omega, by congr 1; omega⟩, rfl⟩
  case rest =>
  obtain ⟨⟨k1, hk1, rfl⟩, rfl⟩ := hcut
  clear hn1 hn2
  go_upto_if 57 with fail
  go_cut [2] (fun a wx => (∃ k : Nat, k ≤ 9223372036854775807 ∧ a = .int .i64 (k : Int)) ∧ w1 = wx)
  case first =>
    by_cases h0 : m < 0
    · go_wp2_with fail
      go_meet
      exact ⟨⟨(-(m + 1)).toNat, by omega, by congr 1; omega⟩, rfl⟩
    · go_wp2_with fail
      go_meet
      exact ⟨⟨m.toNat, by omega, by congr 1; omega⟩, rfl⟩
  case rest =>
  obtain ⟨⟨k2, hk2, rfl⟩, rfl⟩ := hcut
  clear hm1 hm2
  go_wp2_with (with_reducible refine wl_stop (o := ⟨some 69, _, _, _, _, _⟩) ?_)
  have e1 : (k1 : Int) % 2000 = ((k1 % 2000 : Nat) : Int) := by omega
  have e2 : (k2 : Int) % 2000 = ((k2 % 2000 : Nat) : Int) := by omega
  have hb1 : k1 % 2000 < 2000 := by omega
  have hb2 : k2 % 2000 < 2000 := by omega
  rw [e1, e2]
  generalize k1 % 2000 = a at *
  generalize k2 % 2000 = b at *
  clear e1 e2 hk1 hk2
  have e3 : (a : Int) + (b : Int) = ((a + b : Nat) : Int) := by omega
  rw [e3]; clear e3
  obtain ⟨m', hm'⟩ : ∃ m', m' = a + b := ⟨_, rfl⟩
  have hle : a ≤ m' := by omega
  have hm16 : m' ≤ 16384 := by omega
  rw [← hm']; clear hm' hb2
  refine wl_bytes (q := s) rfl rfl Try.underlying9 Try.underlying22 Try.underlying5 rfl (by unfold maxLen; omega) w1.heap.size (Nat.le_refl _) ?_
  intro cap2 w2 hown2 hf2 hz2
  clear hz2
  have hfr2 := hf1.then hf2
  obtain ⟨_, _, _, hv, hn2, hm2, hr2, ho2⟩ := own_part hown2 (by omega)
  cases hv
  clear hown2 hf1 hf2
  generalize w1.heap.size = gz1 at *
  go_wp2_with fail
  refine (Stream_ok _ _ _ _ a w2 hm2 hn2 (by omega) hr2 ho2).mono ?_
  rintro e w3 ⟨v3, rfl, hown3, hf3⟩
  have hfr3 := hfr2.then hf3
  clear hr2 ho2 hfr2 hf3 hn2 hm2
  generalize w2.heap.size = gz2 at *
  go_wp2_with (with_reducible refine wl_stop (o := ⟨some 76, _, _, _, _, _⟩) ?_)
  refine wl_bytes (q := s) rfl rfl Try.underlying9 Try.underlying22 Try.underlying5 rfl (by unfold maxLen; omega) w3.heap.size (Nat.le_refl _) ?_
  intro cap4 w4 hown4 hf4 hz4
  clear hz4
  have hfr4 := hfr3.then hf4
  have hown34 := hown3.still hf4
  obtain ⟨_, _, _, hv, hn4, hm4, hr4, ho4⟩ := own_part hown4 (by omega)
  cases hv
  clear hown4 hf4 hown3 hfr3
  generalize w3.heap.size = gz3 at *
  go_wp2_with fail
  refine (Stream_ok _ _ _ _ m' w4 hm4 hn4 hm16 hr4 ho4).mono ?_
  rintro e w5 ⟨v5, rfl, hown5, hf5⟩
  have hfr5 := hfr4.then hf5
  have hown35 := hown34.still hf5
  clear hr4 ho4 hfr4 hf5 hn4 hm4 hown34
  generalize w4.heap.size = gz4 at *
  obtain ⟨a3, c3, rfl, hr3⟩ := own_rd hown35
  obtain ⟨a5, c5, rfl, hc5, hr5, -⟩ := hown5.form
  rw [Nat.mul_one] at hr5
  have hr5' : RdB w5 a5 a (spongeB s.data.toList 31 a) := by
    have := cutAt_rd hr5 0 a c5 (by omega) (by omega) hle
    rw [Nat.sub_zero, List.drop_zero, bs_take, spongeB_take _ _ _ _ hle, cutAt_0] at this
    exact this
  clear hown5 hown35
  have x1 := fun nq => run_string (hr3.still ((Fr.refl Nob w5).drewN nq)) c3 Try.underlying22 Try.underlying5 Try.underlying9
  have x2 := fun nq => run_string (hr5'.still ((Fr.refl Nob w5).drewN nq)) c5 Try.underlying22 Try.underlying5 Try.underlying9
  have x3 := fun wx => run_slice_hi (P := Try.prog) wx Try.underlying22 size_u8 a5 m' c5 .i64 a (by omega)
  go_wp2_with fail
  go_quiet (fail)
  clear x1 x2 x3 hr3 hr5 hr5'
  go_wp2_with fail
  have hfr6 := hfr5.then ((Fr.refl Nob w5).drewN nq)
  generalize w5.drewN nq = w6 at *
  clear hfr5
  have hbw := hfr6.size
  refine (newLog_any label w6 (by omega)).mono ?_
  rintro e w7 ⟨g7, rfl, hg7, hl7, hf7⟩
  have hfr7 := hfr6.then hf7
  have hgl7 := hl7.lt
  clear hf7
  generalize w6.heap.size = gz6 at *
  go_wp2_with fail
  refine (newLog_any label w7 (by omega)).mono ?_
  rintro e w8 ⟨g8, rfl, hg8, hl8, hf8⟩
  have hfr8 := hfr7.then hf8
  have hl78 := hl7.still hf8
  have hgl8 := hl8.lt
  have hne : g7 ≠ g8 := by omega
  have hb8 : gz6 ≤ w8.heap.size := by omega
  have hb78 : w7.heap.size ≤ w8.heap.size := hf8.size
  clear hf8 hl7 hfr7
  generalize w7.heap.size = gz7 at *
  go_wp2_with (with_reducible refine wl_stop (o := ⟨some 121, _, _, _, _, _⟩) ?_)
  refine wl_bytes (q := text) rfl rfl Try.underlying9 Try.underlying22 Try.underlying5 rfl (by unfold maxLen; omega) w8.heap.size (Nat.le_refl _) ?_
  intro cap9 w9 hown9 hf9 hz9
  clear hz9
  have hfr9 := hfr8.then hf9
  have hl79 := hl78.still hf9
  have hl89 := hl8.still hf9
  have hp9 := own_part hown9 (by omega)
  have hb9 : gz6 ≤ w9.heap.size := Nat.le_trans hb8 hf9.size
  have hb79 : gz7 ≤ w9.heap.size := Nat.le_trans hb78 hf9.size
  clear hown9 hf9 hl8 hl78 hfr8 hb8 hb78
  generalize w8.heap.size = gz8 at *
  go_wp2_with fail
  refine (say_any gz6 g7 _ label _ _ _ _ w9 (by omega) hl79 hp9 hb9).mono ?_
  rintro e w10 ⟨rfl, hl10, hf10⟩
  have hfr10 : Fr Nob w w10 := hfr9.trans hf10 (fun i hi h => by have : i = g7 := h; omega)
  have hl810 := hl89.other hf10 (Ne.symm hne) hl79.choose_spec.1 (by decide)
  have hb10 : gz6 ≤ w10.heap.size := Nat.le_trans hb9 hf10.size
  have hb710 : gz7 ≤ w10.heap.size := Nat.le_trans hb79 hf10.size
  clear hf10 hl89 hl79 hp9 hfr9 hb9 hb79
  go_wp2_with (with_reducible refine wl_stop (o := ⟨some 126, _, _, _, _, _⟩) ?_)
  refine wl_bytes (q := text) rfl rfl Try.underlying9 Try.underlying22 Try.underlying5 rfl (by unfold maxLen; omega) w10.heap.size (Nat.le_refl _) ?_
  intro cap11 w11 hown11 hf11 hz11
  clear hz11
  have hfr11 := hfr10.then hf11
  have hl11 := hl10.still hf11
  have hl811 := hl810.still hf11
  have hp11 := own_part hown11 (by omega)
  have hb11 : gz6 ≤ w11.heap.size := Nat.le_trans hb10 hf11.size
  have hb711 : gz7 ≤ w11.heap.size := Nat.le_trans hb710 hf11.size
  clear hown11 hf11 hl10 hl810 hfr10 hb10 hb710
  generalize w10.heap.size = gz10 at *
  go_wp2_with fail
  refine (say_any gz7 g8 _ label _ _ _ _ w11 (by omega) hl811 hp11 hb711).mono ?_
  rintro e w12 ⟨rfl, hl812, hf12⟩
  have hfr12 : Fr Nob w w12 := hfr11.trans hf12 (fun i hi h => by have : i = g8 := h; omega)
  have hl12 := hl11.other hf12 hne hl811.choose_spec.1 (by decide)
  have hb12 : gz6 ≤ w12.heap.size := Nat.le_trans hb11 hf12.size
  have hb712 : gz7 ≤ w12.heap.size := Nat.le_trans hb711 hf12.size
  clear hf12 hl811 hl11 hp11 hfr11 hb11 hb711
  go_wp2_with fail
  refine (ask32 gz6 g7 _ w12 hl12 hb12).mono ?_
  rintro e w13 ⟨v13, rfl, hown13, hl13, hf13⟩
  have hfr13 : Fr Nob w w13 := hfr12.trans hf13 (fun i hi h => by have : i = g7 := h; omega)
  have hl813 := hl812.other hf13 (Ne.symm hne) hl12.choose_spec.1 (by decide)
  have hb713 : gz7 ≤ w13.heap.size := Nat.le_trans hb712 hf13.size
  clear hf13 hl812 hl12 hfr12 hb12 hb712 hl13
  go_wp2_with fail
  refine (ask32 gz7 g8 _ w13 hl813 hb713).mono ?_
  rintro e w14 ⟨v14, rfl, hown14, hl14, hf14⟩
  have hfr14 : Fr Nob w w14 := hfr13.trans hf14 (fun i hi h => by have : i = g8 := h; omega)
  have hown1314 := hown13.keep hf14 (fun k hk (e : k = g8) => hown13.ne hl813.choose_spec.1 (by decide) (e ▸ hk))
  obtain ⟨a13, c13, rfl, hr13⟩ := own_rd hown1314
  obtain ⟨a14, c14, rfl, hr14⟩ := own_rd hown14
  clear hf14 hl813 hfr13 hl14 hown13 hown14 hown1314 hb713
  have x1 := run_string hr13 c13 Try.underlying22 Try.underlying5 Try.underlying9
  have x2 := run_string hr14 c14 Try.underlying22 Try.underlying5 Try.underlying9
  go_wp2_with fail
  go_ret
  exact ⟨rfl, hfr14⟩

set_option maxHeartbeats 400000 in
set_option maxRecDepth 1000000 in
theorem begins_big (s : ByteArray) (n m : Int) (label text : ByteArray) (w : World) (h : 16384 < s.size ∨ 16384 < label.size ∨ 16384 < text.size) :
    Calls Try.prog 7 #[.string s, .int .i64 n, .int .i64 m, .string label, .string text] w fun e w' => e = .returned (.bool true) ∧ Fr Nob w w' := by
  have h3 : (16384 : Int) < (s.size : Int) ∨ (¬ (16384 : Int) < (s.size : Int) ∧ (16384 : Int) < (label.size : Int)) ∨ (¬ (16384 : Int) < (s.size : Int) ∧ ¬ (16384 : Int) < (label.size : Int) ∧ (16384 : Int) < (text.size : Int)) := by omega
  clear h
  go_enter Try.func7, Try.ntmps7
  go_wp2_with fail
  refine (hash_any none 0 0 [] w (by decide) (by decide) (RdB.nil _ _) (Old.none _)).mono ?_
  rintro e w1 ⟨v1, rfl, hown1, hf1⟩
  obtain ⟨g1, o1, c1, rfl, -, -, -, -, hcell, -, -⟩ := hown1.cells (by decide)
  have hc0 : w1.cell? ⟨g1, o1, none⟩ = some (.int .u8 167) := hcell 0 _ (by simp [bs, List.getElem?_map, hash_none.1])
  have hc1 : w1.cell? ⟨g1, o1 + 1, none⟩ = some (.int .u8 255) := hcell 1 _ (by simp [bs, List.getElem?_map, hash_none.2])
  clear hcell hown1
  rcases h3 with h | ⟨h, h'⟩ | ⟨h, h', h''⟩
  all_goals
    go_wp2_with fail
    go_ret
    exact ⟨rfl, hf1⟩
theorem law_SpongeBegins (s : ByteArray) (n m : Int) (label text : ByteArray) (w : World) (hn : -9223372036854775808 ≤ n ∧ n ≤ 9223372036854775807) (hm : -9223372036854775808 ≤ m ∧ m ≤ 9223372036854775807) :
    Calls Try.prog 7 #[.string s, .int .i64 n, .int .i64 m, .string label, .string text] w fun e w' => e = .returned (.bool true) ∧ Fr Nob w w' := by
  by_cases h : 16384 < s.size ∨ 16384 < label.size ∨ 16384 < text.size
  · exact begins_big s n m label text w h
  · exact begins_yes s n m label text w hn hm (by omega) (by omega) (by omega)
end Go.Proofs.Ytgkakddldobpkaa
