/- mintvaultlaw1.SpongeLogs: the walk -/
import Derived.Test.YtgkakddldobpkaaLogs1
import Derived.Test.YtgkakddldobpkaaW18
import Derived.Test.YtgkakddldobpkaaBegins
namespace Go.Proofs.Ytgkakddldobpkaa
open Go.RowKit Go.Mv Mvp
attribute [local irreducible] permS permP toB turnsK squeeze permN permB spongeB feed frameL framesL tagL

/-- a step: what to do, a number, a label, a text -/
abbrev St : Type := Int × Int × List UInt8 × List UInt8
def stC (s : St) : List Value := [.int .i64 s.1, .int .i64 s.2.1, .string (mkS s.2.2.1), .string (mkS s.2.2.2)]
def stsC (l : List St) : List Value := l.flatMap stC
theorem stC_len (s : St) : (stC s).length = 4 := rfl
theorem stsC_len (l : List St) : (stsC l).length = l.length * 4 := by
  induction l with
  | nil => rfl
  | cons a l ih => simp only [stsC, List.flatMap_cons, List.length_append, stC_len, List.length_cons] at *; omega
theorem stsC_get (l : List St) (j : Nat) (hj : j < l.length) : ((stsC l).drop (j * 4)).take 4 = stC l[j] := by
  induction l generalizing j with
  | nil => simp at hj
  | cons a l ih =>
    cases j with
    | zero => simp [stsC, List.flatMap_cons, stC]
    | succ j =>
      have : (stsC (a :: l)).drop ((j + 1) * 4) = (stsC l).drop (j * 4) := by
        simp only [stsC, List.flatMap_cons]
        rw [List.drop_append, List.drop_of_length_le (by rw [stC_len]; omega), List.nil_append, stC_len]
        congr 1; omega
      rw [this, ih j (by simpa using hj)]; rfl

theorem info_step : (Try.prog.info? 47).map (·.size) = some 4 := by kernel_rfl
theorem zero_step : (Try.prog.info? 47).map (·.zero) = some (some (.agg #[.int .i64 0, .int .i64 0, .string ByteArray.empty, .string ByteArray.empty])) := by kernel_rfl
theorem info_kp : (Try.prog.info? 40).map (fun i => (i.zero, i.size, i.bytes)) = some (some (.pointer none), 1, 8) := by kernel_rfl
theorem info_wp : (Try.prog.info? 42).map (fun i => (i.zero, i.size, i.bytes)) = some (some (.pointer none), 1, 8) := by kernel_rfl

theorem st_cells {w : World} {g : Nat} {d n : Int} {l x : List UInt8} {T : TypeId} (h : Has w g (stC (d, n, l, x)) T) :
    w.cell? ⟨g, 0, none⟩ = some (.int .i64 d) ∧ w.cell? ⟨g, 1, none⟩ = some (.int .i64 n) ∧ w.cell? ⟨g, 2, none⟩ = some (.string (mkS l)) ∧ w.cell? ⟨g, 3, none⟩ = some (.string (mkS x)) :=
  ⟨h.cell (i := 0) rfl, h.cell (i := 1) rfl, h.cell (i := 2) rfl, h.cell (i := 3) rfl⟩
theorem lent_part {w : World} {g : Nat} {x : List UInt8} (h : Has w g (bs (lentL x)) 5) (hx : x.length ≤ 1000000) : PartIs w (.slice (some ⟨g, 0, none⟩) x.length (x.length + 160)) x := by
  refine ⟨_, _, _, rfl, by omega, hx, ?_, Old.has h 0⟩
  have := Rd.ofHas h 0 (n := x.length) (by rw [length_bs, lentL_len]; omega)
  rw [List.drop_zero, bs_take] at this
  unfold lentL at this
  rwa [List.take_left] at this
theorem lent_whole {w : World} {g : Nat} {x : List UInt8} (h : Has w g (bs (lentL x)) 5) : RdB w (some ⟨g, 0, none⟩) (x.length + 160) (lentL x) := by
  have := Rd.whole h
  rwa [length_bs, lentL_len] at this
theorem Fr.one {w w1 w2 : World} {g : Nat} (h : Fr Nob w w1) (k : Fr (One g) w1 w2) (hg : w.heap.size ≤ g) : Fr Nob w w2 := h.new k hg
theorem logAt_base {w : World} {base g : Nat} {l : List UInt8} (h : LogAt w base g l) : base ≤ w.heap.size := by
  obtain ⟨v, _, ho⟩ := h
  obtain ⟨g', o, cap, _, hb, hl, _⟩ := ho.cells (by decide)
  omega

def kEnd : List UInt8 := [101, 110, 100]
theorem ask40 (base g : Nat) (st : List UInt8) (w : World) (hl : LogAt w base g st) (hbase : base ≤ w.heap.size) :
    Calls Try.prog 26 #[.pointer (some ⟨g, 0, none⟩), .string ⟨#[101, 110, 100]⟩, .int .i64 40] w fun r w' => ∃ v, r = .returned (.tuple #[v, .int .i64 0]) ∧ Own w' base 5 1 v 40 (bs (spongeB (tagL kAsk [st, kEnd]) 31 40)) ∧ LogAt w' base g (tagL kAsked [st, kEnd]) ∧ Fr (One g) w w' :=
  ask_any base g st ⟨#[101, 110, 100]⟩ 40 w (by decide) (by decide) hl hbase
theorem askR40 (g : Nat) (st : List UInt8) (w : World) (hst : st.length = 32) (hl : RLogAt w g st) :
    Calls Try.prog 27 #[.pointer (some ⟨g, 0, none⟩), .string ⟨#[101, 110, 100]⟩, .int .i64 40] w fun r w' => r = .returned (.string (mkS (spongeB (tagL kAsk [st, kEnd]) 31 40))) ∧ RLogAt w' g (tagL kAsked [st, kEnd]) ∧ Fr (One g) w w' :=
  askR_any g st ⟨#[101, 110, 100]⟩ 40 w hst (by decide) (by decide) hl

set_option maxHeartbeats 4000000 in
set_option maxRecDepth 1000000 in
theorem logs_yes (label : ByteArray) (a : Option Addr) (c : Nat) (l : List St) (w : World) (hlab : label.size ≤ 16384) (hm : l.length ≤ 64) (hb : Rd w a (l.length * 4) (stsC l)) :
    Calls Try.prog 6 #[.string label, .slice a l.length c] w fun e w' => e = .returned (.bool true) ∧ Fr Nob w w' := by
  have hlabI : ¬ (16384 : Int) < (label.size : Int) := by omega
  have hmI : ¬ (64 : Int) < (l.length : Int) := by omega
  go_enter Try.func6, Try.ntmps6
  go_wp2_with fail
  refine (newLog_any label w (by omega)).mono ?_
  rintro e w1 ⟨ga, rfl, hga, hla, hf1⟩
  go_wp2_with fail
  refine (newR_any label w1 (by omega)).mono ?_
  rintro e w2 ⟨gb, rfl, hgb, hlb, hf2⟩
  have hfr2 := hf1.then hf2
  have hL : LI w2 w.heap.size ga gb (tagL kLog [label.data.toList]) (tagL kLog [label.data.toList]) [] (.slice none 0 0) [] (.slice none 0 0) [] :=
    ⟨tagL_len _ _, tagL_len _ _, hla.still hf2, hlb, by simp, by simp, by simp, Own.nil _ _ _ _, Own.nil _ _ _ _, hga, Nat.le_trans hf1.size hgb, by simp⟩
  generalize tagL kLog [label.data.toList] = st0 at *
  clear hla hlb hf1 hf2 hga hgb
  go_wp2_with fail
  go_loopw [5, 7, 8, 9] (fun va vk vw i wr => ∃ (j ga : Nat) (st : List UInt8) (T : List Tri), j ≤ l.length ∧ i = .int .i64 (j : Int) ∧ va = .pointer (some ⟨ga, 0, none⟩) ∧ T.length ≤ j ∧ LI wr w.heap.size ga gb st st T vk (kptr T) vw (wptr T) ∧ Fr Nob w wr) (fun _ _ _ i _ => (l.length - intOf i).toNat)
  case atStart => exact ⟨0, ga, st0, [], by omega, rfl, rfl, by simp, hL, hfr2⟩
  case round =>
    clear hL hfr2
    obtain ⟨j, ga, st, T, hj, rfl, rfl, hTj, hL, hfj⟩ := hrel
    by_cases hlt : j < l.length
    · have hltI : (j : Int) < (l.length : Int) := by omega
      obtain ⟨b, o, rfl, hat⟩ := (hb.still hfj).at (by omega)
      have hat4 : At wr b (o + j * 4) (stC l[j]) := by
        have := hat.sub (j * 4) 4
        rwa [stsC_get l j hlt] at this
      clear hat
      go_wp2_with (with_reducible refine wl_stop (o := ⟨some 44, _, _, _, _, _⟩) ?_)
      generalize hs4 : l[j] = s at *
      have HS4 := Lib.hid hs4; clear hs4
      refine wl_loadR rfl rfl Try.underlying47 rfl rfl hat4 info_step ?_
      clear hat4
      go_wp2_with (with_reducible refine wl_stop (o := ⟨some 10, _, _, _, _, _⟩) ?_)
      refine wl_alloc rfl rfl zero_step [.int .i64 0, .int .i64 0, .string ByteArray.empty, .string ByteArray.empty] rfl ?_
      intro w3 hs3 hf3 hz3
      clear hz3
      go_wp2_with (with_reducible refine wl_stop (o := ⟨none, .store 47 _ _, _, _, _, _⟩) ?_)
      refine wl_storeA rfl rfl rfl rfl hs3 (by simp [stC_len]) info_step (by simp [stC]; exact ⟨rfl, rfl, rfl, rfl⟩) ?_
      intro w4 hs4 hf4 hz4
      have hf34 : Fr Nob wr w4 := hf3.new hf4 (Nat.le_refl _)
      have hg10 : Has w4 wr.heap.size (stC s) 47 := by simpa [splice, stC] using hs4
      have hL4 := hL.still hf34
      have hf4' := hfj.then hf34
      clear hs3 hf3 hs4 hf4 hz4 hf34 hL hfj
      generalize wr.heap.size = g10 at *
      obtain ⟨sd, sn, sl, sx⟩ := s
      obtain ⟨hc0, hc1, hc2, hc3⟩ := st_cells hg10
      have HS5 := Lib.hid HS4; clear HS4
      by_cases hsl : 16384 < sl.length
      · have hslI : (16384 : Int) < ((mkS sl).size : Int) := by rw [mkS_size]; omega
        go_wp2_with fail
        go_roundw
        case rel => exact ⟨j + 1, ga, st, T, by omega, by go_num, rfl, by omega, hL4, hf4'⟩
        case measure => simp [intOf]; omega
      have hslI : ¬ (16384 : Int) < ((mkS sl).size : Int) := by rw [mkS_size]; omega
      by_cases hsx : 16384 < sx.length
      · have hsxI : (16384 : Int) < ((mkS sx).size : Int) := by rw [mkS_size]; omega
        go_wp2_with fail
        go_roundw
        case rel => exact ⟨j + 1, ga, st, T, by omega, by go_num, rfl, by omega, hL4, hf4'⟩
        case measure => simp [intOf]; omega
      have hsxI : ¬ (16384 : Int) < ((mkS sx).size : Int) := by rw [mkS_size]; omega
      by_cases h1 : sd = 1
      · subst h1
        go_wp2_with fail
        refine (lent_any (mkS sx) w4 (by rw [mkS_size]; omega)).mono ?_
        rintro e w5 ⟨rfl, hh5, hf5, hz5⟩
        clear hz5
        rw [mkS_toList] at hh5
        rw [mkS_size]
        have hL5 := hL4.still hf5
        have hf5' := hf4'.then hf5
        have hg5 := hg10.keep hf5 id
        clear hL4 hf4' hf5 hc0 hc1 hc2 hc3 hg10
        obtain ⟨hd0, hd1, hd2, hd3⟩ := st_cells hg5
        generalize w4.heap.size = g11 at *
        have hqs : (mkS sx).size = sx.length := mkS_size _
        have x3 := fun wx => run_slice_hi (P := Try.prog) wx Try.underlying22 size_u8 (some ⟨g11, 0, none⟩) (sx.length + 160) (sx.length + 160) .i64 sx.length (by omega)
        go_wp2_with fail
        refine wp_region_still_tail 8 (by kernel_rfl) (by kernel_rfl) ?_
        simp only [List.take_succ_cons, List.take_zero, List.drop_succ_cons, List.drop_zero]
        repeat still_step
        refine wpStill_nil ?_
        go_wp2_with fail
        clear hqs x3 hd0 hd1 hd2 hd3
        have hdr := (Fr.refl Nob w5).drew
        have hL6 := hL5.still hdr
        have hg6 := hg5.keep hdr id
        have hh6 := hh5.keep hdr id
        have hf6' := hf5'.then hdr
        clear hL5 hg5 hh5 hf5' hdr
        generalize w5.drew = w6 at *
        refine (say_any w.heap.size ga st (mkS sl) _ _ _ sx w6 (by rw [mkS_size]; omega) hL6.a (lent_part hh6 (by omega)) (logAt_base hL6.a)).mono ?_
        rintro e w7 ⟨rfl, hla7, hf7⟩
        rw [mkS_toList] at hla7
        have hL7 := hL6.stepA hf7 hla7 (tagL_len _ _)
        have hg7 := hg6.keep hf7 (Has.ne hg6 hL6.a.at'.choose_spec (by decide))
        have hh7 := hh6.keep hf7 (Has.ne hh6 hL6.a.at'.choose_spec (by decide))
        have hf7' := Fr.one hf6' hf7 hL7.bs.1
        clear hL6 hg6 hh6 hf6' hla7 hf7
        obtain ⟨hd0, hd1, hd2, hd3⟩ := st_cells hg7
        go_wp2_with fail
        refine (still_same _ _ _ sx w7 (by omega) (lent_whole hh7)).mono ?_
        rintro e w8 ⟨rfl, hf8⟩
        have hL8 := hL7.still hf8
        have hg8 := hg7.keep hf8 id
        have hf8' := hf7'.then hf8
        clear hL7 hg7 hh7 hf7' hf8 hd0 hd1 hd2 hd3
        obtain ⟨hd0, hd1, hd2, hd3⟩ := st_cells hg8
        go_wp2_with fail
        refine (sayR_any gb st (mkS sl) (mkS sx) w8 hL8.lb (by rw [mkS_size]; omega) (by rw [mkS_size]; omega) hL8.b).mono ?_
        rintro e w9 ⟨rfl, hlb9, hf9⟩
        rw [mkS_toList, mkS_toList] at hlb9
        have hL9 := hL8.stepB hf9 hlb9 (tagL_len _ _)
        have hf9' := Fr.one hf8' hf9 hL9.bs.2.1
        clear hL8 hg8 hf8' hf9 hlb9 hd0 hd1 hd2 hd3
        go_wp2_with fail
        go_roundw
        case rel => exact ⟨j + 1, ga, _, T, by omega, by go_num, rfl, by omega, hL9, hf9'⟩
        case measure => simp [intOf]; omega
      by_cases h2 : sd = 2
      · subst h2
        by_cases hn : sn < 0 ∨ 1024 < sn
        · go_wp2_with fail
          refine (ask_err ga (mkS sl) sn w4 hn).mono ?_
          rintro e w5 ⟨rfl, rfl⟩
          rcases hn with hn | hn
          · go_wp2_with fail
            go_roundw
            case rel => exact ⟨j + 1, ga, st, T, by omega, by go_num, rfl, by omega, hL4, hf4'⟩
            case measure => simp [intOf]; omega
          · have hn0 : ¬ sn < 0 := by omega
            go_wp2_with fail
            go_roundw
            case rel => exact ⟨j + 1, ga, st, T, by omega, by go_num, rfl, by omega, hL4, hf4'⟩
            case measure => simp [intOf]; omega
        · obtain ⟨m, rfl⟩ : ∃ m : Nat, sn = m := ⟨sn.toNat, by omega⟩
          have hm0 : ¬ (m : Int) < 0 := by omega
          have hm1 : ¬ (1024 : Int) < (m : Int) := by omega
          have hmn : m ≤ 1024 := by omega
          clear hn
          go_wp2_with fail
          refine (ask_any w.heap.size ga st (mkS sl) m w4 (by rw [mkS_size]; omega) hmn hL4.a (logAt_base hL4.a)).mono ?_
          rintro e w5 ⟨v5, rfl, hown5, hla5, hf5⟩
          rw [mkS_toList] at hla5 hown5
          have hL5 := hL4.stepA hf5 hla5 (tagL_len _ _)
          have hg5 := hg10.keep hf5 (Has.ne hg10 hL4.a.at'.choose_spec (by decide))
          have hf5' := Fr.one hf4' hf5 hL5.bs.1
          obtain ⟨a5, c5, rfl, -⟩ := own_rd hown5
          clear hL4 hg10 hf4' hf5 hla5 hc0 hc1 hc2 hc3
          obtain ⟨hd0, hd1, hd2, hd3⟩ := st_cells hg5
          have HR5 := Lib.hid hown5; clear hown5
          go_wp2_with fail
          refine (askR_any gb st (mkS sl) m w5 hL5.lb (by rw [mkS_size]; omega) hmn hL5.b).mono ?_
          rintro e w6 ⟨rfl, hlb6, hf6⟩
          rw [mkS_toList] at hlb6
          rw [mkS_toList]
          have hL6 := hL5.stepB hf6 hlb6 (tagL_len _ _)
          have hf6' := Fr.one hf5' hf6 hL5.bs.2.1
          have hown6 := HR5.out.keep hf6 (fun k hk (e : k = gb) => HR5.out.ne hL5.b (by decide) (e ▸ hk))
          obtain ⟨_, _, hv6, hr6⟩ := own_rd hown6
          cases hv6
          have x1 := run_string hr6 c5 Try.underlying22 Try.underlying5 Try.underlying9
          clear HR5 hr6 hown6 hL5 hg5 hf5' hf6 hlb6 hd0 hd1 hd2 hd3
          go_wp2_with fail
          go_roundw
          case rel => exact ⟨j + 1, ga, _, T, by omega, by go_num, rfl, by omega, hL6, hf6'⟩
          case measure => simp [intOf]; omega
      by_cases h3 : sd = 3
      · subst h3
        go_wp2_with fail
        refine (clone_any w.heap.size ga st w4 hL4.a).mono ?_
        rintro e w5 ⟨rfl, hlc5, hf5⟩
        have hL5 := hL4.still hf5
        have hf5' := hf4'.then hf5
        have hc5lt : ∀ g l, LogAt w4 w.heap.size g l → g ≠ w4.heap.size := fun g l h => by have := h.lt; omega
        have hn1 := hc5lt _ _ hL4.a
        have hn2 : ∀ t ∈ T, t.1 ≠ w4.heap.size := fun t ht => hc5lt _ _ (hL4.each t ht).1
        have hbc : w.heap.size ≤ w4.heap.size := hf4'.size
        clear hc5lt hL4 hf4' hf5 hg10 hc0 hc1 hc2 hc3
        generalize w4.heap.size = gc at *
        go_wp2_with (with_reducible refine wl_stop (o := ⟨some 131, _, _, _, _, _⟩) ?_)
        refine wl_slit rfl rfl Try.underlying44 info_kp [.pointer (some ⟨ga, 0, none⟩)] rfl (by simp; rfl) rfl rfl ?_
        intro w6 hh6 hf6 hz6
        clear hz6
        have hL6 := hL5.still hf6
        have hlc6 := hlc5.still hf6
        have hf6' := hf5'.then hf6
        have hTl : (kptr T).length = T.length := by simp [kptr]
        have hTw : (wptr T).length = T.length := by simp [wptr]
        clear hL5 hlc5 hf5' hf6
        generalize w5.heap.size = g6 at *
        go_wp2_with (with_reducible refine wl_stop (o := ⟨some 132, _, _, _, _, _⟩) ?_)
        refine wl_append rfl rfl Try.underlying44 info_kp rfl (by decide) hL6.k rfl rfl (Rd.whole hh6) (fun u hu => by simp only [List.mem_singleton] at hu; subst hu; rfl) (by unfold maxLen; omega) (by omega) hf6'.size ?_
        intro v7 w7 hown7 hf7 hb7
        clear hb7
        have hk7 : Own w7 w.heap.size 40 1 v7 (kptr T ++ [Value.pointer (some ⟨ga, 0, none⟩)]).length (kptr T ++ [Value.pointer (some ⟨ga, 0, none⟩)]) := by simpa using hown7
        have hL7 := hL6.appK hf7 hk7
        obtain ⟨vc, hvc⟩ := hlc6.at'
        have hlc7 : LogAt w7 w.heap.size gc st := hlc6.own hf7 (hL6.k.ne hvc (by decide)) (fun v ho k hk hk' => ho.ne2 hL6.k (by decide) k hk hk')
        have hf7' := hL6.k.fr hf6' (Nat.le_refl _) hf7
        have hcb := Has.cell hL7.b (i := 0) rfl
        clear hown7 hf7 hk7 hvc hlc6 hL6 hf6' hh6
        go_wp2_with (with_reducible refine wl_stop (o := ⟨some 138, _, _, _, _, _⟩) ?_)
        refine wl_buildL rfl rfl _ (built_rlog _) ?_
        refine wl_box rfl rfl rfl [.string (mkS st)] rfl ?_
        intro w8 hh8 hf8 hz8
        clear hz8 hcb
        have hL8 := hL7.still hf8
        have hlc8 := hlc7.still hf8
        have hf8' := hf7'.then hf8
        have hm1 : w7.heap.size ≠ gb := by have := Has.lt hL7.b; omega
        have hm2 : ∀ t ∈ T, t.2.1 ≠ w7.heap.size := fun t ht => by have := Has.lt (hL7.each t ht).2.1; omega
        have hbr : w.heap.size ≤ w7.heap.size := hf7'.size
        clear hL7 hlc7 hf7' hf8
        generalize w7.heap.size = gr at *
        go_wp2_with (with_reducible refine wl_stop (o := ⟨some 140, _, _, _, _, _⟩) ?_)
        refine wl_slit rfl rfl Try.underlying45 info_wp [.pointer (some ⟨gr, 0, none⟩)] rfl (by simp; rfl) rfl rfl ?_
        intro w9 hh9 hf9 hz9
        clear hz9
        have hL9 := hL8.still hf9
        have hlc9 := hlc8.still hf9
        have hr9 : RLogAt w9 gr st := Has.keep hh8 hf9 id
        have hf9' := hf8'.then hf9
        clear hL8 hlc8 hf8' hf9 hh8
        generalize w8.heap.size = g9 at *
        go_wp2_with (with_reducible refine wl_stop (o := ⟨some 141, _, _, _, _, _⟩) ?_)
        refine wl_append rfl rfl Try.underlying45 info_wp rfl (by decide) hL9.w rfl rfl (Rd.whole hh9) (fun u hu => by simp only [List.mem_singleton] at hu; subst hu; rfl) (by unfold maxLen; omega) (by omega) hf9'.size ?_
        intro v10 w10 hown10 hf10 hb10
        clear hb10
        have hw10 : Own w10 w.heap.size 42 1 v10 (wptr T ++ [Value.pointer (some ⟨gr, 0, none⟩)]).length (wptr T ++ [Value.pointer (some ⟨gr, 0, none⟩)]) := by simpa using hown10
        have hL10 := hL9.appW hf10 hw10
        obtain ⟨vc, hvc⟩ := hlc9.at'
        have hlc10 : LogAt w10 w.heap.size gc st := hlc9.own hf10 (hL9.w.ne hvc (by decide)) (fun v ho k hk hk' => ho.ne2 hL9.w (by decide) k hk hk')
        have hr10 : RLogAt w10 gr st := Has.keep hr9 hf10 (hL9.w.ne hr9 (by decide))
        have hf10' := hL9.w.fr hf9' (Nat.le_refl _) hf10
        have hL11 := hL10.cloned hlc10 hr10 (Ne.symm hn1) hn2 hm1 hm2 hbc hbr
        rw [show kptr T ++ [Value.pointer (some ⟨ga, 0, none⟩)] = kptr (T ++ [(ga, gr, st)]) by simp [kptr], show wptr T ++ [Value.pointer (some ⟨gr, 0, none⟩)] = wptr (T ++ [(ga, gr, st)]) by simp [wptr]] at hL11
        clear hL10 hlc10 hr10 hvc hw10 hown10 hf10 hL9 hlc9 hr9 hf9' hh9 hTl hTw hn1 hn2 hm1 hm2 hbc hbr
        go_wp2_with fail
        go_roundw
        case rel => exact ⟨j + 1, gc, st, T ++ [(ga, gr, st)], by omega, by go_num, rfl, by simp; omega, hL11, hf10'⟩
        case measure => simp [intOf]; omega
      go_wp2_with fail
      go_roundw
      case rel => exact ⟨j + 1, ga, st, T, by omega, by go_num, rfl, by omega, hL4, hf4'⟩
      case measure => simp [intOf]; omega
    · have hge : ¬ ((j : Int) < (l.length : Int)) := by omega
      have hTl : (kptr T).length = T.length := by simp [kptr]
      have hTw : (wptr T).length = T.length := by simp [wptr]
      go_wp2_with (with_reducible refine wl_stop (o := ⟨some 145, _, _, _, _, _⟩) ?_)
      refine wl_slit rfl rfl Try.underlying44 info_kp [.pointer (some ⟨ga, 0, none⟩)] rfl (by simp; rfl) rfl rfl ?_
      intro w6 hh6 hf6 hz6
      clear hz6
      have hL6 := hL.still hf6
      have hf6' := hfj.then hf6
      clear hL hfj hf6
      generalize wr.heap.size = g6 at *
      go_wp2_with (with_reducible refine wl_stop (o := ⟨some 146, _, _, _, _, _⟩) ?_)
      refine wl_append rfl rfl Try.underlying44 info_kp rfl (by decide) hL6.k rfl rfl (Rd.whole hh6) (fun u hu => by simp only [List.mem_singleton] at hu; subst hu; rfl) (by unfold maxLen; omega) (by omega) hf6'.size ?_
      intro v7 w7 hown7 hf7 hb7
      clear hb7
      have hk7 : Own w7 w.heap.size 40 1 v7 (kptr T ++ [Value.pointer (some ⟨ga, 0, none⟩)]).length (kptr T ++ [Value.pointer (some ⟨ga, 0, none⟩)]) := by simpa using hown7
      have hL7 := hL6.appK hf7 hk7
      have hf7' := hL6.k.fr hf6' (Nat.le_refl _) hf7
      clear hown7 hf7 hk7 hL6 hf6' hh6
      go_wp2_with (with_reducible refine wl_stop (o := ⟨some 149, _, _, _, _, _⟩) ?_)
      refine wl_slit rfl rfl Try.underlying45 info_wp [.pointer (some ⟨gb, 0, none⟩)] rfl (by simp; rfl) rfl rfl ?_
      intro w9 hh9 hf9 hz9
      clear hz9
      have hL9 := hL7.still hf9
      have hf9' := hf7'.then hf9
      clear hL7 hf7' hf9
      generalize w7.heap.size = g9 at *
      go_wp2_with (with_reducible refine wl_stop (o := ⟨some 150, _, _, _, _, _⟩) ?_)
      refine wl_append rfl rfl Try.underlying45 info_wp rfl (by decide) hL9.w rfl rfl (Rd.whole hh9) (fun u hu => by simp only [List.mem_singleton] at hu; subst hu; rfl) (by unfold maxLen; omega) (by omega) hf9'.size ?_
      intro v10 w10 hown10 hf10 hb10
      clear hb10
      have hw10 : Own w10 w.heap.size 42 1 v10 (wptr T ++ [Value.pointer (some ⟨gb, 0, none⟩)]).length (wptr T ++ [Value.pointer (some ⟨gb, 0, none⟩)]) := by simpa using hown10
      have hL10 := hL9.appW hf10 hw10
      have hf10' := hL9.w.fr hf9' (Nat.le_refl _) hf10
      rw [show kptr T ++ [Value.pointer (some ⟨ga, 0, none⟩)] = kptr (T ++ [(ga, gb, st)]) by simp [kptr], show wptr T ++ [Value.pointer (some ⟨gb, 0, none⟩)] = wptr (T ++ [(ga, gb, st)]) by simp [wptr]] at hL10
      have hJ := hL10.last
      have hlen : (T ++ [(ga, gb, st)]).length ≤ 65 := by simp; omega
      clear hw10 hown10 hf10 hL9 hf9' hh9 hTl hTw hL10 hTj
      generalize T ++ [(ga, gb, st)] = T1 at *
      obtain ⟨ak, ck, hvk, -⟩ := hJ.k.form
      obtain ⟨aw, cw, hvw, -⟩ := hJ.w.form
      subst hvk hvw
      clear T st
      go_wp2_with fail
      go_loopw [17] (fun i wr => ∃ j : Nat, j ≤ T1.length ∧ i = .int .i64 (j : Int) ∧ LJ wr w.heap.size T1 j (.slice ak T1.length ck) (.slice aw T1.length cw) ∧ Fr Nob w wr) (fun i _ => (T1.length - intOf i).toNat)
      case atStart => exact ⟨0, by omega, rfl, hJ, hf10'⟩
      case round =>
        clear hJ hf10'
        obtain ⟨j, hj, rfl, hJ, hfj⟩ := hrel
        by_cases hlt : j < T1.length
        · have hltI : (j : Int) < (T1.length : Int) := by omega
          obtain ⟨t, ht⟩ : ∃ t, T1[j]? = some t := ⟨T1[j], List.getElem?_eq_getElem hlt⟩
          obtain ⟨hta, htb, htl⟩ := hJ.each j t (Nat.le_refl _) ht
          obtain ⟨bk, ok, _, hv1, -, -, -, -, hck, -, -⟩ := hJ.k.cells (by omega)
          cases hv1
          have hc1 := hck j _ (show (kptr T1)[j]? = some (.pointer (some ⟨t.1, 0, none⟩)) by simp [kptr, List.getElem?_map, ht])
          clear hck
          have htm := List.mem_of_getElem? ht
          have HT := Lib.hid ht; clear ht
          obtain ⟨tg, th, ts⟩ := t
          go_wp2_with fail
          refine (ask40 w.heap.size tg ts wr hta (logAt_base hta)).mono ?_
          rintro e w5 ⟨v5, rfl, hown5, hla5, hf5⟩
          obtain ⟨vl, hvl⟩ := hta.at'
          have hw5 := hJ.w.keep hf5 (fun k hk (e : k = tg) => hJ.w.ne hvl (by decide) (e ▸ hk))
          have htb5 : RLogAt w5 th ts := Has.keep htb hf5 (Has.ne htb hvl (by decide))
          obtain ⟨bw, ow, _, hv1, -, -, -, -, hcw, -, -⟩ := hw5.cells (by omega)
          cases hv1
          have hc2 := hcw j _ (show (wptr T1)[j]? = some (.pointer (some ⟨th, 0, none⟩)) by simp [wptr, List.getElem?_map, HT.out])
          obtain ⟨a5, c5, rfl, -⟩ := own_rd hown5
          clear hcw hla5 hc1 hw5
          have HO5 := Lib.hid hown5; clear hown5
          have HJ := Lib.hid hJ; clear hJ
          go_wp2_with fail
          refine (askR40 th ts w5 htl htb5).mono ?_
          rintro e w6 ⟨rfl, -, hf6⟩
          have hown6 := HO5.out.keep hf6 (fun k hk (e : k = th) => HO5.out.ne htb5 (by decide) (e ▸ hk))
          obtain ⟨_, _, hv6, hr6⟩ := own_rd hown6
          cases hv6
          have x1 := run_string hr6 c5 Try.underlying22 Try.underlying5 Try.underlying9
          have hJ6 := HJ.out.step HT.out hf5 hf6
          have hf6' : Fr Nob w w6 := Fr.one (Fr.one hfj hf5 (HJ.out.bs _ htm).1) hf6 (HJ.out.bs _ htm).2
          clear hc2 hr6 hown6 hf5 hf6 HO5 htb5 hta htb hvl
          go_wp2_with fail
          go_roundw
          case rel => exact ⟨j + 1, by omega, by go_num, hJ6, hf6'⟩
          case measure => simp [intOf]; omega
        · have hge : ¬ ((j : Int) < (T1.length : Int)) := by omega
          go_wp2_with fail
          go_ret
          exact ⟨rfl, hfj⟩

set_option maxRecDepth 1000000 in
theorem logs_big (label : ByteArray) (a : Option Addr) (n c : Nat) (w : World) (h : 16384 < label.size ∨ 64 < n) :
    Calls Try.prog 6 #[.string label, .slice a n c] w fun e w' => e = .returned (.bool true) ∧ Fr Nob w w' := by
  have h3 : (16384 : Int) < (label.size : Int) ∨ (¬ (16384 : Int) < (label.size : Int) ∧ (64 : Int) < (n : Int)) := by omega
  clear h
  go_enter Try.func6, Try.ntmps6
  rcases h3 with h | ⟨h, h'⟩
  all_goals
    go_wp2_with fail
    go_ret
    exact ⟨rfl, Fr.refl _ _⟩
theorem law_SpongeLogs (label : ByteArray) (a : Option Addr) (c : Nat) (l : List St) (w : World) (hb : Rd w a (l.length * 4) (stsC l)) :
    Calls Try.prog 6 #[.string label, .slice a l.length c] w fun e w' => e = .returned (.bool true) ∧ Fr Nob w w' := by
  by_cases h : 16384 < label.size ∨ 64 < l.length
  · exact logs_big label a l.length c w h
  · exact logs_yes label a c l w (by omega) (by omega) hb
end Go.Proofs.Ytgkakddldobpkaa
