/- absorber.out, and what hashes with it -/
import Derived.Test.YtgkakddldobpkaaW10
namespace Go.Proofs.Ytgkakddldobpkaa
open Go.RowKit Go.Mv Mvp
theorem squeeze_zero (S : List UInt64) : squeeze S 0 = [] := by unfold squeeze; rfl
theorem permN_zero (S : List UInt64) : permN S 0 = S := by unfold permN; rfl
/-- `v[:n:n]` of an owned slice is owned -/
theorem own_cut {w : World} {base : Nat} {T : TypeId} {a : Option Addr} {m c : Nat} {L : List Value} (h : Own w base T 1 (.slice a m c) m L) (n : Nat) (hn : n ≤ m) : Own w base T 1 (.slice a n n) n (L.take n) := by
  obtain ⟨hl, h | ⟨g, o, cap, B, hv, hb, hg, h1, h2, h3, h4⟩⟩ := h
  · obtain ⟨hv, hm⟩ := h
    cases hv
    have : n = 0 := by omega
    subst this
    exact ⟨by simp, .inl ⟨rfl, rfl⟩⟩
  · cases hv
    refine ⟨by rw [List.length_take]; omega, .inr ⟨g, o, n, B, rfl, hb, hg, Nat.le_refl _, by omega, by omega, ?_⟩⟩
    rw [← h4, List.take_take]
    congr 1
    omega
attribute [local irreducible] permS permP toB turnsK squeeze permN

theorem last_eq (k : Nat) (e : UInt8) (h : k < 136) : ((List.replicate 136 (0 : UInt8)).set k e).set 135 (bx (((List.replicate 136 (0 : UInt8)).set k e).getD 135 0) 0x80) = List.replicate k 0 ++ padL k e := by
  have h1 : (List.replicate 136 (0 : UInt8)).set k e = List.replicate k 0 ++ (e :: List.replicate (135 - k) 0) := by
    have : (List.replicate 136 (0 : UInt8)) = List.replicate k 0 ++ (0 :: List.replicate (135 - k) 0) := by
      rw [← List.replicate_succ, List.replicate_append_replicate]; congr 1; omega
    rw [this, List.set_append_right _ _ (by simp)]
    simp
  have h2 : (List.replicate k 0 ++ (e :: List.replicate (135 - k) 0)).getD 135 0 = (e :: List.replicate (135 - k) 0).getD (135 - k) 0 := by
    rw [List.getD_eq_getElem?_getD, List.getD_eq_getElem?_getD, List.getElem?_append_right (by simp; omega), List.length_replicate]
  rw [h1, h2, List.set_append_right _ _ (by simp; omega)]
  simp only [List.length_replicate, padL]
theorem pieces_lt (n j : Nat) : 136 * j < n ↔ j < pieces n := by unfold pieces; omega

set_option maxHeartbeats 2000000 in
set_option maxRecDepth 1000000 in
theorem out_any (g : Nat) (S : List UInt64) (k : Nat) (e : UInt8) (n : Nat) (w : World) (hS : S.length = 25) (hk : k < 136) (hn : n ≤ 20000) (hg : Has w g (abs (S, k)) 95) :
    Calls Try.prog 56 #[.pointer (some ⟨g, 0, none⟩), .int .u8 (e.toNat : Int), .int .i64 (n : Int)] w fun r w' => ∃ v, r = .returned v ∧ Own w' w.heap.size 5 1 v n (bs (outB (ended (S, k) e) n)) ∧ Fr (One g) w w' := by
  go_enter Try.func56, Try.ntmps56
  go_wp2_with (with_reducible refine wl_stop (o := ⟨_, .alloc 135, _, _, _, _⟩) ?_)
  refine wl_alloc rfl rfl zero_a136 (bs (List.replicate 136 0)) (by simp [Value.cells]) ?_
  intro w1 hl1 hf1 hz1
  have hg1 := hg.keep hf1 id
  have hgl := hg.lt
  have hfr1 : Fr (One g) w w1 := (Fr.refl (One g) w).same hf1
  have hb0 : w.heap.size ≤ w1.heap.size := hf1.size
  generalize hgl0 : w.heap.size = gl at *
  have HGL := Lib.hid hgl0; clear hgl0
  clear hf1 hz1 hg
  have hc25 : w1.cell? ⟨g, 25, none⟩ = some (.int .i64 (k : Int)) := hg1.cell (abs_at (S, k) hS)
  obtain ⟨vk, hck, hfk⟩ := hl1.ready (i := k) (by rw [length_bs]; simpa using hk)
  have hkI : (k : Int) < 136 := by omega
  go_wp2_with (with_reducible refine wl_stop (o := ⟨some 15, _, _, _, _, _⟩) ?_)
  have hl2 := hl1.set k (.int .u8 (e.toNat : Int))
  rw [bs_set] at hl2
  have hg2 := hg1.other (g' := gl) k none (.int .u8 (e.toNat : Int)) (by omega)
  have hfr2 : Fr (One g) w (w1.setCell ⟨gl, k, none⟩ (.int .u8 (e.toNat : Int))) := hfr1.setCell gl k none _ (fun h => by have := HGL.out; omega)
  have hsz2 : gl < (w1.setCell ⟨gl, k, none⟩ (.int .u8 (e.toNat : Int))).heap.size := hl2.lt
  generalize w1.setCell ⟨gl, k, none⟩ (.int .u8 (e.toNat : Int)) = w2 at *
  clear hl1 hg1 hfr1 hc25 hck hfk hb0
  have hc135 : w2.cell? ⟨gl, 135, none⟩ = some (.int .u8 ((((List.replicate 136 (0 : UInt8)).set k e).getD 135 0).toNat : Int)) := hl2.cell (bs_get _ _ (by simp))
  have hf135 : w2.frozen? ⟨gl, 135, none⟩ = false := hl2.free _ (by rw [length_bs]; simp)
  generalize hy : ((List.replicate 136 (0 : UInt8)).set k e).getD 135 0 = y at hc135
  have HY := Lib.hid hy; clear hy
  show wpList _ _ _ _ _ _
  go_wp2_with fail
  have hbx : bits BinOp.xor IntKind.u8 (y.toNat : Int) 128 = ((bx y 128).toNat : Int) := xor8_run y 128
  rw [hbx]
  have hl3 := hl2.set 135 (.int .u8 ((bx y 0x80).toNat : Int))
  rw [bs_set, ← HY.out, last_eq k e hk] at hl3
  rw [HY.out] at hl3
  have hg3 := hg2.other (g' := gl) 135 none (.int .u8 ((bx y 128).toNat : Int)) (by omega)
  have hfr3 : Fr (One g) w (w2.setCell ⟨gl, 135, none⟩ (.int .u8 ((bx y 128).toNat : Int))) := hfr2.setCell gl 135 none _ (fun h => by have := HGL.out; omega)
  generalize w2.setCell ⟨gl, 135, none⟩ (.int .u8 ((bx y 128).toNat : Int)) = w3 at *
  have hpl : (padL k e).length = 136 - k := padL_len k e hk
  have hne : g ≠ gl := by omega
  clear hl2 hg2 hfr2 hc135 hf135 hbx hsz2 HY
  have e1 : ∀ wx, (Instr.sliceAt 135 (.pointer (some ⟨gl, 0, none⟩)) none none none).run Try.prog wx = .ok (.slice (some ⟨gl, 0, none⟩) 136 136) wx := fun wx => run_sliceA_all wx Try.underlying135 size_u8 gl 0
  refine wp_region_still_tail 4 (by kernel_rfl) (by kernel_rfl) ?_
  simp only [List.take_succ_cons, List.take_zero, List.drop_succ_cons, List.drop_zero]
  repeat still_step
  refine wpStill_nil ?_
  show wpList _ _ _ _ _ w3.drew
  go_wp2_with fail
  have hrd : RdB w3.drew (some ⟨gl, 0, none⟩) 136 (List.replicate k 0 ++ padL k e) := by
    have := Rd.whole hl3.drew
    rwa [length_bs, List.length_append, List.length_replicate, hpl, show k + (136 - k) = 136 by omega] at this
  refine (xor_any g S [.int .i64 (k : Int)] 95 _ 136 _ _ _ hS (by omega) hg3.drew hrd (fun x hx (e : x.block = g) => by simp only [Option.some.injEq] at hx; subst hx; simp at e; omega)).mono ?_
  rintro e w4 ⟨rfl, hg4, hf4, hz4⟩
  have hxb : xorB S (List.replicate k 0 ++ padL k e) 136 = xorAt S k (padL k e) := by
    have := xorB_piece S k (padL k e) []
    rwa [List.append_nil, hpl, show k + (136 - k) = 136 by omega] at this
  rw [hxb, abs_def] at hg4
  have hfr4 : Fr (One g) w w4 := hfr3.drew.trans hf4 (fun _ _ t => t)
  have hend : ended (S, k) e = permS (xorAt S k (padL k e)) := by
    unfold ended
    rw [feed_full _ _ _ (by simp only [hpl]; omega) hk]
  have hxl : (xorAt S k (padL k e)).length = 25 := by rw [xorAt_len, hS]
  clear hl3 hg3 hfr3 e1 hrd hf4 hz4 hxb hpl
  generalize xorAt S k (padL k e) = X at *
  have HEND := Lib.hid hend; clear hend
  go_wp2_with fail
  refine (permute_abs g X k _ hxl hg4).mono ?_
  rintro e w5 ⟨rfl, hg5, hf5⟩
  have hfr5 : Fr (One g) w w5 := hfr4.trans hf5 (fun _ _ t => t)
  have hS5 : (permS X).length = 25 := by rw [permS_len, hxl]
  generalize permS X = S0 at *
  clear hg4 hfr4 hf5 hxl hS
  go_wp2_with fail
  go_loopw [8] (fun v wr => ∃ j, j ≤ pieces n ∧ Own wr w.heap.size 5 1 v (136 * j) (bs (squeeze S0 j)) ∧ Has wr g (abs (permN S0 j, k)) 95 ∧ Fr (One g) w wr) (fun v _ => n - lenV v)
  case atStart => exact ⟨0, Nat.zero_le _, by rw [squeeze_zero]; exact Own.nil _ _ _ _, by rw [permN_zero]; exact hg5, hfr5⟩
  case round =>
    obtain ⟨j, hj, hown, hgj, hfj⟩ := hrel
    clear hg5 hfr5
    have hjn := pieces_lt n j
    obtain ⟨a, cap, rfl, hcap, hrdj, hna⟩ := hown.form
    by_cases hlt : 136 * j < n
    · have hltI : 136 * (j : Int) < (n : Int) := by omega
      have hpj : (permN S0 j).length = 25 := by rw [permN_len, hS5]
      have hjp : j + 1 ≤ pieces n := hjn.1 hlt
      have HJN := Lib.hid hjn; clear hjn
      have HLT := Lib.hid hlt; clear hlt
      clear hrdj hna
      go_wp2_with fail
      rw [← abs_def] at hgj
      refine (bytes_any g (permN S0 j) [.int .i64 (k : Int)] 95 136 _ hpj (by omega) hgj).mono ?_
      rintro e w6 ⟨rfl, ht6, hf6, hz6⟩
      have hg6 := hgj.keep hf6 id
      rw [abs_def] at hg6
      have hown6 := hown.still hf6
      have hfr6 : Fr (One g) w w6 := hfj.same hf6
      have hwb : w.heap.size ≤ wr.heap.size := hfj.size
      have hgb : g < w.heap.size := by have := HGL.out; omega
      generalize wr.heap.size = gt at *
      clear hgj hown hfj hf6
      go_wp2_with (with_reducible refine wl_stop (o := ⟨some 37, _, _, _, _, _⟩) ?_)
      have hrd6 : Rd w6 (some ⟨gt, 0, none⟩) (136 * 1) (bs (toB (permN S0 j) 136)) := by
        have := Rd.whole ht6
        rwa [length_bs, toB_len] at this
      refine wl_append rfl rfl Try.underlying22 info_u8 rfl (by decide) hown6 rfl rfl hrd6 (bs_one _) (by unfold maxLen; omega) (by omega) hfr6.size ?_
      intro v7 w7 hown7 hf7 hb7
      have hg7 := hg6.keep hf7 (fun hh => by have := hown6.lt hh; omega)
      have hfr7 : Fr (One g) w w7 := hown6.fr hfr6 (Nat.le_refl _) hf7
      rw [← bs_append, ← squeeze_succ] at hown7
      clear ht6 hg6 hown6 hfr6 hrd6 hf7 hb7
      go_wp2_with fail
      refine (permute_abs g _ k _ hpj hg7).mono ?_
      rintro e w8 ⟨rfl, hg8, hf8⟩
      rw [← permN_succ] at hg8
      have hown8 := hown7.keep hf8 (fun k' hk' (h : k' = g) => by have := hown7.lt hk'; omega)
      have hfr8 : Fr (One g) w w8 := hfr7.trans hf8 (fun _ _ t => t)
      clear hg7 hown7 hfr7 hf8
      go_wp2_with fail
      go_roundw
      case rel => exact ⟨j + 1, hjp, hown8, hg8, hfr8⟩
      case measure =>
        obtain ⟨a8, c8, rfl, _⟩ := hown8.form
        have := HLT.out
        simp [lenV]; omega
    · have hge : ¬ (136 * (j : Int) < (n : Int)) := by omega
      have hjp : j = pieces n := by have := hjn.2; omega
      have HJP := Lib.hid hjp; clear hjp
      have HJN := Lib.hid hjn; clear hjn
      have hnc : n ≤ cap := by omega
      have hnI : ¬ (n : Int) < 0 := by omega
      clear hgj
      go_wp2_with (with_reducible refine wl_stop (o := ⟨some 45, _, _, _, _, _⟩) ?_)
      refine wl_cut3 rfl rfl Try.underlying22 size_u8 rfl 0 n n rfl rfl rfl rfl rfl (Nat.zero_le _) (Nat.le_refl _) hnc ?_
      go_wp2_with fail
      go_ret
      rw [cutAt_0]
      refine ⟨_, rfl, ?_, hfj⟩
      have hsq : bs (outB (ended (S, k) e) n) = (bs (squeeze S0 j)).take n := by
        rw [HEND.out, HJP.out, outB, bs_take]
      rw [hsq]
      exact own_cut hown n (by omega)
end Go.Proofs.Ytgkakddldobpkaa
