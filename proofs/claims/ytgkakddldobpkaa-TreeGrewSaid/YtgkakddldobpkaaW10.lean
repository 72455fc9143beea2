/- absorber.write -/
import Derived.Test.YtgkakddldobpkaaW8
import Derived.Test.YtgkakddldobpkaaSpg4
import Derived.Test.YtgkakddldobpkaaCuts
namespace Go.Proofs.Ytgkakddldobpkaa
open Go.RowKit Go.Mv Mvp

theorem zero_a136 : (Try.prog.info? 135).map (·.zero) = some (some (.agg (bs (List.replicate 136 0)).toArray)) := by kernel_rfl
/-- the cells of an absorber -/
def abs (st : List UInt64 × Nat) : List Value := ws st.1 ++ [.int .i64 (st.2 : Int)]
theorem abs_len (st : List UInt64 × Nat) : (abs st).length = st.1.length + 1 := by simp [abs, length_ws]
theorem abs_at (st : List UInt64 × Nat) (h : st.1.length = 25) : (abs st)[25]? = some (.int .i64 (st.2 : Int)) := by
  rw [abs, List.getElem?_append_right (by rw [length_ws, h]; omega), length_ws, h]; rfl
theorem abs_set (S : List UInt64) (k n : Nat) (h : S.length = 25) : (abs (S, k)).set 25 (.int .i64 (n : Int)) = abs (S, n) := by
  rw [abs, List.set_append_right _ _ (by rw [length_ws, h]; omega), length_ws, h]; rfl

theorem permS_def (S : List UInt64) : permP (turnsK 24) (fun r => rcP r 8) S 24 = permS S := by unfold permS; rfl
theorem abs_def (S : List UInt64) (k : Nat) : ws S ++ [Value.int .i64 (k : Int)] = abs (S, k) := by unfold abs; rfl
attribute [local irreducible] permS permP toB turnsK
/-- permute, of an absorber's state -/
theorem permute_abs (g : Nat) (S : List UInt64) (k : Nat) (w : World) (hS : S.length = 25) (hg : Has w g (abs (S, k)) 95) :
    Calls Try.prog 48 #[.pointer (some ⟨g, 0, none⟩)] w fun e w' => e = .returned (.tuple #[]) ∧ Has w' g (abs (permS S, k)) 95 ∧ Fr (One g) w w' := by
  rw [← abs_def] at hg
  refine (permute_any g S [.int .i64 (k : Int)] 95 w hS hg).mono ?_
  rintro e w' ⟨h1, h2, h3⟩
  rw [permS_def, abs_def] at h2
  exact ⟨h1, h2, h3⟩
theorem piece_eq (k p : Nat) (l : List UInt8) (hl : l.length = p) (h : k + p ≤ 136) : splice (bs (List.replicate 136 0)) k (bs l) = bs (List.replicate k 0 ++ l ++ List.replicate (136 - k - p) 0) := by
  unfold splice
  rw [length_bs, hl, bs_take, bs_drop, ← bs_append, ← bs_append, List.append_assoc]
  rw [List.take_replicate, Nat.min_eq_left (by omega), List.drop_replicate, Nat.sub_sub]
/-- the length of a slice value: for measures -/
def lenV : Value → Nat
  | .slice _ n _ => n
  | _ => 0

set_option maxHeartbeats 2000000 in
set_option maxRecDepth 1000000 in
theorem write_any (g : Nat) (st : List UInt64 × Nat) (b : Option Addr) (n c : Nat) (l : List UInt8) (w : World) (hS : st.1.length = 25) (hat : st.2 < 136) (hn : n ≤ 1000000) (hnc : n ≤ c) (hg : Has w g (abs st) 95) (hb : RdB w b n l) (hbg : Off (One g) b) :
    Calls Try.prog 55 #[.pointer (some ⟨g, 0, none⟩), .slice b n c] w fun e w' => e = .returned (.tuple #[]) ∧ Has w' g (abs (feed st l)) 95 ∧ Fr (One g) w w' := by
  go_enter Try.func55, Try.ntmps55
  go_wp2_with fail
  have hll := hb.len
  go_loopw [1] (fun v wr => ∃ (sj : List UInt64 × Nat) (r : List UInt8) (m : Nat) (a : Option Addr) (cc : Nat), v = .slice a m cc ∧ m ≤ cc ∧ m ≤ 1000000 ∧ RdB wr a m r ∧ Off (One g) a ∧ Has wr g (abs sj) 95 ∧ sj.2 < 136 ∧ sj.1.length = 25 ∧ feed sj r = feed st l ∧ Fr (One g) w wr) (fun v _ => lenV v)
  case atStart => exact ⟨st, l, n, b, c, rfl, hnc, hn, hb, hbg, hg, hat, hS, rfl, Fr.refl _ _⟩
  case round =>
    obtain ⟨⟨S, k⟩, r, m, a, cc, rfl, hcc, hmb, hra, hoa, hgj, hkj, hSj, hfe, hf⟩ := hrel
    clear hg hb hbg hat hS hll hn hnc
    simp only at hkj hSj
    have HF := Lib.hid hfe; clear hfe
    by_cases hlt : 0 < m
    · have hc25 : wr.cell? ⟨g, 25, none⟩ = some (.int .i64 (k : Int)) := hgj.cell (abs_at (S, k) hSj)
      have hf25 : wr.frozen? ⟨g, 25, none⟩ = false := hgj.free _ (by rw [abs_len]; simp only; omega)
      have HS := Lib.hid hSj; clear hSj
      go_wp2_with (with_reducible refine wl_stop (o := ⟨some 16, _, _, _, _, _⟩) ?_)
      obtain ⟨p, hp, hp1, hp2, hp3⟩ : ∃ p : Nat, (if 136 - (k : Int) < (m : Int) then 136 - (k : Int) else (m : Int)) = (p : Int) ∧ p ≤ m ∧ k + p ≤ 136 ∧ (p = m ∨ k + p = 136) := by
        refine ⟨min m (136 - k), ?_, by omega, by omega, by omega⟩
        split <;> omega
      refine wl_min rfl rfl rfl rfl p hp ?_
      clear hp
      have HP := Lib.hid hp3; clear hp3
      go_wp2_with (with_reducible refine wl_stop (o := ⟨_, .alloc 135, _, _, _, _⟩) ?_)
      refine wl_alloc rfl rfl zero_a136 (bs (List.replicate 136 0)) (by simp [Value.cells]) ?_
      intro w1 hp1' hf1 hz1
      have hg1 := hgj.keep hf1 id
      have hr1 := hra.still hf1
      have hc1 : w1.cell? ⟨g, 25, none⟩ = some (.int .i64 (k : Int)) := hf1.cell id hc25
      have hgp : g < wr.heap.size := hgj.lt
      have hfr1 := hf.same hf1
      have hpw : w.heap.size ≤ wr.heap.size := hf.size
      have hra0 : Off (One wr.heap.size) a := fun x hx (e : x.block = wr.heap.size) => by
        obtain ⟨bb, o, rfl, hat⟩ := Rd.at hra hlt
        have := Rd.lt hra hlt
        simp only [Option.some.injEq] at hx
        subst hx
        simp at e
        omega
      generalize wr.heap.size = gp at *
      clear hgj hra hc25 hf25 hf1 hz1
      have hk136 : k < 136 := hkj
      go_wp2_with fail
      have e1 : ∀ wx, (Instr.sliceAt 135 (.pointer (some ⟨gp, 0, none⟩)) (some (.int .i64 (k : Int))) none none).run Try.prog wx = .ok (.slice (some ⟨gp, k, none⟩) (136 - k) (136 - k)) wx := fun wx => by
        have := run_sliceA_lo wx Try.underlying135 size_u8 gp 0 .i64 k hk136
        rwa [Nat.zero_add] at this
      have e2 : ∀ wx, (Instr.sliceAt 22 (.slice a m cc) none (some (.int .i64 (p : Int))) none).run Try.prog wx = .ok (.slice a p cc) wx := fun wx => run_slice_hi wx Try.underlying22 size_u8 a m cc .i64 p (by omega)
      refine wp_region_still_tail 8 (by kernel_rfl) (by kernel_rfl) ?_
      simp only [List.take_succ_cons, List.take_zero, List.drop_succ_cons, List.drop_zero]
      repeat still_step
      refine wpStill_nil ?_
      show wpList _ _ _ _ _ w1.drew
      have hrp : Rd w1.drew a p (bs (r.take p)) := by
        have hlen := hr1.len
        refine ⟨by rw [length_bs, List.length_take]; omega, hr1.2.imp (fun h0 => by omega) ?_⟩
        rintro ⟨b, o, rfl, hc⟩
        refine ⟨b, o, rfl, fun i v hv => ?_⟩
        have := hc i v
        rw [← bs_take, List.getElem?_take] at hv
        split at hv
        · exact hc i v hv
        · cases hv
      refine wl_copy rfl rfl Try.underlying22 size_u8 rfl rfl (hp1'.drew) hrp (bs_one _) (by rw [length_bs, List.length_replicate]; omega) ?_
      intro w2 hp2' hf2 hz2
      have hmin : min p (136 - k) = p := by omega
      have hrl : (r.take p).length = p := by rw [List.length_take, hr1.len]; omega
      rw [hmin, List.take_of_length_le (by rw [length_bs, hrl]; exact Nat.le_refl _), piece_eq k p _ hrl hp2] at hp2'
      have hg2 := hg1.drew.keep hf2 (fun (h : g = gp) => by omega)
      have hr2 : RdB w2 a m r := hr1.keep ((Fr.refl (One gp) w1).drew.trans hf2 (fun _ _ t => t)) hra0
      have hfr2 : Fr (One g) w w2 := (hfr1.drew).new hf2 hpw
      have hgp2 := hp2'.lt
      clear hp1' hg1 hr1 hc1 hfr1 hf2 hz2 hrp e1 e2 hmin
      go_wp2_with fail
      have hc2 : w2.cell? ⟨g, 25, none⟩ = some (.int .i64 (k : Int)) := hg2.cell (abs_at (S, k) HS.out)
      have e3 : ∀ wx, (Instr.sliceAt 135 (.pointer (some ⟨gp, 0, none⟩)) none (some (.int .i64 ((k : Int) + (p : Int)))) none).run Try.prog wx = .ok (.slice (some ⟨gp, 0, none⟩) (k + p) 136) wx := fun wx =>
        run_sliceA_hi wx Try.underlying135 size_u8 gp 0 .i64 (k + p) hp2
      have e4 : IntKind.i64.wrap ((k : Int) + (p : Int)) = (k : Int) + (p : Int) := IntWalk.i64_in _ (by omega)
      refine wp_region_still_tail 10 (by kernel_rfl) (by kernel_rfl) ?_
      simp only [List.take_succ_cons, List.take_zero, List.drop_succ_cons, List.drop_zero]
      repeat still_step
      refine wpStill_nil ?_
      show wpList _ _ _ _ _ w2.drew
      go_wp2_with fail
      have hrd : RdB w2.drew (some ⟨gp, 0, none⟩) (k + p) (List.replicate k 0 ++ r.take p) := by
        have := Rd.ofHas hp2'.drew 0 (n := k + p) (by rw [length_bs, List.length_append, List.length_append, List.length_replicate, List.length_replicate, hrl]; omega)
        rw [List.drop_zero, bs_take, List.take_left' (by simp [hrl])] at this
        exact this
      refine (xor_any g S [.int .i64 (k : Int)] 95 _ (k + p) _ _ _ HS.out (by omega) hg2.drew hrd (fun x hx (e : x.block = g) => by simp only [Option.some.injEq] at hx; subst hx; simp at e; omega)).mono ?_
      rintro e w3 ⟨rfl, hg3, hf3, hz3⟩
      have hxb : xorB S (List.replicate k 0 ++ r.take p) (k + p) = xorAt S k (r.take p) := by
        have := xorB_piece S k (r.take p) []
        rwa [List.append_nil, hrl] at this
      rw [hxb] at hg3
      have hr3 : RdB w3 a m r := hr2.keep ((Fr.refl (One g) w2).drew.trans hf3 (fun _ _ t => t)) hoa
      have hfr3 : Fr (One g) w w3 := hfr2.drew.trans hf3 (fun _ _ t => t)
      have hSl : (xorAt S k (r.take p)).length = 25 := by rw [xorAt_len, HS.out]
      have hfeed : feed (feed (S, k) (r.take p)) (r.drop p) = feed st l := by rw [← feed_append, List.take_append_drop]; exact HF.out
      clear hg2 hr2 hfr2 hp2' hgp2 hc2 e3 e4 hrd hf3 hz3 hxb
      have hc3 : w3.cell? ⟨g, 25, none⟩ = some (.int .i64 (k : Int)) := hg3.cell (abs_at (_, k) hSl)
      have hf3 : w3.frozen? ⟨g, 25, none⟩ = false := hg3.free _ (by rw [List.length_append, length_ws, hSl]; simp)
      generalize hxs : xorAt S k (r.take p) = S3 at *
      have HXS := Lib.hid hxs; clear hxs
      have HFE := Lib.hid hfeed; clear hfeed
      have HSL := Lib.hid hSl; clear hSl
      have HRL := Lib.hid hrl; clear hrl
      go_wp2_with (with_reducible refine wl_stop (o := ⟨some 47, _, _, _, _, _⟩) ?_)
      refine wl_cut rfl rfl Try.underlying22 size_u8 rfl p m ⟨_, rfl⟩ rfl hp1 hcc ?_
      have hg4 : Has (w3.setCell ⟨g, 25, none⟩ (.int .i64 ((k + p : Nat) : Int))) g (abs (S3, k + p)) 95 := by
        have := hg3.set 25 (.int .i64 ((k + p : Nat) : Int))
        rw [show ws S3 ++ [Value.int .i64 (k : Int)] = abs (S3, k) from rfl, abs_set _ _ _ HSL.out] at this
        exact this
      have hr4 : RdB (w3.setCell ⟨g, 25, none⟩ (.int .i64 ((k + p : Nat) : Int))) (cutAt a p cc) (m - p) (r.drop p) := by
        have h1 := hr3.keep ((Fr.refl (One g) w3).setCell g 25 none (.int .i64 ((k + p : Nat) : Int)) (fun _ => rfl)) hoa
        have h2 := cutAt_rd h1 p m cc hp1 hcc (Nat.le_refl _)
        rw [bs_drop, bs_take] at h2
        rwa [List.take_of_length_le (by rw [List.length_drop, h1.len]; exact Nat.le_refl _)] at h2
      have hfr4 : Fr (One g) w (w3.setCell ⟨g, 25, none⟩ (.int .i64 ((k + p : Nat) : Int))) := hfr3.setCell g 25 none _ (fun _ => rfl)
      have hoff4 := cutAt_off hoa p cc
      have hsp : Value.int .i64 ((k : Int) + (p : Int)) = .int .i64 ((k + p : Nat) : Int) := by simp
      simp only [Int.natCast_add] at hg4 hr4 hfr4
      generalize w3.setCell ⟨g, 25, none⟩ (.int .i64 ((k : Int) + (p : Int))) = w4 at *
      clear hsp hg3 hr3 hfr3 hc3 hf3
      by_cases hfull : k + p = 136
      · have hfb : ((k : Int) + (p : Int) == 136) = true := by rw [beq_iff_eq]; omega
        have HFULL := Lib.hid hfull; clear hfull
        have hc4 : w4.cell? ⟨g, 25, none⟩ = some (.int .i64 ((k : Int) + (p : Int))) := hg4.cell (abs_at (S3, k + p) HSL.out)
        go_wp2_with fail
        refine (permute_abs g S3 (k + p) _ HSL.out hg4).mono ?_
        rintro e w5 ⟨rfl, hg5', hf5⟩
        have hr5 := hr4.keep hf5 hoff4
        have hfr5 : Fr (One g) w w5 := hfr4.trans hf5 (fun _ _ t => t)
        have hpl : (permS S3).length = 25 := by rw [permS_len, HSL.out]
        have hc5 : w5.cell? ⟨g, 25, none⟩ = some (.int .i64 ((k + p : Nat) : Int)) := hg5'.cell (abs_at (_, k + p) hpl)
        have hf5f : w5.frozen? ⟨g, 25, none⟩ = false := hg5'.free _ (by rw [abs_len]; simp only; omega)
        clear hg4 hr4 hfr4 hc4 hf5
        have HPL := Lib.hid hpl; clear hpl
        go_wp2_with fail
        go_roundw
        case rel =>
          have e : feed (S, k) (r.take p) = (permS S3, 0) := by rw [feed_full _ _ _ (by rw [HRL.out]; exact HFULL.out) hkj, HXS.out]
          have h2 := HFE.out
          rw [e] at h2
          have hg6 := hg5'.set 25 (.int .i64 ((0 : Nat) : Int))
          rw [abs_set _ _ _ HPL.out] at hg6
          exact ⟨(permS S3, 0), r.drop p, m - p, cutAt a p cc, cc - p, rfl, by omega, by omega, hr5.keep ((Fr.refl (One g) w5).setCell g 25 none _ (fun _ => rfl)) hoff4, hoff4, hg6, by simp, HPL.out, h2, hfr5.setCell g 25 none _ (fun _ => rfl)⟩
        case measure => have := HP.out; simp [lenV]; omega
      · have hfb : ((k : Int) + (p : Int) == 136) = false := by rw [beq_eq_false_iff_ne]; omega
        have hc4 : w4.cell? ⟨g, 25, none⟩ = some (.int .i64 ((k : Int) + (p : Int))) := hg4.cell (abs_at (S3, k + p) HSL.out)
        have hlt136 : k + p < 136 := by omega
        go_wp2_with fail
        go_roundw
        case rel =>
          have e : feed (S, k) (r.take p) = (S3, k + p) := by rw [feed_short _ _ _ (by rw [HRL.out]; exact hlt136), HXS.out, HRL.out]
          have h2 := HFE.out
          rw [e] at h2
          exact ⟨(S3, k + p), r.drop p, m - p, cutAt a p cc, cc - p, rfl, by omega, by omega, hr4, hoff4, hg4, hlt136, HSL.out, h2, hfr4⟩
        case measure => have := HP.out; simp [lenV]; omega
    · have hge : ¬ 0 < m := hlt
      have hm0 : m = 0 := by omega
      have hr0 : r = [] := List.eq_nil_of_length_eq_zero (by rw [hra.len, hm0])
      have HR := Lib.hid hr0; clear hr0 hm0
      go_wp2_with fail
      go_end0
      have h2 := HF.out
      rw [HR.out, feed_nil] at h2
      exact ⟨rfl, by rw [← h2]; exact hgj, hf⟩
end Go.Proofs.Ytgkakddldobpkaa
