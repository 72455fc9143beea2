/- absorber.write; Literals of structs and of slices, boxes; The reference's sponge, on bytes: what it computes is the sponge on words; The reference's sponge; absorber.out, and what hashes with it; absorber.frame; the reference's Frame; Hash, stream and Stream of the sponge; sponge.tag and sponge.Tag; mintvaultlaw1.SpongeTurns: the walk of the law; The reference's Hash and Stream; the law SpongeHashes; Arguments that were handed in, opened into the words of Mem; The reference's Tag; One-cell literals of any kind; owned slices and other blocks; Literals of n one-cell elements; loads and stores of structs by value; A log of the sponge, the reference's: NewLog, Say, Ask, Clone; The tree: node, leafHash, bytes.Equal, sized, lists, small; the reference's leaf, node, half, sized; SpongeLogs: what stays of many logs, step by step; mintvaultlaw8.lists, small: lists of strings as lists of bytes; append onto an owned slice, once more: what lay ahead of the new cells is kept, in the old block too; bytes.Clone; lists of owned slices of bytes that lie apart; The tree's climber: up, right; tree.Lies and the reference's; the law TreeLies; tree.newLevels; tree's levels: root, up; tree's levels: up; math/bits.TrailingZeros64: the walk; mintvaultlaw1.SpongeBegins: the walk of the law; tree.Grown; tree.Grown, for m below n: the walk. -/
import Derived.Test.YtgkakddldobpkaaDoorMgRootsProof1
import Derived.Laws.Tables
import Derived.Great.BuildSlice
import Derived.SliceStrings
import Derived.SizedLaws
import Derived.OpenShut
import Derived.ProofKit
import Derived.IntWalk
import Derived.RegionTactic
import Derived.BigRegion
import Derived.Test.YtgkakddldobpkaaDoorProg
import Derived.WalkKit
import Derived.Shelf.Spec.TrailingZeros
import Derived.Deep.DeepCutAuto
namespace Go.Proofs.YtgkakddldobpkaaDoor
open Go.RowKit Go.Mv Mvp

theorem zero_a136 : (Tryd.prog.info? 82).map (·.zero) = some (some (.agg (bs (List.replicate 136 0)).toArray)) := by kernel_rfl
/-- the cells of an absorber -/
def abs (st : List UInt64 × Nat) : List Value := ws st.1 ++ [.int .i64 (st.2 : Int)]
theorem abs_len (st : List UInt64 × Nat) : (abs st).length = st.1.length + 1 := by simp [abs, length_ws]
theorem abs_at (st : List UInt64 × Nat) (h : st.1.length = 25) : (abs st)[25]? = some (.int .i64 (st.2 : Int)) := by
  rw [abs, List.getElem?_append_right (by rw [length_ws, h]; omega), length_ws, h]; rfl
theorem abs_set (S : List UInt64) (k n : Nat) (h : S.length = 25) : (abs (S, k)).set 25 (.int .i64 (n : Int)) = abs (S, n) := by
  rw [abs, List.set_append_right _ _ (by rw [length_ws, h]; omega), length_ws, h]; rfl

theorem permS_def (S : List UInt64) : permP (turnsK 24) (fun r => rcP r 8) S 24 = permS S := by unfold permS; rfl
theorem abs_def (S : List UInt64) (k : Nat) : ws S ++ [Value.int .i64 (k : Int)] = abs (S, k) := by unfold abs; rfl
attribute [local irreducible] permS permP toB turnsK
/-- permute, of an absorber's state -/
theorem permute_abs (g : Nat) (S : List UInt64) (k : Nat) (w : World) (hS : S.length = 25) (hg : Has w g (abs (S, k)) 79) :
    Calls Tryd.prog 49 #[.pointer (some ⟨g, 0, none⟩)] w fun e w' => e = .returned (.tuple #[]) ∧ Has w' g (abs (permS S, k)) 79 ∧ Fr (One g) w w' := by
  rw [← abs_def] at hg
  refine (permute_any g S [.int .i64 (k : Int)] 79 w hS hg).mono ?_
  rintro e w' ⟨h1, h2, h3⟩
  rw [permS_def, abs_def] at h2
  exact ⟨h1, h2, h3⟩
theorem piece_eq (k p : Nat) (l : List UInt8) (hl : l.length = p) (h : k + p ≤ 136) : splice (bs (List.replicate 136 0)) k (bs l) = bs (List.replicate k 0 ++ l ++ List.replicate (136 - k - p) 0) := by
  unfold splice
  rw [length_bs, hl, bs_take, bs_drop, ← bs_append, ← bs_append, List.append_assoc]
  rw [List.take_replicate, Nat.min_eq_left (by omega), List.drop_replicate, Nat.sub_sub]
/-- the length of a slice value: for measures -/
def lenV : Value → Nat
  | .slice _ n _ => n
  | _ => 0

set_option maxHeartbeats 2000000 in
set_option maxRecDepth 1000000 in
theorem write_any (g : Nat) (st : List UInt64 × Nat) (b : Option Addr) (n c : Nat) (l : List UInt8) (w : World) (hS : st.1.length = 25) (hat : st.2 < 136) (hn : n ≤ 1000000) (hnc : n ≤ c) (hg : Has w g (abs st) 79) (hb : RdB w b n l) (hbg : Off (One g) b) :
    Calls Tryd.prog 47 #[.pointer (some ⟨g, 0, none⟩), .slice b n c] w fun e w' => e = .returned (.tuple #[]) ∧ Has w' g (abs (feed st l)) 79 ∧ Fr (One g) w w' := by
  go_enter Tryd.func47, Tryd.ntmps47
  go_wp2_with fail
  have hll := hb.len
  go_loopw [1] (fun v wr => ∃ (sj : List UInt64 × Nat) (r : List UInt8) (m : Nat) (a : Option Addr) (cc : Nat), v = .slice a m cc ∧ m ≤ cc ∧ m ≤ 1000000 ∧ RdB wr a m r ∧ Off (One g) a ∧ Has wr g (abs sj) 79 ∧ sj.2 < 136 ∧ sj.1.length = 25 ∧ feed sj r = feed st l ∧ Fr (One g) w wr) (fun v _ => lenV v)
  case atStart => exact ⟨st, l, n, b, c, rfl, hnc, hn, hb, hbg, hg, hat, hS, rfl, Fr.refl _ _⟩
  case round =>
    obtain ⟨⟨S, k⟩, r, m, a, cc, rfl, hcc, hmb, hra, hoa, hgj, hkj, hSj, hfe, hf⟩ := hrel
    clear hg hb hbg hat hS hll hn hnc
    simp only at hkj hSj
    have HF := Lib.hid hfe; clear hfe
    by_cases hlt : 0 < m
    · have hc25 : wr.cell? ⟨g, 25, none⟩ = some (.int .i64 (k : Int)) := hgj.cell (abs_at (S, k) hSj)
      have hf25 : wr.frozen? ⟨g, 25, none⟩ = false := hgj.free _ (by rw [abs_len]; simp only; omega)
      have HS := Lib.hid hSj; clear hSj
      go_wp2_with (with_reducible refine wl_stop (o := ⟨some 16, _, _, _, _, _⟩) ?_)
      obtain ⟨p, hp, hp1, hp2, hp3⟩ : ∃ p : Nat, (if 136 - (k : Int) < (m : Int) then 136 - (k : Int) else (m : Int)) = (p : Int) ∧ p ≤ m ∧ k + p ≤ 136 ∧ (p = m ∨ k + p = 136) := by
        refine ⟨min m (136 - k), ?_, by omega, by omega, by omega⟩
        split <;> omega
      refine wl_min rfl rfl rfl rfl p hp ?_
      clear hp
      have HP := Lib.hid hp3; clear hp3
      go_wp2_with (with_reducible refine wl_stop (o := ⟨_, .alloc 82, _, _, _, _⟩) ?_)
      refine wl_alloc rfl rfl zero_a136 (bs (List.replicate 136 0)) (by simp [Value.cells]) ?_
      intro w1 hp1' hf1 hz1
      have hg1 := hgj.keep hf1 id
      have hr1 := hra.still hf1
      have hc1 : w1.cell? ⟨g, 25, none⟩ = some (.int .i64 (k : Int)) := hf1.cell id hc25
      have hgp : g < wr.heap.size := hgj.lt
      have hfr1 := hf.same hf1
      have hpw : w.heap.size ≤ wr.heap.size := hf.size
      have hra0 : Off (One wr.heap.size) a := fun x hx (e : x.block = wr.heap.size) => by
        obtain ⟨bb, o, rfl, hat⟩ := Rd.at hra hlt
        have := Rd.lt hra hlt
        simp only [Option.some.injEq] at hx
        subst hx
        simp at e
        omega
      generalize wr.heap.size = gp at *
      clear hgj hra hc25 hf25 hf1 hz1
      have hk136 : k < 136 := hkj
      go_wp2_with fail
      have e1 : ∀ wx, (Instr.sliceAt 82 (.pointer (some ⟨gp, 0, none⟩)) (some (.int .i64 (k : Int))) none none).run Tryd.prog wx = .ok (.slice (some ⟨gp, k, none⟩) (136 - k) (136 - k)) wx := fun wx => by
        have := run_sliceA_lo wx Tryd.underlying82 size_u8 gp 0 .i64 k hk136
        rwa [Nat.zero_add] at this
      have e2 : ∀ wx, (Instr.sliceAt 26 (.slice a m cc) none (some (.int .i64 (p : Int))) none).run Tryd.prog wx = .ok (.slice a p cc) wx := fun wx => run_slice_hi wx Tryd.underlying26 size_u8 a m cc .i64 p (by omega)
      refine wp_region_still_tail 8 (by kernel_rfl) (by kernel_rfl) ?_
      simp only [List.take_succ_cons, List.take_zero, List.drop_succ_cons, List.drop_zero]
      repeat still_step
      refine wpStill_nil ?_
      show wpList _ _ _ _ _ w1.drew
      have hrp : Rd w1.drew a p (bs (r.take p)) := by
        have hlen := hr1.len
        refine ⟨by rw [length_bs, List.length_take]; omega, hr1.2.imp (fun h0 => by omega) ?_⟩
        rintro ⟨b, o, rfl, hc⟩
        refine ⟨b, o, rfl, fun i v hv => ?_⟩
        have := hc i v
        rw [← bs_take, List.getElem?_take] at hv
        split at hv
        · exact hc i v hv
        · cases hv
      refine wl_copy rfl rfl Tryd.underlying26 size_u8 rfl rfl (hp1'.drew) hrp (bs_one _) (by rw [length_bs, List.length_replicate]; omega) ?_
      intro w2 hp2' hf2 hz2
      have hmin : min p (136 - k) = p := by omega
      have hrl : (r.take p).length = p := by rw [List.length_take, hr1.len]; omega
      rw [hmin, List.take_of_length_le (by rw [length_bs, hrl]; exact Nat.le_refl _), piece_eq k p _ hrl hp2] at hp2'
      have hg2 := hg1.drew.keep hf2 (fun (h : g = gp) => by omega)
      have hr2 : RdB w2 a m r := hr1.keep ((Fr.refl (One gp) w1).drew.trans hf2 (fun _ _ t => t)) hra0
      have hfr2 : Fr (One g) w w2 := (hfr1.drew).new hf2 hpw
      have hgp2 := hp2'.lt
      clear hp1' hg1 hr1 hc1 hfr1 hf2 hz2 hrp e1 e2 hmin
      go_wp2_with fail
      have hc2 : w2.cell? ⟨g, 25, none⟩ = some (.int .i64 (k : Int)) := hg2.cell (abs_at (S, k) HS.out)
      have e3 : ∀ wx, (Instr.sliceAt 82 (.pointer (some ⟨gp, 0, none⟩)) none (some (.int .i64 ((k : Int) + (p : Int)))) none).run Tryd.prog wx = .ok (.slice (some ⟨gp, 0, none⟩) (k + p) 136) wx := fun wx =>
        run_sliceA_hi wx Tryd.underlying82 size_u8 gp 0 .i64 (k + p) hp2
      have e4 : IntKind.i64.wrap ((k : Int) + (p : Int)) = (k : Int) + (p : Int) := IntWalk.i64_in _ (by omega)
      refine wp_region_still_tail 10 (by kernel_rfl) (by kernel_rfl) ?_
      simp only [List.take_succ_cons, List.take_zero, List.drop_succ_cons, List.drop_zero]
      repeat still_step
      refine wpStill_nil ?_
      show wpList _ _ _ _ _ w2.drew
      go_wp2_with fail
      have hrd : RdB w2.drew (some ⟨gp, 0, none⟩) (k + p) (List.replicate k 0 ++ r.take p) := by
        have := Rd.ofHas hp2'.drew 0 (n := k + p) (by rw [length_bs, List.length_append, List.length_append, List.length_replicate, List.length_replicate, hrl]; omega)
        rw [List.drop_zero, bs_take, List.take_left' (by simp [hrl])] at this
        exact this
      refine (xor_any g S [.int .i64 (k : Int)] 79 _ (k + p) _ _ _ HS.out (by omega) hg2.drew hrd (fun x hx (e : x.block = g) => by simp only [Option.some.injEq] at hx; subst hx; simp at e; omega)).mono ?_
      rintro e w3 ⟨rfl, hg3, hf3, hz3⟩
      have hxb : xorB S (List.replicate k 0 ++ r.take p) (k + p) = xorAt S k (r.take p) := by
        have := xorB_piece S k (r.take p) []
        rwa [List.append_nil, hrl] at this
      rw [hxb] at hg3
      have hr3 : RdB w3 a m r := hr2.keep ((Fr.refl (One g) w2).drew.trans hf3 (fun _ _ t => t)) hoa
      have hfr3 : Fr (One g) w w3 := hfr2.drew.trans hf3 (fun _ _ t => t)
      have hSl : (xorAt S k (r.take p)).length = 25 := by rw [xorAt_len, HS.out]
      have hfeed : feed (feed (S, k) (r.take p)) (r.drop p) = feed st l := by rw [← feed_append, List.take_append_drop]; exact HF.out
      clear hg2 hr2 hfr2 hp2' hgp2 hc2 e3 e4 hrd hf3 hz3 hxb
      have hc3 : w3.cell? ⟨g, 25, none⟩ = some (.int .i64 (k : Int)) := hg3.cell (abs_at (_, k) hSl)
      have hf3 : w3.frozen? ⟨g, 25, none⟩ = false := hg3.free _ (by rw [List.length_append, length_ws, hSl]; simp)
      generalize hxs : xorAt S k (r.take p) = S3 at *
      have HXS := Lib.hid hxs; clear hxs
      have HFE := Lib.hid hfeed; clear hfeed
      have HSL := Lib.hid hSl; clear hSl
      have HRL := Lib.hid hrl; clear hrl
      go_wp2_with (with_reducible refine wl_stop (o := ⟨some 47, _, _, _, _, _⟩) ?_)
      refine wl_cut rfl rfl Tryd.underlying26 size_u8 rfl p m ⟨_, rfl⟩ rfl hp1 hcc ?_
      have hg4 : Has (w3.setCell ⟨g, 25, none⟩ (.int .i64 ((k + p : Nat) : Int))) g (abs (S3, k + p)) 79 := by
        have := hg3.set 25 (.int .i64 ((k + p : Nat) : Int))
        rw [show ws S3 ++ [Value.int .i64 (k : Int)] = abs (S3, k) from rfl, abs_set _ _ _ HSL.out] at this
        exact this
      have hr4 : RdB (w3.setCell ⟨g, 25, none⟩ (.int .i64 ((k + p : Nat) : Int))) (cutAt a p cc) (m - p) (r.drop p) := by
        have h1 := hr3.keep ((Fr.refl (One g) w3).setCell g 25 none (.int .i64 ((k + p : Nat) : Int)) (fun _ => rfl)) hoa
        have h2 := cutAt_rd h1 p m cc hp1 hcc (Nat.le_refl _)
        rw [bs_drop, bs_take] at h2
        rwa [List.take_of_length_le (by rw [List.length_drop, h1.len]; exact Nat.le_refl _)] at h2
      have hfr4 : Fr (One g) w (w3.setCell ⟨g, 25, none⟩ (.int .i64 ((k + p : Nat) : Int))) := hfr3.setCell g 25 none _ (fun _ => rfl)
      have hoff4 := cutAt_off hoa p cc
      have hsp : Value.int .i64 ((k : Int) + (p : Int)) = .int .i64 ((k + p : Nat) : Int) := by simp
      simp only [Int.natCast_add] at hg4 hr4 hfr4
      generalize w3.setCell ⟨g, 25, none⟩ (.int .i64 ((k : Int) + (p : Int))) = w4 at *
      clear hsp hg3 hr3 hfr3 hc3 hf3
      by_cases hfull : k + p = 136
      · have hfb : ((k : Int) + (p : Int) == 136) = true := by rw [beq_iff_eq]; omega
        have HFULL := Lib.hid hfull; clear hfull
        have hc4 : w4.cell? ⟨g, 25, none⟩ = some (.int .i64 ((k : Int) + (p : Int))) := hg4.cell (abs_at (S3, k + p) HSL.out)
        go_wp2_with fail
        refine (permute_abs g S3 (k + p) _ HSL.out hg4).mono ?_
        rintro e w5 ⟨rfl, hg5', hf5⟩
        have hr5 := hr4.keep hf5 hoff4
        have hfr5 : Fr (One g) w w5 := hfr4.trans hf5 (fun _ _ t => t)
        have hpl : (permS S3).length = 25 := by rw [permS_len, HSL.out]
        have hc5 : w5.cell? ⟨g, 25, none⟩ = some (.int .i64 ((k + p : Nat) : Int)) := hg5'.cell (abs_at (_, k + p) hpl)
        have hf5f : w5.frozen? ⟨g, 25, none⟩ = false := hg5'.free _ (by rw [abs_len]; simp only; omega)
        clear hg4 hr4 hfr4 hc4 hf5
        have HPL := Lib.hid hpl; clear hpl
        go_wp2_with fail
        go_roundw
        case rel =>
          have e : feed (S, k) (r.take p) = (permS S3, 0) := by rw [feed_full _ _ _ (by rw [HRL.out]; exact HFULL.out) hkj, HXS.out]
          have h2 := HFE.out
          rw [e] at h2
          have hg6 := hg5'.set 25 (.int .i64 ((0 : Nat) : Int))
          rw [abs_set _ _ _ HPL.out] at hg6
          exact ⟨(permS S3, 0), r.drop p, m - p, cutAt a p cc, cc - p, rfl, by omega, by omega, hr5.keep ((Fr.refl (One g) w5).setCell g 25 none _ (fun _ => rfl)) hoff4, hoff4, hg6, by simp, HPL.out, h2, hfr5.setCell g 25 none _ (fun _ => rfl)⟩
        case measure => have := HP.out; simp [lenV]; omega
      · have hfb : ((k : Int) + (p : Int) == 136) = false := by rw [beq_eq_false_iff_ne]; omega
        have hc4 : w4.cell? ⟨g, 25, none⟩ = some (.int .i64 ((k : Int) + (p : Int))) := hg4.cell (abs_at (S3, k + p) HSL.out)
        have hlt136 : k + p < 136 := by omega
        go_wp2_with fail
        go_roundw
        case rel =>
          have e : feed (S, k) (r.take p) = (S3, k + p) := by rw [feed_short _ _ _ (by rw [HRL.out]; exact hlt136), HXS.out, HRL.out]
          have h2 := HFE.out
          rw [e] at h2
          exact ⟨(S3, k + p), r.drop p, m - p, cutAt a p cc, cc - p, rfl, by omega, by omega, hr4, hoff4, hg4, hlt136, HSL.out, h2, hfr4⟩
        case measure => have := HP.out; simp [lenV]; omega
    · have hge : ¬ 0 < m := hlt
      have hm0 : m = 0 := by omega
      have hr0 : r = [] := List.eq_nil_of_length_eq_zero (by rw [hra.len, hm0])
      have HR := Lib.hid hr0; clear hr0 hm0
      go_wp2_with fail
      go_end0
      have h2 := HF.out
      rw [HR.out, feed_nil] at h2
      exact ⟨rfl, by rw [← h2]; exact hgj, hf⟩
end Go.Proofs.YtgkakddldobpkaaDoor

/- Literals of structs and of slices, boxes. -/
namespace Go.Mv
open Go.RowKit
variable {P : Program}

theorem wl_build {w : World} {ops : Array Oper} {rest : List Oper} {o : Oper} {a : Act} {Q : Exit → Act → World → Prop} {t : TypeId} {parts : Array (Nat × Operand)} (hgd : o.guard = none) (ho : o.op = .build t parts) (cells : Array Value)
    (hb : P.built t (parts.map fun (i, x) => (i, a.eval x)).toList = some cells) (h : wpList P ops Q rest (a.put o.dst (.agg cells)) w) : wpList P ops Q (o :: rest) a w := by
  refine wpList_plain hgd fun K hK => ?_
  have hr := run_build (P := P) w t (parts.map fun (i, x) => (i, a.eval x)) cells hb
  unfold Oper.wp execOp
  simp only [ho, Sem.run_bind, Sem.run_pure, Result.andThen_ok, hr]
  exact hK _ _ h
theorem wl_build0 {w : World} {ops : Array Oper} {rest : List Oper} {o : Oper} {a : Act} {Q : Exit → Act → World → Prop} {t : TypeId} (hgd : o.guard = none) (ho : o.op = .build t #[]) (cells : Array Value)
    (hb : P.built t [] = some cells) (h : wpList P ops Q rest (a.put o.dst (.agg cells)) w) : wpList P ops Q (o :: rest) a w :=
  wl_build hgd ho cells (by simpa using hb) h
/-- a slice's block is there already -/
def Old (w : World) (a : Option Addr) : Prop := ∀ x, a = some x → x.block < w.heap.size
theorem Old.grow {w w' : World} {a : Option Addr} (h : Old w a) (hs : w.heap.size ≤ w'.heap.size) : Old w' a := fun x hx => Nat.lt_of_lt_of_le (h x hx) hs
theorem Old.off {w : World} {a : Option Addr} (h : Old w a) {g : Nat} (hg : w.heap.size ≤ g) : Off (One g) a := fun x hx (e : x.block = g) => by have := h x hx; omega
theorem Old.none (w : World) : Old w .none := fun _ h => by cases h
theorem Old.has {w : World} {g : Nat} {L : List Value} {T : TypeId} (h : Has w g L T) (o : Nat) : Old w (some ⟨g, o, .none⟩) := fun x hx => by cases hx; exact h.lt
theorem wl_box {w : World} {ops : Array Oper} {rest : List Oper} {o : Oper} {a : Act} {Q : Exit → Act → World → Prop} {e : TypeId} {x : Operand} (hgd : o.guard = none) (ho : o.op = .box e x) {v : Value} (hx : a.eval x = v) (L : List Value) (hL : v.cells.toList = L)
    (h : ∀ w', Has w' w.heap.size L e → Fr Nob w w' → w'.heap.size = w.heap.size + 1 → wpList P ops Q rest (a.put o.dst (.pointer (some ⟨w.heap.size, 0, none⟩))) w') : wpList P ops Q (o :: rest) a w := by
  refine wpList_plain hgd fun K hK => ?_
  have hr : (Instr.box e v).run P w = .ok (.pointer (some ⟨w.heap.size, 0, none⟩)) (w.alloc (.cells v.cells e)) := by
    simp [Instr.box, newVar, newRow]
  unfold Oper.wp execOp
  simp only [ho, hx, Sem.run_bind, Sem.run_pure, Result.andThen_ok, hr]
  refine hK _ _ (h _ ?_ ((Fr.refl _ w).alloc _) (by simp))
  have := Has.new w v.cells e
  rwa [hL] at this
/-- four bytes in a row -/
theorem wl_four {w : World} {ops : Array Oper} {rest : List Oper} {o : Oper} {a : Act} {Q : Exit → Act → World → Prop} {t e : TypeId} {y0 y1 y2 y3 : Operand} (hgd : o.guard = none) (ho : o.op = .buildSlice t 4 #[(0, y0), (1, y1), (2, y2), (3, y3)])
    (hu : P.underlying t = some (.slice e)) (hi0 : (P.info? e).map (fun i => (i.zero, i.size, i.bytes)) = some (some (.int .u8 0), 1, 1)) (x0 x1 x2 x3 : UInt8)
    (h0 : a.eval y0 = .int .u8 (x0.toNat : Int)) (h1 : a.eval y1 = .int .u8 (x1.toNat : Int)) (h2 : a.eval y2 = .int .u8 (x2.toNat : Int)) (h3 : a.eval y3 = .int .u8 (x3.toNat : Int))
    (h : ∀ w', Has w' w.heap.size (bs [x0, x1, x2, x3]) e → Fr Nob w w' → w'.heap.size = w.heap.size + 1 → wpList P ops Q rest (a.put o.dst (.slice (some ⟨w.heap.size, 0, none⟩) 4 4)) w') : wpList P ops Q (o :: rest) a w := by
  obtain ⟨i, hi, hz⟩ : ∃ i, P.info? e = some i ∧ (i.zero, i.size, i.bytes) = (some (.int .u8 0), 1, 1) := by simpa using hi0
  simp only [Prod.mk.injEq] at hz
  obtain ⟨hz, hsz, hby⟩ := hz
  have hp : ((#[(0, y0), (1, y1), (2, y2), (3, y3)] : Array (Nat × Operand)).map fun (i, x) => (i, a.eval x)).toList = [(0, .int .u8 (x0.toNat : Int)), (1, .int .u8 (x1.toNat : Int)), (2, .int .u8 (x2.toNat : Int)), (3, .int .u8 (x3.toNat : Int))] := by simp [h0, h1, h2, h3]
  have hf : Instr.fill (fun j => some (j * i.size, i.size)) ((Array.range (4 * i.size)).map ((Value.int .u8 0).cells[· % (Value.int .u8 0).cells.size]!)) ((#[(0, y0), (1, y1), (2, y2), (3, y3)] : Array (Nat × Operand)).map fun (i, x) => (i, a.eval x)).toList = some (bs [x0, x1, x2, x3]).toArray := by
    rw [hp, hsz]
    exact Great.fill_flat (bs [x0, x1, x2, x3]) _ (fun v hv => by simp [bs] at hv; rcases hv with rfl | rfl | rfl | rfl <;> rfl) (by simp [bs])
  exact wpList_buildSlice hgd t e 4 _ ho _ i _ hu hi hz (by rw [hsz]; decide) (by rw [hsz]; decide) hf (h _ (Has.new w (bs [x0, x1, x2, x3]).toArray e) ((Fr.refl _ w).alloc _) (by simp))
/-- one byte in a row -/
theorem wl_one {w : World} {ops : Array Oper} {rest : List Oper} {o : Oper} {a : Act} {Q : Exit → Act → World → Prop} {t e : TypeId} {y : Operand} (hgd : o.guard = none) (ho : o.op = .buildSlice t 1 #[(0, y)])
    (hu : P.underlying t = some (.slice e)) (hi0 : (P.info? e).map (fun i => (i.zero, i.size, i.bytes)) = some (some (.int .u8 0), 1, 1)) (x0 : UInt8)
    (hy : a.eval y = .int .u8 (x0.toNat : Int))
    (h : ∀ w', Has w' w.heap.size (bs [x0]) e → Fr Nob w w' → w'.heap.size = w.heap.size + 1 → wpList P ops Q rest (a.put o.dst (.slice (some ⟨w.heap.size, 0, none⟩) 1 1)) w') : wpList P ops Q (o :: rest) a w := by
  obtain ⟨i, hi, hz⟩ : ∃ i, P.info? e = some i ∧ (i.zero, i.size, i.bytes) = (some (.int .u8 0), 1, 1) := by simpa using hi0
  simp only [Prod.mk.injEq] at hz
  obtain ⟨hz, hsz, hby⟩ := hz
  have hp : ((#[(0, y)] : Array (Nat × Operand)).map fun (i, x) => (i, a.eval x)).toList = [(0, .int .u8 (x0.toNat : Int))] := by simp [hy]
  have hf : Instr.fill (fun j => some (j * i.size, i.size)) ((Array.range (1 * i.size)).map ((Value.int .u8 0).cells[· % (Value.int .u8 0).cells.size]!)) ((#[(0, y)] : Array (Nat × Operand)).map fun (i, x) => (i, a.eval x)).toList = some (bs [x0]).toArray := by
    rw [hp, hsz]
    exact Great.fill_flat (bs [x0]) _ (fun v hv => by simp [bs] at hv; subst hv; rfl) (by simp [bs])
  exact wpList_buildSlice hgd t e 1 _ ho _ i _ hu hi hz (by rw [hsz]; decide) (by rw [hsz]; decide) hf (h _ (Has.new w (bs [x0]).toArray e) ((Fr.refl _ w).alloc _) (by simp))
/-- an owned slice's cells: read and written -/
theorem Own.cells {w : World} {base : Nat} {T : TypeId} {v : Value} {n : Nat} {L : List Value} (h : Own w base T 1 v n L) (hn : 0 < n) :
    ∃ g o cap, v = .slice (some ⟨g, o, none⟩) n cap ∧ base ≤ g ∧ g < w.heap.size ∧ n ≤ cap ∧ cap ≤ maxLen ∧ (∀ i x, L[i]? = some x → w.cell? ⟨g, o + i, none⟩ = some x) ∧ (∀ i, i < n → w.frozen? ⟨g, o + i, none⟩ = false) ∧
      (∀ i x, i < n → Own (w.setCell ⟨g, o + i, none⟩ x) base T 1 v n (L.set i x)) := by
  obtain ⟨hl, h | ⟨g, o, cap, B, rfl, hb, hg, h1, h2, h3, h4⟩⟩ := h
  · obtain ⟨_, h0⟩ := h; omega
  · rw [Nat.mul_one] at h3 h4 hl
    refine ⟨g, o, cap, rfl, hb, hg.lt, h1, h2, ?_, ?_, ?_⟩
    · intro i x hx
      rw [← h4, List.getElem?_take] at hx
      split at hx
      · rw [List.getElem?_drop] at hx; exact hg.cell hx
      · cases hx
    · intro i hi; exact hg.free _ (by omega)
    · intro i x hi
      refine ⟨by rw [List.length_set, hl, Nat.mul_one], .inr ⟨g, o, cap, B.set (o + i) x, rfl, hb, hg.set (o + i) x, h1, h2, by rw [List.length_set]; omega, ?_⟩⟩
      rw [Nat.mul_one, ← h4]
      apply List.ext_getElem?
      intro j
      simp only [List.getElem?_take, List.getElem?_drop, List.getElem?_set]
      by_cases hj : j < n
      · rw [if_pos hj]
        by_cases e : i = j
        · subst e
          rw [if_pos rfl, if_pos rfl, if_pos (by omega), if_pos (by rw [List.length_take, List.length_drop]; omega)]
        · rw [if_neg (by omega), if_neg e, if_pos hj]
      · rw [if_neg hj]
        by_cases e : i = j
        · omega
        · rw [if_neg e, if_neg hj]
end Go.Mv

/- The reference's sponge, on bytes: what it computes is the sponge on words. -/
namespace Mvp

theorem feed_at (l : List UInt8) : ∀ (S : List UInt64) (k : Nat), k < 136 → (feed (S, k) l).2 = (k + l.length) % 136 := by
  induction l with
  | nil => intro S k h; simp [feed_nil]; omega
  | cons x l ih =>
    intro S k h
    rw [feed_cons, feed1]
    split
    · rename_i h1
      simp only at h1
      rw [ih _ _ (by omega), List.length_cons]; omega
    · rename_i h1
      simp only at h1
      rw [ih _ _ (by omega), List.length_cons]
      congr 1; omega
/-- the text with its end -/
def padded (l : List UInt8) (e : UInt8) : List UInt8 := l ++ padL (l.length % 136) e
theorem padded_len (l : List UInt8) (e : UInt8) : (padded l e).length = l.length + (136 - l.length % 136) := by
  rw [padded, List.length_append, padL_len _ _ (Nat.mod_lt _ (by decide))]
theorem padded_mod (l : List UInt8) (e : UInt8) : (padded l e).length % 136 = 0 := by
  rw [padded_len]; omega
theorem padded_eq (l : List UInt8) (e : UInt8) (m : Nat) (hm : m = 135 - l.length % 136) : (l ++ e :: List.replicate m 0).set (l.length + m) (bx ((l ++ e :: List.replicate m 0).getD (l.length + m) 0) 0x80) = padded l e := by
  subst hm
  have h2 : (l ++ e :: List.replicate (135 - l.length % 136) 0).getD (l.length + (135 - l.length % 136)) 0 = (e :: List.replicate (135 - l.length % 136) 0).getD (135 - l.length % 136) 0 := by
    rw [List.getD_eq_getElem?_getD, List.getD_eq_getElem?_getD, List.getElem?_append_right (by omega), Nat.add_sub_cancel_left]
  rw [h2, List.set_append_right _ _ (by omega), Nat.add_sub_cancel_left]
  rfl
theorem ended_padded (l : List UInt8) (e : UInt8) : ended (feed (zeros25, 0) l) e = (feed (zeros25, 0) (padded l e)).1 := by
  rw [ended, padded, feed_append, feed_at _ _ _ (by decide), Nat.zero_add]
/-- the words behind so many bytes -/
def afterB (p : List UInt8) (i : Nat) : List UInt64 := (feed (zeros25, 0) (p.take i)).1
theorem afterB_len (p : List UInt8) (i : Nat) : (afterB p i).length = 25 := by rw [afterB, feed_len]; rfl
theorem afterB_zero (p : List UInt8) : afterB p 0 = zeros25 := by rw [afterB, List.take_zero, feed_nil]
theorem afterB_all (l : List UInt8) (e : UInt8) (i : Nat) (h : (padded l e).length ≤ i) : afterB (padded l e) i = ended (feed (zeros25, 0) l) e := by
  rw [afterB, List.take_of_length_le h, ended_padded]
theorem afterB_succ (p : List UInt8) (i : Nat) (hi : i % 136 = 0) (h : i + 136 ≤ p.length) : afterB p (i + 136) = permS (xorAt (afterB p i) 0 ((p.drop i).take 136)) := by
  have hl : (p.take i).length = i := by rw [List.length_take]; omega
  have h2 : (feed (zeros25, 0) (p.take i)).2 = 0 := by rw [feed_at _ _ _ (by decide), hl]; omega
  have hm : ((p.drop i).take 136).length = 136 := by rw [List.length_take, List.length_drop]; omega
  have h3 : feed (zeros25, 0) (p.take i) = (afterB p i, 0) := Prod.ext rfl h2
  rw [afterB, List.take_add, feed_append, h3, feed_full _ _ _ (by rw [hm]) (by decide)]
/-- bytes of the state, j of them added to -/
def addB (b p : List UInt8) : Nat → List UInt8
  | 0 => b
  | j + 1 => (addB b p j).set j (bx ((addB b p j).getD j 0) (p.getD j 0))
theorem addB_zero (b p : List UInt8) : addB b p 0 = b := rfl
theorem addB_succ (b p : List UInt8) (j : Nat) : addB b p (j + 1) = (addB b p j).set j (bx ((addB b p j).getD j 0) (p.getD j 0)) := rfl
theorem addB_len (b p : List UInt8) (j : Nat) : (addB b p j).length = b.length := by
  induction j with
  | zero => rfl
  | succ j ih => rw [addB_succ, List.length_set, ih]
theorem addB_get (b p : List UInt8) (j : Nat) (hj : j ≤ b.length) (i : Nat) (hi : i < b.length) : (addB b p j).getD i 0 = if i < j then bx (b.getD i 0) (p.getD i 0) else b.getD i 0 := by
  induction j generalizing i with
  | zero => simp [addB_zero]
  | succ j ih =>
    rw [addB_succ, List.getD_eq_getElem?_getD, List.getElem?_set]
    by_cases e : j = i
    · subst e
      rw [if_pos rfl, if_pos (by rw [addB_len]; omega), if_pos (by omega), ih (by omega) j (by omega), if_neg (by omega)]
      rfl
    · rw [if_neg e, ← List.getD_eq_getElem?_getD, ih (by omega) i hi]
      by_cases h1 : i < j
      · rw [if_pos h1, if_pos (by omega)]
      · rw [if_neg h1, if_neg (by omega)]
theorem perm_add (S : List UInt64) (hS : S.length = 25) (p : List UInt8) (hp : 136 ≤ p.length) : permB (addB (toB S 200) p 136) = toB (permS (xorAt S 0 (p.take 136))) 200 := by
  have hl : (p.take 136).length = 136 := by rw [List.length_take]; omega
  unfold permB
  rw [words_of S hS (p.take 136) _ (by omega) (by rw [addB_len, toB_len]) (fun i hi => ?_)]
  rw [addB_get _ _ _ (by rw [toB_len]; omega) i (by rw [toB_len]; omega), toB_get _ _ _ hi, hl]
  by_cases h : i < 136
  · rw [if_pos h, if_pos h]
    congr 1
    simp only [List.getD_eq_getElem?_getD, List.getElem?_take, if_pos h]
  · rw [if_neg h, if_neg h]
theorem perm_toB (S : List UInt64) (hS : S.length = 25) : permB (toB S 200) = toB (permS S) 200 := by
  unfold permB
  rw [words_of S hS [] _ (by simp) (by rw [toB_len]) (fun i hi => by rw [toB_get _ _ _ hi]; simp)]
  rfl
theorem toB_take (S : List UInt64) : (toB S 200).take 136 = toB S 136 := by
  unfold toB
  rw [← List.map_take, List.take_range, Nat.min_eq_left (by omega)]
theorem toB_zeros : toB zeros25 200 = List.replicate 200 0 := by
  have key : ∀ n, toB zeros25 n = List.replicate n 0 := by
    intro n
    refine List.eq_replicate_iff.2 ⟨toB_len _ _, fun x hx => ?_⟩
    unfold toB at hx
    obtain ⟨i, _, rfl⟩ := List.mem_map.1 hx
    exact sByte_zeros i
  exact key 200
end Mvp

/- The reference's sponge -/
namespace Go.Proofs.YtgkakddldobpkaaDoor
open Go.RowKit Go.Mv Mvp
attribute [local irreducible] permS permP toB turnsK squeeze permN permB

theorem pad_append (l : List UInt8) (e : UInt8) (m : Nat) : bs (l ++ e :: List.replicate m 0) ++ bs [0] = bs (l ++ e :: List.replicate (m + 1) 0) := by
  rw [← bs_append, List.replicate_succ']; simp

theorem Rd.take {w : World} {a : Option Addr} {n : Nat} {vs : List Value} (h : Rd w a n vs) (p : Nat) (hp : p ≤ n) : Rd w a p (vs.take p) := by
  refine ⟨by rw [List.length_take, h.len]; omega, h.2.imp (fun h0 => by omega) ?_⟩
  rintro ⟨b, o, rfl, hc⟩
  refine ⟨b, o, rfl, fun i v hv => ?_⟩
  rw [List.getElem?_take] at hv
  split at hv
  · exact hc i v hv
  · cases hv
theorem mkS_append (l m : List UInt8) : mkS l ++ mkS m = mkS (l ++ m) := by
  apply ByteArray.ext
  simp [mkS]
theorem mkS_extract (l : List UInt8) (n : Nat) : (mkS l).extract 0 n = mkS (l.take n) := by
  apply ByteArray.ext
  simp [mkS]
theorem squeeze_zero' (S : List UInt64) : squeeze S 0 = [] := by unfold squeeze; rfl
theorem permN_zero' (S : List UInt64) : permN S 0 = S := by unfold permN; rfl
def strLen : Value → Nat
  | .string s => s.size
  | _ => 0
theorem pieces_lt' (n j : Nat) : 136 * j < n ↔ j < pieces n := by unfold pieces; omega

set_option maxHeartbeats 2000000 in
set_option maxRecDepth 1000000 in
theorem spongeR_any (s : ByteArray) (e : UInt8) (n : Nat) (w : World) (hs : s.size ≤ 1000000) (hn : n ≤ 20000) :
    Calls Tryd.prog 43 #[.string s, .int .u8 (e.toNat : Int), .int .i64 (n : Int)] w fun r w' => r = .returned (.string (mkS (spongeB s.data.toList e n))) ∧ Fr Nob w w' := by
  obtain ⟨l, rfl⟩ : ∃ l, s = mkS l := ⟨_, (mkS_data s).symm⟩
  rw [mkS_size] at hs
  rw [mkS_toList]
  go_enter Tryd.func43, Tryd.ntmps43
  go_wp2_with (with_reducible refine wl_stop (o := ⟨some 13, _, _, _, _, _⟩) ?_)
  refine wl_bytes rfl rfl Tryd.underlying9 Tryd.underlying26 Tryd.underlying5 rfl (by rw [mkS_size]; unfold maxLen; omega) w.heap.size (Nat.le_refl _) ?_
  intro cap w1 hown1 hf1 hz1
  rw [mkS_toList, mkS_size] at hown1
  rw [mkS_size]
  go_wp2_with (with_reducible refine wl_stop (o := ⟨some 15, _, _, _, _, _⟩) ?_)
  refine wl_one rfl rfl Tryd.underlying26 info_u8 e rfl ?_
  intro w2 hg2 hf2 hz2
  have hown2 := hown1.still hf2
  have hfr2 := hf1.then hf2
  generalize w1.heap.size = g1 at *
  clear hown1 hf1 hf2 hz2 hz1
  go_wp2_with (with_reducible refine wl_stop (o := ⟨some 16, _, _, _, _, _⟩) ?_)
  refine wl_append rfl rfl Tryd.underlying26 info_u8 rfl (by decide) hown2 rfl rfl (Rd.whole hg2) (bs_one _) (by simp [maxLen]; omega) (by simp; omega) hfr2.size ?_
  intro v3 w3 hown3 hf3 hb3
  have hfr3 : Fr Nob w w3 := hown2.fr hfr2 (Nat.le_refl _) hf3
  clear hown2 hfr2 hg2 hf3 hb3
  go_wp2_with fail
  go_loopw [7] (fun v wr => ∃ m, m ≤ 135 - l.length % 136 ∧ Own wr w.heap.size 5 1 v (l.length + 1 + m) (bs (l ++ e :: List.replicate m 0)) ∧ Fr Nob w wr) (fun v _ => l.length + 136 - lenV v)
  case atStart => exact ⟨0, Nat.zero_le _, by simpa [bs] using hown3, hfr3⟩
  case round =>
    obtain ⟨m, hm, hown, hf⟩ := hrel
    clear hown3 hfr3
    obtain ⟨a, c, rfl, hc, hrd, hna⟩ := hown.form
    have hmod := Nat.mod_lt l.length (show 0 < 136 by decide)
    by_cases hlt : (l.length + 1 + m) % 136 = 0
    · have hb : (((l.length : Int) + 1 + (m : Int)) % 136 != 0) = false := by simp; omega
      have hmk : m = 135 - l.length % 136 := by omega
      have HMK := Lib.hid hmk; clear hmk
      have HMOD := Lib.hid hmod; clear hmod
      have HLT := Lib.hid hlt; clear hlt
      obtain ⟨gp, op, cp, hv, hgp, hgp2, hcp, hcm, hget, hfree, hput⟩ := hown.cells (by omega)
      simp only [Value.slice.injEq] at hv
      obtain ⟨rfl, -, rfl⟩ := hv
      have hlen : (l ++ e :: List.replicate m 0).length = l.length + 1 + m := by simp; omega
      have hcl : wr.cell? ⟨gp, op + (l.length + m), none⟩ = some (.int .u8 (((l ++ e :: List.replicate m 0).getD (l.length + m) 0).toNat : Int)) := hget _ _ (bs_get _ _ (by omega))
      have hfl := hfree (l.length + m) (by omega)
      have hput2 := hput (l.length + m)
      clear hget hfree hput hrd hna
      generalize hy : (l ++ e :: List.replicate m 0).getD (l.length + m) 0 = y at hcl
      have HY := Lib.hid hy; clear hy
      have hbx : bits BinOp.xor IntKind.u8 (y.toNat : Int) 128 = ((bx y 128).toNat : Int) := xor8_run y 128
      go_wp2_with (with_reducible refine wl_stop (o := ⟨some 36, _, _, _, _, _⟩) ?_)
      have hown4 := hput2 (.int .u8 ((bx y 0x80).toNat : Int)) (by omega)
      rw [bs_set, ← HY.out, padded_eq l e m HMK.out] at hown4
      rw [HY.out] at hown4
      have hfr4 : Fr Nob w (wr.setCell ⟨gp, op + (l.length + m), none⟩ (.int .u8 ((bx y 128).toNat : Int))) := hf.setCell gp _ none _ (fun h => by omega)
      have hgp4 : gp < (wr.setCell ⟨gp, op + (l.length + m), none⟩ (.int .u8 ((bx y 128).toNat : Int))).heap.size := by simpa using hgp2
      generalize wr.setCell ⟨gp, op + (l.length + m), none⟩ (.int .u8 ((bx y 128).toNat : Int)) = w4 at *
      have hpl := padded_len l e
      have hpm := padded_mod l e
      have hpe := afterB_all l e
      have hN : l.length + 1 + m = (padded l e).length := by rw [hpl, HMK.out]; have := HMOD.out; omega
      have hpb : (padded l e).length ≤ 1000136 := by rw [hpl]; omega
      rw [hN] at hown4 ⊢
      have hrd4 : RdB w4 (some ⟨gp, op, none⟩) (padded l e).length (padded l e) := by
        obtain ⟨a, cc, hv, _, hr, _⟩ := hown4.form
        cases hv
        rw [Nat.mul_one] at hr; exact hr
      clear hown hown4 hf hgp2 hput2 hcl hfl hbx HY hlen hpl hb HLT hc hcm hcp HMK
      generalize hP : padded l e = P at *
      have HP := Lib.hid hP; clear hP
      refine wl_make rfl rfl Tryd.underlying26 info_u8 rfl rfl rfl 200 200 (by simp) (by simp) (by omega) (by omega) (by unfold maxLen; omega) ?_
      intro w5 hg5 hf5 hz5
      have hs5 : Own w5 w4.heap.size 5 1 (.slice (some ⟨w4.heap.size, 0, none⟩) 200 200) 200 (bs (toB zeros25 200)) := by
        rw [toB_zeros]
        have := Own.made hg5 w4.heap.size (Nat.le_refl _) 1 200 200 (Nat.le_refl _) (by unfold maxLen; omega) (by simp)
        rw [List.take_of_length_le (by simp)] at this
        exact this
      have hrd5 := hrd4.still hf5
      have hfr5 := hfr4.then hf5
      have hb5 : w4.heap.size ≤ w5.heap.size := hf5.size
      have hwb : w.heap.size ≤ w4.heap.size := hfr4.size
      generalize w4.heap.size = b5 at *
      clear hg5 hf5 hz5 hrd4 hfr4
      go_wp2_with fail
      go_loopw [9, 8] (fun i v wr => ∃ I : Nat, I ≤ P.length ∧ I % 136 = 0 ∧ i = .int .i64 (I : Int) ∧ Own wr b5 5 1 v 200 (bs (toB (afterB P I) 200)) ∧ RdB wr (some ⟨gp, op, none⟩) P.length P ∧ b5 ≤ wr.heap.size ∧ Fr Nob w wr) (fun i _ _ => (P.length - intOf i).toNat)
      case atStart => exact ⟨0, by omega, rfl, rfl, by rw [afterB_zero]; exact hs5, hrd5, hb5, hfr5⟩
      case round =>
        obtain ⟨I, hk, hI, rfl, hst, hrdk, hbk, hfk⟩ := hrel
        clear hs5 hrd5 hb5 hfr5
        have hSl := afterB_len P I
        by_cases hlt : I < P.length
        · have hltI : (I : Int) < (P.length : Int) := by omega
          have hk2 : I + 136 ≤ P.length := by omega
          have hsucc := afterB_succ P I hI hk2
          generalize hS0 : afterB P I = S at *
          have HS0 := Lib.hid hS0; clear hS0
          have HI := Lib.hid hI; clear hI
          have HSU := Lib.hid hsucc; clear hsucc
          have HSL := Lib.hid hSl; clear hSl
          have HPE := Lib.hid hpe; clear hpe
          have HPM := Lib.hid hpm; clear hpm
          obtain ⟨gs, os, cs, rfl, hgs, hgs2, hcs, hcm, -, -, -⟩ := hst.cells (by omega)
          obtain ⟨wo, rfl⟩ : ∃ wo : World, wo = wr := ⟨_, rfl⟩
          go_wp2_with fail
          go_loopw [10] (fun j wr => ∃ jn : Nat, jn ≤ 136 ∧ j = .int .i64 (jn : Int) ∧ Own wr b5 5 1 (.slice (some ⟨gs, os, none⟩) 200 cs) 200 (bs (addB (toB S 200) (P.drop I) jn)) ∧ RdB wr (some ⟨gp, op, none⟩) P.length P ∧ b5 ≤ wr.heap.size ∧ Fr Nob w wr) (fun j _ => (136 - intOf j).toNat)
          case atStart => exact ⟨0, by omega, rfl, by rw [addB_zero]; exact hst, hrdk, hbk, hfk⟩
          case round =>
            obtain ⟨j, hj, rfl, hsj, hrdj, hbj, hfj⟩ := hrel
            clear hst hrdk hbk hfk
            by_cases hjlt : j < 136
            · have hjI : (j : Int) < 136 := by omega
              obtain ⟨gs', os', cs', hv, -, hgs3, -, -, hget, hfree, hput⟩ := hsj.cells (by omega)
              simp only [Value.slice.injEq, Option.some.injEq, Addr.mk.injEq] at hv
              obtain ⟨⟨rfl, rfl, -⟩, -, rfl⟩ := hv
              have hc1 : wr.cell? ⟨gs, os + j, none⟩ = some (.int .u8 (((addB (toB S 200) (P.drop I) j).getD j 0).toNat : Int)) := hget _ _ (bs_get _ _ (by rw [addB_len, toB_len]; omega))
              have hf1 := hfree j (by omega)
              have hput1 := hput j
              have hc2 : wr.cell? ⟨gp, op + (I + j), none⟩ = some (.int .u8 ((P.getD (I + j) 0).toNat : Int)) := by
                obtain ⟨b, o, he, hh⟩ := hrdj.at (by omega)
                simp only [Option.some.injEq, Addr.mk.injEq] at he
                obtain ⟨rfl, rfl, -⟩ := he
                exact hh _ (by omega)
              clear hget hfree hput
              generalize hx : (addB (toB S 200) (P.drop I) j).getD j 0 = x at hc1
              generalize hy : P.getD (I + j) 0 = y at hc2
              have HX := Lib.hid hx; clear hx
              have HY := Lib.hid hy; clear hy
              go_wp2_with fail
              try go_region
              all_goals go_wp2
              go_roundw
              case rel =>
                have e : (P.drop I).getD j 0 = y := by
                  rw [← HY.out]; simp [List.getD_eq_getElem?_getD, List.getElem?_drop]
                have h1 := hput1 (.int .u8 ((bx x y).toNat : Int)) (by omega)
                rw [bs_set, ← HX.out, ← e, ← addB_succ] at h1
                rw [HX.out, e] at h1
                refine ⟨j + 1, by omega, by go_num, h1, ?_, ?_, ?_⟩
                · exact hrdj.keep ((Fr.refl (One gs) wr).setCell gs _ none _ (fun _ => rfl)).drew (fun a ha (hh : a.block = gs) => by simp only [Option.some.injEq] at ha; subst ha; simp at hh; omega)
                · simpa using hbj
                · exact (hfj.setCell gs _ none _ (fun h => by omega)).drew
              case measure => simp [intOf]; omega
            · have hge : ¬ ((j : Int) < 136) := by omega
              have hj136 : j = 136 := by omega
              have HJ := Lib.hid hj136; clear hj136
              go_wp2_with (with_reducible refine wl_stop (o := ⟨some 62, _, _, _, _, _⟩) ?_)
              have hrs : RdB wr (some ⟨gs, os, none⟩) 200 (addB (toB S 200) (P.drop I) 136) := by
                obtain ⟨a, cc, hv, _, hr, _⟩ := hsj.form
                cases hv
                rw [HJ.out, Nat.mul_one] at hr; exact hr
              refine wl_string rfl rfl Tryd.underlying26 Tryd.underlying5 Tryd.underlying9 rfl hrs ?_
              go_wp2_with fail
              refine (permuteR_any (mkS (addB (toB S 200) (P.drop I) 136)) _ (by rw [mkS_size, addB_len, toB_len])).mono ?_
              rintro e' w6 ⟨rfl, hf6⟩
              rw [mkS_toList, perm_add S HSL.out _ (by rw [List.length_drop]; omega), ← HSU.out]
              have hb6 : b5 ≤ w6.heap.size := Nat.le_trans hbj hf6.size
              go_wp2_with (with_reducible refine wl_stop (o := ⟨some 64, _, _, _, _, _⟩) ?_)
              refine wl_bytes rfl rfl Tryd.underlying9 Tryd.underlying26 Tryd.underlying5 rfl (by rw [mkS_size, toB_len]; unfold maxLen; omega) b5 hb6 ?_
              intro c7 w7 hs7 hf7 hz7
              rw [mkS_toList, mkS_size, toB_len] at hs7
              rw [mkS_size, toB_len]
              have hf67 := hf6.then hf7
              have hrd7 := hrdj.still hf67
              have hfr7 := hfj.then hf67
              have hb7 : b5 ≤ w7.heap.size := Nat.le_trans hb6 hf7.size
              generalize w6.heap.size = g6 at *
              clear hsj hrdj hfj hrs hf6 hf7 hz7 hf67
              go_wp2_with fail
              go_roundw
              case rel => exact ⟨I + 136, by omega, by have := HI.out; omega, by go_num, hs7, hrd7, hb7, hfr7⟩
              case measure => simp [intOf]; omega
        · have hge : ¬ ((I : Int) < (P.length : Int)) := by omega
          have hend : afterB P I = ended (feed (zeros25, 0) l) e := hpe I (by omega)
          rw [hend] at hst hSl
          clear hpe hend
          generalize hE : ended (feed (zeros25, 0) l) e = S0 at *
          have HE := Lib.hid hE; clear hE
          have HPM := Lib.hid hpm; clear hpm
          clear hrdk
          go_wp2_with fail
          go_loopw [11, 8] (fun o v wr => ∃ j : Nat, j ≤ pieces n ∧ o = .string (mkS (squeeze S0 j)) ∧ Own wr b5 5 1 v 200 (bs (toB (permN S0 j) 200)) ∧ b5 ≤ wr.heap.size ∧ Fr Nob w wr) (fun o _ _ => n - strLen o)
          case atStart => exact ⟨0, Nat.zero_le _, by rw [squeeze_zero']; rfl, by rw [permN_zero']; exact hst, hbk, hfk⟩
          case round =>
            obtain ⟨j, hj, rfl, hsj, hbj, hfj⟩ := hrel
            clear hst hbk hfk
            have hpi := pieces_lt' n j
            have hql : (mkS (squeeze S0 j)).size = 136 * j := by rw [mkS_size, squeeze_len]
            generalize hq : mkS (squeeze S0 j) = q at *
            have HQ := Lib.hid hq; clear hq
            by_cases hlt : 136 * j < n
            · have hltI : (q.size : Int) < (n : Int) := by omega
              have hj1 := hpi.1 hlt
              have HPI := Lib.hid hpi; clear hpi
              have HQL := Lib.hid hql; clear hql
              have HLT := Lib.hid hlt; clear hlt
              have HSL := Lib.hid hSl; clear hSl
              obtain ⟨a, cc, rfl, hcc, hrs, hna⟩ := hsj.form
              have e1 : ∀ wx, (Instr.sliceAt 26 (.slice a 200 cc) none (some (.int .i64 136)) none).run Tryd.prog wx = .ok (.slice a 136 cc) wx := fun wx => run_slice_hi wx Tryd.underlying26 size_u8 a 200 cc .i64 136 (by omega)
              go_wp2_with (with_reducible refine wl_stop (o := ⟨some 72, _, _, _, _, _⟩) ?_)
              have hrs2 : RdB wr a 136 (toB (permN S0 j) 136) := by
                have h2 := hrs
                rw [Nat.mul_one] at h2
                have h3 := Rd.take h2 136 (by omega)
                rwa [bs_take, toB_take] at h3
              have hrs3 : RdB wr a 200 (toB (permN S0 j) 200) := by
                rw [Nat.mul_one] at hrs; exact hrs
              clear hrs hna
              have hcat : ¬ 9223372036854775807 < q.size + (mkS (toB (permN S0 j) 136)).size := by have := HLT.out; rw [mkS_size, toB_len, HQL.out]; omega
              refine wl_string rfl rfl Tryd.underlying26 Tryd.underlying5 Tryd.underlying9 rfl hrs2 ?_
              go_wp2_with (with_reducible refine wl_stop (o := ⟨some 75, _, _, _, _, _⟩) ?_)
              have hqq : q ++ mkS (toB (permN S0 j) 136) = mkS (squeeze S0 (j + 1)) := by rw [← HQ.out, mkS_append, ← squeeze_succ]
              rw [hqq]
              refine wl_string rfl rfl Tryd.underlying26 Tryd.underlying5 Tryd.underlying9 rfl hrs3 ?_
              clear hcat
              go_wp2_with fail
              refine (permuteR_any (mkS (toB (permN S0 j) 200)) _ (by rw [mkS_size, toB_len])).mono ?_
              rintro e' w6 ⟨rfl, hf6⟩
              rw [mkS_toList, perm_toB _ (by rw [permN_len, HSL.out]), ← permN_succ]
              have hb6 : b5 ≤ w6.heap.size := Nat.le_trans hbj hf6.size
              go_wp2_with (with_reducible refine wl_stop (o := ⟨some 77, _, _, _, _, _⟩) ?_)
              refine wl_bytes rfl rfl Tryd.underlying9 Tryd.underlying26 Tryd.underlying5 rfl (by rw [mkS_size, toB_len]; unfold maxLen; omega) b5 hb6 ?_
              intro c7 w7 hs7 hf7 hz7
              rw [mkS_toList, mkS_size, toB_len] at hs7
              rw [mkS_size, toB_len]
              have hf67 := hf6.then hf7
              have hfr7 := hfj.then hf67
              have hb7 : b5 ≤ w7.heap.size := Nat.le_trans hb6 hf7.size
              generalize w6.heap.size = g6 at *
              clear hsj hfj hrs2 hrs3 hf6 hf7 hz7 hf67
              go_wp2_with fail
              go_roundw
              case rel => exact ⟨j + 1, hj1, rfl, hs7, hb7, hfr7⟩
              case measure =>
                have h1 := HLT.out; have h2 := HQL.out
                have h3 : (mkS (squeeze S0 (j + 1))).size = 136 * (j + 1) := by rw [mkS_size, squeeze_len]
                simp [strLen, h3]; omega
            · have hge : ¬ ((q.size : Int) < (n : Int)) := by omega
              have hjp : j = pieces n := by have := hpi.2; omega
              have HJP := Lib.hid hjp; clear hjp
              go_wp2_with fail
              go_ret
              refine ⟨?_, hfj⟩
              rw [← HQ.out, HJP.out, mkS_extract]
              unfold spongeB outB
              rw [HE.out]
              rfl
    · have hb : (((l.length : Int) + 1 + (m : Int)) % 136 != 0) = true := by simp; omega
      go_wp2_with (with_reducible refine wl_stop (o := ⟨some 22, _, _, _, _, _⟩) ?_)
      refine wl_one rfl rfl Tryd.underlying26 info_u8 0 rfl ?_
      intro w2 hg2 hf2 hz2
      have hown2 := hown.still hf2
      have hfr2 := hf.then hf2
      generalize wr.heap.size = g2 at *
      clear hown hf hf2 hz2 hrd hna
      have HMOD := Lib.hid hmod; clear hmod
      have HLT := Lib.hid hlt; clear hlt
      go_wp2_with (with_reducible refine wl_stop (o := ⟨some 23, _, _, _, _, _⟩) ?_)
      refine wl_append rfl rfl Tryd.underlying26 info_u8 rfl (by decide) hown2 rfl rfl (Rd.whole hg2) (bs_one _) (by simp [maxLen]; omega) (by simp; omega) hfr2.size ?_
      intro v3 w3 hown3 hf3 hb3
      have hfr3 : Fr Nob w w3 := hown2.fr hfr2 (Nat.le_refl _) hf3
      rw [pad_append] at hown3
      clear hown2 hfr2 hg2 hf3 hb3
      go_wp2_with fail
      go_roundw
      case rel => exact ⟨m + 1, by have := HMOD.out; have := HLT.out; omega, hown3, hfr3⟩
      case measure =>
        obtain ⟨a8, c8, rfl, _⟩ := hown3.form
        have := HLT.out; have := HMOD.out
        simp [lenV]; omega
end Go.Proofs.YtgkakddldobpkaaDoor

/- absorber.out, and what hashes with it -/
namespace Go.Proofs.YtgkakddldobpkaaDoor
open Go.RowKit Go.Mv Mvp
theorem squeeze_zero (S : List UInt64) : squeeze S 0 = [] := by unfold squeeze; rfl
theorem permN_zero (S : List UInt64) : permN S 0 = S := by unfold permN; rfl
/-- `v[:n:n]` of an owned slice is owned -/
theorem own_cut {w : World} {base : Nat} {T : TypeId} {a : Option Addr} {m c : Nat} {L : List Value} (h : Own w base T 1 (.slice a m c) m L) (n : Nat) (hn : n ≤ m) : Own w base T 1 (.slice a n n) n (L.take n) := by
  obtain ⟨hl, h | ⟨g, o, cap, B, hv, hb, hg, h1, h2, h3, h4⟩⟩ := h
  · obtain ⟨hv, hm⟩ := h
    cases hv
    have : n = 0 := by omega
    subst this
    exact ⟨by simp, .inl ⟨rfl, rfl⟩⟩
  · cases hv
    refine ⟨by rw [List.length_take]; omega, .inr ⟨g, o, n, B, rfl, hb, hg, Nat.le_refl _, by omega, by omega, ?_⟩⟩
    rw [← h4, List.take_take]
    congr 1
    omega
attribute [local irreducible] permS permP toB turnsK squeeze permN

theorem last_eq (k : Nat) (e : UInt8) (h : k < 136) : ((List.replicate 136 (0 : UInt8)).set k e).set 135 (bx (((List.replicate 136 (0 : UInt8)).set k e).getD 135 0) 0x80) = List.replicate k 0 ++ padL k e := by
  have h1 : (List.replicate 136 (0 : UInt8)).set k e = List.replicate k 0 ++ (e :: List.replicate (135 - k) 0) := by
    have : (List.replicate 136 (0 : UInt8)) = List.replicate k 0 ++ (0 :: List.replicate (135 - k) 0) := by
      rw [← List.replicate_succ, List.replicate_append_replicate]; congr 1; omega
    rw [this, List.set_append_right _ _ (by simp)]
    simp
  have h2 : (List.replicate k 0 ++ (e :: List.replicate (135 - k) 0)).getD 135 0 = (e :: List.replicate (135 - k) 0).getD (135 - k) 0 := by
    rw [List.getD_eq_getElem?_getD, List.getD_eq_getElem?_getD, List.getElem?_append_right (by simp; omega), List.length_replicate]
  rw [h1, h2, List.set_append_right _ _ (by simp; omega)]
  simp only [List.length_replicate, padL]
theorem pieces_lt (n j : Nat) : 136 * j < n ↔ j < pieces n := by unfold pieces; omega

set_option maxHeartbeats 2000000 in
set_option maxRecDepth 1000000 in
theorem out_any (g : Nat) (S : List UInt64) (k : Nat) (e : UInt8) (n : Nat) (w : World) (hS : S.length = 25) (hk : k < 136) (hn : n ≤ 20000) (hg : Has w g (abs (S, k)) 79) :
    Calls Tryd.prog 45 #[.pointer (some ⟨g, 0, none⟩), .int .u8 (e.toNat : Int), .int .i64 (n : Int)] w fun r w' => ∃ v, r = .returned v ∧ Own w' w.heap.size 5 1 v n (bs (outB (ended (S, k) e) n)) ∧ Fr (One g) w w' := by
  go_enter Tryd.func45, Tryd.ntmps45
  go_wp2_with (with_reducible refine wl_stop (o := ⟨_, .alloc 82, _, _, _, _⟩) ?_)
  refine wl_alloc rfl rfl zero_a136 (bs (List.replicate 136 0)) (by simp [Value.cells]) ?_
  intro w1 hl1 hf1 hz1
  have hg1 := hg.keep hf1 id
  have hgl := hg.lt
  have hfr1 : Fr (One g) w w1 := (Fr.refl (One g) w).same hf1
  have hb0 : w.heap.size ≤ w1.heap.size := hf1.size
  generalize hgl0 : w.heap.size = gl at *
  have HGL := Lib.hid hgl0; clear hgl0
  clear hf1 hz1 hg
  have hc25 : w1.cell? ⟨g, 25, none⟩ = some (.int .i64 (k : Int)) := hg1.cell (abs_at (S, k) hS)
  obtain ⟨vk, hck, hfk⟩ := hl1.ready (i := k) (by rw [length_bs]; simpa using hk)
  have hkI : (k : Int) < 136 := by omega
  go_wp2_with (with_reducible refine wl_stop (o := ⟨some 15, _, _, _, _, _⟩) ?_)
  have hl2 := hl1.set k (.int .u8 (e.toNat : Int))
  rw [bs_set] at hl2
  have hg2 := hg1.other (g' := gl) k none (.int .u8 (e.toNat : Int)) (by omega)
  have hfr2 : Fr (One g) w (w1.setCell ⟨gl, k, none⟩ (.int .u8 (e.toNat : Int))) := hfr1.setCell gl k none _ (fun h => by have := HGL.out; omega)
  have hsz2 : gl < (w1.setCell ⟨gl, k, none⟩ (.int .u8 (e.toNat : Int))).heap.size := hl2.lt
  generalize w1.setCell ⟨gl, k, none⟩ (.int .u8 (e.toNat : Int)) = w2 at *
  clear hl1 hg1 hfr1 hc25 hck hfk hb0
  have hc135 : w2.cell? ⟨gl, 135, none⟩ = some (.int .u8 ((((List.replicate 136 (0 : UInt8)).set k e).getD 135 0).toNat : Int)) := hl2.cell (bs_get _ _ (by simp))
  have hf135 : w2.frozen? ⟨gl, 135, none⟩ = false := hl2.free _ (by rw [length_bs]; simp)
  generalize hy : ((List.replicate 136 (0 : UInt8)).set k e).getD 135 0 = y at hc135
  have HY := Lib.hid hy; clear hy
  show wpList _ _ _ _ _ _
  go_wp2_with fail
  have hbx : bits BinOp.xor IntKind.u8 (y.toNat : Int) 128 = ((bx y 128).toNat : Int) := xor8_run y 128
  rw [hbx]
  have hl3 := hl2.set 135 (.int .u8 ((bx y 0x80).toNat : Int))
  rw [bs_set, ← HY.out, last_eq k e hk] at hl3
  rw [HY.out] at hl3
  have hg3 := hg2.other (g' := gl) 135 none (.int .u8 ((bx y 128).toNat : Int)) (by omega)
  have hfr3 : Fr (One g) w (w2.setCell ⟨gl, 135, none⟩ (.int .u8 ((bx y 128).toNat : Int))) := hfr2.setCell gl 135 none _ (fun h => by have := HGL.out; omega)
  generalize w2.setCell ⟨gl, 135, none⟩ (.int .u8 ((bx y 128).toNat : Int)) = w3 at *
  have hpl : (padL k e).length = 136 - k := padL_len k e hk
  have hne : g ≠ gl := by omega
  clear hl2 hg2 hfr2 hc135 hf135 hbx hsz2 HY
  have e1 : ∀ wx, (Instr.sliceAt 82 (.pointer (some ⟨gl, 0, none⟩)) none none none).run Tryd.prog wx = .ok (.slice (some ⟨gl, 0, none⟩) 136 136) wx := fun wx => run_sliceA_all wx Tryd.underlying82 size_u8 gl 0
  refine wp_region_still_tail 4 (by kernel_rfl) (by kernel_rfl) ?_
  simp only [List.take_succ_cons, List.take_zero, List.drop_succ_cons, List.drop_zero]
  repeat still_step
  refine wpStill_nil ?_
  show wpList _ _ _ _ _ w3.drew
  go_wp2_with fail
  have hrd : RdB w3.drew (some ⟨gl, 0, none⟩) 136 (List.replicate k 0 ++ padL k e) := by
    have := Rd.whole hl3.drew
    rwa [length_bs, List.length_append, List.length_replicate, hpl, show k + (136 - k) = 136 by omega] at this
  refine (xor_any g S [.int .i64 (k : Int)] 79 _ 136 _ _ _ hS (by omega) hg3.drew hrd (fun x hx (e : x.block = g) => by simp only [Option.some.injEq] at hx; subst hx; simp at e; omega)).mono ?_
  rintro e w4 ⟨rfl, hg4, hf4, hz4⟩
  have hxb : xorB S (List.replicate k 0 ++ padL k e) 136 = xorAt S k (padL k e) := by
    have := xorB_piece S k (padL k e) []
    rwa [List.append_nil, hpl, show k + (136 - k) = 136 by omega] at this
  rw [hxb, abs_def] at hg4
  have hfr4 : Fr (One g) w w4 := hfr3.drew.trans hf4 (fun _ _ t => t)
  have hend : ended (S, k) e = permS (xorAt S k (padL k e)) := by
    unfold ended
    rw [feed_full _ _ _ (by simp only [hpl]; omega) hk]
  have hxl : (xorAt S k (padL k e)).length = 25 := by rw [xorAt_len, hS]
  clear hl3 hg3 hfr3 e1 hrd hf4 hz4 hxb hpl
  generalize xorAt S k (padL k e) = X at *
  have HEND := Lib.hid hend; clear hend
  go_wp2_with fail
  refine (permute_abs g X k _ hxl hg4).mono ?_
  rintro e w5 ⟨rfl, hg5, hf5⟩
  have hfr5 : Fr (One g) w w5 := hfr4.trans hf5 (fun _ _ t => t)
  have hS5 : (permS X).length = 25 := by rw [permS_len, hxl]
  generalize permS X = S0 at *
  clear hg4 hfr4 hf5 hxl hS
  go_wp2_with fail
  go_loopw [8] (fun v wr => ∃ j, j ≤ pieces n ∧ Own wr w.heap.size 5 1 v (136 * j) (bs (squeeze S0 j)) ∧ Has wr g (abs (permN S0 j, k)) 79 ∧ Fr (One g) w wr) (fun v _ => n - lenV v)
  case atStart => exact ⟨0, Nat.zero_le _, by rw [squeeze_zero]; exact Own.nil _ _ _ _, by rw [permN_zero]; exact hg5, hfr5⟩
  case round =>
    obtain ⟨j, hj, hown, hgj, hfj⟩ := hrel
    clear hg5 hfr5
    have hjn := pieces_lt n j
    obtain ⟨a, cap, rfl, hcap, hrdj, hna⟩ := hown.form
    by_cases hlt : 136 * j < n
    · have hltI : 136 * (j : Int) < (n : Int) := by omega
      have hpj : (permN S0 j).length = 25 := by rw [permN_len, hS5]
      have hjp : j + 1 ≤ pieces n := hjn.1 hlt
      have HJN := Lib.hid hjn; clear hjn
      have HLT := Lib.hid hlt; clear hlt
      clear hrdj hna
      go_wp2_with fail
      rw [← abs_def] at hgj
      refine (bytes_any g (permN S0 j) [.int .i64 (k : Int)] 79 136 _ hpj (by omega) hgj).mono ?_
      rintro e w6 ⟨rfl, ht6, hf6, hz6⟩
      have hg6 := hgj.keep hf6 id
      rw [abs_def] at hg6
      have hown6 := hown.still hf6
      have hfr6 : Fr (One g) w w6 := hfj.same hf6
      have hwb : w.heap.size ≤ wr.heap.size := hfj.size
      have hgb : g < w.heap.size := by have := HGL.out; omega
      generalize wr.heap.size = gt at *
      clear hgj hown hfj hf6
      go_wp2_with (with_reducible refine wl_stop (o := ⟨some 37, _, _, _, _, _⟩) ?_)
      have hrd6 : Rd w6 (some ⟨gt, 0, none⟩) (136 * 1) (bs (toB (permN S0 j) 136)) := by
        have := Rd.whole ht6
        rwa [length_bs, toB_len] at this
      refine wl_append rfl rfl Tryd.underlying26 info_u8 rfl (by decide) hown6 rfl rfl hrd6 (bs_one _) (by unfold maxLen; omega) (by omega) hfr6.size ?_
      intro v7 w7 hown7 hf7 hb7
      have hg7 := hg6.keep hf7 (fun hh => by have := hown6.lt hh; omega)
      have hfr7 : Fr (One g) w w7 := hown6.fr hfr6 (Nat.le_refl _) hf7
      rw [← bs_append, ← squeeze_succ] at hown7
      clear ht6 hg6 hown6 hfr6 hrd6 hf7 hb7
      go_wp2_with fail
      refine (permute_abs g _ k _ hpj hg7).mono ?_
      rintro e w8 ⟨rfl, hg8, hf8⟩
      rw [← permN_succ] at hg8
      have hown8 := hown7.keep hf8 (fun k' hk' (h : k' = g) => by have := hown7.lt hk'; omega)
      have hfr8 : Fr (One g) w w8 := hfr7.trans hf8 (fun _ _ t => t)
      clear hg7 hown7 hfr7 hf8
      go_wp2_with fail
      go_roundw
      case rel => exact ⟨j + 1, hjp, hown8, hg8, hfr8⟩
      case measure =>
        obtain ⟨a8, c8, rfl, _⟩ := hown8.form
        have := HLT.out
        simp [lenV]; omega
    · have hge : ¬ (136 * (j : Int) < (n : Int)) := by omega
      have hjp : j = pieces n := by have := hjn.2; omega
      have HJP := Lib.hid hjp; clear hjp
      have HJN := Lib.hid hjn; clear hjn
      have hnc : n ≤ cap := by omega
      have hnI : ¬ (n : Int) < 0 := by omega
      clear hgj
      go_wp2_with (with_reducible refine wl_stop (o := ⟨some 45, _, _, _, _, _⟩) ?_)
      refine wl_cut3 rfl rfl Tryd.underlying26 size_u8 rfl 0 n n rfl rfl rfl rfl rfl (Nat.zero_le _) (Nat.le_refl _) hnc ?_
      go_wp2_with fail
      go_ret
      rw [cutAt_0]
      refine ⟨_, rfl, ?_, hfj⟩
      have hsq : bs (outB (ended (S, k) e) n) = (bs (squeeze S0 j)).take n := by
        rw [HEND.out, HJP.out, outB, bs_take]
      rw [hsq]
      exact own_cut hown n (by omega)
end Go.Proofs.YtgkakddldobpkaaDoor

/- absorber.frame; the reference's Frame -/
namespace Mvp
/-- a length in four bytes -/
def lenB (n : Nat) : List UInt8 := [UInt8.ofNat (n / 16777216), UInt8.ofNat (n / 65536), UInt8.ofNat (n / 256), UInt8.ofNat n]
def frameL (l : List UInt8) : List UInt8 := lenB l.length ++ l
def framesL (ls : List (List UInt8)) : List UInt8 := (ls.map frameL).flatten
theorem framesL_nil : framesL [] = [] := rfl
theorem framesL_append (a b : List (List UInt8)) : framesL (a ++ b) = framesL a ++ framesL b := by simp [framesL]
theorem framesL_one (a : List UInt8) : framesL [a] = frameL a := by simp [framesL]
theorem framesL_cons (a : List UInt8) (b : List (List UInt8)) : framesL (a :: b) = frameL a ++ framesL b := by simp [framesL]
end Mvp
namespace Go.Proofs.YtgkakddldobpkaaDoor
open Go.RowKit Go.Mv Mvp
attribute [local irreducible] permS permP toB turnsK squeeze permN permB spongeB

theorem ofNat_int (k : Nat) : ((UInt8.ofNat k).toNat : Int) = ((k % 256 : Nat) : Int) := by simp
theorem lenB_0 (n : Nat) (h : n ≤ 1000000) : Value.int .u8 ((n : Int) / 16777216) = .int .u8 ((UInt8.ofNat (n / 16777216)).toNat : Int) := by
  rw [ofNat_int]; congr 1; omega
theorem lenB_1 (n : Nat) (h : n ≤ 1000000) : Value.int .u8 ((n : Int) / 65536) = .int .u8 ((UInt8.ofNat (n / 65536)).toNat : Int) := by
  rw [ofNat_int]; congr 1; omega
theorem lenB_2 (n : Nat) : Value.int .u8 ((n : Int) / 256 % 256) = .int .u8 ((UInt8.ofNat (n / 256)).toNat : Int) := by
  rw [ofNat_int]; rfl
theorem lenB_3 (n : Nat) : Value.int .u8 ((n : Int) % 256) = .int .u8 ((UInt8.ofNat n).toNat : Int) := by
  rw [ofNat_int]; rfl
theorem lenB_len (n : Nat) : (lenB n).length = 4 := rfl

set_option maxHeartbeats 2000000 in
set_option maxRecDepth 1000000 in
theorem frame_any (g : Nat) (st : List UInt64 × Nat) (b : Option Addr) (n c : Nat) (l : List UInt8) (w : World) (hS : st.1.length = 25) (hat : st.2 < 136) (hn : n ≤ 1000000) (hnc : n ≤ c) (hg : Has w g (abs st) 79) (hb : RdB w b n l) (hbg : Off (One g) b) :
    Calls Tryd.prog 44 #[.pointer (some ⟨g, 0, none⟩), .slice b n c] w fun e w' => e = .returned (.tuple #[]) ∧ Has w' g (abs (feed st (frameL l))) 79 ∧ Fr (One g) w w' := by
  go_enter Tryd.func44, Tryd.ntmps44
  go_wp2_with (with_reducible refine wl_stop (o := ⟨some 19, _, _, _, _, _⟩) ?_)
  refine wl_four rfl rfl Tryd.underlying26 info_u8 _ _ _ _ (lenB_0 n hn) (lenB_1 n hn) (lenB_2 n) (lenB_3 n) ?_
  intro w1 hh1 hf1 hz1
  have hh1' : Has w1 w.heap.size (bs (lenB n)) 5 := hh1
  have hg1 := hg.keep hf1 id
  have hb1 := hb.still hf1
  have hgl := hg.lt
  generalize w.heap.size = g4 at *
  clear hg hb hh1
  have hrd : RdB w1 (some ⟨g4, 0, none⟩) 4 (lenB n) := by
    have := Rd.whole hh1'
    rwa [length_bs, lenB_len] at this
  go_wp2_with fail
  refine (write_any g st _ 4 4 (lenB n) w1 hS hat (by omega) (by omega) hg1 hrd (fun x hx (e : x.block = g) => by simp only [Option.some.injEq] at hx; subst hx; simp at e; omega)).mono ?_
  rintro e w2 ⟨rfl, hg2, hf2⟩
  have hb2 := hb1.keep hf2 hbg
  have hfr2 : Fr (One g) w w2 := ((Fr.refl (One g) w).same hf1).trans hf2 (fun _ _ t => t)
  clear hf1 hz1 hh1' hg1 hb1 hrd hf2
  go_wp2_with fail
  refine (write_any g (feed st (lenB n)) b n c l w2 (by rw [feed_len, hS]) (feed_lt _ _ hat) hn hnc hg2 hb2 hbg).mono ?_
  rintro e w3 ⟨rfl, hg3, hf3⟩
  go_wp2_with fail
  go_end0
  rw [← feed_append, ← hb2.len] at hg3
  exact ⟨rfl, hg3, hfr2.trans hf3 (fun _ _ t => t)⟩

set_option maxHeartbeats 2000000 in
set_option maxRecDepth 1000000 in
theorem frameR_any (s : ByteArray) (w : World) (hs : s.size ≤ 1000000) :
    Calls Tryd.prog 40 #[.string s] w fun r w' => r = .returned (.string (mkS (frameL s.data.toList))) ∧ Fr Nob w w' := by
  go_enter Tryd.func40, Tryd.ntmps40
  go_wp2_with (with_reducible refine wl_stop (o := ⟨some 17, _, _, _, _, _⟩) ?_)
  refine wl_four rfl rfl Tryd.underlying26 info_u8 _ _ _ _ (lenB_0 s.size hs) (lenB_1 s.size hs) (lenB_2 s.size) (lenB_3 s.size) ?_
  intro w1 hh1 hf1 hz1
  have hrd : RdB w1 (some ⟨w.heap.size, 0, none⟩) 4 (lenB s.size) := Rd.whole hh1
  have e1 := run_string hrd 4 Tryd.underlying26 Tryd.underlying5 Tryd.underlying9
  have hcat : ¬ 9223372036854775807 < (mkS (lenB s.size)).size + s.size := by rw [mkS_size, lenB_len]; omega
  go_wp2_with fail
  go_ret
  refine ⟨?_, hf1⟩
  have : mkS (lenB s.size) ++ s = mkS (frameL s.data.toList) := by
    rw [frameL, ← mkS_append, mkS_data]; rfl
  exact congrArg (fun q => Ending.returned (.string q)) this
end Go.Proofs.YtgkakddldobpkaaDoor

/- Hash, stream and Stream of the sponge -/
namespace Go.Proofs.YtgkakddldobpkaaDoor
open Go.RowKit Go.Mv Mvp
attribute [local irreducible] permS permP toB turnsK squeeze permN

theorem built_abs : Tryd.prog.built 79 [] = some (abs (zeros25, 0)).toArray := by unfold abs; kernel_rfl

theorem feed_ok (l : List UInt8) : (feed (zeros25, 0) l).1.length = 25 ∧ (feed (zeros25, 0) l).2 < 136 := ⟨by rw [feed_len]; rfl, feed_lt _ _ (by decide)⟩
end Go.Proofs.YtgkakddldobpkaaDoor

/- sponge.tag and sponge.Tag -/
namespace Go.Proofs.YtgkakddldobpkaaDoor
open Go.RowKit Go.Mv Mvp
attribute [local irreducible] permS permP toB turnsK squeeze permN permB spongeB

/-- the value reads as these bytes, from an old block -/
def PartIs (w : World) (v : Value) (l : List UInt8) : Prop := ∃ a n c, v = .slice a n c ∧ n ≤ c ∧ n ≤ 1000000 ∧ RdB w a n l ∧ Old w a
theorem PartIs.still {w w' : World} {v : Value} {l : List UInt8} (h : PartIs w v l) (hf : Fr Nob w w') : PartIs w' v l := by
  obtain ⟨a, n, c, h1, h2, h3, h4, h5⟩ := h
  exact ⟨a, n, c, h1, h2, h3, h4.still hf, h5.grow hf.size⟩
/-- a slice of slices of bytes -/
def PartsAt (w : World) (a : Option Addr) (ls : List (List UInt8)) : Prop := ∃ vs : List Value, Rd w a ls.length vs ∧ ∀ (i : Nat) (v : Value), vs[i]? = some v → ∃ l : List UInt8, ls[i]? = some l ∧ PartIs w v l
theorem PartsAt.get {w : World} {a : Option Addr} {ls : List (List UInt8)} (h : PartsAt w a ls) {j : Nat} (hj : j < ls.length) : ∃ b o v, a = some ⟨b, o, none⟩ ∧ w.cell? ⟨b, o + j, none⟩ = some v ∧ PartIs w v (ls.getD j []) := by
  obtain ⟨vs, hr, hv⟩ := h
  obtain ⟨b, o, rfl, hat⟩ := hr.at (by omega)
  have hl := hr.len
  obtain ⟨l, h1, h2⟩ := hv j (vs[j]'(by omega)) (List.getElem?_eq_getElem (by omega))
  refine ⟨b, o, vs[j]'(by omega), rfl, hat j _ (List.getElem?_eq_getElem (by omega)), ?_⟩
  rwa [List.getD_eq_getElem?_getD, h1]
theorem PartsAt.still {w w' : World} {a : Option Addr} {ls : List (List UInt8)} (h : PartsAt w a ls) (hf : Fr Nob w w') : PartsAt w' a ls := by
  obtain ⟨vs, hr, hv⟩ := h
  refine ⟨vs, hr.still hf, fun i v hi => ?_⟩
  obtain ⟨l, h1, h2⟩ := hv i v hi
  exact ⟨l, h1, h2.still hf⟩
/-- what a tag is made of -/
def tagText (s : List UInt8) (ls : List (List UInt8)) : List UInt8 := framesL (s :: ls)
def tagL (s : List UInt8) (ls : List (List UInt8)) : List UInt8 := spongeB (tagText s ls) 6 32

theorem z25 : ((zeros25, 0) : List UInt64 × Nat).1.length = 25 := rfl
attribute [local irreducible] feed frameL framesL abs zeros25
set_option maxHeartbeats 400000 in
set_option maxRecDepth 1000000 in
theorem tag_any (s : ByteArray) (a : Option Addr) (c : Nat) (ls : List (List UInt8)) (w : World) (hs : s.size ≤ 1000000) (hm : ls.length ≤ 1000000) (hb : PartsAt w a ls) :
    Calls Tryd.prog 42 #[.string s, .slice a ls.length c] w fun r w' => ∃ v, r = .returned v ∧ Own w' w.heap.size 5 1 v 32 (bs (tagL s.data.toList ls)) ∧ Fr Nob w w' := by
  go_enter Tryd.func42, Tryd.ntmps42
  go_wp2_with (with_reducible refine wl_stop (o := ⟨some 8, _, _, _, _, _⟩) ?_)
  refine wl_build0 rfl rfl _ built_abs ?_
  refine wl_box rfl rfl rfl (abs (zeros25, 0)) rfl ?_
  intro w1 hg1 hf1 hz1
  clear hz1
  have hst1 := z25
  have hst2 : ((zeros25, 0) : List UInt64 × Nat).2 < 136 := Nat.zero_lt_succ _
  obtain ⟨st0, hst0⟩ : ∃ st0 : List UInt64 × Nat, st0 = (zeros25, 0) := ⟨_, rfl⟩
  rw [← hst0] at hg1 hst1 hst2
  have HST0 := Lib.hid hst0; clear hst0
  generalize hgw : w.heap.size = g at *
  have HG := Lib.hid hgw; clear hgw
  go_wp2_with (with_reducible refine wl_stop (o := ⟨some 12, _, _, _, _, _⟩) ?_)
  refine wl_bytes rfl rfl Tryd.underlying9 Tryd.underlying26 Tryd.underlying5 rfl (by unfold maxLen; omega) w1.heap.size (Nat.le_refl _) ?_
  intro cap w2 hown2 hf2 hz2
  have hg2 := hg1.keep hf2 id
  have hfr2 := hf1.then hf2
  have hgl := hg1.lt
  obtain ⟨a2, c2, hv2, hc2, hrd2, -⟩ := hown2.form
  cases hv2
  rw [Nat.mul_one] at hrd2
  go_wp2_with fail
  have hoff0 : Off (One g) (some (⟨w1.heap.size, 0, none⟩ : Addr)) := fun x hx (e : x.block = g) => by
    cases hx
    exact absurd e (by show ¬ (w1.heap.size = g); omega)
  have hcall := frame_any g st0 (some ⟨w1.heap.size, 0, none⟩) s.size cap s.data.toList w2 hst1 hst2 hs hc2 hg2 hrd2 hoff0
  refine hcall.mono ?_
  rintro e w3 ⟨rfl, hg3, hf3⟩
  have hfr3 : Fr Nob w w3 := hfr2.new hf3 (by rw [HG.out]; exact Nat.le_refl _)
  clear hg1 hf1 hown2 hf2 hz2 hg2 hfr2 hrd2 hf3 hgl
  go_wp2_with fail
  go_loopw [16] (fun i wr => ∃ j : Nat, j ≤ ls.length ∧ i = .int .i64 (j : Int) ∧ Has wr g (abs (feed st0 (framesL (s.data.toList :: ls.take j)))) 79 ∧ Fr Nob w wr) (fun i _ => (ls.length - intOf i).toNat)
  case atStart => exact ⟨0, by omega, rfl, by rw [List.take_zero, framesL_one]; exact hg3, hfr3⟩
  case round =>
    obtain ⟨j, hj, rfl, hgj, hfj⟩ := hrel
    clear hg3 hfr3
    by_cases hlt : j < ls.length
    · have hltI : (j : Int) < (ls.length : Int) := by omega
      obtain ⟨b, o, v, rfl, hc, hp⟩ := (hb.still hfj).get hlt
      obtain ⟨b', o', v', hv', hc', hp'⟩ := hb.get hlt
      simp only [Option.some.injEq, Addr.mk.injEq] at hv'
      obtain ⟨rfl, rfl, -⟩ := hv'
      have hvv : v = v' := by
        have := hfj.cell id hc'
        rw [hc] at this; simpa using this
      subst hvv
      obtain ⟨ap, np, cp, rfl, hp1, hp2, hp3, hp4⟩ := hp'
      have hr3 := hp3.still hfj
      clear hp
      have hoff : Off (One g) ap := hp4.off (by rw [HG.out]; exact Nat.le_refl _)
      go_wp2_with fail
      have hSj : (feed st0 (framesL (s.data.toList :: ls.take j))).1.length = 25 := by rw [feed_len, hst1]
      have hkj := feed_lt (framesL (s.data.toList :: ls.take j)) st0 hst2
      refine (frame_any g (feed st0 (framesL (s.data.toList :: ls.take j))) ap np cp (ls.getD j []) wr hSj hkj hp2 hp1 hgj hr3 hoff).mono ?_
      rintro e w4 ⟨rfl, hg4, hf4⟩
      have hfr4 : Fr Nob w w4 := hfj.new hf4 (by rw [HG.out]; exact Nat.le_refl _)
      rw [← feed_append] at hg4
      have hfl : framesL (s.data.toList :: ls.take j) ++ frameL (ls.getD j []) = framesL (s.data.toList :: ls.take (j + 1)) := by
        rw [List.take_succ_eq_append_getElem hlt, ← List.cons_append, framesL_append, framesL_one, List.getD_eq_getElem?_getD, List.getElem?_eq_getElem hlt]; rfl
      rw [hfl] at hg4
      clear hSj hkj hr3 hgj hfj hf4 hfl
      go_wp2_with fail
      go_roundw
      case rel => exact ⟨j + 1, by omega, by go_num, hg4, hfr4⟩
      case measure => simp [intOf]; omega
    · have hge : ¬ ((j : Int) < (ls.length : Int)) := by omega
      have hjn : j = ls.length := by omega
      have hSj : (feed st0 (framesL (s.data.toList :: ls.take j))).1.length = 25 := by rw [feed_len, hst1]
      have hkj := feed_lt (framesL (s.data.toList :: ls.take j)) st0 hst2
      have hft : framesL (s.data.toList :: ls.take j) = tagText s.data.toList ls := by rw [hjn, List.take_length]; rfl
      rw [hft] at hgj hSj hkj
      generalize hst : feed st0 (tagText s.data.toList ls) = st at *
      have HST := Lib.hid hst; clear hst
      have HJN := Lib.hid hjn; clear hjn
      clear hft
      go_wp2_with fail
      refine (out_any g st.1 st.2 6 32 wr hSj hkj (by omega) hgj).mono ?_
      rintro e w4 ⟨v, rfl, hown, hf4⟩
      go_wp2_with fail
      go_ret
      refine ⟨v, rfl, ?_, hfj.new hf4 (by rw [HG.out]; exact Nat.le_refl _)⟩
      have := hown.mono (base' := g) (by have := hgj.lt; omega)
      rw [HG.out]
      unfold tagL spongeB
      rw [← HST0.out, HST.out]
      exact this

set_option maxHeartbeats 1000000 in
theorem Tag_any (s : ByteArray) (a : Option Addr) (c : Nat) (ls : List (List UInt8)) (w : World) (hs : s.size ≤ 1000000) (hm : ls.length ≤ 1000000) (hb : PartsAt w a ls) :
    Calls Tryd.prog 38 #[.string s, .slice a ls.length c] w fun r w' => ∃ v, r = .returned v ∧ Own w' w.heap.size 5 1 v 32 (bs (tagL s.data.toList ls)) ∧ Fr Nob w w' := by
  go_enter Tryd.func38, Tryd.ntmps38
  go_wp2_with fail
  refine (tag_any s a c ls w hs hm hb).mono ?_
  rintro e w4 ⟨v, rfl, hown, hf4⟩
  go_wp2_with fail
  go_ret
  exact ⟨v, rfl, hown, hf4⟩
end Go.Proofs.YtgkakddldobpkaaDoor

/- mintvaultlaw1.SpongeTurns: the walk of the law -/
namespace Go.Proofs.YtgkakddldobpkaaDoor
open Go.RowKit Go.Mv Mvp

theorem lent_front (l : List UInt8) : (bs (lentL l)).take l.length = bs l := by
  rw [bs_take]; simp [lentL]
/-- the front of what was lent -/
theorem lent_read {w : World} {g : Nat} {T : TypeId} {s : ByteArray} (h : Has w g (bs (lentL s.data.toList)) T) : RdB w (some ⟨g, 0, none⟩) s.size s.data.toList := by
  have := Rd.ofHas h 0 (n := s.size) (by rw [length_bs, lentL_len, size_list]; omega)
  rw [List.drop_zero, ← size_list s, lent_front] at this
  rw [← size_list s]; exact this
theorem lent_all {w : World} {g : Nat} {T : TypeId} {s : ByteArray} (h : Has w g (bs (lentL s.data.toList)) T) : RdB w (some ⟨g, 0, none⟩) (s.size + 160) (lentL s.data.toList) := by
  have := Rd.whole h
  rwa [length_bs, lentL_len, size_list] at this
theorem cutAt_zero (g c : Nat) : cutAt (some ⟨g, 0, none⟩) 0 c = some ⟨g, 0, none⟩ := by
  unfold cutAt; split
  · rfl
  · simp [addr_add]

end Go.Proofs.YtgkakddldobpkaaDoor

/- The reference's Hash and Stream; the law SpongeHashes -/
namespace Go.Proofs.YtgkakddldobpkaaDoor
open Go.RowKit Go.Mv Mvp
attribute [local irreducible] permS permP toB turnsK squeeze permN permB spongeB

set_option maxHeartbeats 1000000 in
theorem hashR_any (s : ByteArray) (w : World) (hs : s.size ≤ 1000000) :
    Calls Tryd.prog 41 #[.string s] w fun r w' => r = .returned (.string (mkS (spongeB s.data.toList 6 32))) ∧ Fr Nob w w' := by
  go_enter Tryd.func41, Tryd.ntmps41
  go_wp2_with fail
  refine (spongeR_any s 6 32 w hs (by omega)).mono ?_
  rintro e w3 ⟨rfl, hf3⟩
  go_wp2_with fail
  go_ret
  exact ⟨rfl, hf3⟩
theorem own_rd {w : World} {base : Nat} {T : TypeId} {v : Value} {n : Nat} {l : List UInt8} (h : Own w base T 1 v n (bs l)) : ∃ a c, v = .slice a n c ∧ RdB w a n l := by
  obtain ⟨a, c, hv, _, hr, _⟩ := h.form
  rw [Nat.mul_one] at hr
  exact ⟨a, c, hv, hr⟩
end Go.Proofs.YtgkakddldobpkaaDoor

/- Arguments that were handed in, opened into the words of Mem. -/
namespace Go.Mv
open Go.RowKit Go.ChangeShapes Go.WideShapes

/-- strings as values -/
def ss (l : List (List UInt8)) : List Value := l.map fun x => .string (mkS x)
theorem ss_len (l : List (List UInt8)) : (ss l).length = l.length := by simp [ss]
theorem ss_get (l : List (List UInt8)) (i : Nat) (hi : i < l.length) : (ss l)[i]? = some (.string (mkS (l.getD i []))) := by
  simp [ss, List.getD_eq_getElem?_getD, hi]

section
variable {H : Type} {enc : TypeId × Value → H} {P : Program} {w : World} {base : Nat} {held : Bool} {spare : Nat → Bool}
theorem weightsAll_mem {e : TypeId} : ∀ {ds : List (DataW H)} {d : DataW H}, d ∈ ds → ∀ n ∈ d.weights P e, n ∈ DataW.weightsAll P e ds
  | [], _, h, _, _ => by simp at h
  | d0 :: ds, d, h, n, hn => by
    simp only [DataW.weightsAll, List.mem_append]
    rcases List.mem_cons.1 h with rfl | h
    · exact .inl hn
    · exact .inr (weightsAll_mem h n hn)
theorem reach_string {ts : List TypeId} {ds : List (DataW H)} (h : (DataW.weightsEach P ts ds).all (· ≤ reachBytes) = true) {j : Nat} {t : TypeId} {s : ByteArray} (ht : ts[j]? = some t) (hd : ds[j]? = some (.lit (.string s.data.toList))) : s.size ≤ 140737488351232 := by
  have := sized_string h ht hd
  have e : s.data.toList.length = s.size := by simp
  have hr : reachBytes = 140737488351232 := rfl
  omega

theorem i64_wf {n : Int} (h : (Lit.int .i64 n).wf = true) : -9223372036854775808 ≤ n ∧ n ≤ 9223372036854775807 := by
  simpa [Lit.wf, IntKind.min, IntKind.max, IntKind.signed, IntKind.bits] using h
/-- a slice of strings that came in -/
theorem open_ss {ts : List TypeId} {ds : List (DataW H)} {j : Nat} {t e : TypeId} {v : Value} {d : DataW H} {ps : List MemPlace} (ht : P.underlying t = some (.slice e)) (he : P.underlying e = some .string) (hc : P.cellsOf e = 1) (hby : P.bytesOf e = 16)
    (hv : Value.okWide P w .any base t v) (h : DataW.Trod enc P w 0 spare held t v d ps) (hz : (DataW.weightsEach P ts ds).all (· ≤ reachBytes) = true) (htj : ts[j]? = some t) (hdj : ds[j]? = some d) :
    ∃ a c ls, v = .slice a ls.length c ∧ Rd w a ls.length (ss ls) ∧ (∀ x ∈ ls, x.length ≤ 140737488351232) ∧ ls.length ≤ 9223372036854775807 ∧ ls.length * 16 ≤ 140737488351232 ∧ ls.length ≤ c := by
  obtain ⟨a0, len, cap, rfl⟩ := okWide_slice ht hv
  obtain ⟨fuel, hf⟩ := h
  have hr : reachBytes = 140737488351232 := rfl
  rcases open_strings ht he hc hf with ⟨hcs, hx⟩ | ⟨a, len', cap', sl, hcs, _, hl, hm, hzl, hx, hcell, hsz⟩
  · simp only [Value.cells] at hcs
    simp only [List.cons.injEq, and_true, Value.slice.injEq] at hcs
    obtain ⟨rfl, rfl, rfl⟩ := hcs
    exact ⟨none, 0, [], rfl, Rd.nil _ _, by simp, by simp, by simp, by simp⟩
  · simp only [Value.cells] at hcs
    simp only [List.cons.injEq, and_true, Value.slice.injEq] at hcs
    obtain ⟨rfl, rfl, rfl⟩ := hcs
    simp only [Prod.mk.injEq] at hx
    obtain ⟨rfl, -⟩ := hx
    have hlen : (sl.take len).length = len := by
      rw [List.length_take, hzl]; split <;> omega
    have hlsl : len ≤ sl.length := by rw [hzl]; split <;> omega
    have hW := sized_slice hz htj hdj ht
    rw [hby, strs, strs, List.length_map, List.length_map, hr] at hW
    refine ⟨some a, cap, (sl.take len).map fun s => s.data.toList, by rw [List.length_map, hlen], ⟨by simp [ss], ?_⟩, ?_, ?_, ?_, ?_⟩
    · rcases Nat.eq_zero_or_pos len with h0 | h0
      · exact .inl (by simp [hlen, h0])
      · right
        obtain ⟨b, o, spot⟩ := a
        have hspot : spot = none := by simpa [Addr.add] using World.cell?_spot (hcell 0 (by omega))
        subst hspot
        refine ⟨b, o, rfl, ?_⟩
        intro i v hv
        have hi : i < len := by
          rcases Nat.lt_or_ge i len with k | k
          · exact k
          · rw [List.getElem?_eq_none (by simp [ss]; omega)] at hv; cases hv
        have h1 := hcell i (by omega)
        rw [addr_add] at h1
        have h2 : (ss ((sl.take len).map fun s => s.data.toList))[i]? = some (.string (sl.getD i ByteArray.empty)) := by
          have : i < sl.length := by omega
          simp [ss, List.getElem?_take, hi, List.getD_eq_getElem?_getD, List.getElem?_eq_getElem this, mkS_data]
        rw [h2] at hv
        cases hv
        exact h1
    · intro x hx
      simp only [List.mem_map] at hx
      obtain ⟨s, hs, rfl⟩ := hx
      have hmem : (DataW.lit (.string s.data.toList) : DataW H) ∈ strs (H := H) (sl.take len) := by
        simp only [strs, List.mem_map]; exact ⟨s, hs, rfl⟩
      have hn : s.data.toList.length ∈ DataW.weightsEach P ts ds := by
        refine DataW.weights_mem_each htj hdj _ ?_
        simp only [DataW.weights, ht, List.mem_cons, List.mem_append]
        exact .inr (.inl (weightsAll_mem hmem _ (by simp [DataW.weights])))
      have := List.all_eq_true.1 hz _ hn
      rw [hr] at this
      simpa using this
    · simp only [maxLen] at hm; simp; omega
    · simp only [List.length_map]; omega
    · simp only [List.length_map]; omega
end
end Go.Mv

/- The reference's Tag -/
namespace Go.Proofs.YtgkakddldobpkaaDoor
open Go.RowKit Go.Mv Mvp
attribute [local irreducible] permS permP toB turnsK squeeze permN permB spongeB feed frameL framesL

theorem frameL_len (l : List UInt8) : (frameL l).length = 4 + l.length := by unfold frameL; simp [lenB_len]
def sumL (ls : List (List UInt8)) : Nat := (ls.map List.length).foldr (· + ·) 0
theorem sumL_append (a b : List (List UInt8)) : sumL (a ++ b) = sumL a + sumL b := by
  induction a with
  | nil => simp [sumL]
  | cons x a ih => simp only [sumL, List.cons_append, List.map_cons, List.foldr_cons] at *; omega
theorem sumL_one (a : List UInt8) : sumL [a] = a.length := by simp [sumL]
theorem framesL_len (ls : List (List UInt8)) : (framesL ls).length = 4 * ls.length + sumL ls := by
  induction ls with
  | nil => rw [framesL_nil]; rfl
  | cons a b ih => rw [framesL_cons, List.length_append, frameL_len, ih, List.length_cons]; simp only [sumL, List.map_cons, List.foldr_cons]; omega
theorem sumL_take (ls : List (List UInt8)) (j : Nat) : sumL (ls.take j) ≤ sumL ls := by
  have := sumL_append (ls.take j) (ls.drop j)
  rw [List.take_append_drop] at this; omega
theorem sumL_get (ls : List (List UInt8)) (j : Nat) (hj : j < ls.length) : (ls.getD j []).length ≤ sumL ls := by
  have h1 := sumL_append (ls.take j) (ls.drop j)
  rw [List.take_append_drop, List.drop_eq_getElem_cons hj] at h1
  have h2 : sumL (ls[j] :: ls.drop (j + 1)) = ls[j].length + sumL (ls.drop (j + 1)) := by simp only [sumL, List.map_cons, List.foldr_cons]
  have h3 : ls.getD j [] = ls[j] := by simp [List.getD_eq_getElem?_getD, hj]
  rw [h3]; omega

set_option maxHeartbeats 400000 in
set_option maxRecDepth 1000000 in
theorem tagR_any (s : ByteArray) (a : Option Addr) (c : Nat) (ls : List (List UInt8)) (w : World) (hs : s.size + sumL ls ≤ 100000) (hm : ls.length ≤ 1000) (hb : Rd w a ls.length (ss ls)) :
    Calls Tryd.prog 26 #[.string s, .slice a ls.length c] w fun r w' => r = .returned (.string (mkS (tagL s.data.toList ls))) ∧ Fr Nob w w' := by
  go_enter Tryd.func26, Tryd.ntmps26
  go_wp2_with fail
  refine (frameR_any s w (by omega)).mono ?_
  rintro e w1 ⟨rfl, hf1⟩
  have hsl : s.data.toList.length = s.size := size_list s
  go_wp2_with fail
  go_loopw [6, 5] (fun i q wr => ∃ j : Nat, j ≤ ls.length ∧ i = .int .i64 (j : Int) ∧ q = .string (mkS (framesL (s.data.toList :: ls.take j))) ∧ Fr Nob w wr) (fun i _ _ => (ls.length - intOf i).toNat)
  case atStart => exact ⟨0, by omega, rfl, by rw [List.take_zero, framesL_one], hf1⟩
  case round =>
    obtain ⟨j, hj, rfl, rfl, hfj⟩ := hrel
    clear hf1
    have hql : (mkS (framesL (s.data.toList :: ls.take j))).size ≤ 200000 := by
      rw [mkS_size, framesL_len]
      have h1 := sumL_take ls j
      have h2 : sumL (s.data.toList :: ls.take j) = s.data.toList.length + sumL (ls.take j) := by simp [sumL]
      rw [h2, List.length_cons, List.length_take]; omega
    by_cases hlt : j < ls.length
    · have hltI : (j : Int) < (ls.length : Int) := by omega
      obtain ⟨b, o, rfl, hat⟩ := (hb.still hfj).at (by omega)
      have hc : wr.cell? ⟨b, o + j, none⟩ = some (.string (mkS (ls.getD j []))) := hat j _ (ss_get ls j hlt)
      have hxl := sumL_get ls j hlt
      have hfl : framesL (s.data.toList :: ls.take j) ++ frameL (ls.getD j []) = framesL (s.data.toList :: ls.take (j + 1)) := by
        rw [List.take_succ_eq_append_getElem hlt, ← List.cons_append, framesL_append, framesL_one, List.getD_eq_getElem?_getD, List.getElem?_eq_getElem hlt]; rfl
      have hcat : ¬ 9223372036854775807 < (mkS (framesL (s.data.toList :: ls.take j))).size + (mkS (frameL (ls.getD j []))).size := by
        rw [mkS_size (frameL _), frameL_len]; omega
      generalize hx : ls.getD j [] = x at *
      have HX := Lib.hid hx; clear hx
      have hfl2 := hfl
      have HFL := Lib.hid hfl2; clear hfl hfl2
      generalize hq : mkS (framesL (s.data.toList :: ls.take j)) = q at *
      have HQ := Lib.hid hq; clear hq
      have HQL := Lib.hid hql; clear hql
      have HSL := Lib.hid hsl; clear hsl
      clear hat
      go_wp2_with fail
      refine (frameR_any (mkS x) wr (by rw [mkS_size]; omega)).mono ?_
      rintro e w4 ⟨rfl, hf4⟩
      rw [mkS_toList]
      have hfr4 := hfj.then hf4
      clear hfj hf4
      go_wp2_with fail
      go_roundw
      case rel => exact ⟨j + 1, by omega, by go_num, by rw [← HQ.out, mkS_append, HFL.out], hfr4⟩
      case measure => simp [intOf]; omega
    · have hge : ¬ ((j : Int) < (ls.length : Int)) := by omega
      have hjn : j = ls.length := by omega
      have hft : framesL (s.data.toList :: ls.take j) = tagText s.data.toList ls := by rw [hjn, List.take_length]; rfl
      rw [hft] at hql ⊢
      have HJN := Lib.hid hjn; clear hjn
      clear hft
      go_wp2_with fail
      refine (hashR_any (mkS (tagText s.data.toList ls)) wr (by omega)).mono ?_
      rintro e w4 ⟨rfl, hf4⟩
      rw [mkS_toList]
      go_wp2_with fail
      go_ret
      exact ⟨rfl, hfj.then hf4⟩
end Go.Proofs.YtgkakddldobpkaaDoor

/- One-cell literals of any kind; owned slices and other blocks. -/
namespace Go.Mv
open Go.RowKit
variable {P : Program}
/-- one cell in a row -/
theorem wl_one1 {w : World} {ops : Array Oper} {rest : List Oper} {o : Oper} {a : Act} {Q : Exit → Act → World → Prop} {t e : TypeId} {y : Operand} (hgd : o.guard = none) (ho : o.op = .buildSlice t 1 #[(0, y)])
    (hu : P.underlying t = some (.slice e)) {z : Value} {by_ : Nat} (hi0 : (P.info? e).map (fun i => (i.zero, i.size, i.bytes)) = some (some z, 1, by_)) {v : Value} (hv : v.cells = #[v])
    (hy : a.eval y = v)
    (h : ∀ w', Has w' w.heap.size [v] e → Fr Nob w w' → w'.heap.size = w.heap.size + 1 → wpList P ops Q rest (a.put o.dst (.slice (some ⟨w.heap.size, 0, none⟩) 1 1)) w') : wpList P ops Q (o :: rest) a w := by
  obtain ⟨i, hi, hz⟩ : ∃ i, P.info? e = some i ∧ (i.zero, i.size, i.bytes) = (some z, 1, by_) := by simpa using hi0
  simp only [Prod.mk.injEq] at hz
  obtain ⟨hz, hsz, hby⟩ := hz
  have hp : ((#[(0, y)] : Array (Nat × Operand)).map fun (i, x) => (i, a.eval x)).toList = [(0, v)] := by simp [hy]
  have hf : Instr.fill (fun j => some (j * i.size, i.size)) ((Array.range (1 * i.size)).map (z.cells[· % z.cells.size]!)) ((#[(0, y)] : Array (Nat × Operand)).map fun (i, x) => (i, a.eval x)).toList = some [v].toArray := by
    rw [hp, hsz]
    exact Great.fill_flat [v] _ (fun u hu => by simp at hu; subst hu; exact hv) (by simp)
  exact wpList_buildSlice hgd t e 1 _ ho _ i _ hu hi hz (by rw [hsz]; decide) (by rw [hsz]; decide) hf (h _ (Has.new w [v].toArray e) ((Fr.refl _ w).alloc _) (by simp))
/-- a block of another type is not the slice's own -/
theorem Own.ne {w : World} {base sz n g : Nat} {T T' : TypeId} {v : Value} {L L' : List Value} (h : Own w base T sz v n L) (hg : Has w g L' T') (hT : T ≠ T') : ¬ OwnB v g := by
  intro hv
  obtain ⟨_, ⟨rfl, _⟩ | ⟨g', o, cap, B, rfl, _, hg', _⟩⟩ := h
  · cases hv
  · have : g' = g := by simpa [OwnB, Value.ownBlock] using hv
    subst this
    obtain ⟨_, _, h1, _⟩ := hg
    obtain ⟨_, _, h2, _⟩ := hg'
    rw [h1] at h2
    simp at h2
    exact hT h2.2.1.symm
end Go.Mv

/- Literals of n one-cell elements; loads and stores of structs by value. -/
namespace Go.Mv
open Go.RowKit
variable {P : Program}
/-- n cells in a row -/
theorem wl_slit {w : World} {ops : Array Oper} {rest : List Oper} {o : Oper} {a : Act} {Q : Exit → Act → World → Prop} {t e : TypeId} {k : Nat} {parts : Array (Nat × Operand)} (hgd : o.guard = none) (ho : o.op = .buildSlice t k parts)
    (hu : P.underlying t = some (.slice e)) {z : Value} {by_ : Nat} (hi0 : (P.info? e).map (fun i => (i.zero, i.size, i.bytes)) = some (some z, 1, by_)) (vs : List Value) (hp : (parts.toList.map fun p => (p.1, a.eval p.2)) = (vs.zipIdx 0).map fun x => (x.2, x.1))
    (hv : ∀ v ∈ vs, v.cells = #[v]) (hk : vs.length = k) (hz : z.cells.size = 1)
    (h : ∀ w', Has w' w.heap.size vs e → Fr Nob w w' → w'.heap.size = w.heap.size + 1 → wpList P ops Q rest (a.put o.dst (.slice (some ⟨w.heap.size, 0, none⟩) k k)) w') (hk0 : 0 < k := by decide) (hk24 : k ≤ 16777216 := by decide) : wpList P ops Q (o :: rest) a w := by
  obtain ⟨i, hi, hz0⟩ : ∃ i, P.info? e = some i ∧ (i.zero, i.size, i.bytes) = (some z, 1, by_) := by simpa using hi0
  simp only [Prod.mk.injEq] at hz0
  obtain ⟨hz1, hsz, hby⟩ := hz0
  have hf : Instr.fill (fun j => some (j * i.size, i.size)) ((Array.range (k * i.size)).map (z.cells[· % z.cells.size]!)) (parts.map fun (i, x) => (i, a.eval x)).toList = some vs.toArray := by
    rw [show (parts.map fun (i, x) => (i, a.eval x)).toList = (parts.toList.map fun p => (p.1, a.eval p.2)) by simp, hp, hsz]
    exact Great.fill_flat vs _ hv (by simp [hk])
  exact wpList_buildSlice hgd t e k _ ho _ i _ hu hi hz1 (by rw [hsz]; omega) (by rw [hsz]; omega) hf (h _ (Has.new w vs.toArray e) ((Fr.refl _ w).alloc _) (by simp))

theorem wl_buildL {w : World} {ops : Array Oper} {rest : List Oper} {o : Oper} {a : Act} {Q : Exit → Act → World → Prop} {t : TypeId} {parts : Array (Nat × Operand)} (hgd : o.guard = none) (ho : o.op = .build t parts) (cells : Array Value)
    (hb : P.built t (parts.toList.map fun p => (p.1, a.eval p.2)) = some cells) (h : wpList P ops Q rest (a.put o.dst (.agg cells)) w) : wpList P ops Q (o :: rest) a w :=
  wl_build hgd ho cells (by rw [show (parts.map fun (i, x) => (i, a.eval x)).toList = (parts.toList.map fun p => (p.1, a.eval p.2)) by simp]; exact hb) h
/-- a whole row (array or struct) is read, out of cells -/
theorem wl_loadR {w : World} {ops : Array Oper} {rest : List Oper} {o : Oper} {a : Act} {Q : Exit → Act → World → Prop} {ty : TypeId} {x : Operand} (hgd : o.guard = none) (ho : o.op = .load ty x) {d : TypeDesc} (hu : P.underlying ty = some d) (hd : d.isRow = true) {g p : Nat} (hx : a.eval x = .pointer (some ⟨g, p, none⟩))
    {cs : List Value} (hg : At w g p cs) (hi : (P.info? ty).map (·.size) = some cs.length)
    (h : wpList P ops Q rest (a.put o.dst (.agg cs.toArray)) w) : wpList P ops Q (o :: rest) a w :=
  wpList_load_mid hgd ty x ho g p hx cs d (fun j v hv => hg j v hv) hu hd hi h
end Go.Mv

/- A log of the sponge, the reference's: NewLog, Say, Ask, Clone. -/
namespace Go.Proofs.YtgkakddldobpkaaDoor
open Go.RowKit Go.Mv Mvp
attribute [local irreducible] permS permP toB turnsK squeeze permN permB spongeB feed frameL framesL tagL

theorem info_sl : (Tryd.prog.info? 26).map (fun i => (i.zero, i.size, i.bytes)) = some (some (.slice none 0 0), 1, 24) := by kernel_rfl
theorem info_str : (Tryd.prog.info? 9).map (fun i => (i.zero, i.size, i.bytes)) = some (some (.string ByteArray.empty), 1, 16) := by kernel_rfl

/-- parts by their values -/
def Parts (w : World) : List Value → List (List UInt8) → Prop
  | [], [] => True
  | v :: vs, l :: ls => PartIs w v l ∧ Parts w vs ls
  | _, _ => False
theorem Parts.len {w : World} : ∀ {vs : List Value} {ls : List (List UInt8)}, Parts w vs ls → vs.length = ls.length
  | [], [], _ => rfl
  | _ :: _, _ :: _, h => by simp only [List.length_cons]; rw [Parts.len h.2]
  | [], _ :: _, h => h.elim
  | _ :: _, [], h => h.elim
theorem Parts.get {w : World} : ∀ {vs : List Value} {ls : List (List UInt8)}, Parts w vs ls → ∀ (i : Nat) (v : Value), vs[i]? = some v → ∃ l : List UInt8, ls[i]? = some l ∧ PartIs w v l
  | [], [], _, i, v, h => by simp at h
  | x :: vs, l :: ls, h, 0, v, hv => by simp only [List.getElem?_cons_zero, Option.some.injEq] at hv; subst hv; exact ⟨l, rfl, h.1⟩
  | x :: vs, l :: ls, h, i + 1, v, hv => by simp only [List.getElem?_cons_succ] at hv ⊢; exact Parts.get h.2 i v hv
  | [], _ :: _, h, _, _, _ => h.elim
  | _ :: _, [], h, _, _, _ => h.elim
theorem Parts.at {w : World} {g : Nat} {T : TypeId} {vs : List Value} {ls : List (List UInt8)} (h : Parts w vs ls) (hg : Has w g vs T) : PartsAt w (some ⟨g, 0, none⟩) ls :=
  ⟨vs, by have := Rd.whole hg; rwa [h.len] at this, h.get⟩
theorem Parts.cells {w : World} : ∀ {vs : List Value} {ls : List (List UInt8)}, Parts w vs ls → ∀ v ∈ vs, v.cells = #[v]
  | [], _, _, v, h => by simp at h
  | x :: vs, l :: ls, h, v, hv => by
    rcases List.mem_cons.1 hv with rfl | hv
    · obtain ⟨a, n, c, rfl, _⟩ := h.1; rfl
    · exact Parts.cells h.2 v hv
  | _ :: _, [], h, _, _ => h.elim
theorem own_part {w : World} {base n : Nat} {T : TypeId} {v : Value} {l : List UInt8} (h : Own w base T 1 v n (bs l)) (hn : n ≤ 1000000) : PartIs w v l := by
  have h0 := h
  obtain ⟨a, c, rfl, hc, hr, -⟩ := h.form
  rw [Nat.mul_one] at hr
  refine ⟨a, n, c, rfl, hc, hn, hr, ?_⟩
  intro x hx
  exact (h0.lt (by rw [hx]; rfl)).2

def kLog : List UInt8 := [108, 111, 103]
def kSay : List UInt8 := [115, 97, 121]
def kAsk : List UInt8 := [97, 115, 107]
def kAsked : List UInt8 := [97, 115, 107, 101, 100]
theorem kLog_eq : (⟨#[108, 111, 103]⟩ : ByteArray) = mkS kLog := rfl
theorem kSay_eq : (⟨#[115, 97, 121]⟩ : ByteArray) = mkS kSay := rfl
theorem kAsk_eq : (⟨#[97, 115, 107]⟩ : ByteArray) = mkS kAsk := rfl
theorem kAsked_eq : (⟨#[97, 115, 107, 101, 100]⟩ : ByteArray) = mkS kAsked := rfl

theorem tagL_len (k : List UInt8) (ls : List (List UInt8)) : (tagL k ls).length = 32 := by unfold tagL; exact spongeB_len _ _ _
/-- tag of a literal list -/
theorem tag_of (k : List UInt8) (hk : k.length ≤ 100) (g c : Nat) (vs : List Value) (ls : List (List UInt8)) (w : World) (hh : Has w g vs 26) (hp : Parts w vs ls) (hm : ls.length ≤ 1000000) :
    Calls Tryd.prog 42 #[.string (mkS k), .slice (some ⟨g, 0, none⟩) ls.length c] w fun r w' => ∃ v, r = .returned v ∧ Own w' w.heap.size 5 1 v 32 (bs (tagL k ls)) ∧ Fr Nob w w' := by
  have := tag_any (mkS k) (some ⟨g, 0, none⟩) c ls w (by rw [mkS_size]; omega) hm (hp.at hh)
  rwa [mkS_toList] at this
theorem tagR_of (k : List UInt8) (g c : Nat) (ls : List (List UInt8)) (w : World) (hh : Has w g (ss ls) 9) (hs : k.length + sumL ls ≤ 100000) (hm : ls.length ≤ 1000) :
    Calls Tryd.prog 26 #[.string (mkS k), .slice (some ⟨g, 0, none⟩) ls.length c] w fun r w' => r = .returned (.string (mkS (tagL k ls))) ∧ Fr Nob w w' := by
  have hr := Rd.whole hh
  rw [ss_len] at hr
  have := tagR_any (mkS k) (some ⟨g, 0, none⟩) c ls w (by rw [mkS_size]; exact hs) hm hr
  rwa [mkS_toList] at this

theorem one_store {w w' : World} (h : Fr Nob w w') (g : Nat) (v : Value) : Fr (One g) w (w'.setCell ⟨g, 0, none⟩ v) := (h.mono (fun _ _ t => t.elim)).setCell g 0 none v (fun _ => rfl)

/-! The reference's -/
end Go.Proofs.YtgkakddldobpkaaDoor

/- The tree: node, leafHash, bytes.Equal, sized, lists, small; the reference's leaf, node, half, sized. -/
namespace Go.Proofs.YtgkakddldobpkaaDoor
open Go.RowKit Go.Mv Mvp Mvt
attribute [local irreducible] permS permP toB turnsK squeeze permN permB spongeB feed frameL framesL tagL

def kLeaf : List UInt8 := [108, 101, 97, 102]
def kNode : List UInt8 := [110, 111, 100, 101]
def kNone : List UInt8 := [110, 111, 110, 101]
theorem kLeaf_eq : (⟨#[108, 101, 97, 102]⟩ : ByteArray) = mkS kLeaf := rfl
theorem kNode_eq : (⟨#[110, 111, 100, 101]⟩ : ByteArray) = mkS kNode := rfl
def leafL (l : List UInt8) : List UInt8 := tagL kLeaf [l]
def nodeL (x y : List UInt8) : List UInt8 := tagL kNode [x, y]
theorem leafL_len (l : List UInt8) : (leafL l).length = 32 := tagL_len _ _
theorem nodeL_len (x y : List UInt8) : (nodeL x y).length = 32 := tagL_len _ _

theorem Tag_of (k : List UInt8) (hk : k.length ≤ 100) (g c : Nat) (vs : List Value) (ls : List (List UInt8)) (w : World) (hh : Has w g vs 26) (hp : Parts w vs ls) (hm : ls.length ≤ 1000000) :
    Calls Tryd.prog 38 #[.string (mkS k), .slice (some ⟨g, 0, none⟩) ls.length c] w fun r w' => ∃ v, r = .returned v ∧ Own w' w.heap.size 5 1 v 32 (bs (tagL k ls)) ∧ Fr Nob w w' := by
  have := Tag_any (mkS k) (some ⟨g, 0, none⟩) c ls w (by rw [mkS_size]; omega) hm (hp.at hh)
  rwa [mkS_toList] at this

set_option maxHeartbeats 400000 in
set_option maxRecDepth 1000000 in
theorem leafHash_any (a : Option Addr) (n c : Nat) (l : List UInt8) (w : World) (hb : PartIs w (.slice a n c) l) :
    Calls Tryd.prog 31 #[.slice a n c] w fun r w' => ∃ v, r = .returned v ∧ Own w' w.heap.size 5 1 v 32 (bs (leafL l)) ∧ Fr Nob w w' := by
  go_enter Tryd.func31, Tryd.ntmps31
  go_wp2_with (with_reducible refine wl_stop (o := ⟨some 4, _, _, _, _, _⟩) ?_)
  refine wl_slit rfl rfl Tryd.underlying24 info_sl [.slice a n c] rfl (by simp; rfl) rfl rfl ?_
  intro w2 hh2 hf2 hz2
  clear hz2
  have hp2 : Parts w2 [.slice a n c] [l] := ⟨hb.still hf2, trivial⟩
  have hb2 := hf2.size
  generalize hgw : w.heap.size = g0 at *
  have HG := Lib.hid hgw; clear hgw
  rw [kLeaf_eq]
  go_wp2_with fail
  refine (Tag_of kLeaf (by decide) _ _ _ _ w2 hh2 hp2 (by simp)).mono ?_
  rintro e w3 ⟨v3, rfl, hown3, hf3⟩
  go_wp2_with fail
  go_ret
  rw [HG.out]
  exact ⟨_, rfl, hown3.mono hb2, hf2.then hf3⟩

set_option maxHeartbeats 400000 in
set_option maxRecDepth 1000000 in
theorem node_any (a : Option Addr) (n c : Nat) (l : List UInt8) (a' : Option Addr) (n' c' : Nat) (l' : List UInt8) (w : World) (hb : PartIs w (.slice a n c) l) (hb' : PartIs w (.slice a' n' c') l') :
    Calls Tryd.prog 33 #[.slice a n c, .slice a' n' c'] w fun r w' => ∃ v, r = .returned v ∧ Own w' w.heap.size 5 1 v 32 (bs (nodeL l l')) ∧ Fr Nob w w' := by
  go_enter Tryd.func33, Tryd.ntmps33
  go_wp2_with (with_reducible refine wl_stop (o := ⟨some 7, _, _, _, _, _⟩) ?_)
  refine wl_slit rfl rfl Tryd.underlying24 info_sl [.slice a n c, .slice a' n' c'] rfl (by simp; exact ⟨rfl, rfl⟩) rfl rfl ?_
  intro w2 hh2 hf2 hz2
  clear hz2
  have hp2 : Parts w2 [.slice a n c, .slice a' n' c'] [l, l'] := ⟨hb.still hf2, hb'.still hf2, trivial⟩
  have hb2 := hf2.size
  generalize hgw : w.heap.size = g0 at *
  have HG := Lib.hid hgw; clear hgw
  rw [kNode_eq]
  go_wp2_with fail
  refine (Tag_of kNode (by decide) _ _ _ _ w2 hh2 hp2 (by simp)).mono ?_
  rintro e w3 ⟨v3, rfl, hown3, hf3⟩
  go_wp2_with fail
  go_ret
  rw [HG.out]
  exact ⟨_, rfl, hown3.mono hb2, hf2.then hf3⟩

set_option maxHeartbeats 400000 in
set_option maxRecDepth 1000000 in
theorem leafR_any (l : List UInt8) (w : World) (hl : l.length ≤ 90000) :
    Calls Tryd.prog 27 #[.string (mkS l)] w fun r w' => r = .returned (.string (mkS (leafL l))) ∧ Fr Nob w w' := by
  go_enter Tryd.func27, Tryd.ntmps27
  go_wp2_with (with_reducible refine wl_stop (o := ⟨some 4, _, _, _, _, _⟩) ?_)
  refine wl_slit rfl rfl Tryd.underlying22 info_str (ss [l]) rfl (by simp [ss]; rfl) rfl rfl ?_
  intro w2 hh2 hf2 hz2
  clear hz2
  generalize w.heap.size = g0 at *
  rw [kLeaf_eq]
  go_wp2_with fail
  refine (tagR_of kLeaf _ _ _ w2 hh2 (by simp [sumL, kLeaf]; omega) (by simp)).mono ?_
  rintro e w3 ⟨rfl, hf3⟩
  go_wp2_with fail
  go_ret
  exact ⟨rfl, hf2.then hf3⟩

set_option maxHeartbeats 400000 in
set_option maxRecDepth 1000000 in
theorem nodeR_any (x y : List UInt8) (w : World) (hl : x.length + y.length ≤ 90000) :
    Calls Tryd.prog 29 #[.string (mkS x), .string (mkS y)] w fun r w' => r = .returned (.string (mkS (nodeL x y))) ∧ Fr Nob w w' := by
  go_enter Tryd.func29, Tryd.ntmps29
  go_wp2_with (with_reducible refine wl_stop (o := ⟨some 7, _, _, _, _, _⟩) ?_)
  refine wl_slit rfl rfl Tryd.underlying22 info_str (ss [x, y]) rfl (by simp [ss]; exact ⟨rfl, rfl⟩) rfl rfl ?_
  intro w2 hh2 hf2 hz2
  clear hz2
  generalize w.heap.size = g0 at *
  rw [kNode_eq]
  go_wp2_with fail
  refine (tagR_of kNode _ _ _ w2 hh2 (by simp [sumL, kNode]; omega) (by simp)).mono ?_
  rintro e w3 ⟨rfl, hf3⟩
  go_wp2_with fail
  go_ret
  exact ⟨rfl, hf2.then hf3⟩

set_option maxRecDepth 1000000 in
theorem equal_any (a : Option Addr) (n c : Nat) (l : List UInt8) (a' : Option Addr) (n' c' : Nat) (l' : List UInt8) (w : World) (hb : RdB w a n l) (hb' : RdB w a' n' l') :
    Calls Tryd.prog 35 #[.slice a n c, .slice a' n' c'] w fun r w' => r = .returned (.bool (decide (l = l'))) ∧ w = w' := by
  have x1 := run_string hb c Tryd.underlying26 Tryd.underlying5 Tryd.underlying9
  have x2 := run_string hb' c' Tryd.underlying26 Tryd.underlying5 Tryd.underlying9
  go_enter Tryd.func35, Tryd.ntmps35
  go_wp2_with fail
  go_ret
  exact ⟨ret_bool (beq_mkS _ _), rfl⟩

/-- each has 32 bytes -/
def sz32 (ls : List (List UInt8)) : Bool := ls.all fun l => l.length == 32
theorem sz32_take (ls : List (List UInt8)) (j : Nat) (hj : j < ls.length) : sz32 (ls.take (j + 1)) = (sz32 (ls.take j) && ((ls.getD j []).length == 32)) := by
  unfold sz32
  rw [List.take_succ_eq_append_getElem hj, List.all_append]
  simp [List.getD_eq_getElem?_getD, hj]
theorem sz32_not (ls : List (List UInt8)) (j : Nat) (hj : j < ls.length) (h : (ls.getD j []).length ≠ 32) : sz32 ls = false := by
  unfold sz32
  rw [List.all_eq_false]
  exact ⟨ls[j], List.getElem_mem _, by simpa [List.getD_eq_getElem?_getD, hj] using h⟩
theorem sz32_get (ls : List (List UInt8)) (h : sz32 ls = true) (x : List UInt8) (hx : x ∈ ls) : x.length = 32 := by
  simpa using List.all_eq_true.1 h x hx

set_option maxHeartbeats 400000 in
set_option maxRecDepth 1000000 in
theorem sized_any (a : Option Addr) (c : Nat) (ls : List (List UInt8)) (w : World) (hm : ls.length ≤ 1000000) (hb : PartsAt w a ls) :
    Calls Tryd.prog 30 #[.slice a ls.length c] w fun r w' => r = .returned (.bool (sz32 ls)) ∧ w = w' := by
  go_enter Tryd.func30, Tryd.ntmps30
  go_wp2_with fail
  go_loop [7] (fun i => ∃ j : Nat, j ≤ ls.length ∧ i = .int .i64 (j : Int) ∧ sz32 (ls.take j) = true) (fun i => (ls.length - intOf i).toNat)
  case atStart => exact ⟨0, by omega, rfl, rfl⟩
  case round =>
    obtain ⟨j, hj, rfl, hs⟩ := hrel
    by_cases hlt : j < ls.length
    · have hltI : (j : Int) < (ls.length : Int) := by omega
      obtain ⟨b, o, v, rfl, hc, ap, np, cp, rfl, hp1, hp2, hp3, hp4⟩ := hb.get hlt
      have hl := hp3.len
      have hst := sz32_take ls j hlt
      have hsn := sz32_not ls j hlt
      have HST := Lib.hid hst; clear hst
      have HSN := Lib.hid hsn; clear hsn
      have HS := Lib.hid hs; clear hs
      have HL := Lib.hid hl; clear hl
      by_cases h32 : np = 32
      · subst h32
        go_wp2_with fail
        go_round
        case rel => exact ⟨j + 1, by omega, by go_num, by rw [HST.out, HS.out, HL.out]; rfl⟩
        case measure => simp [intOf]; omega
      · have h32I : ¬ (np : Int) = 32 := by omega
        go_wp2_with fail
        go_ret
        exact ⟨ret_bool (HSN.out (by rw [HL.out]; exact h32)).symm, rfl⟩
    · have hge : ¬ ((j : Int) < (ls.length : Int)) := by omega
      have HS := Lib.hid hs; clear hs
      go_wp2_with fail
      go_ret
      exact ⟨ret_bool (by have := HS.out; rw [List.take_of_length_le (by omega)] at this; exact this.symm), rfl⟩

set_option maxHeartbeats 400000 in
set_option maxRecDepth 1000000 in
theorem halfR_any (n : Nat) (w : World) (h2 : 2 ≤ n) (hn : n ≤ 1048576) :
    Calls Tryd.prog 28 #[.int .i64 (n : Int)] w fun r w' => r = .returned (.int .i64 (half n : Nat)) ∧ w = w' := by
  have hl := half_le n h2
  have hu := half_lt n h2
  have hh : half n = 2 ^ Nat.log2 (n - 1) := rfl
  have HH := Lib.hid hh; clear hh
  go_enter Tryd.func28, Tryd.ntmps28
  go_wp2_with fail
  go_loop [3] (fun i => ∃ j : Nat, j ≤ Nat.log2 (n - 1) ∧ i = .int .i64 ((2 ^ j : Nat) : Int)) (fun i => (n - intOf i).toNat)
  case atStart => exact ⟨0, by omega, rfl⟩
  case round =>
    obtain ⟨j, hj, rfl⟩ := hrel
    have hp : 2 ^ j ≤ half n := by rw [HH.out]; exact Nat.pow_le_pow_right (by decide) hj
    have hs : 2 ^ (j + 1) = 2 * 2 ^ j := by rw [Nat.pow_succ]; omega
    have hpos : 0 < 2 ^ j := Nat.two_pow_pos j
    have hjj : 2 * 2 ^ j < n → j + 1 ≤ Nat.log2 (n - 1) := fun h => by
      rw [Nat.le_log2 (by omega), hs]; omega
    have hge : ¬ 2 * 2 ^ j < n → 2 ^ j = half n := fun h => by
      have h1 : ¬ j + 1 ≤ Nat.log2 (n - 1) := by rw [Nat.le_log2 (by omega), hs]; omega
      rw [HH.out, show j = Nat.log2 (n - 1) by omega]
    have HS := Lib.hid hs; clear hs
    generalize hq : 2 ^ j = q at *
    have HQ := Lib.hid hq; clear hq
    by_cases hlt : 2 * q < n
    · have hltI : 2 * (q : Int) < (n : Int) := by omega
      have hk := hjj hlt
      clear hjj hge
      go_wp2_with fail
      go_round
      case rel => exact ⟨j + 1, hk, by rw [HS.out]; go_num⟩
      case measure => simp [intOf]; omega
    · have hltI : ¬ 2 * (q : Int) < (n : Int) := by omega
      have hk := hge hlt
      have HK := Lib.hid hk
      clear hjj hge hk
      go_wp2_with fail
      go_ret
      exact ⟨by rw [HK.out]; rfl, rfl⟩
end Go.Proofs.YtgkakddldobpkaaDoor

/- SpongeLogs: what stays of many logs, step by step. -/
namespace Go.Mv
open Go.RowKit
theorem Has.ne {w : World} {g g' : Nat} {L L' : List Value} {T T' : TypeId} (h : Has w g L T) (h' : Has w g' L' T') (hT : T ≠ T') : g ≠ g' := by
  rintro rfl
  obtain ⟨_, _, h1, _⟩ := h
  obtain ⟨_, _, h2, _⟩ := h'
  rw [h1] at h2
  simp at h2
  exact hT h2.2.1
theorem Own.ne2 {w : World} {base base' sz sz' n n' : Nat} {T T' : TypeId} {v v' : Value} {L L' : List Value} (h : Own w base T sz v n L) (h' : Own w base' T' sz' v' n' L') (hT : T ≠ T') (k : Nat) (hk : OwnB v k) : ¬ OwnB v' k := by
  obtain ⟨_, ⟨rfl, _⟩ | ⟨g, o, cap, B, rfl, _, hg, _⟩⟩ := h'
  · intro t; cases t
  · intro t
    have e : g = k := by simpa [OwnB, Value.ownBlock] using t
    subst e
    exact h.ne hg hT hk
end Go.Mv
namespace Go.Proofs.YtgkakddldobpkaaDoor
open Go.RowKit Go.Mv Mvp
attribute [local irreducible] permS permP toB turnsK squeeze permN permB spongeB feed frameL framesL tagL

abbrev Tri : Type := Nat × Nat × List UInt8
def kptr (T : List Tri) : List Value := T.map fun t => .pointer (some ⟨t.1, 0, none⟩)
def wptr (T : List Tri) : List Value := T.map fun t => .pointer (some ⟨t.2.1, 0, none⟩)

variable {w w' : World} {base ga gb : Nat} {sa sb : List UInt8} {T : List Tri} {vk vw : Value} {Lk Lw : List Value}
theorem nodup_ne {α : Type} {l : List α} (h : l.Nodup) {i j : Nat} {x y : α} (hi : l[i]? = some x) (hj : l[j]? = some y) (hne : i ≠ j) : x ≠ y := by
  intro e
  subst e
  have hi' := (List.getElem?_eq_some_iff.1 hi)
  have hj' := (List.getElem?_eq_some_iff.1 hj)
  obtain ⟨a, ha⟩ := hi'
  obtain ⟨b, hb⟩ := hj'
  rcases Nat.lt_or_gt_of_ne hne with k | k
  · exact (List.pairwise_iff_getElem.1 h) i j a b k (ha.trans hb.symm)
  · exact (List.pairwise_iff_getElem.1 h) j i b a k (hb.trans ha.symm)
end Go.Proofs.YtgkakddldobpkaaDoor

/- mintvaultlaw8.lists, small: lists of strings as lists of bytes. -/
namespace Go.Proofs.YtgkakddldobpkaaDoor
open Go.RowKit Go.Mv Mvp Mvt
attribute [local irreducible] permS permP toB turnsK squeeze permN permB spongeB feed frameL framesL tagL

/-- slices of bytes of the call's own -/
def POwn (w : World) (base : Nat) : List Value → List (List UInt8) → Prop
  | [], [] => True
  | v :: vs, l :: ls => Own w base 5 1 v l.length (bs l) ∧ POwn w base vs ls
  | _, _ => False
theorem POwn.len {w : World} {base : Nat} : ∀ {vs : List Value} {ls : List (List UInt8)}, POwn w base vs ls → vs.length = ls.length
  | [], [], _ => rfl
  | _ :: _, _ :: _, h => by simp only [List.length_cons]; rw [POwn.len h.2]
  | [], _ :: _, h => h.elim
  | _ :: _, [], h => h.elim
theorem POwn.keep {w w' : World} {base : Nat} {S : Nat → Prop} (hf : Fr S w w') : ∀ {vs : List Value} {ls : List (List UInt8)}, POwn w base vs ls → (∀ v n l, Own w base 5 1 v n (bs l) → ∀ k, OwnB v k → ¬ S k) → POwn w' base vs ls
  | [], [], _, _ => trivial
  | _ :: _, _ :: _, h, hs => ⟨h.1.keep hf (hs _ _ _ h.1), POwn.keep hf h.2 hs⟩
  | [], _ :: _, h, _ => h.elim
  | _ :: _, [], h, _ => h.elim
theorem POwn.still {w w' : World} {base : Nat} {vs : List Value} {ls : List (List UInt8)} (h : POwn w base vs ls) (hf : Fr Nob w w') : POwn w' base vs ls := POwn.keep hf h (fun _ _ _ _ _ _ t => t)
theorem POwn.app {w w' : World} {base base' sz n : Nat} {vs : List Value} {ls : List (List UInt8)} (h : POwn w base vs ls) {q : Value} {T : TypeId} {L : List Value} (hq : Own w base' T sz q n L) (hT : 5 ≠ T) (hf : Fr (OwnB q) w w') : POwn w' base vs ls :=
  POwn.keep hf h (fun _ _ _ ho k hk hk' => ho.ne2 hq hT k hk hk')
theorem POwn.snoc {w : World} {base : Nat} {v : Value} {l : List UInt8} (hv : Own w base 5 1 v l.length (bs l)) : ∀ {vs : List Value} {ls : List (List UInt8)}, POwn w base vs ls → POwn w base (vs ++ [v]) (ls ++ [l])
  | [], [], _ => ⟨hv, trivial⟩
  | _ :: _, _ :: _, h => ⟨h.1, POwn.snoc hv h.2⟩
  | [], _ :: _, h => h.elim
  | _ :: _, [], h => h.elim
theorem POwn.parts {w : World} {base : Nat} : ∀ {vs : List Value} {ls : List (List UInt8)}, POwn w base vs ls → (∀ x ∈ ls, x.length ≤ 1000000) → Parts w vs ls
  | [], [], _, _ => trivial
  | _ :: _, _ :: _, h, hx => ⟨own_part h.1 (hx _ (by simp)), POwn.parts h.2 (fun x hxm => hx x (by simp [hxm]))⟩
  | [], _ :: _, h, _ => h.elim
  | _ :: _, [], h, _ => h.elim
/-- a list of lists of bytes, all of the call's own -/
def LOwn (w : World) (base : Nat) (v : Value) (ls : List (List UInt8)) : Prop := ∃ vs, Own w base 26 1 v ls.length vs ∧ POwn w base vs ls
theorem LOwn.still {w w' : World} {base : Nat} {v : Value} {ls : List (List UInt8)} (h : LOwn w base v ls) (hf : Fr Nob w w') : LOwn w' base v ls := by
  obtain ⟨vs, h1, h2⟩ := h; exact ⟨vs, h1.still hf, h2.still hf⟩
theorem LOwn.parts {w : World} {base : Nat} {v : Value} {ls : List (List UInt8)} (h : LOwn w base v ls) (hx : ∀ x ∈ ls, x.length ≤ 1000000) : ∃ a c, v = .slice a ls.length c ∧ ls.length ≤ c ∧ PartsAt w a ls := by
  obtain ⟨vs, h1, h2⟩ := h
  obtain ⟨a, c, rfl, hc, hr, -⟩ := h1.form
  rw [Nat.mul_one] at hr
  exact ⟨a, c, rfl, hc, vs, hr, (h2.parts hx).get⟩

set_option maxHeartbeats 400000 in
set_option maxRecDepth 1000000 in
theorem lists_any (a : Option Addr) (c : Nat) (ls : List (List UInt8)) (w : World) (hm : ls.length ≤ 100000) (hx : ∀ x ∈ ls, x.length ≤ 1000000) (hb : Rd w a ls.length (ss ls)) :
    Calls Tryd.prog 7 #[.slice a ls.length c] w fun r w' => ∃ v, r = .returned v ∧ LOwn w' w.heap.size v ls ∧ Fr Nob w w' := by
  go_enter Tryd.func7, Tryd.ntmps7
  go_wp2_with fail
  go_loopw [4, 3] (fun i q wr => ∃ j : Nat, j ≤ ls.length ∧ i = .int .i64 (j : Int) ∧ LOwn wr w.heap.size q (ls.take j) ∧ Fr Nob w wr) (fun i _ _ => (ls.length - intOf i).toNat)
  case atStart => exact ⟨0, by omega, rfl, ⟨[], Own.nil _ _ _ _, trivial⟩, Fr.refl _ _⟩
  case round =>
    obtain ⟨j, hj, rfl, hL, hfj⟩ := hrel
    by_cases hlt : j < ls.length
    · have hltI : (j : Int) < (ls.length : Int) := by omega
      obtain ⟨b, o, rfl, hat⟩ := (hb.still hfj).at (by omega)
      have hc : wr.cell? ⟨b, o + j, none⟩ = some (.string (mkS (ls.getD j []))) := hat j _ (ss_get ls j hlt)
      have hxs : (ls.getD j []).length ≤ 1000000 := by
        have : ls.getD j [] = ls[j] := by simp [List.getD_eq_getElem?_getD, hlt]
        rw [this]; exact hx _ (List.getElem_mem _)
      have htk : ls.take (j + 1) = ls.take j ++ [ls.getD j []] := by
        rw [List.take_succ_eq_append_getElem hlt]; simp [List.getD_eq_getElem?_getD, hlt]
      have HTK := Lib.hid htk; clear htk hat
      generalize hq : ls.getD j [] = x at *
      have HQ := Lib.hid hq; clear hq
      obtain ⟨vs, hown, hpo⟩ := hL
      have hll : (ls.take j).length = j := by rw [List.length_take]; omega
      rw [hll] at hown
      have HLL := Lib.hid hll; clear hll
      go_wp2_with (with_reducible refine wl_stop (o := ⟨some 16, _, _, _, _, _⟩) ?_)
      refine wl_bytes (q := mkS x) rfl rfl Tryd.underlying9 Tryd.underlying26 Tryd.underlying5 rfl (by rw [mkS_size]; unfold maxLen; omega) w.heap.size hfj.size ?_
      intro cap w1 hown1 hf1 hz1
      clear hz1
      rw [mkS_size, mkS_toList] at hown1
      have hz1 : (mkS x).size = x.length := mkS_size x
      rw [hz1]
      have hownq := hown.still hf1
      have hpo1 := hpo.still hf1
      have hfr1 := hfj.then hf1
      clear hown hpo hfj hf1 hz1 hc
      generalize wr.heap.size = g0 at *
      go_wp2_with (with_reducible refine wl_stop (o := ⟨some 17, _, _, _, _, _⟩) ?_)
      refine wl_slit rfl rfl Tryd.underlying24 info_sl [.slice (some ⟨g0, 0, none⟩) x.length cap] rfl (by simp; rfl) rfl rfl ?_
      intro w2 hh2 hf2 hz2
      clear hz2
      have hown2 := hown1.still hf2
      have hownq2 := hownq.still hf2
      have hpo2 := hpo1.still hf2
      have hfr2 := hfr1.then hf2
      clear hown1 hownq hpo1 hfr1 hf2
      generalize w1.heap.size = g1 at *
      go_wp2_with (with_reducible refine wl_stop (o := ⟨some 18, _, _, _, _, _⟩) ?_)
      refine wl_append rfl rfl Tryd.underlying24 info_sl rfl (by decide) hownq2 rfl rfl (Rd.whole hh2) (fun u hu => by simp only [List.mem_singleton] at hu; subst hu; rfl) (by unfold maxLen; omega) (by omega) hfr2.size ?_
      intro v3 w3 hown3 hf3 hb3
      clear hb3
      have hpo3 := hpo2.app hownq2 (by decide) hf3
      have hown3' := hown2.keep hf3 (fun k hk hk' => hown2.ne2 hownq2 (by decide) k hk hk')
      have hfr3 := hownq2.fr hfr2 (Nat.le_refl _) hf3
      have hfin : LOwn w3 w.heap.size v3 (ls.take (j + 1)) := by
        refine ⟨vs ++ [.slice (some ⟨g0, 0, none⟩) x.length cap], ?_, ?_⟩
        · have e : (ls.take (j + 1)).length = j + 1 := by rw [List.length_take]; omega
          rw [e]; exact hown3
        · rw [HTK.out]
          exact hpo3.snoc hown3'
      clear hown2 hownq2 hpo2 hf3 hfr2 hpo3 hown3' hown3 hh2
      go_wp2_with fail
      go_roundw
      case rel => exact ⟨j + 1, by omega, by go_num, hfin, hfr3⟩
      case measure => simp [intOf]; omega
    · have hge : ¬ ((j : Int) < (ls.length : Int)) := by omega
      rw [List.take_of_length_le (by omega)] at hL
      go_wp2_with fail
      go_ret
      exact ⟨_, rfl, hL, hfj⟩

theorem sumL_le2 (ls : List (List UInt8)) (B : Nat) (h : ∀ x ∈ ls, x.length ≤ B) : sumL ls ≤ ls.length * B := by
  induction ls with
  | nil => simp [sumL]
  | cons a l ih =>
    have h1 := ih (fun x hx => h x (by simp [hx]))
    have h2 := h a (by simp)
    have h3 : sumL (a :: l) = a.length + sumL l := by simp only [sumL, List.map_cons, List.foldr_cons]
    rw [h3, List.length_cons, Nat.succ_mul]; omega

set_option maxHeartbeats 400000 in
set_option maxRecDepth 1000000 in
theorem small_long (a : Option Addr) (c : Nat) (ls : List (List UInt8)) (w : World) (hm : ls.length ≤ 9223372036854775807) (h64 : 1100 < ls.length) (hb : Rd w a ls.length (ss ls)) :
    Calls Tryd.prog 6 #[.slice a ls.length c] w fun e w' => e = .returned (.bool false) ∧ w = w' := by
  go_enter Tryd.func6, Tryd.ntmps6
  go_wp2_with fail
  go_loop [4, 3] (fun i q => ∃ (j : Nat) (z : Int), j ≤ ls.length ∧ i = .int .i64 (j : Int) ∧ q = .int .i64 z) (fun i _ => (ls.length - intOf i).toNat)
  case atStart => exact ⟨0, _, by omega, rfl, rfl⟩
  case round =>
    obtain ⟨j, z, hj, rfl, rfl⟩ := hrel
    by_cases hlt : j < ls.length
    · have hltI : (j : Int) < (ls.length : Int) := by omega
      obtain ⟨b, o, rfl, hat⟩ := hb.at (by omega)
      have hc : w.cell? ⟨b, o + j, none⟩ = some (.string (mkS (ls.getD j []))) := hat j _ (ss_get ls j hlt)
      generalize hq : mkS (ls.getD j []) = q at *
      clear hq hat
      go_wp2_with fail
      go_round
      case rel => exact ⟨j + 1, _, by omega, by go_num, rfl⟩
      case measure => simp [intOf]; omega
    · have hge : ¬ ((j : Int) < (ls.length : Int)) := by omega
      have hlI : ¬ (ls.length : Int) ≤ 1100 := by omega
      by_cases hbI : z ≤ (65536 : Int)
      · go_wp2_with fail
        go_ret
        exact ⟨rfl, rfl⟩
      · go_wp2_with fail
        go_ret
        exact ⟨rfl, rfl⟩

set_option maxHeartbeats 400000 in
set_option maxRecDepth 1000000 in
theorem small_short (a : Option Addr) (c : Nat) (ls : List (List UInt8)) (w : World) (hss : ∀ x ∈ ls, x.length ≤ 140737488351232) (hm : ls.length ≤ 1100) (hb : Rd w a ls.length (ss ls)) :
    Calls Tryd.prog 6 #[.slice a ls.length c] w fun e w' => e = .returned (.bool (decide (sumL ls ≤ 65536))) ∧ w = w' := by
  have hsum : sumL ls ≤ 154811237186355200 := by have := sumL_le2 ls _ hss; have : ls.length * 140737488351232 ≤ 1100 * 140737488351232 := Nat.mul_le_mul_right _ hm; omega
  clear hss
  go_enter Tryd.func6, Tryd.ntmps6
  go_wp2_with fail
  go_loop [4, 3] (fun i q => ∃ j : Nat, j ≤ ls.length ∧ i = .int .i64 (j : Int) ∧ q = .int .i64 ((sumL (ls.take j) : Nat) : Int)) (fun i _ => (ls.length - intOf i).toNat)
  case atStart => exact ⟨0, by omega, rfl, by simp [sumL]⟩
  case round =>
    obtain ⟨j, hj, rfl, rfl⟩ := hrel
    have hst := sumL_take ls j
    by_cases hlt : j < ls.length
    · have hltI : (j : Int) < (ls.length : Int) := by omega
      obtain ⟨b, o, rfl, hat⟩ := hb.at (by omega)
      have hc : w.cell? ⟨b, o + j, none⟩ = some (.string (mkS (ls.getD j []))) := hat j _ (ss_get ls j hlt)
      have hsucc : sumL (ls.take (j + 1)) = sumL (ls.take j) + (ls.getD j []).length := by
        rw [List.take_succ_eq_append_getElem hlt, sumL_append, sumL_one]; simp [List.getD_eq_getElem?_getD, hlt]
      have hst2 := sumL_take ls (j + 1)
      have hxs : (mkS (ls.getD j [])).size = (ls.getD j []).length := mkS_size _
      generalize hq : mkS (ls.getD j []) = q at *
      have HQ := Lib.hid hq; clear hq
      generalize hN : sumL (ls.take j) = N at *
      have HN := Lib.hid hN; clear hN
      clear hat
      have hqb : N + q.size ≤ 154811237186355200 := by omega
      have HX := Lib.hid hxs; clear hxs
      have HSU := Lib.hid hsucc; clear hsucc
      go_wp2_with fail
      go_round
      case rel => exact ⟨j + 1, by omega, by go_num, by have h1 := HSU.out; have h2 := HX.out; rw [h1, ← h2]; go_num⟩
      case measure => simp [intOf]; omega
    · have hge : ¬ ((j : Int) < (ls.length : Int)) := by omega
      have hlI : (ls.length : Int) ≤ 1100 := by omega
      have hN : sumL (ls.take j) = sumL ls := by rw [List.take_of_length_le (by omega)]
      rw [hN]
      clear hN hst
      by_cases hbig : sumL ls ≤ 65536
      · have hbI : (sumL ls : Int) ≤ 65536 := by omega
        have HB := Lib.hid hbig; clear hbig
        go_wp2_with fail
        go_ret
        exact ⟨ret_bool (decide_eq_true HB.out).symm, rfl⟩
      · have hbI : ¬ (sumL ls : Int) ≤ 65536 := by omega
        have HB := Lib.hid hbig; clear hbig
        go_wp2_with fail
        go_ret
        exact ⟨ret_bool (decide_eq_false HB.out).symm, rfl⟩
end Go.Proofs.YtgkakddldobpkaaDoor

/- append onto an owned slice, once more: what lay ahead of the new cells is kept, in the old block too. -/
namespace Go.Mv
open Go.RowKit
variable {P : Program}

/-- all cells of old blocks are as they were, but those of v's block behind its n elements -/
def Kept (v : Value) (n sz : Nat) (w w' : World) : Prop :=
  ∀ b i, b < w.heap.size → (∀ o cap, v = .slice (some ⟨b, o, none⟩) n cap → i < o + n * sz) → w'.cell? ⟨b, i, none⟩ = w.cell? ⟨b, i, none⟩

theorem Kept.refl (v : Value) (n sz : Nat) (w : World) : Kept v n sz w w := fun _ _ _ _ => rfl
theorem Kept.ofFr {v : Value} {n sz : Nat} {w w' : World} (h : Fr Nob w w') : Kept v n sz w w' := fun b _ hb _ => World.cell?_of_block (a := ⟨b, _, none⟩) (h.block b hb id)
theorem Kept.rd {v : Value} {n sz : Nat} {w w' : World} (h : Kept v n sz w w') {a : Option Addr} {m : Nat} {L : List Value} (hr : Rd w a m L) (ha : ∀ b o o' cap, a = some ⟨b, o, none⟩ → v = .slice (some ⟨b, o', none⟩) n cap → o + m ≤ o' + n * sz) : Rd w' a m L := by
  refine ⟨hr.1, hr.2.imp id ?_⟩
  rintro ⟨b, o, rfl, hat⟩
  refine ⟨b, o, rfl, fun i u hu => ?_⟩
  have hc := hat i u hu
  have hi : i < m := by
    rcases Nat.lt_or_ge i m with k | k
    · exact k
    · rw [List.getElem?_eq_none (by rw [hr.1]; exact k)] at hu; cases hu
  rw [h b (o + i) (block_lt_of_cell hc) (fun o' cap hv => by have := ha b o o' cap rfl hv; omega)]
  exact hc

theorem run_append3 {w : World} (base : Nat) (t ty e : TypeId) (z : Value) (sz by_ : Nat) (ht : P.underlying t = some (.slice e)) (hi0 : (P.info? e).map (fun i => (i.zero, i.size, i.bytes)) = some (some z, sz, by_))
    (hzs : z.cells.size = sz) (hsz : 0 < sz)
    (v : Value) (n : Nat) (L : List Value) (hown : Own w base e sz v n L)
    (a : Option Addr) (m c : Nat) (news : List Value) (hnews : Rd w a (m * sz) news) (h1 : ∀ u ∈ news, u.oneCell' = true)
    (h63 : n + m ≤ maxLen) (hbytes : (n + m) * by_ ≤ 140737488355328) (hbase : base ≤ w.heap.size) :
    ∃ v' w', (Builtin.append_ #[t, t] ty #[v, .slice a m c]).run P w = .ok v' w' ∧ Own w' base e sz v' (n + m) (L ++ news) ∧ Fr (OwnB v) w w' ∧ Kept v n sz w w' ∧
      (((∃ x o cap, v = .slice (some ⟨x, o, none⟩) n cap ∧ v' = .slice (some ⟨x, o, none⟩) (n + m) cap) ∨ (m = 0 ∧ v' = v)) ∨ (v'.ownBlock = some w.heap.size ∧ Fr Nob w w')) := by
  obtain ⟨i, hi, hz, hsize, hby⟩ := info_parts hi0
  subst hsize
  subst hby
  rcases Nat.eq_zero_or_pos m with rfl | hm
  · obtain ⟨s, cap, rfl, hc, -, -⟩ := hown.form
    have hn : news = [] := List.eq_nil_of_length_eq_zero (by rw [hnews.len]; simp)
    subst hn
    exact ⟨_, w, run_append_zero t ty e i ht hi s n cap hc a c, by simpa using hown, Fr.refl _ _, Kept.refl _ _ _ _, .inl (.inr ⟨rfl, rfl⟩)⟩
  have hms : 0 < m * i.size := Nat.mul_pos hm hsz
  obtain ⟨b, o', rfl, hat⟩ := hnews.at hms
  have hlen : (L ++ news).length = (n + m) * i.size := by rw [List.length_append, hown.1, hnews.len, Nat.add_mul]
  have hsmall : n + m ≤ 9223372036854775807 := by simp only [maxLen] at h63; omega
  have grown : ∀ (old : Nat), old < n + m →
      Own (w.drew.alloc (.cells (L.toArray ++ news.toArray ++ Builtin.zeroCells z.cells (grownCap w (n + m) old e - (n + m))) e)) base e i.size
        (.slice (some ⟨w.heap.size, 0, none⟩) (n + m) (grownCap w (n + m) old e)) (n + m) (L ++ news) ∧
      Fr Nob w (w.drew.alloc (.cells (L.toArray ++ news.toArray ++ Builtin.zeroCells z.cells (grownCap w (n + m) old e - (n + m))) e)) := by
    intro old ho
    have hge := grownCap_ge w (n + m) old e
    have hcm : grownCap w (n + m) old e ≤ maxLen := grownCap_le_maxLen w (n + m) old e h63
    have hz' : (Builtin.zeroCells z.cells (grownCap w (n + m) old e - (n + m))).size = (grownCap w (n + m) old e - (n + m)) * i.size := by simp [size_zeroCells, hzs]
    have hmul : (n + m) * i.size + (grownCap w (n + m) old e - (n + m)) * i.size = grownCap w (n + m) old e * i.size := by rw [← Nat.add_mul]; congr 1; omega
    refine ⟨⟨hlen, .inr ⟨w.heap.size, 0, _, _, rfl, hbase, Has.new w.drew _ e, hge, hcm, ?_, ?_⟩⟩, ((Fr.refl _ w).drew).alloc _⟩
    · rw [List.length_append] at hlen
      simp only [Array.toList_append, List.length_append, Array.length_toList, hz', Nat.zero_add]
      omega
    · simp only [Array.toList_append, List.drop_zero]
      rw [← hlen]
      exact List.take_left
  rcases hown.2 with ⟨rfl, rfl⟩ | ⟨g, o, cap, B, rfl, hbg, hg, hnc, hcm, hl, htake⟩
  · have hx : L = [] := List.eq_nil_of_length_eq_zero (by simpa using hown.1)
    subst hx
    have hr := run_append_nil (P := P) w t ty e i z ht hi hz ⟨b, o', none⟩ m c news hnews.len hat.add hm (by omega) (by have hb := hbytes; simp only [Nat.zero_add] at hb; omega)
    have hgr := grown 0 (by omega)
    simp only [Nat.zero_add, List.nil_append, Array.empty_append] at hgr ⊢
    exact ⟨_, _, hr, hgr.1, hgr.2.mono (fun _ _ t => t.elim), Kept.ofFr hgr.2, .inr ⟨rfl, hgr.2⟩⟩
  · by_cases hroom : n + m ≤ cap
    · have hle : (n + m) * i.size ≤ cap * i.size := Nat.mul_le_mul_right _ hroom
      have hnl := hnews.len
      have hfit : o + n * i.size + news.length ≤ B.length := by rw [Nat.add_mul] at hle; omega
      obtain ⟨w', hr, hh, hf, hzz⟩ := run_append_room2 (P := P) t ty e i ht hi g o n cap B e hg _ m c news hnews h1 hroom hfit
      refine ⟨_, _, hr, ⟨hlen, .inr ⟨g, o, cap, _, rfl, hbg, hh, hroom, hcm, ?_, ?_⟩⟩, hf.mono (fun k _ t => by have e : k = g := t; subst e; rfl), ?_, .inl (.inl ⟨g, o, cap, rfl, rfl⟩)⟩
      · rw [splice_length _ _ _ hfit]; exact hl
      · have := splice_take B o (n * i.size) news hfit
        rw [htake] at this
        rw [← this, hnl, Nat.add_mul]
      · intro b' j hb' hj
        by_cases hbg' : b' = g
        · subst hbg'
          have hj' := hj o cap rfl
          rw [hg.get, hh.get]
          unfold splice
          rw [List.getElem?_append_left (by simp; omega), List.getElem?_take, if_pos hj']
        · exact World.cell?_of_block (a := ⟨b', j, none⟩) (hf.block b' hb' hbg')
    · have hle : n * i.size ≤ cap * i.size := Nat.mul_le_mul_right _ hnc
      have hrd : Rd w (some ⟨g, o, none⟩) (n * i.size) L := by rw [← htake]; exact Rd.ofHas hg o (by omega)
      have holds : ∀ j u, L[j]? = some u → w.cell? ((⟨g, o, none⟩ : Addr).add j) = some u := by
        rcases Nat.eq_zero_or_pos (n * i.size) with h0 | h0
        · have : L = [] := List.eq_nil_of_length_eq_zero (by rw [hown.1, h0])
          subst this; intro j u hu; simp at hu
        · obtain ⟨b2, o2, he, hc2⟩ := hrd.at h0
          simp only [Option.some.injEq, Addr.mk.injEq] at he
          obtain ⟨rfl, rfl, -⟩ := he
          exact hc2.add
      have hr := run_append_grow (P := P) w t ty e i z ht hi hz ⟨g, o, none⟩ n cap L hown.1 holds ⟨b, o', none⟩ m c news hnews.len hat.add (by omega) (by omega) (growslice_fits (by omega) hbytes)
      have hgr := grown cap (by omega)
      exact ⟨_, _, hr, hgr.1, hgr.2.mono (fun _ _ t => t.elim), Kept.ofFr hgr.2, .inr ⟨rfl, hgr.2⟩⟩

section
variable {w : World} {ops : Array Oper} {rest : List Oper} {o : Oper} {a : Act} {Q : Exit → Act → World → Prop}
/-- append(s, x...), x a slice; what stood ahead of the end is kept -/
theorem wl_append_k {s x : Operand} {t : TypeId} (hgd : o.guard = none) (ho : o.op = .call { callee := .builtin .append, args := #[s, x], argTypes := #[t, t] })
    {e : TypeId} {z : Value} {sz by_ : Nat} (ht : P.underlying t = some (.slice e)) (hi0 : (P.info? e).map (fun i => (i.zero, i.size, i.bytes)) = some (some z, sz, by_))
    (hzs : z.cells.size = sz) (hsz : 0 < sz)
    {v : Value} {n base : Nat} {L : List Value} (hown : Own w base e sz v n L) (hs : a.eval s = v)
    {xa : Option Addr} {m c : Nat} {news : List Value} (hx : a.eval x = .slice xa m c) (hnews : Rd w xa (m * sz) news) (h1 : ∀ u ∈ news, u.oneCell' = true)
    (h63 : n + m ≤ maxLen) (hbytes : (n + m) * by_ ≤ 140737488355328) (hbase : base ≤ w.heap.size)
    (h : ∀ v' w', Own w' base e sz v' (n + m) (L ++ news) → Fr (OwnB v) w w' → Kept v n sz w w' → (((∃ x o cap, v = .slice (some ⟨x, o, none⟩) n cap ∧ v' = .slice (some ⟨x, o, none⟩) (n + m) cap) ∨ (m = 0 ∧ v' = v)) ∨ (v'.ownBlock = some w.heap.size ∧ Fr Nob w w')) → wpList P ops Q rest (a.put o.dst v') w') : wpList P ops Q (o :: rest) a w := by
  refine wpList_plain hgd fun K hK => ?_
  obtain ⟨v', w', hr, h2, h3, h4, h5⟩ := run_append3 (P := P) base t o.type e z sz by_ ht hi0 hzs hsz v n L hown xa m c news hnews h1 h63 hbytes hbase
  unfold Oper.wp execOp
  simp only [ho, resolve, invoke, builtin, Sem.run_bind, Sem.run_pure, Result.andThen_ok, List.map_toArray, List.map_cons, List.map_nil, hs, hx, hr]
  exact hK _ _ (h v' w' h2 h3 h4 h5)
end
end Go.Mv
namespace Go.Mv
open Go.RowKit
section
variable {P : Program} {w : World} {ops : Array Oper} {o : Oper} {a : Act} {K : Act → World → Prop} {Q : Exit → Act → World → Prop} {E : Prop}
/-- append(s, x...) inside a region that draws: for the third argument of go_region_held3 -/
theorem step_append {s x : Operand} {t : TypeId} (hgd : o.guard = none) (ho : o.op = .call { callee := .builtin .append, args := #[s, x], argTypes := #[t, t] })
    {e : TypeId} {z : Value} {sz by_ : Nat} (ht : P.underlying t = some (.slice e)) (hi0 : (P.info? e).map (fun i => (i.zero, i.size, i.bytes)) = some (some z, sz, by_))
    (hzs : z.cells.size = sz) (hsz : 0 < sz)
    {v : Value} {n base : Nat} {L : List Value} (hown : Own w base e sz v n L) (hs : a.eval s = v)
    {xa : Option Addr} {m c : Nat} {news : List Value} (hx : a.eval x = .slice xa m c) (hnews : Rd w xa (m * sz) news) (h1 : ∀ u ∈ news, u.oneCell' = true)
    (h63 : n + m ≤ maxLen) (hbytes : (n + m) * by_ ≤ 140737488355328) (hbase : base ≤ w.heap.size)
    (h : ∀ v' w', Own w' base e sz v' (n + m) (L ++ news) → Fr (OwnB v) w w' → K (a.put o.dst v') w') :
    if Region.wanted o (yielded ops a.tmps) = true then Oper.wp P o a w K Q else E := by
  have hw : Region.wanted o (yielded ops a.tmps) = true := by simp [Region.wanted, hgd]
  rw [if_pos hw]
  obtain ⟨v', w', hr, h2, h3, h4⟩ := run_append2 (P := P) base t o.type e z sz by_ ht hi0 hzs hsz v n L hown xa m c news hnews h1 h63 hbytes hbase
  unfold Oper.wp execOp
  simp only [ho, resolve, invoke, builtin, Sem.run_bind, Sem.run_pure, Result.andThen_ok, List.map_toArray, List.map_cons, List.map_nil, hs, hx, hr]
  exact h v' w' h2 h3
end
end Go.Mv

/- bytes.Clone; lists of owned slices of bytes that lie apart. -/
namespace Go.Proofs.YtgkakddldobpkaaDoor
open Go.RowKit Go.Mv Mvp Mvt
attribute [local irreducible] permS permP toB turnsK squeeze permN permB spongeB feed frameL framesL tagL

theorem info_u8c : (Tryd.prog.info? 5).map (fun i => (i.zero, i.size, i.bytes)) = some (some (.int .u8 0), 1, 1) := by kernel_rfl

set_option maxHeartbeats 1000000 in
set_option maxRecDepth 1000000 in
theorem bclone_any (a : Option Addr) (n c : Nat) (l : List UInt8) (w : World) (hn : n ≤ 1000000) (hb : RdB w a n l) :
    Calls Tryd.prog 25 #[.slice a n c] w fun e w' => ∃ v, e = .returned v ∧ Own w' w.heap.size 5 1 v (if a.isNone then 0 else n) (bs (if a.isNone then [] else l)) ∧ Fr Nob w w' := by
  have hq : ∀ (w : World), (binOp .eql 26 (.slice a n c) (.slice none 0 0)).run Tryd.prog w = .ok (.bool a.isNone) w := fun w => Lib.run_eql_slice_nil w _ _ a n c 0 0 Tryd.underlying26
  cases a with
  | none =>
    go_enter Tryd.func25, Tryd.ntmps25
    go_wp2_with fail
    go_ret
    exact ⟨_, rfl, Own.nil _ _ _ _, Fr.refl _ _⟩
  | some a =>
    go_enter Tryd.func25, Tryd.ntmps25
    go_wp2_with (with_reducible refine wl_stop (o := ⟨some 7, _, _, _, _, _⟩) ?_)
    unfold Stop
    have hf1 : Fr Nob w (w.alloc (.cells #[] 5)) := (Fr.refl Nob w).alloc _
    have hown1 : Own (w.alloc (.cells #[] 5)) w.heap.size 5 1 (.slice (some ⟨w.heap.size, 0, none⟩) 0 0) 0 [] := Own.made (Has.new w #[] 5) w.heap.size (Nat.le_refl _) 1 0 0 (Nat.le_refl _) (by decide) (by simp)
    refine wl_append rfl rfl Tryd.underlying26 info_u8c rfl (by decide) hown1 rfl rfl (by rw [Nat.mul_one]; exact hb.still hf1) (bs_one _) (by unfold maxLen; omega) (by omega) hf1.size ?_
    intro v3 w3 hown3 hf3 hb3
    have hfr := hown1.fr hf1 (Nat.le_refl _) hf3
    rw [Nat.zero_add, List.nil_append] at hown3
    clear hf3 hown1 hf1 hb3
    generalize hgw : w.heap.size = g at *
    have HG := Lib.hid hgw; clear hgw
    go_wp2_with fail
    go_ret
    rw [HG.out]
    exact ⟨_, rfl, hown3, hfr⟩
theorem bclone_some (a : Addr) (n c : Nat) (l : List UInt8) (w : World) (hn : n ≤ 1000000) (hb : RdB w (some a) n l) :
    Calls Tryd.prog 25 #[.slice (some a) n c] w fun e w' => ∃ v, e = .returned v ∧ Own w' w.heap.size 5 1 v n (bs l) ∧ Fr Nob w w' := bclone_any (some a) n c l w hn hb

/-- no two of them share a block -/
def Sep (vs : List Value) : Prop := vs.Pairwise fun a b => ∀ k, OwnB a k → ¬ OwnB b k
theorem Sep.nil : Sep [] := List.Pairwise.nil
theorem POwn.get {w : World} {base : Nat} : ∀ {vs : List Value} {ls : List (List UInt8)}, POwn w base vs ls → ∀ (i : Nat) (v : Value), vs[i]? = some v → ∃ l, ls[i]? = some l ∧ Own w base 5 1 v l.length (bs l)
  | [], [], _, i, v, hv => by simp at hv
  | a :: vs, l :: ls, h, 0, v, hv => by simp at hv; subst hv; exact ⟨l, rfl, h.1⟩
  | a :: vs, l :: ls, h, i + 1, v, hv => by simp at hv; obtain ⟨l', h1, h2⟩ := POwn.get h.2 i v hv; exact ⟨l', by simpa using h1, h2⟩
  | [], _ :: _, h, _, _, _ => h.elim
  | _ :: _, [], h, _, _, _ => h.elim
theorem POwn.mem {w : World} {base : Nat} {vs : List Value} {ls : List (List UInt8)} (h : POwn w base vs ls) {v : Value} (hv : v ∈ vs) : ∃ l, l ∈ ls ∧ Own w base 5 1 v l.length (bs l) := by
  obtain ⟨i, hi⟩ := List.getElem?_of_mem hv
  obtain ⟨l, h1, h2⟩ := h.get i v hi
  exact ⟨l, List.mem_of_getElem? h1, h2⟩
theorem Sep.snoc {w w' : World} {base : Nat} {vs : List Value} {ls : List (List UInt8)} (h : Sep vs) (hp : POwn w base vs ls) {v : Value} {n : Nat} {L : List Value} {T : TypeId} (hv : Own w' w.heap.size T 1 v n L) : Sep (vs ++ [v]) := by
  unfold Sep at *
  rw [List.pairwise_append]
  refine ⟨h, by simp, fun a ha b hb k hk hk' => ?_⟩
  simp only [List.mem_singleton] at hb
  subst hb
  obtain ⟨l, _, ho⟩ := hp.mem ha
  have h1 := (ho.lt hk).2
  have h2 := (hv.lt hk').1
  omega
theorem POwn.mono {w : World} {base base' : Nat} (hb : base' ≤ base) : ∀ {vs : List Value} {ls : List (List UInt8)}, POwn w base vs ls → POwn w base' vs ls
  | [], [], _ => trivial
  | _ :: _, _ :: _, h => ⟨h.1.mono hb, POwn.mono hb h.2⟩
  | [], _ :: _, h => h.elim
  | _ :: _, [], h => h.elim
/-- a slice of slices of bytes, all of the call's own, apart -/
def SOwn (w : World) (base : Nat) (v : Value) (ls : List (List UInt8)) : Prop := ∃ vs, Own w base 26 1 v ls.length vs ∧ POwn w base vs ls ∧ Sep vs
theorem SOwn.nil (w : World) (base : Nat) : SOwn w base (.slice none 0 0) [] := ⟨[], Own.nil _ _ _ _, trivial, Sep.nil⟩
theorem SOwn.still {w w' : World} {base : Nat} {v : Value} {ls : List (List UInt8)} (h : SOwn w base v ls) (hf : Fr Nob w w') : SOwn w' base v ls := by
  obtain ⟨vs, h1, h2, h3⟩ := h; exact ⟨vs, h1.still hf, h2.still hf, h3⟩
theorem SOwn.lown {w : World} {base : Nat} {v : Value} {ls : List (List UInt8)} (h : SOwn w base v ls) : LOwn w base v ls := by
  obtain ⟨vs, h1, h2, h3⟩ := h; exact ⟨vs, h1, h2⟩
end Go.Proofs.YtgkakddldobpkaaDoor

/- The tree's climber: up, right. -/
namespace Go.Proofs.YtgkakddldobpkaaDoor
open Go.RowKit Go.Mv Mvp Mvt

/-- a climber in memory -/
def Clim (w : World) (g a e : Nat) : Prop := Has w g [.int .u64 (a : Int), .int .u64 (e : Int)] 62
theorem and1 (k : Nat) : bits BinOp.and IntKind.u64 (k : Int) 1 = ((k % 2 : Nat) : Int) := by
  have h1 : BitVec.ofInt 64 (k : Int) = BitVec.ofNat 64 k := by simp
  have h2 : (BitVec.ofNat 64 k &&& BitVec.ofInt 64 1).toNat = k % 2 := by
    have e : (BitVec.ofInt 64 1).toNat = 2 ^ 1 - 1 := by decide
    rw [BitVec.toNat_and, e, Nat.and_two_pow_sub_one_eq_mod, BitVec.toNat_ofNat]
    omega
  show IntKind.u64.wrap (((BitVec.ofInt 64 (k : Int) &&& BitVec.ofInt 64 1).toNat : Nat) : Int) = _
  rw [h1, h2, IntKind.wrap_u64]
  omega
set_option maxHeartbeats 1000000 in
set_option maxRecDepth 1000000 in
theorem up_any (g a e : Nat) (w : World) (ha : a ≤ 1048576) (he : e ≤ 1048576) (hg : Clim w g a e) :
    Calls Tryd.prog 34 #[.pointer (some ⟨g, 0, none⟩)] w fun r w' => r = .returned (.tuple #[]) ∧ Clim w' g (a / 2) (e / 2) ∧ Fr (Mv.One g) w w' := by
  have hc0 := hg.cell (i := 0) rfl
  have hc1 := hg.cell (i := 1) rfl
  have hz0 := hg.free 0 (by simp)
  have hz1 := hg.free 1 (by simp)
  go_enter Tryd.func34, Tryd.ntmps34
  go_wp2_with fail
  go_region
  all_goals
    go_end0
    refine ⟨rfl, ?_, ((((Fr.refl (Mv.One g) w).setCell g 0 none _ (fun _ => rfl)).setCell g 1 none _ (fun _ => rfl))).drew⟩
    have h := (Has.set (Has.set hg 0 (.int .u64 ((a : Int) / 2))) 1 (.int .u64 ((e : Int) / 2))).drew
    simpa [Clim] using h

set_option maxRecDepth 1000000 in
theorem right_left (g a e : Nat) (w : World) (ha : a ≤ 1048576) (he : e ≤ 1048576) (hg : Clim w g a e) (hl : a % 2 = 0 ∧ a ≠ e) :
    Calls Tryd.prog 32 #[.pointer (some ⟨g, 0, none⟩)] w fun r w' => r = .returned (.bool false) ∧ Fr Nob w w' := by
  have hc0 := hg.cell (i := 0) rfl
  have hc1 := hg.cell (i := 1) rfl
  have e1 := and1 a
  rw [hl.1] at e1
  have hne : ¬ (a : Int) = (e : Int) := by omega
  clear hl
  go_enter Tryd.func32, Tryd.ntmps32
  go_wp2_with fail
  go_quiet (fail)
  go_wp2_with fail
  go_ret
  exact ⟨rfl, (Fr.refl Nob w).drewN nq⟩

set_option maxHeartbeats 1000000 in
set_option maxRecDepth 1000000 in
theorem right_right (g a e : Nat) (w : World) (ha : a ≤ 1048576) (he : e ≤ 1048576) (hg : Clim w g a e) (hl : ¬ (a % 2 = 0 ∧ a ≠ e)) :
    Calls Tryd.prog 32 #[.pointer (some ⟨g, 0, none⟩)] w fun r w' => r = .returned (.bool true) ∧ Clim w' g (skip a e).1 (skip a e).2 ∧ Fr (Mv.One g) w w' := by
  have hc0 := hg.cell (i := 0) rfl
  have hc1 := hg.cell (i := 1) rfl
  have hcs : (a % 2 = 0 ∧ a = e ∧ bits BinOp.and IntKind.u64 (a : Int) 1 = 0) ∨ bits BinOp.and IntKind.u64 (a : Int) 1 = 1 := by
    rw [and1]; omega
  clear hl
  generalize hq : skip a e = q
  have HQ := Lib.hid hq; clear hq
  go_enter Tryd.func32, Tryd.ntmps32
  rcases hcs with ⟨-, rfl, h3⟩ | h3
  all_goals
    go_wp2_with fail
    go_quiet (fail)
    clear h3 hc0 hc1
    have hgq : Clim (w.drewN nq) g a _ := hg.drewN nq
    have hfq := (Fr.refl (Mv.One g) w).drewN nq
    generalize w.drewN nq = w1 at *
    go_wp2_with fail
    go_loopw [33] (fun _ wr => ∃ a' e' : Nat, a' ≤ 1048576 ∧ e' ≤ 1048576 ∧ Clim wr g a' e' ∧ skip a' e' = q ∧ Fr (Mv.One g) w wr) (fun _ wr => (intOf ((wr.cell? ⟨g, 0, none⟩).getD undef)).toNat)
    case atStart => exact ⟨a, _, ha, he, hgq, HQ.out, hfq⟩
    case round =>
      obtain ⟨a', e', ha', he', hg', hs', hf'⟩ := hrel
      have hc0 := hg'.cell (i := 0) rfl
      have HS := Lib.hid hs'; clear hs'
      clear hgq hfq
      by_cases h : a' % 2 = 0 ∧ 0 < a'
      · have h1 : bits BinOp.and IntKind.u64 (a' : Int) 1 = 0 := by rw [and1, h.1]; rfl
        have h2 : (0 : Int) < (a' : Int) := by omega
        have hss := skip_even a' e' h.1 h.2
        have HSS := Lib.hid hss; clear hss
        have hlt : a' / 2 < a' := by omega
        have hm : (intOf ((wr.cell? ⟨g, 0, none⟩).getD undef)).toNat = a' := by rw [hc0]; simp [intOf]
        have HM := Lib.hid hm; clear hm
        clear h
        go_wp2_with fail
        refine (up_any g a' e' wr ha' he' hg').mono ?_
        rintro e2 w2 ⟨rfl, hg2, hf2⟩
        have hm2 : (intOf ((w2.cell? ⟨g, 0, none⟩).getD undef)).toNat = a' / 2 := by
          have := hg2.cell (i := 0) rfl
          rw [this]; simp [intOf]; omega
        have HM2 := Lib.hid hm2; clear hm2 hc0 h1
        go_wp2_with fail
        go_roundw
        case rel => exact ⟨a' / 2, e' / 2, by omega, by omega, hg2, by rw [← HSS.out]; exact HS.out, hf'.trans hf2 (fun _ _ t => t)⟩
        case measure => rw [HM.out, HM2.out]; exact hlt
      · have hss : skip a' e' = (a', e') := by rw [skip, if_neg h]
        have HSS := Lib.hid hss; clear hss
        have hcs : (a' % 2 = 0 ∧ ¬ (0 : Int) < (a' : Int) ∧ bits BinOp.and IntKind.u64 (a' : Int) 1 = 0) ∨ bits BinOp.and IntKind.u64 (a' : Int) 1 = 1 := by
          rw [and1]; omega
        clear h
        rcases hcs with ⟨h1, h2, h3⟩ | h3
        all_goals
          go_wp2_with fail
          go_ret
          refine ⟨rfl, ?_, hf'⟩
          rw [← HS.out, HSS.out]
          exact hg'
end Go.Proofs.YtgkakddldobpkaaDoor

/- tree.Lies and the reference's; the law TreeLies. -/
namespace Go.Proofs.YtgkakddldobpkaaDoor
open Go.RowKit Go.Mv Mvp Mvt
attribute [local irreducible] permS permP toB turnsK squeeze permN permB spongeB feed frameL framesL tagL leafL nodeL

theorem built_clim (a e : Int) : Tryd.prog.built 62 [(0, .int .u64 a), (1, .int .u64 e)] = some #[.int .u64 a, .int .u64 e] := by kernel_rfl
theorem size_clim : (Tryd.prog.info? 62).map (·.size) = some 2 := by kernel_rfl
theorem zero_clim : (Tryd.prog.info? 62).map (·.zero) = some (some (.agg #[.int .u64 0, .int .u64 0])) := by kernel_rfl

theorem PartsAt.getF {w w' : World} {a : Option Addr} {ls : List (List UInt8)} (h : PartsAt w a ls) (hf : Fr Nob w w') {j : Nat} (hj : j < ls.length) : ∃ b o v, a = some ⟨b, o, none⟩ ∧ w'.cell? ⟨b, o + j, none⟩ = some v ∧ PartIs w v (ls.getD j []) := by
  obtain ⟨b, o, v, h1, h2, h3⟩ := h.get hj
  exact ⟨b, o, v, h1, hf.cell id h2, h3⟩
/-- what the program answers -/
def liesL (root : List UInt8) (n i : Nat) (leaf : List UInt8) (path : List (List UInt8)) : Bool :=
  match climb nodeL i (n - 1) (leafL leaf) path with
  | some h => decide (h = root)
  | none => false

theorem skip_le (a e : Nat) : (skip a e).1 ≤ a ∧ (skip a e).2 ≤ e := by
  induction a using Nat.strongRecOn generalizing e with
  | _ a ih =>
    rw [skip]
    split
    · obtain ⟨h1, h2⟩ := ih (a / 2) (by omega) (e / 2)
      omega
    · exact ⟨Nat.le_refl _, Nat.le_refl _⟩
set_option maxHeartbeats 1000000 in
set_option maxRecDepth 1000000 in
theorem lies_bad (r : Option Addr) (rn rc : Nat) (n i : Int) (a : Option Addr) (an ac : Nat) (p : Option Addr) (c : Nat) (ls : List (List UInt8)) (w : World) (hm : ls.length ≤ 1000000) (hb : PartsAt w p ls)
    (h : n < 1 ∨ 1048576 < n ∨ i < 0 ∨ n ≤ i ∨ sz32 ls = false) :
    Calls Tryd.prog 16 #[.slice r rn rc, .int .i64 n, .int .i64 i, .slice a an ac, .slice p ls.length c] w fun e w' => e = .returned (.bool false) ∧ w = w' := by
  have h' : n < 1 ∨ (¬ n < 1 ∧ 1048576 < n) ∨ (¬ n < 1 ∧ ¬ 1048576 < n ∧ i < 0) ∨ (¬ n < 1 ∧ ¬ 1048576 < n ∧ ¬ i < 0 ∧ n ≤ i) ∨ (¬ n < 1 ∧ ¬ 1048576 < n ∧ ¬ i < 0 ∧ ¬ n ≤ i ∧ sz32 ls = false) := by
    by_cases h1 : n < 1
    · exact .inl h1
    by_cases h2 : 1048576 < n
    · exact .inr (.inl ⟨h1, h2⟩)
    by_cases h3 : i < 0
    · exact .inr (.inr (.inl ⟨h1, h2, h3⟩))
    by_cases h4 : n ≤ i
    · exact .inr (.inr (.inr (.inl ⟨h1, h2, h3, h4⟩)))
    · exact .inr (.inr (.inr (.inr ⟨h1, h2, h3, h4, by simpa [h1, h2, h3, h4] using h⟩)))
  clear h
  go_enter Tryd.func16, Tryd.ntmps16
  rcases h' with h1 | ⟨h1, h2⟩ | ⟨h1, h2, h3⟩ | ⟨h1, h2, h3, h4⟩ | ⟨h1, h2, h3, h4, h5⟩
  case inr.inr.inr.inr =>
    have H5 := Lib.hid h5; clear h5
    go_wp2_with fail
    refine (sized_any p c ls w hm hb).mono ?_
    rintro e w' ⟨rfl, rfl⟩
    rw [H5.out]
    go_wp2_with fail
    go_ret
    exact ⟨rfl, rfl⟩
  all_goals
    go_wp2_with fail
    go_ret
    exact ⟨rfl, rfl⟩

set_option maxHeartbeats 4000000 in
set_option maxRecDepth 1000000 in
theorem lies_yes (r : Option Addr) (rn rc : Nat) (root : List UInt8) (n i : Nat) (a : Option Addr) (an ac : Nat) (leaf : List UInt8) (p : Option Addr) (c : Nat) (ls : List (List UInt8)) (w : World) (hm : ls.length ≤ 1000000) (hb : PartsAt w p ls)
    (hr : RdB w r rn root) (ha : PartIs w (.slice a an ac) leaf) (hn : 1 ≤ n) (hn2 : n ≤ 1048576) (hi : i < n) (hs : sz32 ls = true) :
    Calls Tryd.prog 16 #[.slice r rn rc, .int .i64 n, .int .i64 i, .slice a an ac, .slice p ls.length c] w fun e w' => e = .returned (.bool (liesL root n i leaf ls)) ∧ Fr Nob w w' := by
  have h1 : ¬ (n : Int) < 1 := by omega
  have h2 : ¬ (1048576 : Int) < (n : Int) := by omega
  have h3 : ¬ (i : Int) < 0 := by omega
  have h4 : ¬ (n : Int) ≤ (i : Int) := by omega
  have HS := Lib.hid hs; clear hs
  go_enter Tryd.func16, Tryd.ntmps16
  go_wp2_with fail
  refine (sized_any p c ls w hm hb).mono ?_
  rintro e w' ⟨rfl, rfl⟩
  rw [HS.out]
  obtain ⟨m, rfl⟩ : ∃ m, n = m + 1 := ⟨n - 1, by omega⟩
  go_wp2_with (with_reducible refine wl_stop (o := ⟨some 40, _, _, _, _, _⟩) ?_)
  refine wl_buildL rfl rfl _ (built_clim i m) ?_
  go_wp2_with (with_reducible refine wl_stop (o := ⟨some 11, _, _, _, _, _⟩) ?_)
  refine wl_alloc rfl rfl zero_clim [.int .u64 0, .int .u64 0] rfl ?_
  intro w1 hh1 hf1 hz1
  clear hz1
  go_wp2_with (with_reducible refine wl_stop (o := ⟨none, .store 62 _ _, _, _, _, _⟩) ?_)
  refine wl_storeA (cs := [.int .u64 (i : Int), .int .u64 (m : Int)]) rfl rfl rfl rfl hh1 (by simp) size_clim (by simp; exact ⟨rfl, rfl⟩) ?_
  intro w2 hh2 hf2 hz2
  have hf12 : Fr Nob w w2 := hf1.new hf2 (Nat.le_refl _)
  have hcl : Clim w2 w.heap.size i m := by simpa [splice, Clim] using hh2
  clear hh1 hh2 hf1 hf2 hz2
  have ha2 := ha.still hf12
  have hgs : w.heap.size < w2.heap.size := hcl.lt
  generalize hgw : w.heap.size = g at *
  have HG := Lib.hid hgw; clear hgw
  clear ha
  go_wp2_with fail
  refine (leafHash_any a an ac leaf w2 ha2).mono ?_
  rintro e w3 ⟨v3, rfl, hown3, hf3⟩
  have hf13 := hf12.then hf3
  have hcl3 : Clim w3 g i m := Has.keep hcl hf3 id
  have hown3' := hown3.mono (base' := g) (by omega)
  have hc0 : climb nodeL i m (leafL leaf) ls = climb nodeL i (m + 1 - 1) (leafL leaf) ls := rfl
  generalize hres : climb nodeL i (m + 1 - 1) (leafL leaf) ls = res at hc0
  have HRES := Lib.hid hres; clear hres
  generalize hlf : leafL leaf = lf at *
  have HLF := Lib.hid hlf
  clear hlf hf12 hcl hf3 hown3 ha2 hgs
  go_wp2_with fail
  go_loopw [45, 12] (fun ix vh wr => ∃ (j a' e' : Nat) (h : List UInt8), j ≤ ls.length ∧ ix = .int .i64 (j : Int) ∧ a' ≤ 1048576 ∧ e' ≤ 1048576 ∧ Clim wr g a' e' ∧ Own wr g 5 1 vh 32 (bs h) ∧ climb nodeL a' e' h (ls.drop j) = res ∧ Fr Nob w wr) (fun ix _ _ => (ls.length - intOf ix).toNat)
  case atStart => exact ⟨0, i, m, lf, by omega, rfl, by omega, by omega, hcl3, hown3', hc0, hf13⟩
  case round =>
    clear hc0 hcl3 hown3' 
    obtain ⟨j, a', e', h, hj, rfl, ha', he', hcl, hown, hcb, hfj⟩ := hrel
    have hgl := hcl.lt
    have hc1 := Has.cell hcl (i := 1) rfl
    have hgw : g ≤ wr.heap.size := by omega
    by_cases hlt : j < ls.length
    · have hltI : (j : Int) < (ls.length : Int) := by omega
      obtain ⟨b, o, v, rfl, hc, hp⟩ := hb.getF hfj hlt
      have hdr : ls.drop j = ls.getD j [] :: ls.drop (j + 1) := by
        rw [List.drop_eq_getElem_cons hlt]; simp [List.getD_eq_getElem?_getD, hlt]
      rw [hdr] at hcb
      have HCB := Lib.hid hcb; clear hcb hdr
      generalize ls.getD j [] = x at *
      obtain ⟨ax, nx, cx, rfl, -⟩ := id hp
      by_cases h0 : e' = 0
      · subst h0
        have hc1' : wr.cell? ⟨g, 1, none⟩ = some (.int .u64 0) := hc1
        clear hc1
        go_wp2_with fail
        go_ret
        refine ⟨ret_bool ?_, hfj⟩
        unfold liesL
        rw [HLF.out, HRES.out, ← HCB.out]
        simp [climb]
      · have h0I : ¬ (e' : Int) = 0 := by omega
        obtain ⟨ah, ch, rfl, -⟩ := own_rd hown
        have hq1 : ((e' : Int) == 0) = false := by simpa using h0
        have hq2 : (e' == 0) = false := by simpa using h0
        have hph0 := own_part hown (by decide)
        have HPH := Lib.hid hph0; clear hph0
        have HOWN := Lib.hid hown; clear hown
        by_cases hL : a' % 2 = 0 ∧ a' ≠ e'
        · have hcb2 : climb nodeL (a' / 2) (e' / 2) (nodeL h x) (ls.drop (j + 1)) = res := by
            have := HCB.out
            simpa only [climb, if_neg h0, if_pos hL] using this
          have HCB2 := Lib.hid hcb2; clear hcb2 HCB
          have HL := Lib.hid hL; clear hL
          go_wp2_with fail
          refine (right_left g a' e' wr ha' he' hcl HL.out).mono ?_
          rintro e4 w4 ⟨rfl, hf4⟩
          have hph := HPH.out
          clear HPH HOWN
          have hcl4 : Clim w4 g a' e' := Has.keep hcl hf4 id
          have hph4 := hph.still hf4
          have hf4' := hfj.then hf4
          have hp4 := hp.still hf4'
          have hgl4 := hcl4.lt
          clear HL hcl hp hph hf4 hfj hc hc1
          go_wp2_with fail
          refine (node_any _ _ _ h _ _ _ x w4 hph4 hp4).mono ?_
          rintro e5 w5 ⟨v5, rfl, hown5, hf5⟩
          have hcl5 : Clim w5 g a' e' := Has.keep hcl4 hf5 id
          have hown5' := hown5.mono (base' := g) (by omega)
          have hf5' := hf4'.then hf5
          clear hcl4 hp4 hph4 hf5 hf4' hown5 hgl4
          generalize nodeL h x = y at *
          go_wp2_with fail
          refine (up_any g a' e' w5 ha' he' hcl5).mono ?_
          rintro e6 w6 ⟨rfl, hcl6, hf6⟩
          have hown6 := hown5'.keep hf6 (fun k hk (e : k = g) => hown5'.ne hcl5 (by decide) (e ▸ hk))
          have hf6' : Fr Nob w w6 := hf5'.new hf6 (by rw [HG.out]; exact Nat.le_refl _)
          clear hcl5 hown5' hf5' hf6
          go_wp2_with fail
          go_roundw
          case rel => exact ⟨j + 1, a' / 2, e' / 2, y, by omega, by go_num, by omega, by omega, hcl6, hown6, HCB2.out, hf6'⟩
          case measure => simp [intOf]; omega
        · have hcb2 : climb nodeL ((skip a' e').1 / 2) ((skip a' e').2 / 2) (nodeL x h) (ls.drop (j + 1)) = res := by
            have := HCB.out
            simpa only [climb, if_neg h0, if_neg hL] using this
          have hsk := skip_le a' e'
          have HCB2 := Lib.hid hcb2; clear hcb2 HCB
          have HL := Lib.hid hL; clear hL
          have HSK := Lib.hid hsk; clear hsk
          go_wp2_with fail
          refine (right_right g a' e' wr ha' he' hcl HL.out).mono ?_
          rintro e4 w4 ⟨rfl, hcl4, hf4⟩
          have hph := HPH.out
          have hown := HOWN.out
          clear HPH HOWN
          have hown4 := hown.keep hf4 (fun k hk (e : k = g) => hown.ne hcl (by decide) (e ▸ hk))
          have hph4 := own_part hown4 (by decide)
          have hf4' : Fr Nob w w4 := hfj.new hf4 (by rw [HG.out]; exact Nat.le_refl _)
          have hp4 := hp.still hf4'
          have hgl4 := hcl4.lt
          have hsk := HSK.out
          clear HSK
          generalize (skip a' e').1 = a2 at *
          generalize (skip a' e').2 = e2 at *
          obtain ⟨hsk1, hsk2⟩ := hsk
          clear HL hcl hp hph hf4 hfj hown hc hc1 hown4
          go_wp2_with fail
          refine (node_any _ _ _ x _ _ _ h w4 hp4 hph4).mono ?_
          rintro e5 w5 ⟨v5, rfl, hown5, hf5⟩
          have hcl5 : Clim w5 g a2 e2 := Has.keep hcl4 hf5 id
          have hown5' := hown5.mono (base' := g) (by omega)
          have hf5' := hf4'.then hf5
          clear hcl4 hp4 hph4 hf5 hf4' hown5 hgl4
          generalize nodeL x h = y at *
          go_wp2_with fail
          refine (up_any g a2 e2 w5 (by omega) (by omega) hcl5).mono ?_
          rintro e6 w6 ⟨rfl, hcl6, hf6⟩
          have hown6 := hown5'.keep hf6 (fun k hk (e : k = g) => hown5'.ne hcl5 (by decide) (e ▸ hk))
          have hf6' : Fr Nob w w6 := hf5'.new hf6 (by rw [HG.out]; exact Nat.le_refl _)
          clear hcl5 hown5' hf5' hf6
          go_wp2_with fail
          go_roundw
          case rel => exact ⟨j + 1, a2 / 2, e2 / 2, y, by omega, by go_num, by omega, by omega, hcl6, hown6, HCB2.out, hf6'⟩
          case measure => simp [intOf]; omega
    · have hge : ¬ ((j : Int) < (ls.length : Int)) := by omega
      rw [List.drop_eq_nil_of_le (by omega)] at hcb
      have HCB := Lib.hid hcb; clear hcb
      by_cases h0 : e' = 0
      · subst h0
        have hc1' : wr.cell? ⟨g, 1, none⟩ = some (.int .u64 0) := hc1
        obtain ⟨ah, ch, rfl, hrh⟩ := own_rd hown
        have hr' := hr.still hfj
        clear hc1
        go_wp2_with fail
        refine (equal_any _ _ _ h _ _ _ root wr hrh hr').mono ?_
        rintro e2 w2 ⟨rfl, rfl⟩
        go_wp2_with fail
        go_ret
        refine ⟨ret_bool ?_, hfj⟩
        unfold liesL
        rw [HLF.out, HRES.out, ← HCB.out]
        simp [climb]
      · have h0I : ¬ (e' : Int) = 0 := by omega
        go_wp2_with fail
        go_ret
        refine ⟨ret_bool ?_, hfj⟩
        unfold liesL
        rw [HLF.out, HRES.out, ← HCB.out]
        simp [climb, h0]
end Go.Proofs.YtgkakddldobpkaaDoor

/- tree.newLevels. -/
namespace Go.Proofs.YtgkakddldobpkaaDoor
open Go.RowKit Go.Mv Mvp Mvt
attribute [local irreducible] permS permP toB turnsK squeeze permN permB spongeB feed frameL framesL tagL leafL nodeL

/-- lists of lists -/
def LvOwn (w : World) (base : Nat) : List Value → List (List (List UInt8)) → Prop
  | [], [] => True
  | v :: vs, l :: ls => LOwn w base v l ∧ LvOwn w base vs ls
  | _, _ => False
theorem LOwn.keep {w w' : World} {base : Nat} {S : Nat → Prop} {v : Value} {ls : List (List UInt8)} (h : LOwn w base v ls) (hf : Fr S w w') (hs : ∀ q n L, Own w base 26 1 q n L → ∀ k, OwnB q k → ¬ S k) (hs' : ∀ q n l, Own w base 5 1 q n (bs l) → ∀ k, OwnB q k → ¬ S k) : LOwn w' base v ls := by
  obtain ⟨vs, h1, h2⟩ := h
  exact ⟨vs, h1.keep hf (hs _ _ _ h1), POwn.keep hf h2 hs'⟩
theorem LOwn.mono {w : World} {base base' : Nat} (hb : base' ≤ base) {v : Value} {ls : List (List UInt8)} (h : LOwn w base v ls) : LOwn w base' v ls := by
  obtain ⟨vs, h1, h2⟩ := h
  exact ⟨vs, h1.mono hb, h2.mono hb⟩
theorem LvOwn.still {w w' : World} {base : Nat} (hf : Fr Nob w w') : ∀ {vs : List Value} {ls : List (List (List UInt8))}, LvOwn w base vs ls → LvOwn w' base vs ls
  | [], [], _ => trivial
  | _ :: _, _ :: _, h => ⟨h.1.still hf, LvOwn.still hf h.2⟩
  | [], _ :: _, h => h.elim
  | _ :: _, [], h => h.elim
theorem LvOwn.app {w w' : World} {base base' n : Nat} {q : Value} {L : List Value} (hq : Own w base' 24 1 q n L) (hf : Fr (OwnB q) w w') : ∀ {vs : List Value} {ls : List (List (List UInt8))}, LvOwn w base vs ls → LvOwn w' base vs ls
  | [], [], _ => trivial
  | _ :: _, _ :: _, h => ⟨h.1.keep hf (fun _ _ _ ho k hk hk' => ho.ne2 hq (by decide) k hk hk') (fun _ _ _ ho k hk hk' => ho.ne2 hq (by decide) k hk hk'), LvOwn.app hq hf h.2⟩
  | [], _ :: _, h => h.elim
  | _ :: _, [], h => h.elim
theorem LvOwn.snoc {w : World} {base : Nat} {v : Value} {l : List (List UInt8)} (hv : LOwn w base v l) : ∀ {vs : List Value} {ls : List (List (List UInt8))}, LvOwn w base vs ls → LvOwn w base (vs ++ [v]) (ls ++ [l])
  | [], [], _ => ⟨hv, trivial⟩
  | _ :: _, _ :: _, h => ⟨h.1, LvOwn.snoc hv h.2⟩
  | [], _ :: _, h => h.elim
  | _ :: _, [], h => h.elim
theorem LvOwn.len {w : World} {base : Nat} : ∀ {vs : List Value} {ls : List (List (List UInt8))}, LvOwn w base vs ls → vs.length = ls.length
  | [], [], _ => rfl
  | _ :: _, _ :: _, h => by simp only [List.length_cons]; rw [LvOwn.len h.2]
  | [], _ :: _, h => h.elim
  | _ :: _, [], h => h.elim
theorem LvOwn.get {w : World} {base : Nat} : ∀ {vs : List Value} {ls : List (List (List UInt8))}, LvOwn w base vs ls → ∀ i, i < ls.length → ∃ v, vs[i]? = some v ∧ LOwn w base v (ls.getD i [])
  | [], [], _, i, h => by simp at h
  | v :: vs, l :: ls, h, 0, _ => ⟨v, rfl, by simpa using h.1⟩
  | v :: vs, l :: ls, h, i + 1, hi => by obtain ⟨v', h1, h2⟩ := LvOwn.get h.2 i (by simpa using hi); exact ⟨v', by simpa using h1, by simpa using h2⟩
  | [], _ :: _, h, _, _ => h.elim
  | _ :: _, [], h, _, _ => h.elim
theorem LOwn.at {w : World} {base : Nat} {v : Value} {ls : List (List UInt8)} (h : LOwn w base v ls) {i : Nat} (hi : i < ls.length) :
    ∃ b o c x, v = .slice (some ⟨b, o, none⟩) ls.length c ∧ w.cell? ⟨b, o + i, none⟩ = some x ∧ Own w base 5 1 x (ls.getD i []).length (bs (ls.getD i [])) := by
  obtain ⟨vs, h1, h2⟩ := h
  obtain ⟨a, c, rfl, _, hr, -⟩ := h1.form
  rw [Nat.mul_one] at hr
  obtain ⟨b, o, rfl, hat⟩ := hr.at (by omega)
  have hl := h2.len
  obtain ⟨l, h3, h4⟩ := h2.get i vs[i] (List.getElem?_eq_getElem (by omega))
  have e : ls.getD i [] = l := by rw [List.getD_eq_getElem?_getD, h3]; rfl
  rw [e]
  exact ⟨b, o, c, vs[i], rfl, hat i _ (List.getElem?_eq_getElem (by omega)), h4⟩
/-- a slice of the levels -/
def LLOwn (w : World) (base : Nat) (v : Value) (lss : List (List (List UInt8))) : Prop := ∃ vs, Own w base 24 1 v lss.length vs ∧ LvOwn w base vs lss
theorem LLOwn.still {w w' : World} {base : Nat} {v : Value} {lss : List (List (List UInt8))} (h : LLOwn w base v lss) (hf : Fr Nob w w') : LLOwn w' base v lss := by
  obtain ⟨vs, h1, h2⟩ := h; exact ⟨vs, h1.still hf, h2.still hf⟩
theorem info_ll : (Tryd.prog.info? 24).map (fun i => (i.zero, i.size, i.bytes)) = some (some (.slice none 0 0), 1, 24) := by kernel_rfl

/-- the levels of leaves -/
def lvN (ls : List (List UInt8)) (k : Nat) : List (List UInt8) := lv nodeL [] (ls.map leafL) k
theorem lvN_all (ls : List (List UInt8)) (k : Nat) : ∀ x ∈ lvN ls k, x.length = 32 ∨ x = [] := by
  unfold lvN
  induction k with
  | zero => intro x hx; simp only [lv, List.mem_map] at hx; obtain ⟨y, _, rfl⟩ := hx; exact .inl (leafL_len y)
  | succ k ih =>
    intro x hx
    simp only [lv, pairUp, List.mem_map, List.mem_range] at hx
    obtain ⟨j, hj, rfl⟩ := hx
    split
    · exact .inl (nodeL_len _ _)
    · rw [List.getD_eq_getElem?_getD, List.getElem?_eq_getElem (by omega), Option.getD_some]
      exact ih _ (List.getElem_mem _)
theorem lvN_short (ls : List (List UInt8)) (k : Nat) : ∀ x ∈ lvN ls k, x.length ≤ 1000000 := by
  intro x hx
  rcases lvN_all ls k x hx with h | h
  · omega
  · subst h; simp
def lenOf (v : Value) : Nat := match v with | .slice _ n _ => n | _ => 0

/-- what newLevels answers -/
def NewLv (ls : List (List UInt8)) (w : World) (e : Ending) (w' : World) : Prop :=
  ∃ v K, e = .returned v ∧ K ≤ ls.length ∧ LLOwn w' w.heap.size v ((List.range (K + 1)).map (lvN ls)) ∧ (lvN ls K).length ≤ 1 ∧ Fr Nob w w'

set_option maxHeartbeats 4000000 in
set_option maxRecDepth 1000000 in
theorem newLevels_any (a : Option Addr) (c : Nat) (ls : List (List UInt8)) (w : World) (hm : ls.length ≤ 1100) (hb : PartsAt w a ls) :
    Calls Tryd.prog 21 #[.slice a ls.length c] w (NewLv ls w) := by
  go_enter Tryd.func21, Tryd.ntmps21
  go_wp2_with fail
  go_loopw [12, 3] (fun i q wr => ∃ j : Nat, j ≤ ls.length ∧ i = .int .i64 (j : Int) ∧ LOwn wr w.heap.size q ((ls.take j).map leafL) ∧ Fr Nob w wr) (fun i _ _ => (ls.length - intOf i).toNat)
  case atStart => exact ⟨0, by omega, rfl, ⟨[], Own.nil _ _ _ _, trivial⟩, Fr.refl _ _⟩
  case round =>
    obtain ⟨j, hj, rfl, hL, hfj⟩ := hrel
    by_cases hlt : j < ls.length
    · have hltI : (j : Int) < (ls.length : Int) := by omega
      obtain ⟨b, o, v, rfl, hc, ap, np, cp, rfl, hpp⟩ := hb.getF hfj hlt
      have hpp' : PartIs w (.slice ap np cp) (ls.getD j []) := ⟨ap, np, cp, rfl, hpp⟩
      have hpr := hpp'.still hfj
      clear hpp hpp'
      have htk : (ls.take (j + 1)).map leafL = (ls.take j).map leafL ++ [leafL (ls.getD j [])] := by
        rw [List.take_succ_eq_append_getElem hlt, List.map_append]; simp [List.getD_eq_getElem?_getD, hlt]
      have HTK := Lib.hid htk; clear htk
      generalize hq : ls.getD j [] = x at *
      clear hq
      obtain ⟨vs, hown, hpo⟩ := hL
      have hll : ((ls.take j).map leafL).length = j := by rw [List.length_map, List.length_take]; omega
      rw [hll] at hown
      have HLL := Lib.hid hll; clear hll
      go_wp2_with fail
      refine (leafHash_any ap np cp x wr hpr).mono ?_
      rintro e w1 ⟨v1, rfl, hown1, hf1⟩
      have hownq := hown.still hf1
      have hpo1 := hpo.still hf1
      have hfr1 := hfj.then hf1
      have hown1' := hown1.mono hfj.size
      clear hown hpo hfj hf1 hc hpr hown1
      obtain ⟨a1, c1, rfl, -⟩ := id hown1'.form
      go_wp2_with (with_reducible refine wl_stop (o := ⟨some 19, _, _, _, _, _⟩) ?_)
      unfold Stop
      refine wl_slit rfl rfl Tryd.underlying24 info_sl [.slice a1 32 c1] rfl (by simp; rfl) rfl rfl ?_
      intro w2 hh2 hf2 hz2
      clear hz2
      have hown2 := hown1'.still hf2
      have hownq2 := hownq.still hf2
      have hpo2 := hpo1.still hf2
      have hfr2 := hfr1.then hf2
      clear hown1' hownq hpo1 hfr1 hf2
      generalize w1.heap.size = g1 at *
      go_wp2_with (with_reducible refine wl_stop (o := ⟨some 20, _, _, _, _, _⟩) ?_)
      unfold Stop
      refine wl_append rfl rfl Tryd.underlying24 info_sl rfl (by decide) hownq2 rfl rfl (Rd.whole hh2) (fun u hu => by simp only [List.mem_singleton] at hu; subst hu; rfl) (by unfold maxLen; omega) (by omega) hfr2.size ?_
      intro v3 w3 hown3 hf3 hb3
      clear hb3
      have hpo3 := hpo2.app hownq2 (by decide) hf3
      have hown3' := hown2.keep hf3 (fun k hk hk' => hown2.ne2 hownq2 (by decide) k hk hk')
      have hfr3 := hownq2.fr hfr2 (Nat.le_refl _) hf3
      have hfin : LOwn w3 w.heap.size v3 ((ls.take (j + 1)).map leafL) := by
        refine ⟨vs ++ [.slice a1 32 c1], ?_, ?_⟩
        · have e : ((ls.take (j + 1)).map leafL).length = j + 1 := by rw [List.length_map, List.length_take]; omega
          rw [e]; exact hown3
        · rw [HTK.out]
          refine hpo3.snoc ?_
          rw [leafL_len]; exact hown3'
      clear hown2 hownq2 hpo2 hf3 hfr2 hpo3 hown3' hown3 hh2
      go_wp2_with fail
      go_roundw
      case rel => exact ⟨j + 1, by omega, by go_num, hfin, hfr3⟩
      case measure => simp [intOf]; omega
    · have hge : ¬ ((j : Int) < (ls.length : Int)) := by omega
      rw [List.take_of_length_le (by omega)] at hL
      have hL0 : LOwn wr w.heap.size u3 (lvN ls 0) := hL
      clear hL hb hj hlt
      have hl0 : (lvN ls 0).length = ls.length := by simp [lvN, lv]
      obtain ⟨a0, c0, rfl⟩ : ∃ a0 c0, u3 = .slice a0 ls.length c0 := by
        obtain ⟨vs0, ho0, hp0⟩ := id hL0
        rw [hl0] at ho0
        obtain ⟨a0, c0, h, -⟩ := id ho0.form
        exact ⟨a0, c0, h⟩
      have HL0 := Lib.hid hl0; clear hl0
      go_wp2_with (with_reducible refine wl_stop (o := ⟨some 23, _, _, _, _, _⟩) ?_)
      unfold Stop
      refine wl_slit rfl rfl Tryd.underlying50 info_ll [.slice a0 ls.length c0] rfl (by simp; rfl) rfl rfl ?_
      intro w2 hh2 hf2 hz2
      clear hz2
      have hown2 := Own.made hh2 w.heap.size hfj.size 1 1 1 (Nat.le_refl _) (by decide) (by simp)
      have hlast := hL0.still hf2
      have hfr2 := hfj.then hf2
      have hll2 : LLOwn w2 w.heap.size (.slice (some ⟨wr.heap.size, 0, none⟩) 1 1) ((List.range (0 + 1)).map (lvN ls)) := ⟨_, hown2, hlast, trivial⟩
      clear hh2 hown2 hL0 hfj hf2
      generalize wr.heap.size = g0 at *
      go_wp2_with fail
      go_loopw [7, 6, 8, 9] (fun q l u v wr => ∃ k : Nat, k + (lvN ls k).length ≤ ls.length + 1 ∧ k ≤ ls.length ∧ LOwn wr w.heap.size q (lvN ls k) ∧ LLOwn wr w.heap.size l ((List.range (k + 1)).map (lvN ls)) ∧ Fr Nob w wr) (fun q _ _ _ _ => lenOf q)
      case atStart => exact ⟨0, by have := HL0.out; omega, by omega, hlast, hll2, hfr2⟩
      case round =>
        clear hlast hll2 hfr2
        obtain ⟨k, hk, hkl, hlast, hll, hfr⟩ := hrel
        obtain ⟨al, cl, rfl, hcl⟩ : ∃ al cl, u7 = .slice al (lvN ls k).length cl ∧ (lvN ls k).length ≤ cl := by
          obtain ⟨vsl, hol, hpl⟩ := id hlast
          obtain ⟨al, cl, h, hcl, -⟩ := hol.form
          exact ⟨al, cl, h, hcl⟩
        have hsucc : lvN ls (k + 1) = pairUp nodeL [] (lvN ls k) := rfl
        have hrange : (List.range (k + 1 + 1)).map (lvN ls) = (List.range (k + 1)).map (lvN ls) ++ [lvN ls (k + 1)] := by rw [List.range_succ, List.map_append]; rfl
        have HR := Lib.hid hrange; clear hrange
        have hres : (lvN ls k).length ≤ 1 → NewLv ls w (.returned u6) wr := fun h => ⟨u6, k, rfl, hkl, hll, h, hfr⟩
        have HRES := Lib.hid hres; clear hres
        have HS := Lib.hid hsucc; clear hsucc
        have hpu := pairUp_len nodeL [] (lvN ls k)
        have HPU := Lib.hid hpu; clear hpu
        have hget := pairUp_get nodeL [] (lvN ls k)
        have HG := Lib.hid hget; clear hget
        have hgt : ∀ i, i < (lvN ls k).length → ((lvN ls k).getD i []).length ≤ 1000000 := fun i hi => by
          rw [List.getD_eq_getElem?_getD, List.getElem?_eq_getElem hi, Option.getD_some]
          exact lvN_short ls k _ (List.getElem_mem _)
        have HGT := Lib.hid hgt; clear hgt
        generalize lvN ls k = xs at *
        obtain ⟨w1, hw1⟩ : ∃ w1, w1 = wr := ⟨_, rfl⟩
        subst hw1
        by_cases h1 : 1 < xs.length
        · have h1I : (1 : Int) < (xs.length : Int) := by omega
          clear HRES
          go_wp2_with fail
          go_loopw [9, 8] (fun i q wq => ∃ (p j : Nat) (vs : List Value), p = 2 * j ∧ j ≤ (xs.length + 1) / 2 ∧ i = .int .i64 (p : Int) ∧ Own wq w1.heap.size 26 1 q j vs ∧ POwn wq w.heap.size vs ((pairUp nodeL [] xs).take j) ∧ Fr Nob w1 wq) (fun i _ _ => (xs.length + 2 - intOf i).toNat)
          case atStart => exact ⟨0, 0, [], rfl, by omega, rfl, Own.nil _ _ _ _, trivial, Fr.refl _ _⟩
          case round =>
            obtain ⟨p, j, vs, hp, hj, rfl, hown, hpo, hfj⟩ := hrel
            by_cases hlt : p < xs.length
            · have hltI : (p : Int) < (xs.length : Int) := by omega
              have hjl : j < (xs.length + 1) / 2 := by omega
              have hgj := HG.out j hjl
              rw [← hp] at hgj
              have htk : (pairUp nodeL [] xs).take (j + 1) = (pairUp nodeL [] xs).take j ++ [(pairUp nodeL [] xs).getD j []] := by
                have h := HPU.out
                rw [List.take_succ_eq_append_getElem (by omega)]; simp [List.getD_eq_getElem?_getD, h, hjl]
              obtain ⟨b, o, cc, x, hvx, hc0, hox⟩ := hlast.at hlt
              simp only [Value.slice.injEq] at hvx
              obtain ⟨rfl, _, rfl⟩ := hvx
              have hc := hfj.cell id hc0
              have hoxj := hox.still hfj
              have hpr := own_part hoxj (HGT.out _ hlt)
              obtain ⟨ap, np, cp, rfl, -⟩ := id hpr
              have hwr := hfr.then hfj
              have hjb : j ≤ 1200 := by omega
              have HP := Lib.hid hp; clear hp
              by_cases hlt2 : p + 1 < xs.length
              · have hlt2I : (p : Int) + 1 < (xs.length : Int) := by omega
                rw [if_pos hlt2] at hgj
                rw [hgj] at htk
                obtain ⟨b', o', cc', x', hvx', hc0', hox'⟩ := hlast.at hlt2
                simp only [Value.slice.injEq, Option.some.injEq, Addr.mk.injEq] at hvx'
                obtain ⟨⟨rfl, rfl, _⟩, _, rfl⟩ := hvx'
                have hc' := hfj.cell id hc0'
                have hpr' := own_part (hox'.still hfj) (HGT.out _ hlt2)
                obtain ⟨ap', np', cp', rfl, -⟩ := id hpr'
                clear hox hox' hoxj hgj
                have HTK := Lib.hid htk; clear htk
                go_wp2_with fail
                have hc2 : wr.cell? ⟨b, o + (p + 1), none⟩ = some (.slice ap' np' cp') := hc'
                have e4 : IntKind.i64.wrap ((p : Int) + 1) = ((p + 1 : Nat) : Int) := by rw [IntWalk.i64_in _ (by omega)]; omega
                have q1 : ((p : Int) + 1).toNat = p + 1 := by omega
                have q2 : (0 : Int) ≤ (p : Int) + 1 := by omega
                have q3 : ¬ (p : Int) + 1 < 0 := by omega
                have hsz1 := hfj.size
                have mkS : ∀ w', Fr Nob w1 w' → Fr Nob w1 w' ∧ w'.cell? ⟨b, o + p, none⟩ = some (.slice ap np cp) ∧ w'.cell? ⟨b, o + (p + 1), none⟩ = some (.slice ap' np' cp') := fun w' hf => ⟨hf, hf.cell id hc0, hf.cell id hc0'⟩
                have MKS := Lib.hid mkS; clear mkS
                have hdr := (Fr.refl Nob wr).drew
                have hprd := hpr.still hdr
                have hprd' := hpr'.still hdr
                go_region_held3 (fun w' => Fr Nob w1 w' ∧ w'.cell? ⟨b, o + p, none⟩ = some (.slice ap np cp) ∧ w'.cell? ⟨b, o + (p + 1), none⟩ = some (.slice ap' np' cp'))
                  (first | (exact MKS.out _ (hfj.then hdr)) | (exact MKS.out _ ((hfj.then hdr).then hfn)) | (exact MKS.out _ (((hfj.then hdr).then hfn).alloc _)) | (exact MKS.out _ ((hown.still ((hdr.then hfn).alloc _)).fr (((hfj.then hdr).then hfn).alloc _) (Nat.le_refl _) hf9)))
                  (first | (go_at_call_of 33 (Value.slice ap np cp); refine (node_any ap np cp _ ap' np' cp' _ _ hprd hprd').mono ?_; rintro e w' ⟨vn, rfl, hownn, hfn⟩; obtain ⟨an, cn, rfl, -⟩ := id hownn.form)
                              | (refine step_append rfl rfl Tryd.underlying24 info_sl rfl (by decide) (hown.still ((hdr.then hfn).alloc _)) rfl rfl (Rd.whole (Has.new _ _ _)) (fun u hu => by simp only [List.mem_singleton] at hu; subst hu; rfl) (by unfold maxLen; omega) (by omega) (Nat.le_trans hsz1 ((hdr.then hfn).alloc _).size) ?_; intro v9 w9 hown9 hf9))
                have hpo9 : POwn w9 w.heap.size (vs ++ [.slice an 32 cn]) ((pairUp nodeL [] xs).take (j + 1)) := by
                  rw [HTK.out]
                  have ho1 := hown.still ((hdr.then hfn).alloc (.cells #[.slice an 32 cn] 26))
                  refine POwn.snoc ?_ ((hpo.still ((hdr.then hfn).alloc _)).app ho1 (by decide) hf9)
                  rw [nodeL_len]
                  have ho2 : Own (w'.alloc (.cells #[.slice an 32 cn] 26)) w.heap.size 5 1 (.slice an 32 cn) 32 (bs (nodeL (xs.getD p []) (xs.getD (p + 1) []))) := (hownn.mono (Nat.le_trans hfr.size (Nat.le_trans hsz1 hdr.size))).still ((Fr.refl Nob w').alloc _)
                  exact ho2.keep hf9 (fun k hk hk' => ho2.ne2 ho1 (by decide) k hk hk')
                have hfr9 : Fr Nob w1 w9 := And.left (by assumption)
                clear hown hpo hf9 hownn hfn hprd hprd' hc hc' hc2 hpr hpr' hc0 hc0' hfj hwr MKS HTK e4 q1 q2 q3
                go_wp2_with fail
                go_roundw
                case rel => exact ⟨p + 2, j + 1, _, by have := HP.out; omega, by omega, by go_num, hown9, hpo9, hfr9⟩
                case measure => simp [intOf]; omega
              · have hlt2I : ¬ (p : Int) + 1 < (xs.length : Int) := by omega
                rw [if_neg hlt2] at hgj
                rw [hgj] at htk
                have HTK := Lib.hid htk; clear htk hgj
                have hoxw := hoxj.mono (Nat.le_refl w.heap.size)
                clear hc0 hox hpr
                go_wp2_with (with_reducible refine wl_stop (o := ⟨some 57, _, _, _, _, _⟩) ?_)
                unfold Stop
                refine wl_slit rfl rfl Tryd.underlying24 info_sl [.slice ap np cp] rfl (by simp; rfl) rfl rfl ?_
                intro w4 hh4 hf4 hz4
                clear hz4
                have hown4 := hown.still hf4
                have hpo4 := hpo.still hf4
                have hox4 := hoxj.still hf4
                have hfr4 := hfj.then hf4
                clear hown hpo hoxj hoxw hf4 hfj hwr hc
                generalize wr.heap.size = g4 at *
                go_wp2_with (with_reducible refine wl_stop (o := ⟨some 58, _, _, _, _, _⟩) ?_)
                unfold Stop
                refine wl_append rfl rfl Tryd.underlying24 info_sl rfl (by decide) hown4 rfl rfl (Rd.whole hh4) (fun u hu => by simp only [List.mem_singleton] at hu; subst hu; rfl) (by unfold maxLen; omega) (by omega) hfr4.size ?_
                intro v5 w5 hown5 hf5 hb5
                clear hb5
                have hpo5 : POwn w5 w.heap.size (vs ++ [.slice ap np cp]) ((pairUp nodeL [] xs).take (j + 1)) := by
                  rw [HTK.out]
                  exact (hpo4.app hown4 (by decide) hf5).snoc (hox4.keep hf5 (fun k hk hk' => hox4.ne2 hown4 (by decide) k hk hk'))
                have hfr5 := hown4.fr hfr4 (Nat.le_refl _) hf5
                clear hown4 hpo4 hox4 hfr4 hf5 hh4 HTK
                go_wp2_with fail
                go_roundw
                case rel => exact ⟨p + 2, j + 1, _, by have := HP.out; omega, by omega, by go_num, hown5, hpo5, hfr5⟩
                case measure => simp [intOf]; omega
            · have hltI : ¬ (p : Int) < (xs.length : Int) := by omega
              have hjl : j = (xs.length + 1) / 2 := by omega
              rw [List.take_of_length_le (by rw [HPU.out]; omega), ← HS.out] at hpo
              have hlen1 : (lvN ls (k + 1)).length = j := by rw [HS.out, HPU.out, hjl]
              have hnext : LOwn wr w.heap.size u8 (lvN ls (k + 1)) := ⟨vs, by rw [hlen1]; exact hown.mono hfr.size, hpo⟩
              have hll1 := hll.still hfj
              have hfr1 := hfr.then hfj
              obtain ⟨an, cn, rfl, -⟩ := id hown.form
              have hk1 : k + 1 + j ≤ ls.length + 1 := by omega
              have hjx : j < xs.length := by omega
              have HJ := Lib.hid hjl
              have HL1 := Lib.hid hlen1
              have HPJ := Lib.hid hp
              clear hown hpo hll hlast hfj hfr hjl hlen1 hp
              obtain ⟨vsl, hol, hvl⟩ := hll1
              rw [List.length_map, List.length_range] at hol
              go_wp2_with (with_reducible refine wl_stop (o := ⟨some 61, _, _, _, _, _⟩) ?_)
              unfold Stop
              refine wl_slit rfl rfl Tryd.underlying50 info_ll [.slice an j cn] rfl (by simp; rfl) rfl rfl ?_
              intro w4 hh4 hf4 hz4
              clear hz4
              have hol4 := hol.still hf4
              have hvl4 := hvl.still hf4
              have hnext4 := hnext.still hf4
              have hfr4 := hfr1.then hf4
              clear hol hvl hnext hfr1 hf4
              generalize wr.heap.size = g4 at *
              go_wp2_with (with_reducible refine wl_stop (o := ⟨some 62, _, _, _, _, _⟩) ?_)
              unfold Stop
              refine wl_append rfl rfl Tryd.underlying50 info_ll rfl (by decide) hol4 rfl rfl (Rd.whole hh4) (fun u hu => by simp only [List.mem_singleton] at hu; subst hu; rfl) (by unfold maxLen; omega) (by omega) hfr4.size ?_
              intro v5 w5 hown5 hf5 hb5
              clear hb5
              have hnext5 : LOwn w5 w.heap.size (.slice an j cn) (lvN ls (k + 1)) := hnext4.keep hf5 (fun _ _ _ ho k hk hk' => ho.ne2 hol4 (by decide) k hk hk') (fun _ _ _ ho k hk hk' => ho.ne2 hol4 (by decide) k hk hk')
              have hll5 : LLOwn w5 w.heap.size v5 ((List.range (k + 1 + 1)).map (lvN ls)) := by
                refine ⟨vsl ++ [.slice an j cn], ?_, ?_⟩
                · rw [List.length_map, List.length_range]; exact hown5
                · rw [HR.out]
                  exact (hvl4.app hol4 hf5).snoc hnext5
              have hfr5 := hol4.fr hfr4 (Nat.le_refl _) hf5
              clear hol4 hvl4 hnext4 hfr4 hf5 hh4 hown5
              go_wp2_with fail
              go_roundw
              case rel => exact ⟨k + 1, by rw [HL1.out]; omega, by omega, hnext5, hll5, hfr5⟩
              case measure => simp only [lenOf]; exact hjx
        · have h1I : ¬ (1 : Int) < (xs.length : Int) := by omega
          have hres := HRES.out (by omega)
          clear HRES
          go_wp2_with fail
          go_ret
          exact hres
end Go.Proofs.YtgkakddldobpkaaDoor

/- tree's levels: root, up. -/
namespace Go.Proofs.YtgkakddldobpkaaDoor
open Go.RowKit Go.Mv Mvp Mvt
attribute [local irreducible] permS permP toB turnsK squeeze permN permB spongeB feed frameL framesL tagL leafL nodeL

theorem lvN_32 (ls : List (List UInt8)) (k : Nat) : ∀ x ∈ lvN ls k, x.length = 32 := by
  unfold lvN
  induction k with
  | zero => intro x hx; simp only [lv, List.mem_map] at hx; obtain ⟨y, _, rfl⟩ := hx; exact leafL_len y
  | succ k ih =>
    intro x hx
    simp only [lv, pairUp, List.mem_map, List.mem_range] at hx
    obtain ⟨j, hj, rfl⟩ := hx
    split
    · exact nodeL_len _ _
    · rw [List.getD_eq_getElem?_getD, List.getElem?_eq_getElem (by omega), Option.getD_some]
      exact ih _ (List.getElem_mem _)
theorem lvN_get32 (ls : List (List UInt8)) (k i : Nat) (hi : i < (lvN ls k).length) : ((lvN ls k).getD i []).length = 32 := by
  rw [List.getD_eq_getElem?_getD, List.getElem?_eq_getElem hi, Option.getD_some]
  exact lvN_32 ls k _ (List.getElem_mem _)
theorem LLOwn.at {w : World} {base : Nat} {v : Value} {lss : List (List (List UInt8))} (h : LLOwn w base v lss) {k : Nat} (hk : k < lss.length) :
    ∃ g o c x, v = .slice (some ⟨g, o, none⟩) lss.length c ∧ w.cell? ⟨g, o + k, none⟩ = some x ∧ LOwn w base x (lss.getD k []) := by
  obtain ⟨vs, h1, h2⟩ := h
  obtain ⟨a, c, rfl, _, hr, -⟩ := h1.form
  rw [Nat.mul_one] at hr
  obtain ⟨b, o, rfl, hat⟩ := hr.at (by omega)
  obtain ⟨x, h3, h4⟩ := h2.get k hk
  exact ⟨b, o, c, x, rfl, hat k _ h3, h4⟩
theorem range_get {α : Type} (f : Nat → α) (K k : Nat) (d : α) (h : k ≤ K) : ((List.range (K + 1)).map f).getD k d = f k := by
  rw [List.getD_eq_getElem?_getD, List.getElem?_map, List.getElem?_range (by omega)]; rfl
/-- the levels of some leaves -/
def LvAll (w : World) (base : Nat) (v : Value) (ls : List (List UInt8)) (K : Nat) : Prop := LLOwn w base v ((List.range (K + 1)).map (lvN ls))
theorem LvAll.still {w w' : World} {base : Nat} {v : Value} {ls : List (List UInt8)} {K : Nat} (h : LvAll w base v ls K) (hf : Fr Nob w w') : LvAll w' base v ls K := LLOwn.still h hf
theorem LvAll.at {w : World} {base : Nat} {v : Value} {ls : List (List UInt8)} {K : Nat} (h : LvAll w base v ls K) {k : Nat} (hk : k ≤ K) :
    ∃ g o c x, v = .slice (some ⟨g, o, none⟩) (K + 1) c ∧ w.cell? ⟨g, o + k, none⟩ = some x ∧ LOwn w base x (lvN ls k) := by
  obtain ⟨g, o, c, x, h1, h2, h3⟩ := LLOwn.at h (k := k) (by rw [List.length_map, List.length_range]; omega)
  rw [List.length_map, List.length_range] at h1
  rw [range_get _ _ _ _ hk] at h3
  exact ⟨g, o, c, x, h1, h2, h3⟩
theorem LOwn.shape {w : World} {base : Nat} {v : Value} {ls : List (List UInt8)} (h : LOwn w base v ls) : ∃ a c, v = .slice a ls.length c := by
  obtain ⟨vs, h1, h2⟩ := h
  obtain ⟨a, c, rfl, -⟩ := h1.form
  exact ⟨a, c, rfl⟩
/-- the root over leaves -/
def rootL (ls : List (List UInt8)) : List UInt8 := if ls.length = 0 then tagL kNone [] else rootW nodeL [] (ls.map leafL)
theorem rootL_len (ls : List (List UInt8)) : (rootL ls).length = 32 := by
  unfold rootL
  split
  · exact tagL_len _ _
  · rename_i h
    rw [rootW]
    split
    · cases ls with
      | nil => simp at h
      | cons a l => simp [leafL_len]
    · exact nodeL_len _ _
theorem kNone_eq : (⟨#[110, 111, 110, 101]⟩ : ByteArray) = mkS kNone := rfl

set_option maxHeartbeats 1000000 in
set_option maxRecDepth 1000000 in
theorem lroot_any (v : Value) (base K : Nat) (ls : List (List UInt8)) (w : World) (hl : LvAll w base v ls K) (hK : (lvN ls K).length ≤ 1) (hKl : K ≤ ls.length) (hm : ls.length ≤ 1100) :
    Calls Tryd.prog 22 #[v] w fun e w' => ∃ v, e = .returned v ∧ Own w' w.heap.size 5 1 v 32 (bs (rootL ls)) ∧ Fr Nob w w' := by
  obtain ⟨g, o, c, x0, rfl, hc0, hx0⟩ := hl.at (k := 0) (by omega)
  obtain ⟨a0, c0, rfl⟩ := hx0.shape
  have hl0 : (lvN ls 0).length = ls.length := by simp [lvN, lv]
  rw [hl0] at hc0
  have hc0' : w.cell? ⟨g, o, none⟩ = some (.slice a0 ls.length c0) := hc0
  clear hc0 hx0
  by_cases h0 : ls.length = 0
  · have hr : rootL ls = tagL kNone [] := if_pos h0
    have h0I : ((ls.length : Int) == 0) = true := by simp [h0]
    have h0N : (ls.length == 0) = true := by simp [h0]
    rw [hr]
    have hT := Tag_any (mkS kNone) none 0 [] w (by rw [mkS_size]; decide) (by simp) ⟨[], Rd.nil _ _, by simp⟩
    rw [mkS_toList] at hT
    have HT := Lib.hid hT; clear hT hl hr hl0
    go_enter Tryd.func22, Tryd.ntmps22
    rw [kNone_eq]
    go_wp2_with fail
    refine HT.out.mono ?_
    rintro e w' ⟨v', rfl, hown, hf⟩
    go_wp2_with fail
    go_ret
    exact ⟨_, rfl, hown, hf⟩
  · have h0I : ((ls.length : Int) == 0) = false := by simpa using h0
    have h0N : (ls.length == 0) = false := by simpa using h0
    have hr : rootL ls = (lvN ls K).getD 0 [] := by
      unfold rootL
      rw [if_neg h0]
      exact (root_top nodeL [] (ls.map leafL) K (by rw [List.length_map]; omega) hK).symm
    have h1 : 0 < (lvN ls K).length := (lv_len nodeL [] (ls.map leafL) K 0).2 (by rw [List.length_map]; omega)
    obtain ⟨g', o', c', xK, hv, hcK, hxK⟩ := hl.at (k := K) (Nat.le_refl _)
    simp only [Value.slice.injEq, Option.some.injEq, Addr.mk.injEq] at hv
    obtain ⟨⟨rfl, rfl, -⟩, -, rfl⟩ := hv
    obtain ⟨b, ob, cb, y, rfl, hcy, hoy⟩ := hxK.at h1
    have hcy' : w.cell? ⟨b, ob, none⟩ = some y := hcy
    have h32 := lvN_get32 ls K 0 h1
    rw [h32] at hoy
    rw [← hr] at hoy
    obtain ⟨ay, cy, rfl, -, hry, -⟩ := id hoy.form
    rw [Nat.mul_one] at hry
    obtain ⟨by_, oy, rfl, -⟩ := id (hry.at (by decide))
    have hryb : RdB w (some ⟨by_, oy, none⟩) 32 (rootL ls) := hry
    have hlen1 : (lvN ls K).length = 1 := by omega
    rw [hlen1] at hcK
    have HC := Lib.hid (bclone_some ⟨by_, oy, none⟩ 32 cy (rootL ls) w (by decide) hryb)
    have eK : ((K : Nat) : Int) + 1 - 1 = (K : Int) := by omega
    clear hl hxK hcy hoy hry hryb hr h32 h1 hK hl0 hlen1
    generalize rootL ls = rt at *
    go_enter Tryd.func22, Tryd.ntmps22
    go_wp2_with fail
    refine HC.out.mono ?_
    rintro e w' ⟨v', rfl, hown, hf⟩
    go_wp2_with fail
    go_ret
    exact ⟨_, rfl, hown, hf⟩
end Go.Proofs.YtgkakddldobpkaaDoor

/- tree's levels: up. -/
namespace Go.Proofs.YtgkakddldobpkaaDoor
open Go.RowKit Go.Mv Mvp Mvt
attribute [local irreducible] permS permP toB turnsK squeeze permN permB spongeB feed frameL framesL tagL leafL nodeL

/-- what stands beside the way up -/
def upsL (ls : List (List UInt8)) (t i c : Nat) : List (List UInt8) := ups nodeL [] (ls.map leafL) t i c
theorem upsL_zero (ls : List (List UInt8)) (t i : Nat) : upsL ls t i 0 = [] := rfl
theorem upsL_succ (ls : List (List UInt8)) (t i c : Nat) : upsL ls t i (c + 1) = (if i ^^^ 1 < (lvN ls t).length then [(lvN ls t).getD (i ^^^ 1) []] else []) ++ upsL ls (t + 1) (i / 2) c := rfl
theorem upsL_32 (ls : List (List UInt8)) : ∀ c t i, ∀ x ∈ upsL ls t i c, x.length = 32
  | 0, t, i, x, hx => by simp [upsL_zero] at hx
  | c + 1, t, i, x, hx => by
    rw [upsL_succ, List.mem_append] at hx
    rcases hx with hx | hx
    · split at hx
      · simp only [List.mem_singleton] at hx; subst hx; exact lvN_get32 ls t _ (by assumption)
      · simp at hx
    · exact upsL_32 ls c _ _ x hx
theorem upsL_len (ls : List (List UInt8)) : ∀ c t i, (upsL ls t i c).length ≤ c
  | 0, t, i => by simp [upsL_zero]
  | c + 1, t, i => by
    rw [upsL_succ, List.length_append]
    have := upsL_len ls c (t + 1) (i / 2)
    split
    · rw [List.length_singleton]; omega
    · rw [List.length_nil]; omega
theorem SOwn.snoc {w w1 w2 w3 : World} {base : Nat} {vs : List Value} {ls : List (List UInt8)} {l : List UInt8} {v : Value} (hp : POwn w base vs ls) (hs : Sep vs) (hv : Own w1 w.heap.size 5 1 v l.length (bs l)) (hb : base ≤ w.heap.size)
    (hf1 : Fr Nob w w1) (hf2 : Fr Nob w1 w2) {q q' : Value} (hq : Own w2 base 26 1 q vs.length vs) (hf3 : Fr (OwnB q) w2 w3) (hq' : Own w3 base 26 1 q' (vs.length + 1) (vs ++ [v])) : SOwn w3 base q' (ls ++ [l]) := by
  have hpl := hp.len
  refine ⟨vs ++ [v], ?_, ?_, ?_⟩
  · rw [List.length_append, ← hpl]; exact hq'
  · refine ((hp.still (hf1.then hf2)).app hq (by decide) hf3).snoc ?_
    have ho := (hv.mono hb).still hf2
    exact ho.keep hf3 (fun k hk hk' => ho.ne2 hq (by decide) k hk hk')
  · exact Sep.snoc hs hp hv

set_option maxHeartbeats 2000000 in
set_option maxRecDepth 1000000 in
theorem ups_any (v : Value) (base K : Nat) (ls : List (List UInt8)) (t0 i0 : Nat) (w : World) (hl : LvAll w base v ls K) (hm : ls.length ≤ 1100) (hKl : K ≤ ls.length) (ht0 : t0 ≤ K) (hi0 : i0 ≤ 1000000) :
    Calls Tryd.prog 23 #[v, .int .i64 (t0 : Int), .int .i64 (i0 : Int)] w fun e w' => ∃ q, e = .returned q ∧ SOwn w' w.heap.size q (upsL ls t0 i0 (K - t0)) ∧ Fr Nob w w' := by
  obtain ⟨g, o, c, x0, rfl, -, -⟩ := hl.at (k := 0) (by omega)
  have hul := upsL_len ls (K - t0) t0 i0
  go_enter Tryd.func23, Tryd.ntmps23
  go_wp2_with fail
  go_loopw [1, 2, 6, 7] (fun l i q z wr => ∃ (t i' : Nat) (pre : List (List UInt8)), t ≤ K ∧ i' ≤ 1000000 ∧ l = .int .i64 (t : Int) ∧ i = .int .i64 (i' : Int) ∧ SOwn wr w.heap.size q pre ∧ pre ++ upsL ls t i' (K - t) = upsL ls t0 i0 (K - t0) ∧ Fr Nob w wr) (fun l _ _ _ _ => ((K : Int) - intOf l).toNat)
  case atStart => exact ⟨t0, i0, [], ht0, hi0, rfl, rfl, SOwn.nil _ _, rfl, Fr.refl _ _⟩
  case round =>
    obtain ⟨t, i, pre, ht, hi, rfl, rfl, hS, heq, hfr⟩ := hrel
    have hpre : pre.length ≤ 1100 := by
      have h1 := congrArg List.length heq
      rw [List.length_append] at h1
      omega
    have HEQ := Lib.hid heq; clear heq
    by_cases hlt : t < K
    · have hltI : (t : Int) < (K : Int) := by omega
      obtain ⟨c', hc'⟩ : ∃ c', K - t = c' + 1 := ⟨K - t - 1, by omega⟩
      have heq2 := HEQ.out
      rw [hc', upsL_succ] at heq2
      have hc2 : K - (t + 1) = c' := by omega
      have HEQ2 := Lib.hid heq2; clear heq2
      have HC2 := Lib.hid hc2; clear hc2 hc'
      have hx : bits .xor .i64 (i : Int) 1 = ((i ^^^ 1 : Nat) : Int) := by
        have := xor_i64 i 1 (by omega) (by decide)
        exact this
      have hxl : i ^^^ 1 < 1048576 := Nat.xor_lt_two_pow (n := 20) (by omega) (by decide)
      obtain ⟨g', o', cc, x, hv, hcx, hox⟩ := (hl.still hfr).at (k := t) ht
      simp only [Value.slice.injEq, Option.some.injEq, Addr.mk.injEq] at hv
      obtain ⟨⟨rfl, rfl, -⟩, -, rfl⟩ := hv
      have hget := fun h => lvN_get32 ls t (i ^^^ 1) h
      obtain ⟨ax, cx, rfl⟩ := hox.shape
      have hxsh := fun (h : i ^^^ 1 < (lvN ls t).length) => hox.at h
      have HXS := Lib.hid hxsh; clear hxsh
      have HGET := Lib.hid hget; clear hget
      generalize lvN ls t = xs at *
      generalize i ^^^ 1 = j at *
      clear hox
      by_cases hin : j < xs.length
      · have hinI : (j : Int) < (xs.length : Int) := by omega
        obtain ⟨b, ob, cb, y, hv, hcy, hoy⟩ := HXS.out hin
        simp only [Value.slice.injEq] at hv
        obtain ⟨rfl, -, rfl⟩ := hv
        have h32 := HGET.out hin
        have heq3 := HEQ2.out
        rw [if_pos hin] at heq3
        rw [h32] at hoy
        generalize xs.getD j [] = yl at *
        have H32 := Lib.hid h32; clear h32
        have HEQ3 := Lib.hid heq3; clear heq3 HEQ2
        obtain ⟨ay, cy, rfl, -, hry, -⟩ := id hoy.form
        rw [Nat.mul_one] at hry
        obtain ⟨by_, oy, rfl, -⟩ := id (hry.at (by decide))
        have hryb : RdB wr (some ⟨by_, oy, none⟩) 32 yl := hry
        have HC := Lib.hid (bclone_some ⟨by_, oy, none⟩ 32 cy yl wr (by decide) hryb)
        obtain ⟨vs, hown, hpo, hsep⟩ := hS
        have hvl := hpo.len
        have HVL := Lib.hid hvl; clear hvl hry hryb hoy
        go_wp2_with fail
        refine HC.out.mono ?_
        rintro e w1 ⟨v1, rfl, hown1, hf1⟩
        obtain ⟨a1, c1, rfl, -⟩ := id hown1.form
        have hownq := hown.still hf1
        have hfr1 := hfr.then hf1
        clear hcx hcy
        go_wp2_with (with_reducible refine wl_stop (o := ⟨some 33, _, _, _, _, _⟩) ?_)
        unfold Stop
        refine wl_slit rfl rfl Tryd.underlying24 info_sl [.slice a1 32 c1] rfl (by simp; rfl) rfl rfl ?_
        intro w2 hh2 hf2 hz2
        clear hz2
        have hownq2 := hownq.still hf2
        have hfr2 := hfr1.then hf2
        have hbw := hfr.size
        generalize w1.heap.size = g1 at *
        go_wp2_with (with_reducible refine wl_stop (o := ⟨some 34, _, _, _, _, _⟩) ?_)
        unfold Stop
        refine wl_append rfl rfl Tryd.underlying24 info_sl rfl (by decide) hownq2 rfl rfl (Rd.whole hh2) (fun u hu => by simp only [List.mem_singleton] at hu; subst hu; rfl) (by unfold maxLen; omega) (by omega) hfr2.size ?_
        intro v3 w3 hown3 hf3 hb3
        clear hb3
        have hfr3 := hownq2.fr hfr2 (Nat.le_refl _) hf3
        have hS3 : SOwn w3 w.heap.size v3 (pre ++ [yl]) := SOwn.snoc hpo hsep (by rw [H32.out]; exact hown1) hbw hf1 hf2 (by rw [HVL.out]; exact hownq2) hf3 (by rw [HVL.out]; exact hown3)
        clear hown hpo hsep hown1 hownq hownq2 hfr1 hfr2 hf1 hf2 hf3 hown3 hh2 hfr hl HC
        go_wp2_with fail
        go_roundw
        case rel => exact ⟨t + 1, i / 2, pre ++ [yl], by omega, by omega, by go_num, by go_num, hS3, by rw [HC2.out, List.append_assoc]; exact HEQ3.out, hfr3⟩
        case measure => simp [intOf]; omega
      · have hinI : ¬ (j : Int) < (xs.length : Int) := by omega
        have heq3 := HEQ2.out
        rw [if_neg hin, List.nil_append] at heq3
        have HEQ3 := Lib.hid heq3; clear heq3 HEQ2
        go_wp2_with fail
        go_roundw
        case rel => exact ⟨t + 1, i / 2, pre, by omega, by omega, by go_num, by go_num, hS, by rw [HC2.out]; exact HEQ3.out, hfr⟩
        case measure => simp [intOf]; omega
    · have hge : ¬ (t : Int) < (K : Int) := by omega
      obtain rfl : t = K := by omega
      have heq2 := HEQ.out
      rw [Nat.sub_self, upsL_zero, List.append_nil] at heq2
      rw [heq2] at hS
      clear HEQ heq2
      go_wp2_with fail
      go_ret
      exact ⟨_, rfl, hS, hfr⟩
end Go.Proofs.YtgkakddldobpkaaDoor

/- math/bits.TrailingZeros64: the walk. -/
namespace Go.Proofs.YtgkakddldobpkaaDoor
open Go.RowKit

set_option maxHeartbeats 1000000 in
theorem tz64_core (x k idx : Nat) (w : World) (hx0 : ((x : Int) == 0) = false)
    (key : IntKind.u64.wrap (bits BinOp.and IntKind.u64 (x : Int) (IntKind.u64.wrap (-(x : Int))) * 285870213051353865) / 288230376151711744 = (idx : Int))
    (hi : idx < 64) (hk : k < 64) (hcell : w.cell? ⟨0, idx, none⟩ = some (.int .u8 k)) :
    Calls Tryd.prog 37 #[.int .u64 x] w fun e w' => e = .returned (.int .i64 k) ∧ w' = w := by
  go_enter Tryd.func37, Tryd.ntmps37
  go_wp2_with (simp only [key])
  go_ret
  exact ⟨rfl, rfl⟩
theorem tz64_zero (w : World) :
    Calls Tryd.prog 37 #[.int .u64 0] w fun e w' => e = .returned (.int .i64 64) ∧ w' = w := by
  go_enter Tryd.func37, Tryd.ntmps37
  go_wp2
  go_ret
  exact ⟨rfl, rfl⟩
/-- every x -/
theorem tz64_any (x : Nat) (hx : x < 18446744073709551616) (w : World) (hT : TabAt 0 Lib.deBruijn64tab w) :
    Calls Tryd.prog 37 #[.int .u64 (x : Int)] w fun e w' => e = .returned (.int .i64 (Lib.ctz 64 x)) ∧ w' = w := by
  by_cases hx0 : x = 0
  · subst hx0
    exact tz64_zero w
  · obtain ⟨hlow, hk⟩ := Lib.lowest_bit 64 x hx0 hx
    obtain ⟨hi, htab⟩ := Lib.deBruijn64_at _ hk
    have hcell := hT _ hi
    rw [htab] at hcell
    exact tz64_core x _ _ w (by simp; omega) (tz64_key x _ hx hx0 hlow) hi hk hcell
end Go.Proofs.YtgkakddldobpkaaDoor

/- mintvaultlaw1.SpongeBegins: the walk of the law -/
namespace Mvp
theorem squeeze_take (k : Nat) : ∀ (j : Nat) (S : List UInt64), j ≤ k → (squeeze S k).take (136 * j) = squeeze S j := by
  induction k with
  | zero => intro j S h; have : j = 0 := by omega
            subst this; simp [squeeze]
  | succ k ih =>
    intro j S h
    cases j with
    | zero => simp [squeeze]
    | succ j =>
      rw [squeeze, squeeze, List.take_append, toB_len, List.take_of_length_le (by rw [toB_len]; omega), show 136 * (j + 1) - 136 = 136 * j by omega, ih j (permS S) (by omega)]
theorem outB_take (S : List UInt64) (n m : Nat) (h : n ≤ m) : (outB S m).take n = outB S n := by
  unfold outB
  rw [List.take_take, Nat.min_eq_left h, ← squeeze_take (pieces m) (pieces n) S (by unfold pieces; omega), List.take_take, Nat.min_eq_left (by unfold pieces; omega)]
theorem spongeB_take (l : List UInt8) (e : UInt8) (n m : Nat) (h : n ≤ m) : (spongeB l e m).take n = spongeB l e n := outB_take _ _ _ h
theorem hash_none : (spongeB [] 6 32)[0]? = some 0xA7 ∧ (spongeB [] 6 32)[1]? = some 0xFF := by decide +kernel
end Mvp
namespace Go.Proofs.YtgkakddldobpkaaDoor
open Go.RowKit Go.Mv Mvp
attribute [local irreducible] permS permP toB turnsK squeeze permN permB spongeB feed frameL framesL tagL

end Go.Proofs.YtgkakddldobpkaaDoor

/- tree.Grown. -/
namespace Go.Proofs.YtgkakddldobpkaaDoor
open Go.RowKit Go.Mv Mvp Mvt
attribute [local irreducible] permS permP toB turnsK squeeze permN permB spongeB feed frameL framesL tagL leafL nodeL

/-- a part that does not lie in block g -/
def POff (w : World) (g : Nat) (v : Value) (l : List UInt8) : Prop := ∃ a n c, v = .slice a n c ∧ n ≤ c ∧ n ≤ 1000000 ∧ RdB w a n l ∧ Old w a ∧ Off (Mv.One g) a
theorem POff.part {w : World} {g : Nat} {v : Value} {l : List UInt8} (h : POff w g v l) : PartIs w v l := by
  obtain ⟨a, n, c, h1, h2, h3, h4, h5, _⟩ := h; exact ⟨a, n, c, h1, h2, h3, h4, h5⟩
theorem POff.still {w w' : World} {g : Nat} {v : Value} {l : List UInt8} (h : POff w g v l) (hf : Fr Nob w w') : POff w' g v l := by
  obtain ⟨a, n, c, h1, h2, h3, h4, h5, h6⟩ := h; exact ⟨a, n, c, h1, h2, h3, h4.still hf, h5.grow hf.size, h6⟩
theorem POff.one {w w' : World} {g : Nat} {v : Value} {l : List UInt8} (h : POff w g v l) (hf : Fr (Mv.One g) w w') : POff w' g v l := by
  obtain ⟨a, n, c, h1, h2, h3, h4, h5, h6⟩ := h; exact ⟨a, n, c, h1, h2, h3, h4.keep hf h6, h5.grow hf.size, h6⟩
theorem POff.old {w : World} {g : Nat} {v : Value} {l : List UInt8} (h : PartIs w v l) (hg : w.heap.size ≤ g) : POff w g v l := by
  obtain ⟨a, n, c, h1, h2, h3, h4, h5⟩ := h; exact ⟨a, n, c, h1, h2, h3, h4, h5, h5.off hg⟩
theorem POff.own {w : World} {g base : Nat} {v : Value} {n : Nat} {l : List UInt8} (h : Own w base 5 1 v n (bs l)) (hn : n ≤ 1000000) {L : List Value} {T : TypeId} (hg : Has w g L T) (hT : 5 ≠ T) : POff w g v l := by
  have hp := own_part h hn
  obtain ⟨a, n', c, rfl, h2, h3, h4, h5⟩ := hp
  refine ⟨a, n', c, rfl, h2, h3, h4, h5, ?_⟩
  intro x hx (e : x.block = g)
  refine h.ne hg hT ?_
  subst hx
  show some x.block = some g
  rw [e]
theorem PartsAt.tail {w : World} {a : Option Addr} {x : List UInt8} {ls : List (List UInt8)} (h : PartsAt w a (x :: ls)) (c : Nat) (hc : ls.length + 1 ≤ c) : PartsAt w (cutAt a 1 c) ls := by
  obtain ⟨vs, hr, hv⟩ := h
  have h1 := cutAt_rd hr 1 (ls.length + 1) c (by omega) hc (by simp)
  have hl := hr.len
  refine ⟨vs.drop 1, ?_, ?_⟩
  · rw [List.take_of_length_le (by rw [List.length_drop, hl]; simp)] at h1
    simpa using h1
  · intro i v hi
    rw [List.getElem?_drop] at hi
    obtain ⟨l, h2, h3⟩ := hv (1 + i) v hi
    refine ⟨l, ?_, h3⟩
    rw [Nat.add_comm 1 i, List.getElem?_cons_succ] at h2
    exact h2

/-- what the program answers, for m below n -/
def grownL (old root : List UInt8) (m n : Nat) (gl : List (List UInt8)) : Bool :=
  match grow0 nodeL (m - 1) (n - 1) gl with
  | some (x, y) => decide (x = old) && decide (y = root)
  | none => false

set_option maxHeartbeats 1000000 in
set_option maxRecDepth 1000000 in
theorem grown_bad (r : Option Addr) (rn rc : Nat) (m n : Int) (a : Option Addr) (an ac : Nat) (p : Option Addr) (c : Nat) (ls : List (List UInt8)) (w : World) (hm : ls.length ≤ 1000000) (hb : PartsAt w p ls)
    (h : n < 1 ∨ 1048576 < n ∨ m < 1 ∨ n < m ∨ sz32 ls = false) :
    Calls Tryd.prog 17 #[.slice r rn rc, .int .i64 m, .slice a an ac, .int .i64 n, .slice p ls.length c] w fun e w' => e = .returned (.bool false) ∧ w = w' := by
  have h' : n < 1 ∨ (¬ n < 1 ∧ 1048576 < n) ∨ (¬ n < 1 ∧ ¬ 1048576 < n ∧ m < 1) ∨ (¬ n < 1 ∧ ¬ 1048576 < n ∧ ¬ m < 1 ∧ n < m) ∨ (¬ n < 1 ∧ ¬ 1048576 < n ∧ ¬ m < 1 ∧ ¬ n < m ∧ sz32 ls = false) := by
    by_cases h1 : n < 1
    · exact .inl h1
    by_cases h2 : 1048576 < n
    · exact .inr (.inl ⟨h1, h2⟩)
    by_cases h3 : m < 1
    · exact .inr (.inr (.inl ⟨h1, h2, h3⟩))
    by_cases h4 : n < m
    · exact .inr (.inr (.inr (.inl ⟨h1, h2, h3, h4⟩)))
    · exact .inr (.inr (.inr (.inr ⟨h1, h2, h3, h4, by simpa [h1, h2, h3, h4] using h⟩)))
  clear h
  go_enter Tryd.func17, Tryd.ntmps17
  rcases h' with h1 | ⟨h1, h2⟩ | ⟨h1, h2, h3⟩ | ⟨h1, h2, h3, h4⟩ | ⟨h1, h2, h3, h4, h5⟩
  case inr.inr.inr.inr =>
    have H5 := Lib.hid h5; clear h5
    go_wp2_with fail
    refine (sized_any p c ls w hm hb).mono ?_
    rintro e w' ⟨rfl, rfl⟩
    rw [H5.out]
    go_wp2_with fail
    go_ret
    exact ⟨rfl, rfl⟩
  all_goals
    go_wp2_with fail
    go_ret
    exact ⟨rfl, rfl⟩

set_option maxHeartbeats 1000000 in
set_option maxRecDepth 1000000 in
theorem grown_eq (r : Option Addr) (rn rc : Nat) (old : List UInt8) (m : Nat) (a : Option Addr) (an ac : Nat) (root : List UInt8) (p : Option Addr) (c : Nat) (ls : List (List UInt8)) (w : World) (hm : ls.length ≤ 1000000) (hb : PartsAt w p ls)
    (hr : RdB w r rn old) (ha : RdB w a an root) (hn : 1 ≤ m) (hn2 : m ≤ 1048576) (hs : sz32 ls = true) :
    Calls Tryd.prog 17 #[.slice r rn rc, .int .i64 m, .slice a an ac, .int .i64 m, .slice p ls.length c] w fun e w' => e = .returned (.bool (decide (ls.length = 0) && decide (old = root))) ∧ Fr Nob w w' := by
  have h1 : ¬ (m : Int) < 1 := by omega
  have h2 : ¬ (1048576 : Int) < (m : Int) := by omega
  have HS := Lib.hid hs; clear hs hn2
  go_enter Tryd.func17, Tryd.ntmps17
  go_wp2_with fail
  refine (sized_any p c ls w hm hb).mono ?_
  rintro e w' ⟨rfl, rfl⟩
  rw [HS.out]
  by_cases h0 : ls.length = 0
  · have h0I : ((ls.length : Int) == 0) = true := by simp [h0]
    have H0 := Lib.hid h0
    go_wp2_with fail
    refine (equal_any _ _ _ old _ _ _ root w hr ha).mono ?_
    rintro e w' ⟨rfl, rfl⟩
    go_wp2_with fail
    go_ret
    exact ⟨ret_bool (by simp [H0.out]), Fr.refl _ _⟩
  · have q1 : ((ls.length : Int) == 0) = false := by simpa using h0
    have q2 : (ls.length == 0) = false := by simpa using h0
    have H0 := Lib.hid h0; clear h0 hm
    go_wp2_with fail
    go_ret
    exact ⟨ret_bool (by simp [H0.out]), Fr.refl _ _⟩
end Go.Proofs.YtgkakddldobpkaaDoor

/- tree.Grown, for m below n: the walk. -/
namespace Go.Proofs.YtgkakddldobpkaaDoor
open Go.RowKit Go.Mv Mvp Mvt
attribute [local irreducible] permS permP toB turnsK squeeze permN permB spongeB feed frameL framesL tagL leafL nodeL

/-- the growth, with what the old list has ahead of it where it is a whole part -/
def glist (old : List UInt8) (m : Nat) (ls : List (List UInt8)) : List (List UInt8) := if m &&& (m - 1) = 0 then old :: ls else ls
theorem size_sl : (Tryd.prog.info? 26).map (·.size) = some 1 := by kernel_rfl
theorem and_pred_i64 (m : Nat) (h1 : 1 ≤ m) (h2 : m ≤ 1048576) : bits BinOp.and IntKind.i64 (m : Int) ((m : Int) - 1) = ((m &&& (m - 1) : Nat) : Int) := by
  have := and_i64 m (m - 1) (by omega) (by omega)
  rw [← this]; congr 1; omega

set_option maxHeartbeats 8000000 in
set_option maxRecDepth 1000000 in
theorem grown_lt (r : Option Addr) (rn rc : Nat) (old : List UInt8) (m n : Nat) (a : Option Addr) (an ac : Nat) (root : List UInt8) (p : Option Addr) (c : Nat) (ls : List (List UInt8)) (w : World) (hm : ls.length ≤ 1000000) (hmc : ls.length ≤ c) (hb : PartsAt w p ls)
    (hr : PartIs w (.slice r rn rc) old) (ha : RdB w a an root) (hn : 1 ≤ m) (hmn : m < n) (hn2 : n ≤ 1048576) (hs : sz32 ls = true) :
    Calls Tryd.prog 17 #[.slice r rn rc, .int .i64 m, .slice a an ac, .int .i64 n, .slice p ls.length c] w fun e w' => e = .returned (.bool (grownL old root m n (glist old m ls))) ∧ Fr Nob w w' := by
  have h1 : ¬ (n : Int) < 1 := by omega
  have h2 : ¬ (1048576 : Int) < (n : Int) := by omega
  have h3 : ¬ (m : Int) < 1 := by omega
  have h4 : ¬ (n : Int) < (m : Int) := by omega
  have q1 : ((m : Int) == (n : Int)) = false := by simp; omega
  have q2 : (m == n) = false := by simp; omega
  have HS := Lib.hid hs
  have hand := and_pred_i64 m hn (by omega)
  clear hs
  go_enter Tryd.func17, Tryd.ntmps17
  go_wp2_with fail
  refine (sized_any p c ls w hm hb).mono ?_
  rintro e w' ⟨rfl, rfl⟩
  rw [HS.out]
  go_upto_if 53 with fail
  go_cut [4] (fun v wx => ∃ (a' : Option Addr) (c' : Nat) (gl : List (List UInt8)), v = .slice a' gl.length c' ∧ gl.length ≤ c' ∧ gl.length ≤ 1000001 ∧ PartsAt wx a' gl ∧ gl = glist old m ls ∧ Fr Nob w wx)
  case first =>
    by_cases hz : m &&& (m - 1) = 0
    · have hand0 : bits BinOp.and IntKind.i64 (m : Int) ((m : Int) - 1) = 0 := by rw [hand, hz]; rfl
      clear hand
      have HZ := Lib.hid hz
      go_wp2_with (with_reducible refine wl_stop (o := ⟨some 55, _, _, _, _, _⟩) ?_)
      refine wl_slit rfl rfl Tryd.underlying24 info_sl [.slice r rn rc] rfl (by simp; rfl) rfl rfl ?_
      intro w2 hh2 hf2 hz2
      clear hz2
      obtain ⟨vs, hrv0, hvv⟩ := hb
      have hrv := hrv0.still hf2
      have hgs : w.heap.size ≤ w2.heap.size := hf2.size
      have hown2 := Own.made hh2 w.heap.size (Nat.le_refl _) 1 1 1 (Nat.le_refl _) (by decide) (by simp)
      go_wp2_with (with_reducible refine wl_stop (o := ⟨some 57, _, _, _, _, _⟩) ?_)
      refine wl_append rfl rfl Tryd.underlying24 info_sl rfl (by decide) hown2 rfl rfl (by rw [Nat.mul_one]; exact hrv) (fun u hu => ?_) (by unfold maxLen; omega) (by omega) hgs ?_
      · obtain ⟨i, hi⟩ := List.getElem?_of_mem hu
        obtain ⟨l, _, ap, np, cp, rfl, _⟩ := hvv i u hi
        rfl
      intro v3 w3 hown3 hf3 hb3
      clear hb3
      have hfr3 : Fr Nob w w3 := hown2.fr hf2 (Nat.le_refl _) hf3
      go_wp2_with fail
      go_meet
      obtain ⟨a3, c3, rfl, hc3, hr3, -⟩ := hown3.form
      refine ⟨a3, c3, old :: ls, by rw [List.length_cons, Nat.add_comm], by rw [List.length_cons]; omega, by rw [List.length_cons]; omega, ⟨_, by rw [List.length_cons, Nat.add_comm]; rw [Nat.mul_one] at hr3; exact hr3, ?_⟩, by rw [glist, if_pos HZ.out], hfr3⟩
      intro i v hi
      cases i with
      | zero =>
        simp only [Nat.one_mul, List.take_succ_cons, List.take_zero, List.cons_append, List.nil_append, List.getElem?_cons_zero, Option.some.injEq] at hi
        subst hi
        exact ⟨old, rfl, hr.still hfr3⟩
      | succ i =>
        simp only [Nat.one_mul, List.take_succ_cons, List.take_zero, List.cons_append, List.nil_append, List.getElem?_cons_succ] at hi
        obtain ⟨l, hl, hp⟩ := hvv i v hi
        exact ⟨l, hl, hp.still hfr3⟩
    · have q3 : ((m &&& (m - 1) : Nat) == 0) = false := by simpa using hz
      have q4 : (((m &&& (m - 1) : Nat) : Int) == 0) = false := by simpa using hz
      have HZ := Lib.hid hz; clear hz
      go_wp2_with fail
      go_meet
      exact ⟨p, c, ls, rfl, hmc, by omega, hb, by rw [glist, if_neg HZ.out], Fr.refl _ _⟩
  case rest =>
  obtain ⟨a', c', gl, rfl, hc', hgl, hpa, hgle, hfx⟩ := hcut
  have HGLE := Lib.hid hgle
  have hr' := hr.still hfx
  have ha' := ha.still hfx
  clear hb hr ha hgle hand hm hmc HS q1 q2
  cases gl with
  | nil =>
    go_wp2_with fail
    go_ret
    exact ⟨ret_bool (by rw [← HGLE.out]; rfl), hfx⟩
  | cons g0 gt =>
    have q5 : (((gt.length : Nat) : Int) + 1 == 0) = false := by simp; omega
    have q3 : (((g0 :: gt).length : Nat) == 0) = false := rfl
    have q4 : ((((g0 :: gt).length : Nat) : Int) == 0) = false := by simp; omega
    have hlen : (g0 :: gt).length = gt.length + 1 := rfl
    rw [hlen] at hc' hgl q3 q4 ⊢
    clear hlen
    obtain ⟨m', rfl⟩ : ∃ m', m = m' + 1 := ⟨m - 1, by omega⟩
    obtain ⟨n', rfl⟩ : ∃ n', n = n' + 1 := ⟨n - 1, by omega⟩
    go_wp2_with (with_reducible refine wl_stop (o := ⟨some 67, _, _, _, _, _⟩) ?_)
    refine wl_buildL rfl rfl _ (built_clim m' n') ?_
    go_wp2_with (with_reducible refine wl_stop (o := ⟨some 11, _, _, _, _, _⟩) ?_)
    refine wl_alloc rfl rfl zero_clim [.int .u64 0, .int .u64 0] rfl ?_
    intro w1 hh1 hf1 hz1
    clear hz1
    go_wp2_with (with_reducible refine wl_stop (o := ⟨none, .store 62 _ _, _, _, _, _⟩) ?_)
    refine wl_storeA (cs := [.int .u64 (m' : Int), .int .u64 (n' : Int)]) rfl rfl rfl rfl hh1 (by simp) size_clim (by simp; exact ⟨rfl, rfl⟩) ?_
    intro w2 hh2 hf2 hz2
    have hf12 : Fr Nob wc w2 := hf1.new hf2 (Nat.le_refl _)
    have hcl : Clim w2 wc.heap.size m' n' := by simpa [splice, Clim] using hh2
    clear hh1 hh2 hf1 hf2 hz2
    generalize hgw : wc.heap.size = g at *
    have HG := Lib.hid hgw; clear hgw
    generalize hres : grow0 nodeL (m' + 1 - 1) (n' + 1 - 1) (g0 :: gt) = res
    have HRES := Lib.hid hres; clear hres
    have hm2 : m' ≤ 1048576 := by omega
    have hn3 : n' ≤ 1048576 := by omega
    clear h1 h2 h3 h4 hmn hn hn2
    go_wp2_with fail
    go_frame
    go_loopw [72] (fun _ wr => ∃ x y : Nat, x ≤ 1048576 ∧ y ≤ 1048576 ∧ Clim wr g x y ∧ strip x y = strip m' n' ∧ Fr Nob wc wr) (fun _ wr => (intOf ((wr.cell? ⟨g, 0, none⟩).getD undef)).toNat)
    case atStart => exact ⟨m', n', hm2, hn3, hcl, rfl, hf12⟩
    case round =>
      clear hcl hf12
      obtain ⟨x, y, hx, hy, hcx, hst, hfr⟩ := hrel
      have hc0 := Has.cell hcx (i := 0) rfl
      have HST := Lib.hid hst; clear hst
      by_cases hod : x % 2 = 1
      · have e1 : bits BinOp.and IntKind.u64 (x : Int) 1 = 1 := by rw [and1, hod]; rfl
        have hm1 : (intOf ((wr.cell? ⟨g, 0, none⟩).getD undef)).toNat = x := by rw [hc0]; simp [intOf]
        have HM := Lib.hid hm1; clear hm1
        have HOD := Lib.hid hod; clear hod
        go_wp2_with fail
        refine (up_any g x y wr hx hy hcx).mono ?_
        rintro e w4 ⟨rfl, hcl4, hf4⟩
        have hm2 : (intOf ((w4.cell? ⟨g, 0, none⟩).getD undef)).toNat = x / 2 := by
          have := Has.cell hcl4 (i := 0) rfl
          rw [this]; simp [intOf]; omega
        have HM2 := Lib.hid hm2; clear hm2 hc0 e1
        have hfr4 : Fr Nob wc w4 := hfr.new hf4 (by rw [HG.out]; exact Nat.le_refl _)
        clear hcx hfr hf4
        go_wp2_with fail
        go_roundw
        case rel => exact ⟨x / 2, y / 2, by omega, by omega, hcl4, by rw [← HST.out, strip_odd x y HOD.out], hfr4⟩
        case measure => rw [HM.out, HM2.out]; have := HOD.out; omega
      · have e1 : bits BinOp.and IntKind.u64 (x : Int) 1 = 0 := by rw [and1, show x % 2 = 0 by omega]; rfl
        have hst2 : strip m' n' = (x, y) := by rw [← HST.out, strip_even x y (by omega)]
        have HST2 := Lib.hid hst2; clear hst2 HST hod
        obtain ⟨b, o, v0, hv0, hcv, hp0⟩ := hpa.getF hfr (j := 0) (by simp)
        subst hv0
        have hcv0 : wr.cell? ⟨b, o, none⟩ = some v0 := hcv
        have hp0' : PartIs wc v0 g0 := hp0
        clear hcv hp0
        obtain ⟨a0, n0, c0, rfl, -⟩ := id hp0'
        have hpw0 := (POff.old hp0' (g := g) (by rw [HG.out]; exact Nat.le_refl _)).still hfr
        go_wp2_with fail
        go_quiet (fail)
        clear e1 hc0
        have hdq := (Fr.refl Nob wr).drewN nq
        have hcx4 : Clim (wr.drewN nq) g x y := Has.keep hcx hdq id
        have hfr4 := hfr.then hdq
        have hpw4 := hpw0.still hdq
        clear hcx hfr hp0' hpw0 hcv0 hdq
        generalize wr.drewN nq = w4 at *
        go_wp2_with (with_reducible refine wl_stop (o := ⟨some 80, _, _, _, _, _⟩) ?_)
        refine wl_cut rfl rfl Tryd.underlying24 size_sl rfl 1 (gt.length + 1) ⟨.i64, rfl⟩ rfl (by omega) hc' ?_
        have hpt : PartsAt wc (cutAt (some ⟨b, o, none⟩) 1 c') gt := hpa.tail c' hc'
        generalize cutAt (some (⟨b, o, none⟩ : Addr)) 1 c' = at1 at *
        rw [Nat.add_sub_cancel]
        have hl1 : gt.length ≤ c' - 1 := by omega
        have hgt : gt.length ≤ 1000000 := by omega
        have hcb : climbG (gL nodeL) (gR nodeL) x y (g0, g0) gt = res := by
          have h1 : (strip m' n').1 = x := by rw [HST2.out]
          have h2 : (strip m' n').2 = y := by rw [HST2.out]
          rw [← HRES.out, ← h1, ← h2]; rfl
        clear hpa q3 q4 q5 hc' hgl
        go_wp2_with fail
        go_loopw [82, 12, 13] (fun ix vw vi wr => ∃ (j x y : Nat) (hw hi : List UInt8), j ≤ gt.length ∧ ix = .int .i64 (j : Int) ∧ x ≤ 1048576 ∧ y ≤ 1048576 ∧ Clim wr g x y ∧ POff wr g vw hw ∧ POff wr g vi hi ∧ climbG (gL nodeL) (gR nodeL) x y (hw, hi) (gt.drop j) = res ∧ Fr Nob wc wr) (fun ix _ _ _ => (gt.length - intOf ix).toNat)
        case atStart => exact ⟨0, x, y, g0, g0, by omega, rfl, hx, hy, hcx4, hpw4, hpw4, hcb, hfr4⟩
        case round =>
          clear hcb hcx4 hpw4 hfr4 hx hy
          obtain ⟨j, x', y', hw, hi, hj, rfl, hx, hy, hcx, hpw, hpi, hcb, hfr⟩ := hrel
          have hgl := Has.lt hcx
          have hc1 := Has.cell hcx (i := 1) rfl
          obtain ⟨aw, nw, cw, rfl, -⟩ := id hpw
          obtain ⟨ai, ni, ci, rfl, -⟩ := id hpi
          have HPW := Lib.hid hpw; clear hpw
          have HPI := Lib.hid hpi; clear hpi
          by_cases hlt : j < gt.length
          · have hltI : (j : Int) < (gt.length : Int) := by omega
            obtain ⟨b1, o1, v, rfl, hc, hp⟩ := hpt.getF hfr hlt
            have hdr : gt.drop j = gt.getD j [] :: gt.drop (j + 1) := by
              rw [List.drop_eq_getElem_cons hlt]; simp [List.getD_eq_getElem?_getD, hlt]
            rw [hdr] at hcb
            have HCB := Lib.hid hcb; clear hcb hdr
            generalize gt.getD j [] = z at *
            obtain ⟨ax, nx, cx, rfl, -⟩ := id hp
            have hpz := (POff.old hp (g := g) (by rw [HG.out]; exact Nat.le_refl _)).still hfr
            have HPZ := Lib.hid hpz; clear hpz hp
            by_cases h0 : y' = 0
            · subst h0
              have hc1' : wr.cell? ⟨g, 1, none⟩ = some (.int .u64 0) := hc1
              clear hc1
              go_wp2_with fail
              go_ret
              refine ⟨ret_bool ?_, hfx.then hfr⟩
              unfold grownL
              rw [← HGLE.out, HRES.out, ← HCB.out]
              simp [climbG]
            · have hq1 : ((y' : Int) == 0) = false := by simpa using h0
              have hq2 : (y' == 0) = false := by simpa using h0
              by_cases hL : x' % 2 = 0 ∧ x' ≠ y'
              · have hcb2 : climbG (gL nodeL) (gR nodeL) (x' / 2) (y' / 2) (hw, nodeL hi z) (gt.drop (j + 1)) = res := by
                  have := HCB.out
                  simpa only [climbG, if_neg h0, if_pos hL, gL] using this
                have HCB2 := Lib.hid hcb2; clear hcb2 HCB
                have HL := Lib.hid hL; clear hL h0
                go_wp2_with fail
                refine (right_left g x' y' wr hx hy hcx HL.out).mono ?_
                rintro e4 w4 ⟨rfl, hf4⟩
                have hcl4 : Clim w4 g x' y' := Has.keep hcx hf4 id
                have hpw4 := HPW.out.still hf4
                have hpi4 := HPI.out.still hf4
                have hpz4 := HPZ.out.still hf4
                have hf4' := hfr.then hf4
                clear HL hcx HPW HPI HPZ hf4 hfr hc hc1
                go_wp2_with fail
                refine (node_any _ _ _ hi _ _ _ z w4 hpi4.part hpz4.part).mono ?_
                rintro e5 w5 ⟨v5, rfl, hown5, hf5⟩
                have hcl5 : Clim w5 g x' y' := Has.keep hcl4 hf5 id
                have hpi5 := POff.own hown5 (by decide) hcl5 (by decide)
                have hpw5 := hpw4.still hf5
                have hf5' := hf4'.then hf5
                clear hcl4 hpw4 hpi4 hpz4 hf5 hf4' hown5
                generalize nodeL hi z = yy at *
                go_wp2_with fail
                refine (up_any g x' y' w5 hx hy hcl5).mono ?_
                rintro e6 w6 ⟨rfl, hcl6, hf6⟩
                have hpi6 := hpi5.one hf6
                have hpw6 := hpw5.one hf6
                have hf6' : Fr Nob wc w6 := hf5'.new hf6 (by rw [HG.out]; exact Nat.le_refl _)
                clear hcl5 hpi5 hpw5 hf5' hf6
                go_wp2_with fail
                go_roundw
                case rel => exact ⟨j + 1, x' / 2, y' / 2, hw, yy, by omega, by go_num, by omega, by omega, hcl6, hpw6, hpi6, HCB2.out, hf6'⟩
                case measure => simp [intOf]; omega
              · have hcb2 : climbG (gL nodeL) (gR nodeL) ((skip x' y').1 / 2) ((skip x' y').2 / 2) (nodeL z hw, nodeL z hi) (gt.drop (j + 1)) = res := by
                  have := HCB.out
                  simpa only [climbG, if_neg h0, if_neg hL, gR] using this
                have hsk := skip_le x' y'
                have HCB2 := Lib.hid hcb2; clear hcb2 HCB
                have HL := Lib.hid hL; clear hL h0
                have HSK := Lib.hid hsk; clear hsk
                go_wp2_with fail
                refine (right_right g x' y' wr hx hy hcx HL.out).mono ?_
                rintro e4 w4 ⟨rfl, hcl4, hf4⟩
                have hpw4 := HPW.out.one hf4
                have hpi4 := HPI.out.one hf4
                have hpz4 := HPZ.out.one hf4
                have hf4' : Fr Nob wc w4 := hfr.new hf4 (by rw [HG.out]; exact Nat.le_refl _)
                have hsk := HSK.out
                clear HSK
                generalize (skip x' y').1 = a2 at *
                generalize (skip x' y').2 = e2 at *
                obtain ⟨hsk1, hsk2⟩ := hsk
                clear HL hcx HPW HPI HPZ hf4 hfr hc hc1
                go_wp2_with fail
                refine (node_any _ _ _ z _ _ _ hw w4 hpz4.part hpw4.part).mono ?_
                rintro e5 w5 ⟨v5, rfl, hown5, hf5⟩
                have hcl5 : Clim w5 g a2 e2 := Has.keep hcl4 hf5 id
                have hpw5 := POff.own hown5 (by decide) hcl5 (by decide)
                have hpi5 := hpi4.still hf5
                have hpz5 := hpz4.still hf5
                have hf5' := hf4'.then hf5
                obtain ⟨a5, c5, rfl, -⟩ := own_rd hown5
                clear hcl4 hpw4 hpi4 hpz4 hf5 hf4' hown5
                generalize nodeL z hw = y1 at *
                go_wp2_with fail
                refine (node_any _ _ _ z _ _ _ hi w5 hpz5.part hpi5.part).mono ?_
                rintro e6 w6 ⟨v6, rfl, hown6, hf6⟩
                have hcl6 : Clim w6 g a2 e2 := Has.keep hcl5 hf6 id
                have hpi6 := POff.own hown6 (by decide) hcl6 (by decide)
                have hpw6 := hpw5.still hf6
                have hf6' := hf5'.then hf6
                clear hcl5 hpw5 hpi5 hpz5 hf6 hf5' hown6
                generalize nodeL z hi = y2 at *
                go_wp2_with fail
                refine (up_any g a2 e2 w6 (by omega) (by omega) hcl6).mono ?_
                rintro e7 w7 ⟨rfl, hcl7, hf7⟩
                have hpi7 := hpi6.one hf7
                have hpw7 := hpw6.one hf7
                have hf7' : Fr Nob wc w7 := hf6'.new hf7 (by rw [HG.out]; exact Nat.le_refl _)
                clear hcl6 hpi6 hpw6 hf6' hf7
                go_wp2_with fail
                go_roundw
                case rel => exact ⟨j + 1, a2 / 2, e2 / 2, y1, y2, by omega, by go_num, by omega, by omega, hcl7, hpw7, hpi7, HCB2.out, hf7'⟩
                case measure => simp [intOf]; omega
          · have hge : ¬ ((j : Int) < (gt.length : Int)) := by omega
            rw [List.drop_eq_nil_of_le (by omega)] at hcb
            have HCB := Lib.hid hcb; clear hcb
            by_cases h0 : y' = 0
            · subst h0
              have hc1' : wr.cell? ⟨g, 1, none⟩ = some (.int .u64 0) := hc1
              obtain ⟨_, _, _, hv1, -, -, hrw, -⟩ := HPW.out
              cases hv1
              obtain ⟨_, _, _, hv1, -, -, hri, -⟩ := HPI.out
              cases hv1
              obtain ⟨_, _, _, hv1, -, -, hro, -⟩ := hr'.still hfr
              cases hv1
              have hra := ha'.still hfr
              have HRI := Lib.hid hri
              have HRA := Lib.hid hra
              clear hc1 hri hra
              go_wp2_with fail
              refine (equal_any _ _ _ hw _ _ _ old wr hrw hro).mono ?_
              rintro e2 w2 ⟨rfl, rfl⟩
              by_cases hwo : hw = old
              · rw [decide_eq_true hwo]
                go_wp2_with fail
                refine (equal_any _ _ _ hi _ _ _ root wr HRI.out HRA.out).mono ?_
                rintro e2 w2 ⟨rfl, rfl⟩
                go_wp2_with fail
                go_ret
                refine ⟨ret_bool ?_, hfx.then hfr⟩
                unfold grownL
                rw [← HGLE.out, HRES.out, ← HCB.out]
                simp [climbG, hwo]
              · rw [decide_eq_false hwo]
                have HWO := Lib.hid hwo; clear hwo
                go_wp2_with fail
                go_ret
                refine ⟨ret_bool ?_, hfx.then hfr⟩
                unfold grownL
                rw [← HGLE.out, HRES.out, ← HCB.out]
                simp [climbG, HWO.out]
            · have hq1 : ((y' : Int) == 0) = false := by simpa using h0
              have hq2 : (y' == 0) = false := by simpa using h0
              have H0 := Lib.hid h0; clear h0
              go_wp2_with fail
              go_ret
              refine ⟨ret_bool ?_, hfx.then hfr⟩
              unfold grownL
              rw [← HGLE.out, HRES.out, ← HCB.out]
              simp [climbG, H0.out]
end Go.Proofs.YtgkakddldobpkaaDoor
